/- XR: bitmap.bits, an iterator. -/
import Derived.RangeFuncBox
import Derived.RangeFuncNested
import Derived.RangeFuncLeaves
import Derived.OwnWalkIn
import Derived.TacticsInMore
import Derived.LoopNIn
import Derived.LoopIn
import Derived.Test.YtbafhmhjkoelnaaGreatDoorK3
namespace Go.Proofs.YtbafhmhjkoelnaaGreatDoor
open Go.RowKit Go.Shelf
attribute [local go_sem] Oper.semAt_some

def bitOn (s : List UInt8) (n : Int) : Bool := ((s.getD (octN n) 0 &&& maskN n) != 0)
/-- The bits that are 1 among the first k. -/
def bitsTo (s : List UInt8) (k : Nat) : List Int := ((List.range k).map fun i => ((i + 1 : Nat) : Int)).filter (bitOn s)
theorem bitsTo_succ (s : List UInt8) (k : Nat) : bitsTo s (k + 1) = if bitOn s ((k + 1 : Nat) : Int) then bitsTo s k ++ [((k + 1 : Nat) : Int)] else bitsTo s k := by
  unfold bitsTo
  rw [List.range_succ, List.map_append, List.filter_append]
  simp only [List.map_cons, List.map_nil, List.filter_cons, List.filter_nil]
  split <;> simp
theorem bitsTo_len (s : List UInt8) (k : Nat) : (bitsTo s k).length ≤ k := by
  unfold bitsTo; exact Nat.le_trans (List.length_filter_le _ _) (by simp)
theorem and_mask (a : UInt8) (n : Int) : Go.bits .and .u8 (a.toNat : Int) ((maskN n).toNat : Int) = ((a &&& maskN n).toNat : Int) := by
  have h : ∀ (a : Fin 256) (r : Fin 8), Go.bits .and .u8 ((a.val : Nat) : Int) (((UInt8.ofNat (2 ^ r.val)).toNat : Nat) : Int) = ((a.val &&& (UInt8.ofNat (2 ^ r.val)).toNat : Nat) : Int) := by decide +kernel
  have := h ⟨a.toNat, a.toNat_lt⟩ ⟨7 - (n.toNat - 1) % 8, by omega⟩
  rw [UInt8.toNat_and]; exact this
theorem drewN_grown (w : World) (k : Nat) : w.grownBy (w.drewN k) none := ⟨rfl, rfl, rfl, Nat.le_refl _, fun _ _ _ => rfl⟩

/-- The iterator's own variable stays. -/
def KeepAt (B : Nat) (W W' : World) : Prop := W'.cell? ⟨B, 0, none⟩ = W.cell? ⟨B, 0, none⟩
theorem keepAt_t {B : Nat} {X Y Z : World} (h : KeepAt B X Y) (k : KeepAt B Y Z) : KeepAt B X Z := Eq.trans k h
theorem keepAt_b {B : Nat} {w : World} (hB : B < w.heap.size) (W : World) (l : Nat) (o o' : Obj) (hl : w.heap.size ≤ l) (_ : W.heap[l]? = some o) (_ : o.isCells = false) (_ : o.isWalk = false) : KeepAt B W (W.putObj l o') :=
  (Below.refl (B + 1) W).grown (grownBy_putObj' W l o') (by have := (Array.getElem?_eq_some_iff.1 ‹_›).1; omega) (fun k e => by cases e; omega) |>.cell (p := ⟨B, 0, none⟩) (by show B < B + 1; omega)
set_option maxRecDepth 100000 in
set_option maxHeartbeats 2000000 in
theorem bits1_in (n l Bn : Nat) (hn : 1 ≤ n) (s : ByteArray) (hs : s.size ≤ 100) (J Jx : List Int → World → Prop) (W : World) (hJ : AbidesFrom W.heap.size J)
    (hY : ∀ pre x W, J pre W → pre.length < 8 * s.size → YieldAt Fence.wide (n - 1) Tryz.prog l #[.int .i64 x] W fun e W' =>
      (e = .returned (.bool true) ∧ J (pre ++ [x]) W' ∧ KeepAt Bn W W') ∨ (e = .returned (.bool false) ∧ Jx (pre ++ [x]) W'))
    (hBn : W.cell? ⟨Bn, 0, none⟩ = some (.string s)) (h0 : J [] W) :
    CallsIn Fence.wide n Tryz.prog 45 #[.func (.yield l) #[] #[], .pointer (some ⟨Bn, 0, none⟩)] W fun e W' => (∃ v, e = .returned v) ∧
      ((∃ ys, ys = bitsTo s.data.toList (8 * s.size) ∧ J ys W') ∨ (∃ pre, True ∧ Jx pre W')) := by
  refine callsIn_of_wp Tryz.func45 rfl trivial ?_ rfl
  simp only [Tryz.ntmps45, List.size_toArray, List.length_cons, List.length_nil, Nat.reduceAdd, Nat.reduceSub, Array.replicate_succ, Array.replicate_zero, List.push_toArray, List.append_toArray, List.nil_append, List.cons_append]
  have HY := Lib.hid hY
  have hf41 : Fence.wide.fn 41 := trivial
  have HJ := Lib.hid hJ
  clear hY hJ
  gi_wp2
  gi_loopw [3] (fun s3 wr => ∃ (k : Nat) (x : Int), Hid (x = ((k + 1 : Nat) : Int)) ∧ 1 ≤ x ∧ x ≤ 8 * (s.size : Int) + 1 ∧ s3 = .int .i64 x ∧ Aside (J (bitsTo s.data.toList k) wr) ∧ Aside (wr.cell? ⟨Bn, 0, none⟩ = some (.string s))) (fun s3 _ => 8 * s.size + 1 - (intOf s3).toNat)
  case atStart => exact ⟨0, 1, rfl, by omega, by omega, rfl, h0, hBn⟩
  case round =>
    obtain ⟨k, x, HX, hx1, hx2, rfl, HJs, HB⟩ := hrel
    have c0 := HB.out
    have HBIT := Lib.hid (bitsTo_succ s.data.toList k)
    clear h0 hBn
    by_cases hlt : x ≤ 8 * (s.size : Int)
    · have hq : octN x < s.size := by unfold octN; omega
      have hB := fun W => bit_int x hx1 (by omega) W
      have hand := and_mask (s[octN x]'hq) x
      have hbo : bitOn s.data.toList x = ((s[octN x]'hq &&& maskN x) != 0) := by unfold bitOn; rw [List.getD_eq_getElem?_getD, List.getElem?_eq_getElem (by rw [Array.length_toList]; exact hq)]; rfl
      have hkey : (Go.bits .and .u8 ((s[octN x]'hq).toNat : Int) ((maskN x).toNat : Int) != 0) = bitOn s.data.toList x := by
        rw [hand, hbo]
        generalize s[octN x]'hq &&& maskN x = z
        rw [Bool.eq_iff_iff]
        simp only [bne_iff_ne, ne_eq]
        constructor
        · intro h e; apply h; rw [e]; rfl
        · intro h e; apply h; exact UInt8.toNat_inj.1 (by simpa using e)
      obtain ⟨q, mk, hq', hmk9, hBq, hkq⟩ : ∃ (q mk : Nat) (hq : q < s.size), mk < 256 ∧ (∀ W, Calls Tryz.prog 41 #[.int .i64 x] W fun e w' => e = .returned (.tuple #[.int .i64 (q : Nat), .int .u8 ((mk : Nat) : Int)]) ∧ ∃ k, w' = W.drewN k) ∧ (Go.bits .and .u8 ((s[q]'hq).toNat : Int) (mk : Int) != 0) = bitOn s.data.toList x := ⟨octN x, (maskN x).toNat, hq, (maskN x).toNat_lt, hB, hkey⟩
      have HKEY := Lib.hid hkq
      have HB2 := Lib.hid hBq
      have hqz : (q : Int) < (s.size : Int) := by omega
      have hlen : Hid ((bitsTo s.data.toList k).length < 8 * s.size) := by have := bitsTo_len s.data.toList k; have h2 := HX.out; show _ < _; omega
      clear hB hand hbo hkey hkq hBq hq
      gi_wp2_with (gi_at_call 41; refine (callsIn_wide.2 (HB2.out _)).mono ?_; rintro e w' ⟨rfl, nd, rfl⟩; obtain ⟨fn, tmps, assign, body, hy, hR⟩ := HY.out (bitsTo s.data.toList k) x (wr.drewN nd) (HJ.out _ _ _ none HJs.out (drewN_grown _ _) (fun r e => by cases e)) hlen.out; have hRR := Lib.hid hR; clear hR)
      · have hon : (Go.bits .and .u8 ((s[q]'hq').toNat : Int) (mk : Int) != 0) = false := by have h0 : Go.bits .and .u8 ((s[q]'hq').toNat : Int) (mk : Int) = 0 := (by assumption); rw [h0]; rfl
        have HON : Hid (bitsTo s.data.toList (k + 1) = bitsTo s.data.toList k) := by show _ = _; rw [HBIT.out, ← HX.out, if_neg (by rw [← HKEY.out, hon]; decide)]
        refine ⟨fun _ h => (by cases h), ?_⟩
        gi_wp2
        go_roundw
        case rel => exact ⟨k + 1, x + 1, by show _ = _; have := HX.out; omega, by omega, by omega, rfl, by rw [HON.out]; exact HJ.out _ _ _ none HJs.out (drewN_grown _ _) (fun r e => by cases e), HB.out⟩
        case measure => simp [intOf]; omega
      · have hon : (Go.bits .and .u8 ((s[q]'hq').toNat : Int) (mk : Int) != 0) = true := by have h0 : ¬ Go.bits .and .u8 ((s[q]'hq').toNat : Int) (mk : Int) = 0 := (by assumption); exact bne_iff_ne.2 h0
        have HON : Hid (bitsTo s.data.toList (k + 1) = bitsTo s.data.toList k ++ [x]) := by show _ = _; rw [HBIT.out, ← HX.out, if_pos (by rw [← HKEY.out]; exact hon)]
        refine hRR.out.mono ?_
        rintro e W3 (⟨rfl, hJ3, hk3⟩ | ⟨rfl, hJx3⟩)
        · gi_wp2
          go_roundw
          case rel => exact ⟨k + 1, x + 1, by show _ = _; have := HX.out; omega, by omega, by omega, rfl, by rw [HON.out]; exact hJ3, hk3.trans HB.out⟩
          case measure => simp [intOf]; omega
        · gi_wp2
          refine bodyPost_ret (results_none rfl _ _ _) rfl ?_
          exact ⟨⟨_, rfl⟩, .inr (by first | exact ⟨_, trivial, hJx3⟩ | exact ⟨_, hJx3⟩)⟩
    · have hxk : Hid (k = 8 * s.size) := by have := HX.out; show _ = _; omega
      gi_wp2
      go_end0
      exact ⟨⟨_, rfl⟩, .inl (by rw [← hxk.out]; first | exact ⟨_, rfl, HJs.out⟩ | exact HJs.out)⟩

theorem bits_in (s : ByteArray) (w : World) : Calls Tryz.prog 35 #[.string s] w fun e w' => e = .returned (.func (.func 45) #[] #[.pointer (some ⟨w.heap.size, 0, none⟩)]) ∧ w' = w.alloc (.cells #[.string s] 9) := by
  go_enter Tryz.func35, Tryz.ntmps35
  go_wp2
  go_ret
  exact ⟨rfl, rfl⟩
theorem bits_stops (n Bn : Nat) (hn : 1 ≤ n) (s : ByteArray) (hs : s.size ≤ 100) (w : World) (hb : Bn < w.heap.size) (hc : w.cell? ⟨Bn, 0, none⟩ = some (.string s)) :
    SeqStopsK Fence.wide n Tryz.prog 45 #[.pointer (some ⟨Bn, 0, none⟩)] (fun x : Int => #[Value.int .i64 x]) (KeepAt Bn) (fun ys => ys = bitsTo s.data.toList (8 * s.size)) (fun _ => True) (8 * s.size) w := fun l J Jx W hW hJ _ hY h0 =>
  bits1_in n l Bn hn s hs J Jx W hJ hY ((hW.cell (p := ⟨Bn, 0, none⟩) hb).trans hc) h0
end Go.Proofs.YtbafhmhjkoelnaaGreatDoor
