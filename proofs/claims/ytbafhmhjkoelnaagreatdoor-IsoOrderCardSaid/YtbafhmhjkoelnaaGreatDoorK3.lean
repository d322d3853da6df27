/- XK3: bitmap.Map. -/
import Derived.Test.YtbafhmhjkoelnaaGreatDoorK2
import Derived.Maps.AppendAt
namespace Go.Proofs.YtbafhmhjkoelnaaGreatDoor
open Go.RowKit

def enc8 (b : UInt8) : List Value := [.int .u8 b.toNat]
theorem enc8_len (x : UInt8) : (enc8 x).length = 1 := rfl
theorem enc8_one (x : UInt8) : ∀ u ∈ enc8 x, u.oneCell' = true := by simp [enc8, Value.oneCell']
theorem info8 : (Tryz.prog.info? 5).map (fun i => (i.zero, i.size, i.bytes)) = some (some (.int .u8 0), 1, 1) := by kernel_rfl
def maskN (n : Int) : UInt8 := UInt8.ofNat (2 ^ (7 - (n.toNat - 1) % 8))
def octN (n : Int) : Nat := (n.toNat - 1) / 8
def orAt (b : List UInt8) (n : Int) : List UInt8 := b.set (octN n) (b.getD (octN n) 0 ||| maskN n)
def map0 (l : List Int) : List UInt8 := if 64 < l.getLastD 0 then 128 :: List.replicate 15 0 else List.replicate 8 0
def mapL (l : List Int) : List UInt8 := l.foldl orAt (map0 l)
theorem bit_int (n : Int) (h1 : 1 ≤ n) (h2 : n ≤ 10000) (w : World) : Calls Tryz.prog 41 #[.int .i64 n] w fun e w' => e = .returned (.tuple #[.int .i64 (octN n : Nat), .int .u8 ((maskN n).toNat : Nat)]) ∧ ∃ k, w' = w.drewN k := by
  have hr : (n.toNat - 1) % 8 < 8 := Nat.mod_lt _ (by omega)
  have := bit_any ((n.toNat - 1) / 8) ((n.toNat - 1) % 8) hr (by omega) w
  rw [show ((8 * ((n.toNat - 1) / 8) + (n.toNat - 1) % 8 + 1 : Nat) : Int) = n by omega] at this
  have e : (maskN n).toNat = 2 ^ (7 - (n.toNat - 1) % 8) := by
    unfold maskN
    generalize (n.toNat - 1) % 8 = r at hr
    obtain rfl | rfl | rfl | rfl | rfl | rfl | rfl | rfl : r = 0 ∨ r = 1 ∨ r = 2 ∨ r = 3 ∨ r = 4 ∨ r = 5 ∨ r = 6 ∨ r = 7 := by omega
    all_goals rfl
  rw [e]
  exact this
theorem or_mask (a : UInt8) (n : Int) : Go.bits .or .u8 (a.toNat : Int) ((maskN n).toNat : Int) = ((a ||| maskN n).toNat : Int) := by
  have h : ∀ (a : Fin 256) (r : Fin 8), Go.bits .or .u8 ((a.val : Nat) : Int) (((UInt8.ofNat (2 ^ r.val)).toNat : Nat) : Int) = ((a.val ||| (UInt8.ofNat (2 ^ r.val)).toNat : Nat) : Int) := by decide +kernel
  have hr : (n.toNat - 1) % 8 < 8 := Nat.mod_lt _ (by omega)
  have := h ⟨a.toNat, a.toNat_lt⟩ ⟨7 - (n.toNat - 1) % 8, by omega⟩
  rw [UInt8.toNat_or]; exact this
theorem ofE_range (n : Int) (h : ofE n = 0) : 2 ≤ n ∧ n ≤ 128 := by
  unfold ofE at h
  split at h
  · cases h
  · rename_i hne
    unfold specAt at hne
    split at hne
    · rename_i hr
      have h0 : specTab.getD 0 noSpec = noSpec := by decide +kernel
      have h1 : specTab.getD 1 noSpec = noSpec := by decide +kernel
      refine ⟨?_, hr.2⟩
      by_cases c0 : n = 0
      · subst c0; exact absurd h0 hne
      · by_cases c1 : n = 1
        · subst c1; exact absurd h1 hne
        · omega
    · exact absurd rfl hne
theorem rise_le (l : List Int) (h : ∀ i, i < l.length → mayAt l i) (i j : Nat) (hij : i ≤ j) (hj : j < l.length) : l.getD i 0 ≤ l.getD j 0 := by
  induction j with
  | zero => obtain rfl : i = 0 := by omega
            exact Int.le_refl _
  | succ j ih =>
    by_cases e : i = j + 1
    · subst e; exact Int.le_refl _
    · have := ih (by omega) (by omega)
      have h2 := (h (j + 1) hj).2 (by omega)
      rw [Nat.add_sub_cancel] at h2
      omega
theorem mayL_bd (l : List Int) (h : mayL l = true) (k : Nat) (x : Int) (hx : l[k]? = some x) : 2 ≤ x ∧ x ≤ 128 ∧ x ≤ l.getLastD 0 := by
  have hh := of_decide_eq_true h
  have hk := (List.getElem?_eq_some_iff.1 hx).1
  obtain ⟨a, b⟩ := ofE_range x (by have := (hh k hk).1; rwa [getD_at l 0 k x hx] at this)
  refine ⟨a, b, ?_⟩
  have := rise_le l hh k (l.length - 1) (by omega) (by omega)
  rw [getD_at l 0 k x hx] at this
  have e : l.getLastD 0 = l.getD (l.length - 1) 0 := by
    rw [List.getLastD_eq_getLast?, List.getLast?_eq_getElem?, List.getD_eq_getElem?_getD]
  rw [e]; exact this
theorem orAt_len (b : List UInt8) (n : Int) : (orAt b n).length = b.length := by unfold orAt; rw [List.length_set]
theorem fold_len (l : List Int) (b : List UInt8) : (l.foldl orAt b).length = b.length := by
  induction l generalizing b with
  | nil => rfl
  | cons n r ih => rw [List.foldl_cons, ih, orAt_len]

theorem bytes_back (l : List UInt8) : (l.map fun b => (b.toNat : Int)).map (fun n => UInt8.ofNat n.toNat) = l := by
  rw [List.map_map]
  have : ((fun n : Int => UInt8.ofNat n.toNat) ∘ fun b : UInt8 => (b.toNat : Int)) = id := by funext b; simp
  rw [this, List.map_id]
theorem map_loop_spec (l : List Int) (k : Nat) (x : Int) (h : l[k]? = some x) (b : List UInt8) : (l.take (k + 1)).foldl orAt b = orAt ((l.take k).foldl orAt b) x := by
  rw [take_snoc l k x h, List.foldl_append]; rfl

abbrev oct0 : Obj := .cells #[.int .u8 0, .int .u8 0, .int .u8 0, .int .u8 0, .int .u8 0, .int .u8 0, .int .u8 0, .int .u8 0] 5
theorem row0 (W : World) : Row enc8 5 (W.alloc oct0) W.heap.size (List.replicate 8 0) [] := by unfold Row; rw [heap_alloc_new]; rfl
theorem rd0 (W : World) : Rd enc8 1 (W.alloc oct0) (.slice (some ⟨W.heap.size, 0, none⟩) 8 8) (List.replicate 8 0) := (row0 W).rd enc8_len (c := 8) (by decide) (by decide)
theorem own0 (W : World) : Own enc8 1 5 W.heap.size (W.alloc oct0) (.slice (some ⟨W.heap.size, 0, none⟩) 8 8) (List.replicate 8 0) := (row0 W).own enc8_len (c := 8) (Nat.le_refl _) (by decide) (by decide) (by decide)
theorem row_store8 {w : World} {g : Nat} {Z : List UInt8} {tl : List Value} (h : Row enc8 5 w g Z tl) (i : Nat) (hi : i < Z.length) (x : UInt8) : Row enc8 5 (w.setCell ⟨g, i, none⟩ (.int .u8 x.toNat)) g (Z.set i x) tl := by
  have := blk_set h i (.int .u8 x.toNat)
  unfold Row
  rw [this, ← row_set enc8_len Z tl i hi x]
  congr 3
  simp [enc8, setAll]
set_option maxRecDepth 100000 in
set_option maxHeartbeats 4000000 in
theorem bitmap_Map (v : Value) (l : List Int) (w : World) (hr : Rd encI 1 w v l) (hG : G w) :
    Calls Tryz.prog 30 #[v] w fun e w' => e = .returned (.tuple #[.string ⟨(if mayL l then mapL l else []).toArray⟩, .int .i64 (if mayL l then 0 else 1)]) ∧ Below w.heap.size w w' := by
  obtain ⟨A, c, rfl, hlc, hmax, hcells⟩ := id hr
  have hlen : l.length ≤ 9223372036854775807 := by omega
  have hM := bitmap_may _ l w hr hG
  clear hcells hmax hG
  have HR := Lib.hid hr
  clear hr
  have hmk : ∀ w, (Instr.makeSlice 76 (.int .i64 8) (.int .i64 8)).run Tryz.prog w = .ok (.slice (some ⟨w.heap.size, 0, none⟩) 8 8) (w.alloc (.cells #[.int .u8 0, .int .u8 0, .int .u8 0, .int .u8 0, .int .u8 0, .int .u8 0, .int .u8 0, .int .u8 0] 5)) := fun _ => by kernel_rfl
  cases hml : mayL l with
  | false =>
    rw [hml] at hM
    clear hml
    go_enter Tryz.func30, Tryz.ntmps30
    go_wp2_with (go_at_call 40; refine hM.mono ?_; rintro e w1 ⟨rfl, hb1⟩)
    go_ret2
    exact ⟨rfl, hb1⟩
  | true =>
    rw [hml] at hM
    have HML := Lib.hid hml
    clear hml
    simp only [if_true]
    have HBD : Hid (∀ (k : Nat) (x : Int), l[k]? = some x → 2 ≤ x ∧ x ≤ 128 ∧ x ≤ l.getLastD 0) := fun k x hx => mayL_bd l HML.out k x hx
    have hlast : 0 < l.length → ∃ b off y, A = some ⟨b, off, none⟩ ∧ b < w.heap.size ∧ y = l.getLastD 0 ∧ w.cell? ⟨b, off + (l.length - 1), none⟩ = some (.int .i64 y) := fun h => by
      obtain ⟨b, off, y, e, hb, hy, c0⟩ := rd_int HR.out (Below.refl _ w) (by omega : l.length - 1 < l.length)
      exact ⟨b, off, y, e, hb, by rw [List.getLastD_eq_getLast?, List.getLast?_eq_getElem?, hy]; rfl, c0⟩
    have key : (64 < l.getLastD 0 ∧ 0 < l.length) ∨ (¬ 64 < l.getLastD 0 ∧ 0 < l.length) ∨ (l.length = 0) := by
      by_cases h : l.length = 0
      · exact .inr (.inr h)
      · by_cases h2 : 64 < l.getLastD 0
        · exact .inl ⟨h2, by omega⟩
        · exact .inr (.inl ⟨h2, by omega⟩)
    rcases key with ⟨h64, h0⟩ | ⟨h64, h0⟩ | h0
    · obtain ⟨b, off, y, rfl, hb, hy, c0⟩ := hlast h0
      have HS : Hid (mapL l = l.foldl orAt (128 :: List.replicate 15 0)) := by show _ = _; unfold mapL map0; rw [if_pos h64]
      have HQ : Hid (∀ (k : Nat) (x : Int), l[k]? = some x → 2 ≤ x ∧ x ≤ 128 ∧ octN x < 16) := fun k x hx => by have := HBD.out k x hx; unfold octN; omega
      rw [← hy] at h64
      have h0z : (0 : Int) < (l.length : Int) := by omega
      clear hlast hy
      go_enter Tryz.func30, Tryz.ntmps30
      go_wp2_with (first
        | (go_at_call 40; refine hM.mono ?_; rintro e w1 ⟨rfl, hb1⟩; obtain ⟨hc1, hf1⟩ := bcell hb1; have hbw1 : b < w1.heap.size := by have := hb1.size; omega)
        | (at_builtin; refine wp_appendRd enc8 1 enc8_len enc8_one (w0 := w1) w1.heap.size rfl _ _ 76 5 (.int .u8 0) 1 rfl Tryz.underlying76 info8 rfl (by decide) _ (List.replicate 8 0) (List.replicate 8 0) rfl ⟨w1.heap.size, 0, none⟩ _ _ rfl (rd0 w1) (own0 w1) (alloc1 _ _) (by simp) (by decide) (by decide) ?_; intro v1 w2 ho1 hb2 hg1; obtain ⟨g, cp, tl, rfl, hg, hnc, hcm, hR⟩ := ho1.row' enc8_len (by decide); have hx0 : w2.cell? ⟨g, 0, none⟩ = some (.int .u8 0) := hR.at enc8_len (j := 0) (x := 0) rfl (i := 0) rfl; have hxf := blk_frozen hR; have hgl := hR.lt; have HRW := Lib.hid hR; clear hR))
      obtain ⟨W2, hW2⟩ : ∃ W2, W2 = w2.setCell ⟨g, 0, none⟩ (.int .u8 128) := ⟨_, rfl⟩
      have RW : Aside (Row enc8 5 W2 g (128 :: List.replicate 15 0) tl) := by rw [hW2]; exact row_store8 HRW.out 0 (by decide) 128
      have BW : Aside (Below w.heap.size w W2) := by rw [hW2]; exact (hb1.trans (hb2.mono hb1.size)).setCell (by have := hb1.size; show _ ≤ g; omega) _
      rw [← hW2]
      obtain ⟨B0, hB0⟩ : ∃ B0 : List UInt8, B0 = 128 :: List.replicate 15 0 := ⟨_, rfl⟩
      have HL : Hid (B0.length = 16) := by show _ = _; rw [hB0]; rfl
      have hgw : w.heap.size ≤ g := by have := hb1.size; omega
      have hnc' : 16 ≤ cp := hnc
      rw [← hB0] at RW HS
      clear hW2 hB0 hx0 hxf hgl HRW hb1 hb2 ho1 hg1 hf1 hc1 hM c0 hg hnc
      go_loopw [32] (fun s32 wr => ∃ kk : Nat, kk ≤ l.length ∧ s32 = .int .i64 kk ∧ Aside (Row enc8 5 wr g ((l.take kk).foldl orAt B0) tl) ∧ Aside (Below w.heap.size w wr)) (fun s32 _ => l.length - (intOf s32).toNat)
      case atStart => exact ⟨0, Nat.zero_le _, rfl, RW, BW⟩
      case round =>
        obtain ⟨kk, hk, rfl, HRo, HB⟩ := hrel
        clear RW BW
        by_cases hlt : kk < l.length
        · have hltz : (kk : Int) < (l.length : Int) := by omega
          obtain ⟨b, off, x, hA, hb, hx, c0⟩ := rd_int HR.out HB.out hlt
          cases hA
          obtain ⟨q1, q2, q3⟩ := HQ.out kk x hx
          have hF : Hid ((l.take (kk + 1)).foldl orAt B0 = orAt ((l.take kk).foldl orAt B0) x) := map_loop_spec l kk x hx B0
          have hlen2 : ((l.take kk).foldl orAt B0).length = 16 := by rw [fold_len]; exact HL.out
          obtain ⟨Z, hZ⟩ : ∃ Z, Z = (l.take kk).foldl orAt B0 := ⟨_, rfl⟩
          rw [← hZ] at hlen2 hF HRo
          have hq3 : octN x < Z.length := by rw [hlen2]; exact q3
          obtain ⟨u, hu⟩ : ∃ u, Z[octN x]? = some u := ⟨_, List.getElem?_eq_getElem hq3⟩
          have e0 : wr.cell? ⟨g, octN x, none⟩ = some (.int .u8 u.toNat) := by have := HRo.out.at enc8_len hu (i := 0) rfl; simpa using this
          have ef := blk_frozen HRo.out
          have hgl := HRo.out.lt
          have hO : Hid (orAt Z x = Z.set (octN x) (u ||| maskN x)) := by show _ = _; unfold orAt; rw [getD_at Z 0 _ u hu]
          have HQ3 := Lib.hid hq3
          have hor := or_mask u x
          have hB := fun W => bit_int x (by omega) (by omega) W
          have hqz : ((octN x : Nat) : Int) < (16 : Int) := by omega
          obtain ⟨q, hq⟩ : ∃ q, q = octN x := ⟨_, rfl⟩
          obtain ⟨mk, hmk'⟩ : ∃ mk, mk = (maskN x).toNat := ⟨_, rfl⟩
          rw [← hq] at e0 hB hqz
          rw [← hmk'] at hB hor
          have HQQ := Lib.hid hq
          have HB2 := Lib.hid hB
          have hmk9 : mk < 256 := by rw [hmk']; exact (maskN x).toNat_lt
          clear hx hZ hlen2 hu hB hq hmk' hq3
          go_wp2_with (go_at_call 41; refine (HB2.out _).mono ?_; rintro e w5 ⟨rfl, nd, rfl⟩)
          go_roundw
          case measure => simp [intOf]; omega
          case rel => exact ⟨kk + 1, by omega, by go_num, by rw [hF.out, hO.out, HQQ.out]; have h7 := row_store8 (w := wr.drewN nd) HRo.out (octN x) HQ3.out (u ||| maskN x); rw [UInt8.toNat_or] at h7; exact h7, (below_drewN HB.out nd).setCell (by omega) _⟩
        · have hltz : ¬ (kk : Int) < (l.length : Int) := by omega
          have hF : Hid ((l.take kk).foldl orAt B0 = mapL l) := by show _ = _; rw [HS.out, List.take_of_length_le (by omega)]
          rw [hF.out] at HRo
          have hln : Hid ((mapL l).length = 16) := by show _ = _; rw [← hF.out, fold_len]; exact HL.out
          have hconv : (convert 76 9 (.slice (some ⟨g, 0, none⟩) 16 cp)).run Tryz.prog wr = .ok (.string ⟨(mapL l).toArray⟩) wr := by
            have h := run_bytes_int (P := Tryz.prog) wr 76 9 5 Tryz.underlying76 Tryz.underlying5 Tryz.underlying9 ⟨g, 0, none⟩ 16 cp ((mapL l).map fun b => (b.toNat : Int)) (by rw [List.length_map, hln.out]) (fun j b hj => by
              rw [List.getElem?_map] at hj
              cases hb : (mapL l)[j]? with
              | none => rw [hb] at hj; cases hj
              | some y => rw [hb] at hj; cases hj; rw [Addr.add_lit, Nat.zero_add]; have := HRo.out.at enc8_len hb (i := 0) rfl; simpa using this)
            rw [h, bytes_back]
          go_wp2
          go_ret2
          exact ⟨rfl, HB.out⟩
    · obtain ⟨b, off, y, rfl, hb, hy, c0⟩ := hlast h0
      have HS : Hid (mapL l = l.foldl orAt (List.replicate 8 0)) := by show _ = _; unfold mapL map0; rw [if_neg h64]
      have HQ : Hid (∀ (k : Nat) (x : Int), l[k]? = some x → 2 ≤ x ∧ x ≤ 128 ∧ octN x < 8) := fun k x hx => by have := HBD.out k x hx; unfold octN; omega
      rw [← hy] at h64
      have h0z : (0 : Int) < (l.length : Int) := by omega
      clear hlast hy
      go_enter Tryz.func30, Tryz.ntmps30
      go_wp2_with (go_at_call 40; refine hM.mono ?_; rintro e w1 ⟨rfl, hb1⟩; obtain ⟨hc1, hf1⟩ := bcell hb1; have hbw1 : b < w1.heap.size := by have := hb1.size; omega)
      clear hc1 hf1 hbw1 c0
      obtain ⟨W2, hW2⟩ : ∃ W2, W2 = w1.alloc oct0 := ⟨_, rfl⟩
      have RW : Aside (Row enc8 5 W2 w1.heap.size (List.replicate 8 0) []) := by rw [hW2]; exact row0 w1
      have BW : Aside (Below w.heap.size w W2) := by rw [hW2]; exact hb1.alloc hb1.size _
      rw [← hW2]
      obtain ⟨g, hg⟩ : ∃ g : Nat, g = w1.heap.size := ⟨_, rfl⟩
      obtain ⟨tl, htl⟩ : ∃ tl : List Value, tl = [] := ⟨_, rfl⟩
      obtain ⟨B0, hB0⟩ : ∃ B0 : List UInt8, B0 = List.replicate 8 0 := ⟨_, rfl⟩
      have hgw : w.heap.size ≤ g := by have := hb1.size; omega
      rw [← hB0] at RW HS
      rw [← hg, ← htl] at RW
      rw [← hg]
      have HL : Hid (B0.length = 8) := by show _ = _; rw [hB0]; rfl
      clear hW2 hg htl hB0 hb1 hM
      go_loopw [32] (fun s32 wr => ∃ kk : Nat, kk ≤ l.length ∧ s32 = .int .i64 kk ∧ Aside (Row enc8 5 wr g ((l.take kk).foldl orAt B0) tl) ∧ Aside (Below w.heap.size w wr)) (fun s32 _ => l.length - (intOf s32).toNat)
      case atStart => exact ⟨0, Nat.zero_le _, rfl, RW, BW⟩
      case round =>
        obtain ⟨kk, hk, rfl, HRo, HB⟩ := hrel
        clear RW BW
        by_cases hlt : kk < l.length
        · have hltz : (kk : Int) < (l.length : Int) := by omega
          obtain ⟨b, off, x, hA, hb, hx, c0⟩ := rd_int HR.out HB.out hlt
          cases hA
          obtain ⟨q1, q2, q3⟩ := HQ.out kk x hx
          have hF : Hid ((l.take (kk + 1)).foldl orAt B0 = orAt ((l.take kk).foldl orAt B0) x) := map_loop_spec l kk x hx B0
          have hlen2 : ((l.take kk).foldl orAt B0).length = 8 := by rw [fold_len]; exact HL.out
          obtain ⟨Z, hZ⟩ : ∃ Z, Z = (l.take kk).foldl orAt B0 := ⟨_, rfl⟩
          rw [← hZ] at hlen2 hF HRo
          have hq3 : octN x < Z.length := by rw [hlen2]; exact q3
          obtain ⟨u, hu⟩ : ∃ u, Z[octN x]? = some u := ⟨_, List.getElem?_eq_getElem hq3⟩
          have e0 : wr.cell? ⟨g, octN x, none⟩ = some (.int .u8 u.toNat) := by have := HRo.out.at enc8_len hu (i := 0) rfl; simpa using this
          have ef := blk_frozen HRo.out
          have hgl := HRo.out.lt
          have hO : Hid (orAt Z x = Z.set (octN x) (u ||| maskN x)) := by show _ = _; unfold orAt; rw [getD_at Z 0 _ u hu]
          have HQ3 := Lib.hid hq3
          have hor := or_mask u x
          have hB := fun W => bit_int x (by omega) (by omega) W
          have hqz : ((octN x : Nat) : Int) < (8 : Int) := by omega
          obtain ⟨q, hq⟩ : ∃ q, q = octN x := ⟨_, rfl⟩
          obtain ⟨mk, hmk'⟩ : ∃ mk, mk = (maskN x).toNat := ⟨_, rfl⟩
          rw [← hq] at e0 hB hqz
          rw [← hmk'] at hB hor
          have HQQ := Lib.hid hq
          have HB2 := Lib.hid hB
          have hmk9 : mk < 256 := by rw [hmk']; exact (maskN x).toNat_lt
          clear hx hZ hlen2 hu hB hq hmk' hq3
          go_wp2_with (go_at_call 41; refine (HB2.out _).mono ?_; rintro e w5 ⟨rfl, nd, rfl⟩)
          go_roundw
          case measure => simp [intOf]; omega
          case rel => exact ⟨kk + 1, by omega, by go_num, by rw [hF.out, hO.out, HQQ.out]; have h7 := row_store8 (w := wr.drewN nd) HRo.out (octN x) HQ3.out (u ||| maskN x); rw [UInt8.toNat_or] at h7; exact h7, (below_drewN HB.out nd).setCell (by omega) _⟩
        · have hltz : ¬ (kk : Int) < (l.length : Int) := by omega
          have hF : Hid ((l.take kk).foldl orAt B0 = mapL l) := by show _ = _; rw [HS.out, List.take_of_length_le (by omega)]
          rw [hF.out] at HRo
          have hln : Hid ((mapL l).length = 8) := by show _ = _; rw [← hF.out, fold_len]; exact HL.out
          have hconv : (convert 76 9 (.slice (some ⟨g, 0, none⟩) 8 8)).run Tryz.prog wr = .ok (.string ⟨(mapL l).toArray⟩) wr := by
            have h := run_bytes_int (P := Tryz.prog) wr 76 9 5 Tryz.underlying76 Tryz.underlying5 Tryz.underlying9 ⟨g, 0, none⟩ 8 8 ((mapL l).map fun b => (b.toNat : Int)) (by rw [List.length_map, hln.out]) (fun j b hj => by
              rw [List.getElem?_map] at hj
              cases hb : (mapL l)[j]? with
              | none => rw [hb] at hj; cases hj
              | some y => rw [hb] at hj; cases hj; rw [Addr.add_lit, Nat.zero_add]; have := HRo.out.at enc8_len hb (i := 0) rfl; simpa using this)
            rw [h, bytes_back]
          go_wp2
          go_ret2
          exact ⟨rfl, HB.out⟩
    · have HS : Hid (mapL l = l.foldl orAt (List.replicate 8 0)) := by show _ = _; unfold mapL map0; rw [if_neg (by rw [List.length_eq_zero_iff.1 h0]; simp)]
      have HQ : Hid (∀ (k : Nat) (x : Int), l[k]? = some x → 2 ≤ x ∧ x ≤ 128 ∧ octN x < 8) := fun k x hx => by have := (List.getElem?_eq_some_iff.1 hx).1; omega
      have h0z : ¬ (0 : Int) < (l.length : Int) := by omega
      clear hlast h0
      go_enter Tryz.func30, Tryz.ntmps30
      go_wp2_with (go_at_call 40; refine hM.mono ?_; rintro e w1 ⟨rfl, hb1⟩)
      obtain ⟨W2, hW2⟩ : ∃ W2, W2 = w1.alloc oct0 := ⟨_, rfl⟩
      have RW : Aside (Row enc8 5 W2 w1.heap.size (List.replicate 8 0) []) := by rw [hW2]; exact row0 w1
      have BW : Aside (Below w.heap.size w W2) := by rw [hW2]; exact hb1.alloc hb1.size _
      rw [← hW2]
      obtain ⟨g, hg⟩ : ∃ g : Nat, g = w1.heap.size := ⟨_, rfl⟩
      obtain ⟨tl, htl⟩ : ∃ tl : List Value, tl = [] := ⟨_, rfl⟩
      obtain ⟨B0, hB0⟩ : ∃ B0 : List UInt8, B0 = List.replicate 8 0 := ⟨_, rfl⟩
      have hgw : w.heap.size ≤ g := by have := hb1.size; omega
      rw [← hB0] at RW HS
      rw [← hg, ← htl] at RW
      rw [← hg]
      have HL : Hid (B0.length = 8) := by show _ = _; rw [hB0]; rfl
      clear hW2 hg htl hB0 hb1 hM
      go_loopw [32] (fun s32 wr => ∃ kk : Nat, kk ≤ l.length ∧ s32 = .int .i64 kk ∧ Aside (Row enc8 5 wr g ((l.take kk).foldl orAt B0) tl) ∧ Aside (Below w.heap.size w wr)) (fun s32 _ => l.length - (intOf s32).toNat)
      case atStart => exact ⟨0, Nat.zero_le _, rfl, RW, BW⟩
      case round =>
        obtain ⟨kk, hk, rfl, HRo, HB⟩ := hrel
        clear RW BW
        by_cases hlt : kk < l.length
        · exact absurd hlt (by omega)
        · have hltz : ¬ (kk : Int) < (l.length : Int) := by omega
          have hF : Hid ((l.take kk).foldl orAt B0 = mapL l) := by show _ = _; rw [HS.out, List.take_of_length_le (by omega)]
          rw [hF.out] at HRo
          have hln : Hid ((mapL l).length = 8) := by show _ = _; rw [← hF.out, fold_len]; exact HL.out
          have hconv : (convert 76 9 (.slice (some ⟨g, 0, none⟩) 8 8)).run Tryz.prog wr = .ok (.string ⟨(mapL l).toArray⟩) wr := by
            have h := run_bytes_int (P := Tryz.prog) wr 76 9 5 Tryz.underlying76 Tryz.underlying5 Tryz.underlying9 ⟨g, 0, none⟩ 8 8 ((mapL l).map fun b => (b.toNat : Int)) (by rw [List.length_map, hln.out]) (fun j b hj => by
              rw [List.getElem?_map] at hj
              cases hb : (mapL l)[j]? with
              | none => rw [hb] at hj; cases hj
              | some y => rw [hb] at hj; cases hj; rw [Addr.add_lit, Nat.zero_add]; have := HRo.out.at enc8_len hb (i := 0) rfl; simpa using this)
            rw [h, bytes_back]
          go_wp2
          go_ret2
          exact ⟨rfl, HB.out⟩
end Go.Proofs.YtbafhmhjkoelnaaGreatDoor
