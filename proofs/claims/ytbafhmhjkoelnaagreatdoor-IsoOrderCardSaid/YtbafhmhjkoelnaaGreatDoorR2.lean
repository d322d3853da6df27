/- XR2: bitmap.Read. -/
import Derived.Test.YtbafhmhjkoelnaaGreatDoorR
import Derived.Test.YtbafhmhjkoelnaaGreatDoorA3
namespace Go.Proofs.YtbafhmhjkoelnaaGreatDoor
open Go.RowKit Go.Shelf
attribute [local go_sem] Oper.semAt_some

def sizeB (s : List UInt8) : Nat := if ((s.getD 0 0 &&& 128) != 0) = true then 16 else 8
def setB (s : List UInt8) : List Int := (bitsTo (s.take (sizeB s)) (8 * sizeB s)).filter fun n => decide (1 < n)
def readOk (s : List UInt8) : Bool := mayL (setB s) && decide (mapL (setB s) = s.take (sizeB s))
/-- What a map at a text's begin tells: the error's number, the set, how many octets. -/
def readE (s : List UInt8) : Int := if s.length < sizeB s then 3 else if readOk s then 0 else 4
def readL (s : List UInt8) : List Int := if readE s = 0 then setB s else []
def readN (s : List UInt8) : Nat := if readE s = 0 then sizeB s else 0

def bigOnes (l : List Int) : List Int := l.filter fun n => decide (1 < n)
theorem bigOnes_hit (pre : List Int) {x : Int} (h : 1 < x) : bigOnes (pre ++ [x]) = bigOnes pre ++ [x] := by simp [bigOnes, h]
theorem bigOnes_miss (pre : List Int) {x : Int} (h : ¬ 1 < x) : bigOnes (pre ++ [x]) = bigOnes pre := by simp [bigOnes]; omega
theorem row_lower {w : World} {base base' e k n : Nat} {v : Value} {xs : List Value} (h : w.ownsRow base e k v n xs) (hb : base' ≤ base) : w.ownsRow base' e k v n xs := by
  refine ⟨h.1, ?_⟩
  rcases h.2 with hn | ⟨g, cap, cur, e1, hg, r⟩
  · exact .inl hn
  · exact .inr ⟨g, cap, cur, e1, Nat.le_trans hb hg, r⟩
theorem row_setFar {w : World} {base e k n : Nat} {v : Value} {xs : List Value} (h : w.ownsRow base e k v n xs) {a : Addr} (ha : a.block < base) (u : Value) : (w.setCell a u).ownsRow base e k v n xs := ownsRow_setCell_below h ha u
theorem flat_int (l : List Int) : l.flatMap encI = l.map (Value.int .i64) := by
  induction l with
  | nil => rfl
  | cons x r ih => rw [List.flatMap_cons, ih]; rfl
theorem sizeB_bit (s : ByteArray) (h : 0 < s.size) : ((s.data.toList.getD 0 0 &&& 128) != 0) = (Go.bits .and .u8 (((s[0]'h).toNat : Nat) : Int) 128 != 0) := by
  rw [List.getD_eq_getElem?_getD, List.getElem?_eq_getElem (by rw [Array.length_toList]; exact h)]
  have h2 : ∀ (a : Fin 256), Go.bits .and .u8 ((a.val : Nat) : Int) 128 = ((a.val &&& 128 : Nat) : Int) := by decide +kernel
  have h3 := h2 ⟨(s[0]'h).toNat, (s[0]'h).toNat_lt⟩
  show ((s[0]'h &&& 128) != 0) = _
  rw [show Go.bits .and .u8 (((s[0]'h).toNat : Nat) : Int) 128 = (((s[0]'h) &&& 128).toNat : Int) by rw [UInt8.toNat_and]; exact h3]
  generalize s[0]'h &&& 128 = z
  rw [Bool.eq_iff_iff]
  simp only [bne_iff_ne, ne_eq]
  constructor
  · intro h e; apply h; exact UInt8.toNat_inj.1 (by simpa using e)
  · intro h e; apply h; rw [e]; rfl
set_option maxRecDepth 100000 in
set_option maxHeartbeats 4000000 in
/-- The walk from a known size on. -/
theorem read_tail (sz : Nat) (hsz : sz = 8 ∨ sz = 16) (s : ByteArray) (hs : s.size ≤ 100000) (hl : sz ≤ s.size) (h0 : s.toList.isEmpty = false) (w : World) (hG : G w) (hbit : (Go.bits .and .u8 (((s[0]'(by omega)).toNat : Nat) : Int) 128 != 0) = decide (sz = 16)) :
    Calls Tryz.prog 27 #[.string s] w fun e w' => ∃ v', e = .returned (.tuple #[v', .int .i64 (readN s.data.toList), .int .i64 (readE s.data.toList)]) ∧ Own encI 1 3 w.heap.size w' v' (readL s.data.toList) ∧ Below w.heap.size w w' := by
  have HG := Lib.hid hG
  clear hG
  rcases hsz with rfl | rfl
  · have hbit' : (Go.bits .and .u8 (((s[0]'(by omega)).toNat : Nat) : Int) 128 != 0) = false := hbit
    have hbit0 := hbit'
    have hlz : ¬ (s.size : Int) < 8 := by omega
    have hf45 : Fence.wide.fn 35 := trivial
    have hf30 : Fence.wide.fn 30 := trivial
    clear hbit
    refine (callsIn_wide (n := 5)).1 ?_
    refine callsIn_of_wp_marks Tryz.func27 rfl trivial ?_ rfl
    simp only [Tryz.ntmps27, List.size_toArray, List.length_cons, List.length_nil, Nat.reduceAdd, Nat.reduceSub, Array.replicate_succ, Array.replicate_zero, List.push_toArray, List.append_toArray, List.nil_append, List.cons_append]
    gi_wp2_with (gi_at_call 35; refine (callsIn_wide.2 (bits_in _ _)).mono ?_; rintro e w' ⟨rfl, rfl⟩)
    obtain ⟨W0, hW0⟩ : ∃ W0, W0 = (w.alloc (Obj.cells #[Value.slice none 0 0] 52)).alloc (Obj.cells #[Value.string (s.extract 0 8)] 9) := ⟨_, rfl⟩
    have bO : Boxed W0 w.heap.size 52 (.slice none 0 0) := by show W0.heap[_]? = _; rw [hW0]; exact (blk2 w _ _).1
    have bS : W0.cell? ⟨w.heap.size + 1, 0, none⟩ = some (.string (s.extract 0 8)) := by rw [hW0]; exact blk_cell (blk2 w _ _).2 0
    have hB0 : Below w.heap.size w W0 := by rw [hW0]; exact alloc2 _ _ _
    have hs0 : W0.heap.size = w.heap.size + 2 := by rw [hW0]; simp
    rw [← hW0]
    have hsx : (s.extract 0 8).size = 8 := by simp; omega
    have hsd : (s.extract 0 8).data.toList = s.data.toList.take 8 := by rw [Lib.extract_data]; simp
    have hseq := bits_stops 4 (w.heap.size + 1) (by omega) (s.extract 0 8) (by omega) W0 (by omega) bS
    have hS2 : W0.heap.size = w.heap.size + 2 := hs0
    refine wpIn_rangeFunc_ownG rfl (by omega) (gf := 45) (lb := #[.pointer (some ⟨w.heap.size + 1, 0, none⟩)]) rfl trivial (enters_of Tryz.func45 (by kernel_rfl) rfl)
      hseq keepAt_t (keepAt_b (by omega)) (Below.refl _ _) (fun _ => rfl)
      (fun pre W => (∃ v, Boxed W w.heap.size 52 v ∧ W.ownsRow (w.heap.size + 2) 3 1 v (bigOnes pre).length ((bigOnes pre).map (Value.int .i64)) ∧ True) ∧ (Below w.heap.size w W ∧ w.heap.size + 2 ≤ W.heap.size))
      (fun _ _ _ => False)
      (OwnFrom.and (_root_.Go.Own.from (holdsRow_own (w.heap.size + 2) w.heap.size 52 3 1 (fun pre => (bigOnes pre).length) (fun pre => (bigOnes pre).map (Value.int .i64)) (fun _ _ => True)) _) (OwnFrom.and (ownFrom_below (Nat.le_refl _) (by omega)) (fun _ _ _ _ hs hg _ => Nat.le_trans hs hg.size)))
      (fun _ _ _ _ _ hs _ _ => hs)
      ⟨⟨_, bO, World.ownsRow_nil _ _ _ _, trivial⟩, hB0, by omega⟩ ?a1 ?assign ?body ?done ?stop
    case assign =>
      intro l x W K hK
      gi_wp2
      exact hK
    case body =>
      rintro l pre x W ⟨⟨v, hv, hrow, -⟩, hB, hsW⟩ hlt
      have hc := hv.cell
      have hpl : (bigOnes pre).length ≤ pre.length := List.length_filter_le _ _
      have HL : Hid ((bigOnes pre).length + 1 ≤ 1000) := by show _ ≤ _; omega
      obtain ⟨i0, hi, hz0, hz1, hz2⟩ := info_parts infoI
      have HI := Lib.hid (And.intro hi (And.intro hz0 (And.intro hz1 hz2)))
      have HRow := Lib.hid hrow
      have HBh := Lib.hid hB
      clear hseq hS2 hs0 hsx hsd bS bO hB0 hW0 hpl hlt hi hz0 hz1 hz2 hrow hB
      by_cases hx : 1 < x
      · gi_wp2_with (gi_at_builtin; refine wpListIn_append_own _ rfl _ _ 52 rfl (w.heap.size + 2) 3 i0 (.int .i64 0) 1 8 Tryz.underlying52 HI.out.1 HI.out.2.1 HI.out.2.2.1 HI.out.2.2.2 rfl (by decide) _ _ _ rfl (HRow.out.alloc _) ⟨W.heap.size, 0, none⟩ 1 1 [.int .i64 x] rfl rfl (cell_one_new _ _ _) (by simp [Value.oneCell']) (by have := HL.out; simp only [maxLen]; omega) (by have := HL.out; omega) (by simp; omega) ?_; intro v' w1 hown' hgrow _; obtain ⟨g', cap', rfl⟩ := ownsRow_succ hown'; obtain ⟨hv1, hv2, hr2, hk2, hb2⟩ := hv.appended (n₀ := w.heap.size) (by decide) (row_lower HRow.out (by omega)) HBh.out.size (Nat.le_refl _) (row_lower hown' (by omega)) hgrow; have hc1 := hv1.cell; have hf1 := hv1.frozen)
        exact ⟨hk2.from _, by
          have hne : some (w.heap.size + 1) ≠ v.ownBlock := fun e => by have := (HRow.out.lt _ e.symm).1; omega
          show World.cell? _ _ = _
          refine (World.cell?_setCell_other _ _ _ _ (by simp)).trans ?_
          exact (World.cell?_of_block (hgrow.block _ (by simp; omega) hne)).trans (World.cell?_of_block (Below.heap_alloc W _ (w.heap.size + 1) (by omega))), ⟨_, hv2, by rw [bigOnes_hit pre (by assumption)]; have h7 := row_setFar (a := ⟨w.heap.size, 0, none⟩) hown' (by show w.heap.size < w.heap.size + 2; omega) (Value.slice (some ⟨g', 0, none⟩) ((bigOnes pre).length + 1) cap'); simpa using h7⟩, HBh.out.trans hb2, Nat.le_trans hsW hb2.size⟩
      · gi_wp2
        exact ⟨KeepsFrom.refl _ _, rfl, ⟨v, hv, by rw [bigOnes_miss pre (by omega)]; exact HRow.out⟩, HBh.out, hsW⟩
    case done =>
      rintro D ys W hD rfl ⟨⟨v, hv, hrow, -⟩, hB, hsW⟩ hK
      have hsb : sizeB s.data.toList = 8 := by
        unfold sizeB
        rw [sizeB_bit s (by omega), hbit0]; rfl
      have hset : bigOnes (bitsTo (s.extract 0 8).data.toList (8 * (s.extract 0 8).size)) = setB s.data.toList := by
        unfold setB bigOnes; rw [hsb, hsx, hsd]
      rw [hset] at hrow
      have hO : Own encI 1 3 (w.heap.size + 2) W v (setB s.data.toList) := by unfold Own; rw [flat_int]; exact hrow
      have hlen : s.data.toList.length = s.size := by rw [Array.length_toList]; rfl
      have hE : readE s.data.toList = if readOk s.data.toList then 0 else 4 := by unfold readE; rw [hsb, hlen, if_neg (by omega)]
      have hOK : readOk s.data.toList = (mayL (setB s.data.toList) && decide (mapL (setB s.data.toList) = (s.extract 0 8).data.toList)) := by unfold readOk; rw [hsb, hsd]
      have hMp := bitmap_Map v (setB s.data.toList) W (hO.rd encI_len) (HG.out.below hB)
      have hN : readN s.data.toList = if readE s.data.toList = 0 then 8 else 0 := by unfold readN; rw [hsb]
      have hLL : readL s.data.toList = if readE s.data.toList = 0 then setB s.data.toList else [] := rfl
      have hc := hv.cell
      have hl0 := hv.lt
      generalize setB s.data.toList = S at *
      have HO := Lib.hid hO
      have HMp := Lib.hid hMp
      have HK := Lib.hid hK
      have HB := Lib.hid hB
      have HRow := Lib.hid hrow
      have hDl : Hid (D < W.heap.size) := (Array.getElem?_eq_some_iff.1 hK).1
      have hDw : w.heap.size ≤ D := by omega
      clear hseq hS2 hs0 hsx hsd bS bO hB0 hW0 hO hMp hK hset hsb hlen hB hrow hbit0
      have fin : ∀ (w5 : World), Below W.heap.size W w5 → w5.heap[D]? = some (.deferred (some [])) ∧ Own encI 1 3 w.heap.size (w5.putObj D (.deferred none)) v S ∧ Below w.heap.size w (w5.putObj D (.deferred none)) ∧ w5.cell? ⟨w.heap.size, 0, none⟩ = some v := fun w5 hb5 => by
        have hk5 := (hb5.block D hDl.out).trans HK.out
        have ho5 := HO.out.below hb5
        refine ⟨hk5, ?_, (HB.out.trans (hb5.mono HB.out.size)).trans (belowK_b (w := w) (Nat.le_refl _) w5 D _ _ (by omega) hk5 rfl rfl), (hb5.cell (p := ⟨w.heap.size, 0, none⟩) hl0).trans hc⟩
        exact Own.lower (ownsRow_putObj ho5 _ hk5 rfl) (by omega)
      have FIN := Lib.hid fin
      clear fin
      cases hm : mayL S with
      | false =>
        rw [hm] at HMp
        have he : Hid (readE s.data.toList = 4 ∧ readN s.data.toList = 0 ∧ readL s.data.toList = []) := by
          have h1 : readE s.data.toList = 4 := by rw [hE, hOK, hm]; rfl
          refine ⟨h1, ?_, ?_⟩
          · rw [hN, h1]; rfl
          · rw [hLL, h1]; rfl
        clear hm hE hOK hN hLL
        gi_wp2_with (gi_at_call 30; refine (callsIn_wide.2 HMp.out).mono ?_; rintro e w5 ⟨rfl, hb5⟩; obtain ⟨hk5, hrd5, hbb5, hc5⟩ := FIN.out w5 hb5)
        refine ⟨by simp, .inl ⟨_, _, rfl, run_takeDeferred hk5, ?_⟩⟩
        exact ⟨_, results_tmp3 rfl _ _ _, .slice none 0 0, by rw [he.out.1, he.out.2.1]; rfl, by rw [he.out.2.2]; exact Own.nil _ _ _ _ _, hbb5⟩
      | true =>
        rw [hm] at HMp
        by_cases heq : (⟨(mapL S).toArray⟩ : ByteArray) = s.extract 0 8
        · have he : Hid (readE s.data.toList = 0 ∧ readN s.data.toList = 8 ∧ readL s.data.toList = S) := by
            have h1 : readE s.data.toList = 0 := by rw [hE, hOK, hm, ← heq]; simp
            refine ⟨h1, ?_, ?_⟩
            · rw [hN, h1]; rfl
            · rw [hLL, h1]; rfl
          have HEQ := Lib.hid heq
          clear hm hE hOK hN hLL heq
          gi_wp2_with (gi_at_call 30; refine (callsIn_wide.2 HMp.out).mono ?_; rw [if_pos rfl, if_pos rfl, HEQ.out]; rintro e w5 ⟨rfl, hb5⟩; obtain ⟨hk5, hrd5, hbb5, hc5⟩ := FIN.out w5 hb5)
          refine ⟨by simp, .inl ⟨_, _, rfl, run_takeDeferred hk5, ?_⟩⟩
          exact ⟨_, results_tmp3 rfl _ _ _, v, by rw [he.out.1, he.out.2.1]; rfl, by rw [he.out.2.2]; exact hrd5, hbb5⟩
        · have he : Hid (readE s.data.toList = 4 ∧ readN s.data.toList = 0 ∧ readL s.data.toList = []) := by
            have hd : decide (mapL S = (s.extract 0 8).data.toList) = false := decide_eq_false (fun h => heq (by rw [h]))
            have h1 : readE s.data.toList = 4 := by rw [hE, hOK, hm, hd]; rfl
            refine ⟨h1, ?_, ?_⟩
            · rw [hN, h1]; rfl
            · rw [hLL, h1]; rfl
          have hne := str_ne heq
          obtain ⟨T, hT⟩ : ∃ T : ByteArray, T = ⟨(mapL S).toArray⟩ := ⟨_, rfl⟩
          rw [← hT] at hne
          have HT := Lib.hid hT
          clear hm hE hOK hN hLL heq hT
          gi_wp2_with (gi_at_call 30; refine (callsIn_wide.2 HMp.out).mono ?_; rw [if_pos rfl, if_pos rfl, ← HT.out]; rintro e w5 ⟨rfl, hb5⟩; obtain ⟨hk5, hrd5, hbb5, hc5⟩ := FIN.out w5 hb5)
          refine ⟨by simp, .inl ⟨_, _, rfl, run_takeDeferred hk5, ?_⟩⟩
          exact ⟨_, results_tmp3 rfl _ _ _, .slice none 0 0, by rw [he.out.1, he.out.2.1]; rfl, by rw [he.out.2.2]; exact Own.nil _ _ _ _ _, hbb5⟩
    case stop =>
      rintro D c pre W _ _ h _
      exact h.elim
  · have hbit' : (Go.bits .and .u8 (((s[0]'(by omega)).toNat : Nat) : Int) 128 != 0) = true := hbit
    have hbit0 := hbit'
    have hlz : ¬ (s.size : Int) < 16 := by omega
    have hf45 : Fence.wide.fn 35 := trivial
    have hf30 : Fence.wide.fn 30 := trivial
    clear hbit
    refine (callsIn_wide (n := 5)).1 ?_
    refine callsIn_of_wp_marks Tryz.func27 rfl trivial ?_ rfl
    simp only [Tryz.ntmps27, List.size_toArray, List.length_cons, List.length_nil, Nat.reduceAdd, Nat.reduceSub, Array.replicate_succ, Array.replicate_zero, List.push_toArray, List.append_toArray, List.nil_append, List.cons_append]
    gi_wp2_with (gi_at_call 35; refine (callsIn_wide.2 (bits_in _ _)).mono ?_; rintro e w' ⟨rfl, rfl⟩)
    obtain ⟨W0, hW0⟩ : ∃ W0, W0 = (w.alloc (Obj.cells #[Value.slice none 0 0] 52)).alloc (Obj.cells #[Value.string (s.extract 0 16)] 9) := ⟨_, rfl⟩
    have bO : Boxed W0 w.heap.size 52 (.slice none 0 0) := by show W0.heap[_]? = _; rw [hW0]; exact (blk2 w _ _).1
    have bS : W0.cell? ⟨w.heap.size + 1, 0, none⟩ = some (.string (s.extract 0 16)) := by rw [hW0]; exact blk_cell (blk2 w _ _).2 0
    have hB0 : Below w.heap.size w W0 := by rw [hW0]; exact alloc2 _ _ _
    have hs0 : W0.heap.size = w.heap.size + 2 := by rw [hW0]; simp
    rw [← hW0]
    have hsx : (s.extract 0 16).size = 16 := by simp; omega
    have hsd : (s.extract 0 16).data.toList = s.data.toList.take 16 := by rw [Lib.extract_data]; simp
    have hseq := bits_stops 4 (w.heap.size + 1) (by omega) (s.extract 0 16) (by omega) W0 (by omega) bS
    have hS2 : W0.heap.size = w.heap.size + 2 := hs0
    refine wpIn_rangeFunc_ownG rfl (by omega) (gf := 45) (lb := #[.pointer (some ⟨w.heap.size + 1, 0, none⟩)]) rfl trivial (enters_of Tryz.func45 (by kernel_rfl) rfl)
      hseq keepAt_t (keepAt_b (by omega)) (Below.refl _ _) (fun _ => rfl)
      (fun pre W => (∃ v, Boxed W w.heap.size 52 v ∧ W.ownsRow (w.heap.size + 2) 3 1 v (bigOnes pre).length ((bigOnes pre).map (Value.int .i64)) ∧ True) ∧ (Below w.heap.size w W ∧ w.heap.size + 2 ≤ W.heap.size))
      (fun _ _ _ => False)
      (OwnFrom.and (_root_.Go.Own.from (holdsRow_own (w.heap.size + 2) w.heap.size 52 3 1 (fun pre => (bigOnes pre).length) (fun pre => (bigOnes pre).map (Value.int .i64)) (fun _ _ => True)) _) (OwnFrom.and (ownFrom_below (Nat.le_refl _) (by omega)) (fun _ _ _ _ hs hg _ => Nat.le_trans hs hg.size)))
      (fun _ _ _ _ _ hs _ _ => hs)
      ⟨⟨_, bO, World.ownsRow_nil _ _ _ _, trivial⟩, hB0, by omega⟩ ?a2 ?assign ?body ?done ?stop
    case assign =>
      intro l x W K hK
      gi_wp2
      exact hK
    case body =>
      rintro l pre x W ⟨⟨v, hv, hrow, -⟩, hB, hsW⟩ hlt
      have hc := hv.cell
      have hpl : (bigOnes pre).length ≤ pre.length := List.length_filter_le _ _
      have HL : Hid ((bigOnes pre).length + 1 ≤ 1000) := by show _ ≤ _; omega
      obtain ⟨i0, hi, hz0, hz1, hz2⟩ := info_parts infoI
      have HI := Lib.hid (And.intro hi (And.intro hz0 (And.intro hz1 hz2)))
      have HRow := Lib.hid hrow
      have HBh := Lib.hid hB
      clear hseq hS2 hs0 hsx hsd bS bO hB0 hW0 hpl hlt hi hz0 hz1 hz2 hrow hB
      by_cases hx : 1 < x
      · gi_wp2_with (gi_at_builtin; refine wpListIn_append_own _ rfl _ _ 52 rfl (w.heap.size + 2) 3 i0 (.int .i64 0) 1 8 Tryz.underlying52 HI.out.1 HI.out.2.1 HI.out.2.2.1 HI.out.2.2.2 rfl (by decide) _ _ _ rfl (HRow.out.alloc _) ⟨W.heap.size, 0, none⟩ 1 1 [.int .i64 x] rfl rfl (cell_one_new _ _ _) (by simp [Value.oneCell']) (by have := HL.out; simp only [maxLen]; omega) (by have := HL.out; omega) (by simp; omega) ?_; intro v' w1 hown' hgrow _; obtain ⟨g', cap', rfl⟩ := ownsRow_succ hown'; obtain ⟨hv1, hv2, hr2, hk2, hb2⟩ := hv.appended (n₀ := w.heap.size) (by decide) (row_lower HRow.out (by omega)) HBh.out.size (Nat.le_refl _) (row_lower hown' (by omega)) hgrow; have hc1 := hv1.cell; have hf1 := hv1.frozen)
        exact ⟨hk2.from _, by
          have hne : some (w.heap.size + 1) ≠ v.ownBlock := fun e => by have := (HRow.out.lt _ e.symm).1; omega
          show World.cell? _ _ = _
          refine (World.cell?_setCell_other _ _ _ _ (by simp)).trans ?_
          exact (World.cell?_of_block (hgrow.block _ (by simp; omega) hne)).trans (World.cell?_of_block (Below.heap_alloc W _ (w.heap.size + 1) (by omega))), ⟨_, hv2, by rw [bigOnes_hit pre (by assumption)]; have h7 := row_setFar (a := ⟨w.heap.size, 0, none⟩) hown' (by show w.heap.size < w.heap.size + 2; omega) (Value.slice (some ⟨g', 0, none⟩) ((bigOnes pre).length + 1) cap'); simpa using h7⟩, HBh.out.trans hb2, Nat.le_trans hsW hb2.size⟩
      · gi_wp2
        exact ⟨KeepsFrom.refl _ _, rfl, ⟨v, hv, by rw [bigOnes_miss pre (by omega)]; exact HRow.out⟩, HBh.out, hsW⟩
    case done =>
      rintro D ys W hD rfl ⟨⟨v, hv, hrow, -⟩, hB, hsW⟩ hK
      have hsb : sizeB s.data.toList = 16 := by
        unfold sizeB
        rw [sizeB_bit s (by omega), hbit0]; rfl
      have hset : bigOnes (bitsTo (s.extract 0 16).data.toList (8 * (s.extract 0 16).size)) = setB s.data.toList := by
        unfold setB bigOnes; rw [hsb, hsx, hsd]
      rw [hset] at hrow
      have hO : Own encI 1 3 (w.heap.size + 2) W v (setB s.data.toList) := by unfold Own; rw [flat_int]; exact hrow
      have hlen : s.data.toList.length = s.size := by rw [Array.length_toList]; rfl
      have hE : readE s.data.toList = if readOk s.data.toList then 0 else 4 := by unfold readE; rw [hsb, hlen, if_neg (by omega)]
      have hOK : readOk s.data.toList = (mayL (setB s.data.toList) && decide (mapL (setB s.data.toList) = (s.extract 0 16).data.toList)) := by unfold readOk; rw [hsb, hsd]
      have hMp := bitmap_Map v (setB s.data.toList) W (hO.rd encI_len) (HG.out.below hB)
      have hN : readN s.data.toList = if readE s.data.toList = 0 then 16 else 0 := by unfold readN; rw [hsb]
      have hLL : readL s.data.toList = if readE s.data.toList = 0 then setB s.data.toList else [] := rfl
      have hc := hv.cell
      have hl0 := hv.lt
      generalize setB s.data.toList = S at *
      have HO := Lib.hid hO
      have HMp := Lib.hid hMp
      have HK := Lib.hid hK
      have HB := Lib.hid hB
      have HRow := Lib.hid hrow
      have hDl : Hid (D < W.heap.size) := (Array.getElem?_eq_some_iff.1 hK).1
      have hDw : w.heap.size ≤ D := by omega
      clear hseq hS2 hs0 hsx hsd bS bO hB0 hW0 hO hMp hK hset hsb hlen hB hrow hbit0
      have fin : ∀ (w5 : World), Below W.heap.size W w5 → w5.heap[D]? = some (.deferred (some [])) ∧ Own encI 1 3 w.heap.size (w5.putObj D (.deferred none)) v S ∧ Below w.heap.size w (w5.putObj D (.deferred none)) ∧ w5.cell? ⟨w.heap.size, 0, none⟩ = some v := fun w5 hb5 => by
        have hk5 := (hb5.block D hDl.out).trans HK.out
        have ho5 := HO.out.below hb5
        refine ⟨hk5, ?_, (HB.out.trans (hb5.mono HB.out.size)).trans (belowK_b (w := w) (Nat.le_refl _) w5 D _ _ (by omega) hk5 rfl rfl), (hb5.cell (p := ⟨w.heap.size, 0, none⟩) hl0).trans hc⟩
        exact Own.lower (ownsRow_putObj ho5 _ hk5 rfl) (by omega)
      have FIN := Lib.hid fin
      clear fin
      cases hm : mayL S with
      | false =>
        rw [hm] at HMp
        have he : Hid (readE s.data.toList = 4 ∧ readN s.data.toList = 0 ∧ readL s.data.toList = []) := by
          have h1 : readE s.data.toList = 4 := by rw [hE, hOK, hm]; rfl
          refine ⟨h1, ?_, ?_⟩
          · rw [hN, h1]; rfl
          · rw [hLL, h1]; rfl
        clear hm hE hOK hN hLL
        gi_wp2_with (gi_at_call 30; refine (callsIn_wide.2 HMp.out).mono ?_; rintro e w5 ⟨rfl, hb5⟩; obtain ⟨hk5, hrd5, hbb5, hc5⟩ := FIN.out w5 hb5)
        refine ⟨by simp, .inl ⟨_, _, rfl, run_takeDeferred hk5, ?_⟩⟩
        exact ⟨_, results_tmp3 rfl _ _ _, .slice none 0 0, by rw [he.out.1, he.out.2.1]; rfl, by rw [he.out.2.2]; exact Own.nil _ _ _ _ _, hbb5⟩
      | true =>
        rw [hm] at HMp
        by_cases heq : (⟨(mapL S).toArray⟩ : ByteArray) = s.extract 0 16
        · have he : Hid (readE s.data.toList = 0 ∧ readN s.data.toList = 16 ∧ readL s.data.toList = S) := by
            have h1 : readE s.data.toList = 0 := by rw [hE, hOK, hm, ← heq]; simp
            refine ⟨h1, ?_, ?_⟩
            · rw [hN, h1]; rfl
            · rw [hLL, h1]; rfl
          have HEQ := Lib.hid heq
          clear hm hE hOK hN hLL heq
          gi_wp2_with (gi_at_call 30; refine (callsIn_wide.2 HMp.out).mono ?_; rw [if_pos rfl, if_pos rfl, HEQ.out]; rintro e w5 ⟨rfl, hb5⟩; obtain ⟨hk5, hrd5, hbb5, hc5⟩ := FIN.out w5 hb5)
          refine ⟨by simp, .inl ⟨_, _, rfl, run_takeDeferred hk5, ?_⟩⟩
          exact ⟨_, results_tmp3 rfl _ _ _, v, by rw [he.out.1, he.out.2.1]; rfl, by rw [he.out.2.2]; exact hrd5, hbb5⟩
        · have he : Hid (readE s.data.toList = 4 ∧ readN s.data.toList = 0 ∧ readL s.data.toList = []) := by
            have hd : decide (mapL S = (s.extract 0 16).data.toList) = false := decide_eq_false (fun h => heq (by rw [h]))
            have h1 : readE s.data.toList = 4 := by rw [hE, hOK, hm, hd]; rfl
            refine ⟨h1, ?_, ?_⟩
            · rw [hN, h1]; rfl
            · rw [hLL, h1]; rfl
          have hne := str_ne heq
          obtain ⟨T, hT⟩ : ∃ T : ByteArray, T = ⟨(mapL S).toArray⟩ := ⟨_, rfl⟩
          rw [← hT] at hne
          have HT := Lib.hid hT
          clear hm hE hOK hN hLL heq hT
          gi_wp2_with (gi_at_call 30; refine (callsIn_wide.2 HMp.out).mono ?_; rw [if_pos rfl, if_pos rfl, ← HT.out]; rintro e w5 ⟨rfl, hb5⟩; obtain ⟨hk5, hrd5, hbb5, hc5⟩ := FIN.out w5 hb5)
          refine ⟨by simp, .inl ⟨_, _, rfl, run_takeDeferred hk5, ?_⟩⟩
          exact ⟨_, results_tmp3 rfl _ _ _, .slice none 0 0, by rw [he.out.1, he.out.2.1]; rfl, by rw [he.out.2.2]; exact Own.nil _ _ _ _ _, hbb5⟩
    case stop =>
      rintro D c pre W _ _ h _
      exact h.elim

theorem bitmap_Read (s : ByteArray) (hs : s.size ≤ 100000) (w : World) (hG : G w) :
    Calls Tryz.prog 27 #[.string s] w fun e w' => ∃ v', e = .returned (.tuple #[v', .int .i64 (readN s.data.toList), .int .i64 (readE s.data.toList)]) ∧ Own encI 1 3 w.heap.size w' v' (readL s.data.toList) ∧ Below w.heap.size w w' := by
  have hlen : s.data.toList.length = s.size := by rw [Array.length_toList]; rfl
  by_cases hp : 0 < s.size
  · have h0 : s.toList.isEmpty = false := by
      rw [Lib.toList_data]
      cases h : s.data.toList with
      | nil => rw [h] at hlen; simp at hlen; omega
      | cons _ _ => rfl
    have hsz := sizeB_bit s hp
    have hcase : ∀ (sz : Nat), (sz = 8 ∨ sz = 16) → sizeB s.data.toList = sz → (Go.bits .and .u8 (((s[0]'hp).toNat : Nat) : Int) 128 != 0) = decide (sz = 16) → Calls Tryz.prog 27 #[.string s] w fun e w' => ∃ v', e = .returned (.tuple #[v', .int .i64 (readN s.data.toList), .int .i64 (readE s.data.toList)]) ∧ Own encI 1 3 w.heap.size w' v' (readL s.data.toList) ∧ Below w.heap.size w w' := fun sz h8 hsb hb => by
      by_cases hl : sz ≤ s.size
      · exact read_tail sz h8 s hs hl h0 w hG hb
      · have hE : Hid (readE s.data.toList = 3 ∧ readN s.data.toList = 0 ∧ readL s.data.toList = []) := by
          have h1 : readE s.data.toList = 3 := by unfold readE; rw [hsb, hlen, if_pos (by omega)]
          refine ⟨h1, ?_, ?_⟩
          · unfold readN; rw [h1]; rfl
          · unfold readL; rw [h1]; rfl
        rw [hE.out.1, hE.out.2.1, hE.out.2.2]
        clear hsb hsz hlen
        rcases h8 with rfl | rfl
        · have hb' : (Go.bits .and .u8 (((s[0]'hp).toNat : Nat) : Int) 128 != 0) = false := hb
          have hlz : (s.size : Int) < 8 := by omega
          clear hb
          go_enter Tryz.func27, Tryz.ntmps27
          go_wp2
          go_ret3
          exact ⟨_, rfl, Own.nil _ _ _ _ _, Below.refl _ _⟩
        · have hb' : (Go.bits .and .u8 (((s[0]'hp).toNat : Nat) : Int) 128 != 0) = true := hb
          have hlz : (s.size : Int) < 16 := by omega
          clear hb
          go_enter Tryz.func27, Tryz.ntmps27
          go_wp2
          go_ret3
          exact ⟨_, rfl, Own.nil _ _ _ _ _, Below.refl _ _⟩
    cases hb : (Go.bits .and .u8 (((s[0]'hp).toNat : Nat) : Int) 128 != 0)
    · exact hcase 8 (.inl rfl) (by unfold sizeB; rw [hsz, hb]; rfl) (by rw [hb]; rfl)
    · exact hcase 16 (.inr rfl) (by unfold sizeB; rw [hsz, hb]; rfl) (by rw [hb]; rfl)
  · have he : s.toList.isEmpty = true := by
      rw [Lib.toList_data, List.length_eq_zero_iff.1 (by omega : s.data.toList.length = 0)]; rfl
    have hn : s.data.toList = [] := List.length_eq_zero_iff.1 (by omega)
    have hlz : (s.size : Int) < 8 := by omega
    rw [hn]
    clear hlen hn hp
    go_enter Tryz.func27, Tryz.ntmps27
    go_wp2
    go_ret3
    exact ⟨_, rfl, Own.nil _ _ _ _ _, Below.refl _ _⟩
end Go.Proofs.YtbafhmhjkoelnaaGreatDoor
