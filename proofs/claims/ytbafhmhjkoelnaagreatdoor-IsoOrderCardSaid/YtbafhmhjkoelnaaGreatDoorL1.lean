/- XL1: bursarlaw19.IsoFields answers true. -/
import Derived.Test.YtbafhmhjkoelnaaGreatDoorL
import Derived.Test.YtbafhmhjkoelnaaGreatDoorP2
namespace Go.Proofs.YtbafhmhjkoelnaaGreatDoor
open Go.RowKit

theorem getF_put (n : Int) (v : ByteArray) (L : List Field) : getF n (putF n v L) = (v, true) := by
  have h : (putF n v L).find? (isN n) = some ⟨n, v⟩ := by
    unfold putF insD
    rw [List.find?_append]
    have h1 : ((L.filter fun x => !isN n x).takeWhile fun x => decide (x.N ≤ n)).find? (isN n) = none := by
      rw [List.find?_eq_none]
      intro x hx
      have hm := (List.takeWhile_sublist _).mem hx
      rw [List.mem_filter] at hm
      simpa using hm.2
    rw [h1]
    simp [isN]
  rw [getF, h]
theorem cutS_size (n : Nat) (s : ByteArray) : (cutS n s).size ≤ n := by
  unfold cutS
  split
  · rw [ByteArray.size_extract]; omega
  · omega
theorem cutS_id (n : Nat) (s : ByteArray) (h : s.size ≤ n) : cutS n s = s := by unfold cutS; rw [if_neg (by omega)]
theorem few_few (L : List Field) : few (few L) = few L := by
  unfold few
  rw [List.take_of_length_le (by simp; omega), List.map_map]
  apply List.map_congr_left
  intro x _
  show fewF (fewF x) = fewF x
  unfold fewF
  rw [cutS_id 1001 _ (cutS_size 1001 x.V)]
theorem few_len (L : List Field) : (few L).length ≤ 130 := by unfold few; simp; omega
theorem sameM_self (m : ByteArray) (L : List Field) : sameM m L m L = true := by unfold sameM sameL; simp

set_option maxRecDepth 100000 in
set_option maxHeartbeats 8000000 in
theorem isoFields_true (m : ByteArray) (v : Value) (L : List Field) (n : Int) (val : ByteArray) (w : World) (hr : Rd encF 2 w v L) (hG : G w) :
    Calls Tryz.prog 3 #[.agg #[.string m, v], .int .i64 n, .string val] w fun e w' => e = .returned (.bool true) ∧ Below w.heap.size w w' := by
  obtain ⟨A, c, rfl, hlc, hmax, hcells⟩ := id hr
  clear hcells
  have HG := Lib.hid hG
  have hF1 := law19_Few m (.slice A L.length c) L (w.alloc (.cells #[.string m, .slice A L.length c] 24)) (hr.below (alloc1 _ _))
  have hml := few_len L
  have hff := few_few L
  have hcc := cutS_id 8 (cutS 8 m) (cutS_size 8 m)
  generalize few L = M at *
  generalize cutS 8 m = mt at *
  have HF1 := Lib.hid hF1
  have HFF := Lib.hid hff
  have HCC := Lib.hid hcc
  clear hr hG hF1 hff hcc
  obtain ⟨V, hV⟩ : ∃ V, (100 < val.size ∧ val.extract 0 100 = V) ∨ (¬ 100 < val.size ∧ val = V) := by
    by_cases h : 100 < val.size
    · exact ⟨_, .inl ⟨h, rfl⟩⟩
    · exact ⟨_, .inr ⟨h, rfl⟩⟩
  obtain ⟨P, hPe⟩ : ∃ P, P = putF n V M := ⟨_, rfl⟩
  obtain ⟨g1, hg1⟩ : ∃ g1, g1 = (getF n M).1 := ⟨_, rfl⟩
  obtain ⟨g2, hg2⟩ : ∃ g2, g2 = (getF n M).2 := ⟨_, rfl⟩
  have hGa := fun v W h => iso_Get mt v M n W h
  have hGb := fun v W h => ref19_Get mt v M n W h
  have hPa := fun v W h => iso_Put mt v M n V W h (by omega)
  have hPb := fun v W h => ref19_Put mt v M n V W h (by omega)
  have hGc := fun v W h => iso_Get mt v P n W h
  rw [hPe, getF_put, ← hPe] at hGc
  rw [← hg1, ← hg2] at hGa hGb
  rw [← hPe] at hPa hPb
  have HGa := Lib.hid hGa
  have HGb := Lib.hid hGb
  have HPa := Lib.hid hPa
  have HPb := Lib.hid hPb
  have HGc := Lib.hid hGc
  clear hGa hGb hPa hPb hGc hPe hg1 hg2
  rcases hV with ⟨h100, hV⟩ | ⟨h100, hV⟩
  rotate_left
  subst hV
  all_goals
    have HV := Lib.hid h100
    go_enter Tryz.func3, Tryz.ntmps3
    go_wp2_with fail
    refine HF1.out.mono ?_
    rintro e w1 ⟨v1, rfl, hO1, hb1⟩
    obtain ⟨A1, c1, rfl⟩ := Own.len hO1
    obtain ⟨hz1, hf1, hc0, hc1⟩ := blkf2 ((hb1.block w.heap.size (by simp)).trans (heap_alloc_new w _))
    go_wp2_with fail
    obtain ⟨W1, hW1⟩ : ∃ W1, W1 = (w1.setCell ⟨w.heap.size, 0, none⟩ (.string mt)).setCell ⟨w.heap.size, 1, none⟩ (.slice A1 M.length c1) := ⟨_, rfl⟩
    have B1 : Below w.heap.size w W1 := by rw [hW1]; exact ((after1 hb1).setCell (by show _ ≤ w.heap.size; omega) _).setCell (by show _ ≤ w.heap.size; omega) _
    have K0 : Hid (W1.heap[w.heap.size]? = some (.cells #[.string mt, .slice A1 M.length c1] 24 (0, 0))) := by
      show _ = _
      rw [hW1]; exact blk_set (blk_set ((hb1.block w.heap.size (by simp)).trans (heap_alloc_new w _)) 0 _) 1 _
    have R1 : Rd encF 2 W1 (.slice A1 M.length c1) M := by
      rw [hW1]; exact ((hO1.setCell (by simp) _).setCell (by simp) _).rd encF_len
    have hl1 : w.heap.size < W1.heap.size := (Array.getElem?_eq_some_iff.1 K0.out).1
    rw [← hW1]
    clear hW1 hO1 hb1 hz1 hf1 hc0 hc1
    have hF2 := law19_Few mt _ M W1 R1
    rw [HFF.out, HCC.out] at hF2
    refine hF2.mono ?_
    rintro e w2 ⟨v2, rfl, hO2, hb2⟩
    obtain ⟨A2, c2, rfl⟩ := Own.len hO2
    have R1' := Lib.hid R1
    have B1' := Lib.hid B1
    clear hF2 R1 B1
    have K02 : Hid (w2.heap[w.heap.size]? = some (.cells #[.string mt, .slice A1 M.length c1] 24 (0, 0))) := (hb2.block _ hl1).trans K0.out
    obtain ⟨hz2, hf2, hc20, hc21⟩ := blkf2 K02.out
    go_wp2_with fail
    try rw [hV]
    obtain ⟨W2, hW2⟩ : ∃ W2, W2 = w2.alloc (.cells #[.string mt, .slice A2 M.length c2] 24) := ⟨_, rfl⟩
    have B2 : Below W1.heap.size W1 W2 := by rw [hW2]; exact bthen hb2 (alloc1 _ _)
    have K7 : Hid (W2.heap[w2.heap.size]? = some (.cells #[.string mt, .slice A2 M.length c2] 24 (0, 0))) := by show _ = _; rw [hW2]; exact heap_alloc_new w2 _
    have R7 : Hid (Rd encF 2 W2 (.slice A2 M.length c2) M) := by show Rd _ _ _ _ _; rw [hW2]; exact (hO2.alloc _).rd encF_len
    have hl7 : w2.heap.size < W2.heap.size := by rw [hW2]; simp
    have hl17 : W1.heap.size ≤ w2.heap.size := hb2.size
    have K0' : Hid (W2.heap[w.heap.size]? = some (.cells #[.string mt, .slice A1 M.length c1] 24 (0, 0))) := (B2.block _ hl1).trans K0.out
    have R0 : Hid (Rd encF 2 W2 (.slice A1 M.length c1) M) := R1'.out.below B2
    have BW2 : Hid (Below w.heap.size w W2) := bthen B1'.out B2
    have hl0 : w.heap.size < W2.heap.size := by omega
    rw [← hW2]
    clear hW2 hO2 hb2 K02 hz2 hf2 hc20 hc21 K0 R1' B1' B2
    try clear hV
    refine (HGa.out _ W2 R0.out).mono ?_
    rintro e w3 ⟨rfl, hb3⟩
    obtain ⟨hz3, hf3, hc30, hc31⟩ := blkf2 ((hb3.block _ hl0).trans K0'.out)
    go_wp2_with fail
    refine (HGb.out _ w3 (R0.out.below hb3)).mono ?_
    rintro e w4 ⟨rfl, hb4'⟩
    have hb4 := bthen hb3 hb4'
    obtain ⟨hz4, hf4, hc40, hc41⟩ := blkf2 ((hb4.block _ hl0).trans K0'.out)
    clear hb3 hb4' hz3 hf3 hc30 hc31
    go_wp2_with fail
    refine (HPa.out _ w4 (R0.out.below hb4)).mono ?_
    rintro e w5 ⟨v5, rfl, hr5, hb5'⟩
    obtain ⟨A5, c5, rfl, -⟩ := id hr5
    have hb5 := bthen hb4 hb5'
    obtain ⟨hz5, hf5, hc50, hc51⟩ := blkf2 ((hb5.block _ hl0).trans K0'.out)
    clear hb4 hb5' hz4 hf4 hc40 hc41
    go_wp2_with fail
    obtain ⟨W5, hW5⟩ : ∃ W5, W5 = w5.alloc (.cells #[.string mt, .slice A5 P.length c5] 24) := ⟨_, rfl⟩
    have B5 : Hid (Below W2.heap.size W2 W5) := by show Below _ _ _; rw [hW5]; exact bthen hb5 (alloc1 _ _)
    have K12 : Hid (W5.heap[w5.heap.size]? = some (.cells #[.string mt, .slice A5 P.length c5] 24 (0, 0))) := by show _ = _; rw [hW5]; exact heap_alloc_new w5 _
    have R12 : Hid (Rd encF 2 W5 (.slice A5 P.length c5) P) := by show Rd _ _ _ _ _; rw [hW5]; exact hr5.below (alloc1 _ _)
    have hl12 : w5.heap.size < W5.heap.size := by rw [hW5]; simp
    have hl25 : W2.heap.size ≤ w5.heap.size := hb5.size
    rw [← hW5]
    clear hW5 hr5 hb5 hz5 hf5 hc50 hc51
    refine (HPb.out _ W5 (R0.out.below B5.out)).mono ?_
    rintro e w6 ⟨v6, rfl, hr6, hb6⟩
    obtain ⟨A6, c6, rfl, -⟩ := id hr6
    obtain ⟨hz6, hf6, hc60, hc61⟩ := blkf2 ((hb6.block _ hl12).trans K12.out)
    go_wp2_with fail
    obtain ⟨W6, hW6⟩ : ∃ W6, W6 = w6.alloc (.cells #[.string mt, .slice A6 P.length c6] 24) := ⟨_, rfl⟩
    have B6 : Hid (Below W5.heap.size W5 W6) := by show Below _ _ _; rw [hW6]; exact bthen hb6 (alloc1 _ _)
    have K13 : Hid (W6.heap[w6.heap.size]? = some (.cells #[.string mt, .slice A6 P.length c6] 24 (0, 0))) := by show _ = _; rw [hW6]; exact heap_alloc_new w6 _
    have R13 : Hid (Rd encF 2 W6 (.slice A6 P.length c6) P) := by show Rd _ _ _ _ _; rw [hW6]; exact hr6.below (alloc1 _ _)
    have hl13 : w6.heap.size < W6.heap.size := by rw [hW6]; simp
    have hl56 : W5.heap.size ≤ w6.heap.size := hb6.size
    rw [← hW6]
    clear hW6 hr6 hb6 hz6 hf6 hc60 hc61
    refine (HGc.out _ W6 (R12.out.below B6.out)).mono ?_
    rintro e w7 ⟨rfl, hb7⟩
    have B27 : Below W2.heap.size W2 w7 := bthen B5.out (bthen B6.out hb7)
    have B57 : Below W5.heap.size W5 w7 := bthen B6.out hb7
    have hk : Hid (∀ W, Below w7.heap.size w7 W → W.cell? ⟨w.heap.size, 0, none⟩ = some (.string mt) ∧ W.cell? ⟨w.heap.size, 1, none⟩ = some (.slice A1 M.length c1) ∧ W.cell? ⟨w2.heap.size, 0, none⟩ = some (.string mt) ∧ W.cell? ⟨w2.heap.size, 1, none⟩ = some (.slice A2 M.length c2) ∧ W.cell? ⟨w5.heap.size, 0, none⟩ = some (.string mt) ∧ W.cell? ⟨w5.heap.size, 1, none⟩ = some (.slice A5 P.length c5) ∧ W.cell? ⟨w6.heap.size, 0, none⟩ = some (.string mt) ∧ W.cell? ⟨w6.heap.size, 1, none⟩ = some (.slice A6 P.length c6)) := fun W hb => by
      obtain ⟨-, -, a0, a1⟩ := blkf2 (((bthen B27 hb).block _ hl0).trans K0'.out)
      obtain ⟨-, -, a2, a3⟩ := blkf2 (((bthen B27 hb).block _ hl7).trans K7.out)
      obtain ⟨-, -, a4, a5⟩ := blkf2 (((bthen B57 hb).block _ hl12).trans K12.out)
      obtain ⟨-, -, a6, a7⟩ := blkf2 (((bthen hb7 hb).block _ hl13).trans K13.out)
      exact ⟨a0, a1, a2, a3, a4, a5, a6, a7⟩
    obtain ⟨q0, q1, q2, q3, q4, q5, q6, q7⟩ := hk.out w7 (Below.refl _ _)
    have HXY : Hid (∀ W, Below w7.heap.size w7 W → Calls Tryz.prog 10 #[.agg #[.string mt, .slice A5 P.length c5], .agg #[.string mt, .slice A6 P.length c6]] W fun e w' => e = .returned (.bool true) ∧ Below w7.heap.size w7 w') := fun W hb => (sameM_self mt P ▸ ref19_Same mt mt _ _ P P W (R12.out.below (bthen B57 hb)) (R13.out.below (bthen hb7 hb))).mono fun _ _ h => ⟨h.1, bthen hb h.2⟩
    have HMW : Hid (∀ W, Below w7.heap.size w7 W → Calls Tryz.prog 10 #[.agg #[.string mt, .slice A1 M.length c1], .agg #[.string mt, .slice A2 M.length c2]] W fun e w' => e = .returned (.bool true) ∧ Below w7.heap.size w7 w') := fun W hb => (sameM_self mt M ▸ ref19_Same mt mt _ _ M M W (R0.out.below (bthen B27 hb)) (R7.out.below (bthen B27 hb))).mono fun _ _ h => ⟨h.1, bthen hb h.2⟩
    have HXI : Hid (∀ W, Below w7.heap.size w7 W → Calls Tryz.prog 11 #[.agg #[.string mt, .slice A5 P.length c5], .agg #[.string mt, .slice A6 P.length c6]] W fun e w' => e = .returned (.bool true) ∧ Below w7.heap.size w7 w') := fun W hb => (sameM_self mt P ▸ iso_Same mt mt _ _ P P W (R12.out.below (bthen B57 hb)) (R13.out.below (bthen hb7 hb))).mono fun _ _ h => ⟨h.1, bthen hb h.2⟩
    obtain ⟨bb, hbb⟩ : ∃ bb, bb = sameM mt M mt P := ⟨_, rfl⟩
    have HMI : Hid (∀ W, Below w7.heap.size w7 W → Calls Tryz.prog 11 #[.agg #[.string mt, .slice A1 M.length c1], .agg #[.string mt, .slice A5 P.length c5]] W fun e w' => e = .returned (.bool bb) ∧ Below w7.heap.size w7 w') := fun W hb => (hbb ▸ iso_Same mt mt _ _ M P W (R0.out.below (bthen B27 hb)) (R12.out.below (bthen B57 hb))).mono fun _ _ h => ⟨h.1, bthen hb h.2⟩
    have HMR : Hid (∀ W, Below w7.heap.size w7 W → Calls Tryz.prog 10 #[.agg #[.string mt, .slice A1 M.length c1], .agg #[.string mt, .slice A5 P.length c5]] W fun e w' => e = .returned (.bool bb) ∧ Below w7.heap.size w7 w') := fun W hb => (hbb ▸ ref19_Same mt mt _ _ M P W (R0.out.below (bthen B27 hb)) (R12.out.below (bthen B57 hb))).mono fun _ _ h => ⟨h.1, bthen hb h.2⟩
    have HAW : Hid (∀ W, Below w7.heap.size w7 W → Calls Tryz.prog 12 #[] W fun e w' => e = .returned (.bool true) ∧ Below w7.heap.size w7 w') := fun W hb => (law19_awake W (HG.out.below (bthen BW2.out (bthen B27 hb)))).mono fun _ _ h => ⟨h.1, bthen hb h.2⟩
    have HBW : Hid (Below w.heap.size w w7) := bthen BW2.out B27
    clear hb7 B27 B57 hbb
    go_wp2_with fail
    have tokA : True := trivial
    have tokB : True := trivial
    have tokC : True := trivial
    have hbb : (bb == bb) = true := by simp
    go_region_held3 (fun W => W.cell? ⟨w.heap.size, 0, none⟩ = some (.string mt) ∧ W.cell? ⟨w.heap.size, 1, none⟩ = some (.slice A1 M.length c1) ∧ W.cell? ⟨w2.heap.size, 0, none⟩ = some (.string mt) ∧ W.cell? ⟨w2.heap.size, 1, none⟩ = some (.slice A2 M.length c2) ∧ W.cell? ⟨w5.heap.size, 0, none⟩ = some (.string mt) ∧ W.cell? ⟨w5.heap.size, 1, none⟩ = some (.slice A5 P.length c5) ∧ W.cell? ⟨w6.heap.size, 0, none⟩ = some (.string mt) ∧ W.cell? ⟨w6.heap.size, 1, none⟩ = some (.slice A6 P.length c6)) (first | go_keep | exact hk.out _ (by assumption) | skip) (first | (go_at_call 10; have t0 := tokA; (with_reducible refine Calls.mono (HXY.out _ (by first | assumption | exact (Below.refl _ _).drew))  ?_); clear tokA t0; rintro e w8 ⟨rfl, hw8⟩) | (go_at_call 10; have t0 := tokB; (with_reducible refine Calls.mono (HMW.out _ (by first | assumption | exact (Below.refl _ _).drew))  ?_); clear tokB t0; rintro e w9 ⟨rfl, hw9⟩) | (go_at_call 11; have t0 := tokC; (with_reducible refine Calls.mono (HXI.out _ (by first | assumption | exact (Below.refl _ _).drew))  ?_); clear tokC t0; rintro e w10 ⟨rfl, hw10⟩) | (go_at_call 11; (with_reducible refine Calls.mono (HMI.out _ (by first | assumption | exact (Below.refl _ _).drew))  ?_); rintro e w11 ⟨rfl, hw11⟩) | (go_at_call 10; (with_reducible refine Calls.mono (HMR.out _ (by first | assumption | exact (Below.refl _ _).drew))  ?_); rintro e w12 ⟨rfl, hw12⟩) | (go_at_call 12; (with_reducible refine Calls.mono (HAW.out _ (by first | assumption | exact (Below.refl _ _).drew))  ?_); rintro e w13 ⟨rfl, hw13⟩))
    all_goals
      go_wp2
      go_ret
      exact ⟨by simp, bthen HBW.out hw13⟩
end Go.Proofs.YtbafhmhjkoelnaaGreatDoor
