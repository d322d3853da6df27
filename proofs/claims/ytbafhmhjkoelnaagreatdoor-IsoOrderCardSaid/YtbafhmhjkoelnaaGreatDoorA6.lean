/- XA6: slices.Insert of one field. -/
import Derived.Test.YtbafhmhjkoelnaaGreatDoorA5
namespace Go.Proofs.YtbafhmhjkoelnaaGreatDoor
open Go.RowKit

set_option maxRecDepth 100000 in
set_option maxHeartbeats 4000000 in
theorem insert_F_end (base : Nat) (w0 w : World) (v : Value) (xs : List Field) (Bv : Nat) (y : Field) (HO : Own encF 2 34 base w v xs) (HB : Below base w0 w) (hbase : base ≤ w.heap.size) (hl : xs.length ≤ 1000000)
    (hv : Row encF 34 w Bv [y] []) :
    Calls Tryz.prog 19 #[v, .int .i64 xs.length, .slice (some ⟨Bv, 0, none⟩) 1 1] w fun e w' => ∃ v', e = .returned v' ∧ Own encF 2 34 base w' v' (xs ++ [y]) ∧ Below base w0 w' := by
  have HV := Lib.hid hv
  obtain ⟨A, c, rfl⟩ := Own.len HO
  obtain ⟨-, h | ⟨g, tl, rfl, hg, hnc, hcm, hR, htl⟩⟩ := HO.row encF_len
  · obtain ⟨rfl, rfl, rfl⟩ := h
    clear hv
    go_enter Tryz.func19, Tryz.ntmps19
    go_wp2_with (at_builtin; refine wp_appendRd encF 2 encF_len encF_one (w0 := w0) base rfl _ _ 22 34 (.agg #[.int .i64 0, .string ⟨#[]⟩]) 24 rfl Tryz.underlying22 infoF rfl (by decide) _ _ [y] rfl ⟨Bv, 0, none⟩ _ _ rfl (HV.out.rd encF_len (Nat.le_refl _) (by decide)) HO HB hbase (by simp) (by decide) ?_; intro v1 w1 ho1 hb1 hg1)
    go_ret
    exact ⟨_, rfl, ho1, hb1⟩
  · have hcm' : c ≤ 9223372036854775807 := by simpa [maxLen] using hcm
    clear hv hR htl hcm
    have HOh := Lib.hid HO
    clear HO
    by_cases hc : c = xs.length
    · subst hc
      go_enter Tryz.func19, Tryz.ntmps19
      go_wp2_with (at_builtin; refine wp_appendRd encF 2 encF_len encF_one (w0 := w0) base rfl _ _ 22 34 (.agg #[.int .i64 0, .string ⟨#[]⟩]) 24 rfl Tryz.underlying22 infoF rfl (by decide) _ _ [y] rfl ⟨Bv, 0, none⟩ _ _ rfl (HV.out.rd encF_len (Nat.le_refl _) (by decide)) HOh.out HB hbase (by simp; omega) (by decide) ?_; intro v1 w1 ho1 hb1 hg1)
      go_ret
      exact ⟨_, rfl, ho1, hb1⟩
    · go_enter Tryz.func19, Tryz.ntmps19
      go_wp2_with (at_builtin; refine wp_appendRd encF 2 encF_len encF_one (w0 := w0) base rfl _ _ 22 34 (.agg #[.int .i64 0, .string ⟨#[]⟩]) 24 rfl Tryz.underlying22 infoF rfl (by decide) _ _ [y] rfl ⟨Bv, 0, none⟩ _ _ rfl (HV.out.rd encF_len (Nat.le_refl _) (by decide)) HOh.out HB hbase (by simp; omega) (by decide) ?_; intro v1 w1 ho1 hb1 hg1)
      go_ret
      exact ⟨_, rfl, ho1, hb1⟩

set_option maxRecDepth 100000 in
set_option maxHeartbeats 4000000 in
theorem insert_F_grow (base : Nat) (w0 w : World) (g i : Nat) (tl : List Value) (xs : List Field) (Bv : Nat) (y : Field) (_hg : base ≤ g) (hR : Row encF 34 w g xs tl) (hi : i < xs.length) (HB : Below base w0 w) (hbase : base ≤ w.heap.size) (hl : xs.length ≤ 1000000)
    (hv : Row encF 34 w Bv [y] []) :
    Calls Tryz.prog 19 #[.slice (some ⟨g, 0, none⟩) xs.length xs.length, .int .i64 i, .slice (some ⟨Bv, 0, none⟩) 1 1] w fun e w' => ∃ v', e = .returned v' ∧ Own encF 2 34 base w' v' (xs.take i ++ y :: xs.drop i) ∧ Below base w0 w' := by
  obtain ⟨i0, hi0, hzz⟩ := Option.map_eq_some_iff.1 infoF
  simp only [Prod.mk.injEq] at hzz
  obtain ⟨hz0, hz1, hz2⟩ := hzz
  have hlt : (xs.take i).length = i := by rw [List.length_take]; omega
  have hld : (xs.drop i).length = xs.length - i := List.length_drop
  have hold : (Builtin.firstCells i0.size i (.slice (some ⟨g, 0, none⟩) i xs.length)).run Tryz.prog w.drew = .ok ((xs.take i).flatMap encF).toArray w.drew := by
    rw [hz1]
    refine run_firstCells_some w.drew 2 i ⟨g, 0, none⟩ i xs.length ((xs.take i).flatMap encF) (by rw [flat_len encF_len, hlt]) (fun j u hj => ?_)
    obtain ⟨q, x, r, e1, e2, e3⟩ := flat_inv encF_len _ j u hj
    have hq : xs[q]? = some x := by
      rw [List.getElem?_take] at e1
      split at e1
      · exact e1
      · cases e1
    rw [Addr.add_lit, Nat.zero_add, e3]
    exact hR.at encF_len hq e2
  have hap := fun ty => Lib.run_append_grow_zeros (P := Tryz.prog) w 22 3 ty 34 i0 _ .i64 .i64 Tryz.underlying22 Tryz.underlying3 hi0 hz0 (some ⟨g, 0, none⟩) i xs.length ((xs.take i).flatMap encF) hold (xs.length + 1 - i) (by omega) (by omega) (by omega) (by omega) (by rw [hz2]; omega) (by rw [hz2]; exact growslice_fits (by omega) (by omega))
  rw [show i + (xs.length + 1 - i) = xs.length + 1 by omega] at hap
  obtain ⟨G, hG⟩ : ∃ G, G = grownCap w (xs.length + 1) xs.length 34 := ⟨_, rfl⟩
  have hGn : xs.length + 1 ≤ G := by rw [hG]; exact grownCap_ge w _ _ _
  have hGm : G ≤ maxLen := by rw [hG]; exact grownCap_le_maxLen w _ _ _ (by unfold maxLen; omega)
  rw [← hG] at hap
  obtain ⟨W1, hap1, hW1, hB1, hR1, hV1⟩ : ∃ W1, (∀ ty, (Builtin.append_ #[22, 3] ty #[.slice (some ⟨g, 0, none⟩) i xs.length, .int .i64 ((xs.length + 1 - i : Nat) : Int)]).run Tryz.prog w = .ok (.slice (some ⟨w.heap.size, 0, none⟩) (xs.length + 1) G) W1) ∧
      (∃ Z, W1.heap[w.heap.size]? = some (.cells ((xs.take i).flatMap encF ++ Z).toArray 34 (0, 0)) ∧ Z.length = (G - i) * 2) ∧ Below base w0 W1 ∧ Row encF 34 W1 g xs tl ∧ Row encF 34 W1 Bv [y] [] := by
    have hbl := alloc1 w.drew (.cells (((xs.take i).flatMap encF).toArray ++ Builtin.zeroCells (Value.agg #[.int .i64 0, .string ⟨#[]⟩]).cells (xs.length + 1 - i) ++ Builtin.zeroCells (Value.agg #[.int .i64 0, .string ⟨#[]⟩]).cells (G - (xs.length + 1))) 34)
    refine ⟨_, hap, ⟨(Builtin.zeroCells (Value.agg #[.int .i64 0, .string ⟨#[]⟩]).cells (xs.length + 1 - i)).toList ++ (Builtin.zeroCells (Value.agg #[.int .i64 0, .string ⟨#[]⟩]).cells (G - (xs.length + 1))).toList, ?_, ?_⟩, ?_, ?_, ?_⟩
    · refine (heap_alloc_new w.drew _).trans ?_
      congr 2
      apply Array.ext'; simp
    · simp only [List.length_append, Array.length_toList, size_zeros]; simp [Value.cells]; omega
    · exact (HB.drew).trans (hbl.mono hbase)
    · exact Row.below (w := w.drew) hR hbl
    · exact Row.below (w := w.drew) hv hbl
  rw [show ((xs.length + 1 - i : Nat) : Int) = (xs.length : Int) + 1 - (i : Int) by omega] at hap1
  obtain ⟨Z, hZ, hZl⟩ := hW1
  have hsw : base ≤ w.heap.size := hbase
  obtain ⟨W2, hc2, hr2, hb2, ho2, hs2⟩ := copy_row (P := Tryz.prog) W1 22 22 34 2 w.heap.size (xs.length + 1 - i) (G - i) ⟨Bv, 0, none⟩ 1 1 _ Z 34 (encF y) Tryz.underlying22 sizeF hZ (i * 2) (by rw [flat_len encF_len, hlt]) (by rw [encF_len, show Nat.min 1 (xs.length + 1 - i) = 1 by simp [Nat.min_def]; omega])
    (fun j u hj => by rw [Addr.add_lit]; have := hV1.at encF_len (j := 0) (x := y) rfl hj; simpa using this) (by rw [encF_len]; omega) (encF_one y) hB1 hsw
  have hgne : g ≠ w.heap.size := by have := hR.lt; omega
  have hR2 : Row encF 34 W2.drew g xs tl := (ho2 g hgne).trans hR1
  obtain ⟨W3, hc3, hr3, hb3, ho3, hs3⟩ := copy_row (P := Tryz.prog) W2.drew 22 22 34 2 w.heap.size (xs.length + 1 - (i + 1)) (G - (i + 1)) ⟨g, i * 2, none⟩ (xs.length - i) (xs.length - i) ((xs.take i).flatMap encF ++ encF y) (Z.drop (encF y).length) 34 ((xs.drop i).flatMap encF) Tryz.underlying22 sizeF hr2 ((i + 1) * 2) (by rw [List.length_append, flat_len encF_len, hlt, encF_len]; omega) (by rw [flat_len encF_len, hld]; congr 1; simp)
    (fun j u hj => by
      obtain ⟨q, x, r, e1, e2, e3⟩ := flat_inv encF_len _ j u hj
      rw [List.getElem?_drop] at e1
      rw [Addr.add_lit, e3, ← Nat.add_assoc, ← Nat.add_mul]
      exact hR2.at encF_len e1 e2) (by rw [flat_len encF_len, hld, List.length_drop, encF_len]; omega) (flat_one encF_one _) hb2.drew hsw
  have hO : Own encF 2 34 base W3 (.slice (some ⟨w.heap.size, 0, none⟩) (xs.length + 1) G) (xs.take i ++ y :: xs.drop i) := by
    have hrow : Row encF 34 W3 w.heap.size (xs.take i ++ y :: xs.drop i) ((Z.drop (encF y).length).drop ((xs.drop i).flatMap encF).length) := by
      unfold Row; rw [hr3]; simp [List.flatMap_append]
    have hln : (xs.take i ++ y :: xs.drop i).length = xs.length + 1 := by rw [List.length_append, List.length_cons, hlt, hld]; omega
    have := hrow.own encF_len hsw (c := G) (by omega) hGm (by rw [List.length_drop, List.length_drop, encF_len, flat_len encF_len, hld, hln]; omega)
    rwa [hln] at this
  have HO3 := Lib.hid hO
  have HB3 := Lib.hid hb3
  have HA1 := fun ty => Lib.hid (hap1 ty)
  have HC2 := fun ty => Lib.hid (hc2 ty)
  have HC3 := fun ty => Lib.hid (hc3 ty)
  have hg1 : ¬ G = i := by omega
  have hg2 : ¬ G = i + 1 := by omega
  have hg3 : ¬ xs.length = i := by omega
  have hGm' : G ≤ 9223372036854775807 := by simpa [maxLen] using hGm
  clear hO hb3 hap1 hc2 hc3 hap hG hGm hold hz0 hz1 hz2 hi0 hr2 hr3 hR1 hR2 hV1 hv hR hZ hZl hb2 ho2 ho3 hs2 hs3 hB1 HB hlt hld
  go_enter Tryz.func19, Tryz.ntmps19
  go_wp2_with (first
    | (at_builtin; refine wp_append_run rfl _ _ _ _ rfl _ _ rfl rfl (HA1 _).out ?_)
    | (refine wp_copy_run rfl _ _ 22 22 rfl _ _ rfl rfl (HC2 _).out ?_))
  have hw1 : IntKind.i64.wrap ((i : Int) + 1) = (i : Int) + 1 := by rw [IntKind.wrap_i64]; omega
  have hb1 : (0 : Int) ≤ (i : Int) + 1 := by omega
  have htn : ((i : Int) + 1).toNat = i + 1 := by omega
  have hin : i ≤ xs.length := by omega
  have hin2 : (i : Int) ≤ (xs.length : Int) := by omega
  go_region_law (refine step_copy_run rfl _ _ 22 22 rfl _ _ (by simp [Act.eval, Act.put]) (by simp [Act.eval, Act.put]) (HC3 _).out ?_)
  go_wp2
  go_ret
  exact ⟨_, rfl, HO3.out, HB3.out⟩
end Go.Proofs.YtbafhmhjkoelnaaGreatDoor
