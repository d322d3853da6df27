/- XA7: slices.Insert of one field: in place; at any place. -/
import Derived.Test.YtbafhmhjkoelnaaGreatDoorA6
namespace Go.Proofs.YtbafhmhjkoelnaaGreatDoor
open Go.RowKit

set_option maxRecDepth 100000 in
set_option maxHeartbeats 4000000 in
theorem insert_F_shift (base : Nat) (w0 w : World) (g i c : Nat) (tl : List Value) (xs : List Field) (Bv : Nat) (y : Field) (hg : base ≤ g) (hR : Row encF 34 w g xs tl) (hi : i < xs.length) (hc : xs.length + 1 ≤ c) (hcm : c ≤ maxLen) (htl : tl.length = (c - xs.length) * 2) (HB : Below base w0 w) (hl : xs.length ≤ 1000000)
    (hv : Row encF 34 w Bv [y] []) (hne : Bv ≠ g) :
    Calls Tryz.prog 19 #[.slice (some ⟨g, 0, none⟩) xs.length c, .int .i64 i, .slice (some ⟨Bv, 0, none⟩) 1 1] w fun e w' => ∃ v', e = .returned v' ∧ Own encF 2 34 base w' v' (xs.take i ++ y :: xs.drop i) ∧ Below base w0 w' := by
  have hlt : (xs.take i).length = i := by rw [List.length_take]; omega
  have hlt1 : (xs.take (i + 1)).length = i + 1 := by rw [List.length_take]; omega
  have hld : (xs.drop i).length = xs.length - i := List.length_drop
  have hld1 : (xs.drop (i + 1)).length = xs.length - (i + 1) := List.length_drop
  have hov : ∀ lb cb, (callFunc 23 #[.slice (some ⟨Bv, 0, none⟩) 1 1, .slice (some ⟨g, (i + 1) * 2, none⟩) lb cb]).run Tryz.prog w = .ok (.value (.bool false)) w := fun lb cb => by
    rw [run_callFunc_extern Tryz.func23 (by kernel_rfl) (by kernel_rfl) (by kernel_rfl) (e := Extern.SlicesOverlaps.overlaps #[22, 22] #[4]) (by kernel_rfl),
      Lib.run_overlaps_apart w 22 4 34 Tryz.underlying22 2 (fun w => by kernel_rfl) ⟨Bv, 0, none⟩ ⟨g, (i + 1) * 2, none⟩ 1 1 lb cb hne 34 34 2 (xs.length * 2 + tl.length) (by have := hv; unfold Row at this; simp [World.shape?, this, encF]) (by have := hR; unfold Row at this; simp only [World.shape?, this, List.size_toArray, List.length_append, flat_len encF_len]) (by omega) (blk_frozen hv _) (blk_frozen hv _)]
    rfl
  have hsplit : xs.flatMap encF = (xs.take (i + 1)).flatMap encF ++ (xs.drop (i + 1)).flatMap encF := by rw [← List.flatMap_append, List.take_append_drop]
  have hZ : w.drew.heap[g]? = some (.cells ((xs.take (i + 1)).flatMap encF ++ ((xs.drop (i + 1)).flatMap encF ++ tl)).toArray 34 (0, 0)) := by
    rw [← List.append_assoc, ← hsplit]; exact hR
  obtain ⟨W2, hc2, hr2, hb2, ho2, hs2⟩ := copy_row (P := Tryz.prog) w.drew 22 22 34 2 g (xs.length + 1 - (i + 1)) (c - (i + 1)) ⟨g, i * 2, none⟩ (xs.length + 1 - i) (c - i) _ _ 34 ((xs.drop i).flatMap encF) Tryz.underlying22 sizeF hZ ((i + 1) * 2) (by rw [flat_len encF_len, hlt1]) (by rw [flat_len encF_len, hld]; congr 1; simp only [Nat.min_def]; split <;> omega)
    (fun j u hj => by
      obtain ⟨q, x, r, e1, e2, e3⟩ := flat_inv encF_len _ j u hj
      rw [List.getElem?_drop] at e1
      rw [Addr.add_lit, e3, ← Nat.add_assoc, ← Nat.add_mul]
      exact Row.at (w := w.drew) encF_len hR e1 e2) (by rw [flat_len encF_len, hld, List.length_append, flat_len encF_len, hld1, htl]; omega) (flat_one encF_one _) HB.drew hg
  have hx1 : (xs.take (i + 1)).flatMap encF = (xs.take i).flatMap encF ++ encF xs[i] := by rw [take_snoc xs i xs[i] (List.getElem?_eq_getElem hi), List.flatMap_append]; simp
  rw [hx1, List.append_assoc, List.append_assoc] at hr2
  have hv2 : Row encF 34 W2 Bv [y] [] := (ho2 Bv hne).trans hv
  obtain ⟨W3, hc3, hr3, hb3, ho3, hs3⟩ := copy_row (P := Tryz.prog) W2 22 22 34 2 g (xs.length + 1 - i) (c - i) ⟨Bv, 0, none⟩ 1 1 _ _ 34 (encF y) Tryz.underlying22 sizeF hr2 (i * 2) (by rw [flat_len encF_len, hlt]) (by rw [encF_len, show Nat.min 1 (xs.length + 1 - i) = 1 by simp [Nat.min_def]; omega])
    (fun j u hj => by rw [Addr.add_lit]; have := hv2.at encF_len (j := 0) (x := y) rfl hj; simpa using this) (by rw [List.length_append, encF_len, encF_len]; omega) (encF_one y) hb2 hg
  have hO : Own encF 2 34 base W3 (.slice (some ⟨g, 0, none⟩) (xs.length + 1) c) (xs.take i ++ y :: xs.drop i) := by
    have hrow : Row encF 34 W3 g (xs.take i ++ y :: xs.drop i) (((xs.drop (i + 1)).flatMap encF ++ tl).drop ((xs.drop i).flatMap encF).length) := by
      unfold Row; rw [hr3, List.drop_left' (by rw [encF_len, encF_len])]; simp [List.flatMap_append]
    have hln : (xs.take i ++ y :: xs.drop i).length = xs.length + 1 := by rw [List.length_append, List.length_cons, hlt, hld]; omega
    have := hrow.own encF_len hg (c := c) (by omega) hcm (by rw [List.length_drop, List.length_append, flat_len encF_len, flat_len encF_len, hld, hld1, hln, htl]; omega)
    rwa [hln] at this
  have HO3 := Lib.hid hO
  have HB3 := Lib.hid hb3
  have HC2 := fun ty => Lib.hid (hc2 ty)
  have HC3 := fun ty => Lib.hid (hc3 ty)
  have hg1 : ¬ c = i := by omega
  have hg2 : ¬ c = i + 1 := by omega
  have hcm' : c ≤ 9223372036854775807 := by simpa [maxLen] using hcm
  have hw1 : IntKind.i64.wrap ((i : Int) + 1) = (i : Int) + 1 := by rw [IntKind.wrap_i64]; omega
  have hb1 : (0 : Int) ≤ (i : Int) + 1 := by omega
  have htn : ((i : Int) + 1).toNat = i + 1 := by omega
  have hin : i ≤ xs.length := by omega
  have hin2 : (i : Int) ≤ (xs.length : Int) := by omega
  have hin3 : (i : Int) ≤ (xs.length : Int) + 1 := by omega
  have hz2 : ¬ ((i : Int) = (xs.length : Int)) := by omega
  clear hO hb3 hc2 hc3 hr2 hr3 hv2 hv hR hZ hb2 ho2 ho3 hs2 hs3 HB hlt hld hlt1 hld1 hx1 hsplit hcm htl
  go_enter Tryz.func19, Tryz.ntmps19
  go_wp2_with (simp only [hov])
  go_region_law (refine step_copy_run rfl _ _ 22 22 rfl _ _ (by simp [Act.eval, Act.put]) (by simp [Act.eval, Act.put]) (HC2 _).out ?_)
  go_wp2_with (refine wp_copy_run rfl _ _ 22 22 rfl _ _ rfl rfl (HC3 _).out ?_)
  go_ret
  exact ⟨_, rfl, HO3.out, HB3.out⟩

theorem insert_F (base : Nat) (w0 w : World) (v : Value) (xs : List Field) (i Bv : Nat) (y : Field) (hi : i ≤ xs.length) (HO : Own encF 2 34 base w v xs) (HB : Below base w0 w) (hbase : base ≤ w.heap.size) (hl : xs.length ≤ 1000000)
    (hv : Row encF 34 w Bv [y] []) (hne : v.ownBlock ≠ some Bv) :
    Calls Tryz.prog 19 #[v, .int .i64 i, .slice (some ⟨Bv, 0, none⟩) 1 1] w fun e w' => ∃ v', e = .returned v' ∧ Own encF 2 34 base w' v' (xs.take i ++ y :: xs.drop i) ∧ Below base w0 w' := by
  by_cases hin : i = xs.length
  · subst hin
    rw [List.take_length, List.drop_length]
    exact insert_F_end base w0 w v xs Bv y HO HB hbase hl hv
  · obtain ⟨A, c, rfl⟩ := Own.len HO
    obtain ⟨-, h | ⟨g, tl, rfl, hg, hnc, hcm, hR, htl⟩⟩ := HO.row encF_len
    · obtain ⟨-, rfl, -⟩ := h; exact absurd (Nat.le_zero.1 hi) hin
    · by_cases hc : c = xs.length
      · subst hc
        exact insert_F_grow base w0 w g i tl xs Bv y hg hR (by omega) HB hbase hl hv
      · exact insert_F_shift base w0 w g i c tl xs Bv y hg hR (by omega) (by omega) hcm htl HB hl hv (fun e => hne (by subst e; rfl))
end Go.Proofs.YtbafhmhjkoelnaaGreatDoor
