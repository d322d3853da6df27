/-
  Package spec: what a field is, which texts it may be, how it stands in a message.
-/
import Derived.Test.YtbafhmhjkoelnaaGreatDoorE
namespace Go.Proofs.YtbafhmhjkoelnaaGreatDoor
open Go.RowKit

def specTab : List Spec := tabTo 54
def noSpec : Spec := ⟨0, 0, 0⟩
def specAt (n : Int) : Spec := if 0 ≤ n ∧ n ≤ 128 then specTab.getD n.toNat noSpec else noSpec
def ofE (n : Int) : Int := if specAt n = noSpec then 7 else 0

theorem run_table (T : List Spec) (_hT : T.length = 129) (n : Nat) (hn : n < 129) (x : Spec) (hx : T[n]? = some x) (w : World) :
    (Instr.index 83 (.agg (T.flatMap encS).toArray) (.int .i64 n)).run Tryz.prog w = .ok (.agg #[.int .i64 x.kind, .int .i64 x.var, .int .i64 x.len]) w := by
  have hn' : (0 : Int) ≤ (n : Int) ∧ (n : Int) < (129 : Nat) := by omega
  have h := fun i u hi => flat_at (enc := encS) encS_len T n x hx i u hi
  have hd : ((T.flatMap encS).drop (n * 3)).take 3 = [.int .i64 x.kind, .int .i64 x.var, .int .i64 x.len] := by
    apply List.ext_getElem?
    intro i
    show _ = (encS x)[i]?
    rw [List.getElem?_take, List.getElem?_drop]
    split
    · rename_i hi
      have hx3 : (encS x).length = 3 := rfl
      rw [h i _ (List.getElem?_eq_getElem (by omega)), List.getElem?_eq_getElem (by omega)]
    · rw [List.getElem?_eq_none (by rw [encS_len]; omega)]
  simp [Instr.index, run_underlying Tryz.underlying83, asIntOf, hn', go_sem, part]
  rw [if_pos hn, hd]

theorem specTab_len : specTab.length = 129 := tabTo_len 54
theorem specTab_kinds : ∀ x ∈ specTab, x = noSpec ∨ (1 ≤ x.kind ∧ x.kind ≤ 4 ∧ x.var ≤ 3 ∧ x.len ≤ 999) := by decide +kernel
set_option maxHeartbeats 2000000 in
theorem spec_Of (n : Int) (w : World) (hG : G w) : Calls Tryz.prog 36 #[.int .i64 n] w fun e w' => e = .returned (.tuple #[.agg #[.int .i64 (specAt n).kind, .int .i64 (specAt n).var, .int .i64 (specAt n).len], .int .i64 (ofE n)]) ∧ Below w.heap.size w w' := by
  by_cases h : 0 ≤ n ∧ n ≤ 128
  · obtain ⟨h1, h2⟩ := h
    obtain ⟨n, rfl⟩ := Int.eq_ofNat_of_zero_le h1
    obtain ⟨x, hx⟩ : ∃ x, specTab[n]? = some x := ⟨_, List.getElem?_eq_getElem (by rw [specTab_len]; omega)⟩
    have hS : specAt n = x := by
      unfold specAt; rw [if_pos ⟨h1, h2⟩, Int.toNat_natCast, List.getD_eq_getElem?_getD, hx]; rfl
    have hT := fun w => spec_table w
    have hI := run_table specTab specTab_len n (by omega) x hx
    have hT : ∀ w, G w → Calls Tryz.prog 46 #[] w fun e w' => e = .returned (.agg (specTab.flatMap encS).toArray) ∧ Below w.heap.size w w' := spec_table
    generalize (specTab.flatMap encS).toArray = cs at *
    have hE : ofE n = if x = noSpec then 7 else 0 := by unfold ofE; rw [hS]
    rw [hS, hE]
    clear hS hE
    have hK := specTab_kinds x (List.mem_of_getElem? hx)
    clear hx
    have HT := Lib.hid hT
    have HG := Lib.hid hG
    clear hT hG
    by_cases hz : x = noSpec
    · subst hz
      have hI0 : ∀ w, (Instr.index 83 (.agg cs) (.int .i64 n)).run Tryz.prog w = .ok (.agg #[.int .i64 0, .int .i64 0, .int .i64 0]) w := hI
      clear hI
      go_enter Tryz.func36, Tryz.ntmps36
      go_wp2_with (go_at_call 46; refine (HT.out _ (HG.out.below ((Below.refl _ _).alloc (Nat.le_refl _) _))).mono ?_; rintro e w2 ⟨rfl, hb2⟩; obtain ⟨hz2, hf2, hc0, hc1, hc2⟩ := blkf3 ((hb2.block _ (by simp)).trans (heap_alloc_new w _)))
      exact bodyPost_ret (v := .tuple #[.agg #[.int .i64 0, .int .i64 0, .int .i64 0], .int .i64 7]) (by simp [results, Tryz.results36, go_sem, hz2, hc0, hc1, hc2]) rfl ⟨rfl, (by repeat' (first | exact after1 hb2 | refine Below.setCell ?_ (by first | exact Nat.le_refl _ | exact (after1 hb2).size | (simp; done) | (have hz_ := (after1 hb2).size; simp at hz_ ⊢; omega) | (simp; omega) | omega) _ | refine Below.alloc ?_ (by first | exact Nat.le_refl _ | exact (after1 hb2).size | (simp; done) | (have hz_ := (after1 hb2).size; simp at hz_ ⊢; omega) | (simp; omega) | omega) _ | refine below_drewN ?_ _))⟩
    · have hk : ¬ x.kind = 0 := by rcases hK with h | h; exact absurd h hz; omega
      clear hK
      rw [if_neg hz]
      go_enter Tryz.func36, Tryz.ntmps36
      go_wp2_with (go_at_call 46; refine (HT.out _ (HG.out.below ((Below.refl _ _).alloc (Nat.le_refl _) _))).mono ?_; rintro e w2 ⟨rfl, hb2⟩; obtain ⟨hz2, hf2, hc0, hc1, hc2⟩ := blkf3 ((hb2.block _ (by simp)).trans (heap_alloc_new w _)))
      exact bodyPost_ret (v := .tuple #[.agg #[.int .i64 x.kind, .int .i64 x.var, .int .i64 x.len], .int .i64 0]) (by simp [results, Tryz.results36, go_sem, hz2, hc0, hc1, hc2]) rfl ⟨rfl, (by repeat' (first | exact after1 hb2 | refine Below.setCell ?_ (by first | exact Nat.le_refl _ | exact (after1 hb2).size | (simp; done) | (have hz_ := (after1 hb2).size; simp at hz_ ⊢; omega) | (simp; omega) | omega) _ | refine Below.alloc ?_ (by first | exact Nat.le_refl _ | exact (after1 hb2).size | (simp; done) | (have hz_ := (after1 hb2).size; simp at hz_ ⊢; omega) | (simp; omega) | omega) _ | refine below_drewN ?_ _))⟩
  · have hS : specAt n = noSpec := if_neg h
    have hE : ofE n = 7 := by unfold ofE; rw [hS]; rfl
    rw [hS, hE]
    clear hS hE hG
    rcases Int.lt_or_le n 0 with h1 | h1
    · go_enter Tryz.func36, Tryz.ntmps36
      go_wp2
      exact bodyPost_ret (v := .tuple #[.agg #[.int .i64 0, .int .i64 0, .int .i64 0], .int .i64 7]) (by simp [results, Tryz.results36, go_sem]) rfl ⟨rfl, (Below.refl _ _).alloc (Nat.le_refl _) _⟩
    · have h2 : 128 < n := by omega
      have h3 : ¬ n < 0 := by omega
      clear h
      go_enter Tryz.func36, Tryz.ntmps36
      go_wp2
      exact bodyPost_ret (v := .tuple #[.agg #[.int .i64 0, .int .i64 0, .int .i64 0], .int .i64 7]) (by simp [results, Tryz.results36, go_sem]) rfl ⟨rfl, (Below.refl _ _).alloc (Nat.le_refl _) _⟩
end Go.Proofs.YtbafhmhjkoelnaaGreatDoor
