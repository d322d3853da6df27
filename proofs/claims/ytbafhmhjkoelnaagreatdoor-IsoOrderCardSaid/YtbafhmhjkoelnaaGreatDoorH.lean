/-
  Package spec: Valid, Pack.
-/
import Derived.Test.YtbafhmhjkoelnaaGreatDoorG
namespace Go.Proofs.YtbafhmhjkoelnaaGreatDoor
open Go.RowKit

theorem specAt_ok (n : Int) (h : ofE n = 0) : 1 ≤ (specAt n).kind ∧ (specAt n).kind ≤ 4 ∧ (specAt n).var ≤ 3 ∧ (specAt n).len ≤ 999 := by
  unfold ofE at h
  split at h
  · cases h
  · rename_i hne
    unfold specAt at hne ⊢
    split at hne
    · rename_i hr
      rw [if_pos hr]
      have hlt : n.toNat < specTab.length := by rw [specTab_len]; omega
      have hm : specTab.getD n.toNat noSpec ∈ specTab := by rw [List.getD_eq_getElem?_getD, List.getElem?_eq_getElem hlt]; exact List.getElem_mem hlt
      rcases specTab_kinds _ hm with h | h
      · exact absurd h hne
      · exact h
    · exact absurd rfl hne
theorem ofE_cases (n : Int) : ofE n = 0 ∨ ofE n = 7 := by unfold ofE; split <;> simp
def longOk (x : Spec) (m : Nat) : Bool := decide (m = x.len) || (decide (0 < x.var) && decide (m < x.len))
def validF (n : Int) (s : List UInt8) : Bool := decide (ofE n = 0) && (longOk (specAt n) s.length && pureL (specAt n).kind s)

set_option maxHeartbeats 2000000 in
theorem spec_Valid (n : Int) (s : ByteArray) (hs : s.size ≤ 100000) (w : World) (hG : G w) :
    Calls Tryz.prog 42 #[.int .i64 n, .string s] w fun e w' => e = .returned (.bool (validF n s.data.toList)) ∧ Below w.heap.size w w' := by
  have hlen : s.data.toList.length = s.size := by rw [Array.length_toList]; rfl
  unfold validF
  rw [hlen]
  clear hlen
  have hO := spec_Of n w hG
  have hK := specAt_ok n
  have hE := ofE_cases n
  have HG := Lib.hid hG
  clear hG
  generalize specAt n = x at *
  generalize ofE n = er at *
  obtain ⟨k, v, l⟩ := x
  unfold longOk
  simp only at *
  rcases hE with rfl | rfl
  · obtain ⟨h1, h4, -, -⟩ := hK rfl
    have hP := fun W => spec_pure k v l h1 h4 s hs W
    generalize pureL k s.data.toList = pu at *
    clear hK h1 h4
    by_cases a1 : s.size = l
    · subst a1
      go_enter Tryz.func42, Tryz.ntmps42
      go_wp2_with (first
        | (go_at_call 36; refine hO.mono ?_; rintro e w1 ⟨rfl, hb1⟩; obtain ⟨hc1, hf1⟩ := bcell hb1)
        | (go_at_call 37; refine (hP _).mono ?_; rintro e w2 ⟨rfl, hb2⟩))
      go_ret
      exact ⟨ret_bool (a := pu) (by simp), (by repeat' (first | exact bthen hb1 (after1 hb2) | refine Below.setCell ?_ (by first | exact Nat.le_refl _ | exact (bthen hb1 (after1 hb2)).size | (simp; done) | (have hz_ := (bthen hb1 (after1 hb2)).size; simp at hz_ ⊢; omega) | (simp; omega) | omega) _ | refine Below.alloc ?_ (by first | exact Nat.le_refl _ | exact (bthen hb1 (after1 hb2)).size | (simp; done) | (have hz_ := (bthen hb1 (after1 hb2)).size; simp at hz_ ⊢; omega) | (simp; omega) | omega) _ | refine below_drewN ?_ _))⟩
    · by_cases a2 : 0 < v
      · by_cases a3 : s.size < l
        · go_enter Tryz.func42, Tryz.ntmps42
          go_wp2_with (first
            | (go_at_call 36; refine hO.mono ?_; rintro e w1 ⟨rfl, hb1⟩; obtain ⟨hc1, hf1⟩ := bcell hb1)
            | (go_at_call 37; refine (hP _).mono ?_; rintro e w2 ⟨rfl, hb2⟩))
          go_ret
          exact ⟨ret_bool (a := pu) (by simp [a2, a3]), (by repeat' (first | exact bthen hb1 (after1 hb2) | refine Below.setCell ?_ (by first | exact Nat.le_refl _ | exact (bthen hb1 (after1 hb2)).size | (simp; done) | (have hz_ := (bthen hb1 (after1 hb2)).size; simp at hz_ ⊢; omega) | (simp; omega) | omega) _ | refine Below.alloc ?_ (by first | exact Nat.le_refl _ | exact (bthen hb1 (after1 hb2)).size | (simp; done) | (have hz_ := (bthen hb1 (after1 hb2)).size; simp at hz_ ⊢; omega) | (simp; omega) | omega) _ | refine below_drewN ?_ _))⟩
        · go_enter Tryz.func42, Tryz.ntmps42
          go_wp2_with (first
            | (go_at_call 36; refine hO.mono ?_; rintro e w1 ⟨rfl, hb1⟩; obtain ⟨hc1, hf1⟩ := bcell hb1)
            | (go_at_call 37; refine (hP _).mono ?_; rintro e w2 ⟨rfl, hb2⟩))
          go_ret
          exact ⟨ret_bool (a := false) (by simp [a1, a3]), (by repeat' (first | exact hb1 | refine Below.setCell ?_ (by first | exact Nat.le_refl _ | exact (hb1).size | (simp; done) | (have hz_ := (hb1).size; simp at hz_ ⊢; omega) | (simp; omega) | omega) _ | refine Below.alloc ?_ (by first | exact Nat.le_refl _ | exact (hb1).size | (simp; done) | (have hz_ := (hb1).size; simp at hz_ ⊢; omega) | (simp; omega) | omega) _ | refine below_drewN ?_ _))⟩
      · go_enter Tryz.func42, Tryz.ntmps42
        go_wp2_with (first
          | (go_at_call 36; refine hO.mono ?_; rintro e w1 ⟨rfl, hb1⟩; obtain ⟨hc1, hf1⟩ := bcell hb1)
          | (go_at_call 37; refine (hP _).mono ?_; rintro e w2 ⟨rfl, hb2⟩))
        go_ret
        exact ⟨ret_bool (a := false) (by simp [a1, a2]), (by repeat' (first | exact hb1 | refine Below.setCell ?_ (by first | exact Nat.le_refl _ | exact (hb1).size | (simp; done) | (have hz_ := (hb1).size; simp at hz_ ⊢; omega) | (simp; omega) | omega) _ | refine Below.alloc ?_ (by first | exact Nat.le_refl _ | exact (hb1).size | (simp; done) | (have hz_ := (hb1).size; simp at hz_ ⊢; omega) | (simp; omega) | omega) _ | refine below_drewN ?_ _))⟩
  · clear hK
    by_cases a1 : s.size = l
    · subst a1
      go_enter Tryz.func42, Tryz.ntmps42
      go_wp2_with (go_at_call 36; refine hO.mono ?_; rintro e w1 ⟨rfl, hb1⟩; obtain ⟨hc1, hf1⟩ := bcell hb1)
      go_ret
      exact ⟨ret_bool (a := false) (by simp), (by repeat' (first | exact hb1 | refine Below.setCell ?_ (by first | exact Nat.le_refl _ | exact (hb1).size | (simp; done) | (have hz_ := (hb1).size; simp at hz_ ⊢; omega) | (simp; omega) | omega) _ | refine Below.alloc ?_ (by first | exact Nat.le_refl _ | exact (hb1).size | (simp; done) | (have hz_ := (hb1).size; simp at hz_ ⊢; omega) | (simp; omega) | omega) _ | refine below_drewN ?_ _))⟩
    · by_cases a2 : 0 < v
      · by_cases a3 : s.size < l
        all_goals
          go_enter Tryz.func42, Tryz.ntmps42
          go_wp2_with (go_at_call 36; refine hO.mono ?_; rintro e w1 ⟨rfl, hb1⟩; obtain ⟨hc1, hf1⟩ := bcell hb1)
          go_ret
          exact ⟨ret_bool (a := false) (by simp), (by repeat' (first | exact hb1 | refine Below.setCell ?_ (by first | exact Nat.le_refl _ | exact (hb1).size | (simp; done) | (have hz_ := (hb1).size; simp at hz_ ⊢; omega) | (simp; omega) | omega) _ | refine Below.alloc ?_ (by first | exact Nat.le_refl _ | exact (hb1).size | (simp; done) | (have hz_ := (hb1).size; simp at hz_ ⊢; omega) | (simp; omega) | omega) _ | refine below_drewN ?_ _))⟩
      · go_enter Tryz.func42, Tryz.ntmps42
        go_wp2_with (go_at_call 36; refine hO.mono ?_; rintro e w1 ⟨rfl, hb1⟩; obtain ⟨hc1, hf1⟩ := bcell hb1)
        go_ret
        exact ⟨ret_bool (a := false) (by simp), (by repeat' (first | exact hb1 | refine Below.setCell ?_ (by first | exact Nat.le_refl _ | exact (hb1).size | (simp; done) | (have hz_ := (hb1).size; simp at hz_ ⊢; omega) | (simp; omega) | omega) _ | refine Below.alloc ?_ (by first | exact Nat.le_refl _ | exact (hb1).size | (simp; done) | (have hz_ := (hb1).size; simp at hz_ ⊢; omega) | (simp; omega) | omega) _ | refine below_drewN ?_ _))⟩

theorem itoa_four : ∀ m, m < 1000 → (Lib.itoa ((1000 + m : Nat) : Int)).length = 4 := by decide +kernel
/-- A field as it stands in a message; the error's number. -/
def packF (n : Int) (s : List UInt8) : List UInt8 × Int :=
  if ofE n = 0 then (if validF n s = true then ((Lib.itoa ((1000 + s.length : Nat) : Int)).drop (4 - (specAt n).var) ++ s, 0) else ([], 16)) else ([], 7)

set_option maxHeartbeats 2000000 in
theorem spec_Pack (n : Int) (s : ByteArray) (hs : s.size ≤ 100000) (w : World) (hG : G w) :
    Calls Tryz.prog 32 #[.int .i64 n, .string s] w fun e w' => e = .returned (.tuple #[.string ⟨(packF n s.data.toList).1.toArray⟩, .int .i64 (packF n s.data.toList).2]) ∧ Below w.heap.size w w' := by
  have hlen : s.data.toList.length = s.size := by rw [Array.length_toList]; rfl
  have hO := spec_Of n w hG
  have hV := fun W h => spec_Valid n s hs W h
  have hK := specAt_ok n
  have hvl : validF n s.data.toList = true → s.size ≤ (specAt n).len := by
    unfold validF longOk; rw [hlen]; simp; omega
  have HG := Lib.hid hG
  unfold packF
  rw [hlen]
  clear hlen hG
  rcases ofE_cases n with he | he
  · obtain ⟨-, -, hv3, hl⟩ := hK he
    rw [he] at hO ⊢
    rw [if_pos rfl]
    generalize specAt n = x at *
    obtain ⟨k, v, l⟩ := x
    simp only at *
    generalize validF n s.data.toList = b at *
    clear hK he
    cases b with
    | false =>
      clear hvl
      go_enter Tryz.func32, Tryz.ntmps32
      go_wp2_with (first
        | (go_at_call 36; refine hO.mono ?_; rintro e w1 ⟨rfl, hb1⟩; obtain ⟨hc1, hf1⟩ := bcell hb1)
        | (go_at_call 42; refine (hV _ (HG.out.below (bthen hb1 (alloc1 _ _)))).mono ?_; rintro e w2 ⟨rfl, hb2⟩; obtain ⟨hc2, hf2⟩ := bcell hb2))
      go_ret2
      exact ⟨rfl, bthen hb1 (after1 hb2)⟩
    | true =>
      have h4 := itoa_four s.size (by have := hvl rfl; omega)
      have hI := fun W h => itoa_ok ((1000 + s.size : Nat) : Int) (by unfold i64; omega) W h
      generalize Lib.itoa ((1000 + s.size : Nat) : Int) = d at *
      have hd : Hid ((⟨d.toArray⟩ : ByteArray).size = 4) := by show _ = _; rw [size_mk, h4]
      have hz1 : (0 : Int) ≤ 4 - (v : Int) := by omega
      have hz2 : 4 - (v : Int) ≤ (d.length : Int) := by omega
      have H4 := Lib.hid h4
      have HI := Lib.hid hI
      clear hvl h4 hI
      rw [if_pos rfl]
      go_enter Tryz.func32, Tryz.ntmps32
      go_wp2_with (first
        | (go_at_call 36; refine hO.mono ?_; rintro e w1 ⟨rfl, hb1⟩; obtain ⟨hc1, hf1⟩ := bcell hb1)
        | (go_at_call 42; refine (hV _ (HG.out.below (bthen hb1 (alloc1 _ _)))).mono ?_; rintro e w2 ⟨rfl, hb2⟩; obtain ⟨hz3, hf2, hc0, hc1, hc2⟩ := blkf3 ((hb2.block _ (by simp)).trans (heap_alloc_new w1 _)))
        | (go_at_call 43; refine (HI.out _ (HG.out.below (bthen hb1 (after1 hb2)))).mono ?_; rintro e w3 ⟨rfl, hb3⟩; obtain ⟨hd3, hf3⟩ := bcell hb3))
      · have hbig : 9223372036854775807 < d.length - (4 - v) + s.size := by assumption
        have := H4.out; omega
      · go_ret2
        refine ⟨?_, bthen (bthen hb1 (after1 hb2)) hb3⟩
        refine congrArg (fun t => Ending.returned (.tuple #[.string t, .int .i64 0])) (str_of ?_)
        rw [app_data, Lib.extract_data, List.take_of_length_le (by simp)]
  · rw [he] at hO ⊢
    clear hK hvl he hV
    rw [if_neg (by decide)]
    go_enter Tryz.func32, Tryz.ntmps32
    go_wp2_with (go_at_call 36; refine hO.mono ?_; rintro e w1 ⟨rfl, hb1⟩; obtain ⟨hc1, hf1⟩ := bcell hb1)
    go_ret2
    exact ⟨rfl, (by repeat' (first | exact hb1 | refine Below.setCell ?_ (by first | exact Nat.le_refl _ | exact (hb1).size | (simp; done) | (have hz_ := (hb1).size; simp at hz_ ⊢; omega) | (simp; omega) | omega) _ | refine Below.alloc ?_ (by first | exact Nat.le_refl _ | exact (hb1).size | (simp; done) | (have hz_ := (hb1).size; simp at hz_ ⊢; omega) | (simp; omega) | omega) _ | refine below_drewN ?_ _))⟩
end Go.Proofs.YtbafhmhjkoelnaaGreatDoor
