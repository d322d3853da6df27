/-
  Package spec: Take. Digits' number.
-/
import Derived.Test.YtbafhmhjkoelnaaGreatDoorH
import Derived.StillTailTactics
namespace Go.Proofs.YtbafhmhjkoelnaaGreatDoor
open Go.RowKit

def decF (acc : Nat) (l : List UInt8) : Nat := l.foldl (fun a c => a * 10 + (c.toNat - 48)) acc
def digL (l : List UInt8) : Bool := l.all fun c => decide (48 ≤ c.toNat) && decide (c.toNat ≤ 57)
theorem decF_ge (l : List UInt8) (acc : Nat) : acc ≤ decF acc l := by
  induction l generalizing acc with
  | nil => exact Nat.le_refl _
  | cons c r ih => have := ih (acc * 10 + (c.toNat - 48)); unfold decF at *; rw [List.foldl_cons]; omega
theorem parse_digits (l : List UInt8) (acc : Nat) (hd : digL l = true) (hb : decF acc l < 18446744073709551616) : Lib.parseUint10 acc l = .ok (decF acc l) := by
  induction l generalizing acc with
  | nil => rfl
  | cons c r ih =>
    unfold digL at hd
    rw [List.all_cons, Bool.and_eq_true] at hd
    have hc : 48 ≤ c.toNat ∧ c.toNat ≤ 57 := by simpa using hd.1
    have hb' : decF (acc * 10 + (c.toNat - 48)) r < 18446744073709551616 := hb
    have hge := decF_ge r (acc * 10 + (c.toNat - 48))
    rw [Lib.parseUint10, if_pos hc, if_neg (by omega), if_neg (by omega)]
    exact ih _ hd.2 hb'
theorem decF_lt (l : List UInt8) (acc : Nat) (hd : digL l = true) : decF acc l < (acc + 1) * 10 ^ l.length := by
  induction l generalizing acc with
  | nil => simp [decF]
  | cons c r ih =>
    unfold digL at hd
    rw [List.all_cons, Bool.and_eq_true] at hd
    have hc : 48 ≤ c.toNat ∧ c.toNat ≤ 57 := by simpa using hd.1
    have := ih (acc * 10 + (c.toNat - 48)) hd.2
    have h2 : (acc * 10 + (c.toNat - 48) + 1) * 10 ^ r.length ≤ (acc + 1) * 10 * 10 ^ r.length := Nat.mul_le_mul_right _ (by omega)
    rw [List.length_cons, Nat.pow_succ, Nat.mul_comm (10 ^ r.length) 10, ← Nat.mul_assoc]
    show decF (acc * 10 + (c.toNat - 48)) r < _
    omega
theorem atoi_digits (l : List UInt8) (hd : digL l = true) (hne : l ≠ []) (hlen : l.length ≤ 18) : Lib.atoiAll l = .ok (decF 0 l) := by
  have hlt := decF_lt l 0 hd
  have hp : (10 : Nat) ^ l.length ≤ 10 ^ 18 := Nat.pow_le_pow_right (by omega) hlen
  have hb : decF 0 l < 1000000000000000000 := by simpa using Nat.lt_of_lt_of_le hlt (by simpa using hp)
  have hpm : Lib.parseMag l = .ok (decF 0 l) := by
    unfold Lib.parseMag; rw [if_neg hne]; exact parse_digits l 0 hd (by omega)
  cases l with
  | nil => exact absurd rfl hne
  | cons c r =>
    unfold digL at hd
    rw [List.all_cons, Bool.and_eq_true] at hd
    have hc : 48 ≤ c.toNat ∧ c.toNat ≤ 57 := by simpa using hd.1
    have hn : ¬ c.toNat = 45 := by omega
    unfold Lib.atoiAll
    dsimp only
    rw [if_neg (show ¬ (c.toNat = 43 ∨ c.toNat = 45) by omega), hpm]
    dsimp only
    rw [if_neg (by omega), if_neg (by omega), if_neg hn]

/-- How long a field is, by the octets ahead of it; the error's number. -/
def longF (x : Spec) (s : List UInt8) : Except Int Nat :=
  if x.var = 0 then .ok x.len else if pureL 1 (s.take x.var) = true then (if decF 0 (s.take x.var) ≤ x.len then .ok (decF 0 (s.take x.var)) else .error 16) else .error 16
/-- The field with which a text begins, how many octets, the error's number. -/
def takeF (n : Int) (s : List UInt8) : List UInt8 × Nat × Int :=
  if ofE n = 0 then
    let x := specAt n
    if s.length < x.var then ([], 0, 3)
    else match longF x s with
      | .error e => ([], 0, e)
      | .ok l => if s.length < x.var + l then ([], 0, 3) else if pureL x.kind ((s.drop x.var).take l) = true then ((s.drop x.var).take l, x.var + l, 0) else ([], 0, 16)
  else ([], 0, 7)
theorem pure1_dig (l : List UInt8) : pureL 1 l = digL l := by
  unfold pureL digL; congr 1; funext c
  show digitI _ = _
  unfold digitI
  congr 1 <;> exact decide_eq_decide.2 (by omega)

set_option maxRecDepth 100000 in
set_option maxHeartbeats 4000000 in
theorem spec_Take (n : Int) (s : ByteArray) (hs : s.size ≤ 50000) (w : World) (hG : G w) :
    Calls Tryz.prog 28 #[.int .i64 n, .string s] w fun e w' => e = .returned (.tuple #[.string ⟨(takeF n s.data.toList).1.toArray⟩, .int .i64 (takeF n s.data.toList).2.1, .int .i64 (takeF n s.data.toList).2.2]) ∧ Below w.heap.size w w' := by
  have hlen : s.data.toList.length = s.size := by rw [Array.length_toList]; rfl
  have hO := spec_Of n w hG
  have hK := specAt_ok n
  have HG := Lib.hid hG
  unfold takeF
  rw [hlen]
  clear hG
  rcases ofE_cases n with he | he
  rotate_left
  · rw [he] at hO ⊢
    clear hK he hlen
    rw [if_neg (by decide)]
    go_enter Tryz.func28, Tryz.ntmps28
    go_wp2_with (go_at_call 36; refine hO.mono ?_; rintro e w1 ⟨rfl, hb1⟩; obtain ⟨hc1, hf1⟩ := bcell hb1)
    go_ret3
    exact ⟨rfl, (by repeat' (first | exact hb1 | refine Below.setCell ?_ (by first | exact Nat.le_refl _ | exact (hb1).size | (simp; done) | (have hz_ := (hb1).size; simp at hz_ ⊢; omega) | (simp; omega) | omega) _ | refine Below.alloc ?_ (by first | exact Nat.le_refl _ | exact (hb1).size | (simp; done) | (have hz_ := (hb1).size; simp at hz_ ⊢; omega) | (simp; omega) | omega) _ | refine below_drewN ?_ _))⟩
  obtain ⟨hk1, hk4, hv3, hl9⟩ := hK he
  rw [he] at hO ⊢
  rw [if_pos rfl]
  generalize specAt n = x at *
  obtain ⟨k, v, l⟩ := x
  simp only at *
  clear he hK
  by_cases a1 : s.size < v
  · clear hlen
    rw [if_pos a1]
    go_enter Tryz.func28, Tryz.ntmps28
    go_wp2_with (go_at_call 36; refine hO.mono ?_; rintro e w1 ⟨rfl, hb1⟩; obtain ⟨hc1, hf1⟩ := bcell hb1)
    go_ret3
    exact ⟨rfl, (by repeat' (first | exact hb1 | refine Below.setCell ?_ (by first | exact Nat.le_refl _ | exact (hb1).size | (simp; done) | (have hz_ := (hb1).size; simp at hz_ ⊢; omega) | (simp; omega) | omega) _ | refine Below.alloc ?_ (by first | exact Nat.le_refl _ | exact (hb1).size | (simp; done) | (have hz_ := (hb1).size; simp at hz_ ⊢; omega) | (simp; omega) | omega) _ | refine below_drewN ?_ _))⟩
  · rw [if_neg a1]
    have hP1 : ∀ (u : ByteArray) W, u.size ≤ 100000 → Calls Tryz.prog 37 #[.agg #[.int .i64 1, .int .i64 0, .int .i64 0], .string u] W fun e w' => e = .returned (.bool (pureL 1 u.data.toList)) ∧ Below W.heap.size W w' := fun u W h => spec_pure 1 0 0 (by omega) (by omega) u h W
    have hP2 := fun u W h => spec_pure k v l hk1 hk4 u h W
    by_cases a2 : v = 0
    · have a7 : ¬ (0 : Int) < (v : Int) := by omega
      unfold longF
      rw [if_pos a2]
      dsimp only
      clear hP1 a2
      by_cases a4 : s.size < v + l
      · rw [if_pos a4]
        have a5 : (s.size : Int) < (v : Int) + (l : Int) := by omega
        clear hP2 hlen
        go_enter Tryz.func28, Tryz.ntmps28
        go_wp2_with (first
          | (go_at_call 36; refine hO.mono ?_; rintro e w1 ⟨rfl, hb1⟩; obtain ⟨hc1, hf1⟩ := bcell hb1))
        go_ret3
        exact ⟨rfl, (by repeat' (first | exact hb1 | refine Below.setCell ?_ (by first | exact Nat.le_refl _ | exact (hb1).size | (simp; done) | (have hz_ := (hb1).size; simp at hz_ ⊢; omega) | (simp; omega) | omega) _ | refine Below.alloc ?_ (by first | exact Nat.le_refl _ | exact (hb1).size | (simp; done) | (have hz_ := (hb1).size; simp at hz_ ⊢; omega) | (simp; omega) | omega) _ | refine below_drewN ?_ _))⟩
      · rw [if_neg a4]
        have hx : (s.data.toList.drop v).take l = (s.extract v (v + l)).data.toList := by rw [Lib.extract_data, Nat.add_sub_cancel_left]
        have a5 : ¬ (s.size : Int) < (v : Int) + (l : Int) := by omega
        have a6 : v + l ≤ s.size := by omega
        have a8 : (v : Int) + (l : Int) ≤ (s.size : Int) := by omega
        have a9 : (v : Int) ≤ (v : Int) + (l : Int) := by omega
        have hP2' := fun W => hP2 (s.extract v (v + l)) W (by simp; omega)
        rw [hx]
        clear hx hP2 hlen
        cases hq : pureL k (s.extract v (v + l)).data.toList
        all_goals
          rw [hq] at hP2'
          clear hq
          go_enter Tryz.func28, Tryz.ntmps28
          go_wp2_with (first
              | (go_at_call 36; refine hO.mono ?_; rintro e w1 ⟨rfl, hb1⟩; obtain ⟨hc1, hf1⟩ := bcell hb1))
          go_region_held3 (fun w' => w'.cell? ⟨w1.heap.size, 0, none⟩ = some (.int .i64 k) ∧ w'.cell? ⟨w1.heap.size, 1, none⟩ = some (.int .i64 v) ∧ w'.cell? ⟨w1.heap.size, 2, none⟩ = some (.int .i64 l)) (first | go_keep | exact ⟨(hc5 _ _ (by simp; omega)).trans he0, (hc5 _ _ (by simp; omega)).trans he1, (hc5 _ _ (by simp; omega)).trans he2⟩ | skip) (first | (go_at_call 37; refine (hP2' _).mono ?_; rintro e w5 ⟨rfl, hb5⟩; obtain ⟨hc5, hf5⟩ := bcell hb5))
          have HBW : Below w.heap.size w w5 := bthen hb1 (after1 (below_undrew hb5))
          go_wp2
          go_ret3
          first
            | exact ⟨rfl, HBW⟩
            | exact ⟨Eq.trans (b := Ending.returned (.tuple #[.string (s.extract v (v + l)), .int .i64 ((v : Int) + (l : Int)), .int .i64 0])) rfl (by simp; exact str_of (by rw [Lib.extract_data, Nat.add_sub_cancel_left])), HBW⟩
    · have a7 : (0 : Int) < (v : Int) := by omega
      have ht : s.data.toList.take v = (s.extract 0 v).data.toList := by rw [Lib.extract_data]; simp
      have hl2 : (s.extract 0 v).data.toList.length = v := by rw [← ht, List.length_take, hlen]; omega
      unfold longF
      rw [if_neg a2, ht]
      dsimp only
      cases hp : pureL 1 (s.extract 0 v).data.toList with
      | false =>
        have hP1' := fun W => hP1 (s.extract 0 v) W (by simp; omega)
        rw [hp] at hP1'
        clear hP1 hP2 hlen hp ht hl2
        go_enter Tryz.func28, Tryz.ntmps28
        go_wp2_with (first
          | (go_at_call 36; refine hO.mono ?_; rintro e w1 ⟨rfl, hb1⟩; obtain ⟨hc1, hf1⟩ := bcell hb1)
          | (go_at_call 37; refine (hP1' _).mono ?_; rintro e w2 ⟨rfl, hb2⟩))
        go_ret3
        exact ⟨rfl, bthen hb1 (after1 hb2)⟩
      | true =>
        have hdg : digL (s.extract 0 v).data.toList = true := by rw [← pure1_dig]; exact hp
        have hne : (s.extract 0 v).data.toList ≠ [] := fun h => by rw [h] at hl2; simp at hl2; omega
        have hA := fun W => atoi_ok (s.extract 0 v) (by simp; omega) _ (atoi_digits _ hdg hne (by omega)) W
        have hP1' := fun W => hP1 (s.extract 0 v) W (by simp; omega)
        rw [hp] at hP1'
        generalize decF 0 (s.extract 0 v).data.toList = d at *
        clear hP1 hp ht hl2 hdg hne
        rw [if_pos rfl]
        by_cases a3 : d ≤ l
        · rw [if_pos a3]
          dsimp only
          by_cases a4 : s.size < v + d
          · rw [if_pos a4]
            have a5 : (s.size : Int) < (v : Int) + (d : Int) := by omega
            clear hP2 hlen
            go_enter Tryz.func28, Tryz.ntmps28
            go_wp2_with (first
              | (go_at_call 36; refine hO.mono ?_; rintro e w1 ⟨rfl, hb1⟩; obtain ⟨hc1, hf1⟩ := bcell hb1)
              | (go_at_call 37; refine (hP1' _).mono ?_; rintro e w2 ⟨rfl, hb2⟩; obtain ⟨hz3, hf2, hd0, hd1, hd2⟩ := blkf3 ((hb2.block _ (by simp)).trans (heap_alloc_new w1 _)))
              | (go_at_call 38; refine (hA _).mono ?_; rintro e w3 ⟨rfl, hb3⟩; obtain ⟨hz4, hf3, he0, he1, he2⟩ := blkf3 ((hb3.block _ hz3).trans ((hb2.block _ (by simp)).trans (heap_alloc_new w1 _)))))
            go_ret3
            exact ⟨rfl, bthen (bthen hb1 (after1 hb2)) hb3⟩
          · rw [if_neg a4]
            have hx : (s.data.toList.drop v).take d = (s.extract v (v + d)).data.toList := by rw [Lib.extract_data, Nat.add_sub_cancel_left]
            have a5 : ¬ (s.size : Int) < (v : Int) + (d : Int) := by omega
            have a6 : v + d ≤ s.size := by omega
            have a8 : (v : Int) + (d : Int) ≤ (s.size : Int) := by omega
            have a9 : (v : Int) ≤ (v : Int) + (d : Int) := by omega
            have hP2' := fun W => hP2 (s.extract v (v + d)) W (by simp; omega)
            rw [hx]
            clear hx hP2 hlen
            cases hq : pureL k (s.extract v (v + d)).data.toList
            all_goals
              rw [hq] at hP2'
              clear hq
              go_enter Tryz.func28, Tryz.ntmps28
              go_wp2_with (first
                  | (go_at_call 36; refine hO.mono ?_; rintro e w1 ⟨rfl, hb1⟩; obtain ⟨hc1, hf1⟩ := bcell hb1)
                  | (go_at_call 37; refine (hP1' _).mono ?_; rintro e w2 ⟨rfl, hb2⟩; obtain ⟨hz3, hf2, hd0, hd1, hd2⟩ := blkf3 ((hb2.block _ (by simp)).trans (heap_alloc_new w1 _)))
                  | (go_at_call 38; refine (hA _).mono ?_; rintro e w3 ⟨rfl, hb3⟩; obtain ⟨hz4, hf3, he0, he1, he2⟩ := blkf3 ((hb3.block _ hz3).trans ((hb2.block _ (by simp)).trans (heap_alloc_new w1 _)))))
              go_region_held3 (fun w' => w'.cell? ⟨w1.heap.size, 0, none⟩ = some (.int .i64 k) ∧ w'.cell? ⟨w1.heap.size, 1, none⟩ = some (.int .i64 v) ∧ w'.cell? ⟨w1.heap.size, 2, none⟩ = some (.int .i64 l)) (first | go_keep | exact ⟨(hc5 _ _ (by simp; omega)).trans he0, (hc5 _ _ (by simp; omega)).trans he1, (hc5 _ _ (by simp; omega)).trans he2⟩ | skip) (first | (go_at_call 37; refine (hP2' _).mono ?_; rintro e w5 ⟨rfl, hb5⟩; obtain ⟨hc5, hf5⟩ := bcell hb5))
              have HBW : Below w.heap.size w w5 := bthen (bthen (bthen hb1 (after1 hb2)) hb3) (below_undrew hb5)
              go_wp2
              go_ret3
              first
                | exact ⟨rfl, HBW⟩
                | exact ⟨Eq.trans (b := Ending.returned (.tuple #[.string (s.extract v (v + d)), .int .i64 ((v : Int) + (d : Int)), .int .i64 0])) rfl (by simp; exact str_of (by rw [Lib.extract_data, Nat.add_sub_cancel_left])), HBW⟩
        · rw [if_neg a3]
          have a3' : (l : Int) < (d : Int) := by omega
          clear hP2 hlen
          go_enter Tryz.func28, Tryz.ntmps28
          go_wp2_with (first
            | (go_at_call 36; refine hO.mono ?_; rintro e w1 ⟨rfl, hb1⟩; obtain ⟨hc1, hf1⟩ := bcell hb1)
            | (go_at_call 37; refine (hP1' _).mono ?_; rintro e w2 ⟨rfl, hb2⟩; obtain ⟨hz3, hf2, hd0, hd1, hd2⟩ := blkf3 ((hb2.block _ (by simp)).trans (heap_alloc_new w1 _)))
            | (go_at_call 38; refine (hA _).mono ?_; rintro e w3 ⟨rfl, hb3⟩; obtain ⟨hz4, hf3, he0, he1, he2⟩ := blkf3 ((hb3.block _ hz3).trans ((hb2.block _ (by simp)).trans (heap_alloc_new w1 _)))))
          go_ret3
          exact ⟨rfl, bthen (bthen hb1 (after1 hb2)) hb3⟩
end Go.Proofs.YtbafhmhjkoelnaaGreatDoor
