/- XM: messages' types: mti.May, bits, text, Parse. -/
import Derived.Test.YtbafhmhjkoelnaaGreatDoorS
import Derived.Deep.RegionHeld3
import Derived.Deep.RegionWith
import Derived.RegionTactic
import Derived.ChangeAlike
namespace Go.Proofs.YtbafhmhjkoelnaaGreatDoor
open Go.RowKit

/-- A message's type. -/
structure Mt where
  cls : Int
  adv : Bool
  ans : Bool
  aga : Bool
deriving DecidableEq
def mayM (m : Mt) : Bool := (decide (m.cls = 1) || decide (m.cls = 2) || decide (m.cls = 4) || decide (m.cls = 5) || ((decide (m.cls = 6) || decide (m.cls = 8)) && !m.adv)) && (!m.ans || !m.aga)
set_option maxHeartbeats 1000000 in
theorem mti_May (m : Mt) (w : World) : Calls Tryz.prog 33 #[.agg #[.int .i64 m.cls, .bool m.adv, .bool m.ans, .bool m.aga]] w fun e w' => e = .returned (.bool (mayM m)) ∧ Below w.heap.size w w' := by
  obtain ⟨cl, ad, an, ag⟩ := m
  unfold mayM
  dsimp only
  by_cases h : cl = 1 ∨ cl = 2 ∨ cl = 4 ∨ cl = 5 ∨ cl = 6 ∨ cl = 8
  · rcases h with rfl | rfl | rfl | rfl | rfl | rfl <;> cases ad <;> cases an <;> cases ag
    all_goals
      go_enter Tryz.func33, Tryz.ntmps33
      go_wp2
      go_ret
      exact ⟨rfl, alloc1 _ _⟩
  · have h1 : (cl == 1) = false := by rw [beq_eq_false_iff_ne]; omega
    have h2 : (cl == 2) = false := by rw [beq_eq_false_iff_ne]; omega
    have h4 : (cl == 4) = false := by rw [beq_eq_false_iff_ne]; omega
    have h5 : (cl == 5) = false := by rw [beq_eq_false_iff_ne]; omega
    have h6 : (cl == 6) = false := by rw [beq_eq_false_iff_ne]; omega
    have h8 : (cl == 8) = false := by rw [beq_eq_false_iff_ne]; omega
    have hF : Hid (((decide (cl = 1) || decide (cl = 2) || decide (cl = 4) || decide (cl = 5) || ((decide (cl = 6) || decide (cl = 8)) && !ad)) && (!an || !ag)) = false) := by
      show _ = _
      have e := fun k => decide_eq_false (p := cl = k)
      rw [e 1 (by omega), e 2 (by omega), e 4 (by omega), e 5 (by omega), e 6 (by omega), e 8 (by omega)]; rfl
    clear h
    go_enter Tryz.func33, Tryz.ntmps33
    go_wp2
    go_ret
    exact ⟨by rw [hF.out]; rfl, alloc1 _ _⟩
theorem mti_bits1 (B : Nat) (a : Bool) (w : World) (h0 : w.cell? ⟨B, 0, none⟩ = some (.bool a)) : Calls Tryz.prog 44 #[.slice (some ⟨B, 0, none⟩) 1 1] w fun e w' => e = .returned (.int .i64 (if a then 1 else 0)) ∧ w' = w := by
  cases a
  all_goals
    go_enter Tryz.func44, Tryz.ntmps44
    go_wp2
    go_rounds 2
    go_ret
    exact ⟨rfl, rfl⟩
theorem mti_bits2 (B : Nat) (a b : Bool) (w : World) (h0 : w.cell? ⟨B, 0, none⟩ = some (.bool a)) (h1 : w.cell? ⟨B, 1, none⟩ = some (.bool b)) : Calls Tryz.prog 44 #[.slice (some ⟨B, 0, none⟩) 2 2] w fun e w' => e = .returned (.int .i64 ((if a then 1 else 0) + (if b then 2 else 0))) ∧ w' = w := by
  cases a <;> cases b
  all_goals
    go_enter Tryz.func44, Tryz.ntmps44
    go_wp2
    go_rounds 3
    go_ret
    exact ⟨rfl, rfl⟩
end Go.Proofs.YtbafhmhjkoelnaaGreatDoor
