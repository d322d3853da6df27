/- XK: bitmaps: bit, may. -/
import Derived.Test.YtbafhmhjkoelnaaGreatDoorF
import Derived.Test.YtbafhmhjkoelnaaGreatDoorS
import Derived.RegionTactic
import Derived.ChangeAlike
namespace Go.Proofs.YtbafhmhjkoelnaaGreatDoor
open Go.RowKit

def encI (n : Int) : List Value := [.int .i64 n]
theorem encI_len (x : Int) : (encI x).length = 1 := rfl
theorem encI_one (x : Int) : ∀ u ∈ encI x, u.oneCell' = true := by simp [encI, Value.oneCell']
theorem infoI : (Tryz.prog.info? 3).map (fun i => (i.zero, i.size, i.bytes)) = some (some (.int .i64 0), 1, 8) := by kernel_rfl
theorem bit_any (q r : Nat) (hr : r < 8) (hq : q ≤ 100000) (w : World) : Calls Tryz.prog 41 #[.int .i64 ((8 * q + r + 1 : Nat) : Int)] w fun e w' => e = .returned (.tuple #[.int .i64 q, .int .u8 ((2 ^ (7 - r) : Nat) : Int)]) ∧ ∃ n, w' = w.drewN n := by
  obtain ⟨n, hn⟩ : ∃ n : Int, n = ((8 * q + r + 1 : Nat) : Int) := ⟨_, rfl⟩
  have h1 : (n - 1).tdiv 8 = q := by rw [Int.tdiv_eq_ediv_of_nonneg (by omega)]; omega
  have h2 : (n - 1).tmod 8 = r := by rw [Int.tmod_eq_emod_of_nonneg (by omega)]; omega
  have h3 : 1 ≤ n := by omega
  have h4 : n ≤ 10000000 := by omega
  rw [← hn]
  clear hn
  obtain rfl | rfl | rfl | rfl | rfl | rfl | rfl | rfl : r = 0 ∨ r = 1 ∨ r = 2 ∨ r = 3 ∨ r = 4 ∨ r = 5 ∨ r = 6 ∨ r = 7 := by omega
  all_goals
    go_enter Tryz.func41, Tryz.ntmps41
    go_wp2_with fail
    go_quiet (fail)
    go_wp2
    go_ret2
    refine ⟨?_, ⟨_, rfl⟩⟩
    rfl
end Go.Proofs.YtbafhmhjkoelnaaGreatDoor
