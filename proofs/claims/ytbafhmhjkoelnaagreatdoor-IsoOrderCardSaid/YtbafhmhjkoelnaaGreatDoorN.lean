/- XN: iso.numbers. -/
import Derived.Test.YtbafhmhjkoelnaaGreatDoorK2
import Derived.Test.YtbafhmhjkoelnaaGreatDoorA3
namespace Go.Proofs.YtbafhmhjkoelnaaGreatDoor
open Go.RowKit

set_option maxRecDepth 100000 in
set_option maxHeartbeats 4000000 in
theorem iso_numbers (v : Value) (L : List Field) (w : World) (hr : Rd encF 2 w v L) (hl : L.length ≤ 1000000) :
    Calls Tryz.prog 31 #[v] w fun e w' => ∃ v', e = .returned v' ∧ Own encI 1 3 w.heap.size w' v' (L.map (·.N)) ∧ Below w.heap.size w w' := by
  obtain ⟨A, c, rfl, hlc, hmax, hcells⟩ := id hr
  clear hcells hmax
  have HR := Lib.hid hr
  clear hr
  go_enter Tryz.func31, Tryz.ntmps31
  go_wp2
  go_loopw [3, 8] (fun s3 s8 wr => ∃ kk : Nat, kk ≤ L.length ∧ s8 = .int .i64 kk ∧ Aside (Own encI 1 3 w.heap.size wr s3 ((L.take kk).map (·.N))) ∧ Aside (Below w.heap.size w wr)) (fun _ s8 _ => L.length - (intOf s8).toNat)
  case atStart => exact ⟨0, Nat.zero_le _, rfl, Own.nil _ _ _ _ _, Below.refl _ _⟩
  case round =>
    obtain ⟨kk, hk, rfl, HO, HB⟩ := hrel
    by_cases hlt : kk < L.length
    · have hltz : (kk : Int) < (L.length : Int) := by omega
      obtain ⟨b, off, x, rfl, hb, hx, c0, c1⟩ := rd_field HR.out HB.out hlt
      have hbw : b < wr.heap.size := by have := HB.out.size; omega
      have hws : w.heap.size ≤ wr.heap.size := HB.out.size
      have HT : Hid ((L.take (kk + 1)).map (·.N) = (L.take kk).map (·.N) ++ [x.N]) := by show _ = _; rw [take_snoc L kk x hx, List.map_append]; rfl
      have hn : Hid (((L.take kk).map (·.N)).length + 1 ≤ 1000001) := by show _ ≤ _; simp; omega
      clear hx
      go_wp2_with (at_builtin; refine wp_append1 encI 1 encI_len encI_one (w0 := w) w.heap.size rfl _ _ 52 3 (.int .i64 0) 8 rfl Tryz.underlying52 infoI rfl (by decide) _ _ x.N rfl rfl (by simp) (Own.alloc HO.out _) (HB.out.alloc hws _) (by simp; omega) (by have := hn.out; omega) (by decide) ?_; intro v1 w1 ho1 hb1 hg1 hs1)
      go_roundw
      case measure => simp [intOf]; omega
      case rel => exact ⟨kk + 1, by omega, by go_num, by rw [HT.out]; exact ho1, hb1⟩
    · have hltz : ¬ (kk : Int) < (L.length : Int) := by omega
      have HT : Hid (L.map (·.N) = (L.take kk).map (·.N)) := by show _ = _; rw [List.take_of_length_le (by omega)]
      go_wp2
      go_ret
      exact ⟨_, rfl, by rw [HT.out]; exact HO.out, HB.out⟩
end Go.Proofs.YtbafhmhjkoelnaaGreatDoor
