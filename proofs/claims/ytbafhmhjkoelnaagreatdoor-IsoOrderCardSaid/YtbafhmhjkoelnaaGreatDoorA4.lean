/- XA4: slices.Clone, slices.DeleteFunc, slices.Insert at a message's fields. -/
import Derived.Test.YtbafhmhjkoelnaaGreatDoorA3
import Derived.Test.YtbafhmhjkoelnaaGreatDoorS
import Derived.Lib.AppendZerosOnto
namespace Go.Proofs.YtbafhmhjkoelnaaGreatDoor
open Go.RowKit

theorem zeroF (w : World) : (zeroValue 34).run Tryz.prog w = .ok (.agg #[.int .i64 0, .string ⟨#[]⟩]) w := by kernel_rfl
theorem sizeF : (Tryz.prog.info? 34).map (·.size) = some 2 := by kernel_rfl
theorem zeros_one (n : Nat) : ∀ v ∈ (Builtin.zeroCells (Value.agg #[.int .i64 0, .string ⟨#[]⟩]).cells n).toList, v.oneCell' = true := by
  intro v hv
  simp only [Builtin.zeroCells, Array.toList_map, List.mem_map] at hv
  obtain ⟨i, _, rfl⟩ := hv
  have : i % 2 = 0 ∨ i % 2 = 1 := by omega
  rcases this with h | h <;> simp [Value.cells, h, Value.oneCell']
set_option maxRecDepth 100000 in
set_option maxHeartbeats 2000000 in
theorem clone_F (v : Value) (L : List Field) (w : World) (hr : Rd encF 2 w v L) (hl : L.length ≤ 1000000) :
    Calls Tryz.prog 16 #[v] w fun e w' => ∃ v', e = .returned v' ∧ Own encF 2 34 w.heap.size w' v' L ∧ Below w.heap.size w w' := by
  obtain ⟨A, c, rfl, hlc, hmax, hcells⟩ := id hr
  cases A with
  | none =>
    have hL : L = [] := by rcases hcells with h | ⟨b, off, h, _⟩; exact h; cases h
    subst hL
    have heq := fun w => Lib.run_eql_slice_nil (P := Tryz.prog) w 22 34 none 0 c 0 0 Tryz.underlying22
    go_enter Tryz.func16, Tryz.ntmps16
    go_wp2
    go_ret
    exact ⟨_, rfl, Own.nil _ _ _ _ _, Below.refl _ _⟩
  | some ad =>
    have heq := fun w => Lib.run_eql_slice_nil (P := Tryz.prog) w 22 34 (some ad) L.length c 0 0 Tryz.underlying22
    have HR := Lib.hid hr
    clear hcells hr
    go_enter Tryz.func16, Tryz.ntmps16
    go_wp2_with (at_builtin; refine wp_appendRd encF 2 encF_len encF_one (w0 := w) w.heap.size rfl _ _ 22 34 (.agg #[.int .i64 0, .string ⟨#[]⟩]) 24 rfl Tryz.underlying22 infoF rfl (by decide) _ [] L rfl ad _ _ rfl (HR.out.below (alloc1 _ _)) (World.ownsRow_made w #[] 0 (Nat.le_refl _) (by simp [maxLen]) rfl) (alloc1 _ _) (by simp) (by simp; omega) (by decide) ?_; intro v1 w1 ho1 hb1 hg1)
    go_ret
    exact ⟨_, rfl, ho1, hb1⟩
end Go.Proofs.YtbafhmhjkoelnaaGreatDoor
