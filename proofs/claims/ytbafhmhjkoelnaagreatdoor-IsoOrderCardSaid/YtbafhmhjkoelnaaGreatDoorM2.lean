/- XM2: mti.text, mti.Parse. -/
import Derived.Test.YtbafhmhjkoelnaaGreatDoorM
namespace Go.Proofs.YtbafhmhjkoelnaaGreatDoor
open Go.RowKit

def textM (m : Mt) : List UInt8 := [48, UInt8.ofNat (48 + m.cls).toNat, 48 + (if m.ans then 1 else 0) + (if m.adv then 2 else 0), 48 + (if m.aga then 1 else 0)]
/-- The conversion to a string, under a name. -/
def cvText : Op := Op.convert 76 9 (Operand.tmp 21)
set_option maxRecDepth 100000 in
set_option maxHeartbeats 4000000 in
theorem mti_text (m : Mt) (h0 : 0 ≤ m.cls) (h1 : m.cls ≤ 207) (w : World) : Calls Tryz.prog 34 #[.agg #[.int .i64 m.cls, .bool m.adv, .bool m.ans, .bool m.aga]] w fun e w' => e = .returned (.string ⟨(textM m).toArray⟩) ∧ Below w.heap.size w w' := by
  obtain ⟨cl, ad, an, ag⟩ := m
  unfold textM
  dsimp only at *
  obtain ⟨k, rfl⟩ := Int.eq_ofNat_of_zero_le h0
  have H2 := fun B w h0 h1 => mti_bits2 B an ad w h0 h1
  have H1 := fun B w h0 => mti_bits1 B ag w h0
  obtain ⟨u, hu⟩ : ∃ u : Nat, (u : Int) = (if an then (1 : Int) else 0) + (if ad then 2 else 0) ∧ u ≤ 3 ∧ (48 : UInt8) + (if an then 1 else 0) + (if ad then 2 else 0) = UInt8.ofNat (48 + u) := by
    cases an <;> cases ad
    · exact ⟨0, rfl, by omega, rfl⟩
    · exact ⟨2, rfl, by omega, rfl⟩
    · exact ⟨1, rfl, by omega, rfl⟩
    · exact ⟨3, rfl, by omega, rfl⟩
  obtain ⟨x, hx⟩ : ∃ x : Nat, (x : Int) = (if ag then (1 : Int) else 0) ∧ x ≤ 1 ∧ (48 : UInt8) + (if ag then 1 else 0) = UInt8.ofNat (48 + x) := by
    cases ag
    · exact ⟨0, rfl, by omega, rfl⟩
    · exact ⟨1, rfl, by omega, rfl⟩
  obtain ⟨hu1, hu2, hu3⟩ := hu
  obtain ⟨hx1, hx2, hx3⟩ := hx
  rw [hu3, hx3]
  rw [← hu1] at H2
  rw [← hx1] at H1
  have H2' := Lib.hid H2
  have H1' := Lib.hid H1
  clear hu1 hu3 hx1 hx3 H2 H1
  go_enter Tryz.func34, Tryz.ntmps34
  go_wp2_with fail
  have hconv : ∀ (X : World) (B : Nat) (a b c d : Int), B = X.heap.size → (convert 76 9 (.slice (some ⟨B, 0, none⟩) 4 4)).run Tryz.prog (X.alloc (.cells #[.int .u8 a, .int .u8 b, .int .u8 c, .int .u8 d] 5)).drew = .ok (.string ⟨#[UInt8.ofNat a.toNat, UInt8.ofNat b.toNat, UInt8.ofNat c.toNat, UInt8.ofNat d.toNat]⟩) (X.alloc (.cells #[.int .u8 a, .int .u8 b, .int .u8 c, .int .u8 d] 5)).drew := fun X B a b c d hB => by
    subst hB
    exact run_bytes_int _ 76 9 5 Tryz.underlying76 Tryz.underlying5 Tryz.underlying9 ⟨X.heap.size, 0, none⟩ 4 4 [a, b, c, d] rfl (fun j x hj => by
      rw [Addr.add_lit, Nat.zero_add]
      refine (blk_cell (heap_alloc_new X _) j).trans ?_
      have : ((#[Value.int .u8 a, .int .u8 b, .int .u8 c, .int .u8 d] : Array Value))[j]? = ([a, b, c, d].map (Value.int .u8))[j]? := by simp
      rw [this, List.getElem?_map, hj]; rfl)
  have tok : True := trivial
  rw [show Op.convert 76 9 (Operand.tmp 21) = cvText from rfl]
  have hcv : cvText = Op.convert 76 9 (Operand.tmp 21) := rfl
  go_region_held3 (fun w' => w'.cell? ⟨w.heap.size, 0, none⟩ = some (.int .i64 k) ∧ w'.cell? ⟨w.heap.size, 1, none⟩ = some (.bool ad) ∧ w'.cell? ⟨w.heap.size, 2, none⟩ = some (.bool an) ∧ w'.cell? ⟨w.heap.size, 3, none⟩ = some (.bool ag)) (first | go_keep | skip) (first | (go_at_call 44; have t0 := tok; (with_reducible refine Calls.mono (H2'.out _ _ (by simp [go_sem]) (by simp [go_sem])) ?_); clear tok t0; rintro e w5 ⟨rfl, rfl⟩) | (go_at_call 44; (with_reducible refine Calls.mono (H1'.out _ _ (by simp [go_sem])) ?_); rintro e w5 ⟨rfl, rfl⟩))
  all_goals
    go_wp2
    go_ret
    refine ⟨?_, by go_grown⟩
    have e := fun (n : Nat) (h : n ≤ 207) => (show IntKind.u8.wrap (IntKind.i64.wrap (48 + (n : Int))) = ((48 + n : Nat) : Int) by rw [IntKind.wrap_i64, IntKind.wrap_u8]; omega)
    rw [e k (by omega), e u (by omega), e x (by omega)]
    simp only [Int.toNat_natCast]
    rfl
end Go.Proofs.YtbafhmhjkoelnaaGreatDoor
