/- XK2: bitmap.may. -/
import Derived.Test.YtbafhmhjkoelnaaGreatDoorK
import Derived.Test.YtbafhmhjkoelnaaGreatDoorH
namespace Go.Proofs.YtbafhmhjkoelnaaGreatDoor
open Go.RowKit

/-- The numbers rise, and each is a field's. -/
def mayAt (l : List Int) (i : Nat) : Prop := ofE (l.getD i 0) = 0 ∧ (0 < i → l.getD (i - 1) 0 < l.getD i 0)
instance (l : List Int) (i : Nat) : Decidable (mayAt l i) := by unfold mayAt; exact inferInstance
def mayL (l : List Int) : Bool := decide (∀ i, i < l.length → mayAt l i)
theorem mayL_no (l : List Int) (k : Nat) (hk : k < l.length) (h : ¬ mayAt l k) : mayL l = false := decide_eq_false (fun a => h (a k hk))
theorem mayL_yes (l : List Int) (h : ∀ i, i < l.length → mayAt l i) : mayL l = true := decide_eq_true h
theorem getD_at {α : Type} (l : List α) (d : α) (k : Nat) (x : α) (h : l[k]? = some x) : l.getD k d = x := by rw [List.getD_eq_getElem?_getD, h]; rfl
theorem mayAt_0 (l : List Int) (x : Int) (h : l[0]? = some x) (he : ofE x = 0) : mayAt l 0 := ⟨by rw [getD_at l 0 0 x h]; exact he, fun h => absurd h (by omega)⟩
theorem mayAt_s (l : List Int) (k : Nat) (x y : Int) (h : l[k + 1]? = some x) (h' : l[k]? = some y) : mayAt l (k + 1) ↔ ofE x = 0 ∧ y < x := by
  unfold mayAt; rw [getD_at l 0 _ x h, Nat.add_sub_cancel, getD_at l 0 _ y h']; simp
theorem rd_int {w w' : World} {A : Option Addr} {n c : Nat} {xs : List Int} (h : Rd encI 1 w (.slice A n c) xs) (hb : Below w.heap.size w w') {j : Nat} (hj : j < xs.length) :
    ∃ b off x, A = some ⟨b, off, none⟩ ∧ b < w.heap.size ∧ xs[j]? = some x ∧ w'.cell? ⟨b, off + j, none⟩ = some (.int .i64 x) := by
  obtain ⟨b, off, x, e, hb, hx, hc⟩ := h.at hb hj
  exact ⟨b, off, x, e, hb, hx, by have := hc 0 _ rfl; simpa using this⟩

set_option maxRecDepth 100000 in
set_option maxHeartbeats 4000000 in
theorem bitmap_may (v : Value) (l : List Int) (w : World) (hr : Rd encI 1 w v l) (hG : G w) :
    Calls Tryz.prog 40 #[v] w fun e w' => e = .returned (.bool (mayL l)) ∧ Below w.heap.size w w' := by
  obtain ⟨A, c, rfl, hlc, hmax, hcells⟩ := id hr
  have hlen : l.length ≤ 9223372036854775807 := by omega
  clear hcells hmax
  have HR := Lib.hid hr
  have HG := Lib.hid hG
  clear hr hG
  go_enter Tryz.func40, Tryz.ntmps40
  go_wp2
  go_loopw [9] (fun s9 wr => ∃ kk : Nat, kk ≤ l.length ∧ s9 = .int .i64 kk ∧ Aside (Below w.heap.size w wr) ∧ Aside (∀ i, i < kk → mayAt l i)) (fun s9 _ => l.length - (intOf s9).toNat)
  case atStart => exact ⟨0, Nat.zero_le _, rfl, Below.refl _ _, fun i h => absurd h (Nat.not_lt_zero _)⟩
  case round =>
    obtain ⟨kk, hk, rfl, HB, HM⟩ := hrel
    by_cases hlt : kk < l.length
    · have hltz : (kk : Int) < (l.length : Int) := by omega
      obtain ⟨b, off, x, rfl, hb, hx, c0⟩ := rd_int HR.out HB.out hlt
      have HX := Lib.hid hx
      have hO := spec_Of x wr (HG.out.below HB.out)
      have hOE := ofE_cases x
      have hbw : b < wr.heap.size := by have := HB.out.size; omega
      clear hx
      obtain ⟨er, her⟩ : ∃ er, er = ofE x := ⟨_, rfl⟩
      rw [← her] at hO hOE
      have HER := Lib.hid her
      clear her
      generalize specAt x = sp at hO
      obtain ⟨s1, s2, s3⟩ := sp
      dsimp only at hO
      have HO := Lib.hid hO
      clear hO
      rcases hOE with rfl | rfl
      · cases kk with
        | zero =>
          rw [Nat.add_zero] at c0
          have HN : Hid (mayAt l 0) := mayAt_0 l x HX.out HER.out.symm
          go_wp2_with (go_at_call 36; refine HO.out.mono ?_; rintro e w1 ⟨rfl, hb1⟩; obtain ⟨hc1, hf1⟩ := bcell hb1; have hbw1 : b < w1.heap.size := by have := hb1.size; omega)
          go_roundw
          case measure => simp [intOf]; omega
          case rel => exact ⟨1, by omega, rfl, HB.out.trans (by have := HB.out.size; exact (hb1.mono this).alloc (by have := hb1.size; omega) _), fun i hi => (show i = 0 by omega) ▸ HN.out⟩
        | succ k =>
          obtain ⟨y, hy⟩ : ∃ y, l[k]? = some y := ⟨_, List.getElem?_eq_getElem (by omega)⟩
          have c1 : wr.cell? ⟨b, off + k, none⟩ = some (.int .i64 y) := by
            obtain ⟨b', off', y', e', -, hy', c'⟩ := rd_int HR.out HB.out (by omega : k < l.length)
            cases e'
            rw [hy] at hy'; cases hy'; exact c'
          have HY := Lib.hid hy
          have hpos : (0 : Int) < ((k + 1 : Nat) : Int) := by omega
          clear hy
          by_cases hyx : y < x
          · have HN : Hid (mayAt l (k + 1)) := (mayAt_s l k x y HX.out HY.out).2 ⟨HER.out.symm, hyx⟩
            have hyx2 : ¬ x ≤ y := by omega
            go_wp2_with (go_at_call 36; refine HO.out.mono ?_; rintro e w1 ⟨rfl, hb1⟩; obtain ⟨hc1, hf1⟩ := bcell hb1; have hbw1 : b < w1.heap.size := by have := hb1.size; omega)
            go_roundw
            case measure => simp [intOf]; omega
            case rel => exact ⟨k + 1 + 1, by omega, by go_num, HB.out.trans (by have := HB.out.size; exact (hb1.mono this).alloc (by have := hb1.size; omega) _), fun i hi => by
              rcases Nat.lt_or_ge i (k + 1) with h | h
              · exact HM.out i h
              · obtain rfl : i = k + 1 := by omega
                exact HN.out⟩
          · have HN : Hid (mayL l = false) := mayL_no l (k + 1) hlt (fun h => hyx ((mayAt_s l k x y HX.out HY.out).1 h).2)
            have hyx2 : x ≤ y := by omega
            go_wp2_with (go_at_call 36; refine HO.out.mono ?_; rintro e w1 ⟨rfl, hb1⟩; obtain ⟨hc1, hf1⟩ := bcell hb1; have hbw1 : b < w1.heap.size := by have := hb1.size; omega)
            go_ret
            exact ⟨by rw [HN.out]; rfl, HB.out.trans (by have := HB.out.size; exact (hb1.mono this).alloc (by have := hb1.size; omega) _)⟩
      · have HN : Hid (mayL l = false) := mayL_no l kk hlt (fun h => by have := h.1; rw [getD_at l 0 kk x HX.out, ← HER.out] at this; cases this)
        go_wp2_with (go_at_call 36; refine HO.out.mono ?_; rintro e w1 ⟨rfl, hb1⟩; obtain ⟨hc1, hf1⟩ := bcell hb1; have hbw1 : b < w1.heap.size := by have := hb1.size; omega)
        go_ret
        exact ⟨by rw [HN.out]; rfl, HB.out.trans (by have := HB.out.size; exact (hb1.mono this).alloc (by have := hb1.size; omega) _)⟩
    · have hltz : ¬ (kk : Int) < (l.length : Int) := by omega
      have HN : Hid (mayL l = true) := mayL_yes l (fun i hi => HM.out i (by omega))
      go_wp2
      go_ret
      exact ⟨by rw [HN.out]; rfl, HB.out⟩
end Go.Proofs.YtbafhmhjkoelnaaGreatDoor
