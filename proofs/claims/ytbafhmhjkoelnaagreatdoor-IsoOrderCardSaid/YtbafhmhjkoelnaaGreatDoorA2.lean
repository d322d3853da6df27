/- XA2: IndexFunc at a message's fields, the closures of iso.Get and iso.Put, iso.Get and bursarref19.Get: one spec function. -/
import Derived.Test.YtbafhmhjkoelnaaGreatDoorA1

namespace Go.Proofs.YtbafhmhjkoelnaaGreatDoor
open Go.RowKit
set_option maxHeartbeats 1000000 in
theorem indexFunc_F (p : Field → Bool) (g : Nat) (lb : Array Value) (v : Value) (xs : List Field) (w : World) (eg : ∀ args w, (callFunc g args).run Tryz.prog w = .ok (.enter g args) w)
    (hr : Rd encF 2 w v xs) (hp : Pred Tryz.prog g lb encF p w) :
    Calls Tryz.prog 13 #[v, .func (.func g) #[] lb] w fun e w' => e = .returned (.int .i64 (idx p xs)) ∧ Below w.heap.size w w' := by
  obtain ⟨A, c, rfl, hlc, hmax, hcells⟩ := hr
  go_enter Tryz.func13, Tryz.ntmps13
  go_wp2
  go_loopg [5, 8] (xs.length) (fun gg _ s8 wr => ∃ kk : Nat, kk ≤ xs.length ∧ xs.length - kk ≤ gg ∧ s8 = .int .i64 kk ∧ Aside (Below w.heap.size w wr) ∧ Aside (∀ (j : Nat) (y : Field), j < kk → xs[j]? = some y → p y = false))
  case atStart => exact ⟨0, Nat.zero_le _, by omega, rfl, Below.refl _ w, fun j y hj => absurd hj (Nat.not_lt_zero _)⟩
  case round =>
    obtain ⟨kk, hkk, hg, rfl, BW, AH⟩ := hrel
    by_cases hlt : kk < xs.length
    · have hltz : (kk : Int) < (xs.length : Int) := by omega
      rcases hcells with rfl | ⟨b, off, rfl, hb, hc⟩
      · simp at hlt
      obtain ⟨x, hx⟩ : ∃ x, xs[kk]? = some x := ⟨_, List.getElem?_eq_getElem hlt⟩
      have c0 : wr.cell? ⟨b, off + kk * 2, none⟩ = some (.int .i64 x.N) := (BW.out.cell (p := ⟨b, off + kk * 2 + 0, none⟩) hb).trans (hc kk x hx 0 _ rfl)
      have c1 : wr.cell? ⟨b, off + kk * 2 + 1, none⟩ = some (.string x.V) := (BW.out.cell (p := ⟨b, off + kk * 2 + 1, none⟩) hb).trans (hc kk x hx 1 _ rfl)
      have hcall := hp wr x BW.out
      have HX := Lib.hid hx
      clear hc hp hx
      cases hq : p x with
      | true =>
        rw [hq] at hcall
        go_wp2_with (go_at_fn g; refine hcall.mono ?_; rintro e w' ⟨rfl, hb'⟩)
        go_ret
        exact ⟨by rw [idx_hit p xs kk x HX.out hq AH.out]; rfl, BW.out.trans (hb'.mono BW.out.size)⟩
      | false =>
        rw [hq] at hcall
        go_wp2_with (go_at_fn g; refine hcall.mono ?_; rintro e w' ⟨rfl, hb'⟩)
        go_roundg (xs.length - (kk + 1))
        case measure => omega
        case rel =>
          refine ⟨kk + 1, by omega, by omega, by go_num, (show Aside _ from BW.out.trans (hb'.mono BW.out.size)), (show Aside _ from fun j y hj hy => ?_)⟩
          by_cases e : j = kk
          · subst e; rw [HX.out] at hy; cases hy; exact hq
          · exact AH.out j y (by omega) hy
    · have hltz : ¬ (kk : Int) < (xs.length : Int) := by omega
      clear hcells hp
      go_wp2
      go_ret
      refine ⟨?_, BW.out⟩
      rw [idx_miss p xs (fun j y hy => AH.out j y (by have := (List.getElem?_eq_some_iff.1 hy).1; omega) hy)]; rfl

theorem enter_get1 (args : Array Value) (w : World) : (callFunc 14 args).run Tryz.prog w = .ok (.enter 14 args) w := by simp [callFunc, Tryz.func14, go_sem]; rfl
theorem enter_put1 (args : Array Value) (w : World) : (callFunc 17 args).run Tryz.prog w = .ok (.enter 17 args) w := by simp [callFunc, Tryz.func17, go_sem]; rfl
theorem enter_put2 (args : Array Value) (w : World) : (callFunc 18 args).run Tryz.prog w = .ok (.enter 18 args) w := by simp [callFunc, Tryz.func18, go_sem]; rfl
theorem get1 (n : Int) (B : Nat) (x : Field) (w : World) (hc : w.cell? ⟨B, 0, none⟩ = some (.int .i64 n)) (hB : B < w.heap.size) :
    Calls Tryz.prog 14 #[.agg #[.int .i64 x.N, .string x.V], .pointer (some ⟨B, 0, none⟩)] w fun e w' => e = .returned (.bool (x.N == n)) ∧ Below w.heap.size w w' := by
  have hne : B ≠ w.heap.size := by omega
  go_enter Tryz.func14, Tryz.ntmps14
  go_wp2
  go_ret
  exact ⟨rfl, (Below.refl _ _).alloc (Nat.le_refl _) _⟩
theorem put1 (n : Int) (B : Nat) (x : Field) (w : World) (hc : w.cell? ⟨B, 0, none⟩ = some (.int .i64 n)) (hB : B < w.heap.size) :
    Calls Tryz.prog 17 #[.agg #[.int .i64 x.N, .string x.V], .pointer (some ⟨B, 0, none⟩)] w fun e w' => e = .returned (.bool (x.N == n)) ∧ Below w.heap.size w w' := by
  have hne : B ≠ w.heap.size := by omega
  go_enter Tryz.func17, Tryz.ntmps17
  go_wp2
  go_ret
  exact ⟨rfl, (Below.refl _ _).alloc (Nat.le_refl _) _⟩
theorem put2 (n : Int) (B : Nat) (x : Field) (w : World) (hc : w.cell? ⟨B, 0, none⟩ = some (.int .i64 n)) (hB : B < w.heap.size) :
    Calls Tryz.prog 18 #[.agg #[.int .i64 x.N, .string x.V], .pointer (some ⟨B, 0, none⟩)] w fun e w' => e = .returned (.bool (decide (n < x.N))) ∧ Below w.heap.size w w' := by
  have hne : B ≠ w.heap.size := by omega
  go_enter Tryz.func18, Tryz.ntmps18
  go_wp2
  go_ret
  exact ⟨rfl, (Below.refl _ _).alloc (Nat.le_refl _) _⟩
def isN (n : Int) (x : Field) : Bool := x.N == n
theorem pred_get1 (n : Int) (B : Nat) (w : World) (hc : w.cell? ⟨B, 0, none⟩ = some (.int .i64 n)) (hB : B < w.heap.size) : Pred Tryz.prog 14 #[.pointer (some ⟨B, 0, none⟩)] encF (isN n) w :=
  fun W x hb => get1 n B x W ((hb.cell (p := ⟨B, 0, none⟩) hB).trans hc) (Nat.lt_of_lt_of_le hB hb.size)
theorem pred_put1 (n : Int) (B : Nat) (w : World) (hc : w.cell? ⟨B, 0, none⟩ = some (.int .i64 n)) (hB : B < w.heap.size) : Pred Tryz.prog 17 #[.pointer (some ⟨B, 0, none⟩)] encF (isN n) w :=
  fun W x hb => put1 n B x W ((hb.cell (p := ⟨B, 0, none⟩) hB).trans hc) (Nat.lt_of_lt_of_le hB hb.size)
theorem pred_put2 (n : Int) (B : Nat) (w : World) (hc : w.cell? ⟨B, 0, none⟩ = some (.int .i64 n)) (hB : B < w.heap.size) : Pred Tryz.prog 18 #[.pointer (some ⟨B, 0, none⟩)] encF (fun x => decide (n < x.N)) w :=
  fun W x hb => put2 n B x W ((hb.cell (p := ⟨B, 0, none⟩) hB).trans hc) (Nat.lt_of_lt_of_le hB hb.size)

/-- The field of a number. -/
def getF (n : Int) (L : List Field) : ByteArray × Bool := match L.find? (isN n) with | some x => (x.V, true) | none => (⟨#[]⟩, false)
theorem idx_find {α : Type} (p : α → Bool) (L : List α) : (idx p L = -1 ∧ L.find? p = none) ∨ ∃ (k : Nat) (x : α), idx p L = k ∧ k < L.length ∧ L[k]? = some x ∧ L.find? p = some x := by
  induction L with
  | nil => exact .inl ⟨rfl, rfl⟩
  | cons y r ih =>
    cases h : p y with
    | true => exact .inr ⟨0, y, by simp [idx, h], by simp, rfl, by simp [h]⟩
    | false =>
      rcases ih with ⟨e1, e2⟩ | ⟨k, x, e1, e2, e3, e4⟩
      · exact .inl ⟨by simp [idx, h, e1], by simp [h, e2]⟩
      · refine .inr ⟨k + 1, x, ?_, by simpa using e2, by simpa using e3, by simp [h, e4]⟩
        simp [idx, h, e1]; omega

set_option maxHeartbeats 2000000 in
theorem iso_Get (mti : ByteArray) (v : Value) (L : List Field) (n : Int) (w : World) (hr : Rd encF 2 w v L) :
    Calls Tryz.prog 6 #[.agg #[.string mti, v], .int .i64 n] w fun e w' => e = .returned (.tuple #[.string (getF n L).1, .bool (getF n L).2]) ∧ Below w.heap.size w w' := by
  obtain ⟨A, c, rfl, hlc, hmax, hcells⟩ := id hr
  clear hcells hmax
  have HR := Lib.hid hr
  clear hr
  rcases idx_find (isN n) L with ⟨h1, h2⟩ | ⟨k, x, h1, h2, h3, h4⟩
  · have H1 := Lib.hid h1
    have H2 : Hid (getF n L = (⟨#[]⟩, false)) := by show _ = _; rw [getF, h2]
    clear h1 h2
    go_enter Tryz.func6, Tryz.ntmps6
    go_wp2_with (go_at_call 13; refine (indexFunc_F (isN n) _ _ _ _ _ enter_get1 (HR.out.below (alloc2 _ _ _)) (pred_get1 n _ _ (by simp [go_sem]) (by simp))).mono ?_; rintro e w' ⟨rfl, hb'⟩; rw [H1.out])
    exact bodyPost_ret (v := .tuple #[.string ⟨#[]⟩, .bool false]) (by simp [results, Tryz.results6, go_sem]) rfl ⟨by rw [H2.out], after2 hb'⟩
  · obtain ⟨b, off, y, rfl, hb, hy, hc⟩ := HR.out.at (Below.refl _ w) h2
    obtain rfl : y = x := by rw [h3] at hy; exact (Option.some.inj hy).symm
    have H1 := Lib.hid h1
    have H2 : Hid (getF n L = (y.V, true)) := by show _ = _; rw [getF, h4]
    have c1 : w.cell? ⟨b, off + k * 2 + 1, none⟩ = some (.string y.V) := hc 1 _ rfl
    clear h1 h3 h4 hy hc
    have hlz : (k : Int) < (L.length : Int) := by omega
    go_enter Tryz.func6, Tryz.ntmps6
    go_wp2_with (go_at_call 13; refine (indexFunc_F (isN n) _ _ _ _ _ enter_get1 (HR.out.below (alloc2 _ _ _)) (pred_get1 n _ _ (by simp [go_sem]) (by simp))).mono ?_; rintro e w' ⟨rfl, hb'⟩; rw [H1.out]; have d1 := ((after2 hb').cell (p := ⟨b, off + k * 2 + 1, none⟩) hb).trans c1; have b1 := (hb'.cell (p := ⟨w.heap.size, 1, none⟩) (by simp; omega)).trans (by simp [go_sem] : _ = some (.slice (some ⟨b, off, none⟩) L.length c)))
    exact bodyPost_ret (v := .tuple #[.string y.V, .bool true]) (by simp [results, Tryz.results6, go_sem]) rfl ⟨by rw [H2.out], after2 hb'⟩

set_option maxHeartbeats 2000000 in
theorem ref19_Get (mti : ByteArray) (v : Value) (L : List Field) (n : Int) (w : World) (hr : Rd encF 2 w v L) :
    Calls Tryz.prog 7 #[.agg #[.string mti, v], .int .i64 n] w fun e w' => e = .returned (.tuple #[.string (getF n L).1, .bool (getF n L).2]) ∧ Below w.heap.size w w' := by
  obtain ⟨A, c, rfl, hlc, hmax, hcells⟩ := id hr
  have hlen : L.length ≤ 9223372036854775807 := by omega
  clear hcells hmax
  have HR := Lib.hid hr
  clear hr
  go_enter Tryz.func7, Tryz.ntmps7
  go_wp2
  go_loopg [6] (L.length) (fun gg s6 wr => ∃ kk : Nat, kk ≤ L.length ∧ L.length - kk ≤ gg ∧ s6 = .int .i64 kk ∧ wr = (w.alloc (Obj.cells #[.string mti, .slice A L.length c] 24)) ∧ Aside ((L.take kk).find? (isN n) = none))
  case atStart => exact ⟨0, Nat.zero_le _, by omega, rfl, rfl, rfl⟩
  case round =>
    obtain ⟨kk, hkk, hg, rfl, rfl, AH⟩ := hrel
    by_cases hlt : kk < L.length
    · have hltz : (kk : Int) < (L.length : Int) := by omega
      obtain ⟨b, off, x, rfl, hb, hx, hc⟩ := HR.out.at (alloc1 w (Obj.cells #[.string mti, .slice A L.length c] 24)) hlt
      have c0 := hc 0 _ rfl
      have c1 := hc 1 _ rfl
      simp only [Nat.add_zero] at c0
      have HX := Lib.hid hx
      clear hc hx
      by_cases hq : x.N = n
      · have HG : Hid (getF n L = (x.V, true)) := by
          show _ = _
          have : L.find? (isN n) = some x := by
            rw [← List.take_append_drop kk L, List.find?_append, AH.out, List.drop_eq_getElem_cons hlt]
            have : L[kk] = x := by have := HX.out; rw [List.getElem?_eq_getElem hlt] at this; exact Option.some.inj this
            simp [this, isN, hq]
          rw [getF, this]
        go_wp2
        exact bodyPost_ret (v := .tuple #[.string x.V, .bool true]) (by simp [results, Tryz.results7, go_sem]) rfl ⟨by rw [HG.out], alloc1 _ _⟩
      · go_wp2
        go_roundg (L.length - (kk + 1))
        case measure => omega
        case rel =>
          refine ⟨kk + 1, by omega, by omega, by go_num, rfl, ?_⟩
          show (L.take (kk + 1)).find? (isN n) = none
          rw [take_snoc L kk x HX.out, List.find?_append, AH.out]; simp [isN, hq]
    · have hltz : ¬ (kk : Int) < (L.length : Int) := by omega
      have HG : Hid (getF n L = (⟨#[]⟩, false)) := by
        show _ = _
        have := AH.out
        rw [List.take_of_length_le (by omega)] at this
        rw [getF, this]
      go_wp2
      exact bodyPost_ret (v := .tuple #[.string ⟨#[]⟩, .bool false]) (by simp [results, Tryz.results7, go_sem]) rfl ⟨by rw [HG.out], alloc1 _ _⟩
end Go.Proofs.YtbafhmhjkoelnaaGreatDoor
