/- XA3: slices.Equal at a message's fields; iso.Same and bursarref19.Same: the same texts and fields. -/
import Derived.Test.YtbafhmhjkoelnaaGreatDoorA2
import Derived.Deep.Draws
import Derived.Lib.Strings
namespace Go.Proofs.YtbafhmhjkoelnaaGreatDoor
open Go.RowKit

theorem rd_field {w w' : World} {A : Option Addr} {n c : Nat} {xs : List Field} (h : Rd encF 2 w (.slice A n c) xs) (hb : Below w.heap.size w w') {j : Nat} (hj : j < xs.length) :
    ∃ b off x, A = some ⟨b, off, none⟩ ∧ b < w.heap.size ∧ xs[j]? = some x ∧ w'.cell? ⟨b, off + j * 2, none⟩ = some (.int .i64 x.N) ∧ w'.cell? ⟨b, off + j * 2 + 1, none⟩ = some (.string x.V) := by
  obtain ⟨b, off, x, e, hb, hx, hc⟩ := h.at hb hj
  exact ⟨b, off, x, e, hb, hx, hc 0 _ rfl, hc 1 _ rfl⟩

theorem str_ne {m m' : ByteArray} (hm : m ≠ m') : (m.toList == m'.toList) = false := by
  rw [beq_eq_false_iff_ne]; intro h; apply hm; obtain ⟨⟨a⟩⟩ := m; obtain ⟨⟨b⟩⟩ := m'; simp only [Lib.toList_data] at h; rw [show a = b from h]
/-- The fields are the same. -/
def sameL (L L' : List Field) : Bool := decide (L = L')
def sameM (m : ByteArray) (L : List Field) (m' : ByteArray) (L' : List Field) : Bool := decide (m = m') && sameL L L'
theorem sameL_len {L L' : List Field} (h : L.length ≠ L'.length) : sameL L L' = false := by
  unfold sameL; exact decide_eq_false (fun e => h (by rw [e]))
theorem sameL_all {L L' : List Field} (hl : L.length = L'.length) {k : Nat} (hk : ¬ k < L.length) (h : L.take k = L'.take k) : sameL L L' = true := by
  rw [List.take_of_length_le (by omega), List.take_of_length_le (by omega)] at h
  unfold sameL; exact decide_eq_true h
theorem sameL_not {L L' : List Field} {k : Nat} {x y : Field} (hx : L[k]? = some x) (hy : L'[k]? = some y) (h : x ≠ y) : sameL L L' = false := by
  unfold sameL; refine decide_eq_false (fun e => h ?_); rw [e, hy] at hx; exact (Option.some.inj hx).symm
theorem field_eq {x y : Field} (hN : x.N = y.N) (hV : x.V.toList = y.V.toList) : x = y := by
  obtain ⟨n, ⟨a⟩⟩ := x; obtain ⟨m, ⟨b⟩⟩ := y
  simp only [Lib.toList_data] at hV
  simp only at hN
  subst hN
  rw [Array.toList_inj.1 hV]

set_option maxHeartbeats 2000000 in
theorem ref19_Same (m m' : ByteArray) (v v' : Value) (L L' : List Field) (w : World) (hr : Rd encF 2 w v L) (hr' : Rd encF 2 w v' L') :
    Calls Tryz.prog 10 #[.agg #[.string m, v], .agg #[.string m', v']] w fun e w' => e = .returned (.bool (sameM m L m' L')) ∧ Below w.heap.size w w' := by
  obtain ⟨A, c, rfl, hlc, hmax, hcells⟩ := id hr
  obtain ⟨A', c', rfl, hlc', hmax', hcells'⟩ := id hr'
  have hlen : L.length ≤ 9223372036854775807 := by omega
  clear hcells hmax hcells' hmax'
  have HR := Lib.hid hr
  have HR' := Lib.hid hr'
  clear hr hr'
  by_cases hm : m = m'
  · by_cases hl : L.length = L'.length
    · have hlz : (L.length : Int) = (L'.length : Int) := by omega
      have HL := Lib.hid hl
      clear hl
      subst hm
      have HM : Hid (sameM m L m L' = sameL L L') := by show _ = _; simp [sameM]
      go_enter Tryz.func10, Tryz.ntmps10
      go_wp2
      go_loopg [5] (L.length) (fun gg s5 wr => ∃ kk nd : Nat, kk ≤ L.length ∧ L.length - kk ≤ gg ∧ s5 = .int .i64 kk ∧ wr = ((w.alloc (Obj.cells #[.string m, .slice A L.length c] 24)).alloc (Obj.cells #[.string m, .slice A' L'.length c'] 24)).drewN nd ∧ Aside (L.take kk = L'.take kk))
      case atStart => exact ⟨0, 0, Nat.zero_le _, by omega, rfl, rfl, rfl⟩
      case round =>
        obtain ⟨kk, nd, hkk, hg, rfl, rfl, AH⟩ := hrel
        by_cases hlt : kk < L.length
        · have hltz : (kk : Int) < (L.length : Int) := by omega
          have hltz' : (kk : Int) < (L'.length : Int) := by omega
          obtain ⟨b, off, x, rfl, hb, hx, c0, c1⟩ := rd_field HR.out (alloc2 w (Obj.cells #[.string m, .slice A L.length c] 24) (Obj.cells #[.string m, .slice A' L'.length c'] 24)) hlt
          obtain ⟨b', off', y, rfl, hb', hy, d0, d1⟩ := rd_field HR'.out (alloc2 w (Obj.cells #[.string m, .slice (some ⟨b, off, none⟩) L.length c] 24) (Obj.cells #[.string m, .slice A' L'.length c'] 24)) (by omega : kk < L'.length)
          have HX := Lib.hid hx
          have HY := Lib.hid hy
          clear hx hy
          by_cases hN : x.N = y.N
          · by_cases hV : x.V.toList = y.V.toList
            · have HE : Hid (x = y) := field_eq hN hV
              go_wp2
              go_region
              go_wp2
              go_roundg (L.length - (kk + 1))
              case measure => omega
              case rel =>
                refine ⟨kk + 1, nd + 1, by omega, by omega, by go_num, rfl, ?_⟩
                show L.take (kk + 1) = L'.take (kk + 1)
                rw [take_snoc L kk x HX.out, take_snoc L' kk y HY.out, AH.out, HE.out]
            · have HE : Hid (sameL L L' = false) := sameL_not HX.out HY.out (fun e => hV (by rw [e]))
              go_wp2
              go_region
              go_wp2
              go_ret
              exact ⟨by rw [HM.out, HE.out]; rfl, below_drewN (alloc2 _ _ _) _⟩
          · have HE : Hid (sameL L L' = false) := sameL_not HX.out HY.out (fun e => hN (by rw [e]))
            go_wp2
            go_region
            go_wp2
            go_ret
            exact ⟨by rw [HM.out, HE.out]; rfl, below_drewN (alloc2 _ _ _) _⟩
        · have hltz : ¬ (kk : Int) < (L.length : Int) := by omega
          have HE : Hid (sameL L L' = true) := sameL_all HL.out hlt AH.out
          have hltz' : ¬ (kk : Int) < (L'.length : Int) := by omega
          go_wp2
          go_ret
          exact ⟨by rw [HM.out, HE.out]; rfl, below_drewN (alloc2 _ _ _) _⟩
    · have hlz : ¬ (L.length : Int) = (L'.length : Int) := by omega
      have HM : Hid (sameM m L m' L' = false) := by show _ = _; simp [sameM, sameL_len hl]
      clear hl
      subst hm
      go_enter Tryz.func10, Tryz.ntmps10
      go_wp2
      go_ret
      exact ⟨by rw [HM.out]; rfl, alloc2 _ _ _⟩
  · have HM : Hid (sameM m L m' L' = false) := by show _ = _; simp [sameM, hm]
    have hmb : (m.toList == m'.toList) = false := str_ne hm
    go_enter Tryz.func10, Tryz.ntmps10
    go_wp2
    go_ret
    exact ⟨by rw [HM.out]; rfl, alloc2 _ _ _⟩

set_option maxHeartbeats 2000000 in
theorem equal_F (v v' : Value) (L L' : List Field) (w : World) (hr : Rd encF 2 w v L) (hr' : Rd encF 2 w v' L') :
    Calls Tryz.prog 20 #[v, v'] w fun e w' => e = .returned (.bool (sameL L L')) ∧ Below w.heap.size w w' := by
  obtain ⟨A, c, rfl, hlc, hmax, hcells⟩ := id hr
  obtain ⟨A', c', rfl, hlc', hmax', hcells'⟩ := id hr'
  have hlen : L.length ≤ 9223372036854775807 := by omega
  clear hcells hmax hcells' hmax'
  have HR := Lib.hid hr
  have HR' := Lib.hid hr'
  clear hr hr'
  by_cases hl : L.length = L'.length
  · have hlz : ((L.length : Int) != (L'.length : Int)) = false := by rw [hl]; simp
    have HL := Lib.hid hl
    clear hl
    go_enter Tryz.func20, Tryz.ntmps20
    go_wp2
    go_loopg [5, 13] (L.length) (fun gg s5 s13 wr => ∃ kk nd : Nat, kk ≤ L.length ∧ L.length - kk ≤ gg ∧ s13 = .int .i64 kk ∧ wr = w.drewN nd ∧ Aside (L.take kk = L'.take kk))
    case atStart => exact ⟨0, 0, Nat.zero_le _, by omega, rfl, rfl, rfl⟩
    case round =>
      obtain ⟨kk, nd, hkk, hg, rfl, rfl, AH⟩ := hrel
      by_cases hlt : kk < L.length
      · have hltz : (kk : Int) < (L.length : Int) := by omega
        have hltz' : (kk : Int) < (L'.length : Int) := by have := HL.out; omega
        obtain ⟨b, off, x, rfl, hb, hx, c0, c1⟩ := rd_field HR.out (Below.refl _ w) hlt
        obtain ⟨b', off', y, rfl, hb', hy, d0, d1⟩ := rd_field HR'.out (Below.refl _ w) (by have := HL.out; omega : kk < L'.length)
        have HX := Lib.hid hx
        have HY := Lib.hid hy
        clear hx hy
        by_cases hN : x.N = y.N
        · by_cases hV : x.V.toList = y.V.toList
          · have HE : Hid (x = y) := field_eq hN hV
            go_wp2
            go_region
            go_wp2
            go_roundg (L.length - (kk + 1))
            case measure => omega
            case rel =>
              refine ⟨kk + 1, nd + 1, by omega, by omega, by go_num, rfl, ?_⟩
              show L.take (kk + 1) = L'.take (kk + 1)
              rw [take_snoc L kk x HX.out, take_snoc L' kk y HY.out, AH.out, HE.out]
          · have HE : Hid (sameL L L' = false) := sameL_not HX.out HY.out (fun e => hV (by rw [e]))
            go_wp2
            go_region
            go_wp2
            go_ret
            exact ⟨by rw [HE.out]; rfl, below_drewN (Below.refl _ _) _⟩
        · have HE : Hid (sameL L L' = false) := sameL_not HX.out HY.out (fun e => hN (by rw [e]))
          go_wp2
          go_region
          go_wp2
          go_ret
          exact ⟨by rw [HE.out]; rfl, below_drewN (Below.refl _ _) _⟩
      · have hltz : ¬ (kk : Int) < (L.length : Int) := by omega
        have HE : Hid (sameL L L' = true) := sameL_all HL.out hlt AH.out
        go_wp2
        go_ret
        exact ⟨by rw [HE.out]; rfl, below_drewN (Below.refl _ _) _⟩
  · have hlz : ((L.length : Int) != (L'.length : Int)) = true := by simp; omega
    have HE : Hid (sameL L L' = false) := sameL_len hl
    clear hl
    go_enter Tryz.func20, Tryz.ntmps20
    go_wp2
    go_ret
    exact ⟨by rw [HE.out]; rfl, Below.refl _ _⟩

set_option maxHeartbeats 2000000 in
theorem iso_Same (m m' : ByteArray) (v v' : Value) (L L' : List Field) (w : World) (hr : Rd encF 2 w v L) (hr' : Rd encF 2 w v' L') :
    Calls Tryz.prog 11 #[.agg #[.string m, v], .agg #[.string m', v']] w fun e w' => e = .returned (.bool (sameM m L m' L')) ∧ Below w.heap.size w w' := by
  obtain ⟨A, c, rfl, hlc, hmax, hcells⟩ := id hr
  obtain ⟨A', c', rfl, hlc', hmax', hcells'⟩ := id hr'
  have hC := equal_F _ _ L L' _ (hr.below (alloc2 w (Obj.cells #[.string m, .slice A L.length c] 24) (Obj.cells #[.string m', .slice A' L'.length c'] 24))) (hr'.below (alloc2 w _ _))
  clear hcells hmax hcells' hmax' hr hr'
  by_cases hm : m = m'
  · subst hm
    have HM : Hid (sameM m L m L' = sameL L L') := by show _ = _; simp [sameM]
    go_enter Tryz.func11, Tryz.ntmps11
    go_wp2_with (go_at_call 20; refine hC.mono ?_; rintro e w' ⟨rfl, hb'⟩)
    go_ret
    exact ⟨by rw [HM.out]; rfl, after2 hb'⟩
  · have HM : Hid (sameM m L m' L' = false) := by show _ = _; simp [sameM, hm]
    have hmb : (m.toList == m'.toList) = false := str_ne hm
    go_enter Tryz.func11, Tryz.ntmps11
    go_wp2
    go_ret
    exact ⟨by rw [HM.out]; rfl, alloc2 _ _ _⟩
end Go.Proofs.YtbafhmhjkoelnaaGreatDoor
