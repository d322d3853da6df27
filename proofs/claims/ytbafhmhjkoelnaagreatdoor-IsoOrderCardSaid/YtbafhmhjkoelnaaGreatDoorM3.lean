/- XM3: mti.Parse. -/
import Derived.Test.YtbafhmhjkoelnaaGreatDoorM2
import Derived.Test.YtbafhmhjkoelnaaGreatDoorA3
namespace Go.Proofs.YtbafhmhjkoelnaaGreatDoor
open Go.RowKit

/-- The type that four octets would be. -/
def readM (l : List UInt8) : Mt :=
  ⟨(((l.getD 1 0).toNat : Int) - 48) % 256, Go.bits .and .u8 ((((l.getD 2 0).toNat : Int) - 48) % 256) 2 != 0, Go.bits .and .u8 ((((l.getD 2 0).toNat : Int) - 48) % 256) 1 != 0, ((l.getD 3 0).toNat : Int) == 49⟩
def okM (l : List UInt8) : Bool := decide (l.length = 4) && (mayM (readM l) && decide (textM (readM l) = l))
def noMt : Mt := ⟨0, false, false, false⟩
def mtOf (l : List UInt8) : Mt := if okM l then readM l else noMt
def mtE (l : List UInt8) : Int := if okM l then 0 else 17
theorem mtE_cases (l : List UInt8) : mtE l = 0 ∨ mtE l = 17 := by unfold mtE; split <;> simp
theorem mayM_cls (m : Mt) (h : mayM m = true) : m.cls = 1 ∨ m.cls = 2 ∨ m.cls = 4 ∨ m.cls = 5 ∨ m.cls = 6 ∨ m.cls = 8 := by
  unfold mayM at h
  simp only [Bool.and_eq_true, Bool.or_eq_true, decide_eq_true_eq] at h
  omega
theorem str_data (s : ByteArray) (i : Nat) (h : i < s.size) : s.data.toList.getD i 0 = s[i] := by
  rw [List.getD_eq_getElem?_getD, List.getElem?_eq_getElem (by rw [Array.length_toList]; exact h)]; rfl
set_option maxRecDepth 100000 in
set_option maxHeartbeats 4000000 in
theorem mti_Parse (s : ByteArray) (w : World) : Calls Tryz.prog 26 #[.string s] w fun e w' => e = .returned (.tuple #[.agg #[.int .i64 (mtOf s.data.toList).cls, .bool (mtOf s.data.toList).adv, .bool (mtOf s.data.toList).ans, .bool (mtOf s.data.toList).aga], .int .i64 (mtE s.data.toList)]) ∧ Below w.heap.size w w' := by
  have hlen : s.data.toList.length = s.size := by rw [Array.length_toList]; rfl
  by_cases h4 : s.size = 4
  · have h4b : ((s.size : Int) != 4) = false := by rw [h4]; rfl
    have hl1 : (1 : Int) < (s.size : Int) := by omega
    have hl2 : (2 : Int) < (s.size : Int) := by omega
    have hl3 : (3 : Int) < (s.size : Int) := by omega
    have p1 : 1 < s.size := by omega
    have p2 : 2 < s.size := by omega
    have p3 : 3 < s.size := by omega
    obtain ⟨m, hm⟩ : ∃ m, m = readM s.data.toList := ⟨_, rfl⟩
    have e1 : (((s[1]'p1).toNat : Int) - 48) % 256 = m.cls := by rw [hm]; unfold readM; rw [str_data s 1 p1]
    have e2 : (Go.bits .and .u8 ((((s[2]'p2).toNat : Int) - 48) % 256) 2 != 0) = m.adv := by rw [hm]; unfold readM; rw [str_data s 2 p2]
    have e3 : (Go.bits .and .u8 ((((s[2]'p2).toNat : Int) - 48) % 256) 1 != 0) = m.ans := by rw [hm]; unfold readM; rw [str_data s 2 p2]
    have e4 : (((s[3]'p3).toNat : Int) == 49) = m.aga := by rw [hm]; unfold readM; rw [str_data s 3 p3]
    have hM := fun W => mti_May m W
    have hok : okM s.data.toList = (mayM m && decide (textM m = s.data.toList)) := by unfold okM; rw [hlen, ← hm, decide_eq_true h4]; rfl
    have HM : Hid (mtOf s.data.toList = (if okM s.data.toList then m else noMt)) := by show _ = _; unfold mtOf; rw [hm]
    have HE : Hid (mtE s.data.toList = (if okM s.data.toList then 0 else 17)) := rfl
    have HOK := Lib.hid hok
    have hT : Hid (mayM m = true → ∀ W, Calls Tryz.prog 34 #[.agg #[.int .i64 m.cls, .bool m.adv, .bool m.ans, .bool m.aga]] W fun e w' => e = .returned (.string ⟨(textM m).toArray⟩) ∧ Below W.heap.size W w') := fun h W => mti_text m (by have := mayM_cls m h; omega) (by have := mayM_cls m h; omega) W
    have HMM := Lib.hid hM
    have E1 := Lib.hid e1
    have E2 := Lib.hid e2
    have E3 := Lib.hid e3
    have E4 := Lib.hid e4
    clear hm hok hM h4 hlen e1 e2 e3 e4
    cases hmay : mayM m with
    | false =>
      have HY := Lib.hid hmay
      clear hmay
      have hz : Hid (mtOf s.data.toList = noMt ∧ mtE s.data.toList = 17) := by show _ ∧ _; rw [HM.out, HE.out, HOK.out, HY.out]; exact ⟨rfl, rfl⟩
      rw [hz.out.1, hz.out.2]
      go_enter Tryz.func26, Tryz.ntmps26
      go_wp2_with fail
      go_region
      go_wp2_with fail
      rw [E1.out, E2.out, E3.out, E4.out]
      refine (HMM.out _).mono ?_
      rw [HY.out]
      rintro e w1 ⟨rfl, hb1⟩
      obtain ⟨hz1, hf1, hc0, hc1, hc2, hc3⟩ := blkf4 ((hb1.block w.heap.size (by first | omega | (simp; done) | (simp; omega))).trans (blk2 w _ _).1)
      go_wp2
      exact bodyPost_ret (v := .tuple #[.agg #[.int .i64 0, .bool false, .bool false, .bool false], .int .i64 17]) (by simp [results, Tryz.results26, go_sem, *]) rfl ⟨rfl, (by repeat' (first | exact ((alloc2 w _ _).drew.trans (hb1.mono (by first | omega | (simp; done) | (simp; omega)))) | refine Below.setCell ?_ (by first | exact Nat.le_refl _ | exact (((alloc2 w _ _).drew.trans (hb1.mono (by first | omega | (simp; done) | (simp; omega))))).size | (simp; done) | (have hz_ := (((alloc2 w _ _).drew.trans (hb1.mono (by first | omega | (simp; done) | (simp; omega))))).size; simp at hz_ ⊢; omega) | (simp; omega) | omega) _ | refine Below.alloc ?_ (by first | exact Nat.le_refl _ | exact (((alloc2 w _ _).drew.trans (hb1.mono (by first | omega | (simp; done) | (simp; omega))))).size | (simp; done) | (have hz_ := (((alloc2 w _ _).drew.trans (hb1.mono (by first | omega | (simp; done) | (simp; omega))))).size; simp at hz_ ⊢; omega) | (simp; omega) | omega) _ | refine below_drewN ?_ _))⟩
    | true =>
      have hTT := fun W => hT.out hmay W
      have HY := Lib.hid hmay
      have HT := Lib.hid hTT
      clear hmay hTT
      by_cases hs : (⟨(textM m).toArray⟩ : ByteArray) = s
      · have hz : Hid (mtOf s.data.toList = m ∧ mtE s.data.toList = 0) := by
          show _ ∧ _
          have : decide (textM m = s.data.toList) = true := by simp [← hs]
          rw [HM.out, HE.out, HOK.out, HY.out, this]; exact ⟨rfl, rfl⟩
        rw [hz.out.1, hz.out.2]
        have HS := Lib.hid hs
        clear hs
        go_enter Tryz.func26, Tryz.ntmps26
        go_wp2_with fail
        go_region
        go_wp2_with fail
        rw [E1.out, E2.out, E3.out, E4.out]
        refine (HMM.out _).mono ?_
        rw [HY.out]
        rintro e w1 ⟨rfl, hb1⟩
        obtain ⟨hz1, hf1, hc0, hc1, hc2, hc3⟩ := blkf4 ((hb1.block w.heap.size (by first | omega | (simp; done) | (simp; omega))).trans (blk2 w _ _).1)
        obtain ⟨hz2, hf2, hd0, hd1, hd2, hd3⟩ := blkf4 ((hb1.block (w.heap.size + 1) (by simp)).trans (blk2 w _ _).2)
        go_wp2_with (go_at_call 34; refine (HT.out _).mono ?_; rw [HS.out]; rintro e w2 ⟨rfl, hb2⟩; obtain ⟨hz3, hf3, hx0, hx1, hx2, hx3⟩ := blkf4 ((hb2.block _ hz1).trans ((hb1.block w.heap.size (by first | omega | (simp; done) | (simp; omega))).trans (blk2 w _ _).1)); obtain ⟨hz4, hf4, hg0, hg1, hg2, hg3⟩ := blkf4 ((hb2.block _ hz2).trans ((hb1.block (w.heap.size + 1) (by simp)).trans (blk2 w _ _).2)))
        exact bodyPost_ret (v := .tuple #[.agg #[.int .i64 m.cls, .bool m.adv, .bool m.ans, .bool m.aga], .int .i64 0]) (by simp [results, Tryz.results26, go_sem, *]) rfl ⟨rfl, (by repeat' (first | exact (((alloc2 w _ _).drew.trans (hb1.mono (by first | omega | (simp; done) | (simp; omega)))).trans (hb2.mono (by have := hb1.size; simp at this; omega))) | refine Below.setCell ?_ (by first | exact Nat.le_refl _ | exact ((((alloc2 w _ _).drew.trans (hb1.mono (by first | omega | (simp; done) | (simp; omega)))).trans (hb2.mono (by have := hb1.size; simp at this; omega)))).size | (simp; done) | (have hz_ := ((((alloc2 w _ _).drew.trans (hb1.mono (by first | omega | (simp; done) | (simp; omega)))).trans (hb2.mono (by have := hb1.size; simp at this; omega)))).size; simp at hz_ ⊢; omega) | (simp; omega) | omega) _ | refine Below.alloc ?_ (by first | exact Nat.le_refl _ | exact ((((alloc2 w _ _).drew.trans (hb1.mono (by first | omega | (simp; done) | (simp; omega)))).trans (hb2.mono (by have := hb1.size; simp at this; omega)))).size | (simp; done) | (have hz_ := ((((alloc2 w _ _).drew.trans (hb1.mono (by first | omega | (simp; done) | (simp; omega)))).trans (hb2.mono (by have := hb1.size; simp at this; omega)))).size; simp at hz_ ⊢; omega) | (simp; omega) | omega) _ | refine below_drewN ?_ _))⟩
      · have hz : Hid (mtOf s.data.toList = noMt ∧ mtE s.data.toList = 17) := by
          show _ ∧ _
          have : decide (textM m = s.data.toList) = false := decide_eq_false (fun h => hs (by rw [h]))
          rw [HM.out, HE.out, HOK.out, HY.out, this]; exact ⟨rfl, rfl⟩
        rw [hz.out.1, hz.out.2]
        have hse := str_ne hs
        generalize (⟨(textM m).toArray⟩ : ByteArray) = T at *
        clear hs
        go_enter Tryz.func26, Tryz.ntmps26
        go_wp2_with fail
        go_region
        go_wp2_with fail
        rw [E1.out, E2.out, E3.out, E4.out]
        refine (HMM.out _).mono ?_
        rw [HY.out]
        rintro e w1 ⟨rfl, hb1⟩
        obtain ⟨hz1, hf1, hc0, hc1, hc2, hc3⟩ := blkf4 ((hb1.block w.heap.size (by first | omega | (simp; done) | (simp; omega))).trans (blk2 w _ _).1)
        obtain ⟨hz2, hf2, hd0, hd1, hd2, hd3⟩ := blkf4 ((hb1.block (w.heap.size + 1) (by simp)).trans (blk2 w _ _).2)
        go_wp2_with (go_at_call 34; refine (HT.out _).mono ?_; rintro e w2 ⟨rfl, hb2⟩; obtain ⟨hz3, hf3, hx0, hx1, hx2, hx3⟩ := blkf4 ((hb2.block _ hz1).trans ((hb1.block w.heap.size (by first | omega | (simp; done) | (simp; omega))).trans (blk2 w _ _).1)); obtain ⟨hz4, hf4, hg0, hg1, hg2, hg3⟩ := blkf4 ((hb2.block _ hz2).trans ((hb1.block (w.heap.size + 1) (by simp)).trans (blk2 w _ _).2)))
        exact bodyPost_ret (v := .tuple #[.agg #[.int .i64 0, .bool false, .bool false, .bool false], .int .i64 17]) (by simp [results, Tryz.results26, go_sem, *]) rfl ⟨rfl, (by repeat' (first | exact (((alloc2 w _ _).drew.trans (hb1.mono (by first | omega | (simp; done) | (simp; omega)))).trans (hb2.mono (by have := hb1.size; simp at this; omega))) | refine Below.setCell ?_ (by first | exact Nat.le_refl _ | exact ((((alloc2 w _ _).drew.trans (hb1.mono (by first | omega | (simp; done) | (simp; omega)))).trans (hb2.mono (by have := hb1.size; simp at this; omega)))).size | (simp; done) | (have hz_ := ((((alloc2 w _ _).drew.trans (hb1.mono (by first | omega | (simp; done) | (simp; omega)))).trans (hb2.mono (by have := hb1.size; simp at this; omega)))).size; simp at hz_ ⊢; omega) | (simp; omega) | omega) _ | refine Below.alloc ?_ (by first | exact Nat.le_refl _ | exact ((((alloc2 w _ _).drew.trans (hb1.mono (by first | omega | (simp; done) | (simp; omega)))).trans (hb2.mono (by have := hb1.size; simp at this; omega)))).size | (simp; done) | (have hz_ := ((((alloc2 w _ _).drew.trans (hb1.mono (by first | omega | (simp; done) | (simp; omega)))).trans (hb2.mono (by have := hb1.size; simp at this; omega)))).size; simp at hz_ ⊢; omega) | (simp; omega) | omega) _ | refine below_drewN ?_ _))⟩
  · have h4b : ((s.size : Int) != 4) = true := by rw [bne_iff_ne]; omega
    have hz : Hid (mtOf s.data.toList = noMt ∧ mtE s.data.toList = 17) := by
      show _ ∧ _
      unfold mtOf mtE okM
      rw [hlen, decide_eq_false h4]
      exact ⟨rfl, rfl⟩
    rw [hz.out.1, hz.out.2]
    go_enter Tryz.func26, Tryz.ntmps26
    go_wp2
    go_returns
    exact ⟨rfl, by go_grown⟩
end Go.Proofs.YtbafhmhjkoelnaaGreatDoor
