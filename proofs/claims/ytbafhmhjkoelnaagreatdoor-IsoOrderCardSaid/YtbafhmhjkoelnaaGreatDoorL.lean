/- XL: bursarlaw19.awake: the chapter's examples. -/
import Derived.Test.YtbafhmhjkoelnaaGreatDoorR3
import Derived.Test.YtbafhmhjkoelnaaGreatDoorN2
namespace Go.Proofs.YtbafhmhjkoelnaaGreatDoor
open Go.RowKit

def awF : Field := ⟨70, ⟨#[51, 48, 49]⟩⟩
def awM : List UInt8 := [48, 56, 48, 48]
def awS : List UInt8 := [48, 56, 48, 48, 128, 0, 0, 0, 0, 0, 0, 0, 4, 0, 0, 0, 0, 0, 0, 0, 51, 48, 49]
theorem aw_pack : packM awM [awF] = (awS, 0) := by decide +kernel
theorem aw_parse : parseV awS = (⟨awM.toArray⟩, [awF]) ∧ parseE awS = 0 := by decide +kernel
theorem aw_short : parseV awM = (⟨#[]⟩, []) ∧ parseE awM = 3 := by decide +kernel

set_option maxRecDepth 100000 in
set_option maxHeartbeats 4000000 in
theorem law19_awake (w : World) (hG : G w) : Calls Tryz.prog 12 #[] w fun e w' => e = .returned (.bool true) ∧ Below w.heap.size w w' := by
  have HG := Lib.hid hG
  clear hG
  obtain ⟨W0, hW0⟩ : ∃ W0, W0 = (w.alloc (.cells #[.int .i64 70, .string ⟨#[51, 48, 49]⟩] 34)).alloc (.cells #[.string ⟨#[48, 56, 48, 48]⟩, .slice (some ⟨w.heap.size, 0, none⟩) 1 1] 24) := ⟨_, rfl⟩
  have hb0 : Below w.heap.size w W0 := by rw [hW0]; exact alloc2 _ _ _
  have hrow : Row encF 34 W0 w.heap.size [awF] [] := by unfold Row; rw [hW0]; exact (blk2 w _ _).1
  have k1 : W0.heap[w.heap.size + 1]? = some (.cells #[.string ⟨#[48, 56, 48, 48]⟩, .slice (some ⟨w.heap.size, 0, none⟩) 1 1] 24 (0, 0)) := by rw [hW0]; exact (blk2 w _ _).2
  have hs0 : w.heap.size + 2 ≤ W0.heap.size := by rw [hW0]; simp
  have hrd : Rd encF 2 W0 (.slice (some ⟨w.heap.size, 0, none⟩) 1 1) [awF] := hrow.rd encF_len (Nat.le_refl _) (by decide)
  have hP := iso_Pack ⟨#[48, 56, 48, 48]⟩ (.slice (some ⟨w.heap.size, 0, none⟩) 1 1) [awF] W0 hrd (HG.out.below hb0) (by decide) (by intro x hx; simp at hx; subst hx; decide)
  rw [show (⟨#[48, 56, 48, 48]⟩ : ByteArray).data.toList = awM from rfl, aw_pack] at hP
  obtain ⟨S, hS⟩ : ∃ S : ByteArray, S = ⟨awS.toArray⟩ := ⟨_, rfl⟩
  have hA := fun W g => iso_Parse S (by rw [hS]; decide) W g
  rw [show S.data.toList = awS by rw [hS], aw_parse.1, aw_parse.2] at hA
  have HA := fun W g => Lib.hid (hA W g)
  have h23 : S.size = 23 := by rw [hS]; rfl
  have h23z : ((S.size : Int) == 23) = true := by rw [h23]; rfl
  have hge : (20 : Int) ≤ (S.size : Int) := by omega
  have hge4 : (4 : Int) ≤ (S.size : Int) := by omega
  have h04 : ((S.extract 0 4).toList == [48, 56, 48, 48]) = true := by rw [hS]; decide +kernel
  have h20 : ((S.extract 20 S.size).toList == [51, 48, 49]) = true := by rw [h23, hS]; decide +kernel
  dsimp only at hP
  rw [← hS] at hP
  clear hS hA h23
  have HRD := Lib.hid hrd
  have HP := Lib.hid hP
  have K1 := Lib.hid k1
  have HB0 := Lib.hid hb0
  clear hP hrd hrow k1 hb0
  go_enter Tryz.func12, Tryz.ntmps12
  go_wp2_with fail
  rw [← hW0]
  clear hW0
  refine HP.out.mono ?_
  rintro e w1 ⟨rfl, hb1⟩
  go_wp2_with fail
  refine (HA _ (HG.out.below (bthen HB0.out hb1))).out.mono ?_
  rintro e w2 ⟨v2, rfl, hr2, hb2⟩
  obtain ⟨A2, c2, rfl, -⟩ := id hr2
  have HR2 := Lib.hid hr2
  clear hr2
  go_wp2_with fail
  have hbb := bthen hb1 (bthen hb2 (alloc1 w2 (.cells #[.string ⟨awM.toArray⟩, .slice A2 1 c2] 24)))
  have hC := iso_Parse ⟨#[48, 56, 48, 48]⟩ (by decide) (w2.alloc (.cells #[.string ⟨awM.toArray⟩, .slice A2 1 c2] 24)) (HG.out.below (bthen HB0.out hbb))
  rw [show (⟨#[48, 56, 48, 48]⟩ : ByteArray).data.toList = awM from rfl, aw_short.1, aw_short.2] at hC
  refine hC.mono ?_
  rintro e w3 ⟨v3, rfl, hr3, hb3⟩
  obtain ⟨A3, c3, rfl, -⟩ := id hr3
  have hb13 := bthen hbb hb3
  obtain ⟨hz1, hf1, hc0, hc1⟩ := blkf2 ((hb13.block _ (by omega)).trans K1.out)
  obtain ⟨hz2, hf2, hd0, hd1⟩ := blkf2 ((hb3.block w2.heap.size (by simp)).trans (heap_alloc_new w2 _))
  have hSm := fun W (h : Below w3.heap.size w3 W) => ref19_Same ⟨awM.toArray⟩ ⟨#[48, 56, 48, 48]⟩ (.slice A2 1 c2) (.slice (some ⟨w.heap.size, 0, none⟩) 1 1) [awF] [awF] W ((HR2.out.below (bthen (alloc1 _ _) hb3)).below h) ((HRD.out.below hb13).below h)
  rw [show sameM ⟨awM.toArray⟩ [awF] ⟨#[48, 56, 48, 48]⟩ [awF] = true by decide] at hSm
  have HSM := Lib.hid hSm
  clear hSm hC hb1 hb2 hr3
  go_wp2_with fail
  refine (HSM.out _ (alloc1 _ _)).mono ?_
  rintro e w4 ⟨rfl, hb4⟩
  go_wp2
  go_ret
  exact ⟨rfl, bthen HB0.out (bthen hb13 (bthen (alloc1 _ _) hb4))⟩
end Go.Proofs.YtbafhmhjkoelnaaGreatDoor
