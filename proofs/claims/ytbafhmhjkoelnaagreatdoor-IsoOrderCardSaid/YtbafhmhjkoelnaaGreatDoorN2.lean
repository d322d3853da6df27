/- XN2: iso.pack, iso.Pack. -/
import Derived.Test.YtbafhmhjkoelnaaGreatDoorN
import Derived.Test.YtbafhmhjkoelnaaGreatDoorK3
import Derived.Test.YtbafhmhjkoelnaaGreatDoorM3
namespace Go.Proofs.YtbafhmhjkoelnaaGreatDoor
open Go.RowKit

def fieldOk (x : Field) : Bool := (packF x.N x.V.data.toList).2 == 0
def fieldB (x : Field) : List UInt8 := (packF x.N x.V.data.toList).1
/-- A message's octets, however many; the error's number. -/
def packL (m : List UInt8) (L : List Field) : List UInt8 × Int :=
  if mtE m = 0 then (if mayL (L.map (·.N)) = true then (if L.all fieldOk = true then (m ++ mapL (L.map (·.N)) ++ L.flatMap fieldB, 0) else ([], 16)) else ([], 16)) else ([], 17)
/-- A message's octets; the error's number. -/
def packM (m : List UInt8) (L : List Field) : List UInt8 × Int := if (packL m L).2 = 0 ∧ 4000 < (packL m L).1.length then ([], 9) else packL m L
theorem packF_cases (n : Int) (s : List UInt8) : (packF n s).2 = 0 ∨ (packF n s).2 = 16 ∨ (packF n s).2 = 7 := by
  unfold packF; split
  · split <;> simp
  · simp
theorem fieldB_len (x : Field) (h : fieldOk x = true) : (fieldB x).length ≤ 1010 := by
  unfold fieldOk at h
  unfold fieldB
  unfold packF at h ⊢
  by_cases h1 : ofE x.N = 0
  · rw [if_pos h1] at h ⊢
    by_cases h2 : validF x.N x.V.data.toList = true
    · rw [if_pos h2]
      have hk := specAt_ok x.N h1
      have hv : x.V.data.toList.length ≤ (specAt x.N).len := by
        unfold validF longOk at h2; simp at h2; simp; omega
      rw [List.length_append, List.length_drop, itoa_four _ (by omega)]
      omega
    · rw [if_neg h2] at h; simp at h
  · rw [if_neg h1] at h; simp at h

theorem mtE_len (l : List UInt8) (h : mtE l = 0) : l.length = 4 := by
  unfold mtE okM at h
  by_cases h4 : l.length = 4
  · exact h4
  · rw [decide_eq_false h4] at h; simp at h
theorem mapL_len (l : List Int) : (mapL l).length ≤ 16 := by
  unfold mapL; rw [fold_len]; unfold map0; split <;> simp

set_option maxRecDepth 100000 in
set_option maxHeartbeats 4000000 in
theorem iso_pack (m : ByteArray) (v : Value) (L : List Field) (w : World) (hr : Rd encF 2 w v L) (hG : G w) (hl : L.length ≤ 1000) (hv : ∀ x ∈ L, x.V.size ≤ 2000) :
    Calls Tryz.prog 25 #[.agg #[.string m, v]] w fun e w' => e = .returned (.tuple #[.string ⟨(packL m.data.toList L).1.toArray⟩, .int .i64 (packL m.data.toList L).2]) ∧ Below w.heap.size w w' := by
  obtain ⟨A, c, rfl, hlc, hmax, hcells⟩ := id hr
  clear hcells hmax
  have HR := Lib.hid hr
  have HG := Lib.hid hG
  have hP := fun W => mti_Parse m W
  have hcE := mtE_cases m.data.toList
  have hsz := mtE_len m.data.toList
  have HPL : Hid (packL m.data.toList L = if mtE m.data.toList = 0 then (if mayL (L.map (·.N)) = true then (if L.all fieldOk = true then (m.data.toList ++ mapL (L.map (·.N)) ++ L.flatMap fieldB, 0) else ([], 16)) else ([], 16)) else ([], 17)) := rfl
  obtain ⟨me, hme⟩ : ∃ me, me = mtE m.data.toList := ⟨_, rfl⟩
  rw [← hme] at hP hcE hsz HPL
  generalize mtOf m.data.toList = mt at hP
  obtain ⟨t1, t2, t3, t4⟩ := mt
  dsimp only at hP
  have HP := Lib.hid hP
  clear hP hr hG hme
  rcases hcE with rfl | rfl
  · have h4 : m.data.toList.length = m.size := by rw [Array.length_toList]; rfl
    have hm4 : m.size ≤ 4 := by have := hsz rfl; omega
    rw [if_pos rfl] at HPL
    clear hsz h4
    have hN := fun W h => iso_numbers (.slice A L.length c) L W h (by omega : L.length ≤ 1000000)
    have hMp := fun (v : Value) W h g => bitmap_Map v (L.map (·.N)) W h g
    have hml := mapL_len (L.map (·.N))
    obtain ⟨mp, hmp⟩ : ∃ mp : ByteArray, mp = ⟨(if mayL (L.map (·.N)) = true then mapL (L.map (·.N)) else []).toArray⟩ := ⟨_, rfl⟩
    rw [← hmp] at hMp
    cases hmay : mayL (L.map (·.N)) with
    | false =>
      rw [hmay] at hMp HPL
      rw [if_neg (by simp)] at HPL
      have HN := Lib.hid hN
      have HMp := Lib.hid hMp
      rw [HPL.out]
      clear hN hMp hmay hmp hml HPL
      go_enter Tryz.func25, Tryz.ntmps25
      go_wp2_with (first
        | (go_at_call 26; refine (HP.out _).mono ?_; rintro e w1 ⟨rfl, hb1⟩; obtain ⟨hz1, hf1, hc0, hc1⟩ := blkf2 ((hb1.block w.heap.size (by simp)).trans (heap_alloc_new w _)))
        | (go_at_call 31; refine (HN.out _ (HR.out.below (bthen (after1 hb1) (alloc1 _ _)))).mono ?_; rintro e w2 ⟨v2, rfl, ho2, hb2⟩)
        | (go_at_call 30; refine (HMp.out _ _ (ho2.rd encI_len) (HG.out.below (bthen (bthen (after1 hb1) (alloc1 _ _)) hb2))).mono ?_; rintro e w3 ⟨rfl, hb3⟩))
      go_ret2
      exact ⟨rfl, bthen (bthen (bthen (after1 hb1) (alloc1 _ _)) hb2) hb3⟩
    | true =>
      rw [hmay] at hMp HPL
      rw [if_pos rfl] at HPL
      rw [hmay, if_pos rfl] at hmp
      have hmps : mp.size ≤ 16 := by rw [hmp, size_mk]; exact hml
      have hmpd : Hid (mp.data.toList = mapL (L.map (·.N))) := by show _ = _; rw [hmp]
      have HN := Lib.hid hN
      have HMp := Lib.hid hMp
      clear hN hMp hmay hmp hml
      go_enter Tryz.func25, Tryz.ntmps25
      go_wp2_with (first
        | (go_at_call 26; refine (HP.out _).mono ?_; rintro e w1 ⟨rfl, hb1⟩; obtain ⟨hz1, hf1, hc0, hc1⟩ := blkf2 ((hb1.block w.heap.size (by simp)).trans (heap_alloc_new w _)))
        | (go_at_call 31; refine (HN.out _ (HR.out.below (bthen (after1 hb1) (alloc1 _ _)))).mono ?_; rintro e w2 ⟨v2, rfl, ho2, hb2⟩)
        | (go_at_call 30; refine (HMp.out _ _ (ho2.rd encI_len) (HG.out.below (bthen (bthen (after1 hb1) (alloc1 _ _)) hb2))).mono ?_; rintro e w3 ⟨rfl, hb3⟩; obtain ⟨hz3, hf3, hd0, hd1⟩ := blkf2 ((((bthen (alloc1 w1 _) (bthen hb2 hb3)).block w.heap.size hz1).trans ((hb1.block w.heap.size (by simp)).trans (heap_alloc_new w _))))))
      have BW : Aside (Below w.heap.size w w3) := bthen (bthen (bthen (after1 hb1) (alloc1 _ _)) hb2) hb3
      have hmsz : (m ++ mp).size ≤ 20 := by rw [ByteArray.size_append]; omega
      have HV := Lib.hid hv
      clear hb1 hb2 hb3 hz1 hf1 hc0 hc1 hz3 hf3 hd0 hd1 ho2 HN HMp HP hv
      go_loopw [8, 38] (fun s8 s38 wr => ∃ (kk : Nat) (T : ByteArray), kk ≤ L.length ∧ s38 = .int .i64 kk ∧ s8 = .string T ∧ T.size ≤ 20 + 1010 * kk ∧ Aside (T.data.toList = m.data.toList ++ mapL (L.map (·.N)) ++ (L.take kk).flatMap fieldB) ∧ Aside ((L.take kk).all fieldOk = true) ∧ Aside (Below w.heap.size w wr)) (fun _ s38 _ => L.length - (intOf s38).toNat)
      case atStart => exact ⟨0, m ++ mp, Nat.zero_le _, rfl, rfl, by omega, by show _ = _; rw [app_data, hmpd.out]; simp, rfl, BW⟩
      case round =>
        obtain ⟨kk, T, hk, rfl, rfl, hT, HT, HA, HB⟩ := hrel
        clear BW
        by_cases hlt : kk < L.length
        · have hltz : (kk : Int) < (L.length : Int) := by omega
          obtain ⟨b, off, x, rfl, hb, hx, c0, c1⟩ := rd_field HR.out HB.out hlt
          have hbw : b < wr.heap.size := by have := HB.out.size; omega
          have hS := spec_Pack x.N x.V (by have := HV.out x (List.mem_of_getElem? hx); omega) (wr.alloc (.cells #[.int .i64 x.N, .string x.V] 34)) (HG.out.below (HB.out.alloc HB.out.size _))
          have hE := packF_cases x.N x.V.data.toList
          have hok : fieldOk x = ((packF x.N x.V.data.toList).2 == 0) := rfl
          have hfl := fieldB_len x
          have hfb : fieldB x = (packF x.N x.V.data.toList).1 := rfl
          obtain ⟨F, hF⟩ : ∃ F : ByteArray, F = ⟨(packF x.N x.V.data.toList).1.toArray⟩ := ⟨_, rfl⟩
          obtain ⟨er, her⟩ : ∃ er, er = (packF x.N x.V.data.toList).2 := ⟨_, rfl⟩
          rw [← hF, ← her] at hS
          rw [← her] at hE hok
          have hFd : Hid (F.data.toList = fieldB x) := by show _ = _; rw [hF, hfb]
          have hTk : Hid ((L.take (kk + 1)) = L.take kk ++ [x]) := take_snoc L kk x hx
          have hmem : x ∈ L := List.mem_of_getElem? hx
          have HS := Lib.hid hS
          have HOK := Lib.hid hok
          have hFs : fieldOk x = true → F.size ≤ 1010 := fun h => by rw [hF, size_mk, ← hfb]; exact hfl h
          have HFS := Lib.hid hFs
          have HMEM := Lib.hid hmem
          clear hx hS hF her hok hfl hfb hFs hmem
          rcases hE with rfl | hE
          · have hF10 : F.size ≤ 1010 := HFS.out HOK.out
            go_wp2_with (go_at_call 32; refine HS.out.mono ?_; rintro e w5 ⟨rfl, hb5⟩)
            go_roundw
            case measure => simp [intOf]; omega
            case rel => exact ⟨kk + 1, T ++ F, by omega, by go_num, rfl, by rw [ByteArray.size_append]; omega, by show _ = _; rw [app_data, HT.out, hFd.out, hTk.out, List.flatMap_append, List.append_assoc]; simp, by show _ = _; rw [hTk.out, List.all_append, HA.out]; simp [HOK.out], (HB.out.alloc HB.out.size _).trans (hb5.mono (by have := HB.out.size; simp; omega))⟩
          · have hF : Hid (packL m.data.toList L = ([], 16)) := by
              show _ = _
              rw [HPL.out, if_neg]
              intro h
              have := List.all_eq_true.1 h x HMEM.out
              rw [HOK.out] at this
              rcases hE with rfl | rfl <;> simp at this
            have hEb : (er != 0) = true := by rcases hE with rfl | rfl <;> rfl
            clear hE
            go_wp2_with (go_at_call 32; refine HS.out.mono ?_; rintro e w5 ⟨rfl, hb5⟩)
            go_ret2
            exact ⟨by rw [hF.out]; rfl, (HB.out.alloc HB.out.size _).trans (hb5.mono (by have := HB.out.size; simp; omega))⟩
        · have hltz : ¬ (kk : Int) < (L.length : Int) := by omega
          have hF : Hid (packL m.data.toList L = (T.data.toList, 0)) := by
            show _ = _
            have h1 := HA.out
            have h2 := HT.out
            rw [List.take_of_length_le (by omega)] at h1 h2
            rw [HPL.out, if_pos h1, h2]
          go_wp2
          go_ret2
          exact ⟨by rw [hF.out, str_eta]; rfl, HB.out⟩
  · clear hsz
    rw [HPL.out, if_neg (by decide)]
    clear HPL
    go_enter Tryz.func25, Tryz.ntmps25
    go_wp2_with (go_at_call 26; refine (HP.out _).mono ?_; rintro e w1 ⟨rfl, hb1⟩)
    go_ret2
    exact ⟨rfl, bthen (after1 hb1) (alloc1 _ _)⟩

theorem packL_cases (m : List UInt8) (L : List Field) : (packL m L).2 = 0 ∨ (packL m L).2 = 16 ∨ (packL m L).2 = 17 := by
  unfold packL
  split
  · split
    · split <;> simp
    · simp
  · simp
set_option maxHeartbeats 2000000 in
theorem iso_Pack (m : ByteArray) (v : Value) (L : List Field) (w : World) (hr : Rd encF 2 w v L) (hG : G w) (hl : L.length ≤ 1000) (hv : ∀ x ∈ L, x.V.size ≤ 2000) :
    Calls Tryz.prog 21 #[.agg #[.string m, v]] w fun e w' => e = .returned (.tuple #[.string ⟨(packM m.data.toList L).1.toArray⟩, .int .i64 (packM m.data.toList L).2]) ∧ Below w.heap.size w w' := by
  obtain ⟨A, c, rfl, hlc, hmax, hcells⟩ := id hr
  have hP := iso_pack m (.slice A L.length c) L (w.alloc (.cells #[.string m, .slice A L.length c] 24)) (hr.below (alloc1 _ _)) (hG.below (alloc1 _ _)) hl hv
  clear hcells hmax hr hG hv hl
  have hE := packL_cases m.data.toList L
  unfold packM
  generalize packL m.data.toList L = r at *
  obtain ⟨T, er⟩ := r
  dsimp only at *
  have hsz : (⟨T.toArray⟩ : ByteArray).size = T.length := size_mk T
  by_cases h4 : 4000 < T.length
  · have h4z : (4000 : Int) < (T.length : Int) := by omega
    rcases hE with rfl | rfl | rfl
    all_goals
      have HS := Lib.hid hsz
      clear hsz
      simp only [h4, and_true, if_true, Int.reduceEq, if_false]
      go_enter Tryz.func21, Tryz.ntmps21
      go_wp2_with (go_at_call 25; refine hP.mono ?_; rintro e w1 ⟨rfl, hb1⟩)
      go_ret2
      exact ⟨rfl, after1 hb1⟩
  · have h4z : ¬ (4000 : Int) < (T.length : Int) := by omega
    rcases hE with rfl | rfl | rfl
    all_goals
      have HS := Lib.hid hsz
      clear hsz
      simp only [h4, and_false, if_false]
      go_enter Tryz.func21, Tryz.ntmps21
      go_wp2_with (go_at_call 25; refine hP.mono ?_; rintro e w1 ⟨rfl, hb1⟩)
      go_ret2
      exact ⟨rfl, after1 hb1⟩
end Go.Proofs.YtbafhmhjkoelnaaGreatDoor
