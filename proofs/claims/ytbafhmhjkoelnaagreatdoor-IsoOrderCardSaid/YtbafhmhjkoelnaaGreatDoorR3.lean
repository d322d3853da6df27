/- XR3: iso.Parse. -/
import Derived.Test.YtbafhmhjkoelnaaGreatDoorR2
import Derived.Test.YtbafhmhjkoelnaaGreatDoorI
import Derived.Test.YtbafhmhjkoelnaaGreatDoorM3
import Derived.Test.YtbafhmhjkoelnaaGreatDoorA3
namespace Go.Proofs.YtbafhmhjkoelnaaGreatDoor
open Go.RowKit

/-- The fields of some numbers, one behind the other; what is left. -/
def takeAll : List Int → List UInt8 → List Field → Except Int (List Field × List UInt8)
  | [], r, acc => .ok (acc, r)
  | n :: t, r, acc => if (takeF n r).2.2 = 0 then takeAll t (r.drop (takeF n r).2.1) (acc ++ [⟨n, ⟨(takeF n r).1.toArray⟩⟩]) else .error (takeF n r).2.2
def parseRest (s : List UInt8) : Except Int (List Field) :=
  if readE s = 0 then (match takeAll (readL s) (s.drop (readN s)) [] with | .error e => .error e | .ok (F, r) => if r = [] then .ok F else .error 4) else .error (readE s)
/-- Octets' message, or the error's number. -/
def parseM (s : List UInt8) : Except Int (ByteArray × List Field) :=
  if 4000 < s.length then .error 9 else if s.length < 4 then .error 3 else if mtE (s.take 4) = 0 then (match parseRest (s.drop 4) with | .error e => .error e | .ok F => .ok (⟨(s.take 4).toArray⟩, F)) else .error 17
def parseV (s : List UInt8) : ByteArray × List Field := match parseM s with | .ok x => x | .error _ => (⟨#[]⟩, [])
def parseE (s : List UInt8) : Int := match parseM s with | .ok _ => 0 | .error e => e
theorem takeF_bd (n : Int) (s : List UInt8) (h : (takeF n s).2.2 = 0) : (takeF n s).2.1 ≤ s.length ∧ (takeF n s).1.length ≤ s.length := by
  unfold takeF at h ⊢
  split
  · rename_i h1
    rw [if_pos h1] at h
    dsimp only at h ⊢
    split
    · rename_i h2; rw [if_pos h2] at h; cases h
    · rename_i h2
      rw [if_neg h2] at h
      split
      · rename_i e he
        rw [he] at h
        simp
      · rename_i l he
        rw [he] at h
        dsimp only at h
        split
        · rename_i h3; rw [if_pos h3] at h; cases h
        · rename_i h3
          rw [if_neg h3] at h
          split
          · simp only [List.length_take, List.length_drop]; omega
          · simp
  · simp
theorem readL_len (s : List UInt8) : (readL s).length ≤ 128 := by
  unfold readL
  split
  · unfold setB
    refine Nat.le_trans (List.length_filter_le _ _) (Nat.le_trans (bitsTo_len _ _) ?_)
    unfold sizeB; split <;> simp
  · simp
theorem readN_le (s : List UInt8) : readN s ≤ s.length := by
  unfold readN
  by_cases h : s.length < sizeB s
  · have : readE s = 3 := by unfold readE; rw [if_pos h]
    rw [this]; simp
  · split <;> omega
theorem takeF_cases (n : Int) (s : List UInt8) : (takeF n s).2.2 = 0 ∨ ¬ (takeF n s).2.2 = 0 := by by_cases h : (takeF n s).2.2 = 0 <;> simp [h]
theorem emp_data (s : ByteArray) : s.toList.isEmpty = decide (s.data.toList = []) := by
  rw [Lib.toList_data]; cases s.data.toList <;> rfl
set_option maxRecDepth 100000 in
set_option maxHeartbeats 4000000 in
theorem iso_Parse (s : ByteArray) (hs : s.size ≤ 1000000000) (w : World) (hG : G w) :
    Calls Tryz.prog 22 #[.string s] w fun e w' => ∃ v', e = .returned (.tuple #[.agg #[.string (parseV s.data.toList).1, v'], .int .i64 (parseE s.data.toList)]) ∧ Rd encF 2 w' v' (parseV s.data.toList).2 ∧ Below w.heap.size w w' := by
  have hlen : s.data.toList.length = s.size := by rw [Array.length_toList]; rfl
  have HG := Lib.hid hG
  clear hG
  by_cases h9 : 4000 < s.size
  · have hz : (4000 : Int) < (s.size : Int) := by omega
    have hp : parseM s.data.toList = .error 9 := by unfold parseM; rw [hlen, if_pos h9]
    have hV : Hid (parseV s.data.toList = (⟨#[]⟩, []) ∧ parseE s.data.toList = 9) := by show _ ∧ _; unfold parseV parseE; rw [hp]; exact ⟨rfl, rfl⟩
    rw [hV.out.1, hV.out.2]
    clear hlen hp hs
    go_enter Tryz.func22, Tryz.ntmps22
    go_wp2
    exact bodyPost_ret (v := .tuple #[.agg #[.string ⟨#[]⟩, .slice none 0 0], .int .i64 9]) (by simp [results, Tryz.results22, go_sem, *]) rfl ⟨_, rfl, Rd.nil _ _ _, by go_grown⟩
  by_cases h3 : s.size < 4
  · have hz : ¬ (4000 : Int) < (s.size : Int) := by omega
    have hz2 : (s.size : Int) < 4 := by omega
    have hp : parseM s.data.toList = .error 3 := by unfold parseM; rw [hlen, if_neg h9, if_pos h3]
    have hV : Hid (parseV s.data.toList = (⟨#[]⟩, []) ∧ parseE s.data.toList = 3) := by show _ ∧ _; unfold parseV parseE; rw [hp]; exact ⟨rfl, rfl⟩
    rw [hV.out.1, hV.out.2]
    clear hlen hp hs
    go_enter Tryz.func22, Tryz.ntmps22
    go_wp2
    exact bodyPost_ret (v := .tuple #[.agg #[.string ⟨#[]⟩, .slice none 0 0], .int .i64 3]) (by simp [results, Tryz.results22, go_sem, *]) rfl ⟨_, rfl, Rd.nil _ _ _, by go_grown⟩
  have hz1 : ¬ (4000 : Int) < (s.size : Int) := by omega
  have hz2 : ¬ (s.size : Int) < 4 := by omega
  have hd4 : (s.extract 0 4).data.toList = s.data.toList.take 4 := by rw [Lib.extract_data]; simp
  have hdr : (s.extract 4 s.size).data.toList = s.data.toList.drop 4 := by rw [Lib.extract_to_end]
  have hp : parseM s.data.toList = if mtE (s.extract 0 4).data.toList = 0 then (match parseRest (s.extract 4 s.size).data.toList with | .error e => .error e | .ok F => .ok (s.extract 0 4, F)) else .error 17 := by
    unfold parseM; rw [hlen, if_neg h9, if_neg h3, ← hd4, ← hdr, str_eta]
  have hP := fun W => mti_Parse (s.extract 0 4) W
  have hE := mtE_cases (s.extract 0 4).data.toList
  have hRd := fun W g => bitmap_Read (s.extract 4 s.size) (by simp; omega) W g
  generalize mtOf (s.extract 0 4).data.toList = mt at hP
  obtain ⟨t1, t2, t3, t4⟩ := mt
  dsimp only at hP
  generalize mtE (s.extract 0 4).data.toList = me at *
  have HP := Lib.hid hP
  have hx4 : (s.extract 0 4).size ≤ 4 := by simp; omega
  have hxs : (s.extract 4 s.size).size = s.size - 4 := by simp
  clear hP hd4 hdr hlen
  rcases hE with rfl | rfl
  rotate_left
  · have hV : Hid (parseV s.data.toList = (⟨#[]⟩, []) ∧ parseE s.data.toList = 17) := by show _ ∧ _; unfold parseV parseE; rw [hp, if_neg (by decide)]; exact ⟨rfl, rfl⟩
    rw [hV.out.1, hV.out.2]
    clear hp hs hRd hxs hx4
    go_enter Tryz.func22, Tryz.ntmps22
    go_wp2_with (go_at_call 26; refine (HP.out _).mono ?_; rintro e w1 ⟨rfl, hb1⟩; obtain ⟨hz5, hf5, hc0, hc1⟩ := blkf2 ((hb1.block w.heap.size (by first | omega | (simp; done) | (simp; omega))).trans (blk2 w _ _).1))
    exact bodyPost_ret (v := .tuple #[.agg #[.string ⟨#[]⟩, .slice none 0 0], .int .i64 17]) (by simp [results, Tryz.results22, go_sem, *]) rfl ⟨_, rfl, Rd.nil _ _ _, (by repeat' (first | exact (((alloc2 w _ _).trans (hb1.mono (by first | omega | (simp; done) | (simp; omega))))) | refine Below.setCell ?_ (by first | exact Nat.le_refl _ | exact ((((alloc2 w _ _).trans (hb1.mono (by first | omega | (simp; done) | (simp; omega)))))).size | (simp; done) | (have hz_ := ((((alloc2 w _ _).trans (hb1.mono (by first | omega | (simp; done) | (simp; omega)))))).size; simp at hz_ ⊢; omega) | (simp; omega) | omega) _ | refine Below.alloc ?_ (by first | exact Nat.le_refl _ | exact ((((alloc2 w _ _).trans (hb1.mono (by first | omega | (simp; done) | (simp; omega)))))).size | (simp; done) | (have hz_ := ((((alloc2 w _ _).trans (hb1.mono (by first | omega | (simp; done) | (simp; omega)))))).size; simp at hz_ ⊢; omega) | (simp; omega) | omega) _ | refine below_drewN ?_ _))⟩
  · rw [if_pos rfl] at hp
    have hN := readN_le (s.extract 4 s.size).data.toList
    have hL := readL_len (s.extract 4 s.size).data.toList
    have hdl : (s.extract 4 s.size).data.toList.length = s.size - 4 := by rw [Array.length_toList]; exact hxs
    rw [hdl] at hN
    have hpr : parseRest (s.extract 4 s.size).data.toList = (if readE (s.extract 4 s.size).data.toList = 0 then (match takeAll (readL (s.extract 4 s.size).data.toList) ((s.extract 4 s.size).data.toList.drop (readN (s.extract 4 s.size).data.toList)) [] with | .error e => .error e | .ok (F, r) => if r = [] then .ok F else .error 4) else .error (readE (s.extract 4 s.size).data.toList)) := rfl
    have hdd : ∀ n, (s.extract 4 s.size).data.toList.drop n = (s.extract (4 + n) s.size).data.toList := fun n => by rw [Lib.extract_to_end, Lib.extract_to_end, List.drop_drop]
    rw [hdd] at hpr
    generalize readN (s.extract 4 s.size).data.toList = nn at *
    generalize readL (s.extract 4 s.size).data.toList = l at *
    generalize readE (s.extract 4 s.size).data.toList = er at *
    generalize hrr : parseRest (s.extract 4 s.size).data.toList = rr at *
    clear hrr hdl hdd hx4
    have HRd := Lib.hid hRd
    obtain ⟨u4, hu4⟩ : ∃ u4, u4 = s.extract 0 4 := ⟨_, rfl⟩
    rw [← hu4] at hp
    have HU4 := Lib.hid hu4
    by_cases her : er = 0
    rotate_left
    · have herb : (er != 0) = true := bne_iff_ne.2 her
      have hV : Hid (parseV s.data.toList = (⟨#[]⟩, []) ∧ parseE s.data.toList = er) := by show _ ∧ _; unfold parseV parseE; rw [hp, hpr, if_neg her]; exact ⟨rfl, rfl⟩
      rw [hV.out.1, hV.out.2]
      clear hp hs hRd hxs hpr her hN hL hu4
      go_enter Tryz.func22, Tryz.ntmps22
      go_wp2_with (first
        | (go_at_call 26; refine (HP.out _).mono ?_; rintro e w1 ⟨rfl, hb1⟩; obtain ⟨hz5, hf5, hc0, hc1⟩ := blkf2 ((hb1.block w.heap.size (by first | omega | (simp; done) | (simp; omega))).trans (blk2 w _ _).1))
        | (go_at_call 27; refine (HRd.out _ (HG.out.below (((alloc2 w _ _).trans (hb1.mono (by first | omega | (simp; done) | (simp; omega)))).alloc (by omega) _))).mono ?_; rintro e w3 ⟨v7, rfl, ho7, hb3⟩; obtain ⟨hz6, hf6, hd0, hd1⟩ := blkf2 ((hb3.block w.heap.size (by simp; omega)).trans (blk_al ((hb1.block w.heap.size (by first | omega | (simp; done) | (simp; omega))).trans (blk2 w _ _).1) _))))
      exact bodyPost_ret (v := .tuple #[.agg #[.string ⟨#[]⟩, .slice none 0 0], .int .i64 er]) (by simp [results, Tryz.results22, go_sem, *]) rfl ⟨_, rfl, Rd.nil _ _ _, (by repeat' (first | exact (((alloc2 w _ _).trans (hb1.mono (by first | omega | (simp; done) | (simp; omega)))).alloc (by omega) _).trans (hb3.mono (by simp; omega)) | refine Below.setCell ?_ (by first | exact Nat.le_refl _ | exact ((((alloc2 w _ _).trans (hb1.mono (by first | omega | (simp; done) | (simp; omega)))).alloc (by omega) _).trans (hb3.mono (by simp; omega))).size | (simp; done) | (have hz_ := ((((alloc2 w _ _).trans (hb1.mono (by first | omega | (simp; done) | (simp; omega)))).alloc (by omega) _).trans (hb3.mono (by simp; omega))).size; simp at hz_ ⊢; omega) | (simp; omega) | omega) _ | refine Below.alloc ?_ (by first | exact Nat.le_refl _ | exact ((((alloc2 w _ _).trans (hb1.mono (by first | omega | (simp; done) | (simp; omega)))).alloc (by omega) _).trans (hb3.mono (by simp; omega))).size | (simp; done) | (have hz_ := ((((alloc2 w _ _).trans (hb1.mono (by first | omega | (simp; done) | (simp; omega)))).alloc (by omega) _).trans (hb3.mono (by simp; omega))).size; simp at hz_ ⊢; omega) | (simp; omega) | omega) _ | refine below_drewN ?_ _))⟩
    · subst her
      rw [if_pos rfl] at hpr
      have HPR := Lib.hid hpr
      have HPP := Lib.hid hp
      have hsl : s.size ≤ 4000 := by omega
      have hnn : (nn : Int) + 4 ≤ (s.size : Int) := by omega
      clear hp hRd hpr hu4 hs hxs
      go_enter Tryz.func22, Tryz.ntmps22
      go_wp2_with (first
        | (go_at_call 26; refine (HP.out _).mono ?_; rintro e w1 ⟨rfl, hb1⟩; obtain ⟨hz5, hf5, hc0, hc1⟩ := blkf2 ((hb1.block w.heap.size (by first | omega | (simp; done) | (simp; omega))).trans (blk2 w _ _).1))
        | (go_at_call 27; refine (HRd.out _ (HG.out.below (((alloc2 w _ _).trans (hb1.mono (by first | omega | (simp; done) | (simp; omega)))).alloc (by omega) _))).mono ?_; rintro e w3 ⟨v7, rfl, ho7, hb3⟩; obtain ⟨A7, c7, rfl⟩ := Own.len ho7))
      have hs3 : w1.heap.size + 1 ≤ w3.heap.size := by have := hb3.size; simp at this; omega
      have hs1 : w.heap.size + 2 ≤ w1.heap.size := by have := hb1.size; simp at this; omega
      have B3 : Below (w.heap.size + 2) ((w.alloc (.cells #[.string ⟨#[]⟩, .slice none 0 0] 24)).alloc (.cells #[.string u4, .slice none 0 0] 24)) w3 := by
        rw [HU4.out]
        exact ((hb1.mono (by simp)).alloc (by omega) _).trans (hb3.mono (by simp; omega))
      have k0 : Aside (w3.heap[w.heap.size]? = some (.cells #[.string ⟨#[]⟩, .slice none 0 0] 24 (0, 0))) := (B3.block _ (by omega)).trans (blk2 w _ _).1
      have k1 : Aside (w3.heap[w.heap.size + 1]? = some (.cells #[.string u4, .slice none 0 0] 24 (0, 0))) := (B3.block _ (by omega)).trans (blk2 w _ _).2
      have kB : Aside (Below w.heap.size w w3) := (alloc2 w _ _).trans (B3.mono (by omega))
      have k7 : Aside (Own encI 1 3 (w.heap.size + 2) w3 (.slice A7 l.length c7) l) := ho7.lower (by simp; omega)
      have k7b : Hid (∀ b, (Value.slice A7 l.length c7).ownBlock = some b → b < w3.heap.size) := fun b hb => (World.ownsRow.lt ho7 _ hb).2
      have hsw3 : w.heap.size + 2 ≤ w3.heap.size := by omega
      have hr0 : (s.extract (4 + nn) s.size).size ≤ 4000 := by simp; omega
      clear B3 hb1 hb3 ho7 hz5 hf5 hc0 hc1 hs1 hs3 HP HRd
      go_loopw [10, 56] (fun s10 s56 wr => ∃ (kk : Nat) (R : ByteArray) (A2 : Option Addr) (n2 c2 : Nat) (F : List Field), kk ≤ l.length ∧ s56 = .int .i64 kk ∧ s10 = .string R ∧ R.size ≤ 4000 ∧ F.length ≤ kk ∧
          Aside (wr.heap[w.heap.size]? = some (.cells #[.string ⟨#[]⟩, .slice none 0 0] 24 (0, 0))) ∧ Aside (wr.heap[w.heap.size + 1]? = some (.cells #[.string u4, .slice A2 n2 c2] 24 (0, 0))) ∧
          Aside (Own encF 2 34 w3.heap.size wr (.slice A2 n2 c2) F) ∧ Aside (Own encI 1 3 (w.heap.size + 2) wr (.slice A7 l.length c7) l) ∧ Aside (Below w.heap.size w wr) ∧ w3.heap.size ≤ wr.heap.size ∧
          Aside (takeAll l (s.extract (4 + nn) s.size).data.toList [] = takeAll (l.drop kk) R.data.toList F)) (fun _ s56 _ => l.length - (intOf s56).toNat)
      case atStart => exact ⟨0, _, none, 0, 0, [], Nat.zero_le _, rfl, rfl, hr0, Nat.zero_le _, k0, k1, Own.nil _ _ _ _ _, k7, kB, Nat.le_refl _, rfl⟩
      case round =>
        obtain ⟨kk, R, A2, n2, c2, F, hk, rfl, rfl, hR, hFk, J0, J1, HO, H7, HB, hsr, HT⟩ := hrel
        clear k0 k1 kB k7
        obtain ⟨hz0, hf0, hc0, hc1⟩ := blkf2 J0.out
        obtain ⟨hz1, hf1, hd0, hd1⟩ := blkf2 J1.out
        by_cases hlt : kk < l.length
        · have hltz : (kk : Int) < (l.length : Int) := by omega
          obtain ⟨b, off, x, rfl, hb, hx, c0⟩ := rd_int (H7.out.rd encI_len) (Below.refl _ wr) hlt
          have hS := spec_Take x R (by omega) wr (HG.out.below HB.out)
          have hdrop : l.drop kk = x :: l.drop (kk + 1) := by rw [List.drop_eq_getElem_cons hlt]; rw [List.getElem?_eq_getElem hlt] at hx; rw [Option.some.inj hx]
          have hTT : takeAll l (s.extract (4 + nn) s.size).data.toList [] = if (takeF x R.data.toList).2.2 = 0 then takeAll (l.drop (kk + 1)) (R.data.toList.drop (takeF x R.data.toList).2.1) (F ++ [⟨x, ⟨(takeF x R.data.toList).1.toArray⟩⟩]) else .error (takeF x R.data.toList).2.2 := by rw [HT.out, hdrop]; rfl
          have hbd := takeF_bd x R.data.toList
          have hRl : R.data.toList.length = R.size := by rw [Array.length_toList]; rfl
          rw [hRl] at hbd
          obtain ⟨T, hT⟩ : ∃ T : ByteArray, T = ⟨(takeF x R.data.toList).1.toArray⟩ := ⟨_, rfl⟩
          rw [← hT] at hS hTT
          obtain ⟨u, hu⟩ : ∃ u, u = (takeF x R.data.toList).2.1 := ⟨_, rfl⟩
          obtain ⟨er, her⟩ : ∃ er, er = (takeF x R.data.toList).2.2 := ⟨_, rfl⟩
          rw [← hu, ← her] at hS hTT
          rw [← hu, ← her] at hbd
          have HS := Lib.hid hS
          have HTT := Lib.hid hTT
          have HDR : Hid (R.data.toList.drop u = (R.extract u R.size).data.toList) := by show _ = _; rw [Lib.extract_to_end]
          clear hx hS hdrop hTT hT hu her hRl
          by_cases he : er = 0
          · subst he
            have hub : (u : Int) ≤ (R.size : Int) := by have := (hbd rfl).1; omega
            have HTE : Hid (takeAll l (s.extract (4 + nn) s.size).data.toList [] = takeAll (l.drop (kk + 1)) (R.extract u R.size).data.toList (F ++ [⟨x, T⟩])) := by show _ = _; rw [HTT.out, if_pos rfl, HDR.out]
            clear hbd HTT
            have hwb : w.heap.size + 1 < w3.heap.size := by omega
            go_wp2_with (first
              | (go_at_call 28; refine HS.out.mono ?_; rintro e w5 ⟨rfl, hb5⟩; obtain ⟨hz6, hf6, he0, he1⟩ := blkf2 ((hb5.block (w.heap.size + 1) hz1).trans J1.out))
              | (at_builtin; refine wp_append1 encF 2 encF_len encF_one (w0 := w5) w3.heap.size rfl _ _ 22 34 (.agg #[.int .i64 0, .string ⟨#[]⟩]) 24 rfl Tryz.underlying22 infoF rfl (by decide) (.slice A2 n2 c2) _ ⟨x, T⟩ rfl rfl rfl (HO.out.below hb5) (Below.refl _ _) (by have := hb5.size; omega) (by omega) (by decide) ?_; intro v9 w9 ho9 hb9 hg9 hs9; obtain ⟨A9, n9, c9, rfl⟩ := Own.shape ho9; obtain ⟨hz9, hf9, hg90, hg91⟩ := blkf2 ((hg9.block (w.heap.size + 1) (by omega) (HO.out.ne (by omega))).trans ((hb5.block (w.heap.size + 1) hz1).trans J1.out))))
            go_roundw
            case measure => simp [intOf]; omega
            case rel =>
              refine ⟨kk + 1, R.extract u R.size, A9, n9, c9, F ++ [Field.mk x T], by omega, by go_num, rfl, by simp; omega, by rw [List.length_append, List.length_cons, List.length_nil]; omega, ?_, ?_, ?_, ?_, ?_, ?_, HTE.out⟩
              · exact blk_far ((hg9.block _ (by have := hb5.size; omega) (HO.out.ne (by omega))).trans ((hb5.block _ hz0).trans J0.out)) (by show _ ≠ w.heap.size + 1; omega) _
              · exact blk_set ((hg9.block (w.heap.size + 1) (by omega) (HO.out.ne (by omega))).trans ((hb5.block (w.heap.size + 1) hz1).trans J1.out)) 1 _
              · exact ho9.setCell (by show w.heap.size + 1 < _; omega) _
              · refine Own.setCell (World.ownsRow.kept (H7.out.below hb5) hg9 ?_) (by show w.heap.size + 1 < _; omega) _
                refine .inr (fun e => ?_)
                have h1 := k7b.out b rfl
                have h2 := (World.ownsRow.lt HO.out b (e ▸ rfl)).1
                omega
              · exact ((HB.out.trans (hb5.mono HB.out.size)).trans (hb9.mono (by omega))).setCell (by show w.heap.size ≤ w.heap.size + 1; omega) _
              · have := hb5.size; simp; omega
          · have heb : (er != 0) = true := bne_iff_ne.2 he
            have hV : Hid (parseV s.data.toList = (⟨#[]⟩, []) ∧ parseE s.data.toList = er) := by show _ ∧ _; unfold parseV parseE; rw [HPP.out, HPR.out, HTT.out, if_neg he]; exact ⟨rfl, rfl⟩
            clear hbd HTT he
            go_wp2_with (go_at_call 28; refine HS.out.mono ?_; rintro e w5 ⟨rfl, hb5⟩; obtain ⟨hz6, hf6, he0, he1⟩ := blkf2 ((hb5.block w.heap.size hz0).trans J0.out))
            exact bodyPost_ret (v := .tuple #[.agg #[.string ⟨#[]⟩, .slice none 0 0], .int .i64 er]) (by simp [results, Tryz.results22, go_sem, *]) rfl ⟨_, by rw [hV.out.1, hV.out.2], by rw [hV.out.1]; exact Rd.nil _ _ _, (by repeat' (first | exact (HB.out.trans (hb5.mono HB.out.size)) | refine Below.setCell ?_ (by first | exact Nat.le_refl _ | exact ((HB.out.trans (hb5.mono HB.out.size))).size | (simp; done) | (have hz_ := ((HB.out.trans (hb5.mono HB.out.size))).size; simp at hz_ ⊢; omega) | (simp; omega) | omega) _ | refine Below.alloc ?_ (by first | exact Nat.le_refl _ | exact ((HB.out.trans (hb5.mono HB.out.size))).size | (simp; done) | (have hz_ := ((HB.out.trans (hb5.mono HB.out.size))).size; simp at hz_ ⊢; omega) | (simp; omega) | omega) _ | refine below_drewN ?_ _))⟩
        · have hltz : ¬ (kk : Int) < (l.length : Int) := by omega
          have HTE : Hid (takeAll l (s.extract (4 + nn) s.size).data.toList [] = .ok (F, R.data.toList)) := by show _ = _; rw [HT.out, List.drop_of_length_le (by omega)]; rfl
          have hem := emp_data R
          by_cases hR0 : R.data.toList = []
          · rw [decide_eq_true hR0] at hem
            have hV : Hid (parseV s.data.toList = (u4, F) ∧ parseE s.data.toList = 0) := by show _ ∧ _; unfold parseV parseE; rw [HPP.out, HPR.out, HTE.out]; simp only [hR0, if_true]; exact ⟨trivial, trivial⟩
            clear hR0
            go_wp2
            exact bodyPost_ret (v := .tuple #[.agg #[.string u4, .slice A2 n2 c2], .int .i64 0]) (by simp [results, Tryz.results22, go_sem, *]) rfl ⟨_, by rw [hV.out.1, hV.out.2], by rw [hV.out.1]; exact ((HO.out.setCell (by show w.heap.size < _; omega) _).setCell (by show w.heap.size < _; omega) _).rd encF_len, (HB.out.setCell (Nat.le_refl _) _).setCell (Nat.le_refl _) _⟩
          · rw [decide_eq_false hR0] at hem
            have hV : Hid (parseV s.data.toList = (⟨#[]⟩, []) ∧ parseE s.data.toList = 4) := by show _ ∧ _; unfold parseV parseE; rw [HPP.out, HPR.out, HTE.out]; simp only [hR0, if_false]; exact ⟨trivial, trivial⟩
            clear hR0
            go_wp2
            exact bodyPost_ret (v := .tuple #[.agg #[.string ⟨#[]⟩, .slice none 0 0], .int .i64 4]) (by simp [results, Tryz.results22, go_sem, *]) rfl ⟨_, by rw [hV.out.1, hV.out.2], by rw [hV.out.1]; exact Rd.nil _ _ _, (HB.out.setCell (Nat.le_refl _) _).setCell (Nat.le_refl _) _⟩
end Go.Proofs.YtbafhmhjkoelnaaGreatDoor
