import Derived.Test.YtbafhmhjkoelnaaGreatDoorB
namespace Go.Proofs.YtbafhmhjkoelnaaGreatDoor
open Go.RowKit
structure Field where
  N : Int
  V : ByteArray
  deriving DecidableEq
def encF (x : Field) : List Value := [.int .i64 x.N, .string x.V]
theorem encF_len (x : Field) : (encF x).length = 2 := rfl
theorem encF_one (x : Field) : ∀ u ∈ encF x, u.oneCell' = true := by simp [encF, Value.oneCell']
theorem infoF : (Tryz.prog.info? 34).map (fun i => (i.zero, i.size, i.bytes)) = some (some (.agg #[.int .i64 0, .string ⟨#[]⟩]), 2, 24) := by kernel_rfl
def cutS (n : Nat) (s : ByteArray) : ByteArray := if n < s.size then s.extract 0 n else s
def fewF (x : Field) : Field := ⟨x.N, cutS 1001 x.V⟩
def few (L : List Field) : List Field := (L.take 130).map fewF


set_option maxRecDepth 100000 in
set_option maxHeartbeats 4000000 in
theorem law19_Few (mti : ByteArray) (v : Value) (L : List Field) (w : World) (hr : Rd encF 2 w v L) :
    Calls Tryz.prog 5 #[.agg #[.string mti, v]] w fun e w' => ∃ v', e = .returned (.agg #[.string (cutS 8 mti), v']) ∧ Own encF 2 34 w.heap.size w' v' (few L) ∧ Below w.heap.size w w' := by
  obtain ⟨A, c, rfl, hlc, hmax, hcells⟩ := id hr
  clear hcells hmax
  have HR := Lib.hid hr
  clear hr
  by_cases h130 : 130 < L.length
  all_goals
    by_cases h8 : 8 < mti.size
    all_goals
      have g1 : decide ((130 : Int) < (L.length : Int)) = decide (130 < L.length) := decide_eq_decide.2 (by omega)
      have g2 : decide ((8 : Int) < (mti.size : Int)) = decide (8 < mti.size) := decide_eq_decide.2 (by omega)
      simp only [h130, h8, decide_true, decide_false] at g1 g2
      go_enter Tryz.func5, Tryz.ntmps5
      go_wp2
      obtain ⟨w2, hw2⟩ : ∃ w2, w2 = (w.alloc (Obj.cells #[Value.string (cutS 8 mti), Value.slice A (if 130 < L.length then 130 else L.length) c] 24)).alloc (Obj.cells #[Value.string { data := #[] }, Value.slice none 0 0] 24) := ⟨_, rfl⟩
      have hb2 : Below w.heap.size w w2 := by rw [hw2]; exact ((Below.refl _ _).alloc (Nat.le_refl _) _).alloc (by simp) _
      have hs2 : w2.heap.size = w.heap.size + 2 := by rw [hw2]; simp
      have d0 : w2.cell? ⟨w.heap.size, 0, none⟩ = some (.string (cutS 8 mti)) := by rw [hw2]; simp [go_sem]
      have d1 : w2.cell? ⟨w.heap.size, 1, none⟩ = some (.slice A (if 130 < L.length then 130 else L.length) c) := by rw [hw2]; simp [go_sem]
      have HE := Lib.hid (rfl : cutS 8 mti = cutS 8 mti)
      simp only [cutS, h130, h8, if_true, if_false] at hw2 d0 d1
      rw [← hw2]
      have HW2 := Lib.hid hw2
      clear hw2 HE
      have HS2 := Lib.hid hs2
      have hs2a : w.heap.size + 2 ≤ w2.heap.size := by omega
      clear hs2
      go_loopw [3, 4] (fun l i wr => ∃ kk : Nat, kk ≤ 130 ∧ kk ≤ L.length ∧ i = .int .i64 kk ∧ Aside (Own encF 2 34 w2.heap.size wr l ((L.take kk).map fewF)) ∧ Aside (Below w2.heap.size w2 wr)) (fun _ i _ => 130 - (intOf i).toNat)
      case atStart => exact ⟨0, by omega, by omega, rfl, Own.nil _ _ _ _ _, Below.refl _ _⟩
      case round =>
        obtain ⟨kk, hk1, hk2, rfl, HO, BW⟩ := hrel
        have e0 := (BW.out.cell (p := ⟨w.heap.size, 0, none⟩) (by show w.heap.size < _; omega)).trans d0
        have e1 := (BW.out.cell (p := ⟨w.heap.size, 1, none⟩) (by show w.heap.size < _; omega)).trans d1
        have hsz : w.heap.size + 1 < wr.heap.size := by have := BW.out.size; omega
        clear d0 d1
        by_cases hlt : kk < 130 ∧ kk < L.length
        · obtain ⟨hlt1, hlt2⟩ := hlt
          obtain ⟨b, off, x, rfl, hb, hx, hc⟩ := Rd.at HR.out (hb2.trans (BW.out.mono hb2.size)) hlt2
          have c0 : wr.cell? ⟨b, off + kk * 2, none⟩ = some (.int .i64 x.N) := hc 0 _ rfl
          have c1 : wr.cell? ⟨b, off + kk * 2 + 1, none⟩ = some (.string x.V) := hc 1 _ rfl
          clear hc
          have HX := Lib.hid hx
          clear hx
          have hlz1 : (kk : Int) < 130 := by omega
          have hlz2 : (kk : Int) < (L.length : Int) := by omega
          have hw1 : b < wr.heap.size := by omega
          obtain ⟨V, hV0⟩ : ∃ V, V = cutS 1001 x.V := ⟨_, rfl⟩
          have HV : Hid (fewF x = ⟨x.N, V⟩) := by show fewF x = _; rw [hV0]; rfl
          have hn : Hid ((((L.take kk).map fewF).length + 1) * 24 ≤ 140737488355328) := by show _ ≤ _; simp; omega
          have hle : w2.heap.size ≤ wr.heap.size := BW.out.size
          have fin : Hid ((L.take kk).map fewF ++ [⟨x.N, V⟩] = (L.take (kk + 1)).map fewF) := by show _ = _; rw [take_snoc L kk x HX.out, List.map_append, ← HV.out]; rfl
          obtain ⟨hv, hV⟩ | ⟨hv, hV⟩ : (1001 < x.V.size ∧ x.V.extract 0 1001 = V) ∨ (¬ 1001 < x.V.size ∧ x.V = V) := by rw [hV0]; unfold cutS; split <;> simp_all
          all_goals clear hV0
          rotate_left
          · rw [hV] at hv c1
            clear hV
            go_wp2_with (at_builtin; refine wp_append1 encF 2 encF_len encF_one (w0 := w2) w2.heap.size rfl _ _ 22 34 (.agg #[.int .i64 0, .string ⟨#[]⟩]) 24 rfl Tryz.underlying22 infoF rfl (by decide) _ _ ⟨x.N, V⟩ rfl rfl (by simp) (Own.alloc HO.out _) (BW.out.alloc hle _) (by simp; omega) hn.out (by decide) ?_; intro v1 w1 ho1 hb1 hg1 hs1)
            go_roundw
            case rel => exact ⟨kk + 1, by omega, by omega, by go_num, by rw [← fin.out]; exact ho1, hb1⟩
            case measure => simp [intOf]; omega
          · go_wp2_with (at_builtin; refine wp_append1 encF 2 encF_len encF_one (w0 := w2) w2.heap.size rfl _ _ 22 34 (.agg #[.int .i64 0, .string ⟨#[]⟩]) 24 rfl Tryz.underlying22 infoF rfl (by decide) _ _ ⟨x.N, V⟩ rfl rfl (by simp) (Own.alloc HO.out _) (BW.out.alloc hle _) (by simp; omega) hn.out (by decide) ?_; intro v1 w1 ho1 hb1 hg1 hs1)
            go_roundw
            case rel => exact ⟨kk + 1, by omega, by omega, by go_num, by rw [← fin.out]; exact ho1, hb1⟩
            case measure => simp [intOf]; omega
        · have hk : Hid (few L = (L.take kk).map fewF) := by
            show _ = _
            unfold few; congr 1
            rcases Nat.lt_or_ge kk 130 with h | h
            · rw [List.take_of_length_le (i := kk) (by omega), List.take_of_length_le (by omega)]
            · rw [show kk = 130 by omega]
          have hlz : ¬ ((kk : Int) < 130 ∧ (kk : Int) < (L.length : Int)) := by omega
          have hlz1 : 130 < L.length → ¬ ((kk : Int) < 130) := by omega
          have hlz2 : ¬ (130 < L.length) → ¬ ((kk : Int) < (L.length : Int)) := by omega
          first | replace hlz1 := hlz1 h130 | replace hlz2 := hlz2 h130
          clear hlz hlt
          have hn1 : w.heap.size + 1 ≠ w.heap.size := by omega
          have hB0 := (BW.out.block w.heap.size (by omega)).trans (HW2.out ▸ (blk2 w _ _).1)
          have hB1 := (BW.out.block (w.heap.size + 1) (by omega)).trans (HW2.out ▸ (blk2 w _ _).2)
          have f0 := blk_frozen hB0
          have f1 := blk_frozen hB1
          have g0 := blk_cell hB1 0
          have g1 := blk_cell hB1 1
          clear hB0 hB1
          have HO2 := HO.out
          rw [← hk.out] at HO2
          obtain ⟨A9, c9, e9⟩ := Own.len HO2
          rw [show (few L).length = kk from by rw [hk.out]; simp; omega] at e9
          subst e9
          have HOO : Hid (Own encF 2 34 w.heap.size wr (.slice A9 kk c9) (few L)) := (HO2.lower hb2.size)
          have HOO2 : Hid (Own encF 2 34 (w.heap.size + 2) wr (.slice A9 kk c9) (few L)) := by rw [← HS2.out]; exact HO2
          clear HO2
          have hf : cutS 8 mti = if 8 < mti.size then mti.extract 0 8 else mti := rfl
          simp only [h8, if_true, if_false] at hf
          have HF := Lib.hid hf
          clear hf
          go_wp2
          refine bodyPost_ret (v := .agg #[.string _, .slice A9 _ c9]) (by simp [results, Tryz.results5, go_sem, g0, g1]; exact ⟨rfl, rfl⟩) rfl ⟨.slice A9 kk c9, by rw [HF.out], ((HOO2.out.setCell (by simp) _).setCell (by simp) _).setCell (by simp) _ |>.lower (by omega), (((hb2.trans (BW.out.mono hb2.size)).setCell (by simp) _).setCell (by simp) _).setCell (by simp) _⟩
end Go.Proofs.YtbafhmhjkoelnaaGreatDoor
