/- XP2: bursarref19.Put. -/
import Derived.Test.YtbafhmhjkoelnaaGreatDoorP
namespace Go.Proofs.YtbafhmhjkoelnaaGreatDoor
open Go.RowKit

theorem p2_stay {B k : Nat} {w1 wr : World} {o x : Obj} {row : Option Nat} {u : Value} {i : Nat} (h : wr.heap[k]? = some x) (hk : k ≠ B) (hg : World.grownBy (wr.alloc o).drew w1 row) (hr : some k ≠ row) : (w1.setCell ⟨B, i, none⟩ u).heap[k]? = some x := by
  have h0 := (Array.getElem?_eq_some_iff.1 h).1
  exact blk_far ((hg.block k (by simp; omega) hr).trans (blk_al h o)) hk u
set_option maxRecDepth 100000 in
set_option maxHeartbeats 4000000 in
theorem ref19_Put (m : ByteArray) (v : Value) (L : List Field) (n : Int) (val : ByteArray) (w : World) (hr : Rd encF 2 w v L) (hl : L.length ≤ 900000) :
    Calls Tryz.prog 9 #[.agg #[.string m, v], .int .i64 n, .string val] w fun e w' => ∃ v', e = .returned (.agg #[.string m, v']) ∧ Rd encF 2 w' v' (putF n val L) ∧ Below w.heap.size w w' := by
  obtain ⟨A, c, rfl, hlc, hmax, hcells⟩ := id hr
  have hlen : L.length ≤ 9223372036854775807 := by omega
  clear hcells hmax
  have HR := Lib.hid hr
  clear hr
  obtain ⟨W0, hW0⟩ : ∃ W0, W0 = ((w.alloc (Obj.cells #[.string m, .slice A L.length c] 24)).alloc (Obj.cells #[.string ⟨#[]⟩, .slice none 0 0] 24)).alloc (Obj.cells #[.string m, .slice none 0 0] 24) := ⟨_, rfl⟩
  have hb0 : Below w.heap.size w W0 := by rw [hW0]; exact alloc3 _ _ _ _
  obtain ⟨k0, k1, k2⟩ := hW0 ▸ blk3 w (Obj.cells #[.string m, .slice A L.length c] 24) (Obj.cells #[.string ⟨#[]⟩, .slice none 0 0] 24) (Obj.cells #[.string m, .slice none 0 0] 24)
  go_enter Tryz.func9, Tryz.ntmps9
  go_wp2
  rw [← hW0]
  clear hW0
  go_loopw [8, 9] (fun s8 s9 wr => ∃ (kk : Nat) (A2 : Option Addr) (n2 c2 : Nat), kk ≤ L.length ∧ s9 = .int .i64 kk ∧ s8 = .bool (putDone n (L.take kk)) ∧
      Aside (wr.heap[w.heap.size]? = some (Obj.cells #[.string m, .slice A L.length c] 24 (0, 0))) ∧ Aside (wr.heap[w.heap.size + 1]? = some (Obj.cells #[.string ⟨#[]⟩, .slice none 0 0] 24 (0, 0))) ∧ Aside (wr.heap[w.heap.size + 2]? = some (Obj.cells #[.string m, .slice A2 n2 c2] 24 (0, 0))) ∧
      Aside (Own encF 2 34 (w.heap.size + 3) wr (.slice A2 n2 c2) (putTo n val (L.take kk))) ∧ Aside (Below w.heap.size w wr)) (fun _ s9 _ => L.length - (intOf s9).toNat)
  case atStart => exact ⟨0, none, 0, 0, Nat.zero_le _, rfl, rfl, k0, k1, k2, Own.nil _ _ _ _ _, hb0⟩
  case round =>
    obtain ⟨kk, A2, n2, c2, hk, rfl, rfl, J0, J1, J2, HO, HB⟩ := hrel
    clear k0 k1 k2 hb0
    obtain ⟨hz0, hf0, hc0, hc1⟩ := blkf2 J0.out
    obtain ⟨hz2, hf2, hd0, hd1⟩ := blkf2 J2.out
    obtain ⟨d, hd⟩ : ∃ d, d = putDone n (L.take kk) := ⟨_, rfl⟩
    rw [← hd]
    have HD := Lib.hid hd
    clear hd
    by_cases hlt : kk < L.length
    · have hltz : (kk : Int) < (L.length : Int) := by omega
      obtain ⟨b, off, x, rfl, hb, hx, e0, e1⟩ := rd_field HR.out HB.out hlt
      have HX := Lib.hid hx
      have HT : Hid (L.take (kk + 1) = L.take kk ++ [x]) := take_snoc L kk x hx
      clear hx
      have hll : Hid ((putTo n val (L.take kk)).length ≤ 900001) := by have := putTo_len n val (L.take kk); rw [List.length_take] at this; show _ ≤ _; omega
      rcases Int.lt_trichotomy x.N n with hN | hN | hN
      · have hN1 : ¬ n < x.N := by omega
        have hN2 : (x.N == n) = false := by rw [beq_eq_false_iff_ne]; omega
        have HP : Hid (putTo n val (L.take (kk + 1)) = putTo n val (L.take kk) ++ [x] ∧ putDone n (L.take (kk + 1)) = d) := by
          show _ ∧ _
          rw [HT.out]
          cases d with
          | true => exact putTo_old n val _ x (by omega) HD.out.symm
          | false => exact putTo_low n val _ x hN HD.out.symm
        cases d
        all_goals
          go_wp2
          go_region_law (refine step_append1 encF 2 encF_len encF_one (w.heap.size + 3) rfl _ _ 22 34 (.agg #[.int .i64 0, .string ⟨#[]⟩]) 24 rfl Tryz.underlying22 infoF rfl (by decide) (.slice A2 n2 c2) _ x (by simp [Act.eval]) (by simp [Act.eval]) (heap_alloc_new wr _) (Own.alloc HO.out _) (Below.refl _ _) (by simp; omega) (by have := hll.out; omega) (by decide) ?_; intro v1 w1 ho1 hb1 hg1; obtain ⟨A3, n3, c3, rfl⟩ := Own.shape ho1; obtain ⟨hz4, hf4, hg0, hg4⟩ := blkf2 ((hg1.block (w.heap.size + 2) (by simp; omega) (HO.out.ne (by omega))).trans (blk_al J2.out _)))
          all_goals
            go_wp2
            go_roundw
            case measure => simp [intOf]; omega
            case rel => exact ⟨kk + 1, A3, n3, c3, by omega, by go_num, by rw [HP.out.2], p2_stay J0.out (by omega) hg1 (HO.out.ne (by omega)), p2_stay J1.out (by omega) hg1 (HO.out.ne (by omega)), blk_set ((hg1.block (w.heap.size + 2) (by simp; omega) (HO.out.ne (by omega))).trans (blk_al J2.out _)) 1 _, by rw [HP.out.1]; exact ho1.setCell (by show w.heap.size + 2 < _; omega) _, ((HB.out.alloc (by omega) _).drew.trans (hb1.mono (by omega))).setCell (by show w.heap.size ≤ w.heap.size + 2; omega) _⟩
      · subst hN
        have HP : Hid (putTo x.N val (L.take (kk + 1)) = putTo x.N val (L.take kk) ∧ putDone x.N (L.take (kk + 1)) = d) := by
          show _ ∧ _
          rw [HT.out, HD.out]
          exact putTo_same x.N val _ x rfl
        cases d
        all_goals
          go_wp2
          go_roundw
          case measure => simp [intOf]; omega
          case rel => exact ⟨kk + 1, A2, n2, c2, by omega, by go_num, by rw [HP.out.2], J0, J1, J2, by rw [HP.out.1]; exact HO, HB⟩
      · have hN2 : (x.N == n) = false := by rw [beq_eq_false_iff_ne]; omega
        cases d with
        | true =>
          have HP : Hid (putTo n val (L.take (kk + 1)) = putTo n val (L.take kk) ++ [x] ∧ putDone n (L.take (kk + 1)) = true) := by
            show _ ∧ _
            rw [HT.out]
            exact putTo_old n val _ x (by omega) HD.out.symm
          go_wp2
          go_region_law (refine step_append1 encF 2 encF_len encF_one (w.heap.size + 3) rfl _ _ 22 34 (.agg #[.int .i64 0, .string ⟨#[]⟩]) 24 rfl Tryz.underlying22 infoF rfl (by decide) (.slice A2 n2 c2) _ x (by simp [Act.eval]) (by simp [Act.eval]) (heap_alloc_new wr _) (Own.alloc HO.out _) (Below.refl _ _) (by simp; omega) (by have := hll.out; omega) (by decide) ?_; intro v1 w1 ho1 hb1 hg1; obtain ⟨A3, n3, c3, rfl⟩ := Own.shape ho1; obtain ⟨hz4, hf4, hg0, hg4⟩ := blkf2 ((hg1.block (w.heap.size + 2) (by simp; omega) (HO.out.ne (by omega))).trans (blk_al J2.out _)))
          all_goals
            go_wp2
            go_roundw
            case measure => simp [intOf]; omega
            case rel => exact ⟨kk + 1, A3, n3, c3, by omega, by go_num, by rw [HP.out.2], p2_stay J0.out (by omega) hg1 (HO.out.ne (by omega)), p2_stay J1.out (by omega) hg1 (HO.out.ne (by omega)), blk_set ((hg1.block (w.heap.size + 2) (by simp; omega) (HO.out.ne (by omega))).trans (blk_al J2.out _)) 1 _, by rw [HP.out.1]; exact ho1.setCell (by show w.heap.size + 2 < _; omega) _, ((HB.out.alloc (by omega) _).drew.trans (hb1.mono (by omega))).setCell (by show w.heap.size ≤ w.heap.size + 2; omega) _⟩
        | false =>
          have HP : Hid (putTo n val (L.take (kk + 1)) = putTo n val (L.take kk) ++ [⟨n, val⟩] ++ [x] ∧ putDone n (L.take (kk + 1)) = true) := by
            show _ ∧ _
            rw [HT.out]
            exact putTo_new n val _ x hN HD.out.symm
          go_wp2_with (at_builtin; refine wp_append1 encF 2 encF_len encF_one (w0 := wr) (w.heap.size + 3) rfl _ _ 22 34 (.agg #[.int .i64 0, .string ⟨#[]⟩]) 24 rfl Tryz.underlying22 infoF rfl (by decide) (.slice A2 n2 c2) _ ⟨n, val⟩ rfl rfl rfl HO.out (Below.refl _ _) (by omega) (by have := hll.out; omega) (by decide) ?_; intro v5 w5 ho5 hb5 hg5 hs5; obtain ⟨A5, n5, c5, rfl⟩ := Own.shape ho5; obtain ⟨hz5, hf5, hg50, hg51⟩ := blkf2 ((hg5.block (w.heap.size + 2) (by omega) (HO.out.ne (by omega))).trans J2.out))
          obtain ⟨wq, hwq⟩ : ∃ wq, wq = w5.setCell ⟨w.heap.size + 2, 1, none⟩ (.slice A5 n5 c5) := ⟨_, rfl⟩
          have Q0 : Aside (wq.heap[w.heap.size]? = some (Obj.cells #[.string m, .slice (some ⟨b, off, none⟩) L.length c] 24 (0, 0))) := by
            rw [hwq]; exact blk_far ((hg5.block _ (by omega) (HO.out.ne (by omega))).trans J0.out) (by show _ ≠ w.heap.size + 2; omega) _
          have Q1 : Aside (wq.heap[w.heap.size + 1]? = some (Obj.cells #[.string ⟨#[]⟩, .slice none 0 0] 24 (0, 0))) := by
            rw [hwq]; exact blk_far ((hg5.block _ (by omega) (HO.out.ne (by omega))).trans J1.out) (by show _ ≠ w.heap.size + 2; omega) _
          have Q2 : Aside (wq.heap[w.heap.size + 2]? = some (Obj.cells #[.string m, .slice A5 n5 c5] 24 (0, 0))) := by
            rw [hwq]; exact blk_set ((hg5.block _ (by omega) (HO.out.ne (by omega))).trans J2.out) 1 _
          have QO : Aside (Own encF 2 34 (w.heap.size + 3) wq (.slice A5 n5 c5) (putTo n val (L.take kk) ++ ([⟨n, val⟩] : List Field))) := by
            rw [hwq]; exact ho5.setCell (by show w.heap.size + 2 < _; omega) _
          have QB : Aside (Below w.heap.size w wq) := by
            rw [hwq]; exact (HB.out.trans (hb5.mono (by omega))).setCell (by show w.heap.size ≤ w.heap.size + 2; omega) _
          have hll2 : Hid ((putTo n val (L.take kk) ++ ([⟨n, val⟩] : List Field)).length ≤ 900002) := by show _ ≤ _; rw [List.length_append]; have := hll.out; simp; omega
          rw [← hwq]
          clear hwq hg5 hb5 ho5 hs5 hz5 hf5 hg50 hg51 J0 J1 J2 HO HB hz0 hf0 hc0 hc1 hz2 hf2 hd0 hd1 e0 e1 hll
          obtain ⟨b', off', x', hbx, hb', hx', e0, e1⟩ := rd_field HR.out QB.out hlt
          cases hbx
          obtain rfl : x = x' := by rw [HX.out] at hx'; exact Option.some.inj hx'
          clear hx'
          obtain ⟨hz0, hf0, hc0, hc1⟩ := blkf2 Q0.out
          obtain ⟨hz2, hf2, hd0, hd1⟩ := blkf2 Q2.out
          go_wp2
          go_region_law (refine step_append1 encF 2 encF_len encF_one (w.heap.size + 3) rfl _ _ 22 34 (.agg #[.int .i64 0, .string ⟨#[]⟩]) 24 rfl Tryz.underlying22 infoF rfl (by decide) (.slice A5 n5 c5) _ x (by simp [Act.eval]) (by simp [Act.eval]) (heap_alloc_new wq _) (Own.alloc QO.out _) (Below.refl _ _) (by simp; omega) (by have := hll2.out; omega) (by decide) ?_; intro v1 w1 ho1 hb1 hg1; obtain ⟨A3, n3, c3, rfl⟩ := Own.shape ho1; obtain ⟨hz4, hf4, hg0, hg4⟩ := blkf2 ((hg1.block (w.heap.size + 2) (by simp; omega) (QO.out.ne (by omega))).trans (blk_al Q2.out _)))
          all_goals
            go_wp2
            go_roundw
            case measure => simp [intOf]; omega
            case rel => exact ⟨kk + 1, A3, n3, c3, by omega, by go_num, by rw [HP.out.2], p2_stay Q0.out (by omega) hg1 (QO.out.ne (by omega)), p2_stay Q1.out (by omega) hg1 (QO.out.ne (by omega)), blk_set ((hg1.block (w.heap.size + 2) (by simp; omega) (QO.out.ne (by omega))).trans (blk_al Q2.out _)) 1 _, by rw [HP.out.1]; exact ho1.setCell (by show w.heap.size + 2 < _; omega) _, ((QB.out.alloc (by omega) _).drew.trans (hb1.mono (by omega))).setCell (by show w.heap.size ≤ w.heap.size + 2; omega) _⟩
    · have hkk : kk = L.length := by omega
      have hltz : ¬ (kk : Int) < (L.length : Int) := by omega
      have HP : Hid (putF n val L = if d then putTo n val (L.take kk) else putTo n val (L.take kk) ++ [⟨n, val⟩]) := by
        show _ = _
        rw [HD.out, hkk, List.take_length]; exact putTo_end n val L
      have hll : Hid ((putTo n val (L.take kk)).length ≤ 900001) := by have := putTo_len n val (L.take kk); rw [List.length_take] at this; show _ ≤ _; omega
      clear hkk
      obtain ⟨hz1, hf1, hg0, hg1⟩ := blkf2 J1.out
      cases d with
      | true =>
        go_wp2
        exact bodyPost_ret (v := .agg #[.string m, .slice A2 n2 c2]) (by simp [results, Tryz.results9, go_sem, *]) rfl ⟨_, rfl, by rw [HP.out]; exact ((HO.out.setCell (by show w.heap.size + 1 < _; omega) _).setCell (by show w.heap.size + 1 < _; omega) _).rd encF_len, (HB.out.setCell (by show w.heap.size ≤ w.heap.size + 1; omega) _).setCell (by show w.heap.size ≤ w.heap.size + 1; omega) _⟩
      | false =>
        go_wp2_with (at_builtin; refine wp_append1 encF 2 encF_len encF_one (w0 := wr) (w.heap.size + 3) rfl _ _ 22 34 (.agg #[.int .i64 0, .string ⟨#[]⟩]) 24 rfl Tryz.underlying22 infoF rfl (by decide) (.slice A2 n2 c2) _ ⟨n, val⟩ rfl rfl rfl HO.out (Below.refl _ _) (by omega) (by have := hll.out; omega) (by decide) ?_; intro v5 w5 ho5 hb5 hg5 hs5; obtain ⟨A5, n5, c5, rfl⟩ := Own.shape ho5; obtain ⟨hz5, hf5, hg50, hg51⟩ := blkf2 ((hg5.block (w.heap.size + 2) (by omega) (HO.out.ne (by omega))).trans J2.out); obtain ⟨hz6, hf6, hg60, hg61⟩ := blkf2 ((hg5.block (w.heap.size + 1) (by omega) (HO.out.ne (by omega))).trans J1.out))
        exact bodyPost_ret (v := .agg #[.string m, .slice A5 n5 c5]) (by simp [results, Tryz.results9, go_sem, *]) rfl ⟨_, rfl, by rw [HP.out]; exact (((ho5.setCell (by show w.heap.size + 2 < _; omega) _).setCell (by show w.heap.size + 1 < _; omega) _).setCell (by show w.heap.size + 1 < _; omega) _).rd encF_len, (((HB.out.trans (hb5.mono (by omega))).setCell (by show w.heap.size ≤ w.heap.size + 2; omega) _).setCell (by show w.heap.size ≤ w.heap.size + 1; omega) _).setCell (by show w.heap.size ≤ w.heap.size + 1; omega) _⟩
end Go.Proofs.YtbafhmhjkoelnaaGreatDoor
