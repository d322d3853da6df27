/- O1: bursarlaw19.IsoOrder answers true. -/
import Derived.Test.YtbafhmhjkoelnaaGreatDoorO
import Derived.Test.YtbafhmhjkoelnaaGreatDoorL
import Derived.BigQuiet
import Derived.Deep.QuietTactic
import Derived.Test.YtbafhmhjkoelnaaGreatDoorL1
namespace Go.Proofs.YtbafhmhjkoelnaaGreatDoor
open Go.RowKit

/-- The load of a message, under a name. -/
def ldA : Op := Op.load 24 (Operand.tmp 5)
set_option maxRecDepth 100000 in
set_option maxHeartbeats 8000000 in
theorem isoOrder_true (v : Value) (L : List Field) (t : Nat) (w : World) (hr : Rd encF 2 w v L) (hwf : ∀ x ∈ L, (Lit.int .i64 x.N).wf = true) (ht : t ≤ 255) (hG : G w) :
    Calls Tryz.prog 4 #[v, .int .u8 t] w fun e w' => e = .returned (.bool true) ∧ Below w.heap.size w w' := by
  obtain ⟨A, c, rfl, hlc, hmax, hcells⟩ := id hr
  clear hcells
  have HG := Lib.hid hG
  obtain ⟨M, hM1, hM2, hM3, hM4⟩ : ∃ M : List Field, M.length ≤ 40 ∧ Rd encF 2 w (.slice A M.length c) M ∧ (∀ x ∈ M, (Lit.int .i64 x.N).wf = true) ∧ ((40 < L.length ∧ M.length = 40) ∨ (¬ 40 < L.length ∧ M.length = L.length)) := by
    by_cases h : 40 < L.length
    · refine ⟨L.take 40, by simp; omega, ?_, fun x hx => hwf x ((List.take_sublist _ _).mem hx), .inl ⟨h, by simp; omega⟩⟩
      rw [show (L.take 40).length = 40 by simp; omega]; exact hr.take (by omega)
    · exact ⟨L, by omega, hr, hwf, .inr ⟨h, rfl⟩⟩
  have HR := Lib.hid hM2
  have HWF := Lib.hid hM3
  clear hr hM2 hM3 hwf hG
  have hmm := @run_makeMap Tryz.prog
  rcases hM4 with ⟨h40, hM4⟩ | ⟨h40, hM4⟩
  all_goals
    have HM4 := Lib.hid hM4
    clear hM4
    first
      | have g1 : decide ((40 : Int) < (L.length : Int)) = true := decide_eq_true (by omega)
      | have g1 : decide ((40 : Int) < (L.length : Int)) = false := decide_eq_false (by omega)
    go_enter Tryz.func4, Tryz.ntmps4
    go_wp2
    obtain ⟨w2, hw2⟩ : ∃ w2, w2 = ((w.alloc (Obj.cells #[.string ⟨#[48, 56, 48, 48]⟩, .slice none 0 0] 24)).alloc (Obj.cells #[.string ⟨#[48, 56, 48, 48]⟩, .slice none 0 0] 24)).alloc (.map #[] 0) := ⟨_, rfl⟩
    have hb2 : Below w.heap.size w w2 := by rw [hw2]; exact (((Below.refl _ _).alloc (Nat.le_refl _) _).alloc (by simp) _).alloc (by simp; omega) _
    have hs2 : w2.heap.size = w.heap.size + 3 := by rw [hw2]; simp
    have hK0 : w2.heap[w.heap.size]? = some (.cells #[.string ⟨#[48, 56, 48, 48]⟩, .slice none 0 0] 24 (0, 0)) := by rw [hw2]; exact blk_al (blk2 w _ _).1 _
    have hK1 : w2.heap[w.heap.size + 1]? = some (.cells #[.string ⟨#[48, 56, 48, 48]⟩, .slice none 0 0] 24 (0, 0)) := by rw [hw2]; exact blk_al (blk2 w _ _).2 _
    have hMM : MapIs w2 (w.heap.size + 1 + 1) 0 fun _ => none := by
      have := MapIs.made ((w.alloc (Obj.cells #[.string ⟨#[48, 56, 48, 48]⟩, .slice none 0 0] 24)).alloc (Obj.cells #[.string ⟨#[48, 56, 48, 48]⟩, .slice none 0 0] 24))
      rw [← hw2] at this
      simpa using this
    rw [← hw2]
    clear hw2
    have HK0 := Lib.hid hK0
    have HK1 := Lib.hid hK1
    have hmm0 := Lib.hid hMM
    clear hK0 hK1 hMM hmm
    go_loopw [8, 9] (fun o i wr => ∃ kk : Nat, kk ≤ M.length ∧ i = .int .i64 kk ∧ Aside (Own encF 2 34 w2.heap.size wr o (onceL (M.take kk))) ∧ Aside (MapIs wr (w.heap.size + 1 + 1) (onceL (M.take kk)).length (lk (onceL (M.take kk)))) ∧ Aside (Below (w.heap.size + 2) w2 wr) ∧ w2.heap.size ≤ wr.heap.size) (fun _ i _ => 40 - (intOf i).toNat)
    case atStart => exact ⟨0, by omega, rfl, Own.nil _ _ _ _ _, hmm0.out, Below.refl _ _, Nat.le_refl _⟩
    case round =>
      obtain ⟨kk, hk1, rfl, HO, HM, BW, hsw⟩ := hrel
      have hN0 : Hid ((onceL (M.take kk)).length ≤ 40) := by show _ ≤ _; have := onceL_len (M.take kk); simp at this; omega
      by_cases hlt : kk < M.length
      · have BWr : Hid (Below w.heap.size w wr) := hb2.trans (BW.out.mono (by omega))
        obtain ⟨b, off, x, rfl, hb, hx, hc⟩ := Rd.at HR.out BWr.out hlt
        have c0 : wr.cell? ⟨b, off + kk * 2, none⟩ = some (.int .i64 x.N) := hc 0 _ rfl
        have c1 : wr.cell? ⟨b, off + kk * 2 + 1, none⟩ = some (.string x.V) := hc 1 _ rfl
        clear hc
        have hwf1 : Hid ((Lit.int .i64 x.N).wf = true) := HWF.out x (List.mem_of_getElem? hx)
        have hlz1 : (kk : Int) < 40 := by have := HM4.out; omega
        have hlz2 : (kk : Int) < (L.length : Int) := by have := HM4.out; omega
        have hw1 : b < wr.heap.size := by omega
        obtain ⟨V, hV0⟩ : ∃ V, V = cutS 60 x.V := ⟨_, rfl⟩
        have hVs : V.size ≤ 60 := by rw [hV0]; exact cutS_size 60 x.V
        have hsn : onceL (M.take (kk + 1)) = onceS (onceL (M.take kk)) ⟨x.N, V⟩ := by rw [take_snoc M kk x hx, onceL_snoc]; unfold cutF; rw [← hV0]
        generalize hO : onceL (M.take kk) = O at HO HM hN0 hsn
        clear hO
        have hab : Hid (O.any (isN x.N) = true ∧ onceL (M.take (kk + 1)) = O ∨ O.any (isN x.N) = false ∧ onceL (M.take (kk + 1)) = O ++ [⟨x.N, V⟩]) := by
          show _ ∨ _
          rw [hsn]; unfold onceS
          cases h : O.any (isN x.N)
          · exact .inr ⟨rfl, by simp⟩
          · exact .inl ⟨rfl, by simp⟩
        have HX := Lib.hid hx
        clear hx hsn
        obtain ⟨hv, hV⟩ | ⟨hv, hV⟩ : (60 < x.V.size ∧ x.V.extract 0 60 = V) ∨ (¬ 60 < x.V.size ∧ x.V = V) := by rw [hV0]; unfold cutS; split <;> simp_all
        all_goals clear hV0
        all_goals rcases hab.out with ⟨hp, hq⟩ | ⟨hp, hq⟩
        all_goals
          have HQ := Lib.hid hq
          have HP := Lib.hid hp
          clear hp hq hab
        all_goals
          obtain ⟨s0, hs0⟩ : ∃ s0, Hid ((lk O x.N).getD ⟨#[]⟩ = s0) := ⟨_, rfl⟩
          have hi0 : Hid ((lk O x.N).isSome = _) := (lk_isSome O x.N).trans HP.out
        · go_wp2_with (at_lookup; refine wp_look rfl _ _ rfl (HM.out.below (by repeat' (first | exact Below.refl _ _ | refine Below.setCell ?_ (by first | exact Nat.le_refl _ | (simp; done)) _ | refine Below.alloc ?_ (by first | exact Nat.le_refl _ | (simp; done)) _))) x.N rfl rfl hwf1.out s0 true hs0.out hi0.out ?_)
          go_roundw
          case rel => exact ⟨kk + 1, by omega, by go_num, by rw [HQ.out]; exact Own.alloc HO.out _, by rw [HQ.out]; exact HM.out.below ((Below.refl _ _).alloc (Nat.le_refl _) _), BW.out.alloc (by omega) _, by simp; omega⟩
          case measure => simp [intOf]; omega
        · go_wp2_with (first | (at_lookup; refine wp_look rfl _ _ rfl (HM.out.below (by repeat' (first | exact Below.refl _ _ | refine Below.setCell ?_ (by first | exact Nat.le_refl _ | (simp; done)) _ | refine Below.alloc ?_ (by first | exact Nat.le_refl _ | (simp; done)) _))) x.N rfl rfl hwf1.out s0 false hs0.out hi0.out ?_) | (at_builtin; refine wp_append1 encF 2 encF_len encF_one w2.heap.size rfl _ _ 22 34 (.agg #[.int .i64 0, .string ⟨#[]⟩]) 24 rfl Tryz.underlying22 infoF rfl (by decide) _ _ ⟨x.N, V⟩ rfl rfl (by simp) (Own.alloc HO.out _) (Below.refl _ _) (by simp; omega) (by have := hN0.out; omega) (by decide) ?_; intro v1 w1 ho1 hb1 hg1 hs1; obtain ⟨hz1, hf1, f0, f1⟩ := blkf2 ((hg1.block wr.heap.size (by simp) (HO.out.ne_new (Nat.le_refl _))).trans (heap_alloc_new wr _))) | (at_mapUpdate; refine wp_store rfl _ _ _ rfl (((HM.out.below ((Below.refl _ _).alloc (Nat.le_refl _) _)).keep hb1 (by omega))) (by have := hN0.out; omega) x.N V rfl rfl rfl hwf1.out (by omega) ?_; intro w3 hm3 hb3 hs3 hk3))
          go_roundw
          case rel =>
            have e : lk (O ++ [⟨x.N, V⟩]) = fun j => if j = x.N then some V else lk O j := funext fun n => lk_snoc (x := ⟨x.N, V⟩) HP.out n
            exact ⟨kk + 1, by omega, by go_num, by rw [HQ.out]; exact Own.keep ho1 (fun i hi hlt => hk3 i hlt (by omega)), by rw [HQ.out, List.length_append, e]; exact hm3, (BW.out.alloc (by omega) _).trans ((hb1.mono (by omega)).trans (hb3.mono (by omega))), by simp at hs1; omega⟩
          case measure => simp [intOf]; omega
        · rw [hV] at hv c1
          clear hV
          go_wp2_with (at_lookup; refine wp_look rfl _ _ rfl (HM.out.below (by repeat' (first | exact Below.refl _ _ | refine Below.setCell ?_ (by first | exact Nat.le_refl _ | (simp; done)) _ | refine Below.alloc ?_ (by first | exact Nat.le_refl _ | (simp; done)) _))) x.N rfl rfl hwf1.out s0 true hs0.out hi0.out ?_)
          go_roundw
          case rel => exact ⟨kk + 1, by omega, by go_num, by rw [HQ.out]; exact Own.alloc HO.out _, by rw [HQ.out]; exact HM.out.below ((Below.refl _ _).alloc (Nat.le_refl _) _), BW.out.alloc (by omega) _, by simp; omega⟩
          case measure => simp [intOf]; omega
        · rw [hV] at hv c1
          clear hV
          go_wp2_with (first | (at_lookup; refine wp_look rfl _ _ rfl (HM.out.below (by repeat' (first | exact Below.refl _ _ | refine Below.setCell ?_ (by first | exact Nat.le_refl _ | (simp; done)) _ | refine Below.alloc ?_ (by first | exact Nat.le_refl _ | (simp; done)) _))) x.N rfl rfl hwf1.out s0 false hs0.out hi0.out ?_) | (at_builtin; refine wp_append1 encF 2 encF_len encF_one w2.heap.size rfl _ _ 22 34 (.agg #[.int .i64 0, .string ⟨#[]⟩]) 24 rfl Tryz.underlying22 infoF rfl (by decide) _ _ ⟨x.N, V⟩ rfl rfl (by simp) (Own.alloc HO.out _) (Below.refl _ _) (by simp; omega) (by have := hN0.out; omega) (by decide) ?_; intro v1 w1 ho1 hb1 hg1 hs1; obtain ⟨hz1, hf1, f0, f1⟩ := blkf2 ((hg1.block wr.heap.size (by simp) (HO.out.ne_new (Nat.le_refl _))).trans (heap_alloc_new wr _))) | (at_mapUpdate; refine wp_store rfl _ _ _ rfl (((HM.out.below ((Below.refl _ _).alloc (Nat.le_refl _) _)).keep hb1 (by omega))) (by have := hN0.out; omega) x.N V rfl rfl rfl hwf1.out (by omega) ?_; intro w3 hm3 hb3 hs3 hk3))
          go_roundw
          case rel =>
            have e : lk (O ++ [⟨x.N, V⟩]) = fun j => if j = x.N then some V else lk O j := funext fun n => lk_snoc (x := ⟨x.N, V⟩) HP.out n
            exact ⟨kk + 1, by omega, by go_num, by rw [HQ.out]; exact Own.keep ho1 (fun i hi hlt => hk3 i hlt (by omega)), by rw [HQ.out, List.length_append, e]; exact hm3, (BW.out.alloc (by omega) _).trans ((hb1.mono (by omega)).trans (hb3.mono (by omega))), by simp at hs1; omega⟩
          case measure => simp [intOf]; omega
      · have hU : Hid (Uq (onceL (M.take kk))) := onceL_uq _
        have hE : Hid (∀ x ∈ onceL (M.take kk), (Lit.int .i64 x.N).wf = true ∧ x.V.size ≤ 60) := fun x hx => by
          obtain ⟨y, hy, rfl⟩ := onceL_mem hx
          exact ⟨HWF.out y ((List.take_sublist _ _).mem hy), cutS_size 60 y.V⟩
        generalize onceL (M.take kk) = O at HO HM hN0 hU hE
        have hlz1 : ¬ ((kk : Int) < 40) ∨ ¬ ((kk : Int) < (L.length : Int)) := by have := HM4.out; omega
        have hlz2 : 40 < L.length → ¬ ((kk : Int) < 40) := by have := HM4.out; omega
        have hlz3 : ¬ (40 < L.length) → ¬ ((kk : Int) < (L.length : Int)) := by have := HM4.out; omega
        first | replace hlz2 := hlz2 h40 | replace hlz3 := hlz3 h40
        clear hlz1
        obtain ⟨A1, c1, rfl⟩ := Own.len HO.out
        have hN1 := hN0.out
        have hb3 : Below w.heap.size w wr := hb2.trans (BW.out.mono (by omega))
        have HJ0 : Hid (wr.heap[w.heap.size]? = some (.cells #[.string ⟨#[48, 56, 48, 48]⟩, .slice none 0 0] 24 (0, 0))) := (BW.out.block _ (by omega)).trans HK0.out
        have HJ1 : Hid (wr.heap[w.heap.size + 1]? = some (.cells #[.string ⟨#[48, 56, 48, 48]⟩, .slice none 0 0] 24 (0, 0))) := (BW.out.block _ (by omega)).trans HK1.out
        have HOw : Hid (Own encF 2 34 w2.heap.size wr (.slice A1 O.length c1) O) := HO.out
        have HMw : Hid (MapIs wr (w.heap.size + 1 + 1) O.length (lk O)) := HM.out
        have HBw := Lib.hid hb3
        clear HO HM BW hb3 HK0 HK1 hmm0 hb2 hlt hk1
        go_wp2
        go_loopw [13] (fun i wl => ∃ (k : Nat) (LA LB : List Field) (a1 a2 : Option Addr) (n1 n2 d1 d2 : Nat), k ≤ O.length ∧ i = .int .i64 k ∧ LA.length ≤ 80 ∧ LB.length ≤ k ∧
          Aside (Srt LA ∧ (∀ x, x ∈ LA ↔ x ∈ O.take k) ∧ Srt LB ∧ ∀ x, x ∈ LB ↔ Met O t k x) ∧
          Aside (wl.heap[w.heap.size]? = some (.cells #[.string ⟨#[48, 56, 48, 48]⟩, .slice a1 n1 d1] 24 (0, 0))) ∧ Aside (Rd encF 2 wl (.slice a1 n1 d1) LA) ∧
          Aside (wl.heap[w.heap.size + 1]? = some (.cells #[.string ⟨#[48, 56, 48, 48]⟩, .slice a2 n2 d2] 24 (0, 0))) ∧ Aside (Rd encF 2 wl (.slice a2 n2 d2) LB) ∧
          Aside (Own encF 2 34 w2.heap.size wl (.slice A1 O.length c1) O) ∧ Aside (MapIs wl (w.heap.size + 1 + 1) O.length (lk O)) ∧ Aside (Below w.heap.size w wl) ∧ w2.heap.size ≤ wl.heap.size) (fun i _ => O.length - (intOf i).toNat)
        case atStart =>
          exact ⟨0, [], [], none, none, 0, 0, 0, 0, by omega, by go_num, by simp, by simp, ⟨List.Pairwise.nil, by simp, List.Pairwise.nil, fun x => ⟨fun h => (by cases h), fun h => (by obtain ⟨i, hi, _⟩ := h; omega)⟩⟩, HJ0.out, Rd.nil _ _ _, HJ1.out, Rd.nil _ _ _, HOw.out, HMw.out, HBw.out, hsw⟩
        case round =>
          obtain ⟨k, LA, LB, a1, a2, n1, n2, d1, d2, hk1, rfl, hla, hlb, HS, HA, HRA, HB, HRB, HO, HM, BW, hsl⟩ := hrel
          by_cases hlt : k < O.length
          · have hlz4 : (k : Int) < (O.length : Int) := by omega
            have hlz5 : (0 : Int) ≤ (k : Int) := by omega
            obtain ⟨j, hj⟩ : ∃ j, j = (k + t) % O.length := ⟨_, rfl⟩
            have hjl : j < O.length := by rw [hj]; exact Nat.mod_lt _ (by omega)
            have hlz6 : (j : Int) < (O.length : Int) := by omega
            have hlz7 : (0 : Int) ≤ (j : Int) := by omega
            have hw64 : IntKind.i64.wrap (t : Int) = (t : Int) := by rw [IntKind.wrap_i64]; omega
            have hw65 : IntKind.i64.wrap ((k : Int) + (t : Int)) = (k : Int) + (t : Int) := by rw [IntKind.wrap_i64]; omega
            have hrem : Int.tmod ((k : Int) + (t : Int)) (O.length : Int) = (j : Int) := by rw [hj]; rfl
            have hnz : ¬ (O = []) := by intro e; rw [e] at hlt; simp at hlt
            have hnz1 : ¬ (O.length = 0) := by omega
            have hnz2 : ((O.length : Int) == 0) = false := by simp; exact hnz
            have hwj : IntKind.i64.wrap (j : Int) = (j : Int) := by rw [IntKind.wrap_i64]; omega
            obtain ⟨b1, o1, x, e1, hbx, hx, hcx⟩ := Rd.at (HO.out.rd encF_len) (Below.refl _ wr) hlt
            obtain ⟨b2, o2, y, e2, -, hy, hcy⟩ := Rd.at (HO.out.rd encF_len) (Below.refl _ wr) hjl
            subst e1
            cases e2
            have x0 : wr.cell? ⟨b1, o1 + k * 2, none⟩ = some (.int .i64 x.N) := hcx 0 _ rfl
            have x1 : wr.cell? ⟨b1, o1 + k * 2 + 1, none⟩ = some (.string x.V) := hcx 1 _ rfl
            have y0 : wr.cell? ⟨b1, o1 + j * 2, none⟩ = some (.int .i64 y.N) := hcy 0 _ rfl
            have y1 : wr.cell? ⟨b1, o1 + j * 2 + 1, none⟩ = some (.string y.V) := hcy 1 _ rfl
            clear hcx hcy
            have HX := Lib.hid hx
            have HY := Lib.hid (hj ▸ hy)
            clear hx hy hj
            go_wp2_with fail
            have hb1 : b1 ≠ wr.heap.size := by omega
            have hb1' : b1 ≠ wr.heap.size + 1 := by omega
            have hb1'' : b1 < wr.heap.size + 1 := by omega
            go_region_held3 (fun W => W.cell? ⟨b1, o1 + k * 2, none⟩ = some (.int .i64 x.N) ∧ W.cell? ⟨b1, o1 + k * 2 + 1, none⟩ = some (.string x.V) ∧ W.cell? ⟨b1, o1 + j * 2, none⟩ = some (.int .i64 y.N) ∧ W.cell? ⟨b1, o1 + j * 2 + 1, none⟩ = some (.string y.V)) (first | go_keep | skip) (fail)
            all_goals
              first
                | (obtain ⟨W2, hW2⟩ : ∃ W2, W2 = ((wr.alloc (Obj.cells #[Value.int IntKind.i64 x.N, Value.string x.V] 34)).alloc (Obj.cells #[Value.int IntKind.i64 y.N, Value.string y.V] 34)).drew := ⟨_, rfl⟩
                   rw [← hW2]
                   have KX : Hid (W2.heap[wr.heap.size]? = some (.cells #[.int .i64 x.N, .string x.V] 34 (0, 0))) := by show _ = _; rw [hW2]; exact (blk2 wr _ _).1
                   have KY : Hid (W2.heap[wr.heap.size + 1]? = some (.cells #[.int .i64 y.N, .string y.V] 34 (0, 0))) := by show _ = _; rw [hW2]; exact (blk2 wr _ _).2
                   have hs3 : W2.heap.size = wr.heap.size + 2 := by rw [hW2]; simp
                   have hB2 : Below wr.heap.size wr W2 := by rw [hW2]; exact (((Below.refl _ _).alloc (Nat.le_refl _) _).alloc (by simp) _).drew
                   clear hW2
                   obtain ⟨py, hpy⟩ : ∃ py, wr.heap.size + 1 = py := ⟨_, rfl⟩
                   obtain ⟨px, hpx⟩ : ∃ px, wr.heap.size = px := ⟨_, rfl⟩
                   rw [hpy] at KY ⊢
                   rw [hpx] at KX ⊢
                   have hp3 : wr.heap.size ≤ px ∧ wr.heap.size ≤ py ∧ px < W2.heap.size ∧ py < W2.heap.size ∧ px ≠ py := by omega)
                | (obtain ⟨W2, hW2⟩ : ∃ W2, W2 = ((wr.alloc (Obj.cells #[Value.int IntKind.i64 y.N, Value.string y.V] 34)).alloc (Obj.cells #[Value.int IntKind.i64 x.N, Value.string x.V] 34)).drew := ⟨_, rfl⟩
                   rw [← hW2]
                   have KX : Hid (W2.heap[wr.heap.size + 1]? = some (.cells #[.int .i64 x.N, .string x.V] 34 (0, 0))) := by show _ = _; rw [hW2]; exact (blk2 wr _ _).2
                   have KY : Hid (W2.heap[wr.heap.size]? = some (.cells #[.int .i64 y.N, .string y.V] 34 (0, 0))) := by show _ = _; rw [hW2]; exact (blk2 wr _ _).1
                   have hs3 : W2.heap.size = wr.heap.size + 2 := by rw [hW2]; simp
                   have hB2 : Below wr.heap.size wr W2 := by rw [hW2]; exact (((Below.refl _ _).alloc (Nat.le_refl _) _).alloc (by simp) _).drew
                   clear hW2
                   obtain ⟨px, hpx⟩ : ∃ px, wr.heap.size + 1 = px := ⟨_, rfl⟩
                   obtain ⟨py, hpy⟩ : ∃ py, wr.heap.size = py := ⟨_, rfl⟩
                   rw [hpx] at KX ⊢
                   rw [hpy] at KY ⊢
                   have hp3 : wr.heap.size ≤ px ∧ wr.heap.size ≤ py ∧ px < W2.heap.size ∧ py < W2.heap.size ∧ px ≠ py := by omega)
              obtain ⟨hp3, hp4, hp5, hp6, hp7⟩ := hp3
              have hpxB : px ≠ w.heap.size := by omega
              clear hpx hpy hb1 hb1' hb1'' x0 x1 y0 y1
              have HA2 := (hB2.block w.heap.size (by omega)).trans HA.out
              obtain ⟨hza, hfa, qa0, qa1⟩ := blkf2 HA2
              obtain ⟨hzx, hfx, qx0, qx1⟩ := blkf2 KX.out
              obtain ⟨P1, hP1⟩ : ∃ P, P = putF x.N ⟨#[111, 116, 104, 101, 114]⟩ LA := ⟨_, rfl⟩
              obtain ⟨P2, hP2⟩ : ∃ P, P = putF x.N x.V P1 := ⟨_, rfl⟩
              obtain ⟨P3, hP3⟩ : ∃ P, P = putF y.N y.V LB := ⟨_, rfl⟩
              have hl1 : P1.length ≤ 900000 := by have := putF_len x.N ⟨#[111, 116, 104, 101, 114]⟩ LA; rw [hP1]; omega
              have HKX : Hid (∀ W, Below W2.heap.size W2 W → W.cell? ⟨px, 0, none⟩ = some (.int .i64 x.N) ∧ W.cell? ⟨px, 1, none⟩ = some (.string x.V)) := fun W hb => by
                obtain ⟨-, -, a0, a1⟩ := blkf2 ((hb.block px (by omega)).trans KX.out)
                exact ⟨a0, a1⟩
              have HKS : Hid (∀ W, Below W2.heap.size W2 W → ∀ u v, ((W.setCell ⟨w.heap.size, 0, none⟩ u).setCell ⟨w.heap.size, 1, none⟩ v).cell? ⟨px, 0, none⟩ = some (.int .i64 x.N) ∧ ((W.setCell ⟨w.heap.size, 0, none⟩ u).setCell ⟨w.heap.size, 1, none⟩ v).cell? ⟨px, 1, none⟩ = some (.string x.V)) := fun W hb u v => by
                obtain ⟨-, -, a0, a1⟩ := blkf2 (((Below.heap_setCell _ ⟨w.heap.size, 1, none⟩ _ px (show px ≠ (⟨w.heap.size, 1, none⟩ : Addr).block from hpxB)).trans (Below.heap_setCell W ⟨w.heap.size, 0, none⟩ _ px (show px ≠ (⟨w.heap.size, 0, none⟩ : Addr).block from hpxB))).trans ((hb.block px (by omega)).trans KX.out))
                exact ⟨a0, a1⟩
              have HP1 : Hid (∀ W, Below W2.heap.size W2 W → Calls Tryz.prog 8 #[.agg #[.string ⟨#[48, 56, 48, 48]⟩, .slice a1 n1 d1], .int .i64 x.N, .string ⟨#[111, 116, 104, 101, 114]⟩] W fun e w' => ∃ v', e = .returned (.agg #[.string ⟨#[48, 56, 48, 48]⟩, v']) ∧ Rd encF 2 w' v' P1 ∧ Below W2.heap.size W2 w') := fun W hb => by
                have := iso_Put ⟨#[48, 56, 48, 48]⟩ _ LA x.N ⟨#[111, 116, 104, 101, 114]⟩ W (HRA.out.below (bthen hB2 hb)) (by omega)
                rw [← hP1] at this
                exact this.mono fun e w' ⟨v', h1, h2, h3⟩ => ⟨v', h1, h2, bthen hb h3⟩
              have HP2 : Hid (∀ W v, Rd encF 2 W v P1 → Below W2.heap.size W2 W → Calls Tryz.prog 8 #[.agg #[.string ⟨#[48, 56, 48, 48]⟩, v], .int .i64 x.N, .string x.V] W fun e w' => ∃ v', e = .returned (.agg #[.string ⟨#[48, 56, 48, 48]⟩, v']) ∧ Rd encF 2 w' v' P2 ∧ Below W2.heap.size W2 w') := fun W v hr hb => by
                have := iso_Put ⟨#[48, 56, 48, 48]⟩ v P1 x.N x.V W hr hl1
                rw [← hP2] at this
                exact this.mono fun e w' ⟨v', h1, h2, h3⟩ => ⟨v', h1, h2, bthen hb h3⟩
              have HP3 : Hid (∀ W, Rd encF 2 W (.slice a2 n2 d2) LB → Calls Tryz.prog 8 #[.agg #[.string ⟨#[48, 56, 48, 48]⟩, .slice a2 n2 d2], .int .i64 y.N, .string y.V] W fun e w' => ∃ v', e = .returned (.agg #[.string ⟨#[48, 56, 48, 48]⟩, v']) ∧ Rd encF 2 w' v' P3 ∧ Below W.heap.size W w') := fun W hr => by
                have := iso_Put ⟨#[48, 56, 48, 48]⟩ _ LB y.N y.V W hr (by omega)
                rw [← hP3] at this
                exact this
              have HL1 := Lib.hid hP1
              have HL2 := Lib.hid hP2
              have HL3 := Lib.hid hP3
              clear hP1 hP2 hP3 hl1
              have HHB := Lib.hid hB2
              have HHA2 := Lib.hid HA2
              clear hB2 HA2
              go_wp2_with fail
              rw [show Op.load 24 (Operand.tmp 5) = ldA from rfl]
              have hld : ldA = Op.load 24 (Operand.tmp 5) := rfl
              go_region_held3 (fun W => W.cell? ⟨px, 0, none⟩ = some (.int .i64 x.N) ∧ W.cell? ⟨px, 1, none⟩ = some (.string x.V)) (first | exact HKX.out _ (by first | assumption | exact (Below.refl _ _).drew) | exact HKS.out _ (by assumption) _ _ | go_keep | skip) (first | (go_at_call 8; (with_reducible refine Calls.mono (HP1.out _ (by first | assumption | exact (Below.refl _ _).drew)) ?_); rintro e w5 ⟨v5, rfl, hr5, hb5⟩) | (go_at_call 8; (with_reducible refine Calls.mono (HP2.out _ _ hr5 hb5) ?_); rintro e w6 ⟨v6, rfl, hr6, hb6⟩; obtain ⟨A6, c6, rfl, -⟩ := id hr6; obtain ⟨hz6, hf6, q60, q61⟩ := blkf2 ((hb6.block w.heap.size (by omega)).trans HHA2.out)))
              all_goals
                obtain ⟨W6, hW6⟩ : ∃ W6, W6 = (w6.setCell ⟨w.heap.size, 0, none⟩ (.string ⟨#[48, 56, 48, 48]⟩)).setCell ⟨w.heap.size, 1, none⟩ (.slice A6 P2.length c6) := ⟨_, rfl⟩
                rw [← hW6]
                have hoth : ∀ i, i ≠ w.heap.size → W6.heap[i]? = w6.heap[i]? := fun i hi => by rw [hW6]; exact (Below.heap_setCell _ ⟨w.heap.size, 1, none⟩ _ i (show i ≠ (⟨w.heap.size, 1, none⟩ : Addr).block from hi)).trans (Below.heap_setCell w6 ⟨w.heap.size, 0, none⟩ _ i (show i ≠ (⟨w.heap.size, 0, none⟩ : Addr).block from hi))
                have hsz6 : W6.heap.size = w6.heap.size := by rw [hW6]; simp
                have hA6 := (hb6.block w.heap.size (by omega)).trans HHA2.out
                have hA7 : W6.heap[w.heap.size]? = some (.cells #[.string ⟨#[48, 56, 48, 48]⟩, .slice A6 P2.length c6] 24 (0, 0)) := by rw [hW6]; exact blk_set (blk_set hA6 0 _) 1 _
                have hRA6 : Rd encF 2 W6 (.slice A6 P2.length c6) P2 := Rd.box hr6 hA6 (fun i hi _ => hoth i hi) (by omega)
                have hb6w : Below wr.heap.size wr w6 := bthen HHB.out hb6
                have hRB6 : Rd encF 2 W6 (.slice a2 n2 d2) LB := Rd.box (HRB.out.below hb6w) hA6 (fun i hi _ => hoth i hi) (by omega)
                have hB6 : W6.heap[w.heap.size + 1]? = some (.cells #[.string ⟨#[48, 56, 48, 48]⟩, .slice a2 n2 d2] 24 (0, 0)) := (hoth _ (by omega)).trans ((hb6w.block _ (by omega)).trans HB.out)
                have hY6 : W6.heap[py]? = some (.cells #[.int .i64 y.N, .string y.V] 34 (0, 0)) := (hoth _ (by omega)).trans ((hb6.block _ (by omega)).trans KY.out)
                obtain ⟨hzb, hfb, qb0, qb1⟩ := blkf2 hB6
                obtain ⟨hzy, hfy, qy0, qy1⟩ := blkf2 hY6
                have HA7 := Lib.hid hA7
                have HRA6 := Lib.hid hRA6
                have HRB6 := Lib.hid hRB6
                have HB6 := Lib.hid hB6
                have HOTH := Lib.hid hoth
                have HB6w := Lib.hid hb6w
                have hs6 : wr.heap.size ≤ w6.heap.size := hb6w.size
                have hBB6 : Below w.heap.size w W6 := by rw [hW6]; exact ((BW.out.trans (HB6w.out.mono (by omega))).setCell (Nat.le_refl _) _).setCell (Nat.le_refl _) _
                have HBB6 := Lib.hid hBB6
                clear hBB6 hA7 hRA6 hRB6 hB6 hoth hb6w hY6 hA6 hW6 hr6 hb6 hr5 hb5 hza hfa qa0 qa1 hzx hfx qx0 qx1
                go_wp2_with fail
                refine (HP3.out _ HRB6.out).mono ?_
                rintro e w8 ⟨v8, rfl, hr8, hb8⟩
                obtain ⟨A8, c8, rfl, -⟩ := id hr8
                obtain ⟨hz8, hf8, q80, q81⟩ := blkf2 ((hb8.block (w.heap.size + 1) (by omega)).trans HB6.out)
                obtain ⟨⟨hs1, hs2, hs3, hs4⟩, hs5⟩ := step_lists (u := ⟨#[111, 116, 104, 101, 114]⟩) hU.out HS.out HX.out HY.out
                rw [← HL1.out, ← HL2.out] at hs1 hs2 hs5
                rw [← HL3.out] at hs3 hs4
                have hl3 : P3.length ≤ k + 1 := by rw [HL3.out]; have := putF_len y.N y.V LB; omega
                obtain ⟨W9, hW9⟩ : ∃ W9, W9 = (w8.setCell ⟨w.heap.size + 1, 0, none⟩ (.string ⟨#[48, 56, 48, 48]⟩)).setCell ⟨w.heap.size + 1, 1, none⟩ (.slice A8 P3.length c8) := ⟨_, rfl⟩
                have oth9 : ∀ i, i ≠ w.heap.size + 1 → W9.heap[i]? = w8.heap[i]? := fun i hi => by rw [hW9]; exact (Below.heap_setCell _ ⟨w.heap.size + 1, 1, none⟩ _ i (show i ≠ (⟨w.heap.size + 1, 1, none⟩ : Addr).block from hi)).trans (Below.heap_setCell w8 ⟨w.heap.size + 1, 0, none⟩ _ i (show i ≠ (⟨w.heap.size + 1, 0, none⟩ : Addr).block from hi))
                have hsz9 : W9.heap.size = w8.heap.size := by rw [hW9]; simp
                have hsz8 : W6.heap.size ≤ w8.heap.size := hb8.size
                have hB8 := (hb8.block (w.heap.size + 1) (by omega)).trans HB6.out
                have hall : ∀ i, i < wr.heap.size → i ≠ w.heap.size → i ≠ w.heap.size + 1 → W9.heap[i]? = wr.heap[i]? := fun i h1 h2 h3 => (oth9 i h3).trans ((hb8.block i (by omega)).trans ((HOTH.out i h2).trans (HB6w.out.block i h1)))
                have FIN : Hid (∃ (k' : Nat) (LA LB : List Field) (a1 a2 : Option Addr) (n1 n2 d1 d2 : Nat), k' ≤ O.length ∧ Value.int .i64 ((k : Int) + 1) = .int .i64 k' ∧ LA.length ≤ 80 ∧ LB.length ≤ k' ∧
                  Aside (Srt LA ∧ (∀ x, x ∈ LA ↔ x ∈ O.take k') ∧ Srt LB ∧ ∀ x, x ∈ LB ↔ Met O t k' x) ∧
                  Aside (W9.heap[w.heap.size]? = some (.cells #[.string ⟨#[48, 56, 48, 48]⟩, .slice a1 n1 d1] 24 (0, 0))) ∧ Aside (Rd encF 2 W9 (.slice a1 n1 d1) LA) ∧
                  Aside (W9.heap[w.heap.size + 1]? = some (.cells #[.string ⟨#[48, 56, 48, 48]⟩, .slice a2 n2 d2] 24 (0, 0))) ∧ Aside (Rd encF 2 W9 (.slice a2 n2 d2) LB) ∧
                  Aside (Own encF 2 34 w2.heap.size W9 (.slice (some ⟨b1, o1, none⟩) O.length c1) O) ∧ Aside (MapIs W9 (w.heap.size + 1 + 1) O.length (lk O)) ∧ Aside (Below w.heap.size w W9) ∧ w2.heap.size ≤ W9.heap.size) :=
                  ⟨k + 1, P2, P3, A6, A8, P2.length, P3.length, c6, c8, by omega, by go_num, by omega, hl3, ⟨hs1, hs2, hs3, hs4⟩,
                    (oth9 _ (by omega)).trans ((hb8.block _ (by omega)).trans HA7.out), Rd.box (HRA6.out.below hb8) hB8 (fun i hi _ => oth9 i hi) (by omega),
                    by show _ = _; rw [hW9]; exact blk_set (blk_set hB8 0 _) 1 _, Rd.box hr8 hB8 (fun i hi _ => oth9 i hi) (by omega),
                    Own.keep HO.out (fun i hi hlt => hall i hlt (by omega) (by omega)), HM.out.atb (hall _ HM.out.lt (by omega) (by omega)),
                    by show Below _ _ _; rw [hW9]; exact ((HBB6.out.trans (hb8.mono (by omega))).setCell (by show _ ≤ w.heap.size + 1; omega) _).setCell (by show _ ≤ w.heap.size + 1; omega) _, by omega⟩
                have HW9 := Lib.hid hW9
                clear hs1 hs2 hs3 hs4 hs5 hl3 oth9 hall hW9 hB8 hsz9 hsz8 hb8 hr8
                go_wp2
                go_roundw
                case rel => rw [← HW9.out]; exact FIN.out
                case measure => simp [intOf]; omega
          · obtain rfl : k = O.length := by omega
            obtain ⟨rfl, hmem, hlen⟩ := end_lists hU.out HS.out
            obtain rfl : n1 = O.length := by obtain ⟨_, _, e, _⟩ := id HRA.out; cases e; exact hlen
            have hSrt : Hid (Srt LA) := HS.out.1
            have HMEM := Lib.hid hmem
            have hlz4 : ¬ ((O.length : Int) < (O.length : Int)) := by omega
            obtain ⟨hza, hfa, qa0, qa1⟩ := blkf2 HA.out
            obtain ⟨hzb, hfb, qb0, qb1⟩ := blkf2 HB.out
            have hsm : sameM ⟨#[48, 56, 48, 48]⟩ LA ⟨#[48, 56, 48, 48]⟩ LA = true := by unfold sameM sameL; simp
            have hS1 := iso_Same ⟨#[48, 56, 48, 48]⟩ ⟨#[48, 56, 48, 48]⟩ _ _ LA LA wr HRA.out HRB.out
            rw [hsm] at hS1
            have HS1 := Lib.hid hS1
            clear hmem hsm hS1 HS hlt hk1
            go_wp2_with fail
            refine HS1.out.mono ?_
            rintro e w3 ⟨rfl, hb3⟩
            obtain ⟨hza3, hfa3, qc0, qc1⟩ := blkf2 ((hb3.block w.heap.size (by omega)).trans HA.out)
            have HA3 : Hid (w3.heap[w.heap.size]? = some (.cells #[.string ⟨#[48, 56, 48, 48]⟩, .slice a1 O.length d1] 24 (0, 0))) := (hb3.block w.heap.size (by omega)).trans HA.out
            have HR3 : Hid (Rd encF 2 w3 (.slice a1 O.length d1) LA) := HRA.out.below hb3
            have HM3 : Hid (MapIs w3 (w.heap.size + 1 + 1) O.length (lk O)) := HM.out.below hb3
            have HB3 : Hid (Below w.heap.size w w3) := BW.out.trans (hb3.mono (by omega))
            have hl3 : w.heap.size + 3 ≤ w3.heap.size := by have := hb3.size; omega
            clear HA HB HRA HRB HO HM BW HS1 hb3 HJ0 HJ1 HOw HMw HBw hza hfa qa0 qa1 hzb hfb qb0 qb1
            go_wp2
            go_loopw [16] (fun i wz => ∃ q : Nat, q ≤ O.length ∧ i = .int .i64 q ∧ Aside (Below w3.heap.size w3 wz)) (fun i _ => O.length - (intOf i).toNat)
            case atStart => exact ⟨0, by omega, by go_num, Below.refl _ _⟩
            case round =>
              obtain ⟨q, hq1, rfl, BW⟩ := hrel
              obtain ⟨hza, hfa, qa0, qa1⟩ := blkf2 ((BW.out.block w.heap.size (by omega)).trans HA3.out)
              by_cases hlt : q < O.length
              · have hlz5 : (q : Int) < (O.length : Int) := by omega
                have hlz6 : (0 : Int) ≤ (q : Int) := by omega
                have hHRw : Hid (Rd encF 2 wr (.slice a1 O.length d1) LA) := HR3.out.below BW.out
                obtain ⟨b, off, f, rfl, hb, hf, hc⟩ := Rd.at hHRw.out (Below.refl _ wr) (by omega : q < LA.length)
                have c0 : wr.cell? ⟨b, off + q * 2, none⟩ = some (.int .i64 f.N) := hc 0 _ rfl
                clear hc
                have hfO : f ∈ O := (HMEM.out f).1 (List.mem_of_getElem? hf)
                have hfw : (Lit.int .i64 f.N).wf = true := (hE.out f hfO).1
                have hG0 := fun W (hb : Below wr.heap.size wr W) => iso_Get ⟨#[48, 56, 48, 48]⟩ _ LA f.N W (hHRw.out.below hb)
                rw [getF_of hSrt.out.uq (List.mem_of_getElem? hf)] at hG0
                have HGT : Hid (∀ W, Below wr.heap.size wr W → Calls Tryz.prog 6 #[.agg #[.string ⟨#[48, 56, 48, 48]⟩, .slice (some ⟨b, off, none⟩) O.length d1], .int .i64 f.N] W fun e w' => e = .returned (.tuple #[.string f.V, .bool true]) ∧ Below wr.heap.size wr w') := fun W hb => (hG0 W hb).mono fun e w' ⟨h1, h2⟩ => ⟨h1, bthen hb h2⟩
                have HKK : Hid (∀ W, Below wr.heap.size wr W → W.cell? ⟨w.heap.size, 0, none⟩ = some (.string ⟨#[48, 56, 48, 48]⟩) ∧ W.cell? ⟨w.heap.size, 1, none⟩ = some (.slice (some ⟨b, off, none⟩) O.length d1) ∧ W.cell? ⟨b, off + q * 2, none⟩ = some (.int .i64 f.N)) := fun W hw => by
                  obtain ⟨-, -, a0, a1⟩ := blkf2 ((hw.block w.heap.size hza).trans ((BW.out.block w.heap.size (by omega)).trans HA3.out))
                  exact ⟨a0, a1, (hw.cell (p := ⟨b, _, none⟩) hb).trans c0⟩
                have hlk := lk_of hU.out hfO
                have HLK : Hid (∀ W, Below w3.heap.size w3 W → (Instr.lookup 32 (.map (some (w.heap.size + 1 + 1))) (.int .i64 f.N) false).run Tryz.prog W = .ok (.string f.V) W) := fun W hw => by
                  have := (HM3.out.below hw).look1 f.N hfw
                  rw [hlk] at this
                  exact this
                have HF := Lib.hid hf
                clear hG0 hlk hfw hfO hf
                go_wp2_with fail
                go_region_held3 (fun W => W.cell? ⟨w.heap.size, 0, none⟩ = some (.string ⟨#[48, 56, 48, 48]⟩) ∧ W.cell? ⟨w.heap.size, 1, none⟩ = some (.slice (some ⟨b, off, none⟩) O.length d1) ∧ W.cell? ⟨b, off + q * 2, none⟩ = some (.int .i64 f.N)) (first | exact HKK.out _ (by first | assumption | exact (Below.refl _ _).drew) | go_keep | skip) (first | (go_at_call 6; (with_reducible refine Calls.mono (HGT.out _ (by first | assumption | exact (Below.refl _ _).drew)) ?_); rintro e w5 ⟨rfl, hb5⟩))
                obtain ⟨s0, s1, s2⟩ := HKK.out w5 hb5
                have hl5 := fun n => HLK.out (w5.drewN n) (below_drewN (bthen BW.out hb5) n)
                have hre : Hid (Below w3.heap.size w3 w5) := bthen BW.out hb5
                rcases Nat.eq_zero_or_pos q with hq | hq
                · subst hq
                  have hlz7 : (0 : Int) < (O.length : Int) := by omega
                  have s2' : w5.cell? ⟨b, off, none⟩ = some (.int .i64 f.N) := by simpa using s2
                  go_wp2_with fail
                  go_quiet (fail)
                  go_wp2
                  go_roundw
                  case rel => exact ⟨1, by omega, by go_num, below_drewN hre.out nq⟩
                  case measure => simp [intOf]; omega
                · have hgt : decide ((0 : Int) < (q : Int)) = true := decide_eq_true (by omega)
                  obtain ⟨b', off', g, e', -, hg, hcg⟩ := Rd.at hHRw.out (Below.refl _ wr) (by omega : q - 1 < LA.length)
                  cases e'
                  have s3 : w5.cell? ⟨b, off + (q - 1) * 2, none⟩ = some (.int .i64 g.N) := (hb5.cell (p := ⟨b, _, none⟩) hb).trans (hcg 0 _ rfl)
                  have hlt2 : g.N < f.N := by
                    have h1 := List.pairwise_iff_getElem.1 hSrt.out (q - 1) q (by omega) (by omega) (by omega)
                    rw [(List.getElem?_eq_some_iff.1 hg).2, (List.getElem?_eq_some_iff.1 HF.out).2] at h1
                    exact h1
                  have hge : decide (f.N ≤ g.N) = false := decide_eq_false (by omega)
                  have hsub : IntKind.i64.wrap ((q : Int) - 1) = (q : Int) - 1 := by rw [IntKind.wrap_i64]; omega
                  have hs0 : (0 : Int) ≤ (q : Int) - 1 := by omega
                  have hs1 : (q : Int) - 1 < (O.length : Int) := by omega
                  have hs2 : ((q : Int) - 1).toNat = q - 1 := by omega
                  clear hcg hg
                  go_wp2_with fail
                  go_quiet (fail)
                  go_wp2
                  go_roundw
                  case rel => exact ⟨q + 1, by omega, by go_num, below_drewN hre.out nq⟩
                  case measure => simp [intOf]; omega
              · have hlz5 : ¬ ((q : Int) < (O.length : Int)) := by omega
                have HAW := Lib.hid (law19_awake wr (HG.out.below (HB3.out.trans (BW.out.mono (by omega)))))
                go_wp2_with fail
                refine HAW.out.mono ?_
                rintro e w5 ⟨rfl, hb5⟩
                go_wp2
                go_ret
                exact ⟨by simp, (HB3.out.trans (BW.out.mono (by omega))).trans (hb5.mono (by have := BW.out.size; omega))⟩
end Go.Proofs.YtbafhmhjkoelnaaGreatDoor
