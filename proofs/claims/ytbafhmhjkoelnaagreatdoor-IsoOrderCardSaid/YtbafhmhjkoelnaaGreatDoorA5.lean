/- XA5: slices.DeleteFunc at a message's fields. -/
import Derived.Test.YtbafhmhjkoelnaaGreatDoorA4
namespace Go.Proofs.YtbafhmhjkoelnaaGreatDoor
open Go.RowKit

theorem idx_split {α : Type} (p : α → Bool) (L : List α) : (idx p L = -1 ∧ ∀ y ∈ L, p y = false) ∨ ∃ (k : Nat) (x : α), idx p L = k ∧ k < L.length ∧ L[k]? = some x ∧ p x = true ∧ ∀ y ∈ L.take k, p y = false := by
  induction L with
  | nil => exact .inl ⟨rfl, fun y h => by cases h⟩
  | cons y r ih =>
    cases h : p y with
    | true => exact .inr ⟨0, y, by simp [idx, h], by simp, rfl, h, fun z hz => by simp at hz⟩
    | false =>
      rcases ih with ⟨e1, e2⟩ | ⟨k, x, e1, e2, e3, e4, e5⟩
      · refine .inl ⟨by simp [idx, h, e1], fun z hz => ?_⟩
        rcases List.mem_cons.1 hz with rfl | hz
        · exact h
        · exact e2 z hz
      · refine .inr ⟨k + 1, x, ?_, by simpa using e2, by simpa using e3, e4, fun z hz => ?_⟩
        · simp [idx, h, e1]; omega
        · rw [List.take_succ_cons] at hz
          rcases List.mem_cons.1 hz with rfl | hz
          · exact h
          · exact e5 z hz
theorem row_storeF {w : World} {g : Nat} {Z : List Field} {tl : List Value} (h : Row encF 34 w g Z tl) (i : Nat) (hi : i < Z.length) (x : Field) :
    Row encF 34 ((w.setCell ⟨g, i * 2, none⟩ (.int .i64 x.N)).setCell ⟨g, i * 2 + 1, none⟩ (.string x.V)) g (Z.set i x) tl := by
  have := blk_set (blk_set h (i * 2) (.int .i64 x.N)) (i * 2 + 1) (.string x.V)
  unfold Row
  rw [this, ← row_set encF_len Z tl i hi x]
  congr 3
  simp [encF, setAll]
theorem keep_step {p : Field → Bool} {Z xs : List Field} {i j : Nat} {x : Field} (hij : i < j) (hZ : Z.length = xs.length) (hx : xs[j]? = some x)
    (h1 : Z.take i = (xs.take j).filter (fun y => !p y)) (h2 : Z.drop j = xs.drop j) (hp : p x = false) :
    (Z.set i x).take (i + 1) = (xs.take (j + 1)).filter (fun y => !p y) ∧ (Z.set i x).drop (j + 1) = xs.drop (j + 1) := by
  have hj := (List.getElem?_eq_some_iff.1 hx).1
  constructor
  · rw [take_snoc xs j x hx, List.filter_append, ← h1, take_snoc (Z.set i x) i x (by rw [List.getElem?_set_self (by omega)]), List.take_set_of_le (Nat.le_refl _)]
    simp [hp]
  · rw [List.drop_set_of_lt (by omega), ← List.drop_drop, h2, List.drop_drop]
theorem drop_step {p : Field → Bool} {Z xs : List Field} {i j : Nat} {x : Field} (hx : xs[j]? = some x)
    (h1 : Z.take i = (xs.take j).filter (fun y => !p y)) (h2 : Z.drop j = xs.drop j) (hp : p x = true) :
    Z.take i = (xs.take (j + 1)).filter (fun y => !p y) ∧ Z.drop (j + 1) = xs.drop (j + 1) := by
  constructor
  · rw [take_snoc xs j x hx, List.filter_append, ← h1]; simp [hp]
  · rw [← List.drop_drop, h2, List.drop_drop]
theorem own_clear {base c : Nat} {w w0 : World} {g i : Nat} {Z : List Field} {tl : List Value} (hb : base ≤ g) (hi : i ≤ Z.length) (hc : Z.length ≤ c) (hm : c ≤ maxLen) (ht : tl.length = (c - Z.length) * 2) (hR : Row encF 34 w g Z tl) (HB : Below base w0 w) (zs : List Value) (hz : zs.length = (Z.length - i) * 2) :
    ∀ w', w' = w.setRow g (((Z.flatMap encF ++ tl).toArray.toList.take (i * 2)) ++ zs ++ (Z.flatMap encF ++ tl).toArray.toList.drop (i * 2 + (Z.length - i) * 2)).toArray →
    Own encF 2 34 base w' (.slice (some ⟨g, 0, none⟩) i c) (Z.take i) ∧ Below base w0 w' := by
  rintro w' rfl
  have hl := flat_len encF_len Z
  have hlt : (Z.take i).length = i := by rw [List.length_take]; omega
  refine ⟨?_, below_setRow HB hb _⟩
  have hrow : Row encF 34 (w.setRow g (((Z.flatMap encF ++ tl).toArray.toList.take (i * 2)) ++ zs ++ (Z.flatMap encF ++ tl).toArray.toList.drop (i * 2 + (Z.length - i) * 2)).toArray) g (Z.take i) (zs ++ tl) := by
    unfold Row
    rw [setRow_heap w g _ _ _ _ hR, ← flat_take encF_len]
    congr 2
    have e : i * 2 + (Z.length - i) * 2 = Z.length * 2 := by omega
    have e2 : i * 2 ≤ Z.length * 2 := by omega
    simp only
    rw [e, List.take_append_of_le_length (by rw [hl]; exact e2), ← hl, List.drop_left, List.append_assoc]
  have := hrow.own encF_len hb (c := c) (by omega) hm (by rw [List.length_append, hz, ht, hlt]; omega)
  rwa [hlt] at this

set_option maxRecDepth 100000 in
set_option maxHeartbeats 4000000 in
theorem deleteFunc_F (p : Field → Bool) (f : Nat) (lb : Array Value) (base : Nat) (w0 w : World) (v : Value) (xs : List Field) (ef : ∀ args w, (callFunc f args).run Tryz.prog w = .ok (.enter f args) w)
    (hp : ∀ W x, Below base w0 W → base ≤ W.heap.size → Calls Tryz.prog f (#[.agg (encF x).toArray] ++ lb) W fun e w' => e = .returned (.bool (p x)) ∧ Below W.heap.size W w')
    (HO : Own encF 2 34 base w v xs) (HB : Below base w0 w) (hbase : base ≤ w.heap.size) :
    Calls Tryz.prog 15 #[v, .func (.func f) #[] lb] w fun e w' => ∃ v', e = .returned v' ∧ Own encF 2 34 base w' v' (xs.filter fun x => !p x) ∧ Below base w0 w' := by
  obtain ⟨A, c, rfl⟩ := Own.len HO
  have hI := indexFunc_F p f lb _ xs w ef (HO.rd encF_len) (fun W x hb => hp W x (HB.trans (hb.mono hbase)) (Nat.le_trans hbase hb.size))
  rcases idx_split p xs with ⟨e1, e2⟩ | ⟨k, x, e1, e2, e3, e4, e5⟩
  · rw [e1] at hI
    have hf : xs.filter (fun x => !p x) = xs := List.filter_eq_self.2 (fun y hy => by simp [e2 y hy])
    rw [hf]
    have H2 := Lib.hid e2
    clear e1 e2 hf hp
    go_enter Tryz.func15, Tryz.ntmps15
    go_wp2_with (go_at_call 13; refine hI.mono ?_; rintro e w' ⟨rfl, hb'⟩)
    go_ret
    exact ⟨_, rfl, HO.below hb', HB.trans (hb'.mono hbase)⟩
  · rw [e1] at hI
    obtain ⟨-, h | ⟨g, tl, rfl, hg, hnc, hcm, hR, htl⟩⟩ := HO.row encF_len
    · obtain ⟨-, rfl, -⟩ := h; simp at e2
    have H0 : Hid (∀ W, Below w.heap.size w W → Row encF 34 W g xs tl ∧ Below base w0 W) := fun W hb => ⟨hR.below hb, HB.trans (hb.mono hbase)⟩
    have H1 : Hid (xs.take k = (xs.take (k + 1)).filter (fun y => !p y) ∧ xs.drop (k + 1) = xs.drop (k + 1)) := by
      refine ⟨?_, rfl⟩
      rw [take_snoc xs k x e3, List.filter_append, List.filter_eq_self.2 (fun y hy => by simp [e5 y hy])]; simp [e4]
    have hcm' : c ≤ 9223372036854775807 := by simpa [maxLen] using hcm
    have HT := Lib.hid htl
    have HP := Lib.hid hp
    have hkl : k + 1 ≤ xs.length := by omega
    have hk1 : ((k : Int) == -1) = false := by rw [beq_eq_false_iff_ne]; omega
    clear e1 e2 e3 e4 e5 hR htl hp HO HB hcm
    go_enter Tryz.func15, Tryz.ntmps15
    go_wp2_with (go_at_call 13; refine hI.mono ?_; rintro e w1 ⟨rfl, hb1⟩; obtain ⟨R1, B1⟩ := H0.out _ hb1)
    have R1' := Lib.hid R1
    have B1' := Lib.hid B1
    have hs1 : base ≤ w1.heap.size := by have := hb1.size; omega
    clear R1 B1 hI hb1
    go_loopw [5, 6] (fun s5 s6 wr => ∃ (i j : Nat) (Z : List Field), i < j ∧ j ≤ xs.length ∧ s5 = .int .i64 i ∧ s6 = .int .i64 j ∧ Aside (Z.length = xs.length) ∧ Aside (Row encF 34 wr g Z tl) ∧ Aside (Below base w0 wr) ∧ Aside (Z.take i = (xs.take j).filter (fun y => !p y) ∧ Z.drop j = xs.drop j) ∧ base ≤ wr.heap.size) (fun _ s6 _ => xs.length - (intOf s6).toNat)
    case atStart => exact ⟨k, k + 1, xs, by omega, hkl, rfl, by go_num, rfl, R1'.out, B1'.out, ⟨H1.out.1, rfl⟩, hs1⟩
    case round =>
      obtain ⟨i, j, Z, hij, hj, rfl, rfl, HZ, HR, HB, HK, hbs⟩ := hrel
      clear R1' B1' H1 H0 hs1
      by_cases hlt : j < xs.length
      · have hltz : (j : Int) < (xs.length : Int) := by omega
        have hilz : (i : Int) < (xs.length : Int) := by omega
        obtain ⟨y, hy⟩ : ∃ y, xs[j]? = some y := ⟨_, List.getElem?_eq_getElem hlt⟩
        have hyZ : Z[j]? = some y := by
          have := congrArg (fun l => l[0]?) HK.out.2
          simpa [hy] using this
        obtain ⟨u, hu⟩ : ∃ u, Z[i]? = some u := ⟨_, List.getElem?_eq_getElem (by rw [HZ.out]; omega)⟩
        have c0 : wr.cell? ⟨g, j * 2, none⟩ = some (.int .i64 y.N) := HR.out.at encF_len hyZ (i := 0) rfl
        have c1 : wr.cell? ⟨g, j * 2 + 1, none⟩ = some (.string y.V) := HR.out.at encF_len hyZ (i := 1) rfl
        have HY := Lib.hid hy
        have HU := Lib.hid hu
        have hgl := HR.out.lt
        clear hy hyZ hu
        have hcall := HP.out _ y (HB.out.alloc hbs (.cells #[.int .i64 y.N, .string y.V] 34)) (by simp; omega)
        cases hq : p y with
        | true =>
          rw [hq] at hcall
          have HQ := Lib.hid hq
          clear hq
          go_wp2_with (go_at_fn f; refine hcall.mono ?_; rintro e w' ⟨rfl, hb'⟩)
          go_roundw
          case measure => simp [intOf]; omega
          case rel => exact ⟨i, j + 1, Z, by omega, by omega, rfl, by go_num, HZ.out, (HR.out.below (alloc1 _ _)).below hb', (HB.out.alloc hbs _).trans (hb'.mono (by simp; omega)), drop_step HY.out HK.out.1 HK.out.2 HQ.out, by have := hb'.size; simp at this; omega⟩
        | false =>
          rw [hq] at hcall
          have HQ := Lib.hid hq
          clear hq
          go_wp2_with (go_at_fn f; refine hcall.mono ?_; rintro e w' ⟨rfl, hb'⟩; have R2 := (HR.out.below (alloc1 _ (.cells #[.int .i64 y.N, .string y.V] 34))).below hb'; obtain ⟨hz2, hf2, hd0, hd1⟩ := blkf2 ((hb'.block _ (by simp)).trans (heap_alloc_new wr _)); have e0 : w'.cell? ⟨g, i * 2, none⟩ = some (.int .i64 u.N) := R2.at encF_len HU.out (i := 0) rfl; have e1 : w'.cell? ⟨g, i * 2 + 1, none⟩ = some (.string u.V) := R2.at encF_len HU.out (i := 1) rfl; have ef2 := blk_frozen R2; have R2h := Lib.hid R2; clear R2)
          go_roundw
          case measure => simp [intOf]; omega
          case rel => exact ⟨i + 1, j + 1, Z.set i y, by omega, by omega, by go_num, by go_num, by show _ = _; rw [List.length_set]; exact HZ.out, row_storeF R2h.out i (by rw [HZ.out]; omega) y, (((HB.out.alloc hbs _).trans (hb'.mono (by simp; omega))).setCell hg _).setCell hg _, keep_step hij HZ.out HY.out HK.out.1 HK.out.2 HQ.out, by have := hb'.size; simp at this ⊢; omega⟩
      · have hltz : ¬ (j : Int) < (xs.length : Int) := by omega
        obtain rfl : j = xs.length := by omega
        have hic : ¬ c = i := by omega
        have hil : (i : Int) ≤ (xs.length : Int) := by omega
        have hic2 : (i : Int) ≤ (c : Int) := by omega
        have HF : Hid (Z.take i = xs.filter (fun y => !p y)) := by have := HK.out.1; rwa [List.take_length] at this
        have hZl : Z.length ≤ c := by rw [HZ.out]; omega
        obtain ⟨W2, hcl, hO, hB⟩ : ∃ W2, (∀ ty, (Builtin.clear_ #[22] ty #[.slice (some ⟨g, i * 2, none⟩) (xs.length - i) (c - i)]).run Tryz.prog wr = .ok (.tuple #[]) W2) ∧ Own encF 2 34 base W2 (.slice (some ⟨g, 0, none⟩) i c) (xs.filter fun y => !p y) ∧ Below base w0 W2 := by
          rw [← HF.out]
          have h2 := own_clear hg (i := i) (by rw [HZ.out]; omega) hZl (by simpa [maxLen] using hcm') (by rw [HT.out, HZ.out]) HR.out HB.out (Builtin.zeroCells (Value.agg #[.int .i64 0, .string ⟨#[]⟩]).cells (xs.length - i)).toList (by rw [Array.length_toList, size_zeros, HZ.out]; rfl) _ rfl
          refine ⟨_, fun ty => run_clear_k (P := Tryz.prog) wr 22 34 ty (.agg #[.int .i64 0, .string ⟨#[]⟩]) Tryz.underlying22 zeroF g (i * 2) (xs.length - i) (c - i) _ _ HR.out (by omega) (by simp [Value.cells, flat_len encF_len, HZ.out]; omega) (zeros_one _), ?_⟩
          rw [HZ.out] at h2
          exact h2
        have HO2 := Lib.hid hO
        have HB2 := Lib.hid hB
        clear hO hB
        go_wp2_with (refine wp_clear_run rfl _ _ rfl _ rfl (hcl _) ?_)
        go_ret
        exact ⟨_, rfl, HO2.out, HB2.out⟩
end Go.Proofs.YtbafhmhjkoelnaaGreatDoor
