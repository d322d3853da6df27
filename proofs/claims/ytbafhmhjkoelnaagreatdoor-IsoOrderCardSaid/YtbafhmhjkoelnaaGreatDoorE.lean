/-
  Package spec: the table.
-/
import Derived.Test.YtbafhmhjkoelnaaGreatDoorD
namespace Go.Proofs.YtbafhmhjkoelnaaGreatDoor
open Go.RowKit

/-- From one field to another one: kind, how many octets say how long, how long. -/
def rowsT : List (Nat × Nat × Nat × Nat × Nat) := [(2, 2, 1, 2, 19), (3, 3, 1, 0, 6), (4, 6, 1, 0, 12), (7, 7, 1, 0, 10), (8, 10, 1, 0, 8), (11, 12, 1, 0, 6), (13, 18, 1, 0, 4), (19, 24, 1, 0, 3), (25, 26, 1, 0, 2), (27, 27, 1, 0, 1), (28, 31, 2, 0, 9), (32, 33, 1, 2, 11), (34, 34, 2, 2, 28), (35, 35, 3, 2, 37), (36, 36, 3, 3, 104), (37, 37, 2, 0, 12), (38, 38, 2, 0, 6), (39, 39, 2, 0, 2), (40, 40, 2, 0, 3), (41, 41, 3, 0, 8), (42, 42, 3, 0, 15), (43, 43, 3, 0, 40), (44, 44, 3, 2, 25), (45, 45, 3, 2, 76), (46, 48, 3, 3, 999), (49, 51, 2, 0, 3), (52, 52, 4, 0, 8), (53, 53, 1, 0, 16), (54, 54, 2, 3, 120), (55, 63, 3, 3, 999), (64, 64, 4, 0, 8), (66, 66, 1, 0, 1), (67, 67, 1, 0, 2), (68, 70, 1, 0, 3), (71, 72, 1, 0, 4), (73, 73, 1, 0, 6), (74, 81, 1, 0, 10), (82, 85, 1, 0, 12), (86, 89, 1, 0, 16), (90, 90, 1, 0, 42), (91, 91, 2, 0, 1), (92, 92, 2, 0, 2), (93, 93, 2, 0, 5), (94, 94, 2, 0, 7), (95, 95, 2, 0, 42), (96, 96, 4, 0, 8), (97, 97, 2, 0, 17), (98, 98, 3, 0, 25), (99, 100, 1, 2, 11), (101, 101, 3, 2, 17), (102, 103, 3, 2, 28), (104, 104, 3, 3, 100), (105, 127, 3, 3, 999), (128, 128, 4, 0, 8)]
def rowA (r : Nat × Nat × Nat × Nat × Nat) : List UInt8 := Lib.decDigits r.1 ++ [45] ++ Lib.decDigits r.2.1
def rowB (r : Nat × Nat × Nat × Nat × Nat) : List UInt8 := kindNames.getD r.2.2.1 [] ++ List.replicate r.2.2.2.1 46 ++ Lib.decDigits r.2.2.2.2
def rowS (r : Nat × Nat × Nat × Nat × Nat) : Spec := ⟨r.2.2.1, r.2.2.2.1, r.2.2.2.2⟩
def wordsL : List (List UInt8) := rowsT.flatMap fun r => [rowA r, rowB r]
/-- So many from one on are a thing. -/
def setRun (T : List Spec) (lo : Nat) (s : Spec) : Nat → List Spec
  | 0 => T
  | k + 1 => (setRun T lo s k).set (lo + k) s
def setRow (T : List Spec) (r : Nat × Nat × Nat × Nat × Nat) : List Spec := setRun T r.1 (rowS r) (r.2.1 + 1 - r.1)
def tabTo (k : Nat) : List Spec := (rowsT.take k).foldl setRow (List.replicate 129 ⟨0, 0, 0⟩)
def okRow (r : Nat × Nat × Nat × Nat × Nat) : Prop :=
  r.1 ≤ r.2.1 ∧ r.2.1 ≤ 128 ∧ Lib.cut (rowA r) [45] = (Lib.decDigits r.1, Lib.decDigits r.2.1, true) ∧ Lib.atoiAll (Lib.decDigits r.1) = .ok r.1 ∧ Lib.atoiAll (Lib.decDigits r.2.1) = .ok r.2.1 ∧ wordSpec (rowB r) = some (rowS r) ∧ (rowA r).length < 100 ∧ (Lib.decDigits r.1).length < 100 ∧ (Lib.decDigits r.2.1).length < 100
instance (r : Nat × Nat × Nat × Nat × Nat) : Decidable (okRow r) := by unfold okRow; exact inferInstance
theorem rows_ok : ∀ r ∈ rowsT, okRow r := by decide +kernel
theorem rows_len : rowsT.length = 54 := by decide
theorem setRun_len (T : List Spec) (lo : Nat) (s : Spec) (k : Nat) : (setRun T lo s k).length = T.length := by
  induction k with
  | zero => rfl
  | succ k ih => rw [setRun, List.length_set, ih]
theorem tabTo_len (k : Nat) : (tabTo k).length = 129 := by
  unfold tabTo
  generalize rowsT.take k = l
  have : ∀ T : List Spec, T.length = 129 → (l.foldl setRow T).length = 129 := by
    induction l with
    | nil => intro T h; exact h
    | cons r l ih => intro T h; exact ih _ (by rw [setRow, setRun_len, h])
  exact this _ List.length_replicate
theorem tabTo_succ (k : Nat) (r : Nat × Nat × Nat × Nat × Nat) (h : rowsT[k]? = some r) : tabTo (k + 1) = setRow (tabTo k) r := by
  unfold tabTo; rw [take_snoc rowsT k r h, List.foldl_append]; rfl
theorem encS_len (x : Spec) : (encS x).length = 3 := rfl

theorem words_at (k : Nat) (r : Nat × Nat × Nat × Nat × Nat) (h : rowsT[k]? = some r) : wordsL[2 * k]? = some (rowA r) ∧ wordsL[2 * k + 1]? = some (rowB r) := by
  have h0 := flat_at (enc := fun r => [Value.string ⟨(rowA r).toArray⟩, Value.string ⟨(rowB r).toArray⟩]) (k := 2) (fun _ => rfl) rowsT k r h
  unfold wordsL
  have hh : ∀ (l : List (Nat × Nat × Nat × Nat × Nat)) (k : Nat), l[k]? = some r → (l.flatMap fun r => [rowA r, rowB r])[2 * k]? = some (rowA r) ∧ (l.flatMap fun r => [rowA r, rowB r])[2 * k + 1]? = some (rowB r) := by
    intro l
    induction l with
    | nil => intro k h; simp at h
    | cons y l ih =>
      intro k h
      cases k with
      | zero => simp at h; subst h; simp
      | succ k => have := ih k (by simpa using h); rw [List.flatMap_cons, show 2 * (k + 1) = 2 * k + 1 + 1 from by omega]; simpa using this
  exact hh rowsT k h
theorem wordcell (k : Nat) (l : List UInt8) (h : wordsL[k]? = some l) {w : World} {B : Nat} (hb : w.heap[B]? = some (.cells (wordsL.map fun l => Value.string ⟨l.toArray⟩).toArray 9 (0, 0))) : w.cell? ⟨B, k, none⟩ = some (.string ⟨l.toArray⟩) := by
  rw [blk_cell hb, List.getElem?_toArray, List.getElem?_map, h]; rfl
/-- A struct is stored in a row of structs: cell by cell. -/
theorem setS (T : List Spec) (n : Nat) (hn : n < T.length) (x : Spec) : ((((T.flatMap encS).toArray.setIfInBounds (n * 3) (.int .i64 x.kind)).setIfInBounds (n * 3 + 1) (.int .i64 x.var)).setIfInBounds (n * 3 + 2) (.int .i64 x.len)) = ((T.set n x).flatMap encS).toArray := by
  have : ∀ (T : List Spec) (n : Nat), n < T.length → (((T.flatMap encS).set (n * 3) (.int .i64 x.kind)).set (n * 3 + 1) (.int .i64 x.var)).set (n * 3 + 2) (.int .i64 x.len) = (T.set n x).flatMap encS := by
    intro T
    induction T with
    | nil => intro n h; simp at h
    | cons y T ih =>
      intro n h
      cases n with
      | zero => simp [encS]
      | succ n =>
        have := ih n (by simpa using h)
        rw [List.flatMap_cons, show encS y = [.int .i64 y.kind, .int .i64 y.var, .int .i64 y.len] from rfl, show (n + 1) * 3 = n * 3 + 1 + 1 + 1 from by omega]
        simp only [List.cons_append, List.nil_append, List.set_cons_succ, List.flatMap_cons]
        rw [this]; rfl
  rw [← this T n hn]
  simp
theorem flat_some (T : List Spec) (n j : Nat) (hn : n < T.length) (hj : j < 3) : ∃ u, (T.flatMap encS).toArray[n * 3 + j]? = some u := by
  have hx : T[n]? = some T[n] := List.getElem?_eq_getElem hn
  have := flat_at (enc := encS) encS_len T n T[n] hx j ((encS T[n])[j]'(by rw [encS_len]; exact hj)) (List.getElem?_eq_getElem _)
  exact ⟨_, by rw [List.getElem?_toArray]; exact this⟩

set_option maxRecDepth 100000 in
set_option maxHeartbeats 4000000 in
theorem spec_table (w : World) (hG : G w) : Calls Tryz.prog 46 #[] w fun e w' => e = .returned (.agg ((tabTo 54).flatMap encS).toArray) ∧ Below w.heap.size w w' := by
  go_enter Tryz.func46, Tryz.ntmps46
  have hF : ∀ (s : ByteArray) (W : World), s.size < 4294967281 → s.data.toList.all (fun b => b.toNat < 128) = true → Lib.fields s.data.toList = wordsL → G W → Calls Tryz.prog 51 #[.string s] W fun e w' => e = .returned (.slice (some ⟨W.heap.size, 0, none⟩) 108 108) ∧ w' = W.alloc (.cells (wordsL.map fun l => Value.string ⟨l.toArray⟩).toArray 9) := fun s W h1 h2 h3 h4 => by
    have := Tryz.strings_Fields_laid s W h1 (fun j b hb => by simpa using List.all_eq_true.1 h2 b (List.mem_of_getElem? hb)) h4.asc
    rw [h3] at this
    exact this
  go_wp2_with (go_at_call 51; refine (hF _ _ (of_decide_eq_true (by kernel_rfl)) (by kernel_rfl) (by kernel_rfl) (hG.below (((Below.refl _ _).alloc (Nat.le_refl _) _).alloc (by simp) _))).mono ?_; rintro e w' ⟨rfl, hw⟩; rw [hw])
  obtain ⟨w1, hw1⟩ : ∃ w1, w1 = ((w.alloc (Obj.cells Tryz.zeroCells83 83)).alloc (Obj.cells Tryz.zeroCells83 83)).alloc (Obj.cells (wordsL.map fun l => Value.string ⟨l.toArray⟩).toArray 9) := ⟨_, rfl⟩
  rw [← hw1]
  have hB1 : Below w.heap.size w w1 := by rw [hw1]; exact (((Below.refl _ _).alloc (Nat.le_refl _) _).alloc (by simp) _).alloc (by simp; omega) _
  have KR : Hid (w1.heap[w.heap.size]? = some (.cells Tryz.zeroCells83 83 (0, 0))) := by show _ = _; rw [hw1]; exact blk_al (blk2 w _ _).1 _
  have KT : Hid (w1.heap[w.heap.size + 1]? = some (.cells ((tabTo 0).flatMap encS).toArray 83 (0, 0))) := by show _ = _; rw [hw1]; exact blk_al ((blk2 w _ _).2.trans (by kernel_rfl)) _
  have KW : Hid (w1.heap[w.heap.size + 1 + 1]? = some (.cells (wordsL.map fun l => Value.string ⟨l.toArray⟩).toArray 9 (0, 0))) := by show _ = _; rw [hw1]; simpa using heap_alloc_new ((w.alloc (Obj.cells Tryz.zeroCells83 83)).alloc (Obj.cells Tryz.zeroCells83 83)) (Obj.cells (wordsL.map fun l => Value.string ⟨l.toArray⟩).toArray 9)
  have JB1 : Aside (Below w.heap.size w w1) := hB1
  clear hw1 hB1 hF
  have HG := Lib.hid hG
  clear hG
  go_loopw [3] (fun i wr => ∃ k j : Nat, k ≤ 54 ∧ Hid (j = 2 * k) ∧ i = .int .i64 j ∧ Hid (wr.heap[w.heap.size]? = some (.cells Tryz.zeroCells83 83 (0, 0))) ∧ Hid (wr.heap[w.heap.size + 1]? = some (.cells ((tabTo k).flatMap encS).toArray 83 (0, 0))) ∧ Hid (wr.heap[w.heap.size + 1 + 1]? = some (.cells (wordsL.map fun l => Value.string ⟨l.toArray⟩).toArray 9 (0, 0))) ∧ Aside (Below w.heap.size w wr)) (fun i _ => 108 - (intOf i).toNat)
  case atStart => exact ⟨0, 0, by omega, rfl, rfl, KR, KT, KW, JB1⟩
  case round =>
    obtain ⟨k, j, hk, hj, rfl, JR, JT, JW, JB⟩ := hrel
    clear KR KT KW JB1
    have hsz : w.heap.size + 1 + 1 < wr.heap.size := (Array.getElem?_eq_some_iff.1 JW.out).1
    by_cases hlt : k < 54
    · have hz : (j : Int) + 1 < 108 := by have := hj.out; omega
      obtain ⟨r, hr⟩ : ∃ r, rowsT[k]? = some r := ⟨_, List.getElem?_eq_getElem (by rw [rows_len]; exact hlt)⟩
      obtain ⟨o1, o2, o3, o4, o5, o6, o7, o8, o9⟩ := rows_ok r (List.mem_of_getElem? hr)
      have ca := wordcell (2 * k) _ (words_at k r hr).1 JW.out
      have cb := wordcell (2 * k + 1) _ (words_at k r hr).2 JW.out
      rw [← hj.out] at ca cb
      have HR := Lib.hid hr
      have HB := Lib.hid cb
      have hCut : ∀ W, G W → Hid (Calls Tryz.prog 52 #[.string ⟨(rowA r).toArray⟩, .string ⟨#[45]⟩] W fun e w' => e = .returned (.tuple #[.string ⟨(Lib.decDigits r.1).toArray⟩, .string ⟨(Lib.decDigits r.2.1).toArray⟩, .bool true]) ∧ ∃ n, w' = W.drewN n) := fun W hW => by
        obtain ⟨m, hm⟩ := hW.ml
        have := Tryz.strings_Cut ⟨(rowA r).toArray⟩ ⟨#[45]⟩ m W (by rw [size_mk]; omega) hm
        simp only [o3] at this
        exact this
      have hA1 := fun W => Lib.hid (atoi_ok ⟨(Lib.decDigits r.1).toArray⟩ (by rw [size_mk]; omega) r.1 o4 W)
      have hA2 := fun W => Lib.hid (atoi_ok ⟨(Lib.decDigits r.2.1).toArray⟩ (by rw [size_mk]; omega) r.2.1 o5 W)
      have hRd := fun W => Lib.hid (show Calls Tryz.prog 53 #[.string ⟨(rowB r).toArray⟩] W (fun e w' => e = .returned (.agg #[.int .i64 (rowS r).kind, .int .i64 (rowS r).var, .int .i64 (rowS r).len]) ∧ Below W.heap.size W w') from spec_read ⟨(rowB r).toArray⟩ (rowS r) o6 W)
      have HGr : Hid (G wr) := HG.out.below JB.out
      clear hr cb o3 o4 o5 o6 o7 o8 o9
      have tok : True := trivial
      go_wp2_with (first
        | (go_at_call 52; refine (hCut _ HGr.out).out.mono ?_; rintro e w2 ⟨rfl, n2, rfl⟩)
        | (go_at_call 38; have t0 := tok; refine (hA1 _).out.mono ?_; clear tok; rintro e w3 ⟨rfl, hb3⟩; obtain ⟨hc3, hf3⟩ := bcell hb3)
        | (go_at_call 38; refine (hA2 _).out.mono ?_; rintro e w4 ⟨rfl, hb4⟩; obtain ⟨hc4, hf4⟩ := bcell hb4))
      have hb23 : Below wr.heap.size wr w4 := (below_drewN (Below.refl _ wr) n2).trans ((hb3.mono (Nat.le_refl _)).trans (hb4.mono hb3.size))
      have JR2 : Hid (w4.heap[w.heap.size]? = some (.cells Tryz.zeroCells83 83 (0, 0))) := (hb23.block _ (by omega)).trans JR.out
      have JT2 : Hid (w4.heap[w.heap.size + 1]? = some (.cells ((setRun (tabTo k) r.1 (rowS r) 0).flatMap encS).toArray 83 (0, 0))) := (hb23.block _ (by omega)).trans JT.out
      have JW2 : Hid (w4.heap[w.heap.size + 1 + 1]? = some (.cells (wordsL.map fun l => Value.string ⟨l.toArray⟩).toArray 9 (0, 0))) := (hb23.block _ (by omega)).trans JW.out
      have JB2 : Aside (Below w.heap.size w w4) := JB.out.trans (hb23.mono JB.out.size)
      have hkj := hj
      clear hb3 hb4 hc3 hc4 hf3 hf4 hb23 JR JT JW JB ca HB hA1 hA2 hCut HGr hsz
      go_loopw [11] (fun v wq => ∃ q m : Nat, Hid (q = r.1 + m) ∧ q ≤ r.2.1 + 1 ∧ v = .int .i64 q ∧ Hid (wq.heap[w.heap.size]? = some (.cells Tryz.zeroCells83 83 (0, 0))) ∧ Hid (wq.heap[w.heap.size + 1]? = some (.cells ((setRun (tabTo k) r.1 (rowS r) m).flatMap encS).toArray 83 (0, 0))) ∧ Hid (wq.heap[w.heap.size + 1 + 1]? = some (.cells (wordsL.map fun l => Value.string ⟨l.toArray⟩).toArray 9 (0, 0))) ∧ Aside (Below w.heap.size w wq)) (fun v _ => 129 - (intOf v).toNat)
      case atStart => exact ⟨r.1, 0, rfl, by omega, rfl, JR2, JT2, JW2, JB2⟩
      case round =>
        obtain ⟨q, m, hq, hq2, rfl, JR, JT, JW, JB⟩ := hrel
        clear JR2 JT2 JW2 JB2
        have hsz : w.heap.size + 1 + 1 < wr.heap.size := (Array.getElem?_eq_some_iff.1 JW.out).1
        by_cases hle : q ≤ r.2.1
        · have hz1 : (q : Int) ≤ (r.2.1 : Int) := by omega
          have hz2 : (q : Int) < 129 := by omega
          have cb := wordcell (2 * k + 1) _ (words_at k r HR.out).2 JW.out
          rw [← hkj.out] at cb
          go_wp2_with fail
          refine (hRd _).out.mono ?_
          rintro e w5 ⟨rfl, hb5⟩
          have b5 : Below wr.heap.size wr w5 := hb5
          have JR5 := (b5.block _ (by omega)).trans JR.out
          have JT5 := (b5.block _ (by omega)).trans JT.out
          have JW5 := (b5.block _ (by omega)).trans JW.out
          have hqT : q < (setRun (tabTo k) r.1 (rowS r) m).length := by rw [setRun_len, tabTo_len]; omega
          obtain ⟨u0, e0⟩ := flat_some _ q 0 hqT (by omega)
          obtain ⟨u1, e1⟩ := flat_some _ q 1 hqT (by omega)
          obtain ⟨u2, e2⟩ := flat_some _ q 2 hqT (by omega)
          have d0 : w5.cell? ⟨w.heap.size + 1, q * 3, none⟩ = some u0 := (blk_cell JT5 _).trans e0
          have d1 : w5.cell? ⟨w.heap.size + 1, q * 3 + 1, none⟩ = some u1 := (blk_cell JT5 _).trans e1
          have d2 : w5.cell? ⟨w.heap.size + 1, q * 3 + 2, none⟩ = some u2 := (blk_cell JT5 _).trans e2
          have ff := blk_frozen JT5
          have KT5 : Hid (_ = _) := JT5
          have KR5 : Hid (_ = _) := JR5
          have KW5 : Hid (_ = _) := JW5
          have KB5 : Aside (Below w.heap.size w w5) := JB.out.trans (b5.mono JB.out.size)
          clear JT5 JR5 JW5 e0 e1 e2 b5 hb5 cb
          go_wp2
          refine ⟨⟨q + 1, m + 1, by show _ = _; have := hq.out; omega, by omega, by go_num, blk_far (blk_far (blk_far KR5.out (by simp) _) (by simp) _) (by simp) _, ?_, blk_far (blk_far (blk_far KW5.out (by simp) _) (by simp) _) (by simp) _, ((KB5.out.setCell (by simp) _).setCell (by simp) _).setCell (by simp) _⟩, by simp [intOf]; omega⟩
          have := blk_set (blk_set (blk_set KT5.out (q * 3) (.int .i64 (rowS r).kind)) (q * 3 + 1) (.int .i64 (rowS r).var)) (q * 3 + 2) (.int .i64 (rowS r).len)
          rw [setS _ q hqT (rowS r)] at this
          rw [setRun, ← hq.out]
          exact this
        · have hz1 : ¬ (q : Int) ≤ (r.2.1 : Int) := by omega
          go_wp2
          refine ⟨⟨k + 1, j + 2, by omega, by show _ = _; have := hkj.out; omega, by go_num, JR, ?_, JW, JB⟩, by simp [intOf]; omega⟩
          rw [tabTo_succ k r HR.out]
          show Hid (wr.heap[w.heap.size + 1]? = some (.cells ((setRun _ r.1 _ (r.2.1 + 1 - r.1)).flatMap encS).toArray 83 (0, 0)))
          rw [show r.2.1 + 1 - r.1 = m from by have := hq.out; omega]
          exact JT
    · obtain rfl : k = 54 := by omega
      have hz : ¬ ((j : Int) + 1 < 108) := by have := hj.out; omega
      have hjb : (j : Int) ≤ 108 := by have := hj.out; omega
      have hz0 : (((tabTo 54).flatMap encS).toArray).size = 387 := by
        rw [List.size_toArray]
        have : ∀ T : List Spec, (T.flatMap encS).length = 3 * T.length := fun T => by
          induction T with
          | nil => rfl
          | cons y T ih => rw [List.flatMap_cons, List.length_append, ih, encS_len, List.length_cons]; omega
        rw [this, tabTo_len]
      have hone : (((tabTo 54).flatMap encS).toArray).all (·.oneCell') = true := by kernel_rfl
      have hsz0 : Tryz.zeroCells83.size = 387 := by kernel_rfl
      have hin : (Tryz.prog.info? 83).map (·.size) = some 387 := by kernel_rfl
      generalize hcs : ((tabTo 54).flatMap encS).toArray = cs at *
      have JT2 := JT
      have hge : (wr.setRow w.heap.size cs).heap[w.heap.size]? = some (.cells cs 83 (0, 0)) := setRow_heap wr _ _ cs _ _ JR.out
      have HGE := Lib.hid hge
      have HH := Lib.hid (And.intro hz0 (And.intro hone hsz0))
      have HCS := Lib.hid hcs
      clear hge hone hsz0 hin hz0 hcs
      go_wp2_with (first
        | (refine wpList_load_row rfl 83 _ rfl (w.heap.size + 1) rfl 83 cs (0, 0) _ JT2.out Tryz.underlying83 rfl (by rw [HH.out.1]; kernel_rfl) ?_)
        | (refine wp_store_row rfl rfl 83 _ _ rfl w.heap.size rfl cs rfl 83 _ JR.out (by rw [HH.out.1]; kernel_rfl) (by rw [HH.out.1]; kernel_rfl) HH.out.2.1 ?_))
      refine bodyPost_ret (v := .agg cs) (results_cell_row rfl _ _ w.heap.size 83 cs (0, 0) _ rfl HGE.out Tryz.underlying83 rfl (by rw [HH.out.1]; kernel_rfl)) rfl ⟨by rw [HCS.out], below_setRow JB.out (Nat.le_refl _) _⟩
end Go.Proofs.YtbafhmhjkoelnaaGreatDoor
