/- XP: a field is put into a message: iso.Put and bursarref19.Put come to one list. -/
import Derived.Test.YtbafhmhjkoelnaaGreatDoorA7
namespace Go.Proofs.YtbafhmhjkoelnaaGreatDoor
open Go.RowKit

/-- A field is put in front of the first of a greater number. -/
def insD (n : Int) (v : ByteArray) (D : List Field) : List Field := D.takeWhile (fun x => decide (x.N ≤ n)) ++ ⟨n, v⟩ :: D.dropWhile (fun x => decide (x.N ≤ n))
def putF (n : Int) (v : ByteArray) (L : List Field) : List Field := insD n v (L.filter fun x => !isN n x)
theorem insD_at (n : Int) (v : ByteArray) (D : List Field) (k : Nat) (h1 : ∀ y ∈ D.take k, decide (n < y.N) = false) (h2 : ∀ x, D[k]? = some x → decide (n < x.N) = true) (hk : k ≤ D.length) : insD n v D = D.take k ++ ⟨n, v⟩ :: D.drop k := by
  unfold insD
  induction D generalizing k with
  | nil => simp
  | cons y r ih =>
    cases k with
    | zero =>
      have : n < y.N := by simpa using h2 y rfl
      simp [show ¬ y.N ≤ n by omega]
    | succ k =>
      have hy : y.N ≤ n := by have := h1 y (by simp); simp at this; omega
      have := ih k (fun z hz => h1 z (by rw [List.take_succ_cons]; exact List.mem_cons_of_mem _ hz)) (fun x hx => h2 x (by simpa using hx)) (by simpa using hk)
      simp [hy, this]
theorem insD_snoc (n : Int) (v : ByteArray) (D : List Field) (x : Field) (h : D.any (fun y => decide (n < y.N)) = true) : insD n v (D ++ [x]) = insD n v D ++ [x] := by
  induction D with
  | nil => simp at h
  | cons y r ih =>
    by_cases hy : y.N ≤ n
    · have : r.any (fun y => decide (n < y.N)) = true := by simpa [show ¬ n < y.N by omega] using h
      have e := ih this
      unfold insD at e ⊢
      simp [hy] at e ⊢
      exact e
    · unfold insD; simp [hy]
theorem insD_all (n : Int) (v : ByteArray) (D : List Field) (h : D.any (fun y => decide (n < y.N)) = false) : insD n v D = D ++ [⟨n, v⟩] := by
  rw [insD_at n v D D.length (fun y hy => by rw [List.take_length] at hy; rw [List.any_eq_false] at h; simpa using h y hy) (fun x hx => by simp at hx) (Nat.le_refl _)]
  simp
theorem insD_gt (n : Int) (v : ByteArray) (D : List Field) (x : Field) (h : D.any (fun y => decide (n < y.N)) = false) (hx : n < x.N) : insD n v (D ++ [x]) = D ++ [⟨n, v⟩, x] := by
  rw [insD_at n v (D ++ [x]) D.length (fun y hy => by rw [List.take_left'  rfl] at hy; rw [List.any_eq_false] at h; simpa using h y hy) (fun z hz => by simp at hz; subst hz; simpa using hx) (by simp)]
  simp
/-- What is there behind some fields: the field is put, or not yet. -/
def putTo (n : Int) (v : ByteArray) (L : List Field) : List Field := let D := L.filter fun x => !isN n x; if D.any (fun y => decide (n < y.N)) then insD n v D else D
def putDone (n : Int) (L : List Field) : Bool := (L.filter fun x => !isN n x).any (fun y => decide (n < y.N))
theorem putTo_end (n : Int) (v : ByteArray) (L : List Field) : putF n v L = if putDone n L then putTo n v L else putTo n v L ++ [⟨n, v⟩] := by
  unfold putF putDone putTo
  cases h : (L.filter fun x => !isN n x).any (fun y => decide (n < y.N))
  · simp [h, insD_all n v _ h]
  · simp [h]
theorem putTo_same (n : Int) (v : ByteArray) (L : List Field) (x : Field) (h : x.N = n) : putTo n v (L ++ [x]) = putTo n v L ∧ putDone n (L ++ [x]) = putDone n L := by
  unfold putTo putDone
  simp [List.filter_append, isN, h]
theorem putTo_filter (n : Int) (L : List Field) (x : Field) (h : ¬ x.N = n) : (L ++ [x]).filter (fun x => !isN n x) = L.filter (fun x => !isN n x) ++ [x] := by
  have hb : (x.N == n) = false := by simpa using h
  simp [List.filter_append, isN, hb]
theorem putTo_old (n : Int) (v : ByteArray) (L : List Field) (x : Field) (h : ¬ x.N = n) (hd : putDone n L = true) : putTo n v (L ++ [x]) = putTo n v L ++ [x] ∧ putDone n (L ++ [x]) = true := by
  unfold putTo putDone at *
  rw [putTo_filter n L x h]
  generalize L.filter (fun x => !isN n x) = D at *
  simp only [List.any_append, hd, Bool.true_or, if_true]
  exact ⟨insD_snoc n v _ x hd, trivial⟩
theorem putTo_new (n : Int) (v : ByteArray) (L : List Field) (x : Field) (h : n < x.N) (hd : putDone n L = false) : putTo n v (L ++ [x]) = putTo n v L ++ [⟨n, v⟩] ++ [x] ∧ putDone n (L ++ [x]) = true := by
  unfold putTo putDone at *
  rw [putTo_filter n L x (by omega)]
  generalize L.filter (fun x => !isN n x) = D at *
  simp only [List.any_append, hd, List.any_cons, List.any_nil, Bool.or_false, decide_eq_true h]
  rw [insD_gt n v _ x hd h]
  simp
theorem putTo_low (n : Int) (v : ByteArray) (L : List Field) (x : Field) (h : x.N < n) (hd : putDone n L = false) : putTo n v (L ++ [x]) = putTo n v L ++ [x] ∧ putDone n (L ++ [x]) = false := by
  unfold putTo putDone at *
  rw [putTo_filter n L x (by omega)]
  have hc : decide (n < x.N) = false := by simp; omega
  generalize L.filter (fun x => !isN n x) = D at *
  simp only [List.any_append, hd, List.any_cons, List.any_nil, Bool.or_false, hc]
  simp
theorem putTo_len (n : Int) (v : ByteArray) (L : List Field) : (putTo n v L).length ≤ L.length + 1 := by
  have hf : (L.filter fun x => !isN n x).length ≤ L.length := List.length_filter_le _ _
  unfold putTo
  dsimp only
  split
  · unfold insD
    rw [List.length_append, List.length_cons]
    have := congrArg List.length (List.takeWhile_append_dropWhile (p := fun x : Field => decide (x.N ≤ n)) (l := L.filter fun x => !isN n x))
    rw [List.length_append] at this
    omega
  · omega

set_option maxRecDepth 100000 in
set_option maxHeartbeats 4000000 in
theorem iso_Put (m : ByteArray) (v : Value) (L : List Field) (n : Int) (val : ByteArray) (w : World) (hr : Rd encF 2 w v L) (hl : L.length ≤ 900000) :
    Calls Tryz.prog 8 #[.agg #[.string m, v], .int .i64 n, .string val] w fun e w' => ∃ v', e = .returned (.agg #[.string m, v']) ∧ Rd encF 2 w' v' (putF n val L) ∧ Below w.heap.size w w' := by
  obtain ⟨A, c, rfl, hlc, hmax, hcells⟩ := id hr
  clear hcells hmax
  have HR := Lib.hid hr
  clear hr
  obtain ⟨W0, hW0⟩ : ∃ W0, W0 = ((w.alloc (Obj.cells #[.string m, .slice A L.length c] 24)).alloc (Obj.cells #[.int .i64 n] 3)).alloc (Obj.cells #[.string ⟨#[]⟩, .slice none 0 0] 24) := ⟨_, rfl⟩
  have hb0 : Below w.heap.size w W0 := by rw [hW0]; exact alloc3 _ _ _ _
  have hs0 : Hid (W0.heap.size = w.heap.size + 3) := by show _ = _; rw [hW0]; simp
  obtain ⟨k0, k1, k2⟩ := hW0 ▸ blk3 w (Obj.cells #[.string m, .slice A L.length c] 24) (Obj.cells #[.int .i64 n] 3) (Obj.cells #[.string ⟨#[]⟩, .slice none 0 0] 24)
  have K0 := Lib.hid k0
  have K1 := Lib.hid k1
  have K2 := Lib.hid k2
  have hw3 : w.heap.size + 3 ≤ W0.heap.size := by have := hs0.out; omega
  have HB0 := Lib.hid hb0
  have HC := clone_F _ L W0 (HR.out.below hb0) (by omega)
  have HP : Hid (∀ W (x : Field), Below W0.heap.size W0 W → W0.heap.size ≤ W.heap.size → Calls Tryz.prog 17 (#[.agg (encF x).toArray] ++ #[.pointer (some ⟨w.heap.size + 1, 0, none⟩)]) W fun e w' => e = .returned (.bool (isN n x)) ∧ Below W.heap.size W w') := fun W x hb hs =>
    put1 n (w.heap.size + 1) x W ((hb.cell (p := ⟨w.heap.size + 1, 0, none⟩) (by show w.heap.size + 1 < _; omega)).trans (blk_cell K1.out 0)) (by omega)
  have hD : (L.filter fun x => !isN n x).length ≤ 900000 := Nat.le_trans (List.length_filter_le _ _) hl
  have hpf : Hid (∀ i, (∀ y ∈ (L.filter fun x => !isN n x).take i, decide (n < y.N) = false) → (∀ x, (L.filter fun x => !isN n x)[i]? = some x → decide (n < x.N) = true) → i ≤ (L.filter fun x => !isN n x).length → putF n val L = (L.filter fun x => !isN n x).take i ++ ⟨n, val⟩ :: (L.filter fun x => !isN n x).drop i) := fun i h1 h2 h3 => insD_at n val _ i h1 h2 h3
  have HDel := fun v1 w1 hO1 hB1 hs1 => deleteFunc_F (isN n) 17 #[.pointer (some ⟨w.heap.size + 1, 0, none⟩)] W0.heap.size W0 w1 v1 L enter_put1 HP.out hO1 hB1 hs1
  generalize (L.filter fun x => !isN n x) = D at *
  have HS := idx_split (fun x : Field => decide (n < x.N)) D
  have HI := fun v2 w2 hr hc hB => indexFunc_F (fun x : Field => decide (n < x.N)) 18 #[.pointer (some ⟨w.heap.size + 1, 0, none⟩)] v2 D w2 enter_put2 hr (pred_put2 n (w.heap.size + 1) w2 hc hB)
  have HDel' := Lib.hid HDel
  have HI' := Lib.hid HI
  have HS' := Lib.hid HS
  clear HDel HI HS hb0 k0 k1 k2 hl
  have hend : ∀ (w3 : World) (A2 : Option Addr) (c2 i : Nat), i ≤ D.length → Own encF 2 34 W0.heap.size w3 (.slice A2 D.length c2) D → Below W0.heap.size W0 w3 → W0.heap.size ≤ w3.heap.size → Calls Tryz.prog 19 #[.slice A2 D.length c2, .int .i64 i, .slice (some ⟨w3.heap.size, 0, none⟩) 1 1] (w3.alloc (.cells #[.int .i64 n, .string val] 34)) fun e w' => ∃ v', e = .returned v' ∧ Own encF 2 34 W0.heap.size w' v' (D.take i ++ ⟨n, val⟩ :: D.drop i) ∧ Below W0.heap.size W0 w' := fun w3 A2 c2 i hi hO hB hs =>
    insert_F W0.heap.size W0 _ _ D i w3.heap.size ⟨n, val⟩ hi (hO.alloc _) (hB.alloc hs _) (by simp; omega) (by omega) (heap_alloc_new w3 _) (fun e => by have := (World.ownsRow.lt hO _ e).2; omega)
  have HE := Lib.hid hend
  clear hend
  go_enter Tryz.func8, Tryz.ntmps8
  go_wp2_with fail
  rw [← hW0]
  clear hW0
  refine HC.mono ?_
  rintro e w1 ⟨v1, rfl, hO1, hB1⟩
  go_wp2_with fail
  refine (HDel'.out _ _ hO1 hB1 hB1.size).mono ?_
  rintro e w2 ⟨v2, rfl, hO2, hB2⟩
  obtain ⟨A2, c2, rfl⟩ := Own.len hO2
  go_wp2_with fail
  refine (HI'.out _ w2 (hO2.rd encF_len) ((hB2.cell (p := ⟨w.heap.size + 1, 0, none⟩) (by show w.heap.size + 1 < _; omega)).trans (blk_cell K1.out 0)) (by have := hB2.size; omega)).mono ?_
  rintro e w3 ⟨rfl, hb3⟩
  have hO3 := hO2.below hb3
  have hB3 := hB2.trans (hb3.mono hB2.size)
  have hs3 : W0.heap.size ≤ w3.heap.size := hB3.size
  have q1 : w3.cell? ⟨w.heap.size + 1, 0, none⟩ = some (.int .i64 n) := (hB3.cell (p := ⟨w.heap.size + 1, 0, none⟩) (by show w.heap.size + 1 < _; omega)).trans (blk_cell K1.out 0)
  have hne3 : ¬ w.heap.size + 1 = w3.heap.size := by omega
  clear hO2 hB2 hb3 hO1 hB1 HC
  have fin : ∀ (i : Nat), i ≤ D.length → putF n val L = D.take i ++ ⟨n, val⟩ :: D.drop i → ∀ w4 v4, Own encF 2 34 W0.heap.size w4 v4 (D.take i ++ ⟨n, val⟩ :: D.drop i) → Below W0.heap.size W0 w4 → Rd encF 2 (((w4.setCell ⟨w.heap.size, 1, none⟩ v4).setCell ⟨w.heap.size + 1 + 1, 0, none⟩ (.string m)).setCell ⟨w.heap.size + 1 + 1, 1, none⟩ v4) v4 (putF n val L) ∧ Below w.heap.size w (((w4.setCell ⟨w.heap.size, 1, none⟩ v4).setCell ⟨w.heap.size + 1 + 1, 0, none⟩ (.string m)).setCell ⟨w.heap.size + 1 + 1, 1, none⟩ v4) := fun i hi hp w4 v4 hO hB => by
    rw [hp]
    exact ⟨(((hO.setCell (by show w.heap.size < _; omega) _).setCell (by show w.heap.size + 1 + 1 < _; omega) _).setCell (by show w.heap.size + 1 + 1 < _; omega) _).rd encF_len, (((HB0.out.trans (hB.mono HB0.out.size)).setCell (by show w.heap.size ≤ w.heap.size; omega) _).setCell (by show w.heap.size ≤ w.heap.size + 1 + 1; omega) _).setCell (by show w.heap.size ≤ w.heap.size + 1 + 1; omega) _⟩
  have FIN := Lib.hid fin
  clear fin
  have hfk : ∀ w4, Below W0.heap.size W0 w4 → w4.heap[w.heap.size]? = some (Obj.cells #[.string m, .slice A L.length c] 24) ∧ w4.heap[w.heap.size + 1 + 1]? = some (Obj.cells #[.string ⟨#[]⟩, .slice none 0 0] 24) := fun w4 hB => ⟨(hB.block _ (by omega)).trans K0.out, (hB.block _ (by omega)).trans K2.out⟩
  have HFK := Lib.hid hfk
  clear hfk
  rcases HS'.out with ⟨e1, e2⟩ | ⟨k, x, e1, e2, e3, e4, e5⟩
  · have hp := hpf.out D.length (fun y hy => e2 y (by rwa [List.take_length] at hy)) (fun x hx => by simp at hx) (Nat.le_refl _)
    rw [e1]
    have HPF := Lib.hid hp
    clear e1 e2 hp
    go_wp2_with (go_at_call 19; refine (HE.out w3 A2 c2 D.length (Nat.le_refl _) hO3 hB3 hs3).mono ?_; rintro e w4 ⟨v4, rfl, hO4, hB4⟩; obtain ⟨A4, n4, c4, rfl⟩ := Own.shape hO4; obtain ⟨hz0, hf0, hc0, hc1⟩ := blkf2 (HFK.out w4 hB4).1; obtain ⟨hz2, hf2, hd0, hd1⟩ := blkf2 (HFK.out w4 hB4).2)
    exact bodyPost_ret (v := .agg #[.string m, .slice A4 _ c4]) (by simp [results, Tryz.results8, go_sem, hd0, hd1]) rfl ⟨_, rfl, FIN.out _ (Nat.le_refl _) HPF.out _ _ hO4 hB4⟩
  · have hp := hpf.out k e5 (fun z hz => by rw [e3] at hz; cases hz; exact e4) (by omega)
    rw [e1]
    have HPF := Lib.hid hp
    have hk0 : ¬ ((k : Int) < 0) := by omega
    clear e1 e3 e4 e5 hp
    go_wp2_with (go_at_call 19; refine (HE.out w3 A2 c2 k (by omega) hO3 hB3 hs3).mono ?_; rintro e w4 ⟨v4, rfl, hO4, hB4⟩; obtain ⟨A4, n4, c4, rfl⟩ := Own.shape hO4; obtain ⟨hz0, hf0, hc0, hc1⟩ := blkf2 (HFK.out w4 hB4).1; obtain ⟨hz2, hf2, hd0, hd1⟩ := blkf2 (HFK.out w4 hB4).2)
    exact bodyPost_ret (v := .agg #[.string m, .slice A4 _ c4]) (by simp [results, Tryz.results8, go_sem, hd0, hd1]) rfl ⟨_, rfl, FIN.out _ (by omega) HPF.out _ _ hO4 hB4⟩
end Go.Proofs.YtbafhmhjkoelnaaGreatDoor
