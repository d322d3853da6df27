/- O: lists of fields in order, without two of a number; a map by what it answers. No program in sight but for the map's types. -/
import Derived.Test.YtbafhmhjkoelnaaGreatDoorP
import Derived.Maps.OwnSet
import Derived.Maps.StringElems
namespace Go.Proofs.YtbafhmhjkoelnaaGreatDoor
open Go.RowKit Go.Maps

def cutF (x : Field) : Field := ⟨x.N, cutS 60 x.V⟩
def onceS (O : List Field) (x : Field) : List Field := if O.any (isN x.N) then O else O ++ [x]
def onceL (L : List Field) : List Field := (L.map cutF).foldl onceS []
def lk (O : List Field) (n : Int) : Option ByteArray := (O.find? (isN n)).map (·.V)
def Uq (O : List Field) : Prop := O.Pairwise fun x y => x.N ≠ y.N
def Srt (L : List Field) : Prop := L.Pairwise fun x y => x.N < y.N

theorem onceL_snoc (L : List Field) (x : Field) : onceL (L ++ [x]) = onceS (onceL L) (cutF x) := by
  unfold onceL; rw [List.map_append, List.foldl_append]; rfl
theorem any_isN {O : List Field} {n : Int} : O.any (isN n) = true ↔ ∃ x ∈ O, x.N = n := by simp [isN]
theorem onceS_uq {O : List Field} {x : Field} (h : Uq O) : Uq (onceS O x) := by
  unfold onceS
  split
  · exact h
  · rename_i hn
    refine List.pairwise_append.2 ⟨h, List.pairwise_singleton _ _, fun a ha b hb e => hn ?_⟩
    rw [List.mem_singleton.1 hb] at e
    exact any_isN.2 ⟨a, ha, e⟩
theorem foldl_uq : ∀ (l O : List Field), Uq O → Uq (l.foldl onceS O)
  | [], _, h => h
  | _ :: l, _, h => foldl_uq l _ (onceS_uq h)
theorem onceL_uq (L : List Field) : Uq (onceL L) := foldl_uq _ [] List.Pairwise.nil
theorem onceS_mem {O : List Field} {x y : Field} (h : y ∈ onceS O x) : y ∈ O ∨ y = x := by
  unfold onceS at h
  split at h
  · exact .inl h
  · simpa using h
theorem foldl_mem : ∀ (l O : List Field) (y : Field), y ∈ l.foldl onceS O → y ∈ O ∨ y ∈ l
  | [], _, _, h => .inl h
  | x :: l, O, y, h => by
    rcases foldl_mem l _ y h with h1 | h1
    · rcases onceS_mem h1 with h2 | h2
      · exact .inl h2
      · exact .inr (by simp [h2])
    · exact .inr (by simp [h1])
theorem onceL_mem {L : List Field} {y : Field} (h : y ∈ onceL L) : ∃ x ∈ L, y = cutF x := by
  rcases foldl_mem _ _ y h with h1 | h1
  · cases h1
  · obtain ⟨x, hx, e⟩ := List.mem_map.1 h1; exact ⟨x, hx, e.symm⟩
theorem onceS_len (O : List Field) (x : Field) : (onceS O x).length ≤ O.length + 1 := by unfold onceS; split <;> simp
theorem foldl_len : ∀ (l O : List Field), (l.foldl onceS O).length ≤ O.length + l.length
  | [], _ => Nat.le_refl _
  | x :: l, O => by have := foldl_len l (onceS O x); have := onceS_len O x; simp only [List.foldl_cons, List.length_cons]; omega
theorem onceL_len (L : List Field) : (onceL L).length ≤ L.length := by have := foldl_len (L.map cutF) []; unfold onceL; simpa using this

theorem Uq.eq {O : List Field} (h : Uq O) : ∀ {x y : Field}, x ∈ O → y ∈ O → x.N = y.N → x = y := by
  induction O with
  | nil => intro x y hx; cases hx
  | cons a r ih =>
    intro x y hx hy e
    obtain ⟨h1, h2⟩ := List.pairwise_cons.1 h
    rcases List.mem_cons.1 hx with rfl | hx'
    · rcases List.mem_cons.1 hy with rfl | hy'
      · rfl
      · exact absurd e (h1 _ hy')
    · rcases List.mem_cons.1 hy with rfl | hy'
      · exact absurd e.symm (h1 _ hx')
      · exact ih h2 hx' hy' e
theorem Srt.uq {L : List Field} (h : Srt L) : Uq L := h.imp fun h => by omega
theorem Uq.nodup {L : List Field} (h : Uq L) : L.Nodup := h.imp fun h e => h (by rw [e])
theorem Uq.find {O : List Field} (h : Uq O) {x : Field} (hx : x ∈ O) : O.find? (isN x.N) = some x := by
  cases hf : O.find? (isN x.N) with
  | none => have := List.find?_eq_none.1 hf x hx; simp [isN] at this
  | some y =>
    have h1 := List.find?_some hf
    rw [h.eq (List.mem_of_find?_eq_some hf) hx (by simpa [isN] using h1)]
theorem getF_of {O : List Field} (h : Uq O) {x : Field} (hx : x ∈ O) : getF x.N O = (x.V, true) := by unfold getF; rw [h.find hx]
theorem lk_of {O : List Field} (h : Uq O) {x : Field} (hx : x ∈ O) : lk O x.N = some x.V := by unfold lk; rw [h.find hx]; rfl
theorem lk_isSome (O : List Field) (n : Int) : (lk O n).isSome = O.any (isN n) := by
  unfold lk
  cases hf : O.find? (isN n) with
  | none =>
    have := List.find?_eq_none.1 hf
    symm; simpa using this
  | some y => symm; simpa using ⟨y, List.mem_of_find?_eq_some hf, List.find?_some hf⟩
theorem lk_snoc {O : List Field} {x : Field} (h : O.any (isN x.N) = false) (n : Int) : lk (O ++ [x]) n = if n = x.N then some x.V else lk O n := by
  unfold lk
  rw [List.find?_append]
  by_cases e : n = x.N
  · subst e
    have : O.find? (isN x.N) = none := List.find?_eq_none.2 fun y hy hh => by rw [List.any_eq_false] at h; exact h y hy hh
    rw [this, if_pos rfl]; simp [isN]
  · rw [if_neg e]
    have : isN n x = false := by simp [isN]; omega
    cases O.find? (isN n) <;> simp [this]

theorem mem_take_drop {α : Type} (p : α → Bool) (l : List α) (x : α) : x ∈ l ↔ x ∈ l.takeWhile p ∨ x ∈ l.dropWhile p := by
  rw [← List.mem_append, List.takeWhile_append_dropWhile]
theorem mem_putF {n : Int} {v : ByteArray} {L : List Field} {x : Field} : x ∈ putF n v L ↔ x = ⟨n, v⟩ ∨ (x ∈ L ∧ x.N ≠ n) := by
  unfold putF insD
  have := mem_take_drop (fun x : Field => decide (x.N ≤ n)) (L.filter fun x => !isN n x) x
  rw [List.mem_filter] at this
  simp only [List.mem_append, List.mem_cons]
  have h2 : ((!isN n x) = true) ↔ x.N ≠ n := by simp [isN]
  rw [h2] at this
  constructor
  · rintro (h | h | h)
    · exact .inr (this.2 (.inl h))
    · exact .inl h
    · exact .inr (this.2 (.inr h))
  · rintro (h | h)
    · exact .inr (.inl h)
    · rcases this.1 h with h | h
      · exact .inl h
      · exact .inr (.inr h)
theorem putF_len (n : Int) (v : ByteArray) (L : List Field) : (putF n v L).length ≤ L.length + 1 := by
  unfold putF insD
  have h1 := congrArg List.length (List.takeWhile_append_dropWhile (p := fun x : Field => decide (x.N ≤ n)) (l := L.filter fun x => !isN n x))
  have h2 := List.length_filter_le (fun x => !isN n x) L
  rw [List.length_append] at h1
  simp only [List.length_append, List.length_cons]
  omega
theorem all_drop {n : Int} : ∀ {D : List Field}, Srt D → ∀ y ∈ D.dropWhile (fun x => decide (x.N ≤ n)), n < y.N
  | [], _, y, hy => by cases hy
  | a :: r, h, y, hy => by
    obtain ⟨h1, h2⟩ := List.pairwise_cons.1 h
    rw [List.dropWhile_cons] at hy
    split at hy
    · exact all_drop h2 y hy
    · rename_i ha
      have ha' : n < a.N := by simpa using ha
      rcases List.mem_cons.1 hy with rfl | hy'
      · exact ha'
      · have := h1 y hy'; omega
theorem srt_putF {n : Int} {v : ByteArray} {L : List Field} (h : Srt L) : Srt (putF n v L) := by
  have hD : Srt (L.filter fun x => !isN n x) := h.filter _
  unfold putF insD
  have hne : ∀ x ∈ L.filter (fun x => !isN n x), x.N ≠ n := fun x hx => by have := (List.mem_filter.1 hx).2; simpa [isN] using this
  refine List.pairwise_append.2 ⟨hD.sublist (List.takeWhile_sublist _), List.pairwise_cons.2 ⟨fun y hy => all_drop hD y hy, hD.sublist (List.dropWhile_sublist _)⟩, fun a ha b hb => ?_⟩
  have ha1 : a.N ≤ n := by have := List.all_eq_true.1 List.all_takeWhile a ha; simpa using this
  have ha2 := hne a ((List.takeWhile_sublist _).mem ha)
  rcases List.mem_cons.1 hb with rfl | hb
  · show a.N < n; omega
  · have := all_drop hD b hb; omega
theorem Srt.ext : ∀ {A B : List Field}, Srt A → Srt B → (∀ x, x ∈ A ↔ x ∈ B) → A = B
  | [], [], _, _, _ => rfl
  | [], b :: B, _, _, e => by have := (e b).2 (by simp); cases this
  | a :: A, [], _, _, e => by have := (e a).1 (by simp); cases this
  | a :: A, b :: B, hA, hB, e => by
    obtain ⟨a1, a2⟩ := List.pairwise_cons.1 hA
    obtain ⟨b1, b2⟩ := List.pairwise_cons.1 hB
    have hab : a = b := by
      rcases List.mem_cons.1 ((e a).1 (by simp)) with h | h
      · exact h
      · rcases List.mem_cons.1 ((e b).2 (by simp)) with k | k
        · exact k.symm
        · have := b1 a h; have := a1 b k; omega
    subst hab
    rw [Srt.ext a2 b2 fun x => ⟨fun h => ?_, fun h => ?_⟩]
    · rcases List.mem_cons.1 ((e x).1 (by simp [h])) with k | k
      · subst k; have := a1 x h; omega
      · exact k
    · rcases List.mem_cons.1 ((e x).2 (by simp [h])) with k | k
      · subst k; have := b1 x h; omega
      · exact k
theorem same_len {A B : List Field} (hA : A.Nodup) (hB : B.Nodup) (e : ∀ x, x ∈ A ↔ x ∈ B) : A.length = B.length := ((List.perm_ext_iff_of_nodup hA hB).2 e).length_eq

/-- One put of a field of O into some fields of O. -/
theorem put_of {O L : List Field} (h : Uq O) (hL : ∀ x ∈ L, x ∈ O) {y : Field} (hy : y ∈ O) (x : Field) : x ∈ putF y.N y.V L ↔ x = y ∨ x ∈ L := by
  rw [mem_putF]
  constructor
  · rintro (h1 | h1)
    · exact .inl h1
    · exact .inr h1.1
  · rintro (h1 | h1)
    · exact .inl h1
    · by_cases e : x.N = y.N
      · exact .inl (h.eq (hL x h1) hy e)
      · exact .inr ⟨h1, e⟩
theorem put_put_of {O L : List Field} (h : Uq O) (hL : ∀ x ∈ L, x ∈ O) {y : Field} (hy : y ∈ O) (u : ByteArray) (x : Field) : x ∈ putF y.N y.V (putF y.N u L) ↔ x = y ∨ x ∈ L := by
  rw [mem_putF, mem_putF]
  constructor
  · rintro (h1 | ⟨h1 | h1, h2⟩)
    · exact .inl h1
    · rw [h1] at h2; exact absurd rfl h2
    · exact .inr h1.1
  · rintro (h1 | h1)
    · exact .inl h1
    · by_cases e : x.N = y.N
      · exact .inl (h.eq (hL x h1) hy e)
      · exact .inr ⟨.inr ⟨h1, e⟩, e⟩

/-- The fields that the turned order has met. -/
def Met (O : List Field) (t k : Nat) (x : Field) : Prop := ∃ i, i < k ∧ O[(i + t) % O.length]? = some x
theorem met_sub {O : List Field} {t k : Nat} {x : Field} (h : Met O t k x) : x ∈ O := by obtain ⟨i, _, h⟩ := h; exact List.mem_of_getElem? h
theorem met_succ {O : List Field} {t k : Nat} {y : Field} (hy : O[(k + t) % O.length]? = some y) (x : Field) : Met O t (k + 1) x ↔ x = y ∨ Met O t k x := by
  constructor
  · rintro ⟨i, hi, h⟩
    by_cases e : i = k
    · subst e; rw [hy] at h; exact .inl (Option.some.inj h).symm
    · exact .inr ⟨i, by omega, h⟩
  · rintro (rfl | ⟨i, hi, h⟩)
    · exact ⟨k, by omega, hy⟩
    · exact ⟨i, by omega, h⟩
theorem met_all {O : List Field} {t : Nat} {x : Field} : Met O t O.length x ↔ x ∈ O := by
  refine ⟨met_sub, fun h => ?_⟩
  obtain ⟨j, hj, e⟩ := List.mem_iff_getElem.1 h
  have hn : 0 < O.length := by omega
  have ht := Nat.mod_lt t hn
  refine ⟨(j + (O.length - t % O.length)) % O.length, Nat.mod_lt _ hn, ?_⟩
  have : ((j + (O.length - t % O.length)) % O.length + t) % O.length = j := by
    rw [Nat.mod_add_mod, ← Nat.add_mod_mod]
    rw [show j + (O.length - t % O.length) + t % O.length = j + O.length by omega, Nat.add_mod_right, Nat.mod_eq_of_lt hj]
  rw [this, List.getElem?_eq_getElem hj, e]
theorem take_succ_mem {O : List Field} {k : Nat} {y : Field} (hy : O[k]? = some y) (x : Field) : x ∈ O.take (k + 1) ↔ x = y ∨ x ∈ O.take k := by
  rw [List.take_add_one, hy]; simp [or_comm]

/-! The map. -/
theorem keyL : Keyed Tryz.prog 3 := int_keyed Tryz.underlying3
theorem zeroS (w : World) : (zeroValue 9).run Tryz.prog w = .ok (.string ⟨#[]⟩) w := by kernel_rfl
/-- Block b is a map of at most n entries that answers as g. -/
def MapIs (w : World) (b n : Nat) (g : Int → Option ByteArray) : Prop :=
  ∃ D : DataW Unit, w.ownsMap Tryz.prog 3 (plainElem Tryz.prog 9) b n D ∧ ∀ k : Int, Maps.has D (.int .i64 k) = (g k).isSome ∧ D.atKey (.int .i64 k) (.lit (.string [])) = .lit (.string ((g k).getD ⟨#[]⟩).data.toList)
theorem MapIs.made (w : World) : MapIs (w.alloc (.map #[] 0)) w.heap.size 0 fun _ => none := ⟨_, World.ownsMap_made _ _ _ _, fun _ => ⟨rfl, rfl⟩⟩
theorem MapIs.below {w w' : World} {b n : Nat} {g : Int → Option ByteArray} (h : MapIs w b n g) (hb : Below w.heap.size w w') : MapIs w' b n g := by
  obtain ⟨D, ⟨es, clock, h1, h2⟩, h3⟩ := h
  exact ⟨D, ⟨es, clock, (hb.block b (Array.getElem?_eq_some_iff.1 h1).1).trans h1, h2⟩, h3⟩
theorem MapIs.keep {w w' : World} {b n B : Nat} {g : Int → Option ByteArray} (h : MapIs w b n g) (hb : Below B w w') (hlt : b < B) : MapIs w' b n g := by
  obtain ⟨D, ⟨es, clock, h1, h2⟩, h3⟩ := h
  exact ⟨D, ⟨es, clock, (hb.block b hlt).trans h1, h2⟩, h3⟩
/-- What is owned stays while other blocks are written. -/
theorem Own.keep {α : Type} {enc : α → List Value} {k e base : Nat} {w w' : World} {v : Value} {xs : List α} (h : Own enc k e base w v xs) (hk : ∀ i, base ≤ i → i < w.heap.size → w'.heap[i]? = w.heap[i]?) : Own enc k e base w' v xs := by
  refine ⟨h.1, ?_⟩
  rcases h.2 with hn | ⟨g, cap, cur, rfl, hg, hh, r⟩
  · exact .inl hn
  · exact .inr ⟨g, cap, cur, rfl, hg, (hk g hg (Array.getElem?_eq_some_iff.1 hh).1).trans hh, r⟩
theorem Own.ne_new {α : Type} {enc : α → List Value} {k e base : Nat} {w : World} {v : Value} {xs : List α} (h : Own enc k e base w v xs) {j : Nat} (hj : w.heap.size ≤ j) : some j ≠ v.ownBlock := fun e => by
  have := (World.ownsRow.lt h j e.symm).2
  omega
/-- A box that holds a message is not among the cells that a slice of fields reads. -/
theorem Rd.box {w w' : World} {v : Value} {L : List Field} {B : Nat} {m : ByteArray} {a : Option Addr} {n c ty : Nat} (h : Rd encF 2 w v L) (hB : w.heap[B]? = some (.cells #[.string m, .slice a n c] ty (0, 0)))
    (hk : ∀ i, i ≠ B → i < w.heap.size → w'.heap[i]? = w.heap[i]?) (hs : w.heap.size ≤ w'.heap.size) : Rd encF 2 w' v L := by
  obtain ⟨A, c', e, h1, h2, h3⟩ := h
  refine ⟨A, c', e, h1, h2, ?_⟩
  rcases h3 with h3 | ⟨b, off, rfl, hlt, hc⟩
  · exact .inl h3
  · by_cases h0 : L = []
    · exact .inl h0
    · refine .inr ⟨b, off, rfl, by omega, fun j x hj i u hi => ?_⟩
      have hne : b ≠ B := fun e => by
        subst e
        cases L with
        | nil => exact h0 rfl
        | cons y r =>
          have := hc 0 y rfl 0 _ rfl
          simp only [Nat.zero_mul, Nat.add_zero] at this
          rw [blk_cell hB off] at this
          match off, this with
          | 0, this => simp at this
          | 1, this => simp at this
          | o + 2, this => simp at this
      rw [← hc j x hj i u hi]
      exact World.cell?_of_block (w := w) (a := ⟨b, _, none⟩) (hk b hne hlt)
theorem MapIs.atb {w w' : World} {b n : Nat} {g : Int → Option ByteArray} (h : MapIs w b n g) (e : w'.heap[b]? = w.heap[b]?) : MapIs w' b n g := by
  obtain ⟨D, ⟨es, clock, h1, h2⟩, h3⟩ := h
  exact ⟨D, ⟨es, clock, e.trans h1, h2⟩, h3⟩
theorem step_lists {O LA LB : List Field} {k t : Nat} {x y : Field} {u : ByteArray} (hU : Uq O) (h : Srt LA ∧ (∀ z, z ∈ LA ↔ z ∈ O.take k) ∧ Srt LB ∧ ∀ z, z ∈ LB ↔ Met O t k z) (hx : O[k]? = some x) (hy : O[(k + t) % O.length]? = some y) :
    (Srt (putF x.N x.V (putF x.N u LA)) ∧ (∀ z, z ∈ putF x.N x.V (putF x.N u LA) ↔ z ∈ O.take (k + 1)) ∧ Srt (putF y.N y.V LB) ∧ ∀ z, z ∈ putF y.N y.V LB ↔ Met O t (k + 1) z) ∧ (putF x.N x.V (putF x.N u LA)).length ≤ O.length := by
  obtain ⟨h1, h2, h3, h4⟩ := h
  have e1 : ∀ z, z ∈ putF x.N x.V (putF x.N u LA) ↔ z ∈ O.take (k + 1) := fun z => by
    rw [put_put_of hU (fun w hw => (List.take_sublist _ _).mem ((h2 w).1 hw)) (List.mem_of_getElem? hx), take_succ_mem hx, h2]
  have e2 : Srt (putF x.N x.V (putF x.N u LA)) := srt_putF (srt_putF h1)
  refine ⟨⟨e2, e1, srt_putF h3, fun z => ?_⟩, ?_⟩
  · rw [put_of hU (fun w hw => met_sub ((h4 w).1 hw)) (List.mem_of_getElem? hy), met_succ hy, h4]
  · rw [same_len e2.uq.nodup ((Uq.nodup hU).sublist (List.take_sublist _ _)) e1, List.length_take]; omega
theorem end_lists {O LA LB : List Field} {t : Nat} (hU : Uq O) (h : Srt LA ∧ (∀ z, z ∈ LA ↔ z ∈ O.take O.length) ∧ Srt LB ∧ ∀ z, z ∈ LB ↔ Met O t O.length z) : LA = LB ∧ (∀ z, z ∈ LA ↔ z ∈ O) ∧ LA.length = O.length := by
  obtain ⟨h1, h2, h3, h4⟩ := h
  simp only [List.take_length] at h2
  exact ⟨h1.ext h3 fun z => (h2 z).trans (met_all.symm.trans (h4 z).symm), h2, same_len h1.uq.nodup hU.nodup h2⟩
theorem MapIs.lt {w : World} {b n : Nat} {g : Int → Option ByteArray} (h : MapIs w b n g) : b < w.heap.size := by obtain ⟨D, h1, _⟩ := h; exact h1.lt
theorem MapIs.look {w : World} {b n : Nat} {g : Int → Option ByteArray} (h : MapIs w b n g) (k : Int) (hk : (Lit.int .i64 k).wf = true) :
    (Instr.lookup 32 (.map (some b)) (.int .i64 k) true).run Tryz.prog w = .ok (.tuple #[.string ((g k).getD ⟨#[]⟩), .bool (g k).isSome]) w := by
  obtain ⟨D, h1, h3⟩ := h
  obtain ⟨v, ps, e, hv⟩ := h1.look_ok keyL Tryz.underlying32 (zeroS w) (plainElem_string Tryz.underlying9 (s := ⟨#[]⟩) (by decide)) (Maps.keyOf_int_mk Tryz.underlying3 hk)
  obtain ⟨s, rfl, e2, _⟩ := plainElem_string_inv Tryz.underlying9 hv
  rw [(h3 k).1] at e
  have e3 := (h3 k).2
  have e4 : ((DataW.lit (Lit.string ((g k).getD ⟨#[]⟩).data.toList) : DataW Unit)) = .lit (.string s.data.toList) := e3.symm.trans (Prod.mk.inj e2).1
  have e5 : ((g k).getD ⟨#[]⟩) = s := by
    simp only [DataW.lit.injEq, Lit.string.injEq] at e4
    exact ByteArray.ext (Array.toList_inj.1 e4)
  rw [e5]; exact e
theorem MapIs.look1 {w : World} {b n : Nat} {g : Int → Option ByteArray} (h : MapIs w b n g) (k : Int) (hk : (Lit.int .i64 k).wf = true) :
    (Instr.lookup 32 (.map (some b)) (.int .i64 k) false).run Tryz.prog w = .ok (.string ((g k).getD ⟨#[]⟩)) w := by
  obtain ⟨D, h1, h3⟩ := h
  obtain ⟨v, ps, e, hv⟩ := h1.lookup keyL Tryz.underlying32 (zeroS w) (plainElem_string Tryz.underlying9 (s := ⟨#[]⟩) (by decide)) (Maps.keyOf_int_mk Tryz.underlying3 hk)
  obtain ⟨s, rfl, e2, _⟩ := plainElem_string_inv Tryz.underlying9 hv
  have e3 := (h3 k).2
  have e4 : ((DataW.lit (Lit.string ((g k).getD ⟨#[]⟩).data.toList) : DataW Unit)) = .lit (.string s.data.toList) := e3.symm.trans (Prod.mk.inj e2).1
  have e5 : ((g k).getD ⟨#[]⟩) = s := by
    simp only [DataW.lit.injEq, Lit.string.injEq] at e4
    exact ByteArray.ext (Array.toList_inj.1 e4)
  rw [e5]; exact e
/-- A store, at the operation. -/
theorem wp_store {w : World} {ops : Array Oper} {rest : List Oper} {o : Oper} {a : Act} {Q : Exit → Act → World → Prop} (hg : o.guard = none) (m x v : Operand) (hop : o.op = Op.mapUpdate 32 m x v)
    {b n : Nat} {g : Int → Option ByteArray} (h : MapIs w b n g) (hn : n < 1000) (k : Int) (s : ByteArray) (hm : a.eval m = .map (some b)) (hx : a.eval x = .int .i64 k) (hv : a.eval v = .string s) (hk : (Lit.int .i64 k).wf = true) (hs : s.size ≤ 1000)
    (hK : ∀ w', MapIs w' b (n + 1) (fun j => if j = k then some s else g j) → Below b w w' → w.heap.size ≤ w'.heap.size → (∀ i, i < w.heap.size → i ≠ b → w'.heap[i]? = w.heap[i]?) → wpList Tryz.prog ops Q rest (a.put o.dst undef) w') : wpList Tryz.prog ops Q (o :: rest) a w := by
  obtain ⟨D, h1, h3⟩ := h
  refine wpList_mapUpdate_own (H := Unit) w hg m x v _ hop _ _ keyL Tryz.underlying32 _ b n D hm h1 (by simp only [maxLen]; omega) _ _ _ hx hv (Maps.keyOf_int_mk Tryz.underlying3 hk) _ _ (plainElem_string Tryz.underlying9 (by simp only [maxLen]; omega)) ?_
  intro w' h4 h5
  refine hK w' ⟨_, h4, fun j => ?_⟩ ((Below.refl b w).grown h5 (Nat.le_of_lt h1.lt) (fun k hk => by cases hk; exact Nat.le_refl _)) h5.size (fun i hi hne => h5.block i hi (fun e => hne (by cases e; rfl)))
  by_cases e : j = k
  · subst e
    refine ⟨?_, ?_⟩
    · rw [Maps.has_put_same h1.isMap (by exact trivial)]; simp
    · rw [Maps.atKey_put_same h1.isMap (by exact trivial)]; simp
  · have hne : Lit.int .i64 j ≠ Lit.int .i64 k := fun h => e (by injection h)
    refine ⟨?_, ?_⟩
    · dsimp only; rw [Maps.has_put_other hne, if_neg e]; exact (h3 j).1
    · dsimp only; rw [Maps.atKey_put_other hne, if_neg e]; exact (h3 j).2
/-- A look-up with its word, at the operation. -/
theorem wp_look {w : World} {ops : Array Oper} {rest : List Oper} {o : Oper} {a : Act} {Q : Exit → Act → World → Prop} (hg : o.guard = none) (m x : Operand) (hop : o.op = Op.lookup 32 m x true)
    {b n : Nat} {g : Int → Option ByteArray} (h : MapIs w b n g) (k : Int) (hm : a.eval m = .map (some b)) (hx : a.eval x = .int .i64 k) (hk : (Lit.int .i64 k).wf = true) (s : ByteArray) (is : Bool) (hs : (g k).getD ⟨#[]⟩ = s) (hi : (g k).isSome = is)
    (hK : wpList Tryz.prog ops Q rest (a.put o.dst (.tuple #[.string s, .bool is])) w) : wpList Tryz.prog ops Q (o :: rest) a w := by
  refine wpList_plain hg fun K' hK' => ?_
  have hrun := h.look k hk
  rw [hs, hi] at hrun
  unfold Oper.wp
  simp [execOp, hop, hm, hx, hrun, Result.andThen]
  exact hK' _ _ hK
end Go.Proofs.YtbafhmhjkoelnaaGreatDoor
