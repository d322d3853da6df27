/-
  The base of this seat's proofs: what a slice reads as (Rd), a slice of the call's own (Own), one step of append, and small words. No program in sight but for its alias.
-/
import Derived.Test.YtbafhmhjkoelnaaGreatDoorProg
import Derived.WalkKit
import Derived.Handy
import Derived.Below
import Derived.OwnWalk
import Derived.Deep.LoopGhost
import Derived.Outline
import Derived.KernelRfl
import Derived.Lib.Hide
import Derived.Shelf.Abstract
import Derived.Maps.AppendAt
import Derived.Laws.AppendOwn
import Derived.Laws.Tables
import Derived.Laws.Rows
import Derived.Laws.CopyOwn
import Derived.Deep.QuietTactic
import Derived.BigQuiet
import Derived.Deep.DeepCutAuto
import Derived.Deep.CutBlock
import Derived.WalkSpells
import Derived.WalkLawsBesides
namespace Go.Proofs.YtbafhmhjkoelnaaGreatDoor
open Go.RowKit

/-- Whole numbers that an int is. -/
def i64 (n : Int) : Prop := -9223372036854775808 ≤ n ∧ n ≤ 9223372036854775807

/-- What a slice reads as: cells of each element, one behind the other. -/
def Rd {α : Type} (enc : α → List Value) (k : Nat) (w : World) (v : Value) (xs : List α) : Prop :=
  ∃ A c, v = .slice A xs.length c ∧ xs.length ≤ c ∧ c ≤ 9223372036854775807 ∧ (xs = [] ∨ ∃ b off, A = some ⟨b, off, none⟩ ∧ b < w.heap.size ∧
    ∀ (j : Nat) (x : α), xs[j]? = some x → ∀ (i : Nat) (u : Value), (enc x)[i]? = some u → w.cell? ⟨b, off + j * k + i, none⟩ = some u)

theorem Rd.below {α : Type} {enc : α → List Value} {k : Nat} {w w' : World} {v : Value} {xs : List α} (h : Rd enc k w v xs) (hb : Below w.heap.size w w') : Rd enc k w' v xs := by
  obtain ⟨A, c, e, h1, h2, h3⟩ := h
  refine ⟨A, c, e, h1, h2, h3.imp id ?_⟩
  rintro ⟨b, off, e2, hlt, hc⟩
  exact ⟨b, off, e2, Nat.lt_of_lt_of_le hlt hb.size, fun j x hj i u hi => (hb.cell (p := ⟨b, _, none⟩) hlt).trans (hc j x hj i u hi)⟩

theorem Rd.nil {α : Type} (enc : α → List Value) (k : Nat) (w : World) : Rd enc k w (.slice none 0 0) [] := ⟨none, 0, rfl, Nat.le_refl _, by omega, .inl rfl⟩

/-- The address and the cells of element j. -/
theorem Rd.at {α : Type} {enc : α → List Value} {k : Nat} {w w' : World} {A : Option Addr} {n c : Nat} {xs : List α} (h : Rd enc k w (.slice A n c) xs) (hb : Below w.heap.size w w') {j : Nat} (hj : j < xs.length) :
    ∃ b off x, A = some ⟨b, off, none⟩ ∧ b < w.heap.size ∧ xs[j]? = some x ∧ ∀ (i : Nat) (u : Value), (enc x)[i]? = some u → w'.cell? ⟨b, off + j * k + i, none⟩ = some u := by
  obtain ⟨A', c', e, h1, h2, h3⟩ := h
  cases e
  rcases h3 with rfl | ⟨b, off, rfl, hlt, hc⟩
  · simp at hj
  · exact ⟨b, off, xs[j], rfl, hlt, List.getElem?_eq_getElem hj, fun i u hi => (hb.cell (p := ⟨b, _, none⟩) hlt).trans (hc j _ (List.getElem?_eq_getElem hj) i u hi)⟩

/-- s[:m] -/
theorem Rd.take {α : Type} {enc : α → List Value} {k : Nat} {w : World} {A : Option Addr} {n c : Nat} {xs : List α} (h : Rd enc k w (.slice A n c) xs) {m : Nat} (hm : m ≤ xs.length) : Rd enc k w (.slice A m c) (xs.take m) := by
  obtain ⟨A', c', e, h1, h2, h3⟩ := h
  cases e
  refine ⟨A, c, by rw [List.length_take, Nat.min_eq_left hm], by rw [List.length_take]; omega, h2, ?_⟩
  rcases h3 with rfl | ⟨b, off, rfl, hlt, hc⟩
  · simp
  · refine .inr ⟨b, off, rfl, hlt, fun j x hj i u hi => hc j x ?_ i u hi⟩
    rw [List.getElem?_take] at hj
    split at hj
    · exact hj
    · cases hj

theorem below_drewN {B : Nat} {w W : World} (h : Below B w W) (n : Nat) : Below B w (W.drewN n) := ⟨h.os, h.tape, h.output, h.size, h.block⟩
theorem below_undrew {W w5 : World} (h : Below W.drew.heap.size W.drew w5) : Below W.heap.size W w5 := (Below.drew (Below.refl _ W)).trans h
theorem after1 {w w2 : World} {o : Obj} (h : Below (w.alloc o).heap.size (w.alloc o) w2) : Below w.heap.size w w2 := ((Below.refl _ _).alloc (Nat.le_refl _) _).trans (h.mono (by simp))
theorem after2 {w w2 : World} {o o2 : Obj} (h : Below ((w.alloc o).alloc o2).heap.size ((w.alloc o).alloc o2) w2) : Below w.heap.size w w2 := after1 (after1 h)
theorem after3 {w w2 : World} {o o2 o3 : Obj} (h : Below (((w.alloc o).alloc o2).alloc o3).heap.size (((w.alloc o).alloc o2).alloc o3) w2) : Below w.heap.size w w2 := after1 (after2 h)
theorem alloc1 (w : World) (o : Obj) : Below w.heap.size w (w.alloc o) := (Below.refl _ _).alloc (Nat.le_refl _) _
theorem alloc2 (w : World) (o o2 : Obj) : Below w.heap.size w ((w.alloc o).alloc o2) := (alloc1 w o).alloc (by simp) _
theorem alloc3 (w : World) (o o2 o3 : Obj) : Below w.heap.size w (((w.alloc o).alloc o2).alloc o3) := (alloc2 w o o2).alloc (by simp; omega) _
theorem bthen {w w1 w2 : World} (h : Below w.heap.size w w1) (k : Below w1.heap.size w1 w2) : Below w.heap.size w w2 := h.trans (k.mono h.size)
/-- A slice of the call's own: its elements' cells are a row of a block from base on. -/
def Own {α : Type} (enc : α → List Value) (k e base : Nat) (w : World) (v : Value) (xs : List α) : Prop := w.ownsRow base e k v xs.length (xs.flatMap enc)

theorem flat_at {α : Type} {enc : α → List Value} {k : Nat} (hk : ∀ x, (enc x).length = k) (xs : List α) (j : Nat) (x : α) (hj : xs[j]? = some x) (i : Nat) (u : Value) (hi : (enc x)[i]? = some u) : (xs.flatMap enc)[j * k + i]? = some u := by
  induction xs generalizing j with
  | nil => simp at hj
  | cons y r ih =>
    rw [List.flatMap_cons]
    cases j with
    | zero =>
      simp at hj; subst hj
      rw [Nat.zero_mul, Nat.zero_add, List.getElem?_append_left (List.getElem?_eq_some_iff.1 hi).1]; exact hi
    | succ j =>
      rw [List.getElem?_append_right (by rw [hk, Nat.succ_mul]; omega), hk, show (j + 1) * k + i - k = j * k + i from by rw [Nat.succ_mul]; omega]
      exact ih j (by simpa using hj)

theorem Own.nil {α : Type} (enc : α → List Value) (k e base : Nat) (w : World) : Own enc k e base w (.slice none 0 0) [] := ⟨by simp, .inl ⟨rfl, rfl⟩⟩

theorem Own.rd {α : Type} {enc : α → List Value} {k e base : Nat} {w : World} {v : Value} {xs : List α} (h : Own enc k e base w v xs) (hk : ∀ x, (enc x).length = k) : Rd enc k w v xs := by
  rcases h.2 with ⟨rfl, h0⟩ | ⟨g, cap, cur, rfl, hg, hh, h1, h2, h3, h4⟩
  · have : xs = [] := List.length_eq_zero_iff.1 h0
    subst this; exact Rd.nil _ _ _
  · refine ⟨_, cap, rfl, h1, by simp only [maxLen] at h2; omega, .inr ⟨g, 0, rfl, (Array.getElem?_eq_some_iff.1 hh).1, fun j x hj i u hi => ?_⟩⟩
    rw [cell_of_row w g _ cur e (0, 0) hh, Nat.zero_add, ← Array.getElem?_toList]
    have := flat_at hk xs j x hj i u hi
    rw [← h4, List.getElem?_take] at this
    split at this
    · exact this
    · cases this

theorem Own.below {α : Type} {enc : α → List Value} {k e base : Nat} {w w' : World} {v : Value} {xs : List α} (h : Own enc k e base w v xs) (hb : Below w.heap.size w w') : Own enc k e base w' v xs := by
  refine ⟨h.1, ?_⟩
  rcases h.2 with hn | ⟨g, cap, cur, rfl, hg, hh, r⟩
  · exact .inl hn
  · exact .inr ⟨g, cap, cur, rfl, hg, (hb.block g (Array.getElem?_eq_some_iff.1 hh).1).trans hh, r⟩

theorem Own.lower {α : Type} {enc : α → List Value} {k e base base' : Nat} {w : World} {v : Value} {xs : List α} (h : Own enc k e base w v xs) (hb : base' ≤ base) : Own enc k e base' w v xs := by
  refine ⟨h.1, ?_⟩
  rcases h.2 with hn | ⟨g, cap, cur, rfl, hg, r⟩
  · exact .inl hn
  · exact .inr ⟨g, cap, cur, rfl, Nat.le_trans hb hg, r⟩

theorem Own.alloc {α : Type} {enc : α → List Value} {k e base : Nat} {w : World} {v : Value} {xs : List α} (h : Own enc k e base w v xs) (o : Obj) : Own enc k e base (w.alloc o) v xs := World.ownsRow.alloc h o

/-- A store below base. -/
theorem Own.setCell {α : Type} {enc : α → List Value} {k e base : Nat} {w : World} {v : Value} {xs : List α} (h : Own enc k e base w v xs) {a : Addr} (ha : a.block < base) (u : Value) : Own enc k e base (w.setCell a u) v xs := ownsRow_setCell_below h ha u

theorem Own.len {α : Type} {enc : α → List Value} {k e base : Nat} {w : World} {v : Value} {xs : List α} (h : Own enc k e base w v xs) : ∃ A c, v = .slice A xs.length c := by
  rcases h.2 with ⟨rfl, h0⟩ | ⟨g, cap, cur, rfl, _⟩
  · exact ⟨none, 0, by rw [h0]⟩
  · exact ⟨_, _, rfl⟩

theorem Own.shape {α : Type} {enc : α → List Value} {k e base : Nat} {w : World} {v : Value} {xs : List α} (h : Own enc k e base w v xs) : ∃ A n c, v = .slice A n c := by
  obtain ⟨A, c, e⟩ := h.len
  exact ⟨A, _, c, e⟩
theorem Own.base_le {α : Type} {enc : α → List Value} {k e base : Nat} {w : World} {v : Value} {xs : List α} (h : Own enc k e base w v xs) : ∀ b, v.ownBlock = some b → base ≤ b := by
  intro b hb
  rcases h.2 with ⟨rfl, h0⟩ | ⟨g, cap, cur, rfl, hg, _⟩
  · simp [Value.ownBlock] at hb
  · simp [Value.ownBlock] at hb; omega

theorem Own.ne {α : Type} {enc : α → List Value} {k e base : Nat} {w : World} {v : Value} {xs : List α} (h : Own enc k e base w v xs) {j : Nat} (hj : j < base) : some j ≠ v.ownBlock := fun e => by
  have := h.base_le j e.symm
  omega
theorem add_plain (g j : Nat) : (⟨g, 0, none⟩ : Addr).add j = ⟨g, j, none⟩ := by unfold Addr.add; split <;> simp_all

section
variable {P : Program} {ops : Array Oper} {rest : List Oper} {o : Oper} {a : Act} {Q : Exit → Act → World → Prop}
/-- 'xs = append(xs, x)': x lies in a block that was laid just before. -/
theorem wp_append1 {α : Type} (enc : α → List Value) (k : Nat) (hk : ∀ x, (enc x).length = k) (h1 : ∀ x, ∀ u ∈ enc x, u.oneCell' = true) {w0 W : World} (base : Nat) (hgd : o.guard = none) (s x : Operand) (t e : TypeId) (z : Value) (bytes : Nat)
    (ho : o.op = .call { callee := .builtin .append, args := #[s, x], argTypes := #[t, t] })
    (ht : P.underlying t = some (.slice e)) (hinfo : (P.info? e).map (fun i => (i.zero, i.size, i.bytes)) = some (some z, k, bytes)) (hz : z.cells.size = k) (hs0 : 0 < k)
    (v : Value) (xs : List α) (y : α) (hs : a.eval s = v) {B : Nat} (hx : a.eval x = .slice (some ⟨B, 0, none⟩) 1 1) (hB : W.heap.size = B)
    (HO : Own enc k e base W v xs) (HB : Below base w0 W) (hbase : base ≤ W.heap.size) (hl : (xs.length + 1) * bytes ≤ 140737488355328) (hb0 : 0 < bytes)
    (h : ∀ v1 w1, Own enc k e base w1 v1 (xs ++ [y]) → Below base w0 w1 → W.grownBy w1 v.ownBlock → W.heap.size < w1.heap.size → wpList P ops Q rest (a.put o.dst v1) w1) :
    wpList P ops Q (o :: rest) a (W.alloc (.cells (enc y).toArray e)) := by
  subst hB
  obtain ⟨i0, hi, hzz⟩ := Option.map_eq_some_iff.1 hinfo
  simp only [Prod.mk.injEq] at hzz
  obtain ⟨hz0, hz1, hz2⟩ := hzz
  have hlen : xs.length + 1 ≤ 140737488355328 := Nat.le_trans (Nat.le_mul_of_pos_right _ hb0) hl
  refine wpList_append_own_at (W.alloc (.cells (enc y).toArray e)) hgd s x t ho base e i0 z k bytes ht hi hz0 hz1 hz2 hz hs0 v xs.length _ hs (World.ownsRow.alloc HO _) ⟨W.heap.size, 0, none⟩ 1 1 (enc y) hx (by rw [hk]; simp)
    (fun j u hu => by rw [add_plain, cell_of_row _ _ _ (enc y).toArray e (0, 0) (heap_alloc_new W (.cells (enc y).toArray e))]; simpa using hu) (h1 y) (by simp only [maxLen]; omega) hl (by simp; omega) ?_
  intro v1 w1 hown hg _ hat
  refine h v1 w1 (by unfold Own; rw [List.length_append, List.flatMap_append]; simpa using hown) ((HB.alloc hbase _).grown hg (by simp; omega) HO.base_le) (World.grownBy.trans (World.grownBy_alloc W _ _) hg) ?_
  have := hg.size; simp at this; omega
end

/-- A whole variable of cells is read, and stored: what the walk asks. -/
theorem load_row {P : Program} (w : World) (g n : Nat) (t : TypeId) (c : Array Value) (hg : w.heap[g]? = some (.cells c t (0, 0))) (hn : c.size = n) : (loadCellsFrom ⟨g, 0, none⟩ 0 n #[]).run P w = .ok c w := by
  subst hn
  have := run_loadCells_list (P := P) w ⟨g, 0, none⟩ c.toList (fun j v hv => by
    rw [show (⟨g, 0, none⟩ : Addr).add j = ⟨g, j, none⟩ from by unfold Addr.add; split <;> simp_all, cell_of_row _ _ j c t (0, 0) hg]
    simpa using hv)
  simpa [loadCells] using this
theorem store_row {P : Program} (w : World) (g : Nat) (t : TypeId) (old c : Array Value) (hg : w.heap[g]? = some (.cells old t (0, 0))) (hs : old.size = c.size) (h1 : c.all (·.oneCell') = true) : (storeCells ⟨g, 0, none⟩ c.toList 0).run P w = .ok () (w.setRow g c) := by
  have := run_storeCells_from (P := P) g t c.toList 0 old w hg (by simp; omega) (fun v hv => (Array.all_eq_true_iff_forall_mem.1 h1) v (by simpa using hv))
  simpa using this
section
variable {P : Program} {ops : Array Oper} {rest : List Oper} {o : Oper} {a : Act} {Q : Exit → Act → World → Prop}
theorem wp_store_row {w : World} (hgd : o.guard = none) (hd : o.dst = none) (ty : TypeId) (p x : Operand) (ho : o.op = .store ty p x) (g : Nat) (hp : a.eval p = .pointer (some ⟨g, 0, none⟩)) (cs : Array Value) (hx : a.eval x = .agg cs)
    (t : TypeId) (old : Array Value) (hg : w.heap[g]? = some (.cells old t (0, 0))) (hi : (P.info? ty).map (·.size) = some cs.size) (hs : old.size = cs.size) (h1 : cs.all (·.oneCell') = true)
    (h : wpList P ops Q rest a (w.setRow g cs)) : wpList P ops Q (o :: rest) a w := by
  refine wpList_plain hgd fun K hK => ?_
  unfold Oper.wp execOp
  simp only [ho, hp, hx, Instr.storeAt, Instr.sureAddr, Sem.run_bind, Sem.run_pure, Result.andThen_ok, run_storeVar_row w g t ty old cs hg hi hs h1]
  rw [Oper.upon_skip, show a.put o.dst undef = a from by rw [hd]; rfl]
  exact hK _ _ h
end
theorem size_mk (l : List UInt8) : (⟨l.toArray⟩ : ByteArray).size = l.length := by show l.toArray.size = _; simp

/-- The first place of which p holds; -1. -/
def idx {α : Type} (p : α → Bool) : List α → Int
  | [] => -1
  | x :: r => if p x then 0 else if idx p r < 0 then -1 else idx p r + 1
theorem idx_hit {α : Type} (p : α → Bool) (xs : List α) (k : Nat) (x : α) (hx : xs[k]? = some x) (hp : p x = true) (hn : ∀ (j : Nat) (y : α), j < k → xs[j]? = some y → p y = false) : idx p xs = k := by
  induction xs generalizing k with
  | nil => simp at hx
  | cons y r ih =>
    cases k with
    | zero => simp at hx; subst hx; simp [idx, hp]
    | succ k =>
      have h0 := hn 0 y (by omega) rfl
      have := ih k (by simpa using hx) (fun j y hj hy => hn (j+1) y (by omega) (by simpa using hy))
      simp [idx, h0, this]; omega
theorem idx_miss {α : Type} (p : α → Bool) (xs : List α) (hn : ∀ (j : Nat) (y : α), xs[j]? = some y → p y = false) : idx p xs = -1 := by
  induction xs with
  | nil => rfl
  | cons y r ih =>
    have h0 := hn 0 y rfl
    have := ih (fun j y hy => hn (j+1) y (by simpa using hy))
    simp [idx, h0, this]

/-- A predicate that is handed over: it may lay blocks of its own. -/
def Pred {α : Type} (P : Program) (g : Nat) (lb : Array Value) (enc : α → List Value) (p : α → Bool) (w : World) : Prop :=
  ∀ W x, Below w.heap.size w W → Calls P g (#[.agg (enc x).toArray] ++ lb) W fun e w' => e = .returned (.bool (p x)) ∧ Below W.heap.size W w'

theorem blk_cell {w : World} {g : Nat} {t : TypeId} {cs : Array Value} (h : w.heap[g]? = some (.cells cs t (0, 0))) (i : Nat) : w.cell? ⟨g, i, none⟩ = cs[i]? := cell_of_row w g i cs t (0, 0) h
theorem blk_frozen {w : World} {g : Nat} {t : TypeId} {cs : Array Value} (h : w.heap[g]? = some (.cells cs t (0, 0))) (i : Nat) : w.frozen? ⟨g, i, none⟩ = false := by simp [World.frozen?, h]
theorem blk_al {w : World} {g : Nat} {x : Obj} (h : w.heap[g]? = some x) (o : Obj) : (w.alloc o).heap[g]? = some x := (Below.heap_alloc w o g (Array.getElem?_eq_some_iff.1 h).1).trans h
theorem blk_far {w : World} {g : Nat} {x : Obj} (h : w.heap[g]? = some x) {p : Addr} (hp : g ≠ p.block) (u : Value) : (w.setCell p u).heap[g]? = some x := (Below.heap_setCell w p u g hp).trans h
theorem blk_set {w : World} {g : Nat} {t : TypeId} {cs : Array Value} (h : w.heap[g]? = some (.cells cs t (0, 0))) (i : Nat) (u : Value) : (w.setCell ⟨g, i, none⟩ u).heap[g]? = some (.cells (cs.setIfInBounds i u) t (0, 0)) := by simp [World.setCell, Array.getElem?_modify, h]
theorem blkf1 {w : World} {g : Nat} {t : TypeId} {a : Value} (h : w.heap[g]? = some (.cells #[a] t (0, 0))) : g < w.heap.size ∧ (∀ i, w.frozen? ⟨g, i, none⟩ = false) ∧ w.cell? ⟨g, 0, none⟩ = some a := ⟨(Array.getElem?_eq_some_iff.1 h).1, blk_frozen h, blk_cell h 0⟩
theorem blkf2 {w : World} {g : Nat} {t : TypeId} {a0 a1 : Value} (h : w.heap[g]? = some (.cells #[a0, a1] t (0, 0))) : g < w.heap.size ∧ (∀ i, w.frozen? ⟨g, i, none⟩ = false) ∧ w.cell? ⟨g, 0, none⟩ = some a0 ∧ w.cell? ⟨g, 1, none⟩ = some a1 := ⟨(Array.getElem?_eq_some_iff.1 h).1, blk_frozen h, blk_cell h 0, blk_cell h 1⟩
theorem blkf3 {w : World} {g : Nat} {t : TypeId} {a0 a1 a2 : Value} (h : w.heap[g]? = some (.cells #[a0, a1, a2] t (0, 0))) : g < w.heap.size ∧ (∀ i, w.frozen? ⟨g, i, none⟩ = false) ∧ w.cell? ⟨g, 0, none⟩ = some a0 ∧ w.cell? ⟨g, 1, none⟩ = some a1 ∧ w.cell? ⟨g, 2, none⟩ = some a2 := ⟨(Array.getElem?_eq_some_iff.1 h).1, blk_frozen h, blk_cell h 0, blk_cell h 1, blk_cell h 2⟩
theorem blkf4 {w : World} {g : Nat} {t : TypeId} {a0 a1 a2 a3 : Value} (h : w.heap[g]? = some (.cells #[a0, a1, a2, a3] t (0, 0))) : g < w.heap.size ∧ (∀ i, w.frozen? ⟨g, i, none⟩ = false) ∧ w.cell? ⟨g, 0, none⟩ = some a0 ∧ w.cell? ⟨g, 1, none⟩ = some a1 ∧ w.cell? ⟨g, 2, none⟩ = some a2 ∧ w.cell? ⟨g, 3, none⟩ = some a3 := ⟨(Array.getElem?_eq_some_iff.1 h).1, blk_frozen h, blk_cell h 0, blk_cell h 1, blk_cell h 2, blk_cell h 3⟩
theorem blkf5 {w : World} {g : Nat} {t : TypeId} {a0 a1 a2 a3 a4 : Value} (h : w.heap[g]? = some (.cells #[a0, a1, a2, a3, a4] t (0, 0))) : g < w.heap.size ∧ (∀ i, w.frozen? ⟨g, i, none⟩ = false) ∧ w.cell? ⟨g, 0, none⟩ = some a0 ∧ w.cell? ⟨g, 1, none⟩ = some a1 ∧ w.cell? ⟨g, 2, none⟩ = some a2 ∧ w.cell? ⟨g, 3, none⟩ = some a3 ∧ w.cell? ⟨g, 4, none⟩ = some a4 := ⟨(Array.getElem?_eq_some_iff.1 h).1, blk_frozen h, blk_cell h 0, blk_cell h 1, blk_cell h 2, blk_cell h 3, blk_cell h 4⟩
theorem blkf6 {w : World} {g : Nat} {t : TypeId} {a0 a1 a2 a3 a4 a5 : Value} (h : w.heap[g]? = some (.cells #[a0, a1, a2, a3, a4, a5] t (0, 0))) : g < w.heap.size ∧ (∀ i, w.frozen? ⟨g, i, none⟩ = false) ∧ w.cell? ⟨g, 0, none⟩ = some a0 ∧ w.cell? ⟨g, 1, none⟩ = some a1 ∧ w.cell? ⟨g, 2, none⟩ = some a2 ∧ w.cell? ⟨g, 3, none⟩ = some a3 ∧ w.cell? ⟨g, 4, none⟩ = some a4 ∧ w.cell? ⟨g, 5, none⟩ = some a5 := ⟨(Array.getElem?_eq_some_iff.1 h).1, blk_frozen h, blk_cell h 0, blk_cell h 1, blk_cell h 2, blk_cell h 3, blk_cell h 4, blk_cell h 5⟩
theorem blkf7 {w : World} {g : Nat} {t : TypeId} {a0 a1 a2 a3 a4 a5 a6 : Value} (h : w.heap[g]? = some (.cells #[a0, a1, a2, a3, a4, a5, a6] t (0, 0))) : g < w.heap.size ∧ (∀ i, w.frozen? ⟨g, i, none⟩ = false) ∧ w.cell? ⟨g, 0, none⟩ = some a0 ∧ w.cell? ⟨g, 1, none⟩ = some a1 ∧ w.cell? ⟨g, 2, none⟩ = some a2 ∧ w.cell? ⟨g, 3, none⟩ = some a3 ∧ w.cell? ⟨g, 4, none⟩ = some a4 ∧ w.cell? ⟨g, 5, none⟩ = some a5 ∧ w.cell? ⟨g, 6, none⟩ = some a6 := ⟨(Array.getElem?_eq_some_iff.1 h).1, blk_frozen h, blk_cell h 0, blk_cell h 1, blk_cell h 2, blk_cell h 3, blk_cell h 4, blk_cell h 5, blk_cell h 6⟩
theorem blkf8 {w : World} {g : Nat} {t : TypeId} {a0 a1 a2 a3 a4 a5 a6 a7 : Value} (h : w.heap[g]? = some (.cells #[a0, a1, a2, a3, a4, a5, a6, a7] t (0, 0))) : g < w.heap.size ∧ (∀ i, w.frozen? ⟨g, i, none⟩ = false) ∧ w.cell? ⟨g, 0, none⟩ = some a0 ∧ w.cell? ⟨g, 1, none⟩ = some a1 ∧ w.cell? ⟨g, 2, none⟩ = some a2 ∧ w.cell? ⟨g, 3, none⟩ = some a3 ∧ w.cell? ⟨g, 4, none⟩ = some a4 ∧ w.cell? ⟨g, 5, none⟩ = some a5 ∧ w.cell? ⟨g, 6, none⟩ = some a6 ∧ w.cell? ⟨g, 7, none⟩ = some a7 := ⟨(Array.getElem?_eq_some_iff.1 h).1, blk_frozen h, blk_cell h 0, blk_cell h 1, blk_cell h 2, blk_cell h 3, blk_cell h 4, blk_cell h 5, blk_cell h 6, blk_cell h 7⟩
theorem blk2 (w : World) (o1 o2 : Obj) : ((w.alloc o1).alloc o2).heap[w.heap.size]? = some o1 ∧ ((w.alloc o1).alloc o2).heap[w.heap.size + 1]? = some o2 :=
  ⟨(Below.heap_alloc _ o2 _ (by simp)).trans (heap_alloc_new w o1), by simpa using heap_alloc_new (w.alloc o1) o2⟩
theorem blk3 (w : World) (o1 o2 o3 : Obj) : (((w.alloc o1).alloc o2).alloc o3).heap[w.heap.size]? = some o1 ∧ (((w.alloc o1).alloc o2).alloc o3).heap[w.heap.size + 1]? = some o2 ∧ (((w.alloc o1).alloc o2).alloc o3).heap[w.heap.size + 2]? = some o3 :=
  ⟨(Below.heap_alloc _ o3 _ (by simp; omega)).trans (blk2 w o1 o2).1, (Below.heap_alloc _ o3 _ (by simp)).trans (blk2 w o1 o2).2, by simpa using heap_alloc_new ((w.alloc o1).alloc o2) o3⟩
theorem take_snoc {α : Type} (xs : List α) (k : Nat) (x : α) (h : xs[k]? = some x) : xs.take (k + 1) = xs.take k ++ [x] := by
  rw [List.take_add_one, h]; rfl
theorem str_of {t : ByteArray} {l : List UInt8} (h : t.data.toList = l) : t = ⟨l.toArray⟩ := by subst h; cases t; simp
theorem str_eta (t : ByteArray) : (⟨t.data.toList.toArray⟩ : ByteArray) = t := (str_of rfl).symm
theorem ret_str {t : ByteArray} {l : List UInt8} (h : t.data.toList = l) : Ending.returned (.string t) = .returned (.string ⟨l.toArray⟩) := by rw [← str_of h]
theorem app_data (a b : ByteArray) : (a ++ b).data.toList = a.data.toList ++ b.data.toList := by rw [ByteArray.data_append, Array.toList_append]
theorem ret_bool {a b : Bool} (h : a = b) : Ending.returned (.bool a) = .returned (.bool b) := by rw [h]
theorem ret_int {k : IntKind} {a b : Int} (h : a = b) : Ending.returned (.int k a) = .returned (.int k b) := by rw [h]
theorem bcell {W w1 : World} (hb : Below W.heap.size W w1) : (∀ b o, b < W.heap.size → w1.cell? ⟨b, o, none⟩ = W.cell? ⟨b, o, none⟩) ∧ (∀ b o, b < W.heap.size → w1.frozen? ⟨b, o, none⟩ = W.frozen? ⟨b, o, none⟩) :=
  ⟨fun b o h => hb.cell (p := ⟨b, o, none⟩) h, fun b o h => hb.frozen (p := ⟨b, o, none⟩) h⟩
end Go.Proofs.YtbafhmhjkoelnaaGreatDoor
