/- XS: rows of structs in memory of the call's own: copy, clear, append, stores, whatever the element's size in cells. No program in sight. -/
import Derived.Test.YtbafhmhjkoelnaaGreatDoorB
import Derived.Deep.RegionLaw
import Derived.Deep.AppendLies
import Derived.Lib.AppendZeros
import Derived.Lib.Overlaps
import Derived.Laws.Externs
import Derived.Laws.BytesString
namespace Go.Proofs.YtbafhmhjkoelnaaGreatDoor
open Go.RowKit

section
variable {P : Program} {ops : Array Oper} {rest : List Oper} {o : Oper} {a : Act} {Q : Exit → Act → World → Prop} {w : World}
/-- A builtin's run is known. -/
theorem wp_copy_run (hgd : o.guard = none) (d s : Operand) (t t' : TypeId) (ho : o.op = .call { callee := .builtin .copy, args := #[d, s], argTypes := #[t, t'] }) (v u : Value) (hd : a.eval d = v) (hs : a.eval s = u) {v' : Value} {w' : World}
    (hr : (Builtin.copy_ #[t, t'] o.type #[v, u]).run P w = .ok v' w') (h : wpList P ops Q rest (a.put o.dst v') w') : wpList P ops Q (o :: rest) a w :=
  wpList_plain hgd fun K hK => by
    unfold Oper.wp execOp
    simp only [ho, resolve, invoke, builtin, Sem.run_bind, Sem.run_pure, Result.andThen_ok, List.map_toArray, List.map_cons, List.map_nil, hd, hs, hr]
    exact hK _ _ h
theorem wp_append_run (hgd : o.guard = none) (d s : Operand) (t t' : TypeId) (ho : o.op = .call { callee := .builtin .append, args := #[d, s], argTypes := #[t, t'] }) (v u : Value) (hd : a.eval d = v) (hs : a.eval s = u) {v' : Value} {w' : World}
    (hr : (Builtin.append_ #[t, t'] o.type #[v, u]).run P w = .ok v' w') (h : wpList P ops Q rest (a.put o.dst v') w') : wpList P ops Q (o :: rest) a w :=
  wpList_plain hgd fun K hK => by
    unfold Oper.wp execOp
    simp only [ho, resolve, invoke, builtin, Sem.run_bind, Sem.run_pure, Result.andThen_ok, List.map_toArray, List.map_cons, List.map_nil, hd, hs, hr]
    exact hK _ _ h
theorem wp_clear_run (hgd : o.guard = none) (d : Operand) (t : TypeId) (ho : o.op = .call { callee := .builtin .clear, args := #[d], argTypes := #[t] }) (v : Value) (hd : a.eval d = v) {v' : Value} {w' : World}
    (hr : (Builtin.clear_ #[t] o.type #[v]).run P w = .ok v' w') (h : wpList P ops Q rest (a.put o.dst v') w') : wpList P ops Q (o :: rest) a w :=
  wpList_plain hgd fun K hK => by
    unfold Oper.wp execOp
    simp only [ho, resolve, invoke, builtin, Sem.run_bind, Sem.run_pure, Result.andThen_ok, List.map_toArray, List.map_cons, List.map_nil, hd, hr]
    exact hK _ _ h
theorem step_copy_run {K : Act → World → Prop} {E : Prop} (hg : o.guard = none) (d x : Operand) (dT sT : TypeId) (hop : o.op = Op.call { callee := Callee.builtin Builtin.copy, args := #[d, x], argTypes := #[dT, sT] })
    (v u : Value) (hd : a.eval d = v) (hx : a.eval x = u) {v' : Value} {w' : World} (hr : (Builtin.copy_ #[dT, sT] o.type #[v, u]).run P w = .ok v' w') (hK : K (a.put o.dst v') w') :
    if Region.wanted o (yielded ops a.tmps) = true then Oper.wp P o a w K Q else E := by
  have hw : Region.wanted o (yielded ops a.tmps) = true := by simp [Region.wanted, hg]
  rw [if_pos hw]
  unfold Oper.wp execOp
  simp only [hop, resolve, invoke, builtin, Sem.run_bind, Sem.run_pure, Result.andThen_ok, List.map_toArray, List.map_cons, List.map_nil, hd, hx, hr]
  exact hK
theorem step_append_run {K : Act → World → Prop} {E : Prop} (hg : o.guard = none) (d x : Operand) (dT sT : TypeId) (hop : o.op = Op.call { callee := Callee.builtin Builtin.append, args := #[d, x], argTypes := #[dT, sT] })
    (v u : Value) (hd : a.eval d = v) (hx : a.eval x = u) {v' : Value} {w' : World} (hr : (Builtin.append_ #[dT, sT] o.type #[v, u]).run P w = .ok v' w') (hK : K (a.put o.dst v') w') :
    if Region.wanted o (yielded ops a.tmps) = true then Oper.wp P o a w K Q else E := by
  have hw : Region.wanted o (yielded ops a.tmps) = true := by simp [Region.wanted, hg]
  rw [if_pos hw]
  unfold Oper.wp execOp
  simp only [hop, resolve, invoke, builtin, Sem.run_bind, Sem.run_pure, Result.andThen_ok, List.map_toArray, List.map_cons, List.map_nil, hd, hx, hr]
  exact hK
end

section
variable {P : Program} (w : World)
theorem run_copy_k (dT sT ty elem : TypeId) (k g o dLen dCap : Nat) (a : Addr) (sLen sCap : Nat) (cur : Array Value) (t : TypeId) (cs : List Value)
    (hu : P.underlying dT = some (.slice elem)) (hs : (P.info? elem).map (·.size) = some k) (hg : w.heap[g]? = some (.cells cur t (0, 0))) (hn : cs.length = Nat.min sLen dLen * k)
    (hsrc : ∀ j v, cs[j]? = some v → w.cell? (a.add j) = some v) (hfit : o + cs.length ≤ cur.size) (h1 : ∀ v ∈ cs, v.oneCell' = true) :
    (Builtin.copy_ #[dT, sT] ty #[.slice (some ⟨g, o, none⟩) dLen dCap, .slice (some a) sLen sCap]).run P w =
      .ok (goInt (Nat.min sLen dLen)) (w.setRow g (cur.toList.take o ++ cs ++ cur.toList.drop (o + cs.length)).toArray) := by
  have hl := run_loadCells_list (P := P) w a cs hsrc
  have hst := run_storeCells_at P g o t cs 0 cur w hg (by simpa using hfit) h1
  cases hq : P.info? elem with
  | none => simp [hq] at hs
  | some i =>
    have hi : i.size = k := by simpa [hq] using hs
    simp [Builtin.copy_, run_underlying hu, Builtin.lenOf, Builtin.firstCells, sizeOf, typeInfo, hq, hi, ← hn, hl, hst]
theorem size_zeros (z : Array Value) (n : Nat) : (Builtin.zeroCells z n).size = n * z.size := by simp [Builtin.zeroCells]
theorem run_clear_k (t e ty : TypeId) (z : Value) (ht : P.underlying t = some (.slice e)) (hv : ∀ w, (zeroValue e).run P w = .ok z w) (g o n c : Nat) (cur : Array Value) (tt : TypeId)
    (hg : w.heap[g]? = some (.cells cur tt (0, 0))) (hn : 0 < n) (hfit : o + n * z.cells.size ≤ cur.size) (h1 : ∀ v ∈ (Builtin.zeroCells z.cells n).toList, v.oneCell' = true) :
    (Builtin.clear_ #[t] ty #[.slice (some ⟨g, o, none⟩) n c]).run P w = .ok (.tuple #[]) (w.setRow g (cur.toList.take o ++ (Builtin.zeroCells z.cells n).toList ++ cur.toList.drop (o + n * z.cells.size)).toArray) := by
  have hl : (Builtin.zeroCells z.cells n).toList.length = n * z.cells.size := by rw [Array.length_toList, size_zeros]
  have hst := run_storeCells_at P g o tt (Builtin.zeroCells z.cells n).toList 0 cur w hg (by rw [hl]; simpa using hfit) h1
  rw [hl] at hst
  obtain ⟨m, rfl⟩ : ∃ m, n = m + 1 := ⟨n - 1, by omega⟩
  simp [Builtin.clear_, run_underlying ht, hv, hst]
theorem run_clear_0 (t ty e : TypeId) (ht : P.underlying t = some (.slice e)) (a : Option Addr) (c : Nat) :
    (Builtin.clear_ #[t] ty #[.slice a 0 c]).run P w = .ok (.tuple #[]) w := by
  cases a <;> simp [Builtin.clear_, run_underlying ht]
end

/-- A block is a row of elements, and what is behind them. -/
def Row {α : Type} (enc : α → List Value) (e : TypeId) (w : World) (g : Nat) (Z : List α) (tl : List Value) : Prop := w.heap[g]? = some (.cells (Z.flatMap enc ++ tl).toArray e (0, 0))
theorem flat_len {α : Type} {enc : α → List Value} {k : Nat} (hk : ∀ x, (enc x).length = k) (Z : List α) : (Z.flatMap enc).length = Z.length * k := by
  induction Z with
  | nil => simp
  | cons y r ih => rw [List.flatMap_cons, List.length_append, ih, hk, List.length_cons, Nat.succ_mul]; omega
theorem flat_take {α : Type} {enc : α → List Value} {k : Nat} (hk : ∀ x, (enc x).length = k) (Z : List α) (i : Nat) : (Z.flatMap enc).take (i * k) = (Z.take i).flatMap enc := by
  induction Z generalizing i with
  | nil => simp
  | cons y r ih =>
    cases i with
    | zero => simp
    | succ i => rw [List.take_succ_cons, List.flatMap_cons, List.flatMap_cons, ← ih i, Nat.succ_mul, Nat.add_comm, ← hk y, List.take_length_add_append]
theorem flat_drop {α : Type} {enc : α → List Value} {k : Nat} (hk : ∀ x, (enc x).length = k) (Z : List α) (i : Nat) : (Z.flatMap enc).drop (i * k) = (Z.drop i).flatMap enc := by
  induction Z generalizing i with
  | nil => simp
  | cons y r ih =>
    cases i with
    | zero => simp
    | succ i => rw [List.drop_succ_cons, List.flatMap_cons, ← ih i, Nat.succ_mul, Nat.add_comm, ← hk y, List.drop_length_add_append]
theorem flat_one {α : Type} {enc : α → List Value} (h1 : ∀ x, ∀ u ∈ enc x, u.oneCell' = true) (Z : List α) : ∀ u ∈ Z.flatMap enc, u.oneCell' = true := by
  intro u hu
  obtain ⟨x, _, h⟩ := List.mem_flatMap.1 hu
  exact h1 x u h
/-- Cells one behind the other are set. -/
def setAll (L : List Value) (o : Nat) : List Value → List Value
  | [] => L
  | v :: r => setAll (L.set o v) (o + 1) r
theorem setAll_eq (cs : List Value) : ∀ (L : List Value) (o : Nat), o + cs.length ≤ L.length → setAll L o cs = L.take o ++ cs ++ L.drop (o + cs.length) := by
  induction cs with
  | nil => intro L o h; simp [setAll]
  | cons v r ih =>
    intro L o h
    rw [List.length_cons] at h
    have hl : (L.take o).length = o := by rw [List.length_take]; omega
    rw [setAll, ih _ _ (by rw [List.length_set]; omega), List.set_eq_take_append_cons_drop, if_pos (by omega), List.take_append, List.drop_append, hl, show o + 1 - o = 1 by omega, show o + 1 + r.length - o = r.length + 1 by omega,
      List.take_of_length_le (by omega : (L.take o).length ≤ o + 1), List.drop_of_length_le (by omega : (L.take o).length ≤ o + 1 + r.length), List.length_cons, List.drop_succ_cons, List.drop_drop]
    simp [Nat.add_comm, Nat.add_left_comm]
theorem row_set {α : Type} {enc : α → List Value} {k : Nat} (hk : ∀ x, (enc x).length = k) (Z : List α) (tl : List Value) (i : Nat) (hi : i < Z.length) (x : α) : setAll (Z.flatMap enc ++ tl) (i * k) (enc x) = (Z.set i x).flatMap enc ++ tl := by
  have hl := flat_len hk Z
  have h2 : i * k + k ≤ Z.length * k := by rw [← Nat.succ_mul]; exact Nat.mul_le_mul_right _ hi
  rw [setAll_eq _ _ _ (by rw [hk, List.length_append, hl]; omega), hk, List.take_append_of_le_length (by rw [hl]; omega), flat_take hk, List.drop_append_of_le_length (by rw [hl]; omega), ← Nat.succ_mul, flat_drop hk]
  rw [List.set_eq_take_append_cons_drop, if_pos hi]
  simp [List.flatMap_append, List.flatMap_cons]
theorem Own.row {α : Type} {enc : α → List Value} {k e base : Nat} (_hk : ∀ x, (enc x).length = k) {w : World} {A : Option Addr} {n c : Nat} {xs : List α} (h : Own enc k e base w (.slice A n c) xs) :
    n = xs.length ∧ ((A = none ∧ xs = [] ∧ c = 0) ∨ ∃ g tl, A = some ⟨g, 0, none⟩ ∧ base ≤ g ∧ n ≤ c ∧ c ≤ maxLen ∧ Row enc e w g xs tl ∧ tl.length = (c - n) * k) := by
  obtain ⟨h0, h⟩ := h
  rcases h with ⟨e1, e2⟩ | ⟨g, cap, cur, e1, hb, hg, h1, h2, h3, h4⟩
  · cases e1; exact ⟨e2.symm, .inl ⟨rfl, List.length_eq_zero_iff.1 e2, rfl⟩⟩
  · cases e1
    refine ⟨rfl, .inr ⟨g, cur.toList.drop (xs.length * k), rfl, hb, h1, h2, ?_, ?_⟩⟩
    · unfold Row; rw [← h4, List.take_append_drop, Array.toArray_toList]; exact hg
    · rw [List.length_drop, Array.length_toList, h3, Nat.sub_mul]
theorem Row.own {α : Type} {enc : α → List Value} {k e base : Nat} (hk : ∀ x, (enc x).length = k) {w : World} {g c : Nat} {xs : List α} {tl : List Value} (h : Row enc e w g xs tl) (hb : base ≤ g) (hc : xs.length ≤ c) (hm : c ≤ maxLen) (ht : tl.length = (c - xs.length) * k) :
    Own enc k e base w (.slice (some ⟨g, 0, none⟩) xs.length c) xs := by
  have hl := flat_len hk xs
  refine ⟨hl, .inr ⟨g, c, _, rfl, hb, h, hc, hm, ?_, ?_⟩⟩
  · rw [List.size_toArray, List.length_append, hl, ht, ← Nat.add_mul]; congr 1; omega
  · simp [← hl]
theorem Row.at {α : Type} {enc : α → List Value} {k e : Nat} (hk : ∀ x, (enc x).length = k) {w : World} {g : Nat} {Z : List α} {tl : List Value} (h : Row enc e w g Z tl) {j : Nat} {x : α} (hj : Z[j]? = some x) {i : Nat} {u : Value} (hi : (enc x)[i]? = some u) : w.cell? ⟨g, j * k + i, none⟩ = some u := by
  rw [blk_cell h, List.getElem?_toArray, List.getElem?_append_left]
  · exact flat_at hk Z j x hj i u hi
  · exact (List.getElem?_eq_some_iff.1 (flat_at hk Z j x hj i u hi)).1
theorem Row.below {α : Type} {enc : α → List Value} {e : Nat} {w w' : World} {g : Nat} {Z : List α} {tl : List Value} (h : Row enc e w g Z tl) (hb : Below w.heap.size w w') : Row enc e w' g Z tl := (hb.block g (Array.getElem?_eq_some_iff.1 h).1).trans h
theorem Row.lt {α : Type} {enc : α → List Value} {e : Nat} {w : World} {g : Nat} {Z : List α} {tl : List Value} (h : Row enc e w g Z tl) : g < w.heap.size := (Array.getElem?_eq_some_iff.1 h).1
theorem Row.rd {α : Type} {enc : α → List Value} {k e : Nat} (hk : ∀ x, (enc x).length = k) {w : World} {g c : Nat} {Z : List α} {tl : List Value} (h : Row enc e w g Z tl) (hc : Z.length ≤ c) (hm : c ≤ 9223372036854775807) : Rd enc k w (.slice (some ⟨g, 0, none⟩) Z.length c) Z :=
  ⟨_, c, rfl, hc, hm, .inr ⟨g, 0, rfl, h.lt, fun j x hj i u hi => by rw [Nat.zero_add]; exact h.at hk hj hi⟩⟩
theorem flat_inv {α : Type} {enc : α → List Value} {k : Nat} (hk : ∀ x, (enc x).length = k) (xs : List α) (j : Nat) (u : Value) (h : (xs.flatMap enc)[j]? = some u) : ∃ q x i, xs[q]? = some x ∧ (enc x)[i]? = some u ∧ j = q * k + i := by
  induction xs generalizing j with
  | nil => simp at h
  | cons y r ih =>
    rw [List.flatMap_cons] at h
    by_cases hj : j < k
    · rw [List.getElem?_append_left (by rw [hk]; exact hj)] at h
      exact ⟨0, y, j, rfl, h, by omega⟩
    · rw [List.getElem?_append_right (by rw [hk]; omega), hk] at h
      obtain ⟨q, x, i, h1, h2, h3⟩ := ih _ h
      exact ⟨q + 1, x, i, by simpa using h1, h2, by rw [Nat.succ_mul]; omega⟩
theorem Rd.flat {α : Type} {enc : α → List Value} {k : Nat} (hk : ∀ x, (enc x).length = k) {w : World} {ad : Addr} {n c : Nat} {xs : List α} (h : Rd enc k w (.slice (some ad) n c) xs) : n = xs.length ∧ ∀ j u, (xs.flatMap enc)[j]? = some u → w.cell? (ad.add j) = some u := by
  obtain ⟨A, c', e, h1, h2, h3⟩ := h
  cases e
  refine ⟨rfl, fun j u hj => ?_⟩
  obtain ⟨q, x, i, e1, e2, e3⟩ := flat_inv hk xs j u hj
  rcases h3 with rfl | ⟨b, off, e4, hlt, hc⟩
  · simp at e1
  · cases e4
    rw [Addr.add_lit, e3, ← Nat.add_assoc]
    exact hc q x e1 i u e2
section
variable {P : Program} {ops : Array Oper} {rest : List Oper} {o : Oper} {a : Act} {Q : Exit → Act → World → Prop}
/-- 'append(xs, ys...)' onto a slice of the call's own. -/
theorem wp_appendRd {α : Type} (enc : α → List Value) (k : Nat) (hk : ∀ x, (enc x).length = k) (h1 : ∀ x, ∀ u ∈ enc x, u.oneCell' = true) {w0 W : World} (base : Nat) (hgd : o.guard = none) (s x : Operand) (t e : TypeId) (z : Value) (bytes : Nat)
    (ho : o.op = .call { callee := .builtin .append, args := #[s, x], argTypes := #[t, t] })
    (ht : P.underlying t = some (.slice e)) (hinfo : (P.info? e).map (fun i => (i.zero, i.size, i.bytes)) = some (some z, k, bytes)) (hz : z.cells.size = k) (hs0 : 0 < k)
    (v : Value) (xs ys : List α) (hs : a.eval s = v) (ad : Addr) (n c : Nat) (hx : a.eval x = .slice (some ad) n c) (HR : Rd enc k W (.slice (some ad) n c) ys)
    (HO : Own enc k e base W v xs) (HB : Below base w0 W) (hbase : base ≤ W.heap.size) (hl : (xs.length + ys.length) * bytes ≤ 140737488355328) (hb0 : 0 < bytes)
    (h : ∀ v1 w1, Own enc k e base w1 v1 (xs ++ ys) → Below base w0 w1 → W.grownBy w1 v.ownBlock → wpList P ops Q rest (a.put o.dst v1) w1) :
    wpList P ops Q (o :: rest) a W := by
  obtain ⟨i0, hi, hzz⟩ := Option.map_eq_some_iff.1 hinfo
  simp only [Prod.mk.injEq] at hzz
  obtain ⟨hz0, hz1, hz2⟩ := hzz
  obtain ⟨rfl, hcells⟩ := HR.flat hk
  have hlen : xs.length + ys.length ≤ 140737488355328 := Nat.le_trans (Nat.le_mul_of_pos_right _ hb0) hl
  refine wpList_append_own_at W hgd s x t ho base e i0 z k bytes ht hi hz0 hz1 hz2 hz hs0 v xs.length _ hs HO ad ys.length c (ys.flatMap enc) hx (flat_len hk ys) hcells (flat_one h1 ys) (by simp only [maxLen]; omega) hl hbase ?_
  intro v1 w1 hown hg _ hat
  exact h v1 w1 (by unfold Own; rw [List.length_append, List.flatMap_append]; exact hown) (HB.grown hg hbase HO.base_le) hg
end
/-- A copy into a row of the call's own, behind what stays. -/
theorem copy_row {P : Program} (w : World) (dT sT elem : TypeId) (k g dLen dCap : Nat) (ad : Addr) (sLen sCap : Nat) (pre Z : List Value) (e : TypeId) (cs : List Value) (hu : P.underlying dT = some (.slice elem)) (hs : (P.info? elem).map (·.size) = some k)
    (hg : w.heap[g]? = some (.cells (pre ++ Z).toArray e (0, 0))) (o : Nat) (ho : o = pre.length) (hn : cs.length = Nat.min sLen dLen * k)
    (hsrc : ∀ j v, cs[j]? = some v → w.cell? (ad.add j) = some v) (hfit : cs.length ≤ Z.length) (h1 : ∀ v ∈ cs, v.oneCell' = true) {base : Nat} {w0 : World} (hb : Below base w0 w) (hbg : base ≤ g) :
    ∃ w', (∀ ty, (Builtin.copy_ #[dT, sT] ty #[.slice (some ⟨g, o, none⟩) dLen dCap, .slice (some ad) sLen sCap]).run P w = .ok (goInt (Nat.min sLen dLen)) w') ∧
      w'.heap[g]? = some (.cells (pre ++ cs ++ Z.drop cs.length).toArray e (0, 0)) ∧ Below base w0 w' ∧ (∀ j, j ≠ g → w'.heap[j]? = w.heap[j]?) ∧ w'.heap.size = w.heap.size := by
  subst ho
  refine ⟨_, fun ty => run_copy_k (P := P) w dT sT ty elem k g pre.length dLen dCap ad sLen sCap _ e cs hu hs hg hn hsrc (by simp; omega) h1, ?_, below_setRow hb hbg _, fun j hj => setRow_other w g j _ hj, by simp [World.setRow]⟩
  rw [setRow_heap w g _ _ _ _ hg]
  simp [List.drop_append]
section
variable {P : Program} {ops : Array Oper} {rest : List Oper} {o : Oper} {a : Act} {Q : Exit → Act → World → Prop}
/-- 'append(xs, x)' as one step of a region that draws its order; x lies in a block that was laid. -/
theorem step_append1 {α : Type} (enc : α → List Value) (k : Nat) (hk : ∀ x, (enc x).length = k) (h1 : ∀ x, ∀ u ∈ enc x, u.oneCell' = true) {w0 W : World} (base : Nat) {K : Act → World → Prop} {E : Prop} (hgd : o.guard = none) (s x : Operand) (t e : TypeId) (z : Value) (bytes : Nat)
    (ho : o.op = .call { callee := .builtin .append, args := #[s, x], argTypes := #[t, t] })
    (ht : P.underlying t = some (.slice e)) (hinfo : (P.info? e).map (fun i => (i.zero, i.size, i.bytes)) = some (some z, k, bytes)) (hz : z.cells.size = k) (hs0 : 0 < k)
    (v : Value) (xs : List α) (y : α) (hs : a.eval s = v) {B : Nat} (hx : a.eval x = .slice (some ⟨B, 0, none⟩) 1 1) (hR : Row enc e W B [y] [])
    (HO : Own enc k e base W v xs) (HB : Below base w0 W) (hbase : base ≤ W.heap.size) (hl : (xs.length + 1) * bytes ≤ 140737488355328) (hb0 : 0 < bytes)
    (h : ∀ v1 w1, Own enc k e base w1 v1 (xs ++ [y]) → Below base w0 w1 → W.grownBy w1 v.ownBlock → K (a.put o.dst v1) w1) :
    if Region.wanted o (yielded ops a.tmps) = true then Oper.wp P o a W K Q else E := by
  have hw : Region.wanted o (yielded ops a.tmps) = true := by simp [Region.wanted, hgd]
  rw [if_pos hw]
  obtain ⟨i0, hi, hzz⟩ := Option.map_eq_some_iff.1 hinfo
  simp only [Prod.mk.injEq] at hzz
  obtain ⟨hz0, hz1, hz2⟩ := hzz
  have hlen : xs.length + 1 ≤ 140737488355328 := Nat.le_trans (Nat.le_mul_of_pos_right _ hb0) hl
  obtain ⟨v1, w1, hr, hown, hg, -, -⟩ := run_append_own_at (P := P) W base t o.type e i0 z k bytes ht hi hz0 hz1 hz2 hz hs0 v xs.length _ HO ⟨B, 0, none⟩ 1 1 (enc y) (by rw [hk]; simp)
    (fun j u hu => by rw [add_plain]; have := hR.at hk (j := 0) (x := y) rfl hu; simpa using this) (h1 y) (by simp only [maxLen]; omega) hl hbase
  unfold Oper.wp execOp
  simp only [ho, resolve, invoke, builtin, Sem.run_bind, Sem.run_pure, Result.andThen_ok, List.map_toArray, List.map_cons, List.map_nil, hs, hx, hr]
  exact h v1 w1 (by unfold Own; rw [List.length_append, List.flatMap_append]; simpa using hown) (HB.grown hg hbase HO.base_le) hg
end
theorem fold_push (ns : List Int) (s : ByteArray) : ns.foldl (fun r n => r.push (UInt8.ofNat n.toNat)) s = ⟨s.data ++ (ns.map fun n => UInt8.ofNat n.toNat).toArray⟩ := by
  induction ns generalizing s with
  | nil => simp
  | cons n r ih => rw [List.foldl_cons, ih]; show ByteArray.mk _ = _; simp [ByteArray.push]
/-- string(b), b bytes in memory. -/
theorem run_bytes_int {P : Program} (w : World) (src dst e : TypeId) (hs : P.underlying src = some (.slice e)) (he : P.underlying e = some (.int .u8)) (hd : P.underlying dst = some .string) (a : Addr) (l c : Nat) (ns : List Int) (hl : l = ns.length) (h : ∀ (j : Nat) (b : Int), ns[j]? = some b → w.cell? (a.add j) = some (.int .u8 b)) :
    (convert src dst (.slice (some a) l c)).run P w = .ok (.string ⟨(ns.map fun n => UInt8.ofNat n.toNat).toArray⟩) w := by
  subst hl
  have hld := run_loadCells_list (P := P) w a (ns.map (Value.int .u8)) (fun j v hv => by
    rw [List.getElem?_map] at hv
    cases hb : ns[j]? with
    | none => rw [hb] at hv; cases hv
    | some b => rw [hb] at hv; cases hv; exact h j b hb)
  rw [List.length_map] at hld
  rw [run_convert_bytes_string w src dst e _ _ _ hs he hd, run_bytesToString w a ns.length c ns hld, fold_push]
  congr 3
  simp
theorem Own.row' {α : Type} {enc : α → List Value} {k e base : Nat} (hk : ∀ x, (enc x).length = k) {w : World} {v : Value} {xs : List α} (h : Own enc k e base w v xs) (hne : 0 < xs.length) :
    ∃ g c tl, v = .slice (some ⟨g, 0, none⟩) xs.length c ∧ base ≤ g ∧ xs.length ≤ c ∧ c ≤ 9223372036854775807 ∧ Row enc e w g xs tl := by
  obtain ⟨A, c, rfl⟩ := h.len
  obtain ⟨-, h | ⟨g, tl, rfl, hg, hnc, hcm, hR, htl⟩⟩ := h.row hk
  · obtain ⟨-, rfl, -⟩ := h; simp at hne
  · exact ⟨g, c, tl, rfl, hg, hnc, by simpa [maxLen] using hcm, hR⟩
end Go.Proofs.YtbafhmhjkoelnaaGreatDoor
