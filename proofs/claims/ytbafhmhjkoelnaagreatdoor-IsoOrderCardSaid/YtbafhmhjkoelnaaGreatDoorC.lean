/-
  What is known of the library's variables (G), and two of package strings' functions: TrimRight at an ASCII set.
-/
import Derived.Test.YtbafhmhjkoelnaaGreatDoorB
import Derived.Test.YtbafhmhjkoelnaaGreatDoorShelf
namespace Go.Proofs.YtbafhmhjkoelnaaGreatDoor
open Go.RowKit

/-- The library's variables that are read: as their initialisers lay them; what is read of errors is any value. -/
structure G (w : World) : Prop where
  ml : ∃ m, w.cell? ⟨5, 0, none⟩ = some (.int .i64 m)
  es : ∃ v, w.cell? ⟨1, 0, none⟩ = some v ∧ (v = .nilIface ∨ ∃ te pe, v = .iface te pe)
  er : ∃ v, w.cell? ⟨2, 0, none⟩ = some v ∧ (v = .nilIface ∨ ∃ te pe, v = .iface te pe)
  pow : Lib.TabIs Tryz.prog w "internal/strconv.uint64pow10" .u64 Lib.pow10Tab
  asc : Lib.TabIs Tryz.prog w "strings.asciiSpace" .u8 Lib.asciiSpaceTab

theorem cell_below {w w' : World} {p : Addr} {v : Value} (h : w.cell? p = some v) (hb : Below w.heap.size w w') : w'.cell? p = some v :=
  (hb.cell (World.block_lt_of_cell? w p h)).trans h
theorem tab_below {n : String} {g : Nat} {k : IntKind} {zs : List Int} {w w' : World} (hg : Tryz.prog.globalNamed n = some g) (h : Lib.TabIs Tryz.prog w n k zs) (hb : Below w.heap.size w w') : Lib.TabIs Tryz.prog w' n k zs := by
  unfold Lib.TabIs World.var? at h ⊢
  rw [hg] at h ⊢
  simp only [Option.bind_some] at h ⊢
  cases hc : w.heap[g]? with
  | none => simp [hc] at h
  | some o => rw [hb.block g (Array.getElem?_eq_some_iff.1 hc).1]; exact h
theorem G.below {w w' : World} (h : G w) (hb : Below w.heap.size w w') : G w' :=
  ⟨h.ml.imp fun _ e => cell_below e hb, h.es.imp fun _ e => ⟨cell_below e.1 hb, e.2⟩, h.er.imp fun _ e => ⟨cell_below e.1 hb, e.2⟩, tab_below (g := 4) (by kernel_rfl) h.pow hb, tab_below (g := 0) (by kernel_rfl) h.asc hb⟩

def trimR (p : UInt8 → Bool) (l : List UInt8) : List UInt8 := (l.reverse.dropWhile p).reverse
theorem trimR_snoc (p : UInt8 → Bool) (l : List UInt8) (c : UInt8) : trimR p (l ++ [c]) = if p c then trimR p l else l ++ [c] := by
  unfold trimR; rw [List.reverse_append]; simp only [List.reverse_cons, List.reverse_nil, List.nil_append, List.singleton_append, List.dropWhile_cons]
  split
  · rfl
  · simp

theorem last_split (t : ByteArray) (h : 0 < t.size) : t.data.toList = (t.extract 0 (t.size - 1)).data.toList ++ [t[t.size - 1]'(by omega)] := by
  rw [Lib.extract_data, List.drop_zero, Nat.sub_zero]
  have hl : t.data.toList.length = t.size := by rw [Array.length_toList]; rfl
  have := take_snoc t.data.toList (t.size - 1) (t[t.size - 1]'(by omega)) (by rw [List.getElem?_eq_getElem (by omega)]; rfl)
  rw [← this, Nat.sub_add_cancel (by omega), List.take_of_length_le (by omega)]

set_option maxHeartbeats 1000000 in
theorem trimRightASCII (p : UInt8 → Bool) (B : Nat) (w : World) (hset : ∀ x : UInt8, w.cell? ⟨B, x.toNat, none⟩ = some (.bool (p x))) (n : Nat) : ∀ (s : ByteArray), s.size = n → n ≤ 4294967281 →
    Calls Tryz.prog 81 #[.string s, .pointer (some ⟨B, 0, none⟩)] w fun e w' => e = .returned (.string ⟨(trimR p s.data.toList).toArray⟩) ∧ w' = w := by
  intro s hs hn
  go_enter Tryz.func81, Tryz.ntmps81
  go_wp2
  go_loop [0] (fun v => ∃ t : ByteArray, v = .string t ∧ t.size ≤ 4294967281 ∧ Hid (trimR p t.data.toList = trimR p s.data.toList)) (fun v => match v with | .string t => t.size | _ => 0)
  case atStart => exact ⟨s, rfl, by omega, rfl⟩
  case round =>
    obtain ⟨t, rfl, ht, HT⟩ := hrel
    have HS := Lib.hid hset
    clear hset
    by_cases h0 : 0 < t.size
    · have hz0 : (0 : Int) < (t.size : Int) := by omega
      have hz1 : (0 : Int) ≤ (t.size : Int) - 1 := by omega
      go_wp2_with (go_at_call 99; refine (Tryz.asciiSet_contains B _ _ _ (HS.out _)).mono ?_; rintro e w' ⟨rfl, rfl⟩)
      · have hp : p (t[t.size - 1]'(by omega)) = false := by simpa using ‹(!p _) = true›
        go_ret
        refine ⟨ret_str ?_, rfl⟩
        rw [← HT.out]; conv => rhs; rw [last_split t h0, trimR_snoc, if_neg (by rw [hp]; decide), ← last_split t h0]
      · have hp : p (t[t.size - 1]'(by omega)) = true := by simpa using ‹(!p _) = false›
        refine ⟨⟨_, rfl, by simp; omega, ?_⟩, by simp; omega⟩
        show _ = _
        rw [← HT.out]; conv => rhs; rw [last_split t h0, trimR_snoc, if_pos hp]
    · have hz0 : ¬ (0 : Int) < (t.size : Int) := by omega
      go_wp2
      go_ret
      refine ⟨ret_str ?_, rfl⟩
      rw [← HT.out, show t.data.toList = [] from List.length_eq_zero_iff.1 (by rw [Array.length_toList]; show t.size = 0; omega)]
      rfl

set_option maxHeartbeats 1000000 in
/-- strings.TrimRight at more than one ASCII byte. -/
theorem trimRight (s cs : ByteArray) (w : World) (hs0 : 0 < s.size) (hs : s.size ≤ 4294967281) (h2 : 2 ≤ cs.size) (hcs : cs.size < 4294967281) (hascii : ∀ (j : Nat) (b : UInt8), cs.data.toList[j]? = some b → b.toNat < 128) :
    Calls Tryz.prog 68 #[.string s, .string cs] w fun e w' => e = .returned (.string ⟨(trimR (cs.data.toList.contains ·) s.data.toList).toArray⟩) ∧ Below w.heap.size w w' := by
  have hv : ∀ w, (zeroValue 130).run Tryz.prog w = .ok (.agg (Array.replicate 256 (.bool false))) w := fun w => by kernel_rfl
  have hM := Tryz.strings_makeASCIISet hv cs w hcs hascii
  have hsc : (storeCells ⟨w.heap.size + 1, 0, none⟩ (Lib.setCells cs.data.toList).toList 0).run Tryz.prog ((w.alloc (.cells (Lib.setCells cs.data.toList) 130)).alloc (.cells (Array.replicate 256 (.bool false)) 130)) = .ok () ((w.alloc (.cells (Lib.setCells cs.data.toList) 130)).alloc (.cells (Lib.setCells cs.data.toList) 130)) := by
    have := run_storeCells_new (P := Tryz.prog) (w.alloc (.cells (Lib.setCells cs.data.toList) 130)) 130 (Array.replicate 256 (.bool false)) (Lib.setCells cs.data.toList) (by rw [Lib.setCells_size]; kernel_rfl) (by rw [Lib.setCells_size, Array.size_replicate]) (Lib.setCells_one _)
    simpa using this
  have hcellAt : ∀ x : UInt8, ((w.alloc (.cells (Lib.setCells cs.data.toList) 130)).alloc (.cells (Lib.setCells cs.data.toList) 130)).cell? ⟨w.heap.size + 1, x.toNat, none⟩ = some (.bool (cs.data.toList.contains x)) := fun x => by
    rw [World.cell?_alloc_at _ _ _ _ (by simp), Lib.setCells_at]
  have HC := Lib.hid hcellAt
  have hn1 : ((cs.size : Int) == 1) = false := beq_eq_false_iff_ne.2 (by omega)
  have hemp : cs.toList.isEmpty = false := by
    rw [Lib.toList_data]
    cases h : cs.data.toList with
    | nil => have := Lib.size_eq cs; rw [h, List.length_nil] at this; omega
    | cons _ _ => rfl
  have hemps : s.toList.isEmpty = false := by
    rw [Lib.toList_data]
    cases h : s.data.toList with
    | nil => have := Lib.size_eq s; rw [h, List.length_nil] at this; omega
    | cons _ _ => rfl
  have hsz := Lib.setCells_size cs.data.toList
  clear hcellAt
  go_enter Tryz.func68, Tryz.ntmps68
  go_wp2_with (go_at_call 80; refine hM.mono ?_; rintro e w' ⟨rfl, hw⟩; rw [hw])
  clear hM hsc
  go_wp2_with (go_at_call 81; refine (trimRightASCII _ (w.heap.size + 1) _ HC.out _ s rfl hs).mono ?_; rintro e w' ⟨rfl, rfl⟩)
  go_ret
  exact ⟨rfl, ((Below.refl _ _).alloc (Nat.le_refl _) _).alloc (by simp) _⟩
theorem bytesWorld_below (w : World) (e : TypeId) (s : ByteArray) : Below w.heap.size w (Lib.bytesWorld w e s) :=
  ⟨rfl, rfl, rfl, by rw [Lib.bytesWorld_size]; omega, fun i hi => Lib.bytesWorld_at_old w e s i (by omega)⟩
theorem below_grow' (w : World) (k : Nat) (os : Array Obj) : Below w.heap.size w (Sort.grow (w.drewN k) os) :=
  ⟨rfl, rfl, rfl, by simp [Sort.grow], fun i hi => by show (w.heap ++ os)[i]? = _; rw [Array.getElem?_append_left hi]⟩
theorem itoa_ok (n : Int) (hn : i64 n) (w : World) (hG : G w) :
    Calls Tryz.prog 43 #[.int .i64 n] w fun e w' => e = .returned (.string ⟨(Lib.itoa n).toArray⟩) ∧ Below w.heap.size w w' :=
  (Tryz.strconv_Itoa n hn.1 hn.2 w hG.pow).mono fun e w' ⟨he, k, os, hw⟩ => ⟨he, by rw [hw]; exact below_grow' w k os⟩
theorem atoi_ok (s : ByteArray) (hmax : s.size ≤ 9223372036854775806) (v : Int) (h : Lib.atoiAll s.data.toList = .ok v) (w : World) :
    Calls Tryz.prog 38 #[.string s] w fun e w' => e = .returned (.tuple #[.int .i64 v, .nilIface]) ∧ Below w.heap.size w w' :=
  (Tryz.strconv_Atoi_ok s hmax v h w).mono fun e w' ⟨he, hw⟩ => ⟨he, by rcases hw with rfl | ⟨t, rfl⟩; exact Below.refl _ _; exact bytesWorld_below _ _ _⟩
end Go.Proofs.YtbafhmhjkoelnaaGreatDoor
