/- T: what the rows give: the library's variables (G), the arguments as data, the arguments read again behind the call. -/
import Derived.Test.YtbafhmhjkoelnaaGreatDoorA1
import Derived.Test.YtbafhmhjkoelnaaGreatDoorC
import Derived.Test.YtbafhmhjkoelnaaGreatDoorCards
import Derived.Test.YtbafhmhjkoelnaaGreatDoorTie
import Derived.WalkKit
import Derived.ProofKit
import Derived.OpenShut
import Derived.Carry
import Derived.LaidMore
import Derived.Lay
import Derived.SevenTiedAt
import Derived.Stop.Joined
import Derived.Stop.LaidErr
import Derived.Deep.DeepHandedRow
import Derived.Deep.Slices
import Derived.Deep.Fields
import Derived.Lib.LaidTab
import Derived.Lib.SmallJoins
import Derived.Shelf.Vars
namespace Go.Proofs.YtbafhmhjkoelnaaGreatDoor
open Go.ChangeShapes Go.WideShapes Go.ChangeAt Go.RowKit Go.Deep

theorem pow_eq : (Rows.laid_internal_strconv_uint64pow10 : DataW Unit) = Lib.tabData .u64 Lib.pow10Tab := by kernel_rfl
theorem asc_eq : (Rows.laid_strings_asciiSpace : DataW Unit) = Lib.tabData .u8 Lib.asciiSpaceTab := by kernel_rfl
theorem cells1 : Tryz.prog.cellsOf 5 = 1 := by kernel_rfl
theorem cellsU64 : Tryz.prog.cellsOf 109 = 1 := by kernel_rfl
theorem cellsStr : Tryz.prog.cellsOf 9 = 1 := by kernel_rfl
theorem cellsES : Tryz.prog.cellsOf 142 = 1 := by kernel_rfl
theorem star_es : "*" ++ "errors.errorString" = "*errors.errorString" := by decide
theorem row_es (u : TypeId) (h : Tryz.prog.typeName? 3 u = some "*errors.errorString") : u = 140 :=
  typeName_ptr_named (nm := "errors.errorString") (by rw [star_es]; kernel_rfl) (by kernel_rfl) (by decide) u (by rw [star_es]; exact h)
theorem es_cell {n : String} {text : List UInt8} {r : List (String × DataW Unit)} {W : World} {g : Nat} (h : laidMet Tryz.prog ((n, .iface "*errors.errorString" (.ptr (.agg [.lit (.string text)]))) :: r) W)
    (hg : Tryz.prog.globalNamed n = some g) (ht : (Tryz.prog.globals[g]?).map (·.type) = some 71) : ∃ v, W.cell? ⟨g, 0, none⟩ = some v ∧ (v = .nilIface ∨ ∃ te pe, v = .iface te pe) := by
  obtain ⟨a0, s0, hv0, -, -, -⟩ := laid_sentinel h hg ht Tryz.underlying71 row_es Tryz.underlying140 Tryz.underlying142 rfl rfl Tryz.underlying9 cellsES cellsStr
  exact ⟨_, by have h0 := World.var?_cell hg hv0 0; simpa using h0, .inr ⟨_, _, rfl⟩⟩

/-- What the rows' lists and the world's shape give. -/
theorem g_of {W : World} (h : laidMetH Tryz.prog Rows.isoFieldsRow.laid W) (hs : W.ShapedOpen Tryz.prog) : G W := by
  rw [MakeChecks.laidMetH_plain _ _ _ (by kernel_rfl)] at h
  have h2 := h.tail.tail
  have h4 := h2.tail.tail
  have h5 := h4.tail
  have h7 := h5.tail.tail
  refine ⟨?_, es_cell h5 (g := 1) (by kernel_rfl) (by kernel_rfl), es_cell h4 (g := 2) (by kernel_rfl) (by kernel_rfl), ?_, ?_⟩
  · exact cell_of_shapedOpen_int hs (g := 5) (t := 3) (zero := #[.int .i64 0]) (by decide +kernel) (by kernel_rfl) rfl (by kernel_rfl) (by kernel_rfl) Tryz.underlying3
  · rw [pow_eq] at h2
    exact Lib.tabIs_of_head (g := 4) (by kernel_rfl) (by kernel_rfl) Tryz.underlying145 Tryz.underlying109 cellsU64 (by kernel_rfl) h2
  · rw [asc_eq] at h7
    exact Lib.tabIs_of_head (g := 0) (by kernel_rfl) (by kernel_rfl) Tryz.underlying104 Tryz.underlying5 cells1 (by kernel_rfl) h7

section
variable {H : Type} {enc : TypeId × Value → H} {w : World} {base : Nat} {spare : Nat → Bool} {held : Bool}

/-- A slice of structs of one-cell fields, opened. -/
theorem open_fields {P : Program} {t e : TypeId} {fs : Array Go.Field} {fuel : Nat} {cs : List Value} {x : DataW H × List MemPlace} (ht : P.underlying t = some (.slice e)) (he : P.underlying e = some (.struct fs))
    (hone : oneCellFields P fs = true) (hC : P.cellsOf e = fs.size) (h : DataW.trod enc P w base spare held fuel t cs = some x) :
    cs = [.slice none 0 0] ∨ ∃ (a : Addr) (len cap : Nat), cs = [.slice (some a) len cap] ∧ len ≤ cap ∧ cap ≤ maxLen ∧
      ∀ i, i < len → ∃ n, ∀ (j : Nat) (f : Go.Field), fs[j]? = some f → ∃ (v : Value) (y : DataW H × List MemPlace), w.cell? (a.add (i * fs.size + j)) = some v ∧ DataW.trod enc P w base spare held n f.type [v] = some y := by
  rcases open_slice ht h with h0 | ⟨a, len, cap, m, n, D, Pl, hcs, hb, hl, hm, hmm, hx, hi⟩
  · exact .inl h0.1
  · refine .inr ⟨a, len, cap, hcs, hl, hm, fun i him => ?_⟩
    obtain ⟨cs', hc, ht'⟩ := hi i (by rw [hmm]; split <;> omega)
    rw [hC] at hc
    obtain ⟨ys, n', hn', hy, hlen, hyl, hf⟩ := DataW.trod_struct he ht'
    obtain ⟨_, hcl, hat⟩ := World.cells?_some hc
    refine ⟨n', fun j f hj => ?_⟩
    obtain ⟨ho, hk⟩ := hone_of hone j f hj
    have hjl : j < fs.size := (Array.getElem?_eq_some_iff.1 hj).1
    have hcell := hat j hjl
    have hv : cs'[j]? = some (cs'[j]'(by omega)) := List.getElem?_eq_getElem (by omega)
    have h1 := hf j f hj
    rw [ho, hk] at h1
    have hone' : (cs'.drop j).take 1 = [cs'[j]'(by omega)] := by
      rw [List.drop_eq_getElem_cons (by omega)]
      rfl
    rw [hone'] at h1
    have hys : ys[j]? = some (ys[j]'(by omega)) := List.getElem?_eq_getElem (by omega)
    refine ⟨_, _, ?_, h1.trans hys⟩
    rw [← Go.Deep.add_add, hcell, hv]

/-- A slice of fields that reads as data. -/
theorem rd_of_trod {n : Nat} {v : Value} {y : DataW H × List MemPlace} (h : DataW.trod enc Tryz.prog w base spare held n 22 [v] = some y) : ∃ L, Rd encF 2 w v L := by
  rcases open_fields Tryz.underlying22 Tryz.underlying34 (by kernel_rfl) (by kernel_rfl) h with h0 | ⟨a, len, cap, hcs, hl, hm, hi⟩
  · obtain rfl : v = .slice none 0 0 := by simpa using h0
    exact ⟨[], Rd.nil _ _ _⟩
  obtain rfl : v = .slice (some a) len cap := by simpa using hcs
  have hF : ∀ i, ∃ x : Field, i < len → w.cell? (a.add (i * 2 + 0)) = some (.int .i64 x.N) ∧ w.cell? (a.add (i * 2 + 1)) = some (.string x.V) := fun i => by
    by_cases hil : i < len
    · obtain ⟨n', hf⟩ := hi i hil
      obtain ⟨v0, y0, c0, t0⟩ := hf 0 _ rfl
      obtain ⟨v1, y1, c1, t1⟩ := hf 1 _ rfl
      obtain ⟨k, e0, _⟩ := DataW.trod_int Tryz.underlying3 t0
      obtain ⟨s, e1, _⟩ := DataW.trod_string Tryz.underlying9 t1
      obtain rfl : v0 = .int .i64 k := by simpa using e0
      obtain rfl : v1 = .string s := by simpa using e1
      exact ⟨⟨k, s⟩, fun _ => ⟨c0, c1⟩⟩
    · exact ⟨⟨0, ⟨#[]⟩⟩, fun h => absurd h hil⟩
  obtain ⟨F, hF⟩ : ∃ F : Nat → Field, ∀ i, i < len → w.cell? (a.add (i * 2 + 0)) = some (.int .i64 (F i).N) ∧ w.cell? (a.add (i * 2 + 1)) = some (.string (F i).V) := ⟨fun i => Classical.choose (hF i), fun i => Classical.choose_spec (hF i)⟩
  have hll : ((List.range len).map F).length = len := by simp
  refine ⟨(List.range len).map F, some a, cap, by rw [hll], by rw [hll]; exact hl, by simp only [maxLen] at hm; omega, ?_⟩
  by_cases h0 : len = 0
  · subst h0; exact .inl rfl
  · have hc := (hF 0 (by omega)).1
    obtain ⟨b, o, spot⟩ := a
    have hspot : spot = none := by simpa [Addr.add] using World.cell?_spot hc
    subst hspot
    refine .inr ⟨b, o, rfl, World.block_lt_of_cell? _ _ hc, fun j x hj i u hu => ?_⟩
    have hjl : j < len := by have := (List.getElem?_eq_some_iff.1 hj).1; rwa [hll] at this
    obtain rfl : x = F j := by
      rw [List.getElem?_map, List.getElem?_range hjl] at hj
      exact (Option.some.inj hj).symm
    have hs := hF j hjl
    match i, hu with
    | 0, hu => cases hu; have e := hs.1; rw [Go.WideShapes.add_plain] at e; exact e
    | 1, hu => cases hu; have e := hs.2; rw [Go.WideShapes.add_plain] at e; exact e

set_option maxRecDepth 100000 in
/-- A message, opened. -/
theorem open_msg {r : Reach} {b0 : Nat} {v : Value} {d : DataW H} {p : List MemPlace} (hv : Value.okWide Tryz.prog w r b0 24 v) (h : DataW.Trod enc Tryz.prog w base spare held 24 v d p) :
    ∃ m s L, v = .agg #[.string m, s] ∧ Rd encF 2 w s L := by
  obtain ⟨v0, v1, y0, y1, n, rfl, -, -, h0, h1⟩ := Go.Joins.open_agg2 Tryz.underlying24 (by kernel_rfl) (by kernel_rfl) hv h
  obtain ⟨s, e, _⟩ := DataW.trod_string Tryz.underlying9 h0
  obtain rfl : v0 = .string s := by simpa using e
  obtain ⟨L, hL⟩ := rd_of_trod h1
  exact ⟨s, v1, L, rfl, hL⟩
set_option maxRecDepth 100000 in
/-- A slice argument, opened. -/
theorem open_flds {r : Reach} {b0 : Nat} {v : Value} {d : DataW H} {p : List MemPlace} (hv : Value.okWide Tryz.prog w r b0 22 v) (h : DataW.Trod enc Tryz.prog w base spare held 22 v d p) : ∃ L, Rd encF 2 w v L := by
  obtain ⟨A, n, c, rfl⟩ := okWide_slice Tryz.underlying22 hv
  obtain ⟨fuel, hf⟩ := h
  exact rd_of_trod (y := (d, p)) (by simpa [Value.cells] using hf)
end
theorem laidOutT : laidOutB Tryz.prog = true := by kernel_rfl
end Go.Proofs.YtbafhmhjkoelnaaGreatDoor
