/-
  For every list of fields and every turn the law IsoOrder returns true, and each argument reads afterwards as it read before.
  Conditions: the listed package-level variables hold what the program's text lays (the card ties them to it); nothing else is asked.
-/
import Derived.Test.YtbafhmhjkoelnaaGreatDoorT
import Derived.Test.YtbafhmhjkoelnaaGreatDoorO1
namespace Go.Proofs.YtbafhmhjkoelnaaGreatDoor.isoOrder
open Go.ChangeShapes Go.WideShapes Go.ChangeAt Go.RowKit Go.Proofs.YtbafhmhjkoelnaaGreatDoor

section
variable {H : Type} {enc : TypeId × Value → H} {w : World} {base : Nat} {spare : Nat → Bool} {held : Bool}
/-- A slice of fields that reads as data. -/
theorem rdw_of_trod {n : Nat} {v : Value} {y : DataW H × List MemPlace} (h : DataW.trod enc Tryz.prog w base spare held n 22 [v] = some y) : ∃ L, Rd encF 2 w v L ∧ ∀ x ∈ L, (Lit.int .i64 x.N).wf = true := by
  rcases open_fields Tryz.underlying22 Tryz.underlying34 (by kernel_rfl) (by kernel_rfl) h with h0 | ⟨a, len, cap, hcs, hl, hm, hi⟩
  · obtain rfl : v = .slice none 0 0 := by simpa using h0
    exact ⟨[], Rd.nil _ _ _, fun x hx => by cases hx⟩
  obtain rfl : v = .slice (some a) len cap := by simpa using hcs
  have hF : ∀ i, ∃ x : Field, i < len → w.cell? (a.add (i * 2 + 0)) = some (.int .i64 x.N) ∧ w.cell? (a.add (i * 2 + 1)) = some (.string x.V) ∧ (Lit.int .i64 x.N).wf = true := fun i => by
    by_cases hil : i < len
    · obtain ⟨n', hf⟩ := hi i hil
      obtain ⟨v0, y0, c0, t0⟩ := hf 0 _ rfl
      obtain ⟨v1, y1, c1, t1⟩ := hf 1 _ rfl
      obtain ⟨k, e0, _, hw⟩ := DataW.trod_int Tryz.underlying3 t0
      obtain ⟨s, e1, _⟩ := DataW.trod_string Tryz.underlying9 t1
      obtain rfl : v0 = .int .i64 k := by simpa using e0
      obtain rfl : v1 = .string s := by simpa using e1
      exact ⟨⟨k, s⟩, fun _ => ⟨c0, c1, hw⟩⟩
    · exact ⟨⟨0, ⟨#[]⟩⟩, fun h => absurd h hil⟩
  obtain ⟨F, hF⟩ : ∃ F : Nat → Field, ∀ i, i < len → w.cell? (a.add (i * 2 + 0)) = some (.int .i64 (F i).N) ∧ w.cell? (a.add (i * 2 + 1)) = some (.string (F i).V) ∧ (Lit.int .i64 (F i).N).wf = true := ⟨fun i => Classical.choose (hF i), fun i => Classical.choose_spec (hF i)⟩
  have hll : ((List.range len).map F).length = len := by simp
  refine ⟨(List.range len).map F, ?_, fun x hx => by obtain ⟨i, hi, rfl⟩ := List.mem_map.1 hx; exact (hF i (List.mem_range.1 hi)).2.2⟩
  refine ⟨some a, cap, by rw [hll], by rw [hll]; exact hl, by simp only [maxLen] at hm; omega, ?_⟩
  by_cases h0 : len = 0
  · subst h0; exact .inl rfl
  · have hc := (hF 0 (by omega)).1
    obtain ⟨b, o, spot⟩ := a
    have hspot : spot = none := by simpa [Addr.add] using World.cell?_spot hc
    subst hspot
    refine .inr ⟨b, o, rfl, World.block_lt_of_cell? _ _ hc, fun j x hj i u hu => ?_⟩
    have hjl : j < len := by have := (List.getElem?_eq_some_iff.1 hj).1; rwa [hll] at this
    obtain rfl : x = F j := by
      rw [List.getElem?_map, List.getElem?_range hjl] at hj
      exact (Option.some.inj hj).symm
    have hs := hF j hjl
    match i, hu with
    | 0, hu => cases hu; have e := hs.1; rw [Go.WideShapes.add_plain] at e; exact e
    | 1, hu => cases hu; have e := hs.2.1; rw [Go.WideShapes.add_plain] at e; exact e

set_option maxRecDepth 100000 in
/-- A slice argument, opened. -/
theorem open_fldsw {r : Reach} {b0 : Nat} {v : Value} {d : DataW H} {p : List MemPlace} (hv : Value.okWide Tryz.prog w r b0 22 v) (h : DataW.Trod enc Tryz.prog w base spare held 22 v d p) : ∃ L, Rd encF 2 w v L ∧ ∀ x ∈ L, (Lit.int .i64 x.N).wf = true := by
  obtain ⟨A, n, c, rfl⟩ := okWide_slice Tryz.underlying22 hv
  obtain ⟨fuel, hf⟩ := h
  exact rdw_of_trod (y := (d, p)) (by simpa [Value.cells] using hf)
end
theorem own : ownKnob Tryz.prog.godebug = none := by kernel_rfl

set_option maxRecDepth 100000 in
theorem contract (H : Type) (enc : TypeId × Value → H) (W : World) (base : Nat) (args : Array Value) (ds gs : List (DataW H)) (before : List MemPlace)
    (hval : ∀ (j : Nat) t v, Tryz.f4.params[j]? = some t → args[j]? = some v → Value.okWide Tryz.prog W .any base t v)
    (hW : DataW.Whole enc Tryz.prog Tryz.f4.params.toList Rows.isoOrderSpec.vars false W args.toList ds gs before) (hL : laidMetH Tryz.prog Rows.isoOrderRow.laid W) (hS : W.ShapedOpen Tryz.prog) :
    Calls Tryz.prog 4 args W fun e W' => ∃ v, e = .returned v ∧ Rows.isoOrderSpec.post enc Tryz.prog Tryz.f4 false true false false W args v W' := by
  have hW' := hW
  obtain ⟨p, q, hA0, hV, rfl, hfz, hnd⟩ := hW
  have hA : DataW.TrodAll enc Tryz.prog W 0 (fun _ => true) true Tryz.f4.params.toList args.toList ds p := hA0
  rw [Tryz.params4] at hA hval
  obtain ⟨v0, v1, d0, d1, p0, p1, rfl, rfl, rfl, h0, h1⟩ := trodAll_two hA
  obtain ⟨rfl, rfl⟩ := trodVars_none hV
  obtain ⟨n, rfl, rfl, rfl, hwf⟩ := open_int Tryz.underlying5 (hval 1 _ v1 rfl rfl) h1
  obtain ⟨t, rfl⟩ : ∃ t : Nat, n = t := ⟨n.toNat, by
    simp [Lit.wf, IntKind.min, IntKind.max, IntKind.signed, IntKind.bits] at hwf
    omega⟩
  have ht : t ≤ 255 := by
    simp [Lit.wf, IntKind.min, IntKind.max, IntKind.signed, IntKind.bits] at hwf
    omega
  obtain ⟨L, hr, hLw⟩ := open_fldsw (hval 0 _ v0 rfl rfl) h0
  clear hA0
  simp only [List.append_nil] at hW'
  have hlt : ∀ x ∈ p0, x.block < W.heap.size := fun x hx => by simpa using hW'.lt x hx
  refine (isoOrder_true v0 L t W hr hLw ht (g_of hL hS)).mono fun e W' ⟨he, hb⟩ => ?_
  subst he
  have hB0 := Below.trod laidOutT (by kernel_rfl) (of_decide_eq_true (by kernel_rfl)) h0 hb hlt
  exact ⟨_, rfl, ⟨_, _, _, _, _, _, hW', trodAll_mk1 (shut_bool Tryz.underlying4 _), trodAll_mk2 hB0 (shut_int Tryz.underlying5 hwf), rfl, hb.frame _, fun h => by cases h⟩⟩

/-- A world for the witness: each listed variable laid. -/
noncomputable def laidWorld (os : Os) : World := World.laidAll Tryz.prog os Rows.isoOrderRow.laid
theorem laid_met (os : Os) (args : Array Value) : laidMetH Tryz.prog Rows.isoOrderRow.laid ((laidWorld os).forCall (fun _ _ => 0) ⟨#[], args, []⟩).memory := by
  rw [MakeChecks.laidMetH_plain _ _ _ (by kernel_rfl)]; exact laidMet_laidAll _ (by kernel_rfl) (by kernel_rfl)

def wargs : Array Value := #[.slice none 0 0, .int .u8 0]
theorem hok (os : Os) : Input.okWideB Tryz.prog ((laidWorld os).forCall (fun _ _ => 0) ⟨#[], wargs, []⟩) 4 ⟨#[], wargs, []⟩ = true := by kernel_rfl
theorem reads (os : Os) {H : Type} (enc : TypeId × Value → H) : ∃ places, DataW.whole enc Tryz.prog ((laidWorld os).forCall (fun _ _ => 0) ⟨#[], wargs, []⟩).memory Tryz.f4.params.toList Rows.isoOrderSpec.vars false wargs.toList 8 = some ([.nil, .lit (.int .u8 0)], [], places) :=
  ⟨[], by kernel_rfl⟩

set_option maxRecDepth 100000 in
theorem lifted (os : Os) (started : os.Started) (H : Type) (enc : TypeId × Value → H) (F : Stop.Interp) :
    ReturnsInHanded {} Tryz.checked os 4 .any ((OpenSpec.ofChange Rows.isoOrderSpec).preRow enc Tryz.prog Tryz.f4 Rows.isoOrderRow.domain false Rows.isoOrderRow.laid) (((OpenSpec.ofChange Rows.isoOrderSpec).at F).post enc Tryz.prog Tryz.f4 false true false false) := by
  refine returnsInHanded_of_row (C := Tryz.checked) (s := OpenSpec.ofChange Rows.isoOrderSpec) own started (by kernel_rfl) Tryz.func4 ?_ ?_
  · obtain ⟨places, hx⟩ := reads os enc
    exact ⟨laidWorld os, fun _ _ => 0, ⟨#[], wargs, []⟩, World.laidAll_os _ _ _, World.shaped_of_ZipB (by kernel_rfl) (by kernel_rfl), (Input.okWide_of_okWideB (base := 0) (hok os)).1, (Input.okWide_of_okWideB (hok os)).2,
      OpenSpec.preRow_of_cond 8 hx (by kernel_rfl) (fun k hk => by cases hk) (by kernel_rfl) (laid_met os _), by
        simp only [Assume.holds]
        exact ⟨by simp, by simp, fun _ => Modest.zero, by simp, by simp⟩⟩
  intro W base args ds gs before hval hW _ _ _ hL hS _
  exact contract H enc W base args ds gs before hval hW hL hS

theorem said : Rows.IsoOrderSaid :=
  OpenClaim.holds_of_cond 4 Tryz.f4 rfl rfl rfl rfl rfl rfl rfl ⟨rfl, rfl, rfl, rfl, rfl⟩ rfl rfl rfl rfl rfl (by kernel_rfl) Tryz.func4 (by kernel_rfl)
    (of_decide_eq_true (by kernel_rfl)) (by unfold Func.isWrapper; first | (rw [if_pos (by decide +kernel)]; kernel_rfl) | (rw [if_neg (by decide +kernel)]; exact ⟨rfl, rfl⟩))
    (fun os started H enc _ F => by rw [OpenClaim.pre_eq_preRow]; exact lifted os started H enc F)

theorem plain (f : FuncId) (fn : Func) (hf : Tryz.pinned.checked.prog.funcNamed "bursar/bursarlaw19.IsoOrder" = some f) (hfn : Tryz.pinned.checked.prog.funcs[f]? = some fn) :
    true = Tryz.pinned.checked.prog.looks [] ∧ ∀ (j : Nat) t, fn.params[j]? = some t → Tryz.pinned.checked.prog.wantsStandIn t = false := by
  obtain rfl : f = 4 := Option.some.inj ((show Tryz.prog.funcNamed "bursar/bursarlaw19.IsoOrder" = some 4 by kernel_rfl).symm.trans hf) |>.symm
  obtain rfl : fn = Tryz.f4 := (Option.some.inj (Tryz.func4.symm.trans hfn)).symm
  refine ⟨by kernel_rfl, fun j t ht => ?_⟩
  rw [Tryz.params4] at ht
  have hm : t ∈ [22, 5] := by simpa using Array.mem_of_getElem? ht
  have hall : ([22, 5].all fun u => !Tryz.prog.wantsStandIn u) = true := by kernel_rfl
  exact (show Tryz.prog.wantsStandIn t = false by simpa using List.all_eq_true.1 hall t hm)

theorem card : Rows.IsoOrderCardSaid :=
  Claim7.holds_tied_plain_at .later [] _ _ _ _ said (fun _ h => by cases h) (by kernel_rfl) (fun _ h => by cases h) isoOrder_row_tie rfl ⟨rfl, rfl⟩ (by kernel_rfl) rfl plain (by kernel_rfl)
end Go.Proofs.YtbafhmhjkoelnaaGreatDoor.isoOrder
