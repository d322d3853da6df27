/-
  Package spec: kinds, and what a word of the table says.
-/
import Derived.Test.YtbafhmhjkoelnaaGreatDoorC
import Derived.Laws.EntriesVeiled
namespace Go.Proofs.YtbafhmhjkoelnaaGreatDoor
open Go.RowKit

def isDigit (c : UInt8) : Bool := 48 ≤ c.toNat && c.toNat ≤ 57
def isLetter (c : UInt8) : Bool := 65 ≤ c.toNat && c.toNat ≤ 90 || 97 ≤ c.toNat && c.toNat ≤ 122

theorem spec_digit (c : Int) (w : World) : Calls Tryz.prog 54 #[.int .u8 c] w fun e w' => e = .returned (.bool (decide (48 ≤ c) && decide (c ≤ 57))) ∧ w' = w := by
  by_cases h1 : 48 ≤ c
  all_goals
    by_cases h2 : c ≤ 57
    all_goals
      go_enter Tryz.func54, Tryz.ntmps54
      go_wp2
      go_ret
      exact ⟨by simp [h1, h2], rfl⟩

def kindNames : List (List UInt8) := [[], [110], [97, 110], [97, 110, 115], [98]]
def kindFns : List Value := [.nilFunc, .func (.func 54) #[] #[], .func (.func 55) #[] #[], .func (.func 57) #[] #[], .func (.func 58) #[] #[]]
abbrev kindsV : Array Value := #[.string ⟨#[]⟩, .nilFunc, .string ⟨#[110]⟩, .func (.func 54) #[] #[], .string ⟨#[97, 110]⟩, .func (.func 55) #[] #[], .string ⟨#[97, 110, 115]⟩, .func (.func 57) #[] #[], .string ⟨#[98]⟩, .func (.func 58) #[] #[]]
set_option maxHeartbeats 1000000 in
theorem spec_kinds (w : World) : Calls Tryz.prog 47 #[] w fun e w' => e = .returned (.agg kindsV) ∧ Below w.heap.size w w' := by
  go_enter Tryz.func47, Tryz.ntmps47
  go_wp2
  exact bodyPost_ret (v := .agg kindsV) (by simp [results, Tryz.results47, go_sem]) rfl ⟨rfl, (Below.refl _ _).alloc (Nat.le_refl _) _⟩

theorem kinds_at0 (w : World) : (Instr.index 88 (.agg kindsV) (.int .i64 0)).run Tryz.prog w = .ok (.agg #[.string ⟨#[]⟩, .nilFunc]) w := by kernel_rfl
theorem kinds_at1 (w : World) : (Instr.index 88 (.agg kindsV) (.int .i64 1)).run Tryz.prog w = .ok (.agg #[.string ⟨#[110]⟩, .func (.func 54) #[] #[]]) w := by kernel_rfl
theorem kinds_at2 (w : World) : (Instr.index 88 (.agg kindsV) (.int .i64 2)).run Tryz.prog w = .ok (.agg #[.string ⟨#[97, 110]⟩, .func (.func 55) #[] #[]]) w := by kernel_rfl
theorem kinds_at3 (w : World) : (Instr.index 88 (.agg kindsV) (.int .i64 3)).run Tryz.prog w = .ok (.agg #[.string ⟨#[97, 110, 115]⟩, .func (.func 57) #[] #[]]) w := by kernel_rfl
theorem kinds_at4 (w : World) : (Instr.index 88 (.agg kindsV) (.int .i64 4)).run Tryz.prog w = .ok (.agg #[.string ⟨#[98]⟩, .func (.func 58) #[] #[]]) w := by kernel_rfl

/-- What a field is: its kind, how many octets say how long it is, how long. -/
structure Spec where
  kind : Nat
  var : Nat
  len : Nat
deriving DecidableEq
def encS (x : Spec) : List Value := [.int .i64 x.kind, .int .i64 x.var, .int .i64 x.len]
def setW : List UInt8 := [46, 48, 49, 50, 51, 52, 53, 54, 55, 56, 57]
/-- The kind of a name, by the first k names; a later one counts. -/
def kindUpto (nm : List UInt8) : Nat → Nat
  | 0 => 0
  | k + 1 => if kindNames.getD k [] = nm then k else kindUpto nm k
def wordName (s : List UInt8) : List UInt8 := trimR (setW.contains ·) s
def wordDots (s : List UInt8) : Nat := s.count 46
def wordSpec (s : List UInt8) : Option Spec :=
  if (wordName s).length + wordDots s ≤ s.length ∧ s ≠ [] ∧ s.length < 100 then
    match Lib.atoiAll (s.drop ((wordName s).length + wordDots s)) with
    | .ok n => if 0 ≤ n ∧ n < 10000 then some ⟨kindUpto (wordName s) 5, wordDots s, n.toNat⟩ else none
    | _ => none
  else none

set_option maxRecDepth 100000 in
set_option maxHeartbeats 2000000 in
theorem spec_read (s : ByteArray) (x : Spec) (hx : wordSpec s.data.toList = some x) (w : World) :
    Calls Tryz.prog 53 #[.string s] w fun e w' => e = .returned (.agg (encS x).toArray) ∧ Below w.heap.size w w' := by
  unfold wordSpec at hx
  split at hx
  case isFalse => cases hx
  rename_i hc
  obtain ⟨hl, hne, h100⟩ := hc
  split at hx
  case h_2 => cases hx
  rename_i n hn
  split at hx
  case isFalse => cases hx
  rename_i hn2
  cases hx
  obtain ⟨m, rfl⟩ := Int.eq_ofNat_of_zero_le hn2.1
  rw [Int.toNat_natCast]
  have hsz : s.data.toList.length = s.size := by rw [Array.length_toList]; rfl
  have hs0 : 0 < s.size := by rw [← hsz]; exact List.length_pos_iff.2 hne
  have hT := trimRight s ⟨setW.toArray⟩ (w.alloc (.cells #[.int .i64 0, .int .i64 0, .int .i64 0] 66)) hs0 (by omega) (by decide) (by decide) (fun j b hb => by have : b ∈ setW := List.mem_of_getElem? hb; clear hb; revert this; revert b; decide)
  rw [show (⟨setW.toArray⟩ : ByteArray).data.toList = setW from rfl] at hT
  change Calls _ _ _ _ (fun e w' => e = .returned (.string ⟨(wordName s.data.toList).toArray⟩) ∧ _) at hT
  have hC := fun w => Tryz.strings_Count_one s 46 w
  have hn' : Lib.countByte s.data.toList 46 = wordDots s.data.toList := rfl
  rw [hn'] at hC
  generalize hN : wordName s.data.toList = nm at *
  generalize hD : wordDots s.data.toList = d at *
  have HN := Lib.hid hN
  have HD := Lib.hid hD
  have HS := Lib.hid hsz
  have HL := Lib.hid hl
  have hl1 : (nm.length : Int) + (d : Int) ≤ (s.size : Int) := by omega
  have hl2 : nm.length + d ≤ s.size := by omega
  have hs100 : s.size < 100 := by omega
  have HA := fun w => Lib.hid (atoi_ok (s.extract (nm.length + d) s.size) (by simp; omega) m (by rw [Lib.extract_to_end]; exact hn) w)
  have HN2 := Lib.hid hn2
  clear hN hD hsz hl hn hn' hne h100 hs0
  go_enter Tryz.func53, Tryz.ntmps53
  go_wp2_with (first
    | (go_at_call 68; refine hT.mono ?_; rintro e w1 ⟨rfl, hb1⟩)
    | (go_at_call 69; refine (hC _).mono ?_; rintro e w' ⟨rfl, rfl⟩)
    | (go_at_call 38; refine (HA _).out.mono ?_; rintro e w2 ⟨rfl, hb2⟩; obtain ⟨hc2, hf2⟩ := bcell hb2)
    | (go_at_call 47; refine (spec_kinds _).mono ?_; rintro e w3 ⟨rfl, hb3⟩; obtain ⟨hc3, hf3⟩ := bcell hb3))
  have b2 : w2.heap.size + 1 ≤ w3.heap.size := by have := hb3.size; simp at this; omega
  have b1 : w.heap.size + 1 ≤ w2.heap.size := by have h1 := hb1.size; have h2 := hb2.size; simp at h1 h2; omega
  have BB : Below (w.heap.size + 1) (w.alloc (.cells #[.int .i64 0, .int .i64 0, .int .i64 0] 66)) w3 := by
    refine ((hb1.mono (by simp)).trans (hb2.mono (by have := hb1.size; simp at this ⊢; omega))).trans ?_
    exact ((Below.refl _ w2).alloc (by omega) _).trans (hb3.mono (by simp; omega))
  have K1 : Hid (w3.heap[w.heap.size]? = some (.cells #[.int .i64 0, .int .i64 0, .int .i64 0] 66 (0, 0))) := (BB.block _ (by omega)).trans (heap_alloc_new w _)
  have K2 : Hid (w3.heap[w2.heap.size]? = some (.cells #[.int .i64 0, .int .i64 d, .int .i64 m] 66 (0, 0))) := (hb3.block _ (by simp)).trans (heap_alloc_new w2 _)
  have BW : Aside (Below w.heap.size w w3) := ((Below.refl _ w).alloc (Nat.le_refl _) _).trans (BB.mono (by omega))
  clear hT hC HA hb1 hb2 hb3 hc2 hf2 hc3 hf3 BB hl1 hl2
  obtain ⟨B2, hB2⟩ : ∃ B2, B2 = w2.heap.size := ⟨_, rfl⟩
  rw [← hB2] at K2 b1 b2 ⊢
  clear hB2
  go_loopw [28] (fun i wr => ∃ kk : Nat, kk ≤ 5 ∧ i = .int .i64 kk ∧ Hid (wr.heap[w.heap.size]? = some (.cells #[.int .i64 0, .int .i64 0, .int .i64 0] 66 (0, 0))) ∧ Hid (wr.heap[B2]? = some (.cells #[.int .i64 (kindUpto nm kk), .int .i64 d, .int .i64 m] 66 (0, 0))) ∧ Aside (Below w.heap.size w wr)) (fun i _ => 5 - (intOf i).toNat)
  case atStart => exact ⟨0, by omega, rfl, K1, K2, BW⟩
  case round =>
    obtain ⟨kk, hk, rfl, J1, J2, JB⟩ := hrel
    have hlt : B2 < wr.heap.size := (Array.getElem?_eq_some_iff.1 J2.out).1
    have hlw : w.heap.size < B2 := by omega
    have c0 := blk_cell J2.out 0
    have c1 := blk_cell J2.out 1
    have c2 := blk_cell J2.out 2
    have f0 := blk_frozen J2.out
    have r0 := blk_cell J1.out 0
    have r1 := blk_cell J1.out 1
    have r2 := blk_cell J1.out 2
    have rf := blk_frozen J1.out
    simp only [List.getElem?_toArray, List.getElem?_cons_zero, List.getElem?_cons_succ] at c0 c1 c2 r0 r1 r2
    obtain ⟨kd, hkd⟩ : ∃ kd, kd = kindUpto nm kk := ⟨_, rfl⟩
    rw [← hkd] at c0
    have HKD := Lib.hid hkd
    clear hkd
    obtain rfl | rfl | rfl | rfl | rfl | rfl : kk = 5 ∨ kk = 0 ∨ kk = 1 ∨ kk = 2 ∨ kk = 3 ∨ kk = 4 := by omega
    · go_wp2
      rw [← HKD.out]
      exact bodyPost_ret (v := .agg #[.int .i64 kd, .int .i64 d, .int .i64 m]) (by simp [results, Tryz.results53, go_sem, r0, r1, r2]) rfl ⟨rfl, ((JB.out.setCell (Nat.le_refl _) _).setCell (Nat.le_refl _) _).setCell (Nat.le_refl _) _⟩
    · have ik := kinds_at0
      go_wp2
      · have hx : nm.isEmpty = true := by assumption
        have he : kindUpto nm 1 = 0 := if_pos (by show ([] : List UInt8) = nm; exact (List.isEmpty_iff.1 hx).symm)
        exact ⟨⟨1, by omega, rfl, blk_al (blk_far J1.out (by show _ ≠ B2; omega) _) _, by rw [he]; exact blk_al (blk_set J2.out 0 _) _, (JB.out.setCell (p := ⟨B2, 0, none⟩) (by show _ ≤ B2; omega) _).alloc (by simpa using JB.out.size) _⟩, by simp [intOf]⟩
      · have hx : nm.isEmpty = false := by assumption
        have he : kindUpto nm 1 = kd := (if_neg (by show ¬ ([] : List UInt8) = nm; rintro rfl; cases hx)).trans HKD.out.symm
        exact ⟨⟨1, by omega, rfl, blk_al J1.out _, by rw [he, HKD.out]; exact blk_al J2.out _, JB.out.alloc JB.out.size _⟩, by simp [intOf]⟩
    · have ik := kinds_at1
      go_wp2
      · have hx : ([110] == nm) = true := by assumption
        have he : kindUpto nm 2 = 1 := if_pos (by show ([110] : List UInt8) = nm; exact eq_of_beq hx)
        exact ⟨⟨2, by omega, rfl, blk_al (blk_far J1.out (by show _ ≠ B2; omega) _) _, by rw [he]; exact blk_al (blk_set J2.out 0 _) _, (JB.out.setCell (p := ⟨B2, 0, none⟩) (by show _ ≤ B2; omega) _).alloc (by simpa using JB.out.size) _⟩, by simp [intOf]⟩
      · have hx : ([110] == nm) = false := by assumption
        have he : kindUpto nm 2 = kd := (if_neg (by show ¬ ([110] : List UInt8) = nm; exact fun h => by rw [h] at hx; simp at hx)).trans HKD.out.symm
        exact ⟨⟨2, by omega, rfl, blk_al J1.out _, by rw [he, HKD.out]; exact blk_al J2.out _, JB.out.alloc JB.out.size _⟩, by simp [intOf]⟩
    · have ik := kinds_at2
      go_wp2
      · have hx : ([97, 110] == nm) = true := by assumption
        have he : kindUpto nm 3 = 2 := if_pos (by show ([97, 110] : List UInt8) = nm; exact eq_of_beq hx)
        exact ⟨⟨3, by omega, rfl, blk_al (blk_far J1.out (by show _ ≠ B2; omega) _) _, by rw [he]; exact blk_al (blk_set J2.out 0 _) _, (JB.out.setCell (p := ⟨B2, 0, none⟩) (by show _ ≤ B2; omega) _).alloc (by simpa using JB.out.size) _⟩, by simp [intOf]⟩
      · have hx : ([97, 110] == nm) = false := by assumption
        have he : kindUpto nm 3 = kd := (if_neg (by show ¬ ([97, 110] : List UInt8) = nm; exact fun h => by rw [h] at hx; simp at hx)).trans HKD.out.symm
        exact ⟨⟨3, by omega, rfl, blk_al J1.out _, by rw [he, HKD.out]; exact blk_al J2.out _, JB.out.alloc JB.out.size _⟩, by simp [intOf]⟩
    · have ik := kinds_at3
      go_wp2
      · have hx : ([97, 110, 115] == nm) = true := by assumption
        have he : kindUpto nm 4 = 3 := if_pos (by show ([97, 110, 115] : List UInt8) = nm; exact eq_of_beq hx)
        exact ⟨⟨4, by omega, rfl, blk_al (blk_far J1.out (by show _ ≠ B2; omega) _) _, by rw [he]; exact blk_al (blk_set J2.out 0 _) _, (JB.out.setCell (p := ⟨B2, 0, none⟩) (by show _ ≤ B2; omega) _).alloc (by simpa using JB.out.size) _⟩, by simp [intOf]⟩
      · have hx : ([97, 110, 115] == nm) = false := by assumption
        have he : kindUpto nm 4 = kd := (if_neg (by show ¬ ([97, 110, 115] : List UInt8) = nm; exact fun h => by rw [h] at hx; simp at hx)).trans HKD.out.symm
        exact ⟨⟨4, by omega, rfl, blk_al J1.out _, by rw [he, HKD.out]; exact blk_al J2.out _, JB.out.alloc JB.out.size _⟩, by simp [intOf]⟩
    · have ik := kinds_at4
      go_wp2
      · have hx : ([98] == nm) = true := by assumption
        have he : kindUpto nm 5 = 4 := if_pos (by show ([98] : List UInt8) = nm; exact eq_of_beq hx)
        exact ⟨⟨5, by omega, rfl, blk_al (blk_far J1.out (by show _ ≠ B2; omega) _) _, by rw [he]; exact blk_al (blk_set J2.out 0 _) _, (JB.out.setCell (p := ⟨B2, 0, none⟩) (by show _ ≤ B2; omega) _).alloc (by simpa using JB.out.size) _⟩, by simp [intOf]⟩
      · have hx : ([98] == nm) = false := by assumption
        have he : kindUpto nm 5 = kd := (if_neg (by show ¬ ([98] : List UInt8) = nm; exact fun h => by rw [h] at hx; simp at hx)).trans HKD.out.symm
        exact ⟨⟨5, by omega, rfl, blk_al J1.out _, by rw [he, HKD.out]; exact blk_al J2.out _, JB.out.alloc JB.out.size _⟩, by simp [intOf]⟩
end Go.Proofs.YtbafhmhjkoelnaaGreatDoor
