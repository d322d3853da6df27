/-
  Package spec: the octets of a kind.
-/
import Derived.Test.YtbafhmhjkoelnaaGreatDoorF
import Derived.Deep.RegionWith
import Derived.Deep.RegionHeld3
namespace Go.Proofs.YtbafhmhjkoelnaaGreatDoor
open Go.RowKit

/-- The octets of a kind. -/
def hasK (k : Nat) (c : UInt8) : Bool :=
  match k with
  | 1 => decide (48 ≤ c.toNat) && decide (c.toNat ≤ 57)
  | 2 => (decide (48 ≤ c.toNat) && decide (c.toNat ≤ 57)) || (decide (97 ≤ c.toNat ||| 32) && decide (c.toNat ||| 32 ≤ 122)) || decide (c.toNat = 32)
  | 3 => decide (32 ≤ c.toNat) && decide (c.toNat ≤ 126)
  | _ => true
def letterI (c : Int) : Bool := decide (97 ≤ Go.bits .or .u8 c 32) && decide (Go.bits .or .u8 c 32 ≤ 122)
theorem spec_letter (c : Int) (w : World) : Calls Tryz.prog 56 #[.int .u8 c] w fun e w' => e = .returned (.bool (letterI c)) ∧ w' = w := by
  unfold letterI
  by_cases h1 : 97 ≤ Go.bits .or .u8 c 32
  all_goals
    by_cases h2 : Go.bits .or .u8 c 32 ≤ 122
    all_goals
      go_enter Tryz.func56, Tryz.ntmps56
      go_wp2
      go_ret
      exact ⟨by simp [h1, h2], rfl⟩
def digitI (c : Int) : Bool := decide (48 ≤ c) && decide (c ≤ 57)
def hasI (k : Nat) (c : Int) : Bool :=
  match k with
  | 1 => digitI c
  | 2 => digitI c || letterI c || decide (c = 32)
  | 3 => decide (32 ≤ c) && decide (c ≤ 126)
  | _ => true
theorem spec_k2 (c : Int) (w : World) : Calls Tryz.prog 55 #[.int .u8 c] w fun e w' => e = .returned (.bool (hasI 2 c)) ∧ w' = w := by
  show Calls _ _ _ _ fun e w' => e = .returned (.bool (digitI c || letterI c || decide (c = 32))) ∧ w' = w
  have hd := fun w => spec_digit c w
  change ∀ w, Calls _ _ _ w fun e w' => e = .returned (.bool (digitI c)) ∧ w' = w at hd
  have hl := fun w => spec_letter c w
  generalize digitI c = d at *
  generalize letterI c = l at *
  have h3 : c = 32 ∨ ¬ c = 32 := by omega
  cases d <;> cases l <;> rcases h3 with rfl | h3
  all_goals
    go_enter Tryz.func55, Tryz.ntmps55
    go_wp2_with (first
      | (go_at_call 54; refine (hd _).mono ?_; rintro e w' ⟨rfl, rfl⟩)
      | (go_at_call 56; refine (hl _).mono ?_; rintro e w' ⟨rfl, rfl⟩))
    go_ret
    exact ⟨by first | rfl | simp [h3], rfl⟩
theorem spec_k3 (c : Int) (w : World) : Calls Tryz.prog 57 #[.int .u8 c] w fun e w' => e = .returned (.bool (hasI 3 c)) ∧ w' = w := by
  show Calls _ _ _ _ fun e w' => e = .returned (.bool (decide (32 ≤ c) && decide (c ≤ 126))) ∧ w' = w
  by_cases h1 : 32 ≤ c
  all_goals
    by_cases h2 : c ≤ 126
    all_goals
      go_enter Tryz.func57, Tryz.ntmps57
      go_wp2
      go_ret
      exact ⟨by simp [h1, h2], rfl⟩
theorem spec_k4 (c : Int) (w : World) : Calls Tryz.prog 58 #[.int .u8 c] w fun e w' => e = .returned (.bool (hasI 4 c)) ∧ w' = w := by
  go_enter Tryz.func58, Tryz.ntmps58
  go_wp2
  go_ret
  exact ⟨rfl, rfl⟩
/-- The function of a kind. -/
def fnK (k : Nat) : Nat := match k with | 1 => 54 | 2 => 55 | 3 => 57 | _ => 58
theorem spec_fn (k : Nat) (h1 : 1 ≤ k) (h4 : k ≤ 4) (c : Int) (w : World) : Calls Tryz.prog (fnK k) #[.int .u8 c] w fun e w' => e = .returned (.bool (hasI k c)) ∧ w' = w := by
  obtain rfl | rfl | rfl | rfl : k = 1 ∨ k = 2 ∨ k = 3 ∨ k = 4 := by omega
  · exact spec_digit c w
  · exact spec_k2 c w
  · exact spec_k3 c w
  · exact spec_k4 c w
theorem fn_enters (k : Nat) (h1 : 1 ≤ k) (h4 : k ≤ 4) : ∀ args w, (callFunc (fnK k) args).run Tryz.prog w = .ok (.enter (fnK k) args) w := by
  obtain rfl | rfl | rfl | rfl : k = 1 ∨ k = 2 ∨ k = 3 ∨ k = 4 := by omega
  · exact enters_of Tryz.func54 (by kernel_rfl) rfl
  · exact enters_of Tryz.func55 (by kernel_rfl) rfl
  · exact enters_of Tryz.func57 (by kernel_rfl) rfl
  · exact enters_of Tryz.func58 (by kernel_rfl) rfl
theorem kinds_at (k : Nat) (h1 : 1 ≤ k) (h4 : k ≤ 4) (w : World) : ∃ s, (Instr.index 88 (.agg kindsV) (.int .i64 k)).run Tryz.prog w = .ok (.agg #[.string s, .func (.func (fnK k)) #[] #[]]) w := by
  obtain rfl | rfl | rfl | rfl : k = 1 ∨ k = 2 ∨ k = 3 ∨ k = 4 := by omega
  · exact ⟨_, kinds_at1 w⟩
  · exact ⟨_, kinds_at2 w⟩
  · exact ⟨_, kinds_at3 w⟩
  · exact ⟨_, kinds_at4 w⟩
/-- Has a text only octets of a kind? -/
def pureL (k : Nat) (l : List UInt8) : Bool := l.all fun c => hasI k (c.toNat : Int)

theorem bytes_snoc (s : ByteArray) (k : Nat) (h : k < s.size) : s.data.toList.take (k + 1) = s.data.toList.take k ++ [s[k]] := by
  rw [take_snoc s.data.toList k s[k] (by rw [List.getElem?_eq_getElem (by rw [Array.length_toList]; exact h)]; rfl)]
theorem bytes_mem (s : ByteArray) (k : Nat) (h : k < s.size) : s[k] ∈ s.data.toList := by
  have : s.data.toList[k]? = some s[k] := by rw [List.getElem?_eq_getElem (by rw [Array.length_toList]; exact h)]; rfl
  exact List.mem_of_getElem? this
set_option maxRecDepth 100000 in
set_option maxHeartbeats 2000000 in
theorem spec_pure (k a b : Nat) (h1 : 1 ≤ k) (h4 : k ≤ 4) (s : ByteArray) (hs : s.size ≤ 100000) (w : World) :
    Calls Tryz.prog 37 #[.agg #[.int .i64 k, .int .i64 a, .int .i64 b], .string s] w fun e w' => e = .returned (.bool (pureL k s.data.toList)) ∧ Below w.heap.size w w' := by
  have hI := kinds_at k h1 h4
  have hE := fn_enters k h1 h4
  have hF := fun c W => spec_fn k h1 h4 c W
  generalize fnK k = g at *
  generalize hV : kindsV = V at *
  have hK := fun W => spec_kinds W
  rw [hV] at hK
  clear hV
  have hfd : ∀ (nm : ByteArray) (w : World), (Instr.field 87 (.agg #[.string nm, .func (.func g) #[] #[]]) 1).run Tryz.prog w = .ok (.func (.func g) #[] #[]) w := fun nm w => by kernel_rfl
  have HF := Lib.hid hF
  clear hF
  go_enter Tryz.func37, Tryz.ntmps37
  go_wp2_with fail
  go_region_with (first
    | (go_at_call 47; refine (hK _).mono ?_; rintro e w2 ⟨rfl, hb2⟩; obtain ⟨hz2, hf2, hc0, hc1, hc2⟩ := blkf3 ((hb2.block _ (by simp)).trans (heap_alloc_new w _)); obtain ⟨nm, hi⟩ := hI w2))
  all_goals
    have hbb : Aside (Below w.heap.size w w2) := (Below.drew (alloc1 w _)).trans (hb2.mono (by simp))
    clear hb2 hz2 hf2 hc0 hc1 hc2 hI hi hfd hK
    go_wp2
    go_loop [14] (fun i => ∃ kk : Nat, kk ≤ s.size ∧ i = .int .i64 kk ∧ Hid (pureL k (s.data.toList.take kk) = true)) (fun i => s.size - (intOf i).toNat)
    case atStart => exact ⟨0, Nat.zero_le _, rfl, rfl⟩
    case round =>
      obtain ⟨kk, hk, rfl, HP⟩ := hrel
      by_cases hlt : kk < s.size
      · have hltz : (kk : Int) < (s.size : Int) := by omega
        have HT := Lib.hid (bytes_snoc s kk hlt)
        go_wp2_with (go_at_fn g; refine (HF.out _ _).mono ?_; rintro e w' ⟨rfl, rfl⟩)
        · have hx : (!hasI k (s[kk].toNat : Int)) = true := by assumption
          go_ret
          refine ⟨ret_bool (a := false) ?_, hbb⟩
          rw [Bool.eq_iff_iff]
          simp only [Bool.false_eq_true, false_iff, pureL, List.all_eq_true]
          intro hall
          have := hall s[kk] (bytes_mem s kk hlt)
          rw [this] at hx; cases hx
        · have hx : (!hasI k (s[kk].toNat : Int)) = false := by assumption
          refine ⟨⟨kk + 1, by omega, rfl, ?_⟩, by simp [intOf]; omega⟩
          show pureL k _ = true
          rw [HT.out]
          have h2 := HP.out
          unfold pureL at h2 ⊢
          rw [List.all_append, h2]
          simpa using hx
      · have hltz : ¬ (kk : Int) < (s.size : Int) := by omega
        go_wp2
        go_ret
        refine ⟨?_, hbb⟩
        rw [← HP.out, List.take_of_length_le (by rw [Array.length_toList]; show s.size ≤ kk; omega)]
        rfl
end Go.Proofs.YtbafhmhjkoelnaaGreatDoor
