/- bits.Right of a list of bits. -/
import Derived.Test.YtkmknpobinpegaaDoorScrStep
namespace Go.Proofs.YtkmknpobinpegaaDoor
open Go Go.RowKit Go.Maps Go.Sort Go.Lib
set_option linter.unusedSimpArgs false
set_option linter.unusedVariables false

theorem right1_c (y : Nat) (h : y ≤ 1) (w : World) : Calls Tryd.prog 45 #[.int .u8 (y : Int)] w fun e w' => e = .returned (.bool false) ∧ w' = w := by
  have hb : ¬ (1 : Int) < (y : Int) := by omega
  go_enter Tryd.func45, Tryd.ntmps45
  go_wp2
  go_ret
  refine ⟨?_, rfl⟩
  have hb' : y ≤ 1 := h
  simp [hb']

theorem indexFunc_c (w : World) (T : Nat → Prop) (v : Value) (xs : List Nat) (h : Rd encB w T v xs) (hb : ∀ y ∈ xs, y ≤ 1) :
    Calls Tryd.prog 47 #[v, .func (.func 45) #[] #[]] w fun e w' => e = .returned (.int .i64 (-1)) ∧ w' = w := by
  obtain ⟨a, c, rfl, hc, hm, hh⟩ := h
  unfold maxLen at hm
  go_enter Tryd.func47, Tryd.ntmps47
  go_wp2
  go_loopw [8] (fun s8 wr => ∃ j : Nat, j ≤ xs.length ∧ s8 = .int .i64 (j : Int) ∧ wr = w)
    (fun s8 _ => xs.length - (intOf s8).toNat)
  case atStart => exact ⟨0, Nat.zero_le _, rfl, rfl⟩
  case round =>
    obtain ⟨j, hj, rfl, hw⟩ := hrel
    subst wr
    by_cases hlt : j < xs.length
    · obtain ⟨x, rfl, _, _, hcell⟩ := hh (by omega)
      have h1 := hcell j hlt
      clear hcell
      have h2 := hb xs[j]! (by rw [getElem!_pos xs j hlt]; exact List.getElem_mem hlt)
      generalize xs[j]! = y at h1 h2
      go_wp2_with fail
      refine (right1_c y h2 w).mono ?_
      rintro e w1 ⟨rfl, hw1⟩
      subst w1
      go_wp2
      exact ⟨⟨j + 1, by omega, by go_num, by first | rfl | trivial⟩, by simp [intOf]; omega⟩
    · obtain rfl : j = xs.length := by omega
      go_wp2
      go_ret
      exact ⟨rfl, rfl⟩
theorem right_c (w : World) (T : Nat → Prop) (v : Value) (xs : List Nat) (h : Rd encB w T v xs) (hb : ∀ y ∈ xs, y ≤ 1) :
    Calls Tryd.prog 39 #[v] w fun e w' => e = .returned (.bool true) ∧ w' = w := by
  go_enter Tryd.func39, Tryd.ntmps39
  go_wp2_with fail
  refine Calls.mono (R := fun e w' => e = .returned (.bool false) ∧ w' = w) ?_ ?_
  · go_enter Tryd.func44, Tryd.ntmps44
    go_wp2_with fail
    refine (indexFunc_c w T v xs h hb).mono ?_
    rintro e w1 ⟨rfl, hw1⟩
    subst w1
    go_wp2
    go_ret
    exact ⟨rfl, rfl⟩
  · rintro e w1 ⟨rfl, hw1⟩
    subst w1
    go_wp2
    go_ret
    exact ⟨rfl, rfl⟩
#print axioms right_c
end Go.Proofs.YtkmknpobinpegaaDoor
