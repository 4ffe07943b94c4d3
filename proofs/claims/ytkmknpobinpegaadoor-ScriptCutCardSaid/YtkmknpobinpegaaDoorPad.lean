/- bitio's Pad. -/
import Derived.Test.YtkmknpobinpegaaDoorScrTake
namespace Go.Proofs.YtkmknpobinpegaaDoor
open Go Go.RowKit Go.Maps Go.Sort Go.Lib
set_option linter.unusedSimpArgs false
set_option linter.unusedVariables false

theorem RrIn.rd {w : World} {S : Nat → Prop} {rb c : Nat} {a : Option Addr} {rest : List Nat} (h : RrIn w S rb a c rest) : Rd encB w S (.slice a rest.length c) rest := by
  refine ⟨a, c, rfl, h.le, h.cm, fun h0 => ?_⟩
  obtain ⟨g, off, rfl, h1, h2, h3⟩ := h.row h0
  exact ⟨_, rfl, h1, h.lt g h1, fun j hj => by rw [Addr.add_lit]; exact h3 j hj⟩
def padN (rest : List Nat) : Int := if 8 ≤ rest.length then 3 else if (rest.filter fun y => y != 0).length ≠ 0 then 5 else 0
theorem pad_c (w : World) (S : Nat → Prop) (rb : Nat) (rest : List Nat) (h : RrAt w S rb rest) :
    Calls Tryd.prog 28 #[.pointer (some ⟨rb, 0, none⟩)] w fun e w' => e = .returned (.int .i64 (padN rest)) ∧ Fr (fun k => k = rb) w w' := by
  obtain ⟨a, c, H⟩ := h
  have c0 := H.c0
  have f0 := H.fr
  have hcm := H.cm
  have hle := H.le
  unfold maxLen at hcm
  by_cases h8 : 8 ≤ rest.length
  · have e1 : padN rest = 3 := if_pos h8
    rw [e1]
    clear e1
    go_enter Tryd.func28, Tryd.ntmps28
    go_wp2
    go_ret
    exact ⟨rfl, Fr.refl _ _⟩
  · have hW := weight_c w S _ rest H.rd (fun y hy => by have := H.bit y hy; omega) (by omega)
    by_cases hz : (rest.filter fun y => y != 0).length = 0
    · have e1 : padN rest = 0 := by unfold padN; rw [if_neg h8, if_neg (by simp; simpa using hz)]
      rw [e1]
      rw [hz] at hW
      clear e1 hz
      go_enter Tryd.func28, Tryd.ntmps28
      go_wp2_with fail
      refine hW.mono ?_
      rintro e w1 ⟨rfl, hw1⟩
      subst w1
      go_wp2
      go_ret
      exact ⟨rfl, Fr.setCell (S := fun k => k = rb) (p := ⟨rb, 0, none⟩) (Fr.refl _ w) (.inl rfl) _⟩
    · have e1 : padN rest = 5 := by unfold padN; rw [if_neg h8, if_pos hz]
      rw [e1]
      generalize (rest.filter fun y => y != 0).length = q at hW hz
      have hb : ((q : Int) != 0) = true := by simp; exact hz
      clear e1
      go_enter Tryd.func28, Tryd.ntmps28
      go_wp2_with fail
      refine hW.mono ?_
      rintro e w1 ⟨rfl, hw1⟩
      subst w1
      go_wp2
      go_ret
      exact ⟨rfl, Fr.refl _ _⟩
#print axioms pad_c
end Go.Proofs.YtkmknpobinpegaaDoor
