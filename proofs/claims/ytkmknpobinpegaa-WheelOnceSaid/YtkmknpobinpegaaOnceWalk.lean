/- The walk of WheelOnce: what is set is due once, by the last Set alone. -/
import Derived.Test.YtkmknpobinpegaaTurns
import Derived.LoopTactic
import Derived.OpenShut
namespace Go.Proofs.Ytkmknpobinpegaa
set_option linter.unusedSimpArgs false
set_option linter.unusedVariables false
open Go Go.RowKit Go.Maps Go.Sort Go.Lib Go.Shelf

def onceL (a last t : Nat) : WL := if t < last then [(a, last)] else []
theorem onceL_later (a last t : Nat) : laterL (onceL a last t) (t + 1) = onceL a last (t + 1) := by
  unfold onceL laterL
  by_cases h1 : t < last
  · by_cases h2 : t + 1 < last
    · rw [if_pos h1, if_pos h2]; simp; omega
    · rw [if_pos h1, if_neg h2]; simp; omega
  · rw [if_neg h1, if_neg (by omega)]; rfl
theorem onceL_len (a last t : Nat) : (onceL a last t).length ≤ 100000 := by unfold onceL; split <;> simp

set_option maxRecDepth 8000 in
set_option maxHeartbeats 1000000 in
theorem once_walk (a0 : Int) (a1 : Option Addr) (len1 cap1 : Nat) (z1 : List Int) (w : World) (w0 : (Lit.int .u16 a0).wf = true) (w1 : InRow .i64 w a1 len1 cap1 z1) :
    Calls Try.prog 3 #[.int .u16 a0, .slice a1 len1 cap1] w fun e w' => e = .returned (.bool true) ∧ Below w.heap.size w w' := by
  obtain ⟨a, rfl, ha⟩ : ∃ a : Nat, a0 = (a : Int) ∧ a < 65536 := by
    have := bounds_u16 w0
    exact ⟨a0.toNat, by omega, by omega⟩
  have hle := w1.le
  unfold maxLen at hle
  go_enter Try.func3, Try.ntmps3
  go_wp2_with fail
  refine (made_c w).mono ?_
  rintro e wA ⟨S1, b, rfl, hW1, hS1, hB1⟩
  have hltA := hB1.size
  go_wp2_with fail
  refine (turns_c wA).mono ?_
  rintro e wB ⟨rfl, hBB⟩
  have hWB := hW1.keep (fun k hk => hBB.block k (hW1.lt k hk)) hBB.size
  have hB2 := hB1.trans (hBB.mono hltA)
  have hltB := hB2.size
  go_wp2_with fail
  refine (set_c wB _ b 0 [] a 5 hWB ha (by omega) (by omega) (by omega) (by simp)).mono ?_
  rintro e wC ⟨rfl, SC, hWC, hFC, hSC⟩
  have hWC : WheelAt wC SC b 0 [(a, 5)] := hWC
  have hBC := hB2.trans (hFC.below (B := w.heap.size) hS1 hltB)
  have hSC' : ∀ k, SC k → w.heap.size ≤ k := fun k hk => by rcases hSC k hk with h | h; exact hS1 k h; omega
  have hWC' := Lib.hid hWC
  have hBC' := Lib.hid hBC
  clear hWC hBC hFC hSC hS1 hB2 hB1 hBB hWB hW1
  go_wp2
  go_loopw [6, 7] (fun s6 s7 wr => ∃ (i last : Nat) (S : Nat → Prop), i ≤ len1 ∧ i ≤ 10 ∧ 1 ≤ last ∧ last ≤ 100 ∧ s6 = .int .i64 (last : Int) ∧ s7 = .int .i64 (i : Int) ∧
      Aside (WheelAt wr S b 0 [(a, last)] ∧ (∀ k, S k → w.heap.size ≤ k) ∧ Below w.heap.size w wr))
    (fun _ s7 _ => 10 - (intOf s7).toNat)
  case atStart => exact ⟨0, 5, SC, Nat.zero_le _, by omega, by omega, by omega, rfl, rfl, hWC'.out, hSC', hBC'.out⟩
  case round =>
    obtain ⟨i, last, S, hi, hi10, hl0, hl1, rfl, rfl, hA⟩ := hrel
    by_cases hx : i < len1 ∧ i < 10
    · obtain ⟨hlt, h10⟩ := hx
      · have hA' := Lib.hid hA
        obtain ⟨x, n, rfl, hcell, hwf, _⟩ := w1.get hA'.out.2.2 hlt
        have hnr := bounds_i64 hwf
        clear hA
        go_wp2_with fail
        obtain ⟨d, hd0, hd1, hd⟩ := within (z1[i]?.getD 0) 100 (by omega) (by omega)
        rw [show ((100 : Nat) : Int) = 100 from rfl] at hd
        rw [hd]
        have hd' := Lib.hid hd
        clear hd
        refine (set_c wr S b 0 [(a, last)] a d hA'.out.1 ha (by omega) hd0 (by omega) (by simp)).mono ?_
        rintro e wD ⟨rfl, SD, hWD, hFD, hSD⟩
        rw [dropL_single, Nat.zero_add] at hWD
        have hWD' := Lib.hid hWD
        have hFD' := Lib.hid hFD
        clear hWD hFD
        go_wp2
        refine ⟨⟨i + 1, d, SD, by omega, by omega, hd0, hd1, rfl, by go_num, hWD'.out, ?_, ?_⟩, by simp [intOf]; omega⟩
        · intro k hk
          have := hA'.out.2.2.size
          rcases hSD k hk with h | h
          · exact hA'.out.2.1 k h
          · omega
        · exact hA'.out.2.2.trans (hFD'.out.below hA'.out.2.1 hA'.out.2.2.size)
    · have hx' : ¬ i < len1 ∨ (i < len1 ∧ ¬ i < 10) := by omega
      clear hx
      have hA' := Lib.hid hA
      clear hA
      rcases hx' with h | ⟨h, h'⟩
      all_goals
        go_wp2
        go_loopw [8] (fun s8 wr => ∃ (t : Nat) (S : Nat → Prop), t ≤ 120 ∧ s8 = .int .i64 ((t : Int) + 1) ∧
            Aside (WheelAt wr S b t (onceL a last t) ∧ (∀ k, S k → w.heap.size ≤ k) ∧ Below w.heap.size w wr))
          (fun s8 _ => 121 - (intOf s8).toNat)
        case atStart => exact ⟨0, S, by omega, rfl, by have := hA'.out.1; unfold onceL; rw [if_pos (by omega)]; exact this, hA'.out.2.1, hA'.out.2.2⟩
        case round =>
          obtain ⟨t, S, ht, rfl, hA⟩ := hrel
          have hA' := Lib.hid hA
          clear hA
          by_cases hlt : t < 120
          · go_wp2_with fail
            refine (tick_c _ S b t _ hA'.out.1 (by omega) (onceL_len _ _ _)).mono ?_
            rintro e wD ⟨v, l, SD, rfl, hWD, hFD, hSD, hRD, hOD, hsD, hmD⟩
            rw [onceL_later] at hWD
            have hz := hA'.out.2.2.size
            have hBD := Lib.hid (hA'.out.2.2.trans (hFD.below hA'.out.2.1 hz))
            have hSD' : ∀ k, SD k → w.heap.size ≤ k := fun k hk => by rcases hSD k hk with h | h; exact hA'.out.2.1 k h; omega
            have hWD' := Lib.hid hWD
            clear hWD hFD hSD hOD
            by_cases hd : t + 1 = last
            · obtain rfl : l = [a] := strict_one hsD (fun y => (hmD y).trans (by subst hd; simp [onceL]))
              obtain ⟨g, c, rfl, hc1, _, _, _, hcell⟩ := rowAt_one hRD
              clear hmD hsD hRD
              have hb1 : (((t : Int) + 1) == (last : Int)) = true := by rw [beq_iff_eq]; omega
              go_wp2
              exact ⟨⟨t + 1, SD, by omega, by go_num, hWD'.out, hSD', hBD.out⟩, by simp [intOf]; omega⟩
            · obtain rfl : l = [] := strict_nil (fun y => (hmD y).trans (by unfold onceL; split <;> simp; omega))
              obtain ⟨ga, c, rfl⟩ := rowAt_nil hRD
              clear hmD hsD hRD
              have hb1 : (((t : Int) + 1) == (last : Int)) = false := by rw [beq_eq_false_iff_ne]; omega
              go_wp2
              exact ⟨⟨t + 1, SD, by omega, by go_num, hWD'.out, hSD', hBD.out⟩, by simp [intOf]; omega⟩
          · obtain rfl : t = 120 := by omega
            go_wp2_with fail
            have hW := hA'.out.1
            unfold onceL at hW
            rw [if_neg (by omega)] at hW
            refine (len_c _ S b 120 _ hW).mono ?_
            rintro e wD ⟨rfl, rfl⟩
            go_wp2
            go_ret
            exact ⟨rfl, hA'.out.2.2⟩
#print axioms once_walk
end Go.Proofs.Ytkmknpobinpegaa
