/- The statement's scripts: nine bytes of no step. -/
import Derived.Test.YtkmknpobinpegaaDoorLawSmall
import Derived.Test.YtkmknpobinpegaaDoorScrWrite2
import Derived.Test.YtkmknpobinpegaaDoorPureScr
import Derived.Laws.StructEq
namespace Go.Proofs.YtkmknpobinpegaaDoor
open Go Go.RowKit Go.Maps Go.Sort Go.Lib
set_option linter.unusedSimpArgs false
set_option linter.unusedVariables false

def c12345 : Cfg := ⟨1, 2, 3, 4, 5⟩
theorem okC : CfgOk c12345 := ⟨by unfold numOk c12345; decide, by unfold numOk c12345; decide, by unfold numOk c12345; decide, by decide, by decide, by unfold numOk c12345; decide⟩
theorem write0 : ∃ L, writeS c12345 [] = some L ∧ parts8 L.length = 9 := ⟨_, rfl, rfl⟩
theorem Rd.none {w : World} : Rd encB w (fun _ => False) (.slice none 0 0) [] := ⟨Option.none, 0, rfl, Nat.le_refl _, Nat.zero_le _, fun h => absurd h (by simp)⟩
theorem stps_none (w : World) (T : Nat → Prop) : StpsAt w T (.slice none 0 0) [] := ⟨Option.none, 0, rfl, Nat.le_refl _, Nat.zero_le _, fun j h => absurd h (by simp)⟩
theorem bytesOf_lt {L : List Nat} (h : ∀ y ∈ L, y ≤ 1) : ∀ y ∈ bytesOf L, y < 256 := by
  intro y hy
  unfold bytesOf at hy
  obtain ⟨k, _, rfl⟩ := List.mem_map.1 hy
  exact byteOf_lt h k
theorem writeS_bit {c : Cfg} {xs : List Stp} {L : List Nat} (h : writeS c xs = some L) : ∀ y ∈ L, y ≤ 1 := by
  rw [(writeS_some h).1]; exact allB_bit c xs
/-- '==' of an array of five numbers with itself. -/
theorem eq5 (a b c d e : Int) (w : World) : (Op.equalIn 10000 22 (.agg #[.int .i64 a, .int .i64 b, .int .i64 c, .int .i64 d, .int .i64 e]) (.agg #[.int .i64 a, .int .i64 b, .int .i64 c, .int .i64 d, .int .i64 e])).run Tryd.prog w = .ok true w := by
  have u3 := Tryd.underlying3
  have a3 := Tryd.isAgg3
  have z3 := Tryd.sizeOf3
  rw [show (10000 : Nat) = 9999 + 1 from rfl, Op.equalIn]
  simp only [Sem.run_bind, run_underlying Tryd.underlying22, Result.andThen_ok]
  simp only [Std.Legacy.Range.forIn_eq_forIn_range', Std.Legacy.Range.size, Nat.sub_zero, Nat.add_sub_cancel, Nat.div_one, List.range'_succ, List.range'_zero, List.forIn_cons, List.forIn_nil]
  go_simp

set_option maxRecDepth 8000 in
set_option maxHeartbeats 4000000 in
theorem scripts_c (w : World) (hg : Glob w) : Calls Tryd.prog 9 #[] w fun e w' => e = .returned (.bool true) ∧ Below w.heap.size w w' := by
  have hc := cfg_c w c12345 (by decide) (by decide)
  unfold fiveV c12345 at hc
  simp only at hc
  have hg1 := Lib.hid hg
  clear hg
  go_enter Tryd.func9, Tryd.ntmps9
  go_wp2_with fail
  refine hc.mono ?_
  rintro e w1 ⟨rfl, hB1⟩
  have hwc := Write_c w1 (fun _ => False) c12345 (.slice none 0 0) [] (hg1.out.below hB1) okC (by simp) (stps_none _ _) (by simp)
  unfold cfgV c12345 at *
  simp only at *
  go_wp2_with fail
  refine hwc.mono ?_
  rintro e w2 ⟨v, k, rfl, hB2, hm⟩
  obtain ⟨L, hL, h9⟩ := write0
  unfold c12345 at hL
  rw [hL] at hm
  obtain ⟨rfl, hown⟩ := hm
  obtain ⟨sa, sl, sc, rfl⟩ := ownsRow_slice hown
  have hsl : sl = 9 := by obtain ⟨_, a, c, e, _⟩ := ownsRow_open hown; injection e with _ e2; rw [h9] at e2; exact e2
  subst hsl
  have hB12 := hB1.trans (hB2.mono hB1.size)
  have hlb : (bytesOf L).length = 9 := by rw [bytesOf_length, h9]
  have hrc := Read_c w2 _ _ (bytesOf L) (hg1.out.below hB12) (ownsRow_rd (enc := encB) hown) (bytesOf_lt (writeS_bit hL)) (by omega)
  rw [law_back hL] at hrc
  have hs := Lib.hid hL
  clear hwc hL hown hc
  go_wp2_with fail
  refine hrc.mono ?_
  rintro e w3 ⟨c, lv, k, rfl, hB3, rfl, rfl, hst⟩
  obtain ⟨la, lc, rfl, _⟩ := hst
  have hB123 := hB12.trans (hB3.mono hB12.size)
  clear hrc
  unfold cfgV
  simp only [List.length_nil]
  go_wp2_with fail
  obtain ⟨w4, hw4⟩ : ∃ w4, w4 = w3.alloc (.cells #[.int .i64 1, .int .i64 2, .int .i64 3, .int .u16 4, .int .i64 5] 36) := ⟨_, rfl⟩
  obtain ⟨p, hp⟩ : ∃ p, p = w3.heap.size := ⟨_, rfl⟩
  have hB34 : Below w3.heap.size w3 w4 := by rw [hw4]; exact (Below.refl _ _).alloc (Nat.le_refl _) _
  have hK4 : KC w4 p (cfgL c12345) := cfgL_cells (c := c12345) (by rw [hw4, hp]; exact heap_alloc_new w3 _)
  rw [← hw4, ← hp]
  clear hw4
  have hB4 := hB123.trans (hB34.mono hB123.size)
  have hrc := Read_c w4 _ _ [] (hg1.out.below hB4) (Rd.none) (by simp) (by simp)
  have hp4 : p < w4.heap.size := hK4.lt
  have hx4 := Lib.hid (And.intro hK4 (And.intro hB4 hp))
  clear hB34 hK4 hB4 hB1 hB2 hB3 hB12 hB123 hp
  refine hrc.mono ?_
  rintro e w5 ⟨c, lv, k, rfl, hB5, hm⟩
  rw [show readR (unbits []) = .bad 2 from rfl] at hm
  obtain ⟨rfl, rfl, rfl⟩ := hm
  clear hrc
  have hK5 : KC w5 p (cfgL c12345) := hx4.out.1.block (hB5.block p hx4.out.1.lt)
  have q0 := hK5.c 0 (by omega)
  have q1 := hK5.c 1 (by omega)
  have q2 := hK5.c 2 (by omega)
  have q3 := hK5.c 3 (by omega)
  have q4 := hK5.c 4 (by omega)
  simp only [cfgL, c12345] at q0 q1 q2 q3 q4
  simp at q0 q1 q2 q3 q4
  have hp5 : p < w5.heap.size := hK5.lt
  have hx5 := Lib.hid hB5
  clear hB5 hK5
  have hbk := fun W : World => back_c W c12345 (by decide) (by decide)
  unfold cfgV fiveV c12345 at hbk
  unfold cfgV zeroC
  simp only at hbk ⊢
  go_wp2_with fail
  refine (hbk _).mono ?_
  rintro e w7 ⟨rfl, hB7⟩
  have hx7 := Lib.hid hB7
  clear hB7 q0 q1 q2 q3 q4
  have he := eq5 1 2 3 4 5 w7
  go_wp2
  go_ret
  refine ⟨rfl, ?_⟩
  have h5 := hx4.out.2.1.trans (hx5.out.mono hx4.out.2.1.size)
  have h6 := h5.alloc h5.size (.cells #[.int .i64 0, .int .i64 0, .int .i64 0, .int .u16 0, .int .i64 0] 36)
  exact h6.trans (hx7.out.mono h6.size)
#print axioms scripts_c
end Go.Proofs.YtkmknpobinpegaaDoor
