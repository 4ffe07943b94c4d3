/- The document's Put, its bytes of bits (layers 1, 2). -/
import Derived.Test.YtkmknpobinpegaaDoorChunkB
namespace Go.Proofs.YtkmknpobinpegaaDoor
open Go Go.RowKit Go.Maps Go.Sort Go.Lib
set_option linter.unusedSimpArgs false
set_option linter.unusedVariables false

def PPost (w : World) (n : Int) (wide : Nat) (e : Ending) (w' : World) : Prop :=
  ∃ v k, e = .returned (.tuple #[v, .int .i64 k]) ∧ Below w.heap.size w w' ∧
    ((0 ≤ n ∧ n < 2 ^ wide ∧ k = 0 ∧ w'.ownsRow w.heap.size 5 1 v wide (rowB (bitsOf n.toNat wide))) ∨ (¬ (0 ≤ n ∧ n < 2 ^ wide) ∧ k = 5 ∧ v = .slice none 0 0))

set_option maxRecDepth 8000 in
set_option maxHeartbeats 2000000 in
theorem rput8_c (w : World) (n : Int) (hr : numOk n) : Calls Tryd.prog 16 #[.int .i64 n, .int .i64 8] w (PPost w n 8) := by
  obtain ⟨i0, hi, hi0, hi1, hi2⟩ := info_parts infoB
  unfold numOk at hr
  have h2 : (2 : Int) ^ 8 = 256 := by decide
  by_cases h0 : n < 0
  · have hb : decide (n < 0) = true := by simpa using h0
    go_enter Tryd.func16, Tryd.ntmps16
    go_wp2
    go_ret2
    exact ⟨_, _, rfl, Below.refl _ _, .inr ⟨by omega, rfl, rfl⟩⟩
  · have hb : decide (n < 0) = false := by simpa using h0
    by_cases h1 : 256 ≤ n
    · have hb1 : decide (256 ≤ n) = true := by simpa using h1
      go_enter Tryd.func16, Tryd.ntmps16
      go_wp2
      go_ret2
      exact ⟨_, _, rfl, Below.refl _ _, .inr ⟨by omega, rfl, rfl⟩⟩
    · have hb1 : decide (256 ≤ n) = false := by simpa using h1
      obtain ⟨m, rfl⟩ : ∃ m : Nat, n = (m : Int) := ⟨n.toNat, by omega⟩
      have hm : m < 256 := by omega
      go_enter Tryd.func16, Tryd.ntmps16
      go_wp2
      go_loopw [6, 7] (fun s6 s7 wr => ∃ (k : Nat) (z : Int), k ≤ 8 ∧ z = (k : Int) - 1 ∧ s7 = .int .i64 z ∧ Aside (wr.ownsRow w.heap.size 5 1 s6 ((bitsOf m 8).take (8 - k)).length (rowB ((bitsOf m 8).take (8 - k))) ∧ Below w.heap.size w wr))
        (fun _ s7 _ => (intOf s7 + 1).toNat)
      case atStart => exact ⟨8, _, Nat.le_refl _, rfl, rfl, World.ownsRow_nil _ _ _ _, Below.refl _ _⟩
      case round =>
        obtain ⟨k, z, hk, hz, rfl, hA⟩ := hrel
        have hA' := Lib.hid hA
        clear hA
        cases k with
        | succ k =>
          obtain rfl : z = (k : Int) := by omega
          clear hz
          have hbit : ((m : Int) / 2 ^ k) % 2 = ((m / 2 ^ k % 2 : Nat) : Int) := by
            have e : ((m : Int) / 2 ^ k) = ((m / 2 ^ k : Nat) : Int) := by rw [Int.natCast_ediv]; push_cast; rfl
            rw [e]; omega
          have hnn : 0 ≤ (m : Int) / 2 ^ k := by
            have e : ((m : Int) / 2 ^ k) = ((m / 2 ^ k : Nat) : Int) := by rw [Int.natCast_ediv]; push_cast; rfl
            rw [e]; exact Int.natCast_nonneg _
          have htk : (bitsOf m 8).take (8 - k) = (bitsOf m 8).take (8 - (k + 1)) ++ [m / 2 ^ k % 2] := by
            have h1 := bitsOf_take m 8 (8 - (k + 1)) (by omega)
            rw [show 8 - (k + 1) + 1 = 8 - k by omega, show 8 - 1 - (8 - (k + 1)) = k by omega] at h1
            exact h1
          have hy : m / 2 ^ k % 2 ≤ 1 := by omega
          generalize m / 2 ^ k % 2 = y at hbit htk hy
          have htk' := Lib.hid htk
          have hLl : ((bitsOf m 8).take (8 - (k + 1))).length ≤ 100 := by
            have := List.length_take_le (8 - (k + 1)) (bitsOf m 8)
            omega
          generalize (bitsOf m 8).take (8 - (k + 1)) = V at *
          clear htk
          obtain ⟨va, vl, vc, rfl⟩ := ownsRow_slice hA'.out.1
          have hBs := hA'.out.2.size
          go_wp2_with (at_builtin; refine wpList_append_own_at _ rfl _ _ 28 rfl w.heap.size 5 i0 _ 1 1 Tryd.underlying28 hi hi0 hi1 hi2 rfl (by decide) (.slice va vl vc) _ _ rfl (hA'.out.1.alloc _) ⟨wr.heap.size, 0, none⟩ 1 1 [.int .u8 (y : Int)] rfl rfl (cell_one_new _ _ _) (ints_oneCell .u8 [(y : Int)]) (by unfold maxLen; omega) (by omega) (by simp; omega) ?_; intro v' w4 hown' hgrow hnil hloc; obtain ⟨sa, sl, sc, rfl⟩ := ownsRow_slice hown')
          refine ⟨⟨k, _, by omega, rfl, rfl, ?_, ?_⟩, by simp [intOf]⟩
          · rw [htk'.out]
            have e : rowB (V ++ [y]) = rowB V ++ [Value.int .u8 (y : Int)] := by simp [rowB]
            rw [e, List.length_append]
            exact hown'
          · exact (hA'.out.2.alloc hBs _).grown hgrow (by simp; omega) (fun k e => (hA'.out.1.lt k e).1)
        | zero =>
          have hneg : ¬ 0 ≤ z := by omega
          clear hz
          go_wp2
          go_ret2
          have := hA'.out.1
          rw [Nat.sub_zero, List.take_of_length_le (by rw [bitsOf_length]; exact Nat.le_refl _), bitsOf_length] at this
          exact ⟨_, _, rfl, hA'.out.2, .inl ⟨by omega, by omega, rfl, by simpa using this⟩⟩
#print axioms rput8_c

set_option maxRecDepth 8000 in
set_option maxHeartbeats 2000000 in
theorem rput16_c (w : World) (n : Int) (hr : numOk n) : Calls Tryd.prog 16 #[.int .i64 n, .int .i64 16] w (PPost w n 16) := by
  obtain ⟨i0, hi, hi0, hi1, hi2⟩ := info_parts infoB
  unfold numOk at hr
  have h2 : (2 : Int) ^ 16 = 65536 := by decide
  by_cases h0 : n < 0
  · have hb : decide (n < 0) = true := by simpa using h0
    go_enter Tryd.func16, Tryd.ntmps16
    go_wp2
    go_ret2
    exact ⟨_, _, rfl, Below.refl _ _, .inr ⟨by omega, rfl, rfl⟩⟩
  · have hb : decide (n < 0) = false := by simpa using h0
    by_cases h1 : 65536 ≤ n
    · have hb1 : decide (65536 ≤ n) = true := by simpa using h1
      go_enter Tryd.func16, Tryd.ntmps16
      go_wp2
      go_ret2
      exact ⟨_, _, rfl, Below.refl _ _, .inr ⟨by omega, rfl, rfl⟩⟩
    · have hb1 : decide (65536 ≤ n) = false := by simpa using h1
      obtain ⟨m, rfl⟩ : ∃ m : Nat, n = (m : Int) := ⟨n.toNat, by omega⟩
      have hm : m < 65536 := by omega
      go_enter Tryd.func16, Tryd.ntmps16
      go_wp2
      go_loopw [6, 7] (fun s6 s7 wr => ∃ (k : Nat) (z : Int), k ≤ 16 ∧ z = (k : Int) - 1 ∧ s7 = .int .i64 z ∧ Aside (wr.ownsRow w.heap.size 5 1 s6 ((bitsOf m 16).take (16 - k)).length (rowB ((bitsOf m 16).take (16 - k))) ∧ Below w.heap.size w wr))
        (fun _ s7 _ => (intOf s7 + 1).toNat)
      case atStart => exact ⟨16, _, Nat.le_refl _, rfl, rfl, World.ownsRow_nil _ _ _ _, Below.refl _ _⟩
      case round =>
        obtain ⟨k, z, hk, hz, rfl, hA⟩ := hrel
        have hA' := Lib.hid hA
        clear hA
        cases k with
        | succ k =>
          obtain rfl : z = (k : Int) := by omega
          clear hz
          have hbit : ((m : Int) / 2 ^ k) % 2 = ((m / 2 ^ k % 2 : Nat) : Int) := by
            have e : ((m : Int) / 2 ^ k) = ((m / 2 ^ k : Nat) : Int) := by rw [Int.natCast_ediv]; push_cast; rfl
            rw [e]; omega
          have hnn : 0 ≤ (m : Int) / 2 ^ k := by
            have e : ((m : Int) / 2 ^ k) = ((m / 2 ^ k : Nat) : Int) := by rw [Int.natCast_ediv]; push_cast; rfl
            rw [e]; exact Int.natCast_nonneg _
          have htk : (bitsOf m 16).take (16 - k) = (bitsOf m 16).take (16 - (k + 1)) ++ [m / 2 ^ k % 2] := by
            have h1 := bitsOf_take m 16 (16 - (k + 1)) (by omega)
            rw [show 16 - (k + 1) + 1 = 16 - k by omega, show 16 - 1 - (16 - (k + 1)) = k by omega] at h1
            exact h1
          have hy : m / 2 ^ k % 2 ≤ 1 := by omega
          generalize m / 2 ^ k % 2 = y at hbit htk hy
          have htk' := Lib.hid htk
          have hLl : ((bitsOf m 16).take (16 - (k + 1))).length ≤ 100 := by
            have := List.length_take_le (16 - (k + 1)) (bitsOf m 16)
            omega
          generalize (bitsOf m 16).take (16 - (k + 1)) = V at *
          clear htk
          obtain ⟨va, vl, vc, rfl⟩ := ownsRow_slice hA'.out.1
          have hBs := hA'.out.2.size
          go_wp2_with (at_builtin; refine wpList_append_own_at _ rfl _ _ 28 rfl w.heap.size 5 i0 _ 1 1 Tryd.underlying28 hi hi0 hi1 hi2 rfl (by decide) (.slice va vl vc) _ _ rfl (hA'.out.1.alloc _) ⟨wr.heap.size, 0, none⟩ 1 1 [.int .u8 (y : Int)] rfl rfl (cell_one_new _ _ _) (ints_oneCell .u8 [(y : Int)]) (by unfold maxLen; omega) (by omega) (by simp; omega) ?_; intro v' w4 hown' hgrow hnil hloc; obtain ⟨sa, sl, sc, rfl⟩ := ownsRow_slice hown')
          refine ⟨⟨k, _, by omega, rfl, rfl, ?_, ?_⟩, by simp [intOf]⟩
          · rw [htk'.out]
            have e : rowB (V ++ [y]) = rowB V ++ [Value.int .u8 (y : Int)] := by simp [rowB]
            rw [e, List.length_append]
            exact hown'
          · exact (hA'.out.2.alloc hBs _).grown hgrow (by simp; omega) (fun k e => (hA'.out.1.lt k e).1)
        | zero =>
          have hneg : ¬ 0 ≤ z := by omega
          clear hz
          go_wp2
          go_ret2
          have := hA'.out.1
          rw [Nat.sub_zero, List.take_of_length_le (by rw [bitsOf_length]; exact Nat.le_refl _), bitsOf_length] at this
          exact ⟨_, _, rfl, hA'.out.2, .inl ⟨by omega, by omega, rfl, by simpa using this⟩⟩
#print axioms rput16_c
end Go.Proofs.YtkmknpobinpegaaDoor
