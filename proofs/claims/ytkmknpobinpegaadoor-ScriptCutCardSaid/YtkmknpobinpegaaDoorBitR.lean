/- bitio's Reader in memory; Take. -/
import Derived.Test.YtkmknpobinpegaaDoorBitsOf
namespace Go.Proofs.YtkmknpobinpegaaDoor
open Go Go.RowKit Go.Maps Go.Sort Go.Lib
set_option linter.unusedSimpArgs false
set_option linter.unusedVariables false

/-- A reader: its cell, the bits that are left. -/
structure RrIn (w : World) (S : Nat → Prop) (rb : Nat) (a : Option Addr) (c : Nat) (rest : List Nat) : Prop where
  c0 : w.cell? ⟨rb, 0, none⟩ = some (.slice a rest.length c)
  fr : w.frozen? ⟨rb, 0, none⟩ = false
  le : rest.length ≤ c
  cm : c ≤ maxLen
  row : 0 < rest.length → ∃ g off, a = some ⟨g, off, none⟩ ∧ S g ∧ g ≠ rb ∧ ∀ j, j < rest.length → w.cell? ⟨g, off + j, none⟩ = some (encB rest[j]!)
  sb : S rb
  lt : ∀ k, S k → k < w.heap.size
  bit : ∀ y ∈ rest, y ≤ 1
def RrAt (w : World) (S : Nat → Prop) (rb : Nat) (rest : List Nat) : Prop := ∃ a c, RrIn w S rb a c rest
def valOf (l : List Nat) : Nat := l.foldl (fun n b => 2 * n + b) 0
theorem valOf_snoc (l : List Nat) (b : Nat) : valOf (l ++ [b]) = 2 * valOf l + b := by unfold valOf; rw [List.foldl_append]; rfl
theorem valOf_lt (l : List Nat) (h : ∀ y ∈ l, y ≤ 1) : valOf l < 2 ^ l.length := by
  suffices h' : ∀ (l : List Nat), (∀ y ∈ l, y ≤ 1) → ∀ n m, n < 2 ^ m → l.foldl (fun n b => 2 * n + b) n < 2 ^ (m + l.length) by
    have := h' l h 0 0 (by decide)
    simpa [valOf] using this
  intro l
  induction l with
  | nil => intro _ n m h; exact h
  | cons y r ih =>
    intro hy n m hn
    have h1 := hy y (by simp)
    have h2 := ih (fun z hz => hy z (by simp [hz])) (2 * n + y) (m + 1) (by rw [Nat.pow_succ]; omega)
    rw [List.foldl_cons, List.length_cons, show m + (r.length + 1) = m + 1 + r.length by omega]
    exact h2
theorem or_bit (m y : Nat) (hm : m < 65536) (hy : y ≤ 1) : bits BinOp.or IntKind.i64 ((m : Int) * 2) (y : Int) = ((2 * m + y : Nat) : Int) := by
  have p63 : (2 : Nat) ^ 63 = 9223372036854775808 := by decide
  have h := (bits_nat .i64 63 (by decide) (fun n h0 h1 => by rw [two63] at h1; rw [IntKind.wrap_i64]; omega) (m * 2) y (by rw [p63]; omega) (by rw [p63]; omega)).2
  have e : (m * 2 ||| y) = 2 * m + y := by
    have h1 := Nat.shiftLeft_add_eq_or_of_lt (i := 1) (b := y) (by omega) m
    rw [Nat.shiftLeft_eq, Nat.pow_one] at h1
    omega
  rw [e] at h
  rw [← h]; push_cast; rfl
theorem take_short (w : World) (S : Nat → Prop) (rb wide : Nat) (rest : List Nat) (h : RrAt w S rb rest) (hw0 : 1 ≤ wide) (hw1 : wide ≤ 16) (hs : rest.length < wide) :
    Calls Tryd.prog 36 #[.pointer (some ⟨rb, 0, none⟩), .int .i64 (wide : Int)] w fun e w' => e = .returned (.tuple #[.int .i64 0, .int .i64 2]) ∧ w' = w := by
  obtain ⟨a, c, H⟩ := h
  have c0 := H.c0
  clear H
  go_enter Tryd.func36, Tryd.ntmps36
  go_wp2_with fail
  refine (width_c wide w hw0 (by omega)).mono ?_
  rintro e w1 ⟨rfl, hw1⟩
  subst w1
  go_wp2
  go_ret2
  exact ⟨rfl, rfl⟩
set_option maxRecDepth 8000 in
set_option maxHeartbeats 1000000 in
theorem take_good (w : World) (S : Nat → Prop) (rb wide : Nat) (rest : List Nat) (h : RrAt w S rb rest) (hw0 : 1 ≤ wide) (hw1 : wide ≤ 16) (hs : wide ≤ rest.length) :
    Calls Tryd.prog 36 #[.pointer (some ⟨rb, 0, none⟩), .int .i64 (wide : Int)] w fun e w' => e = .returned (.tuple #[.int .i64 (valOf (rest.take wide) : Int), .int .i64 0]) ∧ RrAt w' S rb (rest.drop wide) ∧ Fr (fun k => k = rb) w w' := by
  obtain ⟨a, c, H⟩ := h
  have c0 := H.c0
  have f0 := H.fr
  have hle := H.le
  have hcm := H.cm
  unfold maxLen at hcm
  obtain ⟨g, off, rfl, hgS, hgr, hcell⟩ := H.row (by omega)
  go_enter Tryd.func36, Tryd.ntmps36
  go_wp2_with fail
  refine (width_c wide w hw0 (by omega)).mono ?_
  rintro e w1 ⟨rfl, hw1⟩
  subst w1
  go_wp2
  go_loopw [6, 32] (fun s6 s32 wr => ∃ j : Nat, j ≤ wide ∧ s32 = .int .i64 (j : Int) ∧ s6 = .int .i64 (valOf (rest.take j) : Int) ∧ wr = w)
    (fun _ s32 _ => wide - (intOf s32).toNat)
  case atStart => exact ⟨0, Nat.zero_le _, rfl, rfl, rfl⟩
  case round =>
    obtain ⟨j, hj, rfl, rfl, hw⟩ := hrel
    subst wr
    by_cases hlt : j < wide
    · have h1 := hcell j (by omega)
      have hsn := Lib.hid (take_snoc (l := rest) (j := j) (by omega))
      have hy := H.bit rest[j]! (by rw [getElem!_pos rest j (by omega)]; exact List.getElem_mem (by omega))
      have hv : valOf (rest.take j) < 65536 := by
        have h2 := valOf_lt (rest.take j) (fun y hy => H.bit y (List.mem_of_mem_take hy))
        have h3 : (2 : Nat) ^ (rest.take j).length ≤ 2 ^ 16 := Nat.pow_le_pow_right (by omega) (by rw [List.length_take]; omega)
        have e : (2 : Nat) ^ 16 = 65536 := rfl
        omega
      generalize hm : valOf (rest.take j) = m at *
      have hm' := Lib.hid hm
      clear hm
      generalize rest[j]! = y at h1 hsn hy
      clear hcell
      have hor := or_bit m y hv hy
      go_wp2
      refine ⟨⟨j + 1, by omega, by go_num, ?_, by first | rfl | trivial⟩, by simp [intOf]; omega⟩
      rw [hsn.out, valOf_snoc, hm'.out]; push_cast; rfl
    · obtain rfl : j = wide := by omega
      by_cases hc : c = j
      · subst hc
        go_wp2
        go_ret2
        refine ⟨rfl, ⟨some ⟨g, off, none⟩, 0, ?_⟩, Fr.setCell (S := fun k => k = rb) (p := ⟨rb, 0, none⟩) (Fr.refl _ w) (.inl rfl) _⟩
        have e0 : rest.drop c = [] := List.drop_eq_nil_of_le (by omega)
        rw [e0]
        exact { c0 := World.cell?_setCell_same _ _ _ c0, fr := by rw [World.frozen?_setCell]; exact f0, le := Nat.le_refl _, cm := Nat.zero_le _, row := fun h => by simp at h, sb := H.sb, lt := fun k hk => by simpa using H.lt k hk, bit := fun y hy => by cases hy }
      · go_wp2
        go_ret2
        refine ⟨rfl, ⟨some ⟨g, off + j, none⟩, c - j, ?_⟩, Fr.setCell (S := fun k => k = rb) (p := ⟨rb, 0, none⟩) (Fr.refl _ w) (.inl rfl) _⟩
        refine { c0 := by rw [List.length_drop]; exact World.cell?_setCell_same _ _ _ c0, fr := by rw [World.frozen?_setCell]; exact f0, le := by rw [List.length_drop]; omega, cm := by unfold maxLen; omega, row := fun h => ⟨g, off + j, rfl, hgS, hgr, fun q hq => ?_⟩, sb := H.sb, lt := fun k hk => by simpa using H.lt k hk, bit := fun y hy => H.bit y (List.mem_of_mem_drop hy) }
        rw [List.length_drop] at hq
        rw [World.cell?_setCell_other _ _ _ _ (fun e => by injection e with e _ _; omega), Nat.add_assoc, hcell (j + q) (by omega), getElem!_pos rest (j + q) (by omega), getElem!_pos (rest.drop j) q (by rw [List.length_drop]; omega), List.getElem_drop]
#print axioms take_good
#print axioms take_short
end Go.Proofs.YtkmknpobinpegaaDoor
