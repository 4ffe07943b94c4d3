/- Layer 29's document: Write, in plain words. -/
import Derived.Test.YtkmknpobinpegaaDoorAppSrc
import Derived.Test.YtkmknpobinpegaaDoorRefBytes
import Derived.Test.YtkmknpobinpegaaDoorLawSmall
namespace Go.Proofs.YtkmknpobinpegaaDoor
open Go Go.RowKit Go.Maps Go.Sort Go.Lib
set_option linter.unusedSimpArgs false
set_option linter.unusedVariables false

abbrev NL := List (Int × Nat)
def hdrN (c : Cfg) (n : Nat) : NL := [(c.size, 8), (c.queue, 8), (c.pool, 8), (c.first, 16), (c.age, 16), ((n : Int), 16)]
def bytesN (l : List Nat) : NL := l.map fun (y : Nat) => ((y : Int), 8)
def atN (l : List Int) : NL := l.map fun y => (y, 16)
def stepN (x : Stp) : NL := [(x.kind, 8), (x.k, 16), ((x.bytes.length : Int), 8)] ++ bytesN x.bytes ++ [((x.at_.length : Int), 8)] ++ atN x.at_
def stepOkB (x : Stp) : Bool := decide (x.bytes.length ≤ 255) && decide (x.at_.length ≤ 255)
def stepsN (xs : List Stp) : NL := xs.flatMap stepN
def numsN (c : Cfg) (xs : List Stp) : NL := hdrN c xs.length ++ stepsN xs
def putAll (st : Option (List Nat)) (l : NL) : Option (List Nat) := l.foldl (fun s p => putS s p.1 p.2) st
theorem putAll_none (l : NL) : putAll none l = none := by induction l with
  | nil => rfl
  | cons p r ih => exact ih
theorem putAll_append (st : Option (List Nat)) (l r : NL) : putAll st (l ++ r) = putAll (putAll st l) r := by unfold putAll; rw [List.foldl_append]
theorem putAll_bytes (l : List Nat) : ∀ st, bytesS st l = putAll st (bytesN l) := by
  induction l with
  | nil => intro st; rfl
  | cons y r ih => intro st; exact ih _
theorem putAll_at (l : List Int) : ∀ st, atS st l = putAll st (atN l) := by
  induction l with
  | nil => intro st; rfl
  | cons y r ih => intro st; exact ih _
theorem countS_le (st : Option (List Nat)) (n most wide : Nat) : countS st n most wide = if n ≤ most then putAll st [((n : Int), wide)] else none := by
  unfold countS
  by_cases h : n ≤ most
  · rw [if_neg (by omega), if_pos h]; rfl
  · rw [if_pos (by omega), if_neg h]
theorem stepS_putAll (st : Option (List Nat)) (x : Stp) : stepS st x = if stepOkB x = true then putAll st (stepN x) else none := by
  unfold stepS headS
  rw [countS_le, countS_le]
  by_cases h1 : x.bytes.length ≤ 255
  · rw [if_pos h1]
    by_cases h2 : x.at_.length ≤ 255
    · rw [if_pos h2, if_pos (by simp [stepOkB, h1, h2]), putAll_at, putAll_bytes]
      unfold stepN
      rw [putAll_append, putAll_append, putAll_append]
      rfl
    · rw [if_neg h2, if_neg (by simp [stepOkB, h2]), putAll_at, putAll_none]
  · have hn : ¬ stepOkB x = true := by simp [stepOkB, h1]
    rw [if_neg hn]
    simp only [if_neg h1, putAll_bytes, putAll_none, putAll_at, ite_self]
theorem stepsS_putAll (xs : List Stp) : ∀ st, stepsS st xs = if xs.all stepOkB = true then putAll st (stepsN xs) else none := by
  induction xs with
  | nil => intro st; rfl
  | cons x r ih =>
    intro st
    show stepsS (stepS st x) r = _
    rw [ih, stepS_putAll]
    by_cases h : stepOkB x = true
    · rw [if_pos h]
      simp only [List.all_cons, h, Bool.true_and]
      unfold stepsN
      rw [List.flatMap_cons, putAll_append]
    · rw [if_neg h]
      simp only [List.all_cons, h, Bool.false_and]
      split <;> simp [putAll_none]
theorem writeS_putAll (c : Cfg) (xs : List Stp) : writeS c xs = if xs.length ≤ 2000 ∧ xs.all stepOkB = true then putAll (some []) (numsN c xs) else none := by
  unfold writeS hdrS
  rw [countS_le, stepsS_putAll]
  by_cases h1 : xs.length ≤ 2000
  · rw [if_pos h1]
    by_cases h2 : xs.all stepOkB = true
    · rw [if_pos h2, if_pos ⟨h1, h2⟩]
      unfold numsN
      rw [putAll_append]
      rfl
    · rw [if_neg h2, if_neg (fun h => h2 h.2)]
  · have hn : ¬ (xs.length ≤ 2000 ∧ xs.all stepOkB = true) := fun h => h1 h.1
    rw [if_neg hn]
    simp only [if_neg h1, putAll_none, ite_self]
/-- One number fits. -/
def fits (p : Int × Nat) : Prop := 0 ≤ p.1 ∧ p.1 < 2 ^ p.2
instance (p : Int × Nat) : Decidable (fits p) := by unfold fits; infer_instance
def bitsAll (l : NL) : List Nat := l.flatMap fun p => bitsOf p.1.toNat p.2
theorem putAll_some (l : NL) : ∀ L, putAll (some L) l = if ∀ p ∈ l, fits p then some (L ++ bitsAll l) else none := by
  induction l with
  | nil => intro L; simp [putAll, bitsAll]
  | cons p r ih =>
    intro L
    show putAll (putS (some L) p.1 p.2) r = _
    by_cases h : fits p
    · have e : putS (some L) p.1 p.2 = some (L ++ bitsOf p.1.toNat p.2) := if_pos h
      rw [e, ih]
      by_cases h2 : ∀ q ∈ r, fits q
      · rw [if_pos h2, if_pos (by intro q hq; rcases List.mem_cons.1 hq with rfl | hq; exact h; exact h2 q hq)]
        simp [bitsAll]
      · rw [if_neg h2, if_neg (fun hh => h2 (fun q hq => hh q (List.mem_cons_of_mem _ hq)))]
    · have e : putS (some L) p.1 p.2 = none := if_neg h
      rw [e, putAll_none, if_neg (fun hh => h (hh p List.mem_cons_self))]
#print axioms putAll_some
#print axioms writeS_putAll
def numCells (p : Int × Nat) : List Value := [.int .i64 p.1, .int .i64 (p.2 : Int)]
def numRow (l : NL) : List Value := l.flatMap numCells
theorem numRow_append (l r : NL) : numRow (l ++ r) = numRow l ++ numRow r := by unfold numRow; rw [List.flatMap_append]
theorem numRow_length (l : NL) : (numRow l).length = l.length * 2 := by
  induction l with
  | nil => rfl
  | cons p r ih =>
    have e : numRow (p :: r) = numCells p ++ numRow r := rfl
    rw [e, List.length_append, ih]; simp [numCells]; omega
def RWPost (w : World) (st : Option (List Nat)) (e : Ending) (w' : World) : Prop :=
  ∃ v b, e = .returned (.tuple #[v, .bool b]) ∧ Below w.heap.size w w' ∧ match st with
    | some L => b = true ∧ w'.ownsRow w.heap.size 5 1 v (parts8 L.length) (rowB (bytesOf L))
    | none => v = .slice none 0 0 ∧ b = false
end Go.Proofs.YtkmknpobinpegaaDoor
