/- slices.Sort at a row of numbers of the call's own: the same slice owns the numbers rising. -/
import Derived.Test.YtkmknpobinpegaaWheelMem
import Derived.Test.YtkmknpobinpegaaSortU6
namespace Go.Proofs.Ytkmknpobinpegaa
set_option linter.unusedSimpArgs false
set_option linter.unusedVariables false
open Go Go.RowKit Go.Maps Go.Sort Go.Lib Go.Shelf

abbrev cI (a : Nat) : Int := a
def sorted (l : List Nat) : List Nat := l.mergeSort fun x y => decide (x ≤ y)
theorem sorted_perm (l : List Nat) : (sorted l).Perm l := List.mergeSort_perm _ _
theorem sorted_pairwise (l : List Nat) : (sorted l).Pairwise (· ≤ ·) := by
  have := List.pairwise_mergeSort (le := fun (x y : Nat) => decide (x ≤ y)) (fun a b c h1 h2 => by simp at *; omega) (fun a b => by simp; omega) l
  unfold sorted
  simpa using this
theorem sorted_strict {l : List Nat} (hn : l.Nodup) : (sorted l).Pairwise (· < ·) := by
  have h1 := sorted_pairwise l
  have h2 : (sorted l).Nodup := (sorted_perm l).nodup_iff.2 hn
  exact (h1.and h2).imp fun h => by omega
theorem sorted_cast (l : List Nat) : ((l.map cI).mergeSort fun x y => decide (x ≤ y)) = (sorted l).map cI := by
  have hp : ((l.map cI).mergeSort fun x y => decide (x ≤ y)).Perm ((sorted l).map cI) := (List.mergeSort_perm _ _).trans ((sorted_perm l).symm.map _)
  have h1 : ((l.map cI).mergeSort fun x y => decide (x ≤ y)).Pairwise (fun x y : Int => x ≤ y) := by
    have := List.pairwise_mergeSort (le := fun (x y : Int) => decide (x ≤ y)) (fun a b c h1 h2 => by simp at *; omega) (fun a b => by simp; omega) (l.map cI)
    simpa using this
  have h2 : ((sorted l).map cI).Pairwise (fun x y : Int => x ≤ y) := by
    rw [List.pairwise_map]
    exact (sorted_pairwise l).imp fun h => by simp only [cI]; omega
  exact hp.eq_of_pairwise (fun a b _ _ h3 h4 => by omega) h1 h2

/-- The row's owner, its numbers in order. -/
theorem sort_c (w : World) (B : Nat) (v : Value) (l : List Nat) (hR : w.ownsRow B 29 1 v l.length (row l)) (hl : l.length ≤ 100000) :
    Calls Try.prog 18 #[v] w fun e w' => e = .returned (.tuple #[]) ∧ w'.ownsRow B 29 1 v (sorted l).length (row (sorted l)) ∧ Fr (fun k => v.ownBlock = some k) w w' := by
  obtain ⟨_, a, c, rfl, hn, hm, hpos⟩ := ownsRow_open (enc := encA) (zs := l) hR
  have hle : (sorted l).length = l.length := (sorted_perm l).length_eq
  by_cases h0 : l.length = 0
  · have hl0 : l = [] := List.eq_nil_of_length_eq_zero h0
    subst hl0
    refine (Su.Sort_int_nil a c w).mono ?_
    rintro e w' ⟨rfl, rfl⟩
    have e0 : sorted [] = [] := by simp [sorted]
    rw [e0]
    exact ⟨rfl, hR, Fr.refl _ _⟩
  · obtain ⟨g, rfl, hB, hg, ho, hH⟩ := hpos (by omega)
    have hH' : Holds (Value.int .u16) w g 0 (l.map cI).toArray := fun j hj => by
      have hj' : j < l.length := by simpa using hj
      have := hH j (by simpa using hj')
      simpa [encA, getElem!_pos, hj'] using this
    have hs := Su.slices_Sort_int g 0 c (l.map cI) w hH' hg (by simp; omega)
    rw [List.length_map, sorted_cast] at hs
    refine hs.mono ?_
    rintro e w' ⟨rfl, n, os, rfl⟩
    have e1 : putRow (Value.int .u16) (Sort.ahead w n) g 0 ((sorted l).map cI).toArray = putRow encA (Sort.ahead w n) g 0 (sorted l).toArray := by
      unfold putRow
      congr 1
      funext cs
      unfold putCells
      congr 1
      funext k x
      simp only [Nat.sub_zero, Nat.zero_add, Nat.zero_le, true_and, List.size_toArray, List.length_map]
      split
      · rename_i h; simp [encA, getElem!_pos, h]
      · rfl
    rw [e1]
    have hR' := ownsRow_putRow (enc := encA) (ys := sorted l) (q := n) (k := l.length) hR hle (Nat.le_refl _)
    rw [List.take_of_length_le (by omega)] at hR'
    refine ⟨rfl, ?_, ?_⟩
    · rw [hle]
      refine ownsRow_block hR' (fun k hk => ?_)
      have := (hR'.lt k hk).2
      exact heap_grow_old _ os this
    · have f1 : Fr (fun k => (Value.slice (some ⟨g, 0, none⟩) l.length c).ownBlock = some k) w (putRow encA (Sort.ahead w n) g 0 (sorted l).toArray) := ((Fr.refl _ w).ahead n).putRow (.inl rfl)
      exact ⟨f1.os, f1.tape, f1.output, Nat.le_trans f1.size (by show _ ≤ (_ ++ os).size; rw [Array.size_append]; omega), fun k hk hne => by
        rw [← f1.block k hk hne]
        exact heap_grow_old _ os (Nat.lt_of_lt_of_le hk f1.size)⟩
#print axioms sort_c
end Go.Proofs.Ytkmknpobinpegaa
