/- The document's DocTick: what is due, in order; the rest stays. -/
import Derived.Test.YtkmknpobinpegaaRefDrop
import Derived.LoopTactic
import Derived.Deep.QuietTactic
import Derived.BigQuiet
namespace Go.Proofs.Ytkmknpobinpegaa
set_option linter.unusedSimpArgs false
set_option linter.unusedVariables false
open Go Go.RowKit Go.Maps Go.Sort Go.Lib Go.Shelf

/-- A number put into an ordered list. -/
def putIn (l : List Nat) (x : Nat) : List Nat := (l.filter fun y => decide (y ≤ x)) ++ x :: l.filter fun y => decide (x < y)
def encI (a : Nat) : Value := .int .i64 (a : Int)
def rowI (xs : List Nat) : List Value := xs.map encI
theorem infoI : (Try.prog.info? 3).map (fun i => (i.zero, i.size, i.bytes)) = some (some (.int .i64 0), 1, 8) := by kernel_rfl
/-- What is due of a list, in order. -/
def outOf (n : Nat) (L : WL) : List Nat := L.foldl (fun o p => if p.2 = n then putIn o p.1 else o) []
def leftOf (n : Nat) (L : WL) : WL := L.filter fun p => p.2 != n

theorem outOf_snoc (n : Nat) (L : WL) (p : Nat × Nat) : outOf n (L ++ [p]) = if p.2 = n then putIn (outOf n L) p.1 else outOf n L := by
  unfold outOf; rw [List.foldl_append]; rfl
theorem leftOf_snoc (n : Nat) (L : WL) (p : Nat × Nat) : leftOf n (L ++ [p]) = leftOf n L ++ (if p.2 = n then [] else [p]) := by
  unfold leftOf
  rw [List.filter_append]
  congr 1
  by_cases h : p.2 = n <;> simp [h]
theorem putIn_sorted {l : List Nat} (h : l.Pairwise (· ≤ ·)) (x : Nat) : (putIn l x).Pairwise (· ≤ ·) := by
  unfold putIn
  rw [List.pairwise_append, List.pairwise_cons]
  refine ⟨h.filter _, ⟨fun y hy => ?_, h.filter _⟩, fun y hy z hz => ?_⟩
  · have := (List.mem_filter.1 hy).2; simp at this; omega
  · have h1 := (List.mem_filter.1 hy).2
    simp at h1
    rcases List.mem_cons.1 hz with rfl | hz
    · exact h1
    · have h2 := (List.mem_filter.1 hz).2; simp at h2; omega
theorem outOf_sorted (n : Nat) : ∀ L : WL, (outOf n L).Pairwise (· ≤ ·) := by
  intro L
  suffices h : ∀ (L : WL) (o : List Nat), o.Pairwise (· ≤ ·) → (L.foldl (fun o p => if p.2 = n then putIn o p.1 else o) o).Pairwise (· ≤ ·) from h L [] List.Pairwise.nil
  intro L
  induction L with
  | nil => intro o h; exact h
  | cons p r ih =>
    intro o h
    rw [List.foldl_cons]
    apply ih
    split
    · exact putIn_sorted h _
    · exact h
theorem putIn_perm (l : List Nat) (x : Nat) : (putIn l x).Perm (l ++ [x]) := by
  unfold putIn
  have h1 : (l.filter (fun y => decide (y ≤ x)) ++ l.filter (fun y => decide (x < y))).Perm l := by
    have : (l.filter fun y => decide (x < y)) = l.filter fun y => !decide (y ≤ x) := by
      apply List.filter_congr; intro y _; rw [Bool.eq_iff_iff]; simp
    rw [this]
    exact List.filter_append_perm _ _
  exact (List.perm_middle).trans ((List.Perm.cons x h1).trans (List.perm_append_comm (l₁ := [x]) (l₂ := l)))
theorem outOf_perm (n : Nat) (L : WL) : (outOf n L).Perm (dueL L n) := by
  suffices h : ∀ (L : WL) (o : List Nat), (L.foldl (fun o p => if p.2 = n then putIn o p.1 else o) o).Perm (o ++ dueL L n) from by simpa [outOf] using h L []
  intro L
  induction L with
  | nil => intro o; simp [dueL]
  | cons p r ih =>
    intro o
    rw [List.foldl_cons]
    refine (ih _).trans ?_
    by_cases h : p.2 = n
    · rw [if_pos h]
      have : dueL (p :: r) n = p.1 :: dueL r n := by simp [dueL, h]
      rw [this, ← List.singleton_append (x := p.1), ← List.append_assoc]
      exact (putIn_perm o p.1).append_right _
    · rw [if_neg h]
      have : dueL (p :: r) n = dueL r n := by simp [dueL, h]
      rw [this]
theorem outOf_len (n : Nat) (L : WL) : (outOf n L).length ≤ L.length := by
  rw [(outOf_perm n L).length_eq]; unfold dueL; rw [List.length_map]; exact List.length_filter_le _ _
/-- An ordered list of no doubles is what is due. -/
theorem sorted_same {l m : List Nat} (h1 : l.Pairwise (· < ·)) (h2 : m.Pairwise (· ≤ ·)) (hp : m.Perm l) : l = m :=
  (hp.symm).eq_of_pairwise (le := (· ≤ ·)) (fun a b _ _ h h' => by omega) (h1.imp (fun h => by omega)) h2
/-- On its way: k numbers, then x, then those above it. -/
theorem putIn_way {o : List Nat} (hs : o.Pairwise (· ≤ ·)) {x k : Nat} (hk : k ≤ o.length) (hhi : ∀ j, k ≤ j → j < o.length → x < o[j]!) (hlo : k = 0 ∨ o[k - 1]! ≤ x) : o.take k ++ x :: o.drop k = putIn o x := by
  unfold putIn
  have h1 : o.filter (fun y => decide (y ≤ x)) = o.take k := by
    conv => lhs; rw [← List.take_append_drop k o]
    rw [List.filter_append, List.filter_eq_self.2, List.filter_eq_nil_iff.2, List.append_nil]
    · intro y hy
      obtain ⟨j, hj, rfl⟩ := List.mem_iff_getElem.1 hy
      rw [List.length_drop] at hj
      have := hhi (k + j) (by omega) (by omega)
      rw [getElem!_pos o _ (by omega)] at this
      rw [List.getElem_drop]
      simp; omega
    · intro y hy
      obtain ⟨j, hj, rfl⟩ := List.mem_iff_getElem.1 hy
      rw [List.length_take] at hj
      rw [List.getElem_take]
      rcases hlo with h | h
      · omega
      · rw [getElem!_pos o _ (by omega)] at h
        have : o[j] ≤ o[k - 1] := by
          rcases Nat.lt_or_ge j (k - 1) with h' | h'
          · exact List.pairwise_iff_getElem.1 hs _ _ _ _ h'
          · have e : j = k - 1 := by omega
            subst e; exact Nat.le_refl _
        simp; omega
  have h2 : o.filter (fun y => decide (x < y)) = o.drop k := by
    conv => lhs; rw [← List.take_append_drop k o]
    rw [List.filter_append, List.filter_eq_nil_iff.2, List.filter_eq_self.2, List.nil_append]
    · intro y hy
      obtain ⟨j, hj, rfl⟩ := List.mem_iff_getElem.1 hy
      rw [List.length_drop] at hj
      have := hhi (k + j) (by omega) (by omega)
      rw [getElem!_pos o _ (by omega)] at this
      rw [List.getElem_drop]
      simp; omega
    · intro y hy
      obtain ⟨j, hj, rfl⟩ := List.mem_iff_getElem.1 hy
      rw [List.length_take] at hj
      rw [List.getElem_take]
      rcases hlo with h | h
      · omega
      · rw [getElem!_pos o _ (by omega)] at h
        have : o[j] ≤ o[k - 1] := by
          rcases Nat.lt_or_ge j (k - 1) with h' | h'
          · exact List.pairwise_iff_getElem.1 hs _ _ _ _ h'
          · have e : j = k - 1 := by omega
            subst e; exact Nat.le_refl _
        simp; omega
  rw [h1, h2]
#print axioms putIn_way
#print axioms outOf_perm
end Go.Proofs.Ytkmknpobinpegaa
