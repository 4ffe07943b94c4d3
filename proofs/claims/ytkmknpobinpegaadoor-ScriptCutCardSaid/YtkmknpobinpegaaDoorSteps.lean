/- A row of steps that is being made: its cells, what its steps lead to. -/
import Derived.Test.YtkmknpobinpegaaDoorScrRead
namespace Go.Proofs.YtkmknpobinpegaaDoor
open Go Go.RowKit Go.Maps Go.Sort Go.Lib
set_option linter.unusedSimpArgs false
set_option linter.unusedVariables false

def cells4 (x : Stp) (u : Value × Value) : List Value := [.int .i64 x.kind, .int .i64 x.k, u.1, u.2]
def cellsF : List Stp → List (Value × Value) → List Value
  | x :: xs, u :: us => cells4 x u ++ cellsF xs us
  | _, _ => []
theorem cellsF_snoc : ∀ (xs : List Stp) (us : List (Value × Value)) (x : Stp) (u : Value × Value), xs.length = us.length → cellsF (xs ++ [x]) (us ++ [u]) = cellsF xs us ++ cells4 x u
  | [], [], x, u, _ => by simp [cellsF]
  | y :: ys, v :: vs, x, u, h => by
    have := cellsF_snoc ys vs x u (by simpa using h)
    simp [cellsF, this]
  | [], _ :: _, _, _, h => by simp at h
  | _ :: _, [], _, _, h => by simp at h
theorem cellsF_get : ∀ (xs : List Stp) (us : List (Value × Value)) (j i : Nat), xs.length = us.length → j < xs.length → i < 4 → (cellsF xs us)[j * 4 + i]? = (cells4 xs[j]! us[j]!)[i]?
  | x :: xs, u :: us, 0, i, h, _, hi => by
    simp only [cellsF, Nat.zero_mul, Nat.zero_add]
    rw [List.getElem?_append_left (by simp [cells4]; omega)]
    simp
  | x :: xs, u :: us, j + 1, i, h, hj, hi => by
    simp only [cellsF]
    rw [List.getElem?_append_right (by simp [cells4]; omega)]
    have e : (j + 1) * 4 + i - (cells4 x u).length = j * 4 + i := by simp [cells4]; omega
    rw [e, cellsF_get xs us j i (by simpa using h) (by simpa using hj) hi]
    simp
  | [], _, _, _, _, hj, _ => by simp at hj
  | _ :: _, [], _, _, h, _, _ => by simp at h
theorem cellsF_length : ∀ (xs : List Stp) (us : List (Value × Value)), xs.length = us.length → (cellsF xs us).length = xs.length * 4
  | [], [], _ => rfl
  | x :: xs, u :: us, h => by
    simp only [cellsF, List.length_append, cellsF_length xs us (by simpa using h), List.length_cons, cells4]
    simp; omega
  | [], _ :: _, h => by simp at h
  | _ :: _, [], h => by simp at h

/-- A row of steps that is being made, of element type e: its value, and a set of blocks in which what its steps lead to lies. -/
structure BuildIn (w : World) (e : TypeId) (base : Nat) (v : Value) (D : Nat → Prop) (xs : List Stp) (us : List (Value × Value)) : Prop where
  len : xs.length = us.length
  own : w.ownsRow base e 4 v xs.length (cellsF xs us)
  rd : ∀ j, j < xs.length → Rd encB w D us[j]!.1 xs[j]!.bytes ∧ Rd encN w D us[j]!.2 xs[j]!.at_
  d : ∀ k, D k → base ≤ k ∧ k < w.heap.size ∧ v.ownBlock ≠ some k
def Build (w : World) (e : TypeId) (base : Nat) (v : Value) (D : Nat → Prop) (xs : List Stp) : Prop := ∃ us, BuildIn w e base v D xs us
theorem Build.nil (w : World) (e : TypeId) (base : Nat) : Build w e base (.slice none 0 0) (fun _ => False) [] := ⟨[], rfl, World.ownsRow_nil _ _ _ _, fun j hj => by simp at hj, fun k hk => hk.elim⟩
theorem Rd.mono {α : Type} [Inhabited α] {enc : α → Value} {w : World} {T T' : Nat → Prop} {v : Value} {xs : List α} (h : Rd enc w T v xs) (hT : ∀ k, T k → k < w.heap.size → T' k) : Rd enc w T' v xs := by
  obtain ⟨a, c, rfl, h1, h2, h3⟩ := h
  refine ⟨a, c, rfl, h1, h2, fun h0 => ?_⟩
  obtain ⟨x, e, hx, hl, hc⟩ := h3 h0
  exact ⟨x, e, hT _ hx hl, hl, hc⟩
theorem Build.keep {w w' : World} {e : TypeId} {base : Nat} {v : Value} {D : Nat → Prop} {xs : List Stp} (h : Build w e base v D xs) (hd : ∀ k, D k → w'.heap[k]? = w.heap[k]?) (hv : ∀ g, v.ownBlock = some g → w'.heap[g]? = w.heap[g]?) (hz : w.heap.size ≤ w'.heap.size) : Build w' e base v D xs := by
  obtain ⟨us, H⟩ := h
  exact ⟨us, H.len, ownsRow_block H.own hv, fun j hj => ⟨(H.rd j hj).1.keep (fun k hk _ => hd k hk) hz, (H.rd j hj).2.keep (fun k hk _ => hd k hk) hz⟩, fun k hk => ⟨(H.d k hk).1, Nat.lt_of_lt_of_le (H.d k hk).2.1 hz, (H.d k hk).2.2⟩⟩
theorem Build.slice {w : World} {e : TypeId} {base : Nat} {v : Value} {D : Nat → Prop} {xs : List Stp} (h : Build w e base v D xs) : ∃ a l c, v = .slice a l c := let ⟨_, H⟩ := h; ownsRow_slice H.own
theorem Build.lt {w : World} {e : TypeId} {base : Nat} {v : Value} {D : Nat → Prop} {xs : List Stp} (h : Build w e base v D xs) : (∀ k, D k → base ≤ k ∧ k < w.heap.size ∧ v.ownBlock ≠ some k) ∧ ∀ g, v.ownBlock = some g → base ≤ g ∧ g < w.heap.size := by
  obtain ⟨us, H⟩ := h; exact ⟨H.d, fun g hg => H.own.lt g hg⟩
/-- A step more: the row was appended to; what the new step leads to lies in D'. -/
theorem Build.snoc {w w' : World} {e : TypeId} {base : Nat} {v v' : Value} {D D' : Nat → Prop} {xs : List Stp} {us : List (Value × Value)} {x : Stp} {u : Value × Value} (H : BuildIn w e base v D xs us)
    (hown : w'.ownsRow base e 4 v' (xs.length + 1) (cellsF xs us ++ cells4 x u)) (hk : ∀ k, D k → w'.heap[k]? = w.heap[k]?) (hz : w.heap.size ≤ w'.heap.size)
    (hb : Rd encB w' D' u.1 x.bytes) (ha : Rd encN w' D' u.2 x.at_) (hD : ∀ k, D k → D' k) (hD' : ∀ k, D' k → base ≤ k ∧ k < w'.heap.size ∧ v'.ownBlock ≠ some k) : Build w' e base v' D' (xs ++ [x]) := by
  refine ⟨us ++ [u], { len := by simp [H.len], own := ?_, rd := ?_, d := hD' }⟩
  · rw [cellsF_snoc _ _ _ _ H.len, List.length_append]; exact hown
  · intro j hj
    have hl := H.len
    by_cases h : j < xs.length
    · have e1 : (xs ++ [x])[j]! = xs[j]! := by rw [getElem!_pos (xs ++ [x]) j hj, getElem!_pos xs j h, List.getElem_append_left h]
      have e2 : (us ++ [u])[j]! = us[j]! := by rw [getElem!_pos (us ++ [u]) j (by simp; omega), getElem!_pos us j (by omega), List.getElem_append_left]
      rw [e1, e2]
      exact ⟨((H.rd j h).1.keep (fun k hk' _ => hk k hk') hz).mono (fun k hk' _ => hD k hk'), ((H.rd j h).2.keep (fun k hk' _ => hk k hk') hz).mono (fun k hk' _ => hD k hk')⟩
    · have hj' : j = xs.length := by simp at hj; omega
      subst hj'
      have e1 : (xs ++ [x])[xs.length]! = x := by rw [getElem!_pos (xs ++ [x]) _ hj]; simp
      have e2 : (us ++ [u])[xs.length]! = u := by rw [getElem!_pos (us ++ [u]) _ (by simp; omega)]; simp [hl]
      rw [e1, e2]
      exact ⟨hb, ha⟩
/-- What is made may be read. -/
theorem Build.steps {w : World} {e : TypeId} {base : Nat} {v : Value} {D : Nat → Prop} {xs : List Stp} (h : Build w e base v D xs) : StpsAt w (fun k => base ≤ k ∧ k < w.heap.size) v xs := by
  obtain ⟨us, H⟩ := h
  rcases H.own.2 with ⟨rfl, hc⟩ | ⟨g, cap, cur, rfl, hb, hg, hn, hm, hrest⟩
  · have h0 := cellsF_length xs us H.len
    have : xs.length = 0 := by have h1 := H.own.1; rw [hc] at h1; simp at h1; omega
    exact ⟨none, 0, by rw [this], by omega, Nat.zero_le _, fun j hj => by omega⟩
  · have hgl : g < w.heap.size := (Array.getElem?_eq_some_iff.1 hg).1
    have hcell : ∀ j i, j < xs.length → i < 4 → w.cell? ⟨g, j * 4 + i, none⟩ = (cells4 xs[j]! us[j]!)[i]? := by
      intro j i hj hi
      rw [← cellsF_get xs us j i H.len hj hi, ← hrest.2, List.getElem?_take]
      rw [if_pos (by omega)]
      simp [World.cell?, hg]
    refine ⟨some ⟨g, 0, none⟩, cap, rfl, hn, hm, fun j hj => ?_⟩
    have ea : (⟨g, 0, none⟩ : Addr).add (j * 4) = ⟨g, j * 4, none⟩ := by simp only [Addr.add]; split <;> simp_all
    refine ⟨⟨g, 0, none⟩, us[j]!.1, us[j]!.2, rfl, ⟨hb, hgl⟩, hgl, ?_, ?_, ?_, ?_, (H.rd j hj).1.mono (fun k hk hl => ⟨(H.d k hk).1, hl⟩), (H.rd j hj).2.mono (fun k hk hl => ⟨(H.d k hk).1, hl⟩)⟩
    · rw [ea]; exact hcell j 0 hj (by omega)
    · rw [ea]; exact hcell j 1 hj (by omega)
    · rw [ea]; exact hcell j 2 hj (by omega)
    · rw [ea]; exact hcell j 3 hj (by omega)
theorem cells_new (w : World) (l : List Value) (t : TypeId) : ∀ j u, l[j]? = some u → (w.alloc (.cells l.toArray t)).cell? ((⟨w.heap.size, 0, none⟩ : Addr).add j) = some u := by
  intro j u hj
  have ea : (⟨w.heap.size, 0, none⟩ : Addr).add j = ⟨w.heap.size, j, none⟩ := by simp only [Addr.add]; split <;> simp_all
  rw [ea, World.cell?_alloc_new]
  simpa using hj
theorem grow_block2 {w w' : World} {row : Option Nat} {o1 o2 : Obj} (hg : ((w.alloc o1).alloc o2).grownBy w' row) {k : Nat} (hk : k < w.heap.size) (hr : row ≠ some k) : w'.heap[k]? = w.heap[k]? := by
  rw [hg.block k (by simp; omega) (Ne.symm hr), Below.heap_alloc _ _ _ (by simp; omega), Below.heap_alloc _ _ _ hk]
theorem grow_block1 {w w' : World} {row : Option Nat} {o1 : Obj} (hg : (w.alloc o1).grownBy w' row) {k : Nat} (hk : k < w.heap.size) (hr : row ≠ some k) : w'.heap[k]? = w.heap[k]? := by
  rw [hg.block k (by simp; omega) (Ne.symm hr), Below.heap_alloc _ _ _ hk]
theorem ownsRow_rd {α : Type} [Inhabited α] {enc : α → Value} {w : World} {base : Nat} {e : TypeId} {v : Value} {n : Nat} {xs : List α} (h : w.ownsRow base e 1 v n (xs.map enc)) : Rd enc w (fun k => v.ownBlock = some k) v xs := by
  obtain ⟨hl, a, c, rfl, hc, hm, hpos⟩ := ownsRow_open h
  subst hl
  refine ⟨a, c, rfl, hc, hm, fun h0 => ?_⟩
  obtain ⟨g, rfl, _, hg, ho, hH⟩ := hpos h0
  refine ⟨⟨g, 0, none⟩, rfl, ho, hg, fun j hj => ?_⟩
  have := (hH j (by simpa using hj)).1
  have ea : (⟨g, 0, none⟩ : Addr).add j = ⟨g, 0 + j, none⟩ := by simp only [Addr.add]; split <;> simp_all
  rw [ea]
  simpa [getElem!_pos, hj] using this
theorem rowW_int (xs : List Nat) : rowW xs = (xs.map fun (n : Nat) => (n : Int)).map encN := by simp [rowW]
#print axioms Build.steps
#print axioms Build.snoc
end Go.Proofs.YtkmknpobinpegaaDoor
