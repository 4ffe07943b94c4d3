/- The document's wheel in memory: a tick and a row of pairs. -/
import Derived.Test.YtkmknpobinpegaaWheelSmall
import Derived.Test.YtkmknpobinpegaaWheelTick
import Derived.Test.YtkmknpobinpegaaTurns
namespace Go.Proofs.Ytkmknpobinpegaa
set_option linter.unusedSimpArgs false
set_option linter.unusedVariables false
open Go Go.RowKit Go.Maps Go.Sort Go.Lib Go.Shelf

def flat (L : WL) : List Value := L.flatMap fun p => [.int .i64 (p.1 : Int), .int .i64 (p.2 : Int)]
theorem flat_nil : flat [] = [] := rfl
theorem flat_cons (p : Nat × Nat) (r : WL) : flat (p :: r) = .int .i64 (p.1 : Int) :: .int .i64 (p.2 : Int) :: flat r := rfl
theorem flat_append (A B : WL) : flat (A ++ B) = flat A ++ flat B := by unfold flat; rw [List.flatMap_append]
theorem flat_length : ∀ L : WL, (flat L).length = L.length * 2
  | [] => rfl
  | p :: r => by rw [flat_cons]; simp only [List.length_cons, flat_length r]; omega
theorem flat_take : ∀ (L : WL) (i : Nat), flat (L.take i) = (flat L).take (i * 2)
  | [], i => by simp [flat_nil]
  | p :: r, 0 => by simp [flat_nil]
  | p :: r, i + 1 => by
    rw [List.take_succ_cons, flat_cons, flat_cons, flat_take r i, show (i + 1) * 2 = i * 2 + 1 + 1 by omega]
    rfl
theorem flat_drop : ∀ (L : WL) (i : Nat), flat (L.drop i) = (flat L).drop (i * 2)
  | [], i => by simp [flat_nil]
  | p :: r, 0 => by simp
  | p :: r, i + 1 => by
    rw [List.drop_succ_cons, flat_cons, flat_drop r i, show (i + 1) * 2 = i * 2 + 1 + 1 by omega]
    rfl
theorem flat_get0 {L : WL} {i : Nat} (h : i < L.length) : (flat L)[i * 2]? = some (.int .i64 ((L[i]!).1 : Int)) := by
  have h1 : L.drop i = L[i] :: L.drop (i + 1) := List.drop_eq_getElem_cons h
  have h2 := flat_drop L i
  rw [h1, flat_cons] at h2
  have h3 : ((flat L).drop (i * 2))[0]? = (flat L)[i * 2]? := by rw [List.getElem?_drop]; rfl
  rw [← h3, ← h2, getElem!_pos L i h]
  rfl
theorem flat_get1 {L : WL} {i : Nat} (h : i < L.length) : (flat L)[i * 2 + 1]? = some (.int .i64 ((L[i]!).2 : Int)) := by
  have h1 : L.drop i = L[i] :: L.drop (i + 1) := List.drop_eq_getElem_cons h
  have h2 := flat_drop L i
  rw [h1, flat_cons] at h2
  have h3 : ((flat L).drop (i * 2))[1]? = (flat L)[i * 2 + 1]? := by rw [List.getElem?_drop]
  rw [← h3, ← h2, getElem!_pos L i h]
  rfl
theorem flat_oneCell (L : WL) : ∀ u ∈ flat L, u.oneCell' = true := by
  intro u hu
  unfold flat at hu
  obtain ⟨p, _, hp⟩ := List.mem_flatMap.1 hu
  simp only [List.mem_cons, List.not_mem_nil, or_false] at hp
  rcases hp with rfl | rfl <;> rfl

theorem infoDue : (Try.prog.info? 55).map (fun i => (i.zero, i.size, i.bytes)) = some (some (.agg #[.int .i64 0, .int .i64 0]), 2, 16) := by kernel_rfl

/-- The document's wheel: its block's cells, its row. -/
structure RefIn (w : World) (S : Nat → Prop) (c now : Nat) (v : Value) (L : WL) : Prop where
  c0 : w.cell? ⟨c, 0, none⟩ = some (.int .i64 (now : Int))
  c1 : w.cell? ⟨c, 1, none⟩ = some v
  fr : ∀ k, w.frozen? ⟨c, k, none⟩ = false
  own : w.ownsRow 0 55 2 v L.length (flat L)
  sc : S c
  sv : ∀ g, v.ownBlock = some g → S g ∧ g ≠ c
  lt : ∀ k, S k → k < w.heap.size
def RefAt (w : World) (S : Nat → Prop) (c now : Nat) (L : WL) : Prop := ∃ v, RefIn w S c now v L
theorem RefIn.keep {w w' : World} {S : Nat → Prop} {c now : Nat} {v : Value} {L : WL} (h : RefIn w S c now v L) (hk : ∀ k, S k → w'.heap[k]? = w.heap[k]?) (hz : w.heap.size ≤ w'.heap.size) : RefIn w' S c now v L where
  c0 := by rw [World.cell?_of_block (w := w) (hk c h.sc)]; exact h.c0
  c1 := by rw [World.cell?_of_block (w := w) (hk c h.sc)]; exact h.c1
  fr := fun k => by rw [World.frozen?_of_block (w := w) (hk c h.sc)]; exact h.fr k
  own := ownsRow_block h.own (fun g hg => hk g (h.sv g hg).1)
  sc := h.sc
  sv := h.sv
  lt := fun k hk' => Nat.lt_of_lt_of_le (h.lt k hk') hz
theorem RefAt.keep {w w' : World} {S : Nat → Prop} {c now : Nat} {L : WL} (h : RefAt w S c now L) (hk : ∀ k, S k → w'.heap[k]? = w.heap[k]?) (hz : w.heap.size ≤ w'.heap.size) : RefAt w' S c now L :=
  let ⟨v, h⟩ := h; ⟨v, h.keep hk hz⟩
theorem RefAt.lt {w : World} {S : Nat → Prop} {c now : Nat} {L : WL} (h : RefAt w S c now L) : ∀ k, S k → k < w.heap.size := let ⟨_, h⟩ := h; h.lt
theorem RefAt.fr {w w' : World} {S T : Nat → Prop} {c now : Nat} {L : WL} (h : RefAt w S c now L) (hf : Fr T w w') (hd : ∀ k, S k → ¬ T k) : RefAt w' S c now L :=
  h.keep (fun k hk => hf.block k (h.lt k hk) (hd k hk)) hf.size

/-- A slice of pairs that owns its row: its shape, its cells. -/
theorem pairs_open {w : World} {B : Nat} {v : Value} {L : WL} (h : w.ownsRow B 55 2 v L.length (flat L)) :
    ∃ a c, v = .slice a L.length c ∧ L.length ≤ c ∧ c ≤ maxLen ∧ (0 < L.length → ∃ g, a = some ⟨g, 0, none⟩ ∧ B ≤ g ∧ g < w.heap.size ∧ v.ownBlock = some g ∧
      (∀ j u, (flat L)[j]? = some u → w.cell? ⟨g, j, none⟩ = some u)) := by
  have h0 := h
  rcases h.2 with ⟨rfl, hn⟩ | ⟨g, cap, cur, rfl, hb, hg, hnc, hcm, hcs, htake⟩
  · exact ⟨none, 0, by rw [hn], by omega, Nat.zero_le _, fun h => by omega⟩
  · refine ⟨_, _, rfl, hnc, hcm, fun _ => ⟨g, rfl, hb, (Array.getElem?_eq_some_iff.1 hg).1, rfl, fun j u hu => ?_⟩⟩
    have := h0.cells (g := g) rfl j u hu
    rw [Addr.add_lit] at this
    simpa using this

theorem cells_new (w : World) (cs : Array Value) (T : TypeId) : ∀ j u, cs.toList[j]? = some u → (w.alloc (.cells cs T)).cell? ((⟨w.heap.size, 0, none⟩ : Addr).add j) = some u := by
  intro j u hu
  rw [Addr.add_lit, Nat.zero_add, World.cell?_alloc_new]
  simpa using hu
theorem alloc_drewN_size (w : World) (n : Nat) (o : Obj) : ((w.drewN n).alloc o).heap.size = w.heap.size + 1 := Array.size_push _
/-- What a call of the document's wheel leaves. -/
def RefPost (w : World) (S : Nat → Prop) (c now : Nat) (L : WL) (r : Ending) (e : Ending) (w' : World) : Prop :=
  e = r ∧ ∃ S', RefAt w' S' c now L ∧ Fr S w w' ∧ ∀ k, S' k → S k ∨ w.heap.size ≤ k
theorem Addr_add0 (g j : Nat) : (⟨g, 0, none⟩ : Addr).add j = ⟨g, j, none⟩ := by rw [Addr.add_lit]; simp
/-- Which block a row that has grown lies in. -/
theorem own_in {w w' : World} {S : Nat → Prop} {c g : Nat} {v v' : Value} {n : Nat} {xs : List Value} {B : Nat} (h : w'.ownsRow B 55 2 v' n xs) (hv : v'.ownBlock = some g) : B ≤ g ∧ g < w'.heap.size := h.lt g hv
#print axioms flat_get1
#print axioms pairs_open
end Go.Proofs.Ytkmknpobinpegaa
