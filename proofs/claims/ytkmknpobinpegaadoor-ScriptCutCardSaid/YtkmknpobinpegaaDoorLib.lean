/- Frames: what a call leaves as it was, block by block; small laws on worlds. -/
import Derived.Below
import Derived.Maps.OwnSet
import Derived.Maps.AppendAt
import Derived.Lib.OwnBridge
import Derived.Lib.Hide
import Derived.Deep.Draws
namespace Go.Proofs.YtkmknpobinpegaaDoor
open Go Go.RowKit Go.Maps Go.Sort Go.Lib

/-- From w to w' nothing has changed but blocks in S, and new ones. -/
structure Fr (S : Nat → Prop) (w w' : World) : Prop where
  os : w'.os = w.os
  tape : w'.tape = w.tape
  output : w'.output = w.output
  size : w.heap.size ≤ w'.heap.size
  block : ∀ k, k < w.heap.size → ¬ S k → w'.heap[k]? = w.heap[k]?

theorem Fr.refl (S : Nat → Prop) (w : World) : Fr S w w := ⟨rfl, rfl, rfl, Nat.le_refl _, fun _ _ _ => rfl⟩
theorem Fr.trans {S S' : Nat → Prop} {a b c : World} (h : Fr S a b) (k : Fr S' b c) (hs : ∀ j, S' j → S j ∨ a.heap.size ≤ j) : Fr S a c :=
  ⟨k.os.trans h.os, k.tape.trans h.tape, k.output.trans h.output, Nat.le_trans h.size k.size, fun j hj hn =>
    (k.block j (Nat.lt_of_lt_of_le hj h.size) (fun hj' => (hs j hj').elim hn (fun h' => by omega))).trans (h.block j hj hn)⟩
theorem Fr.mono {S S' : Nat → Prop} {a b : World} (h : Fr S a b) (hs : ∀ j, j < a.heap.size → S j → S' j) : Fr S' a b :=
  ⟨h.os, h.tape, h.output, h.size, fun j hj hn => h.block j hj (fun h' => hn (hs j hj h'))⟩
theorem Fr.alloc {S : Nat → Prop} {a w : World} (h : Fr S a w) (o : Obj) : Fr S a (w.alloc o) :=
  ⟨h.os, h.tape, h.output, by have := h.size; simp; omega, fun j hj hn => by rw [Below.heap_alloc _ _ _ (Nat.lt_of_lt_of_le hj h.size)]; exact h.block j hj hn⟩
theorem Fr.setCell {S : Nat → Prop} {a w : World} (h : Fr S a w) {p : Addr} (hp : S p.block ∨ a.heap.size ≤ p.block) (u : Value) : Fr S a (w.setCell p u) :=
  ⟨h.os, h.tape, h.output, by have := h.size; simpa [World.setCell] using this, fun j hj hn => by
    rw [Below.heap_setCell _ _ _ _ (fun e => by subst e; rcases hp with hp | hp; exact hn hp; omega)]; exact h.block j hj hn⟩
theorem Fr.drew {S : Nat → Prop} {a w : World} (h : Fr S a w) : Fr S a w.drew := ⟨h.os, h.tape, h.output, h.size, h.block⟩
theorem Fr.ahead {S : Nat → Prop} {a w : World} (h : Fr S a w) (n : Nat) : Fr S a (Sort.ahead w n) := ⟨h.os, h.tape, h.output, h.size, h.block⟩
theorem Fr.drewN {S : Nat → Prop} {a w : World} (h : Fr S a w) (n : Nat) : Fr S a (w.drewN n) := ⟨h.os, h.tape, h.output, h.size, h.block⟩
theorem Fr.of_drew {S : Nat → Prop} {a w : World} (h : Fr S a.drew w) : Fr S a w := ⟨h.os, h.tape, h.output, h.size, h.block⟩
theorem Fr.grown {S : Nat → Prop} {a w w' : World} {row : Option Nat} (h : Fr S a w) (hg : w.grownBy w' row) (hr : ∀ k, row = some k → S k ∨ a.heap.size ≤ k) : Fr S a w' :=
  ⟨hg.os.trans h.os, hg.tape.trans h.tape, hg.output.trans h.output, Nat.le_trans h.size hg.size, fun j hj hn =>
    (hg.block j (Nat.lt_of_lt_of_le hj h.size) (fun e => (hr j e.symm).elim hn (fun h' => by omega))).trans (h.block j hj hn)⟩
theorem Fr.putRow {S : Nat → Prop} {a w : World} {α : Type} [Inhabited α] {enc : α → Value} {g off : Nat} {d : Array α} (h : Fr S a w) (hg : S g ∨ a.heap.size ≤ g) : Fr S a (Sort.putRow enc w g off d) :=
  ⟨h.os, h.tape, h.output, by simpa [Sort.putRow, mapBlock] using h.size, fun k hk hn => by
    rw [← h.block k hk hn]
    have : g ≠ k := fun e => by subst e; rcases hg with hg | hg; exact hn hg; omega
    simp [Sort.putRow, mapBlock, Array.getElem?_modify, this]⟩
theorem Fr.cell {S : Nat → Prop} {w w' : World} (h : Fr S w w') {p : Addr} (hp : p.block < w.heap.size) (hn : ¬ S p.block) : w'.cell? p = w.cell? p := World.cell?_of_block (w := w) (h.block p.block hp hn)
theorem Fr.frozen {S : Nat → Prop} {w w' : World} (h : Fr S w w') {p : Addr} (hp : p.block < w.heap.size) (hn : ¬ S p.block) : w'.frozen? p = w.frozen? p := World.frozen?_of_block (w := w) (h.block p.block hp hn)
theorem Fr.below {S : Nat → Prop} {B : Nat} {w w' : World} (h : Fr S w w') (hs : ∀ k, S k → B ≤ k) (hB : B ≤ w.heap.size) : Below B w w' :=
  ⟨h.os, h.tape, h.output, h.size, fun k hk => h.block k (by omega) (fun h' => by have := hs k h'; omega)⟩
theorem Fr.of_below {B : Nat} {w w' : World} (h : Below B w w') : Fr (fun k => B ≤ k) w w' :=
  ⟨h.os, h.tape, h.output, h.size, fun k _ hn => h.block k (by omega)⟩

/-- A cell that holds something lies in the heap. -/
theorem lt_of_cell {w : World} {a : Addr} {v : Value} (h : w.cell? a = some v) : a.block < w.heap.size := World.block_lt_of_cell? w a h

/-- What owns its row keeps it where its block is as it was. -/
theorem ownsRow_block {w w' : World} {base : Nat} {e : TypeId} {size : Nat} {v : Value} {n : Nat} {xs : List Value} (h : w.ownsRow base e size v n xs)
    (hb : ∀ g, v.ownBlock = some g → w'.heap[g]? = w.heap[g]?) : w'.ownsRow base e size v n xs := by
  refine ⟨h.1, ?_⟩
  rcases h.2 with hn | ⟨g, cap, cur, rfl, hbb, hgg, rest⟩
  · exact .inl hn
  · exact .inr ⟨g, cap, cur, rfl, hbb, by rw [hb g rfl]; exact hgg, rest⟩
theorem ownsMap_block {H : Type} {P : Program} {k : TypeId} {R : Value → Option (DataW H × List MemPlace)} {w w' : World} {b n : Nat} {D : DataW H} (h : w.ownsMap P k R b n D)
    (hb : w'.heap[b]? = w.heap[b]?) : w'.ownsMap P k R b n D := by
  obtain ⟨es, clock, h1, h2⟩ := h
  exact ⟨es, clock, by rw [hb]; exact h1, h2⟩
theorem ownsRow_base {w : World} {base base' : Nat} {e : TypeId} {size : Nat} {v : Value} {n : Nat} {xs : List Value} (h : w.ownsRow base e size v n xs)
    (hb : ∀ g, v.ownBlock = some g → base' ≤ g) : w.ownsRow base' e size v n xs := by
  refine ⟨h.1, ?_⟩
  rcases h.2 with hn | ⟨g, cap, cur, rfl, hbb, rest⟩
  · exact .inl hn
  · exact .inr ⟨g, cap, cur, rfl, hb g rfl, rest⟩
theorem ownsRow_slice {w : World} {base : Nat} {e : TypeId} {size : Nat} {v : Value} {n : Nat} {xs : List Value} (h : w.ownsRow base e size v n xs) : ∃ a l c, v = .slice a l c := by
  rcases h.2 with ⟨rfl, _⟩ | ⟨g, cap, cur, rfl, _⟩
  · exact ⟨_, _, _, rfl⟩
  · exact ⟨_, _, _, rfl⟩
/-- A slice that owns its row: its shape; where it has elements, its cells. -/
theorem ownsRow_open {α : Type} [Inhabited α] {enc : α → Value} {w : World} {base : Nat} {e : TypeId} {v : Value} {n : Nat} {zs : List α} (h : w.ownsRow base e 1 v n (zs.map enc)) :
    zs.length = n ∧ ∃ a c, v = .slice a n c ∧ n ≤ c ∧ c ≤ maxLen ∧ (0 < n → ∃ g, a = some ⟨g, 0, none⟩ ∧ base ≤ g ∧ g < w.heap.size ∧ v.ownBlock = some g ∧ Holds enc w g 0 zs.toArray) := by
  have hl : zs.length = n := by simpa using h.1
  refine ⟨hl, ?_⟩
  by_cases hv : v = .slice none 0 0
  · rcases h.2 with ⟨_, rfl⟩ | ⟨g, cap, cur, e0, _⟩
    · exact ⟨none, 0, hv, Nat.le_refl _, Nat.zero_le _, fun h => absurd h (Nat.lt_irrefl _)⟩
    · rw [hv] at e0; cases e0
  · obtain ⟨g, cap, rfl, hb, hg, hn, hm, _, hH⟩ := holds_of_ownsRow h hv
    exact ⟨_, _, rfl, hn, hm, fun _ => ⟨g, rfl, hb, hg, rfl, hH⟩⟩
theorem ownsRow_cell {α : Type} [Inhabited α] {enc : α → Value} {w : World} {base : Nat} {e : TypeId} {g n c : Nat} {zs : List α} (h : w.ownsRow base e 1 (.slice (some ⟨g, 0, none⟩) n c) n (zs.map enc)) {j : Nat} (hj : j < n) :
    w.cell? ⟨g, j, none⟩ = some (enc zs[j]!) := by
  obtain ⟨hl, a, c', hv, _, _, hpos⟩ := ownsRow_open h
  obtain ⟨g', ha, _, _, ho, hH⟩ := hpos (by omega)
  injection hv with hv1 _ _
  rw [ha] at hv1
  injection hv1 with hv1
  injection hv1 with hv1
  subst hv1
  have := (hH j (by simpa [hl] using hj)).1
  simpa [getElem!_pos, show j < zs.length by omega] using this
theorem cell_drew_new (w : World) (v : Value) (T : TypeId) : (w.alloc (.cells #[v] T)).drew.cell? ⟨w.heap.size, 0, none⟩ = some v := by
  show (w.alloc (.cells #[v] T)).cell? _ = _
  rw [World.cell?_alloc_new]; rfl
#print axioms ownsRow_block
end Go.Proofs.YtkmknpobinpegaaDoor
