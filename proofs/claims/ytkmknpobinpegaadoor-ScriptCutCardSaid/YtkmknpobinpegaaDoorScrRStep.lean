/- Layer 29's reader: a step (under way). -/
import Derived.Test.YtkmknpobinpegaaDoorPad
import Derived.LoopTactic
namespace Go.Proofs.YtkmknpobinpegaaDoor
open Go Go.RowKit Go.Maps Go.Sort Go.Lib
set_option linter.unusedSimpArgs false
set_option linter.unusedVariables false

/-- So many numbers behind each other: what they are, what is left. -/
def takeMany (wide : Nat) : Nat → RSt → List Nat × RSt
  | 0, st => ([], st)
  | m + 1, st => ((takeMany wide m st).1 ++ [takeN (takeMany wide m st).2 wide], takeS (takeMany wide m st).2 wide)
theorem takeMany_len (wide : Nat) (st : RSt) : ∀ m, (takeMany wide m st).1.length = m
  | 0 => rfl
  | m + 1 => by simp [takeMany, takeMany_len wide st m]
def RStBits : RSt → Prop
  | .ok rest => ∀ y ∈ rest, y ≤ 1
  | .bad _ => True
theorem SrAt.bits {w : World} {S : Nat → Prop} {sb : Nat} {st : RSt} (h : SrAt w S sb st) : RStBits st := by
  cases st with
  | ok rest => obtain ⟨R, rb, _, _, _, ⟨a, c, H⟩, _⟩ := h; exact H.bit
  | bad k => trivial
theorem takeN_lt {st : RSt} (h : RStBits st) (wide : Nat) : takeN st wide < 2 ^ wide := by
  cases st with
  | bad k => exact Nat.two_pow_pos _
  | ok rest =>
    unfold takeN
    simp only
    split
    · exact Nat.two_pow_pos _
    · have h1 := valOf_lt (rest.take wide) (fun y hy => h y (List.mem_of_mem_take hy))
      rw [List.length_take, Nat.min_eq_left (by omega)] at h1
      exact h1
theorem SrAt.lt {w : World} {S : Nat → Prop} {sb : Nat} {st : RSt} (h : SrAt w S sb st) : ∀ k, S k → k < w.heap.size := by
  cases st with
  | ok rest => obtain ⟨R, rb, _, _, _, _, _, _, h⟩ := h; exact h
  | bad k => obtain ⟨e, _, _, _, _, h⟩ := h; exact h
theorem SrAt.keep {w w' : World} {S : Nat → Prop} {sb : Nat} {st : RSt} (h : SrAt w S sb st) (hk : ∀ k, S k → w'.heap[k]? = w.heap[k]?) (hz : w.heap.size ≤ w'.heap.size) : SrAt w' S sb st := by
  cases st with
  | ok rest =>
    obtain ⟨R, rb, h0, h1, h2, h3, h4, h5, h6⟩ := h
    exact ⟨R, rb, by rw [World.cell?_of_block (w := w) (a := ⟨sb, 0, none⟩) (hk sb h5)]; exact h0, by rw [World.cell?_of_block (w := w) (a := ⟨sb, 1, none⟩) (hk sb h5)]; exact h1,
      by rw [World.frozen?_of_block (w := w) (a := ⟨sb, 1, none⟩) (hk sb h5)]; exact h2, h3.keep (fun k hR => hk k (h4 k hR).1) hz, h4, h5, fun k hS => by have := h6 k hS; omega⟩
  | bad k =>
    obtain ⟨e, h1, h2, h3, h4, h5⟩ := h
    exact ⟨e, by rw [World.cell?_of_block (w := w) (a := ⟨sb, 1, none⟩) (hk sb h4)]; exact h1, by rw [World.cell?_of_block (w := w) (a := ⟨e, 1, none⟩) (hk e h3)]; exact h2, h3, h4, fun k hS => by have := h5 k hS; omega⟩
/-- The reader on its way, a block p beside it written by the call itself. -/
structure RWay (wB : World) (S : Nat → Prop) (p sb : Nat) (wi : World) (Si : Nat → Prop) (st : RSt) : Prop where
  at_ : SrAt wi Si sb st
  fr : Fr (fun k => S k ∨ k = p) wB wi
  gr : ∀ k, Si k → S k ∨ wB.heap.size ≤ k
theorem RWay.next {wB wi w2 : World} {S Si : Nat → Prop} {p sb n : Nat} {st st2 : RSt} {e : Ending} (h : RWay wB S p sb wi Si st) (hP : TkPost wi Si sb n st2 e w2) :
    e = .returned (.int .i64 (n : Int)) ∧ ∃ S2, RWay wB S p sb w2 S2 st2 ∧ Fr Si wi w2 ∧ ∀ k, S2 k → Si k ∨ wi.heap.size ≤ k := by
  obtain ⟨he, S2, h1, h2, h3⟩ := hP
  have hz := h.fr.size
  refine ⟨he, S2, ⟨h1, h.fr.trans h2 (fun k hk => ?_), fun k hk => ?_⟩, h2, h3⟩
  · rcases h.gr k hk with h' | h'
    · exact .inl (.inl h')
    · exact .inr h'
  · rcases h3 k hk with h' | h'
    · exact h.gr k h'
    · right; omega
theorem RWay.keep {wB wi w' : World} {S Si : Nat → Prop} {p sb : Nat} {st : RSt} (h : RWay wB S p sb wi Si st) (hk : ∀ k, Si k → w'.heap[k]? = wi.heap[k]?) (hf : Fr (fun k => S k ∨ k = p) wB w') (hz : wi.heap.size ≤ w'.heap.size) : RWay wB S p sb w' Si st :=
  ⟨h.at_.keep hk hz, hf, h.gr⟩
/-- The step that is being read: its four cells. -/
structure PC (w : World) (p : Nat) (n1 n2 : Nat) (vb va : Value) : Prop where
  p0 : w.cell? ⟨p, 0, none⟩ = some (.int .i64 (n1 : Int))
  p1 : w.cell? ⟨p, 1, none⟩ = some (.int .i64 (n2 : Int))
  p2 : w.cell? ⟨p, 2, none⟩ = some vb
  p3 : w.cell? ⟨p, 3, none⟩ = some va
  fr : ∀ k, w.frozen? ⟨p, k, none⟩ = false
theorem PC.lt {w : World} {p n1 n2 : Nat} {vb va : Value} (h : PC w p n1 n2 vb va) : p < w.heap.size := World.block_lt_of_cell? w _ h.p0
theorem PC.block {w w' : World} {p n1 n2 : Nat} {vb va : Value} (h : PC w p n1 n2 vb va) (hb : w'.heap[p]? = w.heap[p]?) : PC w' p n1 n2 vb va where
  p0 := by rw [World.cell?_of_block (w := w) (a := ⟨p, 0, none⟩) hb]; exact h.p0
  p1 := by rw [World.cell?_of_block (w := w) (a := ⟨p, 1, none⟩) hb]; exact h.p1
  p2 := by rw [World.cell?_of_block (w := w) (a := ⟨p, 2, none⟩) hb]; exact h.p2
  p3 := by rw [World.cell?_of_block (w := w) (a := ⟨p, 3, none⟩) hb]; exact h.p3
  fr := fun k => by rw [World.frozen?_of_block (w := w) (a := ⟨p, k, none⟩) hb]; exact h.fr k
theorem PC.set1 {w : World} {p n1 n2 n2' : Nat} {vb va : Value} (h : PC w p n1 n2 vb va) : PC (w.setCell ⟨p, 1, none⟩ (.int .i64 (n2' : Int))) p n1 n2' vb va where
  p0 := by rw [World.cell?_setCell_other _ _ _ _ (fun e => by injection e with _ e _; omega)]; exact h.p0
  p1 := World.cell?_setCell_same _ _ _ h.p1
  p2 := by rw [World.cell?_setCell_other _ _ _ _ (fun e => by injection e with _ e _; omega)]; exact h.p2
  p3 := by rw [World.cell?_setCell_other _ _ _ _ (fun e => by injection e with _ e _; omega)]; exact h.p3
  fr := fun k => by rw [World.frozen?_setCell]; exact h.fr k
theorem PC.set2 {w : World} {p n1 n2 : Nat} {vb vb' va : Value} (h : PC w p n1 n2 vb va) : PC (w.setCell ⟨p, 2, none⟩ vb') p n1 n2 vb' va where
  p0 := by rw [World.cell?_setCell_other _ _ _ _ (fun e => by injection e with _ e _; omega)]; exact h.p0
  p1 := by rw [World.cell?_setCell_other _ _ _ _ (fun e => by injection e with _ e _; omega)]; exact h.p1
  p2 := World.cell?_setCell_same _ _ _ h.p2
  p3 := by rw [World.cell?_setCell_other _ _ _ _ (fun e => by injection e with _ e _; omega)]; exact h.p3
  fr := fun k => by rw [World.frozen?_setCell]; exact h.fr k
theorem PC.set3 {w : World} {p n1 n2 : Nat} {vb va va' : Value} (h : PC w p n1 n2 vb va) : PC (w.setCell ⟨p, 3, none⟩ va') p n1 n2 vb va' where
  p0 := by rw [World.cell?_setCell_other _ _ _ _ (fun e => by injection e with _ e _; omega)]; exact h.p0
  p1 := by rw [World.cell?_setCell_other _ _ _ _ (fun e => by injection e with _ e _; omega)]; exact h.p1
  p2 := by rw [World.cell?_setCell_other _ _ _ _ (fun e => by injection e with _ e _; omega)]; exact h.p2
  p3 := World.cell?_setCell_same _ _ _ h.p3
  fr := fun k => by rw [World.frozen?_setCell]; exact h.fr k
def rowW (xs : List Nat) : List Value := xs.map fun (a : Nat) => Value.int .i64 (a : Int)
theorem infoW : (Tryd.prog.info? 3).map (fun i => (i.zero, i.size, i.bytes)) = some (some (.int .i64 0), 1, 8) := by kernel_rfl
def rS3 (st : RSt) : RSt := takeS (takeS (takeS st 8) 16) 8
def rM (st : RSt) : Nat := takeN (takeS (takeS st 8) 16) 8
def rB (st : RSt) : List Nat × RSt := takeMany 8 (rM st) (rS3 st)
def rA (st : RSt) : List Nat × RSt := takeMany 16 (takeN (rB st).2 8) (takeS (rB st).2 8)
/-- What reading a step leaves. -/
def RStepPost (w : World) (S : Nat → Prop) (sb : Nat) (st : RSt) (e : Ending) (w' : World) : Prop :=
  ∃ S' v err, e = .returned (.tuple #[v, err]) ∧ SrAt w' S' sb (rA st).2 ∧ Fr S w w' ∧ (∀ k, S' k → S k ∨ w.heap.size ≤ k) ∧
    match (rA st).2 with
    | .ok _ => err = .nilIface ∧ ∃ vb va, v = .agg #[.int .i64 (takeN st 8 : Int), .int .i64 (takeN (takeS st 8) 16 : Int), vb, va] ∧ w'.ownsRow w.heap.size 5 1 vb (rB st).1.length (rowB (rB st).1) ∧
        w'.ownsRow w.heap.size 3 1 va (rA st).1.length (rowW (rA st).1) ∧ (∀ g, vb.ownBlock = some g → ¬ S' g) ∧ (∀ g, va.ownBlock = some g → ¬ S' g)
    | .bad k => v = .agg #[.int .i64 0, .int .i64 0, .slice none 0 0, .slice none 0 0] ∧ ∃ q, err = .iface 90 (.agg #[.iface 73 (.pointer (some ⟨q, 0, none⟩))]) ∧ w'.cell? ⟨q, 1, none⟩ = some (.int .i64 k) ∧ S' q
#print axioms RWay.next
end Go.Proofs.YtkmknpobinpegaaDoor
