/- Both wheels beside each other in memory: what a call of the one leaves of the other. -/
import Derived.Test.YtkmknpobinpegaaTurns
import Derived.Test.YtkmknpobinpegaaRefSet
import Derived.Test.YtkmknpobinpegaaRefTickW
namespace Go.Proofs.Ytkmknpobinpegaa
set_option linter.unusedSimpArgs false
set_option linter.unusedVariables false
open Go Go.RowKit Go.Maps Go.Sort Go.Lib Go.Shelf

structure Two (w0 wr : World) (b c : Nat) (S S2 : Nat → Prop) (n1 : Nat) (L1 : WL) (n2 : Nat) (L2 : WL) : Prop where
  wh : WheelAt wr S b n1 L1
  rf : RefAt wr S2 c n2 L2
  dj : ∀ k, S k → ¬ S2 k
  lo : ∀ k, S k → w0.heap.size ≤ k
  lo2 : ∀ k, S2 k → w0.heap.size ≤ k
  bl : Below w0.heap.size w0 wr

section
variable {w0 wr w' : World} {b c n1 n2 n1' n2' : Nat} {S S2 S' : Nat → Prop} {L1 L2 L1' L2' : WL}
theorem Two.wheel (T : Two w0 wr b c S S2 n1 L1 n2 L2) (hW : WheelAt w' S' b n1' L1') (hF : Fr S wr w') (hS : ∀ k, S' k → S k ∨ wr.heap.size ≤ k) : Two w0 w' b c S' S2 n1' L1' n2 L2 where
  wh := hW
  rf := T.rf.fr hF (fun k hk h => T.dj k h hk)
  dj := fun k hk h2 => by
    rcases hS k hk with h | h
    · exact T.dj k h h2
    · have := T.rf.lt k h2; omega
  lo := fun k hk => by
    rcases hS k hk with h | h
    · exact T.lo k h
    · have := T.bl.size; omega
  lo2 := T.lo2
  bl := T.bl.trans (hF.below T.lo T.bl.size)
theorem Two.ref (T : Two w0 wr b c S S2 n1 L1 n2 L2) (hR : RefAt w' S' c n2' L2') (hF : Fr S2 wr w') (hS : ∀ k, S' k → S2 k ∨ wr.heap.size ≤ k) : Two w0 w' b c S S' n1 L1 n2' L2' where
  wh := T.wh.fr hF (fun k hk h => T.dj k hk h)
  rf := hR
  dj := fun k hk h2 => by
    rcases hS k h2 with h | h
    · exact T.dj k hk h
    · have := T.wh.lt k hk; omega
  lo := T.lo
  lo2 := fun k hk => by
    rcases hS k hk with h | h
    · exact T.lo2 k h
    · have := T.bl.size; omega
  bl := T.bl.trans (hF.below T.lo2 T.bl.size)
theorem Two.keep (T : Two w0 wr b c S S2 n1 L1 n2 L2) (h : Below wr.heap.size wr w') : Two w0 w' b c S S2 n1 L1 n2 L2 where
  wh := T.wh.keep (fun k hk => h.block k (T.wh.lt k hk)) h.size
  rf := T.rf.keep (fun k hk => h.block k (T.rf.lt k hk)) h.size
  dj := T.dj
  lo := T.lo
  lo2 := T.lo2
  bl := T.bl.trans (h.mono T.bl.size)

theorem Two.nd (T : Two w0 wr b c S S2 n1 L1 n2 L2) : (L1.map Prod.fst).Nodup := by obtain ⟨_, _, _, _, h⟩ := T.wh; exact h.nd

theorem Two.lo16 (T : Two w0 wr b c S S2 n1 L1 n2 L2) : ∀ p ∈ L1, p.1 < 65536 := by obtain ⟨_, _, _, _, h⟩ := T.wh; exact h.lo

/-- The step that is looked at, in a block of its own. -/
structure Loc (wr : World) (S S2 : Nat → Prop) (p : Nat) (x y z : Value) : Prop where
  p0 : wr.cell? ⟨p, 0, none⟩ = some x
  p1 : wr.cell? ⟨p, 1, none⟩ = some y
  p2 : wr.cell? ⟨p, 2, none⟩ = some z
  no : ¬ S p
  no2 : ¬ S2 p
variable {p : Nat} {x y z : Value}
theorem Loc.lt (h : Loc wr S S2 p x y z) : p < wr.heap.size := World.block_lt_of_cell? wr _ h.p0
theorem Loc.wheel (h : Loc wr S S2 p x y z) (hF : Fr S wr w') (hS : ∀ k, S' k → S k ∨ wr.heap.size ≤ k) : Loc w' S' S2 p x y z where
  p0 := by rw [hF.cell (p := ⟨p, 0, none⟩) h.lt h.no]; exact h.p0
  p1 := by rw [hF.cell (p := ⟨p, 1, none⟩) h.lt h.no]; exact h.p1
  p2 := by rw [hF.cell (p := ⟨p, 2, none⟩) h.lt h.no]; exact h.p2
  no := fun k => by
    rcases hS p k with h' | h'
    · exact h.no h'
    · have := h.lt; omega
  no2 := h.no2
end

/-! ### the row of steps that came in -/
def InActs (w : World) (a : Option Addr) (len cap : Nat) : Prop :=
  (a = none ∧ len = 0 ∧ cap = 0) ∨
  ∃ x, a = some x ∧ len ≤ cap ∧ cap ≤ maxLen ∧ ∀ i, i < len → ∃ n m k : Int, w.cell? (x.add (i * 3)) = some (.int .i64 n) ∧ w.cell? (x.add (i * 3 + 1)) = some (.int .u16 m) ∧ w.cell? (x.add (i * 3 + 2)) = some (.int .i64 k) ∧
    (Lit.int .i64 n).wf = true ∧ (Lit.int .u16 m).wf = true ∧ (Lit.int .i64 k).wf = true
theorem InActs.le {w : World} {a : Option Addr} {len cap : Nat} (h : InActs w a len cap) : len ≤ maxLen := by
  rcases h with ⟨_, rfl, _⟩ | ⟨x, _, h1, h2, _⟩
  · exact Nat.zero_le _
  · exact Nat.le_trans h1 h2
theorem InActs.get {w w' : World} {a : Option Addr} {len cap : Nat} (h : InActs w a len cap) (hb : Below w.heap.size w w') {i : Nat} (hi : i < len) :
    ∃ x n m k, a = some x ∧ w'.cell? (x.add (i * 3)) = some (.int .i64 n) ∧ w'.cell? ⟨(x.add (i * 3)).block, (x.add (i * 3)).off + 1, none⟩ = some (.int .u16 m) ∧ w'.cell? ⟨(x.add (i * 3)).block, (x.add (i * 3)).off + 2, none⟩ = some (.int .i64 k) ∧
    (Lit.int .i64 n).wf = true ∧ (Lit.int .u16 m).wf = true ∧ (Lit.int .i64 k).wf = true := by
  rcases h with ⟨_, rfl, _⟩ | ⟨x, rfl, _, _, h4⟩
  · omega
  · obtain ⟨n, m, k, h1, h2, h3, w1, w2, w3⟩ := h4 i hi
    refine ⟨x, n, m, k, rfl, ?_, ?_, ?_, w1, w2, w3⟩
    · rw [hb.cell (p := x.add (i * 3)) (World.block_lt_of_cell? w _ h1)]; exact h1
    · rw [← Addr.add_add, Addr.add_succ'] at h2
      rw [hb.cell (World.block_lt_of_cell? w _ h2)]; exact h2
    · rw [← Addr.add_add, Addr.add_succ'] at h3
      rw [hb.cell (World.block_lt_of_cell? w _ h3)]; exact h3
theorem due_perm {L : WL} {l : List Nat} {n : Nat} (hn : (L.map Prod.fst).Nodup) (hl : l.Pairwise (· < ·)) (hm : ∀ a, a ∈ l ↔ (a, n) ∈ L) : l.Perm (dueL L n) := by
  refine (List.perm_ext_iff_of_nodup (hl.imp (fun h => by omega)) (hn.sublist (List.filter_sublist.map _))).2 fun a => ?_
  rw [hm]
  simp only [dueL, List.mem_map, List.mem_filter, beq_iff_eq]
  constructor
  · intro h; exact ⟨(a, n), ⟨h, rfl⟩, rfl⟩
  · rintro ⟨⟨x, y⟩, ⟨h, rfl⟩, rfl⟩; exact h
theorem due_same {L : WL} {l : List Nat} {n : Nat} (hn : (L.map Prod.fst).Nodup) (hl : l.Pairwise (· < ·)) (hm : ∀ a, a ∈ l ↔ (a, n) ∈ L) : outOf n L = l :=
  (sorted_same hl (outOf_sorted n L) ((outOf_perm n L).trans (due_perm hn hl hm).symm)).symm
#print axioms Two.ref
end Go.Proofs.Ytkmknpobinpegaa
