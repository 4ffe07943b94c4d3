/- Layer 29's reader: take. -/
import Derived.Test.YtkmknpobinpegaaDoorBitR
namespace Go.Proofs.YtkmknpobinpegaaDoor
open Go Go.RowKit Go.Maps Go.Sort Go.Lib
set_option linter.unusedSimpArgs false
set_option linter.unusedVariables false

/-- The reader: the bits that are left, or what is told. -/
inductive RSt where
  | ok (rest : List Nat)
  | bad (k : Int)
def SrAt (w : World) (S : Nat → Prop) (sb : Nat) : RSt → Prop
  | .ok rest => ∃ R rb, w.cell? ⟨sb, 0, none⟩ = some (.pointer (some ⟨rb, 0, none⟩)) ∧ w.cell? ⟨sb, 1, none⟩ = some .nilIface ∧ w.frozen? ⟨sb, 1, none⟩ = false ∧ RrAt w R rb rest ∧ (∀ k, R k → S k ∧ k ≠ sb) ∧ S sb ∧ ∀ k, S k → k < w.heap.size
  | .bad k => ∃ e, w.cell? ⟨sb, 1, none⟩ = some (.iface 73 (.pointer (some ⟨e, 0, none⟩))) ∧ w.cell? ⟨e, 1, none⟩ = some (.int .i64 k) ∧ S e ∧ S sb ∧ ∀ k, S k → k < w.heap.size
def takeN (st : RSt) (wide : Nat) : Nat := match st with
  | .bad _ => 0
  | .ok rest => if rest.length < wide then 0 else valOf (rest.take wide)
def takeS (st : RSt) (wide : Nat) : RSt := match st with
  | .bad k => .bad k
  | .ok rest => if rest.length < wide then .bad 2 else .ok (rest.drop wide)
def TkPost (w : World) (S : Nat → Prop) (sb : Nat) (n : Nat) (st : RSt) (e : Ending) (w' : World) : Prop :=
  e = .returned (.int .i64 (n : Int)) ∧ ∃ S', SrAt w' S' sb st ∧ Fr S w w' ∧ ∀ k, S' k → S k ∨ w.heap.size ≤ k
theorem RrAt.keep {w w' : World} {S : Nat → Prop} {rb : Nat} {rest : List Nat} (h : RrAt w S rb rest) (hk : ∀ k, S k → w'.heap[k]? = w.heap[k]?) (hz : w.heap.size ≤ w'.heap.size) : RrAt w' S rb rest := by
  obtain ⟨a, c, H⟩ := h
  refine ⟨a, c, { c0 := ?_, fr := ?_, le := H.le, cm := H.cm, row := fun h0 => ?_, sb := H.sb, lt := fun k hk' => Nat.lt_of_lt_of_le (H.lt k hk') hz, bit := H.bit }⟩
  · rw [World.cell?_of_block (w := w) (a := ⟨rb, 0, none⟩) (hk rb H.sb)]; exact H.c0
  · rw [World.frozen?_of_block (w := w) (a := ⟨rb, 0, none⟩) (hk rb H.sb)]; exact H.fr
  · obtain ⟨g, off, h1, h2, h3, h4⟩ := H.row h0
    exact ⟨g, off, h1, h2, h3, fun j hj => by rw [World.cell?_of_block (w := w) (a := ⟨g, off + j, none⟩) (hk g h2)]; exact h4 j hj⟩

set_option maxHeartbeats 1000000 in
theorem rtake_c (w : World) (S : Nat → Prop) (sb : Nat) (st : RSt) (s : ByteArray) (wide : Nat) (h : SrAt w S sb st) (hw0 : 1 ≤ wide) (hw1 : wide ≤ 16) :
    Calls Tryd.prog 26 #[.pointer (some ⟨sb, 0, none⟩), .string s, .int .i64 (wide : Int)] w (TkPost w S sb (takeN st wide) (takeS st wide)) := by
  have hh := Lib.hid h
  cases st with
  | bad k =>
    obtain ⟨e, c1, _⟩ := h
    go_enter Tryd.func26, Tryd.ntmps26
    go_wp2
    go_ret
    exact ⟨rfl, S, hh.out, Fr.refl _ _, fun k hk => .inl hk⟩
  | ok rest =>
    obtain ⟨R, rb, c0, c1, f1, hR, hRS, hSb, hlt⟩ := h
    have hsl := hlt sb hSb
    by_cases hs : rest.length < wide
    · have e1 : takeN (.ok rest) wide = 0 := if_pos hs
      have e2 : takeS (.ok rest) wide = .bad 2 := if_pos hs
      rw [e1, e2]
      have hT := take_short w R rb wide rest hR hw0 hw1 hs
      clear e1 e2 hs
      go_enter Tryd.func26, Tryd.ntmps26
      go_wp2_with fail
      refine hT.mono ?_
      rintro e w1 ⟨rfl, hw1'⟩
      subst w1
      go_wp2
      go_ret
      refine ⟨rfl, fun k => S k ∨ k = w.heap.size, ⟨w.heap.size, ?_, ?_, .inr rfl, .inl hSb, ?_⟩, ?_, ?_⟩
      · rw [World.cell?_alloc_lt _ _ ⟨sb, 1, none⟩ (by simp; omega)]
        exact World.cell?_setCell_same _ _ _ c1
      · have e : w.heap.size = (w.setCell ⟨sb, 1, none⟩ (.iface 73 (.pointer (some ⟨w.heap.size, 0, none⟩)))).heap.size := by simp
        rw [World.cell?_alloc_at _ _ _ _ (by simp)]; rfl
      · rintro k (hk | hk)
        · have := hlt k hk; simp; omega
        · simp; omega
      · exact ((Fr.refl S w).setCell (p := ⟨sb, 1, none⟩) (.inl hSb) _).alloc _
      · rintro k (hk | hk)
        · exact .inl hk
        · right; omega
    · have e1 : takeN (.ok rest) wide = valOf (rest.take wide) := if_neg hs
      have e2 : takeS (.ok rest) wide = .ok (rest.drop wide) := if_neg hs
      rw [e1, e2]
      have hT := take_good w R rb wide rest hR hw0 hw1 (by omega)
      have hRl : R rb := by obtain ⟨_, _, H⟩ := hR; exact H.sb
      clear e1 e2 hs
      generalize valOf (rest.take wide) = n at *
      go_enter Tryd.func26, Tryd.ntmps26
      go_wp2_with fail
      refine hT.mono ?_
      rintro e w1 ⟨rfl, hR1, hF1⟩
      go_wp2
      go_ret
      have hrs := hRS rb hRl
      refine ⟨rfl, S, ⟨R, rb, ?_, ?_, ?_, hR1, hRS, hSb, fun k hk => by have := hlt k hk; have := hF1.size; omega⟩, hF1.mono (fun k _ hk => by subst hk; exact hrs.1), fun k hk => .inl hk⟩
      · rw [hF1.cell (p := ⟨sb, 0, none⟩) hsl (fun e => hrs.2 e.symm)]; exact c0
      · rw [hF1.cell (p := ⟨sb, 1, none⟩) hsl (fun e => hrs.2 e.symm)]; exact c1
      · rw [hF1.frozen (p := ⟨sb, 1, none⟩) hsl (fun e => hrs.2 e.symm)]; exact f1
#print axioms rtake_c
end Go.Proofs.YtkmknpobinpegaaDoor
