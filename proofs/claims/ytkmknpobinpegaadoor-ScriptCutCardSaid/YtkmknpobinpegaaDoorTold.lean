/- What is told of an error: nothing, a broken thing, a step with a broken thing. -/
import Derived.Test.YtkmknpobinpegaaDoorAs2
import Derived.Test.YtkmknpobinpegaaDoorLib
namespace Go.Proofs.YtkmknpobinpegaaDoor
open Go Go.RowKit Go.Maps Go.Sort Go.Lib
set_option linter.unusedSimpArgs false
set_option linter.unusedVariables false

/-- The one package-level variable, as the program's text lays it. -/
def Glob (w : World) : Prop := w.cell? ⟨0, 0, none⟩ = some (.iface 117 (.agg #[.pointer (some ⟨1, 54, none⟩)]))
theorem Glob.lt {w : World} (h : Glob w) : 0 < w.heap.size := World.block_lt_of_cell? w _ h
theorem Glob.below {w w' : World} (h : Glob w) (hb : Below w.heap.size w w') : Glob w' := by
  unfold Glob
  rw [hb.cell (p := ⟨0, 0, none⟩) h.lt]; exact h

theorem told_nil (w : World) : Calls Tryd.prog 15 #[.nilIface] w fun e w' => e = .returned (.int .i64 0) ∧ Below w.heap.size w w' := by
  go_enter Tryd.func15, Tryd.ntmps15
  go_wp2
  go_ret
  exact ⟨rfl, (Below.refl _ _).alloc (Nat.le_refl _) _⟩

/-- What errors.As leaves, said small. -/
def AsPost (w : World) (e t : Nat) (ev : Ending) (w' : World) : Prop :=
  ev = .returned (.bool true) ∧ w'.cell? ⟨t, 0, none⟩ = some (.pointer (some ⟨e, 0, none⟩)) ∧ Fr (fun k => k = t) w w'
theorem as_hit' (e t : Nat) (old : Value) (w : World) (hg : Glob w) (ht : w.cell? ⟨t, 0, none⟩ = some old) (hf : w.frozen? ⟨t, 0, none⟩ = false) :
    Calls Tryd.prog 23 #[.iface 73 (.pointer (some ⟨e, 0, none⟩)), .iface 75 (.pointer (some ⟨t, 0, none⟩))] w (AsPost w e t) := by
  have htl : t < w.heap.size := World.block_lt_of_cell? w _ ht
  refine (as_hit ⟨e, 0, none⟩ ⟨t, 0, none⟩ old w hg ht hf).mono ?_
  rintro ev w' ⟨rfl, rfl⟩
  refine ⟨rfl, World.cell?_setCell_same _ _ _ (Eq.trans ?_ ht), Fr.setCell (S := fun k => k = t) (p := ⟨t, 0, none⟩) (((((Fr.refl _ w).alloc _).alloc _).alloc _).alloc _) (.inl rfl) _⟩
  rw [World.cell?_alloc_lt _ _ ⟨t, 0, none⟩ (by simp; omega), World.cell?_alloc_lt _ _ ⟨t, 0, none⟩ (by simp; omega), World.cell?_alloc_lt _ _ ⟨t, 0, none⟩ (by simp; omega), World.cell?_alloc_lt _ _ ⟨t, 0, none⟩ (by simp; omega)]
theorem as_step' (e t : Nat) (old : Value) (w : World) (hg : Glob w) (ht : w.cell? ⟨t, 0, none⟩ = some old) (hf : w.frozen? ⟨t, 0, none⟩ = false) :
    Calls Tryd.prog 23 #[.iface 90 (.agg #[.iface 73 (.pointer (some ⟨e, 0, none⟩))]), .iface 75 (.pointer (some ⟨t, 0, none⟩))] w (AsPost w e t) := by
  have htl : t < w.heap.size := World.block_lt_of_cell? w _ ht
  refine (as_step ⟨e, 0, none⟩ ⟨t, 0, none⟩ old w hg ht hf).mono ?_
  rintro ev w' ⟨rfl, rfl⟩
  refine ⟨rfl, World.cell?_setCell_same _ _ _ (Eq.trans ?_ ht), Fr.setCell (S := fun k => k = t) (p := ⟨t, 0, none⟩) ((((((Fr.refl _ w).alloc _).alloc _).alloc _).alloc _).alloc _) (.inl rfl) _⟩
  rw [World.cell?_alloc_lt _ _ ⟨t, 0, none⟩ (by simp; omega), World.cell?_alloc_lt _ _ ⟨t, 0, none⟩ (by simp; omega), World.cell?_alloc_lt _ _ ⟨t, 0, none⟩ (by simp; omega), World.cell?_alloc_lt _ _ ⟨t, 0, none⟩ (by simp; omega), World.cell?_alloc_lt _ _ ⟨t, 0, none⟩ (by simp; omega)]

/-- An error as layer 29 makes them: nothing, a broken thing, one in a step; what is told of it. -/
inductive ErrAt (w : World) : Value → Int → Prop
  | none : ErrAt w .nilIface 0
  | hit (e : Nat) (k : Int) (h : w.cell? ⟨e, 1, none⟩ = some (.int .i64 k)) : ErrAt w (.iface 73 (.pointer (some ⟨e, 0, none⟩))) k
  | step (e : Nat) (k : Int) (h : w.cell? ⟨e, 1, none⟩ = some (.int .i64 k)) : ErrAt w (.iface 90 (.agg #[.iface 73 (.pointer (some ⟨e, 0, none⟩))])) k

theorem told_c (w : World) (v : Value) (k : Int) (hg : Glob w) (h : ErrAt w v k) : Calls Tryd.prog 15 #[v] w fun e w' => e = .returned (.int .i64 k) ∧ Below w.heap.size w w' := by
  cases h with
  | none => exact told_nil w
  | hit e k h =>
    have hel : e < w.heap.size := World.block_lt_of_cell? w _ h
    have hB : Below w.heap.size w (w.alloc (.cells #[.pointer none] 73)) := (Below.refl _ _).alloc (Nat.le_refl _) _
    have hc := as_hit' e w.heap.size (.pointer none) _ (hg.below hB) (by rw [World.cell?_alloc_new]; rfl) (by simp)
    go_enter Tryd.func15, Tryd.ntmps15
    go_wp2_with fail
    refine hc.mono ?_
    rintro ev w1 ⟨rfl, h1, hF⟩
    have h2 : w1.cell? ⟨e, 1, none⟩ = some (.int .i64 k) := by
      rw [hF.cell (p := ⟨e, 1, none⟩) (by simp; omega) (by show e ≠ w.heap.size; omega), World.cell?_alloc_lt _ _ ⟨e, 1, none⟩ (by show e < _; omega)]; exact h
    go_wp2
    go_ret
    exact ⟨rfl, hB.trans (hF.below (fun j hj => by omega) (by simp))⟩
  | step e k h =>
    have hel : e < w.heap.size := World.block_lt_of_cell? w _ h
    have hB : Below w.heap.size w (w.alloc (.cells #[.pointer none] 73)) := (Below.refl _ _).alloc (Nat.le_refl _) _
    have hc := as_step' e w.heap.size (.pointer none) _ (hg.below hB) (by rw [World.cell?_alloc_new]; rfl) (by simp)
    go_enter Tryd.func15, Tryd.ntmps15
    go_wp2_with fail
    refine hc.mono ?_
    rintro ev w1 ⟨rfl, h1, hF⟩
    have h2 : w1.cell? ⟨e, 1, none⟩ = some (.int .i64 k) := by
      rw [hF.cell (p := ⟨e, 1, none⟩) (by simp; omega) (by show e ≠ w.heap.size; omega), World.cell?_alloc_lt _ _ ⟨e, 1, none⟩ (by show e < _; omega)]; exact h
    go_wp2
    go_ret
    exact ⟨rfl, hB.trans (hF.below (fun j hj => by omega) (by simp))⟩
#print axioms told_c
end Go.Proofs.YtkmknpobinpegaaDoor
