/- Layer 29: Read. -/
import Derived.Test.YtkmknpobinpegaaDoorScrRead2
namespace Go.Proofs.YtkmknpobinpegaaDoor
open Go Go.RowKit Go.Maps Go.Sort Go.Lib
set_option linter.unusedSimpArgs false
set_option linter.unusedVariables false

def RPost (w : World) (res : RRes) (e : Ending) (w' : World) : Prop :=
  ∃ c lv k, e = .returned (.tuple #[cfgV c, lv, .int .i64 k]) ∧ Below w.heap.size w w' ∧ match res with
    | .ok c' xs => c = c' ∧ k = 0 ∧ StpsAt w' (fun k => w.heap.size ≤ k ∧ k < w'.heap.size) lv xs
    | .bad k' => lv = .slice none 0 0 ∧ k = k' ∧ c = zeroC
def ResAt (w : World) (res : RRes) (c : Cfg) (lv err : Value) (k : Int) (b : Nat) : Prop := ErrAt w err k ∧ match res with
    | .ok c' xs => c = c' ∧ k = 0 ∧ StpsAt w (fun k => b ≤ k ∧ k < w.heap.size) lv xs
    | .bad k' => lv = .slice none 0 0 ∧ k = k' ∧ c = zeroC
set_option maxRecDepth 8000 in
set_option maxHeartbeats 4000000 in
theorem Read_c (w : World) (T : Nat → Prop) (v : Value) (xs : List Nat) (hg : Glob w) (h : Rd encB w T v xs) (hb : ∀ y ∈ xs, y < 256) (hl : xs.length ≤ 100000) :
    Calls Tryd.prog 12 #[v] w (RPost w (readR (unbits xs))) := by
  obtain ⟨r, hr⟩ : ∃ r, r = w.heap.size := ⟨_, rfl⟩
  obtain ⟨w1, hw1⟩ : ∃ w1, w1 = w.alloc (.cells #[.int .i64 0, .int .i64 0, .int .i64 0, .int .u16 0, .int .i64 0] 36) := ⟨_, rfl⟩
  have z1 : w1.heap.size = w.heap.size + 1 := by rw [hw1]; simp
  have hB1 : Below w.heap.size w w1 := by rw [hw1]; exact (Below.refl _ _).alloc (Nat.le_refl _) _
  have hKr : KC w1 r (cfgL zeroC) := cfgL_cells (c := zeroC) (by rw [hw1, hr]; exact heap_alloc_new w _)
  have hrd := read_c w1 T v xs (h.keep (fun k _ hk => hB1.block k hk) hB1.size) hb hl
  obtain ⟨va, vl, vc, rfl⟩ := h.slice
  clear h hb hl
  generalize readR (unbits xs) = res at *
  have hx1 := Lib.hid (And.intro hB1 (And.intro hKr (And.intro hr (And.intro z1 hg))))
  clear hB1 hKr z1 hg
  go_enter Tryd.func12, Tryd.ntmps12
  go_wp2_with fail
  rw [← hw1]
  clear hw1
  refine hrd.mono ?_
  rintro e w2 ⟨c, lv, err, rfl, hB2, hm⟩
  have hex : ∃ k, ResAt w2 res c lv err k (w.heap.size + 1) := by
    cases res with
    | ok c' xs' =>
      obtain ⟨h1, h2, h3⟩ := hm
      refine ⟨0, by rw [h2]; exact .none, h1, rfl, ?_⟩
      obtain ⟨a, cc, h4, h5, h6, h7⟩ := h3
      refine ⟨a, cc, h4, h5, h6, fun j hj => ?_⟩
      obtain ⟨x, vb, va, e1, e2, e3, q0, q1, q2, q3, q4, q5⟩ := h7 j hj
      have := hx1.out.2.2.2.1
      exact ⟨x, vb, va, e1, ⟨by omega, e2.2⟩, e3, q0, q1, q2, q3, q4.mono (fun k hk _ => ⟨by omega, hk.2⟩), q5.mono (fun k hk _ => ⟨by omega, hk.2⟩)⟩
    | bad k =>
      obtain ⟨h1, h2, h3⟩ := hm
      exact ⟨k, h2, h1, rfl, h3⟩
  obtain ⟨k, hres⟩ := hex
  have hlvs : ∃ a l c, lv = .slice a l c := by
    cases res with
    | ok c' xs' => obtain ⟨_, _, _, a, cc, h4, _⟩ := hres; exact ⟨_, _, _, h4⟩
    | bad k => obtain ⟨_, h4, _⟩ := hres; exact ⟨_, _, _, h4⟩
  obtain ⟨la, ll, lc, rfl⟩ := hlvs
  obtain ⟨w3, hw3⟩ : ∃ w3, w3 = w2.alloc (.cells (cfgL c).toArray 36) := ⟨_, rfl⟩
  obtain ⟨p, hp⟩ : ∃ p, p = w2.heap.size := ⟨_, rfl⟩
  have z3 : w3.heap.size = w2.heap.size + 1 := by rw [hw3]; simp
  have hB3 : Below w2.heap.size w2 w3 := by rw [hw3]; exact (Below.refl _ _).alloc (Nat.le_refl _) _
  have hKp : KC w3 p (cfgL c) := cfgL_cells (c := c) (by rw [hw3, hp]; exact heap_alloc_new w2 _)
  have hKr3 : KC w3 r (cfgL zeroC) := (hx1.out.2.1.block (hB2.block r hx1.out.2.1.lt)).block (hB3.block r (Nat.lt_of_lt_of_le hx1.out.2.1.lt hB2.size))
  have hBw3 : Below w.heap.size w w3 := (hx1.out.1.trans (hB2.mono hx1.out.1.size)).trans (hB3.mono (Nat.le_trans hx1.out.1.size hB2.size))
  have hrp : r ≠ p := by have := hx1.out.2.1.lt; have := hB2.size; omega
  have hws : w3 = w2.alloc (.cells #[.int .i64 c.size, .int .i64 c.queue, .int .i64 c.pool, .int .u16 c.first, .int .i64 c.age] 36) := hw3
  have hx3 := Lib.hid (And.intro hKp (And.intro hKr3 (And.intro hBw3 (And.intro hres (And.intro hB3 hB2)))))
  clear hB2 hKp hKr3 hBw3 hres hB3 z3 hw3 hm hrd
  unfold cfgV
  go_wp2
  rw [← hws, ← hp, ← hr]
  clear hws hp hr
  (refine wp_region_can [[], [], [], [2], [0, 2, 3], [0, 1, 2, 3, 4], [0, 1, 2, 3, 4, 5]] [.st 0 .keep, .st 1 .pure, .st 2 .drop, .ef 3 [0, 1], .ef 4 [1], .st 5 .drop, .st 6 .drop] (by kernel_rfl) (by kernel_rfl) ?_; try simp only [Act.put])
  generalize hw4 : World.drew _ = w4
  have hKp4 : KC w4 p (cfgL c) := hx3.out.1.block (by rw [← hw4]; rfl)
  have hKr4 : KC w4 r (cfgL zeroC) := hx3.out.2.1.block (by rw [← hw4]; rfl)
  have hBw4 : Below w.heap.size w w4 := by rw [← hw4]; exact ⟨hx3.out.2.2.1.os, hx3.out.2.2.1.tape, hx3.out.2.2.1.output, hx3.out.2.2.1.size, hx3.out.2.2.1.block⟩
  have hB24 : Below w2.heap.size w2 w4 := by rw [← hw4]; exact ⟨hx3.out.2.2.2.2.1.os, hx3.out.2.2.2.2.1.tape, hx3.out.2.2.2.2.1.output, hx3.out.2.2.2.2.1.size, hx3.out.2.2.2.2.1.block⟩
  clear hw4
  have herr : ErrAt w4 err k := by
    have h := hx3.out.2.2.2.1.1
    cases h with
    | none => exact .none
    | hit e k h => exact .hit e k ((hB24.cell (p := ⟨e, 1, none⟩) (lt_of_cell h)).trans h)
    | step e k h => exact .step e k ((hB24.cell (p := ⟨e, 1, none⟩) (lt_of_cell h)).trans h)
  have ht := told_c w4 err k (hx1.out.2.2.2.2.below hBw4) herr
  have p0 := hKp4.c 0 (by omega)
  have p1 := hKp4.c 1 (by omega)
  have p2 := hKp4.c 2 (by omega)
  have p3 := hKp4.c 3 (by omega)
  have p4 := hKp4.c 4 (by omega)
  simp only [cfgL] at p0 p1 p2 p3 p4
  simp at p0 p1 p2 p3 p4
  have hx4 := Lib.hid (And.intro hKp4 (And.intro hKr4 (And.intro hBw4 hB24)))
  clear hKp4 hKr4 hBw4 hB24 herr
  (repeat (first | (refine can_drop rfl rfl (fun K hK => ?_); go_big_quiet_op; refine hK _ ?_; clear hK K) | (refine can_pure ?_ rfl rfl (fun W K hK => ?_) ?_; rotate_left; (focus (go_big_quiet_op; exact hK))) | (refine can_keep rfl rfl (fun K hK => ?_); go_big_quiet_op; refine hK _ ?_; clear hK K) | (refine can_skip rfl rfl ?_; simp only [Act.put, List.setIfInBounds_toArray, List.set_cons_succ, List.set_cons_zero])))
  refine can_ef rfl (fun K hK => ?_)
  go_wp2_with fail
  refine ht.mono ?_
  rintro e w5 ⟨rfl, hB5⟩
  have hKp5 : KC w5 p (cfgL c) := hx4.out.1.block (hB5.block p hx4.out.1.lt)
  have hKr5 : KC w5 r (cfgL zeroC) := hx4.out.2.1.block (hB5.block r hx4.out.2.1.lt)
  have q0 := hKp5.c 0 (by omega)
  have q1 := hKp5.c 1 (by omega)
  have q2 := hKp5.c 2 (by omega)
  have q3 := hKp5.c 3 (by omega)
  have q4 := hKp5.c 4 (by omega)
  simp only [cfgL] at q0 q1 q2 q3 q4
  simp at q0 q1 q2 q3 q4
  have r0 := hKr5.c 0 (by omega)
  have r1 := hKr5.c 1 (by omega)
  have r2 := hKr5.c 2 (by omega)
  have r3 := hKr5.c 3 (by omega)
  have r4 := hKr5.c 4 (by omega)
  simp only [cfgL, zeroC] at r0 r1 r2 r3 r4
  have f0 := hKr5.fr 0
  have f1 := hKr5.fr 1
  have f2 := hKr5.fr 2
  have f3 := hKr5.fr 3
  have f4 := hKr5.fr 4
  have hrl := hKr5.lt
  have hx5 := Lib.hid (And.intro hKr5 hB5)
  clear hKp5 hKr5 hB5 p0 p1 p2 p3 p4
  go_wp2
  refine hK _ _ ⟨?_, ?_⟩; (focus (simp only [ReAll, List.contains_cons, List.contains_nil, Nat.reduceBEq, Bool.or_true, Bool.true_or, Bool.or_false, if_true, Bool.false_eq_true, if_false, and_true, true_and] <;> repeat' (first | trivial | (refine And.intro ?_ ?_) | (unfold YA; go_big_quiet_op; rfl)))); clear hK K
  (repeat (first | (refine can_drop rfl rfl (fun K hK => ?_); go_big_quiet_op; refine hK _ ?_; clear hK K) | (refine can_pure ?_ rfl rfl (fun W K hK => ?_) ?_; rotate_left; (focus (go_big_quiet_op; exact hK))) | (refine can_keep rfl rfl (fun K hK => ?_); go_big_quiet_op; refine hK _ ?_; clear hK K) | (refine can_skip rfl rfl ?_; simp only [Act.put, List.setIfInBounds_toArray, List.set_cons_succ, List.set_cons_zero])))
  refine can_ef rfl (fun K hK => ?_)
  go_wp2
  refine hK _ _ ⟨?_, ?_⟩; (focus (simp only [ReAll, List.contains_cons, List.contains_nil, Nat.reduceBEq, Bool.or_true, Bool.true_or, Bool.or_false, if_true, Bool.false_eq_true, if_false, and_true, true_and] <;> repeat' (first | trivial | (refine And.intro ?_ ?_) | (unfold YA; go_big_quiet_op; rfl)))); clear hK K
  (repeat (first | (refine can_drop rfl rfl (fun K hK => ?_); go_big_quiet_op; refine hK _ ?_; clear hK K) | (refine can_pure ?_ rfl rfl (fun W K hK => ?_) ?_; rotate_left; (focus (go_big_quiet_op; exact hK))) | (refine can_keep rfl rfl (fun K hK => ?_); go_big_quiet_op; refine hK _ ?_; clear hK K) | (refine can_skip rfl rfl ?_; simp only [Act.put, List.setIfInBounds_toArray, List.set_cons_succ, List.set_cons_zero])))
  refine can_nil ?_
  go_wp2
  obtain ⟨w8, hw8⟩ : ∃ w8, w8 = ((((w5.setCell ⟨r, 0, none⟩ (.int .i64 c.size)).setCell ⟨r, 1, none⟩ (.int .i64 c.queue)).setCell ⟨r, 2, none⟩ (.int .i64 c.pool)).setCell ⟨r, 3, none⟩ (.int .u16 c.first)).setCell ⟨r, 4, none⟩ (.int .i64 c.age) := ⟨_, rfl⟩
  have hK8 : KC w8 r (cfgL c) := by
    have := ((((hx5.out.1.set (i := 0) (by omega) (.int .i64 c.size)).set (i := 1) (by omega) (.int .i64 c.queue)).set (i := 2) (by omega) (.int .i64 c.pool)).set (i := 3) (by omega) (.int .u16 c.first)).set (i := 4) (by omega) (.int .i64 c.age)
    rw [← hw8] at this
    exact this
  have hb8 : ∀ k, k ≠ r → w8.heap[k]? = w5.heap[k]? := fun k hk => by
    rw [hw8, Below.heap_setCell _ _ _ _ hk, Below.heap_setCell _ _ _ _ hk, Below.heap_setCell _ _ _ _ hk, Below.heap_setCell _ _ _ _ hk, Below.heap_setCell _ _ _ _ hk]
  have hBw5 : Below w.heap.size w w5 := hx4.out.2.2.1.trans (hx5.out.2.mono hx4.out.2.2.1.size)
  have hB8 : Below w.heap.size w w8 := by
    have hge : w.heap.size ≤ r := by have := hx1.out.2.2.1; omega
    rw [hw8]
    exact (((((hBw5.setCell (p := ⟨r, 0, none⟩) hge _).setCell (p := ⟨r, 1, none⟩) hge _).setCell (p := ⟨r, 2, none⟩) hge _).setCell (p := ⟨r, 3, none⟩) hge _).setCell (p := ⟨r, 4, none⟩) hge _)
  have hz8 : w8.heap.size = w5.heap.size := by rw [hw8]; simp
  rw [← hw8]
  clear hw8
  have g0 := hK8.c 0 (by omega)
  have g1 := hK8.c 1 (by omega)
  have g2 := hK8.c 2 (by omega)
  have g3 := hK8.c 3 (by omega)
  have g4 := hK8.c 4 (by omega)
  refine bodyPost_ret (v := .tuple #[cfgV c, .slice la ll lc, .int .i64 k]) ?_ rfl ?_
  · clear r0 r1 r2 r3 r4 q0 q1 q2 q3 q4
    simp [cfgL] at g0 g1 g2 g3 g4
    simp [results, Tryd.f12, go_sem, asAddr, Result.andThen, g0, g1, g2, g3, g4, cfgV]
  · refine ⟨c, _, k, rfl, hB8, ?_⟩
    have hrr := hx3.out.2.2.2.1.2
    cases res with
    | ok c' xs' =>
      refine ⟨hrr.1, hrr.2.1, ?_⟩
      have hst := hrr.2.2
      have h24 := hx4.out.2.2.2
      have h5 := hx5.out.2
      have hrw : r = w.heap.size := hx1.out.2.2.1
      have hst' := (hst.keep (w' := w8) (fun k hk hl => ?_) (by have := h24.size; have := h5.size; omega))
      · obtain ⟨a, cc, h4, h5', h6, h7⟩ := hst'
        refine ⟨a, cc, h4, h5', h6, fun j hj => ?_⟩
        obtain ⟨x, vb, va, e1, e2, e3, q0, q1, q2, q3, q4, q5⟩ := h7 j hj
        exact ⟨x, vb, va, e1, ⟨by have := e2.1; omega, e3⟩, e3, q0, q1, q2, q3, q4.mono (fun k hk hl => ⟨by have := hk.1; omega, hl⟩), q5.mono (fun k hk hl => ⟨by have := hk.1; omega, hl⟩)⟩
      · rw [hb8 k (by have := hk.1; omega), h5.block k (by have := h24.size; omega), h24.block k hl]
    | bad k' => exact hrr
#print axioms Read_c
end Go.Proofs.YtkmknpobinpegaaDoor
