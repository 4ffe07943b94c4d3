/- The statement's small functions: config, back, from. -/
import Derived.Test.YtkmknpobinpegaaDoorSame
import Derived.Test.YtkmknpobinpegaaDoorScrRead3
namespace Go.Proofs.YtkmknpobinpegaaDoor
open Go Go.RowKit Go.Maps Go.Sort Go.Lib
set_option linter.unusedSimpArgs false
set_option linter.unusedVariables false

/-- The five numbers. -/
def fiveV (c : Cfg) : Value := .agg #[.int .i64 c.size, .int .i64 c.queue, .int .i64 c.pool, .int .i64 c.first, .int .i64 c.age]
theorem cfg_c (w : World) (c : Cfg) (h0 : 0 ≤ c.first) (h1 : c.first < 65536) :
    Calls Tryd.prog 7 #[fiveV c] w fun e w' => e = .returned (cfgV c) ∧ Below w.heap.size w w' := by
  obtain ⟨c0, c1, c2, c3, c4⟩ := c
  simp only at h0 h1
  unfold fiveV cfgV
  simp only
  go_enter Tryd.func7, Tryd.ntmps7
  go_wp2
  refine bodyPost_ret (v := .agg #[.int .i64 c0, .int .i64 c1, .int .i64 c2, .int .u16 c3, .int .i64 c4]) ?_ rfl ⟨rfl, ((Below.refl _ w).alloc (Nat.le_refl _) _).alloc (by simp) _⟩
  simp [results, Tryd.f7, go_sem, asAddr, Result.andThen]
theorem back_c (w : World) (c : Cfg) (h0 : 0 ≤ c.first) (h1 : c.first < 65536) :
    Calls Tryd.prog 13 #[cfgV c] w fun e w' => e = .returned (fiveV c) ∧ Below w.heap.size w w' := by
  obtain ⟨c0, c1, c2, c3, c4⟩ := c
  simp only at h0 h1
  unfold fiveV cfgV
  simp only
  go_enter Tryd.func13, Tryd.ntmps13
  go_wp2
  refine bodyPost_ret (v := .agg #[.int .i64 c0, .int .i64 c1, .int .i64 c2, .int .i64 c3, .int .i64 c4]) ?_ rfl ⟨rfl, ((Below.refl _ w).alloc (Nat.le_refl _) _).alloc (by simp) _⟩
  simp [results, Tryd.f13, go_sem, asAddr, Result.andThen]

theorem infoR : (Tryd.prog.info? 51).map (fun i => (i.zero, i.size, i.bytes)) = some (some (.agg #[.int .i64 0, .int .i64 0, .slice none 0 0, .slice none 0 0]), 4, 64) := by kernel_rfl
/-- Steps of an own row that lead to what lay before. -/
theorem stepsAt_of_own {w : World} {e : TypeId} {base : Nat} {v : Value} {T : Nat → Prop} {xs : List Stp} {us : List (Value × Value)} (hlen : xs.length = us.length) (hown : w.ownsRow base e 4 v xs.length (cellsF xs us))
    (hrd : ∀ j, j < xs.length → Rd encB w T us[j]!.1 xs[j]!.bytes ∧ Rd encN w T us[j]!.2 xs[j]!.at_) : StpsAt w (fun k => T k ∨ v.ownBlock = some k) v xs := by
  rcases hown.2 with ⟨rfl, hc⟩ | ⟨g, cap, cur, rfl, hb, hg, hn, hm, hrest⟩
  · have h0 := cellsF_length xs us hlen
    have : xs.length = 0 := by have h1 := hown.1; rw [hc] at h1; simp at h1; omega
    exact ⟨none, 0, by rw [this], by omega, Nat.zero_le _, fun j hj => by omega⟩
  · have hgl : g < w.heap.size := (Array.getElem?_eq_some_iff.1 hg).1
    have hcell : ∀ j i, j < xs.length → i < 4 → w.cell? ⟨g, j * 4 + i, none⟩ = (cells4 xs[j]! us[j]!)[i]? := by
      intro j i hj hi
      rw [← cellsF_get xs us j i hlen hj hi, ← hrest.2, List.getElem?_take]
      rw [if_pos (by omega)]
      simp [World.cell?, hg]
    refine ⟨some ⟨g, 0, none⟩, cap, rfl, hn, hm, fun j hj => ?_⟩
    have ea : (⟨g, 0, none⟩ : Addr).add (j * 4) = ⟨g, j * 4, none⟩ := by simp only [Addr.add]; split <;> simp_all
    refine ⟨⟨g, 0, none⟩, us[j]!.1, us[j]!.2, rfl, .inr rfl, hgl, ?_, ?_, ?_, ?_, (hrd j hj).1.mono (fun k hk _ => .inl hk), (hrd j hj).2.mono (fun k hk _ => .inl hk)⟩
    · rw [ea]; exact hcell j 0 hj (by omega)
    · rw [ea]; exact hcell j 1 hj (by omega)
    · rw [ea]; exact hcell j 2 hj (by omega)
    · rw [ea]; exact hcell j 3 hj (by omega)

set_option maxRecDepth 8000 in
set_option maxHeartbeats 4000000 in
theorem from_c (w : World) (T : Nat → Prop) (v : Value) (xs : List Stp) (h : StpsAt w T v xs) (hn : xs.length ≤ 2000) :
    Calls Tryd.prog 11 #[v] w fun e w' => ∃ v', e = .returned v' ∧ Below w.heap.size w w' ∧ StpsAt w' (fun k => k < w'.heap.size) v' xs := by
  obtain ⟨i0, hi, hi0, hi1, hi2⟩ := info_parts infoR
  obtain ⟨a, c, rfl, hc, hm, hh⟩ := h
  unfold maxLen at hm
  have hx := Lib.hid hh
  clear hh
  go_enter Tryd.func11, Tryd.ntmps11
  go_wp2
  go_loopw [3, 4] (fun s3 s4 wr => ∃ (i : Nat) (us : List (Value × Value)), i ≤ xs.length ∧ s4 = .int .i64 (i : Int) ∧ Aside (us.length = i ∧ wr.ownsRow w.heap.size 51 4 s3 i (cellsF (xs.take i) us) ∧
      (∀ j, j < i → Rd encB w T us[j]!.1 xs[j]!.bytes ∧ Rd encN w T us[j]!.2 xs[j]!.at_) ∧ Below w.heap.size w wr))
    (fun _ s4 _ => xs.length - (intOf s4).toNat)
  case atStart => exact ⟨0, [], Nat.zero_le _, rfl, rfl, World.ownsRow_nil _ _ _ _, fun j hj => by omega, Below.refl _ _⟩
  case round =>
    obtain ⟨i, us, hi', rfl, hA⟩ := hrel
    have hAi := Lib.hid hA
    clear hA
    by_cases hlt : i < xs.length
    · obtain ⟨x, xb, xa, rfl, _, hxl, x0, x1, x2, x3, xr, xs'⟩ := hx.out i hlt
      obtain ⟨b1, b2, b3, rfl⟩ := xr.slice
      obtain ⟨b4, b5, b6, rfl⟩ := xs'.slice
      obtain ⟨va, vl, vc, rfl⟩ := ownsRow_slice hAi.out.2.1
      go_wp2
      (refine wp_region_can [[], [], [], [1, 2], [1, 2, 3], [1, 2, 3, 4], [], [], [6, 7], [6, 7, 8], [6, 7, 8, 9], [], [], [11, 12], [11, 12, 13], [11, 12, 13, 14], [], [], [16, 17], [16, 17, 18], [16, 17, 18, 19], [1, 2, 3, 4, 5, 6, 7, 8, 9, 10, 11, 12, 13, 14, 15, 16, 17, 18, 19, 20], [1, 2, 3, 4, 5, 6, 7, 8, 9, 10, 11, 12, 13, 14, 15, 16, 17, 18, 19, 20, 21], [0, 1, 2, 3, 4, 5, 6, 7, 8, 9, 10, 11, 12, 13, 14, 15, 16, 17, 18, 19, 20, 21, 22], [0, 1, 2, 3, 4, 5, 6, 7, 8, 9, 10, 11, 12, 13, 14, 15, 16, 17, 18, 19, 20, 21, 22, 23]] [.st 0 .pure, .st 1 .drop, .st 2 .drop, .st 3 .drop, .st 4 .drop, .st 5 .drop, .st 6 .drop, .st 7 .drop, .st 8 .drop, .st 9 .drop, .st 10 .drop, .st 11 .drop, .st 12 .drop, .st 13 .drop, .st 14 .drop, .st 15 .drop, .st 16 .drop, .st 17 .drop, .st 18 .drop, .st 19 .drop, .st 20 .drop, .st 21 .drop, .ef 22 [0], .ef 23 [], .st 24 .drop] (by kernel_rfl) (by kernel_rfl) ?_; try simp only [Act.put])
      generalize hw1 : World.drew _ = w1
      have hO1 : w1.ownsRow w.heap.size 51 4 (.slice va vl vc) i (cellsF (xs.take i) us) := by rw [← hw1]; exact hAi.out.2.1
      have hB1 : Below w.heap.size w w1 := by rw [← hw1]; exact ⟨hAi.out.2.2.2.os, hAi.out.2.2.2.tape, hAi.out.2.2.2.output, hAi.out.2.2.2.size, hAi.out.2.2.2.block⟩
      clear hw1
      have hbb : (x.add (i * 4)).block < w.heap.size := by rw [add_block]; exact hxl
      have y0 := (hB1.cell (p := x.add (i * 4)) hbb).trans x0
      have y1 := (hB1.cell (p := ⟨(x.add (i * 4)).block, (x.add (i * 4)).off + 1, none⟩) hbb).trans x1
      have y2 := (hB1.cell (p := ⟨(x.add (i * 4)).block, (x.add (i * 4)).off + 2, none⟩) hbb).trans x2
      have y3 := (hB1.cell (p := ⟨(x.add (i * 4)).block, (x.add (i * 4)).off + 3, none⟩) hbb).trans x3
      have hsn := Lib.hid (take_snoc (l := xs) (j := i) hlt)
      have hxx := Lib.hid (And.intro xr (And.intro xs' (And.intro hO1 hB1)))
      clear x0 x1 x2 x3 xr xs' hO1 hB1 hbb
      generalize hse : xs[i]! = s at *
      have hsex := Lib.hid hse
      clear hse
      (repeat (first | (refine can_drop rfl rfl (fun K hK => ?_); go_big_quiet_op; refine hK _ ?_; clear hK K) | (refine can_pure ?_ rfl rfl (fun W K hK => ?_) ?_; rotate_left; (focus (go_big_quiet_op; exact hK))) | (refine can_keep rfl rfl (fun K hK => ?_); go_big_quiet_op; refine hK _ ?_; clear hK K) | (refine can_skip rfl rfl ?_; simp only [Act.put, List.setIfInBounds_toArray, List.set_cons_succ, List.set_cons_zero])))
      refine can_ef rfl (fun K hK => ?_)
      go_wp2
      refine hK _ _ ⟨?_, ?_⟩; (focus (simp only [ReAll, List.contains_cons, List.contains_nil, Nat.reduceBEq, Bool.or_true, Bool.true_or, Bool.or_false, if_true, Bool.false_eq_true, if_false, and_true, true_and] <;> repeat' (first | trivial | (refine And.intro ?_ ?_) | (unfold YA; go_big_quiet_op; rfl)))); clear hK K
      refine can_ef rfl (fun K hK => ?_)
      refine wpList_append_own_at _ rfl _ _ 23 rfl w.heap.size 51 i0 _ 4 64 Tryd.underlying23 hi hi0 hi1 hi2 rfl (by decide) (.slice va vl vc) i _ rfl (hxx.out.2.2.1.alloc _) ⟨w1.heap.size, 0, none⟩ 1 1 [.int .i64 s.kind, .int .i64 s.k, .slice b1 b2 b3, .slice b4 b5 b6] rfl rfl (cells_new w1 [.int .i64 s.kind, .int .i64 s.k, .slice b1 b2 b3, .slice b4 b5 b6] _) (by simp [Value.oneCell']) (by unfold maxLen; omega) (by omega) (by have := hxx.out.2.2.2.size; simp; omega) ?_
      intro v' w4 hown' hgrow hnil hloc
      obtain ⟨sa, sl, sc, rfl⟩ := ownsRow_slice hown'
      go_wp2
      refine hK _ _ ⟨?_, ?_⟩; (focus (simp only [ReAll, List.contains_cons, List.contains_nil, Nat.reduceBEq, Bool.or_true, Bool.true_or, Bool.or_false, if_true, Bool.false_eq_true, if_false, and_true, true_and] <;> repeat' (first | trivial | (refine And.intro ?_ ?_) | (unfold YA; go_big_quiet_op; rfl)))); clear hK K
      (repeat (first | (refine can_drop rfl rfl (fun K hK => ?_); go_big_quiet_op; refine hK _ ?_; clear hK K) | (refine can_pure ?_ rfl rfl (fun W K hK => ?_) ?_; rotate_left; (focus (go_big_quiet_op; exact hK))) | (refine can_keep rfl rfl (fun K hK => ?_); go_big_quiet_op; refine hK _ ?_; clear hK K) | (refine can_skip rfl rfl ?_; simp only [Act.put, List.setIfInBounds_toArray, List.set_cons_succ, List.set_cons_zero])))
      refine can_nil ?_
      go_wp2
      obtain ⟨hul, _, hrd, _⟩ := hAi.out
      have hti : (xs.take i).length = us.length := by rw [List.length_take, hul]; omega
      refine ⟨⟨i + 1, us ++ [(.slice b1 b2 b3, .slice b4 b5 b6)], by omega, by go_num, by simp [hul], ?_, ?_, ?_⟩, by simp [intOf]; omega⟩
      · rw [hsn.out, cellsF_snoc _ _ _ _ hti]
        exact hown'
      · intro j hj
        by_cases hji : j < i
        · have e : (us ++ [((Value.slice b1 b2 b3), (Value.slice b4 b5 b6))])[j]! = us[j]! := by rw [getElem!_pos _ j (by simp; omega), getElem!_pos us j (by omega), List.getElem_append_left]
          rw [e]
          exact hrd j hji
        · obtain rfl : j = i := by omega
          have e : (us ++ [((Value.slice b1 b2 b3), (Value.slice b4 b5 b6))])[j]! = (.slice b1 b2 b3, .slice b4 b5 b6) := by rw [getElem!_pos _ j (by simp; omega)]; simp [hul]
          rw [e, hsex.out]
          exact ⟨hxx.out.1, hxx.out.2.1⟩
      · exact (hxx.out.2.2.2.alloc hxx.out.2.2.2.size _).grown hgrow (by have := hxx.out.2.2.2.size; simp; omega) (fun k e => (hxx.out.2.2.1.lt k e).1)
    · obtain rfl : i = xs.length := by omega
      go_wp2
      go_ret
      obtain ⟨h1, h2, h3, h4⟩ := hAi.out
      rw [List.take_length] at h2
      refine ⟨_, rfl, h4, ?_⟩
      have := stepsAt_of_own (T := fun k => k < w.heap.size) h1.symm h2 (fun j hj => ⟨(h3 j hj).1.below.keep (fun k _ hk => h4.block k hk) h4.size, (h3 j hj).2.below.keep (fun k _ hk => h4.block k hk) h4.size⟩)
      obtain ⟨a, cc, e4, e5, e6, e7⟩ := this
      refine ⟨a, cc, e4, e5, e6, fun j hj => ?_⟩
      obtain ⟨x, vb, va, g1, g2, g3, q0, q1, q2, q3, q4, q5⟩ := e7 j hj
      exact ⟨x, vb, va, g1, g3, g3, q0, q1, q2, q3, q4.below, q5.below⟩
#print axioms from_c
end Go.Proofs.YtkmknpobinpegaaDoor
