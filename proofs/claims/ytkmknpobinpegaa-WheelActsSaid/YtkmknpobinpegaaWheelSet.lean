/- (*Wheel).Set: a number is due in so many ticks, at no other one any more. -/
import Derived.Test.YtkmknpobinpegaaWheelTake
namespace Go.Proofs.Ytkmknpobinpegaa
set_option linter.unusedSimpArgs false
set_option linter.unusedVariables false
open Go Go.RowKit Go.Maps Go.Sort Go.Lib Go.Shelf

set_option maxHeartbeats 1000000 in
theorem set_c (w : World) (S : Nat → Prop) (b now : Nat) (L : WL) (a d : Nat) (h : WheelAt w S b now L) (ha : a < 65536) (hn : now ≤ 1000000) (hd0 : 1 ≤ d) (hd1 : d ≤ 1000) (hL : L.length ≤ 100000) :
    Calls Try.prog 8 #[.pointer (some ⟨b, 0, none⟩), .int .u16 (a : Int), .int .i64 (d : Int)] w (WheelPost w S b now (dropL L a ++ [(a, now + d)]) (.int .i64 0)) := by
  have htk := take_c w S b now L a h ha hn
  have hkey := keyOf_int_mk Try.underlying29 (a := (a : Int)) (WalkArith.wf_u16 (by omega))
  obtain ⟨i0, hi, hz0, hz1, hz2⟩ := info_parts infoNum
  have hlen : (dropL L a).length ≤ 100000 := Nat.le_trans (List.length_filter_le _ _) hL
  clear h
  go_enter Try.func8, Try.ntmps8
  go_wp2_with fail
  refine htk.mono ?_
  clear htk
  rintro e w1 ⟨rfl, S1, hW1, f1, hS1⟩
  obtain ⟨bm, D, vs, xs, H⟩ := hW1
  have hno : hasL (dropL L a) a = false := by rw [hasL_dropL]; simp
  generalize dropL L a = L1 at *
  have c0 := H.c0
  have c1 := H.c1
  go_wp2_with (at_mapUpdate; refine wpList_mapUpdate_in _ rfl _ _ _ 48 rfl 29 3 lawK Try.underlying48 _ bm _ D rfl H.map (by unfold maxLen; omega) _ _ _ rfl rfl hkey _ [] (plainElem_int Try.underlying3 (WalkArith.wf_i64 (by omega))) ?_; intro w2 hown2 hturn2)
  have hg2 := hturn2.grown
  have hb2 : ∀ k, k < w1.heap.size → k ≠ bm → w2.heap[k]? = w1.heap[k]? := fun k hk hne => hg2.block k hk (fun e => by injection e with e; exact hne e)
  have hbl := H.lt b H.sb
  (refine wp_region_can [[], [], [1], [], [], [4], [3], [3, 6], [3, 4, 5, 6, 7], [3, 4, 5, 6, 7, 8], [], [10], [3, 4, 5, 6, 7, 8, 9, 10, 11], [0], [0, 13], [0, 1, 2, 3, 4, 5, 6, 7, 8, 9, 10, 11, 12, 13, 14], [0, 1, 2, 3, 4, 5, 6, 7, 8, 9, 10, 11, 12, 13, 14, 15]] [.st 0 .pure, .st 1 .pure, .st 2 .pure, .st 3 .pure, .st 4 .pure, .st 5 .pure, .st 6 .pure, .st 7 .pure, .st 8 .pure, .st 9 .keep, .st 10 .drop, .st 13 .pure, .st 14 .pure, .ef 11 [0, 1, 2, 3, 4, 5, 6, 7, 8, 9, 13, 14], .ef 12 [0, 1, 2, 13, 14], .st 15 .drop, .ef 16 []] (by kernel_rfl) (by kernel_rfl) ?_; try simp only [Act.put])
  generalize hw3 : World.drew _ = w3
  have hk32 : (now + d) % 32 < 32 := by omega
  have hb3 : ∀ k, k < w1.heap.size → k ≠ bm → w3.heap[k]? = w1.heap[k]? := fun k hk hne => by rw [← hw3]; exact hb2 k hk hne
  have hz3 : w1.heap.size ≤ w3.heap.size := by rw [← hw3]; exact hg2.size
  have hown3 := hown2.drew
  rw [hw3, show ((now : Int) + (d : Int)) = ((now + d : Nat) : Int) by omega] at hown3
  have f3 : Fr S1 w1 w3 := by rw [← hw3]; exact ((Fr.refl S1 w1).grown hg2 (fun k hk => by injection hk with hk; subst hk; exact .inl H.sm)).drew
  clear hw3 hown2 hturn2 hg2 hb2 c0 c1
  have cv : w3.cell? ⟨b, 2 + (now + d) % 32, none⟩ = some (vs ((now + d) % 32)) := by
    rw [World.cell?_of_block (w := w1) (a := ⟨b, 2 + (now + d) % 32, none⟩) (hb3 b hbl (Ne.symm H.ne))]; exact H.cs _ hk32
  have fv : w3.frozen? ⟨b, 2 + (now + d) % 32, none⟩ = false := by
    rw [World.frozen?_of_block (w := w1) (a := ⟨b, 2 + (now + d) % 32, none⟩) (hb3 b hbl (Ne.symm H.ne))]; exact H.fr _
  have hb3' : b < w3.heap.size := by omega
  have hO3 := ownsRow_block (w' := w3) (H.own _ hk32) (fun g hg => by have := H.sv _ g hk32 hg; exact hb3 g (H.lt g this.1) this.2.2)
  have hxl : (xs ((now + d) % 32)).length ≤ 100000 := by
    rw [(H.perm _ hk32).length_eq, List.length_map]
    exact Nat.le_trans (List.length_filter_le _ _) hlen
  (repeat (first | (refine can_drop rfl rfl (fun K hK => ?_); go_big_quiet_op; refine hK _ ?_; clear hK K) | (refine can_pure ?_ rfl rfl (fun W K hK => ?_) ?_; rotate_left; (focus (go_big_quiet_op; exact hK))) | (refine can_keep rfl rfl (fun K hK => ?_); go_big_quiet_op; refine hK _ ?_; clear hK K) | (refine can_skip rfl rfl ?_; simp only [Act.put, List.setIfInBounds_toArray, List.set_cons_succ, List.set_cons_zero])))
  refine can_ef rfl (fun K hK => ?_)
  go_wp2
  refine hK _ _ ⟨?_, ?_⟩; (focus (simp only [ReAll, List.contains_cons, List.contains_nil, Nat.reduceBEq, Bool.or_true, Bool.true_or, Bool.or_false, if_true, Bool.false_eq_true, if_false, and_true, true_and] <;> repeat' (first | trivial | (refine And.intro ?_ ?_) | (unfold YA; go_big_quiet_op; rfl)))); clear hK K
  refine can_ef rfl (fun K hK => ?_)
  go_wp2_with (at_builtin; refine wpList_append_own_at _ rfl _ _ 31 rfl 0 29 i0 (.int .u16 0) 1 2 Try.underlying31 hi hz0 hz1 hz2 rfl (by decide) (vs ((now + d) % 32)) _ _ rfl (hO3.alloc _) ⟨w3.heap.size, 0, none⟩ 1 1 [.int .u16 (a : Int)] rfl rfl (cell_one_new _ _ _) (ints_oneCell .u16 [(a : Int)]) (by unfold maxLen; omega) (by omega) (by simp) ?_; intro v' w4 hown' hgrow hnil hloc; obtain ⟨sa, sl, sc, rfl⟩ := ownsRow_slice hown')
  refine hK _ _ ⟨?_, ?_⟩; (focus (simp only [ReAll, List.contains_cons, List.contains_nil, Nat.reduceBEq, Bool.or_true, Bool.true_or, Bool.or_false, if_true, Bool.false_eq_true, if_false, and_true, true_and] <;> repeat' (first | trivial | (refine And.intro ?_ ?_) | (unfold YA; go_big_quiet_op; rfl)))); clear hK K
  have hgk : ∀ k, k < w3.heap.size → (vs ((now + d) % 32)).ownBlock ≠ some k → w4.heap[k]? = w3.heap[k]? := fun k hk hne => by
    rw [hgrow.block k (by simp; omega) (Ne.symm hne)]; exact Below.heap_alloc _ _ _ hk
  have hbo : (vs ((now + d) % 32)).ownBlock ≠ some b := fun e => (H.sv _ b hk32 e).2.1 rfl
  have e4 : w4.heap[b]? = w3.heap[b]? := hgk b hb3' hbo
  have cv4 : w4.cell? ⟨b, 2 + (now + d) % 32, none⟩ = some (vs ((now + d) % 32)) := by
    rw [World.cell?_of_block (w := w3) (a := ⟨b, 2 + (now + d) % 32, none⟩) e4]; exact cv
  have fv4 : w4.frozen? ⟨b, 2 + (now + d) % 32, none⟩ = false := by
    rw [World.frozen?_of_block (w := w3) (a := ⟨b, 2 + (now + d) % 32, none⟩) e4]; exact fv
  have f4 : Fr S1 w1 w4 := (f3.alloc _).grown hgrow (fun k hk => .inl (H.sv _ k hk32 hk).1)
  have hz4 : w3.heap.size ≤ w4.heap.size := by have := hgrow.size; simp at this; omega
  (repeat (first | (refine can_drop rfl rfl (fun K hK => ?_); go_big_quiet_op; refine hK _ ?_; clear hK K) | (refine can_pure ?_ rfl rfl (fun W K hK => ?_) ?_; rotate_left; (focus (go_big_quiet_op; exact hK))) | (refine can_keep rfl rfl (fun K hK => ?_); go_big_quiet_op; refine hK _ ?_; clear hK K) | (refine can_skip rfl rfl ?_; simp only [Act.put, List.setIfInBounds_toArray, List.set_cons_succ, List.set_cons_zero])))
  refine can_ef rfl (fun K hK => ?_)
  go_wp2
  refine hK _ _ ⟨?_, ?_⟩; (focus (simp only [ReAll, List.contains_cons, List.contains_nil, Nat.reduceBEq, Bool.or_true, Bool.true_or, Bool.or_false, if_true, Bool.false_eq_true, if_false, and_true, true_and] <;> repeat' (first | trivial | (refine And.intro ?_ ?_) | (unfold YA; go_big_quiet_op; rfl)))); clear hK K
  refine can_nil ?_
  go_wp2
  go_ret
  have hbs : ∀ k, k ≠ b → (w4.setCell ⟨b, 2 + (now + d) % 32, none⟩ (.slice sa sl sc)).heap[k]? = w4.heap[k]? := fun k hk => Below.heap_setCell _ _ _ _ hk
  have hov : ∀ g, (Value.slice sa sl sc).ownBlock = some g → g ≠ b := fun g hg e => by
    subst e
    rcases hloc with h1 | h1
    · rw [h1] at hg; exact hbo hg
    · rw [h1] at hg; injection hg with hg; simp at hg; omega
  refine ⟨rfl, _, ⟨bm, _, _, _, H.added (w' := w4.setCell ⟨b, 2 + (now + d) % 32, none⟩ (.slice sa sl sc)) (a := a) (t := now + d) (n := L1.length + 1) (v' := .slice sa sl sc) ha hno (by omega) ?_ ?_ ?_ ?_ ?_ ?_ ?_ ?_⟩, ?_, ?_⟩
  · rcases hloc with h1 | h1
    · exact .inl h1
    · exact .inr ⟨_, h1, by simp; omega⟩
  · intro k hk
    rw [World.cell?_setCell_other _ _ _ _ (fun e => by injection e with _ e _; exact hk e.symm), World.cell?_of_block (w := w3) (a := ⟨b, k, none⟩) e4]
    exact World.cell?_of_block (w := w1) (a := ⟨b, k, none⟩) (hb3 b hbl (Ne.symm H.ne))
  · exact World.cell?_setCell_same _ _ _ cv4
  · intro k
    rw [World.frozen?_setCell, World.frozen?_of_block (w := w3) (a := ⟨b, k, none⟩) e4, World.frozen?_of_block (w := w1) (a := ⟨b, k, none⟩) (hb3 b hbl (Ne.symm H.ne))]
    exact H.fr k
  · intro k hk h1 h2 h3
    have := H.lt k hk
    rw [hbs k h1, hgk k (by omega) h3, hb3 k this h2]
  · simp; omega
  · have h1 := ownsRow_block (w' := w4.setCell ⟨b, 2 + (now + d) % 32, none⟩ (.slice sa sl sc)) hown' (fun g hg => hbs g (hov g hg))
    have e : row (xs ((now + d) % 32) ++ [a]) = row (xs ((now + d) % 32)) ++ [Value.int .u16 (a : Int)] := by simp [row]
    rw [e, List.length_append]
    exact h1
  · refine ownsMap_block hown3 ?_
    rw [hbs bm H.ne]
    have := H.lt bm H.sm
    exact hgk bm (by omega) (fun e => (H.sv _ bm hk32 e).2.2 rfl)
  · exact f1.trans (f4.setCell (p := ⟨b, 2 + (now + d) % 32, none⟩) (.inl H.sb) _) hS1
  · rintro k (hk | hk)
    · exact hS1 k hk
    · rcases hloc with h1 | h1
      · rw [h1] at hk; exact hS1 k (H.sv _ k hk32 hk).1
      · rw [h1] at hk; injection hk with hk; have := f1.size; simp at hk; right; omega
#print axioms set_c
end Go.Proofs.Ytkmknpobinpegaa
