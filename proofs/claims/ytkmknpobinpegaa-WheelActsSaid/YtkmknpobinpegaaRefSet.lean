/- The document's DocSet. -/
import Derived.Test.YtkmknpobinpegaaRefDrop
namespace Go.Proofs.Ytkmknpobinpegaa
set_option linter.unusedSimpArgs false
set_option linter.unusedVariables false
open Go Go.RowKit Go.Maps Go.Sort Go.Lib Go.Shelf

set_option pp.deepTerms true
set_option maxHeartbeats 1000000 in
theorem docSet_c (w : World) (S : Nat → Prop) (c now : Nat) (L : WL) (a d : Nat) (h : RefAt w S c now L) (hn : (L.map Prod.fst).Nodup) (hL : L.length ≤ 100000) (ha : a < 65536) (hnow : now ≤ 1000000) (hd : d ≤ 1000) :
    Calls Try.prog 14 #[.pointer (some ⟨c, 0, none⟩), .int .i64 (a : Int), .int .i64 (d : Int)] w (RefPost w S c now (dropL L a ++ [(a, now + d)]) (.returned (.tuple #[]))) := by
  obtain ⟨i0, hi, hi0, hi1, hi2⟩ := info_parts infoDue
  have hdr := docDrop_c w S c now L a h hn hL ha
  have hlen : (dropL L a).length ≤ 100000 := Nat.le_trans (List.length_filter_le _ _) hL
  clear h
  go_enter Try.func14, Try.ntmps14
  go_wp2_with fail
  refine hdr.mono ?_
  clear hdr
  rintro e w1 ⟨rfl, S1, ⟨v, H⟩, f1, hS1⟩
  generalize hasL L a = hb
  generalize hL1 : dropL L a = L1 at *
  have hL1' := Lib.hid hL1
  clear hL1
  go_wp2
  (refine wp_region_can [[], [], [1], [1, 2], [1, 2, 3], [], [], [6], [6, 7], [6, 7, 8], [], [6, 7, 8, 9, 10], [5, 6, 7, 8, 9, 10, 11], [5, 6, 7, 8, 9, 10, 11, 12], [1, 2, 3, 4, 5, 6, 7, 8, 9, 10, 11, 12, 13], [0, 1, 2, 3, 4, 5, 6, 7, 8, 9, 10, 11, 12, 13, 14], [0, 1, 2, 3, 4, 5, 6, 7, 8, 9, 10, 11, 12, 13, 14, 15], [0, 1, 2, 3, 4, 5, 6, 7, 8, 9, 10, 11, 12, 13, 14, 15, 16]] [.st 0 .pure, .st 1 .pure, .st 2 .pure, .st 3 .pure, .st 4 .keep, .st 5 .drop, .st 6 .drop, .st 7 .drop, .st 8 .drop, .st 9 .drop, .st 10 .drop, .st 11 .drop, .st 12 .drop, .ef 13 [0, 1, 2, 3, 4], .ef 14 [0], .st 15 .drop, .st 16 .drop, .ef 17 []] (by kernel_rfl) (by kernel_rfl) ?_; try simp only [Act.put])
  generalize hw2 : World.drew _ = w2
  have H2 := H.keep (w' := w2) (fun k hk => by rw [← hw2]; rfl) (by rw [← hw2]; exact Nat.le_refl _)
  have f2 : Fr S1 w1 w2 := by rw [← hw2]; exact (Fr.refl S1 w1).drew
  have hz2 : w1.heap.size = w2.heap.size := by rw [← hw2]; rfl
  have c0 := H2.c0
  have c1 := H2.c1
  have f0 := H2.fr 1
  have hcl := H2.lt c H2.sc
  clear hw2
  (repeat (first | (refine can_drop rfl rfl (fun K hK => ?_); go_big_quiet_op; refine hK _ ?_; clear hK K) | (refine can_pure ?_ rfl rfl (fun W K hK => ?_) ?_; rotate_left; (focus (go_big_quiet_op; exact hK))) | (refine can_keep rfl rfl (fun K hK => ?_); go_big_quiet_op; refine hK _ ?_; clear hK K) | (refine can_skip rfl rfl ?_; simp only [Act.put, List.setIfInBounds_toArray, List.set_cons_succ, List.set_cons_zero])))
  refine can_ef rfl (fun K hK => ?_)
  go_wp2
  refine hK _ _ ⟨?_, ?_⟩; (focus (simp only [ReAll, List.contains_cons, List.contains_nil, Nat.reduceBEq, Bool.or_true, Bool.true_or, Bool.or_false, if_true, Bool.false_eq_true, if_false, and_true, true_and] <;> repeat' (first | trivial | (refine And.intro ?_ ?_) | (unfold YA; go_big_quiet_op; rfl)))); clear hK K
  refine can_ef rfl (fun K hK => ?_)
  refine wpList_append_own_at _ rfl _ _ 39 rfl 0 55 i0 _ 2 16 Try.underlying39 hi hi0 hi1 hi2 rfl (by decide) v _ _ rfl (H2.own.alloc _) ⟨w2.heap.size, 0, none⟩ 1 1 [.int .i64 (a : Int), .int .i64 ((now : Int) + (d : Int))] rfl rfl (cells_new w2 #[.int .i64 (a : Int), .int .i64 ((now : Int) + (d : Int))] _) (fun u hu => by simp only [List.mem_cons, List.not_mem_nil, or_false] at hu; rcases hu with rfl | rfl <;> rfl) (by unfold maxLen; omega) (by omega) (by simp) ?_
  intro v3 w3 hown3 hgrow3 hnil3 hloc3
  obtain ⟨a3, l3, c3, rfl⟩ := ownsRow_slice hown3
  go_wp2
  refine hK _ _ ⟨?_, ?_⟩; (focus (simp only [ReAll, List.contains_cons, List.contains_nil, Nat.reduceBEq, Bool.or_true, Bool.true_or, Bool.or_false, if_true, Bool.false_eq_true, if_false, and_true, true_and] <;> repeat' (first | trivial | (refine And.intro ?_ ?_) | (unfold YA; go_big_quiet_op; rfl)))); clear hK K
  have hz3 := hgrow3.size
  simp at hz3
  have hvc : v.ownBlock ≠ some c := fun e => (H2.sv c e).2 rfl
  have hb3 : ∀ k, k < w2.heap.size → v.ownBlock ≠ some k → w3.heap[k]? = w2.heap[k]? := fun k hk hne => by
    rw [hgrow3.block k (by simp; omega) (Ne.symm hne)]; exact Below.heap_alloc _ _ _ hk
  have c1' : w3.cell? ⟨c, 1, none⟩ = some v := by
    rw [World.cell?_of_block (w := w2) (a := ⟨c, 1, none⟩) (hb3 c hcl hvc)]; exact c1
  have f0' : w3.frozen? ⟨c, 1, none⟩ = false := by
    rw [World.frozen?_of_block (w := w2) (a := ⟨c, 1, none⟩) (hb3 c hcl hvc)]; exact f0
  have f3 : Fr S1 w2 w3 := ((Fr.refl S1 w2).alloc _).grown hgrow3 (fun k hk => .inl (H2.sv k hk).1)
  (repeat (first | (refine can_drop rfl rfl (fun K hK => ?_); go_big_quiet_op; refine hK _ ?_; clear hK K) | (refine can_pure ?_ rfl rfl (fun W K hK => ?_) ?_; rotate_left; (focus (go_big_quiet_op; exact hK))) | (refine can_keep rfl rfl (fun K hK => ?_); go_big_quiet_op; refine hK _ ?_; clear hK K) | (refine can_skip rfl rfl ?_; simp only [Act.put, List.setIfInBounds_toArray, List.set_cons_succ, List.set_cons_zero])))
  refine can_ef rfl (fun K hK => ?_)
  go_wp2
  refine hK _ _ ⟨?_, ?_⟩; (focus (simp only [ReAll, List.contains_cons, List.contains_nil, Nat.reduceBEq, Bool.or_true, Bool.true_or, Bool.or_false, if_true, Bool.false_eq_true, if_false, and_true, true_and] <;> repeat' (first | trivial | (refine And.intro ?_ ?_) | (unfold YA; go_big_quiet_op; rfl)))); clear hK K
  refine can_nil ?_
  go_wp2
  refine bodyPost_end (results_none rfl _ _ _) rfl ?_
  refine ⟨rfl, fun k => S1 k ∨ (Value.slice a3 l3 c3).ownBlock = some k, ⟨.slice a3 l3 c3, ?_⟩, f1.trans ((f2.trans f3 (fun k hk => .inl hk)).setCell (p := ⟨c, 1, none⟩) (.inl H2.sc) _) hS1, ?_⟩
  · have hbs : ∀ k, k ≠ c → (w3.setCell ⟨c, 1, none⟩ (.slice a3 l3 c3)).heap[k]? = w3.heap[k]? := fun k hk => Below.heap_setCell _ _ _ _ hk
    have hov : ∀ g, (Value.slice a3 l3 c3).ownBlock = some g → g ≠ c := fun g hg e => by
      subst e
      rcases hloc3 with h1 | h1
      · rw [h1] at hg; exact hvc hg
      · rw [h1] at hg; injection hg with hg; simp at hg; omega
    refine { c0 := ?_, c1 := World.cell?_setCell_same _ _ _ c1', fr := fun k => ?_, own := ?_, sc := .inl H2.sc, sv := fun k hk => ⟨.inr hk, hov k hk⟩, lt := ?_ }
    · rw [World.cell?_setCell_other _ _ _ _ (fun e => by injection e with _ e _; omega), World.cell?_of_block (w := w2) (a := ⟨c, 0, none⟩) (hb3 c hcl hvc)]; exact c0
    · rw [World.frozen?_setCell, World.frozen?_of_block (w := w2) (a := ⟨c, k, none⟩) (hb3 c hcl hvc)]; exact H2.fr k
    · have h2 := ownsRow_block (w' := w3.setCell ⟨c, 1, none⟩ (.slice a3 l3 c3)) hown3 (fun k hk => hbs k (hov k hk))
      rw [flat_append, List.length_append]
      exact h2
    · rintro k (hk | hk)
      · have := H2.lt k hk; simp; omega
      · have := (hown3.lt k hk).2; simp; omega
  · rintro k (hk | hk)
    · exact hS1 k hk
    · rcases hloc3 with h1 | h1
      · rw [h1] at hk; exact hS1 k (H2.sv k hk).1
      · rw [h1] at hk; injection hk with hk; have := f1.size; simp at hk; right; omega
#print axioms docSet_c
end Go.Proofs.Ytkmknpobinpegaa
