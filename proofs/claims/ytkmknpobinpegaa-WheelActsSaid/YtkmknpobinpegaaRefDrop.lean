/- The document's DocDrop and DocSet. -/
import Derived.Test.YtkmknpobinpegaaRefMem
import Derived.LoopTactic
namespace Go.Proofs.Ytkmknpobinpegaa
set_option linter.unusedSimpArgs false
set_option linter.unusedVariables false
open Go Go.RowKit Go.Maps Go.Sort Go.Lib Go.Shelf

theorem docDrop_end {w w1 w3 : World} {S : Nat → Prop} {c now i a g vc : Nat} {L : WL} {a3 : Option Addr} {l3 c3 : Nat} (H1 : RefIn w1 S c now (.slice (some ⟨g, 0, none⟩) L.length vc) L) (f1 : Fr S w w1) (hz1 : w.heap.size = w1.heap.size)
    (hlt : i < L.length) (hx : (L[i]!).1 = a) (hA : Aside (hasL (L.take i) a = false)) (hn : (L.map Prod.fst).Nodup)
    (hown3 : w3.ownsRow w1.heap.size 55 2 (.slice a3 l3 c3) (i + (L.length - (i + 1))) (flat (L.take i) ++ flat (L.drop (i + 1))))
    (hb3 : ∀ k, k < w1.heap.size → w3.heap[k]? = w1.heap[k]?) (hf3 : Fr S w1 w3) :
    RefPost w S c now (dropL L a) (.returned (.bool (hasL L a))) (.returned (.bool true)) (w3.setCell ⟨c, 1, none⟩ (.slice a3 l3 c3)) := by
  have hA' : hasL (L.take i) a = false := hA
  have hcl := H1.lt c H1.sc
  have hL : L = L.take i ++ L[i]! :: L.drop (i + 1) := by
    rw [getElem!_pos L i hlt, ← List.drop_eq_getElem_cons hlt, List.take_append_drop]
  have hdrop : hasL (L.drop (i + 1)) a = false := by
    cases h : hasL (L.drop (i + 1)) a with
    | false => rfl
    | true =>
      obtain ⟨t, ht⟩ := hasL_iff.1 h
      rw [hL, List.map_append, List.map_cons, List.nodup_append, List.nodup_cons] at hn
      exact absurd (List.mem_map.2 ⟨_, ht, rfl⟩) (by rw [← hx]; exact hn.2.1.1)
  have hhas : hasL L a = true := by
    rw [hL]; unfold hasL; rw [List.any_append, List.any_cons, hx]; simp
  have hdl : dropL L a = L.take i ++ L.drop (i + 1) := by
    have h1 := dropL_none hA'
    have h2 := dropL_none hdrop
    unfold dropL at h1 h2 ⊢
    conv => lhs; rw [hL]
    rw [List.filter_append, List.filter_cons, h1, h2, hx]
    simp
  have hc1 : w3.cell? ⟨c, 1, none⟩ = some (.slice (some ⟨g, 0, none⟩) L.length vc) := by
    rw [World.cell?_of_block (w := w1) (a := ⟨c, 1, none⟩) (hb3 c hcl)]; exact H1.c1
  refine ⟨by rw [hhas], fun k => S k ∨ (Value.slice a3 l3 c3).ownBlock = some k, ⟨.slice a3 l3 c3, ?_⟩, f1.trans (hf3.setCell (p := ⟨c, 1, none⟩) (.inl H1.sc) _) (fun k hk => .inl hk), ?_⟩
  · have hbs : ∀ k, k ≠ c → (w3.setCell ⟨c, 1, none⟩ (.slice a3 l3 c3)).heap[k]? = w3.heap[k]? := fun k hk => Below.heap_setCell _ _ _ _ hk
    refine { c0 := ?_, c1 := World.cell?_setCell_same _ _ _ hc1, fr := fun k => ?_, own := ?_, sc := .inl H1.sc, sv := fun k hk => ⟨.inr hk, fun e => ?_⟩, lt := ?_ }
    · rw [World.cell?_setCell_other _ _ _ _ (fun e => by injection e with _ e _; omega), World.cell?_of_block (w := w1) (a := ⟨c, 0, none⟩) (hb3 c hcl)]; exact H1.c0
    · rw [World.frozen?_setCell, World.frozen?_of_block (w := w1) (a := ⟨c, k, none⟩) (hb3 c hcl)]; exact H1.fr k
    · have h1 := ownsRow_base (base' := 0) hown3 (fun _ _ => Nat.zero_le _)
      have h2 := ownsRow_block (w' := w3.setCell ⟨c, 1, none⟩ (.slice a3 l3 c3)) h1 (fun k hk => hbs k (fun e => by have := (hown3.lt k hk).1; omega))
      rw [hdl, flat_append, List.length_append, List.length_take, List.length_drop, Nat.min_eq_left (by omega)]
      exact h2
    · have := (hown3.lt k hk).1; omega
    · rintro k (hk | hk)
      · have := H1.lt k hk; have := hf3.size; simp; omega
      · have := (hown3.lt k hk).2; simp; omega
  · rintro k (hk | hk)
    · exact .inl hk
    · have := (hown3.lt k hk).1; right; omega

set_option maxHeartbeats 1000000 in
theorem docDrop_c (w : World) (S : Nat → Prop) (c now : Nat) (L : WL) (a : Nat) (h : RefAt w S c now L) (hn : (L.map Prod.fst).Nodup) (hL : L.length ≤ 100000) (ha : a < 65536) :
    Calls Try.prog 15 #[.pointer (some ⟨c, 0, none⟩), .int .i64 (a : Int)] w (RefPost w S c now (dropL L a) (.returned (.bool (hasL L a)))) := by
  obtain ⟨v, H⟩ := h
  obtain ⟨va, vc, rfl, hvc, hvm, hvh⟩ := pairs_open H.own
  unfold maxLen at hvm
  have c1 := H.c1
  obtain ⟨i0, hi, hi0, hi1, hi2⟩ := info_parts infoDue
  go_enter Try.func15, Try.ntmps15
  go_wp2
  go_loopw [5] (fun s5 wr => ∃ i : Nat, i ≤ L.length ∧ s5 = .int .i64 (i : Int) ∧ wr = w ∧ Aside (hasL (L.take i) a = false))
    (fun s5 _ => L.length - (intOf s5).toNat)
  case atStart => exact ⟨0, Nat.zero_le _, rfl, rfl, rfl⟩
  case round =>
    obtain ⟨i, hil, rfl, hwr, hA⟩ := hrel
    subst wr
    by_cases hlt : i < L.length
    · obtain ⟨g, rfl, _, hgl, _, hcell⟩ := hvh (by omega)
      have hc0 := hcell _ _ (flat_get0 hlt)
      by_cases hx : (L[i]!).1 = a
      · rw [hx] at hc0
        go_wp2
        by_cases hcap : vc = i + 1
        · subst hcap
          (refine wp_region_can [[], [], [], [2], [2, 3], [2, 3, 4], [], [2, 3, 4, 5, 6], [1, 2, 3, 4, 5, 6, 7], [], [9], [9, 10], [9, 10, 11], [], [13], [9, 10, 11, 12, 13, 14], [1, 2, 3, 4, 5, 6, 7, 8, 9, 10, 11, 12, 13, 14, 15], [0, 1, 2, 3, 4, 5, 6, 7, 8, 9, 10, 11, 12, 13, 14, 15, 16], [0, 1, 2, 3, 4, 5, 6, 7, 8, 9, 10, 11, 12, 13, 14, 15, 16, 17], [0, 1, 2, 3, 4, 5, 6, 7, 8, 9, 10, 11, 12, 13, 14, 15, 16, 17, 18]] [.st 0 .pure, .st 2 .pure, .st 3 .pure, .st 4 .pure, .st 5 .keep, .st 6 .pure, .st 7 .pure, .st 9 .pure, .st 10 .pure, .st 11 .pure, .st 12 .keep, .st 13 .pure, .st 14 .pure, .st 15 .pure, .ef 1 [0, 2, 3, 4, 5, 6, 7, 9, 10, 11, 12, 13, 14, 15], .ef 8 [0, 9, 10, 11, 12, 13, 14, 15], .ef 16 [0], .st 17 .drop, .st 18 .drop, .ef 19 []] (by kernel_rfl) (by kernel_rfl) ?_; try simp only [Act.put])
          generalize hw1 : World.drew _ = w1
          have H1 := H.keep (w' := w1) (fun k hk => by rw [← hw1]; rfl) (by rw [← hw1]; exact Nat.le_refl _)
          have f1 : Fr S w w1 := by rw [← hw1]; exact (Fr.refl S w).drew
          have hz1 : w.heap.size = w1.heap.size := by rw [← hw1]; rfl
          have c1' := H1.c1
          have f0 := H1.fr 1
          have hcl := H1.lt c H1.sc
          have hcw : ∀ j u, (flat L)[j]? = some u → w1.cell? ⟨g, j, none⟩ = some u := by rw [← hw1]; exact hcell
          clear hw1 c1 hc0 hcell
          (repeat (first | (refine can_drop rfl rfl (fun K hK => ?_); go_big_quiet_op; refine hK _ ?_; clear hK K) | (refine can_pure ?_ rfl rfl (fun W K hK => ?_) ?_; rotate_left; (focus (go_big_quiet_op; exact hK))) | (refine can_keep rfl rfl (fun K hK => ?_); go_big_quiet_op; refine hK _ ?_; clear hK K) | (refine can_skip rfl rfl ?_; simp only [Act.put, List.setIfInBounds_toArray, List.set_cons_succ, List.set_cons_zero])))
          refine can_ef rfl (fun K hK => ?_)
          go_wp2
          refine hK _ _ ⟨?_, ?_⟩; (focus (simp only [ReAll, List.contains_cons, List.contains_nil, Nat.reduceBEq, Bool.or_true, Bool.true_or, Bool.or_false, if_true, Bool.false_eq_true, if_false, and_true, true_and] <;> repeat' (first | trivial | (refine And.intro ?_ ?_) | (unfold YA; go_big_quiet_op; rfl)))); clear hK K
          refine can_ef rfl (fun K hK => ?_)
          have hown0 : (w1.alloc (.cells #[] 55)).ownsRow w1.heap.size 55 2 (.slice (some ⟨w1.heap.size, 0, none⟩) 0 0) 0 [] := World.ownsRow_made w1 #[] 0 (Nat.le_refl _) (Nat.zero_le _) rfl
          have hnw : ∀ j u, (flat (L.take i))[j]? = some u → (w1.alloc (.cells #[] 55)).cell? ((⟨g, 0, none⟩ : Addr).add j) = some u := fun j u hu => by
            rw [Addr_add0, World.cell?_of_block (w := w1) (a := ⟨g, j, none⟩) (Below.heap_alloc _ _ _ (show g < w1.heap.size by omega))]
            rw [flat_take, List.getElem?_take] at hu
            split at hu
            · exact hcw j u hu
            · cases hu
          refine wpList_append_own_at _ rfl _ _ 39 rfl w1.heap.size 55 i0 _ 2 16 Try.underlying39 hi hi0 hi1 hi2 rfl (by decide) (.slice (some ⟨w1.heap.size, 0, none⟩) 0 0) 0 [] rfl hown0 ⟨g, 0, none⟩ i _ (flat (L.take i)) rfl (by rw [flat_length, List.length_take]; omega) hnw (flat_oneCell _) (by unfold maxLen; omega) (by omega) (by simp) ?_
          intro v2 w2 hown2 hgrow2 hnil2 hloc2
          obtain ⟨a2, l2, c2, rfl⟩ := ownsRow_slice hown2
          rw [Nat.zero_add, List.nil_append] at hown2
          have hz2' := hgrow2.size
          simp at hz2'
          have hb2 : ∀ k, k < w1.heap.size → w2.heap[k]? = w1.heap[k]? := fun k hk => by
            rw [hgrow2.block k (by simp; omega) (by simp [Value.ownBlock]; omega)]; exact Below.heap_alloc _ _ _ hk
          have c12 : w2.cell? ⟨c, 1, none⟩ = w1.cell? ⟨c, 1, none⟩ := World.cell?_of_block (w := w1) (a := ⟨c, 1, none⟩) (hb2 c hcl)
          rw [c1'] at c12
          go_wp2
          refine hK _ _ ⟨?_, ?_⟩; (focus (simp only [ReAll, List.contains_cons, List.contains_nil, Nat.reduceBEq, Bool.or_true, Bool.true_or, Bool.or_false, if_true, Bool.false_eq_true, if_false, and_true, true_and] <;> repeat' (first | trivial | (refine And.intro ?_ ?_) | (unfold YA; go_big_quiet_op; rfl)))); clear hK K
          have hnw2 : ∀ j u, (flat (L.drop (i + 1)))[j]? = some u → w2.cell? ((⟨g, 0, none⟩ : Addr).add j) = some u := fun j u hu => by
            rw [List.drop_eq_nil_of_le (by omega)] at hu; cases hu
          refine can_ef rfl (fun K hK => ?_)
          refine wpList_append_own_at _ rfl _ _ 39 rfl w1.heap.size 55 i0 _ 2 16 Try.underlying39 hi hi0 hi1 hi2 rfl (by decide) (.slice a2 l2 c2) _ _ rfl hown2 ⟨g, 0, none⟩ 0 _ (flat (L.drop (i + 1))) rfl (by rw [flat_length, List.length_drop]; omega) hnw2 (flat_oneCell _) (by unfold maxLen; omega) (by omega) (by omega) ?_
          intro v3 w3 hown3 hgrow3 hnil3 hloc3
          rw [show i + 0 = i + (L.length - (i + 1)) by omega] at hown3
          obtain ⟨a3, l3, c3, rfl⟩ := ownsRow_slice hown3
          go_wp2
          refine hK _ _ ⟨?_, ?_⟩; (focus (simp only [ReAll, List.contains_cons, List.contains_nil, Nat.reduceBEq, Bool.or_true, Bool.true_or, Bool.or_false, if_true, Bool.false_eq_true, if_false, and_true, true_and] <;> repeat' (first | trivial | (refine And.intro ?_ ?_) | (unfold YA; go_big_quiet_op; rfl)))); clear hK K
          have hz3 := hgrow3.size
          have hb3 : ∀ k, k < w1.heap.size → w3.heap[k]? = w1.heap[k]? := fun k hk => by
            rw [hgrow3.block k (by omega) (fun e => by have := (hown2.lt k e.symm).1; omega)]; exact hb2 k hk
          have c1'' : w3.cell? ⟨c, 1, none⟩ = some (.slice (some ⟨g, 0, none⟩) L.length (i + 1)) := by
            rw [World.cell?_of_block (w := w1) (a := ⟨c, 1, none⟩) (hb3 c hcl)]; exact c1'
          have f0'' : w3.frozen? ⟨c, 1, none⟩ = false := by
            rw [World.frozen?_of_block (w := w1) (a := ⟨c, 1, none⟩) (hb3 c hcl)]; exact f0
          (repeat (first | (refine can_drop rfl rfl (fun K hK => ?_); go_big_quiet_op; refine hK _ ?_; clear hK K) | (refine can_pure ?_ rfl rfl (fun W K hK => ?_) ?_; rotate_left; (focus (go_big_quiet_op; exact hK))) | (refine can_keep rfl rfl (fun K hK => ?_); go_big_quiet_op; refine hK _ ?_; clear hK K) | (refine can_skip rfl rfl ?_; simp only [Act.put, List.setIfInBounds_toArray, List.set_cons_succ, List.set_cons_zero])))
          refine can_ef rfl (fun K hK => ?_)
          go_wp2
          refine hK _ _ ⟨?_, ?_⟩; (focus (simp only [ReAll, List.contains_cons, List.contains_nil, Nat.reduceBEq, Bool.or_true, Bool.true_or, Bool.or_false, if_true, Bool.false_eq_true, if_false, and_true, true_and] <;> repeat' (first | trivial | (refine And.intro ?_ ?_) | (unfold YA; go_big_quiet_op; rfl)))); clear hK K
          refine can_nil ?_
          go_wp2
          go_ret
          refine docDrop_end H1 f1 hz1 hlt hx hA hn hown3 hb3 ?_
          exact (((Fr.refl S w1).alloc _).grown hgrow2 (fun k hk => by simp [Value.ownBlock] at hk; right; omega)).grown hgrow3 (fun k hk => .inr (hown2.lt k hk).1)
        · (refine wp_region_can [[], [], [], [2], [2, 3], [2, 3, 4], [], [2, 3, 4, 5, 6], [1, 2, 3, 4, 5, 6, 7], [], [9], [9, 10], [9, 10, 11], [], [13], [9, 10, 11, 12, 13, 14], [1, 2, 3, 4, 5, 6, 7, 8, 9, 10, 11, 12, 13, 14, 15], [0, 1, 2, 3, 4, 5, 6, 7, 8, 9, 10, 11, 12, 13, 14, 15, 16], [0, 1, 2, 3, 4, 5, 6, 7, 8, 9, 10, 11, 12, 13, 14, 15, 16, 17], [0, 1, 2, 3, 4, 5, 6, 7, 8, 9, 10, 11, 12, 13, 14, 15, 16, 17, 18]] [.st 0 .pure, .st 2 .pure, .st 3 .pure, .st 4 .pure, .st 5 .keep, .st 6 .pure, .st 7 .pure, .st 9 .pure, .st 10 .pure, .st 11 .pure, .st 12 .keep, .st 13 .pure, .st 14 .pure, .st 15 .pure, .ef 1 [0, 2, 3, 4, 5, 6, 7, 9, 10, 11, 12, 13, 14, 15], .ef 8 [0, 9, 10, 11, 12, 13, 14, 15], .ef 16 [0], .st 17 .drop, .st 18 .drop, .ef 19 []] (by kernel_rfl) (by kernel_rfl) ?_; try simp only [Act.put])
          generalize hw1 : World.drew _ = w1
          have H1 := H.keep (w' := w1) (fun k hk => by rw [← hw1]; rfl) (by rw [← hw1]; exact Nat.le_refl _)
          have f1 : Fr S w w1 := by rw [← hw1]; exact (Fr.refl S w).drew
          have hz1 : w.heap.size = w1.heap.size := by rw [← hw1]; rfl
          have c1' := H1.c1
          have f0 := H1.fr 1
          have hcl := H1.lt c H1.sc
          have hcw : ∀ j u, (flat L)[j]? = some u → w1.cell? ⟨g, j, none⟩ = some u := by rw [← hw1]; exact hcell
          clear hw1 c1 hc0 hcell
          (repeat (first | (refine can_drop rfl rfl (fun K hK => ?_); go_big_quiet_op; refine hK _ ?_; clear hK K) | (refine can_pure ?_ rfl rfl (fun W K hK => ?_) ?_; rotate_left; (focus (go_big_quiet_op; exact hK))) | (refine can_keep rfl rfl (fun K hK => ?_); go_big_quiet_op; refine hK _ ?_; clear hK K) | (refine can_skip rfl rfl ?_; simp only [Act.put, List.setIfInBounds_toArray, List.set_cons_succ, List.set_cons_zero])))
          refine can_ef rfl (fun K hK => ?_)
          go_wp2
          refine hK _ _ ⟨?_, ?_⟩; (focus (simp only [ReAll, List.contains_cons, List.contains_nil, Nat.reduceBEq, Bool.or_true, Bool.true_or, Bool.or_false, if_true, Bool.false_eq_true, if_false, and_true, true_and] <;> repeat' (first | trivial | (refine And.intro ?_ ?_) | (unfold YA; go_big_quiet_op; rfl)))); clear hK K
          refine can_ef rfl (fun K hK => ?_)
          have hown0 : (w1.alloc (.cells #[] 55)).ownsRow w1.heap.size 55 2 (.slice (some ⟨w1.heap.size, 0, none⟩) 0 0) 0 [] := World.ownsRow_made w1 #[] 0 (Nat.le_refl _) (Nat.zero_le _) rfl
          have hnw : ∀ j u, (flat (L.take i))[j]? = some u → (w1.alloc (.cells #[] 55)).cell? ((⟨g, 0, none⟩ : Addr).add j) = some u := fun j u hu => by
            rw [Addr_add0, World.cell?_of_block (w := w1) (a := ⟨g, j, none⟩) (Below.heap_alloc _ _ _ (show g < w1.heap.size by omega))]
            rw [flat_take, List.getElem?_take] at hu
            split at hu
            · exact hcw j u hu
            · cases hu
          refine wpList_append_own_at _ rfl _ _ 39 rfl w1.heap.size 55 i0 _ 2 16 Try.underlying39 hi hi0 hi1 hi2 rfl (by decide) (.slice (some ⟨w1.heap.size, 0, none⟩) 0 0) 0 [] rfl hown0 ⟨g, 0, none⟩ i _ (flat (L.take i)) rfl (by rw [flat_length, List.length_take]; omega) hnw (flat_oneCell _) (by unfold maxLen; omega) (by omega) (by simp) ?_
          intro v2 w2 hown2 hgrow2 hnil2 hloc2
          obtain ⟨a2, l2, c2, rfl⟩ := ownsRow_slice hown2
          rw [Nat.zero_add, List.nil_append] at hown2
          have hz2' := hgrow2.size
          simp at hz2'
          have hb2 : ∀ k, k < w1.heap.size → w2.heap[k]? = w1.heap[k]? := fun k hk => by
            rw [hgrow2.block k (by simp; omega) (by simp [Value.ownBlock]; omega)]; exact Below.heap_alloc _ _ _ hk
          have c12 : w2.cell? ⟨c, 1, none⟩ = w1.cell? ⟨c, 1, none⟩ := World.cell?_of_block (w := w1) (a := ⟨c, 1, none⟩) (hb2 c hcl)
          rw [c1'] at c12
          go_wp2
          refine hK _ _ ⟨?_, ?_⟩; (focus (simp only [ReAll, List.contains_cons, List.contains_nil, Nat.reduceBEq, Bool.or_true, Bool.true_or, Bool.or_false, if_true, Bool.false_eq_true, if_false, and_true, true_and] <;> repeat' (first | trivial | (refine And.intro ?_ ?_) | (unfold YA; go_big_quiet_op; rfl)))); clear hK K
          have hnw2 : ∀ j u, (flat (L.drop (i + 1)))[j]? = some u → w2.cell? ((⟨g, (i + 1) * 2, none⟩ : Addr).add j) = some u := fun j u hu => by
            rw [flat_drop, List.getElem?_drop] at hu
            rw [Addr.add_lit, World.cell?_of_block (w := w1) (a := ⟨g, (i + 1) * 2 + j, none⟩) (hb2 g (by omega))]
            exact hcw _ u hu
          refine can_ef rfl (fun K hK => ?_)
          refine wpList_append_own_at _ rfl _ _ 39 rfl w1.heap.size 55 i0 _ 2 16 Try.underlying39 hi hi0 hi1 hi2 rfl (by decide) (.slice a2 l2 c2) _ _ rfl hown2 ⟨g, (i + 1) * 2, none⟩ (L.length - (i + 1)) _ (flat (L.drop (i + 1))) rfl (by rw [flat_length, List.length_drop]) hnw2 (flat_oneCell _) (by unfold maxLen; omega) (by omega) (by omega) ?_
          intro v3 w3 hown3 hgrow3 hnil3 hloc3
          obtain ⟨a3, l3, c3, rfl⟩ := ownsRow_slice hown3
          go_wp2
          refine hK _ _ ⟨?_, ?_⟩; (focus (simp only [ReAll, List.contains_cons, List.contains_nil, Nat.reduceBEq, Bool.or_true, Bool.true_or, Bool.or_false, if_true, Bool.false_eq_true, if_false, and_true, true_and] <;> repeat' (first | trivial | (refine And.intro ?_ ?_) | (unfold YA; go_big_quiet_op; rfl)))); clear hK K
          have hz3 := hgrow3.size
          have hb3 : ∀ k, k < w1.heap.size → w3.heap[k]? = w1.heap[k]? := fun k hk => by
            rw [hgrow3.block k (by omega) (fun e => by have := (hown2.lt k e.symm).1; omega)]; exact hb2 k hk
          have c1'' : w3.cell? ⟨c, 1, none⟩ = some (.slice (some ⟨g, 0, none⟩) L.length vc) := by
            rw [World.cell?_of_block (w := w1) (a := ⟨c, 1, none⟩) (hb3 c hcl)]; exact c1'
          have f0'' : w3.frozen? ⟨c, 1, none⟩ = false := by
            rw [World.frozen?_of_block (w := w1) (a := ⟨c, 1, none⟩) (hb3 c hcl)]; exact f0
          (repeat (first | (refine can_drop rfl rfl (fun K hK => ?_); go_big_quiet_op; refine hK _ ?_; clear hK K) | (refine can_pure ?_ rfl rfl (fun W K hK => ?_) ?_; rotate_left; (focus (go_big_quiet_op; exact hK))) | (refine can_keep rfl rfl (fun K hK => ?_); go_big_quiet_op; refine hK _ ?_; clear hK K) | (refine can_skip rfl rfl ?_; simp only [Act.put, List.setIfInBounds_toArray, List.set_cons_succ, List.set_cons_zero])))
          refine can_ef rfl (fun K hK => ?_)
          go_wp2
          refine hK _ _ ⟨?_, ?_⟩; (focus (simp only [ReAll, List.contains_cons, List.contains_nil, Nat.reduceBEq, Bool.or_true, Bool.true_or, Bool.or_false, if_true, Bool.false_eq_true, if_false, and_true, true_and] <;> repeat' (first | trivial | (refine And.intro ?_ ?_) | (unfold YA; go_big_quiet_op; rfl)))); clear hK K
          refine can_nil ?_
          go_wp2
          go_ret
          refine docDrop_end H1 f1 hz1 hlt hx hA hn hown3 hb3 ?_
          exact (((Fr.refl S w1).alloc _).grown hgrow2 (fun k hk => by simp [Value.ownBlock] at hk; right; omega)).grown hgrow3 (fun k hk => .inr (hown2.lt k hk).1)
      · have hb : (((L[i]!).1 : Int) == (a : Int)) = false := by rw [beq_eq_false_iff_ne]; omega
        generalize hy : (L[i]!).1 = y at hc0 hb hx
        go_wp2
        refine ⟨⟨i + 1, by omega, by go_num, by first | rfl | trivial, ?_⟩, by simp [intOf]; omega⟩
        show hasL (L.take (i + 1)) a = false
        have h1 : hasL (L.take i) a = false := hA
        rw [List.take_succ_eq_append_getElem hlt]
        unfold hasL at h1 ⊢
        rw [List.any_append, h1]
        rw [getElem!_pos L i hlt] at hy
        simp [hy, hx]
    · obtain rfl : i = L.length := by omega
      go_wp2
      go_ret
      have h1 : hasL (L.take L.length) a = false := hA
      rw [List.take_length] at h1
      rw [h1, dropL_none h1]
      refine ⟨?_, S, ⟨_, H⟩, Fr.refl _ _, fun k hk => .inl hk⟩
      rfl
#print axioms docDrop_c
end Go.Proofs.Ytkmknpobinpegaa
