/- Layer 29's reader: the walk of a step (under way). -/
import Derived.Test.YtkmknpobinpegaaDoorScrRStep
import Derived.Laws.ResultCell
namespace Go.Proofs.YtkmknpobinpegaaDoor
open Go Go.RowKit Go.Maps Go.Sort Go.Lib
set_option linter.unusedSimpArgs false
set_option linter.unusedVariables false

set_option maxRecDepth 8000 in
set_option maxHeartbeats 2000000 in
theorem rstep_c (w : World) (S : Nat → Prop) (sb : Nat) (st : RSt) (h : SrAt w S sb st) :
    Calls Tryd.prog 27 #[.pointer (some ⟨sb, 0, none⟩)] w (RStepPost w S sb st) := by
  obtain ⟨i0, hi, hi0, hi1, hi2⟩ := info_parts infoB
  obtain ⟨j0, hj0, hj1, hj2, hj3⟩ := info_parts infoW
  obtain ⟨w0, hw0⟩ : ∃ w0, w0 = w.alloc (.cells #[.int .i64 0, .int .i64 0, .slice none 0 0, .slice none 0 0] 52) := ⟨_, rfl⟩
  have h0 : SrAt w0 S sb st := h.keep (fun k hk => by rw [hw0]; exact Below.heap_alloc _ _ _ (h.lt k hk)) (by rw [hw0]; simp)
  go_enter Tryd.func27, Tryd.ntmps27
  go_wp2_with fail
  rw [← hw0]
  refine (rtake_c w0 S sb st _ 8 h0 (by omega) (by omega)).mono ?_
  rintro e w1 ⟨rfl, S1, hA1, hF1, hS1⟩
  have b1 := takeN_lt h0.bits 8
  generalize hn1 : takeN st 8 = n1 at *
  have hn1' := Lib.hid hn1
  clear hn1
  generalize hst1 : takeS st 8 = st1 at *
  obtain ⟨wB, hwB⟩ : ∃ wB, wB = w1.alloc (.cells #[.int .i64 (n1 : Int), .int .i64 0, .slice none 0 0, .slice none 0 0] 52) := ⟨_, rfl⟩
  have hzB : wB.heap.size = w1.heap.size + 1 := by rw [hwB]; simp
  have hB : RWay wB S1 w1.heap.size sb wB S1 st1 := ⟨hA1.keep (fun k hk => by rw [hwB]; exact Below.heap_alloc _ _ _ (hA1.lt k hk)) (by omega), Fr.refl _ _, fun k hk => .inl hk⟩
  have hnp : ¬ S1 w1.heap.size := fun hs => by have := hA1.lt _ hs; omega
  have hPC : PC wB w1.heap.size n1 0 (.slice none 0 0) (.slice none 0 0) := {
    p0 := by rw [hwB, World.cell?_alloc_new]; rfl
    p1 := by rw [hwB, World.cell?_alloc_new]; rfl
    p2 := by rw [hwB, World.cell?_alloc_new]; rfl
    p3 := by rw [hwB, World.cell?_alloc_new]; rfl
    fr := fun k => by rw [hwB]; simp }
  go_wp2_with fail
  rw [← hwB]
  generalize hpe : w1.heap.size = p at *
  have hpe' := Lib.hid hpe
  clear hpe
  have hx := Lib.hid (And.intro hw0 (And.intro hF1 (And.intro hS1 hwB)))
  clear hwB hA1 hF1 hS1 h0 hw0
  refine (rtake_c wB S1 sb st1 _ 16 hB.at_ (by omega) (by omega)).mono ?_
  rintro e w2 hT2
  have b2 := takeN_lt hB.at_.bits 16
  generalize hn2 : takeN st1 16 = n2 at *
  have hn2' := Lib.hid hn2
  clear hn2
  generalize hst2 : takeS st1 16 = st2 at *
  obtain ⟨rfl, S2, hB2, hF2, hS2⟩ := hB.next hT2
  have hPC2 := hPC.block (hF2.block p (by omega) hnp)
  have hnp2 : ¬ S2 p := fun hs => by rcases hS2 p hs with h' | h'; exact hnp h'; omega
  have q1 := hPC2.p1
  have qf := hPC2.fr 1
  clear hT2
  obtain ⟨w3, hw3⟩ : ∃ w3, w3 = w2.setCell ⟨p, 1, none⟩ (.int .i64 (n2 : Int)) := ⟨_, rfl⟩
  have hPC3 : PC w3 p n1 n2 (.slice none 0 0) (.slice none 0 0) := by rw [hw3]; exact hPC2.set1
  have hB3 : RWay wB S1 p sb w3 S2 st2 := hB2.keep (fun k hk => by rw [hw3]; exact Below.heap_setCell _ _ _ _ (fun e => by subst e; exact hnp2 hk)) (by rw [hw3]; exact hB2.fr.setCell (p := ⟨p, 1, none⟩) (.inl (.inr rfl)) _) (by rw [hw3]; simp)
  go_wp2_with fail
  rw [← hw3]
  clear hw3 q1 qf hPC2 hB2 hF2 hPC hB
  refine (rtake_c w3 S2 sb st2 _ 8 hB3.at_ (by omega) (by omega)).mono ?_
  rintro e w4 hT4
  have b3 := takeN_lt hB3.at_.bits 8
  generalize hme : takeN st2 8 = m at *
  have hme' := Lib.hid hme
  clear hme
  generalize hst3 : takeS st2 8 = st3 at *
  obtain ⟨rfl, S4, hB4, hF4, hS4⟩ := hB3.next hT4
  have hPC4 := hPC3.block (hF4.block p hPC3.lt hnp2)
  have hnp4 : ¬ S4 p := fun hs => by rcases hS4 p hs with h' | h'; exact hnp2 h'; have := hPC3.lt; omega
  clear hT4 hF4 hS4 hPC3 hB3 hS2 hnp2
  have hm : m < 256 := b3
  have hy := Lib.hid (And.intro hst1 (And.intro hst2 hst3))
  clear hst1 hst2 hst3
  go_wp2
  go_loopw [13] (fun s13 wr => ∃ (j : Nat) (Sj : Nat → Prop) (v : Value), j ≤ m ∧ s13 = .int .i64 (j : Int) ∧ Aside (RWay wB S1 p sb wr Sj (takeMany 8 j st3).2 ∧ PC wr p n1 n2 v (.slice none 0 0) ∧
      wr.ownsRow wB.heap.size 5 1 v j (rowB (takeMany 8 j st3).1) ∧ (∀ g, v.ownBlock = some g → ¬ Sj g) ∧ ¬ Sj p))
    (fun s13 _ => m - (intOf s13).toNat)
  case atStart => exact ⟨0, S4, .slice none 0 0, Nat.zero_le _, rfl, hB4, hPC4, World.ownsRow_nil _ _ _ _, fun g hg => by simp [Value.ownBlock] at hg, hnp4⟩
  case round =>
    obtain ⟨j, Sj, v, hj, rfl, hA⟩ := hrel
    have hAj := Lib.hid hA
    clear hA
    by_cases hlt : j < m
    · obtain ⟨va, vl, vc, rfl⟩ := ownsRow_slice hAj.out.2.2.1
      go_wp2
      (refine wp_region_can [[], [0], [], [2], [2, 3], [2, 3, 4], [0, 1, 2, 3, 4, 5], [0, 1, 2, 3, 4, 5, 6], [0, 1, 2, 3, 4, 5, 6, 7]] [.st 0 .pure, .st 1 .keep, .st 2 .drop, .ef 3 [0, 1], .st 4 .drop, .ef 5 [0, 1], .ef 6 [], .st 7 .drop, .ef 8 []] (by kernel_rfl) (by kernel_rfl) ?_; try simp only [Act.put])
      generalize hw5 : World.drew _ = w5
      have hB5 : RWay wB S1 p sb w5 Sj (takeMany 8 j st3).2 := hAj.out.1.keep (fun k hk => by rw [← hw5]; rfl) (by rw [← hw5]; exact hAj.out.1.fr.drew) (by rw [← hw5]; exact Nat.le_refl _)
      have hPC5 : PC w5 p n1 n2 (.slice va vl vc) (.slice none 0 0) := hAj.out.2.1.block (by rw [← hw5]; rfl)
      have hO5 : w5.ownsRow wB.heap.size 5 1 (.slice va vl vc) j (rowB (takeMany 8 j st3).1) := by rw [← hw5]; exact hAj.out.2.2.1
      have hg5 := hAj.out.2.2.2.1
      have hn5 := hAj.out.2.2.2.2
      clear hw5 hAj
      have q2 := hPC5.p2
      have e6 : (takeMany 8 (j + 1) st3) = ((takeMany 8 j st3).1 ++ [takeN (takeMany 8 j st3).2 8], takeS (takeMany 8 j st3).2 8) := rfl
      have hT5 := rtake_c w5 Sj sb (takeMany 8 j st3).2 ⟨#[98, 121, 116, 101]⟩ 8 hB5.at_ (by omega) (by omega)
      have b5 := takeN_lt hB5.at_.bits 8
      generalize takeN (takeMany 8 j st3).2 8 = y at *
      generalize takeS (takeMany 8 j st3).2 8 = st6 at *
      have e6' := Lib.hid e6
      clear e6
      have hy8 : y < 256 := b5
      (repeat (first | (refine can_drop rfl rfl (fun K hK => ?_); go_big_quiet_op; refine hK _ ?_; clear hK K) | (refine can_pure ?_ rfl rfl (fun W K hK => ?_) ?_; rotate_left; (focus (go_big_quiet_op; exact hK))) | (refine can_keep rfl rfl (fun K hK => ?_); go_big_quiet_op; refine hK _ ?_; clear hK K) | (refine can_skip rfl rfl ?_; simp only [Act.put, List.setIfInBounds_toArray, List.set_cons_succ, List.set_cons_zero])))
      refine can_ef rfl (fun K hK => ?_)
      go_wp2_with fail
      refine hT5.mono ?_
      rintro e w6 hT6
      obtain ⟨rfl, S6, hB6, hF6, hS6⟩ := hB5.next hT6
      have hPC6 := hPC5.block (hF6.block p hPC5.lt hn5)
      have hO6 := ownsRow_block hO5 (fun g hg => hF6.block g (hO5.lt g hg).2 (hg5 g hg))
      have q26 := hPC6.p2
      have hnp6 : ¬ S6 p := fun hs => by rcases hS6 p hs with h' | h'; exact hn5 h'; have := hPC5.lt; omega
      have hg6 : ∀ g, (Value.slice va vl vc).ownBlock = some g → ¬ S6 g := fun g hg hs => by
        rcases hS6 g hs with h' | h'
        · exact hg5 g hg h'
        · have := (hO5.lt g hg).2; omega
      have hz6 := hB6.fr.size
      have hpB : p < wB.heap.size := by omega
      clear hT5 hT6 hF6 hS6 hB5 hPC5 hO5 hg5 hn5 q2
      have hpl6 : p < w6.heap.size := hPC6.lt
      go_wp2
      refine hK _ _ ⟨?_, ?_⟩; (focus (simp only [ReAll, List.contains_cons, List.contains_nil, Nat.reduceBEq, Bool.or_true, Bool.true_or, Bool.or_false, if_true, Bool.false_eq_true, if_false, and_true, true_and] <;> repeat' (first | trivial | (refine And.intro ?_ ?_) | (unfold YA; go_big_quiet_op; rfl)))); clear hK K
      (repeat (first | (refine can_drop rfl rfl (fun K hK => ?_); go_big_quiet_op; refine hK _ ?_; clear hK K) | (refine can_pure ?_ rfl rfl (fun W K hK => ?_) ?_; rotate_left; (focus (go_big_quiet_op; exact hK))) | (refine can_keep rfl rfl (fun K hK => ?_); go_big_quiet_op; refine hK _ ?_; clear hK K) | (refine can_skip rfl rfl ?_; simp only [Act.put, List.setIfInBounds_toArray, List.set_cons_succ, List.set_cons_zero])))
      refine can_ef rfl (fun K hK => ?_)
      go_wp2
      refine hK _ _ ⟨?_, ?_⟩; (focus (simp only [ReAll, List.contains_cons, List.contains_nil, Nat.reduceBEq, Bool.or_true, Bool.true_or, Bool.or_false, if_true, Bool.false_eq_true, if_false, and_true, true_and] <;> repeat' (first | trivial | (refine And.intro ?_ ?_) | (unfold YA; go_big_quiet_op; rfl)))); clear hK K
      refine can_ef rfl (fun K hK => ?_)
      refine wpList_append_own_at _ rfl _ _ 28 rfl wB.heap.size 5 i0 _ 1 1 Tryd.underlying28 hi hi0 hi1 hi2 rfl (by decide) (.slice va vl vc) _ _ rfl (hO6.alloc _) ⟨w6.heap.size, 0, none⟩ 1 1 [.int .u8 (y : Int)] rfl rfl (cell_one_new _ _ _) (ints_oneCell .u8 [(y : Int)]) (by unfold maxLen; omega) (by omega) (by simp; omega) ?_
      intro v' w7 hown' hgrow hnil hloc
      obtain ⟨sa, sl, sc, rfl⟩ := ownsRow_slice hown'
      go_wp2
      refine hK _ _ ⟨?_, ?_⟩; (focus (simp only [ReAll, List.contains_cons, List.contains_nil, Nat.reduceBEq, Bool.or_true, Bool.true_or, Bool.or_false, if_true, Bool.false_eq_true, if_false, and_true, true_and] <;> repeat' (first | trivial | (refine And.intro ?_ ?_) | (unfold YA; go_big_quiet_op; rfl)))); clear hK K
      have hz7 := hgrow.size
      simp at hz7
      have hvp : (Value.slice va vl vc).ownBlock ≠ some p := fun e => by have := (hO6.lt p e).1; omega
      have hb7 : ∀ q, q < w6.heap.size → (Value.slice va vl vc).ownBlock ≠ some q → w7.heap[q]? = w6.heap[q]? := fun q hq hne => by
        rw [hgrow.block q (by simp; omega) (Ne.symm hne)]; exact Below.heap_alloc _ _ _ hq
      have hPC7 := hPC6.block (hb7 p hPC6.lt hvp)
      have q7 := hPC7.p2
      have qf7 := hPC7.fr 2
      have hf7 : Fr (fun k => S1 k ∨ k = p) wB w7 := (hB6.fr.alloc _).grown hgrow (fun q hq => .inr (hO6.lt q hq).1)
      (repeat (first | (refine can_drop rfl rfl (fun K hK => ?_); go_big_quiet_op; refine hK _ ?_; clear hK K) | (refine can_pure ?_ rfl rfl (fun W K hK => ?_) ?_; rotate_left; (focus (go_big_quiet_op; exact hK))) | (refine can_keep rfl rfl (fun K hK => ?_); go_big_quiet_op; refine hK _ ?_; clear hK K) | (refine can_skip rfl rfl ?_; simp only [Act.put, List.setIfInBounds_toArray, List.set_cons_succ, List.set_cons_zero])))
      refine can_ef rfl (fun K hK => ?_)
      go_wp2
      refine hK _ _ ⟨?_, ?_⟩; (focus (simp only [ReAll, List.contains_cons, List.contains_nil, Nat.reduceBEq, Bool.or_true, Bool.true_or, Bool.or_false, if_true, Bool.false_eq_true, if_false, and_true, true_and] <;> repeat' (first | trivial | (refine And.intro ?_ ?_) | (unfold YA; go_big_quiet_op; rfl)))); clear hK K
      refine can_nil ?_
      go_wp2
      have hloc' : ∀ g, (Value.slice sa sl sc).ownBlock = some g → ¬ S6 g ∧ g ≠ p := fun g hg => by
        rcases hloc with h1 | h1
        · rw [h1] at hg; exact ⟨hg6 g hg, fun e => hvp (by rw [← e]; exact hg)⟩
        · rw [h1] at hg; injection hg with hg; simp at hg
          exact ⟨fun hs => by have := hB6.at_.lt g hs; omega, by have := hPC6.lt; omega⟩
      refine ⟨⟨j + 1, S6, .slice sa sl sc, by omega, by go_num, ?_, hPC7.set2, ?_, fun g hg => (hloc' g hg).1, hnp6⟩, by simp [intOf]; omega⟩
      · rw [e6'.out]
        refine hB6.keep (fun k hk => ?_) (hf7.setCell (p := ⟨p, 2, none⟩) (.inl (.inr rfl)) _) (by simp; omega)
        rw [Below.heap_setCell _ _ _ _ (fun e => by subst e; exact hnp6 hk)]
        exact hb7 k (hB6.at_.lt k hk) (fun e => hg6 k e hk)
      · rw [e6'.out]
        have e : rowB ((takeMany 8 j st3).1 ++ [y]) = rowB (takeMany 8 j st3).1 ++ [Value.int .u8 (y : Int)] := by simp [rowB]
        show World.ownsRow _ _ _ _ _ _ (rowB ((takeMany 8 j st3).1 ++ [y]))
        rw [e]
        exact ownsRow_block hown' (fun g hg => Below.heap_setCell _ _ _ _ (hloc' g hg).2)
    · obtain rfl : j = m := by omega
      have hB8 := hAj.out.1
      have hPC8 := hAj.out.2.1
      have hO8 := hAj.out.2.2.1
      have hg8 := hAj.out.2.2.2.1
      have hn8 := hAj.out.2.2.2.2
      have hlb := takeMany_len 8 st3 j
      generalize htb : takeMany 8 j st3 = tb at *
      have htb' := Lib.hid htb
      clear htb
      clear hAj
      obtain ⟨bl, st8⟩ := tb
      simp only at hB8 hO8 hlb
      go_wp2_with fail
      refine (rtake_c _ Sj sb st8 _ 8 hB8.at_ (by omega) (by omega)).mono ?_
      rintro e w9 hT9
      have b9 := takeN_lt hB8.at_.bits 8
      generalize hm2e : takeN st8 8 = m2 at *
      have hm2' := Lib.hid hm2e
      clear hm2e
      generalize hst9 : takeS st8 8 = st9 at *
      obtain ⟨rfl, S9, hB9, hF9, hS9⟩ := hB8.next hT9
      have hPC9 := hPC8.block (hF9.block p hPC8.lt hn8)
      have hO9 := ownsRow_block hO8 (fun g hg => hF9.block g (hO8.lt g hg).2 (hg8 g hg))
      have hg9 : ∀ g, v.ownBlock = some g → ¬ S9 g := fun g hg hs => by
        rcases hS9 g hs with h' | h'
        · exact hg8 g hg h'
        · have := (hO8.lt g hg).2; omega
      have hn9 : ¬ S9 p := fun hs => by rcases hS9 p hs with h' | h'; exact hn8 h'; have := hPC8.lt; omega
      clear hT9 hF9 hS9 hB8 hPC8 hO8 hg8 hn8
      have hm2 : m2 < 256 := b9
      have hy9 := Lib.hid hst9
      clear hst9
      have hP := Lib.hid (And.intro hB9 (And.intro hPC9 (And.intro hO9 (And.intro hg9 hn9))))
      clear hB9 hPC9 hO9 hg9 hn9
      go_wp2
      go_loopw [26] (fun s26 wr => ∃ (q : Nat) (Sq : Nat → Prop) (u : Value), q ≤ m2 ∧ s26 = .int .i64 (q : Int) ∧ Aside (RWay wB S1 p sb wr Sq (takeMany 16 q st9).2 ∧ PC wr p n1 n2 v u ∧
          wr.ownsRow wB.heap.size 5 1 v j (rowB bl) ∧ wr.ownsRow wB.heap.size 3 1 u q (rowW (takeMany 16 q st9).1) ∧ (∀ g, v.ownBlock = some g → ¬ Sq g) ∧ (∀ g, u.ownBlock = some g → ¬ Sq g ∧ v.ownBlock ≠ some g) ∧ ¬ Sq p))
        (fun s26 _ => m2 - (intOf s26).toNat)
      case atStart => exact ⟨0, S9, .slice none 0 0, Nat.zero_le _, rfl, hP.out.1, hP.out.2.1, hP.out.2.2.1, World.ownsRow_nil _ _ _ _, hP.out.2.2.2.1, fun g hg => by simp [Value.ownBlock] at hg, hP.out.2.2.2.2⟩
      case round =>
        obtain ⟨q, Sq, u, hq, rfl, hA⟩ := hrel
        have hAq := Lib.hid hA
        clear hA hP
        by_cases hlt2 : q < m2
        · obtain ⟨ua, ul, uc, rfl⟩ := ownsRow_slice hAq.out.2.2.2.1
          obtain ⟨va, vl, vc, rfl⟩ := ownsRow_slice hAq.out.2.2.1
          go_wp2
          (refine wp_region_can [[], [0], [], [2], [2, 3], [0, 1, 2, 3, 4], [0, 1, 2, 3, 4, 5], [0, 1, 2, 3, 4, 5, 6]] [.st 0 .pure, .st 1 .keep, .st 2 .drop, .ef 3 [0, 1], .ef 4 [0, 1], .ef 5 [], .st 6 .drop, .ef 7 []] (by kernel_rfl) (by kernel_rfl) ?_; try simp only [Act.put])
          generalize hw5 : World.drew _ = w5
          have hB5 : RWay wB S1 p sb w5 Sq (takeMany 16 q st9).2 := hAq.out.1.keep (fun k hk => by rw [← hw5]; rfl) (by rw [← hw5]; exact hAq.out.1.fr.drew) (by rw [← hw5]; exact Nat.le_refl _)
          have hPC5 : PC w5 p n1 n2 (.slice va vl vc) (.slice ua ul uc) := hAq.out.2.1.block (by rw [← hw5]; rfl)
          have hV5 : w5.ownsRow wB.heap.size 5 1 (.slice va vl vc) j (rowB bl) := by rw [← hw5]; exact hAq.out.2.2.1
          have hO5 : w5.ownsRow wB.heap.size 3 1 (.slice ua ul uc) q (rowW (takeMany 16 q st9).1) := by rw [← hw5]; exact hAq.out.2.2.2.1
          have hv5 := hAq.out.2.2.2.2.1
          have hg5 := hAq.out.2.2.2.2.2.1
          have hn5 := hAq.out.2.2.2.2.2.2
          clear hw5 hAq
          have q2 := hPC5.p3
          have e6 : (takeMany 16 (q + 1) st9) = ((takeMany 16 q st9).1 ++ [takeN (takeMany 16 q st9).2 16], takeS (takeMany 16 q st9).2 16) := rfl
          have hT5 := rtake_c w5 Sq sb (takeMany 16 q st9).2 ⟨#[98, 105, 116]⟩ 16 hB5.at_ (by omega) (by omega)
          generalize takeN (takeMany 16 q st9).2 16 = y at *
          generalize takeS (takeMany 16 q st9).2 16 = st6 at *
          have e6' := Lib.hid e6
          clear e6
          (repeat (first | (refine can_drop rfl rfl (fun K hK => ?_); go_big_quiet_op; refine hK _ ?_; clear hK K) | (refine can_pure ?_ rfl rfl (fun W K hK => ?_) ?_; rotate_left; (focus (go_big_quiet_op; exact hK))) | (refine can_keep rfl rfl (fun K hK => ?_); go_big_quiet_op; refine hK _ ?_; clear hK K) | (refine can_skip rfl rfl ?_; simp only [Act.put, List.setIfInBounds_toArray, List.set_cons_succ, List.set_cons_zero])))
          refine can_ef rfl (fun K hK => ?_)
          go_wp2_with fail
          refine hT5.mono ?_
          rintro e w6 hT6
          obtain ⟨rfl, S6, hB6, hF6, hS6⟩ := hB5.next hT6
          have hPC6 := hPC5.block (hF6.block p hPC5.lt hn5)
          have hV6 := ownsRow_block hV5 (fun g hg => hF6.block g (hV5.lt g hg).2 (hv5 g hg))
          have hO6 := ownsRow_block hO5 (fun g hg => hF6.block g (hO5.lt g hg).2 (hg5 g hg).1)
          have q26 := hPC6.p3
          have hnp6 : ¬ S6 p := fun hs => by rcases hS6 p hs with h' | h'; exact hn5 h'; have := hPC5.lt; omega
          have hv6 : ∀ g, (Value.slice va vl vc).ownBlock = some g → ¬ S6 g := fun g hg hs => by
            rcases hS6 g hs with h' | h'
            · exact hv5 g hg h'
            · have := (hV5.lt g hg).2; omega
          have hg6 : ∀ g, (Value.slice ua ul uc).ownBlock = some g → ¬ S6 g := fun g hg hs => by
            rcases hS6 g hs with h' | h'
            · exact (hg5 g hg).1 h'
            · have := (hO5.lt g hg).2; omega
          have hvu : ∀ g, (Value.slice ua ul uc).ownBlock = some g → (Value.slice va vl vc).ownBlock ≠ some g := fun g hg => (hg5 g hg).2
          have hz6 := hB6.fr.size
          have hpB : p < wB.heap.size := by omega
          have hpl6 : p < w6.heap.size := hPC6.lt
          clear hT5 hT6 hF6 hS6 hB5 hPC5 hO5 hg5 hn5 q2 hV5 hv5
          go_wp2
          refine hK _ _ ⟨?_, ?_⟩; (focus (simp only [ReAll, List.contains_cons, List.contains_nil, Nat.reduceBEq, Bool.or_true, Bool.true_or, Bool.or_false, if_true, Bool.false_eq_true, if_false, and_true, true_and] <;> repeat' (first | trivial | (refine And.intro ?_ ?_) | (unfold YA; go_big_quiet_op; rfl)))); clear hK K
          (repeat (first | (refine can_drop rfl rfl (fun K hK => ?_); go_big_quiet_op; refine hK _ ?_; clear hK K) | (refine can_pure ?_ rfl rfl (fun W K hK => ?_) ?_; rotate_left; (focus (go_big_quiet_op; exact hK))) | (refine can_keep rfl rfl (fun K hK => ?_); go_big_quiet_op; refine hK _ ?_; clear hK K) | (refine can_skip rfl rfl ?_; simp only [Act.put, List.setIfInBounds_toArray, List.set_cons_succ, List.set_cons_zero])))
          refine can_ef rfl (fun K hK => ?_)
          go_wp2
          refine hK _ _ ⟨?_, ?_⟩; (focus (simp only [ReAll, List.contains_cons, List.contains_nil, Nat.reduceBEq, Bool.or_true, Bool.true_or, Bool.or_false, if_true, Bool.false_eq_true, if_false, and_true, true_and] <;> repeat' (first | trivial | (refine And.intro ?_ ?_) | (unfold YA; go_big_quiet_op; rfl)))); clear hK K
          refine can_ef rfl (fun K hK => ?_)
          refine wpList_append_own_at _ rfl _ _ 49 rfl wB.heap.size 3 j0 _ 1 8 Tryd.underlying49 hj0 hj1 hj2 hj3 rfl (by decide) (.slice ua ul uc) _ _ rfl (hO6.alloc _) ⟨w6.heap.size, 0, none⟩ 1 1 [.int .i64 (y : Int)] rfl rfl (cell_one_new _ _ _) (ints_oneCell .i64 [(y : Int)]) (by unfold maxLen; omega) (by omega) (by simp; omega) ?_
          intro v' w7 hown' hgrow hnil hloc
          obtain ⟨sa, sl, sc, rfl⟩ := ownsRow_slice hown'
          go_wp2
          refine hK _ _ ⟨?_, ?_⟩; (focus (simp only [ReAll, List.contains_cons, List.contains_nil, Nat.reduceBEq, Bool.or_true, Bool.true_or, Bool.or_false, if_true, Bool.false_eq_true, if_false, and_true, true_and] <;> repeat' (first | trivial | (refine And.intro ?_ ?_) | (unfold YA; go_big_quiet_op; rfl)))); clear hK K
          have hz7 := hgrow.size
          simp at hz7
          have hvp : (Value.slice ua ul uc).ownBlock ≠ some p := fun e => by have := (hO6.lt p e).1; omega
          have hb7 : ∀ q, q < w6.heap.size → (Value.slice ua ul uc).ownBlock ≠ some q → w7.heap[q]? = w6.heap[q]? := fun q hq hne => by
            rw [hgrow.block q (by simp; omega) (Ne.symm hne)]; exact Below.heap_alloc _ _ _ hq
          have hPC7 := hPC6.block (hb7 p hPC6.lt hvp)
          have q7 := hPC7.p3
          have qf7 := hPC7.fr 3
          have hf7 : Fr (fun k => S1 k ∨ k = p) wB w7 := (hB6.fr.alloc _).grown hgrow (fun q hq => .inr (hO6.lt q hq).1)
          have hV7 := ownsRow_block hV6 (fun g hg => hb7 g (hV6.lt g hg).2 (fun e => hvu g e hg))
          (repeat (first | (refine can_drop rfl rfl (fun K hK => ?_); go_big_quiet_op; refine hK _ ?_; clear hK K) | (refine can_pure ?_ rfl rfl (fun W K hK => ?_) ?_; rotate_left; (focus (go_big_quiet_op; exact hK))) | (refine can_keep rfl rfl (fun K hK => ?_); go_big_quiet_op; refine hK _ ?_; clear hK K) | (refine can_skip rfl rfl ?_; simp only [Act.put, List.setIfInBounds_toArray, List.set_cons_succ, List.set_cons_zero])))
          refine can_ef rfl (fun K hK => ?_)
          go_wp2
          refine hK _ _ ⟨?_, ?_⟩; (focus (simp only [ReAll, List.contains_cons, List.contains_nil, Nat.reduceBEq, Bool.or_true, Bool.true_or, Bool.or_false, if_true, Bool.false_eq_true, if_false, and_true, true_and] <;> repeat' (first | trivial | (refine And.intro ?_ ?_) | (unfold YA; go_big_quiet_op; rfl)))); clear hK K
          refine can_nil ?_
          go_wp2
          have hloc' : ∀ g, (Value.slice sa sl sc).ownBlock = some g → ¬ S6 g ∧ g ≠ p ∧ (Value.slice va vl vc).ownBlock ≠ some g := fun g hg => by
            rcases hloc with h1 | h1
            · rw [h1] at hg; exact ⟨hg6 g hg, fun e => hvp (by rw [← e]; exact hg), hvu g hg⟩
            · rw [h1] at hg; injection hg with hg; simp at hg
              exact ⟨fun hs => by have := hB6.at_.lt g hs; omega, by omega, fun e => by have := (hV6.lt g e).2; omega⟩
          refine ⟨⟨q + 1, S6, .slice sa sl sc, by omega, by go_num, ?_, hPC7.set3, ?_, ?_, hv6, fun g hg => ⟨(hloc' g hg).1, (hloc' g hg).2.2⟩, hnp6⟩, by simp [intOf]; omega⟩
          · rw [e6'.out]
            refine hB6.keep (fun k hk => ?_) (hf7.setCell (p := ⟨p, 3, none⟩) (.inl (.inr rfl)) _) (by simp; omega)
            rw [Below.heap_setCell _ _ _ _ (fun e => by subst e; exact hnp6 hk)]
            exact hb7 k (hB6.at_.lt k hk) (fun e => hg6 k e hk)
          · exact ownsRow_block hV7 (fun g hg => Below.heap_setCell _ _ _ _ (fun e => by have e' : g = p := e; have := (hV6.lt g hg).1; omega))
          · rw [e6'.out]
            have e : rowW ((takeMany 16 q st9).1 ++ [y]) = rowW (takeMany 16 q st9).1 ++ [Value.int .i64 (y : Int)] := by simp [rowW]
            show World.ownsRow _ _ _ _ _ _ (rowW ((takeMany 16 q st9).1 ++ [y]))
            rw [e]
            exact ownsRow_block hown' (fun g hg => Below.heap_setCell _ _ _ _ (hloc' g hg).2.1)
        · obtain rfl : q = m2 := by omega
          have hBf := hAq.out.1
          have hPf := hAq.out.2.1
          have c0 := hPf.p0
          have c1 := hPf.p1
          have c2 := hPf.p2
          have c3 := hPf.p3
          obtain ⟨va, vl, vc, rfl⟩ := ownsRow_slice hAq.out.2.2.1
          obtain ⟨ua, ul, uc, rfl⟩ := ownsRow_slice hAq.out.2.2.2.1
          have hrB : w.heap.size < wB.heap.size := by
            have h1 := hx.out.1; have h2 := hx.out.2.1.size; have h3 := hpe'.out; rw [h1] at h2; simp at h2; omega
          have hnr : ¬ S1 w.heap.size := fun hs => by
            rcases hx.out.2.2.1 _ hs with h' | h'
            · have := h.lt _ h'; omega
            · rw [hx.out.1] at h'; simp at h'; omega
          have hrp : w.heap.size ≠ p := fun e => by
            have h1 := hx.out.1; have h2 := hx.out.2.1.size; have h3 := hpe'.out; rw [h1] at h2; simp at h2; omega
          have hblk : wr.heap[w.heap.size]? = wB.heap[w.heap.size]? := hBf.fr.block _ hrB (by rintro (h' | h'); exact hnr h'; exact hrp h')
          have hrb : rB st = (bl, st8) := by
            unfold rB rM rS3
            rw [hy.out.1, hy.out.2.1, hy.out.2.2, hme'.out]; exact htb'.out
          have hra : rA st = takeMany 16 q st9 := by
            unfold rA; rw [hrb]
            simp only
            rw [hm2'.out, hy9.out]
          have hw0c : w0.heap[w.heap.size]? = some (.cells #[.int .i64 0, .int .i64 0, .slice none 0 0, .slice none 0 0] 52 (0, 0)) := by rw [hx.out.1]; exact heap_alloc_new w _
          have hwr : wr.heap[w.heap.size]? = some (.cells #[.int .i64 0, .int .i64 0, .slice none 0 0, .slice none 0 0] 52 (0, 0)) := by
            rw [hblk, hx.out.2.2.2]
            have hs1 : w.heap.size < w1.heap.size := by rw [hpe'.out]; have h1 := hx.out.1; have h2 := hx.out.2.1.size; have h3 := hpe'.out; rw [h1] at h2; simp at h2; omega
            rw [Below.heap_alloc _ _ _ hs1]
            rw [hx.out.2.1.block _ (by rw [hx.out.1]; simp) (fun hs => by have := h.lt _ hs; omega)]
            exact hw0c
          have r0 : wr.cell? ⟨w.heap.size, 0, none⟩ = some (.int .i64 0) := by simp [World.cell?, hwr]
          have r1 : wr.cell? ⟨w.heap.size, 1, none⟩ = some (.int .i64 0) := by simp [World.cell?, hwr]
          have r2 : wr.cell? ⟨w.heap.size, 2, none⟩ = some (.slice none 0 0) := by simp [World.cell?, hwr]
          have r3 : wr.cell? ⟨w.heap.size, 3, none⟩ = some (.slice none 0 0) := by simp [World.cell?, hwr]
          have rf : ∀ k, wr.frozen? ⟨w.heap.size, k, none⟩ = false := fun k => by simp [World.frozen?, hwr]
          have hend := Lib.hid (And.intro hra (And.intro hrb hwr))
          clear hra hrb hwr hblk hw0c
          have hAq2 := Lib.hid hAq.out
          have hsr := hBf.at_
          generalize hst10 : (takeMany 16 q st9).2 = st10 at hsr
          have hst10' := Lib.hid hst10
          clear hst10 hBf hPf hAq
          generalize hre : w.heap.size = r at *
          have hre' := Lib.hid hre
          clear hre
          cases st10 with
          | ok rest =>
            obtain ⟨R, rb, s0, s1, sf, hrest⟩ := hsr
            clear hrest
            go_wp2
            refine bodyPost_ret (v := .tuple #[.agg #[.int .i64 (n1 : Int), .int .i64 (n2 : Int), .slice va vl vc, .slice ua ul uc], .nilIface]) ?_ rfl ?_
            · rw [results_cell_tmp rfl]
              simp [go_sem, asAddr, Result.andThen, r0, r1, r2, r3]
            · generalize hwf : World.setCell _ _ _ = wf
              have hbs : ∀ k, k ≠ r → wf.heap[k]? = wr.heap[k]? := fun k hk => by
                rw [← hwf, Below.heap_setCell _ _ _ _ hk, Below.heap_setCell _ _ _ _ hk, Below.heap_setCell _ _ _ _ hk, Below.heap_setCell _ _ _ _ hk]
              have hzf : wr.heap.size ≤ wf.heap.size := by rw [← hwf]; simp
              have hfz : Fr (fun k => k = r) wr wf := by
                rw [← hwf]
                exact Fr.setCell (S := fun k => k = r) (p := ⟨r, 3, none⟩) (Fr.setCell (S := fun k => k = r) (p := ⟨r, 2, none⟩) (Fr.setCell (S := fun k => k = r) (p := ⟨r, 1, none⟩) (Fr.setCell (S := fun k => k = r) (p := ⟨r, 0, none⟩) (Fr.refl _ wr) (.inl rfl) _) (.inl rfl) _) (.inl rfl) _) (.inl rfl) _
              clear hwf
              have hre := hre'.out
              have f0 : Fr S w w0 := by rw [hx.out.1]; exact (Fr.refl S w).alloc _
              have hz0 : w0.heap.size = r + 1 := by rw [hx.out.1]; simp; omega
              have f1 : Fr S w w1 := f0.trans hx.out.2.1 (fun k hk => .inl hk)
              have hpz := hpe'.out
              have hz1 := hx.out.2.1.size
              have fB : Fr S w wB := by rw [hx.out.2.2.2]; exact f1.alloc _
              have hgrow : ∀ k, S1 k → S k ∨ r ≤ k := fun k hk => by rcases hx.out.2.2.1 k hk with h' | h'; exact .inl h'; right; omega
              have fr' : Fr S w wr := fB.trans hAq2.out.1.fr (fun k hk => by
                rcases hk with hk | hk
                · rcases hgrow k hk with h' | h'
                  · exact .inl h'
                  · right; omega
                · right; omega)
              have ff : Fr S w wf := fr'.trans hfz (fun k hk => by right; omega)
              have hSr : ¬ Sq r := fun hs => by
                rcases hAq2.out.1.gr r hs with h' | h'
                · exact hnr h'
                · omega
              have hAt := hAq2.out.1.at_.keep (w' := wf) (fun k hk => hbs k (fun e => by subst e; exact hSr hk)) hzf
              have hrow : ∀ {u : Value} {n : Nat} {xs : List Value} {T : TypeId}, wr.ownsRow wB.heap.size T 1 u n xs → wf.ownsRow r T 1 u n xs := fun {u n xs T} ho =>
                ownsRow_base (base' := r) (ownsRow_block ho (fun g hg => hbs g (fun e => by have := (ho.lt g hg).1; omega))) (fun g hg => by have := (ho.lt g hg).1; omega)
              have hA2 : (rA st).2 = .ok rest := by rw [hend.out.1]; exact hst10'.out
              have e1 : (rB st).1 = bl := by rw [hend.out.2.1]
              have e2 : (rA st).1 = (takeMany 16 q st9).1 := by rw [hend.out.1]
              refine ⟨Sq, _, _, rfl, ?_, ff, fun k hk => ?_, ?_⟩
              · rw [hend.out.1]; exact hAt
              · rcases hAq2.out.1.gr k hk with h' | h'
                · rcases hgrow k h' with h'' | h''
                  · exact .inl h''
                  · right; omega
                · right; omega
              · rw [hA2]
                refine ⟨rfl, .slice va vl vc, .slice ua ul uc, ?_, ?_, ?_, hAq2.out.2.2.2.2.1, fun g hg => (hAq2.out.2.2.2.2.2.1 g hg).1⟩
                · rw [hn1'.out, hy.out.1, hn2'.out]
                · rw [e1, hlb, hre]; exact hrow hAq2.out.2.2.1
                · rw [e2, takeMany_len, hre]; exact hrow hAq2.out.2.2.2.1
          | bad k =>
            obtain ⟨e', s1, s2, hrest⟩ := hsr
            clear hrest
            go_wp2
            (refine wp_region_can [[], [], [1], [1, 2], [1, 2, 3], [1, 2, 3, 4], [1, 2, 3, 4, 5], [0], [0, 1, 2, 3, 4, 5, 6, 7]] [.st 0 .drop, .st 1 .pure, .st 2 .pure, .st 3 .pure, .st 4 .keep, .st 5 .pure, .st 6 .pure, .ef 7 [1, 2, 3, 4, 5, 6], .st 8 .drop] (by kernel_rfl) (by kernel_rfl) ?_; try simp only [Act.put])
            generalize hw9 : World.drew _ = w9
            have s19 : w9.cell? ⟨sb, 1, none⟩ = some (.iface 73 (.pointer (some ⟨e', 0, none⟩))) := by rw [← hw9]; exact s1
            have r09 : w9.cell? ⟨r, 0, none⟩ = some (.int .i64 0) := by rw [← hw9]; exact r0
            have r19 : w9.cell? ⟨r, 1, none⟩ = some (.int .i64 0) := by rw [← hw9]; exact r1
            have r29 : w9.cell? ⟨r, 2, none⟩ = some (.slice none 0 0) := by rw [← hw9]; exact r2
            have r39 : w9.cell? ⟨r, 3, none⟩ = some (.slice none 0 0) := by rw [← hw9]; exact r3
            have rf9 : ∀ k : Nat, w9.frozen? ⟨r, k, none⟩ = false := fun k => by rw [← hw9]; exact rf k
            have hf9 : Fr (fun k => k = r) wr w9 := by rw [← hw9]; exact (Fr.refl _ wr).drew
            have hb9 : ∀ k : Nat, w9.heap[k]? = wr.heap[k]? := fun k => by rw [← hw9]; rfl
            clear hw9 s1 r0 r1 r2 r3 rf
            have hnsr : sb ≠ r := fun e => by rw [e, r19] at s19; cases s19
            (repeat (first | (refine can_drop rfl rfl (fun K hK => ?_); go_big_quiet_op; refine hK _ ?_; clear hK K) | (refine can_pure ?_ rfl rfl (fun W K hK => ?_) ?_; rotate_left; (focus (go_big_quiet_op; exact hK))) | (refine can_keep rfl rfl (fun K hK => ?_); go_big_quiet_op; refine hK _ ?_; clear hK K) | (refine can_skip rfl rfl ?_; simp only [Act.put, List.setIfInBounds_toArray, List.set_cons_succ, List.set_cons_zero])))
            refine can_ef rfl (fun K hK => ?_)
            go_wp2
            refine hK _ _ ⟨?_, ?_⟩; (focus (simp only [ReAll, List.contains_cons, List.contains_nil, Nat.reduceBEq, Bool.or_true, Bool.true_or, Bool.or_false, if_true, Bool.false_eq_true, if_false, and_true, true_and] <;> repeat' (first | trivial | (refine And.intro ?_ ?_) | (unfold YA; go_big_quiet_op; rfl)))); clear hK K
            (repeat (first | (refine can_drop rfl rfl (fun K hK => ?_); go_big_quiet_op; refine hK _ ?_; clear hK K) | (refine can_pure ?_ rfl rfl (fun W K hK => ?_) ?_; rotate_left; (focus (go_big_quiet_op; exact hK))) | (refine can_keep rfl rfl (fun K hK => ?_); go_big_quiet_op; refine hK _ ?_; clear hK K) | (refine can_skip rfl rfl ?_; simp only [Act.put, List.setIfInBounds_toArray, List.set_cons_succ, List.set_cons_zero])))
            refine can_nil ?_
            go_wp2
            refine bodyPost_ret (v := .tuple #[.agg #[.int .i64 0, .int .i64 0, .slice none 0 0, .slice none 0 0], .iface 90 (.agg #[.iface 73 (.pointer (some ⟨e', 0, none⟩))])]) ?_ rfl ?_
            · rw [results_cell_tmp rfl]
              simp [go_sem, asAddr, Result.andThen, r09, r19, r29, r39]
            · generalize hwf : World.setCell _ _ _ = wf
              have hbs : ∀ k : Nat, k ≠ r → wf.heap[k]? = wr.heap[k]? := fun k hk => by
                rw [← hwf, Below.heap_setCell _ _ _ _ hk, Below.heap_setCell _ _ _ _ hk, Below.heap_setCell _ _ _ _ hk, Below.heap_setCell _ _ _ _ hk]; exact hb9 k
              have hfz : Fr (fun k => k = r) wr wf := by
                rw [← hwf]
                exact Fr.setCell (S := fun k => k = r) (p := ⟨r, 3, none⟩) (Fr.setCell (S := fun k => k = r) (p := ⟨r, 2, none⟩) (Fr.setCell (S := fun k => k = r) (p := ⟨r, 1, none⟩) (Fr.setCell (S := fun k => k = r) (p := ⟨r, 0, none⟩) hf9 (.inl rfl) _) (.inl rfl) _) (.inl rfl) _) (.inl rfl) _
              have hzf : wr.heap.size ≤ wf.heap.size := hfz.size
              clear hwf
              have hre := hre'.out
              have f0 : Fr S w w0 := by rw [hx.out.1]; exact (Fr.refl S w).alloc _
              have hz0 : w0.heap.size = r + 1 := by rw [hx.out.1]; simp; omega
              have f1 : Fr S w w1 := f0.trans hx.out.2.1 (fun k hk => .inl hk)
              have hpz := hpe'.out
              have hz1 := hx.out.2.1.size
              have fB : Fr S w wB := by rw [hx.out.2.2.2]; exact f1.alloc _
              have hgrow : ∀ k, S1 k → S k ∨ r ≤ k := fun k hk => by rcases hx.out.2.2.1 k hk with h' | h'; exact .inl h'; right; omega
              have fr' : Fr S w wr := fB.trans hAq2.out.1.fr (fun k hk => by
                rcases hk with hk | hk
                · rcases hgrow k hk with h' | h'
                  · exact .inl h'
                  · right; omega
                · right; omega)
              have ff : Fr S w wf := fr'.trans hfz (fun k hk => by right; omega)
              have hSr : ¬ Sq r := fun hs => by
                rcases hAq2.out.1.gr r hs with h' | h'
                · exact hnr h'
                · omega
              have hAt := hAq2.out.1.at_.keep (w' := wf) (fun k hk => hbs k (fun e => by subst e; exact hSr hk)) hzf
              have hA2 : (rA st).2 = .bad k := by rw [hend.out.1]; exact hst10'.out
              refine ⟨Sq, _, _, rfl, ?_, ff, fun q' hq' => ?_, ?_⟩
              · rw [hend.out.1]; exact hAt
              · rcases hAq2.out.1.gr q' hq' with h' | h'
                · rcases hgrow q' h' with h'' | h''
                  · exact .inl h''
                  · right; omega
                · right; omega
              · rw [hA2]
                refine ⟨rfl, e', rfl, ?_⟩
                have he := hAq2.out.1.at_
                rw [hst10'.out] at he
                obtain ⟨e'', t1, t2, t3, t4, t5⟩ := he
                have s19' := s19
                rw [World.cell?_of_block (w := wr) (a := ⟨sb, 1, none⟩) (hb9 sb), t1] at s19'
                have e1 : e'' = e' := by injection s19' with s19; injection s19 with _ s19; injection s19 with s19; injection s19 with s19; injection s19
                refine ⟨?_, by rw [← e1]; exact t3⟩
                rw [World.cell?_of_block (w := wr) (a := ⟨e', 1, none⟩) (hbs e' (fun e => hSr (by rw [← e, ← e1]; exact t3)))]
                exact s2
#print axioms rstep_c
end Go.Proofs.YtkmknpobinpegaaDoor
