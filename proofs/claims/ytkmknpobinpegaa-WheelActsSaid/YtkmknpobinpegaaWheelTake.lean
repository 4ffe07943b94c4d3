/- (*Wheel).take: the number isn't due any more; was it? -/
import Derived.Test.YtkmknpobinpegaaWheelMem
import Derived.Test.YtkmknpobinpegaaReg
import Derived.Test.YtkmknpobinpegaaShelf19
import Derived.Deep.QuietTactic
import Derived.BigQuiet
import Derived.Outline
import Derived.Lib.SliceRun
namespace Go.Proofs.Ytkmknpobinpegaa
set_option linter.unusedSimpArgs false
set_option linter.unusedVariables false
open Go Go.RowKit Go.Maps Go.Sort Go.Lib Go.Shelf

/-- What such a call leaves: its answer, the wheel, the frame. -/
def WheelPost (w : World) (S : Nat → Prop) (b now : Nat) (L : WL) (v : Value) (e : Ending) (w' : World) : Prop :=
  e = .returned v ∧ ∃ S', WheelAt w' S' b now L ∧ Fr S w w' ∧ ∀ k, S' k → S k ∨ w.heap.size ≤ k

theorem eq_c (b : Nat) (a x : Int) (w : World) (h0 : w.cell? ⟨b, 0, none⟩ = some (.int .u16 a)) : Calls Try.prog 20 #[.int .u16 x, .pointer (some ⟨b, 0, none⟩)] w fun e w' => e = .returned (.bool (x == a)) ∧ w' = w := by
  go_enter Try.func20, Try.ntmps20
  go_wp2
  go_ret
  exact ⟨rfl, rfl⟩

theorem cast_beq (x a : Nat) : ((x : Int) == (a : Int)) = (x == a) := by
  rw [Bool.eq_iff_iff, beq_iff_eq, beq_iff_eq]; omega

theorem eq_gives (B a x : Nat) (W : World) (hc : W.cell? ⟨B, 0, none⟩ = some (.int .u16 (a : Int))) :
    FnGives Try.prog 20 #[.pointer (some ⟨B, 0, none⟩)] #[encA x] (.bool (x == a)) W := by
  show Calls Try.prog 20 #[.int .u16 (x : Int), .pointer (some ⟨B, 0, none⟩)] W _
  refine (eq_c B a x W hc).mono ?_
  rintro e w' ⟨rfl, rfl⟩
  exact ⟨by rw [cast_beq], 0, rfl⟩

theorem del_c (B a g cap : Nat) (xs : List Nat) (w : World) (hB : w.cell? ⟨B, 0, none⟩ = some (.int .u16 (a : Int))) (hne : B ≠ g) (hH : Holds encA w g 0 xs.toArray) (hl : xs.length ≤ 9223372036854775807) (hcap : xs.length ≤ cap) :
    Calls Try.prog 19 #[.slice (some ⟨g, 0, none⟩) xs.length cap, .func (.func 20) #[] #[.pointer (some ⟨B, 0, none⟩)]] w fun e w' =>
      e = .returned (.slice (some ⟨g, 0, none⟩) (xs.filter fun x => !(x == a)).length cap) ∧
      ∃ q, w' = putRow encA (Sort.ahead w q) g 0 ((xs.filter fun x => !(x == a)) ++ List.replicate (xs.length - (xs.filter fun x => !(x == a)).length) 0).toArray := by
  have eg : ∀ args w, (callFunc 20 args).run Try.prog w = .ok (.enter 20 args) w := enters_of Try.func20 (by kernel_rfl) rfl
  have hBl := lt_of_cell hB
  have h := AnyE.slices_DeleteFunc Try.layDel encA (fun _ => rfl) (fun x => x == a) 20 #[.pointer (some ⟨B, 0, none⟩)] eg 0 Try.zeroValue29 g 0 cap xs.toArray w
    (fun W x hb => eq_gives B a x W ((hb.cell (p := ⟨B, 0, none⟩) hBl).trans hB))
    (fun n os dk x _ => eq_gives B a x _ (by
      unfold sortWorld
      rw [cell?_grow _ _ _ (by show B < (putRow _ _ _ _ _).heap.size; rw [size_putRow]; exact hBl), cell?_putRow_other _ _ g 0 _ _ (Or.inl hne)]
      exact hB)) hH (by simpa using hl) (by simpa using hcap)
  simp only [List.size_toArray] at h
  exact h

set_option maxHeartbeats 1000000 in
theorem take_yes (w : World) (S : Nat → Prop) (b now : Nat) (L : WL) (a t : Nat) (h : WheelAt w S b now L) (ha : a < 65536) (hn : now ≤ 1000000) (hm : (a, t) ∈ L) :
    Calls Try.prog 17 #[.pointer (some ⟨b, 0, none⟩), .int .u16 (a : Int)] w (WheelPost w S b now (dropL L a) (.bool true)) := by
  obtain ⟨bm, D, vs, xs, H⟩ := h
  have hhas : Maps.has D (.int .u16 (a : Int)) = true := by rw [H.hs a ha]; exact hasL_iff.2 ⟨t, hm⟩
  have hkey := keyOf_int_mk Try.underlying29 (a := (a : Int)) (WalkArith.wf_u16 (by omega))
  have ht : t ≤ 2000000 := by have := H.hi _ hm; simp at this; omega
  have hk32 : t % 32 < 32 := by omega
  have hat0 := H.at_ _ hm
  have hbl : b < w.heap.size := H.lt b H.sb
  go_enter Try.func17, Try.ntmps17
  go_wp2
  (refine wp_region_can [[], [0], [0, 1], [0, 1, 2], [], [0, 1, 2, 3, 4], [0, 1, 2, 3, 4, 5], [0, 1, 2, 3, 4, 5, 6], [0, 1, 2, 3, 4, 5, 6], [0, 1, 2, 3, 4, 5, 6, 7], [0, 1, 2, 3, 4, 5, 6, 7, 8, 9]] [.st 0 .drop, .st 1 .drop, .st 2 .drop, .st 3 .drop, .st 4 .drop, .ef 5 [], .st 6 .drop, .st 7 .drop, .st 8 .drop, .st 9 .drop, .st 10 .drop] (by kernel_rfl) (by kernel_rfl) ?_; try simp only [Act.put])
  generalize hw1 : World.drew _ = w1
  have f1 : Fr S w w1 := by rw [← hw1]; exact ((Fr.refl _ _).alloc _).drew
  have hx1 : w1.cell? ⟨w.heap.size, 0, none⟩ = some (.int .u16 (a : Int)) := by rw [← hw1]; exact cell_drew_new _ _ _
  have hz1 : w1.heap.size = w.heap.size + 1 := by rw [← hw1]; simp
  have H1 := H.keep (w' := w1) (fun k hk => by rw [← hw1]; exact Below.heap_alloc w _ k (H.lt k hk)) f1.size
  have hb1 : ∀ k, k < w.heap.size → w1.heap[k]? = w.heap[k]? := fun k hk => by rw [← hw1]; exact Below.heap_alloc w _ k hk
  clear hw1
  have c1 := H1.c1
  have hmx : a ∈ xs (t % 32) := (H.perm _ hk32).mem_iff.2 (List.mem_map.2 ⟨(a, t), List.mem_filter.2 ⟨hm, by simp⟩, rfl⟩)
  have hO := H1.own _ hk32
  have hvn : vs (t % 32) ≠ .slice none 0 0 := fun e => by
    rcases hO.2 with ⟨_, h0⟩ | ⟨_, _, _, h0, _⟩
    · have := List.length_pos_of_mem hmx; omega
    · rw [e] at h0; cases h0
  obtain ⟨g, cap, hv, _, hgl, hnc, hcm, _, hH⟩ := holds_of_ownsRow (enc := encA) (zs := xs (t % 32)) hO hvn
  unfold maxLen at hcm
  have cv := H1.cs _ hk32
  rw [hv] at cv hO
  have hg : (vs (t % 32)).ownBlock = some g := by rw [hv]; rfl
  obtain ⟨hSg, hgb, hgm⟩ := H.sv _ _ hk32 hg
  have hgw := H.lt g hSg
  have hdel := del_c w.heap.size a g cap (xs (t % 32)) w1 hx1 (by omega) hH (by omega) hnc
  (repeat (first | (refine can_drop rfl rfl (fun K hK => ?_); go_big_quiet_op; refine hK _ ?_; clear hK K) | (refine can_pure ?_ rfl rfl (fun W K hK => ?_) ?_; rotate_left; (focus (go_big_quiet_op; exact hK))) | (refine can_keep rfl rfl (fun K hK => ?_); go_big_quiet_op; refine hK _ ?_; clear hK K) | (refine can_skip rfl rfl ?_; simp only [Act.put, List.setIfInBounds_toArray, List.set_cons_succ, List.set_cons_zero])))
  refine can_ef rfl (fun K hK => ?_)
  go_wp2_with (at_lookup; refine wpList_lookup_own_ok_int _ rfl _ _ 48 rfl 29 3 .i64 lawK Try.underlying48 Try.underlying3 (zeroInt _) bm _ D rfl H1.map _ _ rfl hkey ?_; intro c hat hwc; obtain rfl : c = (t : Int) := by (have e := hat.symm.trans hat0; injection e with e; injection e))
  refine hK _ _ ⟨?_, ?_⟩; (focus (simp only [ReAll, List.contains_cons, List.contains_nil, Nat.reduceBEq, Bool.or_true, Bool.true_or, Bool.or_false, if_true, Bool.false_eq_true, if_false, and_true, true_and] <;> repeat' (first | trivial | (refine And.intro ?_ ?_) | (unfold YA; go_big_quiet_op; rfl)))); clear hK K
  (repeat (first | (refine can_drop rfl rfl (fun K hK => ?_); go_big_quiet_op; refine hK _ ?_; clear hK K) | (refine can_pure ?_ rfl rfl (fun W K hK => ?_) ?_; rotate_left; (focus (go_big_quiet_op; exact hK))) | (refine can_keep rfl rfl (fun K hK => ?_); go_big_quiet_op; refine hK _ ?_; clear hK K) | (refine can_skip rfl rfl ?_; simp only [Act.put, List.setIfInBounds_toArray, List.set_cons_succ, List.set_cons_zero])))
  refine can_nil ?_
  have HH := Lib.hid hH
  clear hH
  go_wp2_with fail
  refine hdel.mono ?_
  rintro e w2 ⟨rfl, q, hw2⟩
  have cv2 : w2.cell? ⟨b, 2 + t % 32, none⟩ = some (.slice (some ⟨g, 0, none⟩) (xs (t % 32)).length cap) := by
    rw [hw2, cell?_putRow_other _ _ _ _ _ _ (Or.inl (Ne.symm hgb))]; exact cv
  have fv2 : w2.frozen? ⟨b, 2 + t % 32, none⟩ = false := by rw [hw2, frozen?_putRow]; exact H1.fr _
  have HW2 := Lib.hid hw2
  clear hw2
  go_wp2
  (refine wp_region_can [[], [0], [0, 1], [0, 1, 2], [], [0, 1, 2, 3, 4]] [.st 0 .drop, .st 1 .drop, .st 2 .drop, .st 3 .drop, .st 4 .drop, .ef 5 []] (by kernel_rfl) (by kernel_rfl) ?_; try simp only [Act.put])
  generalize hw3 : World.drew _ = w3
  have hbw2 : ∀ k, k ≠ g → w2.heap[k]? = w1.heap[k]? := fun k hk => by
    rw [HW2.out]; simp [putRow, mapBlock, Sort.ahead, Array.getElem?_modify, Ne.symm hk]
  have hbw3 : ∀ k, k ≠ b → w3.heap[k]? = w2.heap[k]? := fun k hk => by rw [← hw3]; exact Below.heap_setCell _ _ _ _ hk
  have hz2 : w2.heap.size = w1.heap.size := by rw [HW2.out, size_putRow]; rfl
  have hz3 : w3.heap.size = w2.heap.size := by rw [← hw3]; simp
  have hc3 : ∀ k, k ≠ 2 + t % 32 → w3.cell? ⟨b, k, none⟩ = w1.cell? ⟨b, k, none⟩ := fun k hk => by
    rw [← World.cell?_of_block (w := w1) (w' := w2) (a := ⟨b, k, none⟩) (hbw2 b (Ne.symm hgb)), ← hw3]
    exact World.cell?_setCell_other _ _ _ _ (fun e => by injection e with _ e _; exact hk e.symm)
  have hcv3 : w3.cell? ⟨b, 2 + t % 32, none⟩ = some (.slice (some ⟨g, 0, none⟩) ((xs (t % 32)).filter fun x => !(x == a)).length cap) := by
    rw [← hw3]; exact World.cell?_setCell_same _ _ _ cv2
  have hf3 : ∀ k, w3.frozen? ⟨b, k, none⟩ = false := fun k => by
    rw [← hw3]
    show (w2.setCell _ _).frozen? _ = _
    rw [World.frozen?_setCell, World.frozen?_of_block (w := w1) (w' := w2) (a := ⟨b, k, none⟩) (hbw2 b (Ne.symm hgb))]
    exact H1.fr k
  have f3 : Fr S w w3 := by
    have f2 : Fr S w w2 := by rw [HW2.out]; exact (f1.ahead q).putRow (.inl hSg)
    rw [← hw3]
    exact (f2.setCell (p := ⟨b, 2 + t % 32, none⟩) (.inl H.sb) _).drew
  have hx3 : w3.cell? ⟨w.heap.size, 0, none⟩ = some (.int .u16 (a : Int)) := by
    rw [World.cell?_of_block (w := w1) (w' := w3) (a := ⟨w.heap.size, 0, none⟩) (by rw [hbw3 _ (by simp; omega), hbw2 _ (by simp; omega)])]; exact hx1
  have hM3 := ownsMap_block (w' := w3) H1.map (by rw [hbw3 _ H.ne, hbw2 _ (Ne.symm hgm)])
  have hO3 : w3.ownsRow 0 29 1 (.slice (some ⟨g, 0, none⟩) ((xs (t % 32)).filter fun x => !(x == a)).length cap) ((xs (t % 32)).filter fun x => !(x == a)).length (row ((xs (t % 32)).filter fun x => !(x == a))) := by
    have hle := List.length_filter_le (fun x => !(x == a)) (xs (t % 32))
    have h1 := ownsRow_putRow (enc := encA) (zs := xs (t % 32)) (ys := ((xs (t % 32)).filter fun x => !(x == a)) ++ List.replicate ((xs (t % 32)).length - ((xs (t % 32)).filter fun x => !(x == a)).length) 0) (q := q) hO (by simp; omega) hle
    rw [List.take_left] at h1
    rw [← HW2.out] at h1
    exact ownsRow_block h1 (fun k hk => by injection hk with hk; subst hk; exact hbw3 _ hgb)
  have c3 : w3.cell? ⟨b, 1, none⟩ = some (.map (some bm)) := by rw [hc3 1 (by omega)]; exact c1
  clear hw3 cv2 fv2
  (repeat (first | (refine can_drop rfl rfl (fun K hK => ?_); go_big_quiet_op; refine hK _ ?_; clear hK K) | (refine can_pure ?_ rfl rfl (fun W K hK => ?_) ?_; rotate_left; (focus (go_big_quiet_op; exact hK))) | (refine can_keep rfl rfl (fun K hK => ?_); go_big_quiet_op; refine hK _ ?_; clear hK K) | (refine can_skip rfl rfl ?_; simp only [Act.put, List.setIfInBounds_toArray, List.set_cons_succ, List.set_cons_zero])))
  refine can_ef rfl (fun K hK => ?_)
  go_wp2_with (at_delete; refine wpList_delete_own _ rfl _ _ 48 29 rfl 3 lawK Try.underlying48 _ bm _ D rfl hM3 _ _ rfl hkey ?_; intro w4 hown4 hturn4)
  refine hK _ _ ⟨?_, ?_⟩; (focus (simp only [ReAll, List.contains_cons, List.contains_nil, Nat.reduceBEq, Bool.or_true, Bool.true_or, Bool.or_false, if_true, Bool.false_eq_true, if_false, and_true, true_and] <;> repeat' (first | trivial | (refine And.intro ?_ ?_) | (unfold YA; go_big_quiet_op; rfl)))); clear hK K
  refine can_nil ?_
  go_wp2
  go_ret
  have hg4 := hturn4.grown
  have f4 : Fr S w w4 := f3.grown hg4 (fun k hk => by injection hk with hk; subst hk; exact .inl H.sm)
  have hb4 : ∀ k, k < w3.heap.size → k ≠ bm → w4.heap[k]? = w3.heap[k]? := fun k hk hne => hg4.block k hk (fun e => by injection e with e; exact hne e)
  have hb3 : b < w3.heap.size := lt_of_cell c3
  have e4 : w4.heap[b]? = w3.heap[b]? := hb4 b hb3 (Ne.symm H.ne)
  have hgl3 : g < w3.heap.size := by omega
  refine ⟨rfl, S, ⟨bm, _, _, _, H.taken (w' := w4) ha hm hg (v' := .slice (some ⟨g, 0, none⟩) ((xs (t % 32)).filter fun x => !(x == a)).length cap) rfl ?_ ?_ ?_ ?_ f4.size ?_ hown4⟩, f4, fun k hk => .inl hk⟩
  · intro k hk
    rw [World.cell?_of_block (w := w3) (w' := w4) (a := ⟨b, k, none⟩) e4, hc3 k hk]
    exact World.cell?_of_block (w := w) (a := ⟨b, k, none⟩) (hb1 b hbl)
  · rw [World.cell?_of_block (w := w3) (w' := w4) (a := ⟨b, 2 + t % 32, none⟩) e4]; exact hcv3
  · intro k; rw [World.frozen?_of_block (w := w3) (w' := w4) (a := ⟨b, k, none⟩) e4]; exact hf3 k
  · intro k hS h1 h2 h3
    have := H.lt k hS
    rw [hb4 k (by omega) h2, hbw3 k h1, hbw2 k h3]
    exact hb1 k this
  · exact ownsRow_block hO3 (fun k hk => by injection hk with hk; subst hk; exact hb4 _ hgl3 hgm)

set_option maxHeartbeats 1000000 in
theorem take_no (w : World) (S : Nat → Prop) (b now : Nat) (L : WL) (a : Nat) (h : WheelAt w S b now L) (ha : a < 65536) (hm : hasL L a = false) :
    Calls Try.prog 17 #[.pointer (some ⟨b, 0, none⟩), .int .u16 (a : Int)] w (WheelPost w S b now L (.bool false)) := by
  obtain ⟨bm, D, vs, xs, H⟩ := h
  have hhas : Maps.has D (.int .u16 (a : Int)) = false := by rw [H.hs a ha]; exact hm
  have hkey := keyOf_int_mk Try.underlying29 (a := (a : Int)) (WalkArith.wf_u16 (by omega))
  have hbl : b < w.heap.size := H.lt b H.sb
  go_enter Try.func17, Try.ntmps17
  go_wp2
  (refine wp_region_can [[], [0], [0, 1], [0, 1, 2], [], [0, 1, 2, 3, 4], [0, 1, 2, 3, 4, 5], [0, 1, 2, 3, 4, 5, 6], [0, 1, 2, 3, 4, 5, 6], [0, 1, 2, 3, 4, 5, 6, 7], [0, 1, 2, 3, 4, 5, 6, 7, 8, 9]] [.st 0 .drop, .st 1 .drop, .st 2 .drop, .st 3 .drop, .st 4 .drop, .ef 5 [], .st 6 .drop, .st 7 .drop, .st 8 .drop, .st 9 .drop, .st 10 .drop] (by kernel_rfl) (by kernel_rfl) ?_; try simp only [Act.put])
  generalize hw1 : World.drew _ = w1
  have f1 : Fr S w w1 := by rw [← hw1]; exact ((Fr.refl _ _).alloc _).drew
  have hx1 : w1.cell? ⟨w.heap.size, 0, none⟩ = some (.int .u16 (a : Int)) := by rw [← hw1]; exact cell_drew_new _ _ _
  have H1 := H.keep (w' := w1) (fun k hk => by rw [← hw1]; exact Below.heap_alloc w _ k (H.lt k hk)) f1.size
  clear hw1
  have c1 := H1.c1
  (repeat (first | (refine can_drop rfl rfl (fun K hK => ?_); go_big_quiet_op; refine hK _ ?_; clear hK K) | (refine can_pure ?_ rfl rfl (fun W K hK => ?_) ?_; rotate_left; (focus (go_big_quiet_op; exact hK))) | (refine can_keep rfl rfl (fun K hK => ?_); go_big_quiet_op; refine hK _ ?_; clear hK K) | (refine can_skip rfl rfl ?_; simp only [Act.put, List.setIfInBounds_toArray, List.set_cons_succ, List.set_cons_zero])))
  refine can_ef rfl (fun K hK => ?_)
  go_wp2_with (at_lookup; refine wpList_lookup_own_ok_int _ rfl _ _ 48 rfl 29 3 .i64 lawK Try.underlying48 Try.underlying3 (zeroInt _) bm _ D rfl H1.map _ _ rfl hkey ?_; intro c hat hwc)
  refine hK _ _ ⟨?_, ?_⟩; (focus (simp only [ReAll, List.contains_cons, List.contains_nil, Nat.reduceBEq, Bool.or_true, Bool.true_or, Bool.or_false, if_true, Bool.false_eq_true, if_false, and_true, true_and] <;> repeat' (first | trivial | (refine And.intro ?_ ?_) | (unfold YA; go_big_quiet_op; rfl)))); clear hK K
  (repeat (first | (refine can_drop rfl rfl (fun K hK => ?_); go_big_quiet_op; refine hK _ ?_; clear hK K) | (refine can_pure ?_ rfl rfl (fun W K hK => ?_) ?_; rotate_left; (focus (go_big_quiet_op; exact hK))) | (refine can_keep rfl rfl (fun K hK => ?_); go_big_quiet_op; refine hK _ ?_; clear hK K) | (refine can_skip rfl rfl ?_; simp only [Act.put, List.setIfInBounds_toArray, List.set_cons_succ, List.set_cons_zero])))
  refine can_nil ?_
  go_wp2
  go_ret
  exact ⟨rfl, S, ⟨bm, D, vs, xs, H1⟩, f1, fun k hk => .inl hk⟩

theorem take_c (w : World) (S : Nat → Prop) (b now : Nat) (L : WL) (a : Nat) (h : WheelAt w S b now L) (ha : a < 65536) (hn : now ≤ 1000000) :
    Calls Try.prog 17 #[.pointer (some ⟨b, 0, none⟩), .int .u16 (a : Int)] w (WheelPost w S b now (dropL L a) (.bool (hasL L a))) := by
  cases hm : hasL L a with
  | true =>
    obtain ⟨t, ht⟩ := hasL_iff.1 hm
    exact take_yes w S b now L a t h ha hn ht
  | false =>
    rw [dropL_none hm]
    exact take_no w S b now L a h ha hm
#print axioms take_c
end Go.Proofs.Ytkmknpobinpegaa
