/- (*Wheel).Tick: a tick on: what is due, rising; it isn't set any more. -/
import Derived.Test.YtkmknpobinpegaaWheelTake
import Derived.Test.YtkmknpobinpegaaWheelSort
import Derived.LoopTactic

namespace Go.Proofs.Ytkmknpobinpegaa
set_option linter.unusedSimpArgs false
set_option linter.unusedVariables false
open Go Go.RowKit Go.Maps Go.Sort Go.Lib Go.Shelf

def dueL (L : WL) (n : Nat) : List Nat := (L.filter fun p => p.2 == n).map Prod.fst
def laterL (L : WL) (n : Nat) : WL := L.filter fun p => p.2 != n
/-- A result: a row of the call's own that holds l. -/
def RowAt (w : World) (B : Nat) (v : Value) (l : List Nat) : Prop := w.ownsRow B 29 1 v l.length (row l)
def TickPost (w : World) (S : Nat → Prop) (b now : Nat) (L : WL) (e : Ending) (w' : World) : Prop :=
  ∃ v l S', e = .returned v ∧ WheelAt w' S' b (now + 1) (laterL L (now + 1)) ∧ Fr S w w' ∧ (∀ k, S' k → S k ∨ w.heap.size ≤ k) ∧ RowAt w' w.heap.size v l ∧
    (∀ g, v.ownBlock = some g → ¬ S' g) ∧ l.Pairwise (· < ·) ∧ ∀ a, a ∈ l ↔ (a, now + 1) ∈ L

def dueOf (L : WL) (n : Nat) (xs : List Nat) : List Nat := xs.filter fun a => L.any fun p => p.1 == a && p.2 == n

theorem dueOf_snoc {L : WL} {n a : Nat} {xs : List Nat} (k : Nat) (hk : k < xs.length) (ha : xs[k]! = a) (h : (L.any fun p => p.1 == a && p.2 == n) = true) : dueOf L n (xs.take (k + 1)) = dueOf L n (xs.take k) ++ [a] := by
  unfold dueOf
  rw [List.take_succ_eq_append_getElem hk, List.filter_append]
  have : xs[k] = a := by rw [← ha, getElem!_pos xs k hk]
  rw [this]
  simp [h]
theorem dueOf_skip {L : WL} {n a : Nat} {xs : List Nat} (k : Nat) (hk : k < xs.length) (ha : xs[k]! = a) (h : (L.any fun p => p.1 == a && p.2 == n) = false) : dueOf L n (xs.take (k + 1)) = dueOf L n (xs.take k) := by
  unfold dueOf
  rw [List.take_succ_eq_append_getElem hk, List.filter_append]
  have : xs[k] = a := by rw [← ha, getElem!_pos xs k hk]
  rw [this]
  simp [h]

def dropAll (L : WL) (l : List Nat) : WL := L.filter fun p => !l.contains p.1
theorem dropAll_nil (L : WL) : dropAll L [] = L := by unfold dropAll; rw [List.filter_eq_self]; simp
theorem dropAll_snoc (L : WL) (l : List Nat) (a : Nat) : dropAll L (l ++ [a]) = dropL (dropAll L l) a := by
  unfold dropAll dropL
  rw [List.filter_filter]
  apply List.filter_congr
  intro p _
  rw [Bool.eq_iff_iff]
  simp only [List.contains_append, Bool.not_or, Bool.and_eq_true, Bool.not_eq_true', bne_iff_ne, ne_eq, List.contains_cons, List.contains_nil, Bool.or_false, beq_eq_false_iff_ne]
  constructor
  · rintro ⟨h1, h2⟩; exact ⟨h2, h1⟩
  · rintro ⟨h1, h2⟩; exact ⟨h2, h1⟩
theorem dueOf_mem {L : WL} {n k a : Nat} {xs : List Nat} (hp : xs.Perm ((L.filter fun p => p.2 % 32 == k).map Prod.fst)) (hk : n % 32 = k) : a ∈ dueOf L n xs ↔ (a, n) ∈ L := by
  unfold dueOf
  simp only [List.mem_filter, hp.mem_iff, List.mem_map, List.any_eq_true, Bool.and_eq_true, beq_iff_eq]
  constructor
  · rintro ⟨_, ⟨x, t⟩, h1, rfl, rfl⟩; exact h1
  · intro h; exact ⟨⟨(a, n), ⟨h, hk⟩, rfl⟩, (a, n), h, rfl, rfl⟩
theorem dueOf_nodup {L : WL} {n k : Nat} {xs : List Nat} (hn : (L.map Prod.fst).Nodup) (hp : xs.Perm ((L.filter fun p => p.2 % 32 == k).map Prod.fst)) : (dueOf L n xs).Nodup :=
  ((hp.nodup_iff).2 (hn.sublist (List.filter_sublist.map _))).sublist List.filter_sublist
theorem dropAll_due {L : WL} {n k : Nat} {xs : List Nat} (hn : (L.map Prod.fst).Nodup) (hp : xs.Perm ((L.filter fun p => p.2 % 32 == k).map Prod.fst)) (hk : n % 32 = k) : dropAll L (dueOf L n xs) = laterL L n := by
  unfold dropAll laterL
  apply List.filter_congr
  rintro ⟨a, t⟩ hm
  rw [Bool.eq_iff_iff]
  simp only [Bool.not_eq_true', bne_iff_ne, ne_eq, ← Bool.not_eq_true, List.contains_iff_mem, dueOf_mem hp hk]
  constructor
  · rintro h rfl; exact h hm
  · intro h h'; exact h (nodup_unique hn hm h')

theorem any_due {L : WL} (hn : (L.map Prod.fst).Nodup) {a t n : Nat} (hm : (a, t) ∈ L) : (L.any fun p => p.1 == a && p.2 == n) = decide (t = n) := by
  rw [Bool.eq_iff_iff, List.any_eq_true, decide_eq_true_eq]
  simp only [Bool.and_eq_true, beq_iff_eq]
  constructor
  · rintro ⟨⟨x, s⟩, h1, rfl, rfl⟩; exact nodup_unique hn hm h1
  · rintro rfl; exact ⟨(a, t), hm, rfl, rfl⟩

theorem tick_end (S : Nat → Prop) (b now : Nat) (L : WL) (w wr w6 : World) (dl : List Nat) (da : Option Addr) (dc : Nat) (S' : Nat → Prop) {wo : World}
    (hA : WheelAt wr S' b (now + 1) (laterL L (now + 1)) ∧ Fr S w wr ∧ (∀ k, S' k → S k ∨ wo.heap.size ≤ k) ∧ wo.heap.size ≤ wr.heap.size)
    (hR : w6.ownsRow w.heap.size 29 1 (.slice da dl.length dc) (sorted dl).length (row (sorted dl))) (hF6 : Fr (fun k => (Value.slice da dl.length dc).ownBlock = some k) wr w6)
    (hnd : dl.Nodup) (hmem : ∀ a, a ∈ dl ↔ (a, now + 1) ∈ L)
    (hz : w.heap.size ≤ wo.heap.size ∧ (∀ k, S k → k < w.heap.size) ∧ RowAt wo w.heap.size (.slice da dl.length dc) dl) :
    TickPost w S b now L (.returned (.slice da dl.length dc)) w6 := by
  obtain ⟨hW, hF, hS', hzo⟩ := hA
  obtain ⟨hzw, hSlt, hda⟩ := hz
  -- the row's block is none of the wheel's
  have hout : ∀ g, (Value.slice da dl.length dc).ownBlock = some g → w.heap.size ≤ g ∧ ¬ S' g := fun g hg => by
    have h1 := (hR.lt g hg).1
    refine ⟨h1, fun h => ?_⟩
    rcases hS' g h with h2 | h2
    · have := hSlt g h2; omega
    · have := (World.ownsRow.lt hda g hg).2
      omega
  refine ⟨_, sorted dl, S', rfl, hW.fr hF6 (fun k hk h => (hout k h).2 hk), hF.trans hF6 (fun k hk => .inr (hout k hk).1), fun k hk => ?_, hR, fun g hg => (hout g hg).2, sorted_strict hnd, fun a => ?_⟩
  · rcases hS' k hk with h | h
    · exact .inl h
    · exact .inr (by omega)
  · rw [(sorted_perm dl).mem_iff]; exact hmem a

set_option maxHeartbeats 2000000 in
theorem tick_c (w : World) (S : Nat → Prop) (b now : Nat) (L : WL) (h : WheelAt w S b now L) (hn : now < 1000000) (hL : L.length ≤ 100000) :
    Calls Try.prog 9 #[.pointer (some ⟨b, 0, none⟩)] w (TickPost w S b now L) := by
  obtain ⟨bm, D, vs, xs, H⟩ := h
  have c0 := H.c0
  have f0 := H.fr 0
  have hbl := H.lt b H.sb
  have hk32 : (now + 1) % 32 < 32 := by omega
  have cv := H.cs _ hk32
  obtain ⟨i0, hi, hz0, hz1, hz2⟩ := info_parts infoNum
  go_enter Try.func9, Try.ntmps9
  go_wp2
  (refine wp_region_can [[], [], [1], [1, 2], [1, 2, 3], [1, 2, 3, 4], [0], [0, 6], [0, 1, 2, 3, 4, 5, 6, 7], [0, 1, 2, 3, 4, 5, 6, 7, 8], [0, 1, 2, 3, 4, 5, 6, 7, 8, 9], []] [.st 0 .drop, .st 1 .drop, .st 2 .drop, .st 3 .drop, .st 4 .drop, .st 5 .drop, .st 6 .drop, .st 7 .drop, .st 8 .drop, .st 9 .drop, .st 10 .drop, .st 11 .drop] (by kernel_rfl) (by kernel_rfl) ?_; try simp only [Act.put])
  generalize hw1 : World.drew _ = w1
  have hz1' : w1.heap.size = w.heap.size := by rw [← hw1]; simp
  have H1 : WheelIn w1 S b bm (now + 1) D vs xs L := by
    refine H.ticked (by omega) ?_ ?_ ?_ ?_ (by omega)
    · rw [← hw1]; exact World.cell?_setCell_same _ _ _ c0
    · intro k hk; rw [← hw1]; exact World.cell?_setCell_other _ _ _ _ (fun e => by injection e with _ e _; exact hk e.symm)
    · intro k; rw [← hw1]; show (w.setCell _ _).frozen? _ = _; rw [World.frozen?_setCell]; exact H.fr k
    · intro k _ hk; rw [← hw1]; exact Below.heap_setCell _ _ _ _ hk
  have f1 : Fr S w w1 := by rw [← hw1]; exact ((Fr.refl S w).setCell (p := ⟨b, 0, none⟩) (.inl H.sb) _).drew
  clear hw1 cv c0 f0
  have hO := H1.own _ hk32
  have cv := H1.cs _ hk32
  have hP := H1.perm _ hk32
  generalize hx0 : xs ((now + 1) % 32) = x0 at hO hP
  have hx0' := Lib.hid hx0
  clear hx0
  obtain ⟨_, sa, scap, hv0, hnc, hcm, hsa⟩ := ownsRow_open (enc := encA) (zs := x0) hO
  unfold maxLen at hcm
  rw [hv0] at cv
  have hv0' := Lib.hid hv0
  clear hv0
  have hxl : x0.length ≤ 100000 := by
    rw [hP.length_eq, List.length_map]
    exact Nat.le_trans (List.length_filter_le _ _) hL
  have c0 := H1.c0
  have hbl1 := H1.lt b H1.sb
  (repeat (first | (refine can_drop rfl rfl (fun K hK => ?_); go_big_quiet_op; refine hK _ ?_; clear hK K) | (refine can_pure ?_ rfl rfl (fun W K hK => ?_) ?_; rotate_left; (focus (go_big_quiet_op; exact hK))) | (refine can_keep rfl rfl (fun K hK => ?_); go_big_quiet_op; refine hK _ ?_; clear hK K) | (refine can_skip rfl rfl ?_; simp only [Act.put, List.setIfInBounds_toArray, List.set_cons_succ, List.set_cons_zero])))
  refine can_nil ?_
  go_wp2
  go_loopw [3, 28] (fun s3 s28 wr => ∃ k : Nat, k ≤ x0.length ∧ s28 = .int .i64 (k : Int) ∧ RowAt wr w1.heap.size s3 (dueOf L (now + 1) (x0.take k)) ∧ Below w1.heap.size w1 wr)
    (fun _ s28 _ => x0.length - (intOf s28).toNat)
  case atStart => exact ⟨0, Nat.zero_le _, rfl, World.ownsRow_nil _ _ _ _, Below.refl _ _⟩
  case round =>
    obtain ⟨k, hk, rfl, hR, hB⟩ := hrel
    by_cases hlt : k < x0.length
    · obtain ⟨g, rfl, _, hgl, _, hH⟩ := hsa (by omega)
      have hcell : wr.cell? ⟨g, k, none⟩ = some (.int .u16 (x0[k]! : Int)) := by
        rw [hB.cell (p := ⟨g, k, none⟩) hgl]
        have := (hH k (by simpa using hlt)).1
        simpa [encA] using this
      generalize hxa : x0[k]! = a at hcell
      go_wp2
      (refine wp_region_can [[], [0], [0, 1], [0, 1, 2], [], [0, 1, 2, 3, 4], [], [6], [6, 7], [6, 7, 8], [0, 1, 2, 3, 4, 5, 6, 7, 8, 9]] [.st 0 .drop, .st 1 .drop, .st 2 .drop, .st 3 .drop, .st 4 .drop, .st 6 .pure, .st 7 .pure, .st 8 .pure, .st 9 .keep, .ef 5 [6, 7, 8, 9], .st 10 .drop] (by kernel_rfl) (by kernel_rfl) ?_; try simp only [Act.put])
      generalize hw2 : World.drew _ = w2
      have H2 := H1.keep (w' := w2) (fun k hk => by rw [← hw2]; exact hB.block k (H1.lt k hk)) (by rw [← hw2]; exact hB.size)
      have B2 : Below w1.heap.size w1 w2 := by rw [← hw2]; exact hB.drew
      have R2 : RowAt w2 w1.heap.size u3 (dueOf L (now + 1) (x0.take k)) := by rw [← hw2]; exact hR
      clear hw2
      have c0' := H2.c0
      have c1' := H2.c1
      have hmem : a ∈ x0 := by rw [← hxa, getElem!_pos x0 k hlt]; exact List.getElem_mem hlt
      obtain ⟨⟨a', t⟩, hm0, rfl⟩ := List.mem_map.1 (hP.mem_iff.1 hmem)
      have hm := (List.mem_filter.1 hm0).1
      clear hm0
      simp only at hxa hcell hmem
      have hkey := keyOf_int_mk Try.underlying29 (a := (a' : Int)) (WalkArith.wf_u16 (by have := H.lo _ hm; simp at this; omega))
      have hat0 := H1.at_ _ hm
      have HX := Lib.hid hxa
      clear hxa
      (repeat (first | (refine can_drop rfl rfl (fun K hK => ?_); go_big_quiet_op; refine hK _ ?_; clear hK K) | (refine can_pure ?_ rfl rfl (fun W K hK => ?_) ?_; rotate_left; (focus (go_big_quiet_op; exact hK))) | (refine can_keep rfl rfl (fun K hK => ?_); go_big_quiet_op; refine hK _ ?_; clear hK K) | (refine can_skip rfl rfl ?_; simp only [Act.put, List.setIfInBounds_toArray, List.set_cons_succ, List.set_cons_zero])))
      refine can_ef rfl (fun K hK => ?_)
      go_wp2_with (at_lookup; refine wpList_lookup_own_int _ rfl _ _ 48 rfl 29 3 .i64 lawK Try.underlying48 Try.underlying3 (zeroInt _) bm _ D rfl H2.map _ _ rfl hkey ?_; intro c hat hwc; obtain rfl : c = (t : Int) := by (have e := hat.symm.trans hat0; injection e with e; injection e))
      refine hK _ _ ⟨?_, ?_⟩; (focus (simp only [ReAll, List.contains_cons, List.contains_nil, Nat.reduceBEq, Bool.or_true, Bool.true_or, Bool.or_false, if_true, Bool.false_eq_true, if_false, and_true, true_and] <;> repeat' (first | trivial | (refine And.intro ?_ ?_) | (unfold YA; go_big_quiet_op; rfl)))); clear hK K
      have hlen1 : (dueOf L (now + 1) (x0.take k)).length ≤ 100000 := Nat.le_trans (Nat.le_trans (List.length_filter_le _ _) (List.length_take_le _ _)) (by omega)
      by_cases ht : t = now + 1
      · have hb1 : ((t : Int) == (now : Int) + 1) = true := by rw [beq_iff_eq]; omega
        have hstep := dueOf_snoc (L := L) (n := now + 1) k hlt HX.out (by rw [any_due H.nd hm]; simp [ht])
        have hst := Lib.hid hstep
        clear hstep ht
        (repeat (first | (refine can_drop rfl rfl (fun K hK => ?_); go_big_quiet_op; refine hK _ ?_; clear hK K) | (refine can_pure ?_ rfl rfl (fun W K hK => ?_) ?_; rotate_left; (focus (go_big_quiet_op; exact hK))) | (refine can_keep rfl rfl (fun K hK => ?_); go_big_quiet_op; refine hK _ ?_; clear hK K) | (refine can_skip rfl rfl ?_; simp only [Act.put, List.setIfInBounds_toArray, List.set_cons_succ, List.set_cons_zero])))
        refine can_nil ?_
        go_wp2_with (at_builtin; refine wpList_append_own _ rfl _ _ 31 rfl w1.heap.size 29 i0 (.int .u16 0) 1 2 Try.underlying31 hi hz0 hz1 hz2 rfl (by decide) u3 _ _ rfl (World.ownsRow.alloc R2 _) ⟨w2.heap.size, 0, none⟩ 1 1 [.int .u16 (a' : Int)] rfl rfl (cell_one_new _ _ _) (ints_oneCell .u16 [(a' : Int)]) (by unfold maxLen; omega) (by omega) (by have := B2.size; simp; omega) ?_; intro v' w4 hown' hgrow hnil)
        refine ⟨⟨k + 1, by omega, by go_num, ?_, ?_⟩, by simp [intOf]; omega⟩
        · unfold RowAt
          rw [hst.out, List.length_append]
          have e : row (dueOf L (now + 1) (x0.take k) ++ [a']) = row (dueOf L (now + 1) (x0.take k)) ++ [Value.int .u16 (a' : Int)] := by simp [row]
          rw [e]
          exact hown'
        · exact (B2.alloc (B2.size) _).grown hgrow (by have := B2.size; simp; omega) (fun j hj => (R2.lt j hj).1)
      · have hb1 : ((t : Int) == (now : Int) + 1) = false := by rw [beq_eq_false_iff_ne]; omega
        have hstep := dueOf_skip (L := L) (n := now + 1) k hlt HX.out (by rw [any_due H.nd hm]; simp [ht])
        have hst := Lib.hid hstep
        clear hstep ht
        (repeat (first | (refine can_drop rfl rfl (fun K hK => ?_); go_big_quiet_op; refine hK _ ?_; clear hK K) | (refine can_pure ?_ rfl rfl (fun W K hK => ?_) ?_; rotate_left; (focus (go_big_quiet_op; exact hK))) | (refine can_keep rfl rfl (fun K hK => ?_); go_big_quiet_op; refine hK _ ?_; clear hK K) | (refine can_skip rfl rfl ?_; simp only [Act.put, List.setIfInBounds_toArray, List.set_cons_succ, List.set_cons_zero])))
        refine can_nil ?_
        go_wp2
        refine ⟨⟨k + 1, by omega, by go_num, ?_, B2⟩, by simp [intOf]; omega⟩
        unfold RowAt
        rw [hst.out]
        exact R2
    · obtain rfl : k = x0.length := by omega
      rw [List.take_length] at hR
      obtain ⟨_, da, dc, rfl, hdn, hdm, hda⟩ := ownsRow_open (enc := encA) (zs := dueOf L (now + 1) x0) hR
      unfold maxLen at hdm
      have H3 := H1.keep (w' := wr) (fun k hk => hB.block k (H1.lt k hk)) hB.size
      have f3 : Fr S w wr := f1.trans (Fr.of_below hB) (fun j hj => .inr (by omega))
      have hmem := fun a => dueOf_mem (a := a) (L := L) (n := now + 1) hP rfl
      have hnd := dueOf_nodup (n := now + 1) H.nd hP
      have hall := dropAll_due (n := now + 1) H.nd hP rfl
      have hlo := H.lo
      have hW3 : WheelAt wr S b (now + 1) L := ⟨bm, D, vs, xs, H3⟩
      have hSlt := H.lt
      have hdl : (dueOf L (now + 1) x0).length ≤ 100000 := Nat.le_trans (List.length_filter_le _ _) hxl
      rw [hz1'] at hR hda
      generalize dueOf L (now + 1) x0 = dl at *
      have hzw : w.heap.size ≤ wr.heap.size := f3.size
      have hzw' := Lib.hid (And.intro hzw (And.intro H.lt hR))
      clear H3 H1 H hO cv c0 hbl1 hsa hB hP f1 hx0' hv0' hxl hnc hcm hk32 hi hz0 hz1 hz2 hz1'

      obtain ⟨wo, rfl⟩ : ∃ wo, wo = wr := ⟨_, rfl⟩
      go_wp2
      go_loopw [50] (fun s50 wr => ∃ (j : Nat) (S' : Nat → Prop), j ≤ dl.length ∧ s50 = .int .i64 (j : Int) ∧ Aside (WheelAt wr S' b (now + 1) (dropAll L (dl.take j)) ∧ Fr S w wr ∧ (∀ k, S' k → S k ∨ wo.heap.size ≤ k) ∧ wo.heap.size ≤ wr.heap.size ∧ RowAt wr w.heap.size (.slice da dl.length dc) dl))
        (fun s50 _ => dl.length - (intOf s50).toNat)
      case atStart => exact ⟨0, S, Nat.zero_le _, rfl, by rw [List.take_zero, dropAll_nil]; exact ⟨hW3, f3, fun k hk => .inl hk, Nat.le_refl _, hR⟩⟩
      case round =>
        obtain ⟨j, S', hj, rfl, hA⟩ := hrel
        obtain ⟨hW, hF, hS', hzo, hRr⟩ := hA
        by_cases hjl : j < dl.length
        · obtain ⟨g, rfl, hgw, hgl, hgo, _⟩ := hda (by omega)
          have hcell : wr.cell? ⟨g, j, none⟩ = some (.int .u16 (dl[j]! : Int)) := ownsRow_cell (enc := encA) (zs := dl) hRr hjl
          have hma : dl[j]! ∈ dl := by rw [getElem!_pos dl j hjl]; exact List.getElem_mem hjl
          have hlt := hlo _ ((hmem _).1 hma)
          have hT := take_c wr S' b (now + 1) (dropAll L (dl.take j)) dl[j]! hW (by simpa using hlt) (by omega)
          have hsn : dl.take (j + 1) = dl.take j ++ [dl[j]!] := by rw [List.take_succ_eq_append_getElem hjl, getElem!_pos dl j hjl]
          generalize dl[j]! = a at hcell hT hsn
          rw [← dropAll_snoc, ← hsn] at hT
          have hT' := Lib.hid hT
          clear hT hsn
          go_wp2_with fail
          refine hT'.out.mono ?_
          rintro e w5 ⟨rfl, S5, hW5, hF5, hS5⟩
          go_wp2
          refine ⟨⟨j + 1, S5, by omega, by go_num, hW5, hF.trans hF5 ?_, ?_, ?_, ?_⟩, by simp [intOf]; omega⟩
          · intro k hk; rcases hS' k hk with h | h; exact .inl h; exact .inr (by omega)
          · intro k hk; rcases hS5 k hk with h | h; exact hS' k h; exact .inr (by omega)
          · have := hF5.size; omega
          · refine ownsRow_block hRr (fun k hk => ?_)
            injection hk with hk
            subst hk
            refine hF5.block g (by omega) (fun h => ?_)
            rcases hS' g h with h | h
            · have := hSlt g h; omega
            · omega
        · obtain rfl : j = dl.length := by omega
          rw [List.take_length, hall] at hW
          go_wp2_with fail
          refine (sort_c wr w.heap.size _ dl hRr hdl).mono ?_
          rintro e w6 ⟨rfl, hR6, hF6⟩
          have hR6' := Lib.hid hR6
          have hF6' := Lib.hid hF6
          have hA' := Lib.hid (And.intro hW (And.intro hF (And.intro hS' hzo)))
          have hnd' := Lib.hid hnd
          have hmem' := Lib.hid hmem
          clear hR6 hF6 hW hF hS' hzo hRr hnd hmem hall hW3 hR hda f3 hlo hSlt
          go_wp2
          go_ret
          exact tick_end S b now L w wr w6 dl da dc S' hA'.out hR6'.out hF6'.out hnd'.out hmem'.out hzw'.out
end Go.Proofs.Ytkmknpobinpegaa
