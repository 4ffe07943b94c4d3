/- The walk of the document's DocTick. -/
import Derived.Test.YtkmknpobinpegaaRefTick
namespace Go.Proofs.Ytkmknpobinpegaa
set_option linter.unusedSimpArgs false
set_option linter.unusedVariables false
open Go Go.RowKit Go.Maps Go.Sort Go.Lib Go.Shelf

def OutAt (w : World) (B : Nat) (v : Value) (l : List Nat) : Prop := w.ownsRow B 3 1 v l.length (rowI l)
def LeftAt (w : World) (B : Nat) (v : Value) (L : WL) : Prop := w.ownsRow B 55 2 v L.length (flat L)
def DocTickPost (w : World) (S : Nat → Prop) (c now : Nat) (L : WL) (e : Ending) (w' : World) : Prop :=
  ∃ v S', e = .returned v ∧ RefAt w' S' c (now + 1) (laterL L (now + 1)) ∧ Fr S w w' ∧ (∀ k, S' k → S k ∨ w.heap.size ≤ k) ∧ OutAt w' w.heap.size v (outOf (now + 1) L)

/-- One step of the way: the number comes one place nearer. -/
theorem way_step {o : List Nat} {x k : Nat} (hk : k + 1 ≤ o.length) : ((o.take (k + 1) ++ x :: o.drop (k + 1)).set (k + 1) o[k]!).set k x = o.take k ++ x :: o.drop k := by
  have h1 : o.take (k + 1) = o.take k ++ [o[k]] := List.take_succ_eq_append_getElem (by omega)
  have h2 : o.drop k = o[k] :: o.drop (k + 1) := List.drop_eq_getElem_cons (by omega)
  have hl : (o.take (k + 1)).length = k + 1 := by rw [List.length_take]; omega
  have hl' : (o.take k).length = k := by rw [List.length_take]; omega
  rw [List.set_append_right _ _ (by omega), hl, Nat.sub_self, List.set_cons_zero, h1, List.append_assoc, List.set_append_right _ _ (by omega), hl', Nat.sub_self, h2, getElem!_pos o k (by omega)]
  rfl
theorem way_get {o : List Nat} {x k : Nat} (hk : k + 1 ≤ o.length) : (o.take (k + 1) ++ x :: o.drop (k + 1))[k]! = o[k]! ∧ (o.take (k + 1) ++ x :: o.drop (k + 1))[k + 1]! = x := by
  have hl : (o.take (k + 1)).length = k + 1 := by rw [List.length_take]; omega
  constructor
  · rw [getElem!_pos _ _ (by simp; omega), List.getElem_append_left (by omega), List.getElem_take, getElem!_pos o k (by omega)]
  · rw [getElem!_pos _ _ (by simp; omega), List.getElem_append_right (by omega)]
    simp [hl]
theorem rowI_set (l : List Nat) (k x : Nat) : (rowI l).set k (.int .i64 (x : Int)) = rowI (l.set k x) := by unfold rowI; rw [List.map_set]; rfl

set_option maxRecDepth 8000
set_option maxHeartbeats 2000000 in
theorem docTick_c (w : World) (S : Nat → Prop) (c now : Nat) (L : WL) (h : RefAt w S c now L) (hn : now < 1000000) (hL : L.length ≤ 100000) :
    Calls Try.prog 16 #[.pointer (some ⟨c, 0, none⟩)] w (DocTickPost w S c now L) := by
  obtain ⟨v, H⟩ := h
  obtain ⟨i0, hi, hi0, hi1, hi2⟩ := info_parts infoDue
  obtain ⟨j0, hj, hj0, hj1, hj2⟩ := info_parts infoI
  have c0 := H.c0
  have f0 := H.fr 0
  go_enter Try.func16, Try.ntmps16
  go_wp2_with fail
  generalize hw1 : World.setCell w _ _ = w1
  have hsame : ∀ k, k ≠ c → w1.heap[k]? = w.heap[k]? := fun k hk => by rw [← hw1]; exact Below.heap_setCell _ _ _ _ hk
  have H1 : RefIn w1 S c (now + 1) v L := {
    c0 := by rw [← hw1]; exact World.cell?_setCell_same _ _ _ c0
    c1 := by rw [← hw1, World.cell?_setCell_other _ _ _ _ (fun e => by injection e with _ e _; omega)]; exact H.c1
    fr := fun k => by rw [← hw1, World.frozen?_setCell]; exact H.fr k
    own := ownsRow_block H.own (fun g hg => hsame g (H.sv g hg).2)
    sc := H.sc, sv := H.sv
    lt := fun k hk => by rw [← hw1]; simpa using H.lt k hk }
  have f1 : Fr S w w1 := by rw [← hw1]; exact (Fr.refl S w).setCell (p := ⟨c, 0, none⟩) (.inl H.sc) _
  have hz1 : w1.heap.size = w.heap.size := by rw [← hw1]; simp
  clear hw1 hsame c0 f0 H
  obtain ⟨va, vc, rfl, hvc, hvm, hvh⟩ := pairs_open H1.own
  unfold maxLen at hvm
  have hcl := H1.lt c H1.sc
  go_loopw [3, 4, 5] (fun s3 s4 s5 wr => ∃ i : Nat, i ≤ L.length ∧ s5 = .int .i64 (i : Int) ∧ Aside (OutAt wr w1.heap.size s3 (outOf (now + 1) (L.take i)) ∧ LeftAt wr w1.heap.size s4 (leftOf (now + 1) (L.take i)) ∧
      (∀ g, s3.ownBlock = some g → s4.ownBlock ≠ some g) ∧ Below w1.heap.size w1 wr))
    (fun _ _ s5 _ => L.length - (intOf s5).toNat)
  case atStart => exact ⟨0, Nat.zero_le _, rfl, ⟨World.ownsRow_nil _ _ _ _, World.ownsRow_nil _ _ _ _, fun g hg => by simp [Value.ownBlock] at hg, Below.refl _ _⟩⟩
  case round =>
    obtain ⟨i, hil, rfl, hA⟩ := hrel
    obtain ⟨hO, hLf, hne, hB⟩ := hA
    have hO' := Lib.hid hO
    have hLf' := Lib.hid hLf
    have hne' := Lib.hid hne
    have hB' := Lib.hid hB
    have cr1 : wr.cell? ⟨c, 1, none⟩ = some (.slice va L.length vc) := by rw [hB.cell (p := ⟨c, 1, none⟩) hcl]; exact H1.c1
    have cr0 : wr.cell? ⟨c, 0, none⟩ = some (.int .i64 ((now : Int) + 1)) := by rw [hB.cell (p := ⟨c, 0, none⟩) hcl]; exact H1.c0
    have fr1 : wr.frozen? ⟨c, 1, none⟩ = false := by rw [World.frozen?_of_block (w := w1) (a := ⟨c, 1, none⟩) (hB.block c hcl)]; exact H1.fr 1
    have hzB := hB.size
    by_cases hlt : i < L.length
    · obtain ⟨g, rfl, _, hgl, _, hcell⟩ := hvh (by omega)
      have hcr : ∀ j u, (flat L)[j]? = some u → wr.cell? ⟨g, j, none⟩ = some u := fun j u hu => by rw [hB.cell (p := ⟨g, j, none⟩) hgl]; exact hcell j u hu
      have hx := hcr _ _ (flat_get0 hlt)
      have ht := hcr _ _ (flat_get1 hlt)
      have hsn : L.take (i + 1) = L.take i ++ [L[i]!] := by rw [List.take_succ_eq_append_getElem hlt, getElem!_pos L i hlt]
      obtain ⟨x, t, hp⟩ : ∃ x t, L[i]! = (x, t) := ⟨_, _, rfl⟩
      rw [hp] at hx ht hsn
      have hlo : (outOf (now + 1) (L.take i)).length ≤ 100000 := Nat.le_trans (outOf_len _ _) (by rw [List.length_take]; omega)
      have hll : (leftOf (now + 1) (L.take i)).length ≤ 100000 := Nat.le_trans (List.length_filter_le _ _) (by rw [List.length_take]; omega)
      clear hO hLf hne hcr
      simp only at hx ht
      have hB2 : Below w1.heap.size w1 wr := hB
      have hB2' := Lib.hid hB2
      clear hB2 hB
      by_cases htn : t = now + 1
      · have hb : ((t : Int) == (now : Int) + 1) = true := by rw [beq_iff_eq]; omega
        have hso := outOf_sorted (now + 1) (L.take i)
        have hstep : outOf (now + 1) (L.take (i + 1)) = putIn (outOf (now + 1) (L.take i)) x := by rw [hsn, outOf_snoc]; simp [htn]
        have hstep2 : leftOf (now + 1) (L.take (i + 1)) = leftOf (now + 1) (L.take i) := by rw [hsn, leftOf_snoc]; simp [htn]
        generalize outOf (now + 1) (L.take i) = o at *
        have hst := Lib.hid (And.intro hso (And.intro hstep hstep2))
        clear hso hstep hstep2 htn
        obtain ⟨_, oa, oc, rfl, hoc, hom, _⟩ := ownsRow_open (enc := encI) (zs := o) hO'.out
        unfold maxLen at hom
        go_wp2
        go_quiet (fail)
        go_wp2_with (at_builtin; refine wpList_append_own_at _ rfl _ _ 23 rfl w1.heap.size 3 j0 _ 1 8 Try.underlying23 hj hj0 hj1 hj2 rfl (by decide) (.slice oa o.length oc) _ _ rfl (World.ownsRow.alloc hO'.out _) ⟨wr.heap.size, 0, none⟩ 1 1 [.int .i64 (x : Int)] rfl rfl (cell_one_new _ _ _) (ints_oneCell .i64 [(x : Int)]) (by unfold maxLen; omega) (by omega) (by rw [alloc_drewN_size]; omega) ?_; intro v' w4 hown' hgrow hnil hloc)
        have hzg := hgrow.size
        rw [alloc_drewN_size] at hzg
        have e1 : rowI o ++ [Value.int .i64 (x : Int)] = rowI (o ++ [x]) := by simp [rowI, encI]
        rw [e1] at hown'
        obtain ⟨_, na, nc, rfl, hnc, hnm, hnh⟩ := ownsRow_open (enc := encI) (zs := o ++ [x]) hown'
        unfold maxLen at hnm
        obtain ⟨g2, rfl, hg2, hg2l, hg2o, _⟩ := hnh (by omega)
        have hBA : Below w1.heap.size w1 w4 := ((below_drewN hB'.out _).alloc hzB _).grown hgrow (by rw [alloc_drewN_size]; omega) (fun k hk => (World.ownsRow.lt hO'.out k hk).1)
        have hLA : LeftAt w4 w1.heap.size u4 (leftOf (now + 1) (L.take i)) := by
          refine World.ownsRow.kept (World.ownsRow.alloc (w := World.drewN wr _) hLf'.out _) hgrow ?_
          cases hv : u4.ownBlock with
          | none => exact .inl rfl
          | some g3 => exact .inr (fun e => hne'.out g3 e.symm hv)
        have hneA : ∀ g, (Value.slice (some ⟨g2, 0, none⟩) (o.length + 1) nc).ownBlock = some g → u4.ownBlock ≠ some g := fun g3 hg3 e => by
          rw [hg2o] at hg3
          rcases hloc with h1 | h1
          · rw [hg2o] at h1; exact hne'.out g3 (h1.symm.trans hg3) e
          · rw [hg2o, alloc_drewN_size] at h1
            have := (World.ownsRow.lt hLf'.out g3 e).2
            injection h1 with h1; injection hg3 with hg3; omega
        have hA4 := Lib.hid (And.intro hBA (And.intro hLA hneA))
        have hO4 : Hid (OutAt w4 w1.heap.size (.slice (some ⟨g2, 0, none⟩) (o.length + 1) nc) (o ++ [x])) := Lib.hid (by unfold OutAt; rw [List.length_append]; exact hown')
        have c14 : w4.cell? ⟨c, 1, none⟩ = some (.slice (some ⟨g, 0, none⟩) L.length vc) := by rw [hBA.cell (p := ⟨c, 1, none⟩) hcl]; exact H1.c1
        have hx4 : w4.cell? ⟨g, i * 2, none⟩ = some (.int .i64 (x : Int)) := by
          rw [hBA.cell (p := ⟨g, i * 2, none⟩) hgl]
          have := hcell _ _ (flat_get0 hlt)
          rw [hp] at this
          exact this
        clear hown' hgrow hloc hnil hBA hLA hneA hnh hx ht hb cr1 cr0 fr1 e1
        go_wp2
        go_loopw [6] (fun s6 wr2 => ∃ k : Nat, k ≤ o.length ∧ s6 = .int .i64 (k : Int) ∧ Aside (OutAt wr2 w1.heap.size (.slice (some ⟨g2, 0, none⟩) (o.length + 1) nc) (o.take k ++ x :: o.drop k) ∧
            (∀ j, k ≤ j → j < o.length → x < o[j]!) ∧ Fr (fun b => b = g2) w4 wr2))
          (fun s6 _ => (intOf s6).toNat)
        case atStart => exact ⟨o.length, Nat.le_refl _, rfl, by rw [List.take_length, List.drop_length]; exact hO4.out, fun j h1 h2 => by omega, Fr.refl _ _⟩
        case round =>
          obtain ⟨k, hk, rfl, hA⟩ := hrel
          have hA' := Lib.hid hA
          clear hA
          have hgw : g < w4.heap.size := by have := hA4.out.1.size; omega
          have hcw : c < w4.heap.size := by have := hA4.out.1.size; omega
          have hfr := hA'.out.2.2
          have c15 : wr.cell? ⟨c, 1, none⟩ = some (.slice (some ⟨g, 0, none⟩) L.length vc) := by rw [hfr.cell (p := ⟨c, 1, none⟩) hcw (by show c ≠ g2; omega)]; exact c14
          have hx5 : wr.cell? ⟨g, i * 2, none⟩ = some (.int .i64 (x : Int)) := by rw [hfr.cell (p := ⟨g, i * 2, none⟩) hgw (by show g ≠ g2; omega)]; exact hx4
          have hdone : (k = 0 ∨ o[k - 1]! ≤ x) → OutAt wr w1.heap.size (.slice (some ⟨g2, 0, none⟩) (o.length + 1) nc) (outOf (now + 1) (L.take (i + 1))) ∧ LeftAt wr w1.heap.size u4 (leftOf (now + 1) (L.take (i + 1))) ∧
              (∀ g, (Value.slice (some ⟨g2, 0, none⟩) (o.length + 1) nc).ownBlock = some g → u4.ownBlock ≠ some g) ∧ Below w1.heap.size w1 wr := fun hlo => by
            rw [hst.out.2.1, hst.out.2.2, ← putIn_way hst.out.1 hk hA'.out.2.1 hlo]
            refine ⟨hA'.out.1, ownsRow_block hA4.out.2.1 (fun g3 hg3 => hfr.block g3 (World.ownsRow.lt hA4.out.2.1 g3 hg3).2 (fun e => hA4.out.2.2 g2 rfl (by rw [hg3, e]))), hA4.out.2.2, hA4.out.1.trans (hfr.below (fun b hb => by omega) hA4.out.1.size)⟩
          have hdone' := Lib.hid hdone
          clear hdone hfr
          cases k with
          | zero =>
            go_wp2
            go_quiet (fail)
            go_wp2
            refine ⟨⟨i + 1, by omega, by go_num, (hdone'.out (.inl (by first | rfl | trivial))).1, (hdone'.out (.inl (by first | rfl | trivial))).2.1, hA4.out.2.2, below_drewN (hdone'.out (.inl (by first | rfl | trivial))).2.2.2 _⟩, by simp [intOf]; omega⟩
          | succ k =>
            have hlen : (o.take (k + 1) ++ x :: o.drop (k + 1)).length = o.length + 1 := by simp; omega
            have hck : wr.cell? ⟨g2, k, none⟩ = some (.int .i64 (o[k]! : Int)) := by
              have := ownsRow_cell (enc := encI) (g := g2) (c := nc) (n := o.length + 1) (by have := hA'.out.1; unfold OutAt at this; rw [hlen] at this; exact this) (j := k) (by omega)
              rw [(way_get hk).1] at this
              exact this
            have hck1 : wr.cell? ⟨g2, k + 1, none⟩ = some (.int .i64 (x : Int)) := by
              have := ownsRow_cell (enc := encI) (g := g2) (c := nc) (n := o.length + 1) (by have := hA'.out.1; unfold OutAt at this; rw [hlen] at this; exact this) (j := k + 1) (by omega)
              rw [(way_get hk).2] at this
              exact this
            by_cases hgt : o[k]! ≤ x
            · have hng : ¬ x < o[k]! := by omega
              have hd := Lib.hid (hdone'.out (.inr (by rw [Nat.add_sub_cancel]; exact hgt)))
              clear hdone'
              generalize o[k]! = y at hck hgt hng
              go_wp2
              go_quiet (fail)
              go_wp2
              refine ⟨⟨i + 1, by omega, by go_num, hd.out.1, hd.out.2.1, hA4.out.2.2, below_drewN hd.out.2.2.2 _⟩, by simp [intOf]; omega⟩
            · have hyg : x < o[k]! := by omega
              have hws := way_step (x := x) hk
              have hO5 := hA'.out.1
              have hhi := hA'.out.2.1
              have hF5 := hA'.out.2.2
              have hhi' : ∀ j, k ≤ j → j < o.length → x < o[j]! := fun j h1 h2 => by
                rcases Nat.lt_or_ge j (k + 1) with h | h
                · have e : j = k := by omega
                  subst e; exact hyg
                · exact hhi j h h2
              have hh := Lib.hid (And.intro hO5 (And.intro hF5 (And.intro hhi' hws)))
              clear hdone' hO5 hhi hF5 hhi' hws hgt
              generalize o[k]! = y at hck hyg hh
              go_wp2
              go_quiet (fail)
              go_wp2
              (refine wp_region_can [[], [], [], [], [3], [], [], [6], [5, 6, 7], [5, 6, 7, 8], [], [10], [10, 11], [10, 11, 12], [], [10, 11, 12, 13, 14], [10, 11, 12, 13, 14, 15], [10, 11, 12, 13, 14, 15, 16], [0, 1, 5, 6, 7, 8, 9, 10, 11, 12, 13, 14, 15, 16, 17], [0, 1, 5, 6, 7, 8, 9, 10, 11, 12, 13, 14, 15, 16, 17, 18], [0, 1, 2, 3, 4, 5, 6, 7, 8, 9, 10, 11, 12, 13, 14, 15, 16, 17, 18, 19], [0, 1, 2, 3, 4, 5, 6, 7, 8, 9, 10, 11, 12, 13, 14, 15, 16, 17, 18, 19, 20]] [.st 0 .drop, .st 1 .drop, .st 2 .pure, .st 3 .pure, .st 4 .pure, .st 5 .drop, .st 6 .drop, .st 7 .drop, .st 8 .drop, .st 9 .drop, .st 10 .drop, .st 11 .drop, .st 12 .drop, .st 13 .drop, .st 14 .drop, .st 15 .drop, .st 16 .drop, .st 17 .drop, .st 18 .drop, .ef 19 [2, 3, 4], .st 20 .drop, .ef 21 []] (by kernel_rfl) (by kernel_rfl) ?_; try simp only [Act.put])
              generalize hw6 : World.drew _ = w6
              have hO6 : OutAt w6 w1.heap.size (.slice (some ⟨g2, 0, none⟩) (o.length + 1) nc) (o.take (k + 1) ++ x :: o.drop (k + 1)) := by rw [← hw6]; exact hh.out.1
              have hF6 : Fr (fun b => b = g2) w4 w6 := by rw [← hw6]; exact (hh.out.2.1.drewN _).drew
              have hk6 : w6.cell? ⟨g2, k, none⟩ = some (.int .i64 (y : Int)) := by rw [← hw6]; exact hck
              have hk61 : w6.cell? ⟨g2, k + 1, none⟩ = some (.int .i64 (x : Int)) := by rw [← hw6]; exact hck1
              have c16 : w6.cell? ⟨c, 1, none⟩ = some (.slice (some ⟨g, 0, none⟩) L.length vc) := by rw [← hw6]; exact c15
              have hx6 : w6.cell? ⟨g, i * 2, none⟩ = some (.int .i64 (x : Int)) := by rw [← hw6]; exact hx5
              clear hw6 hck hck1 c15 hx5
              unfold OutAt at hO6
              rw [hlen] at hO6
              have fz1 := hO6.frozenAt (k + 1)
              obtain ⟨hS1, hG1⟩ := hO6.stored (k + 1) (.int .i64 (y : Int))
              have hF7 := Lib.hid (hF6.setCell (p := ⟨g2, k + 1, none⟩) (.inl rfl) (.int .i64 (y : Int)))
              have fz0 := hS1.frozenAt k
              have hk7 : (w6.setCell ⟨g2, k + 1, none⟩ (.int .i64 (y : Int))).cell? ⟨g2, k, none⟩ = some (.int .i64 (y : Int)) := by
                rw [World.cell?_setCell_other _ _ _ _ (fun e => by injection e with _ e _; omega)]; exact hk6
              have hS2 := Lib.hid (hS1.stored k (.int .i64 (x : Int))).1
              clear hS1 hG1 hO6 hF6
              (repeat (first | (refine can_drop rfl rfl (fun K hK => ?_); go_big_quiet_op; refine hK _ ?_; clear hK K) | (refine can_pure ?_ rfl rfl (fun W K hK => ?_) ?_; rotate_left; (focus (go_big_quiet_op; exact hK))) | (refine can_keep rfl rfl (fun K hK => ?_); go_big_quiet_op; refine hK _ ?_; clear hK K) | (refine can_skip rfl rfl ?_; simp only [Act.put, List.setIfInBounds_toArray, List.set_cons_succ, List.set_cons_zero])))
              refine can_ef rfl (fun K hK => ?_)
              go_wp2
              refine hK _ _ ⟨?_, ?_⟩; (focus (simp only [ReAll, List.contains_cons, List.contains_nil, Nat.reduceBEq, Bool.or_true, Bool.true_or, Bool.or_false, if_true, Bool.false_eq_true, if_false, and_true, true_and] <;> repeat' (first | trivial | (refine And.intro ?_ ?_) | (unfold YA; go_big_quiet_op; rfl)))); clear hK K
              (repeat (first | (refine can_drop rfl rfl (fun K hK => ?_); go_big_quiet_op; refine hK _ ?_; clear hK K) | (refine can_pure ?_ rfl rfl (fun W K hK => ?_) ?_; rotate_left; (focus (go_big_quiet_op; exact hK))) | (refine can_keep rfl rfl (fun K hK => ?_); go_big_quiet_op; refine hK _ ?_; clear hK K) | (refine can_skip rfl rfl ?_; simp only [Act.put, List.setIfInBounds_toArray, List.set_cons_succ, List.set_cons_zero])))
              refine can_ef rfl (fun K hK => ?_)
              go_wp2
              refine hK _ _ ⟨?_, ?_⟩; (focus (simp only [ReAll, List.contains_cons, List.contains_nil, Nat.reduceBEq, Bool.or_true, Bool.true_or, Bool.or_false, if_true, Bool.false_eq_true, if_false, and_true, true_and] <;> repeat' (first | trivial | (refine And.intro ?_ ?_) | (unfold YA; go_big_quiet_op; rfl)))); clear hK K
              refine can_nil ?_
              go_wp2
              refine ⟨⟨k, by omega, by go_num, ?_, hh.out.2.2.1, hF7.out.setCell (p := ⟨g2, k, none⟩) (.inl rfl) _⟩, by simp [intOf]⟩
              have hws := hh.out.2.2.2
              have h9 := hS2.out
              rw [rowI_set, rowI_set, hws] at h9
              unfold OutAt
              rw [show (o.take k ++ x :: o.drop k).length = o.length + 1 by simp; omega]
              exact h9
      · have hb : ((t : Int) == (now : Int) + 1) = false := by rw [beq_eq_false_iff_ne]; omega
        have hstep : outOf (now + 1) (L.take (i + 1)) = outOf (now + 1) (L.take i) := by rw [hsn, outOf_snoc]; simp [htn]
        have hstep2 : leftOf (now + 1) (L.take (i + 1)) = leftOf (now + 1) (L.take i) ++ [(x, t)] := by rw [hsn, leftOf_snoc]; simp [htn]
        have hst := Lib.hid (And.intro hstep hstep2)
        clear hstep hstep2 htn
        obtain ⟨la, ll, lc, rfl⟩ := ownsRow_slice hLf'.out
        go_wp2
        go_quiet (fail)
        go_wp2_with (at_builtin; refine wpList_append_own_at _ rfl _ _ 39 rfl w1.heap.size 55 i0 _ 2 16 Try.underlying39 hi hi0 hi1 hi2 rfl (by decide) (.slice la ll lc) _ _ rfl (World.ownsRow.alloc hLf'.out _) ⟨wr.heap.size, 0, none⟩ 1 1 [.int .i64 (x : Int), .int .i64 (t : Int)] rfl rfl (cells_new _ #[.int .i64 (x : Int), .int .i64 (t : Int)] _) (fun u hu => by simp only [List.mem_cons, List.not_mem_nil, or_false] at hu; rcases hu with rfl | rfl <;> rfl) (by unfold maxLen; omega) (by omega) (by rw [alloc_drewN_size]; omega) ?_; intro v' w4 hown' hgrow hnil hloc)
        have hzg := hgrow.size
        rw [alloc_drewN_size] at hzg
        refine ⟨⟨i + 1, by omega, by go_num, ?_, ?_, ?_, ?_⟩, by simp [intOf]; omega⟩
        · rw [hst.out.1]
          refine World.ownsRow.kept (World.ownsRow.alloc (w := World.drewN wr _) hO'.out _) hgrow ?_
          cases hv : u3.ownBlock with
          | none => exact .inl rfl
          | some g3 => exact .inr (Ne.symm (hne'.out g3 hv))
        · rw [hst.out.2]
          unfold LeftAt
          rw [flat_append, List.length_append]
          exact hown'
        · intro g3 hg3
          rcases hloc with h1 | h1
          · rw [h1]; exact hne'.out g3 hg3
          · rw [h1]
            have := (World.ownsRow.lt hO'.out g3 hg3).2
            rw [alloc_drewN_size]
            intro e; injection e with e; omega
        · exact ((below_drewN hB'.out _).alloc hzB _).grown hgrow (by rw [alloc_drewN_size]; omega) (fun k hk => (World.ownsRow.lt hLf'.out k hk).1)
    · obtain rfl : i = L.length := by omega
      rw [List.take_length] at hO hLf
      obtain ⟨la, ll, lc, rfl⟩ := ownsRow_slice hLf
      go_wp2
      go_ret
      have fB : Fr S w1 wr := ⟨hB.os, hB.tape, hB.output, hB.size, fun k hk _ => hB.block k hk⟩
      have hbs : ∀ k, k ≠ c → (wr.setCell ⟨c, 1, none⟩ (.slice la ll lc)).heap[k]? = wr.heap[k]? := fun k hk => Below.heap_setCell _ _ _ _ hk
      refine ⟨u3, fun k => S k ∨ (Value.slice la ll lc).ownBlock = some k, rfl, ⟨.slice la ll lc, ?_⟩, f1.trans (fB.setCell (p := ⟨c, 1, none⟩) (.inl H1.sc) _) (fun k hk => .inl hk), ?_, ?_⟩
      · refine { c0 := ?_, c1 := World.cell?_setCell_same _ _ _ cr1, fr := fun k => ?_, own := ?_, sc := .inl H1.sc, sv := fun k hk => ⟨.inr hk, fun e => ?_⟩, lt := ?_ }
        · rw [World.cell?_setCell_other _ _ _ _ (fun e => by injection e with _ e _; omega)]; exact cr0
        · rw [World.frozen?_setCell, World.frozen?_of_block (w := w1) (a := ⟨c, k, none⟩) (hB.block c hcl)]; exact H1.fr k
        · exact ownsRow_block (ownsRow_base (base' := 0) hLf (fun _ _ => Nat.zero_le _)) (fun k hk => hbs k (fun e => by have := (World.ownsRow.lt hLf k hk).1; omega))
        · have := (World.ownsRow.lt hLf k hk).1; omega
        · rintro k (hk | hk)
          · have := H1.lt k hk; simp; omega
          · have := (World.ownsRow.lt hLf k hk).2; simp; omega
      · rintro k (hk | hk)
        · exact .inl hk
        · have := (World.ownsRow.lt hLf k hk).1; right; omega
      · have h1 := ownsRow_block (w' := wr.setCell ⟨c, 1, none⟩ (.slice la ll lc)) hO (fun k hk => hbs k (fun e => by have := (World.ownsRow.lt hO k hk).1; omega))
        rw [hz1] at h1
        exact h1
#print axioms docTick_c
end Go.Proofs.Ytkmknpobinpegaa
