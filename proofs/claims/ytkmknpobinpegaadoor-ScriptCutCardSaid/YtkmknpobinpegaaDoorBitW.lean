/- Layer 29's writer in memory: bits and an error; bitio's Put. -/
import Derived.Test.YtkmknpobinpegaaDoorTold
import Derived.Test.YtkmknpobinpegaaDoorReg
import Derived.Sort.WalkA
import Derived.LoopTactic
import Derived.Deep.LoopGhost
import Derived.OpenShut
import Derived.Deep.QuietTactic
import Derived.BigQuiet
namespace Go.Proofs.YtkmknpobinpegaaDoor
open Go Go.RowKit Go.Maps Go.Sort Go.Lib
set_option linter.unusedSimpArgs false
set_option linter.unusedVariables false

abbrev encB (a : Nat) : Value := .int .u8 (a : Int)
def rowB (xs : List Nat) : List Value := xs.map encB
theorem infoB : (Tryd.prog.info? 5).map (fun i => (i.zero, i.size, i.bytes)) = some (some (.int .u8 0), 1, 1) := by kernel_rfl

structure WrIn (w : World) (S : Nat → Prop) (b : Nat) (v err : Value) (L : List Nat) : Prop where
  c0 : w.cell? ⟨b, 0, none⟩ = some v
  c1 : w.cell? ⟨b, 1, none⟩ = some err
  fr : ∀ k, w.frozen? ⟨b, k, none⟩ = false
  own : w.ownsRow 0 5 1 v L.length (rowB L)
  sb : S b
  sv : ∀ g, v.ownBlock = some g → S g ∧ g ≠ b
  lt : ∀ k, S k → k < w.heap.size
  bit : ∀ x ∈ L, x ≤ 1
def WrAt (w : World) (S : Nat → Prop) (b : Nat) (err : Value) (L : List Nat) : Prop := ∃ v, WrIn w S b v err L
theorem WrIn.keep {w w' : World} {S : Nat → Prop} {b : Nat} {v err : Value} {L : List Nat} (h : WrIn w S b v err L) (hk : ∀ k, S k → w'.heap[k]? = w.heap[k]?) (hz : w.heap.size ≤ w'.heap.size) : WrIn w' S b v err L where
  c0 := by rw [World.cell?_of_block (w := w) (hk b h.sb)]; exact h.c0
  c1 := by rw [World.cell?_of_block (w := w) (hk b h.sb)]; exact h.c1
  fr := fun k => by rw [World.frozen?_of_block (w := w) (hk b h.sb)]; exact h.fr k
  own := ownsRow_block h.own (fun g hg => hk g (h.sv g hg).1)
  sb := h.sb
  sv := h.sv
  lt := fun k hk' => Nat.lt_of_lt_of_le (h.lt k hk') hz
  bit := h.bit
theorem WrAt.keep {w w' : World} {S : Nat → Prop} {b : Nat} {err : Value} {L : List Nat} (h : WrAt w S b err L) (hk : ∀ k, S k → w'.heap[k]? = w.heap[k]?) (hz : w.heap.size ≤ w'.heap.size) : WrAt w' S b err L :=
  let ⟨v, h⟩ := h; ⟨v, h.keep hk hz⟩
theorem WrAt.lt {w : World} {S : Nat → Prop} {b : Nat} {err : Value} {L : List Nat} (h : WrAt w S b err L) : ∀ k, S k → k < w.heap.size := let ⟨_, h⟩ := h; h.lt
theorem WrAt.fr {w w' : World} {S T : Nat → Prop} {b : Nat} {err : Value} {L : List Nat} (h : WrAt w S b err L) (hf : Fr T w w') (hd : ∀ k, S k → ¬ T k) : WrAt w' S b err L :=
  h.keep (fun k hk => hf.block k (h.lt k hk) (hd k hk)) hf.size

/-- The bits of a number, the highest first. -/
def bitsOf (n wide : Nat) : List Nat := (List.range wide).map fun j => n / 2 ^ (wide - 1 - j) % 2
theorem bitsOf_length (n wide : Nat) : (bitsOf n wide).length = wide := by simp [bitsOf]
theorem bitsOf_take (n wide j : Nat) (h : j < wide) : (bitsOf n wide).take (j + 1) = (bitsOf n wide).take j ++ [n / 2 ^ (wide - 1 - j) % 2] := by
  rw [List.take_succ_eq_append_getElem (by rw [bitsOf_length]; exact h)]
  simp [bitsOf]
theorem bitsOf_bit (n wide : Nat) : ∀ x ∈ bitsOf n wide, x ≤ 1 := by
  intro x hx
  obtain ⟨j, _, rfl⟩ := List.mem_map.1 hx
  omega
def WrPost (w : World) (S : Nat → Prop) (b : Nat) (err : Value) (L : List Nat) (r : Value) (e : Ending) (w' : World) : Prop :=
  e = .returned r ∧ ∃ S', WrAt w' S' b err L ∧ Fr S w w' ∧ ∀ k, S' k → S k ∨ w.heap.size ≤ k

theorem two63 : (2 : Int) ^ 63 = 9223372036854775808 := by decide
theorem low_bit (m : Nat) (h : m < 4294967296) : bits .and .i64 (m : Int) 1 = ((m % 2 : Nat) : Int) := by
  have h := bits_mask .i64 63 (by decide) (fun n h0 h1 => by rw [two63] at h1; rw [IntKind.wrap_i64]; omega) 1 (by decide) (m : Int) (by omega) (by rw [two63]; omega)
  rw [show ((2 : Int) ^ 1 - 1) = 1 from rfl, show ((2 : Int) ^ 1) = 2 from rfl] at h
  rw [h]; omega
theorem width_c (n : Nat) (w : World) (h0 : 1 ≤ n) (h1 : n ≤ 32) : Calls Tryd.prog 38 #[.int .i64 (n : Int)] w fun e w' => e = .returned (.bool true) ∧ w' = w := by
  go_enter Tryd.func38, Tryd.ntmps38
  go_wp2
  go_ret
  refine ⟨?_, rfl⟩
  have h : ((n : Int) ≤ 32) := by omega
  simp [h]

theorem put_bad (w : World) (b : Nat) (n : Int) (wide : Nat) (hw0 : 1 ≤ wide) (hw1 : wide ≤ 16) (hn : n < 0 ∨ (2 : Int) ^ wide ≤ n) (hr : -9223372036854775808 ≤ n ∧ n ≤ 9223372036854775807) :
    Calls Tryd.prog 29 #[.pointer (some ⟨b, 0, none⟩), .int .i64 n, .int .i64 (wide : Int)] w fun e w' => e = .returned (.int .i64 5) ∧ w' = w := by
  rcases hn with hn | hn
  · go_enter Tryd.func29, Tryd.ntmps29
    go_wp2_with fail
    refine (width_c wide w hw0 (by omega)).mono ?_
    rintro e w' ⟨rfl, rfl⟩
    go_wp2
    go_ret
    exact ⟨rfl, rfl⟩
  · go_enter Tryd.func29, Tryd.ntmps29
    go_wp2_with fail
    refine (width_c wide w hw0 (by omega)).mono ?_
    rintro e w' ⟨rfl, rfl⟩
    have hn0 : 0 ≤ n := Int.le_trans (Int.le_of_lt (Int.pow_pos (by omega))) hn
    have h1 : 1 ≤ n / 2 ^ wide := (Int.le_ediv_iff_mul_le (Int.pow_pos (by omega))).2 (by rw [Int.one_mul]; exact hn)
    have hb : (n / 2 ^ wide != 0) = true := by simp; omega
    go_wp2
    go_ret
    exact ⟨rfl, rfl⟩

set_option maxRecDepth 8000 in
set_option maxHeartbeats 1000000 in
theorem put_good (w : World) (S : Nat → Prop) (b : Nat) (err : Value) (L : List Nat) (n wide : Nat) (h : WrAt w S b err L) (hw0 : 1 ≤ wide) (hw1 : wide ≤ 16) (hn : n < 2 ^ wide) (hL : L.length ≤ 1000000) :
    Calls Tryd.prog 29 #[.pointer (some ⟨b, 0, none⟩), .int .i64 (n : Int), .int .i64 (wide : Int)] w (WrPost w S b err (L ++ bitsOf n wide) (.int .i64 0)) := by
  obtain ⟨i0, hi, hi0, hi1, hi2⟩ := info_parts infoB
  have h2 : (2 : Nat) ^ wide ≤ 2 ^ 16 := Nat.pow_le_pow_right (by omega) hw1
  have hn16 : n < 65536 := by have e : (2 : Nat) ^ 16 = 65536 := rfl; omega
  have hb : ((n : Int) / 2 ^ wide != 0) = false := by
    have e : ((2 : Int) ^ wide) = ((2 ^ wide : Nat) : Int) := by push_cast; rfl
    rw [e, ← Int.natCast_ediv, Nat.div_eq_of_lt hn]; rfl
  clear h2
  have hh := Lib.hid h
  clear h
  go_enter Tryd.func29, Tryd.ntmps29
  go_wp2_with fail
  refine (width_c wide w hw0 (by omega)).mono ?_
  rintro e w' ⟨rfl, hww⟩
  subst w'
  go_wp2
  go_loopw [7] (fun s7 wr => ∃ (k : Nat) (z : Int) (S' : Nat → Prop), k ≤ wide ∧ z = (k : Int) - 1 ∧ s7 = .int .i64 z ∧ Aside (WrAt wr S' b err (L ++ (bitsOf n wide).take (wide - k)) ∧ Fr S w wr ∧ ∀ k, S' k → S k ∨ w.heap.size ≤ k))
    (fun s7 _ => (intOf s7 + 1).toNat)
  case atStart => exact ⟨wide, _, S, Nat.le_refl _, rfl, rfl, by rw [Nat.sub_self, List.take_zero, List.append_nil]; exact hh.out, Fr.refl _ _, fun k hk => .inl hk⟩
  case round =>
    obtain ⟨k, z, S', hk, hz, rfl, hA⟩ := hrel
    have hA' := Lib.hid hA
    clear hA
    cases k with
    | succ k =>
      obtain rfl : z = (k : Int) := by omega
      obtain ⟨v, H⟩ := hA'.out.1
      clear hz
      have hbit : bits .and .i64 ((n : Int) / 2 ^ k) 1 = ((n / 2 ^ k % 2 : Nat) : Int) := by
        have e : ((n : Int) / 2 ^ k) = ((n / 2 ^ k : Nat) : Int) := by rw [Int.natCast_ediv]; push_cast; rfl
        rw [e]
        exact low_bit _ (Nat.lt_of_le_of_lt (Nat.div_le_self _ _) (by omega))
      have htk : (bitsOf n wide).take (wide - k) = (bitsOf n wide).take (wide - (k + 1)) ++ [n / 2 ^ k % 2] := by
        have h1 := bitsOf_take n wide (wide - (k + 1)) (by omega)
        rw [show wide - (k + 1) + 1 = wide - k by omega, show wide - 1 - (wide - (k + 1)) = k by omega] at h1
        exact h1
      have hy : n / 2 ^ k % 2 ≤ 1 := by omega
      generalize n / 2 ^ k % 2 = y at hbit htk hy
      have htk' := Lib.hid htk
      have hLl : (L ++ (bitsOf n wide).take (wide - (k + 1))).length ≤ 2000000 := by
        have := List.length_take_le (wide - (k + 1)) (bitsOf n wide)
        rw [List.length_append]; omega
      generalize hL1 : L ++ (bitsOf n wide).take (wide - (k + 1)) = L1 at *
      have hL1' := Lib.hid hL1
      clear hL1
      clear htk
      obtain ⟨va, vl, vc, rfl⟩ := ownsRow_slice H.own
      have fA := Lib.hid hA'.out.2
      clear hA'
      go_wp2
      (refine wp_region_can [[], [], [1], [1, 2], [1, 2, 3], [], [], [5, 6], [5, 6, 7], [5, 6, 7, 8], [5, 6, 7, 8, 9], [1, 2, 3, 4, 5, 6, 7, 8, 9, 10], [0, 1, 2, 3, 4, 5, 6, 7, 8, 9, 10, 11], [0, 1, 2, 3, 4, 5, 6, 7, 8, 9, 10, 11, 12], [0, 1, 2, 3, 4, 5, 6, 7, 8, 9, 10, 11, 12, 13]] [.st 0 .pure, .st 1 .pure, .st 2 .pure, .st 3 .pure, .st 4 .keep, .st 5 .drop, .st 6 .drop, .st 7 .drop, .st 8 .drop, .st 9 .drop, .ef 10 [0, 1, 2, 3, 4], .ef 11 [0], .st 12 .drop, .st 13 .drop, .ef 14 []] (by kernel_rfl) (by kernel_rfl) ?_; try simp only [Act.put])
      generalize hw1 : World.drew _ = w1
      have H1 := H.keep (w' := w1) (fun k hk => by rw [← hw1]; rfl) (by rw [← hw1]; exact Nat.le_refl _)
      have f1 : Fr S w w1 := by rw [← hw1]; exact fA.out.1.drew
      have c0 := H1.c0
      have f0 := H1.fr 0
      have hbl := H1.lt b H1.sb
      clear hw1
      (repeat (first | (refine can_drop rfl rfl (fun K hK => ?_); go_big_quiet_op; refine hK _ ?_; clear hK K) | (refine can_pure ?_ rfl rfl (fun W K hK => ?_) ?_; rotate_left; (focus (go_big_quiet_op; exact hK))) | (refine can_keep rfl rfl (fun K hK => ?_); go_big_quiet_op; refine hK _ ?_; clear hK K) | (refine can_skip rfl rfl ?_; simp only [Act.put, List.setIfInBounds_toArray, List.set_cons_succ, List.set_cons_zero])))
      refine can_ef rfl (fun K hK => ?_)
      go_wp2
      refine hK _ _ ⟨?_, ?_⟩; (focus (simp only [ReAll, List.contains_cons, List.contains_nil, Nat.reduceBEq, Bool.or_true, Bool.true_or, Bool.or_false, if_true, Bool.false_eq_true, if_false, and_true, true_and] <;> repeat' (first | trivial | (refine And.intro ?_ ?_) | (unfold YA; go_big_quiet_op; rfl)))); clear hK K
      refine can_ef rfl (fun K hK => ?_)
      refine wpList_append_own_at _ rfl _ _ 28 rfl 0 5 i0 _ 1 1 Tryd.underlying28 hi hi0 hi1 hi2 rfl (by decide) (.slice va vl vc) _ _ rfl (H1.own.alloc _) ⟨w1.heap.size, 0, none⟩ 1 1 [.int .u8 (y : Int)] rfl rfl (cell_one_new _ _ _) (ints_oneCell .u8 [(y : Int)]) (by unfold maxLen; omega) (by omega) (by simp) ?_
      intro v' w4 hown' hgrow hnil hloc
      obtain ⟨sa, sl, sc, rfl⟩ := ownsRow_slice hown'
      go_wp2
      refine hK _ _ ⟨?_, ?_⟩; (focus (simp only [ReAll, List.contains_cons, List.contains_nil, Nat.reduceBEq, Bool.or_true, Bool.true_or, Bool.or_false, if_true, Bool.false_eq_true, if_false, and_true, true_and] <;> repeat' (first | trivial | (refine And.intro ?_ ?_) | (unfold YA; go_big_quiet_op; rfl)))); clear hK K
      have hz4 := hgrow.size
      simp at hz4
      have hvb : (Value.slice va vl vc).ownBlock ≠ some b := fun e => (H1.sv b e).2 rfl
      have hb4 : ∀ q, q < w1.heap.size → (Value.slice va vl vc).ownBlock ≠ some q → w4.heap[q]? = w1.heap[q]? := fun q hq hne => by
        rw [hgrow.block q (by simp; omega) (Ne.symm hne)]; exact Below.heap_alloc _ _ _ hq
      have c04 : w4.cell? ⟨b, 0, none⟩ = some (.slice va vl vc) := by
        rw [World.cell?_of_block (w := w1) (a := ⟨b, 0, none⟩) (hb4 b hbl hvb)]; exact c0
      have f04 : w4.frozen? ⟨b, 0, none⟩ = false := by
        rw [World.frozen?_of_block (w := w1) (a := ⟨b, 0, none⟩) (hb4 b hbl hvb)]; exact f0
      have f4 : Fr S w w4 := (f1.alloc _).grown hgrow (fun q hq => fA.out.2 q (H1.sv q hq).1)
      (repeat (first | (refine can_drop rfl rfl (fun K hK => ?_); go_big_quiet_op; refine hK _ ?_; clear hK K) | (refine can_pure ?_ rfl rfl (fun W K hK => ?_) ?_; rotate_left; (focus (go_big_quiet_op; exact hK))) | (refine can_keep rfl rfl (fun K hK => ?_); go_big_quiet_op; refine hK _ ?_; clear hK K) | (refine can_skip rfl rfl ?_; simp only [Act.put, List.setIfInBounds_toArray, List.set_cons_succ, List.set_cons_zero])))
      refine can_ef rfl (fun K hK => ?_)
      go_wp2
      refine hK _ _ ⟨?_, ?_⟩; (focus (simp only [ReAll, List.contains_cons, List.contains_nil, Nat.reduceBEq, Bool.or_true, Bool.true_or, Bool.or_false, if_true, Bool.false_eq_true, if_false, and_true, true_and] <;> repeat' (first | trivial | (refine And.intro ?_ ?_) | (unfold YA; go_big_quiet_op; rfl)))); clear hK K
      refine can_nil ?_
      go_wp2
      refine ⟨⟨k, _, fun q => S' q ∨ (Value.slice sa sl sc).ownBlock = some q, by omega, rfl, rfl, ⟨.slice sa sl sc, ?_⟩, f4.setCell (p := ⟨b, 0, none⟩) (fA.out.2 b H1.sb) _, ?_⟩, by simp [intOf]⟩
      · rw [htk'.out, ← List.append_assoc, hL1'.out]
        have hbs : ∀ q, q ≠ b → (w4.setCell ⟨b, 0, none⟩ (.slice sa sl sc)).heap[q]? = w4.heap[q]? := fun q hq => Below.heap_setCell _ _ _ _ hq
        have hov : ∀ g, (Value.slice sa sl sc).ownBlock = some g → g ≠ b := fun g hg e => by
          subst e
          rcases hloc with h1 | h1
          · rw [h1] at hg; exact hvb hg
          · rw [h1] at hg; injection hg with hg; simp at hg; omega
        refine { c0 := World.cell?_setCell_same _ _ _ c04, c1 := ?_, fr := fun q => ?_, own := ?_, sb := .inl H1.sb, sv := fun q hq => ⟨.inr hq, hov q hq⟩, lt := ?_, bit := ?_ }
        · rw [World.cell?_setCell_other _ _ _ _ (fun e => by injection e with _ e _; omega), World.cell?_of_block (w := w1) (a := ⟨b, 1, none⟩) (hb4 b hbl hvb)]; exact H1.c1
        · rw [World.frozen?_setCell, World.frozen?_of_block (w := w1) (a := ⟨b, q, none⟩) (hb4 b hbl hvb)]; exact H1.fr q
        · have h2 := ownsRow_block (w' := w4.setCell ⟨b, 0, none⟩ (.slice sa sl sc)) hown' (fun q hq => hbs q (hov q hq))
          have e : rowB (L1 ++ [y]) = rowB L1 ++ [Value.int .u8 (y : Int)] := by simp [rowB]
          rw [e, List.length_append]
          exact h2
        · rintro q (hq | hq)
          · have := H1.lt q hq; simp; omega
          · have := (hown'.lt q hq).2; simp; omega
        · intro x hx
          rcases List.mem_append.1 hx with h | h
          · exact H1.bit x h
          · simp at h; omega
      · rintro q (hq | hq)
        · exact fA.out.2 q hq
        · rcases hloc with h1 | h1
          · rw [h1] at hq; exact fA.out.2 q (H1.sv q hq).1
          · rw [h1] at hq; injection hq with hq; have := f1.size; simp at hq; right; omega
    | zero =>
      have hneg : ¬ 0 ≤ z := by omega
      clear hz
      go_wp2
      go_ret
      have := hA'.out.1
      rw [Nat.sub_zero, List.take_of_length_le (by rw [bitsOf_length]; exact Nat.le_refl _)] at this
      exact ⟨rfl, S', this, hA'.out.2.1, hA'.out.2.2⟩
#print axioms put_good
end Go.Proofs.YtkmknpobinpegaaDoor
