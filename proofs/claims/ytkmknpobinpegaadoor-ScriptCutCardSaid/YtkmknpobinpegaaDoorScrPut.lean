/- Layer 29's writer: put and count, as they change bits and error. -/
import Derived.Test.YtkmknpobinpegaaDoorBitW
namespace Go.Proofs.YtkmknpobinpegaaDoor
open Go Go.RowKit Go.Maps Go.Sort Go.Lib
set_option linter.unusedSimpArgs false
set_option linter.unusedVariables false

/-- The writer: its bits, or that it is broken. -/
def WsAt (w : World) (S : Nat → Prop) (b : Nat) : Option (List Nat) → Prop
  | some L => WrAt w S b .nilIface L
  | none => ∃ e L, WrAt w S b (.iface 73 (.pointer (some ⟨e, 0, none⟩))) L ∧ w.cell? ⟨e, 1, none⟩ = some (.int .i64 5) ∧ S e
theorem WsAt.lt {w : World} {S : Nat → Prop} {b : Nat} {st : Option (List Nat)} (h : WsAt w S b st) : ∀ k, S k → k < w.heap.size := by
  cases st with
  | some L => exact WrAt.lt h
  | none => obtain ⟨e, L, h, _⟩ := h; exact h.lt
theorem WsAt.sb {w : World} {S : Nat → Prop} {b : Nat} {st : Option (List Nat)} (h : WsAt w S b st) : S b := by
  cases st with
  | some L => obtain ⟨v, h⟩ := h; exact h.sb
  | none => obtain ⟨e, L, ⟨v, h⟩, _⟩ := h; exact h.sb
theorem WsAt.keep {w w' : World} {S : Nat → Prop} {b : Nat} {st : Option (List Nat)} (h : WsAt w S b st) (hk : ∀ k, S k → w'.heap[k]? = w.heap[k]?) (hz : w.heap.size ≤ w'.heap.size) : WsAt w' S b st := by
  cases st with
  | some L => exact WrAt.keep h hk hz
  | none =>
    obtain ⟨e, L, h, h1, h2⟩ := h
    exact ⟨e, L, h.keep hk hz, by rw [World.cell?_of_block (w := w) (a := ⟨e, 1, none⟩) (hk e h2)]; exact h1, h2⟩
theorem WsAt.fr {w w' : World} {S T : Nat → Prop} {b : Nat} {st : Option (List Nat)} (h : WsAt w S b st) (hf : Fr T w w') (hd : ∀ k, S k → ¬ T k) : WsAt w' S b st :=
  h.keep (fun k hk => hf.block k (h.lt k hk) (hd k hk)) hf.size

def putS (st : Option (List Nat)) (n : Int) (wide : Nat) : Option (List Nat) := match st with
  | none => none
  | some L => if 0 ≤ n ∧ n < 2 ^ wide then some (L ++ bitsOf n.toNat wide) else none
def WsPost (w : World) (S : Nat → Prop) (b : Nat) (st : Option (List Nat)) (e : Ending) (w' : World) : Prop :=
  e = .returned (.tuple #[]) ∧ ∃ S', WsAt w' S' b st ∧ Fr S w w' ∧ ∀ k, S' k → S k ∨ w.heap.size ≤ k
def StLen (st : Option (List Nat)) (m : Nat) : Prop := ∀ L, st = some L → L.length ≤ m

theorem ws_break {w : World} {S : Nat → Prop} {b : Nat} {L : List Nat} (s : Value) (h : WrAt w S b .nilIface L) :
    WsPost w S b none (.returned (.tuple #[])) ((w.setCell ⟨b, 1, none⟩ (.iface 73 (.pointer (some ⟨w.heap.size, 0, none⟩)))).alloc (.cells #[s, .int .i64 5] 77)) := by
  obtain ⟨v, H⟩ := h
  have hb := H.lt b H.sb
  rw [← World.setCell_alloc_past _ _ _ _ hb]
  have hbs : ∀ q, q ≠ b → ((w.alloc (.cells #[s, .int .i64 5] 77)).setCell ⟨b, 1, none⟩ (.iface 73 (.pointer (some ⟨w.heap.size, 0, none⟩)))).heap[q]? = (w.alloc (.cells #[s, .int .i64 5] 77)).heap[q]? := fun q hq => Below.heap_setCell _ _ _ _ hq
  have ha : ∀ q, q < w.heap.size → (w.alloc (.cells #[s, .int .i64 5] 77)).heap[q]? = w.heap[q]? := fun q hq => Below.heap_alloc _ _ _ hq
  have c1 : (w.alloc (.cells #[s, .int .i64 5] 77)).cell? ⟨b, 1, none⟩ = some .nilIface := by
    rw [World.cell?_of_block (w := w) (a := ⟨b, 1, none⟩) (ha b hb)]; exact H.c1
  refine ⟨rfl, fun k => S k ∨ k = w.heap.size, ⟨w.heap.size, L, ⟨v, ?_⟩, ?_, .inr rfl⟩, ((Fr.refl S w).alloc _).setCell (p := ⟨b, 1, none⟩) (.inl H.sb) _, ?_⟩
  · refine { c0 := ?_, c1 := World.cell?_setCell_same _ _ _ c1, fr := fun k => ?_, own := ?_, sb := .inl H.sb, sv := fun g hg => ⟨.inl (H.sv g hg).1, (H.sv g hg).2⟩, lt := ?_, bit := H.bit }
    · rw [World.cell?_setCell_other _ _ _ _ (fun e => by injection e with _ e _; omega), World.cell?_of_block (w := w) (a := ⟨b, 0, none⟩) (ha b hb)]; exact H.c0
    · rw [World.frozen?_setCell, World.frozen?_of_block (w := w) (a := ⟨b, k, none⟩) (ha b hb)]; exact H.fr k
    · exact ownsRow_block (H.own.alloc _) (fun g hg => hbs g (H.sv g hg).2)
    · rintro k (hk | hk)
      · have := H.lt k hk; simp; omega
      · simp; omega
  · rw [World.cell?_setCell_other _ _ _ _ (fun e => by injection e with e _ _; omega), World.cell?_alloc_new]; rfl
  · rintro k (hk | hk)
    · exact .inl hk
    · right; omega

theorem put_c (w : World) (S : Nat → Prop) (b : Nat) (st : Option (List Nat)) (s : ByteArray) (n : Int) (wide : Nat) (h : WsAt w S b st) (hw0 : 1 ≤ wide) (hw1 : wide ≤ 16) (hl : StLen st 1000000) (hr : -9223372036854775808 ≤ n ∧ n ≤ 9223372036854775807) :
    Calls Tryd.prog 19 #[.pointer (some ⟨b, 0, none⟩), .string s, .int .i64 n, .int .i64 (wide : Int)] w (WsPost w S b (putS st n wide)) := by
  cases st with
  | none =>
    have hh := Lib.hid h
    obtain ⟨e, L, ⟨v, H⟩, _⟩ := h
    have c1 := H.c1
    clear H
    go_enter Tryd.func19, Tryd.ntmps19
    go_wp2
    refine bodyPost_ret (results_none rfl _ _ _) rfl ?_
    exact ⟨rfl, S, hh.out, Fr.refl _ _, fun k hk => .inl hk⟩
  | some L =>
    have hh := Lib.hid h
    have hl' := hl L rfl
    obtain ⟨v, H⟩ := h
    have c1 := H.c1
    have f1 := H.fr 1
    have hbl := H.lt b H.sb
    clear H
    by_cases hn : 0 ≤ n ∧ n < 2 ^ wide
    · obtain ⟨m, rfl⟩ : ∃ m : Nat, n = (m : Int) := ⟨n.toNat, by omega⟩
      have hm : m < 2 ^ wide := by have := hn.2; exact_mod_cast this
      have e1 : putS (some L) (m : Int) wide = some (L ++ bitsOf m wide) := by show (if _ then _ else _) = _; rw [if_pos hn]; rfl
      have he1 := Lib.hid e1
      have hp := put_good w S b .nilIface L m wide hh.out hw0 hw1 hm hl'
      clear e1 hn hm
      go_enter Tryd.func19, Tryd.ntmps19
      go_wp2_with fail
      refine hp.mono ?_
      rintro e w1 ⟨rfl, S1, hW1, hF1, hS1⟩
      go_wp2
      refine bodyPost_end (results_none rfl _ _ _) rfl ?_
      rw [he1.out]
      exact ⟨rfl, S1, hW1, hF1, hS1⟩
    · have hn' : n < 0 ∨ (2 : Int) ^ wide ≤ n := by omega
      have e1 : putS (some L) n wide = none := by unfold putS; exact if_neg hn
      have he1 := Lib.hid e1
      have hp := put_bad w b n wide hw0 hw1 hn' hr
      clear e1 hn hn'
      go_enter Tryd.func19, Tryd.ntmps19
      go_wp2_with fail
      refine hp.mono ?_
      rintro e w1 ⟨rfl, hw1⟩
      subst w1
      go_wp2
      refine bodyPost_end (results_none rfl _ _ _) rfl ?_
      rw [he1.out]
      exact ws_break (.string s) hh.out
theorem count_c (w : World) (S : Nat → Prop) (b : Nat) (st : Option (List Nat)) (s : ByteArray) (n most : Int) (wide : Nat) (h : WsAt w S b st) (hw0 : 1 ≤ wide) (hw1 : wide ≤ 16) (hl : StLen st 1000000) (hr : -9223372036854775808 ≤ n ∧ n ≤ 9223372036854775807) :
    Calls Tryd.prog 20 #[.pointer (some ⟨b, 0, none⟩), .string s, .int .i64 n, .int .i64 most, .int .i64 (wide : Int)] w (WsPost w S b (if n > most then none else putS st n wide)) := by
  have hh := Lib.hid h
  by_cases hm : n > most
  · have e1 : (if n > most then none else putS st n wide) = none := if_pos hm
    rw [e1]
    cases st with
    | none =>
      obtain ⟨e, L, ⟨v, H⟩, _⟩ := h
      have c1 := H.c1
      clear H e1
      go_enter Tryd.func20, Tryd.ntmps20
      go_wp2_with fail
      refine (put_c w S b none s n wide hh.out hw0 hw1 (fun L h => by cases h) hr).mono ?_
      rintro e w1 ⟨rfl, S1, hW1, hF1, hS1⟩
      go_wp2
      refine bodyPost_end (results_none rfl _ _ _) rfl ?_
      exact ⟨rfl, S1, hW1, hF1, hS1⟩
    | some L =>
      obtain ⟨v, H⟩ := h
      have c1 := H.c1
      have f1 := H.fr 1
      have hbl := H.lt b H.sb
      obtain ⟨_, S1, hW1, hF1, hS1⟩ := ws_break (.string s) (h := (hh.out : WrAt w S b .nilIface L))
      clear H e1
      have hp := put_c _ S1 b none s n wide hW1 hw0 hw1 (fun L h => by cases h) hr
      have hx := Lib.hid (And.intro hF1 hS1)
      clear hW1 hF1 hS1
      go_enter Tryd.func20, Tryd.ntmps20
      go_wp2_with fail
      refine hp.mono ?_
      rintro e w1 ⟨rfl, S2, hW2, hF2, hS2⟩
      go_wp2
      refine bodyPost_end (results_none rfl _ _ _) rfl ?_
      have hz := hx.out.1.size
      exact ⟨rfl, S2, hW2, hx.out.1.trans hF2 hx.out.2, fun k hk => by
        rcases hS2 k hk with h | h
        · exact hx.out.2 k h
        · right; omega⟩
  · have e1 : (if n > most then none else putS st n wide) = putS st n wide := if_neg hm
    rw [e1]
    clear e1
    go_enter Tryd.func20, Tryd.ntmps20
    go_wp2_with fail
    refine (put_c w S b st s n wide hh.out hw0 hw1 hl hr).mono ?_
    rintro e w1 ⟨rfl, S1, hW1, hF1, hS1⟩
    go_wp2
    refine bodyPost_end (results_none rfl _ _ _) rfl ?_
    exact ⟨rfl, S1, hW1, hF1, hS1⟩
#print axioms put_c
#print axioms count_c
end Go.Proofs.YtkmknpobinpegaaDoor
