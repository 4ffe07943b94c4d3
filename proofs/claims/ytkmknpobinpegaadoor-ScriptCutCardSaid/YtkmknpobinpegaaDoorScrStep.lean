/- Layer 29's writer: a step. -/
import Derived.Test.YtkmknpobinpegaaDoorScrPut
import Derived.LoopTactic
namespace Go.Proofs.YtkmknpobinpegaaDoor
open Go Go.RowKit Go.Maps Go.Sort Go.Lib
set_option linter.unusedSimpArgs false
set_option linter.unusedVariables false

/-- A row that may be read: its value, its elements, its block. -/
def Rd {α : Type} [Inhabited α] (enc : α → Value) (w : World) (T : Nat → Prop) (v : Value) (xs : List α) : Prop :=
  ∃ a c, v = .slice a xs.length c ∧ xs.length ≤ c ∧ c ≤ maxLen ∧ (0 < xs.length → ∃ x : Addr, a = some x ∧ T x.block ∧ x.block < w.heap.size ∧ ∀ j, j < xs.length → w.cell? (x.add j) = some (enc xs[j]!))
theorem Rd.keep {α : Type} [Inhabited α] {enc : α → Value} {w w' : World} {T : Nat → Prop} {v : Value} {xs : List α} (h : Rd enc w T v xs) (hk : ∀ k, T k → k < w.heap.size → w'.heap[k]? = w.heap[k]?) (hz : w.heap.size ≤ w'.heap.size) : Rd enc w' T v xs := by
  obtain ⟨a, c, rfl, h1, h2, h3⟩ := h
  refine ⟨a, c, rfl, h1, h2, fun h0 => ?_⟩
  obtain ⟨x, rfl, hT, hx, hc⟩ := h3 h0
  refine ⟨x, rfl, hT, by omega, fun j hj => ?_⟩
  have hb : (x.add j).block = x.block := by unfold Addr.add; split <;> rfl
  rw [World.cell?_of_block (w := w) (by rw [hb]; exact hk x.block hT hx)]
  exact hc j hj

abbrev encN (n : Int) : Value := .int .i64 n
structure Stp where
  kind : Int
  k : Int
  bytes : List Nat
  at_ : List Int
  deriving Inhabited
def numOk (n : Int) : Prop := -9223372036854775808 ≤ n ∧ n ≤ 9223372036854775807
structure StpOk (x : Stp) : Prop where
  k1 : numOk x.kind
  k2 : numOk x.k
  b : ∀ y ∈ x.bytes, y < 256
  a : ∀ y ∈ x.at_, numOk y
  lb : x.bytes.length ≤ 1000
  la : x.at_.length ≤ 1000
def bytesS (st : Option (List Nat)) (l : List Nat) : Option (List Nat) := l.foldl (fun (s : Option (List Nat)) (y : Nat) => putS s (y : Int) 8) st
def atS (st : Option (List Nat)) (l : List Int) : Option (List Nat) := l.foldl (fun (s : Option (List Nat)) (y : Int) => putS s y 16) st
def countS (st : Option (List Nat)) (n most wide : Nat) : Option (List Nat) := if (n : Int) > (most : Int) then none else putS st (n : Int) wide
def headS (st : Option (List Nat)) (x : Stp) : Option (List Nat) := countS (putS (putS st x.kind 8) x.k 16) x.bytes.length 255 8
def stepS (st : Option (List Nat)) (x : Stp) : Option (List Nat) := atS (countS (bytesS (headS st x) x.bytes) x.at_.length 255 8) x.at_

theorem putS_len {st : Option (List Nat)} {m : Nat} (h : StLen st m) (n : Int) (wide : Nat) : StLen (putS st n wide) (m + wide) := by
  intro L hL
  cases st with
  | none => cases hL
  | some L0 =>
    have h0 := h L0 rfl
    unfold putS at hL
    simp only at hL
    split at hL
    · injection hL with hL; subst hL; rw [List.length_append, bitsOf_length]; omega
    · cases hL
theorem countS_len {st : Option (List Nat)} {m : Nat} (h : StLen st m) (n most wide : Nat) : StLen (countS st n most wide) (m + wide) := by
  unfold countS
  split
  · intro L hL; cases hL
  · exact putS_len h _ _
theorem bytesS_len {l : List Nat} : ∀ {st : Option (List Nat)} {m : Nat}, StLen st m → StLen (bytesS st l) (m + 8 * l.length) := by
  induction l with
  | nil => intro st m h; exact h
  | cons y r ih =>
    intro st m h
    have := ih (putS_len h (y : Int) 8)
    intro L hL
    have h1 := this L hL
    simp only [List.length_cons]; omega
theorem atS_len {l : List Int} : ∀ {st : Option (List Nat)} {m : Nat}, StLen st m → StLen (atS st l) (m + 16 * l.length) := by
  induction l with
  | nil => intro st m h; exact h
  | cons y r ih =>
    intro st m h
    have := ih (putS_len h y 16)
    intro L hL
    have h1 := this L hL
    simp only [List.length_cons]; omega
theorem StLen.mono {st : Option (List Nat)} {m m' : Nat} (h : StLen st m) (hm : m ≤ m') : StLen st m' := fun L hL => Nat.le_trans (h L hL) hm
theorem take_snoc {α : Type} [Inhabited α] {l : List α} {j : Nat} (h : j < l.length) : l.take (j + 1) = l.take j ++ [l[j]!] := by rw [List.take_succ_eq_append_getElem h, getElem!_pos l j h]
theorem bytesS_snoc (st : Option (List Nat)) (l : List Nat) (y : Nat) : bytesS st (l ++ [y]) = putS (bytesS st l) (y : Int) 8 := by unfold bytesS; rw [List.foldl_append]; rfl
theorem atS_snoc (st : Option (List Nat)) (l : List Int) (y : Int) : atS st (l ++ [y]) = putS (atS st l) y 16 := by unfold atS; rw [List.foldl_append]; rfl

/-- A writer on its way from wp on. -/
def Way (wp : World) (S : Nat → Prop) (b : Nat) (wi : World) (Si : Nat → Prop) (st : Option (List Nat)) : Prop :=
  WsAt wi Si b st ∧ Fr S wp wi ∧ ∀ k, Si k → S k ∨ wp.heap.size ≤ k
theorem Way.next {wp wi w2 : World} {S Si : Nat → Prop} {b : Nat} {st st2 : Option (List Nat)} {e : Ending} (hQ : Way wp S b wi Si st) (hP : WsPost wi Si b st2 e w2) : e = .returned (.tuple #[]) ∧ ∃ S2, Way wp S b w2 S2 st2 := by
  obtain ⟨he, S2, h1, h2, h3⟩ := hP
  have hz := hQ.2.1.size
  exact ⟨he, S2, h1, hQ.2.1.trans h2 hQ.2.2, fun k hk => by
    rcases h3 k hk with h | h
    · exact hQ.2.2 k h
    · right; omega⟩
/-- What a step leaves: the writer, and what is told. -/
def StepPost (w : World) (S : Nat → Prop) (b : Nat) (st : Option (List Nat)) (e : Ending) (w' : World) : Prop :=
  ∃ v S', e = .returned v ∧ WsAt w' S' b st ∧ Fr S w w' ∧ (∀ k, S' k → S k ∨ w.heap.size ≤ k) ∧
    match st with
    | some _ => v = .nilIface
    | none => ∃ q, v = .iface 90 (.agg #[.iface 73 (.pointer (some ⟨q, 0, none⟩))]) ∧ w'.cell? ⟨q, 1, none⟩ = some (.int .i64 5)

set_option maxHeartbeats 2000000 in
theorem step_c (w : World) (S T : Nat → Prop) (b : Nat) (st : Option (List Nat)) (x : Stp) (vb va : Value) (h : WsAt w S b st) (hx : StpOk x) (hb : Rd encB w T vb x.bytes) (ha : Rd encN w T va x.at_) (hT : ∀ k, T k → ¬ S k) (hl : StLen st 500000) :
    Calls Tryd.prog 21 #[.pointer (some ⟨b, 0, none⟩), .agg #[.int .i64 x.kind, .int .i64 x.k, vb, va]] w (StepPost w S b (stepS st x)) := by
  obtain ⟨ba, bc, rfl, hbc, hbm, hbh⟩ := hb
  obtain ⟨aa, ac, rfl, hac, ham, hah⟩ := ha
  unfold maxLen at hbm ham
  obtain ⟨wp, hwp⟩ : ∃ wp, wp = w.alloc (.cells #[.int .i64 x.kind, .int .i64 x.k, .slice ba x.bytes.length bc, .slice aa x.at_.length ac] 52) := ⟨_, rfl⟩
  have hzp : wp.heap.size = w.heap.size + 1 := by rw [hwp]; simp
  have h0 : WsAt wp S b st := h.keep (fun k hk => by rw [hwp]; exact Below.heap_alloc _ _ _ (h.lt k hk)) (by omega)
  have hnp : ¬ S w.heap.size := fun hs => by have := h.lt _ hs; omega
  have p0 : wp.cell? ⟨w.heap.size, 0, none⟩ = some (.int .i64 x.kind) := by rw [hwp, World.cell?_alloc_new]; rfl
  have p1 : wp.cell? ⟨w.heap.size, 1, none⟩ = some (.int .i64 x.k) := by rw [hwp, World.cell?_alloc_new]; rfl
  have p2 : wp.cell? ⟨w.heap.size, 2, none⟩ = some (.slice ba x.bytes.length bc) := by rw [hwp, World.cell?_alloc_new]; rfl
  have p3 : wp.cell? ⟨w.heap.size, 3, none⟩ = some (.slice aa x.at_.length ac) := by rw [hwp, World.cell?_alloc_new]; rfl
  have hcp : ∀ {wi : World} {j : Nat}, Fr S wp wi → wi.cell? ⟨w.heap.size, j, none⟩ = wp.cell? ⟨w.heap.size, j, none⟩ := fun {wi j} hf => hf.cell (p := ⟨w.heap.size, j, none⟩) (by show w.heap.size < _; omega) hnp
  have hold : ∀ {wi : World} (y : Addr), Fr S wp wi → T y.block → y.block < w.heap.size → wi.cell? y = w.cell? y := fun {wi} y hf hy hl => by
    rw [hf.cell (p := y) (by omega) (hT _ hy), hwp]
    exact World.cell?_of_block (w := w) (Below.heap_alloc _ _ _ hl)
  have hW0 : Way wp S b wp S st := ⟨h0, Fr.refl _ _, fun k hk => .inl hk⟩
  have hbf : Below w.heap.size w wp := by rw [hwp]; exact (Below.refl _ _).alloc (Nat.le_refl _) _
  have fend : ∀ {wi : World}, Fr S wp wi → Fr S w wi := fun {wi} hf => ⟨hf.os.trans hbf.os, hf.tape.trans hbf.tape, hf.output.trans hbf.output, by have := hf.size; omega, fun k hk hn => (hf.block k (by omega) hn).trans (hbf.block k hk)⟩
  have hx1 := hx.k1
  have hx2 := hx.k2
  have hlb := hx.lb
  have hla := hx.la
  unfold numOk at hx1 hx2
  have l1 := putS_len hl x.kind 8
  have l2 := putS_len l1 x.k 16
  have l3 := countS_len l2 x.bytes.length 255 8
  go_enter Tryd.func21, Tryd.ntmps21
  go_wp2_with fail
  rw [← hwp]
  generalize hpw : w.heap.size = p at *
  have hpw' := Lib.hid hpw
  clear hpw
  clear hwp h0 h
  refine (put_c wp S b st _ x.kind 8 hW0.1 (by omega) (by omega) (hl.mono (by omega)) hx1).mono ?_
  rintro e w1 hP1
  obtain ⟨rfl, S1, hW1⟩ := hW0.next hP1
  clear hP1 p0
  have q1 := (hcp (j := 1) hW1.2.1).trans p1
  go_wp2_with fail
  refine (put_c w1 S1 b _ _ x.k 16 hW1.1 (by omega) (by omega) (l1.mono (by omega)) hx2).mono ?_
  rintro e w2 hP2
  obtain ⟨rfl, S2, hW2⟩ := hW1.next hP2
  clear hP2 p1 q1 hW1
  have q2 := (hcp (j := 2) hW2.2.1).trans p2
  go_wp2_with fail
  refine (count_c w2 S2 b _ _ (x.bytes.length : Int) 255 8 hW2.1 (by omega) (by omega) (l2.mono (by omega)) (by omega)).mono ?_
  rintro e w3 hP3
  obtain ⟨rfl, S3, hW3⟩ := hW2.next hP3
  clear hP3 q2 hW2
  have q2 := (hcp (j := 2) hW3.2.1).trans p2
  have hW3' : Way wp S b w3 S3 (headS st x) := hW3
  clear hW3
  have hH := Lib.hid hW3'
  have l3' : StLen (headS st x) 500032 := l3
  clear hW3' l1 l2 l3
  go_wp2
  go_loopw [25] (fun s25 wr => ∃ (j : Nat) (Sj : Nat → Prop), j ≤ x.bytes.length ∧ s25 = .int .i64 (j : Int) ∧ Aside (Way wp S b wr Sj (bytesS (headS st x) (x.bytes.take j))))
    (fun s25 _ => x.bytes.length - (intOf s25).toNat)
  case atStart => exact ⟨0, S3, Nat.zero_le _, rfl, hH.out⟩
  case round =>
    obtain ⟨j, Sj, hj, rfl, hA⟩ := hrel
    have hWj := Lib.hid hA
    clear hA
    by_cases hlt : j < x.bytes.length
    · obtain ⟨y, rfl, hyT, hyl, hyc⟩ := hbh (by omega)
      have hyb : (y.add j).block = y.block := by unfold Addr.add; split <;> rfl
      have hc := (hold (y.add j) hWj.out.2.1 (by rw [hyb]; exact hyT) (by rw [hyb]; exact hyl)).trans (hyc j hlt)
      have hby := hx.b (x.bytes[j]!) (by rw [getElem!_pos _ j hlt]; exact List.getElem_mem hlt)
      have hlj := bytesS_len (l := x.bytes.take j) l3'
      have hjl := List.length_take_le j x.bytes
      have hput := put_c _ Sj b (bytesS (headS st x) (x.bytes.take j)) ⟨#[98, 121, 116, 101]⟩ (x.bytes[j]! : Int) 8 hWj.out.1 (by omega) (by omega) (hlj.mono (by omega)) (by omega)
      rw [← bytesS_snoc, ← take_snoc hlt] at hput
      generalize x.bytes[j]! = z at hc hby hput
      go_wp2_with fail
      refine hput.mono ?_
      rintro e w4 hP4
      obtain ⟨rfl, S4, hW4⟩ := hWj.out.next hP4
      clear hP4 hput
      have hW4' := Lib.hid hW4
      clear hW4
      go_wp2
      exact ⟨⟨j + 1, S4, by omega, by go_num, hW4'.out⟩, by simp [intOf]; omega⟩
    · obtain rfl : j = x.bytes.length := by omega
      have hWb := hWj.out
      rw [List.take_length] at hWb
      have q3 := (hcp (j := 3) hWb.2.1).trans p3
      have l4 := bytesS_len (l := x.bytes) l3'
      have hWb' := Lib.hid hWb
      clear hWj hWb
      generalize h4e : bytesS (headS st x) x.bytes = st4 at *
      have h4 := Lib.hid h4e
      clear h4e
      go_wp2_with fail
      refine (count_c wr Sj b _ _ (x.at_.length : Int) 255 8 hWb'.out.1 (by omega) (by omega) (l4.mono (by omega)) (by omega)).mono ?_
      rintro e w5 hP5
      obtain ⟨rfl, S5, hW5⟩ := hWb'.out.next hP5
      clear hP5 q3 hWb'
      have q3 := (hcp (j := 3) hW5.2.1).trans p3
      have l5 : StLen (countS st4 x.at_.length 255 8) (500032 + 8 * x.bytes.length + 8) := countS_len l4 _ _ _
      have hW5' : Way wp S b w5 S5 (countS st4 x.at_.length 255 8) := hW5
      have hH5 := Lib.hid hW5'
      clear hW5 hW5' l4
      generalize h5e : countS st4 x.at_.length 255 8 = st5 at *
      have h5 := Lib.hid h5e
      clear h5e
      go_wp2
      go_loopw [42] (fun s42 wr => ∃ (j : Nat) (Sj : Nat → Prop), j ≤ x.at_.length ∧ s42 = .int .i64 (j : Int) ∧ Aside (Way wp S b wr Sj (atS st5 (x.at_.take j))))
        (fun s42 _ => x.at_.length - (intOf s42).toNat)
      case atStart => exact ⟨0, S5, Nat.zero_le _, rfl, hH5.out⟩
      case round =>
        obtain ⟨j, Sj, hj, rfl, hA⟩ := hrel
        have hWj := Lib.hid hA
        clear hA
        by_cases hlt : j < x.at_.length
        · obtain ⟨y, rfl, hyT, hyl, hyc⟩ := hah (by omega)
          have hyb : (y.add j).block = y.block := by unfold Addr.add; split <;> rfl
          have hc := (hold (y.add j) hWj.out.2.1 (by rw [hyb]; exact hyT) (by rw [hyb]; exact hyl)).trans (hyc j hlt)
          have hby := hx.a (x.at_[j]!) (by rw [getElem!_pos _ j hlt]; exact List.getElem_mem hlt)
          unfold numOk at hby
          have hlj := atS_len (l := x.at_.take j) l5
          have hjl := List.length_take_le j x.at_
          have hput := put_c _ Sj b (atS st5 (x.at_.take j)) ⟨#[98, 105, 116]⟩ x.at_[j]! 16 hWj.out.1 (by omega) (by omega) (hlj.mono (by omega)) hby
          rw [← atS_snoc, ← take_snoc hlt] at hput
          generalize x.at_[j]! = z at hc hby hput
          go_wp2_with fail
          refine hput.mono ?_
          rintro e w6 hP6
          obtain ⟨rfl, S6, hW6⟩ := hWj.out.next hP6
          clear hP6 hput
          have hW6' := Lib.hid hW6
          clear hW6
          go_wp2
          exact ⟨⟨j + 1, S6, by omega, by go_num, hW6'.out⟩, by simp [intOf]; omega⟩
        · obtain rfl : j = x.at_.length := by omega
          have hWb := hWj.out
          rw [List.take_length] at hWb
          have hes : atS st5 x.at_ = stepS st x := by unfold stepS; rw [h4.out, h5.out]
          rw [hes] at hWb
          have hWb' := Lib.hid hWb
          clear hWj hes
          obtain ⟨h1, h2, h3⟩ := hWb
          cases hst : stepS st x with
          | some L =>
            rw [hst] at h1
            obtain ⟨v, H⟩ := h1
            have c1 := H.c1
            clear H
            go_wp2
            go_ret
            rw [hst]
            refine ⟨_, Sj, rfl, ?_, fend h2, ?_, rfl⟩
            · have := hWb'.out.1; rw [hst] at this; exact this
            · intro k hk
              rcases h3 k hk with h | h
              · exact .inl h
              · right; have := hpw'.out; omega
          | none =>
            rw [hst] at h1
            obtain ⟨q, L, ⟨v, H⟩, hq, hqS⟩ := h1
            have c1 := H.c1
            clear H
            go_wp2
            go_ret
            rw [hst]
            refine ⟨_, Sj, rfl, ?_, fend h2, ?_, q, rfl, hq⟩
            · have := hWb'.out.1; rw [hst] at this; exact this
            · intro k hk
              rcases h3 k hk with h | h
              · exact .inl h
              · right; have := hpw'.out; omega
#print axioms step_c
end Go.Proofs.YtkmknpobinpegaaDoor
