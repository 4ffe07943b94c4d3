/- Layer 29: a config and steps are written. -/
import Derived.Test.YtkmknpobinpegaaDoorChunkB
namespace Go.Proofs.YtkmknpobinpegaaDoor
open Go Go.RowKit Go.Maps Go.Sort Go.Lib
set_option linter.unusedSimpArgs false
set_option linter.unusedVariables false

/-- A row of steps that may be read. -/
def StpsAt (w : World) (T : Nat → Prop) (v : Value) (xs : List Stp) : Prop :=
  ∃ a c, v = .slice a xs.length c ∧ xs.length ≤ c ∧ c ≤ maxLen ∧ ∀ j, j < xs.length → ∃ (x : Addr) (vb va : Value), a = some x ∧ T x.block ∧ x.block < w.heap.size ∧
    w.cell? (x.add (j * 4)) = some (.int .i64 xs[j]!.kind) ∧ w.cell? ⟨(x.add (j * 4)).block, (x.add (j * 4)).off + 1, none⟩ = some (.int .i64 xs[j]!.k) ∧
    w.cell? ⟨(x.add (j * 4)).block, (x.add (j * 4)).off + 2, none⟩ = some vb ∧ w.cell? ⟨(x.add (j * 4)).block, (x.add (j * 4)).off + 3, none⟩ = some va ∧
    Rd encB w T vb xs[j]!.bytes ∧ Rd encN w T va xs[j]!.at_
theorem add_block (x : Addr) (n : Nat) : (x.add n).block = x.block := by unfold Addr.add; split <;> rfl
theorem StpsAt.keep {w w' : World} {T : Nat → Prop} {v : Value} {xs : List Stp} (h : StpsAt w T v xs) (hk : ∀ k, T k → k < w.heap.size → w'.heap[k]? = w.heap[k]?) (hz : w.heap.size ≤ w'.heap.size) : StpsAt w' T v xs := by
  obtain ⟨a, c, rfl, h1, h2, h3⟩ := h
  refine ⟨a, c, rfl, h1, h2, fun j hj => ?_⟩
  obtain ⟨x, vb, va, rfl, hT, hx, c0, c1, c2, c3, r1, r2⟩ := h3 j hj
  have hb : w'.heap[(x.add (j * 4)).block]? = w.heap[(x.add (j * 4)).block]? := by rw [add_block]; exact hk _ hT hx
  exact ⟨x, vb, va, rfl, hT, by omega, by rw [World.cell?_of_block (w := w) hb]; exact c0, by rw [World.cell?_of_block (w := w) (a := ⟨(x.add (j * 4)).block, (x.add (j * 4)).off + 1, none⟩) hb]; exact c1,
    by rw [World.cell?_of_block (w := w) (a := ⟨(x.add (j * 4)).block, (x.add (j * 4)).off + 2, none⟩) hb]; exact c2, by rw [World.cell?_of_block (w := w) (a := ⟨(x.add (j * 4)).block, (x.add (j * 4)).off + 3, none⟩) hb]; exact c3,
    r1.keep hk hz, r2.keep hk hz⟩
theorem Rd.below {α : Type} [Inhabited α] {enc : α → Value} {w : World} {T : Nat → Prop} {v : Value} {xs : List α} (h : Rd enc w T v xs) : Rd enc w (fun k => k < w.heap.size) v xs := by
  obtain ⟨a, c, rfl, h1, h2, h3⟩ := h
  refine ⟨a, c, rfl, h1, h2, fun h0 => ?_⟩
  obtain ⟨x, e, _, hx, hc⟩ := h3 h0
  exact ⟨x, e, hx, hx, hc⟩
theorem Rd.slice {α : Type} [Inhabited α] {enc : α → Value} {w : World} {T : Nat → Prop} {v : Value} {xs : List α} (h : Rd enc w T v xs) : ∃ a l c, v = .slice a l c := by obtain ⟨a, c, h, _⟩ := h; exact ⟨_, _, _, h⟩
structure Cfg where
  size : Int
  queue : Int
  pool : Int
  first : Int
  age : Int
structure CfgOk (c : Cfg) : Prop where
  s : numOk c.size
  q : numOk c.queue
  p : numOk c.pool
  f0 : 0 ≤ c.first
  f1 : c.first < 65536
  a : numOk c.age
def cfgV (c : Cfg) : Value := .agg #[.int .i64 c.size, .int .i64 c.queue, .int .i64 c.pool, .int .u16 c.first, .int .i64 c.age]
def hdrS (c : Cfg) (n : Nat) : Option (List Nat) := countS (putS (putS (putS (putS (putS (some []) c.size 8) c.queue 8) c.pool 8) c.first 16) c.age 16) n 2000 16
def stepsS (st : Option (List Nat)) (xs : List Stp) : Option (List Nat) := xs.foldl stepS st
def writeS (c : Cfg) (xs : List Stp) : Option (List Nat) := stepsS (hdrS c xs.length) xs
theorem stepsS_snoc (st : Option (List Nat)) (xs : List Stp) (x : Stp) : stepsS st (xs ++ [x]) = stepS (stepsS st xs) x := by unfold stepsS; rw [List.foldl_append]; rfl
theorem stepS_len {st : Option (List Nat)} {m : Nat} (h : StLen st m) {x : Stp} (hx : StpOk x) : StLen (stepS st x) (m + 24040) := by
  have h1 := hx.lb
  have h2 := hx.la
  have := atS_len (l := x.at_) (countS_len (bytesS_len (l := x.bytes) (countS_len (putS_len (putS_len h x.kind 8) x.k 16) x.bytes.length 255 8)) x.at_.length 255 8)
  exact StLen.mono this (by omega)
theorem hdrS_len (c : Cfg) (n : Nat) : StLen (hdrS c n) 72 := countS_len (putS_len (putS_len (putS_len (putS_len (putS_len (m := 0) (fun L hL => by injection hL with hL; subst hL; exact Nat.le_refl _) _ 8) _ 8) _ 8) _ 16) _ 16) _ _ _
theorem stepsS_len (st : Option (List Nat)) (m : Nat) (h : StLen st m) (xs : List Stp) (hx : ∀ x ∈ xs, StpOk x) : StLen (stepsS st xs) (m + 24040 * xs.length) := by
  induction xs generalizing st m with
  | nil => exact h
  | cons x r ih =>
    have := ih (stepS st x) (m + 24040) (stepS_len h (hx x (by simp))) (fun y hy => hx y (by simp [hy]))
    exact StLen.mono this (by simp only [List.length_cons]; omega)
theorem stepS_none (x : Stp) : stepS none x = none := by
  have h1 : ∀ l, bytesS none l = none := by intro l; induction l with
    | nil => rfl
    | cons y r ih => exact ih
  have h2 : ∀ l, atS none l = none := by intro l; induction l with
    | nil => rfl
    | cons y r ih => exact ih
  have h3 : ∀ n m k, countS none n m k = none := fun n m k => by unfold countS; split <;> rfl
  unfold stepS headS
  show atS (countS (bytesS (countS none _ _ _) _) _ _ _) _ = none
  rw [h3, h1, h3, h2]
theorem stepsS_none (xs : List Stp) : stepsS none xs = none := by
  induction xs with
  | nil => rfl
  | cons x r ih => show stepsS (stepS none x) r = none; rw [stepS_none]; exact ih

theorem stepsS_split (st : Option (List Nat)) (xs : List Stp) (j : Nat) (h : stepsS st (xs.take j) = none) : stepsS st xs = none := by
  have e : xs = xs.take j ++ xs.drop j := (List.take_append_drop j xs).symm
  rw [e]
  unfold stepsS at *
  rw [List.foldl_append, h]
  exact stepsS_none _
/-- bitio's Bytes. -/
theorem wbytes_c (w : World) (S : Nat → Prop) (b : Nat) (L : List Nat) (h : WrAt w S b .nilIface L) (hL : L.length ≤ 1000000) :
    Calls Tryd.prog 22 #[.pointer (some ⟨b, 0, none⟩)] w fun e w' => ∃ v, e = .returned v ∧ w'.ownsRow w.heap.size 5 1 v (parts8 L.length) (rowB (bytesOf L)) ∧ Below w.heap.size w w' := by
  obtain ⟨v, H⟩ := h
  have c0 := H.c0
  obtain ⟨hl, a, c, rfl, hlc, hcm, hpos⟩ := ownsRow_open (zs := L) (enc := encB) H.own
  have hb := bytes_c w a (match a with | some x => x.block | none => 0) c L hL hlc hcm (fun h0 => by
    obtain ⟨g, rfl, _, hg, _, hH⟩ := hpos h0
    refine ⟨rfl, hg, fun j hj => ?_⟩
    have := (hH j (by simpa using hj)).1
    simpa using this) H.bit
  clear H hpos
  go_enter Tryd.func22, Tryd.ntmps22
  go_wp2_with fail
  refine hb.mono ?_
  rintro e w1 ⟨v, rfl, hO, hB⟩
  go_wp2
  go_ret
  exact ⟨_, rfl, hO, hB⟩
#print axioms wbytes_c
def WritePost (w : World) (st : Option (List Nat)) (e : Ending) (w' : World) : Prop :=
  ∃ v err, e = .returned (.tuple #[v, err]) ∧ Below w.heap.size w w' ∧ match st with
    | some L => err = .nilIface ∧ w'.ownsRow w.heap.size 5 1 v (parts8 L.length) (rowB (bytesOf L))
    | none => v = .slice none 0 0 ∧ ErrAt w' err 5

set_option maxRecDepth 8000 in
set_option maxHeartbeats 4000000 in
theorem write_c (w : World) (T : Nat → Prop) (c : Cfg) (v : Value) (xs : List Stp) (hc : CfgOk c) (hx : ∀ x ∈ xs, StpOk x) (hv : StpsAt w T v xs) (hn : xs.length ≤ 12) :
    Calls Tryd.prog 14 #[cfgV c, v] w (WritePost w (writeS c xs)) := by
  obtain ⟨wp, hwp⟩ : ∃ wp, wp = (w.alloc (.cells #[.int .i64 c.size, .int .i64 c.queue, .int .i64 c.pool, .int .u16 c.first, .int .i64 c.age] 36)).alloc (.cells #[.slice none 0 0, .nilIface] 68) := ⟨_, rfl⟩
  have hzp : wp.heap.size = w.heap.size + 2 := by rw [hwp]; simp
  have hBp : Below w.heap.size w wp := by rw [hwp]; exact ((Below.refl _ w).alloc (Nat.le_refl _) _).alloc (by simp) _
  obtain ⟨b, hb⟩ : ∃ b, b = w.heap.size + 1 := ⟨_, rfl⟩
  have hpc : ∀ j, wp.cell? ⟨w.heap.size, j, none⟩ = (w.alloc (.cells #[.int .i64 c.size, .int .i64 c.queue, .int .i64 c.pool, .int .u16 c.first, .int .i64 c.age] 36)).cell? ⟨w.heap.size, j, none⟩ := fun j => by
    rw [hwp, World.cell?_alloc_lt _ _ ⟨w.heap.size, j, none⟩ (by simp)]
  have p0 : wp.cell? ⟨w.heap.size, 0, none⟩ = some (.int .i64 c.size) := by rw [hpc, World.cell?_alloc_new]; rfl
  have p1 : wp.cell? ⟨w.heap.size, 1, none⟩ = some (.int .i64 c.queue) := by rw [hpc, World.cell?_alloc_new]; rfl
  have p2 : wp.cell? ⟨w.heap.size, 2, none⟩ = some (.int .i64 c.pool) := by rw [hpc, World.cell?_alloc_new]; rfl
  have p3 : wp.cell? ⟨w.heap.size, 3, none⟩ = some (.int .u16 c.first) := by rw [hpc, World.cell?_alloc_new]; rfl
  have p4 : wp.cell? ⟨w.heap.size, 4, none⟩ = some (.int .i64 c.age) := by rw [hpc, World.cell?_alloc_new]; rfl
  have hbn : ∀ j, wp.cell? ⟨b, j, none⟩ = (#[Value.slice none 0 0, Value.nilIface] : Array Value)[j]? := fun j => by
    have e : b = (w.alloc (.cells #[.int .i64 c.size, .int .i64 c.queue, .int .i64 c.pool, .int .u16 c.first, .int .i64 c.age] 36)).heap.size := by simp [hb]
    rw [hwp, e, World.cell?_alloc_new]
  have h0 : WsAt wp (fun k => k = b) b (some []) := ⟨.slice none 0 0, {
    c0 := by rw [hbn]; rfl
    c1 := by rw [hbn]; rfl
    fr := fun k => by
      have e : b = (w.alloc (.cells #[.int .i64 c.size, .int .i64 c.queue, .int .i64 c.pool, .int .u16 c.first, .int .i64 c.age] 36)).heap.size := by simp [hb]
      rw [hwp, e]; simp
    own := World.ownsRow_nil _ _ _ _
    sb := rfl
    sv := fun g hg => by simp [Value.ownBlock] at hg
    lt := fun k hk => by omega
    bit := fun x hx => by cases hx }⟩
  have hW0 : Way wp (fun k => k = b) b wp (fun k => k = b) (some []) := ⟨h0, Fr.refl _ _, fun k hk => .inl hk⟩
  have hcp : ∀ (wi : World) (j : Nat), Fr (fun k => k = b) wp wi → wi.cell? ⟨w.heap.size, j, none⟩ = wp.cell? ⟨w.heap.size, j, none⟩ := fun wi j hf => hf.cell (p := ⟨w.heap.size, j, none⟩) (by show w.heap.size < _; omega) (by show ¬ w.heap.size = b; omega)
  have hfe : ∀ (wi : World), Fr (fun k => k = b) wp wi → Below w.heap.size w wi := fun wi hf => hBp.trans (hf.below (fun k hk => by omega) (by omega))
  obtain ⟨a, cc, rfl, hlc, hcm, hst⟩ := hv
  unfold maxLen at hcm
  have hk1 := hc.s
  have hk2 := hc.q
  have hk3 := hc.p
  have hk4 := hc.a
  have hk5 := hc.f0
  have hk6 := hc.f1
  unfold numOk at hk1 hk2 hk3 hk4
  have l0 : StLen (some ([] : List Nat)) 0 := fun L hL => by injection hL with hL; subst hL; exact Nat.le_refl _
  have l1 := putS_len l0 c.size 8
  have l2 := putS_len l1 c.queue 8
  have l3 := putS_len l2 c.pool 8
  have l4 := putS_len l3 c.first 16
  have l5 := putS_len l4 c.age 16
  have hall := Lib.hid (And.intro hx (And.intro hn (And.intro hlc hst)))
  have lall := Lib.hid (And.intro l0 (And.intro l1 (And.intro l2 (And.intro l3 (And.intro l4 l5)))))
  clear hx hst l0 l1 l2 l3 l4 l5 h0 hpc hbn
  unfold cfgV
  go_enter Tryd.func14, Tryd.ntmps14
  go_wp2_with fail
  rw [← hwp, ← hb]
  have hx1 := Lib.hid (And.intro hwp hb)
  clear hwp hb
  refine (put_c wp _ b _ _ c.size 8 hW0.1 (by omega) (by omega) (lall.out.1.mono (by omega)) hk1).mono ?_
  rintro e w1 hP1
  obtain ⟨rfl, S1, hW1⟩ := hW0.next hP1
  clear hP1 p0
  have q1 := (hcp _ 1 hW1.2.1).trans p1
  go_wp2_with fail
  refine (put_c w1 S1 b _ _ c.queue 8 hW1.1 (by omega) (by omega) (lall.out.2.1.mono (by omega)) hk2).mono ?_
  rintro e w2 hP2
  obtain ⟨rfl, S2, hW2⟩ := hW1.next hP2
  clear hP2 p1 q1 hW1
  have q2 := (hcp _ 2 hW2.2.1).trans p2
  go_wp2_with fail
  refine (put_c w2 S2 b _ _ c.pool 8 hW2.1 (by omega) (by omega) (lall.out.2.2.1.mono (by omega)) hk3).mono ?_
  rintro e w3 hP3
  obtain ⟨rfl, S3, hW3⟩ := hW2.next hP3
  clear hP3 p2 q2 hW2
  have q3 := (hcp _ 3 hW3.2.1).trans p3
  go_wp2_with fail
  refine (put_c w3 S3 b _ _ c.first 16 hW3.1 (by omega) (by omega) (lall.out.2.2.2.1.mono (by omega)) ⟨by omega, by omega⟩).mono ?_
  rintro e w4 hP4
  obtain ⟨rfl, S4, hW4⟩ := hW3.next hP4
  clear hP4 p3 q3 hW3
  have q4 := (hcp _ 4 hW4.2.1).trans p4
  go_wp2_with fail
  refine (put_c w4 S4 b _ _ c.age 16 hW4.1 (by omega) (by omega) (lall.out.2.2.2.2.1.mono (by omega)) hk4).mono ?_
  rintro e w5 hP5
  obtain ⟨rfl, S5, hW5⟩ := hW4.next hP5
  clear hP5 p4 q4 hW4
  go_wp2_with fail
  refine (count_c w5 S5 b _ _ (xs.length : Int) 2000 16 hW5.1 (by omega) (by omega) (lall.out.2.2.2.2.2.mono (by omega)) (by omega)).mono ?_
  rintro e w6 hP6
  obtain ⟨rfl, S6, hW6⟩ := hW5.next hP6
  clear hP6 hW5
  have hW6' : Way wp (fun k => k = b) b w6 S6 (hdrS c xs.length) := hW6
  have hH := Lib.hid hW6'
  have hL6 := Lib.hid (hdrS_len c xs.length)
  clear hW6 hW6' hW0 hk1 hk2 hk3 hk4 hk5 hk6 lall
  have hws : writeS c xs = stepsS (hdrS c xs.length) xs := rfl
  generalize hdrS c xs.length = st at *
  have hwx := Lib.hid hws
  clear hws
  have hfx := Lib.hid hfe
  have hcx := Lib.hid hcp
  have hBx := Lib.hid hBp
  clear hfe hcp hBp
  go_wp2
  go_loopw [42] (fun s42 wr => ∃ (j : Nat) (Sj : Nat → Prop) (L : List Nat), j ≤ xs.length ∧ s42 = .int .i64 (j : Int) ∧ Aside (Way wp (fun k => k = b) b wr Sj (stepsS st (xs.take j)) ∧ (j = 0 ∨ stepsS st (xs.take j) = some L)))
    (fun s42 _ => xs.length - (intOf s42).toNat)
  case atStart => exact ⟨0, S6, [], Nat.zero_le _, rfl, hH.out, .inl rfl⟩
  case round =>
    obtain ⟨j, Sj, L, hj, rfl, hA⟩ := hrel
    have hWj := Lib.hid hA
    clear hA hH
    by_cases hlt : j < xs.length
    · obtain ⟨x, vb, va, rfl, hxT, hxl, hc0, hc1, hc2, hc3, hr1, hr2⟩ := hall.out.2.2.2 j hlt
      have hBr := hfx.out _ hWj.out.1.2.1
      have hz := hBr.size
      have hbb : ((x.add (j * 4)).block) < w.heap.size := by rw [add_block]; exact hxl
      have d0 := (hBr.cell (p := x.add (j * 4)) hbb).trans hc0
      have d1 := (hBr.cell (p := ⟨(x.add (j * 4)).block, (x.add (j * 4)).off + 1, none⟩) hbb).trans hc1
      have d2 := (hBr.cell (p := ⟨(x.add (j * 4)).block, (x.add (j * 4)).off + 2, none⟩) hbb).trans hc2
      have d3 := (hBr.cell (p := ⟨(x.add (j * 4)).block, (x.add (j * 4)).off + 3, none⟩) hbb).trans hc3
      have hxo := hall.out.1 xs[j]! (by rw [getElem!_pos xs j hlt]; exact List.getElem_mem _)
      have hsn := Lib.hid (take_snoc (l := xs) (j := j) hlt)
      have hlen := stepsS_len st 72 hL6.out (xs.take j) (fun y hy => hall.out.1 y (List.mem_of_mem_take hy))
      have hlen' : StLen (stepsS st (xs.take j)) 500000 := hlen.mono (by have := List.length_take_le j xs; have := hall.out.2.1; omega)
      have hrb := hr1.below.keep (w' := wr) (fun k _ hk => hBr.block k hk) hz
      have hra := hr2.below.keep (w' := wr) (fun k _ hk => hBr.block k hk) hz
      clear hc0 hc1 hc2 hc3 hr1 hr2 hlen
      generalize xs[j]! = y at *
      have hWr := hWj.out.1.1
      obtain ⟨ba, bl, bc, rfl⟩ := hrb.slice
      obtain ⟨aa, al, ac, rfl⟩ := hra.slice
      obtain ⟨wq, hwq⟩ : ∃ wq, wq = wr.alloc (.cells #[.int .i64 y.kind, .int .i64 y.k, .slice ba bl bc, .slice aa al ac] 52) := ⟨_, rfl⟩
      have hBq : Below wr.heap.size wr wq := by rw [hwq]; exact (Below.refl _ _).alloc (Nat.le_refl _) _
      have hFq : Fr (fun k => k = b) wp wq := by rw [hwq]; exact hWj.out.1.2.1.alloc _
      have hWq : WsAt wq Sj b (stepsS st (xs.take j)) := hWr.keep (fun k hk => hBq.block k (hWr.lt k hk)) hBq.size
      have hrb' := hrb.keep (w' := wq) (fun k _ hk => hBq.block k hk) hBq.size
      have hra' := hra.keep (w' := wq) (fun k _ hk => hBq.block k hk) hBq.size
      have hdj : ∀ k, k < w.heap.size → ¬ Sj k := fun k hk hs => by
        rcases hWj.out.1.2.2 k hs with h | h
        · have := hx1.out.2; omega
        · omega
      have hst := step_c wq Sj (fun k => k < w.heap.size) b (stepsS st (xs.take j)) y _ _ hWq hxo hrb' hra' hdj hlen'
      rw [← stepsS_snoc, ← hsn.out] at hst
      have hxo' := Lib.hid (And.intro hFq (And.intro hBq hdj))
      clear hBr hz hxo hrb hra hrb' hra' hWr hWq hFq hBq hdj hbb
      go_wp2_with fail
      rw [← hwq]
      clear hwq d0 d1 d2 d3
      refine hst.mono ?_
      rintro e w7 ⟨v7, S7, rfl, hA7, hF7, hS7, hm7⟩
      have hF7' := hxo'.out.1.trans hF7 (fun k hk => hWj.out.1.2.2 k hk)
      have hz7 := hxo'.out.1.size
      have hW7 : Way wp (fun k => k = b) b w7 S7 (stepsS st (xs.take (j + 1))) := ⟨hA7, hF7', fun k hk => by
        rcases hS7 k hk with h | h
        · exact hWj.out.1.2.2 k h
        · right; omega⟩
      have hW7' := Lib.hid hW7
      clear hst hA7 hF7 hS7 hF7' hW7
      cases hc7 : stepsS st (xs.take (j + 1)) with
      | some L7 =>
        rw [hc7] at hm7
        simp only at hm7
        subst hm7
        have hc7' := Lib.hid hc7
        clear hc7
        go_wp2
        exact ⟨⟨j + 1, S7, L7, by omega, by go_num, hW7'.out, .inr hc7'.out⟩, by simp [intOf]; omega⟩
      | none =>
        rw [hc7] at hm7
        simp only at hm7
        obtain ⟨q, rfl, hq⟩ := hm7
        have hfin := stepsS_split st xs (j + 1) hc7
        have hfin' := Lib.hid hfin
        clear hc7 hfin
        go_wp2
        go_ret2
        rw [hwx.out, hfin'.out]
        exact ⟨_, _, rfl, hfx.out _ hW7'.out.2.1, rfl, .step q 5 hq⟩
    · obtain rfl : j = xs.length := by omega
      have hWe := hWj.out.1
      rw [List.take_length] at hWe
      have hlen := stepsS_len st 72 hL6.out xs hall.out.1
      have hBe := Lib.hid (hfx.out _ hWe.2.1)
      have hbz := hWe.1.lt b hWe.1.sb
      clear hWj
      cases hfin : stepsS st xs with
      | some Lf =>
        rw [hfin] at hWe
        obtain ⟨v, H⟩ := hWe.1
        have c1 := H.c1
        have hy := wbytes_c wr Sj b Lf ⟨v, H⟩ (by have := hlen Lf hfin; have := hall.out.2.1; omega)
        have hfin' := Lib.hid hfin
        clear hfin H hWe hlen
        go_wp2_with fail
        refine hy.mono ?_
        rintro e w8 ⟨v8, rfl, hO8, hB8⟩
        go_wp2
        go_ret2
        rw [hwx.out, hfin'.out]
        refine ⟨_, _, rfl, hBe.out.trans (hB8.mono hBe.out.size), rfl, ownsRow_base hO8 (fun g hg => Nat.le_trans hBe.out.size (hO8.lt g hg).1)⟩
      | none =>
        rw [hfin] at hWe
        obtain ⟨q, Lf, ⟨v, H⟩, hq, hqS⟩ := hWe.1
        have c1 := H.c1
        have hfin' := Lib.hid hfin
        clear hfin H hWe hlen
        go_wp2
        go_quiet (fail)
        go_wp2
        go_ret2
        rw [hwx.out, hfin'.out]
        exact ⟨_, _, rfl, ⟨hBe.out.os, hBe.out.tape, hBe.out.output, hBe.out.size, hBe.out.block⟩, rfl, .hit q 5 hq⟩
#print axioms write_c
end Go.Proofs.YtkmknpobinpegaaDoor
