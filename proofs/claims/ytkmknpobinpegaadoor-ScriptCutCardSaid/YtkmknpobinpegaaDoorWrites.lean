/- The statement ScriptWrites. -/
import Derived.Test.YtkmknpobinpegaaDoorBoth
import Derived.Test.YtkmknpobinpegaaDoorScripts
namespace Go.Proofs.YtkmknpobinpegaaDoor
open Go Go.RowKit Go.Maps Go.Sort Go.Lib
set_option linter.unusedSimpArgs false
set_option linter.unusedVariables false

def Two2 (w w' : World) (v1 v2 : Value) (ys : List Stp) : Prop := StpsAt w' (fun k => w.heap.size ≤ k ∧ k < w'.heap.size) v1 ys ∧ StpsAt w' (fun k => w.heap.size ≤ k ∧ k < w'.heap.size) v2 ys
theorem both2_c (w : World) (T : Nat → Prop) (v : Value) (xs : List Stp) (most : Nat) (hv : StpsAt w T v xs) (hz : StpsNz w v) (hm : most = 12 ∨ most = 6) :
    Calls Tryd.prog 5 #[v, .int .i64 (most : Int)] w fun e w' => ∃ v1 v2, e = .returned (.tuple #[v1, v2]) ∧ Below w.heap.size w w' ∧ Two2 w w' v1 v2 ((xs.take most).map trim) :=
  (both_c w T v xs most hv hz hm).mono fun e w' h => by
    obtain ⟨v1, v2, rfl, D1, D2, h1, h2, hB, _⟩ := h
    exact ⟨v1, v2, rfl, hB, h1.steps, h2.steps⟩
structure StpW (x : Stp) : Prop where
  k1 : numOk x.kind
  k2 : numOk x.k
  b : ∀ y ∈ x.bytes, y < 256
  a : ∀ y ∈ x.at_, numOk y
theorem trim_ok {xs : List Stp} (hx : ∀ x ∈ xs, StpW x) (m : Nat) : ∀ x ∈ (xs.take m).map trim, StpOk x := by
  intro y hy
  obtain ⟨x, h, rfl⟩ := List.mem_map.1 hy
  have h := hx x (List.mem_of_mem_take h)
  exact ⟨h.k1, h.k2, fun z hz => h.b z (List.mem_of_mem_take hz), fun z hz => h.a z (List.mem_of_mem_take hz), by simp only [trim]; rw [List.length_take]; omega, by simp only [trim]; rw [List.length_take]; omega⟩
def cfgU (c : Cfg) : Cfg := { c with first := c.first % 65536 }
structure CfgW (c : Cfg) : Prop where
  s : numOk c.size
  q : numOk c.queue
  p : numOk c.pool
  f : numOk c.first
  a : numOk c.age
theorem cfgU_ok {c : Cfg} (h : CfgW c) : CfgOk (cfgU c) := ⟨h.s, h.q, h.p, by simp only [cfgU]; omega, by simp only [cfgU]; omega, h.a⟩
def fiveL (c : Cfg) : List Value := [.int .i64 c.size, .int .i64 c.queue, .int .i64 c.pool, .int .i64 c.first, .int .i64 c.age]
theorem fiveL_cells {w : World} {p : Nat} {c : Cfg} {t : TypeId} (h : w.heap[p]? = some (.cells (fiveL c).toArray t (0, 0))) : KC w p (fiveL c) := ⟨rfl, fun j hj => by
    match j, hj with
    | 0, _ => simp [World.cell?, h, fiveL]
    | 1, _ => simp [World.cell?, h, fiveL]
    | 2, _ => simp [World.cell?, h, fiveL]
    | 3, _ => simp [World.cell?, h, fiveL]
    | 4, _ => simp [World.cell?, h, fiveL], fun k => by simp [World.frozen?, h]⟩

theorem stpsNz_below {w w' : World} {T : Nat → Prop} {v : Value} {xs : List Stp} (hv : StpsAt w T v xs) (hz : StpsNz w v) (hB : Below w.heap.size w w') : StpsNz w' v := by
  obtain ⟨a, c, rfl, _, _, h⟩ := hv
  intro a' n' c' e j x hj hax u hu
  injection e with e1 e2 e3
  subst e1; subst e2; subst e3
  obtain ⟨x', vb, va, e1, _, hl, _⟩ := h j hj
  rw [hax] at e1
  injection e1 with e1
  subst e1
  have hl' : (x.add (j * 4)).block < w.heap.size := by rw [add_block]; exact hl
  refine hz a xs.length c rfl j x hj hax u ?_
  rcases hu with hu | hu
  · exact .inl ((hB.cell (p := ⟨(x.add (j * 4)).block, (x.add (j * 4)).off + 2, none⟩) hl').symm.trans hu)
  · exact .inr ((hB.cell (p := ⟨(x.add (j * 4)).block, (x.add (j * 4)).off + 3, none⟩) hl').symm.trans hu)
theorem wpost_open {w w' : World} {st : Option (List Nat)} {e : Ending} (h : WPost w st e w') : ∃ a c k bl, e = .returned (.tuple #[.slice a bl.length c, .int .i64 k]) ∧ Below w.heap.size w w' ∧
    Rd encB w' (fun j => w.heap.size ≤ j ∧ j < w'.heap.size) (.slice a bl.length c) bl ∧ ((k = 0 ∧ ∃ L, st = some L ∧ bl = bytesOf L) ∨ (k = 5 ∧ st = none ∧ bl = [])) := by
  obtain ⟨v, k, rfl, hB, hm⟩ := h
  cases st with
  | some L =>
    obtain ⟨rfl, ho⟩ := hm
    have hr := ownsRow_rd (enc := encB) ho
    obtain ⟨a, c, rfl, _⟩ := id hr
    exact ⟨a, c, 0, bytesOf L, rfl, hB, hr.mono (fun k hk hl => ⟨(ho.lt k hk).1, hl⟩), .inl ⟨rfl, L, rfl, rfl⟩⟩
  | none =>
    obtain ⟨rfl, rfl⟩ := hm
    exact ⟨none, 0, 5, [], rfl, hB, ⟨none, 0, rfl, Nat.le_refl _, Nat.zero_le _, fun h => absurd h (by simp)⟩, .inr ⟨rfl, rfl, rfl⟩⟩
theorem rwpost_open {w w' : World} {st : Option (List Nat)} {e : Ending} (h : RWPost w st e w') : ∃ a c b bl, e = .returned (.tuple #[.slice a bl.length c, .bool b]) ∧ Below w.heap.size w w' ∧
    Rd encB w' (fun j => w.heap.size ≤ j ∧ j < w'.heap.size) (.slice a bl.length c) bl ∧ ((b = true ∧ ∃ L, st = some L ∧ bl = bytesOf L) ∨ (b = false ∧ st = none ∧ bl = [])) := by
  obtain ⟨v, k, rfl, hB, hm⟩ := h
  cases st with
  | some L =>
    obtain ⟨rfl, ho⟩ := hm
    have hr := ownsRow_rd (enc := encB) ho
    obtain ⟨a, c, rfl, _⟩ := id hr
    exact ⟨a, c, true, bytesOf L, rfl, hB, hr.mono (fun k hk hl => ⟨(ho.lt k hk).1, hl⟩), .inl ⟨rfl, L, rfl, rfl⟩⟩
  | none =>
    obtain ⟨rfl, rfl⟩ := hm
    exact ⟨none, 0, false, [], rfl, hB, ⟨none, 0, rfl, Nat.le_refl _, Nat.zero_le _, fun h => absurd h (by simp)⟩, .inr ⟨rfl, rfl, rfl⟩⟩
theorem manyB_length (w : Nat) (l : List Nat) : (manyB w l).length = w * l.length := by
  induction l with
  | nil => rfl
  | cons y r ih =>
    show (bitsOf y w ++ manyB w r).length = _
    rw [List.length_append, bitsOf_length, ih, List.length_cons, Nat.mul_succ]; omega
theorem stepsB_short (xs : List Stp) (h : ∀ x ∈ xs, Fit x) : (stepsB xs).length ≤ 6160 * xs.length := by
  induction xs with
  | nil => exact Nat.le_refl _
  | cons x r ih =>
    have h1 := ih (fun y hy => h y (List.mem_cons_of_mem _ hy))
    have hx := h x List.mem_cons_self
    have e : (stepB x).length = 40 + 8 * x.bytes.length + 16 * x.at_.length := by
      unfold stepB
      simp only [List.length_append, bitsOf_length, manyB_length, List.length_map]
      omega
    show (stepB x ++ stepsB r).length ≤ _
    rw [List.length_append, List.length_cons, e]
    have := hx.lb; have := hx.la
    omega
theorem bytesOf_short {c : Cfg} {xs : List Stp} {L : List Nat} (h : writeS c xs = some L) (hn : xs.length ≤ 12) : (bytesOf L).length ≤ 20000 := by
  obtain ⟨rfl, _, hx, _⟩ := writeS_some h
  rw [bytesOf_length]
  have h1 := stepsB_short xs hx
  have e : (allB c xs).length = 72 + (stepsB xs).length := by
    unfold allB
    simp only [List.length_append, bitsOf_length]
    omega
  rw [e]
  unfold parts8
  omega
theorem wrap16 (n : Int) : wrap64 (IntKind.u16.wrap n) = n % 65536 := by
  simp [wrap64, IntKind.wrap, IntKind.bits, IntKind.signed]
  omega

set_option maxRecDepth 8000 in
set_option maxHeartbeats 4000000 in
theorem writes_c (w : World) (T : Nat → Prop) (c : Cfg) (v : Value) (xs : List Stp) (hg : Glob w) (hc : CfgW c) (hv : StpsAt w T v xs) (hz : StpsNz w v) (hx : ∀ x ∈ xs, StpW x) :
    Calls Tryd.prog 3 #[fiveV c, v] w fun e w' => e = .returned (.bool true) ∧ Below w.heap.size w w' := by
  obtain ⟨a, cc, rfl, _⟩ := id hv
  have h0 := Lib.hid (And.intro hg (And.intro hc (And.intro hv (And.intro hz hx))))
  clear hv hz hx hg hc
  unfold fiveV
  go_enter Tryd.func3, Tryd.ntmps3
  go_wp2_with fail
  simp only [wrap16]
  obtain ⟨d, hd⟩ : ∃ d, d = cfgU c := ⟨_, rfl⟩
  have hdc : CfgOk d := by rw [hd]; exact cfgU_ok h0.out.2.1
  obtain ⟨w1, hw1⟩ : ∃ w1, w1 = w.alloc (.cells #[.int .i64 c.size, .int .i64 c.queue, .int .i64 c.pool, .int .i64 (c.first % 65536), .int .i64 c.age] 22) := ⟨_, rfl⟩
  obtain ⟨p, hp⟩ : ∃ p, p = w.heap.size := ⟨_, rfl⟩
  have hB1 : Below w.heap.size w w1 := by rw [hw1]; exact (Below.refl _ _).alloc (Nat.le_refl _) _
  have hK1 : KC w1 p (fiveL d) := fiveL_cells (c := d) (by rw [hd, hw1, hp]; exact heap_alloc_new w _)
  rw [← hw1, ← hp]
  clear hw1
  have hbc := both2_c w1 T _ xs 12 (h0.out.2.2.1.keep (fun k _ hk => hB1.block k hk) hB1.size) (stpsNz_below h0.out.2.2.1 h0.out.2.2.2.1 hB1) (.inl rfl)
  have hx1 := Lib.hid (And.intro hB1 (And.intro hK1 hp))
  have h0g := Lib.hid h0.out.1
  clear hB1 hK1 hp
  refine hbc.mono ?_
  rintro e w2 ⟨v1, v2, rfl, hB2, hS1, hS2⟩
  clear hbc
  obtain ⟨ys, hys⟩ : ∃ ys, ys = (xs.take 12).map trim := ⟨_, rfl⟩
  rw [← hys] at hS1 hS2
  have hyo : ∀ y ∈ ys, StpOk y := by rw [hys]; exact trim_ok h0.out.2.2.2.2 12
  have hyl : ys.length ≤ 12 := by rw [hys, List.length_map, List.length_take]; omega
  clear hys
  obtain ⟨a1, c1, rfl, _⟩ := id hS1
  obtain ⟨a2, c2, rfl, _⟩ := id hS2
  have hB12 := hx1.out.1.trans (hB2.mono hx1.out.1.size)
  have hK2 : KC w2 p (fiveL d) := hx1.out.2.1.block (hB2.block p hx1.out.2.1.lt)
  have hg2 := h0.out.1.below hB12
  have q0 := hK2.c 0 (by omega)
  have q1 := hK2.c 1 (by omega)
  have q2 := hK2.c 2 (by omega)
  have q3 := hK2.c 3 (by omega)
  have q4 := hK2.c 4 (by omega)
  simp only [fiveL] at q0 q1 q2 q3 q4
  simp at q0 q1 q2 q3 q4
  have hx2 := Lib.hid (And.intro hB12 (And.intro hK2 (And.intro hg2 (And.intro hS1 (And.intro hS2 (And.intro hyo hyl))))))
  clear hB12 hK2 hg2 hS1 hS2 hyo hyl hB2 h0 hd
  have hcf := cfg_c w2 d hdc.f0 hdc.f1
  unfold fiveV at hcf
  go_wp2_with fail
  refine hcf.mono ?_
  rintro e w3 ⟨rfl, hB3⟩
  clear hcf
  have hB13 := hx2.out.1.trans (hB3.mono hx2.out.1.size)
  have hwc := Write_c w3 _ d _ ys (hx2.out.2.2.1.below hB3) hdc hx2.out.2.2.2.2.2.1 (hx2.out.2.2.2.2.1.keep (fun k _ hk => hB3.block k hk) hB3.size) hx2.out.2.2.2.2.2.2
  unfold cfgV at hwc ⊢
  go_wp2_with fail
  refine hwc.mono ?_
  clear hwc
  rintro e w4 hpost
  obtain ⟨ba, bc, k, bl, rfl, hB4, hbr, hkk⟩ := wpost_open hpost
  clear hpost
  have hB24 := hB3.trans (hB4.mono hB3.size)
  have hB14 := hx2.out.1.trans (hB24.mono hx2.out.1.size)
  have hK4 : KC w4 p (fiveL d) := hx2.out.2.1.block (hB24.block p hx2.out.2.1.lt)
  have hrw := refWrite_c w4 _ d _ ys hdc hx2.out.2.2.2.2.2.1 (hx2.out.2.2.2.1.keep (fun k _ hk => hB24.block k hk) hB24.size) hx2.out.2.2.2.2.2.2
  unfold fiveV at hrw
  clear q0 q1 q2 q3 q4
  have q0 := hK4.c 0 (by omega)
  have q1 := hK4.c 1 (by omega)
  have q2 := hK4.c 2 (by omega)
  have q3 := hK4.c 3 (by omega)
  have q4 := hK4.c 4 (by omega)
  simp only [fiveL] at q0 q1 q2 q3 q4
  simp at q0 q1 q2 q3 q4
  have hx4 := Lib.hid (And.intro hB24 (And.intro hB14 (And.intro hK4 (And.intro hbr hkk))))
  clear hB3 hB13 hB4 hbr hkk hB24 hB14 hK4
  go_wp2_with fail
  refine hrw.mono ?_
  clear hrw
  rintro e w5 hpost
  obtain ⟨ra, rc, ok, rl, rfl, hB5, hrr, hok⟩ := rwpost_open hpost
  clear hpost q0 q1 q2 q3 q4
  obtain ⟨hrl, hkok⟩ : bl = rl ∧ ((k = 0 ∧ ok = true ∧ ∃ L, writeS d ys = some L ∧ bl = bytesOf L) ∨ (k = 5 ∧ ok = false)) := by
    rcases hx4.out.2.2.2.2 with ⟨h1, L, h2, h3⟩ | ⟨h1, h2, h3⟩
    · rcases hok with ⟨g1, L', g2, g3⟩ | ⟨g1, g2, g3⟩
      · rw [h2] at g2
        injection g2 with g2
        subst g2
        exact ⟨h3.trans g3.symm, .inl ⟨h1, g1, L, h2, h3⟩⟩
      · rw [h2] at g2; cases g2
    · rcases hok with ⟨g1, L', g2, g3⟩ | ⟨g1, g2, g3⟩
      · rw [h2] at g2; cases g2
      · exact ⟨h3.trans g3.symm, .inr ⟨h1, g1⟩⟩
  subst hrl
  have hB25 := hx4.out.1.trans (hB5.mono hx4.out.1.size)
  have hB15 := hx2.out.1.trans (hB25.mono hx2.out.1.size)
  have hK5 : KC w5 p (fiveL d) := hx4.out.2.2.1.block (hB5.block p hx4.out.2.2.1.lt)
  have hbr5 := hx4.out.2.2.2.1.keep (fun k _ hk => hB5.block k hk) hB5.size
  have hsc := scripts_c w5 (hx2.out.2.2.1.below hB25)
  have hx5 := Lib.hid (And.intro hB25 (And.intro hB15 (And.intro hK5 (And.intro hbr5 hrr))))
  clear hB25 hB15 hK5 hbr5 hrr hok hB5
  go_wp2_with fail
  refine hsc.mono ?_
  rintro e w6 ⟨rfl, hB6⟩
  clear hsc
  have hB26 := hx5.out.1.trans (hB6.mono hx5.out.1.size)
  have hc1 : (convert 28 9 (.slice ba bl.length bc)).run Tryd.prog w6 = .ok (.string (strOf bl)) w6 := conv_rd (hx5.out.2.2.2.1.keep (fun k _ hk => hB6.block k hk) hB6.size)
  have hc2 : (convert 28 9 (.slice ra bl.length rc)).run Tryd.prog w6 = .ok (.string (strOf bl)) w6 := conv_rd (hx5.out.2.2.2.2.keep (fun k _ hk => hB6.block k hk) hB6.size)
  have hfc := from_c w6 _ _ ys (hx2.out.2.2.2.2.1.keep (fun k _ hk => hB26.block k hk) hB26.size) (by have := hx2.out.2.2.2.2.2.2; omega)
  have hx6 := Lib.hid (And.intro hB26 hB6)
  clear hB26 hB6
  rcases hkok with ⟨rfl, rfl, L, hL, hbl⟩ | ⟨rfl, rfl⟩
  · have hLx := Lib.hid (And.intro hL hbl)
    clear hL hbl
    go_wp2_with fail
    refine hfc.mono ?_
    rintro e w7 ⟨vf, rfl, hB7, hSf⟩
    clear hfc hc1 hc2
    obtain ⟨fa, fc, rfl, _⟩ := id hSf
    have hB67 := hB7
    have hB27 := hx6.out.1.trans (hB7.mono hx6.out.1.size)
    have hB17 := hx2.out.1.trans (hB27.mono hx2.out.1.size)
    have hsm := same_c w7 _ _ _ _ ys hSf (hx2.out.2.2.2.1.keep (fun k _ hk => hB27.block k hk) hB27.size)
    have hx7 := Lib.hid (And.intro hB7 (And.intro hB27 hB17))
    clear hB67 hB27 hB17 hSf hB7
    go_wp2_with fail
    refine hsm.mono ?_
    rintro e w8 ⟨rfl, nd, hw8⟩
    clear hsm
    have hB8 : Below w.heap.size w w8 := by rw [hw8]; exact ⟨hx7.out.2.2.os, hx7.out.2.2.tape, hx7.out.2.2.output, hx7.out.2.2.size, hx7.out.2.2.block⟩
    have hb78 : ∀ k : Nat, w8.heap[k]? = w7.heap[k]? := fun k => by rw [hw8]; rfl
    have hz78 : w8.heap.size = w7.heap.size := by rw [hw8]; rfl
    clear hw8
    have hb58 : ∀ k, k < w5.heap.size → w8.heap[k]? = w5.heap[k]? := fun k hk => (hb78 k).trans ((hx7.out.1.block k (Nat.lt_of_lt_of_le hk hx6.out.2.size)).trans (hx6.out.2.block k hk))
    have hz58 : w5.heap.size ≤ w8.heap.size := by rw [hz78]; exact Nat.le_trans hx6.out.2.size hx7.out.1.size
    have hrd := Read_c w8 _ _ bl (h0g.out.below hB8) (hx5.out.2.2.2.1.keep (fun k _ hk => hb58 k hk) hz58) (by rw [hLx.out.2]; exact bytesOf_lt (writeS_bit hLx.out.1)) (by rw [hLx.out.2]; have := bytesOf_short hLx.out.1 hx2.out.2.2.2.2.2.2; omega)
    rw [show readR (unbits bl) = .ok d ys by rw [hLx.out.2]; exact law_back hLx.out.1] at hrd
    go_wp2_with fail
    refine hrd.mono ?_
    clear hrd
    rintro e w9 ⟨c9, lv, k9, rfl, hB9, rfl, rfl, hS9⟩
    obtain ⟨la, lc, rfl, _⟩ := id hS9
    obtain ⟨w10, hw10⟩ : ∃ w10, w10 = w9.alloc (.cells (cfgL c9).toArray 36) := ⟨_, rfl⟩
    obtain ⟨q, hq⟩ : ∃ q, q = w9.heap.size := ⟨_, rfl⟩
    have hB10 : Below w9.heap.size w9 w10 := by rw [hw10]; exact (Below.refl _ _).alloc (Nat.le_refl _) _
    have hKq : KC w10 q (cfgL c9) := cfgL_cells (c := c9) (by rw [hw10, hq]; exact heap_alloc_new w9 _)
    have hws : w10 = w9.alloc (.cells #[.int .i64 c9.size, .int .i64 c9.queue, .int .i64 c9.pool, .int .u16 c9.first, .int .i64 c9.age] 36) := hw10
    have hB9' := hB8.trans (hB9.mono hB8.size)
    have hB10' := hB9'.trans (hB10.mono hB9'.size)
    have hz510 : w5.heap.size ≤ w10.heap.size := Nat.le_trans hz58 (Nat.le_trans hB9.size hB10.size)
    have hb510 : ∀ k, k < w5.heap.size → w10.heap[k]? = w5.heap[k]? := fun k hk => (hB10.block k (by have := hB9.size; omega)).trans ((hB9.block k (by omega)).trans (hb58 k hk))
    have hKp : KC w10 p (fiveL c9) := hx5.out.2.2.1.block (hb510 p hx5.out.2.2.1.lt)
    have hS10 := hS9.keep (fun k _ hk => hB10.block k hk) hB10.size
    have hS1' := hx2.out.2.2.2.1.keep (w' := w10) (fun k _ hk => (hb510 k (Nat.lt_of_lt_of_le hk hx5.out.1.size)).trans (hx5.out.1.block k hk)) (Nat.le_trans hx5.out.1.size hz510)
    have hx10 := Lib.hid (And.intro hB10' (And.intro hKq (And.intro hKp (And.intro hS10 hS1'))))
    clear hB8 hb78 hz78 hb58 hz58 hB9 hB10 hKq hw10 hB9' hB10' hz510 hb510 hKp hS10 hS1' hS9
    unfold cfgV
    go_wp2_with fail
    rw [← hws, ← hq]
    clear hws hq
    (refine wp_region_can [[], [0], [0, 1], [0, 1, 2], [0, 1, 2, 3], [0, 1, 2], [0, 1, 2, 3, 4, 5], [0, 1, 2, 3, 4, 5, 6], [0, 1, 2, 3, 4, 5, 6, 7], [0, 1, 2, 3, 4, 5, 6, 7, 8], [0, 1, 2, 3, 4, 5, 6, 7, 8, 9], [0, 1, 2, 3, 4, 5, 6, 7, 8], [0, 1, 2, 3, 4, 5, 6, 7, 8, 9, 10, 11], [0, 1, 2, 3, 4, 5, 6, 7, 8, 9, 10, 11, 12], [0, 1, 2, 3, 4, 5, 6, 7, 8, 9, 10, 11, 12, 13]] [.st 0 .drop, .st 1 .drop, .st 2 .drop, .st 3 .drop, .st 5 .keep, .ef 4 [5], .st 6 .drop, .st 7 .drop, .st 8 .drop, .st 9 .drop, .st 11 .pure, .ef 10 [11], .ef 12 [], .st 13 .drop, .st 14 .drop] (by kernel_rfl) (by kernel_rfl) ?_; try simp only [Act.put])
    generalize hw11 : World.drew _ = w11
    have hKq11 : KC w11 q (cfgL c9) := hx10.out.2.1.block (by rw [← hw11]; rfl)
    have hKp11 : KC w11 p (fiveL c9) := hx10.out.2.2.1.block (by rw [← hw11]; rfl)
    have hB11 : Below w.heap.size w w11 := by rw [← hw11]; exact ⟨hx10.out.1.os, hx10.out.1.tape, hx10.out.1.output, hx10.out.1.size, hx10.out.1.block⟩
    have hS11 : StpsAt w11 _ _ ys := hx10.out.2.2.2.1.keep (fun k _ _ => by rw [← hw11]; rfl) (by rw [← hw11]; exact Nat.le_refl _)
    have hR11 : StpsAt w11 _ _ ys := hx10.out.2.2.2.2.keep (fun k _ _ => by rw [← hw11]; rfl) (by rw [← hw11]; exact Nat.le_refl _)
    clear hw11
    have q0 := hKq11.c 0 (by omega)
    have q1 := hKq11.c 1 (by omega)
    have q2 := hKq11.c 2 (by omega)
    have q3 := hKq11.c 3 (by omega)
    have q4 := hKq11.c 4 (by omega)
    have p0 := hKp11.c 0 (by omega)
    have p1 := hKp11.c 1 (by omega)
    have p2 := hKp11.c 2 (by omega)
    have p3 := hKp11.c 3 (by omega)
    have p4 := hKp11.c 4 (by omega)
    simp only [cfgL, fiveL] at q0 q1 q2 q3 q4 p0 p1 p2 p3 p4
    simp at q0 q1 q2 q3 q4 p0 p1 p2 p3 p4
    have hbk := back_c w11 c9 hdc.f0 hdc.f1
    have heq := fun W : World => eq5 c9.size c9.queue c9.pool c9.first c9.age W
    unfold cfgV fiveV at hbk
    have hx11 := Lib.hid (And.intro hB11 (And.intro hS11 (And.intro hR11 hKp11)))
    clear hKq11 hKp11 hB11 hS11 hR11
    (repeat (first | (refine can_drop rfl rfl (fun K hK => ?_); go_big_quiet_op; refine hK _ ?_; clear hK K) | (refine can_pure ?_ rfl rfl (fun W K hK => ?_) ?_; rotate_left; (focus (go_big_quiet_op; exact hK))) | (refine can_keep rfl rfl (fun K hK => ?_); go_big_quiet_op; refine hK _ ?_; clear hK K) | (refine can_skip rfl rfl ?_; simp only [Act.put, List.setIfInBounds_toArray, List.set_cons_succ, List.set_cons_zero])))
    refine can_ef rfl (fun K hK => ?_)
    go_wp2_with fail
    refine hbk.mono ?_
    rintro e w12 ⟨rfl, hB12⟩
    clear hbk q0 q1 q2 q3 q4 p0 p1 p2 p3 p4
    have heq12 := heq w12
    clear heq
    have hfc := from_c w12 _ _ ys (hx11.out.2.1.keep (fun k _ hk => hB12.block k hk) hB12.size) (by have := hx2.out.2.2.2.2.2.2; omega)
    have hKp12 : KC w12 p (fiveL c9) := hx11.out.2.2.2.block (hB12.block p hx11.out.2.2.2.lt)
    have p0 := hKp12.c 0 (by omega)
    have p1 := hKp12.c 1 (by omega)
    have p2 := hKp12.c 2 (by omega)
    have p3 := hKp12.c 3 (by omega)
    have p4 := hKp12.c 4 (by omega)
    simp only [fiveL] at p0 p1 p2 p3 p4
    simp at p0 p1 p2 p3 p4
    clear hKp12
    have hR12 := hx11.out.2.2.1.keep (fun k _ hk => hB12.block k hk) hB12.size
    have hB12' := hx11.out.1.trans (hB12.mono hx11.out.1.size)
    have hx12 := Lib.hid (And.intro hR12 hB12')
    clear hR12 hB12' hB12
    go_wp2_with fail
    refine hK _ _ ⟨?_, ?_⟩; (focus (simp only [ReAll, List.contains_cons, List.contains_nil, Nat.reduceBEq, Bool.or_true, Bool.true_or, Bool.or_false, if_true, Bool.false_eq_true, if_false, and_true, true_and] <;> repeat' (first | trivial | (refine And.intro ?_ ?_) | (unfold YA; go_big_quiet_op; rfl)))); clear hK K
    (repeat (first | (refine can_drop rfl rfl (fun K hK => ?_); go_big_quiet_op; refine hK _ ?_; clear hK K) | (refine can_pure ?_ rfl rfl (fun W K hK => ?_) ?_; rotate_left; (focus (go_big_quiet_op; exact hK))) | (refine can_keep rfl rfl (fun K hK => ?_); go_big_quiet_op; refine hK _ ?_; clear hK K) | (refine can_skip rfl rfl ?_; simp only [Act.put, List.setIfInBounds_toArray, List.set_cons_succ, List.set_cons_zero])))
    refine can_ef rfl (fun K hK => ?_)
    go_wp2_with fail
    refine hfc.mono ?_
    rintro e w13 ⟨vf2, rfl, hB13, hSf2⟩
    clear hfc
    obtain ⟨fa2, fc2, rfl, _⟩ := id hSf2
    have hsm := same_c w13 _ _ _ _ ys hSf2 (hx12.out.1.keep (fun k _ hk => hB13.block k hk) hB13.size)
    have hx13 := Lib.hid (hx12.out.2.trans (hB13.mono hx12.out.2.size))
    clear hB13 hSf2
    go_wp2_with fail
    refine hK _ _ ⟨?_, ?_⟩; (focus (simp only [ReAll, List.contains_cons, List.contains_nil, Nat.reduceBEq, Bool.or_true, Bool.true_or, Bool.or_false, if_true, Bool.false_eq_true, if_false, and_true, true_and] <;> repeat' (first | trivial | (refine And.intro ?_ ?_) | (unfold YA; go_big_quiet_op; rfl)))); clear hK K
    (repeat (first | (refine can_drop rfl rfl (fun K hK => ?_); go_big_quiet_op; refine hK _ ?_; clear hK K) | (refine can_pure ?_ rfl rfl (fun W K hK => ?_) ?_; rotate_left; (focus (go_big_quiet_op; exact hK))) | (refine can_keep rfl rfl (fun K hK => ?_); go_big_quiet_op; refine hK _ ?_; clear hK K) | (refine can_skip rfl rfl ?_; simp only [Act.put, List.setIfInBounds_toArray, List.set_cons_succ, List.set_cons_zero])))
    refine can_ef rfl (fun K hK => ?_)
    go_wp2_with fail
    refine hsm.mono ?_
    rintro e w14 ⟨rfl, nd2, hw14⟩
    clear hsm
    have hB14 : Below w.heap.size w w14 := by rw [hw14]; exact ⟨hx13.out.os, hx13.out.tape, hx13.out.output, hx13.out.size, hx13.out.block⟩
    clear hw14
    go_wp2
    refine hK _ _ ⟨?_, ?_⟩; (focus (simp only [ReAll, List.contains_cons, List.contains_nil, Nat.reduceBEq, Bool.or_true, Bool.true_or, Bool.or_false, if_true, Bool.false_eq_true, if_false, and_true, true_and] <;> repeat' (first | trivial | (refine And.intro ?_ ?_) | (unfold YA; go_big_quiet_op; rfl)))); clear hK K
    (repeat (first | (refine can_drop rfl rfl (fun K hK => ?_); go_big_quiet_op; refine hK _ ?_; clear hK K) | (refine can_pure ?_ rfl rfl (fun W K hK => ?_) ?_; rotate_left; (focus (go_big_quiet_op; exact hK))) | (refine can_keep rfl rfl (fun K hK => ?_); go_big_quiet_op; refine hK _ ?_; clear hK K) | (refine can_skip rfl rfl ?_; simp only [Act.put, List.setIfInBounds_toArray, List.set_cons_succ, List.set_cons_zero])))
    refine can_nil ?_
    go_wp2
    go_ret
    exact ⟨rfl, hB14⟩
  · go_wp2_with fail
    refine hfc.mono ?_
    rintro e w7 ⟨vf, rfl, hB7, hSf⟩
    clear hfc hc1 hc2
    obtain ⟨fa, fc, rfl, _⟩ := id hSf
    have hB67 := hB7
    have hB27 := hx6.out.1.trans (hB7.mono hx6.out.1.size)
    have hB17 := hx2.out.1.trans (hB27.mono hx2.out.1.size)
    have hsm := same_c w7 _ _ _ _ ys hSf (hx2.out.2.2.2.1.keep (fun k _ hk => hB27.block k hk) hB27.size)
    have hx7 := Lib.hid (And.intro hB7 (And.intro hB27 hB17))
    clear hB67 hB27 hB17 hSf hB7
    go_wp2_with fail
    refine hsm.mono ?_
    rintro e w8 ⟨rfl, nd, hw8⟩
    clear hsm
    have hB8 : Below w.heap.size w w8 := by rw [hw8]; exact ⟨hx7.out.2.2.os, hx7.out.2.2.tape, hx7.out.2.2.output, hx7.out.2.2.size, hx7.out.2.2.block⟩
    have hb78 : ∀ k : Nat, w8.heap[k]? = w7.heap[k]? := fun k => by rw [hw8]; rfl
    have hz78 : w8.heap.size = w7.heap.size := by rw [hw8]; rfl
    clear hw8
    go_wp2
    go_ret
    exact ⟨rfl, hB8⟩
#print axioms writes_c
end Go.Proofs.YtkmknpobinpegaaDoor
