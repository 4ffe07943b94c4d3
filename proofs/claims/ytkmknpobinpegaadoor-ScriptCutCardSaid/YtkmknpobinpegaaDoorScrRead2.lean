/- Layer 29's reader: read, Read. -/
import Derived.Test.YtkmknpobinpegaaDoorSteps
namespace Go.Proofs.YtkmknpobinpegaaDoor
open Go Go.RowKit Go.Maps Go.Sort Go.Lib
set_option linter.unusedSimpArgs false
set_option linter.unusedVariables false

def stepOf (st : RSt) : Stp := ⟨takeN st 8, takeN (takeS st 8) 16, (rB st).1, (rA st).1.map fun (n : Nat) => (n : Int)⟩
def stepsR (st : RSt) : Nat → List Stp × RSt
  | 0 => ([], st)
  | m + 1 => ((stepsR st m).1 ++ [stepOf (stepsR st m).2], (rA (stepsR st m).2).2)
def kS6 (st : RSt) : RSt := takeS (kS5 st) 16
def kN (st : RSt) : Nat := takeN (kS5 st) 16
/-- What is read of bits: a config and steps; or what is told. -/
inductive RRes where
  | ok (c : Cfg) (xs : List Stp)
  | bad (k : Int)
def readR (bits : List Nat) : RRes :=
  match kS6 (.ok bits) with
  | .bad k => .bad k
  | .ok rest => if 2000 < kN (.ok bits) then .bad 5 else
    match (stepsR (.ok rest) (kN (.ok bits))).2 with
    | .bad k => .bad k
    | .ok rest' => if padN rest' = 0 then .ok (cfgR (.ok bits)) (stepsR (.ok rest) (kN (.ok bits))).1 else .bad (padN rest')
def zeroC : Cfg := ⟨0, 0, 0, 0, 0⟩
def ReadPost (w : World) (res : RRes) (e : Ending) (w' : World) : Prop :=
  ∃ c lv err, e = .returned (.tuple #[cfgV c, lv, err]) ∧ Below w.heap.size w w' ∧ match res with
    | .ok c' xs => c = c' ∧ err = .nilIface ∧ StpsAt w' (fun k => w.heap.size ≤ k ∧ k < w'.heap.size) lv xs
    | .bad k => lv = .slice none 0 0 ∧ ErrAt w' err k ∧ c = zeroC
theorem rA_bad (k : Int) : (rA (.bad k)).2 = .bad k := by
  have h1 : ∀ n m, takeMany n m (.bad k) = (List.replicate m 0, .bad k) := by
    intro n m
    induction m with
    | zero => rfl
    | succ m ih => unfold takeMany; rw [ih]; simp [takeN, takeS, List.replicate_succ']
  unfold rA rB rS3
  rw [show takeS (takeS (takeS (.bad k) 8) 16) 8 = .bad k from rfl, h1]
  simp only
  rw [show takeS (.bad k) 8 = .bad k from rfl, h1]
def cfgL (c : Cfg) : List Value := [.int .i64 c.size, .int .i64 c.queue, .int .i64 c.pool, .int .u16 c.first, .int .i64 c.age]
theorem cfgL_cells {w : World} {p : Nat} {c : Cfg} {t : TypeId} (h : w.heap[p]? = some (.cells (cfgL c).toArray t (0, 0))) : KC w p (cfgL c) := ⟨rfl, fun j hj => by
  have : j = 0 ∨ j = 1 ∨ j = 2 ∨ j = 3 ∨ j = 4 := by omega
  rcases this with rfl | rfl | rfl | rfl | rfl <;> simp [World.cell?, h, cfgL], fun k => by simp [World.frozen?, h]⟩

theorem infoSt : (Tryd.prog.info? 52).map (fun i => (i.zero, i.size, i.bytes)) = some (some (.agg #[.int .i64 0, .int .i64 0, .slice none 0 0, .slice none 0 0]), 4, 64) := by kernel_rfl
theorem stepsR_length (st : RSt) : ∀ m, (stepsR st m).1.length = m
  | 0 => rfl
  | m + 1 => by simp [stepsR, stepsR_length st m]
theorem stepsR_bad {st : RSt} {k : Int} {j : Nat} (h : (stepsR st j).2 = .bad k) : ∀ n, j ≤ n → (stepsR st n).2 = .bad k := by
  intro n hn
  induction n with
  | zero => obtain rfl : j = 0 := by omega
            exact h
  | succ n ih =>
    by_cases e : j = n + 1
    · subst e; exact h
    · have := ih (by omega)
      show (rA (stepsR st n).2).2 = _
      rw [this, rA_bad]
/-- Where reading stands. -/
structure RC (w wi : World) (S : Nat → Prop) (sb r p : Nat) (st : RSt) (c : Cfg) : Prop where
  at_ : SrAt wi S sb st
  kr : KC wi r (cfgL zeroC)
  kp : KC wi p (cfgL c)
  bl : Below w.heap.size w wi
  ge : ∀ k, S k → w.heap.size ≤ k
  nr : ¬ S r
  np : ¬ S p
  rp : r ≠ p
  hr : w.heap.size ≤ r
  hp : w.heap.size ≤ p
theorem RC.step {w wi w' : World} {S S' : Nat → Prop} {sb r p : Nat} {st st' : RSt} {c : Cfg} (h : RC w wi S sb r p st c) (ha : SrAt w' S' sb st') (hf : Fr S wi w') (hs : ∀ k, S' k → S k ∨ wi.heap.size ≤ k) : RC w w' S' sb r p st' c where
  at_ := ha
  kr := h.kr.block (hf.block r h.kr.lt h.nr)
  kp := h.kp.block (hf.block p h.kp.lt h.np)
  bl := h.bl.trans (hf.below (fun k hk => h.ge k hk) h.bl.size)
  ge := fun k hk => by rcases hs k hk with h' | h'; exact h.ge k h'; have := h.bl.size; omega
  nr := fun hk => by rcases hs r hk with h' | h'; exact h.nr h'; have := h.kr.lt; omega
  np := fun hk => by rcases hs p hk with h' | h'; exact h.np h'; have := h.kp.lt; omega
  rp := h.rp
  hr := h.hr
  hp := h.hp
theorem RC.keep {w wi w' : World} {S : Nat → Prop} {sb r p : Nat} {st : RSt} {c : Cfg} (h : RC w wi S sb r p st c) (hk : ∀ k, (S k ∨ k = r ∨ k = p) → w'.heap[k]? = wi.heap[k]?) (hb : Below w.heap.size w w') (hz : wi.heap.size ≤ w'.heap.size) : RC w w' S sb r p st c where
  at_ := h.at_.keep (fun k hs => hk k (.inl hs)) hz
  kr := h.kr.block (hk r (.inr (.inl rfl)))
  kp := h.kp.block (hk p (.inr (.inr rfl)))
  bl := hb
  ge := h.ge
  nr := h.nr
  np := h.np
  rp := h.rp
  hr := h.hr
  hp := h.hp
theorem RC.drewN {w wi : World} {S : Nat → Prop} {sb r p : Nat} {st : RSt} {c : Cfg} (h : RC w wi S sb r p st c) (n : Nat) : RC w (wi.drewN n) S sb r p st c :=
  h.keep (fun k _ => rfl) ⟨h.bl.os, h.bl.tape, h.bl.output, h.bl.size, h.bl.block⟩ (Nat.le_refl _)
theorem SrAt.sb {w : World} {S : Nat → Prop} {sb : Nat} {st : RSt} (h : SrAt w S sb st) : S sb := by
  cases st with
  | ok rest => obtain ⟨R, rb, _, _, _, _, _, h, _⟩ := h; exact h
  | bad k => obtain ⟨e, _, _, _, h, _⟩ := h; exact h

set_option maxRecDepth 8000 in
set_option maxHeartbeats 4000000 in
theorem read_c (w : World) (T : Nat → Prop) (v : Value) (xs : List Nat) (h : Rd encB w T v xs) (hb : ∀ y ∈ xs, y < 256) (hl : xs.length ≤ 100000) :
    Calls Tryd.prog 18 #[v] w (ReadPost w (readR (unbits xs))) := by
  obtain ⟨i0, hi, hi0, hi1, hi2⟩ := info_parts infoSt
  obtain ⟨r, hr⟩ : ∃ r, r = w.heap.size := ⟨_, rfl⟩
  obtain ⟨w1, hw1⟩ : ∃ w1, w1 = w.alloc (.cells #[.int .i64 0, .int .i64 0, .int .i64 0, .int .u16 0, .int .i64 0] 36) := ⟨_, rfl⟩
  have z1 : w1.heap.size = w.heap.size + 1 := by rw [hw1]; simp
  have hB1 : Below w.heap.size w w1 := by rw [hw1]; exact (Below.refl _ _).alloc (Nat.le_refl _) _
  have hKr : KC w1 r (cfgL zeroC) := cfgL_cells (c := zeroC) (by rw [hw1, hr]; exact heap_alloc_new w _)
  have ho := bitioOf_c w1 T v xs (h.keep (fun k _ hk => hB1.block k hk) hB1.size) hb hl
  obtain ⟨va, vl, vc, rfl⟩ := h.slice
  clear h hb hl
  generalize unbits xs = bits at *
  have hx1 := Lib.hid (And.intro hB1 (And.intro hKr (And.intro hr z1)))
  clear hB1 hKr z1
  go_enter Tryd.func18, Tryd.ntmps18
  go_wp2_with fail
  rw [← hw1, ← hr]
  clear hw1 hr
  refine ho.mono ?_
  rintro e w2 ⟨rb, R, rfl, hB2, hR2, hRge⟩
  obtain ⟨w3, hw3⟩ : ∃ w3, w3 = w2.alloc (.cells #[.pointer (some ⟨rb, 0, none⟩), .nilIface] 82) := ⟨_, rfl⟩
  obtain ⟨sb, hsb⟩ : ∃ sb, sb = w2.heap.size := ⟨_, rfl⟩
  have hB3 : Below w2.heap.size w2 w3 := by rw [hw3]; exact (Below.refl _ _).alloc (Nat.le_refl _) _
  have z3 : w3.heap.size = w2.heap.size + 1 := by rw [hw3]; simp
  have hRlt : ∀ k, R k → k < w2.heap.size := by obtain ⟨a, c, H⟩ := hR2; exact H.lt
  have hS3 : SrAt w3 (fun k => R k ∨ k = sb) sb (.ok bits) := ⟨R, rb, by rw [hw3, hsb, World.cell?_alloc_new]; rfl, by rw [hw3, hsb, World.cell?_alloc_new]; rfl, by rw [hw3, hsb]; simp, hR2.keep (fun k hk => hB3.block k (hRlt k hk)) hB3.size,
    fun k hk => ⟨.inl hk, by have := hRlt k hk; omega⟩, .inr rfl, fun k hk => by rcases hk with hk | hk; have := hRlt k hk; omega; omega⟩
  have hKr3 : KC w3 r (cfgL zeroC) := (hx1.out.2.1.block (hB2.block r hx1.out.2.1.lt)).block (hB3.block r (Nat.lt_of_lt_of_le hx1.out.2.1.lt hB2.size))
  have hBw3 : Below w.heap.size w w3 := (hx1.out.1.trans (hB2.mono hx1.out.1.size)).trans (hB3.mono (Nat.le_trans hx1.out.1.size hB2.size))
  have hge3 : ∀ k, (R k ∨ k = sb) → w1.heap.size ≤ k := fun k hk => by rcases hk with hk | hk; exact hRge k hk; have := hB2.size; omega
  have hc3 := config_c w3 _ sb (.ok bits) hS3
  have hx3 := Lib.hid (And.intro hKr3 (And.intro hBw3 hge3))
  clear hB2 hR2 hRge hB3 z3 hRlt hS3 hKr3 hBw3 hge3 ho
  go_wp2_with fail
  rw [← hw3, ← hsb]
  clear hw3 hsb
  refine hc3.mono ?_
  rintro e w4 ⟨rfl, S4, hA4, hF4, hS4⟩
  obtain ⟨w5, hw5⟩ : ∃ w5, w5 = w4.alloc (.cells (cfgL (cfgR (.ok bits))).toArray 36) := ⟨_, rfl⟩
  obtain ⟨p, hp⟩ : ∃ p, p = w4.heap.size := ⟨_, rfl⟩
  have z5 : w5.heap.size = w4.heap.size + 1 := by rw [hw5]; simp
  have hB5 : Below w4.heap.size w4 w5 := by rw [hw5]; exact (Below.refl _ _).alloc (Nat.le_refl _) _
  have hnr3 : ¬ (R r ∨ r = sb) := fun h => by have := hx3.out.2.2 r h; obtain ⟨_, _, h1, h2⟩ := hx1.out; omega
  have hRC5 : RC w w5 S4 sb r p (kS5 (.ok bits)) (cfgR (.ok bits)) := {
    at_ := hA4.keep (fun k hk => hB5.block k (hA4.lt k hk)) hB5.size
    kr := (hx3.out.1.block (hF4.block r hx3.out.1.lt hnr3)).block (hB5.block r (Nat.lt_of_lt_of_le hx3.out.1.lt hF4.size))
    kp := cfgL_cells (c := cfgR (.ok bits)) (by rw [hw5, hp]; exact heap_alloc_new w4 _)
    bl := (hx3.out.2.1.trans (hF4.below (fun k hk => by have := hx3.out.2.2 k hk; have := hx1.out.2.2.2; omega) hx3.out.2.1.size)).trans (hB5.mono (by have := hF4.size; have := hx3.out.2.1.size; omega))
    ge := fun k hk => by
      have := hx1.out.2.2.2
      rcases hS4 k hk with h | h
      · have := hx3.out.2.2 k h; omega
      · have := hx3.out.2.1.size; omega
    nr := fun hk => by
      rcases hS4 r hk with h | h
      · exact hnr3 h
      · have := hx3.out.1.lt; omega
    np := fun hk => by have := hA4.lt p hk; omega
    rp := by have := hx3.out.1.lt; have := hF4.size; omega
    hr := by have := hx1.out.2.2.1; omega
    hp := by have := hF4.size; have := hx3.out.2.1.size; omega }
  have hRC5' := Lib.hid hRC5
  have hcv : cfgV (cfgR (.ok bits)) = .agg (cfgL (cfgR (.ok bits))).toArray := rfl
  have b16 := takeN_lt hRC5.at_.bits 16
  have ht := rtake_c w5 S4 sb (kS5 (.ok bits)) ⟨#[115, 116, 101, 112, 115]⟩ 16 hRC5.at_ (by omega) (by omega)
  clear hRC5 hA4 hF4 hS4 hB5 z5 hnr3 hc3
  have hws : w5 = w4.alloc (.cells #[.int .i64 (cfgR (.ok bits)).size, .int .i64 (cfgR (.ok bits)).queue, .int .i64 (cfgR (.ok bits)).pool, .int .u16 (cfgR (.ok bits)).first, .int .i64 (cfgR (.ok bits)).age] 36) := hw5
  clear hw5 hcv
  have hres : readR bits = match kS6 (.ok bits) with
    | .bad k => .bad k
    | .ok rest => if 2000 < kN (.ok bits) then .bad 5 else
      match (stepsR (.ok rest) (kN (.ok bits))).2 with
      | .bad k => .bad k
      | .ok rest' => if padN rest' = 0 then .ok (cfgR (.ok bits)) (stepsR (.ok rest) (kN (.ok bits))).1 else .bad (padN rest') := rfl
  have e6 : takeS (kS5 (.ok bits)) 16 = kS6 (.ok bits) := rfl
  have eN : takeN (kS5 (.ok bits)) 16 = kN (.ok bits) := rfl
  rw [eN] at b16
  rw [e6, eN] at ht
  clear e6 eN
  generalize kS6 (.ok bits) = s6 at *
  generalize kN (.ok bits) = n at *
  generalize cfgR (.ok bits) = c at *
  have hresx := Lib.hid hres
  clear hres
  have hn16 : n < 65536 := b16
  clear b16
  unfold cfgV
  go_wp2_with fail
  rw [← hws, ← hp]
  clear hws hp
  refine ht.mono ?_
  rintro e w6 ⟨rfl, S6, hA6, hF6, hS6⟩
  have hRC6 := Lib.hid (hRC5'.out.step hA6 hF6 hS6)
  clear ht hA6 hF6 hS6 hRC5'
  cases s6 with
  | bad k =>
    have hresk : readR bits = .bad k := hresx.out
    have hreskx := Lib.hid hresk
    clear hresk
    obtain ⟨q, c1, c2, hqS, hsS, hSlt⟩ := hRC6.out.at_
    clear hSlt
    go_wp2
    (refine wp_region_can [[], [], [1], [1, 2], [1, 2, 3], [0], [0, 5], [0, 1, 2, 3, 4, 5, 6]] [.st 0 .drop, .st 1 .pure, .st 2 .pure, .st 3 .pure, .st 4 .keep, .ef 5 [1, 2, 3, 4], .st 6 .drop, .st 7 .drop] (by kernel_rfl) (by kernel_rfl) ?_; try simp only [Act.put])
    generalize hw7 : World.drew _ = w7
    have hRC7 : RC w w7 S6 sb r p (.bad k) c := by rw [← hw7]; exact hRC6.out.keep (fun _ _ => rfl) ⟨hRC6.out.bl.os, hRC6.out.bl.tape, hRC6.out.bl.output, hRC6.out.bl.size, hRC6.out.bl.block⟩ (Nat.le_refl _)
    clear hw7 c1 c2 hqS hsS hRC6
    obtain ⟨q, c1, c2, hqS, hsS, hSlt⟩ := hRC7.at_
    clear hSlt
    have r0 := hRC7.kr.c 0 (by omega)
    have r1 := hRC7.kr.c 1 (by omega)
    have r2 := hRC7.kr.c 2 (by omega)
    have r3 := hRC7.kr.c 3 (by omega)
    have r4 := hRC7.kr.c 4 (by omega)
    have f0 := hRC7.kr.fr 0
    have f1 := hRC7.kr.fr 1
    have f2 := hRC7.kr.fr 2
    have f3 := hRC7.kr.fr 3
    have f4 := hRC7.kr.fr 4
    simp only [cfgL, zeroC] at r0 r1 r2 r3 r4
    have hrl := hRC7.kr.lt
    have hsr : sb ≠ r := fun e => hRC7.nr (by rw [← e]; exact hsS)
    have hsbl := hRC7.at_.lt sb hsS
    have hRx := Lib.hid hRC7
    have hcx := Lib.hid (And.intro c2 hqS)
    clear hRC7 c2 hqS hsS
    (repeat (first | (refine can_drop rfl rfl (fun K hK => ?_); go_big_quiet_op; refine hK _ ?_; clear hK K) | (refine can_pure ?_ rfl rfl (fun W K hK => ?_) ?_; rotate_left; (focus (go_big_quiet_op; exact hK))) | (refine can_keep rfl rfl (fun K hK => ?_); go_big_quiet_op; refine hK _ ?_; clear hK K) | (refine can_skip rfl rfl ?_; simp only [Act.put, List.setIfInBounds_toArray, List.set_cons_succ, List.set_cons_zero])))
    refine can_ef rfl (fun K hK => ?_)
    go_wp2
    refine hK _ _ ⟨?_, ?_⟩; (focus (simp only [ReAll, List.contains_cons, List.contains_nil, Nat.reduceBEq, Bool.or_true, Bool.true_or, Bool.or_false, if_true, Bool.false_eq_true, if_false, and_true, true_and] <;> repeat' (first | trivial | (refine And.intro ?_ ?_) | (unfold YA; go_big_quiet_op; rfl)))); clear hK K
    (repeat (first | (refine can_drop rfl rfl (fun K hK => ?_); go_big_quiet_op; refine hK _ ?_; clear hK K) | (refine can_pure ?_ rfl rfl (fun W K hK => ?_) ?_; rotate_left; (focus (go_big_quiet_op; exact hK))) | (refine can_keep rfl rfl (fun K hK => ?_); go_big_quiet_op; refine hK _ ?_; clear hK K) | (refine can_skip rfl rfl ?_; simp only [Act.put, List.setIfInBounds_toArray, List.set_cons_succ, List.set_cons_zero])))
    refine can_nil ?_
    go_wp2
    obtain ⟨w8, hw8⟩ : ∃ w8, w8 = ((((w7.setCell ⟨r, 0, none⟩ (.int .i64 0)).setCell ⟨r, 1, none⟩ (.int .i64 0)).setCell ⟨r, 2, none⟩ (.int .i64 0)).setCell ⟨r, 3, none⟩ (.int .u16 0)).setCell ⟨r, 4, none⟩ (.int .i64 0) := ⟨_, rfl⟩
    have hK8 : KC w8 r (cfgL zeroC) := by
      have := ((((hRx.out.kr.set (i := 0) (by omega) (.int .i64 0)).set (i := 1) (by omega) (.int .i64 0)).set (i := 2) (by omega) (.int .i64 0)).set (i := 3) (by omega) (.int .u16 0)).set (i := 4) (by omega) (.int .i64 0)
      rw [← hw8] at this
      exact this
    have hb8 : ∀ k, k ≠ r → w8.heap[k]? = w7.heap[k]? := fun k hk => by
      rw [hw8, Below.heap_setCell _ _ _ _ hk, Below.heap_setCell _ _ _ _ hk, Below.heap_setCell _ _ _ _ hk, Below.heap_setCell _ _ _ _ hk, Below.heap_setCell _ _ _ _ hk]
    have hB8 : Below w.heap.size w w8 := by
      have hge := hRx.out.hr
      rw [hw8]
      exact (((((hRx.out.bl.setCell (p := ⟨r, 0, none⟩) hge _).setCell (p := ⟨r, 1, none⟩) hge _).setCell (p := ⟨r, 2, none⟩) hge _).setCell (p := ⟨r, 3, none⟩) hge _).setCell (p := ⟨r, 4, none⟩) hge _)
    rw [← hw8]
    clear hw8
    have g0 := hK8.c 0 (by omega)
    have g1 := hK8.c 1 (by omega)
    have g2 := hK8.c 2 (by omega)
    have g3 := hK8.c 3 (by omega)
    have g4 := hK8.c 4 (by omega)
    refine bodyPost_ret (v := .tuple #[cfgV zeroC, .slice none 0 0, .iface 73 (.pointer (some ⟨q, 0, none⟩))]) ?_ rfl ?_
    · clear r0 r1 r2 r3 r4 c1
      simp [cfgL, zeroC] at g0 g1 g2 g3 g4
      simp [results, Tryd.f18, go_sem, asAddr, Result.andThen, g0, g1, g2, g3, g4, cfgV, zeroC]
    · rw [hreskx.out]
      refine ⟨zeroC, _, _, rfl, hB8, rfl, .hit q k ?_, rfl⟩
      rw [World.cell?_of_block (w := w7) (a := ⟨q, 1, none⟩) (hb8 q (fun e => hRx.out.nr (by rw [← e]; exact hcx.out.2)))]
      exact hcx.out.1
  | ok rest =>
    obtain ⟨Ro, rbo, c0, c1, fz, hRo, hRoS, hsS, hSlt⟩ := hRC6.out.at_
    clear hRo hRoS hSlt c0
    have hsbl := hRC6.out.at_.lt sb hsS
    by_cases hn : 2000 < n
    · have hresk : readR bits = .bad 5 := by rw [hresx.out]; simp only; rw [if_pos hn]
      have hreskx := Lib.hid hresk
      clear hresk hresx
      have hRCb : RC w ((w6.setCell ⟨sb, 1, none⟩ (.iface 73 (.pointer (some ⟨w6.heap.size, 0, none⟩)))).alloc (.cells #[.string ⟨#[115, 116, 101, 112, 115]⟩, .int .i64 5] 77)) (fun k => S6 k ∨ k = w6.heap.size) sb r p (.bad 5) c := by
        refine hRC6.out.step (st' := .bad 5) ⟨w6.heap.size, ?_, ?_, .inr rfl, .inl hsS, ?_⟩ (((Fr.refl S6 w6).setCell (p := ⟨sb, 1, none⟩) (.inl hsS) _).alloc _) ?_
        · rw [World.cell?_alloc_lt _ _ ⟨sb, 1, none⟩ (by simp; omega)]
          exact World.cell?_setCell_same _ _ _ c1
        · rw [World.cell?_alloc_at _ _ _ _ (by simp)]; rfl
        · rintro k (hk | hk)
          · have := hRC6.out.at_.lt k hk; simp; omega
          · simp; omega
        · rintro k (hk | hk)
          · exact .inl hk
          · right; omega
      have hRCb := Lib.hid hRCb
      have hnb : decide ((2000 : Int) < (n : Int)) = true := by simp; omega
      clear hRC6
      go_wp2
      (refine wp_region_can [[], [], [1], [1, 2], [1, 2, 3], [0], [0, 5], [0, 1, 2, 3, 4, 5, 6]] [.st 0 .drop, .st 1 .pure, .st 2 .pure, .st 3 .pure, .st 4 .keep, .ef 5 [1, 2, 3, 4], .st 6 .drop, .st 7 .drop] (by kernel_rfl) (by kernel_rfl) ?_; try simp only [Act.put])
      generalize hw7 : World.drew _ = w7
      have hRC7 : RC w w7 (fun k => S6 k ∨ k = w6.heap.size) sb r p (.bad 5) c := by rw [← hw7]; exact hRCb.out.keep (fun _ _ => rfl) ⟨hRCb.out.bl.os, hRCb.out.bl.tape, hRCb.out.bl.output, hRCb.out.bl.size, hRCb.out.bl.block⟩ (Nat.le_refl _)
      clear hw7 c1 hsS hRCb
      obtain ⟨q, c1, c2, hqS, hsS, hSlt⟩ := hRC7.at_
      clear hSlt
      have r0 := hRC7.kr.c 0 (by omega)
      have r1 := hRC7.kr.c 1 (by omega)
      have r2 := hRC7.kr.c 2 (by omega)
      have r3 := hRC7.kr.c 3 (by omega)
      have r4 := hRC7.kr.c 4 (by omega)
      have f0 := hRC7.kr.fr 0
      have f1 := hRC7.kr.fr 1
      have f2 := hRC7.kr.fr 2
      have f3 := hRC7.kr.fr 3
      have f4 := hRC7.kr.fr 4
      simp only [cfgL, zeroC] at r0 r1 r2 r3 r4
      have hrl := hRC7.kr.lt
      have hsr : sb ≠ r := fun e => hRC7.nr (by rw [← e]; exact hsS)
      have hsbl := hRC7.at_.lt sb hsS
      have hRx := Lib.hid hRC7
      have hcx := Lib.hid (And.intro c2 hqS)
      clear hRC7 c2 hqS hsS
      (repeat (first | (refine can_drop rfl rfl (fun K hK => ?_); go_big_quiet_op; refine hK _ ?_; clear hK K) | (refine can_pure ?_ rfl rfl (fun W K hK => ?_) ?_; rotate_left; (focus (go_big_quiet_op; exact hK))) | (refine can_keep rfl rfl (fun K hK => ?_); go_big_quiet_op; refine hK _ ?_; clear hK K) | (refine can_skip rfl rfl ?_; simp only [Act.put, List.setIfInBounds_toArray, List.set_cons_succ, List.set_cons_zero])))
      refine can_ef rfl (fun K hK => ?_)
      go_wp2
      refine hK _ _ ⟨?_, ?_⟩; (focus (simp only [ReAll, List.contains_cons, List.contains_nil, Nat.reduceBEq, Bool.or_true, Bool.true_or, Bool.or_false, if_true, Bool.false_eq_true, if_false, and_true, true_and] <;> repeat' (first | trivial | (refine And.intro ?_ ?_) | (unfold YA; go_big_quiet_op; rfl)))); clear hK K
      (repeat (first | (refine can_drop rfl rfl (fun K hK => ?_); go_big_quiet_op; refine hK _ ?_; clear hK K) | (refine can_pure ?_ rfl rfl (fun W K hK => ?_) ?_; rotate_left; (focus (go_big_quiet_op; exact hK))) | (refine can_keep rfl rfl (fun K hK => ?_); go_big_quiet_op; refine hK _ ?_; clear hK K) | (refine can_skip rfl rfl ?_; simp only [Act.put, List.setIfInBounds_toArray, List.set_cons_succ, List.set_cons_zero])))
      refine can_nil ?_
      go_wp2
      obtain ⟨w8, hw8⟩ : ∃ w8, w8 = ((((w7.setCell ⟨r, 0, none⟩ (.int .i64 0)).setCell ⟨r, 1, none⟩ (.int .i64 0)).setCell ⟨r, 2, none⟩ (.int .i64 0)).setCell ⟨r, 3, none⟩ (.int .u16 0)).setCell ⟨r, 4, none⟩ (.int .i64 0) := ⟨_, rfl⟩
      have hK8 : KC w8 r (cfgL zeroC) := by
        have := ((((hRx.out.kr.set (i := 0) (by omega) (.int .i64 0)).set (i := 1) (by omega) (.int .i64 0)).set (i := 2) (by omega) (.int .i64 0)).set (i := 3) (by omega) (.int .u16 0)).set (i := 4) (by omega) (.int .i64 0)
        rw [← hw8] at this
        exact this
      have hb8 : ∀ k, k ≠ r → w8.heap[k]? = w7.heap[k]? := fun k hk => by
        rw [hw8, Below.heap_setCell _ _ _ _ hk, Below.heap_setCell _ _ _ _ hk, Below.heap_setCell _ _ _ _ hk, Below.heap_setCell _ _ _ _ hk, Below.heap_setCell _ _ _ _ hk]
      have hB8 : Below w.heap.size w w8 := by
        have hge := hRx.out.hr
        rw [hw8]
        exact (((((hRx.out.bl.setCell (p := ⟨r, 0, none⟩) hge _).setCell (p := ⟨r, 1, none⟩) hge _).setCell (p := ⟨r, 2, none⟩) hge _).setCell (p := ⟨r, 3, none⟩) hge _).setCell (p := ⟨r, 4, none⟩) hge _)
      rw [← hw8]
      clear hw8
      have g0 := hK8.c 0 (by omega)
      have g1 := hK8.c 1 (by omega)
      have g2 := hK8.c 2 (by omega)
      have g3 := hK8.c 3 (by omega)
      have g4 := hK8.c 4 (by omega)
      refine bodyPost_ret (v := .tuple #[cfgV zeroC, .slice none 0 0, .iface 73 (.pointer (some ⟨q, 0, none⟩))]) ?_ rfl ?_
      · clear r0 r1 r2 r3 r4 c1
        simp [cfgL, zeroC] at g0 g1 g2 g3 g4
        simp [results, Tryd.f18, go_sem, asAddr, Result.andThen, g0, g1, g2, g3, g4, cfgV, zeroC]
      · rw [hreskx.out]
        refine ⟨zeroC, _, _, rfl, hB8, rfl, .hit q 5 ?_, rfl⟩
        rw [World.cell?_of_block (w := w7) (a := ⟨q, 1, none⟩) (hb8 q (fun e => hRx.out.nr (by rw [← e]; exact hcx.out.2)))]
        exact hcx.out.1
    · have hresk : readR bits = match (stepsR (.ok rest) n).2 with
        | .bad k => .bad k
        | .ok rest' => if padN rest' = 0 then .ok c (stepsR (.ok rest) n).1 else .bad (padN rest') := by rw [hresx.out]; simp only; rw [if_neg hn]
      have hreskx := Lib.hid hresk
      clear hresk hresx
      have hnb : decide ((2000 : Int) < (n : Int)) = false := by simp; omega
      go_wp2
      clear hsS fz c1
      go_loopw [8, 46] (fun s8 s46 wr => ∃ (j : Nat) (Sj : Nat → Prop) (D : Nat → Prop) (rj : List Nat), j ≤ n ∧ s46 = .int .i64 (j : Int) ∧ Aside (RC w wr Sj sb r p (stepsR (.ok rest) j).2 c ∧ (stepsR (.ok rest) j).2 = .ok rj ∧
          Build wr 52 w.heap.size s8 D (stepsR (.ok rest) j).1 ∧ ∀ k, (D k ∨ s8.ownBlock = some k) → ¬ Sj k ∧ k ≠ r ∧ k ≠ p))
        (fun _ s46 _ => n - (intOf s46).toNat)
      case atStart => exact ⟨0, S6, fun _ => False, rest, Nat.zero_le _, rfl, hRC6.out, rfl, Build.nil _ _ _, fun k hk => by rcases hk with hk | hk; exact hk.elim; simp [Value.ownBlock] at hk⟩
      case round =>
        obtain ⟨j, Sj, D, rj, hj, rfl, hA⟩ := hrel
        have hAj := Lib.hid hA
        clear hA hRC6
        by_cases hlt : j < n
        · have hst := rstep_c wr Sj sb (stepsR (.ok rest) j).2 hAj.out.1.at_
          have e1 : stepsR (.ok rest) (j + 1) = ((stepsR (.ok rest) j).1 ++ [stepOf (stepsR (.ok rest) j).2], (rA (stepsR (.ok rest) j).2).2) := rfl
          have e1x := Lib.hid e1
          clear e1
          obtain ⟨oa, ol, oc, rfl⟩ := hAj.out.2.2.1.slice
          have hsj := Lib.hid (stepsR_length (.ok rest) j)
          generalize stepsR (.ok rest) j = sj at *
          go_wp2_with fail
          refine hst.mono ?_
          rintro e w7 ⟨S7, v7, err7, rfl, hA7, hF7, hS7, hm7⟩
          have hRC7 := hAj.out.1.step hA7 hF7 hS7
          have hD7 : ∀ k, (D k ∨ (Value.slice oa ol oc).ownBlock = some k) → w7.heap[k]? = wr.heap[k]? := fun k hk => hF7.block k (by
            rcases hk with hk | hk
            · exact (hAj.out.2.2.1.lt.1 k hk).2.1
            · exact (hAj.out.2.2.1.lt.2 k hk).2) (hAj.out.2.2.2 k hk).1
          have hBu7 := hAj.out.2.2.1.keep (fun k hk => hD7 k (.inl hk)) (fun g hg => hD7 g (.inr hg)) hF7.size
          have hn7 : ∀ k, (D k ∨ (Value.slice oa ol oc).ownBlock = some k) → ¬ S7 k := fun k hk hs => by
            rcases hS7 k hs with h | h
            · exact (hAj.out.2.2.2 k hk).1 h
            · rcases hk with hk | hk
              · have := (hAj.out.2.2.1.lt.1 k hk).2.1; omega
              · have := (hAj.out.2.2.1.lt.2 k hk).2; omega
          have hz7 := hF7.size
          have hlr := hAj.out.2.2.1.lt
          clear hst hF7 hD7
          cases hc7 : (rA sj.2).2 with
          | bad k =>
            rw [hc7] at hm7 hRC7
            obtain ⟨rfl, q, rfl, hq, hqS⟩ := hm7
            have hbk : (stepsR (.ok rest) n).2 = .bad k := stepsR_bad (j := j + 1) (by rw [e1x.out]; exact hc7) n (by omega)
            have hresk : readR bits = .bad k := by rw [hreskx.out, hbk]
            have hreskk := Lib.hid hresk
            obtain ⟨wa, hwa⟩ : ∃ wa, wa = w7.alloc (.cells #[.int .i64 0, .int .i64 0, .slice none 0 0, .slice none 0 0] 52) := ⟨_, rfl⟩
            have hBa : Below w7.heap.size w7 wa := by rw [hwa]; exact (Below.refl _ _).alloc (Nat.le_refl _) _
            have hqx := Lib.hid (And.intro hq hqS)
            have hRx : RC w wa S7 sb r p (.bad k) c := hRC7.keep (fun k hk => hBa.block k (by
              rcases hk with hk | rfl | rfl
              · exact hRC7.at_.lt k hk
              · exact hRC7.kr.lt
              · exact hRC7.kp.lt)) (hRC7.bl.trans (hBa.mono hRC7.bl.size)) hBa.size
            have hqa : wa.cell? ⟨q, 1, none⟩ = some (.int .i64 k) := (World.cell?_of_block (w := w7) (a := ⟨q, 1, none⟩) (hBa.block q (hRC7.at_.lt q hqS))).trans hq
            have hcx := Lib.hid (And.intro hqa hqS)
            clear hbk hresk hc7 hq hqS hA7 hS7 hBu7 hn7 hz7 hlr hBa hqa hRC7
            have hwax := Lib.hid hwa
            have r0 := hRx.kr.c 0 (by omega)
            have r1 := hRx.kr.c 1 (by omega)
            have r2 := hRx.kr.c 2 (by omega)
            have r3 := hRx.kr.c 3 (by omega)
            have r4 := hRx.kr.c 4 (by omega)
            have f0 := hRx.kr.fr 0
            have f1 := hRx.kr.fr 1
            have f2 := hRx.kr.fr 2
            have f3 := hRx.kr.fr 3
            have f4 := hRx.kr.fr 4
            simp only [cfgL, zeroC] at r0 r1 r2 r3 r4
            have hrl := hRx.kr.lt
            have hRx := Lib.hid hRx
            rw [hwa] at r0 r1 r2 r3 r4 f0 f1 f2 f3 f4
            clear hwa
            go_wp2
            rw [← hwax.out]
            obtain ⟨w8, hw8⟩ : ∃ w8, w8 = ((((wa.setCell ⟨r, 0, none⟩ (.int .i64 0)).setCell ⟨r, 1, none⟩ (.int .i64 0)).setCell ⟨r, 2, none⟩ (.int .i64 0)).setCell ⟨r, 3, none⟩ (.int .u16 0)).setCell ⟨r, 4, none⟩ (.int .i64 0) := ⟨_, rfl⟩
            have hK8 : KC w8 r (cfgL zeroC) := by
              have := ((((hRx.out.kr.set (i := 0) (by omega) (.int .i64 0)).set (i := 1) (by omega) (.int .i64 0)).set (i := 2) (by omega) (.int .i64 0)).set (i := 3) (by omega) (.int .u16 0)).set (i := 4) (by omega) (.int .i64 0)
              rw [← hw8] at this
              exact this
            have hb8 : ∀ k, k ≠ r → w8.heap[k]? = wa.heap[k]? := fun k hk => by
              rw [hw8, Below.heap_setCell _ _ _ _ hk, Below.heap_setCell _ _ _ _ hk, Below.heap_setCell _ _ _ _ hk, Below.heap_setCell _ _ _ _ hk, Below.heap_setCell _ _ _ _ hk]
            have hB8 : Below w.heap.size w w8 := by
              have hge := hRx.out.hr
              rw [hw8]
              exact (((((hRx.out.bl.setCell (p := ⟨r, 0, none⟩) hge _).setCell (p := ⟨r, 1, none⟩) hge _).setCell (p := ⟨r, 2, none⟩) hge _).setCell (p := ⟨r, 3, none⟩) hge _).setCell (p := ⟨r, 4, none⟩) hge _)
            rw [← hw8]
            clear hw8
            have g0 := hK8.c 0 (by omega)
            have g1 := hK8.c 1 (by omega)
            have g2 := hK8.c 2 (by omega)
            have g3 := hK8.c 3 (by omega)
            have g4 := hK8.c 4 (by omega)
            refine bodyPost_ret (v := .tuple #[cfgV zeroC, .slice none 0 0, .iface 90 (.agg #[.iface 73 (.pointer (some ⟨q, 0, none⟩))])]) ?_ rfl ?_
            · clear r0 r1 r2 r3 r4
              simp [cfgL, zeroC] at g0 g1 g2 g3 g4
              simp [results, Tryd.f18, go_sem, asAddr, Result.andThen, g0, g1, g2, g3, g4, cfgV, zeroC]
            · rw [hreskk.out]
              refine ⟨zeroC, _, _, rfl, hB8, rfl, .step q k ?_, rfl⟩
              rw [World.cell?_of_block (w := wa) (a := ⟨q, 1, none⟩) (hb8 q (fun e => hRx.out.nr (by rw [← e]; exact hcx.out.2)))]
              exact hcx.out.1
          | ok rest7 =>
            rw [hc7] at hm7 hRC7
            obtain ⟨rfl, vb, va7, rfl, hO1, hO2, hg1, hg2⟩ := hm7
            obtain ⟨b1, b2, b3, rfl⟩ := ownsRow_slice hO1
            obtain ⟨a1, a2, a3, rfl⟩ := ownsRow_slice hO2
            have hc7x := Lib.hid hc7
            have hR1 := (ownsRow_rd (enc := encB) (xs := (rB sj.2).1) hO1)
            have hR2 : Rd encN w7 (fun k => (Value.slice a1 a2 a3).ownBlock = some k) (.slice a1 a2 a3) ((rA sj.2).1.map fun (n : Nat) => (n : Int)) := ownsRow_rd (by rw [← rowW_int]; exact hO2)
            have hx7 := Lib.hid (And.intro hRC7 (And.intro hBu7 (And.intro hn7 (And.intro hO1 (And.intro hO2 (And.intro hg1 (And.intro hg2 (And.intro hR1 (And.intro hR2 hlr)))))))))
            clear hc7 hRC7 hBu7 hn7 hO1 hO2 hg1 hg2 hA7 hS7 hR1 hR2 hlr
            obtain ⟨us, HB⟩ := hx7.out.2.1
            have hsl : sj.1.length = j := hsj.out
            have hHB := Lib.hid HB
            clear HB
            generalize hm1 : takeN sj.2 8 = m1 at *
            generalize hm2 : takeN (takeS sj.2 8) 16 = m2 at *
            have hmx := Lib.hid (And.intro hm1 (And.intro hm2 hsl))
            clear hm1 hm2 hsl
            go_wp2_with (at_builtin; refine wpList_append_own_at _ rfl _ _ 25 rfl w.heap.size 52 i0 _ 4 64 Tryd.underlying25 hi hi0 hi1 hi2 rfl (by decide) (.slice oa ol oc) sj.1.length (cellsF sj.1 us) rfl ((hHB.out.own.alloc _).alloc _) ⟨w7.heap.size + 1, 0, none⟩ 1 1 [.int .i64 (m1 : Int), .int .i64 (m2 : Int), .slice b1 b2 b3, .slice a1 a2 a3] rfl rfl (by have := cells_new (w7.alloc (.cells #[.int .i64 (m1 : Int), .int .i64 (m2 : Int), .slice b1 b2 b3, .slice a1 a2 a3] 52)) [.int .i64 (m1 : Int), .int .i64 (m2 : Int), .slice b1 b2 b3, .slice a1 a2 a3] 52; simpa using this) (by simp [Value.oneCell']) (by have := hmx.out.2.2; unfold maxLen; omega) (by have := hmx.out.2.2; omega) (by have := hx7.out.1.bl.size; simp; omega) ?_; intro v' w8 hown' hgrow hnil hloc; obtain ⟨sa, sl, sc, rfl⟩ := ownsRow_slice hown')
            have hgrow' : ((w7.alloc (.cells #[.int .i64 (m1 : Int), .int .i64 (m2 : Int), .slice b1 b2 b3, .slice a1 a2 a3] 52)).alloc (.cells #[.int .i64 (m1 : Int), .int .i64 (m2 : Int), .slice b1 b2 b3, .slice a1 a2 a3] 52)).grownBy w8 (Value.slice oa ol oc).ownBlock := hgrow
            have hloc' : (Value.slice sa sl sc).ownBlock = (Value.slice oa ol oc).ownBlock ∨ (Value.slice sa sl sc).ownBlock = some (w7.heap.size + 2) := by
              rcases hloc with h | h
              · exact .inl h
              · right; rw [h]; simp
            obtain ⟨hRC7, hBu7, hn7, hO1, hO2, hg1, hg2, hR1, hR2, hlr⟩ := hx7.out
            have hlr7 := hBu7.lt
            have hrl := hAj.out.1.kr.lt
            have hpl := hAj.out.1.kp.lt
            have hold : ∀ k, k < w7.heap.size → (Value.slice oa ol oc).ownBlock ≠ some k → w8.heap[k]? = w7.heap[k]? := fun k h1 h2 => grow_block2 hgrow' h1 h2
            have hz8 : w7.heap.size + 2 ≤ w8.heap.size := by have := hgrow'.size; simp at this; omega
            have hbw : w.heap.size ≤ w7.heap.size := hRC7.bl.size
            have hrz : w.heap.size ≤ wr.heap.size := hAj.out.1.bl.size
            have hB8 : Below w.heap.size w w8 := ((hRC7.bl.alloc hbw _).alloc (by simp; omega) _).grown hgrow' (by simp; omega) (fun k e => (hlr7.2 k e).1)
            have hO1l := hO1.lt
            have hO2l := hO2.lt
            refine ⟨⟨j + 1, S7, fun k => D k ∨ (Value.slice b1 b2 b3).ownBlock = some k ∨ (Value.slice a1 a2 a3).ownBlock = some k, rest7, by omega, by go_num, ?_⟩, by simp [intOf]; omega⟩
            rw [e1x.out, hc7x.out]
            refine ⟨?_, rfl, ?_, ?_⟩
            · refine hRC7.keep (fun k hk => ?_) hB8 (by omega)
              rcases hk with hk | rfl | rfl
              · exact hold k (hRC7.at_.lt k hk) (fun e => hn7 k (.inr e) hk)
              · exact hold _ (by omega) (fun e => (hAj.out.2.2.2 _ (.inr e)).2.1 rfl)
              · exact hold _ (by omega) (fun e => (hAj.out.2.2.2 _ (.inr e)).2.2 rfl)
            · have e4 : cells4 (stepOf sj.2) (.slice b1 b2 b3, .slice a1 a2 a3) = [.int .i64 (m1 : Int), .int .i64 (m2 : Int), .slice b1 b2 b3, .slice a1 a2 a3] := by
                unfold cells4 stepOf; simp only; rw [hmx.out.1, hmx.out.2.1]
              refine Build.snoc (x := stepOf sj.2) (u := (.slice b1 b2 b3, .slice a1 a2 a3)) hHB.out (by rw [e4]; exact hown') (fun k hk => hold k (hlr7.1 k hk).2.1 (hlr7.1 k hk).2.2) (by omega) ?_ ?_ (fun k hk => .inl hk) ?_
              · refine (hR1.keep (fun k hk hl => hold k hl (fun e => ?_)) (by omega)).mono (fun k hk _ => .inr (.inl hk))
                have h1 := (hO1l k hk).1
                have h2 := (hlr.2 k e).2
                omega
              · refine (hR2.keep (fun k hk hl => hold k hl (fun e => ?_)) (by omega)).mono (fun k hk _ => .inr (.inr hk))
                have h1 := (hO2l k hk).1
                have h2 := (hlr.2 k e).2
                omega
              · intro k hk
                have hkb : w.heap.size ≤ k ∧ k < w7.heap.size ∧ (Value.slice oa ol oc).ownBlock ≠ some k := by
                  rcases hk with hk | hk | hk
                  · exact hlr7.1 k hk
                  · have h1 := hO1l k hk
                    exact ⟨by omega, h1.2, fun e => by have := (hlr.2 k e).2; omega⟩
                  · have h1 := hO2l k hk
                    exact ⟨by omega, h1.2, fun e => by have := (hlr.2 k e).2; omega⟩
                refine ⟨hkb.1, by omega, fun e => ?_⟩
                rcases hloc' with h | h
                · exact hkb.2.2 (by rw [← h]; exact e)
                · rw [h] at e; injection e with e; omega
            · intro k hk
              rcases hk with (hk | hk | hk) | hk
              · exact ⟨hn7 k (.inl hk), (hAj.out.2.2.2 k (.inl hk)).2⟩
              · have h1 := hO1l k hk
                exact ⟨hg1 k hk, by omega, by omega⟩
              · have h1 := hO2l k hk
                exact ⟨hg2 k hk, by omega, by omega⟩
              · rcases hloc' with h | h
                · rw [h] at hk
                  exact ⟨hn7 k (.inr hk), (hAj.out.2.2.2 k (.inr hk)).2⟩
                · rw [h] at hk
                  injection hk with hk
                  exact ⟨fun hs => by have := hRC7.at_.lt k hs; omega, by omega, by omega⟩
        · obtain rfl : j = n := by omega
          obtain ⟨hRC, hrj, hBu, hdis⟩ := hAj.out
          have hbl := Lib.hid hRC.bl
          have hhr := Lib.hid hRC.hr
          have hat := hRC.at_
          rw [hrj] at hat
          obtain ⟨Rp, rbp, c0, c1p, fzp, hRp, hRpS, hsSp, _⟩ := hat
          have hrbS : Sj rbp := by obtain ⟨_, _, H⟩ := hRp; exact (hRpS rbp H.sb).1
          have hpad := pad_c wr Rp rbp rj hRp
          have hresk : readR bits = if padN rj = 0 then .ok c (stepsR (.ok rest) j).1 else .bad (padN rj) := by rw [hreskx.out, hrj]
          have hreskk := Lib.hid hresk
          clear hresk hRp hRpS c1p fzp
          obtain ⟨oa, ol, oc, rfl⟩ := hBu.slice
          have hx := Lib.hid (And.intro hRC (And.intro hBu (And.intro hdis (And.intro hrbS hsSp))))
          clear hRC hBu hdis hrbS hsSp hrj hlt hj
          go_wp2_with fail
          refine hpad.mono ?_
          rintro e w7 ⟨rfl, hF7⟩
          obtain ⟨hRC, hBu, hdis, hrbS, _⟩ := hx.out
          have hkr : KC w7 r (cfgL zeroC) := hRC.kr.block (hF7.block r hRC.kr.lt (fun e => hRC.nr (by rw [e]; exact hrbS)))
          have hkp : KC w7 p (cfgL c) := hRC.kp.block (hF7.block p hRC.kp.lt (fun e => hRC.np (by rw [e]; exact hrbS)))
          have hB7 : Below w.heap.size w w7 := hRC.bl.trans (hF7.below (fun k hk => by subst hk; exact hRC.ge _ hrbS) hRC.bl.size)
          have hBu7 := hBu.keep (fun k hk => hF7.block k (hBu.lt.1 k hk).2.1 (fun e => (hdis k (.inl hk)).1 (by rw [e]; exact hrbS))) (fun g hg => hF7.block g (hBu.lt.2 g hg).2 (fun e => (hdis g (.inr hg)).1 (by rw [e]; exact hrbS))) hF7.size
          have hrpne := hRC.rp
          have hndr : ∀ k, (D k ∨ (Value.slice oa ol oc).ownBlock = some k) → k ≠ r := fun k hk => (hdis k hk).2.1
          clear hRC hBu hdis hrbS hF7 hpad c0
          have r0 := hkr.c 0 (by omega)
          have r1 := hkr.c 1 (by omega)
          have r2 := hkr.c 2 (by omega)
          have r3 := hkr.c 3 (by omega)
          have r4 := hkr.c 4 (by omega)
          have f0 := hkr.fr 0
          have f1 := hkr.fr 1
          have f2 := hkr.fr 2
          have f3 := hkr.fr 3
          have f4 := hkr.fr 4
          simp only [cfgL, zeroC] at r0 r1 r2 r3 r4
          have hrl := hkr.lt
          have hy := Lib.hid (And.intro hkr (And.intro hkp (And.intro hB7 (And.intro hBu7 hndr))))
          clear hkr hB7 hBu7 hndr
          by_cases hp0 : padN rj = 0
          · have p0 := hkp.c 0 (by omega)
            have p1 := hkp.c 1 (by omega)
            have p2 := hkp.c 2 (by omega)
            have p3 := hkp.c 3 (by omega)
            have p4 := hkp.c 4 (by omega)
            simp only [cfgL] at p0 p1 p2 p3 p4
            simp at p0 p1 p2 p3 p4
            have hpl := hkp.lt
            have hp0x := Lib.hid hp0
            rw [hp0]
            clear hkp hp0
            go_wp2
            obtain ⟨w8, hw8⟩ : ∃ w8, w8 = ((((w7.setCell ⟨r, 0, none⟩ (.int .i64 c.size)).setCell ⟨r, 1, none⟩ (.int .i64 c.queue)).setCell ⟨r, 2, none⟩ (.int .i64 c.pool)).setCell ⟨r, 3, none⟩ (.int .u16 c.first)).setCell ⟨r, 4, none⟩ (.int .i64 c.age) := ⟨_, rfl⟩
            have hK8 : KC w8 r (cfgL c) := by
              have := ((((hy.out.1.set (i := 0) (by omega) (.int .i64 c.size)).set (i := 1) (by omega) (.int .i64 c.queue)).set (i := 2) (by omega) (.int .i64 c.pool)).set (i := 3) (by omega) (.int .u16 c.first)).set (i := 4) (by omega) (.int .i64 c.age)
              rw [← hw8] at this
              exact this
            have hb8 : ∀ k, k ≠ r → w8.heap[k]? = w7.heap[k]? := fun k hk => by
              rw [hw8, Below.heap_setCell _ _ _ _ hk, Below.heap_setCell _ _ _ _ hk, Below.heap_setCell _ _ _ _ hk, Below.heap_setCell _ _ _ _ hk, Below.heap_setCell _ _ _ _ hk]
            have hB8 : Below w.heap.size w w8 := by
              have hge := hhr.out
              rw [hw8]
              exact (((((hy.out.2.2.1.setCell (p := ⟨r, 0, none⟩) hge _).setCell (p := ⟨r, 1, none⟩) hge _).setCell (p := ⟨r, 2, none⟩) hge _).setCell (p := ⟨r, 3, none⟩) hge _).setCell (p := ⟨r, 4, none⟩) hge _)
            have hz8 : w7.heap.size ≤ w8.heap.size := by rw [hw8]; simp
            rw [← hw8]
            clear hw8
            have g0 := hK8.c 0 (by omega)
            have g1 := hK8.c 1 (by omega)
            have g2 := hK8.c 2 (by omega)
            have g3 := hK8.c 3 (by omega)
            have g4 := hK8.c 4 (by omega)
            refine bodyPost_ret (v := .tuple #[cfgV c, .slice oa ol oc, .nilIface]) ?_ rfl ?_
            · clear r0 r1 r2 r3 r4 p0 p1 p2 p3 p4
              simp [cfgL] at g0 g1 g2 g3 g4
              simp [results, Tryd.f18, go_sem, asAddr, Result.andThen, g0, g1, g2, g3, g4, cfgV]
            · rw [hreskk.out, if_pos hp0x.out]
              refine ⟨c, _, _, rfl, hB8, rfl, rfl, ?_⟩
              exact (hy.out.2.2.2.1.keep (fun k hk => hb8 k (hy.out.2.2.2.2 k (.inl hk))) (fun g hg => hb8 g (hy.out.2.2.2.2 g (.inr hg))) hz8).steps
          · have hpb : (padN rj != 0) = true := by simp [hp0]
            have hp0x := Lib.hid hp0
            clear hp0 hkp
            go_wp2
            obtain ⟨w8, hw8⟩ : ∃ w8, w8 = ((((w7.setCell ⟨r, 0, none⟩ (.int .i64 0)).setCell ⟨r, 1, none⟩ (.int .i64 0)).setCell ⟨r, 2, none⟩ (.int .i64 0)).setCell ⟨r, 3, none⟩ (.int .u16 0)).setCell ⟨r, 4, none⟩ (.int .i64 0) := ⟨_, rfl⟩
            have hK8 : KC w8 r (cfgL zeroC) := by
              have := ((((hy.out.1.set (i := 0) (by omega) (.int .i64 0)).set (i := 1) (by omega) (.int .i64 0)).set (i := 2) (by omega) (.int .i64 0)).set (i := 3) (by omega) (.int .u16 0)).set (i := 4) (by omega) (.int .i64 0)
              rw [← hw8] at this
              exact this
            have hB8 : Below w.heap.size w w8 := by
              have hge := hhr.out
              rw [hw8]
              exact (((((hy.out.2.2.1.setCell (p := ⟨r, 0, none⟩) hge _).setCell (p := ⟨r, 1, none⟩) hge _).setCell (p := ⟨r, 2, none⟩) hge _).setCell (p := ⟨r, 3, none⟩) hge _).setCell (p := ⟨r, 4, none⟩) hge _)
            have hz8 : w7.heap.size = w8.heap.size := by rw [hw8]; simp
            rw [← hw8, hz8]
            clear hw8
            have hK9 : KC (w8.alloc (.cells #[.string ⟨#[101, 110, 100]⟩, .int .i64 (padN rj)] 77)) r (cfgL zeroC) := hK8.block (Below.heap_alloc _ _ _ hK8.lt)
            have g0 := hK9.c 0 (by omega)
            have g1 := hK9.c 1 (by omega)
            have g2 := hK9.c 2 (by omega)
            have g3 := hK9.c 3 (by omega)
            have g4 := hK9.c 4 (by omega)
            refine bodyPost_ret (v := .tuple #[cfgV zeroC, .slice none 0 0, .iface 73 (.pointer (some ⟨w8.heap.size, 0, none⟩))]) ?_ rfl ?_
            · clear r0 r1 r2 r3 r4
              simp [cfgL, zeroC] at g0 g1 g2 g3 g4
              simp [results, Tryd.f18, go_sem, asAddr, Result.andThen, g0, g1, g2, g3, g4, cfgV, zeroC]
            · rw [hreskk.out, if_neg hp0x.out]
              refine ⟨zeroC, _, _, rfl, hB8.alloc hB8.size _, rfl, .hit w8.heap.size (padN rj) ?_, rfl⟩
              rw [World.cell?_alloc_new]; rfl
#print axioms read_c
end Go.Proofs.YtkmknpobinpegaaDoor
