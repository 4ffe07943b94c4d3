/- Layer 29's reader: from bytes; a config. -/
import Derived.Test.YtkmknpobinpegaaDoorScrRStepW
import Derived.Test.YtkmknpobinpegaaDoorScrWrite2
namespace Go.Proofs.YtkmknpobinpegaaDoor
open Go Go.RowKit Go.Maps Go.Sort Go.Lib
set_option linter.unusedSimpArgs false
set_option linter.unusedVariables false

theorem bitioOf_c (w : World) (T : Nat → Prop) (v : Value) (xs : List Nat) (h : Rd encB w T v xs) (hb : ∀ y ∈ xs, y < 256) (hl : xs.length ≤ 100000) :
    Calls Tryd.prog 24 #[v] w fun e w' => ∃ rb R, e = .returned (.pointer (some ⟨rb, 0, none⟩)) ∧ Below w.heap.size w w' ∧ RrAt w' R rb (unbits xs) ∧ ∀ k, R k → w.heap.size ≤ k := by
  have hc := of_c w (fun k => k < w.heap.size) v xs h.below (fun k hk => hk) hb hl
  clear h
  go_enter Tryd.func24, Tryd.ntmps24
  go_wp2_with fail
  refine hc.mono ?_
  rintro e w1 ⟨v', rfl, hB, hO⟩
  obtain ⟨sa, sl, sc, rfl⟩ := ownsRow_slice hO
  have hOx := Lib.hid hO
  clear hO
  go_wp2
  go_ret
  obtain ⟨hlen, a, c, hv, hlc, hcm, hpos⟩ := ownsRow_open (zs := unbits xs) (enc := encB) hOx.out
  injection hv with e1 e2 e3
  subst e1; subst e2; subst e3
  have hz := hB.size
  refine ⟨w1.heap.size, fun k => w.heap.size ≤ k ∧ k < w1.heap.size + 1, rfl, hB.trans (((Below.refl _ w1).alloc (Nat.le_refl _) _).mono hz), ⟨sa, sc, ?_⟩, fun k hk => hk.1⟩
  refine { c0 := by rw [World.cell?_alloc_new]; rfl, fr := by simp, le := hlc, cm := hcm, row := fun h0 => ?_, sb := ⟨hz, by omega⟩, lt := fun k hk => by simp; omega, bit := ?_ }
  · obtain ⟨g, rfl, hg, hgz, _, hH⟩ := hpos h0
    refine ⟨g, 0, rfl, ⟨hg, by omega⟩, by omega, fun j hj => ?_⟩
    have := (hH j (by simpa using hj)).1
    rw [Nat.zero_add, World.cell?_alloc_lt _ _ ⟨g, j, none⟩ (by exact hgz)]
    rw [Nat.zero_add] at this
    simpa using this
  · intro y hy
    unfold unbits at hy
    obtain ⟨z, _, hz⟩ := List.mem_flatMap.1 hy
    exact bitsOf_bit z 8 y hz
#print axioms bitioOf_c

def kS1 (st : RSt) : RSt := takeS st 8
def kS2 (st : RSt) : RSt := takeS (kS1 st) 8
def kS3 (st : RSt) : RSt := takeS (kS2 st) 8
def kS4 (st : RSt) : RSt := takeS (kS3 st) 16
def kS5 (st : RSt) : RSt := takeS (kS4 st) 16
def cfgR (st : RSt) : Cfg := ⟨takeN st 8, takeN (kS1 st) 8, takeN (kS2 st) 8, takeN (kS3 st) 16, takeN (kS4 st) 16⟩
def CfgPost (w : World) (S : Nat → Prop) (sb : Nat) (st : RSt) (e : Ending) (w' : World) : Prop :=
  e = .returned (cfgV (cfgR st)) ∧ ∃ S', SrAt w' S' sb (kS5 st) ∧ Fr S w w' ∧ ∀ k, S' k → S k ∨ w.heap.size ≤ k
/-- The config that is being read: its block p. -/
structure KC (w : World) (p : Nat) (l : List Value) : Prop where
  len : l.length = 5
  c : ∀ j, j < 5 → w.cell? ⟨p, j, none⟩ = some l[j]!
  fr : ∀ k, w.frozen? ⟨p, k, none⟩ = false
theorem KC.lt {w : World} {p : Nat} {l : List Value} (h : KC w p l) : p < w.heap.size := World.block_lt_of_cell? w _ (h.c 0 (by omega))
theorem KC.block {w w' : World} {p : Nat} {l : List Value} (h : KC w p l) (hb : w'.heap[p]? = w.heap[p]?) : KC w' p l where
  len := h.len
  c := fun j hj => by rw [World.cell?_of_block (w := w) (a := ⟨p, j, none⟩) hb]; exact h.c j hj
  fr := fun k => by rw [World.frozen?_of_block (w := w) (a := ⟨p, k, none⟩) hb]; exact h.fr k
theorem KC.set {w : World} {p : Nat} {l : List Value} (h : KC w p l) {i : Nat} (hi : i < 5) (v : Value) : KC (w.setCell ⟨p, i, none⟩ v) p (l.set i v) where
  len := by rw [List.length_set]; exact h.len
  c := fun j hj => by
    have hl := h.len
    by_cases hij : j = i
    · subst hij
      rw [World.cell?_setCell_same _ _ _ (h.c j hj), getElem!_pos (l.set j v) j (by rw [List.length_set]; omega)]
      simp
    · rw [World.cell?_setCell_other _ _ _ _ (fun e => by injection e with _ e _; exact hij e.symm), h.c j hj, getElem!_pos l j (by omega), getElem!_pos (l.set i v) j (by rw [List.length_set]; omega), List.getElem_set]
      rw [if_neg (fun e => hij e.symm)]
  fr := fun k => by rw [World.frozen?_setCell]; exact h.fr k

def kSt (st : RSt) : Nat → RSt
  | 0 => st
  | j + 1 => takeS (kSt st j) 8
def kL (st : RSt) (j : Nat) : List Value := [.int .i64 (if 0 < j then (takeN (kSt st 0) 8 : Int) else 0), .int .i64 (if 1 < j then (takeN (kSt st 1) 8 : Int) else 0), .int .i64 (if 2 < j then (takeN (kSt st 2) 8 : Int) else 0), .int .u16 0, .int .i64 0]
theorem kL_set (st : RSt) (j : Nat) (h : j < 3) : (kL st j).set j (.int .i64 (takeN (kSt st j) 8 : Int)) = kL st (j + 1) := by
  have : j = 0 ∨ j = 1 ∨ j = 2 := by omega
  rcases this with rfl | rfl | rfl <;> rfl
set_option maxRecDepth 8000 in
set_option maxHeartbeats 4000000 in
theorem config_c (w : World) (S : Nat → Prop) (sb : Nat) (st : RSt) (h : SrAt w S sb st) :
    Calls Tryd.prog 25 #[.pointer (some ⟨sb, 0, none⟩)] w (CfgPost w S sb st) := by
  obtain ⟨r, hr⟩ : ∃ r, r = w.heap.size := ⟨_, rfl⟩
  obtain ⟨p, hp⟩ : ∃ p, p = w.heap.size + 1 := ⟨_, rfl⟩
  obtain ⟨q, hq⟩ : ∃ q, q = w.heap.size + 1 + 1 := ⟨_, rfl⟩
  obtain ⟨w1, hw1⟩ : ∃ w1, w1 = w.alloc (.cells #[.int .i64 0, .int .i64 0, .int .i64 0, .int .u16 0, .int .i64 0] 36) := ⟨_, rfl⟩
  obtain ⟨w2, hw2⟩ : ∃ w2, w2 = w1.alloc (.cells #[.int .i64 0, .int .i64 0, .int .i64 0, .int .u16 0, .int .i64 0] 36) := ⟨_, rfl⟩
  obtain ⟨wp, hwp⟩ : ∃ wp, wp = w2.alloc (.cells #[.pointer (some ⟨p, 0, none⟩), .pointer (some ⟨p, 1, none⟩), .pointer (some ⟨p, 2, none⟩)] 106) := ⟨_, rfl⟩
  have z1 : w1.heap.size = w.heap.size + 1 := by rw [hw1]; simp
  have z2 : w2.heap.size = w.heap.size + 2 := by rw [hw2]; simp; omega
  have zp : wp.heap.size = w.heap.size + 3 := by rw [hwp]; simp; omega
  have hKz : ∀ (u : World), KC (u.alloc (.cells #[.int .i64 0, .int .i64 0, .int .i64 0, .int .u16 0, .int .i64 0] 36)) u.heap.size [.int .i64 0, .int .i64 0, .int .i64 0, .int .u16 0, .int .i64 0] := fun u => ⟨rfl, fun j hj => by
    rw [World.cell?_alloc_new]
    have : j = 0 ∨ j = 1 ∨ j = 2 ∨ j = 3 ∨ j = 4 := by omega
    rcases this with rfl | rfl | rfl | rfl | rfl <;> rfl, fun k => by simp⟩
  have hB2 : Below w1.heap.size w1 w2 := by rw [hw2]; exact (Below.refl _ _).alloc (Nat.le_refl _) _
  have hBp : Below w2.heap.size w2 wp := by rw [hwp]; exact (Below.refl _ _).alloc (Nat.le_refl _) _
  have hBall : Below w.heap.size w wp := by
    have h1 : Below w.heap.size w w1 := by rw [hw1]; exact (Below.refl _ _).alloc (Nat.le_refl _) _
    exact (h1.trans (hB2.mono (by omega))).trans (hBp.mono (by omega))
  have hKr : KC wp r [.int .i64 0, .int .i64 0, .int .i64 0, .int .u16 0, .int .i64 0] := by
    have := hKz w
    rw [← hw1, ← hr] at this
    exact (this.block (hB2.block r (by omega))).block (hBp.block r (by omega))
  have hKp : KC wp p (kL st 0) := by
    have := hKz w1
    rw [← hw2, z1, ← hp] at this
    exact this.block (hBp.block p (by omega))
  have hQ : ∀ j, j < 3 → wp.cell? ⟨q, j, none⟩ = some (.pointer (some ⟨p, j, none⟩)) := fun j hj => by
    have e : q = w2.heap.size := by omega
    rw [hwp, e, World.cell?_alloc_new]
    have : j = 0 ∨ j = 1 ∨ j = 2 := by omega
    rcases this with rfl | rfl | rfl <;> rfl
  have hRW : RWay wp S p sb wp S st := ⟨h.keep (fun k hk => hBall.block k (h.lt k hk)) hBall.size, Fr.refl _ _, fun k hk => .inl hk⟩
  have hSn : ∀ k, S k → k < w.heap.size := h.lt
  have hws : wp = ((w.alloc (.cells #[.int .i64 0, .int .i64 0, .int .i64 0, .int .u16 0, .int .i64 0] 36)).alloc (.cells #[.int .i64 0, .int .i64 0, .int .i64 0, .int .u16 0, .int .i64 0] 36)).alloc (.cells #[.pointer (some ⟨w.heap.size + 1, 0, none⟩), .pointer (some ⟨w.heap.size + 1, 1, none⟩), .pointer (some ⟨w.heap.size + 1, 2, none⟩)] 106) := by rw [hwp, hw2, hw1, hp]
  have hbs := kSt st
  have hx1 := Lib.hid (And.intro hBall (And.intro hSn (And.intro hKr (And.intro hQ (And.intro hr (And.intro hp (And.intro hq zp)))))))
  have hx2 := Lib.hid (And.intro hRW hKp)
  clear hBall hSn hKr hQ zp hRW hKp hB2 hBp hKz hwp hw2 hw1 z1 z2 hbs
  go_enter Tryd.func25, Tryd.ntmps25
  go_wp2_with fail
  rw [← hws, ← hq, ← hp, ← hr]
  clear hws hr hp hq
  go_loopw [14] (fun s14 wr => ∃ (j : Nat) (Sj : Nat → Prop), j ≤ 3 ∧ s14 = .int .i64 (j : Int) ∧ Aside (RWay wp S p sb wr Sj (kSt st j) ∧ KC wr p (kL st j)))
    (fun s14 _ => 3 - (intOf s14).toNat)
  case atStart => exact ⟨0, S, by omega, rfl, hx2.out.1, hx2.out.2⟩
  case round =>
    obtain ⟨j, Sj, hj, rfl, hA⟩ := hrel
    have hAj := Lib.hid hA
    clear hA hx2
    have hnr : ∀ k, (k = r ∨ k = q) → wr.heap[k]? = wp.heap[k]? := fun k hk => hAj.out.1.fr.block k (by obtain ⟨_, _, _, _, h1, h2, h3, h4⟩ := hx1.out; omega) (fun h => by
      obtain ⟨_, hSn, _, _, h1, h2, h3, h4⟩ := hx1.out
      rcases h with h | h
      · have := hSn k h; omega
      · omega)
    have hpn : ¬ Sj p := fun h => by
      obtain ⟨_, hSn, _, _, h1, h2, h3, h4⟩ := hx1.out
      rcases hAj.out.1.gr p h with h | h
      · have := hSn p h; omega
      · omega
    by_cases hlt : j < 3
    · have hqj := (World.cell?_of_block (w := wp) (a := ⟨q, j, none⟩) (hnr q (.inr rfl))).trans (hx1.out.2.2.2.1 j hlt)
      have ht := rtake_c wr Sj sb (kSt st j) ⟨#[119, 105, 110, 100, 111, 119]⟩ 8 hAj.out.1.at_ (by omega) (by omega)
      have hkl := kL_set st j hlt
      have hks : kSt st (j + 1) = takeS (kSt st j) 8 := rfl
      rw [← hks] at ht
      have hx3 := Lib.hid (And.intro hnr (And.intro hpn (And.intro hkl hks)))
      clear hnr hpn hkl hks
      generalize hne : takeN (kSt st j) 8 = n at *
      have hnx := Lib.hid hne
      clear hne
      go_wp2_with fail
      refine ht.mono ?_
      rintro e w3 hT
      obtain ⟨rfl, S3, hB3, hF3, hS3⟩ := hAj.out.1.next hT
      have hK3 := hAj.out.2.block (hF3.block p hAj.out.2.lt hx3.out.2.1)
      have q1 := hK3.c j (by omega)
      have q2 := hK3.fr j
      have hpn3 : ¬ S3 p := fun hs => by
        rcases hS3 p hs with h' | h'
        · exact hx3.out.2.1 h'
        · have := hAj.out.2.lt; omega
      have hy := Lib.hid (And.intro hB3 (And.intro hK3 hpn3))
      clear ht hT hB3 hF3 hS3 hK3 hpn3
      go_wp2
      refine ⟨⟨j + 1, S3, by omega, by go_num, ?_, ?_⟩, by simp [intOf]; omega⟩
      · refine hy.out.1.keep (fun k hk => Below.heap_setCell _ _ _ _ (fun e => by subst e; exact hy.out.2.2 hk)) (hy.out.1.fr.setCell (p := ⟨p, j, none⟩) (.inl (.inr rfl)) _) (by simp)
      · rw [← hx3.out.2.2.1]
        exact hy.out.2.1.set (i := j) (by omega) _
    · obtain rfl : j = 3 := by omega
      have hKr := (hx1.out.2.2.1).block (hnr r (.inl rfl))
      have hB3 : RWay wp S p sb wr Sj (kS3 st) := hAj.out.1
      have hK3 := hAj.out.2
      clear hAj hnr
      have b3 := takeN_lt hB3.at_.bits 16
      have ht := rtake_c wr Sj sb (kS3 st) ⟨#[102, 105, 114, 115, 116]⟩ 16 hB3.at_ (by omega) (by omega)
      have hks : kS4 st = takeS (kS3 st) 16 := rfl
      rw [← hks] at ht
      generalize hn3 : takeN (kS3 st) 16 = n3 at *
      have hn3' := Lib.hid hn3
      clear hn3 hks
      have hn3b : n3 < 65536 := b3
      clear b3
      have hx3 := Lib.hid (And.intro hKr (And.intro hB3 (And.intro hK3 hpn)))
      clear hKr hB3 hK3 hpn hlt hj
      go_wp2_with fail
      refine ht.mono ?_
      rintro e w4 hT
      obtain ⟨rfl, S4, hB4, hF4, hS4⟩ := hx3.out.2.1.next hT
      have hK4 := hx3.out.2.2.1.block (hF4.block p hx3.out.2.2.1.lt hx3.out.2.2.2)
      have hrl : ¬ Sj r := fun hs => by
        obtain ⟨_, hSn, _, _, h1, h2, h3, h4⟩ := hx1.out
        rcases hx3.out.2.1.gr r hs with h | h
        · have := hSn r h; omega
        · omega
      have hR4 := hx3.out.1.block (hF4.block r hx3.out.1.lt hrl)
      have q1 := hK4.c 3 (by omega)
      have q2 := hK4.fr 3
      have hpn4 : ¬ S4 p := fun hs => by
        rcases hS4 p hs with h' | h'
        · exact hx3.out.2.2.2 h'
        · have := hx3.out.2.2.1.lt; omega
      have hrn4 : ¬ S4 r := fun hs => by
        rcases hS4 r hs with h' | h'
        · exact hrl h'
        · have := hx3.out.1.lt; omega
      have hrp : r ≠ p := by obtain ⟨_, _, _, _, h1, h2, h3, h4⟩ := hx1.out; omega
      obtain ⟨w5, hw5⟩ : ∃ w5, w5 = w4.setCell ⟨p, 3, none⟩ (.int .u16 (n3 : Int)) := ⟨_, rfl⟩
      have hB5 : RWay wp S p sb w5 S4 (kS4 st) := hB4.keep (fun k hk => by rw [hw5]; exact Below.heap_setCell _ _ _ _ (fun e => by subst e; exact hpn4 hk)) (by rw [hw5]; exact hB4.fr.setCell (p := ⟨p, 3, none⟩) (.inl (.inr rfl)) _) (by rw [hw5]; simp)
      have hK5 : KC w5 p ((kL st 3).set 3 (.int .u16 (n3 : Int))) := by rw [hw5]; exact hK4.set (i := 3) (by omega) _
      have hR5 := hR4.block (w' := w5) (by rw [hw5]; exact Below.heap_setCell _ _ _ _ hrp)
      have hx5 := Lib.hid (And.intro hB5 (And.intro hK5 (And.intro hR5 (And.intro hpn4 (And.intro hrn4 hrp)))))
      clear ht hT hB4 hF4 hS4 hK4 hR4 hB5 hK5 hR5 hpn4 hrn4 hrl hrp
      have b5 := takeN_lt hx5.out.1.at_.bits 16
      have ht := rtake_c w5 S4 sb (kS4 st) ⟨#[97, 103, 101]⟩ 16 hx5.out.1.at_ (by omega) (by omega)
      have hks : kS5 st = takeS (kS4 st) 16 := rfl
      rw [← hks] at ht
      generalize hn4 : takeN (kS4 st) 16 = n4 at *
      have hn4' := Lib.hid hn4
      clear hn4 hks b5
      go_wp2_with fail
      rw [← hw5]
      clear hw5 q1 q2
      refine ht.mono ?_
      rintro e w6 hT
      obtain ⟨rfl, S6, hB6, hF6, hS6⟩ := hx5.out.1.next hT
      have hK6 := hx5.out.2.1.block (hF6.block p hx5.out.2.1.lt hx5.out.2.2.2.1)
      have hR6 := hx5.out.2.2.1.block (hF6.block r hx5.out.2.2.1.lt hx5.out.2.2.2.2.1)
      have hpn6 : ¬ S6 p := fun hs => by
        rcases hS6 p hs with h' | h'
        · exact hx5.out.2.2.2.1 h'
        · have := hx5.out.2.1.lt; omega
      have hrn6 : ¬ S6 r := fun hs => by
        rcases hS6 r hs with h' | h'
        · exact hx5.out.2.2.2.2.1 h'
        · have := hx5.out.2.2.1.lt; omega
      have hrp := hx5.out.2.2.2.2.2
      have q40 := hK6.c 4 (by omega)
      have q41 := hK6.fr 4
      obtain ⟨w7, hw7⟩ : ∃ w7, w7 = w6.setCell ⟨p, 4, none⟩ (.int .i64 (n4 : Int)) := ⟨_, rfl⟩
      have hB7 : RWay wp S p sb w7 S6 (kS5 st) := hB6.keep (fun k hk => by rw [hw7]; exact Below.heap_setCell _ _ _ _ (fun e => by subst e; exact hpn6 hk)) (by rw [hw7]; exact hB6.fr.setCell (p := ⟨p, 4, none⟩) (.inl (.inr rfl)) _) (by rw [hw7]; simp)
      have hK7 : KC w7 p (((kL st 3).set 3 (.int .u16 (n3 : Int))).set 4 (.int .i64 (n4 : Int))) := by rw [hw7]; exact hK6.set (i := 4) (by omega) _
      have hR7 := hR6.block (w' := w7) (by rw [hw7]; exact Below.heap_setCell _ _ _ _ hrp)
      have k0 : w6.cell? ⟨p, 0, none⟩ = some (.int .i64 (takeN st 8 : Int)) := hK6.c 0 (by omega)
      have k1 : w6.cell? ⟨p, 1, none⟩ = some (.int .i64 (takeN (kS1 st) 8 : Int)) := hK6.c 1 (by omega)
      have k2 : w6.cell? ⟨p, 2, none⟩ = some (.int .i64 (takeN (kS2 st) 8 : Int)) := hK6.c 2 (by omega)
      have k3 : w6.cell? ⟨p, 3, none⟩ = some (.int .u16 (n3 : Int)) := hK6.c 3 (by omega)
      have r0 : w6.cell? ⟨r, 0, none⟩ = some (.int .i64 0) := hR6.c 0 (by omega)
      have r1 : w6.cell? ⟨r, 1, none⟩ = some (.int .i64 0) := hR6.c 1 (by omega)
      have r2 : w6.cell? ⟨r, 2, none⟩ = some (.int .i64 0) := hR6.c 2 (by omega)
      have r3 : w6.cell? ⟨r, 3, none⟩ = some (.int .u16 0) := hR6.c 3 (by omega)
      have r4 : w6.cell? ⟨r, 4, none⟩ = some (.int .i64 0) := hR6.c 4 (by omega)
      have f0 := hR6.fr 0
      have f1 := hR6.fr 1
      have f2 := hR6.fr 2
      have f3 := hR6.fr 3
      have f4 := hR6.fr 4
      have hrl : r < w6.heap.size := hR6.lt
      have hx7 := Lib.hid (And.intro hw7 (And.intro hB7 (And.intro hK7 (And.intro hR7 (And.intro hpn6 hrn6)))))
      have hm0 := Lib.hid (rfl : takeN st 8 = takeN st 8)
      clear hw7 hB7 hK7 hR7 hpn6 hrn6 ht hT hB6 hF6 hS6 hK6 hR6
      generalize hm : takeN st 8 = m0 at *
      generalize hm1 : takeN (kS1 st) 8 = m1 at *
      generalize hm2 : takeN (kS2 st) 8 = m2 at *
      have hmx := Lib.hid (And.intro hm (And.intro hm1 hm2))
      clear hm hm1 hm2
      go_wp2
      have hrp' : r ≠ p := hrp
      have hSr : S6 r → False := hx7.out.2.2.2.2.2
      have hBz := hx1.out.1
      have hrz : w.heap.size ≤ r := by have := hx1.out.2.2.2.2.1; omega
      have hB7 := hx7.out.2.1
      have hw7 := hx7.out.1
      rw [← hw7]
      have hcfg : cfgV (cfgR st) = .agg #[.int .i64 (m0 : Int), .int .i64 (m1 : Int), .int .i64 (m2 : Int), .int .u16 (n3 : Int), .int .i64 (n4 : Int)] := by
        unfold cfgV cfgR
        rw [hmx.out.1, hmx.out.2.1, hmx.out.2.2, hn3'.out, hn4'.out]
      obtain ⟨w8, hw8⟩ : ∃ w8, w8 = ((((w7.setCell ⟨r, 0, none⟩ (.int .i64 (m0 : Int))).setCell ⟨r, 1, none⟩ (.int .i64 (m1 : Int))).setCell ⟨r, 2, none⟩ (.int .i64 (m2 : Int))).setCell ⟨r, 3, none⟩ (.int .u16 (n3 : Int))).setCell ⟨r, 4, none⟩ (.int .i64 (n4 : Int)) := ⟨_, rfl⟩
      have hK8 : KC w8 r [.int .i64 (m0 : Int), .int .i64 (m1 : Int), .int .i64 (m2 : Int), .int .u16 (n3 : Int), .int .i64 (n4 : Int)] := by
        have := ((((hx7.out.2.2.2.1.set (i := 0) (by omega) (.int .i64 (m0 : Int))).set (i := 1) (by omega) (.int .i64 (m1 : Int))).set (i := 2) (by omega) (.int .i64 (m2 : Int))).set (i := 3) (by omega) (.int .u16 (n3 : Int))).set (i := 4) (by omega) (.int .i64 (n4 : Int))
        rw [← hw8] at this
        exact this
      have hb8 : ∀ k, k ≠ r → w8.heap[k]? = w7.heap[k]? := fun k hk => by
        rw [hw8, Below.heap_setCell _ _ _ _ hk, Below.heap_setCell _ _ _ _ hk, Below.heap_setCell _ _ _ _ hk, Below.heap_setCell _ _ _ _ hk, Below.heap_setCell _ _ _ _ hk]
      have hf8 : Fr (fun k => S k ∨ k = p ∨ k = r) wp w8 := by
        have h7 : Fr (fun k => S k ∨ k = p ∨ k = r) wp w7 := hB7.fr.mono (fun k _ hk => by rcases hk with hk | hk; exact .inl hk; exact .inr (.inl hk))
        rw [hw8]
        exact ((((h7.setCell (p := ⟨r, 0, none⟩) (.inl (.inr (.inr rfl))) _).setCell (p := ⟨r, 1, none⟩) (.inl (.inr (.inr rfl))) _).setCell (p := ⟨r, 2, none⟩) (.inl (.inr (.inr rfl))) _).setCell (p := ⟨r, 3, none⟩) (.inl (.inr (.inr rfl))) _).setCell (p := ⟨r, 4, none⟩) (.inl (.inr (.inr rfl))) _
      rw [← hw8]
      have g0 := hK8.c 0 (by omega)
      have g1 := hK8.c 1 (by omega)
      have g2 := hK8.c 2 (by omega)
      have g3 := hK8.c 3 (by omega)
      have g4 := hK8.c 4 (by omega)
      refine bodyPost_ret (v := cfgV (cfgR st)) ?_ rfl ?_
      · rw [hcfg]
        clear hw7 hw8 hcfg
        simp at g0 g1 g2 g3 g4
        simp [results, Tryd.f25, go_sem, asAddr, Result.andThen, g0, g1, g2, g3, g4]
      · refine ⟨rfl, S6, hB7.at_.keep (fun k hk => hb8 k (fun e => by subst e; exact hSr hk)) (by have := hf8.size; rw [hw8]; simp), ?_, ?_⟩
        · refine ⟨hf8.os.trans hBz.os, hf8.tape.trans hBz.tape, hf8.output.trans hBz.output, Nat.le_trans hBz.size hf8.size, fun k hk hn => ?_⟩
          rw [hf8.block k (by have := hBz.size; omega) (fun h => by
            rcases h with h | h | h
            · exact hn h
            · have := hx1.out.2.2.2.2.2.1; omega
            · omega)]
          exact hBz.block k hk
        · intro k hk
          rcases hB7.gr k hk with h | h
          · exact .inl h
          · right; have := hBz.size; omega
#print axioms config_c
end Go.Proofs.YtkmknpobinpegaaDoor
