/- The statement's both: steps copied twice. -/
import Derived.Test.YtkmknpobinpegaaDoorReg2
import Derived.Test.YtkmknpobinpegaaDoorRefWriteW
namespace Go.Proofs.YtkmknpobinpegaaDoor
open Go Go.RowKit Go.Maps Go.Sort Go.Lib
set_option linter.unusedSimpArgs false
set_option linter.unusedVariables false

theorem BlkAt.fr {w : World} {p : Nat} {l : List Value} {e : TypeId} (h : BlkAt w p l e) (j : Nat) : w.frozen? ⟨p, j, none⟩ = false := by
  unfold BlkAt at h; simp [World.frozen?, h]
theorem own_empty (W : World) (e : TypeId) (base : Nat) (hb : base ≤ W.heap.size) : (W.alloc (.cells #[] e)).ownsRow base e 1 (.slice (some ⟨W.heap.size, 0, none⟩) 0 0) 0 [] :=
  ⟨rfl, .inr ⟨W.heap.size, 0, #[], rfl, hb, heap_alloc_new W _, Nat.le_refl _, Nat.zero_le _, rfl, rfl⟩⟩
theorem own_ne {W : World} {b b' s s' n n' : Nat} {e e' : TypeId} {v v' : Value} {xs xs' : List Value} (h : W.ownsRow b e s v n xs) (h' : W.ownsRow b' e' s' v' n' xs') (hne : e ≠ e') {g : Nat} (hg : v.ownBlock = some g) : v'.ownBlock ≠ some g := by
  intro hg'
  rcases h.2 with ⟨rfl, _⟩ | ⟨g1, _, _, rfl, _, k1, _⟩
  · simp [Value.ownBlock] at hg
  · rcases h'.2 with ⟨rfl, _⟩ | ⟨g2, _, _, rfl, _, k2, _⟩
    · simp [Value.ownBlock] at hg'
    · simp [Value.ownBlock] at hg hg'
      subst hg; subst hg'
      rw [k1] at k2
      injection k2 with k2
      injection k2 with _ k2
      exact hne k2
theorem own_keep {W W' : World} {b b' s s' n n' : Nat} {e e' : TypeId} {v v' : Value} {xs xs' : List Value} (h : W.ownsRow b e s v n xs) (h' : W.ownsRow b' e' s' v' n' xs') (hne : e ≠ e') (hg : W.grownBy W' v'.ownBlock) : W'.ownsRow b e s v n xs :=
  ownsRow_block h (fun g hgg => hg.block g (h.lt g hgg).2 (fun e => own_ne h h' hne hgg e.symm))
theorem blk_keep {W W' : World} {b' s' n' p : Nat} {e e' : TypeId} {v' : Value} {l xs' : List Value} (h : BlkAt W p l e) (h' : W.ownsRow b' e' s' v' n' xs') (hne : e ≠ e') (hg : W.grownBy W' v'.ownBlock) : BlkAt W' p l e :=
  h.block (hg.block p h.lt (fun e => h.ne h' hne e.symm))
theorem below_app {W0 W W' : World} {s' n' : Nat} {e' : TypeId} {v' : Value} {xs' : List Value} (h : Below W0.heap.size W0 W) (h' : W.ownsRow W0.heap.size e' s' v' n' xs') (hg : W.grownBy W' v'.ownBlock) : Below W0.heap.size W0 W' :=
  h.grown hg h.size (fun k e => (h'.lt k e).1)
theorem BlkAt.set4 {w : World} {p : Nat} {a b c d a' b' c' d' : Value} {e : TypeId} (h : BlkAt w p [a, b, c, d] e) :
    BlkAt ((((w.setCell ⟨p, 0, none⟩ a').setCell ⟨p, 1, none⟩ b').setCell ⟨p, 2, none⟩ c').setCell ⟨p, 3, none⟩ d') p [a', b', c', d'] e := by
  unfold BlkAt at *
  obtain ⟨hlt, hk⟩ := Array.getElem?_eq_some_iff.1 h
  simp [World.setCell, Array.getElem?_modify, h]
/-- What the copy of one step leaves: its block p, the two rows. -/
def ClonePost (w0 wx : World) (p : Nat) (s : Stp) (vA vI : Value) (mb ma : Nat) : Prop :=
  Below w0.heap.size w0 wx ∧ w0.heap.size ≤ p ∧ BlkAt wx p [.int .i64 s.kind, .int .i64 s.k, vA, vI] 51 ∧ wx.ownsRow w0.heap.size 5 1 vA mb (rowB (s.bytes.take 260)) ∧ wx.ownsRow w0.heap.size 3 1 vI ma ((s.at_.take 260).map encN)
theorem clone_end {w0 W : World} {p mb ma : Nat} {s : Stp} {vA vI : Value} (hB : Below w0.heap.size w0 W) (hq : w0.heap.size ≤ p) (hP : BlkAt W p [.int .i64 0, .int .i64 0, .slice none 0 0, .slice none 0 0] 51)
    (hA : W.ownsRow w0.heap.size 5 1 vA mb (rowB (s.bytes.take 260))) (hI : W.ownsRow w0.heap.size 3 1 vI ma ((s.at_.take 260).map encN)) :
    ClonePost w0 ((((W.setCell ⟨p, 0, none⟩ (.int .i64 s.kind)).setCell ⟨p, 1, none⟩ (.int .i64 s.k)).setCell ⟨p, 2, none⟩ vA).setCell ⟨p, 3, none⟩ vI) p s vA vI mb ma := by
  have hb : ∀ k, k ≠ p → ((((W.setCell ⟨p, 0, none⟩ (.int .i64 s.kind)).setCell ⟨p, 1, none⟩ (.int .i64 s.k)).setCell ⟨p, 2, none⟩ vA).setCell ⟨p, 3, none⟩ vI).heap[k]? = W.heap[k]? := fun k hk => by
    rw [Below.heap_setCell _ _ _ _ hk, Below.heap_setCell _ _ _ _ hk, Below.heap_setCell _ _ _ _ hk, Below.heap_setCell _ _ _ _ hk]
  refine ⟨(((hB.setCell (p := ⟨p, 0, none⟩) hq _).setCell (p := ⟨p, 1, none⟩) hq _).setCell (p := ⟨p, 2, none⟩) hq _).setCell (p := ⟨p, 3, none⟩) hq _, hq, hP.set4, ?_, ?_⟩
  · exact ownsRow_block hA (fun g hg => hb g (fun e => hP.ne hA (by decide) (by rw [← e]; exact hg)))
  · exact ownsRow_block hI (fun g hg => hb g (fun e => hP.ne hI (by decide) (by rw [← e]; exact hg)))
def Nz (v : Value) : Prop := v = .slice none 0 0 ∨ ∃ x n c, v = .slice (some x) n c
def trim (x : Stp) : Stp := { x with bytes := x.bytes.take 260, at_ := x.at_.take 260 }
/-- The fields of a row of steps that came in are nil, or have an address. -/
def StpsNz (w : World) (v : Value) : Prop := ∀ a n c, v = .slice a n c → ∀ j x, j < n → a = some x → ∀ u, (w.cell? ⟨(x.add (j * 4)).block, (x.add (j * 4)).off + 2, none⟩ = some u ∨ w.cell? ⟨(x.add (j * 4)).block, (x.add (j * 4)).off + 3, none⟩ = some u) → Nz u
theorem src_rd {α : Type} [Inhabited α] {enc : α → Value} {w : World} {T : Nat → Prop} {a : Option Addr} {n c m : Nat} {xs : List α} (h : Rd enc w T (.slice a n c) xs) (hz : Nz (.slice a n c)) (hm : m = min xs.length 260) : SrcAt w (.slice a m c) m 1 ((xs.take 260).map enc) := by
  obtain ⟨a', c', e, h1, h2, h3⟩ := h
  injection e with e1 e2 e3
  subst e1; subst e2; subst e3
  refine ⟨by simp [hm, Nat.min_comm], ?_⟩
  rcases hz with hz | ⟨x, n', c', hz⟩
  · injection hz with e1 e2 e3
    subst e1; subst e3
    have : m = 0 := by omega
    subst this
    exact .inl ⟨rfl, rfl⟩
  · injection hz with e1 e2 e3
    subst e1
    refine .inr ⟨x, c, rfl, fun j y hj => ?_⟩
    have hjl : j < xs.length ∧ j < 260 := by
      have := (List.getElem?_eq_some_iff.1 hj).1
      simp at this; omega
    obtain ⟨x', e, _, _, hc⟩ := h3 (by omega)
    injection e with e
    subst e
    rw [hc j hjl.1, ← hj]
    simp [hjl.1, hjl.2, List.getElem?_take, getElem!_pos]
/-- A block of bytes or of whole numbers. -/
def TyBI (w : World) (k : Nat) : Prop := ∃ cur e fr, w.heap[k]? = some (.cells cur e fr) ∧ (e = 5 ∨ e = 3)
theorem TyBI.own {w : World} {b s n : Nat} {e : TypeId} {v : Value} {xs : List Value} (h : w.ownsRow b e s v n xs) (he : e = 5 ∨ e = 3) {k : Nat} (hk : v.ownBlock = some k) : TyBI w k := by
  rcases h.2 with ⟨rfl, _⟩ | ⟨g, cap, cur, rfl, _, hg, _⟩
  · simp [Value.ownBlock] at hk
  · simp [Value.ownBlock] at hk
    subst hk
    exact ⟨cur, e, (0, 0), hg, he⟩
theorem TyBI.ne {w : World} {b s n : Nat} {e : TypeId} {v : Value} {xs : List Value} {k : Nat} (h : TyBI w k) (ho : w.ownsRow b e s v n xs) (he : e ≠ 5 ∧ e ≠ 3) : v.ownBlock ≠ some k := by
  intro hk
  rcases ho.2 with ⟨rfl, _⟩ | ⟨g, cap, cur, rfl, _, hg, _⟩
  · simp [Value.ownBlock] at hk
  · simp [Value.ownBlock] at hk
    subst hk
    obtain ⟨cur', e', fr, h1, h2⟩ := h
    rw [hg] at h1
    injection h1 with h1
    injection h1 with _ h1
    subst h1
    rcases h2 with h2 | h2
    · exact he.1 h2
    · exact he.2 h2
/-- What the second copy leaves: the row of steps with one more. -/
def CopyPost (w0 wx : World) (n0 i : Nat) (old new : Value) (s : Stp) (row : List Value) (vA vI : Value) (mb ma : Nat) : Prop :=
  wx.ownsRow n0 52 4 new (i + 1) (row ++ [.int .i64 s.kind, .int .i64 s.k, vA, vI]) ∧ (∀ k, k < w0.heap.size → old.ownBlock ≠ some k → wx.heap[k]? = w0.heap[k]?) ∧ (new.ownBlock = old.ownBlock ∨ ∃ g, new.ownBlock = some g ∧ w0.heap.size ≤ g) ∧
    wx.ownsRow w0.heap.size 5 1 vA mb (rowB (s.bytes.take 260)) ∧ wx.ownsRow w0.heap.size 3 1 vI ma ((s.at_.take 260).map encN) ∧ w0.heap.size ≤ wx.heap.size ∧ wx.os = w0.os ∧ wx.tape = w0.tape ∧ wx.output = w0.output
theorem copy_end {w0 W W2 : World} {n0 i mb ma : Nat} {old new vA vI : Value} {s : Stp} {row : List Value} (hr : w0.ownsRow n0 52 4 old i row) (hB : Below w0.heap.size w0 W)
    (hA : W.ownsRow w0.heap.size 5 1 vA mb (rowB (s.bytes.take 260))) (hI : W.ownsRow w0.heap.size 3 1 vI ma ((s.at_.take 260).map encN))
    (hown : W2.ownsRow n0 52 4 new (i + 1) (row ++ [.int .i64 s.kind, .int .i64 s.k, vA, vI])) (hgrow : W.grownBy W2 old.ownBlock) (hloc : new.ownBlock = old.ownBlock ∨ new.ownBlock = some W.heap.size) :
    CopyPost w0 W2 n0 i old new s row vA vI mb ma := by
  have hr' : W.ownsRow n0 52 4 old i row := ownsRow_block hr (fun g hg => hB.block g (hr.lt g hg).2)
  refine ⟨hown, fun k hk hne => ?_, ?_, own_keep hA hr' (by decide) hgrow, own_keep hI hr' (by decide) hgrow, Nat.le_trans hB.size hgrow.size, hgrow.os.trans hB.os, hgrow.tape.trans hB.tape, hgrow.output.trans hB.output⟩
  · have := hB.size
    rw [hgrow.block k (by omega) (Ne.symm hne), hB.block k hk]
  · rcases hloc with h | h
    · exact .inl h
    · exact .inr ⟨_, h, hB.size⟩
theorem TyBI.block {w w' : World} {k : Nat} (h : TyBI w k) (hb : w'.heap[k]? = w.heap[k]?) : TyBI w' k := by
  obtain ⟨cur, e, fr, h1, h2⟩ := h; exact ⟨cur, e, fr, hb.trans h1, h2⟩
def Copies (w wr : World) (v1 v2 : Value) (ys : List Stp) : Prop :=
  ∃ D1 D2, Build wr 51 w.heap.size v1 D1 ys ∧ Build wr 52 w.heap.size v2 D2 ys ∧ Below w.heap.size w wr ∧ ∀ k, (D1 k ∨ D2 k) → TyBI wr k
def BothPost (w : World) (ys : List Stp) (e : Ending) (w' : World) : Prop := ∃ v1 v2, e = .returned (.tuple #[v1, v2]) ∧ Copies w w' v1 v2 ys
theorem copies_next {w wr w7 wy : World} {D1 D2 : Nat → Prop} {i mb ma : Nat} {v1 old new vA vI vA2 vI2 : Value} {s : Stp} {ys : List Stp} {us2 : List (Value × Value)} (hyl : ys.length = i)
    (hd : Build w7 51 w.heap.size v1 (fun k => D1 k ∨ vA.ownBlock = some k ∨ vI.ownBlock = some k) (ys ++ [trim s]) ∧ BuildIn w7 52 w.heap.size old D2 ys us2 ∧ (∀ k, (D1 k ∨ D2 k) → TyBI w7 k) ∧ Below w.heap.size w w7 ∧
      w7.ownsRow wr.heap.size 5 1 vA mb (rowB (s.bytes.take 260)) ∧ w7.ownsRow wr.heap.size 3 1 vI ma ((s.at_.take 260).map encN))
    (hc : CopyPost w7 wy w.heap.size i old new s (cellsF ys us2) vA2 vI2 mb ma) : Copies w wy v1 new (ys ++ [trim s]) := by
  obtain ⟨hb1, hB2, hty, hBw, hA7, hI7⟩ := hd
  obtain ⟨hown, hold, hloc, hA, hI, hz, e1, e2, e3⟩ := hc
  have hrow2 := hB2.own
  have hbz := hBw.size
  have htA : ∀ k, vA.ownBlock = some k → TyBI w7 k := fun k hk => TyBI.own hA7 (.inl rfl) hk
  have htI : ∀ k, vI.ownBlock = some k → TyBI w7 k := fun k hk => TyBI.own hI7 (.inr rfl) hk
  have ht1 : ∀ k, (D1 k ∨ vA.ownBlock = some k ∨ vI.ownBlock = some k) → TyBI w7 k := fun k hk => by
    rcases hk with hk | hk | hk
    · exact hty k (.inl hk)
    · exact htA k hk
    · exact htI k hk
  have hk1 : ∀ k, (D1 k ∨ vA.ownBlock = some k ∨ vI.ownBlock = some k) → wy.heap[k]? = w7.heap[k]? := fun k hk => hold k (hb1.lt.1 k hk).2.1 ((ht1 k hk).ne hrow2 (by decide))
  have hk2 : ∀ k, D2 k → wy.heap[k]? = w7.heap[k]? := fun k hk => hold k (hB2.d k hk).2.1 ((hty k (.inr hk)).ne hrow2 (by decide))
  obtain ⟨us1, HB1⟩ := hb1
  refine ⟨_, fun k => D2 k ∨ vA2.ownBlock = some k ∨ vI2.ownBlock = some k, Build.keep ⟨us1, HB1⟩ hk1 (fun g hg => hold g (HB1.own.lt g hg).2 (own_ne HB1.own hrow2 (by decide) hg)) hz, ?_, ?_, ?_⟩
  · refine Build.snoc (x := trim s) (u := (vA2, vI2)) hB2 (by rw [hyl]; exact hown) hk2 hz ((ownsRow_rd (enc := encB) hA).mono (fun k hk _ => .inr (.inl hk))) ((ownsRow_rd (enc := encN) hI).mono (fun k hk _ => .inr (.inr hk))) (fun k hk => .inl hk) ?_
    intro k hk
    rcases hk with hk | hk | hk
    · exact ⟨(hB2.d k hk).1, by have := (hB2.d k hk).2.1; omega, ((hty k (.inr hk)).block (hk2 k hk)).ne hown (by decide)⟩
    · have := hA.lt k hk
      exact ⟨by omega, this.2, (TyBI.own hA (.inl rfl) hk).ne hown (by decide)⟩
    · have := hI.lt k hk
      exact ⟨by omega, this.2, (TyBI.own hI (.inr rfl) hk).ne hown (by decide)⟩
  · exact ⟨e1.trans hBw.os, e2.trans hBw.tape, e3.trans hBw.output, by omega, fun k hk => (hold k (by omega) (fun e => by have := (hrow2.lt k e).1; omega)).trans (hBw.block k hk)⟩
  · intro k hk
    rcases hk with hk | hk | hk | hk
    · exact (ht1 k hk).block (hk1 k hk)
    · exact (hty k (.inr hk)).block (hk2 k hk)
    · exact TyBI.own hA (.inl rfl) hk
    · exact TyBI.own hI (.inr rfl) hk
set_option maxRecDepth 8000 in
set_option maxHeartbeats 40000000 in
theorem both_c (w : World) (T : Nat → Prop) (v : Value) (xs : List Stp) (most : Nat) (hv : StpsAt w T v xs) (hz : StpsNz w v) (hm : most = 12 ∨ most = 6) :
    Calls Tryd.prog 5 #[v, .int .i64 (most : Int)] w (BothPost w ((xs.take most).map trim)) := by
  obtain ⟨i0, hi, hi0, hi1, hi2⟩ := info_parts infoB
  obtain ⟨j0, hj0, hj1, hj2, hj3⟩ := info_parts infoW
  obtain ⟨r0, hr0, hr1, hr2, hr3⟩ := info_parts infoR
  obtain ⟨k0, hk0, hk1, hk2, hk3⟩ := info_parts infoSt
  obtain ⟨a, cc, rfl, hlc, hcm, hst⟩ := hv
  unfold maxLen at hcm
  have hcx := Lib.hid (And.intro hst hz)
  clear hst hz
  go_enter Tryd.func5, Tryd.ntmps5
  go_wp2
  go_loopw [6, 7, 8] (fun s6 s7 s8 wr => ∃ (i : Nat), i ≤ xs.length ∧ i ≤ most ∧ s8 = .int .i64 (i : Int) ∧ Aside (Copies w wr s6 s7 ((xs.take i).map trim)))
    (fun _ _ s8 _ => xs.length - (intOf s8).toNat)
  case atStart => exact ⟨0, by omega, by omega, rfl, fun _ => False, fun _ => False, Build.nil _ _ _, Build.nil _ _ _, Below.refl _ _, fun k hk => by rcases hk with hk | hk <;> exact hk.elim⟩
  case round =>
    obtain ⟨i, hi', him, rfl, hA⟩ := hrel
    have hCo := Lib.hid hA
    clear hA
    have hB : Below w.heap.size w wr := by obtain ⟨_, _, _, _, h, _⟩ := hCo.out; exact h
    by_cases hx : i < xs.length ∧ i < most
    · obtain ⟨h1, h2⟩ := hx
      obtain ⟨x, xb, xa, rfl, hxT, hxl, x0, x1, x2, x3, xr, xr'⟩ := hcx.out.1 i h1
      obtain ⟨b1, bl, b3, rfl⟩ := xr.slice
      obtain ⟨b4, al, b6, rfl⟩ := xr'.slice
      have hbb : (x.add (i * 4)).block < w.heap.size := by rw [add_block]; exact hxl
      have y0 := (hB.cell (p := x.add (i * 4)) hbb).trans x0
      have y1 := (hB.cell (p := ⟨(x.add (i * 4)).block, (x.add (i * 4)).off + 1, none⟩) hbb).trans x1
      have y2 := (hB.cell (p := ⟨(x.add (i * 4)).block, (x.add (i * 4)).off + 2, none⟩) hbb).trans x2
      have y3 := (hB.cell (p := ⟨(x.add (i * 4)).block, (x.add (i * 4)).off + 3, none⟩) hbb).trans x3
      have nz1 := hcx.out.2 _ _ _ rfl i x h1 rfl _ (.inl x2)
      have nz2 := hcx.out.2 _ _ _ rfl i x h1 rfl _ (.inr x3)
      have xr2 := xr.below.keep (w' := wr) (fun k _ hk => hB.block k hk) hB.size
      have xr2' := xr'.below.keep (w' := wr) (fun k _ hk => hB.block k hk) hB.size
      have hxb : (x.add (i * 4)).block < wr.heap.size := by have := hB.size; omega
      clear x0 x1 x2 x3 hbb
      have hse := Lib.hid (take_snoc (l := xs) (j := i) h1)
      generalize xs[i]! = s at *
      obtain ⟨rfl, hbc, hbm⟩ : bl = s.bytes.length ∧ s.bytes.length ≤ b3 ∧ b3 ≤ maxLen := by obtain ⟨_, _, e, h1, h2, _⟩ := xr; injection e with e1 e2 e3; subst e2; subst e3; exact ⟨rfl, h1, h2⟩
      obtain ⟨rfl, hac, ham⟩ : al = s.at_.length ∧ s.at_.length ≤ b6 ∧ b6 ≤ maxLen := by obtain ⟨_, _, e, h1, h2, _⟩ := xr'; injection e with e1 e2 e3; subst e2; subst e3; exact ⟨rfl, h1, h2⟩
      unfold maxLen at hbm ham
      obtain ⟨mb, hmb⟩ : ∃ mb, mb = min s.bytes.length 260 := ⟨_, rfl⟩
      obtain ⟨ma, hma⟩ : ∃ ma, ma = min s.at_.length 260 := ⟨_, rfl⟩
      have srcB := Lib.hid (src_rd xr2 nz1 hmb)
      have srcI := Lib.hid (src_rd xr2' nz2 hma)
      have hmb' : min (s.bytes.length : Int) 260 = (mb : Int) := by omega
      have hma' : min (s.at_.length : Int) 260 = (ma : Int) := by omega
      have hmb1 : mb ≤ b3 := by omega
      have hma1 : ma ≤ b6 := by omega
      have hmb2 : mb ≤ 260 := by omega
      have hma2 : ma ≤ 260 := by omega
      have hmbx := Lib.hid (And.intro hmb hma)
      have hg : (i : Int) < (xs.length : Int) := by omega
      have hg2 : (i : Int) < (most : Int) := by omega
      have oneB := Lib.hid (show ∀ y ∈ rowB (s.bytes.take 260), y.oneCell' = true by intro y hy; obtain ⟨z, _, rfl⟩ := List.mem_map.1 hy; rfl)
      have oneI := Lib.hid (show ∀ y ∈ (s.at_.take 260).map encN, y.oneCell' = true by intro y hy; obtain ⟨z, _, rfl⟩ := List.mem_map.1 hy; rfl)
      have hBx := Lib.hid hB
      have hxbb := Lib.hid hxb
      clear hmb hma nz1 nz2 xr xr' xr2 xr2' hB hxb
      go_upto_region 6 with fail
      have z0 := Lib.hid y0
      have z1 := Lib.hid y1
      have z2 := Lib.hid y2
      have z3 := Lib.hid y3
      clear y0 y1 y2 y3
      go_cut [9] (fun s9 wx => ∃ wy : World, wy = wx ∧ ∃ (p : Nat) (vA vI : Value), s9 = .pointer (some ⟨p, 0, none⟩) ∧ ClonePost wr wy p s vA vI mb ma)
      case first =>
        (refine wp_region_canM [[], [], [0, 1], [0, 1, 2], [0, 1, 2, 3], [], [], [5, 6], [5, 6, 7], [5, 6, 7, 8], [], [], [], [11, 12], [11, 12, 13], [11, 12, 13, 14], [], [], [16, 17], [16, 17, 18], [16, 17, 18, 19], [16, 17, 18, 19, 20], [16, 17, 18, 19, 20, 21], [11, 12, 13, 14, 15, 16, 17, 18, 19, 20, 21, 22], [10, 11, 12, 13, 14, 15, 16, 17, 18, 19, 20, 21, 22, 23], [], [], [], [26, 27], [26, 27, 28], [26, 27, 28, 29], [], [], [31, 32], [31, 32, 33], [31, 32, 33, 34], [31, 32, 33, 34, 35], [31, 32, 33, 34, 35, 36], [26, 27, 28, 29, 30, 31, 32, 33, 34, 35, 36, 37], [10, 11, 12, 13, 14, 15, 16, 17, 18, 19, 20, 21, 22, 23, 24, 25, 26, 27, 28, 29, 30, 31, 32, 33, 34, 35, 36, 37, 38], [0, 1, 2, 3, 4, 5, 6, 7, 8, 9, 10, 11, 12, 13, 14, 15, 16, 17, 18, 19, 20, 21, 22, 23, 24, 25, 26, 27, 28, 29, 30, 31, 32, 33, 34, 35, 36, 37, 38, 39], [], [0, 1, 2, 3, 4, 5, 6, 7, 8, 9, 10, 11, 12, 13, 14, 15, 16, 17, 18, 19, 20, 21, 22, 23, 24, 25, 26, 27, 28, 29, 30, 31, 32, 33, 34, 35, 36, 37, 38, 39, 40, 41]] ([.st 0 .pure, .st 1 .pure, .st 2 .pure, .st 3 .pure, .st 4 .keep, .st 5 .pure, .st 6 .pure, .st 7 .pure, .st 8 .pure, .st 9 .keep, .st 11 .pure, .st 12 .pure, .st 13 .pure, .st 14 .pure, .st 15 .keep, .st 16 .pure, .st 17 .pure, .st 18 .pure, .st 19 .pure, .st 20 .keep, .st 21 .pure, .st 22 .pure, .st 23 .pure, .st 26 .pure, .st 27 .pure, .st 28 .pure, .st 29 .pure, .st 30 .keep, .st 31 .pure, .st 32 .pure, .st 33 .pure, .st 34 .pure, .st 35 .keep, .st 36 .pure, .st 37 .pure, .st 38 .pure] ++ [.ef 10 [0, 1, 2, 3, 4, 5, 6, 7, 8, 9, 11, 12, 13, 14, 15, 16, 17, 18, 19, 20, 21, 22, 23, 26, 27, 28, 29, 30, 31, 32, 33, 34, 35, 36, 37, 38], .ef 24 [0, 1, 2, 3, 4, 5, 6, 7, 8, 9, 26, 27, 28, 29, 30, 31, 32, 33, 34, 35, 36, 37, 38], .ef 25 [0, 1, 2, 3, 4, 5, 6, 7, 8, 9, 11, 12, 13, 14, 15, 16, 17, 18, 19, 20, 21, 22, 23, 26, 27, 28, 29, 30, 31, 32, 33, 34, 35, 36, 37, 38], .ef 39 [0, 1, 2, 3, 4, 5, 6, 7, 8, 9], .st 40 .pure, .ef 41 [0, 1, 2, 3, 4, 5, 6, 7, 8, 9, 11, 12, 13, 14, 15, 16, 17, 18, 19, 20, 21, 22, 23, 26, 27, 28, 29, 30, 31, 32, 33, 34, 35, 36, 37, 38, 40], .ef 42 []]) (by kernel_rfl) (by kernel_rfl) ?_; refine canm_of_pre [.st 0 .pure, .st 1 .pure, .st 2 .pure, .st 3 .pure, .st 4 .keep, .st 5 .pure, .st 6 .pure, .st 7 .pure, .st 8 .pure, .st 9 .keep, .st 11 .pure, .st 12 .pure, .st 13 .pure, .st 14 .pure, .st 15 .keep, .st 16 .pure, .st 17 .pure, .st 18 .pure, .st 19 .pure, .st 20 .keep, .st 21 .pure, .st 22 .pure, .st 23 .pure, .st 26 .pure, .st 27 .pure, .st 28 .pure, .st 29 .pure, .st 30 .keep, .st 31 .pure, .st 32 .pure, .st 33 .pure, .st 34 .pure, .st 35 .keep, .st 36 .pure, .st 37 .pure, .st 38 .pure] [] _ _ (by kernel_rfl) ?_; try simp only [Act.put])
        generalize hw0 : World.drew wr = w0
        have hB0 : Below wr.heap.size wr w0 := by rw [← hw0]; exact ⟨rfl, rfl, rfl, Nat.le_refl _, fun _ _ => rfl⟩
        clear hw0
        have y_0 : w0.cell? (x.add (i * 4)) = some (.int .i64 s.kind) := (hB0.cell (p := x.add (i * 4)) hxbb.out).trans z0.out
        have y_1 : w0.cell? ⟨(x.add (i * 4)).block, (x.add (i * 4)).off + 1, none⟩ = some (.int .i64 s.k) := (hB0.cell (p := ⟨(x.add (i * 4)).block, (x.add (i * 4)).off + 1, none⟩) hxbb.out).trans z1.out
        have y_2 : w0.cell? ⟨(x.add (i * 4)).block, (x.add (i * 4)).off + 2, none⟩ = some (.slice b1 s.bytes.length b3) := (hB0.cell (p := ⟨(x.add (i * 4)).block, (x.add (i * 4)).off + 2, none⟩) hxbb.out).trans z2.out
        have y_3 : w0.cell? ⟨(x.add (i * 4)).block, (x.add (i * 4)).off + 3, none⟩ = some (.slice b4 s.at_.length b6) := (hB0.cell (p := ⟨(x.add (i * 4)).block, (x.add (i * 4)).off + 3, none⟩) hxbb.out).trans z3.out
        (repeat (first | (refine cpre_drop rfl rfl (fun K hK => ?_); go_big_quiet_op; refine hK _ ?_; clear hK K) | (refine cpre_pure ?_ rfl rfl (fun W K hK => ?_) ?_; rotate_left; (focus (go_big_quiet_op; exact hK))) | (refine cpre_keep rfl rfl (fun K hK => ?_); go_big_quiet_op; refine hK _ ?_; clear hK K) | (refine cpre_skip rfl rfl ?_; simp only [Act.put, List.setIfInBounds_toArray, List.set_cons_succ, List.set_cons_zero])))
        refine cpre_nil ?_
        refine canm_ef (bs := [(10, [0, 1, 2, 3, 4, 5, 6, 7, 8, 9, 11, 12, 13, 14, 15, 16, 17, 18, 19, 20, 21, 22, 23, 26, 27, 28, 29, 30, 31, 32, 33, 34, 35, 36, 37, 38], [.ef 24 [0, 1, 2, 3, 4, 5, 6, 7, 8, 9, 26, 27, 28, 29, 30, 31, 32, 33, 34, 35, 36, 37, 38], .ef 25 [0, 1, 2, 3, 4, 5, 6, 7, 8, 9, 11, 12, 13, 14, 15, 16, 17, 18, 19, 20, 21, 22, 23, 26, 27, 28, 29, 30, 31, 32, 33, 34, 35, 36, 37, 38], .ef 39 [0, 1, 2, 3, 4, 5, 6, 7, 8, 9], .st 40 .pure, .ef 41 [0, 1, 2, 3, 4, 5, 6, 7, 8, 9, 11, 12, 13, 14, 15, 16, 17, 18, 19, 20, 21, 22, 23, 26, 27, 28, 29, 30, 31, 32, 33, 34, 35, 36, 37, 38, 40], .ef 42 []]), (25, [0, 1, 2, 3, 4, 5, 6, 7, 8, 9, 11, 12, 13, 14, 15, 16, 17, 18, 19, 20, 21, 22, 23, 26, 27, 28, 29, 30, 31, 32, 33, 34, 35, 36, 37, 38], [.ef 10 [0, 1, 2, 3, 4, 5, 6, 7, 8, 9, 11, 12, 13, 14, 15, 16, 17, 18, 19, 20, 21, 22, 23, 26, 27, 28, 29, 30, 31, 32, 33, 34, 35, 36, 37, 38], .ef 24 [0, 1, 2, 3, 4, 5, 6, 7, 8, 9, 26, 27, 28, 29, 30, 31, 32, 33, 34, 35, 36, 37, 38], .ef 39 [0, 1, 2, 3, 4, 5, 6, 7, 8, 9], .st 40 .pure, .ef 41 [0, 1, 2, 3, 4, 5, 6, 7, 8, 9, 11, 12, 13, 14, 15, 16, 17, 18, 19, 20, 21, 22, 23, 26, 27, 28, 29, 30, 31, 32, 33, 34, 35, 36, 37, 38, 40], .ef 42 []]), (41, [0, 1, 2, 3, 4, 5, 6, 7, 8, 9, 11, 12, 13, 14, 15, 16, 17, 18, 19, 20, 21, 22, 23, 26, 27, 28, 29, 30, 31, 32, 33, 34, 35, 36, 37, 38, 40], [.ef 10 [0, 1, 2, 3, 4, 5, 6, 7, 8, 9, 11, 12, 13, 14, 15, 16, 17, 18, 19, 20, 21, 22, 23, 26, 27, 28, 29, 30, 31, 32, 33, 34, 35, 36, 37, 38], .ef 24 [0, 1, 2, 3, 4, 5, 6, 7, 8, 9, 26, 27, 28, 29, 30, 31, 32, 33, 34, 35, 36, 37, 38], .ef 25 [0, 1, 2, 3, 4, 5, 6, 7, 8, 9, 11, 12, 13, 14, 15, 16, 17, 18, 19, 20, 21, 22, 23, 26, 27, 28, 29, 30, 31, 32, 33, 34, 35, 36, 37, 38], .ef 39 [0, 1, 2, 3, 4, 5, 6, 7, 8, 9], .st 40 .pure, .ef 42 []])]) (by kernel_rfl) ?_
        refine ⟨⟨_, rfl, fun K hK => ?_⟩, ⟨_, rfl, fun K hK => ?_⟩, ⟨_, rfl, fun K hK => ?_⟩, trivial⟩
        · obtain ⟨wn1, hwn⟩ : ∃ wn, wn = w0.alloc (.cells #[] 5) := ⟨_, rfl⟩
          obtain ⟨g1, hgn⟩ : ∃ g, g = w0.heap.size := ⟨_, rfl⟩
          have hB1 : Below wr.heap.size wr wn1 := by rw [hwn]; exact hB0.alloc hB0.size _
          have hA1 : wn1.ownsRow wr.heap.size 5 1 (.slice (some ⟨g1, 0, none⟩) 0 0) 0 [] := by rw [hwn, hgn]; exact own_empty w0 _ _ hB0.size
          clear y_0 y_1 y_2 y_3
          have y_0 : wn1.cell? (x.add (i * 4)) = some (.int .i64 s.kind) := (hB1.cell (p := x.add (i * 4)) hxbb.out).trans z0.out
          have y_1 : wn1.cell? ⟨(x.add (i * 4)).block, (x.add (i * 4)).off + 1, none⟩ = some (.int .i64 s.k) := (hB1.cell (p := ⟨(x.add (i * 4)).block, (x.add (i * 4)).off + 1, none⟩) hxbb.out).trans z1.out
          have y_2 : wn1.cell? ⟨(x.add (i * 4)).block, (x.add (i * 4)).off + 2, none⟩ = some (.slice b1 s.bytes.length b3) := (hB1.cell (p := ⟨(x.add (i * 4)).block, (x.add (i * 4)).off + 2, none⟩) hxbb.out).trans z2.out
          have y_3 : wn1.cell? ⟨(x.add (i * 4)).block, (x.add (i * 4)).off + 3, none⟩ = some (.slice b4 s.at_.length b6) := (hB1.cell (p := ⟨(x.add (i * 4)).block, (x.add (i * 4)).off + 3, none⟩) hxbb.out).trans z3.out
          go_wp2
          rw [← hwn, ← hgn]
          clear hwn hgn
          refine hK _ _ ⟨?_, ?_⟩; (focus (simp only [ReAll, List.contains_cons, List.contains_nil, Nat.reduceBEq, Bool.or_true, Bool.true_or, Bool.or_false, if_true, Bool.false_eq_true, if_false, and_true, true_and] <;> repeat' (first | trivial | (refine And.intro ?_ ?_) | (unfold YA; go_big_quiet_op; rfl)))); clear hK K
          refine canm_ef (bs := [(24, [0, 1, 2, 3, 4, 5, 6, 7, 8, 9, 26, 27, 28, 29, 30, 31, 32, 33, 34, 35, 36, 37, 38], [.ef 25 [0, 1, 2, 3, 4, 5, 6, 7, 8, 9, 11, 12, 13, 14, 15, 16, 17, 18, 19, 20, 21, 22, 23, 26, 27, 28, 29, 30, 31, 32, 33, 34, 35, 36, 37, 38], .ef 39 [0, 1, 2, 3, 4, 5, 6, 7, 8, 9], .st 40 .pure, .ef 41 [0, 1, 2, 3, 4, 5, 6, 7, 8, 9, 11, 12, 13, 14, 15, 16, 17, 18, 19, 20, 21, 22, 23, 26, 27, 28, 29, 30, 31, 32, 33, 34, 35, 36, 37, 38, 40], .ef 42 []]), (25, [0, 1, 2, 3, 4, 5, 6, 7, 8, 9, 11, 12, 13, 14, 15, 16, 17, 18, 19, 20, 21, 22, 23, 26, 27, 28, 29, 30, 31, 32, 33, 34, 35, 36, 37, 38], [.ef 24 [0, 1, 2, 3, 4, 5, 6, 7, 8, 9, 26, 27, 28, 29, 30, 31, 32, 33, 34, 35, 36, 37, 38], .ef 39 [0, 1, 2, 3, 4, 5, 6, 7, 8, 9], .st 40 .pure, .ef 41 [0, 1, 2, 3, 4, 5, 6, 7, 8, 9, 11, 12, 13, 14, 15, 16, 17, 18, 19, 20, 21, 22, 23, 26, 27, 28, 29, 30, 31, 32, 33, 34, 35, 36, 37, 38, 40], .ef 42 []]), (41, [0, 1, 2, 3, 4, 5, 6, 7, 8, 9, 11, 12, 13, 14, 15, 16, 17, 18, 19, 20, 21, 22, 23, 26, 27, 28, 29, 30, 31, 32, 33, 34, 35, 36, 37, 38, 40], [.ef 24 [0, 1, 2, 3, 4, 5, 6, 7, 8, 9, 26, 27, 28, 29, 30, 31, 32, 33, 34, 35, 36, 37, 38], .ef 25 [0, 1, 2, 3, 4, 5, 6, 7, 8, 9, 11, 12, 13, 14, 15, 16, 17, 18, 19, 20, 21, 22, 23, 26, 27, 28, 29, 30, 31, 32, 33, 34, 35, 36, 37, 38], .ef 39 [0, 1, 2, 3, 4, 5, 6, 7, 8, 9], .st 40 .pure, .ef 42 []])]) (by kernel_rfl) ?_
          refine ⟨⟨_, rfl, fun K hK => ?_⟩, ⟨_, rfl, fun K hK => ?_⟩, ⟨_, rfl, fun K hK => ?_⟩, trivial⟩
          · refine wpList_append_src rfl _ _ 28 rfl wr.heap.size 5 i0 _ 1 1 Tryd.underlying28 hi hi0 hi1 hi2 rfl (by decide) (.slice (some ⟨g1, 0, none⟩) 0 0) 0 [] rfl hA1 (.slice b1 mb b3) mb (rowB (s.bytes.take 260)) rfl (srcAt_mem srcB.out (fun a v h => (hB1.cell (p := a) (lt_of_cell h)).trans h)) oneB.out (by unfold maxLen; omega) (by omega) hB1.size ?_
            intro v' wn2 hown hgrow hloc
            obtain ⟨sa2, sl2, sc2, rfl⟩ := ownsRow_slice hown
            have hB2 := below_app hB1 hA1 hgrow
            have hA2 : wn2.ownsRow wr.heap.size 5 1 (.slice sa2 sl2 sc2) mb (rowB (s.bytes.take 260)) := by simpa using hown
            clear hown hgrow hloc
            clear y_0 y_1 y_2 y_3
            have y_0 : wn2.cell? (x.add (i * 4)) = some (.int .i64 s.kind) := (hB2.cell (p := x.add (i * 4)) hxbb.out).trans z0.out
            have y_1 : wn2.cell? ⟨(x.add (i * 4)).block, (x.add (i * 4)).off + 1, none⟩ = some (.int .i64 s.k) := (hB2.cell (p := ⟨(x.add (i * 4)).block, (x.add (i * 4)).off + 1, none⟩) hxbb.out).trans z1.out
            have y_2 : wn2.cell? ⟨(x.add (i * 4)).block, (x.add (i * 4)).off + 2, none⟩ = some (.slice b1 s.bytes.length b3) := (hB2.cell (p := ⟨(x.add (i * 4)).block, (x.add (i * 4)).off + 2, none⟩) hxbb.out).trans z2.out
            have y_3 : wn2.cell? ⟨(x.add (i * 4)).block, (x.add (i * 4)).off + 3, none⟩ = some (.slice b4 s.at_.length b6) := (hB2.cell (p := ⟨(x.add (i * 4)).block, (x.add (i * 4)).off + 3, none⟩) hxbb.out).trans z3.out
            go_wp2
            refine hK _ _ ⟨?_, ?_⟩; (focus (simp only [ReAll, List.contains_cons, List.contains_nil, Nat.reduceBEq, Bool.or_true, Bool.true_or, Bool.or_false, if_true, Bool.false_eq_true, if_false, and_true, true_and] <;> repeat' (first | trivial | (refine And.intro ?_ ?_) | (unfold YA; go_big_quiet_op; rfl)))); clear hK K
            refine canm_ef (bs := [(25, [0, 1, 2, 3, 4, 5, 6, 7, 8, 9, 11, 12, 13, 14, 15, 16, 17, 18, 19, 20, 21, 22, 23, 26, 27, 28, 29, 30, 31, 32, 33, 34, 35, 36, 37, 38], [.ef 39 [0, 1, 2, 3, 4, 5, 6, 7, 8, 9], .st 40 .pure, .ef 41 [0, 1, 2, 3, 4, 5, 6, 7, 8, 9, 11, 12, 13, 14, 15, 16, 17, 18, 19, 20, 21, 22, 23, 26, 27, 28, 29, 30, 31, 32, 33, 34, 35, 36, 37, 38, 40], .ef 42 []]), (41, [0, 1, 2, 3, 4, 5, 6, 7, 8, 9, 11, 12, 13, 14, 15, 16, 17, 18, 19, 20, 21, 22, 23, 26, 27, 28, 29, 30, 31, 32, 33, 34, 35, 36, 37, 38, 40], [.ef 25 [0, 1, 2, 3, 4, 5, 6, 7, 8, 9, 11, 12, 13, 14, 15, 16, 17, 18, 19, 20, 21, 22, 23, 26, 27, 28, 29, 30, 31, 32, 33, 34, 35, 36, 37, 38], .ef 39 [0, 1, 2, 3, 4, 5, 6, 7, 8, 9], .st 40 .pure, .ef 42 []])]) (by kernel_rfl) ?_
            refine ⟨⟨_, rfl, fun K hK => ?_⟩, ⟨_, rfl, fun K hK => ?_⟩, trivial⟩
            · obtain ⟨wn3, hwn⟩ : ∃ wn, wn = wn2.alloc (.cells #[] 3) := ⟨_, rfl⟩
              obtain ⟨g3, hgn⟩ : ∃ g, g = wn2.heap.size := ⟨_, rfl⟩
              have hB3 : Below wr.heap.size wr wn3 := by rw [hwn]; exact hB2.alloc hB2.size _
              have hI3 : wn3.ownsRow wr.heap.size 3 1 (.slice (some ⟨g3, 0, none⟩) 0 0) 0 [] := by rw [hwn, hgn]; exact own_empty wn2 _ _ hB2.size
              have hA3 := hA2.alloc (.cells #[] 3)
              rw [← hwn] at hA3
              clear y_0 y_1 y_2 y_3
              have y_0 : wn3.cell? (x.add (i * 4)) = some (.int .i64 s.kind) := (hB3.cell (p := x.add (i * 4)) hxbb.out).trans z0.out
              have y_1 : wn3.cell? ⟨(x.add (i * 4)).block, (x.add (i * 4)).off + 1, none⟩ = some (.int .i64 s.k) := (hB3.cell (p := ⟨(x.add (i * 4)).block, (x.add (i * 4)).off + 1, none⟩) hxbb.out).trans z1.out
              have y_2 : wn3.cell? ⟨(x.add (i * 4)).block, (x.add (i * 4)).off + 2, none⟩ = some (.slice b1 s.bytes.length b3) := (hB3.cell (p := ⟨(x.add (i * 4)).block, (x.add (i * 4)).off + 2, none⟩) hxbb.out).trans z2.out
              have y_3 : wn3.cell? ⟨(x.add (i * 4)).block, (x.add (i * 4)).off + 3, none⟩ = some (.slice b4 s.at_.length b6) := (hB3.cell (p := ⟨(x.add (i * 4)).block, (x.add (i * 4)).off + 3, none⟩) hxbb.out).trans z3.out
              go_wp2
              rw [← hwn, ← hgn]
              clear hwn hgn
              refine hK _ _ ⟨?_, ?_⟩; (focus (simp only [ReAll, List.contains_cons, List.contains_nil, Nat.reduceBEq, Bool.or_true, Bool.true_or, Bool.or_false, if_true, Bool.false_eq_true, if_false, and_true, true_and] <;> repeat' (first | trivial | (refine And.intro ?_ ?_) | (unfold YA; go_big_quiet_op; rfl)))); clear hK K
              refine canm_ef (bs := [(39, [0, 1, 2, 3, 4, 5, 6, 7, 8, 9], [.st 40 .pure, .ef 41 [0, 1, 2, 3, 4, 5, 6, 7, 8, 9, 11, 12, 13, 14, 15, 16, 17, 18, 19, 20, 21, 22, 23, 26, 27, 28, 29, 30, 31, 32, 33, 34, 35, 36, 37, 38, 40], .ef 42 []]), (41, [0, 1, 2, 3, 4, 5, 6, 7, 8, 9, 11, 12, 13, 14, 15, 16, 17, 18, 19, 20, 21, 22, 23, 26, 27, 28, 29, 30, 31, 32, 33, 34, 35, 36, 37, 38, 40], [.ef 39 [0, 1, 2, 3, 4, 5, 6, 7, 8, 9], .st 40 .pure, .ef 42 []])]) (by kernel_rfl) ?_
              refine ⟨⟨_, rfl, fun K hK => ?_⟩, ⟨_, rfl, fun K hK => ?_⟩, trivial⟩
              · refine wpList_append_src rfl _ _ 49 rfl wr.heap.size 3 j0 _ 1 8 Tryd.underlying49 hj0 hj1 hj2 hj3 rfl (by decide) (.slice (some ⟨g3, 0, none⟩) 0 0) 0 [] rfl hI3 (.slice b4 ma b6) ma ((s.at_.take 260).map encN) rfl (srcAt_mem srcI.out (fun a v h => (hB3.cell (p := a) (lt_of_cell h)).trans h)) oneI.out (by unfold maxLen; omega) (by omega) hB3.size ?_
                intro v' wn4 hown hgrow hloc
                obtain ⟨sa4, sl4, sc4, rfl⟩ := ownsRow_slice hown
                have hB4 := below_app hB3 hI3 hgrow
                have hI4 : wn4.ownsRow wr.heap.size 3 1 (.slice sa4 sl4 sc4) ma ((s.at_.take 260).map encN) := by simpa using hown
                have hA4 := own_keep hA3 hI3 (by decide) hgrow
                clear hown hgrow hloc
                clear y_0 y_1 y_2 y_3
                have y_0 : wn4.cell? (x.add (i * 4)) = some (.int .i64 s.kind) := (hB4.cell (p := x.add (i * 4)) hxbb.out).trans z0.out
                have y_1 : wn4.cell? ⟨(x.add (i * 4)).block, (x.add (i * 4)).off + 1, none⟩ = some (.int .i64 s.k) := (hB4.cell (p := ⟨(x.add (i * 4)).block, (x.add (i * 4)).off + 1, none⟩) hxbb.out).trans z1.out
                have y_2 : wn4.cell? ⟨(x.add (i * 4)).block, (x.add (i * 4)).off + 2, none⟩ = some (.slice b1 s.bytes.length b3) := (hB4.cell (p := ⟨(x.add (i * 4)).block, (x.add (i * 4)).off + 2, none⟩) hxbb.out).trans z2.out
                have y_3 : wn4.cell? ⟨(x.add (i * 4)).block, (x.add (i * 4)).off + 3, none⟩ = some (.slice b4 s.at_.length b6) := (hB4.cell (p := ⟨(x.add (i * 4)).block, (x.add (i * 4)).off + 3, none⟩) hxbb.out).trans z3.out
                go_wp2
                refine hK _ _ ⟨?_, ?_⟩; (focus (simp only [ReAll, List.contains_cons, List.contains_nil, Nat.reduceBEq, Bool.or_true, Bool.true_or, Bool.or_false, if_true, Bool.false_eq_true, if_false, and_true, true_and] <;> repeat' (first | trivial | (refine And.intro ?_ ?_) | (unfold YA; go_big_quiet_op; rfl)))); clear hK K
                refine canm_pure ?_ (i := 40) (rest' := [.ef 41 [0, 1, 2, 3, 4, 5, 6, 7, 8, 9, 11, 12, 13, 14, 15, 16, 17, 18, 19, 20, 21, 22, 23, 26, 27, 28, 29, 30, 31, 32, 33, 34, 35, 36, 37, 38, 40], .ef 42 []]) (by kernel_rfl) rfl rfl (fun W K hK => ?_) ?_; rotate_left; (focus (go_big_quiet_op; exact hK))
                refine canm_ef (bs := [(41, [0, 1, 2, 3, 4, 5, 6, 7, 8, 9, 11, 12, 13, 14, 15, 16, 17, 18, 19, 20, 21, 22, 23, 26, 27, 28, 29, 30, 31, 32, 33, 34, 35, 36, 37, 38, 40], [.ef 42 []])]) (by kernel_rfl) ?_
                refine ⟨⟨_, rfl, fun K hK => ?_⟩, trivial⟩
                · obtain ⟨wn5, hwn⟩ : ∃ wn, wn = wn4.alloc (.cells #[.int .i64 0, .int .i64 0, .slice none 0 0, .slice none 0 0] 51) := ⟨_, rfl⟩
                  obtain ⟨p5, hgn⟩ : ∃ g, g = wn4.heap.size := ⟨_, rfl⟩
                  have hB5 : Below wr.heap.size wr wn5 := by rw [hwn]; exact hB4.alloc hB4.size _
                  have hP5 : BlkAt wn5 p5 [.int .i64 0, .int .i64 0, .slice none 0 0, .slice none 0 0] 51 ∧ wr.heap.size ≤ p5 := ⟨by rw [hwn, hgn]; exact BlkAt.new wn4 [.int .i64 0, .int .i64 0, .slice none 0 0, .slice none 0 0] _, by rw [hgn]; exact hB4.size⟩
                  have hQ5 := hP5.2
                  have hP5 := hP5.1
                  have hA5 := hA4.alloc (.cells #[.int .i64 0, .int .i64 0, .slice none 0 0, .slice none 0 0] 51)
                  rw [← hwn] at hA5
                  have hI5 := hI4.alloc (.cells #[.int .i64 0, .int .i64 0, .slice none 0 0, .slice none 0 0] 51)
                  rw [← hwn] at hI5
                  clear y_0 y_1 y_2 y_3
                  have y_0 : wn5.cell? (x.add (i * 4)) = some (.int .i64 s.kind) := (hB5.cell (p := x.add (i * 4)) hxbb.out).trans z0.out
                  have y_1 : wn5.cell? ⟨(x.add (i * 4)).block, (x.add (i * 4)).off + 1, none⟩ = some (.int .i64 s.k) := (hB5.cell (p := ⟨(x.add (i * 4)).block, (x.add (i * 4)).off + 1, none⟩) hxbb.out).trans z1.out
                  have y_2 : wn5.cell? ⟨(x.add (i * 4)).block, (x.add (i * 4)).off + 2, none⟩ = some (.slice b1 s.bytes.length b3) := (hB5.cell (p := ⟨(x.add (i * 4)).block, (x.add (i * 4)).off + 2, none⟩) hxbb.out).trans z2.out
                  have y_3 : wn5.cell? ⟨(x.add (i * 4)).block, (x.add (i * 4)).off + 3, none⟩ = some (.slice b4 s.at_.length b6) := (hB5.cell (p := ⟨(x.add (i * 4)).block, (x.add (i * 4)).off + 3, none⟩) hxbb.out).trans z3.out
                  go_wp2
                  rw [← hwn, ← hgn]
                  clear hwn hgn
                  refine hK _ _ ⟨?_, ?_⟩; (focus (simp only [ReAll, List.contains_cons, List.contains_nil, Nat.reduceBEq, Bool.or_true, Bool.true_or, Bool.or_false, if_true, Bool.false_eq_true, if_false, and_true, true_and] <;> repeat' (first | trivial | (refine And.intro ?_ ?_) | (unfold YA; go_big_quiet_op; rfl)))); clear hK K
                  refine canm_ef (bs := [(42, [], [])]) (by kernel_rfl) ?_
                  refine ⟨⟨_, rfl, fun K hK => ?_⟩, trivial⟩
                  · have cz0 := hP5.cell (j := 0) rfl
                    have fz0 := hP5.fr 0
                    have cz1 := hP5.cell (j := 1) rfl
                    have fz1 := hP5.fr 1
                    have cz2 := hP5.cell (j := 2) rfl
                    have fz2 := hP5.fr 2
                    have cz3 := hP5.cell (j := 3) rfl
                    have fz3 := hP5.fr 3
                    have hpl := hP5.lt
                    go_wp2
                    refine hK _ _ ⟨?_, ?_⟩; (focus (simp only [ReAll, List.contains_cons, List.contains_nil, Nat.reduceBEq, Bool.or_true, Bool.true_or, Bool.or_false, if_true, Bool.false_eq_true, if_false, and_true, true_and] <;> repeat' (first | trivial | (refine And.intro ?_ ?_) | (unfold YA; go_big_quiet_op; rfl)))); clear hK K
                    refine canm_nil ?_
                    go_wp2
                    go_meet
                    exact ⟨_, rfl, _, _, _, rfl, clone_end hB5 hQ5 hP5 hA5 hI5⟩
              · obtain ⟨wn7, hwn⟩ : ∃ wn, wn = wn3.alloc (.cells #[.int .i64 0, .int .i64 0, .slice none 0 0, .slice none 0 0] 51) := ⟨_, rfl⟩
                obtain ⟨p7, hgn⟩ : ∃ g, g = wn3.heap.size := ⟨_, rfl⟩
                have hB7 : Below wr.heap.size wr wn7 := by rw [hwn]; exact hB3.alloc hB3.size _
                have hP7 : BlkAt wn7 p7 [.int .i64 0, .int .i64 0, .slice none 0 0, .slice none 0 0] 51 ∧ wr.heap.size ≤ p7 := ⟨by rw [hwn, hgn]; exact BlkAt.new wn3 [.int .i64 0, .int .i64 0, .slice none 0 0, .slice none 0 0] _, by rw [hgn]; exact hB3.size⟩
                have hQ7 := hP7.2
                have hP7 := hP7.1
                have hA7 := hA3.alloc (.cells #[.int .i64 0, .int .i64 0, .slice none 0 0, .slice none 0 0] 51)
                rw [← hwn] at hA7
                have hI7 := hI3.alloc (.cells #[.int .i64 0, .int .i64 0, .slice none 0 0, .slice none 0 0] 51)
                rw [← hwn] at hI7
                clear y_0 y_1 y_2 y_3
                have y_0 : wn7.cell? (x.add (i * 4)) = some (.int .i64 s.kind) := (hB7.cell (p := x.add (i * 4)) hxbb.out).trans z0.out
                have y_1 : wn7.cell? ⟨(x.add (i * 4)).block, (x.add (i * 4)).off + 1, none⟩ = some (.int .i64 s.k) := (hB7.cell (p := ⟨(x.add (i * 4)).block, (x.add (i * 4)).off + 1, none⟩) hxbb.out).trans z1.out
                have y_2 : wn7.cell? ⟨(x.add (i * 4)).block, (x.add (i * 4)).off + 2, none⟩ = some (.slice b1 s.bytes.length b3) := (hB7.cell (p := ⟨(x.add (i * 4)).block, (x.add (i * 4)).off + 2, none⟩) hxbb.out).trans z2.out
                have y_3 : wn7.cell? ⟨(x.add (i * 4)).block, (x.add (i * 4)).off + 3, none⟩ = some (.slice b4 s.at_.length b6) := (hB7.cell (p := ⟨(x.add (i * 4)).block, (x.add (i * 4)).off + 3, none⟩) hxbb.out).trans z3.out
                go_wp2
                rw [← hwn, ← hgn]
                clear hwn hgn
                refine hK _ _ ⟨?_, ?_⟩; (focus (simp only [ReAll, List.contains_cons, List.contains_nil, Nat.reduceBEq, Bool.or_true, Bool.true_or, Bool.or_false, if_true, Bool.false_eq_true, if_false, and_true, true_and] <;> repeat' (first | trivial | (refine And.intro ?_ ?_) | (unfold YA; go_big_quiet_op; rfl)))); clear hK K
                refine canm_ef (bs := [(39, [0, 1, 2, 3, 4, 5, 6, 7, 8, 9], [.st 40 .pure, .ef 42 []])]) (by kernel_rfl) ?_
                refine ⟨⟨_, rfl, fun K hK => ?_⟩, trivial⟩
                · refine wpList_append_src rfl _ _ 49 rfl wr.heap.size 3 j0 _ 1 8 Tryd.underlying49 hj0 hj1 hj2 hj3 rfl (by decide) (.slice (some ⟨g3, 0, none⟩) 0 0) 0 [] rfl hI7 (.slice b4 ma b6) ma ((s.at_.take 260).map encN) rfl (srcAt_mem srcI.out (fun a v h => (hB7.cell (p := a) (lt_of_cell h)).trans h)) oneI.out (by unfold maxLen; omega) (by omega) hB7.size ?_
                  intro v' wn8 hown hgrow hloc
                  obtain ⟨sa8, sl8, sc8, rfl⟩ := ownsRow_slice hown
                  have hB8 := below_app hB7 hI7 hgrow
                  have hI8 : wn8.ownsRow wr.heap.size 3 1 (.slice sa8 sl8 sc8) ma ((s.at_.take 260).map encN) := by simpa using hown
                  have hA8 := own_keep hA7 hI7 (by decide) hgrow
                  have hP8 := blk_keep hP7 hI7 (by decide) hgrow
                  clear hown hgrow hloc
                  clear y_0 y_1 y_2 y_3
                  have y_0 : wn8.cell? (x.add (i * 4)) = some (.int .i64 s.kind) := (hB8.cell (p := x.add (i * 4)) hxbb.out).trans z0.out
                  have y_1 : wn8.cell? ⟨(x.add (i * 4)).block, (x.add (i * 4)).off + 1, none⟩ = some (.int .i64 s.k) := (hB8.cell (p := ⟨(x.add (i * 4)).block, (x.add (i * 4)).off + 1, none⟩) hxbb.out).trans z1.out
                  have y_2 : wn8.cell? ⟨(x.add (i * 4)).block, (x.add (i * 4)).off + 2, none⟩ = some (.slice b1 s.bytes.length b3) := (hB8.cell (p := ⟨(x.add (i * 4)).block, (x.add (i * 4)).off + 2, none⟩) hxbb.out).trans z2.out
                  have y_3 : wn8.cell? ⟨(x.add (i * 4)).block, (x.add (i * 4)).off + 3, none⟩ = some (.slice b4 s.at_.length b6) := (hB8.cell (p := ⟨(x.add (i * 4)).block, (x.add (i * 4)).off + 3, none⟩) hxbb.out).trans z3.out
                  go_wp2
                  refine hK _ _ ⟨?_, ?_⟩; (focus (simp only [ReAll, List.contains_cons, List.contains_nil, Nat.reduceBEq, Bool.or_true, Bool.true_or, Bool.or_false, if_true, Bool.false_eq_true, if_false, and_true, true_and] <;> repeat' (first | trivial | (refine And.intro ?_ ?_) | (unfold YA; go_big_quiet_op; rfl)))); clear hK K
                  refine canm_pure ?_ (i := 40) (rest' := [.ef 42 []]) (by kernel_rfl) rfl rfl (fun W K hK => ?_) ?_; rotate_left; (focus (go_big_quiet_op; exact hK))
                  refine canm_ef (bs := [(42, [], [])]) (by kernel_rfl) ?_
                  refine ⟨⟨_, rfl, fun K hK => ?_⟩, trivial⟩
                  · have cz0 := hP8.cell (j := 0) rfl
                    have fz0 := hP8.fr 0
                    have cz1 := hP8.cell (j := 1) rfl
                    have fz1 := hP8.fr 1
                    have cz2 := hP8.cell (j := 2) rfl
                    have fz2 := hP8.fr 2
                    have cz3 := hP8.cell (j := 3) rfl
                    have fz3 := hP8.fr 3
                    have hpl := hP8.lt
                    go_wp2
                    refine hK _ _ ⟨?_, ?_⟩; (focus (simp only [ReAll, List.contains_cons, List.contains_nil, Nat.reduceBEq, Bool.or_true, Bool.true_or, Bool.or_false, if_true, Bool.false_eq_true, if_false, and_true, true_and] <;> repeat' (first | trivial | (refine And.intro ?_ ?_) | (unfold YA; go_big_quiet_op; rfl)))); clear hK K
                    refine canm_nil ?_
                    go_wp2
                    go_meet
                    exact ⟨_, rfl, _, _, _, rfl, clone_end hB8 hQ7 hP8 hA8 hI8⟩
            · obtain ⟨wn10, hwn⟩ : ∃ wn, wn = wn2.alloc (.cells #[.int .i64 0, .int .i64 0, .slice none 0 0, .slice none 0 0] 51) := ⟨_, rfl⟩
              obtain ⟨p10, hgn⟩ : ∃ g, g = wn2.heap.size := ⟨_, rfl⟩
              have hB10 : Below wr.heap.size wr wn10 := by rw [hwn]; exact hB2.alloc hB2.size _
              have hP10 : BlkAt wn10 p10 [.int .i64 0, .int .i64 0, .slice none 0 0, .slice none 0 0] 51 ∧ wr.heap.size ≤ p10 := ⟨by rw [hwn, hgn]; exact BlkAt.new wn2 [.int .i64 0, .int .i64 0, .slice none 0 0, .slice none 0 0] _, by rw [hgn]; exact hB2.size⟩
              have hQ10 := hP10.2
              have hP10 := hP10.1
              have hA10 := hA2.alloc (.cells #[.int .i64 0, .int .i64 0, .slice none 0 0, .slice none 0 0] 51)
              rw [← hwn] at hA10
              clear y_0 y_1 y_2 y_3
              have y_0 : wn10.cell? (x.add (i * 4)) = some (.int .i64 s.kind) := (hB10.cell (p := x.add (i * 4)) hxbb.out).trans z0.out
              have y_1 : wn10.cell? ⟨(x.add (i * 4)).block, (x.add (i * 4)).off + 1, none⟩ = some (.int .i64 s.k) := (hB10.cell (p := ⟨(x.add (i * 4)).block, (x.add (i * 4)).off + 1, none⟩) hxbb.out).trans z1.out
              have y_2 : wn10.cell? ⟨(x.add (i * 4)).block, (x.add (i * 4)).off + 2, none⟩ = some (.slice b1 s.bytes.length b3) := (hB10.cell (p := ⟨(x.add (i * 4)).block, (x.add (i * 4)).off + 2, none⟩) hxbb.out).trans z2.out
              have y_3 : wn10.cell? ⟨(x.add (i * 4)).block, (x.add (i * 4)).off + 3, none⟩ = some (.slice b4 s.at_.length b6) := (hB10.cell (p := ⟨(x.add (i * 4)).block, (x.add (i * 4)).off + 3, none⟩) hxbb.out).trans z3.out
              go_wp2
              rw [← hwn, ← hgn]
              clear hwn hgn
              refine hK _ _ ⟨?_, ?_⟩; (focus (simp only [ReAll, List.contains_cons, List.contains_nil, Nat.reduceBEq, Bool.or_true, Bool.true_or, Bool.or_false, if_true, Bool.false_eq_true, if_false, and_true, true_and] <;> repeat' (first | trivial | (refine And.intro ?_ ?_) | (unfold YA; go_big_quiet_op; rfl)))); clear hK K
              refine canm_ef (bs := [(25, [0, 1, 2, 3, 4, 5, 6, 7, 8, 9, 11, 12, 13, 14, 15, 16, 17, 18, 19, 20, 21, 22, 23, 26, 27, 28, 29, 30, 31, 32, 33, 34, 35, 36, 37, 38], [.ef 39 [0, 1, 2, 3, 4, 5, 6, 7, 8, 9], .st 40 .pure, .ef 42 []])]) (by kernel_rfl) ?_
              refine ⟨⟨_, rfl, fun K hK => ?_⟩, trivial⟩
              · obtain ⟨wn11, hwn⟩ : ∃ wn, wn = wn10.alloc (.cells #[] 3) := ⟨_, rfl⟩
                obtain ⟨g11, hgn⟩ : ∃ g, g = wn10.heap.size := ⟨_, rfl⟩
                have hB11 : Below wr.heap.size wr wn11 := by rw [hwn]; exact hB10.alloc hB10.size _
                have hI11 : wn11.ownsRow wr.heap.size 3 1 (.slice (some ⟨g11, 0, none⟩) 0 0) 0 [] := by rw [hwn, hgn]; exact own_empty wn10 _ _ hB10.size
                have hA11 := hA10.alloc (.cells #[] 3)
                rw [← hwn] at hA11
                have hP11 := hP10.block (Below.heap_alloc wn10 (.cells #[] 3) _ hP10.lt)
                rw [← hwn] at hP11
                clear y_0 y_1 y_2 y_3
                have y_0 : wn11.cell? (x.add (i * 4)) = some (.int .i64 s.kind) := (hB11.cell (p := x.add (i * 4)) hxbb.out).trans z0.out
                have y_1 : wn11.cell? ⟨(x.add (i * 4)).block, (x.add (i * 4)).off + 1, none⟩ = some (.int .i64 s.k) := (hB11.cell (p := ⟨(x.add (i * 4)).block, (x.add (i * 4)).off + 1, none⟩) hxbb.out).trans z1.out
                have y_2 : wn11.cell? ⟨(x.add (i * 4)).block, (x.add (i * 4)).off + 2, none⟩ = some (.slice b1 s.bytes.length b3) := (hB11.cell (p := ⟨(x.add (i * 4)).block, (x.add (i * 4)).off + 2, none⟩) hxbb.out).trans z2.out
                have y_3 : wn11.cell? ⟨(x.add (i * 4)).block, (x.add (i * 4)).off + 3, none⟩ = some (.slice b4 s.at_.length b6) := (hB11.cell (p := ⟨(x.add (i * 4)).block, (x.add (i * 4)).off + 3, none⟩) hxbb.out).trans z3.out
                go_wp2
                rw [← hwn, ← hgn]
                clear hwn hgn
                refine hK _ _ ⟨?_, ?_⟩; (focus (simp only [ReAll, List.contains_cons, List.contains_nil, Nat.reduceBEq, Bool.or_true, Bool.true_or, Bool.or_false, if_true, Bool.false_eq_true, if_false, and_true, true_and] <;> repeat' (first | trivial | (refine And.intro ?_ ?_) | (unfold YA; go_big_quiet_op; rfl)))); clear hK K
                refine canm_ef (bs := [(39, [0, 1, 2, 3, 4, 5, 6, 7, 8, 9], [.st 40 .pure, .ef 42 []])]) (by kernel_rfl) ?_
                refine ⟨⟨_, rfl, fun K hK => ?_⟩, trivial⟩
                · refine wpList_append_src rfl _ _ 49 rfl wr.heap.size 3 j0 _ 1 8 Tryd.underlying49 hj0 hj1 hj2 hj3 rfl (by decide) (.slice (some ⟨g11, 0, none⟩) 0 0) 0 [] rfl hI11 (.slice b4 ma b6) ma ((s.at_.take 260).map encN) rfl (srcAt_mem srcI.out (fun a v h => (hB11.cell (p := a) (lt_of_cell h)).trans h)) oneI.out (by unfold maxLen; omega) (by omega) hB11.size ?_
                  intro v' wn12 hown hgrow hloc
                  obtain ⟨sa12, sl12, sc12, rfl⟩ := ownsRow_slice hown
                  have hB12 := below_app hB11 hI11 hgrow
                  have hI12 : wn12.ownsRow wr.heap.size 3 1 (.slice sa12 sl12 sc12) ma ((s.at_.take 260).map encN) := by simpa using hown
                  have hA12 := own_keep hA11 hI11 (by decide) hgrow
                  have hP12 := blk_keep hP11 hI11 (by decide) hgrow
                  clear hown hgrow hloc
                  clear y_0 y_1 y_2 y_3
                  have y_0 : wn12.cell? (x.add (i * 4)) = some (.int .i64 s.kind) := (hB12.cell (p := x.add (i * 4)) hxbb.out).trans z0.out
                  have y_1 : wn12.cell? ⟨(x.add (i * 4)).block, (x.add (i * 4)).off + 1, none⟩ = some (.int .i64 s.k) := (hB12.cell (p := ⟨(x.add (i * 4)).block, (x.add (i * 4)).off + 1, none⟩) hxbb.out).trans z1.out
                  have y_2 : wn12.cell? ⟨(x.add (i * 4)).block, (x.add (i * 4)).off + 2, none⟩ = some (.slice b1 s.bytes.length b3) := (hB12.cell (p := ⟨(x.add (i * 4)).block, (x.add (i * 4)).off + 2, none⟩) hxbb.out).trans z2.out
                  have y_3 : wn12.cell? ⟨(x.add (i * 4)).block, (x.add (i * 4)).off + 3, none⟩ = some (.slice b4 s.at_.length b6) := (hB12.cell (p := ⟨(x.add (i * 4)).block, (x.add (i * 4)).off + 3, none⟩) hxbb.out).trans z3.out
                  go_wp2
                  refine hK _ _ ⟨?_, ?_⟩; (focus (simp only [ReAll, List.contains_cons, List.contains_nil, Nat.reduceBEq, Bool.or_true, Bool.true_or, Bool.or_false, if_true, Bool.false_eq_true, if_false, and_true, true_and] <;> repeat' (first | trivial | (refine And.intro ?_ ?_) | (unfold YA; go_big_quiet_op; rfl)))); clear hK K
                  refine canm_pure ?_ (i := 40) (rest' := [.ef 42 []]) (by kernel_rfl) rfl rfl (fun W K hK => ?_) ?_; rotate_left; (focus (go_big_quiet_op; exact hK))
                  refine canm_ef (bs := [(42, [], [])]) (by kernel_rfl) ?_
                  refine ⟨⟨_, rfl, fun K hK => ?_⟩, trivial⟩
                  · have cz0 := hP12.cell (j := 0) rfl
                    have fz0 := hP12.fr 0
                    have cz1 := hP12.cell (j := 1) rfl
                    have fz1 := hP12.fr 1
                    have cz2 := hP12.cell (j := 2) rfl
                    have fz2 := hP12.fr 2
                    have cz3 := hP12.cell (j := 3) rfl
                    have fz3 := hP12.fr 3
                    have hpl := hP12.lt
                    go_wp2
                    refine hK _ _ ⟨?_, ?_⟩; (focus (simp only [ReAll, List.contains_cons, List.contains_nil, Nat.reduceBEq, Bool.or_true, Bool.true_or, Bool.or_false, if_true, Bool.false_eq_true, if_false, and_true, true_and] <;> repeat' (first | trivial | (refine And.intro ?_ ?_) | (unfold YA; go_big_quiet_op; rfl)))); clear hK K
                    refine canm_nil ?_
                    go_wp2
                    go_meet
                    exact ⟨_, rfl, _, _, _, rfl, clone_end hB12 hQ10 hP12 hA12 hI12⟩
          · obtain ⟨wn14, hwn⟩ : ∃ wn, wn = wn1.alloc (.cells #[] 3) := ⟨_, rfl⟩
            obtain ⟨g14, hgn⟩ : ∃ g, g = wn1.heap.size := ⟨_, rfl⟩
            have hB14 : Below wr.heap.size wr wn14 := by rw [hwn]; exact hB1.alloc hB1.size _
            have hI14 : wn14.ownsRow wr.heap.size 3 1 (.slice (some ⟨g14, 0, none⟩) 0 0) 0 [] := by rw [hwn, hgn]; exact own_empty wn1 _ _ hB1.size
            have hA14 := hA1.alloc (.cells #[] 3)
            rw [← hwn] at hA14
            clear y_0 y_1 y_2 y_3
            have y_0 : wn14.cell? (x.add (i * 4)) = some (.int .i64 s.kind) := (hB14.cell (p := x.add (i * 4)) hxbb.out).trans z0.out
            have y_1 : wn14.cell? ⟨(x.add (i * 4)).block, (x.add (i * 4)).off + 1, none⟩ = some (.int .i64 s.k) := (hB14.cell (p := ⟨(x.add (i * 4)).block, (x.add (i * 4)).off + 1, none⟩) hxbb.out).trans z1.out
            have y_2 : wn14.cell? ⟨(x.add (i * 4)).block, (x.add (i * 4)).off + 2, none⟩ = some (.slice b1 s.bytes.length b3) := (hB14.cell (p := ⟨(x.add (i * 4)).block, (x.add (i * 4)).off + 2, none⟩) hxbb.out).trans z2.out
            have y_3 : wn14.cell? ⟨(x.add (i * 4)).block, (x.add (i * 4)).off + 3, none⟩ = some (.slice b4 s.at_.length b6) := (hB14.cell (p := ⟨(x.add (i * 4)).block, (x.add (i * 4)).off + 3, none⟩) hxbb.out).trans z3.out
            go_wp2
            rw [← hwn, ← hgn]
            clear hwn hgn
            refine hK _ _ ⟨?_, ?_⟩; (focus (simp only [ReAll, List.contains_cons, List.contains_nil, Nat.reduceBEq, Bool.or_true, Bool.true_or, Bool.or_false, if_true, Bool.false_eq_true, if_false, and_true, true_and] <;> repeat' (first | trivial | (refine And.intro ?_ ?_) | (unfold YA; go_big_quiet_op; rfl)))); clear hK K
            refine canm_ef (bs := [(24, [0, 1, 2, 3, 4, 5, 6, 7, 8, 9, 26, 27, 28, 29, 30, 31, 32, 33, 34, 35, 36, 37, 38], [.ef 39 [0, 1, 2, 3, 4, 5, 6, 7, 8, 9], .st 40 .pure, .ef 41 [0, 1, 2, 3, 4, 5, 6, 7, 8, 9, 11, 12, 13, 14, 15, 16, 17, 18, 19, 20, 21, 22, 23, 26, 27, 28, 29, 30, 31, 32, 33, 34, 35, 36, 37, 38, 40], .ef 42 []]), (41, [0, 1, 2, 3, 4, 5, 6, 7, 8, 9, 11, 12, 13, 14, 15, 16, 17, 18, 19, 20, 21, 22, 23, 26, 27, 28, 29, 30, 31, 32, 33, 34, 35, 36, 37, 38, 40], [.ef 24 [0, 1, 2, 3, 4, 5, 6, 7, 8, 9, 26, 27, 28, 29, 30, 31, 32, 33, 34, 35, 36, 37, 38], .ef 39 [0, 1, 2, 3, 4, 5, 6, 7, 8, 9], .st 40 .pure, .ef 42 []])]) (by kernel_rfl) ?_
            refine ⟨⟨_, rfl, fun K hK => ?_⟩, ⟨_, rfl, fun K hK => ?_⟩, trivial⟩
            · refine wpList_append_src rfl _ _ 28 rfl wr.heap.size 5 i0 _ 1 1 Tryd.underlying28 hi hi0 hi1 hi2 rfl (by decide) (.slice (some ⟨g1, 0, none⟩) 0 0) 0 [] rfl hA14 (.slice b1 mb b3) mb (rowB (s.bytes.take 260)) rfl (srcAt_mem srcB.out (fun a v h => (hB14.cell (p := a) (lt_of_cell h)).trans h)) oneB.out (by unfold maxLen; omega) (by omega) hB14.size ?_
              intro v' wn15 hown hgrow hloc
              obtain ⟨sa15, sl15, sc15, rfl⟩ := ownsRow_slice hown
              have hB15 := below_app hB14 hA14 hgrow
              have hA15 : wn15.ownsRow wr.heap.size 5 1 (.slice sa15 sl15 sc15) mb (rowB (s.bytes.take 260)) := by simpa using hown
              have hI15 := own_keep hI14 hA14 (by decide) hgrow
              clear hown hgrow hloc
              clear y_0 y_1 y_2 y_3
              have y_0 : wn15.cell? (x.add (i * 4)) = some (.int .i64 s.kind) := (hB15.cell (p := x.add (i * 4)) hxbb.out).trans z0.out
              have y_1 : wn15.cell? ⟨(x.add (i * 4)).block, (x.add (i * 4)).off + 1, none⟩ = some (.int .i64 s.k) := (hB15.cell (p := ⟨(x.add (i * 4)).block, (x.add (i * 4)).off + 1, none⟩) hxbb.out).trans z1.out
              have y_2 : wn15.cell? ⟨(x.add (i * 4)).block, (x.add (i * 4)).off + 2, none⟩ = some (.slice b1 s.bytes.length b3) := (hB15.cell (p := ⟨(x.add (i * 4)).block, (x.add (i * 4)).off + 2, none⟩) hxbb.out).trans z2.out
              have y_3 : wn15.cell? ⟨(x.add (i * 4)).block, (x.add (i * 4)).off + 3, none⟩ = some (.slice b4 s.at_.length b6) := (hB15.cell (p := ⟨(x.add (i * 4)).block, (x.add (i * 4)).off + 3, none⟩) hxbb.out).trans z3.out
              go_wp2
              refine hK _ _ ⟨?_, ?_⟩; (focus (simp only [ReAll, List.contains_cons, List.contains_nil, Nat.reduceBEq, Bool.or_true, Bool.true_or, Bool.or_false, if_true, Bool.false_eq_true, if_false, and_true, true_and] <;> repeat' (first | trivial | (refine And.intro ?_ ?_) | (unfold YA; go_big_quiet_op; rfl)))); clear hK K
              refine canm_ef (bs := [(39, [0, 1, 2, 3, 4, 5, 6, 7, 8, 9], [.st 40 .pure, .ef 41 [0, 1, 2, 3, 4, 5, 6, 7, 8, 9, 11, 12, 13, 14, 15, 16, 17, 18, 19, 20, 21, 22, 23, 26, 27, 28, 29, 30, 31, 32, 33, 34, 35, 36, 37, 38, 40], .ef 42 []]), (41, [0, 1, 2, 3, 4, 5, 6, 7, 8, 9, 11, 12, 13, 14, 15, 16, 17, 18, 19, 20, 21, 22, 23, 26, 27, 28, 29, 30, 31, 32, 33, 34, 35, 36, 37, 38, 40], [.ef 39 [0, 1, 2, 3, 4, 5, 6, 7, 8, 9], .st 40 .pure, .ef 42 []])]) (by kernel_rfl) ?_
              refine ⟨⟨_, rfl, fun K hK => ?_⟩, ⟨_, rfl, fun K hK => ?_⟩, trivial⟩
              · refine wpList_append_src rfl _ _ 49 rfl wr.heap.size 3 j0 _ 1 8 Tryd.underlying49 hj0 hj1 hj2 hj3 rfl (by decide) (.slice (some ⟨g14, 0, none⟩) 0 0) 0 [] rfl hI15 (.slice b4 ma b6) ma ((s.at_.take 260).map encN) rfl (srcAt_mem srcI.out (fun a v h => (hB15.cell (p := a) (lt_of_cell h)).trans h)) oneI.out (by unfold maxLen; omega) (by omega) hB15.size ?_
                intro v' wn16 hown hgrow hloc
                obtain ⟨sa16, sl16, sc16, rfl⟩ := ownsRow_slice hown
                have hB16 := below_app hB15 hI15 hgrow
                have hI16 : wn16.ownsRow wr.heap.size 3 1 (.slice sa16 sl16 sc16) ma ((s.at_.take 260).map encN) := by simpa using hown
                have hA16 := own_keep hA15 hI15 (by decide) hgrow
                clear hown hgrow hloc
                clear y_0 y_1 y_2 y_3
                have y_0 : wn16.cell? (x.add (i * 4)) = some (.int .i64 s.kind) := (hB16.cell (p := x.add (i * 4)) hxbb.out).trans z0.out
                have y_1 : wn16.cell? ⟨(x.add (i * 4)).block, (x.add (i * 4)).off + 1, none⟩ = some (.int .i64 s.k) := (hB16.cell (p := ⟨(x.add (i * 4)).block, (x.add (i * 4)).off + 1, none⟩) hxbb.out).trans z1.out
                have y_2 : wn16.cell? ⟨(x.add (i * 4)).block, (x.add (i * 4)).off + 2, none⟩ = some (.slice b1 s.bytes.length b3) := (hB16.cell (p := ⟨(x.add (i * 4)).block, (x.add (i * 4)).off + 2, none⟩) hxbb.out).trans z2.out
                have y_3 : wn16.cell? ⟨(x.add (i * 4)).block, (x.add (i * 4)).off + 3, none⟩ = some (.slice b4 s.at_.length b6) := (hB16.cell (p := ⟨(x.add (i * 4)).block, (x.add (i * 4)).off + 3, none⟩) hxbb.out).trans z3.out
                go_wp2
                refine hK _ _ ⟨?_, ?_⟩; (focus (simp only [ReAll, List.contains_cons, List.contains_nil, Nat.reduceBEq, Bool.or_true, Bool.true_or, Bool.or_false, if_true, Bool.false_eq_true, if_false, and_true, true_and] <;> repeat' (first | trivial | (refine And.intro ?_ ?_) | (unfold YA; go_big_quiet_op; rfl)))); clear hK K
                refine canm_pure ?_ (i := 40) (rest' := [.ef 41 [0, 1, 2, 3, 4, 5, 6, 7, 8, 9, 11, 12, 13, 14, 15, 16, 17, 18, 19, 20, 21, 22, 23, 26, 27, 28, 29, 30, 31, 32, 33, 34, 35, 36, 37, 38, 40], .ef 42 []]) (by kernel_rfl) rfl rfl (fun W K hK => ?_) ?_; rotate_left; (focus (go_big_quiet_op; exact hK))
                refine canm_ef (bs := [(41, [0, 1, 2, 3, 4, 5, 6, 7, 8, 9, 11, 12, 13, 14, 15, 16, 17, 18, 19, 20, 21, 22, 23, 26, 27, 28, 29, 30, 31, 32, 33, 34, 35, 36, 37, 38, 40], [.ef 42 []])]) (by kernel_rfl) ?_
                refine ⟨⟨_, rfl, fun K hK => ?_⟩, trivial⟩
                · obtain ⟨wn17, hwn⟩ : ∃ wn, wn = wn16.alloc (.cells #[.int .i64 0, .int .i64 0, .slice none 0 0, .slice none 0 0] 51) := ⟨_, rfl⟩
                  obtain ⟨p17, hgn⟩ : ∃ g, g = wn16.heap.size := ⟨_, rfl⟩
                  have hB17 : Below wr.heap.size wr wn17 := by rw [hwn]; exact hB16.alloc hB16.size _
                  have hP17 : BlkAt wn17 p17 [.int .i64 0, .int .i64 0, .slice none 0 0, .slice none 0 0] 51 ∧ wr.heap.size ≤ p17 := ⟨by rw [hwn, hgn]; exact BlkAt.new wn16 [.int .i64 0, .int .i64 0, .slice none 0 0, .slice none 0 0] _, by rw [hgn]; exact hB16.size⟩
                  have hQ17 := hP17.2
                  have hP17 := hP17.1
                  have hA17 := hA16.alloc (.cells #[.int .i64 0, .int .i64 0, .slice none 0 0, .slice none 0 0] 51)
                  rw [← hwn] at hA17
                  have hI17 := hI16.alloc (.cells #[.int .i64 0, .int .i64 0, .slice none 0 0, .slice none 0 0] 51)
                  rw [← hwn] at hI17
                  clear y_0 y_1 y_2 y_3
                  have y_0 : wn17.cell? (x.add (i * 4)) = some (.int .i64 s.kind) := (hB17.cell (p := x.add (i * 4)) hxbb.out).trans z0.out
                  have y_1 : wn17.cell? ⟨(x.add (i * 4)).block, (x.add (i * 4)).off + 1, none⟩ = some (.int .i64 s.k) := (hB17.cell (p := ⟨(x.add (i * 4)).block, (x.add (i * 4)).off + 1, none⟩) hxbb.out).trans z1.out
                  have y_2 : wn17.cell? ⟨(x.add (i * 4)).block, (x.add (i * 4)).off + 2, none⟩ = some (.slice b1 s.bytes.length b3) := (hB17.cell (p := ⟨(x.add (i * 4)).block, (x.add (i * 4)).off + 2, none⟩) hxbb.out).trans z2.out
                  have y_3 : wn17.cell? ⟨(x.add (i * 4)).block, (x.add (i * 4)).off + 3, none⟩ = some (.slice b4 s.at_.length b6) := (hB17.cell (p := ⟨(x.add (i * 4)).block, (x.add (i * 4)).off + 3, none⟩) hxbb.out).trans z3.out
                  go_wp2
                  rw [← hwn, ← hgn]
                  clear hwn hgn
                  refine hK _ _ ⟨?_, ?_⟩; (focus (simp only [ReAll, List.contains_cons, List.contains_nil, Nat.reduceBEq, Bool.or_true, Bool.true_or, Bool.or_false, if_true, Bool.false_eq_true, if_false, and_true, true_and] <;> repeat' (first | trivial | (refine And.intro ?_ ?_) | (unfold YA; go_big_quiet_op; rfl)))); clear hK K
                  refine canm_ef (bs := [(42, [], [])]) (by kernel_rfl) ?_
                  refine ⟨⟨_, rfl, fun K hK => ?_⟩, trivial⟩
                  · have cz0 := hP17.cell (j := 0) rfl
                    have fz0 := hP17.fr 0
                    have cz1 := hP17.cell (j := 1) rfl
                    have fz1 := hP17.fr 1
                    have cz2 := hP17.cell (j := 2) rfl
                    have fz2 := hP17.fr 2
                    have cz3 := hP17.cell (j := 3) rfl
                    have fz3 := hP17.fr 3
                    have hpl := hP17.lt
                    go_wp2
                    refine hK _ _ ⟨?_, ?_⟩; (focus (simp only [ReAll, List.contains_cons, List.contains_nil, Nat.reduceBEq, Bool.or_true, Bool.true_or, Bool.or_false, if_true, Bool.false_eq_true, if_false, and_true, true_and] <;> repeat' (first | trivial | (refine And.intro ?_ ?_) | (unfold YA; go_big_quiet_op; rfl)))); clear hK K
                    refine canm_nil ?_
                    go_wp2
                    go_meet
                    exact ⟨_, rfl, _, _, _, rfl, clone_end hB17 hQ17 hP17 hA17 hI17⟩
              · obtain ⟨wn19, hwn⟩ : ∃ wn, wn = wn15.alloc (.cells #[.int .i64 0, .int .i64 0, .slice none 0 0, .slice none 0 0] 51) := ⟨_, rfl⟩
                obtain ⟨p19, hgn⟩ : ∃ g, g = wn15.heap.size := ⟨_, rfl⟩
                have hB19 : Below wr.heap.size wr wn19 := by rw [hwn]; exact hB15.alloc hB15.size _
                have hP19 : BlkAt wn19 p19 [.int .i64 0, .int .i64 0, .slice none 0 0, .slice none 0 0] 51 ∧ wr.heap.size ≤ p19 := ⟨by rw [hwn, hgn]; exact BlkAt.new wn15 [.int .i64 0, .int .i64 0, .slice none 0 0, .slice none 0 0] _, by rw [hgn]; exact hB15.size⟩
                have hQ19 := hP19.2
                have hP19 := hP19.1
                have hA19 := hA15.alloc (.cells #[.int .i64 0, .int .i64 0, .slice none 0 0, .slice none 0 0] 51)
                rw [← hwn] at hA19
                have hI19 := hI15.alloc (.cells #[.int .i64 0, .int .i64 0, .slice none 0 0, .slice none 0 0] 51)
                rw [← hwn] at hI19
                clear y_0 y_1 y_2 y_3
                have y_0 : wn19.cell? (x.add (i * 4)) = some (.int .i64 s.kind) := (hB19.cell (p := x.add (i * 4)) hxbb.out).trans z0.out
                have y_1 : wn19.cell? ⟨(x.add (i * 4)).block, (x.add (i * 4)).off + 1, none⟩ = some (.int .i64 s.k) := (hB19.cell (p := ⟨(x.add (i * 4)).block, (x.add (i * 4)).off + 1, none⟩) hxbb.out).trans z1.out
                have y_2 : wn19.cell? ⟨(x.add (i * 4)).block, (x.add (i * 4)).off + 2, none⟩ = some (.slice b1 s.bytes.length b3) := (hB19.cell (p := ⟨(x.add (i * 4)).block, (x.add (i * 4)).off + 2, none⟩) hxbb.out).trans z2.out
                have y_3 : wn19.cell? ⟨(x.add (i * 4)).block, (x.add (i * 4)).off + 3, none⟩ = some (.slice b4 s.at_.length b6) := (hB19.cell (p := ⟨(x.add (i * 4)).block, (x.add (i * 4)).off + 3, none⟩) hxbb.out).trans z3.out
                go_wp2
                rw [← hwn, ← hgn]
                clear hwn hgn
                refine hK _ _ ⟨?_, ?_⟩; (focus (simp only [ReAll, List.contains_cons, List.contains_nil, Nat.reduceBEq, Bool.or_true, Bool.true_or, Bool.or_false, if_true, Bool.false_eq_true, if_false, and_true, true_and] <;> repeat' (first | trivial | (refine And.intro ?_ ?_) | (unfold YA; go_big_quiet_op; rfl)))); clear hK K
                refine canm_ef (bs := [(39, [0, 1, 2, 3, 4, 5, 6, 7, 8, 9], [.st 40 .pure, .ef 42 []])]) (by kernel_rfl) ?_
                refine ⟨⟨_, rfl, fun K hK => ?_⟩, trivial⟩
                · refine wpList_append_src rfl _ _ 49 rfl wr.heap.size 3 j0 _ 1 8 Tryd.underlying49 hj0 hj1 hj2 hj3 rfl (by decide) (.slice (some ⟨g14, 0, none⟩) 0 0) 0 [] rfl hI19 (.slice b4 ma b6) ma ((s.at_.take 260).map encN) rfl (srcAt_mem srcI.out (fun a v h => (hB19.cell (p := a) (lt_of_cell h)).trans h)) oneI.out (by unfold maxLen; omega) (by omega) hB19.size ?_
                  intro v' wn20 hown hgrow hloc
                  obtain ⟨sa20, sl20, sc20, rfl⟩ := ownsRow_slice hown
                  have hB20 := below_app hB19 hI19 hgrow
                  have hI20 : wn20.ownsRow wr.heap.size 3 1 (.slice sa20 sl20 sc20) ma ((s.at_.take 260).map encN) := by simpa using hown
                  have hA20 := own_keep hA19 hI19 (by decide) hgrow
                  have hP20 := blk_keep hP19 hI19 (by decide) hgrow
                  clear hown hgrow hloc
                  clear y_0 y_1 y_2 y_3
                  have y_0 : wn20.cell? (x.add (i * 4)) = some (.int .i64 s.kind) := (hB20.cell (p := x.add (i * 4)) hxbb.out).trans z0.out
                  have y_1 : wn20.cell? ⟨(x.add (i * 4)).block, (x.add (i * 4)).off + 1, none⟩ = some (.int .i64 s.k) := (hB20.cell (p := ⟨(x.add (i * 4)).block, (x.add (i * 4)).off + 1, none⟩) hxbb.out).trans z1.out
                  have y_2 : wn20.cell? ⟨(x.add (i * 4)).block, (x.add (i * 4)).off + 2, none⟩ = some (.slice b1 s.bytes.length b3) := (hB20.cell (p := ⟨(x.add (i * 4)).block, (x.add (i * 4)).off + 2, none⟩) hxbb.out).trans z2.out
                  have y_3 : wn20.cell? ⟨(x.add (i * 4)).block, (x.add (i * 4)).off + 3, none⟩ = some (.slice b4 s.at_.length b6) := (hB20.cell (p := ⟨(x.add (i * 4)).block, (x.add (i * 4)).off + 3, none⟩) hxbb.out).trans z3.out
                  go_wp2
                  refine hK _ _ ⟨?_, ?_⟩; (focus (simp only [ReAll, List.contains_cons, List.contains_nil, Nat.reduceBEq, Bool.or_true, Bool.true_or, Bool.or_false, if_true, Bool.false_eq_true, if_false, and_true, true_and] <;> repeat' (first | trivial | (refine And.intro ?_ ?_) | (unfold YA; go_big_quiet_op; rfl)))); clear hK K
                  refine canm_pure ?_ (i := 40) (rest' := [.ef 42 []]) (by kernel_rfl) rfl rfl (fun W K hK => ?_) ?_; rotate_left; (focus (go_big_quiet_op; exact hK))
                  refine canm_ef (bs := [(42, [], [])]) (by kernel_rfl) ?_
                  refine ⟨⟨_, rfl, fun K hK => ?_⟩, trivial⟩
                  · have cz0 := hP20.cell (j := 0) rfl
                    have fz0 := hP20.fr 0
                    have cz1 := hP20.cell (j := 1) rfl
                    have fz1 := hP20.fr 1
                    have cz2 := hP20.cell (j := 2) rfl
                    have fz2 := hP20.fr 2
                    have cz3 := hP20.cell (j := 3) rfl
                    have fz3 := hP20.fr 3
                    have hpl := hP20.lt
                    go_wp2
                    refine hK _ _ ⟨?_, ?_⟩; (focus (simp only [ReAll, List.contains_cons, List.contains_nil, Nat.reduceBEq, Bool.or_true, Bool.true_or, Bool.or_false, if_true, Bool.false_eq_true, if_false, and_true, true_and] <;> repeat' (first | trivial | (refine And.intro ?_ ?_) | (unfold YA; go_big_quiet_op; rfl)))); clear hK K
                    refine canm_nil ?_
                    go_wp2
                    go_meet
                    exact ⟨_, rfl, _, _, _, rfl, clone_end hB20 hQ19 hP20 hA20 hI20⟩
            · obtain ⟨wn22, hwn⟩ : ∃ wn, wn = wn14.alloc (.cells #[.int .i64 0, .int .i64 0, .slice none 0 0, .slice none 0 0] 51) := ⟨_, rfl⟩
              obtain ⟨p22, hgn⟩ : ∃ g, g = wn14.heap.size := ⟨_, rfl⟩
              have hB22 : Below wr.heap.size wr wn22 := by rw [hwn]; exact hB14.alloc hB14.size _
              have hP22 : BlkAt wn22 p22 [.int .i64 0, .int .i64 0, .slice none 0 0, .slice none 0 0] 51 ∧ wr.heap.size ≤ p22 := ⟨by rw [hwn, hgn]; exact BlkAt.new wn14 [.int .i64 0, .int .i64 0, .slice none 0 0, .slice none 0 0] _, by rw [hgn]; exact hB14.size⟩
              have hQ22 := hP22.2
              have hP22 := hP22.1
              have hA22 := hA14.alloc (.cells #[.int .i64 0, .int .i64 0, .slice none 0 0, .slice none 0 0] 51)
              rw [← hwn] at hA22
              have hI22 := hI14.alloc (.cells #[.int .i64 0, .int .i64 0, .slice none 0 0, .slice none 0 0] 51)
              rw [← hwn] at hI22
              clear y_0 y_1 y_2 y_3
              have y_0 : wn22.cell? (x.add (i * 4)) = some (.int .i64 s.kind) := (hB22.cell (p := x.add (i * 4)) hxbb.out).trans z0.out
              have y_1 : wn22.cell? ⟨(x.add (i * 4)).block, (x.add (i * 4)).off + 1, none⟩ = some (.int .i64 s.k) := (hB22.cell (p := ⟨(x.add (i * 4)).block, (x.add (i * 4)).off + 1, none⟩) hxbb.out).trans z1.out
              have y_2 : wn22.cell? ⟨(x.add (i * 4)).block, (x.add (i * 4)).off + 2, none⟩ = some (.slice b1 s.bytes.length b3) := (hB22.cell (p := ⟨(x.add (i * 4)).block, (x.add (i * 4)).off + 2, none⟩) hxbb.out).trans z2.out
              have y_3 : wn22.cell? ⟨(x.add (i * 4)).block, (x.add (i * 4)).off + 3, none⟩ = some (.slice b4 s.at_.length b6) := (hB22.cell (p := ⟨(x.add (i * 4)).block, (x.add (i * 4)).off + 3, none⟩) hxbb.out).trans z3.out
              go_wp2
              rw [← hwn, ← hgn]
              clear hwn hgn
              refine hK _ _ ⟨?_, ?_⟩; (focus (simp only [ReAll, List.contains_cons, List.contains_nil, Nat.reduceBEq, Bool.or_true, Bool.true_or, Bool.or_false, if_true, Bool.false_eq_true, if_false, and_true, true_and] <;> repeat' (first | trivial | (refine And.intro ?_ ?_) | (unfold YA; go_big_quiet_op; rfl)))); clear hK K
              refine canm_ef (bs := [(24, [0, 1, 2, 3, 4, 5, 6, 7, 8, 9, 26, 27, 28, 29, 30, 31, 32, 33, 34, 35, 36, 37, 38], [.ef 39 [0, 1, 2, 3, 4, 5, 6, 7, 8, 9], .st 40 .pure, .ef 42 []])]) (by kernel_rfl) ?_
              refine ⟨⟨_, rfl, fun K hK => ?_⟩, trivial⟩
              · refine wpList_append_src rfl _ _ 28 rfl wr.heap.size 5 i0 _ 1 1 Tryd.underlying28 hi hi0 hi1 hi2 rfl (by decide) (.slice (some ⟨g1, 0, none⟩) 0 0) 0 [] rfl hA22 (.slice b1 mb b3) mb (rowB (s.bytes.take 260)) rfl (srcAt_mem srcB.out (fun a v h => (hB22.cell (p := a) (lt_of_cell h)).trans h)) oneB.out (by unfold maxLen; omega) (by omega) hB22.size ?_
                intro v' wn23 hown hgrow hloc
                obtain ⟨sa23, sl23, sc23, rfl⟩ := ownsRow_slice hown
                have hB23 := below_app hB22 hA22 hgrow
                have hA23 : wn23.ownsRow wr.heap.size 5 1 (.slice sa23 sl23 sc23) mb (rowB (s.bytes.take 260)) := by simpa using hown
                have hI23 := own_keep hI22 hA22 (by decide) hgrow
                have hP23 := blk_keep hP22 hA22 (by decide) hgrow
                clear hown hgrow hloc
                clear y_0 y_1 y_2 y_3
                have y_0 : wn23.cell? (x.add (i * 4)) = some (.int .i64 s.kind) := (hB23.cell (p := x.add (i * 4)) hxbb.out).trans z0.out
                have y_1 : wn23.cell? ⟨(x.add (i * 4)).block, (x.add (i * 4)).off + 1, none⟩ = some (.int .i64 s.k) := (hB23.cell (p := ⟨(x.add (i * 4)).block, (x.add (i * 4)).off + 1, none⟩) hxbb.out).trans z1.out
                have y_2 : wn23.cell? ⟨(x.add (i * 4)).block, (x.add (i * 4)).off + 2, none⟩ = some (.slice b1 s.bytes.length b3) := (hB23.cell (p := ⟨(x.add (i * 4)).block, (x.add (i * 4)).off + 2, none⟩) hxbb.out).trans z2.out
                have y_3 : wn23.cell? ⟨(x.add (i * 4)).block, (x.add (i * 4)).off + 3, none⟩ = some (.slice b4 s.at_.length b6) := (hB23.cell (p := ⟨(x.add (i * 4)).block, (x.add (i * 4)).off + 3, none⟩) hxbb.out).trans z3.out
                go_wp2
                refine hK _ _ ⟨?_, ?_⟩; (focus (simp only [ReAll, List.contains_cons, List.contains_nil, Nat.reduceBEq, Bool.or_true, Bool.true_or, Bool.or_false, if_true, Bool.false_eq_true, if_false, and_true, true_and] <;> repeat' (first | trivial | (refine And.intro ?_ ?_) | (unfold YA; go_big_quiet_op; rfl)))); clear hK K
                refine canm_ef (bs := [(39, [0, 1, 2, 3, 4, 5, 6, 7, 8, 9], [.st 40 .pure, .ef 42 []])]) (by kernel_rfl) ?_
                refine ⟨⟨_, rfl, fun K hK => ?_⟩, trivial⟩
                · refine wpList_append_src rfl _ _ 49 rfl wr.heap.size 3 j0 _ 1 8 Tryd.underlying49 hj0 hj1 hj2 hj3 rfl (by decide) (.slice (some ⟨g14, 0, none⟩) 0 0) 0 [] rfl hI23 (.slice b4 ma b6) ma ((s.at_.take 260).map encN) rfl (srcAt_mem srcI.out (fun a v h => (hB23.cell (p := a) (lt_of_cell h)).trans h)) oneI.out (by unfold maxLen; omega) (by omega) hB23.size ?_
                  intro v' wn24 hown hgrow hloc
                  obtain ⟨sa24, sl24, sc24, rfl⟩ := ownsRow_slice hown
                  have hB24 := below_app hB23 hI23 hgrow
                  have hI24 : wn24.ownsRow wr.heap.size 3 1 (.slice sa24 sl24 sc24) ma ((s.at_.take 260).map encN) := by simpa using hown
                  have hA24 := own_keep hA23 hI23 (by decide) hgrow
                  have hP24 := blk_keep hP23 hI23 (by decide) hgrow
                  clear hown hgrow hloc
                  clear y_0 y_1 y_2 y_3
                  have y_0 : wn24.cell? (x.add (i * 4)) = some (.int .i64 s.kind) := (hB24.cell (p := x.add (i * 4)) hxbb.out).trans z0.out
                  have y_1 : wn24.cell? ⟨(x.add (i * 4)).block, (x.add (i * 4)).off + 1, none⟩ = some (.int .i64 s.k) := (hB24.cell (p := ⟨(x.add (i * 4)).block, (x.add (i * 4)).off + 1, none⟩) hxbb.out).trans z1.out
                  have y_2 : wn24.cell? ⟨(x.add (i * 4)).block, (x.add (i * 4)).off + 2, none⟩ = some (.slice b1 s.bytes.length b3) := (hB24.cell (p := ⟨(x.add (i * 4)).block, (x.add (i * 4)).off + 2, none⟩) hxbb.out).trans z2.out
                  have y_3 : wn24.cell? ⟨(x.add (i * 4)).block, (x.add (i * 4)).off + 3, none⟩ = some (.slice b4 s.at_.length b6) := (hB24.cell (p := ⟨(x.add (i * 4)).block, (x.add (i * 4)).off + 3, none⟩) hxbb.out).trans z3.out
                  go_wp2
                  refine hK _ _ ⟨?_, ?_⟩; (focus (simp only [ReAll, List.contains_cons, List.contains_nil, Nat.reduceBEq, Bool.or_true, Bool.true_or, Bool.or_false, if_true, Bool.false_eq_true, if_false, and_true, true_and] <;> repeat' (first | trivial | (refine And.intro ?_ ?_) | (unfold YA; go_big_quiet_op; rfl)))); clear hK K
                  refine canm_pure ?_ (i := 40) (rest' := [.ef 42 []]) (by kernel_rfl) rfl rfl (fun W K hK => ?_) ?_; rotate_left; (focus (go_big_quiet_op; exact hK))
                  refine canm_ef (bs := [(42, [], [])]) (by kernel_rfl) ?_
                  refine ⟨⟨_, rfl, fun K hK => ?_⟩, trivial⟩
                  · have cz0 := hP24.cell (j := 0) rfl
                    have fz0 := hP24.fr 0
                    have cz1 := hP24.cell (j := 1) rfl
                    have fz1 := hP24.fr 1
                    have cz2 := hP24.cell (j := 2) rfl
                    have fz2 := hP24.fr 2
                    have cz3 := hP24.cell (j := 3) rfl
                    have fz3 := hP24.fr 3
                    have hpl := hP24.lt
                    go_wp2
                    refine hK _ _ ⟨?_, ?_⟩; (focus (simp only [ReAll, List.contains_cons, List.contains_nil, Nat.reduceBEq, Bool.or_true, Bool.true_or, Bool.or_false, if_true, Bool.false_eq_true, if_false, and_true, true_and] <;> repeat' (first | trivial | (refine And.intro ?_ ?_) | (unfold YA; go_big_quiet_op; rfl)))); clear hK K
                    refine canm_nil ?_
                    go_wp2
                    go_meet
                    exact ⟨_, rfl, _, _, _, rfl, clone_end hB24 hQ22 hP24 hA24 hI24⟩
          · obtain ⟨wn26, hwn⟩ : ∃ wn, wn = wn1.alloc (.cells #[.int .i64 0, .int .i64 0, .slice none 0 0, .slice none 0 0] 51) := ⟨_, rfl⟩
            obtain ⟨p26, hgn⟩ : ∃ g, g = wn1.heap.size := ⟨_, rfl⟩
            have hB26 : Below wr.heap.size wr wn26 := by rw [hwn]; exact hB1.alloc hB1.size _
            have hP26 : BlkAt wn26 p26 [.int .i64 0, .int .i64 0, .slice none 0 0, .slice none 0 0] 51 ∧ wr.heap.size ≤ p26 := ⟨by rw [hwn, hgn]; exact BlkAt.new wn1 [.int .i64 0, .int .i64 0, .slice none 0 0, .slice none 0 0] _, by rw [hgn]; exact hB1.size⟩
            have hQ26 := hP26.2
            have hP26 := hP26.1
            have hA26 := hA1.alloc (.cells #[.int .i64 0, .int .i64 0, .slice none 0 0, .slice none 0 0] 51)
            rw [← hwn] at hA26
            clear y_0 y_1 y_2 y_3
            have y_0 : wn26.cell? (x.add (i * 4)) = some (.int .i64 s.kind) := (hB26.cell (p := x.add (i * 4)) hxbb.out).trans z0.out
            have y_1 : wn26.cell? ⟨(x.add (i * 4)).block, (x.add (i * 4)).off + 1, none⟩ = some (.int .i64 s.k) := (hB26.cell (p := ⟨(x.add (i * 4)).block, (x.add (i * 4)).off + 1, none⟩) hxbb.out).trans z1.out
            have y_2 : wn26.cell? ⟨(x.add (i * 4)).block, (x.add (i * 4)).off + 2, none⟩ = some (.slice b1 s.bytes.length b3) := (hB26.cell (p := ⟨(x.add (i * 4)).block, (x.add (i * 4)).off + 2, none⟩) hxbb.out).trans z2.out
            have y_3 : wn26.cell? ⟨(x.add (i * 4)).block, (x.add (i * 4)).off + 3, none⟩ = some (.slice b4 s.at_.length b6) := (hB26.cell (p := ⟨(x.add (i * 4)).block, (x.add (i * 4)).off + 3, none⟩) hxbb.out).trans z3.out
            go_wp2
            rw [← hwn, ← hgn]
            clear hwn hgn
            refine hK _ _ ⟨?_, ?_⟩; (focus (simp only [ReAll, List.contains_cons, List.contains_nil, Nat.reduceBEq, Bool.or_true, Bool.true_or, Bool.or_false, if_true, Bool.false_eq_true, if_false, and_true, true_and] <;> repeat' (first | trivial | (refine And.intro ?_ ?_) | (unfold YA; go_big_quiet_op; rfl)))); clear hK K
            refine canm_ef (bs := [(24, [0, 1, 2, 3, 4, 5, 6, 7, 8, 9, 26, 27, 28, 29, 30, 31, 32, 33, 34, 35, 36, 37, 38], [.ef 25 [0, 1, 2, 3, 4, 5, 6, 7, 8, 9, 11, 12, 13, 14, 15, 16, 17, 18, 19, 20, 21, 22, 23, 26, 27, 28, 29, 30, 31, 32, 33, 34, 35, 36, 37, 38], .ef 39 [0, 1, 2, 3, 4, 5, 6, 7, 8, 9], .st 40 .pure, .ef 42 []]), (25, [0, 1, 2, 3, 4, 5, 6, 7, 8, 9, 11, 12, 13, 14, 15, 16, 17, 18, 19, 20, 21, 22, 23, 26, 27, 28, 29, 30, 31, 32, 33, 34, 35, 36, 37, 38], [.ef 24 [0, 1, 2, 3, 4, 5, 6, 7, 8, 9, 26, 27, 28, 29, 30, 31, 32, 33, 34, 35, 36, 37, 38], .ef 39 [0, 1, 2, 3, 4, 5, 6, 7, 8, 9], .st 40 .pure, .ef 42 []])]) (by kernel_rfl) ?_
            refine ⟨⟨_, rfl, fun K hK => ?_⟩, ⟨_, rfl, fun K hK => ?_⟩, trivial⟩
            · refine wpList_append_src rfl _ _ 28 rfl wr.heap.size 5 i0 _ 1 1 Tryd.underlying28 hi hi0 hi1 hi2 rfl (by decide) (.slice (some ⟨g1, 0, none⟩) 0 0) 0 [] rfl hA26 (.slice b1 mb b3) mb (rowB (s.bytes.take 260)) rfl (srcAt_mem srcB.out (fun a v h => (hB26.cell (p := a) (lt_of_cell h)).trans h)) oneB.out (by unfold maxLen; omega) (by omega) hB26.size ?_
              intro v' wn27 hown hgrow hloc
              obtain ⟨sa27, sl27, sc27, rfl⟩ := ownsRow_slice hown
              have hB27 := below_app hB26 hA26 hgrow
              have hA27 : wn27.ownsRow wr.heap.size 5 1 (.slice sa27 sl27 sc27) mb (rowB (s.bytes.take 260)) := by simpa using hown
              have hP27 := blk_keep hP26 hA26 (by decide) hgrow
              clear hown hgrow hloc
              clear y_0 y_1 y_2 y_3
              have y_0 : wn27.cell? (x.add (i * 4)) = some (.int .i64 s.kind) := (hB27.cell (p := x.add (i * 4)) hxbb.out).trans z0.out
              have y_1 : wn27.cell? ⟨(x.add (i * 4)).block, (x.add (i * 4)).off + 1, none⟩ = some (.int .i64 s.k) := (hB27.cell (p := ⟨(x.add (i * 4)).block, (x.add (i * 4)).off + 1, none⟩) hxbb.out).trans z1.out
              have y_2 : wn27.cell? ⟨(x.add (i * 4)).block, (x.add (i * 4)).off + 2, none⟩ = some (.slice b1 s.bytes.length b3) := (hB27.cell (p := ⟨(x.add (i * 4)).block, (x.add (i * 4)).off + 2, none⟩) hxbb.out).trans z2.out
              have y_3 : wn27.cell? ⟨(x.add (i * 4)).block, (x.add (i * 4)).off + 3, none⟩ = some (.slice b4 s.at_.length b6) := (hB27.cell (p := ⟨(x.add (i * 4)).block, (x.add (i * 4)).off + 3, none⟩) hxbb.out).trans z3.out
              go_wp2
              refine hK _ _ ⟨?_, ?_⟩; (focus (simp only [ReAll, List.contains_cons, List.contains_nil, Nat.reduceBEq, Bool.or_true, Bool.true_or, Bool.or_false, if_true, Bool.false_eq_true, if_false, and_true, true_and] <;> repeat' (first | trivial | (refine And.intro ?_ ?_) | (unfold YA; go_big_quiet_op; rfl)))); clear hK K
              refine canm_ef (bs := [(25, [0, 1, 2, 3, 4, 5, 6, 7, 8, 9, 11, 12, 13, 14, 15, 16, 17, 18, 19, 20, 21, 22, 23, 26, 27, 28, 29, 30, 31, 32, 33, 34, 35, 36, 37, 38], [.ef 39 [0, 1, 2, 3, 4, 5, 6, 7, 8, 9], .st 40 .pure, .ef 42 []])]) (by kernel_rfl) ?_
              refine ⟨⟨_, rfl, fun K hK => ?_⟩, trivial⟩
              · obtain ⟨wn28, hwn⟩ : ∃ wn, wn = wn27.alloc (.cells #[] 3) := ⟨_, rfl⟩
                obtain ⟨g28, hgn⟩ : ∃ g, g = wn27.heap.size := ⟨_, rfl⟩
                have hB28 : Below wr.heap.size wr wn28 := by rw [hwn]; exact hB27.alloc hB27.size _
                have hI28 : wn28.ownsRow wr.heap.size 3 1 (.slice (some ⟨g28, 0, none⟩) 0 0) 0 [] := by rw [hwn, hgn]; exact own_empty wn27 _ _ hB27.size
                have hA28 := hA27.alloc (.cells #[] 3)
                rw [← hwn] at hA28
                have hP28 := hP27.block (Below.heap_alloc wn27 (.cells #[] 3) _ hP27.lt)
                rw [← hwn] at hP28
                clear y_0 y_1 y_2 y_3
                have y_0 : wn28.cell? (x.add (i * 4)) = some (.int .i64 s.kind) := (hB28.cell (p := x.add (i * 4)) hxbb.out).trans z0.out
                have y_1 : wn28.cell? ⟨(x.add (i * 4)).block, (x.add (i * 4)).off + 1, none⟩ = some (.int .i64 s.k) := (hB28.cell (p := ⟨(x.add (i * 4)).block, (x.add (i * 4)).off + 1, none⟩) hxbb.out).trans z1.out
                have y_2 : wn28.cell? ⟨(x.add (i * 4)).block, (x.add (i * 4)).off + 2, none⟩ = some (.slice b1 s.bytes.length b3) := (hB28.cell (p := ⟨(x.add (i * 4)).block, (x.add (i * 4)).off + 2, none⟩) hxbb.out).trans z2.out
                have y_3 : wn28.cell? ⟨(x.add (i * 4)).block, (x.add (i * 4)).off + 3, none⟩ = some (.slice b4 s.at_.length b6) := (hB28.cell (p := ⟨(x.add (i * 4)).block, (x.add (i * 4)).off + 3, none⟩) hxbb.out).trans z3.out
                go_wp2
                rw [← hwn, ← hgn]
                clear hwn hgn
                refine hK _ _ ⟨?_, ?_⟩; (focus (simp only [ReAll, List.contains_cons, List.contains_nil, Nat.reduceBEq, Bool.or_true, Bool.true_or, Bool.or_false, if_true, Bool.false_eq_true, if_false, and_true, true_and] <;> repeat' (first | trivial | (refine And.intro ?_ ?_) | (unfold YA; go_big_quiet_op; rfl)))); clear hK K
                refine canm_ef (bs := [(39, [0, 1, 2, 3, 4, 5, 6, 7, 8, 9], [.st 40 .pure, .ef 42 []])]) (by kernel_rfl) ?_
                refine ⟨⟨_, rfl, fun K hK => ?_⟩, trivial⟩
                · refine wpList_append_src rfl _ _ 49 rfl wr.heap.size 3 j0 _ 1 8 Tryd.underlying49 hj0 hj1 hj2 hj3 rfl (by decide) (.slice (some ⟨g28, 0, none⟩) 0 0) 0 [] rfl hI28 (.slice b4 ma b6) ma ((s.at_.take 260).map encN) rfl (srcAt_mem srcI.out (fun a v h => (hB28.cell (p := a) (lt_of_cell h)).trans h)) oneI.out (by unfold maxLen; omega) (by omega) hB28.size ?_
                  intro v' wn29 hown hgrow hloc
                  obtain ⟨sa29, sl29, sc29, rfl⟩ := ownsRow_slice hown
                  have hB29 := below_app hB28 hI28 hgrow
                  have hI29 : wn29.ownsRow wr.heap.size 3 1 (.slice sa29 sl29 sc29) ma ((s.at_.take 260).map encN) := by simpa using hown
                  have hA29 := own_keep hA28 hI28 (by decide) hgrow
                  have hP29 := blk_keep hP28 hI28 (by decide) hgrow
                  clear hown hgrow hloc
                  clear y_0 y_1 y_2 y_3
                  have y_0 : wn29.cell? (x.add (i * 4)) = some (.int .i64 s.kind) := (hB29.cell (p := x.add (i * 4)) hxbb.out).trans z0.out
                  have y_1 : wn29.cell? ⟨(x.add (i * 4)).block, (x.add (i * 4)).off + 1, none⟩ = some (.int .i64 s.k) := (hB29.cell (p := ⟨(x.add (i * 4)).block, (x.add (i * 4)).off + 1, none⟩) hxbb.out).trans z1.out
                  have y_2 : wn29.cell? ⟨(x.add (i * 4)).block, (x.add (i * 4)).off + 2, none⟩ = some (.slice b1 s.bytes.length b3) := (hB29.cell (p := ⟨(x.add (i * 4)).block, (x.add (i * 4)).off + 2, none⟩) hxbb.out).trans z2.out
                  have y_3 : wn29.cell? ⟨(x.add (i * 4)).block, (x.add (i * 4)).off + 3, none⟩ = some (.slice b4 s.at_.length b6) := (hB29.cell (p := ⟨(x.add (i * 4)).block, (x.add (i * 4)).off + 3, none⟩) hxbb.out).trans z3.out
                  go_wp2
                  refine hK _ _ ⟨?_, ?_⟩; (focus (simp only [ReAll, List.contains_cons, List.contains_nil, Nat.reduceBEq, Bool.or_true, Bool.true_or, Bool.or_false, if_true, Bool.false_eq_true, if_false, and_true, true_and] <;> repeat' (first | trivial | (refine And.intro ?_ ?_) | (unfold YA; go_big_quiet_op; rfl)))); clear hK K
                  refine canm_pure ?_ (i := 40) (rest' := [.ef 42 []]) (by kernel_rfl) rfl rfl (fun W K hK => ?_) ?_; rotate_left; (focus (go_big_quiet_op; exact hK))
                  refine canm_ef (bs := [(42, [], [])]) (by kernel_rfl) ?_
                  refine ⟨⟨_, rfl, fun K hK => ?_⟩, trivial⟩
                  · have cz0 := hP29.cell (j := 0) rfl
                    have fz0 := hP29.fr 0
                    have cz1 := hP29.cell (j := 1) rfl
                    have fz1 := hP29.fr 1
                    have cz2 := hP29.cell (j := 2) rfl
                    have fz2 := hP29.fr 2
                    have cz3 := hP29.cell (j := 3) rfl
                    have fz3 := hP29.fr 3
                    have hpl := hP29.lt
                    go_wp2
                    refine hK _ _ ⟨?_, ?_⟩; (focus (simp only [ReAll, List.contains_cons, List.contains_nil, Nat.reduceBEq, Bool.or_true, Bool.true_or, Bool.or_false, if_true, Bool.false_eq_true, if_false, and_true, true_and] <;> repeat' (first | trivial | (refine And.intro ?_ ?_) | (unfold YA; go_big_quiet_op; rfl)))); clear hK K
                    refine canm_nil ?_
                    go_wp2
                    go_meet
                    exact ⟨_, rfl, _, _, _, rfl, clone_end hB29 hQ26 hP29 hA29 hI29⟩
            · obtain ⟨wn31, hwn⟩ : ∃ wn, wn = wn26.alloc (.cells #[] 3) := ⟨_, rfl⟩
              obtain ⟨g31, hgn⟩ : ∃ g, g = wn26.heap.size := ⟨_, rfl⟩
              have hB31 : Below wr.heap.size wr wn31 := by rw [hwn]; exact hB26.alloc hB26.size _
              have hI31 : wn31.ownsRow wr.heap.size 3 1 (.slice (some ⟨g31, 0, none⟩) 0 0) 0 [] := by rw [hwn, hgn]; exact own_empty wn26 _ _ hB26.size
              have hA31 := hA26.alloc (.cells #[] 3)
              rw [← hwn] at hA31
              have hP31 := hP26.block (Below.heap_alloc wn26 (.cells #[] 3) _ hP26.lt)
              rw [← hwn] at hP31
              clear y_0 y_1 y_2 y_3
              have y_0 : wn31.cell? (x.add (i * 4)) = some (.int .i64 s.kind) := (hB31.cell (p := x.add (i * 4)) hxbb.out).trans z0.out
              have y_1 : wn31.cell? ⟨(x.add (i * 4)).block, (x.add (i * 4)).off + 1, none⟩ = some (.int .i64 s.k) := (hB31.cell (p := ⟨(x.add (i * 4)).block, (x.add (i * 4)).off + 1, none⟩) hxbb.out).trans z1.out
              have y_2 : wn31.cell? ⟨(x.add (i * 4)).block, (x.add (i * 4)).off + 2, none⟩ = some (.slice b1 s.bytes.length b3) := (hB31.cell (p := ⟨(x.add (i * 4)).block, (x.add (i * 4)).off + 2, none⟩) hxbb.out).trans z2.out
              have y_3 : wn31.cell? ⟨(x.add (i * 4)).block, (x.add (i * 4)).off + 3, none⟩ = some (.slice b4 s.at_.length b6) := (hB31.cell (p := ⟨(x.add (i * 4)).block, (x.add (i * 4)).off + 3, none⟩) hxbb.out).trans z3.out
              go_wp2
              rw [← hwn, ← hgn]
              clear hwn hgn
              refine hK _ _ ⟨?_, ?_⟩; (focus (simp only [ReAll, List.contains_cons, List.contains_nil, Nat.reduceBEq, Bool.or_true, Bool.true_or, Bool.or_false, if_true, Bool.false_eq_true, if_false, and_true, true_and] <;> repeat' (first | trivial | (refine And.intro ?_ ?_) | (unfold YA; go_big_quiet_op; rfl)))); clear hK K
              refine canm_ef (bs := [(24, [0, 1, 2, 3, 4, 5, 6, 7, 8, 9, 26, 27, 28, 29, 30, 31, 32, 33, 34, 35, 36, 37, 38], [.ef 39 [0, 1, 2, 3, 4, 5, 6, 7, 8, 9], .st 40 .pure, .ef 42 []])]) (by kernel_rfl) ?_
              refine ⟨⟨_, rfl, fun K hK => ?_⟩, trivial⟩
              · refine wpList_append_src rfl _ _ 28 rfl wr.heap.size 5 i0 _ 1 1 Tryd.underlying28 hi hi0 hi1 hi2 rfl (by decide) (.slice (some ⟨g1, 0, none⟩) 0 0) 0 [] rfl hA31 (.slice b1 mb b3) mb (rowB (s.bytes.take 260)) rfl (srcAt_mem srcB.out (fun a v h => (hB31.cell (p := a) (lt_of_cell h)).trans h)) oneB.out (by unfold maxLen; omega) (by omega) hB31.size ?_
                intro v' wn32 hown hgrow hloc
                obtain ⟨sa32, sl32, sc32, rfl⟩ := ownsRow_slice hown
                have hB32 := below_app hB31 hA31 hgrow
                have hA32 : wn32.ownsRow wr.heap.size 5 1 (.slice sa32 sl32 sc32) mb (rowB (s.bytes.take 260)) := by simpa using hown
                have hI32 := own_keep hI31 hA31 (by decide) hgrow
                have hP32 := blk_keep hP31 hA31 (by decide) hgrow
                clear hown hgrow hloc
                clear y_0 y_1 y_2 y_3
                have y_0 : wn32.cell? (x.add (i * 4)) = some (.int .i64 s.kind) := (hB32.cell (p := x.add (i * 4)) hxbb.out).trans z0.out
                have y_1 : wn32.cell? ⟨(x.add (i * 4)).block, (x.add (i * 4)).off + 1, none⟩ = some (.int .i64 s.k) := (hB32.cell (p := ⟨(x.add (i * 4)).block, (x.add (i * 4)).off + 1, none⟩) hxbb.out).trans z1.out
                have y_2 : wn32.cell? ⟨(x.add (i * 4)).block, (x.add (i * 4)).off + 2, none⟩ = some (.slice b1 s.bytes.length b3) := (hB32.cell (p := ⟨(x.add (i * 4)).block, (x.add (i * 4)).off + 2, none⟩) hxbb.out).trans z2.out
                have y_3 : wn32.cell? ⟨(x.add (i * 4)).block, (x.add (i * 4)).off + 3, none⟩ = some (.slice b4 s.at_.length b6) := (hB32.cell (p := ⟨(x.add (i * 4)).block, (x.add (i * 4)).off + 3, none⟩) hxbb.out).trans z3.out
                go_wp2
                refine hK _ _ ⟨?_, ?_⟩; (focus (simp only [ReAll, List.contains_cons, List.contains_nil, Nat.reduceBEq, Bool.or_true, Bool.true_or, Bool.or_false, if_true, Bool.false_eq_true, if_false, and_true, true_and] <;> repeat' (first | trivial | (refine And.intro ?_ ?_) | (unfold YA; go_big_quiet_op; rfl)))); clear hK K
                refine canm_ef (bs := [(39, [0, 1, 2, 3, 4, 5, 6, 7, 8, 9], [.st 40 .pure, .ef 42 []])]) (by kernel_rfl) ?_
                refine ⟨⟨_, rfl, fun K hK => ?_⟩, trivial⟩
                · refine wpList_append_src rfl _ _ 49 rfl wr.heap.size 3 j0 _ 1 8 Tryd.underlying49 hj0 hj1 hj2 hj3 rfl (by decide) (.slice (some ⟨g31, 0, none⟩) 0 0) 0 [] rfl hI32 (.slice b4 ma b6) ma ((s.at_.take 260).map encN) rfl (srcAt_mem srcI.out (fun a v h => (hB32.cell (p := a) (lt_of_cell h)).trans h)) oneI.out (by unfold maxLen; omega) (by omega) hB32.size ?_
                  intro v' wn33 hown hgrow hloc
                  obtain ⟨sa33, sl33, sc33, rfl⟩ := ownsRow_slice hown
                  have hB33 := below_app hB32 hI32 hgrow
                  have hI33 : wn33.ownsRow wr.heap.size 3 1 (.slice sa33 sl33 sc33) ma ((s.at_.take 260).map encN) := by simpa using hown
                  have hA33 := own_keep hA32 hI32 (by decide) hgrow
                  have hP33 := blk_keep hP32 hI32 (by decide) hgrow
                  clear hown hgrow hloc
                  clear y_0 y_1 y_2 y_3
                  have y_0 : wn33.cell? (x.add (i * 4)) = some (.int .i64 s.kind) := (hB33.cell (p := x.add (i * 4)) hxbb.out).trans z0.out
                  have y_1 : wn33.cell? ⟨(x.add (i * 4)).block, (x.add (i * 4)).off + 1, none⟩ = some (.int .i64 s.k) := (hB33.cell (p := ⟨(x.add (i * 4)).block, (x.add (i * 4)).off + 1, none⟩) hxbb.out).trans z1.out
                  have y_2 : wn33.cell? ⟨(x.add (i * 4)).block, (x.add (i * 4)).off + 2, none⟩ = some (.slice b1 s.bytes.length b3) := (hB33.cell (p := ⟨(x.add (i * 4)).block, (x.add (i * 4)).off + 2, none⟩) hxbb.out).trans z2.out
                  have y_3 : wn33.cell? ⟨(x.add (i * 4)).block, (x.add (i * 4)).off + 3, none⟩ = some (.slice b4 s.at_.length b6) := (hB33.cell (p := ⟨(x.add (i * 4)).block, (x.add (i * 4)).off + 3, none⟩) hxbb.out).trans z3.out
                  go_wp2
                  refine hK _ _ ⟨?_, ?_⟩; (focus (simp only [ReAll, List.contains_cons, List.contains_nil, Nat.reduceBEq, Bool.or_true, Bool.true_or, Bool.or_false, if_true, Bool.false_eq_true, if_false, and_true, true_and] <;> repeat' (first | trivial | (refine And.intro ?_ ?_) | (unfold YA; go_big_quiet_op; rfl)))); clear hK K
                  refine canm_pure ?_ (i := 40) (rest' := [.ef 42 []]) (by kernel_rfl) rfl rfl (fun W K hK => ?_) ?_; rotate_left; (focus (go_big_quiet_op; exact hK))
                  refine canm_ef (bs := [(42, [], [])]) (by kernel_rfl) ?_
                  refine ⟨⟨_, rfl, fun K hK => ?_⟩, trivial⟩
                  · have cz0 := hP33.cell (j := 0) rfl
                    have fz0 := hP33.fr 0
                    have cz1 := hP33.cell (j := 1) rfl
                    have fz1 := hP33.fr 1
                    have cz2 := hP33.cell (j := 2) rfl
                    have fz2 := hP33.fr 2
                    have cz3 := hP33.cell (j := 3) rfl
                    have fz3 := hP33.fr 3
                    have hpl := hP33.lt
                    go_wp2
                    refine hK _ _ ⟨?_, ?_⟩; (focus (simp only [ReAll, List.contains_cons, List.contains_nil, Nat.reduceBEq, Bool.or_true, Bool.true_or, Bool.or_false, if_true, Bool.false_eq_true, if_false, and_true, true_and] <;> repeat' (first | trivial | (refine And.intro ?_ ?_) | (unfold YA; go_big_quiet_op; rfl)))); clear hK K
                    refine canm_nil ?_
                    go_wp2
                    go_meet
                    exact ⟨_, rfl, _, _, _, rfl, clone_end hB33 hQ26 hP33 hA33 hI33⟩
        · obtain ⟨wn35, hwn⟩ : ∃ wn, wn = w0.alloc (.cells #[] 3) := ⟨_, rfl⟩
          obtain ⟨g35, hgn⟩ : ∃ g, g = w0.heap.size := ⟨_, rfl⟩
          have hB35 : Below wr.heap.size wr wn35 := by rw [hwn]; exact hB0.alloc hB0.size _
          have hI35 : wn35.ownsRow wr.heap.size 3 1 (.slice (some ⟨g35, 0, none⟩) 0 0) 0 [] := by rw [hwn, hgn]; exact own_empty w0 _ _ hB0.size
          clear y_0 y_1 y_2 y_3
          have y_0 : wn35.cell? (x.add (i * 4)) = some (.int .i64 s.kind) := (hB35.cell (p := x.add (i * 4)) hxbb.out).trans z0.out
          have y_1 : wn35.cell? ⟨(x.add (i * 4)).block, (x.add (i * 4)).off + 1, none⟩ = some (.int .i64 s.k) := (hB35.cell (p := ⟨(x.add (i * 4)).block, (x.add (i * 4)).off + 1, none⟩) hxbb.out).trans z1.out
          have y_2 : wn35.cell? ⟨(x.add (i * 4)).block, (x.add (i * 4)).off + 2, none⟩ = some (.slice b1 s.bytes.length b3) := (hB35.cell (p := ⟨(x.add (i * 4)).block, (x.add (i * 4)).off + 2, none⟩) hxbb.out).trans z2.out
          have y_3 : wn35.cell? ⟨(x.add (i * 4)).block, (x.add (i * 4)).off + 3, none⟩ = some (.slice b4 s.at_.length b6) := (hB35.cell (p := ⟨(x.add (i * 4)).block, (x.add (i * 4)).off + 3, none⟩) hxbb.out).trans z3.out
          go_wp2
          rw [← hwn, ← hgn]
          clear hwn hgn
          refine hK _ _ ⟨?_, ?_⟩; (focus (simp only [ReAll, List.contains_cons, List.contains_nil, Nat.reduceBEq, Bool.or_true, Bool.true_or, Bool.or_false, if_true, Bool.false_eq_true, if_false, and_true, true_and] <;> repeat' (first | trivial | (refine And.intro ?_ ?_) | (unfold YA; go_big_quiet_op; rfl)))); clear hK K
          refine canm_ef (bs := [(10, [0, 1, 2, 3, 4, 5, 6, 7, 8, 9, 11, 12, 13, 14, 15, 16, 17, 18, 19, 20, 21, 22, 23, 26, 27, 28, 29, 30, 31, 32, 33, 34, 35, 36, 37, 38], [.ef 24 [0, 1, 2, 3, 4, 5, 6, 7, 8, 9, 26, 27, 28, 29, 30, 31, 32, 33, 34, 35, 36, 37, 38], .ef 39 [0, 1, 2, 3, 4, 5, 6, 7, 8, 9], .st 40 .pure, .ef 41 [0, 1, 2, 3, 4, 5, 6, 7, 8, 9, 11, 12, 13, 14, 15, 16, 17, 18, 19, 20, 21, 22, 23, 26, 27, 28, 29, 30, 31, 32, 33, 34, 35, 36, 37, 38, 40], .ef 42 []]), (41, [0, 1, 2, 3, 4, 5, 6, 7, 8, 9, 11, 12, 13, 14, 15, 16, 17, 18, 19, 20, 21, 22, 23, 26, 27, 28, 29, 30, 31, 32, 33, 34, 35, 36, 37, 38, 40], [.ef 10 [0, 1, 2, 3, 4, 5, 6, 7, 8, 9, 11, 12, 13, 14, 15, 16, 17, 18, 19, 20, 21, 22, 23, 26, 27, 28, 29, 30, 31, 32, 33, 34, 35, 36, 37, 38], .ef 24 [0, 1, 2, 3, 4, 5, 6, 7, 8, 9, 26, 27, 28, 29, 30, 31, 32, 33, 34, 35, 36, 37, 38], .ef 39 [0, 1, 2, 3, 4, 5, 6, 7, 8, 9], .st 40 .pure, .ef 42 []])]) (by kernel_rfl) ?_
          refine ⟨⟨_, rfl, fun K hK => ?_⟩, ⟨_, rfl, fun K hK => ?_⟩, trivial⟩
          · obtain ⟨wn36, hwn⟩ : ∃ wn, wn = wn35.alloc (.cells #[] 5) := ⟨_, rfl⟩
            obtain ⟨g36, hgn⟩ : ∃ g, g = wn35.heap.size := ⟨_, rfl⟩
            have hB36 : Below wr.heap.size wr wn36 := by rw [hwn]; exact hB35.alloc hB35.size _
            have hA36 : wn36.ownsRow wr.heap.size 5 1 (.slice (some ⟨g36, 0, none⟩) 0 0) 0 [] := by rw [hwn, hgn]; exact own_empty wn35 _ _ hB35.size
            have hI36 := hI35.alloc (.cells #[] 5)
            rw [← hwn] at hI36
            clear y_0 y_1 y_2 y_3
            have y_0 : wn36.cell? (x.add (i * 4)) = some (.int .i64 s.kind) := (hB36.cell (p := x.add (i * 4)) hxbb.out).trans z0.out
            have y_1 : wn36.cell? ⟨(x.add (i * 4)).block, (x.add (i * 4)).off + 1, none⟩ = some (.int .i64 s.k) := (hB36.cell (p := ⟨(x.add (i * 4)).block, (x.add (i * 4)).off + 1, none⟩) hxbb.out).trans z1.out
            have y_2 : wn36.cell? ⟨(x.add (i * 4)).block, (x.add (i * 4)).off + 2, none⟩ = some (.slice b1 s.bytes.length b3) := (hB36.cell (p := ⟨(x.add (i * 4)).block, (x.add (i * 4)).off + 2, none⟩) hxbb.out).trans z2.out
            have y_3 : wn36.cell? ⟨(x.add (i * 4)).block, (x.add (i * 4)).off + 3, none⟩ = some (.slice b4 s.at_.length b6) := (hB36.cell (p := ⟨(x.add (i * 4)).block, (x.add (i * 4)).off + 3, none⟩) hxbb.out).trans z3.out
            go_wp2
            rw [← hwn, ← hgn]
            clear hwn hgn
            refine hK _ _ ⟨?_, ?_⟩; (focus (simp only [ReAll, List.contains_cons, List.contains_nil, Nat.reduceBEq, Bool.or_true, Bool.true_or, Bool.or_false, if_true, Bool.false_eq_true, if_false, and_true, true_and] <;> repeat' (first | trivial | (refine And.intro ?_ ?_) | (unfold YA; go_big_quiet_op; rfl)))); clear hK K
            refine canm_ef (bs := [(24, [0, 1, 2, 3, 4, 5, 6, 7, 8, 9, 26, 27, 28, 29, 30, 31, 32, 33, 34, 35, 36, 37, 38], [.ef 39 [0, 1, 2, 3, 4, 5, 6, 7, 8, 9], .st 40 .pure, .ef 41 [0, 1, 2, 3, 4, 5, 6, 7, 8, 9, 11, 12, 13, 14, 15, 16, 17, 18, 19, 20, 21, 22, 23, 26, 27, 28, 29, 30, 31, 32, 33, 34, 35, 36, 37, 38, 40], .ef 42 []]), (41, [0, 1, 2, 3, 4, 5, 6, 7, 8, 9, 11, 12, 13, 14, 15, 16, 17, 18, 19, 20, 21, 22, 23, 26, 27, 28, 29, 30, 31, 32, 33, 34, 35, 36, 37, 38, 40], [.ef 24 [0, 1, 2, 3, 4, 5, 6, 7, 8, 9, 26, 27, 28, 29, 30, 31, 32, 33, 34, 35, 36, 37, 38], .ef 39 [0, 1, 2, 3, 4, 5, 6, 7, 8, 9], .st 40 .pure, .ef 42 []])]) (by kernel_rfl) ?_
            refine ⟨⟨_, rfl, fun K hK => ?_⟩, ⟨_, rfl, fun K hK => ?_⟩, trivial⟩
            · refine wpList_append_src rfl _ _ 28 rfl wr.heap.size 5 i0 _ 1 1 Tryd.underlying28 hi hi0 hi1 hi2 rfl (by decide) (.slice (some ⟨g36, 0, none⟩) 0 0) 0 [] rfl hA36 (.slice b1 mb b3) mb (rowB (s.bytes.take 260)) rfl (srcAt_mem srcB.out (fun a v h => (hB36.cell (p := a) (lt_of_cell h)).trans h)) oneB.out (by unfold maxLen; omega) (by omega) hB36.size ?_
              intro v' wn37 hown hgrow hloc
              obtain ⟨sa37, sl37, sc37, rfl⟩ := ownsRow_slice hown
              have hB37 := below_app hB36 hA36 hgrow
              have hA37 : wn37.ownsRow wr.heap.size 5 1 (.slice sa37 sl37 sc37) mb (rowB (s.bytes.take 260)) := by simpa using hown
              have hI37 := own_keep hI36 hA36 (by decide) hgrow
              clear hown hgrow hloc
              clear y_0 y_1 y_2 y_3
              have y_0 : wn37.cell? (x.add (i * 4)) = some (.int .i64 s.kind) := (hB37.cell (p := x.add (i * 4)) hxbb.out).trans z0.out
              have y_1 : wn37.cell? ⟨(x.add (i * 4)).block, (x.add (i * 4)).off + 1, none⟩ = some (.int .i64 s.k) := (hB37.cell (p := ⟨(x.add (i * 4)).block, (x.add (i * 4)).off + 1, none⟩) hxbb.out).trans z1.out
              have y_2 : wn37.cell? ⟨(x.add (i * 4)).block, (x.add (i * 4)).off + 2, none⟩ = some (.slice b1 s.bytes.length b3) := (hB37.cell (p := ⟨(x.add (i * 4)).block, (x.add (i * 4)).off + 2, none⟩) hxbb.out).trans z2.out
              have y_3 : wn37.cell? ⟨(x.add (i * 4)).block, (x.add (i * 4)).off + 3, none⟩ = some (.slice b4 s.at_.length b6) := (hB37.cell (p := ⟨(x.add (i * 4)).block, (x.add (i * 4)).off + 3, none⟩) hxbb.out).trans z3.out
              go_wp2
              refine hK _ _ ⟨?_, ?_⟩; (focus (simp only [ReAll, List.contains_cons, List.contains_nil, Nat.reduceBEq, Bool.or_true, Bool.true_or, Bool.or_false, if_true, Bool.false_eq_true, if_false, and_true, true_and] <;> repeat' (first | trivial | (refine And.intro ?_ ?_) | (unfold YA; go_big_quiet_op; rfl)))); clear hK K
              refine canm_ef (bs := [(39, [0, 1, 2, 3, 4, 5, 6, 7, 8, 9], [.st 40 .pure, .ef 41 [0, 1, 2, 3, 4, 5, 6, 7, 8, 9, 11, 12, 13, 14, 15, 16, 17, 18, 19, 20, 21, 22, 23, 26, 27, 28, 29, 30, 31, 32, 33, 34, 35, 36, 37, 38, 40], .ef 42 []]), (41, [0, 1, 2, 3, 4, 5, 6, 7, 8, 9, 11, 12, 13, 14, 15, 16, 17, 18, 19, 20, 21, 22, 23, 26, 27, 28, 29, 30, 31, 32, 33, 34, 35, 36, 37, 38, 40], [.ef 39 [0, 1, 2, 3, 4, 5, 6, 7, 8, 9], .st 40 .pure, .ef 42 []])]) (by kernel_rfl) ?_
              refine ⟨⟨_, rfl, fun K hK => ?_⟩, ⟨_, rfl, fun K hK => ?_⟩, trivial⟩
              · refine wpList_append_src rfl _ _ 49 rfl wr.heap.size 3 j0 _ 1 8 Tryd.underlying49 hj0 hj1 hj2 hj3 rfl (by decide) (.slice (some ⟨g35, 0, none⟩) 0 0) 0 [] rfl hI37 (.slice b4 ma b6) ma ((s.at_.take 260).map encN) rfl (srcAt_mem srcI.out (fun a v h => (hB37.cell (p := a) (lt_of_cell h)).trans h)) oneI.out (by unfold maxLen; omega) (by omega) hB37.size ?_
                intro v' wn38 hown hgrow hloc
                obtain ⟨sa38, sl38, sc38, rfl⟩ := ownsRow_slice hown
                have hB38 := below_app hB37 hI37 hgrow
                have hI38 : wn38.ownsRow wr.heap.size 3 1 (.slice sa38 sl38 sc38) ma ((s.at_.take 260).map encN) := by simpa using hown
                have hA38 := own_keep hA37 hI37 (by decide) hgrow
                clear hown hgrow hloc
                clear y_0 y_1 y_2 y_3
                have y_0 : wn38.cell? (x.add (i * 4)) = some (.int .i64 s.kind) := (hB38.cell (p := x.add (i * 4)) hxbb.out).trans z0.out
                have y_1 : wn38.cell? ⟨(x.add (i * 4)).block, (x.add (i * 4)).off + 1, none⟩ = some (.int .i64 s.k) := (hB38.cell (p := ⟨(x.add (i * 4)).block, (x.add (i * 4)).off + 1, none⟩) hxbb.out).trans z1.out
                have y_2 : wn38.cell? ⟨(x.add (i * 4)).block, (x.add (i * 4)).off + 2, none⟩ = some (.slice b1 s.bytes.length b3) := (hB38.cell (p := ⟨(x.add (i * 4)).block, (x.add (i * 4)).off + 2, none⟩) hxbb.out).trans z2.out
                have y_3 : wn38.cell? ⟨(x.add (i * 4)).block, (x.add (i * 4)).off + 3, none⟩ = some (.slice b4 s.at_.length b6) := (hB38.cell (p := ⟨(x.add (i * 4)).block, (x.add (i * 4)).off + 3, none⟩) hxbb.out).trans z3.out
                go_wp2
                refine hK _ _ ⟨?_, ?_⟩; (focus (simp only [ReAll, List.contains_cons, List.contains_nil, Nat.reduceBEq, Bool.or_true, Bool.true_or, Bool.or_false, if_true, Bool.false_eq_true, if_false, and_true, true_and] <;> repeat' (first | trivial | (refine And.intro ?_ ?_) | (unfold YA; go_big_quiet_op; rfl)))); clear hK K
                refine canm_pure ?_ (i := 40) (rest' := [.ef 41 [0, 1, 2, 3, 4, 5, 6, 7, 8, 9, 11, 12, 13, 14, 15, 16, 17, 18, 19, 20, 21, 22, 23, 26, 27, 28, 29, 30, 31, 32, 33, 34, 35, 36, 37, 38, 40], .ef 42 []]) (by kernel_rfl) rfl rfl (fun W K hK => ?_) ?_; rotate_left; (focus (go_big_quiet_op; exact hK))
                refine canm_ef (bs := [(41, [0, 1, 2, 3, 4, 5, 6, 7, 8, 9, 11, 12, 13, 14, 15, 16, 17, 18, 19, 20, 21, 22, 23, 26, 27, 28, 29, 30, 31, 32, 33, 34, 35, 36, 37, 38, 40], [.ef 42 []])]) (by kernel_rfl) ?_
                refine ⟨⟨_, rfl, fun K hK => ?_⟩, trivial⟩
                · obtain ⟨wn39, hwn⟩ : ∃ wn, wn = wn38.alloc (.cells #[.int .i64 0, .int .i64 0, .slice none 0 0, .slice none 0 0] 51) := ⟨_, rfl⟩
                  obtain ⟨p39, hgn⟩ : ∃ g, g = wn38.heap.size := ⟨_, rfl⟩
                  have hB39 : Below wr.heap.size wr wn39 := by rw [hwn]; exact hB38.alloc hB38.size _
                  have hP39 : BlkAt wn39 p39 [.int .i64 0, .int .i64 0, .slice none 0 0, .slice none 0 0] 51 ∧ wr.heap.size ≤ p39 := ⟨by rw [hwn, hgn]; exact BlkAt.new wn38 [.int .i64 0, .int .i64 0, .slice none 0 0, .slice none 0 0] _, by rw [hgn]; exact hB38.size⟩
                  have hQ39 := hP39.2
                  have hP39 := hP39.1
                  have hA39 := hA38.alloc (.cells #[.int .i64 0, .int .i64 0, .slice none 0 0, .slice none 0 0] 51)
                  rw [← hwn] at hA39
                  have hI39 := hI38.alloc (.cells #[.int .i64 0, .int .i64 0, .slice none 0 0, .slice none 0 0] 51)
                  rw [← hwn] at hI39
                  clear y_0 y_1 y_2 y_3
                  have y_0 : wn39.cell? (x.add (i * 4)) = some (.int .i64 s.kind) := (hB39.cell (p := x.add (i * 4)) hxbb.out).trans z0.out
                  have y_1 : wn39.cell? ⟨(x.add (i * 4)).block, (x.add (i * 4)).off + 1, none⟩ = some (.int .i64 s.k) := (hB39.cell (p := ⟨(x.add (i * 4)).block, (x.add (i * 4)).off + 1, none⟩) hxbb.out).trans z1.out
                  have y_2 : wn39.cell? ⟨(x.add (i * 4)).block, (x.add (i * 4)).off + 2, none⟩ = some (.slice b1 s.bytes.length b3) := (hB39.cell (p := ⟨(x.add (i * 4)).block, (x.add (i * 4)).off + 2, none⟩) hxbb.out).trans z2.out
                  have y_3 : wn39.cell? ⟨(x.add (i * 4)).block, (x.add (i * 4)).off + 3, none⟩ = some (.slice b4 s.at_.length b6) := (hB39.cell (p := ⟨(x.add (i * 4)).block, (x.add (i * 4)).off + 3, none⟩) hxbb.out).trans z3.out
                  go_wp2
                  rw [← hwn, ← hgn]
                  clear hwn hgn
                  refine hK _ _ ⟨?_, ?_⟩; (focus (simp only [ReAll, List.contains_cons, List.contains_nil, Nat.reduceBEq, Bool.or_true, Bool.true_or, Bool.or_false, if_true, Bool.false_eq_true, if_false, and_true, true_and] <;> repeat' (first | trivial | (refine And.intro ?_ ?_) | (unfold YA; go_big_quiet_op; rfl)))); clear hK K
                  refine canm_ef (bs := [(42, [], [])]) (by kernel_rfl) ?_
                  refine ⟨⟨_, rfl, fun K hK => ?_⟩, trivial⟩
                  · have cz0 := hP39.cell (j := 0) rfl
                    have fz0 := hP39.fr 0
                    have cz1 := hP39.cell (j := 1) rfl
                    have fz1 := hP39.fr 1
                    have cz2 := hP39.cell (j := 2) rfl
                    have fz2 := hP39.fr 2
                    have cz3 := hP39.cell (j := 3) rfl
                    have fz3 := hP39.fr 3
                    have hpl := hP39.lt
                    go_wp2
                    refine hK _ _ ⟨?_, ?_⟩; (focus (simp only [ReAll, List.contains_cons, List.contains_nil, Nat.reduceBEq, Bool.or_true, Bool.true_or, Bool.or_false, if_true, Bool.false_eq_true, if_false, and_true, true_and] <;> repeat' (first | trivial | (refine And.intro ?_ ?_) | (unfold YA; go_big_quiet_op; rfl)))); clear hK K
                    refine canm_nil ?_
                    go_wp2
                    go_meet
                    exact ⟨_, rfl, _, _, _, rfl, clone_end hB39 hQ39 hP39 hA39 hI39⟩
              · obtain ⟨wn41, hwn⟩ : ∃ wn, wn = wn37.alloc (.cells #[.int .i64 0, .int .i64 0, .slice none 0 0, .slice none 0 0] 51) := ⟨_, rfl⟩
                obtain ⟨p41, hgn⟩ : ∃ g, g = wn37.heap.size := ⟨_, rfl⟩
                have hB41 : Below wr.heap.size wr wn41 := by rw [hwn]; exact hB37.alloc hB37.size _
                have hP41 : BlkAt wn41 p41 [.int .i64 0, .int .i64 0, .slice none 0 0, .slice none 0 0] 51 ∧ wr.heap.size ≤ p41 := ⟨by rw [hwn, hgn]; exact BlkAt.new wn37 [.int .i64 0, .int .i64 0, .slice none 0 0, .slice none 0 0] _, by rw [hgn]; exact hB37.size⟩
                have hQ41 := hP41.2
                have hP41 := hP41.1
                have hA41 := hA37.alloc (.cells #[.int .i64 0, .int .i64 0, .slice none 0 0, .slice none 0 0] 51)
                rw [← hwn] at hA41
                have hI41 := hI37.alloc (.cells #[.int .i64 0, .int .i64 0, .slice none 0 0, .slice none 0 0] 51)
                rw [← hwn] at hI41
                clear y_0 y_1 y_2 y_3
                have y_0 : wn41.cell? (x.add (i * 4)) = some (.int .i64 s.kind) := (hB41.cell (p := x.add (i * 4)) hxbb.out).trans z0.out
                have y_1 : wn41.cell? ⟨(x.add (i * 4)).block, (x.add (i * 4)).off + 1, none⟩ = some (.int .i64 s.k) := (hB41.cell (p := ⟨(x.add (i * 4)).block, (x.add (i * 4)).off + 1, none⟩) hxbb.out).trans z1.out
                have y_2 : wn41.cell? ⟨(x.add (i * 4)).block, (x.add (i * 4)).off + 2, none⟩ = some (.slice b1 s.bytes.length b3) := (hB41.cell (p := ⟨(x.add (i * 4)).block, (x.add (i * 4)).off + 2, none⟩) hxbb.out).trans z2.out
                have y_3 : wn41.cell? ⟨(x.add (i * 4)).block, (x.add (i * 4)).off + 3, none⟩ = some (.slice b4 s.at_.length b6) := (hB41.cell (p := ⟨(x.add (i * 4)).block, (x.add (i * 4)).off + 3, none⟩) hxbb.out).trans z3.out
                go_wp2
                rw [← hwn, ← hgn]
                clear hwn hgn
                refine hK _ _ ⟨?_, ?_⟩; (focus (simp only [ReAll, List.contains_cons, List.contains_nil, Nat.reduceBEq, Bool.or_true, Bool.true_or, Bool.or_false, if_true, Bool.false_eq_true, if_false, and_true, true_and] <;> repeat' (first | trivial | (refine And.intro ?_ ?_) | (unfold YA; go_big_quiet_op; rfl)))); clear hK K
                refine canm_ef (bs := [(39, [0, 1, 2, 3, 4, 5, 6, 7, 8, 9], [.st 40 .pure, .ef 42 []])]) (by kernel_rfl) ?_
                refine ⟨⟨_, rfl, fun K hK => ?_⟩, trivial⟩
                · refine wpList_append_src rfl _ _ 49 rfl wr.heap.size 3 j0 _ 1 8 Tryd.underlying49 hj0 hj1 hj2 hj3 rfl (by decide) (.slice (some ⟨g35, 0, none⟩) 0 0) 0 [] rfl hI41 (.slice b4 ma b6) ma ((s.at_.take 260).map encN) rfl (srcAt_mem srcI.out (fun a v h => (hB41.cell (p := a) (lt_of_cell h)).trans h)) oneI.out (by unfold maxLen; omega) (by omega) hB41.size ?_
                  intro v' wn42 hown hgrow hloc
                  obtain ⟨sa42, sl42, sc42, rfl⟩ := ownsRow_slice hown
                  have hB42 := below_app hB41 hI41 hgrow
                  have hI42 : wn42.ownsRow wr.heap.size 3 1 (.slice sa42 sl42 sc42) ma ((s.at_.take 260).map encN) := by simpa using hown
                  have hA42 := own_keep hA41 hI41 (by decide) hgrow
                  have hP42 := blk_keep hP41 hI41 (by decide) hgrow
                  clear hown hgrow hloc
                  clear y_0 y_1 y_2 y_3
                  have y_0 : wn42.cell? (x.add (i * 4)) = some (.int .i64 s.kind) := (hB42.cell (p := x.add (i * 4)) hxbb.out).trans z0.out
                  have y_1 : wn42.cell? ⟨(x.add (i * 4)).block, (x.add (i * 4)).off + 1, none⟩ = some (.int .i64 s.k) := (hB42.cell (p := ⟨(x.add (i * 4)).block, (x.add (i * 4)).off + 1, none⟩) hxbb.out).trans z1.out
                  have y_2 : wn42.cell? ⟨(x.add (i * 4)).block, (x.add (i * 4)).off + 2, none⟩ = some (.slice b1 s.bytes.length b3) := (hB42.cell (p := ⟨(x.add (i * 4)).block, (x.add (i * 4)).off + 2, none⟩) hxbb.out).trans z2.out
                  have y_3 : wn42.cell? ⟨(x.add (i * 4)).block, (x.add (i * 4)).off + 3, none⟩ = some (.slice b4 s.at_.length b6) := (hB42.cell (p := ⟨(x.add (i * 4)).block, (x.add (i * 4)).off + 3, none⟩) hxbb.out).trans z3.out
                  go_wp2
                  refine hK _ _ ⟨?_, ?_⟩; (focus (simp only [ReAll, List.contains_cons, List.contains_nil, Nat.reduceBEq, Bool.or_true, Bool.true_or, Bool.or_false, if_true, Bool.false_eq_true, if_false, and_true, true_and] <;> repeat' (first | trivial | (refine And.intro ?_ ?_) | (unfold YA; go_big_quiet_op; rfl)))); clear hK K
                  refine canm_pure ?_ (i := 40) (rest' := [.ef 42 []]) (by kernel_rfl) rfl rfl (fun W K hK => ?_) ?_; rotate_left; (focus (go_big_quiet_op; exact hK))
                  refine canm_ef (bs := [(42, [], [])]) (by kernel_rfl) ?_
                  refine ⟨⟨_, rfl, fun K hK => ?_⟩, trivial⟩
                  · have cz0 := hP42.cell (j := 0) rfl
                    have fz0 := hP42.fr 0
                    have cz1 := hP42.cell (j := 1) rfl
                    have fz1 := hP42.fr 1
                    have cz2 := hP42.cell (j := 2) rfl
                    have fz2 := hP42.fr 2
                    have cz3 := hP42.cell (j := 3) rfl
                    have fz3 := hP42.fr 3
                    have hpl := hP42.lt
                    go_wp2
                    refine hK _ _ ⟨?_, ?_⟩; (focus (simp only [ReAll, List.contains_cons, List.contains_nil, Nat.reduceBEq, Bool.or_true, Bool.true_or, Bool.or_false, if_true, Bool.false_eq_true, if_false, and_true, true_and] <;> repeat' (first | trivial | (refine And.intro ?_ ?_) | (unfold YA; go_big_quiet_op; rfl)))); clear hK K
                    refine canm_nil ?_
                    go_wp2
                    go_meet
                    exact ⟨_, rfl, _, _, _, rfl, clone_end hB42 hQ41 hP42 hA42 hI42⟩
            · obtain ⟨wn44, hwn⟩ : ∃ wn, wn = wn36.alloc (.cells #[.int .i64 0, .int .i64 0, .slice none 0 0, .slice none 0 0] 51) := ⟨_, rfl⟩
              obtain ⟨p44, hgn⟩ : ∃ g, g = wn36.heap.size := ⟨_, rfl⟩
              have hB44 : Below wr.heap.size wr wn44 := by rw [hwn]; exact hB36.alloc hB36.size _
              have hP44 : BlkAt wn44 p44 [.int .i64 0, .int .i64 0, .slice none 0 0, .slice none 0 0] 51 ∧ wr.heap.size ≤ p44 := ⟨by rw [hwn, hgn]; exact BlkAt.new wn36 [.int .i64 0, .int .i64 0, .slice none 0 0, .slice none 0 0] _, by rw [hgn]; exact hB36.size⟩
              have hQ44 := hP44.2
              have hP44 := hP44.1
              have hA44 := hA36.alloc (.cells #[.int .i64 0, .int .i64 0, .slice none 0 0, .slice none 0 0] 51)
              rw [← hwn] at hA44
              have hI44 := hI36.alloc (.cells #[.int .i64 0, .int .i64 0, .slice none 0 0, .slice none 0 0] 51)
              rw [← hwn] at hI44
              clear y_0 y_1 y_2 y_3
              have y_0 : wn44.cell? (x.add (i * 4)) = some (.int .i64 s.kind) := (hB44.cell (p := x.add (i * 4)) hxbb.out).trans z0.out
              have y_1 : wn44.cell? ⟨(x.add (i * 4)).block, (x.add (i * 4)).off + 1, none⟩ = some (.int .i64 s.k) := (hB44.cell (p := ⟨(x.add (i * 4)).block, (x.add (i * 4)).off + 1, none⟩) hxbb.out).trans z1.out
              have y_2 : wn44.cell? ⟨(x.add (i * 4)).block, (x.add (i * 4)).off + 2, none⟩ = some (.slice b1 s.bytes.length b3) := (hB44.cell (p := ⟨(x.add (i * 4)).block, (x.add (i * 4)).off + 2, none⟩) hxbb.out).trans z2.out
              have y_3 : wn44.cell? ⟨(x.add (i * 4)).block, (x.add (i * 4)).off + 3, none⟩ = some (.slice b4 s.at_.length b6) := (hB44.cell (p := ⟨(x.add (i * 4)).block, (x.add (i * 4)).off + 3, none⟩) hxbb.out).trans z3.out
              go_wp2
              rw [← hwn, ← hgn]
              clear hwn hgn
              refine hK _ _ ⟨?_, ?_⟩; (focus (simp only [ReAll, List.contains_cons, List.contains_nil, Nat.reduceBEq, Bool.or_true, Bool.true_or, Bool.or_false, if_true, Bool.false_eq_true, if_false, and_true, true_and] <;> repeat' (first | trivial | (refine And.intro ?_ ?_) | (unfold YA; go_big_quiet_op; rfl)))); clear hK K
              refine canm_ef (bs := [(24, [0, 1, 2, 3, 4, 5, 6, 7, 8, 9, 26, 27, 28, 29, 30, 31, 32, 33, 34, 35, 36, 37, 38], [.ef 39 [0, 1, 2, 3, 4, 5, 6, 7, 8, 9], .st 40 .pure, .ef 42 []])]) (by kernel_rfl) ?_
              refine ⟨⟨_, rfl, fun K hK => ?_⟩, trivial⟩
              · refine wpList_append_src rfl _ _ 28 rfl wr.heap.size 5 i0 _ 1 1 Tryd.underlying28 hi hi0 hi1 hi2 rfl (by decide) (.slice (some ⟨g36, 0, none⟩) 0 0) 0 [] rfl hA44 (.slice b1 mb b3) mb (rowB (s.bytes.take 260)) rfl (srcAt_mem srcB.out (fun a v h => (hB44.cell (p := a) (lt_of_cell h)).trans h)) oneB.out (by unfold maxLen; omega) (by omega) hB44.size ?_
                intro v' wn45 hown hgrow hloc
                obtain ⟨sa45, sl45, sc45, rfl⟩ := ownsRow_slice hown
                have hB45 := below_app hB44 hA44 hgrow
                have hA45 : wn45.ownsRow wr.heap.size 5 1 (.slice sa45 sl45 sc45) mb (rowB (s.bytes.take 260)) := by simpa using hown
                have hI45 := own_keep hI44 hA44 (by decide) hgrow
                have hP45 := blk_keep hP44 hA44 (by decide) hgrow
                clear hown hgrow hloc
                clear y_0 y_1 y_2 y_3
                have y_0 : wn45.cell? (x.add (i * 4)) = some (.int .i64 s.kind) := (hB45.cell (p := x.add (i * 4)) hxbb.out).trans z0.out
                have y_1 : wn45.cell? ⟨(x.add (i * 4)).block, (x.add (i * 4)).off + 1, none⟩ = some (.int .i64 s.k) := (hB45.cell (p := ⟨(x.add (i * 4)).block, (x.add (i * 4)).off + 1, none⟩) hxbb.out).trans z1.out
                have y_2 : wn45.cell? ⟨(x.add (i * 4)).block, (x.add (i * 4)).off + 2, none⟩ = some (.slice b1 s.bytes.length b3) := (hB45.cell (p := ⟨(x.add (i * 4)).block, (x.add (i * 4)).off + 2, none⟩) hxbb.out).trans z2.out
                have y_3 : wn45.cell? ⟨(x.add (i * 4)).block, (x.add (i * 4)).off + 3, none⟩ = some (.slice b4 s.at_.length b6) := (hB45.cell (p := ⟨(x.add (i * 4)).block, (x.add (i * 4)).off + 3, none⟩) hxbb.out).trans z3.out
                go_wp2
                refine hK _ _ ⟨?_, ?_⟩; (focus (simp only [ReAll, List.contains_cons, List.contains_nil, Nat.reduceBEq, Bool.or_true, Bool.true_or, Bool.or_false, if_true, Bool.false_eq_true, if_false, and_true, true_and] <;> repeat' (first | trivial | (refine And.intro ?_ ?_) | (unfold YA; go_big_quiet_op; rfl)))); clear hK K
                refine canm_ef (bs := [(39, [0, 1, 2, 3, 4, 5, 6, 7, 8, 9], [.st 40 .pure, .ef 42 []])]) (by kernel_rfl) ?_
                refine ⟨⟨_, rfl, fun K hK => ?_⟩, trivial⟩
                · refine wpList_append_src rfl _ _ 49 rfl wr.heap.size 3 j0 _ 1 8 Tryd.underlying49 hj0 hj1 hj2 hj3 rfl (by decide) (.slice (some ⟨g35, 0, none⟩) 0 0) 0 [] rfl hI45 (.slice b4 ma b6) ma ((s.at_.take 260).map encN) rfl (srcAt_mem srcI.out (fun a v h => (hB45.cell (p := a) (lt_of_cell h)).trans h)) oneI.out (by unfold maxLen; omega) (by omega) hB45.size ?_
                  intro v' wn46 hown hgrow hloc
                  obtain ⟨sa46, sl46, sc46, rfl⟩ := ownsRow_slice hown
                  have hB46 := below_app hB45 hI45 hgrow
                  have hI46 : wn46.ownsRow wr.heap.size 3 1 (.slice sa46 sl46 sc46) ma ((s.at_.take 260).map encN) := by simpa using hown
                  have hA46 := own_keep hA45 hI45 (by decide) hgrow
                  have hP46 := blk_keep hP45 hI45 (by decide) hgrow
                  clear hown hgrow hloc
                  clear y_0 y_1 y_2 y_3
                  have y_0 : wn46.cell? (x.add (i * 4)) = some (.int .i64 s.kind) := (hB46.cell (p := x.add (i * 4)) hxbb.out).trans z0.out
                  have y_1 : wn46.cell? ⟨(x.add (i * 4)).block, (x.add (i * 4)).off + 1, none⟩ = some (.int .i64 s.k) := (hB46.cell (p := ⟨(x.add (i * 4)).block, (x.add (i * 4)).off + 1, none⟩) hxbb.out).trans z1.out
                  have y_2 : wn46.cell? ⟨(x.add (i * 4)).block, (x.add (i * 4)).off + 2, none⟩ = some (.slice b1 s.bytes.length b3) := (hB46.cell (p := ⟨(x.add (i * 4)).block, (x.add (i * 4)).off + 2, none⟩) hxbb.out).trans z2.out
                  have y_3 : wn46.cell? ⟨(x.add (i * 4)).block, (x.add (i * 4)).off + 3, none⟩ = some (.slice b4 s.at_.length b6) := (hB46.cell (p := ⟨(x.add (i * 4)).block, (x.add (i * 4)).off + 3, none⟩) hxbb.out).trans z3.out
                  go_wp2
                  refine hK _ _ ⟨?_, ?_⟩; (focus (simp only [ReAll, List.contains_cons, List.contains_nil, Nat.reduceBEq, Bool.or_true, Bool.true_or, Bool.or_false, if_true, Bool.false_eq_true, if_false, and_true, true_and] <;> repeat' (first | trivial | (refine And.intro ?_ ?_) | (unfold YA; go_big_quiet_op; rfl)))); clear hK K
                  refine canm_pure ?_ (i := 40) (rest' := [.ef 42 []]) (by kernel_rfl) rfl rfl (fun W K hK => ?_) ?_; rotate_left; (focus (go_big_quiet_op; exact hK))
                  refine canm_ef (bs := [(42, [], [])]) (by kernel_rfl) ?_
                  refine ⟨⟨_, rfl, fun K hK => ?_⟩, trivial⟩
                  · have cz0 := hP46.cell (j := 0) rfl
                    have fz0 := hP46.fr 0
                    have cz1 := hP46.cell (j := 1) rfl
                    have fz1 := hP46.fr 1
                    have cz2 := hP46.cell (j := 2) rfl
                    have fz2 := hP46.fr 2
                    have cz3 := hP46.cell (j := 3) rfl
                    have fz3 := hP46.fr 3
                    have hpl := hP46.lt
                    go_wp2
                    refine hK _ _ ⟨?_, ?_⟩; (focus (simp only [ReAll, List.contains_cons, List.contains_nil, Nat.reduceBEq, Bool.or_true, Bool.true_or, Bool.or_false, if_true, Bool.false_eq_true, if_false, and_true, true_and] <;> repeat' (first | trivial | (refine And.intro ?_ ?_) | (unfold YA; go_big_quiet_op; rfl)))); clear hK K
                    refine canm_nil ?_
                    go_wp2
                    go_meet
                    exact ⟨_, rfl, _, _, _, rfl, clone_end hB46 hQ44 hP46 hA46 hI46⟩
          · obtain ⟨wn48, hwn⟩ : ∃ wn, wn = wn35.alloc (.cells #[.int .i64 0, .int .i64 0, .slice none 0 0, .slice none 0 0] 51) := ⟨_, rfl⟩
            obtain ⟨p48, hgn⟩ : ∃ g, g = wn35.heap.size := ⟨_, rfl⟩
            have hB48 : Below wr.heap.size wr wn48 := by rw [hwn]; exact hB35.alloc hB35.size _
            have hP48 : BlkAt wn48 p48 [.int .i64 0, .int .i64 0, .slice none 0 0, .slice none 0 0] 51 ∧ wr.heap.size ≤ p48 := ⟨by rw [hwn, hgn]; exact BlkAt.new wn35 [.int .i64 0, .int .i64 0, .slice none 0 0, .slice none 0 0] _, by rw [hgn]; exact hB35.size⟩
            have hQ48 := hP48.2
            have hP48 := hP48.1
            have hI48 := hI35.alloc (.cells #[.int .i64 0, .int .i64 0, .slice none 0 0, .slice none 0 0] 51)
            rw [← hwn] at hI48
            clear y_0 y_1 y_2 y_3
            have y_0 : wn48.cell? (x.add (i * 4)) = some (.int .i64 s.kind) := (hB48.cell (p := x.add (i * 4)) hxbb.out).trans z0.out
            have y_1 : wn48.cell? ⟨(x.add (i * 4)).block, (x.add (i * 4)).off + 1, none⟩ = some (.int .i64 s.k) := (hB48.cell (p := ⟨(x.add (i * 4)).block, (x.add (i * 4)).off + 1, none⟩) hxbb.out).trans z1.out
            have y_2 : wn48.cell? ⟨(x.add (i * 4)).block, (x.add (i * 4)).off + 2, none⟩ = some (.slice b1 s.bytes.length b3) := (hB48.cell (p := ⟨(x.add (i * 4)).block, (x.add (i * 4)).off + 2, none⟩) hxbb.out).trans z2.out
            have y_3 : wn48.cell? ⟨(x.add (i * 4)).block, (x.add (i * 4)).off + 3, none⟩ = some (.slice b4 s.at_.length b6) := (hB48.cell (p := ⟨(x.add (i * 4)).block, (x.add (i * 4)).off + 3, none⟩) hxbb.out).trans z3.out
            go_wp2
            rw [← hwn, ← hgn]
            clear hwn hgn
            refine hK _ _ ⟨?_, ?_⟩; (focus (simp only [ReAll, List.contains_cons, List.contains_nil, Nat.reduceBEq, Bool.or_true, Bool.true_or, Bool.or_false, if_true, Bool.false_eq_true, if_false, and_true, true_and] <;> repeat' (first | trivial | (refine And.intro ?_ ?_) | (unfold YA; go_big_quiet_op; rfl)))); clear hK K
            refine canm_ef (bs := [(10, [0, 1, 2, 3, 4, 5, 6, 7, 8, 9, 11, 12, 13, 14, 15, 16, 17, 18, 19, 20, 21, 22, 23, 26, 27, 28, 29, 30, 31, 32, 33, 34, 35, 36, 37, 38], [.ef 24 [0, 1, 2, 3, 4, 5, 6, 7, 8, 9, 26, 27, 28, 29, 30, 31, 32, 33, 34, 35, 36, 37, 38], .ef 39 [0, 1, 2, 3, 4, 5, 6, 7, 8, 9], .st 40 .pure, .ef 42 []])]) (by kernel_rfl) ?_
            refine ⟨⟨_, rfl, fun K hK => ?_⟩, trivial⟩
            · obtain ⟨wn49, hwn⟩ : ∃ wn, wn = wn48.alloc (.cells #[] 5) := ⟨_, rfl⟩
              obtain ⟨g49, hgn⟩ : ∃ g, g = wn48.heap.size := ⟨_, rfl⟩
              have hB49 : Below wr.heap.size wr wn49 := by rw [hwn]; exact hB48.alloc hB48.size _
              have hA49 : wn49.ownsRow wr.heap.size 5 1 (.slice (some ⟨g49, 0, none⟩) 0 0) 0 [] := by rw [hwn, hgn]; exact own_empty wn48 _ _ hB48.size
              have hI49 := hI48.alloc (.cells #[] 5)
              rw [← hwn] at hI49
              have hP49 := hP48.block (Below.heap_alloc wn48 (.cells #[] 5) _ hP48.lt)
              rw [← hwn] at hP49
              clear y_0 y_1 y_2 y_3
              have y_0 : wn49.cell? (x.add (i * 4)) = some (.int .i64 s.kind) := (hB49.cell (p := x.add (i * 4)) hxbb.out).trans z0.out
              have y_1 : wn49.cell? ⟨(x.add (i * 4)).block, (x.add (i * 4)).off + 1, none⟩ = some (.int .i64 s.k) := (hB49.cell (p := ⟨(x.add (i * 4)).block, (x.add (i * 4)).off + 1, none⟩) hxbb.out).trans z1.out
              have y_2 : wn49.cell? ⟨(x.add (i * 4)).block, (x.add (i * 4)).off + 2, none⟩ = some (.slice b1 s.bytes.length b3) := (hB49.cell (p := ⟨(x.add (i * 4)).block, (x.add (i * 4)).off + 2, none⟩) hxbb.out).trans z2.out
              have y_3 : wn49.cell? ⟨(x.add (i * 4)).block, (x.add (i * 4)).off + 3, none⟩ = some (.slice b4 s.at_.length b6) := (hB49.cell (p := ⟨(x.add (i * 4)).block, (x.add (i * 4)).off + 3, none⟩) hxbb.out).trans z3.out
              go_wp2
              rw [← hwn, ← hgn]
              clear hwn hgn
              refine hK _ _ ⟨?_, ?_⟩; (focus (simp only [ReAll, List.contains_cons, List.contains_nil, Nat.reduceBEq, Bool.or_true, Bool.true_or, Bool.or_false, if_true, Bool.false_eq_true, if_false, and_true, true_and] <;> repeat' (first | trivial | (refine And.intro ?_ ?_) | (unfold YA; go_big_quiet_op; rfl)))); clear hK K
              refine canm_ef (bs := [(24, [0, 1, 2, 3, 4, 5, 6, 7, 8, 9, 26, 27, 28, 29, 30, 31, 32, 33, 34, 35, 36, 37, 38], [.ef 39 [0, 1, 2, 3, 4, 5, 6, 7, 8, 9], .st 40 .pure, .ef 42 []])]) (by kernel_rfl) ?_
              refine ⟨⟨_, rfl, fun K hK => ?_⟩, trivial⟩
              · refine wpList_append_src rfl _ _ 28 rfl wr.heap.size 5 i0 _ 1 1 Tryd.underlying28 hi hi0 hi1 hi2 rfl (by decide) (.slice (some ⟨g49, 0, none⟩) 0 0) 0 [] rfl hA49 (.slice b1 mb b3) mb (rowB (s.bytes.take 260)) rfl (srcAt_mem srcB.out (fun a v h => (hB49.cell (p := a) (lt_of_cell h)).trans h)) oneB.out (by unfold maxLen; omega) (by omega) hB49.size ?_
                intro v' wn50 hown hgrow hloc
                obtain ⟨sa50, sl50, sc50, rfl⟩ := ownsRow_slice hown
                have hB50 := below_app hB49 hA49 hgrow
                have hA50 : wn50.ownsRow wr.heap.size 5 1 (.slice sa50 sl50 sc50) mb (rowB (s.bytes.take 260)) := by simpa using hown
                have hI50 := own_keep hI49 hA49 (by decide) hgrow
                have hP50 := blk_keep hP49 hA49 (by decide) hgrow
                clear hown hgrow hloc
                clear y_0 y_1 y_2 y_3
                have y_0 : wn50.cell? (x.add (i * 4)) = some (.int .i64 s.kind) := (hB50.cell (p := x.add (i * 4)) hxbb.out).trans z0.out
                have y_1 : wn50.cell? ⟨(x.add (i * 4)).block, (x.add (i * 4)).off + 1, none⟩ = some (.int .i64 s.k) := (hB50.cell (p := ⟨(x.add (i * 4)).block, (x.add (i * 4)).off + 1, none⟩) hxbb.out).trans z1.out
                have y_2 : wn50.cell? ⟨(x.add (i * 4)).block, (x.add (i * 4)).off + 2, none⟩ = some (.slice b1 s.bytes.length b3) := (hB50.cell (p := ⟨(x.add (i * 4)).block, (x.add (i * 4)).off + 2, none⟩) hxbb.out).trans z2.out
                have y_3 : wn50.cell? ⟨(x.add (i * 4)).block, (x.add (i * 4)).off + 3, none⟩ = some (.slice b4 s.at_.length b6) := (hB50.cell (p := ⟨(x.add (i * 4)).block, (x.add (i * 4)).off + 3, none⟩) hxbb.out).trans z3.out
                go_wp2
                refine hK _ _ ⟨?_, ?_⟩; (focus (simp only [ReAll, List.contains_cons, List.contains_nil, Nat.reduceBEq, Bool.or_true, Bool.true_or, Bool.or_false, if_true, Bool.false_eq_true, if_false, and_true, true_and] <;> repeat' (first | trivial | (refine And.intro ?_ ?_) | (unfold YA; go_big_quiet_op; rfl)))); clear hK K
                refine canm_ef (bs := [(39, [0, 1, 2, 3, 4, 5, 6, 7, 8, 9], [.st 40 .pure, .ef 42 []])]) (by kernel_rfl) ?_
                refine ⟨⟨_, rfl, fun K hK => ?_⟩, trivial⟩
                · refine wpList_append_src rfl _ _ 49 rfl wr.heap.size 3 j0 _ 1 8 Tryd.underlying49 hj0 hj1 hj2 hj3 rfl (by decide) (.slice (some ⟨g35, 0, none⟩) 0 0) 0 [] rfl hI50 (.slice b4 ma b6) ma ((s.at_.take 260).map encN) rfl (srcAt_mem srcI.out (fun a v h => (hB50.cell (p := a) (lt_of_cell h)).trans h)) oneI.out (by unfold maxLen; omega) (by omega) hB50.size ?_
                  intro v' wn51 hown hgrow hloc
                  obtain ⟨sa51, sl51, sc51, rfl⟩ := ownsRow_slice hown
                  have hB51 := below_app hB50 hI50 hgrow
                  have hI51 : wn51.ownsRow wr.heap.size 3 1 (.slice sa51 sl51 sc51) ma ((s.at_.take 260).map encN) := by simpa using hown
                  have hA51 := own_keep hA50 hI50 (by decide) hgrow
                  have hP51 := blk_keep hP50 hI50 (by decide) hgrow
                  clear hown hgrow hloc
                  clear y_0 y_1 y_2 y_3
                  have y_0 : wn51.cell? (x.add (i * 4)) = some (.int .i64 s.kind) := (hB51.cell (p := x.add (i * 4)) hxbb.out).trans z0.out
                  have y_1 : wn51.cell? ⟨(x.add (i * 4)).block, (x.add (i * 4)).off + 1, none⟩ = some (.int .i64 s.k) := (hB51.cell (p := ⟨(x.add (i * 4)).block, (x.add (i * 4)).off + 1, none⟩) hxbb.out).trans z1.out
                  have y_2 : wn51.cell? ⟨(x.add (i * 4)).block, (x.add (i * 4)).off + 2, none⟩ = some (.slice b1 s.bytes.length b3) := (hB51.cell (p := ⟨(x.add (i * 4)).block, (x.add (i * 4)).off + 2, none⟩) hxbb.out).trans z2.out
                  have y_3 : wn51.cell? ⟨(x.add (i * 4)).block, (x.add (i * 4)).off + 3, none⟩ = some (.slice b4 s.at_.length b6) := (hB51.cell (p := ⟨(x.add (i * 4)).block, (x.add (i * 4)).off + 3, none⟩) hxbb.out).trans z3.out
                  go_wp2
                  refine hK _ _ ⟨?_, ?_⟩; (focus (simp only [ReAll, List.contains_cons, List.contains_nil, Nat.reduceBEq, Bool.or_true, Bool.true_or, Bool.or_false, if_true, Bool.false_eq_true, if_false, and_true, true_and] <;> repeat' (first | trivial | (refine And.intro ?_ ?_) | (unfold YA; go_big_quiet_op; rfl)))); clear hK K
                  refine canm_pure ?_ (i := 40) (rest' := [.ef 42 []]) (by kernel_rfl) rfl rfl (fun W K hK => ?_) ?_; rotate_left; (focus (go_big_quiet_op; exact hK))
                  refine canm_ef (bs := [(42, [], [])]) (by kernel_rfl) ?_
                  refine ⟨⟨_, rfl, fun K hK => ?_⟩, trivial⟩
                  · have cz0 := hP51.cell (j := 0) rfl
                    have fz0 := hP51.fr 0
                    have cz1 := hP51.cell (j := 1) rfl
                    have fz1 := hP51.fr 1
                    have cz2 := hP51.cell (j := 2) rfl
                    have fz2 := hP51.fr 2
                    have cz3 := hP51.cell (j := 3) rfl
                    have fz3 := hP51.fr 3
                    have hpl := hP51.lt
                    go_wp2
                    refine hK _ _ ⟨?_, ?_⟩; (focus (simp only [ReAll, List.contains_cons, List.contains_nil, Nat.reduceBEq, Bool.or_true, Bool.true_or, Bool.or_false, if_true, Bool.false_eq_true, if_false, and_true, true_and] <;> repeat' (first | trivial | (refine And.intro ?_ ?_) | (unfold YA; go_big_quiet_op; rfl)))); clear hK K
                    refine canm_nil ?_
                    go_wp2
                    go_meet
                    exact ⟨_, rfl, _, _, _, rfl, clone_end hB51 hQ48 hP51 hA51 hI51⟩
        · obtain ⟨wn53, hwn⟩ : ∃ wn, wn = w0.alloc (.cells #[.int .i64 0, .int .i64 0, .slice none 0 0, .slice none 0 0] 51) := ⟨_, rfl⟩
          obtain ⟨p53, hgn⟩ : ∃ g, g = w0.heap.size := ⟨_, rfl⟩
          have hB53 : Below wr.heap.size wr wn53 := by rw [hwn]; exact hB0.alloc hB0.size _
          have hP53 : BlkAt wn53 p53 [.int .i64 0, .int .i64 0, .slice none 0 0, .slice none 0 0] 51 ∧ wr.heap.size ≤ p53 := ⟨by rw [hwn, hgn]; exact BlkAt.new w0 [.int .i64 0, .int .i64 0, .slice none 0 0, .slice none 0 0] _, by rw [hgn]; exact hB0.size⟩
          have hQ53 := hP53.2
          have hP53 := hP53.1
          clear y_0 y_1 y_2 y_3
          have y_0 : wn53.cell? (x.add (i * 4)) = some (.int .i64 s.kind) := (hB53.cell (p := x.add (i * 4)) hxbb.out).trans z0.out
          have y_1 : wn53.cell? ⟨(x.add (i * 4)).block, (x.add (i * 4)).off + 1, none⟩ = some (.int .i64 s.k) := (hB53.cell (p := ⟨(x.add (i * 4)).block, (x.add (i * 4)).off + 1, none⟩) hxbb.out).trans z1.out
          have y_2 : wn53.cell? ⟨(x.add (i * 4)).block, (x.add (i * 4)).off + 2, none⟩ = some (.slice b1 s.bytes.length b3) := (hB53.cell (p := ⟨(x.add (i * 4)).block, (x.add (i * 4)).off + 2, none⟩) hxbb.out).trans z2.out
          have y_3 : wn53.cell? ⟨(x.add (i * 4)).block, (x.add (i * 4)).off + 3, none⟩ = some (.slice b4 s.at_.length b6) := (hB53.cell (p := ⟨(x.add (i * 4)).block, (x.add (i * 4)).off + 3, none⟩) hxbb.out).trans z3.out
          go_wp2
          rw [← hwn, ← hgn]
          clear hwn hgn
          refine hK _ _ ⟨?_, ?_⟩; (focus (simp only [ReAll, List.contains_cons, List.contains_nil, Nat.reduceBEq, Bool.or_true, Bool.true_or, Bool.or_false, if_true, Bool.false_eq_true, if_false, and_true, true_and] <;> repeat' (first | trivial | (refine And.intro ?_ ?_) | (unfold YA; go_big_quiet_op; rfl)))); clear hK K
          refine canm_ef (bs := [(10, [0, 1, 2, 3, 4, 5, 6, 7, 8, 9, 11, 12, 13, 14, 15, 16, 17, 18, 19, 20, 21, 22, 23, 26, 27, 28, 29, 30, 31, 32, 33, 34, 35, 36, 37, 38], [.ef 24 [0, 1, 2, 3, 4, 5, 6, 7, 8, 9, 26, 27, 28, 29, 30, 31, 32, 33, 34, 35, 36, 37, 38], .ef 25 [0, 1, 2, 3, 4, 5, 6, 7, 8, 9, 11, 12, 13, 14, 15, 16, 17, 18, 19, 20, 21, 22, 23, 26, 27, 28, 29, 30, 31, 32, 33, 34, 35, 36, 37, 38], .ef 39 [0, 1, 2, 3, 4, 5, 6, 7, 8, 9], .st 40 .pure, .ef 42 []]), (25, [0, 1, 2, 3, 4, 5, 6, 7, 8, 9, 11, 12, 13, 14, 15, 16, 17, 18, 19, 20, 21, 22, 23, 26, 27, 28, 29, 30, 31, 32, 33, 34, 35, 36, 37, 38], [.ef 10 [0, 1, 2, 3, 4, 5, 6, 7, 8, 9, 11, 12, 13, 14, 15, 16, 17, 18, 19, 20, 21, 22, 23, 26, 27, 28, 29, 30, 31, 32, 33, 34, 35, 36, 37, 38], .ef 24 [0, 1, 2, 3, 4, 5, 6, 7, 8, 9, 26, 27, 28, 29, 30, 31, 32, 33, 34, 35, 36, 37, 38], .ef 39 [0, 1, 2, 3, 4, 5, 6, 7, 8, 9], .st 40 .pure, .ef 42 []])]) (by kernel_rfl) ?_
          refine ⟨⟨_, rfl, fun K hK => ?_⟩, ⟨_, rfl, fun K hK => ?_⟩, trivial⟩
          · obtain ⟨wn54, hwn⟩ : ∃ wn, wn = wn53.alloc (.cells #[] 5) := ⟨_, rfl⟩
            obtain ⟨g54, hgn⟩ : ∃ g, g = wn53.heap.size := ⟨_, rfl⟩
            have hB54 : Below wr.heap.size wr wn54 := by rw [hwn]; exact hB53.alloc hB53.size _
            have hA54 : wn54.ownsRow wr.heap.size 5 1 (.slice (some ⟨g54, 0, none⟩) 0 0) 0 [] := by rw [hwn, hgn]; exact own_empty wn53 _ _ hB53.size
            have hP54 := hP53.block (Below.heap_alloc wn53 (.cells #[] 5) _ hP53.lt)
            rw [← hwn] at hP54
            clear y_0 y_1 y_2 y_3
            have y_0 : wn54.cell? (x.add (i * 4)) = some (.int .i64 s.kind) := (hB54.cell (p := x.add (i * 4)) hxbb.out).trans z0.out
            have y_1 : wn54.cell? ⟨(x.add (i * 4)).block, (x.add (i * 4)).off + 1, none⟩ = some (.int .i64 s.k) := (hB54.cell (p := ⟨(x.add (i * 4)).block, (x.add (i * 4)).off + 1, none⟩) hxbb.out).trans z1.out
            have y_2 : wn54.cell? ⟨(x.add (i * 4)).block, (x.add (i * 4)).off + 2, none⟩ = some (.slice b1 s.bytes.length b3) := (hB54.cell (p := ⟨(x.add (i * 4)).block, (x.add (i * 4)).off + 2, none⟩) hxbb.out).trans z2.out
            have y_3 : wn54.cell? ⟨(x.add (i * 4)).block, (x.add (i * 4)).off + 3, none⟩ = some (.slice b4 s.at_.length b6) := (hB54.cell (p := ⟨(x.add (i * 4)).block, (x.add (i * 4)).off + 3, none⟩) hxbb.out).trans z3.out
            go_wp2
            rw [← hwn, ← hgn]
            clear hwn hgn
            refine hK _ _ ⟨?_, ?_⟩; (focus (simp only [ReAll, List.contains_cons, List.contains_nil, Nat.reduceBEq, Bool.or_true, Bool.true_or, Bool.or_false, if_true, Bool.false_eq_true, if_false, and_true, true_and] <;> repeat' (first | trivial | (refine And.intro ?_ ?_) | (unfold YA; go_big_quiet_op; rfl)))); clear hK K
            refine canm_ef (bs := [(24, [0, 1, 2, 3, 4, 5, 6, 7, 8, 9, 26, 27, 28, 29, 30, 31, 32, 33, 34, 35, 36, 37, 38], [.ef 25 [0, 1, 2, 3, 4, 5, 6, 7, 8, 9, 11, 12, 13, 14, 15, 16, 17, 18, 19, 20, 21, 22, 23, 26, 27, 28, 29, 30, 31, 32, 33, 34, 35, 36, 37, 38], .ef 39 [0, 1, 2, 3, 4, 5, 6, 7, 8, 9], .st 40 .pure, .ef 42 []]), (25, [0, 1, 2, 3, 4, 5, 6, 7, 8, 9, 11, 12, 13, 14, 15, 16, 17, 18, 19, 20, 21, 22, 23, 26, 27, 28, 29, 30, 31, 32, 33, 34, 35, 36, 37, 38], [.ef 24 [0, 1, 2, 3, 4, 5, 6, 7, 8, 9, 26, 27, 28, 29, 30, 31, 32, 33, 34, 35, 36, 37, 38], .ef 39 [0, 1, 2, 3, 4, 5, 6, 7, 8, 9], .st 40 .pure, .ef 42 []])]) (by kernel_rfl) ?_
            refine ⟨⟨_, rfl, fun K hK => ?_⟩, ⟨_, rfl, fun K hK => ?_⟩, trivial⟩
            · refine wpList_append_src rfl _ _ 28 rfl wr.heap.size 5 i0 _ 1 1 Tryd.underlying28 hi hi0 hi1 hi2 rfl (by decide) (.slice (some ⟨g54, 0, none⟩) 0 0) 0 [] rfl hA54 (.slice b1 mb b3) mb (rowB (s.bytes.take 260)) rfl (srcAt_mem srcB.out (fun a v h => (hB54.cell (p := a) (lt_of_cell h)).trans h)) oneB.out (by unfold maxLen; omega) (by omega) hB54.size ?_
              intro v' wn55 hown hgrow hloc
              obtain ⟨sa55, sl55, sc55, rfl⟩ := ownsRow_slice hown
              have hB55 := below_app hB54 hA54 hgrow
              have hA55 : wn55.ownsRow wr.heap.size 5 1 (.slice sa55 sl55 sc55) mb (rowB (s.bytes.take 260)) := by simpa using hown
              have hP55 := blk_keep hP54 hA54 (by decide) hgrow
              clear hown hgrow hloc
              clear y_0 y_1 y_2 y_3
              have y_0 : wn55.cell? (x.add (i * 4)) = some (.int .i64 s.kind) := (hB55.cell (p := x.add (i * 4)) hxbb.out).trans z0.out
              have y_1 : wn55.cell? ⟨(x.add (i * 4)).block, (x.add (i * 4)).off + 1, none⟩ = some (.int .i64 s.k) := (hB55.cell (p := ⟨(x.add (i * 4)).block, (x.add (i * 4)).off + 1, none⟩) hxbb.out).trans z1.out
              have y_2 : wn55.cell? ⟨(x.add (i * 4)).block, (x.add (i * 4)).off + 2, none⟩ = some (.slice b1 s.bytes.length b3) := (hB55.cell (p := ⟨(x.add (i * 4)).block, (x.add (i * 4)).off + 2, none⟩) hxbb.out).trans z2.out
              have y_3 : wn55.cell? ⟨(x.add (i * 4)).block, (x.add (i * 4)).off + 3, none⟩ = some (.slice b4 s.at_.length b6) := (hB55.cell (p := ⟨(x.add (i * 4)).block, (x.add (i * 4)).off + 3, none⟩) hxbb.out).trans z3.out
              go_wp2
              refine hK _ _ ⟨?_, ?_⟩; (focus (simp only [ReAll, List.contains_cons, List.contains_nil, Nat.reduceBEq, Bool.or_true, Bool.true_or, Bool.or_false, if_true, Bool.false_eq_true, if_false, and_true, true_and] <;> repeat' (first | trivial | (refine And.intro ?_ ?_) | (unfold YA; go_big_quiet_op; rfl)))); clear hK K
              refine canm_ef (bs := [(25, [0, 1, 2, 3, 4, 5, 6, 7, 8, 9, 11, 12, 13, 14, 15, 16, 17, 18, 19, 20, 21, 22, 23, 26, 27, 28, 29, 30, 31, 32, 33, 34, 35, 36, 37, 38], [.ef 39 [0, 1, 2, 3, 4, 5, 6, 7, 8, 9], .st 40 .pure, .ef 42 []])]) (by kernel_rfl) ?_
              refine ⟨⟨_, rfl, fun K hK => ?_⟩, trivial⟩
              · obtain ⟨wn56, hwn⟩ : ∃ wn, wn = wn55.alloc (.cells #[] 3) := ⟨_, rfl⟩
                obtain ⟨g56, hgn⟩ : ∃ g, g = wn55.heap.size := ⟨_, rfl⟩
                have hB56 : Below wr.heap.size wr wn56 := by rw [hwn]; exact hB55.alloc hB55.size _
                have hI56 : wn56.ownsRow wr.heap.size 3 1 (.slice (some ⟨g56, 0, none⟩) 0 0) 0 [] := by rw [hwn, hgn]; exact own_empty wn55 _ _ hB55.size
                have hA56 := hA55.alloc (.cells #[] 3)
                rw [← hwn] at hA56
                have hP56 := hP55.block (Below.heap_alloc wn55 (.cells #[] 3) _ hP55.lt)
                rw [← hwn] at hP56
                clear y_0 y_1 y_2 y_3
                have y_0 : wn56.cell? (x.add (i * 4)) = some (.int .i64 s.kind) := (hB56.cell (p := x.add (i * 4)) hxbb.out).trans z0.out
                have y_1 : wn56.cell? ⟨(x.add (i * 4)).block, (x.add (i * 4)).off + 1, none⟩ = some (.int .i64 s.k) := (hB56.cell (p := ⟨(x.add (i * 4)).block, (x.add (i * 4)).off + 1, none⟩) hxbb.out).trans z1.out
                have y_2 : wn56.cell? ⟨(x.add (i * 4)).block, (x.add (i * 4)).off + 2, none⟩ = some (.slice b1 s.bytes.length b3) := (hB56.cell (p := ⟨(x.add (i * 4)).block, (x.add (i * 4)).off + 2, none⟩) hxbb.out).trans z2.out
                have y_3 : wn56.cell? ⟨(x.add (i * 4)).block, (x.add (i * 4)).off + 3, none⟩ = some (.slice b4 s.at_.length b6) := (hB56.cell (p := ⟨(x.add (i * 4)).block, (x.add (i * 4)).off + 3, none⟩) hxbb.out).trans z3.out
                go_wp2
                rw [← hwn, ← hgn]
                clear hwn hgn
                refine hK _ _ ⟨?_, ?_⟩; (focus (simp only [ReAll, List.contains_cons, List.contains_nil, Nat.reduceBEq, Bool.or_true, Bool.true_or, Bool.or_false, if_true, Bool.false_eq_true, if_false, and_true, true_and] <;> repeat' (first | trivial | (refine And.intro ?_ ?_) | (unfold YA; go_big_quiet_op; rfl)))); clear hK K
                refine canm_ef (bs := [(39, [0, 1, 2, 3, 4, 5, 6, 7, 8, 9], [.st 40 .pure, .ef 42 []])]) (by kernel_rfl) ?_
                refine ⟨⟨_, rfl, fun K hK => ?_⟩, trivial⟩
                · refine wpList_append_src rfl _ _ 49 rfl wr.heap.size 3 j0 _ 1 8 Tryd.underlying49 hj0 hj1 hj2 hj3 rfl (by decide) (.slice (some ⟨g56, 0, none⟩) 0 0) 0 [] rfl hI56 (.slice b4 ma b6) ma ((s.at_.take 260).map encN) rfl (srcAt_mem srcI.out (fun a v h => (hB56.cell (p := a) (lt_of_cell h)).trans h)) oneI.out (by unfold maxLen; omega) (by omega) hB56.size ?_
                  intro v' wn57 hown hgrow hloc
                  obtain ⟨sa57, sl57, sc57, rfl⟩ := ownsRow_slice hown
                  have hB57 := below_app hB56 hI56 hgrow
                  have hI57 : wn57.ownsRow wr.heap.size 3 1 (.slice sa57 sl57 sc57) ma ((s.at_.take 260).map encN) := by simpa using hown
                  have hA57 := own_keep hA56 hI56 (by decide) hgrow
                  have hP57 := blk_keep hP56 hI56 (by decide) hgrow
                  clear hown hgrow hloc
                  clear y_0 y_1 y_2 y_3
                  have y_0 : wn57.cell? (x.add (i * 4)) = some (.int .i64 s.kind) := (hB57.cell (p := x.add (i * 4)) hxbb.out).trans z0.out
                  have y_1 : wn57.cell? ⟨(x.add (i * 4)).block, (x.add (i * 4)).off + 1, none⟩ = some (.int .i64 s.k) := (hB57.cell (p := ⟨(x.add (i * 4)).block, (x.add (i * 4)).off + 1, none⟩) hxbb.out).trans z1.out
                  have y_2 : wn57.cell? ⟨(x.add (i * 4)).block, (x.add (i * 4)).off + 2, none⟩ = some (.slice b1 s.bytes.length b3) := (hB57.cell (p := ⟨(x.add (i * 4)).block, (x.add (i * 4)).off + 2, none⟩) hxbb.out).trans z2.out
                  have y_3 : wn57.cell? ⟨(x.add (i * 4)).block, (x.add (i * 4)).off + 3, none⟩ = some (.slice b4 s.at_.length b6) := (hB57.cell (p := ⟨(x.add (i * 4)).block, (x.add (i * 4)).off + 3, none⟩) hxbb.out).trans z3.out
                  go_wp2
                  refine hK _ _ ⟨?_, ?_⟩; (focus (simp only [ReAll, List.contains_cons, List.contains_nil, Nat.reduceBEq, Bool.or_true, Bool.true_or, Bool.or_false, if_true, Bool.false_eq_true, if_false, and_true, true_and] <;> repeat' (first | trivial | (refine And.intro ?_ ?_) | (unfold YA; go_big_quiet_op; rfl)))); clear hK K
                  refine canm_pure ?_ (i := 40) (rest' := [.ef 42 []]) (by kernel_rfl) rfl rfl (fun W K hK => ?_) ?_; rotate_left; (focus (go_big_quiet_op; exact hK))
                  refine canm_ef (bs := [(42, [], [])]) (by kernel_rfl) ?_
                  refine ⟨⟨_, rfl, fun K hK => ?_⟩, trivial⟩
                  · have cz0 := hP57.cell (j := 0) rfl
                    have fz0 := hP57.fr 0
                    have cz1 := hP57.cell (j := 1) rfl
                    have fz1 := hP57.fr 1
                    have cz2 := hP57.cell (j := 2) rfl
                    have fz2 := hP57.fr 2
                    have cz3 := hP57.cell (j := 3) rfl
                    have fz3 := hP57.fr 3
                    have hpl := hP57.lt
                    go_wp2
                    refine hK _ _ ⟨?_, ?_⟩; (focus (simp only [ReAll, List.contains_cons, List.contains_nil, Nat.reduceBEq, Bool.or_true, Bool.true_or, Bool.or_false, if_true, Bool.false_eq_true, if_false, and_true, true_and] <;> repeat' (first | trivial | (refine And.intro ?_ ?_) | (unfold YA; go_big_quiet_op; rfl)))); clear hK K
                    refine canm_nil ?_
                    go_wp2
                    go_meet
                    exact ⟨_, rfl, _, _, _, rfl, clone_end hB57 hQ53 hP57 hA57 hI57⟩
            · obtain ⟨wn59, hwn⟩ : ∃ wn, wn = wn54.alloc (.cells #[] 3) := ⟨_, rfl⟩
              obtain ⟨g59, hgn⟩ : ∃ g, g = wn54.heap.size := ⟨_, rfl⟩
              have hB59 : Below wr.heap.size wr wn59 := by rw [hwn]; exact hB54.alloc hB54.size _
              have hI59 : wn59.ownsRow wr.heap.size 3 1 (.slice (some ⟨g59, 0, none⟩) 0 0) 0 [] := by rw [hwn, hgn]; exact own_empty wn54 _ _ hB54.size
              have hA59 := hA54.alloc (.cells #[] 3)
              rw [← hwn] at hA59
              have hP59 := hP54.block (Below.heap_alloc wn54 (.cells #[] 3) _ hP54.lt)
              rw [← hwn] at hP59
              clear y_0 y_1 y_2 y_3
              have y_0 : wn59.cell? (x.add (i * 4)) = some (.int .i64 s.kind) := (hB59.cell (p := x.add (i * 4)) hxbb.out).trans z0.out
              have y_1 : wn59.cell? ⟨(x.add (i * 4)).block, (x.add (i * 4)).off + 1, none⟩ = some (.int .i64 s.k) := (hB59.cell (p := ⟨(x.add (i * 4)).block, (x.add (i * 4)).off + 1, none⟩) hxbb.out).trans z1.out
              have y_2 : wn59.cell? ⟨(x.add (i * 4)).block, (x.add (i * 4)).off + 2, none⟩ = some (.slice b1 s.bytes.length b3) := (hB59.cell (p := ⟨(x.add (i * 4)).block, (x.add (i * 4)).off + 2, none⟩) hxbb.out).trans z2.out
              have y_3 : wn59.cell? ⟨(x.add (i * 4)).block, (x.add (i * 4)).off + 3, none⟩ = some (.slice b4 s.at_.length b6) := (hB59.cell (p := ⟨(x.add (i * 4)).block, (x.add (i * 4)).off + 3, none⟩) hxbb.out).trans z3.out
              go_wp2
              rw [← hwn, ← hgn]
              clear hwn hgn
              refine hK _ _ ⟨?_, ?_⟩; (focus (simp only [ReAll, List.contains_cons, List.contains_nil, Nat.reduceBEq, Bool.or_true, Bool.true_or, Bool.or_false, if_true, Bool.false_eq_true, if_false, and_true, true_and] <;> repeat' (first | trivial | (refine And.intro ?_ ?_) | (unfold YA; go_big_quiet_op; rfl)))); clear hK K
              refine canm_ef (bs := [(24, [0, 1, 2, 3, 4, 5, 6, 7, 8, 9, 26, 27, 28, 29, 30, 31, 32, 33, 34, 35, 36, 37, 38], [.ef 39 [0, 1, 2, 3, 4, 5, 6, 7, 8, 9], .st 40 .pure, .ef 42 []])]) (by kernel_rfl) ?_
              refine ⟨⟨_, rfl, fun K hK => ?_⟩, trivial⟩
              · refine wpList_append_src rfl _ _ 28 rfl wr.heap.size 5 i0 _ 1 1 Tryd.underlying28 hi hi0 hi1 hi2 rfl (by decide) (.slice (some ⟨g54, 0, none⟩) 0 0) 0 [] rfl hA59 (.slice b1 mb b3) mb (rowB (s.bytes.take 260)) rfl (srcAt_mem srcB.out (fun a v h => (hB59.cell (p := a) (lt_of_cell h)).trans h)) oneB.out (by unfold maxLen; omega) (by omega) hB59.size ?_
                intro v' wn60 hown hgrow hloc
                obtain ⟨sa60, sl60, sc60, rfl⟩ := ownsRow_slice hown
                have hB60 := below_app hB59 hA59 hgrow
                have hA60 : wn60.ownsRow wr.heap.size 5 1 (.slice sa60 sl60 sc60) mb (rowB (s.bytes.take 260)) := by simpa using hown
                have hI60 := own_keep hI59 hA59 (by decide) hgrow
                have hP60 := blk_keep hP59 hA59 (by decide) hgrow
                clear hown hgrow hloc
                clear y_0 y_1 y_2 y_3
                have y_0 : wn60.cell? (x.add (i * 4)) = some (.int .i64 s.kind) := (hB60.cell (p := x.add (i * 4)) hxbb.out).trans z0.out
                have y_1 : wn60.cell? ⟨(x.add (i * 4)).block, (x.add (i * 4)).off + 1, none⟩ = some (.int .i64 s.k) := (hB60.cell (p := ⟨(x.add (i * 4)).block, (x.add (i * 4)).off + 1, none⟩) hxbb.out).trans z1.out
                have y_2 : wn60.cell? ⟨(x.add (i * 4)).block, (x.add (i * 4)).off + 2, none⟩ = some (.slice b1 s.bytes.length b3) := (hB60.cell (p := ⟨(x.add (i * 4)).block, (x.add (i * 4)).off + 2, none⟩) hxbb.out).trans z2.out
                have y_3 : wn60.cell? ⟨(x.add (i * 4)).block, (x.add (i * 4)).off + 3, none⟩ = some (.slice b4 s.at_.length b6) := (hB60.cell (p := ⟨(x.add (i * 4)).block, (x.add (i * 4)).off + 3, none⟩) hxbb.out).trans z3.out
                go_wp2
                refine hK _ _ ⟨?_, ?_⟩; (focus (simp only [ReAll, List.contains_cons, List.contains_nil, Nat.reduceBEq, Bool.or_true, Bool.true_or, Bool.or_false, if_true, Bool.false_eq_true, if_false, and_true, true_and] <;> repeat' (first | trivial | (refine And.intro ?_ ?_) | (unfold YA; go_big_quiet_op; rfl)))); clear hK K
                refine canm_ef (bs := [(39, [0, 1, 2, 3, 4, 5, 6, 7, 8, 9], [.st 40 .pure, .ef 42 []])]) (by kernel_rfl) ?_
                refine ⟨⟨_, rfl, fun K hK => ?_⟩, trivial⟩
                · refine wpList_append_src rfl _ _ 49 rfl wr.heap.size 3 j0 _ 1 8 Tryd.underlying49 hj0 hj1 hj2 hj3 rfl (by decide) (.slice (some ⟨g59, 0, none⟩) 0 0) 0 [] rfl hI60 (.slice b4 ma b6) ma ((s.at_.take 260).map encN) rfl (srcAt_mem srcI.out (fun a v h => (hB60.cell (p := a) (lt_of_cell h)).trans h)) oneI.out (by unfold maxLen; omega) (by omega) hB60.size ?_
                  intro v' wn61 hown hgrow hloc
                  obtain ⟨sa61, sl61, sc61, rfl⟩ := ownsRow_slice hown
                  have hB61 := below_app hB60 hI60 hgrow
                  have hI61 : wn61.ownsRow wr.heap.size 3 1 (.slice sa61 sl61 sc61) ma ((s.at_.take 260).map encN) := by simpa using hown
                  have hA61 := own_keep hA60 hI60 (by decide) hgrow
                  have hP61 := blk_keep hP60 hI60 (by decide) hgrow
                  clear hown hgrow hloc
                  clear y_0 y_1 y_2 y_3
                  have y_0 : wn61.cell? (x.add (i * 4)) = some (.int .i64 s.kind) := (hB61.cell (p := x.add (i * 4)) hxbb.out).trans z0.out
                  have y_1 : wn61.cell? ⟨(x.add (i * 4)).block, (x.add (i * 4)).off + 1, none⟩ = some (.int .i64 s.k) := (hB61.cell (p := ⟨(x.add (i * 4)).block, (x.add (i * 4)).off + 1, none⟩) hxbb.out).trans z1.out
                  have y_2 : wn61.cell? ⟨(x.add (i * 4)).block, (x.add (i * 4)).off + 2, none⟩ = some (.slice b1 s.bytes.length b3) := (hB61.cell (p := ⟨(x.add (i * 4)).block, (x.add (i * 4)).off + 2, none⟩) hxbb.out).trans z2.out
                  have y_3 : wn61.cell? ⟨(x.add (i * 4)).block, (x.add (i * 4)).off + 3, none⟩ = some (.slice b4 s.at_.length b6) := (hB61.cell (p := ⟨(x.add (i * 4)).block, (x.add (i * 4)).off + 3, none⟩) hxbb.out).trans z3.out
                  go_wp2
                  refine hK _ _ ⟨?_, ?_⟩; (focus (simp only [ReAll, List.contains_cons, List.contains_nil, Nat.reduceBEq, Bool.or_true, Bool.true_or, Bool.or_false, if_true, Bool.false_eq_true, if_false, and_true, true_and] <;> repeat' (first | trivial | (refine And.intro ?_ ?_) | (unfold YA; go_big_quiet_op; rfl)))); clear hK K
                  refine canm_pure ?_ (i := 40) (rest' := [.ef 42 []]) (by kernel_rfl) rfl rfl (fun W K hK => ?_) ?_; rotate_left; (focus (go_big_quiet_op; exact hK))
                  refine canm_ef (bs := [(42, [], [])]) (by kernel_rfl) ?_
                  refine ⟨⟨_, rfl, fun K hK => ?_⟩, trivial⟩
                  · have cz0 := hP61.cell (j := 0) rfl
                    have fz0 := hP61.fr 0
                    have cz1 := hP61.cell (j := 1) rfl
                    have fz1 := hP61.fr 1
                    have cz2 := hP61.cell (j := 2) rfl
                    have fz2 := hP61.fr 2
                    have cz3 := hP61.cell (j := 3) rfl
                    have fz3 := hP61.fr 3
                    have hpl := hP61.lt
                    go_wp2
                    refine hK _ _ ⟨?_, ?_⟩; (focus (simp only [ReAll, List.contains_cons, List.contains_nil, Nat.reduceBEq, Bool.or_true, Bool.true_or, Bool.or_false, if_true, Bool.false_eq_true, if_false, and_true, true_and] <;> repeat' (first | trivial | (refine And.intro ?_ ?_) | (unfold YA; go_big_quiet_op; rfl)))); clear hK K
                    refine canm_nil ?_
                    go_wp2
                    go_meet
                    exact ⟨_, rfl, _, _, _, rfl, clone_end hB61 hQ53 hP61 hA61 hI61⟩
          · obtain ⟨wn63, hwn⟩ : ∃ wn, wn = wn53.alloc (.cells #[] 3) := ⟨_, rfl⟩
            obtain ⟨g63, hgn⟩ : ∃ g, g = wn53.heap.size := ⟨_, rfl⟩
            have hB63 : Below wr.heap.size wr wn63 := by rw [hwn]; exact hB53.alloc hB53.size _
            have hI63 : wn63.ownsRow wr.heap.size 3 1 (.slice (some ⟨g63, 0, none⟩) 0 0) 0 [] := by rw [hwn, hgn]; exact own_empty wn53 _ _ hB53.size
            have hP63 := hP53.block (Below.heap_alloc wn53 (.cells #[] 3) _ hP53.lt)
            rw [← hwn] at hP63
            clear y_0 y_1 y_2 y_3
            have y_0 : wn63.cell? (x.add (i * 4)) = some (.int .i64 s.kind) := (hB63.cell (p := x.add (i * 4)) hxbb.out).trans z0.out
            have y_1 : wn63.cell? ⟨(x.add (i * 4)).block, (x.add (i * 4)).off + 1, none⟩ = some (.int .i64 s.k) := (hB63.cell (p := ⟨(x.add (i * 4)).block, (x.add (i * 4)).off + 1, none⟩) hxbb.out).trans z1.out
            have y_2 : wn63.cell? ⟨(x.add (i * 4)).block, (x.add (i * 4)).off + 2, none⟩ = some (.slice b1 s.bytes.length b3) := (hB63.cell (p := ⟨(x.add (i * 4)).block, (x.add (i * 4)).off + 2, none⟩) hxbb.out).trans z2.out
            have y_3 : wn63.cell? ⟨(x.add (i * 4)).block, (x.add (i * 4)).off + 3, none⟩ = some (.slice b4 s.at_.length b6) := (hB63.cell (p := ⟨(x.add (i * 4)).block, (x.add (i * 4)).off + 3, none⟩) hxbb.out).trans z3.out
            go_wp2
            rw [← hwn, ← hgn]
            clear hwn hgn
            refine hK _ _ ⟨?_, ?_⟩; (focus (simp only [ReAll, List.contains_cons, List.contains_nil, Nat.reduceBEq, Bool.or_true, Bool.true_or, Bool.or_false, if_true, Bool.false_eq_true, if_false, and_true, true_and] <;> repeat' (first | trivial | (refine And.intro ?_ ?_) | (unfold YA; go_big_quiet_op; rfl)))); clear hK K
            refine canm_ef (bs := [(10, [0, 1, 2, 3, 4, 5, 6, 7, 8, 9, 11, 12, 13, 14, 15, 16, 17, 18, 19, 20, 21, 22, 23, 26, 27, 28, 29, 30, 31, 32, 33, 34, 35, 36, 37, 38], [.ef 24 [0, 1, 2, 3, 4, 5, 6, 7, 8, 9, 26, 27, 28, 29, 30, 31, 32, 33, 34, 35, 36, 37, 38], .ef 39 [0, 1, 2, 3, 4, 5, 6, 7, 8, 9], .st 40 .pure, .ef 42 []])]) (by kernel_rfl) ?_
            refine ⟨⟨_, rfl, fun K hK => ?_⟩, trivial⟩
            · obtain ⟨wn64, hwn⟩ : ∃ wn, wn = wn63.alloc (.cells #[] 5) := ⟨_, rfl⟩
              obtain ⟨g64, hgn⟩ : ∃ g, g = wn63.heap.size := ⟨_, rfl⟩
              have hB64 : Below wr.heap.size wr wn64 := by rw [hwn]; exact hB63.alloc hB63.size _
              have hA64 : wn64.ownsRow wr.heap.size 5 1 (.slice (some ⟨g64, 0, none⟩) 0 0) 0 [] := by rw [hwn, hgn]; exact own_empty wn63 _ _ hB63.size
              have hI64 := hI63.alloc (.cells #[] 5)
              rw [← hwn] at hI64
              have hP64 := hP63.block (Below.heap_alloc wn63 (.cells #[] 5) _ hP63.lt)
              rw [← hwn] at hP64
              clear y_0 y_1 y_2 y_3
              have y_0 : wn64.cell? (x.add (i * 4)) = some (.int .i64 s.kind) := (hB64.cell (p := x.add (i * 4)) hxbb.out).trans z0.out
              have y_1 : wn64.cell? ⟨(x.add (i * 4)).block, (x.add (i * 4)).off + 1, none⟩ = some (.int .i64 s.k) := (hB64.cell (p := ⟨(x.add (i * 4)).block, (x.add (i * 4)).off + 1, none⟩) hxbb.out).trans z1.out
              have y_2 : wn64.cell? ⟨(x.add (i * 4)).block, (x.add (i * 4)).off + 2, none⟩ = some (.slice b1 s.bytes.length b3) := (hB64.cell (p := ⟨(x.add (i * 4)).block, (x.add (i * 4)).off + 2, none⟩) hxbb.out).trans z2.out
              have y_3 : wn64.cell? ⟨(x.add (i * 4)).block, (x.add (i * 4)).off + 3, none⟩ = some (.slice b4 s.at_.length b6) := (hB64.cell (p := ⟨(x.add (i * 4)).block, (x.add (i * 4)).off + 3, none⟩) hxbb.out).trans z3.out
              go_wp2
              rw [← hwn, ← hgn]
              clear hwn hgn
              refine hK _ _ ⟨?_, ?_⟩; (focus (simp only [ReAll, List.contains_cons, List.contains_nil, Nat.reduceBEq, Bool.or_true, Bool.true_or, Bool.or_false, if_true, Bool.false_eq_true, if_false, and_true, true_and] <;> repeat' (first | trivial | (refine And.intro ?_ ?_) | (unfold YA; go_big_quiet_op; rfl)))); clear hK K
              refine canm_ef (bs := [(24, [0, 1, 2, 3, 4, 5, 6, 7, 8, 9, 26, 27, 28, 29, 30, 31, 32, 33, 34, 35, 36, 37, 38], [.ef 39 [0, 1, 2, 3, 4, 5, 6, 7, 8, 9], .st 40 .pure, .ef 42 []])]) (by kernel_rfl) ?_
              refine ⟨⟨_, rfl, fun K hK => ?_⟩, trivial⟩
              · refine wpList_append_src rfl _ _ 28 rfl wr.heap.size 5 i0 _ 1 1 Tryd.underlying28 hi hi0 hi1 hi2 rfl (by decide) (.slice (some ⟨g64, 0, none⟩) 0 0) 0 [] rfl hA64 (.slice b1 mb b3) mb (rowB (s.bytes.take 260)) rfl (srcAt_mem srcB.out (fun a v h => (hB64.cell (p := a) (lt_of_cell h)).trans h)) oneB.out (by unfold maxLen; omega) (by omega) hB64.size ?_
                intro v' wn65 hown hgrow hloc
                obtain ⟨sa65, sl65, sc65, rfl⟩ := ownsRow_slice hown
                have hB65 := below_app hB64 hA64 hgrow
                have hA65 : wn65.ownsRow wr.heap.size 5 1 (.slice sa65 sl65 sc65) mb (rowB (s.bytes.take 260)) := by simpa using hown
                have hI65 := own_keep hI64 hA64 (by decide) hgrow
                have hP65 := blk_keep hP64 hA64 (by decide) hgrow
                clear hown hgrow hloc
                clear y_0 y_1 y_2 y_3
                have y_0 : wn65.cell? (x.add (i * 4)) = some (.int .i64 s.kind) := (hB65.cell (p := x.add (i * 4)) hxbb.out).trans z0.out
                have y_1 : wn65.cell? ⟨(x.add (i * 4)).block, (x.add (i * 4)).off + 1, none⟩ = some (.int .i64 s.k) := (hB65.cell (p := ⟨(x.add (i * 4)).block, (x.add (i * 4)).off + 1, none⟩) hxbb.out).trans z1.out
                have y_2 : wn65.cell? ⟨(x.add (i * 4)).block, (x.add (i * 4)).off + 2, none⟩ = some (.slice b1 s.bytes.length b3) := (hB65.cell (p := ⟨(x.add (i * 4)).block, (x.add (i * 4)).off + 2, none⟩) hxbb.out).trans z2.out
                have y_3 : wn65.cell? ⟨(x.add (i * 4)).block, (x.add (i * 4)).off + 3, none⟩ = some (.slice b4 s.at_.length b6) := (hB65.cell (p := ⟨(x.add (i * 4)).block, (x.add (i * 4)).off + 3, none⟩) hxbb.out).trans z3.out
                go_wp2
                refine hK _ _ ⟨?_, ?_⟩; (focus (simp only [ReAll, List.contains_cons, List.contains_nil, Nat.reduceBEq, Bool.or_true, Bool.true_or, Bool.or_false, if_true, Bool.false_eq_true, if_false, and_true, true_and] <;> repeat' (first | trivial | (refine And.intro ?_ ?_) | (unfold YA; go_big_quiet_op; rfl)))); clear hK K
                refine canm_ef (bs := [(39, [0, 1, 2, 3, 4, 5, 6, 7, 8, 9], [.st 40 .pure, .ef 42 []])]) (by kernel_rfl) ?_
                refine ⟨⟨_, rfl, fun K hK => ?_⟩, trivial⟩
                · refine wpList_append_src rfl _ _ 49 rfl wr.heap.size 3 j0 _ 1 8 Tryd.underlying49 hj0 hj1 hj2 hj3 rfl (by decide) (.slice (some ⟨g63, 0, none⟩) 0 0) 0 [] rfl hI65 (.slice b4 ma b6) ma ((s.at_.take 260).map encN) rfl (srcAt_mem srcI.out (fun a v h => (hB65.cell (p := a) (lt_of_cell h)).trans h)) oneI.out (by unfold maxLen; omega) (by omega) hB65.size ?_
                  intro v' wn66 hown hgrow hloc
                  obtain ⟨sa66, sl66, sc66, rfl⟩ := ownsRow_slice hown
                  have hB66 := below_app hB65 hI65 hgrow
                  have hI66 : wn66.ownsRow wr.heap.size 3 1 (.slice sa66 sl66 sc66) ma ((s.at_.take 260).map encN) := by simpa using hown
                  have hA66 := own_keep hA65 hI65 (by decide) hgrow
                  have hP66 := blk_keep hP65 hI65 (by decide) hgrow
                  clear hown hgrow hloc
                  clear y_0 y_1 y_2 y_3
                  have y_0 : wn66.cell? (x.add (i * 4)) = some (.int .i64 s.kind) := (hB66.cell (p := x.add (i * 4)) hxbb.out).trans z0.out
                  have y_1 : wn66.cell? ⟨(x.add (i * 4)).block, (x.add (i * 4)).off + 1, none⟩ = some (.int .i64 s.k) := (hB66.cell (p := ⟨(x.add (i * 4)).block, (x.add (i * 4)).off + 1, none⟩) hxbb.out).trans z1.out
                  have y_2 : wn66.cell? ⟨(x.add (i * 4)).block, (x.add (i * 4)).off + 2, none⟩ = some (.slice b1 s.bytes.length b3) := (hB66.cell (p := ⟨(x.add (i * 4)).block, (x.add (i * 4)).off + 2, none⟩) hxbb.out).trans z2.out
                  have y_3 : wn66.cell? ⟨(x.add (i * 4)).block, (x.add (i * 4)).off + 3, none⟩ = some (.slice b4 s.at_.length b6) := (hB66.cell (p := ⟨(x.add (i * 4)).block, (x.add (i * 4)).off + 3, none⟩) hxbb.out).trans z3.out
                  go_wp2
                  refine hK _ _ ⟨?_, ?_⟩; (focus (simp only [ReAll, List.contains_cons, List.contains_nil, Nat.reduceBEq, Bool.or_true, Bool.true_or, Bool.or_false, if_true, Bool.false_eq_true, if_false, and_true, true_and] <;> repeat' (first | trivial | (refine And.intro ?_ ?_) | (unfold YA; go_big_quiet_op; rfl)))); clear hK K
                  refine canm_pure ?_ (i := 40) (rest' := [.ef 42 []]) (by kernel_rfl) rfl rfl (fun W K hK => ?_) ?_; rotate_left; (focus (go_big_quiet_op; exact hK))
                  refine canm_ef (bs := [(42, [], [])]) (by kernel_rfl) ?_
                  refine ⟨⟨_, rfl, fun K hK => ?_⟩, trivial⟩
                  · have cz0 := hP66.cell (j := 0) rfl
                    have fz0 := hP66.fr 0
                    have cz1 := hP66.cell (j := 1) rfl
                    have fz1 := hP66.fr 1
                    have cz2 := hP66.cell (j := 2) rfl
                    have fz2 := hP66.fr 2
                    have cz3 := hP66.cell (j := 3) rfl
                    have fz3 := hP66.fr 3
                    have hpl := hP66.lt
                    go_wp2
                    refine hK _ _ ⟨?_, ?_⟩; (focus (simp only [ReAll, List.contains_cons, List.contains_nil, Nat.reduceBEq, Bool.or_true, Bool.true_or, Bool.or_false, if_true, Bool.false_eq_true, if_false, and_true, true_and] <;> repeat' (first | trivial | (refine And.intro ?_ ?_) | (unfold YA; go_big_quiet_op; rfl)))); clear hK K
                    refine canm_nil ?_
                    go_wp2
                    go_meet
                    exact ⟨_, rfl, _, _, _, rfl, clone_end hB66 hQ53 hP66 hA66 hI66⟩
      case rest =>
        obtain ⟨wc, rfl, p, vA, vI, rfl, hcl⟩ := hcut
        obtain ⟨D1, D2, hb1, hb2, hBw, hty⟩ := hCo.out
        obtain ⟨hBc, hpz, hPc, hAc, hIc⟩ := hcl
        have hb1c := hb1.keep (fun k hk => hBc.block k (hb1.lt.1 k hk).2.1) (fun g hg => hBc.block g (hb1.lt.2 g hg).2) hBc.size
        have hb2c := hb2.keep (fun k hk => hBc.block k (hb2.lt.1 k hk).2.1) (fun g hg => hBc.block g (hb2.lt.2 g hg).2) hBc.size
        have htyc : ∀ k, (D1 k ∨ D2 k) → TyBI wc k := fun k hk => (hty k hk).block (hBc.block k (by
          rcases hk with hk | hk
          · exact (hb1.lt.1 k hk).2.1
          · exact (hb2.lt.1 k hk).2.1))
        have hBwc : Below w.heap.size w wc := hBw.trans (hBc.mono hBw.size)
        have hwz := hBw.size
        have hyl : ((xs.take i).map trim).length = i := by rw [List.length_map, List.length_take]; omega
        have hsn : ((xs.take (i + 1)).map trim) = (xs.take i).map trim ++ [trim s] := by rw [hse.out, List.map_append]; rfl
        have hv1l : ∀ g, u6.ownBlock = some g → g < wr.heap.size := fun g hg => (hb1.lt.2 g hg).2
        obtain ⟨va, vl, vc, rfl⟩ := hb1c.slice
        obtain ⟨oa, ol, oc, rfl⟩ := hb2c.slice
        obtain ⟨qa, ql, qc, rfl⟩ := ownsRow_slice hAc
        obtain ⟨ta, tl, tc, rfl⟩ := ownsRow_slice hIc
        obtain ⟨us1, HB1⟩ := hb1c
        obtain ⟨us2, HB2⟩ := hb2c
        have hsnx := Lib.hid hsn
        have hylx := Lib.hid hyl
        have hc7v := Lib.hid (And.intro hv1l hpz)
        have hc7 := Lib.hid (And.intro hBc (And.intro hPc (And.intro hAc (And.intro hIc (And.intro htyc (And.intro hBwc (And.intro HB1 HB2)))))))
        have c0 := hPc.cell (j := 0) rfl
        have c1 := hPc.cell (j := 1) rfl
        have c2 := hPc.cell (j := 2) rfl
        have c3 := hPc.cell (j := 3) rfl
        have him2 : i ≤ 12 := by omega
        have hwcz : w.heap.size ≤ wc.heap.size := hBwc.size
        have hown1 := Lib.hid (show wc.ownsRow w.heap.size 51 4 (.slice va vl vc) i (cellsF ((xs.take i).map trim) us1) by have := HB1.own; rw [hyl] at this; exact this)
        clear hv1l hpz hb1 hb2 hBw hty hBc hPc hAc hIc htyc hBwc HB1 HB2 hsn hyl hwz hCo
        go_upto_region 8 with (at_builtin; refine wpList_append_own_at _ rfl _ _ 23 rfl w.heap.size 51 r0 _ 4 64 Tryd.underlying23 hr0 hr1 hr2 hr3 rfl (by decide) (.slice va vl vc) i (cellsF ((xs.take i).map trim) us1) rfl (hown1.out.alloc _) ⟨wc.heap.size, 0, none⟩ 1 1 [.int .i64 s.kind, .int .i64 s.k, .slice qa ql qc, .slice ta tl tc] rfl rfl (cells_new wc [.int .i64 s.kind, .int .i64 s.k, .slice qa ql qc, .slice ta tl tc] _) (by simp [Value.oneCell']) (by unfold maxLen; omega) (by omega) (by simp; omega) ?_; intro v' w7 hown' hgrow hnil hloc; obtain ⟨sa, sl, sc, rfl⟩ := ownsRow_slice hown')
        obtain ⟨hBc, hPc, hAc, hIc, htyc, hBwc, HB1, HB2⟩ := hc7.out
        have hgrow' : (wc.alloc (.cells #[.int .i64 s.kind, .int .i64 s.k, .slice qa ql qc, .slice ta tl tc] 51)).grownBy w7 (Value.slice va vl vc).ownBlock := hgrow
        have hz7 : wc.heap.size + 1 ≤ w7.heap.size := by have := hgrow'.size; simp at this; omega
        have hold7 : ∀ k, k < wc.heap.size → (Value.slice va vl vc).ownBlock ≠ some k → w7.heap[k]? = wc.heap[k]? := fun k h1 h2 => grow_block1 hgrow' h1 h2
        have hP7 : BlkAt w7 p [.int .i64 s.kind, .int .i64 s.k, .slice qa ql qc, .slice ta tl tc] 51 := hPc.block (hold7 p hPc.lt (fun e => by have := hc7v.out.1 p e; have := hc7v.out.2; omega))
        have hA7 : w7.ownsRow wr.heap.size 5 1 (.slice qa ql qc) mb (rowB (s.bytes.take 260)) := own_keep (hAc.alloc _) (hown1.out.alloc _) (by decide) hgrow'
        have hI7 : w7.ownsRow wr.heap.size 3 1 (.slice ta tl tc) ma ((s.at_.take 260).map encN) := own_keep (hIc.alloc _) (hown1.out.alloc _) (by decide) hgrow'
        have hrowz : wc.ownsRow w.heap.size 52 4 (.slice oa ol oc) i (cellsF ((xs.take i).map trim) us2) := by have := HB2.own; rw [hylx.out] at this; exact this
        have hrow7 : w7.ownsRow w.heap.size 52 4 (.slice oa ol oc) i (cellsF ((xs.take i).map trim) us2) := own_keep (hrowz.alloc _) (hown1.out.alloc _) (by decide) hgrow'
        have htd : ∀ k, (D1 k ∨ D2 k) → w7.heap[k]? = wc.heap[k]? := fun k hk => hold7 k (by
          rcases hk with hk | hk
          · exact (HB1.d k hk).2.1
          · exact (HB2.d k hk).2.1) ((htyc k hk).ne hown1.out (by decide))
        have hty7 : ∀ k, (D1 k ∨ D2 k) → TyBI w7 k := fun k hk => (htyc k hk).block (htd k hk)
        have hBw7 : Below w.heap.size w w7 := (hBwc.alloc hBwc.size _).grown hgrow' (by simp; omega) (fun k e => (hown1.out.lt k e).1)
        have hwrz : w.heap.size ≤ wr.heap.size := hBx.out.size
        have hrA7 : Rd encB w7 (fun k => (Value.slice qa ql qc).ownBlock = some k) (.slice qa ql qc) (trim s).bytes := ownsRow_rd hA7
        have hrI7 : Rd encN w7 (fun k => (Value.slice ta tl tc).ownBlock = some k) (.slice ta tl tc) (trim s).at_ := ownsRow_rd hI7
        have hb17 : Build w7 51 w.heap.size (.slice sa sl sc) (fun k => D1 k ∨ (Value.slice qa ql qc).ownBlock = some k ∨ (Value.slice ta tl tc).ownBlock = some k) ((xs.take i).map trim ++ [trim s]) := by
          refine Build.snoc (x := trim s) (u := (.slice qa ql qc, .slice ta tl tc)) HB1 (by rw [hylx.out]; exact hown') (fun k hk => htd k (.inl hk)) (by omega) (hrA7.mono (fun k hk _ => .inr (.inl hk))) (hrI7.mono (fun k hk _ => .inr (.inr hk))) (fun k hk => .inl hk) ?_
          intro k hk
          rcases hk with hk | hk | hk
          · exact ⟨(HB1.d k hk).1, by have := (HB1.d k hk).2.1; omega, (hty7 k (.inl hk)).ne hown' (by decide)⟩
          · have := hA7.lt k hk
            exact ⟨by omega, this.2, (TyBI.own hA7 (.inl rfl) hk).ne hown' (by decide)⟩
          · have := hI7.lt k hk
            exact ⟨by omega, this.2, (TyBI.own hI7 (.inr rfl) hk).ne hown' (by decide)⟩
        have hB2' : BuildIn w7 52 w.heap.size (.slice oa ol oc) D2 ((xs.take i).map trim) us2 := { len := HB2.len, own := by rw [hylx.out]; exact hrow7, rd := fun j hj => ⟨(HB2.rd j hj).1.keep (fun k hk _ => htd k (.inr hk)) (by omega), (HB2.rd j hj).2.keep (fun k hk _ => htd k (.inr hk)) (by omega)⟩, d := fun k hk => ⟨(HB2.d k hk).1, by have := (HB2.d k hk).2.1; omega, (HB2.d k hk).2.2⟩ }
        have srcA8 := Lib.hid (srcAt_own hA7)
        have srcI8 := Lib.hid (srcAt_own hI7)
        have hrow2 := Lib.hid hrow7
        have hrow2z := Lib.hid hBw7.size
        have hP7x := Lib.hid hP7
        have hd8 := Lib.hid (And.intro hb17 (And.intro hB2' (And.intro hty7 (And.intro hBw7 (And.intro hA7 hI7)))))
        clear hBc hPc hAc hIc htyc hBwc HB1 HB2 hgrow hgrow' hnil hloc hown' hold7 hP7 hA7 hI7 hrowz hrow7 htd hty7 hBw7 hrA7 hrI7 hb17 hB2' c0 c1 c2 c3 hc7
        (refine wp_region_canM [[], [], [1], [], [3], [], [], [6], [5, 6, 7], [], [], [10], [5, 6, 7, 8, 9, 10, 11], [1, 2, 3, 4, 5, 6, 7, 8, 9, 10, 11, 12], [1, 2, 3, 4, 5, 6, 7, 8, 9, 10, 11, 12, 13], [0, 1, 2, 3, 4, 5, 6, 7, 8, 9, 10, 11, 12, 13, 14], [0, 1, 2, 3, 4, 5, 6, 7, 8, 9, 10, 11, 12, 13, 14, 15]] ([.st 0 .pure, .st 1 .pure, .st 2 .keep, .st 3 .pure, .st 4 .keep, .st 6 .pure, .st 7 .keep, .st 10 .pure, .st 11 .keep] ++ [.ef 5 [0, 1, 2, 3, 4, 6, 7, 10, 11], .ef 8 [0, 1, 2, 3, 4, 10, 11], .ef 9 [0, 1, 2, 3, 4, 6, 7, 10, 11], .ef 12 [0, 1, 2, 3, 4], .st 13 .drop, .ef 14 [0], .ef 15 [], .st 16 .drop]) (by kernel_rfl) (by kernel_rfl) ?_; refine canm_of_pre [.st 0 .pure, .st 1 .pure, .st 2 .keep, .st 3 .pure, .st 4 .keep, .st 6 .pure, .st 7 .keep, .st 10 .pure, .st 11 .keep] [] _ _ (by kernel_rfl) ?_; try simp only [Act.put])
        generalize hw0 : World.drew w7 = w0
        have hB0 : Below w7.heap.size w7 w0 := by rw [← hw0]; exact ⟨rfl, rfl, rfl, Nat.le_refl _, fun _ _ => rfl⟩
        have hP0 : BlkAt w0 p [.int .i64 s.kind, .int .i64 s.k, .slice qa ql qc, .slice ta tl tc] 51 := by rw [← hw0]; exact hP7x.out
        clear hw0
        have y_0 := hP0.cell (j := 0) rfl
        have y_1 := hP0.cell (j := 1) rfl
        have y_2 := hP0.cell (j := 2) rfl
        have y_3 := hP0.cell (j := 3) rfl
        (repeat (first | (refine cpre_drop rfl rfl (fun K hK => ?_); go_big_quiet_op; refine hK _ ?_; clear hK K) | (refine cpre_pure ?_ rfl rfl (fun W K hK => ?_) ?_; rotate_left; (focus (go_big_quiet_op; exact hK))) | (refine cpre_keep rfl rfl (fun K hK => ?_); go_big_quiet_op; refine hK _ ?_; clear hK K) | (refine cpre_skip rfl rfl ?_; simp only [Act.put, List.setIfInBounds_toArray, List.set_cons_succ, List.set_cons_zero])))
        refine cpre_nil ?_
        refine canm_ef (bs := [(5, [0, 1, 2, 3, 4, 6, 7, 10, 11], [.ef 8 [0, 1, 2, 3, 4, 10, 11], .ef 9 [0, 1, 2, 3, 4, 6, 7, 10, 11], .ef 12 [0, 1, 2, 3, 4], .st 13 .drop, .ef 14 [0], .ef 15 [], .st 16 .drop]), (9, [0, 1, 2, 3, 4, 6, 7, 10, 11], [.ef 5 [0, 1, 2, 3, 4, 6, 7, 10, 11], .ef 8 [0, 1, 2, 3, 4, 10, 11], .ef 12 [0, 1, 2, 3, 4], .st 13 .drop, .ef 14 [0], .ef 15 [], .st 16 .drop])]) (by kernel_rfl) ?_
        refine ⟨⟨_, rfl, fun K hK => ?_⟩, ⟨_, rfl, fun K hK => ?_⟩, trivial⟩
        · obtain ⟨wn68, hwn⟩ : ∃ wn, wn = w0.alloc (.cells #[] 5) := ⟨_, rfl⟩
          obtain ⟨g68, hgn⟩ : ∃ g, g = w0.heap.size := ⟨_, rfl⟩
          have hB68 : Below w7.heap.size w7 wn68 := by rw [hwn]; exact hB0.alloc hB0.size _
          have hA68 : wn68.ownsRow w7.heap.size 5 1 (.slice (some ⟨g68, 0, none⟩) 0 0) 0 [] := by rw [hwn, hgn]; exact own_empty w0 _ _ hB0.size
          have hP68 := hP0.block (Below.heap_alloc w0 (.cells #[] 5) _ hP0.lt)
          rw [← hwn] at hP68
          clear y_0 y_1 y_2 y_3
          have y_0 := hP68.cell (j := 0) rfl
          have y_1 := hP68.cell (j := 1) rfl
          have y_2 := hP68.cell (j := 2) rfl
          have y_3 := hP68.cell (j := 3) rfl
          go_wp2
          rw [← hwn, ← hgn]
          clear hwn hgn
          refine hK _ _ ⟨?_, ?_⟩; (focus (simp only [ReAll, List.contains_cons, List.contains_nil, Nat.reduceBEq, Bool.or_true, Bool.true_or, Bool.or_false, if_true, Bool.false_eq_true, if_false, and_true, true_and] <;> repeat' (first | trivial | (refine And.intro ?_ ?_) | (unfold YA; go_big_quiet_op; rfl)))); clear hK K
          refine canm_ef (bs := [(8, [0, 1, 2, 3, 4, 10, 11], [.ef 9 [0, 1, 2, 3, 4, 6, 7, 10, 11], .ef 12 [0, 1, 2, 3, 4], .st 13 .drop, .ef 14 [0], .ef 15 [], .st 16 .drop]), (9, [0, 1, 2, 3, 4, 6, 7, 10, 11], [.ef 8 [0, 1, 2, 3, 4, 10, 11], .ef 12 [0, 1, 2, 3, 4], .st 13 .drop, .ef 14 [0], .ef 15 [], .st 16 .drop])]) (by kernel_rfl) ?_
          refine ⟨⟨_, rfl, fun K hK => ?_⟩, ⟨_, rfl, fun K hK => ?_⟩, trivial⟩
          · refine wpList_append_src rfl _ _ 28 rfl w7.heap.size 5 i0 _ 1 1 Tryd.underlying28 hi hi0 hi1 hi2 rfl (by decide) (.slice (some ⟨g68, 0, none⟩) 0 0) 0 [] rfl hA68 (.slice qa ql qc) mb (rowB (s.bytes.take 260)) rfl (srcAt_mem srcA8.out (fun a v h => (hB68.cell (p := a) (lt_of_cell h)).trans h)) oneB.out (by unfold maxLen; omega) (by omega) hB68.size ?_
            intro v' wn69 hown hgrow hloc
            obtain ⟨sa69, sl69, sc69, rfl⟩ := ownsRow_slice hown
            have hB69 := below_app hB68 hA68 hgrow
            have hA69 : wn69.ownsRow w7.heap.size 5 1 (.slice sa69 sl69 sc69) mb (rowB (s.bytes.take 260)) := by simpa using hown
            have hP69 := blk_keep hP68 hA68 (by decide) hgrow
            clear hown hgrow hloc
            clear y_0 y_1 y_2 y_3
            have y_0 := hP69.cell (j := 0) rfl
            have y_1 := hP69.cell (j := 1) rfl
            have y_2 := hP69.cell (j := 2) rfl
            have y_3 := hP69.cell (j := 3) rfl
            go_wp2
            refine hK _ _ ⟨?_, ?_⟩; (focus (simp only [ReAll, List.contains_cons, List.contains_nil, Nat.reduceBEq, Bool.or_true, Bool.true_or, Bool.or_false, if_true, Bool.false_eq_true, if_false, and_true, true_and] <;> repeat' (first | trivial | (refine And.intro ?_ ?_) | (unfold YA; go_big_quiet_op; rfl)))); clear hK K
            refine canm_ef (bs := [(9, [0, 1, 2, 3, 4, 6, 7, 10, 11], [.ef 12 [0, 1, 2, 3, 4], .st 13 .drop, .ef 14 [0], .ef 15 [], .st 16 .drop])]) (by kernel_rfl) ?_
            refine ⟨⟨_, rfl, fun K hK => ?_⟩, trivial⟩
            · obtain ⟨wn70, hwn⟩ : ∃ wn, wn = wn69.alloc (.cells #[] 3) := ⟨_, rfl⟩
              obtain ⟨g70, hgn⟩ : ∃ g, g = wn69.heap.size := ⟨_, rfl⟩
              have hB70 : Below w7.heap.size w7 wn70 := by rw [hwn]; exact hB69.alloc hB69.size _
              have hI70 : wn70.ownsRow w7.heap.size 3 1 (.slice (some ⟨g70, 0, none⟩) 0 0) 0 [] := by rw [hwn, hgn]; exact own_empty wn69 _ _ hB69.size
              have hA70 := hA69.alloc (.cells #[] 3)
              rw [← hwn] at hA70
              have hP70 := hP69.block (Below.heap_alloc wn69 (.cells #[] 3) _ hP69.lt)
              rw [← hwn] at hP70
              clear y_0 y_1 y_2 y_3
              have y_0 := hP70.cell (j := 0) rfl
              have y_1 := hP70.cell (j := 1) rfl
              have y_2 := hP70.cell (j := 2) rfl
              have y_3 := hP70.cell (j := 3) rfl
              go_wp2
              rw [← hwn, ← hgn]
              clear hwn hgn
              refine hK _ _ ⟨?_, ?_⟩; (focus (simp only [ReAll, List.contains_cons, List.contains_nil, Nat.reduceBEq, Bool.or_true, Bool.true_or, Bool.or_false, if_true, Bool.false_eq_true, if_false, and_true, true_and] <;> repeat' (first | trivial | (refine And.intro ?_ ?_) | (unfold YA; go_big_quiet_op; rfl)))); clear hK K
              refine canm_ef (bs := [(12, [0, 1, 2, 3, 4], [.st 13 .drop, .ef 14 [0], .ef 15 [], .st 16 .drop])]) (by kernel_rfl) ?_
              refine ⟨⟨_, rfl, fun K hK => ?_⟩, trivial⟩
              · refine wpList_append_src rfl _ _ 49 rfl w7.heap.size 3 j0 _ 1 8 Tryd.underlying49 hj0 hj1 hj2 hj3 rfl (by decide) (.slice (some ⟨g70, 0, none⟩) 0 0) 0 [] rfl hI70 (.slice ta tl tc) ma ((s.at_.take 260).map encN) rfl (srcAt_mem srcI8.out (fun a v h => (hB70.cell (p := a) (lt_of_cell h)).trans h)) oneI.out (by unfold maxLen; omega) (by omega) hB70.size ?_
                intro v' wn71 hown hgrow hloc
                obtain ⟨sa71, sl71, sc71, rfl⟩ := ownsRow_slice hown
                have hB71 := below_app hB70 hI70 hgrow
                have hI71 : wn71.ownsRow w7.heap.size 3 1 (.slice sa71 sl71 sc71) ma ((s.at_.take 260).map encN) := by simpa using hown
                have hA71 := own_keep hA70 hI70 (by decide) hgrow
                have hP71 := blk_keep hP70 hI70 (by decide) hgrow
                clear hown hgrow hloc
                clear y_0 y_1 y_2 y_3
                have y_0 := hP71.cell (j := 0) rfl
                have y_1 := hP71.cell (j := 1) rfl
                have y_2 := hP71.cell (j := 2) rfl
                have y_3 := hP71.cell (j := 3) rfl
                go_wp2
                refine hK _ _ ⟨?_, ?_⟩; (focus (simp only [ReAll, List.contains_cons, List.contains_nil, Nat.reduceBEq, Bool.or_true, Bool.true_or, Bool.or_false, if_true, Bool.false_eq_true, if_false, and_true, true_and] <;> repeat' (first | trivial | (refine And.intro ?_ ?_) | (unfold YA; go_big_quiet_op; rfl)))); clear hK K
                refine canm_drop (i := 13) (rest' := [.ef 14 [0], .ef 15 [], .st 16 .drop]) (by kernel_rfl) rfl rfl (fun K hK => ?_); go_big_quiet_op; refine hK _ ?_; clear hK K
                refine canm_ef (bs := [(14, [0], [.ef 15 [], .st 16 .drop])]) (by kernel_rfl) ?_
                refine ⟨⟨_, rfl, fun K hK => ?_⟩, trivial⟩
                · obtain ⟨wn72, hwn⟩ : ∃ wn, wn = wn71.alloc (.cells #[.int .i64 s.kind, .int .i64 s.k, .slice sa69 sl69 sc69, .slice sa71 sl71 sc71] 52) := ⟨_, rfl⟩
                  obtain ⟨g72, hgn⟩ : ∃ g, g = wn71.heap.size := ⟨_, rfl⟩
                  have hB72 : Below w7.heap.size w7 wn72 := by rw [hwn]; exact hB71.alloc hB71.size _
                  have hN72 : ∀ j u, ([.int .i64 s.kind, .int .i64 s.k, .slice sa69 sl69 sc69, .slice sa71 sl71 sc71] : List Value)[j]? = some u → wn72.cell? ((⟨g72, 0, none⟩ : Addr).add j) = some u := by rw [hwn, hgn]; exact cells_new wn71 _ _
                  have hA72 := hA71.alloc (.cells #[.int .i64 s.kind, .int .i64 s.k, .slice sa69 sl69 sc69, .slice sa71 sl71 sc71] 52)
                  rw [← hwn] at hA72
                  have hI72 := hI71.alloc (.cells #[.int .i64 s.kind, .int .i64 s.k, .slice sa69 sl69 sc69, .slice sa71 sl71 sc71] 52)
                  rw [← hwn] at hI72
                  clear y_0 y_1 y_2 y_3
                  go_wp2
                  rw [← hwn, ← hgn]
                  clear hwn hgn
                  refine hK _ _ ⟨?_, ?_⟩; (focus (simp only [ReAll, List.contains_cons, List.contains_nil, Nat.reduceBEq, Bool.or_true, Bool.true_or, Bool.or_false, if_true, Bool.false_eq_true, if_false, and_true, true_and] <;> repeat' (first | trivial | (refine And.intro ?_ ?_) | (unfold YA; go_big_quiet_op; rfl)))); clear hK K
                  refine canm_ef (bs := [(15, [], [.st 16 .drop])]) (by kernel_rfl) ?_
                  refine ⟨⟨_, rfl, fun K hK => ?_⟩, trivial⟩
                  · refine wpList_append_own_at _ rfl _ _ 25 rfl w.heap.size 52 k0 _ 4 64 Tryd.underlying25 hk0 hk1 hk2 hk3 rfl (by decide) (.slice oa ol oc) i (cellsF ((xs.take i).map trim) us2) rfl (ownsRow_block hrow2.out (fun g hg => hB72.block g (hrow2.out.lt g hg).2)) ⟨g72, 0, none⟩ 1 1 [.int .i64 s.kind, .int .i64 s.k, .slice sa69 sl69 sc69, .slice sa71 sl71 sc71] rfl rfl hN72 (by simp [Value.oneCell']) (by unfold maxLen; omega) (by omega) (by have := hB72.size; have := hrow2z.out; omega) ?_
                    intro v' wn73 hown hgrow hnil hloc
                    obtain ⟨sa73, sl73, sc73, rfl⟩ := ownsRow_slice hown
                    go_wp2
                    refine hK _ _ ⟨?_, ?_⟩; (focus (simp only [ReAll, List.contains_cons, List.contains_nil, Nat.reduceBEq, Bool.or_true, Bool.true_or, Bool.or_false, if_true, Bool.false_eq_true, if_false, and_true, true_and] <;> repeat' (first | trivial | (refine And.intro ?_ ?_) | (unfold YA; go_big_quiet_op; rfl)))); clear hK K
                    refine canm_drop (i := 16) (rest' := []) (by kernel_rfl) rfl rfl (fun K hK => ?_); go_big_quiet_op; refine hK _ ?_; clear hK K
                    refine canm_nil ?_
                    go_wp2
                    refine ⟨⟨i + 1, by omega, by omega, by go_num, ?_⟩, by simp [intOf]; omega⟩
                    rw [hsnx.out]
                    exact copies_next hylx.out hd8.out (copy_end hrow2.out hB72 hA72 hI72 hown hgrow hloc)
          · obtain ⟨wn74, hwn⟩ : ∃ wn, wn = wn68.alloc (.cells #[] 3) := ⟨_, rfl⟩
            obtain ⟨g74, hgn⟩ : ∃ g, g = wn68.heap.size := ⟨_, rfl⟩
            have hB74 : Below w7.heap.size w7 wn74 := by rw [hwn]; exact hB68.alloc hB68.size _
            have hI74 : wn74.ownsRow w7.heap.size 3 1 (.slice (some ⟨g74, 0, none⟩) 0 0) 0 [] := by rw [hwn, hgn]; exact own_empty wn68 _ _ hB68.size
            have hA74 := hA68.alloc (.cells #[] 3)
            rw [← hwn] at hA74
            have hP74 := hP68.block (Below.heap_alloc wn68 (.cells #[] 3) _ hP68.lt)
            rw [← hwn] at hP74
            clear y_0 y_1 y_2 y_3
            have y_0 := hP74.cell (j := 0) rfl
            have y_1 := hP74.cell (j := 1) rfl
            have y_2 := hP74.cell (j := 2) rfl
            have y_3 := hP74.cell (j := 3) rfl
            go_wp2
            rw [← hwn, ← hgn]
            clear hwn hgn
            refine hK _ _ ⟨?_, ?_⟩; (focus (simp only [ReAll, List.contains_cons, List.contains_nil, Nat.reduceBEq, Bool.or_true, Bool.true_or, Bool.or_false, if_true, Bool.false_eq_true, if_false, and_true, true_and] <;> repeat' (first | trivial | (refine And.intro ?_ ?_) | (unfold YA; go_big_quiet_op; rfl)))); clear hK K
            refine canm_ef (bs := [(8, [0, 1, 2, 3, 4, 10, 11], [.ef 12 [0, 1, 2, 3, 4], .st 13 .drop, .ef 14 [0], .ef 15 [], .st 16 .drop])]) (by kernel_rfl) ?_
            refine ⟨⟨_, rfl, fun K hK => ?_⟩, trivial⟩
            · refine wpList_append_src rfl _ _ 28 rfl w7.heap.size 5 i0 _ 1 1 Tryd.underlying28 hi hi0 hi1 hi2 rfl (by decide) (.slice (some ⟨g68, 0, none⟩) 0 0) 0 [] rfl hA74 (.slice qa ql qc) mb (rowB (s.bytes.take 260)) rfl (srcAt_mem srcA8.out (fun a v h => (hB74.cell (p := a) (lt_of_cell h)).trans h)) oneB.out (by unfold maxLen; omega) (by omega) hB74.size ?_
              intro v' wn75 hown hgrow hloc
              obtain ⟨sa75, sl75, sc75, rfl⟩ := ownsRow_slice hown
              have hB75 := below_app hB74 hA74 hgrow
              have hA75 : wn75.ownsRow w7.heap.size 5 1 (.slice sa75 sl75 sc75) mb (rowB (s.bytes.take 260)) := by simpa using hown
              have hI75 := own_keep hI74 hA74 (by decide) hgrow
              have hP75 := blk_keep hP74 hA74 (by decide) hgrow
              clear hown hgrow hloc
              clear y_0 y_1 y_2 y_3
              have y_0 := hP75.cell (j := 0) rfl
              have y_1 := hP75.cell (j := 1) rfl
              have y_2 := hP75.cell (j := 2) rfl
              have y_3 := hP75.cell (j := 3) rfl
              go_wp2
              refine hK _ _ ⟨?_, ?_⟩; (focus (simp only [ReAll, List.contains_cons, List.contains_nil, Nat.reduceBEq, Bool.or_true, Bool.true_or, Bool.or_false, if_true, Bool.false_eq_true, if_false, and_true, true_and] <;> repeat' (first | trivial | (refine And.intro ?_ ?_) | (unfold YA; go_big_quiet_op; rfl)))); clear hK K
              refine canm_ef (bs := [(12, [0, 1, 2, 3, 4], [.st 13 .drop, .ef 14 [0], .ef 15 [], .st 16 .drop])]) (by kernel_rfl) ?_
              refine ⟨⟨_, rfl, fun K hK => ?_⟩, trivial⟩
              · refine wpList_append_src rfl _ _ 49 rfl w7.heap.size 3 j0 _ 1 8 Tryd.underlying49 hj0 hj1 hj2 hj3 rfl (by decide) (.slice (some ⟨g74, 0, none⟩) 0 0) 0 [] rfl hI75 (.slice ta tl tc) ma ((s.at_.take 260).map encN) rfl (srcAt_mem srcI8.out (fun a v h => (hB75.cell (p := a) (lt_of_cell h)).trans h)) oneI.out (by unfold maxLen; omega) (by omega) hB75.size ?_
                intro v' wn76 hown hgrow hloc
                obtain ⟨sa76, sl76, sc76, rfl⟩ := ownsRow_slice hown
                have hB76 := below_app hB75 hI75 hgrow
                have hI76 : wn76.ownsRow w7.heap.size 3 1 (.slice sa76 sl76 sc76) ma ((s.at_.take 260).map encN) := by simpa using hown
                have hA76 := own_keep hA75 hI75 (by decide) hgrow
                have hP76 := blk_keep hP75 hI75 (by decide) hgrow
                clear hown hgrow hloc
                clear y_0 y_1 y_2 y_3
                have y_0 := hP76.cell (j := 0) rfl
                have y_1 := hP76.cell (j := 1) rfl
                have y_2 := hP76.cell (j := 2) rfl
                have y_3 := hP76.cell (j := 3) rfl
                go_wp2
                refine hK _ _ ⟨?_, ?_⟩; (focus (simp only [ReAll, List.contains_cons, List.contains_nil, Nat.reduceBEq, Bool.or_true, Bool.true_or, Bool.or_false, if_true, Bool.false_eq_true, if_false, and_true, true_and] <;> repeat' (first | trivial | (refine And.intro ?_ ?_) | (unfold YA; go_big_quiet_op; rfl)))); clear hK K
                refine canm_drop (i := 13) (rest' := [.ef 14 [0], .ef 15 [], .st 16 .drop]) (by kernel_rfl) rfl rfl (fun K hK => ?_); go_big_quiet_op; refine hK _ ?_; clear hK K
                refine canm_ef (bs := [(14, [0], [.ef 15 [], .st 16 .drop])]) (by kernel_rfl) ?_
                refine ⟨⟨_, rfl, fun K hK => ?_⟩, trivial⟩
                · obtain ⟨wn77, hwn⟩ : ∃ wn, wn = wn76.alloc (.cells #[.int .i64 s.kind, .int .i64 s.k, .slice sa75 sl75 sc75, .slice sa76 sl76 sc76] 52) := ⟨_, rfl⟩
                  obtain ⟨g77, hgn⟩ : ∃ g, g = wn76.heap.size := ⟨_, rfl⟩
                  have hB77 : Below w7.heap.size w7 wn77 := by rw [hwn]; exact hB76.alloc hB76.size _
                  have hN77 : ∀ j u, ([.int .i64 s.kind, .int .i64 s.k, .slice sa75 sl75 sc75, .slice sa76 sl76 sc76] : List Value)[j]? = some u → wn77.cell? ((⟨g77, 0, none⟩ : Addr).add j) = some u := by rw [hwn, hgn]; exact cells_new wn76 _ _
                  have hA77 := hA76.alloc (.cells #[.int .i64 s.kind, .int .i64 s.k, .slice sa75 sl75 sc75, .slice sa76 sl76 sc76] 52)
                  rw [← hwn] at hA77
                  have hI77 := hI76.alloc (.cells #[.int .i64 s.kind, .int .i64 s.k, .slice sa75 sl75 sc75, .slice sa76 sl76 sc76] 52)
                  rw [← hwn] at hI77
                  clear y_0 y_1 y_2 y_3
                  go_wp2
                  rw [← hwn, ← hgn]
                  clear hwn hgn
                  refine hK _ _ ⟨?_, ?_⟩; (focus (simp only [ReAll, List.contains_cons, List.contains_nil, Nat.reduceBEq, Bool.or_true, Bool.true_or, Bool.or_false, if_true, Bool.false_eq_true, if_false, and_true, true_and] <;> repeat' (first | trivial | (refine And.intro ?_ ?_) | (unfold YA; go_big_quiet_op; rfl)))); clear hK K
                  refine canm_ef (bs := [(15, [], [.st 16 .drop])]) (by kernel_rfl) ?_
                  refine ⟨⟨_, rfl, fun K hK => ?_⟩, trivial⟩
                  · refine wpList_append_own_at _ rfl _ _ 25 rfl w.heap.size 52 k0 _ 4 64 Tryd.underlying25 hk0 hk1 hk2 hk3 rfl (by decide) (.slice oa ol oc) i (cellsF ((xs.take i).map trim) us2) rfl (ownsRow_block hrow2.out (fun g hg => hB77.block g (hrow2.out.lt g hg).2)) ⟨g77, 0, none⟩ 1 1 [.int .i64 s.kind, .int .i64 s.k, .slice sa75 sl75 sc75, .slice sa76 sl76 sc76] rfl rfl hN77 (by simp [Value.oneCell']) (by unfold maxLen; omega) (by omega) (by have := hB77.size; have := hrow2z.out; omega) ?_
                    intro v' wn78 hown hgrow hnil hloc
                    obtain ⟨sa78, sl78, sc78, rfl⟩ := ownsRow_slice hown
                    go_wp2
                    refine hK _ _ ⟨?_, ?_⟩; (focus (simp only [ReAll, List.contains_cons, List.contains_nil, Nat.reduceBEq, Bool.or_true, Bool.true_or, Bool.or_false, if_true, Bool.false_eq_true, if_false, and_true, true_and] <;> repeat' (first | trivial | (refine And.intro ?_ ?_) | (unfold YA; go_big_quiet_op; rfl)))); clear hK K
                    refine canm_drop (i := 16) (rest' := []) (by kernel_rfl) rfl rfl (fun K hK => ?_); go_big_quiet_op; refine hK _ ?_; clear hK K
                    refine canm_nil ?_
                    go_wp2
                    refine ⟨⟨i + 1, by omega, by omega, by go_num, ?_⟩, by simp [intOf]; omega⟩
                    rw [hsnx.out]
                    exact copies_next hylx.out hd8.out (copy_end hrow2.out hB77 hA77 hI77 hown hgrow hloc)
        · obtain ⟨wn79, hwn⟩ : ∃ wn, wn = w0.alloc (.cells #[] 3) := ⟨_, rfl⟩
          obtain ⟨g79, hgn⟩ : ∃ g, g = w0.heap.size := ⟨_, rfl⟩
          have hB79 : Below w7.heap.size w7 wn79 := by rw [hwn]; exact hB0.alloc hB0.size _
          have hI79 : wn79.ownsRow w7.heap.size 3 1 (.slice (some ⟨g79, 0, none⟩) 0 0) 0 [] := by rw [hwn, hgn]; exact own_empty w0 _ _ hB0.size
          have hP79 := hP0.block (Below.heap_alloc w0 (.cells #[] 3) _ hP0.lt)
          rw [← hwn] at hP79
          clear y_0 y_1 y_2 y_3
          have y_0 := hP79.cell (j := 0) rfl
          have y_1 := hP79.cell (j := 1) rfl
          have y_2 := hP79.cell (j := 2) rfl
          have y_3 := hP79.cell (j := 3) rfl
          go_wp2
          rw [← hwn, ← hgn]
          clear hwn hgn
          refine hK _ _ ⟨?_, ?_⟩; (focus (simp only [ReAll, List.contains_cons, List.contains_nil, Nat.reduceBEq, Bool.or_true, Bool.true_or, Bool.or_false, if_true, Bool.false_eq_true, if_false, and_true, true_and] <;> repeat' (first | trivial | (refine And.intro ?_ ?_) | (unfold YA; go_big_quiet_op; rfl)))); clear hK K
          refine canm_ef (bs := [(5, [0, 1, 2, 3, 4, 6, 7, 10, 11], [.ef 8 [0, 1, 2, 3, 4, 10, 11], .ef 12 [0, 1, 2, 3, 4], .st 13 .drop, .ef 14 [0], .ef 15 [], .st 16 .drop])]) (by kernel_rfl) ?_
          refine ⟨⟨_, rfl, fun K hK => ?_⟩, trivial⟩
          · obtain ⟨wn80, hwn⟩ : ∃ wn, wn = wn79.alloc (.cells #[] 5) := ⟨_, rfl⟩
            obtain ⟨g80, hgn⟩ : ∃ g, g = wn79.heap.size := ⟨_, rfl⟩
            have hB80 : Below w7.heap.size w7 wn80 := by rw [hwn]; exact hB79.alloc hB79.size _
            have hA80 : wn80.ownsRow w7.heap.size 5 1 (.slice (some ⟨g80, 0, none⟩) 0 0) 0 [] := by rw [hwn, hgn]; exact own_empty wn79 _ _ hB79.size
            have hI80 := hI79.alloc (.cells #[] 5)
            rw [← hwn] at hI80
            have hP80 := hP79.block (Below.heap_alloc wn79 (.cells #[] 5) _ hP79.lt)
            rw [← hwn] at hP80
            clear y_0 y_1 y_2 y_3
            have y_0 := hP80.cell (j := 0) rfl
            have y_1 := hP80.cell (j := 1) rfl
            have y_2 := hP80.cell (j := 2) rfl
            have y_3 := hP80.cell (j := 3) rfl
            go_wp2
            rw [← hwn, ← hgn]
            clear hwn hgn
            refine hK _ _ ⟨?_, ?_⟩; (focus (simp only [ReAll, List.contains_cons, List.contains_nil, Nat.reduceBEq, Bool.or_true, Bool.true_or, Bool.or_false, if_true, Bool.false_eq_true, if_false, and_true, true_and] <;> repeat' (first | trivial | (refine And.intro ?_ ?_) | (unfold YA; go_big_quiet_op; rfl)))); clear hK K
            refine canm_ef (bs := [(8, [0, 1, 2, 3, 4, 10, 11], [.ef 12 [0, 1, 2, 3, 4], .st 13 .drop, .ef 14 [0], .ef 15 [], .st 16 .drop])]) (by kernel_rfl) ?_
            refine ⟨⟨_, rfl, fun K hK => ?_⟩, trivial⟩
            · refine wpList_append_src rfl _ _ 28 rfl w7.heap.size 5 i0 _ 1 1 Tryd.underlying28 hi hi0 hi1 hi2 rfl (by decide) (.slice (some ⟨g80, 0, none⟩) 0 0) 0 [] rfl hA80 (.slice qa ql qc) mb (rowB (s.bytes.take 260)) rfl (srcAt_mem srcA8.out (fun a v h => (hB80.cell (p := a) (lt_of_cell h)).trans h)) oneB.out (by unfold maxLen; omega) (by omega) hB80.size ?_
              intro v' wn81 hown hgrow hloc
              obtain ⟨sa81, sl81, sc81, rfl⟩ := ownsRow_slice hown
              have hB81 := below_app hB80 hA80 hgrow
              have hA81 : wn81.ownsRow w7.heap.size 5 1 (.slice sa81 sl81 sc81) mb (rowB (s.bytes.take 260)) := by simpa using hown
              have hI81 := own_keep hI80 hA80 (by decide) hgrow
              have hP81 := blk_keep hP80 hA80 (by decide) hgrow
              clear hown hgrow hloc
              clear y_0 y_1 y_2 y_3
              have y_0 := hP81.cell (j := 0) rfl
              have y_1 := hP81.cell (j := 1) rfl
              have y_2 := hP81.cell (j := 2) rfl
              have y_3 := hP81.cell (j := 3) rfl
              go_wp2
              refine hK _ _ ⟨?_, ?_⟩; (focus (simp only [ReAll, List.contains_cons, List.contains_nil, Nat.reduceBEq, Bool.or_true, Bool.true_or, Bool.or_false, if_true, Bool.false_eq_true, if_false, and_true, true_and] <;> repeat' (first | trivial | (refine And.intro ?_ ?_) | (unfold YA; go_big_quiet_op; rfl)))); clear hK K
              refine canm_ef (bs := [(12, [0, 1, 2, 3, 4], [.st 13 .drop, .ef 14 [0], .ef 15 [], .st 16 .drop])]) (by kernel_rfl) ?_
              refine ⟨⟨_, rfl, fun K hK => ?_⟩, trivial⟩
              · refine wpList_append_src rfl _ _ 49 rfl w7.heap.size 3 j0 _ 1 8 Tryd.underlying49 hj0 hj1 hj2 hj3 rfl (by decide) (.slice (some ⟨g79, 0, none⟩) 0 0) 0 [] rfl hI81 (.slice ta tl tc) ma ((s.at_.take 260).map encN) rfl (srcAt_mem srcI8.out (fun a v h => (hB81.cell (p := a) (lt_of_cell h)).trans h)) oneI.out (by unfold maxLen; omega) (by omega) hB81.size ?_
                intro v' wn82 hown hgrow hloc
                obtain ⟨sa82, sl82, sc82, rfl⟩ := ownsRow_slice hown
                have hB82 := below_app hB81 hI81 hgrow
                have hI82 : wn82.ownsRow w7.heap.size 3 1 (.slice sa82 sl82 sc82) ma ((s.at_.take 260).map encN) := by simpa using hown
                have hA82 := own_keep hA81 hI81 (by decide) hgrow
                have hP82 := blk_keep hP81 hI81 (by decide) hgrow
                clear hown hgrow hloc
                clear y_0 y_1 y_2 y_3
                have y_0 := hP82.cell (j := 0) rfl
                have y_1 := hP82.cell (j := 1) rfl
                have y_2 := hP82.cell (j := 2) rfl
                have y_3 := hP82.cell (j := 3) rfl
                go_wp2
                refine hK _ _ ⟨?_, ?_⟩; (focus (simp only [ReAll, List.contains_cons, List.contains_nil, Nat.reduceBEq, Bool.or_true, Bool.true_or, Bool.or_false, if_true, Bool.false_eq_true, if_false, and_true, true_and] <;> repeat' (first | trivial | (refine And.intro ?_ ?_) | (unfold YA; go_big_quiet_op; rfl)))); clear hK K
                refine canm_drop (i := 13) (rest' := [.ef 14 [0], .ef 15 [], .st 16 .drop]) (by kernel_rfl) rfl rfl (fun K hK => ?_); go_big_quiet_op; refine hK _ ?_; clear hK K
                refine canm_ef (bs := [(14, [0], [.ef 15 [], .st 16 .drop])]) (by kernel_rfl) ?_
                refine ⟨⟨_, rfl, fun K hK => ?_⟩, trivial⟩
                · obtain ⟨wn83, hwn⟩ : ∃ wn, wn = wn82.alloc (.cells #[.int .i64 s.kind, .int .i64 s.k, .slice sa81 sl81 sc81, .slice sa82 sl82 sc82] 52) := ⟨_, rfl⟩
                  obtain ⟨g83, hgn⟩ : ∃ g, g = wn82.heap.size := ⟨_, rfl⟩
                  have hB83 : Below w7.heap.size w7 wn83 := by rw [hwn]; exact hB82.alloc hB82.size _
                  have hN83 : ∀ j u, ([.int .i64 s.kind, .int .i64 s.k, .slice sa81 sl81 sc81, .slice sa82 sl82 sc82] : List Value)[j]? = some u → wn83.cell? ((⟨g83, 0, none⟩ : Addr).add j) = some u := by rw [hwn, hgn]; exact cells_new wn82 _ _
                  have hA83 := hA82.alloc (.cells #[.int .i64 s.kind, .int .i64 s.k, .slice sa81 sl81 sc81, .slice sa82 sl82 sc82] 52)
                  rw [← hwn] at hA83
                  have hI83 := hI82.alloc (.cells #[.int .i64 s.kind, .int .i64 s.k, .slice sa81 sl81 sc81, .slice sa82 sl82 sc82] 52)
                  rw [← hwn] at hI83
                  clear y_0 y_1 y_2 y_3
                  go_wp2
                  rw [← hwn, ← hgn]
                  clear hwn hgn
                  refine hK _ _ ⟨?_, ?_⟩; (focus (simp only [ReAll, List.contains_cons, List.contains_nil, Nat.reduceBEq, Bool.or_true, Bool.true_or, Bool.or_false, if_true, Bool.false_eq_true, if_false, and_true, true_and] <;> repeat' (first | trivial | (refine And.intro ?_ ?_) | (unfold YA; go_big_quiet_op; rfl)))); clear hK K
                  refine canm_ef (bs := [(15, [], [.st 16 .drop])]) (by kernel_rfl) ?_
                  refine ⟨⟨_, rfl, fun K hK => ?_⟩, trivial⟩
                  · refine wpList_append_own_at _ rfl _ _ 25 rfl w.heap.size 52 k0 _ 4 64 Tryd.underlying25 hk0 hk1 hk2 hk3 rfl (by decide) (.slice oa ol oc) i (cellsF ((xs.take i).map trim) us2) rfl (ownsRow_block hrow2.out (fun g hg => hB83.block g (hrow2.out.lt g hg).2)) ⟨g83, 0, none⟩ 1 1 [.int .i64 s.kind, .int .i64 s.k, .slice sa81 sl81 sc81, .slice sa82 sl82 sc82] rfl rfl hN83 (by simp [Value.oneCell']) (by unfold maxLen; omega) (by omega) (by have := hB83.size; have := hrow2z.out; omega) ?_
                    intro v' wn84 hown hgrow hnil hloc
                    obtain ⟨sa84, sl84, sc84, rfl⟩ := ownsRow_slice hown
                    go_wp2
                    refine hK _ _ ⟨?_, ?_⟩; (focus (simp only [ReAll, List.contains_cons, List.contains_nil, Nat.reduceBEq, Bool.or_true, Bool.true_or, Bool.or_false, if_true, Bool.false_eq_true, if_false, and_true, true_and] <;> repeat' (first | trivial | (refine And.intro ?_ ?_) | (unfold YA; go_big_quiet_op; rfl)))); clear hK K
                    refine canm_drop (i := 16) (rest' := []) (by kernel_rfl) rfl rfl (fun K hK => ?_); go_big_quiet_op; refine hK _ ?_; clear hK K
                    refine canm_nil ?_
                    go_wp2
                    refine ⟨⟨i + 1, by omega, by omega, by go_num, ?_⟩, by simp [intOf]; omega⟩
                    rw [hsnx.out]
                    exact copies_next hylx.out hd8.out (copy_end hrow2.out hB83 hA83 hI83 hown hgrow hloc)
    · have hxe : i = min xs.length most := by omega
      have e : xs.take most = xs.take i := by
        rw [hxe]
        rcases Nat.le_total xs.length most with h | h
        · rw [Nat.min_eq_left h, List.take_of_length_le h, List.take_length]
        · rw [Nat.min_eq_right h]
      have ex := Lib.hid e
      clear e hxe
      by_cases h1 : i < xs.length
      · have hg : (i : Int) < (xs.length : Int) := by omega
        have hg2 : ¬ (i : Int) < (most : Int) := by omega
        go_wp2
        go_ret2
        first | rw [ex.out] | rw [← List.map_take, ex.out]
        exact ⟨_, _, rfl, hCo.out⟩
      · have hg : ¬ (i : Int) < (xs.length : Int) := by omega
        go_wp2
        go_ret2
        first | rw [ex.out] | rw [← List.map_take, ex.out]
        exact ⟨_, _, rfl, hCo.out⟩
#print axioms both_c
end Go.Proofs.YtkmknpobinpegaaDoor
