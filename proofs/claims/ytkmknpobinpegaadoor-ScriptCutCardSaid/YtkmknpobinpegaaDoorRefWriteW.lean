/- Layer 29's document: the walk of Write. -/
import Derived.Test.YtkmknpobinpegaaDoorRefWrite
import Derived.Deep.DeepCutAuto
import Derived.Deep.CutBlock
namespace Go.Proofs.YtkmknpobinpegaaDoor
open Go Go.RowKit Go.Maps Go.Sort Go.Lib
set_option linter.unusedSimpArgs false
set_option linter.unusedVariables false

theorem infoP : (Tryd.prog.info? 58).map (fun i => (i.zero, i.size, i.bytes)) = some (some (.agg #[.int .i64 0, .int .i64 0]), 2, 16) := by kernel_rfl
/-- A block whose cells are known. -/
def BlkAt (w : World) (p : Nat) (l : List Value) (e : TypeId) : Prop := w.heap[p]? = some (.cells l.toArray e (0, 0))
theorem BlkAt.cell {w : World} {p : Nat} {l : List Value} {e : TypeId} (h : BlkAt w p l e) {j : Nat} {v : Value} (hv : l[j]? = some v) : w.cell? ⟨p, j, none⟩ = some v := by
  unfold BlkAt at h; simp [World.cell?, h]; simpa using hv
theorem BlkAt.lt {w : World} {p : Nat} {l : List Value} {e : TypeId} (h : BlkAt w p l e) : p < w.heap.size := (Array.getElem?_eq_some_iff.1 h).1
theorem BlkAt.ne {w : World} {p : Nat} {l : List Value} {e e' : TypeId} (h : BlkAt w p l e) {base size n : Nat} {v : Value} {xs : List Value} (ho : w.ownsRow base e' size v n xs) (hne : e ≠ e') : v.ownBlock ≠ some p := by
  intro hv
  rcases ho.2 with ⟨rfl, _⟩ | ⟨g, cap, cur, rfl, _, hg, _⟩
  · simp [Value.ownBlock] at hv
  · simp [Value.ownBlock] at hv
    subst hv
    rw [show w.heap[g]? = _ from h] at hg
    injection hg with hg
    injection hg with _ hg
    exact hne hg
theorem BlkAt.new (w : World) (l : List Value) (e : TypeId) : BlkAt (w.alloc (.cells l.toArray e)) w.heap.size l e := heap_alloc_new w _
theorem BlkAt.block {w w' : World} {p : Nat} {l : List Value} {e : TypeId} (h : BlkAt w p l e) (hb : w'.heap[p]? = w.heap[p]?) : BlkAt w' p l e := hb.trans h
theorem BlkAt.drewN {w : World} {p : Nat} {l : List Value} {e : TypeId} (h : BlkAt w p l e) (n : Nat) : BlkAt (w.drewN n) p l e := h
theorem app_next {w wq w9 : World} {p : Nat} {l : List Value} {base size n : Nat} {v : Value} {xs : List Value} {o : Obj} {e e' : TypeId} (hP : BlkAt wq p l e) (hO : wq.ownsRow base e' size v n xs) (hne : e ≠ e') (hB : Below base w wq) (hbs : base ≤ wq.heap.size) (hg : (wq.alloc o).grownBy w9 v.ownBlock) : BlkAt w9 p l e ∧ Below base w w9 :=
  ⟨hP.block (grow_block1 hg hP.lt (hP.ne hO hne)), (hB.alloc hbs _).grown hg (by simp; omega) (fun k e => (hO.lt k e).1)⟩
theorem numRow_get : ∀ (l : NL) (i q : Nat), i < l.length → q < 2 → (numRow l)[i * 2 + q]? = (numCells l[i]!)[q]?
  | p :: r, 0, q, _, hq => by
    have e : numRow (p :: r) = numCells p ++ numRow r := rfl
    rw [e, List.getElem?_append_left (by simp [numCells]; omega)]
    simp
  | p :: r, i + 1, q, hi, hq => by
    have e : numRow (p :: r) = numCells p ++ numRow r := rfl
    rw [e, List.getElem?_append_right (by simp [numCells]; omega)]
    have e2 : (i + 1) * 2 + q - (numCells p).length = i * 2 + q := by simp [numCells]; omega
    rw [e2, numRow_get r i q (by simpa using hi) hq]
    simp
  | [], _, _, hi, _ => by simp at hi
theorem own_cell2 {w : World} {base g n c : Nat} {e : TypeId} {l : NL} (h : w.ownsRow base e 2 (.slice (some ⟨g, 0, none⟩) n c) n (numRow l)) {i q : Nat} (hl : l.length = n) (hi : i < n) (hq : q < 2) :
    w.cell? ⟨g, i * 2 + q, none⟩ = (numCells l[i]!)[q]? := by
  rcases h.2 with ⟨h0, _⟩ | ⟨g', cap, cur, h0, _, hg, _, _, _, ht⟩
  · cases h0
  · injection h0 with h0 _ _
    injection h0 with h0
    injection h0 with h0
    subst h0
    rw [← numRow_get l i q (by omega) hq, ← ht, List.getElem?_take, if_pos (by omega)]
    simp [World.cell?, hg]
def fitsB (p : Int × Nat) : Bool := decide (fits p)
def bitsFit (l : NL) : List Nat := l.flatMap fun p => if fits p then bitsOf p.1.toNat p.2 else []
theorem bitsFit_all (l : NL) (h : ∀ p ∈ l, fits p) : bitsFit l = bitsAll l := by
  induction l with
  | nil => rfl
  | cons p r ih =>
    unfold bitsFit bitsAll at *
    rw [List.flatMap_cons, List.flatMap_cons, ih (fun q hq => h q (List.mem_cons_of_mem _ hq)), if_pos (h p List.mem_cons_self)]
theorem bitsFit_yes (l : NL) (p : Int × Nat) (h : fits p) : bitsFit (l ++ [p]) = bitsFit l ++ bitsOf p.1.toNat p.2 := by unfold bitsFit; rw [List.flatMap_append]; simp [h]
theorem bitsFit_no (l : NL) (p : Int × Nat) (h : ¬ fits p) : bitsFit (l ++ [p]) = bitsFit l := by unfold bitsFit; rw [List.flatMap_append]; simp [h]
theorem allFit_yes (l : NL) (p : Int × Nat) (h : fits p) : (l ++ [p]).all fitsB = l.all fitsB := by rw [List.all_append]; simp [fitsB, h]
theorem allFit_no (l : NL) (p : Int × Nat) (h : ¬ fits p) : (l ++ [p]).all fitsB = false := by rw [List.all_append]; simp [fitsB, h]
def NumOk (p : Int × Nat) : Prop := (p.2 = 8 ∨ p.2 = 16) ∧ numOk p.1
theorem stepN_ok {x : Stp} (h : StpOk x) : ∀ p ∈ stepN x, NumOk p := by
  intro p hp
  have hb := h.lb
  have ha := h.la
  unfold stepN at hp
  simp only [List.mem_append, List.mem_cons, List.not_mem_nil, or_false] at hp
  rcases hp with ((((rfl | rfl | rfl) | hp) | rfl) | hp)
  · exact ⟨.inl rfl, h.k1⟩
  · exact ⟨.inr rfl, h.k2⟩
  · exact ⟨.inl rfl, by unfold numOk; simp only; omega⟩
  · obtain ⟨y, hy, rfl⟩ := List.mem_map.1 hp
    have := h.b y hy
    exact ⟨.inl rfl, by unfold numOk; simp only; omega⟩
  · exact ⟨.inl rfl, by unfold numOk; simp only; omega⟩
  · obtain ⟨y, hy, rfl⟩ := List.mem_map.1 hp
    exact ⟨.inr rfl, h.a y hy⟩
theorem numsN_ok {c : Cfg} {xs : List Stp} (hc : CfgOk c) (hx : ∀ x ∈ xs, StpOk x) (hn : xs.length ≤ 12) : ∀ p ∈ hdrN c xs.length ++ stepsN xs, NumOk p := by
  intro p hp
  rcases List.mem_append.1 hp with hp | hp
  · unfold hdrN at hp
    simp only [List.mem_cons, List.not_mem_nil, or_false] at hp
    rcases hp with rfl | rfl | rfl | rfl | rfl | rfl
    · exact ⟨.inl rfl, hc.s⟩
    · exact ⟨.inl rfl, hc.q⟩
    · exact ⟨.inl rfl, hc.p⟩
    · exact ⟨.inr rfl, by have := hc.f0; have := hc.f1; unfold numOk; simp only; omega⟩
    · exact ⟨.inr rfl, hc.a⟩
    · exact ⟨.inr rfl, by unfold numOk; simp only; omega⟩
  · obtain ⟨x, hx', hp⟩ := List.mem_flatMap.1 hp
    exact stepN_ok (hx x hx') p hp
theorem rput_c (w : World) (n : Int) (wide : Nat) (h : wide = 8 ∨ wide = 16) (hr : numOk n) : Calls Tryd.prog 16 #[.int .i64 n, .int .i64 (wide : Int)] w (PPost w n wide) := by
  rcases h with rfl | rfl
  · exact rput8_c w n hr
  · exact rput16_c w n hr
theorem stepsN_len : ∀ l : List Stp, (∀ y ∈ l, StpOk y) → (stepsN l).length ≤ 2004 * l.length
  | [], _ => Nat.le_refl _
  | y :: r, h => by
    have h1 := stepsN_len r (fun z hz => h z (List.mem_cons_of_mem _ hz))
    have h2 := (h y List.mem_cons_self).lb
    have h3 := (h y List.mem_cons_self).la
    have e : stepsN (y :: r) = stepN y ++ stepsN r := rfl
    have e2 : (stepN y).length = 3 + y.bytes.length + 1 + y.at_.length := by simp [stepN, bytesN, atN]; omega
    rw [e, List.length_append, e2, List.length_cons]; omega
theorem bitsFit_len (l : NL) (h : ∀ p ∈ l, NumOk p) : (bitsFit l).length ≤ 16 * l.length := by
  induction l with
  | nil => exact Nat.le_refl _
  | cons p r ih =>
    have h1 := ih (fun q hq => h q (List.mem_cons_of_mem _ hq))
    have h2 := (h p List.mem_cons_self).1
    have e : bitsFit (p :: r) = (if fits p then bitsOf p.1.toNat p.2 else []) ++ bitsFit r := rfl
    rw [e, List.length_append, List.length_cons]
    split
    · rw [bitsOf_length]; omega
    · simp; omega
theorem bitsFit_bit (l : NL) : ∀ y ∈ bitsFit l, y ≤ 1 := by
  intro y hy
  obtain ⟨p, _, hp⟩ := List.mem_flatMap.1 hy
  split at hp
  · exact bitsOf_bit _ _ y hp
  · cases hp
def okR (b : Bool) (x : Stp) : Bool := b && stepOkB x

set_option maxRecDepth 8000 in
set_option maxHeartbeats 8000000 in
theorem refWrite_c (w : World) (T : Nat → Prop) (c : Cfg) (v : Value) (xs : List Stp) (hc : CfgOk c) (hx : ∀ x ∈ xs, StpOk x) (hv : StpsAt w T v xs) (hn : xs.length ≤ 12) :
    Calls Tryd.prog 8 #[fiveV c, v] w (RWPost w (writeS c xs)) := by
  obtain ⟨i0, hi, hi0, hi1, hi2⟩ := info_parts infoP
  obtain ⟨j0, hj0, hj1, hj2, hj3⟩ := info_parts infoB
  obtain ⟨a, cc, rfl, hlc, hcm, hst⟩ := hv
  unfold maxLen at hcm
  have hcx := Lib.hid (And.intro hc (And.intro hx hst))
  clear hc hx hst
  have hd2 : decide ((xs.length : Int) ≤ 2000) = true := by simp; omega
  unfold fiveV
  go_enter Tryd.func8, Tryd.ntmps8
  go_wp2
  obtain ⟨w1, hw1⟩ : ∃ w1, w1 = w.alloc (.cells #[.int .i64 c.size, .int .i64 c.queue, .int .i64 c.pool, .int .i64 c.first, .int .i64 c.age] 22) := ⟨_, rfl⟩
  obtain ⟨w2, hw2⟩ : ∃ w2, w2 = w1.alloc (.cells (numRow (hdrN c xs.length)).toArray 58) := ⟨_, rfl⟩
  have z1 : w1.heap.size = w.heap.size + 1 := by rw [hw1]; simp
  have z2 : w2.heap.size = w.heap.size + 2 := by rw [hw2]; simp; omega
  have hB2 : Below w.heap.size w w2 := by rw [hw2, hw1]; exact ((Below.refl _ w).alloc (Nat.le_refl _) _).alloc (by simp) _
  have hO2 : w2.ownsRow w.heap.size 58 2 (.slice (some ⟨w.heap.size + 1, 0, none⟩) 6 6) 6 (numRow (hdrN c xs.length)) := by
    refine ⟨by rw [numRow_length]; rfl, .inr ⟨w.heap.size + 1, 6, (numRow (hdrN c xs.length)).toArray, rfl, by omega, ?_, Nat.le_refl _, by decide, by simp [numRow_length, hdrN], by simp [numRow_length, hdrN, numRow, numCells]⟩⟩
    rw [hw2, ← z1]; exact heap_alloc_new w1 _
  have hws : w2 = (w.alloc (.cells #[.int .i64 c.size, .int .i64 c.queue, .int .i64 c.pool, .int .i64 c.first, .int .i64 c.age] 22)).alloc (.cells #[.int .i64 c.size, .int .i64 8, .int .i64 c.queue, .int .i64 8, .int .i64 c.pool, .int .i64 8, .int .i64 c.first, .int .i64 16, .int .i64 c.age, .int .i64 16, .int .i64 (xs.length : Int), .int .i64 16] 58) := by rw [hw2, hw1]; rfl
  rw [← hws]
  have hx2 := Lib.hid (And.intro hB2 hO2)
  clear hw1 hw2 z1 z2 hB2 hO2 hws
  have hL0 : (hdrN c xs.length).length = 6 := rfl
  generalize hH0e : hdrN c xs.length = H0 at *
  have hH0 := Lib.hid hH0e
  clear hH0e
  go_loopw [6, 7, 8] (fun s6 s7 s8 wr => ∃ (i : Nat) (b : Bool), i ≤ xs.length ∧ s8 = .int .i64 (i : Int) ∧ s7 = .bool b ∧ Aside (b = (xs.take i).all stepOkB ∧ wr.ownsRow w.heap.size 58 2 s6 (H0 ++ stepsN (xs.take i)).length (numRow (H0 ++ stepsN (xs.take i))) ∧ Below w.heap.size w wr))
    (fun _ _ s8 _ => xs.length - (intOf s8).toNat)
  case atStart => exact ⟨0, true, Nat.zero_le _, rfl, rfl, rfl, by simpa [stepsN, hL0] using hx2.out.2, hx2.out.1⟩
  case round =>
    obtain ⟨i, b, hi', rfl, rfl, hA⟩ := hrel
    have hAi := Lib.hid hA
    clear hA hx2
    by_cases hlt : i < xs.length
    · obtain ⟨x, xb, xa, rfl, hxT, hxl, x0, x1, x2, x3, xr, xr'⟩ := hcx.out.2.2 i hlt
      obtain ⟨b1, b3, rfl, hbc, hbm, hbh⟩ := xr.below
      obtain ⟨b4, b6, rfl, hac, ham, hah⟩ := xr'.below
      unfold maxLen at hbm ham
      have hbb : (x.add (i * 4)).block < w.heap.size := by rw [add_block]; exact hxl
      have y0 := (hAi.out.2.2.cell (p := x.add (i * 4)) hbb).trans x0
      have y1 := (hAi.out.2.2.cell (p := ⟨(x.add (i * 4)).block, (x.add (i * 4)).off + 1, none⟩) hbb).trans x1
      have y2 := (hAi.out.2.2.cell (p := ⟨(x.add (i * 4)).block, (x.add (i * 4)).off + 2, none⟩) hbb).trans x2
      have y3 := (hAi.out.2.2.cell (p := ⟨(x.add (i * 4)).block, (x.add (i * 4)).off + 3, none⟩) hbb).trans x3
      have hso := hcx.out.2.1 xs[i]! (by rw [getElem!_pos xs i hlt]; exact List.getElem_mem hlt)
      have hsl := hso.lb
      have hsa := hso.la
      have hsn := take_snoc (l := xs) (j := i) hlt
      have hsx := Lib.hid (And.intro hso (And.intro hsn (And.intro hbh hah)))
      clear x0 x1 x2 x3 xr xr' hbb hso hsn hbh hah
      generalize xs[i]! = s at *
      have hls : (stepsN (xs.take i)).length ≤ 2004 * i := by
        have : ∀ l : List Stp, (∀ y ∈ l, StpOk y) → (stepsN l).length ≤ 2004 * l.length := by
          intro l
          induction l with
          | nil => intro _; exact Nat.le_refl _
          | cons y r ih =>
            intro h
            have h1 := ih (fun z hz => h z (List.mem_cons_of_mem _ hz))
            have h2 := (h y List.mem_cons_self).lb
            have h3 := (h y List.mem_cons_self).la
            have e : stepsN (y :: r) = stepN y ++ stepsN r := rfl
            have e2 : (stepN y).length = 3 + y.bytes.length + 1 + y.at_.length := by simp [stepN, bytesN, atN]; omega
            rw [e, List.length_append, e2, List.length_cons]; omega
        have h := this (xs.take i) (fun y hy => hcx.out.2.1 y (List.mem_of_mem_take hy))
        have := List.length_take_le i xs
        rw [List.length_take] at h
        omega
      have hstx : stepsN (xs.take (i + 1)) = stepsN (xs.take i) ++ stepN s := by
        rw [hsx.out.2.1]; unfold stepsN; rw [List.flatMap_append]; simp
      have hokx : (xs.take (i + 1)).all stepOkB = okR ((xs.take i).all stepOkB) s := by
        rw [hsx.out.2.1, List.all_append]; unfold okR; simp
      have hbb' := hAi.out.1
      have hxx := Lib.hid (And.intro hstx (And.intro hokx hbb'))
      obtain ⟨R0, hR0⟩ : ∃ R0, R0 = H0 ++ stepsN (xs.take i) := ⟨_, rfl⟩
      have hO := hAi.out.2.1
      rw [← hR0] at hO
      have hRl : R0.length ≤ 6 + 2004 * i := by rw [hR0, List.length_append]; omega
      have hBr := hAi.out.2.2
      have hR0x := Lib.hid (And.intro hR0 (And.intro hO hBr))
      clear hstx hokx hbb' hR0 hO hBr hls hAi
      go_upto_region 7 with fail
      obtain ⟨wq, hwq⟩ : ∃ wq, wq = wr.alloc (.cells [.int .i64 s.kind, .int .i64 s.k, .slice b1 s.bytes.length b3, .slice b4 s.at_.length b6].toArray 51) := ⟨_, rfl⟩
      obtain ⟨p, hp⟩ : ∃ p, p = wr.heap.size := ⟨_, rfl⟩
      have hP : BlkAt wq p [.int .i64 s.kind, .int .i64 s.k, .slice b1 s.bytes.length b3, .slice b4 s.at_.length b6] 51 := by rw [hwq, hp]; exact BlkAt.new wr _ _
      have hOq : wq.ownsRow w.heap.size 58 2 u6 R0.length (numRow R0) := by rw [hwq]; exact hR0x.out.2.1.alloc _
      have hBq : Below w.heap.size w wq := by rw [hwq]; exact hR0x.out.2.2.alloc hR0x.out.2.2.size _
      have hws : wq = wr.alloc (.cells #[.int .i64 s.kind, .int .i64 s.k, .slice b1 s.bytes.length b3, .slice b4 s.at_.length b6] 51) := hwq
      rw [← hws, ← hp]
      have hqx := Lib.hid (And.intro hP (And.intro hOq hBq))
      clear hwq hws hp hP hOq hBq y0 y1 y2 y3
      go_cut [7] (fun s7 wx => s7 = .bool (okR b s) ∧ wq = wx)
      case first =>
        have q2 : wq.cell? ⟨p, 2, none⟩ = some (.slice b1 s.bytes.length b3) := hqx.out.1.cell rfl
        have q3 : wq.cell? ⟨p, 3, none⟩ = some (.slice b4 s.at_.length b6) := hqx.out.1.cell rfl
        cases b with
        | false =>
          have e : okR false s = false := rfl
          go_wp2
          go_meet
          exact ⟨rfl, rfl⟩
        | true =>
          by_cases h1 : s.bytes.length ≤ 255
          · have d1 : decide ((s.bytes.length : Int) ≤ 255) = true := by simp; omega
            by_cases h2 : s.at_.length ≤ 255
            · have d2 : decide ((s.at_.length : Int) ≤ 255) = true := by simp; omega
              go_wp2
              go_meet
              exact ⟨by simp [okR, stepOkB, h1, h2], rfl⟩
            · have d2 : decide ((s.at_.length : Int) ≤ 255) = false := by simp; omega
              go_wp2
              go_meet
              exact ⟨by simp [okR, stepOkB, h1, h2], rfl⟩
          · have d1 : decide ((s.bytes.length : Int) ≤ 255) = false := by simp; omega
            go_wp2
            go_meet
            exact ⟨by simp [okR, stepOkB, h1], rfl⟩
      case rest =>
        obtain ⟨rfl, hww⟩ := hcut
        subst hww
        have q0 : wq.cell? ⟨p, 0, none⟩ = some (.int .i64 s.kind) := hqx.out.1.cell rfl
        have q1 : wq.cell? ⟨p, 1, none⟩ = some (.int .i64 s.k) := hqx.out.1.cell rfl
        have q2 : wq.cell? ⟨p, 2, none⟩ = some (.slice b1 s.bytes.length b3) := hqx.out.1.cell rfl
        obtain ⟨va, vl, vc, rfl⟩ := ownsRow_slice hqx.out.2.1
        have hbz := hqx.out.2.2.size
        go_wp2_with (at_builtin; refine wpList_append_own_at _ rfl _ _ 59 rfl w.heap.size 58 i0 _ 2 16 Tryd.underlying59 hi hi0 hi1 hi2 rfl (by decide) (.slice va vl vc) R0.length (numRow R0) rfl (hqx.out.2.1.alloc _) ⟨wq.heap.size, 0, none⟩ 3 3 [.int .i64 s.kind, .int .i64 8, .int .i64 s.k, .int .i64 16, .int .i64 (s.bytes.length : Int), .int .i64 8] rfl rfl (cells_new _ [.int .i64 s.kind, .int .i64 8, .int .i64 s.k, .int .i64 16, .int .i64 (s.bytes.length : Int), .int .i64 8] _) (by simp [Value.oneCell']) (by unfold maxLen; omega) (by omega) (by simp; omega) ?_; intro v' w9 hown' hgrow hnil hloc; obtain ⟨sa, sl, sc, rfl⟩ := ownsRow_slice hown')
        clear q0 q1 q2 hbz
        obtain ⟨hP9, hB9⟩ := app_next hqx.out.1 hqx.out.2.1 (by decide) hqx.out.2.2 hqx.out.2.2.size hgrow
        have hO9 : w9.ownsRow w.heap.size 58 2 (.slice sa sl sc) (R0 ++ [(s.kind, 8), (s.k, 16), ((s.bytes.length : Int), 8)]).length (numRow (R0 ++ [(s.kind, 8), (s.k, 16), ((s.bytes.length : Int), 8)])) := by
          rw [numRow_append, List.length_append]; exact hown'
        have h9x := Lib.hid (And.intro hP9 (And.intro hO9 hB9))
        clear hP9 hO9 hB9 hown' hgrow hnil hloc
        clear hqx
        have hRl1 : (R0 ++ [(s.kind, 8), (s.k, 16), ((s.bytes.length : Int), 8)]).length ≤ 9 + 2004 * i := by rw [List.length_append]; simp; omega
        obtain ⟨R1, hR1⟩ : ∃ R1, R1 = R0 ++ [(s.kind, 8), (s.k, 16), ((s.bytes.length : Int), 8)] := ⟨_, rfl⟩
        rw [← hR1] at h9x hRl1
        have hR1x := Lib.hid hR1
        clear hR1
        go_loopw [6, 10] (fun s6 s10 wr => ∃ j : Nat, j ≤ s.bytes.length ∧ s10 = .int .i64 (j : Int) ∧ Aside (BlkAt wr p [.int .i64 s.kind, .int .i64 s.k, .slice b1 s.bytes.length b3, .slice b4 s.at_.length b6] 51 ∧ wr.ownsRow w.heap.size 58 2 s6 (R1 ++ bytesN (s.bytes.take j)).length (numRow (R1 ++ bytesN (s.bytes.take j))) ∧ Below w.heap.size w wr))
          (fun _ s10 _ => s.bytes.length - (intOf s10).toNat)
        case atStart => exact ⟨0, Nat.zero_le _, rfl, h9x.out.1, by simpa [bytesN] using h9x.out.2.1, h9x.out.2.2⟩
        case round =>
          obtain ⟨j, hj, rfl, hA⟩ := hrel
          have hAj := Lib.hid hA
          clear hA h9x
          have q2 := hAj.out.1.cell (j := 2) rfl
          by_cases hltj : j < s.bytes.length
          · obtain ⟨xq, rfl, hxq, _, hcq⟩ := hsx.out.2.2.1 (by omega)
            have hyc := (hAj.out.2.2.cell (p := xq.add j) (by rw [add_block]; exact hxq)).trans (hcq j hltj)
            have hyb := hsx.out.1.b s.bytes[j]! (by rw [getElem!_pos s.bytes j hltj]; exact List.getElem_mem hltj)
            have hsn1 : bytesN (s.bytes.take (j + 1)) = bytesN (s.bytes.take j) ++ [((s.bytes[j]! : Int), 8)] := by rw [take_snoc hltj]; simp [bytesN]
            have hbl : (R1 ++ bytesN (s.bytes.take j)).length ≤ 1009 + 2004 * i := by
              have := List.length_take_le j s.bytes
              rw [List.length_append, bytesN, List.length_map]; omega
            generalize s.bytes[j]! = y at *
            have hsn1x := Lib.hid hsn1
            obtain ⟨R2, hR2⟩ : ∃ R2, R2 = R1 ++ bytesN (s.bytes.take j) := ⟨_, rfl⟩
            rw [← hR2] at hbl
            have hR2x := Lib.hid hR2
            have hAj2 := hAj.out
            rw [← hR2] at hAj2
            have hAk := Lib.hid hAj2
            clear hsn1 hR2 hAj2 hAj hcq
            obtain ⟨va, vl, vc, rfl⟩ := ownsRow_slice hAk.out.2.1
            have hbz := hAk.out.2.2.size
            go_wp2_with (at_builtin; refine wpList_append_own_at _ rfl _ _ 59 rfl w.heap.size 58 i0 _ 2 16 Tryd.underlying59 hi hi0 hi1 hi2 rfl (by decide) (.slice va vl vc) R2.length (numRow R2) rfl (hAk.out.2.1.alloc _) ⟨wr.heap.size, 0, none⟩ 1 1 [.int .i64 (y : Int), .int .i64 8] rfl rfl (cells_new _ [.int .i64 (y : Int), .int .i64 8] _) (by simp [Value.oneCell']) (by unfold maxLen; omega) (by omega) (by simp; omega) ?_; intro v' w9 hown' hgrow hnil hloc; obtain ⟨sa, sl, sc, rfl⟩ := ownsRow_slice hown')
            clear hyc q2 hbz
            obtain ⟨hP9, hB9⟩ := app_next hAk.out.1 hAk.out.2.1 (by decide) hAk.out.2.2 hAk.out.2.2.size hgrow
            refine ⟨⟨j + 1, by omega, by go_num, hP9, ?_, hB9⟩, by simp [intOf]; omega⟩
            rw [hsn1x.out, ← List.append_assoc, ← hR2x.out, numRow_append, List.length_append]
            exact hown'
          · obtain rfl : j = s.bytes.length := by omega
            have hAe := hAj.out
            rw [List.take_length] at hAe
            have hRl2 : (R1 ++ bytesN s.bytes).length ≤ 1009 + 2004 * i := by rw [List.length_append, bytesN, List.length_map]; omega
            obtain ⟨R2, hR2⟩ : ∃ R2, R2 = R1 ++ bytesN s.bytes := ⟨_, rfl⟩
            rw [← hR2] at hAe hRl2
            have hR2x := Lib.hid hR2
            have hAk := Lib.hid hAe
            clear hR2 hAe hAj hltj hj
            have q3 := hAk.out.1.cell (j := 3) rfl
            obtain ⟨va, vl, vc, rfl⟩ := ownsRow_slice hAk.out.2.1
            have hbz := hAk.out.2.2.size
            obtain ⟨wo, hwo⟩ : ∃ wo, wo = wr := ⟨_, rfl⟩
            subst wr
            go_wp2_with (at_builtin; refine wpList_append_own_at _ rfl _ _ 59 rfl w.heap.size 58 i0 _ 2 16 Tryd.underlying59 hi hi0 hi1 hi2 rfl (by decide) (.slice va vl vc) R2.length (numRow R2) rfl (hAk.out.2.1.alloc _) ⟨wo.heap.size, 0, none⟩ 1 1 [.int .i64 (s.at_.length : Int), .int .i64 8] rfl rfl (cells_new _ [.int .i64 (s.at_.length : Int), .int .i64 8] _) (by simp [Value.oneCell']) (by unfold maxLen; omega) (by omega) (by simp; omega) ?_; intro v' w9 hown' hgrow hnil hloc; obtain ⟨sa, sl, sc, rfl⟩ := ownsRow_slice hown')
            clear q2 q3 hbz
            obtain ⟨hP9, hB9⟩ := app_next hAk.out.1 hAk.out.2.1 (by decide) hAk.out.2.2 hAk.out.2.2.size hgrow
            have hO9 : w9.ownsRow w.heap.size 58 2 (.slice sa sl sc) (R2 ++ [((s.at_.length : Int), 8)]).length (numRow (R2 ++ [((s.at_.length : Int), 8)])) := by
              rw [numRow_append, List.length_append]; exact hown'
            have hax := Lib.hid (And.intro hP9 (And.intro hO9 hB9))
            clear hP9 hO9 hB9 hown' hgrow hnil hloc
            clear hAk
            have hRl3 : (R2 ++ [((s.at_.length : Int), 8)]).length ≤ 1010 + 2004 * i := by rw [List.length_append]; simp; omega
            obtain ⟨R3, hR3⟩ : ∃ R3, R3 = R2 ++ [((s.at_.length : Int), 8)] := ⟨_, rfl⟩
            rw [← hR3] at hax hRl3
            have hR3x := Lib.hid hR3
            clear hR3
            go_loopw [6, 11] (fun s6 s11 wr => ∃ j : Nat, j ≤ s.at_.length ∧ s11 = .int .i64 (j : Int) ∧ Aside (BlkAt wr p [.int .i64 s.kind, .int .i64 s.k, .slice b1 s.bytes.length b3, .slice b4 s.at_.length b6] 51 ∧ wr.ownsRow w.heap.size 58 2 s6 (R3 ++ atN (s.at_.take j)).length (numRow (R3 ++ atN (s.at_.take j))) ∧ Below w.heap.size w wr))
              (fun _ s11 _ => s.at_.length - (intOf s11).toNat)
            case atStart => exact ⟨0, Nat.zero_le _, rfl, hax.out.1, by simpa [atN] using hax.out.2.1, hax.out.2.2⟩
            case round =>
              obtain ⟨j, hj, rfl, hA⟩ := hrel
              have hAj := Lib.hid hA
              clear hA hax
              have q3 := hAj.out.1.cell (j := 3) rfl
              by_cases hltj : j < s.at_.length
              · obtain ⟨xq, rfl, hxq, _, hcq⟩ := hsx.out.2.2.2 (by omega)
                have hyc := (hAj.out.2.2.cell (p := xq.add j) (by rw [add_block]; exact hxq)).trans (hcq j hltj)
                have hsn1 : atN (s.at_.take (j + 1)) = atN (s.at_.take j) ++ [(s.at_[j]!, 16)] := by rw [take_snoc hltj]; simp [atN]
                have hbl : (R3 ++ atN (s.at_.take j)).length ≤ 2010 + 2004 * i := by
                  have := List.length_take_le j s.at_
                  rw [List.length_append, atN, List.length_map]; omega
                generalize s.at_[j]! = y at *
                have hsn1x := Lib.hid hsn1
                obtain ⟨R4, hR4⟩ : ∃ R4, R4 = R3 ++ atN (s.at_.take j) := ⟨_, rfl⟩
                rw [← hR4] at hbl
                have hR4x := Lib.hid hR4
                have hAj2 := hAj.out
                rw [← hR4] at hAj2
                have hAk := Lib.hid hAj2
                clear hsn1 hR4 hAj2 hAj hcq
                obtain ⟨va, vl, vc, rfl⟩ := ownsRow_slice hAk.out.2.1
                have hbz := hAk.out.2.2.size
                go_wp2_with (at_builtin; refine wpList_append_own_at _ rfl _ _ 59 rfl w.heap.size 58 i0 _ 2 16 Tryd.underlying59 hi hi0 hi1 hi2 rfl (by decide) (.slice va vl vc) R4.length (numRow R4) rfl (hAk.out.2.1.alloc _) ⟨wr.heap.size, 0, none⟩ 1 1 [.int .i64 y, .int .i64 16] rfl rfl (cells_new _ [.int .i64 y, .int .i64 16] _) (by simp [Value.oneCell']) (by unfold maxLen; omega) (by omega) (by simp; omega) ?_; intro v' w9 hown' hgrow hnil hloc; obtain ⟨sa, sl, sc, rfl⟩ := ownsRow_slice hown')
                clear hyc q3 hbz
                obtain ⟨hP9, hB9⟩ := app_next hAk.out.1 hAk.out.2.1 (by decide) hAk.out.2.2 hAk.out.2.2.size hgrow
                refine ⟨⟨j + 1, by omega, by go_num, hP9, ?_, hB9⟩, by simp [intOf]; omega⟩
                rw [hsn1x.out, ← List.append_assoc, ← hR4x.out, numRow_append, List.length_append]
                exact hown'
              · obtain rfl : j = s.at_.length := by omega
                have hAe := hAj.out
                rw [List.take_length] at hAe
                have hAk := Lib.hid hAe
                clear hAe hAj hltj hj
                go_wp2
                refine ⟨⟨i + 1, okR b s, by omega, by go_num, rfl, ?_, ?_, hAk.out.2.2⟩, by simp [intOf]; omega⟩
                · rw [hxx.out.2.1, hxx.out.2.2]
                · have e : H0 ++ stepsN (xs.take (i + 1)) = R3 ++ atN s.at_ := by
                    rw [hxx.out.1, hR3x.out, hR2x.out, hR1x.out, hR0x.out.1]
                    simp [stepN, List.append_assoc]
                  rw [e]
                  exact hAk.out.2.1
    · obtain rfl : i = xs.length := by omega
      have hAe := hAi.out
      rw [List.take_length] at hAe
      have hL0' := hL0
      have hok := numsN_ok hcx.out.1 hcx.out.2.1 hn
      have hw0 : writeS c xs = if b = true ∧ (∀ p ∈ hdrN c xs.length ++ stepsN xs, fits p) then some (bitsAll (hdrN c xs.length ++ stepsN xs)) else none := by
        rw [writeS_putAll, ← hAe.1]
        by_cases hb : b = true
        · rw [if_pos ⟨by omega, hb⟩, putAll_some]
          unfold numsN
          by_cases hf : ∀ p ∈ hdrN c xs.length ++ stepsN xs, fits p
          · rw [if_pos hf, if_pos ⟨hb, hf⟩]; rfl
          · rw [if_neg hf, if_neg (fun h => hf h.2)]
        · rw [if_neg (fun h => hb h.2), if_neg (fun h => hb h.1)]
      have hNl : (H0 ++ stepsN xs).length ≤ 24054 := by
        have := stepsN_len xs hcx.out.2.1
        rw [List.length_append]; omega
      rw [hH0.out] at hok hw0
      have hNl0 : 6 ≤ (H0 ++ stepsN xs).length := by rw [List.length_append]; omega
      obtain ⟨NN, hNN⟩ : ∃ NN, NN = H0 ++ stepsN xs := ⟨_, rfl⟩
      rw [← hNN] at hok hw0 hNl hNl0 hAe
      obtain ⟨hl6, ha6, hc6, hv6, _, _, _⟩ := (⟨trivial, trivial, trivial, trivial, trivial, trivial, trivial⟩ : True ∧ True ∧ True ∧ True ∧ True ∧ True ∧ True)
      obtain ⟨g6, c6, rfl⟩ : ∃ g c, u6 = .slice (some ⟨g, 0, none⟩) NN.length c := by
        rcases hAe.2.1.2 with ⟨_, h0⟩ | ⟨g, cap, cur, h0, _⟩
        · omega
        · exact ⟨g, cap, h0⟩
      have hex := Lib.hid (And.intro hAe (And.intro hok hw0))
      have hc6m : NN.length ≤ c6 ∧ c6 ≤ maxLen := by
        rcases hAe.2.1.2 with ⟨h0, _⟩ | ⟨g, cap, cur, h0, _, _, h1, h2, _⟩
        · cases h0
        · injection h0 with _ _ h0; subst h0; exact ⟨h1, h2⟩
      obtain ⟨hc61, hc62⟩ := hc6m
      unfold maxLen at hc62
      clear hAe hok hw0 hNN hAi hL0 hL0' hlt hi' hl6 ha6 hc6 hv6
      obtain ⟨wo, hwo⟩ : ∃ wo, wo = wr := ⟨_, rfl⟩
      subst wr
      go_wp2
      go_loopw [7, 12, 13] (fun s7 s12 s13 wr => ∃ (i : Nat) (b1 : Bool), i ≤ NN.length ∧ s13 = .int .i64 (i : Int) ∧ s7 = .bool b1 ∧ Aside (b1 = (b && (NN.take i).all fitsB) ∧ wr.ownsRow w.heap.size 58 2 (.slice (some ⟨g6, 0, none⟩) NN.length c6) NN.length (numRow NN) ∧
          wr.ownsRow w.heap.size 5 1 s12 (bitsFit (NN.take i)).length (rowB (bitsFit (NN.take i))) ∧ Below w.heap.size w wr))
        (fun _ _ s13 _ => NN.length - (intOf s13).toNat)
      case atStart => exact ⟨0, b, Nat.zero_le _, rfl, rfl, by simp, hex.out.1.2.1, World.ownsRow_nil _ _ _ _, hex.out.1.2.2⟩
      case round =>
        obtain ⟨i, b1, hi', rfl, rfl, hA⟩ := hrel
        have hAi := Lib.hid hA
        clear hA
        by_cases hlt : i < NN.length
        · go_wp2
          (refine wp_region_can [[], [], [0, 1], [0, 1, 2], [0, 1, 2, 3], [], [], [5, 6], [5, 6, 7], [5, 6, 7, 8], [0, 1, 2, 3, 4, 5, 6, 7, 8, 9], [0, 1, 2, 3, 4, 5, 6, 7, 8, 9, 10], [0, 1, 2, 3, 4, 5, 6, 7, 8, 9, 10, 11], [0, 1, 2, 3, 4, 5, 6, 7, 8, 9, 10, 11], [0, 1, 2, 3, 4, 5, 6, 7, 8, 9, 10, 11, 12], [0, 1, 2, 3, 4, 5, 6, 7, 8, 9, 10, 11, 12, 13, 14]] [.st 0 .drop, .st 1 .drop, .st 2 .drop, .st 3 .drop, .st 4 .drop, .st 5 .drop, .st 6 .drop, .st 7 .drop, .st 8 .drop, .st 9 .drop, .ef 10 [], .st 11 .drop, .st 12 .drop, .st 13 .drop, .st 14 .drop, .st 15 .drop] (by kernel_rfl) (by kernel_rfl) ?_; try simp only [Act.put])
          generalize hw5 : World.drew _ = w5
          have hO5 : w5.ownsRow w.heap.size 58 2 (.slice (some ⟨g6, 0, none⟩) NN.length c6) NN.length (numRow NN) := by rw [← hw5]; exact hAi.out.2.1
          have hV5 : w5.ownsRow w.heap.size 5 1 u12 (bitsFit (NN.take i)).length (rowB (bitsFit (NN.take i))) := by rw [← hw5]; exact hAi.out.2.2.1
          have hB5 : Below w.heap.size w w5 := by rw [← hw5]; exact ⟨hAi.out.2.2.2.os, hAi.out.2.2.2.tape, hAi.out.2.2.2.output, hAi.out.2.2.2.size, hAi.out.2.2.2.block⟩
          clear hw5
          have e0 := own_cell2 hO5 (q := 0) rfl hlt (by omega)
          have e1 := own_cell2 hO5 (q := 1) rfl hlt (by omega)
          have hpo := hex.out.2.1 NN[i]! (by rw [getElem!_pos NN i hlt]; exact List.getElem_mem hlt)
          have hsn := take_snoc (l := NN) (j := i) hlt
          have hbl := bitsFit_len (NN.take i) (fun p hp => hex.out.2.1 p (List.mem_of_mem_take hp))
          have hbl' : (bitsFit (NN.take i)).length ≤ 400000 := by have := List.length_take_le i NN; omega
          generalize NN[i]! = pr at *
          obtain ⟨pn, pw⟩ := pr
          simp only [numCells, Nat.add_zero, List.getElem?_cons_zero, List.getElem?_cons_succ] at e0 e1
          have hput := rput_c w5 pn pw hpo.1 hpo.2
          have hfx := Lib.hid (And.intro hO5 (And.intro hV5 (And.intro hB5 hsn)))
          obtain ⟨va, vl, vc, rfl⟩ := ownsRow_slice hV5
          clear hO5 hV5 hB5 hsn hbl
          (repeat (first | (refine can_drop rfl rfl (fun K hK => ?_); go_big_quiet_op; refine hK _ ?_; clear hK K) | (refine can_pure ?_ rfl rfl (fun W K hK => ?_) ?_; rotate_left; (focus (go_big_quiet_op; exact hK))) | (refine can_keep rfl rfl (fun K hK => ?_); go_big_quiet_op; refine hK _ ?_; clear hK K) | (refine can_skip rfl rfl ?_; simp only [Act.put, List.setIfInBounds_toArray, List.set_cons_succ, List.set_cons_zero])))
          refine can_ef rfl (fun K hK => ?_)
          go_wp2_with fail
          refine hput.mono ?_
          rintro e w6 ⟨v6, k6, rfl, hB6, hcase⟩
          have hBx := Lib.hid (hfx.out.2.2.1.trans (hB6.mono hfx.out.2.2.1.size))
          have hO6 : w6.ownsRow w.heap.size 58 2 (.slice (some ⟨g6, 0, none⟩) NN.length c6) NN.length (numRow NN) := ownsRow_block hfx.out.1 (fun g hg => hB6.block g (hfx.out.1.lt g hg).2)
          have hV6 : w6.ownsRow w.heap.size 5 1 (.slice va vl vc) (bitsFit (NN.take i)).length (rowB (bitsFit (NN.take i))) := ownsRow_block hfx.out.2.1 (fun g hg => hB6.block g (hfx.out.2.1.lt g hg).2)
          have hOx := Lib.hid (And.intro hO6 (And.intro hV6 hB6))
          clear hO6 hV6 hB6 hput
          have hnum : ∀ (w9 : World) (row : Option Nat), w6.grownBy w9 row → (∀ k, row = some k → (Value.slice va vl vc).ownBlock = some k) → w9.ownsRow w.heap.size 58 2 (.slice (some ⟨g6, 0, none⟩) NN.length c6) NN.length (numRow NN) ∧ Below w.heap.size w w9 := by
            intro w9 row hg hr
            refine ⟨ownsRow_block hOx.out.1 (fun g hgg => hg.block g (hOx.out.1.lt g hgg).2 (fun e => ?_)), hBx.out.grown hg hBx.out.size (fun k e => (hOx.out.2.1.lt k (hr k e)).1)⟩
            have h1 := hr g e.symm
            rcases hOx.out.2.1.2 with ⟨h0, _⟩ | ⟨g', cap, cur, h0, _, hgg', _⟩
            · rw [h0] at h1; simp [Value.ownBlock] at h1
            · rw [h0] at h1
              simp [Value.ownBlock] at h1
              subst h1
              rcases hOx.out.1.2 with ⟨h0, _⟩ | ⟨g'', cap', cur', h0', _, hgg'', _⟩
              · cases h0
              · rw [h0'] at hgg
                simp [Value.ownBlock] at hgg
                subst hgg
                rw [hgg'] at hgg''
                injection hgg'' with h3
                injection h3 with _ h4
                exact absurd h4 (by decide)
          have hnumx := Lib.hid hnum
          clear hnum
          rcases hcase with ⟨f0, f1, rfl, hO⟩ | ⟨hnf, rfl, rfl⟩
          · have hfit : fits (pn, pw) := ⟨f0, f1⟩
            have hOb := Lib.hid hO
            obtain ⟨ua, ul, uc, rfl⟩ := ownsRow_slice hO
            have hpw : pw ≤ 16 := by rcases hpo.1 with h | h <;> simp only at h <;> omega
            clear hO f0 f1
            go_wp2
            refine hK _ _ ⟨?_, ?_⟩; (focus (simp only [ReAll, List.contains_cons, List.contains_nil, Nat.reduceBEq, Bool.or_true, Bool.true_or, Bool.or_false, if_true, Bool.false_eq_true, if_false, and_true, true_and] <;> repeat' (first | trivial | (refine And.intro ?_ ?_) | (unfold YA; go_big_quiet_op; rfl)))); clear hK K
            (repeat (first | (refine can_drop rfl rfl (fun K hK => ?_); go_big_quiet_op; refine hK _ ?_; clear hK K) | (refine can_pure ?_ rfl rfl (fun W K hK => ?_) ?_; rotate_left; (focus (go_big_quiet_op; exact hK))) | (refine can_keep rfl rfl (fun K hK => ?_); go_big_quiet_op; refine hK _ ?_; clear hK K) | (refine can_skip rfl rfl ?_; simp only [Act.put, List.setIfInBounds_toArray, List.set_cons_succ, List.set_cons_zero])))
            refine can_nil ?_
            cases b1 with
            | true =>
              go_wp2_with (at_builtin; refine wpList_append_src rfl _ _ 28 rfl w.heap.size 5 j0 _ 1 1 Tryd.underlying28 hj0 hj1 hj2 hj3 rfl (by decide) (.slice va vl vc) _ _ rfl hOx.out.2.1 (.slice ua ul uc) pw (rowB (bitsOf pn.toNat pw)) rfl (srcAt_own hOb.out) ?_ (by unfold maxLen; omega) (by omega) (by have := hBx.out.size; omega) ?_; rotate_left; intro v' w9 hown' hgrow hloc; obtain ⟨sa, sl, sc, rfl⟩ := ownsRow_slice hown')
              · exact ⟨⟨i + 1, true, by omega, by go_num, rfl, by rw [hfx.out.2.2.2, allFit_yes _ _ hfit]; exact hAi.out.1, (hnumx.out w9 _ hgrow (fun k e => e)).1, by rw [hfx.out.2.2.2, bitsFit_yes _ _ hfit, List.length_append, bitsOf_length]; simpa [rowB] using hown', (hnumx.out w9 _ hgrow (fun k e => e)).2⟩, by simp [intOf]; omega⟩
              · intro y hy
                obtain ⟨z, _, rfl⟩ := List.mem_map.1 hy
                rfl
            | false =>
              go_wp2_with (at_builtin; refine wpList_append_src rfl _ _ 28 rfl w.heap.size 5 j0 _ 1 1 Tryd.underlying28 hj0 hj1 hj2 hj3 rfl (by decide) (.slice va vl vc) _ _ rfl hOx.out.2.1 (.slice ua ul uc) pw (rowB (bitsOf pn.toNat pw)) rfl (srcAt_own hOb.out) ?_ (by unfold maxLen; omega) (by omega) (by have := hBx.out.size; omega) ?_; rotate_left; intro v' w9 hown' hgrow hloc; obtain ⟨sa, sl, sc, rfl⟩ := ownsRow_slice hown')
              · exact ⟨⟨i + 1, false, by omega, by go_num, rfl, by rw [hfx.out.2.2.2, allFit_yes _ _ hfit]; exact hAi.out.1, (hnumx.out w9 _ hgrow (fun k e => e)).1, by rw [hfx.out.2.2.2, bitsFit_yes _ _ hfit, List.length_append, bitsOf_length]; simpa [rowB] using hown', (hnumx.out w9 _ hgrow (fun k e => e)).2⟩, by simp [intOf]; omega⟩
              · intro y hy
                obtain ⟨z, _, rfl⟩ := List.mem_map.1 hy
                rfl
          · have hfit : ¬ fits (pn, pw) := hnf
            go_wp2
            refine hK _ _ ⟨?_, ?_⟩; (focus (simp only [ReAll, List.contains_cons, List.contains_nil, Nat.reduceBEq, Bool.or_true, Bool.true_or, Bool.or_false, if_true, Bool.false_eq_true, if_false, and_true, true_and] <;> repeat' (first | trivial | (refine And.intro ?_ ?_) | (unfold YA; go_big_quiet_op; rfl)))); clear hK K
            (repeat (first | (refine can_drop rfl rfl (fun K hK => ?_); go_big_quiet_op; refine hK _ ?_; clear hK K) | (refine can_pure ?_ rfl rfl (fun W K hK => ?_) ?_; rotate_left; (focus (go_big_quiet_op; exact hK))) | (refine can_keep rfl rfl (fun K hK => ?_); go_big_quiet_op; refine hK _ ?_; clear hK K) | (refine can_skip rfl rfl ?_; simp only [Act.put, List.setIfInBounds_toArray, List.set_cons_succ, List.set_cons_zero])))
            refine can_nil ?_
            cases b1 with
            | true =>
              go_wp2_with (at_builtin; refine wpList_append_src rfl _ _ 28 rfl w.heap.size 5 j0 _ 1 1 Tryd.underlying28 hj0 hj1 hj2 hj3 rfl (by decide) (.slice va vl vc) _ _ rfl hOx.out.2.1 (.slice none 0 0) 0 [] rfl ⟨rfl, .inl ⟨rfl, rfl⟩⟩ ?_ (by unfold maxLen; omega) (by omega) (by have := hBx.out.size; omega) ?_; rotate_left; intro v' w9 hown' hgrow hloc; obtain ⟨sa, sl, sc, rfl⟩ := ownsRow_slice hown')
              · exact ⟨⟨i + 1, false, by omega, by go_num, rfl, by rw [hfx.out.2.2.2, allFit_no _ _ hfit]; simp, (hnumx.out w9 _ hgrow (fun k e => e)).1, by rw [hfx.out.2.2.2, bitsFit_no _ _ hfit]; simpa using hown', (hnumx.out w9 _ hgrow (fun k e => e)).2⟩, by simp [intOf]; omega⟩
              · intro y hy
                cases hy
            | false =>
              go_wp2_with (at_builtin; refine wpList_append_src rfl _ _ 28 rfl w.heap.size 5 j0 _ 1 1 Tryd.underlying28 hj0 hj1 hj2 hj3 rfl (by decide) (.slice va vl vc) _ _ rfl hOx.out.2.1 (.slice none 0 0) 0 [] rfl ⟨rfl, .inl ⟨rfl, rfl⟩⟩ ?_ (by unfold maxLen; omega) (by omega) (by have := hBx.out.size; omega) ?_; rotate_left; intro v' w9 hown' hgrow hloc; obtain ⟨sa, sl, sc, rfl⟩ := ownsRow_slice hown')
              · exact ⟨⟨i + 1, false, by omega, by go_num, rfl, by rw [hfx.out.2.2.2, allFit_no _ _ hfit]; simp, (hnumx.out w9 _ hgrow (fun k e => e)).1, by rw [hfx.out.2.2.2, bitsFit_no _ _ hfit]; simpa using hown', (hnumx.out w9 _ hgrow (fun k e => e)).2⟩, by simp [intOf]; omega⟩
              · intro y hy
                cases hy
        · obtain rfl : i = NN.length := by omega
          have hAe := hAi.out
          rw [List.take_length] at hAe
          have hb1 := hAe.1
          have hAex := Lib.hid hAe
          have hlenb := bitsFit_len NN hex.out.2.1
          obtain ⟨va, vl, vc, rfl⟩ := ownsRow_slice hAe.2.2.1
          have hbc := rbytes_c wr _ _ _ (ownsRow_rd (enc := encB) hAe.2.2.1) (bitsFit_bit NN) (by omega)
          clear hAe hAi hlt hi'
          cases b1 with
          | false =>
            have hno : writeS c xs = none := by
              rw [hex.out.2.2, if_neg]
              rintro ⟨h1, h2⟩
              rw [h1] at hb1
              have h3 : NN.all fitsB = true := by rw [List.all_eq_true]; intro p hp; exact decide_eq_true (h2 p hp)
              rw [h3] at hb1
              cases hb1
            have hnox := Lib.hid hno
            clear hno hbc hb1
            go_wp2
            go_ret2
            rw [hnox.out]
            exact ⟨_, _, rfl, hAex.out.2.2.2, rfl, rfl⟩
          | true =>
            have h1 : b = true := by cases b with
              | true => rfl
              | false => simp at hb1
            have h2 : ∀ p ∈ NN, fits p := by
              rw [h1] at hb1
              have h3 : NN.all fitsB = true := by simpa using hb1.symm
              rw [List.all_eq_true] at h3
              intro p hp
              exact of_decide_eq_true (h3 p hp)
            have hyes : writeS c xs = some (bitsAll NN) := by rw [hex.out.2.2, if_pos ⟨h1, h2⟩]
            have hyx := Lib.hid hyes
            rw [bitsFit_all NN h2] at hbc
            clear hyes h2 h1 hb1
            go_wp2_with fail
            refine hbc.mono ?_
            rintro e w7 ⟨v7, rfl, hB7, hO7⟩
            go_wp2
            go_ret2
            rw [hyx.out]
            exact ⟨_, _, rfl, hAex.out.2.2.2.trans (hB7.mono hAex.out.2.2.2.size), rfl, ownsRow_base hO7 (fun g hg => Nat.le_trans hAex.out.2.2.2.size (hO7.lt g hg).1)⟩
#print axioms refWrite_c
end Go.Proofs.YtkmknpobinpegaaDoor
