/- What the arguments of layer 29's statements lead to: five numbers, a row of steps. -/
import Derived.Test.YtkmknpobinpegaaDoorWrites
import Derived.Deep.Slices
import Derived.ChangeArms
import Derived.ChangeSlices
import Derived.OpenShut
namespace Go.Proofs.YtkmknpobinpegaaDoor
open Go Go.RowKit Go.ChangeShapes Go.WideShapes
set_option linter.unusedSimpArgs false
set_option linter.unusedVariables false

theorem wf64 {n : Int} (h : (Lit.int .i64 n).wf = true) : numOk n := by
  simp [Lit.wf, IntKind.wrap, IntKind.bits, IntKind.signed, IntKind.min, IntKind.max] at h
  unfold numOk
  omega
theorem wf8 {n : Int} (h : (Lit.int .u8 n).wf = true) : 0 ≤ n ∧ n < 256 := by
  simp [Lit.wf, IntKind.wrap, IntKind.bits, IntKind.signed, IntKind.min, IntKind.max] at h
  omega
theorem okWide_array {P : Program} {w : World} {r : Reach} {base n : Nat} {t e : TypeId} {v : Value} (ht : P.underlying t = some (.array n e)) (h : Value.okWide P w r base t v) : ∃ cs, v = .agg cs ∧ cs.size = P.cellsOf t := by
  unfold Value.okWide at h
  rw [ht] at h
  obtain ⟨cs, h1, h2, _⟩ := h
  exact ⟨cs, h1, h2⟩
set_option maxRecDepth 100000 in
theorem okWide_five {w : World} {base : Nat} {v : Value} (h : Value.okWide Tryd.prog w .any base 22 v) : ∃ c0 c1 c2 c3 c4, v = .agg #[c0, c1, c2, c3, c4] := by
  obtain ⟨cs, rfl, hs⟩ := okWide_array Tryd.underlying22 h
  have hs : cs.size = 5 := hs.trans (by kernel_rfl)
  obtain ⟨l⟩ := cs
  match l, hs with
  | [c0, c1, c2, c3, c4], _ => exact ⟨c0, c1, c2, c3, c4, rfl⟩
theorem open_five {H : Type} {enc : TypeId × Value → H} {w : World} {base fuel : Nat} {spare : Nat → Bool} {held : Bool} {c0 c1 c2 c3 c4 : Value} {x : DataW H × List MemPlace}
    (h : DataW.trod enc Tryd.prog w base spare held fuel 22 [c0, c1, c2, c3, c4] = some x) : ∃ c : Cfg, .agg #[c0, c1, c2, c3, c4] = fiveV c ∧ CfgW c := by
  obtain ⟨xs, m, _, _, _, hl, hf⟩ := DataW.trod_array Tryd.underlying22 h
  have k1 : Tryd.prog.cellsOf 3 = 1 := by kernel_rfl
  rw [k1] at hf
  match xs, hl with
  | [y0, y1, y2, y3, y4], _ =>
    have g0 := hf 0 (by omega)
    have g1 := hf 1 (by omega)
    have g2 := hf 2 (by omega)
    have g3 := hf 3 (by omega)
    have g4 := hf 4 (by omega)
    simp at g0 g1 g2 g3 g4
    obtain ⟨n0, hv0, _, w0⟩ := DataW.trod_int Tryd.underlying3 g0
    obtain ⟨n1, hv1, _, w1⟩ := DataW.trod_int Tryd.underlying3 g1
    obtain ⟨n2, hv2, _, w2⟩ := DataW.trod_int Tryd.underlying3 g2
    obtain ⟨n3, hv3, _, w3⟩ := DataW.trod_int Tryd.underlying3 g3
    obtain ⟨n4, hv4, _, w4⟩ := DataW.trod_int Tryd.underlying3 g4
    simp at hv0 hv1 hv2 hv3 hv4
    subst hv0 hv1 hv2 hv3 hv4
    exact ⟨⟨n0, n1, n2, n3, n4⟩, rfl, ⟨wf64 w0, wf64 w1, wf64 w2, wf64 w3, wf64 w4⟩⟩
/-- A field of bytes. -/
theorem open_bytesF {H : Type} {enc : TypeId × Value → H} {w : World} {base fuel : Nat} {spare : Nat → Bool} {held : Bool} {v : Value} {x : DataW H × List MemPlace}
    (h : DataW.trod enc Tryd.prog w base spare held fuel 28 [v] = some x) : Nz v ∧ ∃ l : List Nat, Rd encB w (fun k => k < w.heap.size) v l ∧ ∀ y ∈ l, y < 256 := by
  rcases open_ints Tryd.underlying28 Tryd.underlying5 (by kernel_rfl) h with ⟨hcs, _⟩ | ⟨a, len, cap, zs, hcs, _, hl, hm, hz, _, hc, hw⟩
  · simp at hcs
    subst hcs
    exact ⟨.inl rfl, [], ⟨none, 0, rfl, Nat.le_refl _, Nat.zero_le _, fun h => absurd h (by simp)⟩, by simp⟩
  · simp at hcs
    subst hcs
    have hzl : len ≤ zs.length := by rw [hz]; split <;> omega
    have hll : ((zs.take len).map Int.toNat).length = len := by rw [List.length_map, List.length_take]; omega
    refine ⟨.inr ⟨a, len, cap, rfl⟩, (zs.take len).map Int.toNat, ⟨some a, cap, by rw [hll], by rw [hll]; exact hl, hm, fun h0 => ?_⟩, fun y hy => ?_⟩
    · rw [hll] at h0
      have hb := World.block_lt_of_cell? w _ (hc 0 (by omega))
      rw [add_block] at hb
      refine ⟨a, rfl, hb, hb, fun j hj => ?_⟩
      rw [hll] at hj
      rw [hc j (by omega)]
      have hj2 : j < ((zs.take len).map Int.toNat).length := by omega
      rw [getElem!_pos _ j hj2]
      have := (wf8 (hw (zs.getD j 0) (by rw [List.getD_eq_getElem?_getD, List.getElem?_eq_getElem (by omega : j < zs.length)]; simp))).1
      have e : zs.getD j 0 = zs[j]'(by omega) := by rw [List.getD_eq_getElem?_getD, List.getElem?_eq_getElem (by omega : j < zs.length)]; rfl
      rw [e] at this ⊢
      simp [encB, List.getElem_take]
      omega
    · obtain ⟨z, hz', rfl⟩ := List.mem_map.1 hy
      have := wf8 (hw z (List.mem_of_mem_take hz'))
      omega
/-- A field of numbers. -/
theorem open_numsF {H : Type} {enc : TypeId × Value → H} {w : World} {base fuel : Nat} {spare : Nat → Bool} {held : Bool} {v : Value} {x : DataW H × List MemPlace}
    (h : DataW.trod enc Tryd.prog w base spare held fuel 49 [v] = some x) : Nz v ∧ ∃ l : List Int, Rd encN w (fun k => k < w.heap.size) v l ∧ ∀ y ∈ l, numOk y := by
  rcases open_ints Tryd.underlying49 Tryd.underlying3 (by kernel_rfl) h with ⟨hcs, _⟩ | ⟨a, len, cap, zs, hcs, _, hl, hm, hz, _, hc, hw⟩
  · simp at hcs
    subst hcs
    exact ⟨.inl rfl, [], ⟨none, 0, rfl, Nat.le_refl _, Nat.zero_le _, fun h => absurd h (by simp)⟩, by simp⟩
  · simp at hcs
    subst hcs
    have hzl : len ≤ zs.length := by rw [hz]; split <;> omega
    have hll : (zs.take len).length = len := by rw [List.length_take]; omega
    refine ⟨.inr ⟨a, len, cap, rfl⟩, zs.take len, ⟨some a, cap, by rw [hll], by rw [hll]; exact hl, hm, fun h0 => ?_⟩, fun y hy => wf64 (hw y (List.mem_of_mem_take hy))⟩
    rw [hll] at h0
    have hb := World.block_lt_of_cell? w _ (hc 0 (by omega))
    rw [add_block] at hb
    refine ⟨a, rfl, hb, hb, fun j hj => ?_⟩
    rw [hll] at hj
    rw [hc j (by omega)]
    have hj2 : j < (zs.take len).length := by omega
    rw [getElem!_pos _ j hj2]
    have e : zs.getD j 0 = zs[j]'(by omega) := by rw [List.getD_eq_getElem?_getD, List.getElem?_eq_getElem (by omega : j < zs.length)]; rfl
    rw [e]
    simp [encN, List.getElem_take]
/-- One step of a row. -/
def OneStp (w : World) (y : Addr) (s : Stp) : Prop := ∃ vb va, w.cell? y = some (.int .i64 s.kind) ∧ w.cell? ⟨y.block, y.off + 1, none⟩ = some (.int .i64 s.k) ∧ w.cell? ⟨y.block, y.off + 2, none⟩ = some vb ∧ w.cell? ⟨y.block, y.off + 3, none⟩ = some va ∧
  Rd encB w (fun k => k < w.heap.size) vb s.bytes ∧ Rd encN w (fun k => k < w.heap.size) va s.at_ ∧ Nz vb ∧ Nz va ∧ StpW s
theorem add_pos (y : Addr) (n : Nat) (h : n ≠ 0) : y.add n = ⟨y.block, y.off + n, none⟩ := by simp only [Addr.add]; split <;> simp_all
set_option maxRecDepth 100000 in
theorem open_steps {H : Type} {enc : TypeId × Value → H} {w : World} {base fuel : Nat} {spare : Nat → Bool} {held : Bool} {a : Option Addr} {len cap : Nat} {x : DataW H × List MemPlace}
    (h : DataW.trod enc Tryd.prog w base spare held fuel 23 [.slice a len cap] = some x) :
    ∃ xs : List Stp, StpsAt w (fun k => k < w.heap.size) (.slice a len cap) xs ∧ StpsNz w (.slice a len cap) ∧ ∀ x ∈ xs, StpW x := by
  rcases Go.Deep.open_slice Tryd.underlying23 h with ⟨hcs, _⟩ | ⟨y, l, c, m, n, D, Pl, hcs, _, hl, hm, hmm, _, hx⟩
  · simp at hcs
    obtain ⟨rfl, rfl, rfl⟩ := hcs
    refine ⟨[], stps_none _ _, fun a n c e j x hj ha => ?_, by simp⟩
    injection e with e1 e2 e3
    subst e2
    exact absurd hj (by omega)
  · simp at hcs
    obtain ⟨rfl, rfl, rfl⟩ := hcs
    have hc4 : Tryd.prog.cellsOf 51 = 4 := by kernel_rfl
    have k1 : Tryd.prog.cellsOf 3 = 1 := by kernel_rfl
    have k2 : Tryd.prog.cellsOf 28 = 1 := by kernel_rfl
    have k3 : Tryd.prog.cellsOf 49 = 1 := by kernel_rfl
    have each : ∀ i, i < len → ∃ s, OneStp w (y.add (i * 4)) s := by
      intro i hi
      obtain ⟨cs, h1, h2⟩ := hx i (by rw [hmm]; split <;> omega)
      rw [hc4] at h1
      obtain ⟨_, hlen, hcell⟩ := World.cells?_some h1
      obtain ⟨xs, q, _, _, _, hxl, hf⟩ := DataW.trod_struct Tryd.underlying51 h2
      match cs, hlen with
      | [v0, v1, v2, v3], _ =>
        have e0 := hcell 0 (by omega)
        have e1 := hcell 1 (by omega)
        have e2 := hcell 2 (by omega)
        have e3 := hcell 3 (by omega)
        rw [show (y.add (i * 4)).add 0 = y.add (i * 4) from if_pos rfl] at e0
        rw [add_pos _ 1 (by omega)] at e1
        rw [add_pos _ 2 (by omega)] at e2
        rw [add_pos _ 3 (by omega)] at e3
        have g0 : DataW.trod enc Tryd.prog w base spare held q 3 (([v0, v1, v2, v3].drop 0).take (Tryd.prog.cellsOf 3)) = xs[0]? := hf 0 _ rfl
        have g1 : DataW.trod enc Tryd.prog w base spare held q 3 (([v0, v1, v2, v3].drop 1).take (Tryd.prog.cellsOf 3)) = xs[1]? := hf 1 _ rfl
        have g2 : DataW.trod enc Tryd.prog w base spare held q 28 (([v0, v1, v2, v3].drop 2).take (Tryd.prog.cellsOf 28)) = xs[2]? := hf 2 _ rfl
        have g3 : DataW.trod enc Tryd.prog w base spare held q 49 (([v0, v1, v2, v3].drop 3).take (Tryd.prog.cellsOf 49)) = xs[3]? := hf 3 _ rfl
        rw [k1] at g0 g1
        rw [k2] at g2
        rw [k3] at g3
        match xs, hxl with
        | [y0, y1, y2, y3], _ =>
          obtain ⟨n0, hv0, _, w0⟩ := DataW.trod_int Tryd.underlying3 g0
          obtain ⟨n1, hv1, _, w1⟩ := DataW.trod_int Tryd.underlying3 g1
          obtain ⟨z2, bs, r2, o2⟩ := open_bytesF g2
          obtain ⟨z3, ns, r3, o3⟩ := open_numsF g3
          simp at hv0 hv1
          subst hv0 hv1
          exact ⟨⟨n0, n1, bs, ns⟩, v2, v3, by simpa using e0, by simpa using e1, by simpa using e2, by simpa using e3, r2, r3, z2, z3, ⟨wf64 w0, wf64 w1, o2, o3⟩⟩
    obtain ⟨f, hf⟩ : ∃ f : Nat → Stp, ∀ i, i < len → OneStp w (y.add (i * 4)) (f i) :=
      ⟨fun i => if h : i < len then Classical.choose (each i h) else default, fun i h => by
        have := Classical.choose_spec (each i h)
        simp only [dif_pos h]
        exact this⟩
    have hlen : ((List.range len).map f).length = len := by simp
    have hget : ∀ j, j < len → ((List.range len).map f)[j]! = f j := fun j hj => by rw [getElem!_pos _ j (by rw [hlen]; exact hj)]; simp
    refine ⟨(List.range len).map f, ⟨some y, cap, by rw [hlen], by rw [hlen]; exact hl, hm, fun j hj => ?_⟩, fun a n c e j x hj ha u hu => ?_, fun x hx => ?_⟩
    · rw [hlen] at hj
      obtain ⟨vb, va, c0, c1, c2, c3, r2, r3, _⟩ := hf j hj
      have hb := World.block_lt_of_cell? w _ c0
      rw [add_block] at hb
      rw [hget j hj]
      exact ⟨y, vb, va, rfl, hb, hb, c0, c1, c2, c3, r2, r3⟩
    · injection e with e1 e2 e3
      subst e1; subst e2
      injection ha with ha
      subst ha
      obtain ⟨vb, va, c0, c1, c2, c3, r2, r3, z2, z3, _⟩ := hf j hj
      rcases hu with hu | hu
      · rw [c2] at hu; injection hu with hu; subst hu; exact z2
      · rw [c3] at hu; injection hu with hu; subst hu; exact z3
    · obtain ⟨i, hi, rfl⟩ := List.mem_map.1 hx
      obtain ⟨_, _, _, _, _, _, _, _, _, _, h⟩ := hf i (List.mem_range.1 hi)
      exact h
#print axioms open_steps
end Go.Proofs.YtkmknpobinpegaaDoor
