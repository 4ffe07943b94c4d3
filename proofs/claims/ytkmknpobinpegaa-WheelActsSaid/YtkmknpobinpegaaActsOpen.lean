/- What a row of steps that came in leads to. -/
import Derived.Test.YtkmknpobinpegaaTwo
import Derived.Deep.Slices
import Derived.ChangeArms
namespace Go.Proofs.Ytkmknpobinpegaa
open Go Go.RowKit Go.ChangeShapes Go.WideShapes

theorem open_acts {H : Type} {enc : TypeId × Value → H} {w : World} {base fuel : Nat} {spare : Nat → Bool} {held : Bool} {a : Option Addr} {len cap : Nat} {x : DataW H × List MemPlace}
    (h : DataW.trod enc Try.prog w base spare held fuel 36 [.slice a len cap] = some x) : InActs w a len cap := by
  rcases Go.Deep.open_slice Try.underlying36 h with ⟨hcs, _⟩ | ⟨y, l, c, m, n, D, Pl, hcs, _, hl, hm, hmm, _, hx⟩
  · left
    simp at hcs
    exact hcs
  · right
    simp at hcs
    obtain ⟨rfl, rfl, rfl⟩ := hcs
    refine ⟨y, rfl, hl, hm, fun i hi => ?_⟩
    have hc3 : Try.prog.cellsOf 43 = 3 := by kernel_rfl
    have k1 : Try.prog.cellsOf 3 = 1 := by kernel_rfl
    have k2 : Try.prog.cellsOf 22 = 1 := by kernel_rfl
    obtain ⟨cs, h1, h2⟩ := hx i (by rw [hmm]; split <;> omega)
    rw [hc3] at h1
    obtain ⟨_, hlen, hcell⟩ := World.cells?_some h1
    obtain ⟨xs, q, _, _, _, hxl, hf⟩ := DataW.trod_struct Try.underlying43 h2
    match cs, hlen with
    | [v0, v1, v2], _ =>
      have e0 := hcell 0 (by omega)
      have e1 := hcell 1 (by omega)
      have e2 := hcell 2 (by omega)
      rw [Addr.add_add] at e0 e1 e2
      have g0 : DataW.trod enc Try.prog w base spare held q 3 (([v0, v1, v2].drop 0).take (Try.prog.cellsOf 3)) = xs[0]? := hf 0 _ rfl
      have g1 : DataW.trod enc Try.prog w base spare held q 22 (([v0, v1, v2].drop 1).take (Try.prog.cellsOf 22)) = xs[1]? := hf 1 _ rfl
      have g2 : DataW.trod enc Try.prog w base spare held q 3 (([v0, v1, v2].drop 2).take (Try.prog.cellsOf 3)) = xs[2]? := hf 2 _ rfl
      rw [k1] at g0 g2
      rw [k2] at g1
      match xs, hxl with
      | [y0, y1, y2], _ =>
        obtain ⟨n0, hv0, _, w0⟩ := DataW.trod_int Try.underlying3 g0
        obtain ⟨n1, hv1, _, w1⟩ := DataW.trod_int Try.underlying22 g1
        obtain ⟨n2, hv2, _, w2⟩ := DataW.trod_int Try.underlying3 g2
        simp at hv0 hv1 hv2
        subst hv0 hv1 hv2
        exact ⟨n0, n1, n2, by simpa using e0, by simpa using e1, by simpa using e2, w0, w1, w2⟩
#print axioms open_acts
end Go.Proofs.Ytkmknpobinpegaa
