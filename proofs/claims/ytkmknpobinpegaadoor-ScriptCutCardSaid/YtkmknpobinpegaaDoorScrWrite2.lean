/- Layer 29: Write. -/
import Derived.Test.YtkmknpobinpegaaDoorScrWrite
namespace Go.Proofs.YtkmknpobinpegaaDoor
open Go Go.RowKit Go.Maps Go.Sort Go.Lib
set_option linter.unusedSimpArgs false
set_option linter.unusedVariables false

def WPost (w : World) (st : Option (List Nat)) (e : Ending) (w' : World) : Prop :=
  ∃ v k, e = .returned (.tuple #[v, .int .i64 k]) ∧ Below w.heap.size w w' ∧ match st with
    | some L => k = 0 ∧ w'.ownsRow w.heap.size 5 1 v (parts8 L.length) (rowB (bytesOf L))
    | none => v = .slice none 0 0 ∧ k = 5
theorem Write_c (w : World) (T : Nat → Prop) (c : Cfg) (v : Value) (xs : List Stp) (hg : Glob w) (hc : CfgOk c) (hx : ∀ x ∈ xs, StpOk x) (hv : StpsAt w T v xs) (hn : xs.length ≤ 12) :
    Calls Tryd.prog 6 #[cfgV c, v] w (WPost w (writeS c xs)) := by
  obtain ⟨a, cc, rfl, _⟩ := id hv
  obtain ⟨wp, hwp⟩ : ∃ wp, wp = w.alloc (.cells #[.int .i64 c.size, .int .i64 c.queue, .int .i64 c.pool, .int .u16 c.first, .int .i64 c.age] 36) := ⟨_, rfl⟩
  have hBp : Below w.heap.size w wp := by rw [hwp]; exact (Below.refl _ w).alloc (Nat.le_refl _) _
  have hwc := write_c wp T c _ xs hc hx (hv.keep (fun k _ hk => hBp.block k hk) hBp.size) hn
  have hx1 := Lib.hid (And.intro hBp hg)
  clear hv hx hc hBp hg
  unfold cfgV at hwc ⊢
  go_enter Tryd.func6, Tryd.ntmps6
  go_wp2_with fail
  rw [← hwp]
  clear hwp
  refine hwc.mono ?_
  rintro e w1 ⟨v1, err, rfl, hB1, hm⟩
  have hB2 := hx1.out.1.trans (hB1.mono hx1.out.1.size)
  cases hst : writeS c xs with
  | some L =>
    rw [hst] at hm
    obtain ⟨rfl, hO⟩ := hm
    obtain ⟨sa, sl, sc, rfl⟩ := ownsRow_slice hO
    have ht := told_c w1 .nilIface 0 (hx1.out.2.below hB2) .none
    have hs := Lib.hid hst
    clear hst hwc
    go_wp2_with fail
    refine ht.mono ?_
    rintro e w2 ⟨rfl, hB3⟩
    go_wp2
    go_ret2
    rw [hs.out]
    refine ⟨_, _, rfl, hB2.trans (hB3.mono hB2.size), rfl, ?_⟩
    refine ownsRow_block (ownsRow_base hO (fun g hg => Nat.le_trans hx1.out.1.size (hO.lt g hg).1)) (fun g hg => hB3.block g (hO.lt g hg).2)
  | none =>
    rw [hst] at hm
    obtain ⟨rfl, hE⟩ := hm
    have ht := told_c w1 err 5 (hx1.out.2.below hB2) hE
    have hs := Lib.hid hst
    clear hst hwc
    go_wp2_with fail
    refine ht.mono ?_
    rintro e w2 ⟨rfl, hB3⟩
    go_wp2
    go_ret2
    rw [hs.out]
    exact ⟨_, _, rfl, hB2.trans (hB3.mono hB2.size), rfl, rfl⟩
#print axioms Write_c
end Go.Proofs.YtkmknpobinpegaaDoor
