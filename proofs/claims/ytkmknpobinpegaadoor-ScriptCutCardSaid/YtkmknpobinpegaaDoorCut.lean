/- The statement ScriptCut. -/
import Derived.Test.YtkmknpobinpegaaDoorWrites
import Derived.Test.YtkmknpobinpegaaDoorAppSrc
namespace Go.Proofs.YtkmknpobinpegaaDoor
open Go Go.RowKit Go.Maps Go.Sort Go.Lib
set_option linter.unusedSimpArgs false
set_option linter.unusedVariables false

def Hold (p : Prop) : Prop := p
theorem hold {p : Prop} (h : Hold p) : p := h
theorem rd_src {w : World} {T : Nat → Prop} {a : Option Addr} {n c : Nat} {xs : List Nat} (h : Rd encB w T (.slice a n c) xs) (hp : 0 < xs.length) : ∃ x, a = some x ∧ n = xs.length ∧ n ≤ c ∧ c ≤ maxLen ∧ x.block < w.heap.size ∧ SrcAt w (.slice (some x) n c) n 1 (rowB xs) := by
  obtain ⟨a', c', e, h1, h2, h3⟩ := h
  injection e with e1 e2 e3
  subst e1; subst e2; subst e3
  obtain ⟨x, rfl, hT, hx, hc⟩ := h3 hp
  refine ⟨x, rfl, rfl, h1, h2, hx, by simp [rowB], .inr ⟨x, c, rfl, fun j y hj => ?_⟩⟩
  have hjl : j < xs.length := by
    rcases Nat.lt_or_ge j xs.length with h | h
    · exact h
    · rw [List.getElem?_eq_none (by simpa [rowB] using h)] at hj; cases hj
  rw [hc j hjl, ← hj]
  simp [rowB, getElem!_pos, hjl]
theorem cut_at (at_ : Int) {m : Nat} (hm : 0 < m) (hm2 : m ≤ 20000) : ∃ n : Nat, wrap64 ((IntKind.u64.wrap at_).tmod (m : Int)) = (n : Int) ∧ n < m := by
  have h0 : 0 ≤ IntKind.u64.wrap at_ := by
    simp [IntKind.wrap, IntKind.bits, IntKind.signed]
    omega
  rw [Int.tmod_eq_emod_of_nonneg h0]
  generalize IntKind.u64.wrap at_ = z at h0
  have h1 := Int.emod_nonneg z (show (m : Int) ≠ 0 by omega)
  have h2 := Int.emod_lt_of_pos z (show (0 : Int) < (m : Int) by omega)
  refine ⟨(z % (m : Int)).toNat, ?_, by omega⟩
  rw [Int.toNat_of_nonneg h1]
  generalize z % (m : Int) = y at *
  simp [wrap64]
  omega
theorem rd_take {w : World} {T : Nat → Prop} {a : Option Addr} {m c : Nat} {xs : List Nat} (h : Rd encB w T (.slice a m c) xs) {n : Nat} (hn : n ≤ xs.length) : Rd encB w T (.slice a n c) (xs.take n) := by
  obtain ⟨a', c', e, h1, h2, h3⟩ := h
  injection e with e1 e2 e3
  subst e1; subst e3
  have hl : (xs.take n).length = n := by rw [List.length_take]; omega
  refine ⟨a, c, by rw [hl], by rw [hl]; omega, h2, fun hp => ?_⟩
  rw [hl] at hp
  obtain ⟨x, ea, hT, hx, hc⟩ := h3 (by omega)
  refine ⟨x, ea, hT, hx, fun j hj => ?_⟩
  rw [hl] at hj
  rw [hc j (by omega)]
  congr 2
  rw [getElem!_pos xs j (by omega), getElem!_pos (xs.take n) j (by omega), List.getElem_take]

set_option maxRecDepth 8000 in
set_option maxHeartbeats 4000000 in
theorem cut_c (w : World) (at_ : Int) (hat : numOk at_) (T : Nat → Prop) (c : Cfg) (v : Value) (xs : List Stp) (hg : Glob w) (hc : CfgW c) (hv : StpsAt w T v xs) (hz : StpsNz w v) (hx : ∀ x ∈ xs, StpW x) :
    Calls Tryd.prog 4 #[fiveV c, v, .int .i64 at_] w fun e w' => e = .returned (.bool true) ∧ Below w.heap.size w w' := by
  obtain ⟨i0, hi, hi0, hi1, hi2⟩ := info_parts infoB
  obtain ⟨a, cc, rfl, _⟩ := id hv
  have h0 := Lib.hid (And.intro hg (And.intro hc (And.intro hv (And.intro hz hx))))
  clear hv hz hx hg hc
  unfold fiveV
  go_enter Tryd.func4, Tryd.ntmps4
  go_wp2_with fail
  simp only [wrap16]
  obtain ⟨d, hd⟩ : ∃ d, d = cfgU c := ⟨_, rfl⟩
  have hdc : CfgOk d := by rw [hd]; exact cfgU_ok h0.out.2.1
  obtain ⟨w1, hw1⟩ : ∃ w1, w1 = w.alloc (.cells #[.int .i64 c.size, .int .i64 c.queue, .int .i64 c.pool, .int .i64 (c.first % 65536), .int .i64 c.age] 22) := ⟨_, rfl⟩
  obtain ⟨p, hp⟩ : ∃ p, p = w.heap.size := ⟨_, rfl⟩
  have hB1 : Below w.heap.size w w1 := by rw [hw1]; exact (Below.refl _ _).alloc (Nat.le_refl _) _
  have hK1 : KC w1 p (fiveL d) := fiveL_cells (c := d) (by rw [hd, hw1, hp]; exact heap_alloc_new w _)
  rw [← hw1, ← hp]
  clear hw1
  have hbc := both2_c w1 T _ xs 6 (h0.out.2.2.1.keep (fun k _ hk => hB1.block k hk) hB1.size) (stpsNz_below h0.out.2.2.1 h0.out.2.2.2.1 hB1) (.inr rfl)
  have hx1 := Lib.hid (And.intro hB1 (And.intro hK1 hp))
  have h0g := Lib.hid h0.out.1
  clear hB1 hK1 hp
  refine hbc.mono ?_
  rintro e w2 ⟨v1, v2, rfl, hB2, hS1, hS2⟩
  clear hbc
  obtain ⟨ys, hys⟩ : ∃ ys, ys = (xs.take 6).map trim := ⟨_, rfl⟩
  rw [← hys] at hS1 hS2
  have hyo : ∀ y ∈ ys, StpOk y := by rw [hys]; exact trim_ok h0.out.2.2.2.2 6
  have hyl : ys.length ≤ 12 := by rw [hys, List.length_map, List.length_take]; omega
  clear hys
  obtain ⟨a1, c1, rfl, _⟩ := id hS1
  obtain ⟨a2, c2, rfl, _⟩ := id hS2
  have hB12 := hx1.out.1.trans (hB2.mono hx1.out.1.size)
  have hK2 : KC w2 p (fiveL d) := hx1.out.2.1.block (hB2.block p hx1.out.2.1.lt)
  have hg2 := h0.out.1.below hB12
  have q0 := hK2.c 0 (by omega)
  have q1 := hK2.c 1 (by omega)
  have q2 := hK2.c 2 (by omega)
  have q3 := hK2.c 3 (by omega)
  have q4 := hK2.c 4 (by omega)
  simp only [fiveL] at q0 q1 q2 q3 q4
  simp at q0 q1 q2 q3 q4
  have hx2 := Lib.hid (And.intro hB12 (And.intro hK2 (And.intro hg2 (And.intro hS1 (And.intro hS2 (And.intro hyo hyl))))))
  clear hB12 hK2 hg2 hS1 hS2 hyo hyl hB2 h0 hd
  have hcf := cfg_c w2 d hdc.f0 hdc.f1
  unfold fiveV at hcf
  go_wp2_with fail
  refine hcf.mono ?_
  rintro e w3 ⟨rfl, hB3⟩
  clear hcf
  have hB13 := hx2.out.1.trans (hB3.mono hx2.out.1.size)
  have hwc := Write_c w3 _ d _ ys (hx2.out.2.2.1.below hB3) hdc hx2.out.2.2.2.2.2.1 (hx2.out.2.2.2.2.1.keep (fun k _ hk => hB3.block k hk) hB3.size) hx2.out.2.2.2.2.2.2
  unfold cfgV at hwc ⊢
  go_wp2_with fail
  refine hwc.mono ?_
  clear hwc
  rintro e w4 hpost
  obtain ⟨ba, bc, k, bl, rfl, hB4, hbr, hkk⟩ := wpost_open hpost
  clear hpost
  have hB24 := hB3.trans (hB4.mono hB3.size)
  have hB14 := hx2.out.1.trans (hB24.mono hx2.out.1.size)
  have hsc := scripts_c w4 (h0g.out.below hB14)
  clear q0 q1 q2 q3 q4
  have hx4 := Lib.hid (And.intro hB24 (And.intro hB14 hbr))
  clear hB3 hB13 hB4 hbr hB24 hB14
  go_wp2_with fail
  refine hsc.mono ?_
  rintro e w5 ⟨rfl, hB5⟩
  clear hsc
  have hB15 := hx4.out.2.1.trans (hB5.mono hx4.out.2.1.size)
  rcases hkk with ⟨rfl, L, hL, hbl⟩ | ⟨rfl, _, _⟩
  · have hLx := Lib.hid (And.intro hL hbl)
    have hlen : 9 ≤ bl.length := by
      rw [hbl, (writeS_some hL).1, bytesOf_length]
      unfold parts8 allB
      simp only [List.length_append, bitsOf_length]
      omega
    have hlen2 : bl.length ≤ 20000 := by rw [hbl]; exact bytesOf_short hL hx2.out.2.2.2.2.2.2
    have hbr5 := hx4.out.2.2.keep (fun k _ hk => hB5.block k hk) hB5.size
    clear hL hbl
    obtain ⟨bx, rfl, _, hbc, hbm, hbx, hsrc⟩ := rd_src hbr5 (by omega)
    unfold maxLen at hbm
    have hx5 := Lib.hid (And.intro hB5 (And.intro hB15 (And.intro hbr5 (And.intro hbx hsrc))))
    clear hB5 hB15 hbr5 hbx hsrc
    obtain ⟨n, hn1, hn2⟩ := cut_at at_ (m := bl.length) (by omega) hlen2
    have hnc : n ≤ bc := by omega
    have hrc := Read_c w5 _ _ _ (h0g.out.below hx5.out.2.1) (rd_take hx5.out.2.2.1 (n := n) (by omega)) (fun y hy => bytesOf_lt (writeS_bit hLx.out.1) y (by rw [← hLx.out.2]; exact List.mem_of_mem_take hy)) (by rw [List.length_take]; omega)
    rw [show readR (unbits (bl.take n)) = .bad 2 by
      have h2 : n < (bytesOf L).length := by rw [← hLx.out.2]; exact hn2
      have h3 := law_cut hLx.out.1 h2
      rwa [← hLx.out.2] at h3] at hrc
    go_wp2_with fail
    refine hrc.mono ?_
    rintro e w6 ⟨c6, lv6, k6, rfl, hB6, rfl, rfl, rfl⟩
    clear hrc
    obtain ⟨wz, hwz⟩ : ∃ wz, wz = w6.alloc (.cells #[.int .i64 0, .int .i64 0, .int .i64 0, .int .u16 0, .int .i64 0] 36) := ⟨_, rfl⟩
    have zz : wz.heap.size = w6.heap.size + 1 := by rw [hwz]; simp
    have hB56 : Below w5.heap.size w5 wz := by rw [hwz]; exact hB6.alloc hB6.size _
    have hA := own_empty wz 5 w5.heap.size hB56.size
    have hsrc6 := srcAt_mem hx5.out.2.2.2.2 (fun a v h => (World.cell?_alloc_lt wz (.cells #[] 5) a (Nat.lt_of_lt_of_le (lt_of_cell h) hB56.size)).trans ((hB56.cell (p := a) (lt_of_cell h)).trans h))
    have one6 : ∀ y ∈ rowB bl, y.oneCell' = true := fun y hy => by
      obtain ⟨z, _, rfl⟩ := List.mem_map.1 hy
      rfl
    have hzb : w5.heap.size ≤ (wz.alloc (.cells #[] 5)).heap.size := by have := hB56.size; simp; omega
    have hbl1 : bl.length + 1 ≤ 20001 := by omega
    have hx6 := Lib.hid hB56
    clear hB6 hB56
    rw [hwz] at hA hsrc6 hzb
    rw [show (w6.alloc (.cells #[.int .i64 0, .int .i64 0, .int .i64 0, .int .u16 0, .int .i64 0] 36)).heap.size = w6.heap.size + 1 by simp] at hA
    have hA6 := Lib.hid (And.intro hA (And.intro hsrc6 (And.intro one6 hzb)))
    clear hA hsrc6 one6 hzb
    unfold cfgV zeroC
    simp only
    go_wp2_with (at_builtin; refine wpList_append_src rfl _ _ 28 rfl w5.heap.size 5 i0 _ 1 1 Tryd.underlying28 hi hi0 hi1 hi2 rfl (by decide) _ 0 [] rfl hA6.out.1 (.slice (some bx) bl.length bc) bl.length (rowB bl) rfl hA6.out.2.1 hA6.out.2.2.1 (by unfold maxLen; omega) (by omega) hA6.out.2.2.2 ?_; intro v7 w7 hown7 hgrow7 hloc7; refine hold ?_)
    have hO7 : w7.ownsRow w5.heap.size 5 1 v7 bl.length (rowB bl) := by simpa using hown7
    have hb7 : w5.heap.size ≤ w7.heap.size := Nat.le_trans hA6.out.2.2.2 hgrow7.size
    have hx7 := Lib.hid (And.intro hgrow7 hb7)
    have hO7' := World.ownsRow.alloc hO7 (.cells #[.int .u8 0] 5)
    clear hown7 hgrow7 hloc7
    obtain ⟨s7, l7, c7, rfl⟩ := ownsRow_slice hO7
    have hl7 : l7 = bl.length := by obtain ⟨_, a, c, e, _⟩ := ownsRow_open hO7; injection e
    subst hl7
    have hbw : w5.heap.size ≤ (w7.alloc (.cells #[.int .u8 0] 5)).heap.size := by simp; omega
    unfold Hold
    go_wp2_with (at_builtin; refine wpList_append_own _ rfl _ _ 28 rfl w5.heap.size 5 i0 _ 1 1 Tryd.underlying28 hi hi0 hi1 hi2 rfl (by decide) _ _ _ rfl hO7' ⟨w7.heap.size, 0, none⟩ 1 1 [.int .u8 0] rfl rfl (cell_one_new _ _ _) (ints_oneCell .u8 [0]) (by unfold maxLen; omega) (by omega) hbw ?_; intro v8 w8 hown8 hgrow8 hnil8; refine hold ?_)
    have hO8 : w8.ownsRow w5.heap.size 5 1 v8 (bl ++ [0]).length (rowB (bl ++ [0])) := by
      have e : rowB (bl ++ [0]) = rowB bl ++ [Value.int .u8 0] := by simp [rowB]
      rw [e, List.length_append]; exact hown8
    have hBa : Below w5.heap.size w5 ((w6.alloc (.cells #[.int .i64 0, .int .i64 0, .int .i64 0, .int .u16 0, .int .i64 0] 36)).alloc (.cells #[] 5)) := by
      have h := hx6.out
      rw [hwz] at h
      exact h.alloc h.size _
    have hB7 : Below w5.heap.size w5 w7 := below_app hBa hA6.out.1 hx7.out.1
    have hB8 : Below w5.heap.size w5 w8 := below_app (hB7.alloc hB7.size _) hO7' hgrow8
    have hB18 := hx5.out.2.1.trans (hB8.mono hx5.out.2.1.size)
    have hrc := Read_c w8 _ _ (bl ++ [0]) (h0g.out.below hB18) (ownsRow_rd (enc := encB) hO8) (fun y hy => by
      rcases List.mem_append.1 hy with hy | hy
      · exact bytesOf_lt (writeS_bit hLx.out.1) y (by rw [← hLx.out.2]; exact hy)
      · have : y = 0 := by simpa using hy
        omega) (by rw [List.length_append]; simp; omega)
    rw [show readR (unbits (bl ++ [0])) = .bad 3 by
      have h3 := law_tail hLx.out.1
      rwa [← hLx.out.2] at h3] at hrc
    obtain ⟨s8, l8, c8, rfl⟩ := ownsRow_slice hO8
    have hx8 := Lib.hid hB18
    clear hB18 hB8 hB7 hBa hO8 hown8 hgrow8 hnil8 hO7 hO7' hwz
    unfold Hold
    go_wp2_with fail
    refine hrc.mono ?_
    rintro e w9 ⟨c9, lv9, k9, rfl, hB9, rfl, rfl, rfl⟩
    have hB19 := (hx8.out.trans (hB9.mono hx8.out.size)).alloc (Nat.le_trans hx8.out.size hB9.size) (.cells #[.int .i64 0, .int .i64 0, .int .i64 0, .int .u16 0, .int .i64 0] 36)
    clear hrc hB9
    unfold cfgV zeroC
    simp only
    go_wp2
    go_ret
    exact ⟨rfl, hB19⟩
  · have hsc := scripts_c w5 (h0g.out.below hB15)
    have hx5 := Lib.hid hB15
    clear hB15 hB5
    go_wp2_with fail
    refine hsc.mono ?_
    rintro e w6 ⟨rfl, hB6⟩
    have hB16 := hx5.out.trans (hB6.mono hx5.out.size)
    clear hsc hB6
    go_wp2
    go_ret
    exact ⟨rfl, hB16⟩
#print axioms cut_c
end Go.Proofs.YtkmknpobinpegaaDoor
