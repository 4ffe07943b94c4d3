/- The walk of WheelActs: in every row of calls both wheels answer alike. -/
import Derived.Test.YtkmknpobinpegaaTwo
import Derived.LoopTactic
import Derived.OpenShut
import Derived.Deep.QuietTactic
import Derived.BigQuiet
import Derived.Deep.DeepCutAuto
import Derived.Deep.CutBlock
namespace Go.Proofs.Ytkmknpobinpegaa
set_option linter.unusedSimpArgs false
set_option linter.unusedVariables false
open Go Go.RowKit Go.Maps Go.Sort Go.Lib Go.Shelf

set_option maxRecDepth 8000 in
set_option maxHeartbeats 2000000 in
theorem acts_walk (a0 : Option Addr) (len0 cap0 : Nat) (w : World) (h0 : InActs w a0 len0 cap0) :
    Calls Try.prog 5 #[.slice a0 len0 cap0] w fun e w' => e = .returned (.bool true) ∧ Below w.heap.size w w' := by
  have hle := h0.le
  unfold maxLen at hle
  go_enter Try.func5, Try.ntmps5
  go_wp2_with fail
  refine (turns_c w).mono ?_
  rintro e wA ⟨rfl, hBA⟩
  go_wp2_with fail
  refine (none_c wA).mono ?_
  rintro e w1 ⟨rfl, rfl⟩
  go_wp2_with fail
  refine (set_none 1 1 w1).mono ?_
  rintro e w2 ⟨rfl, rfl⟩
  go_wp2_with fail
  refine (none_c w2).mono ?_
  rintro e w3 ⟨rfl, rfl⟩
  go_wp2_with fail
  refine (drop_none 1 w3).mono ?_
  rintro e w4 ⟨rfl, rfl⟩
  go_wp2_with fail
  refine (none_c w4).mono ?_
  rintro e w5 ⟨rfl, rfl⟩
  go_wp2_with fail
  refine (tick_none w5).mono ?_
  rintro e w6 ⟨rfl, rfl⟩
  go_wp2_with fail
  refine (none_c w6).mono ?_
  rintro e w7 ⟨rfl, rfl⟩
  go_wp2_with fail
  refine (now_none w7).mono ?_
  rintro e w8 ⟨rfl, rfl⟩
  go_wp2_with fail
  refine (none_c w8).mono ?_
  rintro e w9 ⟨rfl, rfl⟩
  go_wp2_with fail
  refine (len_none w9).mono ?_
  rintro e w10 ⟨rfl, rfl⟩
  go_wp2_with fail
  refine (made_c w10).mono ?_
  rintro e w11 ⟨S, b, rfl, hW, hS, hBW⟩
  go_wp2
  obtain ⟨wz, hwz⟩ : ∃ wz, wz = w11.alloc (.cells #[.int .i64 0, .slice none 0 0] 41) := ⟨_, rfl⟩
  have hcz : wz.heap[w11.heap.size]? = some (.cells #[.int .i64 0, .slice none 0 0] 41 (0, 0)) := by rw [hwz]; exact heap_alloc_new w11 _
  have hzz : wz.heap.size = w11.heap.size + 1 := by rw [hwz]; simp
  have hBz : Below w11.heap.size w11 wz := by rw [hwz]; exact (Below.refl _ _).alloc (Nat.le_refl _) _
  have h10 := hBA.size
  have h11 := hBW.size
  have hT : Two w wz b w11.heap.size S (fun k => k = w11.heap.size) 0 [] 0 [] := {
    wh := hW.keep (fun k hk => hBz.block k (hW.lt k hk)) hBz.size
    rf := ⟨.slice none 0 0, { c0 := by simp [World.cell?, hcz], c1 := by simp [World.cell?, hcz], fr := fun k => by simp [World.frozen?, hcz], own := World.ownsRow_nil _ _ _ _, sc := rfl, sv := fun g hg => by simp [Value.ownBlock] at hg, lt := fun k hk => by omega }⟩
    dj := fun k hk h => by have := hW.lt k hk; omega
    lo := fun k hk => by have := hS k hk; omega
    lo2 := fun k hk => by omega
    bl := (hBA.trans (hBW.mono h10)).trans (hBz.mono (by omega)) }
  rw [← hwz]
  generalize w11.heap.size = c at hT
  have hT' := Lib.hid hT
  clear hT hBz hzz hcz hwz hBW hS hW hBA h10 h11
  go_loopw [5] (fun s5 wr => ∃ (i : Nat) (S S2 : Nat → Prop) (now : Nat) (L : WL), i ≤ 40 ∧ i ≤ len0 ∧ s5 = .int .i64 (i : Int) ∧ Aside (Two w wr b c S S2 now L now L ∧ now ≤ 40 * i ∧ L.length ≤ i))
    (fun s5 _ => 40 - (intOf s5).toNat)
  case atStart => exact ⟨0, _, _, 0, [], by omega, by omega, rfl, hT'.out, by omega, by simp⟩
  case round =>
    obtain ⟨i, S, S2, now, L, hi40, hil, rfl, hA⟩ := hrel
    have hA' := Lib.hid hA
    clear hA
    by_cases hx : i < len0 ∧ i < 40
    · obtain ⟨hlt, h40⟩ := hx
      obtain ⟨x, n, m, k, rfl, hc0, hc1, hc2, wf0, wf1, wf2⟩ := h0.get hA'.out.1.bl hlt
      have r0 := bounds_i64 wf0
      have r1 := bounds_u16 wf1
      have r2 := bounds_i64 wf2
      go_upto_block 2 with fail
      have hTp := hA'.out.1.keep (w' := wr.alloc (.cells #[.int .i64 n, .int .u16 m, .int .i64 k] 43)) ((Below.refl _ _).alloc (Nat.le_refl _) _)
      have hLp : Loc (wr.alloc (.cells #[.int .i64 n, .int .u16 m, .int .i64 k] 43)) S S2 wr.heap.size (.int .i64 n) (.int .u16 m) (.int .i64 k) := {
        p0 := by rw [World.cell?_alloc_new]; rfl
        p1 := by rw [World.cell?_alloc_new]; rfl
        p2 := by rw [World.cell?_alloc_new]; rfl
        no := fun h => by have := hA'.out.1.wh.lt _ h; omega
        no2 := fun h => by have := hA'.out.1.rf.lt _ h; omega }
      generalize hwp : wr.alloc (.cells #[.int .i64 n, .int .u16 m, .int .i64 k] 43) = wp at *
      generalize wr.heap.size = p at *
      clear hwp hc0 hc1 hc2
      have hTp' := Lib.hid hTp
      have hLp' := Lib.hid hLp
      clear hTp hLp
      obtain ⟨q, hq, hq0, hq6⟩ : ∃ q : Int, wrap64 ((IntKind.u64.wrap n).tmod 6) = q ∧ 0 ≤ q ∧ q < 6 := by
        rw [IntKind.wrap_u64, Int.tmod_eq_emod_of_nonneg (by omega)]
        refine ⟨_, rfl, ?_, ?_⟩ <;> (unfold wrap64; omega)
      rw [hq]
      have hq' := Lib.hid hq
      clear hq
      go_cut [7] (fun s7 wx => ∃ (nn : Nat) (S' S2' : Nat → Prop) (L' : WL), nn ≤ 40 ∧ s7 = .int .i64 (nn : Int) ∧ Aside (Two w wx b c S' S2' now L' now L' ∧ L'.length ≤ i + 1))
      case first =>
        have hp0 := hLp'.out.p0
        have hp1 := hLp'.out.p1
        have hp2 := hLp'.out.p2
        have hcases : q = 0 ∨ q = 1 ∨ q = 2 ∨ q = 3 ∨ q = 4 ∨ q = 5 := by omega
        clear hp0
        obtain ⟨am, ham, ham3⟩ : ∃ am : Nat, m % 300 = (am : Int) ∧ am < 300 := ⟨(m % 300).toNat, by omega, by omega⟩
        have hnd := hTp'.out.nd
        have hnow := hA'.out.2.1
        have hLi := hA'.out.2.2
        rcases hcases with rfl | rfl | rfl | rfl | rfl | rfl
        · by_cases hk : 1 ≤ k ∧ k ≤ 1000
          · obtain ⟨hk1, hk2⟩ := hk
            obtain ⟨d, rfl⟩ : ∃ d : Nat, k = (d : Int) := ⟨k.toNat, by omega⟩
            go_wp2_with fail
            rw [ham]
            refine (set_c wp S b now L am d hTp'.out.wh (by omega) (by omega) (by omega) (by omega) (by omega)).mono ?_
            rintro e w1 ⟨rfl, S1, hW1, hF1, hS1⟩
            have hT1 := Lib.hid (hTp'.out.wheel hW1 hF1 hS1)
            have hL1 := Lib.hid (hLp'.out.wheel hF1 hS1)
            clear hW1 hF1 hS1 hp1 hp2
            have hp1 := hL1.out.p1
            have hp2 := hL1.out.p2
            go_wp2_with fail
            rw [ham]
            refine (docSet_c w1 S2 c now L am d hT1.out.rf hnd (by omega) (by omega) (by omega) (by omega)).mono ?_
            rintro e w2 ⟨rfl, S3, hR2, hF2, hS3⟩
            have hT2 := Lib.hid (hT1.out.ref hR2 hF2 hS3)
            clear hR2 hF2 hS3 hp1 hp2
            go_wp2
            go_meet
            refine ⟨0, _, _, _, by omega, rfl, hT2.out, ?_⟩
            rw [List.length_append]
            have := List.length_filter_le (fun p : Nat × Nat => p.1 != am) L
            unfold dropL
            simp only [List.length_cons, List.length_nil]
            omega
          · have hk' : k < 1 ∨ 1000 < k := by omega
            go_wp2_with fail
            refine (set_bad b _ k wp hk').mono ?_
            rintro e w1 ⟨rfl, rfl⟩
            rcases hk' with h1 | h1
            all_goals
              go_wp2
              go_meet
              exact ⟨0, S, S2, L, by omega, rfl, hTp'.out, by omega⟩
        · by_cases hk : 1 ≤ k ∧ k ≤ 1000
          · obtain ⟨hk1, hk2⟩ := hk
            obtain ⟨d, rfl⟩ : ∃ d : Nat, k = (d : Int) := ⟨k.toNat, by omega⟩
            go_wp2_with fail
            rw [ham]
            refine (set_c wp S b now L am d hTp'.out.wh (by omega) (by omega) (by omega) (by omega) (by omega)).mono ?_
            rintro e w1 ⟨rfl, S1, hW1, hF1, hS1⟩
            have hT1 := Lib.hid (hTp'.out.wheel hW1 hF1 hS1)
            have hL1 := Lib.hid (hLp'.out.wheel hF1 hS1)
            clear hW1 hF1 hS1 hp1 hp2
            have hp1 := hL1.out.p1
            have hp2 := hL1.out.p2
            go_wp2_with fail
            rw [ham]
            refine (docSet_c w1 S2 c now L am d hT1.out.rf hnd (by omega) (by omega) (by omega) (by omega)).mono ?_
            rintro e w2 ⟨rfl, S3, hR2, hF2, hS3⟩
            have hT2 := Lib.hid (hT1.out.ref hR2 hF2 hS3)
            clear hR2 hF2 hS3 hp1 hp2
            go_wp2
            go_meet
            refine ⟨0, _, _, _, by omega, rfl, hT2.out, ?_⟩
            rw [List.length_append]
            have := List.length_filter_le (fun p : Nat × Nat => p.1 != am) L
            unfold dropL
            simp only [List.length_cons, List.length_nil]
            omega
          · have hk' : k < 1 ∨ 1000 < k := by omega
            go_wp2_with fail
            refine (set_bad b _ k wp hk').mono ?_
            rintro e w1 ⟨rfl, rfl⟩
            rcases hk' with h1 | h1
            all_goals
              go_wp2
              go_meet
              exact ⟨0, S, S2, L, by omega, rfl, hTp'.out, by omega⟩
        · cases hm : hasL L am with
          | true =>
            go_wp2_with fail
            rw [ham]
            refine (drop_c wp S b now L am hTp'.out.wh (by omega) (by omega)).mono ?_
            rintro e w1 ⟨rfl, S1, hW1, hF1, hS1⟩
            rw [hm]
            have hT1 := Lib.hid (hTp'.out.wheel hW1 hF1 hS1)
            have hL1 := Lib.hid (hLp'.out.wheel hF1 hS1)
            clear hW1 hF1 hS1 hp1 hp2
            have hp1 := hL1.out.p1
            have hm' := Lib.hid hm
            clear hm
            go_wp2_with fail
            rw [ham]
            refine (docDrop_c w1 S2 c now L am hT1.out.rf hnd (by omega) (by omega)).mono ?_
            rintro e w2 ⟨rfl, S3, hR2, hF2, hS3⟩
            rw [hm'.out]
            have hT2 := Lib.hid (hT1.out.ref hR2 hF2 hS3)
            clear hR2 hF2 hS3 hp1
            go_wp2
            go_meet
            exact ⟨0, _, _, _, by omega, rfl, hT2.out, Nat.le_trans (List.length_filter_le _ _) (by omega)⟩
          | false =>
            go_wp2_with fail
            rw [ham]
            refine (drop_c wp S b now L am hTp'.out.wh (by omega) (by omega)).mono ?_
            rintro e w1 ⟨rfl, S1, hW1, hF1, hS1⟩
            rw [hm]
            have hT1 := Lib.hid (hTp'.out.wheel hW1 hF1 hS1)
            have hL1 := Lib.hid (hLp'.out.wheel hF1 hS1)
            clear hW1 hF1 hS1 hp1 hp2
            have hp1 := hL1.out.p1
            have hm' := Lib.hid hm
            clear hm
            go_wp2_with fail
            rw [ham]
            refine (docDrop_c w1 S2 c now L am hT1.out.rf hnd (by omega) (by omega)).mono ?_
            rintro e w2 ⟨rfl, S3, hR2, hF2, hS3⟩
            rw [hm'.out]
            have hT2 := Lib.hid (hT1.out.ref hR2 hF2 hS3)
            clear hR2 hF2 hS3 hp1
            go_wp2
            go_meet
            exact ⟨0, _, _, _, by omega, rfl, hT2.out, Nat.le_trans (List.length_filter_le _ _) (by omega)⟩
        · go_wp2_with fail
          go_meet
          exact ⟨1, S, S2, L, by omega, by go_num, hTp'.out, by have := hA'.out.2.2; omega⟩
        · go_wp2_with fail
          go_meet
          exact ⟨1, S, S2, L, by omega, by go_num, hTp'.out, by have := hA'.out.2.2; omega⟩
        · go_wp2_with fail
          go_meet
          obtain ⟨nn, h1, h2, h3⟩ := within k 40 (by omega) (by omega)
          rw [show ((40 : Nat) : Int) = 40 from rfl] at h3
          exact ⟨nn, S, S2, L, h2, by rw [h3], hTp'.out, by have := hA'.out.2.2; omega⟩
      case rest =>
        obtain ⟨nn, S3, S4, L', hnn, rfl, hT3⟩ := hcut
        have hA3 := Lib.hid hT3
        have hnow := hA'.out.2.1
        clear hT3 hTp' hLp'
        go_wp2_with fail
        go_loopw [10] (fun s10 wr => ∃ (t : Nat) (S S2 : Nat → Prop) (now1 : Nat) (L1 : WL), t ≤ nn ∧ s10 = .int .i64 (t : Int) ∧ Aside (Two w wr b c S S2 now1 L1 now1 L1 ∧ now1 = now + t ∧ L1.length ≤ i + 1))
          (fun s10 _ => nn - (intOf s10).toNat)
        case atStart => exact ⟨0, S3, S4, now, L', by omega, rfl, hA3.out.1, by omega, hA3.out.2⟩
        case round =>
          obtain ⟨t, S, S2, now1, L1, htn, rfl, hA5⟩ := hrel
          have hA6 := Lib.hid hA5
          have hn1 := hA5.2.1
          have hl1 := hA5.2.2
          clear hA5
          by_cases hlt : t < nn
          · go_wp2_with fail
            refine (tick_c _ S b now1 L1 hA6.out.1.wh (by omega) (by omega)).mono ?_
            rintro e w1 ⟨v, l, S5, rfl, hW1, hF1, hS5, hR1, hO1, hs1, hm1⟩
            have hT1 := Lib.hid (hA6.out.1.wheel hW1 hF1 hS5)
            have hsame := due_same hA6.out.1.nd hs1 hm1
            have hvb : ∀ g, v.ownBlock = some g → ¬ S2 g := fun g hg h => by
              have := hA6.out.1.rf.lt g h
              have := (World.ownsRow.lt hR1 g hg).1
              omega
            have hyb : ∀ j, j < l.length → l[j]! < 65536 := fun j hj => by
              have h1 := (hm1 l[j]!).1 (by rw [getElem!_pos l j hj]; exact List.getElem_mem hj)
              exact hA6.out.1.lo16 _ h1
            clear hW1 hS5 hO1 hs1 hm1 hF1
            go_wp2_with fail
            refine (docTick_c w1 S2 c now1 L1 hT1.out.rf (by omega) (by omega)).mono ?_
            rintro e w2 ⟨v2, S6, rfl, hR2, hF2, hS6, hO2⟩
            have hT2 := Lib.hid (hT1.out.ref hR2 hF2 hS6)
            have hR12 : RowAt w2 _ v l := ownsRow_block hR1 (fun g hg => hF2.block g (World.ownsRow.lt hR1 g hg).2 (hvb g hg))
            rw [hsame] at hO2
            obtain ⟨_, va, vc, rfl, hvc, hvm, hvh⟩ := ownsRow_open (enc := encA) (zs := l) hR12
            obtain ⟨_, ua, uc, rfl, huc, hum, huh⟩ := ownsRow_open (enc := encI) (zs := l) hO2
            unfold maxLen at hvm hum
            clear hR2 hF2 hS6 hR1 hR12 hO2 hvb hsame
            obtain ⟨wo, rfl⟩ : ∃ wo, wo = w2 := ⟨_, rfl⟩
            go_wp2
            go_loopw [13] (fun s13 wr => ∃ j : Nat, j ≤ l.length ∧ s13 = .int .i64 (j : Int) ∧ Below wo.heap.size wo wr)
              (fun s13 _ => l.length - (intOf s13).toNat)
            case atStart => exact ⟨0, Nat.zero_le _, rfl, Below.refl _ _⟩
            case round =>
              obtain ⟨j, hj, rfl, hB⟩ := hrel
              have hB' := Lib.hid hB
              clear hB
              by_cases hjl : j < l.length
              · obtain ⟨g, rfl, _, hgl, _, hH⟩ := hvh (by omega)
                obtain ⟨g2, rfl, _, hgl2, _, hH2⟩ := huh (by omega)
                have hc1 : wr.cell? ⟨g, j, none⟩ = some (.int .u16 (l[j]! : Int)) := by
                  rw [hB'.out.cell (p := ⟨g, j, none⟩) hgl]
                  have := (hH j (by simpa using hjl)).1
                  simpa [encA] using this
                have hc2 : wr.cell? ⟨g2, j, none⟩ = some (.int .i64 (l[j]! : Int)) := by
                  rw [hB'.out.cell (p := ⟨g2, j, none⟩) hgl2]
                  have := (hH2 j (by simpa using hjl)).1
                  simpa [encI] using this
                have hyl := hyb j hjl
                generalize l[j]! = y at hc1 hc2 hyl
                have hyy : ((y : Int) != (y : Int)) = false := by simp
                go_wp2
                go_quiet (fail)
                go_wp2
                exact ⟨⟨j + 1, by omega, by go_num, below_drewN hB'.out _⟩, by simp [intOf]; omega⟩
              · obtain rfl : j = l.length := by omega
                go_wp2
                exact ⟨⟨t + 1, _, _, now1 + 1, _, by omega, by go_num, hT2.out.keep hB'.out, by omega, Nat.le_trans (List.length_filter_le _ _) hl1⟩, by simp [intOf]; omega⟩
          · obtain rfl : t = nn := by omega
            obtain ⟨vr, hRI⟩ := hA6.out.1.rf
            have cr0 := hRI.c0
            have cr1 := hRI.c1
            obtain ⟨ra, rc, rfl, hrc, hrm, _⟩ := pairs_open hRI.own
            clear hRI
            go_wp2
            go_quiet (first | (go_at_call 13; exact Calls.quiet_of_same (now_c _ S b now1 L1 (hA6.out.1.wh.keep (fun _ _ => rfl) (Nat.le_refl _)))) | (go_at_call 10; exact Calls.quiet_of_same (len_c _ S b now1 L1 (hA6.out.1.wh.keep (fun _ _ => rfl) (Nat.le_refl _)))))
            go_wp2
            exact ⟨⟨i + 1, S, S2, now1, L1, by omega, by omega, by go_num, hA6.out.1.keep (below_drewN (Below.refl _ _) _), by omega, hl1⟩, by simp [intOf]; omega⟩
    · have hx' : ¬ i < len0 ∨ (i < len0 ∧ ¬ i < 40) := by omega
      clear hx
      rcases hx' with h | ⟨h, h'⟩
      all_goals
        go_wp2
        go_ret
        exact ⟨rfl, hA'.out.1.bl⟩
#print axioms acts_walk
end Go.Proofs.Ytkmknpobinpegaa
