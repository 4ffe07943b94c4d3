/- The walk of WheelAll: each is due at its own tick, those of one tick in order. -/
import Derived.Test.YtkmknpobinpegaaTurns
import Derived.LoopTactic
import Derived.OpenShut
import Derived.Deep.QuietTactic
import Derived.BigQuiet
namespace Go.Proofs.Ytkmknpobinpegaa
set_option linter.unusedSimpArgs false
set_option linter.unusedVariables false
open Go Go.RowKit Go.Maps Go.Sort Go.Lib Go.Shelf

/-- The tick of the i-th. -/
def dOf (z : List Int) (i : Nat) : Nat := (wrap64 (1 + wrap64 ((IntKind.u64.wrap (z.getD i 0)).tmod 90))).toNat
theorem dOf_is (z : List Int) (i : Nat) : 1 ≤ dOf z i ∧ dOf z i ≤ 90 ∧ wrap64 (1 + wrap64 ((IntKind.u64.wrap (z.getD i 0)).tmod 90)) = (dOf z i : Int) := by
  obtain ⟨d, h0, h1, h2⟩ := within (z.getD i 0) 90 (by omega) (by omega)
  rw [show ((90 : Nat) : Int) = 90 from rfl] at h2
  unfold dOf
  rw [h2]
  refine ⟨by omega, by omega, by omega⟩
def setL (d : Nat → Nat) (n : Nat) : WL := (List.range n).map fun i => (i, d i)
def allL (d : Nat → Nat) (n t : Nat) : WL := (setL d n).filter fun p => decide (t < p.2)
theorem setL_succ (d : Nat → Nat) (n : Nat) : setL d (n + 1) = setL d n ++ [(n, d n)] := by unfold setL; rw [List.range_succ, List.map_append]; rfl
theorem mem_setL {d : Nat → Nat} {n a t : Nat} : (a, t) ∈ setL d n ↔ a < n ∧ d a = t := by
  unfold setL
  simp only [List.mem_map, List.mem_range, Prod.mk.injEq]
  constructor
  · rintro ⟨i, hi, rfl, rfl⟩; exact ⟨hi, rfl⟩
  · rintro ⟨h, rfl⟩; exact ⟨a, h, rfl, rfl⟩
theorem setL_drop (d : Nat → Nat) (n : Nat) : dropL (setL d n) n = setL d n := by
  refine dropL_none ?_
  cases h : hasL (setL d n) n with
  | false => rfl
  | true =>
    obtain ⟨t, ht⟩ := hasL_iff.1 h
    have := (mem_setL.1 ht).1
    omega
theorem setL_nodup (d : Nat → Nat) (n : Nat) : ((setL d n).map Prod.fst).Nodup := by
  have : (setL d n).map Prod.fst = List.range n := by unfold setL; rw [List.map_map]; exact List.map_id _
  rw [this]; exact List.nodup_range
theorem allL_nodup (d : Nat → Nat) (n t : Nat) : ((allL d n t).map Prod.fst).Nodup := (setL_nodup d n).sublist (List.filter_sublist.map _)
theorem setL_len (d : Nat → Nat) (n : Nat) : (setL d n).length = n := by simp [setL]
theorem allL_le (d : Nat → Nat) (n t : Nat) : (allL d n t).length ≤ n := by have := List.length_filter_le (fun p : Nat × Nat => decide (t < p.2)) (setL d n); rw [setL_len] at this; exact this
theorem allL_zero {d : Nat → Nat} (hd : ∀ i, 1 ≤ d i) (n : Nat) : allL d n 0 = setL d n := by
  unfold allL
  rw [List.filter_eq_self]
  rintro ⟨a, t⟩ h
  have := (mem_setL.1 h).2
  have := hd a
  simp; omega
theorem allL_end {d : Nat → Nat} (hd : ∀ i, d i ≤ 90) (n : Nat) : allL d n 90 = [] := by
  unfold allL
  rw [List.filter_eq_nil_iff]
  rintro ⟨a, t⟩ h
  have := (mem_setL.1 h).2
  have := hd a
  simp; omega
theorem allL_later (d : Nat → Nat) (n t : Nat) : laterL (allL d n t) (t + 1) = allL d n (t + 1) := by
  unfold laterL allL
  rw [List.filter_filter]
  apply List.filter_congr
  rintro ⟨a, s⟩ _
  rw [Bool.eq_iff_iff]
  simp
  omega
theorem mem_allL {d : Nat → Nat} {n t a : Nat} : (a, t + 1) ∈ allL d n t ↔ a < n ∧ d a = t + 1 := by
  unfold allL
  rw [List.mem_filter, mem_setL]
  simp
theorem later_len {L : WL} {l : List Nat} {n : Nat} (hn : (L.map Prod.fst).Nodup) (hl : l.Pairwise (· < ·)) (hm : ∀ a, a ∈ l ↔ (a, n) ∈ L) : l.length + (laterL L n).length = L.length := by
  have h1 : l.Perm (dueL L n) := by
    refine (List.perm_ext_iff_of_nodup (hl.imp (fun h => by omega)) (hn.sublist (List.filter_sublist.map _))).2 fun a => ?_
    rw [hm]
    simp only [dueL, List.mem_map, List.mem_filter, beq_iff_eq]
    constructor
    · intro h; exact ⟨(a, n), ⟨h, rfl⟩, rfl⟩
    · rintro ⟨⟨x, y⟩, ⟨h, rfl⟩, rfl⟩; exact h
  have h2 : ∀ M : WL, (M.filter fun p => p.2 == n).length + (M.filter fun p => p.2 != n).length = M.length := by
    intro M
    induction M with
    | nil => rfl
    | cons p r ih =>
      by_cases hp : p.2 = n
      · simp [hp]; omega
      · simp [hp]; omega
  rw [h1.length_eq]
  unfold dueL laterL
  rw [List.length_map]
  exact h2 L

set_option maxRecDepth 8000 in
set_option maxHeartbeats 1000000 in
theorem all_walk (a0 : Option Addr) (len0 cap0 : Nat) (z0 : List Int) (w : World) (w0 : InRow .i64 w a0 len0 cap0 z0) :
    Calls Try.prog 4 #[.slice a0 len0 cap0] w fun e w' => e = .returned (.bool true) ∧ Below w.heap.size w w' := by
  have hle := w0.le
  unfold maxLen at hle
  obtain ⟨n, hn⟩ : ∃ n, n = min len0 20 := ⟨_, rfl⟩
  have hmin : min (len0 : Int) 20 = (n : Int) := by omega
  have hn0 : n ≤ len0 := by omega
  have hn1 : n ≤ 20 := by omega
  have hd0 : ∀ i, 1 ≤ dOf z0 i := fun i => (dOf_is z0 i).1
  have hd1 : ∀ i, dOf z0 i ≤ 90 := fun i => (dOf_is z0 i).2.1
  have hdz : ∀ i, wrap64 (1 + wrap64 ((IntKind.u64.wrap (z0.getD i 0)).tmod 90)) = (dOf z0 i : Int) := fun i => (dOf_is z0 i).2.2
  have hn' := Lib.hid hn
  clear hn
  go_enter Try.func4, Try.ntmps4
  go_wp2_with fail
  refine (made_c w).mono ?_
  rintro e wA ⟨S1, b, rfl, hW1, hS1, hB1⟩
  have hltA := hB1.size
  go_wp2_with fail
  refine (turns_c wA).mono ?_
  rintro e wB ⟨rfl, hBB⟩
  have hWB := Lib.hid (hW1.keep (fun k hk => hBB.block k (hW1.lt k hk)) hBB.size)
  have hB2 := Lib.hid (hB1.trans (hBB.mono hltA))
  clear hW1 hB1 hBB
  go_wp2
  go_loopw [5] (fun s5 wr => ∃ (i : Nat) (S : Nat → Prop), i ≤ n ∧ s5 = .int .i64 (i : Int) ∧
      Aside (WheelAt wr S b 0 (setL (dOf z0) i) ∧ (∀ k, S k → w.heap.size ≤ k) ∧ Below w.heap.size w wr))
    (fun s5 _ => n - (intOf s5).toNat)
  case atStart => exact ⟨0, S1, Nat.zero_le _, rfl, hWB.out, hS1, hB2.out⟩
  case round =>
    obtain ⟨i, S, hi, rfl, hA⟩ := hrel
    have hA' := Lib.hid hA
    clear hA
    by_cases hx : i < n
    · obtain ⟨x, m, rfl, hcell, hwf, hm⟩ := w0.get hA'.out.2.2 (i := i) (by omega)
      have hm' := Lib.hid hm
      clear hm
      have hnr := bounds_i64 hwf
      go_wp2_with fail
      have hdi := hdz i
      rw [← hm'.out] at hdi
      rw [hdi]
      have hdi' := Lib.hid hdi
      clear hdi
      refine (set_c wr S b 0 _ i (dOf z0 i) hA'.out.1 (by omega) (by omega) (hd0 i) (Nat.le_trans (hd1 i) (by omega)) (by rw [setL_len]; omega)).mono ?_
      rintro e wD ⟨rfl, SD, hWD, hFD, hSD⟩
      rw [setL_drop, Nat.zero_add, ← setL_succ] at hWD
      have hWD' := Lib.hid hWD
      have hFD' := Lib.hid hFD
      clear hWD hFD
      go_wp2
      refine ⟨⟨i + 1, SD, by omega, by go_num, hWD'.out, ?_, ?_⟩, by simp [intOf]; omega⟩
      · intro k hk
        have := hA'.out.2.2.size
        rcases hSD k hk with h | h
        · exact hA'.out.2.1 k h
        · omega
      · exact hA'.out.2.2.trans (hFD'.out.below hA'.out.2.1 hA'.out.2.2.size)
    · obtain rfl : i = n := by omega
      have hW0 := hA'.out.1
      rw [← allL_zero hd0] at hW0
      have hW0' := Lib.hid hW0
      clear hW0
      go_wp2
      go_loopw [6, 7] (fun s6 s7 wr => ∃ (t seen : Nat) (S : Nat → Prop), t ≤ 90 ∧ s7 = .int .i64 ((t : Int) + 1) ∧ s6 = .int .i64 (seen : Int) ∧ seen + (allL (dOf z0) i t).length = i ∧
          Aside (WheelAt wr S b t (allL (dOf z0) i t) ∧ (∀ k, S k → w.heap.size ≤ k) ∧ Below w.heap.size w wr))
        (fun _ s7 _ => 91 - (intOf s7).toNat)
      case atStart => exact ⟨0, 0, S, by omega, rfl, rfl, by rw [allL_zero hd0, setL_len]; omega, hW0'.out, hA'.out.2.1, hA'.out.2.2⟩
      case round =>
        obtain ⟨t, seen, S, ht, rfl, rfl, hseen, hA⟩ := hrel
        have hA' := Lib.hid hA
        clear hA
        by_cases hlt : t < 90
        · go_wp2_with fail
          refine (tick_c _ S b t _ hA'.out.1 (by omega) (Nat.le_trans (allL_le _ _ _) (by omega))).mono ?_
          rintro e wD ⟨v, l, SD, rfl, hWD, hFD, hSD, hRD, hOD, hsD, hmD⟩
          have hll := later_len (allL_nodup _ _ _) hsD hmD
          rw [allL_later] at hWD hll
          have hz := hA'.out.2.2.size
          have hBD := hA'.out.2.2.trans (hFD.below hA'.out.2.1 hz)
          have hSD' : ∀ k, SD k → w.heap.size ≤ k := fun k hk => by rcases hSD k hk with h | h; exact hA'.out.2.1 k h; omega
          have hWD' := Lib.hid (And.intro hWD hBD)
          obtain ⟨_, va, vc, rfl, hvc, hvm, hvh⟩ := ownsRow_open (enc := encA) (zs := l) hRD
          unfold maxLen at hvm
          have hmem : ∀ j, j < l.length → l[j]! < i ∧ dOf z0 l[j]! = t + 1 := fun j hj => by
            have h1 := (hmD l[j]!).1 (by rw [getElem!_pos l j hj]; exact List.getElem_mem hj)
            exact mem_allL.1 h1
          have hinc : ∀ j, j + 1 < l.length → l[j]! < l[j + 1]! := fun j hj => by
            rw [getElem!_pos l j (by omega), getElem!_pos l (j + 1) hj]
            exact List.pairwise_iff_getElem.1 hsD _ _ _ _ (by omega)
          clear hFD hSD hOD hWD hmD hsD hBD
          obtain ⟨wo, rfl⟩ : ∃ wo, wo = wD := ⟨_, rfl⟩
          go_wp2
          go_loopw [6, 9] (fun s6 s9 wr => ∃ j : Nat, j ≤ l.length ∧ s6 = .int .i64 ((seen + j : Nat) : Int) ∧ s9 = .int .i64 (j : Int) ∧ Below wo.heap.size wo wr)
            (fun _ s9 _ => l.length - (intOf s9).toNat)
          case atStart => exact ⟨0, Nat.zero_le _, rfl, rfl, Below.refl _ _⟩
          case round =>
            obtain ⟨j, hj, rfl, rfl, hB⟩ := hrel
            by_cases hjl : j < l.length
            · obtain ⟨g, rfl, _, hgl, _, hH⟩ := hvh (by omega)
              have hcl : ∀ q, q < l.length → wr.cell? ⟨g, q, none⟩ = some (.int .u16 (l[q]! : Int)) := fun q hq => by
                rw [hB.cell (p := ⟨g, q, none⟩) hgl]
                have := (hH q (by simpa using hq)).1
                simpa [encA] using this
              have hcell := hcl j hjl
              have hBw := Lib.hid (hWD'.out.2.trans (hB.mono hWD'.out.2.size))
              obtain ⟨hm1, hm2⟩ := hmem j hjl
              obtain ⟨x, m, rfl, hcx, hwf, hm⟩ := w0.get hBw.out (i := l[j]!) (by omega)
              have hnr := bounds_i64 hwf
              have hdi := hdz l[j]!
              rw [← hm, hm2] at hdi
              have hm' := Lib.hid hm
              clear hm hm2
              have hdi : wrap64 (1 + wrap64 ((IntKind.u64.wrap m).tmod 90)) = ((t : Int) + 1) := by rw [hdi]; omega
              have hdi' := Lib.hid hdi
              clear hdi hdz hd0 hd1
              cases j with
              | zero =>
                generalize l[0]! = q at *
                have hdi := hdi'.out
                have hge : ¬ i ≤ q := by omega
                have hB' := Lib.hid hB
                clear hcl hB
                go_wp2
                go_quiet (fail)
                go_wp2
                refine ⟨⟨1, by omega, by go_num, rfl, below_drewN hB'.out _⟩, by simp [intOf]; omega⟩
              | succ j =>
                have hcell0 := hcl j (by omega)
                have hlt2 := hinc j hjl
                generalize l[j + 1]! = q at *
                generalize l[j]! = q0 at *
                have hdi := hdi'.out
                have hge : ¬ i ≤ q := by omega
                have hge2 : ¬ q ≤ q0 := by omega
                have hB' := Lib.hid hB
                clear hcl hB
                go_wp2
                go_quiet (fail)
                go_wp2
                refine ⟨⟨j + 2, by omega, by go_num, by go_num, below_drewN hB'.out _⟩, by simp [intOf]; omega⟩
            · obtain rfl : j = l.length := by omega
              have hB' := Lib.hid hB
              clear hB
              go_wp2
              have hz1 := hWD'.out.2.size
              exact ⟨⟨t + 1, seen + l.length, SD, by omega, by go_num, rfl, by omega, hWD'.out.1.keep (fun k hk => hB'.out.block k (hWD'.out.1.lt k hk)) hB'.out.size, hSD', hWD'.out.2.trans (hB'.out.mono hz1)⟩, by simp [intOf]; omega⟩
        · obtain rfl : t = 90 := by omega
          rw [allL_end hd1] at hseen
          obtain rfl : seen = i := by simpa using hseen
          go_wp2_with fail
          have hW := hA'.out.1
          rw [allL_end hd1] at hW
          refine (len_c _ S b 90 _ hW).mono ?_
          rintro e wD ⟨rfl, rfl⟩
          go_wp2
          go_ret
          exact ⟨rfl, hA'.out.2.2⟩
#print axioms all_walk
end Go.Proofs.Ytkmknpobinpegaa
