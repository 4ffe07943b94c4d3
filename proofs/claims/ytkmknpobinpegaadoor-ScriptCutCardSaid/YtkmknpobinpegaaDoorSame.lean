/- Layer 29's document: Same, of two rows of the same steps. -/
import Derived.Test.YtkmknpobinpegaaDoorSteps
import Derived.Laws.BytesArg
namespace Go.Proofs.YtkmknpobinpegaaDoor
open Go Go.RowKit Go.Maps Go.Sort Go.Lib
set_option linter.unusedSimpArgs false
set_option linter.unusedVariables false

def strOf (xs : List Nat) : ByteArray := strOfNums (xs.map fun (n : Nat) => (n : Int))
theorem conv_rd_any {P : Program} {src dst e : TypeId} (hs : P.underlying src = some (.slice e)) (he : P.underlying e = some (.int .u8)) (hd : P.underlying dst = some .string) {w : World} {T : Nat → Prop} {v : Value} {xs : List Nat} (h : Rd encB w T v xs) : (convert src dst v).run P w = .ok (.string (strOf xs)) w := by
  obtain ⟨a, c, rfl, hc, hm, hh⟩ := h
  cases a with
  | none =>
    have h0 : xs.length = 0 := by
      rcases Nat.eq_zero_or_pos xs.length with h0 | h0
      · exact h0
      · obtain ⟨x, h, _⟩ := hh h0; cases h
    obtain rfl : xs = [] := List.eq_nil_of_length_eq_zero h0
    exact run_convert_bytes_nil w _ _ hs he _ c _ hd
  | some ad =>
    have hl : (loadCells ad xs.length).run P w = .ok ((xs.map fun (n : Nat) => (n : Int)).map (Value.int .u8)).toArray w := by
      have := run_loadCells_list (P := P) w ad ((xs.map fun (n : Nat) => (n : Int)).map (Value.int .u8)) (fun j v hj => by
        have hjl : j < xs.length := by
          rcases Nat.lt_or_ge j xs.length with h' | h'
          · exact h'
          · rw [List.getElem?_eq_none (by simpa using h')] at hj
            cases hj
        obtain ⟨ad', he', _, _, hcell⟩ := hh (by omega)
        injection he' with he'
        subst he'
        rw [hcell j hjl, ← hj]
        simp [getElem!_pos, hjl])
      simpa using this
    rw [run_convert_bytes_string w _ _ _ _ _ _ hs he hd, run_bytesToString w ad _ c _ hl, foldl_push_bytes]
    simp [strOf, strOfNums, ByteArray.empty, ByteArray.emptyWithCapacity]
    rfl
theorem conv_rd {w : World} {T : Nat → Prop} {v : Value} {xs : List Nat} (h : Rd encB w T v xs) : (convert 28 9 v).run Tryd.prog w = .ok (.string (strOf xs)) w := conv_rd_any Tryd.underlying28 Tryd.underlying5 Tryd.underlying9 h
theorem Rd.drewN {α : Type} [Inhabited α] {enc : α → Value} {w : World} {T : Nat → Prop} {v : Value} {xs : List α} (h : Rd enc w T v xs) (n : Nat) : Rd enc (w.drewN n) T v xs := h
#print axioms conv_rd
set_option maxRecDepth 8000 in
set_option maxHeartbeats 4000000 in
theorem same_c (w : World) (T1 T2 : Nat → Prop) (v1 v2 : Value) (xs : List Stp) (h1 : StpsAt w T1 v1 xs) (h2 : StpsAt w T2 v2 xs) :
    Calls Tryd.prog 10 #[v1, v2] w fun e w' => e = .returned (.bool true) ∧ ∃ n, w' = w.drewN n := by
  obtain ⟨a1, c1, rfl, hc1, hm1, hh1⟩ := h1
  obtain ⟨a2, c2, rfl, hc2, hm2, hh2⟩ := h2
  unfold maxLen at hm1 hm2
  have hx := Lib.hid (And.intro hh1 hh2)
  clear hh1 hh2
  go_enter Tryd.func10, Tryd.ntmps10
  go_wp2
  go_loopw [5] (fun s5 wr => ∃ (i n : Nat), i ≤ xs.length ∧ s5 = .int .i64 (i : Int) ∧ wr = w.drewN n)
    (fun s5 _ => xs.length - (intOf s5).toNat)
  case atStart => exact ⟨0, 0, Nat.zero_le _, rfl, rfl⟩
  case round =>
    obtain ⟨i, n, hi, rfl, hw⟩ := hrel
    subst wr
    by_cases hlt : i < xs.length
    · obtain ⟨x, xb, xa, rfl, _, _, x0, x1, x2, x3, xr, xs'⟩ := hx.out.1 i hlt
      obtain ⟨y, yb, ya, rfl, _, _, y0, y1, y2, y3, yr, ys'⟩ := hx.out.2 i hlt
      have k1 : ∀ m, (convert 28 9 xb).run Tryd.prog (w.drewN m) = .ok (.string (strOf xs[i]!.bytes)) (w.drewN m) := fun m => conv_rd (xr.drewN m)
      have k2 : ∀ m, (convert 28 9 yb).run Tryd.prog (w.drewN m) = .ok (.string (strOf xs[i]!.bytes)) (w.drewN m) := fun m => conv_rd (yr.drewN m)
      obtain ⟨a3, c3, rfl, hc3, hm3, hh3⟩ := xs'
      obtain ⟨a4, c4, rfl, hc4, hm4, hh4⟩ := ys'
      obtain ⟨b1, b2, b3, rfl⟩ := xr.slice
      obtain ⟨b4, b5, b6, rfl⟩ := yr.slice
      unfold maxLen at hm3 hm4
      have hy := Lib.hid (And.intro hh3 hh4)
      clear hh3 hh4 xr yr
      generalize xs[i]! = s at *
      generalize strOf s.bytes = st at *
      go_wp2
      go_quiet (fail)
      go_wp2
      go_loopw [6] (fun s6 wr => ∃ (j m : Nat), j ≤ s.at_.length ∧ s6 = .int .i64 (j : Int) ∧ wr = w.drewN m)
        (fun s6 _ => s.at_.length - (intOf s6).toNat)
      case atStart => exact ⟨0, _, Nat.zero_le _, rfl, World.drewN_drewN _ _ _⟩
      case round =>
        obtain ⟨j, m, hj, rfl, hw⟩ := hrel
        subst wr
        by_cases hlt2 : j < s.at_.length
        · obtain ⟨z1, rfl, _, _, g1⟩ := hy.out.1 (by omega)
          obtain ⟨z2, rfl, _, _, g2⟩ := hy.out.2 (by omega)
          have c1 := g1 j hlt2
          have c2 := g2 j hlt2
          clear g1 g2
          generalize s.at_[j]! = u at *
          go_wp2
          go_quiet (fail)
          go_wp2
          exact ⟨⟨j + 1, _, by omega, by go_num, rfl⟩, by simp [intOf]; omega⟩
        · obtain rfl : j = s.at_.length := by omega
          go_wp2
          exact ⟨⟨i + 1, _, by omega, by go_num, rfl⟩, by simp [intOf]; omega⟩
    · obtain rfl : i = xs.length := by omega
      go_wp2
      go_ret
      exact ⟨rfl, n, rfl⟩
#print axioms same_c
end Go.Proofs.YtkmknpobinpegaaDoor
