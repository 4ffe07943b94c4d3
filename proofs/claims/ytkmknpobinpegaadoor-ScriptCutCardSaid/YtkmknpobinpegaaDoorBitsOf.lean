/- bits.Of: the bits of bytes, the highest first. -/
import Derived.Test.YtkmknpobinpegaaDoorBitsRight
namespace Go.Proofs.YtkmknpobinpegaaDoor
open Go Go.RowKit Go.Maps Go.Sort Go.Lib
set_option linter.unusedSimpArgs false
set_option linter.unusedVariables false

def unbits (l : List Nat) : List Nat := l.flatMap fun y => bitsOf y 8
theorem unbits_snoc (l : List Nat) (y : Nat) : unbits (l ++ [y]) = unbits l ++ bitsOf y 8 := by unfold unbits; rw [List.flatMap_append]; simp
theorem unbits_length : ∀ l : List Nat, (unbits l).length = 8 * l.length
  | [] => rfl
  | y :: r => by
    have h : unbits (y :: r) = bitsOf y 8 ++ unbits r := rfl
    rw [h, List.length_append, bitsOf_length, unbits_length r, List.length_cons]; omega
theorem low_bit8 (m : Nat) (h : m < 256) : bits .and .u8 (m : Int) 1 = ((m % 2 : Nat) : Int) := by
  have h := bits_mask .u8 8 (by decide) wraps_u8 1 (by decide) (m : Int) (by omega) (by omega)
  rw [show ((2 : Int) ^ 1 - 1) = 1 from rfl, show ((2 : Int) ^ 1) = 2 from rfl] at h
  rw [h]; omega

set_option maxRecDepth 8000 in
set_option maxHeartbeats 1000000 in
theorem of_c (w : World) (T : Nat → Prop) (v : Value) (xs : List Nat) (h : Rd encB w T v xs) (hT : ∀ k, T k → k < w.heap.size) (hb : ∀ y ∈ xs, y < 256) (hl : xs.length ≤ 100000) :
    Calls Tryd.prog 35 #[v] w fun e w' => ∃ v', e = .returned v' ∧ Below w.heap.size w w' ∧ w'.ownsRow w.heap.size 5 1 v' (unbits xs).length (rowB (unbits xs)) := by
  obtain ⟨i0, hi, hi0, hi1, hi2⟩ := info_parts infoB
  obtain ⟨a, c, rfl, hc, hm, hh⟩ := h
  unfold maxLen at hm
  go_enter Tryd.func35, Tryd.ntmps35
  go_wp2
  go_loopw [3, 9] (fun s3 s9 wr => ∃ j : Nat, j ≤ xs.length ∧ s9 = .int .i64 (j : Int) ∧ Aside (wr.ownsRow w.heap.size 5 1 s3 (unbits (xs.take j)).length (rowB (unbits (xs.take j))) ∧ Below w.heap.size w wr))
    (fun _ s9 _ => xs.length - (intOf s9).toNat)
  case atStart => exact ⟨0, Nat.zero_le _, rfl, World.ownsRow_nil _ _ _ _, Below.refl _ _⟩
  case round =>
    obtain ⟨j, hj, rfl, hA⟩ := hrel
    have hA' := Lib.hid hA
    clear hA
    by_cases hlt : j < xs.length
    · obtain ⟨x, rfl, hxT, hxl, hcell⟩ := hh (by omega)
      have hxb : (x.add j).block = x.block := by unfold Addr.add; split <;> rfl
      have h1 : wr.cell? (x.add j) = some (encB xs[j]!) := (hA'.out.2.cell (p := x.add j) (by rw [hxb]; exact hxl)).trans (hcell j hlt)
      clear hcell
      have h2 := hb xs[j]! (by rw [getElem!_pos xs j hlt]; exact List.getElem_mem hlt)
      have hsn : unbits (xs.take (j + 1)) = unbits (xs.take j) ++ bitsOf xs[j]! 8 := by rw [take_snoc hlt, unbits_snoc]
      have hul : (unbits (xs.take j)).length ≤ 800000 := by rw [unbits_length, List.length_take]; omega
      generalize xs[j]! = y at h1 h2 hsn
      generalize unbits (xs.take j) = U at *
      have hsn' := Lib.hid hsn
      have hO := Lib.hid hA'.out.1
      have hB := Lib.hid hA'.out.2
      clear hsn hA'
      go_wp2
      go_loopw [3, 13] (fun s3 s13 wr => ∃ k : Nat, k ≤ 8 ∧ s13 = .int .i64 (k : Int) ∧ Aside (wr.ownsRow w.heap.size 5 1 s3 (U ++ (bitsOf y 8).take k).length (rowB (U ++ (bitsOf y 8).take k)) ∧ Below w.heap.size w wr))
        (fun _ s13 _ => 8 - (intOf s13).toNat)
      case atStart => exact ⟨0, Nat.zero_le _, rfl, by rw [List.take_zero, List.append_nil]; exact hO.out, hB.out⟩
      case round =>
        obtain ⟨k, hk, rfl, hA⟩ := hrel
        have hAk := Lib.hid hA
        clear hA
        by_cases hk8 : k < 8
        · obtain ⟨r, hr⟩ : ∃ r : Nat, r = 7 - k := ⟨_, rfl⟩
          have hri : (7 : Int) - (k : Int) = (r : Int) := by omega
          have hbit : bits .and .u8 ((y : Int) / 2 ^ r) 1 = ((y / 2 ^ r % 2 : Nat) : Int) := by
            have e : ((y : Int) / 2 ^ r) = ((y / 2 ^ r : Nat) : Int) := by rw [Int.natCast_ediv]; push_cast; rfl
            rw [e]
            exact low_bit8 _ (Nat.lt_of_le_of_lt (Nat.div_le_self _ _) h2)
          have htk : U ++ (bitsOf y 8).take (k + 1) = (U ++ (bitsOf y 8).take k) ++ [y / 2 ^ r % 2] := by
            rw [bitsOf_take y 8 k hk8, List.append_assoc, hr]
          have hq : y / 2 ^ r % 2 ≤ 1 := by omega
          generalize y / 2 ^ r % 2 = q at hbit htk hq
          have hUl : (U ++ (bitsOf y 8).take k).length ≤ 900000 := by
            have := List.length_take_le k (bitsOf y 8)
            rw [List.length_append]; omega
          generalize U ++ (bitsOf y 8).take k = V at *
          have htk' := Lib.hid htk
          clear htk hr
          have hBs := hAk.out.2.size
          go_wp2_with (at_builtin; refine wpList_append_own _ rfl _ _ 28 rfl w.heap.size 5 i0 _ 1 1 Tryd.underlying28 hi hi0 hi1 hi2 rfl (by decide) u3 _ _ rfl (World.ownsRow.alloc hAk.out.1 _) ⟨wr.heap.size, 0, none⟩ 1 1 [.int .u8 (q : Int)] rfl rfl (cell_one_new _ _ _) (ints_oneCell .u8 [(q : Int)]) (by unfold maxLen; omega) (by omega) (by simp; omega) ?_; intro v' w4 hown' hgrow hnil)
          refine ⟨⟨k + 1, by omega, by go_num, ?_, ?_⟩, by simp [intOf]; omega⟩
          · rw [htk'.out, List.length_append]
            have e : rowB (V ++ [q]) = rowB V ++ [Value.int .u8 (q : Int)] := by simp [rowB]
            rw [e]
            exact hown'
          · exact (hAk.out.2.alloc hBs _).grown hgrow (by simp; omega) (fun m hm => (World.ownsRow.lt hAk.out.1 m hm).1)
        · obtain rfl : k = 8 := by omega
          rw [List.take_of_length_le (by rw [bitsOf_length]; exact Nat.le_refl _)] at hAk
          go_wp2
          refine ⟨⟨j + 1, by omega, by go_num, ?_, hAk.out.2⟩, by simp [intOf]; omega⟩
          rw [hsn'.out]; exact hAk.out.1
    · obtain rfl : j = xs.length := by omega
      have hO := hA'.out.1
      rw [List.take_length] at hO
      go_wp2
      go_ret
      exact ⟨_, rfl, hA'.out.2, hO⟩
/-- bits.Weight of bits. -/
theorem weight_c (w : World) (T : Nat → Prop) (v : Value) (xs : List Nat) (h : Rd encB w T v xs) (hb : ∀ y ∈ xs, y < 256) (hl : xs.length ≤ 1000000) :
    Calls Tryd.prog 37 #[v] w fun e w' => e = .returned (.int .i64 ((xs.filter fun y => y != 0).length : Int)) ∧ w' = w := by
  obtain ⟨a, c, rfl, hc, hm, hh⟩ := h
  unfold maxLen at hm
  go_enter Tryd.func37, Tryd.ntmps37
  go_wp2
  go_loopw [3, 8] (fun s3 s8 wr => ∃ j : Nat, j ≤ xs.length ∧ s8 = .int .i64 (j : Int) ∧ s3 = .int .i64 (((xs.take j).filter fun y => y != 0).length : Int) ∧ wr = w)
    (fun _ s8 _ => xs.length - (intOf s8).toNat)
  case atStart => exact ⟨0, Nat.zero_le _, rfl, rfl, rfl⟩
  case round =>
    obtain ⟨j, hj, rfl, rfl, hw⟩ := hrel
    subst wr
    by_cases hlt : j < xs.length
    · obtain ⟨x, rfl, _, _, hcell⟩ := hh (by omega)
      have h1 := hcell j hlt
      clear hcell
      have hsn : xs.take (j + 1) = xs.take j ++ [xs[j]!] := take_snoc hlt
      have hfl : ((xs.take j).filter fun y => y != 0).length ≤ 1000000 := Nat.le_trans (List.length_filter_le _ _) (by rw [List.length_take]; omega)
      have hsn' := Lib.hid hsn
      clear hsn
      generalize xs[j]! = y at h1 hsn'
      by_cases hy : y = 0
      · subst hy
        have h1 : w.cell? (x.add j) = some (.int .u8 0) := h1
        go_wp2
        refine ⟨⟨j + 1, by omega, by go_num, ?_, by first | rfl | trivial⟩, by simp [intOf]; omega⟩
        rw [hsn'.out, List.filter_append]; simp
      · have hb1 : ((y : Int) != 0) = true := by simp; exact hy
        go_wp2
        refine ⟨⟨j + 1, by omega, by go_num, ?_, by first | rfl | trivial⟩, by simp [intOf]; omega⟩
        rw [hsn'.out, List.filter_append]; simp [hy]
    · obtain rfl : j = xs.length := by omega
      rw [List.take_length]
      go_wp2
      go_ret
      exact ⟨rfl, rfl⟩
#print axioms of_c
#print axioms weight_c
end Go.Proofs.YtkmknpobinpegaaDoor
