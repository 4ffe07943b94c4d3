/- The document's bytes of bits (layer 1). -/
import Derived.Test.YtkmknpobinpegaaDoorRefPut
namespace Go.Proofs.YtkmknpobinpegaaDoor
open Go Go.RowKit Go.Maps Go.Sort Go.Lib
set_option linter.unusedSimpArgs false
set_option linter.unusedVariables false

/-- The value that eight places have from a list's begin on, noughts behind. -/
def val8 (C : List Nat) : Nat → Nat
  | 0 => 0
  | k + 1 => 2 * val8 C k + (if k < C.length then C[k]! else 0)
theorem val8_take (C : List Nat) : ∀ k, k ≤ C.length → val8 C k = valOf (C.take k)
  | 0, _ => rfl
  | k + 1, h => by
    rw [take_snoc (by omega), valOf_snoc, val8, val8_take C k (by omega), if_pos (by omega)]
theorem val8_over (C : List Nat) (d : Nat) : val8 C (C.length + d) = valOf C * 2 ^ d := by
  induction d with
  | zero => rw [Nat.add_zero, val8_take C _ (Nat.le_refl _), List.take_length]; simp
  | succ d ih =>
    show 2 * val8 C (C.length + d) + (if C.length + d < C.length then C[C.length + d]! else 0) = _
    have hn : ¬ C.length + d < C.length := by omega
    rw [ih, if_neg hn, Nat.pow_succ, Nat.add_zero, Nat.mul_comm 2, Nat.mul_assoc]
theorem val8_byte (L : List Nat) (k : Nat) : val8 (chunkOf L k) 8 = byteOf L k := by
  have h := chunkOf_length L k
  have := val8_over (chunkOf L k) (8 - (chunkOf L k).length)
  rw [show (chunkOf L k).length + (8 - (chunkOf L k).length) = 8 by omega] at this
  exact this
theorem val8_lt {C : List Nat} (h : ∀ y ∈ C, y ≤ 1) : ∀ k, val8 C k < 2 ^ k
  | 0 => by simp [val8]
  | k + 1 => by
    have := val8_lt h k
    unfold val8
    rw [Nat.pow_succ]
    split
    · rename_i hk
      have := h C[k]! (by rw [getElem!_pos C k hk]; exact List.getElem_mem hk)
      omega
    · omega
set_option maxRecDepth 8000 in
set_option maxHeartbeats 2000000 in
theorem rbytes_c (w : World) (T : Nat → Prop) (v : Value) (L : List Nat) (h : Rd encB w T v L) (hb : ∀ y ∈ L, y ≤ 1) (hL : L.length ≤ 1000000) :
    Calls Tryd.prog 17 #[v] w fun e w' => ∃ v', e = .returned v' ∧ Below w.heap.size w w' ∧ w'.ownsRow w.heap.size 5 1 v' (parts8 L.length) (rowB (bytesOf L)) := by
  obtain ⟨i0, hi, hi0, hi1, hi2⟩ := info_parts infoB
  obtain ⟨a, c, rfl, hc, hm, hh⟩ := h
  unfold maxLen at hm
  go_enter Tryd.func17, Tryd.ntmps17
  go_wp2
  go_loopw [3, 4] (fun s3 s4 wr => ∃ (k m : Nat), k ≤ parts8 L.length ∧ m = 8 * k ∧ s4 = .int .i64 (m : Int) ∧ Aside (wr.ownsRow w.heap.size 5 1 s3 k (rowB (bytesUpto L k)) ∧ Below w.heap.size w wr))
    (fun _ s4 _ => L.length + 8 - (intOf s4).toNat)
  case atStart => exact ⟨0, 0, Nat.zero_le _, rfl, rfl, World.ownsRow_nil _ _ _ _, Below.refl _ _⟩
  case round =>
    obtain ⟨k, m, hk, hm8, rfl, hA⟩ := hrel
    have hA' := Lib.hid hA
    clear hA
    have hm8x := Lib.hid hm8
    by_cases hlt : m < L.length
    · obtain ⟨x, rfl, hxT, hxl, hcell⟩ := hh (by omega)
      have hcl := chunkOf_length L k
      have hcb := chunkOf_bit hb k
      have hC : ∀ q, q < (chunkOf L k).length → wr.cell? (x.add (m + q)) = some (encB (chunkOf L k)[q]!) := fun q hq => by
        rw [hA'.out.2.cell (p := x.add (m + q)) (by rw [show (x.add (m + q)).block = x.block by unfold Addr.add; split <;> rfl]; exact hxl), hcell (m + q) (by omega), getElem!_pos L (m + q) (by omega), getElem!_pos (chunkOf L k) q hq]
        simp [chunkOf, hm8]
      have hbv := Lib.hid (val8_byte L k)
      have hbl := byteOf_lt hb k
      have hkl : k < parts8 L.length := by unfold parts8; omega
      have hlx : ∀ q, q < 8 → ((m + q < L.length) ↔ q < (chunkOf L k).length) := fun q hq => by omega
      clear hcell hh hb hcl hm8 hk
      generalize chunkOf L k = C at *
      obtain ⟨wo, hwo⟩ : ∃ wo, wo = wr := ⟨_, rfl⟩
      subst wr
      go_wp2
      go_loopw [5, 6] (fun s5 s6 wr => ∃ q : Nat, q ≤ 8 ∧ s6 = .int .i64 (q : Int) ∧ s5 = .int .i64 (val8 C q : Int) ∧ wr = wo)
        (fun _ s6 _ => 8 - (intOf s6).toNat)
      case atStart => exact ⟨0, Nat.zero_le _, rfl, rfl, rfl⟩
      case round =>
        obtain ⟨q, hq, rfl, rfl, hw⟩ := hrel
        subst wr
        by_cases hq8 : q < 8
        · have hv := val8_lt hcb q
          have hv2 : (2 : Nat) ^ q ≤ 2 ^ 8 := Nat.pow_le_pow_right (by omega) (by omega)
          have e8 : (2 : Nat) ^ 8 = 256 := rfl
          have hvb : val8 C q < 256 := by omega
          have hsu : val8 C (q + 1) = 2 * val8 C q + (if q < C.length then C[q]! else 0) := rfl
          have hsx := Lib.hid hsu
          have hlq := hlx q hq8
          clear hv hv2 e8 hsu hlx
          by_cases hqc : q < C.length
          · have h1 := hC q hqc
            have hcq := hcb C[q]! (by rw [getElem!_pos C q hqc]; exact List.getElem_mem hqc)
            have hml : m + q < L.length := hlq.2 hqc
            have hdl : decide ((m : Int) + (q : Int) < (L.length : Int)) = true := by simp; omega
            have hqx := Lib.hid hqc
            clear hC hcb hlq hqc
            generalize C[q]! = y at *
            generalize val8 C q = vv at *
            go_wp2
            refine ⟨⟨q + 1, by omega, by go_num, ?_, trivial⟩, by simp [intOf]; omega⟩
            rw [hsx.out, if_pos hqx.out]
            go_num
          · have hml : ¬ m + q < L.length := fun h => hqc (hlq.1 h)
            have hdl : decide ((m : Int) + (q : Int) < (L.length : Int)) = false := by simp; omega
            have hqx := Lib.hid hqc
            clear hC hcb hlq hqc
            generalize val8 C q = vv at *
            go_wp2
            refine ⟨⟨q + 1, by omega, by go_num, ?_, trivial⟩, by simp [intOf]; omega⟩
            rw [hsx.out, if_neg hqx.out]
            go_num
        · obtain rfl : q = 8 := by omega
          have hkb : k ≤ 1000000 := by unfold parts8 at hkl; omega
          rw [hbv.out]
          have hBs := hA'.out.2.size
          have hmk := hm8x
          obtain ⟨va, vl, vc, rfl⟩ := ownsRow_slice hA'.out.1
          have hsn := Lib.hid (bytesUpto_succ L k)
          have hk1 : k + 1 ≤ parts8 L.length := hkl
          clear hlx hC hcb
          generalize byteOf L k = y at *
          go_wp2_with (at_builtin; refine wpList_append_own_at _ rfl _ _ 28 rfl w.heap.size 5 i0 _ 1 1 Tryd.underlying28 hi hi0 hi1 hi2 rfl (by decide) (.slice va vl vc) _ _ rfl (hA'.out.1.alloc _) ⟨wo.heap.size, 0, none⟩ 1 1 [.int .u8 (y : Int)] rfl rfl (cell_one_new _ _ _) (ints_oneCell .u8 [(y : Int)]) (by unfold maxLen; omega) (by omega) (by simp; omega) ?_; intro v' w4 hown' hgrow hnil hloc; obtain ⟨sa, sl, sc, rfl⟩ := ownsRow_slice hown')
          refine ⟨⟨k + 1, m + 8, hk1, by have := hm8x.out; omega, by go_num, ?_, ?_⟩, by simp [intOf]; omega⟩
          · rw [hsn.out]
            have e : rowB (bytesUpto L k ++ [y]) = rowB (bytesUpto L k) ++ [Value.int .u8 (y : Int)] := by simp [rowB]
            rw [e]
            exact hown'
          · exact (hA'.out.2.alloc hBs _).grown hgrow (by simp; omega) (fun k e => (hA'.out.1.lt k e).1)
    · have hk2 : k = parts8 L.length := by unfold parts8 at *; omega
      clear hm8
      go_wp2
      go_ret
      subst hk2
      exact ⟨_, rfl, hA'.out.2, hA'.out.1⟩
#print axioms rbytes_c
end Go.Proofs.YtkmknpobinpegaaDoor
