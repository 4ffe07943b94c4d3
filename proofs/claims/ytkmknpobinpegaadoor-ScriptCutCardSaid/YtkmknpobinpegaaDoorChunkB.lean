/- bits.Bytes: the bytes of a list of bits. -/
import Derived.Test.YtkmknpobinpegaaDoorChunk
import Derived.Test.YtkmknpobinpegaaDoorBitR
namespace Go.Proofs.YtkmknpobinpegaaDoor
open Go Go.RowKit Go.Maps Go.Sort Go.Lib Go.Shelf
set_option linter.unusedSimpArgs false
set_option linter.unusedVariables false
attribute [local go_sem] Oper.semAt_some

def chunkOf (L : List Nat) (k : Nat) : List Nat := (L.drop (8 * k)).take 8
def byteOf (L : List Nat) (k : Nat) : Nat := valOf (chunkOf L k) * 2 ^ (8 - (chunkOf L k).length)
def bytesOf (L : List Nat) : List Nat := (List.range (parts8 L.length)).map (byteOf L)
theorem chunkOf_length (L : List Nat) (k : Nat) : (chunkOf L k).length = min 8 (L.length - 8 * k) := by simp [chunkOf]
theorem chunkOf_bit {L : List Nat} (h : ∀ y ∈ L, y ≤ 1) (k : Nat) : ∀ y ∈ chunkOf L k, y ≤ 1 := fun y hy => h y (List.mem_of_mem_drop (List.mem_of_mem_take hy))
theorem byteOf_lt {L : List Nat} (h : ∀ y ∈ L, y ≤ 1) (k : Nat) : byteOf L k < 256 := by
  have h1 := valOf_lt _ (chunkOf_bit h k)
  have h2 := chunkOf_length L k
  unfold byteOf
  generalize (chunkOf L k).length = n at *
  have h3 : n ≤ 8 := by omega
  calc valOf (chunkOf L k) * 2 ^ (8 - n) < 2 ^ n * 2 ^ (8 - n) := Nat.mul_lt_mul_of_pos_right h1 (Nat.two_pow_pos _)
    _ = 256 := by rw [← Nat.pow_add, show n + (8 - n) = 8 by omega]
def bytesUpto (L : List Nat) (k : Nat) : List Nat := (List.range k).map (byteOf L)
theorem bytesUpto_succ (L : List Nat) (k : Nat) : bytesUpto L (k + 1) = bytesUpto L k ++ [byteOf L k] := by simp [bytesUpto, List.range_succ]
theorem chunk_nil_in (n : Nat) (l Bs Bn cap : Nat) (a : Option Addr) (J : List { j : Nat // j < parts8 0 } → World → Prop) (W : World) (hBs : W.cell? ⟨Bs, 0, none⟩ = some (.slice a 0 cap)) (h0 : J [] W) :
    CallsIn Fence.wide n Tryd.prog 46 #[.func (.yield l) #[] #[], .pointer (some ⟨Bs, 0, none⟩), .pointer (some ⟨Bn, 0, none⟩)] W fun e W' => (∃ v, e = .returned v) ∧ J [] W' := by
  refine callsIn_of_wp Tryd.func46 rfl trivial ?_ rfl
  simp only [Tryd.ntmps46, List.size_toArray, List.length_cons, List.length_nil, Nat.reduceAdd, Nat.reduceSub, Array.replicate_succ, Array.replicate_zero, List.push_toArray, List.append_toArray, List.nil_append, List.cons_append]
  gi_wp2
  gi_loopw [4] (fun i wr => i = .int .i64 0 ∧ J [] wr ∧ wr.cell? ⟨Bs, 0, none⟩ = some (.slice a 0 cap)) (fun _ _ => 0)
  case atStart => exact ⟨rfl, h0, hBs⟩
  case round =>
    obtain ⟨rfl, hJs, hcc⟩ := hrel
    gi_wp2
    go_end0
    exact ⟨⟨_, rfl⟩, hJs⟩
theorem chunk_stops (n : Nat) (hn : 1 ≤ n) (Bs Bn b len cap : Nat) (a : Option Addr) (ha : 0 < len → a = some ⟨b, 0, none⟩) (hlen : len ≤ 1000000000) (hlc : len ≤ cap) (hcap : cap ≤ maxLen) (w : World) (hBn : Bn < w.heap.size) (hBs : Bs < w.heap.size)
    (hcs : w.cell? ⟨Bs, 0, none⟩ = some (.slice a len cap)) (hcn : w.cell? ⟨Bn, 0, none⟩ = some (.int .i64 8)) :
    SeqStopsK Fence.wide n Tryd.prog 46 #[.pointer (some ⟨Bs, 0, none⟩), .pointer (some ⟨Bn, 0, none⟩)] (fun x : { j : Nat // j < parts8 len } => #[part8 b 0 len x.1]) (KpC Bs Bn)
      (fun ys => ys = upto (parts8 len) (parts8 len) (Nat.le_refl _)) (fun _ => True) (parts8 len) w := fun l J Jx W hW hJ hJx hY h0 => by
  have hcs' := (hW.cell (p := ⟨Bs, 0, none⟩) hBs).trans hcs
  have hcn' := (hW.cell (p := ⟨Bn, 0, none⟩) hBn).trans hcn
  by_cases h : 0 < len
  · rw [ha h] at hcs'
    exact chunk1_in n hn l Bs Bn b 0 len cap hlen hlc hcap J Jx W.heap.size hJ hY W hcs' hcn' h0
  · obtain rfl : len = 0 := by omega
    exact (chunk_nil_in n l Bs Bn cap a J W hcs' h0).mono fun e W' ⟨he, hj⟩ => ⟨he, .inl ⟨[], rfl, hj⟩⟩

/-- The bits of a row that may be read. -/
def RdB (w : World) (b : Nat) (L : List Nat) : Prop := ∀ j, j < L.length → w.cell? ⟨b, j, none⟩ = some (encB L[j]!)
theorem or_shift (m y j : Nat) (hm : m < 2 ^ j) (hy : y ≤ 1) (hj : j < 8) : bits BinOp.or IntKind.u8 ((m : Int) * 2 ^ (8 - j)) ((y : Int) * 2 ^ (7 - j) % 256) = (((2 * m + y) * 2 ^ (7 - j) : Nat) : Int) := by
  have e8 : 8 - j = (7 - j) + 1 := by omega
  have h1 : m * 2 ^ (8 - j) < 256 := by
    calc m * 2 ^ (8 - j) < 2 ^ j * 2 ^ (8 - j) := Nat.mul_lt_mul_of_pos_right hm (Nat.two_pow_pos _)
      _ = 256 := by rw [← Nat.pow_add, show j + (8 - j) = 8 by omega]
  have h2 : y * 2 ^ (7 - j) < 2 ^ (8 - j) := by
    have := Nat.two_pow_pos (7 - j)
    rw [e8, Nat.pow_succ]
    calc y * 2 ^ (7 - j) ≤ 1 * 2 ^ (7 - j) := Nat.mul_le_mul_right _ hy
      _ < 2 ^ (7 - j) * 2 := by omega
  have h3 : 2 ^ (8 - j) ≤ 2 ^ 8 := Nat.pow_le_pow_right (by omega) (by omega)
  have h4 : y * 2 ^ (7 - j) < 256 := by have : (2 : Nat) ^ 8 = 256 := rfl; omega
  have e1 : ((m : Int) * 2 ^ (8 - j)) = ((m * 2 ^ (8 - j) : Nat) : Int) := by push_cast; rfl
  have e2 : ((y : Int) * 2 ^ (7 - j) % 256) = ((y * 2 ^ (7 - j) : Nat) : Int) := by
    have e : ((y : Int) * 2 ^ (7 - j)) = ((y * 2 ^ (7 - j) : Nat) : Int) := by push_cast; rfl
    rw [e]; omega
  rw [e1, e2]
  have h := (bits_nat .u8 8 (by decide) (fun n h0 h1 => by have e : (2 : Int) ^ 8 = 256 := by decide
                                                           rw [e] at h1; simp [IntKind.wrap, IntKind.bits, IntKind.signed]; omega) (m * 2 ^ (8 - j)) (y * 2 ^ (7 - j)) (by have : (2 : Nat) ^ 8 = 256 := rfl; omega) (by have : (2 : Nat) ^ 8 = 256 := rfl; omega)).2
  rw [h]
  have h5 := Nat.shiftLeft_add_eq_or_of_lt (i := 8 - j) (b := y * 2 ^ (7 - j)) h2 m
  rw [Nat.shiftLeft_eq] at h5
  rw [← h5, e8, Nat.pow_succ, Nat.add_mul]
  congr 1
  rw [Nat.mul_comm 2 m, Nat.mul_assoc, Nat.mul_comm (2 ^ (7 - j)) 2]
set_option maxRecDepth 100000 in
set_option maxHeartbeats 4000000 in
theorem bytes_c (w : World) (a : Option Addr) (b cap : Nat) (L : List Nat) (hL : L.length ≤ 1000000) (hlc : L.length ≤ cap) (hcap : cap ≤ maxLen) (ha : 0 < L.length → a = some ⟨b, 0, none⟩ ∧ b < w.heap.size ∧ RdB w b L) (hb : ∀ y ∈ L, y ≤ 1) :
    Calls Tryd.prog 30 #[.slice a L.length cap] w fun e W' => ∃ v, e = .returned (.tuple #[v, .int .i64 0]) ∧ W'.ownsRow w.heap.size 5 1 v (parts8 L.length) (rowB (bytesOf L)) ∧ Below w.heap.size w W' := by
  obtain ⟨i0, hi, hi0, hi1, hi2⟩ := info_parts infoB
  have hR : Rd encB w (fun _ => True) (.slice a L.length cap) L := ⟨a, cap, rfl, hlc, hcap, fun h0 => by
    obtain ⟨h1, h2, h3⟩ := ha h0
    exact ⟨⟨b, 0, none⟩, h1, trivial, h2, fun j hj => by have := h3 j hj; simp only [Addr.add]; split <;> simp_all⟩⟩
  have hrc := right_c w (fun _ => True) (.slice a L.length cap) L hR hb
  have hcapx := Lib.hid (And.intro hlc hcap)
  clear hR hlc hcap
  refine (callsIn_wide (n := 6)).1 ?_
  refine callsIn_of_wp_marks Tryd.func30 rfl trivial ?_ rfl
  simp only [Tryd.ntmps30, List.size_toArray, List.length_cons, List.length_nil, Nat.reduceAdd, Nat.reduceSub, Array.replicate_succ, Array.replicate_zero, List.push_toArray, List.append_toArray, List.nil_append, List.cons_append]
  gi_wp2_with (refine ⟨trivial, ?_⟩; gi_at_call 39; refine (callsIn_wide.2 hrc).mono ?_; rintro e w' ⟨rfl, hw'⟩; subst w')
  gi_wp2_with (refine ⟨trivial, ?_⟩; gi_at_call 40; refine (callsIn_wide.2 (chunk_c _ _ _ _)).mono ?_; rintro e w' ⟨rfl, hw'⟩; subst w')
  have bO := Boxed.new w 28 (.slice none 0 0)
  have bS := Boxed.new (w.alloc (.cells #[.slice none 0 0] 28)) 28 (.slice a L.length cap)
  have bN := Boxed.new ((w.alloc (.cells #[.slice none 0 0] 28)).alloc (.cells #[.slice a L.length cap] 28)) 3 (.int .i64 8)
  rw [World.size_alloc] at bS
  rw [World.size_alloc, World.size_alloc] at bN
  have hB0 : Below w.heap.size w (((w.alloc (.cells #[.slice none 0 0] 28)).alloc (.cells #[.slice a L.length cap] 28)).alloc (.cells #[.int .i64 8] 3)) := (((Below.refl _ w).alloc (Nat.le_refl _) _).alloc (by simp) _).alloc (by simp; omega) _
  refine wpIn_rangeFunc_ownG rfl (by omega) (gf := 46) (lb := #[.pointer (some ⟨w.heap.size + 1, 0, none⟩), .pointer (some ⟨w.heap.size + 1 + 1, 0, none⟩)]) rfl trivial (enters_of Tryd.func46 (by kernel_rfl) rfl)
    (chunk_stops 5 (by omega) (w.heap.size + 1) (w.heap.size + 1 + 1) b L.length cap a (fun h => (ha h).1) (by omega) hcapx.out.1 hcapx.out.2 _ (by simp <;> omega) (by simp <;> omega) (bS.alloc _).cell bN.cell) KpC.trans (fun W l o o' hl _ _ _ => KpC.put (by simp <;> omega) (by simp <;> omega) W l o o' hl) (Below.refl _ _) (fun _ => rfl)
    (fun (pre : List { j : Nat // j < parts8 L.length }) W => (∃ v, Boxed W w.heap.size 28 v ∧ W.ownsRow w.heap.size 5 1 v pre.length ((pre.map fun j => byteOf L j.1).map encB) ∧ True) ∧ Below w.heap.size w W ∧ Boxed W (w.heap.size + 1) 28 (.slice a L.length cap) ∧ Boxed W (w.heap.size + 1 + 1) 3 (.int .i64 8))
    (fun _ _ _ => False)
    (OwnFrom.and (Own.from (holdsRow_own w.heap.size w.heap.size 28 5 1 (fun (pre : List { j : Nat // j < parts8 L.length }) => pre.length) (fun (pre : List { j : Nat // j < parts8 L.length }) => (pre.map fun j => byteOf L j.1).map encB) (fun _ _ => True)) _) (OwnFrom.and (ownFrom_below (Nat.le_refl _) (by simp; omega)) (OwnFrom.and (Own.from (boxed_own _ _ fun _ => _) _) (Own.from (boxed_own _ _ fun _ => _) _))))
    (fun _ _ _ _ _ hs _ _ => hs)
    ⟨⟨_, (bO.alloc _).alloc _, World.ownsRow_nil _ _ _ _, trivial⟩, hB0, bS.alloc _, bN⟩
    (fun x => { tmps := #[.slice a L.length cap, undef, .slice none 0 0, .int .i64 0, .pointer (some ⟨w.heap.size, 0, none⟩), part8 b 0 L.length x.1, undef, undef, undef, .slice a L.length cap, .bool true, .bool false, .slice a L.length cap, .func (.func 46) #[] #[.pointer (some ⟨w.heap.size + 1, 0, none⟩), .pointer (some ⟨w.heap.size + 1 + 1, 0, none⟩)], part8 b 0 L.length x.1, undef, undef, undef, undef, undef, undef, undef, undef, undef, undef, undef, undef, undef, undef, undef, undef, undef, undef, undef], defers := [] }) ?assign ?body ?done ?stop
  case assign =>
    intro l x W K hK
    gi_wp2
    exact hK
  case body =>
    rintro l pre x W ⟨⟨v, hv, hrow, _⟩, hB, hBS, hBN⟩ hlt
    have hc := hv.cell
    have hvx := Lib.hid hv
    have hBSx := Lib.hid hBS
    have hBNx := Lib.hid hBN
    have hrx := Lib.hid hrow
    clear hv hrow hBS hBN
    obtain ⟨k, hk⟩ := x
    have hlen0 : 0 < L.length := by unfold parts8 at hk; omega
    obtain ⟨rfl, hbw, hrd⟩ := ha hlen0
    have hcl := chunkOf_length L k
    have hkl : 8 * k < L.length := by unfold parts8 at hk; omega
    have hcb := chunkOf_bit hb k
    have hby : byteOf L k = valOf (chunkOf L k) * 2 ^ (8 - (chunkOf L k).length) := rfl
    have hcells : ∀ j, j < (chunkOf L k).length → W.cell? ⟨b, 8 * k + j, none⟩ = some (encB (chunkOf L k)[j]!) := fun j hj => by
      rw [hB.cell (p := ⟨b, 8 * k + j, none⟩) hbw, hrd (8 * k + j) (by omega), getElem!_pos L (8 * k + j) (by omega), getElem!_pos (chunkOf L k) j hj]
      simp [chunkOf]
    simp only [part8, Nat.zero_add]
    rw [← hcl]
    have hbyx := Lib.hid hby
    have hbit := Lib.hid hb
    clear hby hb hrd ha hcl
    obtain ⟨c, hcc⟩ : ∃ c, c = (chunkOf L k).length := ⟨_, rfl⟩
    have hc1 : 1 ≤ c := by rw [hcc, chunkOf_length]; omega
    have hc8 : c ≤ 8 := by rw [hcc, chunkOf_length]; omega
    generalize chunkOf L k = C at *
    rw [← hcc]
    obtain ⟨q, hq⟩ : ∃ q, q = 8 * k := ⟨_, rfl⟩
    rw [← hq] at hcells ⊢
    have hqx := Lib.hid hq
    have hccx := Lib.hid hcc
    have hkx := Lib.hid (And.intro hk (And.intro hkl hlen0))
    clear hq hkl hlen0
    rw [← hcc] at hcells
    clear hcc
    have hBx := Lib.hid hB
    clear hB
    gi_wp2
    gi_loopw [6, 17] (fun s6 s17 wr => ∃ j : Nat, j ≤ c ∧ s17 = .int .i64 (j : Int) ∧ s6 = .int .u8 ((valOf (C.take j) * 2 ^ (8 - j) : Nat) : Int) ∧ wr = W)
      (fun _ s17 _ => c - (intOf s17).toNat)
    case atStart => exact ⟨0, Nat.zero_le _, rfl, rfl, rfl⟩
    case round =>
      obtain ⟨j, hj, rfl, rfl, hw⟩ := hrel
      subst wr
      by_cases hlt2 : j < c
      · have h1 := hcells j hlt2
        have hy := hcb C[j]! (by rw [getElem!_pos C j (by have := hccx.out; omega)]; exact List.getElem_mem _)
        clear hcells
        have hsn := Lib.hid (take_snoc (l := C) (j := j) (by have := hccx.out; omega))
        have hvl := valOf_lt (C.take j) (fun y hy => hcb y (List.mem_of_mem_take hy))
        rw [List.length_take, Nat.min_eq_left (by have := hccx.out; omega)] at hvl
        generalize C[j]! = y at *
        have hor := or_shift _ y j hvl hy (by omega)
        have e7 : 8 - (j + 1) = 7 - j := by omega
        have e7x := Lib.hid e7
        clear e7
        generalize hme : valOf (C.take j) = m at *
        have hmx := Lib.hid hme
        clear hme
        gi_wp2
        refine ⟨⟨j + 1, by omega, by go_num, ?_, trivial⟩, by simp [intOf]; omega⟩
        rw [hsn.out, valOf_snoc, e7x.out, hmx.out]
        push_cast
        rfl
      · obtain rfl : j = c := by omega
        have hbl := byteOf_lt (L := L) hbit.out k
        have hby2 : byteOf L k = valOf C * 2 ^ (8 - j) := by rw [hbyx.out, hccx.out]
        rw [List.take_of_length_le (by have := hccx.out; omega), ← hby2]
        clear hby2
        have hpl : pre.length ≤ 1000000 := by
          have : parts8 L.length ≤ 1000000 := by unfold parts8; omega
          omega
        gi_wp2_with (gi_at_builtin; refine wpListIn_append_own _ rfl _ _ 28 rfl w.heap.size 5 i0 (.int .u8 0) 1 1 Tryd.underlying28 hi hi0 hi1 hi2 rfl (by decide) _ _ _ rfl (hrx.out.alloc _) ⟨W.heap.size, 0, none⟩ 1 1 [.int .u8 (byteOf L k : Int)] rfl rfl (cell_one_new _ _ _) (by simp [Value.oneCell']) (by unfold maxLen; omega) (by omega) (by have := hBx.out.size; simp; omega) ?_; intro v' w1 hown' hgrow _; obtain ⟨g', cap', rfl⟩ := ownsRow_succ hown'; obtain ⟨hv1, hv2, hr2, hk2, hb2⟩ := hvx.out.appended (by decide) hrx.out hBx.out.size (Nat.le_refl _) hown' hgrow; have hc1 := hv1.cell; have hf1 := hv1.frozen)
        have hbs2 : Boxed (w1.setCell ⟨w.heap.size, 0, none⟩ (.slice (some ⟨g', 0, none⟩) (pre.length + 1) cap')) (w.heap.size + 1) 28 (.slice (some ⟨b, 0, none⟩) L.length cap) := ((hBSx.out.alloc _).kept hgrow (hBSx.out.not_row (by decide) hrx.out)).other (by omega) _
        have hbn2 : Boxed (w1.setCell ⟨w.heap.size, 0, none⟩ (.slice (some ⟨g', 0, none⟩) (pre.length + 1) cap')) (w.heap.size + 1 + 1) 3 (.int .i64 8) := ((hBNx.out.alloc _).kept hgrow (hBNx.out.not_row (by decide) hrx.out)).other (by omega) _
        exact ⟨hk2.from _, ⟨hbs2.trans hBSx.out.symm, hbn2.trans hBNx.out.symm⟩, ⟨⟨_, hv2, by simpa using hr2, trivial⟩, hBx.out.trans hb2, hbs2, hbn2⟩⟩
  case done =>
    rintro D ys W hD rfl ⟨⟨v, hv, hrow, _⟩, hB, _, _⟩ hK
    have hc := hv.cell
    gi_wp2
    refine ⟨by simp, .inl ⟨_, _, rfl, run_takeDeferred hK, ?_⟩⟩
    have hDB : w.heap.size ≤ D := by simp at hD; omega
    have e : (upto (parts8 L.length) (parts8 L.length) (Nat.le_refl _)).map (fun j => byteOf L j.1) = bytesOf L := by
      apply List.ext_getElem
      · simp [bytesOf, upto_length]
      · intro i h1 h2
        simp only [List.getElem_map, bytesOf, List.getElem_range]
        rw [upto_getElem]
    rw [upto_length, e] at hrow
    exact ⟨.tuple #[v, .int .i64 0], by simp [results, Tryd.f30, go_sem], v, rfl, ownsRow_putObj hrow _ hK rfl, hB.trans (belowK_b (w := w) (Nat.le_refl _) W D _ _ hDB hK rfl rfl)⟩
  case stop =>
    rintro D c pre W _ _ h _
    exact h.elim
#print axioms bytes_c
end Go.Proofs.YtkmknpobinpegaaDoor
