/- slices.Chunk of a list of bits by eight: what comes of it. -/
import Derived.Test.YtkmknpobinpegaaDoorBitsOf
import Derived.RangeFuncBox
import Derived.RangeFuncNested
import Derived.RangeFuncBound
import Derived.RangeFuncCalls
import Derived.RangeFuncLeaves
import Derived.Shelf.Abstract
import Derived.Shelf.RegionOpen
import Derived.WalkKit
import Derived.OwnWalkIn
import Derived.TacticsInMore
import Derived.LoopNIn
import Derived.LoopIn
import Derived.Sort.BigQuietIn
namespace Go.Proofs.YtkmknpobinpegaaDoor
open Go Go.RowKit Go.Maps Go.Sort Go.Lib Go.Shelf
set_option linter.unusedSimpArgs false
set_option linter.unusedVariables false
attribute [local go_sem] Oper.semAt_some

/-- The number of parts of eight. -/
def parts8 (len : Nat) : Nat := (len + 7) / 8
/-- The k-th part of a row that begins at offset off of block b. -/
def part8 (b off len : Nat) (k : Nat) : Value := .slice (some ⟨b, off + 8 * k, none⟩) (min 8 (len - 8 * k)) (min 8 (len - 8 * k))
def upto (m : Nat) (k : Nat) (hk : k ≤ m) : List { j : Nat // j < m } := (List.range k).attach.map fun j => ⟨j.1, by have := List.mem_range.1 j.2; omega⟩
theorem upto_length {m k : Nat} (hk : k ≤ m) : (upto m k hk).length = k := by simp [upto]
theorem upto_getElem {m k : Nat} (hk : k ≤ m) (i : Nat) (h : i < (upto m k hk).length) : ((upto m k hk)[i]).1 = i := by simp [upto]
theorem upto_succ {m k : Nat} (hk : k + 1 ≤ m) : upto m (k + 1) hk = upto m k (by omega) ++ [⟨k, by omega⟩] := by
  apply List.ext_getElem
  · simp [upto]
  · intro i h1 h2
    apply Subtype.ext
    rw [upto_getElem]
    rw [List.getElem_append]
    split
    · rw [upto_getElem]
    · rename_i h3
      rw [upto_length] at h3
      simp only [List.length_append, upto_length, List.length_singleton] at h2
      simp; omega
/-- What a round must keep: the two boxes of the iterator. -/
def KpC (Bs Bn : Nat) (W W' : World) : Prop := W'.heap[Bs]? = W.heap[Bs]? ∧ W'.heap[Bn]? = W.heap[Bn]?
theorem KpC.trans {Bs Bn : Nat} {A B C : World} (h : KpC Bs Bn A B) (k : KpC Bs Bn B C) : KpC Bs Bn A C := ⟨k.1.trans h.1, k.2.trans h.2⟩
theorem KpC.put {Bs Bn : Nat} {w : World} (h1 : Bs < w.heap.size) (h2 : Bn < w.heap.size) (W : World) (l : Nat) (o o' : Obj) (hl : w.heap.size ≤ l) : KpC Bs Bn W (W.putObj l o') :=
  ⟨World.putObj_heap_other (by omega), World.putObj_heap_other (by omega)⟩
theorem chunk_c (w : World) (a : Option Addr) (len cap : Nat) :
    Calls Tryd.prog 40 #[.slice a len cap, .int .i64 8] w fun e w' =>
      e = .returned (.func (.func 46) #[] #[.pointer (some ⟨w.heap.size, 0, none⟩), .pointer (some ⟨w.heap.size + 1, 0, none⟩)]) ∧ w' = (w.alloc (.cells #[.slice a len cap] 28)).alloc (.cells #[.int .i64 8] 3) := by
  go_enter Tryd.func40, Tryd.ntmps40
  go_wp2
  go_ret
  exact ⟨rfl, rfl⟩
set_option maxRecDepth 100000 in
set_option maxHeartbeats 2000000 in
theorem chunk1_in (n : Nat) (hn : 1 ≤ n) (l Bs Bn b off len cap : Nat) (hlen : len ≤ 1000000000) (hlc : len ≤ cap) (hcap : cap ≤ maxLen) (J Jx : List { j : Nat // j < parts8 len } → World → Prop) (B : Nat) (hJ : AbidesFrom B J)
    (hY : ∀ pre x W, J pre W → pre.length < parts8 len → YieldAt Fence.wide (n - 1) Tryd.prog l #[part8 b off len x.1] W fun e W' =>
      (e = .returned (.bool true) ∧ J (pre ++ [x]) W' ∧ KpC Bs Bn W W') ∨ (e = .returned (.bool false) ∧ Jx (pre ++ [x]) W'))
    (W : World) (hcs : W.cell? ⟨Bs, 0, none⟩ = some (.slice (some ⟨b, off, none⟩) len cap)) (hcn : W.cell? ⟨Bn, 0, none⟩ = some (.int .i64 8)) (h0 : J [] W) :
    CallsIn Fence.wide n Tryd.prog 46 #[.func (.yield l) #[] #[], .pointer (some ⟨Bs, 0, none⟩), .pointer (some ⟨Bn, 0, none⟩)] W fun e W' => (∃ v, e = .returned v) ∧
      ((∃ ys, ys = upto (parts8 len) (parts8 len) (Nat.le_refl _) ∧ J ys W') ∨ (∃ pre, True ∧ Jx pre W')) := by
  unfold maxLen at hcap
  refine callsIn_of_wp Tryd.func46 rfl trivial ?_ rfl
  simp only [Tryd.ntmps46, List.size_toArray, List.length_cons, List.length_nil, Nat.reduceAdd, Nat.reduceSub, Array.replicate_succ, Array.replicate_zero, List.push_toArray, List.append_toArray, List.nil_append, List.cons_append]
  gi_wp2
  gi_loopw [4] (fun i wr => ∃ (k m : Nat) (hk : k ≤ parts8 len), m = 8 * k ∧ i = .int .i64 (m : Int) ∧ J (upto (parts8 len) k hk) wr ∧ KpC Bs Bn W wr)
    (fun i _ => len + 8 - (intOf i).toNat)
  case atStart => exact ⟨0, 0, Nat.zero_le _, rfl, rfl, h0, rfl, rfl⟩
  case round =>
    obtain ⟨k, m, hk, hm, rfl, hJs, hnx⟩ := hrel
    have hcs' := (World.cell?_of_block (w := W) (a := ⟨Bs, 0, none⟩) hnx.1).trans hcs
    have hcn' := (World.cell?_of_block (w := W) (a := ⟨Bn, 0, none⟩) hnx.2).trans hcn
    by_cases hlt : m < len
    · have hkm : k < parts8 len := by unfold parts8; omega
      have hJk : ∀ nq : Nat, J (upto (parts8 len) k hk) (wr.drewN nq) := fun nq => hJ _ _ (wr.drewN nq) none hJs ⟨rfl, rfl, rfl, Nat.le_refl _, fun _ _ _ => rfl⟩ (fun r e => by cases e)
      have hYk := fun (nq : Nat) => hY _ ⟨k, hkm⟩ (wr.drewN nq) (hJk nq) (by rw [upto_length]; exact hkm)
      dsimp only [part8] at hYk
      rw [← hm] at hYk
      have h1 : (m : Int) < (len : Int) := by omega
      have h2 : (m : Int) < (cap : Int) := by omega
      have h3 : (m : Int) ≤ (len : Int) := by omega
      have h4 : ((cap : Int) = (m : Int)) = False := by simp; omega
      have h5 : (cap = m) = False := by simp; omega
      have hm' := Lib.hid hm
      have hYk' := Lib.hid hYk
      clear hm hYk hJk
      gi_wp2
      gi_quiet_th (fail)
      have hYq := hYk'.out nq
      have hcs2 : (wr.drewN nq).cell? ⟨Bs, 0, none⟩ = some (.slice (some ⟨b, off, none⟩) len cap) := hcs'
      have hcn2 : (wr.drewN nq).cell? ⟨Bn, 0, none⟩ = some (.int .i64 8) := hcn'
      obtain ⟨c, hc⟩ : ∃ c, c = min 8 (len - m) := ⟨_, rfl⟩
      have e1 : (min 8 ((len - m : Nat) : Int)) = (c : Int) := by omega
      rw [e1]
      rw [← hc] at hYq
      clear e1 hYk'
      have hc0 : 1 ≤ c := by omega
      have hc8 : c ≤ 8 := by omega
      have hcl : m + c ≤ len := by omega
      have hc' := Lib.hid hc
      clear hc
      obtain ⟨fn, tmps, assign, body, hy, hR⟩ := hYq
      have hnx2 : KpC Bs Bn W (wr.drewN nq) := hnx
      clear hJs hnx hcs' hcn'
      generalize wr.drewN nq = w2 at *
      have e2 : m + c - m = c := by omega
      have i1 : (m : Int) + (c : Int) ≤ (cap : Int) := by omega
      gi_wp2
      refine hR.mono ?_
      rintro e W3 (⟨rfl, hJ3, hk3⟩ | ⟨rfl, hJx3⟩)
      · have hcn3 := (World.cell?_of_block (w := w2) (a := ⟨Bn, 0, none⟩) hk3.2).trans hcn2
        gi_wp2
        go_roundw
        case rel => exact ⟨k + 1, m + 8, by omega, by have := hm'.out; omega, by go_num, by rw [upto_succ]; exact hJ3, hnx2.trans hk3⟩
        case measure => simp [intOf]; omega
      · gi_wp2
        refine bodyPost_ret (results_none rfl _ _ _) rfl ?_
        exact ⟨⟨_, rfl⟩, .inr ⟨_, trivial, hJx3⟩⟩
    · have hkm : k = parts8 len := by unfold parts8 at *; omega
      subst hkm
      clear hm
      gi_wp2
      go_end0
      exact ⟨⟨_, rfl⟩, .inl ⟨_, rfl, hJs⟩⟩
end Go.Proofs.YtkmknpobinpegaaDoor
