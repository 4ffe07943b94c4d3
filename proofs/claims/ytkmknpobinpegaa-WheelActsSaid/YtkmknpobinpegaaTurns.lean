/- The wheel's laws' own first look (turns), and what a slice of integers that came in tells. -/
import Derived.Test.YtkmknpobinpegaaWheelSmall
import Derived.Test.YtkmknpobinpegaaWheelSet
import Derived.Test.YtkmknpobinpegaaWheelTick
namespace Go.Proofs.Ytkmknpobinpegaa
set_option linter.unusedSimpArgs false
set_option linter.unusedVariables false
open Go Go.RowKit Go.Maps Go.Sort Go.Lib Go.Shelf

def InRow (k : IntKind) (w : World) (a : Option Addr) (len cap : Nat) (zs : List Int) : Prop :=
  (a = none ∧ len = 0 ∧ cap = 0 ∧ zs = []) ∨
  ∃ x, a = some x ∧ len ≤ cap ∧ cap ≤ maxLen ∧ zs.length = cap ∧ (∀ i, i < zs.length → w.cell? (x.add i) = some (.int k (zs.getD i 0))) ∧ ∀ n ∈ zs, (Lit.int k n).wf = true
theorem InRow.le {k : IntKind} {w : World} {a : Option Addr} {len cap : Nat} {zs : List Int} (h : InRow k w a len cap zs) : len ≤ maxLen := by
  rcases h with ⟨_, rfl, _⟩ | ⟨x, _, h1, h2, _⟩
  · exact Nat.zero_le _
  · exact Nat.le_trans h1 h2
theorem InRow.get {k : IntKind} {w w' : World} {a : Option Addr} {len cap : Nat} {zs : List Int} (h : InRow k w a len cap zs) (hb : Below w.heap.size w w') {i : Nat} (hi : i < len) :
    ∃ x n, a = some x ∧ w'.cell? (x.add i) = some (.int k n) ∧ (Lit.int k n).wf = true ∧ n = zs.getD i 0 := by
  rcases h with ⟨_, rfl, _⟩ | ⟨x, rfl, h1, h2, h3, h4, h5⟩
  · omega
  · have h6 := h4 i (by omega)
    refine ⟨x, _, rfl, ?_, h5 (zs.getD i 0) ?_, rfl⟩
    · rw [hb.cell (p := x.add i) (World.block_lt_of_cell? w _ h6)]; exact h6
    · rw [List.getD_eq_getElem?_getD, List.getElem?_eq_getElem (by omega)]; exact List.getElem_mem _

theorem below_drewN {B : Nat} {a w : World} (h : Below B a w) (n : Nat) : Below B a (w.drewN n) := ⟨h.os, h.tape, h.output, h.size, h.block⟩
/-- A number of any size, brought to 1..m. -/
theorem within (n : Int) (m : Nat) (h0 : 1 ≤ m) (h1 : m ≤ 2147483647) : ∃ d : Nat, 1 ≤ d ∧ d ≤ m ∧ wrap64 (1 + wrap64 ((IntKind.u64.wrap n).tmod (m : Int))) = (d : Int) := by
  rw [IntKind.wrap_u64]
  rw [Int.tmod_eq_emod_of_nonneg (by omega)]
  generalize hq : n % 18446744073709551616 = q
  have h2 : 0 ≤ q % (m : Int) := Int.emod_nonneg _ (by omega)
  have h3 : q % (m : Int) < m := Int.emod_lt_of_pos _ (by omega)
  generalize q % (m : Int) = r at h2 h3
  refine ⟨1 + r.toNat, by omega, by omega, ?_⟩
  unfold wrap64
  omega

theorem strict_nil {l : List Nat} (h : ∀ a, a ∈ l ↔ False) : l = [] := List.eq_nil_iff_forall_not_mem.2 fun a => (h a).1
theorem strict_one {l : List Nat} {x : Nat} (hs : l.Pairwise (· < ·)) (h : ∀ a, a ∈ l ↔ a = x) : l = [x] := by
  match l, hs, h with
  | [], _, h => exact absurd ((h x).2 rfl) (by simp)
  | [y], _, h => rw [(h y).1 (by simp)]
  | y :: z :: r, hs, h =>
    have h1 := (h y).1 (by simp)
    have h2 := (h z).1 (by simp)
    rw [List.pairwise_cons] at hs
    have := hs.1 z (by simp)
    omega
theorem dropL_single (a t : Nat) : dropL [(a, t)] a = [] := by simp [dropL]
/-- A row of no elements, and of one. -/
theorem rowAt_nil {w : World} {B : Nat} {v : Value} (h : RowAt w B v []) : ∃ a c, v = .slice a 0 c := by
  obtain ⟨_, a, c, rfl, _⟩ := ownsRow_open (enc := encA) (zs := []) h
  exact ⟨a, c, rfl⟩
theorem rowAt_one {w : World} {B : Nat} {v : Value} {x : Nat} (h : RowAt w B v [x]) : ∃ g c, v = .slice (some ⟨g, 0, none⟩) 1 c ∧ 1 ≤ c ∧ B ≤ g ∧ g < w.heap.size ∧ v.ownBlock = some g ∧ w.cell? ⟨g, 0, none⟩ = some (.int .u16 (x : Int)) := by
  obtain ⟨_, a, c, rfl, hc, _, hp⟩ := ownsRow_open (enc := encA) (zs := [x]) h
  obtain ⟨g, rfl, hb, hg, ho, hH⟩ := hp (by simp)
  refine ⟨g, c, rfl, hc, hb, hg, ho, ?_⟩
  simpa [encA] using (hH 0 (by simp)).1

theorem made_c (w : World) : Calls Try.prog 6 #[] w fun e w' => ∃ S b, e = .returned (.pointer (some ⟨b, 0, none⟩)) ∧ WheelAt w' S b 0 [] ∧ (∀ k, S k → w.heap.size ≤ k) ∧ Below w.heap.size w w' :=
  (new_c w).mono fun e w' ⟨he, h1, h2⟩ => ⟨_, _, he, h1, by rintro k (rfl | rfl) <;> omega, h2⟩

theorem turns_c (w : World) : Calls Try.prog 7 #[] w fun e w' => e = .returned (.bool true) ∧ Below w.heap.size w w' := by
  go_enter Try.func7, Try.ntmps7
  go_wp2_with fail
  refine (made_c w).mono ?_
  rintro e w1 ⟨S1, b, rfl, hW1, hS1, hB1⟩
  have hlt := hB1.size
  go_wp2_with fail
  refine (set_c w1 _ b 0 [] 7 2 hW1 (by omega) (by omega) (by omega) (by omega) (by simp)).mono ?_
  rintro e w2 ⟨rfl, S2, hW2, hF2, hS2⟩
  have hW2 : WheelAt w2 S2 b 0 [(7, 2)] := hW2
  have hB2 := hB1.trans (hF2.below (B := w.heap.size) (fun k hk => hS1 k hk) hlt)
  have hS2' : ∀ k, S2 k → w.heap.size ≤ k := fun k hk => by rcases hS2 k hk with h | h; exact hS1 k h; omega
  go_wp2_with fail
  refine (tick_c w2 S2 b 0 _ hW2 (by omega) (by simp)).mono ?_
  rintro e w3 ⟨v3, l3, S3, rfl, hW3, hF3, hS3, hR3, hO3, hs3, hm3⟩
  obtain rfl := strict_nil (l := l3) (fun a => (hm3 a).trans (by simp))
  have hW3 : WheelAt w3 S3 b 1 [(7, 2)] := hW3
  obtain ⟨a3, c3, rfl⟩ := rowAt_nil hR3
  have hz2 := hB2.size
  have hB3 := hB2.trans (hF3.below (B := w.heap.size) hS2' hz2)
  have hS3' : ∀ k, S3 k → w.heap.size ≤ k := fun k hk => by rcases hS3 k hk with h | h; exact hS2' k h; omega
  go_wp2_with fail
  refine (tick_c w3 S3 b 1 _ hW3 (by omega) (by simp)).mono ?_
  rintro e w4 ⟨v4, l4, S4, rfl, hW4, hF4, hS4, hR4, hO4, hs4, hm4⟩
  obtain rfl := strict_one (x := 7) hs4 (fun a => (hm4 a).trans (by simp))
  have hW4 : WheelAt w4 S4 b 2 [] := hW4
  obtain ⟨g4, c4, rfl, hc4, _, _, _, hcell⟩ := rowAt_one hR4
  have hz3 := hB3.size
  have hB4 := hB3.trans (hF4.below (B := w.heap.size) hS3' hz3)
  clear hS1 hS2 hS3 hS4 hm3 hm4 hs3 hs4 hO3 hO4 hR3 hR4 hF2 hF3 hF4 hB1 hB2 hB3 hW1 hW2 hW3 hS2' hS3'
  go_wp2_with fail
  refine (now_c w4 S4 b 2 _ hW4).mono ?_
  rintro e w5 ⟨rfl, rfl⟩
  go_wp2
  go_ret
  exact ⟨rfl, hB4⟩
#print axioms turns_c
end Go.Proofs.Ytkmknpobinpegaa
