/- The plain law of scripts: what is written is read; what is cut is short; what has more behind it has a tail. -/
import Derived.Test.YtkmknpobinpegaaDoorRefWrite
import Derived.Test.YtkmknpobinpegaaDoorScrRead2
namespace Go.Proofs.YtkmknpobinpegaaDoor
open Go Go.RowKit Go.Maps Go.Sort Go.Lib
set_option linter.unusedSimpArgs false
set_option linter.unusedVariables false

theorem bitsOf_succ (n w : Nat) : bitsOf n (w + 1) = bitsOf (n / 2) w ++ [n % 2] := by
  unfold bitsOf
  rw [List.range_succ, List.map_append]
  congr 1
  · apply List.map_congr_left
    intro j hj
    have hj := List.mem_range.1 hj
    rw [Nat.div_div_eq_div_mul, show w + 1 - 1 - j = (w - 1 - j) + 1 by omega, Nat.pow_succ, Nat.mul_comm]
  · simp
theorem valOf_bitsOf (w : Nat) : ∀ n, n < 2 ^ w → valOf (bitsOf n w) = n := by
  induction w with
  | zero => intro n h; have : n = 0 := by simpa using h
            subst this; rfl
  | succ w ih =>
    intro n h
    rw [bitsOf_succ, valOf_snoc, ih (n / 2) (by rw [Nat.pow_succ] at h; omega)]
    omega
theorem bitsOf_zero (k : Nat) : bitsOf 0 k = List.replicate k 0 := by
  induction k with
  | zero => rfl
  | succ k ih => rw [bitsOf_succ]; simp only [Nat.zero_div, Nat.zero_mod]; rw [ih, List.replicate_succ']
theorem bitsOf_shift (w k n : Nat) : bitsOf (n * 2 ^ k) (w + k) = bitsOf n w ++ List.replicate k 0 := by
  induction k generalizing n with
  | zero => simp
  | succ k ih =>
    rw [← Nat.add_assoc, bitsOf_succ, Nat.pow_succ, ← Nat.mul_assoc, Nat.mul_div_cancel _ (by omega : 0 < 2), Nat.mul_mod_left, ih, List.append_assoc, ← List.replicate_succ']
theorem snoc_ind {α : Type} {P : List α → Prop} (h0 : P []) (h1 : ∀ l a, P l → P (l ++ [a])) : ∀ l, P l := by
  intro l
  have : ∀ r : List α, P r.reverse := by
    intro r
    induction r with
    | nil => exact h0
    | cons a r ih => rw [List.reverse_cons]; exact h1 _ _ ih
  have h := this l.reverse
  rwa [List.reverse_reverse] at h
theorem bitsOf_valOf (l : List Nat) : (∀ y ∈ l, y ≤ 1) → bitsOf (valOf l) l.length = l := by
  refine snoc_ind (P := fun l => (∀ y ∈ l, y ≤ 1) → bitsOf (valOf l) l.length = l) (fun _ => rfl) (fun l a ih h => ?_) l
  have ha : a ≤ 1 := h a (by simp)
  rw [List.length_append, List.length_singleton, bitsOf_succ, valOf_snoc, show (2 * valOf l + a) / 2 = valOf l by omega, show (2 * valOf l + a) % 2 = a by omega, ih (fun y hy => h y (by simp [hy]))]
theorem bits_byteOf {L : List Nat} (h : ∀ y ∈ L, y ≤ 1) (k : Nat) : bitsOf (byteOf L k) 8 = chunkOf L k ++ List.replicate (8 - (chunkOf L k).length) 0 := by
  have hl : (chunkOf L k).length ≤ 8 := by rw [chunkOf_length]; omega
  unfold byteOf
  have e := bitsOf_shift (chunkOf L k).length (8 - (chunkOf L k).length) (valOf (chunkOf L k))
  rw [show (chunkOf L k).length + (8 - (chunkOf L k).length) = 8 by omega] at e
  rw [e, bitsOf_valOf _ (chunkOf_bit h k)]
theorem unbits_upto {L : List Nat} (h : ∀ y ∈ L, y ≤ 1) : ∀ k, k ≤ parts8 L.length → unbits ((List.range k).map (byteOf L)) = L.take (8 * k) ++ List.replicate (8 * k - L.length) 0 := by
  intro k
  induction k with
  | zero => intro _; simp [unbits]
  | succ k ih =>
    intro hk
    have h8 : 8 * k < L.length := by unfold parts8 at hk; omega
    rw [List.range_succ, List.map_append, List.map_singleton, unbits_snoc, ih (by omega), bits_byteOf h, show 8 * k - L.length = 0 by omega, List.replicate_zero, List.append_nil, chunkOf_length]
    rw [← List.append_assoc]
    congr 1
    · unfold chunkOf
      rw [show 8 * (k + 1) = 8 * k + 8 by omega, List.take_add]
    · congr 1; omega
theorem unbits_bytesOf {L : List Nat} (h : ∀ y ∈ L, y ≤ 1) : unbits (bytesOf L) = L ++ List.replicate (8 * parts8 L.length - L.length) 0 := by
  unfold bytesOf
  rw [unbits_upto h _ (Nat.le_refl _), List.take_of_length_le (by unfold parts8; omega)]
theorem bytesOf_length (L : List Nat) : (bytesOf L).length = parts8 L.length := by simp [bytesOf]
theorem unbits_cut {L : List Nat} (h : ∀ y ∈ L, y ≤ 1) {n : Nat} (hn : n < parts8 L.length) : unbits ((bytesOf L).take n) = L.take (8 * n) := by
  unfold bytesOf
  rw [← List.map_take, List.take_range, show min n (parts8 L.length) = n by omega, unbits_upto h n (by omega), show 8 * n - L.length = 0 by (unfold parts8 at hn; omega)]
  simp

/- Exact reading. -/
theorem takeN_ok {n w : Nat} (r : List Nat) (h : n < 2 ^ w) : takeN (.ok (bitsOf n w ++ r)) w = n := by
  show (if (bitsOf n w ++ r).length < w then 0 else valOf ((bitsOf n w ++ r).take w)) = n
  rw [if_neg (by simp [bitsOf_length]), List.take_append_of_le_length (by simp [bitsOf_length]), List.take_of_length_le (by simp [bitsOf_length]), valOf_bitsOf w n h]
theorem takeS_ok (n w : Nat) (r : List Nat) : takeS (.ok (bitsOf n w ++ r)) w = .ok r := by
  show (if (bitsOf n w ++ r).length < w then RSt.bad 2 else RSt.ok ((bitsOf n w ++ r).drop w)) = .ok r
  rw [if_neg (by simp [bitsOf_length])]
  congr 1
  rw [List.drop_append_of_le_length (by simp [bitsOf_length]), List.drop_of_length_le (by simp [bitsOf_length])]; rfl
def manyB (w : Nat) (l : List Nat) : List Nat := l.flatMap fun y => bitsOf y w
theorem manyB_snoc (w : Nat) (l : List Nat) (a : Nat) : manyB w (l ++ [a]) = manyB w l ++ bitsOf a w := by simp [manyB]
theorem takeMany_ok (w : Nat) (l : List Nat) : ∀ r, (∀ y ∈ l, y < 2 ^ w) → takeMany w l.length (.ok (manyB w l ++ r)) = (l, .ok r) := by
  refine snoc_ind (P := fun l => ∀ r, (∀ y ∈ l, y < 2 ^ w) → takeMany w l.length (.ok (manyB w l ++ r)) = (l, .ok r)) (fun r _ => rfl) (fun l a ih r h => ?_) l
  rw [List.length_append, List.length_singleton, manyB_snoc, List.append_assoc]
  show (_, _) = _
  rw [ih (bitsOf a w ++ r) (fun y hy => h y (by simp [hy]))]
  simp only
  rw [takeN_ok r (h a (by simp)), takeS_ok]
/-- A step whose numbers go in. -/
structure Fit (x : Stp) : Prop where
  k1 : 0 ≤ x.kind ∧ x.kind < 256
  k2 : 0 ≤ x.k ∧ x.k < 65536
  lb : x.bytes.length ≤ 255
  la : x.at_.length ≤ 255
  b : ∀ y ∈ x.bytes, y < 256
  a : ∀ y ∈ x.at_, 0 ≤ y ∧ y < 65536
theorem fit_of {x : Stp} (h1 : stepOkB x = true) (h2 : ∀ p ∈ stepN x, fits p) : Fit x := by
  unfold stepOkB at h1
  simp only [Bool.and_eq_true, decide_eq_true_eq] at h1
  have hk := h2 (x.kind, 8) (by simp [stepN])
  have hk2 := h2 (x.k, 16) (by simp [stepN])
  refine ⟨by simpa [fits] using hk, by simpa [fits] using hk2, h1.1, h1.2, fun y hy => ?_, fun y hy => ?_⟩
  · have := h2 ((y : Int), 8) (by simp only [stepN, bytesN, List.mem_append, List.mem_map]; exact .inl (.inl (.inr ⟨y, hy, rfl⟩)))
    unfold fits at this
    simp only at this
    omega
  · have := h2 (y, 16) (by simp only [stepN, atN, List.mem_append, List.mem_map]; exact .inr ⟨y, hy, rfl⟩)
    unfold fits at this
    simp only at this
    omega
def stepB (x : Stp) : List Nat := bitsOf x.kind.toNat 8 ++ (bitsOf x.k.toNat 16 ++ (bitsOf x.bytes.length 8 ++ (manyB 8 x.bytes ++ (bitsOf x.at_.length 8 ++ manyB 16 (x.at_.map Int.toNat)))))
theorem bitsAll_append (l r : NL) : bitsAll (l ++ r) = bitsAll l ++ bitsAll r := by simp [bitsAll]
theorem stepB_eq (x : Stp) : bitsAll (stepN x) = stepB x := by
  have e1 : bitsAll (bytesN x.bytes) = manyB 8 x.bytes := by simp [bitsAll, bytesN, manyB, List.flatMap_map]
  have e2 : bitsAll (atN x.at_) = manyB 16 (x.at_.map Int.toNat) := by simp [bitsAll, atN, manyB, List.flatMap_map]
  unfold stepN stepB
  rw [bitsAll_append, bitsAll_append, bitsAll_append, e1, e2]
  simp [bitsAll]
theorem rB_ok {x : Stp} (h : Fit x) (r : List Nat) : rB (.ok (stepB x ++ r)) = (x.bytes, .ok (bitsOf x.at_.length 8 ++ (manyB 16 (x.at_.map Int.toNat) ++ r))) ∧ takeN (.ok (stepB x ++ r)) 8 = x.kind.toNat ∧ takeN (takeS (.ok (stepB x ++ r)) 8) 16 = x.k.toNat := by
  have h1 := h.k1; have h2 := h.k2; have h3 := h.lb
  unfold stepB rB rM rS3
  simp only [List.append_assoc]
  rw [takeS_ok, takeS_ok, takeN_ok _ (by omega), takeS_ok]
  refine ⟨takeMany_ok 8 x.bytes _ (fun y hy => by have := h.b y hy; omega), takeN_ok _ (by omega), takeN_ok _ (by omega)⟩
theorem rA_ok {x : Stp} (h : Fit x) (r : List Nat) : rA (.ok (stepB x ++ r)) = (x.at_.map Int.toNat, .ok r) := by
  have h4 := h.la
  unfold rA
  rw [(rB_ok h r).1]
  simp only
  rw [takeN_ok _ (by omega), takeS_ok]
  have := takeMany_ok 16 (x.at_.map Int.toNat) r (fun y hy => by
    obtain ⟨z, hz, rfl⟩ := List.mem_map.1 hy
    have := h.a z hz; omega)
  rwa [List.length_map] at this
theorem stepOf_ok {x : Stp} (h : Fit x) (r : List Nat) : stepOf (.ok (stepB x ++ r)) = x := by
  have h1 := h.k1; have h2 := h.k2
  unfold stepOf
  rw [(rB_ok h r).2.1, (rB_ok h r).2.2, (rB_ok h r).1, rA_ok h r]
  obtain ⟨k1, k2, b, a⟩ := x
  have ea : (a.map Int.toNat).map (fun (n : Nat) => (n : Int)) = a := by
    rw [List.map_map]
    conv => rhs; rw [← List.map_id a]
    apply List.map_congr_left
    intro y hy
    have := h.a y hy
    simp only [Function.comp, id]; omega
  simp only at h1 h2 ea ⊢
  rw [ea, Int.toNat_of_nonneg h1.1, Int.toNat_of_nonneg h2.1]
def stepsB (xs : List Stp) : List Nat := xs.flatMap stepB
theorem stepsB_eq (xs : List Stp) : bitsAll (stepsN xs) = stepsB xs := by
  induction xs with
  | nil => rfl
  | cons x r ih => show bitsAll (stepN x ++ stepsN r) = stepB x ++ stepsB r; rw [bitsAll_append, stepB_eq, ih]
theorem stepsB_snoc (l : List Stp) (a : Stp) : stepsB (l ++ [a]) = stepsB l ++ stepB a := by simp [stepsB]
theorem stepsR_ok (xs : List Stp) : ∀ r, (∀ x ∈ xs, Fit x) → stepsR (.ok (stepsB xs ++ r)) xs.length = (xs, .ok r) := by
  refine snoc_ind (P := fun xs => ∀ r, (∀ x ∈ xs, Fit x) → stepsR (.ok (stepsB xs ++ r)) xs.length = (xs, .ok r)) (fun r _ => rfl) (fun l a ih r h => ?_) xs
  rw [List.length_append, List.length_singleton, stepsB_snoc, List.append_assoc]
  show (_, _) = _
  rw [ih (stepB a ++ r) (fun y hy => h y (by simp [hy]))]
  simp only
  rw [stepOf_ok (h a (by simp)), rA_ok (h a (by simp))]
/-- A config whose numbers go in. -/
structure FitC (c : Cfg) : Prop where
  k1 : 0 ≤ c.size ∧ c.size < 256
  k2 : 0 ≤ c.queue ∧ c.queue < 256
  k3 : 0 ≤ c.pool ∧ c.pool < 256
  k4 : 0 ≤ c.first ∧ c.first < 65536
  k5 : 0 ≤ c.age ∧ c.age < 65536
def allB (c : Cfg) (xs : List Stp) : List Nat := bitsOf c.size.toNat 8 ++ (bitsOf c.queue.toNat 8 ++ (bitsOf c.pool.toNat 8 ++ (bitsOf c.first.toNat 16 ++ (bitsOf c.age.toNat 16 ++ (bitsOf xs.length 16 ++ stepsB xs)))))
theorem allB_eq (c : Cfg) (xs : List Stp) : bitsAll (numsN c xs) = allB c xs := by
  unfold numsN allB
  rw [bitsAll_append, stepsB_eq]
  simp [hdrN, bitsAll]
/-- What is written is allB, of what fits. -/
theorem writeS_some {c : Cfg} {xs : List Stp} {L : List Nat} (h : writeS c xs = some L) : L = allB c xs ∧ FitC c ∧ (∀ x ∈ xs, Fit x) ∧ xs.length ≤ 2000 := by
  rw [writeS_putAll] at h
  split at h
  · next h1 =>
    rw [putAll_some] at h
    split at h
    · next h2 =>
      injection h with h
      rw [List.nil_append, allB_eq] at h
      have g : ∀ n w, (n, w) ∈ hdrN c xs.length → fits (n, w) := fun n w hm => h2 (n, w) (by unfold numsN; exact List.mem_append_left _ hm)
      have g1 := g c.size 8 (by simp [hdrN])
      have g2 := g c.queue 8 (by simp [hdrN])
      have g3 := g c.pool 8 (by simp [hdrN])
      have g4 := g c.first 16 (by simp [hdrN])
      have g5 := g c.age 16 (by simp [hdrN])
      unfold fits at g1 g2 g3 g4 g5
      refine ⟨h.symm, ⟨by simpa using g1, by simpa using g2, by simpa using g3, by simpa using g4, by simpa using g5⟩, fun x hx => fit_of (List.all_eq_true.1 h1.2 x hx) (fun p hp => h2 p ?_), h1.1⟩
      unfold numsN stepsN
      exact List.mem_append_right _ (List.mem_flatMap.2 ⟨x, hx, hp⟩)
    · exact absurd h (by simp)
  · exact absurd h (by simp)
theorem readR_ok {c : Cfg} {xs : List Stp} (hc : FitC c) (hx : ∀ x ∈ xs, Fit x) (hn : xs.length ≤ 2000) (r : List Nat) : readR (allB c xs ++ r) = if padN r = 0 then .ok c xs else .bad (padN r) := by
  obtain ⟨g1, g2, g3, g4, g5⟩ := hc
  have e1 : kS1 (.ok (allB c xs ++ r)) = .ok ((bitsOf c.queue.toNat 8 ++ (bitsOf c.pool.toNat 8 ++ (bitsOf c.first.toNat 16 ++ (bitsOf c.age.toNat 16 ++ (bitsOf xs.length 16 ++ (stepsB xs)))))) ++ r) := by unfold kS1 allB; rw [List.append_assoc]; exact takeS_ok _ _ _
  have e2 : kS2 (.ok (allB c xs ++ r)) = .ok ((bitsOf c.pool.toNat 8 ++ (bitsOf c.first.toNat 16 ++ (bitsOf c.age.toNat 16 ++ (bitsOf xs.length 16 ++ (stepsB xs))))) ++ r) := by unfold kS2; rw [e1, List.append_assoc]; exact takeS_ok _ _ _
  have e3 : kS3 (.ok (allB c xs ++ r)) = .ok ((bitsOf c.first.toNat 16 ++ (bitsOf c.age.toNat 16 ++ (bitsOf xs.length 16 ++ (stepsB xs)))) ++ r) := by unfold kS3; rw [e2, List.append_assoc]; exact takeS_ok _ _ _
  have e4 : kS4 (.ok (allB c xs ++ r)) = .ok ((bitsOf c.age.toNat 16 ++ (bitsOf xs.length 16 ++ (stepsB xs))) ++ r) := by unfold kS4; rw [e3, List.append_assoc]; exact takeS_ok _ _ _
  have e5 : kS5 (.ok (allB c xs ++ r)) = .ok ((bitsOf xs.length 16 ++ (stepsB xs)) ++ r) := by unfold kS5; rw [e4, List.append_assoc]; exact takeS_ok _ _ _
  have e6 : kS6 (.ok (allB c xs ++ r)) = .ok ((stepsB xs) ++ r) := by unfold kS6; rw [e5, List.append_assoc]; exact takeS_ok _ _ _
  have n6 : kN (.ok (allB c xs ++ r)) = xs.length := by unfold kN; rw [e5, List.append_assoc]; exact takeN_ok _ (by omega)
  have ec : cfgR (.ok (allB c xs ++ r)) = c := by
    unfold cfgR
    rw [e1, e2, e3, e4]
    unfold allB
    simp only [List.append_assoc]
    rw [takeN_ok _ (by omega), takeN_ok _ (by omega), takeN_ok _ (by omega), takeN_ok _ (by omega), takeN_ok _ (by omega)]
    obtain ⟨c1, c2, c3, c4, c5⟩ := c
    simp only at g1 g2 g3 g4 g5 ⊢
    rw [Int.toNat_of_nonneg g1.1, Int.toNat_of_nonneg g2.1, Int.toNat_of_nonneg g3.1, Int.toNat_of_nonneg g4.1, Int.toNat_of_nonneg g5.1]
  unfold readR
  rw [e6]
  simp only
  rw [n6, if_neg (by omega), stepsR_ok xs r hx]
  simp only
  rw [ec]
#print axioms readR_ok

/- What is cut. -/
def Pf (st : RSt) (full : List Nat) : Prop := st = .bad 2 ∨ ∃ a b, st = .ok a ∧ full = a ++ b ∧ b ≠ []
theorem pf_take {st : RSt} {n w : Nat} {r : List Nat} (h : Pf st (bitsOf n w ++ r)) (hn : n < 2 ^ w) : takeS st w = .bad 2 ∨ (takeN st w = n ∧ Pf (takeS st w) r) := by
  rcases h with rfl | ⟨a, b, rfl, e, hb⟩
  · exact .inl rfl
  · by_cases hl : a.length < w
    · exact .inl (if_pos hl)
    · have ha : a = bitsOf n w ++ a.drop w := by
        have h1 : a.take w = bitsOf n w := by
          have := congrArg (List.take w) e
          rw [List.take_append_of_le_length (by omega : w ≤ a.length), List.take_append_of_le_length (by simp [bitsOf_length]), List.take_of_length_le (by simp [bitsOf_length])] at this
          exact this.symm
        rw [← h1, List.take_append_drop]
      refine .inr ⟨?_, .inr ⟨a.drop w, b, ?_, ?_, hb⟩⟩
      · rw [ha]; exact takeN_ok _ hn
      · rw [ha]; rw [takeS_ok]; rw [← ha]
      · rw [ha, List.append_assoc] at e
        exact List.append_cancel_left e
theorem takeMany_bad (w m : Nat) : (takeMany w m (.bad 2)).2 = .bad 2 := by
  induction m with
  | zero => rfl
  | succ m ih => show takeS _ _ = _; rw [ih]; rfl
theorem pf_many (w : Nat) (l : List Nat) : ∀ st r, Pf st (manyB w l ++ r) → (∀ y ∈ l, y < 2 ^ w) → (takeMany w l.length st).2 = .bad 2 ∨ Pf (takeMany w l.length st).2 r := by
  refine snoc_ind (P := fun l => ∀ st r, Pf st (manyB w l ++ r) → (∀ y ∈ l, y < 2 ^ w) → (takeMany w l.length st).2 = .bad 2 ∨ Pf (takeMany w l.length st).2 r) (fun st r h _ => .inr h) (fun l a ih st r h hy => ?_) l
  rw [List.length_append, List.length_singleton]
  show takeS _ _ = _ ∨ Pf (takeS _ _) _
  rw [manyB_snoc, List.append_assoc] at h
  rcases ih st _ h (fun y hy' => hy y (by simp [hy'])) with h1 | h1
  · rw [h1]; exact .inl rfl
  · rcases pf_take h1 (hy a (by simp)) with h2 | ⟨_, h2⟩
    · exact .inl h2
    · exact .inr h2
theorem pf_step {x : Stp} (h : Fit x) (st : RSt) (r : List Nat) (hp : Pf st (stepB x ++ r)) : (rA st).2 = .bad 2 ∨ Pf (rA st).2 r := by
  have h1 := h.k1; have h2 := h.k2; have h3 := h.lb; have h4 := h.la
  unfold stepB at hp
  simp only [List.append_assoc] at hp
  have bad3 : rS3 st = .bad 2 → (rA st).2 = .bad 2 := fun e => by
    unfold rA rB
    rw [e]
    have := takeMany_bad 8 (rM st)
    rw [this]
    exact takeMany_bad _ _
  rcases pf_take hp (by omega) with q | ⟨_, q⟩
  · exact .inl (bad3 (by unfold rS3; rw [q]; rfl))
  rcases pf_take q (by omega) with q | ⟨_, q⟩
  · exact .inl (bad3 (by unfold rS3; rw [q]; rfl))
  rcases pf_take q (by omega) with q | ⟨em, q⟩
  · exact .inl (bad3 q)
  have em : rM st = x.bytes.length := em
  rcases pf_many 8 x.bytes _ _ q (fun y hy => by have := h.b y hy; omega) with q | q
  · refine .inl ?_
    unfold rA rB rS3
    rw [em, q]
    exact takeMany_bad _ _
  rcases pf_take q (by omega) with q | ⟨em2, q⟩
  · refine .inl ?_
    unfold rA rB rS3
    rw [em, q]
    exact takeMany_bad _ _
  have q2 := pf_many 16 (x.at_.map Int.toNat) _ _ q (fun y hy => by
    obtain ⟨z, hz, rfl⟩ := List.mem_map.1 hy
    have := h.a z hz; omega)
  rw [List.length_map] at q2
  unfold rA rB rS3
  rw [em, em2]
  exact q2
theorem pf_steps (xs : List Stp) : ∀ st r, Pf st (stepsB xs ++ r) → (∀ x ∈ xs, Fit x) → (stepsR st xs.length).2 = .bad 2 ∨ Pf (stepsR st xs.length).2 r := by
  refine snoc_ind (P := fun xs => ∀ st r, Pf st (stepsB xs ++ r) → (∀ x ∈ xs, Fit x) → (stepsR st xs.length).2 = .bad 2 ∨ Pf (stepsR st xs.length).2 r) (fun st r h _ => .inr h) (fun l a ih st r h hy => ?_) xs
  rw [List.length_append, List.length_singleton]
  show (rA _).2 = _ ∨ Pf (rA _).2 _
  rw [stepsB_snoc, List.append_assoc] at h
  rcases ih st _ h (fun y hy' => hy y (by simp [hy'])) with h1 | h1
  · rw [h1]; exact .inl (rA_bad 2)
  · exact pf_step (hy a (by simp)) _ _ h1
theorem readR_cut {c : Cfg} {xs : List Stp} (hc : FitC c) (hx : ∀ x ∈ xs, Fit x) (hn : xs.length ≤ 2000) {a b : List Nat} (hb : b ≠ []) (e : allB c xs = a ++ b) : readR a = .bad 2 := by
  obtain ⟨g1, g2, g3, g4, g5⟩ := hc
  have hp : Pf (.ok a) (allB c xs) := .inr ⟨a, b, rfl, e, hb⟩
  have bad6 : kS6 (.ok a) = .bad 2 → readR a = .bad 2 := fun h => by unfold readR; rw [h]
  unfold allB at hp
  rcases pf_take hp (by omega) with q | ⟨_, q⟩
  · exact bad6 (by unfold kS6 kS5 kS4 kS3 kS2 kS1; rw [q]; rfl)
  rcases pf_take q (by omega) with q | ⟨_, q⟩
  · exact bad6 (by unfold kS6 kS5 kS4 kS3 kS2 kS1; rw [q]; rfl)
  rcases pf_take q (by omega) with q | ⟨_, q⟩
  · exact bad6 (by unfold kS6 kS5 kS4 kS3 kS2 kS1; rw [q]; rfl)
  rcases pf_take q (by omega) with q | ⟨_, q⟩
  · exact bad6 (by unfold kS6 kS5 kS4 kS3 kS2 kS1; rw [q]; rfl)
  rcases pf_take q (by omega) with q | ⟨_, q⟩
  · exact bad6 (by unfold kS6 kS5 kS4 kS3 kS2 kS1; rw [q]; rfl)
  rcases pf_take q (by omega) with q | ⟨en, q⟩
  · exact bad6 q
  have en : kN (.ok a) = xs.length := en
  have q : Pf (kS6 (.ok a)) (stepsB xs) := q
  rw [← List.append_nil (stepsB xs)] at q
  unfold readR
  rcases q with q | ⟨r0, b0, q, q1, q2⟩
  · rw [q]
  rw [q]
  simp only
  rw [en, if_neg (by omega)]
  have h := pf_steps xs (.ok r0) [] (.inr ⟨r0, b0, rfl, q1, q2⟩) hx
  have h : (stepsR (.ok r0) xs.length).2 = .bad 2 := by
    rcases h with h | h | ⟨s, t, _, h, ht⟩
    · exact h
    · exact h
    · exact absurd (List.append_eq_nil_iff.1 h.symm).2 ht
  rw [h]
theorem readR_nil : readR [] = .bad 2 := by rfl
theorem allB_bit (c : Cfg) (xs : List Stp) : ∀ y ∈ allB c xs, y ≤ 1 := by
  intro y hy
  rw [← allB_eq] at hy
  unfold bitsAll at hy
  obtain ⟨p, _, hp⟩ := List.mem_flatMap.1 hy
  exact bitsOf_bit _ _ y hp
theorem padN_zeros (k : Nat) (h : k < 8) : padN (List.replicate k 0) = 0 := by
  unfold padN
  rw [if_neg (by simp; omega), if_neg]
  simp
/-- What is written comes back. -/
theorem law_back {c : Cfg} {xs : List Stp} {L : List Nat} (h : writeS c xs = some L) : readR (unbits (bytesOf L)) = .ok c xs := by
  obtain ⟨rfl, hc, hx, hn⟩ := writeS_some h
  rw [unbits_bytesOf (allB_bit c xs), readR_ok hc hx hn, padN_zeros _ (by unfold parts8; omega), if_pos rfl]
theorem law_cut {c : Cfg} {xs : List Stp} {L : List Nat} (h : writeS c xs = some L) {n : Nat} (h2 : n < (bytesOf L).length) : readR (unbits ((bytesOf L).take n)) = .bad 2 := by
  obtain ⟨rfl, hc, hx, hn⟩ := writeS_some h
  rw [bytesOf_length] at h2
  rw [unbits_cut (allB_bit c xs) h2]
  refine readR_cut hc hx hn (b := (allB c xs).drop (8 * n)) ?_ (List.take_append_drop _ _).symm
  intro e
  have := List.drop_eq_nil_iff.1 e
  unfold parts8 at h2
  omega
theorem law_tail {c : Cfg} {xs : List Stp} {L : List Nat} (h : writeS c xs = some L) : readR (unbits (bytesOf L ++ [0])) = .bad 3 := by
  obtain ⟨rfl, hc, hx, hn⟩ := writeS_some h
  rw [unbits_snoc, unbits_bytesOf (allB_bit c xs), bitsOf_zero, List.append_assoc, readR_ok hc hx hn]
  have e : padN (List.replicate (8 * parts8 (allB c xs).length - (allB c xs).length) 0 ++ List.replicate 8 0) = 3 := by
    unfold padN; rw [if_pos (by simp)]
  rw [e]
  rfl
#print axioms law_back
#print axioms law_cut
#print axioms law_tail
