/- The wheel in memory: which cells, which map, which rows stand for a tick and a list of numbers with their ticks. -/
import Derived.Test.YtkmknpobinpegaaRows
import Derived.Test.YtkmknpobinpegaaLib
import Derived.WalkKit
namespace Go.Proofs.Ytkmknpobinpegaa
open Go Go.RowKit Go.Maps Go.Sort Go.Lib

abbrev WL := List (Nat × Nat)
def dropL (L : WL) (a : Nat) : WL := L.filter fun p => p.1 != a
def hasL (L : WL) (a : Nat) : Bool := L.any fun p => p.1 == a
abbrev encA (a : Nat) : Value := .int .u16 (a : Int)
def row (xs : List Nat) : List Value := xs.map encA

theorem lawK : Keyed Try.prog 29 := int_keyed Try.underlying29
theorem infoNum : (Try.prog.info? 29).map (fun i => (i.zero, i.size, i.bytes)) = some (some (.int .u16 0), 1, 2) := by kernel_rfl
theorem zeroInt (w : World) : (zeroValue 3).run Try.prog w = .ok (.int .i64 0) w := by kernel_rfl

/-- The cells, the map, the rows. -/
structure WheelIn (w : World) (S : Nat → Prop) (b bm : Nat) (now : Nat) (D : DataW Unit) (vs : Nat → Value) (xs : Nat → List Nat) (L : WL) : Prop where
  c0 : w.cell? ⟨b, 0, none⟩ = some (.int .i64 (now : Int))
  c1 : w.cell? ⟨b, 1, none⟩ = some (.map (some bm))
  cs : ∀ k, k < 32 → w.cell? ⟨b, 2 + k, none⟩ = some (vs k)
  fr : ∀ k, w.frozen? ⟨b, k, none⟩ = false
  map : w.ownsMap Try.prog 29 (plainElem Try.prog 3) bm L.length D
  hs : ∀ a : Nat, a < 65536 → Maps.has D (.int .u16 (a : Int)) = hasL L a
  at_ : ∀ p ∈ L, D.atKey (.int .u16 (p.1 : Int)) (.lit (.int .i64 0)) = .lit (.int .i64 (p.2 : Int))
  sz : Maps.size D = L.length
  nd : (L.map Prod.fst).Nodup
  lo : ∀ p ∈ L, p.1 < 65536
  hi : ∀ p ∈ L, p.2 ≤ now + 1000
  own : ∀ k, k < 32 → w.ownsRow 0 29 1 (vs k) (xs k).length (row (xs k))
  perm : ∀ k, k < 32 → (xs k).Perm ((L.filter fun p => p.2 % 32 == k).map Prod.fst)
  sep : ∀ j k g, j < 32 → k < 32 → j ≠ k → (vs j).ownBlock = some g → (vs k).ownBlock ≠ some g
  sb : S b
  sm : S bm
  ne : bm ≠ b
  sv : ∀ k g, k < 32 → (vs k).ownBlock = some g → S g ∧ g ≠ b ∧ g ≠ bm
  lt : ∀ k, S k → k < w.heap.size

def WheelAt (w : World) (S : Nat → Prop) (b now : Nat) (L : WL) : Prop := ∃ bm D vs xs, WheelIn w S b bm now D vs xs L

/-- Where S's blocks are as they were, the wheel is. -/
theorem WheelIn.keep {w w' : World} {S : Nat → Prop} {b bm now : Nat} {D : DataW Unit} {vs : Nat → Value} {xs : Nat → List Nat} {L : WL} (h : WheelIn w S b bm now D vs xs L)
    (hk : ∀ k, S k → w'.heap[k]? = w.heap[k]?) (hz : w.heap.size ≤ w'.heap.size) : WheelIn w' S b bm now D vs xs L where
  c0 := by rw [World.cell?_of_block (w := w) (hk b h.sb)]; exact h.c0
  c1 := by rw [World.cell?_of_block (w := w) (hk b h.sb)]; exact h.c1
  cs := fun k hk' => by rw [World.cell?_of_block (w := w) (hk b h.sb)]; exact h.cs k hk'
  fr := fun k => by rw [World.frozen?_of_block (w := w) (hk b h.sb)]; exact h.fr k
  map := ownsMap_block h.map (hk bm h.sm)
  hs := h.hs
  at_ := h.at_
  sz := h.sz
  nd := h.nd
  lo := h.lo
  hi := h.hi
  own := fun k hk' => ownsRow_block (h.own k hk') (fun g hg => hk g (h.sv k g hk' hg).1)
  perm := h.perm
  sep := h.sep
  sb := h.sb
  sm := h.sm
  ne := h.ne
  sv := h.sv
  lt := fun k hk' => Nat.lt_of_lt_of_le (h.lt k hk') hz

theorem WheelAt.keep {w w' : World} {S : Nat → Prop} {b now : Nat} {L : WL} (h : WheelAt w S b now L) (hk : ∀ k, S k → w'.heap[k]? = w.heap[k]?) (hz : w.heap.size ≤ w'.heap.size) : WheelAt w' S b now L :=
  let ⟨bm, D, vs, xs, h⟩ := h; ⟨bm, D, vs, xs, h.keep hk hz⟩

/-- A frame that speaks of other blocks keeps it. -/
theorem WheelAt.fr {w w' : World} {S T : Nat → Prop} {b now : Nat} {L : WL} (h : WheelAt w S b now L) (hf : Fr T w w') (hd : ∀ k, S k → ¬ T k) : WheelAt w' S b now L := by
  obtain ⟨bm, D, vs, xs, h⟩ := h
  exact ⟨bm, D, vs, xs, h.keep (fun k hk => hf.block k (h.lt k hk) (hd k hk)) hf.size⟩
theorem WheelAt.lt {w : World} {S : Nat → Prop} {b now : Nat} {L : WL} (h : WheelAt w S b now L) : ∀ k, S k → k < w.heap.size := by
  obtain ⟨bm, D, vs, xs, h⟩ := h; exact h.lt

theorem ownsMap_exact {w : World} {bm n : Nat} {D : DataW Unit} (h : w.ownsMap Try.prog 29 (plainElem Try.prog 3) bm n D) : w.ownsMap Try.prog 29 (plainElem Try.prog 3) bm (Maps.size D) D := by
  obtain ⟨es, clock, h1, h2, _, rfl⟩ := h
  exact ⟨es, clock, h1, h2, by rw [Maps.size_eq, length_read]; exact Nat.le_refl _, rfl⟩

/-! ### lists of numbers with ticks -/
theorem dropL_none {L : WL} {a : Nat} (h : hasL L a = false) : dropL L a = L := by
  unfold dropL
  rw [List.filter_eq_self]
  intro p hp
  have := List.any_eq_false.1 h p hp
  simpa using this
theorem dropL_len {L : WL} {a : Nat} (hn : (L.map Prod.fst).Nodup) (h : hasL L a = true) : (dropL L a).length + 1 = L.length := by
  induction L with
  | nil => simp [hasL] at h
  | cons p r ih =>
    simp only [List.map_cons, List.nodup_cons] at hn
    by_cases hp : p.1 = a
    · subst hp
      have : hasL r p.1 = false := by
        unfold hasL
        rw [List.any_eq_false]
        intro q hq
        simp only [beq_iff_eq]
        intro e
        exact hn.1 (List.mem_map.2 ⟨q, hq, e⟩)
      have e := dropL_none this
      unfold dropL at e ⊢
      simp [e]
    · have h' : hasL r a = true := by simpa [hasL, hp] using h
      have := ih hn.2 h'
      unfold dropL at this ⊢
      simp [hp]
      omega
theorem mem_dropL {L : WL} {a : Nat} {p : Nat × Nat} : p ∈ dropL L a ↔ p ∈ L ∧ p.1 ≠ a := by simp [dropL]
theorem hasL_iff {L : WL} {a : Nat} : hasL L a = true ↔ ∃ t, (a, t) ∈ L := by
  unfold hasL
  rw [List.any_eq_true]
  constructor
  · rintro ⟨⟨x, t⟩, hp, hx⟩
    simp only [beq_iff_eq] at hx
    subst hx
    exact ⟨t, hp⟩
  · rintro ⟨t, h⟩
    exact ⟨(a, t), h, by simp⟩
theorem dropL_nodup {L : WL} {a : Nat} (hn : (L.map Prod.fst).Nodup) : ((dropL L a).map Prod.fst).Nodup := hn.sublist (List.filter_sublist.map _)
theorem hasL_dropL {L : WL} {a x : Nat} : hasL (dropL L a) x = (hasL L x && x != a) := by
  rw [Bool.eq_iff_iff, Bool.and_eq_true, hasL_iff, hasL_iff]
  simp only [mem_dropL, bne_iff_ne]
  constructor
  · rintro ⟨t, h1, h2⟩; exact ⟨⟨t, h1⟩, h2⟩
  · rintro ⟨⟨t, h1⟩, h2⟩; exact ⟨t, h1, h2⟩
theorem nodup_unique {L : WL} (hn : (L.map Prod.fst).Nodup) {a s t : Nat} (h1 : (a, s) ∈ L) (h2 : (a, t) ∈ L) : s = t := by
  induction L with
  | nil => cases h1
  | cons p r ih =>
    simp only [List.map_cons, List.nodup_cons] at hn
    rcases List.mem_cons.1 h1 with e1 | m1 <;> rcases List.mem_cons.1 h2 with e2 | m2
    · rw [← e2] at e1; injection e1
    · exact absurd (List.mem_map.2 ⟨_, m2, by rw [← e1]⟩) hn.1
    · exact absurd (List.mem_map.2 ⟨_, m1, by rw [← e2]⟩) hn.1
    · exact ih hn.2 m1 m2
/-- The rows behind a number's going. -/
theorem perm_drop {L : WL} {a k : Nat} {xs : List Nat} (h : xs.Perm ((L.filter fun p => p.2 % 32 == k).map Prod.fst)) :
    (xs.filter fun x => !(x == a)).Perm (((dropL L a).filter fun p => p.2 % 32 == k).map Prod.fst) := by
  have h2 := h.filter (fun x => !(x == a))
  rw [List.filter_map] at h2
  unfold dropL
  rw [List.filter_filter] at *
  refine h2.trans (List.Perm.of_eq ?_)
  congr 1
  apply List.filter_congr
  intro p _
  simp [Bool.and_comm, bne]
/-- A row in which the number isn't stays. -/
theorem filter_other {L : WL} {a t k : Nat} {xs : List Nat} (hn : (L.map Prod.fst).Nodup) (hm : (a, t) ∈ L) (hk : t % 32 ≠ k) (h : xs.Perm ((L.filter fun p => p.2 % 32 == k).map Prod.fst)) :
    xs.filter (fun x => !(x == a)) = xs := by
  rw [List.filter_eq_self]
  intro x hx
  have h1 := h.mem_iff.1 hx
  simp only [List.mem_map, List.mem_filter, beq_iff_eq] at h1
  obtain ⟨⟨y, s⟩, ⟨h1, h2⟩, rfl⟩ := h1
  simp only [Bool.not_eq_eq_eq_not, Bool.not_true, beq_eq_false_iff_ne]
  rintro rfl
  have := nodup_unique hn h1 hm
  subst this
  exact hk h2
/-- The wheel behind a number's going. -/
theorem WheelIn.taken {w w' : World} {S : Nat → Prop} {b bm now : Nat} {D : DataW Unit} {vs : Nat → Value} {xs : Nat → List Nat} {L : WL} (h : WheelIn w S b bm now D vs xs L)
    {a t g n : Nat} {v' : Value} (ha : a < 65536) (hm : (a, t) ∈ L) (hg : (vs (t % 32)).ownBlock = some g) (hv' : v'.ownBlock = some g)
    (hc : ∀ k, k ≠ 2 + t % 32 → w'.cell? ⟨b, k, none⟩ = w.cell? ⟨b, k, none⟩) (hcv : w'.cell? ⟨b, 2 + t % 32, none⟩ = some v') (hf : ∀ k, w'.frozen? ⟨b, k, none⟩ = false)
    (hb : ∀ k, S k → k ≠ b → k ≠ bm → k ≠ g → w'.heap[k]? = w.heap[k]?) (hz : w.heap.size ≤ w'.heap.size)
    (hown : w'.ownsRow 0 29 1 v' ((xs (t % 32)).filter fun x => !(x == a)).length (row ((xs (t % 32)).filter fun x => !(x == a))))
    (hmap : w'.ownsMap Try.prog 29 (plainElem Try.prog 3) bm n (D.del (.int .u16 (a : Int)))) :
    WheelIn w' S b bm now (D.del (.int .u16 (a : Int))) (fun k => if k = t % 32 then v' else vs k) (fun k => if k = t % 32 then (xs (t % 32)).filter (fun x => !(x == a)) else xs k) (dropL L a) := by
  have hk32 : t % 32 < 32 := by omega
  have hhas : hasL L a = true := hasL_iff.2 ⟨t, hm⟩
  have hsz : Maps.size (D.del (.int .u16 (a : Int))) = (dropL L a).length := by
    have h1 := Maps.size_del (k := .int .u16 (a : Int)) (h.map.tidy lawK)
    rw [h.hs a ha, hhas, h.sz] at h1
    have h2 := dropL_len h.nd hhas
    simp only [if_true] at h1
    omega
  have inj : ∀ x : Nat, x ≠ a → (Lit.int .u16 (x : Int)) ≠ .int .u16 (a : Int) := fun x hx e => by injection e with _ e; omega
  have g1 := h.sv _ _ hk32 hg
  refine { c0 := ?_, c1 := ?_, cs := ?_, fr := hf, map := ?_, hs := ?_, at_ := ?_, sz := hsz, nd := dropL_nodup h.nd, lo := fun p hp => h.lo p (mem_dropL.1 hp).1, hi := fun p hp => h.hi p (mem_dropL.1 hp).1, own := ?_, perm := ?_, sep := ?_, sb := h.sb, sm := h.sm, ne := h.ne, sv := ?_, lt := fun k hk => Nat.lt_of_lt_of_le (h.lt k hk) hz }
  · rw [hc 0 (by omega)]; exact h.c0
  · rw [hc 1 (by omega)]; exact h.c1
  · intro k hk
    by_cases hkt : k = t % 32
    · subst hkt; simp only [if_true]; exact hcv
    · simp only [if_neg hkt]; rw [hc (2 + k) (by omega)]; exact h.cs k hk
  · have := ownsMap_exact hmap
    rw [hsz] at this
    exact this
  · intro x hx
    rw [hasL_dropL]
    by_cases hxa : x = a
    · subst hxa; rw [Maps.has_del_same]; simp
    · rw [Maps.has_del_other (inj x hxa), h.hs x hx]; simp [hxa]
  · intro p hp
    rw [mem_dropL] at hp
    rw [Maps.atKey_del_other (inj p.1 hp.2)]
    exact h.at_ p hp.1
  · intro k hk
    by_cases hkt : k = t % 32
    · subst hkt; simp only [if_true]; exact hown
    · simp only [if_neg hkt]
      refine ownsRow_block (h.own k hk) (fun g' hg' => ?_)
      have h1 := h.sv k g' hk hg'
      exact hb g' h1.1 h1.2.1 h1.2.2 (fun e => h.sep k (t % 32) g' hk hk32 hkt hg' (by rw [e]; exact hg))
  · intro k hk
    by_cases hkt : k = t % 32
    · subst hkt; simp only [if_true]; exact perm_drop (h.perm _ hk)
    · simp only [if_neg hkt]
      have := perm_drop (a := a) (h.perm k hk)
      rw [filter_other h.nd hm (fun e => hkt e.symm) (h.perm k hk)] at this
      exact this
  · intro j k g' hj hk hjk h1 h2
    by_cases hjt : j = t % 32
    · subst hjt
      simp only [if_true] at h1
      rw [if_neg (fun e => hjk e.symm)] at h2
      rw [hv'] at h1
      exact h.sep _ k g' hk32 hk hjk (by rw [hg]; exact h1) h2
    · rw [if_neg hjt] at h1
      by_cases hkt : k = t % 32
      · subst hkt
        simp only [if_true] at h2
        rw [hv'] at h2
        exact h.sep j _ g' hj hk32 hjk h1 (by rw [hg]; exact h2)
      · rw [if_neg hkt] at h2
        exact h.sep j k g' hj hk hjk h1 h2
  · intro k g' hk h1
    by_cases hkt : k = t % 32
    · subst hkt
      simp only [if_true] at h1
      rw [hv'] at h1
      injection h1 with h1
      subst h1
      exact g1
    · rw [if_neg hkt] at h1
      exact h.sv k g' hk h1
/-- The wheel behind a number's coming. -/
theorem WheelIn.added {w w' : World} {S : Nat → Prop} {b bm now : Nat} {D : DataW Unit} {vs : Nat → Value} {xs : Nat → List Nat} {L : WL} (h : WheelIn w S b bm now D vs xs L)
    {a t n : Nat} {v' : Value} (ha : a < 65536) (hno : hasL L a = false) (ht : t ≤ now + 1000)
    (hloc : v'.ownBlock = (vs (t % 32)).ownBlock ∨ ∃ g, v'.ownBlock = some g ∧ w.heap.size ≤ g)
    (hc : ∀ k, k ≠ 2 + t % 32 → w'.cell? ⟨b, k, none⟩ = w.cell? ⟨b, k, none⟩) (hcv : w'.cell? ⟨b, 2 + t % 32, none⟩ = some v') (hf : ∀ k, w'.frozen? ⟨b, k, none⟩ = false)
    (hb : ∀ k, S k → k ≠ b → k ≠ bm → (vs (t % 32)).ownBlock ≠ some k → w'.heap[k]? = w.heap[k]?) (hz : w.heap.size ≤ w'.heap.size)
    (hown : w'.ownsRow 0 29 1 v' (xs (t % 32) ++ [a]).length (row (xs (t % 32) ++ [a])))
    (hmap : w'.ownsMap Try.prog 29 (plainElem Try.prog 3) bm n (D.put (.int .u16 (a : Int)) (.lit (.int .i64 (t : Int))))) :
    WheelIn w' (fun k => S k ∨ v'.ownBlock = some k) b bm now (D.put (.int .u16 (a : Int)) (.lit (.int .i64 (t : Int)))) (fun k => if k = t % 32 then v' else vs k) (fun k => if k = t % 32 then xs (t % 32) ++ [a] else xs k) (L ++ [(a, t)]) := by
  have hk32 : t % 32 < 32 := by omega
  have hsz : Maps.size (D.put (.int .u16 (a : Int)) (.lit (.int .i64 (t : Int)))) = (L ++ [(a, t)]).length := by
    rw [Maps.size_put (h.map.tidy lawK), h.hs a ha, hno, h.sz]; simp
  have inj : ∀ x : Nat, x ≠ a → (Lit.int .u16 (x : Int)) ≠ .int .u16 (a : Int) := fun x hx e => by injection e with _ e; omega
  have isK : WideAt.IsKeyLit (.int .u16 (a : Int)) := trivial
  have hIM := h.map.isMap
  have hnew : ∀ k g, k < 32 → (vs k).ownBlock = some g → k ≠ t % 32 → v'.ownBlock ≠ some g := fun k g hk hg hkt e => by
    rcases hloc with h1 | ⟨g', h1, h2⟩
    · rw [h1] at e; exact h.sep _ _ g hk32 hk (Ne.symm hkt) e hg
    · rw [h1] at e; injection e with e; subst e; have := h.lt _ (h.sv k g' hk hg).1; omega
  have hlt' : ∀ g, v'.ownBlock = some g → g < w'.heap.size ∧ g ≠ b ∧ g ≠ bm := fun g hg => by
    have h1 := (hown.lt g hg).2
    rcases hloc with h2 | ⟨g', h2, h3⟩
    · rw [h2] at hg; have := h.sv _ g hk32 hg; exact ⟨h1, this.2.1, this.2.2⟩
    · rw [h2] at hg; injection hg with hg; subst hg
      have h4 := h.lt b h.sb; have h5 := h.lt bm h.sm
      exact ⟨h1, by omega, by omega⟩
  refine { c0 := ?_, c1 := ?_, cs := ?_, fr := hf, map := ?_, hs := ?_, at_ := ?_, sz := hsz, nd := ?_, lo := ?_, hi := ?_, own := ?_, perm := ?_, sep := ?_, sb := .inl h.sb, sm := .inl h.sm, ne := h.ne, sv := ?_, lt := ?_ }
  · rw [hc 0 (by omega)]; exact h.c0
  · rw [hc 1 (by omega)]; exact h.c1
  · intro k hk
    by_cases hkt : k = t % 32
    · subst hkt; simp only [if_true]; exact hcv
    · simp only [if_neg hkt]; rw [hc (2 + k) (by omega)]; exact h.cs k hk
  · have := ownsMap_exact hmap
    rw [hsz] at this
    exact this
  · intro x hx
    by_cases hxa : x = a
    · subst hxa; rw [Maps.has_put_same hIM isK]; simp [hasL]
    · rw [Maps.has_put_other (inj x hxa), h.hs x hx]
      unfold hasL
      rw [List.any_append]
      simp [Ne.symm hxa]
  · intro p hp
    rcases List.mem_append.1 hp with hp | hp
    · have hpa : p.1 ≠ a := fun e => by
        have : hasL L a = true := hasL_iff.2 ⟨p.2, by rw [← e]; exact hp⟩
        rw [hno] at this; cases this
      rw [Maps.atKey_put_other (inj p.1 hpa)]
      exact h.at_ p hp
    · simp only [List.mem_singleton] at hp
      subst hp
      exact Maps.atKey_put_same hIM isK _ _
  · rw [List.map_append, List.nodup_append]
    refine ⟨h.nd, by simp, ?_⟩
    intro x hx y hy
    simp only [List.map_cons, List.map_nil, List.mem_singleton] at hy
    subst hy
    rintro rfl
    obtain ⟨p, hp, rfl⟩ := List.mem_map.1 hx
    have : hasL L p.1 = true := hasL_iff.2 ⟨p.2, hp⟩
    rw [hno] at this; cases this
  · intro p hp
    rcases List.mem_append.1 hp with hp | hp
    · exact h.lo p hp
    · simp only [List.mem_singleton] at hp; subst hp; exact ha
  · intro p hp
    rcases List.mem_append.1 hp with hp | hp
    · exact h.hi p hp
    · simp only [List.mem_singleton] at hp; subst hp; exact ht
  · intro k hk
    by_cases hkt : k = t % 32
    · subst hkt; simp only [if_true]; exact hown
    · simp only [if_neg hkt]
      refine ownsRow_block (h.own k hk) (fun g' hg' => ?_)
      have h1 := h.sv k g' hk hg'
      exact hb g' h1.1 h1.2.1 h1.2.2 (fun e => h.sep k (t % 32) g' hk hk32 hkt hg' e)
  · intro k hk
    rw [List.filter_append, List.map_append]
    by_cases hkt : k = t % 32
    · subst hkt; simp only [if_true]
      refine (h.perm _ hk32).append ?_
      simp
    · simp only [if_neg hkt]
      have e : ([(a, t)] : WL).filter (fun p => p.2 % 32 == k) = [] := by simp [Ne.symm hkt]
      rw [e]
      simpa using h.perm k hk
  · intro j k g' hj hk hjk h1 h2
    by_cases hjt : j = t % 32
    · subst hjt
      simp only [if_true] at h1
      rw [if_neg (fun e => hjk e.symm)] at h2
      exact hnew k g' hk h2 (Ne.symm hjk) h1
    · rw [if_neg hjt] at h1
      by_cases hkt : k = t % 32
      · subst hkt
        simp only [if_true] at h2
        exact hnew j g' hj h1 hjk h2
      · rw [if_neg hkt] at h2
        exact h.sep j k g' hj hk hjk h1 h2
  · intro k g' hk h1
    by_cases hkt : k = t % 32
    · subst hkt
      simp only [if_true] at h1
      exact ⟨.inr h1, (hlt' g' h1).2⟩
    · rw [if_neg hkt] at h1
      have := h.sv k g' hk h1
      exact ⟨.inl this.1, this.2⟩
  · rintro k (hk | hk)
    · exact Nat.lt_of_lt_of_le (h.lt k hk) hz
    · exact (hlt' k hk).1
/-- Another tick. -/
theorem WheelIn.ticked {w w' : World} {S : Nat → Prop} {b bm now now' : Nat} {D : DataW Unit} {vs : Nat → Value} {xs : Nat → List Nat} {L : WL} (h : WheelIn w S b bm now D vs xs L)
    (hle : now ≤ now') (h0 : w'.cell? ⟨b, 0, none⟩ = some (.int .i64 (now' : Int))) (hc : ∀ k, k ≠ 0 → w'.cell? ⟨b, k, none⟩ = w.cell? ⟨b, k, none⟩) (hf : ∀ k, w'.frozen? ⟨b, k, none⟩ = false)
    (hb : ∀ k, S k → k ≠ b → w'.heap[k]? = w.heap[k]?) (hz : w.heap.size ≤ w'.heap.size) : WheelIn w' S b bm now' D vs xs L where
  c0 := h0
  c1 := by rw [hc 1 (by omega)]; exact h.c1
  cs := fun k hk => by rw [hc _ (by omega)]; exact h.cs k hk
  fr := hf
  map := ownsMap_block h.map (hb bm h.sm h.ne)
  hs := h.hs
  at_ := h.at_
  sz := h.sz
  nd := h.nd
  lo := h.lo
  hi := fun p hp => by have := h.hi p hp; omega
  own := fun k hk => ownsRow_block (h.own k hk) (fun g hg => hb g (h.sv k g hk hg).1 (h.sv k g hk hg).2.1)
  perm := h.perm
  sep := h.sep
  sb := h.sb
  sm := h.sm
  ne := h.ne
  sv := h.sv
  lt := fun k hk => Nat.lt_of_lt_of_le (h.lt k hk) hz
#print axioms WheelIn.added
#print axioms perm_drop
#print axioms WheelAt.fr
end Go.Proofs.Ytkmknpobinpegaa
