/- A region that draws its order, with several writers whose order is open: every order of the writers is walked; what leaves the world as it is, is taken as soon as it may be. -/
import Derived.Test.YtkmknpobinpegaaDoorReg
namespace Go.Proofs.YtkmknpobinpegaaDoor
open Go

section
variable {P : Program} {ops : Array Oper}

def rmI (rest : List It) (i : Nat) : List It := rest.filter fun y => y.ix != i
def freeB (D : List (List Nat)) (rest : List It) (i : Nat) : Bool := (D.getD i []).all fun d => !(rest.any fun y => y.ix == d)
theorem mem_rmI {rest : List It} {i : Nat} {y : It} : y ∈ rmI rest i ↔ y ∈ rest ∧ y.ix ≠ i := by simp [rmI]
theorem rmI_comm (rest : List It) (i j : Nat) : rmI (rmI rest i) j = rmI (rmI rest j) i := by
  unfold rmI
  rw [List.filter_filter, List.filter_filter]
  congr 1
  funext y
  rw [Bool.and_comm]
theorem freeB_rmI {D : List (List Nat)} {rest : List It} {i : Nat} (j : Nat) (h : freeB D rest i = true) : freeB D (rmI rest j) i = true := by
  unfold freeB at *
  rw [List.all_eq_true] at *
  intro d hd
  have := h d hd
  simp only [Bool.not_eq_true', List.any_eq_false, beq_iff_eq] at *
  intro y hy
  exact this y (mem_rmI.1 hy).1

/-- The region's operations, the writers in every order. -/
inductive CanM (P : Program) (ops : Array Oper) (D : List (List Nat)) (Q : Act → World → Prop) : List It → Pend → Act → World → Prop
  | nil {pend : Pend} {a : Act} {w : World} : Q a w → CanM P ops D Q [] pend a w
  | st {rest : List It} {pend : Pend} {a : Act} {w : World} {i : Nat} {md : Md} {o : Oper} (a' : Act) : It.st i md ∈ rest → freeB D rest i = true → ops[i]? = some o → Region.wanted o (yielded ops a.tmps) = true → YA P o a w a' → (md = .pure → ∀ W, YA P o a W a') →
      CanM P ops D Q (rmI rest i) (if md = .keep then (i, o, a, a') :: pend else pend) a' w → CanM P ops D Q rest pend a w
  | skip {rest : List It} {pend : Pend} {a : Act} {w : World} {i : Nat} {md : Md} {o : Oper} : It.st i md ∈ rest → freeB D rest i = true → ops[i]? = some o → Region.wanted o (yielded ops a.tmps) = false →
      CanM P ops D Q (rmI rest i) pend (a.put o.dst undef) w → CanM P ops D Q rest pend a w
  | ef {rest : List It} {pend : Pend} {a : Act} {w : World} (R : Nat → List Nat → Act → World → Prop) : rest ≠ [] → (∀ i md, It.st i md ∈ rest → freeB D rest i = false) →
      (∀ i re, It.ef i re ∈ rest → freeB D rest i = true → ∃ o, ops[i]? = some o ∧ wpList P ops (OnlyN (R i re)) [o] a w) →
      (∀ i re, It.ef i re ∈ rest → freeB D rest i = true → ∀ a' w', R i re a' w' → ReAll P re w' pend) →
      (∀ i re, It.ef i re ∈ rest → freeB D rest i = true → ∀ a' w', R i re a' w' → CanM P ops D Q (rmI rest i) pend a' w') → CanM P ops D Q rest pend a w

theorem ReAll.le {re : List Nat} {W : World} {pend : Pend} (hk : ReAll P re W pend) : ∀ {pend' : Pend}, PLe P pend pend' → ReAll P re W pend'
  | [], _ => trivial
  | q :: r, hp => by
    refine ⟨?_, ReAll.le hk (fun p h' => hp p (List.mem_cons_of_mem _ h'))⟩
    split
    · rename_i hc
      obtain ⟨p, h1, h2, h3⟩ := hp q List.mem_cons_self
      exact h3 _ (ReAll.mem hk p h1 (by rw [h2]; exact hc))
    · trivial

theorem CanM.mono_pend {D : List (List Nat)} {Q : Act → World → Prop} {rest : List It} {pend : Pend} {a : Act} {w : World} (h : CanM P ops D Q rest pend a w) : ∀ {pend' : Pend}, PLe P pend pend' → CanM P ops D Q rest pend' a w := by
  induction h with
  | nil h => intro pend' _; exact .nil h
  | st a' hm hf ho hw hy hpu hc ih =>
    intro pend' hp
    refine .st a' hm hf ho hw hy hpu (ih ?_)
    split
    · exact PLe.cons rfl (fun _ h => h) hp
    · exact hp
  | skip hm hf ho hw hc ih => intro pend' hp; exact .skip hm hf ho hw (ih hp)
  | ef R hne hns h1 h2 h3 ih =>
    intro pend' hp
    exact .ef R hne hns h1 (fun i re hm hf a' w' hr => (h2 i re hm hf a' w' hr).le hp) (fun i re hm hf a' w' hr => ih i re hm hf a' w' hr hp)

/-- May the two stand in either order? -/
def pairM (ops : Array Oper) (D : List (List Nat)) (x y : It) : Bool :=
  if x.ix = y.ix then x.isSt == y.isSt else (D.getD x.ix []).contains y.ix || (D.getD y.ix []).contains x.ix ||
    (match x, y with
     | .st _ _, .st _ _ => true
     | .st k md, .ef _ re => decide (md = .pure) || (decide (md = .keep) && re.contains k)
     | .ef _ _, _ => true) &&
    (match ops[x.ix]?, ops[y.ix]? with
     | some ox, some oy => ox.apart ops oy
     | _, _ => false)

theorem not_anc {D : List (List Nat)} {rest : List It} {i : Nat} {y : It} (hf : freeB D rest i = true) (hy : y ∈ rest) : (D.getD i []).contains y.ix = false := by
  cases hc : (D.getD i []).contains y.ix with
  | false => rfl
  | true =>
    unfold freeB at hf
    rw [List.all_eq_true] at hf
    have h := hf y.ix (by simpa using hc)
    simp only [Bool.not_eq_true', List.any_eq_false, beq_iff_eq] at h
    exact absurd rfl (h y hy)

theorem pair_apart {D : List (List Nat)} {rest : List It} {x y : It} (h : pairM ops D x y = true) (hne : x.ix ≠ y.ix) (hx : x ∈ rest) (hy : y ∈ rest) (hfx : freeB D rest x.ix = true) (hfy : freeB D rest y.ix = true) :
    (match x, y with
     | .st _ _, .st _ _ => True
     | .st k md, .ef _ re => md = .pure ∨ (md = .keep ∧ re.contains k = true)
     | .ef _ _, _ => True) ∧ ∃ ox oy, ops[x.ix]? = some ox ∧ ops[y.ix]? = some oy ∧ ox.apart ops oy = true := by
  unfold pairM at h
  rw [if_neg hne, not_anc hfx hy, not_anc hfy hx] at h
  simp only [Bool.false_or, Bool.and_eq_true] at h
  obtain ⟨h1, h2⟩ := h
  refine ⟨?_, ?_⟩
  · cases x <;> cases y <;> simp_all
  · split at h2
    · rename_i ox oy hox hoy
      exact ⟨ox, oy, hox, hoy, h2⟩
    · cases h2

/-- One that leaves the world and waits for nothing is taken first. -/
theorem front_st {D : List (List Nat)} {Q : Act → World → Prop} (hsel : Region.noSelect ops = true) {rest : List It} {pend : Pend} {a : Act} {w : World} (h : CanM P ops D Q rest pend a w)
    {i : Nat} {md : Md} {o : Oper} (ho : ops[i]? = some o) : (∀ x ∈ rest, ∀ y ∈ rest, pairM ops D x y = true) → It.st i md ∈ rest → freeB D rest i = true →
      (Region.wanted o (yielded ops a.tmps) = true ∧ ∃ u, YA P o a w (a.put o.dst u) ∧ CanM P ops D Q (rmI rest i) pend (a.put o.dst u) w) ∨
      (Region.wanted o (yielded ops a.tmps) = false ∧ CanM P ops D Q (rmI rest i) pend (a.put o.dst undef) w) := by
  have hso : ∀ cs b, o.op ≠ .select cs b := fun cs b => Region.noSelect_spec hsel _ o cs b ho
  induction h with
  | nil h => intro _ hm; cases hm
  | @st rest pend a w k mk ox a' hmk hfk hox hwk hy hpu hc ih =>
    intro hp hm hf
    by_cases hki : k = i
    · subst hki
      obtain rfl : ox = o := Option.some.inj (hox.symm.trans ho)
      obtain ⟨u, _, rfl⟩ := YA_iff.1 hy
      refine .inl ⟨hwk, u, hy, hc.mono_pend ?_⟩
      split
      · exact (PLe.refl pend).tail _
      · exact PLe.refl pend
    · obtain ⟨_, ox', o', e1, e2, hap⟩ := pair_apart (hp _ hmk _ hm) (by simpa [It.ix] using hki) hmk hm hfk hf
      simp only [It.ix] at e1 e2
      obtain rfl : ox = ox' := Option.some.inj (hox.symm.trans e1)
      obtain rfl : o = o' := Option.some.inj (ho.symm.trans e2)
      obtain ⟨h1, h2, h3⟩ := Oper.apart_spec hap
      have hsx : ∀ cs b, ox.op ≠ .select cs b := fun cs b => Region.noSelect_spec hsel _ ox cs b hox
      obtain ⟨v, _, rfl⟩ := YA_iff.1 hy
      have hback : ∀ u, CanM P ops D Q (rmI (rmI rest k) i) (if mk = .keep then (k, ox, a, a.put ox.dst v) :: pend else pend) ((a.put ox.dst v).put o.dst u) w → CanM P ops D Q (rmI rest i) pend (a.put o.dst u) w := by
        intro u hu
        refine .st ((a.put ox.dst v).put o.dst u) (mem_rmI.2 ⟨hmk, hki⟩) (freeB_rmI i hfk) hox (by rw [wanted_put ox a o.dst u h3]; exact hwk) (hy.put hsx hap) (fun hm' W => (hpu hm' W).put hsx hap) ?_
        rw [rmI_comm]
        refine hu.mono_pend ?_
        split
        · exact PLe.cons rfl (fun _ h => h.put hsx hap) (PLe.refl pend)
        · exact PLe.refl pend
      have hp' : ∀ x ∈ rmI rest k, ∀ y ∈ rmI rest k, pairM ops D x y = true := fun x hx y hy => hp x (mem_rmI.1 hx).1 y (mem_rmI.1 hy).1
      rcases ih hp' (mem_rmI.2 ⟨hm, fun e => hki e.symm⟩) (freeB_rmI k hf) with ⟨hw, u, hu, hc'⟩ | ⟨hw, hc'⟩
      · rw [wanted_put o a ox.dst v h1] at hw
        obtain ⟨u', hu', e⟩ := YA.unput hso hap hu
        rw [e] at hc'
        refine .inl ⟨hw, u', hu', hback u' ?_⟩
        rw [Act.put_comm a v u' h2]; exact hc'
      · rw [wanted_put o a ox.dst v h1] at hw
        exact .inr ⟨hw, hback undef hc'⟩
  | @skip rest pend a w k mk ox hmk hfk hox hwk hc ih =>
    intro hp hm hf
    by_cases hki : k = i
    · subst hki
      obtain rfl : ox = o := Option.some.inj (hox.symm.trans ho)
      exact .inr ⟨hwk, hc⟩
    · obtain ⟨_, ox', o', e1, e2, hap⟩ := pair_apart (hp _ hmk _ hm) (by simpa [It.ix] using hki) hmk hm hfk hf
      simp only [It.ix] at e1 e2
      obtain rfl : ox = ox' := Option.some.inj (hox.symm.trans e1)
      obtain rfl : o = o' := Option.some.inj (ho.symm.trans e2)
      obtain ⟨h1, h2, h3⟩ := Oper.apart_spec hap
      have hback : ∀ u, CanM P ops D Q (rmI (rmI rest k) i) pend ((a.put ox.dst undef).put o.dst u) w → CanM P ops D Q (rmI rest i) pend (a.put o.dst u) w := by
        intro u hu
        refine .skip (mem_rmI.2 ⟨hmk, hki⟩) (freeB_rmI i hfk) hox (by rw [wanted_put ox a o.dst u h3]; exact hwk) ?_
        rw [rmI_comm, ← Act.put_comm a undef u h2]
        exact hu
      have hp' : ∀ x ∈ rmI rest k, ∀ y ∈ rmI rest k, pairM ops D x y = true := fun x hx y hy => hp x (mem_rmI.1 hx).1 y (mem_rmI.1 hy).1
      rcases ih hp' (mem_rmI.2 ⟨hm, fun e => hki e.symm⟩) (freeB_rmI k hf) with ⟨hw, u, hu, hc'⟩ | ⟨hw, hc'⟩
      · rw [wanted_put o a ox.dst undef h1] at hw
        obtain ⟨u', hu', e⟩ := YA.unput hso hap hu
        rw [e] at hc'
        refine .inl ⟨hw, u', hu', hback u' ?_⟩
        rw [Act.put_comm a undef u' h2]; exact hc'
      · rw [wanted_put o a ox.dst undef h1] at hw
        exact .inr ⟨hw, hback undef hc'⟩
  | ef R hne hns h1 h2 h3 ih =>
    intro hp hm hf
    rw [hns i md hm] at hf
    cases hf

/-- One that writes and waits for nothing may be taken first. -/
theorem front_ef {D : List (List Nat)} {Q : Act → World → Prop} (hsel : Region.noSelect ops = true) {rest : List It} {pend : Pend} {a : Act} {w : World} (h : CanM P ops D Q rest pend a w)
    {i : Nat} {re : List Nat} {o : Oper} (ho : ops[i]? = some o) : (∀ x ∈ rest, ∀ y ∈ rest, pairM ops D x y = true) → It.ef i re ∈ rest → freeB D rest i = true →
      wpList P ops (OnlyN fun a' w' => CanM P ops D Q (rmI rest i) pend a' w' ∧ ∀ p ∈ pend, re.contains p.1 = true → YA P p.2.1 p.2.2.1 w' p.2.2.2) [o] a w := by
  have hso : ∀ cs b, o.op ≠ .select cs b := fun cs b => Region.noSelect_spec hsel _ o cs b ho
  induction h with
  | nil h => intro _ hm; cases hm
  | @st rest pend a w k mk ox a' hmk hfk hox hwk hy hpu hc ih =>
    intro hp hm hf
    have hki : k ≠ i := by
      intro e
      subst e
      have h0 := hp _ hm _ hmk
      unfold pairM at h0
      simp [It.ix, It.isSt] at h0
    obtain ⟨hmx, ox', o', e1, e2, hap⟩ := pair_apart (hp _ hmk _ hm) (by simpa [It.ix] using hki) hmk hm hfk hf
    simp only [It.ix] at e1 e2 hmx
    obtain rfl : ox = ox' := Option.some.inj (hox.symm.trans e1)
    obtain rfl : o = o' := Option.some.inj (ho.symm.trans e2)
    obtain ⟨h1, h2, h3⟩ := Oper.apart_spec hap
    have hsx : ∀ cs b, ox.op ≠ .select cs b := fun cs b => Region.noSelect_spec hsel _ ox cs b hox
    have hds : ∀ ds : List Deferred, execOp ({ a with defers := ds } : Act).eval ox = execOp a.eval ox := fun ds => execOp_congr ox hsx (fun x _ => by cases x <;> rfl)
    obtain ⟨v, _, rfl⟩ := YA_iff.1 hy
    have hp' : ∀ x ∈ rmI rest k, ∀ y ∈ rmI rest k, pairM ops D x y = true := fun x hx y hy => hp x (mem_rmI.1 hx).1 y (mem_rmI.1 hy).1
    have hr := ih hp' (mem_rmI.2 ⟨hm, fun e => hki e.symm⟩) (freeB_rmI k hf)
    refine ef_mono (fun a' w' hk => ?_) (ef_put hap hso hr)
    obtain ⟨⟨u, ds, ha'⟩, hc', hp''⟩ := hk
    have hwa : Region.wanted ox (yielded ops a'.tmps) = true := by
      have e := wanted_put ox ({ a with defers := ds } : Act) o.dst u h3
      rw [ha', e]
      exact hwk
    have lift : ∀ W, YA P ox a W (a.put ox.dst v) → YA P ox a' W (a'.put ox.dst v) := fun W hW => by
      obtain ⟨v', hv', e'⟩ := YA_iff.1 hW
      have hd : YA P ox ({ a with defers := ds } : Act) W (({ a with defers := ds } : Act).put ox.dst v) := by
        refine YA_iff.2 ⟨v', by rw [hds]; exact hv', ?_⟩
        cases hdst : ox.dst with
        | none => rfl
        | some d =>
          rw [hdst] at e'
          simp only [Act.put, Act.mk.injEq, and_true] at e' ⊢
          exact e'
      rw [ha', ← Act.put_comm _ v u h2]
      exact hd.put hsx hap
    have hvw : YA P ox a w' (a.put ox.dst v) := by
      rcases hmx with rfl | ⟨rfl, hre⟩
      · exact hpu rfl w'
      · exact hp'' (k, ox, a, a.put ox.dst v) (by rw [if_pos rfl]; exact List.mem_cons_self) hre
    refine ⟨.st (a'.put ox.dst v) (mem_rmI.2 ⟨hmk, hki⟩) (freeB_rmI i hfk) hox hwa (lift w' hvw) (fun hm' W => lift W (hpu hm' W)) ?_, fun p hpm hcp => hp'' p ?_ hcp⟩
    · rw [rmI_comm]
      refine hc'.mono_pend ?_
      split
      · exact PLe.cons rfl (fun W h => lift W h) (PLe.refl pend)
      · exact PLe.refl pend
    · split
      · exact List.mem_cons_of_mem _ hpm
      · exact hpm
  | @skip rest pend a w k mk ox hmk hfk hox hwk hc ih =>
    intro hp hm hf
    have hki : k ≠ i := by
      intro e
      subst e
      have h0 := hp _ hm _ hmk
      unfold pairM at h0
      simp [It.ix, It.isSt] at h0
    obtain ⟨hmx, ox', o', e1, e2, hap⟩ := pair_apart (hp _ hmk _ hm) (by simpa [It.ix] using hki) hmk hm hfk hf
    simp only [It.ix] at e1 e2 hmx
    obtain rfl : ox = ox' := Option.some.inj (hox.symm.trans e1)
    obtain rfl : o = o' := Option.some.inj (ho.symm.trans e2)
    obtain ⟨h1, h2, h3⟩ := Oper.apart_spec hap
    have hp' : ∀ x ∈ rmI rest k, ∀ y ∈ rmI rest k, pairM ops D x y = true := fun x hx y hy => hp x (mem_rmI.1 hx).1 y (mem_rmI.1 hy).1
    have hr := ih hp' (mem_rmI.2 ⟨hm, fun e => hki e.symm⟩) (freeB_rmI k hf)
    refine ef_mono (fun a' w' hk => ?_) (ef_put hap hso hr)
    obtain ⟨⟨u, ds, ha'⟩, hc', hp''⟩ := hk
    have hwa : Region.wanted ox (yielded ops a'.tmps) = false := by
      have e := wanted_put ox ({ a with defers := ds } : Act) o.dst u h3
      rw [ha', e]
      exact hwk
    exact ⟨.skip (mem_rmI.2 ⟨hmk, hki⟩) (freeB_rmI i hfk) hox hwa (by rw [rmI_comm]; exact hc'), hp''⟩
  | ef R hne hns h1 h2 h3 ih =>
    intro hp hm hf
    obtain ⟨o', ho', hwp⟩ := h1 i re hm hf
    obtain rfl : o = o' := Option.some.inj (ho.symm.trans ho')
    exact ef_mono (fun a' w' hr => ⟨h3 i re hm hf a' w' hr, fun p hpm hc => ReAll.mem (h2 i re hm hf a' w' hr) p hpm hc⟩) hwp

theorem CanM.nil_iff {D : List (List Nat)} {Q : Act → World → Prop} {rest : List It} {pend : Pend} {a : Act} {w : World} (h : CanM P ops D Q rest pend a w) (hr : rest = []) : Q a w := by
  cases h with
  | nil h => exact h
  | st _ hm => rw [hr] at hm; cases hm
  | skip hm => rw [hr] at hm; cases hm
  | ef _ hne => exact absurd hr hne

theorem wpAny_of_canM {D : List (List Nat)} {Q : Exit → Act → World → Prop} (hsel : Region.noSelect ops = true) (hT : tableB ops D = true) :
    ∀ (n : Nat) (rest : List It) (listed : Array Bool) (a : Act) (w : World), rest.length = n → Inv ops listed → (∀ x ∈ rest, ∀ y ∈ rest, pairM ops D x y = true) →
      (∀ i, i < ops.size → (listed.getD i false = false ↔ i ∈ rest.map It.ix)) → (∀ x ∈ rest, x.ix < ops.size) → (rest.map It.ix).Nodup →
      CanM P ops D (Q .normal) rest [] a w → wpAny P .any ops Q n listed a w
  | 0, rest, listed, a, w, hn, inv, _, hl, _, _, h => by
    have hr : rest = [] := List.eq_nil_of_length_eq_zero hn
    refine ⟨?_, h.nil_iff hr⟩
    subst hr
    cases hrd : Region.ready .any ops listed with
    | nil => rfl
    | cons i r =>
      have hi : i ∈ Region.ready .any ops listed := by rw [hrd]; exact List.mem_cons_self
      obtain ⟨hu, o, ho, _⟩ := mem_ready.1 hi
      have := (hl i (Array.getElem?_eq_some_iff.1 ho).1).1 (getD_both hu)
      cases this
  | n + 1, rest, listed, a, w, hn, inv, hp, hl, hlt, hnd, h => by
    constructor
    · intro h0
      cases rest with
      | nil => cases hn
      | cons x r =>
        have hx := hlt x List.mem_cons_self
        exact absurd h0 (ready_of_unlisted hT inv hx ((hl x.ix hx).2 (by simp)))
    · intro i hi
      obtain ⟨hu, o, ho, hall⟩ := mem_ready.1 hi
      have hilt : i < ops.size := (Array.getElem?_eq_some_iff.1 ho).1
      have him := (hl i hilt).1 (getD_both hu)
      obtain ⟨it, hit, rfl⟩ := List.mem_map.1 him
      have hanc := table_spec hT inv it.ix o ho hall
      have hso : ∀ cs b, o.op ≠ .select cs b := fun cs b => Region.noSelect_spec hsel _ o cs b ho
      have hfree : freeB D rest it.ix = true := by
        unfold freeB
        rw [List.all_eq_true]
        intro d hd
        simp only [Bool.not_eq_true', List.any_eq_false, beq_iff_eq]
        intro y hy e
        have h1 := hanc d hd
        have h2 := (hl y.ix (hlt y hy)).2 (List.mem_map.2 ⟨y, hy, rfl⟩)
        rw [e, h1] at h2
        cases h2
      have inv' : Inv ops (listed.setIfInBounds it.ix true) := by
        refine ⟨by simp [inv.size], fun j oj hj hlj e he hb => ?_⟩
        by_cases hij : it.ix = j
        · subst hij
          have : oj = o := Option.some.inj (hj.symm.trans ho)
          subst this
          exact getD_set_true (hall e he hb)
        · rw [getD_set_ne false hij] at hlj
          exact getD_set_true (inv.closed j oj hj hlj e he hb)
      have hnd' : ((rmI rest it.ix).map It.ix).Nodup := hnd.sublist (List.Sublist.map _ List.filter_sublist)
      have hl' : ∀ j, j < ops.size → ((listed.setIfInBounds it.ix true).getD j false = false ↔ j ∈ (rmI rest it.ix).map It.ix) := by
        intro j hj
        by_cases hij : it.ix = j
        · subst hij
          have hls : it.ix < listed.size := by rw [inv.size]; exact hj
          have e : (listed.setIfInBounds it.ix true).getD it.ix false = true := by simp [hls]
          rw [e]
          refine ⟨fun h => (by cases h), fun h => ?_⟩
          obtain ⟨y, hy, e⟩ := List.mem_map.1 h
          exact absurd e (mem_rmI.1 hy).2
        · rw [getD_set_ne false hij, hl j hj]
          constructor
          · intro h
            obtain ⟨y, hy, rfl⟩ := List.mem_map.1 h
            exact List.mem_map.2 ⟨y, mem_rmI.2 ⟨hy, fun e => hij e.symm⟩, rfl⟩
          · intro h
            obtain ⟨y, hy, rfl⟩ := List.mem_map.1 h
            exact List.mem_map.2 ⟨y, (mem_rmI.1 hy).1, rfl⟩
      have hlt' : ∀ x ∈ rmI rest it.ix, x.ix < ops.size := fun x hx => hlt x (mem_rmI.1 hx).1
      have hlen : (rmI rest it.ix).length = n := by
        obtain ⟨l1, l2, rfl⟩ := List.append_of_mem hit
        have hni : ∀ y ∈ l1 ++ l2, y.ix ≠ it.ix := by
          intro y hy e
          simp only [List.map_append, List.map_cons, List.nodup_append, List.nodup_cons, List.mem_cons] at hnd
          rcases List.mem_append.1 hy with h' | h'
          · exact hnd.2.2 y.ix (List.mem_map.2 ⟨y, h', rfl⟩) it.ix (.inl rfl) e
          · exact hnd.2.1.1 (List.mem_map.2 ⟨y, h', e⟩)
        have e1 : ∀ l : List It, (∀ y ∈ l, y.ix ≠ it.ix) → l.filter (fun y => y.ix != it.ix) = l := fun l hl => List.filter_eq_self.2 (fun y hy => by simpa using hl y hy)
        unfold rmI
        rw [List.filter_append, List.filter_cons, e1 l1 (fun y hy => hni y (List.mem_append_left _ hy)), e1 l2 (fun y hy => hni y (List.mem_append_right _ hy))]
        simp only [bne_self_eq_false, Bool.false_eq_true, if_false]
        simp only [List.length_append, List.length_cons] at hn ⊢
        omega
      have hp' : ∀ x ∈ rmI rest it.ix, ∀ y ∈ rmI rest it.ix, pairM ops D x y = true := fun x hx y hy => hp x (mem_rmI.1 hx).1 y (mem_rmI.1 hy).1
      have go := fun a' w' => wpAny_of_canM (Q := Q) hsel hT n (rmI rest it.ix) (listed.setIfInBounds it.ix true) a' w' hlen inv' hp' hl' hlt' hnd'
      cases it with
      | st k mk =>
        simp only [It.ix] at ho hfree
        rcases front_st hsel h ho hp hit hfree with ⟨hw, u, hu, hc⟩ | ⟨hw, hc⟩
        · unfold wpOp
          simp only [It.ix, ho, hw, if_true]
          left
          exact Oper.wp_of_quiet (C := fun X => X = w) rfl (fun a' w' hw' ha' => by subst hw'; subst ha'; exact go _ _ hc) hu
        · unfold wpOp
          simp only [It.ix, ho, hw]
          exact go _ _ hc
      | ef k re =>
        simp only [It.ix] at ho hfree
        exact wpOp_of_ef ho (ef_mono (fun a' w' hk => go _ _ hk.1) (front_ef hsel h ho hp hit hfree))
def pairsM (ops : Array Oper) (D : List (List Nat)) (its : List It) : Bool := its.all fun x => its.all fun y => pairM ops D x y
def canMB (ops : Array Oper) (D : List (List Nat)) (its : List It) : Bool :=
  Region.noSelect ops && tableB ops D && pairsM ops D its && decide (its.length = ops.size) &&
    (List.range ops.size).all (fun i => (its.map It.ix).contains i) && decide ((its.map It.ix).Nodup) && its.all (fun x => decide (x.ix < ops.size))
end

/-- A REGION THAT DRAWS ITS ORDER: every order of its writers. -/
theorem wp_region_canM {P : Program} {id : Nat} {Q : Exit → Act → World → Prop} {a : Act} {w : World} {l : List Oper} (D : List (List Nat)) (its : List It) (hm : P.follows .mixedOrders = true)
    (hB : canMB l.toArray D its = true) (h : CanM P l.toArray D (Q .normal) its [] a w.drew) : (Code.region id l.toArray true).wp P Q a w := by
  simp only [canMB, Bool.and_eq_true, decide_eq_true_eq] at hB
  obtain ⟨⟨⟨⟨⟨⟨hsel, hT⟩, hP⟩, hlen⟩, hall⟩, hnd⟩, hlt⟩ := hB
  have hmem : ∀ i, i < l.toArray.size → i ∈ its.map It.ix := fun i hi => by
    have := List.all_eq_true.1 hall i (List.mem_range.2 hi)
    simpa using this
  refine wp_region_any hm ?_
  rw [← hlen]
  exact wpAny_of_canM (D := D) hsel hT its.length its _ a w.drew rfl ⟨by simp [hlen], fun j oj _ hl => (by rw [getD_replicate_false] at hl; cases hl)⟩
    (fun x hx y hy => List.all_eq_true.1 (List.all_eq_true.1 hP x hx) y hy)
    (fun i hi => ⟨fun _ => hmem i hi, fun _ => getD_replicate_false _ _⟩) (fun x hx => by simpa using List.all_eq_true.1 hlt x hx) hnd h

/-! ### The steps of such a walk -/
section
variable {P : Program} {l : List Oper} {D : List (List Nat)} {Q : Act → World → Prop} {i : Nat} {rest rest' : List It} {pend : Pend} {a : Act} {w : World} {o : Oper}
/-- The next still operation that waits for nothing, and what is left. -/
def nextM (D : List (List Nat)) (rest : List It) : Option (Nat × Md × List It) :=
  match rest.find? (fun x => x.isSt && freeB D rest x.ix) with
  | some (.st i md) => some (i, md, rmI rest i)
  | _ => none
theorem nextM_spec {md : Md} (h : nextM D rest = some (i, md, rest')) : It.st i md ∈ rest ∧ freeB D rest i = true ∧ rest' = rmI rest i := by
  unfold nextM at h
  split at h
  · rename_i i' md' hf
    have h1 := List.find?_some hf
    have h2 := List.mem_of_find?_eq_some hf
    injection h with h
    injection h with e1 h
    injection h with e2 e3
    subst e1; subst e2
    simp only [Bool.and_eq_true, It.ix] at h1
    exact ⟨h2, h1.2, e3.symm⟩
  · cases h
theorem canm_drop (hn : nextM D rest = some (i, .drop, rest')) (ho' : l[i]? = some o) (hw : Region.wanted o (yielded l.toArray a.tmps) = true)
    (h : ∀ K : Act → Prop, (∀ a', CanM P l.toArray D Q rest' pend a' w → K a') → o.quiet P a (fun X => X = w) K) : CanM P l.toArray D Q rest pend a w := by
  obtain ⟨hm, hf, rfl⟩ := nextM_spec hn
  obtain ⟨v, hv, hk⟩ := h (fun a' => CanM P l.toArray D Q (rmI rest i) pend a' w) (fun _ h => h)
  exact .st _ hm hf (by simpa using ho') hw ⟨v, hv, rfl⟩ (fun h => (by cases h)) hk
theorem canm_keep (hn : nextM D rest = some (i, .keep, rest')) (ho' : l[i]? = some o) (hw : Region.wanted o (yielded l.toArray a.tmps) = true)
    (h : ∀ K : Act → Prop, (∀ a', CanM P l.toArray D Q rest' ((i, o, a, a') :: pend) a' w → K a') → o.quiet P a (fun X => X = w) K) : CanM P l.toArray D Q rest pend a w := by
  obtain ⟨hm, hf, rfl⟩ := nextM_spec hn
  obtain ⟨v, hv, hk⟩ := h (fun a' => CanM P l.toArray D Q (rmI rest i) ((i, o, a, a') :: pend) a' w) (fun _ h => h)
  exact .st _ hm hf (by simpa using ho') hw ⟨v, hv, rfl⟩ (fun h => (by cases h)) hk
theorem canm_pure (a' : Act) (hn : nextM D rest = some (i, .pure, rest')) (ho' : l[i]? = some o) (hw : Region.wanted o (yielded l.toArray a.tmps) = true)
    (h : ∀ (W : World) (K : Act → Prop), K a' → o.quiet P a (fun X => X = W) K) (hk : CanM P l.toArray D Q rest' pend a' w) : CanM P l.toArray D Q rest pend a w := by
  obtain ⟨hm, hf, rfl⟩ := nextM_spec hn
  exact .st a' hm hf (by simpa using ho') hw (h w _ rfl) (fun _ W => h W _ rfl) hk
theorem canm_skip {md : Md} (hn : nextM D rest = some (i, md, rest')) (ho' : l[i]? = some o) (hw : Region.wanted o (yielded l.toArray a.tmps) = false)
    (h : CanM P l.toArray D Q rest' pend (a.put o.dst undef) w) : CanM P l.toArray D Q rest pend a w := by
  obtain ⟨hm, hf, rfl⟩ := nextM_spec hn
  exact .skip hm hf (by simpa using ho') hw h
/-- The writers that wait for nothing, where nothing still does. -/
def efsM (D : List (List Nat)) (rest : List It) : Option (List (Nat × List Nat × List It)) :=
  if rest.any (fun x => x.isSt && freeB D rest x.ix) || rest.isEmpty then none
  else some (rest.filterMap fun x => match x with
    | .ef i re => if freeB D rest i = true then some (i, re, rmI rest i) else none
    | .st _ _ => none)
def EfsM (P : Program) (l : List Oper) (D : List (List Nat)) (Q : Act → World → Prop) (pend : Pend) (a : Act) (w : World) : List (Nat × List Nat × List It) → Prop
  | [] => True
  | b :: r => (∃ o, l[b.1]? = some o ∧ ∀ K : Act → World → Prop, (∀ a' w', ReAll P b.2.1 w' pend ∧ CanM P l.toArray D Q b.2.2 pend a' w' → K a' w') → wpList P l.toArray (OnlyN K) [o] a w) ∧ EfsM P l D Q pend a w r
theorem EfsM.mem {bs : List (Nat × List Nat × List It)} (h : EfsM P l D Q pend a w bs) : ∀ b ∈ bs, ∃ o, l[b.1]? = some o ∧ wpList P l.toArray (OnlyN fun a' w' => ReAll P b.2.1 w' pend ∧ CanM P l.toArray D Q b.2.2 pend a' w') [o] a w := by
  induction bs with
  | nil => intro b hb; cases hb
  | cons c r ih =>
    intro b hb
    rcases List.mem_cons.1 hb with rfl | hb
    · obtain ⟨o, h1, h2⟩ := h.1
      exact ⟨o, h1, h2 _ (fun _ _ h => h)⟩
    · exact ih h.2 b hb
theorem canm_ef {bs : List (Nat × List Nat × List It)} (hb : efsM D rest = some bs) (h : EfsM P l D Q pend a w bs) : CanM P l.toArray D Q rest pend a w := by
  unfold efsM at hb
  split at hb
  · cases hb
  · rename_i hn
    injection hb with hb
    simp only [Bool.or_eq_true, not_or, Bool.not_eq_true] at hn
    have hmem : ∀ i re, It.ef i re ∈ rest → freeB D rest i = true → (i, re, rmI rest i) ∈ bs := by
      intro i re hm hf
      rw [← hb]
      exact List.mem_filterMap.2 ⟨_, hm, by simp [hf]⟩
    have hne : rest ≠ [] := by
      intro e
      rw [e] at hn
      simp at hn
    refine .ef (fun i re a' w' => ReAll P re w' pend ∧ CanM P l.toArray D Q (rmI rest i) pend a' w') hne ?_ ?_ ?_ ?_
    · intro i md hm
      have h1 := hn.1
      rw [List.any_eq_false] at h1
      have h2 := h1 _ hm
      simpa [It.isSt, It.ix] using h2
    · intro i re hm hf
      obtain ⟨o, h1, h2⟩ := h.mem _ (hmem i re hm hf)
      exact ⟨o, by simpa using h1, h2⟩
    · intro i re hm _ a' w' hr; exact hr.1
    · intro i re hm _ a' w' hr; exact hr.2
/-- The still operations ahead of all writers, in the order of a list. -/
def CanPre (P : Program) (l : List Oper) (D : List (List Nat)) (Q : Act → World → Prop) (post : List It) : List It → Pend → Act → World → Prop
  | [], pend, a, w => CanM P l.toArray D Q post pend a w
  | .st i md :: r, pend, a, w =>
    match l[i]? with
    | none => False
    | some o =>
      if Region.wanted o (yielded l.toArray a.tmps) = true then
        ∃ a', YA P o a w a' ∧ (md = .pure → ∀ W, YA P o a W a') ∧ CanPre P l D Q post r (if md = .keep then (i, o, a, a') :: pend else pend) a' w
      else CanPre P l D Q post r pend (a.put o.dst undef) w
  | .ef _ _ :: _, _, _, _ => False
def preB (D : List (List Nat)) (post : List It) : List It → Bool
  | [] => true
  | x :: r => freeB D (x :: (r ++ post)) x.ix && !((r ++ post).any fun y => y.ix == x.ix) && preB D post r
theorem canm_of_pre {post : List It} : ∀ (pre : List It) (pend : Pend) (a : Act) (w : World), preB D post pre = true → CanPre P l D Q post pre pend a w → CanM P l.toArray D Q (pre ++ post) pend a w
  | [], _, _, _, _, h => h
  | .ef _ _ :: _, _, _, _, _, h => h.elim
  | .st i md :: r, pend, a, w, hB, h => by
    simp only [preB, Bool.and_eq_true, Bool.not_eq_true', It.ix] at hB
    obtain ⟨⟨h1, h2⟩, h3⟩ := hB
    have hrm : rmI (.st i md :: (r ++ post)) i = r ++ post := by
      unfold rmI
      rw [List.filter_cons]
      simp only [It.ix, bne_self_eq_false, Bool.false_eq_true, if_false]
      rw [List.filter_eq_self]
      intro y hy
      rw [List.any_eq_false] at h2
      have := h2 y hy
      simpa using this
    unfold CanPre at h
    split at h
    · exact h.elim
    · rename_i o ho
      split at h
      · rename_i hw
        obtain ⟨a', ha, hp, hk⟩ := h
        refine .st a' (List.mem_cons_self) h1 (by simpa using ho) hw ha hp ?_
        have := canm_of_pre r _ _ _ h3 hk
        rw [List.cons_append, hrm]
        exact this
      · rename_i hw
        refine .skip (List.mem_cons_self) h1 (by simpa using ho) (by simpa using hw) ?_
        have := canm_of_pre r _ _ _ h3 h
        rw [List.cons_append, hrm]
        exact this
variable {post : List It}
theorem cpre_iff (ho : l[i]? = some o) {md : Md} :
    CanPre P l D Q post (.st i md :: rest) pend a w ↔
      (Region.wanted o (yielded l.toArray a.tmps) = true ∧ ∃ a', YA P o a w a' ∧ (md = .pure → ∀ W, YA P o a W a') ∧ CanPre P l D Q post rest (if md = .keep then (i, o, a, a') :: pend else pend) a' w) ∨
      (Region.wanted o (yielded l.toArray a.tmps) = false ∧ CanPre P l D Q post rest pend (a.put o.dst undef) w) := by
  rw [CanPre]
  simp only [ho]
  by_cases hw : Region.wanted o (yielded l.toArray a.tmps) = true
  · simp [hw]
  · simp [hw]
theorem cpre_drop (ho' : l[i]? = some o) (hw : Region.wanted o (yielded l.toArray a.tmps) = true)
    (h : ∀ K : Act → Prop, (∀ a', CanPre P l D Q post rest pend a' w → K a') → o.quiet P a (fun X => X = w) K) : CanPre P l D Q post (.st i .drop :: rest) pend a w := by
  obtain ⟨v, hv, hk⟩ := h (fun a' => CanPre P l D Q post rest pend a' w) (fun _ h => h)
  exact (cpre_iff ho').2 (.inl ⟨hw, _, ⟨v, hv, rfl⟩, fun h => (by cases h), hk⟩)
theorem cpre_keep (ho' : l[i]? = some o) (hw : Region.wanted o (yielded l.toArray a.tmps) = true)
    (h : ∀ K : Act → Prop, (∀ a', CanPre P l D Q post rest ((i, o, a, a') :: pend) a' w → K a') → o.quiet P a (fun X => X = w) K) : CanPre P l D Q post (.st i .keep :: rest) pend a w := by
  obtain ⟨v, hv, hk⟩ := h (fun a' => CanPre P l D Q post rest ((i, o, a, a') :: pend) a' w) (fun _ h => h)
  exact (cpre_iff ho').2 (.inl ⟨hw, _, ⟨v, hv, rfl⟩, fun h => (by cases h), hk⟩)
theorem cpre_pure (a' : Act) (ho' : l[i]? = some o) (hw : Region.wanted o (yielded l.toArray a.tmps) = true)
    (h : ∀ (W : World) (K : Act → Prop), K a' → o.quiet P a (fun X => X = W) K) (hk : CanPre P l D Q post rest pend a' w) : CanPre P l D Q post (.st i .pure :: rest) pend a w :=
  (cpre_iff ho').2 (.inl ⟨hw, a', h w _ rfl, fun _ W => h W _ rfl, hk⟩)
theorem cpre_skip {md : Md} (ho' : l[i]? = some o) (hw : Region.wanted o (yielded l.toArray a.tmps) = false)
    (h : CanPre P l D Q post rest pend (a.put o.dst undef) w) : CanPre P l D Q post (.st i md :: rest) pend a w :=
  (cpre_iff ho').2 (.inr ⟨hw, h⟩)
theorem cpre_nil (h : CanM P l.toArray D Q post pend a w) : CanPre P l D Q post [] pend a w := h
theorem canm_nil (h : Q a w) : CanM P l.toArray D Q [] pend a w := .nil h
end
#print axioms wp_region_canM
#print axioms canm_ef
end Go.Proofs.YtkmknpobinpegaaDoor
