/- A region that draws its order comes to what one fixed order comes to: conditions: the operations whose order is open leave the world as it is, or are ahead of one chain of operations that do not. -/
import Derived.StillTactics
import Derived.OwnWalk
import Derived.StillTail
import Derived.Deep.Quiet
import Derived.KernelRfl
namespace Go.Proofs.YtkmknpobinpegaaDoor
open Go

section
variable {P : Program} {ops : Array Oper}

/-- Only the normal exit. -/
abbrev OnlyN (K : Act → World → Prop) : Exit → Act → World → Prop
  | .normal, a, w => K a w
  | _, _, _ => False

/-- Carried out in frame a and world W the operation leaves the world as it is, and the frame a'. -/
def YA (P : Program) (o : Oper) (a : Act) (W : World) (a' : Act) : Prop := o.quiet P a (fun X => X = W) (fun x => x = a')

theorem YA_iff {o : Oper} {a a' : Act} {W : World} : YA P o a W a' ↔ ∃ v, Oper.quietUpon P (fun X => X = W) W v ((execOp a.eval o).run P W) ∧ a.put o.dst v = a' := by
  unfold YA Oper.quiet Oper.quietAt
  constructor
  · rintro ⟨v, h1, h2⟩; exact ⟨v, h1 W rfl, h2⟩
  · rintro ⟨v, h1, h2⟩; exact ⟨v, fun w hw => by subst hw; exact h1, h2⟩

/-- drop: nothing that writes can come ahead of it that it does not wait for · keep: it is looked at again behind each writer that may · pure: it is the same in every world. -/
inductive Md where
  | drop
  | keep
  | pure
  deriving DecidableEq
/-- An operation's place: one that leaves the world, or one that does not ('re': which are looked at again behind it). -/
inductive It where
  | st (i : Nat) (md : Md)
  | ef (i : Nat) (re : List Nat)
def It.ix : It → Nat
  | .st i _ => i
  | .ef i _ => i
def It.isSt : It → Bool
  | .st _ _ => true
  | .ef _ _ => false

abbrev Pend := List (Nat × Oper × Act × Act)

def ReAll (P : Program) (re : List Nat) (w : World) : Pend → Prop
  | [] => True
  | p :: r => (if re.contains p.1 = true then YA P p.2.1 p.2.2.1 w p.2.2.2 else True) ∧ ReAll P re w r

theorem ReAll.mem {re : List Nat} {w : World} : ∀ {l : Pend}, ReAll P re w l → ∀ p ∈ l, re.contains p.1 = true → YA P p.2.1 p.2.2.1 w p.2.2.2
  | [], _, p, hp, _ => (by cases hp)
  | q :: r, h, p, hp, hc => by
    rcases List.mem_cons.1 hp with rfl | hp
    · have h1 := h.1
      rw [if_pos hc] at h1
      exact h1
    · exact ReAll.mem h.2 p hp hc

/-- The region's operations in the order that the list tells. -/
def Can (P : Program) (ops : Array Oper) (Q : Act → World → Prop) : List It → Pend → Act → World → Prop
  | [], _, a, w => Q a w
  | .st i md :: rest, pend, a, w =>
    match ops[i]? with
    | none => False
    | some o =>
      if Region.wanted o (yielded ops a.tmps) = true then
        ∃ a', YA P o a w a' ∧ (md = .pure → ∀ W, YA P o a W a') ∧ Can P ops Q rest (if md = .keep then (i, o, a, a') :: pend else pend) a' w
      else Can P ops Q rest pend (a.put o.dst undef) w
  | .ef i re :: rest, pend, a, w =>
    match ops[i]? with
    | none => False
    | some o => wpList P ops (OnlyN fun a' w' => ReAll P re w' pend ∧ Can P ops Q rest pend a' w') [o] a w

theorem wp_of_onlyN {o : Oper} {a : Act} {w : World} {K K' : Act → World → Prop} {Q : Exit → Act → World → Prop} (h : o.wp P a w K (OnlyN K')) : o.wp P a w K Q := by
  unfold Oper.wp at *
  generalize (execOp a.eval o).run P w = r at *
  cases r with
  | ok n w' =>
    cases n <;> simp only [Oper.upon] at h ⊢ <;> try exact h
    case enter f args =>
      exact Calls.mono h (fun e w'' he => by
        cases e with
        | returned v => exact he
        | panicked c => exact he.elim
        | outgrown => obtain ⟨_, _, h⟩ := he; exact h.elim)
  | halt x w' => cases x <;> simp only [Oper.upon] at h <;> exact h.elim

theorem wpOp_of_ef {i : Nat} {o : Oper} {a : Act} {w : World} {K : Act → World → Prop} {Q : Exit → Act → World → Prop} (ho : ops[i]? = some o)
    (h : wpList P ops (OnlyN K) [o] a w) : wpOp P ops Q i K a w := by
  unfold wpOp
  simp only [ho]
  unfold wpList at h
  split
  · rename_i hw
    rw [if_pos hw] at h
    rcases h with h | ⟨_, _, _, h⟩
    · exact .inl (wp_of_onlyN h)
    · exact h.elim
  · rename_i hw
    rw [if_neg hw] at h
    exact h

/-- An operation that writes, taken ahead of one that leaves the world: its operands are the same. -/
theorem ef_put {x o : Oper} {v : Value} {a : Act} {w : World} {K : Act → World → Prop} (hap : x.apart ops o = true)
    (hso : ∀ cs b, o.op ≠ .select cs b) (h : wpList P ops (OnlyN K) [o] (a.put x.dst v) w) :
    wpList P ops (OnlyN fun a' w' => (∃ u ds, a' = ({ a with defers := ds } : Act).put o.dst u) ∧ K (a'.put x.dst v) w') [o] a w := by
  obtain ⟨h1, h2, h3⟩ := Oper.apart_spec hap
  unfold wpList at *
  rw [wanted_put o a x.dst v h1] at h
  split
  · rename_i hw
    rw [if_pos hw] at h
    rcases h with h | ⟨_, _, _, h⟩
    · left
      unfold Oper.wp at *
      rw [execOp_put o hso a x.dst v h1] at h
      generalize (execOp a.eval o).run P w = r at *
      cases r with
      | ok n w' =>
        cases n <;> simp only [Oper.upon, wpList] at h ⊢
        case value u => exact ⟨⟨u, a.defers, rfl⟩, by rw [← Act.put_comm a v u h2]; exact h⟩
        case skip => exact ⟨⟨_, a.defers, rfl⟩, by rw [← Act.put_comm a v undef h2]; exact h⟩
        case defer d =>
          refine ⟨⟨undef, d :: a.defers, rfl⟩, ?_⟩
          rw [Act.put_defers] at h
          rw [← Act.put_comm _ v undef h2]; exact h
        case enter f args =>
          exact Calls.mono h (fun e w'' he => by
            cases e with
            | returned u => exact ⟨⟨u, a.defers, rfl⟩, by rw [← Act.put_comm a v u h2]; exact he⟩
            | panicked c => exact he.elim
            | outgrown => obtain ⟨_, _, h⟩ := he; exact h.elim)
        case row rw' args => exact Rows.mono h (fun u w'' he => ⟨⟨u, a.defers, rfl⟩, by rw [← Act.put_comm a v u h2]; exact he⟩)
      | halt y w' => cases y <;> simp only [Oper.upon] at h <;> exact h.elim
    · exact h.elim
  · rename_i hw
    rw [if_neg hw] at h
    exact ⟨⟨undef, a.defers, rfl⟩, by rw [← Act.put_comm a v undef h2]; exact h⟩

theorem ef_mono {o : Oper} {a : Act} {w : World} {K K' : Act → World → Prop} (hk : ∀ a w, K a w → K' a w) (h : wpList P ops (OnlyN K) [o] a w) : wpList P ops (OnlyN K') [o] a w := by
  unfold wpList at *
  split
  · rename_i hw
    rw [if_pos hw] at h
    rcases h with h | ⟨_, _, _, h⟩
    · exact .inl (wp_of_onlyN (Oper.wp_mono (fun a w h => hk a w h) h))
    · exact h.elim
  · rename_i hw
    rw [if_neg hw] at h
    exact hk _ _ h

theorem can_st_iff {Q : Act → World → Prop} {i : Nat} {md : Md} {rest : List It} {pend : Pend} {a : Act} {w : World} {o : Oper} (ho : ops[i]? = some o) :
    Can P ops Q (.st i md :: rest) pend a w ↔
      (Region.wanted o (yielded ops a.tmps) = true ∧ ∃ a', YA P o a w a' ∧ (md = .pure → ∀ W, YA P o a W a') ∧ Can P ops Q rest (if md = .keep then (i, o, a, a') :: pend else pend) a' w) ∨
      (Region.wanted o (yielded ops a.tmps) = false ∧ Can P ops Q rest pend (a.put o.dst undef) w) := by
  rw [Can]
  simp only [ho]
  by_cases hw : Region.wanted o (yielded ops a.tmps) = true
  · simp [hw]
  · simp [hw]

/-- What is looked at again: the one list's looks give the other's. -/
def PLe (P : Program) (pend pend' : Pend) : Prop := ∀ p' ∈ pend', ∃ p ∈ pend, p.1 = p'.1 ∧ ∀ W, YA P p.2.1 p.2.2.1 W p.2.2.2 → YA P p'.2.1 p'.2.2.1 W p'.2.2.2
theorem PLe.refl (pend : Pend) : PLe P pend pend := fun p h => ⟨p, h, rfl, fun _ h => h⟩
theorem PLe.tail {pend pend' : Pend} (q : Nat × Oper × Act × Act) (h : PLe P pend pend') : PLe P (q :: pend) pend' := fun p hp =>
  let ⟨p', h1, h2⟩ := h p hp; ⟨p', List.mem_cons_of_mem _ h1, h2⟩
theorem PLe.cons {pend pend' : Pend} {q q' : Nat × Oper × Act × Act} (h0 : q.1 = q'.1) (hq : ∀ W, YA P q.2.1 q.2.2.1 W q.2.2.2 → YA P q'.2.1 q'.2.2.1 W q'.2.2.2) (h : PLe P pend pend') : PLe P (q :: pend) (q' :: pend') := fun p hp => by
  rcases List.mem_cons.1 hp with rfl | hp
  · exact ⟨q, List.mem_cons_self, h0, hq⟩
  · obtain ⟨p', h1, h2⟩ := h p hp; exact ⟨p', List.mem_cons_of_mem _ h1, h2⟩

theorem Can.mono_pend {Q : Act → World → Prop} : ∀ {rest : List It} {pend pend' : Pend} {a : Act} {w : World},
    PLe P pend pend' → Can P ops Q rest pend a w → Can P ops Q rest pend' a w
  | [], _, _, _, _, _, h => h
  | .st i md :: rest, pend, pend', a, w, hp, h => by
    rw [Can] at *
    split
    · rename_i ho; rw [ho] at h; exact h
    · rename_i o ho
      simp only [ho] at h
      split
      · rename_i hw
        rw [if_pos hw] at h
        obtain ⟨a', h1, h2, hk⟩ := h
        refine ⟨a', h1, h2, Can.mono_pend ?_ hk⟩
        split
        · exact PLe.cons rfl (fun _ h => h) hp
        · exact hp
      · rename_i hw
        rw [if_neg hw] at h
        exact Can.mono_pend hp h
  | .ef i re :: rest, pend, pend', a, w, hp, h => by
    rw [Can] at *
    split
    · rename_i ho; rw [ho] at h; exact h
    · rename_i o ho
      simp only [ho] at h
      refine ef_mono (fun a' w' hk => ⟨?_, Can.mono_pend hp hk.2⟩) h
      have hm := ReAll.mem hk.1
      clear hk h
      induction pend' with
      | nil => trivial
      | cons q r ih =>
        refine ⟨?_, ih (fun p h' => hp p (List.mem_cons_of_mem _ h'))⟩
        split
        · rename_i hc
          obtain ⟨p, h1, h2, h3⟩ := hp q List.mem_cons_self
          exact h3 _ (hm p h1 (by rw [h2]; exact hc))
        · trivial

/-- Two operations apart: the one, carried out behind the other's slot was written, leaves the frame with both. -/
theorem YA.put {x o : Oper} {a a' : Act} {W : World} {u : Value} (hsx : ∀ cs b, x.op ≠ .select cs b) (hap : x.apart ops o = true) (h : YA P x a W a') : YA P x (a.put o.dst u) W (a'.put o.dst u) := by
  obtain ⟨_, h2, h3⟩ := Oper.apart_spec hap
  obtain ⟨v, hv, rfl⟩ := YA_iff.1 h
  refine YA_iff.2 ⟨v, ?_, (Act.put_comm a v u h2).symm⟩
  rw [execOp_put x hsx a o.dst u h3]
  exact hv

/-- The other way: an operation taken behind x comes to the same ahead of it. -/
theorem YA.unput {x o : Oper} {a b : Act} {W : World} {v : Value} (hso : ∀ cs b, o.op ≠ .select cs b) (hap : x.apart ops o = true) (h : YA P o (a.put x.dst v) W b) : ∃ u, YA P o a W (a.put o.dst u) ∧ b = (a.put o.dst u).put x.dst v := by
  obtain ⟨h1, h2, _⟩ := Oper.apart_spec hap
  obtain ⟨u, hu, rfl⟩ := YA_iff.1 h
  rw [execOp_put o hso a x.dst v h1] at hu
  exact ⟨u, YA_iff.2 ⟨u, hu, rfl⟩, Act.put_comm a v u h2⟩

/-- One that leaves the world, taken ahead of others that do. -/
theorem can_front_st {Q : Act → World → Prop} {i : Nat} {md : Md} {o : Oper} {l2 : List It} (ho : ops[i]? = some o) (hso : ∀ cs b, o.op ≠ .select cs b) :
    ∀ (l1 : List It) (pend : Pend) (a : Act) (w : World),
      (∀ x ∈ l1, x.isSt = true ∧ ∃ ox, ops[x.ix]? = some ox ∧ ox.apart ops o = true ∧ ∀ cs b, ox.op ≠ .select cs b) →
      Can P ops Q (l1 ++ .st i md :: l2) pend a w →
      (Region.wanted o (yielded ops a.tmps) = true ∧ ∃ u, YA P o a w (a.put o.dst u) ∧ Can P ops Q (l1 ++ l2) pend (a.put o.dst u) w) ∨
      (Region.wanted o (yielded ops a.tmps) = false ∧ Can P ops Q (l1 ++ l2) pend (a.put o.dst undef) w)
  | [], pend, a, w, _, h => by
    rcases (can_st_iff ho).1 h with ⟨hw, a', hv, _, hc⟩ | ⟨hw, hc⟩
    · obtain ⟨u, _, rfl⟩ := YA_iff.1 hv
      refine .inl ⟨hw, u, hv, Can.mono_pend ?_ hc⟩
      split
      · exact (PLe.refl pend).tail _
      · exact PLe.refl pend
    · exact .inr ⟨hw, hc⟩
  | .ef _ _ :: _, _, _, _, hl, _ => by have := (hl _ List.mem_cons_self).1; simp [It.isSt] at this
  | .st x mx :: l1, pend, a, w, hl, h => by
    obtain ⟨_, ox, hox, hap, hsx⟩ := hl _ List.mem_cons_self
    simp only [It.ix] at hox
    obtain ⟨h1, h2, h3⟩ := Oper.apart_spec hap
    have key : ∀ (v : Value) (pend' : Pend), Can P ops Q (l1 ++ .st i md :: l2) pend' (a.put ox.dst v) w →
        (∀ u, Can P ops Q (l1 ++ l2) pend' ((a.put o.dst u).put ox.dst v) w → Can P ops Q (.st x mx :: (l1 ++ l2)) pend (a.put o.dst u) w) →
        (Region.wanted o (yielded ops a.tmps) = true ∧ ∃ u, YA P o a w (a.put o.dst u) ∧ Can P ops Q (.st x mx :: (l1 ++ l2)) pend (a.put o.dst u) w) ∨
        (Region.wanted o (yielded ops a.tmps) = false ∧ Can P ops Q (.st x mx :: (l1 ++ l2)) pend (a.put o.dst undef) w) := by
      intro v pend' hc hback
      rcases can_front_st ho hso l1 pend' _ w (fun y hy => hl y (List.mem_cons_of_mem _ hy)) hc with ⟨hw, u, hu, hc'⟩ | ⟨hw, hc'⟩
      · rw [wanted_put o a ox.dst v h1] at hw
        obtain ⟨u', hu', e⟩ := YA.unput hso hap hu
        rw [e] at hc'
        exact .inl ⟨hw, u', hu', hback u' hc'⟩
      · rw [wanted_put o a ox.dst v h1] at hw
        exact .inr ⟨hw, hback undef (by rw [← Act.put_comm a v undef h2]; exact hc')⟩
    rcases (can_st_iff hox).1 h with ⟨hw, a', hv, hpu, hc⟩ | ⟨hw, hc⟩
    · obtain ⟨v, _, rfl⟩ := YA_iff.1 hv
      refine key v _ hc (fun u hu => (can_st_iff hox).2 (.inl ⟨by rw [wanted_put ox a o.dst u h3]; exact hw, _, hv.put hsx hap, fun hm W => (hpu hm W).put hsx hap, ?_⟩))
      rw [← Act.put_comm a v u h2] at hu
      refine Can.mono_pend ?_ hu
      split
      · exact PLe.cons rfl (fun _ h => h.put hsx hap) (PLe.refl pend)
      · exact PLe.refl pend
    · exact key undef pend hc (fun u hu => (can_st_iff hox).2 (.inr ⟨by rw [wanted_put ox a o.dst u h3]; exact hw, hu⟩))

/-- One that writes, taken ahead of others that leave the world. -/
theorem can_front_ef {Q : Act → World → Prop} {i : Nat} {re : List Nat} {o : Oper} {l2 : List It} (ho : ops[i]? = some o) (hso : ∀ cs b, o.op ≠ .select cs b) :
    ∀ (l1 : List It) (pend : Pend) (a : Act) (w : World),
      (∀ x ∈ l1, ∃ ix mx, x = .st ix mx ∧ (mx = .pure ∨ (mx = .keep ∧ re.contains ix = true)) ∧ ∃ ox, ops[ix]? = some ox ∧ ox.apart ops o = true ∧ ∀ cs b, ox.op ≠ .select cs b) →
      Can P ops Q (l1 ++ .ef i re :: l2) pend a w →
      wpList P ops (OnlyN fun a' w' => Can P ops Q (l1 ++ l2) pend a' w' ∧ ∀ p ∈ pend, re.contains p.1 = true → YA P p.2.1 p.2.2.1 w' p.2.2.2) [o] a w
  | [], pend, a, w, _, h => by
    rw [List.nil_append, Can] at h
    simp only [ho] at h
    exact ef_mono (fun a' w' hk => ⟨hk.2, fun p hp hc => ReAll.mem hk.1 p hp hc⟩) h
  | x :: l1, pend, a, w, hl, h => by
    obtain ⟨ix, mx, rfl, hmx, ox, hox, hap, hsx⟩ := hl _ List.mem_cons_self
    obtain ⟨h1, h2, h3⟩ := Oper.apart_spec hap
    have hl' := fun y hy => hl y (List.mem_cons_of_mem _ hy)
    have hds : ∀ ds : List Deferred, execOp ({ a with defers := ds } : Act).eval ox = execOp a.eval ox := fun ds => execOp_congr ox hsx (fun x _ => by cases x <;> rfl)
    rcases (can_st_iff hox).1 h with ⟨hw, a1, hv, hpu, hc⟩ | ⟨hw, hc⟩
    · obtain ⟨v, _, rfl⟩ := YA_iff.1 hv
      have hr := can_front_ef ho hso l1 _ _ w hl' hc
      refine ef_mono (fun a' w' hk => ?_) (ef_put hap hso hr)
      obtain ⟨⟨u, ds, ha'⟩, hc', hp'⟩ := hk
      have hwa : Region.wanted ox (yielded ops a'.tmps) = true := by
        have e := wanted_put ox ({ a with defers := ds } : Act) o.dst u h3
        rw [ha', e]
        exact hw
      have lift : ∀ W, YA P ox a W (a.put ox.dst v) → YA P ox a' W (a'.put ox.dst v) := fun W hW => by
        obtain ⟨v', hv', e'⟩ := YA_iff.1 hW
        have hd : YA P ox ({ a with defers := ds } : Act) W (({ a with defers := ds } : Act).put ox.dst v) := by
          refine YA_iff.2 ⟨v', by rw [hds]; exact hv', ?_⟩
          cases hdst : ox.dst with
          | none => rfl
          | some d =>
            rw [hdst] at e'
            simp only [Act.put, Act.mk.injEq, and_true] at e' ⊢
            exact e'
        rw [ha', ← Act.put_comm _ v u h2]
        exact hd.put hsx hap
      have hvw : YA P ox a w' (a.put ox.dst v) := by
        rcases hmx with rfl | ⟨rfl, hre⟩
        · exact hpu rfl w'
        · exact hp' (ix, ox, a, a.put ox.dst v) (by rw [if_pos rfl]; exact List.mem_cons_self) hre
      refine ⟨(can_st_iff hox).2 (.inl ⟨hwa, _, lift w' hvw, fun hm W => lift W (hpu hm W), Can.mono_pend ?_ hc'⟩), fun p hp hcp => hp' p ?_ hcp⟩
      · split
        · exact PLe.cons rfl (fun W h => lift W h) (PLe.refl pend)
        · exact PLe.refl pend
      · split
        · exact List.mem_cons_of_mem _ hp
        · exact hp
    · have hr := can_front_ef ho hso l1 _ _ w hl' hc
      refine ef_mono (fun a' w' hk => ?_) (ef_put hap hso hr)
      obtain ⟨⟨u, ds, ha'⟩, hc', hp'⟩ := hk
      have hwa : Region.wanted ox (yielded ops a'.tmps) = false := by
        have e := wanted_put ox ({ a with defers := ds } : Act) o.dst u h3
        rw [ha', e]
        exact hw
      exact ⟨(can_st_iff hox).2 (.inr ⟨hwa, hc'⟩), hp'⟩

/-- May x stand ahead of i in the list, by these tables? -/
def pairB (ops : Array Oper) (D : List (List Nat)) (x i : It) : Bool :=
  (D.getD i.ix []).contains x.ix ||
    (match x, i with
     | .st _ _, .st _ _ => true
     | .st k md, .ef _ re => decide (md = .pure) || (decide (md = .keep) && re.contains k)
     | .ef _ _, _ => false) &&
    (match ops[x.ix]?, ops[i.ix]? with
     | some ox, some oi => ox.apart ops oi
     | _, _ => false)
def pairsB (ops : Array Oper) (D : List (List Nat)) : List It → Bool
  | [] => true
  | x :: r => r.all (pairB ops D x) && pairsB ops D r
/-- Each of i's ancestors by the table is reached by edges; edges go back. -/
def tableB (ops : Array Oper) (D : List (List Nat)) : Bool :=
  (List.range ops.size).all fun i => match ops[i]? with
    | none => false
    | some o =>
      (o.after.toList.all fun e => !Region.binds .any e || decide (e.on < i)) &&
      (D.getD i []).all fun x => o.after.toList.any fun e => Region.binds .any e && (e.on == x || (D.getD e.on []).contains x)
def canB (ops : Array Oper) (D : List (List Nat)) (its : List It) : Bool :=
  Region.noSelect ops && tableB ops D && pairsB ops D its && decide (its.length = ops.size) &&
    (List.range ops.size).all (fun i => (its.map It.ix).contains i) && decide ((its.map It.ix).Nodup) && its.all (fun x => decide (x.ix < ops.size))

structure Inv (ops : Array Oper) (listed : Array Bool) : Prop where
  size : listed.size = ops.size
  closed : ∀ j oj, ops[j]? = some oj → listed.getD j false = true → ∀ e ∈ oj.after, Region.binds .any e = true → listed.getD e.on false = true

theorem table_spec {D : List (List Nat)} (hB : tableB ops D = true) {listed : Array Bool} (inv : Inv ops listed) :
    ∀ (i : Nat) (o : Oper), ops[i]? = some o → (∀ e ∈ o.after, Region.binds .any e = true → listed.getD e.on false = true) → ∀ x ∈ D.getD i [], listed.getD x false = true := by
  intro i
  induction i using Nat.strongRecOn with
  | _ i ih =>
    intro o ho hr x hx
    have hi : i < ops.size := (Array.getElem?_eq_some_iff.1 ho).1
    have h := List.all_eq_true.1 hB i (List.mem_range.2 hi)
    simp only [ho, Bool.and_eq_true] at h
    obtain ⟨e, he, h2⟩ := List.any_eq_true.1 (List.all_eq_true.1 h.2 x hx)
    simp only [Bool.and_eq_true, Bool.or_eq_true, beq_iff_eq] at h2
    have hem : e ∈ o.after := by simpa using he
    have hl := hr e hem h2.1
    rcases h2.2 with h3 | h3
    · rw [← h3]; exact hl
    · have hlt := List.all_eq_true.1 h.1 e he
      simp only [h2.1, Bool.not_true, Bool.false_or, decide_eq_true_eq] at hlt
      have hlt' : e.on < ops.size := by omega
      exact ih e.on hlt ops[e.on] (by simp [hlt']) (fun e' he' hb' => inv.closed e.on _ (by simp [hlt']) hl e' he' hb') x (by simpa using h3)

theorem ready_of_unlisted {D : List (List Nat)} (hB : tableB ops D = true) {listed : Array Bool} (inv : Inv ops listed) {i : Nat} (hi : i < ops.size) (hu : listed.getD i false = false) : Region.ready .any ops listed ≠ [] := by
  induction i using Nat.strongRecOn with
  | _ i ih =>
    by_cases hr : i ∈ Region.ready .any ops listed
    · intro h; rw [h] at hr; cases hr
    · have h := List.all_eq_true.1 hB i (List.mem_range.2 hi)
      simp only [Array.getElem?_eq_getElem hi, Bool.and_eq_true] at h
      have : ¬ ∀ e ∈ ops[i].after, Region.binds .any e = true → listed.getD e.on false = true := fun hall =>
        hr (mem_ready.2 ⟨getD_in (by rw [inv.size]; exact hi) hu, ops[i], by simp [hi], hall⟩)
      simp only [Classical.not_forall] at this
      obtain ⟨e, he, hb, hl⟩ := this
      have hlt := List.all_eq_true.1 h.1 e (by simpa using he)
      simp only [hb, Bool.not_true, Bool.false_or, decide_eq_true_eq] at hlt
      exact ih e.on hlt (by omega) (by simpa using hl)

theorem mem_mid {α : Type} {z x : α} {l1 l2 : List α} (h : z ∈ l1 ++ l2) : z ∈ l1 ++ x :: l2 := by
  rcases List.mem_append.1 h with h | h
  · exact List.mem_append_left _ h
  · exact List.mem_append_right _ (List.mem_cons_of_mem _ h)

theorem pairs_split {D : List (List Nat)} : ∀ (l1 : List It) (x : It) (l2 : List It), pairsB ops D (l1 ++ x :: l2) = true → (∀ y ∈ l1, pairB ops D y x = true) ∧ pairsB ops D (l1 ++ l2) = true
  | [], x, l2, h => by
    simp only [List.nil_append, pairsB, Bool.and_eq_true] at h
    exact ⟨fun y hy => (by cases hy), h.2⟩
  | y :: l1, x, l2, h => by
    simp only [List.cons_append, pairsB, Bool.and_eq_true] at h
    obtain ⟨h1, h2⟩ := pairs_split l1 x l2 h.2
    have h0 := List.all_eq_true.1 h.1
    refine ⟨fun z hz => ?_, ?_⟩
    · rcases List.mem_cons.1 hz with rfl | hz
      · exact h0 x (by simp)
      · exact h1 z hz
    · simp only [List.cons_append, pairsB, Bool.and_eq_true]
      exact ⟨List.all_eq_true.2 fun z hz => h0 z (mem_mid hz), h2⟩

theorem wpAny_of_can {D : List (List Nat)} {Q : Exit → Act → World → Prop} (hsel : Region.noSelect ops = true) (hT : tableB ops D = true) :
    ∀ (n : Nat) (rest : List It) (listed : Array Bool) (a : Act) (w : World), rest.length = n → Inv ops listed → pairsB ops D rest = true →
      (∀ i, i < ops.size → (listed.getD i false = false ↔ i ∈ rest.map It.ix)) → (∀ x ∈ rest, x.ix < ops.size) → (rest.map It.ix).Nodup →
      Can P ops (Q .normal) rest [] a w → wpAny P .any ops Q n listed a w
  | 0, rest, listed, a, w, hn, inv, _, hl, _, _, h => by
    have hr : rest = [] := List.eq_nil_of_length_eq_zero hn
    subst hr
    refine ⟨?_, h⟩
    cases hrd : Region.ready .any ops listed with
    | nil => rfl
    | cons i r =>
      have hi : i ∈ Region.ready .any ops listed := by rw [hrd]; exact List.mem_cons_self
      obtain ⟨hu, o, ho, _⟩ := mem_ready.1 hi
      have := (hl i (Array.getElem?_eq_some_iff.1 ho).1).1 (getD_both hu)
      cases this
  | n + 1, rest, listed, a, w, hn, inv, hp, hl, hlt, hnd, h => by
    constructor
    · intro h0
      cases rest with
      | nil => cases hn
      | cons x r =>
        have hx := hlt x List.mem_cons_self
        exact absurd h0 (ready_of_unlisted hT inv hx ((hl x.ix hx).2 (by simp)))
    · intro i hi
      obtain ⟨hu, o, ho, hall⟩ := mem_ready.1 hi
      have hilt : i < ops.size := (Array.getElem?_eq_some_iff.1 ho).1
      have him := (hl i hilt).1 (getD_both hu)
      obtain ⟨it, hit, rfl⟩ := List.mem_map.1 him
      obtain ⟨l1, l2, rfl⟩ := List.append_of_mem hit
      obtain ⟨hpx, hp'⟩ := pairs_split l1 it l2 hp
      have hanc := table_spec hT inv it.ix o ho hall
      have hso : ∀ cs b, o.op ≠ .select cs b := fun cs b => Region.noSelect_spec hsel _ o cs b ho
      have hnot : ∀ y ∈ l1, (D.getD it.ix []).contains y.ix = false := fun y hy => by
        cases hc : (D.getD it.ix []).contains y.ix with
        | false => rfl
        | true =>
          have h1 := hanc y.ix (by simpa using hc)
          have h2 := (hl y.ix (hlt y (by simp [hy]))).2 (List.mem_map.2 ⟨y, by simp [hy], rfl⟩)
          rw [h1] at h2
          cases h2
      have inv' : Inv ops (listed.setIfInBounds it.ix true) := by
        refine ⟨by simp [inv.size], fun j oj hj hlj e he hb => ?_⟩
        by_cases hij : it.ix = j
        · subst hij
          have : oj = o := Option.some.inj (hj.symm.trans ho)
          subst this
          exact getD_set_true (hall e he hb)
        · rw [getD_set_ne false hij] at hlj
          exact getD_set_true (inv.closed j oj hj hlj e he hb)
      have hnd' : ((l1 ++ l2).map It.ix).Nodup := by
        have : (l1 ++ l2).Sublist (l1 ++ it :: l2) := List.Sublist.append (List.Sublist.refl _) (List.sublist_cons_self _ _)
        exact hnd.sublist (this.map _)
      have hni : it.ix ∉ (l1 ++ l2).map It.ix := by
        intro hmem
        simp only [List.map_append, List.map_cons, List.nodup_append, List.nodup_cons, List.mem_append, List.mem_cons] at hnd hmem
        rcases hmem with h' | h'
        · exact hnd.2.2 it.ix h' it.ix (.inl rfl) rfl
        · exact hnd.2.1.1 h'
      have hl' : ∀ j, j < ops.size → ((listed.setIfInBounds it.ix true).getD j false = false ↔ j ∈ (l1 ++ l2).map It.ix) := by
        intro j hj
        by_cases hij : it.ix = j
        · subst hij
          have hls : it.ix < listed.size := by rw [inv.size]; exact hj
          have e : (listed.setIfInBounds it.ix true).getD it.ix false = true := by simp [hls]
          rw [e]
          exact ⟨fun h => (by cases h), fun h => absurd h hni⟩
        · rw [getD_set_ne false hij, hl j hj]
          simp only [List.map_append, List.map_cons, List.mem_append, List.mem_cons]
          constructor
          · rintro (h | rfl | h)
            · exact .inl h
            · exact absurd rfl hij
            · exact .inr h
          · rintro (h | h)
            · exact .inl h
            · exact .inr (.inr h)
      have hlt' : ∀ x ∈ l1 ++ l2, x.ix < ops.size := fun x hx => hlt x (mem_mid hx)
      have hlen : (l1 ++ l2).length = n := by simp only [List.length_append, List.length_cons] at hn ⊢; omega
      have go := fun a' w' => wpAny_of_can (Q := Q) hsel hT n (l1 ++ l2) (listed.setIfInBounds it.ix true) a' w' hlen inv' hp' hl' hlt' hnd'
      cases it with
      | st k mk =>
        have hcond : ∀ x ∈ l1, x.isSt = true ∧ ∃ ox, ops[x.ix]? = some ox ∧ ox.apart ops o = true ∧ ∀ cs b, ox.op ≠ .select cs b := by
          intro x hx
          have h1 := hpx x hx
          unfold pairB at h1
          rw [hnot x hx, Bool.false_or, ho] at h1
          cases x with
          | ef _ _ => simp at h1
          | st kx kk =>
            simp only [Bool.true_and] at h1
            split at h1
            · rename_i ox oi hox hoi
              cases hoi
              exact ⟨rfl, ox, hox, h1, fun cs b => Region.noSelect_spec hsel _ ox cs b hox⟩
            · cases h1
        simp only [It.ix] at ho
        rcases can_front_st ho hso l1 [] a w hcond h with ⟨hw, u, hu, hc⟩ | ⟨hw, hc⟩
        · unfold wpOp
          simp only [It.ix, ho, hw, if_true]
          left
          exact Oper.wp_of_quiet (C := fun X => X = w) rfl (fun a' w' hw' ha' => by subst hw'; subst ha'; exact go _ _ hc) hu
        · unfold wpOp
          simp only [It.ix, ho, hw]
          exact go _ _ hc
      | ef k re =>
        have hcond : ∀ x ∈ l1, ∃ ix mx, x = .st ix mx ∧ (mx = .pure ∨ (mx = .keep ∧ re.contains ix = true)) ∧ ∃ ox, ops[ix]? = some ox ∧ ox.apart ops o = true ∧ ∀ cs b, ox.op ≠ .select cs b := by
          intro x hx
          have h1 := hpx x hx
          unfold pairB at h1
          rw [hnot x hx, Bool.false_or, ho] at h1
          cases x with
          | ef _ _ => simp at h1
          | st kx kk =>
            simp only [Bool.and_eq_true, Bool.or_eq_true, decide_eq_true_eq] at h1
            obtain ⟨h2, h3⟩ := h1
            split at h3
            · rename_i ox oi hox hoi
              cases hoi
              exact ⟨kx, kk, rfl, h2, ox, hox, h3, fun cs b => Region.noSelect_spec hsel _ ox cs b hox⟩
            · cases h3
        simp only [It.ix] at ho
        exact wpOp_of_ef ho (ef_mono (fun a' w' hk => go _ _ hk.1) (can_front_ef ho hso l1 [] a w hcond h))

end

/-- A REGION THAT DRAWS ITS ORDER, WALKED IN THE ORDER THAT 'its' TELLS. -/
theorem wp_region_can {P : Program} {id : Nat} {Q : Exit → Act → World → Prop} {a : Act} {w : World} {l : List Oper} (D : List (List Nat)) (its : List It) (hm : P.follows .mixedOrders = true)
    (hB : canB l.toArray D its = true) (h : Can P l.toArray (Q .normal) its [] a w.drew) : (Code.region id l.toArray true).wp P Q a w := by
  simp only [canB, Bool.and_eq_true, decide_eq_true_eq] at hB
  obtain ⟨⟨⟨⟨⟨⟨hsel, hT⟩, hP⟩, hlen⟩, hall⟩, hnd⟩, hlt⟩ := hB
  have hmem : ∀ i, i < l.toArray.size → i ∈ its.map It.ix := fun i hi => by
    have := List.all_eq_true.1 hall i (List.mem_range.2 hi)
    simpa using this
  refine wp_region_any hm ?_
  rw [← hlen]
  exact wpAny_of_can (D := D) hsel hT its.length its _ a w.drew rfl ⟨by simp [hlen], fun j oj _ hl => (by rw [getD_replicate_false] at hl; cases hl)⟩ hP
    (fun i hi => ⟨fun _ => hmem i hi, fun _ => getD_replicate_false _ _⟩) (fun x hx => by simpa using List.all_eq_true.1 hlt x hx) hnd h

/-! ### The steps of such a walk -/
section
variable {P : Program} {l : List Oper} {Q : Act → World → Prop} {i : Nat} {rest : List It} {pend : Pend} {a : Act} {w : World} {o : Oper}
theorem can_drop (ho' : l[i]? = some o) (hw : Region.wanted o (yielded l.toArray a.tmps) = true)
    (h : ∀ K : Act → Prop, (∀ a', Can P l.toArray Q rest pend a' w → K a') → o.quiet P a (fun X => X = w) K) : Can P l.toArray Q (.st i .drop :: rest) pend a w := by
  obtain ⟨v, hv, hk⟩ := h (fun a' => Can P l.toArray Q rest pend a' w) (fun _ h => h)
  exact (can_st_iff (ops := l.toArray) (by simpa using ho')).2 (.inl ⟨hw, _, ⟨v, hv, rfl⟩, fun h => (by cases h), hk⟩)
theorem can_keep (ho' : l[i]? = some o) (hw : Region.wanted o (yielded l.toArray a.tmps) = true)
    (h : ∀ K : Act → Prop, (∀ a', Can P l.toArray Q rest ((i, o, a, a') :: pend) a' w → K a') → o.quiet P a (fun X => X = w) K) : Can P l.toArray Q (.st i .keep :: rest) pend a w := by
  obtain ⟨v, hv, hk⟩ := h (fun a' => Can P l.toArray Q rest ((i, o, a, a') :: pend) a' w) (fun _ h => h)
  exact (can_st_iff (ops := l.toArray) (by simpa using ho')).2 (.inl ⟨hw, _, ⟨v, hv, rfl⟩, fun h => (by cases h), hk⟩)
theorem can_pure (a' : Act) (ho' : l[i]? = some o) (hw : Region.wanted o (yielded l.toArray a.tmps) = true)
    (h : ∀ (W : World) (K : Act → Prop), K a' → o.quiet P a (fun X => X = W) K) (hk : Can P l.toArray Q rest pend a' w) : Can P l.toArray Q (.st i .pure :: rest) pend a w :=
  (can_st_iff (ops := l.toArray) (by simpa using ho')).2 (.inl ⟨hw, a', h w _ rfl, fun _ W => h W _ rfl, hk⟩)
theorem can_skip {md : Md} (ho' : l[i]? = some o) (hw : Region.wanted o (yielded l.toArray a.tmps) = false)
    (h : Can P l.toArray Q rest pend (a.put o.dst undef) w) : Can P l.toArray Q (.st i md :: rest) pend a w :=
  (can_st_iff (ops := l.toArray) (by simpa using ho')).2 (.inr ⟨hw, h⟩)
theorem can_ef {re : List Nat} (ho' : l[i]? = some o)
    (h : ∀ K : Act → World → Prop, (∀ a' w', ReAll P re w' pend ∧ Can P l.toArray Q rest pend a' w' → K a' w') → wpList P l.toArray (OnlyN K) [o] a w) :
    Can P l.toArray Q (.ef i re :: rest) pend a w := by
  have ho : l.toArray[i]? = some o := by simpa using ho'
  rw [Can]
  simp only [ho]
  exact h _ (fun _ _ h => h)
theorem can_nil (h : Q a w) : Can P l.toArray Q [] pend a w := h
end

#print axioms wp_region_can
end Go.Proofs.YtkmknpobinpegaaDoor
