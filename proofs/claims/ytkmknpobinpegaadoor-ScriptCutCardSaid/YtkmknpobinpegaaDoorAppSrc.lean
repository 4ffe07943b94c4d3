/- append of a row that may be nil to a row of one's own. -/
import Derived.Test.YtkmknpobinpegaaDoorSteps
import Derived.Laws.AppendOwnNone
namespace Go.Proofs.YtkmknpobinpegaaDoor
open Go Go.RowKit Go.Maps Go.Sort Go.Lib
set_option linter.unusedSimpArgs false
set_option linter.unusedVariables false

/-- What a slice value holds that is to be appended: m elements, their cells. -/
def SrcAt (w : World) (u : Value) (m : Nat) (size : Nat) (ys : List Value) : Prop :=
  ys.length = m * size ∧ ((u = .slice none 0 0 ∧ m = 0) ∨ ∃ ad c, u = .slice (some ad) m c ∧ ∀ j x, ys[j]? = some x → w.cell? (ad.add j) = some x)
theorem grownBy_refl (w : World) (row : Option Nat) : w.grownBy w row := ⟨rfl, rfl, rfl, Nat.le_refl _, fun _ _ _ => rfl⟩
theorem wpList_append_src {P : Program} {w : World} {ops : Array Oper} {rest : List Oper} {o : Oper} {a : Act} {Q : Exit → Act → World → Prop} (hgd : o.guard = none) (s x : Operand) (t : TypeId)
    (ho : o.op = .call { callee := .builtin .append, args := #[s, x], argTypes := #[t, t] })
    (base : Nat) (e : TypeId) (i : TypeInfo) (z : Value) (size bytes : Nat) (ht : P.underlying t = some (.slice e)) (hi : P.info? e = some i) (hz : i.zero = some z)
    (hsize : i.size = size) (hby : i.bytes = bytes) (hzs : z.cells.size = size) (hsz : 0 < size)
    (v : Value) (n : Nat) (xs : List Value) (hs : a.eval s = v) (hown : w.ownsRow base e size v n xs)
    (u : Value) (m : Nat) (ys : List Value) (hx : a.eval x = u) (hu : SrcAt w u m size ys) (h1 : ∀ y ∈ ys, y.oneCell' = true)
    (h63 : n + m ≤ maxLen) (hbytes : (n + m) * bytes ≤ 140737488355328) (hbase : base ≤ w.heap.size)
    (h : ∀ v' w', w'.ownsRow base e size v' (n + m) (xs ++ ys) → w.grownBy w' v.ownBlock → (v'.ownBlock = v.ownBlock ∨ v'.ownBlock = some w.heap.size) → wpList P ops Q rest (a.put o.dst v') w') :
    wpList P ops Q (o :: rest) a w := by
  obtain ⟨hl, ⟨hn, h0⟩ | ⟨ad, c, hn, hc⟩⟩ := hu
  · subst h0
    obtain rfl : ys = [] := List.eq_nil_of_length_eq_zero (by omega)
    refine wpList_append_own_none hgd s x t ho base e i size ht hi v n xs hs hown (hx.trans hn) ?_
    exact h v w (by simpa using hown) (grownBy_refl _ _) (.inl rfl)
  · exact wpList_append_own_at w hgd s x t ho base e i z size bytes ht hi hz hsize hby hzs hsz v n xs hs hown ad m c ys (hx.trans hn) hl hc h1 h63 hbytes hbase (fun v' w' g1 g2 _ g4 => h v' w' g1 g2 g4)
theorem srcAt_own {w : World} {base : Nat} {e : TypeId} {size : Nat} {v : Value} {n : Nat} {xs : List Value} (h : w.ownsRow base e size v n xs) : SrcAt w v n size xs := by
  refine ⟨h.1, ?_⟩
  rcases h.2 with ⟨rfl, h0⟩ | ⟨g, cap, cur, rfl, _, hg, _, _, _, ht⟩
  · exact .inl ⟨rfl, h0⟩
  · refine .inr ⟨⟨g, 0, none⟩, cap, rfl, fun j x hj => ?_⟩
    have ea : (⟨g, 0, none⟩ : Addr).add j = ⟨g, j, none⟩ := by simp only [Addr.add]; split <;> simp_all
    rw [ea, ← ht, List.getElem?_take] at *
    split at hj
    · simp [World.cell?, hg]; simpa using hj
    · cases hj
theorem srcAt_mem {w w' : World} {u : Value} {m size : Nat} {ys : List Value} (h : SrcAt w u m size ys) (hc : ∀ a v, w.cell? a = some v → w'.cell? a = some v) : SrcAt w' u m size ys := by
  obtain ⟨hl, h | ⟨ad, c, e, h⟩⟩ := h
  · exact ⟨hl, .inl h⟩
  · exact ⟨hl, .inr ⟨ad, c, e, fun j x hj => hc _ _ (h j x hj)⟩⟩
#print axioms wpList_append_src
#print axioms srcAt_own
end Go.Proofs.YtkmknpobinpegaaDoor
