/- The wheel's small calls: New, Len, Now, Drop, and those of no wheel. -/
import Derived.Test.YtkmknpobinpegaaWheelTake
namespace Go.Proofs.Ytkmknpobinpegaa
set_option linter.unusedSimpArgs false
set_option linter.unusedVariables false
open Go Go.RowKit Go.Maps Go.Sort Go.Lib Go.Shelf

theorem none_c (w : World) : Calls Try.prog 11 #[] w fun e w' => e = .returned (.pointer none) ∧ w' = w := by
  go_enter Try.func11, Try.ntmps11
  go_wp2
  go_ret
  exact ⟨rfl, rfl⟩
theorem now_none (w : World) : Calls Try.prog 13 #[.pointer none] w fun e w' => e = .returned (.int .i64 0) ∧ w' = w := by
  go_enter Try.func13, Try.ntmps13
  go_wp2
  go_ret
  exact ⟨rfl, rfl⟩
theorem len_none (w : World) : Calls Try.prog 10 #[.pointer none] w fun e w' => e = .returned (.int .i64 0) ∧ w' = w := by
  go_enter Try.func10, Try.ntmps10
  go_wp2
  go_ret
  exact ⟨rfl, rfl⟩
theorem tick_none (w : World) : Calls Try.prog 9 #[.pointer none] w fun e w' => e = .returned (.slice none 0 0) ∧ w' = w := by
  go_enter Try.func9, Try.ntmps9
  go_wp2
  go_ret
  exact ⟨rfl, rfl⟩
theorem drop_none (a : Int) (w : World) : Calls Try.prog 12 #[.pointer none, .int .u16 a] w fun e w' => e = .returned (.int .i64 1) ∧ w' = w := by
  go_enter Try.func12, Try.ntmps12
  go_wp2
  go_ret
  exact ⟨rfl, rfl⟩
theorem set_none (a d : Int) (w : World) : Calls Try.prog 8 #[.pointer none, .int .u16 a, .int .i64 d] w fun e w' => e = .returned (.int .i64 1) ∧ w' = w := by
  go_enter Try.func8, Try.ntmps8
  go_wp2
  go_ret
  exact ⟨rfl, rfl⟩
/-- A tick that isn't one: nothing changes. -/
theorem set_bad (b : Nat) (a d : Int) (w : World) (hd : d < 1 ∨ 1000 < d) : Calls Try.prog 8 #[.pointer (some ⟨b, 0, none⟩), .int .u16 a, .int .i64 d] w fun e w' => e = .returned (.int .i64 1) ∧ w' = w := by
  rcases hd with hd | hd
  · go_enter Try.func8, Try.ntmps8
    go_wp2
    go_ret
    exact ⟨rfl, rfl⟩
  · go_enter Try.func8, Try.ntmps8
    go_wp2
    go_ret
    exact ⟨rfl, rfl⟩
theorem now_c (w : World) (S : Nat → Prop) (b now : Nat) (L : WL) (h : WheelAt w S b now L) : Calls Try.prog 13 #[.pointer (some ⟨b, 0, none⟩)] w fun e w' => e = .returned (.int .i64 (now : Int)) ∧ w' = w := by
  obtain ⟨bm, D, vs, xs, H⟩ := h
  have c0 := H.c0
  go_enter Try.func13, Try.ntmps13
  go_wp2
  go_ret
  exact ⟨rfl, rfl⟩
theorem len_c (w : World) (S : Nat → Prop) (b now : Nat) (L : WL) (h : WheelAt w S b now L) : Calls Try.prog 10 #[.pointer (some ⟨b, 0, none⟩)] w fun e w' => e = .returned (.int .i64 (L.length : Int)) ∧ w' = w := by
  obtain ⟨bm, D, vs, xs, H⟩ := h
  have c1 := H.c1
  have hs := H.sz
  go_enter Try.func10, Try.ntmps10
  go_wp2_with (at_len; refine wpList_len_own _ rfl _ 48 rfl 29 3 Try.underlying48 _ bm _ D rfl H.map ?_)
  go_ret
  exact ⟨rfl, rfl⟩
theorem drop_c (w : World) (S : Nat → Prop) (b now : Nat) (L : WL) (a : Nat) (h : WheelAt w S b now L) (ha : a < 65536) (hn : now ≤ 1000000) :
    Calls Try.prog 12 #[.pointer (some ⟨b, 0, none⟩), .int .u16 (a : Int)] w (WheelPost w S b now (dropL L a) (.int .i64 (if hasL L a then 0 else 9))) := by
  have ht := take_c w S b now L a h ha hn
  cases hm : hasL L a with
  | true =>
    rw [hm] at ht
    go_enter Try.func12, Try.ntmps12
    go_wp2_with fail
    refine ht.mono ?_
    rintro e w' ⟨rfl, hw⟩
    go_wp2
    go_ret
    exact ⟨rfl, hw⟩
  | false =>
    rw [hm] at ht
    go_enter Try.func12, Try.ntmps12
    go_wp2_with fail
    refine ht.mono ?_
    rintro e w' ⟨rfl, hw⟩
    go_wp2
    go_ret
    exact ⟨rfl, hw⟩
theorem new_c (w : World) : Calls Try.prog 6 #[] w fun e w' => e = .returned (.pointer (some ⟨w.heap.size + 1, 0, none⟩)) ∧
    WheelAt w' (fun k => k = w.heap.size ∨ k = w.heap.size + 1) (w.heap.size + 1) 0 [] ∧ Below w.heap.size w w' := by
  have hmm := @run_makeMap Try.prog
  refine Calls.mono (R := fun e w' => e = .returned (.pointer (some ⟨w.heap.size + 1, 0, none⟩)) ∧ Hid (w' = (w.alloc (.map #[] 0)).alloc (.cells (#[.int .i64 0, .map (some w.heap.size)] ++ Array.replicate 32 (.slice none 0 0)) 51))) ?_ ?_
  · go_enter Try.func6, Try.ntmps6
    go_wp2
    go_ret
    exact ⟨rfl, rfl⟩
  · rintro e w' ⟨rfl, hw⟩
    have hw := hw.out
    have hb : w'.heap[w.heap.size + 1]? = some (.cells (#[.int .i64 0, .map (some w.heap.size)] ++ Array.replicate 32 (.slice none 0 0)) 51 (0, 0)) := by
      rw [hw]
      have := heap_alloc_new (w.alloc (.map #[] 0)) (.cells (#[.int .i64 0, .map (some w.heap.size)] ++ Array.replicate 32 (.slice none 0 0)) 51 (0, 0))
      simpa using this
    have hm : w'.ownsMap Try.prog 29 (plainElem (H := Unit) Try.prog 3) w.heap.size 0 (.map []) := by rw [hw]; exact (World.ownsMap_made w _ _ _).alloc _
    refine ⟨rfl, ⟨w.heap.size, .map [], fun _ => .slice none 0 0, fun _ => [], ?_⟩, by rw [hw]; exact ((Below.refl _ _).alloc (Nat.le_refl _) _).alloc (by simp) _⟩
    refine { c0 := ?_, c1 := ?_, cs := ?_, fr := ?_, map := hm, hs := ?_, at_ := fun p hp => (by cases hp), sz := rfl, nd := List.nodup_nil, lo := fun p hp => (by cases hp), hi := fun p hp => (by cases hp), own := fun k _ => World.ownsRow_nil _ _ _ _, perm := fun k _ => .refl _, sep := fun j k g _ _ _ h => (by cases h), sb := .inr rfl, sm := .inl rfl, ne := by omega, sv := fun k g _ h => (by cases h), lt := ?_ }
    · simp [World.cell?, hb]
    · simp [World.cell?, hb]
    · intro k hk
      simp only [World.cell?, hb]
      have : (#[Value.int .i64 0, Value.map (some w.heap.size)] ++ Array.replicate 32 (.slice none 0 0))[2 + k]? = some (.slice none 0 0) := by
        rw [Array.getElem?_append_right (by simp)]; simp [hk]
      simpa using this
    · intro k; simp [World.frozen?, hb]
    · intro a _; rfl
    · rintro k (rfl | rfl) <;> (rw [hw]; simp <;> omega)
#print axioms new_c
end Go.Proofs.Ytkmknpobinpegaa
