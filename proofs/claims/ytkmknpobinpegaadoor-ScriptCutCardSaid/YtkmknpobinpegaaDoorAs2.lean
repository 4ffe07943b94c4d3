/- errors.As at a step in which something is broken: what it wraps is found. -/
import Derived.Test.YtkmknpobinpegaaDoorAs
namespace Go.Proofs.YtkmknpobinpegaaDoor
open Go Go.RowKit Go.Extern.Stop Go.Stop Go.Extern
set_option linter.unusedSimpArgs false
set_option linter.unusedVariables false

theorem As.typeOf90 (v : Value) (w : World) : (ReflectliteType.typeOf #[.iface 90 v]).run Tryd.prog w = .ok (.iface 117 (.agg #[.pointer (some ⟨1, 90, none⟩)])) w := by kernel_rfl
theorem As.assignable90 (w : World) : (ReflectliteType.relation "AssignableTo" ReflectliteType.assignableTo #[.agg #[.pointer (some ⟨1, 90, none⟩)], .iface 117 (.agg #[.pointer (some ⟨1, 73, none⟩)])]).run Tryd.prog w = .ok (.bool false) w := by kernel_rfl
theorem As.methodUnwrap (x : Value) (w : World) : (Go.method 263 90 (.agg #[x]) "Unwrap").run Tryd.prog w = .ok (67, .agg #[x]) w := by kernel_rfl
theorem As.noAs (v : Value) (xT : TypeId) (w : World) : (Instr.typeAssert (.iface 90 v) xT 122 true).run Tryd.prog w = .ok (.tuple #[.nilIface, .bool false]) w :=
  run_typeAssert_lacksB Tryd.underlying122 (by kernel_rfl) (by kernel_rfl) v xT w
theorem As.hasUnwrap (v : Value) (xT : TypeId) (w : World) : (Instr.typeAssert (.iface 90 v) xT 125 true).run Tryd.prog w = .ok (.tuple #[.iface 90 v, .bool true]) w :=
  run_typeAssert_hasB Tryd.underlying125 (by kernel_rfl) v xT w

set_option maxHeartbeats 4000000 in
theorem as_step (e t : Addr) (old : Value) (w : World) (hg : w.cell? ⟨0, 0, none⟩ = some (.iface 117 (.agg #[.pointer (some ⟨1, 54, none⟩)]))) (ht0 : w.cell? t = some old) (hf0 : w.frozen? t = false) :
    Calls Tryd.prog 23 #[.iface 90 (.agg #[.iface 73 (.pointer (some e))]), .iface 75 (.pointer (some t))] w fun ev w' => ev = .returned (.bool true) ∧ w' = (((((w.alloc (.cells #[.pointer (some t)] 75)).alloc (.cells #[.pointer (some ⟨1, 75, none⟩), .pointer (some ⟨w.heap.size, 0, none⟩), .int .u64 150] 96)).alloc (.cells #[.pointer (some ⟨1, 75, none⟩), .pointer (some ⟨w.heap.size, 0, none⟩), .int .u64 150] 96)).alloc (.cells #[.iface 73 (.pointer (some e))] 90)).alloc (.cells #[.pointer (some e)] 73)).setCell t (.pointer (some e)) := by
  have h6 := @run_callFunc_extern Tryd.prog 31 _ (fun args => ReflectliteValue.unpack (args.getD 0 (.tuple #[]))) Tryd.func31 (by kernel_rfl) (by kernel_rfl) (by kernel_rfl) (by kernel_rfl)
  have h7 := @run_callFunc_extern Tryd.prog 32 _ (ReflectliteValue.methodAny (ReflectliteValue.valueError "reflectlite.Value.Type" 0) (fun t _ _ _ => ReflectliteType.toType t)) Tryd.func32 (by kernel_rfl) (by kernel_rfl) (by kernel_rfl) (by kernel_rfl)
  have h8 := @run_callFunc_extern Tryd.prog 33 _ (ReflectliteValue.method (ReflectliteValue.valueError "reflectlite.Value.IsNil" 0) ReflectliteValue.isNil) Tryd.func33 (by kernel_rfl) (by kernel_rfl) (by kernel_rfl) (by kernel_rfl)
  have h27 := @run_callFunc_extern Tryd.prog 62 _ (ReflectliteType.abiMethod fun t => do pure (.int .u8 (← Rtype.kind t))) Tryd.func62 (by kernel_rfl) (by kernel_rfl) (by kernel_rfl) (by kernel_rfl)
  have h37 := @run_callFunc_extern Tryd.prog 75 _ (ReflectliteType.method ReflectliteType.elem) Tryd.func75 (by kernel_rfl) (by kernel_rfl) (by kernel_rfl) (by kernel_rfl)
  have h38 := @run_callFunc_extern Tryd.prog 76 _ (ReflectliteType.relation "Implements" ReflectliteType.implements_) Tryd.func76 (by kernel_rfl) (by kernel_rfl) (by kernel_rfl) (by kernel_rfl)
  have h10 := @run_callFunc_extern Tryd.prog 41 _ ReflectliteType.typeOf Tryd.func41 (by kernel_rfl) (by kernel_rfl) (by kernel_rfl) (by kernel_rfl)
  have h35 := @run_callFunc_extern Tryd.prog 73 _ (ReflectliteType.relation "AssignableTo" ReflectliteType.assignableTo) Tryd.func73 (by kernel_rfl) (by kernel_rfl) (by kernel_rfl) (by kernel_rfl)
  have h11 := @run_callFunc_extern Tryd.prog 42 _ (ReflectliteValue.method (ReflectliteValue.valueError "reflectlite.Value.Elem" 0) ReflectliteValue.elem) Tryd.func42 (by kernel_rfl) (by kernel_rfl) (by kernel_rfl) (by kernel_rfl)
  have h12 := @run_callFunc_extern Tryd.prog 43 _ ReflectliteValue.set Tryd.func43 (by kernel_rfl) (by kernel_rfl) (by kernel_rfl) (by kernel_rfl)
  have tO := As.typeOf25
  have mA := As.methodAssignableTo
  have a25 := As.assignable25
  have v25 := As.valueOf25
  have f6 := As.valueOf27
  have f7 := As.type27
  have mK := As.methodKind
  have mE := As.methodElem
  have mI := As.methodImplements
  have k27 := As.kind27
  have k25 := As.kind25
  have e27 := As.elem27
  have i25 := As.implements25
  have n8 := As.isNil27 ⟨w.heap.size, 0, none⟩ t ((w.alloc (.cells #[.pointer (some t)] 75)).alloc (.cells #[.pointer (some ⟨1, 75, none⟩), .pointer (some ⟨w.heap.size, 0, none⟩), .int .u64 150] 96)) (by simp)
  have hlt : 0 < w.heap.size := by
    rcases Nat.eq_zero_or_pos w.heap.size with h0 | h
    · simp [World.cell?, h0] at hg
    · exact h
  have hg2 : ((w.alloc (.cells #[.pointer (some t)] 75)).alloc (.cells #[.pointer (some ⟨1, 75, none⟩), .pointer (some ⟨w.heap.size, 0, none⟩), .int .u64 150] 96)).cell? ⟨0, 0, none⟩ = some (.iface 117 (.agg #[.pointer (some ⟨1, 54, none⟩)])) := by
    rw [World.cell?_alloc_lt _ _ ⟨0, 0, none⟩ (by simp), World.cell?_alloc_lt _ _ ⟨0, 0, none⟩ hlt]; exact hg
  have htl : t.block < w.heap.size := by
    rcases Nat.lt_or_ge t.block w.heap.size with h | h
    · exact h
    · simp [World.cell?, Array.getElem?_eq_none h] at ht0
  have el := As.elemV27 ⟨w.heap.size, 0, none⟩ t ((((w.alloc (.cells #[.pointer (some t)] 75)).alloc (.cells #[.pointer (some ⟨1, 75, none⟩), .pointer (some ⟨w.heap.size, 0, none⟩), .int .u64 150] 96)).alloc (.cells #[.pointer (some ⟨1, 75, none⟩), .pointer (some ⟨w.heap.size, 0, none⟩), .int .u64 150] 96)).alloc (.cells #[.iface 73 (.pointer (some e))] 90)) (by rw [World.cell?_alloc_lt _ _ ⟨w.heap.size, 0, none⟩ (by simp; omega), World.cell?_alloc_lt _ _ ⟨w.heap.size, 0, none⟩ (by simp; omega)]; simp)
  have st := As.set25 t ⟨w.heap.size + 1 + 1 + 1 + 1, 0, none⟩ e old (((((w.alloc (.cells #[.pointer (some t)] 75)).alloc (.cells #[.pointer (some ⟨1, 75, none⟩), .pointer (some ⟨w.heap.size, 0, none⟩), .int .u64 150] 96)).alloc (.cells #[.pointer (some ⟨1, 75, none⟩), .pointer (some ⟨w.heap.size, 0, none⟩), .int .u64 150] 96)).alloc (.cells #[.iface 73 (.pointer (some e))] 90)).alloc (.cells #[.pointer (some e)] 73))
    (by rw [World.cell?_alloc_at _ _ _ _ (by simp)]; rfl)
    (by rw [World.cell?_alloc_lt _ _ t (by simp; omega), World.cell?_alloc_lt _ _ t (by simp; omega), World.cell?_alloc_lt _ _ t (by simp; omega), World.cell?_alloc_lt _ _ t (by simp; omega), World.cell?_alloc_lt _ _ t htl]; exact ht0)
    (by rw [World.frozen?_alloc_old _ _ t (by simp; omega), World.frozen?_alloc_old _ _ t (by simp; omega), World.frozen?_alloc_old _ _ t (by simp; omega), World.frozen?_alloc_old _ _ t (by simp; omega), World.frozen?_alloc_old _ _ t (Nat.ne_of_lt htl)]; exact hf0)
  have t90 := As.typeOf90
  have a90 := As.assignable90
  have mU := As.methodUnwrap
  have nA := As.noAs
  have hU := As.hasUnwrap
  go_enter Tryd.func23, Tryd.ntmps23
  go_wp2
  refine wp_loop_rounds 2 ?_
  rw [rounds_succ]
  go_wp2
  rw [rounds_succ]
  go_wp2
  go_ret
  exact ⟨rfl, rfl⟩
#print axioms as_step

end Go.Proofs.YtkmknpobinpegaaDoor
