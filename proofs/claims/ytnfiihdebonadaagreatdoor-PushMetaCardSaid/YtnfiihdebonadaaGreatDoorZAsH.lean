import Derived.Test.YtnfiihdebonadaaGreatDoorZAsG
import Derived.Laws.Rows
set_option linter.unusedSimpArgs false
set_option linter.unusedVariables false
set_option linter.unusedSectionVars false
namespace Go.Proofs.YtnfiihdebonadaaGreatDoor.AsAt
open Go.RowKit Go.Extern.Stop Go.Stop Go.Extern
theorem set72 (ta : Addr) (N : Nat) (pl : Int) (t : TypeId) (v : Value) (fr : Nat × Nat) (W W' : World) (hb : W.heap[N]? = some (.cells #[.int .i64 pl, .iface t v] 72 fr))
    (hs : (storeVar 72 ta (.agg #[.int .i64 pl, .iface t v])).run Tryz.prog W = .ok () W') :
    (ReflectliteValue.set #[.agg #[.pointer (some ⟨7, 72, none⟩), .pointer (some ta), .int .u64 409], .agg #[.pointer (some ⟨7, 72, none⟩), .pointer (some ⟨N, 0, none⟩), .int .u64 153]]).run Tryz.prog W
      = .ok (.tuple #[]) W' := by
  rw [rls]
  simp only [Sem.run_bind, parts72a, parts72, Result.andThen]
  have hl : (loadVar 72 ⟨N, 0, none⟩).run Tryz.prog W = .ok (.agg #[.int .i64 pl, .iface t v]) W := run_loadVar_row W N 72 72 _ fr _ hb Tryz.underlying72 rfl (by kernel_rfl)
  simp [ReflectliteValue.flagAddr, hl, Result.andThen, direct72, hs]
theorem set24' (ta b : Addr) (n : Int) (W W' : World) (hb : W.cell? b = some (.int .i64 n)) (hs : (storeVar 24 ta (.int .i64 n)).run Tryz.prog W = .ok () W') :
    (ReflectliteValue.set #[.agg #[.pointer (some ⟨7, 24, none⟩), .pointer (some ta), .int .u64 386], .agg #[.pointer (some ⟨7, 24, none⟩), .pointer (some b), .int .u64 130]]).run Tryz.prog W
      = .ok (.tuple #[]) W' := by
  rw [rls]
  simp only [Sem.run_bind, parts24a, parts24, Result.andThen]
  have hl : (loadVar 24 b).run Tryz.prog W = .ok (.int .i64 n) W := by
    simp [loadVar, isAgg, underlying, Tryz.underlying24, hb, Result.andThen]
  simp [ReflectliteValue.flagAddr, hl, Result.andThen, direct24, hs]
theorem lacksAs72 (v : Value) (w : World) : (Instr.typeAssert (.iface 72 v) 36 132 true).run Tryz.prog w = .ok (.tuple #[.nilIface, .bool false]) w := run_typeAssert_lacksB Tryz.underlying132 (by kernel_rfl) (by kernel_rfl) v 36 w
theorem hasUn72 (v : Value) (w : World) : (Instr.typeAssert (.iface 72 v) 36 135 true).run Tryz.prog w = .ok (.tuple #[.iface 72 v, .bool true]) w := run_typeAssert_hasB Tryz.underlying135 (by kernel_rfl) v 36 w
theorem methodUnwrap (pl : Int) (t : TypeId) (v : Value) (w : World) : (Go.method 322 72 (.agg #[.int .i64 pl, .iface t v]) "Unwrap").run Tryz.prog w = .ok (135, .agg #[.int .i64 pl, .iface t v]) w := by kernel_rfl
theorem as_nil (t : Value) (w : World) :
    Calls Tryz.prog 23 #[.nilIface, t] w fun e w' => e = .returned (.bool false) ∧ w' = w := by
  go_enter Tryz.func23, Tryz.ntmps23
  go_wp2
  go_ret
  exact ⟨rfl, rfl⟩
set_option maxHeartbeats 4000000 in
theorem code0 (n : Int) (t : Addr) (w : World) (R : World → Prop) (hg : w.cell? ⟨0, 0, none⟩ = some (.iface 127 (.agg #[.pointer (some ⟨7, 36, none⟩)])))
    (hs : ∀ w1, Below w.heap.size w w1 → ∃ W', (storeVar 24 t (.int .i64 n)).run Tryz.prog w1 = .ok () W' ∧ R W') :
    Calls Tryz.prog 23 #[.iface 24 (.int .i64 n), .iface 70 (.pointer (some t))] w fun ev w' => ev = .returned (.bool true) ∧ R w' := by
  have h42 := @run_callFunc_extern Tryz.prog 42 _ (fun args => ReflectliteValue.unpack (args.getD 0 (.tuple #[]))) Tryz.func42 (by kernel_rfl) (by kernel_rfl) (by kernel_rfl) (by kernel_rfl)
  have h43 := @run_callFunc_extern Tryz.prog 43 _ (ReflectliteValue.methodAny (ReflectliteValue.valueError "reflectlite.Value.Type" 0) (fun t _ _ _ => ReflectliteType.toType t)) Tryz.func43 (by kernel_rfl) (by kernel_rfl) (by kernel_rfl) (by kernel_rfl)
  have h44 := @run_callFunc_extern Tryz.prog 44 _ (ReflectliteValue.method (ReflectliteValue.valueError "reflectlite.Value.IsNil" 0) ReflectliteValue.isNil) Tryz.func44 (by kernel_rfl) (by kernel_rfl) (by kernel_rfl) (by kernel_rfl)
  have h130 := @run_callFunc_extern Tryz.prog 130 _ (ReflectliteType.abiMethod fun t => do pure (.int .u8 (← Rtype.kind t))) Tryz.func130 (by kernel_rfl) (by kernel_rfl) (by kernel_rfl) (by kernel_rfl)
  have h143 := @run_callFunc_extern Tryz.prog 143 _ (ReflectliteType.method ReflectliteType.elem) Tryz.func143 (by kernel_rfl) (by kernel_rfl) (by kernel_rfl) (by kernel_rfl)
  have h144 := @run_callFunc_extern Tryz.prog 144 _ (ReflectliteType.relation "Implements" ReflectliteType.implements_) Tryz.func144 (by kernel_rfl) (by kernel_rfl) (by kernel_rfl) (by kernel_rfl)
  have h60 := @run_callFunc_extern Tryz.prog 60 _ ReflectliteType.typeOf Tryz.func60 (by kernel_rfl) (by kernel_rfl) (by kernel_rfl) (by kernel_rfl)
  have h141 := @run_callFunc_extern Tryz.prog 141 _ (ReflectliteType.relation "AssignableTo" ReflectliteType.assignableTo) Tryz.func141 (by kernel_rfl) (by kernel_rfl) (by kernel_rfl) (by kernel_rfl)
  have h61 := @run_callFunc_extern Tryz.prog 61 _ (ReflectliteValue.method (ReflectliteValue.valueError "reflectlite.Value.Elem" 0) ReflectliteValue.elem) Tryz.func61 (by kernel_rfl) (by kernel_rfl) (by kernel_rfl) (by kernel_rfl)
  have h62 := @run_callFunc_extern Tryz.prog 62 _ ReflectliteValue.set Tryz.func62 (by kernel_rfl) (by kernel_rfl) (by kernel_rfl) (by kernel_rfl)
  have fa0 := typeOf24
  have fa1 := methodAssignableTo
  have fa2 := assignable24_24
  have fa3 := valueOf24
  have fa4 := valueOf70
  have fa5 := type70
  have fa6 := methodKind
  have fa7 := methodElem
  have fa8 := methodImplements
  have fa9 := kind70
  have fa10 := kind24
  have fa11 := elem70
  have fa12 := implements24
  have n8 := isNil70 ⟨w.heap.size, 0, none⟩ t (((w.alloc (.cells #[.pointer (some t)] 70)).alloc (.cells #[.pointer (some ⟨7, 70, none⟩), .pointer (some ⟨w.heap.size, 0, none⟩), .int .u64 150] 104))) (by simp)
  have hlt : 0 < w.heap.size := by
    rcases Nat.eq_zero_or_pos w.heap.size with h0 | h
    · simp [World.cell?, h0] at hg
    · exact h
  have hg2 : (((w.alloc (.cells #[.pointer (some t)] 70)).alloc (.cells #[.pointer (some ⟨7, 70, none⟩), .pointer (some ⟨w.heap.size, 0, none⟩), .int .u64 150] 104))).cell? ⟨0, 0, none⟩ = some (.iface 127 (.agg #[.pointer (some ⟨7, 36, none⟩)])) := by
    rw [World.cell?_alloc_lt _ _ ⟨0, 0, none⟩ (by simp), World.cell?_alloc_lt _ _ ⟨0, 0, none⟩ hlt]; exact hg
  obtain ⟨W', hs', hR⟩ := hs (((((w.alloc (.cells #[.pointer (some t)] 70)).alloc (.cells #[.pointer (some ⟨7, 70, none⟩), .pointer (some ⟨w.heap.size, 0, none⟩), .int .u64 150] 104)).alloc (.cells #[.pointer (some ⟨7, 70, none⟩), .pointer (some ⟨w.heap.size, 0, none⟩), .int .u64 150] 104)).alloc (.cells #[.int .i64 n] 24))) (by repeat (first | exact Below.refl _ _ | refine Below.alloc ?_ (by simp <;> omega) _))
  have el := elemV70 ⟨w.heap.size, 0, none⟩ t ((((w.alloc (.cells #[.pointer (some t)] 70)).alloc (.cells #[.pointer (some ⟨7, 70, none⟩), .pointer (some ⟨w.heap.size, 0, none⟩), .int .u64 150] 104)).alloc (.cells #[.pointer (some ⟨7, 70, none⟩), .pointer (some ⟨w.heap.size, 0, none⟩), .int .u64 150] 104))) (by rw [World.cell?_alloc_lt _ _ ⟨w.heap.size, 0, none⟩ (by simp <;> omega)]; rw [World.cell?_alloc_lt _ _ ⟨w.heap.size, 0, none⟩ (by simp <;> omega)]; simp)
  have st := set24' t ⟨w.heap.size + 1 + 1 + 1, 0, none⟩ n (((((w.alloc (.cells #[.pointer (some t)] 70)).alloc (.cells #[.pointer (some ⟨7, 70, none⟩), .pointer (some ⟨w.heap.size, 0, none⟩), .int .u64 150] 104)).alloc (.cells #[.pointer (some ⟨7, 70, none⟩), .pointer (some ⟨w.heap.size, 0, none⟩), .int .u64 150] 104)).alloc (.cells #[.int .i64 n] 24))) W' (by rw [World.cell?_alloc_at _ _ _ _ (by simp)]; rfl) hs'
  go_enter Tryz.func23, Tryz.ntmps23
  go_wp2
  refine wp_loop_rounds 1 ?_
  rw [rounds_succ]
  go_wp2
  go_ret
  exact ⟨rfl, hR⟩
set_option maxHeartbeats 4000000 in
theorem place1 (pl : Int) (te : TypeId) (v : Value) (t : Addr) (w : World) (R : World → Prop) (hg : w.cell? ⟨0, 0, none⟩ = some (.iface 127 (.agg #[.pointer (some ⟨7, 36, none⟩)])))
    (hs : ∀ w1, Below w.heap.size w w1 → ∃ W', (storeVar 72 t (.agg #[.int .i64 pl, .iface te v])).run Tryz.prog w1 = .ok () W' ∧ R W') :
    Calls Tryz.prog 23 #[.iface 72 (.agg #[.int .i64 pl, .iface te v]), .iface 73 (.pointer (some t))] w fun ev w' => ev = .returned (.bool true) ∧ R w' := by
  have h42 := @run_callFunc_extern Tryz.prog 42 _ (fun args => ReflectliteValue.unpack (args.getD 0 (.tuple #[]))) Tryz.func42 (by kernel_rfl) (by kernel_rfl) (by kernel_rfl) (by kernel_rfl)
  have h43 := @run_callFunc_extern Tryz.prog 43 _ (ReflectliteValue.methodAny (ReflectliteValue.valueError "reflectlite.Value.Type" 0) (fun t _ _ _ => ReflectliteType.toType t)) Tryz.func43 (by kernel_rfl) (by kernel_rfl) (by kernel_rfl) (by kernel_rfl)
  have h44 := @run_callFunc_extern Tryz.prog 44 _ (ReflectliteValue.method (ReflectliteValue.valueError "reflectlite.Value.IsNil" 0) ReflectliteValue.isNil) Tryz.func44 (by kernel_rfl) (by kernel_rfl) (by kernel_rfl) (by kernel_rfl)
  have h130 := @run_callFunc_extern Tryz.prog 130 _ (ReflectliteType.abiMethod fun t => do pure (.int .u8 (← Rtype.kind t))) Tryz.func130 (by kernel_rfl) (by kernel_rfl) (by kernel_rfl) (by kernel_rfl)
  have h143 := @run_callFunc_extern Tryz.prog 143 _ (ReflectliteType.method ReflectliteType.elem) Tryz.func143 (by kernel_rfl) (by kernel_rfl) (by kernel_rfl) (by kernel_rfl)
  have h144 := @run_callFunc_extern Tryz.prog 144 _ (ReflectliteType.relation "Implements" ReflectliteType.implements_) Tryz.func144 (by kernel_rfl) (by kernel_rfl) (by kernel_rfl) (by kernel_rfl)
  have h60 := @run_callFunc_extern Tryz.prog 60 _ ReflectliteType.typeOf Tryz.func60 (by kernel_rfl) (by kernel_rfl) (by kernel_rfl) (by kernel_rfl)
  have h141 := @run_callFunc_extern Tryz.prog 141 _ (ReflectliteType.relation "AssignableTo" ReflectliteType.assignableTo) Tryz.func141 (by kernel_rfl) (by kernel_rfl) (by kernel_rfl) (by kernel_rfl)
  have h61 := @run_callFunc_extern Tryz.prog 61 _ (ReflectliteValue.method (ReflectliteValue.valueError "reflectlite.Value.Elem" 0) ReflectliteValue.elem) Tryz.func61 (by kernel_rfl) (by kernel_rfl) (by kernel_rfl) (by kernel_rfl)
  have h62 := @run_callFunc_extern Tryz.prog 62 _ ReflectliteValue.set Tryz.func62 (by kernel_rfl) (by kernel_rfl) (by kernel_rfl) (by kernel_rfl)
  have fa0 := typeOf72
  have fa1 := methodAssignableTo
  have fa2 := assignable72_72
  have fa3 := valueOf72
  have fa4 := valueOf73
  have fa5 := type73
  have fa6 := methodKind
  have fa7 := methodElem
  have fa8 := methodImplements
  have fa9 := kind73
  have fa10 := kind72
  have fa11 := elem73
  have fa12 := implements72
  have n8 := isNil73 ⟨w.heap.size, 0, none⟩ t (((w.alloc (.cells #[.pointer (some t)] 73)).alloc (.cells #[.pointer (some ⟨7, 73, none⟩), .pointer (some ⟨w.heap.size, 0, none⟩), .int .u64 150] 104))) (by simp)
  have hlt : 0 < w.heap.size := by
    rcases Nat.eq_zero_or_pos w.heap.size with h0 | h
    · simp [World.cell?, h0] at hg
    · exact h
  have hg2 : (((w.alloc (.cells #[.pointer (some t)] 73)).alloc (.cells #[.pointer (some ⟨7, 73, none⟩), .pointer (some ⟨w.heap.size, 0, none⟩), .int .u64 150] 104))).cell? ⟨0, 0, none⟩ = some (.iface 127 (.agg #[.pointer (some ⟨7, 36, none⟩)])) := by
    rw [World.cell?_alloc_lt _ _ ⟨0, 0, none⟩ (by simp), World.cell?_alloc_lt _ _ ⟨0, 0, none⟩ hlt]; exact hg
  obtain ⟨W', hs', hR⟩ := hs (((((w.alloc (.cells #[.pointer (some t)] 73)).alloc (.cells #[.pointer (some ⟨7, 73, none⟩), .pointer (some ⟨w.heap.size, 0, none⟩), .int .u64 150] 104)).alloc (.cells #[.pointer (some ⟨7, 73, none⟩), .pointer (some ⟨w.heap.size, 0, none⟩), .int .u64 150] 104)).alloc (.cells #[.int .i64 pl, .iface te v] 72))) (by repeat (first | exact Below.refl _ _ | refine Below.alloc ?_ (by simp <;> omega) _))
  have el := elemV73 ⟨w.heap.size, 0, none⟩ t ((((w.alloc (.cells #[.pointer (some t)] 73)).alloc (.cells #[.pointer (some ⟨7, 73, none⟩), .pointer (some ⟨w.heap.size, 0, none⟩), .int .u64 150] 104)).alloc (.cells #[.pointer (some ⟨7, 73, none⟩), .pointer (some ⟨w.heap.size, 0, none⟩), .int .u64 150] 104))) (by rw [World.cell?_alloc_lt _ _ ⟨w.heap.size, 0, none⟩ (by simp <;> omega)]; rw [World.cell?_alloc_lt _ _ ⟨w.heap.size, 0, none⟩ (by simp <;> omega)]; simp)
  have st := set72 t (w.heap.size + 1 + 1 + 1) pl te v (0, 0) (((((w.alloc (.cells #[.pointer (some t)] 73)).alloc (.cells #[.pointer (some ⟨7, 73, none⟩), .pointer (some ⟨w.heap.size, 0, none⟩), .int .u64 150] 104)).alloc (.cells #[.pointer (some ⟨7, 73, none⟩), .pointer (some ⟨w.heap.size, 0, none⟩), .int .u64 150] 104)).alloc (.cells #[.int .i64 pl, .iface te v] 72))) W' (by have := heap_alloc_new ((((w.alloc (.cells #[.pointer (some t)] 73)).alloc (.cells #[.pointer (some ⟨7, 73, none⟩), .pointer (some ⟨w.heap.size, 0, none⟩), .int .u64 150] 104)).alloc (.cells #[.pointer (some ⟨7, 73, none⟩), .pointer (some ⟨w.heap.size, 0, none⟩), .int .u64 150] 104))) (.cells #[.int .i64 pl, .iface te v] 72); simpa using this) hs'
  go_enter Tryz.func23, Tryz.ntmps23
  go_wp2
  refine wp_loop_rounds 1 ?_
  rw [rounds_succ]
  go_wp2
  go_ret
  exact ⟨rfl, hR⟩
set_option maxHeartbeats 4000000 in
theorem code1 (n pl : Int) (t : Addr) (w : World) (R : World → Prop) (hg : w.cell? ⟨0, 0, none⟩ = some (.iface 127 (.agg #[.pointer (some ⟨7, 36, none⟩)])))
    (hs : ∀ w1, Below w.heap.size w w1 → ∃ W', (storeVar 24 t (.int .i64 n)).run Tryz.prog w1 = .ok () W' ∧ R W') :
    Calls Tryz.prog 23 #[.iface 72 (.agg #[.int .i64 pl, .iface 24 (.int .i64 n)]), .iface 70 (.pointer (some t))] w fun ev w' => ev = .returned (.bool true) ∧ R w' := by
  have h42 := @run_callFunc_extern Tryz.prog 42 _ (fun args => ReflectliteValue.unpack (args.getD 0 (.tuple #[]))) Tryz.func42 (by kernel_rfl) (by kernel_rfl) (by kernel_rfl) (by kernel_rfl)
  have h43 := @run_callFunc_extern Tryz.prog 43 _ (ReflectliteValue.methodAny (ReflectliteValue.valueError "reflectlite.Value.Type" 0) (fun t _ _ _ => ReflectliteType.toType t)) Tryz.func43 (by kernel_rfl) (by kernel_rfl) (by kernel_rfl) (by kernel_rfl)
  have h44 := @run_callFunc_extern Tryz.prog 44 _ (ReflectliteValue.method (ReflectliteValue.valueError "reflectlite.Value.IsNil" 0) ReflectliteValue.isNil) Tryz.func44 (by kernel_rfl) (by kernel_rfl) (by kernel_rfl) (by kernel_rfl)
  have h130 := @run_callFunc_extern Tryz.prog 130 _ (ReflectliteType.abiMethod fun t => do pure (.int .u8 (← Rtype.kind t))) Tryz.func130 (by kernel_rfl) (by kernel_rfl) (by kernel_rfl) (by kernel_rfl)
  have h143 := @run_callFunc_extern Tryz.prog 143 _ (ReflectliteType.method ReflectliteType.elem) Tryz.func143 (by kernel_rfl) (by kernel_rfl) (by kernel_rfl) (by kernel_rfl)
  have h144 := @run_callFunc_extern Tryz.prog 144 _ (ReflectliteType.relation "Implements" ReflectliteType.implements_) Tryz.func144 (by kernel_rfl) (by kernel_rfl) (by kernel_rfl) (by kernel_rfl)
  have h60 := @run_callFunc_extern Tryz.prog 60 _ ReflectliteType.typeOf Tryz.func60 (by kernel_rfl) (by kernel_rfl) (by kernel_rfl) (by kernel_rfl)
  have h141 := @run_callFunc_extern Tryz.prog 141 _ (ReflectliteType.relation "AssignableTo" ReflectliteType.assignableTo) Tryz.func141 (by kernel_rfl) (by kernel_rfl) (by kernel_rfl) (by kernel_rfl)
  have h61 := @run_callFunc_extern Tryz.prog 61 _ (ReflectliteValue.method (ReflectliteValue.valueError "reflectlite.Value.Elem" 0) ReflectliteValue.elem) Tryz.func61 (by kernel_rfl) (by kernel_rfl) (by kernel_rfl) (by kernel_rfl)
  have h62 := @run_callFunc_extern Tryz.prog 62 _ ReflectliteValue.set Tryz.func62 (by kernel_rfl) (by kernel_rfl) (by kernel_rfl) (by kernel_rfl)
  have fa0 := typeOf24
  have fa1 := methodAssignableTo
  have fa2 := assignable24_24
  have fa3 := valueOf24
  have fa4 := valueOf70
  have fa5 := type70
  have fa6 := methodKind
  have fa7 := methodElem
  have fa8 := methodImplements
  have fa9 := kind70
  have fa10 := kind24
  have fa11 := elem70
  have fa12 := implements24
  have fa13 := typeOf72
  have fa14 := assignable72_24
  have fa15 := lacksAs72
  have fa16 := hasUn72
  have fa17 := methodUnwrap
  have n8 := isNil70 ⟨w.heap.size, 0, none⟩ t (((w.alloc (.cells #[.pointer (some t)] 70)).alloc (.cells #[.pointer (some ⟨7, 70, none⟩), .pointer (some ⟨w.heap.size, 0, none⟩), .int .u64 150] 104))) (by simp)
  have hlt : 0 < w.heap.size := by
    rcases Nat.eq_zero_or_pos w.heap.size with h0 | h
    · simp [World.cell?, h0] at hg
    · exact h
  have hg2 : (((w.alloc (.cells #[.pointer (some t)] 70)).alloc (.cells #[.pointer (some ⟨7, 70, none⟩), .pointer (some ⟨w.heap.size, 0, none⟩), .int .u64 150] 104))).cell? ⟨0, 0, none⟩ = some (.iface 127 (.agg #[.pointer (some ⟨7, 36, none⟩)])) := by
    rw [World.cell?_alloc_lt _ _ ⟨0, 0, none⟩ (by simp), World.cell?_alloc_lt _ _ ⟨0, 0, none⟩ hlt]; exact hg
  obtain ⟨W', hs', hR⟩ := hs ((((((w.alloc (.cells #[.pointer (some t)] 70)).alloc (.cells #[.pointer (some ⟨7, 70, none⟩), .pointer (some ⟨w.heap.size, 0, none⟩), .int .u64 150] 104)).alloc (.cells #[.pointer (some ⟨7, 70, none⟩), .pointer (some ⟨w.heap.size, 0, none⟩), .int .u64 150] 104)).alloc (.cells #[.int .i64 pl, .iface 24 (.int .i64 n)] 72)).alloc (.cells #[.int .i64 n] 24))) (by repeat (first | exact Below.refl _ _ | refine Below.alloc ?_ (by simp <;> omega) _))
  have el := elemV70 ⟨w.heap.size, 0, none⟩ t (((((w.alloc (.cells #[.pointer (some t)] 70)).alloc (.cells #[.pointer (some ⟨7, 70, none⟩), .pointer (some ⟨w.heap.size, 0, none⟩), .int .u64 150] 104)).alloc (.cells #[.pointer (some ⟨7, 70, none⟩), .pointer (some ⟨w.heap.size, 0, none⟩), .int .u64 150] 104)).alloc (.cells #[.int .i64 pl, .iface 24 (.int .i64 n)] 72))) (by rw [World.cell?_alloc_lt _ _ ⟨w.heap.size, 0, none⟩ (by simp <;> omega)]; rw [World.cell?_alloc_lt _ _ ⟨w.heap.size, 0, none⟩ (by simp <;> omega)]; rw [World.cell?_alloc_lt _ _ ⟨w.heap.size, 0, none⟩ (by simp <;> omega)]; simp)
  have st := set24' t ⟨w.heap.size + 1 + 1 + 1 + 1, 0, none⟩ n ((((((w.alloc (.cells #[.pointer (some t)] 70)).alloc (.cells #[.pointer (some ⟨7, 70, none⟩), .pointer (some ⟨w.heap.size, 0, none⟩), .int .u64 150] 104)).alloc (.cells #[.pointer (some ⟨7, 70, none⟩), .pointer (some ⟨w.heap.size, 0, none⟩), .int .u64 150] 104)).alloc (.cells #[.int .i64 pl, .iface 24 (.int .i64 n)] 72)).alloc (.cells #[.int .i64 n] 24))) W' (by rw [World.cell?_alloc_at _ _ _ _ (by simp)]; rfl) hs'
  go_enter Tryz.func23, Tryz.ntmps23
  go_wp2
  refine wp_loop_rounds 2 ?_
  rw [rounds_succ]
  go_wp2
  rw [rounds_succ]
  go_wp2
  go_ret
  exact ⟨rfl, hR⟩
end Go.Proofs.YtnfiihdebonadaaGreatDoor.AsAt
