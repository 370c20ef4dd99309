import Derived.Test.YtnfiihdebonadaaGreatDoorProg
import Derived.WalkKit
import Derived.LaidEql
import Derived.Stop.Asserts
import Derived.RowKitTokens
set_option linter.unusedSimpArgs false
set_option linter.unusedVariables false
set_option linter.unusedSectionVars false
namespace Go.Proofs.YtnfiihdebonadaaGreatDoor.AsAt
open Go.RowKit Go.Extern.Stop Go.Stop Go.Extern
theorem methodKind (h : Value) (w : World) : (Go.method 322 127 (.agg #[h]) "Kind").run Tryz.prog w = .ok (130, h) w := by kernel_rfl
theorem methodElem (h : Value) (w : World) : (Go.method 322 127 (.agg #[h]) "Elem").run Tryz.prog w = .ok (143, .agg #[h]) w := by kernel_rfl
theorem methodImplements (h : Value) (w : World) : (Go.method 322 127 (.agg #[h]) "Implements").run Tryz.prog w = .ok (144, .agg #[h]) w := by kernel_rfl
theorem methodAssignableTo (h : Value) (w : World) : (Go.method 322 127 (.agg #[h]) "AssignableTo").run Tryz.prog w = .ok (141, .agg #[h]) w := by kernel_rfl
theorem valueOf70 (t : Addr) (w : World) : (ReflectliteValue.unpack (.iface 70 (.pointer (some t)))).run Tryz.prog w = .ok (.agg #[.pointer (some ⟨7, 70, none⟩), .pointer (some ⟨w.heap.size, 0, none⟩), .int .u64 150]) (w.alloc (.cells #[.pointer (some t)] 70)) := by kernel_rfl
theorem type70 (a : Addr) (w : World) : (ReflectliteValue.methodAny (ReflectliteValue.valueError "reflectlite.Value.Type" 0) (fun t _ _ _ => ReflectliteType.toType t) #[.agg #[.pointer (some ⟨7, 70, none⟩), .pointer (some a), .int .u64 150]]).run Tryz.prog w = .ok (.iface 127 (.agg #[.pointer (some ⟨7, 70, none⟩)])) w := by kernel_rfl
theorem kind70 (w : World) : ((ReflectliteType.abiMethod fun t => (fun a : Nat => Value.int IntKind.u8 (a : Int)) <$> Rtype.kind t) #[.pointer (some ⟨7, 70, none⟩)]).run Tryz.prog w = .ok (.int .u8 22) w := by kernel_rfl
theorem kind24 (w : World) : ((ReflectliteType.abiMethod fun t => (fun a : Nat => Value.int IntKind.u8 (a : Int)) <$> Rtype.kind t) #[.pointer (some ⟨7, 24, none⟩)]).run Tryz.prog w = .ok (.int .u8 2) w := by kernel_rfl
theorem elem70 (w : World) : (ReflectliteType.method ReflectliteType.elem #[.agg #[.pointer (some ⟨7, 70, none⟩)]]).run Tryz.prog w = .ok (.iface 127 (.agg #[.pointer (some ⟨7, 24, none⟩)])) w := by kernel_rfl
theorem implements24 (w : World) : (ReflectliteType.relation "Implements" ReflectliteType.implements_ #[.agg #[.pointer (some ⟨7, 24, none⟩)], .iface 127 (.agg #[.pointer (some ⟨7, 36, none⟩)])]).run Tryz.prog w = .ok (.bool true) w := by kernel_rfl
theorem typeOf24 (v : Value) (w : World) : (ReflectliteType.typeOf #[.iface 24 v]).run Tryz.prog w = .ok (.iface 127 (.agg #[.pointer (some ⟨7, 24, none⟩)])) w := by kernel_rfl
theorem assignable24_24 (w : World) : (ReflectliteType.relation "AssignableTo" ReflectliteType.assignableTo #[.agg #[.pointer (some ⟨7, 24, none⟩)], .iface 127 (.agg #[.pointer (some ⟨7, 24, none⟩)])]).run Tryz.prog w = .ok (.bool true) w := by kernel_rfl
theorem assignable72_24 (w : World) : (ReflectliteType.relation "AssignableTo" ReflectliteType.assignableTo #[.agg #[.pointer (some ⟨7, 72, none⟩)], .iface 127 (.agg #[.pointer (some ⟨7, 24, none⟩)])]).run Tryz.prog w = .ok (.bool false) w := by kernel_rfl
theorem parts70 (a : Addr) (w : World) : (ReflectliteValue.parts (.agg #[.pointer (some ⟨7, 70, none⟩), .pointer (some a), .int .u64 150])).run Tryz.prog w = .ok (some (70, a, 150)) w := by kernel_rfl
theorem elemOf70 (w : World) : (Rtype.elem? 70).run Tryz.prog w = .ok (some 24) w := by kernel_rfl
theorem mk24 (p : Addr) (w : World) : (ReflectliteValue.mk 24 p ReflectliteValue.flagAddr).run Tryz.prog w = .ok (.agg #[.pointer (some ⟨7, 24, none⟩), .pointer (some p), .int .u64 386]) w := by kernel_rfl
theorem parts24a (a : Addr) (w : World) : (ReflectliteValue.parts (.agg #[.pointer (some ⟨7, 24, none⟩), .pointer (some a), .int .u64 386])).run Tryz.prog w = .ok (some (24, a, 386)) w := by kernel_rfl
theorem parts24 (a : Addr) (w : World) : (ReflectliteValue.parts (.agg #[.pointer (some ⟨7, 24, none⟩), .pointer (some a), .int .u64 130])).run Tryz.prog w = .ok (some (24, a, 130)) w := by kernel_rfl
theorem direct24 (w : World) : (Rtype.directlyAssignable 24 24).run Tryz.prog w = .ok true w := by kernel_rfl
theorem valueOf73 (t : Addr) (w : World) : (ReflectliteValue.unpack (.iface 73 (.pointer (some t)))).run Tryz.prog w = .ok (.agg #[.pointer (some ⟨7, 73, none⟩), .pointer (some ⟨w.heap.size, 0, none⟩), .int .u64 150]) (w.alloc (.cells #[.pointer (some t)] 73)) := by kernel_rfl
theorem type73 (a : Addr) (w : World) : (ReflectliteValue.methodAny (ReflectliteValue.valueError "reflectlite.Value.Type" 0) (fun t _ _ _ => ReflectliteType.toType t) #[.agg #[.pointer (some ⟨7, 73, none⟩), .pointer (some a), .int .u64 150]]).run Tryz.prog w = .ok (.iface 127 (.agg #[.pointer (some ⟨7, 73, none⟩)])) w := by kernel_rfl
theorem kind73 (w : World) : ((ReflectliteType.abiMethod fun t => (fun a : Nat => Value.int IntKind.u8 (a : Int)) <$> Rtype.kind t) #[.pointer (some ⟨7, 73, none⟩)]).run Tryz.prog w = .ok (.int .u8 22) w := by kernel_rfl
theorem kind72 (w : World) : ((ReflectliteType.abiMethod fun t => (fun a : Nat => Value.int IntKind.u8 (a : Int)) <$> Rtype.kind t) #[.pointer (some ⟨7, 72, none⟩)]).run Tryz.prog w = .ok (.int .u8 25) w := by kernel_rfl
theorem elem73 (w : World) : (ReflectliteType.method ReflectliteType.elem #[.agg #[.pointer (some ⟨7, 73, none⟩)]]).run Tryz.prog w = .ok (.iface 127 (.agg #[.pointer (some ⟨7, 72, none⟩)])) w := by kernel_rfl
theorem implements72 (w : World) : (ReflectliteType.relation "Implements" ReflectliteType.implements_ #[.agg #[.pointer (some ⟨7, 72, none⟩)], .iface 127 (.agg #[.pointer (some ⟨7, 36, none⟩)])]).run Tryz.prog w = .ok (.bool true) w := by kernel_rfl
theorem typeOf72 (v : Value) (w : World) : (ReflectliteType.typeOf #[.iface 72 v]).run Tryz.prog w = .ok (.iface 127 (.agg #[.pointer (some ⟨7, 72, none⟩)])) w := by kernel_rfl
theorem assignable24_72 (w : World) : (ReflectliteType.relation "AssignableTo" ReflectliteType.assignableTo #[.agg #[.pointer (some ⟨7, 24, none⟩)], .iface 127 (.agg #[.pointer (some ⟨7, 72, none⟩)])]).run Tryz.prog w = .ok (.bool false) w := by kernel_rfl
theorem assignable72_72 (w : World) : (ReflectliteType.relation "AssignableTo" ReflectliteType.assignableTo #[.agg #[.pointer (some ⟨7, 72, none⟩)], .iface 127 (.agg #[.pointer (some ⟨7, 72, none⟩)])]).run Tryz.prog w = .ok (.bool true) w := by kernel_rfl
theorem parts73 (a : Addr) (w : World) : (ReflectliteValue.parts (.agg #[.pointer (some ⟨7, 73, none⟩), .pointer (some a), .int .u64 150])).run Tryz.prog w = .ok (some (73, a, 150)) w := by kernel_rfl
theorem elemOf73 (w : World) : (Rtype.elem? 73).run Tryz.prog w = .ok (some 72) w := by kernel_rfl
theorem mk72 (p : Addr) (w : World) : (ReflectliteValue.mk 72 p ReflectliteValue.flagAddr).run Tryz.prog w = .ok (.agg #[.pointer (some ⟨7, 72, none⟩), .pointer (some p), .int .u64 409]) w := by kernel_rfl
theorem parts72a (a : Addr) (w : World) : (ReflectliteValue.parts (.agg #[.pointer (some ⟨7, 72, none⟩), .pointer (some a), .int .u64 409])).run Tryz.prog w = .ok (some (72, a, 409)) w := by kernel_rfl
theorem parts72 (a : Addr) (w : World) : (ReflectliteValue.parts (.agg #[.pointer (some ⟨7, 72, none⟩), .pointer (some a), .int .u64 153])).run Tryz.prog w = .ok (some (72, a, 153)) w := by kernel_rfl
theorem direct72 (w : World) : (Rtype.directlyAssignable 72 72).run Tryz.prog w = .ok true w := by kernel_rfl
theorem valueOf24 (n : Int) (w : World) : (ReflectliteValue.unpack (.iface 24 (.int .i64 n))).run Tryz.prog w = .ok (.agg #[.pointer (some ⟨7, 24, none⟩), .pointer (some ⟨w.heap.size, 0, none⟩), .int .u64 130]) (w.alloc (.cells #[.int .i64 n] 24)) := by kernel_rfl
theorem valueOf72 (pl : Int) (t : TypeId) (v : Value) (w : World) : (ReflectliteValue.unpack (.iface 72 (.agg #[.int .i64 pl, .iface t v]))).run Tryz.prog w = .ok (.agg #[.pointer (some ⟨7, 72, none⟩), .pointer (some ⟨w.heap.size, 0, none⟩), .int .u64 153]) (w.alloc (.cells #[.int .i64 pl, .iface t v] 72)) := by kernel_rfl
end Go.Proofs.YtnfiihdebonadaaGreatDoor.AsAt
