import Derived.Test.YtkfopceebbebjaaDoorGwV
import Derived.LaidEql
import Derived.Stop.Asserts
import Derived.RowKitTokens
namespace Go.Proofs.YtkfopceebbebjaaDoor
open Go.RowKit Go.Extern.Stop Go.Stop Go.Extern
set_option linter.unusedVariables false
set_option linter.unusedSimpArgs false
/-! ### errors.Is and errors.As at the errors of package octet: 72: at · 74: fault · 77: *fault · 94: reflectlite's rtype -/
abbrev vFault (n : Int) : Value := .agg #[.int .i64 n]
abbrev vAt (no n : Int) : Value := .agg #[.int .i64 no, .iface 74 (.agg #[.int .i64 n])]
theorem eql_7274 (a b : Value) (w : World) : (binOp .eql 59 (.iface 72 a) (.iface 74 b)).run Tryd.prog w = .ok (.bool false) w := by kernel_rfl
theorem eql_74 (w : World) : (binOp .eql 59 (.iface 74 (.agg #[.int .i64 3])) (.iface 74 (.agg #[.int .i64 3]))).run Tryd.prog w = .ok (.bool true) w := by kernel_rfl
theorem eql_74' (w : World) : (binOp .eql 59 (.iface 74 (.agg #[.int .i64 2])) (.iface 74 (.agg #[.int .i64 3]))).run Tryd.prog w = .ok (.bool false) w := by kernel_rfl
theorem noIsE (v : Value) (xT : TypeId) (w : World) : (Instr.typeAssert (.iface 74 v) xT 96 true).run Tryd.prog w = .ok (.tuple #[.nilIface, .bool false]) w := run_typeAssert_lacksB Tryd.underlying96 (by kernel_rfl) (by kernel_rfl) v xT w
theorem noUnwrapE (v : Value) (xT : TypeId) (w : World) : (Instr.typeAssert (.iface 74 v) xT 99 true).run Tryd.prog w = .ok (.tuple #[.nilIface, .bool false]) w := run_typeAssert_lacksB Tryd.underlying99 (by kernel_rfl) (by kernel_rfl) v xT w
theorem noUnwrapsE (v : Value) (xT : TypeId) (w : World) : (Instr.typeAssert (.iface 74 v) xT 100 true).run Tryd.prog w = .ok (.tuple #[.nilIface, .bool false]) w := run_typeAssert_lacksB Tryd.underlying100 (by kernel_rfl) (by kernel_rfl) v xT w
theorem noIsW (v : Value) (xT : TypeId) (w : World) : (Instr.typeAssert (.iface 72 v) xT 96 true).run Tryd.prog w = .ok (.tuple #[.nilIface, .bool false]) w := run_typeAssert_lacksB Tryd.underlying96 (by kernel_rfl) (by kernel_rfl) v xT w
theorem noAsW (v : Value) (xT : TypeId) (w : World) : (Instr.typeAssert (.iface 72 v) xT 105 true).run Tryd.prog w = .ok (.tuple #[.nilIface, .bool false]) w := run_typeAssert_lacksB Tryd.underlying105 (by kernel_rfl) (by kernel_rfl) v xT w
theorem hasUnwrapW (v : Value) (xT : TypeId) (w : World) : (Instr.typeAssert (.iface 72 v) xT 99 true).run Tryd.prog w = .ok (.tuple #[.iface 72 v, .bool true]) w := run_typeAssert_hasB Tryd.underlying99 (by kernel_rfl) v xT w
theorem methodUnwrap (v : Value) (w : World) : (Go.method 236 72 v "Unwrap").run Tryd.prog w = .ok (61, v) w := by kernel_rfl
theorem typeOf74 (v : Value) (w : World) : (ReflectliteType.typeOf #[.iface 74 v]).run Tryd.prog w = .ok (.iface 94 (.agg #[.pointer (some ⟨1, 74, none⟩)])) w := by kernel_rfl
theorem typeOf72 (v : Value) (w : World) : (ReflectliteType.typeOf #[.iface 72 v]).run Tryd.prog w = .ok (.iface 94 (.agg #[.pointer (some ⟨1, 72, none⟩)])) w := by kernel_rfl
def xComp : Array Value → Sem Value := ReflectliteType.method fun t => do Rtype.noPackHeld "Comparable" t; pure (.bool (← typeInfo t).comparable)
theorem comparable74 (w : World) : (xComp #[.agg #[.pointer (some ⟨1, 74, none⟩)]]).run Tryd.prog w = .ok (.bool true) w := by kernel_rfl
theorem methodComparable (v : Value) (w : World) : (Go.method 236 94 v "Comparable").run Tryd.prog w = .ok (68, v) w := by kernel_rfl
set_option maxHeartbeats 4000000 in
theorem is_short (no : Int) (w : World) : Calls Tryd.prog 31 #[.iface 72 (.agg #[.int .i64 no, .iface 74 (.agg #[.int .i64 3])]), .iface 74 (.agg #[.int .i64 3])] w fun e w' => e = .returned (.bool true) ∧ w' = w.alloc (.cells #[.int .i64 no, .iface 74 (.agg #[.int .i64 3])] 72) := by
  have h8 := @run_callFunc_extern Tryd.prog 34 _ ReflectliteType.typeOf Tryd.func34 (by kernel_rfl) (by kernel_rfl) (by kernel_rfl) (by kernel_rfl)
  have h32 := @run_callFunc_extern Tryd.prog 68 _ xComp Tryd.func68 (by kernel_rfl) (by kernel_rfl) (by kernel_rfl) (by kernel_rfl)
  have tT := typeOf74
  have cT := comparable74
  have mR := methodComparable
  have nE := noIsE
  have uE := noUnwrapE
  have vE := noUnwrapsE
  have nW := noIsW
  have uW := hasUnwrapW
  have mU := methodUnwrap
  have e1 := eql_7274
  have e2 := eql_74
  go_enter Tryd.func31, Tryd.ntmps31
  go_wp2
  refine wp_loop_rounds 2 ?_
  rw [rounds_succ]
  go_wp2
  rw [rounds_succ]
  go_wp2
  go_ret
  exact ⟨rfl, rfl⟩
set_option maxHeartbeats 4000000 in
theorem is_long (no : Int) (w : World) : Calls Tryd.prog 31 #[.iface 72 (.agg #[.int .i64 no, .iface 74 (.agg #[.int .i64 2])]), .iface 74 (.agg #[.int .i64 3])] w fun e w' => e = .returned (.bool false) ∧ w' = w.alloc (.cells #[.int .i64 no, .iface 74 (.agg #[.int .i64 2])] 72) := by
  have h8 := @run_callFunc_extern Tryd.prog 34 _ ReflectliteType.typeOf Tryd.func34 (by kernel_rfl) (by kernel_rfl) (by kernel_rfl) (by kernel_rfl)
  have h32 := @run_callFunc_extern Tryd.prog 68 _ xComp Tryd.func68 (by kernel_rfl) (by kernel_rfl) (by kernel_rfl) (by kernel_rfl)
  have tT := typeOf74
  have cT := comparable74
  have mR := methodComparable
  have nE := noIsE
  have uE := noUnwrapE
  have vE := noUnwrapsE
  have nW := noIsW
  have uW := hasUnwrapW
  have mU := methodUnwrap
  have e1 := eql_7274
  have e2 := eql_74'
  go_enter Tryd.func31, Tryd.ntmps31
  go_wp2
  refine wp_loop_rounds 2 ?_
  rw [rounds_succ]
  go_wp2
  rw [rounds_succ]
  go_wp2
  go_ret
  exact ⟨rfl, rfl⟩
/-! the entries for internal/reflectlite -/
theorem valueOf77 (t : Addr) (w : World) : (ReflectliteValue.unpack (.iface 77 (.pointer (some t)))).run Tryd.prog w
    = .ok (.agg #[.pointer (some ⟨1, 77, none⟩), .pointer (some ⟨w.heap.size, 0, none⟩), .int .u64 150]) (w.alloc (.cells #[.pointer (some t)] 77)) := by kernel_rfl
theorem type77 (a : Addr) (w : World) : (ReflectliteValue.methodAny (ReflectliteValue.valueError "reflectlite.Value.Type" 0) (fun t _ _ _ => ReflectliteType.toType t) #[.agg #[.pointer (some ⟨1, 77, none⟩), .pointer (some a), .int .u64 150]]).run Tryd.prog w
    = .ok (.iface 94 (.agg #[.pointer (some ⟨1, 77, none⟩)])) w := by kernel_rfl
theorem methodKind (h : Value) (w : World) : (Go.method 236 94 (.agg #[h]) "Kind").run Tryd.prog w = .ok (56, h) w := by kernel_rfl
def xKind : Array Value → Sem Value := ReflectliteType.abiMethod fun t => do pure (.int .u8 (← Rtype.kind t))
theorem kind77 (w : World) : (xKind #[.pointer (some ⟨1, 77, none⟩)]).run Tryd.prog w = .ok (.int .u8 22) w := by kernel_rfl
theorem kind74 (w : World) : (xKind #[.pointer (some ⟨1, 74, none⟩)]).run Tryd.prog w = .ok (.int .u8 25) w := by kernel_rfl
theorem rlm (z : Sem Value) (f : TypeId → Addr → Nat → Nat → Sem Value) (v : Value) :
    ReflectliteValue.method z f #[v] = (do match ← ReflectliteValue.parts v with | none => z | some (t, a, fl) => f t a fl (fl % 32)) := rfl
theorem parts77 (a : Addr) (w : World) : (ReflectliteValue.parts (.agg #[.pointer (some ⟨1, 77, none⟩), .pointer (some a), .int .u64 150])).run Tryd.prog w = .ok (some (77, a, 150)) w := by kernel_rfl
theorem isNil77 (a p : Addr) (W : World) (ha : W.cell? a = some (.pointer (some p))) :
    (ReflectliteValue.method (ReflectliteValue.valueError "reflectlite.Value.IsNil" 0) ReflectliteValue.isNil #[.agg #[.pointer (some ⟨1, 77, none⟩), .pointer (some a), .int .u64 150]]).run Tryd.prog W = .ok (.bool false) W := by
  rw [rlm]
  simp only [Sem.run_bind, parts77, Result.andThen]
  simp [ReflectliteValue.isNil, loadVar, isAgg, underlying, Tryd.underlying77, ha, Result.andThen]
theorem methodElem (h : Value) (w : World) : (Go.method 236 94 (.agg #[h]) "Elem").run Tryd.prog w = .ok (69, .agg #[h]) w := by kernel_rfl
theorem methodImplements (h : Value) (w : World) : (Go.method 236 94 (.agg #[h]) "Implements").run Tryd.prog w = .ok (70, .agg #[h]) w := by kernel_rfl
theorem methodAssignableTo (h : Value) (w : World) : (Go.method 236 94 (.agg #[h]) "AssignableTo").run Tryd.prog w = .ok (67, .agg #[h]) w := by kernel_rfl
theorem elem77 (w : World) : (ReflectliteType.method ReflectliteType.elem #[.agg #[.pointer (some ⟨1, 77, none⟩)]]).run Tryd.prog w = .ok (.iface 94 (.agg #[.pointer (some ⟨1, 74, none⟩)])) w := by kernel_rfl
theorem implements74 (w : World) : (ReflectliteType.relation "Implements" ReflectliteType.implements_ #[.agg #[.pointer (some ⟨1, 74, none⟩)], .iface 94 (.agg #[.pointer (some ⟨1, 59, none⟩)])]).run Tryd.prog w = .ok (.bool true) w := by kernel_rfl
theorem assignable74 (w : World) : (ReflectliteType.relation "AssignableTo" ReflectliteType.assignableTo #[.agg #[.pointer (some ⟨1, 74, none⟩)], .iface 94 (.agg #[.pointer (some ⟨1, 74, none⟩)])]).run Tryd.prog w = .ok (.bool true) w := by kernel_rfl
theorem assignable72 (w : World) : (ReflectliteType.relation "AssignableTo" ReflectliteType.assignableTo #[.agg #[.pointer (some ⟨1, 72, none⟩)], .iface 94 (.agg #[.pointer (some ⟨1, 74, none⟩)])]).run Tryd.prog w = .ok (.bool false) w := by kernel_rfl
theorem valueOf74 (n : Int) (w : World) : (ReflectliteValue.unpack (.iface 74 (.agg #[.int .i64 n]))).run Tryd.prog w
    = .ok (.agg #[.pointer (some ⟨1, 74, none⟩), .pointer (some ⟨w.heap.size, 0, none⟩), .int .u64 153]) (w.alloc (.cells #[.int .i64 n] 74)) := by kernel_rfl
theorem elemOf77 (w : World) : (Rtype.elem? 77).run Tryd.prog w = .ok (some 74) w := by kernel_rfl
theorem mk74 (p : Addr) (w : World) : (ReflectliteValue.mk 74 p ReflectliteValue.flagAddr).run Tryd.prog w = .ok (.agg #[.pointer (some ⟨1, 74, none⟩), .pointer (some p), .int .u64 409]) w := by kernel_rfl
theorem elemV77 (a p : Addr) (W : World) (ha : W.cell? a = some (.pointer (some p))) :
    (ReflectliteValue.method (ReflectliteValue.valueError "reflectlite.Value.Elem" 0) ReflectliteValue.elem #[.agg #[.pointer (some ⟨1, 77, none⟩), .pointer (some a), .int .u64 150]]).run Tryd.prog W
      = .ok (.agg #[.pointer (some ⟨1, 74, none⟩), .pointer (some p), .int .u64 409]) W := by
  rw [rlm]
  simp only [Sem.run_bind, parts77, Result.andThen]
  simp [ReflectliteValue.elem, loadVar, isAgg, underlying, Tryd.underlying77, ha, Result.andThen, elemOf77, mk74]
end Go.Proofs.YtkfopceebbebjaaDoor
