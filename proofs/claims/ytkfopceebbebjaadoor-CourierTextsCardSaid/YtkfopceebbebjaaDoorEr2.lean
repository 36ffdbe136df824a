import Derived.Test.YtkfopceebbebjaaDoorErr
namespace Go.Proofs.YtkfopceebbebjaaDoor
open Go.RowKit Go.Extern.Stop Go.Stop Go.Extern
set_option linter.unusedVariables false
set_option linter.unusedSimpArgs false
theorem ety74 : Ty Tryd.prog 74 1 8 true (.agg #[.int .i64 0]) := ⟨by kernel_rfl, by kernel_rfl⟩
theorem rls (v x : Value) : ReflectliteValue.set #[v, x] = (do
    let (some (dst, a, fl), some (src, b, _)) := (← ReflectliteValue.parts v, ← ReflectliteValue.parts x)
      | unsupported (.noEntry "extern/(internal/reflectlite.Value).Set.zeroValue")
    if fl / ReflectliteValue.flagAddr % 2 == 0 then unsupported (.noEntry "extern/(internal/reflectlite.Value).Set.unaddressable")
    let val ← loadVar src b
    if ← Rtype.directlyAssignable dst src then storeVar dst a val
    else if ← Rtype.implements dst src then
      if (← Rtype.kind src) == 20 then
        match val with
        | .nilIface => unsupported (.noEntry "extern/reflectlite: a nil value of one interface type handed on as a value of another")
        | _ => storeVar dst a val
      else storeVar dst a (.iface src val)
    else panicString ("reflectlite.Set: value of type " ++ (← Rtype.spelt src) ++ " is not assignable to type " ++ (← Rtype.spelt dst))
    pure (.tuple #[])) := rfl
theorem parts74a (a : Addr) (w : World) : (ReflectliteValue.parts (.agg #[.pointer (some ⟨1, 74, none⟩), .pointer (some a), .int .u64 409])).run Tryd.prog w = .ok (some (74, a, 409)) w := by kernel_rfl
theorem parts74 (a : Addr) (w : World) : (ReflectliteValue.parts (.agg #[.pointer (some ⟨1, 74, none⟩), .pointer (some a), .int .u64 153])).run Tryd.prog w = .ok (some (74, a, 153)) w := by kernel_rfl
theorem direct74 (w : World) : (Rtype.directlyAssignable 74 74).run Tryd.prog w = .ok true w := by kernel_rfl
theorem load74 (b : Nat) (n : Int) (W : World) (hb : W.cell? ⟨b, 0, none⟩ = some (.int .i64 n)) : (loadVar 74 ⟨b, 0, none⟩).run Tryd.prog W = .ok (.agg #[.int .i64 n]) W := by
  have := ety74.load (w := W) (b := b) (o := 0) (l := [.int .i64 n]) rfl (fun j u hj => by
    match j, hj with
    | 0, hj => simp at hj; subst hj; exact hb
    | j + 1, hj => simp at hj)
  simpa [Instr.loadAt, Instr.sureAddr] using this
theorem set74 (ta : Addr) (b : Nat) (n : Int) (old : Value) (W : World) (hb : W.cell? ⟨b, 0, none⟩ = some (.int .i64 n)) (ht : W.cell? ta = some old) (hf : W.frozen? ta = false) :
    (ReflectliteValue.set #[.agg #[.pointer (some ⟨1, 74, none⟩), .pointer (some ta), .int .u64 409], .agg #[.pointer (some ⟨1, 74, none⟩), .pointer (some ⟨b, 0, none⟩), .int .u64 153]]).run Tryd.prog W
      = .ok (.tuple #[]) (W.setCell ta (.int .i64 n)) := by
  rw [rls]
  simp only [Sem.run_bind, parts74a, parts74, Result.andThen]
  simp [ReflectliteValue.flagAddr, load74 b n W hb, Result.andThen, direct74, storeVar, ety74.sizeOf, Value.cells, storeCells, Addr.add]
  rw [run_store Tryd.prog W ta _ _ (by rfl)]
  simp [ht, hf]
set_option maxHeartbeats 4000000 in
theorem as_long (t : Addr) (no : Int) (old : Value) (w : World) (hg : w.cell? ⟨0, 0, none⟩ = some (.iface 94 (.agg #[.pointer (some ⟨1, 59, none⟩)]))) (ht0 : w.cell? t = some old) (hf0 : w.frozen? t = false) :
    Calls Tryd.prog 32 #[.iface 72 (.agg #[.int .i64 no, .iface 74 (.agg #[.int .i64 2])]), .iface 77 (.pointer (some t))] w fun ev w' => ev = .returned (.bool true) ∧ w' = (((((w.alloc (.cells #[.pointer (some t)] 77)).alloc (.cells #[.pointer (some ⟨1, 77, none⟩), .pointer (some ⟨w.heap.size, 0, none⟩), .int .u64 150] 86)).alloc (.cells #[.pointer (some ⟨1, 77, none⟩), .pointer (some ⟨w.heap.size, 0, none⟩), .int .u64 150] 86)).alloc (.cells #[.int .i64 no, .iface 74 (.agg #[.int .i64 2])] 72)).alloc (.cells #[.int .i64 2] 74)).setCell t (.int .i64 2) := by
  have h36 := @run_callFunc_extern Tryd.prog 36 _ (fun args => ReflectliteValue.unpack (args.getD 0 (.tuple #[]))) Tryd.func36 (by kernel_rfl) (by kernel_rfl) (by kernel_rfl) (by kernel_rfl)
  have h37 := @run_callFunc_extern Tryd.prog 37 _ (ReflectliteValue.methodAny (ReflectliteValue.valueError "reflectlite.Value.Type" 0) (fun t _ _ _ => ReflectliteType.toType t)) Tryd.func37 (by kernel_rfl) (by kernel_rfl) (by kernel_rfl) (by kernel_rfl)
  have h38 := @run_callFunc_extern Tryd.prog 38 _ (ReflectliteValue.method (ReflectliteValue.valueError "reflectlite.Value.IsNil" 0) ReflectliteValue.isNil) Tryd.func38 (by kernel_rfl) (by kernel_rfl) (by kernel_rfl) (by kernel_rfl)
  have h56 := @run_callFunc_extern Tryd.prog 56 _ xKind Tryd.func56 (by kernel_rfl) (by kernel_rfl) (by kernel_rfl) (by kernel_rfl)
  have h69 := @run_callFunc_extern Tryd.prog 69 _ (ReflectliteType.method ReflectliteType.elem) Tryd.func69 (by kernel_rfl) (by kernel_rfl) (by kernel_rfl) (by kernel_rfl)
  have h70 := @run_callFunc_extern Tryd.prog 70 _ (ReflectliteType.relation "Implements" ReflectliteType.implements_) Tryd.func70 (by kernel_rfl) (by kernel_rfl) (by kernel_rfl) (by kernel_rfl)
  have h34 := @run_callFunc_extern Tryd.prog 34 _ ReflectliteType.typeOf Tryd.func34 (by kernel_rfl) (by kernel_rfl) (by kernel_rfl) (by kernel_rfl)
  have h67 := @run_callFunc_extern Tryd.prog 67 _ (ReflectliteType.relation "AssignableTo" ReflectliteType.assignableTo) Tryd.func67 (by kernel_rfl) (by kernel_rfl) (by kernel_rfl) (by kernel_rfl)
  have h40 := @run_callFunc_extern Tryd.prog 40 _ (ReflectliteValue.method (ReflectliteValue.valueError "reflectlite.Value.Elem" 0) ReflectliteValue.elem) Tryd.func40 (by kernel_rfl) (by kernel_rfl) (by kernel_rfl) (by kernel_rfl)
  have h41 := @run_callFunc_extern Tryd.prog 41 _ ReflectliteValue.set Tryd.func41 (by kernel_rfl) (by kernel_rfl) (by kernel_rfl) (by kernel_rfl)
  have tO := typeOf74
  have tW := typeOf72
  have mA := methodAssignableTo
  have a74 := assignable74
  have a72 := assignable72
  have v74 := valueOf74
  have f6 := valueOf77
  have f7 := type77
  have mK := methodKind
  have mE := methodElem
  have mI := methodImplements
  have k77 := kind77
  have k74 := kind74
  have e77 := elem77
  have i74 := implements74
  have nW := noAsW
  have uW := hasUnwrapW
  have mU := methodUnwrap
  have n8 := isNil77 ⟨w.heap.size, 0, none⟩ t ((w.alloc (.cells #[.pointer (some t)] 77)).alloc (.cells #[.pointer (some ⟨1, 77, none⟩), .pointer (some ⟨w.heap.size, 0, none⟩), .int .u64 150] 86)) (by simp)
  have hlt : 0 < w.heap.size := by
    rcases Nat.eq_zero_or_pos w.heap.size with h0 | h
    · simp [World.cell?, h0] at hg
    · exact h
  have hg2 : ((w.alloc (.cells #[.pointer (some t)] 77)).alloc (.cells #[.pointer (some ⟨1, 77, none⟩), .pointer (some ⟨w.heap.size, 0, none⟩), .int .u64 150] 86)).cell? ⟨0, 0, none⟩ = some (.iface 94 (.agg #[.pointer (some ⟨1, 59, none⟩)])) := by
    rw [World.cell?_alloc_lt _ _ ⟨0, 0, none⟩ (by simp), World.cell?_alloc_lt _ _ ⟨0, 0, none⟩ hlt]; exact hg
  have htl : t.block < w.heap.size := by
    rcases Nat.lt_or_ge t.block w.heap.size with h | h
    · exact h
    · simp [World.cell?, Array.getElem?_eq_none h] at ht0
  have el := elemV77 ⟨w.heap.size, 0, none⟩ t ((((w.alloc (.cells #[.pointer (some t)] 77)).alloc (.cells #[.pointer (some ⟨1, 77, none⟩), .pointer (some ⟨w.heap.size, 0, none⟩), .int .u64 150] 86)).alloc (.cells #[.pointer (some ⟨1, 77, none⟩), .pointer (some ⟨w.heap.size, 0, none⟩), .int .u64 150] 86)).alloc (.cells #[.int .i64 no, .iface 74 (.agg #[.int .i64 2])] 72)) (by rw [World.cell?_alloc_lt _ _ ⟨w.heap.size, 0, none⟩ (by simp; omega), World.cell?_alloc_lt _ _ ⟨w.heap.size, 0, none⟩ (by simp; omega)]; simp)
  have st := set74 t (w.heap.size + 1 + 1 + 1 + 1) 2 old (((((w.alloc (.cells #[.pointer (some t)] 77)).alloc (.cells #[.pointer (some ⟨1, 77, none⟩), .pointer (some ⟨w.heap.size, 0, none⟩), .int .u64 150] 86)).alloc (.cells #[.pointer (some ⟨1, 77, none⟩), .pointer (some ⟨w.heap.size, 0, none⟩), .int .u64 150] 86)).alloc (.cells #[.int .i64 no, .iface 74 (.agg #[.int .i64 2])] 72)).alloc (.cells #[.int .i64 2] 74))
    (by rw [World.cell?_alloc_at _ _ _ _ (by simp)]; rfl)
    (by rw [World.cell?_alloc_lt _ _ t (by simp; omega), World.cell?_alloc_lt _ _ t (by simp; omega), World.cell?_alloc_lt _ _ t (by simp; omega), World.cell?_alloc_lt _ _ t (by simp; omega), World.cell?_alloc_lt _ _ t htl]; exact ht0)
    (by rw [World.frozen?_alloc_old _ _ t (by simp; omega), World.frozen?_alloc_old _ _ t (by simp; omega), World.frozen?_alloc_old _ _ t (by simp; omega), World.frozen?_alloc_old _ _ t (by simp; omega), World.frozen?_alloc_old _ _ t (Nat.ne_of_lt htl)]; exact hf0)
  go_enter Tryd.func32, Tryd.ntmps32
  go_wp2
  refine wp_loop_rounds 2 ?_
  rw [rounds_succ]
  go_wp2
  rw [rounds_succ]
  go_wp2
  go_ret
  exact ⟨rfl, rfl⟩
end Go.Proofs.YtkfopceebbebjaaDoor
