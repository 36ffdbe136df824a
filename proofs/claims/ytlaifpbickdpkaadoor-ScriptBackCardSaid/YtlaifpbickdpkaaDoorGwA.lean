/- GwA: frames as functions, one rule an operation (own work; laid for each seat out of wip/gw by lay.py). -/
import Derived.Test.YtlaifpbickdpkaaDoorProg
import Derived.WalkKit
import Derived.WalkLawsBesides
import Derived.WalkSpells
import Derived.LoopN
import Derived.Orders
import Derived.Laws.Append
import Derived.Laws.AppendOwn
namespace Go.Proofs.YtlaifpbickdpkaaDoor
open Go.RowKit
set_option linter.unusedVariables false
set_option linter.unusedSimpArgs false

/-! ### frames -/
/-- One slot written. -/
def upd (σ : Nat → Value) (d : Nat) (v : Value) : Nat → Value := fun t => bif Nat.beq t d then v else σ t
/-- The frame out of a function. -/
def mkA (n : Nat) (σ : Nat → Value) : Act := ⟨Array.ofFn (n := n) (fun i => σ i.val), []⟩
def ev (n : Nat) (σ : Nat → Value) : Operand → Value
  | .tmp t => bif Nat.blt t n then σ t else undef
  | .const v => v
  | .global g => .pointer (some ⟨g, 0, none⟩)
  | .func f => .func (.func f) #[] #[]
theorem mkA_eval (n : Nat) (σ : Nat → Value) (x : Operand) : (mkA n σ).eval x = ev n σ x := by
  cases x with
  | tmp t =>
    unfold mkA Act.eval ev
    by_cases h : t < n
    · have : Nat.blt t n = true := by simpa [Nat.blt_eq] using h
      simp [this, h]
    · have : Nat.blt t n = false := Bool.eq_false_iff.2 (by rw [ne_eq, Nat.blt_eq]; exact h)
      simp [this, h]
  | _ => rfl
theorem mkA_evalf (n : Nat) (σ : Nat → Value) : (mkA n σ).eval = ev n σ := funext (mkA_eval n σ)
theorem upd_same (σ : Nat → Value) (d : Nat) (v : Value) : upd σ d v d = v := by simp [upd]
theorem upd_other (σ : Nat → Value) {d t : Nat} (v : Value) (h : t ≠ d) : upd σ d v t = σ t := by
  unfold upd
  have : Nat.beq t d = false := Bool.eq_false_iff.2 (fun hb => h (Nat.eq_of_beq_eq_true hb))
  rw [this]; rfl
theorem mkA_put (n : Nat) (σ : Nat → Value) (d : Nat) (v : Value) : (mkA n σ).put (some d) v = mkA n (upd σ d v) := by
  unfold mkA Act.put
  simp only [Act.mk.injEq, and_true]
  apply Array.ext
  · simp
  · intro i h1 h2
    have hi : i < n := by simpa using h2
    rw [Array.getElem_setIfInBounds (by simpa using hi)]
    by_cases hd : d = i
    · subst hd; simp [upd_same]
    · rw [if_neg hd]; simp [upd_other σ v (Ne.symm hd)]
theorem mkA_put_none (n : Nat) (σ : Nat → Value) (v : Value) : (mkA n σ).put none v = mkA n σ := rfl
/-- A frame that is written out, as a function. -/
def litF (l : List Value) : Nat → Value := fun t => l.getD t undef
theorem lit_mkA (l : List Value) (n : Nat) (hn : l.length = n) : (⟨l.toArray, []⟩ : Act) = mkA n (litF l) := by
  subst hn
  unfold mkA litF
  simp only [Act.mk.injEq, and_true]
  apply Array.ext
  · simp
  · intro i h1 h2
    simp at h1
    simp [List.getD, h1]

/-! ### lists of operations -/
/-- The walk of a list of operations, closed to reckoning. -/
structure WL (P : Program) (ops : Array Oper) (Q : Exit → Act → World → Prop) (l : List Oper) (a : Act) (w : World) : Prop where
  out : wpList P ops Q l a w
theorem WL.plain {P : Program} {ops : Array Oper} {Q : Exit → Act → World → Prop} {a : Act} {w : World} {rest : List Oper} {o : Oper} (hg : o.guard = none)
    (h : ∀ K : Act → World → Prop, (∀ a w, WL P ops Q rest a w → K a w) → o.wp P a w K Q) : WL P ops Q (o :: rest) a w :=
  ⟨wpList_plain hg fun K hK => h K fun a w hw => hK a w hw.out⟩
section
variable {P : Program} {ops : Array Oper} {Q : Exit → Act → World → Prop} {n : Nat} {σ : Nat → Value} {w : World} {rest : List Oper}
/-- An operation without a guard that yields a value. -/
theorem wl_val {d : Nat} {op : Op} {ty : TypeId} {pos : String} {after : Array Edge} {v : Value} {w' : World}
    (h : (execOp (ev n σ) ⟨some d, op, ty, pos, after, none⟩).run P w = .ok (.value v) w')
    (k : WL P ops Q rest (mkA n (upd σ d v)) w') : WL P ops Q (⟨some d, op, ty, pos, after, none⟩ :: rest) (mkA n σ) w := by
  refine WL.plain rfl fun K hK => ?_
  unfold Oper.wp
  rw [mkA_evalf, h]
  show K ((mkA n σ).put (some d) v) w'
  rw [mkA_put]
  exact hK _ _ k
theorem wl_val0 {op : Op} {ty : TypeId} {pos : String} {after : Array Edge} {v : Value} {w' : World}
    (h : (execOp (ev n σ) ⟨none, op, ty, pos, after, none⟩).run P w = .ok (.value v) w')
    (k : WL P ops Q rest (mkA n σ) w') : WL P ops Q (⟨none, op, ty, pos, after, none⟩ :: rest) (mkA n σ) w := by
  refine WL.plain rfl fun K hK => ?_
  unfold Oper.wp
  rw [mkA_evalf, h]
  exact hK _ _ k
/-- .. that does something. -/
theorem wl_skip0 {op : Op} {ty : TypeId} {pos : String} {after : Array Edge} {w' : World}
    (h : (execOp (ev n σ) ⟨none, op, ty, pos, after, none⟩).run P w = .ok .skip w')
    (k : WL P ops Q rest (mkA n σ) w') : WL P ops Q (⟨none, op, ty, pos, after, none⟩ :: rest) (mkA n σ) w := by
  refine WL.plain rfl fun K hK => ?_
  unfold Oper.wp
  rw [mkA_evalf, h]
  exact hK _ _ k
/-- The guard says yes. -/
theorem wl_on {dst : Option Nat} {op : Op} {ty : TypeId} {pos : String} {after : Array Edge} {j : Nat} {want c : Bool}
    (hy : yielded ops (mkA n σ).tmps j = some c) (hc : c = want)
    (k : WL P ops Q (⟨dst, op, ty, pos, after, none⟩ :: rest) (mkA n σ) w) : WL P ops Q (⟨dst, op, ty, pos, after, some (j, want)⟩ :: rest) (mkA n σ) w := by
  subst hc
  refine ⟨?_⟩
  have k := k.out
  unfold wpList at k ⊢
  have h1 : Region.wanted ⟨dst, op, ty, pos, after, none⟩ (yielded ops (mkA n σ).tmps) = true := rfl
  have h2 : Region.wanted ⟨dst, op, ty, pos, after, some (j, c)⟩ (yielded ops (mkA n σ).tmps) = true := by simp [Region.wanted, hy]
  rw [if_pos h1] at k
  rw [if_pos h2]
  exact k
/-- The guard says no. -/
theorem wl_off {d : Nat} {op : Op} {ty : TypeId} {pos : String} {after : Array Edge} {j : Nat} {want c : Bool}
    (hy : yielded ops (mkA n σ).tmps j = some c) (hc : c = !want)
    (k : WL P ops Q rest (mkA n (upd σ d undef)) w) : WL P ops Q (⟨some d, op, ty, pos, after, some (j, want)⟩ :: rest) (mkA n σ) w := by
  subst hc
  refine ⟨wpList_skip (by cases want <;> simp [Region.wanted, hy]) ?_⟩
  rw [mkA_put]
  exact k.out
theorem wl_off0 {op : Op} {ty : TypeId} {pos : String} {after : Array Edge} {j : Nat} {want c : Bool}
    (hy : yielded ops (mkA n σ).tmps j = some c) (hc : c = !want)
    (k : WL P ops Q rest (mkA n σ) w) : WL P ops Q (⟨none, op, ty, pos, after, some (j, want)⟩ :: rest) (mkA n σ) w := by
  subst hc
  refine ⟨wpList_skip (by cases want <;> simp [Region.wanted, hy]) ?_⟩
  exact k.out
/-- What a guard's operation has yielded. -/
theorem yl {j d : Nat} {c : Bool} (hd : (ops[j]?).bind (·.dst) = some d) (hlt : Nat.blt d n = true) (hv : σ d = .bool c) : yielded ops (mkA n σ).tmps j = some c := by
  have hlt' : d < n := by simpa [Nat.blt_eq] using hlt
  unfold yielded mkA
  simp [hd, hlt', hv]
theorem wl_nil (h : Q .normal (mkA n σ) w) : WL P ops Q [] (mkA n σ) w := ⟨h⟩

/-! #### values -/
theorem wl_move {d : Nat} {x : Operand} {ty : TypeId} {pos : String} {after : Array Edge} (v : Value) (hx : ev n σ x = v)
    (k : WL P ops Q rest (mkA n (upd σ d v)) w) : WL P ops Q (⟨some d, .move x, ty, pos, after, none⟩ :: rest) (mkA n σ) w :=
  wl_val (v := v) (w' := w) (by rw [← hx]; rfl) k
theorem wl_assign {d : Nat} {x : Operand} {ty : TypeId} {pos : String} {after : Array Edge} (v : Value) (hx : ev n σ x = v)
    (k : WL P ops Q rest (mkA n (upd σ d v)) w) : WL P ops Q (⟨some d, .assign x, ty, pos, after, none⟩ :: rest) (mkA n σ) w :=
  wl_val (v := v) (w' := w) (by rw [← hx]; rfl) k
theorem wl_pick_t {d : Nat} {c a b : Operand} {ty : TypeId} {pos : String} {after : Array Edge} (x : Bool) (v : Value) (hc : ev n σ c = .bool x) (hx : x = true) (hv : ev n σ a = v)
    (k : WL P ops Q rest (mkA n (upd σ d v)) w) : WL P ops Q (⟨some d, .pick c a b, ty, pos, after, none⟩ :: rest) (mkA n σ) w :=
  wl_val (v := v) (w' := w) (by subst hx; rw [← hv]; simp [execOp, hc, asBool]) k
theorem wl_pick_f {d : Nat} {c a b : Operand} {ty : TypeId} {pos : String} {after : Array Edge} (x : Bool) (v : Value) (hc : ev n σ c = .bool x) (hx : x = false) (hv : ev n σ b = v)
    (k : WL P ops Q rest (mkA n (upd σ d v)) w) : WL P ops Q (⟨some d, .pick c a b, ty, pos, after, none⟩ :: rest) (mkA n σ) w :=
  wl_val (v := v) (w' := w) (by subst hx; rw [← hv]; simp [execOp, hc, asBool]) k
theorem wl_not {d : Nat} {x : Operand} {t ty : TypeId} {pos : String} {after : Array Edge} {b : Bool} (hx : ev n σ x = .bool b)
    (k : WL P ops Q rest (mkA n (upd σ d (.bool (!b)))) w) : WL P ops Q (⟨some d, .unOp .not t x, ty, pos, after, none⟩ :: rest) (mkA n σ) w :=
  wl_val (v := .bool (!b)) (w' := w) (by simp [execOp, hx, Op.unary]) k
end
end Go.Proofs.YtlaifpbickdpkaaDoor
