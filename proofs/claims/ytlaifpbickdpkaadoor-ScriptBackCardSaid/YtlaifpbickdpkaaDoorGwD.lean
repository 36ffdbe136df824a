/- GwD: one rule an operation (own work). -/
import Derived.Test.YtlaifpbickdpkaaDoorGwC
import Derived.Laws.Cover1
import Derived.Lib.Strings
namespace Go.Proofs.YtlaifpbickdpkaaDoor
open Go.RowKit
set_option linter.unusedVariables false
set_option linter.unusedSimpArgs false

section
variable {P : Program} {ops : Array Oper} {Q : Exit → Act → World → Prop} {n : Nat} {σ : Nat → Value} {w : World} {hw : Hw} {rest : List Oper}
variable {d : Nat} {x y z : Operand} {t t2 ty : TypeId} {pos : String} {after : Array Edge} {k : IntKind} {a b : Int} {p q : Bool} {l m : List UInt8}

/-! #### numbers -/
theorem wl_add (hx : ev n σ x = .int k a) (hy : ev n σ y = .int k b) (K : WL P ops Q rest (mkA n (upd σ d (.int k (k.wrap (a + b))))) w) :
    WL P ops Q (⟨some d, .binOp .add t x y t2, ty, pos, after, none⟩ :: rest) (mkA n σ) w :=
  wl_val (w' := w) (by simp [execOp, hx, hy, eqGuard, binOp, Op.intArith]) K
theorem wl_sub (hx : ev n σ x = .int k a) (hy : ev n σ y = .int k b) (K : WL P ops Q rest (mkA n (upd σ d (.int k (k.wrap (a - b))))) w) :
    WL P ops Q (⟨some d, .binOp .sub t x y t2, ty, pos, after, none⟩ :: rest) (mkA n σ) w :=
  wl_val (w' := w) (by simp [execOp, hx, hy, eqGuard, binOp, Op.intArith]) K
theorem wl_mul (hx : ev n σ x = .int k a) (hy : ev n σ y = .int k b) (K : WL P ops Q rest (mkA n (upd σ d (.int k (k.wrap (a * b))))) w) :
    WL P ops Q (⟨some d, .binOp .mul t x y t2, ty, pos, after, none⟩ :: rest) (mkA n σ) w :=
  wl_val (w' := w) (by simp [execOp, hx, hy, eqGuard, binOp, Op.intArith]) K
theorem wl_quo (hx : ev n σ x = .int k a) (hy : ev n σ y = .int k b) (h0 : b ≠ 0) (K : WL P ops Q rest (mkA n (upd σ d (.int k (k.wrap (a.tdiv b))))) w) :
    WL P ops Q (⟨some d, .binOp .quo t x y t2, ty, pos, after, none⟩ :: rest) (mkA n σ) w :=
  wl_val (w' := w) (by simp [execOp, hx, hy, eqGuard, binOp, Op.intDiv, h0]) K
theorem wl_rem (hx : ev n σ x = .int k a) (hy : ev n σ y = .int k b) (h0 : b ≠ 0) (K : WL P ops Q rest (mkA n (upd σ d (.int k (a.tmod b)))) w) :
    WL P ops Q (⟨some d, .binOp .rem t x y t2, ty, pos, after, none⟩ :: rest) (mkA n σ) w :=
  wl_val (w' := w) (by simp [execOp, hx, hy, eqGuard, binOp, Op.intDiv, h0]) K
def ibits (op : BinOp) (k : IntKind) (a b : Int) : Int :=
  match op with
  | .and => k.wrap (BitVec.ofInt k.bits a &&& BitVec.ofInt k.bits b).toNat
  | .or => k.wrap (BitVec.ofInt k.bits a ||| BitVec.ofInt k.bits b).toNat
  | .xor => k.wrap (BitVec.ofInt k.bits a ^^^ BitVec.ofInt k.bits b).toNat
  | _ => k.wrap (BitVec.ofInt k.bits a &&& ~~~(BitVec.ofInt k.bits b)).toNat
theorem wl_and (hx : ev n σ x = .int k a) (hy : ev n σ y = .int k b) (K : WL P ops Q rest (mkA n (upd σ d (.int k (ibits .and k a b)))) w) :
    WL P ops Q (⟨some d, .binOp .and t x y t2, ty, pos, after, none⟩ :: rest) (mkA n σ) w :=
  wl_val (w' := w) (by simp [execOp, hx, hy, eqGuard, binOp, Op.intBits, ibits]) K
theorem wl_or (hx : ev n σ x = .int k a) (hy : ev n σ y = .int k b) (K : WL P ops Q rest (mkA n (upd σ d (.int k (ibits .or k a b)))) w) :
    WL P ops Q (⟨some d, .binOp .or t x y t2, ty, pos, after, none⟩ :: rest) (mkA n σ) w :=
  wl_val (w' := w) (by simp [execOp, hx, hy, eqGuard, binOp, Op.intBits, ibits]) K
theorem wl_xor (hx : ev n σ x = .int k a) (hy : ev n σ y = .int k b) (K : WL P ops Q rest (mkA n (upd σ d (.int k (ibits .xor k a b)))) w) :
    WL P ops Q (⟨some d, .binOp .xor t x y t2, ty, pos, after, none⟩ :: rest) (mkA n σ) w :=
  wl_val (w' := w) (by simp [execOp, hx, hy, eqGuard, binOp, Op.intBits, ibits]) K
def ishl (k : IntKind) (a b : Int) : Int := k.wrap (a * 2 ^ (min b.toNat k.bits))
def ishr (k : IntKind) (a b : Int) : Int := a.fdiv (2 ^ (min b.toNat k.bits))
theorem wl_shl {k2 : IntKind} (hx : ev n σ x = .int k a) (hy : ev n σ y = .int k2 b) (h0 : ¬ b < 0) (K : WL P ops Q rest (mkA n (upd σ d (.int k (ishl k a b)))) w) :
    WL P ops Q (⟨some d, .binOp .shl t x y t2, ty, pos, after, none⟩ :: rest) (mkA n σ) w :=
  wl_val (w' := w) (by simp [execOp, hx, hy, eqGuard, binOp, Op.shift, ishl, h0]) K
theorem wl_shr {k2 : IntKind} (hx : ev n σ x = .int k a) (hy : ev n σ y = .int k2 b) (h0 : ¬ b < 0) (K : WL P ops Q rest (mkA n (upd σ d (.int k (ishr k a b)))) w) :
    WL P ops Q (⟨some d, .binOp .shr t x y t2, ty, pos, after, none⟩ :: rest) (mkA n σ) w :=
  wl_val (w' := w) (by simp [execOp, hx, hy, eqGuard, binOp, Op.shift, ishr, h0]) K
theorem wl_eql (hx : ev n σ x = .int k a) (hy : ev n σ y = .int k b) (K : WL P ops Q rest (mkA n (upd σ d (.bool (a == b)))) w) :
    WL P ops Q (⟨some d, .binOp .eql t x y t2, ty, pos, after, none⟩ :: rest) (mkA n σ) w :=
  wl_val (w' := w) (by simp [execOp, hx, hy, eqGuard, binOp, Op.intCmp]) K
theorem wl_neq (hx : ev n σ x = .int k a) (hy : ev n σ y = .int k b) (K : WL P ops Q rest (mkA n (upd σ d (.bool (a != b)))) w) :
    WL P ops Q (⟨some d, .binOp .neq t x y t2, ty, pos, after, none⟩ :: rest) (mkA n σ) w :=
  wl_val (w' := w) (by simp [execOp, hx, hy, eqGuard, binOp, Op.intCmp]) K
theorem wl_lss (hx : ev n σ x = .int k a) (hy : ev n σ y = .int k b) (K : WL P ops Q rest (mkA n (upd σ d (.bool (decide (a < b))))) w) :
    WL P ops Q (⟨some d, .binOp .lss t x y t2, ty, pos, after, none⟩ :: rest) (mkA n σ) w :=
  wl_val (w' := w) (by simp [execOp, hx, hy, eqGuard, binOp, Op.intCmp]) K
theorem wl_leq (hx : ev n σ x = .int k a) (hy : ev n σ y = .int k b) (K : WL P ops Q rest (mkA n (upd σ d (.bool (decide (a ≤ b))))) w) :
    WL P ops Q (⟨some d, .binOp .leq t x y t2, ty, pos, after, none⟩ :: rest) (mkA n σ) w :=
  wl_val (w' := w) (by simp [execOp, hx, hy, eqGuard, binOp, Op.intCmp]) K
theorem wl_gtr (hx : ev n σ x = .int k a) (hy : ev n σ y = .int k b) (K : WL P ops Q rest (mkA n (upd σ d (.bool (decide (b < a))))) w) :
    WL P ops Q (⟨some d, .binOp .gtr t x y t2, ty, pos, after, none⟩ :: rest) (mkA n σ) w :=
  wl_val (w' := w) (by simp [execOp, hx, hy, eqGuard, binOp, Op.intCmp]) K
theorem wl_geq (hx : ev n σ x = .int k a) (hy : ev n σ y = .int k b) (K : WL P ops Q rest (mkA n (upd σ d (.bool (decide (b ≤ a))))) w) :
    WL P ops Q (⟨some d, .binOp .geq t x y t2, ty, pos, after, none⟩ :: rest) (mkA n σ) w :=
  wl_val (w' := w) (by simp [execOp, hx, hy, eqGuard, binOp, Op.intCmp]) K
theorem wl_conv_int {dst : TypeId} {k2 : IntKind} {ds : TypeDesc} (hs : P.underlying t = some ds) (hd : P.underlying dst = some (.int k2)) (hx : ev n σ x = .int k a)
    (K : WL P ops Q rest (mkA n (upd σ d (.int k2 (k2.wrap a)))) w) : WL P ops Q (⟨some d, .convert t dst x, ty, pos, after, none⟩ :: rest) (mkA n σ) w :=
  wl_val (w' := w) (by cases ds <;> simp [execOp, hx, convert, run_underlying hs, run_underlying hd, Conv.intToInt]) K
theorem wl_min2 {ta tb : TypeId} (hx : ev n σ x = .int k a) (hy : ev n σ y = .int k b) (K : WL P ops Q rest (mkA n (upd σ d (.int k (if b < a then b else a)))) w) :
    WL P ops Q (⟨some d, .call { callee := .builtin .min, args := #[x, y], argTypes := #[ta, tb] }, ty, pos, after, none⟩ :: rest) (mkA n σ) w :=
  wl_val (w' := w) (by simp [execOp, resolve, invoke, builtin, hx, hy, Builtin.min_, Builtin.min2]) K
theorem wl_max2 {ta tb : TypeId} (hx : ev n σ x = .int k a) (hy : ev n σ y = .int k b) (K : WL P ops Q rest (mkA n (upd σ d (.int k (if a < b then b else a)))) w) :
    WL P ops Q (⟨some d, .call { callee := .builtin .max, args := #[x, y], argTypes := #[ta, tb] }, ty, pos, after, none⟩ :: rest) (mkA n σ) w :=
  wl_val (w' := w) (by simp [execOp, resolve, invoke, builtin, hx, hy, Builtin.max_, Builtin.max2]) K
/-! #### bools -/
theorem wl_eqlb (ht : P.underlying t = some .bool) (hx : ev n σ x = .bool p) (hy : ev n σ y = .bool q) (K : WL P ops Q rest (mkA n (upd σ d (.bool (p == q)))) w) :
    WL P ops Q (⟨some d, .binOp .eql t x y t2, ty, pos, after, none⟩ :: rest) (mkA n σ) w :=
  wl_val (w' := w) (by simp [execOp, hx, hy, eqGuard, binOp, run_equal_bool w t p q ht]) K
theorem wl_neqb (ht : P.underlying t = some .bool) (hx : ev n σ x = .bool p) (hy : ev n σ y = .bool q) (K : WL P ops Q rest (mkA n (upd σ d (.bool (!(p == q))))) w) :
    WL P ops Q (⟨some d, .binOp .neq t x y t2, ty, pos, after, none⟩ :: rest) (mkA n σ) w :=
  wl_val (w' := w) (by simp [execOp, hx, hy, eqGuard, binOp, run_equal_bool w t p q ht]) K
/-! #### texts -/
theorem bs_toList (l : List UInt8) : (bs l).toList = l := by rw [ByteArray.toList_eq]; simp [bs]
theorem wl_eqls (hx : ev n σ x = .string (bs l)) (hy : ev n σ y = .string (bs m)) (K : WL P ops Q rest (mkA n (upd σ d (.bool (l == m)))) w) :
    WL P ops Q (⟨some d, .binOp .eql t x y t2, ty, pos, after, none⟩ :: rest) (mkA n σ) w :=
  wl_val (w' := w) (by simp [execOp, hx, hy, eqGuard, binOp, Op.stringOp, bs_toList]) K
theorem wl_neqs (hx : ev n σ x = .string (bs l)) (hy : ev n σ y = .string (bs m)) (K : WL P ops Q rest (mkA n (upd σ d (.bool (!(l == m))))) w) :
    WL P ops Q (⟨some d, .binOp .neq t x y t2, ty, pos, after, none⟩ :: rest) (mkA n σ) w :=
  wl_val (w' := w) (by simp [execOp, hx, hy, eqGuard, binOp, Op.stringOp, bs_toList]) K
theorem wl_lsss (hx : ev n σ x = .string (bs l)) (hy : ev n σ y = .string (bs m)) (K : WL P ops Q rest (mkA n (upd σ d (.bool (Op.bytesLess l m)))) w) :
    WL P ops Q (⟨some d, .binOp .lss t x y t2, ty, pos, after, none⟩ :: rest) (mkA n σ) w :=
  wl_val (w' := w) (by simp [execOp, hx, hy, eqGuard, binOp, Op.stringOp, bs_toList]) K
theorem wl_geqs (hx : ev n σ x = .string (bs l)) (hy : ev n σ y = .string (bs m)) (K : WL P ops Q rest (mkA n (upd σ d (.bool (!Op.bytesLess l m)))) w) :
    WL P ops Q (⟨some d, .binOp .geq t x y t2, ty, pos, after, none⟩ :: rest) (mkA n σ) w :=
  wl_val (w' := w) (by simp [execOp, hx, hy, eqGuard, binOp, Op.stringOp, bs_toList]) K
theorem wl_adds (hx : ev n σ x = .string (bs l)) (hy : ev n σ y = .string (bs m)) (hb : l.length + m.length ≤ 9223372036854775807) (K : WL P ops Q rest (mkA n (upd σ d (.string (bs (l ++ m))))) w) :
    WL P ops Q (⟨some d, .binOp .add t x y t2, ty, pos, after, none⟩ :: rest) (mkA n σ) w :=
  wl_val (w' := w) (by
    have h : ¬ (((bs l).size + (bs m).size : Nat) : Int) > IntKind.i64.max := by rw [bs_size, bs_size]; simp [IntKind.max, IntKind.bits, IntKind.signed]; omega
    simp only [execOp, hx, hy, eqGuard, binOp, Op.stringOp]
    rw [if_neg h, bs_append]
    rfl) K
theorem wl_lens (ht : P.underlying t = some .string) (hx : ev n σ x = .string (bs l)) (K : WL P ops Q rest (mkA n (upd σ d (.int .i64 (l.length : Int)))) w) :
    WL P ops Q (⟨some d, .call { callee := .builtin .len, args := #[x], argTypes := #[t] }, ty, pos, after, none⟩ :: rest) (mkA n σ) w :=
  wl_val (w' := w) (by simp [execOp, resolve, invoke, builtin, hx, Builtin.len_, run_underlying ht, goInt, bs_size]) K
theorem wl_len {e : TypeId} {A : Option Addr} {i c : Nat} (ht : P.underlying t = some (.slice e)) (hx : ev n σ x = .slice A i c) (K : WL P ops Q rest (mkA n (upd σ d (.int .i64 (i : Int)))) w) :
    WL P ops Q (⟨some d, .call { callee := .builtin .len, args := #[x], argTypes := #[t] }, ty, pos, after, none⟩ :: rest) (mkA n σ) w :=
  wl_val (w' := w) (by simp [execOp, resolve, invoke, builtin, hx, Builtin.len_, run_underlying ht, goInt]) K
theorem wl_bt (ht : P.underlying t = some .string) (hx : ev n σ x = .string (bs l)) (hy : ev n σ y = .int k a) (h0 : 0 ≤ a) (h1 : a < l.length) (K : WL P ops Q rest (mkA n (upd σ d (.int .u8 ((l.getD a.toNat 0).toNat : Int)))) w) :
    WL P ops Q (⟨some d, .index t x y, ty, pos, after, none⟩ :: rest) (mkA n σ) w :=
  wl_val (w' := w) (by
    have hlt : a.toNat < l.length := by omega
    simp [execOp, hx, hy, Instr.index, asIntOf, run_underlying ht, h0, bs_get, hlt, List.getD]) K
theorem bs_extract (l : List UInt8) (i j : Nat) : (bs l).extract i j = bs ((l.take j).drop i) := by
  apply ByteArray.ext
  apply Array.ext'
  rw [Lib.extract_data]
  simp [bs, List.drop_take]
theorem run_sb {P : Program} {w : World} {k : IntKind} {i : Int} {y : Nat} (code : BoundsCode) (h0 : 0 ≤ i) (h1 : i ≤ y) : (Instr.sliceBound (.int k i) y code).run P w = .ok i.toNat w := by
  simp only [Instr.sliceBound, asIntOf, Sem.run_bind, Sem.run_pure, Result.andThen_ok]
  rw [if_pos ⟨h0, h1⟩]
  rfl
/-- A bound that stands there, or not. -/
def Bd (n : Nat) (σ : Nat → Value) (o : Option Operand) (i dflt : Int) : Prop := (o = none ∧ i = dflt) ∨ ∃ x k, o = some x ∧ ev n σ x = .int k i
theorem Bd.no {n : Nat} {σ : Nat → Value} {i : Int} : Bd n σ none i i := .inl ⟨rfl, rfl⟩
theorem Bd.yes {n : Nat} {σ : Nat → Value} {x : Operand} {k : IntKind} {i dflt : Int} (h : ev n σ x = .int k i) : Bd n σ (some x) i dflt := .inr ⟨x, k, rfl, h⟩
theorem run_sbs {P : Program} {w : World} {n : Nat} {σ : Nat → Value} {lo hi : Option Operand} {i j : Int} {len cap : Nat} (isS : Bool) (hlo : Bd n σ lo i 0) (hhi : Bd n σ hi j len) (h0 : 0 ≤ i) (h1 : i ≤ j) (h2 : j ≤ cap) :
    (Instr.sliceBounds isS len cap (lo.map (ev n σ)) (hi.map (ev n σ)) none).run P w = .ok (i.toNat, j.toNat, cap) w := by
  have e2 : i ≤ (j.toNat : Int) := by omega
  have e4 : 0 ≤ j := by omega
  rcases hlo with ⟨rfl, rfl⟩ | ⟨x, k1, rfl, hx⟩ <;> rcases hhi with ⟨rfl, rfl⟩ | ⟨y, k2, rfl, hy⟩
  · simp [Instr.sliceBounds]
  · simp [Instr.sliceBounds, hy, run_sb _ e4 h2]
  · simp only [Int.toNat_natCast] at e2 ⊢
    simp [Instr.sliceBounds, hx, run_sb _ h0 e2]
  · simp [Instr.sliceBounds, hx, hy, run_sb _ e4 h2, run_sb _ h0 e2]
theorem wl_cuts {lo hi : Option Operand} {i j : Int} (ht : P.underlying t = some .string) (hx : ev n σ x = .string (bs l))
    (hlo : Bd n σ lo i 0) (hhi : Bd n σ hi j l.length) (h0 : 0 ≤ i) (h1 : i ≤ j) (h2 : j ≤ l.length)
    (K : WL P ops Q rest (mkA n (upd σ d (.string (bs ((l.take j.toNat).drop i.toNat))))) w) :
    WL P ops Q (⟨some d, .slice t x lo hi none, ty, pos, after, none⟩ :: rest) (mkA n σ) w :=
  wl_val (w' := w) (by
    have e := run_sbs (P := P) (w := w) (len := (bs l).size) (cap := (bs l).size) false hlo (by rw [bs_size]; exact hhi) h0 h1 (by rw [bs_size]; exact h2)
    simp only [execOp, Instr.sliceAt, Instr.slice, hx]
    simp only [Sem.run_bind, run_underlying ht, Result.andThen_ok, Option.map_none, Option.isSome_none, bs_extract, Bool.false_eq_true, if_false, e]
    rfl) K
end
end Go.Proofs.YtlaifpbickdpkaaDoor
