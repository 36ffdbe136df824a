/- GwV: strings.Builder in a block of the call's own (own work). -/
import Derived.Test.YtlaifpbickdpkaaDoorGwU
import Derived.Stop.IfaceNil
namespace Go.Proofs.YtlaifpbickdpkaaDoor
open Go.RowKit
set_option linter.unusedVariables false
set_option linter.unusedSimpArgs false

/-- A value of an interface type that holds no place in memory. -/
inductive Dy where
  | nil
  | mk (t : Nat) (v : Value)
def Dy.val : Dy → Value
  | .nil => .nilIface
  | .mk t v => .iface t v
def Dy.isNil : Dy → Bool
  | .nil => true
  | .mk _ _ => false
theorem Dy.one (x : Dy) : x.val.oneCell' = true := by cases x <;> rfl
theorem Dy.cells (x : Dy) : x.val.cells = List.toArray [x.val] := by cases x <;> rfl
def Kdy : Kind Dy := scal Dy.val Dy.one
def byteOf (n : Int) : UInt8 := UInt8.ofNat n.toNat
def i8ok (n : Int) : Prop := 0 ≤ n ∧ n < 256
instance (n : Int) : Decidable (i8ok n) := by unfold i8ok; exact inferInstance
/-- A builder: its two cells, and its bytes in a row of their own. -/
def Bld (T e : TypeId) (N0 : Nat) (w : World) (hw : Hw) (b : Nat) (xs : List UInt8) : Prop :=
  ∃ p v, Box N0 w hw b T [p, v] ∧ (p = .pointer none ∨ p = .pointer (some ⟨b, 0, none⟩)) ∧ Own K8 e N0 w hw v xs
/-- Blocks that a write to it may turn. -/
def BF (N0 : Nat) (w : World) (b e : Nat) : Nat → Prop := fun g => g = b ∨ (N0 ≤ g ∧ ∃ cur fz, w.heap[g]? = some (.cells cur e fz))
theorem own_heap {α : Type} {K : Kind α} {e N0 : Nat} {w : World} {hw : Hw} {v : Value} {ys : List α} (h : Own K e N0 w hw v ys) : ∀ g, v.ownBlock = some g → ∃ cur, w.heap[g]? = some (.cells cur e (0, 0)) := by
  intro g hg
  obtain ⟨cs, ho, _⟩ := h
  rcases ho.2 with ⟨rfl, _⟩ | ⟨g', cap, cur, rfl, _, hheap, _⟩
  · simp [Value.ownBlock] at hg
  · have : g' = g := by simpa [Value.ownBlock] using hg
    subst this
    exact ⟨cur, hheap⟩
section
variable {T e N0 N1 b c : Nat} {w w' : World} {hw hw' : Hw} {xs : List UInt8}
theorem Bld.lt (h : Bld T e N0 w hw b xs) : b < w.heap.size := by obtain ⟨p, v, B, _⟩ := h; exact B.lt
theorem Bld.new (h : Bld T e N0 w hw b xs) : N0 ≤ b := by obtain ⟨p, v, B, _⟩ := h; exact B.new
theorem Bld.ne (h : Bld T e N0 w hw b xs) {c : Nat} (hc : w.heap.size ≤ c) : b ≠ c := by have := h.lt; omega
theorem Bld.heap (h : Bld T e N0 w hw b xs) : ∃ cs, w.heap[b]? = some (.cells cs T (0, 0)) := by obtain ⟨p, v, B, _⟩ := h; exact ⟨_, B.heap⟩
theorem Bld.bfnew (h : Bld T e N0 w hw b xs) : ∀ g, BF N0 w b e g → N0 ≤ g := by
  rintro g (rfl | h2)
  · exact h.new
  · exact h2.1
theorem Bld.step {row : Option Nat} (h : Bld T e N0 w hw b xs) (s : Stp row w hw w' hw') (hb : row ≠ some b) (hr : ∀ g, row = some g → ∀ cur fz, w.heap[g]? ≠ some (.cells cur e fz)) : Bld T e N0 w' hw' b xs := by
  obtain ⟨p, v, B, hp, O⟩ := h
  refine ⟨p, v, B.step s (Ne.symm hb), hp, O.step s ?_⟩
  cases hv : v.ownBlock with
  | none => exact .inl rfl
  | some g =>
    refine .inr fun he => ?_
    obtain ⟨cur, hc⟩ := own_heap O g hv
    exact hr g he.symm cur _ hc
theorem Bld.step0 (h : Bld T e N0 w hw b xs) (s : Stp none w hw w' hw') : Bld T e N0 w' hw' b xs := h.step s (by simp) (by simp)
theorem Bld.stepb {T' : TypeId} {cs : List Value} (h : Bld T e N0 w hw b xs) (s : Stp (some c) w hw w' hw') (B : Box N1 w hw c T' cs) (hne : b ≠ c) (ht : T' ≠ e) : Bld T e N0 w' hw' b xs :=
  h.step s (fun he => hne (Option.some.inj he).symm) (fun g hg cur fz hh => by
    have := Option.some.inj hg
    subst this
    rw [B.heap] at hh
    injection hh with hh
    injection hh with _ h2 _
    exact ht h2)
theorem Bld.stepo {α : Type} {K : Kind α} {e' : TypeId} {v : Value} {ys : List α} (h : Bld T e N0 w hw b xs) (s : Stp v.ownBlock w hw w' hw') (O : Own K e' N1 w hw v ys) (ht : e' ≠ e) (hT : e' ≠ T) : Bld T e N0 w' hw' b xs :=
  h.step s (fun he => by
    obtain ⟨cur, hc⟩ := own_heap O b he
    obtain ⟨cs, hh⟩ := h.heap
    rw [hh] at hc
    injection hc with hc
    injection hc with _ h2 _
    exact hT h2.symm) (fun g hg cur fz hh => by
    obtain ⟨cur', hc⟩ := own_heap O g hg
    rw [hh] at hc
    injection hc with hc
    injection hc with _ h2 _
    exact ht h2.symm)
theorem Bld.stepM {P : Program} {k e' : TypeId} {D : DM} (h : Bld T e N0 w hw b xs) (s : Stp (some c) w hw w' hw') (B : OwnM P k e' N1 w hw c D) (hne : b ≠ c) : Bld T e N0 w' hw' b xs :=
  h.step s (fun he => hne (Option.some.inj he).symm) (fun g hg cur fz hh => by
    have := Option.some.inj hg
    subst this
    obtain ⟨es, clock, hb, _⟩ := B.own
    rw [hb] at hh
    cases hh)
theorem bf_box {T' : TypeId} {cs : List Value} (B : Box N1 w hw c T' cs) (hne : c ≠ b) (ht : T' ≠ e) : ¬ BF N0 w b e c := by
  rintro (h | ⟨_, cur, fz, h⟩)
  · exact hne h
  · rw [B.heap] at h
    injection h with h
    injection h with _ h2 _
    exact ht h2
theorem bf_map {P : Program} {k e' : TypeId} {D : DM} (B : OwnM P k e' N1 w hw c D) (hne : c ≠ b) : ¬ BF N0 w b e c := by
  rintro (h | ⟨_, cur, fz, h⟩)
  · exact hne h
  · obtain ⟨es, clock, hb, _⟩ := B.own
    rw [hb] at h
    cases h
theorem bf_own {α : Type} {K : Kind α} {e' : TypeId} {v : Value} {ys : List α} (O : Own K e' N1 w hw v ys) (h : Bld T e N0 w hw b xs) (ht : e' ≠ e) (hT : e' ≠ T) : ∀ g, v.ownBlock = some g → ¬ BF N0 w b e g := by
  rintro g hg (rfl | ⟨_, cur, fz, hh⟩)
  · obtain ⟨cur, hc⟩ := own_heap O _ hg
    obtain ⟨cs, hh⟩ := h.heap
    rw [hh] at hc
    injection hc with hc
    injection hc with _ h2 _
    exact hT h2.symm
  · obtain ⟨cur', hc⟩ := own_heap O g hg
    rw [hh] at hc
    injection hc with hc
    injection hc with _ h2 _
    exact ht h2.symm
theorem Bld.low (h : Bld T e N1 w hw b xs) (hN : N0 ≤ N1) : Bld T e N0 w hw b xs := by
  obtain ⟨p, v, B, hp, O⟩ := h
  exact ⟨p, v, ⟨B.heap, B.z, Nat.le_trans hN B.new⟩, hp, O.low hN⟩
end
section
variable {P : Program} {ops : Array Oper} {Q : Exit → Act → World → Prop} {n : Nat} {σ : Nat → Value} {w : World} {hw : Hw} {rest : List Oper}
variable {d : Nat} {t ty : TypeId} {pos : String} {after : Array Edge} {N0 : Nat} {e : TypeId}
/-- var b strings.Builder. -/
theorem wl_bld {sz bytes : Nat} (hwf : Hwf w hw) (hN : N0 ≤ w.heap.size) (h : Ty P t sz bytes true (.agg #[.pointer none, .slice none 0 0]))
    (K : ∀ B w', Stp none w hw w' hw → Bld t e N0 w' hw B [] → w.heap.size ≤ B → WL P ops Q rest (mkA n (upd σ d (.pointer (some ⟨B, 0, none⟩)))) w') :
    WL P ops Q (⟨some d, .alloc t, ty, pos, after, none⟩ :: rest) (mkA n σ) w :=
  wl_alloc (N0 := N0) hwf hN h [.pointer none, .slice none 0 0] rfl fun B w' s hb hg => K B w' s ⟨_, _, hb, .inl rfl, Own.nil _ _ _ _ _⟩ hg
theorem wl_fieldv {x : Operand} {a : Value} {i : Nat} (r : Value) (hx : ev n σ x = a) (h : (Instr.field t a i).run P w = .ok r w) (K : WL P ops Q rest (mkA n (upd σ d r)) w) :
    WL P ops Q (⟨some d, .field t x i, ty, pos, after, none⟩ :: rest) (mkA n σ) w :=
  wl_val (w' := w) (by simp [execOp, hx, h]) K
theorem wl_mki {x : Operand} (v : Value) (hx : ev n σ x = v) (h : ∀ (v : Value) (w : World), (Instr.makeInterface t v).run P w = .ok (.iface t v) w)
    (K : WL P ops Q rest (mkA n (upd σ d (.iface t v))) w) : WL P ops Q (⟨some d, .makeInterface t x, ty, pos, after, none⟩ :: rest) (mkA n σ) w :=
  wl_val (w' := w) (by simp [execOp, hx, h]) K
theorem wl_eqli {x : Operand} {t2 : TypeId} {a : Dy} (ht : P.isIface t = true) (hx : ev n σ x = a.val)
    (K : WL P ops Q rest (mkA n (upd σ d (.bool a.isNil))) w) : WL P ops Q (⟨some d, .binOp .eql t x (.const .nilIface) t2, ty, pos, after, none⟩ :: rest) (mkA n σ) w := by
  have hy : ev n σ (.const .nilIface) = .nilIface := rfl
  cases a with
  | nil =>
    have hg : ∀ (w : World), (eqGuard .eql t x (.const .nilIface) .nilIface .nilIface).run P w = .ok () w := fun w => by simp [eqGuard]
    exact wl_val (w' := w) (by simp only [execOp, hx, hy, Dy.val, Sem.run_bind, hg, Result.andThen_ok]; simp [run_eql_nil_nil_at w t ht, Dy.isNil]) K
  | mk u v =>
    have hg : ∀ (w : World), (eqGuard .eql t x (.const .nilIface) (.iface u v) .nilIface).run P w = .ok () w := fun w => by simp [eqGuard]
    exact wl_val (w' := w) (by simp only [execOp, hx, hy, Dy.val, Sem.run_bind, hg, Result.andThen_ok]; simp [run_eql_iface_nil w t ht, Dy.isNil]) K
theorem wl_neqi {x : Operand} {t2 : TypeId} {a : Dy} (ht : P.isIface t = true) (hx : ev n σ x = a.val)
    (K : WL P ops Q rest (mkA n (upd σ d (.bool (!a.isNil)))) w) : WL P ops Q (⟨some d, .binOp .neq t x (.const .nilIface) t2, ty, pos, after, none⟩ :: rest) (mkA n σ) w := by
  have hy : ev n σ (.const .nilIface) = .nilIface := rfl
  cases a with
  | nil =>
    have hg : ∀ (w : World), (eqGuard .neq t x (.const .nilIface) .nilIface .nilIface).run P w = .ok () w := fun w => by simp [eqGuard]
    exact wl_val (w' := w) (by simp only [execOp, hx, hy, Dy.val, Sem.run_bind, hg, Result.andThen_ok]; simp [run_neq_nil_nil_at w t ht, Dy.isNil]) K
  | mk u v =>
    have hg : ∀ (w : World), (eqGuard .neq t x (.const .nilIface) (.iface u v) .nilIface).run P w = .ok () w := fun w => by simp [eqGuard]
    exact wl_val (w' := w) (by simp only [execOp, hx, hy, Dy.val, Sem.run_bind, hg, Result.andThen_ok]; simp [run_neq_iface_nil w t ht, Dy.isNil]) K
/-- append(buf, s...) -/
theorem wl_apps {x y : Operand} {u : TypeId} {vx : Value} {xs l : List UInt8} (ht : P.underlying t = some (.slice e)) (hu : P.underlying u = some .string) (hT : Ty P e 1 1 false (.int .u8 0)) (hwf : Hwf w hw)
    (ho : Own K8 e N0 w hw vx xs) (hx : ev n σ x = vx) (hy : ev n σ y = .string (bs l)) (hby : xs.length + l.length ≤ 140737488355328) (hN : N0 ≤ w.heap.size)
    (K : ∀ v' w' hw', Own K8 e N0 w' hw' v' (xs ++ l) → Stp vx.ownBlock w hw w' hw' → (v'.ownBlock = vx.ownBlock ∨ v'.ownBlock = some w.heap.size) → WL P ops Q rest (mkA n (upd σ d v')) w') :
    WL P ops Q (⟨some d, .call { callee := .builtin .append, args := #[x, y], argTypes := #[t, u] }, ty, pos, after, none⟩ :: rest) (mkA n σ) w := by
  obtain ⟨v', w', hw', hrun, h1, h2, h3⟩ := run_app_str (ty := ty) ht hu hT hwf ho hby hN
  refine wl_val (v := v') (w' := w') ?_ (K _ _ _ h1 h2 h3)
  simp [execOp, resolve, invoke, builtin, hx, hy, hrun]
end
theorem setCell_row {N0 b : Nat} {T : TypeId} {w : World} {hw : Hw} {cs : List Value} (B : Box N0 w hw b T cs) (i : Nat) (v : Value) : w.setCell ⟨b, i, none⟩ v = w.setRow b (cs.set i v).toArray := by
  unfold World.setCell World.setRow
  congr 1
  apply Array.ext_getElem?
  intro k
  rw [Array.getElem?_modify, Array.getElem?_modify]
  by_cases hk : b = k
  · subst hk
    simp only [if_true, B.heap]
    simp
  · simp only [if_neg hk]
/-- Row of bytes: what it owns, as the next step may turn it. -/
theorem own_bf {N0 b e : Nat} {w : World} {hw : Hw} {v : Value} {xs : List UInt8} (O : Own K8 e N0 w hw v xs) : ∀ g, v.ownBlock = some g → BF N0 w b e g := fun g hg => by
  obtain ⟨cur, hc⟩ := own_heap O g hg
  exact .inr ⟨(O.new g hg).1, cur, _, hc⟩
/-- The steps of a writer: into the builder, onto its bytes, into the builder. -/
theorem bw_steps {N0 b e : Nat} {w w1 w2 w3 : World} {hw hw1 hw2 hw3 : Hw} {v : Value} {xs : List UInt8} (hlt : b < w.heap.size) (s1 : Stp (some b) w hw w1 hw1) (O : Own K8 e N0 w1 hw1 v xs) (hv : v.ownBlock ≠ some b) (s2 : Stp v.ownBlock w1 hw1 w2 hw2) (s3 : Stp (some b) w2 hw2 w3 hw3) (hN : N0 ≤ w.heap.size) : StpS (BF N0 w b e) w hw w3 hw3 := by
  have a1 : StpS (BF N0 w b e) w hw w1 hw1 := StpS.of s1 (fun g hg => .inl (Option.some.inj hg).symm)
  have a2 : StpS (BF N0 w b e) w hw w2 hw2 := a1.then s2 (fun g hg => by
    rcases Nat.lt_or_ge g w.heap.size with hgl | hgl
    · refine .inr (.inr ⟨(O.new g hg).1, ?_⟩)
      obtain ⟨cur, hc⟩ := own_heap O g hg
      have hne : some g ≠ some b := fun e => hv (by rw [hg, e])
      rw [s1.g.block g hgl hne] at hc
      exact ⟨cur, _, hc⟩
    · exact .inl hgl)
  exact a2.then s3 (fun g hg => .inr (.inl (Option.some.inj hg).symm))
theorem frz {e g n N0 b : Nat} {w : World} {hw : Hw} {cur : Array Value} {fz : Nat × Nat} (wf : Hwf w hw) (hg : w.heap[g]? = some (.cells cur e fz)) (hN : N0 ≤ g) : StpS (BF N0 w b e) w hw (w.drew.freeze ⟨g, 0, none⟩ n) hw := by
  by_cases h0 : n = 0
  · have : w.drew.freeze ⟨g, 0, none⟩ n = w.drew := by unfold World.freeze; rw [if_pos h0]
    rw [this]
    exact StpS.of (Stp.drew wf) (by simp)
  have hsz : (w.drew.freeze ⟨g, 0, none⟩ n).heap.size = w.heap.size := by unfold World.freeze; rw [if_neg h0]; simp
  have hcell : ∀ a : Addr, (w.drew.freeze ⟨g, 0, none⟩ n).cell? a = w.cell? a := by
    intro a
    simp only [World.freeze, World.cell?, World.drew, if_neg h0, Array.getElem?_modify]
    by_cases h : g = a.block
    · subst h
      simp [hg]
    · simp [h]
  refine ⟨by unfold World.freeze; rw [if_neg h0]; rfl, by unfold World.freeze; rw [if_neg h0]; rfl, by unfold World.freeze; rw [if_neg h0]; rfl, by rw [hsz]; exact Nat.le_refl _, fun i hi hn => ?_, fun _ _ _ => rfl, ⟨fun _ => Nat.le_refl _, fun c i v hi hc => by rw [hcell]; exact hc, fun c es k _ hm => by
    have hne : g ≠ c := fun e => by subst e; rw [hg] at hm; cases hm
    simp only [World.freeze, World.drew, if_neg h0, Array.getElem?_modify, if_neg hne]
    exact hm⟩, fun c hc => wf c (by rw [hsz] at hc; exact hc)⟩
  have hne : g ≠ i := fun e => hn (by subst e; exact .inr ⟨hN, cur, fz, hg⟩)
  simp only [World.freeze, World.drew, if_neg h0, Array.getElem?_modify, if_neg hne]
end Go.Proofs.YtlaifpbickdpkaaDoor
