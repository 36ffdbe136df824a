/- GwF: ways that meet again, exits, what a printed proof leans on (own work). -/
import Derived.Test.YtlaifpbickdpkaaDoorGwE
namespace Go.Proofs.YtlaifpbickdpkaaDoor
open Go.RowKit
set_option linter.unusedVariables false
set_option linter.unusedSimpArgs false

def nin : List Nat → Nat → Bool
  | [], _ => true
  | d :: ds, t => bif Nat.beq t d then false else nin ds t
def Same (ds : List Nat) (σ σ' : Nat → Value) : Prop := ∀ t, nin ds t = true → σ' t = σ t
theorem Same.refl (ds : List Nat) (σ : Nat → Value) : Same ds σ σ := fun _ _ => rfl
theorem Same.upd {ds : List Nat} {σ σ' : Nat → Value} {d : Nat} {v : Value} (h : Same ds σ σ') (hd : nin ds d = false) : Same ds σ (upd σ' d v) := fun t ht => by
  rw [upd_other σ' v (fun e => by subst e; rw [hd] at ht; cases ht)]
  exact h t ht
section
variable {P : Program} {ops : Array Oper} {Q : Exit → Act → World → Prop} {n : Nat} {σ : Nat → Value} {w : World} {hw : Hw} {l : List Oper}
theorem wpList_split (m : Nat) (J : Act → World → Prop) : ∀ (l : List Oper) (m : Nat) (a : Act) (w : World), wpList P ops (Exit.then J Q) (l.take m) a w → (∀ a w, J a w → wpList P ops Q (l.drop m) a w) → wpList P ops Q l a w := by
  have qq : ∀ {o : Oper} {a : Act} {w : World} {K K' : Act → World → Prop}, (∀ a w, K a w → K' a w) → o.wp P a w K (Exit.then J Q) → o.wp P a w K' Q := by
    intro o a w K K' hK h
    unfold Oper.wp at *
    generalize (execOp a.eval o).run P w = r at *
    cases r with
    | ok nx w' =>
      cases nx <;> simp only [Oper.upon] at h ⊢ <;>
        first
          | exact hK _ _ h
          | exact Calls.mono h (fun e w'' he => by cases e <;> first | exact hK _ _ he | exact he)
          | exact Rows.mono h (fun _ _ he => hK _ _ he)
    | halt x w' => cases x <;> simp only [Oper.upon] at h ⊢ <;> exact h
  intro l
  induction l with
  | nil =>
    intro m a w h k
    have h' : J a w := by cases m <;> exact h
    have := k a w h'
    cases m <;> exact this
  | cons o l ih =>
    intro m a w h k
    cases m with
    | zero => exact k a w h
    | succ m =>
      rw [List.take_succ_cons] at h
      unfold wpList at h ⊢
      split
      · rename_i hw
        rw [if_pos hw] at h
        rcases h with h | h
        · exact .inl (qq (fun a w hh => ih m a w hh k) h)
        · exact .inr ⟨h.1, h.2⟩
      · rename_i hw
        rw [if_neg hw] at h
        exact ih m _ _ h k
/-- Ways that meet again behind some operations that turn nothing in memory. -/
theorem wl_join (m : Nat) (ds : List Nat) (dp : Nat) (v : Value)
    (h : WL P ops (Exit.then (fun a w' => w' = w ∧ ∃ σ', a = mkA n σ' ∧ Same ds σ σ' ∧ σ' dp = v) Q) (l.take m) (mkA n σ) w)
    (k : ∀ σ', Same ds σ σ' → σ' dp = v → WL P ops Q (l.drop m) (mkA n σ') w) : WL P ops Q l (mkA n σ) w :=
  ⟨wpList_split m _ l m _ _ h.out fun a w' ⟨hw, σ', ha, h1, h2⟩ => by subst hw; subst ha; exact (k σ' h1 h2).out⟩
theorem join_end {σ0 : Nat → Value} {w0 : World} {ds : List Nat} {dp : Nat} {v : Value} (h1 : Same ds σ0 σ) (h2 : σ dp = v) : Exit.then (fun a w' => w' = w ∧ ∃ σ', a = mkA n σ' ∧ Same ds σ0 σ' ∧ σ' dp = v) Q .normal (mkA n σ) w :=
  ⟨rfl, σ, rfl, h1, h2⟩
end
section
variable {K Q : Exit → Act → World → Prop} {J : Act → World → Prop} {a : Act} {w : World} {i j : Nat}
theorem qn (h : J a w) : Exit.then J Q .normal a w := h
theorem qe (h : Q (.exit i) a w) : Exit.then J Q (.exit i) a w := h
theorem qr (h : Q .ret a w) : Exit.then J Q .ret a w := h
theorem bn (h : Q .normal a w) : Exit.inBlock i Q .normal a w := h
theorem be (h : Q .normal a w) : Exit.inBlock i Q (.exit i) a w := by simp only [Exit.inBlock, if_true]; exact h
theorem bx (hne : j ≠ i) (h : Q (.exit j) a w) : Exit.inBlock i Q (.exit j) a w := by simp only [Exit.inBlock, if_neg hne]; exact h
theorem bret (h : Q .ret a w) : Exit.inBlock i Q .ret a w := h
end
theorem at_lt {α : Type} {xs : List α} {i : Int} {u : α} (h0 : 0 ≤ i) (h : xs[i.toNat]? = some u) : i < (xs.length : Int) := by
  have := (List.getElem?_eq_some_iff.1 h).1
  omega
theorem one_all (l : List Value) (h : l.all (·.oneCell') = true) : ∀ u ∈ l, u.oneCell' = true := fun u hu => List.all_eq_true.1 h u hu
theorem row_one {α : Type} {K : Kind α} {w : World} {hw : Hw} {v : Value} {xs : List α} (h : Row K w hw v xs) : v.oneCell' = true := by
  obtain ⟨A, c, rfl⟩ := h.slice; rfl
theorem Live.sub {w : World} {hw : Hw} {b o : Nat} {cs l : List Value} (h : Live w hw b o cs) (i : Nat) (hl : (cs.drop i).take l.length = l) : ∀ j u, l[j]? = some u → w.cell? ⟨b, o + i + j, none⟩ = some u := by
  intro j u hj
  have hjl : j < l.length := (List.getElem?_eq_some_iff.1 hj).1
  rw [Nat.add_assoc]
  refine h.2 _ u ?_
  rw [← hl, List.getElem?_take, if_pos hjl, List.getElem?_drop] at hj
  exact hj
section
variable {α : Type} {K : Kind α} {e : TypeId} {N0 N1 : Nat} {w w' : World} {hw hw' : Hw} {v v' : Value} {xs ys : List α} {b : Nat} {T : TypeId} {cs : List Value}
theorem Own.low (h : Own K e N1 w hw v xs) (hN : N0 ≤ N1) : Own K e N0 w hw v xs := by
  obtain ⟨c, ho, hr, hh⟩ := h
  refine ⟨c, ⟨ho.1, ?_⟩, hr, hh⟩
  rcases ho.2 with h | ⟨g, cap, cur, h1, h2, h3⟩
  · exact .inl h
  · exact .inr ⟨g, cap, cur, h1, Nat.le_trans hN h2, h3⟩
/-- A row that is new is no elder box. -/
theorem own_new_ne (h : Own K e w.heap.size w' hw' v xs) (B : Box N0 w hw b T cs) : v.ownBlock ≠ some b := fun hg => by
  have := (h.new b hg).1
  have := B.lt
  omega
theorem app_ne (h : v'.ownBlock = v.ownBlock ∨ v'.ownBlock = some w.heap.size) (hn : v.ownBlock ≠ some b) (B : Box N0 w hw b T cs) : v'.ownBlock ≠ some b := fun hg => by
  rcases h with h | h
  · exact hn (by rw [← h]; exact hg)
  · rw [h] at hg
    have := Option.some.inj hg
    have := B.lt
    omega
theorem Stp.nil_row (h : Stp (Value.slice none 0 0).ownBlock w hw w' hw') : Stp none w hw w' hw' := h
/-- A box that is written no more lives. -/
theorem Box.live (B : Box N0 w hw b T cs) : Live w (raise hw b cs.length) b 0 cs := by
  refine ⟨?_, fun j u hj => ?_⟩
  · have := raise_same hw b cs.length
    omega
  · rw [Nat.zero_add, B.cell]; exact hj
end
section
variable {P : Program} {ops : Array Oper} {Q : Exit → Act → World → Prop} {n : Nat} {σ : Nat → Value} {w : World} {hw : Hw} {rest : List Oper}
variable {d : Nat} {x y z : Operand} {t t2 ty : TypeId} {pos : String} {after : Array Edge}
/-- xs[:len(xs):len(xs)]. -/
theorem wl_clip {α : Type} {KD : Kind α} {xs : List α} {e : TypeId} {vx : Value} (ht : P.underlying t = some (.slice e)) {sz bytes : Nat} {agg : Bool} {zv : Value} (he : Ty P e sz bytes agg zv) (hr : Row KD w hw vx xs) (hx : ev n σ x = vx)
    (hy : ev n σ y = .int .i64 (xs.length : Int)) (hz : ev n σ z = .int .i64 (xs.length : Int))
    (K : ∀ A, Row KD w hw (.slice A xs.length xs.length) xs → WL P ops Q rest (mkA n (upd σ d (.slice A xs.length xs.length))) w) :
    WL P ops Q (⟨some d, .slice t x none (some y) (some z), ty, pos, after, none⟩ :: rest) (mkA n σ) w := by
  obtain ⟨A, c, rfl, hc1, hc2, hn, h3⟩ := hr
  have e1 : (Instr.sliceBounds true xs.length c none (some (.int .i64 (xs.length : Int))) (some (.int .i64 (xs.length : Int)))).run P w = .ok (0, xs.length, xs.length) w := by
    simp [Instr.sliceBounds, run_sb (P := P) (w := w) (k := .i64) (i := (xs.length : Int)) (y := c) .slice3Acap (by omega) (by omega), run_sb (P := P) (w := w) (k := .i64) (i := (xs.length : Int)) (y := xs.length) .slice3B (by omega) (by omega)]
  refine wl_val (v := .slice A xs.length xs.length) (w' := w) ?_ (K A ⟨A, _, rfl, Nat.le_refl _, by omega, fun hA => by have := hn hA; omega, fun hp => ?_⟩)
  · simp only [execOp, Instr.sliceAt, Instr.slice, hx, hy, hz]
    simp only [Sem.run_bind, run_underlying ht, Result.andThen_ok, Option.map_none, Option.map_some, hy, hz, e1, he.sizeOf, Nat.sub_zero, Nat.zero_mul]
    have e2 : (if xs.length = 0 then A else A.map (·.add 0)) = A := by
      split
      · rfl
      · cases A <;> rfl
    simp only [e2]
    rfl
  · exact h3 hp
/-- A function that came in: what it gives, at whatever later world. 'A', 'B': how an argument, a result reads. -/
def FnOk {α β : Type} (P : Program) (w : World) (hw : Hw) (fv : Value) (A : World → Hw → α → Value → Prop) (B : β → Value) (p : α → Option β) : Prop :=
  ∃ (f : FuncId) (first cap : List Value), fv = .func (.func f) first.toArray cap.toArray ∧ Bod P f ∧ ∀ w' hw', Ext w hw w' hw' → Hwf w' hw' → ∀ x va, A w' hw' x va → ∀ y, p x = some y →
    Calls P f (first ++ va :: cap).toArray w' fun e w'' => ∃ hw'', e = .returned (B y) ∧ Stp none w' hw' w'' hw''
theorem FnOk.ext {α β : Type} {w' : World} {hw' : Hw} {fv : Value} {A : World → Hw → α → Value → Prop} {B : β → Value} {p : α → Option β} (e : Ext w hw w' hw') (h : FnOk P w hw fv A B p) : FnOk P w' hw' fv A B p := by
  obtain ⟨f, first, cap, h1, h2, h3⟩ := h
  exact ⟨f, first, cap, h1, h2, fun w2 hw2 e2 => h3 w2 hw2 (e.trans e2)⟩
theorem wl_callf {α β : Type} {fv va : Value} {A : World → Hw → α → Value → Prop} {B : β → Value} {p : α → Option β} {u : α} {y' : β} {ats : Array TypeId} (h : FnOk P w hw fv A B p) (hx : ev n σ x = fv) (hy : ev n σ y = va) (hwf : Hwf w hw) (hA : A w hw u va) (hp : p u = some y')
    (K : ∀ w' hw', Stp none w hw w' hw' → WL P ops Q rest (mkA n (upd σ d (B y'))) w') :
    WL P ops Q (⟨some d, .call { callee := .value x, args := List.toArray [y], argTypes := ats }, ty, pos, after, none⟩ :: rest) (mkA n σ) w := by
  obtain ⟨f, first, cap, rfl, hb, hc⟩ := h
  refine wl_callv hb hx [va] (mc hy (mn _)) (hc w hw (Ext.refl _ _) hwf u va hA y' hp) ?_
  rintro e w' ⟨hw', rfl, s⟩
  exact ⟨_, rfl, K w' hw' s⟩
end
/-- How a struct's value reads. -/
def VS {α : Type} (K : Kind α) (w : World) (hw : Hw) (x : α) (v : Value) : Prop := ∃ cs, v = .agg (List.toArray cs) ∧ K.R w hw x cs
def V1 {α : Type} (K : Kind α) (w : World) (hw : Hw) (x : α) (v : Value) : Prop := K.R w hw x [v]
end Go.Proofs.YtlaifpbickdpkaaDoor
