/- GwE: one rule an operation that touches memory; calls; ends; loops (own work). -/
import Derived.Test.YtlaifpbickdpkaaDoorGwD
namespace Go.Proofs.YtlaifpbickdpkaaDoor
open Go.RowKit
set_option linter.unusedVariables false
set_option linter.unusedSimpArgs false

section
variable {P : Program} {ops : Array Oper} {Q : Exit → Act → World → Prop} {n : Nat} {σ : Nat → Value} {w : World} {hw : Hw} {rest : List Oper}
variable {d : Nat} {x y z : Operand} {t t2 ty : TypeId} {pos : String} {after : Array Edge} {k : IntKind} {a b : Int} {p q : Bool} {l m : List UInt8}
variable {N0 B o off : Nat} {T E : TypeId} {cs : List Value} {sz bytes : Nat} {agg : Bool} {zv v : Value}

theorem mn (f : Operand → Value) : [].map f = [] := rfl
theorem mc {f : Operand → Value} {x : Operand} {xs : List Operand} {v : Value} {vs : List Value} (h : f x = v) (k : xs.map f = vs) : (x :: xs).map f = v :: vs := by rw [List.map_cons, h, k]
def pe (n : Nat) (σ : Nat → Value) (p : Nat × Operand) : Nat × Value := (p.1, ev n σ p.2)
theorem pn (n : Nat) (σ : Nat → Value) : [].map (pe n σ) = [] := rfl
theorem pc {n : Nat} {σ : Nat → Value} {i : Nat} {x : Operand} {xs : List (Nat × Operand)} {v : Value} {vs : List (Nat × Value)} (h : ev n σ x = v) (k : xs.map (pe n σ) = vs) : ((i, x) :: xs).map (pe n σ) = (i, v) :: vs := by rw [List.map_cons, k, pe, h]
theorem pe_arr {n : Nat} {σ : Nat → Value} {parts : List (Nat × Operand)} {vs : List (Nat × Value)} (h : parts.map (pe n σ) = vs) : (parts.toArray.map fun (i, x) => (i, ev n σ x)) = vs.toArray := by
  rw [List.map_toArray, ← h]; rfl
/-! #### addresses -/
/-- A field's place in its struct. -/
def Fld (P : Program) (s : TypeId) (f off : Nat) : Prop := ∀ (b o : Nat) (w : World), (Instr.fieldAt s (.pointer (some ⟨b, o, none⟩)) f).run P w = .ok (.pointer (some ((⟨b, o, none⟩ : Addr).add off))) w
theorem wl_field {s : TypeId} {f : Nat} (hf : Fld P s f off) (hx : ev n σ x = .pointer (some ⟨B, o, none⟩)) (K : WL P ops Q rest (mkA n (upd σ d (.pointer (some ⟨B, o + off, none⟩)))) w) :
    WL P ops Q (⟨some d, .fieldAddr s x f, ty, pos, after, none⟩ :: rest) (mkA n σ) w :=
  wl_val (v := .pointer (some ⟨B, o + off, none⟩)) (w' := w) (by simp [execOp, hx, hf B o w, Addr.add_lit]) K
/-- Load out of cells that are known. -/
theorem wl_load (h : Ty P t sz bytes true zv) (hx : ev n σ x = .pointer (some ⟨B, o, none⟩)) (l : List Value) (hn : l.length = sz) (hc : ∀ j u, l[j]? = some u → w.cell? ⟨B, o + j, none⟩ = some u)
    (K : WL P ops Q rest (mkA n (upd σ d (.agg l.toArray))) w) : WL P ops Q (⟨some d, .load t x, ty, pos, after, none⟩ :: rest) (mkA n σ) w :=
  wl_val (w' := w) (by simp [execOp, hx, h.load hn hc]) K
theorem wl_load1 (h : Ty P t sz bytes false zv) (hx : ev n σ x = .pointer (some ⟨B, o, none⟩)) (v : Value) (hc : w.cell? ⟨B, o, none⟩ = some v)
    (K : WL P ops Q rest (mkA n (upd σ d v)) w) : WL P ops Q (⟨some d, .load t x, ty, pos, after, none⟩ :: rest) (mkA n σ) w :=
  wl_val (w' := w) (by simp [execOp, hx, h.load1 hc]) K
/-- .. of a box. -/
theorem Box.cells (h : Box N0 w hw B T cs) {l : List Value} (hl : (cs.drop o).take l.length = l) : ∀ j u, l[j]? = some u → w.cell? ⟨B, o + j, none⟩ = some u := by
  intro j u hj
  have hjl : j < l.length := (List.getElem?_eq_some_iff.1 hj).1
  rw [h.cell, ← hj]
  conv => rhs; rw [← hl]
  rw [List.getElem?_take, if_pos hjl, List.getElem?_drop]
theorem wl_loadb (hb : Box N0 w hw B T cs) (h : Ty P t sz bytes true zv) (hx : ev n σ x = .pointer (some ⟨B, o, none⟩)) (l : List Value) (hn : l.length = sz) (hl : (cs.drop o).take l.length = l)
    (K : WL P ops Q rest (mkA n (upd σ d (.agg l.toArray))) w) : WL P ops Q (⟨some d, .load t x, ty, pos, after, none⟩ :: rest) (mkA n σ) w :=
  wl_load h hx l hn (hb.cells hl) K
theorem wl_loadb1 (hb : Box N0 w hw B T cs) (h : Ty P t sz bytes false zv) (hx : ev n σ x = .pointer (some ⟨B, o, none⟩)) (v : Value) (hc : cs[o]? = some v)
    (K : WL P ops Q rest (mkA n (upd σ d v)) w) : WL P ops Q (⟨some d, .load t x, ty, pos, after, none⟩ :: rest) (mkA n σ) w :=
  wl_load1 h hx v (by rw [hb.cell]; exact hc) K
theorem Box.put {l : List Value} (h : Box N0 w hw B T cs) (hwf : Hwf w hw) (cs' : List Value) : Box N0 (w.setRow B cs'.toArray) hw B T cs' ∧ Stp (some B) w hw (w.setRow B cs'.toArray) hw := by
  refine ⟨⟨setRow_heap w B _ _ T _ h.heap, h.z, h.new⟩, Stp.mk_same ⟨rfl, rfl, rfl, by simp, fun k hk hne => setRow_other w B k _ (fun e => hne (by rw [e]))⟩ hwf (fun b hb => ?_)⟩
  have := Option.some.inj hb
  subst this
  exact h.z
/-- A store into a box. -/
theorem wl_store (hb : Box N0 w hw B T cs) (hwf : Hwf w hw) (h : Ty P t sz bytes agg zv) (hx : ev n σ x = .pointer (some ⟨B, o, none⟩)) (l : List Value) (hy : (ev n σ y).cells = l.toArray) (hn : l.length = sz) (ho : o + l.length ≤ cs.length)
    (h1 : ∀ u ∈ l, u.oneCell' = true) (cs' : List Value) (hcs : cs.take o ++ l ++ cs.drop (o + l.length) = cs')
    (K : ∀ w', Stp (some B) w hw w' hw → Box N0 w' hw B T cs' → WL P ops Q rest (mkA n σ) w') : WL P ops Q (⟨none, .store t x y, ty, pos, after, none⟩ :: rest) (mkA n σ) w := by
  have hst := run_storeCells_at P B o T l 0 cs.toArray w hb.heap (by simpa using ho) h1
  simp only [Nat.add_zero] at hst
  rw [hcs] at hst
  obtain ⟨k1, k2⟩ := hb.put (l := l) hwf cs'
  refine wl_skip0 (w' := w.setRow B cs'.toArray) ?_ (K _ k2 k1)
  have hsz : ¬ (ev n σ y).cells.size ≠ sz := by rw [hy]; simpa using hn
  simp only [execOp, Instr.storeAt, Instr.sureAddr, storeVar, hx, Sem.run_bind, Sem.run_pure, Result.andThen_ok, h.sizeOf]
  rw [if_neg hsz, hy]
  simp [hst]
/-- A new box. -/
theorem Box.mk_alloc (hwf : Hwf w hw) (hN : N0 ≤ w.heap.size) (cs : List Value) : Box N0 (w.alloc (.cells cs.toArray T)) hw w.heap.size T cs ∧ Stp none w hw (w.alloc (.cells cs.toArray T)) hw :=
  ⟨⟨heap_alloc_new w _, hwf _ (Nat.le_refl _), hN⟩, Stp.alloc hwf _⟩
theorem wl_alloc (hwf : Hwf w hw) (hN : N0 ≤ w.heap.size) (h : Ty P t sz bytes agg zv) (cs : List Value) (hz : zv.cells = cs.toArray)
    (K : ∀ B w', Stp none w hw w' hw → Box N0 w' hw B t cs → w.heap.size ≤ B → WL P ops Q rest (mkA n (upd σ d (.pointer (some ⟨B, 0, none⟩)))) w') :
    WL P ops Q (⟨some d, .alloc t, ty, pos, after, none⟩ :: rest) (mkA n σ) w := by
  obtain ⟨k1, k2⟩ := Box.mk_alloc (T := t) hwf hN cs
  refine wl_val (w' := w.alloc (.cells cs.toArray t)) ?_ (K _ _ k2 k1 (Nat.le_refl _))
  simp only [execOp, Instr.alloc, Sem.run_bind, h.zero, Result.andThen_ok, newVar, newRow, newObj, hz]
  rfl
theorem wl_box (hwf : Hwf w hw) (hN : N0 ≤ w.heap.size) (cs : List Value) (hz : (ev n σ x).cells = cs.toArray)
    (K : ∀ B w', Stp none w hw w' hw → Box N0 w' hw B t cs → w.heap.size ≤ B → WL P ops Q rest (mkA n (upd σ d (.pointer (some ⟨B, 0, none⟩)))) w') :
    WL P ops Q (⟨some d, .box t x, ty, pos, after, none⟩ :: rest) (mkA n σ) w := by
  obtain ⟨k1, k2⟩ := Box.mk_alloc (T := t) hwf hN cs
  refine wl_val (w' := w.alloc (.cells cs.toArray t)) ?_ (K _ _ k2 k1 (Nat.le_refl _))
  simp only [execOp, Instr.box, newVar, newRow, newObj, hz]
  rfl
/-- A struct out of its parts: the run, as the kernel reckons it. -/
theorem wl_build {parts : List (Nat × Operand)} {vs : List (Nat × Value)} (cs : List Value) (hp : parts.map (pe n σ) = vs) (hb : (Instr.build t vs.toArray).run P w = .ok (.agg cs.toArray) w)
    (K : WL P ops Q rest (mkA n (upd σ d (.agg cs.toArray))) w) : WL P ops Q (⟨some d, .build t parts.toArray, ty, pos, after, none⟩ :: rest) (mkA n σ) w :=
  wl_val (w' := w) (by simp only [execOp, pe_arr hp, Sem.run_bind, hb]; rfl) K
/-- A slice that is written out: a new row of the call's own. -/
theorem wl_lit {α : Type} {KD : Kind α} {parts : List (Nat × Operand)} {vs : List (Nat × Value)} {len : Nat} (hwf : Hwf w hw) (cs : List Value) (xs : List α) (hp : parts.map (pe n σ) = vs)
    (hb : (Instr.buildSlice t len vs.toArray).run P w = .ok (.slice (some ⟨w.heap.size, 0, none⟩) len len) (w.alloc (.cells cs.toArray E)))
    (hlen : xs.length = len) (hm : len ≤ 9223372036854775807) (hr : RowsC KD w hw xs cs)
    (K : ∀ v w' hw', Own KD E w.heap.size w' hw' v xs → Stp none w hw w' hw' → WL P ops Q rest (mkA n (upd σ d v)) w') : WL P ops Q (⟨some d, .buildSlice t len parts.toArray, ty, pos, after, none⟩ :: rest) (mkA n σ) w := by
  have hg : w.grownBy (w.alloc (.cells cs.toArray E)) none := World.grownBy_alloc w _ none
  have hst : Stp none w hw (w.alloc (.cells cs.toArray E)) (fun b => if b = w.heap.size then cs.length else hw b) := by
    refine Stp.mk_none hg hwf (fun b hb => if_neg (by omega)) (fun b hb => ?_)
    have hb' : w.heap.size + 1 ≤ b := by simpa using hb
    exact (if_neg (by omega)).trans (hwf b (by omega))
  have hl := hr.len
  subst hlen
  refine wl_val (v := .slice (some ⟨w.heap.size, 0, none⟩) xs.length xs.length) (w' := w.alloc (.cells cs.toArray E)) (by simp only [execOp, pe_arr hp, Sem.run_bind, hb]; rfl) (K _ _ _ ⟨cs, ⟨hl, .inr ⟨w.heap.size, xs.length, cs.toArray, rfl, Nat.le_refl _, heap_alloc_new w _, Nat.le_refl _, by simpa [maxLen] using hm, by simpa using hl, ?_⟩⟩, hr.ext hst.ext, fun g h => ?_⟩ hst)
  · rw [← hl]; simp
  · have : w.heap.size = g := by simpa [Value.ownBlock] using h
    subst this
    rw [if_pos rfl, hl]
/-- An element's place. -/
theorem wl_at {α : Type} {KD : Kind α} {xs : List α} {e : TypeId} {vx : Value} (ht : P.underlying t = some (.slice e)) (he : Ty P e KD.sz bytes agg zv) (hr : Row KD w hw vx xs) (hx : ev n σ x = vx) (hy : ev n σ y = .int k a) (h0 : 0 ≤ a) (h1 : a < xs.length) (u : α) (hu : xs[a.toNat]? = some u)
    (K : ∀ B o cs, KD.R w hw u cs → Live w hw B o cs → WL P ops Q rest (mkA n (upd σ d (.pointer (some ⟨B, o, none⟩)))) w) :
    WL P ops Q (⟨some d, .indexAddr t x y, ty, pos, after, none⟩ :: rest) (mkA n σ) w := by
  obtain ⟨A, c, rfl, _, _, _, h3⟩ := hr
  obtain ⟨B, o, rfl, hc⟩ := h3 (by omega)
  obtain ⟨cs, hr, hl⟩ := hc _ u hu
  refine wl_val (v := .pointer (some ⟨B, o + a.toNat * KD.sz, none⟩)) (w' := w) ?_ (K B (o + a.toNat * KD.sz) cs hr hl)
  simp only [execOp, Instr.indexAt, hx, hy, asIntOf, Sem.run_bind, Sem.run_pure, Result.andThen_ok, run_underlying ht]
  rw [if_pos ⟨h0, h1⟩]
  simp [he.sizeOf, Addr.add_lit]
/-- xs[lo:hi]. -/
theorem wl_cut {α : Type} {KD : Kind α} {xs : List α} {e : TypeId} {vx : Value} {lo hi : Option Operand} {i j : Int} (ht : P.underlying t = some (.slice e)) (he : Ty P e KD.sz bytes agg zv) (hr : Row KD w hw vx xs) (hx : ev n σ x = vx)
    (hlo : Bd n σ lo i 0) (hhi : Bd n σ hi j xs.length) (h0 : 0 ≤ i) (h1 : i ≤ j) (h2 : j ≤ xs.length)
    (K : ∀ v, Row KD w hw v ((xs.take j.toNat).drop i.toNat) → WL P ops Q rest (mkA n (upd σ d v)) w) :
    WL P ops Q (⟨some d, .slice t x lo hi none, ty, pos, after, none⟩ :: rest) (mkA n σ) w := by
  obtain ⟨A, c, rfl, hc1, hc2, hn, h3⟩ := hr
  have e := run_sbs (P := P) (w := w) (len := xs.length) (cap := c) true hlo hhi h0 h1 (by omega)
  have hlen : ((xs.take j.toNat).drop i.toNat).length = j.toNat - i.toNat := by simp; omega
  refine wl_val (v := .slice (if c = i.toNat then A else A.map (·.add (i.toNat * KD.sz))) (j.toNat - i.toNat) (c - i.toNat)) (w' := w) ?_ (K _ ?_)
  · simp only [execOp, Instr.sliceAt, Instr.slice, hx]
    simp only [Sem.run_bind, run_underlying ht, Result.andThen_ok, Option.map_none, e, he.sizeOf]
    rfl
  · refine ⟨_, _, by rw [hlen], by rw [hlen]; omega, by omega, fun hA => ?_, fun hp => ?_⟩
    · split at hA
      · omega
      · rw [hn (by simpa using hA)]; omega
    · rw [hlen] at hp
      obtain ⟨B, o, rfl, hc⟩ := h3 (by omega)
      rw [if_neg (by omega)]
      refine ⟨B, o + i.toNat * KD.sz, by simp [Addr.add_lit], fun q u hu => ?_⟩
      rw [List.getElem?_drop, List.getElem?_take] at hu
      split at hu
      · obtain ⟨cs, h4, h5⟩ := hc _ u hu
        exact ⟨cs, h4, by rw [Nat.add_assoc, ← Nat.add_mul]; exact h5⟩
      · cases hu
/-- append to a row of the call's own. -/
theorem wl_app {α : Type} {KD : Kind α} {xs ys : List α} {e : TypeId} {vx vy : Value} (ht : P.underlying t = some (.slice e)) (hT : Ty P e KD.sz bytes agg zv) (hzs : zv.cells.size = KD.sz) (hsz : 0 < KD.sz) (hwf : Hwf w hw)
    (ho : Own KD e N0 w hw vx xs) (hr : Row KD w hw vy ys) (hx : ev n σ x = vx) (hy : ev n σ y = vy) (h63 : xs.length + ys.length ≤ 9223372036854775807) (hby : (xs.length + ys.length) * bytes ≤ 140737488355328) (hN : N0 ≤ w.heap.size)
    (K : ∀ v' w' hw', Own KD e N0 w' hw' v' (xs ++ ys) → Stp vx.ownBlock w hw w' hw' → (v'.ownBlock = vx.ownBlock ∨ v'.ownBlock = some w.heap.size) → WL P ops Q rest (mkA n (upd σ d v')) w') :
    WL P ops Q (⟨some d, .call { callee := .builtin .append, args := #[x, y], argTypes := #[t, t] }, ty, pos, after, none⟩ :: rest) (mkA n σ) w := by
  obtain ⟨v', w', hw', hrun, h1, h2, h3⟩ := run_app_own (ty := ty) ht hT hzs hsz hwf ho hr h63 hby hN
  refine wl_val (v := v') (w' := w') ?_ (K _ _ _ h1 h2 h3)
  simp [execOp, resolve, invoke, builtin, hx, hy, hrun]
theorem wl_app_full {α : Type} {KD : Kind α} {xs ys : List α} {e : TypeId} {A : Option Addr} {vy : Value} (ht : P.underlying t = some (.slice e)) (hT : Ty P e KD.sz bytes agg zv) (hzs : zv.cells.size = KD.sz) (hsz : 0 < KD.sz) (hwf : Hwf w hw)
    (ho : Row KD w hw (.slice A xs.length xs.length) xs) (hr : Row KD w hw vy ys) (hx : ev n σ x = .slice A xs.length xs.length) (hy : ev n σ y = vy) (hp : 0 < ys.length) (h63 : xs.length + ys.length ≤ 9223372036854775807) (hby : (xs.length + ys.length) * bytes ≤ 140737488355328)
    (K : ∀ v' w' hw', Own KD e w.heap.size w' hw' v' (xs ++ ys) → Stp none w hw w' hw' → WL P ops Q rest (mkA n (upd σ d v')) w') :
    WL P ops Q (⟨some d, .call { callee := .builtin .append, args := #[x, y], argTypes := #[t, t] }, ty, pos, after, none⟩ :: rest) (mkA n σ) w := by
  obtain ⟨v', w', hw', hrun, h1, h2⟩ := run_app_full (ty := ty) ht hT hzs hsz hwf ho hr hp h63 hby
  refine wl_val (v := v') (w' := w') ?_ (K _ _ _ h1 h2)
  simp [execOp, resolve, invoke, builtin, hx, hy, hrun]
/-! #### calls -/
/-- A function with a body. -/
def Bod (P : Program) (f : FuncId) : Prop := ∀ args w, (callFunc f args).run P w = .ok (.enter f args) w
theorem wl_call_val {c : Call} {f : FuncId} {args : Array Value} {R : Ending → World → Prop} (hf : Bod P f)
    (hr : (do let d ← resolve (ev n σ) c ty; invoke d.target d.args).run P w = (callFunc f args).run P w) (hc : Calls P f args w R)
    (K : ∀ e w', R e w' → ∃ v, e = .returned v ∧ WL P ops Q rest (mkA n (upd σ d v)) w') :
    WL P ops Q (⟨some d, .call c, ty, pos, after, none⟩ :: rest) (mkA n σ) w := by
  refine WL.plain rfl fun KK hK => ?_
  have he : (execOp (ev n σ) ⟨some d, .call c, ty, pos, after, none⟩).run P w = .ok (.enter f args) w := by
    show (do let d ← resolve (ev n σ) c ty; invoke d.target d.args).run P w = _
    rw [hr, hf args w]
  unfold Oper.wp
  rw [mkA_evalf, he]
  refine hc.mono fun e w' hR => ?_
  obtain ⟨v, rfl, h⟩ := K e w' hR
  show KK ((mkA n σ).put (some d) v) w'
  rw [mkA_put]
  exact hK _ _ h
theorem wl_call {f : FuncId} {args : List Operand} {ats : Array TypeId} {R : Ending → World → Prop} (vs : List Value) (hf : Bod P f) (ha : args.map (ev n σ) = vs) (hc : Calls P f vs.toArray w R)
    (K : ∀ e w', R e w' → ∃ v, e = .returned v ∧ WL P ops Q rest (mkA n (upd σ d v)) w') :
    WL P ops Q (⟨some d, .call { callee := .value (.func f), args := args.toArray, argTypes := ats }, ty, pos, after, none⟩ :: rest) (mkA n σ) w :=
  wl_call_val hf (by simp [resolve, ev, Deferred.ofValue, invoke, List.map_toArray, ha]) hc K
/-- A call of a function value. -/
theorem wl_callv {f : FuncId} {args : List Operand} {ats : Array TypeId} {R : Ending → World → Prop} {first captured : List Value} (hf : Bod P f) (hx : ev n σ x = .func (.func f) first.toArray captured.toArray) (vs : List Value) (ha : args.map (ev n σ) = vs) (hc : Calls P f (first ++ (vs ++ captured)).toArray w R)
    (K : ∀ e w', R e w' → ∃ v, e = .returned v ∧ WL P ops Q rest (mkA n (upd σ d v)) w') :
    WL P ops Q (⟨some d, .call { callee := .value x, args := args.toArray, argTypes := ats }, ty, pos, after, none⟩ :: rest) (mkA n σ) w :=
  wl_call_val hf (by simp [resolve, hx, Deferred.ofValue, invoke, List.map_toArray, ha]) hc K
theorem wl_extract {vs : List Value} {i : Nat} (v : Value) (hx : ev n σ x = .tuple vs.toArray) (hv : vs[i]? = some v) (K : WL P ops Q rest (mkA n (upd σ d v)) w) :
    WL P ops Q (⟨some d, .extract x i, ty, pos, after, none⟩ :: rest) (mkA n σ) w :=
  wl_val (w' := w) (by simp [execOp, hx, Instr.extract, hv]) K
theorem wl_func {f : Fn} {first captured : List Operand} {vs us : List Value} (hv : first.map (ev n σ) = vs) (hu : captured.map (ev n σ) = us) (K : WL P ops Q rest (mkA n (upd σ d (.func f vs.toArray us.toArray))) w) :
    WL P ops Q (⟨some d, .makeFunc f first.toArray captured.toArray, ty, pos, after, none⟩ :: rest) (mkA n σ) w :=
  wl_val (w' := w) (by simp [execOp, Instr.makeFunc, List.map_toArray, hv, hu]) K
end
/-! #### code -/
section
variable {P : Program} {Q : Exit → Act → World → Prop} {n : Nat} {σ : Nat → Value} {w : World} {hw : Hw}
theorem wc_region {id : Nat} {l : List Oper} (h : WL P l.toArray Q l (mkA n σ) w) : (Code.region id l.toArray false).wp P Q (mkA n σ) w := wp_region_lit h.out
theorem wc_seq {x y : Code} (h : x.wp P (Exit.then (y.wp P Q) Q) (mkA n σ) w) : (Code.seq x y).wp P Q (mkA n σ) w := wp_seq h
theorem wc_then {c : Operand} {x y : Code} {b : Bool} (hc : ev n σ c = .bool b) (hb : b = true) (h : x.wp P Q (mkA n σ) w) : (Code.cond c x y).wp P Q (mkA n σ) w :=
  wp_cond (t := true) (by rw [mkA_eval, hc, hb]) h
theorem wc_else {c : Operand} {x y : Code} {b : Bool} (hc : ev n σ c = .bool b) (hb : b = false) (h : y.wp P Q (mkA n σ) w) : (Code.cond c x y).wp P Q (mkA n σ) w :=
  wp_cond (t := false) (by rw [mkA_eval, hc, hb]) h
theorem wc_ret (h : Q .ret (mkA n σ) w) : Code.ret.wp P Q (mkA n σ) w := wp_ret h
theorem wc_skip (h : Q .normal (mkA n σ) w) : Code.skip.wp P Q (mkA n σ) w := wp_skip h
theorem wc_exit {id : Nat} (h : Q (.exit id) (mkA n σ) w) : (Code.exit id).wp P Q (mkA n σ) w := wp_exit h
theorem wc_block {id : Nat} {c : Code} (h : c.wp P (Exit.inBlock id Q) (mkA n σ) w) : (Code.block id c).wp P Q (mkA n σ) w := wp_block h
/-- A cut: what holds behind x. -/
theorem wc_cut {x y : Code} (J : Act → World → Prop) (h : x.wp P (Exit.then J Q) (mkA n σ) w) (k : ∀ a w, J a w → y.wp P Q a w) : (Code.seq x y).wp P Q (mkA n σ) w :=
  wp_seq (wp_mono h fun e a w hq => by cases e <;> first | exact k _ _ hq | exact hq)
theorem wc_loop {c : Code} (I : Nat → Act → World → Prop) (k : Nat) (h0 : I k (mkA n σ) w) (hz : ∀ a w, ¬ I 0 a w) (hs : ∀ k a w, I (k + 1) a w → c.wp P (Exit.then (I k) Q) a w) : (Code.loop c).wp P Q (mkA n σ) w := by
  refine wp_loop_rounds k ?_
  have key : ∀ k a w, I k a w → Code.rounds P c Q k a w := by
    intro k
    induction k with
    | zero => exact fun a w h => absurd h (hz a w)
    | succ k ih => exact fun a w h => wp_mono (hs k a w h) fun e a w hq => by cases e <;> first | exact ih _ _ hq | exact hq
  exact key k _ _ h0
/-- Into a function. -/
theorem enter {f : FuncId} {fn : Func} {c : Code} {args : List Value} {R : Ending → World → Prop} (hf : P.funcs[f]? = some fn) (hb : fn.body = some c) (hn : fn.ntmps = n) (hl : args.length ≤ n)
    (h : c.wp P (bodyPost P fn R) (mkA n (litF args)) w) : Calls P f args.toArray w R := by
  refine calls_of_wp hf hb ?_
  have e : (⟨args.toArray ++ Array.replicate (fn.ntmps - args.toArray.size) undef, []⟩ : Act) = mkA n (litF args) := by
    subst hn
    unfold mkA litF
    simp only [Act.mk.injEq, and_true]
    apply Array.ext
    · simp; omega
    · intro i h1 h2
      have hi : i < fn.ntmps := by simpa using h2
      simp only [Array.getElem_ofFn]
      by_cases hia : i < args.length
      · rw [Array.getElem_append_left (by simpa using hia)]
        simp [List.getD, hia]
      · rw [Array.getElem_append_right (by simpa using hia)]
        simp [List.getD, hia]
  rw [e]
  exact h
/-- What is handed back. -/
inductive Res (P : Program) (n : Nat) (σ : Nat → Value) (w : World) : List ResultVar → List Value → Prop
  | nil : Res P n σ w [] []
  | tmp {t : Tmp} {v : Value} {rs : List ResultVar} {vs : List Value} (h : ev n σ (.tmp t) = v) (hr : Res P n σ w rs vs) : Res P n σ w (.tmp t :: rs) (v :: vs)
  | cell {t : Tmp} {ty : TypeId} {B o : Nat} {v : Value} {rs : List ResultVar} {vs : List Value} (h : ev n σ (.tmp t) = .pointer (some ⟨B, o, none⟩)) (hl : (Instr.loadAt ty (.pointer (some ⟨B, o, none⟩))).run P w = .ok v w)
    (hr : Res P n σ w rs vs) : Res P n σ w (.cell t ty :: rs) (v :: vs)
def resOf (P : Program) (n : Nat) (σ : Nat → Value) : ResultVar → Sem Value
  | .tmp t => pure ((mkA n σ).tmps.getD t undef)
  | .cell a t => do loadVar t (← asAddr ((mkA n σ).tmps.getD a undef))
theorem Res.head {r : ResultVar} {rs : List ResultVar} {v : Value} {vs : List Value} (h : Res P n σ w (r :: rs) (v :: vs)) : (resOf P n σ r).run P w = .ok v w ∧ Res P n σ w rs vs := by
  cases h with
  | @tmp t v rs vs h hr =>
    have e : (mkA n σ).tmps.getD t undef = v := by rw [← h, ← mkA_eval]; rfl
    exact ⟨by simp [resOf, e], hr⟩
  | @cell t ty B o v rs vs h hl hr =>
    have e : (mkA n σ).tmps.getD t undef = .pointer (some ⟨B, o, none⟩) := by rw [← h, ← mkA_eval]; rfl
    have hl' : (loadVar ty ⟨B, o, none⟩).run P w = .ok v w := by simpa [Instr.loadAt, Instr.sureAddr] using hl
    exact ⟨by simp [resOf, e, asAddr, hl'], hr⟩
theorem results_eq (fn : Func) : results fn (mkA n σ).tmps = (do
    let vs ← fn.results.mapM (resOf P n σ)
    pure (if h : vs.size = 1 then vs[0] else .tuple vs)) := rfl
theorem end1 {fn : Func} {R : Ending → World → Prop} {r1 : ResultVar} {v1 : Value} (hres : fn.results = #[r1]) (h : Res P n σ w [r1] [v1]) (hR : R (.returned v1) w) : bodyPost P fn R .ret (mkA n σ) w := by
  obtain ⟨h1, _⟩ := h.head
  refine ⟨rfl, v1, ?_, hR⟩
  rw [results_eq (P := P), hres]
  simp [h1]
theorem end2 {fn : Func} {R : Ending → World → Prop} {r1 r2 : ResultVar} {v1 v2 : Value} (hres : fn.results = #[r1, r2]) (h : Res P n σ w [r1, r2] [v1, v2]) (hR : R (.returned (.tuple #[v1, v2])) w) : bodyPost P fn R .ret (mkA n σ) w := by
  obtain ⟨h1, k1⟩ := h.head
  obtain ⟨h2, _⟩ := k1.head
  refine ⟨rfl, _, ?_, hR⟩
  rw [results_eq (P := P), hres]
  simp [h1, h2]
theorem end3 {fn : Func} {R : Ending → World → Prop} {r1 r2 r3 : ResultVar} {v1 v2 v3 : Value} (hres : fn.results = #[r1, r2, r3]) (h : Res P n σ w [r1, r2, r3] [v1, v2, v3]) (hR : R (.returned (.tuple #[v1, v2, v3])) w) : bodyPost P fn R .ret (mkA n σ) w := by
  obtain ⟨h1, k1⟩ := h.head
  obtain ⟨h2, k2⟩ := k1.head
  obtain ⟨h3, _⟩ := k2.head
  refine ⟨rfl, _, ?_, hR⟩
  rw [results_eq (P := P), hres]
  simp [h1, h2, h3]
theorem end0 {fn : Func} {R : Ending → World → Prop} (hres : fn.results = #[]) (hR : R (.returned (.tuple #[])) w) : bodyPost P fn R .ret (mkA n σ) w :=
  ⟨rfl, _, results_none hres _ _ _, hR⟩
theorem end_n {fn : Func} {R : Ending → World → Prop} {w : World} {a : Act} (h : bodyPost P fn R .ret a w) : bodyPost P fn R .normal a w := h
end
end Go.Proofs.YtlaifpbickdpkaaDoor
