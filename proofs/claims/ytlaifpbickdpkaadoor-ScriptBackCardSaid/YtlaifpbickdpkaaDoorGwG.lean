/- GwG: a region that draws its order: whatever comes first (own work). -/
import Derived.Test.YtlaifpbickdpkaaDoorGwF
namespace Go.Proofs.YtlaifpbickdpkaaDoor
open Go.RowKit
set_option linter.unusedVariables false
set_option linter.unusedSimpArgs false

def up (D : Nat → Bool) (i : Nat) : Nat → Bool := fun j => bif Nat.beq j i then true else D j
theorem up_same (D : Nat → Bool) (i : Nat) : up D i i = true := by simp [up]
theorem up_other (D : Nat → Bool) {i j : Nat} (h : j ≠ i) : up D i j = D j := by
  unfold up
  rw [Bool.eq_false_iff.2 (fun hb => h (Nat.eq_of_beq_eq_true hb))]; rfl
def needsOf (o : Oper) : List Nat := (o.after.toList.filter fun e => Region.binds .any e).map (·.on)
/-- The slots that are written, operation by operation. -/
def dstsOf (l : List Oper) : List Nat := l.filterMap (·.dst)
/-- A check that the kernel reckons. -/
def anyOk (l : List Oper) (N : List (List Nat)) (ds : List Nat) : Bool :=
  (l.map needsOf == N) && (dstsOf l == ds) && decide (ds.Nodup) && (l.zipIdx.all fun (o, i) => o.after.all fun e => !Region.binds .any e || decide (e.on < i))
/-- What holds of the values that an operation waits for. -/
def Has (l : List Oper) (Φ : Nat → Value → World → Hw → Prop) (σ : Nat → Value) (w : World) (hw : Hw) (j : Nat) : Prop :=
  match (l[j]?).bind (·.dst) with
  | some d => Φ j (σ d) w hw
  | none => True
def HasAll (l : List Oper) (Φ : Nat → Value → World → Hw → Prop) (D : Nat → Bool) (σ : Nat → Value) (w : World) (hw : Hw) : List Nat → Prop
  | [] => True
  | j :: js => (D j = true ∧ Has l Φ σ w hw j) ∧ HasAll l Φ D σ w hw js
/-- Does q wait for j, through others too? -/
def anc (N : List (List Nat)) : Nat → Nat → Nat → Bool
  | 0, _, _ => false
  | k + 1, q, j => (N.getD q []).any fun m => Nat.beq m j || anc N k m j
theorem anc_done {N : List (List Nat)} {D : Nat → Bool} (hc : ∀ q, D q = true → ∀ m ∈ N.getD q [], D m = true) : ∀ (k q j : Nat), anc N k q j = true → (∀ m ∈ N.getD q [], D m = true) → D j = true
  | 0, q, j, h, _ => by simp [anc] at h
  | k + 1, q, j, h, hq => by
    unfold anc at h
    obtain ⟨m, hm, h⟩ := List.any_eq_true.1 h
    rw [Bool.or_eq_true] at h
    rcases h with h | h
    · rw [← Nat.eq_of_beq_eq_true h]; exact hq m hm
    · exact anc_done hc k m j h (hc m (hq m hm))
def PhiOf (L : List (Value → World → Hw → Prop)) (i : Nat) (v : Value) (w : World) (hw : Hw) : Prop := (L.getD i fun _ _ _ => True) v w hw
def Stab (p : Value → World → Hw → Prop) : Prop := ∀ v w hw w' hw', Ext w hw w' hw' → p v w hw → p v w' hw'
def StabAll : List (Value → World → Hw → Prop) → Prop
  | [] => True
  | p :: ps => Stab p ∧ StabAll ps
theorem stab_of : ∀ {L : List (Value → World → Hw → Prop)}, StabAll L → ∀ i v w hw w' hw', Ext w hw w' hw' → PhiOf L i v w hw → PhiOf L i v w' hw'
  | [], _, i, v, w, hw, w', hw', _, h => by cases i <;> exact trivial
  | p :: ps, h, 0, v, w, hw, w', hw', e, hp => h.1 v w hw w' hw' e hp
  | p :: ps, h, i + 1, v, w, hw, w', hw', e, hp => stab_of (L := ps) h.2 i v w hw w' hw' e hp
def Aft (i : Nat) (dst : Option Nat) (Φ : Nat → Value → World → Hw → Prop) (σ σ' : Nat → Value) (w : World) (hw : Hw) : Prop :=
  match dst with
  | some d => (∀ t, t ≠ d → σ' t = σ t) ∧ Φ i (σ' d) w hw
  | none => σ' = σ
section
variable (P : Program) (l : List Oper) (Q : Exit → Act → World → Prop) (n : Nat) (σ : Nat → Value) (ds : List Nat)
  (Φ : Nat → Value → World → Hw → Prop) (I : (Nat → Bool) → (Nat → Value) → World → Hw → Prop)
def StepOf (NN : List (List Nat)) (i : Nat) (o : Oper) (js : List Nat) : Prop := ∀ D σ' w hw, I D σ' w hw → D i = false → HasAll l Φ D σ' w hw js → Same ds σ σ' → (∀ j, anc NN l.length i j = true → D j = true) → (∀ q, anc NN l.length q i = true → D q = false) →
  WL P l.toArray (Exit.then (fun a w' => ∃ σ'' hw', a = mkA n σ'' ∧ Ext w hw w' hw' ∧ I (up D i) σ'' w' hw' ∧ Aft i o.dst Φ σ' σ'' w' hw') Q) [o] (mkA n σ') w
def Steps_ (NN : List (List Nat)) : Nat → List Oper → List (List Nat) → Prop
  | i, o :: os, js :: N => StepOf P l Q n σ ds Φ I NN i o js ∧ Steps_ NN (i + 1) os N
  | _, _, _ => True
def EndAll (σ' : Nat → Value) (w : World) (hw : Hw) : Nat → List Oper → Prop
  | _, [] => True
  | i, o :: os => (match o.dst with
    | some d => Φ i (σ' d) w hw
    | none => True) ∧ EndAll σ' w hw (i + 1) os
end
section
variable {P : Program} {l : List Oper} {Q : Exit → Act → World → Prop} {n : Nat} {σ : Nat → Value} {ds : List Nat} {w : World} {hw : Hw}
  {Φ : Nat → Value → World → Hw → Prop} {I : (Nat → Bool) → (Nat → Value) → World → Hw → Prop}
theorem Steps_.at_ {NN : List (List Nat)} : ∀ {os : List Oper} {N : List (List Nat)} {i : Nat}, Steps_ P l Q n σ ds Φ I NN i os N → ∀ {j : Nat} {o : Oper} {js : List Nat}, os[j]? = some o → N[j]? = some js → StepOf P l Q n σ ds Φ I NN (i + j) o js
  | [], _, _, _, j, o, js, ho, _ => by simp at ho
  | _ :: _, [], _, _, j, o, js, _, hN => by simp at hN
  | p :: os, q :: N, i, h, 0, o, js, ho, hN => by
    have e1 : p = o := by simpa using ho
    have e2 : q = js := by simpa using hN
    subst e1; subst e2
    exact h.1
  | p :: os, q :: N, i, h, j + 1, o, js, ho, hN => by
    have := Steps_.at_ h.2 (j := j) (o := o) (js := js) (by simpa using ho) (by simpa using hN)
    rw [show i + (j + 1) = i + 1 + j by omega]
    exact this
theorem HasAll.mk {D : Nat → Bool} {σ' : Nat → Value} : ∀ {js : List Nat}, (∀ j ∈ js, D j = true ∧ Has l Φ σ' w hw j) → HasAll l Φ D σ' w hw js
  | [], _ => trivial
  | j :: js, h => ⟨h j (by simp), HasAll.mk fun q hq => h q (by simp [hq])⟩
theorem EndAll.mk {σ' : Nat → Value} : ∀ {os : List Oper} {i : Nat}, (∀ j o, os[j]? = some o → ∀ d, o.dst = some d → Φ (i + j) (σ' d) w hw) → EndAll Φ σ' w hw i os
  | [], _, _ => trivial
  | o :: os, i, h => by
    refine ⟨?_, EndAll.mk fun j p hp d hd => ?_⟩
    · have h0 := h 0 o rfl
      cases hd : o.dst with
      | none => trivial
      | some d => exact h0 d hd
    · have := h (j + 1) p (by simpa using hp) d hd
      rwa [show i + (j + 1) = i + 1 + j by omega] at this
theorem nin_mem {d : Nat} : ∀ {ds : List Nat}, d ∈ ds → nin ds d = false
  | [], h => by simp at h
  | e :: ds, h => by
    unfold nin
    rcases List.mem_cons.1 h with h | h
    · subst h; simp
    · rw [nin_mem h]; cases Nat.beq d e <;> rfl
theorem oper_then {J K K' : Act → World → Prop} {o : Oper} {a : Act} {w : World} (hK : ∀ a w, K a w → K' a w) (h : o.wp P a w K (Exit.then J Q)) : o.wp P a w K' Q := by
  unfold Oper.wp at *
  generalize (execOp a.eval o).run P w = r at *
  cases r with
  | ok nx w' =>
    cases nx <;> simp only [Oper.upon] at h ⊢ <;>
      first
        | exact hK _ _ h
        | exact Calls.mono h (fun e w'' he => by cases e <;> first | exact hK _ _ he | exact he)
        | exact Rows.mono h (fun _ _ he => hK _ _ he)
  | halt x w' => cases x <;> simp only [Oper.upon] at h ⊢ <;> exact h
theorem wpOp_of {ops : Array Oper} {J K : Act → World → Prop} {i : Nat} {o : Oper} {a : Act} {w : World} (ho : ops[i]? = some o) (h : wpList P ops (Exit.then J Q) [o] a w) (hK : ∀ a w, J a w → K a w) : wpOp P ops Q i K a w := by
  unfold wpOp
  rw [ho]
  unfold wpList at h
  dsimp only
  split
  · rename_i hw
    rw [if_pos hw] at h
    rcases h with h | h
    · exact .inl (oper_then (fun a w hh => hK a w hh) h)
    · exact .inr h
  · rename_i hw
    rw [if_neg hw] at h
    exact hK _ _ h
theorem getD_set_ne (a : Array Bool) {i j : Nat} (b x : Bool) (h : j ≠ i) : (a.setIfInBounds i b).getD j x = a.getD j x := by
  rw [Array.getD_eq_getD_getElem?, Array.getD_eq_getD_getElem?, Array.getElem?_setIfInBounds_ne (Ne.symm h)]
/-- Whatever order the tape gives. -/
theorem wc_any {id : Nat} (hm : P.follows .mixedOrders = true) (N : List (List Nat)) (ds : List Nat) (hok : anyOk l N ds = true) (Φ : Nat → Value → World → Hw → Prop) (I : (Nat → Bool) → (Nat → Value) → World → Hw → Prop)
    (hΦ : ∀ i v w hw w' hw', Ext w hw w' hw' → Φ i v w hw → Φ i v w' hw') (h0 : I (fun _ => false) σ w.drew hw)
    (hs : Steps_ P l Q n σ ds Φ I N 0 l N)
    (he : ∀ σ' w' hw', I (fun i => Nat.blt i l.length) σ' w' hw' → Same ds σ σ' → EndAll Φ σ' w' hw' 0 l → Q .normal (mkA n σ') w') :
    (Code.region id l.toArray true).wp P Q (mkA n σ) w := by
  simp only [anyOk, Bool.and_eq_true, beq_iff_eq, decide_eq_true_eq] at hok
  obtain ⟨⟨⟨hN, hds⟩, hnd⟩, hlt⟩ := hok
  have hsz : l.toArray.size = l.length := by simp
  have edge : ∀ i o, l[i]? = some o → ∀ e ∈ o.after.toList, Region.binds .any e = true → e.on < i := by
    intro i o ho e hme hb
    have h1 := List.all_eq_true.1 hlt (o, i) (by rw [List.mem_iff_getElem?]; exact ⟨i, by simp [ho]⟩)
    have h2 := Array.all_eq_true'.1 h1 e (by simpa using hme)
    simpa [hb] using h2
  have dne : ∀ (i : Nat) (o : Oper) (d j : Nat) (p : Oper) (q : Nat), l[i]? = some o → o.dst = some d → l[j]? = some p → p.dst = some q → i ≠ j → d ≠ q := by
    intro i o d j p q hi hd hj hq hij e
    subst e
    have key : ∀ (l : List Oper), (dstsOf l).Nodup → ∀ (i j : Nat) (o p : Oper), l[i]? = some o → o.dst = some d → l[j]? = some p → p.dst = some d → i = j := by
      intro l
      induction l with
      | nil => intro _ i j o p h; simp at h
      | cons x l ih =>
        intro hn i j o p hi hd hj hq
        have tl : (dstsOf l).Nodup := by
          cases hx : x.dst with
          | none => simpa [dstsOf, hx] using hn
          | some c => have : (c :: dstsOf l).Nodup := by simpa [dstsOf, hx] using hn
                      exact (List.nodup_cons.1 this).2
        have mem : ∀ (k : Nat) (y : Oper), l[k]? = some y → y.dst = some d → d ∈ dstsOf l := fun k y hk hy => List.mem_filterMap.2 ⟨y, List.mem_of_getElem? hk, hy⟩
        have hd0 : x.dst = some d → d ∉ dstsOf l := fun hx => by
          have : (d :: dstsOf l).Nodup := by simpa [dstsOf, hx] using hn
          exact (List.nodup_cons.1 this).1
        cases i with
        | zero =>
          have hx : x = o := by simpa using hi
          subst hx
          cases j with
          | zero => rfl
          | succ j => exact absurd (mem j p (by simpa using hj) hq) (hd0 hd)
        | succ i =>
          cases j with
          | zero =>
            have hx : x = p := by simpa using hj
            subst hx
            exact absurd (mem i o (by simpa using hi) hd) (hd0 hq)
          | succ j => exact congrArg (· + 1) (ih tl i j o p (by simpa using hi) hd (by simpa using hj) hq)
    exact hij (key l (by rw [hds]; exact hnd) i j o p hi hd hj hq)
  refine wp_region_any hm ?_
  have main : ∀ (fuel : Nat) (listed : Array Bool) (a : Act) (w : World), listed.size = l.length → ((List.range l.length).countP fun i => !listed.getD i true) ≤ fuel →
      (∃ σ' hw', a = mkA n σ' ∧ I (fun i => listed.getD i false) σ' w hw' ∧ Same ds σ σ' ∧ (∀ i o d, listed.getD i false = true → l[i]? = some o → o.dst = some d → Φ i (σ' d) w hw') ∧ ∀ q, listed.getD q false = true → ∀ m ∈ N.getD q [], listed.getD m false = true) →
      wpAny P .any l.toArray Q fuel listed a w := by
    intro fuel
    induction fuel with
    | zero =>
      rintro listed a w hls hc ⟨σ', hw', rfl, hI, hS, hP, hC⟩
      have all : ∀ i, i < l.length → listed.getD i true = true := by
        intro i hi
        have := List.countP_eq_zero.1 (Nat.le_zero.1 hc) i (List.mem_range.2 hi)
        simpa using this
      have allF : (fun i => listed.getD i false) = fun i => Nat.blt i l.length := by
        funext i
        rcases Nat.lt_or_ge i l.length with hi | hi
        · have h1 := all i hi
          have h2 : Nat.blt i l.length = true := by rw [Nat.blt_eq]; exact hi
          rw [h2]
          simp only [Array.getD, hls, hi, dite_true] at h1 ⊢
          exact h1
        · have h2 : Nat.blt i l.length = false := Bool.eq_false_iff.2 (by rw [ne_eq, Nat.blt_eq]; omega)
          rw [h2]
          simp [Array.getD, hls, Nat.not_lt.2 hi]
      refine ⟨?_, ?_⟩
      · unfold Region.ready
        rw [List.filter_eq_nil_iff]
        intro i hi
        rw [hsz] at hi
        rw [all i (List.mem_range.1 hi)]
        simp
      · rw [allF] at hI
        refine he σ' w hw' hI hS (EndAll.mk fun j o ho d hd => ?_)
        rw [Nat.zero_add]
        refine hP j o d ?_ ho hd
        have hj : j < l.length := (List.getElem?_eq_some_iff.1 ho).1
        have hj2 : listed.getD j false = Nat.blt j l.length := congrFun allF j
        rw [hj2, Nat.blt_eq]; exact hj
    | succ fuel ih =>
      rintro listed a w hls hc ⟨σ', hw', rfl, hI, hS, hP, hC⟩
      refine ⟨fun hr => ?_, fun i hi => ?_⟩
      · -- nothing is ready: all is listed
        have all : ∀ i, i < l.length → listed.getD i true = true := by
          intro i
          induction i using Nat.strongRecOn with
          | _ i ihi =>
            intro hil
            cases hb : listed.getD i true with
            | true => rfl
            | false =>
              exfalso
              have : i ∈ Region.ready .any l.toArray listed := by
                unfold Region.ready
                rw [List.mem_filter]
                refine ⟨by rw [hsz]; exact List.mem_range.2 hil, ?_⟩
                have ho : l.toArray[i]? = some l[i] := by simp [hil]
                rw [hb, ho]
                simp only [Bool.not_false, Option.map_some, Option.getD_some, Bool.true_and]
                rw [Array.all_eq_true']
                intro e hme
                cases hbe : Region.binds .any e with
                | false => rfl
                | true =>
                  have hlt := edge i l[i] (by simp [hil]) e (by simpa using hme) hbe
                  have h3 := ihi e.on hlt (by omega)
                  have h4 : listed.getD e.on false = true := by
                    simp only [Array.getD, hls, show e.on < l.length by omega, dite_true] at h3 ⊢
                    exact h3
                  rw [h4]; rfl
              rw [hr] at this
              simp at this
        have hc0 : ((List.range l.length).countP fun i => !listed.getD i true) ≤ 0 := by
          rw [Nat.le_zero, List.countP_eq_zero]
          intro i hi
          rw [all i (List.mem_range.1 hi)]; simp
        -- as in the first case
        have allF : (fun i => listed.getD i false) = fun i => Nat.blt i l.length := by
          funext i
          rcases Nat.lt_or_ge i l.length with hi | hi
          · have h1 := all i hi
            have h2 : Nat.blt i l.length = true := by rw [Nat.blt_eq]; exact hi
            rw [h2]
            simp only [Array.getD, hls, hi, dite_true] at h1 ⊢
            exact h1
          · have h2 : Nat.blt i l.length = false := Bool.eq_false_iff.2 (by rw [ne_eq, Nat.blt_eq]; omega)
            rw [h2]
            simp [Array.getD, hls, Nat.not_lt.2 hi]
        rw [allF] at hI
        refine he σ' w hw' hI hS (EndAll.mk fun j o ho d hd => ?_)
        rw [Nat.zero_add]
        refine hP j o d ?_ ho hd
        have hj : j < l.length := (List.getElem?_eq_some_iff.1 ho).1
        have hj2 : listed.getD j false = Nat.blt j l.length := congrFun allF j
        rw [hj2, Nat.blt_eq]; exact hj
      · unfold Region.ready at hi
        rw [List.mem_filter, hsz, List.mem_range] at hi
        obtain ⟨hil, hi2⟩ := hi
        have ho : l.toArray[i]? = some l[i] := by simp [hil]
        have hol : l[i]? = some l[i] := by simp [hil]
        rw [ho] at hi2
        simp only [Option.map_some, Option.getD_some, Bool.and_eq_true, Bool.not_eq_true'] at hi2
        obtain ⟨hun, hed⟩ := hi2
        have hNi : N[i]? = some (needsOf l[i]) := by rw [← hN]; simp [hil]
        have hst := Steps_.at_ hs hol hNi
        rw [Nat.zero_add] at hst
        have hDi : listed.getD i false = false := by
          simp only [Array.getD, hls, hil, dite_true] at hun ⊢
          exact hun
        have hneed : ∀ m ∈ N.getD i [], listed.getD m false = true := by
          intro j hj
          have hgi : N.getD i [] = needsOf l[i] := by rw [List.getD_eq_getElem?_getD, hNi]; rfl
          rw [hgi] at hj
          obtain ⟨e, he1, rfl⟩ := List.mem_map.1 hj
          rw [List.mem_filter] at he1
          have h2 := Array.all_eq_true'.1 hed e (by simpa using he1.1)
          simpa [he1.2] using h2
        have hwl := hst (fun i => listed.getD i false) σ' w hw' hI hDi (HasAll.mk fun j hj => by
          obtain ⟨e, he1, rfl⟩ := List.mem_map.1 hj
          rw [List.mem_filter] at he1
          have h2 := Array.all_eq_true'.1 hed e (by simpa using he1.1)
          have h3 : listed.getD e.on false = true := by simpa [he1.2] using h2
          refine ⟨h3, ?_⟩
          unfold Has
          cases hq : (l[e.on]?).bind (·.dst) with
          | none => trivial
          | some d =>
            obtain ⟨p, hp, hpd⟩ := Option.bind_eq_some_iff.1 hq
            exact hP e.on p d h3 hp hpd) hS (fun j hj => anc_done (D := fun i => listed.getD i false) hC _ i j hj hneed) (fun q hq => by
          cases hb : listed.getD q false with
          | false => rfl
          | true =>
            have := anc_done (D := fun i => listed.getD i false) hC _ q i hq (hC q hb)
            rw [hDi] at this
            cases this)
        refine wpOp_of ho hwl.out ?_
        rintro a2 w2 ⟨σ2, hw2, rfl, hext, hI2, haft⟩
        have hset : ∀ j, (listed.setIfInBounds i true).getD j false = up (fun i => listed.getD i false) i j := by
          intro j
          by_cases hji : j = i
          · subst hji
            rw [up_same]
            simp [Array.getD, hls, hil]
          · rw [up_other _ hji]
            exact getD_set_ne _ _ _ hji
        refine ih _ _ _ (by simpa using hls) ?_ ⟨σ2, hw2, rfl, ?_, ?_, ?_, ?_⟩
        · -- one less is to come
          have hlt2 : ((List.range l.length).countP fun j => !(listed.setIfInBounds i true).getD j true) < ((List.range l.length).countP fun j => !listed.getD j true) := by
            have himp : ∀ j, (!(listed.setIfInBounds i true).getD j true) = true → (!listed.getD j true) = true := by
              intro j hj
              by_cases hji : j = i
              · subst hji; simp [hun]
              · rw [getD_set_ne _ _ _ hji] at hj; exact hj
            have hmem : i ∈ List.range l.length := List.mem_range.2 hil
            have h1 : (!(listed.setIfInBounds i true).getD i true) = false := by simp [Array.getD, hls, hil]
            have h2 : (!listed.getD i true) = true := by rw [hun]; rfl
            have key : ∀ (L : List Nat), i ∈ L → (L.countP fun j => !(listed.setIfInBounds i true).getD j true) < (L.countP fun j => !listed.getD j true) := by
              intro L
              induction L with
              | nil => intro h; simp at h
              | cons x L ihL =>
                intro hx
                have hle : ∀ M : List Nat, (M.countP fun j => !(listed.setIfInBounds i true).getD j true) ≤ (M.countP fun j => !listed.getD j true) := fun M => List.countP_mono_left (fun j _ h => himp j h)
                by_cases hxi : x = i
                · subst hxi
                  rw [List.countP_cons_of_neg (p := fun j => !(listed.setIfInBounds x true).getD j true) (by rw [h1]; simp), List.countP_cons_of_pos (p := fun j => !listed.getD j true) h2]
                  exact Nat.lt_succ_of_le (hle L)
                · have hL := ihL ((List.mem_cons.1 hx).resolve_left (Ne.symm hxi))
                  by_cases hb : (!(listed.setIfInBounds i true).getD x true) = true
                  · rw [List.countP_cons_of_pos (p := fun j => !(listed.setIfInBounds i true).getD j true) hb, List.countP_cons_of_pos (p := fun j => !listed.getD j true) (himp x hb)]; omega
                  · rw [List.countP_cons_of_neg (p := fun j => !(listed.setIfInBounds i true).getD j true) hb]
                    have : (L.countP fun j => !listed.getD j true) ≤ ((x :: L).countP fun j => !listed.getD j true) := by rw [List.countP_cons]; omega
                    omega
            exact key _ hmem
          omega
        · have : (fun j => (listed.setIfInBounds i true).getD j false) = up (fun i => listed.getD i false) i := funext hset
          rw [this]; exact hI2
        · intro t ht
          cases hd : l[i].dst with
          | none =>
            rw [hd] at haft
            have e : σ2 = σ' := haft
            rw [e]; exact hS t ht
          | some d =>
            rw [hd] at haft
            have hmem : d ∈ ds := by rw [← hds]; exact List.mem_filterMap.2 ⟨l[i], List.getElem_mem hil, hd⟩
            rw [haft.1 t (fun e => by subst e; rw [nin_mem hmem] at ht; cases ht)]
            exact hS t ht
        · intro j p d hj hp hpd
          rw [hset j] at hj
          by_cases hji : j = i
          · subst hji
            have e : p = l[j] := by rw [hol] at hp; exact (Option.some.inj hp).symm
            subst e
            rw [hpd] at haft
            exact haft.2
          · rw [up_other _ hji] at hj
            have h1 := hP j p d hj hp hpd
            cases hd : l[i].dst with
            | none =>
              rw [hd] at haft
              have e : σ2 = σ' := haft
              rw [e]; exact hΦ _ _ _ _ _ _ hext h1
            | some c =>
              rw [hd] at haft
              rw [haft.1 d (dne j p d i l[i] c hp hpd hol hd hji)]
              exact hΦ _ _ _ _ _ _ hext h1
        · intro q hq m hm
          rw [hset] at hq ⊢
          by_cases hqi : q = i
          · subst hqi
            by_cases hmi : m = q
            · subst hmi; exact up_same _ _
            · rw [up_other _ hmi]; exact hneed m hm
          · rw [up_other _ hqi] at hq
            by_cases hmi : m = i
            · subst hmi; exact up_same _ _
            · rw [up_other _ hmi]; exact hC q hq m hm
  refine main _ _ _ _ (by simp) (by
    have : ((List.range l.length).countP fun i => !(Array.replicate l.toArray.size false).getD i true) ≤ (List.range l.length).length := List.countP_le_length
    simpa using this) ⟨σ, hw, rfl, ?_, Same.refl _ _, ?_, ?_⟩
  · have : (fun i => (Array.replicate l.toArray.size false).getD i false) = fun _ => false := by
      funext i
      simp [Array.getD]
    rw [this]
    exact h0
  · intro i o d hi
    simp [Array.getD] at hi
  · intro q hq
    simp [Array.getD] at hq
end
theorem bif_mp {c : Bool} {A B A' B' : Prop} (h1 : A → A') (h2 : B → B') (h : bif c then A else B) : bif c then A' else B' := by cases c <;> first | exact h1 h | exact h2 h
theorem bif_f {c : Bool} {A B : Prop} (hc : c = false) (h : bif c then A else B) : B := by subst hc; exact h
theorem bif_t {c : Bool} {A B : Prop} (hc : c = true) (h : bif c then A else B) : A := by subst hc; exact h
section
variable {P : Program} {l : List Oper} {Q : Exit → Act → World → Prop} {n : Nat} {σ : Nat → Value} {ds : List Nat} {w : World} {hw : Hw}
  {Φ : Nat → Value → World → Hw → Prop} {I : (Nat → Bool) → (Nat → Value) → World → Hw → Prop}
theorem stc {NN N : List (List Nat)} {i : Nat} {o : Oper} {os : List Oper} {js : List Nat} (h : StepOf P l Q n σ ds Φ I NN i o js) (k : Steps_ P l Q n σ ds Φ I NN (i + 1) os N) : Steps_ P l Q n σ ds Φ I NN i (o :: os) (js :: N) := ⟨h, k⟩
theorem stn {NN : List (List Nat)} {i : Nat} : Steps_ P l Q n σ ds Φ I NN i [] [] := trivial
theorem aft_some {i d : Nat} {v : Value} (h : Φ i v w hw) : Aft i (some d) Φ σ (upd σ d v) w hw := ⟨fun t ht => upd_other σ v ht, by rw [upd_same]; exact h⟩
theorem aft_none {i : Nat} : Aft i none Φ σ σ w hw := rfl
end
theorem sbc {p : Value → World → Hw → Prop} {ps : List (Value → World → Hw → Prop)} (h : Stab p) (k : StabAll ps) : StabAll (p :: ps) := ⟨h, k⟩
theorem sbn : StabAll [] := trivial
def blk : Value → Nat
  | .pointer (some a) => a.block
  | _ => 0
theorem bif_up {c : Bool} {A B : Prop} (hc : c = true) (h : A) : bif c then A else B := by subst hc; exact h
theorem row_cells {α : Type} {K : Kind α} {w : World} {hw : Hw} {v : Value} {xs : List α} (h : Row K w hw v xs) : v.cells = List.toArray [v] := by
  obtain ⟨A, c, rfl⟩ := h.slice; rfl
theorem cells_of {a v : Value} {l : List Value} (h : a = v) (hl : v.cells = l.toArray) : a.cells = l.toArray := by rw [h, hl]
theorem bif_no {c : Bool} {A B : Prop} (hc : c = false) (h : B) : bif c then A else B := by subst hc; exact h
/-- A guard that has been skipped itself. -/
theorem yu {ops : Array Oper} {n : Nat} {σ : Nat → Value} {j d : Nat} (hd : (ops[j]?).bind (·.dst) = some d) (hlt : Nat.blt d n = true) (hv : σ d = undef) : yielded ops (mkA n σ).tmps j = none := by
  have hlt' : d < n := by simpa [Nat.blt_eq] using hlt
  unfold yielded mkA
  simp [hd, hlt', hv, undef]
section
variable {P : Program} {ops : Array Oper} {Q : Exit → Act → World → Prop} {n : Nat} {σ : Nat → Value} {w : World} {rest : List Oper}
theorem wl_offu {d : Nat} {op : Op} {ty : TypeId} {pos : String} {after : Array Edge} {j : Nat} {want : Bool} (hy : yielded ops (mkA n σ).tmps j = none)
    (k : WL P ops Q rest (mkA n (upd σ d undef)) w) : WL P ops Q (⟨some d, op, ty, pos, after, some (j, want)⟩ :: rest) (mkA n σ) w := by
  refine ⟨wpList_skip (by simp [Region.wanted, hy]) ?_⟩
  rw [mkA_put]
  exact k.out
theorem wl_offu0 {op : Op} {ty : TypeId} {pos : String} {after : Array Edge} {j : Nat} {want : Bool} (hy : yielded ops (mkA n σ).tmps j = none)
    (k : WL P ops Q rest (mkA n σ) w) : WL P ops Q (⟨none, op, ty, pos, after, some (j, want)⟩ :: rest) (mkA n σ) w := by
  refine ⟨wpList_skip (by simp [Region.wanted, hy]) ?_⟩
  exact k.out
end
/-- Two rows of the call's own in two blocks. -/
def Dis (u v : Value) : Prop := ∀ b, u.ownBlock = some b → v.ownBlock ≠ some b
theorem Dis.symm {u v : Value} (h : Dis u v) : Dis v u := fun b hb hu => h b hu hb
theorem Dis.nil_r (u : Value) : Dis u (.slice none 0 0) := fun b _ => by simp [Value.ownBlock]
theorem Dis.nil_l (u : Value) : Dis (.slice none 0 0) u := (Dis.nil_r u).symm
section
variable {α β : Type} {K : Kind α} {K' : Kind β} {e e' : TypeId} {N0 N1 : Nat} {w w' : World} {hw hw' : Hw} {u v v' : Value} {xs : List α} {ys : List β}
theorem Own.stepo (h : Own K e N0 w hw u xs) (s : Stp v.ownBlock w hw w' hw') (d : Dis u v) : Own K e N0 w' hw' u xs := h.step s (by
  cases hb : u.ownBlock with
  | none => exact .inl rfl
  | some b => exact .inr (fun hv => d b hb hv.symm))
theorem own_dis_new (h : Own K e w.heap.size w' hw' v xs) (q : Own K' e' N1 w hw u ys) : Dis u v := fun b hb hv => by
  have := (q.new b hb).2
  have := (h.new b hv).1
  omega
theorem app_dis (lo : v'.ownBlock = v.ownBlock ∨ v'.ownBlock = some w.heap.size) (d : Dis u v) (q : Own K' e' N1 w hw u ys) : Dis u v' := fun b hb hv => by
  rcases lo with h | h
  · exact d b hb (by rw [← h]; exact hv)
  · have := (q.new b hb).2
    rw [hv] at h
    have := Option.some.inj h
    omega
end
end Go.Proofs.YtlaifpbickdpkaaDoor
