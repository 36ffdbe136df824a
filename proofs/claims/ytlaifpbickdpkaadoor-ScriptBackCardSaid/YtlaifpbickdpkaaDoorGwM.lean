/- GwM: maps of the call's own, with int keys (own work). -/
import Derived.Test.YtlaifpbickdpkaaDoorGwH
import Derived.Maps.RangeWalk
import Derived.Maps.Views
namespace Go.Proofs.YtlaifpbickdpkaaDoor
open Go.RowKit
set_option linter.unusedVariables false
set_option linter.unusedSimpArgs false

abbrev DM := DataW Unit
/-- What a map of ints has at a key. -/
def mint (D : DM) (x : Int) : Int := match D.atKey (.int .i64 x) (.lit (.int .i64 0)) with | .lit (.int _ c) => c | _ => 0
/-- What a map of texts has at a key. -/
def mstr (D : DM) (x : Int) : List UInt8 := match D.atKey (.int .i64 x) (.lit (.string [])) with | .lit (.string s) => s | _ => []
def i64ok (x : Int) : Prop := (Lit.int .i64 x).wf = true
instance (x : Int) : Decidable (i64ok x) := inferInstanceAs (Decidable (_ = true))
def mputi (D : DM) (x c : Int) : DM := D.put (.int .i64 x) (.lit (.int .i64 c))
def mputs (D : DM) (x : Int) (s : List UInt8) : DM := D.put (.int .i64 x) (.lit (.string s))
/-- Is every value zero? -/
def mall0 : DM → Bool
  | .map es => es.all fun p => match p.2 with | .lit (.int _ c) => c == 0 | _ => false
  | _ => false
structure OwnM (P : Program) (k e : TypeId) (N0 : Nat) (w : World) (hw : Hw) (b : Nat) (D : DM) : Prop where
  own : w.ownsMap P k (plainElem P e) b (Maps.size D) D
  z : hw b = 0
  new : N0 ≤ b
section
variable {P : Program} {k e : TypeId} {N0 : Nat} {w w' : World} {hw hw' : Hw} {b b' : Nat} {D : DM} {row : Option Nat}
theorem owns_exact {R : Value → Option (DM × List MemPlace)} {n : Nat} (h : w.ownsMap P k R b n D) : w.ownsMap P k R b (Maps.size D) D := by
  obtain ⟨es, clock, hb, F, hs, rfl⟩ := h
  refine ⟨es, clock, hb, F, ?_, rfl⟩
  show es.size ≤ List.length _
  rw [length_sorted]
  simp
theorem OwnM.lt (h : OwnM P k e N0 w hw b D) : b < w.heap.size := h.own.lt
theorem OwnM.step (h : OwnM P k e N0 w hw b D) (s : Stp row w hw w' hw') (hne : some b ≠ row) : OwnM P k e N0 w' hw' b D :=
  ⟨h.own.kept s.g hne, by rw [s.keep b h.lt hne]; exact h.z, h.new⟩
theorem OwnM.step0 (h : OwnM P k e N0 w hw b D) (s : Stp none w hw w' hw') : OwnM P k e N0 w' hw' b D := h.step s (by simp)
theorem OwnM.stepb (h : OwnM P k e N0 w hw b D) (s : Stp (some b') w hw w' hw') (hne : b ≠ b') : OwnM P k e N0 w' hw' b D := h.step s (fun e => hne (Option.some.inj e))
theorem OwnM.ne (h : OwnM P k e N0 w hw b D) {c : Nat} (hc : w.heap.size ≤ c) : b ≠ c := by have := h.lt; omega
theorem own_new_lt {α : Type} {K : Kind α} {xs : List α} {v : Value} {e : TypeId} {b : Nat} (h : Own K e w.heap.size w' hw' v xs) (B : b < w.heap.size) : v.ownBlock ≠ some b := fun hg => by
  have := (h.new b hg).1
  omega
theorem app_lt {v v' : Value} {b : Nat} (h : v'.ownBlock = v.ownBlock ∨ v'.ownBlock = some w.heap.size) (hn : v.ownBlock ≠ some b) (B : b < w.heap.size) : v'.ownBlock ≠ some b := fun hg => by
  rcases h with h | h
  · exact hn (by rw [← h]; exact hg)
  · rw [h] at hg
    have := Option.some.inj hg
    omega
end
section
variable {P : Program} {ops : Array Oper} {Q : Exit → Act → World → Prop} {n : Nat} {σ : Nat → Value} {w : World} {hw : Hw} {rest : List Oper}
variable {d : Nat} {x y z : Operand} {t t2 ty : TypeId} {pos : String} {after : Array Edge} {N0 b : Nat} {D : DM} {k e : TypeId} {a c : Int}
theorem wl_makemap (hwf : Hwf w hw) (hN : N0 ≤ w.heap.size) (k e : TypeId) (KK : ∀ B w', Stp none w hw w' hw → OwnM P k e N0 w' hw B (.map []) → w.heap.size ≤ B → WL P ops Q rest (mkA n (upd σ d (.map (some B)))) w') :
    WL P ops Q (⟨some d, .makeMap t none, ty, pos, after, none⟩ :: rest) (mkA n σ) w :=
  wl_val (v := .map (some w.heap.size)) (w' := w.alloc (.map #[] 0)) (by simp [execOp, run_makeMap]) (KK _ _ (Stp.alloc hwf _) ⟨World.ownsMap_made _ _ _ _, hwf _ (Nat.le_refl _), hN⟩ (Nat.le_refl _))
theorem wl_looki (hm : OwnM P k e N0 w hw b D) (ht : P.underlying t = some (.map k e)) (hk : P.underlying k = some (.int .i64)) (he : P.underlying e = some (.int .i64)) {sz bytes : Nat} {agg : Bool} (hT : Ty P e sz bytes agg (.int .i64 0)) (hx : ev n σ x = .map (some b)) (hy : ev n σ y = .int .i64 a) (ha : i64ok a)
    (KK : WL P ops Q rest (mkA n (upd σ d (.int .i64 (mint D a)))) w) : WL P ops Q (⟨some d, .lookup t x y false, ty, pos, after, none⟩ :: rest) (mkA n σ) w := by
  obtain ⟨c, hrun, hat, _⟩ := hm.own.lookup_int (Maps.int_keyed hk) ht he (hT.zero w) (Maps.keyOf_int_mk hk ha)
  have e1 : mint D a = c := by unfold mint; rw [hat]
  rw [e1] at KK
  exact wl_val (v := .int .i64 c) (w' := w) (by simp [execOp, hx, hy, hrun]) KK
theorem plainElem_string_inv {P : Program} {e : TypeId} (he : P.underlying e = some .string) {v : Value} {z : DM × List MemPlace} (h : plainElem P e v = some z) : ∃ s, v = .string s ∧ z = (.lit (.string s.data.toList), []) := by
  unfold plainElem at h
  rw [he] at h
  cases v <;> simp at h
  obtain ⟨_, rfl⟩ := h
  exact ⟨_, rfl, rfl⟩
theorem wl_looks (hm : OwnM P k e N0 w hw b D) (ht : P.underlying t = some (.map k e)) (hk : P.underlying k = some (.int .i64)) (he : P.underlying e = some .string) {sz bytes : Nat} {agg : Bool} (hT : Ty P e sz bytes agg (.string ⟨#[]⟩)) (hx : ev n σ x = .map (some b)) (hy : ev n σ y = .int .i64 a) (ha : i64ok a)
    (KK : WL P ops Q rest (mkA n (upd σ d (.string (bs (mstr D a))))) w) : WL P ops Q (⟨some d, .lookup t x y false, ty, pos, after, none⟩ :: rest) (mkA n σ) w := by
  obtain ⟨v, ps, hrun, hv⟩ := hm.own.lookup (Maps.int_keyed hk) ht (hT.zero w) (plainElem_string he (by decide)) (Maps.keyOf_int_mk hk ha)
  obtain ⟨s, rfl, hz⟩ := plainElem_string_inv he hv
  have e0 : D.atKey (.int .i64 a) (.lit (.string [])) = .lit (.string s.data.toList) := congrArg Prod.fst hz
  have e1 : bs (mstr D a) = s := by unfold mstr; rw [e0]; exact bs_data s
  rw [e1] at KK
  exact wl_val (v := .string s) (w' := w) (by simp [execOp, hx, hy, hrun]) KK
theorem wl_puti (hm : OwnM P k e N0 w hw b D) (hwf : Hwf w hw) (ht : P.underlying t = some (.map k e)) (hk : P.underlying k = some (.int .i64)) (he : P.underlying e = some (.int .i64)) (hx : ev n σ x = .map (some b)) (hy : ev n σ y = .int .i64 a) (hz : ev n σ z = .int .i64 c) (ha : i64ok a) (hc : i64ok c) (hsz : Maps.size D < 9223372036854775807)
    (KK : ∀ w', Stp (some b) w hw w' hw → OwnM P k e N0 w' hw b (mputi D a c) → WL P ops Q rest (mkA n σ) w') : WL P ops Q (⟨none, .mapUpdate t x y z, ty, pos, after, none⟩ :: rest) (mkA n σ) w := by
  obtain ⟨w', hrun, how, hg⟩ := hm.own.update (Maps.int_keyed hk) ht (by simpa [maxLen] using hsz) (Maps.keyOf_int_mk hk ha) (plainElem_int he hc)
  have st : Stp (some b) w hw w' hw := Stp.mk_same hg hwf (fun b' hb => by cases hb; exact hm.z)
  exact wl_skip0 (w' := w') (by simp [execOp, hx, hy, hz, hrun]) (KK w' st ⟨owns_exact how, hm.z, hm.new⟩)
theorem wl_puts {l : List UInt8} (hm : OwnM P k e N0 w hw b D) (hwf : Hwf w hw) (ht : P.underlying t = some (.map k e)) (hk : P.underlying k = some (.int .i64)) (he : P.underlying e = some .string) (hx : ev n σ x = .map (some b)) (hy : ev n σ y = .int .i64 a) (hz : ev n σ z = .string (bs l)) (ha : i64ok a) (hc : l.length ≤ 9223372036854775807) (hsz : Maps.size D < 9223372036854775807)
    (KK : ∀ w', Stp (some b) w hw w' hw → OwnM P k e N0 w' hw b (mputs D a l) → WL P ops Q rest (mkA n σ) w') : WL P ops Q (⟨none, .mapUpdate t x y z, ty, pos, after, none⟩ :: rest) (mkA n σ) w := by
  have hv : plainElem P e (.string (bs l)) = some ((.lit (.string l) : DM), []) := by
    rw [plainElem_string he (by rw [bs_size]; simpa [maxLen] using hc)]; simp [bs]
  obtain ⟨w', hrun, how, hg⟩ := hm.own.update (Maps.int_keyed hk) ht (by simpa [maxLen] using hsz) (Maps.keyOf_int_mk hk ha) hv
  have st : Stp (some b) w hw w' hw := Stp.mk_same hg hwf (fun b' hb => by cases hb; exact hm.z)
  exact wl_skip0 (w' := w') (by simp [execOp, hx, hy, hz, hrun]) (KK w' st ⟨owns_exact how, hm.z, hm.new⟩)
/-- range m. -/
theorem wl_range (hm : OwnM P k e N0 w hw b D) (hwf : Hwf w hw) (ht : P.underlying t = some (.map k e)) (hk : P.underlying k = some (.int .i64)) (hx : ev n σ x = .map (some b))
    (KK : ∀ r w', w'.ranges P k (plainElem P e) b r (Maps.size D) D (Maps.has D) (Maps.size D) → Stp none w hw w' hw → w.heap.size ≤ r → hw r = 0 → WL P ops Q rest (mkA n (upd σ d (.pointer (some ⟨r, 0, none⟩)))) w') :
    WL P ops Q (⟨some d, .range t x, ty, pos, after, none⟩ :: rest) (mkA n σ) w := by
  obtain ⟨w', hrun, hr, hg, _⟩ := hm.own.range (Maps.int_keyed hk) ht
  exact wl_val (w' := w') (by simp [execOp, hx, hrun]) (KK _ w' hr (Stp.mk_same hg hwf (by simp)) (Nat.le_refl _) (hwf _ (Nat.le_refl _)))
/-- The step. -/
theorem wl_nexti {r m cnt : Nat} {left : Lit → Bool} (h : w.ranges P k (plainElem P e) b r m D left cnt) (hwf : Hwf w hw) (hr : hw r = 0) (hk : P.underlying k = some (.int .i64)) (he : P.underlying e = some (.int .i64)) (hx : ev n σ x = .pointer (some ⟨r, 0, none⟩))
    (k0 : (∀ kl, left kl = false) → WL P ops Q rest (mkA n (upd σ d (.tuple (List.toArray [.bool false])))) w)
    (k1 : ∀ a c w' cnt', (∀ zd, D.atKey (.int .i64 a) zd = .lit (.int .i64 c)) → w'.ranges P k (plainElem P e) b r m D (fun z => left z && !z.sameKey (.int .i64 a)) cnt' → cnt' < cnt → Stp (some r) w hw w' hw →
      (Instr.entry (.pointer (some ⟨r, 0, none⟩))).run P w' = .ok (.tuple (List.toArray [.int .i64 a, .int .i64 c])) w' → WL P ops Q rest (mkA n (upd σ d (.tuple (List.toArray [.bool true, .int .i64 a, .int .i64 c])))) w') :
    WL P ops Q (⟨some d, .next x false, ty, pos, after, none⟩ :: rest) (mkA n σ) w := by
  rcases h.next (Maps.int_keyed hk) ty with ⟨h0, hl, hrun⟩ | ⟨key, v, kl, y, w', cnt', hkey, hlk, hv, hat, hrun, hrg, hlt, hgr, hsz, hen⟩
  · exact wl_val (w' := w) (by simp [execOp, hx, hrun]) (k0 hl)
  · obtain ⟨x', rfl, rfl, hw1⟩ := Maps.keyOf_int_inv hk hkey
    obtain ⟨c, rfl, rfl, _⟩ := plainElem_int_inv he hv
    exact wl_val (w' := w') (by simp [execOp, hx, hrun]) (k1 x' c w' cnt' hat hrg hlt (Stp.mk_same hgr hwf (fun b' hb => by cases hb; exact hr)) hen)
theorem wl_entry {r : Nat} {vs : List Value} (hx : ev n σ x = .pointer (some ⟨r, 0, none⟩)) (h : (Instr.entry (.pointer (some ⟨r, 0, none⟩))).run P w = .ok (.tuple vs.toArray) w) (KK : WL P ops Q rest (mkA n (upd σ d (.tuple vs.toArray))) w) :
    WL P ops Q (⟨some d, .entry x, ty, pos, after, none⟩ :: rest) (mkA n σ) w :=
  wl_val (w' := w) (by simp [execOp, hx, h]) KK
end
def entriesOf : DM → List (Lit × DM)
  | .map es => es
  | _ => []
/-- All that a walk over the map has seen so far is zero. -/
def Seen0 (D : DM) (left : Lit → Bool) : Prop := ∀ p ∈ entriesOf D, left p.1 = false → p.2 = .lit (.int .i64 0)
theorem seen0_start (D : DM) (hk : ∀ p ∈ entriesOf D, WideAt.IsKeyLit p.1) : Seen0 D (Maps.has D) := by
  intro p hp hl
  exfalso
  cases D <;> simp [entriesOf] at hp
  rename_i es
  have : Maps.has (.map es) p.1 = true := by
    rw [Maps.has_eq, List.any_eq_true]
    exact ⟨p, hp, WideAt.sameKey_self (hk p hp)⟩
  rw [this] at hl; cases hl
theorem seen0_step {D : DM} {left : Lit → Bool} {a : Int} (h : Seen0 D left) (hn : (entriesOf D).Pairwise (fun p q => p.1 ≠ q.1)) (hk : ∀ p ∈ entriesOf D, WideAt.IsKeyLit p.1) (hat : ∀ zd, D.atKey (.int .i64 a) zd = .lit (.int .i64 0)) : Seen0 D (fun z => left z && !z.sameKey (.int .i64 a)) := by
  intro p hp hl
  cases hb : left p.1 with
  | false => exact h p hp hb
  | true =>
    have hs : p.1.sameKey (.int .i64 a) = true := by simpa [hb] using hl
    have hpk := WideAt.sameKey_eq hs
    have h0 := hat .nil
    cases D <;> simp [entriesOf] at hp
    rename_i es
    simp only [DataW.atKey] at h0
    have hfind : ∃ q, es.find? (fun p => p.1.sameKey (.int .i64 a)) = some q := by
      cases hf : es.find? (fun p => p.1.sameKey (.int .i64 a)) with
      | some q => exact ⟨q, rfl⟩
      | none => exact absurd hs (by simpa using List.find?_eq_none.1 hf p hp)
    obtain ⟨q, hq⟩ := hfind
    rw [hq] at h0
    have hqm := List.mem_of_find?_eq_some hq
    have hqk := WideAt.sameKey_eq (List.find?_some (p := fun p : Lit × DM => p.1.sameKey (.int .i64 a)) hq)
    have hpq : p = q := by
      have key : ∀ l : List (Lit × DM), l.Pairwise (fun p q => p.1 ≠ q.1) → p ∈ l → q ∈ l → p = q := by
        intro l
        induction l with
        | nil => intro _ h; simp at h
        | cons x l ih =>
          intro hpw hp hq
          obtain ⟨h1, h2⟩ := List.pairwise_cons.1 hpw
          rcases List.mem_cons.1 hp with e1 | hp2
          · rcases List.mem_cons.1 hq with e2 | hq2
            · exact e1.trans e2.symm
            · exact absurd (e1 ▸ (hpk.trans hqk.symm)) (h1 q hq2)
          · rcases List.mem_cons.1 hq with e2 | hq2
            · exact absurd (e2 ▸ (hqk.trans hpk.symm)) (h1 p hp2)
            · exact ih h2 hp2 hq2
      exact key es hn hp hqm
    rw [hpq]; exact h0
theorem seen0_all {D : DM} {left : Lit → Bool} (h : Seen0 D left) (hl : ∀ kl, left kl = false) (hm : ∃ es, D = .map es) : mall0 D = true := by
  obtain ⟨es, rfl⟩ := hm
  unfold mall0
  rw [List.all_eq_true]
  intro p hp
  have e : p.2 = .lit (.int .i64 0) := h p hp (hl _)
  simp [e]
theorem not_all0 {D : DM} {a c : Int} (hat : ∀ zd, D.atKey (.int .i64 a) zd = .lit (.int .i64 c)) (hc : c ≠ 0) : mall0 D = false := by
  have h0 := hat .nil
  cases D <;> simp only [DataW.atKey] at h0 <;> try cases h0
  rename_i es
  cases hf : es.find? (fun p => p.1.sameKey (.int .i64 a)) with
  | none => rw [hf] at h0; cases h0
  | some q =>
    rw [hf] at h0
    refine Bool.eq_false_iff.2 fun hall => hc ?_
    have := List.all_eq_true.1 hall q (List.mem_of_find?_eq_some hf)
    rw [show q.2 = .lit (.int .i64 c) from h0] at this
    simpa using this
end Go.Proofs.YtlaifpbickdpkaaDoor
