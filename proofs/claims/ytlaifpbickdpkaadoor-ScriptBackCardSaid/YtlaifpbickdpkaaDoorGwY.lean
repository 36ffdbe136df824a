/- GwY: maps with int keys and elements of any plain type, frozen: read, looked up, ranged over (own work). -/
import Derived.Test.YtlaifpbickdpkaaDoorGwX
namespace Go.Proofs.YtlaifpbickdpkaaDoor
open Go.RowKit
set_option linter.unusedVariables false
set_option linter.unusedSimpArgs false

abbrev DV := DataW Value
def heldR (v : Value) : Option (DV × List MemPlace) := some (.held v, [])
def mkD {T : Type} (enc : T → Value) (l : List (Int × T)) : List (Lit × DV) := l.map fun p => (.int .i64 p.1, .held (enc p.2))
def mfind {T : Type} (l : List (Int × T)) (x : Int) : Option T := (l.find? fun p => p.1 == x).map (·.2)
section
variable {T : Type} {enc : T → Value} {l : List (Int × T)}
theorem sk_int (a b : Int) : (Lit.int .i64 a).sameKey (.int .i64 b) = (a == b) := by
  unfold Lit.sameKey
  by_cases h : a = b
  · subst h; simp
  · simp [h]
theorem atK (x : Int) (zd : DV) : (DataW.map (mkD enc l)).atKey (.int .i64 x) zd = match mfind l x with | some s => .held (enc s) | none => zd := by
  unfold DataW.atKey mfind mkD
  dsimp only
  induction l with
  | nil => rfl
  | cons p l ih =>
    rw [List.map_cons, List.find?_cons, List.find?_cons, sk_int]
    cases hb : (p.1 == x) with
    | true => rfl
    | false => exact ih
theorem hasK {x : Int} {s : T} (h : mfind l x = some s) : Maps.has (DataW.map (mkD enc l)) (.int .i64 x) = true := by
  obtain ⟨p, hp, rfl⟩ := Option.map_eq_some_iff.1 h
  rw [Maps.has_eq, List.any_eq_true]
  refine ⟨(.int .i64 p.1, .held (enc p.2)), List.mem_map.2 ⟨p, List.mem_of_find?_eq_some hp, rfl⟩, ?_⟩
  show (Lit.int .i64 p.1).sameKey (.int .i64 x) = true
  rw [sk_int]
  exact List.find?_some (p := fun p : Int × T => p.1 == x) hp
theorem mfind_mem {p : Int × T} (h : p ∈ l) : ∃ s, mfind l p.1 = some s := by
  cases hf : l.find? (fun q => q.1 == p.1) with
  | some q => exact ⟨q.2, by unfold mfind; rw [hf]; rfl⟩
  | none => exact absurd (List.find?_eq_none.1 hf p h) (by simp)
theorem mfind_key {x : Int} {s : T} (h : mfind l x = some s) : ∃ p ∈ l, p.1 = x := by
  obtain ⟨p, hp, _⟩ := Option.map_eq_some_iff.1 h
  exact ⟨p, List.mem_of_find?_eq_some hp, by simpa using List.find?_some (p := fun p : Int × T => p.1 == x) hp⟩
end
/-- A range over a map whose rounds turn nothing: each goes on, or hands back; no more than one hands back. -/
def mapRun {T R : Type} (l : List (Int × T)) (B : Int → T → Option (Option R)) (rest : Option R) : Option R :=
  if (l.all fun p => ((mfind l p.1).bind (B p.1)).isSome) = true then
    match l.filterMap fun p => ((mfind l p.1).bind (B p.1)).getD none with
    | [] => rest
    | [r] => some r
    | _ => none
  else none
section
variable {T R : Type} {l : List (Int × T)} {B : Int → T → Option (Option R)} {rest : Option R} {r : R}
theorem mapRun_at (h : mapRun l B rest = some r) {x : Int} {s : T} (hm : mfind l x = some s) : ∃ q, B x s = some q ∧ (q = none ∨ q = some r) := by
  unfold mapRun at h
  split at h
  · rename_i hall
    obtain ⟨p, hp, rfl⟩ := mfind_key hm
    have h1 := List.all_eq_true.1 hall p hp
    rw [hm] at h1
    obtain ⟨q, hq⟩ := Option.isSome_iff_exists.1 h1
    have hq' : B p.1 s = some q := hq
    refine ⟨q, hq', ?_⟩
    cases q with
    | none => exact .inl rfl
    | some r' =>
      have hin : r' ∈ l.filterMap fun p => ((mfind l p.1).bind (B p.1)).getD none := List.mem_filterMap.2 ⟨p, hp, by rw [hm]; show (B p.1 s).getD none = _; rw [hq']; rfl⟩
      right
      split at h
      · rename_i e; rw [e] at hin; simp at hin
      · rename_i r2 e; rw [e] at hin; rw [← h]; simpa using hin
      · cases h
  · cases h
theorem mapRun_end (h : mapRun l B rest = some r) (hs : ∀ x s, mfind l x = some s → B x s = some none) : rest = some r := by
  unfold mapRun at h
  split at h
  · have e : (l.filterMap fun p => ((mfind l p.1).bind (B p.1)).getD none) = [] := by
      rw [List.filterMap_eq_nil_iff]
      intro p hp
      obtain ⟨s, hm⟩ := mfind_mem hp
      rw [hm]
      show (B p.1 s).getD none = none
      rw [hs _ _ hm]; rfl
    rw [e] at h
    exact h
  · cases h
/-- What a round that hands back hands back. -/
theorem mret {v : R} {q : Option R} (hq : q = none ∨ q = some r) (h : some (some v) = some q) : some v = some r := by
  rcases hq with rfl | rfl
  · cases h
  · exact Option.some.inj h
theorem mcont {x : Int} {s : T} {q : Option R} (hB : B x s = some q) (h : some none = some q) : B x s = some none := by rw [hB, ← h]
def SeenM (l : List (Int × T)) (B : Int → T → Option (Option R)) (left : Lit → Bool) : Prop := ∀ x s, mfind l x = some s → left (.int .i64 x) = false → B x s = some none
theorem SeenM.start {enc : T → Value} : SeenM l B (Maps.has (DataW.map (mkD enc l))) := fun x s hm hl => by rw [hasK hm] at hl; cases hl
theorem SeenM.next {left : Lit → Bool} {x : Int} {s : T} (h : SeenM l B left) (hm : mfind l x = some s) (hb : B x s = some none) : SeenM l B (fun z => left z && !z.sameKey (.int .i64 x)) := fun y u hu hl => by
  cases hb2 : left (.int .i64 y) with
  | false => exact h y u hu hb2
  | true =>
    have hl : (left (.int .i64 y) && !(Lit.int .i64 y).sameKey (.int .i64 x)) = false := hl
    rw [hb2, sk_int] at hl
    have : y = x := by simpa using hl
    subst this
    rw [hm] at hu
    cases hu
    exact hb
theorem SeenM.all {left : Lit → Bool} (h : SeenM l B left) (hl : ∀ kl, left kl = false) : ∀ x s, mfind l x = some s → B x s = some none := fun x s hm => h x s hm (hl _)
end
/-- A map of the call's own that is being laid. -/
structure OwnML {T : Type} (P : Program) (k : TypeId) (enc : T → Value) (N0 : Nat) (w : World) (hw : Hw) (b : Nat) (l : List (Int × T)) : Prop where
  own : w.ownsMap P k heldR b l.length (.map (mkD enc l))
  z : hw b = 0
  new : N0 ≤ b
/-- A map that no one writes any more. -/
def MapR {T : Type} (P : Program) (k : TypeId) (enc : T → Value) (w : World) (hw : Hw) (v : Value) (l : List (Int × T)) : Prop :=
  ∃ b, v = .map (some b) ∧ 0 < hw b ∧ w.ownsMap P k heldR b l.length (.map (mkD enc l))
/-- An iterator over such a map. -/
def IterL {T : Type} (P : Program) (k : TypeId) (enc : T → Value) (N0 : Nat) (w : World) (hw : Hw) (r : Nat) (l : List (Int × T)) (left : Lit → Bool) (cnt : Nat) : Prop :=
  hw r = 0 ∧ N0 ≤ r ∧ ∃ b, 0 < hw b ∧ w.ranges P k heldR b r l.length (.map (mkD enc l)) left cnt
section
variable {T : Type} {P : Program} {k : TypeId} {enc : T → Value} {N0 : Nat} {w w' : World} {hw hw' : Hw} {b b' : Nat} {l : List (Int × T)} {row : Option Nat} {v : Value} {r cnt : Nat} {left : Lit → Bool}
theorem OwnML.lt (h : OwnML P k enc N0 w hw b l) : b < w.heap.size := h.own.lt
theorem OwnML.step (h : OwnML P k enc N0 w hw b l) (s : Stp row w hw w' hw') (hne : some b ≠ row) : OwnML P k enc N0 w' hw' b l :=
  ⟨h.own.kept s.g hne, by rw [s.keep b h.lt hne]; exact h.z, h.new⟩
theorem OwnML.step0 (h : OwnML P k enc N0 w hw b l) (s : Stp none w hw w' hw') : OwnML P k enc N0 w' hw' b l := h.step s (by simp)
theorem OwnML.stepb (h : OwnML P k enc N0 w hw b l) (s : Stp (some b') w hw w' hw') (hne : b ≠ b') : OwnML P k enc N0 w' hw' b l := h.step s (fun e => hne (Option.some.inj e))
theorem OwnML.ne (h : OwnML P k enc N0 w hw b l) {c : Nat} (hc : w.heap.size ≤ c) : b ≠ c := by have := h.lt; omega
theorem OwnML.freeze (h : OwnML P k enc N0 w hw b l) (hwf : Hwf w hw) : MapR P k enc w (raise hw b 1) (.map (some b)) l ∧ Stp (some b) w hw w (raise hw b 1) :=
  ⟨⟨b, rfl, raise_same hw b 1, h.own⟩, Stp.raise hwf b 1 h.lt⟩
theorem MapR.ext (e : Ext w hw w' hw') (h : MapR P k enc w hw v l) : MapR P k enc w' hw' v l := by
  obtain ⟨b, rfl, hb, es, c, h1, F, hs, hD⟩ := h
  exact ⟨b, rfl, Nat.lt_of_lt_of_le hb (e.mono b), es, c, e.maps b es c hb h1, F, hs, hD⟩
theorem IterL.lt (h : IterL P k enc N0 w hw r l left cnt) : r < w.heap.size := by obtain ⟨_, _, b, _, hr⟩ := h; exact hr.lt
theorem IterL.z (h : IterL P k enc N0 w hw r l left cnt) : hw r = 0 := h.1
theorem IterL.new (h : IterL P k enc N0 w hw r l left cnt) : N0 ≤ r := h.2.1
theorem IterL.step (h : IterL P k enc N0 w hw r l left cnt) (s : Stp row w hw w' hw') (hne : some r ≠ row) : IterL P k enc N0 w' hw' r l left cnt := by
  have hlt := h.lt
  obtain ⟨h1, h2, b, hb, es, clock, since, seen, c0, k1, k2, k3, k4, k5, k6⟩ := h
  exact ⟨by rw [s.keep r hlt hne]; exact h1, h2, b, Nat.lt_of_lt_of_le hb (s.ext.mono b), es, clock, since, seen, c0, s.ext.maps b es clock hb k1, k2, k3, k4, (s.g.block r hlt hne).trans k5, k6⟩
theorem IterL.step0 (h : IterL P k enc N0 w hw r l left cnt) (s : Stp none w hw w' hw') : IterL P k enc N0 w' hw' r l left cnt := h.step s (by simp)
theorem IterL.stepb (h : IterL P k enc N0 w hw r l left cnt) (s : Stp (some b') w hw w' hw') (hne : r ≠ b') : IterL P k enc N0 w' hw' r l left cnt := h.step s (fun e => hne (Option.some.inj e))
theorem IterL.ne (h : IterL P k enc N0 w hw r l left cnt) {c : Nat} (hc : w.heap.size ≤ c) : r ≠ c := by have := h.lt; omega
end
section
variable {P : Program} {ops : Array Oper} {Q : Exit → Act → World → Prop} {n : Nat} {σ : Nat → Value} {w : World} {hw : Hw} {rest : List Oper}
variable {d : Nat} {x y z : Operand} {t t2 ty : TypeId} {pos : String} {after : Array Edge} {N0 b : Nat} {k e : TypeId} {a c : Int} {T : Type} {enc : T → Value} {l : List (Int × T)} {v : Value}
theorem wl_makeml (enc : T → Value) (hwf : Hwf w hw) (hN : N0 ≤ w.heap.size) (KK : ∀ B w', Stp none w hw w' hw → OwnML P k enc N0 w' hw B [] → w.heap.size ≤ B → WL P ops Q rest (mkA n (upd σ d (.map (some B)))) w') :
    WL P ops Q (⟨some d, .makeMap t none, ty, pos, after, none⟩ :: rest) (mkA n σ) w :=
  wl_val (v := .map (some w.heap.size)) (w' := w.alloc (.map #[] 0)) (by simp [execOp, run_makeMap]) (KK _ _ (Stp.alloc hwf _) ⟨World.ownsMap_made _ _ _ _, hwf _ (Nat.le_refl _), hN⟩ (Nat.le_refl _))
theorem wl_insl {s : T} {l' : List (Int × T)} (hm : OwnML P k enc N0 w hw b l) (hwf : Hwf w hw) (ht : P.underlying t = some (.map k e)) (hk : P.underlying k = some (.int .i64)) (hx : ev n σ x = .map (some b)) (hy : ev n σ y = .int .i64 a) (hz : ev n σ z = enc s) (ha : i64ok a) (hsz : l.length < 9223372036854775807)
    (hp : (DataW.map (mkD enc l) : DV).put (.int .i64 a) (.held (enc s)) = .map (mkD enc l'))
    (KK : ∀ w', Stp (some b) w hw w' hw → OwnML P k enc N0 w' hw b l' → WL P ops Q rest (mkA n σ) w') : WL P ops Q (⟨none, .insert t x y z, ty, pos, after, none⟩ :: rest) (mkA n σ) w := by
  obtain ⟨w', hrun, how, hg⟩ := hm.own.update (Maps.int_keyed hk) ht (by simpa [maxLen] using hsz) (Maps.keyOf_int_mk hk ha) (show heldR (enc s) = some (.held (enc s), []) from rfl)
  rw [hp] at how
  have st : Stp (some b) w hw w' hw := Stp.mk_same hg hwf (fun b' hb => by cases hb; exact hm.z)
  refine wl_skip0 (w' := w') (by simp [execOp, hx, hy, hz, hrun]) (KK w' st ⟨?_, hm.z, hm.new⟩)
  obtain ⟨es, clock, hb, F, hs, hD⟩ := how
  refine ⟨es, clock, hb, F, ?_, hD⟩
  have e1 : (mkD enc l').length = ((es.toList.map (WideElems.rg P k heldR)).foldr DataW.insert []).length := by rw [DataW.map.inj hD]
  rw [length_sorted] at e1
  simp [mkD] at e1
  omega
theorem look_run (h : MapR P k enc w hw v l) (ht : P.underlying t = some (.map k e)) (hk : P.underlying k = some (.int .i64)) (z0 : T) {sz bytes : Nat} {agg : Bool} (hT : Ty P e sz bytes agg (enc z0)) (ha : i64ok a) (c : Bool) :
    (Instr.lookup t v (.int .i64 a) c).run P w = .ok (if c then .tuple #[enc ((mfind l a).getD z0), .bool (mfind l a).isSome] else enc ((mfind l a).getD z0)) w := by
  obtain ⟨b, rfl, hb, es, clock, h1, F, hs, hD⟩ := h
  rcases Maps.fit_look c (Maps.int_keyed hk) ht (hT.zero w) h1 F (Maps.keyOf_int_mk hk ha) with ⟨hrun, _, hat⟩ | ⟨e0, y, _, _, hrun, hRv, hat, _⟩
  · have := hat .nil
    rw [← hD, atK] at this
    cases hm : mfind l a with
    | some s => rw [hm] at this; cases this
    | none => rw [hrun]; rfl
  · have hy : y = (.held e0.val, []) := (Option.some.inj hRv).symm
    have := hat .nil
    rw [← hD, atK, hy] at this
    cases hm : mfind l a with
    | none => rw [hm] at this; cases this
    | some s =>
      rw [hm] at this
      have e1 : enc s = e0.val := DataW.held.inj this
      rw [hrun]
      show Result.ok (if c then .tuple #[e0.val, .bool true] else e0.val) w = Result.ok (if c then .tuple #[enc s, .bool true] else enc s) w
      rw [e1]
theorem wl_lookR {sz bytes : Nat} {agg : Bool} (z0 : T) (h : MapR P k enc w hw v l) (ht : P.underlying t = some (.map k e)) (hk : P.underlying k = some (.int .i64)) (hT : Ty P e sz bytes agg (enc z0)) (hx : ev n σ x = v) (hy : ev n σ y = .int .i64 a) (ha : i64ok a)
    (KK : WL P ops Q rest (mkA n (upd σ d (enc ((mfind l a).getD z0)))) w) : WL P ops Q (⟨some d, .lookup t x y false, ty, pos, after, none⟩ :: rest) (mkA n σ) w :=
  wl_val (w' := w) (by simp [execOp, hx, hy, look_run h ht hk z0 hT ha false]) KK
theorem wl_lookR2 {sz bytes : Nat} {agg : Bool} (z0 : T) (h : MapR P k enc w hw v l) (ht : P.underlying t = some (.map k e)) (hk : P.underlying k = some (.int .i64)) (hT : Ty P e sz bytes agg (enc z0)) (hx : ev n σ x = v) (hy : ev n σ y = .int .i64 a) (ha : i64ok a)
    (KK : WL P ops Q rest (mkA n (upd σ d (.tuple (List.toArray [enc ((mfind l a).getD z0), .bool (mfind l a).isSome])))) w) : WL P ops Q (⟨some d, .lookup t x y true, ty, pos, after, none⟩ :: rest) (mkA n σ) w :=
  wl_val (w' := w) (by simp [execOp, hx, hy, look_run h ht hk z0 hT ha true]) KK
theorem wl_rangeR (h : MapR P k enc w hw v l) (hwf : Hwf w hw) (hN : N0 ≤ w.heap.size) (ht : P.underlying t = some (.map k e)) (hk : P.underlying k = some (.int .i64)) (hx : ev n σ x = v)
    (KK : ∀ r w', Stp none w hw w' hw → IterL P k enc N0 w' hw r l (Maps.has (DataW.map (mkD enc l))) l.length → w.heap.size ≤ r → WL P ops Q rest (mkA n (upd σ d (.pointer (some ⟨r, 0, none⟩)))) w') :
    WL P ops Q (⟨some d, .range t x, ty, pos, after, none⟩ :: rest) (mkA n σ) w := by
  obtain ⟨b, rfl, hb, ho⟩ := h
  obtain ⟨w', hrun, hr, hg, _⟩ := ho.range (Maps.int_keyed hk) ht
  refine wl_val (w' := w') (by simp [execOp, hx, hrun]) (KK _ w' (Stp.mk_same hg hwf (by simp)) ⟨hwf _ (Nat.le_refl _), hN, b, hb, ?_⟩ (Nat.le_refl _))
  have : Maps.size (DataW.map (mkD enc l)) = l.length := by rw [Maps.size_eq]; simp [mkD]
  rw [← this]
  rw [this] at hr ⊢
  exact hr
theorem wl_nextR {r cnt : Nat} {left : Lit → Bool} (h : IterL P k enc N0 w hw r l left cnt) (hwf : Hwf w hw) (hk : P.underlying k = some (.int .i64)) (hx : ev n σ x = .pointer (some ⟨r, 0, none⟩))
    (k0 : (∀ kl, left kl = false) → WL P ops Q rest (mkA n (upd σ d (.tuple (List.toArray [.bool false])))) w)
    (k1 : ∀ a s w' cnt', mfind l a = some s → IterL P k enc N0 w' hw r l (fun z => left z && !z.sameKey (.int .i64 a)) cnt' → cnt' < cnt → Stp (some r) w hw w' hw →
      (Instr.entry (.pointer (some ⟨r, 0, none⟩))).run P w' = .ok (.tuple (List.toArray [.int .i64 a, enc s])) w' → WL P ops Q rest (mkA n (upd σ d (.tuple (List.toArray [.bool true, .int .i64 a, enc s])))) w') :
    WL P ops Q (⟨some d, .next x false, ty, pos, after, none⟩ :: rest) (mkA n σ) w := by
  obtain ⟨hz, hN, b, hb, hr⟩ := h
  rcases hr.next (Maps.int_keyed hk) ty with ⟨h0, hl, hrun⟩ | ⟨key, v, kl, y, w', cnt', hkey, hlk, hv, hat, hrun, hrg, hlt, hgr, hsz, hen⟩
  · exact wl_val (w' := w) (by simp [execOp, hx, hrun]) (k0 hl)
  · obtain ⟨x', rfl, rfl, hw1⟩ := Maps.keyOf_int_inv hk hkey
    have hy : y = (.held v, []) := (Option.some.inj hv).symm
    have h2 := hat .nil
    rw [atK, hy] at h2
    cases hm : mfind l x' with
    | none => rw [hm] at h2; cases h2
    | some s =>
      rw [hm] at h2
      have e1 : enc s = v := DataW.held.inj h2
      subst e1
      exact wl_val (w' := w') (by simp [execOp, hx, hrun]) (k1 x' s w' cnt' hm ⟨hz, hN, b, hb, hrg⟩ hlt (Stp.mk_same hgr hwf (fun b' hb' => by cases hb'; exact hz)) hen)
end
end Go.Proofs.YtlaifpbickdpkaaDoor
