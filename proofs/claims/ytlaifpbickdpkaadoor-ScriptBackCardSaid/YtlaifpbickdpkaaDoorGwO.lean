/- GwO: what came in, opened: arguments of any plain shape as values of a kind (own work). -/
import Derived.Test.YtlaifpbickdpkaaDoorGwV
import Derived.ProofKit
import Derived.SizedLaws
import Derived.Deep.Slices
import Derived.DataReads
namespace Go.Proofs.YtlaifpbickdpkaaDoor
open Go.ChangeShapes Go.WideShapes Go.ChangeAt Go.RowKit Go.Deep
set_option linter.unusedVariables false
set_option linter.unusedSimpArgs false

/-- All that is there lives. -/
def allLive (w : World) : Hw := fun b => match w.heap[b]? with
  | some (.cells cur _ _) => cur.size
  | _ => 0
theorem allLive_wf (w : World) : Hwf w (allLive w) := fun b hb => by
  unfold allLive
  rw [Array.getElem?_eq_none hb]
theorem cell_lt {w : World} {b i : Nat} {v : Value} (h : w.cell? ⟨b, i, none⟩ = some v) : i < allLive w b := by
  unfold allLive
  unfold World.cell? at h
  simp only at h
  cases hb : w.heap[b]? with
  | none => rw [hb] at h; simp at h
  | some o =>
    rw [hb] at h
    cases o <;> simp at h
    rename_i cur t p
    exact (Array.getElem?_eq_some_iff.1 h).1
theorem live_of {w : World} {b o : Nat} {cs : List Value} (hp : 0 < cs.length) (h : ∀ j u, cs[j]? = some u → w.cell? ⟨b, o + j, none⟩ = some u) : Live w (allLive w) b o cs := by
  refine ⟨?_, h⟩
  have := cell_lt (h (cs.length - 1) (cs[cs.length - 1]'(by omega)) (List.getElem?_eq_getElem (by omega)))
  omega
/-- Whatever reads as a datum of a type reads as a value of a kind. -/
def Opn (P : Program) (t : TypeId) {α : Type} (K : Kind α) (G : α → Prop) : Prop :=
  ∀ {H : Type} (enc : TypeId × Value → H) (w : World) (base : Nat) (sp : Nat → Bool) (held : Bool) (fuel : Nat) (cs : List Value) (x : DataW H × List MemPlace),
    DataW.trod enc P w base sp held fuel t cs = some x → ∃ y, K.R w (allLive w) y cs ∧ G y
def Gint (k : IntKind) (n : Int) : Prop := (Lit.int k n).wf = true
def Gstr (l : List UInt8) : Prop := l.length ≤ 9223372036854775807
def Grow {α : Type} (G : α → Prop) (l : List α) : Prop := l.length ≤ 9223372036854775807 ∧ ∀ x ∈ l, G x
section
variable {P : Program} {t : TypeId}
theorem opn_int {k : IntKind} (ht : P.underlying t = some (.int k)) : Opn P t (Kint k) (Gint k) := by
  intro H enc w base sp held fuel cs x h
  cases fuel with
  | zero => cases h
  | succ n =>
    unfold DataW.trod at h
    rw [ht] at h
    match cs, h with
    | [.int k' m], h =>
      simp only at h
      split at h
      · rename_i hc
        obtain ⟨rfl, hw⟩ := hc
        exact ⟨m, rfl, hw⟩
      · cases h
theorem opn_bool (ht : P.underlying t = some .bool) : Opn P t Kbool (fun _ => True) := by
  intro H enc w base sp held fuel cs x h
  cases fuel with
  | zero => cases h
  | succ n =>
    unfold DataW.trod at h
    rw [ht] at h
    match cs, h with
    | [.bool b], h => exact ⟨b, rfl, trivial⟩
theorem opn_str (ht : P.underlying t = some .string) : Opn P t Kstr Gstr := by
  intro H enc w base sp held fuel cs x h
  cases fuel with
  | zero => cases h
  | succ n =>
    unfold DataW.trod at h
    rw [ht] at h
    match cs, h with
    | [.string s], h =>
      simp only at h
      split at h
      · rename_i hc
        refine ⟨s.data.toList, ?_, ?_⟩
        · show [Value.string s] = [Value.string (bs s.data.toList)]
          rw [bs_data]
        · have : s.size = s.data.toList.length := by have := bs_size s.data.toList; rwa [bs_data] at this
          unfold Gstr; unfold maxLen at hc; omega
      · cases h
theorem opn_slice {α : Type} {K : Kind α} {G : α → Prop} {e : TypeId} (ht : P.underlying t = some (.slice e)) (hz : P.cellsOf e = K.sz) (hp : 0 < K.sz) (he : Opn P e K G) : Opn P t (Kslice K) (Grow G) := by
  intro H enc w base sp held fuel cs x h
  rcases open_slice ht h with ⟨rfl, _⟩ | ⟨a, len, cap, m, n, D, Pl, rfl, hb, hl, hm, hmm, _, hel⟩
  · exact ⟨[], ⟨_, rfl, Row.nil _ _ _⟩, by simp [Grow]⟩
  · have hml : len ≤ m := by rw [hmm]; split <;> omega
    -- the elements, one by one
    have each : ∀ i, i < len → ∃ y cs', K.R w (allLive w) y cs' ∧ G y ∧ ∀ j u, cs'[j]? = some u → w.cell? ((a.add (i * K.sz)).add j) = some u := by
      intro i hi
      obtain ⟨cs', h1, h2⟩ := hel i (by omega)
      rw [hz] at h1
      obtain ⟨y, hy, hg⟩ := he enc w base sp held n cs' _ h2
      obtain ⟨_, hlen, hcell⟩ := World.cells?_some h1
      refine ⟨y, cs', hy, hg, fun j u hu => ?_⟩
      have hj : j < K.sz := by rw [← hlen]; exact (List.getElem?_eq_some_iff.1 hu).1
      rw [hcell j hj]; exact hu
    have list : ∀ k, k ≤ len → ∃ ys : List α, ys.length = k ∧ (∀ y ∈ ys, G y) ∧ ∀ i y, ys[i]? = some y → ∃ cs', K.R w (allLive w) y cs' ∧ ∀ j u, cs'[j]? = some u → w.cell? ((a.add (i * K.sz)).add j) = some u := by
      intro k
      induction k with
      | zero => exact fun _ => ⟨[], rfl, by simp, by simp⟩
      | succ k ih =>
        intro hk
        obtain ⟨ys, h1, h2, h3⟩ := ih (by omega)
        obtain ⟨y, cs', hy, hg, hc⟩ := each k (by omega)
        refine ⟨ys ++ [y], by simp [h1], ?_, fun i z hz => ?_⟩
        · intro z hz
          rcases List.mem_append.1 hz with h | h
          · exact h2 z h
          · rw [List.mem_singleton.1 h]; exact hg
        · rcases Nat.lt_or_ge i ys.length with hi | hi
          · rw [List.getElem?_append_left hi] at hz
            exact h3 i z hz
          · rw [List.getElem?_append_right hi] at hz
            have hi2 : i - ys.length = 0 := by
              rcases Nat.eq_zero_or_pos (i - ys.length) with h | h
              · exact h
              · rw [List.getElem?_eq_none (by simp; omega)] at hz; cases hz
            rw [hi2] at hz
            have : y = z := by simpa using hz
            subst this
            have : i = k := by omega
            subst this
            exact ⟨cs', hy, hc⟩
    obtain ⟨ys, h1, h2, h3⟩ := list len (Nat.le_refl _)
    refine ⟨ys, ⟨_, rfl, some a, cap, by rw [h1], by omega, by simpa [maxLen] using hm, by simp, fun hpos => ?_⟩, ⟨by unfold maxLen at hm; omega, h2⟩⟩
    obtain ⟨b, off, spot⟩ := a
    obtain ⟨cs0, hy0, hc0⟩ := h3 0 ys[0] (List.getElem?_eq_getElem hpos)
    have hl0 := K.len hy0
    have hs := hc0 0 (cs0[0]'(by omega)) (List.getElem?_eq_getElem (by omega))
    have hspot : spot = none := by simpa [Addr.add] using World.cell?_spot hs
    subst hspot
    refine ⟨b, off, rfl, fun j y hj => ?_⟩
    obtain ⟨cs', hy, hc⟩ := h3 j y hj
    refine ⟨cs', hy, live_of (by rw [K.len hy]; exact hp) fun q u hu => ?_⟩
    have := hc q u hu
    rw [Addr.add_lit, Addr.add_lit] at this
    exact this
theorem len_cons {α : Type} {n : Nat} {l : List α} (h : l.length = n + 1) : ∃ a r, l = a :: r ∧ r.length = n := by
  cases l with
  | nil => simp at h
  | cons a r => exact ⟨a, r, rfl, by simpa using h⟩
/-- A struct's fields, one by one. -/
theorem opn_fields {H : Type} {enc : TypeId × Value → H} {w : World} {base : Nat} {sp : Nat → Bool} {held : Bool} {fuel : Nat} {cs : List Value} {x : DataW H × List MemPlace} {fs : Array Field} (ht : P.underlying t = some (.struct fs)) (h : DataW.trod enc P w base sp held fuel t cs = some x) :
    cs.length = P.cellsOf t ∧ ∃ n, ∀ f ∈ fs.toList, ∃ y, DataW.trod enc P w base sp held n f.type ((cs.drop f.offset).take (P.cellsOf f.type)) = some y := by
  cases fuel with
  | zero => cases h
  | succ n =>
    unfold DataW.trod at h
    rw [ht] at h
    simp only at h
    split at h
    · rename_i hl
      obtain ⟨xs, hxs, hx⟩ := Option.map_eq_some_iff.1 h
      refine ⟨hl, n, ?_⟩
      clear h hl hx
      generalize fs.toList = l at hxs
      induction l generalizing xs with
      | nil => simp
      | cons f l ih =>
        rw [List.mapM_cons] at hxs
        simp only [Option.bind_eq_bind, Option.bind_eq_some_iff] at hxs
        obtain ⟨y, hy, ys, hys, _⟩ := hxs
        intro g hg
        rcases List.mem_cons.1 hg with rfl | hg
        · exact ⟨y, hy⟩
        · exact ih ys hys g hg
    · cases h
/-- An argument that is a struct; one that is one cell. -/
theorem arg_agg {H : Type} {enc : TypeId × Value → H} {w : World} {base : Nat} {sp : Nat → Bool} {held : Bool} {r : Reach} {b0 : Nat} {v : Value} {d : DataW H} {ps : List MemPlace} {fs : Array Field} {α : Type} {K : Kind α} {G : α → Prop}
    (ht : P.underlying t = some (.struct fs)) (ho : Opn P t K G) (hv : Value.okWide P w r b0 t v) (hd : DataW.Trod enc P w base sp held t v d ps) : ∃ cs y, v = .agg (List.toArray cs) ∧ K.R w (allLive w) y cs ∧ G y := by
  unfold Value.okWide at hv
  rw [ht] at hv
  obtain ⟨cs, rfl, _⟩ := hv
  obtain ⟨fuel, hf⟩ := hd
  obtain ⟨y, hy, hg⟩ := ho enc w base sp held fuel _ _ hf
  exact ⟨cs.toList, y, by simp, hy, hg⟩
theorem arg_one {H : Type} {enc : TypeId × Value → H} {w : World} {base : Nat} {sp : Nat → Bool} {held : Bool} {v : Value} {d : DataW H} {ps : List MemPlace} {α : Type} {K : Kind α} {G : α → Prop}
    (hc : v.cells = #[v]) (ho : Opn P t K G) (hd : DataW.Trod enc P w base sp held t v d ps) : ∃ y, K.R w (allLive w) y [v] ∧ G y := by
  obtain ⟨fuel, hf⟩ := hd
  rw [hc] at hf
  exact ho enc w base sp held fuel _ _ hf
end
end Go.Proofs.YtlaifpbickdpkaaDoor
