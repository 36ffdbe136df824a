/- GwC: rows of cells, rows of the call's own, appends (own work). -/
import Derived.Test.YtlaifpbickdpkaaDoorGwB
import Derived.Maps.AppendAt
namespace Go.Proofs.YtlaifpbickdpkaaDoor
open Go.RowKit
set_option linter.unusedVariables false
set_option linter.unusedSimpArgs false

/-- Cells, one element's behind the other's. -/
def RowsC {α : Type} (K : Kind α) (w : World) (hw : Hw) : List α → List Value → Prop
  | [], cs => cs = []
  | x :: xs, cs => ∃ c r, cs = c ++ r ∧ K.R w hw x c ∧ RowsC K w hw xs r
section
variable {α : Type} {K : Kind α} {w w' : World} {hw hw' : Hw}
theorem RowsC.len : ∀ {xs : List α} {cs : List Value}, RowsC K w hw xs cs → cs.length = xs.length * K.sz
  | [], cs, h => by cases h; simp
  | x :: xs, cs, ⟨c, r, e, hc, hr⟩ => by
    subst e
    rw [List.length_append, K.len hc, RowsC.len hr, List.length_cons, Nat.add_mul, Nat.one_mul, Nat.add_comm]
theorem RowsC.ext (e : Ext w hw w' hw') : ∀ {xs : List α} {cs : List Value}, RowsC K w hw xs cs → RowsC K w' hw' xs cs
  | [], cs, h => h
  | x :: xs, cs, ⟨c, r, he, hc, hr⟩ => ⟨c, r, he, K.ext e hc, RowsC.ext e hr⟩
theorem RowsC.one : ∀ {xs : List α} {cs : List Value}, RowsC K w hw xs cs → ∀ u ∈ cs, u.oneCell' = true
  | [], cs, h, u, hu => by cases h; simp at hu
  | x :: xs, cs, ⟨c, r, e, hc, hr⟩, u, hu => by
    subst e
    rcases List.mem_append.1 hu with h | h
    · exact K.one hc u h
    · exact RowsC.one hr u h
theorem RowsC.append : ∀ {xs ys : List α} {cs ds : List Value}, RowsC K w hw xs cs → RowsC K w hw ys ds → RowsC K w hw (xs ++ ys) (cs ++ ds)
  | [], ys, cs, ds, h, k => by cases h; exact k
  | x :: xs, ys, cs, ds, ⟨c, r, e, hc, hr⟩, k => ⟨c, r ++ ds, by rw [e, List.append_assoc], hc, RowsC.append hr k⟩
theorem RowsC.single {x : α} {c : List Value} (h : K.R w hw x c) : RowsC K w hw [x] c := ⟨c, [], by simp, h, rfl⟩
theorem RowsC.at_ : ∀ {xs : List α} {cs : List Value}, RowsC K w hw xs cs → ∀ j x, xs[j]? = some x → ∃ c, K.R w hw x c ∧ ∀ i u, c[i]? = some u → cs[j * K.sz + i]? = some u
  | [], cs, h, j, x, hj => by simp at hj
  | y :: xs, cs, ⟨c, r, e, hc, hr⟩, 0, x, hj => by
    have hx : y = x := by simpa using hj
    subst hx
    refine ⟨c, hc, fun i u hu => ?_⟩
    have hi : i < c.length := (List.getElem?_eq_some_iff.1 hu).1
    rw [e, Nat.zero_mul, Nat.zero_add, List.getElem?_append_left hi]
    exact hu
  | y :: xs, cs, ⟨c, r, e, hc, hr⟩, j + 1, x, hj => by
    obtain ⟨d, hd, hu⟩ := RowsC.at_ hr j x (by simpa using hj)
    refine ⟨d, hd, fun i u hi => ?_⟩
    have hl := K.len hc
    rw [e, List.getElem?_append_right (by rw [hl, Nat.add_mul]; omega), hl]
    rw [← hu i u hi]
    congr 1
    rw [Nat.add_mul, Nat.one_mul]
    omega
/-- Cells that live, told element by element. -/
theorem RowsC.live {xs : List α} {cs : List Value} (h : RowsC K w hw xs cs) {b o : Nat} (hl : Live w hw b o cs) : ∀ j x, xs[j]? = some x → ∃ c, K.R w hw x c ∧ Live w hw b (o + j * K.sz) c := by
  intro j x hj
  obtain ⟨c, hc, hu⟩ := h.at_ j x hj
  refine ⟨c, hc, ?_, fun i u hi => ?_⟩
  · have hjl : j < xs.length := (List.getElem?_eq_some_iff.1 hj).1
    have h1 := h.len
    have h2 := K.len hc
    have h3 : (j + 1) * K.sz ≤ xs.length * K.sz := Nat.mul_le_mul_right _ hjl
    rw [Nat.add_mul, Nat.one_mul] at h3
    have := hl.1
    omega
  · rw [Nat.add_assoc]
    exact hl.2 _ u (hu i u hi)
theorem Row.mk_live {xs : List α} {cs : List Value} {b o c : Nat} (h : RowsC K w hw xs cs) (hl : Live w hw b o cs) (hc : xs.length ≤ c) (hm : c ≤ 9223372036854775807) : Row K w hw (.slice (some ⟨b, o, none⟩) xs.length c) xs :=
  ⟨_, c, rfl, hc, hm, by simp, fun _ => ⟨b, o, rfl, h.live hl⟩⟩
theorem flat_of (b : Nat) : ∀ (xs : List α) (o : Nat), (∀ j x, xs[j]? = some x → ∃ c, K.R w hw x c ∧ Live w hw b (o + j * K.sz) c) → ∃ cs, RowsC K w hw xs cs ∧ ∀ j u, cs[j]? = some u → w.cell? ⟨b, o + j, none⟩ = some u
  | [], o, _ => ⟨[], rfl, by simp⟩
  | x :: xs, o, h => by
    obtain ⟨c, hc, hl⟩ := h 0 x rfl
    obtain ⟨r, hr, hu⟩ := flat_of b xs (o + K.sz) (fun j y hj => by
      obtain ⟨d, hd, hl⟩ := h (j + 1) y (by simpa using hj)
      exact ⟨d, hd, by rw [show o + K.sz + j * K.sz = o + (j + 1) * K.sz by rw [Nat.add_mul]; omega]; exact hl⟩)
    refine ⟨c ++ r, ⟨c, r, rfl, hc, hr⟩, fun j u hj => ?_⟩
    rcases Nat.lt_or_ge j c.length with h1 | h1
    · rw [List.getElem?_append_left h1] at hj
      have := hl.2 j u hj
      simpa using this
    · rw [List.getElem?_append_right h1] at hj
      have := hu _ u hj
      rw [← K.len hc, show o + c.length + (j - c.length) = o + j by omega] at this
      exact this
theorem Row.flat {v : Value} {xs : List α} (h : Row K w hw v xs) : ∃ A c cs, v = .slice A xs.length c ∧ RowsC K w hw xs cs ∧ xs.length ≤ 9223372036854775807 ∧
    ((A = none ∧ xs = [] ∧ c = 0) ∨ ∃ ad, A = some ad ∧ ∀ j u, cs[j]? = some u → w.cell? (ad.add j) = some u) := by
  obtain ⟨A, c, rfl, h1, h2, hn, h3⟩ := h
  cases xs with
  | nil =>
    refine ⟨A, c, [], rfl, rfl, by simp, ?_⟩
    cases A with
    | none => exact .inl ⟨rfl, rfl, hn rfl⟩
    | some ad => exact .inr ⟨ad, rfl, by simp⟩
  | cons x xs =>
    obtain ⟨b, o, rfl, hc⟩ := h3 (by simp)
    obtain ⟨cs, hr, hu⟩ := flat_of b (x :: xs) o hc
    exact ⟨_, c, cs, rfl, hr, by omega, .inr ⟨_, rfl, fun j u hj => by rw [Addr.add_lit]; exact hu j u hj⟩⟩
/-- A row of the call's own, to which nobody else has appended. -/
def Own {α : Type} (K : Kind α) (e : TypeId) (N0 : Nat) (w : World) (hw : Hw) (v : Value) (xs : List α) : Prop :=
  ∃ cs, w.ownsRow N0 e K.sz v xs.length cs ∧ RowsC K w hw xs cs ∧ ∀ g, v.ownBlock = some g → hw g = xs.length * K.sz
theorem Own.nil (K : Kind α) (e : TypeId) (N0 : Nat) (w : World) (hw : Hw) : Own K e N0 w hw (.slice none 0 0) [] := ⟨[], World.ownsRow_nil _ _ _ _, rfl, by simp [Value.ownBlock]⟩
theorem Own.row {e : TypeId} {N0 : Nat} {v : Value} {xs : List α} (h : Own K e N0 w hw v xs) : Row K w hw v xs := by
  obtain ⟨cs, ho, hr, hh⟩ := h
  rcases ho.2 with ⟨rfl, h0⟩ | ⟨g, cap, cur, rfl, hg, hheap, h1, h2, h3, h4⟩
  · have : xs = [] := List.eq_nil_of_length_eq_zero h0
    subst this
    exact Row.nil K w hw
  · refine Row.mk_live hr ⟨?_, fun j u hj => ?_⟩ h1 (by simpa [maxLen] using h2)
    · rw [hr.len, hh g rfl]; omega
    · have := ho.cells (g := g) rfl j u hj
      rwa [Addr.add_lit] at this
theorem Own.step {e : TypeId} {N0 : Nat} {v : Value} {xs : List α} {row : Option Nat} (h : Own K e N0 w hw v xs) (s : Stp row w hw w' hw') (hne : v.ownBlock = none ∨ v.ownBlock ≠ row) : Own K e N0 w' hw' v xs := by
  obtain ⟨cs, ho, hr, hh⟩ := h
  refine ⟨cs, ho.kept s.g hne, hr.ext s.ext, fun g hg => ?_⟩
  rw [s.keep g (ho.lt g hg).2 (by rw [hg] at hne; rcases hne with h | h; · cases h
                                  · exact h)]
  exact hh g hg
theorem Own.step0 {e : TypeId} {N0 : Nat} {v : Value} {xs : List α} (h : Own K e N0 w hw v xs) (s : Stp none w hw w' hw') : Own K e N0 w' hw' v xs := h.step s (by cases v.ownBlock <;> simp)
theorem Own.new {e : TypeId} {N0 : Nat} {v : Value} {xs : List α} (h : Own K e N0 w hw v xs) : ∀ g, v.ownBlock = some g → N0 ≤ g ∧ g < w.heap.size := by
  obtain ⟨cs, ho, _⟩ := h
  exact fun g hg => ho.lt g hg
/-- A block that came behind is not the row's. -/
theorem Own.ne {e : TypeId} {N0 : Nat} {v : Value} {xs : List α} (h : Own K e N0 w hw v xs) {b : Nat} (hb : w.heap.size ≤ b) : v.ownBlock ≠ some b := fun hg => by have := (h.new b hg).2; omega
theorem Box.ne_own {e : TypeId} {N0 N1 : Nat} {v : Value} {xs : List α} {b : Nat} {T : TypeId} {cs : List Value} (hb : Box N1 w hw b T cs) (h : Own K e N0 w hw v xs) (ht : e ≠ T) : v.ownBlock ≠ some b := fun hg => by
  obtain ⟨cs', ho, _⟩ := h
  rcases ho.2 with ⟨rfl, _⟩ | ⟨g, cap, cur, rfl, _, hheap, _⟩
  · simp [Value.ownBlock] at hg
  · have : g = b := by simpa [Value.ownBlock] using hg
    subst this
    rw [hb.heap] at hheap
    injection hheap with hheap
    injection hheap with _ h2
    exact ht h2.symm
end
section
variable {P : Program} {α : Type} {K : Kind α} {w : World} {hw : Hw}
/-- append to a row of the call's own. -/
theorem run_app_own {t ty e : TypeId} {z : Value} {bytes : Nat} {agg : Bool} (ht : P.underlying t = some (.slice e)) (hT : Ty P e K.sz bytes agg z) (hzs : z.cells.size = K.sz) (hsz : 0 < K.sz)
    (hwf : Hwf w hw) {N0 : Nat} {v x : Value} {xs ys : List α} (ho : Own K e N0 w hw v xs) (hx : Row K w hw x ys) (h63 : xs.length + ys.length ≤ 9223372036854775807) (hby : (xs.length + ys.length) * bytes ≤ 140737488355328) (hN : N0 ≤ w.heap.size) :
    ∃ v' w' hw', (Builtin.append_ #[t, t] ty #[v, x]).run P w = .ok v' w' ∧ Own K e N0 w' hw' v' (xs ++ ys) ∧ Stp v.ownBlock w hw w' hw' ∧ (v'.ownBlock = v.ownBlock ∨ v'.ownBlock = some w.heap.size) := by
  obtain ⟨cs, how, hr, hh⟩ := ho
  obtain ⟨i, hi, hz, hs, hb⟩ := hT.info
  obtain ⟨A, c, ds, rfl, hrd, hm, hA⟩ := hx.flat
  rcases hA with ⟨rfl, rfl, rfl⟩ | ⟨ad, rfl, hcell⟩
  · have hds : ds = [] := List.eq_nil_of_length_eq_zero (by simpa using hrd.len)
    have hrun := run_append_owned_none (P := P) w N0 t ty e i K.sz ht hi v xs.length cs how
    exact ⟨v, w, hw, hrun, by rw [List.append_nil]; exact ⟨cs, how, hr, hh⟩, Stp.refl _ hwf, .inl rfl⟩
  · obtain ⟨v', w', hrun, how', hg, hnil, hloc⟩ := run_append_own_at (P := P) w N0 t ty e i z K.sz bytes ht hi hz hs hb hzs hsz v xs.length cs how ad ys.length c ds hrd.len hcell hrd.one (by simpa [maxLen] using h63) hby hN
    have hl : cs.length = xs.length * K.sz := hr.len
    -- what lives in the row's own block stays
    have hpre : ∀ g, v.ownBlock = some g → ∀ q u, q < hw g → w.cell? ⟨g, q, none⟩ = some u → w'.cell? ⟨g, q, none⟩ = some u := by
      intro g hvg q u hq hc
      have hig : q < xs.length * K.sz := by rw [← hh g hvg]; exact hq
      have hcs : cs[q]? = some u := by
        have h1 := how.cells (g := g) hvg q (cs[q]'(by omega)) (List.getElem?_eq_getElem _)
        rw [Addr.add_lit, Nat.zero_add, hc] at h1
        rw [List.getElem?_eq_getElem (by omega)]
        exact h1.symm
      rcases hloc with h | h
      · have := how'.cells (g := g) (h.trans hvg) q u (by rw [List.getElem?_append_left (by omega)]; exact hcs)
        rwa [Addr.add_lit, Nat.zero_add] at this
      · -- it went over: the elder block is as it was
        rcases how.2 with ⟨rfl, _⟩ | ⟨g', cap, cur, rfl, _, hheap, hcap, _⟩
        · simp [Value.ownBlock] at hvg
        · have hgg : g' = g := by simpa [Value.ownBlock] using hvg
          subst hgg
          have hgrow : w.grownBy w' none := by
            by_cases hroom : xs.length + ys.length ≤ cap
            · exfalso
              obtain ⟨_, hrun2, _⟩ := run_append_fits (P := P) w N0 t ty e i K.sz ht hi hs g' xs.length cap cs how ad ys.length c ds hrd.len hcell hrd.one hroom
              rw [hrun] at hrun2
              injection hrun2 with hv _
              subst hv
              simp only [Value.ownBlock] at h
              have h := Option.some.inj h
              have h2 := (Array.getElem?_eq_some_iff.1 hheap).1
              omega
            · have hr2 := run_append_grow (P := P) w t ty e i z ht hi hz ⟨g', 0, none⟩ xs.length cap cs (by rw [hl, hs]) (how.cells (g := g') rfl) ad ys.length c ds (by rw [hrd.len, hs]) hcell (by omega) (by omega) (growslice_fits (by omega) (by rw [hb]; exact hby))
              rw [hrun] at hr2
              injection hr2 with _ hw2
              subst hw2
              exact ⟨rfl, rfl, rfl, by simp, fun k hk _ => Below.heap_alloc w.drew _ k hk⟩
          exact hgrow.cell hc (by simp)
    have hlen : (cs ++ ds).length = (xs.length + ys.length) * K.sz := how'.1
    cases hv' : v'.ownBlock with
    | none =>
      have hvn : v.ownBlock = none := by
        rcases hloc with h | h
        · rw [← h]; exact hv'
        · rw [hv'] at h; cases h
      refine ⟨v', w', hw, hrun, ⟨cs ++ ds, by rw [List.length_append]; exact how', (hr.append hrd).ext ⟨fun _ => Nat.le_refl _, fun b i u hi hc => hg.cell hc (by rw [hvn]; simp), fun b es c _ hm => (hg.block b (Array.getElem?_eq_some_iff.1 hm).1 (by rw [hvn]; simp)).trans hm⟩, fun g h => by rw [hv'] at h; cases h⟩, ?_, hloc⟩
      rw [hvn] at hg ⊢
      exact Stp.mk_same hg hwf (by simp)
    | some g' =>
      have hext : Ext w hw w' (fun b => if b = g' then (xs.length + ys.length) * K.sz else hw b) := by
        refine ⟨fun b => ?_, fun b i u hi hc => ?_, fun b es c _ hm => (hg.block b (Array.getElem?_eq_some_iff.1 hm).1 (fun e => by
          rcases how.2 with ⟨rfl, _⟩ | ⟨g2, cap, cur, rfl, _, hheap, _⟩
          · simp [Value.ownBlock] at e
          · have e2 : b = g2 := by simpa [Value.ownBlock] using e
            subst e2
            rw [hheap] at hm
            cases hm)).trans hm⟩
        · try dsimp only
          split
          · rename_i h; subst h
            rcases hloc with h | h
            · rw [hh b (by rw [← h]; exact hv'), Nat.add_mul]; omega
            · rw [hv'] at h
              have := Option.some.inj h
              rw [hwf b (by omega)]; omega
          · exact Nat.le_refl _
        · by_cases hbg : v.ownBlock = some b
          · exact hpre b hbg i u hi hc
          · exact hg.cell hc (fun h => hbg h.symm)
      refine ⟨v', w', _, hrun, ⟨cs ++ ds, by rw [List.length_append]; exact how', (hr.append hrd).ext hext, fun g h => ?_⟩, ⟨hg, fun b hb hne => ?_, hext, fun b hb => ?_⟩, by rw [hv']; rw [hv'] at hloc; exact hloc⟩
      · rw [hv'] at h
        have := Option.some.inj h
        subst this
        rw [if_pos rfl, List.length_append]
      · rw [if_neg]
        rintro rfl
        rcases hloc with h | h
        · exact hne (by rw [← h]; exact hv'.symm)
        · rw [hv'] at h
          have := Option.some.inj h
          omega
      · try dsimp only
        rw [if_neg]
        · exact hwf b (Nat.le_trans hg.size hb)
        · rintro rfl
          have := (how'.lt b hv').2
          omega
/-- append to a slice without room: whatever it is, what comes is new. -/
theorem run_app_full {t ty e : TypeId} {z : Value} {bytes : Nat} {agg : Bool} (ht : P.underlying t = some (.slice e)) (hT : Ty P e K.sz bytes agg z) (hzs : z.cells.size = K.sz) (hsz : 0 < K.sz)
    (hwf : Hwf w hw) {A : Option Addr} {x : Value} {xs ys : List α} (ho : Row K w hw (.slice A xs.length xs.length) xs) (hx : Row K w hw x ys) (hy : 0 < ys.length) (h63 : xs.length + ys.length ≤ 9223372036854775807) (hby : (xs.length + ys.length) * bytes ≤ 140737488355328) :
    ∃ v' w' hw', (Builtin.append_ #[t, t] ty #[.slice A xs.length xs.length, x]).run P w = .ok v' w' ∧ Own K e w.heap.size w' hw' v' (xs ++ ys) ∧ Stp none w hw w' hw' := by
  obtain ⟨i, hi, hz, hs, hb⟩ := hT.info
  obtain ⟨A2, c2, cs, he, hr, hm1, hA1⟩ := ho.flat
  obtain ⟨B, c, ds, rfl, hrd, hm, hB⟩ := hx.flat
  have hB' : ∃ ad, B = some ad ∧ ∀ j u, ds[j]? = some u → w.cell? (ad.add j) = some u := by
    rcases hB with ⟨_, h, _⟩ | h
    · rw [h] at hy; simp at hy
    · exact h
  obtain ⟨bd, rfl, hcell⟩ := hB'
  have hl := hr.len
  have hld := hrd.len
  -- the new block, whatever its spare cells
  have fin : ∀ (sp : Array Value) (cap : Nat), (cs.toArray ++ ds.toArray ++ sp).size = cap * K.sz → xs.length + ys.length ≤ cap → cap ≤ maxLen →
      ∃ hw', Own K e w.heap.size (w.drew.alloc (.cells (cs.toArray ++ ds.toArray ++ sp) e)) hw' (.slice (some ⟨w.heap.size, 0, none⟩) (xs.length + ys.length) cap) (xs ++ ys) ∧ Stp none w hw (w.drew.alloc (.cells (cs.toArray ++ ds.toArray ++ sp) e)) hw' := by
    intro sp cap hsp hc1 hc2
    have hg : w.grownBy (w.drew.alloc (.cells (cs.toArray ++ ds.toArray ++ sp) e)) none := ⟨rfl, rfl, rfl, by simp, fun k hk _ => Below.heap_alloc w.drew _ k hk⟩
    have hst : Stp none w hw (w.drew.alloc (.cells (cs.toArray ++ ds.toArray ++ sp) e)) (fun b => if b = w.heap.size then (xs.length + ys.length) * K.sz else hw b) := by
      refine Stp.mk_none hg hwf (fun b hb => if_neg (by omega)) (fun b hb => ?_)
      have hb' : w.heap.size + 1 ≤ b := by simpa using hb
      exact (if_neg (by omega)).trans (hwf b (by omega))
    refine ⟨_, ⟨cs ++ ds, ⟨?_, .inr ⟨w.heap.size, cap, _, by rw [List.length_append], Nat.le_refl _, heap_alloc_new w.drew _, by rw [List.length_append]; exact hc1, hc2, hsp, ?_⟩⟩, (hr.append hrd).ext hst.ext, fun g h => ?_⟩, hst⟩
    · rw [List.length_append, List.length_append, hl, hld, Nat.add_mul]
    · simp only [Array.toList_append, List.append_assoc]
      rw [← List.append_assoc, List.length_append, Nat.add_mul, ← hl, ← hld, ← List.length_append]
      exact List.take_left
    · have : w.heap.size = g := by simpa [Value.ownBlock] using h
      subst this
      rw [if_pos rfl, List.length_append]
  have hge := grownCap_ge w (xs.length + ys.length) xs.length e
  have hcm : grownCap w (xs.length + ys.length) xs.length e ≤ maxLen := grownCap_le_maxLen w _ _ e (by simpa [maxLen] using h63)
  have hsize : (cs.toArray ++ ds.toArray ++ Builtin.zeroCells z.cells (grownCap w (xs.length + ys.length) xs.length e - (xs.length + ys.length))).size = grownCap w (xs.length + ys.length) xs.length e * K.sz := by
    simp only [Array.size_append, List.size_toArray, size_zeroCells, hzs, hl, hld, ← Nat.add_mul]
    congr 1
    omega
  rcases hA1 with ⟨hA2, hx0, _⟩ | ⟨ad, hA2, hcell1⟩
  · subst hA2
    subst hx0
    have hcs : cs = [] := List.eq_nil_of_length_eq_zero (by simpa using hl)
    subst hcs
    have hAn : A = none := by injection he
    subst hAn
    simp only [List.length_nil, Nat.zero_add, List.nil_append] at *
    have hrun := run_append_nil (P := P) w t ty e i z ht hi hz bd ys.length c ds (by rw [hld, hs]) hcell hy (by omega) (by rw [hb]; omega)
    obtain ⟨hw', h1, h2⟩ := fin _ _ hsize hge hcm
    refine ⟨_, _, hw', hrun, ?_, ?_⟩
    · simpa using h1
    · simpa using h2
  · subst hA2
    have hAn : A = some ad := by injection he
    subst hAn
    have hrun := run_append_grow (P := P) w t ty e i z ht hi hz ad xs.length xs.length cs (by rw [hl, hs]) hcell1 bd ys.length c ds (by rw [hld, hs]) hcell (by omega) (by omega) (growslice_fits (by omega) (by rw [hb]; exact hby))
    obtain ⟨hw', h1, h2⟩ := fin _ _ hsize hge hcm
    exact ⟨_, _, hw', hrun, h1, h2⟩
end
end Go.Proofs.YtlaifpbickdpkaaDoor
