/- GwT: texts that are built: append of a text to bytes of the call's own (own work). -/
import Derived.Test.YtlaifpbickdpkaaDoorGwS
import Derived.Lib.AppendStr
import Derived.Lib.UnsafeStr
import Derived.Lib.Builder
namespace Go.Proofs.YtlaifpbickdpkaaDoor
open Go.RowKit
set_option linter.unusedVariables false
set_option linter.unusedSimpArgs false

/-- Bytes, as a text has them. -/
def K8 : Kind UInt8 := scal (fun b => Value.int .u8 b.toNat) (fun _ => rfl)
theorem rowsC8 {w : World} {hw : Hw} (xs : List UInt8) : RowsC K8 w hw xs (xs.map fun b => Value.int .u8 b.toNat) := rowsC_scal_mk (enc := fun b : UInt8 => Value.int .u8 b.toNat) (h1 := fun _ => rfl) xs
theorem strCells_bs (l : List UInt8) : Lib.strCells (bs l) = l.map (fun b => Value.int .u8 b.toNat) := by simp [Lib.strCells, bs]
theorem Stp.weaken {w w' : World} {hw hw' : Hw} (h : Stp none w hw w' hw') (row : Option Nat) : Stp row w hw w' hw' :=
  ⟨⟨h.g.os, h.g.tape, h.g.output, h.g.size, fun i hi _ => h.g.block i hi (by simp)⟩, fun b hb _ => h.keep b hb (by simp), h.ext, h.wf⟩
section
variable {P : Program} {w : World} {hw : Hw}
theorem own8_new {e : TypeId} (hwf : Hwf w hw) (zs : List UInt8) (sp : Array Value) (cap : Nat) (hcap : zs.length ≤ cap) (hm : cap ≤ maxLen) (hsz : ((zs.map fun b => Value.int .u8 b.toNat).toArray ++ sp).size = cap) {N0 : Nat} (hN : N0 ≤ w.heap.size) :
    ∃ hw', Own K8 e N0 (w.drew.alloc (.cells ((zs.map fun b => Value.int .u8 b.toNat).toArray ++ sp) e)) hw' (.slice (some ⟨w.heap.size, 0, none⟩) zs.length cap) zs ∧
      Stp none w hw (w.drew.alloc (.cells ((zs.map fun b => Value.int .u8 b.toNat).toArray ++ sp) e)) hw' := by
  have hg : w.grownBy (w.drew.alloc (.cells ((zs.map fun b => Value.int .u8 b.toNat).toArray ++ sp) e)) none := ⟨rfl, rfl, rfl, by simp, fun k hk _ => Below.heap_alloc w.drew _ k hk⟩
  have hst : Stp none w hw (w.drew.alloc (.cells ((zs.map fun b => Value.int .u8 b.toNat).toArray ++ sp) e)) (fun b => if b = w.heap.size then zs.length else hw b) := by
    refine Stp.mk_none hg hwf (fun b hb => if_neg (by omega)) (fun b hb => ?_)
    have hb' : w.heap.size + 1 ≤ b := by simpa using hb
    exact (if_neg (by omega)).trans (hwf b (by omega))
  refine ⟨_, ⟨zs.map fun b => Value.int .u8 b.toNat, ⟨by simp [K8, scal], .inr ⟨w.heap.size, cap, _, rfl, hN, heap_alloc_new w.drew _, hcap, hm, by simpa [K8, scal] using hsz, ?_⟩⟩, rowsC8 _, fun g hg => ?_⟩, hst⟩
  · simp only [K8, scal, Nat.mul_one, Array.toList_append, List.toList_toArray]
    rw [List.take_append_of_le_length (by simp), List.take_of_length_le (by simp)]
  · have : w.heap.size = g := by simpa [Value.ownBlock] using hg
    subst this
    rw [if_pos rfl]; simp [K8, scal]
theorem run_app_str {t u ty e : TypeId} (ht : P.underlying t = some (.slice e)) (hu : P.underlying u = some .string) (hT : Ty P e 1 1 false (.int .u8 0))
    (hwf : Hwf w hw) {N0 : Nat} {v : Value} {xs l : List UInt8} (ho : Own K8 e N0 w hw v xs) (hby : xs.length + l.length ≤ 140737488355328) (hN : N0 ≤ w.heap.size) :
    ∃ v' w' hw', (Builtin.append_ #[t, u] ty #[v, .string (bs l)]).run P w = .ok v' w' ∧ Own K8 e N0 w' hw' v' (xs ++ l) ∧ Stp v.ownBlock w hw w' hw' ∧ (v'.ownBlock = v.ownBlock ∨ v'.ownBlock = some w.heap.size) := by
  obtain ⟨cs, how, hr, hh⟩ := ho
  obtain ⟨i, hi, hz, hs, hb⟩ := hT.info
  have hcs := rowsC_scal hr
  have hsize := bs_size l
  have hcl : cs.length = xs.length := by rw [hcs]; simp
  rcases how.2 with ⟨rfl, h0⟩ | ⟨g, cap, cur, rfl, k1, k2, k3, k4, k5, k6⟩
  · have hx : xs = [] := List.eq_nil_of_length_eq_zero h0
    subst hx
    by_cases hl0 : l = []
    · subst hl0
      refine ⟨.slice none 0 0, w, hw, ?_, Own.nil _ _ _ _ _, Stp.refl _ hwf, .inl rfl⟩
      simp [Builtin.append_, run_underlying ht, run_underlying hu, Builtin.lenOf, bs_size, sizeOf, typeInfo, hi, Builtin.firstCells]
    · have hp : 0 < l.length := List.length_pos_iff.2 hl0
      have hrun := run_append_nil_string (P := P) w t u ty e i (.int .u8 0) ht hu hi hz (bs l) (by omega) (by omega) (by rw [hb]; omega)
      have hge := grownCap_ge w (bs l).size 0 e
      have hcm : grownCap w (bs l).size 0 e ≤ maxLen := grownCap_le_maxLen w _ _ e (by simp only [maxLen]; omega)
      obtain ⟨hw', o, s⟩ := own8_new (w := w) (hw := hw) (e := e) hwf l (Builtin.zeroCells (Value.int .u8 0).cells (grownCap w (bs l).size 0 e - (bs l).size)) (grownCap w (bs l).size 0 e) (by omega) hcm (by
        simp only [Array.size_append, List.size_toArray, List.length_map, size_zeroCells]
        show l.length + _ * 1 = _
        omega) hN
      have e1 : (bs l).data.map (fun b => Value.int .u8 b.toNat) = (l.map fun b => Value.int .u8 b.toNat).toArray := by simp [bs]
      rw [e1] at hrun
      rw [← hsize] at o
      exact ⟨_, _, hw', hrun, o, s.weaken _, .inr rfl⟩
  · have hk5 : cur.size = cap := by rw [k5]; show cap * 1 = _; omega
    have hk6 : cur.toList.take xs.length = cs := by rw [← k6]; show _ = List.take (xs.length * 1) _; rw [Nat.mul_one]
    by_cases hroom : xs.length + l.length ≤ cap
    · have hrun := Lib.run_append_room_string (P := P) w t u ty e i ht hu hi hs g xs.length cap cur k2 (bs l) (by omega) (by omega)
      rw [hk6, hsize, strCells_bs] at hrun
      have hg : w.grownBy (w.setRow g (cs ++ l.map (fun b => Value.int .u8 b.toNat) ++ cur.toList.drop (xs.length + l.length)).toArray) (some g) := ⟨rfl, rfl, rfl, by simp, fun k hk hne => setRow_other w g k _ (fun e => hne (by rw [e]))⟩
      have hgl := (how.lt g rfl).2
      have hnew := setRow_heap w g cur (cs ++ l.map (fun b => Value.int .u8 b.toNat) ++ cur.toList.drop (xs.length + l.length)).toArray e _ k2
      have st : Stp (some g) w hw (w.setRow g (cs ++ l.map (fun b => Value.int .u8 b.toNat) ++ cur.toList.drop (xs.length + l.length)).toArray) (fun b => if b = g then xs.length + l.length else hw b) := by
        refine ⟨hg, fun b hb hne => if_neg (fun e => hne (by rw [e])), ⟨fun b => ?_, fun b q x hq hc => ?_, fun b es c _ hm => (hg.block b (Array.getElem?_eq_some_iff.1 hm).1 (fun e => by
          have e2 : b = g := Option.some.inj e
          subst e2
          rw [k2] at hm
          cases hm)).trans hm⟩, fun b hb => ?_⟩
        · try dsimp only
          split
          · rename_i e; subst e; rw [hh b rfl]; show xs.length * 1 ≤ _; omega
          · exact Nat.le_refl _
        · by_cases hbg : b = g
          · subst hbg
            have hq' : q < xs.length := by have := hh b rfl; rw [this] at hq; simpa [K8, scal] using hq
            have h1 : cs[q]? = some x := by
              have := how.cells (g := b) rfl q (cs[q]'(by omega)) (List.getElem?_eq_getElem _)
              rw [Addr.add_lit, Nat.zero_add, hc] at this
              rw [List.getElem?_eq_getElem (by omega)]; exact this.symm
            rw [cell_of_row _ b q _ e (0, 0) hnew]
            simp only [List.getElem?_toArray, List.append_assoc]
            rw [List.getElem?_append_left (by omega)]; exact h1
          · exact hg.cell hc (fun h => hbg (Option.some.inj h))
        · have hb' : w.heap.size ≤ b := by simpa using hb
          exact (if_neg (by omega)).trans (hwf b hb')
      have e2 : (xs ++ l).length = xs.length + l.length := by simp
      refine ⟨_, _, _, hrun, ⟨cs ++ l.map (fun b => Value.int .u8 b.toNat), ⟨by rw [e2]; simp [K8, scal, hcl], .inr ⟨g, cap, _, by rw [e2], k1, hnew, by rw [e2]; exact hroom, k4, ?_, ?_⟩⟩, ?_, fun g' hg' => ?_⟩, st, .inl rfl⟩
      · simp [K8, scal, hcl]; omega
      · show List.take ((xs ++ l).length * 1) _ = _
        rw [Nat.mul_one, e2, List.toList_toArray]
        rw [List.take_append_of_le_length (by simp; omega), List.take_of_length_le (by simp; omega)]
      · rw [hcs, ← List.map_append]; exact rowsC8 _
      · have : g = g' := Option.some.inj hg'
        subst this
        rw [if_pos rfl, e2]; show _ = _ * 1; omega
    · have hrun := Lib.run_append_grow_string (P := P) w t u ty e i (.int .u8 0) ht hu hi hz ⟨g, 0, none⟩ xs.length cap cs (by rw [hcl, hs]; omega) (fun j x hj => how.cells (g := g) rfl j x hj) (bs l) (by omega) (by omega) (growslice_fits (by omega) (by rw [hb]; omega))
      have hge := grownCap_ge w (xs.length + (bs l).size) cap e
      have hcm : grownCap w (xs.length + (bs l).size) cap e ≤ maxLen := grownCap_le_maxLen w _ _ e (by simp only [maxLen]; omega)
      obtain ⟨hw', o, s⟩ := own8_new (w := w) (hw := hw) (e := e) hwf (xs ++ l) (Builtin.zeroCells (Value.int .u8 0).cells (grownCap w (xs.length + (bs l).size) cap e - (xs.length + (bs l).size))) (grownCap w (xs.length + (bs l).size) cap e) (by simp; omega) hcm (by
        simp only [Array.size_append, List.size_toArray, List.length_map, size_zeroCells, List.length_append]
        show xs.length + l.length + _ * 1 = _
        omega) hN
      have e1 : cs.toArray ++ (Lib.strCells (bs l)).toArray = ((xs ++ l).map fun b => Value.int .u8 b.toNat).toArray := by rw [strCells_bs, hcs]; simp
      rw [e1] at hrun
      have e2 : (xs ++ l).length = xs.length + (bs l).size := by simp [bs_size]
      rw [e2] at o
      exact ⟨_, _, hw', hrun, o, s.weaken _, .inr rfl⟩
end
theorem Row.lift {α : Type} {K K' : Kind α} {w : World} {hw : Hw} {v : Value} {xs : List α} (hs : K.sz = K'.sz) (h : ∀ x ∈ xs, ∀ cs, K.R w hw x cs → K'.R w hw x cs) (hr : Row K w hw v xs) : Row K' w hw v xs := by
  obtain ⟨A, c, rfl, h1, h2, hn, h3⟩ := hr
  refine ⟨A, c, rfl, h1, h2, hn, fun hp => ?_⟩
  obtain ⟨b, o, rfl, hc⟩ := h3 hp
  refine ⟨b, o, rfl, fun j x hx => ?_⟩
  obtain ⟨cs, hk, hl⟩ := hc j x hx
  exact ⟨cs, h x (List.mem_of_getElem? hx) cs hk, by rw [← hs]; exact hl⟩
/-- One bound for all elements of a row. -/
theorem Row.bound {n : Nat} {α : Type} {K : Kind α} {KN : Nat → {K : Kind α // K.sz = n}} {w : World} {hw : Hw} {v : Value} {xs : List α} (hs : K.sz = n) (hK : ∀ x cs, K.R w hw x cs → ∃ d, (KN d).1.R w hw x cs)
    (hle : ∀ d d' x cs, d ≤ d' → (KN d).1.R w hw x cs → (KN d').1.R w hw x cs) (hr : Row K w hw v xs) : ∃ d, Row (KN d).1 w hw v xs := by
  obtain ⟨A, c, rfl, h1, h2, hn, h3⟩ := hr
  by_cases hp : 0 < xs.length
  · obtain ⟨b, o, rfl, hc⟩ := h3 hp
    have key : ∀ k, k ≤ xs.length → ∃ d, ∀ j x, j < k → xs[j]? = some x → ∃ cs, (KN d).1.R w hw x cs ∧ Live w hw b (o + j * K.sz) cs := by
      intro k
      induction k with
      | zero => exact fun _ => ⟨0, fun j x hj => absurd hj (Nat.not_lt_zero _)⟩
      | succ k ih =>
        intro hk
        obtain ⟨d1, h1'⟩ := ih (by omega)
        obtain ⟨cs, hcs, hl⟩ := hc k xs[k] (List.getElem?_eq_getElem hk)
        obtain ⟨d2, h2'⟩ := hK _ _ hcs
        refine ⟨max d1 d2, fun j x hj hx => ?_⟩
        rcases Nat.lt_or_ge j k with h | h
        · obtain ⟨cs', ha, hb⟩ := h1' j x h hx
          exact ⟨cs', hle _ _ _ _ (Nat.le_max_left _ _) ha, hb⟩
        · have : j = k := by omega
          subst this
          rw [List.getElem?_eq_getElem hk] at hx
          cases hx
          exact ⟨cs, hle _ _ _ _ (Nat.le_max_right _ _) h2', hl⟩
    obtain ⟨d, hd⟩ := key xs.length (Nat.le_refl _)
    refine ⟨d, some ⟨b, o, none⟩, c, rfl, h1, h2, by simp, fun _ => ⟨b, o, rfl, fun j x hx => ?_⟩⟩
    obtain ⟨cs, ha, hb⟩ := hd j x (List.getElem?_eq_some_iff.1 hx).1 hx
    exact ⟨cs, ha, by rw [(KN d).2, ← hs]; exact hb⟩
  · exact ⟨0, A, c, rfl, h1, h2, hn, fun h => absurd h hp⟩
end Go.Proofs.YtlaifpbickdpkaaDoor
