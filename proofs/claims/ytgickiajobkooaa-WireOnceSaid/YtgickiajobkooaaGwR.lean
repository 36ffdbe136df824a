/- GwR: what came in, as rows all of whose cells live (own work). -/
import Derived.Test.YtgickiajobkooaaGwM
import Derived.ProofKit
import Derived.SizedLaws
namespace Go.Proofs.Ytgickiajobkooaa
open Go.ChangeShapes Go.WideShapes Go.ChangeAt Go.RowKit
set_option linter.unusedVariables false
set_option linter.unusedSimpArgs false

/-- All that is there lives. -/
def allLive (w : World) : Hw := fun b => match w.heap[b]? with
  | some (.cells cur _ _) => cur.size
  | _ => 0
theorem allLive_wf (w : World) : Hwf w (allLive w) := fun b hb => by
  unfold allLive
  rw [Array.getElem?_eq_none hb]
theorem cell_lt {w : World} {b i : Nat} {v : Value} (h : w.cell? ⟨b, i, none⟩ = some v) : i < allLive w b := by
  unfold allLive
  unfold World.cell? at h
  simp only at h
  cases hb : w.heap[b]? with
  | none => rw [hb] at h; simp at h
  | some o =>
    rw [hb] at h
    cases o <;> simp at h
    rename_i cur t p
    exact (Array.getElem?_eq_some_iff.1 h).1
theorem live1 {w : World} {b i : Nat} {v : Value} (h : w.cell? ⟨b, i, none⟩ = some v) : Live w (allLive w) b i [v] := by
  refine ⟨cell_lt h, fun j u hj => ?_⟩
  cases j with
  | zero => simp at hj; subst hj; exact h
  | succ j => simp at hj
/-- Rows of plain elements, as a kit's opening tells them. -/
theorem row_scal {α : Type} {enc : α → Value} {h1 : ∀ x, (enc x).oneCell' = true} {w : World} {a : Addr} {len cap : Nat} (xs : List α) (hl : xs.length = len) (hc : len ≤ cap) (hm : cap ≤ maxLen) (hcell : ∀ i x, xs[i]? = some x → w.cell? (a.add i) = some (enc x)) : Row (scal enc h1) w (allLive w) (.slice (some a) len cap) xs := by
  refine ⟨some a, cap, by rw [hl], by omega, by simpa [maxLen] using hm, by simp, fun hp => ?_⟩
  obtain ⟨b, off, spot⟩ := a
  have h0 := hcell 0 xs[0] (List.getElem?_eq_getElem hp)
  have hspot : spot = none := by simpa [Addr.add] using World.cell?_spot h0
  subst hspot
  refine ⟨b, off, rfl, fun j x hj => ⟨[enc x], rfl, ?_⟩⟩
  have := hcell j x hj
  rw [Addr.add_lit] at this
  rw [show off + j * (scal enc h1).sz = off + j from by show off + j * 1 = _; omega]
  exact live1 this
theorem row_strings {w : World} {a : Addr} {len cap : Nat} {ss : List ByteArray} (hlen : ss.length = (if true then cap else len)) (hc : len ≤ cap) (hm : cap ≤ maxLen) (hcell : ∀ i, i < ss.length → w.cell? (a.add i) = some (.string (ss.getD i ByteArray.empty))) :
    Row Kstr w (allLive w) (.slice (some a) len cap) ((ss.take len).map (·.data.toList)) := by
  simp only [if_true] at hlen
  refine row_scal _ (by simp; omega) hc hm fun i x hx => ?_
  rw [List.getElem?_map] at hx
  obtain ⟨s, hs, rfl⟩ := Option.map_eq_some_iff.1 hx
  rw [List.getElem?_take] at hs
  split at hs
  · have hi := (List.getElem?_eq_some_iff.1 hs).1
    rw [hcell i hi, List.getD_eq_getElem?_getD, hs]
    simp [bs_data]
  · cases hs
theorem row_ints {k : IntKind} {w : World} {a : Addr} {len cap : Nat} {zs : List Int} (hlen : zs.length = (if true then cap else len)) (hc : len ≤ cap) (hm : cap ≤ maxLen) (hcell : ∀ i, i < zs.length → w.cell? (a.add i) = some (.int k (zs.getD i 0))) :
    Row (Kint k) w (allLive w) (.slice (some a) len cap) (zs.take len) := by
  simp only [if_true] at hlen
  refine row_scal _ (by simp; omega) hc hm fun i x hx => ?_
  rw [List.getElem?_take] at hx
  split at hx
  · have hi := (List.getElem?_eq_some_iff.1 hx).1
    rw [hcell i hi, List.getD_eq_getElem?_getD, hx]; rfl
  · cases hx
end Go.Proofs.Ytgickiajobkooaa
