/- Arguments, opened: written by gwopn.py (own work). -/
import Derived.Test.YtlaifpbickdpkaaDoorT8
import Derived.Test.YtlaifpbickdpkaaDoorGwO
namespace Go.Proofs.YtlaifpbickdpkaaDoor
open Go.RowKit
set_option linter.unusedVariables false
set_option linter.unusedSimpArgs false
theorem ocells3 : Tryd.prog.cellsOf 3 = 1 := by kernel_rfl
theorem ocells9 : Tryd.prog.cellsOf 9 = 1 := by kernel_rfl
theorem ocells22 : Tryd.prog.cellsOf 22 = 1 := by kernel_rfl
theorem ocells24 : Tryd.prog.cellsOf 24 = 3 := by kernel_rfl
theorem ocells35 : Tryd.prog.cellsOf 35 = 1 := by kernel_rfl
theorem ocells36 : Tryd.prog.cellsOf 36 = 1 := by kernel_rfl
theorem ocells38 : Tryd.prog.cellsOf 38 = 3 := by kernel_rfl
def GApiDeed (x : ApiDeed) : Prop := (Gint .i64) x.Kind ∧ (Grow (Gint .i64)) x.Nums ∧ (Grow Gstr) x.Texts
theorem opn38 : Opn Tryd.prog 38 KApiDeed GApiDeed := by
  intro H enc w base sp held fuel cs x h
  obtain ⟨hl, n, hf⟩ := opn_fields Tryd.underlying38 h
  rw [ocells38] at hl
  obtain ⟨z0, e0⟩ := hf _ (List.Mem.head _)
  have e0 : DataW.trod enc Tryd.prog w base sp held n 3 ((cs.drop 0).take (Tryd.prog.cellsOf 3)) = some z0 := e0
  rw [ocells3] at e0
  obtain ⟨y0, r0, g0⟩ := (opn_int Tryd.underlying3) enc w base sp held n _ _ e0
  obtain ⟨z1, e1⟩ := hf _ (List.Mem.tail _ (List.Mem.head _))
  have e1 : DataW.trod enc Tryd.prog w base sp held n 35 ((cs.drop 1).take (Tryd.prog.cellsOf 35)) = some z1 := e1
  rw [ocells35] at e1
  obtain ⟨y1, r1, g1⟩ := (opn_slice Tryd.underlying35 ocells3 (by decide) (opn_int Tryd.underlying3)) enc w base sp held n _ _ e1
  obtain ⟨z2, e2⟩ := hf _ (List.Mem.tail _ (List.Mem.tail _ (List.Mem.head _)))
  have e2 : DataW.trod enc Tryd.prog w base sp held n 36 ((cs.drop 2).take (Tryd.prog.cellsOf 36)) = some z2 := e2
  rw [ocells36] at e2
  obtain ⟨y2, r2, g2⟩ := (opn_slice Tryd.underlying36 ocells9 (by decide) (opn_str Tryd.underlying9)) enc w base sp held n _ _ e2
  clear hf h e0 e1 e2
  obtain ⟨c0, s0, rfl, hl0⟩ := len_cons hl
  obtain ⟨c1, s1, rfl, hl1⟩ := len_cons hl0
  obtain ⟨c2, s2, rfl, hl2⟩ := len_cons hl1
  obtain rfl := List.eq_nil_of_length_eq_zero hl2
  have r0 : (Kint .i64).R w (allLive w) y0 [c0] := r0
  obtain rfl : c0 = .int .i64 y0 := (List.cons.inj r0).1
  have r1 : (Kslice (Kint .i64)).R w (allLive w) y1 [c1] := r1
  obtain ⟨v1, hv1, w1⟩ := r1
  obtain rfl : c1 = v1 := (List.cons.inj hv1).1
  have r2 : (Kslice Kstr).R w (allLive w) y2 [c2] := r2
  obtain ⟨v2, hv2, w2⟩ := r2
  obtain rfl : c2 = v2 := (List.cons.inj hv2).1
  exact ⟨⟨y0, y1, y2⟩, ⟨c1, c2, rfl, w1, w2⟩, ⟨g0, g1, g2⟩⟩
def GApiPlan (x : ApiPlan) : Prop := (Gint .i64) x.Quota ∧ (Gint .i64) x.Sectors ∧ (Grow GApiDeed) x.Deeds
theorem opn24 : Opn Tryd.prog 24 KApiPlan GApiPlan := by
  intro H enc w base sp held fuel cs x h
  obtain ⟨hl, n, hf⟩ := opn_fields Tryd.underlying24 h
  rw [ocells24] at hl
  obtain ⟨z0, e0⟩ := hf _ (List.Mem.head _)
  have e0 : DataW.trod enc Tryd.prog w base sp held n 3 ((cs.drop 0).take (Tryd.prog.cellsOf 3)) = some z0 := e0
  rw [ocells3] at e0
  obtain ⟨y0, r0, g0⟩ := (opn_int Tryd.underlying3) enc w base sp held n _ _ e0
  obtain ⟨z1, e1⟩ := hf _ (List.Mem.tail _ (List.Mem.head _))
  have e1 : DataW.trod enc Tryd.prog w base sp held n 3 ((cs.drop 1).take (Tryd.prog.cellsOf 3)) = some z1 := e1
  rw [ocells3] at e1
  obtain ⟨y1, r1, g1⟩ := (opn_int Tryd.underlying3) enc w base sp held n _ _ e1
  obtain ⟨z2, e2⟩ := hf _ (List.Mem.tail _ (List.Mem.tail _ (List.Mem.head _)))
  have e2 : DataW.trod enc Tryd.prog w base sp held n 22 ((cs.drop 2).take (Tryd.prog.cellsOf 22)) = some z2 := e2
  rw [ocells22] at e2
  obtain ⟨y2, r2, g2⟩ := (opn_slice Tryd.underlying22 ocells38 (by decide) opn38) enc w base sp held n _ _ e2
  clear hf h e0 e1 e2
  obtain ⟨c0, s0, rfl, hl0⟩ := len_cons hl
  obtain ⟨c1, s1, rfl, hl1⟩ := len_cons hl0
  obtain ⟨c2, s2, rfl, hl2⟩ := len_cons hl1
  obtain rfl := List.eq_nil_of_length_eq_zero hl2
  have r0 : (Kint .i64).R w (allLive w) y0 [c0] := r0
  obtain rfl : c0 = .int .i64 y0 := (List.cons.inj r0).1
  have r1 : (Kint .i64).R w (allLive w) y1 [c1] := r1
  obtain rfl : c1 = .int .i64 y1 := (List.cons.inj r1).1
  have r2 : (Kslice KApiDeed).R w (allLive w) y2 [c2] := r2
  obtain ⟨v2, hv2, w2⟩ := r2
  obtain rfl : c2 = v2 := (List.cons.inj hv2).1
  exact ⟨⟨y0, y1, y2⟩, ⟨c2, rfl, w2⟩, ⟨g0, g1, g2⟩⟩
end Go.Proofs.YtlaifpbickdpkaaDoor
