/- Arguments, opened: written by gwopn.py (own work). -/
import Derived.Test.YtkfopceebbebjaaDoorT2
import Derived.Test.YtkfopceebbebjaaDoorGwO
namespace Go.Proofs.YtkfopceebbebjaaDoor
open Go.RowKit
set_option linter.unusedVariables false
set_option linter.unusedSimpArgs false
theorem ocells3 : Tryd.prog.cellsOf 3 = 1 := by kernel_rfl
theorem ocells9 : Tryd.prog.cellsOf 9 = 1 := by kernel_rfl
theorem ocells23 : Tryd.prog.cellsOf 23 = 7 := by kernel_rfl
theorem ocells24 : Tryd.prog.cellsOf 24 = 1 := by kernel_rfl
theorem ocells26 : Tryd.prog.cellsOf 26 = 3 := by kernel_rfl
def GApiAsk (x : ApiAsk) : Prop := (Gint .i64) x.Id ∧ (Gint .i64) x.Kind ∧ Gstr x.Repo ∧ Gstr x.Digest ∧ (Gint .i64) x.Upload ∧ (Gint .i64) x.Offset ∧ Gstr x.Data
theorem opn23 : Opn Tryd.prog 23 KApiAsk GApiAsk := by
  intro H enc w base sp held fuel cs x h
  obtain ⟨hl, n, hf⟩ := opn_fields Tryd.underlying23 h
  rw [ocells23] at hl
  obtain ⟨z0, e0⟩ := hf _ (List.Mem.head _)
  have e0 : DataW.trod enc Tryd.prog w base sp held n 3 ((cs.drop 0).take (Tryd.prog.cellsOf 3)) = some z0 := e0
  rw [ocells3] at e0
  obtain ⟨y0, r0, g0⟩ := (opn_int Tryd.underlying3) enc w base sp held n _ _ e0
  obtain ⟨z1, e1⟩ := hf _ (List.Mem.tail _ (List.Mem.head _))
  have e1 : DataW.trod enc Tryd.prog w base sp held n 3 ((cs.drop 1).take (Tryd.prog.cellsOf 3)) = some z1 := e1
  rw [ocells3] at e1
  obtain ⟨y1, r1, g1⟩ := (opn_int Tryd.underlying3) enc w base sp held n _ _ e1
  obtain ⟨z2, e2⟩ := hf _ (List.Mem.tail _ (List.Mem.tail _ (List.Mem.head _)))
  have e2 : DataW.trod enc Tryd.prog w base sp held n 9 ((cs.drop 2).take (Tryd.prog.cellsOf 9)) = some z2 := e2
  rw [ocells9] at e2
  obtain ⟨y2, r2, g2⟩ := (opn_str Tryd.underlying9) enc w base sp held n _ _ e2
  obtain ⟨z3, e3⟩ := hf _ (List.Mem.tail _ (List.Mem.tail _ (List.Mem.tail _ (List.Mem.head _))))
  have e3 : DataW.trod enc Tryd.prog w base sp held n 9 ((cs.drop 3).take (Tryd.prog.cellsOf 9)) = some z3 := e3
  rw [ocells9] at e3
  obtain ⟨y3, r3, g3⟩ := (opn_str Tryd.underlying9) enc w base sp held n _ _ e3
  obtain ⟨z4, e4⟩ := hf _ (List.Mem.tail _ (List.Mem.tail _ (List.Mem.tail _ (List.Mem.tail _ (List.Mem.head _)))))
  have e4 : DataW.trod enc Tryd.prog w base sp held n 3 ((cs.drop 4).take (Tryd.prog.cellsOf 3)) = some z4 := e4
  rw [ocells3] at e4
  obtain ⟨y4, r4, g4⟩ := (opn_int Tryd.underlying3) enc w base sp held n _ _ e4
  obtain ⟨z5, e5⟩ := hf _ (List.Mem.tail _ (List.Mem.tail _ (List.Mem.tail _ (List.Mem.tail _ (List.Mem.tail _ (List.Mem.head _))))))
  have e5 : DataW.trod enc Tryd.prog w base sp held n 3 ((cs.drop 5).take (Tryd.prog.cellsOf 3)) = some z5 := e5
  rw [ocells3] at e5
  obtain ⟨y5, r5, g5⟩ := (opn_int Tryd.underlying3) enc w base sp held n _ _ e5
  obtain ⟨z6, e6⟩ := hf _ (List.Mem.tail _ (List.Mem.tail _ (List.Mem.tail _ (List.Mem.tail _ (List.Mem.tail _ (List.Mem.tail _ (List.Mem.head _)))))))
  have e6 : DataW.trod enc Tryd.prog w base sp held n 9 ((cs.drop 6).take (Tryd.prog.cellsOf 9)) = some z6 := e6
  rw [ocells9] at e6
  obtain ⟨y6, r6, g6⟩ := (opn_str Tryd.underlying9) enc w base sp held n _ _ e6
  clear hf h e0 e1 e2 e3 e4 e5 e6
  obtain ⟨c0, s0, rfl, hl0⟩ := len_cons hl
  obtain ⟨c1, s1, rfl, hl1⟩ := len_cons hl0
  obtain ⟨c2, s2, rfl, hl2⟩ := len_cons hl1
  obtain ⟨c3, s3, rfl, hl3⟩ := len_cons hl2
  obtain ⟨c4, s4, rfl, hl4⟩ := len_cons hl3
  obtain ⟨c5, s5, rfl, hl5⟩ := len_cons hl4
  obtain ⟨c6, s6, rfl, hl6⟩ := len_cons hl5
  obtain rfl := List.eq_nil_of_length_eq_zero hl6
  have r0 : (Kint .i64).R w (allLive w) y0 [c0] := r0
  obtain rfl : c0 = .int .i64 y0 := (List.cons.inj r0).1
  have r1 : (Kint .i64).R w (allLive w) y1 [c1] := r1
  obtain rfl : c1 = .int .i64 y1 := (List.cons.inj r1).1
  have r2 : Kstr.R w (allLive w) y2 [c2] := r2
  obtain rfl : c2 = .string (bs y2) := (List.cons.inj r2).1
  have r3 : Kstr.R w (allLive w) y3 [c3] := r3
  obtain rfl : c3 = .string (bs y3) := (List.cons.inj r3).1
  have r4 : (Kint .i64).R w (allLive w) y4 [c4] := r4
  obtain rfl : c4 = .int .i64 y4 := (List.cons.inj r4).1
  have r5 : (Kint .i64).R w (allLive w) y5 [c5] := r5
  obtain rfl : c5 = .int .i64 y5 := (List.cons.inj r5).1
  have r6 : Kstr.R w (allLive w) y6 [c6] := r6
  obtain rfl : c6 = .string (bs y6) := (List.cons.inj r6).1
  exact ⟨⟨y0, y1, y2, y3, y4, y5, y6⟩, rfl, ⟨g0, g1, g2, g3, g4, g5, g6⟩⟩
def GApiAnswer (x : ApiAnswer) : Prop := (Gint .i64) x.Id ∧ (Gint .i64) x.Err ∧ (Gint .i64) x.N
theorem opn26 : Opn Tryd.prog 26 KApiAnswer GApiAnswer := by
  intro H enc w base sp held fuel cs x h
  obtain ⟨hl, n, hf⟩ := opn_fields Tryd.underlying26 h
  rw [ocells26] at hl
  obtain ⟨z0, e0⟩ := hf _ (List.Mem.head _)
  have e0 : DataW.trod enc Tryd.prog w base sp held n 3 ((cs.drop 0).take (Tryd.prog.cellsOf 3)) = some z0 := e0
  rw [ocells3] at e0
  obtain ⟨y0, r0, g0⟩ := (opn_int Tryd.underlying3) enc w base sp held n _ _ e0
  obtain ⟨z1, e1⟩ := hf _ (List.Mem.tail _ (List.Mem.head _))
  have e1 : DataW.trod enc Tryd.prog w base sp held n 24 ((cs.drop 1).take (Tryd.prog.cellsOf 24)) = some z1 := e1
  rw [ocells24] at e1
  obtain ⟨y1, r1, g1⟩ := (opn_int Tryd.underlying24) enc w base sp held n _ _ e1
  obtain ⟨z2, e2⟩ := hf _ (List.Mem.tail _ (List.Mem.tail _ (List.Mem.head _)))
  have e2 : DataW.trod enc Tryd.prog w base sp held n 3 ((cs.drop 2).take (Tryd.prog.cellsOf 3)) = some z2 := e2
  rw [ocells3] at e2
  obtain ⟨y2, r2, g2⟩ := (opn_int Tryd.underlying3) enc w base sp held n _ _ e2
  clear hf h e0 e1 e2
  obtain ⟨c0, s0, rfl, hl0⟩ := len_cons hl
  obtain ⟨c1, s1, rfl, hl1⟩ := len_cons hl0
  obtain ⟨c2, s2, rfl, hl2⟩ := len_cons hl1
  obtain rfl := List.eq_nil_of_length_eq_zero hl2
  have r0 : (Kint .i64).R w (allLive w) y0 [c0] := r0
  obtain rfl : c0 = .int .i64 y0 := (List.cons.inj r0).1
  have r1 : (Kint .i64).R w (allLive w) y1 [c1] := r1
  obtain rfl : c1 = .int .i64 y1 := (List.cons.inj r1).1
  have r2 : (Kint .i64).R w (allLive w) y2 [c2] := r2
  obtain rfl : c2 = .int .i64 y2 := (List.cons.inj r2).1
  exact ⟨⟨y0, y1, y2⟩, rfl, ⟨g0, g1, g2⟩⟩
end Go.Proofs.YtkfopceebbebjaaDoor
