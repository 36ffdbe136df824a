/- GwU: frames with a footprint: blocks of the caller's that a function may turn (own work). -/
import Derived.Test.YtlaifpbickdpkaaDoorGwT
namespace Go.Proofs.YtlaifpbickdpkaaDoor
open Go.RowKit
set_option linter.unusedVariables false
set_option linter.unusedSimpArgs false

/-- A step that turns none of the old blocks but those of F, and nothing that lives. -/
structure StpS (F : Nat → Prop) (w : World) (hw : Hw) (w' : World) (hw' : Hw) : Prop where
  os : w'.os = w.os
  tape : w'.tape = w.tape
  out : w'.output = w.output
  size : w.heap.size ≤ w'.heap.size
  block : ∀ i, i < w.heap.size → ¬ F i → w'.heap[i]? = w.heap[i]?
  keep : ∀ b, b < w.heap.size → ¬ F b → hw' b = hw b
  ext : Ext w hw w' hw'
  wf : Hwf w' hw'
section
variable {F : Nat → Prop} {w0 w w' : World} {hw0 hw hw' : Hw} {row : Option Nat}
theorem StpS.refl (F : Nat → Prop) {w : World} {hw : Hw} (h : Hwf w hw) : StpS F w hw w hw := ⟨rfl, rfl, rfl, Nat.le_refl _, fun _ _ _ => rfl, fun _ _ _ => rfl, Ext.refl _ _, h⟩
theorem StpS.of {F : Nat → Prop} (s : Stp row w hw w' hw') (hr : ∀ b, row = some b → F b) : StpS F w hw w' hw' :=
  ⟨s.g.os, s.g.tape, s.g.output, s.g.size, fun i hi hn => s.g.block i hi (fun e => hn (hr i e.symm)), fun b hb hn => s.keep b hb (fun e => hn (hr b e.symm)), s.ext, s.wf⟩
theorem StpS.then (h : StpS F w0 hw0 w hw) (k : Stp row w hw w' hw') (hr : ∀ b, row = some b → w0.heap.size ≤ b ∨ F b) : StpS F w0 hw0 w' hw' := by
  refine ⟨k.g.os.trans h.os, k.g.tape.trans h.tape, k.g.output.trans h.out, Nat.le_trans h.size k.g.size, fun i hi hn => ?_, fun b hb hn => ?_, h.ext.trans k.ext, k.wf⟩
  · exact (k.g.block i (Nat.lt_of_lt_of_le hi h.size) (fun e => (hr i e.symm).elim (fun h1 => by omega) hn)).trans (h.block i hi hn)
  · rw [k.keep b (Nat.lt_of_lt_of_le hb h.size) (fun e => (hr b e.symm).elim (fun h1 => by omega) hn)]
    exact h.keep b hb hn
theorem StpS.then0 (h : StpS F w0 hw0 w hw) (k : Stp none w hw w' hw') : StpS F w0 hw0 w' hw' := h.then k (by simp)
theorem StpS.thenS {G : Nat → Prop} (h : StpS F w0 hw0 w hw) (k : StpS G w hw w' hw') (hr : ∀ b, G b → w0.heap.size ≤ b ∨ F b) : StpS F w0 hw0 w' hw' := by
  refine ⟨k.os.trans h.os, k.tape.trans h.tape, k.out.trans h.out, Nat.le_trans h.size k.size, fun i hi hn => ?_, fun b hb hn => ?_, h.ext.trans k.ext, k.wf⟩
  · exact (k.block i (Nat.lt_of_lt_of_le hi h.size) (fun e => (hr i e).elim (fun h1 => by omega) hn)).trans (h.block i hi hn)
  · rw [k.keep b (Nat.lt_of_lt_of_le hb h.size) (fun e => (hr b e).elim (fun h1 => by omega) hn)]
    exact h.keep b hb hn
/-- The caller's frame over a call with a footprint. -/
theorem Stp.thenS {G : Nat → Prop} (h : Stp none w0 hw0 w hw) (k : StpS G w hw w' hw') (hr : ∀ b, G b → w0.heap.size ≤ b) : Stp none w0 hw0 w' hw' := by
  refine ⟨⟨k.os.trans h.g.os, k.tape.trans h.g.tape, k.out.trans h.g.output, Nat.le_trans h.g.size k.size, fun i hi _ => ?_⟩, fun b hb _ => ?_, h.ext.trans k.ext, k.wf⟩
  · exact (k.block i (Nat.lt_of_lt_of_le hi h.g.size) (fun e => by have := hr i e; omega)).trans (h.g.block i hi (by simp))
  · rw [k.keep b (Nat.lt_of_lt_of_le hb h.g.size) (fun e => by have := hr b e; omega)]
    exact h.keep b hb (by simp)
theorem Box.stepS {N0 b : Nat} {T : TypeId} {cs : List Value} (h : Box N0 w hw b T cs) (s : StpS F w hw w' hw') (hn : ¬ F b) : Box N0 w' hw' b T cs :=
  ⟨(s.block b h.lt hn).trans h.heap, by rw [s.keep b h.lt hn]; exact h.z, h.new⟩
theorem StpS.g {F : Nat → Prop} (h : StpS F w hw w' hw') : StpS F w hw w' hw' := h
theorem Box.zero {N0 b : Nat} {T : TypeId} {cs : List Value} (h : Box N0 w hw b T cs) : Box 0 w hw b T cs := ⟨h.heap, h.z, Nat.zero_le _⟩
theorem Box.renew {N0 b : Nat} {T T' : TypeId} {cs cs' : List Value} (h : Box 0 w' hw' b T cs') (o : Box N0 w hw b T' cs) : Box N0 w' hw' b T cs' := ⟨h.heap, h.z, o.new⟩
theorem Own.stepS {α : Type} {K : Kind α} {e : TypeId} {N0 : Nat} {v : Value} {xs : List α} (h : Own K e N0 w hw v xs) (s : StpS F w hw w' hw') (hn : ∀ g, v.ownBlock = some g → ¬ F g) : Own K e N0 w' hw' v xs := by
  obtain ⟨cs, ho, hr, hh⟩ := h
  refine ⟨cs, ⟨ho.1, ?_⟩, hr.ext s.ext, fun g hg => ?_⟩
  · rcases ho.2 with h | ⟨g, cap, cur, rfl, h1, h2, h3⟩
    · exact .inl h
    · exact .inr ⟨g, cap, cur, rfl, h1, (s.block g (Array.getElem?_eq_some_iff.1 h2).1 (hn g rfl)).trans h2, h3⟩
  · rw [s.keep g (ho.lt g hg).2 (hn g hg)]; exact hh g hg
theorem OwnM.stepS {P : Program} {k e : TypeId} {N0 b : Nat} {D : DM} (h : OwnM P k e N0 w hw b D) (s : StpS F w hw w' hw') (hn : ¬ F b) : OwnM P k e N0 w' hw' b D := by
  refine ⟨?_, by rw [s.keep b h.lt hn]; exact h.z, h.new⟩
  have hlt := h.lt
  obtain ⟨es, clock, hb, r⟩ := h.own
  exact ⟨es, clock, (s.block b hlt hn).trans hb, r⟩
end
section
variable {P : Program} {ops : Array Oper} {Q : Exit → Act → World → Prop} {n : Nat} {σ : Nat → Value} {w : World} {rest : List Oper} {d : Nat} {x : Operand} {ty : TypeId} {pos : String} {after : Array Edge} {a : Addr}
theorem wl_nilchk (hx : ev n σ x = .pointer (some a)) (K : WL P ops Q rest (mkA n (upd σ d (.pointer (some a)))) w) : WL P ops Q (⟨some d, .nilCheck x, ty, pos, after, none⟩ :: rest) (mkA n σ) w :=
  wl_val (w' := w) (by simp [execOp, hx]) K
end
end Go.Proofs.YtlaifpbickdpkaaDoor
