/- GwB: live cells, kinds of values, boxes; one rule an operation that touches memory (own work). -/
import Derived.Test.YtlaifpbickdpkaaDoorGwA
import Derived.ChangeKeysEq
namespace Go.Proofs.YtlaifpbickdpkaaDoor
open Go.RowKit
set_option linter.unusedVariables false
set_option linter.unusedSimpArgs false

/-! ### which cells live -/
/-- How many cells of a block no one writes any more. -/
abbrev Hw := Nat → Nat
def Hwf (w : World) (hw : Hw) : Prop := ∀ b, w.heap.size ≤ b → hw b = 0
/-- What lives is as it was. -/
structure Ext (w : World) (hw : Hw) (w' : World) (hw' : Hw) : Prop where
  mono : ∀ b, hw b ≤ hw' b
  cell : ∀ b i v, i < hw b → w.cell? ⟨b, i, none⟩ = some v → w'.cell? ⟨b, i, none⟩ = some v
  maps : ∀ b es c, 0 < hw b → w.heap[b]? = some (.map es c) → w'.heap[b]? = some (.map es c)
theorem Ext.refl (w : World) (hw : Hw) : Ext w hw w hw := ⟨fun _ => Nat.le_refl _, fun _ _ _ _ h => h, fun _ _ _ _ h => h⟩
theorem Ext.trans {w w1 w2 : World} {hw hw1 hw2 : Hw} (h : Ext w hw w1 hw1) (k : Ext w1 hw1 w2 hw2) : Ext w hw w2 hw2 :=
  ⟨fun b => Nat.le_trans (h.mono b) (k.mono b), fun b i v hi hc => k.cell b i v (Nat.lt_of_lt_of_le hi (h.mono b)) (h.cell b i v hi hc), fun b es c hb hm => k.maps b es c (Nat.lt_of_lt_of_le hb (h.mono b)) (h.maps b es c hb hm)⟩
/-- A step that turns no block but 'row', and of that none that lives. -/
structure Stp (row : Option Nat) (w : World) (hw : Hw) (w' : World) (hw' : Hw) : Prop where
  g : w.grownBy w' row
  keep : ∀ b, b < w.heap.size → some b ≠ row → hw' b = hw b
  ext : Ext w hw w' hw'
  wf : Hwf w' hw'
theorem Stp.refl (row : Option Nat) {w : World} {hw : Hw} (h : Hwf w hw) : Stp row w hw w hw := ⟨⟨rfl, rfl, rfl, Nat.le_refl _, fun _ _ _ => rfl⟩, fun _ _ _ => rfl, Ext.refl _ _, h⟩
theorem Stp.mk_none {w w' : World} {hw hw' : Hw} (hg : w.grownBy w' none) (hwf : Hwf w hw) (hk : ∀ b, b < w.heap.size → hw' b = hw b) (h' : Hwf w' hw') : Stp none w hw w' hw' := by
  refine ⟨hg, fun b hb _ => hk b hb, ⟨fun b => ?_, fun b i v hi hc => ?_, fun b es c _ hm => (hg.block b (Array.getElem?_eq_some_iff.1 hm).1 (by simp)).trans hm⟩, h'⟩
  · rcases Nat.lt_or_ge b w.heap.size with hb | hb
    · rw [hk b hb]; exact Nat.le_refl _
    · rw [hwf b hb]; exact Nat.zero_le _
  · exact hg.cell hc (by simp)
theorem Stp.mk_same {w w' : World} {hw : Hw} {row : Option Nat} (hg : w.grownBy w' row) (hwf : Hwf w hw) (hz : ∀ b, row = some b → hw b = 0) : Stp row w hw w' hw := by
  refine ⟨hg, fun _ _ _ => rfl, ⟨fun _ => Nat.le_refl _, fun b i v hi hc => ?_, fun b es c hb hm => (hg.block b (Array.getElem?_eq_some_iff.1 hm).1 (fun h => by have := hz b h.symm; omega)).trans hm⟩, fun b hb => hwf b (Nat.le_trans hg.size hb)⟩
  refine hg.cell hc (fun h => ?_)
  have := hz b h.symm
  omega
/-- The frame from the call's begin on. -/
theorem Stp.then {w0 w w' : World} {hw0 hw hw' : Hw} {row : Option Nat} (h : Stp none w0 hw0 w hw) (k : Stp row w hw w' hw') (hr : ∀ b, row = some b → w0.heap.size ≤ b) : Stp none w0 hw0 w' hw' := by
  refine ⟨⟨k.g.os.trans h.g.os, k.g.tape.trans h.g.tape, k.g.output.trans h.g.output, Nat.le_trans h.g.size k.g.size, fun i hi _ => ?_⟩, fun b hb _ => ?_, h.ext.trans k.ext, k.wf⟩
  · exact (k.g.block i (Nat.lt_of_lt_of_le hi h.g.size) (fun e => by have := hr i e.symm; omega)).trans (h.g.block i hi (by simp))
  · rw [k.keep b (Nat.lt_of_lt_of_le hb h.g.size) (fun e => by have := hr b e.symm; omega)]
    exact h.keep b hb (by simp)
theorem Stp.then0 {w0 w w' : World} {hw0 hw hw' : Hw} (h : Stp none w0 hw0 w hw) (k : Stp none w hw w' hw') : Stp none w0 hw0 w' hw' := h.then k (by simp)
theorem Stp.below {w w' : World} {hw hw' : Hw} (h : Stp none w hw w' hw') : Below w.heap.size w w' := ⟨h.g.os, h.g.tape, h.g.output, h.g.size, fun k hk => h.g.block k hk (by simp)⟩
theorem Stp.drew {w : World} {hw : Hw} (h : Hwf w hw) : Stp none w hw w.drew hw := Stp.mk_same ⟨rfl, rfl, rfl, Nat.le_refl _, fun _ _ _ => rfl⟩ h (by simp)
theorem Stp.alloc {w : World} {hw : Hw} (h : Hwf w hw) (o : Obj) : Stp none w hw (w.alloc o) hw := Stp.mk_same (World.grownBy_alloc w o none) h (by simp)
/-- More lives: cells of a block that is new since w0. -/
def raise (hw : Hw) (b k : Nat) : Hw := fun x => if x = b then max (hw b) k else hw x
theorem Stp.raise {w : World} {hw : Hw} (h : Hwf w hw) (b k : Nat) (hb : b < w.heap.size) : Stp (some b) w hw w (raise hw b k) := by
  refine ⟨⟨rfl, rfl, rfl, Nat.le_refl _, fun _ _ _ => rfl⟩, fun x hx hne => ?_, ⟨fun x => ?_, fun _ _ _ _ hc => hc, fun _ _ _ _ hm => hm⟩, fun x hx => ?_⟩
  · unfold Go.Proofs.YtlaifpbickdpkaaDoor.raise; rw [if_neg (fun e => hne (by rw [e]))]
  · unfold Go.Proofs.YtlaifpbickdpkaaDoor.raise; split
    · rename_i e; subst e; exact Nat.le_max_left _ _
    · exact Nat.le_refl _
  · unfold Go.Proofs.YtlaifpbickdpkaaDoor.raise; rw [if_neg (by omega)]; exact h x hx
theorem raise_same (hw : Hw) (b k : Nat) : k ≤ raise hw b k b := by unfold raise; rw [if_pos rfl]; exact Nat.le_max_right _ _

/-! ### kinds of values -/
structure Kind (α : Type) where
  sz : Nat
  R : World → Hw → α → List Value → Prop
  len : ∀ {w hw x cs}, R w hw x cs → cs.length = sz
  one : ∀ {w hw x cs}, R w hw x cs → ∀ u ∈ cs, u.oneCell' = true
  ext : ∀ {w hw w' hw' x cs}, Ext w hw w' hw' → R w hw x cs → R w' hw' x cs
/-- Cells that live, from an address on. -/
def Live (w : World) (hw : Hw) (b o : Nat) (cs : List Value) : Prop := o + cs.length ≤ hw b ∧ ∀ j u, cs[j]? = some u → w.cell? ⟨b, o + j, none⟩ = some u
theorem Live.ext {w w' : World} {hw hw' : Hw} {b o : Nat} {cs : List Value} (e : Ext w hw w' hw') (h : Live w hw b o cs) : Live w' hw' b o cs :=
  ⟨Nat.le_trans h.1 (e.mono b), fun j u hu => e.cell _ _ _ (by have := (List.getElem?_eq_some_iff.1 hu).1; have := h.1; omega) (h.2 j u hu)⟩
/-- A slice that reads as a list. -/
def Row {α : Type} (K : Kind α) (w : World) (hw : Hw) (v : Value) (xs : List α) : Prop :=
  ∃ A c, v = .slice A xs.length c ∧ xs.length ≤ c ∧ c ≤ 9223372036854775807 ∧ (A = none → c = 0) ∧
    (0 < xs.length → ∃ b o, A = some ⟨b, o, none⟩ ∧ ∀ j x, xs[j]? = some x → ∃ cs, K.R w hw x cs ∧ Live w hw b (o + j * K.sz) cs)
theorem Row.ext {α : Type} {K : Kind α} {w w' : World} {hw hw' : Hw} {v : Value} {xs : List α} (e : Ext w hw w' hw') (h : Row K w hw v xs) : Row K w' hw' v xs := by
  obtain ⟨A, c, rfl, h1, h2, hn, h3⟩ := h
  refine ⟨A, c, rfl, h1, h2, hn, fun hp => ?_⟩
  obtain ⟨b, o, rfl, hc⟩ := h3 hp
  refine ⟨b, o, rfl, fun j x hx => ?_⟩
  obtain ⟨cs, hr, hl⟩ := hc j x hx
  exact ⟨cs, K.ext e hr, hl.ext e⟩
theorem Row.nil {α : Type} (K : Kind α) (w : World) (hw : Hw) : Row K w hw (.slice none 0 0) [] := ⟨none, 0, rfl, Nat.le_refl _, by omega, fun _ => rfl, fun h => absurd h (by simp)⟩
theorem Row.slice {α : Type} {K : Kind α} {w : World} {hw : Hw} {v : Value} {xs : List α} (h : Row K w hw v xs) : ∃ A c, v = .slice A xs.length c := by
  obtain ⟨A, c, rfl, _⟩ := h; exact ⟨A, c, rfl⟩
def scal {α : Type} (enc : α → Value) (h1 : ∀ x, (enc x).oneCell' = true) : Kind α where
  sz := 1
  R := fun _ _ x cs => cs = [enc x]
  len := fun h => by rw [h]; rfl
  one := fun h u hu => by rw [h] at hu; rw [List.mem_singleton.1 hu]; exact h1 _
  ext := fun _ h => h
def Kint (k : IntKind) : Kind Int := scal (Value.int k) (fun _ => rfl)
def Kbool : Kind Bool := scal Value.bool (fun _ => rfl)
/-- A text, as the list of its bytes. -/
def bs (l : List UInt8) : ByteArray := ⟨l.toArray⟩
theorem bs_size (l : List UInt8) : (bs l).size = l.length := by simp [bs, ByteArray.size]
theorem bs_data (s : ByteArray) : bs s.data.toList = s := by cases s; simp [bs]
theorem bs_inj {a b : List UInt8} (h : bs a = bs b) : a = b := by
  have := congrArg (fun s : ByteArray => s.data.toList) h
  simpa [bs] using this
theorem bs_append (a b : List UInt8) : bs a ++ bs b = bs (a ++ b) := by
  apply ByteArray.ext
  simp [bs]
theorem bs_get (l : List UInt8) (i : Nat) : (bs l)[i]? = l[i]? := by
  simp only [getElem?_def, bs_size]
  split <;> rename_i h
  · congr 1
  · rfl
def Kstr : Kind (List UInt8) := scal (fun l => Value.string (bs l)) (fun _ => rfl)
def Kslice {α : Type} (K : Kind α) : Kind (List α) where
  sz := 1
  R := fun w hw xs cs => ∃ v, cs = [v] ∧ Row K w hw v xs
  len := by rintro w hw x cs ⟨v, rfl, _⟩; rfl
  one := by
    rintro w hw x cs ⟨v, rfl, h⟩ u hu
    obtain ⟨A, c, rfl⟩ := h.slice
    rw [List.mem_singleton.1 hu]; rfl
  ext := by rintro w hw w' hw' x cs e ⟨v, rfl, h⟩; exact ⟨v, rfl, h.ext e⟩

/-! ### types -/
def isAggD : TypeDesc → Bool
  | .struct _ | .array _ _ => true
  | _ => false
structure Ty (P : Program) (t : TypeId) (sz bytes : Nat) (agg : Bool) (z : Value) : Prop where
  h1 : (P.info? t).map (fun i => (i.zero, i.size, i.bytes)) = some (some z, sz, bytes)
  h2 : (P.underlying t).map isAggD = some agg
section
variable {P : Program} {t : TypeId} {sz bytes : Nat} {agg : Bool} {z : Value}
theorem Ty.info (h : Ty P t sz bytes agg z) : ∃ i, P.info? t = some i ∧ i.zero = some z ∧ i.size = sz ∧ i.bytes = bytes := info_parts h.h1
theorem Ty.isAgg (h : Ty P t sz bytes agg z) (w : World) : (isAgg t).run P w = .ok agg w := by
  obtain ⟨d, hd, he⟩ := Option.map_eq_some_iff.1 h.h2
  unfold Go.isAgg
  simp only [Sem.run_bind, run_underlying hd, Result.andThen_ok]
  rw [← he]
  cases d <;> rfl
theorem Ty.sizeOf (h : Ty P t sz bytes agg z) (w : World) : (sizeOf t).run P w = .ok sz w := by
  obtain ⟨i, hi, _, hs, _⟩ := h.info
  simp [Go.sizeOf, typeInfo, hi, hs]
theorem Ty.zero (h : Ty P t sz bytes agg z) (w : World) : (zeroValue t).run P w = .ok z w := by
  obtain ⟨i, hi, hz, _, _⟩ := h.info
  simp [zeroValue, typeInfo, hi, hz]
theorem Ty.load (h : Ty P t sz bytes true z) {w : World} {b o : Nat} {l : List Value} (hn : l.length = sz) (hc : ∀ j u, l[j]? = some u → w.cell? ⟨b, o + j, none⟩ = some u) :
    (Instr.loadAt t (.pointer (some ⟨b, o, none⟩))).run P w = .ok (.agg l.toArray) w := by
  have hl := run_loadCells_list (P := P) w ⟨b, o, none⟩ l (fun j v hj => by rw [Addr.add_lit]; exact hc j v hj)
  subst hn
  simp [Instr.loadAt, Instr.sureAddr, loadVar, Sem.run_bind, h.isAgg, h.sizeOf, hl]
theorem Ty.load1 (h : Ty P t sz bytes false z) {w : World} {b o : Nat} {v : Value} (hc : w.cell? ⟨b, o, none⟩ = some v) :
    (Instr.loadAt t (.pointer (some ⟨b, o, none⟩))).run P w = .ok v w := by
  simp [Instr.loadAt, Instr.sureAddr, loadVar, Sem.run_bind, h.isAgg, run_load, hc]
end

/-! ### boxes: blocks of the call's own that are written -/
structure Box (N0 : Nat) (w : World) (hw : Hw) (b : Nat) (T : TypeId) (cs : List Value) : Prop where
  heap : w.heap[b]? = some (.cells cs.toArray T (0, 0))
  z : hw b = 0
  new : N0 ≤ b
section
variable {N0 : Nat} {w w' : World} {hw hw' : Hw} {b b' : Nat} {T T' : TypeId} {cs cs' : List Value} {row : Option Nat}
theorem Box.lt (h : Box N0 w hw b T cs) : b < w.heap.size := (Array.getElem?_eq_some_iff.1 h.heap).1
theorem Box.step (h : Box N0 w hw b T cs) (s : Stp row w hw w' hw') (hne : some b ≠ row) : Box N0 w' hw' b T cs :=
  ⟨(s.g.block b h.lt hne).trans h.heap, by rw [s.keep b h.lt hne]; exact h.z, h.new⟩
theorem Box.step0 (h : Box N0 w hw b T cs) (s : Stp none w hw w' hw') : Box N0 w' hw' b T cs := h.step s (by simp)
theorem Box.stepb (h : Box N0 w hw b T cs) (s : Stp (some b') w hw w' hw') (hne : b ≠ b') : Box N0 w' hw' b T cs := h.step s (fun e => hne (Option.some.inj e))
theorem Box.cell (h : Box N0 w hw b T cs) (i : Nat) : w.cell? ⟨b, i, none⟩ = cs[i]? := by
  rw [cell_of_row w b i _ T (0, 0) h.heap]; simp
theorem Box.ne (h : Box N0 w hw b T cs) {c : Nat} (hc : w.heap.size ≤ c) : b ≠ c := by have := h.lt; omega
theorem Box.retype (h : Box N0 w hw b T cs) (e : cs = cs') : Box N0 w hw b T cs' := e ▸ h
end
end Go.Proofs.YtlaifpbickdpkaaDoor
