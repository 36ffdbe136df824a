/- Library functions by their contracts: written by gwlib.py (own work), over the kit's shelf. -/
import Derived.Test.YtlaifpbickdpkaaDoorShelf
import Derived.Test.YtlaifpbickdpkaaDoorGwY
import Derived.Sort.Grow
import Derived.Lib.SplitLaws
namespace Go.Proofs.YtlaifpbickdpkaaDoor
open Go.RowKit
set_option linter.unusedVariables false
set_option linter.unusedSimpArgs false
theorem bs_dl (l : List UInt8) : (bs l).data.toList = l := by simp [bs]
theorem bs_mk (l : List UInt8) : (⟨l.toArray⟩ : ByteArray) = bs l := rfl
theorem Stp.drewN {w : World} {hw : Hw} (h : Hwf w hw) (n : Nat) : Stp none w hw (w.drewN n) hw := Stp.mk_same ⟨rfl, rfl, rfl, Nat.le_refl _, fun _ _ _ => rfl⟩ h (by simp)
theorem Stp.grow {w : World} {hw : Hw} (h : Hwf w hw) (os : Array Obj) : Stp none w hw (Go.Sort.grow w os) hw :=
  Stp.mk_same ⟨rfl, rfl, rfl, by simp [Go.Sort.grow], fun k hk _ => by simp [Go.Sort.grow, Array.getElem?_append, hk]⟩ h (by simp)
theorem Stp.ofBelow {w w' : World} {hw : Hw} (h : Hwf w hw) (b : Below w.heap.size w w') : Stp none w hw w' hw := Stp.mk_same ⟨b.os, b.tape, b.output, b.size, fun k hk _ => b.block k hk⟩ h (by simp)
/-- What the package variables of Go's library hold. -/
def Gl (w : World) (hw : Hw) : Prop := (∃ m, w.cell? ⟨0, 0, none⟩ = some (.int .i64 m))
theorem cell_block {w w' : World} {a : Addr} {v : Value} (h : w.cell? a = some v) (hb : ∀ b, b < w.heap.size → w'.heap[b]? = w.heap[b]?) : w'.cell? a = some v := by
  have hlt : a.block < w.heap.size := by
    rcases Nat.lt_or_ge a.block w.heap.size with h1 | h1
    · exact h1
    · simp [World.cell?, Array.getElem?_eq_none h1] at h
  unfold World.cell? at h ⊢
  rw [hb _ hlt]; exact h
theorem Gl.of {w0 w : World} {hw0 hw : Hw} (h : Gl w0 hw0) (s : Stp none w0 hw0 w hw) : Gl w hw := by
  have hb : ∀ b, b < w0.heap.size → w.heap[b]? = w0.heap[b]? := fun b hlt => s.g.block b hlt (by simp)
  obtain ⟨m, h1⟩ := h
  exact ⟨m, cell_block h1 hb⟩

def strings_Cut.f (k : Nat) (a0 a1 : List UInt8) : Option (List UInt8 × List UInt8 × Bool) := if a0.length < 4294967281 then some (Lib.cut a0 a1) else none
theorem strings_Cut.ok (k : Nat) {w0 : World} {hw0 : Hw} (wf : Hwf w0 hw0) (a0 a1 : List UInt8) (gl : Gl w0 hw0) (r : List UInt8 × List UInt8 × Bool) (h : strings_Cut.f k a0 a1 = some r) :
    Calls Tryd.prog 12 #[.string (bs a0), .string (bs a1)] w0 fun e w' => ∃ (hw' : Hw), e = .returned (.tuple #[.string (bs r.1), .string (bs r.2.1), .bool r.2.2]) ∧ Stp none w0 hw0 w' hw' := by
  unfold strings_Cut.f at h
  split at h
  · rename_i hs
    have h := Option.some.inj h
    subst h
    obtain ⟨m, hm⟩ := gl
    refine (Tryd.strings_Cut (bs a0) (bs a1) m w0 (by rw [bs_size]; exact hs) hm).mono ?_
    rintro e w' ⟨rfl, n, rfl⟩
    exact ⟨hw0, by simp only [bs_dl, bs_mk], Stp.drewN wf n⟩
  · cases h
def strings_Count.f (k : Nat) (a0 a1 : List UInt8) : Option Int := if a0.length < 4294967281 ∧ 1 ≤ a1.length then some (Lib.countB (bs a0) (bs a1) : Int) else none
theorem strings_Count.ok (k : Nat) {w0 : World} {hw0 : Hw} (wf : Hwf w0 hw0) (a0 a1 : List UInt8) (gl : Gl w0 hw0) (r : Int) (h : strings_Count.f k a0 a1 = some r) :
    Calls Tryd.prog 48 #[.string (bs a0), .string (bs a1)] w0 fun e w' => ∃ (hw' : Hw), e = .returned (.int .i64 r) ∧ Stp none w0 hw0 w' hw' := by
  unfold strings_Count.f at h
  split at h
  · rename_i hs
    have h := Option.some.inj h
    subst h
    obtain ⟨m, hm⟩ := gl
    refine (Tryd.strings_Count_any (bs a0) (bs a1) m w0 (by rw [bs_size]; exact hs.1) hm (by rw [bs_size]; exact hs.2)).mono ?_
    rintro e w' ⟨rfl, rfl⟩
    exact ⟨hw0, rfl, Stp.refl _ wf⟩
  · cases h
def strings_IndexByte.f (k : Nat) (a0 : List UInt8) (a1 : Int) : Option Int := some (Lib.indexByte a0 (byteOf a1))
theorem strings_IndexByte.ok (k : Nat) {w0 : World} {hw0 : Hw} (wf : Hwf w0 hw0) (a0 : List UInt8) (a1 : Int) (r : Int) (h : strings_IndexByte.f k a0 a1 = some r) :
    Calls Tryd.prog 51 #[.string (bs a0), .int .u8 a1] w0 fun e w' => ∃ (hw' : Hw), e = .returned (.int .i64 r) ∧ Stp none w0 hw0 w' hw' := by
  have h := Option.some.inj h
  subst h
  refine (Tryd.strings_IndexByte (bs a0) a1 w0).mono ?_
  rintro e w' ⟨rfl, rfl⟩
  exact ⟨hw0, by simp only [bs_dl]; rfl, Stp.refl _ wf⟩
def strings_CutPrefix.f (k : Nat) (a0 a1 : List UInt8) : Option (List UInt8 × Bool) := some (Lib.trimPrefix a0 a1, Lib.hasPrefix a0 a1)
theorem strings_CutPrefix.ok (k : Nat) {w0 : World} {hw0 : Hw} (wf : Hwf w0 hw0) (a0 a1 : List UInt8) (r : List UInt8 × Bool) (h : strings_CutPrefix.f k a0 a1 = some r) :
    Calls Tryd.prog 36 #[.string (bs a0), .string (bs a1)] w0 fun e w' => ∃ (hw' : Hw), e = .returned (.tuple #[.string (bs r.1), .bool r.2]) ∧ Stp none w0 hw0 w' hw' := by
  have h := Option.some.inj h
  subst h
  refine (Tryd.strings_CutPrefix (bs a0) (bs a1) w0).mono ?_
  rintro e w' ⟨rfl, rfl⟩
  exact ⟨hw0, by simp only [bs_dl, bs_mk], Stp.refl _ wf⟩
def strings_Repeat.f (k : Nat) (a0 : List UInt8) (a1 : Int) : Option (List UInt8) := if 0 ≤ a1 ∧ a0.length * a1.toNat ≤ 140737488355328 ∧ a1 ≤ 9223372036854775807 then some (Lib.repeatL a0 a1.toNat) else none
theorem strings_Repeat.ok (k : Nat) {w0 : World} {hw0 : Hw} (wf : Hwf w0 hw0) (a0 : List UInt8) (a1 : Int) (r : List UInt8) (h : strings_Repeat.f k a0 a1 = some r) :
    Calls Tryd.prog 65 #[.string (bs a0), .int .i64 a1] w0 fun e w' => ∃ (hw' : Hw), e = .returned (.string (bs r)) ∧ Stp none w0 hw0 w' hw' := by
  unfold strings_Repeat.f at h
  split at h
  · rename_i hs
    have h := Option.some.inj h
    subst h
    obtain ⟨h0, h1, h2⟩ := hs
    have e1 : a1 = ((a1.toNat : Nat) : Int) := by omega
    have := Tryd.strings_Repeat (bs a0) a1.toNat w0 (by omega) (by rw [bs_size]; exact h1)
    rw [← e1] at this
    refine this.mono ?_
    rintro e w' ⟨rfl, hb⟩
    exact ⟨hw0, by simp only [bs_dl, bs_mk], Stp.ofBelow wf hb⟩
  · cases h
def strings_Join.f (k : Nat) (a0 : List (List UInt8)) (a1 : List UInt8) : Option (List UInt8) := if a0.length ≤ 140737488355328 ∧ (Lib.join a0 a1).length ≤ 140737488355328 then some (Lib.join a0 a1) else none
theorem strings_Join.ok (k : Nat) {w0 : World} {hw0 : Hw} (wf : Hwf w0 hw0) (a0 : List (List UInt8)) (a1 : List UInt8) (v0_ : Value) (q0 : Row Kstr w0 hw0 v0_ a0) (r : List UInt8) (h : strings_Join.f k a0 a1 = some r) :
    Calls Tryd.prog 79 #[v0_, .string (bs a1)] w0 fun e w' => ∃ (hw' : Hw), e = .returned (.string (bs r)) ∧ Stp none w0 hw0 w' hw' := by
  unfold strings_Join.f at h
  split at h
  · rename_i hs
    have h := Option.some.inj h
    subst h
    obtain ⟨A0, c, rfl, h1, h2, hn, h3⟩ := q0
    by_cases hp : 0 < a0.length
    · obtain ⟨b, o, rfl, hc⟩ := h3 hp
      have hcell : ∀ (j : Nat) x, (a0.map bs)[j]? = some x → w0.cell? ⟨b, o + j, none⟩ = some (.string x) := by
        intro j x hj
        rw [List.getElem?_map] at hj
        obtain ⟨y, hy, rfl⟩ := Option.map_eq_some_iff.1 hj
        obtain ⟨cs, hk, hl⟩ := hc j y hy
        have hk' : cs = [Value.string (bs y)] := hk
        subst hk'
        have := hl.2 0 _ rfl
        rw [Nat.add_zero, show Kstr.sz = 1 from rfl, Nat.mul_one] at this
        exact this
      have hblt : b < w0.heap.size := by
        have := hcell 0 (bs a0[0]) (by simp [List.getElem?_eq_getElem hp])
        rcases Nat.lt_or_ge b w0.heap.size with h | h
        · exact h
        · simp [World.cell?, Array.getElem?_eq_none h] at this
      have e1 : (a0.map bs).map (fun x => x.data.toList) = a0 := by simp [bs_dl, List.map_map, Function.comp_def]
      have := Tryd.strings_Join b o c (a0.map bs) (bs a1) w0 hcell hblt (by simpa using hs.1) (by simpa using h1) (by rw [e1, bs_dl]; exact hs.2)
      rw [e1, bs_dl, List.length_map] at this
      refine this.mono ?_
      rintro e w' ⟨rfl, hb⟩
      exact ⟨hw0, rfl, Stp.ofBelow wf hb⟩
    · have h0 : a0 = [] := List.eq_nil_of_length_eq_zero (by omega)
      subst h0
      refine (Tryd.strings_Join_none A0 c (bs a1) w0).mono ?_
      rintro e w' ⟨rfl, hb⟩
      exact ⟨hw0, rfl, (by subst hb; exact Stp.refl _ wf)⟩
  · cases h
def strings_Split.f (k : Nat) (a0 a1 : List UInt8) : Option (List (List UInt8)) := if a0.length < 4294967281 ∧ 1 ≤ a1.length then some ((Lib.splitB (bs a1) 0 (Lib.countB (bs a0) (bs a1)) (bs a0)).map (fun x => x.data.toList)) else none
theorem strings_Split.ok (k : Nat) {w0 : World} {hw0 : Hw} (wf : Hwf w0 hw0) (a0 a1 : List UInt8) (gl : Gl w0 hw0) (r : List (List UInt8)) (h : strings_Split.f k a0 a1 = some r) :
    Calls Tryd.prog 23 #[.string (bs a0), .string (bs a1)] w0 fun e w' => ∃ (v0 : Value) (hw' : Hw), e = .returned (v0) ∧ Stp none w0 hw0 w' hw' ∧ Own Kstr 9 w0.heap.size w' hw' v0 r := by
  unfold strings_Split.f at h
  split at h
  · rename_i hs
    have h := Option.some.inj h
    obtain ⟨m, hm⟩ := gl
    refine (Tryd.strings_Split (bs a0) (bs a1) m w0 (by rw [bs_size]; exact hs.1) hm (by rw [bs_size]; exact hs.2)).mono ?_
    rintro e w' ⟨rfl, rfl⟩
    have hlen := Lib.splitB_all (bs a1) (by rw [bs_size]; exact hs.2) 0 _ (bs a0) rfl
    generalize hL : Lib.splitB (bs a1) 0 (Lib.countB (bs a0) (bs a1)) (bs a0) = L at hlen h ⊢
    rw [← hlen]
    have hcells : L.map Value.string = r.map (fun l => Value.string (bs l)) := by
      rw [← h, List.map_map]
      refine List.map_congr_left fun x _ => ?_
      simp [bs_data]
    have hrl : r.length = L.length := by rw [← h, List.length_map]
    have hg : w0.grownBy (w0.alloc (.cells (L.map Value.string).toArray 9)) none := World.grownBy_alloc w0 _ none
    have hst : Stp none w0 hw0 (w0.alloc (.cells (L.map Value.string).toArray 9)) (fun b => if b = w0.heap.size then r.length * Kstr.sz else hw0 b) := by
      refine Stp.mk_none hg wf (fun b hb => if_neg (by omega)) (fun b hb => ?_)
      have hb' : w0.heap.size + 1 ≤ b := by simpa using hb
      exact (if_neg (by omega)).trans (wf b (by omega))
    have hm2 : L.length ≤ maxLen := by
      have h1 := Lib.countB_le (bs a1) (by rw [bs_size]; exact hs.2) _ (bs a0) (Nat.le_refl _)
      rw [bs_size] at h1
      have := hs.1
      unfold maxLen
      omega
    refine ⟨_, _, rfl, hst, r.map (fun l => Value.string (bs l)), ⟨by simp [Kstr, scal], .inr ⟨w0.heap.size, L.length, _, by rw [hrl], Nat.le_refl _, heap_alloc_new w0 _, by omega, hm2, by simp [Kstr, scal], ?_⟩⟩, rowsC_scal_mk (enc := fun l => Value.string (bs l)) (h1 := fun _ => rfl) r, fun g hg => ?_⟩
    · rw [hcells, List.toList_toArray]
      simp only [Kstr, scal, Nat.mul_one]
      exact List.take_of_length_le (by simp)
    · have : w0.heap.size = g := by simpa [Value.ownBlock] using hg
      subst this
      exact if_pos rfl
  · cases h
end Go.Proofs.YtlaifpbickdpkaaDoor
