/- GwH: rows that are written in place (own work). -/
import Derived.Test.YtlaifpbickdpkaaDoorGwG
import Derived.Laws.OwnMore
import Derived.Laws.CopyRow
import Derived.Laws.Cover3
import Derived.Laws.StructEq
namespace Go.Proofs.YtlaifpbickdpkaaDoor
open Go.RowKit
set_option linter.unusedVariables false
set_option linter.unusedSimpArgs false

section
variable {α : Type} {K : Kind α} {w w' : World} {hw hw' : Hw} {e : TypeId} {N0 N1 : Nat} {v : Value} {xs ys : List α}
theorem RowsC.split : ∀ {i : Nat} {xs : List α} {cs : List Value}, RowsC K w hw xs cs → RowsC K w hw (xs.take i) (cs.take (i * K.sz)) ∧ RowsC K w hw (xs.drop i) (cs.drop (i * K.sz))
  | 0, xs, cs, h => by simp only [Nat.zero_mul, List.take_zero, List.drop_zero]; exact ⟨rfl, h⟩
  | i + 1, [], cs, h => by cases h; simp only [List.take_nil, List.drop_nil]; exact ⟨rfl, rfl⟩
  | i + 1, x :: xs, cs, ⟨c, r, he, hc, hr⟩ => by
    subst he
    have hl := K.len hc
    obtain ⟨h1, h2⟩ := RowsC.split (i := i) hr
    have e1 : (i + 1) * K.sz = c.length + i * K.sz := by rw [hl, Nat.add_mul, Nat.one_mul, Nat.add_comm]
    rw [e1, List.take_length_add_append, List.drop_length_add_append]
    exact ⟨⟨c, _, rfl, hc, h1⟩, h2⟩
/-- A block of the call's own, written in place, of which nothing lives. -/
structure Mut (K : Kind α) (e : TypeId) (N0 : Nat) (w : World) (hw : Hw) (g cap : Nat) (xs : List α) : Prop where
  h : ∃ cs, w.ownsRow N0 e K.sz (.slice (some ⟨g, 0, none⟩) xs.length cap) xs.length cs ∧ RowsC K w hw xs cs
  z : hw g = 0
theorem Mut.lt {g cap : Nat} (m : Mut K e N0 w hw g cap xs) : N0 ≤ g ∧ g < w.heap.size := by
  obtain ⟨cs, ho, _⟩ := m.h
  exact ho.lt g rfl
theorem Mut.cap_ge {g cap : Nat} (m : Mut K e N0 w hw g cap xs) : xs.length ≤ cap ∧ cap ≤ maxLen := by
  obtain ⟨cs, ho, _⟩ := m.h
  rcases ho.2 with ⟨h, _⟩ | ⟨g', cap', cur, h, _, _, h1, h2, _⟩
  · cases h
  · cases h; exact ⟨h1, h2⟩
theorem Mut.step {g cap : Nat} {row : Option Nat} (m : Mut K e N0 w hw g cap xs) (s : Stp row w hw w' hw') (hne : some g ≠ row) : Mut K e N0 w' hw' g cap xs := by
  have hlt := m.lt.2
  obtain ⟨⟨cs, ho, hr⟩, hz⟩ := m
  exact ⟨⟨cs, ho.kept s.g (.inr hne), hr.ext s.ext⟩, by rw [s.keep g hlt hne]; exact hz⟩
theorem Mut.low {g cap : Nat} (m : Mut K e N1 w hw g cap xs) (hN : N0 ≤ N1) : Mut K e N0 w hw g cap xs := by
  obtain ⟨⟨cs, ho, hr⟩, hz⟩ := m
  refine ⟨⟨cs, ⟨ho.1, ?_⟩, hr⟩, hz⟩
  rcases ho.2 with h | ⟨g, cap, cur, h1, h2, h3⟩
  · exact .inl h
  · exact .inr ⟨g, cap, cur, h1, Nat.le_trans hN h2, h3⟩
/-- It is written no more: its cells live. -/
theorem Mut.own {g cap : Nat} (m : Mut K e N0 w hw g cap xs) (hwf : Hwf w hw) : Own K e N0 w (raise hw g (xs.length * K.sz)) (.slice (some ⟨g, 0, none⟩) xs.length cap) xs ∧ Stp (some g) w hw w (raise hw g (xs.length * K.sz)) := by
  have hlt := m.lt.2
  obtain ⟨⟨cs, ho, hr⟩, hz⟩ := m
  have s := Stp.raise hwf g (xs.length * K.sz) hlt
  refine ⟨⟨cs, ho, hr.ext s.ext, fun g' hg' => ?_⟩, s⟩
  have : g = g' := Option.some.inj hg'
  subst this
  unfold raise
  rw [if_pos rfl, hz, Nat.max_eq_right (Nat.zero_le _)]
/-- Where a cut begins. -/
def acut (g o cap i sz : Nat) : Option Addr := if cap = i then some ⟨g, o, none⟩ else some ⟨g, o + i * sz, none⟩
end
section
variable {P : Program} {ops : Array Oper} {Q : Exit → Act → World → Prop} {n : Nat} {σ : Nat → Value} {w : World} {hw : Hw} {rest : List Oper}
variable {d : Nat} {x y z : Operand} {t t2 ty : TypeId} {pos : String} {after : Array Edge} {α : Type} {K : Kind α} {N0 : Nat} {xs ys : List α}
/-- A cut of a slice whose place is known. -/
theorem wl_cutm {e sz bytes : Nat} {agg : Bool} {zv : Value} {g o len cap : Nat} {lo hi : Option Operand} {i j : Int} (ht : P.underlying t = some (.slice e)) (he : Ty P e sz bytes agg zv) (hx : ev n σ x = .slice (some ⟨g, o, none⟩) len cap)
    (hlo : Bd n σ lo i 0) (hhi : Bd n σ hi j len) (h0 : 0 ≤ i) (h1 : i ≤ j) (h2 : j ≤ cap)
    (KK : WL P ops Q rest (mkA n (upd σ d (.slice (acut g o cap i.toNat sz) (j.toNat - i.toNat) (cap - i.toNat)))) w) :
    WL P ops Q (⟨some d, .slice t x lo hi none, ty, pos, after, none⟩ :: rest) (mkA n σ) w := by
  have e := run_sbs (P := P) (w := w) (len := len) (cap := cap) true hlo hhi h0 h1 (by omega)
  refine wl_val (w' := w) ?_ KK
  simp only [execOp, Instr.sliceAt, Instr.slice, hx]
  simp only [Sem.run_bind, run_underlying ht, Result.andThen_ok, Option.map_none, e, he.sizeOf, acut, Option.map_some, Addr.add_lit]
  rfl
/-- s[i:j:len(s)]. -/
theorem wl_cut3 {e sz bytes : Nat} {agg : Bool} {zv : Value} {A : Option Addr} {len cap : Nat} {lo hi mx : Operand} {i j : Int} (ht : P.underlying t = some (.slice e)) (he : Ty P e sz bytes agg zv) (hx : ev n σ x = .slice A len cap)
    (hlo : ev n σ lo = .int .i64 i) (hhi : ev n σ hi = .int .i64 j) (hmx : ev n σ mx = .int .i64 (len : Int)) (h0 : 0 ≤ i) (h1 : i ≤ j) (h2 : j ≤ len) (h3 : len ≤ cap)
    (KK : ∀ v, WL P ops Q rest (mkA n (upd σ d v)) w) :
    WL P ops Q (⟨some d, .slice t x (some lo) (some hi) (some mx), ty, pos, after, none⟩ :: rest) (mkA n σ) w := by
  have e1 : (Instr.sliceBounds true len cap (some (.int .i64 i)) (some (.int .i64 j)) (some (.int .i64 (len : Int)))).run P w = .ok (i.toNat, j.toNat, len) w := by
    simp [Instr.sliceBounds, run_sb (P := P) (w := w) (k := .i64) (i := (len : Int)) (y := cap) .slice3Acap (by omega) (by omega), run_sb (P := P) (w := w) (k := .i64) (i := j) (y := len) .slice3B (by omega) (by omega), run_sb (P := P) (w := w) (k := .i64) (i := i) (y := j.toNat) .slice3C (by omega) (by omega)]
  have ex : ∃ v, (execOp (ev n σ) ⟨some d, .slice t x (some lo) (some hi) (some mx), ty, pos, after, none⟩).run P w = .ok (.value v) w := by
    apply Exists.intro
    simp only [execOp, Instr.sliceAt, Instr.slice, hx, hlo, hhi, hmx]
    simp only [Sem.run_bind, run_underlying ht, Result.andThen_ok, Option.map_some, hlo, hhi, hmx, e1, he.sizeOf]
    rfl
  obtain ⟨v, hv⟩ := ex
  exact wl_val hv (KK v)
/-- append(s[:i], s[j:]..). -/
theorem wl_appm {e bytes : Nat} {agg : Bool} {zv : Value} {g cap i j : Nat} (ht : P.underlying t = some (.slice e)) (he : Ty P e K.sz bytes agg zv) (hwf : Hwf w hw) (m : Mut K e N0 w hw g cap xs)
    (hx : ev n σ x = .slice (some ⟨g, 0, none⟩) i cap) (hy : ev n σ y = .slice (acut g 0 cap j K.sz) (xs.length - j) (cap - j)) (hij : i ≤ j) (hj : j ≤ xs.length)
    (KK : ∀ w', Mut K e N0 w' hw g cap (xs.take i ++ xs.drop j) → Stp (some g) w hw w' hw → WL P ops Q rest (mkA n (upd σ d (.slice (some ⟨g, 0, none⟩) (i + (xs.length - j)) cap))) w') :
    WL P ops Q (⟨some d, .call { callee := .builtin .append, args := #[x, y], argTypes := #[t, t] }, ty, pos, after, none⟩ :: rest) (mkA n σ) w := by
  obtain ⟨ti, hi, hz, hs, hb⟩ := he.info
  have hcap := m.cap_ge
  obtain ⟨⟨cs, ho, hr⟩, hz0⟩ := m
  have hl := hr.len
  have hi2 : i ≤ xs.length := Nat.le_trans hij hj
  have ho1 : w.ownsRow N0 e K.sz (.slice (some ⟨g, 0, none⟩) i cap) i (cs.take (i * K.sz)) := by
    refine ⟨by rw [List.length_take, hl, Nat.min_eq_left (Nat.mul_le_mul_right _ hi2)], ?_⟩
    rcases ho.2 with ⟨h, _⟩ | ⟨g', cap', cur, h, h1, h2, h3, h4, h5, h6⟩
    · cases h
    · cases h
      refine .inr ⟨g, cap, cur, rfl, h1, h2, by omega, h4, h5, ?_⟩
      rw [← h6, List.take_take, Nat.min_eq_left (Nat.mul_le_mul_right _ hi2)]
  obtain ⟨ad, had, hcell⟩ : ∃ ad, acut g 0 cap j K.sz = some ad ∧ ∀ q u, (cs.drop (j * K.sz))[q]? = some u → w.cell? (ad.add q) = some u := by
    unfold acut
    by_cases hc : cap = j
    · rw [if_pos hc]
      refine ⟨_, rfl, fun q u hq => ?_⟩
      have : xs.length = j := by omega
      rw [List.getElem?_drop] at hq
      have := (List.getElem?_eq_some_iff.1 hq).1
      rw [hl] at this
      have h2 : xs.length * K.sz = j * K.sz := by rw [‹xs.length = j›]
      omega
    · rw [if_neg hc]
      refine ⟨_, rfl, fun q u hq => ?_⟩
      rw [List.getElem?_drop] at hq
      have := ho.cells (g := g) rfl _ u hq
      rw [Addr.add_lit] at this ⊢
      rw [show 0 + j * K.sz + q = 0 + (j * K.sz + q) by omega]
      exact this
  obtain ⟨hr1, _⟩ := hr.split (i := i)
  obtain ⟨_, hr2⟩ := hr.split (i := j)
  have hl2 : (cs.drop (j * K.sz)).length = (xs.length - j) * K.sz := by rw [List.length_drop, hl, Nat.sub_mul]
  obtain ⟨w', hrun, how, hg⟩ := run_append_fits (P := P) w N0 t ty e ti K.sz ht hi hs g i cap _ ho1 ad (xs.length - j) (cap - j) _ hl2 hcell (fun u hu => hr.one u (List.mem_of_mem_drop hu)) (by omega)
  have st : Stp (some g) w hw w' hw := Stp.mk_same hg hwf (fun b hb => by cases hb; exact hz0)
  refine wl_val (w' := w') ?_ (KK w' ⟨⟨_, ?_, (hr1.append hr2).ext st.ext⟩, hz0⟩ st)
  · simp [execOp, resolve, invoke, builtin, hx, hy, had, hrun]
  · have : (xs.take i ++ xs.drop j).length = i + (xs.length - j) := by simp; omega
    rw [this]; exact how
/-- clear(s[len:old]). -/
theorem wl_clearm {e bytes : Nat} {agg : Bool} {zv : Value} {g cap q c : Nat} {A : Option Addr} {cs0 : List Value} (ht : P.underlying t = some (.slice e)) (he : Ty P e K.sz bytes agg zv) (hzs : zv.cells.toList = cs0) (hcs : cs0.length = K.sz) (h1 : ∀ u ∈ cs0, u.oneCell' = true) (hwf : Hwf w hw) (m : Mut K e N0 w hw g cap xs)
    (hA : A = some ⟨g, xs.length * K.sz, none⟩) (hx : ev n σ x = .slice A q c) (hq : xs.length + q ≤ cap)
    (KK : ∀ w', Mut K e N0 w' hw g cap xs → Stp (some g) w hw w' hw → WL P ops Q rest (mkA n σ) w') :
    WL P ops Q (⟨none, .call { callee := .builtin .clear, args := #[x], argTypes := #[t] }, ty, pos, after, none⟩ :: rest) (mkA n σ) w := by
  subst hA
  have hcap := m.cap_ge
  obtain ⟨⟨cs, ho, hr⟩, hz0⟩ := m
  have hl := hr.len
  rcases ho.2 with ⟨h, _⟩ | ⟨g', cap', cur, h, k1, k2, k3, k4, k5, k6⟩
  · cases h
  cases h
  cases q with
  | zero =>
    have hrun : (Builtin.clear_ #[t] ty #[.slice (some ⟨g, xs.length * K.sz, none⟩) 0 c]).run P w = .ok (.tuple #[]) w := by
      simp [Builtin.clear_, run_underlying ht]
    refine wl_val0 (v := .tuple #[]) (w' := w) ?_ (KK w ⟨⟨cs, ho, hr⟩, hz0⟩ (Stp.mk_same ⟨rfl, rfl, rfl, Nat.le_refl _, fun _ _ _ => rfl⟩ hwf (fun b hb => by cases hb; exact hz0)))
    simp [execOp, resolve, invoke, builtin, hx, hrun]
  | succ q =>
    have hzl : (Builtin.zeroCells zv.cells (q + 1)).toList.length = (q + 1) * K.sz := by
      have := size_zeroCells zv.cells (q + 1)
      have e1 : zv.cells.size = K.sz := by rw [← hcs, ← hzs]; simp
      rw [e1] at this
      simpa using this
    have hz1 : ∀ u ∈ (Builtin.zeroCells zv.cells (q + 1)).toList, u.oneCell' = true := by
      have key : ∀ k, ∀ u ∈ (Builtin.zeroCells zv.cells k).toList, u ∈ zv.cells.toList := by
        intro k u hu
        simp only [Builtin.zeroCells] at hu
        simp at hu
        obtain ⟨q, hq, h⟩ := hu
        have hpos : 0 < zv.cells.size := Nat.pos_of_ne_zero (fun h0 => by rw [h0] at hq; simp at hq)
        rw [getElem!_pos zv.cells _ (Nat.mod_lt _ hpos)] at h
        rw [← h]
        simp
      intro u hu
      exact h1 u (hzs ▸ key _ u hu)
    have hfit : xs.length * K.sz + 0 + (Builtin.zeroCells zv.cells (q + 1)).toList.length ≤ cur.size := by
      rw [hzl, k5, Nat.add_zero, ← Nat.add_mul]; exact Nat.mul_le_mul_right _ hq
    have hst := run_storeCells_at P g (xs.length * K.sz) e (Builtin.zeroCells zv.cells (q + 1)).toList 0 cur w k2 hfit hz1
    have hrun : (Builtin.clear_ #[t] ty #[.slice (some ⟨g, xs.length * K.sz, none⟩) (q + 1) c]).run P w = .ok (.tuple #[]) (w.setRow g (cur.toList.take (xs.length * K.sz + 0) ++ (Builtin.zeroCells zv.cells (q + 1)).toList ++ cur.toList.drop (xs.length * K.sz + 0 + (Builtin.zeroCells zv.cells (q + 1)).toList.length)).toArray) := by
      simp [Builtin.clear_, run_underlying ht, he.zero]
      simpa using congrArg (fun r => Result.andThen r fun _ w => Result.ok (Value.tuple #[]) w) hst
    have st : Stp (some g) w hw (w.setRow g (cur.toList.take (xs.length * K.sz + 0) ++ (Builtin.zeroCells zv.cells (q + 1)).toList ++ cur.toList.drop (xs.length * K.sz + 0 + (Builtin.zeroCells zv.cells (q + 1)).toList.length)).toArray) hw :=
      Stp.mk_same ⟨rfl, rfl, rfl, by simp, fun k hk hne => setRow_other w g k _ (fun e => hne (by rw [e]))⟩ hwf (fun b hb => by cases hb; exact hz0)
    refine wl_val0 (v := .tuple #[]) ?_ (KK _ ⟨⟨cs, ⟨hl, .inr ⟨g, cap, _, rfl, k1, setRow_heap w g cur _ e _ k2, k3, k4, ?_, ?_⟩⟩, hr.ext st.ext⟩, hz0⟩ st)
    · simp [execOp, resolve, invoke, builtin, hx, hrun]
    · rw [← k5]
      simp only [List.size_toArray, List.length_append, List.length_take, List.length_drop, Array.length_toList]
      simp only [Array.length_toList] at hfit ⊢
      omega
    · rw [List.toList_toArray, List.append_assoc, Nat.add_zero]
      have hle : xs.length * K.sz ≤ cur.toList.length := by
        have := Nat.mul_le_mul_right K.sz k3
        rw [← k5] at this
        simpa using this
      rw [List.take_append_of_le_length (by rw [List.length_take]; exact Nat.le_min.2 ⟨Nat.le_refl _, hle⟩), List.take_take, Nat.min_self]
      exact k6
/-- append([]T{}, s..): a copy. -/
theorem wl_clone {e bytes : Nat} {agg : Bool} {zv : Value} {g : Nat} {vy : Value} (ht : P.underlying t = some (.slice e)) (he : Ty P e K.sz bytes agg zv) (hzs : zv.cells.size = K.sz) (hwf : Hwf w hw) (m : Mut K e N0 w hw g 0 ([] : List α)) (hN : N0 ≤ w.heap.size)
    (hx : ev n σ x = .slice (some ⟨g, 0, none⟩) 0 0) (hy : ev n σ y = vy) (hr : Row K w hw vy ys) (h63 : ys.length ≤ 9223372036854775807) (hby : ys.length * bytes ≤ 140737488355328)
    (KK : ∀ w' g' cap, Mut K e N0 w' hw g' cap ys → Stp (some g) w hw w' hw → WL P ops Q rest (mkA n (upd σ d (.slice (some ⟨g', 0, none⟩) ys.length cap))) w') :
    WL P ops Q (⟨some d, .call { callee := .builtin .append, args := #[x, y], argTypes := #[t, t] }, ty, pos, after, none⟩ :: rest) (mkA n σ) w := by
  obtain ⟨i, hi, hz, hs, hb⟩ := he.info
  obtain ⟨A, c, cs, rfl, hrc, hm, hA⟩ := hr.flat
  have hl := hrc.len
  by_cases hy0 : ys.length = 0
  · have hys : ys = [] := List.eq_nil_of_length_eq_zero hy0
    subst hys
    have hrun : ∃ w', (Builtin.append_ #[t, t] ty #[.slice (some ⟨g, 0, none⟩) 0 0, .slice A 0 c]).run P w = .ok (.slice (some ⟨g, 0, none⟩) 0 0) w' ∧ w' = w := by
      have hcs : cs = [] := List.eq_nil_of_length_eq_zero (by rw [hl]; simp)
      subst hcs
      refine ⟨w, ?_, rfl⟩
      have hf : (Builtin.firstCells i.size 0 (.slice A 0 c)).run P w = .ok #[] w := by
        cases A with
        | none => simp [Builtin.firstCells]
        | some ad => simpa using run_firstCells_some (P := P) w i.size 0 ad 0 c [] (by simp) (by simp)
      simp [Builtin.append_, run_underlying ht, Builtin.lenOf, sizeOf, typeInfo, hi, hf, storeCells]
    obtain ⟨w', hrun, rfl⟩ := hrun
    refine wl_val (w' := w') ?_ (KK w' g 0 m (Stp.mk_same ⟨rfl, rfl, rfl, Nat.le_refl _, fun _ _ _ => rfl⟩ hwf (fun b hb => by cases hb; exact m.z)))
    simp [execOp, resolve, invoke, builtin, hx, hy, hrun]
  · obtain ⟨ad, rfl, hcell⟩ : ∃ ad, A = some ad ∧ ∀ j u, cs[j]? = some u → w.cell? (ad.add j) = some u := by
      rcases hA with ⟨_, h, _⟩ | h
      · rw [h] at hy0; simp at hy0
      · exact h
    have hrun := run_append_grow (P := P) w t ty e i zv ht hi hz ⟨g, 0, none⟩ 0 0 [] (by simp) (by simp) ad ys.length c cs (by rw [hl, hs]) hcell (by omega) (by omega) (growslice_fits (by omega) (by rw [hb, Nat.zero_add]; exact hby))
    have hge := grownCap_ge w (0 + ys.length) 0 e
    have hcm : grownCap w (0 + ys.length) 0 e ≤ maxLen := grownCap_le_maxLen w _ _ e (by simpa [maxLen] using h63)
    have st : Stp none w hw (w.drew.alloc (.cells (List.toArray [] ++ cs.toArray ++ Builtin.zeroCells zv.cells (grownCap w (0 + ys.length) 0 e - (0 + ys.length))) e)) hw :=
      Stp.mk_same ⟨rfl, rfl, rfl, by simp, fun k hk _ => Below.heap_alloc w.drew _ k hk⟩ hwf (by simp)
    refine wl_val (v := .slice (some ⟨w.heap.size, 0, none⟩) ys.length (grownCap w (0 + ys.length) 0 e)) (w' := w.drew.alloc (.cells (List.toArray [] ++ cs.toArray ++ Builtin.zeroCells zv.cells (grownCap w (0 + ys.length) 0 e - (0 + ys.length))) e)) ?_ (KK _ w.heap.size (grownCap w (0 + ys.length) 0 e) ⟨⟨cs, ⟨hl, .inr ⟨w.heap.size, _, _, rfl, hN, heap_alloc_new w.drew _, ?_, hcm, ?_, ?_⟩⟩, hrc.ext st.ext⟩, hwf _ (Nat.le_refl _)⟩ ⟨?_, fun _ _ _ => rfl, st.ext, st.wf⟩)
    · simp [execOp, resolve, invoke, builtin, hx, hy, hrun]
    · rw [Nat.zero_add] at hge; simpa using hge
    · rw [Nat.zero_add] at hge
      simp only [Array.size_append, List.size_toArray, size_zeroCells, hzs, hl, List.length_nil, Nat.zero_add, ← Nat.add_mul]
      congr 1
      omega
    · rw [← hl]; simp
    · exact ⟨st.g.os, st.g.tape, st.g.output, st.g.size, fun k hk _ => st.g.block k hk (by simp)⟩
/-- []T{}: an empty block. -/
theorem wl_lit0 {e : Nat} (hsz : 0 ≤ K.sz) (hwf : Hwf w hw) (hN : N0 ≤ w.heap.size)
    (hb : (Instr.buildSlice t 0 #[]).run P w = .ok (.slice (some ⟨w.heap.size, 0, none⟩) 0 0) (w.alloc (.cells #[] e)))
    (KK : ∀ w' g, Mut K e N0 w' hw g 0 ([] : List α) → Stp none w hw w' hw → w.heap.size ≤ g → WL P ops Q rest (mkA n (upd σ d (.slice (some ⟨g, 0, none⟩) 0 0))) w') :
    WL P ops Q (⟨some d, .buildSlice t 0 #[], ty, pos, after, none⟩ :: rest) (mkA n σ) w := by
  have st : Stp none w hw (w.alloc (.cells #[] e)) hw := Stp.mk_same (World.grownBy_alloc w _ none) hwf (by simp)
  refine wl_val (w' := w.alloc (.cells #[] e)) (by simp only [execOp, List.map_toArray, List.map_nil, Sem.run_bind, hb]; simp [hb]) (KK _ w.heap.size ⟨⟨[], ⟨by simp, .inr ⟨w.heap.size, 0, #[], rfl, hN, heap_alloc_new w _, Nat.le_refl _, by simp [maxLen], by simp, by simp⟩⟩, rfl⟩, hwf _ (Nat.le_refl _)⟩ st (Nat.le_refl _))
/-- s == nil. -/
theorem row_nilness {v : Value} (hr : Row K w hw v xs) : (v = .slice none 0 0 ∧ xs = []) ∨ ∃ a c, v = .slice (some a) xs.length c := by
  obtain ⟨A, c, rfl, h1, h2, hn, h3⟩ := hr
  cases A with
  | none =>
    have := hn rfl
    subst this
    have : xs = [] := List.eq_nil_of_length_eq_zero (by omega)
    subst this
    exact .inl ⟨rfl, rfl⟩
  | some a => exact .inr ⟨a, c, rfl⟩
theorem wl_nil_t {e : TypeId} (ht : P.underlying t = some (.slice e)) (hx : ev n σ x = .slice none 0 0) (hy : ev n σ y = .slice none 0 0) (KK : WL P ops Q rest (mkA n (upd σ d (.bool true))) w) :
    WL P ops Q (⟨some d, .binOp .eql t x y t2, ty, pos, after, none⟩ :: rest) (mkA n σ) w :=
  wl_val (v := .bool true) (w' := w) (by simp [execOp, hx, hy, eqGuard, binOp, run_equal_slice_nil w t e none 0 0 ht]) KK
theorem wl_nil_f {e : TypeId} {a : Addr} {m c : Nat} (ht : P.underlying t = some (.slice e)) (hx : ev n σ x = .slice (some a) m c) (hy : ev n σ y = .slice none 0 0) (KK : WL P ops Q rest (mkA n (upd σ d (.bool false))) w) :
    WL P ops Q (⟨some d, .binOp .eql t x y t2, ty, pos, after, none⟩ :: rest) (mkA n σ) w :=
  wl_val (v := .bool false) (w' := w) (by simp [execOp, hx, hy, eqGuard, binOp, run_equal_slice_nil w t e (some a) m c ht]) KK
end
theorem acut_zero (g cap sz : Nat) : acut g 0 cap 0 sz = some ⟨g, 0, none⟩ := by unfold acut; split <;> simp
theorem acut_ne {i : Nat} (g cap sz : Nat) (h : cap ≠ i) : acut g 0 cap i sz = some ⟨g, i * sz, none⟩ := by unfold acut; rw [if_neg h, Nat.zero_add]
theorem Stp.tr {row : Option Nat} {w0 w w' : World} {hw0 hw hw' : Hw} (h : Stp row w0 hw0 w hw) (k : Stp row w hw w' hw') : Stp row w0 hw0 w' hw' :=
  ⟨⟨k.g.os.trans h.g.os, k.g.tape.trans h.g.tape, k.g.output.trans h.g.output, Nat.le_trans h.g.size k.g.size, fun i hi hne => (k.g.block i (Nat.lt_of_lt_of_le hi h.g.size) hne).trans (h.g.block i hi hne)⟩,
    fun b hb hne => (k.keep b (Nat.lt_of_lt_of_le hb h.g.size) hne).trans (h.keep b hb hne), h.ext.trans k.ext, k.wf⟩
theorem row_len {α : Type} {K : Kind α} {w : World} {hw : Hw} {v : Value} {xs : List α} (h : Row K w hw v xs) : xs.length ≤ 9223372036854775807 := by
  obtain ⟨A, c, _, h1, h2, _⟩ := h; omega
/-- nil, or a block that is written in place. -/
def MutV {α : Type} (K : Kind α) (e : TypeId) (N0 : Nat) (w : World) (hw : Hw) (v : Value) (xs : List α) : Prop :=
  (v = .slice none 0 0 ∧ xs = []) ∨ ∃ g cap, v = .slice (some ⟨g, 0, none⟩) xs.length cap ∧ Mut K e N0 w hw g cap xs
theorem MutV.own {α : Type} {K : Kind α} {e : TypeId} {w0 w : World} {hw0 hw : Hw} {v : Value} {xs : List α} (h : MutV K e w0.heap.size w hw v xs) (s : Stp none w0 hw0 w hw) : ∃ hw', Stp none w0 hw0 w hw' ∧ Own K e w0.heap.size w hw' v xs := by
  rcases h with ⟨rfl, rfl⟩ | ⟨g, cap, rfl, m⟩
  · exact ⟨hw, s, Own.nil _ _ _ _ _⟩
  · obtain ⟨o, s2⟩ := m.own s.wf
    exact ⟨_, s.then s2 (fun b e => by cases e; exact m.lt.1), o⟩
/-! ### structs that are compared -/
section
variable {P : Program} {w : World} {xs ys : Array Value} {D : Nat}
theorem eqf_nil : (Op.eqFields D xs ys []).run P w = .ok true w := rfl
theorem eqf_cons {f : Field} {fs : List Field} {a b : Value} {r r' : Bool} (hn : f.name ≠ "_") (ha : (part f.type xs f.offset).run P w = .ok a w) (hb : (part f.type ys f.offset).run P w = .ok b w)
    (hr : (Op.equalIn D f.type a b).run P w = .ok r w) (h : (Op.eqFields D xs ys fs).run P w = .ok r' w) : (Op.eqFields D xs ys (f :: fs)).run P w = .ok (r && r') w := by
  simp only [Op.eqFields, if_pos hn, Sem.run_bind, ha, hb, hr, Result.andThen_ok]
  cases r
  · rfl
  · simpa using h
theorem eqst_of {d : Nat} {t : TypeId} {fs : Array Field} {r : Bool} (hu : P.underlying t = some (.struct fs)) (hp : P.stoodInHeld t = false) (h : (Op.eqFields d xs ys fs.toList).run P w = .ok r w) : (Op.equalIn (d + 1) t (.agg xs) (.agg ys)).run P w = .ok r w := by
  have e : P.fieldsOf t = fs := by simp [Program.fieldsOf, hu]
  rw [run_equalIn_struct w d t xs ys (by rw [e]; exact hu) hp, e]; exact h
theorem eq_str {d : Nat} {t : TypeId} (a b : List UInt8) (h : P.underlying t = some .string) : (Op.equalIn (d + 1) t (.string (bs a)) (.string (bs b))).run P w = .ok (a == b) w := by
  rw [run_equalIn_string w d t _ _ h, bs_toList, bs_toList]
theorem wl_eqlst {ops : Array Oper} {Q : Exit → Act → World → Prop} {n : Nat} {σ : Nat → Value} {rest : List Oper} {d : Nat} {x y : Operand} {t t2 ty : TypeId} {pos : String} {after : Array Edge} {p : Bool} (hm : P.eqGuardType P.depth t = false)
    (hx : ev n σ x = .agg xs) (hy : ev n σ y = .agg ys) (he : (Op.equalIn 10000 t (.agg xs) (.agg ys)).run P w = .ok p w) (KK : WL P ops Q rest (mkA n (upd σ d (.bool p))) w) :
    WL P ops Q (⟨some d, .binOp .eql t x y t2, ty, pos, after, none⟩ :: rest) (mkA n σ) w :=
  wl_val (v := .bool p) (w' := w) (by simp [execOp, hx, hy, run_eqGuard_agg w .eql t x y xs ys hm, run_eql_struct, he, Result.andThen]) KK
theorem wl_neqst {ops : Array Oper} {Q : Exit → Act → World → Prop} {n : Nat} {σ : Nat → Value} {rest : List Oper} {d : Nat} {x y : Operand} {t t2 ty : TypeId} {pos : String} {after : Array Edge} {p : Bool} (hm : P.eqGuardType P.depth t = false)
    (hx : ev n σ x = .agg xs) (hy : ev n σ y = .agg ys) (he : (Op.equalIn 10000 t (.agg xs) (.agg ys)).run P w = .ok p w) (KK : WL P ops Q rest (mkA n (upd σ d (.bool (!p)))) w) :
    WL P ops Q (⟨some d, .binOp .neq t x y t2, ty, pos, after, none⟩ :: rest) (mkA n σ) w :=
  wl_val (v := .bool (!p)) (w' := w) (by simp [execOp, hx, hy, run_eqGuard_agg w .neq t x y xs ys hm, run_neq_struct, he, Result.andThen]) KK
end
end Go.Proofs.YtlaifpbickdpkaaDoor
