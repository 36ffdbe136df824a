/- GwS: bytes and texts; rows of scalars that are written element by element (own work). -/
import Derived.Test.YtlaifpbickdpkaaDoorGwM
import Derived.Laws.BytesArg
import Derived.Laws.MakeOwn
namespace Go.Proofs.YtlaifpbickdpkaaDoor
open Go.RowKit
set_option linter.unusedVariables false
set_option linter.unusedSimpArgs false

def ofInts (xs : List Int) : List UInt8 := xs.map fun n => UInt8.ofNat n.toNat
theorem bs_ofInts (xs : List Int) : bs (ofInts xs) = strOfNums xs := rfl
section
variable {α : Type} {enc : α → Value} {h1 : ∀ x, (enc x).oneCell' = true} {w w' : World} {hw hw' : Hw} {e : TypeId} {N0 : Nat}
theorem rowsC_scal : ∀ {xs : List α} {cs : List Value}, RowsC (scal enc h1) w hw xs cs → cs = xs.map enc
  | [], cs, h => h
  | x :: xs, cs, ⟨c, r, he, hc, hr⟩ => by
    have hc' : c = [enc x] := hc
    rw [he, hc', rowsC_scal hr]; rfl
theorem rowsC_scal_mk : ∀ (xs : List α), RowsC (scal enc h1) w hw xs (xs.map enc)
  | [] => rfl
  | x :: xs => ⟨[enc x], xs.map enc, rfl, rfl, rowsC_scal_mk xs⟩
/-- .. with its length told. -/
structure MutN (K : Kind α) (e : TypeId) (N0 : Nat) (w : World) (hw : Hw) (g n cap : Nat) (xs : List α) : Prop where
  m : Mut K e N0 w hw g cap xs
  len : xs.length = n
variable {K : Kind α} {g n cap b' : Nat} {xs : List α} {row : Option Nat}
theorem MutN.lt (h : MutN K e N0 w hw g n cap xs) : g < w.heap.size := h.m.lt.2
theorem MutN.new (h : MutN K e N0 w hw g n cap xs) : N0 ≤ g := h.m.lt.1
theorem MutN.step (h : MutN K e N0 w hw g n cap xs) (s : Stp row w hw w' hw') (hne : some g ≠ row) : MutN K e N0 w' hw' g n cap xs := ⟨h.m.step s hne, h.len⟩
theorem MutN.step0 (h : MutN K e N0 w hw g n cap xs) (s : Stp none w hw w' hw') : MutN K e N0 w' hw' g n cap xs := h.step s (by simp)
theorem MutN.stepb (h : MutN K e N0 w hw g n cap xs) (s : Stp (some b') w hw w' hw') (hne : g ≠ b') : MutN K e N0 w' hw' g n cap xs := h.step s (fun e => hne (Option.some.inj e))
theorem MutN.ne (h : MutN K e N0 w hw g n cap xs) {c : Nat} (hc : w.heap.size ≤ c) : g ≠ c := by have := h.lt; omega
theorem MutN.cell (h : MutN (scal enc h1) e N0 w hw g n cap xs) {i : Nat} {x : α} (hx : xs[i]? = some x) : w.cell? ⟨g, i, none⟩ = some (enc x) := by
  obtain ⟨⟨⟨cs, ho, hr⟩, hz⟩, hl⟩ := h
  have := ho.cells (g := g) rfl i (enc x) (by rw [rowsC_scal hr, List.getElem?_map, hx]; rfl)
  rwa [Addr.add_lit, Nat.zero_add] at this
theorem MutN.own (h : MutN K e N0 w hw g n cap xs) (hwf : Hwf w hw) : Own K e N0 w (raise hw g (xs.length * K.sz)) (.slice (some ⟨g, 0, none⟩) n cap) xs ∧ Stp (some g) w hw w (raise hw g (xs.length * K.sz)) := by
  have := h.m.own hwf
  rw [h.len] at this ⊢
  exact this
end
section
variable {P : Program} {ops : Array Oper} {Q : Exit → Act → World → Prop} {n : Nat} {σ : Nat → Value} {w : World} {hw : Hw} {rest : List Oper}
variable {d : Nat} {x y z : Operand} {t t2 ty : TypeId} {pos : String} {after : Array Edge} {N0 g len cap : Nat} {e : TypeId} {sz bytes : Nat} {agg : Bool} {zv : Value}
theorem wl_conv_bytes {s2 dst : TypeId} {v : Value} {xs : List Int} (hs : P.underlying s2 = some (.slice e)) (he : P.underlying e = some (.int .u8)) (hd : P.underlying dst = some .string) (hr : Row (Kint .u8) w hw v xs) (hx : ev n σ x = v)
    (KK : WL P ops Q rest (mkA n (upd σ d (.string (bs (ofInts xs))))) w) : WL P ops Q (⟨some d, .convert s2 dst x, ty, pos, after, none⟩ :: rest) (mkA n σ) w := by
  obtain ⟨A, c, rfl, h1, h2, hn, h3⟩ := hr
  refine wl_val (w' := w) ?_ KK
  by_cases hp : 0 < xs.length
  · obtain ⟨b, o, rfl, hc⟩ := h3 hp
    have := run_convert_bytes_arg (P := P) w s2 e hs he b o xs.length c xs rfl (fun i hi => by
      obtain ⟨cs, hk, hl⟩ := hc i xs[i] (List.getElem?_eq_getElem hi)
      have hk' : cs = [Value.int .u8 xs[i]] := hk
      subst hk'
      have := hl.2 0 _ rfl
      rw [Nat.add_zero, show (Kint .u8).sz = 1 from rfl, Nat.mul_one] at this
      rw [this]
      simp [List.getD, List.getElem?_eq_getElem hi]) dst hd
    simp [execOp, hx, this, bs_ofInts]
  · have hxs : xs = [] := List.eq_nil_of_length_eq_zero (by omega)
    subst hxs
    cases A with
    | none =>
      have := run_convert_bytes_nil (P := P) w s2 e hs he 0 c dst hd
      simp [execOp, hx, this]; rfl
    | some a =>
      have := run_bytesToString (P := P) w a 0 c [] (by simpa using run_loadCells_list (P := P) w a [] (by simp))
      have h2 := run_convert_bytes_string (P := P) w s2 dst e (some a) 0 c hs he hd
      rw [this] at h2
      simp [execOp, hx, h2]; rfl
theorem wl_conv_bytesm {s2 dst : TypeId} {xs : List Int} (hs : P.underlying s2 = some (.slice e)) (he : P.underlying e = some (.int .u8)) (hd : P.underlying dst = some .string) (hr : MutN (Kint .u8) t2 N0 w hw g len cap xs) (hx : ev n σ x = .slice (some ⟨g, 0, none⟩) len cap)
    (KK : WL P ops Q rest (mkA n (upd σ d (.string (bs (ofInts xs))))) w) : WL P ops Q (⟨some d, .convert s2 dst x, ty, pos, after, none⟩ :: rest) (mkA n σ) w := by
  refine wl_val (w' := w) ?_ KK
  have := run_convert_bytes_arg (P := P) w s2 e hs he g 0 len cap xs hr.len (fun i hi => by
    have hi' : i < xs.length := by rw [hr.len]; exact hi
    rw [Nat.zero_add, hr.cell (List.getElem?_eq_getElem hi')]
    simp [List.getD, List.getElem?_eq_getElem hi']) dst hd
  simp [execOp, hx, this, bs_ofInts]
/-- make([]T, n). -/
theorem wl_make {α : Type} {enc : α → Value} {h1 : ∀ x, (enc x).oneCell' = true} {a : Int} (x0 : α) (ht : P.underlying t = some (.slice e)) (hT : Ty P e 1 bytes false (enc x0)) (hwf : Hwf w hw) (hN : N0 ≤ w.heap.size) (hx : ev n σ x = .int .i64 a) (h0 : 0 ≤ a) (hb : (bytes : Int) * a ≤ 281474976710656) (h63 : a ≤ 9223372036854775807)
    (hz : (enc x0).cells = #[enc x0])
    (KK : ∀ g w', Stp none w hw w' hw → MutN (scal enc h1) e N0 w' hw g a.toNat a.toNat (List.replicate a.toNat x0) → w.heap.size ≤ g → WL P ops Q rest (mkA n (upd σ d (.slice (some ⟨g, 0, none⟩) a.toNat a.toNat))) w') :
    WL P ops Q (⟨some d, .makeSlice t x x, ty, pos, after, none⟩ :: rest) (mkA n σ) w := by
  obtain ⟨i, hi, hzz, hs, hbb⟩ := hT.info
  have hr := run_make (P := P) w t e i (enc x0) ht hi hzz .i64 .i64 a a h0 (Int.le_refl _) (by rw [hbb]; exact hb) h63
  rw [hs, Nat.mul_one, hz] at hr
  have hm : madeCells #[enc x0] a.toNat = (List.replicate a.toNat (enc x0)).toArray := by
    apply Array.ext_getElem?
    intro j
    simp [madeCells]
    by_cases hj : j < a.toNat
    · simp [hj, Nat.mod_one]
    · simp [hj]
  rw [hm] at hr
  refine wl_val (w' := w.alloc (.cells (List.replicate a.toNat (enc x0)).toArray e)) (by simp [execOp, hx, hr]) (KK w.heap.size _ (Stp.alloc hwf _) ⟨⟨⟨_, ?_, rowsC_scal_mk _⟩, hwf _ (Nat.le_refl _)⟩, by simp⟩ (Nat.le_refl _))
  refine ⟨by simp [scal], .inr ⟨w.heap.size, a.toNat, _, by simp, hN, heap_alloc_new w _, by simp, by simp [maxLen]; omega, by simp [scal], by simp [scal]⟩⟩
/-- xs[i] of a row that is written. -/
theorem wl_atm {a : Int} (ht : P.underlying t = some (.slice e)) (he : Ty P e 1 bytes agg zv) (hx : ev n σ x = .slice (some ⟨g, 0, none⟩) len cap) (hy : ev n σ y = .int .i64 a) (h0 : 0 ≤ a) (h1 : a < (len : Int))
    (KK : WL P ops Q rest (mkA n (upd σ d (.pointer (some ⟨g, a.toNat, none⟩)))) w) : WL P ops Q (⟨some d, .indexAddr t x y, ty, pos, after, none⟩ :: rest) (mkA n σ) w := by
  refine wl_val (v := .pointer (some ⟨g, a.toNat, none⟩)) (w' := w) ?_ KK
  simp only [execOp, Instr.indexAt, hx, hy, asIntOf, Sem.run_bind, Sem.run_pure, Result.andThen_ok, run_underlying ht]
  rw [if_pos ⟨h0, h1⟩]
  simp [he.sizeOf, Addr.add_lit]
theorem wl_loadm {α : Type} {enc : α → Value} {h1 : ∀ x, (enc x).oneCell' = true} {i : Nat} {xs : List α} {u : α} (M : MutN (scal enc h1) e N0 w hw g len cap xs) (hT : Ty P t 1 bytes false zv) (hx : ev n σ x = .pointer (some ⟨g, i, none⟩)) (hu : xs[i]? = some u)
    (KK : WL P ops Q rest (mkA n (upd σ d (enc u))) w) : WL P ops Q (⟨some d, .load t x, ty, pos, after, none⟩ :: rest) (mkA n σ) w :=
  wl_load1 hT hx (enc u) (M.cell hu) KK
theorem wl_storem {α : Type} {enc : α → Value} {h1 : ∀ x, (enc x).oneCell' = true} {i : Nat} {xs : List α} (u : α) (M : MutN (scal enc h1) e N0 w hw g len cap xs) (hwf : Hwf w hw) (hT : Ty P t 1 bytes false zv) (hx : ev n σ x = .pointer (some ⟨g, i, none⟩)) (hy : (ev n σ y) = enc u) (hc : (enc u).cells = #[enc u]) (hi : i < len)
    (KK : ∀ w', Stp (some g) w hw w' hw → MutN (scal enc h1) e N0 w' hw g len cap (xs.set i u) → WL P ops Q rest (mkA n σ) w') : WL P ops Q (⟨none, .store t x y, ty, pos, after, none⟩ :: rest) (mkA n σ) w := by
  obtain ⟨⟨⟨cs, ho, hr⟩, hz⟩, hl⟩ := M
  rcases ho.2 with ⟨h, _⟩ | ⟨g', cap', cur, h, k1, k2, k3, k4, k5, k6⟩
  · cases h
  cases h
  have hcs := rowsC_scal hr
  have k5' : cur.size = cap := by rw [k5]; show cap * 1 = cap; omega
  have hfit : 0 + i + [enc u].length ≤ cur.size := by simp; omega
  have hst := run_storeCells_at P g i e [enc u] 0 cur w k2 (by simpa using hfit) (by intro v hv; rw [List.mem_singleton.1 hv]; exact h1 u)
  simp only [Nat.add_zero] at hst
  have st : Stp (some g) w hw (w.setRow g (cur.toList.take i ++ [enc u] ++ cur.toList.drop (i + [enc u].length)).toArray) hw :=
    Stp.mk_same ⟨rfl, rfl, rfl, by simp, fun k hk hne => setRow_other w g k _ (fun e => hne (by rw [e]))⟩ hwf (fun b hb => by cases hb; exact hz)
  have hset : cur.toList.take i ++ [enc u] ++ cur.toList.drop (i + [enc u].length) = cur.toList.set i (enc u) := by
    rw [List.set_eq_take_append_cons_drop, if_pos (by simp; omega)]
    simp
  rw [hset] at hst st
  refine wl_skip0 (w' := _) ?_ (KK _ st ⟨⟨⟨(xs.set i u).map enc, ⟨by simp [scal], .inr ⟨g, cap, _, by simp, k1, setRow_heap w g cur _ e _ k2, by simpa using k3, k4, ?_, ?_⟩⟩, rowsC_scal_mk _⟩, hz⟩, by simpa using hl⟩)
  · have hsz : ¬ (ev n σ y).cells.size ≠ 1 := by rw [hy, hc]; simp
    simp only [execOp, Instr.storeAt, Instr.sureAddr, storeVar, hx, Sem.run_bind, Sem.run_pure, Result.andThen_ok, hT.sizeOf]
    rw [if_neg hsz, hy, hc]
    simp [hst]
  · simpa using k5
  · have h6 : List.take xs.length cur.toList = xs.map enc := by
      rw [← hcs, ← k6]; show _ = List.take (xs.length * 1) _; rw [Nat.mul_one]
    show List.take ((xs.set i u).length * 1) (cur.toList.set i (enc u)).toArray.toList = _
    rw [Nat.mul_one, List.length_set, List.toList_toArray, List.take_set, h6, List.map_set]
end
end Go.Proofs.YtlaifpbickdpkaaDoor
