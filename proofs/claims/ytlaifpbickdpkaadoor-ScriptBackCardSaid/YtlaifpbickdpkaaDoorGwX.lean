/- GwX: rows written in place that are handed back, cut and copied into (own work). -/
import Derived.Test.YtlaifpbickdpkaaDoorGwV
import Derived.Laws.CopyRow
namespace Go.Proofs.YtlaifpbickdpkaaDoor
open Go.RowKit
set_option linter.unusedVariables false
set_option linter.unusedSimpArgs false

/-- A value's part. -/
def cellOf (v : Value) (i : Nat) : Value := v.cells.getD i undef
/-- nil, or a row of the call's own that may be written still. -/
def MV {α : Type} (K : Kind α) (e : TypeId) (N0 : Nat) (w : World) (hw : Hw) (v : Value) (xs : List α) : Prop :=
  (xs = [] → v = .slice none 0 0) ∧ (xs ≠ [] → ∃ g, v = .slice (some ⟨g, 0, none⟩) xs.length xs.length ∧ MutN K e N0 w hw g xs.length xs.length xs)
theorem MV.nil {α : Type} {K : Kind α} {e : TypeId} {N0 : Nat} {w : World} {hw : Hw} {xs : List α} (h : xs = []) : MV K e N0 w hw (.slice none 0 0) xs := ⟨fun _ => rfl, fun n => absurd h n⟩
theorem MV.mut {α : Type} {K : Kind α} {e : TypeId} {N0 : Nat} {w : World} {hw : Hw} {g n : Nat} {xs : List α} (M : MutN K e N0 w hw g n n xs) (h : xs ≠ []) : MV K e N0 w hw (.slice (some ⟨g, 0, none⟩) n n) xs :=
  ⟨fun e => absurd e h, fun _ => ⟨g, by rw [M.len], by have := M; have e := M.len; subst e; exact this⟩⟩
theorem MutN.low {α : Type} {K : Kind α} {e : TypeId} {N0 N1 : Nat} {w : World} {hw : Hw} {g n c : Nat} {xs : List α} (M : MutN K e N1 w hw g n c xs) (h : N0 ≤ N1) : MutN K e N0 w hw g n c xs := ⟨M.m.low h, M.len⟩
theorem mut_bif_f {α : Type} {K : Kind α} {e : TypeId} {N0 : Nat} {w : World} {hw : Hw} {g n c : Nat} {xs ys : List α} {b : Bool} (h : b = false) (M : MutN K e N0 w hw g n c (bif false then xs else ys)) : MutN K e N0 w hw g n c (bif b then xs else ys) := by subst h; exact M
theorem mut_bif_t {α : Type} {K : Kind α} {e : TypeId} {N0 : Nat} {w : World} {hw : Hw} {g n c : Nat} {xs ys : List α} {b : Bool} (h : b = true) (M : MutN K e N0 w hw g n c (bif true then xs else ys)) : MutN K e N0 w hw g n c (bif b then xs else ys) := by subst h; exact M
theorem mut_new_ne {α : Type} {K : Kind α} {e : TypeId} {w w' : World} {hw' : Hw} {b g n c : Nat} {xs : List α} (M : MutN K e w.heap.size w' hw' g n c xs) (h : b < w.heap.size) : b ≠ g := by have := M.new; omega
theorem mut_new_own {α β : Type} {K : Kind α} {K' : Kind β} {e e' : TypeId} {N0 : Nat} {w w' : World} {hw hw' : Hw} {v : Value} {g n c : Nat} {xs : List α} {ys : List β} (M : MutN K e w.heap.size w' hw' g n c xs) (O : Own K' e' N0 w hw v ys) : Value.ownBlock v ≠ some g := O.ne M.new
theorem row_nil_of {α : Type} {K : Kind α} {w : World} {hw : Hw} {xs : List α} (h : xs = []) : Row K w hw (.slice none 0 0) xs := by
  subst h; exact ⟨none, 0, rfl, Nat.le_refl _, by omega, fun _ => rfl, fun h => absurd h (by simp)⟩
section
variable {P : Program} {ops : Array Oper} {Q : Exit → Act → World → Prop} {n : Nat} {σ : Nat → Value} {w : World} {hw : Hw} {rest : List Oper}
variable {d : Nat} {x y z : Operand} {t t2 ty : TypeId} {pos : String} {after : Array Edge} {N0 g len cap : Nat} {e : TypeId} {sz bytes : Nat} {agg : Bool} {zv : Value}
theorem wl_cutlo {lo hi : Option Operand} {i j : Int} (ht : P.underlying t = some (.slice e)) (he : Ty P e 1 bytes agg zv) (hx : ev n σ x = .slice (some ⟨g, 0, none⟩) len cap)
    (hlo : Bd n σ lo i 0) (hhi : Bd n σ hi j len) (h0 : 0 ≤ i) (h1 : i ≤ j) (h2 : j ≤ cap) (h3 : i < cap)
    (KK : WL P ops Q rest (mkA n (upd σ d (.slice (some ⟨g, i.toNat, none⟩) (j.toNat - i.toNat) (cap - i.toNat)))) w) :
    WL P ops Q (⟨some d, .slice t x lo hi none, ty, pos, after, none⟩ :: rest) (mkA n σ) w := by
  refine wl_cutm ht he hx hlo hhi h0 h1 h2 ?_
  rw [show acut g 0 cap i.toNat 1 = some ⟨g, i.toNat, none⟩ by unfold acut; rw [if_neg (by omega)]; simp]
  exact KK
theorem wl_copym {α : Type} {enc : α → Value} {h1 : ∀ x, (enc x).oneCell' = true} {xs : List α} {dT sT : TypeId} {o dlen dcap : Nat} {a : Addr} {slen scap : Nat} (ys : List α) (M : MutN (scal enc h1) e N0 w hw g len cap xs) (hwf : Hwf w hw) (hu : P.underlying dT = some (.slice e)) (hT : Ty P e 1 bytes false zv)
    (hx : ev n σ x = .slice (some ⟨g, o, none⟩) dlen dcap) (hy : ev n σ y = .slice (some a) slen scap) (hys : ys.length = Nat.min slen dlen)
    (hsrc : ∀ j u, ys[j]? = some u → w.cell? (a.add j) = some (enc u)) (hfit : o + ys.length ≤ len)
    (KK : ∀ w', Stp (some g) w hw w' hw → MutN (scal enc h1) e N0 w' hw g len cap (xs.take o ++ ys ++ xs.drop (o + ys.length)) → WL P ops Q rest (mkA n (upd σ d (.int .i64 (ys.length : Int)))) w') :
    WL P ops Q (⟨some d, .call { callee := .builtin .copy, args := #[x, y], argTypes := #[dT, sT] }, ty, pos, after, none⟩ :: rest) (mkA n σ) w := by
  obtain ⟨⟨⟨cs, ho, hr⟩, hz⟩, hl⟩ := M
  rcases ho.2 with ⟨h, _⟩ | ⟨g', cap', cur, h, k1, k2, k3, k4, k5, k6⟩
  · cases h
  cases h
  have hcs := rowsC_scal hr
  have k5' : cur.size = cap := by rw [k5]; show cap * 1 = cap; omega
  have k3' : xs.length ≤ cap := k3
  obtain ⟨i, hi, _, hs, _⟩ := hT.info
  have hfit' : o + (ys.map enc).length ≤ cur.size := by simp; omega
  have hcp := run_copy_row (P := P) w dT sT ty e g o dlen dcap a slen scap cur e (ys.map enc) hu (by rw [hi]; simp [hs]) k2 (by simpa using hys)
    (by intro j v hv; rw [List.getElem?_map] at hv; obtain ⟨u, hu, rfl⟩ := Option.map_eq_some_iff.1 hv; exact hsrc j u hu) hfit' (by intro v hv; obtain ⟨u, _, rfl⟩ := List.mem_map.1 hv; exact h1 u)
  have st : Stp (some g) w hw (w.setRow g (cur.toList.take o ++ ys.map enc ++ cur.toList.drop (o + (ys.map enc).length)).toArray) hw :=
    Stp.mk_same ⟨rfl, rfl, rfl, by simp, fun k hk hne => setRow_other w g k _ (fun e => hne (by rw [e]))⟩ hwf (fun b hb => by cases hb; exact hz)
  have hlen : (xs.take o ++ ys ++ xs.drop (o + ys.length)).length = len := by simp; omega
  have hcl : (cur.toList.take o ++ ys.map enc ++ cur.toList.drop (o + (ys.map enc).length)).length = cap := by simp; omega
  refine wl_val (v := .int .i64 (ys.length : Int)) (w' := _) ?_ (KK _ st ⟨⟨⟨(xs.take o ++ ys ++ xs.drop (o + ys.length)).map enc, ⟨by simp [scal], .inr ⟨g, cap, _, by rw [hlen], k1, setRow_heap w g cur _ e _ k2, by rw [hlen, ← hl]; exact k3', k4, ?_, ?_⟩⟩, rowsC_scal_mk _⟩, hz⟩, hlen⟩)
  · have e1 : #[ev n σ x, ev n σ y] = #[Value.slice (some ⟨g, o, none⟩) dlen dcap, Value.slice (some a) slen scap] := by rw [hx, hy]
    simp only [execOp, resolve, invoke, builtin]
    rw [show (#[x, y].map (ev n σ)) = #[ev n σ x, ev n σ y] by simp, e1]
    simp [hcp, goInt]
  · show Array.size (List.toArray _) = cap * 1
    rw [List.size_toArray, hcl]; omega
  · have h6 : List.take xs.length cur.toList = xs.map enc := by
      rw [← hcs, ← k6]; show _ = List.take (xs.length * 1) _; rw [Nat.mul_one]
    show List.take ((xs.take o ++ ys ++ xs.drop (o + ys.length)).length * 1) _ = _
    rw [Nat.mul_one, hlen, List.toList_toArray]
    have e2 : cur.toList = xs.map enc ++ cur.toList.drop xs.length := by rw [← h6, List.take_append_drop]
    have e3 : cur.toList.take o = (xs.map enc).take o := by
      rw [← h6, List.take_take]; congr 1; omega
    have e4 : cur.toList.drop (o + (ys.map enc).length) = (xs.map enc).drop (o + ys.length) ++ cur.toList.drop xs.length := by
      conv => lhs; rw [e2]
      rw [List.drop_append_of_le_length (by simp; omega)]
      simp
    rw [e3, e4, ← List.append_assoc, List.take_append]
    have e5 : ((xs.map enc).take o ++ ys.map enc ++ (xs.map enc).drop (o + ys.length)).length = len := by simp; omega
    rw [e5, Nat.sub_self, List.take_zero, List.append_nil, List.take_of_length_le (by omega)]
    simp
theorem wl_copyrow {α : Type} {enc : α → Value} {h1 : ∀ x, (enc x).oneCell' = true} {xs ys : List α} {dT sT : TypeId} {o dlen dcap : Nat} {vy : Value} (M : MutN (scal enc h1) e N0 w hw g len cap xs) (hwf : Hwf w hw) (hu : P.underlying dT = some (.slice e)) (hT : Ty P e 1 bytes false zv)
    (hx : ev n σ x = .slice (some ⟨g, o, none⟩) dlen dcap) (hr : Row (scal enc h1) w hw vy ys) (hp : 0 < ys.length) (hy : ev n σ y = vy) (hfit : o + dlen ≤ len)
    (KK : ∀ w', Stp (some g) w hw w' hw → MutN (scal enc h1) e N0 w' hw g len cap (xs.take o ++ ys.take dlen ++ xs.drop (o + (ys.take dlen).length)) → WL P ops Q rest (mkA n (upd σ d (.int .i64 ((ys.take dlen).length : Int)))) w') :
    WL P ops Q (⟨some d, .call { callee := .builtin .copy, args := #[x, y], argTypes := #[dT, sT] }, ty, pos, after, none⟩ :: rest) (mkA n σ) w := by
  obtain ⟨A, c, rfl, k1, k2, kn, k3⟩ := hr
  obtain ⟨b, o2, rfl, hc⟩ := k3 hp
  refine wl_copym (ys.take dlen) M hwf hu hT hx hy (by rw [List.length_take]; exact Nat.min_comm _ _) ?_ (by rw [List.length_take]; have := Nat.min_le_left dlen ys.length; omega) KK
  intro j u hj
  have hj' : ys[j]? = some u := by
    rw [List.getElem?_take] at hj; split at hj
    · exact hj
    · cases hj
  obtain ⟨cs, hk, hl⟩ := hc j u hj'
  have hk' : cs = [enc u] := hk
  subst hk'
  have := hl.2 0 _ rfl
  rw [Nat.add_zero, show (scal enc h1).sz = 1 from rfl, Nat.mul_one] at this
  rw [Addr.add_lit]; exact this
theorem wl_copyself {α : Type} {enc : α → Value} {h1 : ∀ x, (enc x).oneCell' = true} {xs : List α} {dT sT : TypeId} {o dlen dcap slen scap : Nat} (M : MutN (scal enc h1) e N0 w hw g len cap xs) (hwf : Hwf w hw) (hu : P.underlying dT = some (.slice e)) (hT : Ty P e 1 bytes false zv)
    (hx : ev n σ x = .slice (some ⟨g, o, none⟩) dlen dcap) (hy : ev n σ y = .slice (some ⟨g, 0, none⟩) slen scap) (hs : slen ≤ len) (hfit : o + dlen ≤ len)
    (KK : ∀ w', Stp (some g) w hw w' hw → MutN (scal enc h1) e N0 w' hw g len cap (xs.take o ++ (xs.take slen).take dlen ++ xs.drop (o + ((xs.take slen).take dlen).length)) → WL P ops Q rest (mkA n (upd σ d (.int .i64 (((xs.take slen).take dlen).length : Int)))) w') :
    WL P ops Q (⟨some d, .call { callee := .builtin .copy, args := #[x, y], argTypes := #[dT, sT] }, ty, pos, after, none⟩ :: rest) (mkA n σ) w := by
  have hl := M.len
  refine wl_copym ((xs.take slen).take dlen) M hwf hu hT hx hy (by rw [List.length_take, List.length_take, hl, Nat.min_eq_left hs]; exact Nat.min_comm _ _) ?_ (by rw [List.length_take]; have := Nat.min_le_left dlen (xs.take slen).length; omega) KK
  intro j u hj
  have hj' : xs[j]? = some u := by
    rw [List.getElem?_take] at hj; split at hj
    · rw [List.getElem?_take] at hj; split at hj
      · exact hj
      · cases hj
    · cases hj
  rw [Addr.add_lit, Nat.zero_add]
  exact M.cell hj'
end
end Go.Proofs.YtlaifpbickdpkaaDoor
