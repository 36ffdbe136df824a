/- What the program's functions compute, and that they compute it: one contract a function, written by gw.py (own work). -/
import Derived.Test.YtgickiajobkooaaGwM
namespace Go.Proofs.Ytgickiajobkooaa
open Go.RowKit
set_option linter.unusedVariables false
set_option linter.unusedSimpArgs false

structure ApiMsg where
  Id : Int
  To : Int
  Body : (List UInt8)
  At : Int
def KApiMsg : Kind ApiMsg where
  sz := 4
  R := fun _ _ x cs => cs = [.int .i64 x.Id, .int .i64 x.To, .string (bs x.Body), .int .i64 x.At]
  len := by rintro w hw x cs rfl; rfl
  one := by
    rintro w hw x cs rfl u hu
    simp only [List.mem_cons, List.not_mem_nil, or_false] at hu
    rcases hu with rfl | rfl | rfl | rfl <;> rfl
  ext := fun _ h => h
structure ApiNet where
  Flight : (List ApiMsg)
  Last : Int
  Now : Int
def KApiNet : Kind ApiNet where
  sz := 3
  R := fun w hw x cs => ∃ v0, cs = [v0, .int .i64 x.Last, .int .i64 x.Now] ∧ Row KApiMsg w hw v0 x.Flight
  len := by rintro w hw x cs ⟨v0, rfl, h0⟩; rfl
  one := by
    rintro w hw x cs ⟨v0, rfl, h0⟩ u hu
    obtain ⟨A0, c0, e0⟩ := h0.slice
    simp only [List.mem_cons, List.not_mem_nil, or_false] at hu
    rcases hu with rfl | rfl | rfl <;> first | rfl | (simp only [e0]; rfl)
  ext := by
    rintro w hw w' hw' x cs e ⟨v0, rfl, h0⟩
    exact ⟨v0, rfl, h0.ext e⟩
theorem bod10 : Bod Try.prog 10 := fun _ _ => by kernel_rfl
theorem bod11 : Bod Try.prog 11 := fun _ _ => by kernel_rfl
theorem bod12 : Bod Try.prog 12 := fun _ _ => by kernel_rfl
theorem bod13 : Bod Try.prog 13 := fun _ _ => by kernel_rfl
theorem bod14 : Bod Try.prog 14 := fun _ _ => by kernel_rfl
theorem bod15 : Bod Try.prog 15 := fun _ _ => by kernel_rfl
theorem bod16 : Bod Try.prog 16 := fun _ _ => by kernel_rfl
theorem bod17 : Bod Try.prog 17 := fun _ _ => by kernel_rfl
theorem bod4 : Bod Try.prog 4 := fun _ _ => by kernel_rfl
theorem bod5 : Bod Try.prog 5 := fun _ _ => by kernel_rfl
theorem bod6 : Bod Try.prog 6 := fun _ _ => by kernel_rfl
theorem bod7 : Bod Try.prog 7 := fun _ _ => by kernel_rfl
theorem bod8 : Bod Try.prog 8 := fun _ _ => by kernel_rfl
theorem bod9 : Bod Try.prog 9 := fun _ _ => by kernel_rfl
theorem eqs33 (x0 : Int) (x1 : Int) (x2 : List UInt8) (x3 : Int) (y0 : Int) (y1 : Int) (y2 : List UInt8) (y3 : Int) (w : World) : (Op.equalIn 10000 33 (.agg #[.int .i64 x0, .int .i64 x1, .string (bs x2), .int .i64 x3]) (.agg #[.int .i64 y0, .int .i64 y1, .string (bs y2), .int .i64 y3])).run Try.prog w = .ok ((x0 == y0) && ((x1 == y1) && ((x2 == y2) && ((x3 == y3) && true)))) w := (eqst_of (d := 9999) Try.underlying33 (by kernel_rfl) (eqf_cons (by decide) (by kernel_rfl) (by kernel_rfl) (run_equalIn_int w 9998 3 .i64 _ _ _ Try.underlying3) (eqf_cons (by decide) (by kernel_rfl) (by kernel_rfl) (run_equalIn_int w 9998 3 .i64 _ _ _ Try.underlying3) (eqf_cons (by decide) (by kernel_rfl) (by kernel_rfl) (eq_str (d := 9998) _ _ Try.underlying9) (eqf_cons (by decide) (by kernel_rfl) (by kernel_rfl) (run_equalIn_int w 9998 3 .i64 _ _ _ Try.underlying3) eqf_nil)))))
theorem fld26_0 : Fld Try.prog 26 0 0 := fun _ _ _ => by kernel_rfl
theorem fld26_1 : Fld Try.prog 26 1 1 := fun _ _ _ => by kernel_rfl
theorem fld26_2 : Fld Try.prog 26 2 2 := fun _ _ _ => by kernel_rfl
theorem fld33_0 : Fld Try.prog 33 0 0 := fun _ _ _ => by kernel_rfl
theorem fld33_1 : Fld Try.prog 33 1 1 := fun _ _ _ => by kernel_rfl
theorem fld33_2 : Fld Try.prog 33 2 2 := fun _ _ _ => by kernel_rfl
theorem fld33_3 : Fld Try.prog 33 3 3 := fun _ _ _ => by kernel_rfl
theorem guard33 : Try.prog.eqGuardType Try.prog.depth 33 = false := by kernel_rfl
theorem mixed : Try.prog.follows .mixedOrders = true := by kernel_rfl
theorem ty24 : Ty Try.prog 24 1 24 false (.slice none 0 0) := ⟨by kernel_rfl, by kernel_rfl⟩
theorem ty26 : Ty Try.prog 26 3 40 true (.agg #[.slice none 0 0, .int .i64 0, .int .i64 0]) := ⟨by kernel_rfl, by kernel_rfl⟩
theorem ty3 : Ty Try.prog 3 1 8 false (.int .i64 0) := ⟨by kernel_rfl, by kernel_rfl⟩
theorem ty33 : Ty Try.prog 33 4 40 true (.agg #[.int .i64 0, .int .i64 0, .string ⟨#[]⟩, .int .i64 0]) := ⟨by kernel_rfl, by kernel_rfl⟩
theorem ty9 : Ty Try.prog 9 1 16 false (.string ⟨#[]⟩) := ⟨by kernel_rfl, by kernel_rfl⟩
/-! ### consignor/wire.Right$1: function 13 -/
def wire_Right_c1.f (k : Nat) (a0 : ApiMsg) (c0 : ApiNet) : Option Bool := some (((((((decide (a0.Id < 1)) || (decide (c0.Last < a0.Id))) || (decide (a0.To < 0))) || (decide (64 ≤ a0.To))) || (decide (4096 < (a0.Body.length : Int)))) || (decide (a0.At < 0))) || (decide (c0.Now < a0.At)))
set_option maxHeartbeats 1000000 in
theorem wire_Right_c1.ok (k : Nat) {w0 : World} {hw0 : Hw} (wf : Hwf w0 hw0) (a0 : ApiMsg) (c0 : ApiNet) (cb0 co0 : Nat) (u0_0 : Value) (uq0_0 : Row KApiMsg w0 hw0 u0_0 c0.Flight) (cl0 : Live w0 hw0 cb0 co0 [u0_0, .int .i64 c0.Last, .int .i64 c0.Now]) (r : Bool) (h : wire_Right_c1.f k a0 c0 = some r) :
    Calls Try.prog 13 #[.agg #[.int .i64 a0.Id, .int .i64 a0.To, .string (bs a0.Body), .int .i64 a0.At], .pointer (some ⟨cb0, co0, none⟩)] w0 fun e w' => ∃ (hw' : Hw), e = .returned (.bool r) ∧ Stp none w0 hw0 w' hw' := by
  have fr0 := Stp.refl none (w := w0) (hw := hw0) wf
  unfold wire_Right_c1.f at h
  refine enter (n := 42) Try.func13 rfl rfl (Nat.le_of_ble_eq_true rfl) ?_
  refine wc_seq ?_
  refine wc_region ?_
  refine wl_box fr0.wf fr0.g.size [.int .i64 a0.Id, .int .i64 a0.To, .string (bs a0.Body), .int .i64 a0.At] (cells_of (v := (.agg #[.int .i64 a0.Id, .int .i64 a0.To, .string (bs a0.Body), .int .i64 a0.At])) rfl rfl) ?_
  intro b1 w2 s3 B4 g5
  have fr6 := fr0.then0 s3
  refine wl_assign (.bool false) rfl ?_
  refine wl_nil ?_
  refine qn ?_
  refine wc_seq ?_
  refine wc_region ?_
  refine wl_field fld33_0 rfl ?_
  refine wl_loadb1 B4 ty3 rfl (.int .i64 a0.Id) rfl ?_
  refine wl_lss rfl rfl ?_
  refine wl_move (.bool (decide (a0.Id < 1))) rfl ?_
  refine wl_join 6 [8, 9, 10, 11, 12, 13] 13 (.bool ((decide (a0.Id < 1)) || (decide (c0.Last < a0.Id)))) ?_ ?_
  · rcases Bool.eq_false_or_eq_true (decide (a0.Id < 1)) with hcc | hcc
    · skip
      refine wl_off (yl rfl rfl rfl) hcc ?_
      refine wl_off (yl rfl rfl rfl) hcc ?_
      refine wl_off (yl rfl rfl rfl) hcc ?_
      refine wl_off (yl rfl rfl rfl) hcc ?_
      refine wl_off (yl rfl rfl rfl) hcc ?_
      refine wl_pick_t (decide (a0.Id < 1)) (.bool true) rfl hcc rfl ?_
      refine wl_nil ?_
      exact qn ⟨rfl, _, rfl, (by repeat (first | exact Same.refl _ _ | refine Same.upd ?_ rfl)), (by rw [hcc]; rfl)⟩
    · skip
      refine wl_on (yl rfl rfl rfl) hcc ?_
      refine wl_field fld33_0 rfl ?_
      refine wl_on (yl rfl rfl rfl) hcc ?_
      refine wl_loadb1 B4 ty3 rfl (.int .i64 a0.Id) rfl ?_
      refine wl_on (yl rfl rfl rfl) hcc ?_
      refine wl_field fld26_1 rfl ?_
      refine wl_on (yl rfl rfl rfl) hcc ?_
      have f7 := cl0.ext (s3.ext)
      refine wl_load1 ty3 rfl (.int .i64 c0.Last) (f7.2 1 _ rfl) ?_
      refine wl_on (yl rfl rfl rfl) hcc ?_
      refine wl_gtr rfl rfl ?_
      refine wl_pick_f (decide (a0.Id < 1)) (.bool (decide (c0.Last < a0.Id))) rfl hcc rfl ?_
      refine wl_nil ?_
      exact qn ⟨rfl, _, rfl, (by repeat (first | exact Same.refl _ _ | refine Same.upd ?_ rfl)), (by rw [hcc]; rfl)⟩
  intro _ ho8 hv9
  refine wl_move (.bool ((decide (a0.Id < 1)) || (decide (c0.Last < a0.Id)))) hv9 ?_
  refine wl_join 4 [15, 16, 17, 18] 18 (.bool (((decide (a0.Id < 1)) || (decide (c0.Last < a0.Id))) || (decide (a0.To < 0)))) ?_ ?_
  · rcases Bool.eq_false_or_eq_true ((decide (a0.Id < 1)) || (decide (c0.Last < a0.Id))) with hcc | hcc
    · skip
      refine wl_off (yl rfl rfl rfl) hcc ?_
      refine wl_off (yl rfl rfl rfl) hcc ?_
      refine wl_off (yl rfl rfl rfl) hcc ?_
      refine wl_pick_t ((decide (a0.Id < 1)) || (decide (c0.Last < a0.Id))) (.bool true) rfl hcc rfl ?_
      refine wl_nil ?_
      exact qn ⟨rfl, _, rfl, (by repeat (first | exact Same.refl _ _ | refine Same.upd ?_ rfl)), (by rw [hcc]; rfl)⟩
    · skip
      refine wl_on (yl rfl rfl rfl) hcc ?_
      refine wl_field fld33_1 ((ho8 2 rfl).trans rfl) ?_
      refine wl_on (yl rfl rfl rfl) hcc ?_
      refine wl_loadb1 B4 ty3 rfl (.int .i64 a0.To) rfl ?_
      refine wl_on (yl rfl rfl rfl) hcc ?_
      refine wl_lss rfl rfl ?_
      refine wl_pick_f ((decide (a0.Id < 1)) || (decide (c0.Last < a0.Id))) (.bool (decide (a0.To < 0))) rfl hcc rfl ?_
      refine wl_nil ?_
      exact qn ⟨rfl, _, rfl, (by repeat (first | exact Same.refl _ _ | refine Same.upd ?_ rfl)), (by rw [hcc]; rfl)⟩
  intro _ ho10 hv11
  refine wl_move (.bool (((decide (a0.Id < 1)) || (decide (c0.Last < a0.Id))) || (decide (a0.To < 0)))) hv11 ?_
  refine wl_join 4 [20, 21, 22, 23] 23 (.bool ((((decide (a0.Id < 1)) || (decide (c0.Last < a0.Id))) || (decide (a0.To < 0))) || (decide (64 ≤ a0.To)))) ?_ ?_
  · rcases Bool.eq_false_or_eq_true (((decide (a0.Id < 1)) || (decide (c0.Last < a0.Id))) || (decide (a0.To < 0))) with hcc | hcc
    · skip
      refine wl_off (yl rfl rfl rfl) hcc ?_
      refine wl_off (yl rfl rfl rfl) hcc ?_
      refine wl_off (yl rfl rfl rfl) hcc ?_
      refine wl_pick_t (((decide (a0.Id < 1)) || (decide (c0.Last < a0.Id))) || (decide (a0.To < 0))) (.bool true) rfl hcc rfl ?_
      refine wl_nil ?_
      exact qn ⟨rfl, _, rfl, (by repeat (first | exact Same.refl _ _ | refine Same.upd ?_ rfl)), (by rw [hcc]; rfl)⟩
    · skip
      refine wl_on (yl rfl rfl rfl) hcc ?_
      refine wl_field fld33_1 ((ho10 2 rfl).trans ((ho8 2 rfl).trans rfl)) ?_
      refine wl_on (yl rfl rfl rfl) hcc ?_
      refine wl_loadb1 B4 ty3 rfl (.int .i64 a0.To) rfl ?_
      refine wl_on (yl rfl rfl rfl) hcc ?_
      refine wl_geq rfl rfl ?_
      refine wl_pick_f (((decide (a0.Id < 1)) || (decide (c0.Last < a0.Id))) || (decide (a0.To < 0))) (.bool (decide (64 ≤ a0.To))) rfl hcc rfl ?_
      refine wl_nil ?_
      exact qn ⟨rfl, _, rfl, (by repeat (first | exact Same.refl _ _ | refine Same.upd ?_ rfl)), (by rw [hcc]; rfl)⟩
  intro _ ho12 hv13
  refine wl_move (.bool ((((decide (a0.Id < 1)) || (decide (c0.Last < a0.Id))) || (decide (a0.To < 0))) || (decide (64 ≤ a0.To)))) hv13 ?_
  refine wl_join 5 [25, 26, 27, 28, 29] 29 (.bool (((((decide (a0.Id < 1)) || (decide (c0.Last < a0.Id))) || (decide (a0.To < 0))) || (decide (64 ≤ a0.To))) || (decide (4096 < (a0.Body.length : Int))))) ?_ ?_
  · rcases Bool.eq_false_or_eq_true ((((decide (a0.Id < 1)) || (decide (c0.Last < a0.Id))) || (decide (a0.To < 0))) || (decide (64 ≤ a0.To))) with hcc | hcc
    · skip
      refine wl_off (yl rfl rfl rfl) hcc ?_
      refine wl_off (yl rfl rfl rfl) hcc ?_
      refine wl_off (yl rfl rfl rfl) hcc ?_
      refine wl_off (yl rfl rfl rfl) hcc ?_
      refine wl_pick_t ((((decide (a0.Id < 1)) || (decide (c0.Last < a0.Id))) || (decide (a0.To < 0))) || (decide (64 ≤ a0.To))) (.bool true) rfl hcc rfl ?_
      refine wl_nil ?_
      exact qn ⟨rfl, _, rfl, (by repeat (first | exact Same.refl _ _ | refine Same.upd ?_ rfl)), (by rw [hcc]; rfl)⟩
    · skip
      refine wl_on (yl rfl rfl rfl) hcc ?_
      refine wl_field fld33_2 ((ho12 2 rfl).trans ((ho10 2 rfl).trans ((ho8 2 rfl).trans rfl))) ?_
      refine wl_on (yl rfl rfl rfl) hcc ?_
      refine wl_loadb1 B4 ty9 rfl (.string (bs a0.Body)) rfl ?_
      refine wl_on (yl rfl rfl rfl) hcc ?_
      refine wl_lens Try.underlying9 rfl ?_
      refine wl_on (yl rfl rfl rfl) hcc ?_
      refine wl_gtr rfl rfl ?_
      refine wl_pick_f ((((decide (a0.Id < 1)) || (decide (c0.Last < a0.Id))) || (decide (a0.To < 0))) || (decide (64 ≤ a0.To))) (.bool (decide (4096 < (a0.Body.length : Int)))) rfl hcc rfl ?_
      refine wl_nil ?_
      exact qn ⟨rfl, _, rfl, (by repeat (first | exact Same.refl _ _ | refine Same.upd ?_ rfl)), (by rw [hcc]; rfl)⟩
  intro _ ho14 hv15
  refine wl_move (.bool (((((decide (a0.Id < 1)) || (decide (c0.Last < a0.Id))) || (decide (a0.To < 0))) || (decide (64 ≤ a0.To))) || (decide (4096 < (a0.Body.length : Int))))) hv15 ?_
  refine wl_join 4 [31, 32, 33, 34] 34 (.bool ((((((decide (a0.Id < 1)) || (decide (c0.Last < a0.Id))) || (decide (a0.To < 0))) || (decide (64 ≤ a0.To))) || (decide (4096 < (a0.Body.length : Int)))) || (decide (a0.At < 0)))) ?_ ?_
  · rcases Bool.eq_false_or_eq_true (((((decide (a0.Id < 1)) || (decide (c0.Last < a0.Id))) || (decide (a0.To < 0))) || (decide (64 ≤ a0.To))) || (decide (4096 < (a0.Body.length : Int)))) with hcc | hcc
    · skip
      refine wl_off (yl rfl rfl rfl) hcc ?_
      refine wl_off (yl rfl rfl rfl) hcc ?_
      refine wl_off (yl rfl rfl rfl) hcc ?_
      refine wl_pick_t (((((decide (a0.Id < 1)) || (decide (c0.Last < a0.Id))) || (decide (a0.To < 0))) || (decide (64 ≤ a0.To))) || (decide (4096 < (a0.Body.length : Int)))) (.bool true) rfl hcc rfl ?_
      refine wl_nil ?_
      exact qn ⟨rfl, _, rfl, (by repeat (first | exact Same.refl _ _ | refine Same.upd ?_ rfl)), (by rw [hcc]; rfl)⟩
    · skip
      refine wl_on (yl rfl rfl rfl) hcc ?_
      refine wl_field fld33_3 ((ho14 2 rfl).trans ((ho12 2 rfl).trans ((ho10 2 rfl).trans ((ho8 2 rfl).trans rfl)))) ?_
      refine wl_on (yl rfl rfl rfl) hcc ?_
      refine wl_loadb1 B4 ty3 rfl (.int .i64 a0.At) rfl ?_
      refine wl_on (yl rfl rfl rfl) hcc ?_
      refine wl_lss rfl rfl ?_
      refine wl_pick_f (((((decide (a0.Id < 1)) || (decide (c0.Last < a0.Id))) || (decide (a0.To < 0))) || (decide (64 ≤ a0.To))) || (decide (4096 < (a0.Body.length : Int)))) (.bool (decide (a0.At < 0))) rfl hcc rfl ?_
      refine wl_nil ?_
      exact qn ⟨rfl, _, rfl, (by repeat (first | exact Same.refl _ _ | refine Same.upd ?_ rfl)), (by rw [hcc]; rfl)⟩
  intro _ ho16 hv17
  refine wl_move (.bool ((((((decide (a0.Id < 1)) || (decide (c0.Last < a0.Id))) || (decide (a0.To < 0))) || (decide (64 ≤ a0.To))) || (decide (4096 < (a0.Body.length : Int)))) || (decide (a0.At < 0)))) hv17 ?_
  refine wl_join 6 [36, 37, 38, 39, 40, 41] 41 (.bool (((((((decide (a0.Id < 1)) || (decide (c0.Last < a0.Id))) || (decide (a0.To < 0))) || (decide (64 ≤ a0.To))) || (decide (4096 < (a0.Body.length : Int)))) || (decide (a0.At < 0))) || (decide (c0.Now < a0.At)))) ?_ ?_
  · rcases Bool.eq_false_or_eq_true ((((((decide (a0.Id < 1)) || (decide (c0.Last < a0.Id))) || (decide (a0.To < 0))) || (decide (64 ≤ a0.To))) || (decide (4096 < (a0.Body.length : Int)))) || (decide (a0.At < 0))) with hcc | hcc
    · skip
      refine wl_off (yl rfl rfl rfl) hcc ?_
      refine wl_off (yl rfl rfl rfl) hcc ?_
      refine wl_off (yl rfl rfl rfl) hcc ?_
      refine wl_off (yl rfl rfl rfl) hcc ?_
      refine wl_off (yl rfl rfl rfl) hcc ?_
      refine wl_pick_t ((((((decide (a0.Id < 1)) || (decide (c0.Last < a0.Id))) || (decide (a0.To < 0))) || (decide (64 ≤ a0.To))) || (decide (4096 < (a0.Body.length : Int)))) || (decide (a0.At < 0))) (.bool true) rfl hcc rfl ?_
      refine wl_nil ?_
      exact qn ⟨rfl, _, rfl, (by repeat (first | exact Same.refl _ _ | refine Same.upd ?_ rfl)), (by rw [hcc]; rfl)⟩
    · skip
      refine wl_on (yl rfl rfl rfl) hcc ?_
      refine wl_field fld33_3 ((ho16 2 rfl).trans ((ho14 2 rfl).trans ((ho12 2 rfl).trans ((ho10 2 rfl).trans ((ho8 2 rfl).trans rfl))))) ?_
      refine wl_on (yl rfl rfl rfl) hcc ?_
      refine wl_loadb1 B4 ty3 rfl (.int .i64 a0.At) rfl ?_
      refine wl_on (yl rfl rfl rfl) hcc ?_
      refine wl_field fld26_2 ((ho16 1 rfl).trans ((ho14 1 rfl).trans ((ho12 1 rfl).trans ((ho10 1 rfl).trans ((ho8 1 rfl).trans rfl))))) ?_
      refine wl_on (yl rfl rfl rfl) hcc ?_
      have f18 := cl0.ext (s3.ext)
      refine wl_load1 ty3 rfl (.int .i64 c0.Now) (f18.2 2 _ rfl) ?_
      refine wl_on (yl rfl rfl rfl) hcc ?_
      refine wl_gtr rfl rfl ?_
      refine wl_pick_f ((((((decide (a0.Id < 1)) || (decide (c0.Last < a0.Id))) || (decide (a0.To < 0))) || (decide (64 ≤ a0.To))) || (decide (4096 < (a0.Body.length : Int)))) || (decide (a0.At < 0))) (.bool (decide (c0.Now < a0.At))) rfl hcc rfl ?_
      refine wl_nil ?_
      exact qn ⟨rfl, _, rfl, (by repeat (first | exact Same.refl _ _ | refine Same.upd ?_ rfl)), (by rw [hcc]; rfl)⟩
  intro _ ho19 hv20
  refine wl_assign (.bool (((((((decide (a0.Id < 1)) || (decide (c0.Last < a0.Id))) || (decide (a0.To < 0))) || (decide (64 ≤ a0.To))) || (decide (4096 < (a0.Body.length : Int)))) || (decide (a0.At < 0))) || (decide (c0.Now < a0.At)))) hv20 ?_
  refine wl_nil ?_
  refine qn ?_
  refine wc_ret ?_
  cases h
  refine end1 rfl (.tmp rfl .nil) ?_
  exact ⟨_, rfl, fr6⟩
/-! ### slices.IndexFunc[[]consignor/api.Msg,consignor/api.Msg]: function 17 -/
def slices_IndexFunc_api_Msg.l0 : Nat → (List ApiMsg) → (ApiMsg → Option Bool) → Int → Option Int
  | 0, _, _, _ => none
  | k + 1, a0, p1, x4 => if x4 < (a0.length : Int) then (if 0 ≤ x4 then ((a0[Int.toNat x4]?).bind fun t19 => ((p1 t19).bind fun t28 => (if t28 = true then (some x4) else (slices_IndexFunc_api_Msg.l0 k a0 p1 (IntKind.i64.wrap (x4 + 1)))))) else none) else (some (-1))
def slices_IndexFunc_api_Msg.f (k : Nat) (a0 : (List ApiMsg)) (p1 : (ApiMsg → Option Bool)) : Option Int := slices_IndexFunc_api_Msg.l0 k a0 p1 0
set_option maxHeartbeats 1000000 in
theorem slices_IndexFunc_api_Msg.ok (k : Nat) {w0 : World} {hw0 : Hw} (wf : Hwf w0 hw0) (a0 : (List ApiMsg)) (p1 : ApiMsg → Option Bool) (v0_ : Value) (q0 : Row KApiMsg w0 hw0 v0_ a0) (fv1 : Value) (q1 : FnOk Try.prog w0 hw0 fv1 (VS KApiMsg) Value.bool p1) (r : Int) (h : slices_IndexFunc_api_Msg.f k a0 p1 = some r) :
    Calls Try.prog 17 #[v0_, fv1] w0 fun e w' => ∃ (hw' : Hw), e = .returned (.int .i64 r) ∧ Stp none w0 hw0 w' hw' := by
  have fr0 := Stp.refl none (w := w0) (hw := hw0) wf
  unfold slices_IndexFunc_api_Msg.f at h
  refine enter (n := 19) Try.func17 rfl rfl (Nat.le_of_ble_eq_true rfl) ?_
  refine wc_seq ?_
  refine wc_region ?_
  refine wl_assign (.int .i64 0) rfl ?_
  refine wl_nil ?_
  refine qn ?_
  refine wc_seq ?_
  refine wc_seq ?_
  refine wc_region ?_
  refine wl_move (v0_) rfl ?_
  obtain ⟨A1, c2, hv3⟩ := (q0).slice
  refine wl_len Try.underlying24 (show _ = Value.slice _ a0.length _ from (Eq.trans rfl hv3)) ?_
  refine wl_move (.int .i64 0) rfl ?_
  refine wl_nil ?_
  refine qn ?_
  refine wc_block ?_
  refine wc_loop (fun m a w => ∃ (σ : Nat → Value) (hw : Hw) (kq : Nat) (x4 : Int), a = mkA 19 σ ∧ kq ≤ m ∧ kq ≤ k ∧ Stp none w0 hw0 w hw ∧ Ext w0 hw0 w hw ∧ σ 0 = v0_ ∧ σ 1 = fv1 ∧ σ 7 = .int .i64 (a0.length : Int) ∧ σ 8 = .int .i64 x4 ∧ slices_IndexFunc_api_Msg.l0 kq a0 p1 x4 = some r) k ?_ ?_ ?_
  · skip
    exact ⟨_, _, _, 0, rfl, (Nat.le_refl _), (Nat.le_refl _), fr0, (Ext.refl _ _), rfl, rfl, rfl, rfl, h⟩
  · rintro _ _ ⟨_, hw6, k7, x4, rfl, hk10, hk11, fr8, e9, z12, z13, z14, z15, h⟩; obtain rfl := Nat.le_zero.1 hk10; rw [slices_IndexFunc_api_Msg.l0] at h; cases h
  · rintro m0 _ w5 ⟨_, hw6, k7, x4, rfl, hk10, hk11, fr8, e9, z12, z13, z14, z15, h⟩
    rcases k7 with _ | k7
    · rw [slices_IndexFunc_api_Msg.l0] at h; cases h
    rw [slices_IndexFunc_api_Msg.l0] at h
    refine wc_seq ?_
    refine wc_region ?_
    refine wl_lss z15 z14 ?_
    refine wl_nil ?_
    refine qn ?_
    refine wc_seq ?_
    by_cases c16 : x4 < (a0.length : Int)
    · replace h := (if_pos c16).symm.trans h
      have b17 : (decide (x4 < (a0.length : Int))) = true := decide_eq_true c16
      refine wc_then rfl b17 ?_
      refine wc_skip ?_
      refine qn ?_
      refine wc_seq ?_
      refine wc_block ?_
      refine wc_seq ?_
      refine wc_region ?_
      refine wl_move (.int .i64 x4) z15 ?_
      refine wl_assign (.int .i64 x4) rfl ?_
      refine wl_nil ?_
      refine qn ?_
      refine wc_seq ?_
      refine wc_region ?_
      refine wl_move (fv1) z13 ?_
      refine wl_move (v0_) z12 ?_
      refine wl_move (.int .i64 x4) rfl ?_
      by_cases c18 : 0 ≤ x4
      · replace h := (if_pos c18).symm.trans h
        obtain ⟨t19, h20, h⟩ := Option.bind_eq_some_iff.1 h
        have c21 := at_lt c18 h20
        have f27 := q0.ext (e9)
        refine wl_at Try.underlying24 ty33 f27 rfl rfl c18 c21 t19 h20 ?_
        rintro B22 o23 cs24 rfl l26
        refine wl_load ty33 rfl [.int .i64 t19.Id, .int .i64 t19.To, .string (bs t19.Body), .int .i64 t19.At] rfl l26.2 ?_
        obtain ⟨t28, h29, h⟩ := Option.bind_eq_some_iff.1 h
        have f34 := q1.ext (e9)
        refine wl_callf f34 rfl rfl fr8.wf (⟨_, rfl, rfl⟩) h29 ?_
        intro w30 hw31 s32
        have fr35 := fr8.then0 s32
        refine wl_nil ?_
        refine qn ?_
        by_cases c36 : t28 = true
        · replace h := (if_pos c36).symm.trans h
          refine wc_then rfl c36 ?_
          refine wc_seq ?_
          refine wc_region ?_
          refine wl_move (.int .i64 x4) rfl ?_
          refine wl_assign (.int .i64 x4) rfl ?_
          refine wl_nil ?_
          refine qn ?_
          refine wc_ret ?_
          refine bret ?_
          refine qr ?_
          refine qr ?_
          refine bret ?_
          refine qr ?_
          cases h
          refine end1 rfl (.tmp rfl .nil) ?_
          exact ⟨_, rfl, fr35⟩
        · replace h := (if_neg c36).symm.trans h
          have b37 : t28 = false := Bool.eq_false_iff.2 c36
          refine wc_else rfl b37 ?_
          refine wc_skip ?_
          refine bn ?_
          refine qn ?_
          refine wc_region ?_
          refine wl_add z15 rfl ?_
          refine wl_move (.int .i64 (IntKind.i64.wrap (x4 + 1))) rfl ?_
          refine wl_nil ?_
          refine qn ?_
          exact ⟨_, _, _, (IntKind.i64.wrap (x4 + 1)), rfl, (by omega), (by omega), fr35, (Ext.trans e9 s32.ext), z12, z13, z14, rfl, h⟩
      · replace h := (if_neg c18).symm.trans h
        cases h
    · replace h := (if_neg c16).symm.trans h
      have b38 : (decide (x4 < (a0.length : Int))) = false := decide_eq_false c16
      refine wc_else rfl b38 ?_
      refine wc_exit ?_
      refine qe ?_
      refine qe ?_
      refine be ?_
      refine qn ?_
      refine wc_seq ?_
      refine wc_region ?_
      refine wl_assign (.int .i64 (-1)) rfl ?_
      refine wl_nil ?_
      refine qn ?_
      refine wc_ret ?_
      cases h
      refine end1 rfl (.tmp rfl .nil) ?_
      exact ⟨_, rfl, fr8⟩
/-! ### slices.ContainsFunc[[]consignor/api.Msg,consignor/api.Msg]: function 14 -/
def slices_ContainsFunc_api_Msg.f (k : Nat) (a0 : (List ApiMsg)) (p1 : (ApiMsg → Option Bool)) : Option Bool := (slices_IndexFunc_api_Msg.f k a0 p1).bind fun t1 => (some (decide (0 ≤ t1)))
set_option maxHeartbeats 1000000 in
theorem slices_ContainsFunc_api_Msg.ok (k : Nat) {w0 : World} {hw0 : Hw} (wf : Hwf w0 hw0) (a0 : (List ApiMsg)) (p1 : ApiMsg → Option Bool) (v0_ : Value) (q0 : Row KApiMsg w0 hw0 v0_ a0) (fv1 : Value) (q1 : FnOk Try.prog w0 hw0 fv1 (VS KApiMsg) Value.bool p1) (r : Bool) (h : slices_ContainsFunc_api_Msg.f k a0 p1 = some r) :
    Calls Try.prog 14 #[v0_, fv1] w0 fun e w' => ∃ (hw' : Hw), e = .returned (.bool r) ∧ Stp none w0 hw0 w' hw' := by
  have fr0 := Stp.refl none (w := w0) (hw := hw0) wf
  unfold slices_ContainsFunc_api_Msg.f at h
  refine enter (n := 9) Try.func14 rfl rfl (Nat.le_of_ble_eq_true rfl) ?_
  refine wc_seq ?_
  refine wc_region ?_
  refine wl_assign (.bool false) rfl ?_
  refine wl_nil ?_
  refine qn ?_
  refine wc_seq ?_
  refine wc_region ?_
  refine wl_move (v0_) rfl ?_
  refine wl_move (fv1) rfl ?_
  obtain ⟨t1, h2, h⟩ := Option.bind_eq_some_iff.1 h
  refine wl_call [v0_, fv1] bod17 (mc rfl (mc rfl (mn _))) (slices_IndexFunc_api_Msg.ok k fr0.wf a0 p1 v0_ q0 fv1 q1 _ h2) ?_
  rintro e3 w4 ⟨hw5, rfl, s6⟩
  refine ⟨_, rfl, ?_⟩
  have fr7 := fr0.then0 s6
  refine wl_geq rfl rfl ?_
  refine wl_assign (.bool (decide (0 ≤ t1))) rfl ?_
  refine wl_nil ?_
  refine qn ?_
  refine wc_ret ?_
  cases h
  refine end1 rfl (.tmp rfl .nil) ?_
  exact ⟨_, rfl, fr7⟩
/-! ### consignor/wire.Right: function 9 -/
def wire_Right.f (k : Nat) (a0 : ApiNet) : Option Bool := if (((((decide ((a0.Flight.length : Int) ≤ 32)) && (decide (0 ≤ a0.Last))) && (decide (a0.Last ≤ 1099511627776))) && (decide (0 ≤ a0.Now))) && (decide (a0.Now ≤ 1099511627776))) = true then ((slices_ContainsFunc_api_Msg.f k a0.Flight (fun x => wire_Right_c1.f k x a0)).bind fun t24 => (some (!t24))) else (some false)
set_option maxHeartbeats 1000000 in
theorem wire_Right.ok (k : Nat) {w0 : World} {hw0 : Hw} (wf : Hwf w0 hw0) (a0 : ApiNet) (v0_0 : Value) (q0_0 : Row KApiMsg w0 hw0 v0_0 a0.Flight) (r : Bool) (h : wire_Right.f k a0 = some r) :
    Calls Try.prog 9 #[.agg #[v0_0, .int .i64 a0.Last, .int .i64 a0.Now]] w0 fun e w' => ∃ (hw' : Hw), e = .returned (.bool r) ∧ Stp none w0 hw0 w' hw' := by
  have fr0 := Stp.refl none (w := w0) (hw := hw0) wf
  unfold wire_Right.f at h
  refine enter (n := 36) Try.func9 rfl rfl (Nat.le_of_ble_eq_true rfl) ?_
  refine wc_seq ?_
  refine wc_region ?_
  refine wl_box fr0.wf fr0.g.size [v0_0, .int .i64 a0.Last, .int .i64 a0.Now] (cells_of (v := (.agg #[v0_0, .int .i64 a0.Last, .int .i64 a0.Now])) rfl rfl) ?_
  intro b1 w2 s3 B4 g5
  have fr6 := fr0.then0 s3
  refine wl_assign (.bool false) rfl ?_
  refine wl_nil ?_
  refine qn ?_
  refine wc_seq ?_
  refine wc_region ?_
  have s7 := Stp.raise fr6.wf b1 3 B4.lt
  have l8 := B4.live
  have fr9 := fr6.then s7 (fun _ e => Option.some.inj e ▸ B4.new)
  refine wl_func (mn _) (mc rfl (mn _)) ?_
  refine wl_assign (.func (.func 13) #[] #[.pointer (some ⟨b1, 0, none⟩)]) rfl ?_
  refine wl_nil ?_
  refine qn ?_
  refine wc_seq ?_
  refine wc_region ?_
  refine wl_field fld26_0 rfl ?_
  refine wl_load1 ty24 rfl (v0_0) (l8.2 0 _ rfl) ?_
  have f13 := q0_0.ext (s3.ext.trans (s7.ext))
  obtain ⟨A10, c11, hv12⟩ := (f13).slice
  refine wl_len Try.underlying24 (show _ = Value.slice _ a0.Flight.length _ from (Eq.trans rfl hv12)) ?_
  refine wl_leq rfl rfl ?_
  refine wl_move (.bool (decide ((a0.Flight.length : Int) ≤ 32))) rfl ?_
  refine wl_join 4 [10, 11, 12, 13] 13 (.bool ((decide ((a0.Flight.length : Int) ≤ 32)) && (decide (0 ≤ a0.Last)))) ?_ ?_
  · rcases Bool.eq_false_or_eq_true (decide ((a0.Flight.length : Int) ≤ 32)) with hcc | hcc
    · skip
      refine wl_on (yl rfl rfl rfl) hcc ?_
      refine wl_field fld26_1 rfl ?_
      refine wl_on (yl rfl rfl rfl) hcc ?_
      refine wl_load1 ty3 rfl (.int .i64 a0.Last) (l8.2 1 _ rfl) ?_
      refine wl_on (yl rfl rfl rfl) hcc ?_
      refine wl_geq rfl rfl ?_
      refine wl_pick_t (decide ((a0.Flight.length : Int) ≤ 32)) (.bool (decide (0 ≤ a0.Last))) rfl hcc rfl ?_
      refine wl_nil ?_
      exact qn ⟨rfl, _, rfl, (by repeat (first | exact Same.refl _ _ | refine Same.upd ?_ rfl)), (by rw [hcc]; rfl)⟩
    · skip
      refine wl_off (yl rfl rfl rfl) hcc ?_
      refine wl_off (yl rfl rfl rfl) hcc ?_
      refine wl_off (yl rfl rfl rfl) hcc ?_
      refine wl_pick_f (decide ((a0.Flight.length : Int) ≤ 32)) (.bool false) rfl hcc rfl ?_
      refine wl_nil ?_
      exact qn ⟨rfl, _, rfl, (by repeat (first | exact Same.refl _ _ | refine Same.upd ?_ rfl)), (by rw [hcc]; rfl)⟩
  intro _ ho14 hv15
  refine wl_move (.bool ((decide ((a0.Flight.length : Int) ≤ 32)) && (decide (0 ≤ a0.Last)))) hv15 ?_
  refine wl_join 4 [15, 16, 17, 18] 18 (.bool (((decide ((a0.Flight.length : Int) ≤ 32)) && (decide (0 ≤ a0.Last))) && (decide (a0.Last ≤ 1099511627776)))) ?_ ?_
  · rcases Bool.eq_false_or_eq_true ((decide ((a0.Flight.length : Int) ≤ 32)) && (decide (0 ≤ a0.Last))) with hcc | hcc
    · skip
      refine wl_on (yl rfl rfl rfl) hcc ?_
      refine wl_field fld26_1 ((ho14 1 rfl).trans rfl) ?_
      refine wl_on (yl rfl rfl rfl) hcc ?_
      refine wl_load1 ty3 rfl (.int .i64 a0.Last) (l8.2 1 _ rfl) ?_
      refine wl_on (yl rfl rfl rfl) hcc ?_
      refine wl_leq rfl rfl ?_
      refine wl_pick_t ((decide ((a0.Flight.length : Int) ≤ 32)) && (decide (0 ≤ a0.Last))) (.bool (decide (a0.Last ≤ 1099511627776))) rfl hcc rfl ?_
      refine wl_nil ?_
      exact qn ⟨rfl, _, rfl, (by repeat (first | exact Same.refl _ _ | refine Same.upd ?_ rfl)), (by rw [hcc]; rfl)⟩
    · skip
      refine wl_off (yl rfl rfl rfl) hcc ?_
      refine wl_off (yl rfl rfl rfl) hcc ?_
      refine wl_off (yl rfl rfl rfl) hcc ?_
      refine wl_pick_f ((decide ((a0.Flight.length : Int) ≤ 32)) && (decide (0 ≤ a0.Last))) (.bool false) rfl hcc rfl ?_
      refine wl_nil ?_
      exact qn ⟨rfl, _, rfl, (by repeat (first | exact Same.refl _ _ | refine Same.upd ?_ rfl)), (by rw [hcc]; rfl)⟩
  intro _ ho16 hv17
  refine wl_move (.bool (((decide ((a0.Flight.length : Int) ≤ 32)) && (decide (0 ≤ a0.Last))) && (decide (a0.Last ≤ 1099511627776)))) hv17 ?_
  refine wl_join 4 [20, 21, 22, 23] 23 (.bool ((((decide ((a0.Flight.length : Int) ≤ 32)) && (decide (0 ≤ a0.Last))) && (decide (a0.Last ≤ 1099511627776))) && (decide (0 ≤ a0.Now)))) ?_ ?_
  · rcases Bool.eq_false_or_eq_true (((decide ((a0.Flight.length : Int) ≤ 32)) && (decide (0 ≤ a0.Last))) && (decide (a0.Last ≤ 1099511627776))) with hcc | hcc
    · skip
      refine wl_on (yl rfl rfl rfl) hcc ?_
      refine wl_field fld26_2 ((ho16 1 rfl).trans ((ho14 1 rfl).trans rfl)) ?_
      refine wl_on (yl rfl rfl rfl) hcc ?_
      refine wl_load1 ty3 rfl (.int .i64 a0.Now) (l8.2 2 _ rfl) ?_
      refine wl_on (yl rfl rfl rfl) hcc ?_
      refine wl_geq rfl rfl ?_
      refine wl_pick_t (((decide ((a0.Flight.length : Int) ≤ 32)) && (decide (0 ≤ a0.Last))) && (decide (a0.Last ≤ 1099511627776))) (.bool (decide (0 ≤ a0.Now))) rfl hcc rfl ?_
      refine wl_nil ?_
      exact qn ⟨rfl, _, rfl, (by repeat (first | exact Same.refl _ _ | refine Same.upd ?_ rfl)), (by rw [hcc]; rfl)⟩
    · skip
      refine wl_off (yl rfl rfl rfl) hcc ?_
      refine wl_off (yl rfl rfl rfl) hcc ?_
      refine wl_off (yl rfl rfl rfl) hcc ?_
      refine wl_pick_f (((decide ((a0.Flight.length : Int) ≤ 32)) && (decide (0 ≤ a0.Last))) && (decide (a0.Last ≤ 1099511627776))) (.bool false) rfl hcc rfl ?_
      refine wl_nil ?_
      exact qn ⟨rfl, _, rfl, (by repeat (first | exact Same.refl _ _ | refine Same.upd ?_ rfl)), (by rw [hcc]; rfl)⟩
  intro _ ho18 hv19
  refine wl_move (.bool ((((decide ((a0.Flight.length : Int) ≤ 32)) && (decide (0 ≤ a0.Last))) && (decide (a0.Last ≤ 1099511627776))) && (decide (0 ≤ a0.Now)))) hv19 ?_
  refine wl_join 4 [25, 26, 27, 28] 28 (.bool (((((decide ((a0.Flight.length : Int) ≤ 32)) && (decide (0 ≤ a0.Last))) && (decide (a0.Last ≤ 1099511627776))) && (decide (0 ≤ a0.Now))) && (decide (a0.Now ≤ 1099511627776)))) ?_ ?_
  · rcases Bool.eq_false_or_eq_true ((((decide ((a0.Flight.length : Int) ≤ 32)) && (decide (0 ≤ a0.Last))) && (decide (a0.Last ≤ 1099511627776))) && (decide (0 ≤ a0.Now))) with hcc | hcc
    · skip
      refine wl_on (yl rfl rfl rfl) hcc ?_
      refine wl_field fld26_2 ((ho18 1 rfl).trans ((ho16 1 rfl).trans ((ho14 1 rfl).trans rfl))) ?_
      refine wl_on (yl rfl rfl rfl) hcc ?_
      refine wl_load1 ty3 rfl (.int .i64 a0.Now) (l8.2 2 _ rfl) ?_
      refine wl_on (yl rfl rfl rfl) hcc ?_
      refine wl_leq rfl rfl ?_
      refine wl_pick_t ((((decide ((a0.Flight.length : Int) ≤ 32)) && (decide (0 ≤ a0.Last))) && (decide (a0.Last ≤ 1099511627776))) && (decide (0 ≤ a0.Now))) (.bool (decide (a0.Now ≤ 1099511627776))) rfl hcc rfl ?_
      refine wl_nil ?_
      exact qn ⟨rfl, _, rfl, (by repeat (first | exact Same.refl _ _ | refine Same.upd ?_ rfl)), (by rw [hcc]; rfl)⟩
    · skip
      refine wl_off (yl rfl rfl rfl) hcc ?_
      refine wl_off (yl rfl rfl rfl) hcc ?_
      refine wl_off (yl rfl rfl rfl) hcc ?_
      refine wl_pick_f ((((decide ((a0.Flight.length : Int) ≤ 32)) && (decide (0 ≤ a0.Last))) && (decide (a0.Last ≤ 1099511627776))) && (decide (0 ≤ a0.Now))) (.bool false) rfl hcc rfl ?_
      refine wl_nil ?_
      exact qn ⟨rfl, _, rfl, (by repeat (first | exact Same.refl _ _ | refine Same.upd ?_ rfl)), (by rw [hcc]; rfl)⟩
  intro _ ho20 hv21
  refine wl_move (.bool (((((decide ((a0.Flight.length : Int) ≤ 32)) && (decide (0 ≤ a0.Last))) && (decide (a0.Last ≤ 1099511627776))) && (decide (0 ≤ a0.Now))) && (decide (a0.Now ≤ 1099511627776)))) hv21 ?_
  by_cases c22 : (((((decide ((a0.Flight.length : Int) ≤ 32)) && (decide (0 ≤ a0.Last))) && (decide (a0.Last ≤ 1099511627776))) && (decide (0 ≤ a0.Now))) && (decide (a0.Now ≤ 1099511627776))) = true
  · replace h := (if_pos c22).symm.trans h
    refine wl_on (yl rfl rfl rfl) c22 ?_
    refine wl_field fld26_0 ((ho20 1 rfl).trans ((ho18 1 rfl).trans ((ho16 1 rfl).trans ((ho14 1 rfl).trans rfl)))) ?_
    refine wl_on (yl rfl rfl rfl) c22 ?_
    refine wl_load1 ty24 rfl (v0_0) (l8.2 0 _ rfl) ?_
    refine wl_on (yl rfl rfl rfl) c22 ?_
    refine wl_move (.func (.func 13) #[] #[.pointer (some ⟨b1, 0, none⟩)]) ((ho20 3 rfl).trans ((ho18 3 rfl).trans ((ho16 3 rfl).trans ((ho14 3 rfl).trans rfl)))) ?_
    refine wl_on (yl rfl rfl rfl) c22 ?_
    have q23 : FnOk Try.prog w2 (raise hw0 b1 3) (.func (.func 13) #[] #[.pointer (some ⟨b1, 0, none⟩)]) (VS KApiMsg) Value.bool (fun x => wire_Right_c1.f k x a0) := by
      refine ⟨13, [], [.pointer (some ⟨b1, 0, none⟩)], rfl, bod13, ?_⟩
      rintro w' hw' e wf x va ⟨cs, rfl, rfl⟩ y hy
      exact wire_Right_c1.ok k wf x a0 b1 0 v0_0 (Row.ext e f13) (Live.ext e l8) _ hy
    obtain ⟨t24, h25, h⟩ := Option.bind_eq_some_iff.1 h
    refine wl_call [v0_0, .func (.func 13) #[] #[.pointer (some ⟨b1, 0, none⟩)]] bod14 (mc rfl (mc rfl (mn _))) (slices_ContainsFunc_api_Msg.ok k fr9.wf a0.Flight (fun x => wire_Right_c1.f k x a0) v0_0 f13 (.func (.func 13) #[] #[.pointer (some ⟨b1, 0, none⟩)]) q23 _ h25) ?_
    rintro e26 w27 ⟨hw28, rfl, s29⟩
    refine ⟨_, rfl, ?_⟩
    have fr30 := fr9.then0 s29
    refine wl_on (yl rfl rfl rfl) c22 ?_
    refine wl_not rfl ?_
    refine wl_pick_t (((((decide ((a0.Flight.length : Int) ≤ 32)) && (decide (0 ≤ a0.Last))) && (decide (a0.Last ≤ 1099511627776))) && (decide (0 ≤ a0.Now))) && (decide (a0.Now ≤ 1099511627776))) (.bool (!t24)) rfl c22 rfl ?_
    refine wl_assign (.bool (!t24)) rfl ?_
    refine wl_nil ?_
    refine qn ?_
    refine wc_ret ?_
    cases h
    refine end1 rfl (.tmp rfl .nil) ?_
    exact ⟨_, rfl, fr30⟩
  · replace h := (if_neg c22).symm.trans h
    have b31 : (((((decide ((a0.Flight.length : Int) ≤ 32)) && (decide (0 ≤ a0.Last))) && (decide (a0.Last ≤ 1099511627776))) && (decide (0 ≤ a0.Now))) && (decide (a0.Now ≤ 1099511627776))) = false := Bool.eq_false_iff.2 c22
    refine wl_off (yl rfl rfl rfl) b31 ?_
    refine wl_off (yl rfl rfl rfl) b31 ?_
    refine wl_off (yl rfl rfl rfl) b31 ?_
    refine wl_off (yl rfl rfl rfl) b31 ?_
    refine wl_off (yl rfl rfl rfl) b31 ?_
    refine wl_pick_f (((((decide ((a0.Flight.length : Int) ≤ 32)) && (decide (0 ≤ a0.Last))) && (decide (a0.Last ≤ 1099511627776))) && (decide (0 ≤ a0.Now))) && (decide (a0.Now ≤ 1099511627776))) (.bool false) rfl b31 rfl ?_
    refine wl_assign (.bool false) rfl ?_
    refine wl_nil ?_
    refine qn ?_
    refine wc_ret ?_
    cases h
    refine end1 rfl (.tmp rfl .nil) ?_
    exact ⟨_, rfl, fr9⟩
/-! ### slices.Clip[[]consignor/api.Msg,consignor/api.Msg]: function 10 -/
def slices_Clip_api_Msg.f (k : Nat) (a0 : (List ApiMsg)) : Option (List ApiMsg) := some a0
set_option maxHeartbeats 1000000 in
theorem slices_Clip_api_Msg.ok (k : Nat) {w0 : World} {hw0 : Hw} (wf : Hwf w0 hw0) (a0 : (List ApiMsg)) (v0_ : Value) (q0 : Row KApiMsg w0 hw0 v0_ a0) (r : (List ApiMsg)) (h : slices_Clip_api_Msg.f k a0 = some r) :
    Calls Try.prog 10 #[v0_] w0 fun e w' => ∃ (A0 : Option Addr) (hw' : Hw), e = .returned ((.slice A0 r.length r.length)) ∧ Stp none w0 hw0 w' hw' ∧ Row KApiMsg w' hw' (.slice A0 r.length r.length) r := by
  have fr0 := Stp.refl none (w := w0) (hw := hw0) wf
  unfold slices_Clip_api_Msg.f at h
  refine enter (n := 9) Try.func10 rfl rfl (Nat.le_of_ble_eq_true rfl) ?_
  refine wc_seq ?_
  refine wc_region ?_
  refine wl_assign (.slice none 0 0) rfl ?_
  refine wl_nil ?_
  refine qn ?_
  refine wc_seq ?_
  refine wc_region ?_
  refine wl_move (v0_) rfl ?_
  refine wl_move (v0_) rfl ?_
  obtain ⟨A1, c2, hv3⟩ := (q0).slice
  refine wl_len Try.underlying24 (show _ = Value.slice _ a0.length _ from (Eq.trans rfl hv3)) ?_
  refine wl_move (v0_) rfl ?_
  refine wl_len Try.underlying24 (show _ = Value.slice _ a0.length _ from (Eq.trans rfl hv3)) ?_
  refine wl_clip Try.underlying24 ty33 q0 rfl rfl rfl ?_
  intro A5 f6
  refine wl_assign (.slice A5 a0.length a0.length) rfl ?_
  refine wl_nil ?_
  refine qn ?_
  refine wc_ret ?_
  cases h
  refine end1 rfl (.tmp rfl .nil) ?_
  exact ⟨A5, _, rfl, fr0, f6⟩
/-! ### consignor/wire.there: function 11 -/
def wire_there.f (k : Nat) (a0 : ApiNet) (a1 : Int) : Option Int := (wire_Right.f k a0).bind fun t8 => (if t8 = true then (if ((decide (a1 < 0)) || (decide ((a0.Flight.length : Int) ≤ a1))) = true then (some 9) else (some 0)) else (some 1))
set_option maxHeartbeats 1000000 in
theorem wire_there.ok (k : Nat) {w0 : World} {hw0 : Hw} (wf : Hwf w0 hw0) (a0 : ApiNet) (a1 : Int) (v0_0 : Value) (q0_0 : Row KApiMsg w0 hw0 v0_0 a0.Flight) (r : Int) (h : wire_there.f k a0 a1 = some r) :
    Calls Try.prog 11 #[.agg #[v0_0, .int .i64 a0.Last, .int .i64 a0.Now], .int .i64 a1] w0 fun e w' => ∃ (hw' : Hw), e = .returned (.int .i64 r) ∧ Stp none w0 hw0 w' hw' := by
  have fr0 := Stp.refl none (w := w0) (hw := hw0) wf
  unfold wire_there.f at h
  refine enter (n := 19) Try.func11 rfl rfl (Nat.le_of_ble_eq_true rfl) ?_
  refine wc_seq ?_
  refine wc_region ?_
  refine wl_box fr0.wf fr0.g.size [v0_0, .int .i64 a0.Last, .int .i64 a0.Now] (cells_of (v := (.agg #[v0_0, .int .i64 a0.Last, .int .i64 a0.Now])) rfl rfl) ?_
  intro b1 w2 s3 B4 g5
  have fr6 := fr0.then0 s3
  refine wl_assign (.int .i64 0) rfl ?_
  refine wl_nil ?_
  refine qn ?_
  refine wc_seq ?_
  refine wc_block ?_
  refine wc_seq ?_
  refine wc_region ?_
  refine wl_loadb B4 ty26 rfl [v0_0, .int .i64 a0.Last, .int .i64 a0.Now] rfl rfl ?_
  have f7 := q0_0.ext (s3.ext)
  obtain ⟨t8, h9, h⟩ := Option.bind_eq_some_iff.1 h
  refine wl_call [.agg #[v0_0, .int .i64 a0.Last, .int .i64 a0.Now]] bod9 (mc rfl (mn _)) (wire_Right.ok k fr6.wf a0 v0_0 f7 _ h9) ?_
  rintro e10 w11 ⟨hw12, rfl, s13⟩
  refine ⟨_, rfl, ?_⟩
  have fr14 := fr6.then0 s13
  refine wl_not rfl ?_
  refine wl_assign (.bool (!t8)) rfl ?_
  refine wl_nil ?_
  refine qn ?_
  by_cases c15 : t8 = true
  · replace h := (if_pos c15).symm.trans h
    refine wc_else rfl (by rw [c15]; rfl) ?_
    refine wc_seq ?_
    refine wc_region ?_
    refine wl_move (.int .i64 a1) rfl ?_
    refine wl_lss rfl rfl ?_
    refine wl_move (.bool (decide (a1 < 0))) rfl ?_
    refine wl_join 6 [13, 14, 15, 16, 17, 18] 18 (.bool ((decide (a1 < 0)) || (decide ((a0.Flight.length : Int) ≤ a1)))) ?_ ?_
    · rcases Bool.eq_false_or_eq_true (decide (a1 < 0)) with hcc | hcc
      · skip
        refine wl_off (yl rfl rfl rfl) hcc ?_
        refine wl_off (yl rfl rfl rfl) hcc ?_
        refine wl_off (yl rfl rfl rfl) hcc ?_
        refine wl_off (yl rfl rfl rfl) hcc ?_
        refine wl_off (yl rfl rfl rfl) hcc ?_
        refine wl_pick_t (decide (a1 < 0)) (.bool true) rfl hcc rfl ?_
        refine wl_nil ?_
        exact qn ⟨rfl, _, rfl, (by repeat (first | exact Same.refl _ _ | refine Same.upd ?_ rfl)), (by rw [hcc]; rfl)⟩
      · skip
        refine wl_on (yl rfl rfl rfl) hcc ?_
        refine wl_move (.int .i64 a1) rfl ?_
        refine wl_on (yl rfl rfl rfl) hcc ?_
        refine wl_field fld26_0 rfl ?_
        refine wl_on (yl rfl rfl rfl) hcc ?_
        have B16 := (B4.step0 s13)
        refine wl_loadb1 B16 ty24 rfl (v0_0) rfl ?_
        refine wl_on (yl rfl rfl rfl) hcc ?_
        have f20 := f7.ext (s13.ext)
        obtain ⟨A17, c18, hv19⟩ := (f20).slice
        refine wl_len Try.underlying24 (show _ = Value.slice _ a0.Flight.length _ from (Eq.trans rfl hv19)) ?_
        refine wl_on (yl rfl rfl rfl) hcc ?_
        refine wl_geq rfl rfl ?_
        refine wl_pick_f (decide (a1 < 0)) (.bool (decide ((a0.Flight.length : Int) ≤ a1))) rfl hcc rfl ?_
        refine wl_nil ?_
        exact qn ⟨rfl, _, rfl, (by repeat (first | exact Same.refl _ _ | refine Same.upd ?_ rfl)), (by rw [hcc]; rfl)⟩
    intro _ ho21 hv22
    refine wl_assign (.bool ((decide (a1 < 0)) || (decide ((a0.Flight.length : Int) ≤ a1)))) hv22 ?_
    refine wl_nil ?_
    refine qn ?_
    by_cases c23 : ((decide (a1 < 0)) || (decide ((a0.Flight.length : Int) ≤ a1))) = true
    · replace h := (if_pos c23).symm.trans h
      refine wc_then rfl c23 ?_
      refine wc_seq ?_
      refine wc_region ?_
      refine wl_assign (.int .i64 9) rfl ?_
      refine wl_nil ?_
      refine qn ?_
      refine wc_ret ?_
      refine bret ?_
      refine qr ?_
      cases h
      refine end1 rfl (.tmp rfl .nil) ?_
      exact ⟨_, rfl, fr14⟩
    · replace h := (if_neg c23).symm.trans h
      have b24 : ((decide (a1 < 0)) || (decide ((a0.Flight.length : Int) ≤ a1))) = false := Bool.eq_false_iff.2 c23
      refine wc_else rfl b24 ?_
      refine wc_skip ?_
      refine bn ?_
      refine qn ?_
      refine wc_seq ?_
      refine wc_region ?_
      refine wl_assign (.int .i64 0) rfl ?_
      refine wl_nil ?_
      refine qn ?_
      refine wc_ret ?_
      cases h
      refine end1 rfl (.tmp rfl .nil) ?_
      exact ⟨_, rfl, fr14⟩
  · replace h := (if_neg c15).symm.trans h
    have b25 : t8 = false := Bool.eq_false_iff.2 c15
    refine wc_then rfl (by rw [b25]; rfl) ?_
    refine wc_seq ?_
    refine wc_region ?_
    refine wl_assign (.int .i64 1) rfl ?_
    refine wl_nil ?_
    refine qn ?_
    refine wc_ret ?_
    refine bret ?_
    refine qr ?_
    cases h
    refine end1 rfl (.tmp rfl .nil) ?_
    exact ⟨_, rfl, fr14⟩
/-! ### consignor/wire.Send: function 4 -/
def wire_Send.f (k : Nat) (a0 : ApiNet) (a1 : Int) (a2 : (List UInt8)) : Option (ApiNet × Int × Int) := (wire_Right.f k a0).bind fun t16 => (if (((!t16) || (decide (a1 < 0))) || (decide (64 ≤ a1))) = true then (some ((⟨[], 0, 0⟩ : ApiNet), 0, 1)) else (if 4096 < (a2.length : Int) then (some ((⟨[], 0, 0⟩ : ApiNet), 0, 2)) else (if (((a0.Flight.length : Int) == 32) || (a0.Last == 1099511627776)) = true then (some ((⟨[], 0, 0⟩ : ApiNet), 0, 13)) else ((slices_Clip_api_Msg.f k a0.Flight).bind fun t69 => (if (t69.length + ([(⟨IntKind.i64.wrap (a0.Last + 1), a1, a2, a0.Now⟩ : ApiMsg)]).length) * 40 ≤ 140737488355328 then (some ((⟨t69 ++ ([(⟨IntKind.i64.wrap (a0.Last + 1), a1, a2, a0.Now⟩ : ApiMsg)]), IntKind.i64.wrap (a0.Last + 1), a0.Now⟩ : ApiNet), (IntKind.i64.wrap (a0.Last + 1)), 0)) else none)))))
set_option maxHeartbeats 1000000 in
theorem wire_Send.ok (k : Nat) {w0 : World} {hw0 : Hw} (wf : Hwf w0 hw0) (a0 : ApiNet) (a1 : Int) (a2 : (List UInt8)) (v0_0 : Value) (q0_0 : Row KApiMsg w0 hw0 v0_0 a0.Flight) (r : (ApiNet × Int × Int)) (h : wire_Send.f k a0 a1 a2 = some r) :
    Calls Try.prog 4 #[.agg #[v0_0, .int .i64 a0.Last, .int .i64 a0.Now], .int .i64 a1, .string (bs a2)] w0 fun e w' => ∃ (v0_0 : Value) (hw' : Hw), e = .returned (.tuple #[.agg #[v0_0, .int .i64 r.1.Last, .int .i64 r.1.Now], .int .i64 r.2.1, .int .i64 r.2.2]) ∧ Stp none w0 hw0 w' hw' ∧ Row KApiMsg w' hw' v0_0 r.1.Flight := by
  have fr0 := Stp.refl none (w := w0) (hw := hw0) wf
  unfold wire_Send.f at h
  refine enter (n := 58) Try.func4 rfl rfl (Nat.le_of_ble_eq_true rfl) ?_
  refine wc_seq ?_
  refine wc_region ?_
  refine wl_box fr0.wf fr0.g.size [v0_0, .int .i64 a0.Last, .int .i64 a0.Now] (cells_of (v := (.agg #[v0_0, .int .i64 a0.Last, .int .i64 a0.Now])) rfl rfl) ?_
  intro b1 w2 s3 B4 g5
  have fr6 := fr0.then0 s3
  refine wl_alloc fr6.wf fr6.g.size ty26 [.slice none 0 0, .int .i64 0, .int .i64 0] rfl ?_
  intro b7 w8 s9 B10 g11
  have n12 : b1 ≠ b7 := B4.ne g11
  have fr13 := fr6.then0 s9
  refine wl_assign (.int .i64 0) rfl ?_
  refine wl_assign (.int .i64 0) rfl ?_
  refine wl_nil ?_
  refine qn ?_
  refine wc_seq ?_
  refine wc_block ?_
  refine wc_seq ?_
  refine wc_region ?_
  have B14 := (B4.step0 s9)
  refine wl_loadb B14 ty26 rfl [v0_0, .int .i64 a0.Last, .int .i64 a0.Now] rfl rfl ?_
  have f15 := q0_0.ext (s3.ext.trans (s9.ext))
  obtain ⟨t16, h17, h⟩ := Option.bind_eq_some_iff.1 h
  refine wl_call [.agg #[v0_0, .int .i64 a0.Last, .int .i64 a0.Now]] bod9 (mc rfl (mn _)) (wire_Right.ok k fr13.wf a0 v0_0 f15 _ h17) ?_
  rintro e18 w19 ⟨hw20, rfl, s21⟩
  refine ⟨_, rfl, ?_⟩
  have fr22 := fr13.then0 s21
  refine wl_not rfl ?_
  refine wl_move (.bool (!t16)) rfl ?_
  refine wl_join 3 [14, 15, 16] 16 (.bool ((!t16) || (decide (a1 < 0)))) ?_ ?_
  · rcases Bool.eq_false_or_eq_true (!t16) with hcc | hcc
    · skip
      refine wl_off (yl rfl rfl rfl) hcc ?_
      refine wl_off (yl rfl rfl rfl) hcc ?_
      refine wl_pick_t (!t16) (.bool true) rfl hcc rfl ?_
      refine wl_nil ?_
      exact qn ⟨rfl, _, rfl, (by repeat (first | exact Same.refl _ _ | refine Same.upd ?_ rfl)), (by rw [hcc]; rfl)⟩
    · skip
      refine wl_on (yl rfl rfl rfl) hcc ?_
      refine wl_move (.int .i64 a1) rfl ?_
      refine wl_on (yl rfl rfl rfl) hcc ?_
      refine wl_lss rfl rfl ?_
      refine wl_pick_f (!t16) (.bool (decide (a1 < 0))) rfl hcc rfl ?_
      refine wl_nil ?_
      exact qn ⟨rfl, _, rfl, (by repeat (first | exact Same.refl _ _ | refine Same.upd ?_ rfl)), (by rw [hcc]; rfl)⟩
  intro _ ho23 hv24
  refine wl_move (.bool ((!t16) || (decide (a1 < 0)))) hv24 ?_
  refine wl_join 3 [18, 19, 20] 20 (.bool (((!t16) || (decide (a1 < 0))) || (decide (64 ≤ a1)))) ?_ ?_
  · rcases Bool.eq_false_or_eq_true ((!t16) || (decide (a1 < 0))) with hcc | hcc
    · skip
      refine wl_off (yl rfl rfl rfl) hcc ?_
      refine wl_off (yl rfl rfl rfl) hcc ?_
      refine wl_pick_t ((!t16) || (decide (a1 < 0))) (.bool true) rfl hcc rfl ?_
      refine wl_nil ?_
      exact qn ⟨rfl, _, rfl, (by repeat (first | exact Same.refl _ _ | refine Same.upd ?_ rfl)), (by rw [hcc]; rfl)⟩
    · skip
      refine wl_on (yl rfl rfl rfl) hcc ?_
      refine wl_move (.int .i64 a1) ((ho23 1 rfl).trans rfl) ?_
      refine wl_on (yl rfl rfl rfl) hcc ?_
      refine wl_geq rfl rfl ?_
      refine wl_pick_f ((!t16) || (decide (a1 < 0))) (.bool (decide (64 ≤ a1))) rfl hcc rfl ?_
      refine wl_nil ?_
      exact qn ⟨rfl, _, rfl, (by repeat (first | exact Same.refl _ _ | refine Same.upd ?_ rfl)), (by rw [hcc]; rfl)⟩
  intro _ ho25 hv26
  refine wl_assign (.bool (((!t16) || (decide (a1 < 0))) || (decide (64 ≤ a1)))) hv26 ?_
  refine wl_nil ?_
  refine qn ?_
  by_cases c27 : (((!t16) || (decide (a1 < 0))) || (decide (64 ≤ a1))) = true
  · replace h := (if_pos c27).symm.trans h
    refine wc_then rfl c27 ?_
    refine wc_seq ?_
    refine wc_region ?_
    have hb28 : ∀ w, (Instr.build 26 #[]).run Try.prog w = .ok (.agg (List.toArray [.slice none 0 0, .int .i64 0, .int .i64 0])) w := fun _ => by kernel_rfl
    refine wl_build [.slice none 0 0, .int .i64 0, .int .i64 0] (pn _ _) (hb28 _) ?_
    have B29 := (B10.step0 s21)
    refine wl_store B29 fr22.wf ty26 ((ho25 6 rfl).trans ((ho23 6 rfl).trans rfl)) [.slice none 0 0, .int .i64 0, .int .i64 0] (cells_of (v := (.agg #[.slice none 0 0, .int .i64 0, .int .i64 0])) rfl rfl) rfl (Nat.le_of_ble_eq_true rfl) (by intro u hu; simp only [List.mem_cons, List.not_mem_nil, or_false] at hu; rcases hu with rfl | rfl | rfl <;> rfl) [.slice none 0 0, .int .i64 0, .int .i64 0] rfl ?_
    intro w30 s31 B32
    have fr33 := fr22.then s31 (fun _ e => Option.some.inj e ▸ B29.new)
    refine wl_assign (.int .i64 0) rfl ?_
    refine wl_assign (.int .i64 1) rfl ?_
    refine wl_nil ?_
    refine qn ?_
    refine wc_ret ?_
    refine bret ?_
    refine qr ?_
    cases h
    refine end3 rfl (.cell ((ho25 6 rfl).trans ((ho23 6 rfl).trans rfl)) (ty26.load (l := [.slice none 0 0, .int .i64 0, .int .i64 0]) rfl (B32.cells rfl)) (.tmp rfl (.tmp rfl .nil))) ?_
    exact ⟨(.slice none 0 0), _, rfl, fr33, (Row.nil _ _ _)⟩
  · replace h := (if_neg c27).symm.trans h
    have b34 : (((!t16) || (decide (a1 < 0))) || (decide (64 ≤ a1))) = false := Bool.eq_false_iff.2 c27
    refine wc_else rfl b34 ?_
    refine wc_seq ?_
    refine wc_region ?_
    refine wl_move (.string (bs a2)) ((ho25 2 rfl).trans ((ho23 2 rfl).trans rfl)) ?_
    refine wl_lens Try.underlying9 rfl ?_
    refine wl_gtr rfl rfl ?_
    refine wl_assign (.bool (decide (4096 < (a2.length : Int)))) rfl ?_
    refine wl_nil ?_
    refine qn ?_
    by_cases c35 : 4096 < (a2.length : Int)
    · replace h := (if_pos c35).symm.trans h
      have b36 : (decide (4096 < (a2.length : Int))) = true := decide_eq_true c35
      refine wc_then rfl b36 ?_
      refine wc_seq ?_
      refine wc_region ?_
      have hb37 : ∀ w, (Instr.build 26 #[]).run Try.prog w = .ok (.agg (List.toArray [.slice none 0 0, .int .i64 0, .int .i64 0])) w := fun _ => by kernel_rfl
      refine wl_build [.slice none 0 0, .int .i64 0, .int .i64 0] (pn _ _) (hb37 _) ?_
      have B38 := (B10.step0 s21)
      refine wl_store B38 fr22.wf ty26 ((ho25 6 rfl).trans ((ho23 6 rfl).trans rfl)) [.slice none 0 0, .int .i64 0, .int .i64 0] (cells_of (v := (.agg #[.slice none 0 0, .int .i64 0, .int .i64 0])) rfl rfl) rfl (Nat.le_of_ble_eq_true rfl) (by intro u hu; simp only [List.mem_cons, List.not_mem_nil, or_false] at hu; rcases hu with rfl | rfl | rfl <;> rfl) [.slice none 0 0, .int .i64 0, .int .i64 0] rfl ?_
      intro w39 s40 B41
      have fr42 := fr22.then s40 (fun _ e => Option.some.inj e ▸ B38.new)
      refine wl_assign (.int .i64 0) rfl ?_
      refine wl_assign (.int .i64 2) rfl ?_
      refine wl_nil ?_
      refine qn ?_
      refine wc_ret ?_
      refine bret ?_
      refine qr ?_
      cases h
      refine end3 rfl (.cell ((ho25 6 rfl).trans ((ho23 6 rfl).trans rfl)) (ty26.load (l := [.slice none 0 0, .int .i64 0, .int .i64 0]) rfl (B41.cells rfl)) (.tmp rfl (.tmp rfl .nil))) ?_
      exact ⟨(.slice none 0 0), _, rfl, fr42, (Row.nil _ _ _)⟩
    · replace h := (if_neg c35).symm.trans h
      have b43 : (decide (4096 < (a2.length : Int))) = false := decide_eq_false c35
      refine wc_else rfl b43 ?_
      refine wc_seq ?_
      refine wc_region ?_
      refine wl_field fld26_0 ((ho25 3 rfl).trans ((ho23 3 rfl).trans rfl)) ?_
      have B44 := (B14.step0 s21)
      refine wl_loadb1 B44 ty24 rfl (v0_0) rfl ?_
      have f48 := f15.ext (s21.ext)
      obtain ⟨A45, c46, hv47⟩ := (f48).slice
      refine wl_len Try.underlying24 (show _ = Value.slice _ a0.Flight.length _ from (Eq.trans rfl hv47)) ?_
      refine wl_eql rfl rfl ?_
      refine wl_move (.bool ((a0.Flight.length : Int) == 32)) rfl ?_
      refine wl_join 4 [33, 34, 35, 36] 36 (.bool (((a0.Flight.length : Int) == 32) || (a0.Last == 1099511627776))) ?_ ?_
      · rcases Bool.eq_false_or_eq_true ((a0.Flight.length : Int) == 32) with hcc | hcc
        · skip
          refine wl_off (yl rfl rfl rfl) hcc ?_
          refine wl_off (yl rfl rfl rfl) hcc ?_
          refine wl_off (yl rfl rfl rfl) hcc ?_
          refine wl_pick_t ((a0.Flight.length : Int) == 32) (.bool true) rfl hcc rfl ?_
          refine wl_nil ?_
          exact qn ⟨rfl, _, rfl, (by repeat (first | exact Same.refl _ _ | refine Same.upd ?_ rfl)), (by rw [hcc]; rfl)⟩
        · skip
          refine wl_on (yl rfl rfl rfl) hcc ?_
          refine wl_field fld26_1 ((ho25 3 rfl).trans ((ho23 3 rfl).trans rfl)) ?_
          refine wl_on (yl rfl rfl rfl) hcc ?_
          refine wl_loadb1 B44 ty3 rfl (.int .i64 a0.Last) rfl ?_
          refine wl_on (yl rfl rfl rfl) hcc ?_
          refine wl_eql rfl rfl ?_
          refine wl_pick_f ((a0.Flight.length : Int) == 32) (.bool (a0.Last == 1099511627776)) rfl hcc rfl ?_
          refine wl_nil ?_
          exact qn ⟨rfl, _, rfl, (by repeat (first | exact Same.refl _ _ | refine Same.upd ?_ rfl)), (by rw [hcc]; rfl)⟩
      intro _ ho49 hv50
      refine wl_assign (.bool (((a0.Flight.length : Int) == 32) || (a0.Last == 1099511627776))) hv50 ?_
      refine wl_nil ?_
      refine qn ?_
      by_cases c51 : (((a0.Flight.length : Int) == 32) || (a0.Last == 1099511627776)) = true
      · replace h := (if_pos c51).symm.trans h
        refine wc_then rfl c51 ?_
        refine wc_seq ?_
        refine wc_region ?_
        have hb52 : ∀ w, (Instr.build 26 #[]).run Try.prog w = .ok (.agg (List.toArray [.slice none 0 0, .int .i64 0, .int .i64 0])) w := fun _ => by kernel_rfl
        refine wl_build [.slice none 0 0, .int .i64 0, .int .i64 0] (pn _ _) (hb52 _) ?_
        have B53 := (B10.step0 s21)
        refine wl_store B53 fr22.wf ty26 ((ho49 6 rfl).trans ((ho25 6 rfl).trans ((ho23 6 rfl).trans rfl))) [.slice none 0 0, .int .i64 0, .int .i64 0] (cells_of (v := (.agg #[.slice none 0 0, .int .i64 0, .int .i64 0])) rfl rfl) rfl (Nat.le_of_ble_eq_true rfl) (by intro u hu; simp only [List.mem_cons, List.not_mem_nil, or_false] at hu; rcases hu with rfl | rfl | rfl <;> rfl) [.slice none 0 0, .int .i64 0, .int .i64 0] rfl ?_
        intro w54 s55 B56
        have fr57 := fr22.then s55 (fun _ e => Option.some.inj e ▸ B53.new)
        refine wl_assign (.int .i64 0) rfl ?_
        refine wl_assign (.int .i64 13) rfl ?_
        refine wl_nil ?_
        refine qn ?_
        refine wc_ret ?_
        refine bret ?_
        refine qr ?_
        cases h
        refine end3 rfl (.cell ((ho49 6 rfl).trans ((ho25 6 rfl).trans ((ho23 6 rfl).trans rfl))) (ty26.load (l := [.slice none 0 0, .int .i64 0, .int .i64 0]) rfl (B56.cells rfl)) (.tmp rfl (.tmp rfl .nil))) ?_
        exact ⟨(.slice none 0 0), _, rfl, fr57, (Row.nil _ _ _)⟩
      · replace h := (if_neg c51).symm.trans h
        have b58 : (((a0.Flight.length : Int) == 32) || (a0.Last == 1099511627776)) = false := Bool.eq_false_iff.2 c51
        refine wc_else rfl b58 ?_
        refine wc_skip ?_
        refine bn ?_
        refine qn ?_
        refine wc_seq ?_
        refine wc_region ?_
        refine wl_field fld26_1 ((ho49 3 rfl).trans ((ho25 3 rfl).trans ((ho23 3 rfl).trans rfl))) ?_
        refine wl_loadb1 B44 ty3 rfl (.int .i64 a0.Last) rfl ?_
        refine wl_add rfl rfl ?_
        refine wl_field fld26_1 ((ho49 3 rfl).trans ((ho25 3 rfl).trans ((ho23 3 rfl).trans rfl))) ?_
        refine wl_store B44 fr22.wf ty3 rfl [.int .i64 (IntKind.i64.wrap (a0.Last + 1))] (cells_of (v := (.int .i64 (IntKind.i64.wrap (a0.Last + 1)))) rfl rfl) rfl (Nat.le_of_ble_eq_true rfl) (by intro u hu; simp only [List.mem_cons, List.not_mem_nil, or_false] at hu; subst hu; rfl) [v0_0, .int .i64 (IntKind.i64.wrap (a0.Last + 1)), .int .i64 a0.Now] rfl ?_
        intro w59 s60 B61
        have fr62 := fr22.then s60 (fun _ e => Option.some.inj e ▸ B44.new)
        refine wl_nil ?_
        refine qn ?_
        refine wc_seq ?_
        have s63 := Stp.drew (w := w59) (hw := hw20) fr62.wf
        have fr64 := fr62.then0 s63
        have B65 := (B61.step0 s63)
        have B66 := (((B10.step0 s21).stepb s60 (Ne.symm n12)).step0 s63)
        obtain ⟨t69, h70, h⟩ := Option.bind_eq_some_iff.1 h
        by_cases c90 : (t69.length + ([(⟨IntKind.i64.wrap (a0.Last + 1), a1, a2, a0.Now⟩ : ApiMsg)]).length) * 40 ≤ 140737488355328
        · replace h := (if_pos c90).symm.trans h
          refine wc_any (hw := hw20) mixed [[], [0], [1], [], [3], [], [], [], [7], [4, 5, 6, 8], [9], [2, 10, 2], [0, 1, 2, 3, 4, 5, 6, 7, 8, 9, 10, 11], [12, 11, 11, 0, 1, 2, 3, 4, 5, 6, 7, 8, 9, 10, 11]] [42, 43, 44, 45, 46, 47, 48, 49, 50, 51, 52, 53, 54] (by kernel_rfl) (PhiOf [fun v w hw => v = .pointer (some ⟨b1, 0, none⟩), fun v w hw => v = v0_0, fun v w hw => ∃ (A75 : Option Addr), v = .slice A75 t69.length t69.length ∧ Row KApiMsg w hw (.slice A75 t69.length t69.length) t69, fun v w hw => v = .pointer (some ⟨b1, 1, none⟩), fun v w hw => v = .int .i64 (IntKind.i64.wrap (a0.Last + 1)), fun v w hw => v = .int .i64 a1, fun v w hw => v = .string (bs a2), fun v w hw => v = .pointer (some ⟨b1, 2, none⟩), fun v w hw => v = .int .i64 a0.Now, fun v w hw => v = .agg #[.int .i64 (IntKind.i64.wrap (a0.Last + 1)), .int .i64 a1, .string (bs a2), .int .i64 a0.Now], fun v w hw => Row KApiMsg w hw v ([(⟨IntKind.i64.wrap (a0.Last + 1), a1, a2, a0.Now⟩ : ApiMsg)]), fun v w hw => Row KApiMsg w hw v (t69 ++ ([(⟨IntKind.i64.wrap (a0.Last + 1), a1, a2, a0.Now⟩ : ApiMsg)])), fun v w hw => v = .pointer (some ⟨b1, 0, none⟩), fun v w hw => True]) (fun D σ w hw => Stp none w0 hw0 w hw ∧ Ext (w59).drew hw20 w hw ∧ Box w0.heap.size w hw b1 26 [(bif D 13 then (σ 53) else v0_0), .int .i64 (IntKind.i64.wrap (a0.Last + 1)), .int .i64 a0.Now] ∧ Box w0.heap.size w hw b7 26 [.slice none 0 0, .int .i64 0, .int .i64 0] ∧ (bif D 11 then (Own KApiMsg 33 w0.heap.size w hw (σ 53) (t69 ++ ([(⟨IntKind.i64.wrap (a0.Last + 1), a1, a2, a0.Now⟩ : ApiMsg)])) ∧ Value.ownBlock (σ 53) ≠ some b1 ∧ Value.ownBlock (σ 53) ≠ some b7) else True)) (stab_of (sbc (fun _ _ _ _ _ _ h => h) (sbc (fun _ _ _ _ _ _ h => h) (sbc (fun _ _ _ _ _ e ⟨A75, hv, F0⟩ => ⟨A75, hv, F0.ext e⟩) (sbc (fun _ _ _ _ _ _ h => h) (sbc (fun _ _ _ _ _ _ h => h) (sbc (fun _ _ _ _ _ _ h => h) (sbc (fun _ _ _ _ _ _ h => h) (sbc (fun _ _ _ _ _ _ h => h) (sbc (fun _ _ _ _ _ _ h => h) (sbc (fun _ _ _ _ _ _ h => h) (sbc (fun _ _ _ _ _ e h => Row.ext e h) (sbc (fun _ _ _ _ _ e h => Row.ext e h) (sbc (fun _ _ _ _ _ _ h => h) (sbc (fun _ _ _ _ _ _ h => h) sbn))))))))))))))) ?_ (stc ?_ (stc ?_ (stc ?_ (stc ?_ (stc ?_ (stc ?_ (stc ?_ (stc ?_ (stc ?_ (stc ?_ (stc ?_ (stc ?_ (stc ?_ (stc ?_ stn)))))))))))))) ?_
          · exact ⟨fr64, Ext.refl _ _, B65, B66, trivial⟩
          · intro D109 σ110 w111 hw112 q113 q114 q115 q116 q117 q118
            obtain ⟨fr119, e120, C121, C122, C123⟩ := q113
            have B124 := C121
            rw [show D109 13 = false from (q118 13 rfl)] at B124
            refine wl_field fld26_0 ((q116 3 rfl).trans ((ho49 3 rfl).trans ((ho25 3 rfl).trans ((ho23 3 rfl).trans rfl)))) ?_
            refine wl_nil ?_
            exact qn ⟨_, _, rfl, (Ext.refl _ _), ⟨fr119, e120.trans (Ext.refl _ _), C121, C122, C123⟩, (aft_some rfl)⟩
          · intro D125 σ126 w127 hw128 q129 q130 q131 q132 q133 q134
            obtain ⟨fr135, e136, C137, C138, C139⟩ := q129
            have B140 := C137
            rw [show D125 13 = false from (q134 13 rfl)] at B140
            obtain ⟨⟨_, m141⟩, _⟩ := q131
            have z142 : (σ126 42) = .pointer (some ⟨b1, 0, none⟩) := m141
            refine wl_loadb1 B140 ty24 z142 (v0_0) rfl ?_
            refine wl_nil ?_
            exact qn ⟨_, _, rfl, (Ext.refl _ _), ⟨fr135, e136.trans (Ext.refl _ _), C137, C138, C139⟩, (aft_some rfl)⟩
          · intro D143 σ144 w145 hw146 q147 q148 q149 q150 q151 q152
            obtain ⟨fr153, e154, C155, C156, C157⟩ := q147
            have B158 := C155
            rw [show D143 13 = false from (q152 13 rfl)] at B158
            obtain ⟨⟨_, m159⟩, _⟩ := q149
            have z160 : (σ144 43) = v0_0 := m159
            have f161 := f48.ext (s60.ext.trans (s63.ext.trans (e154)))
            refine wl_call [v0_0] bod10 (mc z160 (mn _)) (slices_Clip_api_Msg.ok k fr153.wf a0.Flight v0_0 f161 _ h70) ?_
            rintro e162 w163 ⟨A166, hw164, rfl, s165, f167⟩
            refine ⟨_, rfl, ?_⟩
            have fr168 := fr153.then0 s165
            refine wl_nil ?_
            have B169 := (C155.step0 s165)
            have B170 := (C156.step0 s165)
            exact qn ⟨_, _, rfl, s165.ext, ⟨fr168, e154.trans s165.ext, B169, B170, (bif_mp (fun h => ⟨(h.1.step0 s165), h.2⟩) (fun h => h) C157)⟩, (aft_some (show ∃ (A75 : Option Addr), (.slice A166 t69.length t69.length : Value) = .slice A75 t69.length t69.length ∧ Row KApiMsg w163 hw164 (.slice A75 t69.length t69.length) t69 from ⟨A166, rfl, f167⟩))⟩
          · intro D171 σ172 w173 hw174 q175 q176 q177 q178 q179 q180
            obtain ⟨fr181, e182, C183, C184, C185⟩ := q175
            have B186 := C183
            rw [show D171 13 = false from (q180 13 rfl)] at B186
            refine wl_field fld26_1 ((q178 3 rfl).trans ((ho49 3 rfl).trans ((ho25 3 rfl).trans ((ho23 3 rfl).trans rfl)))) ?_
            refine wl_nil ?_
            exact qn ⟨_, _, rfl, (Ext.refl _ _), ⟨fr181, e182.trans (Ext.refl _ _), C183, C184, C185⟩, (aft_some rfl)⟩
          · intro D187 σ188 w189 hw190 q191 q192 q193 q194 q195 q196
            obtain ⟨fr197, e198, C199, C200, C201⟩ := q191
            have B202 := C199
            rw [show D187 13 = false from (q196 13 rfl)] at B202
            obtain ⟨⟨_, m203⟩, _⟩ := q193
            have z204 : (σ188 45) = .pointer (some ⟨b1, 1, none⟩) := m203
            refine wl_loadb1 B202 ty3 z204 (.int .i64 (IntKind.i64.wrap (a0.Last + 1))) rfl ?_
            refine wl_nil ?_
            exact qn ⟨_, _, rfl, (Ext.refl _ _), ⟨fr197, e198.trans (Ext.refl _ _), C199, C200, C201⟩, (aft_some rfl)⟩
          · intro D205 σ206 w207 hw208 q209 q210 q211 q212 q213 q214
            obtain ⟨fr215, e216, C217, C218, C219⟩ := q209
            have B220 := C217
            rw [show D205 13 = false from (q214 13 rfl)] at B220
            refine wl_move (.int .i64 a1) ((q212 1 rfl).trans ((ho49 1 rfl).trans ((ho25 1 rfl).trans ((ho23 1 rfl).trans rfl)))) ?_
            refine wl_nil ?_
            exact qn ⟨_, _, rfl, (Ext.refl _ _), ⟨fr215, e216.trans (Ext.refl _ _), C217, C218, C219⟩, (aft_some rfl)⟩
          · intro D221 σ222 w223 hw224 q225 q226 q227 q228 q229 q230
            obtain ⟨fr231, e232, C233, C234, C235⟩ := q225
            have B236 := C233
            rw [show D221 13 = false from (q230 13 rfl)] at B236
            refine wl_move (.string (bs a2)) ((q228 2 rfl).trans ((ho49 2 rfl).trans ((ho25 2 rfl).trans ((ho23 2 rfl).trans rfl)))) ?_
            refine wl_nil ?_
            exact qn ⟨_, _, rfl, (Ext.refl _ _), ⟨fr231, e232.trans (Ext.refl _ _), C233, C234, C235⟩, (aft_some rfl)⟩
          · intro D237 σ238 w239 hw240 q241 q242 q243 q244 q245 q246
            obtain ⟨fr247, e248, C249, C250, C251⟩ := q241
            have B252 := C249
            rw [show D237 13 = false from (q246 13 rfl)] at B252
            refine wl_field fld26_2 ((q244 3 rfl).trans ((ho49 3 rfl).trans ((ho25 3 rfl).trans ((ho23 3 rfl).trans rfl)))) ?_
            refine wl_nil ?_
            exact qn ⟨_, _, rfl, (Ext.refl _ _), ⟨fr247, e248.trans (Ext.refl _ _), C249, C250, C251⟩, (aft_some rfl)⟩
          · intro D253 σ254 w255 hw256 q257 q258 q259 q260 q261 q262
            obtain ⟨fr263, e264, C265, C266, C267⟩ := q257
            have B268 := C265
            rw [show D253 13 = false from (q262 13 rfl)] at B268
            obtain ⟨⟨_, m269⟩, _⟩ := q259
            have z270 : (σ254 49) = .pointer (some ⟨b1, 2, none⟩) := m269
            refine wl_loadb1 B268 ty3 z270 (.int .i64 a0.Now) rfl ?_
            refine wl_nil ?_
            exact qn ⟨_, _, rfl, (Ext.refl _ _), ⟨fr263, e264.trans (Ext.refl _ _), C265, C266, C267⟩, (aft_some rfl)⟩
          · intro D271 σ272 w273 hw274 q275 q276 q277 q278 q279 q280
            obtain ⟨fr281, e282, C283, C284, C285⟩ := q275
            have B286 := C283
            rw [show D271 13 = false from (q280 13 rfl)] at B286
            obtain ⟨⟨_, m287⟩, ⟨_, m288⟩, ⟨_, m289⟩, ⟨_, m290⟩, _⟩ := q277
            have z291 : (σ272 46) = .int .i64 (IntKind.i64.wrap (a0.Last + 1)) := m287
            have z292 : (σ272 47) = .int .i64 a1 := m288
            have z293 : (σ272 48) = .string (bs a2) := m289
            have z294 : (σ272 50) = .int .i64 a0.Now := m290
            have hb295 : ∀ w, (Instr.build 33 #[(0, .int .i64 (IntKind.i64.wrap (a0.Last + 1))), (1, .int .i64 a1), (2, .string (bs a2)), (3, .int .i64 a0.Now)]).run Try.prog w = .ok (.agg (List.toArray [.int .i64 (IntKind.i64.wrap (a0.Last + 1)), .int .i64 a1, .string (bs a2), .int .i64 a0.Now])) w := fun _ => by kernel_rfl
            refine wl_build [.int .i64 (IntKind.i64.wrap (a0.Last + 1)), .int .i64 a1, .string (bs a2), .int .i64 a0.Now] (pc z291 (pc z292 (pc z293 (pc z294 (pn _ _))))) (hb295 _) ?_
            refine wl_nil ?_
            exact qn ⟨_, _, rfl, (Ext.refl _ _), ⟨fr281, e282.trans (Ext.refl _ _), C283, C284, C285⟩, (aft_some rfl)⟩
          · intro D296 σ297 w298 hw299 q300 q301 q302 q303 q304 q305
            obtain ⟨fr306, e307, C308, C309, C310⟩ := q300
            have B311 := C308
            rw [show D296 13 = false from (q305 13 rfl)] at B311
            obtain ⟨⟨_, m312⟩, _⟩ := q302
            have z313 : (σ297 51) = .agg #[.int .i64 (IntKind.i64.wrap (a0.Last + 1)), .int .i64 a1, .string (bs a2), .int .i64 a0.Now] := m312
            have hb314 : ∀ w : World, (Instr.buildSlice 24 1 #[(0, .agg #[.int .i64 (IntKind.i64.wrap (a0.Last + 1)), .int .i64 a1, .string (bs a2), .int .i64 a0.Now])]).run Try.prog w = .ok (.slice (some ⟨w.heap.size, 0, none⟩) 1 1) (w.alloc (.cells (List.toArray [.int .i64 (IntKind.i64.wrap (a0.Last + 1)), .int .i64 a1, .string (bs a2), .int .i64 a0.Now]) 33)) := fun _ => by kernel_rfl
            refine wl_lit (KD := KApiMsg) fr306.wf [.int .i64 (IntKind.i64.wrap (a0.Last + 1)), .int .i64 a1, .string (bs a2), .int .i64 a0.Now] [(⟨IntKind.i64.wrap (a0.Last + 1), a1, a2, a0.Now⟩ : ApiMsg)] (pc z313 (pn _ _)) (hb314 _) rfl (by decide) ⟨[.int .i64 (IntKind.i64.wrap (a0.Last + 1)), .int .i64 a1, .string (bs a2), .int .i64 a0.Now], _, rfl, rfl, rfl⟩ ?_
            intro v315 w316 hw317 O319 s318
            have n320 := own_new_lt O319 C308.lt
            have n321 := own_new_lt O319 C309.lt
            replace O319 := O319.low fr306.g.size
            have fr322 := fr306.then0 s318
            refine wl_nil ?_
            have B323 := (C308.step0 s318)
            have B324 := (C309.step0 s318)
            exact qn ⟨_, _, rfl, s318.ext, ⟨fr322, e307.trans s318.ext, B323, B324, (bif_mp (fun h => ⟨(h.1.step0 s318), h.2⟩) (fun h => h) C310)⟩, (aft_some O319.row)⟩
          · intro D325 σ326 w327 hw328 q329 q330 q331 q332 q333 q334
            obtain ⟨fr335, e336, C337, C338, C339⟩ := q329
            have B340 := C337
            rw [show D325 13 = false from (q334 13 rfl)] at B340
            obtain ⟨⟨_, m341⟩, ⟨_, m342⟩, ⟨_, m343⟩, _⟩ := q331
            obtain ⟨A344, z345, f346⟩ : ∃ (A75 : Option Addr), (σ326 44) = .slice A75 t69.length t69.length ∧ Row KApiMsg w327 hw328 (.slice A75 t69.length t69.length) t69 := m341
            have f347 : Row KApiMsg w327 hw328 (σ326 52) ([(⟨IntKind.i64.wrap (a0.Last + 1), a1, a2, a0.Now⟩ : ApiMsg)]) := m342
            have c348 : t69.length + ([(⟨IntKind.i64.wrap (a0.Last + 1), a1, a2, a0.Now⟩ : ApiMsg)]).length ≤ 9223372036854775807 := by omega
            have c349 : 0 < ([(⟨IntKind.i64.wrap (a0.Last + 1), a1, a2, a0.Now⟩ : ApiMsg)]).length := by first | decide | simp | omega
            refine wl_app_full Try.underlying24 ty33 rfl (by decide) fr335.wf f346 f347 z345 rfl c349 c348 c90 ?_
            intro v350 w351 hw352 O3540 s353
            have O354 := O3540.low fr335.g.size
            have fr355 := fr335.then0 s353
            have n356 := own_new_lt O3540 C337.lt
            have n357 := own_new_lt O3540 C338.lt
            refine wl_nil ?_
            have B358 := (C337.step0 s353)
            have B359 := (C338.step0 s353)
            exact qn ⟨_, _, rfl, s353.ext, ⟨fr355, e336.trans s353.ext, (Box.retype B358 (show [(bif D325 13 then (σ326 53) else v0_0), .int .i64 (IntKind.i64.wrap (a0.Last + 1)), .int .i64 a0.Now] = [(bif D325 13 then v350 else v0_0), .int .i64 (IntKind.i64.wrap (a0.Last + 1)), .int .i64 a0.Now] from by rw [show D325 13 = false from (q334 13 rfl)] <;> rfl)), B359, ⟨O354, n356, n357⟩⟩, (aft_some O354.row)⟩
          · intro D360 σ361 w362 hw363 q364 q365 q366 q367 q368 q369
            obtain ⟨fr370, e371, C372, C373, C374⟩ := q364
            have O375 := bif_t (q368 11 rfl) C374
            obtain ⟨O375, n376, n377⟩ : Own KApiMsg 33 w0.heap.size w362 hw363 (σ361 53) (t69 ++ ([(⟨IntKind.i64.wrap (a0.Last + 1), a1, a2, a0.Now⟩ : ApiMsg)])) ∧ Value.ownBlock (σ361 53) ≠ some b1 ∧ Value.ownBlock (σ361 53) ≠ some b7 := O375
            have B378 := C372
            rw [show D360 13 = false from (q369 13 rfl)] at B378
            obtain ⟨⟨_, m379⟩, ⟨_, m380⟩, ⟨_, m381⟩, ⟨_, m382⟩, ⟨_, m383⟩, ⟨_, m384⟩, ⟨_, m385⟩, ⟨_, m386⟩, ⟨_, m387⟩, ⟨_, m388⟩, ⟨_, m389⟩, ⟨_, m390⟩, _⟩ := q366
            have z391 : (σ361 42) = .pointer (some ⟨b1, 0, none⟩) := m379
            have z392 : (σ361 43) = v0_0 := m380
            obtain ⟨A393, z394, f395⟩ : ∃ (A75 : Option Addr), (σ361 44) = .slice A75 t69.length t69.length ∧ Row KApiMsg w362 hw363 (.slice A75 t69.length t69.length) t69 := m381
            have z396 : (σ361 45) = .pointer (some ⟨b1, 1, none⟩) := m382
            have z397 : (σ361 46) = .int .i64 (IntKind.i64.wrap (a0.Last + 1)) := m383
            have z398 : (σ361 47) = .int .i64 a1 := m384
            have z399 : (σ361 48) = .string (bs a2) := m385
            have z400 : (σ361 49) = .pointer (some ⟨b1, 2, none⟩) := m386
            have z401 : (σ361 50) = .int .i64 a0.Now := m387
            have z402 : (σ361 51) = .agg #[.int .i64 (IntKind.i64.wrap (a0.Last + 1)), .int .i64 a1, .string (bs a2), .int .i64 a0.Now] := m388
            have f403 : Row KApiMsg w362 hw363 (σ361 52) ([(⟨IntKind.i64.wrap (a0.Last + 1), a1, a2, a0.Now⟩ : ApiMsg)]) := m389
            have f404 : Row KApiMsg w362 hw363 (σ361 53) (t69 ++ ([(⟨IntKind.i64.wrap (a0.Last + 1), a1, a2, a0.Now⟩ : ApiMsg)])) := m390
            refine wl_field fld26_0 ((q367 3 rfl).trans ((ho49 3 rfl).trans ((ho25 3 rfl).trans ((ho23 3 rfl).trans rfl)))) ?_
            refine wl_nil ?_
            exact qn ⟨_, _, rfl, (Ext.refl _ _), ⟨fr370, e371.trans (Ext.refl _ _), C372, C373, C374⟩, (aft_some rfl)⟩
          · intro D405 σ406 w407 hw408 q409 q410 q411 q412 q413 q414
            obtain ⟨fr415, e416, C417, C418, C419⟩ := q409
            have O420 := bif_t (q413 11 rfl) C419
            obtain ⟨O420, n421, n422⟩ : Own KApiMsg 33 w0.heap.size w407 hw408 (σ406 53) (t69 ++ ([(⟨IntKind.i64.wrap (a0.Last + 1), a1, a2, a0.Now⟩ : ApiMsg)])) ∧ Value.ownBlock (σ406 53) ≠ some b1 ∧ Value.ownBlock (σ406 53) ≠ some b7 := O420
            obtain ⟨⟨_, m423⟩, ⟨_, m424⟩, ⟨_, m425⟩, ⟨_, m426⟩, ⟨_, m427⟩, ⟨_, m428⟩, ⟨_, m429⟩, ⟨_, m430⟩, ⟨_, m431⟩, ⟨_, m432⟩, ⟨_, m433⟩, ⟨_, m434⟩, ⟨_, m435⟩, ⟨_, m436⟩, ⟨_, m437⟩, _⟩ := q411
            have z438 : (σ406 54) = .pointer (some ⟨b1, 0, none⟩) := m423
            have f439 : Row KApiMsg w407 hw408 (σ406 53) (t69 ++ ([(⟨IntKind.i64.wrap (a0.Last + 1), a1, a2, a0.Now⟩ : ApiMsg)])) := m424
            have z440 : (σ406 42) = .pointer (some ⟨b1, 0, none⟩) := m426
            have z441 : (σ406 43) = v0_0 := m427
            obtain ⟨A442, z443, f444⟩ : ∃ (A75 : Option Addr), (σ406 44) = .slice A75 t69.length t69.length ∧ Row KApiMsg w407 hw408 (.slice A75 t69.length t69.length) t69 := m428
            have z445 : (σ406 45) = .pointer (some ⟨b1, 1, none⟩) := m429
            have z446 : (σ406 46) = .int .i64 (IntKind.i64.wrap (a0.Last + 1)) := m430
            have z447 : (σ406 47) = .int .i64 a1 := m431
            have z448 : (σ406 48) = .string (bs a2) := m432
            have z449 : (σ406 49) = .pointer (some ⟨b1, 2, none⟩) := m433
            have z450 : (σ406 50) = .int .i64 a0.Now := m434
            have z451 : (σ406 51) = .agg #[.int .i64 (IntKind.i64.wrap (a0.Last + 1)), .int .i64 a1, .string (bs a2), .int .i64 a0.Now] := m435
            have f452 : Row KApiMsg w407 hw408 (σ406 52) ([(⟨IntKind.i64.wrap (a0.Last + 1), a1, a2, a0.Now⟩ : ApiMsg)]) := m436
            refine wl_store C417 fr415.wf ty24 z438 [(σ406 53)] (cells_of (v := (σ406 53)) rfl (row_cells O420.row)) rfl (Nat.le_of_ble_eq_true rfl) (one_all [(σ406 53)] (by simp only [List.all_cons, List.all_nil, Bool.and_true, Bool.true_and, row_one O420.row] <;> rfl)) [(σ406 53), .int .i64 (IntKind.i64.wrap (a0.Last + 1)), .int .i64 a0.Now] rfl ?_
            intro w453 s454 B455
            have fr456 := fr415.then s454 (fun _ e => Option.some.inj e ▸ C417.new)
            refine wl_nil ?_
            have B457 := (C418.stepb s454 (Ne.symm n12))
            exact qn ⟨_, _, rfl, s454.ext, ⟨fr456, e416.trans s454.ext, B455, B457, (bif_mp (fun h => ⟨(h.1.step s454 (.inr h.2.1)), h.2⟩) (fun h => h) C419)⟩, aft_none⟩
          · intro σ458 w459 hw460 q461 q462 q463
            obtain ⟨fr464, e465, C466, C467, C468⟩ := q461
            have O469 := C468
            obtain ⟨O469, n470, n471⟩ : Own KApiMsg 33 w0.heap.size w459 hw460 (σ458 53) (t69 ++ ([(⟨IntKind.i64.wrap (a0.Last + 1), a1, a2, a0.Now⟩ : ApiMsg)])) ∧ Value.ownBlock (σ458 53) ≠ some b1 ∧ Value.ownBlock (σ458 53) ≠ some b7 := O469
            obtain ⟨m472, m473, m474, m475, m476, m477, m478, m479, m480, m481, m482, m483, m484, m485, _⟩ := q463
            have B486 : Box w0.heap.size w459 hw460 b1 26 [(σ458 53), .int .i64 (IntKind.i64.wrap (a0.Last + 1)), .int .i64 a0.Now] := C466
            have z487 : (σ458 43) = v0_0 := m473
            obtain ⟨A488, z489, f490⟩ : ∃ (A75 : Option Addr), (σ458 44) = .slice A75 t69.length t69.length ∧ Row KApiMsg w459 hw460 (.slice A75 t69.length t69.length) t69 := m474
            have f491 : Row KApiMsg w459 hw460 (σ458 52) ([(⟨IntKind.i64.wrap (a0.Last + 1), a1, a2, a0.Now⟩ : ApiMsg)]) := m482
            have f492 : Row KApiMsg w459 hw460 (σ458 53) (t69 ++ ([(⟨IntKind.i64.wrap (a0.Last + 1), a1, a2, a0.Now⟩ : ApiMsg)])) := m483
            refine qn ?_
            refine wc_seq ?_
            have s493 := Stp.drew (w := w459) (hw := hw460) fr464.wf
            have fr494 := fr464.then0 s493
            have B495 := (B486.step0 s493)
            have B496 := (C467.step0 s493)
            have O497 := (O469.step0 s493)
            refine wc_any (hw := hw460) mixed [[], [], [1], [0, 0], [2, 3, 0, 1, 2, 3], [4, 0, 1, 2, 3, 4]] [55, 56, 57, 7, 8] (by kernel_rfl) (PhiOf [fun v w hw => v = .agg #[(σ458 53), .int .i64 (IntKind.i64.wrap (a0.Last + 1)), .int .i64 a0.Now], fun v w hw => v = .pointer (some ⟨b1, 1, none⟩), fun v w hw => v = .int .i64 (IntKind.i64.wrap (a0.Last + 1)), fun v w hw => True, fun v w hw => v = .int .i64 (IntKind.i64.wrap (a0.Last + 1)), fun v w hw => v = .int .i64 0]) (fun D σ w hw => Stp none w0 hw0 w hw ∧ Ext (w459).drew hw460 w hw ∧ Box w0.heap.size w hw b1 26 [(σ458 53), .int .i64 (IntKind.i64.wrap (a0.Last + 1)), .int .i64 a0.Now] ∧ Box w0.heap.size w hw b7 26 [(bif D 3 then (σ458 53) else .slice none 0 0), (bif D 3 then .int .i64 (IntKind.i64.wrap (a0.Last + 1)) else .int .i64 0), (bif D 3 then .int .i64 a0.Now else .int .i64 0)] ∧ Own KApiMsg 33 w0.heap.size w hw (σ458 53) (t69 ++ ([(⟨IntKind.i64.wrap (a0.Last + 1), a1, a2, a0.Now⟩ : ApiMsg)]))) (stab_of (sbc (fun _ _ _ _ _ _ h => h) (sbc (fun _ _ _ _ _ _ h => h) (sbc (fun _ _ _ _ _ _ h => h) (sbc (fun _ _ _ _ _ _ h => h) (sbc (fun _ _ _ _ _ _ h => h) (sbc (fun _ _ _ _ _ _ h => h) sbn))))))) ?_ (stc ?_ (stc ?_ (stc ?_ (stc ?_ (stc ?_ (stc ?_ stn)))))) ?_
            · exact ⟨fr494, Ext.refl _ _, B495, B496, O497⟩
            · intro D503 σ504 w505 hw506 q507 q508 q509 q510 q511 q512
              obtain ⟨fr513, e514, C515, C516, C517⟩ := q507
              have B518 := C516
              rw [show D503 3 = false from (q512 3 rfl)] at B518
              refine wl_loadb C515 ty26 ((q510 3 rfl).trans ((q462 3 rfl).trans ((ho49 3 rfl).trans ((ho25 3 rfl).trans ((ho23 3 rfl).trans rfl))))) [(σ458 53), .int .i64 (IntKind.i64.wrap (a0.Last + 1)), .int .i64 a0.Now] rfl rfl ?_
              refine wl_nil ?_
              exact qn ⟨_, _, rfl, (Ext.refl _ _), ⟨fr513, e514.trans (Ext.refl _ _), C515, C516, C517⟩, (aft_some rfl)⟩
            · intro D519 σ520 w521 hw522 q523 q524 q525 q526 q527 q528
              obtain ⟨fr529, e530, C531, C532, C533⟩ := q523
              refine wl_field fld26_1 ((q526 3 rfl).trans ((q462 3 rfl).trans ((ho49 3 rfl).trans ((ho25 3 rfl).trans ((ho23 3 rfl).trans rfl))))) ?_
              refine wl_nil ?_
              exact qn ⟨_, _, rfl, (Ext.refl _ _), ⟨fr529, e530.trans (Ext.refl _ _), C531, C532, C533⟩, (aft_some rfl)⟩
            · intro D534 σ535 w536 hw537 q538 q539 q540 q541 q542 q543
              obtain ⟨fr544, e545, C546, C547, C548⟩ := q538
              obtain ⟨⟨_, m549⟩, _⟩ := q540
              have z550 : (σ535 56) = .pointer (some ⟨b1, 1, none⟩) := m549
              refine wl_loadb1 C546 ty3 z550 (.int .i64 (IntKind.i64.wrap (a0.Last + 1))) rfl ?_
              refine wl_nil ?_
              exact qn ⟨_, _, rfl, (Ext.refl _ _), ⟨fr544, e545.trans (Ext.refl _ _), C546, C547, C548⟩, (aft_some rfl)⟩
            · intro D551 σ552 w553 hw554 q555 q556 q557 q558 q559 q560
              obtain ⟨fr561, e562, C563, C564, C565⟩ := q555
              obtain ⟨⟨_, m566⟩, ⟨_, m567⟩, _⟩ := q557
              have z568 : (σ552 55) = .agg #[(σ458 53), .int .i64 (IntKind.i64.wrap (a0.Last + 1)), .int .i64 a0.Now] := m566
              refine wl_store C564 fr561.wf ty26 ((q558 6 rfl).trans ((q462 6 rfl).trans ((ho49 6 rfl).trans ((ho25 6 rfl).trans ((ho23 6 rfl).trans rfl))))) [(σ458 53), .int .i64 (IntKind.i64.wrap (a0.Last + 1)), .int .i64 a0.Now] (cells_of z568 rfl) rfl (Nat.le_of_ble_eq_true rfl) (one_all [(σ458 53), .int .i64 (IntKind.i64.wrap (a0.Last + 1)), .int .i64 a0.Now] (by simp only [List.all_cons, List.all_nil, Bool.and_true, Bool.true_and, row_one C565.row] <;> rfl)) [(σ458 53), .int .i64 (IntKind.i64.wrap (a0.Last + 1)), .int .i64 a0.Now] rfl ?_
              intro w569 s570 B571
              have fr572 := fr561.then s570 (fun _ e => Option.some.inj e ▸ C564.new)
              refine wl_nil ?_
              have B573 := (C563.stepb s570 n12)
              have O574 := (C565.step s570 (.inr n471))
              exact qn ⟨_, _, rfl, s570.ext, ⟨fr572, e562.trans s570.ext, B573, B571, O574⟩, aft_none⟩
            · intro D575 σ576 w577 hw578 q579 q580 q581 q582 q583 q584
              obtain ⟨fr585, e586, C587, C588, C589⟩ := q579
              have B590 := C588
              rw [show D575 3 = true from (q583 3 rfl)] at B590
              obtain ⟨⟨_, m591⟩, ⟨_, m592⟩, ⟨_, m593⟩, ⟨_, m594⟩, ⟨_, m595⟩, ⟨_, m596⟩, _⟩ := q581
              have z597 : (σ576 57) = .int .i64 (IntKind.i64.wrap (a0.Last + 1)) := m591
              have z598 : (σ576 55) = .agg #[(σ458 53), .int .i64 (IntKind.i64.wrap (a0.Last + 1)), .int .i64 a0.Now] := m593
              have z599 : (σ576 56) = .pointer (some ⟨b1, 1, none⟩) := m594
              refine wl_assign (.int .i64 (IntKind.i64.wrap (a0.Last + 1))) z597 ?_
              refine wl_nil ?_
              exact qn ⟨_, _, rfl, (Ext.refl _ _), ⟨fr585, e586.trans (Ext.refl _ _), C587, C588, C589⟩, (aft_some rfl)⟩
            · intro D600 σ601 w602 hw603 q604 q605 q606 q607 q608 q609
              obtain ⟨fr610, e611, C612, C613, C614⟩ := q604
              have B615 := C613
              rw [show D600 3 = true from (q608 3 rfl)] at B615
              obtain ⟨⟨_, m616⟩, ⟨_, m617⟩, ⟨_, m618⟩, ⟨_, m619⟩, ⟨_, m620⟩, ⟨_, m621⟩, _⟩ := q606
              have z622 : (σ601 7) = .int .i64 (IntKind.i64.wrap (a0.Last + 1)) := m616
              have z623 : (σ601 55) = .agg #[(σ458 53), .int .i64 (IntKind.i64.wrap (a0.Last + 1)), .int .i64 a0.Now] := m617
              have z624 : (σ601 56) = .pointer (some ⟨b1, 1, none⟩) := m618
              have z625 : (σ601 57) = .int .i64 (IntKind.i64.wrap (a0.Last + 1)) := m619
              refine wl_assign (.int .i64 0) rfl ?_
              refine wl_nil ?_
              exact qn ⟨_, _, rfl, (Ext.refl _ _), ⟨fr610, e611.trans (Ext.refl _ _), C612, C613, C614⟩, (aft_some rfl)⟩
            · intro σ626 w627 hw628 q629 q630 q631
              obtain ⟨fr632, e633, C634, C635, C636⟩ := q629
              obtain ⟨m637, m638, m639, m640, m641, m642, _⟩ := q631
              have B643 : Box w0.heap.size w627 hw628 b7 26 [(σ458 53), .int .i64 (IntKind.i64.wrap (a0.Last + 1)), .int .i64 a0.Now] := C635
              have z644 : (σ626 7) = .int .i64 (IntKind.i64.wrap (a0.Last + 1)) := m641
              have z645 : (σ626 8) = .int .i64 0 := m642
              refine qn ?_
              refine wc_ret ?_
              cases h
              refine end3 rfl (.cell ((q630 6 rfl).trans ((q462 6 rfl).trans ((ho49 6 rfl).trans ((ho25 6 rfl).trans ((ho23 6 rfl).trans rfl))))) (ty26.load (l := [(σ458 53), .int .i64 (IntKind.i64.wrap (a0.Last + 1)), .int .i64 a0.Now]) rfl (B643.cells rfl)) (.tmp z644 (.tmp z645 .nil))) ?_
              exact ⟨(σ458 53), _, rfl, fr632, C636.row⟩
        · replace h := (if_neg c90).symm.trans h
          cases h
/-! ### consignor/wire.Twice: function 6 -/
def wire_Twice.f (k : Nat) (a0 : ApiNet) (a1 : Int) : Option (ApiNet × Int) := (wire_there.f k a0 a1).bind fun t16 => (if (t16 != 0) = true then (some ((⟨[], 0, 0⟩ : ApiNet), t16)) else (if ((a0.Flight.length : Int) == 32) = true then (some ((⟨[], 0, 0⟩ : ApiNet), 13)) else ((slices_Clip_api_Msg.f k a0.Flight).bind fun t50 => (if 0 ≤ a1 then ((a0.Flight[Int.toNat a1]?).bind fun t61 => (if (t50.length + ([t61]).length) * 40 ≤ 140737488355328 then (some ((⟨t50 ++ ([t61]), a0.Last, a0.Now⟩ : ApiNet), 0)) else none)) else none))))
set_option maxHeartbeats 1000000 in
theorem wire_Twice.ok (k : Nat) {w0 : World} {hw0 : Hw} (wf : Hwf w0 hw0) (a0 : ApiNet) (a1 : Int) (v0_0 : Value) (q0_0 : Row KApiMsg w0 hw0 v0_0 a0.Flight) (r : (ApiNet × Int)) (h : wire_Twice.f k a0 a1 = some r) :
    Calls Try.prog 6 #[.agg #[v0_0, .int .i64 a0.Last, .int .i64 a0.Now], .int .i64 a1] w0 fun e w' => ∃ (v0_0 : Value) (hw' : Hw), e = .returned (.tuple #[.agg #[v0_0, .int .i64 r.1.Last, .int .i64 r.1.Now], .int .i64 r.2]) ∧ Stp none w0 hw0 w' hw' ∧ Row KApiMsg w' hw' v0_0 r.1.Flight := by
  have fr0 := Stp.refl none (w := w0) (hw := hw0) wf
  unfold wire_Twice.f at h
  refine enter (n := 31) Try.func6 rfl rfl (Nat.le_of_ble_eq_true rfl) ?_
  refine wc_seq ?_
  refine wc_region ?_
  refine wl_box fr0.wf fr0.g.size [v0_0, .int .i64 a0.Last, .int .i64 a0.Now] (cells_of (v := (.agg #[v0_0, .int .i64 a0.Last, .int .i64 a0.Now])) rfl rfl) ?_
  intro b1 w2 s3 B4 g5
  have fr6 := fr0.then0 s3
  refine wl_alloc fr6.wf fr6.g.size ty26 [.slice none 0 0, .int .i64 0, .int .i64 0] rfl ?_
  intro b7 w8 s9 B10 g11
  have n12 : b1 ≠ b7 := B4.ne g11
  have fr13 := fr6.then0 s9
  refine wl_assign (.int .i64 0) rfl ?_
  refine wl_nil ?_
  refine qn ?_
  refine wc_seq ?_
  refine wc_seq ?_
  refine wc_region ?_
  have B14 := (B4.step0 s9)
  refine wl_loadb B14 ty26 rfl [v0_0, .int .i64 a0.Last, .int .i64 a0.Now] rfl rfl ?_
  refine wl_move (.int .i64 a1) rfl ?_
  have f15 := q0_0.ext (s3.ext.trans (s9.ext))
  obtain ⟨t16, h17, h⟩ := Option.bind_eq_some_iff.1 h
  refine wl_call [.agg #[v0_0, .int .i64 a0.Last, .int .i64 a0.Now], .int .i64 a1] bod11 (mc rfl (mc rfl (mn _))) (wire_there.ok k fr13.wf a0 a1 v0_0 f15 _ h17) ?_
  rintro e18 w19 ⟨hw20, rfl, s21⟩
  refine ⟨_, rfl, ?_⟩
  have fr22 := fr13.then0 s21
  refine wl_assign (.int .i64 t16) rfl ?_
  refine wl_nil ?_
  refine qn ?_
  refine wc_seq ?_
  refine wc_region ?_
  refine wl_move (.int .i64 t16) rfl ?_
  refine wl_neq rfl rfl ?_
  refine wl_nil ?_
  refine qn ?_
  by_cases c23 : (t16 != 0) = true
  · replace h := (if_pos c23).symm.trans h
    refine wc_then rfl c23 ?_
    refine wc_seq ?_
    refine wc_region ?_
    have hb24 : ∀ w, (Instr.build 26 #[]).run Try.prog w = .ok (.agg (List.toArray [.slice none 0 0, .int .i64 0, .int .i64 0])) w := fun _ => by kernel_rfl
    refine wl_build [.slice none 0 0, .int .i64 0, .int .i64 0] (pn _ _) (hb24 _) ?_
    refine wl_move (.int .i64 t16) rfl ?_
    have B25 := (B10.step0 s21)
    refine wl_store B25 fr22.wf ty26 rfl [.slice none 0 0, .int .i64 0, .int .i64 0] (cells_of (v := (.agg #[.slice none 0 0, .int .i64 0, .int .i64 0])) rfl rfl) rfl (Nat.le_of_ble_eq_true rfl) (by intro u hu; simp only [List.mem_cons, List.not_mem_nil, or_false] at hu; rcases hu with rfl | rfl | rfl <;> rfl) [.slice none 0 0, .int .i64 0, .int .i64 0] rfl ?_
    intro w26 s27 B28
    have fr29 := fr22.then s27 (fun _ e => Option.some.inj e ▸ B25.new)
    refine wl_assign (.int .i64 t16) rfl ?_
    refine wl_nil ?_
    refine qn ?_
    refine wc_ret ?_
    refine qr ?_
    cases h
    refine end2 rfl (.cell rfl (ty26.load (l := [.slice none 0 0, .int .i64 0, .int .i64 0]) rfl (B28.cells rfl)) (.tmp rfl .nil)) ?_
    exact ⟨(.slice none 0 0), _, rfl, fr29, (Row.nil _ _ _)⟩
  · replace h := (if_neg c23).symm.trans h
    have b30 : (t16 != 0) = false := Bool.eq_false_iff.2 c23
    refine wc_else rfl b30 ?_
    refine wc_skip ?_
    refine qn ?_
    refine wc_seq ?_
    refine wc_seq ?_
    refine wc_region ?_
    refine wl_field fld26_0 rfl ?_
    have B31 := (B14.step0 s21)
    refine wl_loadb1 B31 ty24 rfl (v0_0) rfl ?_
    have f35 := f15.ext (s21.ext)
    obtain ⟨A32, c33, hv34⟩ := (f35).slice
    refine wl_len Try.underlying24 (show _ = Value.slice _ a0.Flight.length _ from (Eq.trans rfl hv34)) ?_
    refine wl_eql rfl rfl ?_
    refine wl_nil ?_
    refine qn ?_
    by_cases c36 : ((a0.Flight.length : Int) == 32) = true
    · replace h := (if_pos c36).symm.trans h
      refine wc_then rfl c36 ?_
      refine wc_seq ?_
      refine wc_region ?_
      have hb37 : ∀ w, (Instr.build 26 #[]).run Try.prog w = .ok (.agg (List.toArray [.slice none 0 0, .int .i64 0, .int .i64 0])) w := fun _ => by kernel_rfl
      refine wl_build [.slice none 0 0, .int .i64 0, .int .i64 0] (pn _ _) (hb37 _) ?_
      have B38 := (B10.step0 s21)
      refine wl_store B38 fr22.wf ty26 rfl [.slice none 0 0, .int .i64 0, .int .i64 0] (cells_of (v := (.agg #[.slice none 0 0, .int .i64 0, .int .i64 0])) rfl rfl) rfl (Nat.le_of_ble_eq_true rfl) (by intro u hu; simp only [List.mem_cons, List.not_mem_nil, or_false] at hu; rcases hu with rfl | rfl | rfl <;> rfl) [.slice none 0 0, .int .i64 0, .int .i64 0] rfl ?_
      intro w39 s40 B41
      have fr42 := fr22.then s40 (fun _ e => Option.some.inj e ▸ B38.new)
      refine wl_assign (.int .i64 13) rfl ?_
      refine wl_nil ?_
      refine qn ?_
      refine wc_ret ?_
      refine qr ?_
      cases h
      refine end2 rfl (.cell rfl (ty26.load (l := [.slice none 0 0, .int .i64 0, .int .i64 0]) rfl (B41.cells rfl)) (.tmp rfl .nil)) ?_
      exact ⟨(.slice none 0 0), _, rfl, fr42, (Row.nil _ _ _)⟩
    · replace h := (if_neg c36).symm.trans h
      have b43 : ((a0.Flight.length : Int) == 32) = false := Bool.eq_false_iff.2 c36
      refine wc_else rfl b43 ?_
      refine wc_skip ?_
      refine qn ?_
      refine wc_seq ?_
      have s44 := Stp.drew (w := w19) (hw := hw20) fr22.wf
      have fr45 := fr22.then0 s44
      have B46 := (B31.step0 s44)
      have B47 := ((B10.step0 s21).step0 s44)
      obtain ⟨t50, h51, h⟩ := Option.bind_eq_some_iff.1 h
      by_cases c60 : 0 ≤ a1
      · replace h := (if_pos c60).symm.trans h
        obtain ⟨t61, h62, h⟩ := Option.bind_eq_some_iff.1 h
        by_cases c80 : (t50.length + ([t61]).length) * 40 ≤ 140737488355328
        · replace h := (if_pos c80).symm.trans h
          refine wc_any (hw := hw20) mixed [[], [0], [1], [], [3], [], [4, 5], [6], [7], [2, 8, 2], [0, 1, 2, 3, 4, 5, 6, 7, 8, 9], [10, 9, 9, 0, 1, 2, 3, 4, 5, 6, 7, 8, 9]] [19, 20, 21, 22, 23, 24, 25, 26, 27, 28, 29] (by kernel_rfl) (PhiOf [fun v w hw => v = .pointer (some ⟨b1, 0, none⟩), fun v w hw => v = v0_0, fun v w hw => ∃ (A56 : Option Addr), v = .slice A56 t50.length t50.length ∧ Row KApiMsg w hw (.slice A56 t50.length t50.length) t50, fun v w hw => v = .pointer (some ⟨b1, 0, none⟩), fun v w hw => v = v0_0, fun v w hw => v = .int .i64 a1, fun v w hw => ∃ (B64 : Nat) (o65 : Nat), v = .pointer (some ⟨B64, o65, none⟩) ∧ Live w hw B64 o65 [.int .i64 t61.Id, .int .i64 t61.To, .string (bs t61.Body), .int .i64 t61.At], fun v w hw => v = .agg #[.int .i64 t61.Id, .int .i64 t61.To, .string (bs t61.Body), .int .i64 t61.At], fun v w hw => Row KApiMsg w hw v ([t61]), fun v w hw => Row KApiMsg w hw v (t50 ++ ([t61])), fun v w hw => v = .pointer (some ⟨b1, 0, none⟩), fun v w hw => True]) (fun D σ w hw => Stp none w0 hw0 w hw ∧ Ext (w19).drew hw20 w hw ∧ Box w0.heap.size w hw b1 26 [(bif D 11 then (σ 28) else v0_0), .int .i64 a0.Last, .int .i64 a0.Now] ∧ Box w0.heap.size w hw b7 26 [.slice none 0 0, .int .i64 0, .int .i64 0] ∧ (bif D 9 then (Own KApiMsg 33 w0.heap.size w hw (σ 28) (t50 ++ ([t61])) ∧ Value.ownBlock (σ 28) ≠ some b1 ∧ Value.ownBlock (σ 28) ≠ some b7) else True)) (stab_of (sbc (fun _ _ _ _ _ _ h => h) (sbc (fun _ _ _ _ _ _ h => h) (sbc (fun _ _ _ _ _ e ⟨A56, hv, F0⟩ => ⟨A56, hv, F0.ext e⟩) (sbc (fun _ _ _ _ _ _ h => h) (sbc (fun _ _ _ _ _ _ h => h) (sbc (fun _ _ _ _ _ _ h => h) (sbc (fun _ _ _ _ _ e ⟨B64, o65, hv, F0⟩ => ⟨B64, o65, hv, F0.ext e⟩) (sbc (fun _ _ _ _ _ _ h => h) (sbc (fun _ _ _ _ _ e h => Row.ext e h) (sbc (fun _ _ _ _ _ e h => Row.ext e h) (sbc (fun _ _ _ _ _ _ h => h) (sbc (fun _ _ _ _ _ _ h => h) sbn))))))))))))) ?_ (stc ?_ (stc ?_ (stc ?_ (stc ?_ (stc ?_ (stc ?_ (stc ?_ (stc ?_ (stc ?_ (stc ?_ (stc ?_ (stc ?_ stn)))))))))))) ?_
          · exact ⟨fr45, Ext.refl _ _, B46, B47, trivial⟩
          · intro D99 σ100 w101 hw102 q103 q104 q105 q106 q107 q108
            obtain ⟨fr109, e110, C111, C112, C113⟩ := q103
            have B114 := C111
            rw [show D99 11 = false from (q108 11 rfl)] at B114
            refine wl_field fld26_0 ((q106 2 rfl).trans rfl) ?_
            refine wl_nil ?_
            exact qn ⟨_, _, rfl, (Ext.refl _ _), ⟨fr109, e110.trans (Ext.refl _ _), C111, C112, C113⟩, (aft_some rfl)⟩
          · intro D115 σ116 w117 hw118 q119 q120 q121 q122 q123 q124
            obtain ⟨fr125, e126, C127, C128, C129⟩ := q119
            have B130 := C127
            rw [show D115 11 = false from (q124 11 rfl)] at B130
            obtain ⟨⟨_, m131⟩, _⟩ := q121
            have z132 : (σ116 19) = .pointer (some ⟨b1, 0, none⟩) := m131
            refine wl_loadb1 B130 ty24 z132 (v0_0) rfl ?_
            refine wl_nil ?_
            exact qn ⟨_, _, rfl, (Ext.refl _ _), ⟨fr125, e126.trans (Ext.refl _ _), C127, C128, C129⟩, (aft_some rfl)⟩
          · intro D133 σ134 w135 hw136 q137 q138 q139 q140 q141 q142
            obtain ⟨fr143, e144, C145, C146, C147⟩ := q137
            have B148 := C145
            rw [show D133 11 = false from (q142 11 rfl)] at B148
            obtain ⟨⟨_, m149⟩, _⟩ := q139
            have z150 : (σ134 20) = v0_0 := m149
            have f151 := f35.ext (s44.ext.trans (e144))
            refine wl_call [v0_0] bod10 (mc z150 (mn _)) (slices_Clip_api_Msg.ok k fr143.wf a0.Flight v0_0 f151 _ h51) ?_
            rintro e152 w153 ⟨A156, hw154, rfl, s155, f157⟩
            refine ⟨_, rfl, ?_⟩
            have fr158 := fr143.then0 s155
            refine wl_nil ?_
            have B159 := (C145.step0 s155)
            have B160 := (C146.step0 s155)
            exact qn ⟨_, _, rfl, s155.ext, ⟨fr158, e144.trans s155.ext, B159, B160, (bif_mp (fun h => ⟨(h.1.step0 s155), h.2⟩) (fun h => h) C147)⟩, (aft_some (show ∃ (A56 : Option Addr), (.slice A156 t50.length t50.length : Value) = .slice A56 t50.length t50.length ∧ Row KApiMsg w153 hw154 (.slice A56 t50.length t50.length) t50 from ⟨A156, rfl, f157⟩))⟩
          · intro D161 σ162 w163 hw164 q165 q166 q167 q168 q169 q170
            obtain ⟨fr171, e172, C173, C174, C175⟩ := q165
            have B176 := C173
            rw [show D161 11 = false from (q170 11 rfl)] at B176
            refine wl_field fld26_0 ((q168 2 rfl).trans rfl) ?_
            refine wl_nil ?_
            exact qn ⟨_, _, rfl, (Ext.refl _ _), ⟨fr171, e172.trans (Ext.refl _ _), C173, C174, C175⟩, (aft_some rfl)⟩
          · intro D177 σ178 w179 hw180 q181 q182 q183 q184 q185 q186
            obtain ⟨fr187, e188, C189, C190, C191⟩ := q181
            have B192 := C189
            rw [show D177 11 = false from (q186 11 rfl)] at B192
            obtain ⟨⟨_, m193⟩, _⟩ := q183
            have z194 : (σ178 22) = .pointer (some ⟨b1, 0, none⟩) := m193
            refine wl_loadb1 B192 ty24 z194 (v0_0) rfl ?_
            refine wl_nil ?_
            exact qn ⟨_, _, rfl, (Ext.refl _ _), ⟨fr187, e188.trans (Ext.refl _ _), C189, C190, C191⟩, (aft_some rfl)⟩
          · intro D195 σ196 w197 hw198 q199 q200 q201 q202 q203 q204
            obtain ⟨fr205, e206, C207, C208, C209⟩ := q199
            have B210 := C207
            rw [show D195 11 = false from (q204 11 rfl)] at B210
            refine wl_move (.int .i64 a1) ((q202 1 rfl).trans rfl) ?_
            refine wl_nil ?_
            exact qn ⟨_, _, rfl, (Ext.refl _ _), ⟨fr205, e206.trans (Ext.refl _ _), C207, C208, C209⟩, (aft_some rfl)⟩
          · intro D211 σ212 w213 hw214 q215 q216 q217 q218 q219 q220
            obtain ⟨fr221, e222, C223, C224, C225⟩ := q215
            have B226 := C223
            rw [show D211 11 = false from (q220 11 rfl)] at B226
            obtain ⟨⟨_, m227⟩, ⟨_, m228⟩, _⟩ := q217
            have z229 : (σ212 23) = v0_0 := m227
            have z230 : (σ212 24) = .int .i64 a1 := m228
            have c231 := at_lt c60 h62
            have f237 := f35.ext (s44.ext.trans (e222))
            refine wl_at Try.underlying24 ty33 f237 z229 z230 c60 c231 t61 h62 ?_
            rintro B232 o233 cs234 rfl l236
            refine wl_nil ?_
            exact qn ⟨_, _, rfl, (Ext.refl _ _), ⟨fr221, e222.trans (Ext.refl _ _), C223, C224, C225⟩, (aft_some (show ∃ (B64 : Nat) (o65 : Nat), (.pointer (some ⟨B232, o233, none⟩) : Value) = .pointer (some ⟨B64, o65, none⟩) ∧ Live w213 hw214 B64 o65 [.int .i64 t61.Id, .int .i64 t61.To, .string (bs t61.Body), .int .i64 t61.At] from ⟨B232, o233, rfl, l236⟩))⟩
          · intro D238 σ239 w240 hw241 q242 q243 q244 q245 q246 q247
            obtain ⟨fr248, e249, C250, C251, C252⟩ := q242
            have B253 := C250
            rw [show D238 11 = false from (q247 11 rfl)] at B253
            obtain ⟨⟨_, m254⟩, _⟩ := q244
            obtain ⟨B255, o256, z257, f258⟩ : ∃ (B64 : Nat) (o65 : Nat), (σ239 25) = .pointer (some ⟨B64, o65, none⟩) ∧ Live w240 hw241 B64 o65 [.int .i64 t61.Id, .int .i64 t61.To, .string (bs t61.Body), .int .i64 t61.At] := m254
            refine wl_load ty33 z257 [.int .i64 t61.Id, .int .i64 t61.To, .string (bs t61.Body), .int .i64 t61.At] rfl f258.2 ?_
            refine wl_nil ?_
            exact qn ⟨_, _, rfl, (Ext.refl _ _), ⟨fr248, e249.trans (Ext.refl _ _), C250, C251, C252⟩, (aft_some rfl)⟩
          · intro D259 σ260 w261 hw262 q263 q264 q265 q266 q267 q268
            obtain ⟨fr269, e270, C271, C272, C273⟩ := q263
            have B274 := C271
            rw [show D259 11 = false from (q268 11 rfl)] at B274
            obtain ⟨⟨_, m275⟩, _⟩ := q265
            have z276 : (σ260 26) = .agg #[.int .i64 t61.Id, .int .i64 t61.To, .string (bs t61.Body), .int .i64 t61.At] := m275
            have hb277 : ∀ w : World, (Instr.buildSlice 24 1 #[(0, .agg #[.int .i64 t61.Id, .int .i64 t61.To, .string (bs t61.Body), .int .i64 t61.At])]).run Try.prog w = .ok (.slice (some ⟨w.heap.size, 0, none⟩) 1 1) (w.alloc (.cells (List.toArray [.int .i64 t61.Id, .int .i64 t61.To, .string (bs t61.Body), .int .i64 t61.At]) 33)) := fun _ => by kernel_rfl
            refine wl_lit (KD := KApiMsg) fr269.wf [.int .i64 t61.Id, .int .i64 t61.To, .string (bs t61.Body), .int .i64 t61.At] [t61] (pc z276 (pn _ _)) (hb277 _) rfl (by decide) ⟨[.int .i64 t61.Id, .int .i64 t61.To, .string (bs t61.Body), .int .i64 t61.At], _, rfl, rfl, rfl⟩ ?_
            intro v278 w279 hw280 O282 s281
            have n283 := own_new_lt O282 C271.lt
            have n284 := own_new_lt O282 C272.lt
            replace O282 := O282.low fr269.g.size
            have fr285 := fr269.then0 s281
            refine wl_nil ?_
            have B286 := (C271.step0 s281)
            have B287 := (C272.step0 s281)
            exact qn ⟨_, _, rfl, s281.ext, ⟨fr285, e270.trans s281.ext, B286, B287, (bif_mp (fun h => ⟨(h.1.step0 s281), h.2⟩) (fun h => h) C273)⟩, (aft_some O282.row)⟩
          · intro D288 σ289 w290 hw291 q292 q293 q294 q295 q296 q297
            obtain ⟨fr298, e299, C300, C301, C302⟩ := q292
            have B303 := C300
            rw [show D288 11 = false from (q297 11 rfl)] at B303
            obtain ⟨⟨_, m304⟩, ⟨_, m305⟩, ⟨_, m306⟩, _⟩ := q294
            obtain ⟨A307, z308, f309⟩ : ∃ (A56 : Option Addr), (σ289 21) = .slice A56 t50.length t50.length ∧ Row KApiMsg w290 hw291 (.slice A56 t50.length t50.length) t50 := m304
            have f310 : Row KApiMsg w290 hw291 (σ289 27) ([t61]) := m305
            have c311 : t50.length + ([t61]).length ≤ 9223372036854775807 := by omega
            have c312 : 0 < ([t61]).length := by first | decide | simp | omega
            refine wl_app_full Try.underlying24 ty33 rfl (by decide) fr298.wf f309 f310 z308 rfl c312 c311 c80 ?_
            intro v313 w314 hw315 O3170 s316
            have O317 := O3170.low fr298.g.size
            have fr318 := fr298.then0 s316
            have n319 := own_new_lt O3170 C300.lt
            have n320 := own_new_lt O3170 C301.lt
            refine wl_nil ?_
            have B321 := (C300.step0 s316)
            have B322 := (C301.step0 s316)
            exact qn ⟨_, _, rfl, s316.ext, ⟨fr318, e299.trans s316.ext, (Box.retype B321 (show [(bif D288 11 then (σ289 28) else v0_0), .int .i64 a0.Last, .int .i64 a0.Now] = [(bif D288 11 then v313 else v0_0), .int .i64 a0.Last, .int .i64 a0.Now] from by rw [show D288 11 = false from (q297 11 rfl)] <;> rfl)), B322, ⟨O317, n319, n320⟩⟩, (aft_some O317.row)⟩
          · intro D323 σ324 w325 hw326 q327 q328 q329 q330 q331 q332
            obtain ⟨fr333, e334, C335, C336, C337⟩ := q327
            have O338 := bif_t (q331 9 rfl) C337
            obtain ⟨O338, n339, n340⟩ : Own KApiMsg 33 w0.heap.size w325 hw326 (σ324 28) (t50 ++ ([t61])) ∧ Value.ownBlock (σ324 28) ≠ some b1 ∧ Value.ownBlock (σ324 28) ≠ some b7 := O338
            have B341 := C335
            rw [show D323 11 = false from (q332 11 rfl)] at B341
            obtain ⟨⟨_, m342⟩, ⟨_, m343⟩, ⟨_, m344⟩, ⟨_, m345⟩, ⟨_, m346⟩, ⟨_, m347⟩, ⟨_, m348⟩, ⟨_, m349⟩, ⟨_, m350⟩, ⟨_, m351⟩, _⟩ := q329
            have z352 : (σ324 19) = .pointer (some ⟨b1, 0, none⟩) := m342
            have z353 : (σ324 20) = v0_0 := m343
            obtain ⟨A354, z355, f356⟩ : ∃ (A56 : Option Addr), (σ324 21) = .slice A56 t50.length t50.length ∧ Row KApiMsg w325 hw326 (.slice A56 t50.length t50.length) t50 := m344
            have z357 : (σ324 22) = .pointer (some ⟨b1, 0, none⟩) := m345
            have z358 : (σ324 23) = v0_0 := m346
            have z359 : (σ324 24) = .int .i64 a1 := m347
            obtain ⟨B360, o361, z362, f363⟩ : ∃ (B64 : Nat) (o65 : Nat), (σ324 25) = .pointer (some ⟨B64, o65, none⟩) ∧ Live w325 hw326 B64 o65 [.int .i64 t61.Id, .int .i64 t61.To, .string (bs t61.Body), .int .i64 t61.At] := m348
            have z364 : (σ324 26) = .agg #[.int .i64 t61.Id, .int .i64 t61.To, .string (bs t61.Body), .int .i64 t61.At] := m349
            have f365 : Row KApiMsg w325 hw326 (σ324 27) ([t61]) := m350
            have f366 : Row KApiMsg w325 hw326 (σ324 28) (t50 ++ ([t61])) := m351
            refine wl_field fld26_0 ((q330 2 rfl).trans rfl) ?_
            refine wl_nil ?_
            exact qn ⟨_, _, rfl, (Ext.refl _ _), ⟨fr333, e334.trans (Ext.refl _ _), C335, C336, C337⟩, (aft_some rfl)⟩
          · intro D367 σ368 w369 hw370 q371 q372 q373 q374 q375 q376
            obtain ⟨fr377, e378, C379, C380, C381⟩ := q371
            have O382 := bif_t (q375 9 rfl) C381
            obtain ⟨O382, n383, n384⟩ : Own KApiMsg 33 w0.heap.size w369 hw370 (σ368 28) (t50 ++ ([t61])) ∧ Value.ownBlock (σ368 28) ≠ some b1 ∧ Value.ownBlock (σ368 28) ≠ some b7 := O382
            obtain ⟨⟨_, m385⟩, ⟨_, m386⟩, ⟨_, m387⟩, ⟨_, m388⟩, ⟨_, m389⟩, ⟨_, m390⟩, ⟨_, m391⟩, ⟨_, m392⟩, ⟨_, m393⟩, ⟨_, m394⟩, ⟨_, m395⟩, ⟨_, m396⟩, ⟨_, m397⟩, _⟩ := q373
            have z398 : (σ368 29) = .pointer (some ⟨b1, 0, none⟩) := m385
            have f399 : Row KApiMsg w369 hw370 (σ368 28) (t50 ++ ([t61])) := m386
            have z400 : (σ368 19) = .pointer (some ⟨b1, 0, none⟩) := m388
            have z401 : (σ368 20) = v0_0 := m389
            obtain ⟨A402, z403, f404⟩ : ∃ (A56 : Option Addr), (σ368 21) = .slice A56 t50.length t50.length ∧ Row KApiMsg w369 hw370 (.slice A56 t50.length t50.length) t50 := m390
            have z405 : (σ368 22) = .pointer (some ⟨b1, 0, none⟩) := m391
            have z406 : (σ368 23) = v0_0 := m392
            have z407 : (σ368 24) = .int .i64 a1 := m393
            obtain ⟨B408, o409, z410, f411⟩ : ∃ (B64 : Nat) (o65 : Nat), (σ368 25) = .pointer (some ⟨B64, o65, none⟩) ∧ Live w369 hw370 B64 o65 [.int .i64 t61.Id, .int .i64 t61.To, .string (bs t61.Body), .int .i64 t61.At] := m394
            have z412 : (σ368 26) = .agg #[.int .i64 t61.Id, .int .i64 t61.To, .string (bs t61.Body), .int .i64 t61.At] := m395
            have f413 : Row KApiMsg w369 hw370 (σ368 27) ([t61]) := m396
            refine wl_store C379 fr377.wf ty24 z398 [(σ368 28)] (cells_of (v := (σ368 28)) rfl (row_cells O382.row)) rfl (Nat.le_of_ble_eq_true rfl) (one_all [(σ368 28)] (by simp only [List.all_cons, List.all_nil, Bool.and_true, Bool.true_and, row_one O382.row] <;> rfl)) [(σ368 28), .int .i64 a0.Last, .int .i64 a0.Now] rfl ?_
            intro w414 s415 B416
            have fr417 := fr377.then s415 (fun _ e => Option.some.inj e ▸ C379.new)
            refine wl_nil ?_
            have B418 := (C380.stepb s415 (Ne.symm n12))
            exact qn ⟨_, _, rfl, s415.ext, ⟨fr417, e378.trans s415.ext, B416, B418, (bif_mp (fun h => ⟨(h.1.step s415 (.inr h.2.1)), h.2⟩) (fun h => h) C381)⟩, aft_none⟩
          · intro σ419 w420 hw421 q422 q423 q424
            obtain ⟨fr425, e426, C427, C428, C429⟩ := q422
            have O430 := C429
            obtain ⟨O430, n431, n432⟩ : Own KApiMsg 33 w0.heap.size w420 hw421 (σ419 28) (t50 ++ ([t61])) ∧ Value.ownBlock (σ419 28) ≠ some b1 ∧ Value.ownBlock (σ419 28) ≠ some b7 := O430
            obtain ⟨m433, m434, m435, m436, m437, m438, m439, m440, m441, m442, m443, m444, _⟩ := q424
            have B445 : Box w0.heap.size w420 hw421 b1 26 [(σ419 28), .int .i64 a0.Last, .int .i64 a0.Now] := C427
            have z446 : (σ419 20) = v0_0 := m434
            obtain ⟨A447, z448, f449⟩ : ∃ (A56 : Option Addr), (σ419 21) = .slice A56 t50.length t50.length ∧ Row KApiMsg w420 hw421 (.slice A56 t50.length t50.length) t50 := m435
            have z450 : (σ419 23) = v0_0 := m437
            have f451 : Row KApiMsg w420 hw421 (σ419 27) ([t61]) := m441
            have f452 : Row KApiMsg w420 hw421 (σ419 28) (t50 ++ ([t61])) := m442
            refine qn ?_
            refine wc_seq ?_
            refine wc_region ?_
            refine wl_loadb B445 ty26 ((q423 2 rfl).trans rfl) [(σ419 28), .int .i64 a0.Last, .int .i64 a0.Now] rfl rfl ?_
            refine wl_store C428 fr425.wf ty26 ((q423 4 rfl).trans rfl) [(σ419 28), .int .i64 a0.Last, .int .i64 a0.Now] (cells_of (v := (.agg #[(σ419 28), .int .i64 a0.Last, .int .i64 a0.Now])) rfl rfl) rfl (Nat.le_of_ble_eq_true rfl) (one_all [(σ419 28), .int .i64 a0.Last, .int .i64 a0.Now] (by simp only [List.all_cons, List.all_nil, Bool.and_true, Bool.true_and, row_one O430.row] <;> rfl)) [(σ419 28), .int .i64 a0.Last, .int .i64 a0.Now] rfl ?_
            intro w453 s454 B455
            have fr456 := fr425.then s454 (fun _ e => Option.some.inj e ▸ C428.new)
            refine wl_assign (.int .i64 0) rfl ?_
            refine wl_nil ?_
            refine qn ?_
            refine wc_ret ?_
            have O457 := (O430.step s454 (.inr n432))
            cases h
            refine end2 rfl (.cell ((q423 4 rfl).trans rfl) (ty26.load (l := [(σ419 28), .int .i64 a0.Last, .int .i64 a0.Now]) rfl (B455.cells rfl)) (.tmp rfl .nil)) ?_
            exact ⟨(σ419 28), _, rfl, fr456, O457.row⟩
        · replace h := (if_neg c80).symm.trans h
          cases h
      · replace h := (if_neg c60).symm.trans h
        cases h
/-! ### slices.Clone: function 16 -/
def slices_Clone_api_Msg.f (k : Nat) (a0 : List ApiMsg) : Option (List ApiMsg) := if a0.length * 40 ≤ 140737488355328 then some a0 else none
theorem slices_Clone_api_Msg.okm (k : Nat) {w0 : World} {hw0 : Hw} (wf : Hwf w0 hw0) (a0 : List ApiMsg) (v0_ : Value) (q0 : Row KApiMsg w0 hw0 v0_ a0) (r : List ApiMsg) (h : slices_Clone_api_Msg.f k a0 = some r) :
    Calls Try.prog 16 #[v0_] w0 fun e w' => ∃ (v' : Value), e = .returned v' ∧ Stp none w0 hw0 w' hw0 ∧ MutV KApiMsg 33 w0.heap.size w' hw0 v' r := by
  unfold slices_Clone_api_Msg.f at h
  by_cases hb : a0.length * 40 ≤ 140737488355328
  · rw [if_pos hb] at h
    cases h
    have fr0 := Stp.refl none (w := w0) (hw := hw0) wf
    refine enter (n := 8) Try.func16 rfl rfl (Nat.le_of_ble_eq_true rfl) ?_
    refine wc_seq ?_
    refine wc_region ?_
    refine wl_assign (.slice none 0 0) rfl ?_
    refine wl_nil ?_
    refine qn ?_
    refine wc_seq ?_
    refine wc_seq ?_
    refine wc_region ?_
    refine wl_move v0_ rfl ?_
    rcases row_nilness q0 with ⟨hv, hx⟩ | ⟨a, c, hv⟩
    · subst hx
      refine wl_nil_t Try.underlying24 hv rfl ?_
      refine wl_nil ?_
      refine qn ?_
      refine wc_then rfl rfl ?_
      refine wc_seq ?_
      refine wc_region ?_
      refine wl_assign (.slice none 0 0) rfl ?_
      refine wl_nil ?_
      refine qn ?_
      refine wc_ret ?_
      refine qr ?_
      refine end1 rfl (.tmp rfl .nil) ?_
      exact ⟨_, rfl, fr0, .inl ⟨rfl, rfl⟩⟩
    · refine wl_nil_f Try.underlying24 hv rfl ?_
      refine wl_nil ?_
      refine qn ?_
      refine wc_else rfl rfl ?_
      refine wc_skip ?_
      refine qn ?_
      refine wc_seq ?_
      refine wc_region ?_
      have hb0 : ∀ w : World, (Instr.buildSlice 24 0 #[]).run Try.prog w = .ok (.slice (some ⟨w.heap.size, 0, none⟩) 0 0) (w.alloc (.cells #[] 33)) := fun _ => by kernel_rfl
      refine wl_lit0 (K := KApiMsg) (e := 33) (N0 := w0.heap.size) (Nat.zero_le _) wf (Nat.le_refl _) (hb0 _) ?_
      intro w1 g m1 s1 hg
      have fr1 := fr0.then0 s1
      refine wl_move v0_ rfl ?_
      refine wl_clone Try.underlying24 ty33 rfl fr1.wf m1 fr1.g.size rfl rfl (q0.ext s1.ext) (row_len q0) hb ?_
      intro w2 g2 cap m2 s2
      have fr2 := fr1.then s2 (fun b e => by cases e; exact m1.lt.1)
      refine wl_assign (.slice (some ⟨g2, 0, none⟩) a0.length cap) rfl ?_
      refine wl_nil ?_
      refine qn ?_
      refine wc_ret ?_
      refine end1 rfl (.tmp rfl .nil) ?_
      exact ⟨_, rfl, fr2, .inr ⟨g2, cap, rfl, m2⟩⟩
  · rw [if_neg hb] at h; cases h
theorem slices_Clone_api_Msg.ok (k : Nat) {w0 : World} {hw0 : Hw} (wf : Hwf w0 hw0) (a0 : List ApiMsg) (v0_ : Value) (q0 : Row KApiMsg w0 hw0 v0_ a0) (r : List ApiMsg) (h : slices_Clone_api_Msg.f k a0 = some r) :
    Calls Try.prog 16 #[v0_] w0 fun e w' => ∃ (v0 : Value) (hw' : Hw), e = .returned v0 ∧ Stp none w0 hw0 w' hw' ∧ Own KApiMsg 33 w0.heap.size w' hw' v0 r := by
  refine Calls.mono (slices_Clone_api_Msg.okm k wf a0 v0_ q0 r h) ?_
  rintro e w' ⟨v', he, s, m⟩
  obtain ⟨hw', s', o⟩ := m.own s
  exact ⟨v', hw', he, s', o⟩

/-! ### slices.Delete: function 15 -/
def slices_Delete_api_Msg.f (k : Nat) (a0 : List ApiMsg) (a1 a2 : Int) : Option (List ApiMsg) := if 0 ≤ a1 ∧ a1 ≤ a2 ∧ a2 ≤ (a0.length : Int) then some (a0.take a1.toNat ++ a0.drop a2.toNat) else none
set_option maxHeartbeats 1000000 in
theorem slices_Delete_api_Msg.okm (k : Nat) {w0 : World} {hw0 : Hw} (wf : Hwf w0 hw0) (a0 : List ApiMsg) (a1 a2 : Int) (N0 g cap : Nat) (m0 : Mut KApiMsg 33 N0 w0 hw0 g cap a0) (r : List ApiMsg) (h : slices_Delete_api_Msg.f k a0 a1 a2 = some r) :
    Calls Try.prog 15 #[(.slice (some ⟨g, 0, none⟩) a0.length cap), .int .i64 a1, .int .i64 a2] w0 fun e w' => e = .returned (.slice (some ⟨g, 0, none⟩) r.length cap) ∧ Stp (some g) w0 hw0 w' hw0 ∧ Mut KApiMsg 33 N0 w' hw0 g cap r := by
  unfold slices_Delete_api_Msg.f at h
  by_cases hc : 0 ≤ a1 ∧ a1 ≤ a2 ∧ a2 ≤ (a0.length : Int)
  · rw [if_pos hc] at h
    cases h
    obtain ⟨h0, h1, h2⟩ := hc
    have hcap := m0.cap_ge
    have hlen : (a0.take a1.toNat ++ a0.drop a2.toNat).length = a1.toNat + (a0.length - a2.toNat) := by simp; omega
    have fr0 := Stp.refl (some g) (w := w0) (hw := hw0) wf
    refine enter (n := 33) Try.func15 rfl rfl (Nat.le_of_ble_eq_true rfl) ?_
    refine wc_seq ?_
    refine wc_region ?_
    refine wl_assign (.slice none 0 0) rfl ?_
    refine wl_nil ?_
    refine qn ?_
    refine wc_seq ?_
    refine wc_region ?_
    refine wl_move (.slice (some ⟨g, 0, none⟩) a0.length cap) rfl ?_
    refine wl_move (.int .i64 a1) rfl ?_
    refine wl_move (.int .i64 a2) rfl ?_
    refine wl_move (.slice (some ⟨g, 0, none⟩) a0.length cap) rfl ?_
    refine wl_len Try.underlying24 (show _ = Value.slice _ a0.length _ from rfl) ?_
    refine wl_cut3 Try.underlying24 ty33 rfl rfl rfl rfl h0 h1 h2 hcap.1 ?_
    intro vv
    refine wl_nil ?_
    refine qn ?_
    refine wc_seq ?_
    refine wc_seq ?_
    refine wc_region ?_
    refine wl_move (.int .i64 a1) rfl ?_
    refine wl_move (.int .i64 a2) rfl ?_
    refine wl_eql rfl rfl ?_
    refine wl_nil ?_
    refine qn ?_
    by_cases he : a1 = a2
    · refine wc_then rfl (beq_iff_eq.2 he) ?_
      refine wc_seq ?_
      refine wc_region ?_
      refine wl_move (.slice (some ⟨g, 0, none⟩) a0.length cap) rfl ?_
      refine wl_assign (.slice (some ⟨g, 0, none⟩) a0.length cap) rfl ?_
      refine wl_nil ?_
      refine qn ?_
      refine wc_ret ?_
      refine qr ?_
      refine end1 rfl (.tmp rfl .nil) ?_
      have hr : (a0.take a1.toNat ++ a0.drop a2.toNat) = a0 := by rw [he]; exact List.take_append_drop _ _
      rw [hr]
      exact ⟨rfl, fr0, m0⟩
    · refine wc_else rfl (beq_eq_false_iff_ne.2 he) ?_
      refine wc_skip ?_
      refine qn ?_
      refine wc_seq ?_
      refine wc_region ?_
      refine wl_move (.slice (some ⟨g, 0, none⟩) a0.length cap) rfl ?_
      refine wl_len Try.underlying24 (show _ = Value.slice _ a0.length _ from rfl) ?_
      refine wl_assign (.int .i64 (a0.length : Int)) rfl ?_
      refine wl_nil ?_
      refine qn ?_
      refine wc_seq ?_
      have fd : Stp (some g) w0 hw0 w0.drew hw0 := ⟨⟨rfl, rfl, rfl, Nat.le_refl _, fun _ _ _ => rfl⟩, fun _ _ _ => rfl, (Stp.drew wf).ext, fr0.wf⟩
      refine wc_any (hw := hw0) mixed [[], [], [0, 1], [], [], [3, 4], [2, 5], [6, 6, 0, 1, 2, 3, 4, 5, 6]] [20, 21, 22, 23, 24, 25, 26, 0] (by kernel_rfl) (PhiOf [fun v w hw => v = (.slice (some ⟨g, 0, none⟩) a0.length cap), fun v w hw => v = .int .i64 a1, fun v w hw => v = (.slice (acut g 0 cap (0 : Int).toNat 4) (a1.toNat - (0 : Int).toNat) (cap - (0 : Int).toNat)), fun v w hw => v = (.slice (some ⟨g, 0, none⟩) a0.length cap), fun v w hw => v = .int .i64 a2, fun v w hw => v = (.slice (acut g 0 cap a2.toNat 4) ((a0.length : Int).toNat - a2.toNat) (cap - a2.toNat)), fun v w hw => v = (.slice (some ⟨g, 0, none⟩) (a1.toNat + (a0.length - a2.toNat)) cap), fun v w hw => v = (.slice (some ⟨g, 0, none⟩) (a1.toNat + (a0.length - a2.toNat)) cap)]) (fun D σ w hw => Stp (some g) w0 hw0 w hw ∧ hw0 = hw ∧ (bif D 6 then Mut KApiMsg 33 N0 w hw0 g cap (a0.take a1.toNat ++ a0.drop a2.toNat) else Mut KApiMsg 33 N0 w hw0 g cap a0) ∧ (bif D 7 then True else σ 0 = (.slice (some ⟨g, 0, none⟩) a0.length cap))) (stab_of (sbc (fun _ _ _ _ _ _ h => h) (sbc (fun _ _ _ _ _ _ h => h) (sbc (fun _ _ _ _ _ _ h => h) (sbc (fun _ _ _ _ _ _ h => h) (sbc (fun _ _ _ _ _ _ h => h) (sbc (fun _ _ _ _ _ _ h => h) (sbc (fun _ _ _ _ _ _ h => h) (sbc (fun _ _ _ _ _ _ h => h) sbn))))))))) ?_ (stc ?_ (stc ?_ (stc ?_ (stc ?_ (stc ?_ (stc ?_ (stc ?_ (stc ?_ stn)))))))) ?_
      · exact ⟨fd, rfl, Mut.step m0 (Stp.drew wf) (by simp), rfl⟩
      · intro D σ w hw ⟨fr, ee, C, C0⟩ hD hN ho hA hL
        subst ee
        have e0 := bif_f (hL 7 rfl) C0
        refine wl_move (.slice (some ⟨g, 0, none⟩) a0.length cap) e0 ?_
        refine wl_nil ?_
        exact qn ⟨_, _, rfl, Ext.refl _ _, ⟨fr, rfl, C, C0⟩, aft_some rfl⟩
      · intro D σ w hw ⟨fr, ee, C, C0⟩ hD hN ho hA hL
        subst ee
        refine wl_move (.int .i64 a1) (ho 1 rfl) ?_
        refine wl_nil ?_
        exact qn ⟨_, _, rfl, Ext.refl _ _, ⟨fr, rfl, C, C0⟩, aft_some rfl⟩
      · intro D σ w hw ⟨fr, ee, C, C0⟩ hD hN ho hA hL
        subst ee
        obtain ⟨⟨_, m1⟩, ⟨_, m2⟩, _⟩ := hN
        have z20 : σ 20 = (.slice (some ⟨g, 0, none⟩) a0.length cap) := m1
        have z21 : σ 21 = .int .i64 a1 := m2
        refine wl_cutm Try.underlying24 ty33 z20 Bd.no (Bd.yes z21) (by decide) h0 (by omega) ?_
        refine wl_nil ?_
        exact qn ⟨_, _, rfl, Ext.refl _ _, ⟨fr, rfl, C, C0⟩, aft_some rfl⟩
      · intro D σ w hw ⟨fr, ee, C, C0⟩ hD hN ho hA hL
        subst ee
        have e0 := bif_f (hL 7 rfl) C0
        refine wl_move (.slice (some ⟨g, 0, none⟩) a0.length cap) e0 ?_
        refine wl_nil ?_
        exact qn ⟨_, _, rfl, Ext.refl _ _, ⟨fr, rfl, C, C0⟩, aft_some rfl⟩
      · intro D σ w hw ⟨fr, ee, C, C0⟩ hD hN ho hA hL
        subst ee
        refine wl_move (.int .i64 a2) (ho 2 rfl) ?_
        refine wl_nil ?_
        exact qn ⟨_, _, rfl, Ext.refl _ _, ⟨fr, rfl, C, C0⟩, aft_some rfl⟩
      · intro D σ w hw ⟨fr, ee, C, C0⟩ hD hN ho hA hL
        subst ee
        obtain ⟨⟨_, m1⟩, ⟨_, m2⟩, _⟩ := hN
        have z23 : σ 23 = (.slice (some ⟨g, 0, none⟩) a0.length cap) := m1
        have z24 : σ 24 = .int .i64 a2 := m2
        refine wl_cutm Try.underlying24 ty33 z23 (Bd.yes z24) Bd.no (by omega) h2 (by omega) ?_
        refine wl_nil ?_
        exact qn ⟨_, _, rfl, Ext.refl _ _, ⟨fr, rfl, C, C0⟩, aft_some rfl⟩
      · intro D σ w hw ⟨fr, ee, C, C0⟩ hD hN ho hA hL
        subst ee
        obtain ⟨⟨_, m1⟩, ⟨_, m2⟩, _⟩ := hN
        have z22 : σ 22 = (.slice (acut g 0 cap (0 : Int).toNat 4) (a1.toNat - (0 : Int).toNat) (cap - (0 : Int).toNat)) := m1
        have z25 : σ 25 = (.slice (acut g 0 cap a2.toNat 4) ((a0.length : Int).toNat - a2.toNat) (cap - a2.toNat)) := m2
        have C6 := bif_f hD C
        refine wl_appm (i := a1.toNat) (j := a2.toNat) Try.underlying24 ty33 fr.wf C6 (z22.trans (by rw [show acut g 0 cap (0 : Int).toNat 4 = some ⟨g, 0, none⟩ from acut_zero _ _ _]; rfl)) z25 (by omega) (by omega) ?_
        intro w' m' s
        refine wl_nil ?_
        exact qn ⟨_, _, rfl, s.ext, ⟨fr.tr s, rfl, m', C0⟩, aft_some rfl⟩
      · intro D σ w hw ⟨fr, ee, C, C0⟩ hD hN ho hA hL
        subst ee
        obtain ⟨⟨_, m1⟩, _⟩ := hN
        have z26 : σ 26 = (.slice (some ⟨g, 0, none⟩) (a1.toNat + (a0.length - a2.toNat)) cap) := m1
        refine wl_assign (.slice (some ⟨g, 0, none⟩) (a1.toNat + (a0.length - a2.toNat)) cap) z26 ?_
        refine wl_nil ?_
        exact qn ⟨_, _, rfl, Ext.refl _ _, ⟨fr, rfl, C, trivial⟩, aft_some rfl⟩
      · intro σ w hw ⟨fr, ee, m, _⟩ ho hE
        subst ee
        have m : Mut KApiMsg 33 N0 w hw0 g cap (a0.take a1.toNat ++ a0.drop a2.toNat) := m
        obtain ⟨_, _, _, _, _, _, _, z0, _⟩ := hE
        have z0 : σ 0 = (.slice (some ⟨g, 0, none⟩) (a1.toNat + (a0.length - a2.toNat)) cap) := z0
        refine qn ?_
        refine wc_seq ?_
        refine wc_region ?_
        refine wl_move (.slice (some ⟨g, 0, none⟩) (a1.toNat + (a0.length - a2.toNat)) cap) z0 ?_
        refine wl_move (.slice (some ⟨g, 0, none⟩) (a1.toNat + (a0.length - a2.toNat)) cap) z0 ?_
        refine wl_len Try.underlying24 (show _ = Value.slice _ (a1.toNat + (a0.length - a2.toNat)) _ from rfl) ?_
        refine wl_move (.int .i64 (a0.length : Int)) (ho 7 rfl) ?_
        refine wl_cutm Try.underlying24 ty33 rfl (Bd.yes rfl) (Bd.yes rfl) (by omega) (by omega) (by omega) ?_
        refine wl_clearm Try.underlying24 ty33 rfl rfl (one_all _ rfl) fr.wf m (by rw [hlen]; exact acut_ne _ _ _ (by omega)) rfl (by rw [hlen]; omega) ?_
        intro w2 m2 s2
        refine wl_nil ?_
        refine qn ?_
        refine wc_seq ?_
        refine wc_region ?_
        refine wl_move (.slice (some ⟨g, 0, none⟩) (a1.toNat + (a0.length - a2.toNat)) cap) z0 ?_
        refine wl_assign (.slice (some ⟨g, 0, none⟩) (a1.toNat + (a0.length - a2.toNat)) cap) rfl ?_
        refine wl_nil ?_
        refine qn ?_
        refine wc_ret ?_
        refine end1 rfl (.tmp rfl .nil) ?_
        exact ⟨by rw [hlen]; rfl, fr.tr s2, m2⟩
  · rw [if_neg hc] at h; cases h

/-! ### without: function 12 -/
def wire_without_api_Msg.f (k : Nat) (a0 : List ApiMsg) (a1 : Int) : Option (List ApiMsg) := (slices_Clone_api_Msg.f k a0).bind fun t1 => slices_Delete_api_Msg.f k t1 a1 (IntKind.i64.wrap (a1 + 1))
theorem wire_without_api_Msg.ok (k : Nat) {w0 : World} {hw0 : Hw} (wf : Hwf w0 hw0) (a0 : List ApiMsg) (a1 : Int) (v0_ : Value) (q0 : Row KApiMsg w0 hw0 v0_ a0) (r : List ApiMsg) (h : wire_without_api_Msg.f k a0 a1 = some r) :
    Calls Try.prog 12 #[v0_, .int .i64 a1] w0 fun e w' => ∃ (v0 : Value) (hw' : Hw), e = .returned v0 ∧ Stp none w0 hw0 w' hw' ∧ Own KApiMsg 33 w0.heap.size w' hw' v0 r := by
  unfold wire_without_api_Msg.f at h
  obtain ⟨t1, h1, h⟩ := Option.bind_eq_some_iff.1 h
  refine enter (n := 11) Try.func12 rfl rfl (Nat.le_of_ble_eq_true rfl) ?_
  refine wc_seq ?_
  refine wc_region ?_
  refine wl_assign (.slice none 0 0) rfl ?_
  refine wl_nil ?_
  refine qn ?_
  refine wc_seq ?_
  refine wc_region ?_
  refine wl_move v0_ rfl ?_
  refine wl_call [v0_] bod16 (mc rfl (mn _)) (slices_Clone_api_Msg.okm k wf a0 v0_ q0 _ h1) ?_
  rintro e1 w1 ⟨v1, rfl, s1, m1⟩
  refine ⟨_, rfl, ?_⟩
  rcases m1 with ⟨rfl, rfl⟩ | ⟨g, cap, rfl, m⟩
  · exfalso
    unfold slices_Delete_api_Msg.f at h
    split at h
    · rename_i hc
      obtain ⟨c1, c2, c3⟩ := hc
      have c4 : a1 ≤ 0 := by simp at c3; omega
      have c5 : a1 = 0 := by omega
      subst c5
      revert c3
      decide
    · cases h
  · refine wl_move (.int .i64 a1) rfl ?_
    refine wl_move (.int .i64 a1) rfl ?_
    refine wl_add rfl rfl ?_
    refine wl_call [(.slice (some ⟨g, 0, none⟩) t1.length cap), .int .i64 a1, .int .i64 (IntKind.i64.wrap (a1 + 1))] bod15 (mc rfl (mc rfl (mc rfl (mn _)))) (slices_Delete_api_Msg.okm k s1.wf t1 a1 _ w0.heap.size g cap m r h) ?_
    rintro e2 w2 ⟨rfl, s2, m2⟩
    refine ⟨_, rfl, ?_⟩
    have fr2 := s1.then s2 (fun b e => by cases e; exact m.lt.1)
    obtain ⟨o, s3⟩ := m2.own s2.wf
    have fr3 := fr2.then s3 (fun b e => by cases e; exact m.lt.1)
    refine wl_assign (.slice (some ⟨g, 0, none⟩) r.length cap) rfl ?_
    refine wl_nil ?_
    refine qn ?_
    refine wc_ret ?_
    refine end1 rfl (.tmp rfl .nil) ?_
    exact ⟨_, _, rfl, fr3, o⟩

/-! ### consignor/wire.Take: function 5 -/
def wire_Take.f (k : Nat) (a0 : ApiNet) (a1 : Int) : Option (ApiNet × ApiMsg × Int) := (wire_there.f k a0 a1).bind fun t25 => (if (t25 != 0) = true then (some ((⟨[], 0, 0⟩ : ApiNet), (⟨0, 0, [], 0⟩ : ApiMsg), t25)) else (if 0 ≤ a1 then ((a0.Flight[Int.toNat a1]?).bind fun t50 => ((wire_without_api_Msg.f k a0.Flight a1).bind fun t76 => (some ((⟨t76, a0.Last, a0.Now⟩ : ApiNet), t50, 0)))) else none))
set_option maxHeartbeats 1000000 in
theorem wire_Take.ok (k : Nat) {w0 : World} {hw0 : Hw} (wf : Hwf w0 hw0) (a0 : ApiNet) (a1 : Int) (v0_0 : Value) (q0_0 : Row KApiMsg w0 hw0 v0_0 a0.Flight) (r : (ApiNet × ApiMsg × Int)) (h : wire_Take.f k a0 a1 = some r) :
    Calls Try.prog 5 #[.agg #[v0_0, .int .i64 a0.Last, .int .i64 a0.Now], .int .i64 a1] w0 fun e w' => ∃ (v0_0 : Value) (hw' : Hw), e = .returned (.tuple #[.agg #[v0_0, .int .i64 r.1.Last, .int .i64 r.1.Now], .agg #[.int .i64 r.2.1.Id, .int .i64 r.2.1.To, .string (bs r.2.1.Body), .int .i64 r.2.1.At], .int .i64 r.2.2]) ∧ Stp none w0 hw0 w' hw' ∧ Row KApiMsg w' hw' v0_0 r.1.Flight := by
  have fr0 := Stp.refl none (w := w0) (hw := hw0) wf
  unfold wire_Take.f at h
  refine enter (n := 29) Try.func5 rfl rfl (Nat.le_of_ble_eq_true rfl) ?_
  refine wc_seq ?_
  refine wc_region ?_
  refine wl_box fr0.wf fr0.g.size [v0_0, .int .i64 a0.Last, .int .i64 a0.Now] (cells_of (v := (.agg #[v0_0, .int .i64 a0.Last, .int .i64 a0.Now])) rfl rfl) ?_
  intro b1 w2 s3 B4 g5
  have fr6 := fr0.then0 s3
  refine wl_alloc fr6.wf fr6.g.size ty26 [.slice none 0 0, .int .i64 0, .int .i64 0] rfl ?_
  intro b7 w8 s9 B10 g11
  have n12 : b1 ≠ b7 := B4.ne g11
  have fr13 := fr6.then0 s9
  refine wl_alloc fr13.wf fr13.g.size ty33 [.int .i64 0, .int .i64 0, .string (bs []), .int .i64 0] rfl ?_
  intro b14 w15 s16 B17 g18
  have B20 := (B4.step0 s9)
  have n19 : b1 ≠ b14 := B20.ne g18
  have n21 : b7 ≠ b14 := B10.ne g18
  have fr22 := fr13.then0 s16
  refine wl_assign (.int .i64 0) rfl ?_
  refine wl_nil ?_
  refine qn ?_
  refine wc_seq ?_
  refine wc_seq ?_
  refine wc_region ?_
  have B23 := (B20.step0 s16)
  refine wl_loadb B23 ty26 rfl [v0_0, .int .i64 a0.Last, .int .i64 a0.Now] rfl rfl ?_
  refine wl_move (.int .i64 a1) rfl ?_
  have f24 := q0_0.ext (s3.ext.trans (s9.ext.trans (s16.ext)))
  obtain ⟨t25, h26, h⟩ := Option.bind_eq_some_iff.1 h
  have B31 := (B10.step0 s16)
  refine wl_call [.agg #[v0_0, .int .i64 a0.Last, .int .i64 a0.Now], .int .i64 a1] bod11 (mc rfl (mc rfl (mn _))) (wire_there.ok k fr22.wf a0 a1 v0_0 f24 _ h26) ?_
  rintro e27 w28 ⟨hw29, rfl, s30⟩
  refine ⟨_, rfl, ?_⟩
  have fr32 := fr22.then0 s30
  refine wl_assign (.int .i64 t25) rfl ?_
  refine wl_nil ?_
  refine qn ?_
  refine wc_seq ?_
  refine wc_region ?_
  refine wl_move (.int .i64 t25) rfl ?_
  refine wl_neq rfl rfl ?_
  refine wl_nil ?_
  refine qn ?_
  by_cases c33 : (t25 != 0) = true
  · replace h := (if_pos c33).symm.trans h
    refine wc_then rfl c33 ?_
    refine wc_seq ?_
    refine wc_region ?_
    have hb34 : ∀ w, (Instr.build 26 #[]).run Try.prog w = .ok (.agg (List.toArray [.slice none 0 0, .int .i64 0, .int .i64 0])) w := fun _ => by kernel_rfl
    refine wl_build [.slice none 0 0, .int .i64 0, .int .i64 0] (pn _ _) (hb34 _) ?_
    have hb35 : ∀ w, (Instr.build 33 #[]).run Try.prog w = .ok (.agg (List.toArray [.int .i64 0, .int .i64 0, .string (bs []), .int .i64 0])) w := fun _ => by kernel_rfl
    refine wl_build [.int .i64 0, .int .i64 0, .string (bs []), .int .i64 0] (pn _ _) (hb35 _) ?_
    refine wl_move (.int .i64 t25) rfl ?_
    have B36 := (B31.step0 s30)
    refine wl_store B36 fr32.wf ty26 rfl [.slice none 0 0, .int .i64 0, .int .i64 0] (cells_of (v := (.agg #[.slice none 0 0, .int .i64 0, .int .i64 0])) rfl rfl) rfl (Nat.le_of_ble_eq_true rfl) (by intro u hu; simp only [List.mem_cons, List.not_mem_nil, or_false] at hu; rcases hu with rfl | rfl | rfl <;> rfl) [.slice none 0 0, .int .i64 0, .int .i64 0] rfl ?_
    intro w37 s38 B39
    have fr40 := fr32.then s38 (fun _ e => Option.some.inj e ▸ B36.new)
    have B41 := ((B17.step0 s30).stepb s38 (Ne.symm n21))
    refine wl_store B41 fr40.wf ty33 rfl [.int .i64 0, .int .i64 0, .string (bs []), .int .i64 0] (cells_of (v := (.agg #[.int .i64 0, .int .i64 0, .string (bs []), .int .i64 0])) rfl rfl) rfl (Nat.le_of_ble_eq_true rfl) (by intro u hu; simp only [List.mem_cons, List.not_mem_nil, or_false] at hu; rcases hu with rfl | rfl | rfl | rfl <;> rfl) [.int .i64 0, .int .i64 0, .string (bs []), .int .i64 0] rfl ?_
    intro w42 s43 B44
    have fr45 := fr40.then s43 (fun _ e => Option.some.inj e ▸ B41.new)
    refine wl_assign (.int .i64 t25) rfl ?_
    refine wl_nil ?_
    refine qn ?_
    refine wc_ret ?_
    refine qr ?_
    have B46 := (B39.stepb s43 n21)
    cases h
    refine end3 rfl (.cell rfl (ty26.load (l := [.slice none 0 0, .int .i64 0, .int .i64 0]) rfl (B46.cells rfl)) (.cell rfl (ty33.load (l := [.int .i64 0, .int .i64 0, .string (bs []), .int .i64 0]) rfl (B44.cells rfl)) (.tmp rfl .nil))) ?_
    exact ⟨(.slice none 0 0), _, rfl, fr45, (Row.nil _ _ _)⟩
  · replace h := (if_neg c33).symm.trans h
    have b47 : (t25 != 0) = false := Bool.eq_false_iff.2 c33
    refine wc_else rfl b47 ?_
    refine wc_skip ?_
    refine qn ?_
    refine wc_seq ?_
    refine wc_region ?_
    refine wl_field fld26_0 rfl ?_
    have B48 := (B23.step0 s30)
    refine wl_loadb1 B48 ty24 rfl (v0_0) rfl ?_
    refine wl_move (.int .i64 a1) rfl ?_
    by_cases c49 : 0 ≤ a1
    · replace h := (if_pos c49).symm.trans h
      obtain ⟨t50, h51, h⟩ := Option.bind_eq_some_iff.1 h
      have c52 := at_lt c49 h51
      have f58 := f24.ext (s30.ext)
      refine wl_at Try.underlying24 ty33 f58 rfl rfl c49 c52 t50 h51 ?_
      rintro B53 o54 cs55 rfl l57
      refine wl_load ty33 rfl [.int .i64 t50.Id, .int .i64 t50.To, .string (bs t50.Body), .int .i64 t50.At] rfl l57.2 ?_
      refine wl_alloc fr32.wf fr32.g.size ty33 [.int .i64 0, .int .i64 0, .string (bs []), .int .i64 0] rfl ?_
      intro b59 w60 s61 B62 g63
      have n64 : b1 ≠ b59 := B48.ne g63
      have B66 := (B31.step0 s30)
      have n65 : b7 ≠ b59 := B66.ne g63
      have B68 := (B17.step0 s30)
      have n67 : b14 ≠ b59 := B68.ne g63
      have fr69 := fr32.then0 s61
      refine wl_store B62 fr69.wf ty33 rfl [.int .i64 t50.Id, .int .i64 t50.To, .string (bs t50.Body), .int .i64 t50.At] (cells_of (v := (.agg #[.int .i64 t50.Id, .int .i64 t50.To, .string (bs t50.Body), .int .i64 t50.At])) rfl rfl) rfl (Nat.le_of_ble_eq_true rfl) (by intro u hu; simp only [List.mem_cons, List.not_mem_nil, or_false] at hu; rcases hu with rfl | rfl | rfl | rfl <;> rfl) [.int .i64 t50.Id, .int .i64 t50.To, .string (bs t50.Body), .int .i64 t50.At] rfl ?_
      intro w70 s71 B72
      have fr73 := fr69.then s71 (fun _ e => Option.some.inj e ▸ B62.new)
      refine wl_nil ?_
      refine qn ?_
      refine wc_seq ?_
      refine wc_region ?_
      refine wl_field fld26_0 rfl ?_
      have B74 := ((B48.step0 s61).stepb s71 n64)
      refine wl_loadb1 B74 ty24 rfl (v0_0) rfl ?_
      refine wl_move (.int .i64 a1) rfl ?_
      have f75 := f24.ext (s30.ext.trans (s61.ext.trans (s71.ext)))
      obtain ⟨t76, h77, h⟩ := Option.bind_eq_some_iff.1 h
      have B82 := ((B66.step0 s61).stepb s71 n65)
      have B83 := ((B68.step0 s61).stepb s71 n67)
      refine wl_call [v0_0, .int .i64 a1] bod12 (mc rfl (mc rfl (mn _))) (wire_without_api_Msg.ok k fr73.wf a0.Flight a1 v0_0 f75 _ h77) ?_
      rintro e78 w79 ⟨v84, hw80, rfl, s81, O85⟩
      refine ⟨_, rfl, ?_⟩
      have n86 := own_new_lt O85 B74.lt
      have n87 := own_new_lt O85 B82.lt
      have n88 := own_new_lt O85 B83.lt
      have n89 := own_new_lt O85 B72.lt
      replace O85 := O85.low fr73.g.size
      have fr90 := fr73.then0 s81
      refine wl_field fld26_0 rfl ?_
      have B91 := (B74.step0 s81)
      refine wl_store B91 fr90.wf ty24 rfl [v84] (cells_of (v := v84) rfl (row_cells O85.row)) rfl (Nat.le_of_ble_eq_true rfl) (one_all [v84] (by simp only [List.all_cons, List.all_nil, Bool.and_true, Bool.true_and, row_one O85.row] <;> rfl)) [v84, .int .i64 a0.Last, .int .i64 a0.Now] rfl ?_
      intro w92 s93 B94
      have fr95 := fr90.then s93 (fun _ e => Option.some.inj e ▸ B91.new)
      refine wl_nil ?_
      refine qn ?_
      refine wc_seq ?_
      have s96 := Stp.drew (w := w92) (hw := hw80) fr95.wf
      have fr97 := fr95.then0 s96
      have B98 := (B94.step0 s96)
      have B99 := (((B82.step0 s81).stepb s93 (Ne.symm n12)).step0 s96)
      have B100 := (((B83.step0 s81).stepb s93 (Ne.symm n19)).step0 s96)
      have B101 := (((B72.step0 s81).stepb s93 (Ne.symm n64)).step0 s96)
      have O102 := ((O85.step s93 (.inr n86)).step0 s96)
      refine wc_any (hw := hw80) mixed [[], [], [0, 0], [1, 2, 0, 1, 2], [3, 0, 1, 2, 3]] [27, 28, 6] (by kernel_rfl) (PhiOf [fun v w hw => v = .agg #[v84, .int .i64 a0.Last, .int .i64 a0.Now], fun v w hw => v = .agg #[.int .i64 t50.Id, .int .i64 t50.To, .string (bs t50.Body), .int .i64 t50.At], fun v w hw => True, fun v w hw => True, fun v w hw => v = .int .i64 0]) (fun D σ w hw => Stp none w0 hw0 w hw ∧ Ext (w92).drew hw80 w hw ∧ Box w0.heap.size w hw b1 26 [v84, .int .i64 a0.Last, .int .i64 a0.Now] ∧ Box w0.heap.size w hw b7 26 [(bif D 2 then v84 else .slice none 0 0), (bif D 2 then .int .i64 a0.Last else .int .i64 0), (bif D 2 then .int .i64 a0.Now else .int .i64 0)] ∧ Box w0.heap.size w hw b14 33 [(bif D 3 then .int .i64 t50.Id else .int .i64 0), (bif D 3 then .int .i64 t50.To else .int .i64 0), (bif D 3 then .string (bs t50.Body) else .string (bs [])), (bif D 3 then .int .i64 t50.At else .int .i64 0)] ∧ Box w0.heap.size w hw b59 33 [.int .i64 t50.Id, .int .i64 t50.To, .string (bs t50.Body), .int .i64 t50.At] ∧ Own KApiMsg 33 w0.heap.size w hw v84 t76) (stab_of (sbc (fun _ _ _ _ _ _ h => h) (sbc (fun _ _ _ _ _ _ h => h) (sbc (fun _ _ _ _ _ _ h => h) (sbc (fun _ _ _ _ _ _ h => h) (sbc (fun _ _ _ _ _ _ h => h) sbn)))))) ?_ (stc ?_ (stc ?_ (stc ?_ (stc ?_ (stc ?_ stn))))) ?_
      · exact ⟨fr97, Ext.refl _ _, B98, B99, B100, B101, O102⟩
      · intro D113 σ114 w115 hw116 q117 q118 q119 q120 q121 q122
        obtain ⟨fr123, e124, C125, C126, C127, C128, C129⟩ := q117
        have B130 := C126
        rw [show D113 2 = false from (q122 2 rfl)] at B130
        have B131 := C127
        rw [show D113 3 = false from (q122 3 rfl)] at B131
        refine wl_loadb C125 ty26 ((q120 2 rfl).trans rfl) [v84, .int .i64 a0.Last, .int .i64 a0.Now] rfl rfl ?_
        refine wl_nil ?_
        exact qn ⟨_, _, rfl, (Ext.refl _ _), ⟨fr123, e124.trans (Ext.refl _ _), C125, C126, C127, C128, C129⟩, (aft_some rfl)⟩
      · intro D132 σ133 w134 hw135 q136 q137 q138 q139 q140 q141
        obtain ⟨fr142, e143, C144, C145, C146, C147, C148⟩ := q136
        have B149 := C146
        rw [show D132 3 = false from (q141 3 rfl)] at B149
        refine wl_loadb C147 ty33 ((q139 8 rfl).trans rfl) [.int .i64 t50.Id, .int .i64 t50.To, .string (bs t50.Body), .int .i64 t50.At] rfl rfl ?_
        refine wl_nil ?_
        exact qn ⟨_, _, rfl, (Ext.refl _ _), ⟨fr142, e143.trans (Ext.refl _ _), C144, C145, C146, C147, C148⟩, (aft_some rfl)⟩
      · intro D150 σ151 w152 hw153 q154 q155 q156 q157 q158 q159
        obtain ⟨fr160, e161, C162, C163, C164, C165, C166⟩ := q154
        obtain ⟨⟨_, m167⟩, ⟨_, m168⟩, _⟩ := q156
        have z169 : (σ151 27) = .agg #[v84, .int .i64 a0.Last, .int .i64 a0.Now] := m167
        refine wl_store C163 fr160.wf ty26 ((q157 4 rfl).trans rfl) [v84, .int .i64 a0.Last, .int .i64 a0.Now] (cells_of z169 rfl) rfl (Nat.le_of_ble_eq_true rfl) (one_all [v84, .int .i64 a0.Last, .int .i64 a0.Now] (by simp only [List.all_cons, List.all_nil, Bool.and_true, Bool.true_and, row_one C166.row] <;> rfl)) [v84, .int .i64 a0.Last, .int .i64 a0.Now] rfl ?_
        intro w170 s171 B172
        have fr173 := fr160.then s171 (fun _ e => Option.some.inj e ▸ C163.new)
        refine wl_nil ?_
        have B174 := (C162.stepb s171 n12)
        have B175 := (C164.stepb s171 (Ne.symm n21))
        have B176 := (C165.stepb s171 (Ne.symm n65))
        have O177 := (C166.step s171 (.inr n87))
        exact qn ⟨_, _, rfl, s171.ext, ⟨fr173, e161.trans s171.ext, B174, B172, B175, B176, O177⟩, aft_none⟩
      · intro D178 σ179 w180 hw181 q182 q183 q184 q185 q186 q187
        obtain ⟨fr188, e189, C190, C191, C192, C193, C194⟩ := q182
        obtain ⟨⟨_, m195⟩, ⟨_, m196⟩, ⟨_, m197⟩, ⟨_, m198⟩, ⟨_, m199⟩, _⟩ := q184
        have z200 : (σ179 28) = .agg #[.int .i64 t50.Id, .int .i64 t50.To, .string (bs t50.Body), .int .i64 t50.At] := m195
        have z201 : (σ179 27) = .agg #[v84, .int .i64 a0.Last, .int .i64 a0.Now] := m197
        refine wl_store C192 fr188.wf ty33 ((q185 5 rfl).trans rfl) [.int .i64 t50.Id, .int .i64 t50.To, .string (bs t50.Body), .int .i64 t50.At] (cells_of z200 rfl) rfl (Nat.le_of_ble_eq_true rfl) (by intro u hu; simp only [List.mem_cons, List.not_mem_nil, or_false] at hu; rcases hu with rfl | rfl | rfl | rfl <;> rfl) [.int .i64 t50.Id, .int .i64 t50.To, .string (bs t50.Body), .int .i64 t50.At] rfl ?_
        intro w202 s203 B204
        have fr205 := fr188.then s203 (fun _ e => Option.some.inj e ▸ C192.new)
        refine wl_nil ?_
        have B206 := (C190.stepb s203 n19)
        have B207 := (C191.stepb s203 n21)
        have B208 := (C193.stepb s203 (Ne.symm n67))
        have O209 := (C194.step s203 (.inr n88))
        exact qn ⟨_, _, rfl, s203.ext, ⟨fr205, e189.trans s203.ext, B206, B207, B204, B208, O209⟩, aft_none⟩
      · intro D210 σ211 w212 hw213 q214 q215 q216 q217 q218 q219
        obtain ⟨fr220, e221, C222, C223, C224, C225, C226⟩ := q214
        have B227 := C223
        rw [show D210 2 = true from (q218 2 rfl)] at B227
        have B228 := C224
        rw [show D210 3 = true from (q218 3 rfl)] at B228
        obtain ⟨⟨_, m229⟩, ⟨_, m230⟩, ⟨_, m231⟩, ⟨_, m232⟩, ⟨_, m233⟩, _⟩ := q216
        have z234 : (σ211 27) = .agg #[v84, .int .i64 a0.Last, .int .i64 a0.Now] := m230
        have z235 : (σ211 28) = .agg #[.int .i64 t50.Id, .int .i64 t50.To, .string (bs t50.Body), .int .i64 t50.At] := m231
        refine wl_assign (.int .i64 0) rfl ?_
        refine wl_nil ?_
        exact qn ⟨_, _, rfl, (Ext.refl _ _), ⟨fr220, e221.trans (Ext.refl _ _), C222, C223, C224, C225, C226⟩, (aft_some rfl)⟩
      · intro σ236 w237 hw238 q239 q240 q241
        obtain ⟨fr242, e243, C244, C245, C246, C247, C248⟩ := q239
        obtain ⟨m249, m250, m251, m252, m253, _⟩ := q241
        have B254 : Box w0.heap.size w237 hw238 b7 26 [v84, .int .i64 a0.Last, .int .i64 a0.Now] := C245
        have B255 : Box w0.heap.size w237 hw238 b14 33 [.int .i64 t50.Id, .int .i64 t50.To, .string (bs t50.Body), .int .i64 t50.At] := C246
        have z256 : (σ236 6) = .int .i64 0 := m253
        refine qn ?_
        refine wc_ret ?_
        cases h
        refine end3 rfl (.cell ((q240 4 rfl).trans rfl) (ty26.load (l := [v84, .int .i64 a0.Last, .int .i64 a0.Now]) rfl (B254.cells rfl)) (.cell ((q240 5 rfl).trans rfl) (ty33.load (l := [.int .i64 t50.Id, .int .i64 t50.To, .string (bs t50.Body), .int .i64 t50.At]) rfl (B255.cells rfl)) (.tmp z256 .nil))) ?_
        exact ⟨v84, _, rfl, fr242, C248.row⟩
    · replace h := (if_neg c49).symm.trans h
      cases h
/-! ### consignor/wire.Lose: function 7 -/
def wire_Lose.f (k : Nat) (a0 : ApiNet) (a1 : Int) : Option (ApiNet × Int) := (wire_Take.f k a0 a1).bind fun t16 => (some (t16.1, t16.2.2))
set_option maxHeartbeats 1000000 in
theorem wire_Lose.ok (k : Nat) {w0 : World} {hw0 : Hw} (wf : Hwf w0 hw0) (a0 : ApiNet) (a1 : Int) (v0_0 : Value) (q0_0 : Row KApiMsg w0 hw0 v0_0 a0.Flight) (r : (ApiNet × Int)) (h : wire_Lose.f k a0 a1 = some r) :
    Calls Try.prog 7 #[.agg #[v0_0, .int .i64 a0.Last, .int .i64 a0.Now], .int .i64 a1] w0 fun e w' => ∃ (v0_0 : Value) (hw' : Hw), e = .returned (.tuple #[.agg #[v0_0, .int .i64 r.1.Last, .int .i64 r.1.Now], .int .i64 r.2]) ∧ Stp none w0 hw0 w' hw' ∧ Row KApiMsg w' hw' v0_0 r.1.Flight := by
  have fr0 := Stp.refl none (w := w0) (hw := hw0) wf
  unfold wire_Lose.f at h
  refine enter (n := 17) Try.func7 rfl rfl (Nat.le_of_ble_eq_true rfl) ?_
  refine wc_seq ?_
  refine wc_region ?_
  refine wl_box fr0.wf fr0.g.size [v0_0, .int .i64 a0.Last, .int .i64 a0.Now] (cells_of (v := (.agg #[v0_0, .int .i64 a0.Last, .int .i64 a0.Now])) rfl rfl) ?_
  intro b1 w2 s3 B4 g5
  have fr6 := fr0.then0 s3
  refine wl_alloc fr6.wf fr6.g.size ty26 [.slice none 0 0, .int .i64 0, .int .i64 0] rfl ?_
  intro b7 w8 s9 B10 g11
  have n12 : b1 ≠ b7 := B4.ne g11
  have fr13 := fr6.then0 s9
  refine wl_assign (.int .i64 0) rfl ?_
  refine wl_nil ?_
  refine qn ?_
  refine wc_seq ?_
  refine wc_region ?_
  have B14 := (B4.step0 s9)
  refine wl_loadb B14 ty26 rfl [v0_0, .int .i64 a0.Last, .int .i64 a0.Now] rfl rfl ?_
  refine wl_move (.int .i64 a1) rfl ?_
  have f15 := q0_0.ext (s3.ext.trans (s9.ext))
  obtain ⟨t16, h17, h⟩ := Option.bind_eq_some_iff.1 h
  refine wl_call [.agg #[v0_0, .int .i64 a0.Last, .int .i64 a0.Now], .int .i64 a1] bod5 (mc rfl (mc rfl (mn _))) (wire_Take.ok k fr13.wf a0 a1 v0_0 f15 _ h17) ?_
  rintro e18 w19 ⟨v22, hw20, rfl, s21, f23⟩
  refine ⟨_, rfl, ?_⟩
  have fr24 := fr13.then0 s21
  refine wl_move (.tuple #[.agg #[v22, .int .i64 t16.1.Last, .int .i64 t16.1.Now], .agg #[.int .i64 t16.2.1.Id, .int .i64 t16.2.1.To, .string (bs t16.2.1.Body), .int .i64 t16.2.1.At], .int .i64 t16.2.2]) rfl ?_
  refine wl_extract (vs := [.agg #[v22, .int .i64 t16.1.Last, .int .i64 t16.1.Now], .agg #[.int .i64 t16.2.1.Id, .int .i64 t16.2.1.To, .string (bs t16.2.1.Body), .int .i64 t16.2.1.At], .int .i64 t16.2.2]) (.agg #[v22, .int .i64 t16.1.Last, .int .i64 t16.1.Now]) rfl rfl ?_
  refine wl_extract (vs := [.agg #[v22, .int .i64 t16.1.Last, .int .i64 t16.1.Now], .agg #[.int .i64 t16.2.1.Id, .int .i64 t16.2.1.To, .string (bs t16.2.1.Body), .int .i64 t16.2.1.At], .int .i64 t16.2.2]) (.agg #[.int .i64 t16.2.1.Id, .int .i64 t16.2.1.To, .string (bs t16.2.1.Body), .int .i64 t16.2.1.At]) rfl rfl ?_
  refine wl_extract (vs := [.agg #[v22, .int .i64 t16.1.Last, .int .i64 t16.1.Now], .agg #[.int .i64 t16.2.1.Id, .int .i64 t16.2.1.To, .string (bs t16.2.1.Body), .int .i64 t16.2.1.At], .int .i64 t16.2.2]) (.int .i64 t16.2.2) rfl rfl ?_
  refine wl_alloc fr24.wf fr24.g.size ty33 [.int .i64 0, .int .i64 0, .string (bs []), .int .i64 0] rfl ?_
  intro b25 w26 s27 B28 g29
  have B31 := (B14.step0 s21)
  have n30 : b1 ≠ b25 := B31.ne g29
  have B33 := (B10.step0 s21)
  have n32 : b7 ≠ b25 := B33.ne g29
  have fr34 := fr24.then0 s27
  have B35 := (B31.step0 s27)
  have f39 := f23.ext (s27.ext)
  refine wl_store B35 fr34.wf ty26 rfl [v22, .int .i64 t16.1.Last, .int .i64 t16.1.Now] (cells_of (v := (.agg #[v22, .int .i64 t16.1.Last, .int .i64 t16.1.Now])) rfl rfl) rfl (Nat.le_of_ble_eq_true rfl) (one_all [v22, .int .i64 t16.1.Last, .int .i64 t16.1.Now] (by simp only [List.all_cons, List.all_nil, Bool.and_true, Bool.true_and, row_one f39] <;> rfl)) [v22, .int .i64 t16.1.Last, .int .i64 t16.1.Now] rfl ?_
  intro w36 s37 B38
  have fr40 := fr34.then s37 (fun _ e => Option.some.inj e ▸ B35.new)
  have B41 := (B28.stepb s37 (Ne.symm n30))
  refine wl_store B41 fr40.wf ty33 rfl [.int .i64 t16.2.1.Id, .int .i64 t16.2.1.To, .string (bs t16.2.1.Body), .int .i64 t16.2.1.At] (cells_of (v := (.agg #[.int .i64 t16.2.1.Id, .int .i64 t16.2.1.To, .string (bs t16.2.1.Body), .int .i64 t16.2.1.At])) rfl rfl) rfl (Nat.le_of_ble_eq_true rfl) (by intro u hu; simp only [List.mem_cons, List.not_mem_nil, or_false] at hu; rcases hu with rfl | rfl | rfl | rfl <;> rfl) [.int .i64 t16.2.1.Id, .int .i64 t16.2.1.To, .string (bs t16.2.1.Body), .int .i64 t16.2.1.At] rfl ?_
  intro w42 s43 B44
  have fr45 := fr40.then s43 (fun _ e => Option.some.inj e ▸ B41.new)
  refine wl_assign (.int .i64 t16.2.2) rfl ?_
  refine wl_nil ?_
  refine qn ?_
  refine wc_seq ?_
  refine wc_region ?_
  have B46 := (B38.stepb s43 n30)
  refine wl_loadb B46 ty26 rfl [v22, .int .i64 t16.1.Last, .int .i64 t16.1.Now] rfl rfl ?_
  refine wl_move (.int .i64 t16.2.2) rfl ?_
  have B47 := (((B33.step0 s27).stepb s37 (Ne.symm n12)).stepb s43 n32)
  have f51 := f39.ext (s37.ext.trans (s43.ext))
  refine wl_store B47 fr45.wf ty26 rfl [v22, .int .i64 t16.1.Last, .int .i64 t16.1.Now] (cells_of (v := (.agg #[v22, .int .i64 t16.1.Last, .int .i64 t16.1.Now])) rfl rfl) rfl (Nat.le_of_ble_eq_true rfl) (one_all [v22, .int .i64 t16.1.Last, .int .i64 t16.1.Now] (by simp only [List.all_cons, List.all_nil, Bool.and_true, Bool.true_and, row_one f51] <;> rfl)) [v22, .int .i64 t16.1.Last, .int .i64 t16.1.Now] rfl ?_
  intro w48 s49 B50
  have fr52 := fr45.then s49 (fun _ e => Option.some.inj e ▸ B47.new)
  refine wl_assign (.int .i64 t16.2.2) rfl ?_
  refine wl_nil ?_
  refine qn ?_
  refine wc_ret ?_
  have f53 := f51.ext (s49.ext)
  cases h
  refine end2 rfl (.cell rfl (ty26.load (l := [v22, .int .i64 t16.1.Last, .int .i64 t16.1.Now]) rfl (B50.cells rfl)) (.tmp rfl .nil)) ?_
  exact ⟨v22, _, rfl, fr52, f53⟩
/-! ### consignor/consignorlaw13.alive: function 8 -/
def consignorlaw13_alive.f (k : Nat) : Option Bool := (wire_Send.f k (⟨[], 0, 0⟩ : ApiNet) 3 ([120])).bind fun t2 => ((wire_Take.f k t2.1 0).bind fun t23 => (if (((t2.2.2 == 0) && (t23.2.2 == 0)) && (t2.2.1 == 1)) = true then (some ((t23.2.1.Id == 1) && ((t23.2.1.To == 3) && ((t23.2.1.Body == ([120])) && ((t23.2.1.At == 0) && true))))) else (some false)))
set_option maxHeartbeats 1000000 in
theorem consignorlaw13_alive.ok (k : Nat) {w0 : World} {hw0 : Hw} (wf : Hwf w0 hw0) (r : Bool) (h : consignorlaw13_alive.f k = some r) :
    Calls Try.prog 8 #[] w0 fun e w' => ∃ (hw' : Hw), e = .returned (.bool r) ∧ Stp none w0 hw0 w' hw' := by
  have fr0 := Stp.refl none (w := w0) (hw := hw0) wf
  unfold consignorlaw13_alive.f at h
  refine enter (n := 34) Try.func8 rfl rfl (Nat.le_of_ble_eq_true rfl) ?_
  refine wc_seq ?_
  refine wc_region ?_
  refine wl_assign (.bool false) rfl ?_
  refine wl_nil ?_
  refine qn ?_
  refine wc_seq ?_
  refine wc_region ?_
  have hb1 : ∀ w, (Instr.build 26 #[]).run Try.prog w = .ok (.agg (List.toArray [.slice none 0 0, .int .i64 0, .int .i64 0])) w := fun _ => by kernel_rfl
  refine wl_build [.slice none 0 0, .int .i64 0, .int .i64 0] (pn _ _) (hb1 _) ?_
  obtain ⟨t2, h3, h⟩ := Option.bind_eq_some_iff.1 h
  refine wl_call [.agg #[.slice none 0 0, .int .i64 0, .int .i64 0], .int .i64 3, .string (bs ([120]))] bod4 (mc rfl (mc rfl (mc rfl (mn _)))) (wire_Send.ok k fr0.wf (⟨[], 0, 0⟩ : ApiNet) 3 ([120]) (.slice none 0 0) (Row.nil _ _ _) _ h3) ?_
  rintro e4 w5 ⟨v8, hw6, rfl, s7, f9⟩
  refine ⟨_, rfl, ?_⟩
  have fr10 := fr0.then0 s7
  refine wl_move (.tuple #[.agg #[v8, .int .i64 t2.1.Last, .int .i64 t2.1.Now], .int .i64 t2.2.1, .int .i64 t2.2.2]) rfl ?_
  refine wl_extract (vs := [.agg #[v8, .int .i64 t2.1.Last, .int .i64 t2.1.Now], .int .i64 t2.2.1, .int .i64 t2.2.2]) (.agg #[v8, .int .i64 t2.1.Last, .int .i64 t2.1.Now]) rfl rfl ?_
  refine wl_extract (vs := [.agg #[v8, .int .i64 t2.1.Last, .int .i64 t2.1.Now], .int .i64 t2.2.1, .int .i64 t2.2.2]) (.int .i64 t2.2.1) rfl rfl ?_
  refine wl_extract (vs := [.agg #[v8, .int .i64 t2.1.Last, .int .i64 t2.1.Now], .int .i64 t2.2.1, .int .i64 t2.2.2]) (.int .i64 t2.2.2) rfl rfl ?_
  refine wl_alloc fr10.wf fr10.g.size ty26 [.slice none 0 0, .int .i64 0, .int .i64 0] rfl ?_
  intro b11 w12 s13 B14 g15
  have fr16 := fr10.then0 s13
  have f20 := f9.ext (s13.ext)
  refine wl_store B14 fr16.wf ty26 rfl [v8, .int .i64 t2.1.Last, .int .i64 t2.1.Now] (cells_of (v := (.agg #[v8, .int .i64 t2.1.Last, .int .i64 t2.1.Now])) rfl rfl) rfl (Nat.le_of_ble_eq_true rfl) (one_all [v8, .int .i64 t2.1.Last, .int .i64 t2.1.Now] (by simp only [List.all_cons, List.all_nil, Bool.and_true, Bool.true_and, row_one f20] <;> rfl)) [v8, .int .i64 t2.1.Last, .int .i64 t2.1.Now] rfl ?_
  intro w17 s18 B19
  have fr21 := fr16.then s18 (fun _ e => Option.some.inj e ▸ B14.new)
  refine wl_assign (.int .i64 t2.2.1) rfl ?_
  refine wl_assign (.int .i64 t2.2.2) rfl ?_
  refine wl_nil ?_
  refine qn ?_
  refine wc_seq ?_
  refine wc_region ?_
  refine wl_loadb B19 ty26 rfl [v8, .int .i64 t2.1.Last, .int .i64 t2.1.Now] rfl rfl ?_
  have f22 := f20.ext (s18.ext)
  obtain ⟨t23, h24, h⟩ := Option.bind_eq_some_iff.1 h
  refine wl_call [.agg #[v8, .int .i64 t2.1.Last, .int .i64 t2.1.Now], .int .i64 0] bod5 (mc rfl (mc rfl (mn _))) (wire_Take.ok k fr21.wf t2.1 0 v8 f22 _ h24) ?_
  rintro e25 w26 ⟨v29, hw27, rfl, s28, f30⟩
  refine ⟨_, rfl, ?_⟩
  have fr31 := fr21.then0 s28
  refine wl_move (.tuple #[.agg #[v29, .int .i64 t23.1.Last, .int .i64 t23.1.Now], .agg #[.int .i64 t23.2.1.Id, .int .i64 t23.2.1.To, .string (bs t23.2.1.Body), .int .i64 t23.2.1.At], .int .i64 t23.2.2]) rfl ?_
  refine wl_extract (vs := [.agg #[v29, .int .i64 t23.1.Last, .int .i64 t23.1.Now], .agg #[.int .i64 t23.2.1.Id, .int .i64 t23.2.1.To, .string (bs t23.2.1.Body), .int .i64 t23.2.1.At], .int .i64 t23.2.2]) (.agg #[v29, .int .i64 t23.1.Last, .int .i64 t23.1.Now]) rfl rfl ?_
  refine wl_extract (vs := [.agg #[v29, .int .i64 t23.1.Last, .int .i64 t23.1.Now], .agg #[.int .i64 t23.2.1.Id, .int .i64 t23.2.1.To, .string (bs t23.2.1.Body), .int .i64 t23.2.1.At], .int .i64 t23.2.2]) (.agg #[.int .i64 t23.2.1.Id, .int .i64 t23.2.1.To, .string (bs t23.2.1.Body), .int .i64 t23.2.1.At]) rfl rfl ?_
  refine wl_extract (vs := [.agg #[v29, .int .i64 t23.1.Last, .int .i64 t23.1.Now], .agg #[.int .i64 t23.2.1.Id, .int .i64 t23.2.1.To, .string (bs t23.2.1.Body), .int .i64 t23.2.1.At], .int .i64 t23.2.2]) (.int .i64 t23.2.2) rfl rfl ?_
  refine wl_alloc fr31.wf fr31.g.size ty26 [.slice none 0 0, .int .i64 0, .int .i64 0] rfl ?_
  intro b32 w33 s34 B35 g36
  have B38 := (B19.step0 s28)
  have n37 : b11 ≠ b32 := B38.ne g36
  have fr39 := fr31.then0 s34
  refine wl_alloc fr39.wf fr39.g.size ty33 [.int .i64 0, .int .i64 0, .string (bs []), .int .i64 0] rfl ?_
  intro b40 w41 s42 B43 g44
  have B46 := (B38.step0 s34)
  have n45 : b11 ≠ b40 := B46.ne g44
  have n47 : b32 ≠ b40 := B35.ne g44
  have fr48 := fr39.then0 s42
  have B49 := (B35.step0 s42)
  have f53 := f30.ext (s34.ext.trans (s42.ext))
  refine wl_store B49 fr48.wf ty26 rfl [v29, .int .i64 t23.1.Last, .int .i64 t23.1.Now] (cells_of (v := (.agg #[v29, .int .i64 t23.1.Last, .int .i64 t23.1.Now])) rfl rfl) rfl (Nat.le_of_ble_eq_true rfl) (one_all [v29, .int .i64 t23.1.Last, .int .i64 t23.1.Now] (by simp only [List.all_cons, List.all_nil, Bool.and_true, Bool.true_and, row_one f53] <;> rfl)) [v29, .int .i64 t23.1.Last, .int .i64 t23.1.Now] rfl ?_
  intro w50 s51 B52
  have fr54 := fr48.then s51 (fun _ e => Option.some.inj e ▸ B49.new)
  have B55 := (B43.stepb s51 (Ne.symm n47))
  refine wl_store B55 fr54.wf ty33 rfl [.int .i64 t23.2.1.Id, .int .i64 t23.2.1.To, .string (bs t23.2.1.Body), .int .i64 t23.2.1.At] (cells_of (v := (.agg #[.int .i64 t23.2.1.Id, .int .i64 t23.2.1.To, .string (bs t23.2.1.Body), .int .i64 t23.2.1.At])) rfl rfl) rfl (Nat.le_of_ble_eq_true rfl) (by intro u hu; simp only [List.mem_cons, List.not_mem_nil, or_false] at hu; rcases hu with rfl | rfl | rfl | rfl <;> rfl) [.int .i64 t23.2.1.Id, .int .i64 t23.2.1.To, .string (bs t23.2.1.Body), .int .i64 t23.2.1.At] rfl ?_
  intro w56 s57 B58
  have fr59 := fr54.then s57 (fun _ e => Option.some.inj e ▸ B55.new)
  refine wl_assign (.int .i64 t23.2.2) rfl ?_
  refine wl_nil ?_
  refine qn ?_
  refine wc_seq ?_
  refine wc_region ?_
  refine wl_move (.int .i64 t2.2.2) rfl ?_
  refine wl_eql rfl rfl ?_
  refine wl_move (.bool (t2.2.2 == 0)) rfl ?_
  refine wl_join 3 [22, 23, 24] 24 (.bool ((t2.2.2 == 0) && (t23.2.2 == 0))) ?_ ?_
  · rcases Bool.eq_false_or_eq_true (t2.2.2 == 0) with hcc | hcc
    · skip
      refine wl_on (yl rfl rfl rfl) hcc ?_
      refine wl_move (.int .i64 t23.2.2) rfl ?_
      refine wl_on (yl rfl rfl rfl) hcc ?_
      refine wl_eql rfl rfl ?_
      refine wl_pick_t (t2.2.2 == 0) (.bool (t23.2.2 == 0)) rfl hcc rfl ?_
      refine wl_nil ?_
      exact qn ⟨rfl, _, rfl, (by repeat (first | exact Same.refl _ _ | refine Same.upd ?_ rfl)), (by rw [hcc]; rfl)⟩
    · skip
      refine wl_off (yl rfl rfl rfl) hcc ?_
      refine wl_off (yl rfl rfl rfl) hcc ?_
      refine wl_pick_f (t2.2.2 == 0) (.bool false) rfl hcc rfl ?_
      refine wl_nil ?_
      exact qn ⟨rfl, _, rfl, (by repeat (first | exact Same.refl _ _ | refine Same.upd ?_ rfl)), (by rw [hcc]; rfl)⟩
  intro _ ho60 hv61
  refine wl_move (.bool ((t2.2.2 == 0) && (t23.2.2 == 0))) hv61 ?_
  refine wl_join 3 [26, 27, 28] 28 (.bool (((t2.2.2 == 0) && (t23.2.2 == 0)) && (t2.2.1 == 1))) ?_ ?_
  · rcases Bool.eq_false_or_eq_true ((t2.2.2 == 0) && (t23.2.2 == 0)) with hcc | hcc
    · skip
      refine wl_on (yl rfl rfl rfl) hcc ?_
      refine wl_move (.int .i64 t2.2.1) ((ho60 2 rfl).trans rfl) ?_
      refine wl_on (yl rfl rfl rfl) hcc ?_
      refine wl_eql rfl rfl ?_
      refine wl_pick_t ((t2.2.2 == 0) && (t23.2.2 == 0)) (.bool (t2.2.1 == 1)) rfl hcc rfl ?_
      refine wl_nil ?_
      exact qn ⟨rfl, _, rfl, (by repeat (first | exact Same.refl _ _ | refine Same.upd ?_ rfl)), (by rw [hcc]; rfl)⟩
    · skip
      refine wl_off (yl rfl rfl rfl) hcc ?_
      refine wl_off (yl rfl rfl rfl) hcc ?_
      refine wl_pick_f ((t2.2.2 == 0) && (t23.2.2 == 0)) (.bool false) rfl hcc rfl ?_
      refine wl_nil ?_
      exact qn ⟨rfl, _, rfl, (by repeat (first | exact Same.refl _ _ | refine Same.upd ?_ rfl)), (by rw [hcc]; rfl)⟩
  intro _ ho62 hv63
  refine wl_move (.bool (((t2.2.2 == 0) && (t23.2.2 == 0)) && (t2.2.1 == 1))) hv63 ?_
  by_cases c64 : (((t2.2.2 == 0) && (t23.2.2 == 0)) && (t2.2.1 == 1)) = true
  · replace h := (if_pos c64).symm.trans h
    refine wl_on (yl rfl rfl rfl) c64 ?_
    refine wl_loadb B58 ty33 ((ho62 5 rfl).trans ((ho60 5 rfl).trans rfl)) [.int .i64 t23.2.1.Id, .int .i64 t23.2.1.To, .string (bs t23.2.1.Body), .int .i64 t23.2.1.At] rfl rfl ?_
    refine wl_on (yl rfl rfl rfl) c64 ?_
    have hb65 : ∀ w, (Instr.build 33 #[(0, .int .i64 1), (1, .int .i64 3), (2, .string (bs ([120])))]).run Try.prog w = .ok (.agg (List.toArray [.int .i64 1, .int .i64 3, .string (bs ([120])), .int .i64 0])) w := fun _ => by kernel_rfl
    refine wl_build [.int .i64 1, .int .i64 3, .string (bs ([120])), .int .i64 0] (pc rfl (pc rfl (pc rfl (pn _ _)))) (hb65 _) ?_
    refine wl_on (yl rfl rfl rfl) c64 ?_
    refine wl_eqlst guard33 rfl rfl (eqs33 t23.2.1.Id t23.2.1.To t23.2.1.Body t23.2.1.At 1 3 ([120]) 0 _) ?_
    refine wl_pick_t (((t2.2.2 == 0) && (t23.2.2 == 0)) && (t2.2.1 == 1)) (.bool ((t23.2.1.Id == 1) && ((t23.2.1.To == 3) && ((t23.2.1.Body == ([120])) && ((t23.2.1.At == 0) && true))))) rfl c64 rfl ?_
    refine wl_assign (.bool ((t23.2.1.Id == 1) && ((t23.2.1.To == 3) && ((t23.2.1.Body == ([120])) && ((t23.2.1.At == 0) && true))))) rfl ?_
    refine wl_nil ?_
    refine qn ?_
    refine wc_ret ?_
    cases h
    refine end1 rfl (.tmp rfl .nil) ?_
    exact ⟨_, rfl, fr59⟩
  · replace h := (if_neg c64).symm.trans h
    have b66 : (((t2.2.2 == 0) && (t23.2.2 == 0)) && (t2.2.1 == 1)) = false := Bool.eq_false_iff.2 c64
    refine wl_off (yl rfl rfl rfl) b66 ?_
    refine wl_off (yl rfl rfl rfl) b66 ?_
    refine wl_off (yl rfl rfl rfl) b66 ?_
    refine wl_pick_f (((t2.2.2 == 0) && (t23.2.2 == 0)) && (t2.2.1 == 1)) (.bool false) rfl b66 rfl ?_
    refine wl_assign (.bool false) rfl ?_
    refine wl_nil ?_
    refine qn ?_
    refine wc_ret ?_
    cases h
    refine end1 rfl (.tmp rfl .nil) ?_
    exact ⟨_, rfl, fr59⟩
/-! ### consignor/consignorlaw13.WireOnce: function 3 -/
mutual
def consignorlaw13_WireOnce.l1 : Nat → (List (List UInt8)) → (List Int) → Int → (List ApiMsg) → Int → Int → DM → DM → Option Bool
  | 0, _, _, _, _, _, _, _, _ => none
  | k + 1, a0, a1, x33, l35, x36, x37, x38, x39 => if x33 < (a0.length : Int) then (if 0 ≤ x33 then ((a0[Int.toNat x33]?).bind fun t63 => (if 20 ≤ x33 then (consignorlaw13_WireOnce.j0 k a1 l35 x36 x37 x38 x39) else (if 0 ≤ (if 100 < (t63.length : Int) then 100 else (t63.length : Int)) then (if (if 100 < (t63.length : Int) then 100 else (t63.length : Int)) ≤ (t63.length : Int) then ((wire_Send.f k (⟨l35, x36, x37⟩ : ApiNet) (Int.tmod x33 64) ((t63.take (Int.toNat (if 100 < (t63.length : Int) then 100 else (t63.length : Int)))).drop (Int.toNat 0))).bind fun t77 => (if (t77.2.2 != 0) = true then (some false) else (if i64ok t77.2.1 then (if ((mint x39 t77.2.1) != 0) = true then (some false) else (if i64ok t77.2.1 ∧ ((t63.take (Int.toNat (if 100 < (t63.length : Int) then 100 else (t63.length : Int)))).drop (Int.toNat 0)).length ≤ 9223372036854775807 ∧ Maps.size x38 < 9223372036854775807 then (if i64ok t77.2.1 ∧ i64ok 1 ∧ Maps.size x39 < 9223372036854775807 then (consignorlaw13_WireOnce.l1 k a0 a1 (IntKind.i64.wrap (x33 + 1)) t77.1.Flight t77.1.Last t77.1.Now (mputs x38 t77.2.1 ((t63.take (Int.toNat (if 100 < (t63.length : Int) then 100 else (t63.length : Int)))).drop (Int.toNat 0))) (mputi x39 t77.2.1 1)) else none) else none)) else none))) else none) else none))) else none) else (consignorlaw13_WireOnce.j0 k a1 l35 x36 x37 x38 x39)
def consignorlaw13_WireOnce.l3 : Nat → (List Int) → DM → Int → (List ApiMsg) → Int → Int → DM → Option Bool
  | 0, _, _, _, _, _, _, _ => none
  | k + 1, a1, x27, x155, l157, x158, x159, x160 => if x155 < (a1.length : Int) then (if 0 ≤ x155 then ((a1[Int.toNat x155]?).bind fun t181 => (if ((decide (60 ≤ x155)) || ((l157.length : Int) == 0)) = true then (consignorlaw13_WireOnce.j2 k l157 x158 x159 x160) else (if (l157.length : Int) ≠ 0 then (if (l157.length : Int) ≠ 0 then (if 0 ≤ (Int.tmod (IntKind.i64.wrap ((Int.tmod (IntKind.i64.wrap (Int.tdiv t181 3)) (l157.length : Int)) + (l157.length : Int))) (l157.length : Int)) then ((l157[Int.toNat (Int.tmod (IntKind.i64.wrap ((Int.tmod (IntKind.i64.wrap (Int.tdiv t181 3)) (l157.length : Int)) + (l157.length : Int))) (l157.length : Int))]?).bind fun t203 => (if ((Int.tmod (IntKind.i64.wrap ((Int.tmod t181 3) + 3)) 3) == 0) = true then ((wire_Take.f k (⟨l157, x158, x159⟩ : ApiNet) (Int.tmod (IntKind.i64.wrap ((Int.tmod (IntKind.i64.wrap (Int.tdiv t181 3)) (l157.length : Int)) + (l157.length : Int))) (l157.length : Int))).bind fun t212 => (if (t212.2.2 != 0) = true then (some false) else (if i64ok t212.2.1.Id then (if ((!(t212.2.1.Body == (mstr x27 t212.2.1.Id))) || (t212.2.1.Id != t203.Id)) = true then (some false) else (if i64ok t203.Id then (if (mint x160 t203.Id) < 1 then (some false) else (if (t212.2.1.To != (Int.tmod (IntKind.i64.wrap (t203.Id - 1)) 64)) = true then (some false) else (if i64ok t203.Id then (if i64ok t203.Id ∧ i64ok (IntKind.i64.wrap ((mint x160 t203.Id) - 1)) ∧ Maps.size x160 < 9223372036854775807 then (consignorlaw13_WireOnce.l3 k a1 x27 (IntKind.i64.wrap (x155 + 1)) t212.1.Flight t212.1.Last t212.1.Now (mputi x160 t203.Id (IntKind.i64.wrap ((mint x160 t203.Id) - 1)))) else none) else none))) else none)) else none))) else (if ((Int.tmod (IntKind.i64.wrap ((Int.tmod t181 3) + 3)) 3) == 1) = true then ((wire_Twice.f k (⟨l157, x158, x159⟩ : ApiNet) (Int.tmod (IntKind.i64.wrap ((Int.tmod (IntKind.i64.wrap (Int.tdiv t181 3)) (l157.length : Int)) + (l157.length : Int))) (l157.length : Int))).bind fun t291 => (if (t291.2 == 0) = true then (if i64ok t203.Id then (if i64ok t203.Id ∧ i64ok (IntKind.i64.wrap ((mint x160 t203.Id) + 1)) ∧ Maps.size x160 < 9223372036854775807 then (consignorlaw13_WireOnce.l3 k a1 x27 (IntKind.i64.wrap (x155 + 1)) t291.1.Flight t291.1.Last t291.1.Now (mputi x160 t203.Id (IntKind.i64.wrap ((mint x160 t203.Id) + 1)))) else none) else none) else (consignorlaw13_WireOnce.l3 k a1 x27 (IntKind.i64.wrap (x155 + 1)) l157 x158 x159 x160))) else ((wire_Lose.f k (⟨l157, x158, x159⟩ : ApiNet) (Int.tmod (IntKind.i64.wrap ((Int.tmod (IntKind.i64.wrap (Int.tdiv t181 3)) (l157.length : Int)) + (l157.length : Int))) (l157.length : Int))).bind fun t340 => (if (t340.2 != 0) = true then (some false) else (if i64ok t203.Id then (if i64ok t203.Id ∧ i64ok (IntKind.i64.wrap ((mint x160 t203.Id) - 1)) ∧ Maps.size x160 < 9223372036854775807 then (consignorlaw13_WireOnce.l3 k a1 x27 (IntKind.i64.wrap (x155 + 1)) t340.1.Flight t340.1.Last t340.1.Now (mputi x160 t203.Id (IntKind.i64.wrap ((mint x160 t203.Id) - 1)))) else none) else none)))))) else none) else none) else none))) else none) else (consignorlaw13_WireOnce.j2 k l157 x158 x159 x160)
def consignorlaw13_WireOnce.l4 : Nat → (List ApiMsg) → Int → Int → Int → DM → Option Bool
  | 0, _, _, _, _, _ => none
  | k + 1, l147, x148, x149, x400, x401 => if x400 < (l147.length : Int) then (if 0 ≤ x400 then ((l147[Int.toNat x400]?).bind fun t419 => (if i64ok t419.Id then (if i64ok t419.Id ∧ i64ok (IntKind.i64.wrap ((mint x401 t419.Id) - 1)) ∧ Maps.size x401 < 9223372036854775807 then (consignorlaw13_WireOnce.l4 k l147 x148 x149 (IntKind.i64.wrap (x400 + 1)) (mputi x401 t419.Id (IntKind.i64.wrap ((mint x401 t419.Id) - 1)))) else none) else none)) else none) else (if mall0 x401 = true then ((consignorlaw13_alive.f k).bind fun t478 => (if t478 = true then ((wire_Right.f k (⟨l147, x148, x149⟩ : ApiNet)).bind fun t488 => (some t488)) else (some false))) else (some false))
def consignorlaw13_WireOnce.j2 : Nat → (List ApiMsg) → Int → Int → DM → Option Bool
  | 0, _, _, _, _ => none
  | k + 1, l147, x148, x149, x150 => consignorlaw13_WireOnce.l4 k l147 x148 x149 0 x150
def consignorlaw13_WireOnce.j0 : Nat → (List Int) → (List ApiMsg) → Int → Int → DM → DM → Option Bool
  | 0, _, _, _, _, _, _ => none
  | k + 1, a1, l24, x25, x26, x27, x28 => consignorlaw13_WireOnce.l3 k a1 x27 0 l24 x25 x26 x28
end
def consignorlaw13_WireOnce.f (k : Nat) (a0 : (List (List UInt8))) (a1 : (List Int)) : Option Bool := consignorlaw13_WireOnce.l1 k a0 a1 0 [] 0 0 (DataW.map [] : DM) (DataW.map [] : DM)
set_option maxHeartbeats 1000000 in
theorem consignorlaw13_WireOnce.ok (k : Nat) {w0 : World} {hw0 : Hw} (wf : Hwf w0 hw0) (a0 : (List (List UInt8))) (a1 : (List Int)) (v0_ : Value) (q0 : Row Kstr w0 hw0 v0_ a0) (v1_ : Value) (q1 : Row (Kint .i64) w0 hw0 v1_ a1) (r : Bool) (h : consignorlaw13_WireOnce.f k a0 a1 = some r) :
    Calls Try.prog 3 #[v0_, v1_] w0 fun e w' => ∃ (hw' : Hw), e = .returned (.bool r) ∧ Stp none w0 hw0 w' hw' := by
  have fr0 := Stp.refl none (w := w0) (hw := hw0) wf
  unfold consignorlaw13_WireOnce.f at h
  refine enter (n := 205) Try.func3 rfl rfl (Nat.le_of_ble_eq_true rfl) ?_
  refine wc_seq ?_
  refine wc_region ?_
  refine wl_assign (.bool false) rfl ?_
  refine wl_nil ?_
  refine qn ?_
  refine wc_seq ?_
  refine wc_region ?_
  refine wl_alloc fr0.wf fr0.g.size ty26 [.slice none 0 0, .int .i64 0, .int .i64 0] rfl ?_
  intro b1 w2 s3 B4 g5
  have fr6 := fr0.then0 s3
  refine wl_nil ?_
  refine qn ?_
  refine wc_seq ?_
  refine wc_region ?_
  refine wl_makemap fr6.wf fr6.g.size 3 9 ?_
  intro b7 w8 s9 B10 g11
  have n12 : b1 ≠ b7 := B4.ne g11
  have fr13 := fr6.then0 s9
  refine wl_assign (.map (some b7)) rfl ?_
  refine wl_nil ?_
  refine qn ?_
  refine wc_seq ?_
  refine wc_region ?_
  refine wl_makemap fr13.wf fr13.g.size 3 3 ?_
  intro b14 w15 s16 B17 g18
  have B20 := (B4.step0 s9)
  have n19 : b1 ≠ b14 := B20.ne g18
  have n21 : b7 ≠ b14 := B10.ne g18
  have fr22 := fr13.then0 s16
  refine wl_assign (.map (some b14)) rfl ?_
  refine wl_nil ?_
  refine qn ?_
  refine wc_cut (fun a w => ∃ (σ : Nat → Value) (hw : Hw) (kq : Nat) (v23 : Value) (l24 : (List ApiMsg)) (x25 : Int) (x26 : Int) (x27 : DM) (x28 : DM), a = mkA 205 σ ∧ kq ≤ k ∧ kq ≤ k ∧ Stp none w0 hw0 w hw ∧ Ext w15 hw0 w hw ∧ σ 1 = v1_ ∧ σ 5 = .pointer (some ⟨b1, 0, none⟩) ∧ σ 6 = .map (some b7) ∧ σ 7 = .map (some b14) ∧ Box w0.heap.size w hw b1 26 [v23, .int .i64 x25, .int .i64 x26] ∧ OwnM Try.prog 3 9 w0.heap.size w hw b7 x27 ∧ OwnM Try.prog 3 3 w0.heap.size w hw b14 x28 ∧ Row KApiMsg w hw v23 l24 ∧ consignorlaw13_WireOnce.j0 kq a1 l24 x25 x26 x27 x28 = some r) ?_ ?_
  · skip
    refine wc_seq ?_
    refine wc_region ?_
    refine wl_move (v0_) rfl ?_
    have f32 := q0.ext (s3.ext.trans (s9.ext.trans (s16.ext)))
    obtain ⟨A29, c30, hv31⟩ := (f32).slice
    refine wl_len Try.underlying22 (show _ = Value.slice _ a0.length _ from (Eq.trans rfl hv31)) ?_
    refine wl_move (.int .i64 0) rfl ?_
    refine wl_nil ?_
    refine qn ?_
    refine wc_block ?_
    refine wc_loop (fun m a w => ∃ (σ : Nat → Value) (hw : Hw) (kq : Nat) (x33 : Int) (v34 : Value) (l35 : (List ApiMsg)) (x36 : Int) (x37 : Int) (x38 : DM) (x39 : DM), a = mkA 205 σ ∧ kq ≤ m ∧ kq ≤ k ∧ Stp none w0 hw0 w hw ∧ Ext w15 hw0 w hw ∧ σ 1 = v1_ ∧ σ 5 = .pointer (some ⟨b1, 0, none⟩) ∧ σ 6 = .map (some b7) ∧ σ 7 = .map (some b14) ∧ σ 31 = v0_ ∧ σ 32 = .int .i64 (a0.length : Int) ∧ σ 33 = .int .i64 x33 ∧ Box w0.heap.size w hw b1 26 [v34, .int .i64 x36, .int .i64 x37] ∧ OwnM Try.prog 3 9 w0.heap.size w hw b7 x38 ∧ OwnM Try.prog 3 3 w0.heap.size w hw b14 x39 ∧ Row KApiMsg w hw v34 l35 ∧ consignorlaw13_WireOnce.l1 kq a0 a1 x33 l35 x36 x37 x38 x39 = some r) k ?_ ?_ ?_
    · skip
      have B40 := (B20.step0 s16)
      have B41 := (B10.step0 s16)
      exact ⟨_, _, _, 0, (.slice none 0 0), [], 0, 0, (DataW.map [] : DM), (DataW.map [] : DM), rfl, (Nat.le_refl _), (Nat.le_refl _), fr22, (Ext.refl _ _), rfl, rfl, rfl, rfl, rfl, rfl, rfl, B40, B41, B17, (Row.nil _ _ _), h⟩
    · rintro _ _ ⟨_, hw43, k44, x33, v34, l35, x36, x37, x38, x39, rfl, hk47, hk48, fr45, e46, z49, z50, z51, z52, z53, z54, z55, B56, B57, B58, r59, h⟩; obtain rfl := Nat.le_zero.1 hk47; rw [consignorlaw13_WireOnce.l1] at h; cases h
    · rintro m1 _ w42 ⟨_, hw43, k44, x33, v34, l35, x36, x37, x38, x39, rfl, hk47, hk48, fr45, e46, z49, z50, z51, z52, z53, z54, z55, B56, B57, B58, r59, h⟩
      rcases k44 with _ | k44
      · rw [consignorlaw13_WireOnce.l1] at h; cases h
      rw [consignorlaw13_WireOnce.l1] at h
      refine wc_seq ?_
      refine wc_region ?_
      refine wl_lss z55 z54 ?_
      refine wl_nil ?_
      refine qn ?_
      refine wc_seq ?_
      by_cases c60 : x33 < (a0.length : Int)
      · replace h := (if_pos c60).symm.trans h
        have b61 : (decide (x33 < (a0.length : Int))) = true := decide_eq_true c60
        refine wc_then rfl b61 ?_
        refine wc_skip ?_
        refine qn ?_
        refine wc_seq ?_
        refine wc_block ?_
        refine wc_seq ?_
        refine wc_region ?_
        refine wl_move (.int .i64 x33) z55 ?_
        by_cases c62 : 0 ≤ x33
        · replace h := (if_pos c62).symm.trans h
          obtain ⟨t63, h64, h⟩ := Option.bind_eq_some_iff.1 h
          have c65 := at_lt c62 h64
          have f71 := f32.ext (e46)
          refine wl_at Try.underlying22 ty9 f71 z53 z55 c62 c65 t63 h64 ?_
          rintro B66 o67 cs68 rfl l70
          refine wl_load1 ty9 rfl (.string (bs t63)) (l70.2 0 _ rfl) ?_
          refine wl_assign (.int .i64 x33) rfl ?_
          refine wl_assign (.string (bs t63)) rfl ?_
          refine wl_nil ?_
          refine qn ?_
          refine wc_seq ?_
          refine wc_seq ?_
          refine wc_region ?_
          refine wl_move (.int .i64 x33) rfl ?_
          refine wl_geq rfl rfl ?_
          refine wl_nil ?_
          refine qn ?_
          by_cases c72 : 20 ≤ x33
          · replace h := (if_pos c72).symm.trans h
            have b73 : (decide (20 ≤ x33)) = true := decide_eq_true c72
            refine wc_then rfl b73 ?_
            refine wc_exit ?_
            refine qe ?_
            refine bx (by decide) ?_
            refine qe ?_
            refine qe ?_
            refine be ?_
            refine qn ?_
            exact ⟨_, _, _, v34, l35, x36, x37, x38, x39, rfl, (by omega), (by omega), fr45, e46, z49, z50, z51, z52, B56, B57, B58, r59, h⟩
          · replace h := (if_neg c72).symm.trans h
            have b74 : (decide (20 ≤ x33)) = false := decide_eq_false c72
            refine wc_else rfl b74 ?_
            refine wc_skip ?_
            refine qn ?_
            refine wc_seq ?_
            refine wc_region ?_
            refine wl_move (.string (bs t63)) rfl ?_
            refine wl_move (.string (bs t63)) rfl ?_
            refine wl_lens Try.underlying9 rfl ?_
            refine wl_min2 rfl rfl ?_
            by_cases c75 : 0 ≤ (if 100 < (t63.length : Int) then 100 else (t63.length : Int))
            · replace h := (if_pos c75).symm.trans h
              by_cases c76 : (if 100 < (t63.length : Int) then 100 else (t63.length : Int)) ≤ (t63.length : Int)
              · replace h := (if_pos c76).symm.trans h
                refine wl_cuts Try.underlying9 rfl Bd.no (Bd.yes rfl) (by first | decide | omega | simp) c75 c76 ?_
                refine wl_assign (.string (bs ((t63.take (Int.toNat (if 100 < (t63.length : Int) then 100 else (t63.length : Int)))).drop (Int.toNat 0)))) rfl ?_
                refine wl_nil ?_
                refine qn ?_
                refine wc_seq ?_
                refine wc_region ?_
                refine wl_loadb B56 ty26 z50 [v34, .int .i64 x36, .int .i64 x37] rfl rfl ?_
                refine wl_move (.int .i64 x33) rfl ?_
                refine wl_rem rfl rfl (by decide) ?_
                refine wl_move (.string (bs ((t63.take (Int.toNat (if 100 < (t63.length : Int) then 100 else (t63.length : Int)))).drop (Int.toNat 0)))) rfl ?_
                obtain ⟨t77, h78, h⟩ := Option.bind_eq_some_iff.1 h
                refine wl_call [.agg #[v34, .int .i64 x36, .int .i64 x37], .int .i64 (Int.tmod x33 64), .string (bs ((t63.take (Int.toNat (if 100 < (t63.length : Int) then 100 else (t63.length : Int)))).drop (Int.toNat 0)))] bod4 (mc rfl (mc rfl (mc rfl (mn _)))) (wire_Send.ok k44 fr45.wf (⟨l35, x36, x37⟩ : ApiNet) (Int.tmod x33 64) ((t63.take (Int.toNat (if 100 < (t63.length : Int) then 100 else (t63.length : Int)))).drop (Int.toNat 0)) v34 r59 _ h78) ?_
                rintro e79 w80 ⟨v83, hw81, rfl, s82, f84⟩
                refine ⟨_, rfl, ?_⟩
                have fr85 := fr45.then0 s82
                refine wl_move (.tuple #[.agg #[v83, .int .i64 t77.1.Last, .int .i64 t77.1.Now], .int .i64 t77.2.1, .int .i64 t77.2.2]) rfl ?_
                refine wl_extract (vs := [.agg #[v83, .int .i64 t77.1.Last, .int .i64 t77.1.Now], .int .i64 t77.2.1, .int .i64 t77.2.2]) (.agg #[v83, .int .i64 t77.1.Last, .int .i64 t77.1.Now]) rfl rfl ?_
                refine wl_extract (vs := [.agg #[v83, .int .i64 t77.1.Last, .int .i64 t77.1.Now], .int .i64 t77.2.1, .int .i64 t77.2.2]) (.int .i64 t77.2.1) rfl rfl ?_
                refine wl_extract (vs := [.agg #[v83, .int .i64 t77.1.Last, .int .i64 t77.1.Now], .int .i64 t77.2.1, .int .i64 t77.2.2]) (.int .i64 t77.2.2) rfl rfl ?_
                refine wl_alloc fr85.wf fr85.g.size ty26 [.slice none 0 0, .int .i64 0, .int .i64 0] rfl ?_
                intro b86 w87 s88 B89 g90
                have B92 := (B56.step0 s82)
                have n91 : b1 ≠ b86 := B92.ne g90
                have B94 := (B57.step0 s82)
                have n93 : b7 ≠ b86 := B94.ne g90
                have B96 := (B58.step0 s82)
                have n95 : b14 ≠ b86 := B96.ne g90
                have fr97 := fr85.then0 s88
                have f101 := f84.ext (s88.ext)
                refine wl_store B89 fr97.wf ty26 rfl [v83, .int .i64 t77.1.Last, .int .i64 t77.1.Now] (cells_of (v := (.agg #[v83, .int .i64 t77.1.Last, .int .i64 t77.1.Now])) rfl rfl) rfl (Nat.le_of_ble_eq_true rfl) (one_all [v83, .int .i64 t77.1.Last, .int .i64 t77.1.Now] (by simp only [List.all_cons, List.all_nil, Bool.and_true, Bool.true_and, row_one f101] <;> rfl)) [v83, .int .i64 t77.1.Last, .int .i64 t77.1.Now] rfl ?_
                intro w98 s99 B100
                have fr102 := fr97.then s99 (fun _ e => Option.some.inj e ▸ B89.new)
                refine wl_assign (.int .i64 t77.2.1) rfl ?_
                refine wl_assign (.int .i64 t77.2.2) rfl ?_
                refine wl_nil ?_
                refine qn ?_
                refine wc_seq ?_
                refine wc_seq ?_
                refine wc_region ?_
                refine wl_move (.int .i64 t77.2.2) rfl ?_
                refine wl_neq rfl rfl ?_
                refine wl_move (.bool (t77.2.2 != 0)) rfl ?_
                by_cases c103 : (t77.2.2 != 0) = true
                · replace h := (if_pos c103).symm.trans h
                  refine wl_off (yl rfl rfl rfl) c103 ?_
                  refine wl_off (yl rfl rfl rfl) c103 ?_
                  refine wl_off (yl rfl rfl rfl) c103 ?_
                  refine wl_off (yl rfl rfl rfl) c103 ?_
                  refine wl_pick_t (t77.2.2 != 0) (.bool true) rfl c103 rfl ?_
                  refine wl_nil ?_
                  refine qn ?_
                  refine wc_then rfl rfl ?_
                  refine wc_seq ?_
                  refine wc_region ?_
                  refine wl_assign (.bool false) rfl ?_
                  refine wl_nil ?_
                  refine qn ?_
                  refine wc_ret ?_
                  refine qr ?_
                  refine bret ?_
                  refine qr ?_
                  refine qr ?_
                  refine bret ?_
                  refine qr ?_
                  cases h
                  refine end1 rfl (.tmp rfl .nil) ?_
                  exact ⟨_, rfl, fr102⟩
                · replace h := (if_neg c103).symm.trans h
                  have b104 : (t77.2.2 != 0) = false := Bool.eq_false_iff.2 c103
                  refine wl_on (yl rfl rfl rfl) b104 ?_
                  refine wl_move (.map (some b14)) z52 ?_
                  refine wl_on (yl rfl rfl rfl) b104 ?_
                  refine wl_move (.int .i64 t77.2.1) rfl ?_
                  refine wl_on (yl rfl rfl rfl) b104 ?_
                  by_cases c105 : i64ok t77.2.1
                  · replace h := (if_pos c105).symm.trans h
                    have B106 := ((B96.step0 s88).stepb s99 n95)
                    refine wl_looki B106 Try.underlying28 Try.underlying3 Try.underlying3 ty3 rfl rfl c105 ?_
                    refine wl_on (yl rfl rfl rfl) b104 ?_
                    refine wl_neq rfl rfl ?_
                    refine wl_pick_f (t77.2.2 != 0) (.bool ((mint x39 t77.2.1) != 0)) rfl b104 rfl ?_
                    refine wl_nil ?_
                    refine qn ?_
                    by_cases c107 : ((mint x39 t77.2.1) != 0) = true
                    · replace h := (if_pos c107).symm.trans h
                      refine wc_then rfl c107 ?_
                      refine wc_seq ?_
                      refine wc_region ?_
                      refine wl_assign (.bool false) rfl ?_
                      refine wl_nil ?_
                      refine qn ?_
                      refine wc_ret ?_
                      refine qr ?_
                      refine bret ?_
                      refine qr ?_
                      refine qr ?_
                      refine bret ?_
                      refine qr ?_
                      cases h
                      refine end1 rfl (.tmp rfl .nil) ?_
                      exact ⟨_, rfl, fr102⟩
                    · replace h := (if_neg c107).symm.trans h
                      have b108 : ((mint x39 t77.2.1) != 0) = false := Bool.eq_false_iff.2 c107
                      refine wc_else rfl b108 ?_
                      refine wc_skip ?_
                      refine qn ?_
                      refine wc_region ?_
                      refine wl_move (.map (some b7)) z51 ?_
                      refine wl_move (.int .i64 t77.2.1) rfl ?_
                      refine wl_move (.map (some b14)) z52 ?_
                      refine wl_move (.int .i64 t77.2.1) rfl ?_
                      refine wl_loadb B100 ty26 rfl [v83, .int .i64 t77.1.Last, .int .i64 t77.1.Now] rfl rfl ?_
                      refine wl_move (.string (bs ((t63.take (Int.toNat (if 100 < (t63.length : Int) then 100 else (t63.length : Int)))).drop (Int.toNat 0)))) rfl ?_
                      have B109 := ((B92.step0 s88).stepb s99 n91)
                      have f113 := f101.ext (s99.ext)
                      refine wl_store B109 fr102.wf ty26 z50 [v83, .int .i64 t77.1.Last, .int .i64 t77.1.Now] (cells_of (v := (.agg #[v83, .int .i64 t77.1.Last, .int .i64 t77.1.Now])) rfl rfl) rfl (Nat.le_of_ble_eq_true rfl) (one_all [v83, .int .i64 t77.1.Last, .int .i64 t77.1.Now] (by simp only [List.all_cons, List.all_nil, Bool.and_true, Bool.true_and, row_one f113] <;> rfl)) [v83, .int .i64 t77.1.Last, .int .i64 t77.1.Now] rfl ?_
                      intro w110 s111 B112
                      have fr114 := fr102.then s111 (fun _ e => Option.some.inj e ▸ B109.new)
                      by_cases c115 : i64ok t77.2.1 ∧ ((t63.take (Int.toNat (if 100 < (t63.length : Int) then 100 else (t63.length : Int)))).drop (Int.toNat 0)).length ≤ 9223372036854775807 ∧ Maps.size x38 < 9223372036854775807
                      · replace h := (if_pos c115).symm.trans h
                        have B119 := (((B94.step0 s88).stepb s99 n93).stepb s111 (Ne.symm n12))
                        refine wl_puts B119 fr114.wf Try.underlying27 Try.underlying3 Try.underlying9 rfl rfl rfl c115.1 c115.2.1 c115.2.2 ?_
                        intro w116 s117 B118
                        have fr120 := fr114.then s117 (fun _ e => Option.some.inj e ▸ B119.new)
                        by_cases c121 : i64ok t77.2.1 ∧ i64ok 1 ∧ Maps.size x39 < 9223372036854775807
                        · replace h := (if_pos c121).symm.trans h
                          have B125 := ((B106.stepb s111 (Ne.symm n19)).stepb s117 (Ne.symm n21))
                          refine wl_puti B125 fr120.wf Try.underlying28 Try.underlying3 Try.underlying3 rfl rfl rfl c121.1 c121.2.1 c121.2.2 ?_
                          intro w122 s123 B124
                          have fr126 := fr120.then s123 (fun _ e => Option.some.inj e ▸ B125.new)
                          refine wl_nil ?_
                          refine bn ?_
                          refine qn ?_
                          refine wc_region ?_
                          refine wl_add z55 rfl ?_
                          refine wl_move (.int .i64 (IntKind.i64.wrap (x33 + 1))) rfl ?_
                          refine wl_nil ?_
                          refine qn ?_
                          have B127 := ((B112.stepb s117 n12).stepb s123 n19)
                          have B128 := (B118.stepb s123 n21)
                          have f129 := f113.ext (s111.ext.trans (s117.ext.trans (s123.ext)))
                          exact ⟨_, _, _, (IntKind.i64.wrap (x33 + 1)), v83, t77.1.Flight, t77.1.Last, t77.1.Now, (mputs x38 t77.2.1 ((t63.take (Int.toNat (if 100 < (t63.length : Int) then 100 else (t63.length : Int)))).drop (Int.toNat 0))), (mputi x39 t77.2.1 1), rfl, (by omega), (by omega), fr126, (Ext.trans e46 (Ext.trans s82.ext (Ext.trans s88.ext (Ext.trans s99.ext (Ext.trans s111.ext (Ext.trans s117.ext s123.ext)))))), z49, z50, z51, z52, z53, z54, rfl, B127, B128, B124, f129, h⟩
                        · replace h := (if_neg c121).symm.trans h
                          cases h
                      · replace h := (if_neg c115).symm.trans h
                        cases h
                  · replace h := (if_neg c105).symm.trans h
                    cases h
              · replace h := (if_neg c76).symm.trans h
                cases h
            · replace h := (if_neg c75).symm.trans h
              cases h
        · replace h := (if_neg c62).symm.trans h
          cases h
      · replace h := (if_neg c60).symm.trans h
        have b130 : (decide (x33 < (a0.length : Int))) = false := decide_eq_false c60
        refine wc_else rfl b130 ?_
        refine wc_exit ?_
        refine qe ?_
        refine qe ?_
        refine be ?_
        refine qn ?_
        exact ⟨_, _, _, v34, l35, x36, x37, x38, x39, rfl, (by omega), (by omega), fr45, e46, z49, z50, z51, z52, B56, B57, B58, r59, h⟩
  · rintro _ w131 ⟨_, hw132, k133, v23, l24, x25, x26, x27, x28, rfl, hk136, hk137, fr134, e135, z138, z139, z140, z141, B142, B143, B144, r145, h⟩
    rcases k133 with _ | k133
    · rw [consignorlaw13_WireOnce.j0] at h; cases h
    rw [consignorlaw13_WireOnce.j0] at h
    refine wc_cut (fun a w => ∃ (σ : Nat → Value) (hw : Hw) (kq : Nat) (v146 : Value) (l147 : (List ApiMsg)) (x148 : Int) (x149 : Int) (x150 : DM), a = mkA 205 σ ∧ kq ≤ k133 ∧ kq ≤ k133 ∧ Stp none w0 hw0 w hw ∧ Ext w131 hw132 w hw ∧ σ 5 = .pointer (some ⟨b1, 0, none⟩) ∧ σ 7 = .map (some b14) ∧ Box w0.heap.size w hw b1 26 [v146, .int .i64 x148, .int .i64 x149] ∧ OwnM Try.prog 3 3 w0.heap.size w hw b14 x150 ∧ Row KApiMsg w hw v146 l147 ∧ consignorlaw13_WireOnce.j2 kq l147 x148 x149 x150 = some r) ?_ ?_
    · skip
      refine wc_seq ?_
      refine wc_region ?_
      refine wl_move (v1_) z138 ?_
      have f154 := q1.ext (s3.ext.trans (s9.ext.trans (s16.ext.trans (e135))))
      obtain ⟨A151, c152, hv153⟩ := (f154).slice
      refine wl_len Try.underlying23 (show _ = Value.slice _ a1.length _ from (Eq.trans rfl hv153)) ?_
      refine wl_move (.int .i64 0) rfl ?_
      refine wl_nil ?_
      refine qn ?_
      refine wc_block ?_
      refine wc_loop (fun m a w => ∃ (σ : Nat → Value) (hw : Hw) (kq : Nat) (x155 : Int) (v156 : Value) (l157 : (List ApiMsg)) (x158 : Int) (x159 : Int) (x160 : DM), a = mkA 205 σ ∧ kq ≤ m ∧ kq ≤ k133 ∧ Stp none w0 hw0 w hw ∧ Ext w131 hw132 w hw ∧ σ 5 = .pointer (some ⟨b1, 0, none⟩) ∧ σ 6 = .map (some b7) ∧ σ 7 = .map (some b14) ∧ σ 69 = v1_ ∧ σ 70 = .int .i64 (a1.length : Int) ∧ σ 71 = .int .i64 x155 ∧ Box w0.heap.size w hw b1 26 [v156, .int .i64 x158, .int .i64 x159] ∧ OwnM Try.prog 3 9 w0.heap.size w hw b7 x27 ∧ OwnM Try.prog 3 3 w0.heap.size w hw b14 x160 ∧ Row KApiMsg w hw v156 l157 ∧ consignorlaw13_WireOnce.l3 kq a1 x27 x155 l157 x158 x159 x160 = some r) k133 ?_ ?_ ?_
      · skip
        exact ⟨_, _, _, 0, v23, l24, x25, x26, x28, rfl, (Nat.le_refl _), (Nat.le_refl _), fr134, (Ext.refl _ _), z139, z140, z141, rfl, rfl, rfl, B142, B143, B144, r145, h⟩
      · rintro _ _ ⟨_, hw162, k163, x155, v156, l157, x158, x159, x160, rfl, hk166, hk167, fr164, e165, z168, z169, z170, z171, z172, z173, B174, B175, B176, r177, h⟩; obtain rfl := Nat.le_zero.1 hk166; rw [consignorlaw13_WireOnce.l3] at h; cases h
      · rintro m3 _ w161 ⟨_, hw162, k163, x155, v156, l157, x158, x159, x160, rfl, hk166, hk167, fr164, e165, z168, z169, z170, z171, z172, z173, B174, B175, B176, r177, h⟩
        rcases k163 with _ | k163
        · rw [consignorlaw13_WireOnce.l3] at h; cases h
        rw [consignorlaw13_WireOnce.l3] at h
        refine wc_seq ?_
        refine wc_region ?_
        refine wl_lss z173 z172 ?_
        refine wl_nil ?_
        refine qn ?_
        refine wc_seq ?_
        by_cases c178 : x155 < (a1.length : Int)
        · replace h := (if_pos c178).symm.trans h
          have b179 : (decide (x155 < (a1.length : Int))) = true := decide_eq_true c178
          refine wc_then rfl b179 ?_
          refine wc_skip ?_
          refine qn ?_
          refine wc_seq ?_
          refine wc_block ?_
          refine wc_seq ?_
          refine wc_region ?_
          refine wl_move (.int .i64 x155) z173 ?_
          by_cases c180 : 0 ≤ x155
          · replace h := (if_pos c180).symm.trans h
            obtain ⟨t181, h182, h⟩ := Option.bind_eq_some_iff.1 h
            have c183 := at_lt c180 h182
            have f189 := f154.ext (e165)
            refine wl_at Try.underlying23 ty3 f189 z171 z173 c180 c183 t181 h182 ?_
            rintro B184 o185 cs186 rfl l188
            refine wl_load1 ty3 rfl (.int .i64 t181) (l188.2 0 _ rfl) ?_
            refine wl_assign (.int .i64 x155) rfl ?_
            refine wl_assign (.int .i64 t181) rfl ?_
            refine wl_nil ?_
            refine qn ?_
            refine wc_seq ?_
            refine wc_seq ?_
            refine wc_region ?_
            refine wl_move (.int .i64 x155) rfl ?_
            refine wl_geq rfl rfl ?_
            refine wl_move (.bool (decide (60 ≤ x155))) rfl ?_
            refine wl_join 5 [79, 80, 81, 82, 83] 83 (.bool ((decide (60 ≤ x155)) || ((l157.length : Int) == 0))) ?_ ?_
            · rcases Bool.eq_false_or_eq_true (decide (60 ≤ x155)) with hcc | hcc
              · skip
                refine wl_off (yl rfl rfl rfl) hcc ?_
                refine wl_off (yl rfl rfl rfl) hcc ?_
                refine wl_off (yl rfl rfl rfl) hcc ?_
                refine wl_off (yl rfl rfl rfl) hcc ?_
                refine wl_pick_t (decide (60 ≤ x155)) (.bool true) rfl hcc rfl ?_
                refine wl_nil ?_
                exact qn ⟨rfl, _, rfl, (by repeat (first | exact Same.refl _ _ | refine Same.upd ?_ rfl)), (by rw [hcc]; rfl)⟩
              · skip
                refine wl_on (yl rfl rfl rfl) hcc ?_
                refine wl_field fld26_0 z168 ?_
                refine wl_on (yl rfl rfl rfl) hcc ?_
                refine wl_loadb1 B174 ty24 rfl (v156) rfl ?_
                refine wl_on (yl rfl rfl rfl) hcc ?_
                obtain ⟨A190, c191, hv192⟩ := (r177).slice
                refine wl_len Try.underlying24 (show _ = Value.slice _ l157.length _ from (Eq.trans rfl hv192)) ?_
                refine wl_on (yl rfl rfl rfl) hcc ?_
                refine wl_eql rfl rfl ?_
                refine wl_pick_f (decide (60 ≤ x155)) (.bool ((l157.length : Int) == 0)) rfl hcc rfl ?_
                refine wl_nil ?_
                exact qn ⟨rfl, _, rfl, (by repeat (first | exact Same.refl _ _ | refine Same.upd ?_ rfl)), (by rw [hcc]; rfl)⟩
            intro _ ho193 hv194
            refine wl_nil ?_
            refine qn ?_
            by_cases c195 : ((decide (60 ≤ x155)) || ((l157.length : Int) == 0)) = true
            · replace h := (if_pos c195).symm.trans h
              refine wc_then hv194 c195 ?_
              refine wc_exit ?_
              refine qe ?_
              refine bx (by decide) ?_
              refine qe ?_
              refine qe ?_
              refine be ?_
              refine qn ?_
              exact ⟨_, _, _, v156, l157, x158, x159, x160, rfl, (by omega), (by omega), fr164, e165, ((ho193 5 rfl).trans z168), ((ho193 7 rfl).trans z170), B174, B176, r177, h⟩
            · replace h := (if_neg c195).symm.trans h
              have b196 : ((decide (60 ≤ x155)) || ((l157.length : Int) == 0)) = false := Bool.eq_false_iff.2 c195
              refine wc_else hv194 b196 ?_
              refine wc_skip ?_
              refine qn ?_
              refine wc_seq ?_
              refine wc_region ?_
              refine wl_field fld26_0 ((ho193 5 rfl).trans z168) ?_
              refine wl_loadb1 B174 ty24 rfl (v156) rfl ?_
              obtain ⟨A197, c198, hv199⟩ := (r177).slice
              refine wl_len Try.underlying24 (show _ = Value.slice _ l157.length _ from (Eq.trans rfl hv199)) ?_
              refine wl_assign (.int .i64 (l157.length : Int)) rfl ?_
              refine wl_nil ?_
              refine qn ?_
              refine wc_seq ?_
              refine wc_region ?_
              refine wl_move (.int .i64 t181) ((ho193 14 rfl).trans rfl) ?_
              refine wl_quo rfl rfl (by decide) ?_
              refine wl_move (.int .i64 (l157.length : Int)) rfl ?_
              by_cases c200 : (l157.length : Int) ≠ 0
              · replace h := (if_pos c200).symm.trans h
                refine wl_rem rfl rfl c200 ?_
                refine wl_move (.int .i64 (l157.length : Int)) rfl ?_
                refine wl_add rfl rfl ?_
                refine wl_move (.int .i64 (l157.length : Int)) rfl ?_
                by_cases c201 : (l157.length : Int) ≠ 0
                · replace h := (if_pos c201).symm.trans h
                  refine wl_rem rfl rfl c201 ?_
                  refine wl_assign (.int .i64 (Int.tmod (IntKind.i64.wrap ((Int.tmod (IntKind.i64.wrap (Int.tdiv t181 3)) (l157.length : Int)) + (l157.length : Int))) (l157.length : Int))) rfl ?_
                  refine wl_nil ?_
                  refine qn ?_
                  refine wc_seq ?_
                  refine wc_region ?_
                  refine wl_field fld26_0 ((ho193 5 rfl).trans z168) ?_
                  refine wl_loadb1 B174 ty24 rfl (v156) rfl ?_
                  refine wl_move (.int .i64 (Int.tmod (IntKind.i64.wrap ((Int.tmod (IntKind.i64.wrap (Int.tdiv t181 3)) (l157.length : Int)) + (l157.length : Int))) (l157.length : Int))) rfl ?_
                  by_cases c202 : 0 ≤ (Int.tmod (IntKind.i64.wrap ((Int.tmod (IntKind.i64.wrap (Int.tdiv t181 3)) (l157.length : Int)) + (l157.length : Int))) (l157.length : Int))
                  · replace h := (if_pos c202).symm.trans h
                    obtain ⟨t203, h204, h⟩ := Option.bind_eq_some_iff.1 h
                    have c205 := at_lt c202 h204
                    refine wl_at Try.underlying24 ty33 r177 rfl rfl c202 c205 t203 h204 ?_
                    rintro B206 o207 cs208 rfl l210
                    refine wl_field fld33_0 rfl ?_
                    refine wl_load1 ty3 rfl (.int .i64 t203.Id) (l210.2 0 _ rfl) ?_
                    refine wl_assign (.int .i64 t203.Id) rfl ?_
                    refine wl_nil ?_
                    refine qn ?_
                    refine wc_seq ?_
                    refine wc_region ?_
                    refine wl_move (.int .i64 t181) ((ho193 14 rfl).trans rfl) ?_
                    refine wl_rem rfl rfl (by decide) ?_
                    refine wl_add rfl rfl ?_
                    refine wl_rem rfl rfl (by decide) ?_
                    refine wl_nil ?_
                    refine qn ?_
                    refine wc_block ?_
                    refine wc_seq ?_
                    refine wc_region ?_
                    refine wl_eql rfl rfl ?_
                    refine wl_assign (.bool ((Int.tmod (IntKind.i64.wrap ((Int.tmod t181 3) + 3)) 3) == 0)) rfl ?_
                    refine wl_nil ?_
                    refine qn ?_
                    by_cases c211 : ((Int.tmod (IntKind.i64.wrap ((Int.tmod t181 3) + 3)) 3) == 0) = true
                    · replace h := (if_pos c211).symm.trans h
                      refine wc_then rfl c211 ?_
                      refine wc_seq ?_
                      refine wc_region ?_
                      refine wl_loadb B174 ty26 ((ho193 5 rfl).trans z168) [v156, .int .i64 x158, .int .i64 x159] rfl rfl ?_
                      refine wl_move (.int .i64 (Int.tmod (IntKind.i64.wrap ((Int.tmod (IntKind.i64.wrap (Int.tdiv t181 3)) (l157.length : Int)) + (l157.length : Int))) (l157.length : Int))) rfl ?_
                      obtain ⟨t212, h213, h⟩ := Option.bind_eq_some_iff.1 h
                      refine wl_call [.agg #[v156, .int .i64 x158, .int .i64 x159], .int .i64 (Int.tmod (IntKind.i64.wrap ((Int.tmod (IntKind.i64.wrap (Int.tdiv t181 3)) (l157.length : Int)) + (l157.length : Int))) (l157.length : Int))] bod5 (mc rfl (mc rfl (mn _))) (wire_Take.ok k163 fr164.wf (⟨l157, x158, x159⟩ : ApiNet) (Int.tmod (IntKind.i64.wrap ((Int.tmod (IntKind.i64.wrap (Int.tdiv t181 3)) (l157.length : Int)) + (l157.length : Int))) (l157.length : Int)) v156 r177 _ h213) ?_
                      rintro e214 w215 ⟨v218, hw216, rfl, s217, f219⟩
                      refine ⟨_, rfl, ?_⟩
                      have fr220 := fr164.then0 s217
                      refine wl_move (.tuple #[.agg #[v218, .int .i64 t212.1.Last, .int .i64 t212.1.Now], .agg #[.int .i64 t212.2.1.Id, .int .i64 t212.2.1.To, .string (bs t212.2.1.Body), .int .i64 t212.2.1.At], .int .i64 t212.2.2]) rfl ?_
                      refine wl_extract (vs := [.agg #[v218, .int .i64 t212.1.Last, .int .i64 t212.1.Now], .agg #[.int .i64 t212.2.1.Id, .int .i64 t212.2.1.To, .string (bs t212.2.1.Body), .int .i64 t212.2.1.At], .int .i64 t212.2.2]) (.agg #[v218, .int .i64 t212.1.Last, .int .i64 t212.1.Now]) rfl rfl ?_
                      refine wl_extract (vs := [.agg #[v218, .int .i64 t212.1.Last, .int .i64 t212.1.Now], .agg #[.int .i64 t212.2.1.Id, .int .i64 t212.2.1.To, .string (bs t212.2.1.Body), .int .i64 t212.2.1.At], .int .i64 t212.2.2]) (.agg #[.int .i64 t212.2.1.Id, .int .i64 t212.2.1.To, .string (bs t212.2.1.Body), .int .i64 t212.2.1.At]) rfl rfl ?_
                      refine wl_extract (vs := [.agg #[v218, .int .i64 t212.1.Last, .int .i64 t212.1.Now], .agg #[.int .i64 t212.2.1.Id, .int .i64 t212.2.1.To, .string (bs t212.2.1.Body), .int .i64 t212.2.1.At], .int .i64 t212.2.2]) (.int .i64 t212.2.2) rfl rfl ?_
                      refine wl_alloc fr220.wf fr220.g.size ty26 [.slice none 0 0, .int .i64 0, .int .i64 0] rfl ?_
                      intro b221 w222 s223 B224 g225
                      have B227 := (B174.step0 s217)
                      have n226 : b1 ≠ b221 := B227.ne g225
                      have B229 := (B175.step0 s217)
                      have n228 : b7 ≠ b221 := B229.ne g225
                      have B231 := (B176.step0 s217)
                      have n230 : b14 ≠ b221 := B231.ne g225
                      have fr232 := fr220.then0 s223
                      refine wl_alloc fr232.wf fr232.g.size ty33 [.int .i64 0, .int .i64 0, .string (bs []), .int .i64 0] rfl ?_
                      intro b233 w234 s235 B236 g237
                      have B239 := (B227.step0 s223)
                      have n238 : b1 ≠ b233 := B239.ne g237
                      have B241 := (B229.step0 s223)
                      have n240 : b7 ≠ b233 := B241.ne g237
                      have B243 := (B231.step0 s223)
                      have n242 : b14 ≠ b233 := B243.ne g237
                      have n244 : b221 ≠ b233 := B224.ne g237
                      have fr245 := fr232.then0 s235
                      have B246 := (B224.step0 s235)
                      have f250 := f219.ext (s223.ext.trans (s235.ext))
                      refine wl_store B246 fr245.wf ty26 rfl [v218, .int .i64 t212.1.Last, .int .i64 t212.1.Now] (cells_of (v := (.agg #[v218, .int .i64 t212.1.Last, .int .i64 t212.1.Now])) rfl rfl) rfl (Nat.le_of_ble_eq_true rfl) (one_all [v218, .int .i64 t212.1.Last, .int .i64 t212.1.Now] (by simp only [List.all_cons, List.all_nil, Bool.and_true, Bool.true_and, row_one f250] <;> rfl)) [v218, .int .i64 t212.1.Last, .int .i64 t212.1.Now] rfl ?_
                      intro w247 s248 B249
                      have fr251 := fr245.then s248 (fun _ e => Option.some.inj e ▸ B246.new)
                      have B252 := (B236.stepb s248 (Ne.symm n244))
                      refine wl_store B252 fr251.wf ty33 rfl [.int .i64 t212.2.1.Id, .int .i64 t212.2.1.To, .string (bs t212.2.1.Body), .int .i64 t212.2.1.At] (cells_of (v := (.agg #[.int .i64 t212.2.1.Id, .int .i64 t212.2.1.To, .string (bs t212.2.1.Body), .int .i64 t212.2.1.At])) rfl rfl) rfl (Nat.le_of_ble_eq_true rfl) (by intro u hu; simp only [List.mem_cons, List.not_mem_nil, or_false] at hu; rcases hu with rfl | rfl | rfl | rfl <;> rfl) [.int .i64 t212.2.1.Id, .int .i64 t212.2.1.To, .string (bs t212.2.1.Body), .int .i64 t212.2.1.At] rfl ?_
                      intro w253 s254 B255
                      have fr256 := fr251.then s254 (fun _ e => Option.some.inj e ▸ B252.new)
                      refine wl_assign (.int .i64 t212.2.2) rfl ?_
                      refine wl_nil ?_
                      refine qn ?_
                      refine wc_seq ?_
                      refine wc_seq ?_
                      refine wc_region ?_
                      refine wl_move (.int .i64 t212.2.2) rfl ?_
                      refine wl_neq rfl rfl ?_
                      refine wl_move (.bool (t212.2.2 != 0)) rfl ?_
                      by_cases c257 : (t212.2.2 != 0) = true
                      · replace h := (if_pos c257).symm.trans h
                        refine wl_off (yl rfl rfl rfl) c257 ?_
                        refine wl_off (yl rfl rfl rfl) c257 ?_
                        refine wl_off (yl rfl rfl rfl) c257 ?_
                        refine wl_off (yl rfl rfl rfl) c257 ?_
                        refine wl_off (yl rfl rfl rfl) c257 ?_
                        refine wl_off (yl rfl rfl rfl) c257 ?_
                        refine wl_off (yl rfl rfl rfl) c257 ?_
                        refine wl_pick_t (t212.2.2 != 0) (.bool true) rfl c257 rfl ?_
                        refine wl_move (.bool true) rfl ?_
                        refine wl_off (yl rfl rfl rfl) rfl ?_
                        refine wl_off (yl rfl rfl rfl) rfl ?_
                        refine wl_off (yl rfl rfl rfl) rfl ?_
                        refine wl_off (yl rfl rfl rfl) rfl ?_
                        refine wl_pick_t true (.bool true) rfl rfl rfl ?_
                        refine wl_move (.bool true) rfl ?_
                        refine wl_off (yl rfl rfl rfl) rfl ?_
                        refine wl_off (yl rfl rfl rfl) rfl ?_
                        refine wl_off (yl rfl rfl rfl) rfl ?_
                        refine wl_off (yl rfl rfl rfl) rfl ?_
                        refine wl_pick_t true (.bool true) rfl rfl rfl ?_
                        refine wl_move (.bool true) rfl ?_
                        refine wl_off (yl rfl rfl rfl) rfl ?_
                        refine wl_off (yl rfl rfl rfl) rfl ?_
                        refine wl_off (yl rfl rfl rfl) rfl ?_
                        refine wl_off (yl rfl rfl rfl) rfl ?_
                        refine wl_off (yl rfl rfl rfl) rfl ?_
                        refine wl_off (yl rfl rfl rfl) rfl ?_
                        refine wl_pick_t true (.bool true) rfl rfl rfl ?_
                        refine wl_nil ?_
                        refine qn ?_
                        refine wc_then rfl rfl ?_
                        refine wc_seq ?_
                        refine wc_region ?_
                        refine wl_assign (.bool false) rfl ?_
                        refine wl_nil ?_
                        refine qn ?_
                        refine wc_ret ?_
                        refine qr ?_
                        refine bret ?_
                        refine bret ?_
                        refine qr ?_
                        refine qr ?_
                        refine bret ?_
                        refine qr ?_
                        cases h
                        refine end1 rfl (.tmp rfl .nil) ?_
                        exact ⟨_, rfl, fr256⟩
                      · replace h := (if_neg c257).symm.trans h
                        have b258 : (t212.2.2 != 0) = false := Bool.eq_false_iff.2 c257
                        refine wl_on (yl rfl rfl rfl) b258 ?_
                        refine wl_field fld33_2 rfl ?_
                        refine wl_on (yl rfl rfl rfl) b258 ?_
                        refine wl_loadb1 B255 ty9 rfl (.string (bs t212.2.1.Body)) rfl ?_
                        refine wl_on (yl rfl rfl rfl) b258 ?_
                        refine wl_move (.map (some b7)) ((ho193 6 rfl).trans z169) ?_
                        refine wl_on (yl rfl rfl rfl) b258 ?_
                        refine wl_field fld33_0 rfl ?_
                        refine wl_on (yl rfl rfl rfl) b258 ?_
                        refine wl_loadb1 B255 ty3 rfl (.int .i64 t212.2.1.Id) rfl ?_
                        refine wl_on (yl rfl rfl rfl) b258 ?_
                        by_cases c259 : i64ok t212.2.1.Id
                        · replace h := (if_pos c259).symm.trans h
                          have B260 := (((B241.step0 s235).stepb s248 n228).stepb s254 n240)
                          refine wl_looks B260 Try.underlying27 Try.underlying3 Try.underlying9 ty9 rfl rfl c259 ?_
                          refine wl_on (yl rfl rfl rfl) b258 ?_
                          refine wl_neqs rfl rfl ?_
                          refine wl_pick_f (t212.2.2 != 0) (.bool (!(t212.2.1.Body == (mstr x27 t212.2.1.Id)))) rfl b258 rfl ?_
                          refine wl_move (.bool (!(t212.2.1.Body == (mstr x27 t212.2.1.Id)))) rfl ?_
                          refine wl_join 5 [139, 140, 141, 142, 143] 143 (.bool ((!(t212.2.1.Body == (mstr x27 t212.2.1.Id))) || (t212.2.1.Id != t203.Id))) ?_ ?_
                          · rcases Bool.eq_false_or_eq_true (!(t212.2.1.Body == (mstr x27 t212.2.1.Id))) with hcc | hcc
                            · skip
                              refine wl_off (yl rfl rfl rfl) hcc ?_
                              refine wl_off (yl rfl rfl rfl) hcc ?_
                              refine wl_off (yl rfl rfl rfl) hcc ?_
                              refine wl_off (yl rfl rfl rfl) hcc ?_
                              refine wl_pick_t (!(t212.2.1.Body == (mstr x27 t212.2.1.Id))) (.bool true) rfl hcc rfl ?_
                              refine wl_nil ?_
                              exact qn ⟨rfl, _, rfl, (by repeat (first | exact Same.refl _ _ | refine Same.upd ?_ rfl)), (by rw [hcc]; rfl)⟩
                            · skip
                              refine wl_on (yl rfl rfl rfl) hcc ?_
                              refine wl_field fld33_0 rfl ?_
                              refine wl_on (yl rfl rfl rfl) hcc ?_
                              refine wl_loadb1 B255 ty3 rfl (.int .i64 t212.2.1.Id) rfl ?_
                              refine wl_on (yl rfl rfl rfl) hcc ?_
                              refine wl_move (.int .i64 t203.Id) rfl ?_
                              refine wl_on (yl rfl rfl rfl) hcc ?_
                              refine wl_neq rfl rfl ?_
                              refine wl_pick_f (!(t212.2.1.Body == (mstr x27 t212.2.1.Id))) (.bool (t212.2.1.Id != t203.Id)) rfl hcc rfl ?_
                              refine wl_nil ?_
                              exact qn ⟨rfl, _, rfl, (by repeat (first | exact Same.refl _ _ | refine Same.upd ?_ rfl)), (by rw [hcc]; rfl)⟩
                          intro _ ho261 hv262
                          refine wl_move (.bool ((!(t212.2.1.Body == (mstr x27 t212.2.1.Id))) || (t212.2.1.Id != t203.Id))) hv262 ?_
                          by_cases c263 : ((!(t212.2.1.Body == (mstr x27 t212.2.1.Id))) || (t212.2.1.Id != t203.Id)) = true
                          · replace h := (if_pos c263).symm.trans h
                            refine wl_off (yl rfl rfl rfl) c263 ?_
                            refine wl_off (yl rfl rfl rfl) c263 ?_
                            refine wl_off (yl rfl rfl rfl) c263 ?_
                            refine wl_off (yl rfl rfl rfl) c263 ?_
                            refine wl_pick_t ((!(t212.2.1.Body == (mstr x27 t212.2.1.Id))) || (t212.2.1.Id != t203.Id)) (.bool true) rfl c263 rfl ?_
                            refine wl_move (.bool true) rfl ?_
                            refine wl_off (yl rfl rfl rfl) rfl ?_
                            refine wl_off (yl rfl rfl rfl) rfl ?_
                            refine wl_off (yl rfl rfl rfl) rfl ?_
                            refine wl_off (yl rfl rfl rfl) rfl ?_
                            refine wl_off (yl rfl rfl rfl) rfl ?_
                            refine wl_off (yl rfl rfl rfl) rfl ?_
                            refine wl_pick_t true (.bool true) rfl rfl rfl ?_
                            refine wl_nil ?_
                            refine qn ?_
                            refine wc_then rfl rfl ?_
                            refine wc_seq ?_
                            refine wc_region ?_
                            refine wl_assign (.bool false) rfl ?_
                            refine wl_nil ?_
                            refine qn ?_
                            refine wc_ret ?_
                            refine qr ?_
                            refine bret ?_
                            refine bret ?_
                            refine qr ?_
                            refine qr ?_
                            refine bret ?_
                            refine qr ?_
                            cases h
                            refine end1 rfl (.tmp rfl .nil) ?_
                            exact ⟨_, rfl, fr256⟩
                          · replace h := (if_neg c263).symm.trans h
                            have b264 : ((!(t212.2.1.Body == (mstr x27 t212.2.1.Id))) || (t212.2.1.Id != t203.Id)) = false := Bool.eq_false_iff.2 c263
                            refine wl_on (yl rfl rfl rfl) b264 ?_
                            refine wl_move (.map (some b14)) ((ho261 7 rfl).trans ((ho193 7 rfl).trans z170)) ?_
                            refine wl_on (yl rfl rfl rfl) b264 ?_
                            refine wl_move (.int .i64 t203.Id) ((ho261 17 rfl).trans rfl) ?_
                            refine wl_on (yl rfl rfl rfl) b264 ?_
                            by_cases c265 : i64ok t203.Id
                            · replace h := (if_pos c265).symm.trans h
                              have B266 := (((B243.step0 s235).stepb s248 n230).stepb s254 n242)
                              refine wl_looki B266 Try.underlying28 Try.underlying3 Try.underlying3 ty3 rfl rfl c265 ?_
                              refine wl_on (yl rfl rfl rfl) b264 ?_
                              refine wl_lss rfl rfl ?_
                              refine wl_pick_f ((!(t212.2.1.Body == (mstr x27 t212.2.1.Id))) || (t212.2.1.Id != t203.Id)) (.bool (decide ((mint x160 t203.Id) < 1))) rfl b264 rfl ?_
                              refine wl_move (.bool (decide ((mint x160 t203.Id) < 1))) rfl ?_
                              by_cases c267 : (mint x160 t203.Id) < 1
                              · replace h := (if_pos c267).symm.trans h
                                have b268 : (decide ((mint x160 t203.Id) < 1)) = true := decide_eq_true c267
                                refine wl_off (yl rfl rfl rfl) b268 ?_
                                refine wl_off (yl rfl rfl rfl) b268 ?_
                                refine wl_off (yl rfl rfl rfl) b268 ?_
                                refine wl_off (yl rfl rfl rfl) b268 ?_
                                refine wl_off (yl rfl rfl rfl) b268 ?_
                                refine wl_off (yl rfl rfl rfl) b268 ?_
                                refine wl_pick_t (decide ((mint x160 t203.Id) < 1)) (.bool true) rfl b268 rfl ?_
                                refine wl_nil ?_
                                refine qn ?_
                                refine wc_then rfl rfl ?_
                                refine wc_seq ?_
                                refine wc_region ?_
                                refine wl_assign (.bool false) rfl ?_
                                refine wl_nil ?_
                                refine qn ?_
                                refine wc_ret ?_
                                refine qr ?_
                                refine bret ?_
                                refine bret ?_
                                refine qr ?_
                                refine qr ?_
                                refine bret ?_
                                refine qr ?_
                                cases h
                                refine end1 rfl (.tmp rfl .nil) ?_
                                exact ⟨_, rfl, fr256⟩
                              · replace h := (if_neg c267).symm.trans h
                                have b269 : (decide ((mint x160 t203.Id) < 1)) = false := decide_eq_false c267
                                refine wl_on (yl rfl rfl rfl) b269 ?_
                                refine wl_field fld33_1 ((ho261 19 rfl).trans rfl) ?_
                                refine wl_on (yl rfl rfl rfl) b269 ?_
                                refine wl_loadb1 B255 ty3 rfl (.int .i64 t212.2.1.To) rfl ?_
                                refine wl_on (yl rfl rfl rfl) b269 ?_
                                refine wl_move (.int .i64 t203.Id) ((ho261 17 rfl).trans rfl) ?_
                                refine wl_on (yl rfl rfl rfl) b269 ?_
                                refine wl_sub rfl rfl ?_
                                refine wl_on (yl rfl rfl rfl) b269 ?_
                                refine wl_rem rfl rfl (by decide) ?_
                                refine wl_on (yl rfl rfl rfl) b269 ?_
                                refine wl_neq rfl rfl ?_
                                refine wl_pick_f (decide ((mint x160 t203.Id) < 1)) (.bool (t212.2.1.To != (Int.tmod (IntKind.i64.wrap (t203.Id - 1)) 64))) rfl b269 rfl ?_
                                refine wl_nil ?_
                                refine qn ?_
                                by_cases c270 : (t212.2.1.To != (Int.tmod (IntKind.i64.wrap (t203.Id - 1)) 64)) = true
                                · replace h := (if_pos c270).symm.trans h
                                  refine wc_then rfl c270 ?_
                                  refine wc_seq ?_
                                  refine wc_region ?_
                                  refine wl_assign (.bool false) rfl ?_
                                  refine wl_nil ?_
                                  refine qn ?_
                                  refine wc_ret ?_
                                  refine qr ?_
                                  refine bret ?_
                                  refine bret ?_
                                  refine qr ?_
                                  refine qr ?_
                                  refine bret ?_
                                  refine qr ?_
                                  cases h
                                  refine end1 rfl (.tmp rfl .nil) ?_
                                  exact ⟨_, rfl, fr256⟩
                                · replace h := (if_neg c270).symm.trans h
                                  have b271 : (t212.2.1.To != (Int.tmod (IntKind.i64.wrap (t203.Id - 1)) 64)) = false := Bool.eq_false_iff.2 c270
                                  refine wc_else rfl b271 ?_
                                  refine wc_skip ?_
                                  refine qn ?_
                                  refine wc_seq ?_
                                  refine wc_region ?_
                                  have B272 := (B249.stepb s254 n244)
                                  refine wl_loadb B272 ty26 ((ho261 18 rfl).trans rfl) [v218, .int .i64 t212.1.Last, .int .i64 t212.1.Now] rfl rfl ?_
                                  have B273 := (((B239.step0 s235).stepb s248 n226).stepb s254 n238)
                                  have f277 := f250.ext (s248.ext.trans (s254.ext))
                                  refine wl_store B273 fr256.wf ty26 ((ho261 5 rfl).trans ((ho193 5 rfl).trans z168)) [v218, .int .i64 t212.1.Last, .int .i64 t212.1.Now] (cells_of (v := (.agg #[v218, .int .i64 t212.1.Last, .int .i64 t212.1.Now])) rfl rfl) rfl (Nat.le_of_ble_eq_true rfl) (one_all [v218, .int .i64 t212.1.Last, .int .i64 t212.1.Now] (by simp only [List.all_cons, List.all_nil, Bool.and_true, Bool.true_and, row_one f277] <;> rfl)) [v218, .int .i64 t212.1.Last, .int .i64 t212.1.Now] rfl ?_
                                  intro w274 s275 B276
                                  have fr278 := fr256.then s275 (fun _ e => Option.some.inj e ▸ B273.new)
                                  refine wl_nil ?_
                                  refine qn ?_
                                  refine wc_region ?_
                                  refine wl_move (.map (some b14)) ((ho261 7 rfl).trans ((ho193 7 rfl).trans z170)) ?_
                                  refine wl_move (.int .i64 t203.Id) ((ho261 17 rfl).trans rfl) ?_
                                  by_cases c279 : i64ok t203.Id
                                  · replace h := (if_pos c279).symm.trans h
                                    have B280 := (B266.stepb s275 (Ne.symm n19))
                                    refine wl_looki B280 Try.underlying28 Try.underlying3 Try.underlying3 ty3 rfl rfl c279 ?_
                                    refine wl_sub rfl rfl ?_
                                    by_cases c281 : i64ok t203.Id ∧ i64ok (IntKind.i64.wrap ((mint x160 t203.Id) - 1)) ∧ Maps.size x160 < 9223372036854775807
                                    · replace h := (if_pos c281).symm.trans h
                                      refine wl_puti B280 fr278.wf Try.underlying28 Try.underlying3 Try.underlying3 rfl rfl rfl c281.1 c281.2.1 c281.2.2 ?_
                                      intro w282 s283 B284
                                      have fr285 := fr278.then s283 (fun _ e => Option.some.inj e ▸ B280.new)
                                      refine wl_nil ?_
                                      refine bn ?_
                                      refine bn ?_
                                      refine qn ?_
                                      refine wc_region ?_
                                      refine wl_add ((ho261 71 rfl).trans ((ho193 71 rfl).trans z173)) rfl ?_
                                      refine wl_move (.int .i64 (IntKind.i64.wrap (x155 + 1))) rfl ?_
                                      refine wl_nil ?_
                                      refine qn ?_
                                      have B286 := (B276.stepb s283 n19)
                                      have B287 := ((B260.stepb s275 (Ne.symm n12)).stepb s283 n21)
                                      have f288 := f277.ext (s275.ext.trans (s283.ext))
                                      exact ⟨_, _, _, (IntKind.i64.wrap (x155 + 1)), v218, t212.1.Flight, t212.1.Last, t212.1.Now, (mputi x160 t203.Id (IntKind.i64.wrap ((mint x160 t203.Id) - 1))), rfl, (by omega), (by omega), fr285, (Ext.trans e165 (Ext.trans s217.ext (Ext.trans s223.ext (Ext.trans s235.ext (Ext.trans s248.ext (Ext.trans s254.ext (Ext.trans s275.ext s283.ext))))))), ((ho261 5 rfl).trans ((ho193 5 rfl).trans z168)), ((ho261 6 rfl).trans ((ho193 6 rfl).trans z169)), ((ho261 7 rfl).trans ((ho193 7 rfl).trans z170)), ((ho261 69 rfl).trans ((ho193 69 rfl).trans z171)), ((ho261 70 rfl).trans ((ho193 70 rfl).trans z172)), rfl, B286, B287, B284, f288, h⟩
                                    · replace h := (if_neg c281).symm.trans h
                                      cases h
                                  · replace h := (if_neg c279).symm.trans h
                                    cases h
                            · replace h := (if_neg c265).symm.trans h
                              cases h
                        · replace h := (if_neg c259).symm.trans h
                          cases h
                    · replace h := (if_neg c211).symm.trans h
                      have b289 : ((Int.tmod (IntKind.i64.wrap ((Int.tmod t181 3) + 3)) 3) == 0) = false := Bool.eq_false_iff.2 c211
                      refine wc_else rfl b289 ?_
                      refine wc_seq ?_
                      refine wc_region ?_
                      refine wl_eql rfl rfl ?_
                      refine wl_assign (.bool ((Int.tmod (IntKind.i64.wrap ((Int.tmod t181 3) + 3)) 3) == 1)) rfl ?_
                      refine wl_nil ?_
                      refine qn ?_
                      by_cases c290 : ((Int.tmod (IntKind.i64.wrap ((Int.tmod t181 3) + 3)) 3) == 1) = true
                      · replace h := (if_pos c290).symm.trans h
                        refine wc_then rfl c290 ?_
                        refine wc_seq ?_
                        refine wc_region ?_
                        refine wl_loadb B174 ty26 ((ho193 5 rfl).trans z168) [v156, .int .i64 x158, .int .i64 x159] rfl rfl ?_
                        refine wl_move (.int .i64 (Int.tmod (IntKind.i64.wrap ((Int.tmod (IntKind.i64.wrap (Int.tdiv t181 3)) (l157.length : Int)) + (l157.length : Int))) (l157.length : Int))) rfl ?_
                        obtain ⟨t291, h292, h⟩ := Option.bind_eq_some_iff.1 h
                        refine wl_call [.agg #[v156, .int .i64 x158, .int .i64 x159], .int .i64 (Int.tmod (IntKind.i64.wrap ((Int.tmod (IntKind.i64.wrap (Int.tdiv t181 3)) (l157.length : Int)) + (l157.length : Int))) (l157.length : Int))] bod6 (mc rfl (mc rfl (mn _))) (wire_Twice.ok k163 fr164.wf (⟨l157, x158, x159⟩ : ApiNet) (Int.tmod (IntKind.i64.wrap ((Int.tmod (IntKind.i64.wrap (Int.tdiv t181 3)) (l157.length : Int)) + (l157.length : Int))) (l157.length : Int)) v156 r177 _ h292) ?_
                        rintro e293 w294 ⟨v297, hw295, rfl, s296, f298⟩
                        refine ⟨_, rfl, ?_⟩
                        have fr299 := fr164.then0 s296
                        refine wl_move (.tuple #[.agg #[v297, .int .i64 t291.1.Last, .int .i64 t291.1.Now], .int .i64 t291.2]) rfl ?_
                        refine wl_extract (vs := [.agg #[v297, .int .i64 t291.1.Last, .int .i64 t291.1.Now], .int .i64 t291.2]) (.agg #[v297, .int .i64 t291.1.Last, .int .i64 t291.1.Now]) rfl rfl ?_
                        refine wl_extract (vs := [.agg #[v297, .int .i64 t291.1.Last, .int .i64 t291.1.Now], .int .i64 t291.2]) (.int .i64 t291.2) rfl rfl ?_
                        refine wl_alloc fr299.wf fr299.g.size ty26 [.slice none 0 0, .int .i64 0, .int .i64 0] rfl ?_
                        intro b300 w301 s302 B303 g304
                        have B306 := (B174.step0 s296)
                        have n305 : b1 ≠ b300 := B306.ne g304
                        have B308 := (B175.step0 s296)
                        have n307 : b7 ≠ b300 := B308.ne g304
                        have B310 := (B176.step0 s296)
                        have n309 : b14 ≠ b300 := B310.ne g304
                        have fr311 := fr299.then0 s302
                        have f315 := f298.ext (s302.ext)
                        refine wl_store B303 fr311.wf ty26 rfl [v297, .int .i64 t291.1.Last, .int .i64 t291.1.Now] (cells_of (v := (.agg #[v297, .int .i64 t291.1.Last, .int .i64 t291.1.Now])) rfl rfl) rfl (Nat.le_of_ble_eq_true rfl) (one_all [v297, .int .i64 t291.1.Last, .int .i64 t291.1.Now] (by simp only [List.all_cons, List.all_nil, Bool.and_true, Bool.true_and, row_one f315] <;> rfl)) [v297, .int .i64 t291.1.Last, .int .i64 t291.1.Now] rfl ?_
                        intro w312 s313 B314
                        have fr316 := fr311.then s313 (fun _ e => Option.some.inj e ▸ B303.new)
                        refine wl_assign (.int .i64 t291.2) rfl ?_
                        refine wl_nil ?_
                        refine qn ?_
                        refine wc_seq ?_
                        refine wc_region ?_
                        refine wl_move (.int .i64 t291.2) rfl ?_
                        refine wl_eql rfl rfl ?_
                        refine wl_nil ?_
                        refine qn ?_
                        by_cases c317 : (t291.2 == 0) = true
                        · replace h := (if_pos c317).symm.trans h
                          refine wc_then rfl c317 ?_
                          refine wc_seq ?_
                          refine wc_region ?_
                          refine wl_loadb B314 ty26 rfl [v297, .int .i64 t291.1.Last, .int .i64 t291.1.Now] rfl rfl ?_
                          have B318 := ((B306.step0 s302).stepb s313 n305)
                          have f322 := f315.ext (s313.ext)
                          refine wl_store B318 fr316.wf ty26 ((ho193 5 rfl).trans z168) [v297, .int .i64 t291.1.Last, .int .i64 t291.1.Now] (cells_of (v := (.agg #[v297, .int .i64 t291.1.Last, .int .i64 t291.1.Now])) rfl rfl) rfl (Nat.le_of_ble_eq_true rfl) (one_all [v297, .int .i64 t291.1.Last, .int .i64 t291.1.Now] (by simp only [List.all_cons, List.all_nil, Bool.and_true, Bool.true_and, row_one f322] <;> rfl)) [v297, .int .i64 t291.1.Last, .int .i64 t291.1.Now] rfl ?_
                          intro w319 s320 B321
                          have fr323 := fr316.then s320 (fun _ e => Option.some.inj e ▸ B318.new)
                          refine wl_nil ?_
                          refine qn ?_
                          refine wc_region ?_
                          refine wl_move (.map (some b14)) ((ho193 7 rfl).trans z170) ?_
                          refine wl_move (.int .i64 t203.Id) rfl ?_
                          by_cases c324 : i64ok t203.Id
                          · replace h := (if_pos c324).symm.trans h
                            have B325 := (((B310.step0 s302).stepb s313 n309).stepb s320 (Ne.symm n19))
                            refine wl_looki B325 Try.underlying28 Try.underlying3 Try.underlying3 ty3 rfl rfl c324 ?_
                            refine wl_add rfl rfl ?_
                            by_cases c326 : i64ok t203.Id ∧ i64ok (IntKind.i64.wrap ((mint x160 t203.Id) + 1)) ∧ Maps.size x160 < 9223372036854775807
                            · replace h := (if_pos c326).symm.trans h
                              refine wl_puti B325 fr323.wf Try.underlying28 Try.underlying3 Try.underlying3 rfl rfl rfl c326.1 c326.2.1 c326.2.2 ?_
                              intro w327 s328 B329
                              have fr330 := fr323.then s328 (fun _ e => Option.some.inj e ▸ B325.new)
                              refine wl_nil ?_
                              refine bn ?_
                              refine bn ?_
                              refine qn ?_
                              refine wc_region ?_
                              refine wl_add ((ho193 71 rfl).trans z173) rfl ?_
                              refine wl_move (.int .i64 (IntKind.i64.wrap (x155 + 1))) rfl ?_
                              refine wl_nil ?_
                              refine qn ?_
                              have B331 := (B321.stepb s328 n19)
                              have B332 := ((((B308.step0 s302).stepb s313 n307).stepb s320 (Ne.symm n12)).stepb s328 n21)
                              have f333 := f322.ext (s320.ext.trans (s328.ext))
                              exact ⟨_, _, _, (IntKind.i64.wrap (x155 + 1)), v297, t291.1.Flight, t291.1.Last, t291.1.Now, (mputi x160 t203.Id (IntKind.i64.wrap ((mint x160 t203.Id) + 1))), rfl, (by omega), (by omega), fr330, (Ext.trans e165 (Ext.trans s296.ext (Ext.trans s302.ext (Ext.trans s313.ext (Ext.trans s320.ext s328.ext))))), ((ho193 5 rfl).trans z168), ((ho193 6 rfl).trans z169), ((ho193 7 rfl).trans z170), ((ho193 69 rfl).trans z171), ((ho193 70 rfl).trans z172), rfl, B331, B332, B329, f333, h⟩
                            · replace h := (if_neg c326).symm.trans h
                              cases h
                          · replace h := (if_neg c324).symm.trans h
                            cases h
                        · replace h := (if_neg c317).symm.trans h
                          have b334 : (t291.2 == 0) = false := Bool.eq_false_iff.2 c317
                          refine wc_else rfl b334 ?_
                          refine wc_skip ?_
                          refine bn ?_
                          refine bn ?_
                          refine qn ?_
                          refine wc_region ?_
                          refine wl_add ((ho193 71 rfl).trans z173) rfl ?_
                          refine wl_move (.int .i64 (IntKind.i64.wrap (x155 + 1))) rfl ?_
                          refine wl_nil ?_
                          refine qn ?_
                          have B335 := ((B306.step0 s302).stepb s313 n305)
                          have B336 := ((B308.step0 s302).stepb s313 n307)
                          have B337 := ((B310.step0 s302).stepb s313 n309)
                          have f338 := r177.ext (s296.ext.trans (s302.ext.trans (s313.ext)))
                          exact ⟨_, _, _, (IntKind.i64.wrap (x155 + 1)), v156, l157, x158, x159, x160, rfl, (by omega), (by omega), fr316, (Ext.trans e165 (Ext.trans s296.ext (Ext.trans s302.ext s313.ext))), ((ho193 5 rfl).trans z168), ((ho193 6 rfl).trans z169), ((ho193 7 rfl).trans z170), ((ho193 69 rfl).trans z171), ((ho193 70 rfl).trans z172), rfl, B335, B336, B337, f338, h⟩
                      · replace h := (if_neg c290).symm.trans h
                        have b339 : ((Int.tmod (IntKind.i64.wrap ((Int.tmod t181 3) + 3)) 3) == 1) = false := Bool.eq_false_iff.2 c290
                        refine wc_else rfl b339 ?_
                        refine wc_seq ?_
                        refine wc_region ?_
                        refine wl_loadb B174 ty26 ((ho193 5 rfl).trans z168) [v156, .int .i64 x158, .int .i64 x159] rfl rfl ?_
                        refine wl_move (.int .i64 (Int.tmod (IntKind.i64.wrap ((Int.tmod (IntKind.i64.wrap (Int.tdiv t181 3)) (l157.length : Int)) + (l157.length : Int))) (l157.length : Int))) rfl ?_
                        obtain ⟨t340, h341, h⟩ := Option.bind_eq_some_iff.1 h
                        refine wl_call [.agg #[v156, .int .i64 x158, .int .i64 x159], .int .i64 (Int.tmod (IntKind.i64.wrap ((Int.tmod (IntKind.i64.wrap (Int.tdiv t181 3)) (l157.length : Int)) + (l157.length : Int))) (l157.length : Int))] bod7 (mc rfl (mc rfl (mn _))) (wire_Lose.ok k163 fr164.wf (⟨l157, x158, x159⟩ : ApiNet) (Int.tmod (IntKind.i64.wrap ((Int.tmod (IntKind.i64.wrap (Int.tdiv t181 3)) (l157.length : Int)) + (l157.length : Int))) (l157.length : Int)) v156 r177 _ h341) ?_
                        rintro e342 w343 ⟨v346, hw344, rfl, s345, f347⟩
                        refine ⟨_, rfl, ?_⟩
                        have fr348 := fr164.then0 s345
                        refine wl_move (.tuple #[.agg #[v346, .int .i64 t340.1.Last, .int .i64 t340.1.Now], .int .i64 t340.2]) rfl ?_
                        refine wl_extract (vs := [.agg #[v346, .int .i64 t340.1.Last, .int .i64 t340.1.Now], .int .i64 t340.2]) (.agg #[v346, .int .i64 t340.1.Last, .int .i64 t340.1.Now]) rfl rfl ?_
                        refine wl_extract (vs := [.agg #[v346, .int .i64 t340.1.Last, .int .i64 t340.1.Now], .int .i64 t340.2]) (.int .i64 t340.2) rfl rfl ?_
                        refine wl_alloc fr348.wf fr348.g.size ty26 [.slice none 0 0, .int .i64 0, .int .i64 0] rfl ?_
                        intro b349 w350 s351 B352 g353
                        have B355 := (B174.step0 s345)
                        have n354 : b1 ≠ b349 := B355.ne g353
                        have B357 := (B175.step0 s345)
                        have n356 : b7 ≠ b349 := B357.ne g353
                        have B359 := (B176.step0 s345)
                        have n358 : b14 ≠ b349 := B359.ne g353
                        have fr360 := fr348.then0 s351
                        have f364 := f347.ext (s351.ext)
                        refine wl_store B352 fr360.wf ty26 rfl [v346, .int .i64 t340.1.Last, .int .i64 t340.1.Now] (cells_of (v := (.agg #[v346, .int .i64 t340.1.Last, .int .i64 t340.1.Now])) rfl rfl) rfl (Nat.le_of_ble_eq_true rfl) (one_all [v346, .int .i64 t340.1.Last, .int .i64 t340.1.Now] (by simp only [List.all_cons, List.all_nil, Bool.and_true, Bool.true_and, row_one f364] <;> rfl)) [v346, .int .i64 t340.1.Last, .int .i64 t340.1.Now] rfl ?_
                        intro w361 s362 B363
                        have fr365 := fr360.then s362 (fun _ e => Option.some.inj e ▸ B352.new)
                        refine wl_assign (.int .i64 t340.2) rfl ?_
                        refine wl_nil ?_
                        refine qn ?_
                        refine wc_seq ?_
                        refine wc_seq ?_
                        refine wc_region ?_
                        refine wl_move (.int .i64 t340.2) rfl ?_
                        refine wl_neq rfl rfl ?_
                        refine wl_nil ?_
                        refine qn ?_
                        by_cases c366 : (t340.2 != 0) = true
                        · replace h := (if_pos c366).symm.trans h
                          refine wc_then rfl c366 ?_
                          refine wc_seq ?_
                          refine wc_region ?_
                          refine wl_assign (.bool false) rfl ?_
                          refine wl_nil ?_
                          refine qn ?_
                          refine wc_ret ?_
                          refine qr ?_
                          refine bret ?_
                          refine bret ?_
                          refine qr ?_
                          refine qr ?_
                          refine bret ?_
                          refine qr ?_
                          cases h
                          refine end1 rfl (.tmp rfl .nil) ?_
                          exact ⟨_, rfl, fr365⟩
                        · replace h := (if_neg c366).symm.trans h
                          have b367 : (t340.2 != 0) = false := Bool.eq_false_iff.2 c366
                          refine wc_else rfl b367 ?_
                          refine wc_skip ?_
                          refine qn ?_
                          refine wc_seq ?_
                          refine wc_region ?_
                          refine wl_loadb B363 ty26 rfl [v346, .int .i64 t340.1.Last, .int .i64 t340.1.Now] rfl rfl ?_
                          have B368 := ((B355.step0 s351).stepb s362 n354)
                          have f372 := f364.ext (s362.ext)
                          refine wl_store B368 fr365.wf ty26 ((ho193 5 rfl).trans z168) [v346, .int .i64 t340.1.Last, .int .i64 t340.1.Now] (cells_of (v := (.agg #[v346, .int .i64 t340.1.Last, .int .i64 t340.1.Now])) rfl rfl) rfl (Nat.le_of_ble_eq_true rfl) (one_all [v346, .int .i64 t340.1.Last, .int .i64 t340.1.Now] (by simp only [List.all_cons, List.all_nil, Bool.and_true, Bool.true_and, row_one f372] <;> rfl)) [v346, .int .i64 t340.1.Last, .int .i64 t340.1.Now] rfl ?_
                          intro w369 s370 B371
                          have fr373 := fr365.then s370 (fun _ e => Option.some.inj e ▸ B368.new)
                          refine wl_nil ?_
                          refine qn ?_
                          refine wc_region ?_
                          refine wl_move (.map (some b14)) ((ho193 7 rfl).trans z170) ?_
                          refine wl_move (.int .i64 t203.Id) rfl ?_
                          by_cases c374 : i64ok t203.Id
                          · replace h := (if_pos c374).symm.trans h
                            have B375 := (((B359.step0 s351).stepb s362 n358).stepb s370 (Ne.symm n19))
                            refine wl_looki B375 Try.underlying28 Try.underlying3 Try.underlying3 ty3 rfl rfl c374 ?_
                            refine wl_sub rfl rfl ?_
                            by_cases c376 : i64ok t203.Id ∧ i64ok (IntKind.i64.wrap ((mint x160 t203.Id) - 1)) ∧ Maps.size x160 < 9223372036854775807
                            · replace h := (if_pos c376).symm.trans h
                              refine wl_puti B375 fr373.wf Try.underlying28 Try.underlying3 Try.underlying3 rfl rfl rfl c376.1 c376.2.1 c376.2.2 ?_
                              intro w377 s378 B379
                              have fr380 := fr373.then s378 (fun _ e => Option.some.inj e ▸ B375.new)
                              refine wl_nil ?_
                              refine bn ?_
                              refine bn ?_
                              refine qn ?_
                              refine wc_region ?_
                              refine wl_add ((ho193 71 rfl).trans z173) rfl ?_
                              refine wl_move (.int .i64 (IntKind.i64.wrap (x155 + 1))) rfl ?_
                              refine wl_nil ?_
                              refine qn ?_
                              have B381 := (B371.stepb s378 n19)
                              have B382 := ((((B357.step0 s351).stepb s362 n356).stepb s370 (Ne.symm n12)).stepb s378 n21)
                              have f383 := f372.ext (s370.ext.trans (s378.ext))
                              exact ⟨_, _, _, (IntKind.i64.wrap (x155 + 1)), v346, t340.1.Flight, t340.1.Last, t340.1.Now, (mputi x160 t203.Id (IntKind.i64.wrap ((mint x160 t203.Id) - 1))), rfl, (by omega), (by omega), fr380, (Ext.trans e165 (Ext.trans s345.ext (Ext.trans s351.ext (Ext.trans s362.ext (Ext.trans s370.ext s378.ext))))), ((ho193 5 rfl).trans z168), ((ho193 6 rfl).trans z169), ((ho193 7 rfl).trans z170), ((ho193 69 rfl).trans z171), ((ho193 70 rfl).trans z172), rfl, B381, B382, B379, f383, h⟩
                            · replace h := (if_neg c376).symm.trans h
                              cases h
                          · replace h := (if_neg c374).symm.trans h
                            cases h
                  · replace h := (if_neg c202).symm.trans h
                    cases h
                · replace h := (if_neg c201).symm.trans h
                  cases h
              · replace h := (if_neg c200).symm.trans h
                cases h
          · replace h := (if_neg c180).symm.trans h
            cases h
        · replace h := (if_neg c178).symm.trans h
          have b384 : (decide (x155 < (a1.length : Int))) = false := decide_eq_false c178
          refine wc_else rfl b384 ?_
          refine wc_exit ?_
          refine qe ?_
          refine qe ?_
          refine be ?_
          refine qn ?_
          exact ⟨_, _, _, v156, l157, x158, x159, x160, rfl, (by omega), (by omega), fr164, e165, z168, z170, B174, B176, r177, h⟩
    · rintro _ w385 ⟨_, hw386, k387, v146, l147, x148, x149, x150, rfl, hk390, hk391, fr388, e389, z392, z393, B394, B395, r396, h⟩
      rcases k387 with _ | k387
      · rw [consignorlaw13_WireOnce.j2] at h; cases h
      rw [consignorlaw13_WireOnce.j2] at h
      refine wc_seq ?_
      refine wc_seq ?_
      refine wc_region ?_
      refine wl_field fld26_0 z392 ?_
      refine wl_loadb1 B394 ty24 rfl (v146) rfl ?_
      obtain ⟨A397, c398, hv399⟩ := (r396).slice
      refine wl_len Try.underlying24 (show _ = Value.slice _ l147.length _ from (Eq.trans rfl hv399)) ?_
      refine wl_move (.int .i64 0) rfl ?_
      refine wl_nil ?_
      refine qn ?_
      refine wc_block ?_
      refine wc_loop (fun m a w => ∃ (σ : Nat → Value) (hw : Hw) (kq : Nat) (x400 : Int) (x401 : DM), a = mkA 205 σ ∧ kq ≤ m ∧ kq ≤ k387 ∧ Stp none w0 hw0 w hw ∧ Ext w385 hw386 w hw ∧ σ 5 = .pointer (some ⟨b1, 0, none⟩) ∧ σ 7 = .map (some b14) ∧ σ 180 = v146 ∧ σ 181 = .int .i64 (l147.length : Int) ∧ σ 182 = .int .i64 x400 ∧ Box w0.heap.size w hw b1 26 [v146, .int .i64 x148, .int .i64 x149] ∧ OwnM Try.prog 3 3 w0.heap.size w hw b14 x401 ∧ consignorlaw13_WireOnce.l4 kq l147 x148 x149 x400 x401 = some r) k387 ?_ ?_ ?_
      · skip
        exact ⟨_, _, _, 0, x150, rfl, (Nat.le_refl _), (Nat.le_refl _), fr388, (Ext.refl _ _), z392, z393, rfl, rfl, rfl, B394, B395, h⟩
      · rintro _ _ ⟨_, hw403, k404, x400, x401, rfl, hk407, hk408, fr405, e406, z409, z410, z411, z412, z413, B414, B415, h⟩; obtain rfl := Nat.le_zero.1 hk407; rw [consignorlaw13_WireOnce.l4] at h; cases h
      · rintro m4 _ w402 ⟨_, hw403, k404, x400, x401, rfl, hk407, hk408, fr405, e406, z409, z410, z411, z412, z413, B414, B415, h⟩
        rcases k404 with _ | k404
        · rw [consignorlaw13_WireOnce.l4] at h; cases h
        rw [consignorlaw13_WireOnce.l4] at h
        refine wc_seq ?_
        refine wc_region ?_
        refine wl_lss z413 z412 ?_
        refine wl_nil ?_
        refine qn ?_
        refine wc_seq ?_
        by_cases c416 : x400 < (l147.length : Int)
        · replace h := (if_pos c416).symm.trans h
          have b417 : (decide (x400 < (l147.length : Int))) = true := decide_eq_true c416
          refine wc_then rfl b417 ?_
          refine wc_skip ?_
          refine qn ?_
          refine wc_seq ?_
          refine wc_block ?_
          refine wc_seq ?_
          refine wc_region ?_
          by_cases c418 : 0 ≤ x400
          · replace h := (if_pos c418).symm.trans h
            obtain ⟨t419, h420, h⟩ := Option.bind_eq_some_iff.1 h
            have c421 := at_lt c418 h420
            have f427 := r396.ext (e406)
            refine wl_at Try.underlying24 ty33 f427 z411 z413 c418 c421 t419 h420 ?_
            rintro B422 o423 cs424 rfl l426
            refine wl_load ty33 rfl [.int .i64 t419.Id, .int .i64 t419.To, .string (bs t419.Body), .int .i64 t419.At] rfl l426.2 ?_
            refine wl_alloc fr405.wf fr405.g.size ty33 [.int .i64 0, .int .i64 0, .string (bs []), .int .i64 0] rfl ?_
            intro b428 w429 s430 B431 g432
            have n433 : b1 ≠ b428 := B414.ne g432
            have n434 : b14 ≠ b428 := B415.ne g432
            have fr435 := fr405.then0 s430
            refine wl_store B431 fr435.wf ty33 rfl [.int .i64 t419.Id, .int .i64 t419.To, .string (bs t419.Body), .int .i64 t419.At] (cells_of (v := (.agg #[.int .i64 t419.Id, .int .i64 t419.To, .string (bs t419.Body), .int .i64 t419.At])) rfl rfl) rfl (Nat.le_of_ble_eq_true rfl) (by intro u hu; simp only [List.mem_cons, List.not_mem_nil, or_false] at hu; rcases hu with rfl | rfl | rfl | rfl <;> rfl) [.int .i64 t419.Id, .int .i64 t419.To, .string (bs t419.Body), .int .i64 t419.At] rfl ?_
            intro w436 s437 B438
            have fr439 := fr435.then s437 (fun _ e => Option.some.inj e ▸ B431.new)
            refine wl_nil ?_
            refine qn ?_
            refine wc_region ?_
            refine wl_move (.map (some b14)) z410 ?_
            refine wl_field fld33_0 rfl ?_
            refine wl_loadb1 B438 ty3 rfl (.int .i64 t419.Id) rfl ?_
            by_cases c440 : i64ok t419.Id
            · replace h := (if_pos c440).symm.trans h
              have B441 := ((B415.step0 s430).stepb s437 n434)
              refine wl_looki B441 Try.underlying28 Try.underlying3 Try.underlying3 ty3 rfl rfl c440 ?_
              refine wl_sub rfl rfl ?_
              by_cases c442 : i64ok t419.Id ∧ i64ok (IntKind.i64.wrap ((mint x401 t419.Id) - 1)) ∧ Maps.size x401 < 9223372036854775807
              · replace h := (if_pos c442).symm.trans h
                refine wl_puti B441 fr439.wf Try.underlying28 Try.underlying3 Try.underlying3 rfl rfl rfl c442.1 c442.2.1 c442.2.2 ?_
                intro w443 s444 B445
                have fr446 := fr439.then s444 (fun _ e => Option.some.inj e ▸ B441.new)
                refine wl_nil ?_
                refine bn ?_
                refine qn ?_
                refine wc_region ?_
                refine wl_add z413 rfl ?_
                refine wl_move (.int .i64 (IntKind.i64.wrap (x400 + 1))) rfl ?_
                refine wl_nil ?_
                refine qn ?_
                have B447 := (((B414.step0 s430).stepb s437 n433).stepb s444 n19)
                exact ⟨_, _, _, (IntKind.i64.wrap (x400 + 1)), (mputi x401 t419.Id (IntKind.i64.wrap ((mint x401 t419.Id) - 1))), rfl, (by omega), (by omega), fr446, (Ext.trans e406 (Ext.trans s430.ext (Ext.trans s437.ext s444.ext))), z409, z410, z411, z412, rfl, B447, B445, h⟩
              · replace h := (if_neg c442).symm.trans h
                cases h
            · replace h := (if_neg c440).symm.trans h
              cases h
          · replace h := (if_neg c418).symm.trans h
            cases h
        · replace h := (if_neg c416).symm.trans h
          have b448 : (decide (x400 < (l147.length : Int))) = false := decide_eq_false c416
          refine wc_else rfl b448 ?_
          refine wc_exit ?_
          refine qe ?_
          refine qe ?_
          refine be ?_
          refine qn ?_
          refine wc_seq ?_
          refine wc_seq ?_
          refine wc_region ?_
          refine wl_move (.map (some b14)) z410 ?_
          obtain ⟨hp455, hq456, hm457⟩ : (entriesOf x401).Pairwise (fun p q => p.1 ≠ q.1) ∧ (∀ p ∈ entriesOf x401, WideAt.IsKeyLit p.1) ∧ ∃ es, x401 = .map es := by
            obtain ⟨es, h1, h2, h3⟩ := B415.own.entries (Maps.int_keyed Try.underlying3)
            rw [h1]; exact ⟨h2, h3, _, rfl⟩
          refine wl_range B415 fr405.wf Try.underlying28 Try.underlying3 rfl ?_
          intro b449 w450 hrg451 s452 g453 hz454
          have g458 := Nat.le_trans fr405.g.size g453
          have n459 : b1 ≠ b449 := B414.ne g453
          have n460 : b14 ≠ b449 := B415.ne g453
          have fr461 := fr405.then0 s452
          refine wl_nil ?_
          refine qn ?_
          refine wc_block ?_
          refine wc_loop (fun m a w => ∃ (σ : Nat → Value) (hw : Hw) (left : Lit → Bool) (cnt : Nat), a = mkA 205 σ ∧ cnt < m ∧ Stp none w0 hw0 w hw ∧ Ext w450 hw403 w hw ∧ σ 193 = .pointer (some ⟨b449, 0, none⟩) ∧ σ 5 = .pointer (some ⟨b1, 0, none⟩) ∧ Box w0.heap.size w hw b1 26 [v146, .int .i64 x148, .int .i64 x149] ∧ w.ranges Try.prog 3 (plainElem Try.prog 3) b14 b449 (Maps.size x401) x401 left cnt ∧ hw b449 = 0 ∧ Seen0 x401 left) (Maps.size x401 + 1) ?_ ?_ ?_
          have B462 := (B414.step0 s452)
          · exact ⟨_, _, _, _, rfl, Nat.lt_succ_self _, fr461, Ext.refl _ _, rfl, z409, B462, hrg451, hz454, seen0_start _ hq456⟩
          · rintro _ _ ⟨_, _, _, _, _, h0, _⟩; exact absurd h0 (Nat.not_lt_zero _)
          · rintro m463 _ w464 ⟨_, hw465, lf466, cn467, rfl, hk468, fr469, e470, z471, z472, B473, hrg474, hz475, sn476⟩
            refine wc_seq ?_
            refine wc_region ?_
            refine wl_nexti hrg474 fr469.wf hz475 Try.underlying3 Try.underlying3 z471 ?_ ?_
            · intro hl477
              replace h := (if_pos (seen0_all sn476 hl477 hm457)).symm.trans h
              refine wl_extract (vs := [.bool false]) (.bool false) rfl rfl ?_
              refine wl_nil ?_
              refine qn ?_
              refine wc_seq ?_
              refine wc_else rfl rfl ?_
              refine wc_exit ?_
              refine qe ?_
              refine qe ?_
              refine be ?_
              refine qn ?_
              refine wc_seq ?_
              refine wc_region ?_
              obtain ⟨t478, h479, h⟩ := Option.bind_eq_some_iff.1 h
              refine wl_call [] bod8 (mn _) (consignorlaw13_alive.ok k404 fr469.wf _ h479) ?_
              rintro e480 w481 ⟨hw482, rfl, s483⟩
              refine ⟨_, rfl, ?_⟩
              have fr484 := fr469.then0 s483
              refine wl_move (.bool t478) rfl ?_
              by_cases c485 : t478 = true
              · replace h := (if_pos c485).symm.trans h
                refine wl_on (yl rfl rfl rfl) c485 ?_
                have B486 := (B473.step0 s483)
                refine wl_loadb B486 ty26 z472 [v146, .int .i64 x148, .int .i64 x149] rfl rfl ?_
                refine wl_on (yl rfl rfl rfl) c485 ?_
                have f487 := r396.ext (e406.trans (s452.ext.trans (e470.trans (s483.ext))))
                obtain ⟨t488, h489, h⟩ := Option.bind_eq_some_iff.1 h
                refine wl_call [.agg #[v146, .int .i64 x148, .int .i64 x149]] bod9 (mc rfl (mn _)) (wire_Right.ok k404 fr484.wf (⟨l147, x148, x149⟩ : ApiNet) v146 f487 _ h489) ?_
                rintro e490 w491 ⟨hw492, rfl, s493⟩
                refine ⟨_, rfl, ?_⟩
                have fr494 := fr484.then0 s493
                refine wl_pick_t t478 (.bool t488) rfl c485 rfl ?_
                refine wl_assign (.bool t488) rfl ?_
                refine wl_nil ?_
                refine qn ?_
                refine wc_ret ?_
                cases h
                refine end1 rfl (.tmp rfl .nil) ?_
                exact ⟨_, rfl, fr494⟩
              · replace h := (if_neg c485).symm.trans h
                have b495 : t478 = false := Bool.eq_false_iff.2 c485
                refine wl_off (yl rfl rfl rfl) b495 ?_
                refine wl_off (yl rfl rfl rfl) b495 ?_
                refine wl_pick_f t478 (.bool false) rfl b495 rfl ?_
                refine wl_assign (.bool false) rfl ?_
                refine wl_nil ?_
                refine qn ?_
                refine wc_ret ?_
                cases h
                refine end1 rfl (.tmp rfl .nil) ?_
                exact ⟨_, rfl, fr484⟩
            · intro x496 x497 w498 cn499 hat500 hrg501 hlt502 s503 hen504
              have fr505 := fr469.then s503 (fun _ e => Option.some.inj e ▸ g458)
              refine wl_extract (vs := [.bool true, .int .i64 x496, .int .i64 x497]) (.bool true) rfl rfl ?_
              refine wl_nil ?_
              refine qn ?_
              refine wc_seq ?_
              refine wc_then rfl rfl ?_
              refine wc_skip ?_
              refine qn ?_
              refine wc_block ?_
              refine wc_seq ?_
              refine wc_region ?_
              refine wl_entry z471 hen504 ?_
              refine wl_extract (vs := [.int .i64 x496, .int .i64 x497]) (.int .i64 x497) rfl rfl ?_
              refine wl_assign (.int .i64 x497) rfl ?_
              refine wl_nil ?_
              refine qn ?_
              refine wc_seq ?_
              refine wc_region ?_
              refine wl_move (.int .i64 x497) rfl ?_
              refine wl_neq rfl rfl ?_
              refine wl_nil ?_
              refine qn ?_
              by_cases c506 : x497 = 0
              · subst c506
                have b507 : ((0 : Int) != 0) = false := rfl
                refine wc_else rfl b507 ?_
                refine wc_skip ?_
                refine bn ?_
                refine qn ?_
                have B508 := (B473.stepb s503 n459)
                exact ⟨_, _, _, _, rfl, (by omega), fr505, (Ext.trans e470 s503.ext), z471, z472, B508, hrg501, hz475, seen0_step sn476 hp455 hq456 hat500⟩
              · replace h := (if_neg (by rw [not_all0 hat500 c506]; decide)).symm.trans h
                have b509 : (x497 != 0) = true := by simpa using c506
                refine wc_then rfl b509 ?_
                refine wc_seq ?_
                refine wc_region ?_
                refine wl_assign (.bool false) rfl ?_
                refine wl_nil ?_
                refine qn ?_
                refine wc_ret ?_
                refine bret ?_
                refine qr ?_
                refine bret ?_
                refine qr ?_
                cases h
                refine end1 rfl (.tmp rfl .nil) ?_
                exact ⟨_, rfl, fr505⟩
end Go.Proofs.Ytgickiajobkooaa
