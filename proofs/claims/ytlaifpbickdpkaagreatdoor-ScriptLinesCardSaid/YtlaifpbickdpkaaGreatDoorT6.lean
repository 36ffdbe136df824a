/- What the program's functions compute, and that they compute it: one contract a function, written by gw.py (own work). -/
import Derived.Test.YtlaifpbickdpkaaGreatDoorT4
namespace Go.Proofs.YtlaifpbickdpkaaGreatDoor
open Go.RowKit
set_option linter.unusedVariables false
set_option linter.unusedSimpArgs false

theorem bod10 : Bod Tryz.prog 10 := fun _ _ => by kernel_rfl
theorem bod15 : Bod Tryz.prog 15 := fun _ _ => by kernel_rfl
theorem bod16 : Bod Tryz.prog 16 := fun _ _ => by kernel_rfl
theorem bod17 : Bod Tryz.prog 17 := fun _ _ => by kernel_rfl
theorem bod6 : Bod Tryz.prog 6 := fun _ _ => by kernel_rfl
theorem fdv24_2 (x0 x1 x2 : Value) (w : World) : (Instr.field 24 (.agg #[x0, x1, x2]) 2).run Tryz.prog w = .ok (x2) w := by kernel_rfl
/-! ### consignor/consignorlaw20.ScriptLines: function 5 -/
def consignorlaw20_ScriptLines.j0 : Nat → ApiPlan → ApiDeed → ((List UInt8) × Int) → ((List UInt8) × Int) → Bool → Option Bool
  | 0, _, _, _, _, _ => none
  | k + 1, t16, t57, t76, t527, x534 => if x534 = true then (some false) else ((consignorref20_IsDeed.f k t57).bind fun t1104 => (if ((!t1104) || ((t16.Deeds.length : Int) == 200)) = true then (some (t527.2 == 1)) else (if (t527.2 == 0) = true then ((consignorref20_Line.f k t57).bind fun t1124 => (if t76.1.length + t1124.length ≤ 9223372036854775807 then (if (t76.1 ++ t1124).length + ([10] : List UInt8).length ≤ 9223372036854775807 then (some (t527.1 == ((t76.1 ++ t1124) ++ ([10] : List UInt8)))) else none) else none)) else (some false))))
def consignorlaw20_ScriptLines.f (k : Nat) (a0 : ApiPlan) (a1 : ApiDeed) : Option Bool := (consignorlaw20_few.f k a0 205).bind fun t16 => ((consignorlaw20_few.f k (⟨0, 0, [a1]⟩ : ApiPlan) 1).bind fun t46 => ((t46.Deeds[Int.toNat 0]?).bind fun t57 => ((script_Print.f k t16).bind fun t76 => (if (t76.2 != 0) = true then ((consignorlaw20_alive.f k).bind fun t84 => (some (t84 && (t76.1 == [])))) else (if (([] : (List ApiDeed)).length + t16.Deeds.length) * 56 ≤ 140737488355328 then (if ((([] : (List ApiDeed)) ++ t16.Deeds).length + ([t57]).length) * 56 ≤ 140737488355328 then ((script_Print.f k (⟨t16.Quota, t16.Sectors, (([] : (List ApiDeed)) ++ t16.Deeds) ++ ([t57])⟩ : ApiPlan)).bind fun t527 => ((strings_Count.f k t76.1 ([10] : List UInt8)).bind fun t543 => (if (t543 != (IntKind.i64.wrap ((t16.Deeds.length : Int) + 1))) = true then (consignorlaw20_ScriptLines.j0 k t16 t57 t76 t527 true) else ((consignorlaw20_alive.f k).bind fun t811 => (consignorlaw20_ScriptLines.j0 k t16 t57 t76 t527 (!t811)))))) else none) else none)))))
set_option maxHeartbeats 1000000 in
theorem consignorlaw20_ScriptLines.ok (k : Nat) {w0 : World} {hw0 : Hw} (wf : Hwf w0 hw0) (a0 : ApiPlan) (a1 : ApiDeed) (v0_2 : Value) (q0_2 : Row KApiDeed w0 hw0 v0_2 a0.Deeds) (v1_1 : Value) (q1_1 : Row (Kint .i64) w0 hw0 v1_1 a1.Nums) (v1_2 : Value) (q1_2 : Row Kstr w0 hw0 v1_2 a1.Texts) (gl : Gl w0 hw0) (r : Bool) (h : consignorlaw20_ScriptLines.f k a0 a1 = some r) :
    Calls Tryz.prog 5 #[.agg #[.int .i64 a0.Quota, .int .i64 a0.Sectors, v0_2], .agg #[.int .i64 a1.Kind, v1_1, v1_2]] w0 fun e w' => ∃ (hw' : Hw), e = .returned (.bool r) ∧ Stp none w0 hw0 w' hw' := by
  have fr0 := Stp.refl none (w := w0) (hw := hw0) wf
  unfold consignorlaw20_ScriptLines.f at h
  refine enter (n := 78) Tryz.func5 rfl rfl (Nat.le_of_ble_eq_true rfl) ?_
  refine wc_seq ?_
  refine wc_region ?_
  refine wl_box fr0.wf fr0.g.size [.int .i64 a0.Quota, .int .i64 a0.Sectors, v0_2] (cells_of (v := (.agg #[.int .i64 a0.Quota, .int .i64 a0.Sectors, v0_2])) rfl rfl) ?_
  intro b1 w2 s3 B4 g5
  have fr6 := fr0.then0 s3
  refine wl_box fr6.wf fr6.g.size [.int .i64 a1.Kind, v1_1, v1_2] (cells_of (v := (.agg #[.int .i64 a1.Kind, v1_1, v1_2])) rfl rfl) ?_
  intro b7 w8 s9 B10 g11
  have n12 : b1 ≠ b7 := B4.ne g11
  have fr13 := fr6.then0 s9
  refine wl_assign (.bool false) rfl ?_
  refine wl_nil ?_
  refine qn ?_
  refine wc_seq ?_
  refine wc_region ?_
  have B14 := (B4.step0 s9)
  refine wl_loadb B14 ty24 rfl [.int .i64 a0.Quota, .int .i64 a0.Sectors, v0_2] rfl rfl ?_
  have f15 := q0_2.ext (s3.ext.trans (s9.ext))
  obtain ⟨t16, h17, h⟩ := Option.bind_eq_some_iff.1 h
  refine wl_call [.agg #[.int .i64 a0.Quota, .int .i64 a0.Sectors, v0_2], .int .i64 205] bod6 (mc rfl (mc rfl (mn _))) (consignorlaw20_few.ok k fr13.wf a0 205 v0_2 f15 _ h17) ?_
  rintro e18 w19 ⟨v22, hw20, rfl, s21, f23⟩
  refine ⟨_, rfl, ?_⟩
  have fr24 := fr13.then0 s21
  have B25 := (B14.step0 s21)
  refine wl_store B25 fr24.wf ty24 rfl [.int .i64 t16.Quota, .int .i64 t16.Sectors, v22] (cells_of (v := (.agg #[.int .i64 t16.Quota, .int .i64 t16.Sectors, v22])) rfl rfl) rfl (Nat.le_of_ble_eq_true rfl) (one_all [.int .i64 t16.Quota, .int .i64 t16.Sectors, v22] (by simp only [List.all_cons, List.all_nil, Bool.and_true, Bool.true_and, row_one f23] <;> rfl)) [.int .i64 t16.Quota, .int .i64 t16.Sectors, v22] rfl ?_
  intro w26 s27 B28
  have fr29 := fr24.then s27 (fun _ e => (Option.some.inj e ▸ B25.new))
  refine wl_nil ?_
  refine qn ?_
  refine wc_seq ?_
  refine wc_region ?_
  have B30 := ((B10.step0 s21).stepb s27 (Ne.symm n12))
  refine wl_loadb B30 ty41 rfl [.int .i64 a1.Kind, v1_1, v1_2] rfl rfl ?_
  have hb31 : ∀ w : World, (Instr.buildSlice 22 1 #[(0, .agg #[.int .i64 a1.Kind, v1_1, v1_2])]).run Tryz.prog w = .ok (.slice (some ⟨w.heap.size, 0, none⟩) 1 1) (w.alloc (.cells (List.toArray [.int .i64 a1.Kind, v1_1, v1_2]) 41)) := fun _ => by kernel_rfl
  have f32 := q1_1.ext (s3.ext.trans (s9.ext.trans (s21.ext.trans (s27.ext))))
  have f33 := q1_2.ext (s3.ext.trans (s9.ext.trans (s21.ext.trans (s27.ext))))
  refine wl_lit (KD := KApiDeed) fr29.wf [.int .i64 a1.Kind, v1_1, v1_2] [a1] (pc rfl (pn _ _)) (hb31 _) rfl (by decide) ⟨[.int .i64 a1.Kind, v1_1, v1_2], _, rfl, ⟨v1_1, v1_2, rfl, f32, f33⟩, rfl⟩ ?_
  intro v34 w35 hw36 O38 s37
  have n39 := own_new_lt O38 B28.lt
  have n40 := own_new_lt O38 B30.lt
  replace O38 := O38.low fr29.g.size
  have fr41 := fr29.then0 s37
  obtain ⟨A42, c43, hv44⟩ := (O38.row).slice
  have hb45 : ∀ w, (Instr.build 24 #[(2, v34)]).run Tryz.prog w = .ok (.agg (List.toArray [.int .i64 0, .int .i64 0, v34])) w := by intro  _; rw [hv44]; kernel_rfl
  refine wl_build [.int .i64 0, .int .i64 0, v34] (pc rfl (pn _ _)) (hb45 _) ?_
  obtain ⟨t46, h47, h⟩ := Option.bind_eq_some_iff.1 h
  have B52 := (B28.step0 s37)
  have B53 := (B30.step0 s37)
  refine wl_call [.agg #[.int .i64 0, .int .i64 0, v34], .int .i64 1] bod6 (mc rfl (mc rfl (mn _))) (consignorlaw20_few.ok k fr41.wf (⟨0, 0, [a1]⟩ : ApiPlan) 1 v34 O38.row _ h47) ?_
  rintro e48 w49 ⟨v54, hw50, rfl, s51, f55⟩
  refine ⟨_, rfl, ?_⟩
  have fr56 := fr41.then0 s51
  refine wl_fieldv (v54) rfl (fdv24_2 (Value.int .i64 t46.Quota) (Value.int .i64 t46.Sectors) v54 _) ?_
  obtain ⟨t57, h58, h⟩ := Option.bind_eq_some_iff.1 h
  have c59 := at_lt (by decide) h58
  refine wl_at Tryz.underlying22 ty41 f55 rfl rfl (by decide) c59 t57 h58 ?_
  rintro B60 o61 cs62 ⟨v65, v67, rfl, r66, r68⟩ l64
  refine wl_load ty41 rfl [.int .i64 t57.Kind, v65, v67] rfl l64.2 ?_
  have B69 := (B53.step0 s51)
  refine wl_store B69 fr56.wf ty41 rfl [.int .i64 t57.Kind, v65, v67] (cells_of (v := (.agg #[.int .i64 t57.Kind, v65, v67])) rfl rfl) rfl (Nat.le_of_ble_eq_true rfl) (one_all [.int .i64 t57.Kind, v65, v67] (by simp only [List.all_cons, List.all_nil, Bool.and_true, Bool.true_and, row_one r66, row_one r68] <;> rfl)) [.int .i64 t57.Kind, v65, v67] rfl ?_
  intro w70 s71 B72
  have fr73 := fr56.then s71 (fun _ e => (Option.some.inj e ▸ B69.new))
  refine wl_nil ?_
  refine qn ?_
  refine wc_seq ?_
  refine wc_region ?_
  have B74 := ((B52.step0 s51).stepb s71 n12)
  refine wl_loadb B74 ty24 rfl [.int .i64 t16.Quota, .int .i64 t16.Sectors, v22] rfl rfl ?_
  have f75 := f23.ext (s27.ext.trans (s37.ext.trans (s51.ext.trans (s71.ext))))
  obtain ⟨t76, h77, h⟩ := Option.bind_eq_some_iff.1 h
  refine wl_call [.agg #[.int .i64 t16.Quota, .int .i64 t16.Sectors, v22]] bod7 (mc rfl (mn _)) (script_Print.ok k fr73.wf t16 v22 f75 _ h77) ?_
  rintro e78 w79 ⟨hw80, rfl, s81⟩
  refine ⟨_, rfl, ?_⟩
  have fr82 := fr73.then0 s81
  refine wl_move (.tuple #[.string (bs t76.1), .int .i64 t76.2]) rfl ?_
  refine wl_extract (vs := [.string (bs t76.1), .int .i64 t76.2]) (.string (bs t76.1)) rfl rfl ?_
  refine wl_extract (vs := [.string (bs t76.1), .int .i64 t76.2]) (.int .i64 t76.2) rfl rfl ?_
  refine wl_assign (.string (bs t76.1)) rfl ?_
  refine wl_assign (.int .i64 t76.2) rfl ?_
  refine wl_nil ?_
  refine qn ?_
  refine wc_seq ?_
  refine wc_seq ?_
  refine wc_region ?_
  refine wl_move (.int .i64 t76.2) rfl ?_
  refine wl_neq rfl rfl ?_
  refine wl_nil ?_
  refine qn ?_
  by_cases c83 : (t76.2 != 0) = true
  · replace h := (if_pos c83).symm.trans h
    refine wc_then rfl c83 ?_
    refine wc_seq ?_
    refine wc_region ?_
    obtain ⟨t84, h85, h⟩ := Option.bind_eq_some_iff.1 h
    have B90 := (B74.step0 s81)
    have B91 := (B72.step0 s81)
    refine wl_call [] bod10 (mn _) (consignorlaw20_alive.ok k fr82.wf (Gl.of gl fr82) _ h85) ?_
    rintro e86 w87 ⟨hw88, rfl, s89⟩
    refine ⟨_, rfl, ?_⟩
    have fr92 := fr82.then0 s89
    refine wl_move (.bool t84) rfl ?_
    refine wl_join 3 [28, 29, 30] 30 (.bool (t84 && (t76.1 == []))) ?_ ?_
    · rcases Bool.eq_false_or_eq_true t84 with hcc | hcc
      · skip
        refine wl_on (yl rfl rfl rfl) hcc ?_
        refine wl_move (.string (bs t76.1)) rfl ?_
        refine wl_on (yl rfl rfl rfl) hcc ?_
        refine wl_eqls rfl rfl ?_
        refine wl_pick_t t84 (.bool (t76.1 == [])) rfl hcc rfl ?_
        refine wl_nil ?_
        exact qn ⟨rfl, _, rfl, (by repeat (first | exact Same.refl _ _ | refine Same.upd ?_ rfl)), (by rw [hcc]; rfl)⟩
      · skip
        refine wl_off (yl rfl rfl rfl) hcc ?_
        refine wl_off (yl rfl rfl rfl) hcc ?_
        refine wl_pick_f t84 (.bool false) rfl hcc rfl ?_
        refine wl_nil ?_
        exact qn ⟨rfl, _, rfl, (by repeat (first | exact Same.refl _ _ | refine Same.upd ?_ rfl)), (by rw [hcc]; rfl)⟩
    intro _ ho93 hv94
    refine wl_assign (.bool (t84 && (t76.1 == []))) hv94 ?_
    refine wl_nil ?_
    refine qn ?_
    refine wc_ret ?_
    refine qr ?_
    have h := Option.some.inj h
    subst h
    refine end1 rfl (.tmp rfl .nil) ?_
    exact ⟨_, rfl, fr92⟩
  · replace h := (if_neg c83).symm.trans h
    have b95 : (t76.2 != 0) = false := Bool.eq_false_iff.2 c83
    refine wc_else rfl b95 ?_
    refine wc_skip ?_
    refine qn ?_
    refine wc_seq ?_
    refine wc_region ?_
    have B96 := (B74.step0 s81)
    refine wl_loadb B96 ty24 rfl [.int .i64 t16.Quota, .int .i64 t16.Sectors, v22] rfl rfl ?_
    refine wl_alloc fr82.wf fr82.g.size ty24 [.int .i64 0, .int .i64 0, .slice none 0 0] rfl ?_
    intro b97 w98 s99 B100 g101
    have n102 : b1 ≠ b97 := B96.ne g101
    have B104 := (B72.step0 s81)
    have n103 : b7 ≠ b97 := B104.ne g101
    have O106 := (((O38.step0 s51).step s71 (.inr n40)).step0 s81)
    have n105 := O106.ne g101
    have fr107 := fr82.then0 s99
    have f111 := f75.ext (s81.ext.trans (s99.ext))
    refine wl_store B100 fr107.wf ty24 rfl [.int .i64 t16.Quota, .int .i64 t16.Sectors, v22] (cells_of (v := (.agg #[.int .i64 t16.Quota, .int .i64 t16.Sectors, v22])) rfl rfl) rfl (Nat.le_of_ble_eq_true rfl) (one_all [.int .i64 t16.Quota, .int .i64 t16.Sectors, v22] (by simp only [List.all_cons, List.all_nil, Bool.and_true, Bool.true_and, row_one f111] <;> rfl)) [.int .i64 t16.Quota, .int .i64 t16.Sectors, v22] rfl ?_
    intro w108 s109 B110
    have fr112 := fr107.then s109 (fun _ e => (Option.some.inj e ▸ B100.new))
    refine wl_nil ?_
    refine qn ?_
    refine wc_seq ?_
    have s113 := Stp.drew (w := w108) (hw := hw80) fr112.wf
    have fr114 := fr112.then0 s113
    have B115 := (((B96.step0 s99).stepb s109 n102).step0 s113)
    have B116 := (((B104.step0 s99).stepb s109 n103).step0 s113)
    have B117 := (B110.step0 s113)
    have O118 := (((O106.step0 s99).step s109 (.inr n105)).step0 s113)
    by_cases c132 : (([] : (List ApiDeed)).length + t16.Deeds.length) * 56 ≤ 140737488355328
    · replace h := (if_pos c132).symm.trans h
      by_cases c167 : ((([] : (List ApiDeed)) ++ t16.Deeds).length + ([t57]).length) * 56 ≤ 140737488355328
      · replace h := (if_pos c167).symm.trans h
        refine wc_any (hw := hw80) mixed [[], [], [1], [0, 2], [], [4], [3, 5, 3], [0, 1, 2, 3, 4, 5, 6], [7, 6, 6, 0, 1, 2, 3, 4, 5, 6]] [32, 33, 34, 35, 36, 37, 38, 39] (by kernel_rfl) (PhiOf [fun v w hw => Row KApiDeed w hw v [], fun v w hw => v = .pointer (some ⟨b1, 2, none⟩), fun v w hw => v = v22, fun v w hw => Row KApiDeed w hw v (([] : (List ApiDeed)) ++ t16.Deeds), fun v w hw => v = .agg #[.int .i64 t57.Kind, v65, v67], fun v w hw => Row KApiDeed w hw v ([t57]), fun v w hw => Row KApiDeed w hw v ((([] : (List ApiDeed)) ++ t16.Deeds) ++ ([t57])), fun v w hw => v = .pointer (some ⟨b97, 2, none⟩), fun v w hw => True]) (fun D σ w hw => Stp none w0 hw0 w hw ∧ Ext (w108).drew hw80 w hw ∧ Box w0.heap.size w hw b1 24 [.int .i64 t16.Quota, .int .i64 t16.Sectors, v22] ∧ Box w0.heap.size w hw b7 41 [.int .i64 t57.Kind, v65, v67] ∧ Box w0.heap.size w hw b97 24 [.int .i64 t16.Quota, .int .i64 t16.Sectors, (bif D 8 then (σ 38) else v22)] ∧ Own KApiDeed 41 w0.heap.size w hw v34 ([a1]) ∧ (bif D 6 then (Own KApiDeed 41 w0.heap.size w hw (σ 38) ((([] : (List ApiDeed)) ++ t16.Deeds) ++ ([t57])) ∧ Value.ownBlock (σ 38) ≠ some b1 ∧ Value.ownBlock (σ 38) ≠ some b7 ∧ Value.ownBlock (σ 38) ≠ some b97 ∧ Dis v34 (σ 38)) else (bif D 3 then (Own KApiDeed 41 w0.heap.size w hw (σ 35) (([] : (List ApiDeed)) ++ t16.Deeds) ∧ Value.ownBlock (σ 35) ≠ some b1 ∧ Value.ownBlock (σ 35) ≠ some b7 ∧ Value.ownBlock (σ 35) ≠ some b97 ∧ Dis v34 (σ 35)) else (bif D 0 then (Own KApiDeed 41 w0.heap.size w hw (σ 32) [] ∧ Value.ownBlock (σ 32) ≠ some b1 ∧ Value.ownBlock (σ 32) ≠ some b7 ∧ Value.ownBlock (σ 32) ≠ some b97 ∧ Dis v34 (σ 32)) else True)))) (stab_of (sbc (fun _ _ _ _ _ e h => Row.ext e h) (sbc (fun _ _ _ _ _ _ h => h) (sbc (fun _ _ _ _ _ _ h => h) (sbc (fun _ _ _ _ _ e h => Row.ext e h) (sbc (fun _ _ _ _ _ _ h => h) (sbc (fun _ _ _ _ _ e h => Row.ext e h) (sbc (fun _ _ _ _ _ e h => Row.ext e h) (sbc (fun _ _ _ _ _ _ h => h) (sbc (fun _ _ _ _ _ _ h => h) sbn)))))))))) ?_ (stc ?_ (stc ?_ (stc ?_ (stc ?_ (stc ?_ (stc ?_ (stc ?_ (stc ?_ (stc ?_ stn))))))))) ?_
        · exact ⟨fr114, Ext.refl _ _, B115, B116, B117, O118, trivial⟩
        · intro D191 σ192 w193 hw194 q195 q196 q197 q198 q199 q200
          obtain ⟨fr201, e202, C203, C204, C205, C206, C207⟩ := q195
          have C208 := bif_f (q200 6 rfl) C207
          have C209 := bif_f (q200 3 rfl) C208
          have B210 := C205
          rw [show D191 8 = false from (q200 8 rfl)] at B210
          have hb211 : ∀ w : World, (Instr.buildSlice 22 0 #[]).run Tryz.prog w = .ok (.slice (some ⟨w.heap.size, 0, none⟩) 0 0) (w.alloc (.cells (List.toArray []) 41)) := fun _ => by kernel_rfl
          refine wl_lit (KD := KApiDeed) fr201.wf [] [] (pn _ _) (hb211 _) rfl (by decide) rfl ?_
          intro v212 w213 hw214 O216 s215
          have n217 := own_new_lt O216 C203.lt
          have n218 := own_new_lt O216 C204.lt
          have n219 := own_new_lt O216 C205.lt
          have n220 := own_dis_new O216 C206
          replace O216 := O216.low fr201.g.size
          have fr221 := fr201.then0 s215
          refine wl_nil ?_
          have B222 := (C203.step0 s215)
          have B223 := (C204.step0 s215)
          have B224 := (C205.step0 s215)
          have O225 := (C206.step0 s215)
          exact qn ⟨_, _, rfl, s215.ext, ⟨fr221, e202.trans s215.ext, B222, B223, B224, O225, (bif_no (q200 6 rfl) (bif_no (q200 3 rfl) ⟨O216, n217, n218, n219, n220⟩))⟩, (aft_some O216.row)⟩
        · intro D226 σ227 w228 hw229 q230 q231 q232 q233 q234 q235
          obtain ⟨fr236, e237, C238, C239, C240, C241, C242⟩ := q230
          have B243 := C240
          rw [show D226 8 = false from (q235 8 rfl)] at B243
          refine wl_field fld24_2 ((q233 2 rfl).trans rfl) ?_
          refine wl_nil ?_
          exact qn ⟨_, _, rfl, (Ext.refl _ _), ⟨fr236, e237.trans (Ext.refl _ _), C238, C239, C240, C241, C242⟩, (aft_some rfl)⟩
        · intro D244 σ245 w246 hw247 q248 q249 q250 q251 q252 q253
          obtain ⟨fr254, e255, C256, C257, C258, C259, C260⟩ := q248
          have B261 := C258
          rw [show D244 8 = false from (q253 8 rfl)] at B261
          obtain ⟨⟨_, m262⟩, _⟩ := q250
          have z263 : (σ245 33) = .pointer (some ⟨b1, 2, none⟩) := m262
          refine wl_loadb1 C256 ty22 z263 (v22) rfl ?_
          refine wl_nil ?_
          exact qn ⟨_, _, rfl, (Ext.refl _ _), ⟨fr254, e255.trans (Ext.refl _ _), C256, C257, C258, C259, C260⟩, (aft_some rfl)⟩
        · intro D264 σ265 w266 hw267 q268 q269 q270 q271 q272 q273
          obtain ⟨fr274, e275, C276, C277, C278, C279, C280⟩ := q268
          have C281 := bif_f (q273 6 rfl) C280
          have C282 := bif_f q269 C281
          have O283 := bif_t (q272 0 rfl) C282
          obtain ⟨O283, n284, n285, n286, n287⟩ : Own KApiDeed 41 w0.heap.size w266 hw267 (σ265 32) [] ∧ Value.ownBlock (σ265 32) ≠ some b1 ∧ Value.ownBlock (σ265 32) ≠ some b7 ∧ Value.ownBlock (σ265 32) ≠ some b97 ∧ Dis v34 (σ265 32) := O283
          have B288 := C278
          rw [show D264 8 = false from (q273 8 rfl)] at B288
          obtain ⟨⟨_, m289⟩, ⟨_, m290⟩, _⟩ := q270
          have f291 : Row KApiDeed w266 hw267 (σ265 32) [] := m289
          have z292 : (σ265 34) = v22 := m290
          have c293 : ([] : (List ApiDeed)).length + t16.Deeds.length ≤ 9223372036854775807 := by omega
          have f300 := f111.ext (s109.ext.trans (s113.ext.trans (e275)))
          refine wl_app Tryz.underlying22 ty41 rfl (by decide) fr274.wf O283 f300 rfl z292 c293 c132 fr274.g.size ?_
          intro v294 w295 hw296 O298 s297 lo299
          have n301 := app_dis lo299 n287 C279
          have fr302 := fr274.then s297 (fun _ e => (O283.new _ e).1)
          have n303 := app_lt lo299 n284 C276.lt
          have n304 := app_lt lo299 n285 C277.lt
          have n305 := app_lt lo299 n286 C278.lt
          refine wl_nil ?_
          have B306 := (C276.step s297 (fun e => n284 e.symm))
          have B307 := (C277.step s297 (fun e => n285 e.symm))
          have B308 := (C278.step s297 (fun e => n286 e.symm))
          have O309 := (C279.stepo s297 n287)
          exact qn ⟨_, _, rfl, s297.ext, ⟨fr302, e275.trans s297.ext, B306, B307, B308, O309, (bif_no (q273 6 rfl) ⟨O298, n303, n304, n305, n301⟩)⟩, (aft_some O298.row)⟩
        · intro D310 σ311 w312 hw313 q314 q315 q316 q317 q318 q319
          obtain ⟨fr320, e321, C322, C323, C324, C325, C326⟩ := q314
          have B327 := C324
          rw [show D310 8 = false from (q319 8 rfl)] at B327
          refine wl_loadb C323 ty41 ((q317 3 rfl).trans rfl) [.int .i64 t57.Kind, v65, v67] rfl rfl ?_
          refine wl_nil ?_
          exact qn ⟨_, _, rfl, (Ext.refl _ _), ⟨fr320, e321.trans (Ext.refl _ _), C322, C323, C324, C325, C326⟩, (aft_some rfl)⟩
        · intro D328 σ329 w330 hw331 q332 q333 q334 q335 q336 q337
          obtain ⟨fr338, e339, C340, C341, C342, C343, C344⟩ := q332
          have B345 := C342
          rw [show D328 8 = false from (q337 8 rfl)] at B345
          obtain ⟨⟨_, m346⟩, _⟩ := q334
          have z347 : (σ329 36) = .agg #[.int .i64 t57.Kind, v65, v67] := m346
          have hb348 : ∀ w : World, (Instr.buildSlice 22 1 #[(0, .agg #[.int .i64 t57.Kind, v65, v67])]).run Tryz.prog w = .ok (.slice (some ⟨w.heap.size, 0, none⟩) 1 1) (w.alloc (.cells (List.toArray [.int .i64 t57.Kind, v65, v67]) 41)) := fun _ => by kernel_rfl
          have f349 := r66.ext (s71.ext.trans (s81.ext.trans (s99.ext.trans (s109.ext.trans (s113.ext.trans (e339))))))
          have f350 := r68.ext (s71.ext.trans (s81.ext.trans (s99.ext.trans (s109.ext.trans (s113.ext.trans (e339))))))
          refine wl_lit (KD := KApiDeed) fr338.wf [.int .i64 t57.Kind, v65, v67] [t57] (pc z347 (pn _ _)) (hb348 _) rfl (by decide) ⟨[.int .i64 t57.Kind, v65, v67], _, rfl, ⟨v65, v67, rfl, f349, f350⟩, rfl⟩ ?_
          intro v351 w352 hw353 O355 s354
          have n356 := own_new_lt O355 C340.lt
          have n357 := own_new_lt O355 C341.lt
          have n358 := own_new_lt O355 C342.lt
          have n359 := own_dis_new O355 C343
          replace O355 := O355.low fr338.g.size
          have fr360 := fr338.then0 s354
          refine wl_nil ?_
          have B361 := (C340.step0 s354)
          have B362 := (C341.step0 s354)
          have B363 := (C342.step0 s354)
          have O364 := (C343.step0 s354)
          exact qn ⟨_, _, rfl, s354.ext, ⟨fr360, e339.trans s354.ext, B361, B362, B363, O364, ((fun h => bif_mp (fun h => ⟨(h.1.step0 s354), h.2⟩) (fun h => bif_mp (fun h => ⟨(h.1.step0 s354), h.2⟩) (fun h => bif_mp (fun h => ⟨(h.1.step0 s354), h.2⟩) (fun h => h) h) h) h) C344)⟩, (aft_some O355.row)⟩
        · intro D365 σ366 w367 hw368 q369 q370 q371 q372 q373 q374
          obtain ⟨fr375, e376, C377, C378, C379, C380, C381⟩ := q369
          have C382 := bif_f q370 C381
          have O383 := bif_t (q373 3 rfl) C382
          obtain ⟨O383, n384, n385, n386, n387⟩ : Own KApiDeed 41 w0.heap.size w367 hw368 (σ366 35) (([] : (List ApiDeed)) ++ t16.Deeds) ∧ Value.ownBlock (σ366 35) ≠ some b1 ∧ Value.ownBlock (σ366 35) ≠ some b7 ∧ Value.ownBlock (σ366 35) ≠ some b97 ∧ Dis v34 (σ366 35) := O383
          have B388 := C379
          rw [show D365 8 = false from (q374 8 rfl)] at B388
          obtain ⟨⟨_, m389⟩, ⟨_, m390⟩, ⟨_, m391⟩, _⟩ := q371
          have f392 : Row KApiDeed w367 hw368 (σ366 35) (([] : (List ApiDeed)) ++ t16.Deeds) := m389
          have f393 : Row KApiDeed w367 hw368 (σ366 37) ([t57]) := m390
          have c394 : (([] : (List ApiDeed)) ++ t16.Deeds).length + ([t57]).length ≤ 9223372036854775807 := by omega
          refine wl_app Tryz.underlying22 ty41 rfl (by decide) fr375.wf O383 f393 rfl rfl c394 c167 fr375.g.size ?_
          intro v395 w396 hw397 O399 s398 lo400
          have n401 := app_dis lo400 n387 C380
          have fr402 := fr375.then s398 (fun _ e => (O383.new _ e).1)
          have n403 := app_lt lo400 n384 C377.lt
          have n404 := app_lt lo400 n385 C378.lt
          have n405 := app_lt lo400 n386 C379.lt
          refine wl_nil ?_
          have B406 := (C377.step s398 (fun e => n384 e.symm))
          have B407 := (C378.step s398 (fun e => n385 e.symm))
          have B408 := (C379.step s398 (fun e => n386 e.symm))
          have O409 := (C380.stepo s398 n387)
          exact qn ⟨_, _, rfl, s398.ext, ⟨fr402, e376.trans s398.ext, B406, B407, (Box.retype B408 (show [.int .i64 t16.Quota, .int .i64 t16.Sectors, (bif D365 8 then (σ366 38) else v22)] = [.int .i64 t16.Quota, .int .i64 t16.Sectors, (bif D365 8 then v395 else v22)] from by rw [show D365 8 = false from (q374 8 rfl)] <;> rfl)), O409, ⟨O399, n403, n404, n405, n401⟩⟩, (aft_some O399.row)⟩
        · intro D410 σ411 w412 hw413 q414 q415 q416 q417 q418 q419
          obtain ⟨fr420, e421, C422, C423, C424, C425, C426⟩ := q414
          have O427 := bif_t (q418 6 rfl) C426
          obtain ⟨O427, n428, n429, n430, n431⟩ : Own KApiDeed 41 w0.heap.size w412 hw413 (σ411 38) ((([] : (List ApiDeed)) ++ t16.Deeds) ++ ([t57])) ∧ Value.ownBlock (σ411 38) ≠ some b1 ∧ Value.ownBlock (σ411 38) ≠ some b7 ∧ Value.ownBlock (σ411 38) ≠ some b97 ∧ Dis v34 (σ411 38) := O427
          have B432 := C424
          rw [show D410 8 = false from (q419 8 rfl)] at B432
          obtain ⟨⟨_, m433⟩, ⟨_, m434⟩, ⟨_, m435⟩, ⟨_, m436⟩, ⟨_, m437⟩, ⟨_, m438⟩, ⟨_, m439⟩, _⟩ := q416
          have f440 : Row KApiDeed w412 hw413 (σ411 32) [] := m433
          have z441 : (σ411 33) = .pointer (some ⟨b1, 2, none⟩) := m434
          have z442 : (σ411 34) = v22 := m435
          have f443 : Row KApiDeed w412 hw413 (σ411 35) (([] : (List ApiDeed)) ++ t16.Deeds) := m436
          have z444 : (σ411 36) = .agg #[.int .i64 t57.Kind, v65, v67] := m437
          have f445 : Row KApiDeed w412 hw413 (σ411 37) ([t57]) := m438
          have f446 : Row KApiDeed w412 hw413 (σ411 38) ((([] : (List ApiDeed)) ++ t16.Deeds) ++ ([t57])) := m439
          refine wl_field fld24_2 ((q417 7 rfl).trans rfl) ?_
          refine wl_nil ?_
          exact qn ⟨_, _, rfl, (Ext.refl _ _), ⟨fr420, e421.trans (Ext.refl _ _), C422, C423, C424, C425, C426⟩, (aft_some rfl)⟩
        · intro D447 σ448 w449 hw450 q451 q452 q453 q454 q455 q456
          obtain ⟨fr457, e458, C459, C460, C461, C462, C463⟩ := q451
          have O464 := bif_t (q455 6 rfl) C463
          obtain ⟨O464, n465, n466, n467, n468⟩ : Own KApiDeed 41 w0.heap.size w449 hw450 (σ448 38) ((([] : (List ApiDeed)) ++ t16.Deeds) ++ ([t57])) ∧ Value.ownBlock (σ448 38) ≠ some b1 ∧ Value.ownBlock (σ448 38) ≠ some b7 ∧ Value.ownBlock (σ448 38) ≠ some b97 ∧ Dis v34 (σ448 38) := O464
          obtain ⟨⟨_, m469⟩, ⟨_, m470⟩, ⟨_, m471⟩, ⟨_, m472⟩, ⟨_, m473⟩, ⟨_, m474⟩, ⟨_, m475⟩, ⟨_, m476⟩, ⟨_, m477⟩, ⟨_, m478⟩, _⟩ := q453
          have z479 : (σ448 39) = .pointer (some ⟨b97, 2, none⟩) := m469
          have f480 : Row KApiDeed w449 hw450 (σ448 38) ((([] : (List ApiDeed)) ++ t16.Deeds) ++ ([t57])) := m470
          have f481 : Row KApiDeed w449 hw450 (σ448 32) [] := m472
          have z482 : (σ448 33) = .pointer (some ⟨b1, 2, none⟩) := m473
          have z483 : (σ448 34) = v22 := m474
          have f484 : Row KApiDeed w449 hw450 (σ448 35) (([] : (List ApiDeed)) ++ t16.Deeds) := m475
          have z485 : (σ448 36) = .agg #[.int .i64 t57.Kind, v65, v67] := m476
          have f486 : Row KApiDeed w449 hw450 (σ448 37) ([t57]) := m477
          refine wl_store C461 fr457.wf ty22 z479 [(σ448 38)] (cells_of (v := (σ448 38)) rfl (row_cells O464.row)) rfl (Nat.le_of_ble_eq_true rfl) (one_all [(σ448 38)] (by simp only [List.all_cons, List.all_nil, Bool.and_true, Bool.true_and, row_one O464.row] <;> rfl)) [.int .i64 t16.Quota, .int .i64 t16.Sectors, (σ448 38)] rfl ?_
          intro w487 s488 B489
          have fr490 := fr457.then s488 (fun _ e => (Option.some.inj e ▸ C461.new))
          refine wl_nil ?_
          have B491 := (C459.stepb s488 n102)
          have B492 := (C460.stepb s488 n103)
          have O493 := (C462.step s488 (.inr n105))
          exact qn ⟨_, _, rfl, s488.ext, ⟨fr490, e458.trans s488.ext, B491, B492, B489, O493, ((fun h => bif_mp (fun h => ⟨(h.1.step s488 (.inr h.2.2.2.1)), h.2⟩) (fun h => bif_mp (fun h => ⟨(h.1.step s488 (.inr h.2.2.2.1)), h.2⟩) (fun h => bif_mp (fun h => ⟨(h.1.step s488 (.inr h.2.2.2.1)), h.2⟩) (fun h => h) h) h) h) C463)⟩, aft_none⟩
        · intro σ494 w495 hw496 q497 q498 q499
          obtain ⟨fr500, e501, C502, C503, C504, C505, C506⟩ := q497
          have O507 := C506
          obtain ⟨O507, n508, n509, n510, n511⟩ : Own KApiDeed 41 w0.heap.size w495 hw496 (σ494 38) ((([] : (List ApiDeed)) ++ t16.Deeds) ++ ([t57])) ∧ Value.ownBlock (σ494 38) ≠ some b1 ∧ Value.ownBlock (σ494 38) ≠ some b7 ∧ Value.ownBlock (σ494 38) ≠ some b97 ∧ Dis v34 (σ494 38) := O507
          obtain ⟨m512, m513, m514, m515, m516, m517, m518, m519, m520, _⟩ := q499
          have B521 : Box w0.heap.size w495 hw496 b97 24 [.int .i64 t16.Quota, .int .i64 t16.Sectors, (σ494 38)] := C504
          have f522 : Row KApiDeed w495 hw496 (σ494 32) [] := m512
          have z523 : (σ494 34) = v22 := m514
          have f524 : Row KApiDeed w495 hw496 (σ494 35) (([] : (List ApiDeed)) ++ t16.Deeds) := m515
          have f525 : Row KApiDeed w495 hw496 (σ494 37) ([t57]) := m517
          have f526 : Row KApiDeed w495 hw496 (σ494 38) ((([] : (List ApiDeed)) ++ t16.Deeds) ++ ([t57])) := m518
          refine qn ?_
          refine wc_seq ?_
          refine wc_region ?_
          refine wl_loadb B521 ty24 ((q498 7 rfl).trans rfl) [.int .i64 t16.Quota, .int .i64 t16.Sectors, (σ494 38)] rfl rfl ?_
          obtain ⟨t527, h528, h⟩ := Option.bind_eq_some_iff.1 h
          refine wl_call [.agg #[.int .i64 t16.Quota, .int .i64 t16.Sectors, (σ494 38)]] bod7 (mc rfl (mn _)) (script_Print.ok k fr500.wf (⟨t16.Quota, t16.Sectors, (([] : (List ApiDeed)) ++ t16.Deeds) ++ ([t57])⟩ : ApiPlan) (σ494 38) O507.row _ h528) ?_
          rintro e529 w530 ⟨hw531, rfl, s532⟩
          refine ⟨_, rfl, ?_⟩
          have fr533 := fr500.then0 s532
          refine wl_move (.tuple #[.string (bs t527.1), .int .i64 t527.2]) rfl ?_
          refine wl_extract (vs := [.string (bs t527.1), .int .i64 t527.2]) (.string (bs t527.1)) rfl rfl ?_
          refine wl_extract (vs := [.string (bs t527.1), .int .i64 t527.2]) (.int .i64 t527.2) rfl rfl ?_
          refine wl_assign (.string (bs t527.1)) rfl ?_
          refine wl_assign (.int .i64 t527.2) rfl ?_
          refine wl_nil ?_
          refine qn ?_
          refine wc_seq ?_
          refine wc_cut (fun a w => ∃ (σ : Nat → Value) (hw : Hw) (kq : Nat) (x534 : Bool), a = mkA 78 σ ∧ kq ≤ k ∧ kq ≤ k ∧ Stp none w0 hw0 w hw ∧ Ext w530 hw531 w hw ∧ σ 2 = .pointer (some ⟨b1, 0, none⟩) ∧ σ 3 = .pointer (some ⟨b7, 0, none⟩) ∧ σ 5 = .string (bs t76.1) ∧ σ 8 = .string (bs t527.1) ∧ σ 9 = .int .i64 t527.2 ∧ σ 55 = .bool x534 ∧ Box w0.heap.size w hw b1 24 [.int .i64 t16.Quota, .int .i64 t16.Sectors, v22] ∧ Box w0.heap.size w hw b7 41 [.int .i64 t57.Kind, v65, v67] ∧ consignorlaw20_ScriptLines.j0 kq t16 t57 t76 t527 x534 = some r) ?_ ?_
          · skip
            have s535 := Stp.drew (w := w530) (hw := hw531) fr533.wf
            have fr536 := fr533.then0 s535
            have B537 := ((C502.step0 s532).step0 s535)
            have B538 := ((C503.step0 s532).step0 s535)
            have B539 := ((B521.step0 s532).step0 s535)
            have O540 := ((C505.step0 s532).step0 s535)
            have O541 := ((O507.step0 s532).step0 s535)
            obtain ⟨t543, h544, h⟩ := Option.bind_eq_some_iff.1 h
            by_cases c555 : (t543 != (IntKind.i64.wrap ((t16.Deeds.length : Int) + 1))) = true
            · replace h := (if_pos c555).symm.trans h
              refine wc_any (hw := hw531) mixed [[], [0], [], [2], [3], [4], [1, 5], [6, 1], [7, 7], [8, 7], [7, 9]] [45, 46, 47, 48, 49, 50, 51, 52, 53, 54, 55] (by kernel_rfl) (PhiOf [fun v w hw => v = .string (bs t76.1), fun v w hw => v = .int .i64 t543, fun v w hw => v = .pointer (some ⟨b1, 2, none⟩), fun v w hw => v = v22, fun v w hw => v = .int .i64 (t16.Deeds.length : Int), fun v w hw => v = .int .i64 (IntKind.i64.wrap ((t16.Deeds.length : Int) + 1)), fun v w hw => v = .bool (t543 != (IntKind.i64.wrap ((t16.Deeds.length : Int) + 1))), fun v w hw => v = .bool (t543 != (IntKind.i64.wrap ((t16.Deeds.length : Int) + 1))), fun v w hw => v = undef, fun v w hw => v = undef, fun v w hw => v = .bool true]) (fun D σ w hw => Stp none w0 hw0 w hw ∧ Ext (w530).drew hw531 w hw ∧ Box w0.heap.size w hw b1 24 [.int .i64 t16.Quota, .int .i64 t16.Sectors, v22] ∧ Box w0.heap.size w hw b7 41 [.int .i64 t57.Kind, v65, v67] ∧ Box w0.heap.size w hw b97 24 [.int .i64 t16.Quota, .int .i64 t16.Sectors, (σ494 38)] ∧ Own KApiDeed 41 w0.heap.size w hw v34 ([a1]) ∧ Own KApiDeed 41 w0.heap.size w hw (σ494 38) ((([] : (List ApiDeed)) ++ t16.Deeds) ++ ([t57]))) (stab_of (sbc (fun _ _ _ _ _ _ h => h) (sbc (fun _ _ _ _ _ _ h => h) (sbc (fun _ _ _ _ _ _ h => h) (sbc (fun _ _ _ _ _ _ h => h) (sbc (fun _ _ _ _ _ _ h => h) (sbc (fun _ _ _ _ _ _ h => h) (sbc (fun _ _ _ _ _ _ h => h) (sbc (fun _ _ _ _ _ _ h => h) (sbc (fun _ _ _ _ _ _ h => h) (sbc (fun _ _ _ _ _ _ h => h) (sbc (fun _ _ _ _ _ _ h => h) sbn)))))))))))) ?_ (stc ?_ (stc ?_ (stc ?_ (stc ?_ (stc ?_ (stc ?_ (stc ?_ (stc ?_ (stc ?_ (stc ?_ (stc ?_ stn))))))))))) ?_
              · exact ⟨fr536, Ext.refl _ _, B537, B538, B539, O540, O541⟩
              · intro D556 σ557 w558 hw559 q560 q561 q562 q563 q564 q565
                obtain ⟨fr566, e567, C568, C569, C570, C571, C572⟩ := q560
                refine wl_move (.string (bs t76.1)) ((q563 5 rfl).trans ((q498 5 rfl).trans rfl)) ?_
                refine wl_nil ?_
                exact qn ⟨_, _, rfl, (Ext.refl _ _), ⟨fr566, e567.trans (Ext.refl _ _), C568, C569, C570, C571, C572⟩, (aft_some rfl)⟩
              · intro D573 σ574 w575 hw576 q577 q578 q579 q580 q581 q582
                obtain ⟨fr583, e584, C585, C586, C587, C588, C589⟩ := q577
                obtain ⟨⟨_, m590⟩, _⟩ := q579
                have z591 : (σ574 45) = .string (bs t76.1) := m590
                refine wl_call [.string (bs t76.1), .string (bs ([10] : List UInt8))] bod15 (mc z591 (mc rfl (mn _))) (strings_Count.ok k fr583.wf t76.1 ([10] : List UInt8) (Gl.of gl fr583) _ h544) ?_
                rintro e592 w593 ⟨hw594, rfl, s595⟩
                refine ⟨_, rfl, ?_⟩
                have fr596 := fr583.then0 s595
                refine wl_nil ?_
                have B597 := (C585.step0 s595)
                have B598 := (C586.step0 s595)
                have B599 := (C587.step0 s595)
                have O600 := (C588.step0 s595)
                have O601 := (C589.step0 s595)
                exact qn ⟨_, _, rfl, s595.ext, ⟨fr596, e584.trans s595.ext, B597, B598, B599, O600, O601⟩, (aft_some rfl)⟩
              · intro D602 σ603 w604 hw605 q606 q607 q608 q609 q610 q611
                obtain ⟨fr612, e613, C614, C615, C616, C617, C618⟩ := q606
                refine wl_field fld24_2 ((q609 2 rfl).trans ((q498 2 rfl).trans rfl)) ?_
                refine wl_nil ?_
                exact qn ⟨_, _, rfl, (Ext.refl _ _), ⟨fr612, e613.trans (Ext.refl _ _), C614, C615, C616, C617, C618⟩, (aft_some rfl)⟩
              · intro D619 σ620 w621 hw622 q623 q624 q625 q626 q627 q628
                obtain ⟨fr629, e630, C631, C632, C633, C634, C635⟩ := q623
                obtain ⟨⟨_, m636⟩, _⟩ := q625
                have z637 : (σ620 47) = .pointer (some ⟨b1, 2, none⟩) := m636
                refine wl_loadb1 C631 ty22 z637 (v22) rfl ?_
                refine wl_nil ?_
                exact qn ⟨_, _, rfl, (Ext.refl _ _), ⟨fr629, e630.trans (Ext.refl _ _), C631, C632, C633, C634, C635⟩, (aft_some rfl)⟩
              · intro D638 σ639 w640 hw641 q642 q643 q644 q645 q646 q647
                obtain ⟨fr648, e649, C650, C651, C652, C653, C654⟩ := q642
                obtain ⟨⟨_, m655⟩, _⟩ := q644
                have z656 : (σ639 48) = v22 := m655
                have f660 := f111.ext (s109.ext.trans (s113.ext.trans (e501.trans (s532.ext.trans (s535.ext.trans (e649))))))
                obtain ⟨A657, c658, hv659⟩ := (f660).slice
                refine wl_len Tryz.underlying22 (show _ = Value.slice _ t16.Deeds.length _ from (Eq.trans z656 hv659)) ?_
                refine wl_nil ?_
                exact qn ⟨_, _, rfl, (Ext.refl _ _), ⟨fr648, e649.trans (Ext.refl _ _), C650, C651, C652, C653, C654⟩, (aft_some rfl)⟩
              · intro D661 σ662 w663 hw664 q665 q666 q667 q668 q669 q670
                obtain ⟨fr671, e672, C673, C674, C675, C676, C677⟩ := q665
                obtain ⟨⟨_, m678⟩, _⟩ := q667
                have z679 : (σ662 49) = .int .i64 (t16.Deeds.length : Int) := m678
                refine wl_add z679 rfl ?_
                refine wl_nil ?_
                exact qn ⟨_, _, rfl, (Ext.refl _ _), ⟨fr671, e672.trans (Ext.refl _ _), C673, C674, C675, C676, C677⟩, (aft_some rfl)⟩
              · intro D680 σ681 w682 hw683 q684 q685 q686 q687 q688 q689
                obtain ⟨fr690, e691, C692, C693, C694, C695, C696⟩ := q684
                obtain ⟨⟨_, m697⟩, ⟨_, m698⟩, _⟩ := q686
                have z699 : (σ681 46) = .int .i64 t543 := m697
                have z700 : (σ681 50) = .int .i64 (IntKind.i64.wrap ((t16.Deeds.length : Int) + 1)) := m698
                refine wl_neq z699 z700 ?_
                refine wl_nil ?_
                exact qn ⟨_, _, rfl, (Ext.refl _ _), ⟨fr690, e691.trans (Ext.refl _ _), C692, C693, C694, C695, C696⟩, (aft_some rfl)⟩
              · intro D701 σ702 w703 hw704 q705 q706 q707 q708 q709 q710
                obtain ⟨fr711, e712, C713, C714, C715, C716, C717⟩ := q705
                obtain ⟨⟨_, m718⟩, ⟨_, m719⟩, _⟩ := q707
                have z720 : (σ702 51) = .bool (t543 != (IntKind.i64.wrap ((t16.Deeds.length : Int) + 1))) := m718
                have z721 : (σ702 46) = .int .i64 t543 := m719
                refine wl_move (.bool (t543 != (IntKind.i64.wrap ((t16.Deeds.length : Int) + 1)))) z720 ?_
                refine wl_nil ?_
                exact qn ⟨_, _, rfl, (Ext.refl _ _), ⟨fr711, e712.trans (Ext.refl _ _), C713, C714, C715, C716, C717⟩, (aft_some rfl)⟩
              · intro D722 σ723 w724 hw725 q726 q727 q728 q729 q730 q731
                obtain ⟨fr732, e733, C734, C735, C736, C737, C738⟩ := q726
                obtain ⟨⟨_, m739⟩, ⟨_, m740⟩, _⟩ := q728
                have z741 : (σ723 52) = .bool (t543 != (IntKind.i64.wrap ((t16.Deeds.length : Int) + 1))) := m739
                have z742 : (σ723 52) = .bool (t543 != (IntKind.i64.wrap ((t16.Deeds.length : Int) + 1))) := m740
                refine wl_off (yl rfl rfl z742) c555 ?_
                refine wl_nil ?_
                exact qn ⟨_, _, rfl, (Ext.refl _ _), ⟨fr732, e733.trans (Ext.refl _ _), C734, C735, C736, C737, C738⟩, (aft_some rfl)⟩
              · intro D743 σ744 w745 hw746 q747 q748 q749 q750 q751 q752
                obtain ⟨fr753, e754, C755, C756, C757, C758, C759⟩ := q747
                obtain ⟨⟨_, m760⟩, ⟨_, m761⟩, _⟩ := q749
                have z762 : (σ744 52) = .bool (t543 != (IntKind.i64.wrap ((t16.Deeds.length : Int) + 1))) := m761
                refine wl_off (yl rfl rfl z762) c555 ?_
                refine wl_nil ?_
                exact qn ⟨_, _, rfl, (Ext.refl _ _), ⟨fr753, e754.trans (Ext.refl _ _), C755, C756, C757, C758, C759⟩, (aft_some rfl)⟩
              · intro D763 σ764 w765 hw766 q767 q768 q769 q770 q771 q772
                obtain ⟨fr773, e774, C775, C776, C777, C778, C779⟩ := q767
                obtain ⟨⟨_, m780⟩, ⟨_, m781⟩, _⟩ := q769
                have z782 : (σ764 52) = .bool (t543 != (IntKind.i64.wrap ((t16.Deeds.length : Int) + 1))) := m780
                have z783 : (σ764 54) = undef := m781
                refine wl_pick_t (t543 != (IntKind.i64.wrap ((t16.Deeds.length : Int) + 1))) (.bool true) z782 c555 rfl ?_
                refine wl_nil ?_
                exact qn ⟨_, _, rfl, (Ext.refl _ _), ⟨fr773, e774.trans (Ext.refl _ _), C775, C776, C777, C778, C779⟩, (aft_some rfl)⟩
              · intro σ784 w785 hw786 q787 q788 q789
                obtain ⟨fr790, e791, C792, C793, C794, C795, C796⟩ := q787
                obtain ⟨m797, m798, m799, m800, m801, m802, m803, m804, m805, m806, m807, _⟩ := q789
                have z808 : (σ784 48) = v22 := m800
                have z809 : (σ784 55) = .bool true := m807
                refine qn ?_
                exact ⟨_, _, _, true, rfl, (by omega), (by omega), fr790, (Ext.trans s535.ext e791), ((q788 2 rfl).trans ((q498 2 rfl).trans rfl)), ((q788 3 rfl).trans ((q498 3 rfl).trans rfl)), ((q788 5 rfl).trans ((q498 5 rfl).trans rfl)), ((q788 8 rfl).trans rfl), ((q788 9 rfl).trans rfl), z809, C792, C793, h⟩
            · replace h := (if_neg c555).symm.trans h
              have b810 : (t543 != (IntKind.i64.wrap ((t16.Deeds.length : Int) + 1))) = false := Bool.eq_false_iff.2 c555
              obtain ⟨t811, h812, h⟩ := Option.bind_eq_some_iff.1 h
              refine wc_any (hw := hw531) mixed [[], [0], [], [2], [3], [4], [1, 5], [6, 1], [7, 7], [8, 7], [7, 9]] [45, 46, 47, 48, 49, 50, 51, 52, 53, 54, 55] (by kernel_rfl) (PhiOf [fun v w hw => v = .string (bs t76.1), fun v w hw => v = .int .i64 t543, fun v w hw => v = .pointer (some ⟨b1, 2, none⟩), fun v w hw => v = v22, fun v w hw => v = .int .i64 (t16.Deeds.length : Int), fun v w hw => v = .int .i64 (IntKind.i64.wrap ((t16.Deeds.length : Int) + 1)), fun v w hw => v = .bool (t543 != (IntKind.i64.wrap ((t16.Deeds.length : Int) + 1))), fun v w hw => v = .bool (t543 != (IntKind.i64.wrap ((t16.Deeds.length : Int) + 1))), fun v w hw => v = .bool t811, fun v w hw => v = .bool (!t811), fun v w hw => v = .bool (!t811)]) (fun D σ w hw => Stp none w0 hw0 w hw ∧ Ext (w530).drew hw531 w hw ∧ Box w0.heap.size w hw b1 24 [.int .i64 t16.Quota, .int .i64 t16.Sectors, v22] ∧ Box w0.heap.size w hw b7 41 [.int .i64 t57.Kind, v65, v67] ∧ Box w0.heap.size w hw b97 24 [.int .i64 t16.Quota, .int .i64 t16.Sectors, (σ494 38)] ∧ Own KApiDeed 41 w0.heap.size w hw v34 ([a1]) ∧ Own KApiDeed 41 w0.heap.size w hw (σ494 38) ((([] : (List ApiDeed)) ++ t16.Deeds) ++ ([t57]))) (stab_of (sbc (fun _ _ _ _ _ _ h => h) (sbc (fun _ _ _ _ _ _ h => h) (sbc (fun _ _ _ _ _ _ h => h) (sbc (fun _ _ _ _ _ _ h => h) (sbc (fun _ _ _ _ _ _ h => h) (sbc (fun _ _ _ _ _ _ h => h) (sbc (fun _ _ _ _ _ _ h => h) (sbc (fun _ _ _ _ _ _ h => h) (sbc (fun _ _ _ _ _ _ h => h) (sbc (fun _ _ _ _ _ _ h => h) (sbc (fun _ _ _ _ _ _ h => h) sbn)))))))))))) ?_ (stc ?_ (stc ?_ (stc ?_ (stc ?_ (stc ?_ (stc ?_ (stc ?_ (stc ?_ (stc ?_ (stc ?_ (stc ?_ stn))))))))))) ?_
              · exact ⟨fr536, Ext.refl _ _, B537, B538, B539, O540, O541⟩
              · intro D820 σ821 w822 hw823 q824 q825 q826 q827 q828 q829
                obtain ⟨fr830, e831, C832, C833, C834, C835, C836⟩ := q824
                refine wl_move (.string (bs t76.1)) ((q827 5 rfl).trans ((q498 5 rfl).trans rfl)) ?_
                refine wl_nil ?_
                exact qn ⟨_, _, rfl, (Ext.refl _ _), ⟨fr830, e831.trans (Ext.refl _ _), C832, C833, C834, C835, C836⟩, (aft_some rfl)⟩
              · intro D837 σ838 w839 hw840 q841 q842 q843 q844 q845 q846
                obtain ⟨fr847, e848, C849, C850, C851, C852, C853⟩ := q841
                obtain ⟨⟨_, m854⟩, _⟩ := q843
                have z855 : (σ838 45) = .string (bs t76.1) := m854
                refine wl_call [.string (bs t76.1), .string (bs ([10] : List UInt8))] bod15 (mc z855 (mc rfl (mn _))) (strings_Count.ok k fr847.wf t76.1 ([10] : List UInt8) (Gl.of gl fr847) _ h544) ?_
                rintro e856 w857 ⟨hw858, rfl, s859⟩
                refine ⟨_, rfl, ?_⟩
                have fr860 := fr847.then0 s859
                refine wl_nil ?_
                have B861 := (C849.step0 s859)
                have B862 := (C850.step0 s859)
                have B863 := (C851.step0 s859)
                have O864 := (C852.step0 s859)
                have O865 := (C853.step0 s859)
                exact qn ⟨_, _, rfl, s859.ext, ⟨fr860, e848.trans s859.ext, B861, B862, B863, O864, O865⟩, (aft_some rfl)⟩
              · intro D866 σ867 w868 hw869 q870 q871 q872 q873 q874 q875
                obtain ⟨fr876, e877, C878, C879, C880, C881, C882⟩ := q870
                refine wl_field fld24_2 ((q873 2 rfl).trans ((q498 2 rfl).trans rfl)) ?_
                refine wl_nil ?_
                exact qn ⟨_, _, rfl, (Ext.refl _ _), ⟨fr876, e877.trans (Ext.refl _ _), C878, C879, C880, C881, C882⟩, (aft_some rfl)⟩
              · intro D883 σ884 w885 hw886 q887 q888 q889 q890 q891 q892
                obtain ⟨fr893, e894, C895, C896, C897, C898, C899⟩ := q887
                obtain ⟨⟨_, m900⟩, _⟩ := q889
                have z901 : (σ884 47) = .pointer (some ⟨b1, 2, none⟩) := m900
                refine wl_loadb1 C895 ty22 z901 (v22) rfl ?_
                refine wl_nil ?_
                exact qn ⟨_, _, rfl, (Ext.refl _ _), ⟨fr893, e894.trans (Ext.refl _ _), C895, C896, C897, C898, C899⟩, (aft_some rfl)⟩
              · intro D902 σ903 w904 hw905 q906 q907 q908 q909 q910 q911
                obtain ⟨fr912, e913, C914, C915, C916, C917, C918⟩ := q906
                obtain ⟨⟨_, m919⟩, _⟩ := q908
                have z920 : (σ903 48) = v22 := m919
                have f924 := f111.ext (s109.ext.trans (s113.ext.trans (e501.trans (s532.ext.trans (s535.ext.trans (e913))))))
                obtain ⟨A921, c922, hv923⟩ := (f924).slice
                refine wl_len Tryz.underlying22 (show _ = Value.slice _ t16.Deeds.length _ from (Eq.trans z920 hv923)) ?_
                refine wl_nil ?_
                exact qn ⟨_, _, rfl, (Ext.refl _ _), ⟨fr912, e913.trans (Ext.refl _ _), C914, C915, C916, C917, C918⟩, (aft_some rfl)⟩
              · intro D925 σ926 w927 hw928 q929 q930 q931 q932 q933 q934
                obtain ⟨fr935, e936, C937, C938, C939, C940, C941⟩ := q929
                obtain ⟨⟨_, m942⟩, _⟩ := q931
                have z943 : (σ926 49) = .int .i64 (t16.Deeds.length : Int) := m942
                refine wl_add z943 rfl ?_
                refine wl_nil ?_
                exact qn ⟨_, _, rfl, (Ext.refl _ _), ⟨fr935, e936.trans (Ext.refl _ _), C937, C938, C939, C940, C941⟩, (aft_some rfl)⟩
              · intro D944 σ945 w946 hw947 q948 q949 q950 q951 q952 q953
                obtain ⟨fr954, e955, C956, C957, C958, C959, C960⟩ := q948
                obtain ⟨⟨_, m961⟩, ⟨_, m962⟩, _⟩ := q950
                have z963 : (σ945 46) = .int .i64 t543 := m961
                have z964 : (σ945 50) = .int .i64 (IntKind.i64.wrap ((t16.Deeds.length : Int) + 1)) := m962
                refine wl_neq z963 z964 ?_
                refine wl_nil ?_
                exact qn ⟨_, _, rfl, (Ext.refl _ _), ⟨fr954, e955.trans (Ext.refl _ _), C956, C957, C958, C959, C960⟩, (aft_some rfl)⟩
              · intro D965 σ966 w967 hw968 q969 q970 q971 q972 q973 q974
                obtain ⟨fr975, e976, C977, C978, C979, C980, C981⟩ := q969
                obtain ⟨⟨_, m982⟩, ⟨_, m983⟩, _⟩ := q971
                have z984 : (σ966 51) = .bool (t543 != (IntKind.i64.wrap ((t16.Deeds.length : Int) + 1))) := m982
                have z985 : (σ966 46) = .int .i64 t543 := m983
                refine wl_move (.bool (t543 != (IntKind.i64.wrap ((t16.Deeds.length : Int) + 1)))) z984 ?_
                refine wl_nil ?_
                exact qn ⟨_, _, rfl, (Ext.refl _ _), ⟨fr975, e976.trans (Ext.refl _ _), C977, C978, C979, C980, C981⟩, (aft_some rfl)⟩
              · intro D986 σ987 w988 hw989 q990 q991 q992 q993 q994 q995
                obtain ⟨fr996, e997, C998, C999, C1000, C1001, C1002⟩ := q990
                obtain ⟨⟨_, m1003⟩, ⟨_, m1004⟩, _⟩ := q992
                have z1005 : (σ987 52) = .bool (t543 != (IntKind.i64.wrap ((t16.Deeds.length : Int) + 1))) := m1003
                have z1006 : (σ987 52) = .bool (t543 != (IntKind.i64.wrap ((t16.Deeds.length : Int) + 1))) := m1004
                refine wl_on (yl rfl rfl z1006) b810 ?_
                refine wl_call [] bod10 (mn _) (consignorlaw20_alive.ok k fr996.wf (Gl.of gl fr996) _ h812) ?_
                rintro e1007 w1008 ⟨hw1009, rfl, s1010⟩
                refine ⟨_, rfl, ?_⟩
                have fr1011 := fr996.then0 s1010
                refine wl_nil ?_
                have B1012 := (C998.step0 s1010)
                have B1013 := (C999.step0 s1010)
                have B1014 := (C1000.step0 s1010)
                have O1015 := (C1001.step0 s1010)
                have O1016 := (C1002.step0 s1010)
                exact qn ⟨_, _, rfl, s1010.ext, ⟨fr1011, e997.trans s1010.ext, B1012, B1013, B1014, O1015, O1016⟩, (aft_some rfl)⟩
              · intro D1017 σ1018 w1019 hw1020 q1021 q1022 q1023 q1024 q1025 q1026
                obtain ⟨fr1027, e1028, C1029, C1030, C1031, C1032, C1033⟩ := q1021
                obtain ⟨⟨_, m1034⟩, ⟨_, m1035⟩, _⟩ := q1023
                have z1036 : (σ1018 52) = .bool (t543 != (IntKind.i64.wrap ((t16.Deeds.length : Int) + 1))) := m1035
                have z1037 : (σ1018 53) = .bool t811 := m1034
                refine wl_on (yl rfl rfl z1036) b810 ?_
                refine wl_not z1037 ?_
                refine wl_nil ?_
                exact qn ⟨_, _, rfl, (Ext.refl _ _), ⟨fr1027, e1028.trans (Ext.refl _ _), C1029, C1030, C1031, C1032, C1033⟩, (aft_some rfl)⟩
              · intro D1038 σ1039 w1040 hw1041 q1042 q1043 q1044 q1045 q1046 q1047
                obtain ⟨fr1048, e1049, C1050, C1051, C1052, C1053, C1054⟩ := q1042
                obtain ⟨⟨_, m1055⟩, ⟨_, m1056⟩, _⟩ := q1044
                have z1057 : (σ1039 52) = .bool (t543 != (IntKind.i64.wrap ((t16.Deeds.length : Int) + 1))) := m1055
                have z1058 : (σ1039 54) = .bool (!t811) := m1056
                refine wl_pick_f (t543 != (IntKind.i64.wrap ((t16.Deeds.length : Int) + 1))) (.bool (!t811)) z1057 b810 z1058 ?_
                refine wl_nil ?_
                exact qn ⟨_, _, rfl, (Ext.refl _ _), ⟨fr1048, e1049.trans (Ext.refl _ _), C1050, C1051, C1052, C1053, C1054⟩, (aft_some rfl)⟩
              · intro σ1059 w1060 hw1061 q1062 q1063 q1064
                obtain ⟨fr1065, e1066, C1067, C1068, C1069, C1070, C1071⟩ := q1062
                obtain ⟨m1072, m1073, m1074, m1075, m1076, m1077, m1078, m1079, m1080, m1081, m1082, _⟩ := q1064
                have z1083 : (σ1059 48) = v22 := m1075
                have z1084 : (σ1059 55) = .bool (!t811) := m1082
                refine qn ?_
                exact ⟨_, _, _, (!t811), rfl, (by omega), (by omega), fr1065, (Ext.trans s535.ext e1066), ((q1063 2 rfl).trans ((q498 2 rfl).trans rfl)), ((q1063 3 rfl).trans ((q498 3 rfl).trans rfl)), ((q1063 5 rfl).trans ((q498 5 rfl).trans rfl)), ((q1063 8 rfl).trans rfl), ((q1063 9 rfl).trans rfl), z1084, C1067, C1068, h⟩
          · rintro _ w1085 ⟨_, hw1086, k1087, x534, rfl, hk1090, hk1091, fr1088, e1089, z1092, z1093, z1094, z1095, z1096, z1097, B1098, B1099, h⟩
            rcases k1087 with _ | k1087
            · rw [consignorlaw20_ScriptLines.j0] at h; cases h
            rw [consignorlaw20_ScriptLines.j0] at h
            by_cases c1100 : x534 = true
            · replace h := (if_pos c1100).symm.trans h
              refine wc_then z1097 c1100 ?_
              refine wc_seq ?_
              refine wc_region ?_
              refine wl_assign (.bool false) rfl ?_
              refine wl_nil ?_
              refine qn ?_
              refine wc_ret ?_
              refine qr ?_
              have h := Option.some.inj h
              subst h
              refine end1 rfl (.tmp rfl .nil) ?_
              exact ⟨_, rfl, fr1088⟩
            · replace h := (if_neg c1100).symm.trans h
              have b1101 : x534 = false := Bool.eq_false_iff.2 c1100
              refine wc_else z1097 b1101 ?_
              refine wc_skip ?_
              refine qn ?_
              refine wc_seq ?_
              refine wc_seq ?_
              refine wc_region ?_
              refine wl_loadb B1099 ty41 z1093 [.int .i64 t57.Kind, v65, v67] rfl rfl ?_
              have f1102 := r66.ext (s71.ext.trans (s81.ext.trans (s99.ext.trans (s109.ext.trans (s113.ext.trans (e501.trans (s532.ext.trans (e1089))))))))
              have f1103 := r68.ext (s71.ext.trans (s81.ext.trans (s99.ext.trans (s109.ext.trans (s113.ext.trans (e501.trans (s532.ext.trans (e1089))))))))
              obtain ⟨t1104, h1105, h⟩ := Option.bind_eq_some_iff.1 h
              refine wl_call [.agg #[.int .i64 t57.Kind, v65, v67]] bod16 (mc rfl (mn _)) (consignorref20_IsDeed.ok k1087 fr1088.wf t57 v65 f1102 v67 f1103 _ h1105) ?_
              rintro e1106 w1107 ⟨hw1108, rfl, s1109⟩
              refine ⟨_, rfl, ?_⟩
              have fr1110 := fr1088.then0 s1109
              refine wl_not rfl ?_
              refine wl_move (.bool (!t1104)) rfl ?_
              refine wl_join 5 [60, 61, 62, 63, 64] 64 (.bool ((!t1104) || ((t16.Deeds.length : Int) == 200))) ?_ ?_
              · rcases Bool.eq_false_or_eq_true (!t1104) with hcc | hcc
                · skip
                  refine wl_off (yl rfl rfl rfl) hcc ?_
                  refine wl_off (yl rfl rfl rfl) hcc ?_
                  refine wl_off (yl rfl rfl rfl) hcc ?_
                  refine wl_off (yl rfl rfl rfl) hcc ?_
                  refine wl_pick_t (!t1104) (.bool true) rfl hcc rfl ?_
                  refine wl_nil ?_
                  exact qn ⟨rfl, _, rfl, (by repeat (first | exact Same.refl _ _ | refine Same.upd ?_ rfl)), (by rw [hcc]; rfl)⟩
                · skip
                  refine wl_on (yl rfl rfl rfl) hcc ?_
                  refine wl_field fld24_2 z1092 ?_
                  refine wl_on (yl rfl rfl rfl) hcc ?_
                  have B1111 := (B1098.step0 s1109)
                  refine wl_loadb1 B1111 ty22 rfl (v22) rfl ?_
                  refine wl_on (yl rfl rfl rfl) hcc ?_
                  have f1115 := f111.ext (s109.ext.trans (s113.ext.trans (e501.trans (s532.ext.trans (e1089.trans (s1109.ext))))))
                  obtain ⟨A1112, c1113, hv1114⟩ := (f1115).slice
                  refine wl_len Tryz.underlying22 (show _ = Value.slice _ t16.Deeds.length _ from (Eq.trans rfl hv1114)) ?_
                  refine wl_on (yl rfl rfl rfl) hcc ?_
                  refine wl_eql rfl rfl ?_
                  refine wl_pick_f (!t1104) (.bool ((t16.Deeds.length : Int) == 200)) rfl hcc rfl ?_
                  refine wl_nil ?_
                  exact qn ⟨rfl, _, rfl, (by repeat (first | exact Same.refl _ _ | refine Same.upd ?_ rfl)), (by rw [hcc]; rfl)⟩
              intro _ ho1116 hv1117
              refine wl_nil ?_
              refine qn ?_
              by_cases c1118 : ((!t1104) || ((t16.Deeds.length : Int) == 200)) = true
              · replace h := (if_pos c1118).symm.trans h
                refine wc_then hv1117 c1118 ?_
                refine wc_seq ?_
                refine wc_region ?_
                refine wl_move (.int .i64 t527.2) ((ho1116 9 rfl).trans z1096) ?_
                refine wl_eql rfl rfl ?_
                refine wl_assign (.bool (t527.2 == 1)) rfl ?_
                refine wl_nil ?_
                refine qn ?_
                refine wc_ret ?_
                refine qr ?_
                have h := Option.some.inj h
                subst h
                refine end1 rfl (.tmp rfl .nil) ?_
                exact ⟨_, rfl, fr1110⟩
              · replace h := (if_neg c1118).symm.trans h
                have b1119 : ((!t1104) || ((t16.Deeds.length : Int) == 200)) = false := Bool.eq_false_iff.2 c1118
                refine wc_else hv1117 b1119 ?_
                refine wc_skip ?_
                refine qn ?_
                refine wc_seq ?_
                refine wc_region ?_
                refine wl_move (.int .i64 t527.2) ((ho1116 9 rfl).trans z1096) ?_
                refine wl_eql rfl rfl ?_
                refine wl_move (.bool (t527.2 == 0)) rfl ?_
                by_cases c1120 : (t527.2 == 0) = true
                · replace h := (if_pos c1120).symm.trans h
                  refine wl_on (yl rfl rfl rfl) c1120 ?_
                  refine wl_move (.string (bs t527.1)) ((ho1116 8 rfl).trans z1095) ?_
                  refine wl_on (yl rfl rfl rfl) c1120 ?_
                  refine wl_move (.string (bs t76.1)) ((ho1116 5 rfl).trans z1094) ?_
                  refine wl_on (yl rfl rfl rfl) c1120 ?_
                  have B1121 := (B1099.step0 s1109)
                  refine wl_loadb B1121 ty41 ((ho1116 3 rfl).trans z1093) [.int .i64 t57.Kind, v65, v67] rfl rfl ?_
                  refine wl_on (yl rfl rfl rfl) c1120 ?_
                  have f1122 := f1102.ext (s1109.ext)
                  have f1123 := f1103.ext (s1109.ext)
                  obtain ⟨t1124, h1125, h⟩ := Option.bind_eq_some_iff.1 h
                  have B1130 := (B1098.step0 s1109)
                  refine wl_call [.agg #[.int .i64 t57.Kind, v65, v67]] bod17 (mc rfl (mn _)) (consignorref20_Line.ok k1087 fr1110.wf t57 v65 f1122 v67 f1123 (Gl.of gl fr1110) _ h1125) ?_
                  rintro e1126 w1127 ⟨hw1128, rfl, s1129⟩
                  refine ⟨_, rfl, ?_⟩
                  have fr1131 := fr1110.then0 s1129
                  refine wl_on (yl rfl rfl rfl) c1120 ?_
                  by_cases c1132 : t76.1.length + t1124.length ≤ 9223372036854775807
                  · replace h := (if_pos c1132).symm.trans h
                    refine wl_adds rfl rfl c1132 ?_
                    refine wl_on (yl rfl rfl rfl) c1120 ?_
                    by_cases c1133 : (t76.1 ++ t1124).length + ([10] : List UInt8).length ≤ 9223372036854775807
                    · replace h := (if_pos c1133).symm.trans h
                      refine wl_adds rfl rfl c1133 ?_
                      refine wl_on (yl rfl rfl rfl) c1120 ?_
                      refine wl_eqls rfl rfl ?_
                      refine wl_pick_t (t527.2 == 0) (.bool (t527.1 == ((t76.1 ++ t1124) ++ ([10] : List UInt8)))) rfl c1120 rfl ?_
                      refine wl_assign (.bool (t527.1 == ((t76.1 ++ t1124) ++ ([10] : List UInt8)))) rfl ?_
                      refine wl_nil ?_
                      refine qn ?_
                      refine wc_ret ?_
                      have h := Option.some.inj h
                      subst h
                      refine end1 rfl (.tmp rfl .nil) ?_
                      exact ⟨_, rfl, fr1131⟩
                    · replace h := (if_neg c1133).symm.trans h
                      cases h
                  · replace h := (if_neg c1132).symm.trans h
                    cases h
                · replace h := (if_neg c1120).symm.trans h
                  have b1134 : (t527.2 == 0) = false := Bool.eq_false_iff.2 c1120
                  refine wl_off (yl rfl rfl rfl) b1134 ?_
                  refine wl_off (yl rfl rfl rfl) b1134 ?_
                  refine wl_off (yl rfl rfl rfl) b1134 ?_
                  refine wl_off (yl rfl rfl rfl) b1134 ?_
                  refine wl_off (yl rfl rfl rfl) b1134 ?_
                  refine wl_off (yl rfl rfl rfl) b1134 ?_
                  refine wl_off (yl rfl rfl rfl) b1134 ?_
                  refine wl_pick_f (t527.2 == 0) (.bool false) rfl b1134 rfl ?_
                  refine wl_assign (.bool false) rfl ?_
                  refine wl_nil ?_
                  refine qn ?_
                  refine wc_ret ?_
                  have h := Option.some.inj h
                  subst h
                  refine end1 rfl (.tmp rfl .nil) ?_
                  exact ⟨_, rfl, fr1110⟩
      · replace h := (if_neg c167).symm.trans h
        cases h
    · replace h := (if_neg c132).symm.trans h
      cases h
end Go.Proofs.YtlaifpbickdpkaaGreatDoor
