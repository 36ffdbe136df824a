/- What the program's functions compute, and that they compute it: one contract a function, written by gw.py (own work). -/
import Derived.Test.YtlaifpbickdpkaaGreatDoorT4
namespace Go.Proofs.YtlaifpbickdpkaaGreatDoor
open Go.RowKit
set_option linter.unusedVariables false
set_option linter.unusedSimpArgs false

theorem bod10 : Bod Tryz.prog 10 := fun _ _ => by kernel_rfl
theorem bod11 : Bod Tryz.prog 11 := fun _ _ => by kernel_rfl
theorem bod16 : Bod Tryz.prog 16 := fun _ _ => by kernel_rfl
theorem bod17 : Bod Tryz.prog 17 := fun _ _ => by kernel_rfl
theorem bod24 : Bod Tryz.prog 24 := fun _ _ => by kernel_rfl
theorem bod6 : Bod Tryz.prog 6 := fun _ _ => by kernel_rfl
theorem bod9 : Bod Tryz.prog 9 := fun _ _ => by kernel_rfl
/-! ### consignor/consignorref20.Right: function 9 -/
def consignorref20_Right.l0 : Nat → ApiPlan → Int → Option Bool
  | 0, _, _ => none
  | k + 1, a0, x11 => if x11 < (a0.Deeds.length : Int) then (if 0 ≤ x11 then ((a0.Deeds[Int.toNat x11]?).bind fun t27 => ((consignorref20_IsDeed.f k t27).bind fun t55 => (if t55 = true then (consignorref20_Right.l0 k a0 (IntKind.i64.wrap (x11 + 1))) else (some false)))) else none) else (if (a0.Deeds.length : Int) ≤ 200 then ((consignorref20_Begins.f k a0).bind fun t73 => (some t73)) else (some false))
def consignorref20_Right.f (k : Nat) (a0 : ApiPlan) : Option Bool := consignorref20_Right.l0 k a0 0
set_option maxHeartbeats 1000000 in
theorem consignorref20_Right.ok (k : Nat) {w0 : World} {hw0 : Hw} (wf : Hwf w0 hw0) (a0 : ApiPlan) (v0_2 : Value) (q0_2 : Row KApiDeed w0 hw0 v0_2 a0.Deeds) (r : Bool) (h : consignorref20_Right.f k a0 = some r) :
    Calls Tryz.prog 9 #[.agg #[.int .i64 a0.Quota, .int .i64 a0.Sectors, v0_2]] w0 fun e w' => ∃ (hw' : Hw), e = .returned (.bool r) ∧ Stp none w0 hw0 w' hw' := by
  have fr0 := Stp.refl none (w := w0) (hw := hw0) wf
  unfold consignorref20_Right.f at h
  refine enter (n := 24) Tryz.func9 rfl rfl (Nat.le_of_ble_eq_true rfl) ?_
  refine wc_seq ?_
  refine wc_region ?_
  refine wl_box fr0.wf fr0.g.size [.int .i64 a0.Quota, .int .i64 a0.Sectors, v0_2] (cells_of (v := (.agg #[.int .i64 a0.Quota, .int .i64 a0.Sectors, v0_2])) rfl rfl) ?_
  intro b1 w2 s3 B4 g5
  have fr6 := fr0.then0 s3
  refine wl_assign (.bool false) rfl ?_
  refine wl_nil ?_
  refine qn ?_
  refine wc_seq ?_
  refine wc_seq ?_
  refine wc_region ?_
  refine wl_field fld24_2 rfl ?_
  refine wl_loadb1 B4 ty22 rfl (v0_2) rfl ?_
  have f10 := q0_2.ext (s3.ext)
  obtain ⟨A7, c8, hv9⟩ := (f10).slice
  refine wl_len Tryz.underlying22 (show _ = Value.slice _ a0.Deeds.length _ from (Eq.trans rfl hv9)) ?_
  refine wl_move (.int .i64 0) rfl ?_
  refine wl_nil ?_
  refine qn ?_
  refine wc_block ?_
  refine wc_loop (fun m a w => ∃ (σ : Nat → Value) (hw : Hw) (kq : Nat) (x11 : Int), a = mkA 24 σ ∧ kq ≤ m ∧ kq ≤ k ∧ Stp none w0 hw0 w hw ∧ Ext w2 hw0 w hw ∧ σ 1 = .pointer (some ⟨b1, 0, none⟩) ∧ σ 6 = v0_2 ∧ σ 7 = .int .i64 (a0.Deeds.length : Int) ∧ σ 8 = .int .i64 x11 ∧ Box w0.heap.size w hw b1 24 [.int .i64 a0.Quota, .int .i64 a0.Sectors, v0_2] ∧ consignorref20_Right.l0 kq a0 x11 = some r) k ?_ ?_ ?_
  · skip
    exact ⟨_, _, _, 0, rfl, (Nat.le_refl _), (Nat.le_refl _), fr6, (Ext.refl _ _), rfl, rfl, rfl, rfl, B4, h⟩
  · rintro _ _ ⟨_, hw13, k14, x11, rfl, hk17, hk18, fr15, e16, z19, z20, z21, z22, B23, h⟩; obtain rfl := Nat.le_zero.1 hk17; rw [consignorref20_Right.l0] at h; cases h
  · rintro m0 _ w12 ⟨_, hw13, k14, x11, rfl, hk17, hk18, fr15, e16, z19, z20, z21, z22, B23, h⟩
    rcases k14 with _ | k14
    · rw [consignorref20_Right.l0] at h; cases h
    rw [consignorref20_Right.l0] at h
    refine wc_seq ?_
    refine wc_region ?_
    refine wl_lss z22 z21 ?_
    refine wl_nil ?_
    refine qn ?_
    refine wc_seq ?_
    by_cases c24 : x11 < (a0.Deeds.length : Int)
    · replace h := (if_pos c24).symm.trans h
      have b25 : (decide (x11 < (a0.Deeds.length : Int))) = true := decide_eq_true c24
      refine wc_then rfl b25 ?_
      refine wc_skip ?_
      refine qn ?_
      refine wc_seq ?_
      refine wc_block ?_
      refine wc_seq ?_
      refine wc_region ?_
      by_cases c26 : 0 ≤ x11
      · replace h := (if_pos c26).symm.trans h
        obtain ⟨t27, h28, h⟩ := Option.bind_eq_some_iff.1 h
        have c29 := at_lt c26 h28
        have f35 := f10.ext (e16)
        refine wl_at Tryz.underlying22 ty41 f35 z20 z22 c26 c29 t27 h28 ?_
        rintro B30 o31 cs32 ⟨v36, v38, rfl, r37, r39⟩ l34
        refine wl_load ty41 rfl [.int .i64 t27.Kind, v36, v38] rfl l34.2 ?_
        refine wl_alloc fr15.wf fr15.g.size ty41 [.int .i64 0, .slice none 0 0, .slice none 0 0] rfl ?_
        intro b40 w41 s42 B43 g44
        have n45 : b1 ≠ b40 := B23.ne g44
        have fr46 := fr15.then0 s42
        have f50 := r37.ext (s42.ext)
        have f51 := r39.ext (s42.ext)
        refine wl_store B43 fr46.wf ty41 rfl [.int .i64 t27.Kind, v36, v38] (cells_of (v := (.agg #[.int .i64 t27.Kind, v36, v38])) rfl rfl) rfl (Nat.le_of_ble_eq_true rfl) (one_all [.int .i64 t27.Kind, v36, v38] (by simp only [List.all_cons, List.all_nil, Bool.and_true, Bool.true_and, row_one f50, row_one f51] <;> rfl)) [.int .i64 t27.Kind, v36, v38] rfl ?_
        intro w47 s48 B49
        have fr52 := fr46.then s48 (fun _ e => (Option.some.inj e ▸ B43.new))
        refine wl_nil ?_
        refine qn ?_
        refine wc_seq ?_
        refine wc_region ?_
        refine wl_loadb B49 ty41 rfl [.int .i64 t27.Kind, v36, v38] rfl rfl ?_
        have f53 := f50.ext (s48.ext)
        have f54 := f51.ext (s48.ext)
        obtain ⟨t55, h56, h⟩ := Option.bind_eq_some_iff.1 h
        have B61 := ((B23.step0 s42).stepb s48 n45)
        refine wl_call [.agg #[.int .i64 t27.Kind, v36, v38]] bod16 (mc rfl (mn _)) (consignorref20_IsDeed.ok k14 fr52.wf t27 v36 f53 v38 f54 _ h56) ?_
        rintro e57 w58 ⟨hw59, rfl, s60⟩
        refine ⟨_, rfl, ?_⟩
        have fr62 := fr52.then0 s60
        refine wl_not rfl ?_
        refine wl_nil ?_
        refine qn ?_
        by_cases c63 : t55 = true
        · replace h := (if_pos c63).symm.trans h
          refine wc_else rfl (by rw [c63] <;> rfl) ?_
          refine wc_skip ?_
          refine bn ?_
          refine qn ?_
          refine wc_region ?_
          refine wl_add z22 rfl ?_
          refine wl_move (.int .i64 (IntKind.i64.wrap (x11 + 1))) rfl ?_
          refine wl_nil ?_
          refine qn ?_
          have B64 := (B61.step0 s60)
          exact ⟨_, _, _, (IntKind.i64.wrap (x11 + 1)), rfl, (by omega), (by omega), fr62, (Ext.trans e16 (Ext.trans s42.ext (Ext.trans s48.ext s60.ext))), z19, z20, z21, rfl, B64, h⟩
        · replace h := (if_neg c63).symm.trans h
          have b65 : t55 = false := Bool.eq_false_iff.2 c63
          refine wc_then rfl (by rw [b65] <;> rfl) ?_
          refine wc_seq ?_
          refine wc_region ?_
          refine wl_assign (.bool false) rfl ?_
          refine wl_nil ?_
          refine qn ?_
          refine wc_ret ?_
          refine bret ?_
          refine qr ?_
          refine qr ?_
          refine bret ?_
          refine qr ?_
          have h := Option.some.inj h
          subst h
          refine end1 rfl (.tmp rfl .nil) ?_
          exact ⟨_, rfl, fr62⟩
      · replace h := (if_neg c26).symm.trans h
        cases h
    · replace h := (if_neg c24).symm.trans h
      have b66 : (decide (x11 < (a0.Deeds.length : Int))) = false := decide_eq_false c24
      refine wc_else rfl b66 ?_
      refine wc_exit ?_
      refine qe ?_
      refine qe ?_
      refine be ?_
      refine qn ?_
      refine wc_seq ?_
      refine wc_region ?_
      refine wl_field fld24_2 z19 ?_
      refine wl_loadb1 B23 ty22 rfl (v0_2) rfl ?_
      have f70 := f10.ext (e16)
      obtain ⟨A67, c68, hv69⟩ := (f70).slice
      refine wl_len Tryz.underlying22 (show _ = Value.slice _ a0.Deeds.length _ from (Eq.trans rfl hv69)) ?_
      refine wl_leq rfl rfl ?_
      refine wl_move (.bool (decide ((a0.Deeds.length : Int) ≤ 200))) rfl ?_
      by_cases c71 : (a0.Deeds.length : Int) ≤ 200
      · replace h := (if_pos c71).symm.trans h
        have b72 : (decide ((a0.Deeds.length : Int) ≤ 200)) = true := decide_eq_true c71
        refine wl_on (yl rfl rfl rfl) b72 ?_
        refine wl_loadb B23 ty24 z19 [.int .i64 a0.Quota, .int .i64 a0.Sectors, v0_2] rfl rfl ?_
        refine wl_on (yl rfl rfl rfl) b72 ?_
        obtain ⟨t73, h74, h⟩ := Option.bind_eq_some_iff.1 h
        refine wl_call [.agg #[.int .i64 a0.Quota, .int .i64 a0.Sectors, v0_2]] bod24 (mc rfl (mn _)) (consignorref20_Begins.ok k14 fr15.wf a0 v0_2 f70 _ h74) ?_
        rintro e75 w76 ⟨hw77, rfl, s78⟩
        refine ⟨_, rfl, ?_⟩
        have fr79 := fr15.then0 s78
        refine wl_pick_t (decide ((a0.Deeds.length : Int) ≤ 200)) (.bool t73) rfl b72 rfl ?_
        refine wl_assign (.bool t73) rfl ?_
        refine wl_nil ?_
        refine qn ?_
        refine wc_ret ?_
        have h := Option.some.inj h
        subst h
        refine end1 rfl (.tmp rfl .nil) ?_
        exact ⟨_, rfl, fr79⟩
      · replace h := (if_neg c71).symm.trans h
        have b80 : (decide ((a0.Deeds.length : Int) ≤ 200)) = false := decide_eq_false c71
        refine wl_off (yl rfl rfl rfl) b80 ?_
        refine wl_off (yl rfl rfl rfl) b80 ?_
        refine wl_pick_f (decide ((a0.Deeds.length : Int) ≤ 200)) (.bool false) rfl b80 rfl ?_
        refine wl_assign (.bool false) rfl ?_
        refine wl_nil ?_
        refine qn ?_
        refine wc_ret ?_
        have h := Option.some.inj h
        subst h
        refine end1 rfl (.tmp rfl .nil) ?_
        exact ⟨_, rfl, fr15⟩
/-! ### consignor/consignorref20.Text: function 11 -/
def consignorref20_Text.l0 : Nat → ApiPlan → List UInt8 → Int → Option (List UInt8)
  | 0, _, _, _ => none
  | k + 1, a0, x252, x253 => if x253 < (a0.Deeds.length : Int) then (if 0 ≤ x253 then ((a0.Deeds[Int.toNat x253]?).bind fun t268 => ((consignorref20_Line.f k t268).bind fun t295 => (if x252.length + t295.length ≤ 9223372036854775807 then (if (x252 ++ t295).length + ([10] : List UInt8).length ≤ 9223372036854775807 then (consignorref20_Text.l0 k a0 ((x252 ++ t295) ++ ([10] : List UInt8)) (IntKind.i64.wrap (x253 + 1))) else none) else none))) else none) else (some x252)
def consignorref20_Text.f (k : Nat) (a0 : ApiPlan) : Option (List UInt8) := (strconv_Itoa.f k a0.Quota).bind fun t11 => (if ([119, 111, 114, 108, 100, 32] : List UInt8).length + t11.length ≤ 9223372036854775807 then (if (([119, 111, 114, 108, 100, 32] : List UInt8) ++ t11).length + ([32] : List UInt8).length ≤ 9223372036854775807 then ((strconv_Itoa.f k a0.Sectors).bind fun t21 => (if ((([119, 111, 114, 108, 100, 32] : List UInt8) ++ t11) ++ ([32] : List UInt8)).length + t21.length ≤ 9223372036854775807 then (if (((([119, 111, 114, 108, 100, 32] : List UInt8) ++ t11) ++ ([32] : List UInt8)) ++ t21).length + ([10] : List UInt8).length ≤ 9223372036854775807 then (consignorref20_Text.l0 k a0 ((((([119, 111, 114, 108, 100, 32] : List UInt8) ++ t11) ++ ([32] : List UInt8)) ++ t21) ++ ([10] : List UInt8)) 0) else none) else none)) else none) else none)
set_option maxHeartbeats 1000000 in
theorem consignorref20_Text.ok (k : Nat) {w0 : World} {hw0 : Hw} (wf : Hwf w0 hw0) (a0 : ApiPlan) (v0_2 : Value) (q0_2 : Row KApiDeed w0 hw0 v0_2 a0.Deeds) (gl : Gl w0 hw0) (r : (List UInt8)) (h : consignorref20_Text.f k a0 = some r) :
    Calls Tryz.prog 11 #[.agg #[.int .i64 a0.Quota, .int .i64 a0.Sectors, v0_2]] w0 fun e w' => ∃ (hw' : Hw), e = .returned (.string (bs r)) ∧ Stp none w0 hw0 w' hw' := by
  have fr0 := Stp.refl none (w := w0) (hw := hw0) wf
  unfold consignorref20_Text.f at h
  refine enter (n := 30) Tryz.func11 rfl rfl (Nat.le_of_ble_eq_true rfl) ?_
  refine wc_seq ?_
  refine wc_region ?_
  refine wl_box fr0.wf fr0.g.size [.int .i64 a0.Quota, .int .i64 a0.Sectors, v0_2] (cells_of (v := (.agg #[.int .i64 a0.Quota, .int .i64 a0.Sectors, v0_2])) rfl rfl) ?_
  intro b1 w2 s3 B4 g5
  have fr6 := fr0.then0 s3
  refine wl_assign (.string (bs [])) rfl ?_
  refine wl_nil ?_
  refine qn ?_
  refine wc_seq ?_
  have s7 := Stp.drew (w := w2) (hw := hw0) fr6.wf
  have fr8 := fr6.then0 s7
  have B9 := (B4.step0 s7)
  obtain ⟨t11, h12, h⟩ := Option.bind_eq_some_iff.1 h
  by_cases c18 : ([119, 111, 114, 108, 100, 32] : List UInt8).length + t11.length ≤ 9223372036854775807
  · replace h := (if_pos c18).symm.trans h
    by_cases c19 : (([119, 111, 114, 108, 100, 32] : List UInt8) ++ t11).length + ([32] : List UInt8).length ≤ 9223372036854775807
    · replace h := (if_pos c19).symm.trans h
      obtain ⟨t21, h22, h⟩ := Option.bind_eq_some_iff.1 h
      by_cases c28 : ((([119, 111, 114, 108, 100, 32] : List UInt8) ++ t11) ++ ([32] : List UInt8)).length + t21.length ≤ 9223372036854775807
      · replace h := (if_pos c28).symm.trans h
        by_cases c29 : (((([119, 111, 114, 108, 100, 32] : List UInt8) ++ t11) ++ ([32] : List UInt8)) ++ t21).length + ([10] : List UInt8).length ≤ 9223372036854775807
        · replace h := (if_pos c29).symm.trans h
          refine wc_any (hw := hw0) mixed [[], [0], [1], [2], [3], [], [5], [6, 2], [4, 7], [8], [9, 7, 0, 1, 2, 3, 4, 5, 6, 7, 8, 9]] [6, 7, 8, 9, 10, 11, 12, 13, 14, 15, 3] (by kernel_rfl) (PhiOf [fun v w hw => v = .pointer (some ⟨b1, 0, none⟩), fun v w hw => v = .int .i64 a0.Quota, fun v w hw => v = .string (bs t11), fun v w hw => v = .string (bs (([119, 111, 114, 108, 100, 32] : List UInt8) ++ t11)), fun v w hw => v = .string (bs ((([119, 111, 114, 108, 100, 32] : List UInt8) ++ t11) ++ ([32] : List UInt8))), fun v w hw => v = .pointer (some ⟨b1, 1, none⟩), fun v w hw => v = .int .i64 a0.Sectors, fun v w hw => v = .string (bs t21), fun v w hw => v = .string (bs (((([119, 111, 114, 108, 100, 32] : List UInt8) ++ t11) ++ ([32] : List UInt8)) ++ t21)), fun v w hw => v = .string (bs ((((([119, 111, 114, 108, 100, 32] : List UInt8) ++ t11) ++ ([32] : List UInt8)) ++ t21) ++ ([10] : List UInt8))), fun v w hw => v = .string (bs ((((([119, 111, 114, 108, 100, 32] : List UInt8) ++ t11) ++ ([32] : List UInt8)) ++ t21) ++ ([10] : List UInt8)))]) (fun D σ w hw => Stp none w0 hw0 w hw ∧ Ext (w2).drew hw0 w hw ∧ Box w0.heap.size w hw b1 24 [.int .i64 a0.Quota, .int .i64 a0.Sectors, v0_2]) (stab_of (sbc (fun _ _ _ _ _ _ h => h) (sbc (fun _ _ _ _ _ _ h => h) (sbc (fun _ _ _ _ _ _ h => h) (sbc (fun _ _ _ _ _ _ h => h) (sbc (fun _ _ _ _ _ _ h => h) (sbc (fun _ _ _ _ _ _ h => h) (sbc (fun _ _ _ _ _ _ h => h) (sbc (fun _ _ _ _ _ _ h => h) (sbc (fun _ _ _ _ _ _ h => h) (sbc (fun _ _ _ _ _ _ h => h) (sbc (fun _ _ _ _ _ _ h => h) sbn)))))))))))) ?_ (stc ?_ (stc ?_ (stc ?_ (stc ?_ (stc ?_ (stc ?_ (stc ?_ (stc ?_ (stc ?_ (stc ?_ (stc ?_ stn))))))))))) ?_
          · exact ⟨fr8, Ext.refl _ _, B9⟩
          · intro D30 σ31 w32 hw33 q34 q35 q36 q37 q38 q39
            obtain ⟨fr40, e41, C42⟩ := q34
            refine wl_field fld24_0 ((q37 1 rfl).trans rfl) ?_
            refine wl_nil ?_
            exact qn ⟨_, _, rfl, (Ext.refl _ _), ⟨fr40, e41.trans (Ext.refl _ _), C42⟩, (aft_some rfl)⟩
          · intro D43 σ44 w45 hw46 q47 q48 q49 q50 q51 q52
            obtain ⟨fr53, e54, C55⟩ := q47
            obtain ⟨⟨_, m56⟩, _⟩ := q49
            have z57 : (σ44 6) = .pointer (some ⟨b1, 0, none⟩) := m56
            refine wl_loadb1 C55 ty3 z57 (.int .i64 a0.Quota) rfl ?_
            refine wl_nil ?_
            exact qn ⟨_, _, rfl, (Ext.refl _ _), ⟨fr53, e54.trans (Ext.refl _ _), C55⟩, (aft_some rfl)⟩
          · intro D58 σ59 w60 hw61 q62 q63 q64 q65 q66 q67
            obtain ⟨fr68, e69, C70⟩ := q62
            obtain ⟨⟨_, m71⟩, _⟩ := q64
            have z72 : (σ59 7) = .int .i64 a0.Quota := m71
            refine wl_call [.int .i64 a0.Quota] bod25 (mc z72 (mn _)) (strconv_Itoa.ok k fr68.wf a0.Quota (Gl.of gl fr68) _ h12) ?_
            rintro e73 w74 ⟨hw75, rfl, s76⟩
            refine ⟨_, rfl, ?_⟩
            have fr77 := fr68.then0 s76
            refine wl_nil ?_
            have B78 := (C70.step0 s76)
            exact qn ⟨_, _, rfl, s76.ext, ⟨fr77, e69.trans s76.ext, B78⟩, (aft_some rfl)⟩
          · intro D79 σ80 w81 hw82 q83 q84 q85 q86 q87 q88
            obtain ⟨fr89, e90, C91⟩ := q83
            obtain ⟨⟨_, m92⟩, _⟩ := q85
            have z93 : (σ80 8) = .string (bs t11) := m92
            refine wl_adds rfl z93 c18 ?_
            refine wl_nil ?_
            exact qn ⟨_, _, rfl, (Ext.refl _ _), ⟨fr89, e90.trans (Ext.refl _ _), C91⟩, (aft_some rfl)⟩
          · intro D94 σ95 w96 hw97 q98 q99 q100 q101 q102 q103
            obtain ⟨fr104, e105, C106⟩ := q98
            obtain ⟨⟨_, m107⟩, _⟩ := q100
            have z108 : (σ95 9) = .string (bs (([119, 111, 114, 108, 100, 32] : List UInt8) ++ t11)) := m107
            refine wl_adds z108 rfl c19 ?_
            refine wl_nil ?_
            exact qn ⟨_, _, rfl, (Ext.refl _ _), ⟨fr104, e105.trans (Ext.refl _ _), C106⟩, (aft_some rfl)⟩
          · intro D109 σ110 w111 hw112 q113 q114 q115 q116 q117 q118
            obtain ⟨fr119, e120, C121⟩ := q113
            refine wl_field fld24_1 ((q116 1 rfl).trans rfl) ?_
            refine wl_nil ?_
            exact qn ⟨_, _, rfl, (Ext.refl _ _), ⟨fr119, e120.trans (Ext.refl _ _), C121⟩, (aft_some rfl)⟩
          · intro D122 σ123 w124 hw125 q126 q127 q128 q129 q130 q131
            obtain ⟨fr132, e133, C134⟩ := q126
            obtain ⟨⟨_, m135⟩, _⟩ := q128
            have z136 : (σ123 11) = .pointer (some ⟨b1, 1, none⟩) := m135
            refine wl_loadb1 C134 ty3 z136 (.int .i64 a0.Sectors) rfl ?_
            refine wl_nil ?_
            exact qn ⟨_, _, rfl, (Ext.refl _ _), ⟨fr132, e133.trans (Ext.refl _ _), C134⟩, (aft_some rfl)⟩
          · intro D137 σ138 w139 hw140 q141 q142 q143 q144 q145 q146
            obtain ⟨fr147, e148, C149⟩ := q141
            obtain ⟨⟨_, m150⟩, ⟨_, m151⟩, _⟩ := q143
            have z152 : (σ138 12) = .int .i64 a0.Sectors := m150
            have z153 : (σ138 8) = .string (bs t11) := m151
            refine wl_call [.int .i64 a0.Sectors] bod25 (mc z152 (mn _)) (strconv_Itoa.ok k fr147.wf a0.Sectors (Gl.of gl fr147) _ h22) ?_
            rintro e154 w155 ⟨hw156, rfl, s157⟩
            refine ⟨_, rfl, ?_⟩
            have fr158 := fr147.then0 s157
            refine wl_nil ?_
            have B159 := (C149.step0 s157)
            exact qn ⟨_, _, rfl, s157.ext, ⟨fr158, e148.trans s157.ext, B159⟩, (aft_some rfl)⟩
          · intro D160 σ161 w162 hw163 q164 q165 q166 q167 q168 q169
            obtain ⟨fr170, e171, C172⟩ := q164
            obtain ⟨⟨_, m173⟩, ⟨_, m174⟩, _⟩ := q166
            have z175 : (σ161 10) = .string (bs ((([119, 111, 114, 108, 100, 32] : List UInt8) ++ t11) ++ ([32] : List UInt8))) := m173
            have z176 : (σ161 13) = .string (bs t21) := m174
            refine wl_adds z175 z176 c28 ?_
            refine wl_nil ?_
            exact qn ⟨_, _, rfl, (Ext.refl _ _), ⟨fr170, e171.trans (Ext.refl _ _), C172⟩, (aft_some rfl)⟩
          · intro D177 σ178 w179 hw180 q181 q182 q183 q184 q185 q186
            obtain ⟨fr187, e188, C189⟩ := q181
            obtain ⟨⟨_, m190⟩, _⟩ := q183
            have z191 : (σ178 14) = .string (bs (((([119, 111, 114, 108, 100, 32] : List UInt8) ++ t11) ++ ([32] : List UInt8)) ++ t21)) := m190
            refine wl_adds z191 rfl c29 ?_
            refine wl_nil ?_
            exact qn ⟨_, _, rfl, (Ext.refl _ _), ⟨fr187, e188.trans (Ext.refl _ _), C189⟩, (aft_some rfl)⟩
          · intro D192 σ193 w194 hw195 q196 q197 q198 q199 q200 q201
            obtain ⟨fr202, e203, C204⟩ := q196
            obtain ⟨⟨_, m205⟩, ⟨_, m206⟩, ⟨_, m207⟩, ⟨_, m208⟩, ⟨_, m209⟩, ⟨_, m210⟩, ⟨_, m211⟩, ⟨_, m212⟩, ⟨_, m213⟩, ⟨_, m214⟩, ⟨_, m215⟩, ⟨_, m216⟩, _⟩ := q198
            have z217 : (σ193 15) = .string (bs ((((([119, 111, 114, 108, 100, 32] : List UInt8) ++ t11) ++ ([32] : List UInt8)) ++ t21) ++ ([10] : List UInt8))) := m205
            have z218 : (σ193 13) = .string (bs t21) := m206
            have z219 : (σ193 6) = .pointer (some ⟨b1, 0, none⟩) := m207
            have z220 : (σ193 7) = .int .i64 a0.Quota := m208
            have z221 : (σ193 8) = .string (bs t11) := m209
            have z222 : (σ193 9) = .string (bs (([119, 111, 114, 108, 100, 32] : List UInt8) ++ t11)) := m210
            have z223 : (σ193 10) = .string (bs ((([119, 111, 114, 108, 100, 32] : List UInt8) ++ t11) ++ ([32] : List UInt8))) := m211
            have z224 : (σ193 11) = .pointer (some ⟨b1, 1, none⟩) := m212
            have z225 : (σ193 12) = .int .i64 a0.Sectors := m213
            have z226 : (σ193 14) = .string (bs (((([119, 111, 114, 108, 100, 32] : List UInt8) ++ t11) ++ ([32] : List UInt8)) ++ t21)) := m215
            refine wl_assign (.string (bs ((((([119, 111, 114, 108, 100, 32] : List UInt8) ++ t11) ++ ([32] : List UInt8)) ++ t21) ++ ([10] : List UInt8)))) z217 ?_
            refine wl_nil ?_
            exact qn ⟨_, _, rfl, (Ext.refl _ _), ⟨fr202, e203.trans (Ext.refl _ _), C204⟩, (aft_some rfl)⟩
          · intro σ227 w228 hw229 q230 q231 q232
            obtain ⟨fr233, e234, C235⟩ := q230
            obtain ⟨m236, m237, m238, m239, m240, m241, m242, m243, m244, m245, m246, _⟩ := q232
            have z247 : (σ227 3) = .string (bs ((((([119, 111, 114, 108, 100, 32] : List UInt8) ++ t11) ++ ([32] : List UInt8)) ++ t21) ++ ([10] : List UInt8))) := m246
            refine qn ?_
            refine wc_seq ?_
            refine wc_seq ?_
            refine wc_region ?_
            refine wl_field fld24_2 ((q231 1 rfl).trans rfl) ?_
            refine wl_loadb1 C235 ty22 rfl (v0_2) rfl ?_
            have f251 := q0_2.ext (s3.ext.trans (s7.ext.trans (e234)))
            obtain ⟨A248, c249, hv250⟩ := (f251).slice
            refine wl_len Tryz.underlying22 (show _ = Value.slice _ a0.Deeds.length _ from (Eq.trans rfl hv250)) ?_
            refine wl_move (.int .i64 0) rfl ?_
            refine wl_nil ?_
            refine qn ?_
            refine wc_block ?_
            refine wc_loop (fun m a w => ∃ (σ : Nat → Value) (hw : Hw) (kq : Nat) (x252 : List UInt8) (x253 : Int), a = mkA 30 σ ∧ kq ≤ m ∧ kq ≤ k ∧ Stp none w0 hw0 w hw ∧ Ext w228 hw229 w hw ∧ σ 3 = .string (bs x252) ∧ σ 17 = v0_2 ∧ σ 18 = .int .i64 (a0.Deeds.length : Int) ∧ σ 19 = .int .i64 x253 ∧ consignorref20_Text.l0 kq a0 x252 x253 = some r) k ?_ ?_ ?_
            · skip
              exact ⟨_, _, _, ((((([119, 111, 114, 108, 100, 32] : List UInt8) ++ t11) ++ ([32] : List UInt8)) ++ t21) ++ ([10] : List UInt8)), 0, rfl, (Nat.le_refl _), (Nat.le_refl _), fr233, (Ext.refl _ _), z247, rfl, rfl, rfl, h⟩
            · rintro _ _ ⟨_, hw255, k256, x252, x253, rfl, hk259, hk260, fr257, e258, z261, z262, z263, z264, h⟩; obtain rfl := Nat.le_zero.1 hk259; rw [consignorref20_Text.l0] at h; cases h
            · rintro m0 _ w254 ⟨_, hw255, k256, x252, x253, rfl, hk259, hk260, fr257, e258, z261, z262, z263, z264, h⟩
              rcases k256 with _ | k256
              · rw [consignorref20_Text.l0] at h; cases h
              rw [consignorref20_Text.l0] at h
              refine wc_seq ?_
              refine wc_region ?_
              refine wl_lss z264 z263 ?_
              refine wl_nil ?_
              refine qn ?_
              refine wc_seq ?_
              by_cases c265 : x253 < (a0.Deeds.length : Int)
              · replace h := (if_pos c265).symm.trans h
                have b266 : (decide (x253 < (a0.Deeds.length : Int))) = true := decide_eq_true c265
                refine wc_then rfl b266 ?_
                refine wc_skip ?_
                refine qn ?_
                refine wc_seq ?_
                refine wc_block ?_
                refine wc_seq ?_
                refine wc_region ?_
                by_cases c267 : 0 ≤ x253
                · replace h := (if_pos c267).symm.trans h
                  obtain ⟨t268, h269, h⟩ := Option.bind_eq_some_iff.1 h
                  have c270 := at_lt c267 h269
                  have f276 := f251.ext (e258)
                  refine wl_at Tryz.underlying22 ty41 f276 z262 z264 c267 c270 t268 h269 ?_
                  rintro B271 o272 cs273 ⟨v277, v279, rfl, r278, r280⟩ l275
                  refine wl_load ty41 rfl [.int .i64 t268.Kind, v277, v279] rfl l275.2 ?_
                  refine wl_alloc fr257.wf fr257.g.size ty41 [.int .i64 0, .slice none 0 0, .slice none 0 0] rfl ?_
                  intro b281 w282 s283 B284 g285
                  have fr286 := fr257.then0 s283
                  have f290 := r278.ext (s283.ext)
                  have f291 := r280.ext (s283.ext)
                  refine wl_store B284 fr286.wf ty41 rfl [.int .i64 t268.Kind, v277, v279] (cells_of (v := (.agg #[.int .i64 t268.Kind, v277, v279])) rfl rfl) rfl (Nat.le_of_ble_eq_true rfl) (one_all [.int .i64 t268.Kind, v277, v279] (by simp only [List.all_cons, List.all_nil, Bool.and_true, Bool.true_and, row_one f290, row_one f291] <;> rfl)) [.int .i64 t268.Kind, v277, v279] rfl ?_
                  intro w287 s288 B289
                  have fr292 := fr286.then s288 (fun _ e => (Option.some.inj e ▸ B284.new))
                  refine wl_nil ?_
                  refine qn ?_
                  refine wc_region ?_
                  refine wl_move (.string (bs x252)) z261 ?_
                  refine wl_loadb B289 ty41 rfl [.int .i64 t268.Kind, v277, v279] rfl rfl ?_
                  have f293 := f290.ext (s288.ext)
                  have f294 := f291.ext (s288.ext)
                  obtain ⟨t295, h296, h⟩ := Option.bind_eq_some_iff.1 h
                  refine wl_call [.agg #[.int .i64 t268.Kind, v277, v279]] bod17 (mc rfl (mn _)) (consignorref20_Line.ok k256 fr292.wf t268 v277 f293 v279 f294 (Gl.of gl fr292) _ h296) ?_
                  rintro e297 w298 ⟨hw299, rfl, s300⟩
                  refine ⟨_, rfl, ?_⟩
                  have fr301 := fr292.then0 s300
                  by_cases c302 : x252.length + t295.length ≤ 9223372036854775807
                  · replace h := (if_pos c302).symm.trans h
                    refine wl_adds rfl rfl c302 ?_
                    by_cases c303 : (x252 ++ t295).length + ([10] : List UInt8).length ≤ 9223372036854775807
                    · replace h := (if_pos c303).symm.trans h
                      refine wl_adds rfl rfl c303 ?_
                      refine wl_assign (.string (bs ((x252 ++ t295) ++ ([10] : List UInt8)))) rfl ?_
                      refine wl_nil ?_
                      refine bn ?_
                      refine qn ?_
                      refine wc_region ?_
                      refine wl_add z264 rfl ?_
                      refine wl_move (.int .i64 (IntKind.i64.wrap (x253 + 1))) rfl ?_
                      refine wl_nil ?_
                      refine qn ?_
                      exact ⟨_, _, _, ((x252 ++ t295) ++ ([10] : List UInt8)), (IntKind.i64.wrap (x253 + 1)), rfl, (by omega), (by omega), fr301, (Ext.trans e258 (Ext.trans s283.ext (Ext.trans s288.ext s300.ext))), rfl, z262, z263, rfl, h⟩
                    · replace h := (if_neg c303).symm.trans h
                      cases h
                  · replace h := (if_neg c302).symm.trans h
                    cases h
                · replace h := (if_neg c267).symm.trans h
                  cases h
              · replace h := (if_neg c265).symm.trans h
                have b304 : (decide (x253 < (a0.Deeds.length : Int))) = false := decide_eq_false c265
                refine wc_else rfl b304 ?_
                refine wc_exit ?_
                refine qe ?_
                refine qe ?_
                refine be ?_
                refine qn ?_
                refine wc_seq ?_
                refine wc_region ?_
                refine wl_move (.string (bs x252)) z261 ?_
                refine wl_assign (.string (bs x252)) rfl ?_
                refine wl_nil ?_
                refine qn ?_
                refine wc_ret ?_
                have h := Option.some.inj h
                subst h
                refine end1 rfl (.tmp rfl .nil) ?_
                exact ⟨_, rfl, fr257⟩
        · replace h := (if_neg c29).symm.trans h
          cases h
      · replace h := (if_neg c28).symm.trans h
        cases h
    · replace h := (if_neg c19).symm.trans h
      cases h
  · replace h := (if_neg c18).symm.trans h
    cases h
/-! ### consignor/consignorlaw20.ScriptPrints: function 3 -/
def consignorlaw20_ScriptPrints.j0 : Nat → ApiPlan → ((List UInt8) × Int) → Bool → Option Bool
  | 0, _, _, _ => none
  | k + 1, t8, t23, x30 => if x30 = true then (some false) else ((consignorref20_Right.f k t8).bind fun t434 => (if t434 = true then (if (t23.2 == 0) = true then ((consignorref20_Text.f k t8).bind fun t445 => (some (t23.1 == t445))) else (some false)) else (some ((t23.2 == 1) && (t23.1 == [])))))
def consignorlaw20_ScriptPrints.f (k : Nat) (a0 : ApiPlan) : Option Bool := (consignorlaw20_few.f k a0 205).bind fun t8 => ((script_Print.f k t8).bind fun t23 => ((script_Right.f k t8).bind fun t36 => ((consignorref20_Right.f k t8).bind fun t45 => (if (t36 == t45) = true then ((consignorlaw20_alive.f k).bind fun t53 => (consignorlaw20_ScriptPrints.j0 k t8 t23 (!t53))) else (consignorlaw20_ScriptPrints.j0 k t8 t23 true)))))
set_option maxHeartbeats 1000000 in
theorem consignorlaw20_ScriptPrints.ok (k : Nat) {w0 : World} {hw0 : Hw} (wf : Hwf w0 hw0) (a0 : ApiPlan) (v0_2 : Value) (q0_2 : Row KApiDeed w0 hw0 v0_2 a0.Deeds) (gl : Gl w0 hw0) (r : Bool) (h : consignorlaw20_ScriptPrints.f k a0 = some r) :
    Calls Tryz.prog 3 #[.agg #[.int .i64 a0.Quota, .int .i64 a0.Sectors, v0_2]] w0 fun e w' => ∃ (hw' : Hw), e = .returned (.bool r) ∧ Stp none w0 hw0 w' hw' := by
  have fr0 := Stp.refl none (w := w0) (hw := hw0) wf
  unfold consignorlaw20_ScriptPrints.f at h
  refine enter (n := 38) Tryz.func3 rfl rfl (Nat.le_of_ble_eq_true rfl) ?_
  refine wc_seq ?_
  refine wc_region ?_
  refine wl_box fr0.wf fr0.g.size [.int .i64 a0.Quota, .int .i64 a0.Sectors, v0_2] (cells_of (v := (.agg #[.int .i64 a0.Quota, .int .i64 a0.Sectors, v0_2])) rfl rfl) ?_
  intro b1 w2 s3 B4 g5
  have fr6 := fr0.then0 s3
  refine wl_assign (.bool false) rfl ?_
  refine wl_nil ?_
  refine qn ?_
  refine wc_seq ?_
  refine wc_region ?_
  refine wl_loadb B4 ty24 rfl [.int .i64 a0.Quota, .int .i64 a0.Sectors, v0_2] rfl rfl ?_
  have f7 := q0_2.ext (s3.ext)
  obtain ⟨t8, h9, h⟩ := Option.bind_eq_some_iff.1 h
  refine wl_call [.agg #[.int .i64 a0.Quota, .int .i64 a0.Sectors, v0_2], .int .i64 205] bod6 (mc rfl (mc rfl (mn _))) (consignorlaw20_few.ok k fr6.wf a0 205 v0_2 f7 _ h9) ?_
  rintro e10 w11 ⟨v14, hw12, rfl, s13, f15⟩
  refine ⟨_, rfl, ?_⟩
  have fr16 := fr6.then0 s13
  have B17 := (B4.step0 s13)
  refine wl_store B17 fr16.wf ty24 rfl [.int .i64 t8.Quota, .int .i64 t8.Sectors, v14] (cells_of (v := (.agg #[.int .i64 t8.Quota, .int .i64 t8.Sectors, v14])) rfl rfl) rfl (Nat.le_of_ble_eq_true rfl) (one_all [.int .i64 t8.Quota, .int .i64 t8.Sectors, v14] (by simp only [List.all_cons, List.all_nil, Bool.and_true, Bool.true_and, row_one f15] <;> rfl)) [.int .i64 t8.Quota, .int .i64 t8.Sectors, v14] rfl ?_
  intro w18 s19 B20
  have fr21 := fr16.then s19 (fun _ e => (Option.some.inj e ▸ B17.new))
  refine wl_nil ?_
  refine qn ?_
  refine wc_seq ?_
  refine wc_region ?_
  refine wl_loadb B20 ty24 rfl [.int .i64 t8.Quota, .int .i64 t8.Sectors, v14] rfl rfl ?_
  have f22 := f15.ext (s19.ext)
  obtain ⟨t23, h24, h⟩ := Option.bind_eq_some_iff.1 h
  refine wl_call [.agg #[.int .i64 t8.Quota, .int .i64 t8.Sectors, v14]] bod7 (mc rfl (mn _)) (script_Print.ok k fr21.wf t8 v14 f22 _ h24) ?_
  rintro e25 w26 ⟨hw27, rfl, s28⟩
  refine ⟨_, rfl, ?_⟩
  have fr29 := fr21.then0 s28
  refine wl_move (.tuple #[.string (bs t23.1), .int .i64 t23.2]) rfl ?_
  refine wl_extract (vs := [.string (bs t23.1), .int .i64 t23.2]) (.string (bs t23.1)) rfl rfl ?_
  refine wl_extract (vs := [.string (bs t23.1), .int .i64 t23.2]) (.int .i64 t23.2) rfl rfl ?_
  refine wl_assign (.string (bs t23.1)) rfl ?_
  refine wl_assign (.int .i64 t23.2) rfl ?_
  refine wl_nil ?_
  refine qn ?_
  refine wc_seq ?_
  refine wc_cut (fun a w => ∃ (σ : Nat → Value) (hw : Hw) (kq : Nat) (x30 : Bool), a = mkA 38 σ ∧ kq ≤ k ∧ kq ≤ k ∧ Stp none w0 hw0 w hw ∧ Ext w26 hw27 w hw ∧ σ 1 = .pointer (some ⟨b1, 0, none⟩) ∧ σ 3 = .string (bs t23.1) ∧ σ 4 = .int .i64 t23.2 ∧ σ 20 = .bool x30 ∧ Box w0.heap.size w hw b1 24 [.int .i64 t8.Quota, .int .i64 t8.Sectors, v14] ∧ consignorlaw20_ScriptPrints.j0 kq t8 t23 x30 = some r) ?_ ?_
  · skip
    have s31 := Stp.drew (w := w26) (hw := hw27) fr29.wf
    have fr32 := fr29.then0 s31
    have B33 := ((B20.step0 s28).step0 s31)
    obtain ⟨t36, h37, h⟩ := Option.bind_eq_some_iff.1 h
    obtain ⟨t45, h46, h⟩ := Option.bind_eq_some_iff.1 h
    by_cases c52 : (t36 == t45) = true
    · replace h := (if_pos c52).symm.trans h
      obtain ⟨t53, h54, h⟩ := Option.bind_eq_some_iff.1 h
      refine wc_any (hw := hw27) mixed [[], [0], [], [2, 1], [1, 3], [4, 3], [5, 5], [6, 5], [5, 7]] [12, 13, 14, 15, 16, 17, 18, 19, 20] (by kernel_rfl) (PhiOf [fun v w hw => v = .agg #[.int .i64 t8.Quota, .int .i64 t8.Sectors, v14], fun v w hw => v = .bool t36, fun v w hw => v = .agg #[.int .i64 t8.Quota, .int .i64 t8.Sectors, v14], fun v w hw => v = .bool t45, fun v w hw => v = .bool (!(t36 == t45)), fun v w hw => v = .bool (!(t36 == t45)), fun v w hw => v = .bool t53, fun v w hw => v = .bool (!t53), fun v w hw => v = .bool (!t53)]) (fun D σ w hw => Stp none w0 hw0 w hw ∧ Ext (w26).drew hw27 w hw ∧ Box w0.heap.size w hw b1 24 [.int .i64 t8.Quota, .int .i64 t8.Sectors, v14]) (stab_of (sbc (fun _ _ _ _ _ _ h => h) (sbc (fun _ _ _ _ _ _ h => h) (sbc (fun _ _ _ _ _ _ h => h) (sbc (fun _ _ _ _ _ _ h => h) (sbc (fun _ _ _ _ _ _ h => h) (sbc (fun _ _ _ _ _ _ h => h) (sbc (fun _ _ _ _ _ _ h => h) (sbc (fun _ _ _ _ _ _ h => h) (sbc (fun _ _ _ _ _ _ h => h) sbn)))))))))) ?_ (stc ?_ (stc ?_ (stc ?_ (stc ?_ (stc ?_ (stc ?_ (stc ?_ (stc ?_ (stc ?_ stn))))))))) ?_
      · exact ⟨fr32, Ext.refl _ _, B33⟩
      · intro D61 σ62 w63 hw64 q65 q66 q67 q68 q69 q70
        obtain ⟨fr71, e72, C73⟩ := q65
        refine wl_loadb C73 ty24 ((q68 1 rfl).trans rfl) [.int .i64 t8.Quota, .int .i64 t8.Sectors, v14] rfl rfl ?_
        refine wl_nil ?_
        exact qn ⟨_, _, rfl, (Ext.refl _ _), ⟨fr71, e72.trans (Ext.refl _ _), C73⟩, (aft_some rfl)⟩
      · intro D74 σ75 w76 hw77 q78 q79 q80 q81 q82 q83
        obtain ⟨fr84, e85, C86⟩ := q78
        obtain ⟨⟨_, m87⟩, _⟩ := q80
        have z88 : (σ75 12) = .agg #[.int .i64 t8.Quota, .int .i64 t8.Sectors, v14] := m87
        have f89 := f22.ext (s28.ext.trans (s31.ext.trans (e85)))
        refine wl_call [.agg #[.int .i64 t8.Quota, .int .i64 t8.Sectors, v14]] bod8 (mc z88 (mn _)) (script_Right.ok k fr84.wf t8 v14 f89 _ h37) ?_
        rintro e90 w91 ⟨hw92, rfl, s93⟩
        refine ⟨_, rfl, ?_⟩
        have fr94 := fr84.then0 s93
        refine wl_nil ?_
        have B95 := (C86.step0 s93)
        exact qn ⟨_, _, rfl, s93.ext, ⟨fr94, e85.trans s93.ext, B95⟩, (aft_some rfl)⟩
      · intro D96 σ97 w98 hw99 q100 q101 q102 q103 q104 q105
        obtain ⟨fr106, e107, C108⟩ := q100
        refine wl_loadb C108 ty24 ((q103 1 rfl).trans rfl) [.int .i64 t8.Quota, .int .i64 t8.Sectors, v14] rfl rfl ?_
        refine wl_nil ?_
        exact qn ⟨_, _, rfl, (Ext.refl _ _), ⟨fr106, e107.trans (Ext.refl _ _), C108⟩, (aft_some rfl)⟩
      · intro D109 σ110 w111 hw112 q113 q114 q115 q116 q117 q118
        obtain ⟨fr119, e120, C121⟩ := q113
        obtain ⟨⟨_, m122⟩, ⟨_, m123⟩, _⟩ := q115
        have z124 : (σ110 14) = .agg #[.int .i64 t8.Quota, .int .i64 t8.Sectors, v14] := m122
        have z125 : (σ110 13) = .bool t36 := m123
        have f126 := f22.ext (s28.ext.trans (s31.ext.trans (e120)))
        refine wl_call [.agg #[.int .i64 t8.Quota, .int .i64 t8.Sectors, v14]] bod9 (mc z124 (mn _)) (consignorref20_Right.ok k fr119.wf t8 v14 f126 _ h46) ?_
        rintro e127 w128 ⟨hw129, rfl, s130⟩
        refine ⟨_, rfl, ?_⟩
        have fr131 := fr119.then0 s130
        refine wl_nil ?_
        have B132 := (C121.step0 s130)
        exact qn ⟨_, _, rfl, s130.ext, ⟨fr131, e120.trans s130.ext, B132⟩, (aft_some rfl)⟩
      · intro D133 σ134 w135 hw136 q137 q138 q139 q140 q141 q142
        obtain ⟨fr143, e144, C145⟩ := q137
        obtain ⟨⟨_, m146⟩, ⟨_, m147⟩, _⟩ := q139
        have z148 : (σ134 13) = .bool t36 := m146
        have z149 : (σ134 15) = .bool t45 := m147
        refine wl_neqb Tryz.underlying4 z148 z149 ?_
        refine wl_nil ?_
        exact qn ⟨_, _, rfl, (Ext.refl _ _), ⟨fr143, e144.trans (Ext.refl _ _), C145⟩, (aft_some rfl)⟩
      · intro D150 σ151 w152 hw153 q154 q155 q156 q157 q158 q159
        obtain ⟨fr160, e161, C162⟩ := q154
        obtain ⟨⟨_, m163⟩, ⟨_, m164⟩, _⟩ := q156
        have z165 : (σ151 16) = .bool (!(t36 == t45)) := m163
        have z166 : (σ151 15) = .bool t45 := m164
        refine wl_move (.bool (!(t36 == t45))) z165 ?_
        refine wl_nil ?_
        exact qn ⟨_, _, rfl, (Ext.refl _ _), ⟨fr160, e161.trans (Ext.refl _ _), C162⟩, (aft_some rfl)⟩
      · intro D167 σ168 w169 hw170 q171 q172 q173 q174 q175 q176
        obtain ⟨fr177, e178, C179⟩ := q171
        obtain ⟨⟨_, m180⟩, ⟨_, m181⟩, _⟩ := q173
        have z182 : (σ168 17) = .bool (!(t36 == t45)) := m180
        have z183 : (σ168 17) = .bool (!(t36 == t45)) := m181
        refine wl_on (yl rfl rfl z183) (by rw [c52] <;> rfl) ?_
        refine wl_call [] bod10 (mn _) (consignorlaw20_alive.ok k fr177.wf (Gl.of gl fr177) _ h54) ?_
        rintro e184 w185 ⟨hw186, rfl, s187⟩
        refine ⟨_, rfl, ?_⟩
        have fr188 := fr177.then0 s187
        refine wl_nil ?_
        have B189 := (C179.step0 s187)
        exact qn ⟨_, _, rfl, s187.ext, ⟨fr188, e178.trans s187.ext, B189⟩, (aft_some rfl)⟩
      · intro D190 σ191 w192 hw193 q194 q195 q196 q197 q198 q199
        obtain ⟨fr200, e201, C202⟩ := q194
        obtain ⟨⟨_, m203⟩, ⟨_, m204⟩, _⟩ := q196
        have z205 : (σ191 17) = .bool (!(t36 == t45)) := m204
        have z206 : (σ191 18) = .bool t53 := m203
        refine wl_on (yl rfl rfl z205) (by rw [c52] <;> rfl) ?_
        refine wl_not z206 ?_
        refine wl_nil ?_
        exact qn ⟨_, _, rfl, (Ext.refl _ _), ⟨fr200, e201.trans (Ext.refl _ _), C202⟩, (aft_some rfl)⟩
      · intro D207 σ208 w209 hw210 q211 q212 q213 q214 q215 q216
        obtain ⟨fr217, e218, C219⟩ := q211
        obtain ⟨⟨_, m220⟩, ⟨_, m221⟩, _⟩ := q213
        have z222 : (σ208 17) = .bool (!(t36 == t45)) := m220
        have z223 : (σ208 19) = .bool (!t53) := m221
        refine wl_pick_f (!(t36 == t45)) (.bool (!t53)) z222 (by rw [c52] <;> rfl) z223 ?_
        refine wl_nil ?_
        exact qn ⟨_, _, rfl, (Ext.refl _ _), ⟨fr217, e218.trans (Ext.refl _ _), C219⟩, (aft_some rfl)⟩
      · intro σ224 w225 hw226 q227 q228 q229
        obtain ⟨fr230, e231, C232⟩ := q227
        obtain ⟨m233, m234, m235, m236, m237, m238, m239, m240, m241, _⟩ := q229
        have z242 : (σ224 20) = .bool (!t53) := m241
        refine qn ?_
        exact ⟨_, _, _, (!t53), rfl, (by omega), (by omega), fr230, (Ext.trans s31.ext e231), ((q228 1 rfl).trans rfl), ((q228 3 rfl).trans rfl), ((q228 4 rfl).trans rfl), z242, C232, h⟩
    · replace h := (if_neg c52).symm.trans h
      have b243 : (t36 == t45) = false := Bool.eq_false_iff.2 c52
      refine wc_any (hw := hw27) mixed [[], [0], [], [2, 1], [1, 3], [4, 3], [5, 5], [6, 5], [5, 7]] [12, 13, 14, 15, 16, 17, 18, 19, 20] (by kernel_rfl) (PhiOf [fun v w hw => v = .agg #[.int .i64 t8.Quota, .int .i64 t8.Sectors, v14], fun v w hw => v = .bool t36, fun v w hw => v = .agg #[.int .i64 t8.Quota, .int .i64 t8.Sectors, v14], fun v w hw => v = .bool t45, fun v w hw => v = .bool (!(t36 == t45)), fun v w hw => v = .bool (!(t36 == t45)), fun v w hw => v = undef, fun v w hw => v = undef, fun v w hw => v = .bool true]) (fun D σ w hw => Stp none w0 hw0 w hw ∧ Ext (w26).drew hw27 w hw ∧ Box w0.heap.size w hw b1 24 [.int .i64 t8.Quota, .int .i64 t8.Sectors, v14]) (stab_of (sbc (fun _ _ _ _ _ _ h => h) (sbc (fun _ _ _ _ _ _ h => h) (sbc (fun _ _ _ _ _ _ h => h) (sbc (fun _ _ _ _ _ _ h => h) (sbc (fun _ _ _ _ _ _ h => h) (sbc (fun _ _ _ _ _ _ h => h) (sbc (fun _ _ _ _ _ _ h => h) (sbc (fun _ _ _ _ _ _ h => h) (sbc (fun _ _ _ _ _ _ h => h) sbn)))))))))) ?_ (stc ?_ (stc ?_ (stc ?_ (stc ?_ (stc ?_ (stc ?_ (stc ?_ (stc ?_ (stc ?_ stn))))))))) ?_
      · exact ⟨fr32, Ext.refl _ _, B33⟩
      · intro D244 σ245 w246 hw247 q248 q249 q250 q251 q252 q253
        obtain ⟨fr254, e255, C256⟩ := q248
        refine wl_loadb C256 ty24 ((q251 1 rfl).trans rfl) [.int .i64 t8.Quota, .int .i64 t8.Sectors, v14] rfl rfl ?_
        refine wl_nil ?_
        exact qn ⟨_, _, rfl, (Ext.refl _ _), ⟨fr254, e255.trans (Ext.refl _ _), C256⟩, (aft_some rfl)⟩
      · intro D257 σ258 w259 hw260 q261 q262 q263 q264 q265 q266
        obtain ⟨fr267, e268, C269⟩ := q261
        obtain ⟨⟨_, m270⟩, _⟩ := q263
        have z271 : (σ258 12) = .agg #[.int .i64 t8.Quota, .int .i64 t8.Sectors, v14] := m270
        have f272 := f22.ext (s28.ext.trans (s31.ext.trans (e268)))
        refine wl_call [.agg #[.int .i64 t8.Quota, .int .i64 t8.Sectors, v14]] bod8 (mc z271 (mn _)) (script_Right.ok k fr267.wf t8 v14 f272 _ h37) ?_
        rintro e273 w274 ⟨hw275, rfl, s276⟩
        refine ⟨_, rfl, ?_⟩
        have fr277 := fr267.then0 s276
        refine wl_nil ?_
        have B278 := (C269.step0 s276)
        exact qn ⟨_, _, rfl, s276.ext, ⟨fr277, e268.trans s276.ext, B278⟩, (aft_some rfl)⟩
      · intro D279 σ280 w281 hw282 q283 q284 q285 q286 q287 q288
        obtain ⟨fr289, e290, C291⟩ := q283
        refine wl_loadb C291 ty24 ((q286 1 rfl).trans rfl) [.int .i64 t8.Quota, .int .i64 t8.Sectors, v14] rfl rfl ?_
        refine wl_nil ?_
        exact qn ⟨_, _, rfl, (Ext.refl _ _), ⟨fr289, e290.trans (Ext.refl _ _), C291⟩, (aft_some rfl)⟩
      · intro D292 σ293 w294 hw295 q296 q297 q298 q299 q300 q301
        obtain ⟨fr302, e303, C304⟩ := q296
        obtain ⟨⟨_, m305⟩, ⟨_, m306⟩, _⟩ := q298
        have z307 : (σ293 14) = .agg #[.int .i64 t8.Quota, .int .i64 t8.Sectors, v14] := m305
        have z308 : (σ293 13) = .bool t36 := m306
        have f309 := f22.ext (s28.ext.trans (s31.ext.trans (e303)))
        refine wl_call [.agg #[.int .i64 t8.Quota, .int .i64 t8.Sectors, v14]] bod9 (mc z307 (mn _)) (consignorref20_Right.ok k fr302.wf t8 v14 f309 _ h46) ?_
        rintro e310 w311 ⟨hw312, rfl, s313⟩
        refine ⟨_, rfl, ?_⟩
        have fr314 := fr302.then0 s313
        refine wl_nil ?_
        have B315 := (C304.step0 s313)
        exact qn ⟨_, _, rfl, s313.ext, ⟨fr314, e303.trans s313.ext, B315⟩, (aft_some rfl)⟩
      · intro D316 σ317 w318 hw319 q320 q321 q322 q323 q324 q325
        obtain ⟨fr326, e327, C328⟩ := q320
        obtain ⟨⟨_, m329⟩, ⟨_, m330⟩, _⟩ := q322
        have z331 : (σ317 13) = .bool t36 := m329
        have z332 : (σ317 15) = .bool t45 := m330
        refine wl_neqb Tryz.underlying4 z331 z332 ?_
        refine wl_nil ?_
        exact qn ⟨_, _, rfl, (Ext.refl _ _), ⟨fr326, e327.trans (Ext.refl _ _), C328⟩, (aft_some rfl)⟩
      · intro D333 σ334 w335 hw336 q337 q338 q339 q340 q341 q342
        obtain ⟨fr343, e344, C345⟩ := q337
        obtain ⟨⟨_, m346⟩, ⟨_, m347⟩, _⟩ := q339
        have z348 : (σ334 16) = .bool (!(t36 == t45)) := m346
        have z349 : (σ334 15) = .bool t45 := m347
        refine wl_move (.bool (!(t36 == t45))) z348 ?_
        refine wl_nil ?_
        exact qn ⟨_, _, rfl, (Ext.refl _ _), ⟨fr343, e344.trans (Ext.refl _ _), C345⟩, (aft_some rfl)⟩
      · intro D350 σ351 w352 hw353 q354 q355 q356 q357 q358 q359
        obtain ⟨fr360, e361, C362⟩ := q354
        obtain ⟨⟨_, m363⟩, ⟨_, m364⟩, _⟩ := q356
        have z365 : (σ351 17) = .bool (!(t36 == t45)) := m363
        have z366 : (σ351 17) = .bool (!(t36 == t45)) := m364
        refine wl_off (yl rfl rfl z366) (by rw [b243] <;> rfl) ?_
        refine wl_nil ?_
        exact qn ⟨_, _, rfl, (Ext.refl _ _), ⟨fr360, e361.trans (Ext.refl _ _), C362⟩, (aft_some rfl)⟩
      · intro D367 σ368 w369 hw370 q371 q372 q373 q374 q375 q376
        obtain ⟨fr377, e378, C379⟩ := q371
        obtain ⟨⟨_, m380⟩, ⟨_, m381⟩, _⟩ := q373
        have z382 : (σ368 17) = .bool (!(t36 == t45)) := m381
        refine wl_off (yl rfl rfl z382) (by rw [b243] <;> rfl) ?_
        refine wl_nil ?_
        exact qn ⟨_, _, rfl, (Ext.refl _ _), ⟨fr377, e378.trans (Ext.refl _ _), C379⟩, (aft_some rfl)⟩
      · intro D383 σ384 w385 hw386 q387 q388 q389 q390 q391 q392
        obtain ⟨fr393, e394, C395⟩ := q387
        obtain ⟨⟨_, m396⟩, ⟨_, m397⟩, _⟩ := q389
        have z398 : (σ384 17) = .bool (!(t36 == t45)) := m396
        have z399 : (σ384 19) = undef := m397
        refine wl_pick_t (!(t36 == t45)) (.bool true) z398 (by rw [b243] <;> rfl) rfl ?_
        refine wl_nil ?_
        exact qn ⟨_, _, rfl, (Ext.refl _ _), ⟨fr393, e394.trans (Ext.refl _ _), C395⟩, (aft_some rfl)⟩
      · intro σ400 w401 hw402 q403 q404 q405
        obtain ⟨fr406, e407, C408⟩ := q403
        obtain ⟨m409, m410, m411, m412, m413, m414, m415, m416, m417, _⟩ := q405
        have z418 : (σ400 20) = .bool true := m417
        refine qn ?_
        exact ⟨_, _, _, true, rfl, (by omega), (by omega), fr406, (Ext.trans s31.ext e407), ((q404 1 rfl).trans rfl), ((q404 3 rfl).trans rfl), ((q404 4 rfl).trans rfl), z418, C408, h⟩
  · rintro _ w419 ⟨_, hw420, k421, x30, rfl, hk424, hk425, fr422, e423, z426, z427, z428, z429, B430, h⟩
    rcases k421 with _ | k421
    · rw [consignorlaw20_ScriptPrints.j0] at h; cases h
    rw [consignorlaw20_ScriptPrints.j0] at h
    by_cases c431 : x30 = true
    · replace h := (if_pos c431).symm.trans h
      refine wc_then z429 c431 ?_
      refine wc_seq ?_
      refine wc_region ?_
      refine wl_assign (.bool false) rfl ?_
      refine wl_nil ?_
      refine qn ?_
      refine wc_ret ?_
      refine qr ?_
      have h := Option.some.inj h
      subst h
      refine end1 rfl (.tmp rfl .nil) ?_
      exact ⟨_, rfl, fr422⟩
    · replace h := (if_neg c431).symm.trans h
      have b432 : x30 = false := Bool.eq_false_iff.2 c431
      refine wc_else z429 b432 ?_
      refine wc_skip ?_
      refine qn ?_
      refine wc_seq ?_
      refine wc_seq ?_
      refine wc_region ?_
      refine wl_loadb B430 ty24 z426 [.int .i64 t8.Quota, .int .i64 t8.Sectors, v14] rfl rfl ?_
      have f433 := f22.ext (s28.ext.trans (e423))
      obtain ⟨t434, h435, h⟩ := Option.bind_eq_some_iff.1 h
      refine wl_call [.agg #[.int .i64 t8.Quota, .int .i64 t8.Sectors, v14]] bod9 (mc rfl (mn _)) (consignorref20_Right.ok k421 fr422.wf t8 v14 f433 _ h435) ?_
      rintro e436 w437 ⟨hw438, rfl, s439⟩
      refine ⟨_, rfl, ?_⟩
      have fr440 := fr422.then0 s439
      refine wl_not rfl ?_
      refine wl_nil ?_
      refine qn ?_
      by_cases c441 : t434 = true
      · replace h := (if_pos c441).symm.trans h
        refine wc_else rfl (by rw [c441] <;> rfl) ?_
        refine wc_skip ?_
        refine qn ?_
        refine wc_seq ?_
        refine wc_region ?_
        refine wl_move (.int .i64 t23.2) z428 ?_
        refine wl_eql rfl rfl ?_
        refine wl_move (.bool (t23.2 == 0)) rfl ?_
        by_cases c442 : (t23.2 == 0) = true
        · replace h := (if_pos c442).symm.trans h
          refine wl_on (yl rfl rfl rfl) c442 ?_
          refine wl_move (.string (bs t23.1)) z427 ?_
          refine wl_on (yl rfl rfl rfl) c442 ?_
          have B443 := (B430.step0 s439)
          refine wl_loadb B443 ty24 z426 [.int .i64 t8.Quota, .int .i64 t8.Sectors, v14] rfl rfl ?_
          refine wl_on (yl rfl rfl rfl) c442 ?_
          have f444 := f433.ext (s439.ext)
          obtain ⟨t445, h446, h⟩ := Option.bind_eq_some_iff.1 h
          refine wl_call [.agg #[.int .i64 t8.Quota, .int .i64 t8.Sectors, v14]] bod11 (mc rfl (mn _)) (consignorref20_Text.ok k421 fr440.wf t8 v14 f444 (Gl.of gl fr440) _ h446) ?_
          rintro e447 w448 ⟨hw449, rfl, s450⟩
          refine ⟨_, rfl, ?_⟩
          have fr451 := fr440.then0 s450
          refine wl_on (yl rfl rfl rfl) c442 ?_
          refine wl_eqls rfl rfl ?_
          refine wl_pick_t (t23.2 == 0) (.bool (t23.1 == t445)) rfl c442 rfl ?_
          refine wl_assign (.bool (t23.1 == t445)) rfl ?_
          refine wl_nil ?_
          refine qn ?_
          refine wc_ret ?_
          have h := Option.some.inj h
          subst h
          refine end1 rfl (.tmp rfl .nil) ?_
          exact ⟨_, rfl, fr451⟩
        · replace h := (if_neg c442).symm.trans h
          have b452 : (t23.2 == 0) = false := Bool.eq_false_iff.2 c442
          refine wl_off (yl rfl rfl rfl) b452 ?_
          refine wl_off (yl rfl rfl rfl) b452 ?_
          refine wl_off (yl rfl rfl rfl) b452 ?_
          refine wl_off (yl rfl rfl rfl) b452 ?_
          refine wl_pick_f (t23.2 == 0) (.bool false) rfl b452 rfl ?_
          refine wl_assign (.bool false) rfl ?_
          refine wl_nil ?_
          refine qn ?_
          refine wc_ret ?_
          have h := Option.some.inj h
          subst h
          refine end1 rfl (.tmp rfl .nil) ?_
          exact ⟨_, rfl, fr440⟩
      · replace h := (if_neg c441).symm.trans h
        have b453 : t434 = false := Bool.eq_false_iff.2 c441
        refine wc_then rfl (by rw [b453] <;> rfl) ?_
        refine wc_seq ?_
        refine wc_region ?_
        refine wl_move (.int .i64 t23.2) z428 ?_
        refine wl_eql rfl rfl ?_
        refine wl_move (.bool (t23.2 == 1)) rfl ?_
        refine wl_join 3 [27, 28, 29] 29 (.bool ((t23.2 == 1) && (t23.1 == []))) ?_ ?_
        · rcases Bool.eq_false_or_eq_true (t23.2 == 1) with hcc | hcc
          · skip
            refine wl_on (yl rfl rfl rfl) hcc ?_
            refine wl_move (.string (bs t23.1)) z427 ?_
            refine wl_on (yl rfl rfl rfl) hcc ?_
            refine wl_eqls rfl rfl ?_
            refine wl_pick_t (t23.2 == 1) (.bool (t23.1 == [])) rfl hcc rfl ?_
            refine wl_nil ?_
            exact qn ⟨rfl, _, rfl, (by repeat (first | exact Same.refl _ _ | refine Same.upd ?_ rfl)), (by rw [hcc]; rfl)⟩
          · skip
            refine wl_off (yl rfl rfl rfl) hcc ?_
            refine wl_off (yl rfl rfl rfl) hcc ?_
            refine wl_pick_f (t23.2 == 1) (.bool false) rfl hcc rfl ?_
            refine wl_nil ?_
            exact qn ⟨rfl, _, rfl, (by repeat (first | exact Same.refl _ _ | refine Same.upd ?_ rfl)), (by rw [hcc]; rfl)⟩
        intro _ ho454 hv455
        refine wl_assign (.bool ((t23.2 == 1) && (t23.1 == []))) hv455 ?_
        refine wl_nil ?_
        refine qn ?_
        refine wc_ret ?_
        refine qr ?_
        have h := Option.some.inj h
        subst h
        refine end1 rfl (.tmp rfl .nil) ?_
        exact ⟨_, rfl, fr440⟩
end Go.Proofs.YtlaifpbickdpkaaGreatDoor
