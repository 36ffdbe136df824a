/- What the program's functions compute, and that they compute it: one contract a function, written by gw.py (own work). -/
import Derived.Test.YtlaifpbickdpkaaDoorT2
namespace Go.Proofs.YtlaifpbickdpkaaDoor
open Go.RowKit
set_option linter.unusedVariables false
set_option linter.unusedSimpArgs false

theorem bod12 : Bod Tryd.prog 12 := fun _ _ => by kernel_rfl
theorem bod13 : Bod Tryd.prog 13 := fun _ _ => by kernel_rfl
theorem bod14 : Bod Tryd.prog 14 := fun _ _ => by kernel_rfl
theorem bod23 : Bod Tryd.prog 23 := fun _ _ => by kernel_rfl
theorem bod24 : Bod Tryd.prog 24 := fun _ _ => by kernel_rfl
theorem bod25 : Bod Tryd.prog 25 := fun _ _ => by kernel_rfl
theorem bod36 : Bod Tryd.prog 36 := fun _ _ => by kernel_rfl
theorem bod37 : Bod Tryd.prog 37 := fun _ _ => by kernel_rfl
theorem bod5 : Bod Tryd.prog 5 := fun _ _ => by kernel_rfl
theorem bod51 : Bod Tryd.prog 51 := fun _ _ => by kernel_rfl
theorem bod6 : Bod Tryd.prog 6 := fun _ _ => by kernel_rfl
theorem fld41_0 : Fld Tryd.prog 41 0 0 := fun _ _ _ => by kernel_rfl
/-! ### consignor/script.numbers: function 24 -/
mutual
def script_numbers.l1 : Nat → (List (List UInt8)) → (List Int) → Int → (List UInt8) → Int → Int → Option (List Int)
  | 0, _, _, _, _, _, _ => none
  | k + 1, a0, l5, x6, t22, x31, x32 => if x32 < (if 14 < (t22.length : Int) then 14 else (t22.length : Int)) then (if 0 ≤ x32 then (if x32 < (t22.length : Int) then (script_numbers.l1 k a0 l5 x6 t22 (IntKind.i64.wrap ((IntKind.i64.wrap (10 * x31)) + (if (IntKind.i64.wrap ((IntKind.i64.wrap ((t22.getD (Int.toNat x32) 0).toNat : Int)) - 48)) < 0 then 0 else (IntKind.i64.wrap ((IntKind.i64.wrap ((t22.getD (Int.toNat x32) 0).toNat : Int)) - 48))))) (IntKind.i64.wrap (x32 + 1))) else none) else none) else (if (l5.length + ([x31]).length) * 8 ≤ 140737488355328 then (script_numbers.l0 k a0 (l5 ++ ([x31])) (IntKind.i64.wrap (x6 + 1))) else none)
def script_numbers.l0 : Nat → (List (List UInt8)) → (List Int) → Int → Option (List Int)
  | 0, _, _, _ => none
  | k + 1, a0, l5, x6 => if x6 < (a0.length : Int) then (if 0 ≤ x6 then ((a0[Int.toNat x6]?).bind fun t22 => (script_numbers.l1 k a0 l5 x6 t22 0 0)) else none) else (some l5)
end
def script_numbers.f (k : Nat) (a0 : (List (List UInt8))) : Option (List Int) := script_numbers.l0 k a0 [] 0
set_option maxHeartbeats 1000000 in
theorem script_numbers.ok (k : Nat) {w0 : World} {hw0 : Hw} (wf : Hwf w0 hw0) (a0 : (List (List UInt8))) (v0_ : Value) (q0 : Row Kstr w0 hw0 v0_ a0) (r : (List Int)) (h : script_numbers.f k a0 = some r) :
    Calls Tryd.prog 24 #[v0_] w0 fun e w' => ∃ (v0 : Value) (hw' : Hw), e = .returned (v0) ∧ Stp none w0 hw0 w' hw' ∧ Own (Kint .i64) 3 w0.heap.size w' hw' v0 r := by
  have fr0 := Stp.refl none (w := w0) (hw := hw0) wf
  unfold script_numbers.f at h
  refine enter (n := 36) Tryd.func24 rfl rfl (Nat.le_of_ble_eq_true rfl) ?_
  refine wc_seq ?_
  refine wc_region ?_
  refine wl_assign (.slice none 0 0) rfl ?_
  refine wl_nil ?_
  refine qn ?_
  refine wc_seq ?_
  refine wc_region ?_
  refine wl_assign (.slice none 0 0) rfl ?_
  refine wl_nil ?_
  refine qn ?_
  refine wc_seq ?_
  refine wc_seq ?_
  refine wc_region ?_
  refine wl_move (v0_) rfl ?_
  obtain ⟨A1, c2, hv3⟩ := (q0).slice
  refine wl_len Tryd.underlying36 (show _ = Value.slice _ a0.length _ from (Eq.trans rfl hv3)) ?_
  refine wl_move (.int .i64 0) rfl ?_
  refine wl_nil ?_
  refine qn ?_
  refine wc_block ?_
  refine wc_loop (fun m a w => ∃ (σ : Nat → Value) (hw : Hw) (kq : Nat) (v4 : Value) (l5 : (List Int)) (x6 : Int), a = mkA 36 σ ∧ kq ≤ m ∧ kq ≤ k ∧ Stp none w0 hw0 w hw ∧ Ext w0 hw0 w hw ∧ σ 3 = v4 ∧ σ 8 = v0_ ∧ σ 9 = .int .i64 (a0.length : Int) ∧ σ 10 = .int .i64 x6 ∧ Own (Kint .i64) 3 w0.heap.size w hw v4 l5 ∧ script_numbers.l0 kq a0 l5 x6 = some r) k ?_ ?_ ?_
  · skip
    exact ⟨_, _, _, (.slice none 0 0), [], 0, rfl, (Nat.le_refl _), (Nat.le_refl _), fr0, (Ext.refl _ _), rfl, rfl, rfl, rfl, (Own.nil _ _ _ _ _), h⟩
  · rintro _ _ ⟨_, hw8, k9, v4, l5, x6, rfl, hk12, hk13, fr10, e11, z14, z15, z16, z17, r18, h⟩; obtain rfl := Nat.le_zero.1 hk12; rw [script_numbers.l0] at h; cases h
  · rintro m0 _ w7 ⟨_, hw8, k9, v4, l5, x6, rfl, hk12, hk13, fr10, e11, z14, z15, z16, z17, r18, h⟩
    rcases k9 with _ | k9
    · rw [script_numbers.l0] at h; cases h
    rw [script_numbers.l0] at h
    refine wc_seq ?_
    refine wc_region ?_
    refine wl_lss z17 z16 ?_
    refine wl_nil ?_
    refine qn ?_
    refine wc_seq ?_
    by_cases c19 : x6 < (a0.length : Int)
    · replace h := (if_pos c19).symm.trans h
      have b20 : (decide (x6 < (a0.length : Int))) = true := decide_eq_true c19
      refine wc_then rfl b20 ?_
      refine wc_skip ?_
      refine qn ?_
      refine wc_seq ?_
      refine wc_block ?_
      refine wc_seq ?_
      refine wc_region ?_
      by_cases c21 : 0 ≤ x6
      · replace h := (if_pos c21).symm.trans h
        obtain ⟨t22, h23, h⟩ := Option.bind_eq_some_iff.1 h
        have c24 := at_lt c21 h23
        have f30 := q0.ext (e11)
        refine wl_at Tryd.underlying36 ty9 f30 z15 z17 c21 c24 t22 h23 ?_
        rintro B25 o26 cs27 rfl l29
        refine wl_load1 ty9 rfl (.string (bs t22)) (l29.2 0 _ rfl) ?_
        refine wl_assign (.string (bs t22)) rfl ?_
        refine wl_nil ?_
        refine qn ?_
        refine wc_seq ?_
        refine wc_region ?_
        refine wl_assign (.int .i64 0) rfl ?_
        refine wl_nil ?_
        refine qn ?_
        refine wc_seq ?_
        refine wc_seq ?_
        refine wc_region ?_
        refine wl_move (.string (bs t22)) rfl ?_
        refine wl_lens Tryd.underlying9 rfl ?_
        refine wl_min2 rfl rfl ?_
        refine wl_move (.int .i64 0) rfl ?_
        refine wl_nil ?_
        refine qn ?_
        refine wc_block ?_
        refine wc_loop (fun m a w => ∃ (σ : Nat → Value) (hw : Hw) (kq : Nat) (x31 : Int) (x32 : Int), a = mkA 36 σ ∧ kq ≤ m ∧ kq ≤ k9 ∧ Stp none w0 hw0 w hw ∧ Ext w7 hw8 w hw ∧ σ 3 = v4 ∧ σ 5 = .string (bs t22) ∧ σ 6 = .int .i64 x31 ∧ σ 8 = v0_ ∧ σ 9 = .int .i64 (a0.length : Int) ∧ σ 10 = .int .i64 x6 ∧ σ 16 = .int .i64 (if 14 < (t22.length : Int) then 14 else (t22.length : Int)) ∧ σ 17 = .int .i64 x32 ∧ Own (Kint .i64) 3 w0.heap.size w hw v4 l5 ∧ script_numbers.l1 kq a0 l5 x6 t22 x31 x32 = some r) k9 ?_ ?_ ?_
        · skip
          exact ⟨_, _, _, 0, 0, rfl, (Nat.le_refl _), (Nat.le_refl _), fr10, (Ext.refl _ _), z14, rfl, rfl, z15, z16, z17, rfl, rfl, r18, h⟩
        · rintro _ _ ⟨_, hw34, k35, x31, x32, rfl, hk38, hk39, fr36, e37, z40, z41, z42, z43, z44, z45, z46, z47, O48, h⟩; obtain rfl := Nat.le_zero.1 hk38; rw [script_numbers.l1] at h; cases h
        · rintro m1 _ w33 ⟨_, hw34, k35, x31, x32, rfl, hk38, hk39, fr36, e37, z40, z41, z42, z43, z44, z45, z46, z47, O48, h⟩
          rcases k35 with _ | k35
          · rw [script_numbers.l1] at h; cases h
          rw [script_numbers.l1] at h
          refine wc_seq ?_
          refine wc_region ?_
          refine wl_lss z47 z46 ?_
          refine wl_nil ?_
          refine qn ?_
          refine wc_seq ?_
          by_cases c49 : x32 < (if 14 < (t22.length : Int) then 14 else (t22.length : Int))
          · replace h := (if_pos c49).symm.trans h
            have b50 : (decide (x32 < (if 14 < (t22.length : Int) then 14 else (t22.length : Int)))) = true := decide_eq_true c49
            refine wc_then rfl b50 ?_
            refine wc_skip ?_
            refine qn ?_
            refine wc_seq ?_
            refine wc_block ?_
            refine wc_seq ?_
            refine wc_region ?_
            refine wl_move (.int .i64 x32) z47 ?_
            refine wl_assign (.int .i64 x32) rfl ?_
            refine wl_nil ?_
            refine qn ?_
            refine wc_region ?_
            refine wl_move (.int .i64 x31) z42 ?_
            refine wl_mul rfl rfl ?_
            refine wl_move (.string (bs t22)) z41 ?_
            refine wl_move (.int .i64 x32) rfl ?_
            by_cases c51 : 0 ≤ x32
            · replace h := (if_pos c51).symm.trans h
              by_cases c52 : x32 < (t22.length : Int)
              · replace h := (if_pos c52).symm.trans h
                refine wl_bt Tryd.underlying9 rfl rfl c51 c52 ?_
                refine wl_conv_int Tryd.underlying5 Tryd.underlying3 rfl ?_
                refine wl_sub rfl rfl ?_
                refine wl_max2 rfl rfl ?_
                refine wl_add rfl rfl ?_
                refine wl_assign (.int .i64 (IntKind.i64.wrap ((IntKind.i64.wrap (10 * x31)) + (if (IntKind.i64.wrap ((IntKind.i64.wrap ((t22.getD (Int.toNat x32) 0).toNat : Int)) - 48)) < 0 then 0 else (IntKind.i64.wrap ((IntKind.i64.wrap ((t22.getD (Int.toNat x32) 0).toNat : Int)) - 48)))))) rfl ?_
                refine wl_nil ?_
                refine bn ?_
                refine qn ?_
                refine wc_region ?_
                refine wl_add z47 rfl ?_
                refine wl_move (.int .i64 (IntKind.i64.wrap (x32 + 1))) rfl ?_
                refine wl_nil ?_
                refine qn ?_
                exact ⟨_, _, _, (IntKind.i64.wrap ((IntKind.i64.wrap (10 * x31)) + (if (IntKind.i64.wrap ((IntKind.i64.wrap ((t22.getD (Int.toNat x32) 0).toNat : Int)) - 48)) < 0 then 0 else (IntKind.i64.wrap ((IntKind.i64.wrap ((t22.getD (Int.toNat x32) 0).toNat : Int)) - 48))))), (IntKind.i64.wrap (x32 + 1)), rfl, (by omega), (by omega), fr36, e37, z40, z41, rfl, z43, z44, z45, z46, rfl, O48, h⟩
              · replace h := (if_neg c52).symm.trans h
                cases h
            · replace h := (if_neg c51).symm.trans h
              cases h
          · replace h := (if_neg c49).symm.trans h
            have b53 : (decide (x32 < (if 14 < (t22.length : Int) then 14 else (t22.length : Int)))) = false := decide_eq_false c49
            refine wc_else rfl b53 ?_
            refine wc_exit ?_
            refine qe ?_
            refine qe ?_
            refine be ?_
            refine qn ?_
            refine wc_region ?_
            refine wl_move (v4) z40 ?_
            refine wl_move (.int .i64 x31) z42 ?_
            have hb54 : ∀ w : World, (Instr.buildSlice 35 1 #[(0, .int .i64 x31)]).run Tryd.prog w = .ok (.slice (some ⟨w.heap.size, 0, none⟩) 1 1) (w.alloc (.cells (List.toArray [.int .i64 x31]) 3)) := fun _ => by kernel_rfl
            refine wl_lit (KD := (Kint .i64)) fr36.wf [.int .i64 x31] [x31] (pc rfl (pn _ _)) (hb54 _) rfl (by decide) ⟨[.int .i64 x31], _, rfl, rfl, rfl⟩ ?_
            intro v55 w56 hw57 O59 s58
            have n60 := own_dis_new O59 O48
            replace O59 := O59.low fr36.g.size
            have fr61 := fr36.then0 s58
            by_cases c62 : (l5.length + ([x31]).length) * 8 ≤ 140737488355328
            · replace h := (if_pos c62).symm.trans h
              have c63 : l5.length + ([x31]).length ≤ 9223372036854775807 := by omega
              have O64 := (O48.step0 s58)
              refine wl_app Tryd.underlying35 ty3 rfl (by decide) fr61.wf O64 O59.row rfl rfl c63 c62 fr61.g.size ?_
              intro v65 w66 hw67 O69 s68 lo70
              have n71 := app_dis lo70 n60.symm O59
              have fr72 := fr61.then s68 (fun _ e => (O64.new _ e).1)
              refine wl_assign (v65) rfl ?_
              refine wl_nil ?_
              refine bn ?_
              refine qn ?_
              refine wc_region ?_
              refine wl_add z45 rfl ?_
              refine wl_move (.int .i64 (IntKind.i64.wrap (x6 + 1))) rfl ?_
              refine wl_nil ?_
              refine qn ?_
              exact ⟨_, _, _, v65, (l5 ++ ([x31])), (IntKind.i64.wrap (x6 + 1)), rfl, (by omega), (by omega), fr72, (Ext.trans e11 (Ext.trans e37 (Ext.trans s58.ext s68.ext))), rfl, z43, z44, rfl, O69, h⟩
            · replace h := (if_neg c62).symm.trans h
              cases h
      · replace h := (if_neg c21).symm.trans h
        cases h
    · replace h := (if_neg c19).symm.trans h
      have b73 : (decide (x6 < (a0.length : Int))) = false := decide_eq_false c19
      refine wc_else rfl b73 ?_
      refine wc_exit ?_
      refine qe ?_
      refine qe ?_
      refine be ?_
      refine qn ?_
      refine wc_seq ?_
      refine wc_region ?_
      refine wl_move (v4) z14 ?_
      refine wl_assign (v4) rfl ?_
      refine wl_nil ?_
      refine qn ?_
      refine wc_ret ?_
      have h := Option.some.inj h
      subst h
      refine end1 rfl (.tmp rfl .nil) ?_
      exact ⟨v4, _, rfl, fr10, r18⟩
/-! ### consignor/script.begin: function 13 -/
def script_begin.j0 : Nat → (List UInt8) → (List (List UInt8)) → Bool → Option (ApiPlan × Bool)
  | 0, _, _, _ => none
  | k + 1, a0, t7, x17 => if x17 = true then (some ((⟨0, 0, []⟩ : ApiPlan), false)) else (if (1 : Int) ≤ (t7.length : Int) then ((script_numbers.f k ((t7.take (Int.toNat (t7.length : Int))).drop (Int.toNat 1))).bind fun t56 => ((t56[Int.toNat 0]?).bind fun t73 => ((t56[Int.toNat 1]?).bind fun t81 => ((script_begins.f k (⟨t73, t81, []⟩ : ApiPlan)).bind fun t370 => (if t370 = true then ((t7[Int.toNat 0]?).bind fun t378 => ((script_line.f k t378 t56 []).bind fun t388 => (if a0.length + ([10] : List UInt8).length ≤ 9223372036854775807 then (some ((⟨t73, t81, []⟩ : ApiPlan), (t388 == (a0 ++ ([10] : List UInt8))))) else none))) else (some ((⟨t73, t81, []⟩ : ApiPlan), false))))))) else none)
def script_begin.f (k : Nat) (a0 : (List UInt8)) : Option (ApiPlan × Bool) := (strings_Split.f k a0 ([32] : List UInt8)).bind fun t7 => (if ((t7.length : Int) != 3) = true then (script_begin.j0 k a0 t7 true) else ((t7[Int.toNat 0]?).bind fun t24 => (script_begin.j0 k a0 t7 (!(t24 == ([119, 111, 114, 108, 100] : List UInt8))))))
set_option maxHeartbeats 1000000 in
theorem script_begin.ok (k : Nat) {w0 : World} {hw0 : Hw} (wf : Hwf w0 hw0) (a0 : (List UInt8)) (gl : Gl w0 hw0) (r : (ApiPlan × Bool)) (h : script_begin.f k a0 = some r) :
    Calls Tryd.prog 13 #[.string (bs a0)] w0 fun e w' => ∃ (v0_2 : Value) (hw' : Hw), e = .returned (.tuple #[.agg #[.int .i64 r.1.Quota, .int .i64 r.1.Sectors, v0_2], .bool r.2]) ∧ Stp none w0 hw0 w' hw' ∧ Own KApiDeed 38 w0.heap.size w' hw' v0_2 r.1.Deeds := by
  have fr0 := Stp.refl none (w := w0) (hw := hw0) wf
  unfold script_begin.f at h
  refine enter (n := 42) Tryd.func13 rfl rfl (Nat.le_of_ble_eq_true rfl) ?_
  refine wc_seq ?_
  refine wc_region ?_
  refine wl_alloc fr0.wf fr0.g.size ty24 [.int .i64 0, .int .i64 0, .slice none 0 0] rfl ?_
  intro b1 w2 s3 B4 g5
  have fr6 := fr0.then0 s3
  refine wl_assign (.bool false) rfl ?_
  refine wl_nil ?_
  refine qn ?_
  refine wc_seq ?_
  refine wc_region ?_
  refine wl_move (.string (bs a0)) rfl ?_
  obtain ⟨t7, h8, h⟩ := Option.bind_eq_some_iff.1 h
  refine wl_call [.string (bs a0), .string (bs ([32] : List UInt8))] bod23 (mc rfl (mc rfl (mn _))) (strings_Split.ok k fr6.wf a0 ([32] : List UInt8) (Gl.of gl fr6) _ h8) ?_
  rintro e9 w10 ⟨v13, hw11, rfl, s12, O14⟩
  refine ⟨_, rfl, ?_⟩
  have n15 := own_new_lt O14 B4.lt
  replace O14 := O14.low fr6.g.size
  have fr16 := fr6.then0 s12
  refine wl_assign (v13) rfl ?_
  refine wl_nil ?_
  refine qn ?_
  refine wc_seq ?_
  refine wc_cut (fun a w => ∃ (σ : Nat → Value) (hw : Hw) (kq : Nat) (x17 : Bool), a = mkA 42 σ ∧ kq ≤ k ∧ kq ≤ k ∧ Stp none w0 hw0 w hw ∧ Ext w10 hw11 w hw ∧ σ 0 = .string (bs a0) ∧ σ 2 = .pointer (some ⟨b1, 0, none⟩) ∧ σ 4 = v13 ∧ σ 17 = .bool x17 ∧ Box w0.heap.size w hw b1 24 [.int .i64 0, .int .i64 0, .slice none 0 0] ∧ Own Kstr 9 w0.heap.size w hw v13 t7 ∧ script_begin.j0 kq a0 t7 x17 = some r) ?_ ?_
  · skip
    refine wc_region ?_
    refine wl_move (v13) rfl ?_
    obtain ⟨A18, c19, hv20⟩ := (O14.row).slice
    refine wl_len Tryd.underlying36 (show _ = Value.slice _ t7.length _ from (Eq.trans rfl hv20)) ?_
    refine wl_neq rfl rfl ?_
    refine wl_move (.bool ((t7.length : Int) != 3)) rfl ?_
    by_cases c21 : ((t7.length : Int) != 3) = true
    · replace h := (if_pos c21).symm.trans h
      refine wl_off (yl rfl rfl rfl) c21 ?_
      refine wl_off (yl rfl rfl rfl) c21 ?_
      refine wl_off (yl rfl rfl rfl) c21 ?_
      refine wl_off (yl rfl rfl rfl) c21 ?_
      refine wl_pick_t ((t7.length : Int) != 3) (.bool true) rfl c21 rfl ?_
      refine wl_nil ?_
      refine qn ?_
      have B22 := (B4.step0 s12)
      exact ⟨_, _, _, true, rfl, (by omega), (by omega), fr16, (Ext.refl _ _), rfl, rfl, rfl, rfl, B22, O14, h⟩
    · replace h := (if_neg c21).symm.trans h
      have b23 : ((t7.length : Int) != 3) = false := Bool.eq_false_iff.2 c21
      refine wl_on (yl rfl rfl rfl) b23 ?_
      refine wl_move (v13) rfl ?_
      refine wl_on (yl rfl rfl rfl) b23 ?_
      obtain ⟨t24, h25, h⟩ := Option.bind_eq_some_iff.1 h
      have c26 := at_lt (by decide) h25
      refine wl_at Tryd.underlying36 ty9 O14.row rfl rfl (by decide) c26 t24 h25 ?_
      rintro B27 o28 cs29 rfl l31
      refine wl_on (yl rfl rfl rfl) b23 ?_
      refine wl_load1 ty9 rfl (.string (bs t24)) (l31.2 0 _ rfl) ?_
      refine wl_on (yl rfl rfl rfl) b23 ?_
      refine wl_neqs rfl rfl ?_
      refine wl_pick_f ((t7.length : Int) != 3) (.bool (!(t24 == ([119, 111, 114, 108, 100] : List UInt8)))) rfl b23 rfl ?_
      refine wl_nil ?_
      refine qn ?_
      have B32 := (B4.step0 s12)
      exact ⟨_, _, _, (!(t24 == ([119, 111, 114, 108, 100] : List UInt8))), rfl, (by omega), (by omega), fr16, (Ext.refl _ _), rfl, rfl, rfl, rfl, B32, O14, h⟩
  · rintro _ w33 ⟨_, hw34, k35, x17, rfl, hk38, hk39, fr36, e37, z40, z41, z42, z43, B44, O45, h⟩
    rcases k35 with _ | k35
    · rw [script_begin.j0] at h; cases h
    rw [script_begin.j0] at h
    by_cases c46 : x17 = true
    · replace h := (if_pos c46).symm.trans h
      refine wc_then z43 c46 ?_
      refine wc_seq ?_
      refine wc_region ?_
      have hb47 : ∀ w, (Instr.build 24 #[]).run Tryd.prog w = .ok (.agg (List.toArray [.int .i64 0, .int .i64 0, .slice none 0 0])) w := by intro  _; kernel_rfl
      refine wl_build [.int .i64 0, .int .i64 0, .slice none 0 0] (pn _ _) (hb47 _) ?_
      refine wl_store B44 fr36.wf ty24 z41 [.int .i64 0, .int .i64 0, .slice none 0 0] (cells_of (v := (.agg #[.int .i64 0, .int .i64 0, .slice none 0 0])) rfl rfl) rfl (Nat.le_of_ble_eq_true rfl) (by intro u hu; simp only [List.mem_cons, List.not_mem_nil, or_false] at hu; rcases hu with rfl | rfl | rfl <;> first | rfl | exact Dy.one _) [.int .i64 0, .int .i64 0, .slice none 0 0] rfl ?_
      intro w48 s49 B50
      have fr51 := fr36.then s49 (fun _ e => (Option.some.inj e ▸ B44.new))
      refine wl_assign (.bool false) rfl ?_
      refine wl_nil ?_
      refine qn ?_
      refine wc_ret ?_
      refine qr ?_
      have h := Option.some.inj h
      subst h
      refine end2 rfl (.cell z41 (ty24.load (l := [.int .i64 0, .int .i64 0, .slice none 0 0]) rfl (B50.cells rfl)) (.tmp rfl .nil)) ?_
      exact ⟨(.slice none 0 0), _, rfl, fr51, (Own.nil _ _ _ _ _)⟩
    · replace h := (if_neg c46).symm.trans h
      have b52 : x17 = false := Bool.eq_false_iff.2 c46
      refine wc_else z43 b52 ?_
      refine wc_skip ?_
      refine qn ?_
      refine wc_seq ?_
      refine wc_region ?_
      refine wl_move (v13) z42 ?_
      by_cases c53 : (1 : Int) ≤ (t7.length : Int)
      · replace h := (if_pos c53).symm.trans h
        refine wl_cut Tryd.underlying36 ty9 O45.row rfl (Bd.yes rfl) Bd.no (by first | decide | omega | simp) c53 (by first | decide | omega | simp) ?_
        intro v54 f55
        obtain ⟨t56, h57, h⟩ := Option.bind_eq_some_iff.1 h
        refine wl_call [v54] bod24 (mc rfl (mn _)) (script_numbers.ok k35 fr36.wf ((t7.take (Int.toNat (t7.length : Int))).drop (Int.toNat 1)) v54 f55 _ h57) ?_
        rintro e58 w59 ⟨v62, hw60, rfl, s61, O63⟩
        refine ⟨_, rfl, ?_⟩
        have n64 := own_new_lt O63 B44.lt
        have n65 := own_dis_new O63 O45
        replace O63 := O63.low fr36.g.size
        have fr66 := fr36.then0 s61
        refine wl_assign (v62) rfl ?_
        refine wl_nil ?_
        refine qn ?_
        refine wc_seq ?_
        have s67 := Stp.drew (w := w59) (hw := hw60) fr66.wf
        have fr68 := fr66.then0 s67
        have B69 := ((B44.step0 s61).step0 s67)
        have O70 := ((O45.step0 s61).step0 s67)
        have O71 := (O63.step0 s67)
        obtain ⟨t73, h74, h⟩ := Option.bind_eq_some_iff.1 h
        obtain ⟨t81, h82, h⟩ := Option.bind_eq_some_iff.1 h
        refine wc_any (hw := hw60) mixed [[], [0], [1], [], [3], [4], [2, 5], [], [7, 6, 0, 1, 2, 3, 4, 5, 6, 7]] [22, 23, 24, 25, 26, 27, 28, 6] (by kernel_rfl) (PhiOf [fun v w hw => v = v62, fun v w hw => ∃ (B76 : Nat) (o77 : Nat), v = .pointer (some ⟨B76, o77, none⟩) ∧ Live w hw B76 o77 [.int .i64 t73], fun v w hw => v = .int .i64 t73, fun v w hw => v = v62, fun v w hw => ∃ (B84 : Nat) (o85 : Nat), v = .pointer (some ⟨B84, o85, none⟩) ∧ Live w hw B84 o85 [.int .i64 t81], fun v w hw => v = .int .i64 t81, fun v w hw => v = .agg #[.int .i64 t73, .int .i64 t81, .slice none 0 0], fun v w hw => True, fun v w hw => True]) (fun D σ w hw => Stp none w0 hw0 w hw ∧ Ext (w59).drew hw60 w hw ∧ Box w0.heap.size w hw b1 24 [.int .i64 0, .int .i64 0, .slice none 0 0] ∧ Own Kstr 9 w0.heap.size w hw v13 t7 ∧ Own (Kint .i64) 3 w0.heap.size w hw v62 t56 ∧ (bif D 7 then (Box w0.heap.size w hw (blk (σ 6)) 24 [(bif D 8 then .int .i64 t73 else .int .i64 0), (bif D 8 then .int .i64 t81 else .int .i64 0), (bif D 8 then .slice none 0 0 else .slice none 0 0)] ∧ b1 ≠ (blk (σ 6)) ∧ Value.ownBlock v13 ≠ some (blk (σ 6)) ∧ Value.ownBlock v62 ≠ some (blk (σ 6))) else True) ∧ (bif D 7 then σ 6 = .pointer (some ⟨(blk (σ 6)), 0, none⟩) else True)) (stab_of (sbc (fun _ _ _ _ _ _ h => h) (sbc (fun _ _ _ _ _ e ⟨B76, o77, hv, F0⟩ => ⟨B76, o77, hv, F0.ext e⟩) (sbc (fun _ _ _ _ _ _ h => h) (sbc (fun _ _ _ _ _ _ h => h) (sbc (fun _ _ _ _ _ e ⟨B84, o85, hv, F0⟩ => ⟨B84, o85, hv, F0.ext e⟩) (sbc (fun _ _ _ _ _ _ h => h) (sbc (fun _ _ _ _ _ _ h => h) (sbc (fun _ _ _ _ _ _ h => h) (sbc (fun _ _ _ _ _ _ h => h) sbn)))))))))) ?_ (stc ?_ (stc ?_ (stc ?_ (stc ?_ (stc ?_ (stc ?_ (stc ?_ (stc ?_ (stc ?_ stn))))))))) ?_
        · exact ⟨fr68, Ext.refl _ _, B69, O70, O71, trivial, trivial⟩
        · intro D103 σ104 w105 hw106 q107 q108 q109 q110 q111 q112
          obtain ⟨fr113, e114, C115, C116, C117, C118, C119⟩ := q107
          refine wl_move (v62) ((q110 5 rfl).trans rfl) ?_
          refine wl_nil ?_
          exact qn ⟨_, _, rfl, (Ext.refl _ _), ⟨fr113, e114.trans (Ext.refl _ _), C115, C116, C117, C118, C119⟩, (aft_some rfl)⟩
        · intro D120 σ121 w122 hw123 q124 q125 q126 q127 q128 q129
          obtain ⟨fr130, e131, C132, C133, C134, C135, C136⟩ := q124
          obtain ⟨⟨_, m137⟩, _⟩ := q126
          have z138 : (σ121 22) = v62 := m137
          have c139 := at_lt (by decide) h74
          refine wl_at Tryd.underlying35 ty3 C134.row z138 rfl (by decide) c139 t73 h74 ?_
          rintro B140 o141 cs142 rfl l144
          refine wl_nil ?_
          exact qn ⟨_, _, rfl, (Ext.refl _ _), ⟨fr130, e131.trans (Ext.refl _ _), C132, C133, C134, C135, C136⟩, (aft_some (show ∃ (B76 : Nat) (o77 : Nat), (.pointer (some ⟨B140, o141, none⟩) : Value) = .pointer (some ⟨B76, o77, none⟩) ∧ Live w122 hw123 B76 o77 [.int .i64 t73] from ⟨B140, o141, rfl, l144⟩))⟩
        · intro D145 σ146 w147 hw148 q149 q150 q151 q152 q153 q154
          obtain ⟨fr155, e156, C157, C158, C159, C160, C161⟩ := q149
          obtain ⟨⟨_, m162⟩, _⟩ := q151
          obtain ⟨B163, o164, z165, f166⟩ : ∃ (B76 : Nat) (o77 : Nat), (σ146 23) = .pointer (some ⟨B76, o77, none⟩) ∧ Live w147 hw148 B76 o77 [.int .i64 t73] := m162
          refine wl_load1 ty3 z165 (.int .i64 t73) (f166.2 0 _ rfl) ?_
          refine wl_nil ?_
          exact qn ⟨_, _, rfl, (Ext.refl _ _), ⟨fr155, e156.trans (Ext.refl _ _), C157, C158, C159, C160, C161⟩, (aft_some rfl)⟩
        · intro D167 σ168 w169 hw170 q171 q172 q173 q174 q175 q176
          obtain ⟨fr177, e178, C179, C180, C181, C182, C183⟩ := q171
          refine wl_move (v62) ((q174 5 rfl).trans rfl) ?_
          refine wl_nil ?_
          exact qn ⟨_, _, rfl, (Ext.refl _ _), ⟨fr177, e178.trans (Ext.refl _ _), C179, C180, C181, C182, C183⟩, (aft_some rfl)⟩
        · intro D184 σ185 w186 hw187 q188 q189 q190 q191 q192 q193
          obtain ⟨fr194, e195, C196, C197, C198, C199, C200⟩ := q188
          obtain ⟨⟨_, m201⟩, _⟩ := q190
          have z202 : (σ185 25) = v62 := m201
          have c203 := at_lt (by decide) h82
          refine wl_at Tryd.underlying35 ty3 C198.row z202 rfl (by decide) c203 t81 h82 ?_
          rintro B204 o205 cs206 rfl l208
          refine wl_nil ?_
          exact qn ⟨_, _, rfl, (Ext.refl _ _), ⟨fr194, e195.trans (Ext.refl _ _), C196, C197, C198, C199, C200⟩, (aft_some (show ∃ (B84 : Nat) (o85 : Nat), (.pointer (some ⟨B204, o205, none⟩) : Value) = .pointer (some ⟨B84, o85, none⟩) ∧ Live w186 hw187 B84 o85 [.int .i64 t81] from ⟨B204, o205, rfl, l208⟩))⟩
        · intro D209 σ210 w211 hw212 q213 q214 q215 q216 q217 q218
          obtain ⟨fr219, e220, C221, C222, C223, C224, C225⟩ := q213
          obtain ⟨⟨_, m226⟩, _⟩ := q215
          obtain ⟨B227, o228, z229, f230⟩ : ∃ (B84 : Nat) (o85 : Nat), (σ210 26) = .pointer (some ⟨B84, o85, none⟩) ∧ Live w211 hw212 B84 o85 [.int .i64 t81] := m226
          refine wl_load1 ty3 z229 (.int .i64 t81) (f230.2 0 _ rfl) ?_
          refine wl_nil ?_
          exact qn ⟨_, _, rfl, (Ext.refl _ _), ⟨fr219, e220.trans (Ext.refl _ _), C221, C222, C223, C224, C225⟩, (aft_some rfl)⟩
        · intro D231 σ232 w233 hw234 q235 q236 q237 q238 q239 q240
          obtain ⟨fr241, e242, C243, C244, C245, C246, C247⟩ := q235
          obtain ⟨⟨_, m248⟩, ⟨_, m249⟩, _⟩ := q237
          have z250 : (σ232 24) = .int .i64 t73 := m248
          have z251 : (σ232 27) = .int .i64 t81 := m249
          have hb252 : ∀ w, (Instr.build 24 #[(0, .int .i64 t73), (1, .int .i64 t81)]).run Tryd.prog w = .ok (.agg (List.toArray [.int .i64 t73, .int .i64 t81, .slice none 0 0])) w := by intro  _; kernel_rfl
          refine wl_build [.int .i64 t73, .int .i64 t81, .slice none 0 0] (pc z250 (pc z251 (pn _ _))) (hb252 _) ?_
          refine wl_nil ?_
          exact qn ⟨_, _, rfl, (Ext.refl _ _), ⟨fr241, e242.trans (Ext.refl _ _), C243, C244, C245, C246, C247⟩, (aft_some rfl)⟩
        · intro D253 σ254 w255 hw256 q257 q258 q259 q260 q261 q262
          obtain ⟨fr263, e264, C265, C266, C267, C268, C269⟩ := q257
          refine wl_alloc fr263.wf fr263.g.size ty24 [.int .i64 0, .int .i64 0, .slice none 0 0] rfl ?_
          intro b270 w271 s272 B273 g274
          have n275 : b1 ≠ b270 := C265.ne g274
          have n276 := C266.ne g274
          have n277 := C267.ne g274
          have fr278 := fr263.then0 s272
          refine wl_nil ?_
          have B279 := (C265.step0 s272)
          have O280 := (C266.step0 s272)
          have O281 := (C267.step0 s272)
          exact qn ⟨_, _, rfl, s272.ext, ⟨fr278, e264.trans s272.ext, B279, O280, O281, ⟨(Box.retype B273 (show ([.int .i64 0, .int .i64 0, .slice none 0 0] : List Value) = [(bif D253 8 then .int .i64 t73 else .int .i64 0), (bif D253 8 then .int .i64 t81 else .int .i64 0), (bif D253 8 then .slice none 0 0 else .slice none 0 0)] from by rw [show D253 8 = false from (q262 8 rfl)] <;> rfl)), n275, n276, n277⟩, rfl⟩, (aft_some trivial)⟩
        · intro D282 σ283 w284 hw285 q286 q287 q288 q289 q290 q291
          obtain ⟨fr292, e293, C294, C295, C296, C297, C298⟩ := q286
          obtain ⟨B299, n300, n301, n302⟩ := bif_t (q290 7 rfl) C297
          obtain ⟨⟨_, m303⟩, ⟨_, m304⟩, ⟨_, m305⟩, ⟨_, m306⟩, ⟨_, m307⟩, ⟨_, m308⟩, ⟨_, m309⟩, ⟨_, m310⟩, ⟨_, m311⟩, ⟨_, m312⟩, _⟩ := q288
          have z313 : (σ283 28) = .agg #[.int .i64 t73, .int .i64 t81, .slice none 0 0] := m304
          have z314 : (σ283 22) = v62 := m305
          obtain ⟨B315, o316, z317, f318⟩ : ∃ (B76 : Nat) (o77 : Nat), (σ283 23) = .pointer (some ⟨B76, o77, none⟩) ∧ Live w284 hw285 B76 o77 [.int .i64 t73] := m306
          have z319 : (σ283 24) = .int .i64 t73 := m307
          have z320 : (σ283 25) = v62 := m308
          obtain ⟨B321, o322, z323, f324⟩ : ∃ (B84 : Nat) (o85 : Nat), (σ283 26) = .pointer (some ⟨B84, o85, none⟩) ∧ Live w284 hw285 B84 o85 [.int .i64 t81] := m309
          have z325 : (σ283 27) = .int .i64 t81 := m310
          have z326 := bif_t (q290 7 rfl) C298
          refine wl_store B299 fr292.wf ty24 z326 [.int .i64 t73, .int .i64 t81, .slice none 0 0] (cells_of z313 rfl) rfl (Nat.le_of_ble_eq_true rfl) (by intro u hu; simp only [List.mem_cons, List.not_mem_nil, or_false] at hu; rcases hu with rfl | rfl | rfl <;> first | rfl | exact Dy.one _) [.int .i64 t73, .int .i64 t81, .slice none 0 0] rfl ?_
          intro w327 s328 B329
          have fr330 := fr292.then s328 (fun _ e => (Option.some.inj e ▸ B299.new))
          refine wl_nil ?_
          have B331 := (C294.stepb s328 n300)
          have O332 := (C295.step s328 (.inr n301))
          have O333 := (C296.step s328 (.inr n302))
          exact qn ⟨_, _, rfl, s328.ext, ⟨fr330, e293.trans s328.ext, B331, O332, O333, (bif_up (q290 7 rfl) ⟨B329, n300, n301, n302⟩), C298⟩, aft_none⟩
        · intro σ334 w335 hw336 q337 q338 q339
          obtain ⟨fr340, e341, C342, C343, C344, C345, C346⟩ := q337
          obtain ⟨B347, n348, n349, n350⟩ : Box w0.heap.size w335 hw336 (blk (σ334 6)) 24 [.int .i64 t73, .int .i64 t81, .slice none 0 0] ∧ b1 ≠ (blk (σ334 6)) ∧ Value.ownBlock v13 ≠ some (blk (σ334 6)) ∧ Value.ownBlock v62 ≠ some (blk (σ334 6)) := C345
          obtain ⟨m351, m352, m353, m354, m355, m356, m357, m358, m359, _⟩ := q339
          have z360 : (σ334 22) = v62 := m351
          have z361 : (σ334 25) = v62 := m354
          have z362 : σ334 6 = .pointer (some ⟨(blk (σ334 6)), 0, none⟩) := C346
          refine qn ?_
          refine wc_seq ?_
          have s363 := Stp.drew (w := w335) (hw := hw336) fr340.wf
          have fr364 := fr340.then0 s363
          have B365 := (C342.step0 s363)
          have B366 := (B347.step0 s363)
          have O367 := (C343.step0 s363)
          have O368 := (C344.step0 s363)
          obtain ⟨t370, h371, h⟩ := Option.bind_eq_some_iff.1 h
          by_cases c377 : t370 = true
          · replace h := (if_pos c377).symm.trans h
            obtain ⟨t378, h379, h⟩ := Option.bind_eq_some_iff.1 h
            obtain ⟨t388, h389, h⟩ := Option.bind_eq_some_iff.1 h
            by_cases c397 : a0.length + ([10] : List UInt8).length ≤ 9223372036854775807
            · replace h := (if_pos c397).symm.trans h
              refine wc_any (hw := hw336) mixed [[], [], [1], [2, 2], [3], [4, 3], [5, 3], [3], [6, 7, 3, 3], [3], [9, 3], [8, 10, 3], [3, 11], [0, 8, 0], [12, 13, 0, 1, 2, 3, 4, 5, 6, 7, 8, 9, 10, 11, 12, 13]] [29, 30, 31, 32, 33, 34, 35, 36, 37, 38, 39, 40, 41, 3] (by kernel_rfl) (PhiOf [fun v w hw => v = .agg #[.int .i64 t73, .int .i64 t81, .slice none 0 0], fun v w hw => v = .agg #[.int .i64 t73, .int .i64 t81, .slice none 0 0], fun v w hw => v = .bool t370, fun v w hw => v = .bool t370, fun v w hw => v = v13, fun v w hw => ∃ (B381 : Nat) (o382 : Nat), v = .pointer (some ⟨B381, o382, none⟩) ∧ Live w hw B381 o382 [.string (bs t378)], fun v w hw => v = .string (bs t378), fun v w hw => v = v62, fun v w hw => v = .string (bs t388), fun v w hw => v = .string (bs a0), fun v w hw => v = .string (bs (a0 ++ ([10] : List UInt8))), fun v w hw => v = .bool (t388 == (a0 ++ ([10] : List UInt8))), fun v w hw => v = .bool (t388 == (a0 ++ ([10] : List UInt8))), fun v w hw => True, fun v w hw => v = .bool (t388 == (a0 ++ ([10] : List UInt8)))]) (fun D σ w hw => Stp none w0 hw0 w hw ∧ Ext (w335).drew hw336 w hw ∧ Box w0.heap.size w hw b1 24 [(bif D 13 then .int .i64 t73 else .int .i64 0), (bif D 13 then .int .i64 t81 else .int .i64 0), (bif D 13 then .slice none 0 0 else .slice none 0 0)] ∧ Box w0.heap.size w hw (blk (σ334 6)) 24 [.int .i64 t73, .int .i64 t81, .slice none 0 0] ∧ Own Kstr 9 w0.heap.size w hw v13 t7 ∧ Own (Kint .i64) 3 w0.heap.size w hw v62 t56) (stab_of (sbc (fun _ _ _ _ _ _ h => h) (sbc (fun _ _ _ _ _ _ h => h) (sbc (fun _ _ _ _ _ _ h => h) (sbc (fun _ _ _ _ _ _ h => h) (sbc (fun _ _ _ _ _ _ h => h) (sbc (fun _ _ _ _ _ e ⟨B381, o382, hv, F0⟩ => ⟨B381, o382, hv, F0.ext e⟩) (sbc (fun _ _ _ _ _ _ h => h) (sbc (fun _ _ _ _ _ _ h => h) (sbc (fun _ _ _ _ _ _ h => h) (sbc (fun _ _ _ _ _ _ h => h) (sbc (fun _ _ _ _ _ _ h => h) (sbc (fun _ _ _ _ _ _ h => h) (sbc (fun _ _ _ _ _ _ h => h) (sbc (fun _ _ _ _ _ _ h => h) (sbc (fun _ _ _ _ _ _ h => h) sbn)))))))))))))))) ?_ (stc ?_ (stc ?_ (stc ?_ (stc ?_ (stc ?_ (stc ?_ (stc ?_ (stc ?_ (stc ?_ (stc ?_ (stc ?_ (stc ?_ (stc ?_ (stc ?_ (stc ?_ stn))))))))))))))) ?_
              · exact ⟨fr364, Ext.refl _ _, B365, B366, O367, O368⟩
              · intro D403 σ404 w405 hw406 q407 q408 q409 q410 q411 q412
                obtain ⟨fr413, e414, C415, C416, C417, C418⟩ := q407
                have B419 := C415
                rw [show D403 13 = false from (q412 13 rfl)] at B419
                refine wl_loadb C416 ty24 ((q410 6 rfl).trans z362) [.int .i64 t73, .int .i64 t81, .slice none 0 0] rfl rfl ?_
                refine wl_nil ?_
                exact qn ⟨_, _, rfl, (Ext.refl _ _), ⟨fr413, e414.trans (Ext.refl _ _), C415, C416, C417, C418⟩, (aft_some rfl)⟩
              · intro D420 σ421 w422 hw423 q424 q425 q426 q427 q428 q429
                obtain ⟨fr430, e431, C432, C433, C434, C435⟩ := q424
                have B436 := C432
                rw [show D420 13 = false from (q429 13 rfl)] at B436
                refine wl_loadb C433 ty24 ((q427 6 rfl).trans z362) [.int .i64 t73, .int .i64 t81, .slice none 0 0] rfl rfl ?_
                refine wl_nil ?_
                exact qn ⟨_, _, rfl, (Ext.refl _ _), ⟨fr430, e431.trans (Ext.refl _ _), C432, C433, C434, C435⟩, (aft_some rfl)⟩
              · intro D437 σ438 w439 hw440 q441 q442 q443 q444 q445 q446
                obtain ⟨fr447, e448, C449, C450, C451, C452⟩ := q441
                have B453 := C449
                rw [show D437 13 = false from (q446 13 rfl)] at B453
                obtain ⟨⟨_, m454⟩, _⟩ := q443
                have z455 : (σ438 30) = .agg #[.int .i64 t73, .int .i64 t81, .slice none 0 0] := m454
                refine wl_call [.agg #[.int .i64 t73, .int .i64 t81, .slice none 0 0]] bod16 (mc z455 (mn _)) (script_begins.ok k35 fr447.wf (⟨t73, t81, []⟩ : ApiPlan) (.slice none 0 0) (Row.nil _ _ _) _ h371) ?_
                rintro e456 w457 ⟨hw458, rfl, s459⟩
                refine ⟨_, rfl, ?_⟩
                have fr460 := fr447.then0 s459
                refine wl_nil ?_
                have B461 := (C449.step0 s459)
                have B462 := (C450.step0 s459)
                have O463 := (C451.step0 s459)
                have O464 := (C452.step0 s459)
                exact qn ⟨_, _, rfl, s459.ext, ⟨fr460, e448.trans s459.ext, B461, B462, O463, O464⟩, (aft_some rfl)⟩
              · intro D465 σ466 w467 hw468 q469 q470 q471 q472 q473 q474
                obtain ⟨fr475, e476, C477, C478, C479, C480⟩ := q469
                have B481 := C477
                rw [show D465 13 = false from (q474 13 rfl)] at B481
                obtain ⟨⟨_, m482⟩, ⟨_, m483⟩, _⟩ := q471
                have z484 : (σ466 31) = .bool t370 := m482
                refine wl_move (.bool t370) z484 ?_
                refine wl_nil ?_
                exact qn ⟨_, _, rfl, (Ext.refl _ _), ⟨fr475, e476.trans (Ext.refl _ _), C477, C478, C479, C480⟩, (aft_some rfl)⟩
              · intro D485 σ486 w487 hw488 q489 q490 q491 q492 q493 q494
                obtain ⟨fr495, e496, C497, C498, C499, C500⟩ := q489
                have B501 := C497
                rw [show D485 13 = false from (q494 13 rfl)] at B501
                obtain ⟨⟨_, m502⟩, _⟩ := q491
                have z503 : (σ486 32) = .bool t370 := m502
                refine wl_on (yl rfl rfl z503) c377 ?_
                refine wl_move (v13) ((q492 4 rfl).trans ((q338 4 rfl).trans z42)) ?_
                refine wl_nil ?_
                exact qn ⟨_, _, rfl, (Ext.refl _ _), ⟨fr495, e496.trans (Ext.refl _ _), C497, C498, C499, C500⟩, (aft_some rfl)⟩
              · intro D504 σ505 w506 hw507 q508 q509 q510 q511 q512 q513
                obtain ⟨fr514, e515, C516, C517, C518, C519⟩ := q508
                have B520 := C516
                rw [show D504 13 = false from (q513 13 rfl)] at B520
                obtain ⟨⟨_, m521⟩, ⟨_, m522⟩, _⟩ := q510
                have z523 : (σ505 32) = .bool t370 := m522
                have z524 : (σ505 33) = v13 := m521
                refine wl_on (yl rfl rfl z523) c377 ?_
                have c525 := at_lt (by decide) h379
                refine wl_at Tryd.underlying36 ty9 C518.row z524 rfl (by decide) c525 t378 h379 ?_
                rintro B526 o527 cs528 rfl l530
                refine wl_nil ?_
                exact qn ⟨_, _, rfl, (Ext.refl _ _), ⟨fr514, e515.trans (Ext.refl _ _), C516, C517, C518, C519⟩, (aft_some (show ∃ (B381 : Nat) (o382 : Nat), (.pointer (some ⟨B526, o527, none⟩) : Value) = .pointer (some ⟨B381, o382, none⟩) ∧ Live w506 hw507 B381 o382 [.string (bs t378)] from ⟨B526, o527, rfl, l530⟩))⟩
              · intro D531 σ532 w533 hw534 q535 q536 q537 q538 q539 q540
                obtain ⟨fr541, e542, C543, C544, C545, C546⟩ := q535
                have B547 := C543
                rw [show D531 13 = false from (q540 13 rfl)] at B547
                obtain ⟨⟨_, m548⟩, ⟨_, m549⟩, _⟩ := q537
                have z550 : (σ532 32) = .bool t370 := m549
                obtain ⟨B551, o552, z553, f554⟩ : ∃ (B381 : Nat) (o382 : Nat), (σ532 34) = .pointer (some ⟨B381, o382, none⟩) ∧ Live w533 hw534 B381 o382 [.string (bs t378)] := m548
                refine wl_on (yl rfl rfl z550) c377 ?_
                refine wl_load1 ty9 z553 (.string (bs t378)) (f554.2 0 _ rfl) ?_
                refine wl_nil ?_
                exact qn ⟨_, _, rfl, (Ext.refl _ _), ⟨fr541, e542.trans (Ext.refl _ _), C543, C544, C545, C546⟩, (aft_some rfl)⟩
              · intro D555 σ556 w557 hw558 q559 q560 q561 q562 q563 q564
                obtain ⟨fr565, e566, C567, C568, C569, C570⟩ := q559
                have B571 := C567
                rw [show D555 13 = false from (q564 13 rfl)] at B571
                obtain ⟨⟨_, m572⟩, _⟩ := q561
                have z573 : (σ556 32) = .bool t370 := m572
                refine wl_on (yl rfl rfl z573) c377 ?_
                refine wl_move (v62) ((q562 5 rfl).trans ((q338 5 rfl).trans rfl)) ?_
                refine wl_nil ?_
                exact qn ⟨_, _, rfl, (Ext.refl _ _), ⟨fr565, e566.trans (Ext.refl _ _), C567, C568, C569, C570⟩, (aft_some rfl)⟩
              · intro D574 σ575 w576 hw577 q578 q579 q580 q581 q582 q583
                obtain ⟨fr584, e585, C586, C587, C588, C589⟩ := q578
                have B590 := C586
                rw [show D574 13 = false from (q583 13 rfl)] at B590
                obtain ⟨⟨_, m591⟩, ⟨_, m592⟩, ⟨_, m593⟩, ⟨_, m594⟩, _⟩ := q580
                have z595 : (σ575 32) = .bool t370 := m593
                have z596 : (σ575 32) = .bool t370 := m594
                have z597 : (σ575 35) = .string (bs t378) := m591
                have z598 : (σ575 36) = v62 := m592
                refine wl_on (yl rfl rfl z596) c377 ?_
                refine wl_call [.string (bs t378), v62, .slice none 0 0] bod10 (mc z597 (mc z598 (mc rfl (mn _)))) (script_line.ok k35 fr584.wf t378 t56 [] v62 C589.row (.slice none 0 0) (Row.nil _ _ _) _ h389) ?_
                rintro e599 w600 ⟨hw601, rfl, s602⟩
                refine ⟨_, rfl, ?_⟩
                have fr603 := fr584.then0 s602
                refine wl_nil ?_
                have B604 := (C586.step0 s602)
                have B605 := (C587.step0 s602)
                have O606 := (C588.step0 s602)
                have O607 := (C589.step0 s602)
                exact qn ⟨_, _, rfl, s602.ext, ⟨fr603, e585.trans s602.ext, B604, B605, O606, O607⟩, (aft_some rfl)⟩
              · intro D608 σ609 w610 hw611 q612 q613 q614 q615 q616 q617
                obtain ⟨fr618, e619, C620, C621, C622, C623⟩ := q612
                obtain ⟨⟨_, m624⟩, _⟩ := q614
                have z625 : (σ609 32) = .bool t370 := m624
                refine wl_on (yl rfl rfl z625) c377 ?_
                refine wl_move (.string (bs a0)) ((q615 0 rfl).trans ((q338 0 rfl).trans z40)) ?_
                refine wl_nil ?_
                exact qn ⟨_, _, rfl, (Ext.refl _ _), ⟨fr618, e619.trans (Ext.refl _ _), C620, C621, C622, C623⟩, (aft_some rfl)⟩
              · intro D626 σ627 w628 hw629 q630 q631 q632 q633 q634 q635
                obtain ⟨fr636, e637, C638, C639, C640, C641⟩ := q630
                obtain ⟨⟨_, m642⟩, ⟨_, m643⟩, _⟩ := q632
                have z644 : (σ627 32) = .bool t370 := m643
                have z645 : (σ627 38) = .string (bs a0) := m642
                refine wl_on (yl rfl rfl z644) c377 ?_
                refine wl_adds z645 rfl c397 ?_
                refine wl_nil ?_
                exact qn ⟨_, _, rfl, (Ext.refl _ _), ⟨fr636, e637.trans (Ext.refl _ _), C638, C639, C640, C641⟩, (aft_some rfl)⟩
              · intro D646 σ647 w648 hw649 q650 q651 q652 q653 q654 q655
                obtain ⟨fr656, e657, C658, C659, C660, C661⟩ := q650
                obtain ⟨⟨_, m662⟩, ⟨_, m663⟩, ⟨_, m664⟩, _⟩ := q652
                have z665 : (σ647 32) = .bool t370 := m664
                have z666 : (σ647 37) = .string (bs t388) := m662
                have z667 : (σ647 39) = .string (bs (a0 ++ ([10] : List UInt8))) := m663
                refine wl_on (yl rfl rfl z665) c377 ?_
                refine wl_eqls z666 z667 ?_
                refine wl_nil ?_
                exact qn ⟨_, _, rfl, (Ext.refl _ _), ⟨fr656, e657.trans (Ext.refl _ _), C658, C659, C660, C661⟩, (aft_some rfl)⟩
              · intro D668 σ669 w670 hw671 q672 q673 q674 q675 q676 q677
                obtain ⟨fr678, e679, C680, C681, C682, C683⟩ := q672
                obtain ⟨⟨_, m684⟩, ⟨_, m685⟩, _⟩ := q674
                have z686 : (σ669 32) = .bool t370 := m684
                have z687 : (σ669 40) = .bool (t388 == (a0 ++ ([10] : List UInt8))) := m685
                refine wl_pick_t t370 (.bool (t388 == (a0 ++ ([10] : List UInt8)))) z686 c377 z687 ?_
                refine wl_nil ?_
                exact qn ⟨_, _, rfl, (Ext.refl _ _), ⟨fr678, e679.trans (Ext.refl _ _), C680, C681, C682, C683⟩, (aft_some rfl)⟩
              · intro D688 σ689 w690 hw691 q692 q693 q694 q695 q696 q697
                obtain ⟨fr698, e699, C700, C701, C702, C703⟩ := q692
                obtain ⟨⟨_, m704⟩, ⟨_, m705⟩, ⟨_, m706⟩, _⟩ := q694
                have z707 : (σ689 29) = .agg #[.int .i64 t73, .int .i64 t81, .slice none 0 0] := m704
                have z708 : (σ689 37) = .string (bs t388) := m705
                refine wl_store C700 fr698.wf ty24 ((q695 2 rfl).trans ((q338 2 rfl).trans z41)) [.int .i64 t73, .int .i64 t81, .slice none 0 0] (cells_of z707 rfl) rfl (Nat.le_of_ble_eq_true rfl) (by intro u hu; simp only [List.mem_cons, List.not_mem_nil, or_false] at hu; rcases hu with rfl | rfl | rfl <;> first | rfl | exact Dy.one _) [.int .i64 t73, .int .i64 t81, .slice none 0 0] rfl ?_
                intro w709 s710 B711
                have fr712 := fr698.then s710 (fun _ e => (Option.some.inj e ▸ C700.new))
                refine wl_nil ?_
                have B713 := (C701.stepb s710 (Ne.symm n348))
                have O714 := (C702.step s710 (.inr n15))
                have O715 := (C703.step s710 (.inr n64))
                exact qn ⟨_, _, rfl, s710.ext, ⟨fr712, e699.trans s710.ext, B711, B713, O714, O715⟩, aft_none⟩
              · intro D716 σ717 w718 hw719 q720 q721 q722 q723 q724 q725
                obtain ⟨fr726, e727, C728, C729, C730, C731⟩ := q720
                have B732 := C728
                rw [show D716 13 = true from (q724 13 rfl)] at B732
                obtain ⟨⟨_, m733⟩, ⟨_, m734⟩, ⟨_, m735⟩, ⟨_, m736⟩, ⟨_, m737⟩, ⟨_, m738⟩, ⟨_, m739⟩, ⟨_, m740⟩, ⟨_, m741⟩, ⟨_, m742⟩, ⟨_, m743⟩, ⟨_, m744⟩, ⟨_, m745⟩, ⟨_, m746⟩, ⟨_, m747⟩, ⟨_, m748⟩, _⟩ := q722
                have z749 : (σ717 41) = .bool (t388 == (a0 ++ ([10] : List UInt8))) := m733
                have z750 : (σ717 29) = .agg #[.int .i64 t73, .int .i64 t81, .slice none 0 0] := m735
                have z751 : (σ717 30) = .agg #[.int .i64 t73, .int .i64 t81, .slice none 0 0] := m736
                have z752 : (σ717 31) = .bool t370 := m737
                have z753 : (σ717 32) = .bool t370 := m738
                have z754 : (σ717 33) = v13 := m739
                obtain ⟨B755, o756, z757, f758⟩ : ∃ (B381 : Nat) (o382 : Nat), (σ717 34) = .pointer (some ⟨B381, o382, none⟩) ∧ Live w718 hw719 B381 o382 [.string (bs t378)] := m740
                have z759 : (σ717 35) = .string (bs t378) := m741
                have z760 : (σ717 36) = v62 := m742
                have z761 : (σ717 37) = .string (bs t388) := m743
                have z762 : (σ717 38) = .string (bs a0) := m744
                have z763 : (σ717 39) = .string (bs (a0 ++ ([10] : List UInt8))) := m745
                have z764 : (σ717 40) = .bool (t388 == (a0 ++ ([10] : List UInt8))) := m746
                refine wl_assign (.bool (t388 == (a0 ++ ([10] : List UInt8)))) z749 ?_
                refine wl_nil ?_
                exact qn ⟨_, _, rfl, (Ext.refl _ _), ⟨fr726, e727.trans (Ext.refl _ _), C728, C729, C730, C731⟩, (aft_some rfl)⟩
              · intro σ765 w766 hw767 q768 q769 q770
                obtain ⟨fr771, e772, C773, C774, C775, C776⟩ := q768
                obtain ⟨m777, m778, m779, m780, m781, m782, m783, m784, m785, m786, m787, m788, m789, m790, m791, _⟩ := q770
                have B792 : Box w0.heap.size w766 hw767 b1 24 [.int .i64 t73, .int .i64 t81, .slice none 0 0] := C773
                have z793 : (σ765 33) = v13 := m781
                have z794 : (σ765 36) = v62 := m784
                have z795 : (σ765 3) = .bool (t388 == (a0 ++ ([10] : List UInt8))) := m791
                refine qn ?_
                refine wc_ret ?_
                have h := Option.some.inj h
                subst h
                refine end2 rfl (.cell ((q769 2 rfl).trans ((q338 2 rfl).trans z41)) (ty24.load (l := [.int .i64 t73, .int .i64 t81, .slice none 0 0]) rfl (B792.cells rfl)) (.tmp z795 .nil)) ?_
                exact ⟨(.slice none 0 0), _, rfl, fr771, (Own.nil _ _ _ _ _)⟩
            · replace h := (if_neg c397).symm.trans h
              cases h
          · replace h := (if_neg c377).symm.trans h
            have b796 : t370 = false := Bool.eq_false_iff.2 c377
            refine wc_any (hw := hw336) mixed [[], [], [1], [2, 2], [3], [4, 3], [5, 3], [3], [6, 7, 3, 3], [3], [9, 3], [8, 10, 3], [3, 11], [0, 8, 0], [12, 13, 0, 1, 2, 3, 4, 5, 6, 7, 8, 9, 10, 11, 12, 13]] [29, 30, 31, 32, 33, 34, 35, 36, 37, 38, 39, 40, 41, 3] (by kernel_rfl) (PhiOf [fun v w hw => v = .agg #[.int .i64 t73, .int .i64 t81, .slice none 0 0], fun v w hw => v = .agg #[.int .i64 t73, .int .i64 t81, .slice none 0 0], fun v w hw => v = .bool t370, fun v w hw => v = .bool t370, fun v w hw => v = undef, fun v w hw => v = undef, fun v w hw => v = undef, fun v w hw => v = undef, fun v w hw => v = undef, fun v w hw => v = undef, fun v w hw => v = undef, fun v w hw => v = undef, fun v w hw => v = .bool false, fun v w hw => True, fun v w hw => v = .bool false]) (fun D σ w hw => Stp none w0 hw0 w hw ∧ Ext (w335).drew hw336 w hw ∧ Box w0.heap.size w hw b1 24 [(bif D 13 then .int .i64 t73 else .int .i64 0), (bif D 13 then .int .i64 t81 else .int .i64 0), (bif D 13 then .slice none 0 0 else .slice none 0 0)] ∧ Box w0.heap.size w hw (blk (σ334 6)) 24 [.int .i64 t73, .int .i64 t81, .slice none 0 0] ∧ Own Kstr 9 w0.heap.size w hw v13 t7 ∧ Own (Kint .i64) 3 w0.heap.size w hw v62 t56) (stab_of (sbc (fun _ _ _ _ _ _ h => h) (sbc (fun _ _ _ _ _ _ h => h) (sbc (fun _ _ _ _ _ _ h => h) (sbc (fun _ _ _ _ _ _ h => h) (sbc (fun _ _ _ _ _ _ h => h) (sbc (fun _ _ _ _ _ _ h => h) (sbc (fun _ _ _ _ _ _ h => h) (sbc (fun _ _ _ _ _ _ h => h) (sbc (fun _ _ _ _ _ _ h => h) (sbc (fun _ _ _ _ _ _ h => h) (sbc (fun _ _ _ _ _ _ h => h) (sbc (fun _ _ _ _ _ _ h => h) (sbc (fun _ _ _ _ _ _ h => h) (sbc (fun _ _ _ _ _ _ h => h) (sbc (fun _ _ _ _ _ _ h => h) sbn)))))))))))))))) ?_ (stc ?_ (stc ?_ (stc ?_ (stc ?_ (stc ?_ (stc ?_ (stc ?_ (stc ?_ (stc ?_ (stc ?_ (stc ?_ (stc ?_ (stc ?_ (stc ?_ (stc ?_ stn))))))))))))))) ?_
            · exact ⟨fr364, Ext.refl _ _, B365, B366, O367, O368⟩
            · intro D802 σ803 w804 hw805 q806 q807 q808 q809 q810 q811
              obtain ⟨fr812, e813, C814, C815, C816, C817⟩ := q806
              have B818 := C814
              rw [show D802 13 = false from (q811 13 rfl)] at B818
              refine wl_loadb C815 ty24 ((q809 6 rfl).trans z362) [.int .i64 t73, .int .i64 t81, .slice none 0 0] rfl rfl ?_
              refine wl_nil ?_
              exact qn ⟨_, _, rfl, (Ext.refl _ _), ⟨fr812, e813.trans (Ext.refl _ _), C814, C815, C816, C817⟩, (aft_some rfl)⟩
            · intro D819 σ820 w821 hw822 q823 q824 q825 q826 q827 q828
              obtain ⟨fr829, e830, C831, C832, C833, C834⟩ := q823
              have B835 := C831
              rw [show D819 13 = false from (q828 13 rfl)] at B835
              refine wl_loadb C832 ty24 ((q826 6 rfl).trans z362) [.int .i64 t73, .int .i64 t81, .slice none 0 0] rfl rfl ?_
              refine wl_nil ?_
              exact qn ⟨_, _, rfl, (Ext.refl _ _), ⟨fr829, e830.trans (Ext.refl _ _), C831, C832, C833, C834⟩, (aft_some rfl)⟩
            · intro D836 σ837 w838 hw839 q840 q841 q842 q843 q844 q845
              obtain ⟨fr846, e847, C848, C849, C850, C851⟩ := q840
              have B852 := C848
              rw [show D836 13 = false from (q845 13 rfl)] at B852
              obtain ⟨⟨_, m853⟩, _⟩ := q842
              have z854 : (σ837 30) = .agg #[.int .i64 t73, .int .i64 t81, .slice none 0 0] := m853
              refine wl_call [.agg #[.int .i64 t73, .int .i64 t81, .slice none 0 0]] bod16 (mc z854 (mn _)) (script_begins.ok k35 fr846.wf (⟨t73, t81, []⟩ : ApiPlan) (.slice none 0 0) (Row.nil _ _ _) _ h371) ?_
              rintro e855 w856 ⟨hw857, rfl, s858⟩
              refine ⟨_, rfl, ?_⟩
              have fr859 := fr846.then0 s858
              refine wl_nil ?_
              have B860 := (C848.step0 s858)
              have B861 := (C849.step0 s858)
              have O862 := (C850.step0 s858)
              have O863 := (C851.step0 s858)
              exact qn ⟨_, _, rfl, s858.ext, ⟨fr859, e847.trans s858.ext, B860, B861, O862, O863⟩, (aft_some rfl)⟩
            · intro D864 σ865 w866 hw867 q868 q869 q870 q871 q872 q873
              obtain ⟨fr874, e875, C876, C877, C878, C879⟩ := q868
              have B880 := C876
              rw [show D864 13 = false from (q873 13 rfl)] at B880
              obtain ⟨⟨_, m881⟩, ⟨_, m882⟩, _⟩ := q870
              have z883 : (σ865 31) = .bool t370 := m881
              refine wl_move (.bool t370) z883 ?_
              refine wl_nil ?_
              exact qn ⟨_, _, rfl, (Ext.refl _ _), ⟨fr874, e875.trans (Ext.refl _ _), C876, C877, C878, C879⟩, (aft_some rfl)⟩
            · intro D884 σ885 w886 hw887 q888 q889 q890 q891 q892 q893
              obtain ⟨fr894, e895, C896, C897, C898, C899⟩ := q888
              have B900 := C896
              rw [show D884 13 = false from (q893 13 rfl)] at B900
              obtain ⟨⟨_, m901⟩, _⟩ := q890
              have z902 : (σ885 32) = .bool t370 := m901
              refine wl_off (yl rfl rfl z902) b796 ?_
              refine wl_nil ?_
              exact qn ⟨_, _, rfl, (Ext.refl _ _), ⟨fr894, e895.trans (Ext.refl _ _), C896, C897, C898, C899⟩, (aft_some rfl)⟩
            · intro D903 σ904 w905 hw906 q907 q908 q909 q910 q911 q912
              obtain ⟨fr913, e914, C915, C916, C917, C918⟩ := q907
              have B919 := C915
              rw [show D903 13 = false from (q912 13 rfl)] at B919
              obtain ⟨⟨_, m920⟩, ⟨_, m921⟩, _⟩ := q909
              have z922 : (σ904 32) = .bool t370 := m921
              refine wl_off (yl rfl rfl z922) b796 ?_
              refine wl_nil ?_
              exact qn ⟨_, _, rfl, (Ext.refl _ _), ⟨fr913, e914.trans (Ext.refl _ _), C915, C916, C917, C918⟩, (aft_some rfl)⟩
            · intro D923 σ924 w925 hw926 q927 q928 q929 q930 q931 q932
              obtain ⟨fr933, e934, C935, C936, C937, C938⟩ := q927
              have B939 := C935
              rw [show D923 13 = false from (q932 13 rfl)] at B939
              obtain ⟨⟨_, m940⟩, ⟨_, m941⟩, _⟩ := q929
              have z942 : (σ924 32) = .bool t370 := m941
              refine wl_off (yl rfl rfl z942) b796 ?_
              refine wl_nil ?_
              exact qn ⟨_, _, rfl, (Ext.refl _ _), ⟨fr933, e934.trans (Ext.refl _ _), C935, C936, C937, C938⟩, (aft_some rfl)⟩
            · intro D943 σ944 w945 hw946 q947 q948 q949 q950 q951 q952
              obtain ⟨fr953, e954, C955, C956, C957, C958⟩ := q947
              have B959 := C955
              rw [show D943 13 = false from (q952 13 rfl)] at B959
              obtain ⟨⟨_, m960⟩, _⟩ := q949
              have z961 : (σ944 32) = .bool t370 := m960
              refine wl_off (yl rfl rfl z961) b796 ?_
              refine wl_nil ?_
              exact qn ⟨_, _, rfl, (Ext.refl _ _), ⟨fr953, e954.trans (Ext.refl _ _), C955, C956, C957, C958⟩, (aft_some rfl)⟩
            · intro D962 σ963 w964 hw965 q966 q967 q968 q969 q970 q971
              obtain ⟨fr972, e973, C974, C975, C976, C977⟩ := q966
              have B978 := C974
              rw [show D962 13 = false from (q971 13 rfl)] at B978
              obtain ⟨⟨_, m979⟩, ⟨_, m980⟩, ⟨_, m981⟩, ⟨_, m982⟩, _⟩ := q968
              have z983 : (σ963 32) = .bool t370 := m981
              have z984 : (σ963 32) = .bool t370 := m982
              refine wl_off (yl rfl rfl z984) b796 ?_
              refine wl_nil ?_
              exact qn ⟨_, _, rfl, (Ext.refl _ _), ⟨fr972, e973.trans (Ext.refl _ _), C974, C975, C976, C977⟩, (aft_some rfl)⟩
            · intro D985 σ986 w987 hw988 q989 q990 q991 q992 q993 q994
              obtain ⟨fr995, e996, C997, C998, C999, C1000⟩ := q989
              obtain ⟨⟨_, m1001⟩, _⟩ := q991
              have z1002 : (σ986 32) = .bool t370 := m1001
              refine wl_off (yl rfl rfl z1002) b796 ?_
              refine wl_nil ?_
              exact qn ⟨_, _, rfl, (Ext.refl _ _), ⟨fr995, e996.trans (Ext.refl _ _), C997, C998, C999, C1000⟩, (aft_some rfl)⟩
            · intro D1003 σ1004 w1005 hw1006 q1007 q1008 q1009 q1010 q1011 q1012
              obtain ⟨fr1013, e1014, C1015, C1016, C1017, C1018⟩ := q1007
              obtain ⟨⟨_, m1019⟩, ⟨_, m1020⟩, _⟩ := q1009
              have z1021 : (σ1004 32) = .bool t370 := m1020
              refine wl_off (yl rfl rfl z1021) b796 ?_
              refine wl_nil ?_
              exact qn ⟨_, _, rfl, (Ext.refl _ _), ⟨fr1013, e1014.trans (Ext.refl _ _), C1015, C1016, C1017, C1018⟩, (aft_some rfl)⟩
            · intro D1022 σ1023 w1024 hw1025 q1026 q1027 q1028 q1029 q1030 q1031
              obtain ⟨fr1032, e1033, C1034, C1035, C1036, C1037⟩ := q1026
              obtain ⟨⟨_, m1038⟩, ⟨_, m1039⟩, ⟨_, m1040⟩, _⟩ := q1028
              have z1041 : (σ1023 32) = .bool t370 := m1040
              refine wl_off (yl rfl rfl z1041) b796 ?_
              refine wl_nil ?_
              exact qn ⟨_, _, rfl, (Ext.refl _ _), ⟨fr1032, e1033.trans (Ext.refl _ _), C1034, C1035, C1036, C1037⟩, (aft_some rfl)⟩
            · intro D1042 σ1043 w1044 hw1045 q1046 q1047 q1048 q1049 q1050 q1051
              obtain ⟨fr1052, e1053, C1054, C1055, C1056, C1057⟩ := q1046
              obtain ⟨⟨_, m1058⟩, ⟨_, m1059⟩, _⟩ := q1048
              have z1060 : (σ1043 32) = .bool t370 := m1058
              have z1061 : (σ1043 40) = undef := m1059
              refine wl_pick_f t370 (.bool false) z1060 b796 rfl ?_
              refine wl_nil ?_
              exact qn ⟨_, _, rfl, (Ext.refl _ _), ⟨fr1052, e1053.trans (Ext.refl _ _), C1054, C1055, C1056, C1057⟩, (aft_some rfl)⟩
            · intro D1062 σ1063 w1064 hw1065 q1066 q1067 q1068 q1069 q1070 q1071
              obtain ⟨fr1072, e1073, C1074, C1075, C1076, C1077⟩ := q1066
              obtain ⟨⟨_, m1078⟩, ⟨_, m1079⟩, ⟨_, m1080⟩, _⟩ := q1068
              have z1081 : (σ1063 29) = .agg #[.int .i64 t73, .int .i64 t81, .slice none 0 0] := m1078
              have z1082 : (σ1063 37) = undef := m1079
              refine wl_store C1074 fr1072.wf ty24 ((q1069 2 rfl).trans ((q338 2 rfl).trans z41)) [.int .i64 t73, .int .i64 t81, .slice none 0 0] (cells_of z1081 rfl) rfl (Nat.le_of_ble_eq_true rfl) (by intro u hu; simp only [List.mem_cons, List.not_mem_nil, or_false] at hu; rcases hu with rfl | rfl | rfl <;> first | rfl | exact Dy.one _) [.int .i64 t73, .int .i64 t81, .slice none 0 0] rfl ?_
              intro w1083 s1084 B1085
              have fr1086 := fr1072.then s1084 (fun _ e => (Option.some.inj e ▸ C1074.new))
              refine wl_nil ?_
              have B1087 := (C1075.stepb s1084 (Ne.symm n348))
              have O1088 := (C1076.step s1084 (.inr n15))
              have O1089 := (C1077.step s1084 (.inr n64))
              exact qn ⟨_, _, rfl, s1084.ext, ⟨fr1086, e1073.trans s1084.ext, B1085, B1087, O1088, O1089⟩, aft_none⟩
            · intro D1090 σ1091 w1092 hw1093 q1094 q1095 q1096 q1097 q1098 q1099
              obtain ⟨fr1100, e1101, C1102, C1103, C1104, C1105⟩ := q1094
              have B1106 := C1102
              rw [show D1090 13 = true from (q1098 13 rfl)] at B1106
              obtain ⟨⟨_, m1107⟩, ⟨_, m1108⟩, ⟨_, m1109⟩, ⟨_, m1110⟩, ⟨_, m1111⟩, ⟨_, m1112⟩, ⟨_, m1113⟩, ⟨_, m1114⟩, ⟨_, m1115⟩, ⟨_, m1116⟩, ⟨_, m1117⟩, ⟨_, m1118⟩, ⟨_, m1119⟩, ⟨_, m1120⟩, ⟨_, m1121⟩, ⟨_, m1122⟩, _⟩ := q1096
              have z1123 : (σ1091 41) = .bool false := m1107
              have z1124 : (σ1091 29) = .agg #[.int .i64 t73, .int .i64 t81, .slice none 0 0] := m1109
              have z1125 : (σ1091 30) = .agg #[.int .i64 t73, .int .i64 t81, .slice none 0 0] := m1110
              have z1126 : (σ1091 31) = .bool t370 := m1111
              have z1127 : (σ1091 32) = .bool t370 := m1112
              have z1128 : (σ1091 33) = undef := m1113
              have z1129 : (σ1091 34) = undef := m1114
              have z1130 : (σ1091 35) = undef := m1115
              have z1131 : (σ1091 36) = undef := m1116
              have z1132 : (σ1091 37) = undef := m1117
              have z1133 : (σ1091 38) = undef := m1118
              have z1134 : (σ1091 39) = undef := m1119
              have z1135 : (σ1091 40) = undef := m1120
              refine wl_assign (.bool false) z1123 ?_
              refine wl_nil ?_
              exact qn ⟨_, _, rfl, (Ext.refl _ _), ⟨fr1100, e1101.trans (Ext.refl _ _), C1102, C1103, C1104, C1105⟩, (aft_some rfl)⟩
            · intro σ1136 w1137 hw1138 q1139 q1140 q1141
              obtain ⟨fr1142, e1143, C1144, C1145, C1146, C1147⟩ := q1139
              obtain ⟨m1148, m1149, m1150, m1151, m1152, m1153, m1154, m1155, m1156, m1157, m1158, m1159, m1160, m1161, m1162, _⟩ := q1141
              have B1163 : Box w0.heap.size w1137 hw1138 b1 24 [.int .i64 t73, .int .i64 t81, .slice none 0 0] := C1144
              have z1164 : (σ1136 3) = .bool false := m1162
              refine qn ?_
              refine wc_ret ?_
              have h := Option.some.inj h
              subst h
              refine end2 rfl (.cell ((q1140 2 rfl).trans ((q338 2 rfl).trans z41)) (ty24.load (l := [.int .i64 t73, .int .i64 t81, .slice none 0 0]) rfl (B1163.cells rfl)) (.tmp z1164 .nil)) ?_
              exact ⟨(.slice none 0 0), _, rfl, fr1142, (Own.nil _ _ _ _ _)⟩
      · replace h := (if_neg c53).symm.trans h
        cases h
/-! ### consignor/octet.Bytes: function 37 -/
def octet_Bytes.l0 : Nat → (List UInt8) → Int → (List Int) → Option ((List UInt8) × Int)
  | 0, _, _, _ => none
  | k + 1, a0, x10, x11 => if x10 < ((Int.toNat (IntKind.i64.wrap (Int.tdiv (a0.length : Int) 2))) : Int) then (if 0 ≤ (IntKind.i64.wrap (2 * x10)) then (if (IntKind.i64.wrap (2 * x10)) < (a0.length : Int) then ((strings_IndexByte.f k ([48, 49, 50, 51, 52, 53, 54, 55, 56, 57, 97, 98, 99, 100, 101, 102] : List UInt8) ((a0.getD (Int.toNat (IntKind.i64.wrap (2 * x10))) 0).toNat : Int)).bind fun t32 => (if 0 ≤ (IntKind.i64.wrap ((IntKind.i64.wrap (2 * x10)) + 1)) then (if (IntKind.i64.wrap ((IntKind.i64.wrap (2 * x10)) + 1)) < (a0.length : Int) then ((strings_IndexByte.f k ([48, 49, 50, 51, 52, 53, 54, 55, 56, 57, 97, 98, 99, 100, 101, 102] : List UInt8) ((a0.getD (Int.toNat (IntKind.i64.wrap ((IntKind.i64.wrap (2 * x10)) + 1))) 0).toNat : Int)).bind fun t41 => (if ((decide (t32 < 0)) || (decide (t41 < 0))) = true then (some ([], 4)) else (if (0 : Int) ≤ x10 ∧ x10 < ((Int.toNat (IntKind.i64.wrap (Int.tdiv (a0.length : Int) 2))) : Int) then (octet_Bytes.l0 k a0 (IntKind.i64.wrap (x10 + 1)) (x11.set (Int.toNat x10) (IntKind.u8.wrap (IntKind.i64.wrap ((IntKind.i64.wrap (t32 * 16)) + t41))))) else none))) else none) else none)) else none) else none) else (some ((ofInts x11), 0))
def octet_Bytes.f (k : Nat) (a0 : (List UInt8)) : Option ((List UInt8) × Int) := if ((Int.tmod (a0.length : Int) 2) != 0) = true then (some ([], 4)) else (if 0 ≤ (IntKind.i64.wrap (Int.tdiv (a0.length : Int) 2)) ∧ (1 : Int) * (IntKind.i64.wrap (Int.tdiv (a0.length : Int) 2)) ≤ 281474976710656 ∧ (IntKind.i64.wrap (Int.tdiv (a0.length : Int) 2)) ≤ 9223372036854775807 then (octet_Bytes.l0 k a0 0 (List.replicate (Int.toNat (IntKind.i64.wrap (Int.tdiv (a0.length : Int) 2))) 0)) else none)
set_option maxHeartbeats 1000000 in
theorem octet_Bytes.ok (k : Nat) {w0 : World} {hw0 : Hw} (wf : Hwf w0 hw0) (a0 : (List UInt8)) (r : ((List UInt8) × Int)) (h : octet_Bytes.f k a0 = some r) :
    Calls Tryd.prog 37 #[.string (bs a0)] w0 fun e w' => ∃ (hw' : Hw), e = .returned (.tuple #[.string (bs r.1), .int .i64 r.2]) ∧ Stp none w0 hw0 w' hw' := by
  have fr0 := Stp.refl none (w := w0) (hw := hw0) wf
  unfold octet_Bytes.f at h
  refine enter (n := 49) Tryd.func37 rfl rfl (Nat.le_of_ble_eq_true rfl) ?_
  refine wc_seq ?_
  refine wc_region ?_
  refine wl_assign (.string (bs [])) rfl ?_
  refine wl_assign (.int .i64 0) rfl ?_
  refine wl_nil ?_
  refine qn ?_
  refine wc_seq ?_
  refine wc_seq ?_
  refine wc_region ?_
  refine wl_move (.string (bs a0)) rfl ?_
  refine wl_lens Tryd.underlying9 rfl ?_
  refine wl_rem rfl rfl (by decide) ?_
  refine wl_neq rfl rfl ?_
  refine wl_nil ?_
  refine qn ?_
  by_cases c1 : ((Int.tmod (a0.length : Int) 2) != 0) = true
  · replace h := (if_pos c1).symm.trans h
    refine wc_then rfl c1 ?_
    refine wc_seq ?_
    refine wc_region ?_
    refine wl_assign (.string (bs [])) rfl ?_
    refine wl_assign (.int .i64 4) rfl ?_
    refine wl_nil ?_
    refine qn ?_
    refine wc_ret ?_
    refine qr ?_
    have h := Option.some.inj h
    subst h
    refine end2 rfl (.tmp rfl (.tmp rfl .nil)) ?_
    exact ⟨_, rfl, fr0⟩
  · replace h := (if_neg c1).symm.trans h
    have b2 : ((Int.tmod (a0.length : Int) 2) != 0) = false := Bool.eq_false_iff.2 c1
    refine wc_else rfl b2 ?_
    refine wc_skip ?_
    refine qn ?_
    refine wc_seq ?_
    refine wc_region ?_
    refine wl_move (.string (bs a0)) rfl ?_
    refine wl_lens Tryd.underlying9 rfl ?_
    refine wl_quo rfl rfl (by decide) ?_
    by_cases c3 : 0 ≤ (IntKind.i64.wrap (Int.tdiv (a0.length : Int) 2)) ∧ (1 : Int) * (IntKind.i64.wrap (Int.tdiv (a0.length : Int) 2)) ≤ 281474976710656 ∧ (IntKind.i64.wrap (Int.tdiv (a0.length : Int) 2)) ≤ 9223372036854775807
    · replace h := (if_pos c3).symm.trans h
      refine wl_make (enc := Value.int .u8) (h1 := fun _ => rfl) 0 Tryd.underlying98 ty5 fr0.wf fr0.g.size rfl c3.1 c3.2.1 c3.2.2 rfl ?_
      intro b4 w5 s6 B7 g8
      have fr9 := fr0.then0 s6
      refine wl_assign (.slice (some ⟨b4, 0, none⟩) (Int.toNat (IntKind.i64.wrap (Int.tdiv (a0.length : Int) 2))) (Int.toNat (IntKind.i64.wrap (Int.tdiv (a0.length : Int) 2)))) rfl ?_
      refine wl_nil ?_
      refine qn ?_
      refine wc_seq ?_
      refine wc_seq ?_
      refine wc_region ?_
      refine wl_move (.slice (some ⟨b4, 0, none⟩) (Int.toNat (IntKind.i64.wrap (Int.tdiv (a0.length : Int) 2))) (Int.toNat (IntKind.i64.wrap (Int.tdiv (a0.length : Int) 2)))) rfl ?_
      refine wl_len Tryd.underlying98 (show _ = Value.slice _ (Int.toNat (IntKind.i64.wrap (Int.tdiv (a0.length : Int) 2))) _ from rfl) ?_
      refine wl_move (.int .i64 0) rfl ?_
      refine wl_nil ?_
      refine qn ?_
      refine wc_block ?_
      refine wc_loop (fun m a w => ∃ (σ : Nat → Value) (hw : Hw) (kq : Nat) (x10 : Int) (x11 : (List Int)), a = mkA 49 σ ∧ kq ≤ m ∧ kq ≤ k ∧ Stp none w0 hw0 w hw ∧ Ext w5 hw0 w hw ∧ σ 0 = .string (bs a0) ∧ σ 4 = .slice (some ⟨b4, 0, none⟩) (Int.toNat (IntKind.i64.wrap (Int.tdiv (a0.length : Int) 2))) (Int.toNat (IntKind.i64.wrap (Int.tdiv (a0.length : Int) 2))) ∧ σ 17 = .int .i64 ((Int.toNat (IntKind.i64.wrap (Int.tdiv (a0.length : Int) 2))) : Int) ∧ σ 18 = .int .i64 x10 ∧ MutN (Kint .u8) 5 w0.heap.size w hw b4 (Int.toNat (IntKind.i64.wrap (Int.tdiv (a0.length : Int) 2))) (Int.toNat (IntKind.i64.wrap (Int.tdiv (a0.length : Int) 2))) x11 ∧ octet_Bytes.l0 kq a0 x10 x11 = some r) k ?_ ?_ ?_
      · skip
        exact ⟨_, _, _, 0, (List.replicate (Int.toNat (IntKind.i64.wrap (Int.tdiv (a0.length : Int) 2))) 0), rfl, (Nat.le_refl _), (Nat.le_refl _), fr9, (Ext.refl _ _), rfl, rfl, rfl, rfl, B7, h⟩
      · rintro _ _ ⟨_, hw13, k14, x10, x11, rfl, hk17, hk18, fr15, e16, z19, z20, z21, z22, B23, h⟩; obtain rfl := Nat.le_zero.1 hk17; rw [octet_Bytes.l0] at h; cases h
      · rintro m0 _ w12 ⟨_, hw13, k14, x10, x11, rfl, hk17, hk18, fr15, e16, z19, z20, z21, z22, B23, h⟩
        rcases k14 with _ | k14
        · rw [octet_Bytes.l0] at h; cases h
        rw [octet_Bytes.l0] at h
        refine wc_seq ?_
        refine wc_region ?_
        refine wl_lss z22 z21 ?_
        refine wl_nil ?_
        refine qn ?_
        refine wc_seq ?_
        by_cases c24 : x10 < ((Int.toNat (IntKind.i64.wrap (Int.tdiv (a0.length : Int) 2))) : Int)
        · replace h := (if_pos c24).symm.trans h
          have b25 : (decide (x10 < ((Int.toNat (IntKind.i64.wrap (Int.tdiv (a0.length : Int) 2))) : Int))) = true := decide_eq_true c24
          refine wc_then rfl b25 ?_
          refine wc_skip ?_
          refine qn ?_
          refine wc_seq ?_
          refine wc_block ?_
          refine wc_seq ?_
          refine wc_region ?_
          refine wl_move (.int .i64 x10) z22 ?_
          refine wl_assign (.int .i64 x10) rfl ?_
          refine wl_nil ?_
          refine qn ?_
          refine wc_seq ?_
          have s26 := Stp.drew (w := w12) (hw := hw13) fr15.wf
          have fr27 := fr15.then0 s26
          have B28 := (B23.step0 s26)
          by_cases c30 : 0 ≤ (IntKind.i64.wrap (2 * x10))
          · replace h := (if_pos c30).symm.trans h
            by_cases c31 : (IntKind.i64.wrap (2 * x10)) < (a0.length : Int)
            · replace h := (if_pos c31).symm.trans h
              obtain ⟨t32, h33, h⟩ := Option.bind_eq_some_iff.1 h
              by_cases c39 : 0 ≤ (IntKind.i64.wrap ((IntKind.i64.wrap (2 * x10)) + 1))
              · replace h := (if_pos c39).symm.trans h
                by_cases c40 : (IntKind.i64.wrap ((IntKind.i64.wrap (2 * x10)) + 1)) < (a0.length : Int)
                · replace h := (if_pos c40).symm.trans h
                  obtain ⟨t41, h42, h⟩ := Option.bind_eq_some_iff.1 h
                  refine wc_any (hw := hw13) mixed [[], [], [1], [0, 2], [3], [], [], [6], [7], [5, 8], [9, 4], [4, 10, 0, 1, 2, 3, 4], [10, 11, 0, 1, 2, 3, 4, 5, 6, 7, 8, 9, 10, 11]] [21, 22, 23, 24, 25, 26, 27, 28, 29, 30, 31, 6, 7] (by kernel_rfl) (PhiOf [fun v w hw => v = .string (bs a0), fun v w hw => v = .int .i64 x10, fun v w hw => v = .int .i64 (IntKind.i64.wrap (2 * x10)), fun v w hw => v = .int .u8 ((a0.getD (Int.toNat (IntKind.i64.wrap (2 * x10))) 0).toNat : Int), fun v w hw => v = .int .i64 t32, fun v w hw => v = .string (bs a0), fun v w hw => v = .int .i64 x10, fun v w hw => v = .int .i64 (IntKind.i64.wrap (2 * x10)), fun v w hw => v = .int .i64 (IntKind.i64.wrap ((IntKind.i64.wrap (2 * x10)) + 1)), fun v w hw => v = .int .u8 ((a0.getD (Int.toNat (IntKind.i64.wrap ((IntKind.i64.wrap (2 * x10)) + 1))) 0).toNat : Int), fun v w hw => v = .int .i64 t41, fun v w hw => v = .int .i64 t32, fun v w hw => v = .int .i64 t41]) (fun D σ w hw => Stp none w0 hw0 w hw ∧ Ext (w12).drew hw13 w hw ∧ MutN (Kint .u8) 5 w0.heap.size w hw b4 (Int.toNat (IntKind.i64.wrap (Int.tdiv (a0.length : Int) 2))) (Int.toNat (IntKind.i64.wrap (Int.tdiv (a0.length : Int) 2))) x11) (stab_of (sbc (fun _ _ _ _ _ _ h => h) (sbc (fun _ _ _ _ _ _ h => h) (sbc (fun _ _ _ _ _ _ h => h) (sbc (fun _ _ _ _ _ _ h => h) (sbc (fun _ _ _ _ _ _ h => h) (sbc (fun _ _ _ _ _ _ h => h) (sbc (fun _ _ _ _ _ _ h => h) (sbc (fun _ _ _ _ _ _ h => h) (sbc (fun _ _ _ _ _ _ h => h) (sbc (fun _ _ _ _ _ _ h => h) (sbc (fun _ _ _ _ _ _ h => h) (sbc (fun _ _ _ _ _ _ h => h) (sbc (fun _ _ _ _ _ _ h => h) sbn)))))))))))))) ?_ (stc ?_ (stc ?_ (stc ?_ (stc ?_ (stc ?_ (stc ?_ (stc ?_ (stc ?_ (stc ?_ (stc ?_ (stc ?_ (stc ?_ (stc ?_ stn))))))))))))) ?_
                  · exact ⟨fr27, Ext.refl _ _, B28⟩
                  · intro D49 σ50 w51 hw52 q53 q54 q55 q56 q57 q58
                    obtain ⟨fr59, e60, C61⟩ := q53
                    refine wl_move (.string (bs a0)) ((q56 0 rfl).trans z19) ?_
                    refine wl_nil ?_
                    exact qn ⟨_, _, rfl, (Ext.refl _ _), ⟨fr59, e60.trans (Ext.refl _ _), C61⟩, (aft_some rfl)⟩
                  · intro D62 σ63 w64 hw65 q66 q67 q68 q69 q70 q71
                    obtain ⟨fr72, e73, C74⟩ := q66
                    refine wl_move (.int .i64 x10) ((q69 5 rfl).trans rfl) ?_
                    refine wl_nil ?_
                    exact qn ⟨_, _, rfl, (Ext.refl _ _), ⟨fr72, e73.trans (Ext.refl _ _), C74⟩, (aft_some rfl)⟩
                  · intro D75 σ76 w77 hw78 q79 q80 q81 q82 q83 q84
                    obtain ⟨fr85, e86, C87⟩ := q79
                    obtain ⟨⟨_, m88⟩, _⟩ := q81
                    have z89 : (σ76 22) = .int .i64 x10 := m88
                    refine wl_mul rfl z89 ?_
                    refine wl_nil ?_
                    exact qn ⟨_, _, rfl, (Ext.refl _ _), ⟨fr85, e86.trans (Ext.refl _ _), C87⟩, (aft_some rfl)⟩
                  · intro D90 σ91 w92 hw93 q94 q95 q96 q97 q98 q99
                    obtain ⟨fr100, e101, C102⟩ := q94
                    obtain ⟨⟨_, m103⟩, ⟨_, m104⟩, _⟩ := q96
                    have z105 : (σ91 21) = .string (bs a0) := m103
                    have z106 : (σ91 23) = .int .i64 (IntKind.i64.wrap (2 * x10)) := m104
                    refine wl_bt Tryd.underlying9 z105 z106 c30 c31 ?_
                    refine wl_nil ?_
                    exact qn ⟨_, _, rfl, (Ext.refl _ _), ⟨fr100, e101.trans (Ext.refl _ _), C102⟩, (aft_some rfl)⟩
                  · intro D107 σ108 w109 hw110 q111 q112 q113 q114 q115 q116
                    obtain ⟨fr117, e118, C119⟩ := q111
                    obtain ⟨⟨_, m120⟩, _⟩ := q113
                    have z121 : (σ108 24) = .int .u8 ((a0.getD (Int.toNat (IntKind.i64.wrap (2 * x10))) 0).toNat : Int) := m120
                    refine wl_call [.string (bs ([48, 49, 50, 51, 52, 53, 54, 55, 56, 57, 97, 98, 99, 100, 101, 102] : List UInt8)), .int .u8 ((a0.getD (Int.toNat (IntKind.i64.wrap (2 * x10))) 0).toNat : Int)] bod51 (mc rfl (mc z121 (mn _))) (strings_IndexByte.ok k14 fr117.wf ([48, 49, 50, 51, 52, 53, 54, 55, 56, 57, 97, 98, 99, 100, 101, 102] : List UInt8) ((a0.getD (Int.toNat (IntKind.i64.wrap (2 * x10))) 0).toNat : Int) _ h33) ?_
                    rintro e122 w123 ⟨hw124, rfl, s125⟩
                    refine ⟨_, rfl, ?_⟩
                    have fr126 := fr117.then0 s125
                    refine wl_nil ?_
                    have B127 := (C119.step0 s125)
                    exact qn ⟨_, _, rfl, s125.ext, ⟨fr126, e118.trans s125.ext, B127⟩, (aft_some rfl)⟩
                  · intro D128 σ129 w130 hw131 q132 q133 q134 q135 q136 q137
                    obtain ⟨fr138, e139, C140⟩ := q132
                    refine wl_move (.string (bs a0)) ((q135 0 rfl).trans z19) ?_
                    refine wl_nil ?_
                    exact qn ⟨_, _, rfl, (Ext.refl _ _), ⟨fr138, e139.trans (Ext.refl _ _), C140⟩, (aft_some rfl)⟩
                  · intro D141 σ142 w143 hw144 q145 q146 q147 q148 q149 q150
                    obtain ⟨fr151, e152, C153⟩ := q145
                    refine wl_move (.int .i64 x10) ((q148 5 rfl).trans rfl) ?_
                    refine wl_nil ?_
                    exact qn ⟨_, _, rfl, (Ext.refl _ _), ⟨fr151, e152.trans (Ext.refl _ _), C153⟩, (aft_some rfl)⟩
                  · intro D154 σ155 w156 hw157 q158 q159 q160 q161 q162 q163
                    obtain ⟨fr164, e165, C166⟩ := q158
                    obtain ⟨⟨_, m167⟩, _⟩ := q160
                    have z168 : (σ155 27) = .int .i64 x10 := m167
                    refine wl_mul rfl z168 ?_
                    refine wl_nil ?_
                    exact qn ⟨_, _, rfl, (Ext.refl _ _), ⟨fr164, e165.trans (Ext.refl _ _), C166⟩, (aft_some rfl)⟩
                  · intro D169 σ170 w171 hw172 q173 q174 q175 q176 q177 q178
                    obtain ⟨fr179, e180, C181⟩ := q173
                    obtain ⟨⟨_, m182⟩, _⟩ := q175
                    have z183 : (σ170 28) = .int .i64 (IntKind.i64.wrap (2 * x10)) := m182
                    refine wl_add z183 rfl ?_
                    refine wl_nil ?_
                    exact qn ⟨_, _, rfl, (Ext.refl _ _), ⟨fr179, e180.trans (Ext.refl _ _), C181⟩, (aft_some rfl)⟩
                  · intro D184 σ185 w186 hw187 q188 q189 q190 q191 q192 q193
                    obtain ⟨fr194, e195, C196⟩ := q188
                    obtain ⟨⟨_, m197⟩, ⟨_, m198⟩, _⟩ := q190
                    have z199 : (σ185 26) = .string (bs a0) := m197
                    have z200 : (σ185 29) = .int .i64 (IntKind.i64.wrap ((IntKind.i64.wrap (2 * x10)) + 1)) := m198
                    refine wl_bt Tryd.underlying9 z199 z200 c39 c40 ?_
                    refine wl_nil ?_
                    exact qn ⟨_, _, rfl, (Ext.refl _ _), ⟨fr194, e195.trans (Ext.refl _ _), C196⟩, (aft_some rfl)⟩
                  · intro D201 σ202 w203 hw204 q205 q206 q207 q208 q209 q210
                    obtain ⟨fr211, e212, C213⟩ := q205
                    obtain ⟨⟨_, m214⟩, ⟨_, m215⟩, _⟩ := q207
                    have z216 : (σ202 30) = .int .u8 ((a0.getD (Int.toNat (IntKind.i64.wrap ((IntKind.i64.wrap (2 * x10)) + 1))) 0).toNat : Int) := m214
                    have z217 : (σ202 25) = .int .i64 t32 := m215
                    refine wl_call [.string (bs ([48, 49, 50, 51, 52, 53, 54, 55, 56, 57, 97, 98, 99, 100, 101, 102] : List UInt8)), .int .u8 ((a0.getD (Int.toNat (IntKind.i64.wrap ((IntKind.i64.wrap (2 * x10)) + 1))) 0).toNat : Int)] bod51 (mc rfl (mc z216 (mn _))) (strings_IndexByte.ok k14 fr211.wf ([48, 49, 50, 51, 52, 53, 54, 55, 56, 57, 97, 98, 99, 100, 101, 102] : List UInt8) ((a0.getD (Int.toNat (IntKind.i64.wrap ((IntKind.i64.wrap (2 * x10)) + 1))) 0).toNat : Int) _ h42) ?_
                    rintro e218 w219 ⟨hw220, rfl, s221⟩
                    refine ⟨_, rfl, ?_⟩
                    have fr222 := fr211.then0 s221
                    refine wl_nil ?_
                    have B223 := (C213.step0 s221)
                    exact qn ⟨_, _, rfl, s221.ext, ⟨fr222, e212.trans s221.ext, B223⟩, (aft_some rfl)⟩
                  · intro D224 σ225 w226 hw227 q228 q229 q230 q231 q232 q233
                    obtain ⟨fr234, e235, C236⟩ := q228
                    obtain ⟨⟨_, m237⟩, ⟨_, m238⟩, ⟨_, m239⟩, ⟨_, m240⟩, ⟨_, m241⟩, ⟨_, m242⟩, ⟨_, m243⟩, _⟩ := q230
                    have z244 : (σ225 25) = .int .i64 t32 := m237
                    have z245 : (σ225 31) = .int .i64 t41 := m238
                    have z246 : (σ225 21) = .string (bs a0) := m239
                    have z247 : (σ225 22) = .int .i64 x10 := m240
                    have z248 : (σ225 23) = .int .i64 (IntKind.i64.wrap (2 * x10)) := m241
                    have z249 : (σ225 24) = .int .u8 ((a0.getD (Int.toNat (IntKind.i64.wrap (2 * x10))) 0).toNat : Int) := m242
                    refine wl_assign (.int .i64 t32) z244 ?_
                    refine wl_nil ?_
                    exact qn ⟨_, _, rfl, (Ext.refl _ _), ⟨fr234, e235.trans (Ext.refl _ _), C236⟩, (aft_some rfl)⟩
                  · intro D250 σ251 w252 hw253 q254 q255 q256 q257 q258 q259
                    obtain ⟨fr260, e261, C262⟩ := q254
                    obtain ⟨⟨_, m263⟩, ⟨_, m264⟩, ⟨_, m265⟩, ⟨_, m266⟩, ⟨_, m267⟩, ⟨_, m268⟩, ⟨_, m269⟩, ⟨_, m270⟩, ⟨_, m271⟩, ⟨_, m272⟩, ⟨_, m273⟩, ⟨_, m274⟩, ⟨_, m275⟩, ⟨_, m276⟩, _⟩ := q256
                    have z277 : (σ251 31) = .int .i64 t41 := m263
                    have z278 : (σ251 6) = .int .i64 t32 := m264
                    have z279 : (σ251 21) = .string (bs a0) := m265
                    have z280 : (σ251 22) = .int .i64 x10 := m266
                    have z281 : (σ251 23) = .int .i64 (IntKind.i64.wrap (2 * x10)) := m267
                    have z282 : (σ251 24) = .int .u8 ((a0.getD (Int.toNat (IntKind.i64.wrap (2 * x10))) 0).toNat : Int) := m268
                    have z283 : (σ251 25) = .int .i64 t32 := m269
                    have z284 : (σ251 26) = .string (bs a0) := m270
                    have z285 : (σ251 27) = .int .i64 x10 := m271
                    have z286 : (σ251 28) = .int .i64 (IntKind.i64.wrap (2 * x10)) := m272
                    have z287 : (σ251 29) = .int .i64 (IntKind.i64.wrap ((IntKind.i64.wrap (2 * x10)) + 1)) := m273
                    have z288 : (σ251 30) = .int .u8 ((a0.getD (Int.toNat (IntKind.i64.wrap ((IntKind.i64.wrap (2 * x10)) + 1))) 0).toNat : Int) := m274
                    refine wl_assign (.int .i64 t41) z277 ?_
                    refine wl_nil ?_
                    exact qn ⟨_, _, rfl, (Ext.refl _ _), ⟨fr260, e261.trans (Ext.refl _ _), C262⟩, (aft_some rfl)⟩
                  · intro σ289 w290 hw291 q292 q293 q294
                    obtain ⟨fr295, e296, C297⟩ := q292
                    obtain ⟨m298, m299, m300, m301, m302, m303, m304, m305, m306, m307, m308, m309, m310, _⟩ := q294
                    have z311 : (σ289 6) = .int .i64 t32 := m309
                    have z312 : (σ289 7) = .int .i64 t41 := m310
                    refine qn ?_
                    refine wc_seq ?_
                    refine wc_seq ?_
                    refine wc_region ?_
                    refine wl_move (.int .i64 t32) z311 ?_
                    refine wl_lss rfl rfl ?_
                    refine wl_move (.bool (decide (t32 < 0))) rfl ?_
                    refine wl_join 3 [35, 36, 37] 37 (.bool ((decide (t32 < 0)) || (decide (t41 < 0)))) ?_ ?_
                    · rcases Bool.eq_false_or_eq_true (decide (t32 < 0)) with hcc | hcc
                      · skip
                        refine wl_off (yl rfl rfl rfl) hcc ?_
                        refine wl_off (yl rfl rfl rfl) hcc ?_
                        refine wl_pick_t (decide (t32 < 0)) (.bool true) rfl hcc rfl ?_
                        refine wl_nil ?_
                        exact qn ⟨rfl, _, rfl, (by repeat (first | exact Same.refl _ _ | refine Same.upd ?_ rfl)), (by rw [hcc]; rfl)⟩
                      · skip
                        refine wl_on (yl rfl rfl rfl) hcc ?_
                        refine wl_move (.int .i64 t41) z312 ?_
                        refine wl_on (yl rfl rfl rfl) hcc ?_
                        refine wl_lss rfl rfl ?_
                        refine wl_pick_f (decide (t32 < 0)) (.bool (decide (t41 < 0))) rfl hcc rfl ?_
                        refine wl_nil ?_
                        exact qn ⟨rfl, _, rfl, (by repeat (first | exact Same.refl _ _ | refine Same.upd ?_ rfl)), (by rw [hcc]; rfl)⟩
                    intro _ ho313 hv314
                    refine wl_nil ?_
                    refine qn ?_
                    by_cases c315 : ((decide (t32 < 0)) || (decide (t41 < 0))) = true
                    · replace h := (if_pos c315).symm.trans h
                      refine wc_then hv314 c315 ?_
                      refine wc_seq ?_
                      refine wc_region ?_
                      refine wl_assign (.string (bs [])) rfl ?_
                      refine wl_assign (.int .i64 4) rfl ?_
                      refine wl_nil ?_
                      refine qn ?_
                      refine wc_ret ?_
                      refine qr ?_
                      refine bret ?_
                      refine qr ?_
                      refine qr ?_
                      refine bret ?_
                      refine qr ?_
                      have h := Option.some.inj h
                      subst h
                      refine end2 rfl (.tmp rfl (.tmp rfl .nil)) ?_
                      exact ⟨_, rfl, fr295⟩
                    · replace h := (if_neg c315).symm.trans h
                      have b316 : ((decide (t32 < 0)) || (decide (t41 < 0))) = false := Bool.eq_false_iff.2 c315
                      refine wc_else hv314 b316 ?_
                      refine wc_skip ?_
                      refine qn ?_
                      refine wc_region ?_
                      refine wl_move (.slice (some ⟨b4, 0, none⟩) (Int.toNat (IntKind.i64.wrap (Int.tdiv (a0.length : Int) 2))) (Int.toNat (IntKind.i64.wrap (Int.tdiv (a0.length : Int) 2)))) ((ho313 4 rfl).trans ((q293 4 rfl).trans z20)) ?_
                      refine wl_move (.int .i64 x10) ((ho313 5 rfl).trans ((q293 5 rfl).trans rfl)) ?_
                      refine wl_move (.int .i64 t32) ((ho313 6 rfl).trans z311) ?_
                      refine wl_mul rfl rfl ?_
                      refine wl_move (.int .i64 t41) ((ho313 7 rfl).trans z312) ?_
                      refine wl_add rfl rfl ?_
                      refine wl_conv_int Tryd.underlying3 Tryd.underlying5 rfl ?_
                      by_cases c317 : (0 : Int) ≤ x10 ∧ x10 < ((Int.toNat (IntKind.i64.wrap (Int.tdiv (a0.length : Int) 2))) : Int)
                      · replace h := (if_pos c317).symm.trans h
                        refine wl_atm Tryd.underlying98 ty5 rfl rfl c317.1 c317.2 ?_
                        refine wl_storem (enc := Value.int .u8) (h1 := fun _ => rfl) (len := (Int.toNat (IntKind.i64.wrap (Int.tdiv (a0.length : Int) 2)))) (IntKind.u8.wrap (IntKind.i64.wrap ((IntKind.i64.wrap (t32 * 16)) + t41))) C297 fr295.wf ty5 rfl rfl rfl (by have := c317; omega) ?_
                        intro w318 s319 B320
                        have fr321 := fr295.then s319 (fun _ e => (Option.some.inj e ▸ C297.new))
                        refine wl_nil ?_
                        refine bn ?_
                        refine qn ?_
                        refine wc_region ?_
                        refine wl_add ((ho313 18 rfl).trans ((q293 18 rfl).trans z22)) rfl ?_
                        refine wl_move (.int .i64 (IntKind.i64.wrap (x10 + 1))) rfl ?_
                        refine wl_nil ?_
                        refine qn ?_
                        exact ⟨_, _, _, (IntKind.i64.wrap (x10 + 1)), (x11.set (Int.toNat x10) (IntKind.u8.wrap (IntKind.i64.wrap ((IntKind.i64.wrap (t32 * 16)) + t41)))), rfl, (by omega), (by omega), fr321, (Ext.trans e16 (Ext.trans s26.ext (Ext.trans e296 s319.ext))), ((ho313 0 rfl).trans ((q293 0 rfl).trans z19)), ((ho313 4 rfl).trans ((q293 4 rfl).trans z20)), ((ho313 17 rfl).trans ((q293 17 rfl).trans z21)), rfl, B320, h⟩
                      · replace h := (if_neg c317).symm.trans h
                        cases h
                · replace h := (if_neg c40).symm.trans h
                  cases h
              · replace h := (if_neg c39).symm.trans h
                cases h
            · replace h := (if_neg c31).symm.trans h
              cases h
          · replace h := (if_neg c30).symm.trans h
            cases h
        · replace h := (if_neg c24).symm.trans h
          have b322 : (decide (x10 < ((Int.toNat (IntKind.i64.wrap (Int.tdiv (a0.length : Int) 2))) : Int))) = false := decide_eq_false c24
          refine wc_else rfl b322 ?_
          refine wc_exit ?_
          refine qe ?_
          refine qe ?_
          refine be ?_
          refine qn ?_
          refine wc_seq ?_
          refine wc_region ?_
          refine wl_move (.slice (some ⟨b4, 0, none⟩) (Int.toNat (IntKind.i64.wrap (Int.tdiv (a0.length : Int) 2))) (Int.toNat (IntKind.i64.wrap (Int.tdiv (a0.length : Int) 2)))) z20 ?_
          refine wl_conv_bytesm Tryd.underlying98 Tryd.underlying5 Tryd.underlying9 B23 rfl ?_
          refine wl_assign (.string (bs (ofInts x11))) rfl ?_
          refine wl_assign (.int .i64 0) rfl ?_
          refine wl_nil ?_
          refine qn ?_
          refine wc_ret ?_
          have h := Option.some.inj h
          subst h
          refine end2 rfl (.tmp rfl (.tmp rfl .nil)) ?_
          exact ⟨_, rfl, fr15⟩
    · replace h := (if_neg c3).symm.trans h
      cases h
/-! ### consignor/script.texts: function 25 -/
def script_texts.l0 : Nat → (List (List UInt8)) → (List (List UInt8)) → Int → Option (List (List UInt8))
  | 0, _, _, _ => none
  | k + 1, a0, l5, x6 => if x6 < (a0.length : Int) then (if 0 ≤ x6 then ((a0[Int.toNat x6]?).bind fun t22 => ((strings_CutPrefix.f k t22 ([120] : List UInt8)).bind fun t31 => ((octet_Bytes.f k t31.1).bind fun t38 => (if (l5.length + ([t38.1]).length) * 16 ≤ 140737488355328 then (script_texts.l0 k a0 (l5 ++ ([t38.1])) (IntKind.i64.wrap (x6 + 1))) else none)))) else none) else (some l5)
def script_texts.f (k : Nat) (a0 : (List (List UInt8))) : Option (List (List UInt8)) := script_texts.l0 k a0 [] 0
set_option maxHeartbeats 1000000 in
theorem script_texts.ok (k : Nat) {w0 : World} {hw0 : Hw} (wf : Hwf w0 hw0) (a0 : (List (List UInt8))) (v0_ : Value) (q0 : Row Kstr w0 hw0 v0_ a0) (r : (List (List UInt8))) (h : script_texts.f k a0 = some r) :
    Calls Tryd.prog 25 #[v0_] w0 fun e w' => ∃ (v0 : Value) (hw' : Hw), e = .returned (v0) ∧ Stp none w0 hw0 w' hw' ∧ Own Kstr 9 w0.heap.size w' hw' v0 r := by
  have fr0 := Stp.refl none (w := w0) (hw := hw0) wf
  unfold script_texts.f at h
  refine enter (n := 32) Tryd.func25 rfl rfl (Nat.le_of_ble_eq_true rfl) ?_
  refine wc_seq ?_
  refine wc_region ?_
  refine wl_assign (.slice none 0 0) rfl ?_
  refine wl_nil ?_
  refine qn ?_
  refine wc_seq ?_
  refine wc_region ?_
  refine wl_assign (.slice none 0 0) rfl ?_
  refine wl_nil ?_
  refine qn ?_
  refine wc_seq ?_
  refine wc_seq ?_
  refine wc_region ?_
  refine wl_move (v0_) rfl ?_
  obtain ⟨A1, c2, hv3⟩ := (q0).slice
  refine wl_len Tryd.underlying36 (show _ = Value.slice _ a0.length _ from (Eq.trans rfl hv3)) ?_
  refine wl_move (.int .i64 0) rfl ?_
  refine wl_nil ?_
  refine qn ?_
  refine wc_block ?_
  refine wc_loop (fun m a w => ∃ (σ : Nat → Value) (hw : Hw) (kq : Nat) (v4 : Value) (l5 : (List (List UInt8))) (x6 : Int), a = mkA 32 σ ∧ kq ≤ m ∧ kq ≤ k ∧ Stp none w0 hw0 w hw ∧ Ext w0 hw0 w hw ∧ σ 3 = v4 ∧ σ 10 = v0_ ∧ σ 11 = .int .i64 (a0.length : Int) ∧ σ 12 = .int .i64 x6 ∧ Own Kstr 9 w0.heap.size w hw v4 l5 ∧ script_texts.l0 kq a0 l5 x6 = some r) k ?_ ?_ ?_
  · skip
    exact ⟨_, _, _, (.slice none 0 0), [], 0, rfl, (Nat.le_refl _), (Nat.le_refl _), fr0, (Ext.refl _ _), rfl, rfl, rfl, rfl, (Own.nil _ _ _ _ _), h⟩
  · rintro _ _ ⟨_, hw8, k9, v4, l5, x6, rfl, hk12, hk13, fr10, e11, z14, z15, z16, z17, r18, h⟩; obtain rfl := Nat.le_zero.1 hk12; rw [script_texts.l0] at h; cases h
  · rintro m0 _ w7 ⟨_, hw8, k9, v4, l5, x6, rfl, hk12, hk13, fr10, e11, z14, z15, z16, z17, r18, h⟩
    rcases k9 with _ | k9
    · rw [script_texts.l0] at h; cases h
    rw [script_texts.l0] at h
    refine wc_seq ?_
    refine wc_region ?_
    refine wl_lss z17 z16 ?_
    refine wl_nil ?_
    refine qn ?_
    refine wc_seq ?_
    by_cases c19 : x6 < (a0.length : Int)
    · replace h := (if_pos c19).symm.trans h
      have b20 : (decide (x6 < (a0.length : Int))) = true := decide_eq_true c19
      refine wc_then rfl b20 ?_
      refine wc_skip ?_
      refine qn ?_
      refine wc_seq ?_
      refine wc_block ?_
      refine wc_seq ?_
      refine wc_region ?_
      by_cases c21 : 0 ≤ x6
      · replace h := (if_pos c21).symm.trans h
        obtain ⟨t22, h23, h⟩ := Option.bind_eq_some_iff.1 h
        have c24 := at_lt c21 h23
        have f30 := q0.ext (e11)
        refine wl_at Tryd.underlying36 ty9 f30 z15 z17 c21 c24 t22 h23 ?_
        rintro B25 o26 cs27 rfl l29
        refine wl_load1 ty9 rfl (.string (bs t22)) (l29.2 0 _ rfl) ?_
        refine wl_assign (.string (bs t22)) rfl ?_
        refine wl_nil ?_
        refine qn ?_
        refine wc_seq ?_
        refine wc_region ?_
        refine wl_move (.string (bs t22)) rfl ?_
        obtain ⟨t31, h32, h⟩ := Option.bind_eq_some_iff.1 h
        refine wl_call [.string (bs t22), .string (bs ([120] : List UInt8))] bod36 (mc rfl (mc rfl (mn _))) (strings_CutPrefix.ok k9 fr10.wf t22 ([120] : List UInt8) _ h32) ?_
        rintro e33 w34 ⟨hw35, rfl, s36⟩
        refine ⟨_, rfl, ?_⟩
        have fr37 := fr10.then0 s36
        refine wl_move (.tuple #[.string (bs t31.1), .bool t31.2]) rfl ?_
        refine wl_extract (vs := [.string (bs t31.1), .bool t31.2]) (.string (bs t31.1)) rfl rfl ?_
        refine wl_extract (vs := [.string (bs t31.1), .bool t31.2]) (.bool t31.2) rfl rfl ?_
        refine wl_assign (.string (bs t31.1)) rfl ?_
        refine wl_assign (.bool t31.2) rfl ?_
        refine wl_nil ?_
        refine qn ?_
        refine wc_seq ?_
        refine wc_region ?_
        refine wl_move (.string (bs t31.1)) rfl ?_
        obtain ⟨t38, h39, h⟩ := Option.bind_eq_some_iff.1 h
        refine wl_call [.string (bs t31.1)] bod37 (mc rfl (mn _)) (octet_Bytes.ok k9 fr37.wf t31.1 _ h39) ?_
        rintro e40 w41 ⟨hw42, rfl, s43⟩
        refine ⟨_, rfl, ?_⟩
        have fr44 := fr37.then0 s43
        refine wl_move (.tuple #[.string (bs t38.1), .int .i64 t38.2]) rfl ?_
        refine wl_extract (vs := [.string (bs t38.1), .int .i64 t38.2]) (.string (bs t38.1)) rfl rfl ?_
        refine wl_extract (vs := [.string (bs t38.1), .int .i64 t38.2]) (.int .i64 t38.2) rfl rfl ?_
        refine wl_assign (.string (bs t38.1)) rfl ?_
        refine wl_assign (.int .i64 t38.2) rfl ?_
        refine wl_nil ?_
        refine qn ?_
        refine wc_region ?_
        refine wl_move (v4) z14 ?_
        refine wl_move (.string (bs t38.1)) rfl ?_
        have hb45 : ∀ w : World, (Instr.buildSlice 36 1 #[(0, .string (bs t38.1))]).run Tryd.prog w = .ok (.slice (some ⟨w.heap.size, 0, none⟩) 1 1) (w.alloc (.cells (List.toArray [.string (bs t38.1)]) 9)) := fun _ => by kernel_rfl
        refine wl_lit (KD := Kstr) fr44.wf [.string (bs t38.1)] [t38.1] (pc rfl (pn _ _)) (hb45 _) rfl (by decide) ⟨[.string (bs t38.1)], _, rfl, rfl, rfl⟩ ?_
        intro v46 w47 hw48 O50 s49
        have O52 := ((r18.step0 s36).step0 s43)
        have n51 := own_dis_new O50 O52
        replace O50 := O50.low fr44.g.size
        have fr53 := fr44.then0 s49
        by_cases c54 : (l5.length + ([t38.1]).length) * 16 ≤ 140737488355328
        · replace h := (if_pos c54).symm.trans h
          have c55 : l5.length + ([t38.1]).length ≤ 9223372036854775807 := by omega
          have O56 := (O52.step0 s49)
          refine wl_app Tryd.underlying36 ty9 rfl (by decide) fr53.wf O56 O50.row rfl rfl c55 c54 fr53.g.size ?_
          intro v57 w58 hw59 O61 s60 lo62
          have n63 := app_dis lo62 n51.symm O50
          have fr64 := fr53.then s60 (fun _ e => (O56.new _ e).1)
          refine wl_assign (v57) rfl ?_
          refine wl_nil ?_
          refine bn ?_
          refine qn ?_
          refine wc_region ?_
          refine wl_add z17 rfl ?_
          refine wl_move (.int .i64 (IntKind.i64.wrap (x6 + 1))) rfl ?_
          refine wl_nil ?_
          refine qn ?_
          exact ⟨_, _, _, v57, (l5 ++ ([t38.1])), (IntKind.i64.wrap (x6 + 1)), rfl, (by omega), (by omega), fr64, (Ext.trans e11 (Ext.trans s36.ext (Ext.trans s43.ext (Ext.trans s49.ext s60.ext)))), rfl, z15, z16, rfl, O61, h⟩
        · replace h := (if_neg c54).symm.trans h
          cases h
      · replace h := (if_neg c21).symm.trans h
        cases h
    · replace h := (if_neg c19).symm.trans h
      have b65 : (decide (x6 < (a0.length : Int))) = false := decide_eq_false c19
      refine wc_else rfl b65 ?_
      refine wc_exit ?_
      refine qe ?_
      refine qe ?_
      refine be ?_
      refine qn ?_
      refine wc_seq ?_
      refine wc_region ?_
      refine wl_move (v4) z14 ?_
      refine wl_assign (v4) rfl ?_
      refine wl_nil ?_
      refine qn ?_
      refine wc_ret ?_
      have h := Option.some.inj h
      subst h
      refine end1 rfl (.tmp rfl .nil) ?_
      exact ⟨v4, _, rfl, fr10, r18⟩
/-! ### consignor/script.deed: function 14 -/
def script_deed.f (k : Nat) (a0 : (List UInt8)) : Option (ApiDeed × Bool) := (strings_Split.f k a0 ([32] : List UInt8)).bind fun t7 => ((script_shapes.f k).bind fun t17 => (mapRun t17 (fun mx37 ms38 => (t7[Int.toNat 0]?).bind fun t98 => (if ((!(ms38.word == t98)) || ((t7.length : Int) != (IntKind.i64.wrap ((IntKind.i64.wrap (1 + ms38.nums)) + ms38.texts)))) = true then (some none) else (if (1 : Int) ≤ (IntKind.i64.wrap (1 + ms38.nums)) then (if ((IntKind.i64.wrap (1 + ms38.nums)) : Int) ≤ (t7.length : Int) then ((script_numbers.f k ((t7.take (Int.toNat (IntKind.i64.wrap (1 + ms38.nums)))).drop (Int.toNat 1))).bind fun t1494 => (if (0 : Int) ≤ (IntKind.i64.wrap (1 + ms38.nums)) then (if ((IntKind.i64.wrap (1 + ms38.nums)) : Int) ≤ (t7.length : Int) then ((script_texts.f k ((t7.take (Int.toNat (t7.length : Int))).drop (Int.toNat (IntKind.i64.wrap (1 + ms38.nums))))).bind fun t1513 => ((script_right.f k (⟨mx37, t1494, t1513⟩ : ApiDeed)).bind fun t2051 => (if t2051 = true then ((script_line.f k ms38.word t1494 t1513).bind fun t2063 => (if a0.length + ([10] : List UInt8).length ≤ 9223372036854775807 then (some (some ((⟨mx37, t1494, t1513⟩ : ApiDeed), (t2063 == (a0 ++ ([10] : List UInt8)))))) else none)) else (some (some ((⟨mx37, t1494, t1513⟩ : ApiDeed), false)))))) else none) else none)) else none) else none))) (some ((⟨0, [], []⟩ : ApiDeed), false))))
set_option maxHeartbeats 1000000 in
theorem script_deed.ok (k : Nat) {w0 : World} {hw0 : Hw} (wf : Hwf w0 hw0) (a0 : (List UInt8)) (gl : Gl w0 hw0) (r : (ApiDeed × Bool)) (h : script_deed.f k a0 = some r) :
    Calls Tryd.prog 14 #[.string (bs a0)] w0 fun e w' => ∃ (v0_1 : Value) (v0_2 : Value) (hw' : Hw), e = .returned (.tuple #[.agg #[.int .i64 r.1.Kind, v0_1, v0_2], .bool r.2]) ∧ Stp none w0 hw0 w' hw' ∧ Row (Kint .i64) w' hw' v0_1 r.1.Nums ∧ Row Kstr w' hw' v0_2 r.1.Texts := by
  have fr0 := Stp.refl none (w := w0) (hw := hw0) wf
  unfold script_deed.f at h
  refine enter (n := 64) Tryd.func14 rfl rfl (Nat.le_of_ble_eq_true rfl) ?_
  refine wc_seq ?_
  refine wc_region ?_
  refine wl_alloc fr0.wf fr0.g.size ty38 [.int .i64 0, .slice none 0 0, .slice none 0 0] rfl ?_
  intro b1 w2 s3 B4 g5
  have fr6 := fr0.then0 s3
  refine wl_assign (.bool false) rfl ?_
  refine wl_nil ?_
  refine qn ?_
  refine wc_seq ?_
  refine wc_region ?_
  refine wl_move (.string (bs a0)) rfl ?_
  obtain ⟨t7, h8, h⟩ := Option.bind_eq_some_iff.1 h
  refine wl_call [.string (bs a0), .string (bs ([32] : List UInt8))] bod23 (mc rfl (mc rfl (mn _))) (strings_Split.ok k fr6.wf a0 ([32] : List UInt8) (Gl.of gl fr6) _ h8) ?_
  rintro e9 w10 ⟨v13, hw11, rfl, s12, O14⟩
  refine ⟨_, rfl, ?_⟩
  have n15 := own_new_lt O14 B4.lt
  replace O14 := O14.low fr6.g.size
  have fr16 := fr6.then0 s12
  refine wl_assign (v13) rfl ?_
  refine wl_nil ?_
  refine qn ?_
  refine wc_seq ?_
  refine wc_seq ?_
  refine wc_region ?_
  obtain ⟨t17, h18, h⟩ := Option.bind_eq_some_iff.1 h
  have B23 := (B4.step0 s12)
  refine wl_call [] bod11 (mn _) (script_shapes.ok k fr16.wf _ h18) ?_
  rintro e19 w20 ⟨v24, hw21, rfl, s22, f25⟩
  refine ⟨_, rfl, ?_⟩
  have fr26 := fr16.then0 s22
  refine wl_rangeR f25 fr26.wf fr26.g.size Tryd.underlying42 Tryd.underlying3 rfl ?_
  intro b27 w28 s29 B30 g31
  have B33 := (B23.step0 s22)
  have n32 : b1 ≠ b27 := B33.ne g31
  have O35 := (O14.step0 s22)
  have n34 := O35.ne g31
  have fr36 := fr26.then0 s29
  refine wl_nil ?_
  refine qn ?_
  refine wc_block ?_
  obtain ⟨Bm39, hB40⟩ : ∃ B : Int → ScriptShape → Option (Option (ApiDeed × Bool)), B = (fun mx37 ms38 => (t7[Int.toNat 0]?).bind fun t98 => (if ((!(ms38.word == t98)) || ((t7.length : Int) != (IntKind.i64.wrap ((IntKind.i64.wrap (1 + ms38.nums)) + ms38.texts)))) = true then (some none) else (if (1 : Int) ≤ (IntKind.i64.wrap (1 + ms38.nums)) then (if ((IntKind.i64.wrap (1 + ms38.nums)) : Int) ≤ (t7.length : Int) then ((script_numbers.f k ((t7.take (Int.toNat (IntKind.i64.wrap (1 + ms38.nums)))).drop (Int.toNat 1))).bind fun t1494 => (if (0 : Int) ≤ (IntKind.i64.wrap (1 + ms38.nums)) then (if ((IntKind.i64.wrap (1 + ms38.nums)) : Int) ≤ (t7.length : Int) then ((script_texts.f k ((t7.take (Int.toNat (t7.length : Int))).drop (Int.toNat (IntKind.i64.wrap (1 + ms38.nums))))).bind fun t1513 => ((script_right.f k (⟨mx37, t1494, t1513⟩ : ApiDeed)).bind fun t2051 => (if t2051 = true then ((script_line.f k ms38.word t1494 t1513).bind fun t2063 => (if a0.length + ([10] : List UInt8).length ≤ 9223372036854775807 then (some (some ((⟨mx37, t1494, t1513⟩ : ApiDeed), (t2063 == (a0 ++ ([10] : List UInt8)))))) else none)) else (some (some ((⟨mx37, t1494, t1513⟩ : ApiDeed), false)))))) else none) else none)) else none) else none))) := ⟨_, rfl⟩
  rw [← hB40] at h
  refine wc_loop (fun m a w => ∃ (σ : Nat → Value) (hw : Hw) (left : Lit → Bool) (cnt : Nat), a = mkA 64 σ ∧ cnt < m ∧ Stp none w0 hw0 w hw ∧ Ext w28 hw21 w hw ∧ σ 0 = .string (bs a0) ∧ σ 2 = .pointer (some ⟨b1, 0, none⟩) ∧ σ 4 = v13 ∧ σ 11 = .pointer (some ⟨b27, 0, none⟩) ∧ Box w0.heap.size w hw b1 38 [.int .i64 0, .slice none 0 0, .slice none 0 0] ∧ IterL Tryd.prog 3 (fun x : ScriptShape => Value.agg #[.string (bs x.word), .int .i64 x.nums, .int .i64 x.texts]) w0.heap.size w hw b27 t17 left cnt ∧ Own Kstr 9 w0.heap.size w hw v13 t7 ∧ SeenM t17 Bm39 left) (t17.length + 1) ?_ ?_ ?_
  have B41 := (B33.step0 s29)
  have O42 := (O35.step0 s29)
  · exact ⟨_, _, _, _, rfl, Nat.lt_succ_self _, fr36, Ext.refl _ _, rfl, rfl, rfl, rfl, B41, B30, O42, SeenM.start⟩
  · rintro _ _ ⟨_, _, _, _, _, h0, _⟩; exact absurd h0 (Nat.not_lt_zero _)
  · rintro m43 _ w44 ⟨_, hw45, lf46, cn47, rfl, hk48, fr49, e50, z51, z52, z53, z54, B55, B56, O57, sn58⟩
    refine wc_seq ?_
    refine wc_region ?_
    refine wl_nextR B56 fr49.wf Tryd.underlying3 z54 ?_ ?_
    · intro hl59
      replace h := mapRun_end h (sn58.all hl59)
      refine wl_extract (vs := [.bool false]) (.bool false) rfl rfl ?_
      refine wl_nil ?_
      refine qn ?_
      refine wc_seq ?_
      refine wc_else rfl rfl ?_
      refine wc_exit ?_
      refine qe ?_
      refine qe ?_
      refine be ?_
      refine qn ?_
      refine wc_seq ?_
      refine wc_region ?_
      have hb60 : ∀ w, (Instr.build 38 #[]).run Tryd.prog w = .ok (.agg (List.toArray [.int .i64 0, .slice none 0 0, .slice none 0 0])) w := by intro  _; kernel_rfl
      refine wl_build [.int .i64 0, .slice none 0 0, .slice none 0 0] (pn _ _) (hb60 _) ?_
      refine wl_store B55 fr49.wf ty38 z52 [.int .i64 0, .slice none 0 0, .slice none 0 0] (cells_of (v := (.agg #[.int .i64 0, .slice none 0 0, .slice none 0 0])) rfl rfl) rfl (Nat.le_of_ble_eq_true rfl) (by intro u hu; simp only [List.mem_cons, List.not_mem_nil, or_false] at hu; rcases hu with rfl | rfl | rfl <;> first | rfl | exact Dy.one _) [.int .i64 0, .slice none 0 0, .slice none 0 0] rfl ?_
      intro w61 s62 B63
      have fr64 := fr49.then s62 (fun _ e => (Option.some.inj e ▸ B55.new))
      refine wl_assign (.bool false) rfl ?_
      refine wl_nil ?_
      refine qn ?_
      refine wc_ret ?_
      have h := Option.some.inj h
      subst h
      refine end2 rfl (.cell z52 (ty38.load (l := [.int .i64 0, .slice none 0 0, .slice none 0 0]) rfl (B63.cells rfl)) (.tmp rfl .nil)) ?_
      exact ⟨(.slice none 0 0), (.slice none 0 0), _, rfl, fr64, (Row.nil _ _ _), (Row.nil _ _ _)⟩
    · intro mx37 ms38 w65 cn66 hm67 B68 hlt69 s70 hen71
      have fr75 := fr49.then s70 (fun _ e => (Option.some.inj e ▸ B56.new))
      obtain ⟨q72, hb73, hq74⟩ := mapRun_at h hm67
      have h : ((t7[Int.toNat 0]?).bind fun t98 => (if ((!(ms38.word == t98)) || ((t7.length : Int) != (IntKind.i64.wrap ((IntKind.i64.wrap (1 + ms38.nums)) + ms38.texts)))) = true then (some none) else (if (1 : Int) ≤ (IntKind.i64.wrap (1 + ms38.nums)) then (if ((IntKind.i64.wrap (1 + ms38.nums)) : Int) ≤ (t7.length : Int) then ((script_numbers.f k ((t7.take (Int.toNat (IntKind.i64.wrap (1 + ms38.nums)))).drop (Int.toNat 1))).bind fun t1494 => (if (0 : Int) ≤ (IntKind.i64.wrap (1 + ms38.nums)) then (if ((IntKind.i64.wrap (1 + ms38.nums)) : Int) ≤ (t7.length : Int) then ((script_texts.f k ((t7.take (Int.toNat (t7.length : Int))).drop (Int.toNat (IntKind.i64.wrap (1 + ms38.nums))))).bind fun t1513 => ((script_right.f k (⟨mx37, t1494, t1513⟩ : ApiDeed)).bind fun t2051 => (if t2051 = true then ((script_line.f k ms38.word t1494 t1513).bind fun t2063 => (if a0.length + ([10] : List UInt8).length ≤ 9223372036854775807 then (some (some ((⟨mx37, t1494, t1513⟩ : ApiDeed), (t2063 == (a0 ++ ([10] : List UInt8)))))) else none)) else (some (some ((⟨mx37, t1494, t1513⟩ : ApiDeed), false)))))) else none) else none)) else none) else none))) = some q72 := (congrFun (congrFun hB40 mx37) ms38).symm.trans hb73
      refine wl_extract (vs := [.bool true, .int .i64 mx37, .agg #[.string (bs ms38.word), .int .i64 ms38.nums, .int .i64 ms38.texts]]) (.bool true) rfl rfl ?_
      refine wl_nil ?_
      refine qn ?_
      refine wc_seq ?_
      refine wc_then rfl rfl ?_
      refine wc_skip ?_
      refine qn ?_
      refine wc_block ?_
      refine wc_seq ?_
      refine wc_region ?_
      refine wl_entry (vs := [.int .i64 mx37, .agg #[.string (bs ms38.word), .int .i64 ms38.nums, .int .i64 ms38.texts]]) z54 hen71 ?_
      refine wl_extract (vs := [.int .i64 mx37, .agg #[.string (bs ms38.word), .int .i64 ms38.nums, .int .i64 ms38.texts]]) (.int .i64 mx37) rfl rfl ?_
      refine wl_extract (vs := [.int .i64 mx37, .agg #[.string (bs ms38.word), .int .i64 ms38.nums, .int .i64 ms38.texts]]) (.agg #[.string (bs ms38.word), .int .i64 ms38.nums, .int .i64 ms38.texts]) rfl rfl ?_
      refine wl_alloc fr75.wf fr75.g.size ty41 [.string (bs []), .int .i64 0, .int .i64 0] rfl ?_
      intro b76 w77 s78 B79 g80
      have B82 := (B55.stepb s70 n32)
      have n81 : b1 ≠ b76 := B82.ne g80
      have n83 : b27 ≠ b76 := B68.ne g80
      have O85 := (O57.step s70 (.inr n34))
      have n84 := O85.ne g80
      have fr86 := fr75.then0 s78
      refine wl_assign (.int .i64 mx37) rfl ?_
      refine wl_store B79 fr86.wf ty41 rfl [.string (bs ms38.word), .int .i64 ms38.nums, .int .i64 ms38.texts] (cells_of (v := (.agg #[.string (bs ms38.word), .int .i64 ms38.nums, .int .i64 ms38.texts])) rfl rfl) rfl (Nat.le_of_ble_eq_true rfl) (by intro u hu; simp only [List.mem_cons, List.not_mem_nil, or_false] at hu; rcases hu with rfl | rfl | rfl <;> first | rfl | exact Dy.one _) [.string (bs ms38.word), .int .i64 ms38.nums, .int .i64 ms38.texts] rfl ?_
      intro w87 s88 B89
      have fr90 := fr86.then s88 (fun _ e => (Option.some.inj e ▸ B79.new))
      refine wl_nil ?_
      refine qn ?_
      refine wc_seq ?_
      refine wc_seq ?_
      have s91 := Stp.drew (w := w87) (hw := hw45) fr90.wf
      have fr92 := fr90.then0 s91
      have B93 := (((B82.step0 s78).stepb s88 n81).step0 s91)
      have B94 := (((B68.step0 s78).stepb s88 n83).step0 s91)
      have B95 := (B89.step0 s91)
      have O96 := (((O85.step0 s78).step s88 (.inr n84)).step0 s91)
      obtain ⟨t98, h99, h⟩ := Option.bind_eq_some_iff.1 h
      refine wc_any (hw := hw45) mixed [[], [0], [], [2], [3], [1, 4], [5], [6], [7, 6], [6], [9, 6], [10, 6], [6], [12, 6], [11, 13, 6], [8, 14, 6], [6, 15]] [17, 18, 19, 20, 21, 22, 23, 24, 25, 26, 27, 28, 29, 30, 31, 32, 33] (by kernel_rfl) (PhiOf [fun v w hw => v = .pointer (some ⟨b76, 0, none⟩), fun v w hw => v = .string (bs ms38.word), fun v w hw => v = v13, fun v w hw => ∃ (B101 : Nat) (o102 : Nat), v = .pointer (some ⟨B101, o102, none⟩) ∧ Live w hw B101 o102 [.string (bs t98)], fun v w hw => v = .string (bs t98), fun v w hw => v = .bool (!(ms38.word == t98)), fun v w hw => v = .bool (!(ms38.word == t98)), fun v w hw => (!(ms38.word == t98)) = false → v = v13, fun v w hw => (!(ms38.word == t98)) = false → v = .int .i64 (t7.length : Int), fun v w hw => (!(ms38.word == t98)) = false → v = .pointer (some ⟨b76, 1, none⟩), fun v w hw => (!(ms38.word == t98)) = false → v = .int .i64 ms38.nums, fun v w hw => (!(ms38.word == t98)) = false → v = .int .i64 (IntKind.i64.wrap (1 + ms38.nums)), fun v w hw => (!(ms38.word == t98)) = false → v = .pointer (some ⟨b76, 2, none⟩), fun v w hw => (!(ms38.word == t98)) = false → v = .int .i64 ms38.texts, fun v w hw => (!(ms38.word == t98)) = false → v = .int .i64 (IntKind.i64.wrap ((IntKind.i64.wrap (1 + ms38.nums)) + ms38.texts)), fun v w hw => (!(ms38.word == t98)) = false → v = .bool ((t7.length : Int) != (IntKind.i64.wrap ((IntKind.i64.wrap (1 + ms38.nums)) + ms38.texts))), fun v w hw => v = .bool ((!(ms38.word == t98)) || ((t7.length : Int) != (IntKind.i64.wrap ((IntKind.i64.wrap (1 + ms38.nums)) + ms38.texts))))]) (fun D σ w hw => Stp none w0 hw0 w hw ∧ Ext (w87).drew hw45 w hw ∧ Box w0.heap.size w hw b1 38 [.int .i64 0, .slice none 0 0, .slice none 0 0] ∧ IterL Tryd.prog 3 (fun x : ScriptShape => Value.agg #[.string (bs x.word), .int .i64 x.nums, .int .i64 x.texts]) w0.heap.size w hw b27 t17 (fun z => lf46 z && !z.sameKey (.int .i64 mx37)) cn66 ∧ Box w0.heap.size w hw b76 41 [.string (bs ms38.word), .int .i64 ms38.nums, .int .i64 ms38.texts] ∧ Own Kstr 9 w0.heap.size w hw v13 t7) (stab_of (sbc (fun _ _ _ _ _ _ h => h) (sbc (fun _ _ _ _ _ _ h => h) (sbc (fun _ _ _ _ _ _ h => h) (sbc (fun _ _ _ _ _ e ⟨B101, o102, hv, F0⟩ => ⟨B101, o102, hv, F0.ext e⟩) (sbc (fun _ _ _ _ _ _ h => h) (sbc (fun _ _ _ _ _ _ h => h) (sbc (fun _ _ _ _ _ _ h => h) (sbc (fun _ _ _ _ _ _ h => h) (sbc (fun _ _ _ _ _ _ h => h) (sbc (fun _ _ _ _ _ _ h => h) (sbc (fun _ _ _ _ _ _ h => h) (sbc (fun _ _ _ _ _ _ h => h) (sbc (fun _ _ _ _ _ _ h => h) (sbc (fun _ _ _ _ _ _ h => h) (sbc (fun _ _ _ _ _ _ h => h) (sbc (fun _ _ _ _ _ _ h => h) (sbc (fun _ _ _ _ _ _ h => h) sbn)))))))))))))))))) ?_ (stc ?_ (stc ?_ (stc ?_ (stc ?_ (stc ?_ (stc ?_ (stc ?_ (stc ?_ (stc ?_ (stc ?_ (stc ?_ (stc ?_ (stc ?_ (stc ?_ (stc ?_ (stc ?_ (stc ?_ stn))))))))))))))))) ?_
      · exact ⟨fr92, Ext.refl _ _, B93, B94, B95, O96⟩
      · intro D1106 σ1107 w1108 hw1109 q1110 q1111 q1112 q1113 q1114 q1115
        obtain ⟨fr1116, e1117, C1118, C1119, C1120, C1121⟩ := q1110
        refine wl_field fld41_0 ((q1113 6 rfl).trans rfl) ?_
        refine wl_nil ?_
        exact qn ⟨_, _, rfl, (Ext.refl _ _), ⟨fr1116, e1117.trans (Ext.refl _ _), C1118, C1119, C1120, C1121⟩, (aft_some rfl)⟩
      · intro D1122 σ1123 w1124 hw1125 q1126 q1127 q1128 q1129 q1130 q1131
        obtain ⟨fr1132, e1133, C1134, C1135, C1136, C1137⟩ := q1126
        obtain ⟨⟨_, m1138⟩, _⟩ := q1128
        have z1139 : (σ1123 17) = .pointer (some ⟨b76, 0, none⟩) := m1138
        refine wl_loadb1 C1136 ty9 z1139 (.string (bs ms38.word)) rfl ?_
        refine wl_nil ?_
        exact qn ⟨_, _, rfl, (Ext.refl _ _), ⟨fr1132, e1133.trans (Ext.refl _ _), C1134, C1135, C1136, C1137⟩, (aft_some rfl)⟩
      · intro D1140 σ1141 w1142 hw1143 q1144 q1145 q1146 q1147 q1148 q1149
        obtain ⟨fr1150, e1151, C1152, C1153, C1154, C1155⟩ := q1144
        refine wl_move (v13) ((q1147 4 rfl).trans z53) ?_
        refine wl_nil ?_
        exact qn ⟨_, _, rfl, (Ext.refl _ _), ⟨fr1150, e1151.trans (Ext.refl _ _), C1152, C1153, C1154, C1155⟩, (aft_some rfl)⟩
      · intro D1156 σ1157 w1158 hw1159 q1160 q1161 q1162 q1163 q1164 q1165
        obtain ⟨fr1166, e1167, C1168, C1169, C1170, C1171⟩ := q1160
        obtain ⟨⟨_, m1172⟩, _⟩ := q1162
        have z1173 : (σ1157 19) = v13 := m1172
        have c1174 := at_lt (by decide) h99
        refine wl_at Tryd.underlying36 ty9 C1171.row z1173 rfl (by decide) c1174 t98 h99 ?_
        rintro B1175 o1176 cs1177 rfl l1179
        refine wl_nil ?_
        exact qn ⟨_, _, rfl, (Ext.refl _ _), ⟨fr1166, e1167.trans (Ext.refl _ _), C1168, C1169, C1170, C1171⟩, (aft_some (show ∃ (B101 : Nat) (o102 : Nat), (.pointer (some ⟨B1175, o1176, none⟩) : Value) = .pointer (some ⟨B101, o102, none⟩) ∧ Live w1158 hw1159 B101 o102 [.string (bs t98)] from ⟨B1175, o1176, rfl, l1179⟩))⟩
      · intro D1180 σ1181 w1182 hw1183 q1184 q1185 q1186 q1187 q1188 q1189
        obtain ⟨fr1190, e1191, C1192, C1193, C1194, C1195⟩ := q1184
        obtain ⟨⟨_, m1196⟩, _⟩ := q1186
        obtain ⟨B1197, o1198, z1199, f1200⟩ : ∃ (B101 : Nat) (o102 : Nat), (σ1181 20) = .pointer (some ⟨B101, o102, none⟩) ∧ Live w1182 hw1183 B101 o102 [.string (bs t98)] := m1196
        refine wl_load1 ty9 z1199 (.string (bs t98)) (f1200.2 0 _ rfl) ?_
        refine wl_nil ?_
        exact qn ⟨_, _, rfl, (Ext.refl _ _), ⟨fr1190, e1191.trans (Ext.refl _ _), C1192, C1193, C1194, C1195⟩, (aft_some rfl)⟩
      · intro D1201 σ1202 w1203 hw1204 q1205 q1206 q1207 q1208 q1209 q1210
        obtain ⟨fr1211, e1212, C1213, C1214, C1215, C1216⟩ := q1205
        obtain ⟨⟨_, m1217⟩, ⟨_, m1218⟩, _⟩ := q1207
        have z1219 : (σ1202 18) = .string (bs ms38.word) := m1217
        have z1220 : (σ1202 21) = .string (bs t98) := m1218
        refine wl_neqs z1219 z1220 ?_
        refine wl_nil ?_
        exact qn ⟨_, _, rfl, (Ext.refl _ _), ⟨fr1211, e1212.trans (Ext.refl _ _), C1213, C1214, C1215, C1216⟩, (aft_some rfl)⟩
      · intro D1221 σ1222 w1223 hw1224 q1225 q1226 q1227 q1228 q1229 q1230
        obtain ⟨fr1231, e1232, C1233, C1234, C1235, C1236⟩ := q1225
        obtain ⟨⟨_, m1237⟩, _⟩ := q1227
        have z1238 : (σ1222 22) = .bool (!(ms38.word == t98)) := m1237
        refine wl_move (.bool (!(ms38.word == t98))) z1238 ?_
        refine wl_nil ?_
        exact qn ⟨_, _, rfl, (Ext.refl _ _), ⟨fr1231, e1232.trans (Ext.refl _ _), C1233, C1234, C1235, C1236⟩, (aft_some rfl)⟩
      · intro D1239 σ1240 w1241 hw1242 q1243 q1244 q1245 q1246 q1247 q1248
        obtain ⟨fr1249, e1250, C1251, C1252, C1253, C1254⟩ := q1243
        obtain ⟨⟨_, m1255⟩, _⟩ := q1245
        have z1256 : (σ1240 23) = .bool (!(ms38.word == t98)) := m1255
        rcases Bool.eq_false_or_eq_true (!(ms38.word == t98)) with hc1257 | hc1257
        · skip
          refine wl_off (yl rfl rfl z1256) hc1257 ?_
          refine wl_nil ?_
          exact qn ⟨_, _, rfl, (Ext.refl _ _), ⟨fr1249, e1250.trans (Ext.refl _ _), C1251, C1252, C1253, C1254⟩, (aft_some (fun hh => by rw [hc1257] at hh; cases hh))⟩
        · skip
          refine wl_on (yl rfl rfl z1256) hc1257 ?_
          refine wl_move (v13) ((q1246 4 rfl).trans z53) ?_
          refine wl_nil ?_
          exact qn ⟨_, _, rfl, (Ext.refl _ _), ⟨fr1249, e1250.trans (Ext.refl _ _), C1251, C1252, C1253, C1254⟩, (aft_some (fun _ => rfl))⟩
      · intro D1258 σ1259 w1260 hw1261 q1262 q1263 q1264 q1265 q1266 q1267
        obtain ⟨fr1268, e1269, C1270, C1271, C1272, C1273⟩ := q1262
        obtain ⟨⟨_, m1274⟩, ⟨_, m1275⟩, _⟩ := q1264
        have z1276 : (σ1259 23) = .bool (!(ms38.word == t98)) := m1275
        rcases Bool.eq_false_or_eq_true (!(ms38.word == t98)) with hc1277 | hc1277
        · skip
          refine wl_off (yl rfl rfl z1276) hc1277 ?_
          refine wl_nil ?_
          exact qn ⟨_, _, rfl, (Ext.refl _ _), ⟨fr1268, e1269.trans (Ext.refl _ _), C1270, C1271, C1272, C1273⟩, (aft_some (fun hh => by rw [hc1277] at hh; cases hh))⟩
        · skip
          have z1278 : (σ1259 24) = v13 := m1274 hc1277
          refine wl_on (yl rfl rfl z1276) hc1277 ?_
          obtain ⟨A1279, c1280, hv1281⟩ := (C1273.row).slice
          refine wl_len Tryd.underlying36 (show _ = Value.slice _ t7.length _ from (Eq.trans z1278 hv1281)) ?_
          refine wl_nil ?_
          exact qn ⟨_, _, rfl, (Ext.refl _ _), ⟨fr1268, e1269.trans (Ext.refl _ _), C1270, C1271, C1272, C1273⟩, (aft_some (fun _ => rfl))⟩
      · intro D1282 σ1283 w1284 hw1285 q1286 q1287 q1288 q1289 q1290 q1291
        obtain ⟨fr1292, e1293, C1294, C1295, C1296, C1297⟩ := q1286
        obtain ⟨⟨_, m1298⟩, _⟩ := q1288
        have z1299 : (σ1283 23) = .bool (!(ms38.word == t98)) := m1298
        rcases Bool.eq_false_or_eq_true (!(ms38.word == t98)) with hc1300 | hc1300
        · skip
          refine wl_off (yl rfl rfl z1299) hc1300 ?_
          refine wl_nil ?_
          exact qn ⟨_, _, rfl, (Ext.refl _ _), ⟨fr1292, e1293.trans (Ext.refl _ _), C1294, C1295, C1296, C1297⟩, (aft_some (fun hh => by rw [hc1300] at hh; cases hh))⟩
        · skip
          refine wl_on (yl rfl rfl z1299) hc1300 ?_
          refine wl_field fld41_1 ((q1289 6 rfl).trans rfl) ?_
          refine wl_nil ?_
          exact qn ⟨_, _, rfl, (Ext.refl _ _), ⟨fr1292, e1293.trans (Ext.refl _ _), C1294, C1295, C1296, C1297⟩, (aft_some (fun _ => rfl))⟩
      · intro D1301 σ1302 w1303 hw1304 q1305 q1306 q1307 q1308 q1309 q1310
        obtain ⟨fr1311, e1312, C1313, C1314, C1315, C1316⟩ := q1305
        obtain ⟨⟨_, m1317⟩, ⟨_, m1318⟩, _⟩ := q1307
        have z1319 : (σ1302 23) = .bool (!(ms38.word == t98)) := m1318
        rcases Bool.eq_false_or_eq_true (!(ms38.word == t98)) with hc1320 | hc1320
        · skip
          refine wl_off (yl rfl rfl z1319) hc1320 ?_
          refine wl_nil ?_
          exact qn ⟨_, _, rfl, (Ext.refl _ _), ⟨fr1311, e1312.trans (Ext.refl _ _), C1313, C1314, C1315, C1316⟩, (aft_some (fun hh => by rw [hc1320] at hh; cases hh))⟩
        · skip
          have z1321 : (σ1302 26) = .pointer (some ⟨b76, 1, none⟩) := m1317 hc1320
          refine wl_on (yl rfl rfl z1319) hc1320 ?_
          refine wl_loadb1 C1315 ty3 z1321 (.int .i64 ms38.nums) rfl ?_
          refine wl_nil ?_
          exact qn ⟨_, _, rfl, (Ext.refl _ _), ⟨fr1311, e1312.trans (Ext.refl _ _), C1313, C1314, C1315, C1316⟩, (aft_some (fun _ => rfl))⟩
      · intro D1322 σ1323 w1324 hw1325 q1326 q1327 q1328 q1329 q1330 q1331
        obtain ⟨fr1332, e1333, C1334, C1335, C1336, C1337⟩ := q1326
        obtain ⟨⟨_, m1338⟩, ⟨_, m1339⟩, _⟩ := q1328
        have z1340 : (σ1323 23) = .bool (!(ms38.word == t98)) := m1339
        rcases Bool.eq_false_or_eq_true (!(ms38.word == t98)) with hc1341 | hc1341
        · skip
          refine wl_off (yl rfl rfl z1340) hc1341 ?_
          refine wl_nil ?_
          exact qn ⟨_, _, rfl, (Ext.refl _ _), ⟨fr1332, e1333.trans (Ext.refl _ _), C1334, C1335, C1336, C1337⟩, (aft_some (fun hh => by rw [hc1341] at hh; cases hh))⟩
        · skip
          have z1342 : (σ1323 27) = .int .i64 ms38.nums := m1338 hc1341
          refine wl_on (yl rfl rfl z1340) hc1341 ?_
          refine wl_add rfl z1342 ?_
          refine wl_nil ?_
          exact qn ⟨_, _, rfl, (Ext.refl _ _), ⟨fr1332, e1333.trans (Ext.refl _ _), C1334, C1335, C1336, C1337⟩, (aft_some (fun _ => rfl))⟩
      · intro D1343 σ1344 w1345 hw1346 q1347 q1348 q1349 q1350 q1351 q1352
        obtain ⟨fr1353, e1354, C1355, C1356, C1357, C1358⟩ := q1347
        obtain ⟨⟨_, m1359⟩, _⟩ := q1349
        have z1360 : (σ1344 23) = .bool (!(ms38.word == t98)) := m1359
        rcases Bool.eq_false_or_eq_true (!(ms38.word == t98)) with hc1361 | hc1361
        · skip
          refine wl_off (yl rfl rfl z1360) hc1361 ?_
          refine wl_nil ?_
          exact qn ⟨_, _, rfl, (Ext.refl _ _), ⟨fr1353, e1354.trans (Ext.refl _ _), C1355, C1356, C1357, C1358⟩, (aft_some (fun hh => by rw [hc1361] at hh; cases hh))⟩
        · skip
          refine wl_on (yl rfl rfl z1360) hc1361 ?_
          refine wl_field fld41_2 ((q1350 6 rfl).trans rfl) ?_
          refine wl_nil ?_
          exact qn ⟨_, _, rfl, (Ext.refl _ _), ⟨fr1353, e1354.trans (Ext.refl _ _), C1355, C1356, C1357, C1358⟩, (aft_some (fun _ => rfl))⟩
      · intro D1362 σ1363 w1364 hw1365 q1366 q1367 q1368 q1369 q1370 q1371
        obtain ⟨fr1372, e1373, C1374, C1375, C1376, C1377⟩ := q1366
        obtain ⟨⟨_, m1378⟩, ⟨_, m1379⟩, _⟩ := q1368
        have z1380 : (σ1363 23) = .bool (!(ms38.word == t98)) := m1379
        rcases Bool.eq_false_or_eq_true (!(ms38.word == t98)) with hc1381 | hc1381
        · skip
          refine wl_off (yl rfl rfl z1380) hc1381 ?_
          refine wl_nil ?_
          exact qn ⟨_, _, rfl, (Ext.refl _ _), ⟨fr1372, e1373.trans (Ext.refl _ _), C1374, C1375, C1376, C1377⟩, (aft_some (fun hh => by rw [hc1381] at hh; cases hh))⟩
        · skip
          have z1382 : (σ1363 29) = .pointer (some ⟨b76, 2, none⟩) := m1378 hc1381
          refine wl_on (yl rfl rfl z1380) hc1381 ?_
          refine wl_loadb1 C1376 ty3 z1382 (.int .i64 ms38.texts) rfl ?_
          refine wl_nil ?_
          exact qn ⟨_, _, rfl, (Ext.refl _ _), ⟨fr1372, e1373.trans (Ext.refl _ _), C1374, C1375, C1376, C1377⟩, (aft_some (fun _ => rfl))⟩
      · intro D1383 σ1384 w1385 hw1386 q1387 q1388 q1389 q1390 q1391 q1392
        obtain ⟨fr1393, e1394, C1395, C1396, C1397, C1398⟩ := q1387
        obtain ⟨⟨_, m1399⟩, ⟨_, m1400⟩, ⟨_, m1401⟩, _⟩ := q1389
        have z1402 : (σ1384 23) = .bool (!(ms38.word == t98)) := m1401
        rcases Bool.eq_false_or_eq_true (!(ms38.word == t98)) with hc1403 | hc1403
        · skip
          refine wl_off (yl rfl rfl z1402) hc1403 ?_
          refine wl_nil ?_
          exact qn ⟨_, _, rfl, (Ext.refl _ _), ⟨fr1393, e1394.trans (Ext.refl _ _), C1395, C1396, C1397, C1398⟩, (aft_some (fun hh => by rw [hc1403] at hh; cases hh))⟩
        · skip
          have z1404 : (σ1384 28) = .int .i64 (IntKind.i64.wrap (1 + ms38.nums)) := m1399 hc1403
          have z1405 : (σ1384 30) = .int .i64 ms38.texts := m1400 hc1403
          refine wl_on (yl rfl rfl z1402) hc1403 ?_
          refine wl_add z1404 z1405 ?_
          refine wl_nil ?_
          exact qn ⟨_, _, rfl, (Ext.refl _ _), ⟨fr1393, e1394.trans (Ext.refl _ _), C1395, C1396, C1397, C1398⟩, (aft_some (fun _ => rfl))⟩
      · intro D1406 σ1407 w1408 hw1409 q1410 q1411 q1412 q1413 q1414 q1415
        obtain ⟨fr1416, e1417, C1418, C1419, C1420, C1421⟩ := q1410
        obtain ⟨⟨_, m1422⟩, ⟨_, m1423⟩, ⟨_, m1424⟩, _⟩ := q1412
        have z1425 : (σ1407 23) = .bool (!(ms38.word == t98)) := m1424
        rcases Bool.eq_false_or_eq_true (!(ms38.word == t98)) with hc1426 | hc1426
        · skip
          refine wl_off (yl rfl rfl z1425) hc1426 ?_
          refine wl_nil ?_
          exact qn ⟨_, _, rfl, (Ext.refl _ _), ⟨fr1416, e1417.trans (Ext.refl _ _), C1418, C1419, C1420, C1421⟩, (aft_some (fun hh => by rw [hc1426] at hh; cases hh))⟩
        · skip
          have z1427 : (σ1407 25) = .int .i64 (t7.length : Int) := m1422 hc1426
          have z1428 : (σ1407 31) = .int .i64 (IntKind.i64.wrap ((IntKind.i64.wrap (1 + ms38.nums)) + ms38.texts)) := m1423 hc1426
          refine wl_on (yl rfl rfl z1425) hc1426 ?_
          refine wl_neq z1427 z1428 ?_
          refine wl_nil ?_
          exact qn ⟨_, _, rfl, (Ext.refl _ _), ⟨fr1416, e1417.trans (Ext.refl _ _), C1418, C1419, C1420, C1421⟩, (aft_some (fun _ => rfl))⟩
      · intro D1429 σ1430 w1431 hw1432 q1433 q1434 q1435 q1436 q1437 q1438
        obtain ⟨fr1439, e1440, C1441, C1442, C1443, C1444⟩ := q1433
        obtain ⟨⟨_, m1445⟩, ⟨_, m1446⟩, _⟩ := q1435
        have z1447 : (σ1430 23) = .bool (!(ms38.word == t98)) := m1445
        rcases Bool.eq_false_or_eq_true (!(ms38.word == t98)) with hc1448 | hc1448
        · skip
          refine wl_pick_t (!(ms38.word == t98)) (.bool true) z1447 hc1448 rfl ?_
          refine wl_nil ?_
          exact qn ⟨_, _, rfl, (Ext.refl _ _), ⟨fr1439, e1440.trans (Ext.refl _ _), C1441, C1442, C1443, C1444⟩, (aft_some (by rw [hc1448]; rfl))⟩
        · skip
          have z1449 : (σ1430 32) = .bool ((t7.length : Int) != (IntKind.i64.wrap ((IntKind.i64.wrap (1 + ms38.nums)) + ms38.texts))) := m1446 hc1448
          refine wl_pick_f (!(ms38.word == t98)) (.bool ((t7.length : Int) != (IntKind.i64.wrap ((IntKind.i64.wrap (1 + ms38.nums)) + ms38.texts)))) z1447 hc1448 z1449 ?_
          refine wl_nil ?_
          exact qn ⟨_, _, rfl, (Ext.refl _ _), ⟨fr1439, e1440.trans (Ext.refl _ _), C1441, C1442, C1443, C1444⟩, (aft_some (by rw [hc1448]; rfl))⟩
      · intro σ1450 w1451 hw1452 q1453 q1454 q1455
        obtain ⟨fr1456, e1457, C1458, C1459, C1460, C1461⟩ := q1453
        obtain ⟨m1462, m1463, m1464, m1465, m1466, m1467, m1468, m1469, m1470, m1471, m1472, m1473, m1474, m1475, m1476, m1477, m1478, _⟩ := q1455
        have z1479 : (σ1450 19) = v13 := m1464
        have z1480 : (σ1450 33) = .bool ((!(ms38.word == t98)) || ((t7.length : Int) != (IntKind.i64.wrap ((IntKind.i64.wrap (1 + ms38.nums)) + ms38.texts)))) := m1478
        refine qn ?_
        by_cases c1481 : ((!(ms38.word == t98)) || ((t7.length : Int) != (IntKind.i64.wrap ((IntKind.i64.wrap (1 + ms38.nums)) + ms38.texts)))) = true
        · replace h := (if_pos c1481).symm.trans h
          refine wc_then z1480 c1481 ?_
          refine wc_exit ?_
          refine qe ?_
          refine be ?_
          refine qn ?_
          exact ⟨_, _, _, _, rfl, (by omega), fr1456, (Ext.trans e50 (Ext.trans s70.ext (Ext.trans s78.ext (Ext.trans s88.ext (Ext.trans s91.ext e1457))))), ((q1454 0 rfl).trans z51), ((q1454 2 rfl).trans z52), ((q1454 4 rfl).trans z53), ((q1454 11 rfl).trans z54), C1458, C1459, C1461, (SeenM.next sn58 hm67 (mcont hb73 h))⟩
        · replace h := (if_neg c1481).symm.trans h
          have b1482 : ((!(ms38.word == t98)) || ((t7.length : Int) != (IntKind.i64.wrap ((IntKind.i64.wrap (1 + ms38.nums)) + ms38.texts)))) = false := Bool.eq_false_iff.2 c1481
          refine wc_else z1480 b1482 ?_
          refine wc_skip ?_
          refine qn ?_
          refine wc_seq ?_
          have s1483 := Stp.drew (w := w1451) (hw := hw1452) fr1456.wf
          have fr1484 := fr1456.then0 s1483
          have B1485 := (C1458.step0 s1483)
          have B1486 := (C1459.step0 s1483)
          have B1487 := (C1460.step0 s1483)
          have O1488 := (C1461.step0 s1483)
          by_cases c1490 : (1 : Int) ≤ (IntKind.i64.wrap (1 + ms38.nums))
          · replace h := (if_pos c1490).symm.trans h
            by_cases c1491 : ((IntKind.i64.wrap (1 + ms38.nums)) : Int) ≤ (t7.length : Int)
            · replace h := (if_pos c1491).symm.trans h
              obtain ⟨t1494, h1495, h⟩ := Option.bind_eq_some_iff.1 h
              by_cases c1508 : (0 : Int) ≤ (IntKind.i64.wrap (1 + ms38.nums))
              · replace h := (if_pos c1508).symm.trans h
                by_cases c1509 : ((IntKind.i64.wrap (1 + ms38.nums)) : Int) ≤ (t7.length : Int)
                · replace h := (if_pos c1509).symm.trans h
                  obtain ⟨t1513, h1514, h⟩ := Option.bind_eq_some_iff.1 h
                  refine wc_any (hw := hw1452) mixed [[], [], [], [2], [3], [1, 4], [5], [], [], [8], [9], [7, 10], [11, 6], [0, 6, 12], [], [14, 13, 12, 0, 1, 2, 3, 4, 5, 6, 7, 8, 9, 10, 11, 12, 13, 14]] [34, 35, 36, 37, 38, 39, 40, 41, 42, 43, 44, 45, 46, 47, 7] (by kernel_rfl) (PhiOf [fun v w hw => v = .int .i64 mx37, fun v w hw => v = v13, fun v w hw => v = .pointer (some ⟨b76, 1, none⟩), fun v w hw => v = .int .i64 ms38.nums, fun v w hw => v = .int .i64 (IntKind.i64.wrap (1 + ms38.nums)), fun v w hw => Row Kstr w hw v ((t7.take (Int.toNat (IntKind.i64.wrap (1 + ms38.nums)))).drop (Int.toNat 1)), fun v w hw => Row (Kint .i64) w hw v t1494, fun v w hw => v = v13, fun v w hw => v = .pointer (some ⟨b76, 1, none⟩), fun v w hw => v = .int .i64 ms38.nums, fun v w hw => v = .int .i64 (IntKind.i64.wrap (1 + ms38.nums)), fun v w hw => Row Kstr w hw v ((t7.take (Int.toNat (t7.length : Int))).drop (Int.toNat (IntKind.i64.wrap (1 + ms38.nums)))), fun v w hw => Row Kstr w hw v t1513, fun v w hw => ∃ (v1500 : Value) (v1521 : Value), v = .agg #[.int .i64 mx37, v1500, v1521] ∧ Row (Kint .i64) w hw v1500 t1494 ∧ Row Kstr w hw v1521 t1513, fun v w hw => True, fun v w hw => True]) (fun D σ w hw => Stp none w0 hw0 w hw ∧ Ext (w1451).drew hw1452 w hw ∧ Box w0.heap.size w hw b1 38 [.int .i64 0, .slice none 0 0, .slice none 0 0] ∧ IterL Tryd.prog 3 (fun x : ScriptShape => Value.agg #[.string (bs x.word), .int .i64 x.nums, .int .i64 x.texts]) w0.heap.size w hw b27 t17 (fun z => lf46 z && !z.sameKey (.int .i64 mx37)) cn66 ∧ Box w0.heap.size w hw b76 41 [.string (bs ms38.word), .int .i64 ms38.nums, .int .i64 ms38.texts] ∧ Own Kstr 9 w0.heap.size w hw v13 t7 ∧ (bif D 14 then (Box w0.heap.size w hw (blk (σ 7)) 38 [(bif D 15 then .int .i64 mx37 else .int .i64 0), (bif D 15 then (σ 40) else .slice none 0 0), (bif D 15 then (σ 46) else .slice none 0 0)] ∧ b1 ≠ (blk (σ 7)) ∧ b27 ≠ (blk (σ 7)) ∧ b76 ≠ (blk (σ 7)) ∧ Value.ownBlock v13 ≠ some (blk (σ 7))) else True) ∧ (bif D 13 then σ 47 = .agg #[.int .i64 mx37, (σ 40), (σ 46)] else True) ∧ (bif D 14 then σ 7 = .pointer (some ⟨(blk (σ 7)), 0, none⟩) else True)) (stab_of (sbc (fun _ _ _ _ _ _ h => h) (sbc (fun _ _ _ _ _ _ h => h) (sbc (fun _ _ _ _ _ _ h => h) (sbc (fun _ _ _ _ _ _ h => h) (sbc (fun _ _ _ _ _ _ h => h) (sbc (fun _ _ _ _ _ e h => Row.ext e h) (sbc (fun _ _ _ _ _ e h => Row.ext e h) (sbc (fun _ _ _ _ _ _ h => h) (sbc (fun _ _ _ _ _ _ h => h) (sbc (fun _ _ _ _ _ _ h => h) (sbc (fun _ _ _ _ _ _ h => h) (sbc (fun _ _ _ _ _ e h => Row.ext e h) (sbc (fun _ _ _ _ _ e h => Row.ext e h) (sbc (fun _ _ _ _ _ e ⟨v1500, v1521, hv, F0, F1⟩ => ⟨v1500, v1521, hv, F0.ext e, F1.ext e⟩) (sbc (fun _ _ _ _ _ _ h => h) (sbc (fun _ _ _ _ _ _ h => h) sbn))))))))))))))))) ?_ (stc ?_ (stc ?_ (stc ?_ (stc ?_ (stc ?_ (stc ?_ (stc ?_ (stc ?_ (stc ?_ (stc ?_ (stc ?_ (stc ?_ (stc ?_ (stc ?_ (stc ?_ (stc ?_ stn)))))))))))))))) ?_
                  · exact ⟨fr1484, Ext.refl _ _, B1485, B1486, B1487, O1488, trivial, trivial, trivial⟩
                  · intro D1560 σ1561 w1562 hw1563 q1564 q1565 q1566 q1567 q1568 q1569
                    obtain ⟨fr1570, e1571, C1572, C1573, C1574, C1575, C1576, C1577, C1578⟩ := q1564
                    refine wl_move (.int .i64 mx37) ((q1567 5 rfl).trans ((q1454 5 rfl).trans rfl)) ?_
                    refine wl_nil ?_
                    exact qn ⟨_, _, rfl, (Ext.refl _ _), ⟨fr1570, e1571.trans (Ext.refl _ _), C1572, C1573, C1574, C1575, C1576, C1577, C1578⟩, (aft_some rfl)⟩
                  · intro D1579 σ1580 w1581 hw1582 q1583 q1584 q1585 q1586 q1587 q1588
                    obtain ⟨fr1589, e1590, C1591, C1592, C1593, C1594, C1595, C1596, C1597⟩ := q1583
                    refine wl_move (v13) ((q1586 4 rfl).trans ((q1454 4 rfl).trans z53)) ?_
                    refine wl_nil ?_
                    exact qn ⟨_, _, rfl, (Ext.refl _ _), ⟨fr1589, e1590.trans (Ext.refl _ _), C1591, C1592, C1593, C1594, C1595, C1596, C1597⟩, (aft_some rfl)⟩
                  · intro D1598 σ1599 w1600 hw1601 q1602 q1603 q1604 q1605 q1606 q1607
                    obtain ⟨fr1608, e1609, C1610, C1611, C1612, C1613, C1614, C1615, C1616⟩ := q1602
                    refine wl_field fld41_1 ((q1605 6 rfl).trans ((q1454 6 rfl).trans rfl)) ?_
                    refine wl_nil ?_
                    exact qn ⟨_, _, rfl, (Ext.refl _ _), ⟨fr1608, e1609.trans (Ext.refl _ _), C1610, C1611, C1612, C1613, C1614, C1615, C1616⟩, (aft_some rfl)⟩
                  · intro D1617 σ1618 w1619 hw1620 q1621 q1622 q1623 q1624 q1625 q1626
                    obtain ⟨fr1627, e1628, C1629, C1630, C1631, C1632, C1633, C1634, C1635⟩ := q1621
                    obtain ⟨⟨_, m1636⟩, _⟩ := q1623
                    have z1637 : (σ1618 36) = .pointer (some ⟨b76, 1, none⟩) := m1636
                    refine wl_loadb1 C1631 ty3 z1637 (.int .i64 ms38.nums) rfl ?_
                    refine wl_nil ?_
                    exact qn ⟨_, _, rfl, (Ext.refl _ _), ⟨fr1627, e1628.trans (Ext.refl _ _), C1629, C1630, C1631, C1632, C1633, C1634, C1635⟩, (aft_some rfl)⟩
                  · intro D1638 σ1639 w1640 hw1641 q1642 q1643 q1644 q1645 q1646 q1647
                    obtain ⟨fr1648, e1649, C1650, C1651, C1652, C1653, C1654, C1655, C1656⟩ := q1642
                    obtain ⟨⟨_, m1657⟩, _⟩ := q1644
                    have z1658 : (σ1639 37) = .int .i64 ms38.nums := m1657
                    refine wl_add rfl z1658 ?_
                    refine wl_nil ?_
                    exact qn ⟨_, _, rfl, (Ext.refl _ _), ⟨fr1648, e1649.trans (Ext.refl _ _), C1650, C1651, C1652, C1653, C1654, C1655, C1656⟩, (aft_some rfl)⟩
                  · intro D1659 σ1660 w1661 hw1662 q1663 q1664 q1665 q1666 q1667 q1668
                    obtain ⟨fr1669, e1670, C1671, C1672, C1673, C1674, C1675, C1676, C1677⟩ := q1663
                    obtain ⟨⟨_, m1678⟩, ⟨_, m1679⟩, _⟩ := q1665
                    have z1680 : (σ1660 35) = v13 := m1678
                    have z1681 : (σ1660 38) = .int .i64 (IntKind.i64.wrap (1 + ms38.nums)) := m1679
                    refine wl_cut Tryd.underlying36 ty9 C1674.row z1680 (Bd.yes rfl) (Bd.yes z1681) (by first | decide | omega | simp) c1490 c1491 ?_
                    intro v1682 f1683
                    refine wl_nil ?_
                    exact qn ⟨_, _, rfl, (Ext.refl _ _), ⟨fr1669, e1670.trans (Ext.refl _ _), C1671, C1672, C1673, C1674, C1675, C1676, C1677⟩, (aft_some f1683)⟩
                  · intro D1684 σ1685 w1686 hw1687 q1688 q1689 q1690 q1691 q1692 q1693
                    obtain ⟨fr1694, e1695, C1696, C1697, C1698, C1699, C1700, C1701, C1702⟩ := q1688
                    obtain ⟨⟨_, m1703⟩, _⟩ := q1690
                    have f1704 : Row Kstr w1686 hw1687 (σ1685 39) ((t7.take (Int.toNat (IntKind.i64.wrap (1 + ms38.nums)))).drop (Int.toNat 1)) := m1703
                    refine wl_call [(σ1685 39)] bod24 (mc rfl (mn _)) (script_numbers.ok k fr1694.wf ((t7.take (Int.toNat (IntKind.i64.wrap (1 + ms38.nums)))).drop (Int.toNat 1)) (σ1685 39) f1704 _ h1495) ?_
                    rintro e1705 w1706 ⟨v1709, hw1707, rfl, s1708, O1710⟩
                    refine ⟨_, rfl, ?_⟩
                    have n1711 := own_new_lt O1710 C1696.lt
                    have n1712 := own_new_lt O1710 C1697.lt
                    have n1713 := own_new_lt O1710 C1698.lt
                    have n1714 := own_dis_new O1710 C1699
                    replace O1710 := O1710.low fr1694.g.size
                    have fr1715 := fr1694.then0 s1708
                    refine wl_nil ?_
                    have B1716 := (C1696.step0 s1708)
                    have B1717 := (C1697.step0 s1708)
                    have B1718 := (C1698.step0 s1708)
                    have O1719 := (C1699.step0 s1708)
                    exact qn ⟨_, _, rfl, s1708.ext, ⟨fr1715, e1695.trans s1708.ext, B1716, B1717, B1718, O1719, (bif_mp (fun h => ⟨(Box.retype (h.1.step0 s1708) (show [(bif D1684 15 then .int .i64 mx37 else .int .i64 0), (bif D1684 15 then (σ1685 40) else .slice none 0 0), (bif D1684 15 then (σ1685 46) else .slice none 0 0)] = [(bif D1684 15 then .int .i64 mx37 else .int .i64 0), (bif D1684 15 then (v1709) else .slice none 0 0), (bif D1684 15 then (σ1685 46) else .slice none 0 0)] from by rw [show D1684 15 = false from (q1693 15 rfl)] <;> rfl)), h.2⟩) (fun h => h) C1700), (bif_no (q1693 13 rfl) trivial), C1702⟩, (aft_some O1710.row)⟩
                  · intro D1720 σ1721 w1722 hw1723 q1724 q1725 q1726 q1727 q1728 q1729
                    obtain ⟨fr1730, e1731, C1732, C1733, C1734, C1735, C1736, C1737, C1738⟩ := q1724
                    refine wl_move (v13) ((q1727 4 rfl).trans ((q1454 4 rfl).trans z53)) ?_
                    refine wl_nil ?_
                    exact qn ⟨_, _, rfl, (Ext.refl _ _), ⟨fr1730, e1731.trans (Ext.refl _ _), C1732, C1733, C1734, C1735, C1736, C1737, C1738⟩, (aft_some rfl)⟩
                  · intro D1739 σ1740 w1741 hw1742 q1743 q1744 q1745 q1746 q1747 q1748
                    obtain ⟨fr1749, e1750, C1751, C1752, C1753, C1754, C1755, C1756, C1757⟩ := q1743
                    refine wl_field fld41_1 ((q1746 6 rfl).trans ((q1454 6 rfl).trans rfl)) ?_
                    refine wl_nil ?_
                    exact qn ⟨_, _, rfl, (Ext.refl _ _), ⟨fr1749, e1750.trans (Ext.refl _ _), C1751, C1752, C1753, C1754, C1755, C1756, C1757⟩, (aft_some rfl)⟩
                  · intro D1758 σ1759 w1760 hw1761 q1762 q1763 q1764 q1765 q1766 q1767
                    obtain ⟨fr1768, e1769, C1770, C1771, C1772, C1773, C1774, C1775, C1776⟩ := q1762
                    obtain ⟨⟨_, m1777⟩, _⟩ := q1764
                    have z1778 : (σ1759 42) = .pointer (some ⟨b76, 1, none⟩) := m1777
                    refine wl_loadb1 C1772 ty3 z1778 (.int .i64 ms38.nums) rfl ?_
                    refine wl_nil ?_
                    exact qn ⟨_, _, rfl, (Ext.refl _ _), ⟨fr1768, e1769.trans (Ext.refl _ _), C1770, C1771, C1772, C1773, C1774, C1775, C1776⟩, (aft_some rfl)⟩
                  · intro D1779 σ1780 w1781 hw1782 q1783 q1784 q1785 q1786 q1787 q1788
                    obtain ⟨fr1789, e1790, C1791, C1792, C1793, C1794, C1795, C1796, C1797⟩ := q1783
                    obtain ⟨⟨_, m1798⟩, _⟩ := q1785
                    have z1799 : (σ1780 43) = .int .i64 ms38.nums := m1798
                    refine wl_add rfl z1799 ?_
                    refine wl_nil ?_
                    exact qn ⟨_, _, rfl, (Ext.refl _ _), ⟨fr1789, e1790.trans (Ext.refl _ _), C1791, C1792, C1793, C1794, C1795, C1796, C1797⟩, (aft_some rfl)⟩
                  · intro D1800 σ1801 w1802 hw1803 q1804 q1805 q1806 q1807 q1808 q1809
                    obtain ⟨fr1810, e1811, C1812, C1813, C1814, C1815, C1816, C1817, C1818⟩ := q1804
                    obtain ⟨⟨_, m1819⟩, ⟨_, m1820⟩, _⟩ := q1806
                    have z1821 : (σ1801 41) = v13 := m1819
                    have z1822 : (σ1801 44) = .int .i64 (IntKind.i64.wrap (1 + ms38.nums)) := m1820
                    refine wl_cut Tryd.underlying36 ty9 C1815.row z1821 (Bd.yes z1822) Bd.no c1508 c1509 (by first | decide | omega | simp) ?_
                    intro v1823 f1824
                    refine wl_nil ?_
                    exact qn ⟨_, _, rfl, (Ext.refl _ _), ⟨fr1810, e1811.trans (Ext.refl _ _), C1812, C1813, C1814, C1815, C1816, C1817, C1818⟩, (aft_some f1824)⟩
                  · intro D1825 σ1826 w1827 hw1828 q1829 q1830 q1831 q1832 q1833 q1834
                    obtain ⟨fr1835, e1836, C1837, C1838, C1839, C1840, C1841, C1842, C1843⟩ := q1829
                    obtain ⟨⟨_, m1844⟩, ⟨_, m1845⟩, _⟩ := q1831
                    have f1846 : Row Kstr w1827 hw1828 (σ1826 45) ((t7.take (Int.toNat (t7.length : Int))).drop (Int.toNat (IntKind.i64.wrap (1 + ms38.nums)))) := m1844
                    have f1847 : Row (Kint .i64) w1827 hw1828 (σ1826 40) t1494 := m1845
                    refine wl_call [(σ1826 45)] bod25 (mc rfl (mn _)) (script_texts.ok k fr1835.wf ((t7.take (Int.toNat (t7.length : Int))).drop (Int.toNat (IntKind.i64.wrap (1 + ms38.nums)))) (σ1826 45) f1846 _ h1514) ?_
                    rintro e1848 w1849 ⟨v1852, hw1850, rfl, s1851, O1853⟩
                    refine ⟨_, rfl, ?_⟩
                    have n1854 := own_new_lt O1853 C1837.lt
                    have n1855 := own_new_lt O1853 C1838.lt
                    have n1856 := own_new_lt O1853 C1839.lt
                    have n1857 := own_dis_new O1853 C1840
                    replace O1853 := O1853.low fr1835.g.size
                    have fr1858 := fr1835.then0 s1851
                    refine wl_nil ?_
                    have B1859 := (C1837.step0 s1851)
                    have B1860 := (C1838.step0 s1851)
                    have B1861 := (C1839.step0 s1851)
                    have O1862 := (C1840.step0 s1851)
                    exact qn ⟨_, _, rfl, s1851.ext, ⟨fr1858, e1836.trans s1851.ext, B1859, B1860, B1861, O1862, (bif_mp (fun h => ⟨(Box.retype (h.1.step0 s1851) (show [(bif D1825 15 then .int .i64 mx37 else .int .i64 0), (bif D1825 15 then (σ1826 40) else .slice none 0 0), (bif D1825 15 then (σ1826 46) else .slice none 0 0)] = [(bif D1825 15 then .int .i64 mx37 else .int .i64 0), (bif D1825 15 then (σ1826 40) else .slice none 0 0), (bif D1825 15 then (v1852) else .slice none 0 0)] from by rw [show D1825 15 = false from (q1834 15 rfl)] <;> rfl)), h.2⟩) (fun h => h) C1841), (bif_no (q1834 13 rfl) trivial), C1843⟩, (aft_some O1853.row)⟩
                  · intro D1863 σ1864 w1865 hw1866 q1867 q1868 q1869 q1870 q1871 q1872
                    obtain ⟨fr1873, e1874, C1875, C1876, C1877, C1878, C1879, C1880, C1881⟩ := q1867
                    obtain ⟨⟨_, m1882⟩, ⟨_, m1883⟩, ⟨_, m1884⟩, _⟩ := q1869
                    have z1885 : (σ1864 34) = .int .i64 mx37 := m1882
                    have f1886 : Row (Kint .i64) w1865 hw1866 (σ1864 40) t1494 := m1883
                    have f1887 : Row Kstr w1865 hw1866 (σ1864 46) t1513 := m1884
                    obtain ⟨A1888, c1889, hv1890⟩ := (f1886).slice
                    obtain ⟨A1891, c1892, hv1893⟩ := (f1887).slice
                    have hb1894 : ∀ w, (Instr.build 38 #[(0, .int .i64 mx37), (1, (σ1864 40)), (2, (σ1864 46))]).run Tryd.prog w = .ok (.agg (List.toArray [.int .i64 mx37, (σ1864 40), (σ1864 46)])) w := by intro  _; rw [hv1890]; rw [hv1893]; kernel_rfl
                    refine wl_build [.int .i64 mx37, (σ1864 40), (σ1864 46)] (pc z1885 (pc rfl (pc rfl (pn _ _)))) (hb1894 _) ?_
                    refine wl_nil ?_
                    exact qn ⟨_, _, rfl, (Ext.refl _ _), ⟨fr1873, e1874.trans (Ext.refl _ _), C1875, C1876, C1877, C1878, C1879, rfl, C1881⟩, (aft_some (show ∃ (v1500 : Value) (v1521 : Value), (.agg #[.int .i64 mx37, (σ1864 40), (σ1864 46)] : Value) = .agg #[.int .i64 mx37, v1500, v1521] ∧ Row (Kint .i64) w1865 hw1866 v1500 t1494 ∧ Row Kstr w1865 hw1866 v1521 t1513 from ⟨(σ1864 40), (σ1864 46), rfl, f1886, f1887⟩))⟩
                  · intro D1895 σ1896 w1897 hw1898 q1899 q1900 q1901 q1902 q1903 q1904
                    obtain ⟨fr1905, e1906, C1907, C1908, C1909, C1910, C1911, C1912, C1913⟩ := q1899
                    refine wl_alloc fr1905.wf fr1905.g.size ty38 [.int .i64 0, .slice none 0 0, .slice none 0 0] rfl ?_
                    intro b1914 w1915 s1916 B1917 g1918
                    have n1919 : b1 ≠ b1914 := C1907.ne g1918
                    have n1920 : b27 ≠ b1914 := C1908.ne g1918
                    have n1921 : b76 ≠ b1914 := C1909.ne g1918
                    have n1922 := C1910.ne g1918
                    have fr1923 := fr1905.then0 s1916
                    refine wl_nil ?_
                    have B1924 := (C1907.step0 s1916)
                    have B1925 := (C1908.step0 s1916)
                    have B1926 := (C1909.step0 s1916)
                    have O1927 := (C1910.step0 s1916)
                    exact qn ⟨_, _, rfl, s1916.ext, ⟨fr1923, e1906.trans s1916.ext, B1924, B1925, B1926, O1927, ⟨(Box.retype B1917 (show ([.int .i64 0, .slice none 0 0, .slice none 0 0] : List Value) = [(bif D1895 15 then .int .i64 mx37 else .int .i64 0), (bif D1895 15 then (σ1896 40) else .slice none 0 0), (bif D1895 15 then (σ1896 46) else .slice none 0 0)] from by rw [show D1895 15 = false from (q1904 15 rfl)] <;> rfl)), n1919, n1920, n1921, n1922⟩, C1912, rfl⟩, (aft_some trivial)⟩
                  · intro D1928 σ1929 w1930 hw1931 q1932 q1933 q1934 q1935 q1936 q1937
                    obtain ⟨fr1938, e1939, C1940, C1941, C1942, C1943, C1944, C1945, C1946⟩ := q1932
                    obtain ⟨B1947, n1948, n1949, n1950, n1951⟩ := bif_t (q1936 14 rfl) C1944
                    obtain ⟨⟨_, m1952⟩, ⟨_, m1953⟩, ⟨_, m1954⟩, ⟨_, m1955⟩, ⟨_, m1956⟩, ⟨_, m1957⟩, ⟨_, m1958⟩, ⟨_, m1959⟩, ⟨_, m1960⟩, ⟨_, m1961⟩, ⟨_, m1962⟩, ⟨_, m1963⟩, ⟨_, m1964⟩, ⟨_, m1965⟩, ⟨_, m1966⟩, ⟨_, m1967⟩, ⟨_, m1968⟩, ⟨_, m1969⟩, _⟩ := q1934
                    obtain ⟨v1970, v1971, z1972, f1973, f1974⟩ : ∃ (v1500 : Value) (v1521 : Value), (σ1929 47) = .agg #[.int .i64 mx37, v1500, v1521] ∧ Row (Kint .i64) w1930 hw1931 v1500 t1494 ∧ Row Kstr w1930 hw1931 v1521 t1513 := m1953
                    have f1975 : Row Kstr w1930 hw1931 (σ1929 46) t1513 := m1954
                    have z1976 : (σ1929 34) = .int .i64 mx37 := m1955
                    have z1977 : (σ1929 35) = v13 := m1956
                    have z1978 : (σ1929 36) = .pointer (some ⟨b76, 1, none⟩) := m1957
                    have z1979 : (σ1929 37) = .int .i64 ms38.nums := m1958
                    have z1980 : (σ1929 38) = .int .i64 (IntKind.i64.wrap (1 + ms38.nums)) := m1959
                    have f1981 : Row Kstr w1930 hw1931 (σ1929 39) ((t7.take (Int.toNat (IntKind.i64.wrap (1 + ms38.nums)))).drop (Int.toNat 1)) := m1960
                    have f1982 : Row (Kint .i64) w1930 hw1931 (σ1929 40) t1494 := m1961
                    have z1983 : (σ1929 41) = v13 := m1962
                    have z1984 : (σ1929 42) = .pointer (some ⟨b76, 1, none⟩) := m1963
                    have z1985 : (σ1929 43) = .int .i64 ms38.nums := m1964
                    have z1986 : (σ1929 44) = .int .i64 (IntKind.i64.wrap (1 + ms38.nums)) := m1965
                    have f1987 : Row Kstr w1930 hw1931 (σ1929 45) ((t7.take (Int.toNat (t7.length : Int))).drop (Int.toNat (IntKind.i64.wrap (1 + ms38.nums)))) := m1966
                    have z1988 := bif_t (q1936 13 rfl) C1945
                    have z1989 := bif_t (q1936 14 rfl) C1946
                    refine wl_store B1947 fr1938.wf ty38 z1989 [.int .i64 mx37, (σ1929 40), (σ1929 46)] (cells_of z1988 rfl) rfl (Nat.le_of_ble_eq_true rfl) (one_all [.int .i64 mx37, (σ1929 40), (σ1929 46)] (by simp only [List.all_cons, List.all_nil, Bool.and_true, Bool.true_and, row_one f1982, row_one f1975] <;> rfl)) [.int .i64 mx37, (σ1929 40), (σ1929 46)] rfl ?_
                    intro w1990 s1991 B1992
                    have fr1993 := fr1938.then s1991 (fun _ e => (Option.some.inj e ▸ B1947.new))
                    refine wl_nil ?_
                    have B1994 := (C1940.stepb s1991 n1948)
                    have B1995 := (C1941.stepb s1991 n1949)
                    have B1996 := (C1942.stepb s1991 n1950)
                    have O1997 := (C1943.step s1991 (.inr n1951))
                    exact qn ⟨_, _, rfl, s1991.ext, ⟨fr1993, e1939.trans s1991.ext, B1994, B1995, B1996, O1997, (bif_up (q1936 14 rfl) ⟨B1992, n1948, n1949, n1950, n1951⟩), C1945, C1946⟩, aft_none⟩
                  · intro σ1998 w1999 hw2000 q2001 q2002 q2003
                    obtain ⟨fr2004, e2005, C2006, C2007, C2008, C2009, C2010, C2011, C2012⟩ := q2001
                    obtain ⟨B2013, n2014, n2015, n2016, n2017⟩ : Box w0.heap.size w1999 hw2000 (blk (σ1998 7)) 38 [.int .i64 mx37, (σ1998 40), (σ1998 46)] ∧ b1 ≠ (blk (σ1998 7)) ∧ b27 ≠ (blk (σ1998 7)) ∧ b76 ≠ (blk (σ1998 7)) ∧ Value.ownBlock v13 ≠ some (blk (σ1998 7)) := C2010
                    obtain ⟨m2018, m2019, m2020, m2021, m2022, m2023, m2024, m2025, m2026, m2027, m2028, m2029, m2030, m2031, m2032, m2033, _⟩ := q2003
                    have z2034 : (σ1998 35) = v13 := m2019
                    have f2035 : Row Kstr w1999 hw2000 (σ1998 39) ((t7.take (Int.toNat (IntKind.i64.wrap (1 + ms38.nums)))).drop (Int.toNat 1)) := m2023
                    have f2036 : Row (Kint .i64) w1999 hw2000 (σ1998 40) t1494 := m2024
                    have z2037 : (σ1998 41) = v13 := m2025
                    have f2038 : Row Kstr w1999 hw2000 (σ1998 45) ((t7.take (Int.toNat (t7.length : Int))).drop (Int.toNat (IntKind.i64.wrap (1 + ms38.nums)))) := m2029
                    have f2039 : Row Kstr w1999 hw2000 (σ1998 46) t1513 := m2030
                    have z2040 : σ1998 7 = .pointer (some ⟨(blk (σ1998 7)), 0, none⟩) := C2012
                    refine qn ?_
                    refine wc_seq ?_
                    have s2041 := Stp.drew (w := w1999) (hw := hw2000) fr2004.wf
                    have fr2042 := fr2004.then0 s2041
                    have B2043 := (C2006.step0 s2041)
                    have B2044 := (C2007.step0 s2041)
                    have B2045 := (C2008.step0 s2041)
                    have B2046 := (B2013.step0 s2041)
                    have O2047 := (C2009.step0 s2041)
                    obtain ⟨t2051, h2052, h⟩ := Option.bind_eq_some_iff.1 h
                    by_cases c2058 : t2051 = true
                    · replace h := (if_pos c2058).symm.trans h
                      obtain ⟨t2063, h2064, h⟩ := Option.bind_eq_some_iff.1 h
                      by_cases c2072 : a0.length + ([10] : List UInt8).length ≤ 9223372036854775807
                      · replace h := (if_pos c2072).symm.trans h
                        refine wc_any (hw := hw2000) mixed [[], [], [1], [2, 2], [3], [4, 3], [3], [6, 3], [3], [8, 3], [5, 7, 9, 3, 3], [3], [11, 3], [10, 12, 3], [3, 13], [0, 10, 0], [14, 15, 0, 1, 2, 3, 4, 5, 6, 7, 8, 9, 10, 11, 12, 13, 14, 15]] [48, 49, 50, 51, 52, 53, 54, 55, 56, 57, 58, 59, 60, 61, 62, 3] (by kernel_rfl) (PhiOf [fun v w hw => v = .agg #[.int .i64 mx37, (σ1998 40), (σ1998 46)], fun v w hw => v = .agg #[.int .i64 mx37, (σ1998 40), (σ1998 46)], fun v w hw => v = .bool t2051, fun v w hw => v = .bool t2051, fun v w hw => v = .pointer (some ⟨b76, 0, none⟩), fun v w hw => v = .string (bs ms38.word), fun v w hw => v = .pointer (some ⟨(blk (σ1998 7)), 1, none⟩), fun v w hw => v = (σ1998 40), fun v w hw => v = .pointer (some ⟨(blk (σ1998 7)), 2, none⟩), fun v w hw => v = (σ1998 46), fun v w hw => v = .string (bs t2063), fun v w hw => v = .string (bs a0), fun v w hw => v = .string (bs (a0 ++ ([10] : List UInt8))), fun v w hw => v = .bool (t2063 == (a0 ++ ([10] : List UInt8))), fun v w hw => v = .bool (t2063 == (a0 ++ ([10] : List UInt8))), fun v w hw => True, fun v w hw => v = .bool (t2063 == (a0 ++ ([10] : List UInt8)))]) (fun D σ w hw => Stp none w0 hw0 w hw ∧ Ext (w1999).drew hw2000 w hw ∧ Box w0.heap.size w hw b1 38 [(bif D 15 then .int .i64 mx37 else .int .i64 0), (bif D 15 then (σ1998 40) else .slice none 0 0), (bif D 15 then (σ1998 46) else .slice none 0 0)] ∧ IterL Tryd.prog 3 (fun x : ScriptShape => Value.agg #[.string (bs x.word), .int .i64 x.nums, .int .i64 x.texts]) w0.heap.size w hw b27 t17 (fun z => lf46 z && !z.sameKey (.int .i64 mx37)) cn66 ∧ Box w0.heap.size w hw b76 41 [.string (bs ms38.word), .int .i64 ms38.nums, .int .i64 ms38.texts] ∧ Box w0.heap.size w hw (blk (σ1998 7)) 38 [.int .i64 mx37, (σ1998 40), (σ1998 46)] ∧ Own Kstr 9 w0.heap.size w hw v13 t7) (stab_of (sbc (fun _ _ _ _ _ _ h => h) (sbc (fun _ _ _ _ _ _ h => h) (sbc (fun _ _ _ _ _ _ h => h) (sbc (fun _ _ _ _ _ _ h => h) (sbc (fun _ _ _ _ _ _ h => h) (sbc (fun _ _ _ _ _ _ h => h) (sbc (fun _ _ _ _ _ _ h => h) (sbc (fun _ _ _ _ _ _ h => h) (sbc (fun _ _ _ _ _ _ h => h) (sbc (fun _ _ _ _ _ _ h => h) (sbc (fun _ _ _ _ _ _ h => h) (sbc (fun _ _ _ _ _ _ h => h) (sbc (fun _ _ _ _ _ _ h => h) (sbc (fun _ _ _ _ _ _ h => h) (sbc (fun _ _ _ _ _ _ h => h) (sbc (fun _ _ _ _ _ _ h => h) (sbc (fun _ _ _ _ _ _ h => h) sbn)))))))))))))))))) ?_ (stc ?_ (stc ?_ (stc ?_ (stc ?_ (stc ?_ (stc ?_ (stc ?_ (stc ?_ (stc ?_ (stc ?_ (stc ?_ (stc ?_ (stc ?_ (stc ?_ (stc ?_ (stc ?_ (stc ?_ stn))))))))))))))))) ?_
                        · exact ⟨fr2042, Ext.refl _ _, B2043, B2044, B2045, B2046, O2047⟩
                        · intro D2080 σ2081 w2082 hw2083 q2084 q2085 q2086 q2087 q2088 q2089
                          obtain ⟨fr2090, e2091, C2092, C2093, C2094, C2095, C2096⟩ := q2084
                          have B2097 := C2092
                          rw [show D2080 15 = false from (q2089 15 rfl)] at B2097
                          refine wl_loadb C2095 ty38 ((q2087 7 rfl).trans z2040) [.int .i64 mx37, (σ1998 40), (σ1998 46)] rfl rfl ?_
                          refine wl_nil ?_
                          exact qn ⟨_, _, rfl, (Ext.refl _ _), ⟨fr2090, e2091.trans (Ext.refl _ _), C2092, C2093, C2094, C2095, C2096⟩, (aft_some rfl)⟩
                        · intro D2098 σ2099 w2100 hw2101 q2102 q2103 q2104 q2105 q2106 q2107
                          obtain ⟨fr2108, e2109, C2110, C2111, C2112, C2113, C2114⟩ := q2102
                          have B2115 := C2110
                          rw [show D2098 15 = false from (q2107 15 rfl)] at B2115
                          refine wl_loadb C2113 ty38 ((q2105 7 rfl).trans z2040) [.int .i64 mx37, (σ1998 40), (σ1998 46)] rfl rfl ?_
                          refine wl_nil ?_
                          exact qn ⟨_, _, rfl, (Ext.refl _ _), ⟨fr2108, e2109.trans (Ext.refl _ _), C2110, C2111, C2112, C2113, C2114⟩, (aft_some rfl)⟩
                        · intro D2116 σ2117 w2118 hw2119 q2120 q2121 q2122 q2123 q2124 q2125
                          obtain ⟨fr2126, e2127, C2128, C2129, C2130, C2131, C2132⟩ := q2120
                          have B2133 := C2128
                          rw [show D2116 15 = false from (q2125 15 rfl)] at B2133
                          obtain ⟨⟨_, m2134⟩, _⟩ := q2122
                          have z2135 : (σ2117 49) = .agg #[.int .i64 mx37, (σ1998 40), (σ1998 46)] := m2134
                          have f2136 := f2036.ext (s2041.ext.trans (e2127))
                          have f2137 := f2039.ext (s2041.ext.trans (e2127))
                          refine wl_call [.agg #[.int .i64 mx37, (σ1998 40), (σ1998 46)]] bod19 (mc z2135 (mn _)) (script_right.ok k fr2126.wf (⟨mx37, t1494, t1513⟩ : ApiDeed) (σ1998 40) f2136 (σ1998 46) f2137 _ h2052) ?_
                          rintro e2138 w2139 ⟨hw2140, rfl, s2141⟩
                          refine ⟨_, rfl, ?_⟩
                          have fr2142 := fr2126.then0 s2141
                          refine wl_nil ?_
                          have B2143 := (C2128.step0 s2141)
                          have B2144 := (C2129.step0 s2141)
                          have B2145 := (C2130.step0 s2141)
                          have B2146 := (C2131.step0 s2141)
                          have O2147 := (C2132.step0 s2141)
                          exact qn ⟨_, _, rfl, s2141.ext, ⟨fr2142, e2127.trans s2141.ext, B2143, B2144, B2145, B2146, O2147⟩, (aft_some rfl)⟩
                        · intro D2148 σ2149 w2150 hw2151 q2152 q2153 q2154 q2155 q2156 q2157
                          obtain ⟨fr2158, e2159, C2160, C2161, C2162, C2163, C2164⟩ := q2152
                          have B2165 := C2160
                          rw [show D2148 15 = false from (q2157 15 rfl)] at B2165
                          obtain ⟨⟨_, m2166⟩, ⟨_, m2167⟩, _⟩ := q2154
                          have z2168 : (σ2149 50) = .bool t2051 := m2166
                          refine wl_move (.bool t2051) z2168 ?_
                          refine wl_nil ?_
                          exact qn ⟨_, _, rfl, (Ext.refl _ _), ⟨fr2158, e2159.trans (Ext.refl _ _), C2160, C2161, C2162, C2163, C2164⟩, (aft_some rfl)⟩
                        · intro D2169 σ2170 w2171 hw2172 q2173 q2174 q2175 q2176 q2177 q2178
                          obtain ⟨fr2179, e2180, C2181, C2182, C2183, C2184, C2185⟩ := q2173
                          have B2186 := C2181
                          rw [show D2169 15 = false from (q2178 15 rfl)] at B2186
                          obtain ⟨⟨_, m2187⟩, _⟩ := q2175
                          have z2188 : (σ2170 51) = .bool t2051 := m2187
                          refine wl_on (yl rfl rfl z2188) c2058 ?_
                          refine wl_field fld41_0 ((q2176 6 rfl).trans ((q2002 6 rfl).trans ((q1454 6 rfl).trans rfl))) ?_
                          refine wl_nil ?_
                          exact qn ⟨_, _, rfl, (Ext.refl _ _), ⟨fr2179, e2180.trans (Ext.refl _ _), C2181, C2182, C2183, C2184, C2185⟩, (aft_some rfl)⟩
                        · intro D2189 σ2190 w2191 hw2192 q2193 q2194 q2195 q2196 q2197 q2198
                          obtain ⟨fr2199, e2200, C2201, C2202, C2203, C2204, C2205⟩ := q2193
                          have B2206 := C2201
                          rw [show D2189 15 = false from (q2198 15 rfl)] at B2206
                          obtain ⟨⟨_, m2207⟩, ⟨_, m2208⟩, _⟩ := q2195
                          have z2209 : (σ2190 51) = .bool t2051 := m2208
                          have z2210 : (σ2190 52) = .pointer (some ⟨b76, 0, none⟩) := m2207
                          refine wl_on (yl rfl rfl z2209) c2058 ?_
                          refine wl_loadb1 C2203 ty9 z2210 (.string (bs ms38.word)) rfl ?_
                          refine wl_nil ?_
                          exact qn ⟨_, _, rfl, (Ext.refl _ _), ⟨fr2199, e2200.trans (Ext.refl _ _), C2201, C2202, C2203, C2204, C2205⟩, (aft_some rfl)⟩
                        · intro D2211 σ2212 w2213 hw2214 q2215 q2216 q2217 q2218 q2219 q2220
                          obtain ⟨fr2221, e2222, C2223, C2224, C2225, C2226, C2227⟩ := q2215
                          have B2228 := C2223
                          rw [show D2211 15 = false from (q2220 15 rfl)] at B2228
                          obtain ⟨⟨_, m2229⟩, _⟩ := q2217
                          have z2230 : (σ2212 51) = .bool t2051 := m2229
                          refine wl_on (yl rfl rfl z2230) c2058 ?_
                          refine wl_field fld38_1 ((q2218 7 rfl).trans z2040) ?_
                          refine wl_nil ?_
                          exact qn ⟨_, _, rfl, (Ext.refl _ _), ⟨fr2221, e2222.trans (Ext.refl _ _), C2223, C2224, C2225, C2226, C2227⟩, (aft_some rfl)⟩
                        · intro D2231 σ2232 w2233 hw2234 q2235 q2236 q2237 q2238 q2239 q2240
                          obtain ⟨fr2241, e2242, C2243, C2244, C2245, C2246, C2247⟩ := q2235
                          have B2248 := C2243
                          rw [show D2231 15 = false from (q2240 15 rfl)] at B2248
                          obtain ⟨⟨_, m2249⟩, ⟨_, m2250⟩, _⟩ := q2237
                          have z2251 : (σ2232 51) = .bool t2051 := m2250
                          have z2252 : (σ2232 54) = .pointer (some ⟨(blk (σ1998 7)), 1, none⟩) := m2249
                          refine wl_on (yl rfl rfl z2251) c2058 ?_
                          refine wl_loadb1 C2246 ty35 z2252 ((σ1998 40)) rfl ?_
                          refine wl_nil ?_
                          exact qn ⟨_, _, rfl, (Ext.refl _ _), ⟨fr2241, e2242.trans (Ext.refl _ _), C2243, C2244, C2245, C2246, C2247⟩, (aft_some rfl)⟩
                        · intro D2253 σ2254 w2255 hw2256 q2257 q2258 q2259 q2260 q2261 q2262
                          obtain ⟨fr2263, e2264, C2265, C2266, C2267, C2268, C2269⟩ := q2257
                          have B2270 := C2265
                          rw [show D2253 15 = false from (q2262 15 rfl)] at B2270
                          obtain ⟨⟨_, m2271⟩, _⟩ := q2259
                          have z2272 : (σ2254 51) = .bool t2051 := m2271
                          refine wl_on (yl rfl rfl z2272) c2058 ?_
                          refine wl_field fld38_2 ((q2260 7 rfl).trans z2040) ?_
                          refine wl_nil ?_
                          exact qn ⟨_, _, rfl, (Ext.refl _ _), ⟨fr2263, e2264.trans (Ext.refl _ _), C2265, C2266, C2267, C2268, C2269⟩, (aft_some rfl)⟩
                        · intro D2273 σ2274 w2275 hw2276 q2277 q2278 q2279 q2280 q2281 q2282
                          obtain ⟨fr2283, e2284, C2285, C2286, C2287, C2288, C2289⟩ := q2277
                          have B2290 := C2285
                          rw [show D2273 15 = false from (q2282 15 rfl)] at B2290
                          obtain ⟨⟨_, m2291⟩, ⟨_, m2292⟩, _⟩ := q2279
                          have z2293 : (σ2274 51) = .bool t2051 := m2292
                          have z2294 : (σ2274 56) = .pointer (some ⟨(blk (σ1998 7)), 2, none⟩) := m2291
                          refine wl_on (yl rfl rfl z2293) c2058 ?_
                          refine wl_loadb1 C2288 ty36 z2294 ((σ1998 46)) rfl ?_
                          refine wl_nil ?_
                          exact qn ⟨_, _, rfl, (Ext.refl _ _), ⟨fr2283, e2284.trans (Ext.refl _ _), C2285, C2286, C2287, C2288, C2289⟩, (aft_some rfl)⟩
                        · intro D2295 σ2296 w2297 hw2298 q2299 q2300 q2301 q2302 q2303 q2304
                          obtain ⟨fr2305, e2306, C2307, C2308, C2309, C2310, C2311⟩ := q2299
                          have B2312 := C2307
                          rw [show D2295 15 = false from (q2304 15 rfl)] at B2312
                          obtain ⟨⟨_, m2313⟩, ⟨_, m2314⟩, ⟨_, m2315⟩, ⟨_, m2316⟩, ⟨_, m2317⟩, _⟩ := q2301
                          have z2318 : (σ2296 51) = .bool t2051 := m2316
                          have z2319 : (σ2296 51) = .bool t2051 := m2317
                          have z2320 : (σ2296 53) = .string (bs ms38.word) := m2313
                          have z2321 : (σ2296 55) = (σ1998 40) := m2314
                          have z2322 : (σ2296 57) = (σ1998 46) := m2315
                          refine wl_on (yl rfl rfl z2319) c2058 ?_
                          have f2323 := f2036.ext (s2041.ext.trans (e2306))
                          have f2324 := f2039.ext (s2041.ext.trans (e2306))
                          refine wl_call [.string (bs ms38.word), (σ1998 40), (σ1998 46)] bod10 (mc z2320 (mc z2321 (mc z2322 (mn _)))) (script_line.ok k fr2305.wf ms38.word t1494 t1513 (σ1998 40) f2323 (σ1998 46) f2324 _ h2064) ?_
                          rintro e2325 w2326 ⟨hw2327, rfl, s2328⟩
                          refine ⟨_, rfl, ?_⟩
                          have fr2329 := fr2305.then0 s2328
                          refine wl_nil ?_
                          have B2330 := (C2307.step0 s2328)
                          have B2331 := (C2308.step0 s2328)
                          have B2332 := (C2309.step0 s2328)
                          have B2333 := (C2310.step0 s2328)
                          have O2334 := (C2311.step0 s2328)
                          exact qn ⟨_, _, rfl, s2328.ext, ⟨fr2329, e2306.trans s2328.ext, B2330, B2331, B2332, B2333, O2334⟩, (aft_some rfl)⟩
                        · intro D2335 σ2336 w2337 hw2338 q2339 q2340 q2341 q2342 q2343 q2344
                          obtain ⟨fr2345, e2346, C2347, C2348, C2349, C2350, C2351⟩ := q2339
                          obtain ⟨⟨_, m2352⟩, _⟩ := q2341
                          have z2353 : (σ2336 51) = .bool t2051 := m2352
                          refine wl_on (yl rfl rfl z2353) c2058 ?_
                          refine wl_move (.string (bs a0)) ((q2342 0 rfl).trans ((q2002 0 rfl).trans ((q1454 0 rfl).trans z51))) ?_
                          refine wl_nil ?_
                          exact qn ⟨_, _, rfl, (Ext.refl _ _), ⟨fr2345, e2346.trans (Ext.refl _ _), C2347, C2348, C2349, C2350, C2351⟩, (aft_some rfl)⟩
                        · intro D2354 σ2355 w2356 hw2357 q2358 q2359 q2360 q2361 q2362 q2363
                          obtain ⟨fr2364, e2365, C2366, C2367, C2368, C2369, C2370⟩ := q2358
                          obtain ⟨⟨_, m2371⟩, ⟨_, m2372⟩, _⟩ := q2360
                          have z2373 : (σ2355 51) = .bool t2051 := m2372
                          have z2374 : (σ2355 59) = .string (bs a0) := m2371
                          refine wl_on (yl rfl rfl z2373) c2058 ?_
                          refine wl_adds z2374 rfl c2072 ?_
                          refine wl_nil ?_
                          exact qn ⟨_, _, rfl, (Ext.refl _ _), ⟨fr2364, e2365.trans (Ext.refl _ _), C2366, C2367, C2368, C2369, C2370⟩, (aft_some rfl)⟩
                        · intro D2375 σ2376 w2377 hw2378 q2379 q2380 q2381 q2382 q2383 q2384
                          obtain ⟨fr2385, e2386, C2387, C2388, C2389, C2390, C2391⟩ := q2379
                          obtain ⟨⟨_, m2392⟩, ⟨_, m2393⟩, ⟨_, m2394⟩, _⟩ := q2381
                          have z2395 : (σ2376 51) = .bool t2051 := m2394
                          have z2396 : (σ2376 58) = .string (bs t2063) := m2392
                          have z2397 : (σ2376 60) = .string (bs (a0 ++ ([10] : List UInt8))) := m2393
                          refine wl_on (yl rfl rfl z2395) c2058 ?_
                          refine wl_eqls z2396 z2397 ?_
                          refine wl_nil ?_
                          exact qn ⟨_, _, rfl, (Ext.refl _ _), ⟨fr2385, e2386.trans (Ext.refl _ _), C2387, C2388, C2389, C2390, C2391⟩, (aft_some rfl)⟩
                        · intro D2398 σ2399 w2400 hw2401 q2402 q2403 q2404 q2405 q2406 q2407
                          obtain ⟨fr2408, e2409, C2410, C2411, C2412, C2413, C2414⟩ := q2402
                          obtain ⟨⟨_, m2415⟩, ⟨_, m2416⟩, _⟩ := q2404
                          have z2417 : (σ2399 51) = .bool t2051 := m2415
                          have z2418 : (σ2399 61) = .bool (t2063 == (a0 ++ ([10] : List UInt8))) := m2416
                          refine wl_pick_t t2051 (.bool (t2063 == (a0 ++ ([10] : List UInt8)))) z2417 c2058 z2418 ?_
                          refine wl_nil ?_
                          exact qn ⟨_, _, rfl, (Ext.refl _ _), ⟨fr2408, e2409.trans (Ext.refl _ _), C2410, C2411, C2412, C2413, C2414⟩, (aft_some rfl)⟩
                        · intro D2419 σ2420 w2421 hw2422 q2423 q2424 q2425 q2426 q2427 q2428
                          obtain ⟨fr2429, e2430, C2431, C2432, C2433, C2434, C2435⟩ := q2423
                          obtain ⟨⟨_, m2436⟩, ⟨_, m2437⟩, ⟨_, m2438⟩, _⟩ := q2425
                          have z2439 : (σ2420 48) = .agg #[.int .i64 mx37, (σ1998 40), (σ1998 46)] := m2436
                          have z2440 : (σ2420 58) = .string (bs t2063) := m2437
                          have f2444 := f2036.ext (s2041.ext.trans (e2430))
                          have f2445 := f2039.ext (s2041.ext.trans (e2430))
                          refine wl_store C2431 fr2429.wf ty38 ((q2426 2 rfl).trans ((q2002 2 rfl).trans ((q1454 2 rfl).trans z52))) [.int .i64 mx37, (σ1998 40), (σ1998 46)] (cells_of z2439 rfl) rfl (Nat.le_of_ble_eq_true rfl) (one_all [.int .i64 mx37, (σ1998 40), (σ1998 46)] (by simp only [List.all_cons, List.all_nil, Bool.and_true, Bool.true_and, row_one f2444, row_one f2445] <;> rfl)) [.int .i64 mx37, (σ1998 40), (σ1998 46)] rfl ?_
                          intro w2441 s2442 B2443
                          have fr2446 := fr2429.then s2442 (fun _ e => (Option.some.inj e ▸ C2431.new))
                          refine wl_nil ?_
                          have B2447 := (C2432.stepb s2442 (Ne.symm n32))
                          have B2448 := (C2433.stepb s2442 (Ne.symm n81))
                          have B2449 := (C2434.stepb s2442 (Ne.symm n2014))
                          have O2450 := (C2435.step s2442 (.inr n15))
                          exact qn ⟨_, _, rfl, s2442.ext, ⟨fr2446, e2430.trans s2442.ext, B2443, B2447, B2448, B2449, O2450⟩, aft_none⟩
                        · intro D2451 σ2452 w2453 hw2454 q2455 q2456 q2457 q2458 q2459 q2460
                          obtain ⟨fr2461, e2462, C2463, C2464, C2465, C2466, C2467⟩ := q2455
                          have B2468 := C2463
                          rw [show D2451 15 = true from (q2459 15 rfl)] at B2468
                          obtain ⟨⟨_, m2469⟩, ⟨_, m2470⟩, ⟨_, m2471⟩, ⟨_, m2472⟩, ⟨_, m2473⟩, ⟨_, m2474⟩, ⟨_, m2475⟩, ⟨_, m2476⟩, ⟨_, m2477⟩, ⟨_, m2478⟩, ⟨_, m2479⟩, ⟨_, m2480⟩, ⟨_, m2481⟩, ⟨_, m2482⟩, ⟨_, m2483⟩, ⟨_, m2484⟩, ⟨_, m2485⟩, ⟨_, m2486⟩, _⟩ := q2457
                          have z2487 : (σ2452 62) = .bool (t2063 == (a0 ++ ([10] : List UInt8))) := m2469
                          have z2488 : (σ2452 48) = .agg #[.int .i64 mx37, (σ1998 40), (σ1998 46)] := m2471
                          have z2489 : (σ2452 49) = .agg #[.int .i64 mx37, (σ1998 40), (σ1998 46)] := m2472
                          have z2490 : (σ2452 50) = .bool t2051 := m2473
                          have z2491 : (σ2452 51) = .bool t2051 := m2474
                          have z2492 : (σ2452 52) = .pointer (some ⟨b76, 0, none⟩) := m2475
                          have z2493 : (σ2452 53) = .string (bs ms38.word) := m2476
                          have z2494 : (σ2452 54) = .pointer (some ⟨(blk (σ1998 7)), 1, none⟩) := m2477
                          have z2495 : (σ2452 55) = (σ1998 40) := m2478
                          have z2496 : (σ2452 56) = .pointer (some ⟨(blk (σ1998 7)), 2, none⟩) := m2479
                          have z2497 : (σ2452 57) = (σ1998 46) := m2480
                          have z2498 : (σ2452 58) = .string (bs t2063) := m2481
                          have z2499 : (σ2452 59) = .string (bs a0) := m2482
                          have z2500 : (σ2452 60) = .string (bs (a0 ++ ([10] : List UInt8))) := m2483
                          have z2501 : (σ2452 61) = .bool (t2063 == (a0 ++ ([10] : List UInt8))) := m2484
                          refine wl_assign (.bool (t2063 == (a0 ++ ([10] : List UInt8)))) z2487 ?_
                          refine wl_nil ?_
                          exact qn ⟨_, _, rfl, (Ext.refl _ _), ⟨fr2461, e2462.trans (Ext.refl _ _), C2463, C2464, C2465, C2466, C2467⟩, (aft_some rfl)⟩
                        · intro σ2502 w2503 hw2504 q2505 q2506 q2507
                          obtain ⟨fr2508, e2509, C2510, C2511, C2512, C2513, C2514⟩ := q2505
                          obtain ⟨m2515, m2516, m2517, m2518, m2519, m2520, m2521, m2522, m2523, m2524, m2525, m2526, m2527, m2528, m2529, m2530, m2531, _⟩ := q2507
                          have B2532 : Box w0.heap.size w2503 hw2504 b1 38 [.int .i64 mx37, (σ1998 40), (σ1998 46)] := C2510
                          have z2533 : (σ2502 55) = (σ1998 40) := m2522
                          have z2534 : (σ2502 57) = (σ1998 46) := m2524
                          have z2535 : (σ2502 3) = .bool (t2063 == (a0 ++ ([10] : List UInt8))) := m2531
                          refine qn ?_
                          refine wc_ret ?_
                          refine bret ?_
                          refine qr ?_
                          refine bret ?_
                          refine qr ?_
                          have f2536 := f2036.ext (s2041.ext.trans (e2509))
                          have f2537 := f2039.ext (s2041.ext.trans (e2509))
                          have h := mret hq74 h
                          have h := Option.some.inj h
                          subst h
                          refine end2 rfl (.cell ((q2506 2 rfl).trans ((q2002 2 rfl).trans ((q1454 2 rfl).trans z52))) (ty38.load (l := [.int .i64 mx37, (σ1998 40), (σ1998 46)]) rfl (B2532.cells rfl)) (.tmp z2535 .nil)) ?_
                          exact ⟨(σ1998 40), (σ1998 46), _, rfl, fr2508, f2536, f2537⟩
                      · replace h := (if_neg c2072).symm.trans h
                        cases h
                    · replace h := (if_neg c2058).symm.trans h
                      have b2538 : t2051 = false := Bool.eq_false_iff.2 c2058
                      refine wc_any (hw := hw2000) mixed [[], [], [1], [2, 2], [3], [4, 3], [3], [6, 3], [3], [8, 3], [5, 7, 9, 3, 3], [3], [11, 3], [10, 12, 3], [3, 13], [0, 10, 0], [14, 15, 0, 1, 2, 3, 4, 5, 6, 7, 8, 9, 10, 11, 12, 13, 14, 15]] [48, 49, 50, 51, 52, 53, 54, 55, 56, 57, 58, 59, 60, 61, 62, 3] (by kernel_rfl) (PhiOf [fun v w hw => v = .agg #[.int .i64 mx37, (σ1998 40), (σ1998 46)], fun v w hw => v = .agg #[.int .i64 mx37, (σ1998 40), (σ1998 46)], fun v w hw => v = .bool t2051, fun v w hw => v = .bool t2051, fun v w hw => v = undef, fun v w hw => v = undef, fun v w hw => v = undef, fun v w hw => v = undef, fun v w hw => v = undef, fun v w hw => v = undef, fun v w hw => v = undef, fun v w hw => v = undef, fun v w hw => v = undef, fun v w hw => v = undef, fun v w hw => v = .bool false, fun v w hw => True, fun v w hw => v = .bool false]) (fun D σ w hw => Stp none w0 hw0 w hw ∧ Ext (w1999).drew hw2000 w hw ∧ Box w0.heap.size w hw b1 38 [(bif D 15 then .int .i64 mx37 else .int .i64 0), (bif D 15 then (σ1998 40) else .slice none 0 0), (bif D 15 then (σ1998 46) else .slice none 0 0)] ∧ IterL Tryd.prog 3 (fun x : ScriptShape => Value.agg #[.string (bs x.word), .int .i64 x.nums, .int .i64 x.texts]) w0.heap.size w hw b27 t17 (fun z => lf46 z && !z.sameKey (.int .i64 mx37)) cn66 ∧ Box w0.heap.size w hw b76 41 [.string (bs ms38.word), .int .i64 ms38.nums, .int .i64 ms38.texts] ∧ Box w0.heap.size w hw (blk (σ1998 7)) 38 [.int .i64 mx37, (σ1998 40), (σ1998 46)] ∧ Own Kstr 9 w0.heap.size w hw v13 t7) (stab_of (sbc (fun _ _ _ _ _ _ h => h) (sbc (fun _ _ _ _ _ _ h => h) (sbc (fun _ _ _ _ _ _ h => h) (sbc (fun _ _ _ _ _ _ h => h) (sbc (fun _ _ _ _ _ _ h => h) (sbc (fun _ _ _ _ _ _ h => h) (sbc (fun _ _ _ _ _ _ h => h) (sbc (fun _ _ _ _ _ _ h => h) (sbc (fun _ _ _ _ _ _ h => h) (sbc (fun _ _ _ _ _ _ h => h) (sbc (fun _ _ _ _ _ _ h => h) (sbc (fun _ _ _ _ _ _ h => h) (sbc (fun _ _ _ _ _ _ h => h) (sbc (fun _ _ _ _ _ _ h => h) (sbc (fun _ _ _ _ _ _ h => h) (sbc (fun _ _ _ _ _ _ h => h) (sbc (fun _ _ _ _ _ _ h => h) sbn)))))))))))))))))) ?_ (stc ?_ (stc ?_ (stc ?_ (stc ?_ (stc ?_ (stc ?_ (stc ?_ (stc ?_ (stc ?_ (stc ?_ (stc ?_ (stc ?_ (stc ?_ (stc ?_ (stc ?_ (stc ?_ (stc ?_ stn))))))))))))))))) ?_
                      · exact ⟨fr2042, Ext.refl _ _, B2043, B2044, B2045, B2046, O2047⟩
                      · intro D2546 σ2547 w2548 hw2549 q2550 q2551 q2552 q2553 q2554 q2555
                        obtain ⟨fr2556, e2557, C2558, C2559, C2560, C2561, C2562⟩ := q2550
                        have B2563 := C2558
                        rw [show D2546 15 = false from (q2555 15 rfl)] at B2563
                        refine wl_loadb C2561 ty38 ((q2553 7 rfl).trans z2040) [.int .i64 mx37, (σ1998 40), (σ1998 46)] rfl rfl ?_
                        refine wl_nil ?_
                        exact qn ⟨_, _, rfl, (Ext.refl _ _), ⟨fr2556, e2557.trans (Ext.refl _ _), C2558, C2559, C2560, C2561, C2562⟩, (aft_some rfl)⟩
                      · intro D2564 σ2565 w2566 hw2567 q2568 q2569 q2570 q2571 q2572 q2573
                        obtain ⟨fr2574, e2575, C2576, C2577, C2578, C2579, C2580⟩ := q2568
                        have B2581 := C2576
                        rw [show D2564 15 = false from (q2573 15 rfl)] at B2581
                        refine wl_loadb C2579 ty38 ((q2571 7 rfl).trans z2040) [.int .i64 mx37, (σ1998 40), (σ1998 46)] rfl rfl ?_
                        refine wl_nil ?_
                        exact qn ⟨_, _, rfl, (Ext.refl _ _), ⟨fr2574, e2575.trans (Ext.refl _ _), C2576, C2577, C2578, C2579, C2580⟩, (aft_some rfl)⟩
                      · intro D2582 σ2583 w2584 hw2585 q2586 q2587 q2588 q2589 q2590 q2591
                        obtain ⟨fr2592, e2593, C2594, C2595, C2596, C2597, C2598⟩ := q2586
                        have B2599 := C2594
                        rw [show D2582 15 = false from (q2591 15 rfl)] at B2599
                        obtain ⟨⟨_, m2600⟩, _⟩ := q2588
                        have z2601 : (σ2583 49) = .agg #[.int .i64 mx37, (σ1998 40), (σ1998 46)] := m2600
                        have f2602 := f2036.ext (s2041.ext.trans (e2593))
                        have f2603 := f2039.ext (s2041.ext.trans (e2593))
                        refine wl_call [.agg #[.int .i64 mx37, (σ1998 40), (σ1998 46)]] bod19 (mc z2601 (mn _)) (script_right.ok k fr2592.wf (⟨mx37, t1494, t1513⟩ : ApiDeed) (σ1998 40) f2602 (σ1998 46) f2603 _ h2052) ?_
                        rintro e2604 w2605 ⟨hw2606, rfl, s2607⟩
                        refine ⟨_, rfl, ?_⟩
                        have fr2608 := fr2592.then0 s2607
                        refine wl_nil ?_
                        have B2609 := (C2594.step0 s2607)
                        have B2610 := (C2595.step0 s2607)
                        have B2611 := (C2596.step0 s2607)
                        have B2612 := (C2597.step0 s2607)
                        have O2613 := (C2598.step0 s2607)
                        exact qn ⟨_, _, rfl, s2607.ext, ⟨fr2608, e2593.trans s2607.ext, B2609, B2610, B2611, B2612, O2613⟩, (aft_some rfl)⟩
                      · intro D2614 σ2615 w2616 hw2617 q2618 q2619 q2620 q2621 q2622 q2623
                        obtain ⟨fr2624, e2625, C2626, C2627, C2628, C2629, C2630⟩ := q2618
                        have B2631 := C2626
                        rw [show D2614 15 = false from (q2623 15 rfl)] at B2631
                        obtain ⟨⟨_, m2632⟩, ⟨_, m2633⟩, _⟩ := q2620
                        have z2634 : (σ2615 50) = .bool t2051 := m2632
                        refine wl_move (.bool t2051) z2634 ?_
                        refine wl_nil ?_
                        exact qn ⟨_, _, rfl, (Ext.refl _ _), ⟨fr2624, e2625.trans (Ext.refl _ _), C2626, C2627, C2628, C2629, C2630⟩, (aft_some rfl)⟩
                      · intro D2635 σ2636 w2637 hw2638 q2639 q2640 q2641 q2642 q2643 q2644
                        obtain ⟨fr2645, e2646, C2647, C2648, C2649, C2650, C2651⟩ := q2639
                        have B2652 := C2647
                        rw [show D2635 15 = false from (q2644 15 rfl)] at B2652
                        obtain ⟨⟨_, m2653⟩, _⟩ := q2641
                        have z2654 : (σ2636 51) = .bool t2051 := m2653
                        refine wl_off (yl rfl rfl z2654) b2538 ?_
                        refine wl_nil ?_
                        exact qn ⟨_, _, rfl, (Ext.refl _ _), ⟨fr2645, e2646.trans (Ext.refl _ _), C2647, C2648, C2649, C2650, C2651⟩, (aft_some rfl)⟩
                      · intro D2655 σ2656 w2657 hw2658 q2659 q2660 q2661 q2662 q2663 q2664
                        obtain ⟨fr2665, e2666, C2667, C2668, C2669, C2670, C2671⟩ := q2659
                        have B2672 := C2667
                        rw [show D2655 15 = false from (q2664 15 rfl)] at B2672
                        obtain ⟨⟨_, m2673⟩, ⟨_, m2674⟩, _⟩ := q2661
                        have z2675 : (σ2656 51) = .bool t2051 := m2674
                        refine wl_off (yl rfl rfl z2675) b2538 ?_
                        refine wl_nil ?_
                        exact qn ⟨_, _, rfl, (Ext.refl _ _), ⟨fr2665, e2666.trans (Ext.refl _ _), C2667, C2668, C2669, C2670, C2671⟩, (aft_some rfl)⟩
                      · intro D2676 σ2677 w2678 hw2679 q2680 q2681 q2682 q2683 q2684 q2685
                        obtain ⟨fr2686, e2687, C2688, C2689, C2690, C2691, C2692⟩ := q2680
                        have B2693 := C2688
                        rw [show D2676 15 = false from (q2685 15 rfl)] at B2693
                        obtain ⟨⟨_, m2694⟩, _⟩ := q2682
                        have z2695 : (σ2677 51) = .bool t2051 := m2694
                        refine wl_off (yl rfl rfl z2695) b2538 ?_
                        refine wl_nil ?_
                        exact qn ⟨_, _, rfl, (Ext.refl _ _), ⟨fr2686, e2687.trans (Ext.refl _ _), C2688, C2689, C2690, C2691, C2692⟩, (aft_some rfl)⟩
                      · intro D2696 σ2697 w2698 hw2699 q2700 q2701 q2702 q2703 q2704 q2705
                        obtain ⟨fr2706, e2707, C2708, C2709, C2710, C2711, C2712⟩ := q2700
                        have B2713 := C2708
                        rw [show D2696 15 = false from (q2705 15 rfl)] at B2713
                        obtain ⟨⟨_, m2714⟩, ⟨_, m2715⟩, _⟩ := q2702
                        have z2716 : (σ2697 51) = .bool t2051 := m2715
                        refine wl_off (yl rfl rfl z2716) b2538 ?_
                        refine wl_nil ?_
                        exact qn ⟨_, _, rfl, (Ext.refl _ _), ⟨fr2706, e2707.trans (Ext.refl _ _), C2708, C2709, C2710, C2711, C2712⟩, (aft_some rfl)⟩
                      · intro D2717 σ2718 w2719 hw2720 q2721 q2722 q2723 q2724 q2725 q2726
                        obtain ⟨fr2727, e2728, C2729, C2730, C2731, C2732, C2733⟩ := q2721
                        have B2734 := C2729
                        rw [show D2717 15 = false from (q2726 15 rfl)] at B2734
                        obtain ⟨⟨_, m2735⟩, _⟩ := q2723
                        have z2736 : (σ2718 51) = .bool t2051 := m2735
                        refine wl_off (yl rfl rfl z2736) b2538 ?_
                        refine wl_nil ?_
                        exact qn ⟨_, _, rfl, (Ext.refl _ _), ⟨fr2727, e2728.trans (Ext.refl _ _), C2729, C2730, C2731, C2732, C2733⟩, (aft_some rfl)⟩
                      · intro D2737 σ2738 w2739 hw2740 q2741 q2742 q2743 q2744 q2745 q2746
                        obtain ⟨fr2747, e2748, C2749, C2750, C2751, C2752, C2753⟩ := q2741
                        have B2754 := C2749
                        rw [show D2737 15 = false from (q2746 15 rfl)] at B2754
                        obtain ⟨⟨_, m2755⟩, ⟨_, m2756⟩, _⟩ := q2743
                        have z2757 : (σ2738 51) = .bool t2051 := m2756
                        refine wl_off (yl rfl rfl z2757) b2538 ?_
                        refine wl_nil ?_
                        exact qn ⟨_, _, rfl, (Ext.refl _ _), ⟨fr2747, e2748.trans (Ext.refl _ _), C2749, C2750, C2751, C2752, C2753⟩, (aft_some rfl)⟩
                      · intro D2758 σ2759 w2760 hw2761 q2762 q2763 q2764 q2765 q2766 q2767
                        obtain ⟨fr2768, e2769, C2770, C2771, C2772, C2773, C2774⟩ := q2762
                        have B2775 := C2770
                        rw [show D2758 15 = false from (q2767 15 rfl)] at B2775
                        obtain ⟨⟨_, m2776⟩, ⟨_, m2777⟩, ⟨_, m2778⟩, ⟨_, m2779⟩, ⟨_, m2780⟩, _⟩ := q2764
                        have z2781 : (σ2759 51) = .bool t2051 := m2779
                        have z2782 : (σ2759 51) = .bool t2051 := m2780
                        refine wl_off (yl rfl rfl z2782) b2538 ?_
                        refine wl_nil ?_
                        exact qn ⟨_, _, rfl, (Ext.refl _ _), ⟨fr2768, e2769.trans (Ext.refl _ _), C2770, C2771, C2772, C2773, C2774⟩, (aft_some rfl)⟩
                      · intro D2783 σ2784 w2785 hw2786 q2787 q2788 q2789 q2790 q2791 q2792
                        obtain ⟨fr2793, e2794, C2795, C2796, C2797, C2798, C2799⟩ := q2787
                        obtain ⟨⟨_, m2800⟩, _⟩ := q2789
                        have z2801 : (σ2784 51) = .bool t2051 := m2800
                        refine wl_off (yl rfl rfl z2801) b2538 ?_
                        refine wl_nil ?_
                        exact qn ⟨_, _, rfl, (Ext.refl _ _), ⟨fr2793, e2794.trans (Ext.refl _ _), C2795, C2796, C2797, C2798, C2799⟩, (aft_some rfl)⟩
                      · intro D2802 σ2803 w2804 hw2805 q2806 q2807 q2808 q2809 q2810 q2811
                        obtain ⟨fr2812, e2813, C2814, C2815, C2816, C2817, C2818⟩ := q2806
                        obtain ⟨⟨_, m2819⟩, ⟨_, m2820⟩, _⟩ := q2808
                        have z2821 : (σ2803 51) = .bool t2051 := m2820
                        refine wl_off (yl rfl rfl z2821) b2538 ?_
                        refine wl_nil ?_
                        exact qn ⟨_, _, rfl, (Ext.refl _ _), ⟨fr2812, e2813.trans (Ext.refl _ _), C2814, C2815, C2816, C2817, C2818⟩, (aft_some rfl)⟩
                      · intro D2822 σ2823 w2824 hw2825 q2826 q2827 q2828 q2829 q2830 q2831
                        obtain ⟨fr2832, e2833, C2834, C2835, C2836, C2837, C2838⟩ := q2826
                        obtain ⟨⟨_, m2839⟩, ⟨_, m2840⟩, ⟨_, m2841⟩, _⟩ := q2828
                        have z2842 : (σ2823 51) = .bool t2051 := m2841
                        refine wl_off (yl rfl rfl z2842) b2538 ?_
                        refine wl_nil ?_
                        exact qn ⟨_, _, rfl, (Ext.refl _ _), ⟨fr2832, e2833.trans (Ext.refl _ _), C2834, C2835, C2836, C2837, C2838⟩, (aft_some rfl)⟩
                      · intro D2843 σ2844 w2845 hw2846 q2847 q2848 q2849 q2850 q2851 q2852
                        obtain ⟨fr2853, e2854, C2855, C2856, C2857, C2858, C2859⟩ := q2847
                        obtain ⟨⟨_, m2860⟩, ⟨_, m2861⟩, _⟩ := q2849
                        have z2862 : (σ2844 51) = .bool t2051 := m2860
                        have z2863 : (σ2844 61) = undef := m2861
                        refine wl_pick_f t2051 (.bool false) z2862 b2538 rfl ?_
                        refine wl_nil ?_
                        exact qn ⟨_, _, rfl, (Ext.refl _ _), ⟨fr2853, e2854.trans (Ext.refl _ _), C2855, C2856, C2857, C2858, C2859⟩, (aft_some rfl)⟩
                      · intro D2864 σ2865 w2866 hw2867 q2868 q2869 q2870 q2871 q2872 q2873
                        obtain ⟨fr2874, e2875, C2876, C2877, C2878, C2879, C2880⟩ := q2868
                        obtain ⟨⟨_, m2881⟩, ⟨_, m2882⟩, ⟨_, m2883⟩, _⟩ := q2870
                        have z2884 : (σ2865 48) = .agg #[.int .i64 mx37, (σ1998 40), (σ1998 46)] := m2881
                        have z2885 : (σ2865 58) = undef := m2882
                        have f2889 := f2036.ext (s2041.ext.trans (e2875))
                        have f2890 := f2039.ext (s2041.ext.trans (e2875))
                        refine wl_store C2876 fr2874.wf ty38 ((q2871 2 rfl).trans ((q2002 2 rfl).trans ((q1454 2 rfl).trans z52))) [.int .i64 mx37, (σ1998 40), (σ1998 46)] (cells_of z2884 rfl) rfl (Nat.le_of_ble_eq_true rfl) (one_all [.int .i64 mx37, (σ1998 40), (σ1998 46)] (by simp only [List.all_cons, List.all_nil, Bool.and_true, Bool.true_and, row_one f2889, row_one f2890] <;> rfl)) [.int .i64 mx37, (σ1998 40), (σ1998 46)] rfl ?_
                        intro w2886 s2887 B2888
                        have fr2891 := fr2874.then s2887 (fun _ e => (Option.some.inj e ▸ C2876.new))
                        refine wl_nil ?_
                        have B2892 := (C2877.stepb s2887 (Ne.symm n32))
                        have B2893 := (C2878.stepb s2887 (Ne.symm n81))
                        have B2894 := (C2879.stepb s2887 (Ne.symm n2014))
                        have O2895 := (C2880.step s2887 (.inr n15))
                        exact qn ⟨_, _, rfl, s2887.ext, ⟨fr2891, e2875.trans s2887.ext, B2888, B2892, B2893, B2894, O2895⟩, aft_none⟩
                      · intro D2896 σ2897 w2898 hw2899 q2900 q2901 q2902 q2903 q2904 q2905
                        obtain ⟨fr2906, e2907, C2908, C2909, C2910, C2911, C2912⟩ := q2900
                        have B2913 := C2908
                        rw [show D2896 15 = true from (q2904 15 rfl)] at B2913
                        obtain ⟨⟨_, m2914⟩, ⟨_, m2915⟩, ⟨_, m2916⟩, ⟨_, m2917⟩, ⟨_, m2918⟩, ⟨_, m2919⟩, ⟨_, m2920⟩, ⟨_, m2921⟩, ⟨_, m2922⟩, ⟨_, m2923⟩, ⟨_, m2924⟩, ⟨_, m2925⟩, ⟨_, m2926⟩, ⟨_, m2927⟩, ⟨_, m2928⟩, ⟨_, m2929⟩, ⟨_, m2930⟩, ⟨_, m2931⟩, _⟩ := q2902
                        have z2932 : (σ2897 62) = .bool false := m2914
                        have z2933 : (σ2897 48) = .agg #[.int .i64 mx37, (σ1998 40), (σ1998 46)] := m2916
                        have z2934 : (σ2897 49) = .agg #[.int .i64 mx37, (σ1998 40), (σ1998 46)] := m2917
                        have z2935 : (σ2897 50) = .bool t2051 := m2918
                        have z2936 : (σ2897 51) = .bool t2051 := m2919
                        have z2937 : (σ2897 52) = undef := m2920
                        have z2938 : (σ2897 53) = undef := m2921
                        have z2939 : (σ2897 54) = undef := m2922
                        have z2940 : (σ2897 55) = undef := m2923
                        have z2941 : (σ2897 56) = undef := m2924
                        have z2942 : (σ2897 57) = undef := m2925
                        have z2943 : (σ2897 58) = undef := m2926
                        have z2944 : (σ2897 59) = undef := m2927
                        have z2945 : (σ2897 60) = undef := m2928
                        have z2946 : (σ2897 61) = undef := m2929
                        refine wl_assign (.bool false) z2932 ?_
                        refine wl_nil ?_
                        exact qn ⟨_, _, rfl, (Ext.refl _ _), ⟨fr2906, e2907.trans (Ext.refl _ _), C2908, C2909, C2910, C2911, C2912⟩, (aft_some rfl)⟩
                      · intro σ2947 w2948 hw2949 q2950 q2951 q2952
                        obtain ⟨fr2953, e2954, C2955, C2956, C2957, C2958, C2959⟩ := q2950
                        obtain ⟨m2960, m2961, m2962, m2963, m2964, m2965, m2966, m2967, m2968, m2969, m2970, m2971, m2972, m2973, m2974, m2975, m2976, _⟩ := q2952
                        have B2977 : Box w0.heap.size w2948 hw2949 b1 38 [.int .i64 mx37, (σ1998 40), (σ1998 46)] := C2955
                        have z2978 : (σ2947 3) = .bool false := m2976
                        refine qn ?_
                        refine wc_ret ?_
                        refine bret ?_
                        refine qr ?_
                        refine bret ?_
                        refine qr ?_
                        have f2979 := f2036.ext (s2041.ext.trans (e2954))
                        have f2980 := f2039.ext (s2041.ext.trans (e2954))
                        have h := mret hq74 h
                        have h := Option.some.inj h
                        subst h
                        refine end2 rfl (.cell ((q2951 2 rfl).trans ((q2002 2 rfl).trans ((q1454 2 rfl).trans z52))) (ty38.load (l := [.int .i64 mx37, (σ1998 40), (σ1998 46)]) rfl (B2977.cells rfl)) (.tmp z2978 .nil)) ?_
                        exact ⟨(σ1998 40), (σ1998 46), _, rfl, fr2953, f2979, f2980⟩
                · replace h := (if_neg c1509).symm.trans h
                  cases h
              · replace h := (if_neg c1508).symm.trans h
                cases h
            · replace h := (if_neg c1491).symm.trans h
              cases h
          · replace h := (if_neg c1490).symm.trans h
            cases h
/-! ### consignor/script.Parse: function 6 -/
def script_Parse.l0 : Nat → (ApiPlan × Bool) → List UInt8 → Int → (List ApiDeed) → Option (ApiPlan × Int × Int)
  | 0, _, _, _, _ => none
  | k + 1, t14, x49, x50, l52 => if (x49 == []) = true then (some ((⟨t14.1.Quota, t14.1.Sectors, l52⟩ : ApiPlan), 0, 0)) else ((strings_Cut.f k x49 ([10] : List UInt8)).bind fun t78 => ((script_deed.f k t78.1).bind fun t85 => (if (((!t78.2.2) || (!t85.2)) || ((l52.length : Int) == 200)) = true then (some ((⟨0, 0, []⟩ : ApiPlan), 250, x50)) else (if (l52.length + ([t85.1]).length) * 56 ≤ 140737488355328 then (script_Parse.l0 k t14 t78.2.1 (IntKind.i64.wrap (x50 + 1)) (l52 ++ ([t85.1]))) else none))))
def script_Parse.f (k : Nat) (a0 : (List UInt8)) : Option (ApiPlan × Int × Int) := (strings_Cut.f k a0 ([10] : List UInt8)).bind fun t7 => ((script_begin.f k t7.1).bind fun t14 => (if ((!t7.2.2) || (!t14.2)) = true then (some ((⟨0, 0, []⟩ : ApiPlan), 250, 1)) else (script_Parse.l0 k t14 t7.2.1 2 t14.1.Deeds)))
set_option maxHeartbeats 1000000 in
theorem script_Parse.ok (k : Nat) {w0 : World} {hw0 : Hw} (wf : Hwf w0 hw0) (a0 : (List UInt8)) (gl : Gl w0 hw0) (r : (ApiPlan × Int × Int)) (h : script_Parse.f k a0 = some r) :
    Calls Tryd.prog 6 #[.string (bs a0)] w0 fun e w' => ∃ (v0_2 : Value) (hw' : Hw), e = .returned (.tuple #[.agg #[.int .i64 r.1.Quota, .int .i64 r.1.Sectors, v0_2], .int .i64 r.2.1, .int .i64 r.2.2]) ∧ Stp none w0 hw0 w' hw' ∧ Row KApiDeed w' hw' v0_2 r.1.Deeds := by
  have fr0 := Stp.refl none (w := w0) (hw := hw0) wf
  unfold script_Parse.f at h
  refine enter (n := 67) Tryd.func6 rfl rfl (Nat.le_of_ble_eq_true rfl) ?_
  refine wc_seq ?_
  refine wc_region ?_
  refine wl_alloc fr0.wf fr0.g.size ty24 [.int .i64 0, .int .i64 0, .slice none 0 0] rfl ?_
  intro b1 w2 s3 B4 g5
  have fr6 := fr0.then0 s3
  refine wl_assign (.int .i64 0) rfl ?_
  refine wl_assign (.int .i64 0) rfl ?_
  refine wl_nil ?_
  refine qn ?_
  refine wc_seq ?_
  refine wc_region ?_
  refine wl_move (.string (bs a0)) rfl ?_
  obtain ⟨t7, h8, h⟩ := Option.bind_eq_some_iff.1 h
  refine wl_call [.string (bs a0), .string (bs ([10] : List UInt8))] bod12 (mc rfl (mc rfl (mn _))) (strings_Cut.ok k fr6.wf a0 ([10] : List UInt8) (Gl.of gl fr6) _ h8) ?_
  rintro e9 w10 ⟨hw11, rfl, s12⟩
  refine ⟨_, rfl, ?_⟩
  have fr13 := fr6.then0 s12
  refine wl_move (.tuple #[.string (bs t7.1), .string (bs t7.2.1), .bool t7.2.2]) rfl ?_
  refine wl_extract (vs := [.string (bs t7.1), .string (bs t7.2.1), .bool t7.2.2]) (.string (bs t7.1)) rfl rfl ?_
  refine wl_extract (vs := [.string (bs t7.1), .string (bs t7.2.1), .bool t7.2.2]) (.string (bs t7.2.1)) rfl rfl ?_
  refine wl_extract (vs := [.string (bs t7.1), .string (bs t7.2.1), .bool t7.2.2]) (.bool t7.2.2) rfl rfl ?_
  refine wl_assign (.string (bs t7.1)) rfl ?_
  refine wl_assign (.string (bs t7.2.1)) rfl ?_
  refine wl_assign (.bool t7.2.2) rfl ?_
  refine wl_nil ?_
  refine qn ?_
  refine wc_seq ?_
  refine wc_region ?_
  refine wl_move (.string (bs t7.1)) rfl ?_
  obtain ⟨t14, h15, h⟩ := Option.bind_eq_some_iff.1 h
  have B20 := (B4.step0 s12)
  refine wl_call [.string (bs t7.1)] bod13 (mc rfl (mn _)) (script_begin.ok k fr13.wf t7.1 (Gl.of gl fr13) _ h15) ?_
  rintro e16 w17 ⟨v21, hw18, rfl, s19, O22⟩
  refine ⟨_, rfl, ?_⟩
  have n23 := own_new_lt O22 B20.lt
  replace O22 := O22.low fr13.g.size
  have fr24 := fr13.then0 s19
  refine wl_move (.tuple #[.agg #[.int .i64 t14.1.Quota, .int .i64 t14.1.Sectors, v21], .bool t14.2]) rfl ?_
  refine wl_extract (vs := [.agg #[.int .i64 t14.1.Quota, .int .i64 t14.1.Sectors, v21], .bool t14.2]) (.agg #[.int .i64 t14.1.Quota, .int .i64 t14.1.Sectors, v21]) rfl rfl ?_
  refine wl_extract (vs := [.agg #[.int .i64 t14.1.Quota, .int .i64 t14.1.Sectors, v21], .bool t14.2]) (.bool t14.2) rfl rfl ?_
  refine wl_alloc fr24.wf fr24.g.size ty24 [.int .i64 0, .int .i64 0, .slice none 0 0] rfl ?_
  intro b25 w26 s27 B28 g29
  have B31 := (B20.step0 s19)
  have n30 : b1 ≠ b25 := B31.ne g29
  have n32 := O22.ne g29
  have fr33 := fr24.then0 s27
  have O37 := (O22.step0 s27)
  refine wl_store B28 fr33.wf ty24 rfl [.int .i64 t14.1.Quota, .int .i64 t14.1.Sectors, v21] (cells_of (v := (.agg #[.int .i64 t14.1.Quota, .int .i64 t14.1.Sectors, v21])) rfl rfl) rfl (Nat.le_of_ble_eq_true rfl) (one_all [.int .i64 t14.1.Quota, .int .i64 t14.1.Sectors, v21] (by simp only [List.all_cons, List.all_nil, Bool.and_true, Bool.true_and, row_one O37.row] <;> rfl)) [.int .i64 t14.1.Quota, .int .i64 t14.1.Sectors, v21] rfl ?_
  intro w34 s35 B36
  have fr38 := fr33.then s35 (fun _ e => (Option.some.inj e ▸ B28.new))
  refine wl_assign (.bool t14.2) rfl ?_
  refine wl_nil ?_
  refine qn ?_
  refine wc_seq ?_
  refine wc_seq ?_
  refine wc_region ?_
  refine wl_move (.bool t7.2.2) rfl ?_
  refine wl_not rfl ?_
  refine wl_move (.bool (!t7.2.2)) rfl ?_
  refine wl_join 3 [27, 28, 29] 29 (.bool ((!t7.2.2) || (!t14.2))) ?_ ?_
  · rcases Bool.eq_false_or_eq_true (!t7.2.2) with hcc | hcc
    · skip
      refine wl_off (yl rfl rfl rfl) hcc ?_
      refine wl_off (yl rfl rfl rfl) hcc ?_
      refine wl_pick_t (!t7.2.2) (.bool true) rfl hcc rfl ?_
      refine wl_nil ?_
      exact qn ⟨rfl, _, rfl, (by repeat (first | exact Same.refl _ _ | refine Same.upd ?_ rfl)), (by rw [hcc]; rfl)⟩
    · skip
      refine wl_on (yl rfl rfl rfl) hcc ?_
      refine wl_move (.bool t14.2) rfl ?_
      refine wl_on (yl rfl rfl rfl) hcc ?_
      refine wl_not rfl ?_
      refine wl_pick_f (!t7.2.2) (.bool (!t14.2)) rfl hcc rfl ?_
      refine wl_nil ?_
      exact qn ⟨rfl, _, rfl, (by repeat (first | exact Same.refl _ _ | refine Same.upd ?_ rfl)), (by rw [hcc]; rfl)⟩
  intro _ ho39 hv40
  refine wl_nil ?_
  refine qn ?_
  by_cases c41 : ((!t7.2.2) || (!t14.2)) = true
  · replace h := (if_pos c41).symm.trans h
    refine wc_then hv40 c41 ?_
    refine wc_seq ?_
    refine wc_region ?_
    have hb42 : ∀ w, (Instr.build 24 #[]).run Tryd.prog w = .ok (.agg (List.toArray [.int .i64 0, .int .i64 0, .slice none 0 0])) w := by intro  _; kernel_rfl
    refine wl_build [.int .i64 0, .int .i64 0, .slice none 0 0] (pn _ _) (hb42 _) ?_
    have B43 := ((B31.step0 s27).stepb s35 n30)
    refine wl_store B43 fr38.wf ty24 ((ho39 2 rfl).trans rfl) [.int .i64 0, .int .i64 0, .slice none 0 0] (cells_of (v := (.agg #[.int .i64 0, .int .i64 0, .slice none 0 0])) rfl rfl) rfl (Nat.le_of_ble_eq_true rfl) (by intro u hu; simp only [List.mem_cons, List.not_mem_nil, or_false] at hu; rcases hu with rfl | rfl | rfl <;> first | rfl | exact Dy.one _) [.int .i64 0, .int .i64 0, .slice none 0 0] rfl ?_
    intro w44 s45 B46
    have fr47 := fr38.then s45 (fun _ e => (Option.some.inj e ▸ B43.new))
    refine wl_assign (.int .i64 250) rfl ?_
    refine wl_assign (.int .i64 1) rfl ?_
    refine wl_nil ?_
    refine qn ?_
    refine wc_ret ?_
    refine qr ?_
    have h := Option.some.inj h
    subst h
    refine end3 rfl (.cell ((ho39 2 rfl).trans rfl) (ty24.load (l := [.int .i64 0, .int .i64 0, .slice none 0 0]) rfl (B46.cells rfl)) (.tmp rfl (.tmp rfl .nil))) ?_
    exact ⟨(.slice none 0 0), _, rfl, fr47, (Row.nil _ _ _)⟩
  · replace h := (if_neg c41).symm.trans h
    have b48 : ((!t7.2.2) || (!t14.2)) = false := Bool.eq_false_iff.2 c41
    refine wc_else hv40 b48 ?_
    refine wc_skip ?_
    refine qn ?_
    refine wc_seq ?_
    refine wc_seq ?_
    refine wc_region ?_
    refine wl_assign (.int .i64 2) rfl ?_
    refine wl_nil ?_
    refine qn ?_
    refine wc_block ?_
    refine wc_loop (fun m a w => ∃ (σ : Nat → Value) (hw : Hw) (kq : Nat) (x49 : List UInt8) (x50 : Int) (v51 : Value) (l52 : (List ApiDeed)), a = mkA 67 σ ∧ kq ≤ m ∧ kq ≤ k ∧ Stp none w0 hw0 w hw ∧ Ext w34 hw18 w hw ∧ σ 2 = .pointer (some ⟨b1, 0, none⟩) ∧ σ 6 = .string (bs x49) ∧ σ 8 = .pointer (some ⟨b25, 0, none⟩) ∧ σ 10 = .int .i64 x50 ∧ Box w0.heap.size w hw b1 24 [.int .i64 0, .int .i64 0, .slice none 0 0] ∧ Box w0.heap.size w hw b25 24 [.int .i64 t14.1.Quota, .int .i64 t14.1.Sectors, v51] ∧ Own KApiDeed 38 w0.heap.size w hw v51 l52 ∧ Value.ownBlock v51 ≠ some b1 ∧ Value.ownBlock v51 ≠ some b25 ∧ script_Parse.l0 kq t14 x49 x50 l52 = some r) k ?_ ?_ ?_
    · skip
      have B53 := ((B31.step0 s27).stepb s35 n30)
      have O54 := (O37.step s35 (.inr n32))
      exact ⟨_, _, _, t7.2.1, 2, v21, t14.1.Deeds, rfl, (Nat.le_refl _), (Nat.le_refl _), fr38, (Ext.refl _ _), ((ho39 2 rfl).trans rfl), ((ho39 6 rfl).trans rfl), ((ho39 8 rfl).trans rfl), rfl, B53, B36, O54, n23, n32, h⟩
    · rintro _ _ ⟨_, hw56, k57, x49, x50, v51, l52, rfl, hk60, hk61, fr58, e59, z62, z63, z64, z65, B66, B67, r68, n69, n70, h⟩; obtain rfl := Nat.le_zero.1 hk60; rw [script_Parse.l0] at h; cases h
    · rintro m0 _ w55 ⟨_, hw56, k57, x49, x50, v51, l52, rfl, hk60, hk61, fr58, e59, z62, z63, z64, z65, B66, B67, r68, n69, n70, h⟩
      rcases k57 with _ | k57
      · rw [script_Parse.l0] at h; cases h
      rw [script_Parse.l0] at h
      refine wc_seq ?_
      refine wc_seq ?_
      refine wc_region ?_
      refine wl_move (.string (bs x49)) z63 ?_
      refine wl_neqs rfl rfl ?_
      refine wl_nil ?_
      refine qn ?_
      by_cases c71 : (x49 == []) = true
      · replace h := (if_pos c71).symm.trans h
        refine wc_else rfl (by rw [c71] <;> rfl) ?_
        refine wc_exit ?_
        refine qe ?_
        refine qe ?_
        refine be ?_
        refine qn ?_
        refine wc_seq ?_
        refine wc_region ?_
        refine wl_loadb B67 ty24 z64 [.int .i64 t14.1.Quota, .int .i64 t14.1.Sectors, v51] rfl rfl ?_
        refine wl_store B66 fr58.wf ty24 z62 [.int .i64 t14.1.Quota, .int .i64 t14.1.Sectors, v51] (cells_of (v := (.agg #[.int .i64 t14.1.Quota, .int .i64 t14.1.Sectors, v51])) rfl rfl) rfl (Nat.le_of_ble_eq_true rfl) (one_all [.int .i64 t14.1.Quota, .int .i64 t14.1.Sectors, v51] (by simp only [List.all_cons, List.all_nil, Bool.and_true, Bool.true_and, row_one r68.row] <;> rfl)) [.int .i64 t14.1.Quota, .int .i64 t14.1.Sectors, v51] rfl ?_
        intro w72 s73 B74
        have fr75 := fr58.then s73 (fun _ e => (Option.some.inj e ▸ B66.new))
        refine wl_assign (.int .i64 0) rfl ?_
        refine wl_assign (.int .i64 0) rfl ?_
        refine wl_nil ?_
        refine qn ?_
        refine wc_ret ?_
        have O76 := (r68.step s73 (.inr n69))
        have h := Option.some.inj h
        subst h
        refine end3 rfl (.cell z62 (ty24.load (l := [.int .i64 t14.1.Quota, .int .i64 t14.1.Sectors, v51]) rfl (B74.cells rfl)) (.tmp rfl (.tmp rfl .nil))) ?_
        exact ⟨v51, _, rfl, fr75, O76.row⟩
      · replace h := (if_neg c71).symm.trans h
        have b77 : (x49 == []) = false := Bool.eq_false_iff.2 c71
        refine wc_then rfl (by rw [b77] <;> rfl) ?_
        refine wc_skip ?_
        refine qn ?_
        refine wc_seq ?_
        refine wc_block ?_
        refine wc_seq ?_
        refine wc_region ?_
        refine wl_move (.string (bs x49)) z63 ?_
        obtain ⟨t78, h79, h⟩ := Option.bind_eq_some_iff.1 h
        refine wl_call [.string (bs x49), .string (bs ([10] : List UInt8))] bod12 (mc rfl (mc rfl (mn _))) (strings_Cut.ok k57 fr58.wf x49 ([10] : List UInt8) (Gl.of gl fr58) _ h79) ?_
        rintro e80 w81 ⟨hw82, rfl, s83⟩
        refine ⟨_, rfl, ?_⟩
        have fr84 := fr58.then0 s83
        refine wl_move (.tuple #[.string (bs t78.1), .string (bs t78.2.1), .bool t78.2.2]) rfl ?_
        refine wl_extract (vs := [.string (bs t78.1), .string (bs t78.2.1), .bool t78.2.2]) (.string (bs t78.1)) rfl rfl ?_
        refine wl_extract (vs := [.string (bs t78.1), .string (bs t78.2.1), .bool t78.2.2]) (.string (bs t78.2.1)) rfl rfl ?_
        refine wl_extract (vs := [.string (bs t78.1), .string (bs t78.2.1), .bool t78.2.2]) (.bool t78.2.2) rfl rfl ?_
        refine wl_assign (.string (bs t78.1)) rfl ?_
        refine wl_assign (.string (bs t78.2.1)) rfl ?_
        refine wl_assign (.bool t78.2.2) rfl ?_
        refine wl_nil ?_
        refine qn ?_
        refine wc_seq ?_
        refine wc_region ?_
        refine wl_move (.string (bs t78.1)) rfl ?_
        obtain ⟨t85, h86, h⟩ := Option.bind_eq_some_iff.1 h
        have B91 := (B66.step0 s83)
        have B92 := (B67.step0 s83)
        refine wl_call [.string (bs t78.1)] bod14 (mc rfl (mn _)) (script_deed.ok k57 fr84.wf t78.1 (Gl.of gl fr84) _ h86) ?_
        rintro e87 w88 ⟨v93, v95, hw89, rfl, s90, f94, f96⟩
        refine ⟨_, rfl, ?_⟩
        have fr97 := fr84.then0 s90
        refine wl_move (.tuple #[.agg #[.int .i64 t85.1.Kind, v93, v95], .bool t85.2]) rfl ?_
        refine wl_extract (vs := [.agg #[.int .i64 t85.1.Kind, v93, v95], .bool t85.2]) (.agg #[.int .i64 t85.1.Kind, v93, v95]) rfl rfl ?_
        refine wl_extract (vs := [.agg #[.int .i64 t85.1.Kind, v93, v95], .bool t85.2]) (.bool t85.2) rfl rfl ?_
        refine wl_alloc fr97.wf fr97.g.size ty38 [.int .i64 0, .slice none 0 0, .slice none 0 0] rfl ?_
        intro b98 w99 s100 B101 g102
        have B104 := (B91.step0 s90)
        have n103 : b1 ≠ b98 := B104.ne g102
        have B106 := (B92.step0 s90)
        have n105 : b25 ≠ b98 := B106.ne g102
        have O108 := ((r68.step0 s83).step0 s90)
        have n107 := O108.ne g102
        have fr109 := fr97.then0 s100
        have f113 := f94.ext (s100.ext)
        have f114 := f96.ext (s100.ext)
        refine wl_store B101 fr109.wf ty38 rfl [.int .i64 t85.1.Kind, v93, v95] (cells_of (v := (.agg #[.int .i64 t85.1.Kind, v93, v95])) rfl rfl) rfl (Nat.le_of_ble_eq_true rfl) (one_all [.int .i64 t85.1.Kind, v93, v95] (by simp only [List.all_cons, List.all_nil, Bool.and_true, Bool.true_and, row_one f113, row_one f114] <;> rfl)) [.int .i64 t85.1.Kind, v93, v95] rfl ?_
        intro w110 s111 B112
        have fr115 := fr109.then s111 (fun _ e => (Option.some.inj e ▸ B101.new))
        refine wl_assign (.bool t85.2) rfl ?_
        refine wl_nil ?_
        refine qn ?_
        refine wc_seq ?_
        refine wc_seq ?_
        refine wc_region ?_
        refine wl_move (.bool t78.2.2) rfl ?_
        refine wl_not rfl ?_
        refine wl_move (.bool (!t78.2.2)) rfl ?_
        refine wl_join 3 [49, 50, 51] 51 (.bool ((!t78.2.2) || (!t85.2))) ?_ ?_
        · rcases Bool.eq_false_or_eq_true (!t78.2.2) with hcc | hcc
          · skip
            refine wl_off (yl rfl rfl rfl) hcc ?_
            refine wl_off (yl rfl rfl rfl) hcc ?_
            refine wl_pick_t (!t78.2.2) (.bool true) rfl hcc rfl ?_
            refine wl_nil ?_
            exact qn ⟨rfl, _, rfl, (by repeat (first | exact Same.refl _ _ | refine Same.upd ?_ rfl)), (by rw [hcc]; rfl)⟩
          · skip
            refine wl_on (yl rfl rfl rfl) hcc ?_
            refine wl_move (.bool t85.2) rfl ?_
            refine wl_on (yl rfl rfl rfl) hcc ?_
            refine wl_not rfl ?_
            refine wl_pick_f (!t78.2.2) (.bool (!t85.2)) rfl hcc rfl ?_
            refine wl_nil ?_
            exact qn ⟨rfl, _, rfl, (by repeat (first | exact Same.refl _ _ | refine Same.upd ?_ rfl)), (by rw [hcc]; rfl)⟩
        intro _ ho116 hv117
        refine wl_move (.bool ((!t78.2.2) || (!t85.2))) hv117 ?_
        refine wl_join 5 [53, 54, 55, 56, 57] 57 (.bool (((!t78.2.2) || (!t85.2)) || ((l52.length : Int) == 200))) ?_ ?_
        · rcases Bool.eq_false_or_eq_true ((!t78.2.2) || (!t85.2)) with hcc | hcc
          · skip
            refine wl_off (yl rfl rfl rfl) hcc ?_
            refine wl_off (yl rfl rfl rfl) hcc ?_
            refine wl_off (yl rfl rfl rfl) hcc ?_
            refine wl_off (yl rfl rfl rfl) hcc ?_
            refine wl_pick_t ((!t78.2.2) || (!t85.2)) (.bool true) rfl hcc rfl ?_
            refine wl_nil ?_
            exact qn ⟨rfl, _, rfl, (by repeat (first | exact Same.refl _ _ | refine Same.upd ?_ rfl)), (by rw [hcc]; rfl)⟩
          · skip
            refine wl_on (yl rfl rfl rfl) hcc ?_
            refine wl_field fld24_2 ((ho116 8 rfl).trans z64) ?_
            refine wl_on (yl rfl rfl rfl) hcc ?_
            have B118 := ((B106.step0 s100).stepb s111 n105)
            refine wl_loadb1 B118 ty22 rfl (v51) rfl ?_
            refine wl_on (yl rfl rfl rfl) hcc ?_
            have O122 := ((O108.step0 s100).step s111 (.inr n107))
            obtain ⟨A119, c120, hv121⟩ := (O122.row).slice
            refine wl_len Tryd.underlying22 (show _ = Value.slice _ l52.length _ from (Eq.trans rfl hv121)) ?_
            refine wl_on (yl rfl rfl rfl) hcc ?_
            refine wl_eql rfl rfl ?_
            refine wl_pick_f ((!t78.2.2) || (!t85.2)) (.bool ((l52.length : Int) == 200)) rfl hcc rfl ?_
            refine wl_nil ?_
            exact qn ⟨rfl, _, rfl, (by repeat (first | exact Same.refl _ _ | refine Same.upd ?_ rfl)), (by rw [hcc]; rfl)⟩
        intro _ ho123 hv124
        refine wl_nil ?_
        refine qn ?_
        by_cases c125 : (((!t78.2.2) || (!t85.2)) || ((l52.length : Int) == 200)) = true
        · replace h := (if_pos c125).symm.trans h
          refine wc_then hv124 c125 ?_
          refine wc_seq ?_
          refine wc_region ?_
          have hb126 : ∀ w, (Instr.build 24 #[]).run Tryd.prog w = .ok (.agg (List.toArray [.int .i64 0, .int .i64 0, .slice none 0 0])) w := by intro  _; kernel_rfl
          refine wl_build [.int .i64 0, .int .i64 0, .slice none 0 0] (pn _ _) (hb126 _) ?_
          refine wl_move (.int .i64 x50) ((ho123 10 rfl).trans ((ho116 10 rfl).trans z65)) ?_
          have B127 := ((B104.step0 s100).stepb s111 n103)
          refine wl_store B127 fr115.wf ty24 ((ho123 2 rfl).trans ((ho116 2 rfl).trans z62)) [.int .i64 0, .int .i64 0, .slice none 0 0] (cells_of (v := (.agg #[.int .i64 0, .int .i64 0, .slice none 0 0])) rfl rfl) rfl (Nat.le_of_ble_eq_true rfl) (by intro u hu; simp only [List.mem_cons, List.not_mem_nil, or_false] at hu; rcases hu with rfl | rfl | rfl <;> first | rfl | exact Dy.one _) [.int .i64 0, .int .i64 0, .slice none 0 0] rfl ?_
          intro w128 s129 B130
          have fr131 := fr115.then s129 (fun _ e => (Option.some.inj e ▸ B127.new))
          refine wl_assign (.int .i64 250) rfl ?_
          refine wl_assign (.int .i64 x50) rfl ?_
          refine wl_nil ?_
          refine qn ?_
          refine wc_ret ?_
          refine qr ?_
          refine bret ?_
          refine qr ?_
          refine qr ?_
          refine bret ?_
          refine qr ?_
          have h := Option.some.inj h
          subst h
          refine end3 rfl (.cell ((ho123 2 rfl).trans ((ho116 2 rfl).trans z62)) (ty24.load (l := [.int .i64 0, .int .i64 0, .slice none 0 0]) rfl (B130.cells rfl)) (.tmp rfl (.tmp rfl .nil))) ?_
          exact ⟨(.slice none 0 0), _, rfl, fr131, (Row.nil _ _ _)⟩
        · replace h := (if_neg c125).symm.trans h
          have b132 : (((!t78.2.2) || (!t85.2)) || ((l52.length : Int) == 200)) = false := Bool.eq_false_iff.2 c125
          refine wc_else hv124 b132 ?_
          refine wc_skip ?_
          refine qn ?_
          refine wc_region ?_
          refine wl_field fld24_2 ((ho123 8 rfl).trans ((ho116 8 rfl).trans z64)) ?_
          have B133 := ((B106.step0 s100).stepb s111 n105)
          refine wl_loadb1 B133 ty22 rfl (v51) rfl ?_
          refine wl_loadb B112 ty38 ((ho123 11 rfl).trans ((ho116 11 rfl).trans rfl)) [.int .i64 t85.1.Kind, v93, v95] rfl rfl ?_
          have hb134 : ∀ w : World, (Instr.buildSlice 22 1 #[(0, .agg #[.int .i64 t85.1.Kind, v93, v95])]).run Tryd.prog w = .ok (.slice (some ⟨w.heap.size, 0, none⟩) 1 1) (w.alloc (.cells (List.toArray [.int .i64 t85.1.Kind, v93, v95]) 38)) := fun _ => by kernel_rfl
          have f135 := f113.ext (s111.ext)
          have f136 := f114.ext (s111.ext)
          refine wl_lit (KD := KApiDeed) fr115.wf [.int .i64 t85.1.Kind, v93, v95] [t85.1] (pc rfl (pn _ _)) (hb134 _) rfl (by decide) ⟨[.int .i64 t85.1.Kind, v93, v95], _, rfl, ⟨v93, v95, rfl, f135, f136⟩, rfl⟩ ?_
          intro v137 w138 hw139 O141 s140
          have B142 := ((B104.step0 s100).stepb s111 n103)
          have n143 := own_new_lt O141 B142.lt
          have n144 := own_new_lt O141 B133.lt
          have n145 := own_new_lt O141 B112.lt
          have O147 := ((O108.step0 s100).step s111 (.inr n107))
          have n146 := own_dis_new O141 O147
          replace O141 := O141.low fr115.g.size
          have fr148 := fr115.then0 s140
          by_cases c149 : (l52.length + ([t85.1]).length) * 56 ≤ 140737488355328
          · replace h := (if_pos c149).symm.trans h
            have c150 : l52.length + ([t85.1]).length ≤ 9223372036854775807 := by omega
            have O151 := (O147.step0 s140)
            have B158 := (B142.step0 s140)
            have B159 := (B133.step0 s140)
            have B160 := (B112.step0 s140)
            refine wl_app Tryd.underlying22 ty38 rfl (by decide) fr148.wf O151 O141.row rfl rfl c150 c149 fr148.g.size ?_
            intro v152 w153 hw154 O156 s155 lo157
            have n161 := app_dis lo157 n146.symm O141
            have fr162 := fr148.then s155 (fun _ e => (O151.new _ e).1)
            have n163 := app_lt lo157 n69 B158.lt
            have n164 := app_lt lo157 n70 B159.lt
            have n165 := app_lt lo157 n107 B160.lt
            refine wl_field fld24_2 ((ho123 8 rfl).trans ((ho116 8 rfl).trans z64)) ?_
            have B166 := (B159.step s155 (fun e => n70 e.symm))
            refine wl_store B166 fr162.wf ty22 rfl [v152] (cells_of (v := v152) rfl (row_cells O156.row)) rfl (Nat.le_of_ble_eq_true rfl) (one_all [v152] (by simp only [List.all_cons, List.all_nil, Bool.and_true, Bool.true_and, row_one O156.row] <;> rfl)) [.int .i64 t14.1.Quota, .int .i64 t14.1.Sectors, v152] rfl ?_
            intro w167 s168 B169
            have fr170 := fr162.then s168 (fun _ e => (Option.some.inj e ▸ B166.new))
            refine wl_nil ?_
            refine bn ?_
            refine qn ?_
            refine wc_region ?_
            refine wl_move (.int .i64 x50) ((ho123 10 rfl).trans ((ho116 10 rfl).trans z65)) ?_
            refine wl_add rfl rfl ?_
            refine wl_assign (.int .i64 (IntKind.i64.wrap (x50 + 1))) rfl ?_
            refine wl_nil ?_
            refine qn ?_
            have B171 := ((B158.step s155 (fun e => n69 e.symm)).stepb s168 n30)
            have O172 := (O156.step s168 (.inr n164))
            exact ⟨_, _, _, t78.2.1, (IntKind.i64.wrap (x50 + 1)), v152, (l52 ++ ([t85.1])), rfl, (by omega), (by omega), fr170, (Ext.trans e59 (Ext.trans s83.ext (Ext.trans s90.ext (Ext.trans s100.ext (Ext.trans s111.ext (Ext.trans s140.ext (Ext.trans s155.ext s168.ext))))))), ((ho123 2 rfl).trans ((ho116 2 rfl).trans z62)), ((ho123 6 rfl).trans ((ho116 6 rfl).trans rfl)), ((ho123 8 rfl).trans ((ho116 8 rfl).trans z64)), rfl, B171, B169, O172, n163, n164, h⟩
          · replace h := (if_neg c149).symm.trans h
            cases h
/-! ### consignor/consignorlaw20.alive: function 8 -/
def consignorlaw20_alive.f (k : Nat) : Option Bool := (script_Print.f k (⟨9, 8, []⟩ : ApiPlan)).bind fun t2 => ((script_Parse.f k t2.1).bind fun t9 => (if ((((t2.2 == 0) && (t9.2.1 == 0)) && (t2.1 == ([119, 111, 114, 108, 100, 32, 57, 32, 56, 10] : List UInt8))) && (t9.1.Sectors == 8)) = true then ((script_Right.f k t9.1).bind fun t37 => (some t37)) else (some false)))
set_option maxHeartbeats 1000000 in
theorem consignorlaw20_alive.ok (k : Nat) {w0 : World} {hw0 : Hw} (wf : Hwf w0 hw0) (gl : Gl w0 hw0) (r : Bool) (h : consignorlaw20_alive.f k = some r) :
    Calls Tryd.prog 8 #[] w0 fun e w' => ∃ (hw' : Hw), e = .returned (.bool r) ∧ Stp none w0 hw0 w' hw' := by
  have fr0 := Stp.refl none (w := w0) (hw := hw0) wf
  unfold consignorlaw20_alive.f at h
  refine enter (n := 36) Tryd.func8 rfl rfl (Nat.le_of_ble_eq_true rfl) ?_
  refine wc_seq ?_
  refine wc_region ?_
  refine wl_assign (.bool false) rfl ?_
  refine wl_nil ?_
  refine qn ?_
  refine wc_seq ?_
  refine wc_region ?_
  have hb1 : ∀ w, (Instr.build 24 #[(0, .int .i64 9), (1, .int .i64 8)]).run Tryd.prog w = .ok (.agg (List.toArray [.int .i64 9, .int .i64 8, .slice none 0 0])) w := by intro  _; kernel_rfl
  refine wl_build [.int .i64 9, .int .i64 8, .slice none 0 0] (pc rfl (pc rfl (pn _ _))) (hb1 _) ?_
  obtain ⟨t2, h3, h⟩ := Option.bind_eq_some_iff.1 h
  refine wl_call [.agg #[.int .i64 9, .int .i64 8, .slice none 0 0]] bod5 (mc rfl (mn _)) (script_Print.ok k fr0.wf (⟨9, 8, []⟩ : ApiPlan) (.slice none 0 0) (Row.nil _ _ _) _ h3) ?_
  rintro e4 w5 ⟨hw6, rfl, s7⟩
  refine ⟨_, rfl, ?_⟩
  have fr8 := fr0.then0 s7
  refine wl_move (.tuple #[.string (bs t2.1), .int .i64 t2.2]) rfl ?_
  refine wl_extract (vs := [.string (bs t2.1), .int .i64 t2.2]) (.string (bs t2.1)) rfl rfl ?_
  refine wl_extract (vs := [.string (bs t2.1), .int .i64 t2.2]) (.int .i64 t2.2) rfl rfl ?_
  refine wl_assign (.string (bs t2.1)) rfl ?_
  refine wl_assign (.int .i64 t2.2) rfl ?_
  refine wl_nil ?_
  refine qn ?_
  refine wc_seq ?_
  refine wc_region ?_
  refine wl_move (.string (bs t2.1)) rfl ?_
  obtain ⟨t9, h10, h⟩ := Option.bind_eq_some_iff.1 h
  refine wl_call [.string (bs t2.1)] bod6 (mc rfl (mn _)) (script_Parse.ok k fr8.wf t2.1 (Gl.of gl fr8) _ h10) ?_
  rintro e11 w12 ⟨v15, hw13, rfl, s14, f16⟩
  refine ⟨_, rfl, ?_⟩
  have fr17 := fr8.then0 s14
  refine wl_move (.tuple #[.agg #[.int .i64 t9.1.Quota, .int .i64 t9.1.Sectors, v15], .int .i64 t9.2.1, .int .i64 t9.2.2]) rfl ?_
  refine wl_extract (vs := [.agg #[.int .i64 t9.1.Quota, .int .i64 t9.1.Sectors, v15], .int .i64 t9.2.1, .int .i64 t9.2.2]) (.agg #[.int .i64 t9.1.Quota, .int .i64 t9.1.Sectors, v15]) rfl rfl ?_
  refine wl_extract (vs := [.agg #[.int .i64 t9.1.Quota, .int .i64 t9.1.Sectors, v15], .int .i64 t9.2.1, .int .i64 t9.2.2]) (.int .i64 t9.2.1) rfl rfl ?_
  refine wl_extract (vs := [.agg #[.int .i64 t9.1.Quota, .int .i64 t9.1.Sectors, v15], .int .i64 t9.2.1, .int .i64 t9.2.2]) (.int .i64 t9.2.2) rfl rfl ?_
  refine wl_alloc fr17.wf fr17.g.size ty24 [.int .i64 0, .int .i64 0, .slice none 0 0] rfl ?_
  intro b18 w19 s20 B21 g22
  have fr23 := fr17.then0 s20
  have f27 := f16.ext (s20.ext)
  refine wl_store B21 fr23.wf ty24 rfl [.int .i64 t9.1.Quota, .int .i64 t9.1.Sectors, v15] (cells_of (v := (.agg #[.int .i64 t9.1.Quota, .int .i64 t9.1.Sectors, v15])) rfl rfl) rfl (Nat.le_of_ble_eq_true rfl) (one_all [.int .i64 t9.1.Quota, .int .i64 t9.1.Sectors, v15] (by simp only [List.all_cons, List.all_nil, Bool.and_true, Bool.true_and, row_one f27] <;> rfl)) [.int .i64 t9.1.Quota, .int .i64 t9.1.Sectors, v15] rfl ?_
  intro w24 s25 B26
  have fr28 := fr23.then s25 (fun _ e => (Option.some.inj e ▸ B21.new))
  refine wl_assign (.int .i64 t9.2.1) rfl ?_
  refine wl_assign (.int .i64 t9.2.2) rfl ?_
  refine wl_nil ?_
  refine qn ?_
  refine wc_seq ?_
  refine wc_region ?_
  refine wl_move (.int .i64 t2.2) rfl ?_
  refine wl_eql rfl rfl ?_
  refine wl_move (.bool (t2.2 == 0)) rfl ?_
  refine wl_join 3 [20, 21, 22] 22 (.bool ((t2.2 == 0) && (t9.2.1 == 0))) ?_ ?_
  · rcases Bool.eq_false_or_eq_true (t2.2 == 0) with hcc | hcc
    · skip
      refine wl_on (yl rfl rfl rfl) hcc ?_
      refine wl_move (.int .i64 t9.2.1) rfl ?_
      refine wl_on (yl rfl rfl rfl) hcc ?_
      refine wl_eql rfl rfl ?_
      refine wl_pick_t (t2.2 == 0) (.bool (t9.2.1 == 0)) rfl hcc rfl ?_
      refine wl_nil ?_
      exact qn ⟨rfl, _, rfl, (by repeat (first | exact Same.refl _ _ | refine Same.upd ?_ rfl)), (by rw [hcc]; rfl)⟩
    · skip
      refine wl_off (yl rfl rfl rfl) hcc ?_
      refine wl_off (yl rfl rfl rfl) hcc ?_
      refine wl_pick_f (t2.2 == 0) (.bool false) rfl hcc rfl ?_
      refine wl_nil ?_
      exact qn ⟨rfl, _, rfl, (by repeat (first | exact Same.refl _ _ | refine Same.upd ?_ rfl)), (by rw [hcc]; rfl)⟩
  intro _ ho29 hv30
  refine wl_move (.bool ((t2.2 == 0) && (t9.2.1 == 0))) hv30 ?_
  refine wl_join 3 [24, 25, 26] 26 (.bool (((t2.2 == 0) && (t9.2.1 == 0)) && (t2.1 == ([119, 111, 114, 108, 100, 32, 57, 32, 56, 10] : List UInt8)))) ?_ ?_
  · rcases Bool.eq_false_or_eq_true ((t2.2 == 0) && (t9.2.1 == 0)) with hcc | hcc
    · skip
      refine wl_on (yl rfl rfl rfl) hcc ?_
      refine wl_move (.string (bs t2.1)) ((ho29 1 rfl).trans rfl) ?_
      refine wl_on (yl rfl rfl rfl) hcc ?_
      refine wl_eqls rfl rfl ?_
      refine wl_pick_t ((t2.2 == 0) && (t9.2.1 == 0)) (.bool (t2.1 == ([119, 111, 114, 108, 100, 32, 57, 32, 56, 10] : List UInt8))) rfl hcc rfl ?_
      refine wl_nil ?_
      exact qn ⟨rfl, _, rfl, (by repeat (first | exact Same.refl _ _ | refine Same.upd ?_ rfl)), (by rw [hcc]; rfl)⟩
    · skip
      refine wl_off (yl rfl rfl rfl) hcc ?_
      refine wl_off (yl rfl rfl rfl) hcc ?_
      refine wl_pick_f ((t2.2 == 0) && (t9.2.1 == 0)) (.bool false) rfl hcc rfl ?_
      refine wl_nil ?_
      exact qn ⟨rfl, _, rfl, (by repeat (first | exact Same.refl _ _ | refine Same.upd ?_ rfl)), (by rw [hcc]; rfl)⟩
  intro _ ho31 hv32
  refine wl_move (.bool (((t2.2 == 0) && (t9.2.1 == 0)) && (t2.1 == ([119, 111, 114, 108, 100, 32, 57, 32, 56, 10] : List UInt8)))) hv32 ?_
  refine wl_join 4 [28, 29, 30, 31] 31 (.bool ((((t2.2 == 0) && (t9.2.1 == 0)) && (t2.1 == ([119, 111, 114, 108, 100, 32, 57, 32, 56, 10] : List UInt8))) && (t9.1.Sectors == 8))) ?_ ?_
  · rcases Bool.eq_false_or_eq_true (((t2.2 == 0) && (t9.2.1 == 0)) && (t2.1 == ([119, 111, 114, 108, 100, 32, 57, 32, 56, 10] : List UInt8))) with hcc | hcc
    · skip
      refine wl_on (yl rfl rfl rfl) hcc ?_
      refine wl_field fld24_1 ((ho31 3 rfl).trans ((ho29 3 rfl).trans rfl)) ?_
      refine wl_on (yl rfl rfl rfl) hcc ?_
      refine wl_loadb1 B26 ty3 rfl (.int .i64 t9.1.Sectors) rfl ?_
      refine wl_on (yl rfl rfl rfl) hcc ?_
      refine wl_eql rfl rfl ?_
      refine wl_pick_t (((t2.2 == 0) && (t9.2.1 == 0)) && (t2.1 == ([119, 111, 114, 108, 100, 32, 57, 32, 56, 10] : List UInt8))) (.bool (t9.1.Sectors == 8)) rfl hcc rfl ?_
      refine wl_nil ?_
      exact qn ⟨rfl, _, rfl, (by repeat (first | exact Same.refl _ _ | refine Same.upd ?_ rfl)), (by rw [hcc]; rfl)⟩
    · skip
      refine wl_off (yl rfl rfl rfl) hcc ?_
      refine wl_off (yl rfl rfl rfl) hcc ?_
      refine wl_off (yl rfl rfl rfl) hcc ?_
      refine wl_pick_f (((t2.2 == 0) && (t9.2.1 == 0)) && (t2.1 == ([119, 111, 114, 108, 100, 32, 57, 32, 56, 10] : List UInt8))) (.bool false) rfl hcc rfl ?_
      refine wl_nil ?_
      exact qn ⟨rfl, _, rfl, (by repeat (first | exact Same.refl _ _ | refine Same.upd ?_ rfl)), (by rw [hcc]; rfl)⟩
  intro _ ho33 hv34
  refine wl_move (.bool ((((t2.2 == 0) && (t9.2.1 == 0)) && (t2.1 == ([119, 111, 114, 108, 100, 32, 57, 32, 56, 10] : List UInt8))) && (t9.1.Sectors == 8))) hv34 ?_
  by_cases c35 : ((((t2.2 == 0) && (t9.2.1 == 0)) && (t2.1 == ([119, 111, 114, 108, 100, 32, 57, 32, 56, 10] : List UInt8))) && (t9.1.Sectors == 8)) = true
  · replace h := (if_pos c35).symm.trans h
    refine wl_on (yl rfl rfl rfl) c35 ?_
    refine wl_loadb B26 ty24 ((ho33 3 rfl).trans ((ho31 3 rfl).trans ((ho29 3 rfl).trans rfl))) [.int .i64 t9.1.Quota, .int .i64 t9.1.Sectors, v15] rfl rfl ?_
    refine wl_on (yl rfl rfl rfl) c35 ?_
    have f36 := f27.ext (s25.ext)
    obtain ⟨t37, h38, h⟩ := Option.bind_eq_some_iff.1 h
    refine wl_call [.agg #[.int .i64 t9.1.Quota, .int .i64 t9.1.Sectors, v15]] bod9 (mc rfl (mn _)) (script_Right.ok k fr28.wf t9.1 v15 f36 _ h38) ?_
    rintro e39 w40 ⟨hw41, rfl, s42⟩
    refine ⟨_, rfl, ?_⟩
    have fr43 := fr28.then0 s42
    refine wl_pick_t ((((t2.2 == 0) && (t9.2.1 == 0)) && (t2.1 == ([119, 111, 114, 108, 100, 32, 57, 32, 56, 10] : List UInt8))) && (t9.1.Sectors == 8)) (.bool t37) rfl c35 rfl ?_
    refine wl_assign (.bool t37) rfl ?_
    refine wl_nil ?_
    refine qn ?_
    refine wc_ret ?_
    have h := Option.some.inj h
    subst h
    refine end1 rfl (.tmp rfl .nil) ?_
    exact ⟨_, rfl, fr43⟩
  · replace h := (if_neg c35).symm.trans h
    have b44 : ((((t2.2 == 0) && (t9.2.1 == 0)) && (t2.1 == ([119, 111, 114, 108, 100, 32, 57, 32, 56, 10] : List UInt8))) && (t9.1.Sectors == 8)) = false := Bool.eq_false_iff.2 c35
    refine wl_off (yl rfl rfl rfl) b44 ?_
    refine wl_off (yl rfl rfl rfl) b44 ?_
    refine wl_pick_f ((((t2.2 == 0) && (t9.2.1 == 0)) && (t2.1 == ([119, 111, 114, 108, 100, 32, 57, 32, 56, 10] : List UInt8))) && (t9.1.Sectors == 8)) (.bool false) rfl b44 rfl ?_
    refine wl_assign (.bool false) rfl ?_
    refine wl_nil ?_
    refine qn ?_
    refine wc_ret ?_
    have h := Option.some.inj h
    subst h
    refine end1 rfl (.tmp rfl .nil) ?_
    exact ⟨_, rfl, fr28⟩
end Go.Proofs.YtlaifpbickdpkaaDoor
