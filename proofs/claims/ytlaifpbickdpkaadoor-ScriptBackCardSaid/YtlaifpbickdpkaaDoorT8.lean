/- What the program's functions compute, and that they compute it: one contract a function, written by gw.py (own work). -/
import Derived.Test.YtlaifpbickdpkaaDoorT3
namespace Go.Proofs.YtlaifpbickdpkaaDoor
open Go.RowKit
set_option linter.unusedVariables false
set_option linter.unusedSimpArgs false

theorem bod15 : Bod Tryd.prog 15 := fun _ _ => by kernel_rfl
theorem bod4 : Bod Tryd.prog 4 := fun _ _ => by kernel_rfl
theorem bod7 : Bod Tryd.prog 7 := fun _ _ => by kernel_rfl
theorem bod8 : Bod Tryd.prog 8 := fun _ _ => by kernel_rfl
/-! ### consignor/consignorref01.Same: function 15 -/
def consignorref01_Same.l0 : Nat → (List (List UInt8)) → (List (List UInt8)) → Int → Option Bool
  | 0, _, _, _ => none
  | k + 1, a0, a1, x9 => if x9 < (a0.length : Int) then (if 0 ≤ x9 then ((a0[Int.toNat x9]?).bind fun t27 => (if 0 ≤ x9 then ((a1[Int.toNat x9]?).bind fun t37 => (if (t27 == t37) = true then (consignorref01_Same.l0 k a0 a1 (IntKind.i64.wrap (x9 + 1))) else (some false))) else none)) else none) else (some true)
def consignorref01_Same.f (k : Nat) (a0 : (List (List UInt8))) (a1 : (List (List UInt8))) : Option Bool := if ((a0.length : Int) != (a1.length : Int)) = true then (some false) else (consignorref01_Same.l0 k a0 a1 0)
set_option maxHeartbeats 1000000 in
theorem consignorref01_Same.ok (k : Nat) {w0 : World} {hw0 : Hw} (wf : Hwf w0 hw0) (a0 : (List (List UInt8))) (a1 : (List (List UInt8))) (v0_ : Value) (q0 : Row Kstr w0 hw0 v0_ a0) (v1_ : Value) (q1 : Row Kstr w0 hw0 v1_ a1) (r : Bool) (h : consignorref01_Same.f k a0 a1 = some r) :
    Calls Tryd.prog 15 #[v0_, v1_] w0 fun e w' => ∃ (hw' : Hw), e = .returned (.bool r) ∧ Stp none w0 hw0 w' hw' := by
  have fr0 := Stp.refl none (w := w0) (hw := hw0) wf
  unfold consignorref01_Same.f at h
  refine enter (n := 26) Tryd.func15 rfl rfl (Nat.le_of_ble_eq_true rfl) ?_
  refine wc_seq ?_
  refine wc_region ?_
  refine wl_assign (.bool false) rfl ?_
  refine wl_nil ?_
  refine qn ?_
  refine wc_seq ?_
  refine wc_seq ?_
  refine wc_region ?_
  refine wl_move (v0_) rfl ?_
  obtain ⟨A1, c2, hv3⟩ := (q0).slice
  refine wl_len Tryd.underlying36 (show _ = Value.slice _ a0.length _ from (Eq.trans rfl hv3)) ?_
  refine wl_move (v1_) rfl ?_
  obtain ⟨A4, c5, hv6⟩ := (q1).slice
  refine wl_len Tryd.underlying36 (show _ = Value.slice _ a1.length _ from (Eq.trans rfl hv6)) ?_
  refine wl_neq rfl rfl ?_
  refine wl_nil ?_
  refine qn ?_
  by_cases c7 : ((a0.length : Int) != (a1.length : Int)) = true
  · replace h := (if_pos c7).symm.trans h
    refine wc_then rfl c7 ?_
    refine wc_seq ?_
    refine wc_region ?_
    refine wl_assign (.bool false) rfl ?_
    refine wl_nil ?_
    refine qn ?_
    refine wc_ret ?_
    refine qr ?_
    have h := Option.some.inj h
    subst h
    refine end1 rfl (.tmp rfl .nil) ?_
    exact ⟨_, rfl, fr0⟩
  · replace h := (if_neg c7).symm.trans h
    have b8 : ((a0.length : Int) != (a1.length : Int)) = false := Bool.eq_false_iff.2 c7
    refine wc_else rfl b8 ?_
    refine wc_skip ?_
    refine qn ?_
    refine wc_seq ?_
    refine wc_seq ?_
    refine wc_region ?_
    refine wl_move (v0_) rfl ?_
    refine wl_len Tryd.underlying36 (show _ = Value.slice _ a0.length _ from (Eq.trans rfl hv3)) ?_
    refine wl_move (.int .i64 0) rfl ?_
    refine wl_nil ?_
    refine qn ?_
    refine wc_block ?_
    refine wc_loop (fun m a w => ∃ (σ : Nat → Value) (hw : Hw) (kq : Nat) (x9 : Int), a = mkA 26 σ ∧ kq ≤ m ∧ kq ≤ k ∧ Stp none w0 hw0 w hw ∧ Ext w0 hw0 w hw ∧ σ 0 = v0_ ∧ σ 1 = v1_ ∧ σ 12 = .int .i64 (a0.length : Int) ∧ σ 13 = .int .i64 x9 ∧ consignorref01_Same.l0 kq a0 a1 x9 = some r) k ?_ ?_ ?_
    · skip
      exact ⟨_, _, _, 0, rfl, (Nat.le_refl _), (Nat.le_refl _), fr0, (Ext.refl _ _), rfl, rfl, rfl, rfl, h⟩
    · rintro _ _ ⟨_, hw11, k12, x9, rfl, hk15, hk16, fr13, e14, z17, z18, z19, z20, h⟩; obtain rfl := Nat.le_zero.1 hk15; rw [consignorref01_Same.l0] at h; cases h
    · rintro m0 _ w10 ⟨_, hw11, k12, x9, rfl, hk15, hk16, fr13, e14, z17, z18, z19, z20, h⟩
      rcases k12 with _ | k12
      · rw [consignorref01_Same.l0] at h; cases h
      rw [consignorref01_Same.l0] at h
      refine wc_seq ?_
      refine wc_region ?_
      refine wl_lss z20 z19 ?_
      refine wl_nil ?_
      refine qn ?_
      refine wc_seq ?_
      by_cases c21 : x9 < (a0.length : Int)
      · replace h := (if_pos c21).symm.trans h
        have b22 : (decide (x9 < (a0.length : Int))) = true := decide_eq_true c21
        refine wc_then rfl b22 ?_
        refine wc_skip ?_
        refine qn ?_
        refine wc_seq ?_
        refine wc_block ?_
        refine wc_seq ?_
        refine wc_region ?_
        refine wl_move (.int .i64 x9) z20 ?_
        refine wl_assign (.int .i64 x9) rfl ?_
        refine wl_nil ?_
        refine qn ?_
        refine wc_seq ?_
        have s23 := Stp.drew (w := w10) (hw := hw11) fr13.wf
        have fr24 := fr13.then0 s23
        by_cases c26 : 0 ≤ x9
        · replace h := (if_pos c26).symm.trans h
          obtain ⟨t27, h28, h⟩ := Option.bind_eq_some_iff.1 h
          by_cases c36 : 0 ≤ x9
          · replace h := (if_pos c36).symm.trans h
            obtain ⟨t37, h38, h⟩ := Option.bind_eq_some_iff.1 h
            refine wc_any (hw := hw11) mixed [[], [], [0, 1], [2], [], [], [4, 5], [6], [3, 7]] [16, 17, 18, 19, 20, 21, 22, 23, 24] (by kernel_rfl) (PhiOf [fun v w hw => v = v0_, fun v w hw => v = .int .i64 x9, fun v w hw => ∃ (B30 : Nat) (o31 : Nat), v = .pointer (some ⟨B30, o31, none⟩) ∧ Live w hw B30 o31 [.string (bs t27)], fun v w hw => v = .string (bs t27), fun v w hw => v = v1_, fun v w hw => v = .int .i64 x9, fun v w hw => ∃ (B40 : Nat) (o41 : Nat), v = .pointer (some ⟨B40, o41, none⟩) ∧ Live w hw B40 o41 [.string (bs t37)], fun v w hw => v = .string (bs t37), fun v w hw => v = .bool (!(t27 == t37))]) (fun D σ w hw => Stp none w0 hw0 w hw ∧ Ext (w10).drew hw11 w hw) (stab_of (sbc (fun _ _ _ _ _ _ h => h) (sbc (fun _ _ _ _ _ _ h => h) (sbc (fun _ _ _ _ _ e ⟨B30, o31, hv, F0⟩ => ⟨B30, o31, hv, F0.ext e⟩) (sbc (fun _ _ _ _ _ _ h => h) (sbc (fun _ _ _ _ _ _ h => h) (sbc (fun _ _ _ _ _ _ h => h) (sbc (fun _ _ _ _ _ e ⟨B40, o41, hv, F0⟩ => ⟨B40, o41, hv, F0.ext e⟩) (sbc (fun _ _ _ _ _ _ h => h) (sbc (fun _ _ _ _ _ _ h => h) sbn)))))))))) ?_ (stc ?_ (stc ?_ (stc ?_ (stc ?_ (stc ?_ (stc ?_ (stc ?_ (stc ?_ (stc ?_ stn))))))))) ?_
            · exact ⟨fr24, Ext.refl _ _⟩
            · intro D46 σ47 w48 hw49 q50 q51 q52 q53 q54 q55
              obtain ⟨fr56, e57⟩ := q50
              refine wl_move (v0_) ((q53 0 rfl).trans z17) ?_
              refine wl_nil ?_
              exact qn ⟨_, _, rfl, (Ext.refl _ _), ⟨fr56, e57.trans (Ext.refl _ _)⟩, (aft_some rfl)⟩
            · intro D58 σ59 w60 hw61 q62 q63 q64 q65 q66 q67
              obtain ⟨fr68, e69⟩ := q62
              refine wl_move (.int .i64 x9) ((q65 5 rfl).trans rfl) ?_
              refine wl_nil ?_
              exact qn ⟨_, _, rfl, (Ext.refl _ _), ⟨fr68, e69.trans (Ext.refl _ _)⟩, (aft_some rfl)⟩
            · intro D70 σ71 w72 hw73 q74 q75 q76 q77 q78 q79
              obtain ⟨fr80, e81⟩ := q74
              obtain ⟨⟨_, m82⟩, ⟨_, m83⟩, _⟩ := q76
              have z84 : (σ71 16) = v0_ := m82
              have z85 : (σ71 17) = .int .i64 x9 := m83
              have c86 := at_lt c26 h28
              have f92 := q0.ext (e14.trans (s23.ext.trans (e81)))
              refine wl_at Tryd.underlying36 ty9 f92 z84 z85 c26 c86 t27 h28 ?_
              rintro B87 o88 cs89 rfl l91
              refine wl_nil ?_
              exact qn ⟨_, _, rfl, (Ext.refl _ _), ⟨fr80, e81.trans (Ext.refl _ _)⟩, (aft_some (show ∃ (B30 : Nat) (o31 : Nat), (.pointer (some ⟨B87, o88, none⟩) : Value) = .pointer (some ⟨B30, o31, none⟩) ∧ Live w72 hw73 B30 o31 [.string (bs t27)] from ⟨B87, o88, rfl, l91⟩))⟩
            · intro D93 σ94 w95 hw96 q97 q98 q99 q100 q101 q102
              obtain ⟨fr103, e104⟩ := q97
              obtain ⟨⟨_, m105⟩, _⟩ := q99
              obtain ⟨B106, o107, z108, f109⟩ : ∃ (B30 : Nat) (o31 : Nat), (σ94 18) = .pointer (some ⟨B30, o31, none⟩) ∧ Live w95 hw96 B30 o31 [.string (bs t27)] := m105
              refine wl_load1 ty9 z108 (.string (bs t27)) (f109.2 0 _ rfl) ?_
              refine wl_nil ?_
              exact qn ⟨_, _, rfl, (Ext.refl _ _), ⟨fr103, e104.trans (Ext.refl _ _)⟩, (aft_some rfl)⟩
            · intro D110 σ111 w112 hw113 q114 q115 q116 q117 q118 q119
              obtain ⟨fr120, e121⟩ := q114
              refine wl_move (v1_) ((q117 1 rfl).trans z18) ?_
              refine wl_nil ?_
              exact qn ⟨_, _, rfl, (Ext.refl _ _), ⟨fr120, e121.trans (Ext.refl _ _)⟩, (aft_some rfl)⟩
            · intro D122 σ123 w124 hw125 q126 q127 q128 q129 q130 q131
              obtain ⟨fr132, e133⟩ := q126
              refine wl_move (.int .i64 x9) ((q129 5 rfl).trans rfl) ?_
              refine wl_nil ?_
              exact qn ⟨_, _, rfl, (Ext.refl _ _), ⟨fr132, e133.trans (Ext.refl _ _)⟩, (aft_some rfl)⟩
            · intro D134 σ135 w136 hw137 q138 q139 q140 q141 q142 q143
              obtain ⟨fr144, e145⟩ := q138
              obtain ⟨⟨_, m146⟩, ⟨_, m147⟩, _⟩ := q140
              have z148 : (σ135 20) = v1_ := m146
              have z149 : (σ135 21) = .int .i64 x9 := m147
              have c150 := at_lt c36 h38
              have f156 := q1.ext (e14.trans (s23.ext.trans (e145)))
              refine wl_at Tryd.underlying36 ty9 f156 z148 z149 c36 c150 t37 h38 ?_
              rintro B151 o152 cs153 rfl l155
              refine wl_nil ?_
              exact qn ⟨_, _, rfl, (Ext.refl _ _), ⟨fr144, e145.trans (Ext.refl _ _)⟩, (aft_some (show ∃ (B40 : Nat) (o41 : Nat), (.pointer (some ⟨B151, o152, none⟩) : Value) = .pointer (some ⟨B40, o41, none⟩) ∧ Live w136 hw137 B40 o41 [.string (bs t37)] from ⟨B151, o152, rfl, l155⟩))⟩
            · intro D157 σ158 w159 hw160 q161 q162 q163 q164 q165 q166
              obtain ⟨fr167, e168⟩ := q161
              obtain ⟨⟨_, m169⟩, _⟩ := q163
              obtain ⟨B170, o171, z172, f173⟩ : ∃ (B40 : Nat) (o41 : Nat), (σ158 22) = .pointer (some ⟨B40, o41, none⟩) ∧ Live w159 hw160 B40 o41 [.string (bs t37)] := m169
              refine wl_load1 ty9 z172 (.string (bs t37)) (f173.2 0 _ rfl) ?_
              refine wl_nil ?_
              exact qn ⟨_, _, rfl, (Ext.refl _ _), ⟨fr167, e168.trans (Ext.refl _ _)⟩, (aft_some rfl)⟩
            · intro D174 σ175 w176 hw177 q178 q179 q180 q181 q182 q183
              obtain ⟨fr184, e185⟩ := q178
              obtain ⟨⟨_, m186⟩, ⟨_, m187⟩, _⟩ := q180
              have z188 : (σ175 19) = .string (bs t27) := m186
              have z189 : (σ175 23) = .string (bs t37) := m187
              refine wl_neqs z188 z189 ?_
              refine wl_nil ?_
              exact qn ⟨_, _, rfl, (Ext.refl _ _), ⟨fr184, e185.trans (Ext.refl _ _)⟩, (aft_some rfl)⟩
            · intro σ190 w191 hw192 q193 q194 q195
              obtain ⟨fr196, e197⟩ := q193
              obtain ⟨m198, m199, m200, m201, m202, m203, m204, m205, m206, _⟩ := q195
              have z207 : (σ190 16) = v0_ := m198
              have z208 : (σ190 20) = v1_ := m202
              have z209 : (σ190 24) = .bool (!(t27 == t37)) := m206
              refine qn ?_
              by_cases c210 : (t27 == t37) = true
              · replace h := (if_pos c210).symm.trans h
                refine wc_else z209 (by rw [c210] <;> rfl) ?_
                refine wc_skip ?_
                refine bn ?_
                refine qn ?_
                refine wc_region ?_
                refine wl_add ((q194 13 rfl).trans z20) rfl ?_
                refine wl_move (.int .i64 (IntKind.i64.wrap (x9 + 1))) rfl ?_
                refine wl_nil ?_
                refine qn ?_
                exact ⟨_, _, _, (IntKind.i64.wrap (x9 + 1)), rfl, (by omega), (by omega), fr196, (Ext.trans e14 (Ext.trans s23.ext e197)), ((q194 0 rfl).trans z17), ((q194 1 rfl).trans z18), ((q194 12 rfl).trans z19), rfl, h⟩
              · replace h := (if_neg c210).symm.trans h
                have b211 : (t27 == t37) = false := Bool.eq_false_iff.2 c210
                refine wc_then z209 (by rw [b211] <;> rfl) ?_
                refine wc_seq ?_
                refine wc_region ?_
                refine wl_assign (.bool false) rfl ?_
                refine wl_nil ?_
                refine qn ?_
                refine wc_ret ?_
                refine bret ?_
                refine qr ?_
                refine qr ?_
                refine bret ?_
                refine qr ?_
                have h := Option.some.inj h
                subst h
                refine end1 rfl (.tmp rfl .nil) ?_
                exact ⟨_, rfl, fr196⟩
          · replace h := (if_neg c36).symm.trans h
            cases h
        · replace h := (if_neg c26).symm.trans h
          cases h
      · replace h := (if_neg c21).symm.trans h
        have b212 : (decide (x9 < (a0.length : Int))) = false := decide_eq_false c21
        refine wc_else rfl b212 ?_
        refine wc_exit ?_
        refine qe ?_
        refine qe ?_
        refine be ?_
        refine qn ?_
        refine wc_seq ?_
        refine wc_region ?_
        refine wl_assign (.bool true) rfl ?_
        refine wl_nil ?_
        refine qn ?_
        refine wc_ret ?_
        have h := Option.some.inj h
        subst h
        refine end1 rfl (.tmp rfl .nil) ?_
        exact ⟨_, rfl, fr13⟩
/-! ### consignor/consignorref20.Like: function 7 -/
mutual
def consignorref20_Like.l2 : Nat → ApiPlan → Int → Int → Int → (List ApiDeed) → Int → Int → (List ApiDeed) → ApiDeed → ApiDeed → Int → Option Bool
  | 0, _, _, _, _, _, _, _, _, _, _, _ => none
  | k + 1, a0, x33, x34, x35, l37, x38, x39, l41, t61, t89, x173 => if x173 < (t61.Nums.length : Int) then (if 0 ≤ x173 then ((t61.Nums[Int.toNat x173]?).bind fun t203 => (if 0 ≤ x173 then ((t89.Nums[Int.toNat x173]?).bind fun t213 => (if (t203 != t213) = true then (some false) else (consignorref20_Like.l2 k a0 x33 x34 x35 l37 x38 x39 l41 t61 t89 (IntKind.i64.wrap (x173 + 1))))) else none)) else none) else (consignorref20_Like.l0 k a0 (IntKind.i64.wrap (x33 + 1)) x34 x35 l37 x38 x39 l41)
def consignorref20_Like.j1 : Nat → ApiPlan → Int → Int → Int → (List ApiDeed) → Int → Int → (List ApiDeed) → ApiDeed → ApiDeed → Bool → Option Bool
  | 0, _, _, _, _, _, _, _, _, _, _, _ => none
  | k + 1, a0, x33, x34, x35, l37, x38, x39, l41, t61, t89, x118 => if x118 = true then (some false) else (consignorref20_Like.l2 k a0 x33 x34 x35 l37 x38 x39 l41 t61 t89 0)
def consignorref20_Like.l0 : Nat → ApiPlan → Int → Int → Int → (List ApiDeed) → Int → Int → (List ApiDeed) → Option Bool
  | 0, _, _, _, _, _, _, _, _ => none
  | k + 1, a0, x33, x34, x35, l37, x38, x39, l41 => if x33 < (a0.Deeds.length : Int) then (if 0 ≤ x33 then ((l37[Int.toNat x33]?).bind fun t61 => (if 0 ≤ x33 then ((l41[Int.toNat x33]?).bind fun t89 => (if ((t61.Kind != t89.Kind) || ((t61.Nums.length : Int) != (t89.Nums.length : Int))) = true then (consignorref20_Like.j1 k a0 x33 x34 x35 l37 x38 x39 l41 t61 t89 true) else ((consignorref01_Same.f k t61.Texts t89.Texts).bind fun t136 => (consignorref20_Like.j1 k a0 x33 x34 x35 l37 x38 x39 l41 t61 t89 (!t136))))) else none)) else none) else (some true)
end
def consignorref20_Like.f (k : Nat) (a0 : ApiPlan) (a1 : ApiPlan) : Option Bool := if (((a0.Quota != a1.Quota) || (a0.Sectors != a1.Sectors)) || ((a0.Deeds.length : Int) != (a1.Deeds.length : Int))) = true then (some false) else (consignorref20_Like.l0 k a0 0 a0.Quota a0.Sectors a0.Deeds a1.Quota a1.Sectors a1.Deeds)
set_option maxHeartbeats 1000000 in
theorem consignorref20_Like.ok (k : Nat) {w0 : World} {hw0 : Hw} (wf : Hwf w0 hw0) (a0 : ApiPlan) (a1 : ApiPlan) (v0_2 : Value) (q0_2 : Row KApiDeed w0 hw0 v0_2 a0.Deeds) (v1_2 : Value) (q1_2 : Row KApiDeed w0 hw0 v1_2 a1.Deeds) (r : Bool) (h : consignorref20_Like.f k a0 a1 = some r) :
    Calls Tryd.prog 7 #[.agg #[.int .i64 a0.Quota, .int .i64 a0.Sectors, v0_2], .agg #[.int .i64 a1.Quota, .int .i64 a1.Sectors, v1_2]] w0 fun e w' => ∃ (hw' : Hw), e = .returned (.bool r) ∧ Stp none w0 hw0 w' hw' := by
  have fr0 := Stp.refl none (w := w0) (hw := hw0) wf
  unfold consignorref20_Like.f at h
  refine enter (n := 87) Tryd.func7 rfl rfl (Nat.le_of_ble_eq_true rfl) ?_
  refine wc_seq ?_
  refine wc_region ?_
  refine wl_box fr0.wf fr0.g.size [.int .i64 a0.Quota, .int .i64 a0.Sectors, v0_2] (cells_of (v := (.agg #[.int .i64 a0.Quota, .int .i64 a0.Sectors, v0_2])) rfl rfl) ?_
  intro b1 w2 s3 B4 g5
  have fr6 := fr0.then0 s3
  refine wl_box fr6.wf fr6.g.size [.int .i64 a1.Quota, .int .i64 a1.Sectors, v1_2] (cells_of (v := (.agg #[.int .i64 a1.Quota, .int .i64 a1.Sectors, v1_2])) rfl rfl) ?_
  intro b7 w8 s9 B10 g11
  have n12 : b1 ≠ b7 := B4.ne g11
  have fr13 := fr6.then0 s9
  refine wl_assign (.bool false) rfl ?_
  refine wl_nil ?_
  refine qn ?_
  refine wc_seq ?_
  refine wc_seq ?_
  refine wc_region ?_
  refine wl_field fld24_0 rfl ?_
  have B14 := (B4.step0 s9)
  refine wl_loadb1 B14 ty3 rfl (.int .i64 a0.Quota) rfl ?_
  refine wl_field fld24_0 rfl ?_
  refine wl_loadb1 B10 ty3 rfl (.int .i64 a1.Quota) rfl ?_
  refine wl_neq rfl rfl ?_
  refine wl_move (.bool (a0.Quota != a1.Quota)) rfl ?_
  refine wl_join 6 [15, 16, 17, 18, 19, 20] 20 (.bool ((a0.Quota != a1.Quota) || (a0.Sectors != a1.Sectors))) ?_ ?_
  · rcases Bool.eq_false_or_eq_true (a0.Quota != a1.Quota) with hcc | hcc
    · skip
      refine wl_off (yl rfl rfl rfl) hcc ?_
      refine wl_off (yl rfl rfl rfl) hcc ?_
      refine wl_off (yl rfl rfl rfl) hcc ?_
      refine wl_off (yl rfl rfl rfl) hcc ?_
      refine wl_off (yl rfl rfl rfl) hcc ?_
      refine wl_pick_t (a0.Quota != a1.Quota) (.bool true) rfl hcc rfl ?_
      refine wl_nil ?_
      exact qn ⟨rfl, _, rfl, (by repeat (first | exact Same.refl _ _ | refine Same.upd ?_ rfl)), (by rw [hcc]; rfl)⟩
    · skip
      refine wl_on (yl rfl rfl rfl) hcc ?_
      refine wl_field fld24_1 rfl ?_
      refine wl_on (yl rfl rfl rfl) hcc ?_
      refine wl_loadb1 B14 ty3 rfl (.int .i64 a0.Sectors) rfl ?_
      refine wl_on (yl rfl rfl rfl) hcc ?_
      refine wl_field fld24_1 rfl ?_
      refine wl_on (yl rfl rfl rfl) hcc ?_
      refine wl_loadb1 B10 ty3 rfl (.int .i64 a1.Sectors) rfl ?_
      refine wl_on (yl rfl rfl rfl) hcc ?_
      refine wl_neq rfl rfl ?_
      refine wl_pick_f (a0.Quota != a1.Quota) (.bool (a0.Sectors != a1.Sectors)) rfl hcc rfl ?_
      refine wl_nil ?_
      exact qn ⟨rfl, _, rfl, (by repeat (first | exact Same.refl _ _ | refine Same.upd ?_ rfl)), (by rw [hcc]; rfl)⟩
  intro _ ho15 hv16
  refine wl_move (.bool ((a0.Quota != a1.Quota) || (a0.Sectors != a1.Sectors))) hv16 ?_
  refine wl_join 8 [22, 23, 24, 25, 26, 27, 28, 29] 29 (.bool (((a0.Quota != a1.Quota) || (a0.Sectors != a1.Sectors)) || ((a0.Deeds.length : Int) != (a1.Deeds.length : Int)))) ?_ ?_
  · rcases Bool.eq_false_or_eq_true ((a0.Quota != a1.Quota) || (a0.Sectors != a1.Sectors)) with hcc | hcc
    · skip
      refine wl_off (yl rfl rfl rfl) hcc ?_
      refine wl_off (yl rfl rfl rfl) hcc ?_
      refine wl_off (yl rfl rfl rfl) hcc ?_
      refine wl_off (yl rfl rfl rfl) hcc ?_
      refine wl_off (yl rfl rfl rfl) hcc ?_
      refine wl_off (yl rfl rfl rfl) hcc ?_
      refine wl_off (yl rfl rfl rfl) hcc ?_
      refine wl_pick_t ((a0.Quota != a1.Quota) || (a0.Sectors != a1.Sectors)) (.bool true) rfl hcc rfl ?_
      refine wl_nil ?_
      exact qn ⟨rfl, _, rfl, (by repeat (first | exact Same.refl _ _ | refine Same.upd ?_ rfl)), (by rw [hcc]; rfl)⟩
    · skip
      refine wl_on (yl rfl rfl rfl) hcc ?_
      refine wl_field fld24_2 ((ho15 2 rfl).trans rfl) ?_
      refine wl_on (yl rfl rfl rfl) hcc ?_
      refine wl_loadb1 B14 ty22 rfl (v0_2) rfl ?_
      refine wl_on (yl rfl rfl rfl) hcc ?_
      have f20 := q0_2.ext (s3.ext.trans (s9.ext))
      obtain ⟨A17, c18, hv19⟩ := (f20).slice
      refine wl_len Tryd.underlying22 (show _ = Value.slice _ a0.Deeds.length _ from (Eq.trans rfl hv19)) ?_
      refine wl_on (yl rfl rfl rfl) hcc ?_
      refine wl_field fld24_2 ((ho15 3 rfl).trans rfl) ?_
      refine wl_on (yl rfl rfl rfl) hcc ?_
      refine wl_loadb1 B10 ty22 rfl (v1_2) rfl ?_
      refine wl_on (yl rfl rfl rfl) hcc ?_
      have f24 := q1_2.ext (s3.ext.trans (s9.ext))
      obtain ⟨A21, c22, hv23⟩ := (f24).slice
      refine wl_len Tryd.underlying22 (show _ = Value.slice _ a1.Deeds.length _ from (Eq.trans rfl hv23)) ?_
      refine wl_on (yl rfl rfl rfl) hcc ?_
      refine wl_neq rfl rfl ?_
      refine wl_pick_f ((a0.Quota != a1.Quota) || (a0.Sectors != a1.Sectors)) (.bool ((a0.Deeds.length : Int) != (a1.Deeds.length : Int))) rfl hcc rfl ?_
      refine wl_nil ?_
      exact qn ⟨rfl, _, rfl, (by repeat (first | exact Same.refl _ _ | refine Same.upd ?_ rfl)), (by rw [hcc]; rfl)⟩
  intro _ ho25 hv26
  refine wl_nil ?_
  refine qn ?_
  by_cases c27 : (((a0.Quota != a1.Quota) || (a0.Sectors != a1.Sectors)) || ((a0.Deeds.length : Int) != (a1.Deeds.length : Int))) = true
  · replace h := (if_pos c27).symm.trans h
    refine wc_then hv26 c27 ?_
    refine wc_seq ?_
    refine wc_region ?_
    refine wl_assign (.bool false) rfl ?_
    refine wl_nil ?_
    refine qn ?_
    refine wc_ret ?_
    refine qr ?_
    have h := Option.some.inj h
    subst h
    refine end1 rfl (.tmp rfl .nil) ?_
    exact ⟨_, rfl, fr13⟩
  · replace h := (if_neg c27).symm.trans h
    have b28 : (((a0.Quota != a1.Quota) || (a0.Sectors != a1.Sectors)) || ((a0.Deeds.length : Int) != (a1.Deeds.length : Int))) = false := Bool.eq_false_iff.2 c27
    refine wc_else hv26 b28 ?_
    refine wc_skip ?_
    refine qn ?_
    refine wc_seq ?_
    refine wc_seq ?_
    refine wc_region ?_
    refine wl_field fld24_2 ((ho25 2 rfl).trans ((ho15 2 rfl).trans rfl)) ?_
    refine wl_loadb1 B14 ty22 rfl (v0_2) rfl ?_
    have f32 := q0_2.ext (s3.ext.trans (s9.ext))
    obtain ⟨A29, c30, hv31⟩ := (f32).slice
    refine wl_len Tryd.underlying22 (show _ = Value.slice _ a0.Deeds.length _ from (Eq.trans rfl hv31)) ?_
    refine wl_move (.int .i64 0) rfl ?_
    refine wl_nil ?_
    refine qn ?_
    refine wc_block ?_
    refine wc_loop (fun m a w => ∃ (σ : Nat → Value) (hw : Hw) (kq : Nat) (x33 : Int) (x34 : Int) (x35 : Int) (v36 : Value) (l37 : (List ApiDeed)) (x38 : Int) (x39 : Int) (v40 : Value) (l41 : (List ApiDeed)), a = mkA 87 σ ∧ kq ≤ m ∧ kq ≤ k ∧ Stp none w0 hw0 w hw ∧ Ext w8 hw0 w hw ∧ σ 2 = .pointer (some ⟨b1, 0, none⟩) ∧ σ 3 = .pointer (some ⟨b7, 0, none⟩) ∧ σ 32 = .int .i64 (a0.Deeds.length : Int) ∧ σ 33 = .int .i64 x33 ∧ Box w0.heap.size w hw b1 24 [.int .i64 x34, .int .i64 x35, v36] ∧ Box w0.heap.size w hw b7 24 [.int .i64 x38, .int .i64 x39, v40] ∧ Row KApiDeed w hw v36 l37 ∧ Row KApiDeed w hw v40 l41 ∧ consignorref20_Like.l0 kq a0 x33 x34 x35 l37 x38 x39 l41 = some r) k ?_ ?_ ?_
    · skip
      have f42 := q1_2.ext (s3.ext.trans (s9.ext))
      exact ⟨_, _, _, 0, a0.Quota, a0.Sectors, v0_2, a0.Deeds, a1.Quota, a1.Sectors, v1_2, a1.Deeds, rfl, (Nat.le_refl _), (Nat.le_refl _), fr13, (Ext.refl _ _), ((ho25 2 rfl).trans ((ho15 2 rfl).trans rfl)), ((ho25 3 rfl).trans ((ho15 3 rfl).trans rfl)), rfl, rfl, B14, B10, f32, f42, h⟩
    · rintro _ _ ⟨_, hw44, k45, x33, x34, x35, v36, l37, x38, x39, v40, l41, rfl, hk48, hk49, fr46, e47, z50, z51, z52, z53, B54, B55, r56, r57, h⟩; obtain rfl := Nat.le_zero.1 hk48; rw [consignorref20_Like.l0] at h; cases h
    · rintro m0 _ w43 ⟨_, hw44, k45, x33, x34, x35, v36, l37, x38, x39, v40, l41, rfl, hk48, hk49, fr46, e47, z50, z51, z52, z53, B54, B55, r56, r57, h⟩
      rcases k45 with _ | k45
      · rw [consignorref20_Like.l0] at h; cases h
      rw [consignorref20_Like.l0] at h
      refine wc_seq ?_
      refine wc_region ?_
      refine wl_lss z53 z52 ?_
      refine wl_nil ?_
      refine qn ?_
      refine wc_seq ?_
      by_cases c58 : x33 < (a0.Deeds.length : Int)
      · replace h := (if_pos c58).symm.trans h
        have b59 : (decide (x33 < (a0.Deeds.length : Int))) = true := decide_eq_true c58
        refine wc_then rfl b59 ?_
        refine wc_skip ?_
        refine qn ?_
        refine wc_seq ?_
        refine wc_block ?_
        refine wc_seq ?_
        refine wc_region ?_
        refine wl_move (.int .i64 x33) z53 ?_
        refine wl_assign (.int .i64 x33) rfl ?_
        refine wl_nil ?_
        refine qn ?_
        refine wc_seq ?_
        refine wc_region ?_
        refine wl_field fld24_2 z50 ?_
        refine wl_loadb1 B54 ty22 rfl (v36) rfl ?_
        refine wl_move (.int .i64 x33) rfl ?_
        by_cases c60 : 0 ≤ x33
        · replace h := (if_pos c60).symm.trans h
          obtain ⟨t61, h62, h⟩ := Option.bind_eq_some_iff.1 h
          have c63 := at_lt c60 h62
          refine wl_at Tryd.underlying22 ty38 r56 rfl rfl c60 c63 t61 h62 ?_
          rintro B64 o65 cs66 ⟨v69, v71, rfl, r70, r72⟩ l68
          refine wl_load ty38 rfl [.int .i64 t61.Kind, v69, v71] rfl l68.2 ?_
          refine wl_alloc fr46.wf fr46.g.size ty38 [.int .i64 0, .slice none 0 0, .slice none 0 0] rfl ?_
          intro b73 w74 s75 B76 g77
          have n78 : b1 ≠ b73 := B54.ne g77
          have n79 : b7 ≠ b73 := B55.ne g77
          have fr80 := fr46.then0 s75
          have f84 := r70.ext (s75.ext)
          have f85 := r72.ext (s75.ext)
          refine wl_store B76 fr80.wf ty38 rfl [.int .i64 t61.Kind, v69, v71] (cells_of (v := (.agg #[.int .i64 t61.Kind, v69, v71])) rfl rfl) rfl (Nat.le_of_ble_eq_true rfl) (one_all [.int .i64 t61.Kind, v69, v71] (by simp only [List.all_cons, List.all_nil, Bool.and_true, Bool.true_and, row_one f84, row_one f85] <;> rfl)) [.int .i64 t61.Kind, v69, v71] rfl ?_
          intro w81 s82 B83
          have fr86 := fr80.then s82 (fun _ e => (Option.some.inj e ▸ B76.new))
          refine wl_nil ?_
          refine qn ?_
          refine wc_seq ?_
          refine wc_region ?_
          refine wl_field fld24_2 z51 ?_
          have B87 := ((B55.step0 s75).stepb s82 n79)
          refine wl_loadb1 B87 ty22 rfl (v40) rfl ?_
          refine wl_move (.int .i64 x33) rfl ?_
          by_cases c88 : 0 ≤ x33
          · replace h := (if_pos c88).symm.trans h
            obtain ⟨t89, h90, h⟩ := Option.bind_eq_some_iff.1 h
            have c91 := at_lt c88 h90
            have f97 := r57.ext (s75.ext.trans (s82.ext))
            refine wl_at Tryd.underlying22 ty38 f97 rfl rfl c88 c91 t89 h90 ?_
            rintro B92 o93 cs94 ⟨v98, v100, rfl, r99, r101⟩ l96
            refine wl_load ty38 rfl [.int .i64 t89.Kind, v98, v100] rfl l96.2 ?_
            refine wl_alloc fr86.wf fr86.g.size ty38 [.int .i64 0, .slice none 0 0, .slice none 0 0] rfl ?_
            intro b102 w103 s104 B105 g106
            have B108 := ((B54.step0 s75).stepb s82 n78)
            have n107 : b1 ≠ b102 := B108.ne g106
            have n109 : b7 ≠ b102 := B87.ne g106
            have n110 : b73 ≠ b102 := B83.ne g106
            have fr111 := fr86.then0 s104
            have f115 := r99.ext (s104.ext)
            have f116 := r101.ext (s104.ext)
            refine wl_store B105 fr111.wf ty38 rfl [.int .i64 t89.Kind, v98, v100] (cells_of (v := (.agg #[.int .i64 t89.Kind, v98, v100])) rfl rfl) rfl (Nat.le_of_ble_eq_true rfl) (one_all [.int .i64 t89.Kind, v98, v100] (by simp only [List.all_cons, List.all_nil, Bool.and_true, Bool.true_and, row_one f115, row_one f116] <;> rfl)) [.int .i64 t89.Kind, v98, v100] rfl ?_
            intro w112 s113 B114
            have fr117 := fr111.then s113 (fun _ e => (Option.some.inj e ▸ B105.new))
            refine wl_nil ?_
            refine qn ?_
            refine wc_seq ?_
            refine wc_cut (fun a w => ∃ (σ : Nat → Value) (hw : Hw) (kq : Nat) (x118 : Bool), a = mkA 87 σ ∧ kq ≤ k45 ∧ kq ≤ k45 ∧ Stp none w0 hw0 w hw ∧ Ext w112 hw44 w hw ∧ σ 2 = .pointer (some ⟨b1, 0, none⟩) ∧ σ 3 = .pointer (some ⟨b7, 0, none⟩) ∧ σ 6 = .pointer (some ⟨b73, 0, none⟩) ∧ σ 7 = .pointer (some ⟨b102, 0, none⟩) ∧ σ 32 = .int .i64 (a0.Deeds.length : Int) ∧ σ 33 = .int .i64 x33 ∧ σ 67 = .bool x118 ∧ Box w0.heap.size w hw b1 24 [.int .i64 x34, .int .i64 x35, v36] ∧ Box w0.heap.size w hw b7 24 [.int .i64 x38, .int .i64 x39, v40] ∧ Box w0.heap.size w hw b73 38 [.int .i64 t61.Kind, v69, v71] ∧ Box w0.heap.size w hw b102 38 [.int .i64 t89.Kind, v98, v100] ∧ consignorref20_Like.j1 kq a0 x33 x34 x35 l37 x38 x39 l41 t61 t89 x118 = some r) ?_ ?_
            · skip
              refine wc_region ?_
              refine wl_field fld38_0 rfl ?_
              have B119 := ((B83.step0 s104).stepb s113 n110)
              refine wl_loadb1 B119 ty3 rfl (.int .i64 t61.Kind) rfl ?_
              refine wl_field fld38_0 rfl ?_
              refine wl_loadb1 B114 ty3 rfl (.int .i64 t89.Kind) rfl ?_
              refine wl_neq rfl rfl ?_
              refine wl_move (.bool (t61.Kind != t89.Kind)) rfl ?_
              refine wl_join 8 [52, 53, 54, 55, 56, 57, 58, 59] 59 (.bool ((t61.Kind != t89.Kind) || ((t61.Nums.length : Int) != (t89.Nums.length : Int)))) ?_ ?_
              · rcases Bool.eq_false_or_eq_true (t61.Kind != t89.Kind) with hcc | hcc
                · skip
                  refine wl_off (yl rfl rfl rfl) hcc ?_
                  refine wl_off (yl rfl rfl rfl) hcc ?_
                  refine wl_off (yl rfl rfl rfl) hcc ?_
                  refine wl_off (yl rfl rfl rfl) hcc ?_
                  refine wl_off (yl rfl rfl rfl) hcc ?_
                  refine wl_off (yl rfl rfl rfl) hcc ?_
                  refine wl_off (yl rfl rfl rfl) hcc ?_
                  refine wl_pick_t (t61.Kind != t89.Kind) (.bool true) rfl hcc rfl ?_
                  refine wl_nil ?_
                  exact qn ⟨rfl, _, rfl, (by repeat (first | exact Same.refl _ _ | refine Same.upd ?_ rfl)), (by rw [hcc]; rfl)⟩
                · skip
                  refine wl_on (yl rfl rfl rfl) hcc ?_
                  refine wl_field fld38_1 rfl ?_
                  refine wl_on (yl rfl rfl rfl) hcc ?_
                  refine wl_loadb1 B119 ty35 rfl (v69) rfl ?_
                  refine wl_on (yl rfl rfl rfl) hcc ?_
                  have f123 := f84.ext (s82.ext.trans (s104.ext.trans (s113.ext)))
                  obtain ⟨A120, c121, hv122⟩ := (f123).slice
                  refine wl_len Tryd.underlying35 (show _ = Value.slice _ t61.Nums.length _ from (Eq.trans rfl hv122)) ?_
                  refine wl_on (yl rfl rfl rfl) hcc ?_
                  refine wl_field fld38_1 rfl ?_
                  refine wl_on (yl rfl rfl rfl) hcc ?_
                  refine wl_loadb1 B114 ty35 rfl (v98) rfl ?_
                  refine wl_on (yl rfl rfl rfl) hcc ?_
                  have f127 := f115.ext (s113.ext)
                  obtain ⟨A124, c125, hv126⟩ := (f127).slice
                  refine wl_len Tryd.underlying35 (show _ = Value.slice _ t89.Nums.length _ from (Eq.trans rfl hv126)) ?_
                  refine wl_on (yl rfl rfl rfl) hcc ?_
                  refine wl_neq rfl rfl ?_
                  refine wl_pick_f (t61.Kind != t89.Kind) (.bool ((t61.Nums.length : Int) != (t89.Nums.length : Int))) rfl hcc rfl ?_
                  refine wl_nil ?_
                  exact qn ⟨rfl, _, rfl, (by repeat (first | exact Same.refl _ _ | refine Same.upd ?_ rfl)), (by rw [hcc]; rfl)⟩
              intro _ ho128 hv129
              refine wl_move (.bool ((t61.Kind != t89.Kind) || ((t61.Nums.length : Int) != (t89.Nums.length : Int)))) hv129 ?_
              by_cases c130 : ((t61.Kind != t89.Kind) || ((t61.Nums.length : Int) != (t89.Nums.length : Int))) = true
              · replace h := (if_pos c130).symm.trans h
                refine wl_off (yl rfl rfl rfl) c130 ?_
                refine wl_off (yl rfl rfl rfl) c130 ?_
                refine wl_off (yl rfl rfl rfl) c130 ?_
                refine wl_off (yl rfl rfl rfl) c130 ?_
                refine wl_off (yl rfl rfl rfl) c130 ?_
                refine wl_off (yl rfl rfl rfl) c130 ?_
                refine wl_pick_t ((t61.Kind != t89.Kind) || ((t61.Nums.length : Int) != (t89.Nums.length : Int))) (.bool true) rfl c130 rfl ?_
                refine wl_nil ?_
                refine qn ?_
                have B131 := ((B108.step0 s104).stepb s113 n107)
                have B132 := ((B87.step0 s104).stepb s113 n109)
                exact ⟨_, _, _, true, rfl, (by omega), (by omega), fr117, (Ext.refl _ _), ((ho128 2 rfl).trans z50), ((ho128 3 rfl).trans z51), ((ho128 6 rfl).trans rfl), ((ho128 7 rfl).trans rfl), ((ho128 32 rfl).trans z52), ((ho128 33 rfl).trans z53), rfl, B131, B132, B119, B114, h⟩
              · replace h := (if_neg c130).symm.trans h
                have b133 : ((t61.Kind != t89.Kind) || ((t61.Nums.length : Int) != (t89.Nums.length : Int))) = false := Bool.eq_false_iff.2 c130
                refine wl_on (yl rfl rfl rfl) b133 ?_
                refine wl_field fld38_2 ((ho128 6 rfl).trans rfl) ?_
                refine wl_on (yl rfl rfl rfl) b133 ?_
                refine wl_loadb1 B119 ty36 rfl (v71) rfl ?_
                refine wl_on (yl rfl rfl rfl) b133 ?_
                refine wl_field fld38_2 ((ho128 7 rfl).trans rfl) ?_
                refine wl_on (yl rfl rfl rfl) b133 ?_
                refine wl_loadb1 B114 ty36 rfl (v100) rfl ?_
                refine wl_on (yl rfl rfl rfl) b133 ?_
                have f134 := f85.ext (s82.ext.trans (s104.ext.trans (s113.ext)))
                have f135 := f116.ext (s113.ext)
                obtain ⟨t136, h137, h⟩ := Option.bind_eq_some_iff.1 h
                have B142 := ((B108.step0 s104).stepb s113 n107)
                have B143 := ((B87.step0 s104).stepb s113 n109)
                refine wl_call [v71, v100] bod15 (mc rfl (mc rfl (mn _))) (consignorref01_Same.ok k45 fr117.wf t61.Texts t89.Texts v71 f134 v100 f135 _ h137) ?_
                rintro e138 w139 ⟨hw140, rfl, s141⟩
                refine ⟨_, rfl, ?_⟩
                have fr144 := fr117.then0 s141
                refine wl_on (yl rfl rfl rfl) b133 ?_
                refine wl_not rfl ?_
                refine wl_pick_f ((t61.Kind != t89.Kind) || ((t61.Nums.length : Int) != (t89.Nums.length : Int))) (.bool (!t136)) rfl b133 rfl ?_
                refine wl_nil ?_
                refine qn ?_
                have B145 := (B142.step0 s141)
                have B146 := (B143.step0 s141)
                have B147 := (B119.step0 s141)
                have B148 := (B114.step0 s141)
                exact ⟨_, _, _, (!t136), rfl, (by omega), (by omega), fr144, s141.ext, ((ho128 2 rfl).trans z50), ((ho128 3 rfl).trans z51), ((ho128 6 rfl).trans rfl), ((ho128 7 rfl).trans rfl), ((ho128 32 rfl).trans z52), ((ho128 33 rfl).trans z53), rfl, B145, B146, B147, B148, h⟩
            · rintro _ w149 ⟨_, hw150, k151, x118, rfl, hk154, hk155, fr152, e153, z156, z157, z158, z159, z160, z161, z162, B163, B164, B165, B166, h⟩
              rcases k151 with _ | k151
              · rw [consignorref20_Like.j1] at h; cases h
              rw [consignorref20_Like.j1] at h
              by_cases c167 : x118 = true
              · replace h := (if_pos c167).symm.trans h
                refine wc_then z162 c167 ?_
                refine wc_seq ?_
                refine wc_region ?_
                refine wl_assign (.bool false) rfl ?_
                refine wl_nil ?_
                refine qn ?_
                refine wc_ret ?_
                refine qr ?_
                refine bret ?_
                refine qr ?_
                refine qr ?_
                refine bret ?_
                refine qr ?_
                have h := Option.some.inj h
                subst h
                refine end1 rfl (.tmp rfl .nil) ?_
                exact ⟨_, rfl, fr152⟩
              · replace h := (if_neg c167).symm.trans h
                have b168 : x118 = false := Bool.eq_false_iff.2 c167
                refine wc_else z162 b168 ?_
                refine wc_skip ?_
                refine qn ?_
                refine wc_seq ?_
                refine wc_region ?_
                refine wl_field fld38_1 z158 ?_
                refine wl_loadb1 B165 ty35 rfl (v69) rfl ?_
                have f172 := f84.ext (s82.ext.trans (s104.ext.trans (s113.ext.trans (e153))))
                obtain ⟨A169, c170, hv171⟩ := (f172).slice
                refine wl_len Tryd.underlying35 (show _ = Value.slice _ t61.Nums.length _ from (Eq.trans rfl hv171)) ?_
                refine wl_move (.int .i64 0) rfl ?_
                refine wl_nil ?_
                refine qn ?_
                refine wc_block ?_
                refine wc_loop (fun m a w => ∃ (σ : Nat → Value) (hw : Hw) (kq : Nat) (x173 : Int), a = mkA 87 σ ∧ kq ≤ m ∧ kq ≤ k151 ∧ Stp none w0 hw0 w hw ∧ Ext w149 hw150 w hw ∧ σ 2 = .pointer (some ⟨b1, 0, none⟩) ∧ σ 3 = .pointer (some ⟨b7, 0, none⟩) ∧ σ 6 = .pointer (some ⟨b73, 0, none⟩) ∧ σ 7 = .pointer (some ⟨b102, 0, none⟩) ∧ σ 32 = .int .i64 (a0.Deeds.length : Int) ∧ σ 33 = .int .i64 x33 ∧ σ 70 = .int .i64 (t61.Nums.length : Int) ∧ σ 71 = .int .i64 x173 ∧ Box w0.heap.size w hw b1 24 [.int .i64 x34, .int .i64 x35, v36] ∧ Box w0.heap.size w hw b7 24 [.int .i64 x38, .int .i64 x39, v40] ∧ Box w0.heap.size w hw b73 38 [.int .i64 t61.Kind, v69, v71] ∧ Box w0.heap.size w hw b102 38 [.int .i64 t89.Kind, v98, v100] ∧ consignorref20_Like.l2 kq a0 x33 x34 x35 l37 x38 x39 l41 t61 t89 x173 = some r) k151 ?_ ?_ ?_
                · skip
                  exact ⟨_, _, _, 0, rfl, (Nat.le_refl _), (Nat.le_refl _), fr152, (Ext.refl _ _), z156, z157, z158, z159, z160, z161, rfl, rfl, B163, B164, B165, B166, h⟩
                · rintro _ _ ⟨_, hw175, k176, x173, rfl, hk179, hk180, fr177, e178, z181, z182, z183, z184, z185, z186, z187, z188, B189, B190, B191, B192, h⟩; obtain rfl := Nat.le_zero.1 hk179; rw [consignorref20_Like.l2] at h; cases h
                · rintro m2 _ w174 ⟨_, hw175, k176, x173, rfl, hk179, hk180, fr177, e178, z181, z182, z183, z184, z185, z186, z187, z188, B189, B190, B191, B192, h⟩
                  rcases k176 with _ | k176
                  · rw [consignorref20_Like.l2] at h; cases h
                  rw [consignorref20_Like.l2] at h
                  refine wc_seq ?_
                  refine wc_region ?_
                  refine wl_lss z188 z187 ?_
                  refine wl_nil ?_
                  refine qn ?_
                  refine wc_seq ?_
                  by_cases c193 : x173 < (t61.Nums.length : Int)
                  · replace h := (if_pos c193).symm.trans h
                    have b194 : (decide (x173 < (t61.Nums.length : Int))) = true := decide_eq_true c193
                    refine wc_then rfl b194 ?_
                    refine wc_skip ?_
                    refine qn ?_
                    refine wc_seq ?_
                    refine wc_block ?_
                    refine wc_seq ?_
                    refine wc_region ?_
                    refine wl_move (.int .i64 x173) z188 ?_
                    refine wl_assign (.int .i64 x173) rfl ?_
                    refine wl_nil ?_
                    refine qn ?_
                    refine wc_seq ?_
                    have s195 := Stp.drew (w := w174) (hw := hw175) fr177.wf
                    have fr196 := fr177.then0 s195
                    have B197 := (B189.step0 s195)
                    have B198 := (B190.step0 s195)
                    have B199 := (B191.step0 s195)
                    have B200 := (B192.step0 s195)
                    by_cases c202 : 0 ≤ x173
                    · replace h := (if_pos c202).symm.trans h
                      obtain ⟨t203, h204, h⟩ := Option.bind_eq_some_iff.1 h
                      by_cases c212 : 0 ≤ x173
                      · replace h := (if_pos c212).symm.trans h
                        obtain ⟨t213, h214, h⟩ := Option.bind_eq_some_iff.1 h
                        refine wc_any (hw := hw175) mixed [[], [0], [], [1, 2], [3], [], [5], [], [6, 7], [8], [4, 9]] [74, 75, 76, 77, 78, 79, 80, 81, 82, 83, 84] (by kernel_rfl) (PhiOf [fun v w hw => v = .pointer (some ⟨b73, 1, none⟩), fun v w hw => v = v69, fun v w hw => v = .int .i64 x173, fun v w hw => ∃ (B206 : Nat) (o207 : Nat), v = .pointer (some ⟨B206, o207, none⟩) ∧ Live w hw B206 o207 [.int .i64 t203], fun v w hw => v = .int .i64 t203, fun v w hw => v = .pointer (some ⟨b102, 1, none⟩), fun v w hw => v = v98, fun v w hw => v = .int .i64 x173, fun v w hw => ∃ (B216 : Nat) (o217 : Nat), v = .pointer (some ⟨B216, o217, none⟩) ∧ Live w hw B216 o217 [.int .i64 t213], fun v w hw => v = .int .i64 t213, fun v w hw => v = .bool (t203 != t213)]) (fun D σ w hw => Stp none w0 hw0 w hw ∧ Ext (w174).drew hw175 w hw ∧ Box w0.heap.size w hw b1 24 [.int .i64 x34, .int .i64 x35, v36] ∧ Box w0.heap.size w hw b7 24 [.int .i64 x38, .int .i64 x39, v40] ∧ Box w0.heap.size w hw b73 38 [.int .i64 t61.Kind, v69, v71] ∧ Box w0.heap.size w hw b102 38 [.int .i64 t89.Kind, v98, v100]) (stab_of (sbc (fun _ _ _ _ _ _ h => h) (sbc (fun _ _ _ _ _ _ h => h) (sbc (fun _ _ _ _ _ _ h => h) (sbc (fun _ _ _ _ _ e ⟨B206, o207, hv, F0⟩ => ⟨B206, o207, hv, F0.ext e⟩) (sbc (fun _ _ _ _ _ _ h => h) (sbc (fun _ _ _ _ _ _ h => h) (sbc (fun _ _ _ _ _ _ h => h) (sbc (fun _ _ _ _ _ _ h => h) (sbc (fun _ _ _ _ _ e ⟨B216, o217, hv, F0⟩ => ⟨B216, o217, hv, F0.ext e⟩) (sbc (fun _ _ _ _ _ _ h => h) (sbc (fun _ _ _ _ _ _ h => h) sbn)))))))))))) ?_ (stc ?_ (stc ?_ (stc ?_ (stc ?_ (stc ?_ (stc ?_ (stc ?_ (stc ?_ (stc ?_ (stc ?_ (stc ?_ stn))))))))))) ?_
                        · exact ⟨fr196, Ext.refl _ _, B197, B198, B199, B200⟩
                        · intro D222 σ223 w224 hw225 q226 q227 q228 q229 q230 q231
                          obtain ⟨fr232, e233, C234, C235, C236, C237⟩ := q226
                          refine wl_field fld38_1 ((q229 6 rfl).trans z183) ?_
                          refine wl_nil ?_
                          exact qn ⟨_, _, rfl, (Ext.refl _ _), ⟨fr232, e233.trans (Ext.refl _ _), C234, C235, C236, C237⟩, (aft_some rfl)⟩
                        · intro D238 σ239 w240 hw241 q242 q243 q244 q245 q246 q247
                          obtain ⟨fr248, e249, C250, C251, C252, C253⟩ := q242
                          obtain ⟨⟨_, m254⟩, _⟩ := q244
                          have z255 : (σ239 74) = .pointer (some ⟨b73, 1, none⟩) := m254
                          refine wl_loadb1 C252 ty35 z255 (v69) rfl ?_
                          refine wl_nil ?_
                          exact qn ⟨_, _, rfl, (Ext.refl _ _), ⟨fr248, e249.trans (Ext.refl _ _), C250, C251, C252, C253⟩, (aft_some rfl)⟩
                        · intro D256 σ257 w258 hw259 q260 q261 q262 q263 q264 q265
                          obtain ⟨fr266, e267, C268, C269, C270, C271⟩ := q260
                          refine wl_move (.int .i64 x173) ((q263 8 rfl).trans rfl) ?_
                          refine wl_nil ?_
                          exact qn ⟨_, _, rfl, (Ext.refl _ _), ⟨fr266, e267.trans (Ext.refl _ _), C268, C269, C270, C271⟩, (aft_some rfl)⟩
                        · intro D272 σ273 w274 hw275 q276 q277 q278 q279 q280 q281
                          obtain ⟨fr282, e283, C284, C285, C286, C287⟩ := q276
                          obtain ⟨⟨_, m288⟩, ⟨_, m289⟩, _⟩ := q278
                          have z290 : (σ273 75) = v69 := m288
                          have z291 : (σ273 76) = .int .i64 x173 := m289
                          have c292 := at_lt c202 h204
                          have f298 := f172.ext (e178.trans (s195.ext.trans (e283)))
                          refine wl_at Tryd.underlying35 ty3 f298 z290 z291 c202 c292 t203 h204 ?_
                          rintro B293 o294 cs295 rfl l297
                          refine wl_nil ?_
                          exact qn ⟨_, _, rfl, (Ext.refl _ _), ⟨fr282, e283.trans (Ext.refl _ _), C284, C285, C286, C287⟩, (aft_some (show ∃ (B206 : Nat) (o207 : Nat), (.pointer (some ⟨B293, o294, none⟩) : Value) = .pointer (some ⟨B206, o207, none⟩) ∧ Live w274 hw275 B206 o207 [.int .i64 t203] from ⟨B293, o294, rfl, l297⟩))⟩
                        · intro D299 σ300 w301 hw302 q303 q304 q305 q306 q307 q308
                          obtain ⟨fr309, e310, C311, C312, C313, C314⟩ := q303
                          obtain ⟨⟨_, m315⟩, _⟩ := q305
                          obtain ⟨B316, o317, z318, f319⟩ : ∃ (B206 : Nat) (o207 : Nat), (σ300 77) = .pointer (some ⟨B206, o207, none⟩) ∧ Live w301 hw302 B206 o207 [.int .i64 t203] := m315
                          refine wl_load1 ty3 z318 (.int .i64 t203) (f319.2 0 _ rfl) ?_
                          refine wl_nil ?_
                          exact qn ⟨_, _, rfl, (Ext.refl _ _), ⟨fr309, e310.trans (Ext.refl _ _), C311, C312, C313, C314⟩, (aft_some rfl)⟩
                        · intro D320 σ321 w322 hw323 q324 q325 q326 q327 q328 q329
                          obtain ⟨fr330, e331, C332, C333, C334, C335⟩ := q324
                          refine wl_field fld38_1 ((q327 7 rfl).trans z184) ?_
                          refine wl_nil ?_
                          exact qn ⟨_, _, rfl, (Ext.refl _ _), ⟨fr330, e331.trans (Ext.refl _ _), C332, C333, C334, C335⟩, (aft_some rfl)⟩
                        · intro D336 σ337 w338 hw339 q340 q341 q342 q343 q344 q345
                          obtain ⟨fr346, e347, C348, C349, C350, C351⟩ := q340
                          obtain ⟨⟨_, m352⟩, _⟩ := q342
                          have z353 : (σ337 79) = .pointer (some ⟨b102, 1, none⟩) := m352
                          refine wl_loadb1 C351 ty35 z353 (v98) rfl ?_
                          refine wl_nil ?_
                          exact qn ⟨_, _, rfl, (Ext.refl _ _), ⟨fr346, e347.trans (Ext.refl _ _), C348, C349, C350, C351⟩, (aft_some rfl)⟩
                        · intro D354 σ355 w356 hw357 q358 q359 q360 q361 q362 q363
                          obtain ⟨fr364, e365, C366, C367, C368, C369⟩ := q358
                          refine wl_move (.int .i64 x173) ((q361 8 rfl).trans rfl) ?_
                          refine wl_nil ?_
                          exact qn ⟨_, _, rfl, (Ext.refl _ _), ⟨fr364, e365.trans (Ext.refl _ _), C366, C367, C368, C369⟩, (aft_some rfl)⟩
                        · intro D370 σ371 w372 hw373 q374 q375 q376 q377 q378 q379
                          obtain ⟨fr380, e381, C382, C383, C384, C385⟩ := q374
                          obtain ⟨⟨_, m386⟩, ⟨_, m387⟩, _⟩ := q376
                          have z388 : (σ371 80) = v98 := m386
                          have z389 : (σ371 81) = .int .i64 x173 := m387
                          have c390 := at_lt c212 h214
                          have f396 := f115.ext (s113.ext.trans (e153.trans (e178.trans (s195.ext.trans (e381)))))
                          refine wl_at Tryd.underlying35 ty3 f396 z388 z389 c212 c390 t213 h214 ?_
                          rintro B391 o392 cs393 rfl l395
                          refine wl_nil ?_
                          exact qn ⟨_, _, rfl, (Ext.refl _ _), ⟨fr380, e381.trans (Ext.refl _ _), C382, C383, C384, C385⟩, (aft_some (show ∃ (B216 : Nat) (o217 : Nat), (.pointer (some ⟨B391, o392, none⟩) : Value) = .pointer (some ⟨B216, o217, none⟩) ∧ Live w372 hw373 B216 o217 [.int .i64 t213] from ⟨B391, o392, rfl, l395⟩))⟩
                        · intro D397 σ398 w399 hw400 q401 q402 q403 q404 q405 q406
                          obtain ⟨fr407, e408, C409, C410, C411, C412⟩ := q401
                          obtain ⟨⟨_, m413⟩, _⟩ := q403
                          obtain ⟨B414, o415, z416, f417⟩ : ∃ (B216 : Nat) (o217 : Nat), (σ398 82) = .pointer (some ⟨B216, o217, none⟩) ∧ Live w399 hw400 B216 o217 [.int .i64 t213] := m413
                          refine wl_load1 ty3 z416 (.int .i64 t213) (f417.2 0 _ rfl) ?_
                          refine wl_nil ?_
                          exact qn ⟨_, _, rfl, (Ext.refl _ _), ⟨fr407, e408.trans (Ext.refl _ _), C409, C410, C411, C412⟩, (aft_some rfl)⟩
                        · intro D418 σ419 w420 hw421 q422 q423 q424 q425 q426 q427
                          obtain ⟨fr428, e429, C430, C431, C432, C433⟩ := q422
                          obtain ⟨⟨_, m434⟩, ⟨_, m435⟩, _⟩ := q424
                          have z436 : (σ419 78) = .int .i64 t203 := m434
                          have z437 : (σ419 83) = .int .i64 t213 := m435
                          refine wl_neq z436 z437 ?_
                          refine wl_nil ?_
                          exact qn ⟨_, _, rfl, (Ext.refl _ _), ⟨fr428, e429.trans (Ext.refl _ _), C430, C431, C432, C433⟩, (aft_some rfl)⟩
                        · intro σ438 w439 hw440 q441 q442 q443
                          obtain ⟨fr444, e445, C446, C447, C448, C449⟩ := q441
                          obtain ⟨m450, m451, m452, m453, m454, m455, m456, m457, m458, m459, m460, _⟩ := q443
                          have z461 : (σ438 75) = v69 := m451
                          have z462 : (σ438 80) = v98 := m456
                          have z463 : (σ438 84) = .bool (t203 != t213) := m460
                          refine qn ?_
                          by_cases c464 : (t203 != t213) = true
                          · replace h := (if_pos c464).symm.trans h
                            refine wc_then z463 c464 ?_
                            refine wc_seq ?_
                            refine wc_region ?_
                            refine wl_assign (.bool false) rfl ?_
                            refine wl_nil ?_
                            refine qn ?_
                            refine wc_ret ?_
                            refine bret ?_
                            refine qr ?_
                            refine qr ?_
                            refine bret ?_
                            refine bret ?_
                            refine qr ?_
                            refine qr ?_
                            refine bret ?_
                            refine qr ?_
                            have h := Option.some.inj h
                            subst h
                            refine end1 rfl (.tmp rfl .nil) ?_
                            exact ⟨_, rfl, fr444⟩
                          · replace h := (if_neg c464).symm.trans h
                            have b465 : (t203 != t213) = false := Bool.eq_false_iff.2 c464
                            refine wc_else z463 b465 ?_
                            refine wc_skip ?_
                            refine bn ?_
                            refine qn ?_
                            refine wc_region ?_
                            refine wl_add ((q442 71 rfl).trans z188) rfl ?_
                            refine wl_move (.int .i64 (IntKind.i64.wrap (x173 + 1))) rfl ?_
                            refine wl_nil ?_
                            refine qn ?_
                            exact ⟨_, _, _, (IntKind.i64.wrap (x173 + 1)), rfl, (by omega), (by omega), fr444, (Ext.trans e178 (Ext.trans s195.ext e445)), ((q442 2 rfl).trans z181), ((q442 3 rfl).trans z182), ((q442 6 rfl).trans z183), ((q442 7 rfl).trans z184), ((q442 32 rfl).trans z185), ((q442 33 rfl).trans z186), ((q442 70 rfl).trans z187), rfl, C446, C447, C448, C449, h⟩
                      · replace h := (if_neg c212).symm.trans h
                        cases h
                    · replace h := (if_neg c202).symm.trans h
                      cases h
                  · replace h := (if_neg c193).symm.trans h
                    have b466 : (decide (x173 < (t61.Nums.length : Int))) = false := decide_eq_false c193
                    refine wc_else rfl b466 ?_
                    refine wc_exit ?_
                    refine qe ?_
                    refine qe ?_
                    refine be ?_
                    refine bn ?_
                    refine qn ?_
                    refine wc_region ?_
                    refine wl_add z186 rfl ?_
                    refine wl_move (.int .i64 (IntKind.i64.wrap (x33 + 1))) rfl ?_
                    refine wl_nil ?_
                    refine qn ?_
                    have f467 := r56.ext (s75.ext.trans (s82.ext.trans (s104.ext.trans (s113.ext.trans (e153.trans (e178))))))
                    have f468 := r57.ext (s75.ext.trans (s82.ext.trans (s104.ext.trans (s113.ext.trans (e153.trans (e178))))))
                    exact ⟨_, _, _, (IntKind.i64.wrap (x33 + 1)), x34, x35, v36, l37, x38, x39, v40, l41, rfl, (by omega), (by omega), fr177, (Ext.trans e47 (Ext.trans s75.ext (Ext.trans s82.ext (Ext.trans s104.ext (Ext.trans s113.ext (Ext.trans e153 e178)))))), z181, z182, z185, rfl, B189, B190, f467, f468, h⟩
          · replace h := (if_neg c88).symm.trans h
            cases h
        · replace h := (if_neg c60).symm.trans h
          cases h
      · replace h := (if_neg c58).symm.trans h
        have b469 : (decide (x33 < (a0.Deeds.length : Int))) = false := decide_eq_false c58
        refine wc_else rfl b469 ?_
        refine wc_exit ?_
        refine qe ?_
        refine qe ?_
        refine be ?_
        refine qn ?_
        refine wc_seq ?_
        refine wc_region ?_
        refine wl_assign (.bool true) rfl ?_
        refine wl_nil ?_
        refine qn ?_
        refine wc_ret ?_
        have h := Option.some.inj h
        subst h
        refine end1 rfl (.tmp rfl .nil) ?_
        exact ⟨_, rfl, fr46⟩
/-! ### consignor/consignorlaw20.ScriptBack: function 3 -/
mutual
def consignorlaw20_ScriptBack.j1 : Nat → Bool → Option Bool
  | 0, _ => none
  | k + 1, x311 => some x311
def consignorlaw20_ScriptBack.j0 : Nat → (List UInt8) → Option Bool
  | 0, _ => none
  | k + 1, a1 => (script_Parse.f k ((a1.take (Int.toNat (if 12000 < (a1.length : Int) then 12000 else (a1.length : Int)))).drop (Int.toNat 0))).bind fun t290 => (if (t290.2.1 != 0) = true then ((consignorlaw20_alive.f k).bind fun t312 => (if t312 = true then ((consignorref20_Like.f k t290.1 (⟨0, 0, []⟩ : ApiPlan)).bind fun t323 => (consignorlaw20_ScriptBack.j1 k t323)) else (consignorlaw20_ScriptBack.j1 k false))) else ((script_Print.f k t290.1).bind fun t341 => ((consignorlaw20_alive.f k).bind fun t348 => (if ((t348 && (t341.2 == 0)) && (t341.1 == ((a1.take (Int.toNat (if 12000 < (a1.length : Int) then 12000 else (a1.length : Int)))).drop (Int.toNat 0)))) = true then ((script_Right.f k t290.1).bind fun t363 => (some t363)) else (some false)))))
end
def consignorlaw20_ScriptBack.f (k : Nat) (a0 : ApiPlan) (a1 : (List UInt8)) : Option Bool := (consignorlaw20_few.f k a0 205).bind fun t12 => (if (0 : Int) ≤ (if 12000 < (a1.length : Int) then 12000 else (a1.length : Int)) then (if ((if 12000 < (a1.length : Int) then 12000 else (a1.length : Int)) : Int) ≤ (a1.length : Int) then ((script_Print.f k t12).bind fun t234 => (if (t234.2 == 0) = true then ((script_Parse.f k t234.1).bind fun t242 => (if ((t242.2.1 != 0) || (t242.2.2 != 0)) = true then (some false) else ((consignorref20_Like.f k t12 t242.1).bind fun t272 => (if t272 = true then (consignorlaw20_ScriptBack.j0 k a1) else (some false))))) else (consignorlaw20_ScriptBack.j0 k a1))) else none) else none)
set_option maxHeartbeats 1000000 in
theorem consignorlaw20_ScriptBack.ok (k : Nat) {w0 : World} {hw0 : Hw} (wf : Hwf w0 hw0) (a0 : ApiPlan) (a1 : (List UInt8)) (v0_2 : Value) (q0_2 : Row KApiDeed w0 hw0 v0_2 a0.Deeds) (gl : Gl w0 hw0) (r : Bool) (h : consignorlaw20_ScriptBack.f k a0 a1 = some r) :
    Calls Tryd.prog 3 #[.agg #[.int .i64 a0.Quota, .int .i64 a0.Sectors, v0_2], .string (bs a1)] w0 fun e w' => ∃ (hw' : Hw), e = .returned (.bool r) ∧ Stp none w0 hw0 w' hw' := by
  have fr0 := Stp.refl none (w := w0) (hw := hw0) wf
  unfold consignorlaw20_ScriptBack.f at h
  refine enter (n := 80) Tryd.func3 rfl rfl (Nat.le_of_ble_eq_true rfl) ?_
  refine wc_seq ?_
  refine wc_region ?_
  refine wl_box fr0.wf fr0.g.size [.int .i64 a0.Quota, .int .i64 a0.Sectors, v0_2] (cells_of (v := (.agg #[.int .i64 a0.Quota, .int .i64 a0.Sectors, v0_2])) rfl rfl) ?_
  intro b1 w2 s3 B4 g5
  have fr6 := fr0.then0 s3
  refine wl_assign (.bool false) rfl ?_
  refine wl_nil ?_
  refine qn ?_
  refine wc_seq ?_
  have s7 := Stp.drew (w := w2) (hw := hw0) fr6.wf
  have fr8 := fr6.then0 s7
  have B9 := (B4.step0 s7)
  obtain ⟨t12, h13, h⟩ := Option.bind_eq_some_iff.1 h
  by_cases c21 : (0 : Int) ≤ (if 12000 < (a1.length : Int) then 12000 else (a1.length : Int))
  · replace h := (if_pos c21).symm.trans h
    by_cases c22 : ((if 12000 < (a1.length : Int) then 12000 else (a1.length : Int)) : Int) ≤ (a1.length : Int)
    · replace h := (if_pos c22).symm.trans h
      refine wc_any (hw := hw0) mixed [[], [0], [], [], [3], [4], [2, 5], [1, 1, 0, 1], [6, 7, 0, 1, 2, 3, 4, 5, 6, 7]] [15, 16, 17, 18, 19, 20, 21, 1] (by kernel_rfl) (PhiOf [fun v w hw => v = .agg #[.int .i64 a0.Quota, .int .i64 a0.Sectors, v0_2], fun v w hw => ∃ (v18 : Value), v = .agg #[.int .i64 t12.Quota, .int .i64 t12.Sectors, v18] ∧ Row KApiDeed w hw v18 t12.Deeds, fun v w hw => v = .string (bs a1), fun v w hw => v = .string (bs a1), fun v w hw => v = .int .i64 (a1.length : Int), fun v w hw => v = .int .i64 (if 12000 < (a1.length : Int) then 12000 else (a1.length : Int)), fun v w hw => v = .string (bs ((a1.take (Int.toNat (if 12000 < (a1.length : Int) then 12000 else (a1.length : Int)))).drop (Int.toNat 0))), fun v w hw => True, fun v w hw => v = .string (bs ((a1.take (Int.toNat (if 12000 < (a1.length : Int) then 12000 else (a1.length : Int)))).drop (Int.toNat 0)))]) (fun D σ w hw => Stp none w0 hw0 w hw ∧ Ext (w2).drew hw0 w hw ∧ Box w0.heap.size w hw b1 24 [(bif D 7 then .int .i64 t12.Quota else .int .i64 a0.Quota), (bif D 7 then .int .i64 t12.Sectors else .int .i64 a0.Sectors), (bif D 7 then (cellOf (σ 16) 2) else v0_2)] ∧ (bif D 8 then True else σ 1 = .string (bs a1))) (stab_of (sbc (fun _ _ _ _ _ _ h => h) (sbc (fun _ _ _ _ _ e ⟨v18, hv, F0⟩ => ⟨v18, hv, F0.ext e⟩) (sbc (fun _ _ _ _ _ _ h => h) (sbc (fun _ _ _ _ _ _ h => h) (sbc (fun _ _ _ _ _ _ h => h) (sbc (fun _ _ _ _ _ _ h => h) (sbc (fun _ _ _ _ _ _ h => h) (sbc (fun _ _ _ _ _ _ h => h) (sbc (fun _ _ _ _ _ _ h => h) sbn)))))))))) ?_ (stc ?_ (stc ?_ (stc ?_ (stc ?_ (stc ?_ (stc ?_ (stc ?_ (stc ?_ (stc ?_ stn))))))))) ?_
      · exact ⟨fr8, Ext.refl _ _, B9, rfl⟩
      · intro D28 σ29 w30 hw31 q32 q33 q34 q35 q36 q37
        obtain ⟨fr38, e39, C40, C41⟩ := q32
        have B42 := C40
        rw [show D28 7 = false from (q37 7 rfl)] at B42
        refine wl_loadb B42 ty24 ((q35 2 rfl).trans rfl) [.int .i64 a0.Quota, .int .i64 a0.Sectors, v0_2] rfl rfl ?_
        refine wl_nil ?_
        exact qn ⟨_, _, rfl, (Ext.refl _ _), ⟨fr38, e39.trans (Ext.refl _ _), C40, C41⟩, (aft_some rfl)⟩
      · intro D43 σ44 w45 hw46 q47 q48 q49 q50 q51 q52
        obtain ⟨fr53, e54, C55, C56⟩ := q47
        have B57 := C55
        rw [show D43 7 = false from (q52 7 rfl)] at B57
        obtain ⟨⟨_, m58⟩, _⟩ := q49
        have z59 : (σ44 15) = .agg #[.int .i64 a0.Quota, .int .i64 a0.Sectors, v0_2] := m58
        have f60 := q0_2.ext (s3.ext.trans (s7.ext.trans (e54)))
        refine wl_call [.agg #[.int .i64 a0.Quota, .int .i64 a0.Sectors, v0_2], .int .i64 205] bod4 (mc z59 (mc rfl (mn _))) (consignorlaw20_few.ok k fr53.wf a0 205 v0_2 f60 _ h13) ?_
        rintro e61 w62 ⟨v65, hw63, rfl, s64, f66⟩
        refine ⟨_, rfl, ?_⟩
        have fr67 := fr53.then0 s64
        refine wl_nil ?_
        have B68 := (C55.step0 s64)
        exact qn ⟨_, _, rfl, s64.ext, ⟨fr67, e54.trans s64.ext, (Box.retype B68 (show [(bif D43 7 then .int .i64 t12.Quota else .int .i64 a0.Quota), (bif D43 7 then .int .i64 t12.Sectors else .int .i64 a0.Sectors), (bif D43 7 then (cellOf (σ44 16) 2) else v0_2)] = [(bif D43 7 then .int .i64 t12.Quota else .int .i64 a0.Quota), (bif D43 7 then .int .i64 t12.Sectors else .int .i64 a0.Sectors), (bif D43 7 then (cellOf (.agg #[.int .i64 t12.Quota, .int .i64 t12.Sectors, v65]) 2) else v0_2)] from by rw [show D43 7 = false from (q52 7 rfl)] <;> rfl)), C56⟩, (aft_some (show ∃ (v18 : Value), (.agg #[.int .i64 t12.Quota, .int .i64 t12.Sectors, v65] : Value) = .agg #[.int .i64 t12.Quota, .int .i64 t12.Sectors, v18] ∧ Row KApiDeed w62 hw63 v18 t12.Deeds from ⟨v65, rfl, f66⟩))⟩
      · intro D69 σ70 w71 hw72 q73 q74 q75 q76 q77 q78
        obtain ⟨fr79, e80, C81, C82⟩ := q73
        have z83 := bif_f (q78 8 rfl) C82
        refine wl_move (.string (bs a1)) z83 ?_
        refine wl_nil ?_
        exact qn ⟨_, _, rfl, (Ext.refl _ _), ⟨fr79, e80.trans (Ext.refl _ _), C81, C82⟩, (aft_some rfl)⟩
      · intro D84 σ85 w86 hw87 q88 q89 q90 q91 q92 q93
        obtain ⟨fr94, e95, C96, C97⟩ := q88
        have z98 := bif_f (q93 8 rfl) C97
        refine wl_move (.string (bs a1)) z98 ?_
        refine wl_nil ?_
        exact qn ⟨_, _, rfl, (Ext.refl _ _), ⟨fr94, e95.trans (Ext.refl _ _), C96, C97⟩, (aft_some rfl)⟩
      · intro D99 σ100 w101 hw102 q103 q104 q105 q106 q107 q108
        obtain ⟨fr109, e110, C111, C112⟩ := q103
        obtain ⟨⟨_, m113⟩, _⟩ := q105
        have z114 : (σ100 18) = .string (bs a1) := m113
        refine wl_lens Tryd.underlying9 z114 ?_
        refine wl_nil ?_
        exact qn ⟨_, _, rfl, (Ext.refl _ _), ⟨fr109, e110.trans (Ext.refl _ _), C111, C112⟩, (aft_some rfl)⟩
      · intro D115 σ116 w117 hw118 q119 q120 q121 q122 q123 q124
        obtain ⟨fr125, e126, C127, C128⟩ := q119
        obtain ⟨⟨_, m129⟩, _⟩ := q121
        have z130 : (σ116 19) = .int .i64 (a1.length : Int) := m129
        refine wl_min2 z130 rfl ?_
        refine wl_nil ?_
        exact qn ⟨_, _, rfl, (Ext.refl _ _), ⟨fr125, e126.trans (Ext.refl _ _), C127, C128⟩, (aft_some rfl)⟩
      · intro D131 σ132 w133 hw134 q135 q136 q137 q138 q139 q140
        obtain ⟨fr141, e142, C143, C144⟩ := q135
        obtain ⟨⟨_, m145⟩, ⟨_, m146⟩, _⟩ := q137
        have z147 : (σ132 17) = .string (bs a1) := m145
        have z148 : (σ132 20) = .int .i64 (if 12000 < (a1.length : Int) then 12000 else (a1.length : Int)) := m146
        refine wl_cuts Tryd.underlying9 z147 Bd.no (Bd.yes z148) (by first | decide | omega | simp) c21 c22 ?_
        refine wl_nil ?_
        exact qn ⟨_, _, rfl, (Ext.refl _ _), ⟨fr141, e142.trans (Ext.refl _ _), C143, C144⟩, (aft_some rfl)⟩
      · intro D149 σ150 w151 hw152 q153 q154 q155 q156 q157 q158
        obtain ⟨fr159, e160, C161, C162⟩ := q153
        obtain ⟨⟨_, m163⟩, ⟨_, m164⟩, ⟨_, m165⟩, ⟨_, m166⟩, _⟩ := q155
        obtain ⟨v167, z168, f169⟩ : ∃ (v18 : Value), (σ150 16) = .agg #[.int .i64 t12.Quota, .int .i64 t12.Sectors, v18] ∧ Row KApiDeed w151 hw152 v18 t12.Deeds := m163
        have z170 : (σ150 15) = .agg #[.int .i64 a0.Quota, .int .i64 a0.Sectors, v0_2] := m165
        refine wl_store C161 fr159.wf ty24 ((q156 2 rfl).trans rfl) [.int .i64 t12.Quota, .int .i64 t12.Sectors, v167] (cells_of z168 rfl) rfl (Nat.le_of_ble_eq_true rfl) (one_all [.int .i64 t12.Quota, .int .i64 t12.Sectors, v167] (by simp only [List.all_cons, List.all_nil, Bool.and_true, Bool.true_and, row_one f169] <;> rfl)) [.int .i64 t12.Quota, .int .i64 t12.Sectors, v167] rfl ?_
        intro w171 s172 B173
        have fr174 := fr159.then s172 (fun _ e => (Option.some.inj e ▸ C161.new))
        refine wl_nil ?_
        exact qn ⟨_, _, rfl, s172.ext, ⟨fr174, e160.trans s172.ext, (Box.retype B173 (show ([.int .i64 t12.Quota, .int .i64 t12.Sectors, v167] : List Value) = [.int .i64 t12.Quota, .int .i64 t12.Sectors, (cellOf (σ150 16) 2)] from by rw [z168] <;> rfl)), C162⟩, aft_none⟩
      · intro D175 σ176 w177 hw178 q179 q180 q181 q182 q183 q184
        obtain ⟨fr185, e186, C187, C188⟩ := q179
        have B189 := C187
        rw [show D175 7 = true from (q183 7 rfl)] at B189
        obtain ⟨⟨_, m190⟩, ⟨_, m191⟩, ⟨_, m192⟩, ⟨_, m193⟩, ⟨_, m194⟩, ⟨_, m195⟩, ⟨_, m196⟩, ⟨_, m197⟩, ⟨_, m198⟩, ⟨_, m199⟩, _⟩ := q181
        have z200 : (σ176 21) = .string (bs ((a1.take (Int.toNat (if 12000 < (a1.length : Int) then 12000 else (a1.length : Int)))).drop (Int.toNat 0))) := m190
        have z201 : (σ176 15) = .agg #[.int .i64 a0.Quota, .int .i64 a0.Sectors, v0_2] := m192
        obtain ⟨v202, z203, f204⟩ : ∃ (v18 : Value), (σ176 16) = .agg #[.int .i64 t12.Quota, .int .i64 t12.Sectors, v18] ∧ Row KApiDeed w177 hw178 v18 t12.Deeds := m193
        have z205 : (σ176 17) = .string (bs a1) := m194
        have z206 : (σ176 18) = .string (bs a1) := m195
        have z207 : (σ176 19) = .int .i64 (a1.length : Int) := m196
        have z208 : (σ176 20) = .int .i64 (if 12000 < (a1.length : Int) then 12000 else (a1.length : Int)) := m197
        refine wl_assign (.string (bs ((a1.take (Int.toNat (if 12000 < (a1.length : Int) then 12000 else (a1.length : Int)))).drop (Int.toNat 0)))) z200 ?_
        refine wl_nil ?_
        exact qn ⟨_, _, rfl, (Ext.refl _ _), ⟨fr185, e186.trans (Ext.refl _ _), C187, trivial⟩, (aft_some rfl)⟩
      · intro σ209 w210 hw211 q212 q213 q214
        obtain ⟨fr215, e216, C217, C218⟩ := q212
        obtain ⟨m219, m220, m221, m222, m223, m224, m225, m226, m227, _⟩ := q214
        have B228 : Box w0.heap.size w210 hw211 b1 24 [.int .i64 t12.Quota, .int .i64 t12.Sectors, (cellOf (σ209 16) 2)] := C217
        obtain ⟨v229, z230, f231⟩ : ∃ (v18 : Value), (σ209 16) = .agg #[.int .i64 t12.Quota, .int .i64 t12.Sectors, v18] ∧ Row KApiDeed w210 hw211 v18 t12.Deeds := m220
        have B232 := Box.retype B228 (show ([.int .i64 t12.Quota, .int .i64 t12.Sectors, (cellOf (σ209 16) 2)] : List Value) = [.int .i64 t12.Quota, .int .i64 t12.Sectors, v229] from by rw [z230] <;> rfl)
        have z233 : (σ209 1) = .string (bs ((a1.take (Int.toNat (if 12000 < (a1.length : Int) then 12000 else (a1.length : Int)))).drop (Int.toNat 0))) := m227
        refine qn ?_
        refine wc_cut (fun a w => ∃ (σ : Nat → Value) (hw : Hw) (kq : Nat), a = mkA 80 σ ∧ kq ≤ k ∧ kq ≤ k ∧ Stp none w0 hw0 w hw ∧ Ext w210 hw211 w hw ∧ σ 1 = .string (bs ((a1.take (Int.toNat (if 12000 < (a1.length : Int) then 12000 else (a1.length : Int)))).drop (Int.toNat 0))) ∧ consignorlaw20_ScriptBack.j0 kq a1 = some r) ?_ ?_
        · skip
          refine wc_seq ?_
          refine wc_region ?_
          refine wl_loadb B232 ty24 ((q213 2 rfl).trans rfl) [.int .i64 t12.Quota, .int .i64 t12.Sectors, v229] rfl rfl ?_
          obtain ⟨t234, h235, h⟩ := Option.bind_eq_some_iff.1 h
          refine wl_call [.agg #[.int .i64 t12.Quota, .int .i64 t12.Sectors, v229]] bod5 (mc rfl (mn _)) (script_Print.ok k fr215.wf t12 v229 f231 _ h235) ?_
          rintro e236 w237 ⟨hw238, rfl, s239⟩
          refine ⟨_, rfl, ?_⟩
          have fr240 := fr215.then0 s239
          refine wl_move (.tuple #[.string (bs t234.1), .int .i64 t234.2]) rfl ?_
          refine wl_extract (vs := [.string (bs t234.1), .int .i64 t234.2]) (.string (bs t234.1)) rfl rfl ?_
          refine wl_extract (vs := [.string (bs t234.1), .int .i64 t234.2]) (.int .i64 t234.2) rfl rfl ?_
          refine wl_assign (.string (bs t234.1)) rfl ?_
          refine wl_assign (.int .i64 t234.2) rfl ?_
          refine wl_nil ?_
          refine qn ?_
          refine wc_seq ?_
          refine wc_region ?_
          refine wl_move (.int .i64 t234.2) rfl ?_
          refine wl_eql rfl rfl ?_
          refine wl_nil ?_
          refine qn ?_
          by_cases c241 : (t234.2 == 0) = true
          · replace h := (if_pos c241).symm.trans h
            refine wc_then rfl c241 ?_
            refine wc_seq ?_
            refine wc_region ?_
            refine wl_move (.string (bs t234.1)) rfl ?_
            obtain ⟨t242, h243, h⟩ := Option.bind_eq_some_iff.1 h
            have B248 := (B232.step0 s239)
            refine wl_call [.string (bs t234.1)] bod6 (mc rfl (mn _)) (script_Parse.ok k fr240.wf t234.1 (Gl.of gl fr240) _ h243) ?_
            rintro e244 w245 ⟨v249, hw246, rfl, s247, f250⟩
            refine ⟨_, rfl, ?_⟩
            have fr251 := fr240.then0 s247
            refine wl_move (.tuple #[.agg #[.int .i64 t242.1.Quota, .int .i64 t242.1.Sectors, v249], .int .i64 t242.2.1, .int .i64 t242.2.2]) rfl ?_
            refine wl_extract (vs := [.agg #[.int .i64 t242.1.Quota, .int .i64 t242.1.Sectors, v249], .int .i64 t242.2.1, .int .i64 t242.2.2]) (.agg #[.int .i64 t242.1.Quota, .int .i64 t242.1.Sectors, v249]) rfl rfl ?_
            refine wl_extract (vs := [.agg #[.int .i64 t242.1.Quota, .int .i64 t242.1.Sectors, v249], .int .i64 t242.2.1, .int .i64 t242.2.2]) (.int .i64 t242.2.1) rfl rfl ?_
            refine wl_extract (vs := [.agg #[.int .i64 t242.1.Quota, .int .i64 t242.1.Sectors, v249], .int .i64 t242.2.1, .int .i64 t242.2.2]) (.int .i64 t242.2.2) rfl rfl ?_
            refine wl_alloc fr251.wf fr251.g.size ty24 [.int .i64 0, .int .i64 0, .slice none 0 0] rfl ?_
            intro b252 w253 s254 B255 g256
            have B258 := (B248.step0 s247)
            have n257 : b1 ≠ b252 := B258.ne g256
            have fr259 := fr251.then0 s254
            have f263 := f250.ext (s254.ext)
            refine wl_store B255 fr259.wf ty24 rfl [.int .i64 t242.1.Quota, .int .i64 t242.1.Sectors, v249] (cells_of (v := (.agg #[.int .i64 t242.1.Quota, .int .i64 t242.1.Sectors, v249])) rfl rfl) rfl (Nat.le_of_ble_eq_true rfl) (one_all [.int .i64 t242.1.Quota, .int .i64 t242.1.Sectors, v249] (by simp only [List.all_cons, List.all_nil, Bool.and_true, Bool.true_and, row_one f263] <;> rfl)) [.int .i64 t242.1.Quota, .int .i64 t242.1.Sectors, v249] rfl ?_
            intro w260 s261 B262
            have fr264 := fr259.then s261 (fun _ e => (Option.some.inj e ▸ B255.new))
            refine wl_assign (.int .i64 t242.2.1) rfl ?_
            refine wl_assign (.int .i64 t242.2.2) rfl ?_
            refine wl_nil ?_
            refine qn ?_
            refine wc_seq ?_
            refine wc_region ?_
            refine wl_move (.int .i64 t242.2.1) rfl ?_
            refine wl_neq rfl rfl ?_
            refine wl_move (.bool (t242.2.1 != 0)) rfl ?_
            refine wl_join 3 [38, 39, 40] 40 (.bool ((t242.2.1 != 0) || (t242.2.2 != 0))) ?_ ?_
            · rcases Bool.eq_false_or_eq_true (t242.2.1 != 0) with hcc | hcc
              · skip
                refine wl_off (yl rfl rfl rfl) hcc ?_
                refine wl_off (yl rfl rfl rfl) hcc ?_
                refine wl_pick_t (t242.2.1 != 0) (.bool true) rfl hcc rfl ?_
                refine wl_nil ?_
                exact qn ⟨rfl, _, rfl, (by repeat (first | exact Same.refl _ _ | refine Same.upd ?_ rfl)), (by rw [hcc]; rfl)⟩
              · skip
                refine wl_on (yl rfl rfl rfl) hcc ?_
                refine wl_move (.int .i64 t242.2.2) rfl ?_
                refine wl_on (yl rfl rfl rfl) hcc ?_
                refine wl_neq rfl rfl ?_
                refine wl_pick_f (t242.2.1 != 0) (.bool (t242.2.2 != 0)) rfl hcc rfl ?_
                refine wl_nil ?_
                exact qn ⟨rfl, _, rfl, (by repeat (first | exact Same.refl _ _ | refine Same.upd ?_ rfl)), (by rw [hcc]; rfl)⟩
            intro _ ho265 hv266
            refine wl_move (.bool ((t242.2.1 != 0) || (t242.2.2 != 0))) hv266 ?_
            by_cases c267 : ((t242.2.1 != 0) || (t242.2.2 != 0)) = true
            · replace h := (if_pos c267).symm.trans h
              refine wl_off (yl rfl rfl rfl) c267 ?_
              refine wl_off (yl rfl rfl rfl) c267 ?_
              refine wl_off (yl rfl rfl rfl) c267 ?_
              refine wl_off (yl rfl rfl rfl) c267 ?_
              refine wl_pick_t ((t242.2.1 != 0) || (t242.2.2 != 0)) (.bool true) rfl c267 rfl ?_
              refine wl_nil ?_
              refine qn ?_
              refine wc_then rfl rfl ?_
              refine wc_seq ?_
              refine wc_region ?_
              refine wl_assign (.bool false) rfl ?_
              refine wl_nil ?_
              refine qn ?_
              refine wc_ret ?_
              refine qr ?_
              have h := Option.some.inj h
              subst h
              refine end1 rfl (.tmp rfl .nil) ?_
              exact ⟨_, rfl, fr264⟩
            · replace h := (if_neg c267).symm.trans h
              have b268 : ((t242.2.1 != 0) || (t242.2.2 != 0)) = false := Bool.eq_false_iff.2 c267
              refine wl_on (yl rfl rfl rfl) b268 ?_
              have B269 := ((B258.step0 s254).stepb s261 n257)
              refine wl_loadb B269 ty24 ((ho265 2 rfl).trans ((q213 2 rfl).trans rfl)) [.int .i64 t12.Quota, .int .i64 t12.Sectors, v229] rfl rfl ?_
              refine wl_on (yl rfl rfl rfl) b268 ?_
              refine wl_loadb B262 ty24 ((ho265 7 rfl).trans rfl) [.int .i64 t242.1.Quota, .int .i64 t242.1.Sectors, v249] rfl rfl ?_
              refine wl_on (yl rfl rfl rfl) b268 ?_
              have f270 := f231.ext (s239.ext.trans (s247.ext.trans (s254.ext.trans (s261.ext))))
              have f271 := f263.ext (s261.ext)
              obtain ⟨t272, h273, h⟩ := Option.bind_eq_some_iff.1 h
              refine wl_call [.agg #[.int .i64 t12.Quota, .int .i64 t12.Sectors, v229], .agg #[.int .i64 t242.1.Quota, .int .i64 t242.1.Sectors, v249]] bod7 (mc rfl (mc rfl (mn _))) (consignorref20_Like.ok k fr264.wf t12 t242.1 v229 f270 v249 f271 _ h273) ?_
              rintro e274 w275 ⟨hw276, rfl, s277⟩
              refine ⟨_, rfl, ?_⟩
              have fr278 := fr264.then0 s277
              refine wl_on (yl rfl rfl rfl) b268 ?_
              refine wl_not rfl ?_
              refine wl_pick_f ((t242.2.1 != 0) || (t242.2.2 != 0)) (.bool (!t272)) rfl b268 rfl ?_
              refine wl_nil ?_
              refine qn ?_
              by_cases c279 : t272 = true
              · replace h := (if_pos c279).symm.trans h
                refine wc_else rfl (by rw [c279] <;> rfl) ?_
                refine wc_skip ?_
                refine qn ?_
                exact ⟨_, _, _, rfl, (by omega), (by omega), fr278, (Ext.trans s239.ext (Ext.trans s247.ext (Ext.trans s254.ext (Ext.trans s261.ext s277.ext)))), ((ho265 1 rfl).trans z233), h⟩
              · replace h := (if_neg c279).symm.trans h
                have b280 : t272 = false := Bool.eq_false_iff.2 c279
                refine wc_then rfl (by rw [b280] <;> rfl) ?_
                refine wc_seq ?_
                refine wc_region ?_
                refine wl_assign (.bool false) rfl ?_
                refine wl_nil ?_
                refine qn ?_
                refine wc_ret ?_
                refine qr ?_
                have h := Option.some.inj h
                subst h
                refine end1 rfl (.tmp rfl .nil) ?_
                exact ⟨_, rfl, fr278⟩
          · replace h := (if_neg c241).symm.trans h
            have b281 : (t234.2 == 0) = false := Bool.eq_false_iff.2 c241
            refine wc_else rfl b281 ?_
            refine wc_skip ?_
            refine qn ?_
            exact ⟨_, _, _, rfl, (by omega), (by omega), fr240, s239.ext, z233, h⟩
        · rintro _ w282 ⟨_, hw283, k284, rfl, hk287, hk288, fr285, e286, z289, h⟩
          rcases k284 with _ | k284
          · rw [consignorlaw20_ScriptBack.j0] at h; cases h
          rw [consignorlaw20_ScriptBack.j0] at h
          refine wc_seq ?_
          refine wc_region ?_
          refine wl_move (.string (bs ((a1.take (Int.toNat (if 12000 < (a1.length : Int) then 12000 else (a1.length : Int)))).drop (Int.toNat 0)))) z289 ?_
          obtain ⟨t290, h291, h⟩ := Option.bind_eq_some_iff.1 h
          refine wl_call [.string (bs ((a1.take (Int.toNat (if 12000 < (a1.length : Int) then 12000 else (a1.length : Int)))).drop (Int.toNat 0)))] bod6 (mc rfl (mn _)) (script_Parse.ok k284 fr285.wf ((a1.take (Int.toNat (if 12000 < (a1.length : Int) then 12000 else (a1.length : Int)))).drop (Int.toNat 0)) (Gl.of gl fr285) _ h291) ?_
          rintro e292 w293 ⟨v296, hw294, rfl, s295, f297⟩
          refine ⟨_, rfl, ?_⟩
          have fr298 := fr285.then0 s295
          refine wl_move (.tuple #[.agg #[.int .i64 t290.1.Quota, .int .i64 t290.1.Sectors, v296], .int .i64 t290.2.1, .int .i64 t290.2.2]) rfl ?_
          refine wl_extract (vs := [.agg #[.int .i64 t290.1.Quota, .int .i64 t290.1.Sectors, v296], .int .i64 t290.2.1, .int .i64 t290.2.2]) (.agg #[.int .i64 t290.1.Quota, .int .i64 t290.1.Sectors, v296]) rfl rfl ?_
          refine wl_extract (vs := [.agg #[.int .i64 t290.1.Quota, .int .i64 t290.1.Sectors, v296], .int .i64 t290.2.1, .int .i64 t290.2.2]) (.int .i64 t290.2.1) rfl rfl ?_
          refine wl_extract (vs := [.agg #[.int .i64 t290.1.Quota, .int .i64 t290.1.Sectors, v296], .int .i64 t290.2.1, .int .i64 t290.2.2]) (.int .i64 t290.2.2) rfl rfl ?_
          refine wl_alloc fr298.wf fr298.g.size ty24 [.int .i64 0, .int .i64 0, .slice none 0 0] rfl ?_
          intro b299 w300 s301 B302 g303
          have fr304 := fr298.then0 s301
          have f308 := f297.ext (s301.ext)
          refine wl_store B302 fr304.wf ty24 rfl [.int .i64 t290.1.Quota, .int .i64 t290.1.Sectors, v296] (cells_of (v := (.agg #[.int .i64 t290.1.Quota, .int .i64 t290.1.Sectors, v296])) rfl rfl) rfl (Nat.le_of_ble_eq_true rfl) (one_all [.int .i64 t290.1.Quota, .int .i64 t290.1.Sectors, v296] (by simp only [List.all_cons, List.all_nil, Bool.and_true, Bool.true_and, row_one f308] <;> rfl)) [.int .i64 t290.1.Quota, .int .i64 t290.1.Sectors, v296] rfl ?_
          intro w305 s306 B307
          have fr309 := fr304.then s306 (fun _ e => (Option.some.inj e ▸ B302.new))
          refine wl_assign (.int .i64 t290.2.1) rfl ?_
          refine wl_assign (.int .i64 t290.2.2) rfl ?_
          refine wl_nil ?_
          refine qn ?_
          refine wc_seq ?_
          refine wc_seq ?_
          refine wc_region ?_
          refine wl_move (.int .i64 t290.2.1) rfl ?_
          refine wl_neq rfl rfl ?_
          refine wl_nil ?_
          refine qn ?_
          by_cases c310 : (t290.2.1 != 0) = true
          · replace h := (if_pos c310).symm.trans h
            refine wc_then rfl c310 ?_
            refine wc_cut (fun a w => ∃ (σ : Nat → Value) (hw : Hw) (kq : Nat) (x311 : Bool), a = mkA 80 σ ∧ kq ≤ k284 ∧ kq ≤ k284 ∧ Stp none w0 hw0 w hw ∧ Ext w305 hw294 w hw ∧ σ 4 = .bool x311 ∧ consignorlaw20_ScriptBack.j1 kq x311 = some r) ?_ ?_
            · skip
              refine wc_region ?_
              obtain ⟨t312, h313, h⟩ := Option.bind_eq_some_iff.1 h
              refine wl_call [] bod8 (mn _) (consignorlaw20_alive.ok k284 fr309.wf (Gl.of gl fr309) _ h313) ?_
              rintro e314 w315 ⟨hw316, rfl, s317⟩
              refine ⟨_, rfl, ?_⟩
              have fr318 := fr309.then0 s317
              refine wl_move (.bool t312) rfl ?_
              by_cases c319 : t312 = true
              · replace h := (if_pos c319).symm.trans h
                refine wl_on (yl rfl rfl rfl) c319 ?_
                have B320 := (B307.step0 s317)
                refine wl_loadb B320 ty24 rfl [.int .i64 t290.1.Quota, .int .i64 t290.1.Sectors, v296] rfl rfl ?_
                refine wl_on (yl rfl rfl rfl) c319 ?_
                have hb321 : ∀ w, (Instr.build 24 #[]).run Tryd.prog w = .ok (.agg (List.toArray [.int .i64 0, .int .i64 0, .slice none 0 0])) w := by intro  _; kernel_rfl
                refine wl_build [.int .i64 0, .int .i64 0, .slice none 0 0] (pn _ _) (hb321 _) ?_
                refine wl_on (yl rfl rfl rfl) c319 ?_
                have f322 := f308.ext (s306.ext.trans (s317.ext))
                obtain ⟨t323, h324, h⟩ := Option.bind_eq_some_iff.1 h
                refine wl_call [.agg #[.int .i64 t290.1.Quota, .int .i64 t290.1.Sectors, v296], .agg #[.int .i64 0, .int .i64 0, .slice none 0 0]] bod7 (mc rfl (mc rfl (mn _))) (consignorref20_Like.ok k284 fr318.wf t290.1 (⟨0, 0, []⟩ : ApiPlan) v296 f322 (.slice none 0 0) (Row.nil _ _ _) _ h324) ?_
                rintro e325 w326 ⟨hw327, rfl, s328⟩
                refine ⟨_, rfl, ?_⟩
                have fr329 := fr318.then0 s328
                refine wl_pick_t t312 (.bool t323) rfl c319 rfl ?_
                refine wl_assign (.bool t323) rfl ?_
                refine wl_nil ?_
                refine qn ?_
                exact ⟨_, _, _, t323, rfl, (by omega), (by omega), fr329, (Ext.trans s317.ext s328.ext), rfl, h⟩
              · replace h := (if_neg c319).symm.trans h
                have b330 : t312 = false := Bool.eq_false_iff.2 c319
                refine wl_off (yl rfl rfl rfl) b330 ?_
                refine wl_off (yl rfl rfl rfl) b330 ?_
                refine wl_off (yl rfl rfl rfl) b330 ?_
                refine wl_pick_f t312 (.bool false) rfl b330 rfl ?_
                refine wl_assign (.bool false) rfl ?_
                refine wl_nil ?_
                refine qn ?_
                exact ⟨_, _, _, false, rfl, (by omega), (by omega), fr318, s317.ext, rfl, h⟩
            · rintro _ w331 ⟨_, hw332, k333, x311, rfl, hk336, hk337, fr334, e335, z338, h⟩
              rcases k333 with _ | k333
              · rw [consignorlaw20_ScriptBack.j1] at h; cases h
              rw [consignorlaw20_ScriptBack.j1] at h
              refine wc_ret ?_
              refine qr ?_
              have h := Option.some.inj h
              subst h
              refine end1 rfl (.tmp z338 .nil) ?_
              exact ⟨_, rfl, fr334⟩
          · replace h := (if_neg c310).symm.trans h
            have b339 : (t290.2.1 != 0) = false := Bool.eq_false_iff.2 c310
            refine wc_else rfl b339 ?_
            refine wc_skip ?_
            refine qn ?_
            refine wc_seq ?_
            refine wc_region ?_
            refine wl_loadb B307 ty24 rfl [.int .i64 t290.1.Quota, .int .i64 t290.1.Sectors, v296] rfl rfl ?_
            have f340 := f308.ext (s306.ext)
            obtain ⟨t341, h342, h⟩ := Option.bind_eq_some_iff.1 h
            refine wl_call [.agg #[.int .i64 t290.1.Quota, .int .i64 t290.1.Sectors, v296]] bod5 (mc rfl (mn _)) (script_Print.ok k284 fr309.wf t290.1 v296 f340 _ h342) ?_
            rintro e343 w344 ⟨hw345, rfl, s346⟩
            refine ⟨_, rfl, ?_⟩
            have fr347 := fr309.then0 s346
            refine wl_move (.tuple #[.string (bs t341.1), .int .i64 t341.2]) rfl ?_
            refine wl_extract (vs := [.string (bs t341.1), .int .i64 t341.2]) (.string (bs t341.1)) rfl rfl ?_
            refine wl_extract (vs := [.string (bs t341.1), .int .i64 t341.2]) (.int .i64 t341.2) rfl rfl ?_
            refine wl_assign (.string (bs t341.1)) rfl ?_
            refine wl_assign (.int .i64 t341.2) rfl ?_
            refine wl_nil ?_
            refine qn ?_
            refine wc_seq ?_
            refine wc_region ?_
            obtain ⟨t348, h349, h⟩ := Option.bind_eq_some_iff.1 h
            have B354 := (B307.step0 s346)
            refine wl_call [] bod8 (mn _) (consignorlaw20_alive.ok k284 fr347.wf (Gl.of gl fr347) _ h349) ?_
            rintro e350 w351 ⟨hw352, rfl, s353⟩
            refine ⟨_, rfl, ?_⟩
            have fr355 := fr347.then0 s353
            refine wl_move (.bool t348) rfl ?_
            refine wl_join 3 [68, 69, 70] 70 (.bool (t348 && (t341.2 == 0))) ?_ ?_
            · rcases Bool.eq_false_or_eq_true t348 with hcc | hcc
              · skip
                refine wl_on (yl rfl rfl rfl) hcc ?_
                refine wl_move (.int .i64 t341.2) rfl ?_
                refine wl_on (yl rfl rfl rfl) hcc ?_
                refine wl_eql rfl rfl ?_
                refine wl_pick_t t348 (.bool (t341.2 == 0)) rfl hcc rfl ?_
                refine wl_nil ?_
                exact qn ⟨rfl, _, rfl, (by repeat (first | exact Same.refl _ _ | refine Same.upd ?_ rfl)), (by rw [hcc]; rfl)⟩
              · skip
                refine wl_off (yl rfl rfl rfl) hcc ?_
                refine wl_off (yl rfl rfl rfl) hcc ?_
                refine wl_pick_f t348 (.bool false) rfl hcc rfl ?_
                refine wl_nil ?_
                exact qn ⟨rfl, _, rfl, (by repeat (first | exact Same.refl _ _ | refine Same.upd ?_ rfl)), (by rw [hcc]; rfl)⟩
            intro _ ho356 hv357
            refine wl_move (.bool (t348 && (t341.2 == 0))) hv357 ?_
            refine wl_join 4 [72, 73, 74, 75] 75 (.bool ((t348 && (t341.2 == 0)) && (t341.1 == ((a1.take (Int.toNat (if 12000 < (a1.length : Int) then 12000 else (a1.length : Int)))).drop (Int.toNat 0))))) ?_ ?_
            · rcases Bool.eq_false_or_eq_true (t348 && (t341.2 == 0)) with hcc | hcc
              · skip
                refine wl_on (yl rfl rfl rfl) hcc ?_
                refine wl_move (.string (bs t341.1)) ((ho356 13 rfl).trans rfl) ?_
                refine wl_on (yl rfl rfl rfl) hcc ?_
                refine wl_move (.string (bs ((a1.take (Int.toNat (if 12000 < (a1.length : Int) then 12000 else (a1.length : Int)))).drop (Int.toNat 0)))) ((ho356 1 rfl).trans z289) ?_
                refine wl_on (yl rfl rfl rfl) hcc ?_
                refine wl_eqls rfl rfl ?_
                refine wl_pick_t (t348 && (t341.2 == 0)) (.bool (t341.1 == ((a1.take (Int.toNat (if 12000 < (a1.length : Int) then 12000 else (a1.length : Int)))).drop (Int.toNat 0)))) rfl hcc rfl ?_
                refine wl_nil ?_
                exact qn ⟨rfl, _, rfl, (by repeat (first | exact Same.refl _ _ | refine Same.upd ?_ rfl)), (by rw [hcc]; rfl)⟩
              · skip
                refine wl_off (yl rfl rfl rfl) hcc ?_
                refine wl_off (yl rfl rfl rfl) hcc ?_
                refine wl_off (yl rfl rfl rfl) hcc ?_
                refine wl_pick_f (t348 && (t341.2 == 0)) (.bool false) rfl hcc rfl ?_
                refine wl_nil ?_
                exact qn ⟨rfl, _, rfl, (by repeat (first | exact Same.refl _ _ | refine Same.upd ?_ rfl)), (by rw [hcc]; rfl)⟩
            intro _ ho358 hv359
            refine wl_move (.bool ((t348 && (t341.2 == 0)) && (t341.1 == ((a1.take (Int.toNat (if 12000 < (a1.length : Int) then 12000 else (a1.length : Int)))).drop (Int.toNat 0))))) hv359 ?_
            by_cases c360 : ((t348 && (t341.2 == 0)) && (t341.1 == ((a1.take (Int.toNat (if 12000 < (a1.length : Int) then 12000 else (a1.length : Int)))).drop (Int.toNat 0)))) = true
            · replace h := (if_pos c360).symm.trans h
              refine wl_on (yl rfl rfl rfl) c360 ?_
              have B361 := (B354.step0 s353)
              refine wl_loadb B361 ty24 ((ho358 10 rfl).trans ((ho356 10 rfl).trans rfl)) [.int .i64 t290.1.Quota, .int .i64 t290.1.Sectors, v296] rfl rfl ?_
              refine wl_on (yl rfl rfl rfl) c360 ?_
              have f362 := f340.ext (s346.ext.trans (s353.ext))
              obtain ⟨t363, h364, h⟩ := Option.bind_eq_some_iff.1 h
              refine wl_call [.agg #[.int .i64 t290.1.Quota, .int .i64 t290.1.Sectors, v296]] bod9 (mc rfl (mn _)) (script_Right.ok k284 fr355.wf t290.1 v296 f362 _ h364) ?_
              rintro e365 w366 ⟨hw367, rfl, s368⟩
              refine ⟨_, rfl, ?_⟩
              have fr369 := fr355.then0 s368
              refine wl_pick_t ((t348 && (t341.2 == 0)) && (t341.1 == ((a1.take (Int.toNat (if 12000 < (a1.length : Int) then 12000 else (a1.length : Int)))).drop (Int.toNat 0)))) (.bool t363) rfl c360 rfl ?_
              refine wl_assign (.bool t363) rfl ?_
              refine wl_nil ?_
              refine qn ?_
              refine wc_ret ?_
              have h := Option.some.inj h
              subst h
              refine end1 rfl (.tmp rfl .nil) ?_
              exact ⟨_, rfl, fr369⟩
            · replace h := (if_neg c360).symm.trans h
              have b370 : ((t348 && (t341.2 == 0)) && (t341.1 == ((a1.take (Int.toNat (if 12000 < (a1.length : Int) then 12000 else (a1.length : Int)))).drop (Int.toNat 0)))) = false := Bool.eq_false_iff.2 c360
              refine wl_off (yl rfl rfl rfl) b370 ?_
              refine wl_off (yl rfl rfl rfl) b370 ?_
              refine wl_pick_f ((t348 && (t341.2 == 0)) && (t341.1 == ((a1.take (Int.toNat (if 12000 < (a1.length : Int) then 12000 else (a1.length : Int)))).drop (Int.toNat 0)))) (.bool false) rfl b370 rfl ?_
              refine wl_assign (.bool false) rfl ?_
              refine wl_nil ?_
              refine qn ?_
              refine wc_ret ?_
              have h := Option.some.inj h
              subst h
              refine end1 rfl (.tmp rfl .nil) ?_
              exact ⟨_, rfl, fr355⟩
    · replace h := (if_neg c22).symm.trans h
      cases h
  · replace h := (if_neg c21).symm.trans h
    cases h
end Go.Proofs.YtlaifpbickdpkaaDoor
