/- What the program's functions compute, and that they compute it: one contract a function, written by gw.py (own work). -/
import Derived.Test.YtlaifpbickdpkaaGreatDoorT3
namespace Go.Proofs.YtlaifpbickdpkaaGreatDoor
open Go.RowKit
set_option linter.unusedVariables false
set_option linter.unusedSimpArgs false

theorem bod25 : Bod Tryz.prog 25 := fun _ _ => by kernel_rfl
theorem bod35 : Bod Tryz.prog 35 := fun _ _ => by kernel_rfl
theorem bod36 : Bod Tryz.prog 36 := fun _ _ => by kernel_rfl
theorem bod37 : Bod Tryz.prog 37 := fun _ _ => by kernel_rfl
theorem bod38 : Bod Tryz.prog 38 := fun _ _ => by kernel_rfl
/-! ### consignor/consignorref20.nums: function 35 -/
def consignorref20_nums.f (k : Nat) (a0 : Int) : Option Int := if 0 ≤ a0 then ((([0, 1, 1, 1, 1, 3, 1, 1, 1, 2, 1, 1, 7])[Int.toNat a0]?).bind fun t9 => (some t9)) else none
set_option maxHeartbeats 1000000 in
theorem consignorref20_nums.ok (k : Nat) {w0 : World} {hw0 : Hw} (wf : Hwf w0 hw0) (a0 : Int) (r : Int) (h : consignorref20_nums.f k a0 = some r) :
    Calls Tryz.prog 35 #[.int .i64 a0] w0 fun e w' => ∃ (hw' : Hw), e = .returned (.int .i64 r) ∧ Stp none w0 hw0 w' hw' := by
  have fr0 := Stp.refl none (w := w0) (hw := hw0) wf
  unfold consignorref20_nums.f at h
  refine enter (n := 7) Tryz.func35 rfl rfl (Nat.le_of_ble_eq_true rfl) ?_
  refine wc_seq ?_
  refine wc_region ?_
  refine wl_assign (.int .i64 0) rfl ?_
  refine wl_nil ?_
  refine qn ?_
  refine wc_seq ?_
  refine wc_region ?_
  have hb1 : ∀ w : World, (Instr.buildSlice 38 13 #[(0, .int .i64 0), (1, .int .i64 1), (2, .int .i64 1), (3, .int .i64 1), (4, .int .i64 1), (5, .int .i64 3), (6, .int .i64 1), (7, .int .i64 1), (8, .int .i64 1), (9, .int .i64 2), (10, .int .i64 1), (11, .int .i64 1), (12, .int .i64 7)]).run Tryz.prog w = .ok (.slice (some ⟨w.heap.size, 0, none⟩) 13 13) (w.alloc (.cells (List.toArray [.int .i64 0, .int .i64 1, .int .i64 1, .int .i64 1, .int .i64 1, .int .i64 3, .int .i64 1, .int .i64 1, .int .i64 1, .int .i64 2, .int .i64 1, .int .i64 1, .int .i64 7]) 3)) := fun _ => by kernel_rfl
  refine wl_lit (KD := (Kint .i64)) fr0.wf [.int .i64 0, .int .i64 1, .int .i64 1, .int .i64 1, .int .i64 1, .int .i64 3, .int .i64 1, .int .i64 1, .int .i64 1, .int .i64 2, .int .i64 1, .int .i64 1, .int .i64 7] [0, 1, 1, 1, 1, 3, 1, 1, 1, 2, 1, 1, 7] (pc rfl (pc rfl (pc rfl (pc rfl (pc rfl (pc rfl (pc rfl (pc rfl (pc rfl (pc rfl (pc rfl (pc rfl (pc rfl (pn _ _)))))))))))))) (hb1 _) rfl (by decide) ⟨[.int .i64 0], _, rfl, rfl, ⟨[.int .i64 1], _, rfl, rfl, ⟨[.int .i64 1], _, rfl, rfl, ⟨[.int .i64 1], _, rfl, rfl, ⟨[.int .i64 1], _, rfl, rfl, ⟨[.int .i64 3], _, rfl, rfl, ⟨[.int .i64 1], _, rfl, rfl, ⟨[.int .i64 1], _, rfl, rfl, ⟨[.int .i64 1], _, rfl, rfl, ⟨[.int .i64 2], _, rfl, rfl, ⟨[.int .i64 1], _, rfl, rfl, ⟨[.int .i64 1], _, rfl, rfl, ⟨[.int .i64 7], _, rfl, rfl, rfl⟩⟩⟩⟩⟩⟩⟩⟩⟩⟩⟩⟩⟩ ?_
  intro v2 w3 hw4 O6 s5
  replace O6 := O6.low fr0.g.size
  have fr7 := fr0.then0 s5
  refine wl_move (.int .i64 a0) rfl ?_
  by_cases c8 : 0 ≤ a0
  · replace h := (if_pos c8).symm.trans h
    obtain ⟨t9, h10, h⟩ := Option.bind_eq_some_iff.1 h
    have c11 := at_lt c8 h10
    refine wl_at Tryz.underlying38 ty3 O6.row rfl rfl c8 c11 t9 h10 ?_
    rintro B12 o13 cs14 rfl l16
    refine wl_load1 ty3 rfl (.int .i64 t9) (l16.2 0 _ rfl) ?_
    refine wl_assign (.int .i64 t9) rfl ?_
    refine wl_nil ?_
    refine qn ?_
    refine wc_ret ?_
    have h := Option.some.inj h
    subst h
    refine end1 rfl (.tmp rfl .nil) ?_
    exact ⟨_, rfl, fr7⟩
  · replace h := (if_neg c8).symm.trans h
    cases h
/-! ### consignor/consignorref20.texts: function 36 -/
def consignorref20_texts.f (k : Nat) (a0 : Int) : Option Int := if 0 ≤ a0 then ((([0, 2, 2, 3, 2, 4, 0, 0, 0, 0, 0, 0, 3])[Int.toNat a0]?).bind fun t9 => (some t9)) else none
set_option maxHeartbeats 1000000 in
theorem consignorref20_texts.ok (k : Nat) {w0 : World} {hw0 : Hw} (wf : Hwf w0 hw0) (a0 : Int) (r : Int) (h : consignorref20_texts.f k a0 = some r) :
    Calls Tryz.prog 36 #[.int .i64 a0] w0 fun e w' => ∃ (hw' : Hw), e = .returned (.int .i64 r) ∧ Stp none w0 hw0 w' hw' := by
  have fr0 := Stp.refl none (w := w0) (hw := hw0) wf
  unfold consignorref20_texts.f at h
  refine enter (n := 7) Tryz.func36 rfl rfl (Nat.le_of_ble_eq_true rfl) ?_
  refine wc_seq ?_
  refine wc_region ?_
  refine wl_assign (.int .i64 0) rfl ?_
  refine wl_nil ?_
  refine qn ?_
  refine wc_seq ?_
  refine wc_region ?_
  have hb1 : ∀ w : World, (Instr.buildSlice 38 13 #[(0, .int .i64 0), (1, .int .i64 2), (2, .int .i64 2), (3, .int .i64 3), (4, .int .i64 2), (5, .int .i64 4), (6, .int .i64 0), (7, .int .i64 0), (8, .int .i64 0), (9, .int .i64 0), (10, .int .i64 0), (11, .int .i64 0), (12, .int .i64 3)]).run Tryz.prog w = .ok (.slice (some ⟨w.heap.size, 0, none⟩) 13 13) (w.alloc (.cells (List.toArray [.int .i64 0, .int .i64 2, .int .i64 2, .int .i64 3, .int .i64 2, .int .i64 4, .int .i64 0, .int .i64 0, .int .i64 0, .int .i64 0, .int .i64 0, .int .i64 0, .int .i64 3]) 3)) := fun _ => by kernel_rfl
  refine wl_lit (KD := (Kint .i64)) fr0.wf [.int .i64 0, .int .i64 2, .int .i64 2, .int .i64 3, .int .i64 2, .int .i64 4, .int .i64 0, .int .i64 0, .int .i64 0, .int .i64 0, .int .i64 0, .int .i64 0, .int .i64 3] [0, 2, 2, 3, 2, 4, 0, 0, 0, 0, 0, 0, 3] (pc rfl (pc rfl (pc rfl (pc rfl (pc rfl (pc rfl (pc rfl (pc rfl (pc rfl (pc rfl (pc rfl (pc rfl (pc rfl (pn _ _)))))))))))))) (hb1 _) rfl (by decide) ⟨[.int .i64 0], _, rfl, rfl, ⟨[.int .i64 2], _, rfl, rfl, ⟨[.int .i64 2], _, rfl, rfl, ⟨[.int .i64 3], _, rfl, rfl, ⟨[.int .i64 2], _, rfl, rfl, ⟨[.int .i64 4], _, rfl, rfl, ⟨[.int .i64 0], _, rfl, rfl, ⟨[.int .i64 0], _, rfl, rfl, ⟨[.int .i64 0], _, rfl, rfl, ⟨[.int .i64 0], _, rfl, rfl, ⟨[.int .i64 0], _, rfl, rfl, ⟨[.int .i64 0], _, rfl, rfl, ⟨[.int .i64 3], _, rfl, rfl, rfl⟩⟩⟩⟩⟩⟩⟩⟩⟩⟩⟩⟩⟩ ?_
  intro v2 w3 hw4 O6 s5
  replace O6 := O6.low fr0.g.size
  have fr7 := fr0.then0 s5
  refine wl_move (.int .i64 a0) rfl ?_
  by_cases c8 : 0 ≤ a0
  · replace h := (if_pos c8).symm.trans h
    obtain ⟨t9, h10, h⟩ := Option.bind_eq_some_iff.1 h
    have c11 := at_lt c8 h10
    refine wl_at Tryz.underlying38 ty3 O6.row rfl rfl c8 c11 t9 h10 ?_
    rintro B12 o13 cs14 rfl l16
    refine wl_load1 ty3 rfl (.int .i64 t9) (l16.2 0 _ rfl) ?_
    refine wl_assign (.int .i64 t9) rfl ?_
    refine wl_nil ?_
    refine qn ?_
    refine wc_ret ?_
    have h := Option.some.inj h
    subst h
    refine end1 rfl (.tmp rfl .nil) ?_
    exact ⟨_, rfl, fr7⟩
  · replace h := (if_neg c8).symm.trans h
    cases h
/-! ### consignor/consignorref20.IsDeed: function 16 -/
mutual
def consignorref20_IsDeed.l2 : Nat → ApiDeed → Int → Option Bool
  | 0, _, _ => none
  | k + 1, a0, x2514 => if x2514 < (a0.Texts.length : Int) then (if 0 ≤ x2514 then ((a0.Texts[Int.toNat x2514]?).bind fun t2528 => (if 1000 < (t2528.length : Int) then (some false) else (consignorref20_IsDeed.l2 k a0 (IntKind.i64.wrap (x2514 + 1))))) else none) else (some true)
def consignorref20_IsDeed.l1 : Nat → ApiDeed → Int → Option Bool
  | 0, _, _ => none
  | k + 1, a0, x2480 => if x2480 < (a0.Nums.length : Int) then (if 0 ≤ x2480 then ((a0.Nums[Int.toNat x2480]?).bind fun t2496 => (if ((decide (t2496 < 0)) || (decide (1099511627776 < t2496))) = true then (some false) else (consignorref20_IsDeed.l1 k a0 (IntKind.i64.wrap (x2480 + 1))))) else none) else (consignorref20_IsDeed.l2 k a0 0)
def consignorref20_IsDeed.j0 : Nat → ApiDeed → Bool → Option Bool
  | 0, _, _ => none
  | k + 1, a0, x7 => if x7 = true then (some false) else (consignorref20_IsDeed.l1 k a0 0)
end
def consignorref20_IsDeed.f (k : Nat) (a0 : ApiDeed) : Option Bool := if ((decide (a0.Kind < 1)) || (decide (12 < a0.Kind))) = true then (consignorref20_IsDeed.j0 k a0 true) else ((consignorref20_nums.f k a0.Kind).bind fun t1476 => (if ((a0.Nums.length : Int) != t1476) = true then (consignorref20_IsDeed.j0 k a0 true) else ((consignorref20_texts.f k a0.Kind).bind fun t1965 => (consignorref20_IsDeed.j0 k a0 ((a0.Texts.length : Int) != t1965)))))
set_option maxHeartbeats 1000000 in
theorem consignorref20_IsDeed.ok (k : Nat) {w0 : World} {hw0 : Hw} (wf : Hwf w0 hw0) (a0 : ApiDeed) (v0_1 : Value) (q0_1 : Row (Kint .i64) w0 hw0 v0_1 a0.Nums) (v0_2 : Value) (q0_2 : Row Kstr w0 hw0 v0_2 a0.Texts) (r : Bool) (h : consignorref20_IsDeed.f k a0 = some r) :
    Calls Tryz.prog 16 #[.agg #[.int .i64 a0.Kind, v0_1, v0_2]] w0 fun e w' => ∃ (hw' : Hw), e = .returned (.bool r) ∧ Stp none w0 hw0 w' hw' := by
  have fr0 := Stp.refl none (w := w0) (hw := hw0) wf
  unfold consignorref20_IsDeed.f at h
  refine enter (n := 58) Tryz.func16 rfl rfl (Nat.le_of_ble_eq_true rfl) ?_
  refine wc_seq ?_
  refine wc_region ?_
  refine wl_box fr0.wf fr0.g.size [.int .i64 a0.Kind, v0_1, v0_2] (cells_of (v := (.agg #[.int .i64 a0.Kind, v0_1, v0_2])) rfl rfl) ?_
  intro b1 w2 s3 B4 g5
  have fr6 := fr0.then0 s3
  refine wl_assign (.bool false) rfl ?_
  refine wl_nil ?_
  refine qn ?_
  refine wc_seq ?_
  refine wc_cut (fun a w => ∃ (σ : Nat → Value) (hw : Hw) (kq : Nat) (x7 : Bool), a = mkA 58 σ ∧ kq ≤ k ∧ kq ≤ k ∧ Stp none w0 hw0 w hw ∧ Ext w2 hw0 w hw ∧ σ 1 = .pointer (some ⟨b1, 0, none⟩) ∧ σ 32 = .bool x7 ∧ Box w0.heap.size w hw b1 41 [.int .i64 a0.Kind, v0_1, v0_2] ∧ consignorref20_IsDeed.j0 kq a0 x7 = some r) ?_ ?_
  · skip
    have s8 := Stp.drew (w := w2) (hw := hw0) fr6.wf
    have fr9 := fr6.then0 s8
    have B10 := (B4.step0 s8)
    by_cases c1012 : ((decide (a0.Kind < 1)) || (decide (12 < a0.Kind))) = true
    · replace h := (if_pos c1012).symm.trans h
      refine wc_any (hw := hw0) mixed [[], [0], [1], [2], [3], [4, 3], [5, 3], [3, 6], [7, 3], [8], [9, 8], [10, 8], [8], [12, 8], [13, 8, 8], [11, 14, 8], [8, 15], [16, 14], [17], [18, 17], [19, 17], [17], [21, 17], [22, 17, 17], [20, 23, 17], [17, 24]] [7, 8, 9, 10, 11, 12, 13, 14, 15, 16, 17, 18, 19, 20, 21, 22, 23, 24, 25, 26, 27, 28, 29, 30, 31, 32] (by kernel_rfl) (PhiOf [fun v w hw => v = .pointer (some ⟨b1, 0, none⟩), fun v w hw => v = .int .i64 a0.Kind, fun v w hw => v = .bool (decide (a0.Kind < 1)), fun v w hw => v = .bool (decide (a0.Kind < 1)), fun v w hw => (decide (a0.Kind < 1)) = false → v = .pointer (some ⟨b1, 0, none⟩), fun v w hw => (decide (a0.Kind < 1)) = false → v = .int .i64 a0.Kind, fun v w hw => (decide (a0.Kind < 1)) = false → v = .bool (decide (12 < a0.Kind)), fun v w hw => v = .bool ((decide (a0.Kind < 1)) || (decide (12 < a0.Kind))), fun v w hw => v = .bool ((decide (a0.Kind < 1)) || (decide (12 < a0.Kind))), fun v w hw => v = undef, fun v w hw => v = undef, fun v w hw => v = undef, fun v w hw => v = undef, fun v w hw => v = undef, fun v w hw => v = undef, fun v w hw => v = undef, fun v w hw => v = .bool true, fun v w hw => v = .bool true, fun v w hw => v = undef, fun v w hw => v = undef, fun v w hw => v = undef, fun v w hw => v = undef, fun v w hw => v = undef, fun v w hw => v = undef, fun v w hw => v = undef, fun v w hw => v = .bool true]) (fun D σ w hw => Stp none w0 hw0 w hw ∧ Ext (w2).drew hw0 w hw ∧ Box w0.heap.size w hw b1 41 [.int .i64 a0.Kind, v0_1, v0_2]) (stab_of (sbc (fun _ _ _ _ _ _ h => h) (sbc (fun _ _ _ _ _ _ h => h) (sbc (fun _ _ _ _ _ _ h => h) (sbc (fun _ _ _ _ _ _ h => h) (sbc (fun _ _ _ _ _ _ h => h) (sbc (fun _ _ _ _ _ _ h => h) (sbc (fun _ _ _ _ _ _ h => h) (sbc (fun _ _ _ _ _ _ h => h) (sbc (fun _ _ _ _ _ _ h => h) (sbc (fun _ _ _ _ _ _ h => h) (sbc (fun _ _ _ _ _ _ h => h) (sbc (fun _ _ _ _ _ _ h => h) (sbc (fun _ _ _ _ _ _ h => h) (sbc (fun _ _ _ _ _ _ h => h) (sbc (fun _ _ _ _ _ _ h => h) (sbc (fun _ _ _ _ _ _ h => h) (sbc (fun _ _ _ _ _ _ h => h) (sbc (fun _ _ _ _ _ _ h => h) (sbc (fun _ _ _ _ _ _ h => h) (sbc (fun _ _ _ _ _ _ h => h) (sbc (fun _ _ _ _ _ _ h => h) (sbc (fun _ _ _ _ _ _ h => h) (sbc (fun _ _ _ _ _ _ h => h) (sbc (fun _ _ _ _ _ _ h => h) (sbc (fun _ _ _ _ _ _ h => h) (sbc (fun _ _ _ _ _ _ h => h) sbn))))))))))))))))))))))))))) ?_ (stc ?_ (stc ?_ (stc ?_ (stc ?_ (stc ?_ (stc ?_ (stc ?_ (stc ?_ (stc ?_ (stc ?_ (stc ?_ (stc ?_ (stc ?_ (stc ?_ (stc ?_ (stc ?_ (stc ?_ (stc ?_ (stc ?_ (stc ?_ (stc ?_ (stc ?_ (stc ?_ (stc ?_ (stc ?_ (stc ?_ stn)))))))))))))))))))))))))) ?_
      · exact ⟨fr9, Ext.refl _ _, B10⟩
      · intro D1013 σ1014 w1015 hw1016 q1017 q1018 q1019 q1020 q1021 q1022
        obtain ⟨fr1023, e1024, C1025⟩ := q1017
        refine wl_field fld41_0 ((q1020 1 rfl).trans rfl) ?_
        refine wl_nil ?_
        exact qn ⟨_, _, rfl, (Ext.refl _ _), ⟨fr1023, e1024.trans (Ext.refl _ _), C1025⟩, (aft_some rfl)⟩
      · intro D1026 σ1027 w1028 hw1029 q1030 q1031 q1032 q1033 q1034 q1035
        obtain ⟨fr1036, e1037, C1038⟩ := q1030
        obtain ⟨⟨_, m1039⟩, _⟩ := q1032
        have z1040 : (σ1027 7) = .pointer (some ⟨b1, 0, none⟩) := m1039
        refine wl_loadb1 C1038 ty3 z1040 (.int .i64 a0.Kind) rfl ?_
        refine wl_nil ?_
        exact qn ⟨_, _, rfl, (Ext.refl _ _), ⟨fr1036, e1037.trans (Ext.refl _ _), C1038⟩, (aft_some rfl)⟩
      · intro D1041 σ1042 w1043 hw1044 q1045 q1046 q1047 q1048 q1049 q1050
        obtain ⟨fr1051, e1052, C1053⟩ := q1045
        obtain ⟨⟨_, m1054⟩, _⟩ := q1047
        have z1055 : (σ1042 8) = .int .i64 a0.Kind := m1054
        refine wl_lss z1055 rfl ?_
        refine wl_nil ?_
        exact qn ⟨_, _, rfl, (Ext.refl _ _), ⟨fr1051, e1052.trans (Ext.refl _ _), C1053⟩, (aft_some rfl)⟩
      · intro D1056 σ1057 w1058 hw1059 q1060 q1061 q1062 q1063 q1064 q1065
        obtain ⟨fr1066, e1067, C1068⟩ := q1060
        obtain ⟨⟨_, m1069⟩, _⟩ := q1062
        have z1070 : (σ1057 9) = .bool (decide (a0.Kind < 1)) := m1069
        refine wl_move (.bool (decide (a0.Kind < 1))) z1070 ?_
        refine wl_nil ?_
        exact qn ⟨_, _, rfl, (Ext.refl _ _), ⟨fr1066, e1067.trans (Ext.refl _ _), C1068⟩, (aft_some rfl)⟩
      · intro D1071 σ1072 w1073 hw1074 q1075 q1076 q1077 q1078 q1079 q1080
        obtain ⟨fr1081, e1082, C1083⟩ := q1075
        obtain ⟨⟨_, m1084⟩, _⟩ := q1077
        have z1085 : (σ1072 10) = .bool (decide (a0.Kind < 1)) := m1084
        rcases Bool.eq_false_or_eq_true (decide (a0.Kind < 1)) with hc1086 | hc1086
        · skip
          refine wl_off (yl rfl rfl z1085) hc1086 ?_
          refine wl_nil ?_
          exact qn ⟨_, _, rfl, (Ext.refl _ _), ⟨fr1081, e1082.trans (Ext.refl _ _), C1083⟩, (aft_some (fun hh => by rw [hc1086] at hh; cases hh))⟩
        · skip
          refine wl_on (yl rfl rfl z1085) hc1086 ?_
          refine wl_field fld41_0 ((q1078 1 rfl).trans rfl) ?_
          refine wl_nil ?_
          exact qn ⟨_, _, rfl, (Ext.refl _ _), ⟨fr1081, e1082.trans (Ext.refl _ _), C1083⟩, (aft_some (fun _ => rfl))⟩
      · intro D1087 σ1088 w1089 hw1090 q1091 q1092 q1093 q1094 q1095 q1096
        obtain ⟨fr1097, e1098, C1099⟩ := q1091
        obtain ⟨⟨_, m1100⟩, ⟨_, m1101⟩, _⟩ := q1093
        have z1102 : (σ1088 10) = .bool (decide (a0.Kind < 1)) := m1101
        rcases Bool.eq_false_or_eq_true (decide (a0.Kind < 1)) with hc1103 | hc1103
        · skip
          refine wl_off (yl rfl rfl z1102) hc1103 ?_
          refine wl_nil ?_
          exact qn ⟨_, _, rfl, (Ext.refl _ _), ⟨fr1097, e1098.trans (Ext.refl _ _), C1099⟩, (aft_some (fun hh => by rw [hc1103] at hh; cases hh))⟩
        · skip
          have z1104 : (σ1088 11) = .pointer (some ⟨b1, 0, none⟩) := m1100 hc1103
          refine wl_on (yl rfl rfl z1102) hc1103 ?_
          refine wl_loadb1 C1099 ty3 z1104 (.int .i64 a0.Kind) rfl ?_
          refine wl_nil ?_
          exact qn ⟨_, _, rfl, (Ext.refl _ _), ⟨fr1097, e1098.trans (Ext.refl _ _), C1099⟩, (aft_some (fun _ => rfl))⟩
      · intro D1105 σ1106 w1107 hw1108 q1109 q1110 q1111 q1112 q1113 q1114
        obtain ⟨fr1115, e1116, C1117⟩ := q1109
        obtain ⟨⟨_, m1118⟩, ⟨_, m1119⟩, _⟩ := q1111
        have z1120 : (σ1106 10) = .bool (decide (a0.Kind < 1)) := m1119
        rcases Bool.eq_false_or_eq_true (decide (a0.Kind < 1)) with hc1121 | hc1121
        · skip
          refine wl_off (yl rfl rfl z1120) hc1121 ?_
          refine wl_nil ?_
          exact qn ⟨_, _, rfl, (Ext.refl _ _), ⟨fr1115, e1116.trans (Ext.refl _ _), C1117⟩, (aft_some (fun hh => by rw [hc1121] at hh; cases hh))⟩
        · skip
          have z1122 : (σ1106 12) = .int .i64 a0.Kind := m1118 hc1121
          refine wl_on (yl rfl rfl z1120) hc1121 ?_
          refine wl_gtr z1122 rfl ?_
          refine wl_nil ?_
          exact qn ⟨_, _, rfl, (Ext.refl _ _), ⟨fr1115, e1116.trans (Ext.refl _ _), C1117⟩, (aft_some (fun _ => rfl))⟩
      · intro D1123 σ1124 w1125 hw1126 q1127 q1128 q1129 q1130 q1131 q1132
        obtain ⟨fr1133, e1134, C1135⟩ := q1127
        obtain ⟨⟨_, m1136⟩, ⟨_, m1137⟩, _⟩ := q1129
        have z1138 : (σ1124 10) = .bool (decide (a0.Kind < 1)) := m1136
        rcases Bool.eq_false_or_eq_true (decide (a0.Kind < 1)) with hc1139 | hc1139
        · skip
          refine wl_pick_t (decide (a0.Kind < 1)) (.bool true) z1138 hc1139 rfl ?_
          refine wl_nil ?_
          exact qn ⟨_, _, rfl, (Ext.refl _ _), ⟨fr1133, e1134.trans (Ext.refl _ _), C1135⟩, (aft_some (by rw [hc1139]; rfl))⟩
        · skip
          have z1140 : (σ1124 13) = .bool (decide (12 < a0.Kind)) := m1137 hc1139
          refine wl_pick_f (decide (a0.Kind < 1)) (.bool (decide (12 < a0.Kind))) z1138 hc1139 z1140 ?_
          refine wl_nil ?_
          exact qn ⟨_, _, rfl, (Ext.refl _ _), ⟨fr1133, e1134.trans (Ext.refl _ _), C1135⟩, (aft_some (by rw [hc1139]; rfl))⟩
      · intro D1141 σ1142 w1143 hw1144 q1145 q1146 q1147 q1148 q1149 q1150
        obtain ⟨fr1151, e1152, C1153⟩ := q1145
        obtain ⟨⟨_, m1154⟩, ⟨_, m1155⟩, _⟩ := q1147
        have z1156 : (σ1142 14) = .bool ((decide (a0.Kind < 1)) || (decide (12 < a0.Kind))) := m1154
        have z1157 : (σ1142 10) = .bool (decide (a0.Kind < 1)) := m1155
        refine wl_move (.bool ((decide (a0.Kind < 1)) || (decide (12 < a0.Kind)))) z1156 ?_
        refine wl_nil ?_
        exact qn ⟨_, _, rfl, (Ext.refl _ _), ⟨fr1151, e1152.trans (Ext.refl _ _), C1153⟩, (aft_some rfl)⟩
      · intro D1158 σ1159 w1160 hw1161 q1162 q1163 q1164 q1165 q1166 q1167
        obtain ⟨fr1168, e1169, C1170⟩ := q1162
        obtain ⟨⟨_, m1171⟩, _⟩ := q1164
        have z1172 : (σ1159 15) = .bool ((decide (a0.Kind < 1)) || (decide (12 < a0.Kind))) := m1171
        refine wl_off (yl rfl rfl z1172) c1012 ?_
        refine wl_nil ?_
        exact qn ⟨_, _, rfl, (Ext.refl _ _), ⟨fr1168, e1169.trans (Ext.refl _ _), C1170⟩, (aft_some rfl)⟩
      · intro D1173 σ1174 w1175 hw1176 q1177 q1178 q1179 q1180 q1181 q1182
        obtain ⟨fr1183, e1184, C1185⟩ := q1177
        obtain ⟨⟨_, m1186⟩, ⟨_, m1187⟩, _⟩ := q1179
        have z1188 : (σ1174 15) = .bool ((decide (a0.Kind < 1)) || (decide (12 < a0.Kind))) := m1187
        refine wl_off (yl rfl rfl z1188) c1012 ?_
        refine wl_nil ?_
        exact qn ⟨_, _, rfl, (Ext.refl _ _), ⟨fr1183, e1184.trans (Ext.refl _ _), C1185⟩, (aft_some rfl)⟩
      · intro D1189 σ1190 w1191 hw1192 q1193 q1194 q1195 q1196 q1197 q1198
        obtain ⟨fr1199, e1200, C1201⟩ := q1193
        obtain ⟨⟨_, m1202⟩, ⟨_, m1203⟩, _⟩ := q1195
        have z1204 : (σ1190 15) = .bool ((decide (a0.Kind < 1)) || (decide (12 < a0.Kind))) := m1203
        refine wl_off (yl rfl rfl z1204) c1012 ?_
        refine wl_nil ?_
        exact qn ⟨_, _, rfl, (Ext.refl _ _), ⟨fr1199, e1200.trans (Ext.refl _ _), C1201⟩, (aft_some rfl)⟩
      · intro D1205 σ1206 w1207 hw1208 q1209 q1210 q1211 q1212 q1213 q1214
        obtain ⟨fr1215, e1216, C1217⟩ := q1209
        obtain ⟨⟨_, m1218⟩, _⟩ := q1211
        have z1219 : (σ1206 15) = .bool ((decide (a0.Kind < 1)) || (decide (12 < a0.Kind))) := m1218
        refine wl_off (yl rfl rfl z1219) c1012 ?_
        refine wl_nil ?_
        exact qn ⟨_, _, rfl, (Ext.refl _ _), ⟨fr1215, e1216.trans (Ext.refl _ _), C1217⟩, (aft_some rfl)⟩
      · intro D1220 σ1221 w1222 hw1223 q1224 q1225 q1226 q1227 q1228 q1229
        obtain ⟨fr1230, e1231, C1232⟩ := q1224
        obtain ⟨⟨_, m1233⟩, ⟨_, m1234⟩, _⟩ := q1226
        have z1235 : (σ1221 15) = .bool ((decide (a0.Kind < 1)) || (decide (12 < a0.Kind))) := m1234
        refine wl_off (yl rfl rfl z1235) c1012 ?_
        refine wl_nil ?_
        exact qn ⟨_, _, rfl, (Ext.refl _ _), ⟨fr1230, e1231.trans (Ext.refl _ _), C1232⟩, (aft_some rfl)⟩
      · intro D1236 σ1237 w1238 hw1239 q1240 q1241 q1242 q1243 q1244 q1245
        obtain ⟨fr1246, e1247, C1248⟩ := q1240
        obtain ⟨⟨_, m1249⟩, ⟨_, m1250⟩, ⟨_, m1251⟩, _⟩ := q1242
        have z1252 : (σ1237 15) = .bool ((decide (a0.Kind < 1)) || (decide (12 < a0.Kind))) := m1250
        have z1253 : (σ1237 15) = .bool ((decide (a0.Kind < 1)) || (decide (12 < a0.Kind))) := m1251
        refine wl_off (yl rfl rfl z1253) c1012 ?_
        refine wl_nil ?_
        exact qn ⟨_, _, rfl, (Ext.refl _ _), ⟨fr1246, e1247.trans (Ext.refl _ _), C1248⟩, (aft_some rfl)⟩
      · intro D1254 σ1255 w1256 hw1257 q1258 q1259 q1260 q1261 q1262 q1263
        obtain ⟨fr1264, e1265, C1266⟩ := q1258
        obtain ⟨⟨_, m1267⟩, ⟨_, m1268⟩, ⟨_, m1269⟩, _⟩ := q1260
        have z1270 : (σ1255 15) = .bool ((decide (a0.Kind < 1)) || (decide (12 < a0.Kind))) := m1269
        refine wl_off (yl rfl rfl z1270) c1012 ?_
        refine wl_nil ?_
        exact qn ⟨_, _, rfl, (Ext.refl _ _), ⟨fr1264, e1265.trans (Ext.refl _ _), C1266⟩, (aft_some rfl)⟩
      · intro D1271 σ1272 w1273 hw1274 q1275 q1276 q1277 q1278 q1279 q1280
        obtain ⟨fr1281, e1282, C1283⟩ := q1275
        obtain ⟨⟨_, m1284⟩, ⟨_, m1285⟩, _⟩ := q1277
        have z1286 : (σ1272 15) = .bool ((decide (a0.Kind < 1)) || (decide (12 < a0.Kind))) := m1284
        have z1287 : (σ1272 22) = undef := m1285
        refine wl_pick_t ((decide (a0.Kind < 1)) || (decide (12 < a0.Kind))) (.bool true) z1286 c1012 rfl ?_
        refine wl_nil ?_
        exact qn ⟨_, _, rfl, (Ext.refl _ _), ⟨fr1281, e1282.trans (Ext.refl _ _), C1283⟩, (aft_some rfl)⟩
      · intro D1288 σ1289 w1290 hw1291 q1292 q1293 q1294 q1295 q1296 q1297
        obtain ⟨fr1298, e1299, C1300⟩ := q1292
        obtain ⟨⟨_, m1301⟩, ⟨_, m1302⟩, _⟩ := q1294
        have z1303 : (σ1289 23) = .bool true := m1301
        have z1304 : (σ1289 21) = undef := m1302
        refine wl_move (.bool true) z1303 ?_
        refine wl_nil ?_
        exact qn ⟨_, _, rfl, (Ext.refl _ _), ⟨fr1298, e1299.trans (Ext.refl _ _), C1300⟩, (aft_some rfl)⟩
      · intro D1305 σ1306 w1307 hw1308 q1309 q1310 q1311 q1312 q1313 q1314
        obtain ⟨fr1315, e1316, C1317⟩ := q1309
        obtain ⟨⟨_, m1318⟩, _⟩ := q1311
        have z1319 : (σ1306 24) = .bool true := m1318
        refine wl_off (yl rfl rfl z1319) rfl ?_
        refine wl_nil ?_
        exact qn ⟨_, _, rfl, (Ext.refl _ _), ⟨fr1315, e1316.trans (Ext.refl _ _), C1317⟩, (aft_some rfl)⟩
      · intro D1320 σ1321 w1322 hw1323 q1324 q1325 q1326 q1327 q1328 q1329
        obtain ⟨fr1330, e1331, C1332⟩ := q1324
        obtain ⟨⟨_, m1333⟩, ⟨_, m1334⟩, _⟩ := q1326
        have z1335 : (σ1321 24) = .bool true := m1334
        refine wl_off (yl rfl rfl z1335) rfl ?_
        refine wl_nil ?_
        exact qn ⟨_, _, rfl, (Ext.refl _ _), ⟨fr1330, e1331.trans (Ext.refl _ _), C1332⟩, (aft_some rfl)⟩
      · intro D1336 σ1337 w1338 hw1339 q1340 q1341 q1342 q1343 q1344 q1345
        obtain ⟨fr1346, e1347, C1348⟩ := q1340
        obtain ⟨⟨_, m1349⟩, ⟨_, m1350⟩, _⟩ := q1342
        have z1351 : (σ1337 24) = .bool true := m1350
        refine wl_off (yl rfl rfl z1351) rfl ?_
        refine wl_nil ?_
        exact qn ⟨_, _, rfl, (Ext.refl _ _), ⟨fr1346, e1347.trans (Ext.refl _ _), C1348⟩, (aft_some rfl)⟩
      · intro D1352 σ1353 w1354 hw1355 q1356 q1357 q1358 q1359 q1360 q1361
        obtain ⟨fr1362, e1363, C1364⟩ := q1356
        obtain ⟨⟨_, m1365⟩, _⟩ := q1358
        have z1366 : (σ1353 24) = .bool true := m1365
        refine wl_off (yl rfl rfl z1366) rfl ?_
        refine wl_nil ?_
        exact qn ⟨_, _, rfl, (Ext.refl _ _), ⟨fr1362, e1363.trans (Ext.refl _ _), C1364⟩, (aft_some rfl)⟩
      · intro D1367 σ1368 w1369 hw1370 q1371 q1372 q1373 q1374 q1375 q1376
        obtain ⟨fr1377, e1378, C1379⟩ := q1371
        obtain ⟨⟨_, m1380⟩, ⟨_, m1381⟩, _⟩ := q1373
        have z1382 : (σ1368 24) = .bool true := m1381
        refine wl_off (yl rfl rfl z1382) rfl ?_
        refine wl_nil ?_
        exact qn ⟨_, _, rfl, (Ext.refl _ _), ⟨fr1377, e1378.trans (Ext.refl _ _), C1379⟩, (aft_some rfl)⟩
      · intro D1383 σ1384 w1385 hw1386 q1387 q1388 q1389 q1390 q1391 q1392
        obtain ⟨fr1393, e1394, C1395⟩ := q1387
        obtain ⟨⟨_, m1396⟩, ⟨_, m1397⟩, ⟨_, m1398⟩, _⟩ := q1389
        have z1399 : (σ1384 24) = .bool true := m1397
        have z1400 : (σ1384 24) = .bool true := m1398
        refine wl_off (yl rfl rfl z1400) rfl ?_
        refine wl_nil ?_
        exact qn ⟨_, _, rfl, (Ext.refl _ _), ⟨fr1393, e1394.trans (Ext.refl _ _), C1395⟩, (aft_some rfl)⟩
      · intro D1401 σ1402 w1403 hw1404 q1405 q1406 q1407 q1408 q1409 q1410
        obtain ⟨fr1411, e1412, C1413⟩ := q1405
        obtain ⟨⟨_, m1414⟩, ⟨_, m1415⟩, ⟨_, m1416⟩, _⟩ := q1407
        have z1417 : (σ1402 24) = .bool true := m1416
        refine wl_off (yl rfl rfl z1417) rfl ?_
        refine wl_nil ?_
        exact qn ⟨_, _, rfl, (Ext.refl _ _), ⟨fr1411, e1412.trans (Ext.refl _ _), C1413⟩, (aft_some rfl)⟩
      · intro D1418 σ1419 w1420 hw1421 q1422 q1423 q1424 q1425 q1426 q1427
        obtain ⟨fr1428, e1429, C1430⟩ := q1422
        obtain ⟨⟨_, m1431⟩, ⟨_, m1432⟩, _⟩ := q1424
        have z1433 : (σ1419 24) = .bool true := m1431
        have z1434 : (σ1419 31) = undef := m1432
        refine wl_pick_t true (.bool true) z1433 rfl rfl ?_
        refine wl_nil ?_
        exact qn ⟨_, _, rfl, (Ext.refl _ _), ⟨fr1428, e1429.trans (Ext.refl _ _), C1430⟩, (aft_some rfl)⟩
      · intro σ1435 w1436 hw1437 q1438 q1439 q1440
        obtain ⟨fr1441, e1442, C1443⟩ := q1438
        obtain ⟨m1444, m1445, m1446, m1447, m1448, m1449, m1450, m1451, m1452, m1453, m1454, m1455, m1456, m1457, m1458, m1459, m1460, m1461, m1462, m1463, m1464, m1465, m1466, m1467, m1468, m1469, _⟩ := q1440
        have z1470 : (σ1435 32) = .bool true := m1469
        refine qn ?_
        exact ⟨_, _, _, true, rfl, (by omega), (by omega), fr1441, (Ext.trans s8.ext e1442), ((q1439 1 rfl).trans rfl), z1470, C1443, h⟩
    · replace h := (if_neg c1012).symm.trans h
      have b1471 : ((decide (a0.Kind < 1)) || (decide (12 < a0.Kind))) = false := Bool.eq_false_iff.2 c1012
      obtain ⟨t1476, h1477, h⟩ := Option.bind_eq_some_iff.1 h
      by_cases c1483 : ((a0.Nums.length : Int) != t1476) = true
      · replace h := (if_pos c1483).symm.trans h
        refine wc_any (hw := hw0) mixed [[], [0], [1], [2], [3], [4, 3], [5, 3], [3, 6], [7, 3], [8], [9, 8], [10, 8], [8], [12, 8], [13, 8, 8], [11, 14, 8], [8, 15], [16, 14], [17], [18, 17], [19, 17], [17], [21, 17], [22, 17, 17], [20, 23, 17], [17, 24]] [7, 8, 9, 10, 11, 12, 13, 14, 15, 16, 17, 18, 19, 20, 21, 22, 23, 24, 25, 26, 27, 28, 29, 30, 31, 32] (by kernel_rfl) (PhiOf [fun v w hw => v = .pointer (some ⟨b1, 0, none⟩), fun v w hw => v = .int .i64 a0.Kind, fun v w hw => v = .bool (decide (a0.Kind < 1)), fun v w hw => v = .bool (decide (a0.Kind < 1)), fun v w hw => (decide (a0.Kind < 1)) = false → v = .pointer (some ⟨b1, 0, none⟩), fun v w hw => (decide (a0.Kind < 1)) = false → v = .int .i64 a0.Kind, fun v w hw => (decide (a0.Kind < 1)) = false → v = .bool (decide (12 < a0.Kind)), fun v w hw => v = .bool ((decide (a0.Kind < 1)) || (decide (12 < a0.Kind))), fun v w hw => v = .bool ((decide (a0.Kind < 1)) || (decide (12 < a0.Kind))), fun v w hw => v = .pointer (some ⟨b1, 1, none⟩), fun v w hw => v = v0_1, fun v w hw => v = .int .i64 (a0.Nums.length : Int), fun v w hw => v = .pointer (some ⟨b1, 0, none⟩), fun v w hw => v = .int .i64 a0.Kind, fun v w hw => v = .int .i64 t1476, fun v w hw => v = .bool ((a0.Nums.length : Int) != t1476), fun v w hw => v = .bool ((a0.Nums.length : Int) != t1476), fun v w hw => v = .bool ((a0.Nums.length : Int) != t1476), fun v w hw => v = undef, fun v w hw => v = undef, fun v w hw => v = undef, fun v w hw => v = undef, fun v w hw => v = undef, fun v w hw => v = undef, fun v w hw => v = undef, fun v w hw => v = .bool true]) (fun D σ w hw => Stp none w0 hw0 w hw ∧ Ext (w2).drew hw0 w hw ∧ Box w0.heap.size w hw b1 41 [.int .i64 a0.Kind, v0_1, v0_2]) (stab_of (sbc (fun _ _ _ _ _ _ h => h) (sbc (fun _ _ _ _ _ _ h => h) (sbc (fun _ _ _ _ _ _ h => h) (sbc (fun _ _ _ _ _ _ h => h) (sbc (fun _ _ _ _ _ _ h => h) (sbc (fun _ _ _ _ _ _ h => h) (sbc (fun _ _ _ _ _ _ h => h) (sbc (fun _ _ _ _ _ _ h => h) (sbc (fun _ _ _ _ _ _ h => h) (sbc (fun _ _ _ _ _ _ h => h) (sbc (fun _ _ _ _ _ _ h => h) (sbc (fun _ _ _ _ _ _ h => h) (sbc (fun _ _ _ _ _ _ h => h) (sbc (fun _ _ _ _ _ _ h => h) (sbc (fun _ _ _ _ _ _ h => h) (sbc (fun _ _ _ _ _ _ h => h) (sbc (fun _ _ _ _ _ _ h => h) (sbc (fun _ _ _ _ _ _ h => h) (sbc (fun _ _ _ _ _ _ h => h) (sbc (fun _ _ _ _ _ _ h => h) (sbc (fun _ _ _ _ _ _ h => h) (sbc (fun _ _ _ _ _ _ h => h) (sbc (fun _ _ _ _ _ _ h => h) (sbc (fun _ _ _ _ _ _ h => h) (sbc (fun _ _ _ _ _ _ h => h) (sbc (fun _ _ _ _ _ _ h => h) sbn))))))))))))))))))))))))))) ?_ (stc ?_ (stc ?_ (stc ?_ (stc ?_ (stc ?_ (stc ?_ (stc ?_ (stc ?_ (stc ?_ (stc ?_ (stc ?_ (stc ?_ (stc ?_ (stc ?_ (stc ?_ (stc ?_ (stc ?_ (stc ?_ (stc ?_ (stc ?_ (stc ?_ (stc ?_ (stc ?_ (stc ?_ (stc ?_ (stc ?_ stn)))))))))))))))))))))))))) ?_
        · exact ⟨fr9, Ext.refl _ _, B10⟩
        · intro D1484 σ1485 w1486 hw1487 q1488 q1489 q1490 q1491 q1492 q1493
          obtain ⟨fr1494, e1495, C1496⟩ := q1488
          refine wl_field fld41_0 ((q1491 1 rfl).trans rfl) ?_
          refine wl_nil ?_
          exact qn ⟨_, _, rfl, (Ext.refl _ _), ⟨fr1494, e1495.trans (Ext.refl _ _), C1496⟩, (aft_some rfl)⟩
        · intro D1497 σ1498 w1499 hw1500 q1501 q1502 q1503 q1504 q1505 q1506
          obtain ⟨fr1507, e1508, C1509⟩ := q1501
          obtain ⟨⟨_, m1510⟩, _⟩ := q1503
          have z1511 : (σ1498 7) = .pointer (some ⟨b1, 0, none⟩) := m1510
          refine wl_loadb1 C1509 ty3 z1511 (.int .i64 a0.Kind) rfl ?_
          refine wl_nil ?_
          exact qn ⟨_, _, rfl, (Ext.refl _ _), ⟨fr1507, e1508.trans (Ext.refl _ _), C1509⟩, (aft_some rfl)⟩
        · intro D1512 σ1513 w1514 hw1515 q1516 q1517 q1518 q1519 q1520 q1521
          obtain ⟨fr1522, e1523, C1524⟩ := q1516
          obtain ⟨⟨_, m1525⟩, _⟩ := q1518
          have z1526 : (σ1513 8) = .int .i64 a0.Kind := m1525
          refine wl_lss z1526 rfl ?_
          refine wl_nil ?_
          exact qn ⟨_, _, rfl, (Ext.refl _ _), ⟨fr1522, e1523.trans (Ext.refl _ _), C1524⟩, (aft_some rfl)⟩
        · intro D1527 σ1528 w1529 hw1530 q1531 q1532 q1533 q1534 q1535 q1536
          obtain ⟨fr1537, e1538, C1539⟩ := q1531
          obtain ⟨⟨_, m1540⟩, _⟩ := q1533
          have z1541 : (σ1528 9) = .bool (decide (a0.Kind < 1)) := m1540
          refine wl_move (.bool (decide (a0.Kind < 1))) z1541 ?_
          refine wl_nil ?_
          exact qn ⟨_, _, rfl, (Ext.refl _ _), ⟨fr1537, e1538.trans (Ext.refl _ _), C1539⟩, (aft_some rfl)⟩
        · intro D1542 σ1543 w1544 hw1545 q1546 q1547 q1548 q1549 q1550 q1551
          obtain ⟨fr1552, e1553, C1554⟩ := q1546
          obtain ⟨⟨_, m1555⟩, _⟩ := q1548
          have z1556 : (σ1543 10) = .bool (decide (a0.Kind < 1)) := m1555
          rcases Bool.eq_false_or_eq_true (decide (a0.Kind < 1)) with hc1557 | hc1557
          · skip
            refine wl_off (yl rfl rfl z1556) hc1557 ?_
            refine wl_nil ?_
            exact qn ⟨_, _, rfl, (Ext.refl _ _), ⟨fr1552, e1553.trans (Ext.refl _ _), C1554⟩, (aft_some (fun hh => by rw [hc1557] at hh; cases hh))⟩
          · skip
            refine wl_on (yl rfl rfl z1556) hc1557 ?_
            refine wl_field fld41_0 ((q1549 1 rfl).trans rfl) ?_
            refine wl_nil ?_
            exact qn ⟨_, _, rfl, (Ext.refl _ _), ⟨fr1552, e1553.trans (Ext.refl _ _), C1554⟩, (aft_some (fun _ => rfl))⟩
        · intro D1558 σ1559 w1560 hw1561 q1562 q1563 q1564 q1565 q1566 q1567
          obtain ⟨fr1568, e1569, C1570⟩ := q1562
          obtain ⟨⟨_, m1571⟩, ⟨_, m1572⟩, _⟩ := q1564
          have z1573 : (σ1559 10) = .bool (decide (a0.Kind < 1)) := m1572
          rcases Bool.eq_false_or_eq_true (decide (a0.Kind < 1)) with hc1574 | hc1574
          · skip
            refine wl_off (yl rfl rfl z1573) hc1574 ?_
            refine wl_nil ?_
            exact qn ⟨_, _, rfl, (Ext.refl _ _), ⟨fr1568, e1569.trans (Ext.refl _ _), C1570⟩, (aft_some (fun hh => by rw [hc1574] at hh; cases hh))⟩
          · skip
            have z1575 : (σ1559 11) = .pointer (some ⟨b1, 0, none⟩) := m1571 hc1574
            refine wl_on (yl rfl rfl z1573) hc1574 ?_
            refine wl_loadb1 C1570 ty3 z1575 (.int .i64 a0.Kind) rfl ?_
            refine wl_nil ?_
            exact qn ⟨_, _, rfl, (Ext.refl _ _), ⟨fr1568, e1569.trans (Ext.refl _ _), C1570⟩, (aft_some (fun _ => rfl))⟩
        · intro D1576 σ1577 w1578 hw1579 q1580 q1581 q1582 q1583 q1584 q1585
          obtain ⟨fr1586, e1587, C1588⟩ := q1580
          obtain ⟨⟨_, m1589⟩, ⟨_, m1590⟩, _⟩ := q1582
          have z1591 : (σ1577 10) = .bool (decide (a0.Kind < 1)) := m1590
          rcases Bool.eq_false_or_eq_true (decide (a0.Kind < 1)) with hc1592 | hc1592
          · skip
            refine wl_off (yl rfl rfl z1591) hc1592 ?_
            refine wl_nil ?_
            exact qn ⟨_, _, rfl, (Ext.refl _ _), ⟨fr1586, e1587.trans (Ext.refl _ _), C1588⟩, (aft_some (fun hh => by rw [hc1592] at hh; cases hh))⟩
          · skip
            have z1593 : (σ1577 12) = .int .i64 a0.Kind := m1589 hc1592
            refine wl_on (yl rfl rfl z1591) hc1592 ?_
            refine wl_gtr z1593 rfl ?_
            refine wl_nil ?_
            exact qn ⟨_, _, rfl, (Ext.refl _ _), ⟨fr1586, e1587.trans (Ext.refl _ _), C1588⟩, (aft_some (fun _ => rfl))⟩
        · intro D1594 σ1595 w1596 hw1597 q1598 q1599 q1600 q1601 q1602 q1603
          obtain ⟨fr1604, e1605, C1606⟩ := q1598
          obtain ⟨⟨_, m1607⟩, ⟨_, m1608⟩, _⟩ := q1600
          have z1609 : (σ1595 10) = .bool (decide (a0.Kind < 1)) := m1607
          rcases Bool.eq_false_or_eq_true (decide (a0.Kind < 1)) with hc1610 | hc1610
          · skip
            refine wl_pick_t (decide (a0.Kind < 1)) (.bool true) z1609 hc1610 rfl ?_
            refine wl_nil ?_
            exact qn ⟨_, _, rfl, (Ext.refl _ _), ⟨fr1604, e1605.trans (Ext.refl _ _), C1606⟩, (aft_some (by rw [hc1610]; rfl))⟩
          · skip
            have z1611 : (σ1595 13) = .bool (decide (12 < a0.Kind)) := m1608 hc1610
            refine wl_pick_f (decide (a0.Kind < 1)) (.bool (decide (12 < a0.Kind))) z1609 hc1610 z1611 ?_
            refine wl_nil ?_
            exact qn ⟨_, _, rfl, (Ext.refl _ _), ⟨fr1604, e1605.trans (Ext.refl _ _), C1606⟩, (aft_some (by rw [hc1610]; rfl))⟩
        · intro D1612 σ1613 w1614 hw1615 q1616 q1617 q1618 q1619 q1620 q1621
          obtain ⟨fr1622, e1623, C1624⟩ := q1616
          obtain ⟨⟨_, m1625⟩, ⟨_, m1626⟩, _⟩ := q1618
          have z1627 : (σ1613 14) = .bool ((decide (a0.Kind < 1)) || (decide (12 < a0.Kind))) := m1625
          have z1628 : (σ1613 10) = .bool (decide (a0.Kind < 1)) := m1626
          refine wl_move (.bool ((decide (a0.Kind < 1)) || (decide (12 < a0.Kind)))) z1627 ?_
          refine wl_nil ?_
          exact qn ⟨_, _, rfl, (Ext.refl _ _), ⟨fr1622, e1623.trans (Ext.refl _ _), C1624⟩, (aft_some rfl)⟩
        · intro D1629 σ1630 w1631 hw1632 q1633 q1634 q1635 q1636 q1637 q1638
          obtain ⟨fr1639, e1640, C1641⟩ := q1633
          obtain ⟨⟨_, m1642⟩, _⟩ := q1635
          have z1643 : (σ1630 15) = .bool ((decide (a0.Kind < 1)) || (decide (12 < a0.Kind))) := m1642
          refine wl_on (yl rfl rfl z1643) b1471 ?_
          refine wl_field fld41_1 ((q1636 1 rfl).trans rfl) ?_
          refine wl_nil ?_
          exact qn ⟨_, _, rfl, (Ext.refl _ _), ⟨fr1639, e1640.trans (Ext.refl _ _), C1641⟩, (aft_some rfl)⟩
        · intro D1644 σ1645 w1646 hw1647 q1648 q1649 q1650 q1651 q1652 q1653
          obtain ⟨fr1654, e1655, C1656⟩ := q1648
          obtain ⟨⟨_, m1657⟩, ⟨_, m1658⟩, _⟩ := q1650
          have z1659 : (σ1645 15) = .bool ((decide (a0.Kind < 1)) || (decide (12 < a0.Kind))) := m1658
          have z1660 : (σ1645 16) = .pointer (some ⟨b1, 1, none⟩) := m1657
          refine wl_on (yl rfl rfl z1659) b1471 ?_
          refine wl_loadb1 C1656 ty38 z1660 (v0_1) rfl ?_
          refine wl_nil ?_
          exact qn ⟨_, _, rfl, (Ext.refl _ _), ⟨fr1654, e1655.trans (Ext.refl _ _), C1656⟩, (aft_some rfl)⟩
        · intro D1661 σ1662 w1663 hw1664 q1665 q1666 q1667 q1668 q1669 q1670
          obtain ⟨fr1671, e1672, C1673⟩ := q1665
          obtain ⟨⟨_, m1674⟩, ⟨_, m1675⟩, _⟩ := q1667
          have z1676 : (σ1662 15) = .bool ((decide (a0.Kind < 1)) || (decide (12 < a0.Kind))) := m1675
          have z1677 : (σ1662 17) = v0_1 := m1674
          refine wl_on (yl rfl rfl z1676) b1471 ?_
          have f1681 := q0_1.ext (s3.ext.trans (s8.ext.trans (e1672)))
          obtain ⟨A1678, c1679, hv1680⟩ := (f1681).slice
          refine wl_len Tryz.underlying38 (show _ = Value.slice _ a0.Nums.length _ from (Eq.trans z1677 hv1680)) ?_
          refine wl_nil ?_
          exact qn ⟨_, _, rfl, (Ext.refl _ _), ⟨fr1671, e1672.trans (Ext.refl _ _), C1673⟩, (aft_some rfl)⟩
        · intro D1682 σ1683 w1684 hw1685 q1686 q1687 q1688 q1689 q1690 q1691
          obtain ⟨fr1692, e1693, C1694⟩ := q1686
          obtain ⟨⟨_, m1695⟩, _⟩ := q1688
          have z1696 : (σ1683 15) = .bool ((decide (a0.Kind < 1)) || (decide (12 < a0.Kind))) := m1695
          refine wl_on (yl rfl rfl z1696) b1471 ?_
          refine wl_field fld41_0 ((q1689 1 rfl).trans rfl) ?_
          refine wl_nil ?_
          exact qn ⟨_, _, rfl, (Ext.refl _ _), ⟨fr1692, e1693.trans (Ext.refl _ _), C1694⟩, (aft_some rfl)⟩
        · intro D1697 σ1698 w1699 hw1700 q1701 q1702 q1703 q1704 q1705 q1706
          obtain ⟨fr1707, e1708, C1709⟩ := q1701
          obtain ⟨⟨_, m1710⟩, ⟨_, m1711⟩, _⟩ := q1703
          have z1712 : (σ1698 15) = .bool ((decide (a0.Kind < 1)) || (decide (12 < a0.Kind))) := m1711
          have z1713 : (σ1698 19) = .pointer (some ⟨b1, 0, none⟩) := m1710
          refine wl_on (yl rfl rfl z1712) b1471 ?_
          refine wl_loadb1 C1709 ty3 z1713 (.int .i64 a0.Kind) rfl ?_
          refine wl_nil ?_
          exact qn ⟨_, _, rfl, (Ext.refl _ _), ⟨fr1707, e1708.trans (Ext.refl _ _), C1709⟩, (aft_some rfl)⟩
        · intro D1714 σ1715 w1716 hw1717 q1718 q1719 q1720 q1721 q1722 q1723
          obtain ⟨fr1724, e1725, C1726⟩ := q1718
          obtain ⟨⟨_, m1727⟩, ⟨_, m1728⟩, ⟨_, m1729⟩, _⟩ := q1720
          have z1730 : (σ1715 15) = .bool ((decide (a0.Kind < 1)) || (decide (12 < a0.Kind))) := m1728
          have z1731 : (σ1715 15) = .bool ((decide (a0.Kind < 1)) || (decide (12 < a0.Kind))) := m1729
          have z1732 : (σ1715 20) = .int .i64 a0.Kind := m1727
          refine wl_on (yl rfl rfl z1731) b1471 ?_
          refine wl_call [.int .i64 a0.Kind] bod35 (mc z1732 (mn _)) (consignorref20_nums.ok k fr1724.wf a0.Kind _ h1477) ?_
          rintro e1733 w1734 ⟨hw1735, rfl, s1736⟩
          refine ⟨_, rfl, ?_⟩
          have fr1737 := fr1724.then0 s1736
          refine wl_nil ?_
          have B1738 := (C1726.step0 s1736)
          exact qn ⟨_, _, rfl, s1736.ext, ⟨fr1737, e1725.trans s1736.ext, B1738⟩, (aft_some rfl)⟩
        · intro D1739 σ1740 w1741 hw1742 q1743 q1744 q1745 q1746 q1747 q1748
          obtain ⟨fr1749, e1750, C1751⟩ := q1743
          obtain ⟨⟨_, m1752⟩, ⟨_, m1753⟩, ⟨_, m1754⟩, _⟩ := q1745
          have z1755 : (σ1740 15) = .bool ((decide (a0.Kind < 1)) || (decide (12 < a0.Kind))) := m1754
          have z1756 : (σ1740 18) = .int .i64 (a0.Nums.length : Int) := m1752
          have z1757 : (σ1740 21) = .int .i64 t1476 := m1753
          refine wl_on (yl rfl rfl z1755) b1471 ?_
          refine wl_neq z1756 z1757 ?_
          refine wl_nil ?_
          exact qn ⟨_, _, rfl, (Ext.refl _ _), ⟨fr1749, e1750.trans (Ext.refl _ _), C1751⟩, (aft_some rfl)⟩
        · intro D1758 σ1759 w1760 hw1761 q1762 q1763 q1764 q1765 q1766 q1767
          obtain ⟨fr1768, e1769, C1770⟩ := q1762
          obtain ⟨⟨_, m1771⟩, ⟨_, m1772⟩, _⟩ := q1764
          have z1773 : (σ1759 15) = .bool ((decide (a0.Kind < 1)) || (decide (12 < a0.Kind))) := m1771
          have z1774 : (σ1759 22) = .bool ((a0.Nums.length : Int) != t1476) := m1772
          refine wl_pick_f ((decide (a0.Kind < 1)) || (decide (12 < a0.Kind))) (.bool ((a0.Nums.length : Int) != t1476)) z1773 b1471 z1774 ?_
          refine wl_nil ?_
          exact qn ⟨_, _, rfl, (Ext.refl _ _), ⟨fr1768, e1769.trans (Ext.refl _ _), C1770⟩, (aft_some rfl)⟩
        · intro D1775 σ1776 w1777 hw1778 q1779 q1780 q1781 q1782 q1783 q1784
          obtain ⟨fr1785, e1786, C1787⟩ := q1779
          obtain ⟨⟨_, m1788⟩, ⟨_, m1789⟩, _⟩ := q1781
          have z1790 : (σ1776 23) = .bool ((a0.Nums.length : Int) != t1476) := m1788
          have z1791 : (σ1776 21) = .int .i64 t1476 := m1789
          refine wl_move (.bool ((a0.Nums.length : Int) != t1476)) z1790 ?_
          refine wl_nil ?_
          exact qn ⟨_, _, rfl, (Ext.refl _ _), ⟨fr1785, e1786.trans (Ext.refl _ _), C1787⟩, (aft_some rfl)⟩
        · intro D1792 σ1793 w1794 hw1795 q1796 q1797 q1798 q1799 q1800 q1801
          obtain ⟨fr1802, e1803, C1804⟩ := q1796
          obtain ⟨⟨_, m1805⟩, _⟩ := q1798
          have z1806 : (σ1793 24) = .bool ((a0.Nums.length : Int) != t1476) := m1805
          refine wl_off (yl rfl rfl z1806) c1483 ?_
          refine wl_nil ?_
          exact qn ⟨_, _, rfl, (Ext.refl _ _), ⟨fr1802, e1803.trans (Ext.refl _ _), C1804⟩, (aft_some rfl)⟩
        · intro D1807 σ1808 w1809 hw1810 q1811 q1812 q1813 q1814 q1815 q1816
          obtain ⟨fr1817, e1818, C1819⟩ := q1811
          obtain ⟨⟨_, m1820⟩, ⟨_, m1821⟩, _⟩ := q1813
          have z1822 : (σ1808 24) = .bool ((a0.Nums.length : Int) != t1476) := m1821
          refine wl_off (yl rfl rfl z1822) c1483 ?_
          refine wl_nil ?_
          exact qn ⟨_, _, rfl, (Ext.refl _ _), ⟨fr1817, e1818.trans (Ext.refl _ _), C1819⟩, (aft_some rfl)⟩
        · intro D1823 σ1824 w1825 hw1826 q1827 q1828 q1829 q1830 q1831 q1832
          obtain ⟨fr1833, e1834, C1835⟩ := q1827
          obtain ⟨⟨_, m1836⟩, ⟨_, m1837⟩, _⟩ := q1829
          have z1838 : (σ1824 24) = .bool ((a0.Nums.length : Int) != t1476) := m1837
          refine wl_off (yl rfl rfl z1838) c1483 ?_
          refine wl_nil ?_
          exact qn ⟨_, _, rfl, (Ext.refl _ _), ⟨fr1833, e1834.trans (Ext.refl _ _), C1835⟩, (aft_some rfl)⟩
        · intro D1839 σ1840 w1841 hw1842 q1843 q1844 q1845 q1846 q1847 q1848
          obtain ⟨fr1849, e1850, C1851⟩ := q1843
          obtain ⟨⟨_, m1852⟩, _⟩ := q1845
          have z1853 : (σ1840 24) = .bool ((a0.Nums.length : Int) != t1476) := m1852
          refine wl_off (yl rfl rfl z1853) c1483 ?_
          refine wl_nil ?_
          exact qn ⟨_, _, rfl, (Ext.refl _ _), ⟨fr1849, e1850.trans (Ext.refl _ _), C1851⟩, (aft_some rfl)⟩
        · intro D1854 σ1855 w1856 hw1857 q1858 q1859 q1860 q1861 q1862 q1863
          obtain ⟨fr1864, e1865, C1866⟩ := q1858
          obtain ⟨⟨_, m1867⟩, ⟨_, m1868⟩, _⟩ := q1860
          have z1869 : (σ1855 24) = .bool ((a0.Nums.length : Int) != t1476) := m1868
          refine wl_off (yl rfl rfl z1869) c1483 ?_
          refine wl_nil ?_
          exact qn ⟨_, _, rfl, (Ext.refl _ _), ⟨fr1864, e1865.trans (Ext.refl _ _), C1866⟩, (aft_some rfl)⟩
        · intro D1870 σ1871 w1872 hw1873 q1874 q1875 q1876 q1877 q1878 q1879
          obtain ⟨fr1880, e1881, C1882⟩ := q1874
          obtain ⟨⟨_, m1883⟩, ⟨_, m1884⟩, ⟨_, m1885⟩, _⟩ := q1876
          have z1886 : (σ1871 24) = .bool ((a0.Nums.length : Int) != t1476) := m1884
          have z1887 : (σ1871 24) = .bool ((a0.Nums.length : Int) != t1476) := m1885
          refine wl_off (yl rfl rfl z1887) c1483 ?_
          refine wl_nil ?_
          exact qn ⟨_, _, rfl, (Ext.refl _ _), ⟨fr1880, e1881.trans (Ext.refl _ _), C1882⟩, (aft_some rfl)⟩
        · intro D1888 σ1889 w1890 hw1891 q1892 q1893 q1894 q1895 q1896 q1897
          obtain ⟨fr1898, e1899, C1900⟩ := q1892
          obtain ⟨⟨_, m1901⟩, ⟨_, m1902⟩, ⟨_, m1903⟩, _⟩ := q1894
          have z1904 : (σ1889 24) = .bool ((a0.Nums.length : Int) != t1476) := m1903
          refine wl_off (yl rfl rfl z1904) c1483 ?_
          refine wl_nil ?_
          exact qn ⟨_, _, rfl, (Ext.refl _ _), ⟨fr1898, e1899.trans (Ext.refl _ _), C1900⟩, (aft_some rfl)⟩
        · intro D1905 σ1906 w1907 hw1908 q1909 q1910 q1911 q1912 q1913 q1914
          obtain ⟨fr1915, e1916, C1917⟩ := q1909
          obtain ⟨⟨_, m1918⟩, ⟨_, m1919⟩, _⟩ := q1911
          have z1920 : (σ1906 24) = .bool ((a0.Nums.length : Int) != t1476) := m1918
          have z1921 : (σ1906 31) = undef := m1919
          refine wl_pick_t ((a0.Nums.length : Int) != t1476) (.bool true) z1920 c1483 rfl ?_
          refine wl_nil ?_
          exact qn ⟨_, _, rfl, (Ext.refl _ _), ⟨fr1915, e1916.trans (Ext.refl _ _), C1917⟩, (aft_some rfl)⟩
        · intro σ1922 w1923 hw1924 q1925 q1926 q1927
          obtain ⟨fr1928, e1929, C1930⟩ := q1925
          obtain ⟨m1931, m1932, m1933, m1934, m1935, m1936, m1937, m1938, m1939, m1940, m1941, m1942, m1943, m1944, m1945, m1946, m1947, m1948, m1949, m1950, m1951, m1952, m1953, m1954, m1955, m1956, _⟩ := q1927
          have z1957 : (σ1922 17) = v0_1 := m1941
          have z1958 : (σ1922 32) = .bool true := m1956
          refine qn ?_
          exact ⟨_, _, _, true, rfl, (by omega), (by omega), fr1928, (Ext.trans s8.ext e1929), ((q1926 1 rfl).trans rfl), z1958, C1930, h⟩
      · replace h := (if_neg c1483).symm.trans h
        have b1959 : ((a0.Nums.length : Int) != t1476) = false := Bool.eq_false_iff.2 c1483
        obtain ⟨t1965, h1966, h⟩ := Option.bind_eq_some_iff.1 h
        refine wc_any (hw := hw0) mixed [[], [0], [1], [2], [3], [4, 3], [5, 3], [3, 6], [7, 3], [8], [9, 8], [10, 8], [8], [12, 8], [13, 8, 8], [11, 14, 8], [8, 15], [16, 14], [17], [18, 17], [19, 17], [17], [21, 17], [22, 17, 17], [20, 23, 17], [17, 24]] [7, 8, 9, 10, 11, 12, 13, 14, 15, 16, 17, 18, 19, 20, 21, 22, 23, 24, 25, 26, 27, 28, 29, 30, 31, 32] (by kernel_rfl) (PhiOf [fun v w hw => v = .pointer (some ⟨b1, 0, none⟩), fun v w hw => v = .int .i64 a0.Kind, fun v w hw => v = .bool (decide (a0.Kind < 1)), fun v w hw => v = .bool (decide (a0.Kind < 1)), fun v w hw => (decide (a0.Kind < 1)) = false → v = .pointer (some ⟨b1, 0, none⟩), fun v w hw => (decide (a0.Kind < 1)) = false → v = .int .i64 a0.Kind, fun v w hw => (decide (a0.Kind < 1)) = false → v = .bool (decide (12 < a0.Kind)), fun v w hw => v = .bool ((decide (a0.Kind < 1)) || (decide (12 < a0.Kind))), fun v w hw => v = .bool ((decide (a0.Kind < 1)) || (decide (12 < a0.Kind))), fun v w hw => v = .pointer (some ⟨b1, 1, none⟩), fun v w hw => v = v0_1, fun v w hw => v = .int .i64 (a0.Nums.length : Int), fun v w hw => v = .pointer (some ⟨b1, 0, none⟩), fun v w hw => v = .int .i64 a0.Kind, fun v w hw => v = .int .i64 t1476, fun v w hw => v = .bool ((a0.Nums.length : Int) != t1476), fun v w hw => v = .bool ((a0.Nums.length : Int) != t1476), fun v w hw => v = .bool ((a0.Nums.length : Int) != t1476), fun v w hw => v = .pointer (some ⟨b1, 2, none⟩), fun v w hw => v = v0_2, fun v w hw => v = .int .i64 (a0.Texts.length : Int), fun v w hw => v = .pointer (some ⟨b1, 0, none⟩), fun v w hw => v = .int .i64 a0.Kind, fun v w hw => v = .int .i64 t1965, fun v w hw => v = .bool ((a0.Texts.length : Int) != t1965), fun v w hw => v = .bool ((a0.Texts.length : Int) != t1965)]) (fun D σ w hw => Stp none w0 hw0 w hw ∧ Ext (w2).drew hw0 w hw ∧ Box w0.heap.size w hw b1 41 [.int .i64 a0.Kind, v0_1, v0_2]) (stab_of (sbc (fun _ _ _ _ _ _ h => h) (sbc (fun _ _ _ _ _ _ h => h) (sbc (fun _ _ _ _ _ _ h => h) (sbc (fun _ _ _ _ _ _ h => h) (sbc (fun _ _ _ _ _ _ h => h) (sbc (fun _ _ _ _ _ _ h => h) (sbc (fun _ _ _ _ _ _ h => h) (sbc (fun _ _ _ _ _ _ h => h) (sbc (fun _ _ _ _ _ _ h => h) (sbc (fun _ _ _ _ _ _ h => h) (sbc (fun _ _ _ _ _ _ h => h) (sbc (fun _ _ _ _ _ _ h => h) (sbc (fun _ _ _ _ _ _ h => h) (sbc (fun _ _ _ _ _ _ h => h) (sbc (fun _ _ _ _ _ _ h => h) (sbc (fun _ _ _ _ _ _ h => h) (sbc (fun _ _ _ _ _ _ h => h) (sbc (fun _ _ _ _ _ _ h => h) (sbc (fun _ _ _ _ _ _ h => h) (sbc (fun _ _ _ _ _ _ h => h) (sbc (fun _ _ _ _ _ _ h => h) (sbc (fun _ _ _ _ _ _ h => h) (sbc (fun _ _ _ _ _ _ h => h) (sbc (fun _ _ _ _ _ _ h => h) (sbc (fun _ _ _ _ _ _ h => h) (sbc (fun _ _ _ _ _ _ h => h) sbn))))))))))))))))))))))))))) ?_ (stc ?_ (stc ?_ (stc ?_ (stc ?_ (stc ?_ (stc ?_ (stc ?_ (stc ?_ (stc ?_ (stc ?_ (stc ?_ (stc ?_ (stc ?_ (stc ?_ (stc ?_ (stc ?_ (stc ?_ (stc ?_ (stc ?_ (stc ?_ (stc ?_ (stc ?_ (stc ?_ (stc ?_ (stc ?_ (stc ?_ stn)))))))))))))))))))))))))) ?_
        · exact ⟨fr9, Ext.refl _ _, B10⟩
        · intro D1972 σ1973 w1974 hw1975 q1976 q1977 q1978 q1979 q1980 q1981
          obtain ⟨fr1982, e1983, C1984⟩ := q1976
          refine wl_field fld41_0 ((q1979 1 rfl).trans rfl) ?_
          refine wl_nil ?_
          exact qn ⟨_, _, rfl, (Ext.refl _ _), ⟨fr1982, e1983.trans (Ext.refl _ _), C1984⟩, (aft_some rfl)⟩
        · intro D1985 σ1986 w1987 hw1988 q1989 q1990 q1991 q1992 q1993 q1994
          obtain ⟨fr1995, e1996, C1997⟩ := q1989
          obtain ⟨⟨_, m1998⟩, _⟩ := q1991
          have z1999 : (σ1986 7) = .pointer (some ⟨b1, 0, none⟩) := m1998
          refine wl_loadb1 C1997 ty3 z1999 (.int .i64 a0.Kind) rfl ?_
          refine wl_nil ?_
          exact qn ⟨_, _, rfl, (Ext.refl _ _), ⟨fr1995, e1996.trans (Ext.refl _ _), C1997⟩, (aft_some rfl)⟩
        · intro D2000 σ2001 w2002 hw2003 q2004 q2005 q2006 q2007 q2008 q2009
          obtain ⟨fr2010, e2011, C2012⟩ := q2004
          obtain ⟨⟨_, m2013⟩, _⟩ := q2006
          have z2014 : (σ2001 8) = .int .i64 a0.Kind := m2013
          refine wl_lss z2014 rfl ?_
          refine wl_nil ?_
          exact qn ⟨_, _, rfl, (Ext.refl _ _), ⟨fr2010, e2011.trans (Ext.refl _ _), C2012⟩, (aft_some rfl)⟩
        · intro D2015 σ2016 w2017 hw2018 q2019 q2020 q2021 q2022 q2023 q2024
          obtain ⟨fr2025, e2026, C2027⟩ := q2019
          obtain ⟨⟨_, m2028⟩, _⟩ := q2021
          have z2029 : (σ2016 9) = .bool (decide (a0.Kind < 1)) := m2028
          refine wl_move (.bool (decide (a0.Kind < 1))) z2029 ?_
          refine wl_nil ?_
          exact qn ⟨_, _, rfl, (Ext.refl _ _), ⟨fr2025, e2026.trans (Ext.refl _ _), C2027⟩, (aft_some rfl)⟩
        · intro D2030 σ2031 w2032 hw2033 q2034 q2035 q2036 q2037 q2038 q2039
          obtain ⟨fr2040, e2041, C2042⟩ := q2034
          obtain ⟨⟨_, m2043⟩, _⟩ := q2036
          have z2044 : (σ2031 10) = .bool (decide (a0.Kind < 1)) := m2043
          rcases Bool.eq_false_or_eq_true (decide (a0.Kind < 1)) with hc2045 | hc2045
          · skip
            refine wl_off (yl rfl rfl z2044) hc2045 ?_
            refine wl_nil ?_
            exact qn ⟨_, _, rfl, (Ext.refl _ _), ⟨fr2040, e2041.trans (Ext.refl _ _), C2042⟩, (aft_some (fun hh => by rw [hc2045] at hh; cases hh))⟩
          · skip
            refine wl_on (yl rfl rfl z2044) hc2045 ?_
            refine wl_field fld41_0 ((q2037 1 rfl).trans rfl) ?_
            refine wl_nil ?_
            exact qn ⟨_, _, rfl, (Ext.refl _ _), ⟨fr2040, e2041.trans (Ext.refl _ _), C2042⟩, (aft_some (fun _ => rfl))⟩
        · intro D2046 σ2047 w2048 hw2049 q2050 q2051 q2052 q2053 q2054 q2055
          obtain ⟨fr2056, e2057, C2058⟩ := q2050
          obtain ⟨⟨_, m2059⟩, ⟨_, m2060⟩, _⟩ := q2052
          have z2061 : (σ2047 10) = .bool (decide (a0.Kind < 1)) := m2060
          rcases Bool.eq_false_or_eq_true (decide (a0.Kind < 1)) with hc2062 | hc2062
          · skip
            refine wl_off (yl rfl rfl z2061) hc2062 ?_
            refine wl_nil ?_
            exact qn ⟨_, _, rfl, (Ext.refl _ _), ⟨fr2056, e2057.trans (Ext.refl _ _), C2058⟩, (aft_some (fun hh => by rw [hc2062] at hh; cases hh))⟩
          · skip
            have z2063 : (σ2047 11) = .pointer (some ⟨b1, 0, none⟩) := m2059 hc2062
            refine wl_on (yl rfl rfl z2061) hc2062 ?_
            refine wl_loadb1 C2058 ty3 z2063 (.int .i64 a0.Kind) rfl ?_
            refine wl_nil ?_
            exact qn ⟨_, _, rfl, (Ext.refl _ _), ⟨fr2056, e2057.trans (Ext.refl _ _), C2058⟩, (aft_some (fun _ => rfl))⟩
        · intro D2064 σ2065 w2066 hw2067 q2068 q2069 q2070 q2071 q2072 q2073
          obtain ⟨fr2074, e2075, C2076⟩ := q2068
          obtain ⟨⟨_, m2077⟩, ⟨_, m2078⟩, _⟩ := q2070
          have z2079 : (σ2065 10) = .bool (decide (a0.Kind < 1)) := m2078
          rcases Bool.eq_false_or_eq_true (decide (a0.Kind < 1)) with hc2080 | hc2080
          · skip
            refine wl_off (yl rfl rfl z2079) hc2080 ?_
            refine wl_nil ?_
            exact qn ⟨_, _, rfl, (Ext.refl _ _), ⟨fr2074, e2075.trans (Ext.refl _ _), C2076⟩, (aft_some (fun hh => by rw [hc2080] at hh; cases hh))⟩
          · skip
            have z2081 : (σ2065 12) = .int .i64 a0.Kind := m2077 hc2080
            refine wl_on (yl rfl rfl z2079) hc2080 ?_
            refine wl_gtr z2081 rfl ?_
            refine wl_nil ?_
            exact qn ⟨_, _, rfl, (Ext.refl _ _), ⟨fr2074, e2075.trans (Ext.refl _ _), C2076⟩, (aft_some (fun _ => rfl))⟩
        · intro D2082 σ2083 w2084 hw2085 q2086 q2087 q2088 q2089 q2090 q2091
          obtain ⟨fr2092, e2093, C2094⟩ := q2086
          obtain ⟨⟨_, m2095⟩, ⟨_, m2096⟩, _⟩ := q2088
          have z2097 : (σ2083 10) = .bool (decide (a0.Kind < 1)) := m2095
          rcases Bool.eq_false_or_eq_true (decide (a0.Kind < 1)) with hc2098 | hc2098
          · skip
            refine wl_pick_t (decide (a0.Kind < 1)) (.bool true) z2097 hc2098 rfl ?_
            refine wl_nil ?_
            exact qn ⟨_, _, rfl, (Ext.refl _ _), ⟨fr2092, e2093.trans (Ext.refl _ _), C2094⟩, (aft_some (by rw [hc2098]; rfl))⟩
          · skip
            have z2099 : (σ2083 13) = .bool (decide (12 < a0.Kind)) := m2096 hc2098
            refine wl_pick_f (decide (a0.Kind < 1)) (.bool (decide (12 < a0.Kind))) z2097 hc2098 z2099 ?_
            refine wl_nil ?_
            exact qn ⟨_, _, rfl, (Ext.refl _ _), ⟨fr2092, e2093.trans (Ext.refl _ _), C2094⟩, (aft_some (by rw [hc2098]; rfl))⟩
        · intro D2100 σ2101 w2102 hw2103 q2104 q2105 q2106 q2107 q2108 q2109
          obtain ⟨fr2110, e2111, C2112⟩ := q2104
          obtain ⟨⟨_, m2113⟩, ⟨_, m2114⟩, _⟩ := q2106
          have z2115 : (σ2101 14) = .bool ((decide (a0.Kind < 1)) || (decide (12 < a0.Kind))) := m2113
          have z2116 : (σ2101 10) = .bool (decide (a0.Kind < 1)) := m2114
          refine wl_move (.bool ((decide (a0.Kind < 1)) || (decide (12 < a0.Kind)))) z2115 ?_
          refine wl_nil ?_
          exact qn ⟨_, _, rfl, (Ext.refl _ _), ⟨fr2110, e2111.trans (Ext.refl _ _), C2112⟩, (aft_some rfl)⟩
        · intro D2117 σ2118 w2119 hw2120 q2121 q2122 q2123 q2124 q2125 q2126
          obtain ⟨fr2127, e2128, C2129⟩ := q2121
          obtain ⟨⟨_, m2130⟩, _⟩ := q2123
          have z2131 : (σ2118 15) = .bool ((decide (a0.Kind < 1)) || (decide (12 < a0.Kind))) := m2130
          refine wl_on (yl rfl rfl z2131) b1471 ?_
          refine wl_field fld41_1 ((q2124 1 rfl).trans rfl) ?_
          refine wl_nil ?_
          exact qn ⟨_, _, rfl, (Ext.refl _ _), ⟨fr2127, e2128.trans (Ext.refl _ _), C2129⟩, (aft_some rfl)⟩
        · intro D2132 σ2133 w2134 hw2135 q2136 q2137 q2138 q2139 q2140 q2141
          obtain ⟨fr2142, e2143, C2144⟩ := q2136
          obtain ⟨⟨_, m2145⟩, ⟨_, m2146⟩, _⟩ := q2138
          have z2147 : (σ2133 15) = .bool ((decide (a0.Kind < 1)) || (decide (12 < a0.Kind))) := m2146
          have z2148 : (σ2133 16) = .pointer (some ⟨b1, 1, none⟩) := m2145
          refine wl_on (yl rfl rfl z2147) b1471 ?_
          refine wl_loadb1 C2144 ty38 z2148 (v0_1) rfl ?_
          refine wl_nil ?_
          exact qn ⟨_, _, rfl, (Ext.refl _ _), ⟨fr2142, e2143.trans (Ext.refl _ _), C2144⟩, (aft_some rfl)⟩
        · intro D2149 σ2150 w2151 hw2152 q2153 q2154 q2155 q2156 q2157 q2158
          obtain ⟨fr2159, e2160, C2161⟩ := q2153
          obtain ⟨⟨_, m2162⟩, ⟨_, m2163⟩, _⟩ := q2155
          have z2164 : (σ2150 15) = .bool ((decide (a0.Kind < 1)) || (decide (12 < a0.Kind))) := m2163
          have z2165 : (σ2150 17) = v0_1 := m2162
          refine wl_on (yl rfl rfl z2164) b1471 ?_
          have f2169 := q0_1.ext (s3.ext.trans (s8.ext.trans (e2160)))
          obtain ⟨A2166, c2167, hv2168⟩ := (f2169).slice
          refine wl_len Tryz.underlying38 (show _ = Value.slice _ a0.Nums.length _ from (Eq.trans z2165 hv2168)) ?_
          refine wl_nil ?_
          exact qn ⟨_, _, rfl, (Ext.refl _ _), ⟨fr2159, e2160.trans (Ext.refl _ _), C2161⟩, (aft_some rfl)⟩
        · intro D2170 σ2171 w2172 hw2173 q2174 q2175 q2176 q2177 q2178 q2179
          obtain ⟨fr2180, e2181, C2182⟩ := q2174
          obtain ⟨⟨_, m2183⟩, _⟩ := q2176
          have z2184 : (σ2171 15) = .bool ((decide (a0.Kind < 1)) || (decide (12 < a0.Kind))) := m2183
          refine wl_on (yl rfl rfl z2184) b1471 ?_
          refine wl_field fld41_0 ((q2177 1 rfl).trans rfl) ?_
          refine wl_nil ?_
          exact qn ⟨_, _, rfl, (Ext.refl _ _), ⟨fr2180, e2181.trans (Ext.refl _ _), C2182⟩, (aft_some rfl)⟩
        · intro D2185 σ2186 w2187 hw2188 q2189 q2190 q2191 q2192 q2193 q2194
          obtain ⟨fr2195, e2196, C2197⟩ := q2189
          obtain ⟨⟨_, m2198⟩, ⟨_, m2199⟩, _⟩ := q2191
          have z2200 : (σ2186 15) = .bool ((decide (a0.Kind < 1)) || (decide (12 < a0.Kind))) := m2199
          have z2201 : (σ2186 19) = .pointer (some ⟨b1, 0, none⟩) := m2198
          refine wl_on (yl rfl rfl z2200) b1471 ?_
          refine wl_loadb1 C2197 ty3 z2201 (.int .i64 a0.Kind) rfl ?_
          refine wl_nil ?_
          exact qn ⟨_, _, rfl, (Ext.refl _ _), ⟨fr2195, e2196.trans (Ext.refl _ _), C2197⟩, (aft_some rfl)⟩
        · intro D2202 σ2203 w2204 hw2205 q2206 q2207 q2208 q2209 q2210 q2211
          obtain ⟨fr2212, e2213, C2214⟩ := q2206
          obtain ⟨⟨_, m2215⟩, ⟨_, m2216⟩, ⟨_, m2217⟩, _⟩ := q2208
          have z2218 : (σ2203 15) = .bool ((decide (a0.Kind < 1)) || (decide (12 < a0.Kind))) := m2216
          have z2219 : (σ2203 15) = .bool ((decide (a0.Kind < 1)) || (decide (12 < a0.Kind))) := m2217
          have z2220 : (σ2203 20) = .int .i64 a0.Kind := m2215
          refine wl_on (yl rfl rfl z2219) b1471 ?_
          refine wl_call [.int .i64 a0.Kind] bod35 (mc z2220 (mn _)) (consignorref20_nums.ok k fr2212.wf a0.Kind _ h1477) ?_
          rintro e2221 w2222 ⟨hw2223, rfl, s2224⟩
          refine ⟨_, rfl, ?_⟩
          have fr2225 := fr2212.then0 s2224
          refine wl_nil ?_
          have B2226 := (C2214.step0 s2224)
          exact qn ⟨_, _, rfl, s2224.ext, ⟨fr2225, e2213.trans s2224.ext, B2226⟩, (aft_some rfl)⟩
        · intro D2227 σ2228 w2229 hw2230 q2231 q2232 q2233 q2234 q2235 q2236
          obtain ⟨fr2237, e2238, C2239⟩ := q2231
          obtain ⟨⟨_, m2240⟩, ⟨_, m2241⟩, ⟨_, m2242⟩, _⟩ := q2233
          have z2243 : (σ2228 15) = .bool ((decide (a0.Kind < 1)) || (decide (12 < a0.Kind))) := m2242
          have z2244 : (σ2228 18) = .int .i64 (a0.Nums.length : Int) := m2240
          have z2245 : (σ2228 21) = .int .i64 t1476 := m2241
          refine wl_on (yl rfl rfl z2243) b1471 ?_
          refine wl_neq z2244 z2245 ?_
          refine wl_nil ?_
          exact qn ⟨_, _, rfl, (Ext.refl _ _), ⟨fr2237, e2238.trans (Ext.refl _ _), C2239⟩, (aft_some rfl)⟩
        · intro D2246 σ2247 w2248 hw2249 q2250 q2251 q2252 q2253 q2254 q2255
          obtain ⟨fr2256, e2257, C2258⟩ := q2250
          obtain ⟨⟨_, m2259⟩, ⟨_, m2260⟩, _⟩ := q2252
          have z2261 : (σ2247 15) = .bool ((decide (a0.Kind < 1)) || (decide (12 < a0.Kind))) := m2259
          have z2262 : (σ2247 22) = .bool ((a0.Nums.length : Int) != t1476) := m2260
          refine wl_pick_f ((decide (a0.Kind < 1)) || (decide (12 < a0.Kind))) (.bool ((a0.Nums.length : Int) != t1476)) z2261 b1471 z2262 ?_
          refine wl_nil ?_
          exact qn ⟨_, _, rfl, (Ext.refl _ _), ⟨fr2256, e2257.trans (Ext.refl _ _), C2258⟩, (aft_some rfl)⟩
        · intro D2263 σ2264 w2265 hw2266 q2267 q2268 q2269 q2270 q2271 q2272
          obtain ⟨fr2273, e2274, C2275⟩ := q2267
          obtain ⟨⟨_, m2276⟩, ⟨_, m2277⟩, _⟩ := q2269
          have z2278 : (σ2264 23) = .bool ((a0.Nums.length : Int) != t1476) := m2276
          have z2279 : (σ2264 21) = .int .i64 t1476 := m2277
          refine wl_move (.bool ((a0.Nums.length : Int) != t1476)) z2278 ?_
          refine wl_nil ?_
          exact qn ⟨_, _, rfl, (Ext.refl _ _), ⟨fr2273, e2274.trans (Ext.refl _ _), C2275⟩, (aft_some rfl)⟩
        · intro D2280 σ2281 w2282 hw2283 q2284 q2285 q2286 q2287 q2288 q2289
          obtain ⟨fr2290, e2291, C2292⟩ := q2284
          obtain ⟨⟨_, m2293⟩, _⟩ := q2286
          have z2294 : (σ2281 24) = .bool ((a0.Nums.length : Int) != t1476) := m2293
          refine wl_on (yl rfl rfl z2294) b1959 ?_
          refine wl_field fld41_2 ((q2287 1 rfl).trans rfl) ?_
          refine wl_nil ?_
          exact qn ⟨_, _, rfl, (Ext.refl _ _), ⟨fr2290, e2291.trans (Ext.refl _ _), C2292⟩, (aft_some rfl)⟩
        · intro D2295 σ2296 w2297 hw2298 q2299 q2300 q2301 q2302 q2303 q2304
          obtain ⟨fr2305, e2306, C2307⟩ := q2299
          obtain ⟨⟨_, m2308⟩, ⟨_, m2309⟩, _⟩ := q2301
          have z2310 : (σ2296 24) = .bool ((a0.Nums.length : Int) != t1476) := m2309
          have z2311 : (σ2296 25) = .pointer (some ⟨b1, 2, none⟩) := m2308
          refine wl_on (yl rfl rfl z2310) b1959 ?_
          refine wl_loadb1 C2307 ty39 z2311 (v0_2) rfl ?_
          refine wl_nil ?_
          exact qn ⟨_, _, rfl, (Ext.refl _ _), ⟨fr2305, e2306.trans (Ext.refl _ _), C2307⟩, (aft_some rfl)⟩
        · intro D2312 σ2313 w2314 hw2315 q2316 q2317 q2318 q2319 q2320 q2321
          obtain ⟨fr2322, e2323, C2324⟩ := q2316
          obtain ⟨⟨_, m2325⟩, ⟨_, m2326⟩, _⟩ := q2318
          have z2327 : (σ2313 24) = .bool ((a0.Nums.length : Int) != t1476) := m2326
          have z2328 : (σ2313 26) = v0_2 := m2325
          refine wl_on (yl rfl rfl z2327) b1959 ?_
          have f2332 := q0_2.ext (s3.ext.trans (s8.ext.trans (e2323)))
          obtain ⟨A2329, c2330, hv2331⟩ := (f2332).slice
          refine wl_len Tryz.underlying39 (show _ = Value.slice _ a0.Texts.length _ from (Eq.trans z2328 hv2331)) ?_
          refine wl_nil ?_
          exact qn ⟨_, _, rfl, (Ext.refl _ _), ⟨fr2322, e2323.trans (Ext.refl _ _), C2324⟩, (aft_some rfl)⟩
        · intro D2333 σ2334 w2335 hw2336 q2337 q2338 q2339 q2340 q2341 q2342
          obtain ⟨fr2343, e2344, C2345⟩ := q2337
          obtain ⟨⟨_, m2346⟩, _⟩ := q2339
          have z2347 : (σ2334 24) = .bool ((a0.Nums.length : Int) != t1476) := m2346
          refine wl_on (yl rfl rfl z2347) b1959 ?_
          refine wl_field fld41_0 ((q2340 1 rfl).trans rfl) ?_
          refine wl_nil ?_
          exact qn ⟨_, _, rfl, (Ext.refl _ _), ⟨fr2343, e2344.trans (Ext.refl _ _), C2345⟩, (aft_some rfl)⟩
        · intro D2348 σ2349 w2350 hw2351 q2352 q2353 q2354 q2355 q2356 q2357
          obtain ⟨fr2358, e2359, C2360⟩ := q2352
          obtain ⟨⟨_, m2361⟩, ⟨_, m2362⟩, _⟩ := q2354
          have z2363 : (σ2349 24) = .bool ((a0.Nums.length : Int) != t1476) := m2362
          have z2364 : (σ2349 28) = .pointer (some ⟨b1, 0, none⟩) := m2361
          refine wl_on (yl rfl rfl z2363) b1959 ?_
          refine wl_loadb1 C2360 ty3 z2364 (.int .i64 a0.Kind) rfl ?_
          refine wl_nil ?_
          exact qn ⟨_, _, rfl, (Ext.refl _ _), ⟨fr2358, e2359.trans (Ext.refl _ _), C2360⟩, (aft_some rfl)⟩
        · intro D2365 σ2366 w2367 hw2368 q2369 q2370 q2371 q2372 q2373 q2374
          obtain ⟨fr2375, e2376, C2377⟩ := q2369
          obtain ⟨⟨_, m2378⟩, ⟨_, m2379⟩, ⟨_, m2380⟩, _⟩ := q2371
          have z2381 : (σ2366 24) = .bool ((a0.Nums.length : Int) != t1476) := m2379
          have z2382 : (σ2366 24) = .bool ((a0.Nums.length : Int) != t1476) := m2380
          have z2383 : (σ2366 29) = .int .i64 a0.Kind := m2378
          refine wl_on (yl rfl rfl z2382) b1959 ?_
          refine wl_call [.int .i64 a0.Kind] bod36 (mc z2383 (mn _)) (consignorref20_texts.ok k fr2375.wf a0.Kind _ h1966) ?_
          rintro e2384 w2385 ⟨hw2386, rfl, s2387⟩
          refine ⟨_, rfl, ?_⟩
          have fr2388 := fr2375.then0 s2387
          refine wl_nil ?_
          have B2389 := (C2377.step0 s2387)
          exact qn ⟨_, _, rfl, s2387.ext, ⟨fr2388, e2376.trans s2387.ext, B2389⟩, (aft_some rfl)⟩
        · intro D2390 σ2391 w2392 hw2393 q2394 q2395 q2396 q2397 q2398 q2399
          obtain ⟨fr2400, e2401, C2402⟩ := q2394
          obtain ⟨⟨_, m2403⟩, ⟨_, m2404⟩, ⟨_, m2405⟩, _⟩ := q2396
          have z2406 : (σ2391 24) = .bool ((a0.Nums.length : Int) != t1476) := m2405
          have z2407 : (σ2391 27) = .int .i64 (a0.Texts.length : Int) := m2403
          have z2408 : (σ2391 30) = .int .i64 t1965 := m2404
          refine wl_on (yl rfl rfl z2406) b1959 ?_
          refine wl_neq z2407 z2408 ?_
          refine wl_nil ?_
          exact qn ⟨_, _, rfl, (Ext.refl _ _), ⟨fr2400, e2401.trans (Ext.refl _ _), C2402⟩, (aft_some rfl)⟩
        · intro D2409 σ2410 w2411 hw2412 q2413 q2414 q2415 q2416 q2417 q2418
          obtain ⟨fr2419, e2420, C2421⟩ := q2413
          obtain ⟨⟨_, m2422⟩, ⟨_, m2423⟩, _⟩ := q2415
          have z2424 : (σ2410 24) = .bool ((a0.Nums.length : Int) != t1476) := m2422
          have z2425 : (σ2410 31) = .bool ((a0.Texts.length : Int) != t1965) := m2423
          refine wl_pick_f ((a0.Nums.length : Int) != t1476) (.bool ((a0.Texts.length : Int) != t1965)) z2424 b1959 z2425 ?_
          refine wl_nil ?_
          exact qn ⟨_, _, rfl, (Ext.refl _ _), ⟨fr2419, e2420.trans (Ext.refl _ _), C2421⟩, (aft_some rfl)⟩
        · intro σ2426 w2427 hw2428 q2429 q2430 q2431
          obtain ⟨fr2432, e2433, C2434⟩ := q2429
          obtain ⟨m2435, m2436, m2437, m2438, m2439, m2440, m2441, m2442, m2443, m2444, m2445, m2446, m2447, m2448, m2449, m2450, m2451, m2452, m2453, m2454, m2455, m2456, m2457, m2458, m2459, m2460, _⟩ := q2431
          have z2461 : (σ2426 17) = v0_1 := m2445
          have z2462 : (σ2426 26) = v0_2 := m2454
          have z2463 : (σ2426 32) = .bool ((a0.Texts.length : Int) != t1965) := m2460
          refine qn ?_
          exact ⟨_, _, _, ((a0.Texts.length : Int) != t1965), rfl, (by omega), (by omega), fr2432, (Ext.trans s8.ext e2433), ((q2430 1 rfl).trans rfl), z2463, C2434, h⟩
  · rintro _ w2464 ⟨_, hw2465, k2466, x7, rfl, hk2469, hk2470, fr2467, e2468, z2471, z2472, B2473, h⟩
    rcases k2466 with _ | k2466
    · rw [consignorref20_IsDeed.j0] at h; cases h
    rw [consignorref20_IsDeed.j0] at h
    by_cases c2474 : x7 = true
    · replace h := (if_pos c2474).symm.trans h
      refine wc_then z2472 c2474 ?_
      refine wc_seq ?_
      refine wc_region ?_
      refine wl_assign (.bool false) rfl ?_
      refine wl_nil ?_
      refine qn ?_
      refine wc_ret ?_
      refine qr ?_
      have h := Option.some.inj h
      subst h
      refine end1 rfl (.tmp rfl .nil) ?_
      exact ⟨_, rfl, fr2467⟩
    · replace h := (if_neg c2474).symm.trans h
      have b2475 : x7 = false := Bool.eq_false_iff.2 c2474
      refine wc_else z2472 b2475 ?_
      refine wc_skip ?_
      refine qn ?_
      refine wc_seq ?_
      refine wc_seq ?_
      refine wc_region ?_
      refine wl_field fld41_1 z2471 ?_
      refine wl_loadb1 B2473 ty38 rfl (v0_1) rfl ?_
      have f2479 := q0_1.ext (s3.ext.trans (e2468))
      obtain ⟨A2476, c2477, hv2478⟩ := (f2479).slice
      refine wl_len Tryz.underlying38 (show _ = Value.slice _ a0.Nums.length _ from (Eq.trans rfl hv2478)) ?_
      refine wl_move (.int .i64 0) rfl ?_
      refine wl_nil ?_
      refine qn ?_
      refine wc_block ?_
      refine wc_loop (fun m a w => ∃ (σ : Nat → Value) (hw : Hw) (kq : Nat) (x2480 : Int), a = mkA 58 σ ∧ kq ≤ m ∧ kq ≤ k2466 ∧ Stp none w0 hw0 w hw ∧ Ext w2464 hw2465 w hw ∧ σ 1 = .pointer (some ⟨b1, 0, none⟩) ∧ σ 34 = v0_1 ∧ σ 35 = .int .i64 (a0.Nums.length : Int) ∧ σ 36 = .int .i64 x2480 ∧ Box w0.heap.size w hw b1 41 [.int .i64 a0.Kind, v0_1, v0_2] ∧ consignorref20_IsDeed.l1 kq a0 x2480 = some r) k2466 ?_ ?_ ?_
      · skip
        exact ⟨_, _, _, 0, rfl, (Nat.le_refl _), (Nat.le_refl _), fr2467, (Ext.refl _ _), z2471, rfl, rfl, rfl, B2473, h⟩
      · rintro _ _ ⟨_, hw2482, k2483, x2480, rfl, hk2486, hk2487, fr2484, e2485, z2488, z2489, z2490, z2491, B2492, h⟩; obtain rfl := Nat.le_zero.1 hk2486; rw [consignorref20_IsDeed.l1] at h; cases h
      · rintro m1 _ w2481 ⟨_, hw2482, k2483, x2480, rfl, hk2486, hk2487, fr2484, e2485, z2488, z2489, z2490, z2491, B2492, h⟩
        rcases k2483 with _ | k2483
        · rw [consignorref20_IsDeed.l1] at h; cases h
        rw [consignorref20_IsDeed.l1] at h
        refine wc_seq ?_
        refine wc_region ?_
        refine wl_lss z2491 z2490 ?_
        refine wl_nil ?_
        refine qn ?_
        refine wc_seq ?_
        by_cases c2493 : x2480 < (a0.Nums.length : Int)
        · replace h := (if_pos c2493).symm.trans h
          have b2494 : (decide (x2480 < (a0.Nums.length : Int))) = true := decide_eq_true c2493
          refine wc_then rfl b2494 ?_
          refine wc_skip ?_
          refine qn ?_
          refine wc_seq ?_
          refine wc_block ?_
          refine wc_seq ?_
          refine wc_region ?_
          by_cases c2495 : 0 ≤ x2480
          · replace h := (if_pos c2495).symm.trans h
            obtain ⟨t2496, h2497, h⟩ := Option.bind_eq_some_iff.1 h
            have c2498 := at_lt c2495 h2497
            have f2504 := f2479.ext (e2485)
            refine wl_at Tryz.underlying38 ty3 f2504 z2489 z2491 c2495 c2498 t2496 h2497 ?_
            rintro B2499 o2500 cs2501 rfl l2503
            refine wl_load1 ty3 rfl (.int .i64 t2496) (l2503.2 0 _ rfl) ?_
            refine wl_assign (.int .i64 t2496) rfl ?_
            refine wl_nil ?_
            refine qn ?_
            refine wc_seq ?_
            refine wc_region ?_
            refine wl_move (.int .i64 t2496) rfl ?_
            refine wl_lss rfl rfl ?_
            refine wl_move (.bool (decide (t2496 < 0))) rfl ?_
            refine wl_join 3 [43, 44, 45] 45 (.bool ((decide (t2496 < 0)) || (decide (1099511627776 < t2496)))) ?_ ?_
            · rcases Bool.eq_false_or_eq_true (decide (t2496 < 0)) with hcc | hcc
              · skip
                refine wl_off (yl rfl rfl rfl) hcc ?_
                refine wl_off (yl rfl rfl rfl) hcc ?_
                refine wl_pick_t (decide (t2496 < 0)) (.bool true) rfl hcc rfl ?_
                refine wl_nil ?_
                exact qn ⟨rfl, _, rfl, (by repeat (first | exact Same.refl _ _ | refine Same.upd ?_ rfl)), (by rw [hcc]; rfl)⟩
              · skip
                refine wl_on (yl rfl rfl rfl) hcc ?_
                refine wl_move (.int .i64 t2496) rfl ?_
                refine wl_on (yl rfl rfl rfl) hcc ?_
                refine wl_gtr rfl rfl ?_
                refine wl_pick_f (decide (t2496 < 0)) (.bool (decide (1099511627776 < t2496))) rfl hcc rfl ?_
                refine wl_nil ?_
                exact qn ⟨rfl, _, rfl, (by repeat (first | exact Same.refl _ _ | refine Same.upd ?_ rfl)), (by rw [hcc]; rfl)⟩
            intro _ ho2505 hv2506
            refine wl_nil ?_
            refine qn ?_
            by_cases c2507 : ((decide (t2496 < 0)) || (decide (1099511627776 < t2496))) = true
            · replace h := (if_pos c2507).symm.trans h
              refine wc_then hv2506 c2507 ?_
              refine wc_seq ?_
              refine wc_region ?_
              refine wl_assign (.bool false) rfl ?_
              refine wl_nil ?_
              refine qn ?_
              refine wc_ret ?_
              refine bret ?_
              refine qr ?_
              refine qr ?_
              refine bret ?_
              refine qr ?_
              have h := Option.some.inj h
              subst h
              refine end1 rfl (.tmp rfl .nil) ?_
              exact ⟨_, rfl, fr2484⟩
            · replace h := (if_neg c2507).symm.trans h
              have b2508 : ((decide (t2496 < 0)) || (decide (1099511627776 < t2496))) = false := Bool.eq_false_iff.2 c2507
              refine wc_else hv2506 b2508 ?_
              refine wc_skip ?_
              refine bn ?_
              refine qn ?_
              refine wc_region ?_
              refine wl_add ((ho2505 36 rfl).trans z2491) rfl ?_
              refine wl_move (.int .i64 (IntKind.i64.wrap (x2480 + 1))) rfl ?_
              refine wl_nil ?_
              refine qn ?_
              exact ⟨_, _, _, (IntKind.i64.wrap (x2480 + 1)), rfl, (by omega), (by omega), fr2484, e2485, ((ho2505 1 rfl).trans z2488), ((ho2505 34 rfl).trans z2489), ((ho2505 35 rfl).trans z2490), rfl, B2492, h⟩
          · replace h := (if_neg c2495).symm.trans h
            cases h
        · replace h := (if_neg c2493).symm.trans h
          have b2509 : (decide (x2480 < (a0.Nums.length : Int))) = false := decide_eq_false c2493
          refine wc_else rfl b2509 ?_
          refine wc_exit ?_
          refine qe ?_
          refine qe ?_
          refine be ?_
          refine qn ?_
          refine wc_seq ?_
          refine wc_seq ?_
          refine wc_region ?_
          refine wl_field fld41_2 z2488 ?_
          refine wl_loadb1 B2492 ty39 rfl (v0_2) rfl ?_
          have f2513 := q0_2.ext (s3.ext.trans (e2468.trans (e2485)))
          obtain ⟨A2510, c2511, hv2512⟩ := (f2513).slice
          refine wl_len Tryz.underlying39 (show _ = Value.slice _ a0.Texts.length _ from (Eq.trans rfl hv2512)) ?_
          refine wl_move (.int .i64 0) rfl ?_
          refine wl_nil ?_
          refine qn ?_
          refine wc_block ?_
          refine wc_loop (fun m a w => ∃ (σ : Nat → Value) (hw : Hw) (kq : Nat) (x2514 : Int), a = mkA 58 σ ∧ kq ≤ m ∧ kq ≤ k2483 ∧ Stp none w0 hw0 w hw ∧ Ext w2481 hw2482 w hw ∧ σ 48 = v0_2 ∧ σ 49 = .int .i64 (a0.Texts.length : Int) ∧ σ 50 = .int .i64 x2514 ∧ consignorref20_IsDeed.l2 kq a0 x2514 = some r) k2483 ?_ ?_ ?_
          · skip
            exact ⟨_, _, _, 0, rfl, (Nat.le_refl _), (Nat.le_refl _), fr2484, (Ext.refl _ _), rfl, rfl, rfl, h⟩
          · rintro _ _ ⟨_, hw2516, k2517, x2514, rfl, hk2520, hk2521, fr2518, e2519, z2522, z2523, z2524, h⟩; obtain rfl := Nat.le_zero.1 hk2520; rw [consignorref20_IsDeed.l2] at h; cases h
          · rintro m2 _ w2515 ⟨_, hw2516, k2517, x2514, rfl, hk2520, hk2521, fr2518, e2519, z2522, z2523, z2524, h⟩
            rcases k2517 with _ | k2517
            · rw [consignorref20_IsDeed.l2] at h; cases h
            rw [consignorref20_IsDeed.l2] at h
            refine wc_seq ?_
            refine wc_region ?_
            refine wl_lss z2524 z2523 ?_
            refine wl_nil ?_
            refine qn ?_
            refine wc_seq ?_
            by_cases c2525 : x2514 < (a0.Texts.length : Int)
            · replace h := (if_pos c2525).symm.trans h
              have b2526 : (decide (x2514 < (a0.Texts.length : Int))) = true := decide_eq_true c2525
              refine wc_then rfl b2526 ?_
              refine wc_skip ?_
              refine qn ?_
              refine wc_seq ?_
              refine wc_block ?_
              refine wc_seq ?_
              refine wc_region ?_
              by_cases c2527 : 0 ≤ x2514
              · replace h := (if_pos c2527).symm.trans h
                obtain ⟨t2528, h2529, h⟩ := Option.bind_eq_some_iff.1 h
                have c2530 := at_lt c2527 h2529
                have f2536 := f2513.ext (e2519)
                refine wl_at Tryz.underlying39 ty9 f2536 z2522 z2524 c2527 c2530 t2528 h2529 ?_
                rintro B2531 o2532 cs2533 rfl l2535
                refine wl_load1 ty9 rfl (.string (bs t2528)) (l2535.2 0 _ rfl) ?_
                refine wl_assign (.string (bs t2528)) rfl ?_
                refine wl_nil ?_
                refine qn ?_
                refine wc_seq ?_
                refine wc_region ?_
                refine wl_move (.string (bs t2528)) rfl ?_
                refine wl_lens Tryz.underlying9 rfl ?_
                refine wl_gtr rfl rfl ?_
                refine wl_nil ?_
                refine qn ?_
                by_cases c2537 : 1000 < (t2528.length : Int)
                · replace h := (if_pos c2537).symm.trans h
                  have b2538 : (decide (1000 < (t2528.length : Int))) = true := decide_eq_true c2537
                  refine wc_then rfl b2538 ?_
                  refine wc_seq ?_
                  refine wc_region ?_
                  refine wl_assign (.bool false) rfl ?_
                  refine wl_nil ?_
                  refine qn ?_
                  refine wc_ret ?_
                  refine bret ?_
                  refine qr ?_
                  refine qr ?_
                  refine bret ?_
                  refine qr ?_
                  have h := Option.some.inj h
                  subst h
                  refine end1 rfl (.tmp rfl .nil) ?_
                  exact ⟨_, rfl, fr2518⟩
                · replace h := (if_neg c2537).symm.trans h
                  have b2539 : (decide (1000 < (t2528.length : Int))) = false := decide_eq_false c2537
                  refine wc_else rfl b2539 ?_
                  refine wc_skip ?_
                  refine bn ?_
                  refine qn ?_
                  refine wc_region ?_
                  refine wl_add z2524 rfl ?_
                  refine wl_move (.int .i64 (IntKind.i64.wrap (x2514 + 1))) rfl ?_
                  refine wl_nil ?_
                  refine qn ?_
                  exact ⟨_, _, _, (IntKind.i64.wrap (x2514 + 1)), rfl, (by omega), (by omega), fr2518, e2519, z2522, z2523, rfl, h⟩
              · replace h := (if_neg c2527).symm.trans h
                cases h
            · replace h := (if_neg c2525).symm.trans h
              have b2540 : (decide (x2514 < (a0.Texts.length : Int))) = false := decide_eq_false c2525
              refine wc_else rfl b2540 ?_
              refine wc_exit ?_
              refine qe ?_
              refine qe ?_
              refine be ?_
              refine qn ?_
              refine wc_seq ?_
              refine wc_region ?_
              refine wl_assign (.bool true) rfl ?_
              refine wl_nil ?_
              refine qn ?_
              refine wc_ret ?_
              have h := Option.some.inj h
              subst h
              refine end1 rfl (.tmp rfl .nil) ?_
              exact ⟨_, rfl, fr2518⟩
/-! ### consignor/consignorref20.word: function 37 -/
def consignorref20_word.f (k : Nat) (a0 : Int) : Option (List UInt8) := if 0 ≤ a0 then ((([[], ([98, 108, 111, 98] : List UInt8), ([112, 117, 116] : List UInt8), ([110, 97, 109, 101] : List UInt8), ([117, 110, 110, 97, 109, 101] : List UInt8), ([114, 117, 108, 101] : List UInt8), ([117, 110, 115, 101, 116] : List UInt8), ([102, 105, 114, 101] : List UInt8), ([116, 105, 99, 107] : List UInt8), ([115, 116, 101, 112] : List UInt8), ([115, 116, 111, 112] : List UInt8), ([97, 103, 97, 105, 110] : List UInt8), ([99, 114, 97, 115, 104] : List UInt8)])[Int.toNat a0]?).bind fun t9 => (some t9)) else none
set_option maxRecDepth 100000 in
set_option maxHeartbeats 1000000 in
theorem consignorref20_word.ok (k : Nat) {w0 : World} {hw0 : Hw} (wf : Hwf w0 hw0) (a0 : Int) (r : (List UInt8)) (h : consignorref20_word.f k a0 = some r) :
    Calls Tryz.prog 37 #[.int .i64 a0] w0 fun e w' => ∃ (hw' : Hw), e = .returned (.string (bs r)) ∧ Stp none w0 hw0 w' hw' := by
  have fr0 := Stp.refl none (w := w0) (hw := hw0) wf
  unfold consignorref20_word.f at h
  refine enter (n := 7) Tryz.func37 rfl rfl (Nat.le_of_ble_eq_true rfl) ?_
  refine wc_seq ?_
  refine wc_region ?_
  refine wl_assign (.string (bs [])) rfl ?_
  refine wl_nil ?_
  refine qn ?_
  refine wc_seq ?_
  refine wc_region ?_
  have hb1 : ∀ w : World, (Instr.buildSlice 39 13 #[(0, .string (bs [])), (1, .string (bs ([98, 108, 111, 98] : List UInt8))), (2, .string (bs ([112, 117, 116] : List UInt8))), (3, .string (bs ([110, 97, 109, 101] : List UInt8))), (4, .string (bs ([117, 110, 110, 97, 109, 101] : List UInt8))), (5, .string (bs ([114, 117, 108, 101] : List UInt8))), (6, .string (bs ([117, 110, 115, 101, 116] : List UInt8))), (7, .string (bs ([102, 105, 114, 101] : List UInt8))), (8, .string (bs ([116, 105, 99, 107] : List UInt8))), (9, .string (bs ([115, 116, 101, 112] : List UInt8))), (10, .string (bs ([115, 116, 111, 112] : List UInt8))), (11, .string (bs ([97, 103, 97, 105, 110] : List UInt8))), (12, .string (bs ([99, 114, 97, 115, 104] : List UInt8)))]).run Tryz.prog w = .ok (.slice (some ⟨w.heap.size, 0, none⟩) 13 13) (w.alloc (.cells (List.toArray [.string (bs []), .string (bs ([98, 108, 111, 98] : List UInt8)), .string (bs ([112, 117, 116] : List UInt8)), .string (bs ([110, 97, 109, 101] : List UInt8)), .string (bs ([117, 110, 110, 97, 109, 101] : List UInt8)), .string (bs ([114, 117, 108, 101] : List UInt8)), .string (bs ([117, 110, 115, 101, 116] : List UInt8)), .string (bs ([102, 105, 114, 101] : List UInt8)), .string (bs ([116, 105, 99, 107] : List UInt8)), .string (bs ([115, 116, 101, 112] : List UInt8)), .string (bs ([115, 116, 111, 112] : List UInt8)), .string (bs ([97, 103, 97, 105, 110] : List UInt8)), .string (bs ([99, 114, 97, 115, 104] : List UInt8))]) 9)) := fun _ => by kernel_rfl
  refine wl_lit (KD := Kstr) fr0.wf [.string (bs []), .string (bs ([98, 108, 111, 98] : List UInt8)), .string (bs ([112, 117, 116] : List UInt8)), .string (bs ([110, 97, 109, 101] : List UInt8)), .string (bs ([117, 110, 110, 97, 109, 101] : List UInt8)), .string (bs ([114, 117, 108, 101] : List UInt8)), .string (bs ([117, 110, 115, 101, 116] : List UInt8)), .string (bs ([102, 105, 114, 101] : List UInt8)), .string (bs ([116, 105, 99, 107] : List UInt8)), .string (bs ([115, 116, 101, 112] : List UInt8)), .string (bs ([115, 116, 111, 112] : List UInt8)), .string (bs ([97, 103, 97, 105, 110] : List UInt8)), .string (bs ([99, 114, 97, 115, 104] : List UInt8))] [[], ([98, 108, 111, 98] : List UInt8), ([112, 117, 116] : List UInt8), ([110, 97, 109, 101] : List UInt8), ([117, 110, 110, 97, 109, 101] : List UInt8), ([114, 117, 108, 101] : List UInt8), ([117, 110, 115, 101, 116] : List UInt8), ([102, 105, 114, 101] : List UInt8), ([116, 105, 99, 107] : List UInt8), ([115, 116, 101, 112] : List UInt8), ([115, 116, 111, 112] : List UInt8), ([97, 103, 97, 105, 110] : List UInt8), ([99, 114, 97, 115, 104] : List UInt8)] (pc rfl (pc rfl (pc rfl (pc rfl (pc rfl (pc rfl (pc rfl (pc rfl (pc rfl (pc rfl (pc rfl (pc rfl (pc rfl (pn _ _)))))))))))))) (hb1 _) rfl (by decide) ⟨[.string (bs [])], _, rfl, rfl, ⟨[.string (bs ([98, 108, 111, 98] : List UInt8))], _, rfl, rfl, ⟨[.string (bs ([112, 117, 116] : List UInt8))], _, rfl, rfl, ⟨[.string (bs ([110, 97, 109, 101] : List UInt8))], _, rfl, rfl, ⟨[.string (bs ([117, 110, 110, 97, 109, 101] : List UInt8))], _, rfl, rfl, ⟨[.string (bs ([114, 117, 108, 101] : List UInt8))], _, rfl, rfl, ⟨[.string (bs ([117, 110, 115, 101, 116] : List UInt8))], _, rfl, rfl, ⟨[.string (bs ([102, 105, 114, 101] : List UInt8))], _, rfl, rfl, ⟨[.string (bs ([116, 105, 99, 107] : List UInt8))], _, rfl, rfl, ⟨[.string (bs ([115, 116, 101, 112] : List UInt8))], _, rfl, rfl, ⟨[.string (bs ([115, 116, 111, 112] : List UInt8))], _, rfl, rfl, ⟨[.string (bs ([97, 103, 97, 105, 110] : List UInt8))], _, rfl, rfl, ⟨[.string (bs ([99, 114, 97, 115, 104] : List UInt8))], _, rfl, rfl, rfl⟩⟩⟩⟩⟩⟩⟩⟩⟩⟩⟩⟩⟩ ?_
  intro v2 w3 hw4 O6 s5
  replace O6 := O6.low fr0.g.size
  have fr7 := fr0.then0 s5
  refine wl_move (.int .i64 a0) rfl ?_
  by_cases c8 : 0 ≤ a0
  · replace h := (if_pos c8).symm.trans h
    obtain ⟨t9, h10, h⟩ := Option.bind_eq_some_iff.1 h
    have c11 := at_lt c8 h10
    refine wl_at Tryz.underlying39 ty9 O6.row rfl rfl c8 c11 t9 h10 ?_
    rintro B12 o13 cs14 rfl l16
    refine wl_load1 ty9 rfl (.string (bs t9)) (l16.2 0 _ rfl) ?_
    refine wl_assign (.string (bs t9)) rfl ?_
    refine wl_nil ?_
    refine qn ?_
    refine wc_ret ?_
    have h := Option.some.inj h
    subst h
    refine end1 rfl (.tmp rfl .nil) ?_
    exact ⟨_, rfl, fr7⟩
  · replace h := (if_neg c8).symm.trans h
    cases h
/-! ### consignor/consignorref01.Hex: function 38 -/
mutual
def consignorref01_Hex.l1 : Nat → (List UInt8) → Int → (List Int) → Int → Option (List UInt8)
  | 0, _, _, _, _ => none
  | k + 1, a0, x10, l256, x257 => if x257 < (([(IntKind.u8.wrap (Int.tdiv ((a0.getD (Int.toNat x10) 0).toNat : Int) 16)), (Int.tmod ((a0.getD (Int.toNat x10) 0).toNat : Int) 16)]).length : Int) then (if 0 ≤ x257 then ((([(IntKind.u8.wrap (Int.tdiv ((a0.getD (Int.toNat x10) 0).toNat : Int) 16)), (Int.tmod ((a0.getD (Int.toNat x10) 0).toNat : Int) 16)])[Int.toNat x257]?).bind fun t277 => (if t277 < 10 then (if (l256.length + ([(IntKind.u8.wrap (48 + t277))]).length) * 1 ≤ 140737488355328 then (consignorref01_Hex.l1 k a0 x10 (l256 ++ ([(IntKind.u8.wrap (48 + t277))])) (IntKind.i64.wrap (x257 + 1))) else none) else (if (l256.length + ([(IntKind.u8.wrap ((IntKind.u8.wrap (97 + t277)) - 10))]).length) * 1 ≤ 140737488355328 then (consignorref01_Hex.l1 k a0 x10 (l256 ++ ([(IntKind.u8.wrap ((IntKind.u8.wrap (97 + t277)) - 10))])) (IntKind.i64.wrap (x257 + 1))) else none))) else none) else (consignorref01_Hex.l0 k a0 l256 (IntKind.i64.wrap (x10 + 1)))
def consignorref01_Hex.l0 : Nat → (List UInt8) → (List Int) → Int → Option (List UInt8)
  | 0, _, _, _ => none
  | k + 1, a0, l9, x10 => if x10 < (a0.length : Int) then (if 0 ≤ x10 then (if x10 < (a0.length : Int) then (if 0 ≤ x10 then (if x10 < (a0.length : Int) then (consignorref01_Hex.l1 k a0 x10 l9 0) else none) else none) else none) else none) else (some (ofInts l9))
end
def consignorref01_Hex.f (k : Nat) (a0 : (List UInt8)) : Option (List UInt8) := consignorref01_Hex.l0 k a0 [] 0
set_option maxHeartbeats 1000000 in
theorem consignorref01_Hex.ok (k : Nat) {w0 : World} {hw0 : Hw} (wf : Hwf w0 hw0) (a0 : (List UInt8)) (r : (List UInt8)) (h : consignorref01_Hex.f k a0 = some r) :
    Calls Tryz.prog 38 #[.string (bs a0)] w0 fun e w' => ∃ (hw' : Hw), e = .returned (.string (bs r)) ∧ Stp none w0 hw0 w' hw' := by
  have fr0 := Stp.refl none (w := w0) (hw := hw0) wf
  unfold consignorref01_Hex.f at h
  refine enter (n := 44) Tryz.func38 rfl rfl (Nat.le_of_ble_eq_true rfl) ?_
  refine wc_seq ?_
  refine wc_region ?_
  refine wl_assign (.string (bs [])) rfl ?_
  refine wl_nil ?_
  refine qn ?_
  refine wc_seq ?_
  refine wc_region ?_
  have hb1 : ∀ w : World, (Instr.buildSlice 111 0 #[]).run Tryz.prog w = .ok (.slice (some ⟨w.heap.size, 0, none⟩) 0 0) (w.alloc (.cells (List.toArray []) 5)) := fun _ => by kernel_rfl
  refine wl_lit (KD := (Kint .u8)) fr0.wf [] [] (pn _ _) (hb1 _) rfl (by decide) rfl ?_
  intro v2 w3 hw4 O6 s5
  replace O6 := O6.low fr0.g.size
  have fr7 := fr0.then0 s5
  refine wl_assign (v2) rfl ?_
  refine wl_nil ?_
  refine qn ?_
  refine wc_seq ?_
  refine wc_seq ?_
  refine wc_region ?_
  refine wl_assign (.int .i64 0) rfl ?_
  refine wl_nil ?_
  refine qn ?_
  refine wc_block ?_
  refine wc_loop (fun m a w => ∃ (σ : Nat → Value) (hw : Hw) (kq : Nat) (v8 : Value) (l9 : (List Int)) (x10 : Int), a = mkA 44 σ ∧ kq ≤ m ∧ kq ≤ k ∧ Stp none w0 hw0 w hw ∧ Ext w3 hw4 w hw ∧ σ 0 = .string (bs a0) ∧ σ 3 = v8 ∧ σ 4 = .int .i64 x10 ∧ Own (Kint .u8) 5 w0.heap.size w hw v8 l9 ∧ consignorref01_Hex.l0 kq a0 l9 x10 = some r) k ?_ ?_ ?_
  · skip
    exact ⟨_, _, _, v2, [], 0, rfl, (Nat.le_refl _), (Nat.le_refl _), fr7, (Ext.refl _ _), rfl, rfl, rfl, O6, h⟩
  · rintro _ _ ⟨_, hw12, k13, v8, l9, x10, rfl, hk16, hk17, fr14, e15, z18, z19, z20, r21, h⟩; obtain rfl := Nat.le_zero.1 hk16; rw [consignorref01_Hex.l0] at h; cases h
  · rintro m0 _ w11 ⟨_, hw12, k13, v8, l9, x10, rfl, hk16, hk17, fr14, e15, z18, z19, z20, r21, h⟩
    rcases k13 with _ | k13
    · rw [consignorref01_Hex.l0] at h; cases h
    rw [consignorref01_Hex.l0] at h
    refine wc_seq ?_
    refine wc_seq ?_
    refine wc_region ?_
    refine wl_move (.int .i64 x10) z20 ?_
    refine wl_move (.string (bs a0)) z18 ?_
    refine wl_lens Tryz.underlying9 rfl ?_
    refine wl_lss rfl rfl ?_
    refine wl_nil ?_
    refine qn ?_
    by_cases c22 : x10 < (a0.length : Int)
    · replace h := (if_pos c22).symm.trans h
      have b23 : (decide (x10 < (a0.length : Int))) = true := decide_eq_true c22
      refine wc_then rfl b23 ?_
      refine wc_skip ?_
      refine qn ?_
      refine wc_seq ?_
      refine wc_block ?_
      refine wc_seq ?_
      have s24 := Stp.drew (w := w11) (hw := hw12) fr14.wf
      have fr25 := fr14.then0 s24
      have O26 := (r21.step0 s24)
      by_cases c28 : 0 ≤ x10
      · replace h := (if_pos c28).symm.trans h
        by_cases c29 : x10 < (a0.length : Int)
        · replace h := (if_pos c29).symm.trans h
          by_cases c30 : 0 ≤ x10
          · replace h := (if_pos c30).symm.trans h
            by_cases c31 : x10 < (a0.length : Int)
            · replace h := (if_pos c31).symm.trans h
              refine wc_any (hw := hw12) mixed [[], [], [0, 1], [2], [], [], [4, 5], [6], [3, 7], [8], []] [14, 15, 16, 17, 18, 19, 20, 21, 22, 23, 24] (by kernel_rfl) (PhiOf [fun v w hw => v = .string (bs a0), fun v w hw => v = .int .i64 x10, fun v w hw => v = .int .u8 ((a0.getD (Int.toNat x10) 0).toNat : Int), fun v w hw => v = .int .u8 (IntKind.u8.wrap (Int.tdiv ((a0.getD (Int.toNat x10) 0).toNat : Int) 16)), fun v w hw => v = .string (bs a0), fun v w hw => v = .int .i64 x10, fun v w hw => v = .int .u8 ((a0.getD (Int.toNat x10) 0).toNat : Int), fun v w hw => v = .int .u8 (Int.tmod ((a0.getD (Int.toNat x10) 0).toNat : Int) 16), fun v w hw => Row (Kint .u8) w hw v ([(IntKind.u8.wrap (Int.tdiv ((a0.getD (Int.toNat x10) 0).toNat : Int) 16)), (Int.tmod ((a0.getD (Int.toNat x10) 0).toNat : Int) 16)]), fun v w hw => v = .int .i64 (([(IntKind.u8.wrap (Int.tdiv ((a0.getD (Int.toNat x10) 0).toNat : Int) 16)), (Int.tmod ((a0.getD (Int.toNat x10) 0).toNat : Int) 16)]).length : Int), fun v w hw => v = .int .i64 0]) (fun D σ w hw => Stp none w0 hw0 w hw ∧ Ext (w11).drew hw12 w hw ∧ Own (Kint .u8) 5 w0.heap.size w hw v8 l9 ∧ (bif D 8 then (Own (Kint .u8) 5 w0.heap.size w hw (σ 22) ([(IntKind.u8.wrap (Int.tdiv ((a0.getD (Int.toNat x10) 0).toNat : Int) 16)), (Int.tmod ((a0.getD (Int.toNat x10) 0).toNat : Int) 16)]) ∧ Dis v8 (σ 22)) else True)) (stab_of (sbc (fun _ _ _ _ _ _ h => h) (sbc (fun _ _ _ _ _ _ h => h) (sbc (fun _ _ _ _ _ _ h => h) (sbc (fun _ _ _ _ _ _ h => h) (sbc (fun _ _ _ _ _ _ h => h) (sbc (fun _ _ _ _ _ _ h => h) (sbc (fun _ _ _ _ _ _ h => h) (sbc (fun _ _ _ _ _ _ h => h) (sbc (fun _ _ _ _ _ e h => Row.ext e h) (sbc (fun _ _ _ _ _ _ h => h) (sbc (fun _ _ _ _ _ _ h => h) sbn)))))))))))) ?_ (stc ?_ (stc ?_ (stc ?_ (stc ?_ (stc ?_ (stc ?_ (stc ?_ (stc ?_ (stc ?_ (stc ?_ (stc ?_ stn))))))))))) ?_
              · exact ⟨fr25, Ext.refl _ _, O26, trivial⟩
              · intro D43 σ44 w45 hw46 q47 q48 q49 q50 q51 q52
                obtain ⟨fr53, e54, C55, C56⟩ := q47
                refine wl_move (.string (bs a0)) ((q50 0 rfl).trans z18) ?_
                refine wl_nil ?_
                exact qn ⟨_, _, rfl, (Ext.refl _ _), ⟨fr53, e54.trans (Ext.refl _ _), C55, C56⟩, (aft_some rfl)⟩
              · intro D57 σ58 w59 hw60 q61 q62 q63 q64 q65 q66
                obtain ⟨fr67, e68, C69, C70⟩ := q61
                refine wl_move (.int .i64 x10) ((q64 4 rfl).trans z20) ?_
                refine wl_nil ?_
                exact qn ⟨_, _, rfl, (Ext.refl _ _), ⟨fr67, e68.trans (Ext.refl _ _), C69, C70⟩, (aft_some rfl)⟩
              · intro D71 σ72 w73 hw74 q75 q76 q77 q78 q79 q80
                obtain ⟨fr81, e82, C83, C84⟩ := q75
                obtain ⟨⟨_, m85⟩, ⟨_, m86⟩, _⟩ := q77
                have z87 : (σ72 14) = .string (bs a0) := m85
                have z88 : (σ72 15) = .int .i64 x10 := m86
                refine wl_bt Tryz.underlying9 z87 z88 c28 c29 ?_
                refine wl_nil ?_
                exact qn ⟨_, _, rfl, (Ext.refl _ _), ⟨fr81, e82.trans (Ext.refl _ _), C83, C84⟩, (aft_some rfl)⟩
              · intro D89 σ90 w91 hw92 q93 q94 q95 q96 q97 q98
                obtain ⟨fr99, e100, C101, C102⟩ := q93
                obtain ⟨⟨_, m103⟩, _⟩ := q95
                have z104 : (σ90 16) = .int .u8 ((a0.getD (Int.toNat x10) 0).toNat : Int) := m103
                refine wl_quo z104 rfl (by decide) ?_
                refine wl_nil ?_
                exact qn ⟨_, _, rfl, (Ext.refl _ _), ⟨fr99, e100.trans (Ext.refl _ _), C101, C102⟩, (aft_some rfl)⟩
              · intro D105 σ106 w107 hw108 q109 q110 q111 q112 q113 q114
                obtain ⟨fr115, e116, C117, C118⟩ := q109
                refine wl_move (.string (bs a0)) ((q112 0 rfl).trans z18) ?_
                refine wl_nil ?_
                exact qn ⟨_, _, rfl, (Ext.refl _ _), ⟨fr115, e116.trans (Ext.refl _ _), C117, C118⟩, (aft_some rfl)⟩
              · intro D119 σ120 w121 hw122 q123 q124 q125 q126 q127 q128
                obtain ⟨fr129, e130, C131, C132⟩ := q123
                refine wl_move (.int .i64 x10) ((q126 4 rfl).trans z20) ?_
                refine wl_nil ?_
                exact qn ⟨_, _, rfl, (Ext.refl _ _), ⟨fr129, e130.trans (Ext.refl _ _), C131, C132⟩, (aft_some rfl)⟩
              · intro D133 σ134 w135 hw136 q137 q138 q139 q140 q141 q142
                obtain ⟨fr143, e144, C145, C146⟩ := q137
                obtain ⟨⟨_, m147⟩, ⟨_, m148⟩, _⟩ := q139
                have z149 : (σ134 18) = .string (bs a0) := m147
                have z150 : (σ134 19) = .int .i64 x10 := m148
                refine wl_bt Tryz.underlying9 z149 z150 c30 c31 ?_
                refine wl_nil ?_
                exact qn ⟨_, _, rfl, (Ext.refl _ _), ⟨fr143, e144.trans (Ext.refl _ _), C145, C146⟩, (aft_some rfl)⟩
              · intro D151 σ152 w153 hw154 q155 q156 q157 q158 q159 q160
                obtain ⟨fr161, e162, C163, C164⟩ := q155
                obtain ⟨⟨_, m165⟩, _⟩ := q157
                have z166 : (σ152 20) = .int .u8 ((a0.getD (Int.toNat x10) 0).toNat : Int) := m165
                refine wl_rem z166 rfl (by decide) ?_
                refine wl_nil ?_
                exact qn ⟨_, _, rfl, (Ext.refl _ _), ⟨fr161, e162.trans (Ext.refl _ _), C163, C164⟩, (aft_some rfl)⟩
              · intro D167 σ168 w169 hw170 q171 q172 q173 q174 q175 q176
                obtain ⟨fr177, e178, C179, C180⟩ := q171
                obtain ⟨⟨_, m181⟩, ⟨_, m182⟩, _⟩ := q173
                have z183 : (σ168 17) = .int .u8 (IntKind.u8.wrap (Int.tdiv ((a0.getD (Int.toNat x10) 0).toNat : Int) 16)) := m181
                have z184 : (σ168 21) = .int .u8 (Int.tmod ((a0.getD (Int.toNat x10) 0).toNat : Int) 16) := m182
                have hb185 : ∀ w : World, (Instr.buildSlice 111 2 #[(0, .int .u8 (IntKind.u8.wrap (Int.tdiv ((a0.getD (Int.toNat x10) 0).toNat : Int) 16))), (1, .int .u8 (Int.tmod ((a0.getD (Int.toNat x10) 0).toNat : Int) 16))]).run Tryz.prog w = .ok (.slice (some ⟨w.heap.size, 0, none⟩) 2 2) (w.alloc (.cells (List.toArray [.int .u8 (IntKind.u8.wrap (Int.tdiv ((a0.getD (Int.toNat x10) 0).toNat : Int) 16)), .int .u8 (Int.tmod ((a0.getD (Int.toNat x10) 0).toNat : Int) 16)]) 5)) := fun _ => by kernel_rfl
                refine wl_lit (KD := (Kint .u8)) fr177.wf [.int .u8 (IntKind.u8.wrap (Int.tdiv ((a0.getD (Int.toNat x10) 0).toNat : Int) 16)), .int .u8 (Int.tmod ((a0.getD (Int.toNat x10) 0).toNat : Int) 16)] [(IntKind.u8.wrap (Int.tdiv ((a0.getD (Int.toNat x10) 0).toNat : Int) 16)), (Int.tmod ((a0.getD (Int.toNat x10) 0).toNat : Int) 16)] (pc z183 (pc z184 (pn _ _))) (hb185 _) rfl (by decide) ⟨[.int .u8 (IntKind.u8.wrap (Int.tdiv ((a0.getD (Int.toNat x10) 0).toNat : Int) 16))], _, rfl, rfl, ⟨[.int .u8 (Int.tmod ((a0.getD (Int.toNat x10) 0).toNat : Int) 16)], _, rfl, rfl, rfl⟩⟩ ?_
                intro v186 w187 hw188 O190 s189
                have n191 := own_dis_new O190 C179
                replace O190 := O190.low fr177.g.size
                have fr192 := fr177.then0 s189
                refine wl_nil ?_
                have O193 := (C179.step0 s189)
                exact qn ⟨_, _, rfl, s189.ext, ⟨fr192, e178.trans s189.ext, O193, ⟨O190, n191⟩⟩, (aft_some O190.row)⟩
              · intro D194 σ195 w196 hw197 q198 q199 q200 q201 q202 q203
                obtain ⟨fr204, e205, C206, C207⟩ := q198
                have O208 := bif_t (q202 8 rfl) C207
                obtain ⟨O208, n209⟩ : Own (Kint .u8) 5 w0.heap.size w196 hw197 (σ195 22) ([(IntKind.u8.wrap (Int.tdiv ((a0.getD (Int.toNat x10) 0).toNat : Int) 16)), (Int.tmod ((a0.getD (Int.toNat x10) 0).toNat : Int) 16)]) ∧ Dis v8 (σ195 22) := O208
                obtain ⟨⟨_, m210⟩, _⟩ := q200
                have f211 : Row (Kint .u8) w196 hw197 (σ195 22) ([(IntKind.u8.wrap (Int.tdiv ((a0.getD (Int.toNat x10) 0).toNat : Int) 16)), (Int.tmod ((a0.getD (Int.toNat x10) 0).toNat : Int) 16)]) := m210
                obtain ⟨A212, c213, hv214⟩ := (O208.row).slice
                refine wl_len Tryz.underlying111 (show _ = Value.slice _ ([(IntKind.u8.wrap (Int.tdiv ((a0.getD (Int.toNat x10) 0).toNat : Int) 16)), (Int.tmod ((a0.getD (Int.toNat x10) 0).toNat : Int) 16)]).length _ from (Eq.trans rfl hv214)) ?_
                refine wl_nil ?_
                exact qn ⟨_, _, rfl, (Ext.refl _ _), ⟨fr204, e205.trans (Ext.refl _ _), C206, C207⟩, (aft_some rfl)⟩
              · intro D215 σ216 w217 hw218 q219 q220 q221 q222 q223 q224
                obtain ⟨fr225, e226, C227, C228⟩ := q219
                refine wl_move (.int .i64 0) rfl ?_
                refine wl_nil ?_
                exact qn ⟨_, _, rfl, (Ext.refl _ _), ⟨fr225, e226.trans (Ext.refl _ _), C227, C228⟩, (aft_some rfl)⟩
              · intro σ229 w230 hw231 q232 q233 q234
                obtain ⟨fr235, e236, C237, C238⟩ := q232
                have O239 := C238
                obtain ⟨O239, n240⟩ : Own (Kint .u8) 5 w0.heap.size w230 hw231 (σ229 22) ([(IntKind.u8.wrap (Int.tdiv ((a0.getD (Int.toNat x10) 0).toNat : Int) 16)), (Int.tmod ((a0.getD (Int.toNat x10) 0).toNat : Int) 16)]) ∧ Dis v8 (σ229 22) := O239
                obtain ⟨m241, m242, m243, m244, m245, m246, m247, m248, m249, m250, m251, _⟩ := q234
                have f252 : Row (Kint .u8) w230 hw231 (σ229 22) ([(IntKind.u8.wrap (Int.tdiv ((a0.getD (Int.toNat x10) 0).toNat : Int) 16)), (Int.tmod ((a0.getD (Int.toNat x10) 0).toNat : Int) 16)]) := m249
                have z253 : (σ229 23) = .int .i64 (([(IntKind.u8.wrap (Int.tdiv ((a0.getD (Int.toNat x10) 0).toNat : Int) 16)), (Int.tmod ((a0.getD (Int.toNat x10) 0).toNat : Int) 16)]).length : Int) := m250
                have z254 : (σ229 24) = .int .i64 0 := m251
                refine qn ?_
                refine wc_block ?_
                refine wc_loop (fun m a w => ∃ (σ : Nat → Value) (hw : Hw) (kq : Nat) (v255 : Value) (l256 : (List Int)) (x257 : Int), a = mkA 44 σ ∧ kq ≤ m ∧ kq ≤ k13 ∧ Stp none w0 hw0 w hw ∧ Ext w230 hw231 w hw ∧ σ 0 = .string (bs a0) ∧ σ 3 = v255 ∧ σ 4 = .int .i64 x10 ∧ σ 22 = (σ229 22) ∧ σ 23 = .int .i64 (([(IntKind.u8.wrap (Int.tdiv ((a0.getD (Int.toNat x10) 0).toNat : Int) 16)), (Int.tmod ((a0.getD (Int.toNat x10) 0).toNat : Int) 16)]).length : Int) ∧ σ 24 = .int .i64 x257 ∧ Own (Kint .u8) 5 w0.heap.size w hw (σ229 22) ([(IntKind.u8.wrap (Int.tdiv ((a0.getD (Int.toNat x10) 0).toNat : Int) 16)), (Int.tmod ((a0.getD (Int.toNat x10) 0).toNat : Int) 16)]) ∧ Own (Kint .u8) 5 w0.heap.size w hw v255 l256 ∧ Dis (σ229 22) v255 ∧ consignorref01_Hex.l1 kq a0 x10 l256 x257 = some r) k13 ?_ ?_ ?_
                · skip
                  exact ⟨_, _, _, v8, l9, 0, rfl, (Nat.le_refl _), (Nat.le_refl _), fr235, (Ext.refl _ _), ((q233 0 rfl).trans z18), ((q233 3 rfl).trans z19), ((q233 4 rfl).trans z20), rfl, z253, z254, O239, C237, n240.symm, h⟩
                · rintro _ _ ⟨_, hw259, k260, v255, l256, x257, rfl, hk263, hk264, fr261, e262, z265, z266, z267, z268, z269, z270, O271, r272, n273, h⟩; obtain rfl := Nat.le_zero.1 hk263; rw [consignorref01_Hex.l1] at h; cases h
                · rintro m1 _ w258 ⟨_, hw259, k260, v255, l256, x257, rfl, hk263, hk264, fr261, e262, z265, z266, z267, z268, z269, z270, O271, r272, n273, h⟩
                  rcases k260 with _ | k260
                  · rw [consignorref01_Hex.l1] at h; cases h
                  rw [consignorref01_Hex.l1] at h
                  refine wc_seq ?_
                  refine wc_region ?_
                  refine wl_lss z270 z269 ?_
                  refine wl_nil ?_
                  refine qn ?_
                  refine wc_seq ?_
                  by_cases c274 : x257 < (([(IntKind.u8.wrap (Int.tdiv ((a0.getD (Int.toNat x10) 0).toNat : Int) 16)), (Int.tmod ((a0.getD (Int.toNat x10) 0).toNat : Int) 16)]).length : Int)
                  · replace h := (if_pos c274).symm.trans h
                    have b275 : (decide (x257 < (([(IntKind.u8.wrap (Int.tdiv ((a0.getD (Int.toNat x10) 0).toNat : Int) 16)), (Int.tmod ((a0.getD (Int.toNat x10) 0).toNat : Int) 16)]).length : Int))) = true := decide_eq_true c274
                    refine wc_then rfl b275 ?_
                    refine wc_skip ?_
                    refine qn ?_
                    refine wc_seq ?_
                    refine wc_block ?_
                    refine wc_seq ?_
                    refine wc_region ?_
                    by_cases c276 : 0 ≤ x257
                    · replace h := (if_pos c276).symm.trans h
                      obtain ⟨t277, h278, h⟩ := Option.bind_eq_some_iff.1 h
                      have c279 := at_lt c276 h278
                      refine wl_at Tryz.underlying111 ty5 O271.row z268 z270 c276 c279 t277 h278 ?_
                      rintro B280 o281 cs282 rfl l284
                      refine wl_load1 ty5 rfl (.int .u8 t277) (l284.2 0 _ rfl) ?_
                      refine wl_assign (.int .u8 t277) rfl ?_
                      refine wl_nil ?_
                      refine qn ?_
                      refine wc_seq ?_
                      refine wc_region ?_
                      refine wl_move (.int .u8 t277) rfl ?_
                      refine wl_lss rfl rfl ?_
                      refine wl_nil ?_
                      refine qn ?_
                      by_cases c285 : t277 < 10
                      · replace h := (if_pos c285).symm.trans h
                        have b286 : (decide (t277 < 10)) = true := decide_eq_true c285
                        refine wc_then rfl b286 ?_
                        refine wc_region ?_
                        refine wl_move (v255) z266 ?_
                        refine wl_move (.int .u8 t277) rfl ?_
                        refine wl_add rfl rfl ?_
                        have hb287 : ∀ w : World, (Instr.buildSlice 111 1 #[(0, .int .u8 (IntKind.u8.wrap (48 + t277)))]).run Tryz.prog w = .ok (.slice (some ⟨w.heap.size, 0, none⟩) 1 1) (w.alloc (.cells (List.toArray [.int .u8 (IntKind.u8.wrap (48 + t277))]) 5)) := fun _ => by kernel_rfl
                        refine wl_lit (KD := (Kint .u8)) fr261.wf [.int .u8 (IntKind.u8.wrap (48 + t277))] [(IntKind.u8.wrap (48 + t277))] (pc rfl (pn _ _)) (hb287 _) rfl (by decide) ⟨[.int .u8 (IntKind.u8.wrap (48 + t277))], _, rfl, rfl, rfl⟩ ?_
                        intro v288 w289 hw290 O292 s291
                        have n293 := own_dis_new O292 O271
                        have n294 := own_dis_new O292 r272
                        replace O292 := O292.low fr261.g.size
                        have fr295 := fr261.then0 s291
                        by_cases c296 : (l256.length + ([(IntKind.u8.wrap (48 + t277))]).length) * 1 ≤ 140737488355328
                        · replace h := (if_pos c296).symm.trans h
                          have c297 : l256.length + ([(IntKind.u8.wrap (48 + t277))]).length ≤ 9223372036854775807 := by omega
                          have O298 := (r272.step0 s291)
                          refine wl_app Tryz.underlying111 ty5 rfl (by decide) fr295.wf O298 O292.row rfl rfl c297 c296 fr295.g.size ?_
                          intro v299 w300 hw301 O303 s302 lo304
                          have O306 := (O271.step0 s291)
                          have n305 := app_dis lo304 n273 O306
                          have n307 := app_dis lo304 n294.symm O292
                          have fr308 := fr295.then s302 (fun _ e => (O298.new _ e).1)
                          refine wl_assign (v299) rfl ?_
                          refine wl_nil ?_
                          refine bn ?_
                          refine qn ?_
                          refine wc_region ?_
                          refine wl_add z270 rfl ?_
                          refine wl_move (.int .i64 (IntKind.i64.wrap (x257 + 1))) rfl ?_
                          refine wl_nil ?_
                          refine qn ?_
                          have O309 := (O306.stepo s302 n273)
                          exact ⟨_, _, _, v299, (l256 ++ ([(IntKind.u8.wrap (48 + t277))])), (IntKind.i64.wrap (x257 + 1)), rfl, (by omega), (by omega), fr308, (Ext.trans e262 (Ext.trans s291.ext s302.ext)), z265, rfl, z267, z268, z269, rfl, O309, O303, n305, h⟩
                        · replace h := (if_neg c296).symm.trans h
                          cases h
                      · replace h := (if_neg c285).symm.trans h
                        have b310 : (decide (t277 < 10)) = false := decide_eq_false c285
                        refine wc_else rfl b310 ?_
                        refine wc_region ?_
                        refine wl_move (v255) z266 ?_
                        refine wl_move (.int .u8 t277) rfl ?_
                        refine wl_add rfl rfl ?_
                        refine wl_sub rfl rfl ?_
                        have hb311 : ∀ w : World, (Instr.buildSlice 111 1 #[(0, .int .u8 (IntKind.u8.wrap ((IntKind.u8.wrap (97 + t277)) - 10)))]).run Tryz.prog w = .ok (.slice (some ⟨w.heap.size, 0, none⟩) 1 1) (w.alloc (.cells (List.toArray [.int .u8 (IntKind.u8.wrap ((IntKind.u8.wrap (97 + t277)) - 10))]) 5)) := fun _ => by kernel_rfl
                        refine wl_lit (KD := (Kint .u8)) fr261.wf [.int .u8 (IntKind.u8.wrap ((IntKind.u8.wrap (97 + t277)) - 10))] [(IntKind.u8.wrap ((IntKind.u8.wrap (97 + t277)) - 10))] (pc rfl (pn _ _)) (hb311 _) rfl (by decide) ⟨[.int .u8 (IntKind.u8.wrap ((IntKind.u8.wrap (97 + t277)) - 10))], _, rfl, rfl, rfl⟩ ?_
                        intro v312 w313 hw314 O316 s315
                        have n317 := own_dis_new O316 O271
                        have n318 := own_dis_new O316 r272
                        replace O316 := O316.low fr261.g.size
                        have fr319 := fr261.then0 s315
                        by_cases c320 : (l256.length + ([(IntKind.u8.wrap ((IntKind.u8.wrap (97 + t277)) - 10))]).length) * 1 ≤ 140737488355328
                        · replace h := (if_pos c320).symm.trans h
                          have c321 : l256.length + ([(IntKind.u8.wrap ((IntKind.u8.wrap (97 + t277)) - 10))]).length ≤ 9223372036854775807 := by omega
                          have O322 := (r272.step0 s315)
                          refine wl_app Tryz.underlying111 ty5 rfl (by decide) fr319.wf O322 O316.row rfl rfl c321 c320 fr319.g.size ?_
                          intro v323 w324 hw325 O327 s326 lo328
                          have O330 := (O271.step0 s315)
                          have n329 := app_dis lo328 n273 O330
                          have n331 := app_dis lo328 n318.symm O316
                          have fr332 := fr319.then s326 (fun _ e => (O322.new _ e).1)
                          refine wl_assign (v323) rfl ?_
                          refine wl_nil ?_
                          refine bn ?_
                          refine qn ?_
                          refine wc_region ?_
                          refine wl_add z270 rfl ?_
                          refine wl_move (.int .i64 (IntKind.i64.wrap (x257 + 1))) rfl ?_
                          refine wl_nil ?_
                          refine qn ?_
                          have O333 := (O330.stepo s326 n273)
                          exact ⟨_, _, _, v323, (l256 ++ ([(IntKind.u8.wrap ((IntKind.u8.wrap (97 + t277)) - 10))])), (IntKind.i64.wrap (x257 + 1)), rfl, (by omega), (by omega), fr332, (Ext.trans e262 (Ext.trans s315.ext s326.ext)), z265, rfl, z267, z268, z269, rfl, O333, O327, n329, h⟩
                        · replace h := (if_neg c320).symm.trans h
                          cases h
                    · replace h := (if_neg c276).symm.trans h
                      cases h
                  · replace h := (if_neg c274).symm.trans h
                    have b334 : (decide (x257 < (([(IntKind.u8.wrap (Int.tdiv ((a0.getD (Int.toNat x10) 0).toNat : Int) 16)), (Int.tmod ((a0.getD (Int.toNat x10) 0).toNat : Int) 16)]).length : Int))) = false := decide_eq_false c274
                    refine wc_else rfl b334 ?_
                    refine wc_exit ?_
                    refine qe ?_
                    refine qe ?_
                    refine be ?_
                    refine bn ?_
                    refine qn ?_
                    refine wc_region ?_
                    refine wl_move (.int .i64 x10) z267 ?_
                    refine wl_add rfl rfl ?_
                    refine wl_assign (.int .i64 (IntKind.i64.wrap (x10 + 1))) rfl ?_
                    refine wl_nil ?_
                    refine qn ?_
                    exact ⟨_, _, _, v255, l256, (IntKind.i64.wrap (x10 + 1)), rfl, (by omega), (by omega), fr261, (Ext.trans e15 (Ext.trans s24.ext (Ext.trans e236 e262))), z265, z266, rfl, r272, h⟩
            · replace h := (if_neg c31).symm.trans h
              cases h
          · replace h := (if_neg c30).symm.trans h
            cases h
        · replace h := (if_neg c29).symm.trans h
          cases h
      · replace h := (if_neg c28).symm.trans h
        cases h
    · replace h := (if_neg c22).symm.trans h
      have b335 : (decide (x10 < (a0.length : Int))) = false := decide_eq_false c22
      refine wc_else rfl b335 ?_
      refine wc_exit ?_
      refine qe ?_
      refine qe ?_
      refine be ?_
      refine qn ?_
      refine wc_seq ?_
      refine wc_region ?_
      refine wl_move (v8) z19 ?_
      refine wl_conv_bytes Tryz.underlying111 Tryz.underlying5 Tryz.underlying9 r21.row rfl ?_
      refine wl_assign (.string (bs (ofInts l9))) rfl ?_
      refine wl_nil ?_
      refine qn ?_
      refine wc_ret ?_
      have h := Option.some.inj h
      subst h
      refine end1 rfl (.tmp rfl .nil) ?_
      exact ⟨_, rfl, fr14⟩
/-! ### consignor/consignorref20.Line: function 17 -/
mutual
def consignorref20_Line.l1 : Nat → ApiDeed → List UInt8 → Int → Option (List UInt8)
  | 0, _, _, _ => none
  | k + 1, a0, x61, x62 => if x62 < (a0.Texts.length : Int) then (if 0 ≤ x62 then ((a0.Texts[Int.toNat x62]?).bind fun t77 => (if x61.length + ([32, 120] : List UInt8).length ≤ 9223372036854775807 then ((consignorref01_Hex.f k t77).bind fun t87 => (if (x61 ++ ([32, 120] : List UInt8)).length + t87.length ≤ 9223372036854775807 then (consignorref20_Line.l1 k a0 ((x61 ++ ([32, 120] : List UInt8)) ++ t87) (IntKind.i64.wrap (x62 + 1))) else none)) else none)) else none) else (some x61)
def consignorref20_Line.l0 : Nat → ApiDeed → List UInt8 → Int → Option (List UInt8)
  | 0, _, _, _ => none
  | k + 1, a0, x19, x20 => if x20 < (a0.Nums.length : Int) then (if 0 ≤ x20 then ((a0.Nums[Int.toNat x20]?).bind fun t37 => (if x19.length + ([32] : List UInt8).length ≤ 9223372036854775807 then ((strconv_Itoa.f k t37).bind fun t47 => (if (x19 ++ ([32] : List UInt8)).length + t47.length ≤ 9223372036854775807 then (consignorref20_Line.l0 k a0 ((x19 ++ ([32] : List UInt8)) ++ t47) (IntKind.i64.wrap (x20 + 1))) else none)) else none)) else none) else (consignorref20_Line.l1 k a0 x19 0)
end
def consignorref20_Line.f (k : Nat) (a0 : ApiDeed) : Option (List UInt8) := (consignorref20_word.f k a0.Kind).bind fun t7 => (consignorref20_Line.l0 k a0 t7 0)
set_option maxHeartbeats 1000000 in
theorem consignorref20_Line.ok (k : Nat) {w0 : World} {hw0 : Hw} (wf : Hwf w0 hw0) (a0 : ApiDeed) (v0_1 : Value) (q0_1 : Row (Kint .i64) w0 hw0 v0_1 a0.Nums) (v0_2 : Value) (q0_2 : Row Kstr w0 hw0 v0_2 a0.Texts) (gl : Gl w0 hw0) (r : (List UInt8)) (h : consignorref20_Line.f k a0 = some r) :
    Calls Tryz.prog 17 #[.agg #[.int .i64 a0.Kind, v0_1, v0_2]] w0 fun e w' => ∃ (hw' : Hw), e = .returned (.string (bs r)) ∧ Stp none w0 hw0 w' hw' := by
  have fr0 := Stp.refl none (w := w0) (hw := hw0) wf
  unfold consignorref20_Line.f at h
  refine enter (n := 38) Tryz.func17 rfl rfl (Nat.le_of_ble_eq_true rfl) ?_
  refine wc_seq ?_
  refine wc_region ?_
  refine wl_box fr0.wf fr0.g.size [.int .i64 a0.Kind, v0_1, v0_2] (cells_of (v := (.agg #[.int .i64 a0.Kind, v0_1, v0_2])) rfl rfl) ?_
  intro b1 w2 s3 B4 g5
  have fr6 := fr0.then0 s3
  refine wl_assign (.string (bs [])) rfl ?_
  refine wl_nil ?_
  refine qn ?_
  refine wc_seq ?_
  refine wc_region ?_
  refine wl_field fld41_0 rfl ?_
  refine wl_loadb1 B4 ty3 rfl (.int .i64 a0.Kind) rfl ?_
  obtain ⟨t7, h8, h⟩ := Option.bind_eq_some_iff.1 h
  refine wl_call [.int .i64 a0.Kind] bod37 (mc rfl (mn _)) (consignorref20_word.ok k fr6.wf a0.Kind _ h8) ?_
  rintro e9 w10 ⟨hw11, rfl, s12⟩
  refine ⟨_, rfl, ?_⟩
  have fr13 := fr6.then0 s12
  refine wl_assign (.string (bs t7)) rfl ?_
  refine wl_nil ?_
  refine qn ?_
  refine wc_seq ?_
  refine wc_seq ?_
  refine wc_region ?_
  refine wl_field fld41_1 rfl ?_
  have B14 := (B4.step0 s12)
  refine wl_loadb1 B14 ty38 rfl (v0_1) rfl ?_
  have f18 := q0_1.ext (s3.ext.trans (s12.ext))
  obtain ⟨A15, c16, hv17⟩ := (f18).slice
  refine wl_len Tryz.underlying38 (show _ = Value.slice _ a0.Nums.length _ from (Eq.trans rfl hv17)) ?_
  refine wl_move (.int .i64 0) rfl ?_
  refine wl_nil ?_
  refine qn ?_
  refine wc_block ?_
  refine wc_loop (fun m a w => ∃ (σ : Nat → Value) (hw : Hw) (kq : Nat) (x19 : List UInt8) (x20 : Int), a = mkA 38 σ ∧ kq ≤ m ∧ kq ≤ k ∧ Stp none w0 hw0 w hw ∧ Ext w10 hw11 w hw ∧ σ 1 = .pointer (some ⟨b1, 0, none⟩) ∧ σ 3 = .string (bs x19) ∧ σ 12 = v0_1 ∧ σ 13 = .int .i64 (a0.Nums.length : Int) ∧ σ 14 = .int .i64 x20 ∧ Box w0.heap.size w hw b1 41 [.int .i64 a0.Kind, v0_1, v0_2] ∧ consignorref20_Line.l0 kq a0 x19 x20 = some r) k ?_ ?_ ?_
  · skip
    exact ⟨_, _, _, t7, 0, rfl, (Nat.le_refl _), (Nat.le_refl _), fr13, (Ext.refl _ _), rfl, rfl, rfl, rfl, rfl, B14, h⟩
  · rintro _ _ ⟨_, hw22, k23, x19, x20, rfl, hk26, hk27, fr24, e25, z28, z29, z30, z31, z32, B33, h⟩; obtain rfl := Nat.le_zero.1 hk26; rw [consignorref20_Line.l0] at h; cases h
  · rintro m0 _ w21 ⟨_, hw22, k23, x19, x20, rfl, hk26, hk27, fr24, e25, z28, z29, z30, z31, z32, B33, h⟩
    rcases k23 with _ | k23
    · rw [consignorref20_Line.l0] at h; cases h
    rw [consignorref20_Line.l0] at h
    refine wc_seq ?_
    refine wc_region ?_
    refine wl_lss z32 z31 ?_
    refine wl_nil ?_
    refine qn ?_
    refine wc_seq ?_
    by_cases c34 : x20 < (a0.Nums.length : Int)
    · replace h := (if_pos c34).symm.trans h
      have b35 : (decide (x20 < (a0.Nums.length : Int))) = true := decide_eq_true c34
      refine wc_then rfl b35 ?_
      refine wc_skip ?_
      refine qn ?_
      refine wc_seq ?_
      refine wc_block ?_
      refine wc_seq ?_
      refine wc_region ?_
      by_cases c36 : 0 ≤ x20
      · replace h := (if_pos c36).symm.trans h
        obtain ⟨t37, h38, h⟩ := Option.bind_eq_some_iff.1 h
        have c39 := at_lt c36 h38
        have f45 := f18.ext (e25)
        refine wl_at Tryz.underlying38 ty3 f45 z30 z32 c36 c39 t37 h38 ?_
        rintro B40 o41 cs42 rfl l44
        refine wl_load1 ty3 rfl (.int .i64 t37) (l44.2 0 _ rfl) ?_
        refine wl_assign (.int .i64 t37) rfl ?_
        refine wl_nil ?_
        refine qn ?_
        refine wc_region ?_
        refine wl_move (.string (bs x19)) z29 ?_
        by_cases c46 : x19.length + ([32] : List UInt8).length ≤ 9223372036854775807
        · replace h := (if_pos c46).symm.trans h
          refine wl_adds rfl rfl c46 ?_
          refine wl_move (.int .i64 t37) rfl ?_
          obtain ⟨t47, h48, h⟩ := Option.bind_eq_some_iff.1 h
          refine wl_call [.int .i64 t37] bod25 (mc rfl (mn _)) (strconv_Itoa.ok k23 fr24.wf t37 (Gl.of gl fr24) _ h48) ?_
          rintro e49 w50 ⟨hw51, rfl, s52⟩
          refine ⟨_, rfl, ?_⟩
          have fr53 := fr24.then0 s52
          by_cases c54 : (x19 ++ ([32] : List UInt8)).length + t47.length ≤ 9223372036854775807
          · replace h := (if_pos c54).symm.trans h
            refine wl_adds rfl rfl c54 ?_
            refine wl_assign (.string (bs ((x19 ++ ([32] : List UInt8)) ++ t47))) rfl ?_
            refine wl_nil ?_
            refine bn ?_
            refine qn ?_
            refine wc_region ?_
            refine wl_add z32 rfl ?_
            refine wl_move (.int .i64 (IntKind.i64.wrap (x20 + 1))) rfl ?_
            refine wl_nil ?_
            refine qn ?_
            have B55 := (B33.step0 s52)
            exact ⟨_, _, _, ((x19 ++ ([32] : List UInt8)) ++ t47), (IntKind.i64.wrap (x20 + 1)), rfl, (by omega), (by omega), fr53, (Ext.trans e25 s52.ext), z28, rfl, z30, z31, rfl, B55, h⟩
          · replace h := (if_neg c54).symm.trans h
            cases h
        · replace h := (if_neg c46).symm.trans h
          cases h
      · replace h := (if_neg c36).symm.trans h
        cases h
    · replace h := (if_neg c34).symm.trans h
      have b56 : (decide (x20 < (a0.Nums.length : Int))) = false := decide_eq_false c34
      refine wc_else rfl b56 ?_
      refine wc_exit ?_
      refine qe ?_
      refine qe ?_
      refine be ?_
      refine qn ?_
      refine wc_seq ?_
      refine wc_seq ?_
      refine wc_region ?_
      refine wl_field fld41_2 z28 ?_
      refine wl_loadb1 B33 ty39 rfl (v0_2) rfl ?_
      have f60 := q0_2.ext (s3.ext.trans (s12.ext.trans (e25)))
      obtain ⟨A57, c58, hv59⟩ := (f60).slice
      refine wl_len Tryz.underlying39 (show _ = Value.slice _ a0.Texts.length _ from (Eq.trans rfl hv59)) ?_
      refine wl_move (.int .i64 0) rfl ?_
      refine wl_nil ?_
      refine qn ?_
      refine wc_block ?_
      refine wc_loop (fun m a w => ∃ (σ : Nat → Value) (hw : Hw) (kq : Nat) (x61 : List UInt8) (x62 : Int), a = mkA 38 σ ∧ kq ≤ m ∧ kq ≤ k23 ∧ Stp none w0 hw0 w hw ∧ Ext w21 hw22 w hw ∧ σ 3 = .string (bs x61) ∧ σ 25 = v0_2 ∧ σ 26 = .int .i64 (a0.Texts.length : Int) ∧ σ 27 = .int .i64 x62 ∧ consignorref20_Line.l1 kq a0 x61 x62 = some r) k23 ?_ ?_ ?_
      · skip
        exact ⟨_, _, _, x19, 0, rfl, (Nat.le_refl _), (Nat.le_refl _), fr24, (Ext.refl _ _), z29, rfl, rfl, rfl, h⟩
      · rintro _ _ ⟨_, hw64, k65, x61, x62, rfl, hk68, hk69, fr66, e67, z70, z71, z72, z73, h⟩; obtain rfl := Nat.le_zero.1 hk68; rw [consignorref20_Line.l1] at h; cases h
      · rintro m1 _ w63 ⟨_, hw64, k65, x61, x62, rfl, hk68, hk69, fr66, e67, z70, z71, z72, z73, h⟩
        rcases k65 with _ | k65
        · rw [consignorref20_Line.l1] at h; cases h
        rw [consignorref20_Line.l1] at h
        refine wc_seq ?_
        refine wc_region ?_
        refine wl_lss z73 z72 ?_
        refine wl_nil ?_
        refine qn ?_
        refine wc_seq ?_
        by_cases c74 : x62 < (a0.Texts.length : Int)
        · replace h := (if_pos c74).symm.trans h
          have b75 : (decide (x62 < (a0.Texts.length : Int))) = true := decide_eq_true c74
          refine wc_then rfl b75 ?_
          refine wc_skip ?_
          refine qn ?_
          refine wc_seq ?_
          refine wc_block ?_
          refine wc_seq ?_
          refine wc_region ?_
          by_cases c76 : 0 ≤ x62
          · replace h := (if_pos c76).symm.trans h
            obtain ⟨t77, h78, h⟩ := Option.bind_eq_some_iff.1 h
            have c79 := at_lt c76 h78
            have f85 := f60.ext (e67)
            refine wl_at Tryz.underlying39 ty9 f85 z71 z73 c76 c79 t77 h78 ?_
            rintro B80 o81 cs82 rfl l84
            refine wl_load1 ty9 rfl (.string (bs t77)) (l84.2 0 _ rfl) ?_
            refine wl_assign (.string (bs t77)) rfl ?_
            refine wl_nil ?_
            refine qn ?_
            refine wc_region ?_
            refine wl_move (.string (bs x61)) z70 ?_
            by_cases c86 : x61.length + ([32, 120] : List UInt8).length ≤ 9223372036854775807
            · replace h := (if_pos c86).symm.trans h
              refine wl_adds rfl rfl c86 ?_
              refine wl_move (.string (bs t77)) rfl ?_
              obtain ⟨t87, h88, h⟩ := Option.bind_eq_some_iff.1 h
              refine wl_call [.string (bs t77)] bod38 (mc rfl (mn _)) (consignorref01_Hex.ok k65 fr66.wf t77 _ h88) ?_
              rintro e89 w90 ⟨hw91, rfl, s92⟩
              refine ⟨_, rfl, ?_⟩
              have fr93 := fr66.then0 s92
              by_cases c94 : (x61 ++ ([32, 120] : List UInt8)).length + t87.length ≤ 9223372036854775807
              · replace h := (if_pos c94).symm.trans h
                refine wl_adds rfl rfl c94 ?_
                refine wl_assign (.string (bs ((x61 ++ ([32, 120] : List UInt8)) ++ t87))) rfl ?_
                refine wl_nil ?_
                refine bn ?_
                refine qn ?_
                refine wc_region ?_
                refine wl_add z73 rfl ?_
                refine wl_move (.int .i64 (IntKind.i64.wrap (x62 + 1))) rfl ?_
                refine wl_nil ?_
                refine qn ?_
                exact ⟨_, _, _, ((x61 ++ ([32, 120] : List UInt8)) ++ t87), (IntKind.i64.wrap (x62 + 1)), rfl, (by omega), (by omega), fr93, (Ext.trans e67 s92.ext), rfl, z71, z72, rfl, h⟩
              · replace h := (if_neg c94).symm.trans h
                cases h
            · replace h := (if_neg c86).symm.trans h
              cases h
          · replace h := (if_neg c76).symm.trans h
            cases h
        · replace h := (if_neg c74).symm.trans h
          have b95 : (decide (x62 < (a0.Texts.length : Int))) = false := decide_eq_false c74
          refine wc_else rfl b95 ?_
          refine wc_exit ?_
          refine qe ?_
          refine qe ?_
          refine be ?_
          refine qn ?_
          refine wc_seq ?_
          refine wc_region ?_
          refine wl_move (.string (bs x61)) z70 ?_
          refine wl_assign (.string (bs x61)) rfl ?_
          refine wl_nil ?_
          refine qn ?_
          refine wc_ret ?_
          have h := Option.some.inj h
          subst h
          refine end1 rfl (.tmp rfl .nil) ?_
          exact ⟨_, rfl, fr66⟩
/-! ### consignor/consignorref20.Begins: function 24 -/
def consignorref20_Begins.f (k : Nat) (a0 : ApiPlan) : Option Bool := some ((((decide (0 ≤ a0.Quota)) && (decide (a0.Quota ≤ 1048576))) && (decide (4 ≤ a0.Sectors))) && (decide (a0.Sectors ≤ 64)))
set_option maxHeartbeats 1000000 in
theorem consignorref20_Begins.ok (k : Nat) {w0 : World} {hw0 : Hw} (wf : Hwf w0 hw0) (a0 : ApiPlan) (v0_2 : Value) (q0_2 : Row KApiDeed w0 hw0 v0_2 a0.Deeds) (r : Bool) (h : consignorref20_Begins.f k a0 = some r) :
    Calls Tryz.prog 24 #[.agg #[.int .i64 a0.Quota, .int .i64 a0.Sectors, v0_2]] w0 fun e w' => ∃ (hw' : Hw), e = .returned (.bool r) ∧ Stp none w0 hw0 w' hw' := by
  have fr0 := Stp.refl none (w := w0) (hw := hw0) wf
  unfold consignorref20_Begins.f at h
  refine enter (n := 21) Tryz.func24 rfl rfl (Nat.le_of_ble_eq_true rfl) ?_
  refine wc_seq ?_
  refine wc_region ?_
  refine wl_box fr0.wf fr0.g.size [.int .i64 a0.Quota, .int .i64 a0.Sectors, v0_2] (cells_of (v := (.agg #[.int .i64 a0.Quota, .int .i64 a0.Sectors, v0_2])) rfl rfl) ?_
  intro b1 w2 s3 B4 g5
  have fr6 := fr0.then0 s3
  refine wl_assign (.bool false) rfl ?_
  refine wl_nil ?_
  refine qn ?_
  refine wc_seq ?_
  refine wc_region ?_
  refine wl_field fld24_0 rfl ?_
  refine wl_loadb1 B4 ty3 rfl (.int .i64 a0.Quota) rfl ?_
  refine wl_geq rfl rfl ?_
  refine wl_move (.bool (decide (0 ≤ a0.Quota))) rfl ?_
  refine wl_join 4 [7, 8, 9, 10] 10 (.bool ((decide (0 ≤ a0.Quota)) && (decide (a0.Quota ≤ 1048576)))) ?_ ?_
  · rcases Bool.eq_false_or_eq_true (decide (0 ≤ a0.Quota)) with hcc | hcc
    · skip
      refine wl_on (yl rfl rfl rfl) hcc ?_
      refine wl_field fld24_0 rfl ?_
      refine wl_on (yl rfl rfl rfl) hcc ?_
      refine wl_loadb1 B4 ty3 rfl (.int .i64 a0.Quota) rfl ?_
      refine wl_on (yl rfl rfl rfl) hcc ?_
      refine wl_leq rfl rfl ?_
      refine wl_pick_t (decide (0 ≤ a0.Quota)) (.bool (decide (a0.Quota ≤ 1048576))) rfl hcc rfl ?_
      refine wl_nil ?_
      exact qn ⟨rfl, _, rfl, (by repeat (first | exact Same.refl _ _ | refine Same.upd ?_ rfl)), (by rw [hcc]; rfl)⟩
    · skip
      refine wl_off (yl rfl rfl rfl) hcc ?_
      refine wl_off (yl rfl rfl rfl) hcc ?_
      refine wl_off (yl rfl rfl rfl) hcc ?_
      refine wl_pick_f (decide (0 ≤ a0.Quota)) (.bool false) rfl hcc rfl ?_
      refine wl_nil ?_
      exact qn ⟨rfl, _, rfl, (by repeat (first | exact Same.refl _ _ | refine Same.upd ?_ rfl)), (by rw [hcc]; rfl)⟩
  intro _ ho7 hv8
  refine wl_move (.bool ((decide (0 ≤ a0.Quota)) && (decide (a0.Quota ≤ 1048576)))) hv8 ?_
  refine wl_join 4 [12, 13, 14, 15] 15 (.bool (((decide (0 ≤ a0.Quota)) && (decide (a0.Quota ≤ 1048576))) && (decide (4 ≤ a0.Sectors)))) ?_ ?_
  · rcases Bool.eq_false_or_eq_true ((decide (0 ≤ a0.Quota)) && (decide (a0.Quota ≤ 1048576))) with hcc | hcc
    · skip
      refine wl_on (yl rfl rfl rfl) hcc ?_
      refine wl_field fld24_1 ((ho7 1 rfl).trans rfl) ?_
      refine wl_on (yl rfl rfl rfl) hcc ?_
      refine wl_loadb1 B4 ty3 rfl (.int .i64 a0.Sectors) rfl ?_
      refine wl_on (yl rfl rfl rfl) hcc ?_
      refine wl_geq rfl rfl ?_
      refine wl_pick_t ((decide (0 ≤ a0.Quota)) && (decide (a0.Quota ≤ 1048576))) (.bool (decide (4 ≤ a0.Sectors))) rfl hcc rfl ?_
      refine wl_nil ?_
      exact qn ⟨rfl, _, rfl, (by repeat (first | exact Same.refl _ _ | refine Same.upd ?_ rfl)), (by rw [hcc]; rfl)⟩
    · skip
      refine wl_off (yl rfl rfl rfl) hcc ?_
      refine wl_off (yl rfl rfl rfl) hcc ?_
      refine wl_off (yl rfl rfl rfl) hcc ?_
      refine wl_pick_f ((decide (0 ≤ a0.Quota)) && (decide (a0.Quota ≤ 1048576))) (.bool false) rfl hcc rfl ?_
      refine wl_nil ?_
      exact qn ⟨rfl, _, rfl, (by repeat (first | exact Same.refl _ _ | refine Same.upd ?_ rfl)), (by rw [hcc]; rfl)⟩
  intro _ ho9 hv10
  refine wl_move (.bool (((decide (0 ≤ a0.Quota)) && (decide (a0.Quota ≤ 1048576))) && (decide (4 ≤ a0.Sectors)))) hv10 ?_
  refine wl_join 4 [17, 18, 19, 20] 20 (.bool ((((decide (0 ≤ a0.Quota)) && (decide (a0.Quota ≤ 1048576))) && (decide (4 ≤ a0.Sectors))) && (decide (a0.Sectors ≤ 64)))) ?_ ?_
  · rcases Bool.eq_false_or_eq_true (((decide (0 ≤ a0.Quota)) && (decide (a0.Quota ≤ 1048576))) && (decide (4 ≤ a0.Sectors))) with hcc | hcc
    · skip
      refine wl_on (yl rfl rfl rfl) hcc ?_
      refine wl_field fld24_1 ((ho9 1 rfl).trans ((ho7 1 rfl).trans rfl)) ?_
      refine wl_on (yl rfl rfl rfl) hcc ?_
      refine wl_loadb1 B4 ty3 rfl (.int .i64 a0.Sectors) rfl ?_
      refine wl_on (yl rfl rfl rfl) hcc ?_
      refine wl_leq rfl rfl ?_
      refine wl_pick_t (((decide (0 ≤ a0.Quota)) && (decide (a0.Quota ≤ 1048576))) && (decide (4 ≤ a0.Sectors))) (.bool (decide (a0.Sectors ≤ 64))) rfl hcc rfl ?_
      refine wl_nil ?_
      exact qn ⟨rfl, _, rfl, (by repeat (first | exact Same.refl _ _ | refine Same.upd ?_ rfl)), (by rw [hcc]; rfl)⟩
    · skip
      refine wl_off (yl rfl rfl rfl) hcc ?_
      refine wl_off (yl rfl rfl rfl) hcc ?_
      refine wl_off (yl rfl rfl rfl) hcc ?_
      refine wl_pick_f (((decide (0 ≤ a0.Quota)) && (decide (a0.Quota ≤ 1048576))) && (decide (4 ≤ a0.Sectors))) (.bool false) rfl hcc rfl ?_
      refine wl_nil ?_
      exact qn ⟨rfl, _, rfl, (by repeat (first | exact Same.refl _ _ | refine Same.upd ?_ rfl)), (by rw [hcc]; rfl)⟩
  intro _ ho11 hv12
  refine wl_assign (.bool ((((decide (0 ≤ a0.Quota)) && (decide (a0.Quota ≤ 1048576))) && (decide (4 ≤ a0.Sectors))) && (decide (a0.Sectors ≤ 64)))) hv12 ?_
  refine wl_nil ?_
  refine qn ?_
  refine wc_ret ?_
  have h := Option.some.inj h
  subst h
  refine end1 rfl (.tmp rfl .nil) ?_
  exact ⟨_, rfl, fr6⟩
end Go.Proofs.YtlaifpbickdpkaaGreatDoor
