/- What the program's functions compute, and that they compute it: one contract a function, written by gw.py (own work). -/
import Derived.Test.YtkfopceebbebjaaDoorT1
namespace Go.Proofs.YtkfopceebbebjaaDoor
open Go.RowKit
set_option linter.unusedVariables false
set_option linter.unusedSimpArgs false

theorem bod10 : Bod Tryd.prog 10 := fun _ _ => by kernel_rfl
theorem bod11 : Bod Tryd.prog 11 := fun _ _ => by kernel_rfl
theorem bod12 : Bod Tryd.prog 12 := fun _ _ => by kernel_rfl
theorem bod13 : Bod Tryd.prog 13 := fun _ _ => by kernel_rfl
theorem bod17 : Bod Tryd.prog 17 := fun _ _ => by kernel_rfl
theorem bod18 : Bod Tryd.prog 18 := fun _ _ => by kernel_rfl
theorem bod19 : Bod Tryd.prog 19 := fun _ _ => by kernel_rfl
theorem bod20 : Bod Tryd.prog 20 := fun _ _ => by kernel_rfl
theorem bod21 : Bod Tryd.prog 21 := fun _ _ => by kernel_rfl
theorem bod28 : Bod Tryd.prog 28 := fun _ _ => by kernel_rfl
theorem bod4 : Bod Tryd.prog 4 := fun _ _ => by kernel_rfl
theorem bod5 : Bod Tryd.prog 5 := fun _ _ => by kernel_rfl
theorem bod6 : Bod Tryd.prog 6 := fun _ _ => by kernel_rfl
theorem bod7 : Bod Tryd.prog 7 := fun _ _ => by kernel_rfl
theorem bod8 : Bod Tryd.prog 8 := fun _ _ => by kernel_rfl
theorem bod9 : Bod Tryd.prog 9 := fun _ _ => by kernel_rfl
theorem eqs23 (x0 : Int) (x1 : Int) (x2 : List UInt8) (x3 : List UInt8) (x4 : Int) (x5 : Int) (x6 : List UInt8) (y0 : Int) (y1 : Int) (y2 : List UInt8) (y3 : List UInt8) (y4 : Int) (y5 : Int) (y6 : List UInt8) (w : World) : (Op.equalIn 10000 23 (.agg #[.int .i64 x0, .int .i64 x1, .string (bs x2), .string (bs x3), .int .i64 x4, .int .i64 x5, .string (bs x6)]) (.agg #[.int .i64 y0, .int .i64 y1, .string (bs y2), .string (bs y3), .int .i64 y4, .int .i64 y5, .string (bs y6)])).run Tryd.prog w = .ok ((x0 == y0) && ((x1 == y1) && ((x2 == y2) && ((x3 == y3) && ((x4 == y4) && ((x5 == y5) && ((x6 == y6) && true))))))) w := (eqst_of (d := 9999) Tryd.underlying23 (by kernel_rfl) (eqf_cons (by decide) (by kernel_rfl) (by kernel_rfl) (run_equalIn_int w 9998 3 .i64 _ _ _ Tryd.underlying3) (eqf_cons (by decide) (by kernel_rfl) (by kernel_rfl) (run_equalIn_int w 9998 3 .i64 _ _ _ Tryd.underlying3) (eqf_cons (by decide) (by kernel_rfl) (by kernel_rfl) (eq_str (d := 9998) _ _ Tryd.underlying9) (eqf_cons (by decide) (by kernel_rfl) (by kernel_rfl) (eq_str (d := 9998) _ _ Tryd.underlying9) (eqf_cons (by decide) (by kernel_rfl) (by kernel_rfl) (run_equalIn_int w 9998 3 .i64 _ _ _ Tryd.underlying3) (eqf_cons (by decide) (by kernel_rfl) (by kernel_rfl) (run_equalIn_int w 9998 3 .i64 _ _ _ Tryd.underlying3) (eqf_cons (by decide) (by kernel_rfl) (by kernel_rfl) (eq_str (d := 9998) _ _ Tryd.underlying9) eqf_nil))))))))
theorem eqs26 (x0 : Int) (x1 : Int) (x2 : Int) (y0 : Int) (y1 : Int) (y2 : Int) (w : World) : (Op.equalIn 10000 26 (.agg #[.int .i64 x0, .int .i64 x1, .int .i64 x2]) (.agg #[.int .i64 y0, .int .i64 y1, .int .i64 y2])).run Tryd.prog w = .ok ((x0 == y0) && ((x1 == y1) && ((x2 == y2) && true))) w := (eqst_of (d := 9999) Tryd.underlying26 (by kernel_rfl) (eqf_cons (by decide) (by kernel_rfl) (by kernel_rfl) (run_equalIn_int w 9998 3 .i64 _ _ _ Tryd.underlying3) (eqf_cons (by decide) (by kernel_rfl) (by kernel_rfl) (run_equalIn_int w 9998 24 .i64 _ _ _ Tryd.underlying24) (eqf_cons (by decide) (by kernel_rfl) (by kernel_rfl) (run_equalIn_int w 9998 3 .i64 _ _ _ Tryd.underlying3) eqf_nil))))
theorem guard23 : Tryd.prog.eqGuardType Tryd.prog.depth 23 = false := by kernel_rfl
theorem guard26 : Tryd.prog.eqGuardType Tryd.prog.depth 26 = false := by kernel_rfl
theorem ty26 : Ty Tryd.prog 26 3 24 true (.agg #[.int .i64 0, .int .i64 0, .int .i64 0]) := ⟨by kernel_rfl, by kernel_rfl⟩
/-! ### consignor/courier.Parse: function 7 -/
def courier_Parse.f (k : Nat) (a0 : (List UInt8)) : Option (ApiAsk × Int) := (octet_Loose.f k a0).bind fun t8 => (if ((t8.1.length : Int) != 8) = true then (some ((⟨0, 0, [], [], 0, 0, []⟩ : ApiAsk), 6)) else ((courier_parts_whole.f k t8.1 1).bind fun t34 => ((courier_parts_whole.f k t8.1 2).bind fun t42 => ((courier_parts_whole.f k t8.1 3).bind fun t51 => ((courier_parts_whole.f k t8.1 4).bind fun t60 => ((t8.1[Int.toNat 5]?).bind fun t68 => ((t8.1[Int.toNat 6]?).bind fun t77 => ((t8.1[Int.toNat 7]?).bind fun t85 => ((courier_Text.f k (⟨t34, t42, t68, t77, t51, t60, t85⟩ : ApiAsk)).bind fun t631 => (if ((t631.2 != 0) || (!(t631.1 == a0))) = true then (some ((⟨0, 0, [], [], 0, 0, []⟩ : ApiAsk), 6)) else (some ((⟨t34, t42, t68, t77, t51, t60, t85⟩ : ApiAsk), 0))))))))))))
set_option maxHeartbeats 1000000 in
theorem courier_Parse.ok (k : Nat) {w0 : World} {hw0 : Hw} (wf : Hwf w0 hw0) (a0 : (List UInt8)) (gl : Gl w0 hw0) (r : (ApiAsk × Int)) (h : courier_Parse.f k a0 = some r) :
    Calls Tryd.prog 7 #[.string (bs a0)] w0 fun e w' => ∃ (hw' : Hw), e = .returned (.tuple #[.agg #[.int .i64 r.1.Id, .int .i64 r.1.Kind, .string (bs r.1.Repo), .string (bs r.1.Digest), .int .i64 r.1.Upload, .int .i64 r.1.Offset, .string (bs r.1.Data)], .int .i64 r.2]) ∧ Stp none w0 hw0 w' hw' := by
  have fr0 := Stp.refl none (w := w0) (hw := hw0) wf
  unfold courier_Parse.f at h
  refine enter (n := 53) Tryd.func7 rfl rfl (Nat.le_of_ble_eq_true rfl) ?_
  refine wc_seq ?_
  refine wc_region ?_
  refine wl_alloc fr0.wf fr0.g.size ty23 [.int .i64 0, .int .i64 0, .string (bs []), .string (bs []), .int .i64 0, .int .i64 0, .string (bs [])] rfl ?_
  intro b1 w2 s3 B4 g5
  have fr6 := fr0.then0 s3
  refine wl_assign (.int .i64 0) rfl ?_
  refine wl_nil ?_
  refine qn ?_
  refine wc_seq ?_
  refine wc_region ?_
  refine wl_move (.string (bs a0)) rfl ?_
  have f7 := gl.ext (s3.ext)
  obtain ⟨t8, h9, h⟩ := Option.bind_eq_some_iff.1 h
  refine wl_call [.string (bs a0)] bod17 (mc rfl (mn _)) (octet_Loose.ok k fr6.wf a0 f7 _ h9) ?_
  rintro e10 w11 ⟨v14, hw12, rfl, s13, O15⟩
  refine ⟨_, rfl, ?_⟩
  have n16 := own_new_lt O15 B4.lt
  replace O15 := O15.low fr6.g.size
  have fr17 := fr6.then0 s13
  refine wl_move (.tuple #[v14, .int .i64 t8.2]) rfl ?_
  refine wl_extract (vs := [v14, .int .i64 t8.2]) (v14) rfl rfl ?_
  refine wl_extract (vs := [v14, .int .i64 t8.2]) (.int .i64 t8.2) rfl rfl ?_
  refine wl_assign (v14) rfl ?_
  refine wl_assign (.int .i64 t8.2) rfl ?_
  refine wl_nil ?_
  refine qn ?_
  refine wc_seq ?_
  refine wc_seq ?_
  refine wc_region ?_
  refine wl_move (v14) rfl ?_
  obtain ⟨A18, c19, hv20⟩ := (O15.row).slice
  refine wl_len Tryd.underlying44 (show _ = Value.slice _ t8.1.length _ from (Eq.trans rfl hv20)) ?_
  refine wl_neq rfl rfl ?_
  refine wl_nil ?_
  refine qn ?_
  by_cases c21 : ((t8.1.length : Int) != 8) = true
  · replace h := (if_pos c21).symm.trans h
    refine wc_then rfl c21 ?_
    refine wc_seq ?_
    refine wc_region ?_
    have hb22 : ∀ w, (Instr.build 23 #[]).run Tryd.prog w = .ok (.agg (List.toArray [.int .i64 0, .int .i64 0, .string (bs []), .string (bs []), .int .i64 0, .int .i64 0, .string (bs [])])) w := by intro  _; kernel_rfl
    refine wl_build [.int .i64 0, .int .i64 0, .string (bs []), .string (bs []), .int .i64 0, .int .i64 0, .string (bs [])] (pn _ _) (hb22 _) ?_
    have B23 := (B4.step0 s13)
    refine wl_store B23 fr17.wf ty23 rfl [.int .i64 0, .int .i64 0, .string (bs []), .string (bs []), .int .i64 0, .int .i64 0, .string (bs [])] (cells_of (v := (.agg #[.int .i64 0, .int .i64 0, .string (bs []), .string (bs []), .int .i64 0, .int .i64 0, .string (bs [])])) rfl rfl) rfl (Nat.le_of_ble_eq_true rfl) (by intro u hu; simp only [List.mem_cons, List.not_mem_nil, or_false] at hu; rcases hu with rfl | rfl | rfl | rfl | rfl | rfl | rfl <;> first | rfl | exact Dy.one _) [.int .i64 0, .int .i64 0, .string (bs []), .string (bs []), .int .i64 0, .int .i64 0, .string (bs [])] rfl ?_
    intro w24 s25 B26
    have fr27 := fr17.then s25 (fun _ e => (Option.some.inj e ▸ B23.new))
    refine wl_assign (.int .i64 6) rfl ?_
    refine wl_nil ?_
    refine qn ?_
    refine wc_ret ?_
    refine qr ?_
    have h := Option.some.inj h
    subst h
    refine end2 rfl (.cell rfl (ty23.load (l := [.int .i64 0, .int .i64 0, .string (bs []), .string (bs []), .int .i64 0, .int .i64 0, .string (bs [])]) rfl (B26.cells rfl)) (.tmp rfl .nil)) ?_
    exact ⟨_, rfl, fr27⟩
  · replace h := (if_neg c21).symm.trans h
    have b28 : ((t8.1.length : Int) != 8) = false := Bool.eq_false_iff.2 c21
    refine wc_else rfl b28 ?_
    refine wc_skip ?_
    refine qn ?_
    refine wc_seq ?_
    refine wc_region ?_
    refine wl_move (v14) rfl ?_
    refine wl_func (mc rfl (mn _)) (mn _) ?_
    refine wl_assign (.func (.func 18) #[v14] #[]) rfl ?_
    refine wl_nil ?_
    refine qn ?_
    refine wc_seq ?_
    have s29 := Stp.drew (w := w11) (hw := hw12) fr17.wf
    have fr30 := fr17.then0 s29
    have B31 := ((B4.step0 s13).step0 s29)
    have O32 := (O15.step0 s29)
    obtain ⟨t34, h35, h⟩ := Option.bind_eq_some_iff.1 h
    obtain ⟨t42, h43, h⟩ := Option.bind_eq_some_iff.1 h
    obtain ⟨t51, h52, h⟩ := Option.bind_eq_some_iff.1 h
    obtain ⟨t60, h61, h⟩ := Option.bind_eq_some_iff.1 h
    obtain ⟨t68, h69, h⟩ := Option.bind_eq_some_iff.1 h
    obtain ⟨t77, h78, h⟩ := Option.bind_eq_some_iff.1 h
    obtain ⟨t85, h86, h⟩ := Option.bind_eq_some_iff.1 h
    refine wc_any (hw := hw12) mixed [[], [0], [], [2, 1], [], [4, 3], [], [6, 5], [], [8], [9], [], [11], [12], [], [14], [15], [1, 3, 5, 7, 10, 13, 16], [], [18, 17, 7, 0, 1, 2, 3, 4, 5, 6, 7, 8, 9, 10, 11, 12, 13, 14, 15, 16, 17, 18]] [21, 22, 23, 24, 25, 26, 27, 28, 29, 30, 31, 32, 33, 34, 35, 36, 37, 38, 7] (by kernel_rfl) (PhiOf [fun v w hw => v = .func (.func 18) #[v14] #[], fun v w hw => v = .int .i64 t34, fun v w hw => v = .func (.func 18) #[v14] #[], fun v w hw => v = .int .i64 t42, fun v w hw => v = .func (.func 18) #[v14] #[], fun v w hw => v = .int .i64 t51, fun v w hw => v = .func (.func 18) #[v14] #[], fun v w hw => v = .int .i64 t60, fun v w hw => v = v14, fun v w hw => ∃ (B71 : Nat) (o72 : Nat), v = .pointer (some ⟨B71, o72, none⟩) ∧ Live w hw B71 o72 [.string (bs t68)], fun v w hw => v = .string (bs t68), fun v w hw => v = v14, fun v w hw => ∃ (B80 : Nat) (o81 : Nat), v = .pointer (some ⟨B80, o81, none⟩) ∧ Live w hw B80 o81 [.string (bs t77)], fun v w hw => v = .string (bs t77), fun v w hw => v = v14, fun v w hw => ∃ (B88 : Nat) (o89 : Nat), v = .pointer (some ⟨B88, o89, none⟩) ∧ Live w hw B88 o89 [.string (bs t85)], fun v w hw => v = .string (bs t85), fun v w hw => v = .agg #[.int .i64 t34, .int .i64 t42, .string (bs t68), .string (bs t77), .int .i64 t51, .int .i64 t60, .string (bs t85)], fun v w hw => True, fun v w hw => True]) (fun D σ w hw => Stp none w0 hw0 w hw ∧ Ext (w11).drew hw12 w hw ∧ Box w0.heap.size w hw b1 23 [.int .i64 0, .int .i64 0, .string (bs []), .string (bs []), .int .i64 0, .int .i64 0, .string (bs [])] ∧ Own Kstr 9 w0.heap.size w hw v14 t8.1 ∧ (bif D 18 then (Box w0.heap.size w hw (blk (σ 7)) 23 [(bif D 19 then .int .i64 t34 else .int .i64 0), (bif D 19 then .int .i64 t42 else .int .i64 0), (bif D 19 then .string (bs t68) else .string (bs [])), (bif D 19 then .string (bs t77) else .string (bs [])), (bif D 19 then .int .i64 t51 else .int .i64 0), (bif D 19 then .int .i64 t60 else .int .i64 0), (bif D 19 then .string (bs t85) else .string (bs []))] ∧ b1 ≠ (blk (σ 7)) ∧ Value.ownBlock v14 ≠ some (blk (σ 7))) else True) ∧ (bif D 18 then σ 7 = .pointer (some ⟨(blk (σ 7)), 0, none⟩) else True)) (stab_of (sbc (fun _ _ _ _ _ _ h => h) (sbc (fun _ _ _ _ _ _ h => h) (sbc (fun _ _ _ _ _ _ h => h) (sbc (fun _ _ _ _ _ _ h => h) (sbc (fun _ _ _ _ _ _ h => h) (sbc (fun _ _ _ _ _ _ h => h) (sbc (fun _ _ _ _ _ _ h => h) (sbc (fun _ _ _ _ _ _ h => h) (sbc (fun _ _ _ _ _ _ h => h) (sbc (fun _ _ _ _ _ e ⟨B71, o72, hv, F0⟩ => ⟨B71, o72, hv, F0.ext e⟩) (sbc (fun _ _ _ _ _ _ h => h) (sbc (fun _ _ _ _ _ _ h => h) (sbc (fun _ _ _ _ _ e ⟨B80, o81, hv, F0⟩ => ⟨B80, o81, hv, F0.ext e⟩) (sbc (fun _ _ _ _ _ _ h => h) (sbc (fun _ _ _ _ _ _ h => h) (sbc (fun _ _ _ _ _ e ⟨B88, o89, hv, F0⟩ => ⟨B88, o89, hv, F0.ext e⟩) (sbc (fun _ _ _ _ _ _ h => h) (sbc (fun _ _ _ _ _ _ h => h) (sbc (fun _ _ _ _ _ _ h => h) (sbc (fun _ _ _ _ _ _ h => h) sbn))))))))))))))))))))) ?_ (stc ?_ (stc ?_ (stc ?_ (stc ?_ (stc ?_ (stc ?_ (stc ?_ (stc ?_ (stc ?_ (stc ?_ (stc ?_ (stc ?_ (stc ?_ (stc ?_ (stc ?_ (stc ?_ (stc ?_ (stc ?_ (stc ?_ (stc ?_ stn)))))))))))))))))))) ?_
    · exact ⟨fr30, Ext.refl _ _, B31, O32, trivial, trivial⟩
    · intro D107 σ108 w109 hw110 q111 q112 q113 q114 q115 q116
      obtain ⟨fr117, e118, C119, C120, C121, C122⟩ := q111
      refine wl_move (.func (.func 18) #[v14] #[]) ((q114 6 rfl).trans rfl) ?_
      refine wl_nil ?_
      exact qn ⟨_, _, rfl, (Ext.refl _ _), ⟨fr117, e118.trans (Ext.refl _ _), C119, C120, C121, C122⟩, (aft_some rfl)⟩
    · intro D123 σ124 w125 hw126 q127 q128 q129 q130 q131 q132
      obtain ⟨fr133, e134, C135, C136, C137, C138⟩ := q127
      obtain ⟨⟨_, m139⟩, _⟩ := q129
      have z140 : (σ124 21) = .func (.func 18) #[v14] #[] := m139
      refine wl_callv (first := [v14]) (captured := []) bod18 z140 [.int .i64 1] (mc rfl (mn _)) (courier_parts_whole.ok k fr133.wf t8.1 1 v14 C136.row _ h35) ?_
      rintro e141 w142 ⟨hw143, rfl, s144⟩
      refine ⟨_, rfl, ?_⟩
      have fr145 := fr133.then0 s144
      refine wl_nil ?_
      have B146 := (C135.step0 s144)
      have O147 := (C136.step0 s144)
      exact qn ⟨_, _, rfl, s144.ext, ⟨fr145, e134.trans s144.ext, B146, O147, (bif_mp (fun h => ⟨(h.1.step0 s144), h.2⟩) (fun h => h) C137), C138⟩, (aft_some rfl)⟩
    · intro D148 σ149 w150 hw151 q152 q153 q154 q155 q156 q157
      obtain ⟨fr158, e159, C160, C161, C162, C163⟩ := q152
      refine wl_move (.func (.func 18) #[v14] #[]) ((q155 6 rfl).trans rfl) ?_
      refine wl_nil ?_
      exact qn ⟨_, _, rfl, (Ext.refl _ _), ⟨fr158, e159.trans (Ext.refl _ _), C160, C161, C162, C163⟩, (aft_some rfl)⟩
    · intro D164 σ165 w166 hw167 q168 q169 q170 q171 q172 q173
      obtain ⟨fr174, e175, C176, C177, C178, C179⟩ := q168
      obtain ⟨⟨_, m180⟩, ⟨_, m181⟩, _⟩ := q170
      have z182 : (σ165 23) = .func (.func 18) #[v14] #[] := m180
      have z183 : (σ165 22) = .int .i64 t34 := m181
      refine wl_callv (first := [v14]) (captured := []) bod18 z182 [.int .i64 2] (mc rfl (mn _)) (courier_parts_whole.ok k fr174.wf t8.1 2 v14 C177.row _ h43) ?_
      rintro e184 w185 ⟨hw186, rfl, s187⟩
      refine ⟨_, rfl, ?_⟩
      have fr188 := fr174.then0 s187
      refine wl_nil ?_
      have B189 := (C176.step0 s187)
      have O190 := (C177.step0 s187)
      exact qn ⟨_, _, rfl, s187.ext, ⟨fr188, e175.trans s187.ext, B189, O190, (bif_mp (fun h => ⟨(h.1.step0 s187), h.2⟩) (fun h => h) C178), C179⟩, (aft_some rfl)⟩
    · intro D191 σ192 w193 hw194 q195 q196 q197 q198 q199 q200
      obtain ⟨fr201, e202, C203, C204, C205, C206⟩ := q195
      refine wl_move (.func (.func 18) #[v14] #[]) ((q198 6 rfl).trans rfl) ?_
      refine wl_nil ?_
      exact qn ⟨_, _, rfl, (Ext.refl _ _), ⟨fr201, e202.trans (Ext.refl _ _), C203, C204, C205, C206⟩, (aft_some rfl)⟩
    · intro D207 σ208 w209 hw210 q211 q212 q213 q214 q215 q216
      obtain ⟨fr217, e218, C219, C220, C221, C222⟩ := q211
      obtain ⟨⟨_, m223⟩, ⟨_, m224⟩, _⟩ := q213
      have z225 : (σ208 25) = .func (.func 18) #[v14] #[] := m223
      have z226 : (σ208 24) = .int .i64 t42 := m224
      refine wl_callv (first := [v14]) (captured := []) bod18 z225 [.int .i64 3] (mc rfl (mn _)) (courier_parts_whole.ok k fr217.wf t8.1 3 v14 C220.row _ h52) ?_
      rintro e227 w228 ⟨hw229, rfl, s230⟩
      refine ⟨_, rfl, ?_⟩
      have fr231 := fr217.then0 s230
      refine wl_nil ?_
      have B232 := (C219.step0 s230)
      have O233 := (C220.step0 s230)
      exact qn ⟨_, _, rfl, s230.ext, ⟨fr231, e218.trans s230.ext, B232, O233, (bif_mp (fun h => ⟨(h.1.step0 s230), h.2⟩) (fun h => h) C221), C222⟩, (aft_some rfl)⟩
    · intro D234 σ235 w236 hw237 q238 q239 q240 q241 q242 q243
      obtain ⟨fr244, e245, C246, C247, C248, C249⟩ := q238
      refine wl_move (.func (.func 18) #[v14] #[]) ((q241 6 rfl).trans rfl) ?_
      refine wl_nil ?_
      exact qn ⟨_, _, rfl, (Ext.refl _ _), ⟨fr244, e245.trans (Ext.refl _ _), C246, C247, C248, C249⟩, (aft_some rfl)⟩
    · intro D250 σ251 w252 hw253 q254 q255 q256 q257 q258 q259
      obtain ⟨fr260, e261, C262, C263, C264, C265⟩ := q254
      obtain ⟨⟨_, m266⟩, ⟨_, m267⟩, _⟩ := q256
      have z268 : (σ251 27) = .func (.func 18) #[v14] #[] := m266
      have z269 : (σ251 26) = .int .i64 t51 := m267
      refine wl_callv (first := [v14]) (captured := []) bod18 z268 [.int .i64 4] (mc rfl (mn _)) (courier_parts_whole.ok k fr260.wf t8.1 4 v14 C263.row _ h61) ?_
      rintro e270 w271 ⟨hw272, rfl, s273⟩
      refine ⟨_, rfl, ?_⟩
      have fr274 := fr260.then0 s273
      refine wl_nil ?_
      have B275 := (C262.step0 s273)
      have O276 := (C263.step0 s273)
      exact qn ⟨_, _, rfl, s273.ext, ⟨fr274, e261.trans s273.ext, B275, O276, (bif_mp (fun h => ⟨(h.1.step0 s273), h.2⟩) (fun h => h) C264), C265⟩, (aft_some rfl)⟩
    · intro D277 σ278 w279 hw280 q281 q282 q283 q284 q285 q286
      obtain ⟨fr287, e288, C289, C290, C291, C292⟩ := q281
      refine wl_move (v14) ((q284 4 rfl).trans rfl) ?_
      refine wl_nil ?_
      exact qn ⟨_, _, rfl, (Ext.refl _ _), ⟨fr287, e288.trans (Ext.refl _ _), C289, C290, C291, C292⟩, (aft_some rfl)⟩
    · intro D293 σ294 w295 hw296 q297 q298 q299 q300 q301 q302
      obtain ⟨fr303, e304, C305, C306, C307, C308⟩ := q297
      obtain ⟨⟨_, m309⟩, _⟩ := q299
      have z310 : (σ294 29) = v14 := m309
      have c311 := at_lt (by decide) h69
      refine wl_at Tryd.underlying44 ty9 C306.row z310 rfl (by decide) c311 t68 h69 ?_
      rintro B312 o313 cs314 rfl l316
      refine wl_nil ?_
      exact qn ⟨_, _, rfl, (Ext.refl _ _), ⟨fr303, e304.trans (Ext.refl _ _), C305, C306, C307, C308⟩, (aft_some (show ∃ (B71 : Nat) (o72 : Nat), (.pointer (some ⟨B312, o313, none⟩) : Value) = .pointer (some ⟨B71, o72, none⟩) ∧ Live w295 hw296 B71 o72 [.string (bs t68)] from ⟨B312, o313, rfl, l316⟩))⟩
    · intro D317 σ318 w319 hw320 q321 q322 q323 q324 q325 q326
      obtain ⟨fr327, e328, C329, C330, C331, C332⟩ := q321
      obtain ⟨⟨_, m333⟩, _⟩ := q323
      obtain ⟨B334, o335, z336, f337⟩ : ∃ (B71 : Nat) (o72 : Nat), (σ318 30) = .pointer (some ⟨B71, o72, none⟩) ∧ Live w319 hw320 B71 o72 [.string (bs t68)] := m333
      refine wl_load1 ty9 z336 (.string (bs t68)) (f337.2 0 _ rfl) ?_
      refine wl_nil ?_
      exact qn ⟨_, _, rfl, (Ext.refl _ _), ⟨fr327, e328.trans (Ext.refl _ _), C329, C330, C331, C332⟩, (aft_some rfl)⟩
    · intro D338 σ339 w340 hw341 q342 q343 q344 q345 q346 q347
      obtain ⟨fr348, e349, C350, C351, C352, C353⟩ := q342
      refine wl_move (v14) ((q345 4 rfl).trans rfl) ?_
      refine wl_nil ?_
      exact qn ⟨_, _, rfl, (Ext.refl _ _), ⟨fr348, e349.trans (Ext.refl _ _), C350, C351, C352, C353⟩, (aft_some rfl)⟩
    · intro D354 σ355 w356 hw357 q358 q359 q360 q361 q362 q363
      obtain ⟨fr364, e365, C366, C367, C368, C369⟩ := q358
      obtain ⟨⟨_, m370⟩, _⟩ := q360
      have z371 : (σ355 32) = v14 := m370
      have c372 := at_lt (by decide) h78
      refine wl_at Tryd.underlying44 ty9 C367.row z371 rfl (by decide) c372 t77 h78 ?_
      rintro B373 o374 cs375 rfl l377
      refine wl_nil ?_
      exact qn ⟨_, _, rfl, (Ext.refl _ _), ⟨fr364, e365.trans (Ext.refl _ _), C366, C367, C368, C369⟩, (aft_some (show ∃ (B80 : Nat) (o81 : Nat), (.pointer (some ⟨B373, o374, none⟩) : Value) = .pointer (some ⟨B80, o81, none⟩) ∧ Live w356 hw357 B80 o81 [.string (bs t77)] from ⟨B373, o374, rfl, l377⟩))⟩
    · intro D378 σ379 w380 hw381 q382 q383 q384 q385 q386 q387
      obtain ⟨fr388, e389, C390, C391, C392, C393⟩ := q382
      obtain ⟨⟨_, m394⟩, _⟩ := q384
      obtain ⟨B395, o396, z397, f398⟩ : ∃ (B80 : Nat) (o81 : Nat), (σ379 33) = .pointer (some ⟨B80, o81, none⟩) ∧ Live w380 hw381 B80 o81 [.string (bs t77)] := m394
      refine wl_load1 ty9 z397 (.string (bs t77)) (f398.2 0 _ rfl) ?_
      refine wl_nil ?_
      exact qn ⟨_, _, rfl, (Ext.refl _ _), ⟨fr388, e389.trans (Ext.refl _ _), C390, C391, C392, C393⟩, (aft_some rfl)⟩
    · intro D399 σ400 w401 hw402 q403 q404 q405 q406 q407 q408
      obtain ⟨fr409, e410, C411, C412, C413, C414⟩ := q403
      refine wl_move (v14) ((q406 4 rfl).trans rfl) ?_
      refine wl_nil ?_
      exact qn ⟨_, _, rfl, (Ext.refl _ _), ⟨fr409, e410.trans (Ext.refl _ _), C411, C412, C413, C414⟩, (aft_some rfl)⟩
    · intro D415 σ416 w417 hw418 q419 q420 q421 q422 q423 q424
      obtain ⟨fr425, e426, C427, C428, C429, C430⟩ := q419
      obtain ⟨⟨_, m431⟩, _⟩ := q421
      have z432 : (σ416 35) = v14 := m431
      have c433 := at_lt (by decide) h86
      refine wl_at Tryd.underlying44 ty9 C428.row z432 rfl (by decide) c433 t85 h86 ?_
      rintro B434 o435 cs436 rfl l438
      refine wl_nil ?_
      exact qn ⟨_, _, rfl, (Ext.refl _ _), ⟨fr425, e426.trans (Ext.refl _ _), C427, C428, C429, C430⟩, (aft_some (show ∃ (B88 : Nat) (o89 : Nat), (.pointer (some ⟨B434, o435, none⟩) : Value) = .pointer (some ⟨B88, o89, none⟩) ∧ Live w417 hw418 B88 o89 [.string (bs t85)] from ⟨B434, o435, rfl, l438⟩))⟩
    · intro D439 σ440 w441 hw442 q443 q444 q445 q446 q447 q448
      obtain ⟨fr449, e450, C451, C452, C453, C454⟩ := q443
      obtain ⟨⟨_, m455⟩, _⟩ := q445
      obtain ⟨B456, o457, z458, f459⟩ : ∃ (B88 : Nat) (o89 : Nat), (σ440 36) = .pointer (some ⟨B88, o89, none⟩) ∧ Live w441 hw442 B88 o89 [.string (bs t85)] := m455
      refine wl_load1 ty9 z458 (.string (bs t85)) (f459.2 0 _ rfl) ?_
      refine wl_nil ?_
      exact qn ⟨_, _, rfl, (Ext.refl _ _), ⟨fr449, e450.trans (Ext.refl _ _), C451, C452, C453, C454⟩, (aft_some rfl)⟩
    · intro D460 σ461 w462 hw463 q464 q465 q466 q467 q468 q469
      obtain ⟨fr470, e471, C472, C473, C474, C475⟩ := q464
      obtain ⟨⟨_, m476⟩, ⟨_, m477⟩, ⟨_, m478⟩, ⟨_, m479⟩, ⟨_, m480⟩, ⟨_, m481⟩, ⟨_, m482⟩, _⟩ := q466
      have z483 : (σ461 22) = .int .i64 t34 := m476
      have z484 : (σ461 24) = .int .i64 t42 := m477
      have z485 : (σ461 26) = .int .i64 t51 := m478
      have z486 : (σ461 28) = .int .i64 t60 := m479
      have z487 : (σ461 31) = .string (bs t68) := m480
      have z488 : (σ461 34) = .string (bs t77) := m481
      have z489 : (σ461 37) = .string (bs t85) := m482
      have hb490 : ∀ w, (Instr.build 23 #[(0, .int .i64 t34), (1, .int .i64 t42), (4, .int .i64 t51), (5, .int .i64 t60), (2, .string (bs t68)), (3, .string (bs t77)), (6, .string (bs t85))]).run Tryd.prog w = .ok (.agg (List.toArray [.int .i64 t34, .int .i64 t42, .string (bs t68), .string (bs t77), .int .i64 t51, .int .i64 t60, .string (bs t85)])) w := by intro  _; kernel_rfl
      refine wl_build [.int .i64 t34, .int .i64 t42, .string (bs t68), .string (bs t77), .int .i64 t51, .int .i64 t60, .string (bs t85)] (pc z483 (pc z484 (pc z485 (pc z486 (pc z487 (pc z488 (pc z489 (pn _ _)))))))) (hb490 _) ?_
      refine wl_nil ?_
      exact qn ⟨_, _, rfl, (Ext.refl _ _), ⟨fr470, e471.trans (Ext.refl _ _), C472, C473, C474, C475⟩, (aft_some rfl)⟩
    · intro D491 σ492 w493 hw494 q495 q496 q497 q498 q499 q500
      obtain ⟨fr501, e502, C503, C504, C505, C506⟩ := q495
      refine wl_alloc fr501.wf fr501.g.size ty23 [.int .i64 0, .int .i64 0, .string (bs []), .string (bs []), .int .i64 0, .int .i64 0, .string (bs [])] rfl ?_
      intro b507 w508 s509 B510 g511
      have n512 : b1 ≠ b507 := C503.ne g511
      have n513 := C504.ne g511
      have fr514 := fr501.then0 s509
      refine wl_nil ?_
      have B515 := (C503.step0 s509)
      have O516 := (C504.step0 s509)
      exact qn ⟨_, _, rfl, s509.ext, ⟨fr514, e502.trans s509.ext, B515, O516, ⟨(Box.retype B510 (show ([.int .i64 0, .int .i64 0, .string (bs []), .string (bs []), .int .i64 0, .int .i64 0, .string (bs [])] : List Value) = [(bif D491 19 then .int .i64 t34 else .int .i64 0), (bif D491 19 then .int .i64 t42 else .int .i64 0), (bif D491 19 then .string (bs t68) else .string (bs [])), (bif D491 19 then .string (bs t77) else .string (bs [])), (bif D491 19 then .int .i64 t51 else .int .i64 0), (bif D491 19 then .int .i64 t60 else .int .i64 0), (bif D491 19 then .string (bs t85) else .string (bs []))] from by rw [show D491 19 = false from (q500 19 rfl)] <;> rfl)), n512, n513⟩, rfl⟩, (aft_some trivial)⟩
    · intro D517 σ518 w519 hw520 q521 q522 q523 q524 q525 q526
      obtain ⟨fr527, e528, C529, C530, C531, C532⟩ := q521
      obtain ⟨B533, n534, n535⟩ := bif_t (q525 18 rfl) C531
      obtain ⟨⟨_, m536⟩, ⟨_, m537⟩, ⟨_, m538⟩, ⟨_, m539⟩, ⟨_, m540⟩, ⟨_, m541⟩, ⟨_, m542⟩, ⟨_, m543⟩, ⟨_, m544⟩, ⟨_, m545⟩, ⟨_, m546⟩, ⟨_, m547⟩, ⟨_, m548⟩, ⟨_, m549⟩, ⟨_, m550⟩, ⟨_, m551⟩, ⟨_, m552⟩, ⟨_, m553⟩, ⟨_, m554⟩, ⟨_, m555⟩, ⟨_, m556⟩, ⟨_, m557⟩, _⟩ := q523
      have z558 : (σ518 38) = .agg #[.int .i64 t34, .int .i64 t42, .string (bs t68), .string (bs t77), .int .i64 t51, .int .i64 t60, .string (bs t85)] := m537
      have z559 : (σ518 28) = .int .i64 t60 := m538
      have z560 : (σ518 21) = .func (.func 18) #[v14] #[] := m539
      have z561 : (σ518 22) = .int .i64 t34 := m540
      have z562 : (σ518 23) = .func (.func 18) #[v14] #[] := m541
      have z563 : (σ518 24) = .int .i64 t42 := m542
      have z564 : (σ518 25) = .func (.func 18) #[v14] #[] := m543
      have z565 : (σ518 26) = .int .i64 t51 := m544
      have z566 : (σ518 27) = .func (.func 18) #[v14] #[] := m545
      have z567 : (σ518 29) = v14 := m547
      obtain ⟨B568, o569, z570, f571⟩ : ∃ (B71 : Nat) (o72 : Nat), (σ518 30) = .pointer (some ⟨B71, o72, none⟩) ∧ Live w519 hw520 B71 o72 [.string (bs t68)] := m548
      have z572 : (σ518 31) = .string (bs t68) := m549
      have z573 : (σ518 32) = v14 := m550
      obtain ⟨B574, o575, z576, f577⟩ : ∃ (B80 : Nat) (o81 : Nat), (σ518 33) = .pointer (some ⟨B80, o81, none⟩) ∧ Live w519 hw520 B80 o81 [.string (bs t77)] := m551
      have z578 : (σ518 34) = .string (bs t77) := m552
      have z579 : (σ518 35) = v14 := m553
      obtain ⟨B580, o581, z582, f583⟩ : ∃ (B88 : Nat) (o89 : Nat), (σ518 36) = .pointer (some ⟨B88, o89, none⟩) ∧ Live w519 hw520 B88 o89 [.string (bs t85)] := m554
      have z584 : (σ518 37) = .string (bs t85) := m555
      have z585 := bif_t (q525 18 rfl) C532
      refine wl_store B533 fr527.wf ty23 z585 [.int .i64 t34, .int .i64 t42, .string (bs t68), .string (bs t77), .int .i64 t51, .int .i64 t60, .string (bs t85)] (cells_of z558 rfl) rfl (Nat.le_of_ble_eq_true rfl) (by intro u hu; simp only [List.mem_cons, List.not_mem_nil, or_false] at hu; rcases hu with rfl | rfl | rfl | rfl | rfl | rfl | rfl <;> first | rfl | exact Dy.one _) [.int .i64 t34, .int .i64 t42, .string (bs t68), .string (bs t77), .int .i64 t51, .int .i64 t60, .string (bs t85)] rfl ?_
      intro w586 s587 B588
      have fr589 := fr527.then s587 (fun _ e => (Option.some.inj e ▸ B533.new))
      refine wl_nil ?_
      have B590 := (C529.stepb s587 n534)
      have O591 := (C530.step s587 (.inr n535))
      exact qn ⟨_, _, rfl, s587.ext, ⟨fr589, e528.trans s587.ext, B590, O591, (bif_up (q525 18 rfl) ⟨B588, n534, n535⟩), C532⟩, aft_none⟩
    · intro σ592 w593 hw594 q595 q596 q597
      obtain ⟨fr598, e599, C600, C601, C602, C603⟩ := q595
      obtain ⟨B604, n605, n606⟩ : Box w0.heap.size w593 hw594 (blk (σ592 7)) 23 [.int .i64 t34, .int .i64 t42, .string (bs t68), .string (bs t77), .int .i64 t51, .int .i64 t60, .string (bs t85)] ∧ b1 ≠ (blk (σ592 7)) ∧ Value.ownBlock v14 ≠ some (blk (σ592 7)) := C602
      obtain ⟨m607, m608, m609, m610, m611, m612, m613, m614, m615, m616, m617, m618, m619, m620, m621, m622, m623, m624, m625, m626, _⟩ := q597
      have z627 : (σ592 29) = v14 := m615
      have z628 : (σ592 32) = v14 := m618
      have z629 : (σ592 35) = v14 := m621
      have z630 : σ592 7 = .pointer (some ⟨(blk (σ592 7)), 0, none⟩) := C603
      refine qn ?_
      refine wc_seq ?_
      refine wc_seq ?_
      refine wc_region ?_
      refine wl_loadb B604 ty23 z630 [.int .i64 t34, .int .i64 t42, .string (bs t68), .string (bs t77), .int .i64 t51, .int .i64 t60, .string (bs t85)] rfl rfl ?_
      obtain ⟨t631, h632, h⟩ := Option.bind_eq_some_iff.1 h
      refine wl_call [.agg #[.int .i64 t34, .int .i64 t42, .string (bs t68), .string (bs t77), .int .i64 t51, .int .i64 t60, .string (bs t85)]] bod5 (mc rfl (mn _)) (courier_Text.ok k fr598.wf (⟨t34, t42, t68, t77, t51, t60, t85⟩ : ApiAsk) _ h632) ?_
      rintro e633 w634 ⟨hw635, rfl, s636⟩
      refine ⟨_, rfl, ?_⟩
      have fr637 := fr598.then0 s636
      refine wl_move (.tuple #[.string (bs t631.1), .int .i64 t631.2]) rfl ?_
      refine wl_extract (vs := [.string (bs t631.1), .int .i64 t631.2]) (.string (bs t631.1)) rfl rfl ?_
      refine wl_extract (vs := [.string (bs t631.1), .int .i64 t631.2]) (.int .i64 t631.2) rfl rfl ?_
      refine wl_assign (.string (bs t631.1)) rfl ?_
      refine wl_assign (.int .i64 t631.2) rfl ?_
      refine wl_nil ?_
      refine qn ?_
      refine wc_seq ?_
      refine wc_region ?_
      refine wl_move (.int .i64 t631.2) rfl ?_
      refine wl_neq rfl rfl ?_
      refine wl_move (.bool (t631.2 != 0)) rfl ?_
      refine wl_join 4 [47, 48, 49, 50] 50 (.bool ((t631.2 != 0) || (!(t631.1 == a0)))) ?_ ?_
      · rcases Bool.eq_false_or_eq_true (t631.2 != 0) with hcc | hcc
        · skip
          refine wl_off (yl rfl rfl rfl) hcc ?_
          refine wl_off (yl rfl rfl rfl) hcc ?_
          refine wl_off (yl rfl rfl rfl) hcc ?_
          refine wl_pick_t (t631.2 != 0) (.bool true) rfl hcc rfl ?_
          refine wl_nil ?_
          exact qn ⟨rfl, _, rfl, (by repeat (first | exact Same.refl _ _ | refine Same.upd ?_ rfl)), (by rw [hcc]; rfl)⟩
        · skip
          refine wl_on (yl rfl rfl rfl) hcc ?_
          refine wl_move (.string (bs t631.1)) rfl ?_
          refine wl_on (yl rfl rfl rfl) hcc ?_
          refine wl_move (.string (bs a0)) ((q596 0 rfl).trans rfl) ?_
          refine wl_on (yl rfl rfl rfl) hcc ?_
          refine wl_neqs rfl rfl ?_
          refine wl_pick_f (t631.2 != 0) (.bool (!(t631.1 == a0))) rfl hcc rfl ?_
          refine wl_nil ?_
          exact qn ⟨rfl, _, rfl, (by repeat (first | exact Same.refl _ _ | refine Same.upd ?_ rfl)), (by rw [hcc]; rfl)⟩
      intro _ ho638 hv639
      refine wl_nil ?_
      refine qn ?_
      by_cases c640 : ((t631.2 != 0) || (!(t631.1 == a0))) = true
      · replace h := (if_pos c640).symm.trans h
        refine wc_then hv639 c640 ?_
        refine wc_seq ?_
        refine wc_region ?_
        have hb641 : ∀ w, (Instr.build 23 #[]).run Tryd.prog w = .ok (.agg (List.toArray [.int .i64 0, .int .i64 0, .string (bs []), .string (bs []), .int .i64 0, .int .i64 0, .string (bs [])])) w := by intro  _; kernel_rfl
        refine wl_build [.int .i64 0, .int .i64 0, .string (bs []), .string (bs []), .int .i64 0, .int .i64 0, .string (bs [])] (pn _ _) (hb641 _) ?_
        have B642 := (C600.step0 s636)
        refine wl_store B642 fr637.wf ty23 ((ho638 2 rfl).trans ((q596 2 rfl).trans rfl)) [.int .i64 0, .int .i64 0, .string (bs []), .string (bs []), .int .i64 0, .int .i64 0, .string (bs [])] (cells_of (v := (.agg #[.int .i64 0, .int .i64 0, .string (bs []), .string (bs []), .int .i64 0, .int .i64 0, .string (bs [])])) rfl rfl) rfl (Nat.le_of_ble_eq_true rfl) (by intro u hu; simp only [List.mem_cons, List.not_mem_nil, or_false] at hu; rcases hu with rfl | rfl | rfl | rfl | rfl | rfl | rfl <;> first | rfl | exact Dy.one _) [.int .i64 0, .int .i64 0, .string (bs []), .string (bs []), .int .i64 0, .int .i64 0, .string (bs [])] rfl ?_
        intro w643 s644 B645
        have fr646 := fr637.then s644 (fun _ e => (Option.some.inj e ▸ B642.new))
        refine wl_assign (.int .i64 6) rfl ?_
        refine wl_nil ?_
        refine qn ?_
        refine wc_ret ?_
        refine qr ?_
        have h := Option.some.inj h
        subst h
        refine end2 rfl (.cell ((ho638 2 rfl).trans ((q596 2 rfl).trans rfl)) (ty23.load (l := [.int .i64 0, .int .i64 0, .string (bs []), .string (bs []), .int .i64 0, .int .i64 0, .string (bs [])]) rfl (B645.cells rfl)) (.tmp rfl .nil)) ?_
        exact ⟨_, rfl, fr646⟩
      · replace h := (if_neg c640).symm.trans h
        have b647 : ((t631.2 != 0) || (!(t631.1 == a0))) = false := Bool.eq_false_iff.2 c640
        refine wc_else hv639 b647 ?_
        refine wc_skip ?_
        refine qn ?_
        refine wc_seq ?_
        refine wc_region ?_
        have B648 := (B604.step0 s636)
        refine wl_loadb B648 ty23 ((ho638 7 rfl).trans z630) [.int .i64 t34, .int .i64 t42, .string (bs t68), .string (bs t77), .int .i64 t51, .int .i64 t60, .string (bs t85)] rfl rfl ?_
        have B649 := (C600.step0 s636)
        refine wl_store B649 fr637.wf ty23 ((ho638 2 rfl).trans ((q596 2 rfl).trans rfl)) [.int .i64 t34, .int .i64 t42, .string (bs t68), .string (bs t77), .int .i64 t51, .int .i64 t60, .string (bs t85)] (cells_of (v := (.agg #[.int .i64 t34, .int .i64 t42, .string (bs t68), .string (bs t77), .int .i64 t51, .int .i64 t60, .string (bs t85)])) rfl rfl) rfl (Nat.le_of_ble_eq_true rfl) (by intro u hu; simp only [List.mem_cons, List.not_mem_nil, or_false] at hu; rcases hu with rfl | rfl | rfl | rfl | rfl | rfl | rfl <;> first | rfl | exact Dy.one _) [.int .i64 t34, .int .i64 t42, .string (bs t68), .string (bs t77), .int .i64 t51, .int .i64 t60, .string (bs t85)] rfl ?_
        intro w650 s651 B652
        have fr653 := fr637.then s651 (fun _ e => (Option.some.inj e ▸ B649.new))
        refine wl_assign (.int .i64 0) rfl ?_
        refine wl_nil ?_
        refine qn ?_
        refine wc_ret ?_
        have h := Option.some.inj h
        subst h
        refine end2 rfl (.cell ((ho638 2 rfl).trans ((q596 2 rfl).trans rfl)) (ty23.load (l := [.int .i64 t34, .int .i64 t42, .string (bs t68), .string (bs t77), .int .i64 t51, .int .i64 t60, .string (bs t85)]) rfl (B652.cells rfl)) (.tmp rfl .nil)) ?_
        exact ⟨_, rfl, fr653⟩
/-! ### consignor/courier.Read: function 8 -/
def courier_Read.f (k : Nat) (a0 : (List UInt8)) : Option (ApiAnswer × Int) := (octet_Loose.f k a0).bind fun t8 => (if ((t8.1.length : Int) != 4) = true then (some ((⟨0, 0, 0⟩ : ApiAnswer), 6)) else ((courier_parts_whole.f k t8.1 1).bind fun t29 => ((courier_parts_whole.f k t8.1 2).bind fun t38 => ((courier_parts_whole.f k t8.1 3).bind fun t47 => ((courier_Reply.f k (⟨t29, t38, t47⟩ : ApiAnswer)).bind fun t70 => (if ((t70.2 != 0) || (!(t70.1 == a0))) = true then (some ((⟨0, 0, 0⟩ : ApiAnswer), 6)) else (some ((⟨t29, t38, t47⟩ : ApiAnswer), 0))))))))
set_option maxHeartbeats 1000000 in
theorem courier_Read.ok (k : Nat) {w0 : World} {hw0 : Hw} (wf : Hwf w0 hw0) (a0 : (List UInt8)) (gl : Gl w0 hw0) (r : (ApiAnswer × Int)) (h : courier_Read.f k a0 = some r) :
    Calls Tryd.prog 8 #[.string (bs a0)] w0 fun e w' => ∃ (hw' : Hw), e = .returned (.tuple #[.agg #[.int .i64 r.1.Id, .int .i64 r.1.Err, .int .i64 r.1.N], .int .i64 r.2]) ∧ Stp none w0 hw0 w' hw' := by
  have fr0 := Stp.refl none (w := w0) (hw := hw0) wf
  unfold courier_Read.f at h
  refine enter (n := 42) Tryd.func8 rfl rfl (Nat.le_of_ble_eq_true rfl) ?_
  refine wc_seq ?_
  refine wc_region ?_
  refine wl_alloc fr0.wf fr0.g.size ty26 [.int .i64 0, .int .i64 0, .int .i64 0] rfl ?_
  intro b1 w2 s3 B4 g5
  have fr6 := fr0.then0 s3
  refine wl_assign (.int .i64 0) rfl ?_
  refine wl_nil ?_
  refine qn ?_
  refine wc_seq ?_
  refine wc_region ?_
  refine wl_move (.string (bs a0)) rfl ?_
  have f7 := gl.ext (s3.ext)
  obtain ⟨t8, h9, h⟩ := Option.bind_eq_some_iff.1 h
  refine wl_call [.string (bs a0)] bod17 (mc rfl (mn _)) (octet_Loose.ok k fr6.wf a0 f7 _ h9) ?_
  rintro e10 w11 ⟨v14, hw12, rfl, s13, O15⟩
  refine ⟨_, rfl, ?_⟩
  have n16 := own_new_lt O15 B4.lt
  replace O15 := O15.low fr6.g.size
  have fr17 := fr6.then0 s13
  refine wl_move (.tuple #[v14, .int .i64 t8.2]) rfl ?_
  refine wl_extract (vs := [v14, .int .i64 t8.2]) (v14) rfl rfl ?_
  refine wl_extract (vs := [v14, .int .i64 t8.2]) (.int .i64 t8.2) rfl rfl ?_
  refine wl_assign (v14) rfl ?_
  refine wl_assign (.int .i64 t8.2) rfl ?_
  refine wl_nil ?_
  refine qn ?_
  refine wc_seq ?_
  refine wc_seq ?_
  refine wc_region ?_
  refine wl_move (v14) rfl ?_
  obtain ⟨A18, c19, hv20⟩ := (O15.row).slice
  refine wl_len Tryd.underlying44 (show _ = Value.slice _ t8.1.length _ from (Eq.trans rfl hv20)) ?_
  refine wl_neq rfl rfl ?_
  refine wl_nil ?_
  refine qn ?_
  by_cases c21 : ((t8.1.length : Int) != 4) = true
  · replace h := (if_pos c21).symm.trans h
    refine wc_then rfl c21 ?_
    refine wc_seq ?_
    refine wc_region ?_
    have hb22 : ∀ w, (Instr.build 26 #[]).run Tryd.prog w = .ok (.agg (List.toArray [.int .i64 0, .int .i64 0, .int .i64 0])) w := by intro  _; kernel_rfl
    refine wl_build [.int .i64 0, .int .i64 0, .int .i64 0] (pn _ _) (hb22 _) ?_
    have B23 := (B4.step0 s13)
    refine wl_store B23 fr17.wf ty26 rfl [.int .i64 0, .int .i64 0, .int .i64 0] (cells_of (v := (.agg #[.int .i64 0, .int .i64 0, .int .i64 0])) rfl rfl) rfl (Nat.le_of_ble_eq_true rfl) (by intro u hu; simp only [List.mem_cons, List.not_mem_nil, or_false] at hu; rcases hu with rfl | rfl | rfl <;> first | rfl | exact Dy.one _) [.int .i64 0, .int .i64 0, .int .i64 0] rfl ?_
    intro w24 s25 B26
    have fr27 := fr17.then s25 (fun _ e => (Option.some.inj e ▸ B23.new))
    refine wl_assign (.int .i64 6) rfl ?_
    refine wl_nil ?_
    refine qn ?_
    refine wc_ret ?_
    refine qr ?_
    have h := Option.some.inj h
    subst h
    refine end2 rfl (.cell rfl (ty26.load (l := [.int .i64 0, .int .i64 0, .int .i64 0]) rfl (B26.cells rfl)) (.tmp rfl .nil)) ?_
    exact ⟨_, rfl, fr27⟩
  · replace h := (if_neg c21).symm.trans h
    have b28 : ((t8.1.length : Int) != 4) = false := Bool.eq_false_iff.2 c21
    refine wc_else rfl b28 ?_
    refine wc_skip ?_
    refine qn ?_
    refine wc_seq ?_
    refine wc_region ?_
    refine wl_move (v14) rfl ?_
    refine wl_func (mc rfl (mn _)) (mn _) ?_
    refine wl_assign (.func (.func 18) #[v14] #[]) rfl ?_
    refine wl_nil ?_
    refine qn ?_
    refine wc_seq ?_
    refine wc_region ?_
    refine wl_move (.func (.func 18) #[v14] #[]) rfl ?_
    obtain ⟨t29, h30, h⟩ := Option.bind_eq_some_iff.1 h
    have B35 := (B4.step0 s13)
    refine wl_callv (first := [v14]) (captured := []) bod18 rfl [.int .i64 1] (mc rfl (mn _)) (courier_parts_whole.ok k fr17.wf t8.1 1 v14 O15.row _ h30) ?_
    rintro e31 w32 ⟨hw33, rfl, s34⟩
    refine ⟨_, rfl, ?_⟩
    have fr36 := fr17.then0 s34
    refine wl_move (.func (.func 18) #[v14] #[]) rfl ?_
    have O37 := (O15.step0 s34)
    obtain ⟨t38, h39, h⟩ := Option.bind_eq_some_iff.1 h
    have B44 := (B35.step0 s34)
    refine wl_callv (first := [v14]) (captured := []) bod18 rfl [.int .i64 2] (mc rfl (mn _)) (courier_parts_whole.ok k fr36.wf t8.1 2 v14 O37.row _ h39) ?_
    rintro e40 w41 ⟨hw42, rfl, s43⟩
    refine ⟨_, rfl, ?_⟩
    have fr45 := fr36.then0 s43
    refine wl_move (.func (.func 18) #[v14] #[]) rfl ?_
    have O46 := (O37.step0 s43)
    obtain ⟨t47, h48, h⟩ := Option.bind_eq_some_iff.1 h
    have B53 := (B44.step0 s43)
    refine wl_callv (first := [v14]) (captured := []) bod18 rfl [.int .i64 3] (mc rfl (mn _)) (courier_parts_whole.ok k fr45.wf t8.1 3 v14 O46.row _ h48) ?_
    rintro e49 w50 ⟨hw51, rfl, s52⟩
    refine ⟨_, rfl, ?_⟩
    have fr54 := fr45.then0 s52
    have hb55 : ∀ w, (Instr.build 26 #[(0, .int .i64 t29), (1, .int .i64 t38), (2, .int .i64 t47)]).run Tryd.prog w = .ok (.agg (List.toArray [.int .i64 t29, .int .i64 t38, .int .i64 t47])) w := by intro  _; kernel_rfl
    refine wl_build [.int .i64 t29, .int .i64 t38, .int .i64 t47] (pc rfl (pc rfl (pc rfl (pn _ _)))) (hb55 _) ?_
    refine wl_alloc fr54.wf fr54.g.size ty26 [.int .i64 0, .int .i64 0, .int .i64 0] rfl ?_
    intro b56 w57 s58 B59 g60
    have B62 := (B53.step0 s52)
    have n61 : b1 ≠ b56 := B62.ne g60
    have O64 := (O46.step0 s52)
    have n63 := O64.ne g60
    have fr65 := fr54.then0 s58
    refine wl_store B59 fr65.wf ty26 rfl [.int .i64 t29, .int .i64 t38, .int .i64 t47] (cells_of (v := (.agg #[.int .i64 t29, .int .i64 t38, .int .i64 t47])) rfl rfl) rfl (Nat.le_of_ble_eq_true rfl) (by intro u hu; simp only [List.mem_cons, List.not_mem_nil, or_false] at hu; rcases hu with rfl | rfl | rfl <;> first | rfl | exact Dy.one _) [.int .i64 t29, .int .i64 t38, .int .i64 t47] rfl ?_
    intro w66 s67 B68
    have fr69 := fr65.then s67 (fun _ e => (Option.some.inj e ▸ B59.new))
    refine wl_nil ?_
    refine qn ?_
    refine wc_seq ?_
    refine wc_seq ?_
    refine wc_region ?_
    refine wl_loadb B68 ty26 rfl [.int .i64 t29, .int .i64 t38, .int .i64 t47] rfl rfl ?_
    obtain ⟨t70, h71, h⟩ := Option.bind_eq_some_iff.1 h
    have B76 := ((B62.step0 s58).stepb s67 n61)
    refine wl_call [.agg #[.int .i64 t29, .int .i64 t38, .int .i64 t47]] bod6 (mc rfl (mn _)) (courier_Reply.ok k fr69.wf (⟨t29, t38, t47⟩ : ApiAnswer) _ h71) ?_
    rintro e72 w73 ⟨hw74, rfl, s75⟩
    refine ⟨_, rfl, ?_⟩
    have fr77 := fr69.then0 s75
    refine wl_move (.tuple #[.string (bs t70.1), .int .i64 t70.2]) rfl ?_
    refine wl_extract (vs := [.string (bs t70.1), .int .i64 t70.2]) (.string (bs t70.1)) rfl rfl ?_
    refine wl_extract (vs := [.string (bs t70.1), .int .i64 t70.2]) (.int .i64 t70.2) rfl rfl ?_
    refine wl_assign (.string (bs t70.1)) rfl ?_
    refine wl_assign (.int .i64 t70.2) rfl ?_
    refine wl_nil ?_
    refine qn ?_
    refine wc_seq ?_
    refine wc_region ?_
    refine wl_move (.int .i64 t70.2) rfl ?_
    refine wl_neq rfl rfl ?_
    refine wl_move (.bool (t70.2 != 0)) rfl ?_
    refine wl_join 4 [36, 37, 38, 39] 39 (.bool ((t70.2 != 0) || (!(t70.1 == a0)))) ?_ ?_
    · rcases Bool.eq_false_or_eq_true (t70.2 != 0) with hcc | hcc
      · skip
        refine wl_off (yl rfl rfl rfl) hcc ?_
        refine wl_off (yl rfl rfl rfl) hcc ?_
        refine wl_off (yl rfl rfl rfl) hcc ?_
        refine wl_pick_t (t70.2 != 0) (.bool true) rfl hcc rfl ?_
        refine wl_nil ?_
        exact qn ⟨rfl, _, rfl, (by repeat (first | exact Same.refl _ _ | refine Same.upd ?_ rfl)), (by rw [hcc]; rfl)⟩
      · skip
        refine wl_on (yl rfl rfl rfl) hcc ?_
        refine wl_move (.string (bs t70.1)) rfl ?_
        refine wl_on (yl rfl rfl rfl) hcc ?_
        refine wl_move (.string (bs a0)) rfl ?_
        refine wl_on (yl rfl rfl rfl) hcc ?_
        refine wl_neqs rfl rfl ?_
        refine wl_pick_f (t70.2 != 0) (.bool (!(t70.1 == a0))) rfl hcc rfl ?_
        refine wl_nil ?_
        exact qn ⟨rfl, _, rfl, (by repeat (first | exact Same.refl _ _ | refine Same.upd ?_ rfl)), (by rw [hcc]; rfl)⟩
    intro _ ho78 hv79
    refine wl_nil ?_
    refine qn ?_
    by_cases c80 : ((t70.2 != 0) || (!(t70.1 == a0))) = true
    · replace h := (if_pos c80).symm.trans h
      refine wc_then hv79 c80 ?_
      refine wc_seq ?_
      refine wc_region ?_
      have hb81 : ∀ w, (Instr.build 26 #[]).run Tryd.prog w = .ok (.agg (List.toArray [.int .i64 0, .int .i64 0, .int .i64 0])) w := by intro  _; kernel_rfl
      refine wl_build [.int .i64 0, .int .i64 0, .int .i64 0] (pn _ _) (hb81 _) ?_
      have B82 := (B76.step0 s75)
      refine wl_store B82 fr77.wf ty26 ((ho78 2 rfl).trans rfl) [.int .i64 0, .int .i64 0, .int .i64 0] (cells_of (v := (.agg #[.int .i64 0, .int .i64 0, .int .i64 0])) rfl rfl) rfl (Nat.le_of_ble_eq_true rfl) (by intro u hu; simp only [List.mem_cons, List.not_mem_nil, or_false] at hu; rcases hu with rfl | rfl | rfl <;> first | rfl | exact Dy.one _) [.int .i64 0, .int .i64 0, .int .i64 0] rfl ?_
      intro w83 s84 B85
      have fr86 := fr77.then s84 (fun _ e => (Option.some.inj e ▸ B82.new))
      refine wl_assign (.int .i64 6) rfl ?_
      refine wl_nil ?_
      refine qn ?_
      refine wc_ret ?_
      refine qr ?_
      have h := Option.some.inj h
      subst h
      refine end2 rfl (.cell ((ho78 2 rfl).trans rfl) (ty26.load (l := [.int .i64 0, .int .i64 0, .int .i64 0]) rfl (B85.cells rfl)) (.tmp rfl .nil)) ?_
      exact ⟨_, rfl, fr86⟩
    · replace h := (if_neg c80).symm.trans h
      have b87 : ((t70.2 != 0) || (!(t70.1 == a0))) = false := Bool.eq_false_iff.2 c80
      refine wc_else hv79 b87 ?_
      refine wc_skip ?_
      refine qn ?_
      refine wc_seq ?_
      refine wc_region ?_
      have B88 := (B68.step0 s75)
      refine wl_loadb B88 ty26 ((ho78 7 rfl).trans rfl) [.int .i64 t29, .int .i64 t38, .int .i64 t47] rfl rfl ?_
      have B89 := (B76.step0 s75)
      refine wl_store B89 fr77.wf ty26 ((ho78 2 rfl).trans rfl) [.int .i64 t29, .int .i64 t38, .int .i64 t47] (cells_of (v := (.agg #[.int .i64 t29, .int .i64 t38, .int .i64 t47])) rfl rfl) rfl (Nat.le_of_ble_eq_true rfl) (by intro u hu; simp only [List.mem_cons, List.not_mem_nil, or_false] at hu; rcases hu with rfl | rfl | rfl <;> first | rfl | exact Dy.one _) [.int .i64 t29, .int .i64 t38, .int .i64 t47] rfl ?_
      intro w90 s91 B92
      have fr93 := fr77.then s91 (fun _ e => (Option.some.inj e ▸ B89.new))
      refine wl_assign (.int .i64 0) rfl ?_
      refine wl_nil ?_
      refine qn ?_
      refine wc_ret ?_
      have h := Option.some.inj h
      subst h
      refine end2 rfl (.cell ((ho78 2 rfl).trans rfl) (ty26.load (l := [.int .i64 t29, .int .i64 t38, .int .i64 t47]) rfl (B92.cells rfl)) (.tmp rfl .nil)) ?_
      exact ⟨_, rfl, fr93⟩
/-! ### consignor/consignorref21.in: function 19 -/
def consignorref21_in.f (k : Nat) (a0 : Int) : Option Bool := some ((decide (0 ≤ a0)) && (decide (a0 ≤ 1099511627776)))
set_option maxHeartbeats 1000000 in
theorem consignorref21_in.ok (k : Nat) {w0 : World} {hw0 : Hw} (wf : Hwf w0 hw0) (a0 : Int) (r : Bool) (h : consignorref21_in.f k a0 = some r) :
    Calls Tryd.prog 19 #[.int .i64 a0] w0 fun e w' => ∃ (hw' : Hw), e = .returned (.bool r) ∧ Stp none w0 hw0 w' hw' := by
  have fr0 := Stp.refl none (w := w0) (hw := hw0) wf
  unfold consignorref21_in.f at h
  refine enter (n := 9) Tryd.func19 rfl rfl (Nat.le_of_ble_eq_true rfl) ?_
  refine wc_seq ?_
  refine wc_region ?_
  refine wl_assign (.bool false) rfl ?_
  refine wl_nil ?_
  refine qn ?_
  refine wc_seq ?_
  refine wc_region ?_
  refine wl_move (.int .i64 a0) rfl ?_
  refine wl_geq rfl rfl ?_
  refine wl_move (.bool (decide (0 ≤ a0))) rfl ?_
  refine wl_join 3 [6, 7, 8] 8 (.bool ((decide (0 ≤ a0)) && (decide (a0 ≤ 1099511627776)))) ?_ ?_
  · rcases Bool.eq_false_or_eq_true (decide (0 ≤ a0)) with hcc | hcc
    · skip
      refine wl_on (yl rfl rfl rfl) hcc ?_
      refine wl_move (.int .i64 a0) rfl ?_
      refine wl_on (yl rfl rfl rfl) hcc ?_
      refine wl_leq rfl rfl ?_
      refine wl_pick_t (decide (0 ≤ a0)) (.bool (decide (a0 ≤ 1099511627776))) rfl hcc rfl ?_
      refine wl_nil ?_
      exact qn ⟨rfl, _, rfl, (by repeat (first | exact Same.refl _ _ | refine Same.upd ?_ rfl)), (by rw [hcc]; rfl)⟩
    · skip
      refine wl_off (yl rfl rfl rfl) hcc ?_
      refine wl_off (yl rfl rfl rfl) hcc ?_
      refine wl_pick_f (decide (0 ≤ a0)) (.bool false) rfl hcc rfl ?_
      refine wl_nil ?_
      exact qn ⟨rfl, _, rfl, (by repeat (first | exact Same.refl _ _ | refine Same.upd ?_ rfl)), (by rw [hcc]; rfl)⟩
  intro _ ho1 hv2
  refine wl_assign (.bool ((decide (0 ≤ a0)) && (decide (a0 ≤ 1099511627776)))) hv2 ?_
  refine wl_nil ?_
  refine qn ?_
  refine wc_ret ?_
  have h := Option.some.inj h
  subst h
  refine end1 rfl (.tmp rfl .nil) ?_
  exact ⟨_, rfl, fr0⟩
/-! ### consignor/consignorref21.IsAsk: function 9 -/
def consignorref21_IsAsk.f (k : Nat) (a0 : ApiAsk) : Option Bool := (consignorref21_in.f k a0.Id).bind fun t7 => (if t7 = true then ((consignorref21_in.f k a0.Kind).bind fun t16 => (if t16 = true then ((consignorref21_in.f k a0.Upload).bind fun t25 => (if t25 = true then ((consignorref21_in.f k a0.Offset).bind fun t34 => (some (((t34 && (decide ((a0.Repo.length : Int) ≤ 128))) && (decide ((a0.Digest.length : Int) ≤ 128))) && (decide ((a0.Data.length : Int) ≤ 1000))))) else (some false))) else (some false))) else (some false))
set_option maxHeartbeats 1000000 in
theorem consignorref21_IsAsk.ok (k : Nat) {w0 : World} {hw0 : Hw} (wf : Hwf w0 hw0) (a0 : ApiAsk) (r : Bool) (h : consignorref21_IsAsk.f k a0 = some r) :
    Calls Tryd.prog 9 #[.agg #[.int .i64 a0.Id, .int .i64 a0.Kind, .string (bs a0.Repo), .string (bs a0.Digest), .int .i64 a0.Upload, .int .i64 a0.Offset, .string (bs a0.Data)]] w0 fun e w' => ∃ (hw' : Hw), e = .returned (.bool r) ∧ Stp none w0 hw0 w' hw' := by
  have fr0 := Stp.refl none (w := w0) (hw := hw0) wf
  unfold consignorref21_IsAsk.f at h
  refine enter (n := 39) Tryd.func9 rfl rfl (Nat.le_of_ble_eq_true rfl) ?_
  refine wc_seq ?_
  refine wc_region ?_
  refine wl_box fr0.wf fr0.g.size [.int .i64 a0.Id, .int .i64 a0.Kind, .string (bs a0.Repo), .string (bs a0.Digest), .int .i64 a0.Upload, .int .i64 a0.Offset, .string (bs a0.Data)] (cells_of (v := (.agg #[.int .i64 a0.Id, .int .i64 a0.Kind, .string (bs a0.Repo), .string (bs a0.Digest), .int .i64 a0.Upload, .int .i64 a0.Offset, .string (bs a0.Data)])) rfl rfl) ?_
  intro b1 w2 s3 B4 g5
  have fr6 := fr0.then0 s3
  refine wl_assign (.bool false) rfl ?_
  refine wl_nil ?_
  refine qn ?_
  refine wc_seq ?_
  refine wc_region ?_
  refine wl_field fld23_0 rfl ?_
  refine wl_loadb1 B4 ty3 rfl (.int .i64 a0.Id) rfl ?_
  obtain ⟨t7, h8, h⟩ := Option.bind_eq_some_iff.1 h
  refine wl_call [.int .i64 a0.Id] bod19 (mc rfl (mn _)) (consignorref21_in.ok k fr6.wf a0.Id _ h8) ?_
  rintro e9 w10 ⟨hw11, rfl, s12⟩
  refine ⟨_, rfl, ?_⟩
  have fr13 := fr6.then0 s12
  refine wl_move (.bool t7) rfl ?_
  by_cases c14 : t7 = true
  · replace h := (if_pos c14).symm.trans h
    refine wl_on (yl rfl rfl rfl) c14 ?_
    refine wl_field fld23_1 rfl ?_
    refine wl_on (yl rfl rfl rfl) c14 ?_
    have B15 := (B4.step0 s12)
    refine wl_loadb1 B15 ty3 rfl (.int .i64 a0.Kind) rfl ?_
    refine wl_on (yl rfl rfl rfl) c14 ?_
    obtain ⟨t16, h17, h⟩ := Option.bind_eq_some_iff.1 h
    refine wl_call [.int .i64 a0.Kind] bod19 (mc rfl (mn _)) (consignorref21_in.ok k fr13.wf a0.Kind _ h17) ?_
    rintro e18 w19 ⟨hw20, rfl, s21⟩
    refine ⟨_, rfl, ?_⟩
    have fr22 := fr13.then0 s21
    refine wl_pick_t t7 (.bool t16) rfl c14 rfl ?_
    refine wl_move (.bool t16) rfl ?_
    by_cases c23 : t16 = true
    · replace h := (if_pos c23).symm.trans h
      refine wl_on (yl rfl rfl rfl) c23 ?_
      refine wl_field fld23_4 rfl ?_
      refine wl_on (yl rfl rfl rfl) c23 ?_
      have B24 := (B15.step0 s21)
      refine wl_loadb1 B24 ty3 rfl (.int .i64 a0.Upload) rfl ?_
      refine wl_on (yl rfl rfl rfl) c23 ?_
      obtain ⟨t25, h26, h⟩ := Option.bind_eq_some_iff.1 h
      refine wl_call [.int .i64 a0.Upload] bod19 (mc rfl (mn _)) (consignorref21_in.ok k fr22.wf a0.Upload _ h26) ?_
      rintro e27 w28 ⟨hw29, rfl, s30⟩
      refine ⟨_, rfl, ?_⟩
      have fr31 := fr22.then0 s30
      refine wl_pick_t t16 (.bool t25) rfl c23 rfl ?_
      refine wl_move (.bool t25) rfl ?_
      by_cases c32 : t25 = true
      · replace h := (if_pos c32).symm.trans h
        refine wl_on (yl rfl rfl rfl) c32 ?_
        refine wl_field fld23_5 rfl ?_
        refine wl_on (yl rfl rfl rfl) c32 ?_
        have B33 := (B24.step0 s30)
        refine wl_loadb1 B33 ty3 rfl (.int .i64 a0.Offset) rfl ?_
        refine wl_on (yl rfl rfl rfl) c32 ?_
        obtain ⟨t34, h35, h⟩ := Option.bind_eq_some_iff.1 h
        refine wl_call [.int .i64 a0.Offset] bod19 (mc rfl (mn _)) (consignorref21_in.ok k fr31.wf a0.Offset _ h35) ?_
        rintro e36 w37 ⟨hw38, rfl, s39⟩
        refine ⟨_, rfl, ?_⟩
        have fr40 := fr31.then0 s39
        refine wl_pick_t t25 (.bool t34) rfl c32 rfl ?_
        refine wl_move (.bool t34) rfl ?_
        refine wl_join 5 [22, 23, 24, 25, 26] 26 (.bool (t34 && (decide ((a0.Repo.length : Int) ≤ 128)))) ?_ ?_
        · rcases Bool.eq_false_or_eq_true t34 with hcc | hcc
          · skip
            refine wl_on (yl rfl rfl rfl) hcc ?_
            refine wl_field fld23_2 rfl ?_
            refine wl_on (yl rfl rfl rfl) hcc ?_
            have B41 := (B33.step0 s39)
            refine wl_loadb1 B41 ty9 rfl (.string (bs a0.Repo)) rfl ?_
            refine wl_on (yl rfl rfl rfl) hcc ?_
            refine wl_lens Tryd.underlying9 rfl ?_
            refine wl_on (yl rfl rfl rfl) hcc ?_
            refine wl_leq rfl rfl ?_
            refine wl_pick_t t34 (.bool (decide ((a0.Repo.length : Int) ≤ 128))) rfl hcc rfl ?_
            refine wl_nil ?_
            exact qn ⟨rfl, _, rfl, (by repeat (first | exact Same.refl _ _ | refine Same.upd ?_ rfl)), (by rw [hcc]; rfl)⟩
          · skip
            refine wl_off (yl rfl rfl rfl) hcc ?_
            refine wl_off (yl rfl rfl rfl) hcc ?_
            refine wl_off (yl rfl rfl rfl) hcc ?_
            refine wl_off (yl rfl rfl rfl) hcc ?_
            refine wl_pick_f t34 (.bool false) rfl hcc rfl ?_
            refine wl_nil ?_
            exact qn ⟨rfl, _, rfl, (by repeat (first | exact Same.refl _ _ | refine Same.upd ?_ rfl)), (by rw [hcc]; rfl)⟩
        intro _ ho42 hv43
        refine wl_move (.bool (t34 && (decide ((a0.Repo.length : Int) ≤ 128)))) hv43 ?_
        refine wl_join 5 [28, 29, 30, 31, 32] 32 (.bool ((t34 && (decide ((a0.Repo.length : Int) ≤ 128))) && (decide ((a0.Digest.length : Int) ≤ 128)))) ?_ ?_
        · rcases Bool.eq_false_or_eq_true (t34 && (decide ((a0.Repo.length : Int) ≤ 128))) with hcc | hcc
          · skip
            refine wl_on (yl rfl rfl rfl) hcc ?_
            refine wl_field fld23_3 ((ho42 1 rfl).trans rfl) ?_
            refine wl_on (yl rfl rfl rfl) hcc ?_
            have B44 := (B33.step0 s39)
            refine wl_loadb1 B44 ty9 rfl (.string (bs a0.Digest)) rfl ?_
            refine wl_on (yl rfl rfl rfl) hcc ?_
            refine wl_lens Tryd.underlying9 rfl ?_
            refine wl_on (yl rfl rfl rfl) hcc ?_
            refine wl_leq rfl rfl ?_
            refine wl_pick_t (t34 && (decide ((a0.Repo.length : Int) ≤ 128))) (.bool (decide ((a0.Digest.length : Int) ≤ 128))) rfl hcc rfl ?_
            refine wl_nil ?_
            exact qn ⟨rfl, _, rfl, (by repeat (first | exact Same.refl _ _ | refine Same.upd ?_ rfl)), (by rw [hcc]; rfl)⟩
          · skip
            refine wl_off (yl rfl rfl rfl) hcc ?_
            refine wl_off (yl rfl rfl rfl) hcc ?_
            refine wl_off (yl rfl rfl rfl) hcc ?_
            refine wl_off (yl rfl rfl rfl) hcc ?_
            refine wl_pick_f (t34 && (decide ((a0.Repo.length : Int) ≤ 128))) (.bool false) rfl hcc rfl ?_
            refine wl_nil ?_
            exact qn ⟨rfl, _, rfl, (by repeat (first | exact Same.refl _ _ | refine Same.upd ?_ rfl)), (by rw [hcc]; rfl)⟩
        intro _ ho45 hv46
        refine wl_move (.bool ((t34 && (decide ((a0.Repo.length : Int) ≤ 128))) && (decide ((a0.Digest.length : Int) ≤ 128)))) hv46 ?_
        refine wl_join 5 [34, 35, 36, 37, 38] 38 (.bool (((t34 && (decide ((a0.Repo.length : Int) ≤ 128))) && (decide ((a0.Digest.length : Int) ≤ 128))) && (decide ((a0.Data.length : Int) ≤ 1000)))) ?_ ?_
        · rcases Bool.eq_false_or_eq_true ((t34 && (decide ((a0.Repo.length : Int) ≤ 128))) && (decide ((a0.Digest.length : Int) ≤ 128))) with hcc | hcc
          · skip
            refine wl_on (yl rfl rfl rfl) hcc ?_
            refine wl_field fld23_6 ((ho45 1 rfl).trans ((ho42 1 rfl).trans rfl)) ?_
            refine wl_on (yl rfl rfl rfl) hcc ?_
            have B47 := (B33.step0 s39)
            refine wl_loadb1 B47 ty9 rfl (.string (bs a0.Data)) rfl ?_
            refine wl_on (yl rfl rfl rfl) hcc ?_
            refine wl_lens Tryd.underlying9 rfl ?_
            refine wl_on (yl rfl rfl rfl) hcc ?_
            refine wl_leq rfl rfl ?_
            refine wl_pick_t ((t34 && (decide ((a0.Repo.length : Int) ≤ 128))) && (decide ((a0.Digest.length : Int) ≤ 128))) (.bool (decide ((a0.Data.length : Int) ≤ 1000))) rfl hcc rfl ?_
            refine wl_nil ?_
            exact qn ⟨rfl, _, rfl, (by repeat (first | exact Same.refl _ _ | refine Same.upd ?_ rfl)), (by rw [hcc]; rfl)⟩
          · skip
            refine wl_off (yl rfl rfl rfl) hcc ?_
            refine wl_off (yl rfl rfl rfl) hcc ?_
            refine wl_off (yl rfl rfl rfl) hcc ?_
            refine wl_off (yl rfl rfl rfl) hcc ?_
            refine wl_pick_f ((t34 && (decide ((a0.Repo.length : Int) ≤ 128))) && (decide ((a0.Digest.length : Int) ≤ 128))) (.bool false) rfl hcc rfl ?_
            refine wl_nil ?_
            exact qn ⟨rfl, _, rfl, (by repeat (first | exact Same.refl _ _ | refine Same.upd ?_ rfl)), (by rw [hcc]; rfl)⟩
        intro _ ho48 hv49
        refine wl_assign (.bool (((t34 && (decide ((a0.Repo.length : Int) ≤ 128))) && (decide ((a0.Digest.length : Int) ≤ 128))) && (decide ((a0.Data.length : Int) ≤ 1000)))) hv49 ?_
        refine wl_nil ?_
        refine qn ?_
        refine wc_ret ?_
        have h := Option.some.inj h
        subst h
        refine end1 rfl (.tmp rfl .nil) ?_
        exact ⟨_, rfl, fr40⟩
      · replace h := (if_neg c32).symm.trans h
        have b50 : t25 = false := Bool.eq_false_iff.2 c32
        refine wl_off (yl rfl rfl rfl) b50 ?_
        refine wl_off (yl rfl rfl rfl) b50 ?_
        refine wl_off (yl rfl rfl rfl) b50 ?_
        refine wl_pick_f t25 (.bool false) rfl b50 rfl ?_
        refine wl_move (.bool false) rfl ?_
        refine wl_off (yl rfl rfl rfl) rfl ?_
        refine wl_off (yl rfl rfl rfl) rfl ?_
        refine wl_off (yl rfl rfl rfl) rfl ?_
        refine wl_off (yl rfl rfl rfl) rfl ?_
        refine wl_pick_f false (.bool false) rfl rfl rfl ?_
        refine wl_move (.bool false) rfl ?_
        refine wl_off (yl rfl rfl rfl) rfl ?_
        refine wl_off (yl rfl rfl rfl) rfl ?_
        refine wl_off (yl rfl rfl rfl) rfl ?_
        refine wl_off (yl rfl rfl rfl) rfl ?_
        refine wl_pick_f false (.bool false) rfl rfl rfl ?_
        refine wl_move (.bool false) rfl ?_
        refine wl_off (yl rfl rfl rfl) rfl ?_
        refine wl_off (yl rfl rfl rfl) rfl ?_
        refine wl_off (yl rfl rfl rfl) rfl ?_
        refine wl_off (yl rfl rfl rfl) rfl ?_
        refine wl_pick_f false (.bool false) rfl rfl rfl ?_
        refine wl_assign (.bool false) rfl ?_
        refine wl_nil ?_
        refine qn ?_
        refine wc_ret ?_
        have h := Option.some.inj h
        subst h
        refine end1 rfl (.tmp rfl .nil) ?_
        exact ⟨_, rfl, fr31⟩
    · replace h := (if_neg c23).symm.trans h
      have b51 : t16 = false := Bool.eq_false_iff.2 c23
      refine wl_off (yl rfl rfl rfl) b51 ?_
      refine wl_off (yl rfl rfl rfl) b51 ?_
      refine wl_off (yl rfl rfl rfl) b51 ?_
      refine wl_pick_f t16 (.bool false) rfl b51 rfl ?_
      refine wl_move (.bool false) rfl ?_
      refine wl_off (yl rfl rfl rfl) rfl ?_
      refine wl_off (yl rfl rfl rfl) rfl ?_
      refine wl_off (yl rfl rfl rfl) rfl ?_
      refine wl_pick_f false (.bool false) rfl rfl rfl ?_
      refine wl_move (.bool false) rfl ?_
      refine wl_off (yl rfl rfl rfl) rfl ?_
      refine wl_off (yl rfl rfl rfl) rfl ?_
      refine wl_off (yl rfl rfl rfl) rfl ?_
      refine wl_off (yl rfl rfl rfl) rfl ?_
      refine wl_pick_f false (.bool false) rfl rfl rfl ?_
      refine wl_move (.bool false) rfl ?_
      refine wl_off (yl rfl rfl rfl) rfl ?_
      refine wl_off (yl rfl rfl rfl) rfl ?_
      refine wl_off (yl rfl rfl rfl) rfl ?_
      refine wl_off (yl rfl rfl rfl) rfl ?_
      refine wl_pick_f false (.bool false) rfl rfl rfl ?_
      refine wl_move (.bool false) rfl ?_
      refine wl_off (yl rfl rfl rfl) rfl ?_
      refine wl_off (yl rfl rfl rfl) rfl ?_
      refine wl_off (yl rfl rfl rfl) rfl ?_
      refine wl_off (yl rfl rfl rfl) rfl ?_
      refine wl_pick_f false (.bool false) rfl rfl rfl ?_
      refine wl_assign (.bool false) rfl ?_
      refine wl_nil ?_
      refine qn ?_
      refine wc_ret ?_
      have h := Option.some.inj h
      subst h
      refine end1 rfl (.tmp rfl .nil) ?_
      exact ⟨_, rfl, fr22⟩
  · replace h := (if_neg c14).symm.trans h
    have b52 : t7 = false := Bool.eq_false_iff.2 c14
    refine wl_off (yl rfl rfl rfl) b52 ?_
    refine wl_off (yl rfl rfl rfl) b52 ?_
    refine wl_off (yl rfl rfl rfl) b52 ?_
    refine wl_pick_f t7 (.bool false) rfl b52 rfl ?_
    refine wl_move (.bool false) rfl ?_
    refine wl_off (yl rfl rfl rfl) rfl ?_
    refine wl_off (yl rfl rfl rfl) rfl ?_
    refine wl_off (yl rfl rfl rfl) rfl ?_
    refine wl_pick_f false (.bool false) rfl rfl rfl ?_
    refine wl_move (.bool false) rfl ?_
    refine wl_off (yl rfl rfl rfl) rfl ?_
    refine wl_off (yl rfl rfl rfl) rfl ?_
    refine wl_off (yl rfl rfl rfl) rfl ?_
    refine wl_pick_f false (.bool false) rfl rfl rfl ?_
    refine wl_move (.bool false) rfl ?_
    refine wl_off (yl rfl rfl rfl) rfl ?_
    refine wl_off (yl rfl rfl rfl) rfl ?_
    refine wl_off (yl rfl rfl rfl) rfl ?_
    refine wl_off (yl rfl rfl rfl) rfl ?_
    refine wl_pick_f false (.bool false) rfl rfl rfl ?_
    refine wl_move (.bool false) rfl ?_
    refine wl_off (yl rfl rfl rfl) rfl ?_
    refine wl_off (yl rfl rfl rfl) rfl ?_
    refine wl_off (yl rfl rfl rfl) rfl ?_
    refine wl_off (yl rfl rfl rfl) rfl ?_
    refine wl_pick_f false (.bool false) rfl rfl rfl ?_
    refine wl_move (.bool false) rfl ?_
    refine wl_off (yl rfl rfl rfl) rfl ?_
    refine wl_off (yl rfl rfl rfl) rfl ?_
    refine wl_off (yl rfl rfl rfl) rfl ?_
    refine wl_off (yl rfl rfl rfl) rfl ?_
    refine wl_pick_f false (.bool false) rfl rfl rfl ?_
    refine wl_assign (.bool false) rfl ?_
    refine wl_nil ?_
    refine qn ?_
    refine wc_ret ?_
    have h := Option.some.inj h
    subst h
    refine end1 rfl (.tmp rfl .nil) ?_
    exact ⟨_, rfl, fr13⟩
/-! ### consignor/consignorref01.Wide: function 28 -/
def consignorref01_Wide.l0 : Nat → Int → Int → (List Int) → Int → Option (List UInt8)
  | 0, _, _, _, _ => none
  | k + 1, a1, x8, l10, x11 => if x11 < a1 then (if (l10.length + ([(IntKind.u8.wrap (Int.tmod x8 256))]).length) * 1 ≤ 140737488355328 then (consignorref01_Wide.l0 k a1 (IntKind.u64.wrap (Int.tdiv x8 256)) (l10 ++ ([(IntKind.u8.wrap (Int.tmod x8 256))])) (IntKind.i64.wrap (x11 + 1))) else none) else (some (ofInts l10))
def consignorref01_Wide.f (k : Nat) (a0 : Int) (a1 : Int) : Option (List UInt8) := consignorref01_Wide.l0 k a1 a0 [] 0
set_option maxHeartbeats 1000000 in
theorem consignorref01_Wide.ok (k : Nat) {w0 : World} {hw0 : Hw} (wf : Hwf w0 hw0) (a0 : Int) (a1 : Int) (r : (List UInt8)) (h : consignorref01_Wide.f k a0 a1 = some r) :
    Calls Tryd.prog 28 #[.int .u64 a0, .int .i64 a1] w0 fun e w' => ∃ (hw' : Hw), e = .returned (.string (bs r)) ∧ Stp none w0 hw0 w' hw' := by
  have fr0 := Stp.refl none (w := w0) (hw := hw0) wf
  unfold consignorref01_Wide.f at h
  refine enter (n := 23) Tryd.func28 rfl rfl (Nat.le_of_ble_eq_true rfl) ?_
  refine wc_seq ?_
  refine wc_region ?_
  refine wl_assign (.string (bs [])) rfl ?_
  refine wl_nil ?_
  refine qn ?_
  refine wc_seq ?_
  refine wc_region ?_
  have hb1 : ∀ w : World, (Instr.buildSlice 53 0 #[]).run Tryd.prog w = .ok (.slice (some ⟨w.heap.size, 0, none⟩) 0 0) (w.alloc (.cells (List.toArray []) 5)) := fun _ => by kernel_rfl
  refine wl_lit (KD := (Kint .u8)) fr0.wf [] [] (pn _ _) (hb1 _) rfl (by decide) rfl ?_
  intro v2 w3 hw4 O6 s5
  replace O6 := O6.low fr0.g.size
  have fr7 := fr0.then0 s5
  refine wl_assign (v2) rfl ?_
  refine wl_nil ?_
  refine qn ?_
  refine wc_seq ?_
  refine wc_seq ?_
  refine wc_region ?_
  refine wl_assign (.int .i64 0) rfl ?_
  refine wl_nil ?_
  refine qn ?_
  refine wc_block ?_
  refine wc_loop (fun m a w => ∃ (σ : Nat → Value) (hw : Hw) (kq : Nat) (x8 : Int) (v9 : Value) (l10 : (List Int)) (x11 : Int), a = mkA 23 σ ∧ kq ≤ m ∧ kq ≤ k ∧ Stp none w0 hw0 w hw ∧ Ext w3 hw4 w hw ∧ σ 0 = .int .u64 x8 ∧ σ 1 = .int .i64 a1 ∧ σ 5 = v9 ∧ σ 6 = .int .i64 x11 ∧ Own (Kint .u8) 5 w0.heap.size w hw v9 l10 ∧ consignorref01_Wide.l0 kq a1 x8 l10 x11 = some r) k ?_ ?_ ?_
  · skip
    exact ⟨_, _, _, a0, v2, [], 0, rfl, (Nat.le_refl _), (Nat.le_refl _), fr7, (Ext.refl _ _), rfl, rfl, rfl, rfl, O6, h⟩
  · rintro _ _ ⟨_, hw13, k14, x8, v9, l10, x11, rfl, hk17, hk18, fr15, e16, z19, z20, z21, z22, r23, h⟩; obtain rfl := Nat.le_zero.1 hk17; rw [consignorref01_Wide.l0] at h; cases h
  · rintro m0 _ w12 ⟨_, hw13, k14, x8, v9, l10, x11, rfl, hk17, hk18, fr15, e16, z19, z20, z21, z22, r23, h⟩
    rcases k14 with _ | k14
    · rw [consignorref01_Wide.l0] at h; cases h
    rw [consignorref01_Wide.l0] at h
    refine wc_seq ?_
    refine wc_seq ?_
    refine wc_region ?_
    refine wl_move (.int .i64 x11) z22 ?_
    refine wl_move (.int .i64 a1) z20 ?_
    refine wl_lss rfl rfl ?_
    refine wl_nil ?_
    refine qn ?_
    by_cases c24 : x11 < a1
    · replace h := (if_pos c24).symm.trans h
      have b25 : (decide (x11 < a1)) = true := decide_eq_true c24
      refine wc_then rfl b25 ?_
      refine wc_skip ?_
      refine qn ?_
      refine wc_seq ?_
      refine wc_block ?_
      refine wc_seq ?_
      refine wc_region ?_
      refine wl_move (v9) z21 ?_
      refine wl_move (.int .u64 x8) z19 ?_
      refine wl_rem rfl rfl (by decide) ?_
      refine wl_conv_int Tryd.underlying57 Tryd.underlying5 rfl ?_
      have hb26 : ∀ w : World, (Instr.buildSlice 53 1 #[(0, .int .u8 (IntKind.u8.wrap (Int.tmod x8 256)))]).run Tryd.prog w = .ok (.slice (some ⟨w.heap.size, 0, none⟩) 1 1) (w.alloc (.cells (List.toArray [.int .u8 (IntKind.u8.wrap (Int.tmod x8 256))]) 5)) := fun _ => by kernel_rfl
      refine wl_lit (KD := (Kint .u8)) fr15.wf [.int .u8 (IntKind.u8.wrap (Int.tmod x8 256))] [(IntKind.u8.wrap (Int.tmod x8 256))] (pc rfl (pn _ _)) (hb26 _) rfl (by decide) ⟨[.int .u8 (IntKind.u8.wrap (Int.tmod x8 256))], _, rfl, rfl, rfl⟩ ?_
      intro v27 w28 hw29 O31 s30
      have n32 := own_dis_new O31 r23
      replace O31 := O31.low fr15.g.size
      have fr33 := fr15.then0 s30
      by_cases c34 : (l10.length + ([(IntKind.u8.wrap (Int.tmod x8 256))]).length) * 1 ≤ 140737488355328
      · replace h := (if_pos c34).symm.trans h
        have c35 : l10.length + ([(IntKind.u8.wrap (Int.tmod x8 256))]).length ≤ 9223372036854775807 := by omega
        have O36 := (r23.step0 s30)
        refine wl_app Tryd.underlying53 ty5 rfl (by decide) fr33.wf O36 O31.row rfl rfl c35 c34 fr33.g.size ?_
        intro v37 w38 hw39 O41 s40 lo42
        have n43 := app_dis lo42 n32.symm O31
        have fr44 := fr33.then s40 (fun _ e => (O36.new _ e).1)
        refine wl_assign (v37) rfl ?_
        refine wl_nil ?_
        refine qn ?_
        refine wc_region ?_
        refine wl_move (.int .u64 x8) z19 ?_
        refine wl_quo rfl rfl (by decide) ?_
        refine wl_assign (.int .u64 (IntKind.u64.wrap (Int.tdiv x8 256))) rfl ?_
        refine wl_nil ?_
        refine bn ?_
        refine qn ?_
        refine wc_region ?_
        refine wl_move (.int .i64 x11) z22 ?_
        refine wl_add rfl rfl ?_
        refine wl_assign (.int .i64 (IntKind.i64.wrap (x11 + 1))) rfl ?_
        refine wl_nil ?_
        refine qn ?_
        exact ⟨_, _, _, (IntKind.u64.wrap (Int.tdiv x8 256)), v37, (l10 ++ ([(IntKind.u8.wrap (Int.tmod x8 256))])), (IntKind.i64.wrap (x11 + 1)), rfl, (by omega), (by omega), fr44, (Ext.trans e16 (Ext.trans s30.ext s40.ext)), rfl, z20, rfl, rfl, O41, h⟩
      · replace h := (if_neg c34).symm.trans h
        cases h
    · replace h := (if_neg c24).symm.trans h
      have b45 : (decide (x11 < a1)) = false := decide_eq_false c24
      refine wc_else rfl b45 ?_
      refine wc_exit ?_
      refine qe ?_
      refine qe ?_
      refine be ?_
      refine qn ?_
      refine wc_seq ?_
      refine wc_region ?_
      refine wl_move (v9) z21 ?_
      refine wl_conv_bytes Tryd.underlying53 Tryd.underlying5 Tryd.underlying9 r23.row rfl ?_
      refine wl_assign (.string (bs (ofInts l10))) rfl ?_
      refine wl_nil ?_
      refine qn ?_
      refine wc_ret ?_
      have h := Option.some.inj h
      subst h
      refine end1 rfl (.tmp rfl .nil) ?_
      exact ⟨_, rfl, fr15⟩
/-! ### consignor/consignorref01.Bind: function 20 -/
def consignorref01_Bind.l0 : Nat → (List (List UInt8)) → List UInt8 → Int → Option (List UInt8)
  | 0, _, _, _ => none
  | k + 1, a0, x4, x5 => if x5 < (a0.length : Int) then (if 0 ≤ x5 then ((a0[Int.toNat x5]?).bind fun t20 => ((consignorref01_Wide.f k (IntKind.u64.wrap (t20.length : Int)) 2).bind fun t29 => (if x4.length + t29.length ≤ 9223372036854775807 then (if (x4 ++ t29).length + t20.length ≤ 9223372036854775807 then (consignorref01_Bind.l0 k a0 ((x4 ++ t29) ++ t20) (IntKind.i64.wrap (x5 + 1))) else none) else none))) else none) else (some x4)
def consignorref01_Bind.f (k : Nat) (a0 : (List (List UInt8))) : Option (List UInt8) := consignorref01_Bind.l0 k a0 [] 0
set_option maxHeartbeats 1000000 in
theorem consignorref01_Bind.ok (k : Nat) {w0 : World} {hw0 : Hw} (wf : Hwf w0 hw0) (a0 : (List (List UInt8))) (v0_ : Value) (q0 : Row Kstr w0 hw0 v0_ a0) (r : (List UInt8)) (h : consignorref01_Bind.f k a0 = some r) :
    Calls Tryd.prog 20 #[v0_] w0 fun e w' => ∃ (hw' : Hw), e = .returned (.string (bs r)) ∧ Stp none w0 hw0 w' hw' := by
  have fr0 := Stp.refl none (w := w0) (hw := hw0) wf
  unfold consignorref01_Bind.f at h
  refine enter (n := 22) Tryd.func20 rfl rfl (Nat.le_of_ble_eq_true rfl) ?_
  refine wc_seq ?_
  refine wc_region ?_
  refine wl_assign (.string (bs [])) rfl ?_
  refine wl_nil ?_
  refine qn ?_
  refine wc_seq ?_
  refine wc_region ?_
  refine wl_assign (.string (bs [])) rfl ?_
  refine wl_nil ?_
  refine qn ?_
  refine wc_seq ?_
  refine wc_seq ?_
  refine wc_region ?_
  refine wl_move (v0_) rfl ?_
  obtain ⟨A1, c2, hv3⟩ := (q0).slice
  refine wl_len Tryd.underlying44 (show _ = Value.slice _ a0.length _ from (Eq.trans rfl hv3)) ?_
  refine wl_move (.int .i64 0) rfl ?_
  refine wl_nil ?_
  refine qn ?_
  refine wc_block ?_
  refine wc_loop (fun m a w => ∃ (σ : Nat → Value) (hw : Hw) (kq : Nat) (x4 : List UInt8) (x5 : Int), a = mkA 22 σ ∧ kq ≤ m ∧ kq ≤ k ∧ Stp none w0 hw0 w hw ∧ Ext w0 hw0 w hw ∧ σ 3 = .string (bs x4) ∧ σ 6 = v0_ ∧ σ 7 = .int .i64 (a0.length : Int) ∧ σ 8 = .int .i64 x5 ∧ consignorref01_Bind.l0 kq a0 x4 x5 = some r) k ?_ ?_ ?_
  · skip
    exact ⟨_, _, _, [], 0, rfl, (Nat.le_refl _), (Nat.le_refl _), fr0, (Ext.refl _ _), rfl, rfl, rfl, rfl, h⟩
  · rintro _ _ ⟨_, hw7, k8, x4, x5, rfl, hk11, hk12, fr9, e10, z13, z14, z15, z16, h⟩; obtain rfl := Nat.le_zero.1 hk11; rw [consignorref01_Bind.l0] at h; cases h
  · rintro m0 _ w6 ⟨_, hw7, k8, x4, x5, rfl, hk11, hk12, fr9, e10, z13, z14, z15, z16, h⟩
    rcases k8 with _ | k8
    · rw [consignorref01_Bind.l0] at h; cases h
    rw [consignorref01_Bind.l0] at h
    refine wc_seq ?_
    refine wc_region ?_
    refine wl_lss z16 z15 ?_
    refine wl_nil ?_
    refine qn ?_
    refine wc_seq ?_
    by_cases c17 : x5 < (a0.length : Int)
    · replace h := (if_pos c17).symm.trans h
      have b18 : (decide (x5 < (a0.length : Int))) = true := decide_eq_true c17
      refine wc_then rfl b18 ?_
      refine wc_skip ?_
      refine qn ?_
      refine wc_seq ?_
      refine wc_block ?_
      refine wc_seq ?_
      refine wc_region ?_
      by_cases c19 : 0 ≤ x5
      · replace h := (if_pos c19).symm.trans h
        obtain ⟨t20, h21, h⟩ := Option.bind_eq_some_iff.1 h
        have c22 := at_lt c19 h21
        have f28 := q0.ext (e10)
        refine wl_at Tryd.underlying44 ty9 f28 z14 z16 c19 c22 t20 h21 ?_
        rintro B23 o24 cs25 rfl l27
        refine wl_load1 ty9 rfl (.string (bs t20)) (l27.2 0 _ rfl) ?_
        refine wl_assign (.string (bs t20)) rfl ?_
        refine wl_nil ?_
        refine qn ?_
        refine wc_region ?_
        refine wl_move (.string (bs x4)) z13 ?_
        refine wl_move (.string (bs t20)) rfl ?_
        refine wl_lens Tryd.underlying9 rfl ?_
        refine wl_conv_int Tryd.underlying3 Tryd.underlying57 rfl ?_
        obtain ⟨t29, h30, h⟩ := Option.bind_eq_some_iff.1 h
        refine wl_call [.int .u64 (IntKind.u64.wrap (t20.length : Int)), .int .i64 2] bod28 (mc rfl (mc rfl (mn _))) (consignorref01_Wide.ok k8 fr9.wf (IntKind.u64.wrap (t20.length : Int)) 2 _ h30) ?_
        rintro e31 w32 ⟨hw33, rfl, s34⟩
        refine ⟨_, rfl, ?_⟩
        have fr35 := fr9.then0 s34
        by_cases c36 : x4.length + t29.length ≤ 9223372036854775807
        · replace h := (if_pos c36).symm.trans h
          refine wl_adds rfl rfl c36 ?_
          refine wl_move (.string (bs t20)) rfl ?_
          by_cases c37 : (x4 ++ t29).length + t20.length ≤ 9223372036854775807
          · replace h := (if_pos c37).symm.trans h
            refine wl_adds rfl rfl c37 ?_
            refine wl_assign (.string (bs ((x4 ++ t29) ++ t20))) rfl ?_
            refine wl_nil ?_
            refine bn ?_
            refine qn ?_
            refine wc_region ?_
            refine wl_add z16 rfl ?_
            refine wl_move (.int .i64 (IntKind.i64.wrap (x5 + 1))) rfl ?_
            refine wl_nil ?_
            refine qn ?_
            exact ⟨_, _, _, ((x4 ++ t29) ++ t20), (IntKind.i64.wrap (x5 + 1)), rfl, (by omega), (by omega), fr35, (Ext.trans e10 s34.ext), rfl, z14, z15, rfl, h⟩
          · replace h := (if_neg c37).symm.trans h
            cases h
        · replace h := (if_neg c36).symm.trans h
          cases h
      · replace h := (if_neg c19).symm.trans h
        cases h
    · replace h := (if_neg c17).symm.trans h
      have b38 : (decide (x5 < (a0.length : Int))) = false := decide_eq_false c17
      refine wc_else rfl b38 ?_
      refine wc_exit ?_
      refine qe ?_
      refine qe ?_
      refine be ?_
      refine qn ?_
      refine wc_seq ?_
      refine wc_region ?_
      refine wl_move (.string (bs x4)) z13 ?_
      refine wl_assign (.string (bs x4)) rfl ?_
      refine wl_nil ?_
      refine qn ?_
      refine wc_ret ?_
      have h := Option.some.inj h
      subst h
      refine end1 rfl (.tmp rfl .nil) ?_
      exact ⟨_, rfl, fr9⟩
/-! ### consignor/consignorref21.wide: function 21 -/
def consignorref21_wide.f (k : Nat) (a0 : Int) : Option (List UInt8) := (consignorref01_Wide.f k (IntKind.u64.wrap a0) 8).bind fun t1 => (some t1)
set_option maxHeartbeats 1000000 in
theorem consignorref21_wide.ok (k : Nat) {w0 : World} {hw0 : Hw} (wf : Hwf w0 hw0) (a0 : Int) (r : (List UInt8)) (h : consignorref21_wide.f k a0 = some r) :
    Calls Tryd.prog 21 #[.int .i64 a0] w0 fun e w' => ∃ (hw' : Hw), e = .returned (.string (bs r)) ∧ Stp none w0 hw0 w' hw' := by
  have fr0 := Stp.refl none (w := w0) (hw := hw0) wf
  unfold consignorref21_wide.f at h
  refine enter (n := 6) Tryd.func21 rfl rfl (Nat.le_of_ble_eq_true rfl) ?_
  refine wc_seq ?_
  refine wc_region ?_
  refine wl_assign (.string (bs [])) rfl ?_
  refine wl_nil ?_
  refine qn ?_
  refine wc_seq ?_
  refine wc_region ?_
  refine wl_move (.int .i64 a0) rfl ?_
  refine wl_conv_int Tryd.underlying3 Tryd.underlying57 rfl ?_
  obtain ⟨t1, h2, h⟩ := Option.bind_eq_some_iff.1 h
  refine wl_call [.int .u64 (IntKind.u64.wrap a0), .int .i64 8] bod28 (mc rfl (mc rfl (mn _))) (consignorref01_Wide.ok k fr0.wf (IntKind.u64.wrap a0) 8 _ h2) ?_
  rintro e3 w4 ⟨hw5, rfl, s6⟩
  refine ⟨_, rfl, ?_⟩
  have fr7 := fr0.then0 s6
  refine wl_assign (.string (bs t1)) rfl ?_
  refine wl_nil ?_
  refine qn ?_
  refine wc_ret ?_
  have h := Option.some.inj h
  subst h
  refine end1 rfl (.tmp rfl .nil) ?_
  exact ⟨_, rfl, fr7⟩
/-! ### consignor/consignorref21.Ask: function 10 -/
def consignorref21_Ask.f (k : Nat) (a0 : ApiAsk) : Option (List UInt8) := (consignorref21_wide.f k a0.Id).bind fun t11 => ((consignorref21_wide.f k a0.Kind).bind fun t19 => ((consignorref21_wide.f k a0.Upload).bind fun t27 => ((consignorref21_wide.f k a0.Offset).bind fun t35 => ((consignorref01_Bind.f k ([([97, 115, 107] : List UInt8), t11, t19, t27, t35, a0.Repo, a0.Digest, a0.Data])).bind fun t51 => (some t51)))))
set_option maxHeartbeats 1000000 in
theorem consignorref21_Ask.ok (k : Nat) {w0 : World} {hw0 : Hw} (wf : Hwf w0 hw0) (a0 : ApiAsk) (r : (List UInt8)) (h : consignorref21_Ask.f k a0 = some r) :
    Calls Tryd.prog 10 #[.agg #[.int .i64 a0.Id, .int .i64 a0.Kind, .string (bs a0.Repo), .string (bs a0.Digest), .int .i64 a0.Upload, .int .i64 a0.Offset, .string (bs a0.Data)]] w0 fun e w' => ∃ (hw' : Hw), e = .returned (.string (bs r)) ∧ Stp none w0 hw0 w' hw' := by
  have fr0 := Stp.refl none (w := w0) (hw := hw0) wf
  unfold consignorref21_Ask.f at h
  refine enter (n := 23) Tryd.func10 rfl rfl (Nat.le_of_ble_eq_true rfl) ?_
  refine wc_seq ?_
  refine wc_region ?_
  refine wl_box fr0.wf fr0.g.size [.int .i64 a0.Id, .int .i64 a0.Kind, .string (bs a0.Repo), .string (bs a0.Digest), .int .i64 a0.Upload, .int .i64 a0.Offset, .string (bs a0.Data)] (cells_of (v := (.agg #[.int .i64 a0.Id, .int .i64 a0.Kind, .string (bs a0.Repo), .string (bs a0.Digest), .int .i64 a0.Upload, .int .i64 a0.Offset, .string (bs a0.Data)])) rfl rfl) ?_
  intro b1 w2 s3 B4 g5
  have fr6 := fr0.then0 s3
  refine wl_assign (.string (bs [])) rfl ?_
  refine wl_nil ?_
  refine qn ?_
  refine wc_seq ?_
  have s7 := Stp.drew (w := w2) (hw := hw0) fr6.wf
  have fr8 := fr6.then0 s7
  have B9 := (B4.step0 s7)
  obtain ⟨t11, h12, h⟩ := Option.bind_eq_some_iff.1 h
  obtain ⟨t19, h20, h⟩ := Option.bind_eq_some_iff.1 h
  obtain ⟨t27, h28, h⟩ := Option.bind_eq_some_iff.1 h
  obtain ⟨t35, h36, h⟩ := Option.bind_eq_some_iff.1 h
  obtain ⟨t51, h52, h⟩ := Option.bind_eq_some_iff.1 h
  refine wc_any (hw := hw0) mixed [[], [0], [1], [], [3], [4, 2], [], [6], [7, 5], [], [9], [10, 8], [], [12], [], [14], [], [16], [2, 5, 8, 11, 13, 15, 17], [18, 11], [19, 19, 0, 1, 2, 3, 4, 5, 6, 7, 8, 9, 10, 11, 12, 13, 14, 15, 16, 17, 18, 19]] [3, 4, 5, 6, 7, 8, 9, 10, 11, 12, 13, 14, 15, 16, 17, 18, 19, 20, 21, 22, 2] (by kernel_rfl) (PhiOf [fun v w hw => v = .pointer (some ⟨b1, 0, none⟩), fun v w hw => v = .int .i64 a0.Id, fun v w hw => v = .string (bs t11), fun v w hw => v = .pointer (some ⟨b1, 1, none⟩), fun v w hw => v = .int .i64 a0.Kind, fun v w hw => v = .string (bs t19), fun v w hw => v = .pointer (some ⟨b1, 4, none⟩), fun v w hw => v = .int .i64 a0.Upload, fun v w hw => v = .string (bs t27), fun v w hw => v = .pointer (some ⟨b1, 5, none⟩), fun v w hw => v = .int .i64 a0.Offset, fun v w hw => v = .string (bs t35), fun v w hw => v = .pointer (some ⟨b1, 2, none⟩), fun v w hw => v = .string (bs a0.Repo), fun v w hw => v = .pointer (some ⟨b1, 3, none⟩), fun v w hw => v = .string (bs a0.Digest), fun v w hw => v = .pointer (some ⟨b1, 6, none⟩), fun v w hw => v = .string (bs a0.Data), fun v w hw => Row Kstr w hw v ([([97, 115, 107] : List UInt8), t11, t19, t27, t35, a0.Repo, a0.Digest, a0.Data]), fun v w hw => v = .string (bs t51), fun v w hw => v = .string (bs t51)]) (fun D σ w hw => Stp none w0 hw0 w hw ∧ Ext (w2).drew hw0 w hw ∧ Box w0.heap.size w hw b1 23 [.int .i64 a0.Id, .int .i64 a0.Kind, .string (bs a0.Repo), .string (bs a0.Digest), .int .i64 a0.Upload, .int .i64 a0.Offset, .string (bs a0.Data)]) (stab_of (sbc (fun _ _ _ _ _ _ h => h) (sbc (fun _ _ _ _ _ _ h => h) (sbc (fun _ _ _ _ _ _ h => h) (sbc (fun _ _ _ _ _ _ h => h) (sbc (fun _ _ _ _ _ _ h => h) (sbc (fun _ _ _ _ _ _ h => h) (sbc (fun _ _ _ _ _ _ h => h) (sbc (fun _ _ _ _ _ _ h => h) (sbc (fun _ _ _ _ _ _ h => h) (sbc (fun _ _ _ _ _ _ h => h) (sbc (fun _ _ _ _ _ _ h => h) (sbc (fun _ _ _ _ _ _ h => h) (sbc (fun _ _ _ _ _ _ h => h) (sbc (fun _ _ _ _ _ _ h => h) (sbc (fun _ _ _ _ _ _ h => h) (sbc (fun _ _ _ _ _ _ h => h) (sbc (fun _ _ _ _ _ _ h => h) (sbc (fun _ _ _ _ _ _ h => h) (sbc (fun _ _ _ _ _ e h => Row.ext e h) (sbc (fun _ _ _ _ _ _ h => h) (sbc (fun _ _ _ _ _ _ h => h) sbn)))))))))))))))))))))) ?_ (stc ?_ (stc ?_ (stc ?_ (stc ?_ (stc ?_ (stc ?_ (stc ?_ (stc ?_ (stc ?_ (stc ?_ (stc ?_ (stc ?_ (stc ?_ (stc ?_ (stc ?_ (stc ?_ (stc ?_ (stc ?_ (stc ?_ (stc ?_ (stc ?_ stn))))))))))))))))))))) ?_
  · exact ⟨fr8, Ext.refl _ _, B9⟩
  · intro D59 σ60 w61 hw62 q63 q64 q65 q66 q67 q68
    obtain ⟨fr69, e70, C71⟩ := q63
    refine wl_field fld23_0 ((q66 1 rfl).trans rfl) ?_
    refine wl_nil ?_
    exact qn ⟨_, _, rfl, (Ext.refl _ _), ⟨fr69, e70.trans (Ext.refl _ _), C71⟩, (aft_some rfl)⟩
  · intro D72 σ73 w74 hw75 q76 q77 q78 q79 q80 q81
    obtain ⟨fr82, e83, C84⟩ := q76
    obtain ⟨⟨_, m85⟩, _⟩ := q78
    have z86 : (σ73 3) = .pointer (some ⟨b1, 0, none⟩) := m85
    refine wl_loadb1 C84 ty3 z86 (.int .i64 a0.Id) rfl ?_
    refine wl_nil ?_
    exact qn ⟨_, _, rfl, (Ext.refl _ _), ⟨fr82, e83.trans (Ext.refl _ _), C84⟩, (aft_some rfl)⟩
  · intro D87 σ88 w89 hw90 q91 q92 q93 q94 q95 q96
    obtain ⟨fr97, e98, C99⟩ := q91
    obtain ⟨⟨_, m100⟩, _⟩ := q93
    have z101 : (σ88 4) = .int .i64 a0.Id := m100
    refine wl_call [.int .i64 a0.Id] bod21 (mc z101 (mn _)) (consignorref21_wide.ok k fr97.wf a0.Id _ h12) ?_
    rintro e102 w103 ⟨hw104, rfl, s105⟩
    refine ⟨_, rfl, ?_⟩
    have fr106 := fr97.then0 s105
    refine wl_nil ?_
    have B107 := (C99.step0 s105)
    exact qn ⟨_, _, rfl, s105.ext, ⟨fr106, e98.trans s105.ext, B107⟩, (aft_some rfl)⟩
  · intro D108 σ109 w110 hw111 q112 q113 q114 q115 q116 q117
    obtain ⟨fr118, e119, C120⟩ := q112
    refine wl_field fld23_1 ((q115 1 rfl).trans rfl) ?_
    refine wl_nil ?_
    exact qn ⟨_, _, rfl, (Ext.refl _ _), ⟨fr118, e119.trans (Ext.refl _ _), C120⟩, (aft_some rfl)⟩
  · intro D121 σ122 w123 hw124 q125 q126 q127 q128 q129 q130
    obtain ⟨fr131, e132, C133⟩ := q125
    obtain ⟨⟨_, m134⟩, _⟩ := q127
    have z135 : (σ122 6) = .pointer (some ⟨b1, 1, none⟩) := m134
    refine wl_loadb1 C133 ty3 z135 (.int .i64 a0.Kind) rfl ?_
    refine wl_nil ?_
    exact qn ⟨_, _, rfl, (Ext.refl _ _), ⟨fr131, e132.trans (Ext.refl _ _), C133⟩, (aft_some rfl)⟩
  · intro D136 σ137 w138 hw139 q140 q141 q142 q143 q144 q145
    obtain ⟨fr146, e147, C148⟩ := q140
    obtain ⟨⟨_, m149⟩, ⟨_, m150⟩, _⟩ := q142
    have z151 : (σ137 7) = .int .i64 a0.Kind := m149
    have z152 : (σ137 5) = .string (bs t11) := m150
    refine wl_call [.int .i64 a0.Kind] bod21 (mc z151 (mn _)) (consignorref21_wide.ok k fr146.wf a0.Kind _ h20) ?_
    rintro e153 w154 ⟨hw155, rfl, s156⟩
    refine ⟨_, rfl, ?_⟩
    have fr157 := fr146.then0 s156
    refine wl_nil ?_
    have B158 := (C148.step0 s156)
    exact qn ⟨_, _, rfl, s156.ext, ⟨fr157, e147.trans s156.ext, B158⟩, (aft_some rfl)⟩
  · intro D159 σ160 w161 hw162 q163 q164 q165 q166 q167 q168
    obtain ⟨fr169, e170, C171⟩ := q163
    refine wl_field fld23_4 ((q166 1 rfl).trans rfl) ?_
    refine wl_nil ?_
    exact qn ⟨_, _, rfl, (Ext.refl _ _), ⟨fr169, e170.trans (Ext.refl _ _), C171⟩, (aft_some rfl)⟩
  · intro D172 σ173 w174 hw175 q176 q177 q178 q179 q180 q181
    obtain ⟨fr182, e183, C184⟩ := q176
    obtain ⟨⟨_, m185⟩, _⟩ := q178
    have z186 : (σ173 9) = .pointer (some ⟨b1, 4, none⟩) := m185
    refine wl_loadb1 C184 ty3 z186 (.int .i64 a0.Upload) rfl ?_
    refine wl_nil ?_
    exact qn ⟨_, _, rfl, (Ext.refl _ _), ⟨fr182, e183.trans (Ext.refl _ _), C184⟩, (aft_some rfl)⟩
  · intro D187 σ188 w189 hw190 q191 q192 q193 q194 q195 q196
    obtain ⟨fr197, e198, C199⟩ := q191
    obtain ⟨⟨_, m200⟩, ⟨_, m201⟩, _⟩ := q193
    have z202 : (σ188 10) = .int .i64 a0.Upload := m200
    have z203 : (σ188 8) = .string (bs t19) := m201
    refine wl_call [.int .i64 a0.Upload] bod21 (mc z202 (mn _)) (consignorref21_wide.ok k fr197.wf a0.Upload _ h28) ?_
    rintro e204 w205 ⟨hw206, rfl, s207⟩
    refine ⟨_, rfl, ?_⟩
    have fr208 := fr197.then0 s207
    refine wl_nil ?_
    have B209 := (C199.step0 s207)
    exact qn ⟨_, _, rfl, s207.ext, ⟨fr208, e198.trans s207.ext, B209⟩, (aft_some rfl)⟩
  · intro D210 σ211 w212 hw213 q214 q215 q216 q217 q218 q219
    obtain ⟨fr220, e221, C222⟩ := q214
    refine wl_field fld23_5 ((q217 1 rfl).trans rfl) ?_
    refine wl_nil ?_
    exact qn ⟨_, _, rfl, (Ext.refl _ _), ⟨fr220, e221.trans (Ext.refl _ _), C222⟩, (aft_some rfl)⟩
  · intro D223 σ224 w225 hw226 q227 q228 q229 q230 q231 q232
    obtain ⟨fr233, e234, C235⟩ := q227
    obtain ⟨⟨_, m236⟩, _⟩ := q229
    have z237 : (σ224 12) = .pointer (some ⟨b1, 5, none⟩) := m236
    refine wl_loadb1 C235 ty3 z237 (.int .i64 a0.Offset) rfl ?_
    refine wl_nil ?_
    exact qn ⟨_, _, rfl, (Ext.refl _ _), ⟨fr233, e234.trans (Ext.refl _ _), C235⟩, (aft_some rfl)⟩
  · intro D238 σ239 w240 hw241 q242 q243 q244 q245 q246 q247
    obtain ⟨fr248, e249, C250⟩ := q242
    obtain ⟨⟨_, m251⟩, ⟨_, m252⟩, _⟩ := q244
    have z253 : (σ239 13) = .int .i64 a0.Offset := m251
    have z254 : (σ239 11) = .string (bs t27) := m252
    refine wl_call [.int .i64 a0.Offset] bod21 (mc z253 (mn _)) (consignorref21_wide.ok k fr248.wf a0.Offset _ h36) ?_
    rintro e255 w256 ⟨hw257, rfl, s258⟩
    refine ⟨_, rfl, ?_⟩
    have fr259 := fr248.then0 s258
    refine wl_nil ?_
    have B260 := (C250.step0 s258)
    exact qn ⟨_, _, rfl, s258.ext, ⟨fr259, e249.trans s258.ext, B260⟩, (aft_some rfl)⟩
  · intro D261 σ262 w263 hw264 q265 q266 q267 q268 q269 q270
    obtain ⟨fr271, e272, C273⟩ := q265
    refine wl_field fld23_2 ((q268 1 rfl).trans rfl) ?_
    refine wl_nil ?_
    exact qn ⟨_, _, rfl, (Ext.refl _ _), ⟨fr271, e272.trans (Ext.refl _ _), C273⟩, (aft_some rfl)⟩
  · intro D274 σ275 w276 hw277 q278 q279 q280 q281 q282 q283
    obtain ⟨fr284, e285, C286⟩ := q278
    obtain ⟨⟨_, m287⟩, _⟩ := q280
    have z288 : (σ275 15) = .pointer (some ⟨b1, 2, none⟩) := m287
    refine wl_loadb1 C286 ty9 z288 (.string (bs a0.Repo)) rfl ?_
    refine wl_nil ?_
    exact qn ⟨_, _, rfl, (Ext.refl _ _), ⟨fr284, e285.trans (Ext.refl _ _), C286⟩, (aft_some rfl)⟩
  · intro D289 σ290 w291 hw292 q293 q294 q295 q296 q297 q298
    obtain ⟨fr299, e300, C301⟩ := q293
    refine wl_field fld23_3 ((q296 1 rfl).trans rfl) ?_
    refine wl_nil ?_
    exact qn ⟨_, _, rfl, (Ext.refl _ _), ⟨fr299, e300.trans (Ext.refl _ _), C301⟩, (aft_some rfl)⟩
  · intro D302 σ303 w304 hw305 q306 q307 q308 q309 q310 q311
    obtain ⟨fr312, e313, C314⟩ := q306
    obtain ⟨⟨_, m315⟩, _⟩ := q308
    have z316 : (σ303 17) = .pointer (some ⟨b1, 3, none⟩) := m315
    refine wl_loadb1 C314 ty9 z316 (.string (bs a0.Digest)) rfl ?_
    refine wl_nil ?_
    exact qn ⟨_, _, rfl, (Ext.refl _ _), ⟨fr312, e313.trans (Ext.refl _ _), C314⟩, (aft_some rfl)⟩
  · intro D317 σ318 w319 hw320 q321 q322 q323 q324 q325 q326
    obtain ⟨fr327, e328, C329⟩ := q321
    refine wl_field fld23_6 ((q324 1 rfl).trans rfl) ?_
    refine wl_nil ?_
    exact qn ⟨_, _, rfl, (Ext.refl _ _), ⟨fr327, e328.trans (Ext.refl _ _), C329⟩, (aft_some rfl)⟩
  · intro D330 σ331 w332 hw333 q334 q335 q336 q337 q338 q339
    obtain ⟨fr340, e341, C342⟩ := q334
    obtain ⟨⟨_, m343⟩, _⟩ := q336
    have z344 : (σ331 19) = .pointer (some ⟨b1, 6, none⟩) := m343
    refine wl_loadb1 C342 ty9 z344 (.string (bs a0.Data)) rfl ?_
    refine wl_nil ?_
    exact qn ⟨_, _, rfl, (Ext.refl _ _), ⟨fr340, e341.trans (Ext.refl _ _), C342⟩, (aft_some rfl)⟩
  · intro D345 σ346 w347 hw348 q349 q350 q351 q352 q353 q354
    obtain ⟨fr355, e356, C357⟩ := q349
    obtain ⟨⟨_, m358⟩, ⟨_, m359⟩, ⟨_, m360⟩, ⟨_, m361⟩, ⟨_, m362⟩, ⟨_, m363⟩, ⟨_, m364⟩, _⟩ := q351
    have z365 : (σ346 5) = .string (bs t11) := m358
    have z366 : (σ346 8) = .string (bs t19) := m359
    have z367 : (σ346 11) = .string (bs t27) := m360
    have z368 : (σ346 14) = .string (bs t35) := m361
    have z369 : (σ346 16) = .string (bs a0.Repo) := m362
    have z370 : (σ346 18) = .string (bs a0.Digest) := m363
    have z371 : (σ346 20) = .string (bs a0.Data) := m364
    have hb372 : ∀ w : World, (Instr.buildSlice 44 8 #[(0, .string (bs ([97, 115, 107] : List UInt8))), (1, .string (bs t11)), (2, .string (bs t19)), (3, .string (bs t27)), (4, .string (bs t35)), (5, .string (bs a0.Repo)), (6, .string (bs a0.Digest)), (7, .string (bs a0.Data))]).run Tryd.prog w = .ok (.slice (some ⟨w.heap.size, 0, none⟩) 8 8) (w.alloc (.cells (List.toArray [.string (bs ([97, 115, 107] : List UInt8)), .string (bs t11), .string (bs t19), .string (bs t27), .string (bs t35), .string (bs a0.Repo), .string (bs a0.Digest), .string (bs a0.Data)]) 9)) := fun _ => by kernel_rfl
    refine wl_lit (KD := Kstr) fr355.wf [.string (bs ([97, 115, 107] : List UInt8)), .string (bs t11), .string (bs t19), .string (bs t27), .string (bs t35), .string (bs a0.Repo), .string (bs a0.Digest), .string (bs a0.Data)] [([97, 115, 107] : List UInt8), t11, t19, t27, t35, a0.Repo, a0.Digest, a0.Data] (pc rfl (pc z365 (pc z366 (pc z367 (pc z368 (pc z369 (pc z370 (pc z371 (pn _ _))))))))) (hb372 _) rfl (by decide) ⟨[.string (bs ([97, 115, 107] : List UInt8))], _, rfl, rfl, ⟨[.string (bs t11)], _, rfl, rfl, ⟨[.string (bs t19)], _, rfl, rfl, ⟨[.string (bs t27)], _, rfl, rfl, ⟨[.string (bs t35)], _, rfl, rfl, ⟨[.string (bs a0.Repo)], _, rfl, rfl, ⟨[.string (bs a0.Digest)], _, rfl, rfl, ⟨[.string (bs a0.Data)], _, rfl, rfl, rfl⟩⟩⟩⟩⟩⟩⟩⟩ ?_
    intro v373 w374 hw375 O377 s376
    have n378 := own_new_lt O377 C357.lt
    replace O377 := O377.low fr355.g.size
    have fr379 := fr355.then0 s376
    refine wl_nil ?_
    have B380 := (C357.step0 s376)
    exact qn ⟨_, _, rfl, s376.ext, ⟨fr379, e356.trans s376.ext, B380⟩, (aft_some O377.row)⟩
  · intro D381 σ382 w383 hw384 q385 q386 q387 q388 q389 q390
    obtain ⟨fr391, e392, C393⟩ := q385
    obtain ⟨⟨_, m394⟩, ⟨_, m395⟩, _⟩ := q387
    have f396 : Row Kstr w383 hw384 (σ382 21) ([([97, 115, 107] : List UInt8), t11, t19, t27, t35, a0.Repo, a0.Digest, a0.Data]) := m394
    have z397 : (σ382 14) = .string (bs t35) := m395
    refine wl_call [(σ382 21)] bod20 (mc rfl (mn _)) (consignorref01_Bind.ok k fr391.wf ([([97, 115, 107] : List UInt8), t11, t19, t27, t35, a0.Repo, a0.Digest, a0.Data]) (σ382 21) f396 _ h52) ?_
    rintro e398 w399 ⟨hw400, rfl, s401⟩
    refine ⟨_, rfl, ?_⟩
    have fr402 := fr391.then0 s401
    refine wl_nil ?_
    have B403 := (C393.step0 s401)
    exact qn ⟨_, _, rfl, s401.ext, ⟨fr402, e392.trans s401.ext, B403⟩, (aft_some rfl)⟩
  · intro D404 σ405 w406 hw407 q408 q409 q410 q411 q412 q413
    obtain ⟨fr414, e415, C416⟩ := q408
    obtain ⟨⟨_, m417⟩, ⟨_, m418⟩, ⟨_, m419⟩, ⟨_, m420⟩, ⟨_, m421⟩, ⟨_, m422⟩, ⟨_, m423⟩, ⟨_, m424⟩, ⟨_, m425⟩, ⟨_, m426⟩, ⟨_, m427⟩, ⟨_, m428⟩, ⟨_, m429⟩, ⟨_, m430⟩, ⟨_, m431⟩, ⟨_, m432⟩, ⟨_, m433⟩, ⟨_, m434⟩, ⟨_, m435⟩, ⟨_, m436⟩, ⟨_, m437⟩, ⟨_, m438⟩, _⟩ := q410
    have z439 : (σ405 22) = .string (bs t51) := m417
    have z440 : (σ405 3) = .pointer (some ⟨b1, 0, none⟩) := m419
    have z441 : (σ405 4) = .int .i64 a0.Id := m420
    have z442 : (σ405 5) = .string (bs t11) := m421
    have z443 : (σ405 6) = .pointer (some ⟨b1, 1, none⟩) := m422
    have z444 : (σ405 7) = .int .i64 a0.Kind := m423
    have z445 : (σ405 8) = .string (bs t19) := m424
    have z446 : (σ405 9) = .pointer (some ⟨b1, 4, none⟩) := m425
    have z447 : (σ405 10) = .int .i64 a0.Upload := m426
    have z448 : (σ405 11) = .string (bs t27) := m427
    have z449 : (σ405 12) = .pointer (some ⟨b1, 5, none⟩) := m428
    have z450 : (σ405 13) = .int .i64 a0.Offset := m429
    have z451 : (σ405 14) = .string (bs t35) := m430
    have z452 : (σ405 15) = .pointer (some ⟨b1, 2, none⟩) := m431
    have z453 : (σ405 16) = .string (bs a0.Repo) := m432
    have z454 : (σ405 17) = .pointer (some ⟨b1, 3, none⟩) := m433
    have z455 : (σ405 18) = .string (bs a0.Digest) := m434
    have z456 : (σ405 19) = .pointer (some ⟨b1, 6, none⟩) := m435
    have z457 : (σ405 20) = .string (bs a0.Data) := m436
    have f458 : Row Kstr w406 hw407 (σ405 21) ([([97, 115, 107] : List UInt8), t11, t19, t27, t35, a0.Repo, a0.Digest, a0.Data]) := m437
    refine wl_assign (.string (bs t51)) z439 ?_
    refine wl_nil ?_
    exact qn ⟨_, _, rfl, (Ext.refl _ _), ⟨fr414, e415.trans (Ext.refl _ _), C416⟩, (aft_some rfl)⟩
  · intro σ459 w460 hw461 q462 q463 q464
    obtain ⟨fr465, e466, C467⟩ := q462
    obtain ⟨m468, m469, m470, m471, m472, m473, m474, m475, m476, m477, m478, m479, m480, m481, m482, m483, m484, m485, m486, m487, m488, _⟩ := q464
    have f489 : Row Kstr w460 hw461 (σ459 21) ([([97, 115, 107] : List UInt8), t11, t19, t27, t35, a0.Repo, a0.Digest, a0.Data]) := m486
    have z490 : (σ459 2) = .string (bs t51) := m488
    refine qn ?_
    refine wc_ret ?_
    have h := Option.some.inj h
    subst h
    refine end1 rfl (.tmp z490 .nil) ?_
    exact ⟨_, rfl, fr465⟩
/-! ### consignor/consignorlaw21.alive: function 11 -/
def consignorlaw21_alive.f (k : Nat) : Option Bool := (courier_Text.f k (⟨3, 1, [], [], 0, 0, []⟩ : ApiAsk)).bind fun t2 => ((courier_Parse.f k t2.1).bind fun t10 => (some ((((t2.2 == 0) && (t10.2 == 0)) && ((t2.1.length : Int) == 51)) && (t10.1.Id == 3))))
set_option maxHeartbeats 1000000 in
theorem consignorlaw21_alive.ok (k : Nat) {w0 : World} {hw0 : Hw} (wf : Hwf w0 hw0) (gl : Gl w0 hw0) (r : Bool) (h : consignorlaw21_alive.f k = some r) :
    Calls Tryd.prog 11 #[] w0 fun e w' => ∃ (hw' : Hw), e = .returned (.bool r) ∧ Stp none w0 hw0 w' hw' := by
  have fr0 := Stp.refl none (w := w0) (hw := hw0) wf
  unfold consignorlaw21_alive.f at h
  refine enter (n := 31) Tryd.func11 rfl rfl (Nat.le_of_ble_eq_true rfl) ?_
  refine wc_seq ?_
  refine wc_region ?_
  refine wl_assign (.bool false) rfl ?_
  refine wl_nil ?_
  refine qn ?_
  refine wc_seq ?_
  refine wc_region ?_
  have hb1 : ∀ w, (Instr.build 23 #[(0, .int .i64 3), (1, .int .i64 1)]).run Tryd.prog w = .ok (.agg (List.toArray [.int .i64 3, .int .i64 1, .string (bs []), .string (bs []), .int .i64 0, .int .i64 0, .string (bs [])])) w := by intro  _; kernel_rfl
  refine wl_build [.int .i64 3, .int .i64 1, .string (bs []), .string (bs []), .int .i64 0, .int .i64 0, .string (bs [])] (pc rfl (pc rfl (pn _ _))) (hb1 _) ?_
  obtain ⟨t2, h3, h⟩ := Option.bind_eq_some_iff.1 h
  refine wl_call [.agg #[.int .i64 3, .int .i64 1, .string (bs []), .string (bs []), .int .i64 0, .int .i64 0, .string (bs [])]] bod5 (mc rfl (mn _)) (courier_Text.ok k fr0.wf (⟨3, 1, [], [], 0, 0, []⟩ : ApiAsk) _ h3) ?_
  rintro e4 w5 ⟨hw6, rfl, s7⟩
  refine ⟨_, rfl, ?_⟩
  have fr8 := fr0.then0 s7
  refine wl_move (.tuple #[.string (bs t2.1), .int .i64 t2.2]) rfl ?_
  refine wl_extract (vs := [.string (bs t2.1), .int .i64 t2.2]) (.string (bs t2.1)) rfl rfl ?_
  refine wl_extract (vs := [.string (bs t2.1), .int .i64 t2.2]) (.int .i64 t2.2) rfl rfl ?_
  refine wl_assign (.string (bs t2.1)) rfl ?_
  refine wl_assign (.int .i64 t2.2) rfl ?_
  refine wl_nil ?_
  refine qn ?_
  refine wc_seq ?_
  refine wc_region ?_
  refine wl_move (.string (bs t2.1)) rfl ?_
  have f9 := gl.ext (s7.ext)
  obtain ⟨t10, h11, h⟩ := Option.bind_eq_some_iff.1 h
  refine wl_call [.string (bs t2.1)] bod7 (mc rfl (mn _)) (courier_Parse.ok k fr8.wf t2.1 f9 _ h11) ?_
  rintro e12 w13 ⟨hw14, rfl, s15⟩
  refine ⟨_, rfl, ?_⟩
  have fr16 := fr8.then0 s15
  refine wl_move (.tuple #[.agg #[.int .i64 t10.1.Id, .int .i64 t10.1.Kind, .string (bs t10.1.Repo), .string (bs t10.1.Digest), .int .i64 t10.1.Upload, .int .i64 t10.1.Offset, .string (bs t10.1.Data)], .int .i64 t10.2]) rfl ?_
  refine wl_extract (vs := [.agg #[.int .i64 t10.1.Id, .int .i64 t10.1.Kind, .string (bs t10.1.Repo), .string (bs t10.1.Digest), .int .i64 t10.1.Upload, .int .i64 t10.1.Offset, .string (bs t10.1.Data)], .int .i64 t10.2]) (.agg #[.int .i64 t10.1.Id, .int .i64 t10.1.Kind, .string (bs t10.1.Repo), .string (bs t10.1.Digest), .int .i64 t10.1.Upload, .int .i64 t10.1.Offset, .string (bs t10.1.Data)]) rfl rfl ?_
  refine wl_extract (vs := [.agg #[.int .i64 t10.1.Id, .int .i64 t10.1.Kind, .string (bs t10.1.Repo), .string (bs t10.1.Digest), .int .i64 t10.1.Upload, .int .i64 t10.1.Offset, .string (bs t10.1.Data)], .int .i64 t10.2]) (.int .i64 t10.2) rfl rfl ?_
  refine wl_alloc fr16.wf fr16.g.size ty23 [.int .i64 0, .int .i64 0, .string (bs []), .string (bs []), .int .i64 0, .int .i64 0, .string (bs [])] rfl ?_
  intro b17 w18 s19 B20 g21
  have fr22 := fr16.then0 s19
  refine wl_store B20 fr22.wf ty23 rfl [.int .i64 t10.1.Id, .int .i64 t10.1.Kind, .string (bs t10.1.Repo), .string (bs t10.1.Digest), .int .i64 t10.1.Upload, .int .i64 t10.1.Offset, .string (bs t10.1.Data)] (cells_of (v := (.agg #[.int .i64 t10.1.Id, .int .i64 t10.1.Kind, .string (bs t10.1.Repo), .string (bs t10.1.Digest), .int .i64 t10.1.Upload, .int .i64 t10.1.Offset, .string (bs t10.1.Data)])) rfl rfl) rfl (Nat.le_of_ble_eq_true rfl) (by intro u hu; simp only [List.mem_cons, List.not_mem_nil, or_false] at hu; rcases hu with rfl | rfl | rfl | rfl | rfl | rfl | rfl <;> first | rfl | exact Dy.one _) [.int .i64 t10.1.Id, .int .i64 t10.1.Kind, .string (bs t10.1.Repo), .string (bs t10.1.Digest), .int .i64 t10.1.Upload, .int .i64 t10.1.Offset, .string (bs t10.1.Data)] rfl ?_
  intro w23 s24 B25
  have fr26 := fr22.then s24 (fun _ e => (Option.some.inj e ▸ B20.new))
  refine wl_assign (.int .i64 t10.2) rfl ?_
  refine wl_nil ?_
  refine qn ?_
  refine wc_seq ?_
  refine wc_region ?_
  refine wl_move (.int .i64 t2.2) rfl ?_
  refine wl_eql rfl rfl ?_
  refine wl_move (.bool (t2.2 == 0)) rfl ?_
  refine wl_join 3 [18, 19, 20] 20 (.bool ((t2.2 == 0) && (t10.2 == 0))) ?_ ?_
  · rcases Bool.eq_false_or_eq_true (t2.2 == 0) with hcc | hcc
    · skip
      refine wl_on (yl rfl rfl rfl) hcc ?_
      refine wl_move (.int .i64 t10.2) rfl ?_
      refine wl_on (yl rfl rfl rfl) hcc ?_
      refine wl_eql rfl rfl ?_
      refine wl_pick_t (t2.2 == 0) (.bool (t10.2 == 0)) rfl hcc rfl ?_
      refine wl_nil ?_
      exact qn ⟨rfl, _, rfl, (by repeat (first | exact Same.refl _ _ | refine Same.upd ?_ rfl)), (by rw [hcc]; rfl)⟩
    · skip
      refine wl_off (yl rfl rfl rfl) hcc ?_
      refine wl_off (yl rfl rfl rfl) hcc ?_
      refine wl_pick_f (t2.2 == 0) (.bool false) rfl hcc rfl ?_
      refine wl_nil ?_
      exact qn ⟨rfl, _, rfl, (by repeat (first | exact Same.refl _ _ | refine Same.upd ?_ rfl)), (by rw [hcc]; rfl)⟩
  intro _ ho27 hv28
  refine wl_move (.bool ((t2.2 == 0) && (t10.2 == 0))) hv28 ?_
  refine wl_join 4 [22, 23, 24, 25] 25 (.bool (((t2.2 == 0) && (t10.2 == 0)) && ((t2.1.length : Int) == 51))) ?_ ?_
  · rcases Bool.eq_false_or_eq_true ((t2.2 == 0) && (t10.2 == 0)) with hcc | hcc
    · skip
      refine wl_on (yl rfl rfl rfl) hcc ?_
      refine wl_move (.string (bs t2.1)) ((ho27 1 rfl).trans rfl) ?_
      refine wl_on (yl rfl rfl rfl) hcc ?_
      refine wl_lens Tryd.underlying9 rfl ?_
      refine wl_on (yl rfl rfl rfl) hcc ?_
      refine wl_eql rfl rfl ?_
      refine wl_pick_t ((t2.2 == 0) && (t10.2 == 0)) (.bool ((t2.1.length : Int) == 51)) rfl hcc rfl ?_
      refine wl_nil ?_
      exact qn ⟨rfl, _, rfl, (by repeat (first | exact Same.refl _ _ | refine Same.upd ?_ rfl)), (by rw [hcc]; rfl)⟩
    · skip
      refine wl_off (yl rfl rfl rfl) hcc ?_
      refine wl_off (yl rfl rfl rfl) hcc ?_
      refine wl_off (yl rfl rfl rfl) hcc ?_
      refine wl_pick_f ((t2.2 == 0) && (t10.2 == 0)) (.bool false) rfl hcc rfl ?_
      refine wl_nil ?_
      exact qn ⟨rfl, _, rfl, (by repeat (first | exact Same.refl _ _ | refine Same.upd ?_ rfl)), (by rw [hcc]; rfl)⟩
  intro _ ho29 hv30
  refine wl_move (.bool (((t2.2 == 0) && (t10.2 == 0)) && ((t2.1.length : Int) == 51))) hv30 ?_
  refine wl_join 4 [27, 28, 29, 30] 30 (.bool ((((t2.2 == 0) && (t10.2 == 0)) && ((t2.1.length : Int) == 51)) && (t10.1.Id == 3))) ?_ ?_
  · rcases Bool.eq_false_or_eq_true (((t2.2 == 0) && (t10.2 == 0)) && ((t2.1.length : Int) == 51)) with hcc | hcc
    · skip
      refine wl_on (yl rfl rfl rfl) hcc ?_
      refine wl_field fld23_0 ((ho29 3 rfl).trans ((ho27 3 rfl).trans rfl)) ?_
      refine wl_on (yl rfl rfl rfl) hcc ?_
      refine wl_loadb1 B25 ty3 rfl (.int .i64 t10.1.Id) rfl ?_
      refine wl_on (yl rfl rfl rfl) hcc ?_
      refine wl_eql rfl rfl ?_
      refine wl_pick_t (((t2.2 == 0) && (t10.2 == 0)) && ((t2.1.length : Int) == 51)) (.bool (t10.1.Id == 3)) rfl hcc rfl ?_
      refine wl_nil ?_
      exact qn ⟨rfl, _, rfl, (by repeat (first | exact Same.refl _ _ | refine Same.upd ?_ rfl)), (by rw [hcc]; rfl)⟩
    · skip
      refine wl_off (yl rfl rfl rfl) hcc ?_
      refine wl_off (yl rfl rfl rfl) hcc ?_
      refine wl_off (yl rfl rfl rfl) hcc ?_
      refine wl_pick_f (((t2.2 == 0) && (t10.2 == 0)) && ((t2.1.length : Int) == 51)) (.bool false) rfl hcc rfl ?_
      refine wl_nil ?_
      exact qn ⟨rfl, _, rfl, (by repeat (first | exact Same.refl _ _ | refine Same.upd ?_ rfl)), (by rw [hcc]; rfl)⟩
  intro _ ho31 hv32
  refine wl_assign (.bool ((((t2.2 == 0) && (t10.2 == 0)) && ((t2.1.length : Int) == 51)) && (t10.1.Id == 3))) hv32 ?_
  refine wl_nil ?_
  refine qn ?_
  refine wc_ret ?_
  have h := Option.some.inj h
  subst h
  refine end1 rfl (.tmp rfl .nil) ?_
  exact ⟨_, rfl, fr26⟩
/-! ### consignor/consignorref21.IsAnswer: function 12 -/
def consignorref21_IsAnswer.f (k : Nat) (a0 : ApiAnswer) : Option Bool := (consignorref21_in.f k a0.Id).bind fun t7 => (if t7 = true then ((consignorref21_in.f k a0.N).bind fun t16 => (some ((t16 && (decide (0 ≤ a0.Err))) && (decide (a0.Err ≤ 255))))) else (some false))
set_option maxHeartbeats 1000000 in
theorem consignorref21_IsAnswer.ok (k : Nat) {w0 : World} {hw0 : Hw} (wf : Hwf w0 hw0) (a0 : ApiAnswer) (r : Bool) (h : consignorref21_IsAnswer.f k a0 = some r) :
    Calls Tryd.prog 12 #[.agg #[.int .i64 a0.Id, .int .i64 a0.Err, .int .i64 a0.N]] w0 fun e w' => ∃ (hw' : Hw), e = .returned (.bool r) ∧ Stp none w0 hw0 w' hw' := by
  have fr0 := Stp.refl none (w := w0) (hw := hw0) wf
  unfold consignorref21_IsAnswer.f at h
  refine enter (n := 21) Tryd.func12 rfl rfl (Nat.le_of_ble_eq_true rfl) ?_
  refine wc_seq ?_
  refine wc_region ?_
  refine wl_box fr0.wf fr0.g.size [.int .i64 a0.Id, .int .i64 a0.Err, .int .i64 a0.N] (cells_of (v := (.agg #[.int .i64 a0.Id, .int .i64 a0.Err, .int .i64 a0.N])) rfl rfl) ?_
  intro b1 w2 s3 B4 g5
  have fr6 := fr0.then0 s3
  refine wl_assign (.bool false) rfl ?_
  refine wl_nil ?_
  refine qn ?_
  refine wc_seq ?_
  refine wc_region ?_
  refine wl_field fld26_0 rfl ?_
  refine wl_loadb1 B4 ty3 rfl (.int .i64 a0.Id) rfl ?_
  obtain ⟨t7, h8, h⟩ := Option.bind_eq_some_iff.1 h
  refine wl_call [.int .i64 a0.Id] bod19 (mc rfl (mn _)) (consignorref21_in.ok k fr6.wf a0.Id _ h8) ?_
  rintro e9 w10 ⟨hw11, rfl, s12⟩
  refine ⟨_, rfl, ?_⟩
  have fr13 := fr6.then0 s12
  refine wl_move (.bool t7) rfl ?_
  by_cases c14 : t7 = true
  · replace h := (if_pos c14).symm.trans h
    refine wl_on (yl rfl rfl rfl) c14 ?_
    refine wl_field fld26_2 rfl ?_
    refine wl_on (yl rfl rfl rfl) c14 ?_
    have B15 := (B4.step0 s12)
    refine wl_loadb1 B15 ty3 rfl (.int .i64 a0.N) rfl ?_
    refine wl_on (yl rfl rfl rfl) c14 ?_
    obtain ⟨t16, h17, h⟩ := Option.bind_eq_some_iff.1 h
    refine wl_call [.int .i64 a0.N] bod19 (mc rfl (mn _)) (consignorref21_in.ok k fr13.wf a0.N _ h17) ?_
    rintro e18 w19 ⟨hw20, rfl, s21⟩
    refine ⟨_, rfl, ?_⟩
    have fr22 := fr13.then0 s21
    refine wl_pick_t t7 (.bool t16) rfl c14 rfl ?_
    refine wl_move (.bool t16) rfl ?_
    refine wl_join 4 [12, 13, 14, 15] 15 (.bool (t16 && (decide (0 ≤ a0.Err)))) ?_ ?_
    · rcases Bool.eq_false_or_eq_true t16 with hcc | hcc
      · skip
        refine wl_on (yl rfl rfl rfl) hcc ?_
        refine wl_field fld26_1 rfl ?_
        refine wl_on (yl rfl rfl rfl) hcc ?_
        have B23 := (B15.step0 s21)
        refine wl_loadb1 B23 ty24 rfl (.int .i64 a0.Err) rfl ?_
        refine wl_on (yl rfl rfl rfl) hcc ?_
        refine wl_geq rfl rfl ?_
        refine wl_pick_t t16 (.bool (decide (0 ≤ a0.Err))) rfl hcc rfl ?_
        refine wl_nil ?_
        exact qn ⟨rfl, _, rfl, (by repeat (first | exact Same.refl _ _ | refine Same.upd ?_ rfl)), (by rw [hcc]; rfl)⟩
      · skip
        refine wl_off (yl rfl rfl rfl) hcc ?_
        refine wl_off (yl rfl rfl rfl) hcc ?_
        refine wl_off (yl rfl rfl rfl) hcc ?_
        refine wl_pick_f t16 (.bool false) rfl hcc rfl ?_
        refine wl_nil ?_
        exact qn ⟨rfl, _, rfl, (by repeat (first | exact Same.refl _ _ | refine Same.upd ?_ rfl)), (by rw [hcc]; rfl)⟩
    intro _ ho24 hv25
    refine wl_move (.bool (t16 && (decide (0 ≤ a0.Err)))) hv25 ?_
    refine wl_join 4 [17, 18, 19, 20] 20 (.bool ((t16 && (decide (0 ≤ a0.Err))) && (decide (a0.Err ≤ 255)))) ?_ ?_
    · rcases Bool.eq_false_or_eq_true (t16 && (decide (0 ≤ a0.Err))) with hcc | hcc
      · skip
        refine wl_on (yl rfl rfl rfl) hcc ?_
        refine wl_field fld26_1 ((ho24 1 rfl).trans rfl) ?_
        refine wl_on (yl rfl rfl rfl) hcc ?_
        have B26 := (B15.step0 s21)
        refine wl_loadb1 B26 ty24 rfl (.int .i64 a0.Err) rfl ?_
        refine wl_on (yl rfl rfl rfl) hcc ?_
        refine wl_leq rfl rfl ?_
        refine wl_pick_t (t16 && (decide (0 ≤ a0.Err))) (.bool (decide (a0.Err ≤ 255))) rfl hcc rfl ?_
        refine wl_nil ?_
        exact qn ⟨rfl, _, rfl, (by repeat (first | exact Same.refl _ _ | refine Same.upd ?_ rfl)), (by rw [hcc]; rfl)⟩
      · skip
        refine wl_off (yl rfl rfl rfl) hcc ?_
        refine wl_off (yl rfl rfl rfl) hcc ?_
        refine wl_off (yl rfl rfl rfl) hcc ?_
        refine wl_pick_f (t16 && (decide (0 ≤ a0.Err))) (.bool false) rfl hcc rfl ?_
        refine wl_nil ?_
        exact qn ⟨rfl, _, rfl, (by repeat (first | exact Same.refl _ _ | refine Same.upd ?_ rfl)), (by rw [hcc]; rfl)⟩
    intro _ ho27 hv28
    refine wl_assign (.bool ((t16 && (decide (0 ≤ a0.Err))) && (decide (a0.Err ≤ 255)))) hv28 ?_
    refine wl_nil ?_
    refine qn ?_
    refine wc_ret ?_
    have h := Option.some.inj h
    subst h
    refine end1 rfl (.tmp rfl .nil) ?_
    exact ⟨_, rfl, fr22⟩
  · replace h := (if_neg c14).symm.trans h
    have b29 : t7 = false := Bool.eq_false_iff.2 c14
    refine wl_off (yl rfl rfl rfl) b29 ?_
    refine wl_off (yl rfl rfl rfl) b29 ?_
    refine wl_off (yl rfl rfl rfl) b29 ?_
    refine wl_pick_f t7 (.bool false) rfl b29 rfl ?_
    refine wl_move (.bool false) rfl ?_
    refine wl_off (yl rfl rfl rfl) rfl ?_
    refine wl_off (yl rfl rfl rfl) rfl ?_
    refine wl_off (yl rfl rfl rfl) rfl ?_
    refine wl_pick_f false (.bool false) rfl rfl rfl ?_
    refine wl_move (.bool false) rfl ?_
    refine wl_off (yl rfl rfl rfl) rfl ?_
    refine wl_off (yl rfl rfl rfl) rfl ?_
    refine wl_off (yl rfl rfl rfl) rfl ?_
    refine wl_pick_f false (.bool false) rfl rfl rfl ?_
    refine wl_assign (.bool false) rfl ?_
    refine wl_nil ?_
    refine qn ?_
    refine wc_ret ?_
    have h := Option.some.inj h
    subst h
    refine end1 rfl (.tmp rfl .nil) ?_
    exact ⟨_, rfl, fr13⟩
/-! ### consignor/consignorref21.Answer: function 13 -/
def consignorref21_Answer.f (k : Nat) (a0 : ApiAnswer) : Option (List UInt8) := (consignorref21_wide.f k a0.Id).bind fun t11 => ((consignorref21_wide.f k a0.Err).bind fun t19 => ((consignorref21_wide.f k a0.N).bind fun t27 => ((consignorref01_Bind.f k ([([97, 110, 115, 119, 101, 114] : List UInt8), t11, t19, t27])).bind fun t43 => (some t43))))
set_option maxHeartbeats 1000000 in
theorem consignorref21_Answer.ok (k : Nat) {w0 : World} {hw0 : Hw} (wf : Hwf w0 hw0) (a0 : ApiAnswer) (r : (List UInt8)) (h : consignorref21_Answer.f k a0 = some r) :
    Calls Tryd.prog 13 #[.agg #[.int .i64 a0.Id, .int .i64 a0.Err, .int .i64 a0.N]] w0 fun e w' => ∃ (hw' : Hw), e = .returned (.string (bs r)) ∧ Stp none w0 hw0 w' hw' := by
  have fr0 := Stp.refl none (w := w0) (hw := hw0) wf
  unfold consignorref21_Answer.f at h
  refine enter (n := 14) Tryd.func13 rfl rfl (Nat.le_of_ble_eq_true rfl) ?_
  refine wc_seq ?_
  refine wc_region ?_
  refine wl_box fr0.wf fr0.g.size [.int .i64 a0.Id, .int .i64 a0.Err, .int .i64 a0.N] (cells_of (v := (.agg #[.int .i64 a0.Id, .int .i64 a0.Err, .int .i64 a0.N])) rfl rfl) ?_
  intro b1 w2 s3 B4 g5
  have fr6 := fr0.then0 s3
  refine wl_assign (.string (bs [])) rfl ?_
  refine wl_nil ?_
  refine qn ?_
  refine wc_seq ?_
  have s7 := Stp.drew (w := w2) (hw := hw0) fr6.wf
  have fr8 := fr6.then0 s7
  have B9 := (B4.step0 s7)
  obtain ⟨t11, h12, h⟩ := Option.bind_eq_some_iff.1 h
  obtain ⟨t19, h20, h⟩ := Option.bind_eq_some_iff.1 h
  obtain ⟨t27, h28, h⟩ := Option.bind_eq_some_iff.1 h
  obtain ⟨t43, h44, h⟩ := Option.bind_eq_some_iff.1 h
  refine wc_any (hw := hw0) mixed [[], [0], [1], [], [3], [4, 2], [], [6], [7, 5], [2, 5, 8], [9, 8], [10, 10, 0, 1, 2, 3, 4, 5, 6, 7, 8, 9, 10]] [3, 4, 5, 6, 7, 8, 9, 10, 11, 12, 13, 2] (by kernel_rfl) (PhiOf [fun v w hw => v = .pointer (some ⟨b1, 0, none⟩), fun v w hw => v = .int .i64 a0.Id, fun v w hw => v = .string (bs t11), fun v w hw => v = .pointer (some ⟨b1, 1, none⟩), fun v w hw => v = .int .i64 a0.Err, fun v w hw => v = .string (bs t19), fun v w hw => v = .pointer (some ⟨b1, 2, none⟩), fun v w hw => v = .int .i64 a0.N, fun v w hw => v = .string (bs t27), fun v w hw => Row Kstr w hw v ([([97, 110, 115, 119, 101, 114] : List UInt8), t11, t19, t27]), fun v w hw => v = .string (bs t43), fun v w hw => v = .string (bs t43)]) (fun D σ w hw => Stp none w0 hw0 w hw ∧ Ext (w2).drew hw0 w hw ∧ Box w0.heap.size w hw b1 26 [.int .i64 a0.Id, .int .i64 a0.Err, .int .i64 a0.N]) (stab_of (sbc (fun _ _ _ _ _ _ h => h) (sbc (fun _ _ _ _ _ _ h => h) (sbc (fun _ _ _ _ _ _ h => h) (sbc (fun _ _ _ _ _ _ h => h) (sbc (fun _ _ _ _ _ _ h => h) (sbc (fun _ _ _ _ _ _ h => h) (sbc (fun _ _ _ _ _ _ h => h) (sbc (fun _ _ _ _ _ _ h => h) (sbc (fun _ _ _ _ _ _ h => h) (sbc (fun _ _ _ _ _ e h => Row.ext e h) (sbc (fun _ _ _ _ _ _ h => h) (sbc (fun _ _ _ _ _ _ h => h) sbn))))))))))))) ?_ (stc ?_ (stc ?_ (stc ?_ (stc ?_ (stc ?_ (stc ?_ (stc ?_ (stc ?_ (stc ?_ (stc ?_ (stc ?_ (stc ?_ stn)))))))))))) ?_
  · exact ⟨fr8, Ext.refl _ _, B9⟩
  · intro D51 σ52 w53 hw54 q55 q56 q57 q58 q59 q60
    obtain ⟨fr61, e62, C63⟩ := q55
    refine wl_field fld26_0 ((q58 1 rfl).trans rfl) ?_
    refine wl_nil ?_
    exact qn ⟨_, _, rfl, (Ext.refl _ _), ⟨fr61, e62.trans (Ext.refl _ _), C63⟩, (aft_some rfl)⟩
  · intro D64 σ65 w66 hw67 q68 q69 q70 q71 q72 q73
    obtain ⟨fr74, e75, C76⟩ := q68
    obtain ⟨⟨_, m77⟩, _⟩ := q70
    have z78 : (σ65 3) = .pointer (some ⟨b1, 0, none⟩) := m77
    refine wl_loadb1 C76 ty3 z78 (.int .i64 a0.Id) rfl ?_
    refine wl_nil ?_
    exact qn ⟨_, _, rfl, (Ext.refl _ _), ⟨fr74, e75.trans (Ext.refl _ _), C76⟩, (aft_some rfl)⟩
  · intro D79 σ80 w81 hw82 q83 q84 q85 q86 q87 q88
    obtain ⟨fr89, e90, C91⟩ := q83
    obtain ⟨⟨_, m92⟩, _⟩ := q85
    have z93 : (σ80 4) = .int .i64 a0.Id := m92
    refine wl_call [.int .i64 a0.Id] bod21 (mc z93 (mn _)) (consignorref21_wide.ok k fr89.wf a0.Id _ h12) ?_
    rintro e94 w95 ⟨hw96, rfl, s97⟩
    refine ⟨_, rfl, ?_⟩
    have fr98 := fr89.then0 s97
    refine wl_nil ?_
    have B99 := (C91.step0 s97)
    exact qn ⟨_, _, rfl, s97.ext, ⟨fr98, e90.trans s97.ext, B99⟩, (aft_some rfl)⟩
  · intro D100 σ101 w102 hw103 q104 q105 q106 q107 q108 q109
    obtain ⟨fr110, e111, C112⟩ := q104
    refine wl_field fld26_1 ((q107 1 rfl).trans rfl) ?_
    refine wl_nil ?_
    exact qn ⟨_, _, rfl, (Ext.refl _ _), ⟨fr110, e111.trans (Ext.refl _ _), C112⟩, (aft_some rfl)⟩
  · intro D113 σ114 w115 hw116 q117 q118 q119 q120 q121 q122
    obtain ⟨fr123, e124, C125⟩ := q117
    obtain ⟨⟨_, m126⟩, _⟩ := q119
    have z127 : (σ114 6) = .pointer (some ⟨b1, 1, none⟩) := m126
    refine wl_loadb1 C125 ty24 z127 (.int .i64 a0.Err) rfl ?_
    refine wl_nil ?_
    exact qn ⟨_, _, rfl, (Ext.refl _ _), ⟨fr123, e124.trans (Ext.refl _ _), C125⟩, (aft_some rfl)⟩
  · intro D128 σ129 w130 hw131 q132 q133 q134 q135 q136 q137
    obtain ⟨fr138, e139, C140⟩ := q132
    obtain ⟨⟨_, m141⟩, ⟨_, m142⟩, _⟩ := q134
    have z143 : (σ129 7) = .int .i64 a0.Err := m141
    have z144 : (σ129 5) = .string (bs t11) := m142
    refine wl_call [.int .i64 a0.Err] bod21 (mc z143 (mn _)) (consignorref21_wide.ok k fr138.wf a0.Err _ h20) ?_
    rintro e145 w146 ⟨hw147, rfl, s148⟩
    refine ⟨_, rfl, ?_⟩
    have fr149 := fr138.then0 s148
    refine wl_nil ?_
    have B150 := (C140.step0 s148)
    exact qn ⟨_, _, rfl, s148.ext, ⟨fr149, e139.trans s148.ext, B150⟩, (aft_some rfl)⟩
  · intro D151 σ152 w153 hw154 q155 q156 q157 q158 q159 q160
    obtain ⟨fr161, e162, C163⟩ := q155
    refine wl_field fld26_2 ((q158 1 rfl).trans rfl) ?_
    refine wl_nil ?_
    exact qn ⟨_, _, rfl, (Ext.refl _ _), ⟨fr161, e162.trans (Ext.refl _ _), C163⟩, (aft_some rfl)⟩
  · intro D164 σ165 w166 hw167 q168 q169 q170 q171 q172 q173
    obtain ⟨fr174, e175, C176⟩ := q168
    obtain ⟨⟨_, m177⟩, _⟩ := q170
    have z178 : (σ165 9) = .pointer (some ⟨b1, 2, none⟩) := m177
    refine wl_loadb1 C176 ty3 z178 (.int .i64 a0.N) rfl ?_
    refine wl_nil ?_
    exact qn ⟨_, _, rfl, (Ext.refl _ _), ⟨fr174, e175.trans (Ext.refl _ _), C176⟩, (aft_some rfl)⟩
  · intro D179 σ180 w181 hw182 q183 q184 q185 q186 q187 q188
    obtain ⟨fr189, e190, C191⟩ := q183
    obtain ⟨⟨_, m192⟩, ⟨_, m193⟩, _⟩ := q185
    have z194 : (σ180 10) = .int .i64 a0.N := m192
    have z195 : (σ180 8) = .string (bs t19) := m193
    refine wl_call [.int .i64 a0.N] bod21 (mc z194 (mn _)) (consignorref21_wide.ok k fr189.wf a0.N _ h28) ?_
    rintro e196 w197 ⟨hw198, rfl, s199⟩
    refine ⟨_, rfl, ?_⟩
    have fr200 := fr189.then0 s199
    refine wl_nil ?_
    have B201 := (C191.step0 s199)
    exact qn ⟨_, _, rfl, s199.ext, ⟨fr200, e190.trans s199.ext, B201⟩, (aft_some rfl)⟩
  · intro D202 σ203 w204 hw205 q206 q207 q208 q209 q210 q211
    obtain ⟨fr212, e213, C214⟩ := q206
    obtain ⟨⟨_, m215⟩, ⟨_, m216⟩, ⟨_, m217⟩, _⟩ := q208
    have z218 : (σ203 5) = .string (bs t11) := m215
    have z219 : (σ203 8) = .string (bs t19) := m216
    have z220 : (σ203 11) = .string (bs t27) := m217
    have hb221 : ∀ w : World, (Instr.buildSlice 44 4 #[(0, .string (bs ([97, 110, 115, 119, 101, 114] : List UInt8))), (1, .string (bs t11)), (2, .string (bs t19)), (3, .string (bs t27))]).run Tryd.prog w = .ok (.slice (some ⟨w.heap.size, 0, none⟩) 4 4) (w.alloc (.cells (List.toArray [.string (bs ([97, 110, 115, 119, 101, 114] : List UInt8)), .string (bs t11), .string (bs t19), .string (bs t27)]) 9)) := fun _ => by kernel_rfl
    refine wl_lit (KD := Kstr) fr212.wf [.string (bs ([97, 110, 115, 119, 101, 114] : List UInt8)), .string (bs t11), .string (bs t19), .string (bs t27)] [([97, 110, 115, 119, 101, 114] : List UInt8), t11, t19, t27] (pc rfl (pc z218 (pc z219 (pc z220 (pn _ _))))) (hb221 _) rfl (by decide) ⟨[.string (bs ([97, 110, 115, 119, 101, 114] : List UInt8))], _, rfl, rfl, ⟨[.string (bs t11)], _, rfl, rfl, ⟨[.string (bs t19)], _, rfl, rfl, ⟨[.string (bs t27)], _, rfl, rfl, rfl⟩⟩⟩⟩ ?_
    intro v222 w223 hw224 O226 s225
    have n227 := own_new_lt O226 C214.lt
    replace O226 := O226.low fr212.g.size
    have fr228 := fr212.then0 s225
    refine wl_nil ?_
    have B229 := (C214.step0 s225)
    exact qn ⟨_, _, rfl, s225.ext, ⟨fr228, e213.trans s225.ext, B229⟩, (aft_some O226.row)⟩
  · intro D230 σ231 w232 hw233 q234 q235 q236 q237 q238 q239
    obtain ⟨fr240, e241, C242⟩ := q234
    obtain ⟨⟨_, m243⟩, ⟨_, m244⟩, _⟩ := q236
    have f245 : Row Kstr w232 hw233 (σ231 12) ([([97, 110, 115, 119, 101, 114] : List UInt8), t11, t19, t27]) := m243
    have z246 : (σ231 11) = .string (bs t27) := m244
    refine wl_call [(σ231 12)] bod20 (mc rfl (mn _)) (consignorref01_Bind.ok k fr240.wf ([([97, 110, 115, 119, 101, 114] : List UInt8), t11, t19, t27]) (σ231 12) f245 _ h44) ?_
    rintro e247 w248 ⟨hw249, rfl, s250⟩
    refine ⟨_, rfl, ?_⟩
    have fr251 := fr240.then0 s250
    refine wl_nil ?_
    have B252 := (C242.step0 s250)
    exact qn ⟨_, _, rfl, s250.ext, ⟨fr251, e241.trans s250.ext, B252⟩, (aft_some rfl)⟩
  · intro D253 σ254 w255 hw256 q257 q258 q259 q260 q261 q262
    obtain ⟨fr263, e264, C265⟩ := q257
    obtain ⟨⟨_, m266⟩, ⟨_, m267⟩, ⟨_, m268⟩, ⟨_, m269⟩, ⟨_, m270⟩, ⟨_, m271⟩, ⟨_, m272⟩, ⟨_, m273⟩, ⟨_, m274⟩, ⟨_, m275⟩, ⟨_, m276⟩, ⟨_, m277⟩, ⟨_, m278⟩, _⟩ := q259
    have z279 : (σ254 13) = .string (bs t43) := m266
    have z280 : (σ254 3) = .pointer (some ⟨b1, 0, none⟩) := m268
    have z281 : (σ254 4) = .int .i64 a0.Id := m269
    have z282 : (σ254 5) = .string (bs t11) := m270
    have z283 : (σ254 6) = .pointer (some ⟨b1, 1, none⟩) := m271
    have z284 : (σ254 7) = .int .i64 a0.Err := m272
    have z285 : (σ254 8) = .string (bs t19) := m273
    have z286 : (σ254 9) = .pointer (some ⟨b1, 2, none⟩) := m274
    have z287 : (σ254 10) = .int .i64 a0.N := m275
    have z288 : (σ254 11) = .string (bs t27) := m276
    have f289 : Row Kstr w255 hw256 (σ254 12) ([([97, 110, 115, 119, 101, 114] : List UInt8), t11, t19, t27]) := m277
    refine wl_assign (.string (bs t43)) z279 ?_
    refine wl_nil ?_
    exact qn ⟨_, _, rfl, (Ext.refl _ _), ⟨fr263, e264.trans (Ext.refl _ _), C265⟩, (aft_some rfl)⟩
  · intro σ290 w291 hw292 q293 q294 q295
    obtain ⟨fr296, e297, C298⟩ := q293
    obtain ⟨m299, m300, m301, m302, m303, m304, m305, m306, m307, m308, m309, m310, _⟩ := q295
    have f311 : Row Kstr w291 hw292 (σ290 12) ([([97, 110, 115, 119, 101, 114] : List UInt8), t11, t19, t27]) := m308
    have z312 : (σ290 2) = .string (bs t43) := m310
    refine qn ?_
    refine wc_ret ?_
    have h := Option.some.inj h
    subst h
    refine end1 rfl (.tmp z312 .nil) ?_
    exact ⟨_, rfl, fr296⟩
/-! ### consignor/consignorlaw21.CourierTexts: function 3 -/
mutual
def consignorlaw21_CourierTexts.j4 : Nat → ApiAnswer → ((List UInt8) × Int) → Option Bool
  | 0, _, _ => none
  | k + 1, a1, t248 => if (t248.2 == 0) = true then ((courier_Read.f k t248.1).bind fun t772 => (if ((t772.2 != 0) || (!((t772.1.Id == a1.Id) && ((t772.1.Err == a1.Err) && ((t772.1.N == a1.N) && true))))) = true then (some false) else (some true))) else (some true)
def consignorlaw21_CourierTexts.j3 : Nat → ApiAnswer → ApiAsk → ((List UInt8) × Int) → ((List UInt8) × Int) → Bool → Option Bool
  | 0, _, _, _, _, _ => none
  | k + 1, a1, t19, t240, t248, x666 => if x666 = true then (some false) else (if (t240.2 == 0) = true then ((courier_Parse.f k t240.1).bind fun t731 => (if ((t731.2 != 0) || (!((t731.1.Id == t19.Id) && ((t731.1.Kind == t19.Kind) && ((t731.1.Repo == t19.Repo) && ((t731.1.Digest == t19.Digest) && ((t731.1.Upload == t19.Upload) && ((t731.1.Offset == t19.Offset) && ((t731.1.Data == t19.Data) && true))))))))) = true then (some false) else (consignorlaw21_CourierTexts.j4 k a1 t248))) else (consignorlaw21_CourierTexts.j4 k a1 t248))
def consignorlaw21_CourierTexts.j2 : Nat → ApiAnswer → (List UInt8) → ApiAsk → ((List UInt8) × Int) → ((List UInt8) × Int) → (ApiAnswer × Int) → Bool → Option Bool
  | 0, _, _, _, _, _, _, _ => none
  | k + 1, a1, a2, t19, t240, t248, t281, x593 => if x593 = true then (some false) else (if (t281.2 == 0) = true then ((consignorref21_IsAnswer.f k t281.1).bind fun t668 => (if t668 = true then ((consignorref21_Answer.f k t281.1).bind fun t677 => (if (t677 == ((a2.take (Int.toNat (if 1500 < (a2.length : Int) then 1500 else (a2.length : Int)))).drop (Int.toNat 0))) = true then (if (t281.2 != 0) = true then (if (t281.2 != 6) = true then (consignorlaw21_CourierTexts.j3 k a1 t19 t240 t248 true) else (consignorlaw21_CourierTexts.j3 k a1 t19 t240 t248 (!((t281.1.Id == 0) && ((t281.1.Err == 0) && ((t281.1.N == 0) && true)))))) else (consignorlaw21_CourierTexts.j3 k a1 t19 t240 t248 false)) else (consignorlaw21_CourierTexts.j3 k a1 t19 t240 t248 true))) else (consignorlaw21_CourierTexts.j3 k a1 t19 t240 t248 true))) else (if (t281.2 != 0) = true then (if (t281.2 != 6) = true then (consignorlaw21_CourierTexts.j3 k a1 t19 t240 t248 true) else (consignorlaw21_CourierTexts.j3 k a1 t19 t240 t248 (!((t281.1.Id == 0) && ((t281.1.Err == 0) && ((t281.1.N == 0) && true)))))) else (consignorlaw21_CourierTexts.j3 k a1 t19 t240 t248 false)))
def consignorlaw21_CourierTexts.j1 : Nat → ApiAnswer → (List UInt8) → ApiAsk → ((List UInt8) × Int) → ((List UInt8) × Int) → (ApiAsk × Int) → (ApiAnswer × Int) → Bool → Option Bool
  | 0, _, _, _, _, _, _, _, _ => none
  | k + 1, a1, a2, t19, t240, t248, t257, t281, x481 => if x481 = true then (some false) else (if (t257.2 == 0) = true then ((consignorref21_IsAsk.f k t257.1).bind fun t595 => (if t595 = true then ((consignorref21_Ask.f k t257.1).bind fun t604 => (if (t604 == ((a2.take (Int.toNat (if 1500 < (a2.length : Int) then 1500 else (a2.length : Int)))).drop (Int.toNat 0))) = true then (if (t257.2 != 0) = true then (if (t257.2 != 6) = true then (consignorlaw21_CourierTexts.j2 k a1 a2 t19 t240 t248 t281 true) else (consignorlaw21_CourierTexts.j2 k a1 a2 t19 t240 t248 t281 (!((t257.1.Id == 0) && ((t257.1.Kind == 0) && ((t257.1.Repo == []) && ((t257.1.Digest == []) && ((t257.1.Upload == 0) && ((t257.1.Offset == 0) && ((t257.1.Data == []) && true)))))))))) else (consignorlaw21_CourierTexts.j2 k a1 a2 t19 t240 t248 t281 false)) else (consignorlaw21_CourierTexts.j2 k a1 a2 t19 t240 t248 t281 true))) else (consignorlaw21_CourierTexts.j2 k a1 a2 t19 t240 t248 t281 true))) else (if (t257.2 != 0) = true then (if (t257.2 != 6) = true then (consignorlaw21_CourierTexts.j2 k a1 a2 t19 t240 t248 t281 true) else (consignorlaw21_CourierTexts.j2 k a1 a2 t19 t240 t248 t281 (!((t257.1.Id == 0) && ((t257.1.Kind == 0) && ((t257.1.Repo == []) && ((t257.1.Digest == []) && ((t257.1.Upload == 0) && ((t257.1.Offset == 0) && ((t257.1.Data == []) && true)))))))))) else (consignorlaw21_CourierTexts.j2 k a1 a2 t19 t240 t248 t281 false)))
def consignorlaw21_CourierTexts.j0 : Nat → ApiAnswer → (List UInt8) → ApiAsk → ((List UInt8) × Int) → ((List UInt8) × Int) → (ApiAsk × Int) → (ApiAnswer × Int) → Bool → Option Bool
  | 0, _, _, _, _, _, _, _, _ => none
  | k + 1, a1, a2, t19, t240, t248, t257, t281, x306 => if x306 = true then (some false) else ((consignorref21_IsAnswer.f k a1).bind fun t482 => (if t482 = true then (if (t248.2 != 0) = true then (consignorlaw21_CourierTexts.j1 k a1 a2 t19 t240 t248 t257 t281 true) else ((consignorref21_Answer.f k a1).bind fun t497 => (if (t248.1 == t497) = true then ((consignorref21_IsAnswer.f k a1).bind fun t509 => (if t509 = true then (consignorlaw21_CourierTexts.j1 k a1 a2 t19 t240 t248 t257 t281 false) else (if (t248.2 != 1) = true then (consignorlaw21_CourierTexts.j1 k a1 a2 t19 t240 t248 t257 t281 true) else (consignorlaw21_CourierTexts.j1 k a1 a2 t19 t240 t248 t257 t281 (!(t248.1 == [])))))) else (consignorlaw21_CourierTexts.j1 k a1 a2 t19 t240 t248 t257 t281 true)))) else ((consignorref21_IsAnswer.f k a1).bind fun t542 => (if t542 = true then (consignorlaw21_CourierTexts.j1 k a1 a2 t19 t240 t248 t257 t281 false) else (if (t248.2 != 1) = true then (consignorlaw21_CourierTexts.j1 k a1 a2 t19 t240 t248 t257 t281 true) else (consignorlaw21_CourierTexts.j1 k a1 a2 t19 t240 t248 t257 t281 (!(t248.1 == []))))))))
end
def consignorlaw21_CourierTexts.f (k : Nat) (a0 : ApiAsk) (a1 : ApiAnswer) (a2 : (List UInt8)) : Option Bool := (consignorlaw21_cutAsk.f k a0).bind fun t19 => (if (0 : Int) ≤ (if 1500 < (a2.length : Int) then 1500 else (a2.length : Int)) then (if ((if 1500 < (a2.length : Int) then 1500 else (a2.length : Int)) : Int) ≤ (a2.length : Int) then ((courier_Text.f k t19).bind fun t240 => ((courier_Reply.f k a1).bind fun t248 => ((courier_Parse.f k ((a2.take (Int.toNat (if 1500 < (a2.length : Int) then 1500 else (a2.length : Int)))).drop (Int.toNat 0))).bind fun t257 => ((courier_Read.f k ((a2.take (Int.toNat (if 1500 < (a2.length : Int) then 1500 else (a2.length : Int)))).drop (Int.toNat 0))).bind fun t281 => ((consignorref21_IsAsk.f k t19).bind fun t308 => (if t308 = true then (if (t240.2 != 0) = true then (consignorlaw21_CourierTexts.j0 k a1 a2 t19 t240 t248 t257 t281 true) else ((consignorref21_Ask.f k t19).bind fun t325 => (if (t240.1 == t325) = true then ((consignorref21_IsAsk.f k t19).bind fun t337 => (if t337 = true then ((consignorlaw21_alive.f k).bind fun t349 => (consignorlaw21_CourierTexts.j0 k a1 a2 t19 t240 t248 t257 t281 (!t349))) else (if (t240.2 != 1) = true then (consignorlaw21_CourierTexts.j0 k a1 a2 t19 t240 t248 t257 t281 true) else (if (t240.1 == []) = true then ((consignorlaw21_alive.f k).bind fun t373 => (consignorlaw21_CourierTexts.j0 k a1 a2 t19 t240 t248 t257 t281 (!t373))) else (consignorlaw21_CourierTexts.j0 k a1 a2 t19 t240 t248 t257 t281 true))))) else (consignorlaw21_CourierTexts.j0 k a1 a2 t19 t240 t248 t257 t281 true)))) else ((consignorref21_IsAsk.f k t19).bind fun t400 => (if t400 = true then ((consignorlaw21_alive.f k).bind fun t412 => (consignorlaw21_CourierTexts.j0 k a1 a2 t19 t240 t248 t257 t281 (!t412))) else (if (t240.2 != 1) = true then (consignorlaw21_CourierTexts.j0 k a1 a2 t19 t240 t248 t257 t281 true) else (if (t240.1 == []) = true then ((consignorlaw21_alive.f k).bind fun t436 => (consignorlaw21_CourierTexts.j0 k a1 a2 t19 t240 t248 t257 t281 (!t436))) else (consignorlaw21_CourierTexts.j0 k a1 a2 t19 t240 t248 t257 t281 true))))))))))) else none) else none)
set_option maxHeartbeats 1000000 in
theorem consignorlaw21_CourierTexts.ok (k : Nat) {w0 : World} {hw0 : Hw} (wf : Hwf w0 hw0) (a0 : ApiAsk) (a1 : ApiAnswer) (a2 : (List UInt8)) (gl : Gl w0 hw0) (r : Bool) (h : consignorlaw21_CourierTexts.f k a0 a1 a2 = some r) :
    Calls Tryd.prog 3 #[.agg #[.int .i64 a0.Id, .int .i64 a0.Kind, .string (bs a0.Repo), .string (bs a0.Digest), .int .i64 a0.Upload, .int .i64 a0.Offset, .string (bs a0.Data)], .agg #[.int .i64 a1.Id, .int .i64 a1.Err, .int .i64 a1.N], .string (bs a2)] w0 fun e w' => ∃ (hw' : Hw), e = .returned (.bool r) ∧ Stp none w0 hw0 w' hw' := by
  have fr0 := Stp.refl none (w := w0) (hw := hw0) wf
  unfold consignorlaw21_CourierTexts.f at h
  refine enter (n := 180) Tryd.func3 rfl rfl (Nat.le_of_ble_eq_true rfl) ?_
  refine wc_seq ?_
  refine wc_region ?_
  refine wl_box fr0.wf fr0.g.size [.int .i64 a0.Id, .int .i64 a0.Kind, .string (bs a0.Repo), .string (bs a0.Digest), .int .i64 a0.Upload, .int .i64 a0.Offset, .string (bs a0.Data)] (cells_of (v := (.agg #[.int .i64 a0.Id, .int .i64 a0.Kind, .string (bs a0.Repo), .string (bs a0.Digest), .int .i64 a0.Upload, .int .i64 a0.Offset, .string (bs a0.Data)])) rfl rfl) ?_
  intro b1 w2 s3 B4 g5
  have fr6 := fr0.then0 s3
  refine wl_box fr6.wf fr6.g.size [.int .i64 a1.Id, .int .i64 a1.Err, .int .i64 a1.N] (cells_of (v := (.agg #[.int .i64 a1.Id, .int .i64 a1.Err, .int .i64 a1.N])) rfl rfl) ?_
  intro b7 w8 s9 B10 g11
  have n12 : b1 ≠ b7 := B4.ne g11
  have fr13 := fr6.then0 s9
  refine wl_assign (.bool false) rfl ?_
  refine wl_nil ?_
  refine qn ?_
  refine wc_seq ?_
  have s14 := Stp.drew (w := w8) (hw := hw0) fr13.wf
  have fr15 := fr13.then0 s14
  have B16 := ((B4.step0 s9).step0 s14)
  have B17 := (B10.step0 s14)
  obtain ⟨t19, h20, h⟩ := Option.bind_eq_some_iff.1 h
  by_cases c26 : (0 : Int) ≤ (if 1500 < (a2.length : Int) then 1500 else (a2.length : Int))
  · replace h := (if_pos c26).symm.trans h
    by_cases c27 : ((if 1500 < (a2.length : Int) then 1500 else (a2.length : Int)) : Int) ≤ (a2.length : Int)
    · replace h := (if_pos c27).symm.trans h
      refine wc_any (hw := hw0) mixed [[], [0], [], [], [3], [4], [2, 5], [1, 1, 0, 1], [6, 7, 0, 1, 2, 3, 4, 5, 6, 7]] [19, 20, 21, 22, 23, 24, 25, 2] (by kernel_rfl) (PhiOf [fun v w hw => v = .agg #[.int .i64 a0.Id, .int .i64 a0.Kind, .string (bs a0.Repo), .string (bs a0.Digest), .int .i64 a0.Upload, .int .i64 a0.Offset, .string (bs a0.Data)], fun v w hw => v = .agg #[.int .i64 t19.Id, .int .i64 t19.Kind, .string (bs t19.Repo), .string (bs t19.Digest), .int .i64 t19.Upload, .int .i64 t19.Offset, .string (bs t19.Data)], fun v w hw => v = .string (bs a2), fun v w hw => v = .string (bs a2), fun v w hw => v = .int .i64 (a2.length : Int), fun v w hw => v = .int .i64 (if 1500 < (a2.length : Int) then 1500 else (a2.length : Int)), fun v w hw => v = .string (bs ((a2.take (Int.toNat (if 1500 < (a2.length : Int) then 1500 else (a2.length : Int)))).drop (Int.toNat 0))), fun v w hw => True, fun v w hw => v = .string (bs ((a2.take (Int.toNat (if 1500 < (a2.length : Int) then 1500 else (a2.length : Int)))).drop (Int.toNat 0)))]) (fun D σ w hw => Stp none w0 hw0 w hw ∧ Ext (w8).drew hw0 w hw ∧ Box w0.heap.size w hw b1 23 [(bif D 7 then .int .i64 t19.Id else .int .i64 a0.Id), (bif D 7 then .int .i64 t19.Kind else .int .i64 a0.Kind), (bif D 7 then .string (bs t19.Repo) else .string (bs a0.Repo)), (bif D 7 then .string (bs t19.Digest) else .string (bs a0.Digest)), (bif D 7 then .int .i64 t19.Upload else .int .i64 a0.Upload), (bif D 7 then .int .i64 t19.Offset else .int .i64 a0.Offset), (bif D 7 then .string (bs t19.Data) else .string (bs a0.Data))] ∧ Box w0.heap.size w hw b7 26 [.int .i64 a1.Id, .int .i64 a1.Err, .int .i64 a1.N] ∧ (bif D 8 then True else σ 2 = .string (bs a2))) (stab_of (sbc (fun _ _ _ _ _ _ h => h) (sbc (fun _ _ _ _ _ _ h => h) (sbc (fun _ _ _ _ _ _ h => h) (sbc (fun _ _ _ _ _ _ h => h) (sbc (fun _ _ _ _ _ _ h => h) (sbc (fun _ _ _ _ _ _ h => h) (sbc (fun _ _ _ _ _ _ h => h) (sbc (fun _ _ _ _ _ _ h => h) (sbc (fun _ _ _ _ _ _ h => h) sbn)))))))))) ?_ (stc ?_ (stc ?_ (stc ?_ (stc ?_ (stc ?_ (stc ?_ (stc ?_ (stc ?_ (stc ?_ stn))))))))) ?_
      · exact ⟨fr15, Ext.refl _ _, B16, B17, rfl⟩
      · intro D33 σ34 w35 hw36 q37 q38 q39 q40 q41 q42
        obtain ⟨fr43, e44, C45, C46, C47⟩ := q37
        have B48 := C45
        rw [show D33 7 = false from (q42 7 rfl)] at B48
        refine wl_loadb B48 ty23 ((q40 3 rfl).trans rfl) [.int .i64 a0.Id, .int .i64 a0.Kind, .string (bs a0.Repo), .string (bs a0.Digest), .int .i64 a0.Upload, .int .i64 a0.Offset, .string (bs a0.Data)] rfl rfl ?_
        refine wl_nil ?_
        exact qn ⟨_, _, rfl, (Ext.refl _ _), ⟨fr43, e44.trans (Ext.refl _ _), C45, C46, C47⟩, (aft_some rfl)⟩
      · intro D49 σ50 w51 hw52 q53 q54 q55 q56 q57 q58
        obtain ⟨fr59, e60, C61, C62, C63⟩ := q53
        have B64 := C61
        rw [show D49 7 = false from (q58 7 rfl)] at B64
        obtain ⟨⟨_, m65⟩, _⟩ := q55
        have z66 : (σ50 19) = .agg #[.int .i64 a0.Id, .int .i64 a0.Kind, .string (bs a0.Repo), .string (bs a0.Digest), .int .i64 a0.Upload, .int .i64 a0.Offset, .string (bs a0.Data)] := m65
        refine wl_call [.agg #[.int .i64 a0.Id, .int .i64 a0.Kind, .string (bs a0.Repo), .string (bs a0.Digest), .int .i64 a0.Upload, .int .i64 a0.Offset, .string (bs a0.Data)]] bod4 (mc z66 (mn _)) (consignorlaw21_cutAsk.ok k fr59.wf a0 _ h20) ?_
        rintro e67 w68 ⟨hw69, rfl, s70⟩
        refine ⟨_, rfl, ?_⟩
        have fr71 := fr59.then0 s70
        refine wl_nil ?_
        have B72 := (C61.step0 s70)
        have B73 := (C62.step0 s70)
        exact qn ⟨_, _, rfl, s70.ext, ⟨fr71, e60.trans s70.ext, B72, B73, C63⟩, (aft_some rfl)⟩
      · intro D74 σ75 w76 hw77 q78 q79 q80 q81 q82 q83
        obtain ⟨fr84, e85, C86, C87, C88⟩ := q78
        have z89 := bif_f (q83 8 rfl) C88
        refine wl_move (.string (bs a2)) z89 ?_
        refine wl_nil ?_
        exact qn ⟨_, _, rfl, (Ext.refl _ _), ⟨fr84, e85.trans (Ext.refl _ _), C86, C87, C88⟩, (aft_some rfl)⟩
      · intro D90 σ91 w92 hw93 q94 q95 q96 q97 q98 q99
        obtain ⟨fr100, e101, C102, C103, C104⟩ := q94
        have z105 := bif_f (q99 8 rfl) C104
        refine wl_move (.string (bs a2)) z105 ?_
        refine wl_nil ?_
        exact qn ⟨_, _, rfl, (Ext.refl _ _), ⟨fr100, e101.trans (Ext.refl _ _), C102, C103, C104⟩, (aft_some rfl)⟩
      · intro D106 σ107 w108 hw109 q110 q111 q112 q113 q114 q115
        obtain ⟨fr116, e117, C118, C119, C120⟩ := q110
        obtain ⟨⟨_, m121⟩, _⟩ := q112
        have z122 : (σ107 22) = .string (bs a2) := m121
        refine wl_lens Tryd.underlying9 z122 ?_
        refine wl_nil ?_
        exact qn ⟨_, _, rfl, (Ext.refl _ _), ⟨fr116, e117.trans (Ext.refl _ _), C118, C119, C120⟩, (aft_some rfl)⟩
      · intro D123 σ124 w125 hw126 q127 q128 q129 q130 q131 q132
        obtain ⟨fr133, e134, C135, C136, C137⟩ := q127
        obtain ⟨⟨_, m138⟩, _⟩ := q129
        have z139 : (σ124 23) = .int .i64 (a2.length : Int) := m138
        refine wl_min2 z139 rfl ?_
        refine wl_nil ?_
        exact qn ⟨_, _, rfl, (Ext.refl _ _), ⟨fr133, e134.trans (Ext.refl _ _), C135, C136, C137⟩, (aft_some rfl)⟩
      · intro D140 σ141 w142 hw143 q144 q145 q146 q147 q148 q149
        obtain ⟨fr150, e151, C152, C153, C154⟩ := q144
        obtain ⟨⟨_, m155⟩, ⟨_, m156⟩, _⟩ := q146
        have z157 : (σ141 21) = .string (bs a2) := m155
        have z158 : (σ141 24) = .int .i64 (if 1500 < (a2.length : Int) then 1500 else (a2.length : Int)) := m156
        refine wl_cuts Tryd.underlying9 z157 Bd.no (Bd.yes z158) (by first | decide | omega | simp) c26 c27 ?_
        refine wl_nil ?_
        exact qn ⟨_, _, rfl, (Ext.refl _ _), ⟨fr150, e151.trans (Ext.refl _ _), C152, C153, C154⟩, (aft_some rfl)⟩
      · intro D159 σ160 w161 hw162 q163 q164 q165 q166 q167 q168
        obtain ⟨fr169, e170, C171, C172, C173⟩ := q163
        obtain ⟨⟨_, m174⟩, ⟨_, m175⟩, ⟨_, m176⟩, ⟨_, m177⟩, _⟩ := q165
        have z178 : (σ160 20) = .agg #[.int .i64 t19.Id, .int .i64 t19.Kind, .string (bs t19.Repo), .string (bs t19.Digest), .int .i64 t19.Upload, .int .i64 t19.Offset, .string (bs t19.Data)] := m174
        have z179 : (σ160 19) = .agg #[.int .i64 a0.Id, .int .i64 a0.Kind, .string (bs a0.Repo), .string (bs a0.Digest), .int .i64 a0.Upload, .int .i64 a0.Offset, .string (bs a0.Data)] := m176
        refine wl_store C171 fr169.wf ty23 ((q166 3 rfl).trans rfl) [.int .i64 t19.Id, .int .i64 t19.Kind, .string (bs t19.Repo), .string (bs t19.Digest), .int .i64 t19.Upload, .int .i64 t19.Offset, .string (bs t19.Data)] (cells_of z178 rfl) rfl (Nat.le_of_ble_eq_true rfl) (by intro u hu; simp only [List.mem_cons, List.not_mem_nil, or_false] at hu; rcases hu with rfl | rfl | rfl | rfl | rfl | rfl | rfl <;> first | rfl | exact Dy.one _) [.int .i64 t19.Id, .int .i64 t19.Kind, .string (bs t19.Repo), .string (bs t19.Digest), .int .i64 t19.Upload, .int .i64 t19.Offset, .string (bs t19.Data)] rfl ?_
        intro w180 s181 B182
        have fr183 := fr169.then s181 (fun _ e => (Option.some.inj e ▸ C171.new))
        refine wl_nil ?_
        have B184 := (C172.stepb s181 (Ne.symm n12))
        exact qn ⟨_, _, rfl, s181.ext, ⟨fr183, e170.trans s181.ext, B182, B184, C173⟩, aft_none⟩
      · intro D185 σ186 w187 hw188 q189 q190 q191 q192 q193 q194
        obtain ⟨fr195, e196, C197, C198, C199⟩ := q189
        have B200 := C197
        rw [show D185 7 = true from (q193 7 rfl)] at B200
        obtain ⟨⟨_, m201⟩, ⟨_, m202⟩, ⟨_, m203⟩, ⟨_, m204⟩, ⟨_, m205⟩, ⟨_, m206⟩, ⟨_, m207⟩, ⟨_, m208⟩, ⟨_, m209⟩, ⟨_, m210⟩, _⟩ := q191
        have z211 : (σ186 25) = .string (bs ((a2.take (Int.toNat (if 1500 < (a2.length : Int) then 1500 else (a2.length : Int)))).drop (Int.toNat 0))) := m201
        have z212 : (σ186 19) = .agg #[.int .i64 a0.Id, .int .i64 a0.Kind, .string (bs a0.Repo), .string (bs a0.Digest), .int .i64 a0.Upload, .int .i64 a0.Offset, .string (bs a0.Data)] := m203
        have z213 : (σ186 20) = .agg #[.int .i64 t19.Id, .int .i64 t19.Kind, .string (bs t19.Repo), .string (bs t19.Digest), .int .i64 t19.Upload, .int .i64 t19.Offset, .string (bs t19.Data)] := m204
        have z214 : (σ186 21) = .string (bs a2) := m205
        have z215 : (σ186 22) = .string (bs a2) := m206
        have z216 : (σ186 23) = .int .i64 (a2.length : Int) := m207
        have z217 : (σ186 24) = .int .i64 (if 1500 < (a2.length : Int) then 1500 else (a2.length : Int)) := m208
        refine wl_assign (.string (bs ((a2.take (Int.toNat (if 1500 < (a2.length : Int) then 1500 else (a2.length : Int)))).drop (Int.toNat 0)))) z211 ?_
        refine wl_nil ?_
        exact qn ⟨_, _, rfl, (Ext.refl _ _), ⟨fr195, e196.trans (Ext.refl _ _), C197, C198, trivial⟩, (aft_some rfl)⟩
      · intro σ218 w219 hw220 q221 q222 q223
        obtain ⟨fr224, e225, C226, C227, C228⟩ := q221
        obtain ⟨m229, m230, m231, m232, m233, m234, m235, m236, m237, _⟩ := q223
        have B238 : Box w0.heap.size w219 hw220 b1 23 [.int .i64 t19.Id, .int .i64 t19.Kind, .string (bs t19.Repo), .string (bs t19.Digest), .int .i64 t19.Upload, .int .i64 t19.Offset, .string (bs t19.Data)] := C226
        have z239 : (σ218 2) = .string (bs ((a2.take (Int.toNat (if 1500 < (a2.length : Int) then 1500 else (a2.length : Int)))).drop (Int.toNat 0))) := m237
        refine qn ?_
        refine wc_seq ?_
        refine wc_region ?_
        refine wl_loadb B238 ty23 ((q222 3 rfl).trans rfl) [.int .i64 t19.Id, .int .i64 t19.Kind, .string (bs t19.Repo), .string (bs t19.Digest), .int .i64 t19.Upload, .int .i64 t19.Offset, .string (bs t19.Data)] rfl rfl ?_
        obtain ⟨t240, h241, h⟩ := Option.bind_eq_some_iff.1 h
        refine wl_call [.agg #[.int .i64 t19.Id, .int .i64 t19.Kind, .string (bs t19.Repo), .string (bs t19.Digest), .int .i64 t19.Upload, .int .i64 t19.Offset, .string (bs t19.Data)]] bod5 (mc rfl (mn _)) (courier_Text.ok k fr224.wf t19 _ h241) ?_
        rintro e242 w243 ⟨hw244, rfl, s245⟩
        refine ⟨_, rfl, ?_⟩
        have fr246 := fr224.then0 s245
        refine wl_move (.tuple #[.string (bs t240.1), .int .i64 t240.2]) rfl ?_
        refine wl_extract (vs := [.string (bs t240.1), .int .i64 t240.2]) (.string (bs t240.1)) rfl rfl ?_
        refine wl_extract (vs := [.string (bs t240.1), .int .i64 t240.2]) (.int .i64 t240.2) rfl rfl ?_
        refine wl_assign (.string (bs t240.1)) rfl ?_
        refine wl_assign (.int .i64 t240.2) rfl ?_
        refine wl_nil ?_
        refine qn ?_
        refine wc_seq ?_
        refine wc_region ?_
        have B247 := (C227.step0 s245)
        refine wl_loadb B247 ty26 ((q222 4 rfl).trans rfl) [.int .i64 a1.Id, .int .i64 a1.Err, .int .i64 a1.N] rfl rfl ?_
        obtain ⟨t248, h249, h⟩ := Option.bind_eq_some_iff.1 h
        have B254 := (B238.step0 s245)
        refine wl_call [.agg #[.int .i64 a1.Id, .int .i64 a1.Err, .int .i64 a1.N]] bod6 (mc rfl (mn _)) (courier_Reply.ok k fr246.wf a1 _ h249) ?_
        rintro e250 w251 ⟨hw252, rfl, s253⟩
        refine ⟨_, rfl, ?_⟩
        have fr255 := fr246.then0 s253
        refine wl_move (.tuple #[.string (bs t248.1), .int .i64 t248.2]) rfl ?_
        refine wl_extract (vs := [.string (bs t248.1), .int .i64 t248.2]) (.string (bs t248.1)) rfl rfl ?_
        refine wl_extract (vs := [.string (bs t248.1), .int .i64 t248.2]) (.int .i64 t248.2) rfl rfl ?_
        refine wl_assign (.string (bs t248.1)) rfl ?_
        refine wl_assign (.int .i64 t248.2) rfl ?_
        refine wl_nil ?_
        refine qn ?_
        refine wc_seq ?_
        refine wc_region ?_
        refine wl_move (.string (bs ((a2.take (Int.toNat (if 1500 < (a2.length : Int) then 1500 else (a2.length : Int)))).drop (Int.toNat 0)))) z239 ?_
        have f256 := gl.ext (s3.ext.trans (s9.ext.trans (s14.ext.trans (e225.trans (s245.ext.trans (s253.ext))))))
        obtain ⟨t257, h258, h⟩ := Option.bind_eq_some_iff.1 h
        have B263 := (B254.step0 s253)
        have B264 := (B247.step0 s253)
        refine wl_call [.string (bs ((a2.take (Int.toNat (if 1500 < (a2.length : Int) then 1500 else (a2.length : Int)))).drop (Int.toNat 0)))] bod7 (mc rfl (mn _)) (courier_Parse.ok k fr255.wf ((a2.take (Int.toNat (if 1500 < (a2.length : Int) then 1500 else (a2.length : Int)))).drop (Int.toNat 0)) f256 _ h258) ?_
        rintro e259 w260 ⟨hw261, rfl, s262⟩
        refine ⟨_, rfl, ?_⟩
        have fr265 := fr255.then0 s262
        refine wl_move (.tuple #[.agg #[.int .i64 t257.1.Id, .int .i64 t257.1.Kind, .string (bs t257.1.Repo), .string (bs t257.1.Digest), .int .i64 t257.1.Upload, .int .i64 t257.1.Offset, .string (bs t257.1.Data)], .int .i64 t257.2]) rfl ?_
        refine wl_extract (vs := [.agg #[.int .i64 t257.1.Id, .int .i64 t257.1.Kind, .string (bs t257.1.Repo), .string (bs t257.1.Digest), .int .i64 t257.1.Upload, .int .i64 t257.1.Offset, .string (bs t257.1.Data)], .int .i64 t257.2]) (.agg #[.int .i64 t257.1.Id, .int .i64 t257.1.Kind, .string (bs t257.1.Repo), .string (bs t257.1.Digest), .int .i64 t257.1.Upload, .int .i64 t257.1.Offset, .string (bs t257.1.Data)]) rfl rfl ?_
        refine wl_extract (vs := [.agg #[.int .i64 t257.1.Id, .int .i64 t257.1.Kind, .string (bs t257.1.Repo), .string (bs t257.1.Digest), .int .i64 t257.1.Upload, .int .i64 t257.1.Offset, .string (bs t257.1.Data)], .int .i64 t257.2]) (.int .i64 t257.2) rfl rfl ?_
        refine wl_alloc fr265.wf fr265.g.size ty23 [.int .i64 0, .int .i64 0, .string (bs []), .string (bs []), .int .i64 0, .int .i64 0, .string (bs [])] rfl ?_
        intro b266 w267 s268 B269 g270
        have B272 := (B263.step0 s262)
        have n271 : b1 ≠ b266 := B272.ne g270
        have B274 := (B264.step0 s262)
        have n273 : b7 ≠ b266 := B274.ne g270
        have fr275 := fr265.then0 s268
        refine wl_store B269 fr275.wf ty23 rfl [.int .i64 t257.1.Id, .int .i64 t257.1.Kind, .string (bs t257.1.Repo), .string (bs t257.1.Digest), .int .i64 t257.1.Upload, .int .i64 t257.1.Offset, .string (bs t257.1.Data)] (cells_of (v := (.agg #[.int .i64 t257.1.Id, .int .i64 t257.1.Kind, .string (bs t257.1.Repo), .string (bs t257.1.Digest), .int .i64 t257.1.Upload, .int .i64 t257.1.Offset, .string (bs t257.1.Data)])) rfl rfl) rfl (Nat.le_of_ble_eq_true rfl) (by intro u hu; simp only [List.mem_cons, List.not_mem_nil, or_false] at hu; rcases hu with rfl | rfl | rfl | rfl | rfl | rfl | rfl <;> first | rfl | exact Dy.one _) [.int .i64 t257.1.Id, .int .i64 t257.1.Kind, .string (bs t257.1.Repo), .string (bs t257.1.Digest), .int .i64 t257.1.Upload, .int .i64 t257.1.Offset, .string (bs t257.1.Data)] rfl ?_
        intro w276 s277 B278
        have fr279 := fr275.then s277 (fun _ e => (Option.some.inj e ▸ B269.new))
        refine wl_assign (.int .i64 t257.2) rfl ?_
        refine wl_nil ?_
        refine qn ?_
        refine wc_seq ?_
        refine wc_region ?_
        refine wl_move (.string (bs ((a2.take (Int.toNat (if 1500 < (a2.length : Int) then 1500 else (a2.length : Int)))).drop (Int.toNat 0)))) z239 ?_
        have f280 := f256.ext (s262.ext.trans (s268.ext.trans (s277.ext)))
        obtain ⟨t281, h282, h⟩ := Option.bind_eq_some_iff.1 h
        have B287 := ((B272.step0 s268).stepb s277 n271)
        have B288 := ((B274.step0 s268).stepb s277 n273)
        refine wl_call [.string (bs ((a2.take (Int.toNat (if 1500 < (a2.length : Int) then 1500 else (a2.length : Int)))).drop (Int.toNat 0)))] bod8 (mc rfl (mn _)) (courier_Read.ok k fr279.wf ((a2.take (Int.toNat (if 1500 < (a2.length : Int) then 1500 else (a2.length : Int)))).drop (Int.toNat 0)) f280 _ h282) ?_
        rintro e283 w284 ⟨hw285, rfl, s286⟩
        refine ⟨_, rfl, ?_⟩
        have fr289 := fr279.then0 s286
        refine wl_move (.tuple #[.agg #[.int .i64 t281.1.Id, .int .i64 t281.1.Err, .int .i64 t281.1.N], .int .i64 t281.2]) rfl ?_
        refine wl_extract (vs := [.agg #[.int .i64 t281.1.Id, .int .i64 t281.1.Err, .int .i64 t281.1.N], .int .i64 t281.2]) (.agg #[.int .i64 t281.1.Id, .int .i64 t281.1.Err, .int .i64 t281.1.N]) rfl rfl ?_
        refine wl_extract (vs := [.agg #[.int .i64 t281.1.Id, .int .i64 t281.1.Err, .int .i64 t281.1.N], .int .i64 t281.2]) (.int .i64 t281.2) rfl rfl ?_
        refine wl_alloc fr289.wf fr289.g.size ty26 [.int .i64 0, .int .i64 0, .int .i64 0] rfl ?_
        intro b290 w291 s292 B293 g294
        have B296 := (B287.step0 s286)
        have n295 : b1 ≠ b290 := B296.ne g294
        have B298 := (B288.step0 s286)
        have n297 : b7 ≠ b290 := B298.ne g294
        have B300 := (B278.step0 s286)
        have n299 : b266 ≠ b290 := B300.ne g294
        have fr301 := fr289.then0 s292
        refine wl_store B293 fr301.wf ty26 rfl [.int .i64 t281.1.Id, .int .i64 t281.1.Err, .int .i64 t281.1.N] (cells_of (v := (.agg #[.int .i64 t281.1.Id, .int .i64 t281.1.Err, .int .i64 t281.1.N])) rfl rfl) rfl (Nat.le_of_ble_eq_true rfl) (by intro u hu; simp only [List.mem_cons, List.not_mem_nil, or_false] at hu; rcases hu with rfl | rfl | rfl <;> first | rfl | exact Dy.one _) [.int .i64 t281.1.Id, .int .i64 t281.1.Err, .int .i64 t281.1.N] rfl ?_
        intro w302 s303 B304
        have fr305 := fr301.then s303 (fun _ e => (Option.some.inj e ▸ B293.new))
        refine wl_assign (.int .i64 t281.2) rfl ?_
        refine wl_nil ?_
        refine qn ?_
        refine wc_seq ?_
        refine wc_cut (fun a w => ∃ (σ : Nat → Value) (hw : Hw) (kq : Nat) (x306 : Bool), a = mkA 180 σ ∧ kq ≤ k ∧ kq ≤ k ∧ Stp none w0 hw0 w hw ∧ Ext w302 hw285 w hw ∧ σ 2 = .string (bs ((a2.take (Int.toNat (if 1500 < (a2.length : Int) then 1500 else (a2.length : Int)))).drop (Int.toNat 0))) ∧ σ 3 = .pointer (some ⟨b1, 0, none⟩) ∧ σ 4 = .pointer (some ⟨b7, 0, none⟩) ∧ σ 7 = .string (bs t240.1) ∧ σ 8 = .int .i64 t240.2 ∧ σ 9 = .string (bs t248.1) ∧ σ 10 = .int .i64 t248.2 ∧ σ 11 = .pointer (some ⟨b266, 0, none⟩) ∧ σ 12 = .int .i64 t257.2 ∧ σ 13 = .pointer (some ⟨b290, 0, none⟩) ∧ σ 14 = .int .i64 t281.2 ∧ σ 74 = .bool x306 ∧ Box w0.heap.size w hw b1 23 [.int .i64 t19.Id, .int .i64 t19.Kind, .string (bs t19.Repo), .string (bs t19.Digest), .int .i64 t19.Upload, .int .i64 t19.Offset, .string (bs t19.Data)] ∧ Box w0.heap.size w hw b7 26 [.int .i64 a1.Id, .int .i64 a1.Err, .int .i64 a1.N] ∧ Box w0.heap.size w hw b266 23 [.int .i64 t257.1.Id, .int .i64 t257.1.Kind, .string (bs t257.1.Repo), .string (bs t257.1.Digest), .int .i64 t257.1.Upload, .int .i64 t257.1.Offset, .string (bs t257.1.Data)] ∧ Box w0.heap.size w hw b290 26 [.int .i64 t281.1.Id, .int .i64 t281.1.Err, .int .i64 t281.1.N] ∧ consignorlaw21_CourierTexts.j0 kq a1 a2 t19 t240 t248 t257 t281 x306 = some r) ?_ ?_
        · skip
          refine wc_region ?_
          have B307 := ((B296.step0 s292).stepb s303 n295)
          refine wl_loadb B307 ty23 ((q222 3 rfl).trans rfl) [.int .i64 t19.Id, .int .i64 t19.Kind, .string (bs t19.Repo), .string (bs t19.Digest), .int .i64 t19.Upload, .int .i64 t19.Offset, .string (bs t19.Data)] rfl rfl ?_
          obtain ⟨t308, h309, h⟩ := Option.bind_eq_some_iff.1 h
          have B314 := ((B298.step0 s292).stepb s303 n297)
          have B315 := ((B300.step0 s292).stepb s303 n299)
          refine wl_call [.agg #[.int .i64 t19.Id, .int .i64 t19.Kind, .string (bs t19.Repo), .string (bs t19.Digest), .int .i64 t19.Upload, .int .i64 t19.Offset, .string (bs t19.Data)]] bod9 (mc rfl (mn _)) (consignorref21_IsAsk.ok k fr305.wf t19 _ h309) ?_
          rintro e310 w311 ⟨hw312, rfl, s313⟩
          refine ⟨_, rfl, ?_⟩
          have fr316 := fr305.then0 s313
          refine wl_move (.bool t308) rfl ?_
          by_cases c317 : t308 = true
          · replace h := (if_pos c317).symm.trans h
            refine wl_on (yl rfl rfl rfl) c317 ?_
            refine wl_move (.int .i64 t240.2) rfl ?_
            refine wl_on (yl rfl rfl rfl) c317 ?_
            refine wl_neq rfl rfl ?_
            refine wl_on (yl rfl rfl rfl) c317 ?_
            refine wl_move (.bool (t240.2 != 0)) rfl ?_
            by_cases c318 : (t240.2 != 0) = true
            · replace h := (if_pos c318).symm.trans h
              refine wl_off (yl rfl rfl rfl) c318 ?_
              refine wl_off (yl rfl rfl rfl) c318 ?_
              refine wl_off (yl rfl rfl rfl) c318 ?_
              refine wl_off (yl rfl rfl rfl) c318 ?_
              refine wl_on (yl rfl rfl rfl) c317 ?_
              refine wl_pick_t (t240.2 != 0) (.bool true) rfl c318 rfl ?_
              refine wl_pick_t t308 (.bool true) rfl c317 rfl ?_
              refine wl_move (.bool true) rfl ?_
              refine wl_off (yl rfl rfl rfl) rfl ?_
              refine wl_off (yl rfl rfl rfl) rfl ?_
              refine wl_off (yl rfl rfl rfl) rfl ?_
              refine wl_off (yl rfl rfl rfl) rfl ?_
              refine wl_offu (yu rfl rfl rfl) ?_
              refine wl_offu (yu rfl rfl rfl) ?_
              refine wl_offu (yu rfl rfl rfl) ?_
              refine wl_offu (yu rfl rfl rfl) ?_
              refine wl_offu (yu rfl rfl rfl) ?_
              refine wl_offu (yu rfl rfl rfl) ?_
              refine wl_off (yl rfl rfl rfl) rfl ?_
              refine wl_pick_t true (.bool true) rfl rfl rfl ?_
              refine wl_move (.bool true) rfl ?_
              refine wl_off (yl rfl rfl rfl) rfl ?_
              refine wl_off (yl rfl rfl rfl) rfl ?_
              refine wl_pick_t true (.bool true) rfl rfl rfl ?_
              refine wl_nil ?_
              refine qn ?_
              have B319 := (B307.step0 s313)
              have B320 := (B314.step0 s313)
              have B321 := (B315.step0 s313)
              have B322 := (B304.step0 s313)
              exact ⟨_, _, _, true, rfl, (by omega), (by omega), fr316, s313.ext, z239, ((q222 3 rfl).trans rfl), ((q222 4 rfl).trans rfl), rfl, rfl, rfl, rfl, rfl, rfl, rfl, rfl, rfl, B319, B320, B321, B322, h⟩
            · replace h := (if_neg c318).symm.trans h
              have b323 : (t240.2 != 0) = false := Bool.eq_false_iff.2 c318
              refine wl_on (yl rfl rfl rfl) b323 ?_
              refine wl_move (.string (bs t240.1)) rfl ?_
              refine wl_on (yl rfl rfl rfl) b323 ?_
              have B324 := (B307.step0 s313)
              refine wl_loadb B324 ty23 ((q222 3 rfl).trans rfl) [.int .i64 t19.Id, .int .i64 t19.Kind, .string (bs t19.Repo), .string (bs t19.Digest), .int .i64 t19.Upload, .int .i64 t19.Offset, .string (bs t19.Data)] rfl rfl ?_
              refine wl_on (yl rfl rfl rfl) b323 ?_
              obtain ⟨t325, h326, h⟩ := Option.bind_eq_some_iff.1 h
              have B331 := (B314.step0 s313)
              have B332 := (B315.step0 s313)
              have B333 := (B304.step0 s313)
              refine wl_call [.agg #[.int .i64 t19.Id, .int .i64 t19.Kind, .string (bs t19.Repo), .string (bs t19.Digest), .int .i64 t19.Upload, .int .i64 t19.Offset, .string (bs t19.Data)]] bod10 (mc rfl (mn _)) (consignorref21_Ask.ok k fr316.wf t19 _ h326) ?_
              rintro e327 w328 ⟨hw329, rfl, s330⟩
              refine ⟨_, rfl, ?_⟩
              have fr334 := fr316.then0 s330
              refine wl_on (yl rfl rfl rfl) b323 ?_
              refine wl_neqs rfl rfl ?_
              refine wl_on (yl rfl rfl rfl) c317 ?_
              refine wl_pick_f (t240.2 != 0) (.bool (!(t240.1 == t325))) rfl b323 rfl ?_
              refine wl_pick_t t308 (.bool (!(t240.1 == t325))) rfl c317 rfl ?_
              refine wl_move (.bool (!(t240.1 == t325))) rfl ?_
              by_cases c335 : (t240.1 == t325) = true
              · replace h := (if_pos c335).symm.trans h
                refine wl_on (yl rfl rfl rfl) (by rw [c335] <;> rfl) ?_
                have B336 := (B324.step0 s330)
                refine wl_loadb B336 ty23 ((q222 3 rfl).trans rfl) [.int .i64 t19.Id, .int .i64 t19.Kind, .string (bs t19.Repo), .string (bs t19.Digest), .int .i64 t19.Upload, .int .i64 t19.Offset, .string (bs t19.Data)] rfl rfl ?_
                refine wl_on (yl rfl rfl rfl) (by rw [c335] <;> rfl) ?_
                obtain ⟨t337, h338, h⟩ := Option.bind_eq_some_iff.1 h
                have B343 := (B331.step0 s330)
                have B344 := (B332.step0 s330)
                have B345 := (B333.step0 s330)
                refine wl_call [.agg #[.int .i64 t19.Id, .int .i64 t19.Kind, .string (bs t19.Repo), .string (bs t19.Digest), .int .i64 t19.Upload, .int .i64 t19.Offset, .string (bs t19.Data)]] bod9 (mc rfl (mn _)) (consignorref21_IsAsk.ok k fr334.wf t19 _ h338) ?_
                rintro e339 w340 ⟨hw341, rfl, s342⟩
                refine ⟨_, rfl, ?_⟩
                have fr346 := fr334.then0 s342
                refine wl_on (yl rfl rfl rfl) (by rw [c335] <;> rfl) ?_
                refine wl_not rfl ?_
                refine wl_on (yl rfl rfl rfl) (by rw [c335] <;> rfl) ?_
                refine wl_move (.bool (!t337)) rfl ?_
                by_cases c347 : t337 = true
                · replace h := (if_pos c347).symm.trans h
                  refine wl_off (yl rfl rfl rfl) (by rw [c347] <;> rfl) ?_
                  refine wl_off (yl rfl rfl rfl) (by rw [c347] <;> rfl) ?_
                  refine wl_off (yl rfl rfl rfl) (by rw [c347] <;> rfl) ?_
                  refine wl_offu (yu rfl rfl rfl) ?_
                  refine wl_offu (yu rfl rfl rfl) ?_
                  refine wl_off (yl rfl rfl rfl) (by rw [c347] <;> rfl) ?_
                  refine wl_on (yl rfl rfl rfl) (by rw [c335] <;> rfl) ?_
                  refine wl_pick_f (!t337) (.bool false) rfl (by rw [c347] <;> rfl) rfl ?_
                  refine wl_pick_f (!(t240.1 == t325)) (.bool false) rfl (by rw [c335] <;> rfl) rfl ?_
                  refine wl_move (.bool false) rfl ?_
                  refine wl_on (yl rfl rfl rfl) rfl ?_
                  have f348 := f280.ext (s286.ext.trans (s292.ext.trans (s303.ext.trans (s313.ext.trans (s330.ext.trans (s342.ext))))))
                  obtain ⟨t349, h350, h⟩ := Option.bind_eq_some_iff.1 h
                  have B355 := (B336.step0 s342)
                  have B356 := (B343.step0 s342)
                  have B357 := (B344.step0 s342)
                  have B358 := (B345.step0 s342)
                  refine wl_call [] bod11 (mn _) (consignorlaw21_alive.ok k fr346.wf f348 _ h350) ?_
                  rintro e351 w352 ⟨hw353, rfl, s354⟩
                  refine ⟨_, rfl, ?_⟩
                  have fr359 := fr346.then0 s354
                  refine wl_on (yl rfl rfl rfl) rfl ?_
                  refine wl_not rfl ?_
                  refine wl_pick_f false (.bool (!t349)) rfl rfl rfl ?_
                  refine wl_nil ?_
                  refine qn ?_
                  have B360 := (B355.step0 s354)
                  have B361 := (B356.step0 s354)
                  have B362 := (B357.step0 s354)
                  have B363 := (B358.step0 s354)
                  exact ⟨_, _, _, (!t349), rfl, (by omega), (by omega), fr359, (Ext.trans s313.ext (Ext.trans s330.ext (Ext.trans s342.ext s354.ext))), z239, ((q222 3 rfl).trans rfl), ((q222 4 rfl).trans rfl), rfl, rfl, rfl, rfl, rfl, rfl, rfl, rfl, rfl, B360, B361, B362, B363, h⟩
                · replace h := (if_neg c347).symm.trans h
                  have b364 : t337 = false := Bool.eq_false_iff.2 c347
                  refine wl_on (yl rfl rfl rfl) (by rw [b364] <;> rfl) ?_
                  refine wl_move (.int .i64 t240.2) rfl ?_
                  refine wl_on (yl rfl rfl rfl) (by rw [b364] <;> rfl) ?_
                  refine wl_neq rfl rfl ?_
                  refine wl_on (yl rfl rfl rfl) (by rw [b364] <;> rfl) ?_
                  refine wl_move (.bool (t240.2 != 1)) rfl ?_
                  by_cases c365 : (t240.2 != 1) = true
                  · replace h := (if_pos c365).symm.trans h
                    refine wl_off (yl rfl rfl rfl) c365 ?_
                    refine wl_off (yl rfl rfl rfl) c365 ?_
                    refine wl_on (yl rfl rfl rfl) (by rw [b364] <;> rfl) ?_
                    refine wl_pick_t (t240.2 != 1) (.bool true) rfl c365 rfl ?_
                    refine wl_on (yl rfl rfl rfl) (by rw [c335] <;> rfl) ?_
                    refine wl_pick_t (!t337) (.bool true) rfl (by rw [b364] <;> rfl) rfl ?_
                    refine wl_pick_f (!(t240.1 == t325)) (.bool true) rfl (by rw [c335] <;> rfl) rfl ?_
                    refine wl_move (.bool true) rfl ?_
                    refine wl_off (yl rfl rfl rfl) rfl ?_
                    refine wl_off (yl rfl rfl rfl) rfl ?_
                    refine wl_pick_t true (.bool true) rfl rfl rfl ?_
                    refine wl_nil ?_
                    refine qn ?_
                    have B366 := (B336.step0 s342)
                    have B367 := (B343.step0 s342)
                    have B368 := (B344.step0 s342)
                    have B369 := (B345.step0 s342)
                    exact ⟨_, _, _, true, rfl, (by omega), (by omega), fr346, (Ext.trans s313.ext (Ext.trans s330.ext s342.ext)), z239, ((q222 3 rfl).trans rfl), ((q222 4 rfl).trans rfl), rfl, rfl, rfl, rfl, rfl, rfl, rfl, rfl, rfl, B366, B367, B368, B369, h⟩
                  · replace h := (if_neg c365).symm.trans h
                    have b370 : (t240.2 != 1) = false := Bool.eq_false_iff.2 c365
                    refine wl_on (yl rfl rfl rfl) b370 ?_
                    refine wl_move (.string (bs t240.1)) rfl ?_
                    refine wl_on (yl rfl rfl rfl) b370 ?_
                    refine wl_neqs rfl rfl ?_
                    refine wl_on (yl rfl rfl rfl) (by rw [b364] <;> rfl) ?_
                    refine wl_pick_f (t240.2 != 1) (.bool (!(t240.1 == []))) rfl b370 rfl ?_
                    refine wl_on (yl rfl rfl rfl) (by rw [c335] <;> rfl) ?_
                    refine wl_pick_t (!t337) (.bool (!(t240.1 == []))) rfl (by rw [b364] <;> rfl) rfl ?_
                    refine wl_pick_f (!(t240.1 == t325)) (.bool (!(t240.1 == []))) rfl (by rw [c335] <;> rfl) rfl ?_
                    refine wl_move (.bool (!(t240.1 == []))) rfl ?_
                    by_cases c371 : (t240.1 == []) = true
                    · replace h := (if_pos c371).symm.trans h
                      refine wl_on (yl rfl rfl rfl) (by rw [c371] <;> rfl) ?_
                      have f372 := f280.ext (s286.ext.trans (s292.ext.trans (s303.ext.trans (s313.ext.trans (s330.ext.trans (s342.ext))))))
                      obtain ⟨t373, h374, h⟩ := Option.bind_eq_some_iff.1 h
                      have B379 := (B336.step0 s342)
                      have B380 := (B343.step0 s342)
                      have B381 := (B344.step0 s342)
                      have B382 := (B345.step0 s342)
                      refine wl_call [] bod11 (mn _) (consignorlaw21_alive.ok k fr346.wf f372 _ h374) ?_
                      rintro e375 w376 ⟨hw377, rfl, s378⟩
                      refine ⟨_, rfl, ?_⟩
                      have fr383 := fr346.then0 s378
                      refine wl_on (yl rfl rfl rfl) (by rw [c371] <;> rfl) ?_
                      refine wl_not rfl ?_
                      refine wl_pick_f (!(t240.1 == [])) (.bool (!t373)) rfl (by rw [c371] <;> rfl) rfl ?_
                      refine wl_nil ?_
                      refine qn ?_
                      have B384 := (B379.step0 s378)
                      have B385 := (B380.step0 s378)
                      have B386 := (B381.step0 s378)
                      have B387 := (B382.step0 s378)
                      exact ⟨_, _, _, (!t373), rfl, (by omega), (by omega), fr383, (Ext.trans s313.ext (Ext.trans s330.ext (Ext.trans s342.ext s378.ext))), z239, ((q222 3 rfl).trans rfl), ((q222 4 rfl).trans rfl), rfl, rfl, rfl, rfl, rfl, rfl, rfl, rfl, rfl, B384, B385, B386, B387, h⟩
                    · replace h := (if_neg c371).symm.trans h
                      have b388 : (t240.1 == []) = false := Bool.eq_false_iff.2 c371
                      refine wl_off (yl rfl rfl rfl) (by rw [b388] <;> rfl) ?_
                      refine wl_off (yl rfl rfl rfl) (by rw [b388] <;> rfl) ?_
                      refine wl_pick_t (!(t240.1 == [])) (.bool true) rfl (by rw [b388] <;> rfl) rfl ?_
                      refine wl_nil ?_
                      refine qn ?_
                      have B389 := (B336.step0 s342)
                      have B390 := (B343.step0 s342)
                      have B391 := (B344.step0 s342)
                      have B392 := (B345.step0 s342)
                      exact ⟨_, _, _, true, rfl, (by omega), (by omega), fr346, (Ext.trans s313.ext (Ext.trans s330.ext s342.ext)), z239, ((q222 3 rfl).trans rfl), ((q222 4 rfl).trans rfl), rfl, rfl, rfl, rfl, rfl, rfl, rfl, rfl, rfl, B389, B390, B391, B392, h⟩
              · replace h := (if_neg c335).symm.trans h
                have b393 : (t240.1 == t325) = false := Bool.eq_false_iff.2 c335
                refine wl_off (yl rfl rfl rfl) (by rw [b393] <;> rfl) ?_
                refine wl_off (yl rfl rfl rfl) (by rw [b393] <;> rfl) ?_
                refine wl_off (yl rfl rfl rfl) (by rw [b393] <;> rfl) ?_
                refine wl_off (yl rfl rfl rfl) (by rw [b393] <;> rfl) ?_
                refine wl_offu (yu rfl rfl rfl) ?_
                refine wl_offu (yu rfl rfl rfl) ?_
                refine wl_offu (yu rfl rfl rfl) ?_
                refine wl_offu (yu rfl rfl rfl) ?_
                refine wl_offu (yu rfl rfl rfl) ?_
                refine wl_offu (yu rfl rfl rfl) ?_
                refine wl_off (yl rfl rfl rfl) (by rw [b393] <;> rfl) ?_
                refine wl_pick_t (!(t240.1 == t325)) (.bool true) rfl (by rw [b393] <;> rfl) rfl ?_
                refine wl_move (.bool true) rfl ?_
                refine wl_off (yl rfl rfl rfl) rfl ?_
                refine wl_off (yl rfl rfl rfl) rfl ?_
                refine wl_pick_t true (.bool true) rfl rfl rfl ?_
                refine wl_nil ?_
                refine qn ?_
                have B394 := (B324.step0 s330)
                have B395 := (B331.step0 s330)
                have B396 := (B332.step0 s330)
                have B397 := (B333.step0 s330)
                exact ⟨_, _, _, true, rfl, (by omega), (by omega), fr334, (Ext.trans s313.ext s330.ext), z239, ((q222 3 rfl).trans rfl), ((q222 4 rfl).trans rfl), rfl, rfl, rfl, rfl, rfl, rfl, rfl, rfl, rfl, B394, B395, B396, B397, h⟩
          · replace h := (if_neg c317).symm.trans h
            have b398 : t308 = false := Bool.eq_false_iff.2 c317
            refine wl_off (yl rfl rfl rfl) b398 ?_
            refine wl_off (yl rfl rfl rfl) b398 ?_
            refine wl_off (yl rfl rfl rfl) b398 ?_
            refine wl_offu (yu rfl rfl rfl) ?_
            refine wl_offu (yu rfl rfl rfl) ?_
            refine wl_offu (yu rfl rfl rfl) ?_
            refine wl_offu (yu rfl rfl rfl) ?_
            refine wl_off (yl rfl rfl rfl) b398 ?_
            refine wl_pick_f t308 (.bool false) rfl b398 rfl ?_
            refine wl_move (.bool false) rfl ?_
            refine wl_on (yl rfl rfl rfl) rfl ?_
            have B399 := (B307.step0 s313)
            refine wl_loadb B399 ty23 ((q222 3 rfl).trans rfl) [.int .i64 t19.Id, .int .i64 t19.Kind, .string (bs t19.Repo), .string (bs t19.Digest), .int .i64 t19.Upload, .int .i64 t19.Offset, .string (bs t19.Data)] rfl rfl ?_
            refine wl_on (yl rfl rfl rfl) rfl ?_
            obtain ⟨t400, h401, h⟩ := Option.bind_eq_some_iff.1 h
            have B406 := (B314.step0 s313)
            have B407 := (B315.step0 s313)
            have B408 := (B304.step0 s313)
            refine wl_call [.agg #[.int .i64 t19.Id, .int .i64 t19.Kind, .string (bs t19.Repo), .string (bs t19.Digest), .int .i64 t19.Upload, .int .i64 t19.Offset, .string (bs t19.Data)]] bod9 (mc rfl (mn _)) (consignorref21_IsAsk.ok k fr316.wf t19 _ h401) ?_
            rintro e402 w403 ⟨hw404, rfl, s405⟩
            refine ⟨_, rfl, ?_⟩
            have fr409 := fr316.then0 s405
            refine wl_on (yl rfl rfl rfl) rfl ?_
            refine wl_not rfl ?_
            refine wl_on (yl rfl rfl rfl) rfl ?_
            refine wl_move (.bool (!t400)) rfl ?_
            by_cases c410 : t400 = true
            · replace h := (if_pos c410).symm.trans h
              refine wl_off (yl rfl rfl rfl) (by rw [c410] <;> rfl) ?_
              refine wl_off (yl rfl rfl rfl) (by rw [c410] <;> rfl) ?_
              refine wl_off (yl rfl rfl rfl) (by rw [c410] <;> rfl) ?_
              refine wl_offu (yu rfl rfl rfl) ?_
              refine wl_offu (yu rfl rfl rfl) ?_
              refine wl_off (yl rfl rfl rfl) (by rw [c410] <;> rfl) ?_
              refine wl_on (yl rfl rfl rfl) rfl ?_
              refine wl_pick_f (!t400) (.bool false) rfl (by rw [c410] <;> rfl) rfl ?_
              refine wl_pick_f false (.bool false) rfl rfl rfl ?_
              refine wl_move (.bool false) rfl ?_
              refine wl_on (yl rfl rfl rfl) rfl ?_
              have f411 := f280.ext (s286.ext.trans (s292.ext.trans (s303.ext.trans (s313.ext.trans (s405.ext)))))
              obtain ⟨t412, h413, h⟩ := Option.bind_eq_some_iff.1 h
              have B418 := (B399.step0 s405)
              have B419 := (B406.step0 s405)
              have B420 := (B407.step0 s405)
              have B421 := (B408.step0 s405)
              refine wl_call [] bod11 (mn _) (consignorlaw21_alive.ok k fr409.wf f411 _ h413) ?_
              rintro e414 w415 ⟨hw416, rfl, s417⟩
              refine ⟨_, rfl, ?_⟩
              have fr422 := fr409.then0 s417
              refine wl_on (yl rfl rfl rfl) rfl ?_
              refine wl_not rfl ?_
              refine wl_pick_f false (.bool (!t412)) rfl rfl rfl ?_
              refine wl_nil ?_
              refine qn ?_
              have B423 := (B418.step0 s417)
              have B424 := (B419.step0 s417)
              have B425 := (B420.step0 s417)
              have B426 := (B421.step0 s417)
              exact ⟨_, _, _, (!t412), rfl, (by omega), (by omega), fr422, (Ext.trans s313.ext (Ext.trans s405.ext s417.ext)), z239, ((q222 3 rfl).trans rfl), ((q222 4 rfl).trans rfl), rfl, rfl, rfl, rfl, rfl, rfl, rfl, rfl, rfl, B423, B424, B425, B426, h⟩
            · replace h := (if_neg c410).symm.trans h
              have b427 : t400 = false := Bool.eq_false_iff.2 c410
              refine wl_on (yl rfl rfl rfl) (by rw [b427] <;> rfl) ?_
              refine wl_move (.int .i64 t240.2) rfl ?_
              refine wl_on (yl rfl rfl rfl) (by rw [b427] <;> rfl) ?_
              refine wl_neq rfl rfl ?_
              refine wl_on (yl rfl rfl rfl) (by rw [b427] <;> rfl) ?_
              refine wl_move (.bool (t240.2 != 1)) rfl ?_
              by_cases c428 : (t240.2 != 1) = true
              · replace h := (if_pos c428).symm.trans h
                refine wl_off (yl rfl rfl rfl) c428 ?_
                refine wl_off (yl rfl rfl rfl) c428 ?_
                refine wl_on (yl rfl rfl rfl) (by rw [b427] <;> rfl) ?_
                refine wl_pick_t (t240.2 != 1) (.bool true) rfl c428 rfl ?_
                refine wl_on (yl rfl rfl rfl) rfl ?_
                refine wl_pick_t (!t400) (.bool true) rfl (by rw [b427] <;> rfl) rfl ?_
                refine wl_pick_f false (.bool true) rfl rfl rfl ?_
                refine wl_move (.bool true) rfl ?_
                refine wl_off (yl rfl rfl rfl) rfl ?_
                refine wl_off (yl rfl rfl rfl) rfl ?_
                refine wl_pick_t true (.bool true) rfl rfl rfl ?_
                refine wl_nil ?_
                refine qn ?_
                have B429 := (B399.step0 s405)
                have B430 := (B406.step0 s405)
                have B431 := (B407.step0 s405)
                have B432 := (B408.step0 s405)
                exact ⟨_, _, _, true, rfl, (by omega), (by omega), fr409, (Ext.trans s313.ext s405.ext), z239, ((q222 3 rfl).trans rfl), ((q222 4 rfl).trans rfl), rfl, rfl, rfl, rfl, rfl, rfl, rfl, rfl, rfl, B429, B430, B431, B432, h⟩
              · replace h := (if_neg c428).symm.trans h
                have b433 : (t240.2 != 1) = false := Bool.eq_false_iff.2 c428
                refine wl_on (yl rfl rfl rfl) b433 ?_
                refine wl_move (.string (bs t240.1)) rfl ?_
                refine wl_on (yl rfl rfl rfl) b433 ?_
                refine wl_neqs rfl rfl ?_
                refine wl_on (yl rfl rfl rfl) (by rw [b427] <;> rfl) ?_
                refine wl_pick_f (t240.2 != 1) (.bool (!(t240.1 == []))) rfl b433 rfl ?_
                refine wl_on (yl rfl rfl rfl) rfl ?_
                refine wl_pick_t (!t400) (.bool (!(t240.1 == []))) rfl (by rw [b427] <;> rfl) rfl ?_
                refine wl_pick_f false (.bool (!(t240.1 == []))) rfl rfl rfl ?_
                refine wl_move (.bool (!(t240.1 == []))) rfl ?_
                by_cases c434 : (t240.1 == []) = true
                · replace h := (if_pos c434).symm.trans h
                  refine wl_on (yl rfl rfl rfl) (by rw [c434] <;> rfl) ?_
                  have f435 := f280.ext (s286.ext.trans (s292.ext.trans (s303.ext.trans (s313.ext.trans (s405.ext)))))
                  obtain ⟨t436, h437, h⟩ := Option.bind_eq_some_iff.1 h
                  have B442 := (B399.step0 s405)
                  have B443 := (B406.step0 s405)
                  have B444 := (B407.step0 s405)
                  have B445 := (B408.step0 s405)
                  refine wl_call [] bod11 (mn _) (consignorlaw21_alive.ok k fr409.wf f435 _ h437) ?_
                  rintro e438 w439 ⟨hw440, rfl, s441⟩
                  refine ⟨_, rfl, ?_⟩
                  have fr446 := fr409.then0 s441
                  refine wl_on (yl rfl rfl rfl) (by rw [c434] <;> rfl) ?_
                  refine wl_not rfl ?_
                  refine wl_pick_f (!(t240.1 == [])) (.bool (!t436)) rfl (by rw [c434] <;> rfl) rfl ?_
                  refine wl_nil ?_
                  refine qn ?_
                  have B447 := (B442.step0 s441)
                  have B448 := (B443.step0 s441)
                  have B449 := (B444.step0 s441)
                  have B450 := (B445.step0 s441)
                  exact ⟨_, _, _, (!t436), rfl, (by omega), (by omega), fr446, (Ext.trans s313.ext (Ext.trans s405.ext s441.ext)), z239, ((q222 3 rfl).trans rfl), ((q222 4 rfl).trans rfl), rfl, rfl, rfl, rfl, rfl, rfl, rfl, rfl, rfl, B447, B448, B449, B450, h⟩
                · replace h := (if_neg c434).symm.trans h
                  have b451 : (t240.1 == []) = false := Bool.eq_false_iff.2 c434
                  refine wl_off (yl rfl rfl rfl) (by rw [b451] <;> rfl) ?_
                  refine wl_off (yl rfl rfl rfl) (by rw [b451] <;> rfl) ?_
                  refine wl_pick_t (!(t240.1 == [])) (.bool true) rfl (by rw [b451] <;> rfl) rfl ?_
                  refine wl_nil ?_
                  refine qn ?_
                  have B452 := (B399.step0 s405)
                  have B453 := (B406.step0 s405)
                  have B454 := (B407.step0 s405)
                  have B455 := (B408.step0 s405)
                  exact ⟨_, _, _, true, rfl, (by omega), (by omega), fr409, (Ext.trans s313.ext s405.ext), z239, ((q222 3 rfl).trans rfl), ((q222 4 rfl).trans rfl), rfl, rfl, rfl, rfl, rfl, rfl, rfl, rfl, rfl, B452, B453, B454, B455, h⟩
        · rintro _ w456 ⟨_, hw457, k458, x306, rfl, hk461, hk462, fr459, e460, z463, z464, z465, z466, z467, z468, z469, z470, z471, z472, z473, z474, B475, B476, B477, B478, h⟩
          rcases k458 with _ | k458
          · rw [consignorlaw21_CourierTexts.j0] at h; cases h
          rw [consignorlaw21_CourierTexts.j0] at h
          by_cases c479 : x306 = true
          · replace h := (if_pos c479).symm.trans h
            refine wc_then z474 c479 ?_
            refine wc_seq ?_
            refine wc_region ?_
            refine wl_assign (.bool false) rfl ?_
            refine wl_nil ?_
            refine qn ?_
            refine wc_ret ?_
            refine qr ?_
            have h := Option.some.inj h
            subst h
            refine end1 rfl (.tmp rfl .nil) ?_
            exact ⟨_, rfl, fr459⟩
          · replace h := (if_neg c479).symm.trans h
            have b480 : x306 = false := Bool.eq_false_iff.2 c479
            refine wc_else z474 b480 ?_
            refine wc_skip ?_
            refine qn ?_
            refine wc_seq ?_
            refine wc_cut (fun a w => ∃ (σ : Nat → Value) (hw : Hw) (kq : Nat) (x481 : Bool), a = mkA 180 σ ∧ kq ≤ k458 ∧ kq ≤ k458 ∧ Stp none w0 hw0 w hw ∧ Ext w456 hw457 w hw ∧ σ 2 = .string (bs ((a2.take (Int.toNat (if 1500 < (a2.length : Int) then 1500 else (a2.length : Int)))).drop (Int.toNat 0))) ∧ σ 3 = .pointer (some ⟨b1, 0, none⟩) ∧ σ 4 = .pointer (some ⟨b7, 0, none⟩) ∧ σ 7 = .string (bs t240.1) ∧ σ 8 = .int .i64 t240.2 ∧ σ 9 = .string (bs t248.1) ∧ σ 10 = .int .i64 t248.2 ∧ σ 11 = .pointer (some ⟨b266, 0, none⟩) ∧ σ 12 = .int .i64 t257.2 ∧ σ 13 = .pointer (some ⟨b290, 0, none⟩) ∧ σ 14 = .int .i64 t281.2 ∧ σ 99 = .bool x481 ∧ Box w0.heap.size w hw b1 23 [.int .i64 t19.Id, .int .i64 t19.Kind, .string (bs t19.Repo), .string (bs t19.Digest), .int .i64 t19.Upload, .int .i64 t19.Offset, .string (bs t19.Data)] ∧ Box w0.heap.size w hw b7 26 [.int .i64 a1.Id, .int .i64 a1.Err, .int .i64 a1.N] ∧ Box w0.heap.size w hw b266 23 [.int .i64 t257.1.Id, .int .i64 t257.1.Kind, .string (bs t257.1.Repo), .string (bs t257.1.Digest), .int .i64 t257.1.Upload, .int .i64 t257.1.Offset, .string (bs t257.1.Data)] ∧ Box w0.heap.size w hw b290 26 [.int .i64 t281.1.Id, .int .i64 t281.1.Err, .int .i64 t281.1.N] ∧ consignorlaw21_CourierTexts.j1 kq a1 a2 t19 t240 t248 t257 t281 x481 = some r) ?_ ?_
            · skip
              refine wc_region ?_
              refine wl_loadb B476 ty26 z465 [.int .i64 a1.Id, .int .i64 a1.Err, .int .i64 a1.N] rfl rfl ?_
              obtain ⟨t482, h483, h⟩ := Option.bind_eq_some_iff.1 h
              refine wl_call [.agg #[.int .i64 a1.Id, .int .i64 a1.Err, .int .i64 a1.N]] bod12 (mc rfl (mn _)) (consignorref21_IsAnswer.ok k458 fr459.wf a1 _ h483) ?_
              rintro e484 w485 ⟨hw486, rfl, s487⟩
              refine ⟨_, rfl, ?_⟩
              have fr488 := fr459.then0 s487
              refine wl_move (.bool t482) rfl ?_
              by_cases c489 : t482 = true
              · replace h := (if_pos c489).symm.trans h
                refine wl_on (yl rfl rfl rfl) c489 ?_
                refine wl_move (.int .i64 t248.2) z469 ?_
                refine wl_on (yl rfl rfl rfl) c489 ?_
                refine wl_neq rfl rfl ?_
                refine wl_on (yl rfl rfl rfl) c489 ?_
                refine wl_move (.bool (t248.2 != 0)) rfl ?_
                by_cases c490 : (t248.2 != 0) = true
                · replace h := (if_pos c490).symm.trans h
                  refine wl_off (yl rfl rfl rfl) c490 ?_
                  refine wl_off (yl rfl rfl rfl) c490 ?_
                  refine wl_off (yl rfl rfl rfl) c490 ?_
                  refine wl_off (yl rfl rfl rfl) c490 ?_
                  refine wl_on (yl rfl rfl rfl) c489 ?_
                  refine wl_pick_t (t248.2 != 0) (.bool true) rfl c490 rfl ?_
                  refine wl_pick_t t482 (.bool true) rfl c489 rfl ?_
                  refine wl_move (.bool true) rfl ?_
                  refine wl_off (yl rfl rfl rfl) rfl ?_
                  refine wl_off (yl rfl rfl rfl) rfl ?_
                  refine wl_off (yl rfl rfl rfl) rfl ?_
                  refine wl_off (yl rfl rfl rfl) rfl ?_
                  refine wl_offu (yu rfl rfl rfl) ?_
                  refine wl_offu (yu rfl rfl rfl) ?_
                  refine wl_offu (yu rfl rfl rfl) ?_
                  refine wl_offu (yu rfl rfl rfl) ?_
                  refine wl_offu (yu rfl rfl rfl) ?_
                  refine wl_offu (yu rfl rfl rfl) ?_
                  refine wl_off (yl rfl rfl rfl) rfl ?_
                  refine wl_pick_t true (.bool true) rfl rfl rfl ?_
                  refine wl_nil ?_
                  refine qn ?_
                  have B491 := (B475.step0 s487)
                  have B492 := (B476.step0 s487)
                  have B493 := (B477.step0 s487)
                  have B494 := (B478.step0 s487)
                  exact ⟨_, _, _, true, rfl, (by omega), (by omega), fr488, s487.ext, z463, z464, z465, z466, z467, z468, z469, z470, z471, z472, z473, rfl, B491, B492, B493, B494, h⟩
                · replace h := (if_neg c490).symm.trans h
                  have b495 : (t248.2 != 0) = false := Bool.eq_false_iff.2 c490
                  refine wl_on (yl rfl rfl rfl) b495 ?_
                  refine wl_move (.string (bs t248.1)) z468 ?_
                  refine wl_on (yl rfl rfl rfl) b495 ?_
                  have B496 := (B476.step0 s487)
                  refine wl_loadb B496 ty26 z465 [.int .i64 a1.Id, .int .i64 a1.Err, .int .i64 a1.N] rfl rfl ?_
                  refine wl_on (yl rfl rfl rfl) b495 ?_
                  obtain ⟨t497, h498, h⟩ := Option.bind_eq_some_iff.1 h
                  have B503 := (B475.step0 s487)
                  have B504 := (B477.step0 s487)
                  have B505 := (B478.step0 s487)
                  refine wl_call [.agg #[.int .i64 a1.Id, .int .i64 a1.Err, .int .i64 a1.N]] bod13 (mc rfl (mn _)) (consignorref21_Answer.ok k458 fr488.wf a1 _ h498) ?_
                  rintro e499 w500 ⟨hw501, rfl, s502⟩
                  refine ⟨_, rfl, ?_⟩
                  have fr506 := fr488.then0 s502
                  refine wl_on (yl rfl rfl rfl) b495 ?_
                  refine wl_neqs rfl rfl ?_
                  refine wl_on (yl rfl rfl rfl) c489 ?_
                  refine wl_pick_f (t248.2 != 0) (.bool (!(t248.1 == t497))) rfl b495 rfl ?_
                  refine wl_pick_t t482 (.bool (!(t248.1 == t497))) rfl c489 rfl ?_
                  refine wl_move (.bool (!(t248.1 == t497))) rfl ?_
                  by_cases c507 : (t248.1 == t497) = true
                  · replace h := (if_pos c507).symm.trans h
                    refine wl_on (yl rfl rfl rfl) (by rw [c507] <;> rfl) ?_
                    have B508 := (B496.step0 s502)
                    refine wl_loadb B508 ty26 z465 [.int .i64 a1.Id, .int .i64 a1.Err, .int .i64 a1.N] rfl rfl ?_
                    refine wl_on (yl rfl rfl rfl) (by rw [c507] <;> rfl) ?_
                    obtain ⟨t509, h510, h⟩ := Option.bind_eq_some_iff.1 h
                    have B515 := (B503.step0 s502)
                    have B516 := (B504.step0 s502)
                    have B517 := (B505.step0 s502)
                    refine wl_call [.agg #[.int .i64 a1.Id, .int .i64 a1.Err, .int .i64 a1.N]] bod12 (mc rfl (mn _)) (consignorref21_IsAnswer.ok k458 fr506.wf a1 _ h510) ?_
                    rintro e511 w512 ⟨hw513, rfl, s514⟩
                    refine ⟨_, rfl, ?_⟩
                    have fr518 := fr506.then0 s514
                    refine wl_on (yl rfl rfl rfl) (by rw [c507] <;> rfl) ?_
                    refine wl_not rfl ?_
                    refine wl_on (yl rfl rfl rfl) (by rw [c507] <;> rfl) ?_
                    refine wl_move (.bool (!t509)) rfl ?_
                    by_cases c519 : t509 = true
                    · replace h := (if_pos c519).symm.trans h
                      refine wl_off (yl rfl rfl rfl) (by rw [c519] <;> rfl) ?_
                      refine wl_off (yl rfl rfl rfl) (by rw [c519] <;> rfl) ?_
                      refine wl_off (yl rfl rfl rfl) (by rw [c519] <;> rfl) ?_
                      refine wl_offu (yu rfl rfl rfl) ?_
                      refine wl_offu (yu rfl rfl rfl) ?_
                      refine wl_off (yl rfl rfl rfl) (by rw [c519] <;> rfl) ?_
                      refine wl_on (yl rfl rfl rfl) (by rw [c507] <;> rfl) ?_
                      refine wl_pick_f (!t509) (.bool false) rfl (by rw [c519] <;> rfl) rfl ?_
                      refine wl_pick_f (!(t248.1 == t497)) (.bool false) rfl (by rw [c507] <;> rfl) rfl ?_
                      refine wl_nil ?_
                      refine qn ?_
                      have B520 := (B515.step0 s514)
                      have B521 := (B508.step0 s514)
                      have B522 := (B516.step0 s514)
                      have B523 := (B517.step0 s514)
                      exact ⟨_, _, _, false, rfl, (by omega), (by omega), fr518, (Ext.trans s487.ext (Ext.trans s502.ext s514.ext)), z463, z464, z465, z466, z467, z468, z469, z470, z471, z472, z473, rfl, B520, B521, B522, B523, h⟩
                    · replace h := (if_neg c519).symm.trans h
                      have b524 : t509 = false := Bool.eq_false_iff.2 c519
                      refine wl_on (yl rfl rfl rfl) (by rw [b524] <;> rfl) ?_
                      refine wl_move (.int .i64 t248.2) z469 ?_
                      refine wl_on (yl rfl rfl rfl) (by rw [b524] <;> rfl) ?_
                      refine wl_neq rfl rfl ?_
                      refine wl_on (yl rfl rfl rfl) (by rw [b524] <;> rfl) ?_
                      refine wl_move (.bool (t248.2 != 1)) rfl ?_
                      by_cases c525 : (t248.2 != 1) = true
                      · replace h := (if_pos c525).symm.trans h
                        refine wl_off (yl rfl rfl rfl) c525 ?_
                        refine wl_off (yl rfl rfl rfl) c525 ?_
                        refine wl_on (yl rfl rfl rfl) (by rw [b524] <;> rfl) ?_
                        refine wl_pick_t (t248.2 != 1) (.bool true) rfl c525 rfl ?_
                        refine wl_on (yl rfl rfl rfl) (by rw [c507] <;> rfl) ?_
                        refine wl_pick_t (!t509) (.bool true) rfl (by rw [b524] <;> rfl) rfl ?_
                        refine wl_pick_f (!(t248.1 == t497)) (.bool true) rfl (by rw [c507] <;> rfl) rfl ?_
                        refine wl_nil ?_
                        refine qn ?_
                        have B526 := (B515.step0 s514)
                        have B527 := (B508.step0 s514)
                        have B528 := (B516.step0 s514)
                        have B529 := (B517.step0 s514)
                        exact ⟨_, _, _, true, rfl, (by omega), (by omega), fr518, (Ext.trans s487.ext (Ext.trans s502.ext s514.ext)), z463, z464, z465, z466, z467, z468, z469, z470, z471, z472, z473, rfl, B526, B527, B528, B529, h⟩
                      · replace h := (if_neg c525).symm.trans h
                        have b530 : (t248.2 != 1) = false := Bool.eq_false_iff.2 c525
                        refine wl_on (yl rfl rfl rfl) b530 ?_
                        refine wl_move (.string (bs t248.1)) z468 ?_
                        refine wl_on (yl rfl rfl rfl) b530 ?_
                        refine wl_neqs rfl rfl ?_
                        refine wl_on (yl rfl rfl rfl) (by rw [b524] <;> rfl) ?_
                        refine wl_pick_f (t248.2 != 1) (.bool (!(t248.1 == []))) rfl b530 rfl ?_
                        refine wl_on (yl rfl rfl rfl) (by rw [c507] <;> rfl) ?_
                        refine wl_pick_t (!t509) (.bool (!(t248.1 == []))) rfl (by rw [b524] <;> rfl) rfl ?_
                        refine wl_pick_f (!(t248.1 == t497)) (.bool (!(t248.1 == []))) rfl (by rw [c507] <;> rfl) rfl ?_
                        refine wl_nil ?_
                        refine qn ?_
                        have B531 := (B515.step0 s514)
                        have B532 := (B508.step0 s514)
                        have B533 := (B516.step0 s514)
                        have B534 := (B517.step0 s514)
                        exact ⟨_, _, _, (!(t248.1 == [])), rfl, (by omega), (by omega), fr518, (Ext.trans s487.ext (Ext.trans s502.ext s514.ext)), z463, z464, z465, z466, z467, z468, z469, z470, z471, z472, z473, rfl, B531, B532, B533, B534, h⟩
                  · replace h := (if_neg c507).symm.trans h
                    have b535 : (t248.1 == t497) = false := Bool.eq_false_iff.2 c507
                    refine wl_off (yl rfl rfl rfl) (by rw [b535] <;> rfl) ?_
                    refine wl_off (yl rfl rfl rfl) (by rw [b535] <;> rfl) ?_
                    refine wl_off (yl rfl rfl rfl) (by rw [b535] <;> rfl) ?_
                    refine wl_off (yl rfl rfl rfl) (by rw [b535] <;> rfl) ?_
                    refine wl_offu (yu rfl rfl rfl) ?_
                    refine wl_offu (yu rfl rfl rfl) ?_
                    refine wl_offu (yu rfl rfl rfl) ?_
                    refine wl_offu (yu rfl rfl rfl) ?_
                    refine wl_offu (yu rfl rfl rfl) ?_
                    refine wl_offu (yu rfl rfl rfl) ?_
                    refine wl_off (yl rfl rfl rfl) (by rw [b535] <;> rfl) ?_
                    refine wl_pick_t (!(t248.1 == t497)) (.bool true) rfl (by rw [b535] <;> rfl) rfl ?_
                    refine wl_nil ?_
                    refine qn ?_
                    have B536 := (B503.step0 s502)
                    have B537 := (B496.step0 s502)
                    have B538 := (B504.step0 s502)
                    have B539 := (B505.step0 s502)
                    exact ⟨_, _, _, true, rfl, (by omega), (by omega), fr506, (Ext.trans s487.ext s502.ext), z463, z464, z465, z466, z467, z468, z469, z470, z471, z472, z473, rfl, B536, B537, B538, B539, h⟩
              · replace h := (if_neg c489).symm.trans h
                have b540 : t482 = false := Bool.eq_false_iff.2 c489
                refine wl_off (yl rfl rfl rfl) b540 ?_
                refine wl_off (yl rfl rfl rfl) b540 ?_
                refine wl_off (yl rfl rfl rfl) b540 ?_
                refine wl_offu (yu rfl rfl rfl) ?_
                refine wl_offu (yu rfl rfl rfl) ?_
                refine wl_offu (yu rfl rfl rfl) ?_
                refine wl_offu (yu rfl rfl rfl) ?_
                refine wl_off (yl rfl rfl rfl) b540 ?_
                refine wl_pick_f t482 (.bool false) rfl b540 rfl ?_
                refine wl_move (.bool false) rfl ?_
                refine wl_on (yl rfl rfl rfl) rfl ?_
                have B541 := (B476.step0 s487)
                refine wl_loadb B541 ty26 z465 [.int .i64 a1.Id, .int .i64 a1.Err, .int .i64 a1.N] rfl rfl ?_
                refine wl_on (yl rfl rfl rfl) rfl ?_
                obtain ⟨t542, h543, h⟩ := Option.bind_eq_some_iff.1 h
                have B548 := (B475.step0 s487)
                have B549 := (B477.step0 s487)
                have B550 := (B478.step0 s487)
                refine wl_call [.agg #[.int .i64 a1.Id, .int .i64 a1.Err, .int .i64 a1.N]] bod12 (mc rfl (mn _)) (consignorref21_IsAnswer.ok k458 fr488.wf a1 _ h543) ?_
                rintro e544 w545 ⟨hw546, rfl, s547⟩
                refine ⟨_, rfl, ?_⟩
                have fr551 := fr488.then0 s547
                refine wl_on (yl rfl rfl rfl) rfl ?_
                refine wl_not rfl ?_
                refine wl_on (yl rfl rfl rfl) rfl ?_
                refine wl_move (.bool (!t542)) rfl ?_
                by_cases c552 : t542 = true
                · replace h := (if_pos c552).symm.trans h
                  refine wl_off (yl rfl rfl rfl) (by rw [c552] <;> rfl) ?_
                  refine wl_off (yl rfl rfl rfl) (by rw [c552] <;> rfl) ?_
                  refine wl_off (yl rfl rfl rfl) (by rw [c552] <;> rfl) ?_
                  refine wl_offu (yu rfl rfl rfl) ?_
                  refine wl_offu (yu rfl rfl rfl) ?_
                  refine wl_off (yl rfl rfl rfl) (by rw [c552] <;> rfl) ?_
                  refine wl_on (yl rfl rfl rfl) rfl ?_
                  refine wl_pick_f (!t542) (.bool false) rfl (by rw [c552] <;> rfl) rfl ?_
                  refine wl_pick_f false (.bool false) rfl rfl rfl ?_
                  refine wl_nil ?_
                  refine qn ?_
                  have B553 := (B548.step0 s547)
                  have B554 := (B541.step0 s547)
                  have B555 := (B549.step0 s547)
                  have B556 := (B550.step0 s547)
                  exact ⟨_, _, _, false, rfl, (by omega), (by omega), fr551, (Ext.trans s487.ext s547.ext), z463, z464, z465, z466, z467, z468, z469, z470, z471, z472, z473, rfl, B553, B554, B555, B556, h⟩
                · replace h := (if_neg c552).symm.trans h
                  have b557 : t542 = false := Bool.eq_false_iff.2 c552
                  refine wl_on (yl rfl rfl rfl) (by rw [b557] <;> rfl) ?_
                  refine wl_move (.int .i64 t248.2) z469 ?_
                  refine wl_on (yl rfl rfl rfl) (by rw [b557] <;> rfl) ?_
                  refine wl_neq rfl rfl ?_
                  refine wl_on (yl rfl rfl rfl) (by rw [b557] <;> rfl) ?_
                  refine wl_move (.bool (t248.2 != 1)) rfl ?_
                  by_cases c558 : (t248.2 != 1) = true
                  · replace h := (if_pos c558).symm.trans h
                    refine wl_off (yl rfl rfl rfl) c558 ?_
                    refine wl_off (yl rfl rfl rfl) c558 ?_
                    refine wl_on (yl rfl rfl rfl) (by rw [b557] <;> rfl) ?_
                    refine wl_pick_t (t248.2 != 1) (.bool true) rfl c558 rfl ?_
                    refine wl_on (yl rfl rfl rfl) rfl ?_
                    refine wl_pick_t (!t542) (.bool true) rfl (by rw [b557] <;> rfl) rfl ?_
                    refine wl_pick_f false (.bool true) rfl rfl rfl ?_
                    refine wl_nil ?_
                    refine qn ?_
                    have B559 := (B548.step0 s547)
                    have B560 := (B541.step0 s547)
                    have B561 := (B549.step0 s547)
                    have B562 := (B550.step0 s547)
                    exact ⟨_, _, _, true, rfl, (by omega), (by omega), fr551, (Ext.trans s487.ext s547.ext), z463, z464, z465, z466, z467, z468, z469, z470, z471, z472, z473, rfl, B559, B560, B561, B562, h⟩
                  · replace h := (if_neg c558).symm.trans h
                    have b563 : (t248.2 != 1) = false := Bool.eq_false_iff.2 c558
                    refine wl_on (yl rfl rfl rfl) b563 ?_
                    refine wl_move (.string (bs t248.1)) z468 ?_
                    refine wl_on (yl rfl rfl rfl) b563 ?_
                    refine wl_neqs rfl rfl ?_
                    refine wl_on (yl rfl rfl rfl) (by rw [b557] <;> rfl) ?_
                    refine wl_pick_f (t248.2 != 1) (.bool (!(t248.1 == []))) rfl b563 rfl ?_
                    refine wl_on (yl rfl rfl rfl) rfl ?_
                    refine wl_pick_t (!t542) (.bool (!(t248.1 == []))) rfl (by rw [b557] <;> rfl) rfl ?_
                    refine wl_pick_f false (.bool (!(t248.1 == []))) rfl rfl rfl ?_
                    refine wl_nil ?_
                    refine qn ?_
                    have B564 := (B548.step0 s547)
                    have B565 := (B541.step0 s547)
                    have B566 := (B549.step0 s547)
                    have B567 := (B550.step0 s547)
                    exact ⟨_, _, _, (!(t248.1 == [])), rfl, (by omega), (by omega), fr551, (Ext.trans s487.ext s547.ext), z463, z464, z465, z466, z467, z468, z469, z470, z471, z472, z473, rfl, B564, B565, B566, B567, h⟩
            · rintro _ w568 ⟨_, hw569, k570, x481, rfl, hk573, hk574, fr571, e572, z575, z576, z577, z578, z579, z580, z581, z582, z583, z584, z585, z586, B587, B588, B589, B590, h⟩
              rcases k570 with _ | k570
              · rw [consignorlaw21_CourierTexts.j1] at h; cases h
              rw [consignorlaw21_CourierTexts.j1] at h
              by_cases c591 : x481 = true
              · replace h := (if_pos c591).symm.trans h
                refine wc_then z586 c591 ?_
                refine wc_seq ?_
                refine wc_region ?_
                refine wl_assign (.bool false) rfl ?_
                refine wl_nil ?_
                refine qn ?_
                refine wc_ret ?_
                refine qr ?_
                have h := Option.some.inj h
                subst h
                refine end1 rfl (.tmp rfl .nil) ?_
                exact ⟨_, rfl, fr571⟩
              · replace h := (if_neg c591).symm.trans h
                have b592 : x481 = false := Bool.eq_false_iff.2 c591
                refine wc_else z586 b592 ?_
                refine wc_skip ?_
                refine qn ?_
                refine wc_seq ?_
                refine wc_cut (fun a w => ∃ (σ : Nat → Value) (hw : Hw) (kq : Nat) (x593 : Bool), a = mkA 180 σ ∧ kq ≤ k570 ∧ kq ≤ k570 ∧ Stp none w0 hw0 w hw ∧ Ext w568 hw569 w hw ∧ σ 2 = .string (bs ((a2.take (Int.toNat (if 1500 < (a2.length : Int) then 1500 else (a2.length : Int)))).drop (Int.toNat 0))) ∧ σ 3 = .pointer (some ⟨b1, 0, none⟩) ∧ σ 4 = .pointer (some ⟨b7, 0, none⟩) ∧ σ 7 = .string (bs t240.1) ∧ σ 8 = .int .i64 t240.2 ∧ σ 9 = .string (bs t248.1) ∧ σ 10 = .int .i64 t248.2 ∧ σ 13 = .pointer (some ⟨b290, 0, none⟩) ∧ σ 14 = .int .i64 t281.2 ∧ σ 125 = .bool x593 ∧ Box w0.heap.size w hw b1 23 [.int .i64 t19.Id, .int .i64 t19.Kind, .string (bs t19.Repo), .string (bs t19.Digest), .int .i64 t19.Upload, .int .i64 t19.Offset, .string (bs t19.Data)] ∧ Box w0.heap.size w hw b7 26 [.int .i64 a1.Id, .int .i64 a1.Err, .int .i64 a1.N] ∧ Box w0.heap.size w hw b290 26 [.int .i64 t281.1.Id, .int .i64 t281.1.Err, .int .i64 t281.1.N] ∧ consignorlaw21_CourierTexts.j2 kq a1 a2 t19 t240 t248 t281 x593 = some r) ?_ ?_
                · skip
                  refine wc_region ?_
                  refine wl_move (.int .i64 t257.2) z583 ?_
                  refine wl_eql rfl rfl ?_
                  refine wl_move (.bool (t257.2 == 0)) rfl ?_
                  by_cases c594 : (t257.2 == 0) = true
                  · replace h := (if_pos c594).symm.trans h
                    refine wl_on (yl rfl rfl rfl) c594 ?_
                    refine wl_loadb B589 ty23 z582 [.int .i64 t257.1.Id, .int .i64 t257.1.Kind, .string (bs t257.1.Repo), .string (bs t257.1.Digest), .int .i64 t257.1.Upload, .int .i64 t257.1.Offset, .string (bs t257.1.Data)] rfl rfl ?_
                    refine wl_on (yl rfl rfl rfl) c594 ?_
                    obtain ⟨t595, h596, h⟩ := Option.bind_eq_some_iff.1 h
                    refine wl_call [.agg #[.int .i64 t257.1.Id, .int .i64 t257.1.Kind, .string (bs t257.1.Repo), .string (bs t257.1.Digest), .int .i64 t257.1.Upload, .int .i64 t257.1.Offset, .string (bs t257.1.Data)]] bod9 (mc rfl (mn _)) (consignorref21_IsAsk.ok k570 fr571.wf t257.1 _ h596) ?_
                    rintro e597 w598 ⟨hw599, rfl, s600⟩
                    refine ⟨_, rfl, ?_⟩
                    have fr601 := fr571.then0 s600
                    refine wl_on (yl rfl rfl rfl) c594 ?_
                    refine wl_not rfl ?_
                    refine wl_on (yl rfl rfl rfl) c594 ?_
                    refine wl_move (.bool (!t595)) rfl ?_
                    by_cases c602 : t595 = true
                    · replace h := (if_pos c602).symm.trans h
                      refine wl_on (yl rfl rfl rfl) (by rw [c602] <;> rfl) ?_
                      have B603 := (B589.step0 s600)
                      refine wl_loadb B603 ty23 z582 [.int .i64 t257.1.Id, .int .i64 t257.1.Kind, .string (bs t257.1.Repo), .string (bs t257.1.Digest), .int .i64 t257.1.Upload, .int .i64 t257.1.Offset, .string (bs t257.1.Data)] rfl rfl ?_
                      refine wl_on (yl rfl rfl rfl) (by rw [c602] <;> rfl) ?_
                      obtain ⟨t604, h605, h⟩ := Option.bind_eq_some_iff.1 h
                      have B610 := (B587.step0 s600)
                      have B611 := (B588.step0 s600)
                      have B612 := (B590.step0 s600)
                      refine wl_call [.agg #[.int .i64 t257.1.Id, .int .i64 t257.1.Kind, .string (bs t257.1.Repo), .string (bs t257.1.Digest), .int .i64 t257.1.Upload, .int .i64 t257.1.Offset, .string (bs t257.1.Data)]] bod10 (mc rfl (mn _)) (consignorref21_Ask.ok k570 fr601.wf t257.1 _ h605) ?_
                      rintro e606 w607 ⟨hw608, rfl, s609⟩
                      refine ⟨_, rfl, ?_⟩
                      have fr613 := fr601.then0 s609
                      refine wl_on (yl rfl rfl rfl) (by rw [c602] <;> rfl) ?_
                      refine wl_move (.string (bs ((a2.take (Int.toNat (if 1500 < (a2.length : Int) then 1500 else (a2.length : Int)))).drop (Int.toNat 0)))) z575 ?_
                      refine wl_on (yl rfl rfl rfl) (by rw [c602] <;> rfl) ?_
                      refine wl_neqs rfl rfl ?_
                      refine wl_on (yl rfl rfl rfl) c594 ?_
                      refine wl_pick_f (!t595) (.bool (!(t604 == ((a2.take (Int.toNat (if 1500 < (a2.length : Int) then 1500 else (a2.length : Int)))).drop (Int.toNat 0))))) rfl (by rw [c602] <;> rfl) rfl ?_
                      refine wl_pick_t (t257.2 == 0) (.bool (!(t604 == ((a2.take (Int.toNat (if 1500 < (a2.length : Int) then 1500 else (a2.length : Int)))).drop (Int.toNat 0))))) rfl c594 rfl ?_
                      refine wl_move (.bool (!(t604 == ((a2.take (Int.toNat (if 1500 < (a2.length : Int) then 1500 else (a2.length : Int)))).drop (Int.toNat 0))))) rfl ?_
                      by_cases c614 : (t604 == ((a2.take (Int.toNat (if 1500 < (a2.length : Int) then 1500 else (a2.length : Int)))).drop (Int.toNat 0))) = true
                      · replace h := (if_pos c614).symm.trans h
                        refine wl_on (yl rfl rfl rfl) (by rw [c614] <;> rfl) ?_
                        refine wl_move (.int .i64 t257.2) z583 ?_
                        refine wl_on (yl rfl rfl rfl) (by rw [c614] <;> rfl) ?_
                        refine wl_neq rfl rfl ?_
                        refine wl_on (yl rfl rfl rfl) (by rw [c614] <;> rfl) ?_
                        refine wl_move (.bool (t257.2 != 0)) rfl ?_
                        by_cases c615 : (t257.2 != 0) = true
                        · replace h := (if_pos c615).symm.trans h
                          refine wl_on (yl rfl rfl rfl) c615 ?_
                          refine wl_move (.int .i64 t257.2) z583 ?_
                          refine wl_on (yl rfl rfl rfl) c615 ?_
                          refine wl_neq rfl rfl ?_
                          refine wl_on (yl rfl rfl rfl) c615 ?_
                          refine wl_move (.bool (t257.2 != 6)) rfl ?_
                          by_cases c616 : (t257.2 != 6) = true
                          · replace h := (if_pos c616).symm.trans h
                            refine wl_off (yl rfl rfl rfl) c616 ?_
                            refine wl_off (yl rfl rfl rfl) c616 ?_
                            refine wl_off (yl rfl rfl rfl) c616 ?_
                            refine wl_on (yl rfl rfl rfl) c615 ?_
                            refine wl_pick_t (t257.2 != 6) (.bool true) rfl c616 rfl ?_
                            refine wl_on (yl rfl rfl rfl) (by rw [c614] <;> rfl) ?_
                            refine wl_pick_t (t257.2 != 0) (.bool true) rfl c615 rfl ?_
                            refine wl_pick_f (!(t604 == ((a2.take (Int.toNat (if 1500 < (a2.length : Int) then 1500 else (a2.length : Int)))).drop (Int.toNat 0)))) (.bool true) rfl (by rw [c614] <;> rfl) rfl ?_
                            refine wl_nil ?_
                            refine qn ?_
                            have B617 := (B610.step0 s609)
                            have B618 := (B611.step0 s609)
                            have B619 := (B612.step0 s609)
                            exact ⟨_, _, _, true, rfl, (by omega), (by omega), fr613, (Ext.trans s600.ext s609.ext), z575, z576, z577, z578, z579, z580, z581, z584, z585, rfl, B617, B618, B619, h⟩
                          · replace h := (if_neg c616).symm.trans h
                            have b620 : (t257.2 != 6) = false := Bool.eq_false_iff.2 c616
                            refine wl_on (yl rfl rfl rfl) b620 ?_
                            have B621 := (B603.step0 s609)
                            refine wl_loadb B621 ty23 z582 [.int .i64 t257.1.Id, .int .i64 t257.1.Kind, .string (bs t257.1.Repo), .string (bs t257.1.Digest), .int .i64 t257.1.Upload, .int .i64 t257.1.Offset, .string (bs t257.1.Data)] rfl rfl ?_
                            refine wl_on (yl rfl rfl rfl) b620 ?_
                            have hb622 : ∀ w, (Instr.build 23 #[]).run Tryd.prog w = .ok (.agg (List.toArray [.int .i64 0, .int .i64 0, .string (bs []), .string (bs []), .int .i64 0, .int .i64 0, .string (bs [])])) w := by intro  _; kernel_rfl
                            refine wl_build [.int .i64 0, .int .i64 0, .string (bs []), .string (bs []), .int .i64 0, .int .i64 0, .string (bs [])] (pn _ _) (hb622 _) ?_
                            refine wl_on (yl rfl rfl rfl) b620 ?_
                            refine wl_neqst guard23 rfl rfl (eqs23 t257.1.Id t257.1.Kind t257.1.Repo t257.1.Digest t257.1.Upload t257.1.Offset t257.1.Data 0 0 [] [] 0 0 [] _) ?_
                            refine wl_on (yl rfl rfl rfl) c615 ?_
                            refine wl_pick_f (t257.2 != 6) (.bool (!((t257.1.Id == 0) && ((t257.1.Kind == 0) && ((t257.1.Repo == []) && ((t257.1.Digest == []) && ((t257.1.Upload == 0) && ((t257.1.Offset == 0) && ((t257.1.Data == []) && true))))))))) rfl b620 rfl ?_
                            refine wl_on (yl rfl rfl rfl) (by rw [c614] <;> rfl) ?_
                            refine wl_pick_t (t257.2 != 0) (.bool (!((t257.1.Id == 0) && ((t257.1.Kind == 0) && ((t257.1.Repo == []) && ((t257.1.Digest == []) && ((t257.1.Upload == 0) && ((t257.1.Offset == 0) && ((t257.1.Data == []) && true))))))))) rfl c615 rfl ?_
                            refine wl_pick_f (!(t604 == ((a2.take (Int.toNat (if 1500 < (a2.length : Int) then 1500 else (a2.length : Int)))).drop (Int.toNat 0)))) (.bool (!((t257.1.Id == 0) && ((t257.1.Kind == 0) && ((t257.1.Repo == []) && ((t257.1.Digest == []) && ((t257.1.Upload == 0) && ((t257.1.Offset == 0) && ((t257.1.Data == []) && true))))))))) rfl (by rw [c614] <;> rfl) rfl ?_
                            refine wl_nil ?_
                            refine qn ?_
                            have B623 := (B610.step0 s609)
                            have B624 := (B611.step0 s609)
                            have B625 := (B612.step0 s609)
                            exact ⟨_, _, _, (!((t257.1.Id == 0) && ((t257.1.Kind == 0) && ((t257.1.Repo == []) && ((t257.1.Digest == []) && ((t257.1.Upload == 0) && ((t257.1.Offset == 0) && ((t257.1.Data == []) && true)))))))), rfl, (by omega), (by omega), fr613, (Ext.trans s600.ext s609.ext), z575, z576, z577, z578, z579, z580, z581, z584, z585, rfl, B623, B624, B625, h⟩
                        · replace h := (if_neg c615).symm.trans h
                          have b626 : (t257.2 != 0) = false := Bool.eq_false_iff.2 c615
                          refine wl_off (yl rfl rfl rfl) b626 ?_
                          refine wl_off (yl rfl rfl rfl) b626 ?_
                          refine wl_off (yl rfl rfl rfl) b626 ?_
                          refine wl_offu (yu rfl rfl rfl) ?_
                          refine wl_offu (yu rfl rfl rfl) ?_
                          refine wl_offu (yu rfl rfl rfl) ?_
                          refine wl_off (yl rfl rfl rfl) b626 ?_
                          refine wl_on (yl rfl rfl rfl) (by rw [c614] <;> rfl) ?_
                          refine wl_pick_f (t257.2 != 0) (.bool false) rfl b626 rfl ?_
                          refine wl_pick_f (!(t604 == ((a2.take (Int.toNat (if 1500 < (a2.length : Int) then 1500 else (a2.length : Int)))).drop (Int.toNat 0)))) (.bool false) rfl (by rw [c614] <;> rfl) rfl ?_
                          refine wl_nil ?_
                          refine qn ?_
                          have B627 := (B610.step0 s609)
                          have B628 := (B611.step0 s609)
                          have B629 := (B612.step0 s609)
                          exact ⟨_, _, _, false, rfl, (by omega), (by omega), fr613, (Ext.trans s600.ext s609.ext), z575, z576, z577, z578, z579, z580, z581, z584, z585, rfl, B627, B628, B629, h⟩
                      · replace h := (if_neg c614).symm.trans h
                        have b630 : (t604 == ((a2.take (Int.toNat (if 1500 < (a2.length : Int) then 1500 else (a2.length : Int)))).drop (Int.toNat 0))) = false := Bool.eq_false_iff.2 c614
                        refine wl_off (yl rfl rfl rfl) (by rw [b630] <;> rfl) ?_
                        refine wl_off (yl rfl rfl rfl) (by rw [b630] <;> rfl) ?_
                        refine wl_off (yl rfl rfl rfl) (by rw [b630] <;> rfl) ?_
                        refine wl_offu (yu rfl rfl rfl) ?_
                        refine wl_offu (yu rfl rfl rfl) ?_
                        refine wl_offu (yu rfl rfl rfl) ?_
                        refine wl_offu (yu rfl rfl rfl) ?_
                        refine wl_offu (yu rfl rfl rfl) ?_
                        refine wl_offu (yu rfl rfl rfl) ?_
                        refine wl_offu (yu rfl rfl rfl) ?_
                        refine wl_off (yl rfl rfl rfl) (by rw [b630] <;> rfl) ?_
                        refine wl_pick_t (!(t604 == ((a2.take (Int.toNat (if 1500 < (a2.length : Int) then 1500 else (a2.length : Int)))).drop (Int.toNat 0)))) (.bool true) rfl (by rw [b630] <;> rfl) rfl ?_
                        refine wl_nil ?_
                        refine qn ?_
                        have B631 := (B610.step0 s609)
                        have B632 := (B611.step0 s609)
                        have B633 := (B612.step0 s609)
                        exact ⟨_, _, _, true, rfl, (by omega), (by omega), fr613, (Ext.trans s600.ext s609.ext), z575, z576, z577, z578, z579, z580, z581, z584, z585, rfl, B631, B632, B633, h⟩
                    · replace h := (if_neg c602).symm.trans h
                      have b634 : t595 = false := Bool.eq_false_iff.2 c602
                      refine wl_off (yl rfl rfl rfl) (by rw [b634] <;> rfl) ?_
                      refine wl_off (yl rfl rfl rfl) (by rw [b634] <;> rfl) ?_
                      refine wl_off (yl rfl rfl rfl) (by rw [b634] <;> rfl) ?_
                      refine wl_off (yl rfl rfl rfl) (by rw [b634] <;> rfl) ?_
                      refine wl_on (yl rfl rfl rfl) c594 ?_
                      refine wl_pick_t (!t595) (.bool true) rfl (by rw [b634] <;> rfl) rfl ?_
                      refine wl_pick_t (t257.2 == 0) (.bool true) rfl c594 rfl ?_
                      refine wl_move (.bool true) rfl ?_
                      refine wl_off (yl rfl rfl rfl) rfl ?_
                      refine wl_off (yl rfl rfl rfl) rfl ?_
                      refine wl_off (yl rfl rfl rfl) rfl ?_
                      refine wl_offu (yu rfl rfl rfl) ?_
                      refine wl_offu (yu rfl rfl rfl) ?_
                      refine wl_offu (yu rfl rfl rfl) ?_
                      refine wl_offu (yu rfl rfl rfl) ?_
                      refine wl_offu (yu rfl rfl rfl) ?_
                      refine wl_offu (yu rfl rfl rfl) ?_
                      refine wl_offu (yu rfl rfl rfl) ?_
                      refine wl_off (yl rfl rfl rfl) rfl ?_
                      refine wl_pick_t true (.bool true) rfl rfl rfl ?_
                      refine wl_nil ?_
                      refine qn ?_
                      have B635 := (B587.step0 s600)
                      have B636 := (B588.step0 s600)
                      have B637 := (B590.step0 s600)
                      exact ⟨_, _, _, true, rfl, (by omega), (by omega), fr601, s600.ext, z575, z576, z577, z578, z579, z580, z581, z584, z585, rfl, B635, B636, B637, h⟩
                  · replace h := (if_neg c594).symm.trans h
                    have b638 : (t257.2 == 0) = false := Bool.eq_false_iff.2 c594
                    refine wl_off (yl rfl rfl rfl) b638 ?_
                    refine wl_off (yl rfl rfl rfl) b638 ?_
                    refine wl_off (yl rfl rfl rfl) b638 ?_
                    refine wl_off (yl rfl rfl rfl) b638 ?_
                    refine wl_offu (yu rfl rfl rfl) ?_
                    refine wl_offu (yu rfl rfl rfl) ?_
                    refine wl_offu (yu rfl rfl rfl) ?_
                    refine wl_offu (yu rfl rfl rfl) ?_
                    refine wl_off (yl rfl rfl rfl) b638 ?_
                    refine wl_pick_f (t257.2 == 0) (.bool false) rfl b638 rfl ?_
                    refine wl_move (.bool false) rfl ?_
                    refine wl_on (yl rfl rfl rfl) rfl ?_
                    refine wl_move (.int .i64 t257.2) z583 ?_
                    refine wl_on (yl rfl rfl rfl) rfl ?_
                    refine wl_neq rfl rfl ?_
                    refine wl_on (yl rfl rfl rfl) rfl ?_
                    refine wl_move (.bool (t257.2 != 0)) rfl ?_
                    by_cases c639 : (t257.2 != 0) = true
                    · replace h := (if_pos c639).symm.trans h
                      refine wl_on (yl rfl rfl rfl) c639 ?_
                      refine wl_move (.int .i64 t257.2) z583 ?_
                      refine wl_on (yl rfl rfl rfl) c639 ?_
                      refine wl_neq rfl rfl ?_
                      refine wl_on (yl rfl rfl rfl) c639 ?_
                      refine wl_move (.bool (t257.2 != 6)) rfl ?_
                      by_cases c640 : (t257.2 != 6) = true
                      · replace h := (if_pos c640).symm.trans h
                        refine wl_off (yl rfl rfl rfl) c640 ?_
                        refine wl_off (yl rfl rfl rfl) c640 ?_
                        refine wl_off (yl rfl rfl rfl) c640 ?_
                        refine wl_on (yl rfl rfl rfl) c639 ?_
                        refine wl_pick_t (t257.2 != 6) (.bool true) rfl c640 rfl ?_
                        refine wl_on (yl rfl rfl rfl) rfl ?_
                        refine wl_pick_t (t257.2 != 0) (.bool true) rfl c639 rfl ?_
                        refine wl_pick_f false (.bool true) rfl rfl rfl ?_
                        refine wl_nil ?_
                        refine qn ?_
                        exact ⟨_, _, _, true, rfl, (by omega), (by omega), fr571, (Ext.refl _ _), z575, z576, z577, z578, z579, z580, z581, z584, z585, rfl, B587, B588, B590, h⟩
                      · replace h := (if_neg c640).symm.trans h
                        have b641 : (t257.2 != 6) = false := Bool.eq_false_iff.2 c640
                        refine wl_on (yl rfl rfl rfl) b641 ?_
                        refine wl_loadb B589 ty23 z582 [.int .i64 t257.1.Id, .int .i64 t257.1.Kind, .string (bs t257.1.Repo), .string (bs t257.1.Digest), .int .i64 t257.1.Upload, .int .i64 t257.1.Offset, .string (bs t257.1.Data)] rfl rfl ?_
                        refine wl_on (yl rfl rfl rfl) b641 ?_
                        have hb642 : ∀ w, (Instr.build 23 #[]).run Tryd.prog w = .ok (.agg (List.toArray [.int .i64 0, .int .i64 0, .string (bs []), .string (bs []), .int .i64 0, .int .i64 0, .string (bs [])])) w := by intro  _; kernel_rfl
                        refine wl_build [.int .i64 0, .int .i64 0, .string (bs []), .string (bs []), .int .i64 0, .int .i64 0, .string (bs [])] (pn _ _) (hb642 _) ?_
                        refine wl_on (yl rfl rfl rfl) b641 ?_
                        refine wl_neqst guard23 rfl rfl (eqs23 t257.1.Id t257.1.Kind t257.1.Repo t257.1.Digest t257.1.Upload t257.1.Offset t257.1.Data 0 0 [] [] 0 0 [] _) ?_
                        refine wl_on (yl rfl rfl rfl) c639 ?_
                        refine wl_pick_f (t257.2 != 6) (.bool (!((t257.1.Id == 0) && ((t257.1.Kind == 0) && ((t257.1.Repo == []) && ((t257.1.Digest == []) && ((t257.1.Upload == 0) && ((t257.1.Offset == 0) && ((t257.1.Data == []) && true))))))))) rfl b641 rfl ?_
                        refine wl_on (yl rfl rfl rfl) rfl ?_
                        refine wl_pick_t (t257.2 != 0) (.bool (!((t257.1.Id == 0) && ((t257.1.Kind == 0) && ((t257.1.Repo == []) && ((t257.1.Digest == []) && ((t257.1.Upload == 0) && ((t257.1.Offset == 0) && ((t257.1.Data == []) && true))))))))) rfl c639 rfl ?_
                        refine wl_pick_f false (.bool (!((t257.1.Id == 0) && ((t257.1.Kind == 0) && ((t257.1.Repo == []) && ((t257.1.Digest == []) && ((t257.1.Upload == 0) && ((t257.1.Offset == 0) && ((t257.1.Data == []) && true))))))))) rfl rfl rfl ?_
                        refine wl_nil ?_
                        refine qn ?_
                        exact ⟨_, _, _, (!((t257.1.Id == 0) && ((t257.1.Kind == 0) && ((t257.1.Repo == []) && ((t257.1.Digest == []) && ((t257.1.Upload == 0) && ((t257.1.Offset == 0) && ((t257.1.Data == []) && true)))))))), rfl, (by omega), (by omega), fr571, (Ext.refl _ _), z575, z576, z577, z578, z579, z580, z581, z584, z585, rfl, B587, B588, B590, h⟩
                    · replace h := (if_neg c639).symm.trans h
                      have b643 : (t257.2 != 0) = false := Bool.eq_false_iff.2 c639
                      refine wl_off (yl rfl rfl rfl) b643 ?_
                      refine wl_off (yl rfl rfl rfl) b643 ?_
                      refine wl_off (yl rfl rfl rfl) b643 ?_
                      refine wl_offu (yu rfl rfl rfl) ?_
                      refine wl_offu (yu rfl rfl rfl) ?_
                      refine wl_offu (yu rfl rfl rfl) ?_
                      refine wl_off (yl rfl rfl rfl) b643 ?_
                      refine wl_on (yl rfl rfl rfl) rfl ?_
                      refine wl_pick_f (t257.2 != 0) (.bool false) rfl b643 rfl ?_
                      refine wl_pick_f false (.bool false) rfl rfl rfl ?_
                      refine wl_nil ?_
                      refine qn ?_
                      exact ⟨_, _, _, false, rfl, (by omega), (by omega), fr571, (Ext.refl _ _), z575, z576, z577, z578, z579, z580, z581, z584, z585, rfl, B587, B588, B590, h⟩
                · rintro _ w644 ⟨_, hw645, k646, x593, rfl, hk649, hk650, fr647, e648, z651, z652, z653, z654, z655, z656, z657, z658, z659, z660, B661, B662, B663, h⟩
                  rcases k646 with _ | k646
                  · rw [consignorlaw21_CourierTexts.j2] at h; cases h
                  rw [consignorlaw21_CourierTexts.j2] at h
                  by_cases c664 : x593 = true
                  · replace h := (if_pos c664).symm.trans h
                    refine wc_then z660 c664 ?_
                    refine wc_seq ?_
                    refine wc_region ?_
                    refine wl_assign (.bool false) rfl ?_
                    refine wl_nil ?_
                    refine qn ?_
                    refine wc_ret ?_
                    refine qr ?_
                    have h := Option.some.inj h
                    subst h
                    refine end1 rfl (.tmp rfl .nil) ?_
                    exact ⟨_, rfl, fr647⟩
                  · replace h := (if_neg c664).symm.trans h
                    have b665 : x593 = false := Bool.eq_false_iff.2 c664
                    refine wc_else z660 b665 ?_
                    refine wc_skip ?_
                    refine qn ?_
                    refine wc_seq ?_
                    refine wc_cut (fun a w => ∃ (σ : Nat → Value) (hw : Hw) (kq : Nat) (x666 : Bool), a = mkA 180 σ ∧ kq ≤ k646 ∧ kq ≤ k646 ∧ Stp none w0 hw0 w hw ∧ Ext w644 hw645 w hw ∧ σ 3 = .pointer (some ⟨b1, 0, none⟩) ∧ σ 4 = .pointer (some ⟨b7, 0, none⟩) ∧ σ 7 = .string (bs t240.1) ∧ σ 8 = .int .i64 t240.2 ∧ σ 9 = .string (bs t248.1) ∧ σ 10 = .int .i64 t248.2 ∧ σ 151 = .bool x666 ∧ Box w0.heap.size w hw b1 23 [.int .i64 t19.Id, .int .i64 t19.Kind, .string (bs t19.Repo), .string (bs t19.Digest), .int .i64 t19.Upload, .int .i64 t19.Offset, .string (bs t19.Data)] ∧ Box w0.heap.size w hw b7 26 [.int .i64 a1.Id, .int .i64 a1.Err, .int .i64 a1.N] ∧ consignorlaw21_CourierTexts.j3 kq a1 t19 t240 t248 x666 = some r) ?_ ?_
                    · skip
                      refine wc_region ?_
                      refine wl_move (.int .i64 t281.2) z659 ?_
                      refine wl_eql rfl rfl ?_
                      refine wl_move (.bool (t281.2 == 0)) rfl ?_
                      by_cases c667 : (t281.2 == 0) = true
                      · replace h := (if_pos c667).symm.trans h
                        refine wl_on (yl rfl rfl rfl) c667 ?_
                        refine wl_loadb B663 ty26 z658 [.int .i64 t281.1.Id, .int .i64 t281.1.Err, .int .i64 t281.1.N] rfl rfl ?_
                        refine wl_on (yl rfl rfl rfl) c667 ?_
                        obtain ⟨t668, h669, h⟩ := Option.bind_eq_some_iff.1 h
                        refine wl_call [.agg #[.int .i64 t281.1.Id, .int .i64 t281.1.Err, .int .i64 t281.1.N]] bod12 (mc rfl (mn _)) (consignorref21_IsAnswer.ok k646 fr647.wf t281.1 _ h669) ?_
                        rintro e670 w671 ⟨hw672, rfl, s673⟩
                        refine ⟨_, rfl, ?_⟩
                        have fr674 := fr647.then0 s673
                        refine wl_on (yl rfl rfl rfl) c667 ?_
                        refine wl_not rfl ?_
                        refine wl_on (yl rfl rfl rfl) c667 ?_
                        refine wl_move (.bool (!t668)) rfl ?_
                        by_cases c675 : t668 = true
                        · replace h := (if_pos c675).symm.trans h
                          refine wl_on (yl rfl rfl rfl) (by rw [c675] <;> rfl) ?_
                          have B676 := (B663.step0 s673)
                          refine wl_loadb B676 ty26 z658 [.int .i64 t281.1.Id, .int .i64 t281.1.Err, .int .i64 t281.1.N] rfl rfl ?_
                          refine wl_on (yl rfl rfl rfl) (by rw [c675] <;> rfl) ?_
                          obtain ⟨t677, h678, h⟩ := Option.bind_eq_some_iff.1 h
                          have B683 := (B661.step0 s673)
                          have B684 := (B662.step0 s673)
                          refine wl_call [.agg #[.int .i64 t281.1.Id, .int .i64 t281.1.Err, .int .i64 t281.1.N]] bod13 (mc rfl (mn _)) (consignorref21_Answer.ok k646 fr674.wf t281.1 _ h678) ?_
                          rintro e679 w680 ⟨hw681, rfl, s682⟩
                          refine ⟨_, rfl, ?_⟩
                          have fr685 := fr674.then0 s682
                          refine wl_on (yl rfl rfl rfl) (by rw [c675] <;> rfl) ?_
                          refine wl_move (.string (bs ((a2.take (Int.toNat (if 1500 < (a2.length : Int) then 1500 else (a2.length : Int)))).drop (Int.toNat 0)))) z651 ?_
                          refine wl_on (yl rfl rfl rfl) (by rw [c675] <;> rfl) ?_
                          refine wl_neqs rfl rfl ?_
                          refine wl_on (yl rfl rfl rfl) c667 ?_
                          refine wl_pick_f (!t668) (.bool (!(t677 == ((a2.take (Int.toNat (if 1500 < (a2.length : Int) then 1500 else (a2.length : Int)))).drop (Int.toNat 0))))) rfl (by rw [c675] <;> rfl) rfl ?_
                          refine wl_pick_t (t281.2 == 0) (.bool (!(t677 == ((a2.take (Int.toNat (if 1500 < (a2.length : Int) then 1500 else (a2.length : Int)))).drop (Int.toNat 0))))) rfl c667 rfl ?_
                          refine wl_move (.bool (!(t677 == ((a2.take (Int.toNat (if 1500 < (a2.length : Int) then 1500 else (a2.length : Int)))).drop (Int.toNat 0))))) rfl ?_
                          by_cases c686 : (t677 == ((a2.take (Int.toNat (if 1500 < (a2.length : Int) then 1500 else (a2.length : Int)))).drop (Int.toNat 0))) = true
                          · replace h := (if_pos c686).symm.trans h
                            refine wl_on (yl rfl rfl rfl) (by rw [c686] <;> rfl) ?_
                            refine wl_move (.int .i64 t281.2) z659 ?_
                            refine wl_on (yl rfl rfl rfl) (by rw [c686] <;> rfl) ?_
                            refine wl_neq rfl rfl ?_
                            refine wl_on (yl rfl rfl rfl) (by rw [c686] <;> rfl) ?_
                            refine wl_move (.bool (t281.2 != 0)) rfl ?_
                            by_cases c687 : (t281.2 != 0) = true
                            · replace h := (if_pos c687).symm.trans h
                              refine wl_on (yl rfl rfl rfl) c687 ?_
                              refine wl_move (.int .i64 t281.2) z659 ?_
                              refine wl_on (yl rfl rfl rfl) c687 ?_
                              refine wl_neq rfl rfl ?_
                              refine wl_on (yl rfl rfl rfl) c687 ?_
                              refine wl_move (.bool (t281.2 != 6)) rfl ?_
                              by_cases c688 : (t281.2 != 6) = true
                              · replace h := (if_pos c688).symm.trans h
                                refine wl_off (yl rfl rfl rfl) c688 ?_
                                refine wl_off (yl rfl rfl rfl) c688 ?_
                                refine wl_off (yl rfl rfl rfl) c688 ?_
                                refine wl_on (yl rfl rfl rfl) c687 ?_
                                refine wl_pick_t (t281.2 != 6) (.bool true) rfl c688 rfl ?_
                                refine wl_on (yl rfl rfl rfl) (by rw [c686] <;> rfl) ?_
                                refine wl_pick_t (t281.2 != 0) (.bool true) rfl c687 rfl ?_
                                refine wl_pick_f (!(t677 == ((a2.take (Int.toNat (if 1500 < (a2.length : Int) then 1500 else (a2.length : Int)))).drop (Int.toNat 0)))) (.bool true) rfl (by rw [c686] <;> rfl) rfl ?_
                                refine wl_nil ?_
                                refine qn ?_
                                have B689 := (B683.step0 s682)
                                have B690 := (B684.step0 s682)
                                exact ⟨_, _, _, true, rfl, (by omega), (by omega), fr685, (Ext.trans s673.ext s682.ext), z652, z653, z654, z655, z656, z657, rfl, B689, B690, h⟩
                              · replace h := (if_neg c688).symm.trans h
                                have b691 : (t281.2 != 6) = false := Bool.eq_false_iff.2 c688
                                refine wl_on (yl rfl rfl rfl) b691 ?_
                                have B692 := (B676.step0 s682)
                                refine wl_loadb B692 ty26 z658 [.int .i64 t281.1.Id, .int .i64 t281.1.Err, .int .i64 t281.1.N] rfl rfl ?_
                                refine wl_on (yl rfl rfl rfl) b691 ?_
                                have hb693 : ∀ w, (Instr.build 26 #[]).run Tryd.prog w = .ok (.agg (List.toArray [.int .i64 0, .int .i64 0, .int .i64 0])) w := by intro  _; kernel_rfl
                                refine wl_build [.int .i64 0, .int .i64 0, .int .i64 0] (pn _ _) (hb693 _) ?_
                                refine wl_on (yl rfl rfl rfl) b691 ?_
                                refine wl_neqst guard26 rfl rfl (eqs26 t281.1.Id t281.1.Err t281.1.N 0 0 0 _) ?_
                                refine wl_on (yl rfl rfl rfl) c687 ?_
                                refine wl_pick_f (t281.2 != 6) (.bool (!((t281.1.Id == 0) && ((t281.1.Err == 0) && ((t281.1.N == 0) && true))))) rfl b691 rfl ?_
                                refine wl_on (yl rfl rfl rfl) (by rw [c686] <;> rfl) ?_
                                refine wl_pick_t (t281.2 != 0) (.bool (!((t281.1.Id == 0) && ((t281.1.Err == 0) && ((t281.1.N == 0) && true))))) rfl c687 rfl ?_
                                refine wl_pick_f (!(t677 == ((a2.take (Int.toNat (if 1500 < (a2.length : Int) then 1500 else (a2.length : Int)))).drop (Int.toNat 0)))) (.bool (!((t281.1.Id == 0) && ((t281.1.Err == 0) && ((t281.1.N == 0) && true))))) rfl (by rw [c686] <;> rfl) rfl ?_
                                refine wl_nil ?_
                                refine qn ?_
                                have B694 := (B683.step0 s682)
                                have B695 := (B684.step0 s682)
                                exact ⟨_, _, _, (!((t281.1.Id == 0) && ((t281.1.Err == 0) && ((t281.1.N == 0) && true)))), rfl, (by omega), (by omega), fr685, (Ext.trans s673.ext s682.ext), z652, z653, z654, z655, z656, z657, rfl, B694, B695, h⟩
                            · replace h := (if_neg c687).symm.trans h
                              have b696 : (t281.2 != 0) = false := Bool.eq_false_iff.2 c687
                              refine wl_off (yl rfl rfl rfl) b696 ?_
                              refine wl_off (yl rfl rfl rfl) b696 ?_
                              refine wl_off (yl rfl rfl rfl) b696 ?_
                              refine wl_offu (yu rfl rfl rfl) ?_
                              refine wl_offu (yu rfl rfl rfl) ?_
                              refine wl_offu (yu rfl rfl rfl) ?_
                              refine wl_off (yl rfl rfl rfl) b696 ?_
                              refine wl_on (yl rfl rfl rfl) (by rw [c686] <;> rfl) ?_
                              refine wl_pick_f (t281.2 != 0) (.bool false) rfl b696 rfl ?_
                              refine wl_pick_f (!(t677 == ((a2.take (Int.toNat (if 1500 < (a2.length : Int) then 1500 else (a2.length : Int)))).drop (Int.toNat 0)))) (.bool false) rfl (by rw [c686] <;> rfl) rfl ?_
                              refine wl_nil ?_
                              refine qn ?_
                              have B697 := (B683.step0 s682)
                              have B698 := (B684.step0 s682)
                              exact ⟨_, _, _, false, rfl, (by omega), (by omega), fr685, (Ext.trans s673.ext s682.ext), z652, z653, z654, z655, z656, z657, rfl, B697, B698, h⟩
                          · replace h := (if_neg c686).symm.trans h
                            have b699 : (t677 == ((a2.take (Int.toNat (if 1500 < (a2.length : Int) then 1500 else (a2.length : Int)))).drop (Int.toNat 0))) = false := Bool.eq_false_iff.2 c686
                            refine wl_off (yl rfl rfl rfl) (by rw [b699] <;> rfl) ?_
                            refine wl_off (yl rfl rfl rfl) (by rw [b699] <;> rfl) ?_
                            refine wl_off (yl rfl rfl rfl) (by rw [b699] <;> rfl) ?_
                            refine wl_offu (yu rfl rfl rfl) ?_
                            refine wl_offu (yu rfl rfl rfl) ?_
                            refine wl_offu (yu rfl rfl rfl) ?_
                            refine wl_offu (yu rfl rfl rfl) ?_
                            refine wl_offu (yu rfl rfl rfl) ?_
                            refine wl_offu (yu rfl rfl rfl) ?_
                            refine wl_offu (yu rfl rfl rfl) ?_
                            refine wl_off (yl rfl rfl rfl) (by rw [b699] <;> rfl) ?_
                            refine wl_pick_t (!(t677 == ((a2.take (Int.toNat (if 1500 < (a2.length : Int) then 1500 else (a2.length : Int)))).drop (Int.toNat 0)))) (.bool true) rfl (by rw [b699] <;> rfl) rfl ?_
                            refine wl_nil ?_
                            refine qn ?_
                            have B700 := (B683.step0 s682)
                            have B701 := (B684.step0 s682)
                            exact ⟨_, _, _, true, rfl, (by omega), (by omega), fr685, (Ext.trans s673.ext s682.ext), z652, z653, z654, z655, z656, z657, rfl, B700, B701, h⟩
                        · replace h := (if_neg c675).symm.trans h
                          have b702 : t668 = false := Bool.eq_false_iff.2 c675
                          refine wl_off (yl rfl rfl rfl) (by rw [b702] <;> rfl) ?_
                          refine wl_off (yl rfl rfl rfl) (by rw [b702] <;> rfl) ?_
                          refine wl_off (yl rfl rfl rfl) (by rw [b702] <;> rfl) ?_
                          refine wl_off (yl rfl rfl rfl) (by rw [b702] <;> rfl) ?_
                          refine wl_on (yl rfl rfl rfl) c667 ?_
                          refine wl_pick_t (!t668) (.bool true) rfl (by rw [b702] <;> rfl) rfl ?_
                          refine wl_pick_t (t281.2 == 0) (.bool true) rfl c667 rfl ?_
                          refine wl_move (.bool true) rfl ?_
                          refine wl_off (yl rfl rfl rfl) rfl ?_
                          refine wl_off (yl rfl rfl rfl) rfl ?_
                          refine wl_off (yl rfl rfl rfl) rfl ?_
                          refine wl_offu (yu rfl rfl rfl) ?_
                          refine wl_offu (yu rfl rfl rfl) ?_
                          refine wl_offu (yu rfl rfl rfl) ?_
                          refine wl_offu (yu rfl rfl rfl) ?_
                          refine wl_offu (yu rfl rfl rfl) ?_
                          refine wl_offu (yu rfl rfl rfl) ?_
                          refine wl_offu (yu rfl rfl rfl) ?_
                          refine wl_off (yl rfl rfl rfl) rfl ?_
                          refine wl_pick_t true (.bool true) rfl rfl rfl ?_
                          refine wl_nil ?_
                          refine qn ?_
                          have B703 := (B661.step0 s673)
                          have B704 := (B662.step0 s673)
                          exact ⟨_, _, _, true, rfl, (by omega), (by omega), fr674, s673.ext, z652, z653, z654, z655, z656, z657, rfl, B703, B704, h⟩
                      · replace h := (if_neg c667).symm.trans h
                        have b705 : (t281.2 == 0) = false := Bool.eq_false_iff.2 c667
                        refine wl_off (yl rfl rfl rfl) b705 ?_
                        refine wl_off (yl rfl rfl rfl) b705 ?_
                        refine wl_off (yl rfl rfl rfl) b705 ?_
                        refine wl_off (yl rfl rfl rfl) b705 ?_
                        refine wl_offu (yu rfl rfl rfl) ?_
                        refine wl_offu (yu rfl rfl rfl) ?_
                        refine wl_offu (yu rfl rfl rfl) ?_
                        refine wl_offu (yu rfl rfl rfl) ?_
                        refine wl_off (yl rfl rfl rfl) b705 ?_
                        refine wl_pick_f (t281.2 == 0) (.bool false) rfl b705 rfl ?_
                        refine wl_move (.bool false) rfl ?_
                        refine wl_on (yl rfl rfl rfl) rfl ?_
                        refine wl_move (.int .i64 t281.2) z659 ?_
                        refine wl_on (yl rfl rfl rfl) rfl ?_
                        refine wl_neq rfl rfl ?_
                        refine wl_on (yl rfl rfl rfl) rfl ?_
                        refine wl_move (.bool (t281.2 != 0)) rfl ?_
                        by_cases c706 : (t281.2 != 0) = true
                        · replace h := (if_pos c706).symm.trans h
                          refine wl_on (yl rfl rfl rfl) c706 ?_
                          refine wl_move (.int .i64 t281.2) z659 ?_
                          refine wl_on (yl rfl rfl rfl) c706 ?_
                          refine wl_neq rfl rfl ?_
                          refine wl_on (yl rfl rfl rfl) c706 ?_
                          refine wl_move (.bool (t281.2 != 6)) rfl ?_
                          by_cases c707 : (t281.2 != 6) = true
                          · replace h := (if_pos c707).symm.trans h
                            refine wl_off (yl rfl rfl rfl) c707 ?_
                            refine wl_off (yl rfl rfl rfl) c707 ?_
                            refine wl_off (yl rfl rfl rfl) c707 ?_
                            refine wl_on (yl rfl rfl rfl) c706 ?_
                            refine wl_pick_t (t281.2 != 6) (.bool true) rfl c707 rfl ?_
                            refine wl_on (yl rfl rfl rfl) rfl ?_
                            refine wl_pick_t (t281.2 != 0) (.bool true) rfl c706 rfl ?_
                            refine wl_pick_f false (.bool true) rfl rfl rfl ?_
                            refine wl_nil ?_
                            refine qn ?_
                            exact ⟨_, _, _, true, rfl, (by omega), (by omega), fr647, (Ext.refl _ _), z652, z653, z654, z655, z656, z657, rfl, B661, B662, h⟩
                          · replace h := (if_neg c707).symm.trans h
                            have b708 : (t281.2 != 6) = false := Bool.eq_false_iff.2 c707
                            refine wl_on (yl rfl rfl rfl) b708 ?_
                            refine wl_loadb B663 ty26 z658 [.int .i64 t281.1.Id, .int .i64 t281.1.Err, .int .i64 t281.1.N] rfl rfl ?_
                            refine wl_on (yl rfl rfl rfl) b708 ?_
                            have hb709 : ∀ w, (Instr.build 26 #[]).run Tryd.prog w = .ok (.agg (List.toArray [.int .i64 0, .int .i64 0, .int .i64 0])) w := by intro  _; kernel_rfl
                            refine wl_build [.int .i64 0, .int .i64 0, .int .i64 0] (pn _ _) (hb709 _) ?_
                            refine wl_on (yl rfl rfl rfl) b708 ?_
                            refine wl_neqst guard26 rfl rfl (eqs26 t281.1.Id t281.1.Err t281.1.N 0 0 0 _) ?_
                            refine wl_on (yl rfl rfl rfl) c706 ?_
                            refine wl_pick_f (t281.2 != 6) (.bool (!((t281.1.Id == 0) && ((t281.1.Err == 0) && ((t281.1.N == 0) && true))))) rfl b708 rfl ?_
                            refine wl_on (yl rfl rfl rfl) rfl ?_
                            refine wl_pick_t (t281.2 != 0) (.bool (!((t281.1.Id == 0) && ((t281.1.Err == 0) && ((t281.1.N == 0) && true))))) rfl c706 rfl ?_
                            refine wl_pick_f false (.bool (!((t281.1.Id == 0) && ((t281.1.Err == 0) && ((t281.1.N == 0) && true))))) rfl rfl rfl ?_
                            refine wl_nil ?_
                            refine qn ?_
                            exact ⟨_, _, _, (!((t281.1.Id == 0) && ((t281.1.Err == 0) && ((t281.1.N == 0) && true)))), rfl, (by omega), (by omega), fr647, (Ext.refl _ _), z652, z653, z654, z655, z656, z657, rfl, B661, B662, h⟩
                        · replace h := (if_neg c706).symm.trans h
                          have b710 : (t281.2 != 0) = false := Bool.eq_false_iff.2 c706
                          refine wl_off (yl rfl rfl rfl) b710 ?_
                          refine wl_off (yl rfl rfl rfl) b710 ?_
                          refine wl_off (yl rfl rfl rfl) b710 ?_
                          refine wl_offu (yu rfl rfl rfl) ?_
                          refine wl_offu (yu rfl rfl rfl) ?_
                          refine wl_offu (yu rfl rfl rfl) ?_
                          refine wl_off (yl rfl rfl rfl) b710 ?_
                          refine wl_on (yl rfl rfl rfl) rfl ?_
                          refine wl_pick_f (t281.2 != 0) (.bool false) rfl b710 rfl ?_
                          refine wl_pick_f false (.bool false) rfl rfl rfl ?_
                          refine wl_nil ?_
                          refine qn ?_
                          exact ⟨_, _, _, false, rfl, (by omega), (by omega), fr647, (Ext.refl _ _), z652, z653, z654, z655, z656, z657, rfl, B661, B662, h⟩
                    · rintro _ w711 ⟨_, hw712, k713, x666, rfl, hk716, hk717, fr714, e715, z718, z719, z720, z721, z722, z723, z724, B725, B726, h⟩
                      rcases k713 with _ | k713
                      · rw [consignorlaw21_CourierTexts.j3] at h; cases h
                      rw [consignorlaw21_CourierTexts.j3] at h
                      by_cases c727 : x666 = true
                      · replace h := (if_pos c727).symm.trans h
                        refine wc_then z724 c727 ?_
                        refine wc_seq ?_
                        refine wc_region ?_
                        refine wl_assign (.bool false) rfl ?_
                        refine wl_nil ?_
                        refine qn ?_
                        refine wc_ret ?_
                        refine qr ?_
                        have h := Option.some.inj h
                        subst h
                        refine end1 rfl (.tmp rfl .nil) ?_
                        exact ⟨_, rfl, fr714⟩
                      · replace h := (if_neg c727).symm.trans h
                        have b728 : x666 = false := Bool.eq_false_iff.2 c727
                        refine wc_else z724 b728 ?_
                        refine wc_skip ?_
                        refine qn ?_
                        refine wc_cut (fun a w => ∃ (σ : Nat → Value) (hw : Hw) (kq : Nat), a = mkA 180 σ ∧ kq ≤ k713 ∧ kq ≤ k713 ∧ Stp none w0 hw0 w hw ∧ Ext w711 hw712 w hw ∧ σ 4 = .pointer (some ⟨b7, 0, none⟩) ∧ σ 9 = .string (bs t248.1) ∧ σ 10 = .int .i64 t248.2 ∧ Box w0.heap.size w hw b7 26 [.int .i64 a1.Id, .int .i64 a1.Err, .int .i64 a1.N] ∧ consignorlaw21_CourierTexts.j4 kq a1 t248 = some r) ?_ ?_
                        · skip
                          refine wc_seq ?_
                          refine wc_region ?_
                          refine wl_move (.int .i64 t240.2) z721 ?_
                          refine wl_eql rfl rfl ?_
                          refine wl_nil ?_
                          refine qn ?_
                          by_cases c729 : (t240.2 == 0) = true
                          · replace h := (if_pos c729).symm.trans h
                            refine wc_then rfl c729 ?_
                            refine wc_seq ?_
                            refine wc_region ?_
                            refine wl_move (.string (bs t240.1)) z720 ?_
                            have f730 := f280.ext (s286.ext.trans (s292.ext.trans (s303.ext.trans (e460.trans (e572.trans (e648.trans (e715)))))))
                            obtain ⟨t731, h732, h⟩ := Option.bind_eq_some_iff.1 h
                            refine wl_call [.string (bs t240.1)] bod7 (mc rfl (mn _)) (courier_Parse.ok k713 fr714.wf t240.1 f730 _ h732) ?_
                            rintro e733 w734 ⟨hw735, rfl, s736⟩
                            refine ⟨_, rfl, ?_⟩
                            have fr737 := fr714.then0 s736
                            refine wl_move (.tuple #[.agg #[.int .i64 t731.1.Id, .int .i64 t731.1.Kind, .string (bs t731.1.Repo), .string (bs t731.1.Digest), .int .i64 t731.1.Upload, .int .i64 t731.1.Offset, .string (bs t731.1.Data)], .int .i64 t731.2]) rfl ?_
                            refine wl_extract (vs := [.agg #[.int .i64 t731.1.Id, .int .i64 t731.1.Kind, .string (bs t731.1.Repo), .string (bs t731.1.Digest), .int .i64 t731.1.Upload, .int .i64 t731.1.Offset, .string (bs t731.1.Data)], .int .i64 t731.2]) (.agg #[.int .i64 t731.1.Id, .int .i64 t731.1.Kind, .string (bs t731.1.Repo), .string (bs t731.1.Digest), .int .i64 t731.1.Upload, .int .i64 t731.1.Offset, .string (bs t731.1.Data)]) rfl rfl ?_
                            refine wl_extract (vs := [.agg #[.int .i64 t731.1.Id, .int .i64 t731.1.Kind, .string (bs t731.1.Repo), .string (bs t731.1.Digest), .int .i64 t731.1.Upload, .int .i64 t731.1.Offset, .string (bs t731.1.Data)], .int .i64 t731.2]) (.int .i64 t731.2) rfl rfl ?_
                            refine wl_alloc fr737.wf fr737.g.size ty23 [.int .i64 0, .int .i64 0, .string (bs []), .string (bs []), .int .i64 0, .int .i64 0, .string (bs [])] rfl ?_
                            intro b738 w739 s740 B741 g742
                            have B744 := (B725.step0 s736)
                            have n743 : b1 ≠ b738 := B744.ne g742
                            have B746 := (B726.step0 s736)
                            have n745 : b7 ≠ b738 := B746.ne g742
                            have fr747 := fr737.then0 s740
                            refine wl_store B741 fr747.wf ty23 rfl [.int .i64 t731.1.Id, .int .i64 t731.1.Kind, .string (bs t731.1.Repo), .string (bs t731.1.Digest), .int .i64 t731.1.Upload, .int .i64 t731.1.Offset, .string (bs t731.1.Data)] (cells_of (v := (.agg #[.int .i64 t731.1.Id, .int .i64 t731.1.Kind, .string (bs t731.1.Repo), .string (bs t731.1.Digest), .int .i64 t731.1.Upload, .int .i64 t731.1.Offset, .string (bs t731.1.Data)])) rfl rfl) rfl (Nat.le_of_ble_eq_true rfl) (by intro u hu; simp only [List.mem_cons, List.not_mem_nil, or_false] at hu; rcases hu with rfl | rfl | rfl | rfl | rfl | rfl | rfl <;> first | rfl | exact Dy.one _) [.int .i64 t731.1.Id, .int .i64 t731.1.Kind, .string (bs t731.1.Repo), .string (bs t731.1.Digest), .int .i64 t731.1.Upload, .int .i64 t731.1.Offset, .string (bs t731.1.Data)] rfl ?_
                            intro w748 s749 B750
                            have fr751 := fr747.then s749 (fun _ e => (Option.some.inj e ▸ B741.new))
                            refine wl_assign (.int .i64 t731.2) rfl ?_
                            refine wl_nil ?_
                            refine qn ?_
                            refine wc_seq ?_
                            refine wc_region ?_
                            refine wl_move (.int .i64 t731.2) rfl ?_
                            refine wl_neq rfl rfl ?_
                            refine wl_move (.bool (t731.2 != 0)) rfl ?_
                            refine wl_join 4 [162, 163, 164, 165] 165 (.bool ((t731.2 != 0) || (!((t731.1.Id == t19.Id) && ((t731.1.Kind == t19.Kind) && ((t731.1.Repo == t19.Repo) && ((t731.1.Digest == t19.Digest) && ((t731.1.Upload == t19.Upload) && ((t731.1.Offset == t19.Offset) && ((t731.1.Data == t19.Data) && true)))))))))) ?_ ?_
                            · rcases Bool.eq_false_or_eq_true (t731.2 != 0) with hcc | hcc
                              · skip
                                refine wl_off (yl rfl rfl rfl) hcc ?_
                                refine wl_off (yl rfl rfl rfl) hcc ?_
                                refine wl_off (yl rfl rfl rfl) hcc ?_
                                refine wl_pick_t (t731.2 != 0) (.bool true) rfl hcc rfl ?_
                                refine wl_nil ?_
                                exact qn ⟨rfl, _, rfl, (by repeat (first | exact Same.refl _ _ | refine Same.upd ?_ rfl)), (by rw [hcc]; rfl)⟩
                              · skip
                                refine wl_on (yl rfl rfl rfl) hcc ?_
                                refine wl_loadb B750 ty23 rfl [.int .i64 t731.1.Id, .int .i64 t731.1.Kind, .string (bs t731.1.Repo), .string (bs t731.1.Digest), .int .i64 t731.1.Upload, .int .i64 t731.1.Offset, .string (bs t731.1.Data)] rfl rfl ?_
                                refine wl_on (yl rfl rfl rfl) hcc ?_
                                have B752 := ((B744.step0 s740).stepb s749 n743)
                                refine wl_loadb B752 ty23 z718 [.int .i64 t19.Id, .int .i64 t19.Kind, .string (bs t19.Repo), .string (bs t19.Digest), .int .i64 t19.Upload, .int .i64 t19.Offset, .string (bs t19.Data)] rfl rfl ?_
                                refine wl_on (yl rfl rfl rfl) hcc ?_
                                refine wl_neqst guard23 rfl rfl (eqs23 t731.1.Id t731.1.Kind t731.1.Repo t731.1.Digest t731.1.Upload t731.1.Offset t731.1.Data t19.Id t19.Kind t19.Repo t19.Digest t19.Upload t19.Offset t19.Data _) ?_
                                refine wl_pick_f (t731.2 != 0) (.bool (!((t731.1.Id == t19.Id) && ((t731.1.Kind == t19.Kind) && ((t731.1.Repo == t19.Repo) && ((t731.1.Digest == t19.Digest) && ((t731.1.Upload == t19.Upload) && ((t731.1.Offset == t19.Offset) && ((t731.1.Data == t19.Data) && true))))))))) rfl hcc rfl ?_
                                refine wl_nil ?_
                                exact qn ⟨rfl, _, rfl, (by repeat (first | exact Same.refl _ _ | refine Same.upd ?_ rfl)), (by rw [hcc]; rfl)⟩
                            intro _ ho753 hv754
                            refine wl_nil ?_
                            refine qn ?_
                            by_cases c755 : ((t731.2 != 0) || (!((t731.1.Id == t19.Id) && ((t731.1.Kind == t19.Kind) && ((t731.1.Repo == t19.Repo) && ((t731.1.Digest == t19.Digest) && ((t731.1.Upload == t19.Upload) && ((t731.1.Offset == t19.Offset) && ((t731.1.Data == t19.Data) && true))))))))) = true
                            · replace h := (if_pos c755).symm.trans h
                              refine wc_then hv754 c755 ?_
                              refine wc_seq ?_
                              refine wc_region ?_
                              refine wl_assign (.bool false) rfl ?_
                              refine wl_nil ?_
                              refine qn ?_
                              refine wc_ret ?_
                              refine qr ?_
                              have h := Option.some.inj h
                              subst h
                              refine end1 rfl (.tmp rfl .nil) ?_
                              exact ⟨_, rfl, fr751⟩
                            · replace h := (if_neg c755).symm.trans h
                              have b756 : ((t731.2 != 0) || (!((t731.1.Id == t19.Id) && ((t731.1.Kind == t19.Kind) && ((t731.1.Repo == t19.Repo) && ((t731.1.Digest == t19.Digest) && ((t731.1.Upload == t19.Upload) && ((t731.1.Offset == t19.Offset) && ((t731.1.Data == t19.Data) && true))))))))) = false := Bool.eq_false_iff.2 c755
                              refine wc_else hv754 b756 ?_
                              refine wc_skip ?_
                              refine qn ?_
                              have B757 := ((B746.step0 s740).stepb s749 n745)
                              exact ⟨_, _, _, rfl, (by omega), (by omega), fr751, (Ext.trans s736.ext (Ext.trans s740.ext s749.ext)), ((ho753 4 rfl).trans z719), ((ho753 9 rfl).trans z722), ((ho753 10 rfl).trans z723), B757, h⟩
                          · replace h := (if_neg c729).symm.trans h
                            have b758 : (t240.2 == 0) = false := Bool.eq_false_iff.2 c729
                            refine wc_else rfl b758 ?_
                            refine wc_skip ?_
                            refine qn ?_
                            exact ⟨_, _, _, rfl, (by omega), (by omega), fr714, (Ext.refl _ _), z719, z722, z723, B726, h⟩
                        · rintro _ w759 ⟨_, hw760, k761, rfl, hk764, hk765, fr762, e763, z766, z767, z768, B769, h⟩
                          rcases k761 with _ | k761
                          · rw [consignorlaw21_CourierTexts.j4] at h; cases h
                          rw [consignorlaw21_CourierTexts.j4] at h
                          refine wc_seq ?_
                          refine wc_seq ?_
                          refine wc_region ?_
                          refine wl_move (.int .i64 t248.2) z768 ?_
                          refine wl_eql rfl rfl ?_
                          refine wl_nil ?_
                          refine qn ?_
                          by_cases c770 : (t248.2 == 0) = true
                          · replace h := (if_pos c770).symm.trans h
                            refine wc_then rfl c770 ?_
                            refine wc_seq ?_
                            refine wc_region ?_
                            refine wl_move (.string (bs t248.1)) z767 ?_
                            have f771 := f280.ext (s286.ext.trans (s292.ext.trans (s303.ext.trans (e460.trans (e572.trans (e648.trans (e715.trans (e763))))))))
                            obtain ⟨t772, h773, h⟩ := Option.bind_eq_some_iff.1 h
                            refine wl_call [.string (bs t248.1)] bod8 (mc rfl (mn _)) (courier_Read.ok k761 fr762.wf t248.1 f771 _ h773) ?_
                            rintro e774 w775 ⟨hw776, rfl, s777⟩
                            refine ⟨_, rfl, ?_⟩
                            have fr778 := fr762.then0 s777
                            refine wl_move (.tuple #[.agg #[.int .i64 t772.1.Id, .int .i64 t772.1.Err, .int .i64 t772.1.N], .int .i64 t772.2]) rfl ?_
                            refine wl_extract (vs := [.agg #[.int .i64 t772.1.Id, .int .i64 t772.1.Err, .int .i64 t772.1.N], .int .i64 t772.2]) (.agg #[.int .i64 t772.1.Id, .int .i64 t772.1.Err, .int .i64 t772.1.N]) rfl rfl ?_
                            refine wl_extract (vs := [.agg #[.int .i64 t772.1.Id, .int .i64 t772.1.Err, .int .i64 t772.1.N], .int .i64 t772.2]) (.int .i64 t772.2) rfl rfl ?_
                            refine wl_alloc fr778.wf fr778.g.size ty26 [.int .i64 0, .int .i64 0, .int .i64 0] rfl ?_
                            intro b779 w780 s781 B782 g783
                            have B785 := (B769.step0 s777)
                            have n784 : b7 ≠ b779 := B785.ne g783
                            have fr786 := fr778.then0 s781
                            refine wl_store B782 fr786.wf ty26 rfl [.int .i64 t772.1.Id, .int .i64 t772.1.Err, .int .i64 t772.1.N] (cells_of (v := (.agg #[.int .i64 t772.1.Id, .int .i64 t772.1.Err, .int .i64 t772.1.N])) rfl rfl) rfl (Nat.le_of_ble_eq_true rfl) (by intro u hu; simp only [List.mem_cons, List.not_mem_nil, or_false] at hu; rcases hu with rfl | rfl | rfl <;> first | rfl | exact Dy.one _) [.int .i64 t772.1.Id, .int .i64 t772.1.Err, .int .i64 t772.1.N] rfl ?_
                            intro w787 s788 B789
                            have fr790 := fr786.then s788 (fun _ e => (Option.some.inj e ▸ B782.new))
                            refine wl_assign (.int .i64 t772.2) rfl ?_
                            refine wl_nil ?_
                            refine qn ?_
                            refine wc_seq ?_
                            refine wc_region ?_
                            refine wl_move (.int .i64 t772.2) rfl ?_
                            refine wl_neq rfl rfl ?_
                            refine wl_move (.bool (t772.2 != 0)) rfl ?_
                            refine wl_join 4 [176, 177, 178, 179] 179 (.bool ((t772.2 != 0) || (!((t772.1.Id == a1.Id) && ((t772.1.Err == a1.Err) && ((t772.1.N == a1.N) && true)))))) ?_ ?_
                            · rcases Bool.eq_false_or_eq_true (t772.2 != 0) with hcc | hcc
                              · skip
                                refine wl_off (yl rfl rfl rfl) hcc ?_
                                refine wl_off (yl rfl rfl rfl) hcc ?_
                                refine wl_off (yl rfl rfl rfl) hcc ?_
                                refine wl_pick_t (t772.2 != 0) (.bool true) rfl hcc rfl ?_
                                refine wl_nil ?_
                                exact qn ⟨rfl, _, rfl, (by repeat (first | exact Same.refl _ _ | refine Same.upd ?_ rfl)), (by rw [hcc]; rfl)⟩
                              · skip
                                refine wl_on (yl rfl rfl rfl) hcc ?_
                                refine wl_loadb B789 ty26 rfl [.int .i64 t772.1.Id, .int .i64 t772.1.Err, .int .i64 t772.1.N] rfl rfl ?_
                                refine wl_on (yl rfl rfl rfl) hcc ?_
                                have B791 := ((B785.step0 s781).stepb s788 n784)
                                refine wl_loadb B791 ty26 z766 [.int .i64 a1.Id, .int .i64 a1.Err, .int .i64 a1.N] rfl rfl ?_
                                refine wl_on (yl rfl rfl rfl) hcc ?_
                                refine wl_neqst guard26 rfl rfl (eqs26 t772.1.Id t772.1.Err t772.1.N a1.Id a1.Err a1.N _) ?_
                                refine wl_pick_f (t772.2 != 0) (.bool (!((t772.1.Id == a1.Id) && ((t772.1.Err == a1.Err) && ((t772.1.N == a1.N) && true))))) rfl hcc rfl ?_
                                refine wl_nil ?_
                                exact qn ⟨rfl, _, rfl, (by repeat (first | exact Same.refl _ _ | refine Same.upd ?_ rfl)), (by rw [hcc]; rfl)⟩
                            intro _ ho792 hv793
                            refine wl_nil ?_
                            refine qn ?_
                            by_cases c794 : ((t772.2 != 0) || (!((t772.1.Id == a1.Id) && ((t772.1.Err == a1.Err) && ((t772.1.N == a1.N) && true))))) = true
                            · replace h := (if_pos c794).symm.trans h
                              refine wc_then hv793 c794 ?_
                              refine wc_seq ?_
                              refine wc_region ?_
                              refine wl_assign (.bool false) rfl ?_
                              refine wl_nil ?_
                              refine qn ?_
                              refine wc_ret ?_
                              refine qr ?_
                              have h := Option.some.inj h
                              subst h
                              refine end1 rfl (.tmp rfl .nil) ?_
                              exact ⟨_, rfl, fr790⟩
                            · replace h := (if_neg c794).symm.trans h
                              have b795 : ((t772.2 != 0) || (!((t772.1.Id == a1.Id) && ((t772.1.Err == a1.Err) && ((t772.1.N == a1.N) && true))))) = false := Bool.eq_false_iff.2 c794
                              refine wc_else hv793 b795 ?_
                              refine wc_skip ?_
                              refine qn ?_
                              refine wc_seq ?_
                              refine wc_region ?_
                              refine wl_assign (.bool true) rfl ?_
                              refine wl_nil ?_
                              refine qn ?_
                              refine wc_ret ?_
                              have h := Option.some.inj h
                              subst h
                              refine end1 rfl (.tmp rfl .nil) ?_
                              exact ⟨_, rfl, fr790⟩
                          · replace h := (if_neg c770).symm.trans h
                            have b796 : (t248.2 == 0) = false := Bool.eq_false_iff.2 c770
                            refine wc_else rfl b796 ?_
                            refine wc_skip ?_
                            refine qn ?_
                            refine wc_seq ?_
                            refine wc_region ?_
                            refine wl_assign (.bool true) rfl ?_
                            refine wl_nil ?_
                            refine qn ?_
                            refine wc_ret ?_
                            have h := Option.some.inj h
                            subst h
                            refine end1 rfl (.tmp rfl .nil) ?_
                            exact ⟨_, rfl, fr762⟩
    · replace h := (if_neg c27).symm.trans h
      cases h
  · replace h := (if_neg c26).symm.trans h
    cases h
end Go.Proofs.YtkfopceebbebjaaDoor
