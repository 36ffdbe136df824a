/- What the program's functions compute, and that they compute it: one contract a function, written by gw.py (own work). -/
import Derived.Test.YtkfopceebbebjaaDoorEr3
namespace Go.Proofs.YtkfopceebbebjaaDoor
open Go.RowKit
set_option linter.unusedVariables false
set_option linter.unusedSimpArgs false

structure ApiAsk where
  Id : Int
  Kind : Int
  Repo : (List UInt8)
  Digest : (List UInt8)
  Upload : Int
  Offset : Int
  Data : (List UInt8)
def KApiAsk : Kind ApiAsk where
  sz := 7
  R := fun _ _ x cs => cs = [.int .i64 x.Id, .int .i64 x.Kind, .string (bs x.Repo), .string (bs x.Digest), .int .i64 x.Upload, .int .i64 x.Offset, .string (bs x.Data)]
  len := by rintro w hw x cs rfl; rfl
  one := by
    rintro w hw x cs rfl u hu
    simp only [List.mem_cons, List.not_mem_nil, or_false] at hu
    rcases hu with rfl | rfl | rfl | rfl | rfl | rfl | rfl <;> first | rfl | exact Dy.one _
  ext := fun _ h => h
structure ApiAnswer where
  Id : Int
  Err : Int
  N : Int
def KApiAnswer : Kind ApiAnswer where
  sz := 3
  R := fun _ _ x cs => cs = [.int .i64 x.Id, .int .i64 x.Err, .int .i64 x.N]
  len := by rintro w hw x cs rfl; rfl
  one := by
    rintro w hw x cs rfl u hu
    simp only [List.mem_cons, List.not_mem_nil, or_false] at hu
    rcases hu with rfl | rfl | rfl <;> first | rfl | exact Dy.one _
  ext := fun _ h => h
/-! ### strings.Builder -/
theorem bty55 : Ty Tryd.prog 55 2 32 true (.agg #[.pointer none, .slice none 0 0]) := ⟨by kernel_rfl, by kernel_rfl⟩
theorem bty53 : Ty Tryd.prog 53 1 24 false (.slice none 0 0) := ⟨by kernel_rfl, by kernel_rfl⟩
theorem bty5 : Ty Tryd.prog 5 1 1 false (.int .u8 0) := ⟨by kernel_rfl, by kernel_rfl⟩
theorem blies : liesAt Tryd.prog Tryd.prog.depth 55 (2 / Tryd.prog.cellsOf 55) 0 55 1 = true := by kernel_rfl
theorem bfld1 : Fld Tryd.prog 55 1 1 := fun _ _ _ => by kernel_rfl
theorem bbod29 : Bod Tryd.prog 29 := fun _ _ => by kernel_rfl

set_option maxHeartbeats 1000000 in
set_option maxRecDepth 100000 in
theorem bld_cc_used (b : Nat) (w : World) (h0 : w.cell? ⟨b, 0, none⟩ = some (.pointer (some ⟨b, 0, none⟩))) :
    Calls Tryd.prog 29 #[.pointer (some ⟨b, 0, none⟩)] w fun e w' => e = .returned (.tuple #[]) ∧ w' = w := by
  obtain ⟨j, hj, _⟩ := bty55.info
  go_enter Tryd.func29, Tryd.ntmps29
  go_wp2
  rw [Lib.run_neq_ptr_same w _ Tryd.underlying52 hj]
  go_wp2
  go_end0
  exact ⟨rfl, rfl⟩
set_option maxHeartbeats 1000000 in
set_option maxRecDepth 100000 in
theorem bld_cc_fresh (b : Nat) (w : World) (h0 : w.cell? ⟨b, 0, none⟩ = some (.pointer none)) (hsh : w.shape? b = some (55, 2)) (hfz : w.frozen? ⟨b, 0, none⟩ = false) :
    Calls Tryd.prog 29 #[.pointer (some ⟨b, 0, none⟩)] w fun e w' => e = .returned (.tuple #[]) ∧ w' = w.setCell ⟨b, 0, none⟩ (.pointer (some ⟨b, 0, none⟩)) := by
  obtain ⟨j, hj, _, hjs, _⟩ := bty55.info
  go_enter Tryd.func29, Tryd.ntmps29
  go_wp2
  rw [Lib.run_to_unsafe w ⟨b, 0, none⟩ Tryd.underlying52 Tryd.underlying78 hj (by rw [hjs]; decide) hsh (Nat.zero_lt_succ 1)]
  simp only [Result.andThen]
  rw [Oper.upon_value]
  go_wp2
  rw [run_callFunc_extern Tryd.func33 (by kernel_rfl) (by kernel_rfl) (by kernel_rfl) (e := Extern.AbiNoEscape.same) (by kernel_rfl)]
  rw [Lib.run_noEscape]
  simp only [Result.andThen]
  rw [Oper.upon_value]
  go_wp2
  rw [Lib.run_from_unsafe w ⟨b, 0, none⟩ Tryd.underlying78 Tryd.underlying52 hj hsh blies]
  simp only [Result.andThen]
  rw [Oper.upon_value]
  go_wp2
  go_end0
  exact ⟨rfl, rfl⟩
/-- What every writer calls first. -/
theorem bld_copyCheck {N0 b : Nat} {w : World} {hw : Hw} {xs : List UInt8} (wf : Hwf w hw) (h : Bld 55 5 N0 w hw b xs) :
    Calls Tryd.prog 29 #[.pointer (some ⟨b, 0, none⟩)] w fun e w' => e = .returned (.tuple #[]) ∧ Stp (some b) w hw w' hw ∧ ∃ v, Box N0 w' hw b 55 [.pointer (some ⟨b, 0, none⟩), v] ∧ Own K8 5 N0 w' hw v xs := by
  obtain ⟨p, v, B, hp, O⟩ := h
  have hno := B.ne_own O (by decide)
  rcases hp with rfl | rfl
  · refine (bld_cc_fresh b w (by rw [B.cell]; rfl) (by simp [World.shape?, B.heap]) (Lib.frozen_of_heap B.heap 0)).mono ?_
    rintro e w' ⟨rfl, rfl⟩
    rw [setCell_row B 0 (.pointer (some ⟨b, 0, none⟩))]
    obtain ⟨k1, k2⟩ := B.put (l := []) wf [.pointer (some ⟨b, 0, none⟩), v]
    exact ⟨rfl, k2, v, k1, O.step k2 (.inr hno)⟩
  · refine (bld_cc_used b w (by rw [B.cell]; rfl)).mono ?_
    rintro e w' ⟨rfl, rfl⟩
    exact ⟨rfl, Stp.mk_same ⟨rfl, rfl, rfl, Nat.le_refl _, fun _ _ _ => rfl⟩ wf (fun c hc => by cases hc; exact B.z), v, B, O⟩

set_option maxHeartbeats 1000000 in
theorem bld_WriteString {N0 b : Nat} {w : World} {hw : Hw} {xs l : List UInt8} (wf : Hwf w hw) (h : Bld 55 5 N0 w hw b xs) (hN : N0 ≤ w.heap.size) (hl : xs.length + l.length ≤ 140737488355328) :
    Calls Tryd.prog 23 #[.pointer (some ⟨b, 0, none⟩), .string (bs l)] w fun e w' => ∃ hw', e = .returned (.tuple #[.int .i64 (l.length : Int), .nilIface]) ∧ StpS (BF N0 w b 5) w hw w' hw' ∧ Bld 55 5 N0 w' hw' b (xs ++ l) := by
  refine enter (n := 19) Tryd.func23 rfl rfl (Nat.le_of_ble_eq_true rfl) ?_
  refine wc_seq ?_
  refine wc_region ?_
  refine wl_assign (.int .i64 0) rfl ?_
  refine wl_assign .nilIface rfl ?_
  refine wl_nil ?_
  refine qn ?_
  refine wc_seq ?_
  refine wc_region ?_
  refine wl_move (.pointer (some ⟨b, 0, none⟩)) rfl ?_
  refine wl_call [.pointer (some ⟨b, 0, none⟩)] bbod29 (mc rfl (mn _)) (bld_copyCheck wf h) ?_
  rintro e1 w1 ⟨rfl, s1, v, B1, O1⟩
  refine ⟨_, rfl, ?_⟩
  refine wl_nil ?_
  refine qn ?_
  refine wc_seq ?_
  refine wc_region ?_
  refine wl_move (.pointer (some ⟨b, 0, none⟩)) rfl ?_
  refine wl_move (.pointer (some ⟨b, 0, none⟩)) rfl ?_
  refine wl_nilchk rfl ?_
  refine wl_field bfld1 rfl ?_
  refine wl_loadb1 B1 bty53 rfl v rfl ?_
  refine wl_move (.string (bs l)) rfl ?_
  have hN1 : N0 ≤ w1.heap.size := Nat.le_trans hN s1.g.size
  have hno := B1.ne_own O1 (by decide)
  refine wl_apps Tryd.underlying53 Tryd.underlying9 bty5 s1.wf O1 rfl rfl hl hN1 ?_
  intro v' w2 hw2 O2 s2 hloc
  have B2 := B1.step s2 (fun e => hno e.symm)
  refine wl_nilchk rfl ?_
  refine wl_field bfld1 rfl ?_
  refine wl_store B2 s2.wf bty53 rfl [v'] (cells_of (v := v') rfl (row_cells O2.row)) rfl (Nat.le_of_ble_eq_true rfl) (one_all [v'] (by simp only [List.all_cons, List.all_nil, Bool.and_true, row_one O2.row])) [.pointer (some ⟨b, 0, none⟩), v'] rfl ?_
  intro w3 s3 B3
  have hno2 := app_ne hloc hno B1
  have O3 := O2.step s3 (.inr hno2)
  refine wl_nil ?_
  refine qn ?_
  refine wc_seq ?_
  refine wc_region ?_
  refine wl_move (.string (bs l)) rfl ?_
  refine wl_lens Tryd.underlying9 rfl ?_
  refine wl_assign (.int .i64 (l.length : Int)) rfl ?_
  refine wl_assign .nilIface rfl ?_
  refine wl_nil ?_
  refine qn ?_
  refine wc_ret ?_
  refine end2 rfl (.tmp rfl (.tmp rfl .nil)) ?_
  exact ⟨_, rfl, bw_steps h.lt s1 O1 hno s2 s3 hN, _, v', B3, .inr rfl, O3⟩

theorem bcells5 : Tryd.prog.cellsOf 5 = 1 := by kernel_rfl
set_option maxHeartbeats 2000000 in
set_option maxRecDepth 100000 in
theorem bld_str_some (b g cap : Nat) (p : Value) (l : List UInt8) (cur : Array Value) (w : World) (hl : l ≠ []) (hnc : l.length ≤ cap) (hcm : cap ≤ maxLen) (hcs : cur.size = cap)
    (hbk : w.heap[b]? = some (.cells #[p, .slice (some ⟨g, 0, none⟩) l.length cap] 55 (0, 0))) (hg : w.heap[g]? = some (.cells cur 5 (0, 0))) (hcell : ∀ j x, l[j]? = some x → w.cell? ((⟨g, 0, none⟩ : Addr).add j) = some (.int .u8 x.toNat)) :
    Calls Tryd.prog 24 #[.pointer (some ⟨b, 0, none⟩)] w fun e w' => e = .returned (.string ⟨l.toArray⟩) ∧ w' = w.drew.freeze ⟨g, 0, none⟩ l.length := by
  have hp : 0 < l.length := List.length_pos_iff.2 hl
  have c1 : w.drew.cell? ⟨b, 1, none⟩ = some (.slice (some ⟨g, 0, none⟩) l.length cap) := by
    have : w.drew.heap[b]? = some (.cells #[p, .slice (some ⟨g, 0, none⟩) l.length cap] 55 (0, 0)) := hbk
    rw [Lib.cell_of_heap this]; rfl
  have hSD : (Builtin.unsafeSliceData_ #[53] 69 #[.slice (some ⟨g, 0, none⟩) l.length cap]).run Tryd.prog w.drew = .ok (.pointer (some ⟨g, 0, none⟩)) w.drew :=
    Lib.run_unsafeSliceData_row _ _ _ _ _ _ (by omega)
  have hUS : (Builtin.unsafeString_ #[69, 3] 9 #[.pointer (some ⟨g, 0, none⟩), .int .i64 l.length]).run Tryd.prog w.drew = .ok (.string ⟨l.toArray⟩) (w.drew.freeze ⟨g, 0, none⟩ l.length) := by
    refine Lib.run_unsafeString_row w.drew 69 3 9 5 Tryd.underlying69 bcells5 g cur.size (by have hg' : w.drew.heap[g]? = some (.cells cur 5 (0, 0)) := hg; simp [World.shape?, hg']) l hl (by omega) (by unfold maxLen at hcm; omega) ?_
    intro j x hx
    exact hcell j x hx
  clear hcell hl hg
  go_enter Tryd.func24, Tryd.ntmps24
  go_wp2
  go_region
  all_goals (go_wp2; go_ret; exact ⟨rfl, rfl⟩)
set_option maxHeartbeats 2000000 in
set_option maxRecDepth 100000 in
theorem bld_str_nil (b : Nat) (p : Value) (w : World) (hbk : w.heap[b]? = some (.cells #[p, .slice none 0 0] 55 (0, 0))) :
    Calls Tryd.prog 24 #[.pointer (some ⟨b, 0, none⟩)] w fun e w' => e = .returned (.string ⟨#[]⟩) ∧ w' = w.drew := by
  have hUS : ∀ (W : World) (q : Option Addr), (Builtin.unsafeString_ #[69, 3] 9 #[.pointer q, .int .i64 0]).run Tryd.prog W = .ok (.string .empty) W := fun W q => Lib.run_unsafeString_none W _ _ _ q
  have c1 : w.drew.cell? ⟨b, 1, none⟩ = some (.slice none 0 0) := by
    have : w.drew.heap[b]? = some (.cells #[p, .slice none 0 0] 55 (0, 0)) := hbk
    rw [Lib.cell_of_heap this]; rfl
  have hSD : (Builtin.unsafeSliceData_ #[53] 69 #[.slice none 0 0]).run Tryd.prog w.drew = .ok (.pointer none) w.drew := rfl
  go_enter Tryd.func24, Tryd.ntmps24
  go_wp2
  go_region
  all_goals (go_wp2; go_ret; exact ⟨rfl, rfl⟩)
set_option maxHeartbeats 2000000 in
set_option maxRecDepth 100000 in
theorem bld_str_room (b g cap : Nat) (p : Value) (w : World) (hc0 : cap ≠ 0) (hbk : w.heap[b]? = some (.cells #[p, .slice (some ⟨g, 0, none⟩) 0 cap] 55 (0, 0))) :
    Calls Tryd.prog 24 #[.pointer (some ⟨b, 0, none⟩)] w fun e w' => e = .returned (.string ⟨#[]⟩) ∧ w' = w.drew := by
  have hUS : ∀ (W : World) (q : Option Addr), (Builtin.unsafeString_ #[69, 3] 9 #[.pointer q, .int .i64 0]).run Tryd.prog W = .ok (.string .empty) W := fun W q => Lib.run_unsafeString_none W _ _ _ q
  have c1 : w.drew.cell? ⟨b, 1, none⟩ = some (.slice (some ⟨g, 0, none⟩) 0 cap) := by
    have : w.drew.heap[b]? = some (.cells #[p, .slice (some ⟨g, 0, none⟩) 0 cap] 55 (0, 0)) := hbk
    rw [Lib.cell_of_heap this]; rfl
  have hSD : (Builtin.unsafeSliceData_ #[53] 69 #[.slice (some ⟨g, 0, none⟩) 0 cap]).run Tryd.prog w.drew = .ok (.pointer (some ⟨g, 0, none⟩)) w.drew :=
    Lib.run_unsafeSliceData_row _ _ _ _ _ _ hc0
  clear hc0
  go_enter Tryd.func24, Tryd.ntmps24
  go_wp2
  go_region
  all_goals (go_wp2; go_ret; exact ⟨rfl, rfl⟩)
set_option maxHeartbeats 2000000 in
set_option maxRecDepth 100000 in
theorem bld_str_noroom (b g : Nat) (p : Value) (cur : Array Value) (w : World) (hbk : w.heap[b]? = some (.cells #[p, .slice (some ⟨g, 0, none⟩) 0 0] 55 (0, 0))) (hg : w.heap[g]? = some (.cells cur 5 (0, 0))) :
    Calls Tryd.prog 24 #[.pointer (some ⟨b, 0, none⟩)] w fun e w' => e = .returned (.string ⟨#[]⟩) ∧ w' = w.drew.alloc (.view ⟨g, 0, none⟩ 5) := by
  have hUS : ∀ (W : World) (q : Option Addr), (Builtin.unsafeString_ #[69, 3] 9 #[.pointer q, .int .i64 0]).run Tryd.prog W = .ok (.string .empty) W := fun W q => Lib.run_unsafeString_none W _ _ _ q
  have hlt : b < w.heap.size := (Array.getElem?_eq_some_iff.1 hbk).1
  have c1 : w.drew.cell? ⟨b, 1, none⟩ = some (.slice (some ⟨g, 0, none⟩) 0 0) := by
    have : w.drew.heap[b]? = some (.cells #[p, .slice (some ⟨g, 0, none⟩) 0 0] 55 (0, 0)) := hbk
    rw [Lib.cell_of_heap this]; rfl
  have hSD : (Builtin.unsafeSliceData_ #[53] 69 #[.slice (some ⟨g, 0, none⟩) 0 0]).run Tryd.prog w.drew = .ok (.pointer (some ⟨w.drew.heap.size, 0, none⟩)) (w.drew.alloc (.view ⟨g, 0, none⟩ 5)) :=
    Lib.run_unsafeSliceData_zero w.drew _ _ 5 Tryd.underlying69 ⟨g, 0, none⟩ 0 (5, cur.size) (by have hg' : w.drew.heap[g]? = some (.cells cur 5 (0, 0)) := hg; simp [World.shape?, hg'])
  have c2 : (w.drew.alloc (.view ⟨g, 0, none⟩ 5)).cell? ⟨b, 1, none⟩ = some (.slice (some ⟨g, 0, none⟩) 0 0) := by
    have : (w.drew.alloc (.view ⟨g, 0, none⟩ 5)).heap[b]? = _ := (Lib.alloc_old w.drew _ b hlt).trans hbk
    rw [Lib.cell_of_heap this]; rfl
  have c3 : (w.alloc (.view ⟨g, 0, none⟩ 5)).drew.cell? ⟨b, 1, none⟩ = some (.slice (some ⟨g, 0, none⟩) 0 0) := c2
  have c0 : w.cell? ⟨b, 1, none⟩ = some (.slice (some ⟨g, 0, none⟩) 0 0) := c1
  clear hg hbk hlt
  go_enter Tryd.func24, Tryd.ntmps24
  go_wp2
  go_region
  all_goals (go_wp2; go_ret; exact ⟨rfl, rfl⟩)
/-- b.String(): behind it the builder is left alone. -/
theorem bld_String {N0 b : Nat} {w : World} {hw : Hw} {xs : List UInt8} (wf : Hwf w hw) (h : Bld 55 5 N0 w hw b xs) (hN : N0 ≤ w.heap.size) :
    Calls Tryd.prog 24 #[.pointer (some ⟨b, 0, none⟩)] w fun e w' => e = .returned (.string (bs xs)) ∧ StpS (BF N0 w b 5) w hw w' hw := by
  obtain ⟨p, v, B, hp, O⟩ := h
  obtain ⟨cs, ho, hr, hh⟩ := O
  have hcs := rowsC_scal hr
  rcases ho.2 with ⟨rfl, h0⟩ | ⟨g, cap, cur, rfl, k1, k2, k3, k4, k5, k6⟩
  · have hx : xs = [] := List.eq_nil_of_length_eq_zero h0
    subst hx
    refine (bld_str_nil b p w B.heap).mono ?_
    rintro e w' ⟨rfl, rfl⟩
    exact ⟨rfl, StpS.of (Stp.drew wf) (by simp)⟩
  · have k5' : cur.size = cap := by rw [k5]; show cap * 1 = _; omega
    by_cases hx : xs = []
    · subst hx
      by_cases hc : cap = 0
      · subst hc
        refine (bld_str_noroom b g p cur w B.heap k2).mono ?_
        rintro e w' ⟨rfl, rfl⟩
        have s1 := Stp.drew (w := w) wf
        exact ⟨rfl, StpS.of (s1.then0 (Stp.alloc s1.wf _)) (by simp)⟩
      · refine (bld_str_room b g cap p w hc B.heap).mono ?_
        rintro e w' ⟨rfl, rfl⟩
        exact ⟨rfl, StpS.of (Stp.drew wf) (by simp)⟩
    · refine (bld_str_some b g cap p xs cur w hx k3 k4 k5' B.heap k2 (fun j x hj => ho.cells (g := g) rfl j _ (by rw [hcs, List.getElem?_map, hj]; rfl))).mono ?_
      rintro e w' ⟨rfl, rfl⟩
      exact ⟨rfl, frz wf k2 k1⟩

theorem bod14 : Bod Tryd.prog 14 := fun _ _ => by kernel_rfl
theorem bod15 : Bod Tryd.prog 15 := fun _ _ => by kernel_rfl
theorem bod16 : Bod Tryd.prog 16 := fun _ _ => by kernel_rfl
theorem bod22 : Bod Tryd.prog 22 := fun _ _ => by kernel_rfl
theorem bod23 : Bod Tryd.prog 23 := fun _ _ => by kernel_rfl
theorem bod24 : Bod Tryd.prog 24 := fun _ _ => by kernel_rfl
theorem bod25 : Bod Tryd.prog 25 := fun _ _ => by kernel_rfl
theorem bod26 : Bod Tryd.prog 26 := fun _ _ => by kernel_rfl
theorem bod27 : Bod Tryd.prog 27 := fun _ _ => by kernel_rfl
theorem bod30 : Bod Tryd.prog 30 := fun _ _ => by kernel_rfl
theorem fld23_0 : Fld Tryd.prog 23 0 0 := fun _ _ _ => by kernel_rfl
theorem fld23_1 : Fld Tryd.prog 23 1 1 := fun _ _ _ => by kernel_rfl
theorem fld23_2 : Fld Tryd.prog 23 2 2 := fun _ _ _ => by kernel_rfl
theorem fld23_3 : Fld Tryd.prog 23 3 3 := fun _ _ _ => by kernel_rfl
theorem fld23_4 : Fld Tryd.prog 23 4 4 := fun _ _ _ => by kernel_rfl
theorem fld23_5 : Fld Tryd.prog 23 5 5 := fun _ _ _ => by kernel_rfl
theorem fld23_6 : Fld Tryd.prog 23 6 6 := fun _ _ _ => by kernel_rfl
theorem fld26_0 : Fld Tryd.prog 26 0 0 := fun _ _ _ => by kernel_rfl
theorem fld26_1 : Fld Tryd.prog 26 1 1 := fun _ _ _ => by kernel_rfl
theorem fld26_2 : Fld Tryd.prog 26 2 2 := fun _ _ _ => by kernel_rfl
theorem ifc59 : Tryd.prog.isIface 59 = true := by kernel_rfl
theorem mixed : Tryd.prog.follows .mixedOrders = true := by kernel_rfl
theorem mki72 (v : Value) (w : World) : (Instr.makeInterface 72 v).run Tryd.prog w = .ok (.iface 72 v) w := by kernel_rfl
theorem mki74 (v : Value) (w : World) : (Instr.makeInterface 74 v).run Tryd.prog w = .ok (.iface 74 v) w := by kernel_rfl
theorem ty23 : Ty Tryd.prog 23 7 80 true (.agg #[.int .i64 0, .int .i64 0, .string ⟨#[]⟩, .string ⟨#[]⟩, .int .i64 0, .int .i64 0, .string ⟨#[]⟩]) := ⟨by kernel_rfl, by kernel_rfl⟩
theorem ty24 : Ty Tryd.prog 24 1 8 false (.int .i64 0) := ⟨by kernel_rfl, by kernel_rfl⟩
theorem ty3 : Ty Tryd.prog 3 1 8 false (.int .i64 0) := ⟨by kernel_rfl, by kernel_rfl⟩
theorem ty5 : Ty Tryd.prog 5 1 1 false (.int .u8 0) := ⟨by kernel_rfl, by kernel_rfl⟩
theorem ty55 : Ty Tryd.prog 55 2 32 true (.agg #[.pointer none, .slice none 0 0]) := ⟨by kernel_rfl, by kernel_rfl⟩
theorem ty9 : Ty Tryd.prog 9 1 16 false (.string ⟨#[]⟩) := ⟨by kernel_rfl, by kernel_rfl⟩
/-! ### consignor/consignorlaw21.cutAsk: function 4 -/
def consignorlaw21_cutAsk.f (k : Nat) (a0 : ApiAsk) : Option ApiAsk := if (0 : Int) ≤ (if 130 < (a0.Repo.length : Int) then 130 else (a0.Repo.length : Int)) then (if ((if 130 < (a0.Repo.length : Int) then 130 else (a0.Repo.length : Int)) : Int) ≤ (a0.Repo.length : Int) then (if (0 : Int) ≤ (if 130 < (a0.Digest.length : Int) then 130 else (a0.Digest.length : Int)) then (if ((if 130 < (a0.Digest.length : Int) then 130 else (a0.Digest.length : Int)) : Int) ≤ (a0.Digest.length : Int) then (if (0 : Int) ≤ (if 1002 < (a0.Data.length : Int) then 1002 else (a0.Data.length : Int)) then (if ((if 1002 < (a0.Data.length : Int) then 1002 else (a0.Data.length : Int)) : Int) ≤ (a0.Data.length : Int) then (some (⟨a0.Id, a0.Kind, (a0.Repo.take (Int.toNat (if 130 < (a0.Repo.length : Int) then 130 else (a0.Repo.length : Int)))).drop (Int.toNat 0), (a0.Digest.take (Int.toNat (if 130 < (a0.Digest.length : Int) then 130 else (a0.Digest.length : Int)))).drop (Int.toNat 0), a0.Upload, a0.Offset, (a0.Data.take (Int.toNat (if 1002 < (a0.Data.length : Int) then 1002 else (a0.Data.length : Int)))).drop (Int.toNat 0)⟩ : ApiAsk)) else none) else none) else none) else none) else none) else none
set_option maxRecDepth 100000 in
set_option maxHeartbeats 1000000 in
theorem consignorlaw21_cutAsk.ok (k : Nat) {w0 : World} {hw0 : Hw} (wf : Hwf w0 hw0) (a0 : ApiAsk) (r : ApiAsk) (h : consignorlaw21_cutAsk.f k a0 = some r) :
    Calls Tryd.prog 4 #[.agg #[.int .i64 a0.Id, .int .i64 a0.Kind, .string (bs a0.Repo), .string (bs a0.Digest), .int .i64 a0.Upload, .int .i64 a0.Offset, .string (bs a0.Data)]] w0 fun e w' => ∃ (hw' : Hw), e = .returned (.agg #[.int .i64 r.Id, .int .i64 r.Kind, .string (bs r.Repo), .string (bs r.Digest), .int .i64 r.Upload, .int .i64 r.Offset, .string (bs r.Data)]) ∧ Stp none w0 hw0 w' hw' := by
  have fr0 := Stp.refl none (w := w0) (hw := hw0) wf
  unfold consignorlaw21_cutAsk.f at h
  refine enter (n := 28) Tryd.func4 rfl rfl (Nat.le_of_ble_eq_true rfl) ?_
  refine wc_seq ?_
  refine wc_region ?_
  refine wl_box fr0.wf fr0.g.size [.int .i64 a0.Id, .int .i64 a0.Kind, .string (bs a0.Repo), .string (bs a0.Digest), .int .i64 a0.Upload, .int .i64 a0.Offset, .string (bs a0.Data)] (cells_of (v := (.agg #[.int .i64 a0.Id, .int .i64 a0.Kind, .string (bs a0.Repo), .string (bs a0.Digest), .int .i64 a0.Upload, .int .i64 a0.Offset, .string (bs a0.Data)])) rfl rfl) ?_
  intro b1 w2 s3 B4 g5
  have fr6 := fr0.then0 s3
  refine wl_alloc fr6.wf fr6.g.size ty23 [.int .i64 0, .int .i64 0, .string (bs []), .string (bs []), .int .i64 0, .int .i64 0, .string (bs [])] rfl ?_
  intro b7 w8 s9 B10 g11
  have n12 : b1 ≠ b7 := B4.ne g11
  have fr13 := fr6.then0 s9
  refine wl_nil ?_
  refine qn ?_
  refine wc_seq ?_
  have s14 := Stp.drew (w := w8) (hw := hw0) fr13.wf
  have fr15 := fr13.then0 s14
  have B16 := ((B4.step0 s9).step0 s14)
  have B17 := (B10.step0 s14)
  by_cases c19 : (0 : Int) ≤ (if 130 < (a0.Repo.length : Int) then 130 else (a0.Repo.length : Int))
  · replace h := (if_pos c19).symm.trans h
    by_cases c20 : ((if 130 < (a0.Repo.length : Int) then 130 else (a0.Repo.length : Int)) : Int) ≤ (a0.Repo.length : Int)
    · replace h := (if_pos c20).symm.trans h
      by_cases c21 : (0 : Int) ≤ (if 130 < (a0.Digest.length : Int) then 130 else (a0.Digest.length : Int))
      · replace h := (if_pos c21).symm.trans h
        by_cases c22 : ((if 130 < (a0.Digest.length : Int) then 130 else (a0.Digest.length : Int)) : Int) ≤ (a0.Digest.length : Int)
        · replace h := (if_pos c22).symm.trans h
          by_cases c23 : (0 : Int) ≤ (if 1002 < (a0.Data.length : Int) then 1002 else (a0.Data.length : Int))
          · replace h := (if_pos c23).symm.trans h
            by_cases c24 : ((if 1002 < (a0.Data.length : Int) then 1002 else (a0.Data.length : Int)) : Int) ≤ (a0.Data.length : Int)
            · replace h := (if_pos c24).symm.trans h
              refine wc_any (hw := hw0) mixed [[], [0], [], [2], [3], [4], [1, 5], [], [7], [], [9], [10], [11], [8, 12], [], [14], [], [16], [17], [18], [15, 19], [0, 1, 2, 3, 4, 5, 6, 7, 8, 9, 10, 14, 15, 16, 17], [21, 6, 0, 1, 2, 3, 4, 5, 6, 7, 8, 9, 10, 14, 15, 16, 17], [0, 1, 2, 3, 4, 5, 6, 7, 8, 9, 10, 11, 12, 13, 14, 15, 16, 17, 21, 22], [23, 13, 22, 0, 1, 2, 3, 4, 5, 6, 7, 8, 9, 10, 11, 12, 13, 14, 15, 16, 17, 21, 22], [0, 1, 2, 3, 4, 5, 6, 7, 8, 9, 10, 11, 12, 13, 14, 15, 16, 17, 18, 19, 20, 21, 22, 23, 24], [25, 20, 24, 0, 1, 2, 3, 4, 5, 6, 7, 8, 9, 10, 11, 12, 13, 14, 15, 16, 17, 18, 19, 20, 21, 22, 23, 24]] [3, 4, 5, 6, 7, 8, 9, 10, 11, 12, 13, 14, 15, 16, 17, 18, 19, 20, 21, 22, 23, 24, 25, 26] (by kernel_rfl) (PhiOf [fun v w hw => v = .pointer (some ⟨b1, 2, none⟩), fun v w hw => v = .string (bs a0.Repo), fun v w hw => v = .pointer (some ⟨b1, 2, none⟩), fun v w hw => v = .string (bs a0.Repo), fun v w hw => v = .int .i64 (a0.Repo.length : Int), fun v w hw => v = .int .i64 (if 130 < (a0.Repo.length : Int) then 130 else (a0.Repo.length : Int)), fun v w hw => v = .string (bs ((a0.Repo.take (Int.toNat (if 130 < (a0.Repo.length : Int) then 130 else (a0.Repo.length : Int)))).drop (Int.toNat 0))), fun v w hw => v = .pointer (some ⟨b1, 3, none⟩), fun v w hw => v = .string (bs a0.Digest), fun v w hw => v = .pointer (some ⟨b1, 3, none⟩), fun v w hw => v = .string (bs a0.Digest), fun v w hw => v = .int .i64 (a0.Digest.length : Int), fun v w hw => v = .int .i64 (if 130 < (a0.Digest.length : Int) then 130 else (a0.Digest.length : Int)), fun v w hw => v = .string (bs ((a0.Digest.take (Int.toNat (if 130 < (a0.Digest.length : Int) then 130 else (a0.Digest.length : Int)))).drop (Int.toNat 0))), fun v w hw => v = .pointer (some ⟨b1, 6, none⟩), fun v w hw => v = .string (bs a0.Data), fun v w hw => v = .pointer (some ⟨b1, 6, none⟩), fun v w hw => v = .string (bs a0.Data), fun v w hw => v = .int .i64 (a0.Data.length : Int), fun v w hw => v = .int .i64 (if 1002 < (a0.Data.length : Int) then 1002 else (a0.Data.length : Int)), fun v w hw => v = .string (bs ((a0.Data.take (Int.toNat (if 1002 < (a0.Data.length : Int) then 1002 else (a0.Data.length : Int)))).drop (Int.toNat 0))), fun v w hw => v = .pointer (some ⟨b1, 2, none⟩), fun v w hw => True, fun v w hw => v = .pointer (some ⟨b1, 3, none⟩), fun v w hw => True, fun v w hw => v = .pointer (some ⟨b1, 6, none⟩), fun v w hw => True]) (fun D σ w hw => Stp none w0 hw0 w hw ∧ Ext (w8).drew hw0 w hw ∧ Box w0.heap.size w hw b1 23 [.int .i64 a0.Id, .int .i64 a0.Kind, (bif D 22 then .string (bs ((a0.Repo.take (Int.toNat (if 130 < (a0.Repo.length : Int) then 130 else (a0.Repo.length : Int)))).drop (Int.toNat 0))) else .string (bs a0.Repo)), (bif D 24 then .string (bs ((a0.Digest.take (Int.toNat (if 130 < (a0.Digest.length : Int) then 130 else (a0.Digest.length : Int)))).drop (Int.toNat 0))) else .string (bs a0.Digest)), .int .i64 a0.Upload, .int .i64 a0.Offset, (bif D 26 then .string (bs ((a0.Data.take (Int.toNat (if 1002 < (a0.Data.length : Int) then 1002 else (a0.Data.length : Int)))).drop (Int.toNat 0))) else .string (bs a0.Data))] ∧ Box w0.heap.size w hw b7 23 [.int .i64 0, .int .i64 0, .string (bs []), .string (bs []), .int .i64 0, .int .i64 0, .string (bs [])]) (stab_of (sbc (fun _ _ _ _ _ _ h => h) (sbc (fun _ _ _ _ _ _ h => h) (sbc (fun _ _ _ _ _ _ h => h) (sbc (fun _ _ _ _ _ _ h => h) (sbc (fun _ _ _ _ _ _ h => h) (sbc (fun _ _ _ _ _ _ h => h) (sbc (fun _ _ _ _ _ _ h => h) (sbc (fun _ _ _ _ _ _ h => h) (sbc (fun _ _ _ _ _ _ h => h) (sbc (fun _ _ _ _ _ _ h => h) (sbc (fun _ _ _ _ _ _ h => h) (sbc (fun _ _ _ _ _ _ h => h) (sbc (fun _ _ _ _ _ _ h => h) (sbc (fun _ _ _ _ _ _ h => h) (sbc (fun _ _ _ _ _ _ h => h) (sbc (fun _ _ _ _ _ _ h => h) (sbc (fun _ _ _ _ _ _ h => h) (sbc (fun _ _ _ _ _ _ h => h) (sbc (fun _ _ _ _ _ _ h => h) (sbc (fun _ _ _ _ _ _ h => h) (sbc (fun _ _ _ _ _ _ h => h) (sbc (fun _ _ _ _ _ _ h => h) (sbc (fun _ _ _ _ _ _ h => h) (sbc (fun _ _ _ _ _ _ h => h) (sbc (fun _ _ _ _ _ _ h => h) (sbc (fun _ _ _ _ _ _ h => h) (sbc (fun _ _ _ _ _ _ h => h) sbn)))))))))))))))))))))))))))) ?_ (stc ?_ (stc ?_ (stc ?_ (stc ?_ (stc ?_ (stc ?_ (stc ?_ (stc ?_ (stc ?_ (stc ?_ (stc ?_ (stc ?_ (stc ?_ (stc ?_ (stc ?_ (stc ?_ (stc ?_ (stc ?_ (stc ?_ (stc ?_ (stc ?_ (stc ?_ (stc ?_ (stc ?_ (stc ?_ (stc ?_ (stc ?_ stn))))))))))))))))))))))))))) ?_
              · exact ⟨fr15, Ext.refl _ _, B16, B17⟩
              · intro D37 σ38 w39 hw40 q41 q42 q43 q44 q45 q46
                obtain ⟨fr47, e48, C49, C50⟩ := q41
                have B51 := C49
                rw [show D37 22 = false from (q46 22 rfl), show D37 24 = false from (q46 24 rfl), show D37 26 = false from (q46 26 rfl)] at B51
                refine wl_field fld23_2 ((q44 1 rfl).trans rfl) ?_
                refine wl_nil ?_
                exact qn ⟨_, _, rfl, (Ext.refl _ _), ⟨fr47, e48.trans (Ext.refl _ _), C49, C50⟩, (aft_some rfl)⟩
              · intro D52 σ53 w54 hw55 q56 q57 q58 q59 q60 q61
                obtain ⟨fr62, e63, C64, C65⟩ := q56
                have B66 := C64
                rw [show D52 22 = false from (q61 22 rfl), show D52 24 = false from (q61 24 rfl), show D52 26 = false from (q61 26 rfl)] at B66
                obtain ⟨⟨_, m67⟩, _⟩ := q58
                have z68 : (σ53 3) = .pointer (some ⟨b1, 2, none⟩) := m67
                refine wl_loadb1 B66 ty9 z68 (.string (bs a0.Repo)) rfl ?_
                refine wl_nil ?_
                exact qn ⟨_, _, rfl, (Ext.refl _ _), ⟨fr62, e63.trans (Ext.refl _ _), C64, C65⟩, (aft_some rfl)⟩
              · intro D69 σ70 w71 hw72 q73 q74 q75 q76 q77 q78
                obtain ⟨fr79, e80, C81, C82⟩ := q73
                have B83 := C81
                rw [show D69 22 = false from (q78 22 rfl), show D69 24 = false from (q78 24 rfl), show D69 26 = false from (q78 26 rfl)] at B83
                refine wl_field fld23_2 ((q76 1 rfl).trans rfl) ?_
                refine wl_nil ?_
                exact qn ⟨_, _, rfl, (Ext.refl _ _), ⟨fr79, e80.trans (Ext.refl _ _), C81, C82⟩, (aft_some rfl)⟩
              · intro D84 σ85 w86 hw87 q88 q89 q90 q91 q92 q93
                obtain ⟨fr94, e95, C96, C97⟩ := q88
                have B98 := C96
                rw [show D84 22 = false from (q93 22 rfl), show D84 24 = false from (q93 24 rfl), show D84 26 = false from (q93 26 rfl)] at B98
                obtain ⟨⟨_, m99⟩, _⟩ := q90
                have z100 : (σ85 5) = .pointer (some ⟨b1, 2, none⟩) := m99
                refine wl_loadb1 B98 ty9 z100 (.string (bs a0.Repo)) rfl ?_
                refine wl_nil ?_
                exact qn ⟨_, _, rfl, (Ext.refl _ _), ⟨fr94, e95.trans (Ext.refl _ _), C96, C97⟩, (aft_some rfl)⟩
              · intro D101 σ102 w103 hw104 q105 q106 q107 q108 q109 q110
                obtain ⟨fr111, e112, C113, C114⟩ := q105
                have B115 := C113
                rw [show D101 22 = false from (q110 22 rfl), show D101 24 = false from (q110 24 rfl), show D101 26 = false from (q110 26 rfl)] at B115
                obtain ⟨⟨_, m116⟩, _⟩ := q107
                have z117 : (σ102 6) = .string (bs a0.Repo) := m116
                refine wl_lens Tryd.underlying9 z117 ?_
                refine wl_nil ?_
                exact qn ⟨_, _, rfl, (Ext.refl _ _), ⟨fr111, e112.trans (Ext.refl _ _), C113, C114⟩, (aft_some rfl)⟩
              · intro D118 σ119 w120 hw121 q122 q123 q124 q125 q126 q127
                obtain ⟨fr128, e129, C130, C131⟩ := q122
                have B132 := C130
                rw [show D118 22 = false from (q127 22 rfl), show D118 24 = false from (q127 24 rfl), show D118 26 = false from (q127 26 rfl)] at B132
                obtain ⟨⟨_, m133⟩, _⟩ := q124
                have z134 : (σ119 7) = .int .i64 (a0.Repo.length : Int) := m133
                refine wl_min2 z134 rfl ?_
                refine wl_nil ?_
                exact qn ⟨_, _, rfl, (Ext.refl _ _), ⟨fr128, e129.trans (Ext.refl _ _), C130, C131⟩, (aft_some rfl)⟩
              · intro D135 σ136 w137 hw138 q139 q140 q141 q142 q143 q144
                obtain ⟨fr145, e146, C147, C148⟩ := q139
                have B149 := C147
                rw [show D135 22 = false from (q144 22 rfl), show D135 24 = false from (q144 24 rfl), show D135 26 = false from (q144 26 rfl)] at B149
                obtain ⟨⟨_, m150⟩, ⟨_, m151⟩, _⟩ := q141
                have z152 : (σ136 4) = .string (bs a0.Repo) := m150
                have z153 : (σ136 8) = .int .i64 (if 130 < (a0.Repo.length : Int) then 130 else (a0.Repo.length : Int)) := m151
                refine wl_cuts Tryd.underlying9 z152 Bd.no (Bd.yes z153) (by first | decide | omega | simp) c19 c20 ?_
                refine wl_nil ?_
                exact qn ⟨_, _, rfl, (Ext.refl _ _), ⟨fr145, e146.trans (Ext.refl _ _), C147, C148⟩, (aft_some rfl)⟩
              · intro D154 σ155 w156 hw157 q158 q159 q160 q161 q162 q163
                obtain ⟨fr164, e165, C166, C167⟩ := q158
                have B168 := C166
                rw [show D154 22 = false from (q163 22 rfl), show D154 24 = false from (q163 24 rfl), show D154 26 = false from (q163 26 rfl)] at B168
                refine wl_field fld23_3 ((q161 1 rfl).trans rfl) ?_
                refine wl_nil ?_
                exact qn ⟨_, _, rfl, (Ext.refl _ _), ⟨fr164, e165.trans (Ext.refl _ _), C166, C167⟩, (aft_some rfl)⟩
              · intro D169 σ170 w171 hw172 q173 q174 q175 q176 q177 q178
                obtain ⟨fr179, e180, C181, C182⟩ := q173
                have B183 := C181
                rw [show D169 22 = false from (q178 22 rfl), show D169 24 = false from (q178 24 rfl), show D169 26 = false from (q178 26 rfl)] at B183
                obtain ⟨⟨_, m184⟩, _⟩ := q175
                have z185 : (σ170 10) = .pointer (some ⟨b1, 3, none⟩) := m184
                refine wl_loadb1 B183 ty9 z185 (.string (bs a0.Digest)) rfl ?_
                refine wl_nil ?_
                exact qn ⟨_, _, rfl, (Ext.refl _ _), ⟨fr179, e180.trans (Ext.refl _ _), C181, C182⟩, (aft_some rfl)⟩
              · intro D186 σ187 w188 hw189 q190 q191 q192 q193 q194 q195
                obtain ⟨fr196, e197, C198, C199⟩ := q190
                have B200 := C198
                rw [show D186 22 = false from (q195 22 rfl), show D186 24 = false from (q195 24 rfl), show D186 26 = false from (q195 26 rfl)] at B200
                refine wl_field fld23_3 ((q193 1 rfl).trans rfl) ?_
                refine wl_nil ?_
                exact qn ⟨_, _, rfl, (Ext.refl _ _), ⟨fr196, e197.trans (Ext.refl _ _), C198, C199⟩, (aft_some rfl)⟩
              · intro D201 σ202 w203 hw204 q205 q206 q207 q208 q209 q210
                obtain ⟨fr211, e212, C213, C214⟩ := q205
                have B215 := C213
                rw [show D201 22 = false from (q210 22 rfl), show D201 24 = false from (q210 24 rfl), show D201 26 = false from (q210 26 rfl)] at B215
                obtain ⟨⟨_, m216⟩, _⟩ := q207
                have z217 : (σ202 12) = .pointer (some ⟨b1, 3, none⟩) := m216
                refine wl_loadb1 B215 ty9 z217 (.string (bs a0.Digest)) rfl ?_
                refine wl_nil ?_
                exact qn ⟨_, _, rfl, (Ext.refl _ _), ⟨fr211, e212.trans (Ext.refl _ _), C213, C214⟩, (aft_some rfl)⟩
              · intro D218 σ219 w220 hw221 q222 q223 q224 q225 q226 q227
                obtain ⟨fr228, e229, C230, C231⟩ := q222
                have B232 := C230
                rw [show D218 24 = false from (q227 24 rfl), show D218 26 = false from (q227 26 rfl)] at B232
                obtain ⟨⟨_, m233⟩, _⟩ := q224
                have z234 : (σ219 13) = .string (bs a0.Digest) := m233
                refine wl_lens Tryd.underlying9 z234 ?_
                refine wl_nil ?_
                exact qn ⟨_, _, rfl, (Ext.refl _ _), ⟨fr228, e229.trans (Ext.refl _ _), C230, C231⟩, (aft_some rfl)⟩
              · intro D235 σ236 w237 hw238 q239 q240 q241 q242 q243 q244
                obtain ⟨fr245, e246, C247, C248⟩ := q239
                have B249 := C247
                rw [show D235 24 = false from (q244 24 rfl), show D235 26 = false from (q244 26 rfl)] at B249
                obtain ⟨⟨_, m250⟩, _⟩ := q241
                have z251 : (σ236 14) = .int .i64 (a0.Digest.length : Int) := m250
                refine wl_min2 z251 rfl ?_
                refine wl_nil ?_
                exact qn ⟨_, _, rfl, (Ext.refl _ _), ⟨fr245, e246.trans (Ext.refl _ _), C247, C248⟩, (aft_some rfl)⟩
              · intro D252 σ253 w254 hw255 q256 q257 q258 q259 q260 q261
                obtain ⟨fr262, e263, C264, C265⟩ := q256
                have B266 := C264
                rw [show D252 24 = false from (q261 24 rfl), show D252 26 = false from (q261 26 rfl)] at B266
                obtain ⟨⟨_, m267⟩, ⟨_, m268⟩, _⟩ := q258
                have z269 : (σ253 11) = .string (bs a0.Digest) := m267
                have z270 : (σ253 15) = .int .i64 (if 130 < (a0.Digest.length : Int) then 130 else (a0.Digest.length : Int)) := m268
                refine wl_cuts Tryd.underlying9 z269 Bd.no (Bd.yes z270) (by first | decide | omega | simp) c21 c22 ?_
                refine wl_nil ?_
                exact qn ⟨_, _, rfl, (Ext.refl _ _), ⟨fr262, e263.trans (Ext.refl _ _), C264, C265⟩, (aft_some rfl)⟩
              · intro D271 σ272 w273 hw274 q275 q276 q277 q278 q279 q280
                obtain ⟨fr281, e282, C283, C284⟩ := q275
                have B285 := C283
                rw [show D271 22 = false from (q280 22 rfl), show D271 24 = false from (q280 24 rfl), show D271 26 = false from (q280 26 rfl)] at B285
                refine wl_field fld23_6 ((q278 1 rfl).trans rfl) ?_
                refine wl_nil ?_
                exact qn ⟨_, _, rfl, (Ext.refl _ _), ⟨fr281, e282.trans (Ext.refl _ _), C283, C284⟩, (aft_some rfl)⟩
              · intro D286 σ287 w288 hw289 q290 q291 q292 q293 q294 q295
                obtain ⟨fr296, e297, C298, C299⟩ := q290
                have B300 := C298
                rw [show D286 22 = false from (q295 22 rfl), show D286 24 = false from (q295 24 rfl), show D286 26 = false from (q295 26 rfl)] at B300
                obtain ⟨⟨_, m301⟩, _⟩ := q292
                have z302 : (σ287 17) = .pointer (some ⟨b1, 6, none⟩) := m301
                refine wl_loadb1 B300 ty9 z302 (.string (bs a0.Data)) rfl ?_
                refine wl_nil ?_
                exact qn ⟨_, _, rfl, (Ext.refl _ _), ⟨fr296, e297.trans (Ext.refl _ _), C298, C299⟩, (aft_some rfl)⟩
              · intro D303 σ304 w305 hw306 q307 q308 q309 q310 q311 q312
                obtain ⟨fr313, e314, C315, C316⟩ := q307
                have B317 := C315
                rw [show D303 22 = false from (q312 22 rfl), show D303 24 = false from (q312 24 rfl), show D303 26 = false from (q312 26 rfl)] at B317
                refine wl_field fld23_6 ((q310 1 rfl).trans rfl) ?_
                refine wl_nil ?_
                exact qn ⟨_, _, rfl, (Ext.refl _ _), ⟨fr313, e314.trans (Ext.refl _ _), C315, C316⟩, (aft_some rfl)⟩
              · intro D318 σ319 w320 hw321 q322 q323 q324 q325 q326 q327
                obtain ⟨fr328, e329, C330, C331⟩ := q322
                have B332 := C330
                rw [show D318 22 = false from (q327 22 rfl), show D318 24 = false from (q327 24 rfl), show D318 26 = false from (q327 26 rfl)] at B332
                obtain ⟨⟨_, m333⟩, _⟩ := q324
                have z334 : (σ319 19) = .pointer (some ⟨b1, 6, none⟩) := m333
                refine wl_loadb1 B332 ty9 z334 (.string (bs a0.Data)) rfl ?_
                refine wl_nil ?_
                exact qn ⟨_, _, rfl, (Ext.refl _ _), ⟨fr328, e329.trans (Ext.refl _ _), C330, C331⟩, (aft_some rfl)⟩
              · intro D335 σ336 w337 hw338 q339 q340 q341 q342 q343 q344
                obtain ⟨fr345, e346, C347, C348⟩ := q339
                have B349 := C347
                rw [show D335 26 = false from (q344 26 rfl)] at B349
                obtain ⟨⟨_, m350⟩, _⟩ := q341
                have z351 : (σ336 20) = .string (bs a0.Data) := m350
                refine wl_lens Tryd.underlying9 z351 ?_
                refine wl_nil ?_
                exact qn ⟨_, _, rfl, (Ext.refl _ _), ⟨fr345, e346.trans (Ext.refl _ _), C347, C348⟩, (aft_some rfl)⟩
              · intro D352 σ353 w354 hw355 q356 q357 q358 q359 q360 q361
                obtain ⟨fr362, e363, C364, C365⟩ := q356
                have B366 := C364
                rw [show D352 26 = false from (q361 26 rfl)] at B366
                obtain ⟨⟨_, m367⟩, _⟩ := q358
                have z368 : (σ353 21) = .int .i64 (a0.Data.length : Int) := m367
                refine wl_min2 z368 rfl ?_
                refine wl_nil ?_
                exact qn ⟨_, _, rfl, (Ext.refl _ _), ⟨fr362, e363.trans (Ext.refl _ _), C364, C365⟩, (aft_some rfl)⟩
              · intro D369 σ370 w371 hw372 q373 q374 q375 q376 q377 q378
                obtain ⟨fr379, e380, C381, C382⟩ := q373
                have B383 := C381
                rw [show D369 26 = false from (q378 26 rfl)] at B383
                obtain ⟨⟨_, m384⟩, ⟨_, m385⟩, _⟩ := q375
                have z386 : (σ370 18) = .string (bs a0.Data) := m384
                have z387 : (σ370 22) = .int .i64 (if 1002 < (a0.Data.length : Int) then 1002 else (a0.Data.length : Int)) := m385
                refine wl_cuts Tryd.underlying9 z386 Bd.no (Bd.yes z387) (by first | decide | omega | simp) c23 c24 ?_
                refine wl_nil ?_
                exact qn ⟨_, _, rfl, (Ext.refl _ _), ⟨fr379, e380.trans (Ext.refl _ _), C381, C382⟩, (aft_some rfl)⟩
              · intro D388 σ389 w390 hw391 q392 q393 q394 q395 q396 q397
                obtain ⟨fr398, e399, C400, C401⟩ := q392
                have B402 := C400
                rw [show D388 22 = false from (q397 22 rfl), show D388 24 = false from (q397 24 rfl), show D388 26 = false from (q397 26 rfl)] at B402
                obtain ⟨⟨_, m403⟩, ⟨_, m404⟩, ⟨_, m405⟩, ⟨_, m406⟩, ⟨_, m407⟩, ⟨_, m408⟩, ⟨_, m409⟩, ⟨_, m410⟩, ⟨_, m411⟩, ⟨_, m412⟩, ⟨_, m413⟩, ⟨_, m414⟩, ⟨_, m415⟩, ⟨_, m416⟩, ⟨_, m417⟩, _⟩ := q394
                have z418 : (σ389 3) = .pointer (some ⟨b1, 2, none⟩) := m403
                have z419 : (σ389 4) = .string (bs a0.Repo) := m404
                have z420 : (σ389 5) = .pointer (some ⟨b1, 2, none⟩) := m405
                have z421 : (σ389 6) = .string (bs a0.Repo) := m406
                have z422 : (σ389 7) = .int .i64 (a0.Repo.length : Int) := m407
                have z423 : (σ389 8) = .int .i64 (if 130 < (a0.Repo.length : Int) then 130 else (a0.Repo.length : Int)) := m408
                have z424 : (σ389 9) = .string (bs ((a0.Repo.take (Int.toNat (if 130 < (a0.Repo.length : Int) then 130 else (a0.Repo.length : Int)))).drop (Int.toNat 0))) := m409
                have z425 : (σ389 10) = .pointer (some ⟨b1, 3, none⟩) := m410
                have z426 : (σ389 11) = .string (bs a0.Digest) := m411
                have z427 : (σ389 12) = .pointer (some ⟨b1, 3, none⟩) := m412
                have z428 : (σ389 13) = .string (bs a0.Digest) := m413
                have z429 : (σ389 17) = .pointer (some ⟨b1, 6, none⟩) := m414
                have z430 : (σ389 18) = .string (bs a0.Data) := m415
                have z431 : (σ389 19) = .pointer (some ⟨b1, 6, none⟩) := m416
                have z432 : (σ389 20) = .string (bs a0.Data) := m417
                refine wl_field fld23_2 ((q395 1 rfl).trans rfl) ?_
                refine wl_nil ?_
                exact qn ⟨_, _, rfl, (Ext.refl _ _), ⟨fr398, e399.trans (Ext.refl _ _), C400, C401⟩, (aft_some rfl)⟩
              · intro D433 σ434 w435 hw436 q437 q438 q439 q440 q441 q442
                obtain ⟨fr443, e444, C445, C446⟩ := q437
                obtain ⟨⟨_, m447⟩, ⟨_, m448⟩, ⟨_, m449⟩, ⟨_, m450⟩, ⟨_, m451⟩, ⟨_, m452⟩, ⟨_, m453⟩, ⟨_, m454⟩, ⟨_, m455⟩, ⟨_, m456⟩, ⟨_, m457⟩, ⟨_, m458⟩, ⟨_, m459⟩, ⟨_, m460⟩, ⟨_, m461⟩, ⟨_, m462⟩, ⟨_, m463⟩, _⟩ := q439
                have z464 : (σ434 24) = .pointer (some ⟨b1, 2, none⟩) := m447
                have z465 : (σ434 9) = .string (bs ((a0.Repo.take (Int.toNat (if 130 < (a0.Repo.length : Int) then 130 else (a0.Repo.length : Int)))).drop (Int.toNat 0))) := m448
                have z466 : (σ434 3) = .pointer (some ⟨b1, 2, none⟩) := m449
                have z467 : (σ434 4) = .string (bs a0.Repo) := m450
                have z468 : (σ434 5) = .pointer (some ⟨b1, 2, none⟩) := m451
                have z469 : (σ434 6) = .string (bs a0.Repo) := m452
                have z470 : (σ434 7) = .int .i64 (a0.Repo.length : Int) := m453
                have z471 : (σ434 8) = .int .i64 (if 130 < (a0.Repo.length : Int) then 130 else (a0.Repo.length : Int)) := m454
                have z472 : (σ434 10) = .pointer (some ⟨b1, 3, none⟩) := m456
                have z473 : (σ434 11) = .string (bs a0.Digest) := m457
                have z474 : (σ434 12) = .pointer (some ⟨b1, 3, none⟩) := m458
                have z475 : (σ434 13) = .string (bs a0.Digest) := m459
                have z476 : (σ434 17) = .pointer (some ⟨b1, 6, none⟩) := m460
                have z477 : (σ434 18) = .string (bs a0.Data) := m461
                have z478 : (σ434 19) = .pointer (some ⟨b1, 6, none⟩) := m462
                have z479 : (σ434 20) = .string (bs a0.Data) := m463
                refine wl_store C445 fr443.wf ty9 z464 [.string (bs ((a0.Repo.take (Int.toNat (if 130 < (a0.Repo.length : Int) then 130 else (a0.Repo.length : Int)))).drop (Int.toNat 0)))] (cells_of z465 rfl) rfl (Nat.le_of_ble_eq_true rfl) (by intro u hu; simp only [List.mem_cons, List.not_mem_nil, or_false] at hu; subst hu; first | rfl | exact Dy.one _) [.int .i64 a0.Id, .int .i64 a0.Kind, .string (bs ((a0.Repo.take (Int.toNat (if 130 < (a0.Repo.length : Int) then 130 else (a0.Repo.length : Int)))).drop (Int.toNat 0))), (bif D433 24 then .string (bs ((a0.Digest.take (Int.toNat (if 130 < (a0.Digest.length : Int) then 130 else (a0.Digest.length : Int)))).drop (Int.toNat 0))) else .string (bs a0.Digest)), .int .i64 a0.Upload, .int .i64 a0.Offset, (bif D433 26 then .string (bs ((a0.Data.take (Int.toNat (if 1002 < (a0.Data.length : Int) then 1002 else (a0.Data.length : Int)))).drop (Int.toNat 0))) else .string (bs a0.Data))] rfl ?_
                intro w480 s481 B482
                have fr483 := fr443.then s481 (fun _ e => (Option.some.inj e ▸ C445.new))
                refine wl_nil ?_
                have B484 := (C446.stepb s481 (Ne.symm n12))
                exact qn ⟨_, _, rfl, s481.ext, ⟨fr483, e444.trans s481.ext, B482, B484⟩, aft_none⟩
              · intro D485 σ486 w487 hw488 q489 q490 q491 q492 q493 q494
                obtain ⟨fr495, e496, C497, C498⟩ := q489
                have B499 := C497
                rw [show D485 22 = true from (q493 22 rfl), show D485 24 = false from (q494 24 rfl), show D485 26 = false from (q494 26 rfl)] at B499
                obtain ⟨⟨_, m500⟩, ⟨_, m501⟩, ⟨_, m502⟩, ⟨_, m503⟩, ⟨_, m504⟩, ⟨_, m505⟩, ⟨_, m506⟩, ⟨_, m507⟩, ⟨_, m508⟩, ⟨_, m509⟩, ⟨_, m510⟩, ⟨_, m511⟩, ⟨_, m512⟩, ⟨_, m513⟩, ⟨_, m514⟩, ⟨_, m515⟩, ⟨_, m516⟩, ⟨_, m517⟩, ⟨_, m518⟩, ⟨_, m519⟩, _⟩ := q491
                have z520 : (σ486 3) = .pointer (some ⟨b1, 2, none⟩) := m500
                have z521 : (σ486 4) = .string (bs a0.Repo) := m501
                have z522 : (σ486 5) = .pointer (some ⟨b1, 2, none⟩) := m502
                have z523 : (σ486 6) = .string (bs a0.Repo) := m503
                have z524 : (σ486 7) = .int .i64 (a0.Repo.length : Int) := m504
                have z525 : (σ486 8) = .int .i64 (if 130 < (a0.Repo.length : Int) then 130 else (a0.Repo.length : Int)) := m505
                have z526 : (σ486 9) = .string (bs ((a0.Repo.take (Int.toNat (if 130 < (a0.Repo.length : Int) then 130 else (a0.Repo.length : Int)))).drop (Int.toNat 0))) := m506
                have z527 : (σ486 10) = .pointer (some ⟨b1, 3, none⟩) := m507
                have z528 : (σ486 11) = .string (bs a0.Digest) := m508
                have z529 : (σ486 12) = .pointer (some ⟨b1, 3, none⟩) := m509
                have z530 : (σ486 13) = .string (bs a0.Digest) := m510
                have z531 : (σ486 14) = .int .i64 (a0.Digest.length : Int) := m511
                have z532 : (σ486 15) = .int .i64 (if 130 < (a0.Digest.length : Int) then 130 else (a0.Digest.length : Int)) := m512
                have z533 : (σ486 16) = .string (bs ((a0.Digest.take (Int.toNat (if 130 < (a0.Digest.length : Int) then 130 else (a0.Digest.length : Int)))).drop (Int.toNat 0))) := m513
                have z534 : (σ486 17) = .pointer (some ⟨b1, 6, none⟩) := m514
                have z535 : (σ486 18) = .string (bs a0.Data) := m515
                have z536 : (σ486 19) = .pointer (some ⟨b1, 6, none⟩) := m516
                have z537 : (σ486 20) = .string (bs a0.Data) := m517
                have z538 : (σ486 24) = .pointer (some ⟨b1, 2, none⟩) := m518
                refine wl_field fld23_3 ((q492 1 rfl).trans rfl) ?_
                refine wl_nil ?_
                exact qn ⟨_, _, rfl, (Ext.refl _ _), ⟨fr495, e496.trans (Ext.refl _ _), C497, C498⟩, (aft_some rfl)⟩
              · intro D539 σ540 w541 hw542 q543 q544 q545 q546 q547 q548
                obtain ⟨fr549, e550, C551, C552⟩ := q543
                obtain ⟨⟨_, m553⟩, ⟨_, m554⟩, ⟨_, m555⟩, ⟨_, m556⟩, ⟨_, m557⟩, ⟨_, m558⟩, ⟨_, m559⟩, ⟨_, m560⟩, ⟨_, m561⟩, ⟨_, m562⟩, ⟨_, m563⟩, ⟨_, m564⟩, ⟨_, m565⟩, ⟨_, m566⟩, ⟨_, m567⟩, ⟨_, m568⟩, ⟨_, m569⟩, ⟨_, m570⟩, ⟨_, m571⟩, ⟨_, m572⟩, ⟨_, m573⟩, ⟨_, m574⟩, ⟨_, m575⟩, _⟩ := q545
                have z576 : (σ540 25) = .pointer (some ⟨b1, 3, none⟩) := m553
                have z577 : (σ540 16) = .string (bs ((a0.Digest.take (Int.toNat (if 130 < (a0.Digest.length : Int) then 130 else (a0.Digest.length : Int)))).drop (Int.toNat 0))) := m554
                have z578 : (σ540 3) = .pointer (some ⟨b1, 2, none⟩) := m556
                have z579 : (σ540 4) = .string (bs a0.Repo) := m557
                have z580 : (σ540 5) = .pointer (some ⟨b1, 2, none⟩) := m558
                have z581 : (σ540 6) = .string (bs a0.Repo) := m559
                have z582 : (σ540 7) = .int .i64 (a0.Repo.length : Int) := m560
                have z583 : (σ540 8) = .int .i64 (if 130 < (a0.Repo.length : Int) then 130 else (a0.Repo.length : Int)) := m561
                have z584 : (σ540 9) = .string (bs ((a0.Repo.take (Int.toNat (if 130 < (a0.Repo.length : Int) then 130 else (a0.Repo.length : Int)))).drop (Int.toNat 0))) := m562
                have z585 : (σ540 10) = .pointer (some ⟨b1, 3, none⟩) := m563
                have z586 : (σ540 11) = .string (bs a0.Digest) := m564
                have z587 : (σ540 12) = .pointer (some ⟨b1, 3, none⟩) := m565
                have z588 : (σ540 13) = .string (bs a0.Digest) := m566
                have z589 : (σ540 14) = .int .i64 (a0.Digest.length : Int) := m567
                have z590 : (σ540 15) = .int .i64 (if 130 < (a0.Digest.length : Int) then 130 else (a0.Digest.length : Int)) := m568
                have z591 : (σ540 17) = .pointer (some ⟨b1, 6, none⟩) := m570
                have z592 : (σ540 18) = .string (bs a0.Data) := m571
                have z593 : (σ540 19) = .pointer (some ⟨b1, 6, none⟩) := m572
                have z594 : (σ540 20) = .string (bs a0.Data) := m573
                have z595 : (σ540 24) = .pointer (some ⟨b1, 2, none⟩) := m574
                refine wl_store C551 fr549.wf ty9 z576 [.string (bs ((a0.Digest.take (Int.toNat (if 130 < (a0.Digest.length : Int) then 130 else (a0.Digest.length : Int)))).drop (Int.toNat 0)))] (cells_of z577 rfl) rfl (Nat.le_of_ble_eq_true rfl) (by intro u hu; simp only [List.mem_cons, List.not_mem_nil, or_false] at hu; subst hu; first | rfl | exact Dy.one _) [.int .i64 a0.Id, .int .i64 a0.Kind, (bif D539 22 then .string (bs ((a0.Repo.take (Int.toNat (if 130 < (a0.Repo.length : Int) then 130 else (a0.Repo.length : Int)))).drop (Int.toNat 0))) else .string (bs a0.Repo)), .string (bs ((a0.Digest.take (Int.toNat (if 130 < (a0.Digest.length : Int) then 130 else (a0.Digest.length : Int)))).drop (Int.toNat 0))), .int .i64 a0.Upload, .int .i64 a0.Offset, (bif D539 26 then .string (bs ((a0.Data.take (Int.toNat (if 1002 < (a0.Data.length : Int) then 1002 else (a0.Data.length : Int)))).drop (Int.toNat 0))) else .string (bs a0.Data))] rfl ?_
                intro w596 s597 B598
                have fr599 := fr549.then s597 (fun _ e => (Option.some.inj e ▸ C551.new))
                refine wl_nil ?_
                have B600 := (C552.stepb s597 (Ne.symm n12))
                exact qn ⟨_, _, rfl, s597.ext, ⟨fr599, e550.trans s597.ext, B598, B600⟩, aft_none⟩
              · intro D601 σ602 w603 hw604 q605 q606 q607 q608 q609 q610
                obtain ⟨fr611, e612, C613, C614⟩ := q605
                have B615 := C613
                rw [show D601 22 = true from (q609 22 rfl), show D601 24 = true from (q609 24 rfl), show D601 26 = false from (q610 26 rfl)] at B615
                obtain ⟨⟨_, m616⟩, ⟨_, m617⟩, ⟨_, m618⟩, ⟨_, m619⟩, ⟨_, m620⟩, ⟨_, m621⟩, ⟨_, m622⟩, ⟨_, m623⟩, ⟨_, m624⟩, ⟨_, m625⟩, ⟨_, m626⟩, ⟨_, m627⟩, ⟨_, m628⟩, ⟨_, m629⟩, ⟨_, m630⟩, ⟨_, m631⟩, ⟨_, m632⟩, ⟨_, m633⟩, ⟨_, m634⟩, ⟨_, m635⟩, ⟨_, m636⟩, ⟨_, m637⟩, ⟨_, m638⟩, ⟨_, m639⟩, ⟨_, m640⟩, _⟩ := q607
                have z641 : (σ602 3) = .pointer (some ⟨b1, 2, none⟩) := m616
                have z642 : (σ602 4) = .string (bs a0.Repo) := m617
                have z643 : (σ602 5) = .pointer (some ⟨b1, 2, none⟩) := m618
                have z644 : (σ602 6) = .string (bs a0.Repo) := m619
                have z645 : (σ602 7) = .int .i64 (a0.Repo.length : Int) := m620
                have z646 : (σ602 8) = .int .i64 (if 130 < (a0.Repo.length : Int) then 130 else (a0.Repo.length : Int)) := m621
                have z647 : (σ602 9) = .string (bs ((a0.Repo.take (Int.toNat (if 130 < (a0.Repo.length : Int) then 130 else (a0.Repo.length : Int)))).drop (Int.toNat 0))) := m622
                have z648 : (σ602 10) = .pointer (some ⟨b1, 3, none⟩) := m623
                have z649 : (σ602 11) = .string (bs a0.Digest) := m624
                have z650 : (σ602 12) = .pointer (some ⟨b1, 3, none⟩) := m625
                have z651 : (σ602 13) = .string (bs a0.Digest) := m626
                have z652 : (σ602 14) = .int .i64 (a0.Digest.length : Int) := m627
                have z653 : (σ602 15) = .int .i64 (if 130 < (a0.Digest.length : Int) then 130 else (a0.Digest.length : Int)) := m628
                have z654 : (σ602 16) = .string (bs ((a0.Digest.take (Int.toNat (if 130 < (a0.Digest.length : Int) then 130 else (a0.Digest.length : Int)))).drop (Int.toNat 0))) := m629
                have z655 : (σ602 17) = .pointer (some ⟨b1, 6, none⟩) := m630
                have z656 : (σ602 18) = .string (bs a0.Data) := m631
                have z657 : (σ602 19) = .pointer (some ⟨b1, 6, none⟩) := m632
                have z658 : (σ602 20) = .string (bs a0.Data) := m633
                have z659 : (σ602 21) = .int .i64 (a0.Data.length : Int) := m634
                have z660 : (σ602 22) = .int .i64 (if 1002 < (a0.Data.length : Int) then 1002 else (a0.Data.length : Int)) := m635
                have z661 : (σ602 23) = .string (bs ((a0.Data.take (Int.toNat (if 1002 < (a0.Data.length : Int) then 1002 else (a0.Data.length : Int)))).drop (Int.toNat 0))) := m636
                have z662 : (σ602 24) = .pointer (some ⟨b1, 2, none⟩) := m637
                have z663 : (σ602 25) = .pointer (some ⟨b1, 3, none⟩) := m639
                refine wl_field fld23_6 ((q608 1 rfl).trans rfl) ?_
                refine wl_nil ?_
                exact qn ⟨_, _, rfl, (Ext.refl _ _), ⟨fr611, e612.trans (Ext.refl _ _), C613, C614⟩, (aft_some rfl)⟩
              · intro D664 σ665 w666 hw667 q668 q669 q670 q671 q672 q673
                obtain ⟨fr674, e675, C676, C677⟩ := q668
                obtain ⟨⟨_, m678⟩, ⟨_, m679⟩, ⟨_, m680⟩, ⟨_, m681⟩, ⟨_, m682⟩, ⟨_, m683⟩, ⟨_, m684⟩, ⟨_, m685⟩, ⟨_, m686⟩, ⟨_, m687⟩, ⟨_, m688⟩, ⟨_, m689⟩, ⟨_, m690⟩, ⟨_, m691⟩, ⟨_, m692⟩, ⟨_, m693⟩, ⟨_, m694⟩, ⟨_, m695⟩, ⟨_, m696⟩, ⟨_, m697⟩, ⟨_, m698⟩, ⟨_, m699⟩, ⟨_, m700⟩, ⟨_, m701⟩, ⟨_, m702⟩, ⟨_, m703⟩, ⟨_, m704⟩, ⟨_, m705⟩, _⟩ := q670
                have z706 : (σ665 26) = .pointer (some ⟨b1, 6, none⟩) := m678
                have z707 : (σ665 23) = .string (bs ((a0.Data.take (Int.toNat (if 1002 < (a0.Data.length : Int) then 1002 else (a0.Data.length : Int)))).drop (Int.toNat 0))) := m679
                have z708 : (σ665 3) = .pointer (some ⟨b1, 2, none⟩) := m681
                have z709 : (σ665 4) = .string (bs a0.Repo) := m682
                have z710 : (σ665 5) = .pointer (some ⟨b1, 2, none⟩) := m683
                have z711 : (σ665 6) = .string (bs a0.Repo) := m684
                have z712 : (σ665 7) = .int .i64 (a0.Repo.length : Int) := m685
                have z713 : (σ665 8) = .int .i64 (if 130 < (a0.Repo.length : Int) then 130 else (a0.Repo.length : Int)) := m686
                have z714 : (σ665 9) = .string (bs ((a0.Repo.take (Int.toNat (if 130 < (a0.Repo.length : Int) then 130 else (a0.Repo.length : Int)))).drop (Int.toNat 0))) := m687
                have z715 : (σ665 10) = .pointer (some ⟨b1, 3, none⟩) := m688
                have z716 : (σ665 11) = .string (bs a0.Digest) := m689
                have z717 : (σ665 12) = .pointer (some ⟨b1, 3, none⟩) := m690
                have z718 : (σ665 13) = .string (bs a0.Digest) := m691
                have z719 : (σ665 14) = .int .i64 (a0.Digest.length : Int) := m692
                have z720 : (σ665 15) = .int .i64 (if 130 < (a0.Digest.length : Int) then 130 else (a0.Digest.length : Int)) := m693
                have z721 : (σ665 16) = .string (bs ((a0.Digest.take (Int.toNat (if 130 < (a0.Digest.length : Int) then 130 else (a0.Digest.length : Int)))).drop (Int.toNat 0))) := m694
                have z722 : (σ665 17) = .pointer (some ⟨b1, 6, none⟩) := m695
                have z723 : (σ665 18) = .string (bs a0.Data) := m696
                have z724 : (σ665 19) = .pointer (some ⟨b1, 6, none⟩) := m697
                have z725 : (σ665 20) = .string (bs a0.Data) := m698
                have z726 : (σ665 21) = .int .i64 (a0.Data.length : Int) := m699
                have z727 : (σ665 22) = .int .i64 (if 1002 < (a0.Data.length : Int) then 1002 else (a0.Data.length : Int)) := m700
                have z728 : (σ665 24) = .pointer (some ⟨b1, 2, none⟩) := m702
                have z729 : (σ665 25) = .pointer (some ⟨b1, 3, none⟩) := m704
                refine wl_store C676 fr674.wf ty9 z706 [.string (bs ((a0.Data.take (Int.toNat (if 1002 < (a0.Data.length : Int) then 1002 else (a0.Data.length : Int)))).drop (Int.toNat 0)))] (cells_of z707 rfl) rfl (Nat.le_of_ble_eq_true rfl) (by intro u hu; simp only [List.mem_cons, List.not_mem_nil, or_false] at hu; subst hu; first | rfl | exact Dy.one _) [.int .i64 a0.Id, .int .i64 a0.Kind, (bif D664 22 then .string (bs ((a0.Repo.take (Int.toNat (if 130 < (a0.Repo.length : Int) then 130 else (a0.Repo.length : Int)))).drop (Int.toNat 0))) else .string (bs a0.Repo)), (bif D664 24 then .string (bs ((a0.Digest.take (Int.toNat (if 130 < (a0.Digest.length : Int) then 130 else (a0.Digest.length : Int)))).drop (Int.toNat 0))) else .string (bs a0.Digest)), .int .i64 a0.Upload, .int .i64 a0.Offset, .string (bs ((a0.Data.take (Int.toNat (if 1002 < (a0.Data.length : Int) then 1002 else (a0.Data.length : Int)))).drop (Int.toNat 0)))] rfl ?_
                intro w730 s731 B732
                have fr733 := fr674.then s731 (fun _ e => (Option.some.inj e ▸ C676.new))
                refine wl_nil ?_
                have B734 := (C677.stepb s731 (Ne.symm n12))
                exact qn ⟨_, _, rfl, s731.ext, ⟨fr733, e675.trans s731.ext, B732, B734⟩, aft_none⟩
              · intro σ735 w736 hw737 q738 q739 q740
                obtain ⟨fr741, e742, C743, C744⟩ := q738
                obtain ⟨m745, m746, m747, m748, m749, m750, m751, m752, m753, m754, m755, m756, m757, m758, m759, m760, m761, m762, m763, m764, m765, m766, m767, m768, m769, m770, m771, _⟩ := q740
                have B772 : Box w0.heap.size w736 hw737 b1 23 [.int .i64 a0.Id, .int .i64 a0.Kind, .string (bs ((a0.Repo.take (Int.toNat (if 130 < (a0.Repo.length : Int) then 130 else (a0.Repo.length : Int)))).drop (Int.toNat 0))), .string (bs ((a0.Digest.take (Int.toNat (if 130 < (a0.Digest.length : Int) then 130 else (a0.Digest.length : Int)))).drop (Int.toNat 0))), .int .i64 a0.Upload, .int .i64 a0.Offset, .string (bs ((a0.Data.take (Int.toNat (if 1002 < (a0.Data.length : Int) then 1002 else (a0.Data.length : Int)))).drop (Int.toNat 0)))] := C743
                refine qn ?_
                refine wc_seq ?_
                refine wc_region ?_
                refine wl_loadb B772 ty23 ((q739 1 rfl).trans rfl) [.int .i64 a0.Id, .int .i64 a0.Kind, .string (bs ((a0.Repo.take (Int.toNat (if 130 < (a0.Repo.length : Int) then 130 else (a0.Repo.length : Int)))).drop (Int.toNat 0))), .string (bs ((a0.Digest.take (Int.toNat (if 130 < (a0.Digest.length : Int) then 130 else (a0.Digest.length : Int)))).drop (Int.toNat 0))), .int .i64 a0.Upload, .int .i64 a0.Offset, .string (bs ((a0.Data.take (Int.toNat (if 1002 < (a0.Data.length : Int) then 1002 else (a0.Data.length : Int)))).drop (Int.toNat 0)))] rfl rfl ?_
                refine wl_store C744 fr741.wf ty23 ((q739 2 rfl).trans rfl) [.int .i64 a0.Id, .int .i64 a0.Kind, .string (bs ((a0.Repo.take (Int.toNat (if 130 < (a0.Repo.length : Int) then 130 else (a0.Repo.length : Int)))).drop (Int.toNat 0))), .string (bs ((a0.Digest.take (Int.toNat (if 130 < (a0.Digest.length : Int) then 130 else (a0.Digest.length : Int)))).drop (Int.toNat 0))), .int .i64 a0.Upload, .int .i64 a0.Offset, .string (bs ((a0.Data.take (Int.toNat (if 1002 < (a0.Data.length : Int) then 1002 else (a0.Data.length : Int)))).drop (Int.toNat 0)))] (cells_of (v := (.agg #[.int .i64 a0.Id, .int .i64 a0.Kind, .string (bs ((a0.Repo.take (Int.toNat (if 130 < (a0.Repo.length : Int) then 130 else (a0.Repo.length : Int)))).drop (Int.toNat 0))), .string (bs ((a0.Digest.take (Int.toNat (if 130 < (a0.Digest.length : Int) then 130 else (a0.Digest.length : Int)))).drop (Int.toNat 0))), .int .i64 a0.Upload, .int .i64 a0.Offset, .string (bs ((a0.Data.take (Int.toNat (if 1002 < (a0.Data.length : Int) then 1002 else (a0.Data.length : Int)))).drop (Int.toNat 0)))])) rfl rfl) rfl (Nat.le_of_ble_eq_true rfl) (by intro u hu; simp only [List.mem_cons, List.not_mem_nil, or_false] at hu; rcases hu with rfl | rfl | rfl | rfl | rfl | rfl | rfl <;> first | rfl | exact Dy.one _) [.int .i64 a0.Id, .int .i64 a0.Kind, .string (bs ((a0.Repo.take (Int.toNat (if 130 < (a0.Repo.length : Int) then 130 else (a0.Repo.length : Int)))).drop (Int.toNat 0))), .string (bs ((a0.Digest.take (Int.toNat (if 130 < (a0.Digest.length : Int) then 130 else (a0.Digest.length : Int)))).drop (Int.toNat 0))), .int .i64 a0.Upload, .int .i64 a0.Offset, .string (bs ((a0.Data.take (Int.toNat (if 1002 < (a0.Data.length : Int) then 1002 else (a0.Data.length : Int)))).drop (Int.toNat 0)))] rfl ?_
                intro w773 s774 B775
                have fr776 := fr741.then s774 (fun _ e => (Option.some.inj e ▸ C744.new))
                refine wl_nil ?_
                refine qn ?_
                refine wc_ret ?_
                have h := Option.some.inj h
                subst h
                refine end1 rfl (.cell ((q739 2 rfl).trans rfl) (ty23.load (l := [.int .i64 a0.Id, .int .i64 a0.Kind, .string (bs ((a0.Repo.take (Int.toNat (if 130 < (a0.Repo.length : Int) then 130 else (a0.Repo.length : Int)))).drop (Int.toNat 0))), .string (bs ((a0.Digest.take (Int.toNat (if 130 < (a0.Digest.length : Int) then 130 else (a0.Digest.length : Int)))).drop (Int.toNat 0))), .int .i64 a0.Upload, .int .i64 a0.Offset, .string (bs ((a0.Data.take (Int.toNat (if 1002 < (a0.Data.length : Int) then 1002 else (a0.Data.length : Int)))).drop (Int.toNat 0)))]) rfl (B775.cells rfl)) .nil) ?_
                exact ⟨_, rfl, fr776⟩
            · replace h := (if_neg c24).symm.trans h
              cases h
          · replace h := (if_neg c23).symm.trans h
            cases h
        · replace h := (if_neg c22).symm.trans h
          cases h
      · replace h := (if_neg c21).symm.trans h
        cases h
    · replace h := (if_neg c20).symm.trans h
      cases h
  · replace h := (if_neg c19).symm.trans h
    cases h
/-! ### consignor/courier.within: function 14 -/
def courier_within.l0 : Nat → (List Int) → Int → Option Bool
  | 0, _, _ => none
  | k + 1, a0, x4 => if x4 < (a0.length : Int) then (if 0 ≤ x4 then ((a0[Int.toNat x4]?).bind fun t18 => (if ((decide (t18 < 0)) || (decide (1099511627776 < t18))) = true then (some false) else (courier_within.l0 k a0 (IntKind.i64.wrap (x4 + 1))))) else none) else (some true)
def courier_within.f (k : Nat) (a0 : (List Int)) : Option Bool := courier_within.l0 k a0 0
set_option maxHeartbeats 1000000 in
theorem courier_within.ok (k : Nat) {w0 : World} {hw0 : Hw} (wf : Hwf w0 hw0) (a0 : (List Int)) (v0_ : Value) (q0 : Row (Kint .i64) w0 hw0 v0_ a0) (r : Bool) (h : courier_within.f k a0 = some r) :
    Calls Tryd.prog 14 #[v0_] w0 fun e w' => ∃ (hw' : Hw), e = .returned (.bool r) ∧ Stp none w0 hw0 w' hw' := by
  have fr0 := Stp.refl none (w := w0) (hw := hw0) wf
  unfold courier_within.f at h
  refine enter (n := 18) Tryd.func14 rfl rfl (Nat.le_of_ble_eq_true rfl) ?_
  refine wc_seq ?_
  refine wc_region ?_
  refine wl_assign (.bool false) rfl ?_
  refine wl_nil ?_
  refine qn ?_
  refine wc_seq ?_
  refine wc_seq ?_
  refine wc_region ?_
  refine wl_move (v0_) rfl ?_
  obtain ⟨A1, c2, hv3⟩ := (q0).slice
  refine wl_len Tryd.underlying51 (show _ = Value.slice _ a0.length _ from (Eq.trans rfl hv3)) ?_
  refine wl_move (.int .i64 0) rfl ?_
  refine wl_nil ?_
  refine qn ?_
  refine wc_block ?_
  refine wc_loop (fun m a w => ∃ (σ : Nat → Value) (hw : Hw) (kq : Nat) (x4 : Int), a = mkA 18 σ ∧ kq ≤ m ∧ kq ≤ k ∧ Stp none w0 hw0 w hw ∧ Ext w0 hw0 w hw ∧ σ 5 = v0_ ∧ σ 6 = .int .i64 (a0.length : Int) ∧ σ 7 = .int .i64 x4 ∧ courier_within.l0 kq a0 x4 = some r) k ?_ ?_ ?_
  · skip
    exact ⟨_, _, _, 0, rfl, (Nat.le_refl _), (Nat.le_refl _), fr0, (Ext.refl _ _), rfl, rfl, rfl, h⟩
  · rintro _ _ ⟨_, hw6, k7, x4, rfl, hk10, hk11, fr8, e9, z12, z13, z14, h⟩; obtain rfl := Nat.le_zero.1 hk10; rw [courier_within.l0] at h; cases h
  · rintro m0 _ w5 ⟨_, hw6, k7, x4, rfl, hk10, hk11, fr8, e9, z12, z13, z14, h⟩
    rcases k7 with _ | k7
    · rw [courier_within.l0] at h; cases h
    rw [courier_within.l0] at h
    refine wc_seq ?_
    refine wc_region ?_
    refine wl_lss z14 z13 ?_
    refine wl_nil ?_
    refine qn ?_
    refine wc_seq ?_
    by_cases c15 : x4 < (a0.length : Int)
    · replace h := (if_pos c15).symm.trans h
      have b16 : (decide (x4 < (a0.length : Int))) = true := decide_eq_true c15
      refine wc_then rfl b16 ?_
      refine wc_skip ?_
      refine qn ?_
      refine wc_seq ?_
      refine wc_block ?_
      refine wc_seq ?_
      refine wc_region ?_
      by_cases c17 : 0 ≤ x4
      · replace h := (if_pos c17).symm.trans h
        obtain ⟨t18, h19, h⟩ := Option.bind_eq_some_iff.1 h
        have c20 := at_lt c17 h19
        have f26 := q0.ext (e9)
        refine wl_at Tryd.underlying51 ty3 f26 z12 z14 c17 c20 t18 h19 ?_
        rintro B21 o22 cs23 rfl l25
        refine wl_load1 ty3 rfl (.int .i64 t18) (l25.2 0 _ rfl) ?_
        refine wl_assign (.int .i64 t18) rfl ?_
        refine wl_nil ?_
        refine qn ?_
        refine wc_seq ?_
        refine wc_region ?_
        refine wl_move (.int .i64 t18) rfl ?_
        refine wl_lss rfl rfl ?_
        refine wl_move (.bool (decide (t18 < 0))) rfl ?_
        refine wl_join 3 [14, 15, 16] 16 (.bool ((decide (t18 < 0)) || (decide (1099511627776 < t18)))) ?_ ?_
        · rcases Bool.eq_false_or_eq_true (decide (t18 < 0)) with hcc | hcc
          · skip
            refine wl_off (yl rfl rfl rfl) hcc ?_
            refine wl_off (yl rfl rfl rfl) hcc ?_
            refine wl_pick_t (decide (t18 < 0)) (.bool true) rfl hcc rfl ?_
            refine wl_nil ?_
            exact qn ⟨rfl, _, rfl, (by repeat (first | exact Same.refl _ _ | refine Same.upd ?_ rfl)), (by rw [hcc]; rfl)⟩
          · skip
            refine wl_on (yl rfl rfl rfl) hcc ?_
            refine wl_move (.int .i64 t18) rfl ?_
            refine wl_on (yl rfl rfl rfl) hcc ?_
            refine wl_gtr rfl rfl ?_
            refine wl_pick_f (decide (t18 < 0)) (.bool (decide (1099511627776 < t18))) rfl hcc rfl ?_
            refine wl_nil ?_
            exact qn ⟨rfl, _, rfl, (by repeat (first | exact Same.refl _ _ | refine Same.upd ?_ rfl)), (by rw [hcc]; rfl)⟩
        intro _ ho27 hv28
        refine wl_nil ?_
        refine qn ?_
        by_cases c29 : ((decide (t18 < 0)) || (decide (1099511627776 < t18))) = true
        · replace h := (if_pos c29).symm.trans h
          refine wc_then hv28 c29 ?_
          refine wc_seq ?_
          refine wc_region ?_
          refine wl_assign (.bool false) rfl ?_
          refine wl_nil ?_
          refine qn ?_
          refine wc_ret ?_
          refine bret ?_
          refine qr ?_
          refine qr ?_
          refine bret ?_
          refine qr ?_
          have h := Option.some.inj h
          subst h
          refine end1 rfl (.tmp rfl .nil) ?_
          exact ⟨_, rfl, fr8⟩
        · replace h := (if_neg c29).symm.trans h
          have b30 : ((decide (t18 < 0)) || (decide (1099511627776 < t18))) = false := Bool.eq_false_iff.2 c29
          refine wc_else hv28 b30 ?_
          refine wc_skip ?_
          refine bn ?_
          refine qn ?_
          refine wc_region ?_
          refine wl_add ((ho27 7 rfl).trans z14) rfl ?_
          refine wl_move (.int .i64 (IntKind.i64.wrap (x4 + 1))) rfl ?_
          refine wl_nil ?_
          refine qn ?_
          exact ⟨_, _, _, (IntKind.i64.wrap (x4 + 1)), rfl, (by omega), (by omega), fr8, e9, ((ho27 5 rfl).trans z12), ((ho27 6 rfl).trans z13), rfl, h⟩
      · replace h := (if_neg c17).symm.trans h
        cases h
    · replace h := (if_neg c15).symm.trans h
      have b31 : (decide (x4 < (a0.length : Int))) = false := decide_eq_false c15
      refine wc_else rfl b31 ?_
      refine wc_exit ?_
      refine qe ?_
      refine qe ?_
      refine be ?_
      refine qn ?_
      refine wc_seq ?_
      refine wc_region ?_
      refine wl_assign (.bool true) rfl ?_
      refine wl_nil ?_
      refine qn ?_
      refine wc_ret ?_
      have h := Option.some.inj h
      subst h
      refine end1 rfl (.tmp rfl .nil) ?_
      exact ⟨_, rfl, fr8⟩
/-! ### consignor/octet.Wide: function 22 -/
mutual
def octet_Wide.l1 : Nat → Int → Int → Int → (List Int) → Option ((List UInt8) × Int)
  | 0, _, _, _, _ => none
  | k + 1, a0, a1, x29, x30 => if x29 < ((Int.toNat a1) : Int) then (if ¬ (IntKind.i64.wrap (8 * x29)) < 0 then (if 0 ≤ x29 ∧ x29 < ((Int.toNat a1) : Int) then (octet_Wide.l1 k a0 a1 (IntKind.i64.wrap (x29 + 1)) (x30.set (Int.toNat x29) (IntKind.u8.wrap (ishr .u64 a0 (IntKind.i64.wrap (8 * x29)))))) else none) else none) else (some ((ofInts x30), 0))
def octet_Wide.j0 : Nat → Int → Int → Bool → Option ((List UInt8) × Int)
  | 0, _, _, _ => none
  | k + 1, a0, a1, x5 => if x5 = true then (some ([], 2)) else (if 0 ≤ a1 ∧ (1 : Int) * a1 ≤ 281474976710656 ∧ a1 ≤ 9223372036854775807 then (octet_Wide.l1 k a0 a1 0 (List.replicate (Int.toNat a1) 0)) else none)
end
def octet_Wide.f (k : Nat) (a0 : Int) (a1 : Int) : Option ((List UInt8) × Int) := if ((decide (a1 < 0)) || (decide (8 < a1))) = true then (some ([], 1)) else (if a1 < 8 then (if ¬ (IntKind.i64.wrap (8 * a1)) < 0 then (octet_Wide.j0 k a0 a1 ((ishr .u64 a0 (IntKind.i64.wrap (8 * a1))) != 0)) else none) else (octet_Wide.j0 k a0 a1 false))
set_option maxHeartbeats 1000000 in
theorem octet_Wide.ok (k : Nat) {w0 : World} {hw0 : Hw} (wf : Hwf w0 hw0) (a0 : Int) (a1 : Int) (r : ((List UInt8) × Int)) (h : octet_Wide.f k a0 a1 = some r) :
    Calls Tryd.prog 22 #[.int .u64 a0, .int .i64 a1] w0 fun e w' => ∃ (hw' : Hw), e = .returned (.tuple #[.string (bs r.1), .int .i64 r.2]) ∧ Stp none w0 hw0 w' hw' := by
  have fr0 := Stp.refl none (w := w0) (hw := hw0) wf
  unfold octet_Wide.f at h
  refine enter (n := 43) Tryd.func22 rfl rfl (Nat.le_of_ble_eq_true rfl) ?_
  refine wc_seq ?_
  refine wc_region ?_
  refine wl_assign (.string (bs [])) rfl ?_
  refine wl_assign (.int .i64 0) rfl ?_
  refine wl_nil ?_
  refine qn ?_
  refine wc_seq ?_
  refine wc_block ?_
  refine wc_seq ?_
  refine wc_region ?_
  refine wl_move (.int .i64 a1) rfl ?_
  refine wl_lss rfl rfl ?_
  refine wl_move (.bool (decide (a1 < 0))) rfl ?_
  refine wl_join 3 [12, 13, 14] 14 (.bool ((decide (a1 < 0)) || (decide (8 < a1)))) ?_ ?_
  · rcases Bool.eq_false_or_eq_true (decide (a1 < 0)) with hcc | hcc
    · skip
      refine wl_off (yl rfl rfl rfl) hcc ?_
      refine wl_off (yl rfl rfl rfl) hcc ?_
      refine wl_pick_t (decide (a1 < 0)) (.bool true) rfl hcc rfl ?_
      refine wl_nil ?_
      exact qn ⟨rfl, _, rfl, (by repeat (first | exact Same.refl _ _ | refine Same.upd ?_ rfl)), (by rw [hcc]; rfl)⟩
    · skip
      refine wl_on (yl rfl rfl rfl) hcc ?_
      refine wl_move (.int .i64 a1) rfl ?_
      refine wl_on (yl rfl rfl rfl) hcc ?_
      refine wl_gtr rfl rfl ?_
      refine wl_pick_f (decide (a1 < 0)) (.bool (decide (8 < a1))) rfl hcc rfl ?_
      refine wl_nil ?_
      exact qn ⟨rfl, _, rfl, (by repeat (first | exact Same.refl _ _ | refine Same.upd ?_ rfl)), (by rw [hcc]; rfl)⟩
  intro _ ho1 hv2
  refine wl_assign (.bool ((decide (a1 < 0)) || (decide (8 < a1)))) hv2 ?_
  refine wl_nil ?_
  refine qn ?_
  by_cases c3 : ((decide (a1 < 0)) || (decide (8 < a1))) = true
  · replace h := (if_pos c3).symm.trans h
    refine wc_then rfl c3 ?_
    refine wc_seq ?_
    refine wc_region ?_
    refine wl_assign (.string (bs [])) rfl ?_
    refine wl_assign (.int .i64 1) rfl ?_
    refine wl_nil ?_
    refine qn ?_
    refine wc_ret ?_
    refine bret ?_
    refine qr ?_
    have h := Option.some.inj h
    subst h
    refine end2 rfl (.tmp rfl (.tmp rfl .nil)) ?_
    exact ⟨_, rfl, fr0⟩
  · replace h := (if_neg c3).symm.trans h
    have b4 : ((decide (a1 < 0)) || (decide (8 < a1))) = false := Bool.eq_false_iff.2 c3
    refine wc_else rfl b4 ?_
    refine wc_cut (fun a w => ∃ (σ : Nat → Value) (hw : Hw) (kq : Nat) (x5 : Bool), a = mkA 43 σ ∧ kq ≤ k ∧ kq ≤ k ∧ Stp none w0 hw0 w hw ∧ Ext w0 hw0 w hw ∧ σ 0 = .int .u64 a0 ∧ σ 1 = .int .i64 a1 ∧ σ 15 = .bool x5 ∧ octet_Wide.j0 kq a0 a1 x5 = some r) ?_ ?_
    · skip
      refine wc_region ?_
      refine wl_move (.int .i64 a1) ((ho1 1 rfl).trans rfl) ?_
      refine wl_lss rfl rfl ?_
      refine wl_move (.bool (decide (a1 < 8))) rfl ?_
      by_cases c6 : a1 < 8
      · replace h := (if_pos c6).symm.trans h
        have b7 : (decide (a1 < 8)) = true := decide_eq_true c6
        refine wl_on (yl rfl rfl rfl) b7 ?_
        refine wl_move (.int .u64 a0) ((ho1 0 rfl).trans rfl) ?_
        refine wl_on (yl rfl rfl rfl) b7 ?_
        refine wl_move (.int .i64 a1) ((ho1 1 rfl).trans rfl) ?_
        refine wl_on (yl rfl rfl rfl) b7 ?_
        refine wl_mul rfl rfl ?_
        refine wl_on (yl rfl rfl rfl) b7 ?_
        by_cases c8 : ¬ (IntKind.i64.wrap (8 * a1)) < 0
        · replace h := (if_pos c8).symm.trans h
          refine wl_shr rfl rfl c8 ?_
          refine wl_on (yl rfl rfl rfl) b7 ?_
          refine wl_neq rfl rfl ?_
          refine wl_pick_t (decide (a1 < 8)) (.bool ((ishr .u64 a0 (IntKind.i64.wrap (8 * a1))) != 0)) rfl b7 rfl ?_
          refine wl_assign (.bool ((ishr .u64 a0 (IntKind.i64.wrap (8 * a1))) != 0)) rfl ?_
          refine wl_nil ?_
          refine qn ?_
          exact ⟨_, _, _, ((ishr .u64 a0 (IntKind.i64.wrap (8 * a1))) != 0), rfl, (by omega), (by omega), fr0, (Ext.refl _ _), ((ho1 0 rfl).trans rfl), ((ho1 1 rfl).trans rfl), rfl, h⟩
        · replace h := (if_neg c8).symm.trans h
          cases h
      · replace h := (if_neg c6).symm.trans h
        have b9 : (decide (a1 < 8)) = false := decide_eq_false c6
        refine wl_off (yl rfl rfl rfl) b9 ?_
        refine wl_off (yl rfl rfl rfl) b9 ?_
        refine wl_off (yl rfl rfl rfl) b9 ?_
        refine wl_off (yl rfl rfl rfl) b9 ?_
        refine wl_off (yl rfl rfl rfl) b9 ?_
        refine wl_pick_f (decide (a1 < 8)) (.bool false) rfl b9 rfl ?_
        refine wl_assign (.bool false) rfl ?_
        refine wl_nil ?_
        refine qn ?_
        exact ⟨_, _, _, false, rfl, (by omega), (by omega), fr0, (Ext.refl _ _), ((ho1 0 rfl).trans rfl), ((ho1 1 rfl).trans rfl), rfl, h⟩
    · rintro _ w10 ⟨_, hw11, k12, x5, rfl, hk15, hk16, fr13, e14, z17, z18, z19, h⟩
      rcases k12 with _ | k12
      · rw [octet_Wide.j0] at h; cases h
      rw [octet_Wide.j0] at h
      by_cases c20 : x5 = true
      · replace h := (if_pos c20).symm.trans h
        refine wc_then z19 c20 ?_
        refine wc_seq ?_
        refine wc_region ?_
        refine wl_assign (.string (bs [])) rfl ?_
        refine wl_assign (.int .i64 2) rfl ?_
        refine wl_nil ?_
        refine qn ?_
        refine wc_ret ?_
        refine bret ?_
        refine qr ?_
        have h := Option.some.inj h
        subst h
        refine end2 rfl (.tmp rfl (.tmp rfl .nil)) ?_
        exact ⟨_, rfl, fr13⟩
      · replace h := (if_neg c20).symm.trans h
        have b21 : x5 = false := Bool.eq_false_iff.2 c20
        refine wc_else z19 b21 ?_
        refine wc_skip ?_
        refine bn ?_
        refine qn ?_
        refine wc_seq ?_
        refine wc_region ?_
        refine wl_move (.int .i64 a1) z18 ?_
        by_cases c22 : 0 ≤ a1 ∧ (1 : Int) * a1 ≤ 281474976710656 ∧ a1 ≤ 9223372036854775807
        · replace h := (if_pos c22).symm.trans h
          refine wl_make (enc := Value.int .u8) (h1 := fun _ => rfl) 0 Tryd.underlying53 ty5 fr13.wf fr13.g.size rfl c22.1 c22.2.1 c22.2.2 rfl ?_
          intro b23 w24 s25 B26 g27
          have fr28 := fr13.then0 s25
          refine wl_assign (.slice (some ⟨b23, 0, none⟩) (Int.toNat a1) (Int.toNat a1)) rfl ?_
          refine wl_nil ?_
          refine qn ?_
          refine wc_seq ?_
          refine wc_seq ?_
          refine wc_region ?_
          refine wl_move (.slice (some ⟨b23, 0, none⟩) (Int.toNat a1) (Int.toNat a1)) rfl ?_
          refine wl_len Tryd.underlying53 (show _ = Value.slice _ (Int.toNat a1) _ from rfl) ?_
          refine wl_move (.int .i64 0) rfl ?_
          refine wl_nil ?_
          refine qn ?_
          refine wc_block ?_
          refine wc_loop (fun m a w => ∃ (σ : Nat → Value) (hw : Hw) (kq : Nat) (x29 : Int) (x30 : (List Int)), a = mkA 43 σ ∧ kq ≤ m ∧ kq ≤ k12 ∧ Stp none w0 hw0 w hw ∧ Ext w24 hw11 w hw ∧ σ 0 = .int .u64 a0 ∧ σ 6 = .slice (some ⟨b23, 0, none⟩) (Int.toNat a1) (Int.toNat a1) ∧ σ 28 = .int .i64 ((Int.toNat a1) : Int) ∧ σ 29 = .int .i64 x29 ∧ MutN (Kint .u8) 5 w0.heap.size w hw b23 (Int.toNat a1) (Int.toNat a1) x30 ∧ octet_Wide.l1 kq a0 a1 x29 x30 = some r) k12 ?_ ?_ ?_
          · skip
            exact ⟨_, _, _, 0, (List.replicate (Int.toNat a1) 0), rfl, (Nat.le_refl _), (Nat.le_refl _), fr28, (Ext.refl _ _), z17, rfl, rfl, rfl, B26, h⟩
          · rintro _ _ ⟨_, hw32, k33, x29, x30, rfl, hk36, hk37, fr34, e35, z38, z39, z40, z41, B42, h⟩; obtain rfl := Nat.le_zero.1 hk36; rw [octet_Wide.l1] at h; cases h
          · rintro m1 _ w31 ⟨_, hw32, k33, x29, x30, rfl, hk36, hk37, fr34, e35, z38, z39, z40, z41, B42, h⟩
            rcases k33 with _ | k33
            · rw [octet_Wide.l1] at h; cases h
            rw [octet_Wide.l1] at h
            refine wc_seq ?_
            refine wc_region ?_
            refine wl_lss z41 z40 ?_
            refine wl_nil ?_
            refine qn ?_
            refine wc_seq ?_
            by_cases c43 : x29 < ((Int.toNat a1) : Int)
            · replace h := (if_pos c43).symm.trans h
              have b44 : (decide (x29 < ((Int.toNat a1) : Int))) = true := decide_eq_true c43
              refine wc_then rfl b44 ?_
              refine wc_skip ?_
              refine qn ?_
              refine wc_seq ?_
              refine wc_block ?_
              refine wc_seq ?_
              refine wc_region ?_
              refine wl_move (.int .i64 x29) z41 ?_
              refine wl_assign (.int .i64 x29) rfl ?_
              refine wl_nil ?_
              refine qn ?_
              refine wc_region ?_
              refine wl_move (.slice (some ⟨b23, 0, none⟩) (Int.toNat a1) (Int.toNat a1)) z39 ?_
              refine wl_move (.int .i64 x29) rfl ?_
              refine wl_move (.int .u64 a0) z38 ?_
              refine wl_move (.int .i64 x29) rfl ?_
              refine wl_mul rfl rfl ?_
              by_cases c45 : ¬ (IntKind.i64.wrap (8 * x29)) < 0
              · replace h := (if_pos c45).symm.trans h
                refine wl_shr rfl rfl c45 ?_
                refine wl_conv_int Tryd.underlying57 Tryd.underlying5 rfl ?_
                by_cases c46 : 0 ≤ x29 ∧ x29 < ((Int.toNat a1) : Int)
                · replace h := (if_pos c46).symm.trans h
                  refine wl_atm Tryd.underlying53 ty5 rfl rfl c46.1 c46.2 ?_
                  refine wl_storem (enc := Value.int .u8) (h1 := fun _ => rfl) (len := (Int.toNat a1)) (IntKind.u8.wrap (ishr .u64 a0 (IntKind.i64.wrap (8 * x29)))) B42 fr34.wf ty5 rfl rfl rfl (by have := c46; omega) ?_
                  intro w47 s48 B49
                  have fr50 := fr34.then s48 (fun _ e => (Option.some.inj e ▸ B42.new))
                  refine wl_nil ?_
                  refine bn ?_
                  refine qn ?_
                  refine wc_region ?_
                  refine wl_add z41 rfl ?_
                  refine wl_move (.int .i64 (IntKind.i64.wrap (x29 + 1))) rfl ?_
                  refine wl_nil ?_
                  refine qn ?_
                  exact ⟨_, _, _, (IntKind.i64.wrap (x29 + 1)), (x30.set (Int.toNat x29) (IntKind.u8.wrap (ishr .u64 a0 (IntKind.i64.wrap (8 * x29))))), rfl, (by omega), (by omega), fr50, (Ext.trans e35 s48.ext), z38, z39, z40, rfl, B49, h⟩
                · replace h := (if_neg c46).symm.trans h
                  cases h
              · replace h := (if_neg c45).symm.trans h
                cases h
            · replace h := (if_neg c43).symm.trans h
              have b51 : (decide (x29 < ((Int.toNat a1) : Int))) = false := decide_eq_false c43
              refine wc_else rfl b51 ?_
              refine wc_exit ?_
              refine qe ?_
              refine qe ?_
              refine be ?_
              refine qn ?_
              refine wc_seq ?_
              refine wc_region ?_
              refine wl_move (.slice (some ⟨b23, 0, none⟩) (Int.toNat a1) (Int.toNat a1)) z39 ?_
              refine wl_conv_bytesm Tryd.underlying53 Tryd.underlying5 Tryd.underlying9 B42 rfl ?_
              refine wl_assign (.string (bs (ofInts x30))) rfl ?_
              refine wl_assign (.int .i64 0) rfl ?_
              refine wl_nil ?_
              refine qn ?_
              refine wc_ret ?_
              have h := Option.some.inj h
              subst h
              refine end2 rfl (.tmp rfl (.tmp rfl .nil)) ?_
              exact ⟨_, rfl, fr34⟩
        · replace h := (if_neg c22).symm.trans h
          cases h
/-! ### consignor/octet.Bind: function 15 -/
def octet_Bind.l0 : Nat → (List (List UInt8)) → Int → List UInt8 → Option ((List UInt8) × Int)
  | 0, _, _, _ => none
  | k + 1, a0, x13, x14 => if x13 < (a0.length : Int) then (if 0 ≤ x13 then ((a0[Int.toNat x13]?).bind fun t30 => (if 4096 < (t30.length : Int) then (some ([], 2)) else ((octet_Wide.f k (IntKind.u64.wrap (t30.length : Int)) 2).bind fun t42 => (if x14.length + t42.1.length ≤ 140737488355328 then (if (x14 ++ t42.1).length + t30.length ≤ 140737488355328 then (octet_Bind.l0 k a0 (IntKind.i64.wrap (x13 + 1)) ((x14 ++ t42.1) ++ t30)) else none) else none)))) else none) else (some (x14, 0))
def octet_Bind.f (k : Nat) (a0 : (List (List UInt8))) : Option ((List UInt8) × Int) := if 64 < (a0.length : Int) then (some ([], 2)) else (octet_Bind.l0 k a0 0 [])
set_option maxHeartbeats 1000000 in
theorem octet_Bind.ok (k : Nat) {w0 : World} {hw0 : Hw} (wf : Hwf w0 hw0) (a0 : (List (List UInt8))) (v0_ : Value) (q0 : Row Kstr w0 hw0 v0_ a0) (r : ((List UInt8) × Int)) (h : octet_Bind.f k a0 = some r) :
    Calls Tryd.prog 15 #[v0_] w0 fun e w' => ∃ (hw' : Hw), e = .returned (.tuple #[.string (bs r.1), .int .i64 r.2]) ∧ Stp none w0 hw0 w' hw' := by
  have fr0 := Stp.refl none (w := w0) (hw := hw0) wf
  unfold octet_Bind.f at h
  refine enter (n := 34) Tryd.func15 rfl rfl (Nat.le_of_ble_eq_true rfl) ?_
  refine wc_seq ?_
  refine wc_region ?_
  refine wl_assign (.string (bs [])) rfl ?_
  refine wl_assign (.int .i64 0) rfl ?_
  refine wl_nil ?_
  refine qn ?_
  refine wc_seq ?_
  refine wc_seq ?_
  refine wc_region ?_
  refine wl_move (v0_) rfl ?_
  obtain ⟨A1, c2, hv3⟩ := (q0).slice
  refine wl_len Tryd.underlying44 (show _ = Value.slice _ a0.length _ from (Eq.trans rfl hv3)) ?_
  refine wl_gtr rfl rfl ?_
  refine wl_nil ?_
  refine qn ?_
  by_cases c4 : 64 < (a0.length : Int)
  · replace h := (if_pos c4).symm.trans h
    have b5 : (decide (64 < (a0.length : Int))) = true := decide_eq_true c4
    refine wc_then rfl b5 ?_
    refine wc_seq ?_
    refine wc_region ?_
    refine wl_assign (.string (bs [])) rfl ?_
    refine wl_assign (.int .i64 2) rfl ?_
    refine wl_nil ?_
    refine qn ?_
    refine wc_ret ?_
    refine qr ?_
    have h := Option.some.inj h
    subst h
    refine end2 rfl (.tmp rfl (.tmp rfl .nil)) ?_
    exact ⟨_, rfl, fr0⟩
  · replace h := (if_neg c4).symm.trans h
    have b6 : (decide (64 < (a0.length : Int))) = false := decide_eq_false c4
    refine wc_else rfl b6 ?_
    refine wc_skip ?_
    refine qn ?_
    refine wc_seq ?_
    refine wc_region ?_
    refine wl_bld (e := 5) fr0.wf fr0.g.size ty55 ?_
    intro b7 w8 s9 B10 g11
    have fr12 := fr0.then0 s9
    refine wl_nil ?_
    refine qn ?_
    refine wc_seq ?_
    refine wc_seq ?_
    refine wc_region ?_
    refine wl_move (v0_) rfl ?_
    refine wl_len Tryd.underlying44 (show _ = Value.slice _ a0.length _ from (Eq.trans rfl hv3)) ?_
    refine wl_move (.int .i64 0) rfl ?_
    refine wl_nil ?_
    refine qn ?_
    refine wc_block ?_
    refine wc_loop (fun m a w => ∃ (σ : Nat → Value) (hw : Hw) (kq : Nat) (x13 : Int) (x14 : List UInt8), a = mkA 34 σ ∧ kq ≤ m ∧ kq ≤ k ∧ Stp none w0 hw0 w hw ∧ Ext w8 hw0 w hw ∧ σ 4 = .pointer (some ⟨b7, 0, none⟩) ∧ σ 12 = v0_ ∧ σ 13 = .int .i64 (a0.length : Int) ∧ σ 14 = .int .i64 x13 ∧ Bld 55 5 w0.heap.size w hw b7 x14 ∧ octet_Bind.l0 kq a0 x13 x14 = some r) k ?_ ?_ ?_
    · skip
      exact ⟨_, _, _, 0, [], rfl, (Nat.le_refl _), (Nat.le_refl _), fr12, (Ext.refl _ _), rfl, rfl, rfl, rfl, B10, h⟩
    · rintro _ _ ⟨_, hw16, k17, x13, x14, rfl, hk20, hk21, fr18, e19, z22, z23, z24, z25, B26, h⟩; obtain rfl := Nat.le_zero.1 hk20; rw [octet_Bind.l0] at h; cases h
    · rintro m0 _ w15 ⟨_, hw16, k17, x13, x14, rfl, hk20, hk21, fr18, e19, z22, z23, z24, z25, B26, h⟩
      rcases k17 with _ | k17
      · rw [octet_Bind.l0] at h; cases h
      rw [octet_Bind.l0] at h
      refine wc_seq ?_
      refine wc_region ?_
      refine wl_lss z25 z24 ?_
      refine wl_nil ?_
      refine qn ?_
      refine wc_seq ?_
      by_cases c27 : x13 < (a0.length : Int)
      · replace h := (if_pos c27).symm.trans h
        have b28 : (decide (x13 < (a0.length : Int))) = true := decide_eq_true c27
        refine wc_then rfl b28 ?_
        refine wc_skip ?_
        refine qn ?_
        refine wc_seq ?_
        refine wc_block ?_
        refine wc_seq ?_
        refine wc_region ?_
        by_cases c29 : 0 ≤ x13
        · replace h := (if_pos c29).symm.trans h
          obtain ⟨t30, h31, h⟩ := Option.bind_eq_some_iff.1 h
          have c32 := at_lt c29 h31
          have f38 := q0.ext (s9.ext.trans (e19))
          refine wl_at Tryd.underlying44 ty9 f38 z23 z25 c29 c32 t30 h31 ?_
          rintro B33 o34 cs35 rfl l37
          refine wl_load1 ty9 rfl (.string (bs t30)) (l37.2 0 _ rfl) ?_
          refine wl_assign (.string (bs t30)) rfl ?_
          refine wl_nil ?_
          refine qn ?_
          refine wc_seq ?_
          refine wc_seq ?_
          refine wc_region ?_
          refine wl_move (.string (bs t30)) rfl ?_
          refine wl_lens Tryd.underlying9 rfl ?_
          refine wl_gtr rfl rfl ?_
          refine wl_nil ?_
          refine qn ?_
          by_cases c39 : 4096 < (t30.length : Int)
          · replace h := (if_pos c39).symm.trans h
            have b40 : (decide (4096 < (t30.length : Int))) = true := decide_eq_true c39
            refine wc_then rfl b40 ?_
            refine wc_seq ?_
            refine wc_region ?_
            refine wl_assign (.string (bs [])) rfl ?_
            refine wl_assign (.int .i64 2) rfl ?_
            refine wl_nil ?_
            refine qn ?_
            refine wc_ret ?_
            refine qr ?_
            refine bret ?_
            refine qr ?_
            refine qr ?_
            refine bret ?_
            refine qr ?_
            have h := Option.some.inj h
            subst h
            refine end2 rfl (.tmp rfl (.tmp rfl .nil)) ?_
            exact ⟨_, rfl, fr18⟩
          · replace h := (if_neg c39).symm.trans h
            have b41 : (decide (4096 < (t30.length : Int))) = false := decide_eq_false c39
            refine wc_else rfl b41 ?_
            refine wc_skip ?_
            refine qn ?_
            refine wc_seq ?_
            refine wc_region ?_
            refine wl_move (.string (bs t30)) rfl ?_
            refine wl_lens Tryd.underlying9 rfl ?_
            refine wl_conv_int Tryd.underlying3 Tryd.underlying57 rfl ?_
            obtain ⟨t42, h43, h⟩ := Option.bind_eq_some_iff.1 h
            refine wl_call [.int .u64 (IntKind.u64.wrap (t30.length : Int)), .int .i64 2] bod22 (mc rfl (mc rfl (mn _))) (octet_Wide.ok k17 fr18.wf (IntKind.u64.wrap (t30.length : Int)) 2 _ h43) ?_
            rintro e44 w45 ⟨hw46, rfl, s47⟩
            refine ⟨_, rfl, ?_⟩
            have fr48 := fr18.then0 s47
            refine wl_move (.tuple #[.string (bs t42.1), .int .i64 t42.2]) rfl ?_
            refine wl_extract (vs := [.string (bs t42.1), .int .i64 t42.2]) (.string (bs t42.1)) rfl rfl ?_
            refine wl_extract (vs := [.string (bs t42.1), .int .i64 t42.2]) (.int .i64 t42.2) rfl rfl ?_
            refine wl_assign (.string (bs t42.1)) rfl ?_
            refine wl_assign (.int .i64 t42.2) rfl ?_
            refine wl_nil ?_
            refine qn ?_
            refine wc_seq ?_
            refine wc_region ?_
            refine wl_move (.string (bs t42.1)) rfl ?_
            by_cases c49 : x14.length + t42.1.length ≤ 140737488355328
            · replace h := (if_pos c49).symm.trans h
              have B50 := (B26.step0 s47)
              refine wl_call [.pointer (some ⟨b7, 0, none⟩), .string (bs t42.1)] bod23 (mc z22 (mc rfl (mn _))) (bld_WriteString fr48.wf B50 fr48.g.size c49) ?_
              rintro e54 w51 ⟨hw52, rfl, s53, B55⟩
              refine ⟨_, rfl, ?_⟩
              have fr56 := fr48.thenS s53 B50.bfnew
              refine wl_nil ?_
              refine qn ?_
              refine wc_region ?_
              refine wl_move (.string (bs t30)) rfl ?_
              by_cases c57 : (x14 ++ t42.1).length + t30.length ≤ 140737488355328
              · replace h := (if_pos c57).symm.trans h
                refine wl_call [.pointer (some ⟨b7, 0, none⟩), .string (bs t30)] bod23 (mc z22 (mc rfl (mn _))) (bld_WriteString fr56.wf B55 fr56.g.size c57) ?_
                rintro e61 w58 ⟨hw59, rfl, s60, B62⟩
                refine ⟨_, rfl, ?_⟩
                have fr63 := fr56.thenS s60 B55.bfnew
                refine wl_nil ?_
                refine bn ?_
                refine qn ?_
                refine wc_region ?_
                refine wl_add z25 rfl ?_
                refine wl_move (.int .i64 (IntKind.i64.wrap (x13 + 1))) rfl ?_
                refine wl_nil ?_
                refine qn ?_
                exact ⟨_, _, _, (IntKind.i64.wrap (x13 + 1)), ((x14 ++ t42.1) ++ t30), rfl, (by omega), (by omega), fr63, (Ext.trans e19 (Ext.trans s47.ext (Ext.trans s53.ext s60.ext))), z22, z23, z24, rfl, B62, h⟩
              · replace h := (if_neg c57).symm.trans h
                cases h
            · replace h := (if_neg c49).symm.trans h
              cases h
        · replace h := (if_neg c29).symm.trans h
          cases h
      · replace h := (if_neg c27).symm.trans h
        have b64 : (decide (x13 < (a0.length : Int))) = false := decide_eq_false c27
        refine wc_else rfl b64 ?_
        refine wc_exit ?_
        refine qe ?_
        refine qe ?_
        refine be ?_
        refine qn ?_
        refine wc_seq ?_
        refine wc_region ?_
        refine wl_call [.pointer (some ⟨b7, 0, none⟩)] bod24 (mc z22 (mn _)) (bld_String fr18.wf B26 fr18.g.size) ?_
        rintro e67 w65 ⟨rfl, s66⟩
        refine ⟨_, rfl, ?_⟩
        have fr68 := fr18.thenS s66 B26.bfnew
        refine wl_assign (.string (bs x14)) rfl ?_
        refine wl_assign (.int .i64 0) rfl ?_
        refine wl_nil ?_
        refine qn ?_
        refine wc_ret ?_
        have h := Option.some.inj h
        subst h
        refine end2 rfl (.tmp rfl (.tmp rfl .nil)) ?_
        exact ⟨_, rfl, fr68⟩
/-! ### consignor/courier.number: function 16 -/
def courier_number.f (k : Nat) (a0 : Int) : Option (List UInt8) := (octet_Wide.f k (IntKind.u64.wrap a0) 8).bind fun t1 => (some t1.1)
set_option maxHeartbeats 1000000 in
theorem courier_number.ok (k : Nat) {w0 : World} {hw0 : Hw} (wf : Hwf w0 hw0) (a0 : Int) (r : (List UInt8)) (h : courier_number.f k a0 = some r) :
    Calls Tryd.prog 16 #[.int .i64 a0] w0 fun e w' => ∃ (hw' : Hw), e = .returned (.string (bs r)) ∧ Stp none w0 hw0 w' hw' := by
  have fr0 := Stp.refl none (w := w0) (hw := hw0) wf
  unfold courier_number.f at h
  refine enter (n := 12) Tryd.func16 rfl rfl (Nat.le_of_ble_eq_true rfl) ?_
  refine wc_seq ?_
  refine wc_region ?_
  refine wl_assign (.string (bs [])) rfl ?_
  refine wl_nil ?_
  refine qn ?_
  refine wc_seq ?_
  refine wc_region ?_
  refine wl_move (.int .i64 a0) rfl ?_
  refine wl_conv_int Tryd.underlying3 Tryd.underlying57 rfl ?_
  obtain ⟨t1, h2, h⟩ := Option.bind_eq_some_iff.1 h
  refine wl_call [.int .u64 (IntKind.u64.wrap a0), .int .i64 8] bod22 (mc rfl (mc rfl (mn _))) (octet_Wide.ok k fr0.wf (IntKind.u64.wrap a0) 8 _ h2) ?_
  rintro e3 w4 ⟨hw5, rfl, s6⟩
  refine ⟨_, rfl, ?_⟩
  have fr7 := fr0.then0 s6
  refine wl_move (.tuple #[.string (bs t1.1), .int .i64 t1.2]) rfl ?_
  refine wl_extract (vs := [.string (bs t1.1), .int .i64 t1.2]) (.string (bs t1.1)) rfl rfl ?_
  refine wl_extract (vs := [.string (bs t1.1), .int .i64 t1.2]) (.int .i64 t1.2) rfl rfl ?_
  refine wl_assign (.string (bs t1.1)) rfl ?_
  refine wl_assign (.int .i64 t1.2) rfl ?_
  refine wl_nil ?_
  refine qn ?_
  refine wc_seq ?_
  refine wc_region ?_
  refine wl_move (.string (bs t1.1)) rfl ?_
  refine wl_assign (.string (bs t1.1)) rfl ?_
  refine wl_nil ?_
  refine qn ?_
  refine wc_ret ?_
  have h := Option.some.inj h
  subst h
  refine end1 rfl (.tmp rfl .nil) ?_
  exact ⟨_, rfl, fr7⟩
/-! ### consignor/courier.Text: function 5 -/
def courier_Text.f (k : Nat) (a0 : ApiAsk) : Option ((List UInt8) × Int) := (courier_within.f k ([a0.Id, a0.Kind, a0.Upload, a0.Offset])).bind fun t15 => (if ((((!t15) || (decide (128 < (a0.Repo.length : Int)))) || (decide (128 < (a0.Digest.length : Int)))) || (decide (1000 < (a0.Data.length : Int)))) = true then (some ([], 1)) else ((courier_number.f k a0.Id).bind fun t39 => ((courier_number.f k a0.Kind).bind fun t47 => ((courier_number.f k a0.Upload).bind fun t55 => ((courier_number.f k a0.Offset).bind fun t63 => ((octet_Bind.f k ([([97, 115, 107] : List UInt8), t39, t47, t55, t63, a0.Repo, a0.Digest, a0.Data])).bind fun t81 => (some (t81.1, t81.2))))))))
set_option maxRecDepth 100000 in
set_option maxHeartbeats 1000000 in
theorem courier_Text.ok (k : Nat) {w0 : World} {hw0 : Hw} (wf : Hwf w0 hw0) (a0 : ApiAsk) (r : ((List UInt8) × Int)) (h : courier_Text.f k a0 = some r) :
    Calls Tryd.prog 5 #[.agg #[.int .i64 a0.Id, .int .i64 a0.Kind, .string (bs a0.Repo), .string (bs a0.Digest), .int .i64 a0.Upload, .int .i64 a0.Offset, .string (bs a0.Data)]] w0 fun e w' => ∃ (hw' : Hw), e = .returned (.tuple #[.string (bs r.1), .int .i64 r.2]) ∧ Stp none w0 hw0 w' hw' := by
  have fr0 := Stp.refl none (w := w0) (hw := hw0) wf
  unfold courier_Text.f at h
  refine enter (n := 55) Tryd.func5 rfl rfl (Nat.le_of_ble_eq_true rfl) ?_
  refine wc_seq ?_
  refine wc_region ?_
  refine wl_box fr0.wf fr0.g.size [.int .i64 a0.Id, .int .i64 a0.Kind, .string (bs a0.Repo), .string (bs a0.Digest), .int .i64 a0.Upload, .int .i64 a0.Offset, .string (bs a0.Data)] (cells_of (v := (.agg #[.int .i64 a0.Id, .int .i64 a0.Kind, .string (bs a0.Repo), .string (bs a0.Digest), .int .i64 a0.Upload, .int .i64 a0.Offset, .string (bs a0.Data)])) rfl rfl) ?_
  intro b1 w2 s3 B4 g5
  have fr6 := fr0.then0 s3
  refine wl_assign (.string (bs [])) rfl ?_
  refine wl_assign (.int .i64 0) rfl ?_
  refine wl_nil ?_
  refine qn ?_
  refine wc_seq ?_
  refine wc_seq ?_
  refine wc_region ?_
  refine wl_field fld23_0 rfl ?_
  refine wl_loadb1 B4 ty3 rfl (.int .i64 a0.Id) rfl ?_
  refine wl_field fld23_1 rfl ?_
  refine wl_loadb1 B4 ty3 rfl (.int .i64 a0.Kind) rfl ?_
  refine wl_field fld23_4 rfl ?_
  refine wl_loadb1 B4 ty3 rfl (.int .i64 a0.Upload) rfl ?_
  refine wl_field fld23_5 rfl ?_
  refine wl_loadb1 B4 ty3 rfl (.int .i64 a0.Offset) rfl ?_
  have hb7 : ∀ w : World, (Instr.buildSlice 51 4 #[(0, .int .i64 a0.Id), (1, .int .i64 a0.Kind), (2, .int .i64 a0.Upload), (3, .int .i64 a0.Offset)]).run Tryd.prog w = .ok (.slice (some ⟨w.heap.size, 0, none⟩) 4 4) (w.alloc (.cells (List.toArray [.int .i64 a0.Id, .int .i64 a0.Kind, .int .i64 a0.Upload, .int .i64 a0.Offset]) 3)) := fun _ => by kernel_rfl
  refine wl_lit (KD := (Kint .i64)) fr6.wf [.int .i64 a0.Id, .int .i64 a0.Kind, .int .i64 a0.Upload, .int .i64 a0.Offset] [a0.Id, a0.Kind, a0.Upload, a0.Offset] (pc rfl (pc rfl (pc rfl (pc rfl (pn _ _))))) (hb7 _) rfl (by decide) ⟨[.int .i64 a0.Id], _, rfl, rfl, ⟨[.int .i64 a0.Kind], _, rfl, rfl, ⟨[.int .i64 a0.Upload], _, rfl, rfl, ⟨[.int .i64 a0.Offset], _, rfl, rfl, rfl⟩⟩⟩⟩ ?_
  intro v8 w9 hw10 O12 s11
  have n13 := own_new_lt O12 B4.lt
  replace O12 := O12.low fr6.g.size
  have fr14 := fr6.then0 s11
  obtain ⟨t15, h16, h⟩ := Option.bind_eq_some_iff.1 h
  have B21 := (B4.step0 s11)
  refine wl_call [v8] bod14 (mc rfl (mn _)) (courier_within.ok k fr14.wf ([a0.Id, a0.Kind, a0.Upload, a0.Offset]) v8 O12.row _ h16) ?_
  rintro e17 w18 ⟨hw19, rfl, s20⟩
  refine ⟨_, rfl, ?_⟩
  have fr22 := fr14.then0 s20
  refine wl_not rfl ?_
  refine wl_move (.bool (!t15)) rfl ?_
  refine wl_join 5 [16, 17, 18, 19, 20] 20 (.bool ((!t15) || (decide (128 < (a0.Repo.length : Int))))) ?_ ?_
  · rcases Bool.eq_false_or_eq_true (!t15) with hcc | hcc
    · skip
      refine wl_off (yl rfl rfl rfl) hcc ?_
      refine wl_off (yl rfl rfl rfl) hcc ?_
      refine wl_off (yl rfl rfl rfl) hcc ?_
      refine wl_off (yl rfl rfl rfl) hcc ?_
      refine wl_pick_t (!t15) (.bool true) rfl hcc rfl ?_
      refine wl_nil ?_
      exact qn ⟨rfl, _, rfl, (by repeat (first | exact Same.refl _ _ | refine Same.upd ?_ rfl)), (by rw [hcc]; rfl)⟩
    · skip
      refine wl_on (yl rfl rfl rfl) hcc ?_
      refine wl_field fld23_2 rfl ?_
      refine wl_on (yl rfl rfl rfl) hcc ?_
      have B23 := (B21.step0 s20)
      refine wl_loadb1 B23 ty9 rfl (.string (bs a0.Repo)) rfl ?_
      refine wl_on (yl rfl rfl rfl) hcc ?_
      refine wl_lens Tryd.underlying9 rfl ?_
      refine wl_on (yl rfl rfl rfl) hcc ?_
      refine wl_gtr rfl rfl ?_
      refine wl_pick_f (!t15) (.bool (decide (128 < (a0.Repo.length : Int)))) rfl hcc rfl ?_
      refine wl_nil ?_
      exact qn ⟨rfl, _, rfl, (by repeat (first | exact Same.refl _ _ | refine Same.upd ?_ rfl)), (by rw [hcc]; rfl)⟩
  intro _ ho24 hv25
  refine wl_move (.bool ((!t15) || (decide (128 < (a0.Repo.length : Int))))) hv25 ?_
  refine wl_join 5 [22, 23, 24, 25, 26] 26 (.bool (((!t15) || (decide (128 < (a0.Repo.length : Int)))) || (decide (128 < (a0.Digest.length : Int))))) ?_ ?_
  · rcases Bool.eq_false_or_eq_true ((!t15) || (decide (128 < (a0.Repo.length : Int)))) with hcc | hcc
    · skip
      refine wl_off (yl rfl rfl rfl) hcc ?_
      refine wl_off (yl rfl rfl rfl) hcc ?_
      refine wl_off (yl rfl rfl rfl) hcc ?_
      refine wl_off (yl rfl rfl rfl) hcc ?_
      refine wl_pick_t ((!t15) || (decide (128 < (a0.Repo.length : Int)))) (.bool true) rfl hcc rfl ?_
      refine wl_nil ?_
      exact qn ⟨rfl, _, rfl, (by repeat (first | exact Same.refl _ _ | refine Same.upd ?_ rfl)), (by rw [hcc]; rfl)⟩
    · skip
      refine wl_on (yl rfl rfl rfl) hcc ?_
      refine wl_field fld23_3 ((ho24 1 rfl).trans rfl) ?_
      refine wl_on (yl rfl rfl rfl) hcc ?_
      have B26 := (B21.step0 s20)
      refine wl_loadb1 B26 ty9 rfl (.string (bs a0.Digest)) rfl ?_
      refine wl_on (yl rfl rfl rfl) hcc ?_
      refine wl_lens Tryd.underlying9 rfl ?_
      refine wl_on (yl rfl rfl rfl) hcc ?_
      refine wl_gtr rfl rfl ?_
      refine wl_pick_f ((!t15) || (decide (128 < (a0.Repo.length : Int)))) (.bool (decide (128 < (a0.Digest.length : Int)))) rfl hcc rfl ?_
      refine wl_nil ?_
      exact qn ⟨rfl, _, rfl, (by repeat (first | exact Same.refl _ _ | refine Same.upd ?_ rfl)), (by rw [hcc]; rfl)⟩
  intro _ ho27 hv28
  refine wl_move (.bool (((!t15) || (decide (128 < (a0.Repo.length : Int)))) || (decide (128 < (a0.Digest.length : Int))))) hv28 ?_
  refine wl_join 5 [28, 29, 30, 31, 32] 32 (.bool ((((!t15) || (decide (128 < (a0.Repo.length : Int)))) || (decide (128 < (a0.Digest.length : Int)))) || (decide (1000 < (a0.Data.length : Int))))) ?_ ?_
  · rcases Bool.eq_false_or_eq_true (((!t15) || (decide (128 < (a0.Repo.length : Int)))) || (decide (128 < (a0.Digest.length : Int)))) with hcc | hcc
    · skip
      refine wl_off (yl rfl rfl rfl) hcc ?_
      refine wl_off (yl rfl rfl rfl) hcc ?_
      refine wl_off (yl rfl rfl rfl) hcc ?_
      refine wl_off (yl rfl rfl rfl) hcc ?_
      refine wl_pick_t (((!t15) || (decide (128 < (a0.Repo.length : Int)))) || (decide (128 < (a0.Digest.length : Int)))) (.bool true) rfl hcc rfl ?_
      refine wl_nil ?_
      exact qn ⟨rfl, _, rfl, (by repeat (first | exact Same.refl _ _ | refine Same.upd ?_ rfl)), (by rw [hcc]; rfl)⟩
    · skip
      refine wl_on (yl rfl rfl rfl) hcc ?_
      refine wl_field fld23_6 ((ho27 1 rfl).trans ((ho24 1 rfl).trans rfl)) ?_
      refine wl_on (yl rfl rfl rfl) hcc ?_
      have B29 := (B21.step0 s20)
      refine wl_loadb1 B29 ty9 rfl (.string (bs a0.Data)) rfl ?_
      refine wl_on (yl rfl rfl rfl) hcc ?_
      refine wl_lens Tryd.underlying9 rfl ?_
      refine wl_on (yl rfl rfl rfl) hcc ?_
      refine wl_gtr rfl rfl ?_
      refine wl_pick_f (((!t15) || (decide (128 < (a0.Repo.length : Int)))) || (decide (128 < (a0.Digest.length : Int)))) (.bool (decide (1000 < (a0.Data.length : Int)))) rfl hcc rfl ?_
      refine wl_nil ?_
      exact qn ⟨rfl, _, rfl, (by repeat (first | exact Same.refl _ _ | refine Same.upd ?_ rfl)), (by rw [hcc]; rfl)⟩
  intro _ ho30 hv31
  refine wl_nil ?_
  refine qn ?_
  by_cases c32 : ((((!t15) || (decide (128 < (a0.Repo.length : Int)))) || (decide (128 < (a0.Digest.length : Int)))) || (decide (1000 < (a0.Data.length : Int)))) = true
  · replace h := (if_pos c32).symm.trans h
    refine wc_then hv31 c32 ?_
    refine wc_seq ?_
    refine wc_region ?_
    refine wl_assign (.string (bs [])) rfl ?_
    refine wl_assign (.int .i64 1) rfl ?_
    refine wl_nil ?_
    refine qn ?_
    refine wc_ret ?_
    refine qr ?_
    have h := Option.some.inj h
    subst h
    refine end2 rfl (.tmp rfl (.tmp rfl .nil)) ?_
    exact ⟨_, rfl, fr22⟩
  · replace h := (if_neg c32).symm.trans h
    have b33 : ((((!t15) || (decide (128 < (a0.Repo.length : Int)))) || (decide (128 < (a0.Digest.length : Int)))) || (decide (1000 < (a0.Data.length : Int)))) = false := Bool.eq_false_iff.2 c32
    refine wc_else hv31 b33 ?_
    refine wc_skip ?_
    refine qn ?_
    refine wc_seq ?_
    have s34 := Stp.drew (w := w18) (hw := hw19) fr22.wf
    have fr35 := fr22.then0 s34
    have B36 := ((B21.step0 s20).step0 s34)
    have O37 := ((O12.step0 s20).step0 s34)
    obtain ⟨t39, h40, h⟩ := Option.bind_eq_some_iff.1 h
    obtain ⟨t47, h48, h⟩ := Option.bind_eq_some_iff.1 h
    obtain ⟨t55, h56, h⟩ := Option.bind_eq_some_iff.1 h
    obtain ⟨t63, h64, h⟩ := Option.bind_eq_some_iff.1 h
    obtain ⟨t81, h82, h⟩ := Option.bind_eq_some_iff.1 h
    refine wc_any (hw := hw19) mixed [[], [0], [1], [], [3], [4, 2], [], [6], [7, 5], [], [9], [10, 8], [], [12], [], [14], [], [16], [2, 5, 8, 11, 13, 15, 17], [18, 11], [19], [19], [20, 19, 0, 1, 2, 3, 4, 5, 6, 7, 8, 9, 10, 11, 12, 13, 14, 15, 16, 17, 18, 19, 20, 21], [21, 22, 0, 1, 2, 3, 4, 5, 6, 7, 8, 9, 10, 11, 12, 13, 14, 15, 16, 17, 18, 19, 20, 21, 22]] [33, 34, 35, 36, 37, 38, 39, 40, 41, 42, 43, 44, 45, 46, 47, 48, 49, 50, 51, 52, 53, 54, 2, 3] (by kernel_rfl) (PhiOf [fun v w hw => v = .pointer (some ⟨b1, 0, none⟩), fun v w hw => v = .int .i64 a0.Id, fun v w hw => v = .string (bs t39), fun v w hw => v = .pointer (some ⟨b1, 1, none⟩), fun v w hw => v = .int .i64 a0.Kind, fun v w hw => v = .string (bs t47), fun v w hw => v = .pointer (some ⟨b1, 4, none⟩), fun v w hw => v = .int .i64 a0.Upload, fun v w hw => v = .string (bs t55), fun v w hw => v = .pointer (some ⟨b1, 5, none⟩), fun v w hw => v = .int .i64 a0.Offset, fun v w hw => v = .string (bs t63), fun v w hw => v = .pointer (some ⟨b1, 2, none⟩), fun v w hw => v = .string (bs a0.Repo), fun v w hw => v = .pointer (some ⟨b1, 3, none⟩), fun v w hw => v = .string (bs a0.Digest), fun v w hw => v = .pointer (some ⟨b1, 6, none⟩), fun v w hw => v = .string (bs a0.Data), fun v w hw => Row Kstr w hw v ([([97, 115, 107] : List UInt8), t39, t47, t55, t63, a0.Repo, a0.Digest, a0.Data]), fun v w hw => v = .tuple #[.string (bs t81.1), .int .i64 t81.2], fun v w hw => v = .string (bs t81.1), fun v w hw => v = .int .i64 t81.2, fun v w hw => v = .string (bs t81.1), fun v w hw => v = .int .i64 t81.2]) (fun D σ w hw => Stp none w0 hw0 w hw ∧ Ext (w18).drew hw19 w hw ∧ Box w0.heap.size w hw b1 23 [.int .i64 a0.Id, .int .i64 a0.Kind, .string (bs a0.Repo), .string (bs a0.Digest), .int .i64 a0.Upload, .int .i64 a0.Offset, .string (bs a0.Data)] ∧ Own (Kint .i64) 3 w0.heap.size w hw v8 ([a0.Id, a0.Kind, a0.Upload, a0.Offset])) (stab_of (sbc (fun _ _ _ _ _ _ h => h) (sbc (fun _ _ _ _ _ _ h => h) (sbc (fun _ _ _ _ _ _ h => h) (sbc (fun _ _ _ _ _ _ h => h) (sbc (fun _ _ _ _ _ _ h => h) (sbc (fun _ _ _ _ _ _ h => h) (sbc (fun _ _ _ _ _ _ h => h) (sbc (fun _ _ _ _ _ _ h => h) (sbc (fun _ _ _ _ _ _ h => h) (sbc (fun _ _ _ _ _ _ h => h) (sbc (fun _ _ _ _ _ _ h => h) (sbc (fun _ _ _ _ _ _ h => h) (sbc (fun _ _ _ _ _ _ h => h) (sbc (fun _ _ _ _ _ _ h => h) (sbc (fun _ _ _ _ _ _ h => h) (sbc (fun _ _ _ _ _ _ h => h) (sbc (fun _ _ _ _ _ _ h => h) (sbc (fun _ _ _ _ _ _ h => h) (sbc (fun _ _ _ _ _ e h => Row.ext e h) (sbc (fun _ _ _ _ _ _ h => h) (sbc (fun _ _ _ _ _ _ h => h) (sbc (fun _ _ _ _ _ _ h => h) (sbc (fun _ _ _ _ _ _ h => h) (sbc (fun _ _ _ _ _ _ h => h) sbn))))))))))))))))))))))))) ?_ (stc ?_ (stc ?_ (stc ?_ (stc ?_ (stc ?_ (stc ?_ (stc ?_ (stc ?_ (stc ?_ (stc ?_ (stc ?_ (stc ?_ (stc ?_ (stc ?_ (stc ?_ (stc ?_ (stc ?_ (stc ?_ (stc ?_ (stc ?_ (stc ?_ (stc ?_ (stc ?_ (stc ?_ stn)))))))))))))))))))))))) ?_
    · exact ⟨fr35, Ext.refl _ _, B36, O37⟩
    · intro D89 σ90 w91 hw92 q93 q94 q95 q96 q97 q98
      obtain ⟨fr99, e100, C101, C102⟩ := q93
      refine wl_field fld23_0 ((q96 1 rfl).trans ((ho30 1 rfl).trans ((ho27 1 rfl).trans ((ho24 1 rfl).trans rfl)))) ?_
      refine wl_nil ?_
      exact qn ⟨_, _, rfl, (Ext.refl _ _), ⟨fr99, e100.trans (Ext.refl _ _), C101, C102⟩, (aft_some rfl)⟩
    · intro D103 σ104 w105 hw106 q107 q108 q109 q110 q111 q112
      obtain ⟨fr113, e114, C115, C116⟩ := q107
      obtain ⟨⟨_, m117⟩, _⟩ := q109
      have z118 : (σ104 33) = .pointer (some ⟨b1, 0, none⟩) := m117
      refine wl_loadb1 C115 ty3 z118 (.int .i64 a0.Id) rfl ?_
      refine wl_nil ?_
      exact qn ⟨_, _, rfl, (Ext.refl _ _), ⟨fr113, e114.trans (Ext.refl _ _), C115, C116⟩, (aft_some rfl)⟩
    · intro D119 σ120 w121 hw122 q123 q124 q125 q126 q127 q128
      obtain ⟨fr129, e130, C131, C132⟩ := q123
      obtain ⟨⟨_, m133⟩, _⟩ := q125
      have z134 : (σ120 34) = .int .i64 a0.Id := m133
      refine wl_call [.int .i64 a0.Id] bod16 (mc z134 (mn _)) (courier_number.ok k fr129.wf a0.Id _ h40) ?_
      rintro e135 w136 ⟨hw137, rfl, s138⟩
      refine ⟨_, rfl, ?_⟩
      have fr139 := fr129.then0 s138
      refine wl_nil ?_
      have B140 := (C131.step0 s138)
      have O141 := (C132.step0 s138)
      exact qn ⟨_, _, rfl, s138.ext, ⟨fr139, e130.trans s138.ext, B140, O141⟩, (aft_some rfl)⟩
    · intro D142 σ143 w144 hw145 q146 q147 q148 q149 q150 q151
      obtain ⟨fr152, e153, C154, C155⟩ := q146
      refine wl_field fld23_1 ((q149 1 rfl).trans ((ho30 1 rfl).trans ((ho27 1 rfl).trans ((ho24 1 rfl).trans rfl)))) ?_
      refine wl_nil ?_
      exact qn ⟨_, _, rfl, (Ext.refl _ _), ⟨fr152, e153.trans (Ext.refl _ _), C154, C155⟩, (aft_some rfl)⟩
    · intro D156 σ157 w158 hw159 q160 q161 q162 q163 q164 q165
      obtain ⟨fr166, e167, C168, C169⟩ := q160
      obtain ⟨⟨_, m170⟩, _⟩ := q162
      have z171 : (σ157 36) = .pointer (some ⟨b1, 1, none⟩) := m170
      refine wl_loadb1 C168 ty3 z171 (.int .i64 a0.Kind) rfl ?_
      refine wl_nil ?_
      exact qn ⟨_, _, rfl, (Ext.refl _ _), ⟨fr166, e167.trans (Ext.refl _ _), C168, C169⟩, (aft_some rfl)⟩
    · intro D172 σ173 w174 hw175 q176 q177 q178 q179 q180 q181
      obtain ⟨fr182, e183, C184, C185⟩ := q176
      obtain ⟨⟨_, m186⟩, ⟨_, m187⟩, _⟩ := q178
      have z188 : (σ173 37) = .int .i64 a0.Kind := m186
      have z189 : (σ173 35) = .string (bs t39) := m187
      refine wl_call [.int .i64 a0.Kind] bod16 (mc z188 (mn _)) (courier_number.ok k fr182.wf a0.Kind _ h48) ?_
      rintro e190 w191 ⟨hw192, rfl, s193⟩
      refine ⟨_, rfl, ?_⟩
      have fr194 := fr182.then0 s193
      refine wl_nil ?_
      have B195 := (C184.step0 s193)
      have O196 := (C185.step0 s193)
      exact qn ⟨_, _, rfl, s193.ext, ⟨fr194, e183.trans s193.ext, B195, O196⟩, (aft_some rfl)⟩
    · intro D197 σ198 w199 hw200 q201 q202 q203 q204 q205 q206
      obtain ⟨fr207, e208, C209, C210⟩ := q201
      refine wl_field fld23_4 ((q204 1 rfl).trans ((ho30 1 rfl).trans ((ho27 1 rfl).trans ((ho24 1 rfl).trans rfl)))) ?_
      refine wl_nil ?_
      exact qn ⟨_, _, rfl, (Ext.refl _ _), ⟨fr207, e208.trans (Ext.refl _ _), C209, C210⟩, (aft_some rfl)⟩
    · intro D211 σ212 w213 hw214 q215 q216 q217 q218 q219 q220
      obtain ⟨fr221, e222, C223, C224⟩ := q215
      obtain ⟨⟨_, m225⟩, _⟩ := q217
      have z226 : (σ212 39) = .pointer (some ⟨b1, 4, none⟩) := m225
      refine wl_loadb1 C223 ty3 z226 (.int .i64 a0.Upload) rfl ?_
      refine wl_nil ?_
      exact qn ⟨_, _, rfl, (Ext.refl _ _), ⟨fr221, e222.trans (Ext.refl _ _), C223, C224⟩, (aft_some rfl)⟩
    · intro D227 σ228 w229 hw230 q231 q232 q233 q234 q235 q236
      obtain ⟨fr237, e238, C239, C240⟩ := q231
      obtain ⟨⟨_, m241⟩, ⟨_, m242⟩, _⟩ := q233
      have z243 : (σ228 40) = .int .i64 a0.Upload := m241
      have z244 : (σ228 38) = .string (bs t47) := m242
      refine wl_call [.int .i64 a0.Upload] bod16 (mc z243 (mn _)) (courier_number.ok k fr237.wf a0.Upload _ h56) ?_
      rintro e245 w246 ⟨hw247, rfl, s248⟩
      refine ⟨_, rfl, ?_⟩
      have fr249 := fr237.then0 s248
      refine wl_nil ?_
      have B250 := (C239.step0 s248)
      have O251 := (C240.step0 s248)
      exact qn ⟨_, _, rfl, s248.ext, ⟨fr249, e238.trans s248.ext, B250, O251⟩, (aft_some rfl)⟩
    · intro D252 σ253 w254 hw255 q256 q257 q258 q259 q260 q261
      obtain ⟨fr262, e263, C264, C265⟩ := q256
      refine wl_field fld23_5 ((q259 1 rfl).trans ((ho30 1 rfl).trans ((ho27 1 rfl).trans ((ho24 1 rfl).trans rfl)))) ?_
      refine wl_nil ?_
      exact qn ⟨_, _, rfl, (Ext.refl _ _), ⟨fr262, e263.trans (Ext.refl _ _), C264, C265⟩, (aft_some rfl)⟩
    · intro D266 σ267 w268 hw269 q270 q271 q272 q273 q274 q275
      obtain ⟨fr276, e277, C278, C279⟩ := q270
      obtain ⟨⟨_, m280⟩, _⟩ := q272
      have z281 : (σ267 42) = .pointer (some ⟨b1, 5, none⟩) := m280
      refine wl_loadb1 C278 ty3 z281 (.int .i64 a0.Offset) rfl ?_
      refine wl_nil ?_
      exact qn ⟨_, _, rfl, (Ext.refl _ _), ⟨fr276, e277.trans (Ext.refl _ _), C278, C279⟩, (aft_some rfl)⟩
    · intro D282 σ283 w284 hw285 q286 q287 q288 q289 q290 q291
      obtain ⟨fr292, e293, C294, C295⟩ := q286
      obtain ⟨⟨_, m296⟩, ⟨_, m297⟩, _⟩ := q288
      have z298 : (σ283 43) = .int .i64 a0.Offset := m296
      have z299 : (σ283 41) = .string (bs t55) := m297
      refine wl_call [.int .i64 a0.Offset] bod16 (mc z298 (mn _)) (courier_number.ok k fr292.wf a0.Offset _ h64) ?_
      rintro e300 w301 ⟨hw302, rfl, s303⟩
      refine ⟨_, rfl, ?_⟩
      have fr304 := fr292.then0 s303
      refine wl_nil ?_
      have B305 := (C294.step0 s303)
      have O306 := (C295.step0 s303)
      exact qn ⟨_, _, rfl, s303.ext, ⟨fr304, e293.trans s303.ext, B305, O306⟩, (aft_some rfl)⟩
    · intro D307 σ308 w309 hw310 q311 q312 q313 q314 q315 q316
      obtain ⟨fr317, e318, C319, C320⟩ := q311
      refine wl_field fld23_2 ((q314 1 rfl).trans ((ho30 1 rfl).trans ((ho27 1 rfl).trans ((ho24 1 rfl).trans rfl)))) ?_
      refine wl_nil ?_
      exact qn ⟨_, _, rfl, (Ext.refl _ _), ⟨fr317, e318.trans (Ext.refl _ _), C319, C320⟩, (aft_some rfl)⟩
    · intro D321 σ322 w323 hw324 q325 q326 q327 q328 q329 q330
      obtain ⟨fr331, e332, C333, C334⟩ := q325
      obtain ⟨⟨_, m335⟩, _⟩ := q327
      have z336 : (σ322 45) = .pointer (some ⟨b1, 2, none⟩) := m335
      refine wl_loadb1 C333 ty9 z336 (.string (bs a0.Repo)) rfl ?_
      refine wl_nil ?_
      exact qn ⟨_, _, rfl, (Ext.refl _ _), ⟨fr331, e332.trans (Ext.refl _ _), C333, C334⟩, (aft_some rfl)⟩
    · intro D337 σ338 w339 hw340 q341 q342 q343 q344 q345 q346
      obtain ⟨fr347, e348, C349, C350⟩ := q341
      refine wl_field fld23_3 ((q344 1 rfl).trans ((ho30 1 rfl).trans ((ho27 1 rfl).trans ((ho24 1 rfl).trans rfl)))) ?_
      refine wl_nil ?_
      exact qn ⟨_, _, rfl, (Ext.refl _ _), ⟨fr347, e348.trans (Ext.refl _ _), C349, C350⟩, (aft_some rfl)⟩
    · intro D351 σ352 w353 hw354 q355 q356 q357 q358 q359 q360
      obtain ⟨fr361, e362, C363, C364⟩ := q355
      obtain ⟨⟨_, m365⟩, _⟩ := q357
      have z366 : (σ352 47) = .pointer (some ⟨b1, 3, none⟩) := m365
      refine wl_loadb1 C363 ty9 z366 (.string (bs a0.Digest)) rfl ?_
      refine wl_nil ?_
      exact qn ⟨_, _, rfl, (Ext.refl _ _), ⟨fr361, e362.trans (Ext.refl _ _), C363, C364⟩, (aft_some rfl)⟩
    · intro D367 σ368 w369 hw370 q371 q372 q373 q374 q375 q376
      obtain ⟨fr377, e378, C379, C380⟩ := q371
      refine wl_field fld23_6 ((q374 1 rfl).trans ((ho30 1 rfl).trans ((ho27 1 rfl).trans ((ho24 1 rfl).trans rfl)))) ?_
      refine wl_nil ?_
      exact qn ⟨_, _, rfl, (Ext.refl _ _), ⟨fr377, e378.trans (Ext.refl _ _), C379, C380⟩, (aft_some rfl)⟩
    · intro D381 σ382 w383 hw384 q385 q386 q387 q388 q389 q390
      obtain ⟨fr391, e392, C393, C394⟩ := q385
      obtain ⟨⟨_, m395⟩, _⟩ := q387
      have z396 : (σ382 49) = .pointer (some ⟨b1, 6, none⟩) := m395
      refine wl_loadb1 C393 ty9 z396 (.string (bs a0.Data)) rfl ?_
      refine wl_nil ?_
      exact qn ⟨_, _, rfl, (Ext.refl _ _), ⟨fr391, e392.trans (Ext.refl _ _), C393, C394⟩, (aft_some rfl)⟩
    · intro D397 σ398 w399 hw400 q401 q402 q403 q404 q405 q406
      obtain ⟨fr407, e408, C409, C410⟩ := q401
      obtain ⟨⟨_, m411⟩, ⟨_, m412⟩, ⟨_, m413⟩, ⟨_, m414⟩, ⟨_, m415⟩, ⟨_, m416⟩, ⟨_, m417⟩, _⟩ := q403
      have z418 : (σ398 35) = .string (bs t39) := m411
      have z419 : (σ398 38) = .string (bs t47) := m412
      have z420 : (σ398 41) = .string (bs t55) := m413
      have z421 : (σ398 44) = .string (bs t63) := m414
      have z422 : (σ398 46) = .string (bs a0.Repo) := m415
      have z423 : (σ398 48) = .string (bs a0.Digest) := m416
      have z424 : (σ398 50) = .string (bs a0.Data) := m417
      have hb425 : ∀ w : World, (Instr.buildSlice 44 8 #[(0, .string (bs ([97, 115, 107] : List UInt8))), (1, .string (bs t39)), (2, .string (bs t47)), (3, .string (bs t55)), (4, .string (bs t63)), (5, .string (bs a0.Repo)), (6, .string (bs a0.Digest)), (7, .string (bs a0.Data))]).run Tryd.prog w = .ok (.slice (some ⟨w.heap.size, 0, none⟩) 8 8) (w.alloc (.cells (List.toArray [.string (bs ([97, 115, 107] : List UInt8)), .string (bs t39), .string (bs t47), .string (bs t55), .string (bs t63), .string (bs a0.Repo), .string (bs a0.Digest), .string (bs a0.Data)]) 9)) := fun _ => by kernel_rfl
      refine wl_lit (KD := Kstr) fr407.wf [.string (bs ([97, 115, 107] : List UInt8)), .string (bs t39), .string (bs t47), .string (bs t55), .string (bs t63), .string (bs a0.Repo), .string (bs a0.Digest), .string (bs a0.Data)] [([97, 115, 107] : List UInt8), t39, t47, t55, t63, a0.Repo, a0.Digest, a0.Data] (pc rfl (pc z418 (pc z419 (pc z420 (pc z421 (pc z422 (pc z423 (pc z424 (pn _ _))))))))) (hb425 _) rfl (by decide) ⟨[.string (bs ([97, 115, 107] : List UInt8))], _, rfl, rfl, ⟨[.string (bs t39)], _, rfl, rfl, ⟨[.string (bs t47)], _, rfl, rfl, ⟨[.string (bs t55)], _, rfl, rfl, ⟨[.string (bs t63)], _, rfl, rfl, ⟨[.string (bs a0.Repo)], _, rfl, rfl, ⟨[.string (bs a0.Digest)], _, rfl, rfl, ⟨[.string (bs a0.Data)], _, rfl, rfl, rfl⟩⟩⟩⟩⟩⟩⟩⟩ ?_
      intro v426 w427 hw428 O430 s429
      have n431 := own_new_lt O430 C409.lt
      have n432 := own_dis_new O430 C410
      replace O430 := O430.low fr407.g.size
      have fr433 := fr407.then0 s429
      refine wl_nil ?_
      have B434 := (C409.step0 s429)
      have O435 := (C410.step0 s429)
      exact qn ⟨_, _, rfl, s429.ext, ⟨fr433, e408.trans s429.ext, B434, O435⟩, (aft_some O430.row)⟩
    · intro D436 σ437 w438 hw439 q440 q441 q442 q443 q444 q445
      obtain ⟨fr446, e447, C448, C449⟩ := q440
      obtain ⟨⟨_, m450⟩, ⟨_, m451⟩, _⟩ := q442
      have f452 : Row Kstr w438 hw439 (σ437 51) ([([97, 115, 107] : List UInt8), t39, t47, t55, t63, a0.Repo, a0.Digest, a0.Data]) := m450
      have z453 : (σ437 44) = .string (bs t63) := m451
      refine wl_call [(σ437 51)] bod15 (mc rfl (mn _)) (octet_Bind.ok k fr446.wf ([([97, 115, 107] : List UInt8), t39, t47, t55, t63, a0.Repo, a0.Digest, a0.Data]) (σ437 51) f452 _ h82) ?_
      rintro e454 w455 ⟨hw456, rfl, s457⟩
      refine ⟨_, rfl, ?_⟩
      have fr458 := fr446.then0 s457
      refine wl_nil ?_
      have B459 := (C448.step0 s457)
      have O460 := (C449.step0 s457)
      exact qn ⟨_, _, rfl, s457.ext, ⟨fr458, e447.trans s457.ext, B459, O460⟩, (aft_some rfl)⟩
    · intro D461 σ462 w463 hw464 q465 q466 q467 q468 q469 q470
      obtain ⟨fr471, e472, C473, C474⟩ := q465
      obtain ⟨⟨_, m475⟩, _⟩ := q467
      have z476 : (σ462 52) = .tuple #[.string (bs t81.1), .int .i64 t81.2] := m475
      refine wl_extract (vs := [.string (bs t81.1), .int .i64 t81.2]) (.string (bs t81.1)) z476 rfl ?_
      refine wl_nil ?_
      exact qn ⟨_, _, rfl, (Ext.refl _ _), ⟨fr471, e472.trans (Ext.refl _ _), C473, C474⟩, (aft_some rfl)⟩
    · intro D477 σ478 w479 hw480 q481 q482 q483 q484 q485 q486
      obtain ⟨fr487, e488, C489, C490⟩ := q481
      obtain ⟨⟨_, m491⟩, _⟩ := q483
      have z492 : (σ478 52) = .tuple #[.string (bs t81.1), .int .i64 t81.2] := m491
      refine wl_extract (vs := [.string (bs t81.1), .int .i64 t81.2]) (.int .i64 t81.2) z492 rfl ?_
      refine wl_nil ?_
      exact qn ⟨_, _, rfl, (Ext.refl _ _), ⟨fr487, e488.trans (Ext.refl _ _), C489, C490⟩, (aft_some rfl)⟩
    · intro D493 σ494 w495 hw496 q497 q498 q499 q500 q501 q502
      obtain ⟨fr503, e504, C505, C506⟩ := q497
      obtain ⟨⟨_, m507⟩, ⟨_, m508⟩, ⟨_, m509⟩, ⟨_, m510⟩, ⟨_, m511⟩, ⟨_, m512⟩, ⟨_, m513⟩, ⟨_, m514⟩, ⟨_, m515⟩, ⟨_, m516⟩, ⟨_, m517⟩, ⟨_, m518⟩, ⟨_, m519⟩, ⟨_, m520⟩, ⟨_, m521⟩, ⟨_, m522⟩, ⟨_, m523⟩, ⟨_, m524⟩, ⟨_, m525⟩, ⟨_, m526⟩, ⟨_, m527⟩, ⟨_, m528⟩, ⟨_, m529⟩, ⟨_, m530⟩, _⟩ := q499
      have z531 : (σ494 53) = .string (bs t81.1) := m507
      have z532 : (σ494 52) = .tuple #[.string (bs t81.1), .int .i64 t81.2] := m508
      have z533 : (σ494 33) = .pointer (some ⟨b1, 0, none⟩) := m509
      have z534 : (σ494 34) = .int .i64 a0.Id := m510
      have z535 : (σ494 35) = .string (bs t39) := m511
      have z536 : (σ494 36) = .pointer (some ⟨b1, 1, none⟩) := m512
      have z537 : (σ494 37) = .int .i64 a0.Kind := m513
      have z538 : (σ494 38) = .string (bs t47) := m514
      have z539 : (σ494 39) = .pointer (some ⟨b1, 4, none⟩) := m515
      have z540 : (σ494 40) = .int .i64 a0.Upload := m516
      have z541 : (σ494 41) = .string (bs t55) := m517
      have z542 : (σ494 42) = .pointer (some ⟨b1, 5, none⟩) := m518
      have z543 : (σ494 43) = .int .i64 a0.Offset := m519
      have z544 : (σ494 44) = .string (bs t63) := m520
      have z545 : (σ494 45) = .pointer (some ⟨b1, 2, none⟩) := m521
      have z546 : (σ494 46) = .string (bs a0.Repo) := m522
      have z547 : (σ494 47) = .pointer (some ⟨b1, 3, none⟩) := m523
      have z548 : (σ494 48) = .string (bs a0.Digest) := m524
      have z549 : (σ494 49) = .pointer (some ⟨b1, 6, none⟩) := m525
      have z550 : (σ494 50) = .string (bs a0.Data) := m526
      have f551 : Row Kstr w495 hw496 (σ494 51) ([([97, 115, 107] : List UInt8), t39, t47, t55, t63, a0.Repo, a0.Digest, a0.Data]) := m527
      have z552 : (σ494 54) = .int .i64 t81.2 := m530
      refine wl_assign (.string (bs t81.1)) z531 ?_
      refine wl_nil ?_
      exact qn ⟨_, _, rfl, (Ext.refl _ _), ⟨fr503, e504.trans (Ext.refl _ _), C505, C506⟩, (aft_some rfl)⟩
    · intro D553 σ554 w555 hw556 q557 q558 q559 q560 q561 q562
      obtain ⟨fr563, e564, C565, C566⟩ := q557
      obtain ⟨⟨_, m567⟩, ⟨_, m568⟩, ⟨_, m569⟩, ⟨_, m570⟩, ⟨_, m571⟩, ⟨_, m572⟩, ⟨_, m573⟩, ⟨_, m574⟩, ⟨_, m575⟩, ⟨_, m576⟩, ⟨_, m577⟩, ⟨_, m578⟩, ⟨_, m579⟩, ⟨_, m580⟩, ⟨_, m581⟩, ⟨_, m582⟩, ⟨_, m583⟩, ⟨_, m584⟩, ⟨_, m585⟩, ⟨_, m586⟩, ⟨_, m587⟩, ⟨_, m588⟩, ⟨_, m589⟩, ⟨_, m590⟩, ⟨_, m591⟩, _⟩ := q559
      have z592 : (σ554 54) = .int .i64 t81.2 := m567
      have z593 : (σ554 2) = .string (bs t81.1) := m568
      have z594 : (σ554 33) = .pointer (some ⟨b1, 0, none⟩) := m569
      have z595 : (σ554 34) = .int .i64 a0.Id := m570
      have z596 : (σ554 35) = .string (bs t39) := m571
      have z597 : (σ554 36) = .pointer (some ⟨b1, 1, none⟩) := m572
      have z598 : (σ554 37) = .int .i64 a0.Kind := m573
      have z599 : (σ554 38) = .string (bs t47) := m574
      have z600 : (σ554 39) = .pointer (some ⟨b1, 4, none⟩) := m575
      have z601 : (σ554 40) = .int .i64 a0.Upload := m576
      have z602 : (σ554 41) = .string (bs t55) := m577
      have z603 : (σ554 42) = .pointer (some ⟨b1, 5, none⟩) := m578
      have z604 : (σ554 43) = .int .i64 a0.Offset := m579
      have z605 : (σ554 44) = .string (bs t63) := m580
      have z606 : (σ554 45) = .pointer (some ⟨b1, 2, none⟩) := m581
      have z607 : (σ554 46) = .string (bs a0.Repo) := m582
      have z608 : (σ554 47) = .pointer (some ⟨b1, 3, none⟩) := m583
      have z609 : (σ554 48) = .string (bs a0.Digest) := m584
      have z610 : (σ554 49) = .pointer (some ⟨b1, 6, none⟩) := m585
      have z611 : (σ554 50) = .string (bs a0.Data) := m586
      have f612 : Row Kstr w555 hw556 (σ554 51) ([([97, 115, 107] : List UInt8), t39, t47, t55, t63, a0.Repo, a0.Digest, a0.Data]) := m587
      have z613 : (σ554 52) = .tuple #[.string (bs t81.1), .int .i64 t81.2] := m588
      have z614 : (σ554 53) = .string (bs t81.1) := m589
      refine wl_assign (.int .i64 t81.2) z592 ?_
      refine wl_nil ?_
      exact qn ⟨_, _, rfl, (Ext.refl _ _), ⟨fr563, e564.trans (Ext.refl _ _), C565, C566⟩, (aft_some rfl)⟩
    · intro σ615 w616 hw617 q618 q619 q620
      obtain ⟨fr621, e622, C623, C624⟩ := q618
      obtain ⟨m625, m626, m627, m628, m629, m630, m631, m632, m633, m634, m635, m636, m637, m638, m639, m640, m641, m642, m643, m644, m645, m646, m647, m648, _⟩ := q620
      have f649 : Row Kstr w616 hw617 (σ615 51) ([([97, 115, 107] : List UInt8), t39, t47, t55, t63, a0.Repo, a0.Digest, a0.Data]) := m643
      have z650 : (σ615 2) = .string (bs t81.1) := m647
      have z651 : (σ615 3) = .int .i64 t81.2 := m648
      refine qn ?_
      refine wc_ret ?_
      have h := Option.some.inj h
      subst h
      refine end2 rfl (.tmp z650 (.tmp z651 .nil)) ?_
      exact ⟨_, rfl, fr621⟩
/-! ### consignor/courier.Reply: function 6 -/
def courier_Reply.f (k : Nat) (a0 : ApiAnswer) : Option ((List UInt8) × Int) := (courier_within.f k ([a0.Id, a0.N])).bind fun t15 => (if (((!t15) || (decide (a0.Err < 0))) || (decide (255 < a0.Err))) = true then (some ([], 1)) else ((courier_number.f k a0.Id).bind fun t36 => ((courier_number.f k a0.Err).bind fun t44 => ((courier_number.f k a0.N).bind fun t52 => ((octet_Bind.f k ([([97, 110, 115, 119, 101, 114] : List UInt8), t36, t44, t52])).bind fun t70 => (some (t70.1, t70.2)))))))
set_option maxHeartbeats 1000000 in
theorem courier_Reply.ok (k : Nat) {w0 : World} {hw0 : Hw} (wf : Hwf w0 hw0) (a0 : ApiAnswer) (r : ((List UInt8) × Int)) (h : courier_Reply.f k a0 = some r) :
    Calls Tryd.prog 6 #[.agg #[.int .i64 a0.Id, .int .i64 a0.Err, .int .i64 a0.N]] w0 fun e w' => ∃ (hw' : Hw), e = .returned (.tuple #[.string (bs r.1), .int .i64 r.2]) ∧ Stp none w0 hw0 w' hw' := by
  have fr0 := Stp.refl none (w := w0) (hw := hw0) wf
  unfold courier_Reply.f at h
  refine enter (n := 34) Tryd.func6 rfl rfl (Nat.le_of_ble_eq_true rfl) ?_
  refine wc_seq ?_
  refine wc_region ?_
  refine wl_box fr0.wf fr0.g.size [.int .i64 a0.Id, .int .i64 a0.Err, .int .i64 a0.N] (cells_of (v := (.agg #[.int .i64 a0.Id, .int .i64 a0.Err, .int .i64 a0.N])) rfl rfl) ?_
  intro b1 w2 s3 B4 g5
  have fr6 := fr0.then0 s3
  refine wl_assign (.string (bs [])) rfl ?_
  refine wl_assign (.int .i64 0) rfl ?_
  refine wl_nil ?_
  refine qn ?_
  refine wc_seq ?_
  refine wc_seq ?_
  refine wc_region ?_
  refine wl_field fld26_0 rfl ?_
  refine wl_loadb1 B4 ty3 rfl (.int .i64 a0.Id) rfl ?_
  refine wl_field fld26_2 rfl ?_
  refine wl_loadb1 B4 ty3 rfl (.int .i64 a0.N) rfl ?_
  have hb7 : ∀ w : World, (Instr.buildSlice 51 2 #[(0, .int .i64 a0.Id), (1, .int .i64 a0.N)]).run Tryd.prog w = .ok (.slice (some ⟨w.heap.size, 0, none⟩) 2 2) (w.alloc (.cells (List.toArray [.int .i64 a0.Id, .int .i64 a0.N]) 3)) := fun _ => by kernel_rfl
  refine wl_lit (KD := (Kint .i64)) fr6.wf [.int .i64 a0.Id, .int .i64 a0.N] [a0.Id, a0.N] (pc rfl (pc rfl (pn _ _))) (hb7 _) rfl (by decide) ⟨[.int .i64 a0.Id], _, rfl, rfl, ⟨[.int .i64 a0.N], _, rfl, rfl, rfl⟩⟩ ?_
  intro v8 w9 hw10 O12 s11
  have n13 := own_new_lt O12 B4.lt
  replace O12 := O12.low fr6.g.size
  have fr14 := fr6.then0 s11
  obtain ⟨t15, h16, h⟩ := Option.bind_eq_some_iff.1 h
  have B21 := (B4.step0 s11)
  refine wl_call [v8] bod14 (mc rfl (mn _)) (courier_within.ok k fr14.wf ([a0.Id, a0.N]) v8 O12.row _ h16) ?_
  rintro e17 w18 ⟨hw19, rfl, s20⟩
  refine ⟨_, rfl, ?_⟩
  have fr22 := fr14.then0 s20
  refine wl_not rfl ?_
  refine wl_move (.bool (!t15)) rfl ?_
  refine wl_join 4 [12, 13, 14, 15] 15 (.bool ((!t15) || (decide (a0.Err < 0)))) ?_ ?_
  · rcases Bool.eq_false_or_eq_true (!t15) with hcc | hcc
    · skip
      refine wl_off (yl rfl rfl rfl) hcc ?_
      refine wl_off (yl rfl rfl rfl) hcc ?_
      refine wl_off (yl rfl rfl rfl) hcc ?_
      refine wl_pick_t (!t15) (.bool true) rfl hcc rfl ?_
      refine wl_nil ?_
      exact qn ⟨rfl, _, rfl, (by repeat (first | exact Same.refl _ _ | refine Same.upd ?_ rfl)), (by rw [hcc]; rfl)⟩
    · skip
      refine wl_on (yl rfl rfl rfl) hcc ?_
      refine wl_field fld26_1 rfl ?_
      refine wl_on (yl rfl rfl rfl) hcc ?_
      have B23 := (B21.step0 s20)
      refine wl_loadb1 B23 ty24 rfl (.int .i64 a0.Err) rfl ?_
      refine wl_on (yl rfl rfl rfl) hcc ?_
      refine wl_lss rfl rfl ?_
      refine wl_pick_f (!t15) (.bool (decide (a0.Err < 0))) rfl hcc rfl ?_
      refine wl_nil ?_
      exact qn ⟨rfl, _, rfl, (by repeat (first | exact Same.refl _ _ | refine Same.upd ?_ rfl)), (by rw [hcc]; rfl)⟩
  intro _ ho24 hv25
  refine wl_move (.bool ((!t15) || (decide (a0.Err < 0)))) hv25 ?_
  refine wl_join 4 [17, 18, 19, 20] 20 (.bool (((!t15) || (decide (a0.Err < 0))) || (decide (255 < a0.Err)))) ?_ ?_
  · rcases Bool.eq_false_or_eq_true ((!t15) || (decide (a0.Err < 0))) with hcc | hcc
    · skip
      refine wl_off (yl rfl rfl rfl) hcc ?_
      refine wl_off (yl rfl rfl rfl) hcc ?_
      refine wl_off (yl rfl rfl rfl) hcc ?_
      refine wl_pick_t ((!t15) || (decide (a0.Err < 0))) (.bool true) rfl hcc rfl ?_
      refine wl_nil ?_
      exact qn ⟨rfl, _, rfl, (by repeat (first | exact Same.refl _ _ | refine Same.upd ?_ rfl)), (by rw [hcc]; rfl)⟩
    · skip
      refine wl_on (yl rfl rfl rfl) hcc ?_
      refine wl_field fld26_1 ((ho24 1 rfl).trans rfl) ?_
      refine wl_on (yl rfl rfl rfl) hcc ?_
      have B26 := (B21.step0 s20)
      refine wl_loadb1 B26 ty24 rfl (.int .i64 a0.Err) rfl ?_
      refine wl_on (yl rfl rfl rfl) hcc ?_
      refine wl_gtr rfl rfl ?_
      refine wl_pick_f ((!t15) || (decide (a0.Err < 0))) (.bool (decide (255 < a0.Err))) rfl hcc rfl ?_
      refine wl_nil ?_
      exact qn ⟨rfl, _, rfl, (by repeat (first | exact Same.refl _ _ | refine Same.upd ?_ rfl)), (by rw [hcc]; rfl)⟩
  intro _ ho27 hv28
  refine wl_nil ?_
  refine qn ?_
  by_cases c29 : (((!t15) || (decide (a0.Err < 0))) || (decide (255 < a0.Err))) = true
  · replace h := (if_pos c29).symm.trans h
    refine wc_then hv28 c29 ?_
    refine wc_seq ?_
    refine wc_region ?_
    refine wl_assign (.string (bs [])) rfl ?_
    refine wl_assign (.int .i64 1) rfl ?_
    refine wl_nil ?_
    refine qn ?_
    refine wc_ret ?_
    refine qr ?_
    have h := Option.some.inj h
    subst h
    refine end2 rfl (.tmp rfl (.tmp rfl .nil)) ?_
    exact ⟨_, rfl, fr22⟩
  · replace h := (if_neg c29).symm.trans h
    have b30 : (((!t15) || (decide (a0.Err < 0))) || (decide (255 < a0.Err))) = false := Bool.eq_false_iff.2 c29
    refine wc_else hv28 b30 ?_
    refine wc_skip ?_
    refine qn ?_
    refine wc_seq ?_
    have s31 := Stp.drew (w := w18) (hw := hw19) fr22.wf
    have fr32 := fr22.then0 s31
    have B33 := ((B21.step0 s20).step0 s31)
    have O34 := ((O12.step0 s20).step0 s31)
    obtain ⟨t36, h37, h⟩ := Option.bind_eq_some_iff.1 h
    obtain ⟨t44, h45, h⟩ := Option.bind_eq_some_iff.1 h
    obtain ⟨t52, h53, h⟩ := Option.bind_eq_some_iff.1 h
    obtain ⟨t70, h71, h⟩ := Option.bind_eq_some_iff.1 h
    refine wc_any (hw := hw19) mixed [[], [0], [1], [], [3], [4, 2], [], [6], [7, 5], [2, 5, 8], [9, 8], [10], [10], [11, 10, 0, 1, 2, 3, 4, 5, 6, 7, 8, 9, 10, 11, 12], [12, 13, 0, 1, 2, 3, 4, 5, 6, 7, 8, 9, 10, 11, 12, 13]] [21, 22, 23, 24, 25, 26, 27, 28, 29, 30, 31, 32, 33, 2, 3] (by kernel_rfl) (PhiOf [fun v w hw => v = .pointer (some ⟨b1, 0, none⟩), fun v w hw => v = .int .i64 a0.Id, fun v w hw => v = .string (bs t36), fun v w hw => v = .pointer (some ⟨b1, 1, none⟩), fun v w hw => v = .int .i64 a0.Err, fun v w hw => v = .string (bs t44), fun v w hw => v = .pointer (some ⟨b1, 2, none⟩), fun v w hw => v = .int .i64 a0.N, fun v w hw => v = .string (bs t52), fun v w hw => Row Kstr w hw v ([([97, 110, 115, 119, 101, 114] : List UInt8), t36, t44, t52]), fun v w hw => v = .tuple #[.string (bs t70.1), .int .i64 t70.2], fun v w hw => v = .string (bs t70.1), fun v w hw => v = .int .i64 t70.2, fun v w hw => v = .string (bs t70.1), fun v w hw => v = .int .i64 t70.2]) (fun D σ w hw => Stp none w0 hw0 w hw ∧ Ext (w18).drew hw19 w hw ∧ Box w0.heap.size w hw b1 26 [.int .i64 a0.Id, .int .i64 a0.Err, .int .i64 a0.N] ∧ Own (Kint .i64) 3 w0.heap.size w hw v8 ([a0.Id, a0.N])) (stab_of (sbc (fun _ _ _ _ _ _ h => h) (sbc (fun _ _ _ _ _ _ h => h) (sbc (fun _ _ _ _ _ _ h => h) (sbc (fun _ _ _ _ _ _ h => h) (sbc (fun _ _ _ _ _ _ h => h) (sbc (fun _ _ _ _ _ _ h => h) (sbc (fun _ _ _ _ _ _ h => h) (sbc (fun _ _ _ _ _ _ h => h) (sbc (fun _ _ _ _ _ _ h => h) (sbc (fun _ _ _ _ _ e h => Row.ext e h) (sbc (fun _ _ _ _ _ _ h => h) (sbc (fun _ _ _ _ _ _ h => h) (sbc (fun _ _ _ _ _ _ h => h) (sbc (fun _ _ _ _ _ _ h => h) (sbc (fun _ _ _ _ _ _ h => h) sbn)))))))))))))))) ?_ (stc ?_ (stc ?_ (stc ?_ (stc ?_ (stc ?_ (stc ?_ (stc ?_ (stc ?_ (stc ?_ (stc ?_ (stc ?_ (stc ?_ (stc ?_ (stc ?_ (stc ?_ stn))))))))))))))) ?_
    · exact ⟨fr32, Ext.refl _ _, B33, O34⟩
    · intro D78 σ79 w80 hw81 q82 q83 q84 q85 q86 q87
      obtain ⟨fr88, e89, C90, C91⟩ := q82
      refine wl_field fld26_0 ((q85 1 rfl).trans ((ho27 1 rfl).trans ((ho24 1 rfl).trans rfl))) ?_
      refine wl_nil ?_
      exact qn ⟨_, _, rfl, (Ext.refl _ _), ⟨fr88, e89.trans (Ext.refl _ _), C90, C91⟩, (aft_some rfl)⟩
    · intro D92 σ93 w94 hw95 q96 q97 q98 q99 q100 q101
      obtain ⟨fr102, e103, C104, C105⟩ := q96
      obtain ⟨⟨_, m106⟩, _⟩ := q98
      have z107 : (σ93 21) = .pointer (some ⟨b1, 0, none⟩) := m106
      refine wl_loadb1 C104 ty3 z107 (.int .i64 a0.Id) rfl ?_
      refine wl_nil ?_
      exact qn ⟨_, _, rfl, (Ext.refl _ _), ⟨fr102, e103.trans (Ext.refl _ _), C104, C105⟩, (aft_some rfl)⟩
    · intro D108 σ109 w110 hw111 q112 q113 q114 q115 q116 q117
      obtain ⟨fr118, e119, C120, C121⟩ := q112
      obtain ⟨⟨_, m122⟩, _⟩ := q114
      have z123 : (σ109 22) = .int .i64 a0.Id := m122
      refine wl_call [.int .i64 a0.Id] bod16 (mc z123 (mn _)) (courier_number.ok k fr118.wf a0.Id _ h37) ?_
      rintro e124 w125 ⟨hw126, rfl, s127⟩
      refine ⟨_, rfl, ?_⟩
      have fr128 := fr118.then0 s127
      refine wl_nil ?_
      have B129 := (C120.step0 s127)
      have O130 := (C121.step0 s127)
      exact qn ⟨_, _, rfl, s127.ext, ⟨fr128, e119.trans s127.ext, B129, O130⟩, (aft_some rfl)⟩
    · intro D131 σ132 w133 hw134 q135 q136 q137 q138 q139 q140
      obtain ⟨fr141, e142, C143, C144⟩ := q135
      refine wl_field fld26_1 ((q138 1 rfl).trans ((ho27 1 rfl).trans ((ho24 1 rfl).trans rfl))) ?_
      refine wl_nil ?_
      exact qn ⟨_, _, rfl, (Ext.refl _ _), ⟨fr141, e142.trans (Ext.refl _ _), C143, C144⟩, (aft_some rfl)⟩
    · intro D145 σ146 w147 hw148 q149 q150 q151 q152 q153 q154
      obtain ⟨fr155, e156, C157, C158⟩ := q149
      obtain ⟨⟨_, m159⟩, _⟩ := q151
      have z160 : (σ146 24) = .pointer (some ⟨b1, 1, none⟩) := m159
      refine wl_loadb1 C157 ty24 z160 (.int .i64 a0.Err) rfl ?_
      refine wl_nil ?_
      exact qn ⟨_, _, rfl, (Ext.refl _ _), ⟨fr155, e156.trans (Ext.refl _ _), C157, C158⟩, (aft_some rfl)⟩
    · intro D161 σ162 w163 hw164 q165 q166 q167 q168 q169 q170
      obtain ⟨fr171, e172, C173, C174⟩ := q165
      obtain ⟨⟨_, m175⟩, ⟨_, m176⟩, _⟩ := q167
      have z177 : (σ162 25) = .int .i64 a0.Err := m175
      have z178 : (σ162 23) = .string (bs t36) := m176
      refine wl_call [.int .i64 a0.Err] bod16 (mc z177 (mn _)) (courier_number.ok k fr171.wf a0.Err _ h45) ?_
      rintro e179 w180 ⟨hw181, rfl, s182⟩
      refine ⟨_, rfl, ?_⟩
      have fr183 := fr171.then0 s182
      refine wl_nil ?_
      have B184 := (C173.step0 s182)
      have O185 := (C174.step0 s182)
      exact qn ⟨_, _, rfl, s182.ext, ⟨fr183, e172.trans s182.ext, B184, O185⟩, (aft_some rfl)⟩
    · intro D186 σ187 w188 hw189 q190 q191 q192 q193 q194 q195
      obtain ⟨fr196, e197, C198, C199⟩ := q190
      refine wl_field fld26_2 ((q193 1 rfl).trans ((ho27 1 rfl).trans ((ho24 1 rfl).trans rfl))) ?_
      refine wl_nil ?_
      exact qn ⟨_, _, rfl, (Ext.refl _ _), ⟨fr196, e197.trans (Ext.refl _ _), C198, C199⟩, (aft_some rfl)⟩
    · intro D200 σ201 w202 hw203 q204 q205 q206 q207 q208 q209
      obtain ⟨fr210, e211, C212, C213⟩ := q204
      obtain ⟨⟨_, m214⟩, _⟩ := q206
      have z215 : (σ201 27) = .pointer (some ⟨b1, 2, none⟩) := m214
      refine wl_loadb1 C212 ty3 z215 (.int .i64 a0.N) rfl ?_
      refine wl_nil ?_
      exact qn ⟨_, _, rfl, (Ext.refl _ _), ⟨fr210, e211.trans (Ext.refl _ _), C212, C213⟩, (aft_some rfl)⟩
    · intro D216 σ217 w218 hw219 q220 q221 q222 q223 q224 q225
      obtain ⟨fr226, e227, C228, C229⟩ := q220
      obtain ⟨⟨_, m230⟩, ⟨_, m231⟩, _⟩ := q222
      have z232 : (σ217 28) = .int .i64 a0.N := m230
      have z233 : (σ217 26) = .string (bs t44) := m231
      refine wl_call [.int .i64 a0.N] bod16 (mc z232 (mn _)) (courier_number.ok k fr226.wf a0.N _ h53) ?_
      rintro e234 w235 ⟨hw236, rfl, s237⟩
      refine ⟨_, rfl, ?_⟩
      have fr238 := fr226.then0 s237
      refine wl_nil ?_
      have B239 := (C228.step0 s237)
      have O240 := (C229.step0 s237)
      exact qn ⟨_, _, rfl, s237.ext, ⟨fr238, e227.trans s237.ext, B239, O240⟩, (aft_some rfl)⟩
    · intro D241 σ242 w243 hw244 q245 q246 q247 q248 q249 q250
      obtain ⟨fr251, e252, C253, C254⟩ := q245
      obtain ⟨⟨_, m255⟩, ⟨_, m256⟩, ⟨_, m257⟩, _⟩ := q247
      have z258 : (σ242 23) = .string (bs t36) := m255
      have z259 : (σ242 26) = .string (bs t44) := m256
      have z260 : (σ242 29) = .string (bs t52) := m257
      have hb261 : ∀ w : World, (Instr.buildSlice 44 4 #[(0, .string (bs ([97, 110, 115, 119, 101, 114] : List UInt8))), (1, .string (bs t36)), (2, .string (bs t44)), (3, .string (bs t52))]).run Tryd.prog w = .ok (.slice (some ⟨w.heap.size, 0, none⟩) 4 4) (w.alloc (.cells (List.toArray [.string (bs ([97, 110, 115, 119, 101, 114] : List UInt8)), .string (bs t36), .string (bs t44), .string (bs t52)]) 9)) := fun _ => by kernel_rfl
      refine wl_lit (KD := Kstr) fr251.wf [.string (bs ([97, 110, 115, 119, 101, 114] : List UInt8)), .string (bs t36), .string (bs t44), .string (bs t52)] [([97, 110, 115, 119, 101, 114] : List UInt8), t36, t44, t52] (pc rfl (pc z258 (pc z259 (pc z260 (pn _ _))))) (hb261 _) rfl (by decide) ⟨[.string (bs ([97, 110, 115, 119, 101, 114] : List UInt8))], _, rfl, rfl, ⟨[.string (bs t36)], _, rfl, rfl, ⟨[.string (bs t44)], _, rfl, rfl, ⟨[.string (bs t52)], _, rfl, rfl, rfl⟩⟩⟩⟩ ?_
      intro v262 w263 hw264 O266 s265
      have n267 := own_new_lt O266 C253.lt
      have n268 := own_dis_new O266 C254
      replace O266 := O266.low fr251.g.size
      have fr269 := fr251.then0 s265
      refine wl_nil ?_
      have B270 := (C253.step0 s265)
      have O271 := (C254.step0 s265)
      exact qn ⟨_, _, rfl, s265.ext, ⟨fr269, e252.trans s265.ext, B270, O271⟩, (aft_some O266.row)⟩
    · intro D272 σ273 w274 hw275 q276 q277 q278 q279 q280 q281
      obtain ⟨fr282, e283, C284, C285⟩ := q276
      obtain ⟨⟨_, m286⟩, ⟨_, m287⟩, _⟩ := q278
      have f288 : Row Kstr w274 hw275 (σ273 30) ([([97, 110, 115, 119, 101, 114] : List UInt8), t36, t44, t52]) := m286
      have z289 : (σ273 29) = .string (bs t52) := m287
      refine wl_call [(σ273 30)] bod15 (mc rfl (mn _)) (octet_Bind.ok k fr282.wf ([([97, 110, 115, 119, 101, 114] : List UInt8), t36, t44, t52]) (σ273 30) f288 _ h71) ?_
      rintro e290 w291 ⟨hw292, rfl, s293⟩
      refine ⟨_, rfl, ?_⟩
      have fr294 := fr282.then0 s293
      refine wl_nil ?_
      have B295 := (C284.step0 s293)
      have O296 := (C285.step0 s293)
      exact qn ⟨_, _, rfl, s293.ext, ⟨fr294, e283.trans s293.ext, B295, O296⟩, (aft_some rfl)⟩
    · intro D297 σ298 w299 hw300 q301 q302 q303 q304 q305 q306
      obtain ⟨fr307, e308, C309, C310⟩ := q301
      obtain ⟨⟨_, m311⟩, _⟩ := q303
      have z312 : (σ298 31) = .tuple #[.string (bs t70.1), .int .i64 t70.2] := m311
      refine wl_extract (vs := [.string (bs t70.1), .int .i64 t70.2]) (.string (bs t70.1)) z312 rfl ?_
      refine wl_nil ?_
      exact qn ⟨_, _, rfl, (Ext.refl _ _), ⟨fr307, e308.trans (Ext.refl _ _), C309, C310⟩, (aft_some rfl)⟩
    · intro D313 σ314 w315 hw316 q317 q318 q319 q320 q321 q322
      obtain ⟨fr323, e324, C325, C326⟩ := q317
      obtain ⟨⟨_, m327⟩, _⟩ := q319
      have z328 : (σ314 31) = .tuple #[.string (bs t70.1), .int .i64 t70.2] := m327
      refine wl_extract (vs := [.string (bs t70.1), .int .i64 t70.2]) (.int .i64 t70.2) z328 rfl ?_
      refine wl_nil ?_
      exact qn ⟨_, _, rfl, (Ext.refl _ _), ⟨fr323, e324.trans (Ext.refl _ _), C325, C326⟩, (aft_some rfl)⟩
    · intro D329 σ330 w331 hw332 q333 q334 q335 q336 q337 q338
      obtain ⟨fr339, e340, C341, C342⟩ := q333
      obtain ⟨⟨_, m343⟩, ⟨_, m344⟩, ⟨_, m345⟩, ⟨_, m346⟩, ⟨_, m347⟩, ⟨_, m348⟩, ⟨_, m349⟩, ⟨_, m350⟩, ⟨_, m351⟩, ⟨_, m352⟩, ⟨_, m353⟩, ⟨_, m354⟩, ⟨_, m355⟩, ⟨_, m356⟩, ⟨_, m357⟩, _⟩ := q335
      have z358 : (σ330 32) = .string (bs t70.1) := m343
      have z359 : (σ330 31) = .tuple #[.string (bs t70.1), .int .i64 t70.2] := m344
      have z360 : (σ330 21) = .pointer (some ⟨b1, 0, none⟩) := m345
      have z361 : (σ330 22) = .int .i64 a0.Id := m346
      have z362 : (σ330 23) = .string (bs t36) := m347
      have z363 : (σ330 24) = .pointer (some ⟨b1, 1, none⟩) := m348
      have z364 : (σ330 25) = .int .i64 a0.Err := m349
      have z365 : (σ330 26) = .string (bs t44) := m350
      have z366 : (σ330 27) = .pointer (some ⟨b1, 2, none⟩) := m351
      have z367 : (σ330 28) = .int .i64 a0.N := m352
      have z368 : (σ330 29) = .string (bs t52) := m353
      have f369 : Row Kstr w331 hw332 (σ330 30) ([([97, 110, 115, 119, 101, 114] : List UInt8), t36, t44, t52]) := m354
      have z370 : (σ330 33) = .int .i64 t70.2 := m357
      refine wl_assign (.string (bs t70.1)) z358 ?_
      refine wl_nil ?_
      exact qn ⟨_, _, rfl, (Ext.refl _ _), ⟨fr339, e340.trans (Ext.refl _ _), C341, C342⟩, (aft_some rfl)⟩
    · intro D371 σ372 w373 hw374 q375 q376 q377 q378 q379 q380
      obtain ⟨fr381, e382, C383, C384⟩ := q375
      obtain ⟨⟨_, m385⟩, ⟨_, m386⟩, ⟨_, m387⟩, ⟨_, m388⟩, ⟨_, m389⟩, ⟨_, m390⟩, ⟨_, m391⟩, ⟨_, m392⟩, ⟨_, m393⟩, ⟨_, m394⟩, ⟨_, m395⟩, ⟨_, m396⟩, ⟨_, m397⟩, ⟨_, m398⟩, ⟨_, m399⟩, ⟨_, m400⟩, _⟩ := q377
      have z401 : (σ372 33) = .int .i64 t70.2 := m385
      have z402 : (σ372 2) = .string (bs t70.1) := m386
      have z403 : (σ372 21) = .pointer (some ⟨b1, 0, none⟩) := m387
      have z404 : (σ372 22) = .int .i64 a0.Id := m388
      have z405 : (σ372 23) = .string (bs t36) := m389
      have z406 : (σ372 24) = .pointer (some ⟨b1, 1, none⟩) := m390
      have z407 : (σ372 25) = .int .i64 a0.Err := m391
      have z408 : (σ372 26) = .string (bs t44) := m392
      have z409 : (σ372 27) = .pointer (some ⟨b1, 2, none⟩) := m393
      have z410 : (σ372 28) = .int .i64 a0.N := m394
      have z411 : (σ372 29) = .string (bs t52) := m395
      have f412 : Row Kstr w373 hw374 (σ372 30) ([([97, 110, 115, 119, 101, 114] : List UInt8), t36, t44, t52]) := m396
      have z413 : (σ372 31) = .tuple #[.string (bs t70.1), .int .i64 t70.2] := m397
      have z414 : (σ372 32) = .string (bs t70.1) := m398
      refine wl_assign (.int .i64 t70.2) z401 ?_
      refine wl_nil ?_
      exact qn ⟨_, _, rfl, (Ext.refl _ _), ⟨fr381, e382.trans (Ext.refl _ _), C383, C384⟩, (aft_some rfl)⟩
    · intro σ415 w416 hw417 q418 q419 q420
      obtain ⟨fr421, e422, C423, C424⟩ := q418
      obtain ⟨m425, m426, m427, m428, m429, m430, m431, m432, m433, m434, m435, m436, m437, m438, m439, _⟩ := q420
      have f440 : Row Kstr w416 hw417 (σ415 30) ([([97, 110, 115, 119, 101, 114] : List UInt8), t36, t44, t52]) := m434
      have z441 : (σ415 2) = .string (bs t70.1) := m438
      have z442 : (σ415 3) = .int .i64 t70.2 := m439
      refine qn ?_
      refine wc_ret ?_
      have h := Option.some.inj h
      subst h
      refine end2 rfl (.tmp z441 (.tmp z442 .nil)) ?_
      exact ⟨_, rfl, fr421⟩
/-! ### consignor/octet.Whole: function 27 -/
def octet_Whole.l0 : Nat → (List UInt8) → Int → Int → Option (Int × Int)
  | 0, _, _, _ => none
  | k + 1, a0, x4, x5 => if x5 < (a0.length : Int) then (if 0 ≤ x5 then (if x5 < (a0.length : Int) then (if ¬ (IntKind.i64.wrap (8 * x5)) < 0 then (octet_Whole.l0 k a0 (ibits .or .u64 x4 (ishl .u64 (IntKind.u64.wrap ((a0.getD (Int.toNat x5) 0).toNat : Int)) (IntKind.i64.wrap (8 * x5)))) (IntKind.i64.wrap (x5 + 1))) else none) else none) else none) else (some (x4, 0))
def octet_Whole.f (k : Nat) (a0 : (List UInt8)) : Option (Int × Int) := if 8 < (a0.length : Int) then (some (0, 2)) else (octet_Whole.l0 k a0 0 0)
set_option maxHeartbeats 1000000 in
theorem octet_Whole.ok (k : Nat) {w0 : World} {hw0 : Hw} (wf : Hwf w0 hw0) (a0 : (List UInt8)) (r : (Int × Int)) (h : octet_Whole.f k a0 = some r) :
    Calls Tryd.prog 27 #[.string (bs a0)] w0 fun e w' => ∃ (hw' : Hw), e = .returned (.tuple #[.int .u64 r.1, .int .i64 r.2]) ∧ Stp none w0 hw0 w' hw' := by
  have fr0 := Stp.refl none (w := w0) (hw := hw0) wf
  unfold octet_Whole.f at h
  refine enter (n := 25) Tryd.func27 rfl rfl (Nat.le_of_ble_eq_true rfl) ?_
  refine wc_seq ?_
  refine wc_region ?_
  refine wl_assign (.int .u64 0) rfl ?_
  refine wl_assign (.int .i64 0) rfl ?_
  refine wl_nil ?_
  refine qn ?_
  refine wc_seq ?_
  refine wc_seq ?_
  refine wc_region ?_
  refine wl_move (.string (bs a0)) rfl ?_
  refine wl_lens Tryd.underlying9 rfl ?_
  refine wl_gtr rfl rfl ?_
  refine wl_nil ?_
  refine qn ?_
  by_cases c1 : 8 < (a0.length : Int)
  · replace h := (if_pos c1).symm.trans h
    have b2 : (decide (8 < (a0.length : Int))) = true := decide_eq_true c1
    refine wc_then rfl b2 ?_
    refine wc_seq ?_
    refine wc_region ?_
    refine wl_assign (.int .u64 0) rfl ?_
    refine wl_assign (.int .i64 2) rfl ?_
    refine wl_nil ?_
    refine qn ?_
    refine wc_ret ?_
    refine qr ?_
    have h := Option.some.inj h
    subst h
    refine end2 rfl (.tmp rfl (.tmp rfl .nil)) ?_
    exact ⟨_, rfl, fr0⟩
  · replace h := (if_neg c1).symm.trans h
    have b3 : (decide (8 < (a0.length : Int))) = false := decide_eq_false c1
    refine wc_else rfl b3 ?_
    refine wc_skip ?_
    refine qn ?_
    refine wc_seq ?_
    refine wc_region ?_
    refine wl_assign (.int .u64 0) rfl ?_
    refine wl_nil ?_
    refine qn ?_
    refine wc_seq ?_
    refine wc_seq ?_
    refine wc_region ?_
    refine wl_move (.string (bs a0)) rfl ?_
    refine wl_lens Tryd.underlying9 rfl ?_
    refine wl_move (.int .i64 0) rfl ?_
    refine wl_nil ?_
    refine qn ?_
    refine wc_block ?_
    refine wc_loop (fun m a w => ∃ (σ : Nat → Value) (hw : Hw) (kq : Nat) (x4 : Int) (x5 : Int), a = mkA 25 σ ∧ kq ≤ m ∧ kq ≤ k ∧ Stp none w0 hw0 w hw ∧ Ext w0 hw0 w hw ∧ σ 0 = .string (bs a0) ∧ σ 4 = .int .u64 x4 ∧ σ 10 = .int .i64 (a0.length : Int) ∧ σ 11 = .int .i64 x5 ∧ octet_Whole.l0 kq a0 x4 x5 = some r) k ?_ ?_ ?_
    · skip
      exact ⟨_, _, _, 0, 0, rfl, (Nat.le_refl _), (Nat.le_refl _), fr0, (Ext.refl _ _), rfl, rfl, rfl, rfl, h⟩
    · rintro _ _ ⟨_, hw7, k8, x4, x5, rfl, hk11, hk12, fr9, e10, z13, z14, z15, z16, h⟩; obtain rfl := Nat.le_zero.1 hk11; rw [octet_Whole.l0] at h; cases h
    · rintro m0 _ w6 ⟨_, hw7, k8, x4, x5, rfl, hk11, hk12, fr9, e10, z13, z14, z15, z16, h⟩
      rcases k8 with _ | k8
      · rw [octet_Whole.l0] at h; cases h
      rw [octet_Whole.l0] at h
      refine wc_seq ?_
      refine wc_region ?_
      refine wl_lss z16 z15 ?_
      refine wl_nil ?_
      refine qn ?_
      refine wc_seq ?_
      by_cases c17 : x5 < (a0.length : Int)
      · replace h := (if_pos c17).symm.trans h
        have b18 : (decide (x5 < (a0.length : Int))) = true := decide_eq_true c17
        refine wc_then rfl b18 ?_
        refine wc_skip ?_
        refine qn ?_
        refine wc_seq ?_
        refine wc_block ?_
        refine wc_seq ?_
        refine wc_region ?_
        refine wl_move (.int .i64 x5) z16 ?_
        refine wl_assign (.int .i64 x5) rfl ?_
        refine wl_nil ?_
        refine qn ?_
        refine wc_region ?_
        refine wl_move (.int .u64 x4) z14 ?_
        refine wl_move (.string (bs a0)) z13 ?_
        refine wl_move (.int .i64 x5) rfl ?_
        by_cases c19 : 0 ≤ x5
        · replace h := (if_pos c19).symm.trans h
          by_cases c20 : x5 < (a0.length : Int)
          · replace h := (if_pos c20).symm.trans h
            refine wl_bt Tryd.underlying9 rfl rfl c19 c20 ?_
            refine wl_conv_int Tryd.underlying5 Tryd.underlying57 rfl ?_
            refine wl_move (.int .i64 x5) rfl ?_
            refine wl_mul rfl rfl ?_
            by_cases c21 : ¬ (IntKind.i64.wrap (8 * x5)) < 0
            · replace h := (if_pos c21).symm.trans h
              refine wl_shl rfl rfl c21 ?_
              refine wl_or rfl rfl ?_
              refine wl_assign (.int .u64 (ibits .or .u64 x4 (ishl .u64 (IntKind.u64.wrap ((a0.getD (Int.toNat x5) 0).toNat : Int)) (IntKind.i64.wrap (8 * x5))))) rfl ?_
              refine wl_nil ?_
              refine bn ?_
              refine qn ?_
              refine wc_region ?_
              refine wl_add z16 rfl ?_
              refine wl_move (.int .i64 (IntKind.i64.wrap (x5 + 1))) rfl ?_
              refine wl_nil ?_
              refine qn ?_
              exact ⟨_, _, _, (ibits .or .u64 x4 (ishl .u64 (IntKind.u64.wrap ((a0.getD (Int.toNat x5) 0).toNat : Int)) (IntKind.i64.wrap (8 * x5)))), (IntKind.i64.wrap (x5 + 1)), rfl, (by omega), (by omega), fr9, e10, z13, rfl, z15, rfl, h⟩
            · replace h := (if_neg c21).symm.trans h
              cases h
          · replace h := (if_neg c20).symm.trans h
            cases h
        · replace h := (if_neg c19).symm.trans h
          cases h
      · replace h := (if_neg c17).symm.trans h
        have b22 : (decide (x5 < (a0.length : Int))) = false := decide_eq_false c17
        refine wc_else rfl b22 ?_
        refine wc_exit ?_
        refine qe ?_
        refine qe ?_
        refine be ?_
        refine qn ?_
        refine wc_seq ?_
        refine wc_region ?_
        refine wl_move (.int .u64 x4) z14 ?_
        refine wl_assign (.int .u64 x4) rfl ?_
        refine wl_assign (.int .i64 0) rfl ?_
        refine wl_nil ?_
        refine qn ?_
        refine wc_ret ?_
        have h := Option.some.inj h
        subst h
        refine end2 rfl (.tmp rfl (.tmp rfl .nil)) ?_
        exact ⟨_, rfl, fr9⟩
/-! ### consignor/octet.short: function 30 -/
def octet_short.f (k : Nat) : Option Dy := some (Dy.mk 74 (Value.agg #[.int .i64 3]))
set_option maxHeartbeats 1000000 in
theorem octet_short.ok (k : Nat) {w0 : World} {hw0 : Hw} (wf : Hwf w0 hw0) (r : Dy) (h : octet_short.f k = some r) :
    Calls Tryd.prog 30 #[] w0 fun e w' => ∃ (hw' : Hw), e = .returned (Dy.val r) ∧ Stp none w0 hw0 w' hw' := by
  have fr0 := Stp.refl none (w := w0) (hw := hw0) wf
  unfold octet_short.f at h
  refine enter (n := 3) Tryd.func30 rfl rfl (Nat.le_of_ble_eq_true rfl) ?_
  refine wc_seq ?_
  refine wc_region ?_
  refine wl_assign (Dy.val Dy.nil) rfl ?_
  refine wl_nil ?_
  refine qn ?_
  refine wc_seq ?_
  refine wc_region ?_
  have hb1 : ∀ w, (Instr.build 74 #[(0, .int .i64 3)]).run Tryd.prog w = .ok (.agg (List.toArray [.int .i64 3])) w := by intro  _; kernel_rfl
  refine wl_build [.int .i64 3] (pc rfl (pn _ _)) (hb1 _) ?_
  refine wl_mki (.agg #[.int .i64 3]) rfl mki74 ?_
  refine wl_assign (Dy.val (Dy.mk 74 (Value.agg #[.int .i64 3]))) rfl ?_
  refine wl_nil ?_
  refine qn ?_
  refine wc_ret ?_
  have h := Option.some.inj h
  subst h
  refine end1 rfl (.tmp rfl .nil) ?_
  exact ⟨_, rfl, fr0⟩
/-! ### consignor/octet.take: function 25 -/
def octet_take.f (k : Nat) (a0 : (List UInt8)) (a1 : Int) : Option ((List UInt8) × (List UInt8) × Dy) := if (a0.length : Int) < 2 then ((octet_short.f k).bind fun t3 => (some ([], [], (Dy.mk 72 (Value.agg #[.int .i64 a1, Dy.val t3]))))) else (if (0 : Int) ≤ 2 then (if (2 : Int) ≤ (a0.length : Int) then ((octet_Whole.f k ((a0.take (Int.toNat 2)).drop (Int.toNat 0))).bind fun t14 => (if (2 : Int) ≤ (a0.length : Int) then (if ((decide (4096 < t14.1)) || (decide (64 < a1))) = true then (some ([], [], (Dy.mk 72 (Value.agg #[.int .i64 a1, Dy.val (Dy.mk 74 (Value.agg #[.int .i64 2]))])))) else (if (IntKind.u64.wrap (((a0.take (Int.toNat (a0.length : Int))).drop (Int.toNat 2)).length : Int)) < t14.1 then ((octet_short.f k).bind fun t30 => (some ([], [], (Dy.mk 72 (Value.agg #[.int .i64 a1, Dy.val t30]))))) else (if (0 : Int) ≤ t14.1 then (if (t14.1 : Int) ≤ (((a0.take (Int.toNat (a0.length : Int))).drop (Int.toNat 2)).length : Int) then (if (0 : Int) ≤ t14.1 then (if (t14.1 : Int) ≤ (((a0.take (Int.toNat (a0.length : Int))).drop (Int.toNat 2)).length : Int) then (some (((((a0.take (Int.toNat (a0.length : Int))).drop (Int.toNat 2)).take (Int.toNat t14.1)).drop (Int.toNat 0)), ((((a0.take (Int.toNat (a0.length : Int))).drop (Int.toNat 2)).take (Int.toNat (((a0.take (Int.toNat (a0.length : Int))).drop (Int.toNat 2)).length : Int))).drop (Int.toNat t14.1)), Dy.nil)) else none) else none) else none) else none))) else none)) else none) else none)
set_option maxHeartbeats 1000000 in
theorem octet_take.ok (k : Nat) {w0 : World} {hw0 : Hw} (wf : Hwf w0 hw0) (a0 : (List UInt8)) (a1 : Int) (r : ((List UInt8) × (List UInt8) × Dy)) (h : octet_take.f k a0 a1 = some r) :
    Calls Tryd.prog 25 #[.string (bs a0), .int .i64 a1] w0 fun e w' => ∃ (hw' : Hw), e = .returned (.tuple #[.string (bs r.1), .string (bs r.2.1), Dy.val r.2.2]) ∧ Stp none w0 hw0 w' hw' := by
  have fr0 := Stp.refl none (w := w0) (hw := hw0) wf
  unfold octet_take.f at h
  refine enter (n := 50) Tryd.func25 rfl rfl (Nat.le_of_ble_eq_true rfl) ?_
  refine wc_seq ?_
  refine wc_region ?_
  refine wl_assign (.string (bs [])) rfl ?_
  refine wl_assign (.string (bs [])) rfl ?_
  refine wl_assign (Dy.val Dy.nil) rfl ?_
  refine wl_nil ?_
  refine qn ?_
  refine wc_seq ?_
  refine wc_seq ?_
  refine wc_region ?_
  refine wl_move (.string (bs a0)) rfl ?_
  refine wl_lens Tryd.underlying9 rfl ?_
  refine wl_lss rfl rfl ?_
  refine wl_nil ?_
  refine qn ?_
  by_cases c1 : (a0.length : Int) < 2
  · replace h := (if_pos c1).symm.trans h
    have b2 : (decide ((a0.length : Int) < 2)) = true := decide_eq_true c1
    refine wc_then rfl b2 ?_
    refine wc_seq ?_
    refine wc_region ?_
    refine wl_move (.int .i64 a1) rfl ?_
    obtain ⟨t3, h4, h⟩ := Option.bind_eq_some_iff.1 h
    refine wl_call [] bod30 (mn _) (octet_short.ok k fr0.wf _ h4) ?_
    rintro e5 w6 ⟨hw7, rfl, s8⟩
    refine ⟨_, rfl, ?_⟩
    have fr9 := fr0.then0 s8
    have hb10 : ∀ (y1 : Dy) (w : World), (Instr.build 72 #[(0, .int .i64 a1), (1, Dy.val y1)]).run Tryd.prog w = .ok (.agg (List.toArray [.int .i64 a1, Dy.val y1])) w := by intro y1 _; cases y1 <;> kernel_rfl
    refine wl_build [.int .i64 a1, Dy.val t3] (pc rfl (pc rfl (pn _ _))) (hb10 t3 _) ?_
    refine wl_mki (.agg #[.int .i64 a1, Dy.val t3]) rfl mki72 ?_
    refine wl_assign (.string (bs [])) rfl ?_
    refine wl_assign (.string (bs [])) rfl ?_
    refine wl_assign (Dy.val (Dy.mk 72 (Value.agg #[.int .i64 a1, Dy.val t3]))) rfl ?_
    refine wl_nil ?_
    refine qn ?_
    refine wc_ret ?_
    refine qr ?_
    have h := Option.some.inj h
    subst h
    refine end3 rfl (.tmp rfl (.tmp rfl (.tmp rfl .nil))) ?_
    exact ⟨_, rfl, fr9⟩
  · replace h := (if_neg c1).symm.trans h
    have b11 : (decide ((a0.length : Int) < 2)) = false := decide_eq_false c1
    refine wc_else rfl b11 ?_
    refine wc_skip ?_
    refine qn ?_
    refine wc_seq ?_
    refine wc_region ?_
    refine wl_move (.string (bs a0)) rfl ?_
    by_cases c12 : (0 : Int) ≤ 2
    · replace h := (if_pos c12).symm.trans h
      by_cases c13 : (2 : Int) ≤ (a0.length : Int)
      · replace h := (if_pos c13).symm.trans h
        refine wl_cuts Tryd.underlying9 rfl Bd.no (Bd.yes rfl) (by first | decide | omega | simp) c12 c13 ?_
        obtain ⟨t14, h15, h⟩ := Option.bind_eq_some_iff.1 h
        refine wl_call [.string (bs ((a0.take (Int.toNat 2)).drop (Int.toNat 0)))] bod27 (mc rfl (mn _)) (octet_Whole.ok k fr0.wf ((a0.take (Int.toNat 2)).drop (Int.toNat 0)) _ h15) ?_
        rintro e16 w17 ⟨hw18, rfl, s19⟩
        refine ⟨_, rfl, ?_⟩
        have fr20 := fr0.then0 s19
        refine wl_move (.tuple #[.int .u64 t14.1, .int .i64 t14.2]) rfl ?_
        refine wl_extract (vs := [.int .u64 t14.1, .int .i64 t14.2]) (.int .u64 t14.1) rfl rfl ?_
        refine wl_extract (vs := [.int .u64 t14.1, .int .i64 t14.2]) (.int .i64 t14.2) rfl rfl ?_
        refine wl_assign (.int .u64 t14.1) rfl ?_
        refine wl_assign (.int .i64 t14.2) rfl ?_
        refine wl_nil ?_
        refine qn ?_
        refine wc_seq ?_
        refine wc_seq ?_
        refine wc_region ?_
        refine wl_move (.string (bs a0)) rfl ?_
        by_cases c21 : (2 : Int) ≤ (a0.length : Int)
        · replace h := (if_pos c21).symm.trans h
          refine wl_cuts Tryd.underlying9 rfl (Bd.yes rfl) Bd.no (by first | decide | omega | simp) c21 (by first | decide | omega | simp) ?_
          refine wl_assign (.string (bs ((a0.take (Int.toNat (a0.length : Int))).drop (Int.toNat 2)))) rfl ?_
          refine wl_nil ?_
          refine qn ?_
          refine wc_seq ?_
          refine wc_region ?_
          refine wl_move (.int .u64 t14.1) rfl ?_
          refine wl_gtr rfl rfl ?_
          refine wl_move (.bool (decide (4096 < t14.1))) rfl ?_
          refine wl_join 3 [27, 28, 29] 29 (.bool ((decide (4096 < t14.1)) || (decide (64 < a1)))) ?_ ?_
          · rcases Bool.eq_false_or_eq_true (decide (4096 < t14.1)) with hcc | hcc
            · skip
              refine wl_off (yl rfl rfl rfl) hcc ?_
              refine wl_off (yl rfl rfl rfl) hcc ?_
              refine wl_pick_t (decide (4096 < t14.1)) (.bool true) rfl hcc rfl ?_
              refine wl_nil ?_
              exact qn ⟨rfl, _, rfl, (by repeat (first | exact Same.refl _ _ | refine Same.upd ?_ rfl)), (by rw [hcc]; rfl)⟩
            · skip
              refine wl_on (yl rfl rfl rfl) hcc ?_
              refine wl_move (.int .i64 a1) rfl ?_
              refine wl_on (yl rfl rfl rfl) hcc ?_
              refine wl_gtr rfl rfl ?_
              refine wl_pick_f (decide (4096 < t14.1)) (.bool (decide (64 < a1))) rfl hcc rfl ?_
              refine wl_nil ?_
              exact qn ⟨rfl, _, rfl, (by repeat (first | exact Same.refl _ _ | refine Same.upd ?_ rfl)), (by rw [hcc]; rfl)⟩
          intro _ ho22 hv23
          refine wl_nil ?_
          refine qn ?_
          by_cases c24 : ((decide (4096 < t14.1)) || (decide (64 < a1))) = true
          · replace h := (if_pos c24).symm.trans h
            refine wc_then hv23 c24 ?_
            refine wc_seq ?_
            refine wc_region ?_
            refine wl_move (.int .i64 a1) ((ho22 1 rfl).trans rfl) ?_
            have hb25 : ∀ w, (Instr.build 74 #[(0, .int .i64 2)]).run Tryd.prog w = .ok (.agg (List.toArray [.int .i64 2])) w := by intro  _; kernel_rfl
            refine wl_build [.int .i64 2] (pc rfl (pn _ _)) (hb25 _) ?_
            refine wl_mki (.agg #[.int .i64 2]) rfl mki74 ?_
            have hb26 : ∀ w, (Instr.build 72 #[(0, .int .i64 a1), (1, Dy.val (Dy.mk 74 (Value.agg #[.int .i64 2])))]).run Tryd.prog w = .ok (.agg (List.toArray [.int .i64 a1, Dy.val (Dy.mk 74 (Value.agg #[.int .i64 2]))])) w := by intro  _; kernel_rfl
            refine wl_build [.int .i64 a1, Dy.val (Dy.mk 74 (Value.agg #[.int .i64 2]))] (pc rfl (pc rfl (pn _ _))) (hb26 _) ?_
            refine wl_mki (.agg #[.int .i64 a1, Dy.val (Dy.mk 74 (Value.agg #[.int .i64 2]))]) rfl mki72 ?_
            refine wl_assign (.string (bs [])) rfl ?_
            refine wl_assign (.string (bs [])) rfl ?_
            refine wl_assign (Dy.val (Dy.mk 72 (Value.agg #[.int .i64 a1, Dy.val (Dy.mk 74 (Value.agg #[.int .i64 2]))]))) rfl ?_
            refine wl_nil ?_
            refine qn ?_
            refine wc_ret ?_
            refine qr ?_
            have h := Option.some.inj h
            subst h
            refine end3 rfl (.tmp rfl (.tmp rfl (.tmp rfl .nil))) ?_
            exact ⟨_, rfl, fr20⟩
          · replace h := (if_neg c24).symm.trans h
            have b27 : ((decide (4096 < t14.1)) || (decide (64 < a1))) = false := Bool.eq_false_iff.2 c24
            refine wc_else hv23 b27 ?_
            refine wc_skip ?_
            refine qn ?_
            refine wc_seq ?_
            refine wc_seq ?_
            refine wc_region ?_
            refine wl_move (.int .u64 t14.1) ((ho22 7 rfl).trans rfl) ?_
            refine wl_move (.string (bs ((a0.take (Int.toNat (a0.length : Int))).drop (Int.toNat 2)))) ((ho22 0 rfl).trans rfl) ?_
            refine wl_lens Tryd.underlying9 rfl ?_
            refine wl_conv_int Tryd.underlying3 Tryd.underlying57 rfl ?_
            refine wl_gtr rfl rfl ?_
            refine wl_nil ?_
            refine qn ?_
            by_cases c28 : (IntKind.u64.wrap (((a0.take (Int.toNat (a0.length : Int))).drop (Int.toNat 2)).length : Int)) < t14.1
            · replace h := (if_pos c28).symm.trans h
              have b29 : (decide ((IntKind.u64.wrap (((a0.take (Int.toNat (a0.length : Int))).drop (Int.toNat 2)).length : Int)) < t14.1)) = true := decide_eq_true c28
              refine wc_then rfl b29 ?_
              refine wc_seq ?_
              refine wc_region ?_
              refine wl_move (.int .i64 a1) ((ho22 1 rfl).trans rfl) ?_
              obtain ⟨t30, h31, h⟩ := Option.bind_eq_some_iff.1 h
              refine wl_call [] bod30 (mn _) (octet_short.ok k fr20.wf _ h31) ?_
              rintro e32 w33 ⟨hw34, rfl, s35⟩
              refine ⟨_, rfl, ?_⟩
              have fr36 := fr20.then0 s35
              have hb37 : ∀ (y1 : Dy) (w : World), (Instr.build 72 #[(0, .int .i64 a1), (1, Dy.val y1)]).run Tryd.prog w = .ok (.agg (List.toArray [.int .i64 a1, Dy.val y1])) w := by intro y1 _; cases y1 <;> kernel_rfl
              refine wl_build [.int .i64 a1, Dy.val t30] (pc rfl (pc rfl (pn _ _))) (hb37 t30 _) ?_
              refine wl_mki (.agg #[.int .i64 a1, Dy.val t30]) rfl mki72 ?_
              refine wl_assign (.string (bs [])) rfl ?_
              refine wl_assign (.string (bs [])) rfl ?_
              refine wl_assign (Dy.val (Dy.mk 72 (Value.agg #[.int .i64 a1, Dy.val t30]))) rfl ?_
              refine wl_nil ?_
              refine qn ?_
              refine wc_ret ?_
              refine qr ?_
              have h := Option.some.inj h
              subst h
              refine end3 rfl (.tmp rfl (.tmp rfl (.tmp rfl .nil))) ?_
              exact ⟨_, rfl, fr36⟩
            · replace h := (if_neg c28).symm.trans h
              have b38 : (decide ((IntKind.u64.wrap (((a0.take (Int.toNat (a0.length : Int))).drop (Int.toNat 2)).length : Int)) < t14.1)) = false := decide_eq_false c28
              refine wc_else rfl b38 ?_
              refine wc_skip ?_
              refine qn ?_
              refine wc_seq ?_
              have s39 := Stp.drew (w := w17) (hw := hw18) fr20.wf
              have fr40 := fr20.then0 s39
              by_cases c42 : (0 : Int) ≤ t14.1
              · replace h := (if_pos c42).symm.trans h
                by_cases c43 : (t14.1 : Int) ≤ (((a0.take (Int.toNat (a0.length : Int))).drop (Int.toNat 2)).length : Int)
                · replace h := (if_pos c43).symm.trans h
                  by_cases c44 : (0 : Int) ≤ t14.1
                  · replace h := (if_pos c44).symm.trans h
                    by_cases c45 : (t14.1 : Int) ≤ (((a0.take (Int.toNat (a0.length : Int))).drop (Int.toNat 2)).length : Int)
                    · replace h := (if_pos c45).symm.trans h
                      refine wc_any (hw := hw18) mixed [[], [], [0, 1], [], [], [3, 4], [2, 0, 1, 2], [5, 6, 0, 1, 2, 3, 4, 5, 6], [7, 0, 1, 2, 3, 4, 5, 6, 7]] [44, 45, 46, 47, 48, 49, 4, 5, 6] (by kernel_rfl) (PhiOf [fun v w hw => v = .string (bs ((a0.take (Int.toNat (a0.length : Int))).drop (Int.toNat 2))), fun v w hw => v = .int .u64 t14.1, fun v w hw => v = .string (bs ((((a0.take (Int.toNat (a0.length : Int))).drop (Int.toNat 2)).take (Int.toNat t14.1)).drop (Int.toNat 0))), fun v w hw => v = .string (bs ((a0.take (Int.toNat (a0.length : Int))).drop (Int.toNat 2))), fun v w hw => v = .int .u64 t14.1, fun v w hw => v = .string (bs ((((a0.take (Int.toNat (a0.length : Int))).drop (Int.toNat 2)).take (Int.toNat (((a0.take (Int.toNat (a0.length : Int))).drop (Int.toNat 2)).length : Int))).drop (Int.toNat t14.1))), fun v w hw => v = .string (bs ((((a0.take (Int.toNat (a0.length : Int))).drop (Int.toNat 2)).take (Int.toNat t14.1)).drop (Int.toNat 0))), fun v w hw => v = .string (bs ((((a0.take (Int.toNat (a0.length : Int))).drop (Int.toNat 2)).take (Int.toNat (((a0.take (Int.toNat (a0.length : Int))).drop (Int.toNat 2)).length : Int))).drop (Int.toNat t14.1))), fun v w hw => v = Dy.val Dy.nil]) (fun D σ w hw => Stp none w0 hw0 w hw ∧ Ext (w17).drew hw18 w hw) (stab_of (sbc (fun _ _ _ _ _ _ h => h) (sbc (fun _ _ _ _ _ _ h => h) (sbc (fun _ _ _ _ _ _ h => h) (sbc (fun _ _ _ _ _ _ h => h) (sbc (fun _ _ _ _ _ _ h => h) (sbc (fun _ _ _ _ _ _ h => h) (sbc (fun _ _ _ _ _ _ h => h) (sbc (fun _ _ _ _ _ _ h => h) (sbc (fun _ _ _ _ _ _ h => h) sbn)))))))))) ?_ (stc ?_ (stc ?_ (stc ?_ (stc ?_ (stc ?_ (stc ?_ (stc ?_ (stc ?_ (stc ?_ stn))))))))) ?_
                      · exact ⟨fr40, Ext.refl _ _⟩
                      · intro D46 σ47 w48 hw49 q50 q51 q52 q53 q54 q55
                        obtain ⟨fr56, e57⟩ := q50
                        refine wl_move (.string (bs ((a0.take (Int.toNat (a0.length : Int))).drop (Int.toNat 2)))) ((q53 0 rfl).trans ((ho22 0 rfl).trans rfl)) ?_
                        refine wl_nil ?_
                        exact qn ⟨_, _, rfl, (Ext.refl _ _), ⟨fr56, e57.trans (Ext.refl _ _)⟩, (aft_some rfl)⟩
                      · intro D58 σ59 w60 hw61 q62 q63 q64 q65 q66 q67
                        obtain ⟨fr68, e69⟩ := q62
                        refine wl_move (.int .u64 t14.1) ((q65 7 rfl).trans ((ho22 7 rfl).trans rfl)) ?_
                        refine wl_nil ?_
                        exact qn ⟨_, _, rfl, (Ext.refl _ _), ⟨fr68, e69.trans (Ext.refl _ _)⟩, (aft_some rfl)⟩
                      · intro D70 σ71 w72 hw73 q74 q75 q76 q77 q78 q79
                        obtain ⟨fr80, e81⟩ := q74
                        obtain ⟨⟨_, m82⟩, ⟨_, m83⟩, _⟩ := q76
                        have z84 : (σ71 44) = .string (bs ((a0.take (Int.toNat (a0.length : Int))).drop (Int.toNat 2))) := m82
                        have z85 : (σ71 45) = .int .u64 t14.1 := m83
                        refine wl_cuts Tryd.underlying9 z84 Bd.no (Bd.yes z85) (by first | decide | omega | simp) c42 c43 ?_
                        refine wl_nil ?_
                        exact qn ⟨_, _, rfl, (Ext.refl _ _), ⟨fr80, e81.trans (Ext.refl _ _)⟩, (aft_some rfl)⟩
                      · intro D86 σ87 w88 hw89 q90 q91 q92 q93 q94 q95
                        obtain ⟨fr96, e97⟩ := q90
                        refine wl_move (.string (bs ((a0.take (Int.toNat (a0.length : Int))).drop (Int.toNat 2)))) ((q93 0 rfl).trans ((ho22 0 rfl).trans rfl)) ?_
                        refine wl_nil ?_
                        exact qn ⟨_, _, rfl, (Ext.refl _ _), ⟨fr96, e97.trans (Ext.refl _ _)⟩, (aft_some rfl)⟩
                      · intro D98 σ99 w100 hw101 q102 q103 q104 q105 q106 q107
                        obtain ⟨fr108, e109⟩ := q102
                        refine wl_move (.int .u64 t14.1) ((q105 7 rfl).trans ((ho22 7 rfl).trans rfl)) ?_
                        refine wl_nil ?_
                        exact qn ⟨_, _, rfl, (Ext.refl _ _), ⟨fr108, e109.trans (Ext.refl _ _)⟩, (aft_some rfl)⟩
                      · intro D110 σ111 w112 hw113 q114 q115 q116 q117 q118 q119
                        obtain ⟨fr120, e121⟩ := q114
                        obtain ⟨⟨_, m122⟩, ⟨_, m123⟩, _⟩ := q116
                        have z124 : (σ111 47) = .string (bs ((a0.take (Int.toNat (a0.length : Int))).drop (Int.toNat 2))) := m122
                        have z125 : (σ111 48) = .int .u64 t14.1 := m123
                        refine wl_cuts Tryd.underlying9 z124 (Bd.yes z125) Bd.no c44 c45 (by first | decide | omega | simp) ?_
                        refine wl_nil ?_
                        exact qn ⟨_, _, rfl, (Ext.refl _ _), ⟨fr120, e121.trans (Ext.refl _ _)⟩, (aft_some rfl)⟩
                      · intro D126 σ127 w128 hw129 q130 q131 q132 q133 q134 q135
                        obtain ⟨fr136, e137⟩ := q130
                        obtain ⟨⟨_, m138⟩, ⟨_, m139⟩, ⟨_, m140⟩, ⟨_, m141⟩, _⟩ := q132
                        have z142 : (σ127 46) = .string (bs ((((a0.take (Int.toNat (a0.length : Int))).drop (Int.toNat 2)).take (Int.toNat t14.1)).drop (Int.toNat 0))) := m138
                        have z143 : (σ127 44) = .string (bs ((a0.take (Int.toNat (a0.length : Int))).drop (Int.toNat 2))) := m139
                        have z144 : (σ127 45) = .int .u64 t14.1 := m140
                        refine wl_assign (.string (bs ((((a0.take (Int.toNat (a0.length : Int))).drop (Int.toNat 2)).take (Int.toNat t14.1)).drop (Int.toNat 0)))) z142 ?_
                        refine wl_nil ?_
                        exact qn ⟨_, _, rfl, (Ext.refl _ _), ⟨fr136, e137.trans (Ext.refl _ _)⟩, (aft_some rfl)⟩
                      · intro D145 σ146 w147 hw148 q149 q150 q151 q152 q153 q154
                        obtain ⟨fr155, e156⟩ := q149
                        obtain ⟨⟨_, m157⟩, ⟨_, m158⟩, ⟨_, m159⟩, ⟨_, m160⟩, ⟨_, m161⟩, ⟨_, m162⟩, ⟨_, m163⟩, ⟨_, m164⟩, ⟨_, m165⟩, _⟩ := q151
                        have z166 : (σ146 49) = .string (bs ((((a0.take (Int.toNat (a0.length : Int))).drop (Int.toNat 2)).take (Int.toNat (((a0.take (Int.toNat (a0.length : Int))).drop (Int.toNat 2)).length : Int))).drop (Int.toNat t14.1))) := m157
                        have z167 : (σ146 4) = .string (bs ((((a0.take (Int.toNat (a0.length : Int))).drop (Int.toNat 2)).take (Int.toNat t14.1)).drop (Int.toNat 0))) := m158
                        have z168 : (σ146 44) = .string (bs ((a0.take (Int.toNat (a0.length : Int))).drop (Int.toNat 2))) := m159
                        have z169 : (σ146 45) = .int .u64 t14.1 := m160
                        have z170 : (σ146 46) = .string (bs ((((a0.take (Int.toNat (a0.length : Int))).drop (Int.toNat 2)).take (Int.toNat t14.1)).drop (Int.toNat 0))) := m161
                        have z171 : (σ146 47) = .string (bs ((a0.take (Int.toNat (a0.length : Int))).drop (Int.toNat 2))) := m162
                        have z172 : (σ146 48) = .int .u64 t14.1 := m163
                        refine wl_assign (.string (bs ((((a0.take (Int.toNat (a0.length : Int))).drop (Int.toNat 2)).take (Int.toNat (((a0.take (Int.toNat (a0.length : Int))).drop (Int.toNat 2)).length : Int))).drop (Int.toNat t14.1)))) z166 ?_
                        refine wl_nil ?_
                        exact qn ⟨_, _, rfl, (Ext.refl _ _), ⟨fr155, e156.trans (Ext.refl _ _)⟩, (aft_some rfl)⟩
                      · intro D173 σ174 w175 hw176 q177 q178 q179 q180 q181 q182
                        obtain ⟨fr183, e184⟩ := q177
                        obtain ⟨⟨_, m185⟩, ⟨_, m186⟩, ⟨_, m187⟩, ⟨_, m188⟩, ⟨_, m189⟩, ⟨_, m190⟩, ⟨_, m191⟩, ⟨_, m192⟩, ⟨_, m193⟩, _⟩ := q179
                        have z194 : (σ174 5) = .string (bs ((((a0.take (Int.toNat (a0.length : Int))).drop (Int.toNat 2)).take (Int.toNat (((a0.take (Int.toNat (a0.length : Int))).drop (Int.toNat 2)).length : Int))).drop (Int.toNat t14.1))) := m185
                        have z195 : (σ174 44) = .string (bs ((a0.take (Int.toNat (a0.length : Int))).drop (Int.toNat 2))) := m186
                        have z196 : (σ174 45) = .int .u64 t14.1 := m187
                        have z197 : (σ174 46) = .string (bs ((((a0.take (Int.toNat (a0.length : Int))).drop (Int.toNat 2)).take (Int.toNat t14.1)).drop (Int.toNat 0))) := m188
                        have z198 : (σ174 47) = .string (bs ((a0.take (Int.toNat (a0.length : Int))).drop (Int.toNat 2))) := m189
                        have z199 : (σ174 48) = .int .u64 t14.1 := m190
                        have z200 : (σ174 49) = .string (bs ((((a0.take (Int.toNat (a0.length : Int))).drop (Int.toNat 2)).take (Int.toNat (((a0.take (Int.toNat (a0.length : Int))).drop (Int.toNat 2)).length : Int))).drop (Int.toNat t14.1))) := m191
                        have z201 : (σ174 4) = .string (bs ((((a0.take (Int.toNat (a0.length : Int))).drop (Int.toNat 2)).take (Int.toNat t14.1)).drop (Int.toNat 0))) := m192
                        refine wl_assign (Dy.val Dy.nil) rfl ?_
                        refine wl_nil ?_
                        exact qn ⟨_, _, rfl, (Ext.refl _ _), ⟨fr183, e184.trans (Ext.refl _ _)⟩, (aft_some rfl)⟩
                      · intro σ202 w203 hw204 q205 q206 q207
                        obtain ⟨fr208, e209⟩ := q205
                        obtain ⟨m210, m211, m212, m213, m214, m215, m216, m217, m218, _⟩ := q207
                        have z219 : (σ202 4) = .string (bs ((((a0.take (Int.toNat (a0.length : Int))).drop (Int.toNat 2)).take (Int.toNat t14.1)).drop (Int.toNat 0))) := m216
                        have z220 : (σ202 5) = .string (bs ((((a0.take (Int.toNat (a0.length : Int))).drop (Int.toNat 2)).take (Int.toNat (((a0.take (Int.toNat (a0.length : Int))).drop (Int.toNat 2)).length : Int))).drop (Int.toNat t14.1))) := m217
                        have z221 : (σ202 6) = Dy.val Dy.nil := m218
                        refine qn ?_
                        refine wc_ret ?_
                        have h := Option.some.inj h
                        subst h
                        refine end3 rfl (.tmp z219 (.tmp z220 (.tmp z221 .nil))) ?_
                        exact ⟨_, rfl, fr208⟩
                    · replace h := (if_neg c45).symm.trans h
                      cases h
                  · replace h := (if_neg c44).symm.trans h
                    cases h
                · replace h := (if_neg c43).symm.trans h
                  cases h
              · replace h := (if_neg c42).symm.trans h
                cases h
        · replace h := (if_neg c21).symm.trans h
          cases h
      · replace h := (if_neg c13).symm.trans h
        cases h
    · replace h := (if_neg c12).symm.trans h
      cases h
/-! ### consignor/octet.Loose: function 17 -/
def octet_Loose.l0 : Nat → List UInt8 → (List (List UInt8)) → Option ((List (List UInt8)) × Int)
  | 0, _, _ => none
  | k + 1, x1, l3 => if (x1 == []) = true then (some (l3, 0)) else ((octet_take.f k x1 (IntKind.i64.wrap ((l3.length : Int) + 1))).bind fun t19 => (if (Dy.isNil t19.2.2) = true then (if (l3.length + ([t19.1]).length) * 16 ≤ 140737488355328 then (octet_Loose.l0 k t19.2.1 (l3 ++ ([t19.1]))) else none) else ((octet_number.f k t19.2.2).bind fun t49 => (some ([], t49)))))
def octet_Loose.f (k : Nat) (a0 : (List UInt8)) : Option ((List (List UInt8)) × Int) := octet_Loose.l0 k a0 []
set_option maxHeartbeats 1000000 in
theorem octet_Loose.ok (k : Nat) {w0 : World} {hw0 : Hw} (wf : Hwf w0 hw0) (a0 : (List UInt8)) (gl : Gl w0 hw0) (r : ((List (List UInt8)) × Int)) (h : octet_Loose.f k a0 = some r) :
    Calls Tryd.prog 17 #[.string (bs a0)] w0 fun e w' => ∃ (v0 : Value) (hw' : Hw), e = .returned (.tuple #[v0, .int .i64 r.2]) ∧ Stp none w0 hw0 w' hw' ∧ Own Kstr 9 w0.heap.size w' hw' v0 r.1 := by
  have fr0 := Stp.refl none (w := w0) (hw := hw0) wf
  unfold octet_Loose.f at h
  refine enter (n := 29) Tryd.func17 rfl rfl (Nat.le_of_ble_eq_true rfl) ?_
  refine wc_seq ?_
  refine wc_region ?_
  refine wl_assign (.slice none 0 0) rfl ?_
  refine wl_assign (.int .i64 0) rfl ?_
  refine wl_nil ?_
  refine qn ?_
  refine wc_seq ?_
  refine wc_region ?_
  refine wl_assign (.slice none 0 0) rfl ?_
  refine wl_nil ?_
  refine qn ?_
  refine wc_seq ?_
  refine wc_block ?_
  refine wc_loop (fun m a w => ∃ (σ : Nat → Value) (hw : Hw) (kq : Nat) (x1 : List UInt8) (v2 : Value) (l3 : (List (List UInt8))), a = mkA 29 σ ∧ kq ≤ m ∧ kq ≤ k ∧ Stp none w0 hw0 w hw ∧ Ext w0 hw0 w hw ∧ σ 0 = .string (bs x1) ∧ σ 4 = v2 ∧ Own Kstr 9 w0.heap.size w hw v2 l3 ∧ octet_Loose.l0 kq x1 l3 = some r) k ?_ ?_ ?_
  · skip
    exact ⟨_, _, _, a0, (.slice none 0 0), [], rfl, (Nat.le_refl _), (Nat.le_refl _), fr0, (Ext.refl _ _), rfl, rfl, (Own.nil _ _ _ _ _), h⟩
  · rintro _ _ ⟨_, hw5, k6, x1, v2, l3, rfl, hk9, hk10, fr7, e8, z11, z12, r13, h⟩; obtain rfl := Nat.le_zero.1 hk9; rw [octet_Loose.l0] at h; cases h
  · rintro m0 _ w4 ⟨_, hw5, k6, x1, v2, l3, rfl, hk9, hk10, fr7, e8, z11, z12, r13, h⟩
    rcases k6 with _ | k6
    · rw [octet_Loose.l0] at h; cases h
    rw [octet_Loose.l0] at h
    refine wc_seq ?_
    refine wc_seq ?_
    refine wc_region ?_
    refine wl_move (.string (bs x1)) z11 ?_
    refine wl_neqs rfl rfl ?_
    refine wl_nil ?_
    refine qn ?_
    by_cases c14 : (x1 == []) = true
    · replace h := (if_pos c14).symm.trans h
      refine wc_else rfl (by rw [c14] <;> rfl) ?_
      refine wc_exit ?_
      refine qe ?_
      refine qe ?_
      refine be ?_
      refine qn ?_
      refine wc_seq ?_
      refine wc_region ?_
      refine wl_move (v2) z12 ?_
      refine wl_assign (v2) rfl ?_
      refine wl_assign (.int .i64 0) rfl ?_
      refine wl_nil ?_
      refine qn ?_
      refine wc_ret ?_
      have h := Option.some.inj h
      subst h
      refine end2 rfl (.tmp rfl (.tmp rfl .nil)) ?_
      exact ⟨v2, _, rfl, fr7, r13⟩
    · replace h := (if_neg c14).symm.trans h
      have b15 : (x1 == []) = false := Bool.eq_false_iff.2 c14
      refine wc_then rfl (by rw [b15] <;> rfl) ?_
      refine wc_skip ?_
      refine qn ?_
      refine wc_block ?_
      refine wc_seq ?_
      refine wc_region ?_
      refine wl_move (.string (bs x1)) z11 ?_
      refine wl_move (v2) z12 ?_
      obtain ⟨A16, c17, hv18⟩ := (r13.row).slice
      refine wl_len Tryd.underlying44 (show _ = Value.slice _ l3.length _ from (Eq.trans rfl hv18)) ?_
      refine wl_add rfl rfl ?_
      obtain ⟨t19, h20, h⟩ := Option.bind_eq_some_iff.1 h
      refine wl_call [.string (bs x1), .int .i64 (IntKind.i64.wrap ((l3.length : Int) + 1))] bod25 (mc rfl (mc rfl (mn _))) (octet_take.ok k6 fr7.wf x1 (IntKind.i64.wrap ((l3.length : Int) + 1)) _ h20) ?_
      rintro e21 w22 ⟨hw23, rfl, s24⟩
      refine ⟨_, rfl, ?_⟩
      have fr25 := fr7.then0 s24
      refine wl_move (.tuple #[.string (bs t19.1), .string (bs t19.2.1), Dy.val t19.2.2]) rfl ?_
      refine wl_extract (vs := [.string (bs t19.1), .string (bs t19.2.1), Dy.val t19.2.2]) (.string (bs t19.1)) rfl rfl ?_
      refine wl_extract (vs := [.string (bs t19.1), .string (bs t19.2.1), Dy.val t19.2.2]) (.string (bs t19.2.1)) rfl rfl ?_
      refine wl_extract (vs := [.string (bs t19.1), .string (bs t19.2.1), Dy.val t19.2.2]) (Dy.val t19.2.2) rfl rfl ?_
      refine wl_assign (.string (bs t19.1)) rfl ?_
      refine wl_assign (.string (bs t19.2.1)) rfl ?_
      refine wl_assign (Dy.val t19.2.2) rfl ?_
      refine wl_nil ?_
      refine qn ?_
      refine wc_seq ?_
      refine wc_seq ?_
      refine wc_region ?_
      refine wl_move (Dy.val t19.2.2) rfl ?_
      refine wl_neqi ifc59 rfl ?_
      refine wl_nil ?_
      refine qn ?_
      by_cases c26 : (Dy.isNil t19.2.2) = true
      · replace h := (if_pos c26).symm.trans h
        refine wc_else rfl (by rw [c26] <;> rfl) ?_
        refine wc_skip ?_
        refine qn ?_
        refine wc_region ?_
        refine wl_move (v2) z12 ?_
        refine wl_move (.string (bs t19.1)) rfl ?_
        have hb27 : ∀ w : World, (Instr.buildSlice 44 1 #[(0, .string (bs t19.1))]).run Tryd.prog w = .ok (.slice (some ⟨w.heap.size, 0, none⟩) 1 1) (w.alloc (.cells (List.toArray [.string (bs t19.1)]) 9)) := fun _ => by kernel_rfl
        refine wl_lit (KD := Kstr) fr25.wf [.string (bs t19.1)] [t19.1] (pc rfl (pn _ _)) (hb27 _) rfl (by decide) ⟨[.string (bs t19.1)], _, rfl, rfl, rfl⟩ ?_
        intro v28 w29 hw30 O32 s31
        have O34 := (r13.step0 s24)
        have n33 := own_dis_new O32 O34
        replace O32 := O32.low fr25.g.size
        have fr35 := fr25.then0 s31
        by_cases c36 : (l3.length + ([t19.1]).length) * 16 ≤ 140737488355328
        · replace h := (if_pos c36).symm.trans h
          have c37 : l3.length + ([t19.1]).length ≤ 9223372036854775807 := by omega
          have O38 := (O34.step0 s31)
          refine wl_app Tryd.underlying44 ty9 rfl (by decide) fr35.wf O38 O32.row rfl rfl c37 c36 fr35.g.size ?_
          intro v39 w40 hw41 O43 s42 lo44
          have n45 := app_dis lo44 n33.symm O32
          have fr46 := fr35.then s42 (fun _ e => (O38.new _ e).1)
          refine wl_move (.string (bs t19.2.1)) rfl ?_
          refine wl_assign (v39) rfl ?_
          refine wl_assign (.string (bs t19.2.1)) rfl ?_
          refine wl_nil ?_
          refine bn ?_
          refine qn ?_
          exact ⟨_, _, _, t19.2.1, v39, (l3 ++ ([t19.1])), rfl, (by omega), (by omega), fr46, (Ext.trans e8 (Ext.trans s24.ext (Ext.trans s31.ext s42.ext))), rfl, rfl, O43, h⟩
        · replace h := (if_neg c36).symm.trans h
          cases h
      · replace h := (if_neg c26).symm.trans h
        have b47 : (Dy.isNil t19.2.2) = false := Bool.eq_false_iff.2 c26
        refine wc_then rfl (by rw [b47] <;> rfl) ?_
        refine wc_seq ?_
        refine wc_region ?_
        refine wl_move (Dy.val t19.2.2) rfl ?_
        have f48 := gl.ext (e8.trans (s24.ext))
        obtain ⟨t49, h50, h⟩ := Option.bind_eq_some_iff.1 h
        refine wl_call [Dy.val t19.2.2] bod26 (mc rfl (mn _)) (octet_number.ok k6 fr25.wf t19.2.2 f48 _ h50) ?_
        rintro e51 w52 ⟨hw53, rfl, s54⟩
        refine ⟨_, rfl, ?_⟩
        have fr55 := fr25.then0 s54
        refine wl_assign (.slice none 0 0) rfl ?_
        refine wl_assign (.int .i64 t49) rfl ?_
        refine wl_nil ?_
        refine qn ?_
        refine wc_ret ?_
        refine qr ?_
        refine bret ?_
        refine qr ?_
        refine bret ?_
        refine qr ?_
        have h := Option.some.inj h
        subst h
        refine end2 rfl (.tmp rfl (.tmp rfl .nil)) ?_
        exact ⟨(.slice none 0 0), _, rfl, fr55, (Own.nil _ _ _ _ _)⟩
/-! ### (consignor/courier.parts).whole: function 18 -/
def courier_parts_whole.f (k : Nat) (a0 : (List (List UInt8))) (a1 : Int) : Option Int := if 0 ≤ a1 then ((a0[Int.toNat a1]?).bind fun t2 => ((octet_Whole.f k t2).bind fun t10 => (if ((t10.2 != 0) || (decide (1099511627776 < t10.1))) = true then (some 0) else (some (IntKind.i64.wrap t10.1))))) else none
set_option maxHeartbeats 1000000 in
theorem courier_parts_whole.ok (k : Nat) {w0 : World} {hw0 : Hw} (wf : Hwf w0 hw0) (a0 : (List (List UInt8))) (a1 : Int) (v0_ : Value) (q0 : Row Kstr w0 hw0 v0_ a0) (r : Int) (h : courier_parts_whole.f k a0 a1 = some r) :
    Calls Tryd.prog 18 #[v0_, .int .i64 a1] w0 fun e w' => ∃ (hw' : Hw), e = .returned (.int .i64 r) ∧ Stp none w0 hw0 w' hw' := by
  have fr0 := Stp.refl none (w := w0) (hw := hw0) wf
  unfold courier_parts_whole.f at h
  refine enter (n := 23) Tryd.func18 rfl rfl (Nat.le_of_ble_eq_true rfl) ?_
  refine wc_seq ?_
  refine wc_region ?_
  refine wl_assign (.int .i64 0) rfl ?_
  refine wl_nil ?_
  refine qn ?_
  refine wc_seq ?_
  refine wc_region ?_
  refine wl_move (v0_) rfl ?_
  refine wl_move (.int .i64 a1) rfl ?_
  by_cases c1 : 0 ≤ a1
  · replace h := (if_pos c1).symm.trans h
    obtain ⟨t2, h3, h⟩ := Option.bind_eq_some_iff.1 h
    have c4 := at_lt c1 h3
    refine wl_at Tryd.underlying48 ty9 q0 rfl rfl c1 c4 t2 h3 ?_
    rintro B5 o6 cs7 rfl l9
    refine wl_load1 ty9 rfl (.string (bs t2)) (l9.2 0 _ rfl) ?_
    obtain ⟨t10, h11, h⟩ := Option.bind_eq_some_iff.1 h
    refine wl_call [.string (bs t2)] bod27 (mc rfl (mn _)) (octet_Whole.ok k fr0.wf t2 _ h11) ?_
    rintro e12 w13 ⟨hw14, rfl, s15⟩
    refine ⟨_, rfl, ?_⟩
    have fr16 := fr0.then0 s15
    refine wl_move (.tuple #[.int .u64 t10.1, .int .i64 t10.2]) rfl ?_
    refine wl_extract (vs := [.int .u64 t10.1, .int .i64 t10.2]) (.int .u64 t10.1) rfl rfl ?_
    refine wl_extract (vs := [.int .u64 t10.1, .int .i64 t10.2]) (.int .i64 t10.2) rfl rfl ?_
    refine wl_assign (.int .u64 t10.1) rfl ?_
    refine wl_assign (.int .i64 t10.2) rfl ?_
    refine wl_nil ?_
    refine qn ?_
    refine wc_seq ?_
    refine wc_seq ?_
    refine wc_region ?_
    refine wl_move (.int .i64 t10.2) rfl ?_
    refine wl_neq rfl rfl ?_
    refine wl_move (.bool (t10.2 != 0)) rfl ?_
    refine wl_join 3 [18, 19, 20] 20 (.bool ((t10.2 != 0) || (decide (1099511627776 < t10.1)))) ?_ ?_
    · rcases Bool.eq_false_or_eq_true (t10.2 != 0) with hcc | hcc
      · skip
        refine wl_off (yl rfl rfl rfl) hcc ?_
        refine wl_off (yl rfl rfl rfl) hcc ?_
        refine wl_pick_t (t10.2 != 0) (.bool true) rfl hcc rfl ?_
        refine wl_nil ?_
        exact qn ⟨rfl, _, rfl, (by repeat (first | exact Same.refl _ _ | refine Same.upd ?_ rfl)), (by rw [hcc]; rfl)⟩
      · skip
        refine wl_on (yl rfl rfl rfl) hcc ?_
        refine wl_move (.int .u64 t10.1) rfl ?_
        refine wl_on (yl rfl rfl rfl) hcc ?_
        refine wl_gtr rfl rfl ?_
        refine wl_pick_f (t10.2 != 0) (.bool (decide (1099511627776 < t10.1))) rfl hcc rfl ?_
        refine wl_nil ?_
        exact qn ⟨rfl, _, rfl, (by repeat (first | exact Same.refl _ _ | refine Same.upd ?_ rfl)), (by rw [hcc]; rfl)⟩
    intro _ ho17 hv18
    refine wl_nil ?_
    refine qn ?_
    by_cases c19 : ((t10.2 != 0) || (decide (1099511627776 < t10.1))) = true
    · replace h := (if_pos c19).symm.trans h
      refine wc_then hv18 c19 ?_
      refine wc_seq ?_
      refine wc_region ?_
      refine wl_assign (.int .i64 0) rfl ?_
      refine wl_nil ?_
      refine qn ?_
      refine wc_ret ?_
      refine qr ?_
      have h := Option.some.inj h
      subst h
      refine end1 rfl (.tmp rfl .nil) ?_
      exact ⟨_, rfl, fr16⟩
    · replace h := (if_neg c19).symm.trans h
      have b20 : ((t10.2 != 0) || (decide (1099511627776 < t10.1))) = false := Bool.eq_false_iff.2 c19
      refine wc_else hv18 b20 ?_
      refine wc_skip ?_
      refine qn ?_
      refine wc_seq ?_
      refine wc_region ?_
      refine wl_move (.int .u64 t10.1) ((ho17 5 rfl).trans rfl) ?_
      refine wl_conv_int Tryd.underlying57 Tryd.underlying3 rfl ?_
      refine wl_assign (.int .i64 (IntKind.i64.wrap t10.1)) rfl ?_
      refine wl_nil ?_
      refine qn ?_
      refine wc_ret ?_
      have h := Option.some.inj h
      subst h
      refine end1 rfl (.tmp rfl .nil) ?_
      exact ⟨_, rfl, fr16⟩
  · replace h := (if_neg c1).symm.trans h
    cases h
end Go.Proofs.YtkfopceebbebjaaDoor
