/- What the program's functions compute, and that they compute it: one contract a function, written by gw.py (own work). -/
import Derived.Test.YtlaifpbickdpkaaDoorLib
namespace Go.Proofs.YtlaifpbickdpkaaDoor
open Go.RowKit
set_option linter.unusedVariables false
set_option linter.unusedSimpArgs false

structure ApiDeed where
  Kind : Int
  Nums : (List Int)
  Texts : (List (List UInt8))
def KApiDeed : Kind ApiDeed where
  sz := 3
  R := fun w hw x cs => ∃ v1 v2, cs = [.int .i64 x.Kind, v1, v2] ∧ Row (Kint .i64) w hw v1 x.Nums ∧ Row Kstr w hw v2 x.Texts
  len := by rintro w hw x cs ⟨v1, v2, rfl, h1, h2⟩; rfl
  one := by
    rintro w hw x cs ⟨v1, v2, rfl, h1, h2⟩ u hu
    obtain ⟨A1, c1, e1⟩ := h1.slice
    obtain ⟨A2, c2, e2⟩ := h2.slice
    simp only [List.mem_cons, List.not_mem_nil, or_false] at hu
    rcases hu with rfl | rfl | rfl <;> first | rfl | exact Dy.one _ | (simp only [e1, e2]; rfl)
  ext := by
    rintro w hw w' hw' x cs e ⟨v1, v2, rfl, h1, h2⟩
    exact ⟨v1, v2, rfl, h1.ext e, h2.ext e⟩
structure ApiPlan where
  Quota : Int
  Sectors : Int
  Deeds : (List ApiDeed)
def KApiPlan : Kind ApiPlan where
  sz := 3
  R := fun w hw x cs => ∃ v2, cs = [.int .i64 x.Quota, .int .i64 x.Sectors, v2] ∧ Row KApiDeed w hw v2 x.Deeds
  len := by rintro w hw x cs ⟨v2, rfl, h2⟩; rfl
  one := by
    rintro w hw x cs ⟨v2, rfl, h2⟩ u hu
    obtain ⟨A2, c2, e2⟩ := h2.slice
    simp only [List.mem_cons, List.not_mem_nil, or_false] at hu
    rcases hu with rfl | rfl | rfl <;> first | rfl | exact Dy.one _ | (simp only [e2]; rfl)
  ext := by
    rintro w hw w' hw' x cs e ⟨v2, rfl, h2⟩
    exact ⟨v2, rfl, h2.ext e⟩
structure ApiObject where
  Digest : (List UInt8)
  Data : (List UInt8)
def KApiObject : Kind ApiObject where
  sz := 2
  R := fun _ _ x cs => cs = [.string (bs x.Digest), .string (bs x.Data)]
  len := by rintro w hw x cs rfl; rfl
  one := by
    rintro w hw x cs rfl u hu
    simp only [List.mem_cons, List.not_mem_nil, or_false] at hu
    rcases hu with rfl | rfl <;> first | rfl | exact Dy.one _
  ext := fun _ h => h
structure ApiUpload where
  Id : Int
  Data : (List UInt8)
def KApiUpload : Kind ApiUpload where
  sz := 2
  R := fun _ _ x cs => cs = [.int .i64 x.Id, .string (bs x.Data)]
  len := by rintro w hw x cs rfl; rfl
  one := by
    rintro w hw x cs rfl u hu
    simp only [List.mem_cons, List.not_mem_nil, or_false] at hu
    rcases hu with rfl | rfl <;> first | rfl | exact Dy.one _
  ext := fun _ h => h
structure ApiBlobs where
  Objects : (List ApiObject)
  Quota : Int
  Uploads : (List ApiUpload)
  Last : Int
def KApiBlobs : Kind ApiBlobs where
  sz := 4
  R := fun w hw x cs => ∃ v0 v2, cs = [v0, .int .i64 x.Quota, v2, .int .i64 x.Last] ∧ Row KApiObject w hw v0 x.Objects ∧ Row KApiUpload w hw v2 x.Uploads
  len := by rintro w hw x cs ⟨v0, v2, rfl, h0, h2⟩; rfl
  one := by
    rintro w hw x cs ⟨v0, v2, rfl, h0, h2⟩ u hu
    obtain ⟨A0, c0, e0⟩ := h0.slice
    obtain ⟨A2, c2, e2⟩ := h2.slice
    simp only [List.mem_cons, List.not_mem_nil, or_false] at hu
    rcases hu with rfl | rfl | rfl | rfl <;> first | rfl | exact Dy.one _ | (simp only [e0, e2]; rfl)
  ext := by
    rintro w hw w' hw' x cs e ⟨v0, v2, rfl, h0, h2⟩
    exact ⟨v0, v2, rfl, h0.ext e, h2.ext e⟩
structure ApiWrite where
  At : Int
  Data : (List UInt8)
def KApiWrite : Kind ApiWrite where
  sz := 2
  R := fun _ _ x cs => cs = [.int .i64 x.At, .string (bs x.Data)]
  len := by rintro w hw x cs rfl; rfl
  one := by
    rintro w hw x cs rfl u hu
    simp only [List.mem_cons, List.not_mem_nil, or_false] at hu
    rcases hu with rfl | rfl <;> first | rfl | exact Dy.one _
  ext := fun _ h => h
structure ApiDisk where
  Sectors : (List (List UInt8))
  Dirty : (List ApiWrite)
def KApiDisk : Kind ApiDisk where
  sz := 2
  R := fun w hw x cs => ∃ v0 v1, cs = [v0, v1] ∧ Row Kstr w hw v0 x.Sectors ∧ Row KApiWrite w hw v1 x.Dirty
  len := by rintro w hw x cs ⟨v0, v1, rfl, h0, h1⟩; rfl
  one := by
    rintro w hw x cs ⟨v0, v1, rfl, h0, h1⟩ u hu
    obtain ⟨A0, c0, e0⟩ := h0.slice
    obtain ⟨A1, c1, e1⟩ := h1.slice
    simp only [List.mem_cons, List.not_mem_nil, or_false] at hu
    rcases hu with rfl | rfl <;> first | rfl | exact Dy.one _ | (simp only [e0, e1]; rfl)
  ext := by
    rintro w hw w' hw' x cs e ⟨v0, v1, rfl, h0, h1⟩
    exact ⟨v0, v1, rfl, h0.ext e, h1.ext e⟩
structure ApiLedger where
  Disk : ApiDisk
  Half : Int
  Gen : Int
  Used : Int
  Entries : (List (List UInt8))
def KApiLedger : Kind ApiLedger where
  sz := 6
  R := fun w hw x cs => ∃ v0 v1 v5, cs = [v0, v1, .int .i64 x.Half, .int .i64 x.Gen, .int .i64 x.Used, v5] ∧ Row Kstr w hw v0 x.Disk.Sectors ∧ Row KApiWrite w hw v1 x.Disk.Dirty ∧ Row Kstr w hw v5 x.Entries
  len := by rintro w hw x cs ⟨v0, v1, v5, rfl, h0, h1, h5⟩; rfl
  one := by
    rintro w hw x cs ⟨v0, v1, v5, rfl, h0, h1, h5⟩ u hu
    obtain ⟨A0, c0, e0⟩ := h0.slice
    obtain ⟨A1, c1, e1⟩ := h1.slice
    obtain ⟨A5, c5, e5⟩ := h5.slice
    simp only [List.mem_cons, List.not_mem_nil, or_false] at hu
    rcases hu with rfl | rfl | rfl | rfl | rfl | rfl <;> first | rfl | exact Dy.one _ | (simp only [e0, e1, e5]; rfl)
  ext := by
    rintro w hw w' hw' x cs e ⟨v0, v1, v5, rfl, h0, h1, h5⟩
    exact ⟨v0, v1, v5, rfl, h0.ext e, h1.ext e, h5.ext e⟩
/-! ### strings.Builder -/
theorem bty101 : Ty Tryd.prog 101 2 32 true (.agg #[.pointer none, .slice none 0 0]) := ⟨by kernel_rfl, by kernel_rfl⟩
theorem bty98 : Ty Tryd.prog 98 1 24 false (.slice none 0 0) := ⟨by kernel_rfl, by kernel_rfl⟩
theorem bty5 : Ty Tryd.prog 5 1 1 false (.int .u8 0) := ⟨by kernel_rfl, by kernel_rfl⟩
theorem blies : liesAt Tryd.prog Tryd.prog.depth 101 (2 / Tryd.prog.cellsOf 101) 0 101 1 = true := by kernel_rfl
theorem bfld1 : Fld Tryd.prog 101 1 1 := fun _ _ _ => by kernel_rfl
theorem bbod42 : Bod Tryd.prog 42 := fun _ _ => by kernel_rfl

set_option maxHeartbeats 1000000 in
set_option maxRecDepth 100000 in
theorem bld_cc_used (b : Nat) (w : World) (h0 : w.cell? ⟨b, 0, none⟩ = some (.pointer (some ⟨b, 0, none⟩))) :
    Calls Tryd.prog 42 #[.pointer (some ⟨b, 0, none⟩)] w fun e w' => e = .returned (.tuple #[]) ∧ w' = w := by
  obtain ⟨j, hj, _⟩ := bty101.info
  go_enter Tryd.func42, Tryd.ntmps42
  go_wp2
  rw [Lib.run_neq_ptr_same w _ Tryd.underlying99 hj]
  go_wp2
  go_end0
  exact ⟨rfl, rfl⟩
set_option maxHeartbeats 1000000 in
set_option maxRecDepth 100000 in
theorem bld_cc_fresh (b : Nat) (w : World) (h0 : w.cell? ⟨b, 0, none⟩ = some (.pointer none)) (hsh : w.shape? b = some (101, 2)) (hfz : w.frozen? ⟨b, 0, none⟩ = false) :
    Calls Tryd.prog 42 #[.pointer (some ⟨b, 0, none⟩)] w fun e w' => e = .returned (.tuple #[]) ∧ w' = w.setCell ⟨b, 0, none⟩ (.pointer (some ⟨b, 0, none⟩)) := by
  obtain ⟨j, hj, _, hjs, _⟩ := bty101.info
  go_enter Tryd.func42, Tryd.ntmps42
  go_wp2
  rw [Lib.run_to_unsafe w ⟨b, 0, none⟩ Tryd.underlying99 Tryd.underlying124 hj (by rw [hjs]; decide) hsh (Nat.zero_lt_succ 1)]
  simp only [Result.andThen]
  rw [Oper.upon_value]
  go_wp2
  rw [run_callFunc_extern Tryd.func53 (by kernel_rfl) (by kernel_rfl) (by kernel_rfl) (e := Extern.AbiNoEscape.same) (by kernel_rfl)]
  rw [Lib.run_noEscape]
  simp only [Result.andThen]
  rw [Oper.upon_value]
  go_wp2
  rw [Lib.run_from_unsafe w ⟨b, 0, none⟩ Tryd.underlying124 Tryd.underlying99 hj hsh blies]
  simp only [Result.andThen]
  rw [Oper.upon_value]
  go_wp2
  go_end0
  exact ⟨rfl, rfl⟩
/-- What every writer calls first. -/
theorem bld_copyCheck {N0 b : Nat} {w : World} {hw : Hw} {xs : List UInt8} (wf : Hwf w hw) (h : Bld 101 5 N0 w hw b xs) :
    Calls Tryd.prog 42 #[.pointer (some ⟨b, 0, none⟩)] w fun e w' => e = .returned (.tuple #[]) ∧ Stp (some b) w hw w' hw ∧ ∃ v, Box N0 w' hw b 101 [.pointer (some ⟨b, 0, none⟩), v] ∧ Own K8 5 N0 w' hw v xs := by
  obtain ⟨p, v, B, hp, O⟩ := h
  have hno := B.ne_own O (by decide)
  rcases hp with rfl | rfl
  · refine (bld_cc_fresh b w (by rw [B.cell]; rfl) (by simp [World.shape?, B.heap]) (Lib.frozen_of_heap B.heap 0)).mono ?_
    rintro e w' ⟨rfl, rfl⟩
    rw [setCell_row B 0 (.pointer (some ⟨b, 0, none⟩))]
    obtain ⟨k1, k2⟩ := B.put (l := []) wf [.pointer (some ⟨b, 0, none⟩), v]
    exact ⟨rfl, k2, v, k1, O.step k2 (.inr hno)⟩
  · refine (bld_cc_used b w (by rw [B.cell]; rfl)).mono ?_
    rintro e w' ⟨rfl, rfl⟩
    exact ⟨rfl, Stp.mk_same ⟨rfl, rfl, rfl, Nat.le_refl _, fun _ _ _ => rfl⟩ wf (fun c hc => by cases hc; exact B.z), v, B, O⟩

set_option maxHeartbeats 1000000 in
theorem bld_WriteString {N0 b : Nat} {w : World} {hw : Hw} {xs l : List UInt8} (wf : Hwf w hw) (h : Bld 101 5 N0 w hw b xs) (hN : N0 ≤ w.heap.size) (hl : xs.length + l.length ≤ 140737488355328) :
    Calls Tryd.prog 74 #[.pointer (some ⟨b, 0, none⟩), .string (bs l)] w fun e w' => ∃ hw', e = .returned (.tuple #[.int .i64 (l.length : Int), .nilIface]) ∧ StpS (BF N0 w b 5) w hw w' hw' ∧ Bld 101 5 N0 w' hw' b (xs ++ l) := by
  refine enter (n := 19) Tryd.func74 rfl rfl (Nat.le_of_ble_eq_true rfl) ?_
  refine wc_seq ?_
  refine wc_region ?_
  refine wl_assign (.int .i64 0) rfl ?_
  refine wl_assign .nilIface rfl ?_
  refine wl_nil ?_
  refine qn ?_
  refine wc_seq ?_
  refine wc_region ?_
  refine wl_move (.pointer (some ⟨b, 0, none⟩)) rfl ?_
  refine wl_call [.pointer (some ⟨b, 0, none⟩)] bbod42 (mc rfl (mn _)) (bld_copyCheck wf h) ?_
  rintro e1 w1 ⟨rfl, s1, v, B1, O1⟩
  refine ⟨_, rfl, ?_⟩
  refine wl_nil ?_
  refine qn ?_
  refine wc_seq ?_
  refine wc_region ?_
  refine wl_move (.pointer (some ⟨b, 0, none⟩)) rfl ?_
  refine wl_move (.pointer (some ⟨b, 0, none⟩)) rfl ?_
  refine wl_nilchk rfl ?_
  refine wl_field bfld1 rfl ?_
  refine wl_loadb1 B1 bty98 rfl v rfl ?_
  refine wl_move (.string (bs l)) rfl ?_
  have hN1 : N0 ≤ w1.heap.size := Nat.le_trans hN s1.g.size
  have hno := B1.ne_own O1 (by decide)
  refine wl_apps Tryd.underlying98 Tryd.underlying9 bty5 s1.wf O1 rfl rfl hl hN1 ?_
  intro v' w2 hw2 O2 s2 hloc
  have B2 := B1.step s2 (fun e => hno e.symm)
  refine wl_nilchk rfl ?_
  refine wl_field bfld1 rfl ?_
  refine wl_store B2 s2.wf bty98 rfl [v'] (cells_of (v := v') rfl (row_cells O2.row)) rfl (Nat.le_of_ble_eq_true rfl) (one_all [v'] (by simp only [List.all_cons, List.all_nil, Bool.and_true, row_one O2.row])) [.pointer (some ⟨b, 0, none⟩), v'] rfl ?_
  intro w3 s3 B3
  have hno2 := app_ne hloc hno B1
  have O3 := O2.step s3 (.inr hno2)
  refine wl_nil ?_
  refine qn ?_
  refine wc_seq ?_
  refine wc_region ?_
  refine wl_move (.string (bs l)) rfl ?_
  refine wl_lens Tryd.underlying9 rfl ?_
  refine wl_assign (.int .i64 (l.length : Int)) rfl ?_
  refine wl_assign .nilIface rfl ?_
  refine wl_nil ?_
  refine qn ?_
  refine wc_ret ?_
  refine end2 rfl (.tmp rfl (.tmp rfl .nil)) ?_
  exact ⟨_, rfl, bw_steps h.lt s1 O1 hno s2 s3 hN, _, v', B3, .inr rfl, O3⟩

theorem byte_val {c : Int} (h : i8ok c) : (Value.int .u8 c) = .int .u8 ((byteOf c).toNat : Int) := by
  obtain ⟨h0, h1⟩ := h
  have : ((byteOf c).toNat : Int) = c := by
    unfold byteOf
    have e : (UInt8.ofNat c.toNat).toNat = c.toNat % 256 := by simp
    rw [e]; omega
  rw [this]
set_option maxHeartbeats 1000000 in
theorem bld_WriteByte {N0 b : Nat} {w : World} {hw : Hw} {xs : List UInt8} {c : Int} (wf : Hwf w hw) (h : Bld 101 5 N0 w hw b xs) (hN : N0 ≤ w.heap.size) (hc : i8ok c) (hl : xs.length + 1 ≤ 140737488355328) :
    Calls Tryd.prog 32 #[.pointer (some ⟨b, 0, none⟩), .int .u8 c] w fun e w' => ∃ hw', e = .returned .nilIface ∧ StpS (BF N0 w b 5) w hw w' hw' ∧ Bld 101 5 N0 w' hw' b (xs ++ [byteOf c]) := by
  rw [byte_val hc]
  refine enter (n := 17) Tryd.func32 rfl rfl (Nat.le_of_ble_eq_true rfl) ?_
  refine wc_seq ?_
  refine wc_region ?_
  refine wl_assign .nilIface rfl ?_
  refine wl_nil ?_
  refine qn ?_
  refine wc_seq ?_
  refine wc_region ?_
  refine wl_move (.pointer (some ⟨b, 0, none⟩)) rfl ?_
  refine wl_call [.pointer (some ⟨b, 0, none⟩)] bbod42 (mc rfl (mn _)) (bld_copyCheck wf h) ?_
  rintro e1 w1 ⟨rfl, s1, v, B1, O1⟩
  refine ⟨_, rfl, ?_⟩
  refine wl_nil ?_
  refine qn ?_
  refine wc_seq ?_
  refine wc_region ?_
  refine wl_move (.pointer (some ⟨b, 0, none⟩)) rfl ?_
  refine wl_move (.pointer (some ⟨b, 0, none⟩)) rfl ?_
  refine wl_nilchk rfl ?_
  refine wl_field bfld1 rfl ?_
  refine wl_loadb1 B1 bty98 rfl v rfl ?_
  refine wl_move (.int .u8 ((byteOf c).toNat : Int)) rfl ?_
  have hN1 : N0 ≤ w1.heap.size := Nat.le_trans hN s1.g.size
  have hno := B1.ne_own O1 (by decide)
  have hb1 : ∀ w : World, (Instr.buildSlice 98 1 #[(0, .int .u8 ((byteOf c).toNat : Int))]).run Tryd.prog w = .ok (.slice (some ⟨w.heap.size, 0, none⟩) 1 1) (w.alloc (.cells (List.toArray [.int .u8 ((byteOf c).toNat : Int)]) 5)) := fun _ => by kernel_rfl
  refine wl_lit (KD := K8) s1.wf [.int .u8 ((byteOf c).toNat : Int)] [byteOf c] (pc rfl (pn _ _)) (hb1 _) rfl (by decide) ⟨[.int .u8 ((byteOf c).toNat : Int)], _, rfl, rfl, rfl⟩ ?_
  intro v2 w2 hw2 O2 s2
  have B2 := B1.step0 s2
  have O12 := O1.step0 s2
  refine wl_app (KD := K8) Tryd.underlying98 bty5 rfl (by decide) s2.wf O12 O2.row rfl rfl (by simp; omega) (by simp; omega) (Nat.le_trans hN1 s2.g.size) ?_
  intro v3 w3 hw3 O3 s3 hloc
  have B3 := B2.step s3 (fun e => hno e.symm)
  refine wl_nilchk rfl ?_
  refine wl_field bfld1 rfl ?_
  refine wl_store B3 s3.wf bty98 rfl [v3] (cells_of (v := v3) rfl (row_cells O3.row)) rfl (Nat.le_of_ble_eq_true rfl) (one_all [v3] (by simp only [List.all_cons, List.all_nil, Bool.and_true, row_one O3.row])) [.pointer (some ⟨b, 0, none⟩), v3] rfl ?_
  intro w4 s4 B4
  have hno2 := app_ne hloc hno B2
  have O4 := O3.step s4 (.inr hno2)
  refine wl_nil ?_
  refine qn ?_
  refine wc_seq ?_
  refine wc_region ?_
  refine wl_assign .nilIface rfl ?_
  refine wl_nil ?_
  refine qn ?_
  refine wc_ret ?_
  refine end1 rfl (.tmp rfl .nil) ?_
  exact ⟨_, rfl, bw_steps h.lt s1 O1 hno ((s2.weaken _).tr s3) s4 hN, _, v3, B4, .inr rfl, O4⟩

theorem bld_Len {N0 b : Nat} {w : World} {hw : Hw} {xs : List UInt8} (wf : Hwf w hw) (h : Bld 101 5 N0 w hw b xs) :
    Calls Tryd.prog 75 #[.pointer (some ⟨b, 0, none⟩)] w fun e w' => e = .returned (.int .i64 (xs.length : Int)) ∧ Stp none w hw w' hw := by
  obtain ⟨p, v, B, hp, O⟩ := h
  obtain ⟨A', c', hv⟩ := O.row.slice
  refine enter (n := 8) Tryd.func75 rfl rfl (Nat.le_of_ble_eq_true rfl) ?_
  refine wc_seq ?_
  refine wc_region ?_
  refine wl_assign (.int .i64 0) rfl ?_
  refine wl_nil ?_
  refine qn ?_
  refine wc_seq ?_
  refine wc_region ?_
  refine wl_move (.pointer (some ⟨b, 0, none⟩)) rfl ?_
  refine wl_nilchk rfl ?_
  refine wl_field bfld1 rfl ?_
  refine wl_loadb1 B bty98 rfl v rfl ?_
  refine wl_len Tryd.underlying98 (show _ = Value.slice _ xs.length _ from Eq.trans rfl hv) ?_
  refine wl_assign (.int .i64 (xs.length : Int)) rfl ?_
  refine wl_nil ?_
  refine qn ?_
  refine wc_ret ?_
  refine end1 rfl (.tmp rfl .nil) ?_
  exact ⟨rfl, Stp.mk_same ⟨rfl, rfl, rfl, Nat.le_refl _, fun _ _ _ => rfl⟩ wf (by simp)⟩

theorem bcells5 : Tryd.prog.cellsOf 5 = 1 := by kernel_rfl
set_option maxHeartbeats 2000000 in
set_option maxRecDepth 100000 in
theorem bld_str_some (b g cap : Nat) (p : Value) (l : List UInt8) (cur : Array Value) (w : World) (hl : l ≠ []) (hnc : l.length ≤ cap) (hcm : cap ≤ maxLen) (hcs : cur.size = cap)
    (hbk : w.heap[b]? = some (.cells #[p, .slice (some ⟨g, 0, none⟩) l.length cap] 101 (0, 0))) (hg : w.heap[g]? = some (.cells cur 5 (0, 0))) (hcell : ∀ j x, l[j]? = some x → w.cell? ((⟨g, 0, none⟩ : Addr).add j) = some (.int .u8 x.toNat)) :
    Calls Tryd.prog 33 #[.pointer (some ⟨b, 0, none⟩)] w fun e w' => e = .returned (.string ⟨l.toArray⟩) ∧ w' = w.drew.freeze ⟨g, 0, none⟩ l.length := by
  have hp : 0 < l.length := List.length_pos_iff.2 hl
  have c1 : w.drew.cell? ⟨b, 1, none⟩ = some (.slice (some ⟨g, 0, none⟩) l.length cap) := by
    have : w.drew.heap[b]? = some (.cells #[p, .slice (some ⟨g, 0, none⟩) l.length cap] 101 (0, 0)) := hbk
    rw [Lib.cell_of_heap this]; rfl
  have hSD : (Builtin.unsafeSliceData_ #[98] 117 #[.slice (some ⟨g, 0, none⟩) l.length cap]).run Tryd.prog w.drew = .ok (.pointer (some ⟨g, 0, none⟩)) w.drew :=
    Lib.run_unsafeSliceData_row _ _ _ _ _ _ (by omega)
  have hUS : (Builtin.unsafeString_ #[117, 3] 9 #[.pointer (some ⟨g, 0, none⟩), .int .i64 l.length]).run Tryd.prog w.drew = .ok (.string ⟨l.toArray⟩) (w.drew.freeze ⟨g, 0, none⟩ l.length) := by
    refine Lib.run_unsafeString_row w.drew 117 3 9 5 Tryd.underlying117 bcells5 g cur.size (by have hg' : w.drew.heap[g]? = some (.cells cur 5 (0, 0)) := hg; simp [World.shape?, hg']) l hl (by omega) (by unfold maxLen at hcm; omega) ?_
    intro j x hx
    exact hcell j x hx
  clear hcell hl hg
  go_enter Tryd.func33, Tryd.ntmps33
  go_wp2
  go_region
  all_goals (go_wp2; go_ret; exact ⟨rfl, rfl⟩)
set_option maxHeartbeats 2000000 in
set_option maxRecDepth 100000 in
theorem bld_str_nil (b : Nat) (p : Value) (w : World) (hbk : w.heap[b]? = some (.cells #[p, .slice none 0 0] 101 (0, 0))) :
    Calls Tryd.prog 33 #[.pointer (some ⟨b, 0, none⟩)] w fun e w' => e = .returned (.string ⟨#[]⟩) ∧ w' = w.drew := by
  have hUS : ∀ (W : World) (q : Option Addr), (Builtin.unsafeString_ #[117, 3] 9 #[.pointer q, .int .i64 0]).run Tryd.prog W = .ok (.string .empty) W := fun W q => Lib.run_unsafeString_none W _ _ _ q
  have c1 : w.drew.cell? ⟨b, 1, none⟩ = some (.slice none 0 0) := by
    have : w.drew.heap[b]? = some (.cells #[p, .slice none 0 0] 101 (0, 0)) := hbk
    rw [Lib.cell_of_heap this]; rfl
  have hSD : (Builtin.unsafeSliceData_ #[98] 117 #[.slice none 0 0]).run Tryd.prog w.drew = .ok (.pointer none) w.drew := rfl
  go_enter Tryd.func33, Tryd.ntmps33
  go_wp2
  go_region
  all_goals (go_wp2; go_ret; exact ⟨rfl, rfl⟩)
set_option maxHeartbeats 2000000 in
set_option maxRecDepth 100000 in
theorem bld_str_room (b g cap : Nat) (p : Value) (w : World) (hc0 : cap ≠ 0) (hbk : w.heap[b]? = some (.cells #[p, .slice (some ⟨g, 0, none⟩) 0 cap] 101 (0, 0))) :
    Calls Tryd.prog 33 #[.pointer (some ⟨b, 0, none⟩)] w fun e w' => e = .returned (.string ⟨#[]⟩) ∧ w' = w.drew := by
  have hUS : ∀ (W : World) (q : Option Addr), (Builtin.unsafeString_ #[117, 3] 9 #[.pointer q, .int .i64 0]).run Tryd.prog W = .ok (.string .empty) W := fun W q => Lib.run_unsafeString_none W _ _ _ q
  have c1 : w.drew.cell? ⟨b, 1, none⟩ = some (.slice (some ⟨g, 0, none⟩) 0 cap) := by
    have : w.drew.heap[b]? = some (.cells #[p, .slice (some ⟨g, 0, none⟩) 0 cap] 101 (0, 0)) := hbk
    rw [Lib.cell_of_heap this]; rfl
  have hSD : (Builtin.unsafeSliceData_ #[98] 117 #[.slice (some ⟨g, 0, none⟩) 0 cap]).run Tryd.prog w.drew = .ok (.pointer (some ⟨g, 0, none⟩)) w.drew :=
    Lib.run_unsafeSliceData_row _ _ _ _ _ _ hc0
  clear hc0
  go_enter Tryd.func33, Tryd.ntmps33
  go_wp2
  go_region
  all_goals (go_wp2; go_ret; exact ⟨rfl, rfl⟩)
set_option maxHeartbeats 2000000 in
set_option maxRecDepth 100000 in
theorem bld_str_noroom (b g : Nat) (p : Value) (cur : Array Value) (w : World) (hbk : w.heap[b]? = some (.cells #[p, .slice (some ⟨g, 0, none⟩) 0 0] 101 (0, 0))) (hg : w.heap[g]? = some (.cells cur 5 (0, 0))) :
    Calls Tryd.prog 33 #[.pointer (some ⟨b, 0, none⟩)] w fun e w' => e = .returned (.string ⟨#[]⟩) ∧ w' = w.drew.alloc (.view ⟨g, 0, none⟩ 5) := by
  have hUS : ∀ (W : World) (q : Option Addr), (Builtin.unsafeString_ #[117, 3] 9 #[.pointer q, .int .i64 0]).run Tryd.prog W = .ok (.string .empty) W := fun W q => Lib.run_unsafeString_none W _ _ _ q
  have hlt : b < w.heap.size := (Array.getElem?_eq_some_iff.1 hbk).1
  have c1 : w.drew.cell? ⟨b, 1, none⟩ = some (.slice (some ⟨g, 0, none⟩) 0 0) := by
    have : w.drew.heap[b]? = some (.cells #[p, .slice (some ⟨g, 0, none⟩) 0 0] 101 (0, 0)) := hbk
    rw [Lib.cell_of_heap this]; rfl
  have hSD : (Builtin.unsafeSliceData_ #[98] 117 #[.slice (some ⟨g, 0, none⟩) 0 0]).run Tryd.prog w.drew = .ok (.pointer (some ⟨w.drew.heap.size, 0, none⟩)) (w.drew.alloc (.view ⟨g, 0, none⟩ 5)) :=
    Lib.run_unsafeSliceData_zero w.drew _ _ 5 Tryd.underlying117 ⟨g, 0, none⟩ 0 (5, cur.size) (by have hg' : w.drew.heap[g]? = some (.cells cur 5 (0, 0)) := hg; simp [World.shape?, hg'])
  have c2 : (w.drew.alloc (.view ⟨g, 0, none⟩ 5)).cell? ⟨b, 1, none⟩ = some (.slice (some ⟨g, 0, none⟩) 0 0) := by
    have : (w.drew.alloc (.view ⟨g, 0, none⟩ 5)).heap[b]? = _ := (Lib.alloc_old w.drew _ b hlt).trans hbk
    rw [Lib.cell_of_heap this]; rfl
  have c3 : (w.alloc (.view ⟨g, 0, none⟩ 5)).drew.cell? ⟨b, 1, none⟩ = some (.slice (some ⟨g, 0, none⟩) 0 0) := c2
  have c0 : w.cell? ⟨b, 1, none⟩ = some (.slice (some ⟨g, 0, none⟩) 0 0) := c1
  clear hg hbk hlt
  go_enter Tryd.func33, Tryd.ntmps33
  go_wp2
  go_region
  all_goals (go_wp2; go_ret; exact ⟨rfl, rfl⟩)
/-- b.String(): behind it the builder is left alone. -/
theorem bld_String {N0 b : Nat} {w : World} {hw : Hw} {xs : List UInt8} (wf : Hwf w hw) (h : Bld 101 5 N0 w hw b xs) (hN : N0 ≤ w.heap.size) :
    Calls Tryd.prog 33 #[.pointer (some ⟨b, 0, none⟩)] w fun e w' => e = .returned (.string (bs xs)) ∧ StpS (BF N0 w b 5) w hw w' hw := by
  obtain ⟨p, v, B, hp, O⟩ := h
  obtain ⟨cs, ho, hr, hh⟩ := O
  have hcs := rowsC_scal hr
  rcases ho.2 with ⟨rfl, h0⟩ | ⟨g, cap, cur, rfl, k1, k2, k3, k4, k5, k6⟩
  · have hx : xs = [] := List.eq_nil_of_length_eq_zero h0
    subst hx
    refine (bld_str_nil b p w B.heap).mono ?_
    rintro e w' ⟨rfl, rfl⟩
    exact ⟨rfl, StpS.of (Stp.drew wf) (by simp)⟩
  · have k5' : cur.size = cap := by rw [k5]; show cap * 1 = _; omega
    by_cases hx : xs = []
    · subst hx
      by_cases hc : cap = 0
      · subst hc
        refine (bld_str_noroom b g p cur w B.heap k2).mono ?_
        rintro e w' ⟨rfl, rfl⟩
        have s1 := Stp.drew (w := w) wf
        exact ⟨rfl, StpS.of (s1.then0 (Stp.alloc s1.wf _)) (by simp)⟩
      · refine (bld_str_room b g cap p w hc B.heap).mono ?_
        rintro e w' ⟨rfl, rfl⟩
        exact ⟨rfl, StpS.of (Stp.drew wf) (by simp)⟩
    · refine (bld_str_some b g cap p xs cur w hx k3 k4 k5' B.heap k2 (fun j x hj => ho.cells (g := g) rfl j _ (by rw [hcs, List.getElem?_map, hj]; rfl))).mono ?_
      rintro e w' ⟨rfl, rfl⟩
      exact ⟨rfl, frz wf k2 k1⟩

theorem bod30 : Bod Tryd.prog 30 := fun _ _ => by kernel_rfl
theorem bod41 : Bod Tryd.prog 41 := fun _ _ => by kernel_rfl
theorem bod61 : Bod Tryd.prog 61 := fun _ _ => by kernel_rfl
theorem bod64 : Bod Tryd.prog 64 := fun _ _ => by kernel_rfl
theorem bod65 : Bod Tryd.prog 65 := fun _ _ => by kernel_rfl
theorem bod66 : Bod Tryd.prog 66 := fun _ _ => by kernel_rfl
theorem bod67 : Bod Tryd.prog 67 := fun _ _ => by kernel_rfl
theorem bod68 : Bod Tryd.prog 68 := fun _ _ => by kernel_rfl
theorem bod69 : Bod Tryd.prog 69 := fun _ _ => by kernel_rfl
theorem bod70 : Bod Tryd.prog 70 := fun _ _ => by kernel_rfl
theorem bod71 : Bod Tryd.prog 71 := fun _ _ => by kernel_rfl
theorem bod76 : Bod Tryd.prog 76 := fun _ _ => by kernel_rfl
theorem bod77 : Bod Tryd.prog 77 := fun _ _ => by kernel_rfl
theorem bod78 : Bod Tryd.prog 78 := fun _ _ => by kernel_rfl
theorem bod79 : Bod Tryd.prog 79 := fun _ _ => by kernel_rfl
theorem bod81 : Bod Tryd.prog 81 := fun _ _ => by kernel_rfl
theorem bod83 : Bod Tryd.prog 83 := fun _ _ => by kernel_rfl
theorem bod84 : Bod Tryd.prog 84 := fun _ _ => by kernel_rfl
theorem bod86 : Bod Tryd.prog 86 := fun _ _ => by kernel_rfl
theorem fld167_0 : Fld Tryd.prog 167 0 0 := fun _ _ _ => by kernel_rfl
theorem fld167_1 : Fld Tryd.prog 167 1 1 := fun _ _ _ => by kernel_rfl
theorem fld24_0 : Fld Tryd.prog 24 0 0 := fun _ _ _ => by kernel_rfl
theorem fld24_1 : Fld Tryd.prog 24 1 1 := fun _ _ _ => by kernel_rfl
theorem fld24_2 : Fld Tryd.prog 24 2 2 := fun _ _ _ => by kernel_rfl
theorem fld38_0 : Fld Tryd.prog 38 0 0 := fun _ _ _ => by kernel_rfl
theorem fld38_1 : Fld Tryd.prog 38 1 1 := fun _ _ _ => by kernel_rfl
theorem fld38_2 : Fld Tryd.prog 38 2 2 := fun _ _ _ => by kernel_rfl
theorem fld68_0 : Fld Tryd.prog 68 0 0 := fun _ _ _ => by kernel_rfl
theorem fld68_1 : Fld Tryd.prog 68 1 1 := fun _ _ _ => by kernel_rfl
theorem fld70_1 : Fld Tryd.prog 70 1 2 := fun _ _ _ => by kernel_rfl
theorem fld70_2 : Fld Tryd.prog 70 2 3 := fun _ _ _ => by kernel_rfl
theorem fld70_3 : Fld Tryd.prog 70 3 4 := fun _ _ _ => by kernel_rfl
theorem fld70_4 : Fld Tryd.prog 70 4 5 := fun _ _ _ => by kernel_rfl
theorem mixed : Tryd.prog.follows .mixedOrders = true := by kernel_rfl
theorem mki9 (v : Value) (w : World) : (Instr.makeInterface 9 v).run Tryd.prog w = .ok (.iface 9 v) w := by kernel_rfl
theorem ty167 : Ty Tryd.prog 167 2 24 true (.agg #[.int .i64 0, .string ⟨#[]⟩]) := ⟨by kernel_rfl, by kernel_rfl⟩
theorem ty22 : Ty Tryd.prog 22 1 24 false (.slice none 0 0) := ⟨by kernel_rfl, by kernel_rfl⟩
theorem ty24 : Ty Tryd.prog 24 3 40 true (.agg #[.int .i64 0, .int .i64 0, .slice none 0 0]) := ⟨by kernel_rfl, by kernel_rfl⟩
theorem ty3 : Ty Tryd.prog 3 1 8 false (.int .i64 0) := ⟨by kernel_rfl, by kernel_rfl⟩
theorem ty35 : Ty Tryd.prog 35 1 24 false (.slice none 0 0) := ⟨by kernel_rfl, by kernel_rfl⟩
theorem ty36 : Ty Tryd.prog 36 1 24 false (.slice none 0 0) := ⟨by kernel_rfl, by kernel_rfl⟩
theorem ty38 : Ty Tryd.prog 38 3 56 true (.agg #[.int .i64 0, .slice none 0 0, .slice none 0 0]) := ⟨by kernel_rfl, by kernel_rfl⟩
theorem ty5 : Ty Tryd.prog 5 1 1 false (.int .u8 0) := ⟨by kernel_rfl, by kernel_rfl⟩
theorem ty61 : Ty Tryd.prog 61 4 64 true (.agg #[.slice none 0 0, .int .i64 0, .slice none 0 0, .int .i64 0]) := ⟨by kernel_rfl, by kernel_rfl⟩
theorem ty66 : Ty Tryd.prog 66 1 24 false (.slice none 0 0) := ⟨by kernel_rfl, by kernel_rfl⟩
theorem ty68 : Ty Tryd.prog 68 2 48 true (.agg #[.slice none 0 0, .slice none 0 0]) := ⟨by kernel_rfl, by kernel_rfl⟩
theorem ty70 : Ty Tryd.prog 70 6 96 true (.agg #[.slice none 0 0, .slice none 0 0, .int .i64 0, .int .i64 0, .int .i64 0, .slice none 0 0]) := ⟨by kernel_rfl, by kernel_rfl⟩
theorem ty9 : Ty Tryd.prog 9 1 16 false (.string ⟨#[]⟩) := ⟨by kernel_rfl, by kernel_rfl⟩
/-! ### consignor/consignorlaw20.few: function 4 -/
mutual
def consignorlaw20_few.l2 : Nat → ApiPlan → Int → Int → Int → Int → (List ApiDeed) → Int → Int → (List ApiDeed) → ApiDeed → (List Int) → Int → (List (List UInt8)) → Option ApiPlan
  | 0, _, _, _, _, _, _, _, _, _, _, _, _, _ => none
  | k + 1, a0, a1, x40, x41, x42, l44, x45, x46, l48, t74, l137, x245, l247 => if x245 < (((t74.Texts.take (Int.toNat (if 6 < (t74.Texts.length : Int) then 6 else (t74.Texts.length : Int)))).drop (Int.toNat 0)).length : Int) then (if 0 ≤ x245 then ((((t74.Texts.take (Int.toNat (if 6 < (t74.Texts.length : Int) then 6 else (t74.Texts.length : Int)))).drop (Int.toNat 0))[Int.toNat x245]?).bind fun t283 => (if (0 : Int) ≤ (if 1002 < (t283.length : Int) then 1002 else (t283.length : Int)) then (if ((if 1002 < (t283.length : Int) then 1002 else (t283.length : Int)) : Int) ≤ (t283.length : Int) then (if (l247.length + ([((t283.take (Int.toNat (if 1002 < (t283.length : Int) then 1002 else (t283.length : Int)))).drop (Int.toNat 0))]).length) * 16 ≤ 140737488355328 then (consignorlaw20_few.l2 k a0 a1 x40 x41 x42 l44 x45 x46 l48 t74 l137 (IntKind.i64.wrap (x245 + 1)) (l247 ++ ([((t283.take (Int.toNat (if 1002 < (t283.length : Int) then 1002 else (t283.length : Int)))).drop (Int.toNat 0))]))) else none) else none) else none)) else none) else (if (l48.length + ([(⟨t74.Kind, l137, l247⟩ : ApiDeed)]).length) * 56 ≤ 140737488355328 then (consignorlaw20_few.l0 k a0 a1 (IntKind.i64.wrap (x40 + 1)) x41 x42 l44 x45 x46 (l48 ++ ([(⟨t74.Kind, l137, l247⟩ : ApiDeed)]))) else none)
def consignorlaw20_few.l1 : Nat → ApiPlan → Int → Int → Int → Int → (List ApiDeed) → Int → Int → (List ApiDeed) → ApiDeed → Int → (List Int) → Option ApiPlan
  | 0, _, _, _, _, _, _, _, _, _, _, _, _ => none
  | k + 1, a0, a1, x40, x41, x42, l44, x45, x46, l48, t74, x135, l137 => if x135 < (((t74.Nums.take (Int.toNat (if 9 < (t74.Nums.length : Int) then 9 else (t74.Nums.length : Int)))).drop (Int.toNat 0)).length : Int) then (if 0 ≤ x135 then ((((t74.Nums.take (Int.toNat (if 9 < (t74.Nums.length : Int) then 9 else (t74.Nums.length : Int)))).drop (Int.toNat 0))[Int.toNat x135]?).bind fun t176 => (if (l137.length + ([t176]).length) * 8 ≤ 140737488355328 then (consignorlaw20_few.l1 k a0 a1 x40 x41 x42 l44 x45 x46 l48 t74 (IntKind.i64.wrap (x135 + 1)) (l137 ++ ([t176]))) else none)) else none) else (if (0 : Int) ≤ (if 6 < (t74.Texts.length : Int) then 6 else (t74.Texts.length : Int)) then (if ((if 6 < (t74.Texts.length : Int) then 6 else (t74.Texts.length : Int)) : Int) ≤ (t74.Texts.length : Int) then (consignorlaw20_few.l2 k a0 a1 x40 x41 x42 l44 x45 x46 l48 t74 l137 0 []) else none) else none)
def consignorlaw20_few.l0 : Nat → ApiPlan → Int → Int → Int → Int → (List ApiDeed) → Int → Int → (List ApiDeed) → Option ApiPlan
  | 0, _, _, _, _, _, _, _, _, _ => none
  | k + 1, a0, a1, x40, x41, x42, l44, x45, x46, l48 => if x40 < (((a0.Deeds.take (Int.toNat (if a1 < (a0.Deeds.length : Int) then a1 else (a0.Deeds.length : Int)))).drop (Int.toNat 0)).length : Int) then (if 0 ≤ x40 then ((((a0.Deeds.take (Int.toNat (if a1 < (a0.Deeds.length : Int) then a1 else (a0.Deeds.length : Int)))).drop (Int.toNat 0))[Int.toNat x40]?).bind fun t74 => (if (0 : Int) ≤ (if 9 < (t74.Nums.length : Int) then 9 else (t74.Nums.length : Int)) then (if ((if 9 < (t74.Nums.length : Int) then 9 else (t74.Nums.length : Int)) : Int) ≤ (t74.Nums.length : Int) then (consignorlaw20_few.l1 k a0 a1 x40 x41 x42 l44 x45 x46 l48 t74 0 []) else none) else none)) else none) else (some (⟨x45, x46, l48⟩ : ApiPlan))
end
def consignorlaw20_few.f (k : Nat) (a0 : ApiPlan) (a1 : Int) : Option ApiPlan := if (0 : Int) ≤ (if a1 < (a0.Deeds.length : Int) then a1 else (a0.Deeds.length : Int)) then (if ((if a1 < (a0.Deeds.length : Int) then a1 else (a0.Deeds.length : Int)) : Int) ≤ (a0.Deeds.length : Int) then (consignorlaw20_few.l0 k a0 a1 0 0 0 [] a0.Quota a0.Sectors []) else none) else none
set_option maxHeartbeats 1000000 in
theorem consignorlaw20_few.ok (k : Nat) {w0 : World} {hw0 : Hw} (wf : Hwf w0 hw0) (a0 : ApiPlan) (a1 : Int) (v0_2 : Value) (q0_2 : Row KApiDeed w0 hw0 v0_2 a0.Deeds) (r : ApiPlan) (h : consignorlaw20_few.f k a0 a1 = some r) :
    Calls Tryd.prog 4 #[.agg #[.int .i64 a0.Quota, .int .i64 a0.Sectors, v0_2], .int .i64 a1] w0 fun e w' => ∃ (v0_2 : Value) (hw' : Hw), e = .returned (.agg #[.int .i64 r.Quota, .int .i64 r.Sectors, v0_2]) ∧ Stp none w0 hw0 w' hw' ∧ Row KApiDeed w' hw' v0_2 r.Deeds := by
  have fr0 := Stp.refl none (w := w0) (hw := hw0) wf
  unfold consignorlaw20_few.f at h
  refine enter (n := 84) Tryd.func4 rfl rfl (Nat.le_of_ble_eq_true rfl) ?_
  refine wc_seq ?_
  refine wc_region ?_
  refine wl_box fr0.wf fr0.g.size [.int .i64 a0.Quota, .int .i64 a0.Sectors, v0_2] (cells_of (v := (.agg #[.int .i64 a0.Quota, .int .i64 a0.Sectors, v0_2])) rfl rfl) ?_
  intro b1 w2 s3 B4 g5
  have fr6 := fr0.then0 s3
  refine wl_alloc fr6.wf fr6.g.size ty24 [.int .i64 0, .int .i64 0, .slice none 0 0] rfl ?_
  intro b7 w8 s9 B10 g11
  have n12 : b1 ≠ b7 := B4.ne g11
  have fr13 := fr6.then0 s9
  refine wl_nil ?_
  refine qn ?_
  refine wc_seq ?_
  refine wc_region ?_
  refine wl_field fld24_0 rfl ?_
  have B14 := (B4.step0 s9)
  refine wl_loadb1 B14 ty3 rfl (.int .i64 a0.Quota) rfl ?_
  refine wl_field fld24_1 rfl ?_
  refine wl_loadb1 B14 ty3 rfl (.int .i64 a0.Sectors) rfl ?_
  have hb15 : ∀ w, (Instr.build 24 #[(0, .int .i64 a0.Quota), (1, .int .i64 a0.Sectors)]).run Tryd.prog w = .ok (.agg (List.toArray [.int .i64 a0.Quota, .int .i64 a0.Sectors, .slice none 0 0])) w := by intro  _; kernel_rfl
  refine wl_build [.int .i64 a0.Quota, .int .i64 a0.Sectors, .slice none 0 0] (pc rfl (pc rfl (pn _ _))) (hb15 _) ?_
  refine wl_alloc fr13.wf fr13.g.size ty24 [.int .i64 0, .int .i64 0, .slice none 0 0] rfl ?_
  intro b16 w17 s18 B19 g20
  have n21 : b1 ≠ b16 := B14.ne g20
  have n22 : b7 ≠ b16 := B10.ne g20
  have fr23 := fr13.then0 s18
  refine wl_store B19 fr23.wf ty24 rfl [.int .i64 a0.Quota, .int .i64 a0.Sectors, .slice none 0 0] (cells_of (v := (.agg #[.int .i64 a0.Quota, .int .i64 a0.Sectors, .slice none 0 0])) rfl rfl) rfl (Nat.le_of_ble_eq_true rfl) (by intro u hu; simp only [List.mem_cons, List.not_mem_nil, or_false] at hu; rcases hu with rfl | rfl | rfl <;> first | rfl | exact Dy.one _) [.int .i64 a0.Quota, .int .i64 a0.Sectors, .slice none 0 0] rfl ?_
  intro w24 s25 B26
  have fr27 := fr23.then s25 (fun _ e => (Option.some.inj e ▸ B19.new))
  refine wl_nil ?_
  refine qn ?_
  refine wc_seq ?_
  refine wc_seq ?_
  refine wc_region ?_
  refine wl_field fld24_2 rfl ?_
  have B28 := ((B14.step0 s18).stepb s25 n21)
  refine wl_loadb1 B28 ty22 rfl (v0_2) rfl ?_
  refine wl_field fld24_2 rfl ?_
  refine wl_loadb1 B28 ty22 rfl (v0_2) rfl ?_
  have f32 := q0_2.ext (s3.ext.trans (s9.ext.trans (s18.ext.trans (s25.ext))))
  obtain ⟨A29, c30, hv31⟩ := (f32).slice
  refine wl_len Tryd.underlying22 (show _ = Value.slice _ a0.Deeds.length _ from (Eq.trans rfl hv31)) ?_
  refine wl_move (.int .i64 a1) rfl ?_
  refine wl_min2 rfl rfl ?_
  by_cases c33 : (0 : Int) ≤ (if a1 < (a0.Deeds.length : Int) then a1 else (a0.Deeds.length : Int))
  · replace h := (if_pos c33).symm.trans h
    by_cases c34 : ((if a1 < (a0.Deeds.length : Int) then a1 else (a0.Deeds.length : Int)) : Int) ≤ (a0.Deeds.length : Int)
    · replace h := (if_pos c34).symm.trans h
      refine wl_cut Tryd.underlying22 ty38 f32 rfl Bd.no (Bd.yes rfl) (by first | decide | omega | simp) c33 c34 ?_
      intro v35 f36
      obtain ⟨A37, c38, hv39⟩ := (f36).slice
      refine wl_len Tryd.underlying22 (show _ = Value.slice _ ((a0.Deeds.take (Int.toNat (if a1 < (a0.Deeds.length : Int) then a1 else (a0.Deeds.length : Int)))).drop (Int.toNat 0)).length _ from (Eq.trans rfl hv39)) ?_
      refine wl_move (.int .i64 0) rfl ?_
      refine wl_nil ?_
      refine qn ?_
      refine wc_block ?_
      refine wc_loop (fun m a w => ∃ (σ : Nat → Value) (hw : Hw) (kq : Nat) (x40 : Int) (x41 : Int) (x42 : Int) (v43 : Value) (l44 : (List ApiDeed)) (x45 : Int) (x46 : Int) (v47 : Value) (l48 : (List ApiDeed)), a = mkA 84 σ ∧ kq ≤ m ∧ kq ≤ k ∧ Stp none w0 hw0 w hw ∧ Ext w24 hw0 w hw ∧ σ 4 = .pointer (some ⟨b7, 0, none⟩) ∧ σ 5 = .pointer (some ⟨b16, 0, none⟩) ∧ σ 25 = v35 ∧ σ 26 = .int .i64 (((a0.Deeds.take (Int.toNat (if a1 < (a0.Deeds.length : Int) then a1 else (a0.Deeds.length : Int)))).drop (Int.toNat 0)).length : Int) ∧ σ 27 = .int .i64 x40 ∧ Box w0.heap.size w hw b7 24 [.int .i64 x41, .int .i64 x42, v43] ∧ Box w0.heap.size w hw b16 24 [.int .i64 x45, .int .i64 x46, v47] ∧ Own KApiDeed 38 w0.heap.size w hw v43 l44 ∧ Value.ownBlock v43 ≠ some b7 ∧ Value.ownBlock v43 ≠ some b16 ∧ Own KApiDeed 38 w0.heap.size w hw v47 l48 ∧ Value.ownBlock v47 ≠ some b7 ∧ Value.ownBlock v47 ≠ some b16 ∧ Dis v43 v47 ∧ consignorlaw20_few.l0 kq a0 a1 x40 x41 x42 l44 x45 x46 l48 = some r) k ?_ ?_ ?_
      · skip
        have B49 := ((B10.step0 s18).stepb s25 n22)
        exact ⟨_, _, _, 0, 0, 0, (.slice none 0 0), [], a0.Quota, a0.Sectors, (.slice none 0 0), [], rfl, (Nat.le_refl _), (Nat.le_refl _), fr27, (Ext.refl _ _), rfl, rfl, rfl, rfl, rfl, B49, B26, (Own.nil _ _ _ _ _), (by simp [Value.ownBlock]), (by simp [Value.ownBlock]), (Own.nil _ _ _ _ _), (by simp [Value.ownBlock]), (by simp [Value.ownBlock]), (Dis.nil_r _), h⟩
      · rintro _ _ ⟨_, hw51, k52, x40, x41, x42, v43, l44, x45, x46, v47, l48, rfl, hk55, hk56, fr53, e54, z57, z58, z59, z60, z61, B62, B63, r64, n65, n66, r67, n68, n69, n70, h⟩; obtain rfl := Nat.le_zero.1 hk55; rw [consignorlaw20_few.l0] at h; cases h
      · rintro m0 _ w50 ⟨_, hw51, k52, x40, x41, x42, v43, l44, x45, x46, v47, l48, rfl, hk55, hk56, fr53, e54, z57, z58, z59, z60, z61, B62, B63, r64, n65, n66, r67, n68, n69, n70, h⟩
        rcases k52 with _ | k52
        · rw [consignorlaw20_few.l0] at h; cases h
        rw [consignorlaw20_few.l0] at h
        refine wc_seq ?_
        refine wc_region ?_
        refine wl_lss z61 z60 ?_
        refine wl_nil ?_
        refine qn ?_
        refine wc_seq ?_
        by_cases c71 : x40 < (((a0.Deeds.take (Int.toNat (if a1 < (a0.Deeds.length : Int) then a1 else (a0.Deeds.length : Int)))).drop (Int.toNat 0)).length : Int)
        · replace h := (if_pos c71).symm.trans h
          have b72 : (decide (x40 < (((a0.Deeds.take (Int.toNat (if a1 < (a0.Deeds.length : Int) then a1 else (a0.Deeds.length : Int)))).drop (Int.toNat 0)).length : Int))) = true := decide_eq_true c71
          refine wc_then rfl b72 ?_
          refine wc_skip ?_
          refine qn ?_
          refine wc_seq ?_
          refine wc_block ?_
          refine wc_seq ?_
          refine wc_region ?_
          by_cases c73 : 0 ≤ x40
          · replace h := (if_pos c73).symm.trans h
            obtain ⟨t74, h75, h⟩ := Option.bind_eq_some_iff.1 h
            have c76 := at_lt c73 h75
            have f82 := f36.ext (e54)
            refine wl_at Tryd.underlying22 ty38 f82 z59 z61 c73 c76 t74 h75 ?_
            rintro B77 o78 cs79 ⟨v83, v85, rfl, r84, r86⟩ l81
            refine wl_load ty38 rfl [.int .i64 t74.Kind, v83, v85] rfl l81.2 ?_
            refine wl_alloc fr53.wf fr53.g.size ty38 [.int .i64 0, .slice none 0 0, .slice none 0 0] rfl ?_
            intro b87 w88 s89 B90 g91
            have n92 : b7 ≠ b87 := B62.ne g91
            have n93 : b16 ≠ b87 := B63.ne g91
            have n94 := r64.ne g91
            have n95 := r67.ne g91
            have fr96 := fr53.then0 s89
            have f100 := r84.ext (s89.ext)
            have f101 := r86.ext (s89.ext)
            refine wl_store B90 fr96.wf ty38 rfl [.int .i64 t74.Kind, v83, v85] (cells_of (v := (.agg #[.int .i64 t74.Kind, v83, v85])) rfl rfl) rfl (Nat.le_of_ble_eq_true rfl) (one_all [.int .i64 t74.Kind, v83, v85] (by simp only [List.all_cons, List.all_nil, Bool.and_true, Bool.true_and, row_one f100, row_one f101] <;> rfl)) [.int .i64 t74.Kind, v83, v85] rfl ?_
            intro w97 s98 B99
            have fr102 := fr96.then s98 (fun _ e => (Option.some.inj e ▸ B90.new))
            refine wl_nil ?_
            refine qn ?_
            refine wc_seq ?_
            refine wc_region ?_
            refine wl_field fld38_0 rfl ?_
            refine wl_loadb1 B99 ty3 rfl (.int .i64 t74.Kind) rfl ?_
            have hb103 : ∀ w, (Instr.build 38 #[(0, .int .i64 t74.Kind)]).run Tryd.prog w = .ok (.agg (List.toArray [.int .i64 t74.Kind, .slice none 0 0, .slice none 0 0])) w := by intro  _; kernel_rfl
            refine wl_build [.int .i64 t74.Kind, .slice none 0 0, .slice none 0 0] (pc rfl (pn _ _)) (hb103 _) ?_
            refine wl_alloc fr102.wf fr102.g.size ty38 [.int .i64 0, .slice none 0 0, .slice none 0 0] rfl ?_
            intro b104 w105 s106 B107 g108
            have B110 := ((B62.step0 s89).stepb s98 n92)
            have n109 : b7 ≠ b104 := B110.ne g108
            have B112 := ((B63.step0 s89).stepb s98 n93)
            have n111 : b16 ≠ b104 := B112.ne g108
            have n113 : b87 ≠ b104 := B99.ne g108
            have O115 := ((r64.step0 s89).step s98 (.inr n94))
            have n114 := O115.ne g108
            have O117 := ((r67.step0 s89).step s98 (.inr n95))
            have n116 := O117.ne g108
            have fr118 := fr102.then0 s106
            refine wl_store B107 fr118.wf ty38 rfl [.int .i64 t74.Kind, .slice none 0 0, .slice none 0 0] (cells_of (v := (.agg #[.int .i64 t74.Kind, .slice none 0 0, .slice none 0 0])) rfl rfl) rfl (Nat.le_of_ble_eq_true rfl) (by intro u hu; simp only [List.mem_cons, List.not_mem_nil, or_false] at hu; rcases hu with rfl | rfl | rfl <;> first | rfl | exact Dy.one _) [.int .i64 t74.Kind, .slice none 0 0, .slice none 0 0] rfl ?_
            intro w119 s120 B121
            have fr122 := fr118.then s120 (fun _ e => (Option.some.inj e ▸ B107.new))
            refine wl_nil ?_
            refine qn ?_
            refine wc_seq ?_
            refine wc_seq ?_
            refine wc_region ?_
            refine wl_field fld38_1 rfl ?_
            have B123 := ((B99.step0 s106).stepb s120 n113)
            refine wl_loadb1 B123 ty35 rfl (v83) rfl ?_
            refine wl_field fld38_1 rfl ?_
            refine wl_loadb1 B123 ty35 rfl (v83) rfl ?_
            have f127 := f100.ext (s98.ext.trans (s106.ext.trans (s120.ext)))
            obtain ⟨A124, c125, hv126⟩ := (f127).slice
            refine wl_len Tryd.underlying35 (show _ = Value.slice _ t74.Nums.length _ from (Eq.trans rfl hv126)) ?_
            refine wl_min2 rfl rfl ?_
            by_cases c128 : (0 : Int) ≤ (if 9 < (t74.Nums.length : Int) then 9 else (t74.Nums.length : Int))
            · replace h := (if_pos c128).symm.trans h
              by_cases c129 : ((if 9 < (t74.Nums.length : Int) then 9 else (t74.Nums.length : Int)) : Int) ≤ (t74.Nums.length : Int)
              · replace h := (if_pos c129).symm.trans h
                refine wl_cut Tryd.underlying35 ty3 f127 rfl Bd.no (Bd.yes rfl) (by first | decide | omega | simp) c128 c129 ?_
                intro v130 f131
                obtain ⟨A132, c133, hv134⟩ := (f131).slice
                refine wl_len Tryd.underlying35 (show _ = Value.slice _ ((t74.Nums.take (Int.toNat (if 9 < (t74.Nums.length : Int) then 9 else (t74.Nums.length : Int)))).drop (Int.toNat 0)).length _ from (Eq.trans rfl hv134)) ?_
                refine wl_move (.int .i64 0) rfl ?_
                refine wl_nil ?_
                refine qn ?_
                refine wc_block ?_
                refine wc_loop (fun m a w => ∃ (σ : Nat → Value) (hw : Hw) (kq : Nat) (x135 : Int) (v136 : Value) (l137 : (List Int)), a = mkA 84 σ ∧ kq ≤ m ∧ kq ≤ k52 ∧ Stp none w0 hw0 w hw ∧ Ext w119 hw51 w hw ∧ σ 4 = .pointer (some ⟨b7, 0, none⟩) ∧ σ 5 = .pointer (some ⟨b16, 0, none⟩) ∧ σ 7 = .pointer (some ⟨b87, 0, none⟩) ∧ σ 8 = .pointer (some ⟨b104, 0, none⟩) ∧ σ 25 = v35 ∧ σ 26 = .int .i64 (((a0.Deeds.take (Int.toNat (if a1 < (a0.Deeds.length : Int) then a1 else (a0.Deeds.length : Int)))).drop (Int.toNat 0)).length : Int) ∧ σ 27 = .int .i64 x40 ∧ σ 40 = v130 ∧ σ 41 = .int .i64 (((t74.Nums.take (Int.toNat (if 9 < (t74.Nums.length : Int) then 9 else (t74.Nums.length : Int)))).drop (Int.toNat 0)).length : Int) ∧ σ 42 = .int .i64 x135 ∧ Box w0.heap.size w hw b7 24 [.int .i64 x41, .int .i64 x42, v43] ∧ Box w0.heap.size w hw b16 24 [.int .i64 x45, .int .i64 x46, v47] ∧ Box w0.heap.size w hw b87 38 [.int .i64 t74.Kind, v83, v85] ∧ Box w0.heap.size w hw b104 38 [.int .i64 t74.Kind, v136, .slice none 0 0] ∧ Own KApiDeed 38 w0.heap.size w hw v43 l44 ∧ Own KApiDeed 38 w0.heap.size w hw v47 l48 ∧ Own (Kint .i64) 3 w0.heap.size w hw v136 l137 ∧ Value.ownBlock v136 ≠ some b7 ∧ Value.ownBlock v136 ≠ some b16 ∧ Value.ownBlock v136 ≠ some b87 ∧ Value.ownBlock v136 ≠ some b104 ∧ Dis v43 v47 ∧ Dis v43 v136 ∧ Dis v47 v136 ∧ consignorlaw20_few.l1 kq a0 a1 x40 x41 x42 l44 x45 x46 l48 t74 x135 l137 = some r) k52 ?_ ?_ ?_
                · skip
                  have B138 := ((B110.step0 s106).stepb s120 n109)
                  have B139 := ((B112.step0 s106).stepb s120 n111)
                  have O140 := ((O115.step0 s106).step s120 (.inr n114))
                  have O141 := ((O117.step0 s106).step s120 (.inr n116))
                  exact ⟨_, _, _, 0, (.slice none 0 0), [], rfl, (Nat.le_refl _), (Nat.le_refl _), fr122, (Ext.refl _ _), z57, z58, rfl, rfl, z59, z60, z61, rfl, rfl, rfl, B138, B139, B123, B121, O140, O141, (Own.nil _ _ _ _ _), (by simp [Value.ownBlock]), (by simp [Value.ownBlock]), (by simp [Value.ownBlock]), (by simp [Value.ownBlock]), n70, (Dis.nil_r _), (Dis.nil_r _), h⟩
                · rintro _ _ ⟨_, hw143, k144, x135, v136, l137, rfl, hk147, hk148, fr145, e146, z149, z150, z151, z152, z153, z154, z155, z156, z157, z158, B159, B160, B161, B162, O163, O164, r165, n166, n167, n168, n169, n170, n171, n172, h⟩; obtain rfl := Nat.le_zero.1 hk147; rw [consignorlaw20_few.l1] at h; cases h
                · rintro m1 _ w142 ⟨_, hw143, k144, x135, v136, l137, rfl, hk147, hk148, fr145, e146, z149, z150, z151, z152, z153, z154, z155, z156, z157, z158, B159, B160, B161, B162, O163, O164, r165, n166, n167, n168, n169, n170, n171, n172, h⟩
                  rcases k144 with _ | k144
                  · rw [consignorlaw20_few.l1] at h; cases h
                  rw [consignorlaw20_few.l1] at h
                  refine wc_seq ?_
                  refine wc_region ?_
                  refine wl_lss z158 z157 ?_
                  refine wl_nil ?_
                  refine qn ?_
                  refine wc_seq ?_
                  by_cases c173 : x135 < (((t74.Nums.take (Int.toNat (if 9 < (t74.Nums.length : Int) then 9 else (t74.Nums.length : Int)))).drop (Int.toNat 0)).length : Int)
                  · replace h := (if_pos c173).symm.trans h
                    have b174 : (decide (x135 < (((t74.Nums.take (Int.toNat (if 9 < (t74.Nums.length : Int) then 9 else (t74.Nums.length : Int)))).drop (Int.toNat 0)).length : Int))) = true := decide_eq_true c173
                    refine wc_then rfl b174 ?_
                    refine wc_skip ?_
                    refine qn ?_
                    refine wc_seq ?_
                    refine wc_block ?_
                    refine wc_seq ?_
                    refine wc_region ?_
                    by_cases c175 : 0 ≤ x135
                    · replace h := (if_pos c175).symm.trans h
                      obtain ⟨t176, h177, h⟩ := Option.bind_eq_some_iff.1 h
                      have c178 := at_lt c175 h177
                      have f184 := f131.ext (e146)
                      refine wl_at Tryd.underlying35 ty3 f184 z156 z158 c175 c178 t176 h177 ?_
                      rintro B179 o180 cs181 rfl l183
                      refine wl_load1 ty3 rfl (.int .i64 t176) (l183.2 0 _ rfl) ?_
                      refine wl_assign (.int .i64 t176) rfl ?_
                      refine wl_nil ?_
                      refine qn ?_
                      refine wc_region ?_
                      refine wl_field fld38_1 z152 ?_
                      refine wl_loadb1 B162 ty35 rfl (v136) rfl ?_
                      refine wl_move (.int .i64 t176) rfl ?_
                      have hb185 : ∀ w : World, (Instr.buildSlice 35 1 #[(0, .int .i64 t176)]).run Tryd.prog w = .ok (.slice (some ⟨w.heap.size, 0, none⟩) 1 1) (w.alloc (.cells (List.toArray [.int .i64 t176]) 3)) := fun _ => by kernel_rfl
                      refine wl_lit (KD := (Kint .i64)) fr145.wf [.int .i64 t176] [t176] (pc rfl (pn _ _)) (hb185 _) rfl (by decide) ⟨[.int .i64 t176], _, rfl, rfl, rfl⟩ ?_
                      intro v186 w187 hw188 O190 s189
                      have n191 := own_new_lt O190 B159.lt
                      have n192 := own_new_lt O190 B160.lt
                      have n193 := own_new_lt O190 B161.lt
                      have n194 := own_new_lt O190 B162.lt
                      have n195 := own_dis_new O190 O163
                      have n196 := own_dis_new O190 O164
                      have n197 := own_dis_new O190 r165
                      replace O190 := O190.low fr145.g.size
                      have fr198 := fr145.then0 s189
                      by_cases c199 : (l137.length + ([t176]).length) * 8 ≤ 140737488355328
                      · replace h := (if_pos c199).symm.trans h
                        have c200 : l137.length + ([t176]).length ≤ 9223372036854775807 := by omega
                        have O201 := (r165.step0 s189)
                        have B208 := (B159.step0 s189)
                        have B209 := (B160.step0 s189)
                        have B210 := (B161.step0 s189)
                        have B211 := (B162.step0 s189)
                        refine wl_app Tryd.underlying35 ty3 rfl (by decide) fr198.wf O201 O190.row rfl rfl c200 c199 fr198.g.size ?_
                        intro v202 w203 hw204 O206 s205 lo207
                        have O213 := (O163.step0 s189)
                        have n212 := app_dis lo207 n171 O213
                        have O215 := (O164.step0 s189)
                        have n214 := app_dis lo207 n172 O215
                        have n216 := app_dis lo207 n197.symm O190
                        have fr217 := fr198.then s205 (fun _ e => (O201.new _ e).1)
                        have n218 := app_lt lo207 n166 B208.lt
                        have n219 := app_lt lo207 n167 B209.lt
                        have n220 := app_lt lo207 n168 B210.lt
                        have n221 := app_lt lo207 n169 B211.lt
                        refine wl_field fld38_1 z152 ?_
                        have B222 := (B211.step s205 (fun e => n169 e.symm))
                        refine wl_store B222 fr217.wf ty35 rfl [v202] (cells_of (v := v202) rfl (row_cells O206.row)) rfl (Nat.le_of_ble_eq_true rfl) (one_all [v202] (by simp only [List.all_cons, List.all_nil, Bool.and_true, Bool.true_and, row_one O206.row] <;> rfl)) [.int .i64 t74.Kind, v202, .slice none 0 0] rfl ?_
                        intro w223 s224 B225
                        have fr226 := fr217.then s224 (fun _ e => (Option.some.inj e ▸ B222.new))
                        refine wl_nil ?_
                        refine bn ?_
                        refine qn ?_
                        refine wc_region ?_
                        refine wl_add z158 rfl ?_
                        refine wl_move (.int .i64 (IntKind.i64.wrap (x135 + 1))) rfl ?_
                        refine wl_nil ?_
                        refine qn ?_
                        have B227 := ((B208.step s205 (fun e => n166 e.symm)).stepb s224 n109)
                        have B228 := ((B209.step s205 (fun e => n167 e.symm)).stepb s224 n111)
                        have B229 := ((B210.step s205 (fun e => n168 e.symm)).stepb s224 n113)
                        have O230 := ((O213.stepo s205 n171).step s224 (.inr n114))
                        have O231 := ((O215.stepo s205 n172).step s224 (.inr n116))
                        have O232 := (O206.step s224 (.inr n221))
                        exact ⟨_, _, _, (IntKind.i64.wrap (x135 + 1)), v202, (l137 ++ ([t176])), rfl, (by omega), (by omega), fr226, (Ext.trans e146 (Ext.trans s189.ext (Ext.trans s205.ext s224.ext))), z149, z150, z151, z152, z153, z154, z155, z156, z157, rfl, B227, B228, B229, B225, O230, O231, O232, n218, n219, n220, n221, n170, n212, n214, h⟩
                      · replace h := (if_neg c199).symm.trans h
                        cases h
                    · replace h := (if_neg c175).symm.trans h
                      cases h
                  · replace h := (if_neg c173).symm.trans h
                    have b233 : (decide (x135 < (((t74.Nums.take (Int.toNat (if 9 < (t74.Nums.length : Int) then 9 else (t74.Nums.length : Int)))).drop (Int.toNat 0)).length : Int))) = false := decide_eq_false c173
                    refine wc_else rfl b233 ?_
                    refine wc_exit ?_
                    refine qe ?_
                    refine qe ?_
                    refine be ?_
                    refine qn ?_
                    refine wc_seq ?_
                    refine wc_seq ?_
                    refine wc_region ?_
                    refine wl_field fld38_2 z151 ?_
                    refine wl_loadb1 B161 ty36 rfl (v85) rfl ?_
                    refine wl_field fld38_2 z151 ?_
                    refine wl_loadb1 B161 ty36 rfl (v85) rfl ?_
                    have f237 := f101.ext (s98.ext.trans (s106.ext.trans (s120.ext.trans (e146))))
                    obtain ⟨A234, c235, hv236⟩ := (f237).slice
                    refine wl_len Tryd.underlying36 (show _ = Value.slice _ t74.Texts.length _ from (Eq.trans rfl hv236)) ?_
                    refine wl_min2 rfl rfl ?_
                    by_cases c238 : (0 : Int) ≤ (if 6 < (t74.Texts.length : Int) then 6 else (t74.Texts.length : Int))
                    · replace h := (if_pos c238).symm.trans h
                      by_cases c239 : ((if 6 < (t74.Texts.length : Int) then 6 else (t74.Texts.length : Int)) : Int) ≤ (t74.Texts.length : Int)
                      · replace h := (if_pos c239).symm.trans h
                        refine wl_cut Tryd.underlying36 ty9 f237 rfl Bd.no (Bd.yes rfl) (by first | decide | omega | simp) c238 c239 ?_
                        intro v240 f241
                        obtain ⟨A242, c243, hv244⟩ := (f241).slice
                        refine wl_len Tryd.underlying36 (show _ = Value.slice _ ((t74.Texts.take (Int.toNat (if 6 < (t74.Texts.length : Int) then 6 else (t74.Texts.length : Int)))).drop (Int.toNat 0)).length _ from (Eq.trans rfl hv244)) ?_
                        refine wl_move (.int .i64 0) rfl ?_
                        refine wl_nil ?_
                        refine qn ?_
                        refine wc_block ?_
                        refine wc_loop (fun m a w => ∃ (σ : Nat → Value) (hw : Hw) (kq : Nat) (x245 : Int) (v246 : Value) (l247 : (List (List UInt8))), a = mkA 84 σ ∧ kq ≤ m ∧ kq ≤ k144 ∧ Stp none w0 hw0 w hw ∧ Ext w142 hw143 w hw ∧ σ 4 = .pointer (some ⟨b7, 0, none⟩) ∧ σ 5 = .pointer (some ⟨b16, 0, none⟩) ∧ σ 8 = .pointer (some ⟨b104, 0, none⟩) ∧ σ 25 = v35 ∧ σ 26 = .int .i64 (((a0.Deeds.take (Int.toNat (if a1 < (a0.Deeds.length : Int) then a1 else (a0.Deeds.length : Int)))).drop (Int.toNat 0)).length : Int) ∧ σ 27 = .int .i64 x40 ∧ σ 59 = v240 ∧ σ 60 = .int .i64 (((t74.Texts.take (Int.toNat (if 6 < (t74.Texts.length : Int) then 6 else (t74.Texts.length : Int)))).drop (Int.toNat 0)).length : Int) ∧ σ 61 = .int .i64 x245 ∧ Box w0.heap.size w hw b7 24 [.int .i64 x41, .int .i64 x42, v43] ∧ Box w0.heap.size w hw b16 24 [.int .i64 x45, .int .i64 x46, v47] ∧ Box w0.heap.size w hw b104 38 [.int .i64 t74.Kind, v136, v246] ∧ Own KApiDeed 38 w0.heap.size w hw v43 l44 ∧ Own KApiDeed 38 w0.heap.size w hw v47 l48 ∧ Own (Kint .i64) 3 w0.heap.size w hw v136 l137 ∧ Own Kstr 9 w0.heap.size w hw v246 l247 ∧ Value.ownBlock v246 ≠ some b7 ∧ Value.ownBlock v246 ≠ some b16 ∧ Value.ownBlock v246 ≠ some b104 ∧ Dis v43 v47 ∧ Dis v43 v136 ∧ Dis v43 v246 ∧ Dis v47 v136 ∧ Dis v47 v246 ∧ Dis v136 v246 ∧ consignorlaw20_few.l2 kq a0 a1 x40 x41 x42 l44 x45 x46 l48 t74 l137 x245 l247 = some r) k144 ?_ ?_ ?_
                        · skip
                          exact ⟨_, _, _, 0, (.slice none 0 0), [], rfl, (Nat.le_refl _), (Nat.le_refl _), fr145, (Ext.refl _ _), z149, z150, z152, z153, z154, z155, rfl, rfl, rfl, B159, B160, B162, O163, O164, r165, (Own.nil _ _ _ _ _), (by simp [Value.ownBlock]), (by simp [Value.ownBlock]), (by simp [Value.ownBlock]), n170, n171, (Dis.nil_r _), n172, (Dis.nil_r _), (Dis.nil_r _), h⟩
                        · rintro _ _ ⟨_, hw249, k250, x245, v246, l247, rfl, hk253, hk254, fr251, e252, z255, z256, z257, z258, z259, z260, z261, z262, z263, B264, B265, B266, O267, O268, O269, r270, n271, n272, n273, n274, n275, n276, n277, n278, n279, h⟩; obtain rfl := Nat.le_zero.1 hk253; rw [consignorlaw20_few.l2] at h; cases h
                        · rintro m2 _ w248 ⟨_, hw249, k250, x245, v246, l247, rfl, hk253, hk254, fr251, e252, z255, z256, z257, z258, z259, z260, z261, z262, z263, B264, B265, B266, O267, O268, O269, r270, n271, n272, n273, n274, n275, n276, n277, n278, n279, h⟩
                          rcases k250 with _ | k250
                          · rw [consignorlaw20_few.l2] at h; cases h
                          rw [consignorlaw20_few.l2] at h
                          refine wc_seq ?_
                          refine wc_region ?_
                          refine wl_lss z263 z262 ?_
                          refine wl_nil ?_
                          refine qn ?_
                          refine wc_seq ?_
                          by_cases c280 : x245 < (((t74.Texts.take (Int.toNat (if 6 < (t74.Texts.length : Int) then 6 else (t74.Texts.length : Int)))).drop (Int.toNat 0)).length : Int)
                          · replace h := (if_pos c280).symm.trans h
                            have b281 : (decide (x245 < (((t74.Texts.take (Int.toNat (if 6 < (t74.Texts.length : Int) then 6 else (t74.Texts.length : Int)))).drop (Int.toNat 0)).length : Int))) = true := decide_eq_true c280
                            refine wc_then rfl b281 ?_
                            refine wc_skip ?_
                            refine qn ?_
                            refine wc_seq ?_
                            refine wc_block ?_
                            refine wc_seq ?_
                            refine wc_region ?_
                            by_cases c282 : 0 ≤ x245
                            · replace h := (if_pos c282).symm.trans h
                              obtain ⟨t283, h284, h⟩ := Option.bind_eq_some_iff.1 h
                              have c285 := at_lt c282 h284
                              have f291 := f241.ext (e252)
                              refine wl_at Tryd.underlying36 ty9 f291 z261 z263 c282 c285 t283 h284 ?_
                              rintro B286 o287 cs288 rfl l290
                              refine wl_load1 ty9 rfl (.string (bs t283)) (l290.2 0 _ rfl) ?_
                              refine wl_assign (.string (bs t283)) rfl ?_
                              refine wl_nil ?_
                              refine qn ?_
                              have s292 := Stp.drew (w := w248) (hw := hw249) fr251.wf
                              have fr293 := fr251.then0 s292
                              have B294 := (B264.step0 s292)
                              have B295 := (B265.step0 s292)
                              have B296 := (B266.step0 s292)
                              have O297 := (O267.step0 s292)
                              have O298 := (O268.step0 s292)
                              have O299 := (O269.step0 s292)
                              have O300 := (r270.step0 s292)
                              by_cases c302 : (0 : Int) ≤ (if 1002 < (t283.length : Int) then 1002 else (t283.length : Int))
                              · replace h := (if_pos c302).symm.trans h
                                by_cases c303 : ((if 1002 < (t283.length : Int) then 1002 else (t283.length : Int)) : Int) ≤ (t283.length : Int)
                                · replace h := (if_pos c303).symm.trans h
                                  by_cases c318 : (l247.length + ([((t283.take (Int.toNat (if 1002 < (t283.length : Int) then 1002 else (t283.length : Int)))).drop (Int.toNat 0))]).length) * 16 ≤ 140737488355328
                                  · replace h := (if_pos c318).symm.trans h
                                    refine wc_any (hw := hw249) mixed [[], [0], [], [], [3], [4], [2, 5], [6], [1, 7], [0, 1, 2, 3, 4, 5, 6, 7, 8], [9, 8, 8, 0, 1, 2, 3, 4, 5, 6, 7, 8]] [65, 66, 67, 68, 69, 70, 71, 72, 73, 74] (by kernel_rfl) (PhiOf [fun v w hw => v = .pointer (some ⟨b104, 2, none⟩), fun v w hw => v = v246, fun v w hw => v = .string (bs t283), fun v w hw => v = .string (bs t283), fun v w hw => v = .int .i64 (t283.length : Int), fun v w hw => v = .int .i64 (if 1002 < (t283.length : Int) then 1002 else (t283.length : Int)), fun v w hw => v = .string (bs ((t283.take (Int.toNat (if 1002 < (t283.length : Int) then 1002 else (t283.length : Int)))).drop (Int.toNat 0))), fun v w hw => Row Kstr w hw v ([((t283.take (Int.toNat (if 1002 < (t283.length : Int) then 1002 else (t283.length : Int)))).drop (Int.toNat 0))]), fun v w hw => Row Kstr w hw v (l247 ++ ([((t283.take (Int.toNat (if 1002 < (t283.length : Int) then 1002 else (t283.length : Int)))).drop (Int.toNat 0))])), fun v w hw => v = .pointer (some ⟨b104, 2, none⟩), fun v w hw => True]) (fun D σ w hw => Stp none w0 hw0 w hw ∧ Ext (w248).drew hw249 w hw ∧ Box w0.heap.size w hw b7 24 [.int .i64 x41, .int .i64 x42, v43] ∧ Box w0.heap.size w hw b16 24 [.int .i64 x45, .int .i64 x46, v47] ∧ Box w0.heap.size w hw b104 38 [.int .i64 t74.Kind, v136, (bif D 10 then (σ 73) else v246)] ∧ Own KApiDeed 38 w0.heap.size w hw v43 l44 ∧ Own KApiDeed 38 w0.heap.size w hw v47 l48 ∧ Own (Kint .i64) 3 w0.heap.size w hw v136 l137 ∧ (bif D 8 then (Own Kstr 9 w0.heap.size w hw (σ 73) (l247 ++ ([((t283.take (Int.toNat (if 1002 < (t283.length : Int) then 1002 else (t283.length : Int)))).drop (Int.toNat 0))])) ∧ Value.ownBlock (σ 73) ≠ some b7 ∧ Value.ownBlock (σ 73) ≠ some b16 ∧ Value.ownBlock (σ 73) ≠ some b104 ∧ Dis v43 (σ 73) ∧ Dis v47 (σ 73) ∧ Dis v136 (σ 73)) else Own Kstr 9 w0.heap.size w hw v246 l247)) (stab_of (sbc (fun _ _ _ _ _ _ h => h) (sbc (fun _ _ _ _ _ _ h => h) (sbc (fun _ _ _ _ _ _ h => h) (sbc (fun _ _ _ _ _ _ h => h) (sbc (fun _ _ _ _ _ _ h => h) (sbc (fun _ _ _ _ _ _ h => h) (sbc (fun _ _ _ _ _ _ h => h) (sbc (fun _ _ _ _ _ e h => Row.ext e h) (sbc (fun _ _ _ _ _ e h => Row.ext e h) (sbc (fun _ _ _ _ _ _ h => h) (sbc (fun _ _ _ _ _ _ h => h) sbn)))))))))))) ?_ (stc ?_ (stc ?_ (stc ?_ (stc ?_ (stc ?_ (stc ?_ (stc ?_ (stc ?_ (stc ?_ (stc ?_ (stc ?_ stn))))))))))) ?_
                                    · exact ⟨fr293, Ext.refl _ _, B294, B295, B296, O297, O298, O299, O300⟩
                                    · intro D346 σ347 w348 hw349 q350 q351 q352 q353 q354 q355
                                      obtain ⟨fr356, e357, C358, C359, C360, C361, C362, C363, C364⟩ := q350
                                      have O365 := bif_f (q355 8 rfl) C364
                                      have B366 := C360
                                      rw [show D346 10 = false from (q355 10 rfl)] at B366
                                      refine wl_field fld38_2 ((q353 8 rfl).trans z257) ?_
                                      refine wl_nil ?_
                                      exact qn ⟨_, _, rfl, (Ext.refl _ _), ⟨fr356, e357.trans (Ext.refl _ _), C358, C359, C360, C361, C362, C363, C364⟩, (aft_some rfl)⟩
                                    · intro D367 σ368 w369 hw370 q371 q372 q373 q374 q375 q376
                                      obtain ⟨fr377, e378, C379, C380, C381, C382, C383, C384, C385⟩ := q371
                                      have O386 := bif_f (q376 8 rfl) C385
                                      have B387 := C381
                                      rw [show D367 10 = false from (q376 10 rfl)] at B387
                                      obtain ⟨⟨_, m388⟩, _⟩ := q373
                                      have z389 : (σ368 65) = .pointer (some ⟨b104, 2, none⟩) := m388
                                      refine wl_loadb1 B387 ty36 z389 (v246) rfl ?_
                                      refine wl_nil ?_
                                      exact qn ⟨_, _, rfl, (Ext.refl _ _), ⟨fr377, e378.trans (Ext.refl _ _), C379, C380, C381, C382, C383, C384, C385⟩, (aft_some rfl)⟩
                                    · intro D390 σ391 w392 hw393 q394 q395 q396 q397 q398 q399
                                      obtain ⟨fr400, e401, C402, C403, C404, C405, C406, C407, C408⟩ := q394
                                      have O409 := bif_f (q399 8 rfl) C408
                                      have B410 := C404
                                      rw [show D390 10 = false from (q399 10 rfl)] at B410
                                      refine wl_move (.string (bs t283)) ((q397 12 rfl).trans rfl) ?_
                                      refine wl_nil ?_
                                      exact qn ⟨_, _, rfl, (Ext.refl _ _), ⟨fr400, e401.trans (Ext.refl _ _), C402, C403, C404, C405, C406, C407, C408⟩, (aft_some rfl)⟩
                                    · intro D411 σ412 w413 hw414 q415 q416 q417 q418 q419 q420
                                      obtain ⟨fr421, e422, C423, C424, C425, C426, C427, C428, C429⟩ := q415
                                      have O430 := bif_f (q420 8 rfl) C429
                                      have B431 := C425
                                      rw [show D411 10 = false from (q420 10 rfl)] at B431
                                      refine wl_move (.string (bs t283)) ((q418 12 rfl).trans rfl) ?_
                                      refine wl_nil ?_
                                      exact qn ⟨_, _, rfl, (Ext.refl _ _), ⟨fr421, e422.trans (Ext.refl _ _), C423, C424, C425, C426, C427, C428, C429⟩, (aft_some rfl)⟩
                                    · intro D432 σ433 w434 hw435 q436 q437 q438 q439 q440 q441
                                      obtain ⟨fr442, e443, C444, C445, C446, C447, C448, C449, C450⟩ := q436
                                      have O451 := bif_f (q441 8 rfl) C450
                                      have B452 := C446
                                      rw [show D432 10 = false from (q441 10 rfl)] at B452
                                      obtain ⟨⟨_, m453⟩, _⟩ := q438
                                      have z454 : (σ433 68) = .string (bs t283) := m453
                                      refine wl_lens Tryd.underlying9 z454 ?_
                                      refine wl_nil ?_
                                      exact qn ⟨_, _, rfl, (Ext.refl _ _), ⟨fr442, e443.trans (Ext.refl _ _), C444, C445, C446, C447, C448, C449, C450⟩, (aft_some rfl)⟩
                                    · intro D455 σ456 w457 hw458 q459 q460 q461 q462 q463 q464
                                      obtain ⟨fr465, e466, C467, C468, C469, C470, C471, C472, C473⟩ := q459
                                      have O474 := bif_f (q464 8 rfl) C473
                                      have B475 := C469
                                      rw [show D455 10 = false from (q464 10 rfl)] at B475
                                      obtain ⟨⟨_, m476⟩, _⟩ := q461
                                      have z477 : (σ456 69) = .int .i64 (t283.length : Int) := m476
                                      refine wl_min2 z477 rfl ?_
                                      refine wl_nil ?_
                                      exact qn ⟨_, _, rfl, (Ext.refl _ _), ⟨fr465, e466.trans (Ext.refl _ _), C467, C468, C469, C470, C471, C472, C473⟩, (aft_some rfl)⟩
                                    · intro D478 σ479 w480 hw481 q482 q483 q484 q485 q486 q487
                                      obtain ⟨fr488, e489, C490, C491, C492, C493, C494, C495, C496⟩ := q482
                                      have O497 := bif_f (q487 8 rfl) C496
                                      have B498 := C492
                                      rw [show D478 10 = false from (q487 10 rfl)] at B498
                                      obtain ⟨⟨_, m499⟩, ⟨_, m500⟩, _⟩ := q484
                                      have z501 : (σ479 67) = .string (bs t283) := m499
                                      have z502 : (σ479 70) = .int .i64 (if 1002 < (t283.length : Int) then 1002 else (t283.length : Int)) := m500
                                      refine wl_cuts Tryd.underlying9 z501 Bd.no (Bd.yes z502) (by first | decide | omega | simp) c302 c303 ?_
                                      refine wl_nil ?_
                                      exact qn ⟨_, _, rfl, (Ext.refl _ _), ⟨fr488, e489.trans (Ext.refl _ _), C490, C491, C492, C493, C494, C495, C496⟩, (aft_some rfl)⟩
                                    · intro D503 σ504 w505 hw506 q507 q508 q509 q510 q511 q512
                                      obtain ⟨fr513, e514, C515, C516, C517, C518, C519, C520, C521⟩ := q507
                                      have O522 := bif_f (q512 8 rfl) C521
                                      have B523 := C517
                                      rw [show D503 10 = false from (q512 10 rfl)] at B523
                                      obtain ⟨⟨_, m524⟩, _⟩ := q509
                                      have z525 : (σ504 71) = .string (bs ((t283.take (Int.toNat (if 1002 < (t283.length : Int) then 1002 else (t283.length : Int)))).drop (Int.toNat 0))) := m524
                                      have hb526 : ∀ w : World, (Instr.buildSlice 36 1 #[(0, .string (bs ((t283.take (Int.toNat (if 1002 < (t283.length : Int) then 1002 else (t283.length : Int)))).drop (Int.toNat 0))))]).run Tryd.prog w = .ok (.slice (some ⟨w.heap.size, 0, none⟩) 1 1) (w.alloc (.cells (List.toArray [.string (bs ((t283.take (Int.toNat (if 1002 < (t283.length : Int) then 1002 else (t283.length : Int)))).drop (Int.toNat 0)))]) 9)) := fun _ => by kernel_rfl
                                      refine wl_lit (KD := Kstr) fr513.wf [.string (bs ((t283.take (Int.toNat (if 1002 < (t283.length : Int) then 1002 else (t283.length : Int)))).drop (Int.toNat 0)))] [((t283.take (Int.toNat (if 1002 < (t283.length : Int) then 1002 else (t283.length : Int)))).drop (Int.toNat 0))] (pc z525 (pn _ _)) (hb526 _) rfl (by decide) ⟨[.string (bs ((t283.take (Int.toNat (if 1002 < (t283.length : Int) then 1002 else (t283.length : Int)))).drop (Int.toNat 0)))], _, rfl, rfl, rfl⟩ ?_
                                      intro v527 w528 hw529 O531 s530
                                      have n532 := own_new_lt O531 C515.lt
                                      have n533 := own_new_lt O531 C516.lt
                                      have n534 := own_new_lt O531 C517.lt
                                      have n535 := own_dis_new O531 C518
                                      have n536 := own_dis_new O531 C519
                                      have n537 := own_dis_new O531 C520
                                      have n538 := own_dis_new O531 O522
                                      replace O531 := O531.low fr513.g.size
                                      have fr539 := fr513.then0 s530
                                      refine wl_nil ?_
                                      have B540 := (C515.step0 s530)
                                      have B541 := (C516.step0 s530)
                                      have B542 := (C517.step0 s530)
                                      have O543 := (C518.step0 s530)
                                      have O544 := (C519.step0 s530)
                                      have O545 := (C520.step0 s530)
                                      exact qn ⟨_, _, rfl, s530.ext, ⟨fr539, e514.trans s530.ext, B540, B541, B542, O543, O544, O545, ((fun h => bif_mp (fun h => ⟨(h.1.step0 s530), h.2⟩) (fun h => (h.step0 s530)) h) C521)⟩, (aft_some O531.row)⟩
                                    · intro D546 σ547 w548 hw549 q550 q551 q552 q553 q554 q555
                                      obtain ⟨fr556, e557, C558, C559, C560, C561, C562, C563, C564⟩ := q550
                                      have O565 := bif_f q551 C564
                                      have B566 := C560
                                      rw [show D546 10 = false from (q555 10 rfl)] at B566
                                      obtain ⟨⟨_, m567⟩, ⟨_, m568⟩, _⟩ := q552
                                      have z569 : (σ547 66) = v246 := m567
                                      have f570 : Row Kstr w548 hw549 (σ547 72) ([((t283.take (Int.toNat (if 1002 < (t283.length : Int) then 1002 else (t283.length : Int)))).drop (Int.toNat 0))]) := m568
                                      have c571 : l247.length + ([((t283.take (Int.toNat (if 1002 < (t283.length : Int) then 1002 else (t283.length : Int)))).drop (Int.toNat 0))]).length ≤ 9223372036854775807 := by omega
                                      refine wl_app Tryd.underlying36 ty9 rfl (by decide) fr556.wf O565 f570 z569 rfl c571 c318 fr556.g.size ?_
                                      intro v572 w573 hw574 O576 s575 lo577
                                      have n578 := app_dis lo577 n276 C561
                                      have n579 := app_dis lo577 n278 C562
                                      have n580 := app_dis lo577 n279 C563
                                      have fr581 := fr556.then s575 (fun _ e => (O565.new _ e).1)
                                      have n582 := app_lt lo577 n271 C558.lt
                                      have n583 := app_lt lo577 n272 C559.lt
                                      have n584 := app_lt lo577 n273 C560.lt
                                      refine wl_nil ?_
                                      have B585 := (C558.step s575 (fun e => n271 e.symm))
                                      have B586 := (C559.step s575 (fun e => n272 e.symm))
                                      have B587 := (C560.step s575 (fun e => n273 e.symm))
                                      have O588 := (C561.stepo s575 n276)
                                      have O589 := (C562.stepo s575 n278)
                                      have O590 := (C563.stepo s575 n279)
                                      exact qn ⟨_, _, rfl, s575.ext, ⟨fr581, e557.trans s575.ext, B585, B586, (Box.retype B587 (show [.int .i64 t74.Kind, v136, (bif D546 10 then (σ547 73) else v246)] = [.int .i64 t74.Kind, v136, (bif D546 10 then (v572) else v246)] from by rw [show D546 10 = false from (q555 10 rfl)] <;> rfl)), O588, O589, O590, ⟨O576, n582, n583, n584, n578, n579, n580⟩⟩, (aft_some O576.row)⟩
                                    · intro D591 σ592 w593 hw594 q595 q596 q597 q598 q599 q600
                                      obtain ⟨fr601, e602, C603, C604, C605, C606, C607, C608, C609⟩ := q595
                                      have O610 := bif_t (q599 8 rfl) C609
                                      obtain ⟨O610, n611, n612, n613, n614, n615, n616⟩ : Own Kstr 9 w0.heap.size w593 hw594 (σ592 73) (l247 ++ ([((t283.take (Int.toNat (if 1002 < (t283.length : Int) then 1002 else (t283.length : Int)))).drop (Int.toNat 0))])) ∧ Value.ownBlock (σ592 73) ≠ some b7 ∧ Value.ownBlock (σ592 73) ≠ some b16 ∧ Value.ownBlock (σ592 73) ≠ some b104 ∧ Dis v43 (σ592 73) ∧ Dis v47 (σ592 73) ∧ Dis v136 (σ592 73) := O610
                                      have B617 := C605
                                      rw [show D591 10 = false from (q600 10 rfl)] at B617
                                      obtain ⟨⟨_, m618⟩, ⟨_, m619⟩, ⟨_, m620⟩, ⟨_, m621⟩, ⟨_, m622⟩, ⟨_, m623⟩, ⟨_, m624⟩, ⟨_, m625⟩, ⟨_, m626⟩, _⟩ := q597
                                      have z627 : (σ592 65) = .pointer (some ⟨b104, 2, none⟩) := m618
                                      have z628 : (σ592 66) = v246 := m619
                                      have z629 : (σ592 67) = .string (bs t283) := m620
                                      have z630 : (σ592 68) = .string (bs t283) := m621
                                      have z631 : (σ592 69) = .int .i64 (t283.length : Int) := m622
                                      have z632 : (σ592 70) = .int .i64 (if 1002 < (t283.length : Int) then 1002 else (t283.length : Int)) := m623
                                      have z633 : (σ592 71) = .string (bs ((t283.take (Int.toNat (if 1002 < (t283.length : Int) then 1002 else (t283.length : Int)))).drop (Int.toNat 0))) := m624
                                      have f634 : Row Kstr w593 hw594 (σ592 72) ([((t283.take (Int.toNat (if 1002 < (t283.length : Int) then 1002 else (t283.length : Int)))).drop (Int.toNat 0))]) := m625
                                      have f635 : Row Kstr w593 hw594 (σ592 73) (l247 ++ ([((t283.take (Int.toNat (if 1002 < (t283.length : Int) then 1002 else (t283.length : Int)))).drop (Int.toNat 0))])) := m626
                                      refine wl_field fld38_2 ((q598 8 rfl).trans z257) ?_
                                      refine wl_nil ?_
                                      exact qn ⟨_, _, rfl, (Ext.refl _ _), ⟨fr601, e602.trans (Ext.refl _ _), C603, C604, C605, C606, C607, C608, C609⟩, (aft_some rfl)⟩
                                    · intro D636 σ637 w638 hw639 q640 q641 q642 q643 q644 q645
                                      obtain ⟨fr646, e647, C648, C649, C650, C651, C652, C653, C654⟩ := q640
                                      have O655 := bif_t (q644 8 rfl) C654
                                      obtain ⟨O655, n656, n657, n658, n659, n660, n661⟩ : Own Kstr 9 w0.heap.size w638 hw639 (σ637 73) (l247 ++ ([((t283.take (Int.toNat (if 1002 < (t283.length : Int) then 1002 else (t283.length : Int)))).drop (Int.toNat 0))])) ∧ Value.ownBlock (σ637 73) ≠ some b7 ∧ Value.ownBlock (σ637 73) ≠ some b16 ∧ Value.ownBlock (σ637 73) ≠ some b104 ∧ Dis v43 (σ637 73) ∧ Dis v47 (σ637 73) ∧ Dis v136 (σ637 73) := O655
                                      obtain ⟨⟨_, m662⟩, ⟨_, m663⟩, ⟨_, m664⟩, ⟨_, m665⟩, ⟨_, m666⟩, ⟨_, m667⟩, ⟨_, m668⟩, ⟨_, m669⟩, ⟨_, m670⟩, ⟨_, m671⟩, ⟨_, m672⟩, ⟨_, m673⟩, _⟩ := q642
                                      have z674 : (σ637 74) = .pointer (some ⟨b104, 2, none⟩) := m662
                                      have f675 : Row Kstr w638 hw639 (σ637 73) (l247 ++ ([((t283.take (Int.toNat (if 1002 < (t283.length : Int) then 1002 else (t283.length : Int)))).drop (Int.toNat 0))])) := m663
                                      have z676 : (σ637 65) = .pointer (some ⟨b104, 2, none⟩) := m665
                                      have z677 : (σ637 66) = v246 := m666
                                      have z678 : (σ637 67) = .string (bs t283) := m667
                                      have z679 : (σ637 68) = .string (bs t283) := m668
                                      have z680 : (σ637 69) = .int .i64 (t283.length : Int) := m669
                                      have z681 : (σ637 70) = .int .i64 (if 1002 < (t283.length : Int) then 1002 else (t283.length : Int)) := m670
                                      have z682 : (σ637 71) = .string (bs ((t283.take (Int.toNat (if 1002 < (t283.length : Int) then 1002 else (t283.length : Int)))).drop (Int.toNat 0))) := m671
                                      have f683 : Row Kstr w638 hw639 (σ637 72) ([((t283.take (Int.toNat (if 1002 < (t283.length : Int) then 1002 else (t283.length : Int)))).drop (Int.toNat 0))]) := m672
                                      refine wl_store C650 fr646.wf ty36 z674 [(σ637 73)] (cells_of (v := (σ637 73)) rfl (row_cells O655.row)) rfl (Nat.le_of_ble_eq_true rfl) (one_all [(σ637 73)] (by simp only [List.all_cons, List.all_nil, Bool.and_true, Bool.true_and, row_one O655.row] <;> rfl)) [.int .i64 t74.Kind, v136, (σ637 73)] rfl ?_
                                      intro w684 s685 B686
                                      have fr687 := fr646.then s685 (fun _ e => (Option.some.inj e ▸ C650.new))
                                      refine wl_nil ?_
                                      have B688 := (C648.stepb s685 n109)
                                      have B689 := (C649.stepb s685 n111)
                                      have O690 := (C651.step s685 (.inr n114))
                                      have O691 := (C652.step s685 (.inr n116))
                                      have O692 := (C653.step s685 (.inr n169))
                                      exact qn ⟨_, _, rfl, s685.ext, ⟨fr687, e647.trans s685.ext, B688, B689, B686, O690, O691, O692, ((fun h => bif_mp (fun h => ⟨(h.1.step s685 (.inr h.2.2.2.1)), h.2⟩) (fun h => (h.step s685 (.inr n273))) h) C654)⟩, aft_none⟩
                                    · intro σ693 w694 hw695 q696 q697 q698
                                      obtain ⟨fr699, e700, C701, C702, C703, C704, C705, C706, C707⟩ := q696
                                      have O708 := C707
                                      obtain ⟨O708, n709, n710, n711, n712, n713, n714⟩ : Own Kstr 9 w0.heap.size w694 hw695 (σ693 73) (l247 ++ ([((t283.take (Int.toNat (if 1002 < (t283.length : Int) then 1002 else (t283.length : Int)))).drop (Int.toNat 0))])) ∧ Value.ownBlock (σ693 73) ≠ some b7 ∧ Value.ownBlock (σ693 73) ≠ some b16 ∧ Value.ownBlock (σ693 73) ≠ some b104 ∧ Dis v43 (σ693 73) ∧ Dis v47 (σ693 73) ∧ Dis v136 (σ693 73) := O708
                                      obtain ⟨m715, m716, m717, m718, m719, m720, m721, m722, m723, m724, m725, _⟩ := q698
                                      have B726 : Box w0.heap.size w694 hw695 b104 38 [.int .i64 t74.Kind, v136, (σ693 73)] := C703
                                      have z727 : (σ693 66) = v246 := m716
                                      have f728 : Row Kstr w694 hw695 (σ693 72) ([((t283.take (Int.toNat (if 1002 < (t283.length : Int) then 1002 else (t283.length : Int)))).drop (Int.toNat 0))]) := m722
                                      have f729 : Row Kstr w694 hw695 (σ693 73) (l247 ++ ([((t283.take (Int.toNat (if 1002 < (t283.length : Int) then 1002 else (t283.length : Int)))).drop (Int.toNat 0))])) := m723
                                      refine bn ?_
                                      refine qn ?_
                                      refine wc_region ?_
                                      refine wl_add ((q697 61 rfl).trans z263) rfl ?_
                                      refine wl_move (.int .i64 (IntKind.i64.wrap (x245 + 1))) rfl ?_
                                      refine wl_nil ?_
                                      refine qn ?_
                                      exact ⟨_, _, _, (IntKind.i64.wrap (x245 + 1)), (σ693 73), (l247 ++ ([((t283.take (Int.toNat (if 1002 < (t283.length : Int) then 1002 else (t283.length : Int)))).drop (Int.toNat 0))])), rfl, (by omega), (by omega), fr699, (Ext.trans e252 (Ext.trans s292.ext e700)), ((q697 4 rfl).trans z255), ((q697 5 rfl).trans z256), ((q697 8 rfl).trans z257), ((q697 25 rfl).trans z258), ((q697 26 rfl).trans z259), ((q697 27 rfl).trans z260), ((q697 59 rfl).trans z261), ((q697 60 rfl).trans z262), rfl, C701, C702, B726, C704, C705, C706, O708, n709, n710, n711, n274, n275, n712, n277, n713, n714, h⟩
                                  · replace h := (if_neg c318).symm.trans h
                                    cases h
                                · replace h := (if_neg c303).symm.trans h
                                  cases h
                              · replace h := (if_neg c302).symm.trans h
                                cases h
                            · replace h := (if_neg c282).symm.trans h
                              cases h
                          · replace h := (if_neg c280).symm.trans h
                            have b730 : (decide (x245 < (((t74.Texts.take (Int.toNat (if 6 < (t74.Texts.length : Int) then 6 else (t74.Texts.length : Int)))).drop (Int.toNat 0)).length : Int))) = false := decide_eq_false c280
                            refine wc_else rfl b730 ?_
                            refine wc_exit ?_
                            refine qe ?_
                            refine qe ?_
                            refine be ?_
                            refine qn ?_
                            refine wc_region ?_
                            refine wl_field fld24_2 z256 ?_
                            refine wl_loadb1 B265 ty22 rfl (v47) rfl ?_
                            refine wl_loadb B266 ty38 z257 [.int .i64 t74.Kind, v136, v246] rfl rfl ?_
                            have hb731 : ∀ w : World, (Instr.buildSlice 22 1 #[(0, .agg #[.int .i64 t74.Kind, v136, v246])]).run Tryd.prog w = .ok (.slice (some ⟨w.heap.size, 0, none⟩) 1 1) (w.alloc (.cells (List.toArray [.int .i64 t74.Kind, v136, v246]) 38)) := fun _ => by kernel_rfl
                            refine wl_lit (KD := KApiDeed) fr251.wf [.int .i64 t74.Kind, v136, v246] [(⟨t74.Kind, l137, l247⟩ : ApiDeed)] (pc rfl (pn _ _)) (hb731 _) rfl (by decide) ⟨[.int .i64 t74.Kind, v136, v246], _, rfl, ⟨v136, v246, rfl, O269.row, r270.row⟩, rfl⟩ ?_
                            intro v732 w733 hw734 O736 s735
                            have n737 := own_new_lt O736 B264.lt
                            have n738 := own_new_lt O736 B265.lt
                            have n739 := own_new_lt O736 B266.lt
                            have n740 := own_dis_new O736 O267
                            have n741 := own_dis_new O736 O268
                            have n742 := own_dis_new O736 O269
                            have n743 := own_dis_new O736 r270
                            replace O736 := O736.low fr251.g.size
                            have fr744 := fr251.then0 s735
                            by_cases c745 : (l48.length + ([(⟨t74.Kind, l137, l247⟩ : ApiDeed)]).length) * 56 ≤ 140737488355328
                            · replace h := (if_pos c745).symm.trans h
                              have c746 : l48.length + ([(⟨t74.Kind, l137, l247⟩ : ApiDeed)]).length ≤ 9223372036854775807 := by omega
                              have O747 := (O268.step0 s735)
                              have B754 := (B264.step0 s735)
                              have B755 := (B265.step0 s735)
                              have B756 := (B266.step0 s735)
                              refine wl_app Tryd.underlying22 ty38 rfl (by decide) fr744.wf O747 O736.row rfl rfl c746 c745 fr744.g.size ?_
                              intro v748 w749 hw750 O752 s751 lo753
                              have O758 := (O267.step0 s735)
                              have n757 := app_dis lo753 n274 O758
                              have O760 := (O269.step0 s735)
                              have n759 := app_dis lo753 n277.symm O760
                              have O762 := (r270.step0 s735)
                              have n761 := app_dis lo753 n278.symm O762
                              have n763 := app_dis lo753 n741.symm O736
                              have fr764 := fr744.then s751 (fun _ e => (O747.new _ e).1)
                              have n765 := app_lt lo753 n68 B754.lt
                              have n766 := app_lt lo753 n69 B755.lt
                              have n767 := app_lt lo753 n116 B756.lt
                              refine wl_field fld24_2 z256 ?_
                              have B768 := (B755.step s751 (fun e => n69 e.symm))
                              refine wl_store B768 fr764.wf ty22 rfl [v748] (cells_of (v := v748) rfl (row_cells O752.row)) rfl (Nat.le_of_ble_eq_true rfl) (one_all [v748] (by simp only [List.all_cons, List.all_nil, Bool.and_true, Bool.true_and, row_one O752.row] <;> rfl)) [.int .i64 x45, .int .i64 x46, v748] rfl ?_
                              intro w769 s770 B771
                              have fr772 := fr764.then s770 (fun _ e => (Option.some.inj e ▸ B768.new))
                              refine wl_nil ?_
                              refine bn ?_
                              refine qn ?_
                              refine wc_region ?_
                              refine wl_add z260 rfl ?_
                              refine wl_move (.int .i64 (IntKind.i64.wrap (x40 + 1))) rfl ?_
                              refine wl_nil ?_
                              refine qn ?_
                              have B773 := ((B754.step s751 (fun e => n68 e.symm)).stepb s770 n22)
                              have O774 := ((O758.stepo s751 n274).step s770 (.inr n66))
                              have O775 := (O752.step s770 (.inr n766))
                              exact ⟨_, _, _, (IntKind.i64.wrap (x40 + 1)), x41, x42, v43, l44, x45, x46, v748, (l48 ++ ([(⟨t74.Kind, l137, l247⟩ : ApiDeed)])), rfl, (by omega), (by omega), fr772, (Ext.trans e54 (Ext.trans s89.ext (Ext.trans s98.ext (Ext.trans s106.ext (Ext.trans s120.ext (Ext.trans e146 (Ext.trans e252 (Ext.trans s735.ext (Ext.trans s751.ext s770.ext))))))))), z255, z256, z258, z259, rfl, B773, B771, O774, n65, n66, O775, n765, n766, n757, h⟩
                            · replace h := (if_neg c745).symm.trans h
                              cases h
                      · replace h := (if_neg c239).symm.trans h
                        cases h
                    · replace h := (if_neg c238).symm.trans h
                      cases h
              · replace h := (if_neg c129).symm.trans h
                cases h
            · replace h := (if_neg c128).symm.trans h
              cases h
          · replace h := (if_neg c73).symm.trans h
            cases h
        · replace h := (if_neg c71).symm.trans h
          have b776 : (decide (x40 < (((a0.Deeds.take (Int.toNat (if a1 < (a0.Deeds.length : Int) then a1 else (a0.Deeds.length : Int)))).drop (Int.toNat 0)).length : Int))) = false := decide_eq_false c71
          refine wc_else rfl b776 ?_
          refine wc_exit ?_
          refine qe ?_
          refine qe ?_
          refine be ?_
          refine qn ?_
          refine wc_seq ?_
          refine wc_region ?_
          refine wl_loadb B63 ty24 z58 [.int .i64 x45, .int .i64 x46, v47] rfl rfl ?_
          refine wl_store B62 fr53.wf ty24 z57 [.int .i64 x45, .int .i64 x46, v47] (cells_of (v := (.agg #[.int .i64 x45, .int .i64 x46, v47])) rfl rfl) rfl (Nat.le_of_ble_eq_true rfl) (one_all [.int .i64 x45, .int .i64 x46, v47] (by simp only [List.all_cons, List.all_nil, Bool.and_true, Bool.true_and, row_one r67.row] <;> rfl)) [.int .i64 x45, .int .i64 x46, v47] rfl ?_
          intro w777 s778 B779
          have fr780 := fr53.then s778 (fun _ e => (Option.some.inj e ▸ B62.new))
          refine wl_nil ?_
          refine qn ?_
          refine wc_ret ?_
          have O781 := (r67.step s778 (.inr n68))
          have h := Option.some.inj h
          subst h
          refine end1 rfl (.cell z57 (ty24.load (l := [.int .i64 x45, .int .i64 x46, v47]) rfl (B779.cells rfl)) .nil) ?_
          exact ⟨v47, _, rfl, fr780, O781.row⟩
    · replace h := (if_neg c34).symm.trans h
      cases h
  · replace h := (if_neg c33).symm.trans h
    cases h
/-! ### consignor/blob.New: function 38 -/
def blob_New.f (k : Nat) (a0 : Int) : Option (ApiBlobs × Int) := if ((decide (a0 < 0)) || (decide (1048576 < a0))) = true then (some ((⟨[], 0, [], 0⟩ : ApiBlobs), 1)) else (some ((⟨[], a0, [], 0⟩ : ApiBlobs), 0))
set_option maxHeartbeats 1000000 in
theorem blob_New.ok (k : Nat) {w0 : World} {hw0 : Hw} (wf : Hwf w0 hw0) (a0 : Int) (r : (ApiBlobs × Int)) (h : blob_New.f k a0 = some r) :
    Calls Tryd.prog 38 #[.int .i64 a0] w0 fun e w' => ∃ (v0_0 : Value) (v0_2 : Value) (hw' : Hw), e = .returned (.tuple #[.agg #[v0_0, .int .i64 r.1.Quota, v0_2, .int .i64 r.1.Last], .int .i64 r.2]) ∧ Stp none w0 hw0 w' hw' ∧ Row KApiObject w' hw' v0_0 r.1.Objects ∧ Row KApiUpload w' hw' v0_2 r.1.Uploads := by
  have fr0 := Stp.refl none (w := w0) (hw := hw0) wf
  unfold blob_New.f at h
  refine enter (n := 13) Tryd.func38 rfl rfl (Nat.le_of_ble_eq_true rfl) ?_
  refine wc_seq ?_
  refine wc_region ?_
  refine wl_alloc fr0.wf fr0.g.size ty61 [.slice none 0 0, .int .i64 0, .slice none 0 0, .int .i64 0] rfl ?_
  intro b1 w2 s3 B4 g5
  have fr6 := fr0.then0 s3
  refine wl_assign (.int .i64 0) rfl ?_
  refine wl_nil ?_
  refine qn ?_
  refine wc_seq ?_
  refine wc_seq ?_
  refine wc_region ?_
  refine wl_move (.int .i64 a0) rfl ?_
  refine wl_lss rfl rfl ?_
  refine wl_move (.bool (decide (a0 < 0))) rfl ?_
  refine wl_join 3 [7, 8, 9] 9 (.bool ((decide (a0 < 0)) || (decide (1048576 < a0)))) ?_ ?_
  · rcases Bool.eq_false_or_eq_true (decide (a0 < 0)) with hcc | hcc
    · skip
      refine wl_off (yl rfl rfl rfl) hcc ?_
      refine wl_off (yl rfl rfl rfl) hcc ?_
      refine wl_pick_t (decide (a0 < 0)) (.bool true) rfl hcc rfl ?_
      refine wl_nil ?_
      exact qn ⟨rfl, _, rfl, (by repeat (first | exact Same.refl _ _ | refine Same.upd ?_ rfl)), (by rw [hcc]; rfl)⟩
    · skip
      refine wl_on (yl rfl rfl rfl) hcc ?_
      refine wl_move (.int .i64 a0) rfl ?_
      refine wl_on (yl rfl rfl rfl) hcc ?_
      refine wl_gtr rfl rfl ?_
      refine wl_pick_f (decide (a0 < 0)) (.bool (decide (1048576 < a0))) rfl hcc rfl ?_
      refine wl_nil ?_
      exact qn ⟨rfl, _, rfl, (by repeat (first | exact Same.refl _ _ | refine Same.upd ?_ rfl)), (by rw [hcc]; rfl)⟩
  intro _ ho7 hv8
  refine wl_nil ?_
  refine qn ?_
  by_cases c9 : ((decide (a0 < 0)) || (decide (1048576 < a0))) = true
  · replace h := (if_pos c9).symm.trans h
    refine wc_then hv8 c9 ?_
    refine wc_seq ?_
    refine wc_region ?_
    have hb10 : ∀ w, (Instr.build 61 #[]).run Tryd.prog w = .ok (.agg (List.toArray [.slice none 0 0, .int .i64 0, .slice none 0 0, .int .i64 0])) w := by intro  _; kernel_rfl
    refine wl_build [.slice none 0 0, .int .i64 0, .slice none 0 0, .int .i64 0] (pn _ _) (hb10 _) ?_
    refine wl_store B4 fr6.wf ty61 ((ho7 2 rfl).trans rfl) [.slice none 0 0, .int .i64 0, .slice none 0 0, .int .i64 0] (cells_of (v := (.agg #[.slice none 0 0, .int .i64 0, .slice none 0 0, .int .i64 0])) rfl rfl) rfl (Nat.le_of_ble_eq_true rfl) (by intro u hu; simp only [List.mem_cons, List.not_mem_nil, or_false] at hu; rcases hu with rfl | rfl | rfl | rfl <;> first | rfl | exact Dy.one _) [.slice none 0 0, .int .i64 0, .slice none 0 0, .int .i64 0] rfl ?_
    intro w11 s12 B13
    have fr14 := fr6.then s12 (fun _ e => (Option.some.inj e ▸ B4.new))
    refine wl_assign (.int .i64 1) rfl ?_
    refine wl_nil ?_
    refine qn ?_
    refine wc_ret ?_
    refine qr ?_
    have h := Option.some.inj h
    subst h
    refine end2 rfl (.cell ((ho7 2 rfl).trans rfl) (ty61.load (l := [.slice none 0 0, .int .i64 0, .slice none 0 0, .int .i64 0]) rfl (B13.cells rfl)) (.tmp rfl .nil)) ?_
    exact ⟨(.slice none 0 0), (.slice none 0 0), _, rfl, fr14, (Row.nil _ _ _), (Row.nil _ _ _)⟩
  · replace h := (if_neg c9).symm.trans h
    have b15 : ((decide (a0 < 0)) || (decide (1048576 < a0))) = false := Bool.eq_false_iff.2 c9
    refine wc_else hv8 b15 ?_
    refine wc_skip ?_
    refine qn ?_
    refine wc_seq ?_
    refine wc_region ?_
    refine wl_move (.int .i64 a0) ((ho7 0 rfl).trans rfl) ?_
    have hb16 : ∀ w, (Instr.build 61 #[(1, .int .i64 a0)]).run Tryd.prog w = .ok (.agg (List.toArray [.slice none 0 0, .int .i64 a0, .slice none 0 0, .int .i64 0])) w := by intro  _; kernel_rfl
    refine wl_build [.slice none 0 0, .int .i64 a0, .slice none 0 0, .int .i64 0] (pc rfl (pn _ _)) (hb16 _) ?_
    refine wl_store B4 fr6.wf ty61 ((ho7 2 rfl).trans rfl) [.slice none 0 0, .int .i64 a0, .slice none 0 0, .int .i64 0] (cells_of (v := (.agg #[.slice none 0 0, .int .i64 a0, .slice none 0 0, .int .i64 0])) rfl rfl) rfl (Nat.le_of_ble_eq_true rfl) (by intro u hu; simp only [List.mem_cons, List.not_mem_nil, or_false] at hu; rcases hu with rfl | rfl | rfl | rfl <;> first | rfl | exact Dy.one _) [.slice none 0 0, .int .i64 a0, .slice none 0 0, .int .i64 0] rfl ?_
    intro w17 s18 B19
    have fr20 := fr6.then s18 (fun _ e => (Option.some.inj e ▸ B4.new))
    refine wl_assign (.int .i64 0) rfl ?_
    refine wl_nil ?_
    refine qn ?_
    refine wc_ret ?_
    have h := Option.some.inj h
    subst h
    refine end2 rfl (.cell ((ho7 2 rfl).trans rfl) (ty61.load (l := [.slice none 0 0, .int .i64 a0, .slice none 0 0, .int .i64 0]) rfl (B19.cells rfl)) (.tmp rfl .nil)) ?_
    exact ⟨(.slice none 0 0), (.slice none 0 0), _, rfl, fr20, (Row.nil _ _ _), (Row.nil _ _ _)⟩
/-! ### math/bits.Mul32: function 80 -/
def bits_Mul32.f (k : Nat) (a0 : Int) (a1 : Int) : Option (Int × Int) := some ((IntKind.u32.wrap (ishr .u64 (IntKind.u64.wrap ((IntKind.u64.wrap a0) * (IntKind.u64.wrap a1))) 32)), (IntKind.u32.wrap (IntKind.u64.wrap ((IntKind.u64.wrap a0) * (IntKind.u64.wrap a1)))))
set_option maxHeartbeats 1000000 in
theorem bits_Mul32.ok (k : Nat) {w0 : World} {hw0 : Hw} (wf : Hwf w0 hw0) (a0 : Int) (a1 : Int) (r : (Int × Int)) (h : bits_Mul32.f k a0 a1 = some r) :
    Calls Tryd.prog 80 #[.int .u32 a0, .int .u32 a1] w0 fun e w' => ∃ (hw' : Hw), e = .returned (.tuple #[.int .u32 r.1, .int .u32 r.2]) ∧ Stp none w0 hw0 w' hw' := by
  have fr0 := Stp.refl none (w := w0) (hw := hw0) wf
  unfold bits_Mul32.f at h
  refine enter (n := 17) Tryd.func80 rfl rfl (Nat.le_of_ble_eq_true rfl) ?_
  refine wc_seq ?_
  refine wc_region ?_
  refine wl_assign (.int .u32 0) rfl ?_
  refine wl_assign (.int .u32 0) rfl ?_
  refine wl_nil ?_
  refine qn ?_
  refine wc_seq ?_
  refine wc_region ?_
  refine wl_move (.int .u32 a0) rfl ?_
  refine wl_conv_int Tryd.underlying126 Tryd.underlying140 rfl ?_
  refine wl_move (.int .u32 a1) rfl ?_
  refine wl_conv_int Tryd.underlying126 Tryd.underlying140 rfl ?_
  refine wl_mul rfl rfl ?_
  refine wl_assign (.int .u64 (IntKind.u64.wrap ((IntKind.u64.wrap a0) * (IntKind.u64.wrap a1)))) rfl ?_
  refine wl_nil ?_
  refine qn ?_
  refine wc_seq ?_
  refine wc_region ?_
  refine wl_move (.int .u64 (IntKind.u64.wrap ((IntKind.u64.wrap a0) * (IntKind.u64.wrap a1)))) rfl ?_
  refine wl_shr rfl rfl (by decide) ?_
  refine wl_conv_int Tryd.underlying140 Tryd.underlying126 rfl ?_
  refine wl_move (.int .u64 (IntKind.u64.wrap ((IntKind.u64.wrap a0) * (IntKind.u64.wrap a1)))) rfl ?_
  refine wl_conv_int Tryd.underlying140 Tryd.underlying126 rfl ?_
  refine wl_assign (.int .u32 (IntKind.u32.wrap (ishr .u64 (IntKind.u64.wrap ((IntKind.u64.wrap a0) * (IntKind.u64.wrap a1))) 32))) rfl ?_
  refine wl_assign (.int .u32 (IntKind.u32.wrap (IntKind.u64.wrap ((IntKind.u64.wrap a0) * (IntKind.u64.wrap a1))))) rfl ?_
  refine wl_nil ?_
  refine qn ?_
  refine wc_ret ?_
  have h := Option.some.inj h
  subst h
  refine end2 rfl (.tmp rfl (.tmp rfl .nil)) ?_
  exact ⟨_, rfl, fr0⟩
/-! ### math/bits.Mul64: function 81 -/
def bits_Mul64.f (k : Nat) (a0 : Int) (a1 : Int) : Option (Int × Int) := some ((IntKind.u64.wrap ((IntKind.u64.wrap ((IntKind.u64.wrap ((ishr .u64 a0 32) * (ishr .u64 a1 32))) + (ishr .u64 (IntKind.u64.wrap ((IntKind.u64.wrap ((ishr .u64 a0 32) * (ibits .and .u64 a1 4294967295))) + (ishr .u64 (IntKind.u64.wrap ((ibits .and .u64 a0 4294967295) * (ibits .and .u64 a1 4294967295))) 32))) 32))) + (ishr .u64 (IntKind.u64.wrap ((ibits .and .u64 (IntKind.u64.wrap ((IntKind.u64.wrap ((ishr .u64 a0 32) * (ibits .and .u64 a1 4294967295))) + (ishr .u64 (IntKind.u64.wrap ((ibits .and .u64 a0 4294967295) * (ibits .and .u64 a1 4294967295))) 32))) 4294967295) + (IntKind.u64.wrap ((ibits .and .u64 a0 4294967295) * (ishr .u64 a1 32))))) 32))), (IntKind.u64.wrap (a0 * a1)))
set_option maxHeartbeats 1000000 in
theorem bits_Mul64.ok (k : Nat) {w0 : World} {hw0 : Hw} (wf : Hwf w0 hw0) (a0 : Int) (a1 : Int) (r : (Int × Int)) (h : bits_Mul64.f k a0 a1 = some r) :
    Calls Tryd.prog 81 #[.int .u64 a0, .int .u64 a1] w0 fun e w' => ∃ (hw' : Hw), e = .returned (.tuple #[.int .u64 r.1, .int .u64 r.2]) ∧ Stp none w0 hw0 w' hw' := by
  have fr0 := Stp.refl none (w := w0) (hw := hw0) wf
  unfold bits_Mul64.f at h
  refine enter (n := 51) Tryd.func81 rfl rfl (Nat.le_of_ble_eq_true rfl) ?_
  refine wc_seq ?_
  refine wc_region ?_
  refine wl_assign (.int .u64 0) rfl ?_
  refine wl_assign (.int .u64 0) rfl ?_
  refine wl_nil ?_
  refine qn ?_
  refine wc_seq ?_
  refine wc_region ?_
  refine wl_move (.int .u64 a0) rfl ?_
  refine wl_and rfl rfl ?_
  refine wl_assign (.int .u64 (ibits .and .u64 a0 4294967295)) rfl ?_
  refine wl_nil ?_
  refine qn ?_
  refine wc_seq ?_
  refine wc_region ?_
  refine wl_move (.int .u64 a0) rfl ?_
  refine wl_shr rfl rfl (by decide) ?_
  refine wl_assign (.int .u64 (ishr .u64 a0 32)) rfl ?_
  refine wl_nil ?_
  refine qn ?_
  refine wc_seq ?_
  refine wc_region ?_
  refine wl_move (.int .u64 a1) rfl ?_
  refine wl_and rfl rfl ?_
  refine wl_assign (.int .u64 (ibits .and .u64 a1 4294967295)) rfl ?_
  refine wl_nil ?_
  refine qn ?_
  refine wc_seq ?_
  refine wc_region ?_
  refine wl_move (.int .u64 a1) rfl ?_
  refine wl_shr rfl rfl (by decide) ?_
  refine wl_assign (.int .u64 (ishr .u64 a1 32)) rfl ?_
  refine wl_nil ?_
  refine qn ?_
  refine wc_seq ?_
  refine wc_region ?_
  refine wl_move (.int .u64 (ibits .and .u64 a0 4294967295)) rfl ?_
  refine wl_move (.int .u64 (ibits .and .u64 a1 4294967295)) rfl ?_
  refine wl_mul rfl rfl ?_
  refine wl_assign (.int .u64 (IntKind.u64.wrap ((ibits .and .u64 a0 4294967295) * (ibits .and .u64 a1 4294967295)))) rfl ?_
  refine wl_nil ?_
  refine qn ?_
  refine wc_seq ?_
  refine wc_region ?_
  refine wl_move (.int .u64 (ishr .u64 a0 32)) rfl ?_
  refine wl_move (.int .u64 (ibits .and .u64 a1 4294967295)) rfl ?_
  refine wl_mul rfl rfl ?_
  refine wl_move (.int .u64 (IntKind.u64.wrap ((ibits .and .u64 a0 4294967295) * (ibits .and .u64 a1 4294967295)))) rfl ?_
  refine wl_shr rfl rfl (by decide) ?_
  refine wl_add rfl rfl ?_
  refine wl_assign (.int .u64 (IntKind.u64.wrap ((IntKind.u64.wrap ((ishr .u64 a0 32) * (ibits .and .u64 a1 4294967295))) + (ishr .u64 (IntKind.u64.wrap ((ibits .and .u64 a0 4294967295) * (ibits .and .u64 a1 4294967295))) 32)))) rfl ?_
  refine wl_nil ?_
  refine qn ?_
  refine wc_seq ?_
  refine wc_region ?_
  refine wl_move (.int .u64 (IntKind.u64.wrap ((IntKind.u64.wrap ((ishr .u64 a0 32) * (ibits .and .u64 a1 4294967295))) + (ishr .u64 (IntKind.u64.wrap ((ibits .and .u64 a0 4294967295) * (ibits .and .u64 a1 4294967295))) 32)))) rfl ?_
  refine wl_and rfl rfl ?_
  refine wl_assign (.int .u64 (ibits .and .u64 (IntKind.u64.wrap ((IntKind.u64.wrap ((ishr .u64 a0 32) * (ibits .and .u64 a1 4294967295))) + (ishr .u64 (IntKind.u64.wrap ((ibits .and .u64 a0 4294967295) * (ibits .and .u64 a1 4294967295))) 32))) 4294967295)) rfl ?_
  refine wl_nil ?_
  refine qn ?_
  refine wc_seq ?_
  refine wc_region ?_
  refine wl_move (.int .u64 (IntKind.u64.wrap ((IntKind.u64.wrap ((ishr .u64 a0 32) * (ibits .and .u64 a1 4294967295))) + (ishr .u64 (IntKind.u64.wrap ((ibits .and .u64 a0 4294967295) * (ibits .and .u64 a1 4294967295))) 32)))) rfl ?_
  refine wl_shr rfl rfl (by decide) ?_
  refine wl_assign (.int .u64 (ishr .u64 (IntKind.u64.wrap ((IntKind.u64.wrap ((ishr .u64 a0 32) * (ibits .and .u64 a1 4294967295))) + (ishr .u64 (IntKind.u64.wrap ((ibits .and .u64 a0 4294967295) * (ibits .and .u64 a1 4294967295))) 32))) 32)) rfl ?_
  refine wl_nil ?_
  refine qn ?_
  refine wc_seq ?_
  refine wc_region ?_
  refine wl_move (.int .u64 (ibits .and .u64 (IntKind.u64.wrap ((IntKind.u64.wrap ((ishr .u64 a0 32) * (ibits .and .u64 a1 4294967295))) + (ishr .u64 (IntKind.u64.wrap ((ibits .and .u64 a0 4294967295) * (ibits .and .u64 a1 4294967295))) 32))) 4294967295)) rfl ?_
  refine wl_move (.int .u64 (ibits .and .u64 a0 4294967295)) rfl ?_
  refine wl_move (.int .u64 (ishr .u64 a1 32)) rfl ?_
  refine wl_mul rfl rfl ?_
  refine wl_add rfl rfl ?_
  refine wl_assign (.int .u64 (IntKind.u64.wrap ((ibits .and .u64 (IntKind.u64.wrap ((IntKind.u64.wrap ((ishr .u64 a0 32) * (ibits .and .u64 a1 4294967295))) + (ishr .u64 (IntKind.u64.wrap ((ibits .and .u64 a0 4294967295) * (ibits .and .u64 a1 4294967295))) 32))) 4294967295) + (IntKind.u64.wrap ((ibits .and .u64 a0 4294967295) * (ishr .u64 a1 32)))))) rfl ?_
  refine wl_nil ?_
  refine qn ?_
  refine wc_seq ?_
  refine wc_region ?_
  refine wl_move (.int .u64 (ishr .u64 a0 32)) rfl ?_
  refine wl_move (.int .u64 (ishr .u64 a1 32)) rfl ?_
  refine wl_mul rfl rfl ?_
  refine wl_move (.int .u64 (ishr .u64 (IntKind.u64.wrap ((IntKind.u64.wrap ((ishr .u64 a0 32) * (ibits .and .u64 a1 4294967295))) + (ishr .u64 (IntKind.u64.wrap ((ibits .and .u64 a0 4294967295) * (ibits .and .u64 a1 4294967295))) 32))) 32)) rfl ?_
  refine wl_add rfl rfl ?_
  refine wl_move (.int .u64 (IntKind.u64.wrap ((ibits .and .u64 (IntKind.u64.wrap ((IntKind.u64.wrap ((ishr .u64 a0 32) * (ibits .and .u64 a1 4294967295))) + (ishr .u64 (IntKind.u64.wrap ((ibits .and .u64 a0 4294967295) * (ibits .and .u64 a1 4294967295))) 32))) 4294967295) + (IntKind.u64.wrap ((ibits .and .u64 a0 4294967295) * (ishr .u64 a1 32)))))) rfl ?_
  refine wl_shr rfl rfl (by decide) ?_
  refine wl_add rfl rfl ?_
  refine wl_assign (.int .u64 (IntKind.u64.wrap ((IntKind.u64.wrap ((IntKind.u64.wrap ((ishr .u64 a0 32) * (ishr .u64 a1 32))) + (ishr .u64 (IntKind.u64.wrap ((IntKind.u64.wrap ((ishr .u64 a0 32) * (ibits .and .u64 a1 4294967295))) + (ishr .u64 (IntKind.u64.wrap ((ibits .and .u64 a0 4294967295) * (ibits .and .u64 a1 4294967295))) 32))) 32))) + (ishr .u64 (IntKind.u64.wrap ((ibits .and .u64 (IntKind.u64.wrap ((IntKind.u64.wrap ((ishr .u64 a0 32) * (ibits .and .u64 a1 4294967295))) + (ishr .u64 (IntKind.u64.wrap ((ibits .and .u64 a0 4294967295) * (ibits .and .u64 a1 4294967295))) 32))) 4294967295) + (IntKind.u64.wrap ((ibits .and .u64 a0 4294967295) * (ishr .u64 a1 32))))) 32)))) rfl ?_
  refine wl_nil ?_
  refine qn ?_
  refine wc_seq ?_
  refine wc_region ?_
  refine wl_move (.int .u64 a0) rfl ?_
  refine wl_move (.int .u64 a1) rfl ?_
  refine wl_mul rfl rfl ?_
  refine wl_assign (.int .u64 (IntKind.u64.wrap (a0 * a1))) rfl ?_
  refine wl_nil ?_
  refine qn ?_
  refine wc_ret ?_
  have h := Option.some.inj h
  subst h
  refine end2 rfl (.tmp rfl (.tmp rfl .nil)) ?_
  exact ⟨_, rfl, fr0⟩
/-! ### math/bits.Mul: function 71 -/
def bits_Mul.f (k : Nat) (a0 : Int) (a1 : Int) : Option (Int × Int) := (bits_Mul64.f k a0 a1).bind fun t1 => (some (t1.1, t1.2))
set_option maxHeartbeats 1000000 in
theorem bits_Mul.ok (k : Nat) {w0 : World} {hw0 : Hw} (wf : Hwf w0 hw0) (a0 : Int) (a1 : Int) (r : (Int × Int)) (h : bits_Mul.f k a0 a1 = some r) :
    Calls Tryd.prog 71 #[.int .u64 a0, .int .u64 a1] w0 fun e w' => ∃ (hw' : Hw), e = .returned (.tuple #[.int .u64 r.1, .int .u64 r.2]) ∧ Stp none w0 hw0 w' hw' := by
  have fr0 := Stp.refl none (w := w0) (hw := hw0) wf
  unfold bits_Mul.f at h
  refine enter (n := 30) Tryd.func71 rfl rfl (Nat.le_of_ble_eq_true rfl) ?_
  refine wc_seq ?_
  refine wc_region ?_
  refine wl_assign (.int .u64 0) rfl ?_
  refine wl_assign (.int .u64 0) rfl ?_
  refine wl_nil ?_
  refine qn ?_
  refine wc_seq ?_
  refine wc_else rfl rfl ?_
  refine wc_skip ?_
  refine qn ?_
  refine wc_seq ?_
  refine wc_region ?_
  refine wl_move (.int .u64 a0) rfl ?_
  refine wl_move (.int .u64 a1) rfl ?_
  obtain ⟨t1, h2, h⟩ := Option.bind_eq_some_iff.1 h
  refine wl_call [.int .u64 a0, .int .u64 a1] bod81 (mc rfl (mc rfl (mn _))) (bits_Mul64.ok k fr0.wf a0 a1 _ h2) ?_
  rintro e3 w4 ⟨hw5, rfl, s6⟩
  refine ⟨_, rfl, ?_⟩
  have fr7 := fr0.then0 s6
  refine wl_move (.tuple #[.int .u64 t1.1, .int .u64 t1.2]) rfl ?_
  refine wl_extract (vs := [.int .u64 t1.1, .int .u64 t1.2]) (.int .u64 t1.1) rfl rfl ?_
  refine wl_extract (vs := [.int .u64 t1.1, .int .u64 t1.2]) (.int .u64 t1.2) rfl rfl ?_
  refine wl_assign (.int .u64 t1.1) rfl ?_
  refine wl_assign (.int .u64 t1.2) rfl ?_
  refine wl_nil ?_
  refine qn ?_
  refine wc_seq ?_
  refine wc_region ?_
  refine wl_move (.int .u64 t1.1) rfl ?_
  refine wl_move (.int .u64 t1.2) rfl ?_
  refine wl_assign (.int .u64 t1.1) rfl ?_
  refine wl_assign (.int .u64 t1.2) rfl ?_
  refine wl_nil ?_
  refine qn ?_
  refine wc_ret ?_
  have h := Option.some.inj h
  subst h
  refine end2 rfl (.tmp rfl (.tmp rfl .nil)) ?_
  exact ⟨_, rfl, fr7⟩
/-! ### slices.Repeat[[]string,string]: function 64 -/
mutual
def slices_Repeat_string_string.l2 : Nat → (Int × Int) → Int → (List (List UInt8)) → Option (List (List UInt8))
  | 0, _, _, _ => none
  | k + 1, t17, x50, x51 => if x50 < ((Int.toNat (IntKind.i64.wrap t17.2)) : Int) then (if 0 ≤ x50 ∧ x50 ≤ ((Int.toNat (IntKind.i64.wrap t17.2)) : Int) ∧ ((Int.toNat (IntKind.i64.wrap t17.2)) : Int) ≤ ((Int.toNat (IntKind.i64.wrap t17.2)) : Int) ∧ x50 < ((Int.toNat (IntKind.i64.wrap t17.2)) : Int) then (if 0 ≤ (0 : Int) ∧ (0 : Int) ≤ x50 ∧ x50 ≤ ((Int.toNat (IntKind.i64.wrap t17.2)) : Int) ∧ (0 : Int) < ((Int.toNat (IntKind.i64.wrap t17.2)) : Int) then (slices_Repeat_string_string.l2 k t17 (IntKind.i64.wrap (x50 + (((x51.take (Int.toNat x50 - Int.toNat (0 : Int))).take (Int.toNat ((Int.toNat (IntKind.i64.wrap t17.2)) : Int) - Int.toNat x50)).length : Int))) (x51.take (Int.toNat x50) ++ (x51.take (Int.toNat x50 - Int.toNat (0 : Int))).take (Int.toNat ((Int.toNat (IntKind.i64.wrap t17.2)) : Int) - Int.toNat x50) ++ x51.drop (Int.toNat x50 + ((x51.take (Int.toNat x50 - Int.toNat (0 : Int))).take (Int.toNat ((Int.toNat (IntKind.i64.wrap t17.2)) : Int) - Int.toNat x50)).length))) else none) else none) else (if x51 ≠ [] then (some x51) else none)
def slices_Repeat_string_string.j1 : Nat → (List (List UInt8)) → (Int × Int) → Option (List (List UInt8))
  | 0, _, _ => none
  | k + 1, a0, t17 => if 0 ≤ (IntKind.i64.wrap t17.2) ∧ (16 : Int) * (IntKind.i64.wrap t17.2) ≤ 281474976710656 ∧ (IntKind.i64.wrap t17.2) ≤ 9223372036854775807 then (if 0 < a0.length then (slices_Repeat_string_string.l2 k t17 ((a0.take (Int.toNat (IntKind.i64.wrap t17.2))).length : Int) ((List.replicate (Int.toNat (IntKind.i64.wrap t17.2)) []).take (0) ++ a0.take (Int.toNat (IntKind.i64.wrap t17.2)) ++ (List.replicate (Int.toNat (IntKind.i64.wrap t17.2)) []).drop (0 + (a0.take (Int.toNat (IntKind.i64.wrap t17.2))).length))) else none) else none
def slices_Repeat_string_string.j0 : Nat → (List (List UInt8)) → Int → Option (List (List UInt8))
  | 0, _, _ => none
  | k + 1, a0, a1 => (bits_Mul.f k (IntKind.u64.wrap (a0.length : Int)) (IntKind.u64.wrap a1)).bind fun t17 => (if ((decide (0 < t17.1)) || (decide (9223372036854775807 < t17.2))) = true then none else (slices_Repeat_string_string.j1 k a0 t17))
end
def slices_Repeat_string_string.f (k : Nat) (a0 : (List (List UInt8))) (a1 : Int) : Option (List (List UInt8)) := if a1 < 0 then none else (slices_Repeat_string_string.j0 k a0 a1)
set_option maxHeartbeats 1000000 in
theorem slices_Repeat_string_string.ok (k : Nat) {w0 : World} {hw0 : Hw} (wf : Hwf w0 hw0) (a0 : (List (List UInt8))) (a1 : Int) (v0_ : Value) (q0 : Row Kstr w0 hw0 v0_ a0) (r : (List (List UInt8))) (h : slices_Repeat_string_string.f k a0 a1 = some r) :
    Calls Tryd.prog 64 #[v0_, .int .i64 a1] w0 fun e w' => ∃ (v0 : Value) (hw' : Hw), e = .returned (v0) ∧ Stp none w0 hw0 w' hw' ∧ MV Kstr 9 w0.heap.size w' hw' v0 r := by
  have fr0 := Stp.refl none (w := w0) (hw := hw0) wf
  unfold slices_Repeat_string_string.f at h
  refine enter (n := 48) Tryd.func64 rfl rfl (Nat.le_of_ble_eq_true rfl) ?_
  refine wc_seq ?_
  refine wc_region ?_
  refine wl_assign (.slice none 0 0) rfl ?_
  refine wl_nil ?_
  refine qn ?_
  refine wc_cut (fun a w => ∃ (σ : Nat → Value) (hw : Hw) (kq : Nat), a = mkA 48 σ ∧ kq ≤ k ∧ kq ≤ k ∧ Stp none w0 hw0 w hw ∧ Ext w0 hw0 w hw ∧ σ 0 = v0_ ∧ σ 1 = .int .i64 a1 ∧ slices_Repeat_string_string.j0 kq a0 a1 = some r) ?_ ?_
  · skip
    refine wc_seq ?_
    refine wc_region ?_
    refine wl_move (.int .i64 a1) rfl ?_
    refine wl_lss rfl rfl ?_
    refine wl_nil ?_
    refine qn ?_
    by_cases c1 : a1 < 0
    · replace h := (if_pos c1).symm.trans h
      have b2 : (decide (a1 < 0)) = true := decide_eq_true c1
      refine wc_then rfl b2 ?_
      refine wc_region ?_
      refine wl_mki (.string (bs ([99, 97, 110, 110, 111, 116, 32, 98, 101, 32, 110, 101, 103, 97, 116, 105, 118, 101] : List UInt8))) rfl mki9 ?_
      cases h
    · replace h := (if_neg c1).symm.trans h
      have b3 : (decide (a1 < 0)) = false := decide_eq_false c1
      refine wc_else rfl b3 ?_
      refine wc_skip ?_
      refine qn ?_
      exact ⟨_, _, _, rfl, (by omega), (by omega), fr0, (Ext.refl _ _), rfl, rfl, h⟩
  · rintro _ w4 ⟨_, hw5, k6, rfl, hk9, hk10, fr7, e8, z11, z12, h⟩
    rcases k6 with _ | k6
    · rw [slices_Repeat_string_string.j0] at h; cases h
    rw [slices_Repeat_string_string.j0] at h
    refine wc_seq ?_
    refine wc_region ?_
    refine wl_move (v0_) z11 ?_
    have f16 := q0.ext (e8)
    obtain ⟨A13, c14, hv15⟩ := (f16).slice
    refine wl_len Tryd.underlying36 (show _ = Value.slice _ a0.length _ from (Eq.trans rfl hv15)) ?_
    refine wl_conv_int Tryd.underlying3 Tryd.underlying120 rfl ?_
    refine wl_move (.int .i64 a1) z12 ?_
    refine wl_conv_int Tryd.underlying3 Tryd.underlying120 rfl ?_
    obtain ⟨t17, h18, h⟩ := Option.bind_eq_some_iff.1 h
    refine wl_call [.int .u64 (IntKind.u64.wrap (a0.length : Int)), .int .u64 (IntKind.u64.wrap a1)] bod71 (mc rfl (mc rfl (mn _))) (bits_Mul.ok k6 fr7.wf (IntKind.u64.wrap (a0.length : Int)) (IntKind.u64.wrap a1) _ h18) ?_
    rintro e19 w20 ⟨hw21, rfl, s22⟩
    refine ⟨_, rfl, ?_⟩
    have fr23 := fr7.then0 s22
    refine wl_move (.tuple #[.int .u64 t17.1, .int .u64 t17.2]) rfl ?_
    refine wl_extract (vs := [.int .u64 t17.1, .int .u64 t17.2]) (.int .u64 t17.1) rfl rfl ?_
    refine wl_extract (vs := [.int .u64 t17.1, .int .u64 t17.2]) (.int .u64 t17.2) rfl rfl ?_
    refine wl_assign (.int .u64 t17.1) rfl ?_
    refine wl_assign (.int .u64 t17.2) rfl ?_
    refine wl_nil ?_
    refine qn ?_
    refine wc_cut (fun a w => ∃ (σ : Nat → Value) (hw : Hw) (kq : Nat), a = mkA 48 σ ∧ kq ≤ k6 ∧ kq ≤ k6 ∧ Stp none w0 hw0 w hw ∧ Ext w20 hw21 w hw ∧ σ 0 = v0_ ∧ σ 6 = .int .u64 t17.2 ∧ slices_Repeat_string_string.j1 kq a0 t17 = some r) ?_ ?_
    · skip
      refine wc_seq ?_
      refine wc_region ?_
      refine wl_move (.int .u64 t17.1) rfl ?_
      refine wl_gtr rfl rfl ?_
      refine wl_move (.bool (decide (0 < t17.1))) rfl ?_
      refine wl_join 3 [24, 25, 26] 26 (.bool ((decide (0 < t17.1)) || (decide (9223372036854775807 < t17.2)))) ?_ ?_
      · rcases Bool.eq_false_or_eq_true (decide (0 < t17.1)) with hcc | hcc
        · skip
          refine wl_off (yl rfl rfl rfl) hcc ?_
          refine wl_off (yl rfl rfl rfl) hcc ?_
          refine wl_pick_t (decide (0 < t17.1)) (.bool true) rfl hcc rfl ?_
          refine wl_nil ?_
          exact qn ⟨rfl, _, rfl, (by repeat (first | exact Same.refl _ _ | refine Same.upd ?_ rfl)), (by rw [hcc]; rfl)⟩
        · skip
          refine wl_on (yl rfl rfl rfl) hcc ?_
          refine wl_move (.int .u64 t17.2) rfl ?_
          refine wl_on (yl rfl rfl rfl) hcc ?_
          refine wl_gtr rfl rfl ?_
          refine wl_pick_f (decide (0 < t17.1)) (.bool (decide (9223372036854775807 < t17.2))) rfl hcc rfl ?_
          refine wl_nil ?_
          exact qn ⟨rfl, _, rfl, (by repeat (first | exact Same.refl _ _ | refine Same.upd ?_ rfl)), (by rw [hcc]; rfl)⟩
      intro _ ho24 hv25
      refine wl_nil ?_
      refine qn ?_
      by_cases c26 : ((decide (0 < t17.1)) || (decide (9223372036854775807 < t17.2))) = true
      · replace h := (if_pos c26).symm.trans h
        refine wc_then hv25 c26 ?_
        refine wc_region ?_
        refine wl_mki (.string (bs ([116, 104, 101, 32, 114, 101, 115, 117, 108, 116, 32, 111, 102, 32, 40, 108, 101, 110, 40, 120, 41, 32, 42, 32, 99, 111, 117, 110, 116, 41, 32, 111, 118, 101, 114, 102, 108, 111, 119, 115] : List UInt8))) rfl mki9 ?_
        cases h
      · replace h := (if_neg c26).symm.trans h
        have b27 : ((decide (0 < t17.1)) || (decide (9223372036854775807 < t17.2))) = false := Bool.eq_false_iff.2 c26
        refine wc_else hv25 b27 ?_
        refine wc_skip ?_
        refine qn ?_
        exact ⟨_, _, _, rfl, (by omega), (by omega), fr23, (Ext.refl _ _), ((ho24 0 rfl).trans z11), ((ho24 6 rfl).trans rfl), h⟩
    · rintro _ w28 ⟨_, hw29, k30, rfl, hk33, hk34, fr31, e32, z35, z36, h⟩
      rcases k30 with _ | k30
      · rw [slices_Repeat_string_string.j1] at h; cases h
      rw [slices_Repeat_string_string.j1] at h
      refine wc_seq ?_
      refine wc_region ?_
      refine wl_move (.int .u64 t17.2) z36 ?_
      refine wl_conv_int Tryd.underlying120 Tryd.underlying3 rfl ?_
      by_cases c37 : 0 ≤ (IntKind.i64.wrap t17.2) ∧ (16 : Int) * (IntKind.i64.wrap t17.2) ≤ 281474976710656 ∧ (IntKind.i64.wrap t17.2) ≤ 9223372036854775807
      · replace h := (if_pos c37).symm.trans h
        refine wl_make (enc := fun l => Value.string (bs l)) (h1 := fun _ => rfl) [] Tryd.underlying36 ty9 fr31.wf fr31.g.size rfl c37.1 c37.2.1 c37.2.2 rfl ?_
        intro b38 w39 s40 B41 g42
        have fr43 := fr31.then0 s40
        refine wl_assign (.slice (some ⟨b38, 0, none⟩) (Int.toNat (IntKind.i64.wrap t17.2)) (Int.toNat (IntKind.i64.wrap t17.2))) rfl ?_
        refine wl_nil ?_
        refine qn ?_
        refine wc_seq ?_
        refine wc_region ?_
        refine wl_move (.slice (some ⟨b38, 0, none⟩) (Int.toNat (IntKind.i64.wrap t17.2)) (Int.toNat (IntKind.i64.wrap t17.2))) rfl ?_
        refine wl_move (v0_) z35 ?_
        by_cases c44 : 0 < a0.length
        · replace h := (if_pos c44).symm.trans h
          have f45 := f16.ext (s22.ext.trans (e32.trans (s40.ext)))
          refine wl_copyrow (enc := fun l => Value.string (bs l)) (h1 := fun _ => rfl) B41 fr43.wf Tryd.underlying36 ty9 rfl f45 c44 rfl (by omega) ?_
          intro w46 s47 B48
          have fr49 := fr43.then s47 (fun _ e => (Option.some.inj e ▸ B41.new))
          refine wl_assign (.int .i64 ((a0.take (Int.toNat (IntKind.i64.wrap t17.2))).length : Int)) rfl ?_
          refine wl_nil ?_
          refine qn ?_
          refine wc_seq ?_
          refine wc_block ?_
          refine wc_loop (fun m a w => ∃ (σ : Nat → Value) (hw : Hw) (kq : Nat) (x50 : Int) (x51 : (List (List UInt8))), a = mkA 48 σ ∧ kq ≤ m ∧ kq ≤ k30 ∧ Stp none w0 hw0 w hw ∧ Ext w46 hw29 w hw ∧ σ 7 = .slice (some ⟨b38, 0, none⟩) (Int.toNat (IntKind.i64.wrap t17.2)) (Int.toNat (IntKind.i64.wrap t17.2)) ∧ σ 8 = .int .i64 x50 ∧ MutN Kstr 9 w0.heap.size w hw b38 (Int.toNat (IntKind.i64.wrap t17.2)) (Int.toNat (IntKind.i64.wrap t17.2)) x51 ∧ slices_Repeat_string_string.l2 kq t17 x50 x51 = some r) k30 ?_ ?_ ?_
          · skip
            exact ⟨_, _, _, ((a0.take (Int.toNat (IntKind.i64.wrap t17.2))).length : Int), ((List.replicate (Int.toNat (IntKind.i64.wrap t17.2)) []).take (0) ++ a0.take (Int.toNat (IntKind.i64.wrap t17.2)) ++ (List.replicate (Int.toNat (IntKind.i64.wrap t17.2)) []).drop (0 + (a0.take (Int.toNat (IntKind.i64.wrap t17.2))).length)), rfl, (Nat.le_refl _), (Nat.le_refl _), fr49, (Ext.refl _ _), rfl, rfl, B48, h⟩
          · rintro _ _ ⟨_, hw53, k54, x50, x51, rfl, hk57, hk58, fr55, e56, z59, z60, B61, h⟩; obtain rfl := Nat.le_zero.1 hk57; rw [slices_Repeat_string_string.l2] at h; cases h
          · rintro m2 _ w52 ⟨_, hw53, k54, x50, x51, rfl, hk57, hk58, fr55, e56, z59, z60, B61, h⟩
            rcases k54 with _ | k54
            · rw [slices_Repeat_string_string.l2] at h; cases h
            rw [slices_Repeat_string_string.l2] at h
            refine wc_seq ?_
            refine wc_seq ?_
            refine wc_region ?_
            refine wl_move (.int .i64 x50) z60 ?_
            refine wl_move (.slice (some ⟨b38, 0, none⟩) (Int.toNat (IntKind.i64.wrap t17.2)) (Int.toNat (IntKind.i64.wrap t17.2))) z59 ?_
            refine wl_len Tryd.underlying36 (show _ = Value.slice _ (Int.toNat (IntKind.i64.wrap t17.2)) _ from rfl) ?_
            refine wl_lss rfl rfl ?_
            refine wl_nil ?_
            refine qn ?_
            by_cases c62 : x50 < ((Int.toNat (IntKind.i64.wrap t17.2)) : Int)
            · replace h := (if_pos c62).symm.trans h
              have b63 : (decide (x50 < ((Int.toNat (IntKind.i64.wrap t17.2)) : Int))) = true := decide_eq_true c62
              refine wc_then rfl b63 ?_
              refine wc_skip ?_
              refine qn ?_
              refine wc_block ?_
              have s64 := Stp.drew (w := w52) (hw := hw53) fr55.wf
              have fr65 := fr55.then0 s64
              have B66 := (B61.step0 s64)
              by_cases c68 : 0 ≤ x50 ∧ x50 ≤ ((Int.toNat (IntKind.i64.wrap t17.2)) : Int) ∧ ((Int.toNat (IntKind.i64.wrap t17.2)) : Int) ≤ ((Int.toNat (IntKind.i64.wrap t17.2)) : Int) ∧ x50 < ((Int.toNat (IntKind.i64.wrap t17.2)) : Int)
              · replace h := (if_pos c68).symm.trans h
                by_cases c69 : 0 ≤ (0 : Int) ∧ (0 : Int) ≤ x50 ∧ x50 ≤ ((Int.toNat (IntKind.i64.wrap t17.2)) : Int) ∧ (0 : Int) < ((Int.toNat (IntKind.i64.wrap t17.2)) : Int)
                · replace h := (if_pos c69).symm.trans h
                  refine wc_any (hw := hw53) mixed [[], [], [], [1, 2], [], [], [4, 5], [3, 6], [0, 7], [8, 7, 0, 1, 2, 3, 4, 5, 6, 7, 8]] [38, 39, 40, 41, 42, 43, 44, 45, 46, 8] (by kernel_rfl) (PhiOf [fun v w hw => v = .int .i64 x50, fun v w hw => v = .slice (some ⟨b38, 0, none⟩) (Int.toNat (IntKind.i64.wrap t17.2)) (Int.toNat (IntKind.i64.wrap t17.2)), fun v w hw => v = .int .i64 x50, fun v w hw => v = .slice (some ⟨b38, Int.toNat x50, none⟩) (Int.toNat ((Int.toNat (IntKind.i64.wrap t17.2)) : Int) - Int.toNat x50) ((Int.toNat (IntKind.i64.wrap t17.2)) - Int.toNat x50), fun v w hw => v = .slice (some ⟨b38, 0, none⟩) (Int.toNat (IntKind.i64.wrap t17.2)) (Int.toNat (IntKind.i64.wrap t17.2)), fun v w hw => v = .int .i64 x50, fun v w hw => v = .slice (some ⟨b38, Int.toNat (0 : Int), none⟩) (Int.toNat x50 - Int.toNat (0 : Int)) ((Int.toNat (IntKind.i64.wrap t17.2)) - Int.toNat (0 : Int)), fun v w hw => v = .int .i64 (((x51.take (Int.toNat x50 - Int.toNat (0 : Int))).take (Int.toNat ((Int.toNat (IntKind.i64.wrap t17.2)) : Int) - Int.toNat x50)).length : Int), fun v w hw => v = .int .i64 (IntKind.i64.wrap (x50 + (((x51.take (Int.toNat x50 - Int.toNat (0 : Int))).take (Int.toNat ((Int.toNat (IntKind.i64.wrap t17.2)) : Int) - Int.toNat x50)).length : Int))), fun v w hw => v = .int .i64 (IntKind.i64.wrap (x50 + (((x51.take (Int.toNat x50 - Int.toNat (0 : Int))).take (Int.toNat ((Int.toNat (IntKind.i64.wrap t17.2)) : Int) - Int.toNat x50)).length : Int)))]) (fun D σ w hw => Stp none w0 hw0 w hw ∧ Ext (w52).drew hw53 w hw ∧ MutN Kstr 9 w0.heap.size w hw b38 (Int.toNat (IntKind.i64.wrap t17.2)) (Int.toNat (IntKind.i64.wrap t17.2)) (bif D 7 then (x51.take (Int.toNat x50) ++ (x51.take (Int.toNat x50 - Int.toNat (0 : Int))).take (Int.toNat ((Int.toNat (IntKind.i64.wrap t17.2)) : Int) - Int.toNat x50) ++ x51.drop (Int.toNat x50 + ((x51.take (Int.toNat x50 - Int.toNat (0 : Int))).take (Int.toNat ((Int.toNat (IntKind.i64.wrap t17.2)) : Int) - Int.toNat x50)).length)) else x51) ∧ (bif D 9 then True else σ 8 = .int .i64 x50)) (stab_of (sbc (fun _ _ _ _ _ _ h => h) (sbc (fun _ _ _ _ _ _ h => h) (sbc (fun _ _ _ _ _ _ h => h) (sbc (fun _ _ _ _ _ _ h => h) (sbc (fun _ _ _ _ _ _ h => h) (sbc (fun _ _ _ _ _ _ h => h) (sbc (fun _ _ _ _ _ _ h => h) (sbc (fun _ _ _ _ _ _ h => h) (sbc (fun _ _ _ _ _ _ h => h) (sbc (fun _ _ _ _ _ _ h => h) sbn))))))))))) ?_ (stc ?_ (stc ?_ (stc ?_ (stc ?_ (stc ?_ (stc ?_ (stc ?_ (stc ?_ (stc ?_ (stc ?_ stn)))))))))) ?_
                  · exact ⟨fr65, Ext.refl _ _, B66, z60⟩
                  · intro D74 σ75 w76 hw77 q78 q79 q80 q81 q82 q83
                    obtain ⟨fr84, e85, C86, C87⟩ := q78
                    have z88 := bif_f (q83 9 rfl) C87
                    refine wl_move (.int .i64 x50) z88 ?_
                    refine wl_nil ?_
                    exact qn ⟨_, _, rfl, (Ext.refl _ _), ⟨fr84, e85.trans (Ext.refl _ _), C86, C87⟩, (aft_some rfl)⟩
                  · intro D89 σ90 w91 hw92 q93 q94 q95 q96 q97 q98
                    obtain ⟨fr99, e100, C101, C102⟩ := q93
                    have B103 := C101
                    rw [show D89 7 = false from (q98 7 rfl)] at B103
                    refine wl_move (.slice (some ⟨b38, 0, none⟩) (Int.toNat (IntKind.i64.wrap t17.2)) (Int.toNat (IntKind.i64.wrap t17.2))) ((q96 7 rfl).trans z59) ?_
                    refine wl_nil ?_
                    exact qn ⟨_, _, rfl, (Ext.refl _ _), ⟨fr99, e100.trans (Ext.refl _ _), (mut_bif_f (q98 7 rfl) B103), C102⟩, (aft_some rfl)⟩
                  · intro D104 σ105 w106 hw107 q108 q109 q110 q111 q112 q113
                    obtain ⟨fr114, e115, C116, C117⟩ := q108
                    have B118 := C116
                    rw [show D104 7 = false from (q113 7 rfl)] at B118
                    have z119 := bif_f (q113 9 rfl) C117
                    refine wl_move (.int .i64 x50) z119 ?_
                    refine wl_nil ?_
                    exact qn ⟨_, _, rfl, (Ext.refl _ _), ⟨fr114, e115.trans (Ext.refl _ _), (mut_bif_f (q113 7 rfl) B118), C117⟩, (aft_some rfl)⟩
                  · intro D120 σ121 w122 hw123 q124 q125 q126 q127 q128 q129
                    obtain ⟨fr130, e131, C132, C133⟩ := q124
                    have B134 := C132
                    rw [show D120 7 = false from (q129 7 rfl)] at B134
                    obtain ⟨⟨_, m135⟩, ⟨_, m136⟩, _⟩ := q126
                    have z137 : (σ121 39) = .slice (some ⟨b38, 0, none⟩) (Int.toNat (IntKind.i64.wrap t17.2)) (Int.toNat (IntKind.i64.wrap t17.2)) := m135
                    have z138 : (σ121 40) = .int .i64 x50 := m136
                    refine wl_cutlo Tryd.underlying36 ty9 z137 (Bd.yes z138) Bd.no c68.1 c68.2.1 c68.2.2.1 c68.2.2.2 ?_
                    refine wl_nil ?_
                    exact qn ⟨_, _, rfl, (Ext.refl _ _), ⟨fr130, e131.trans (Ext.refl _ _), (mut_bif_f (q129 7 rfl) B134), C133⟩, (aft_some rfl)⟩
                  · intro D139 σ140 w141 hw142 q143 q144 q145 q146 q147 q148
                    obtain ⟨fr149, e150, C151, C152⟩ := q143
                    have B153 := C151
                    rw [show D139 7 = false from (q148 7 rfl)] at B153
                    refine wl_move (.slice (some ⟨b38, 0, none⟩) (Int.toNat (IntKind.i64.wrap t17.2)) (Int.toNat (IntKind.i64.wrap t17.2))) ((q146 7 rfl).trans z59) ?_
                    refine wl_nil ?_
                    exact qn ⟨_, _, rfl, (Ext.refl _ _), ⟨fr149, e150.trans (Ext.refl _ _), (mut_bif_f (q148 7 rfl) B153), C152⟩, (aft_some rfl)⟩
                  · intro D154 σ155 w156 hw157 q158 q159 q160 q161 q162 q163
                    obtain ⟨fr164, e165, C166, C167⟩ := q158
                    have B168 := C166
                    rw [show D154 7 = false from (q163 7 rfl)] at B168
                    have z169 := bif_f (q163 9 rfl) C167
                    refine wl_move (.int .i64 x50) z169 ?_
                    refine wl_nil ?_
                    exact qn ⟨_, _, rfl, (Ext.refl _ _), ⟨fr164, e165.trans (Ext.refl _ _), (mut_bif_f (q163 7 rfl) B168), C167⟩, (aft_some rfl)⟩
                  · intro D170 σ171 w172 hw173 q174 q175 q176 q177 q178 q179
                    obtain ⟨fr180, e181, C182, C183⟩ := q174
                    have B184 := C182
                    rw [show D170 7 = false from (q179 7 rfl)] at B184
                    obtain ⟨⟨_, m185⟩, ⟨_, m186⟩, _⟩ := q176
                    have z187 : (σ171 42) = .slice (some ⟨b38, 0, none⟩) (Int.toNat (IntKind.i64.wrap t17.2)) (Int.toNat (IntKind.i64.wrap t17.2)) := m185
                    have z188 : (σ171 43) = .int .i64 x50 := m186
                    refine wl_cutlo Tryd.underlying36 ty9 z187 Bd.no (Bd.yes z188) c69.1 c69.2.1 c69.2.2.1 c69.2.2.2 ?_
                    refine wl_nil ?_
                    exact qn ⟨_, _, rfl, (Ext.refl _ _), ⟨fr180, e181.trans (Ext.refl _ _), (mut_bif_f (q179 7 rfl) B184), C183⟩, (aft_some rfl)⟩
                  · intro D189 σ190 w191 hw192 q193 q194 q195 q196 q197 q198
                    obtain ⟨fr199, e200, C201, C202⟩ := q193
                    have B203 := C201
                    rw [show D189 7 = false from q194] at B203
                    obtain ⟨⟨_, m204⟩, ⟨_, m205⟩, _⟩ := q195
                    have z206 : (σ190 41) = .slice (some ⟨b38, Int.toNat x50, none⟩) (Int.toNat ((Int.toNat (IntKind.i64.wrap t17.2)) : Int) - Int.toNat x50) ((Int.toNat (IntKind.i64.wrap t17.2)) - Int.toNat x50) := m204
                    have z207 : (σ190 44) = .slice (some ⟨b38, Int.toNat (0 : Int), none⟩) (Int.toNat x50 - Int.toNat (0 : Int)) ((Int.toNat (IntKind.i64.wrap t17.2)) - Int.toNat (0 : Int)) := m205
                    refine wl_copyself (enc := fun l => Value.string (bs l)) (h1 := fun _ => rfl) B203 fr199.wf Tryd.underlying36 ty9 z206 z207 (by have := c69; omega) (by have := c68; omega) ?_
                    intro w208 s209 B210
                    have fr211 := fr199.then s209 (fun _ e => (Option.some.inj e ▸ B203.new))
                    refine wl_nil ?_
                    exact qn ⟨_, _, rfl, s209.ext, ⟨fr211, e200.trans s209.ext, B210, C202⟩, (aft_some rfl)⟩
                  · intro D212 σ213 w214 hw215 q216 q217 q218 q219 q220 q221
                    obtain ⟨fr222, e223, C224, C225⟩ := q216
                    have B226 := C224
                    rw [show D212 7 = true from (q220 7 rfl)] at B226
                    obtain ⟨⟨_, m227⟩, ⟨_, m228⟩, _⟩ := q218
                    have z229 : (σ213 38) = .int .i64 x50 := m227
                    have z230 : (σ213 45) = .int .i64 (((x51.take (Int.toNat x50 - Int.toNat (0 : Int))).take (Int.toNat ((Int.toNat (IntKind.i64.wrap t17.2)) : Int) - Int.toNat x50)).length : Int) := m228
                    refine wl_add z229 z230 ?_
                    refine wl_nil ?_
                    exact qn ⟨_, _, rfl, (Ext.refl _ _), ⟨fr222, e223.trans (Ext.refl _ _), (mut_bif_t (q220 7 rfl) B226), C225⟩, (aft_some rfl)⟩
                  · intro D231 σ232 w233 hw234 q235 q236 q237 q238 q239 q240
                    obtain ⟨fr241, e242, C243, C244⟩ := q235
                    have B245 := C243
                    rw [show D231 7 = true from (q239 7 rfl)] at B245
                    obtain ⟨⟨_, m246⟩, ⟨_, m247⟩, ⟨_, m248⟩, ⟨_, m249⟩, ⟨_, m250⟩, ⟨_, m251⟩, ⟨_, m252⟩, ⟨_, m253⟩, ⟨_, m254⟩, ⟨_, m255⟩, ⟨_, m256⟩, _⟩ := q237
                    have z257 : (σ232 46) = .int .i64 (IntKind.i64.wrap (x50 + (((x51.take (Int.toNat x50 - Int.toNat (0 : Int))).take (Int.toNat ((Int.toNat (IntKind.i64.wrap t17.2)) : Int) - Int.toNat x50)).length : Int))) := m246
                    have z258 : (σ232 45) = .int .i64 (((x51.take (Int.toNat x50 - Int.toNat (0 : Int))).take (Int.toNat ((Int.toNat (IntKind.i64.wrap t17.2)) : Int) - Int.toNat x50)).length : Int) := m247
                    have z259 : (σ232 38) = .int .i64 x50 := m248
                    have z260 : (σ232 39) = .slice (some ⟨b38, 0, none⟩) (Int.toNat (IntKind.i64.wrap t17.2)) (Int.toNat (IntKind.i64.wrap t17.2)) := m249
                    have z261 : (σ232 40) = .int .i64 x50 := m250
                    have z262 : (σ232 41) = .slice (some ⟨b38, Int.toNat x50, none⟩) (Int.toNat ((Int.toNat (IntKind.i64.wrap t17.2)) : Int) - Int.toNat x50) ((Int.toNat (IntKind.i64.wrap t17.2)) - Int.toNat x50) := m251
                    have z263 : (σ232 42) = .slice (some ⟨b38, 0, none⟩) (Int.toNat (IntKind.i64.wrap t17.2)) (Int.toNat (IntKind.i64.wrap t17.2)) := m252
                    have z264 : (σ232 43) = .int .i64 x50 := m253
                    have z265 : (σ232 44) = .slice (some ⟨b38, Int.toNat (0 : Int), none⟩) (Int.toNat x50 - Int.toNat (0 : Int)) ((Int.toNat (IntKind.i64.wrap t17.2)) - Int.toNat (0 : Int)) := m254
                    refine wl_assign (.int .i64 (IntKind.i64.wrap (x50 + (((x51.take (Int.toNat x50 - Int.toNat (0 : Int))).take (Int.toNat ((Int.toNat (IntKind.i64.wrap t17.2)) : Int) - Int.toNat x50)).length : Int)))) z257 ?_
                    refine wl_nil ?_
                    exact qn ⟨_, _, rfl, (Ext.refl _ _), ⟨fr241, e242.trans (Ext.refl _ _), (mut_bif_t (q239 7 rfl) B245), trivial⟩, (aft_some rfl)⟩
                  · intro σ266 w267 hw268 q269 q270 q271
                    obtain ⟨fr272, e273, C274, C275⟩ := q269
                    obtain ⟨m276, m277, m278, m279, m280, m281, m282, m283, m284, m285, _⟩ := q271
                    have B286 : MutN Kstr 9 w0.heap.size w267 hw268 b38 (Int.toNat (IntKind.i64.wrap t17.2)) (Int.toNat (IntKind.i64.wrap t17.2)) (x51.take (Int.toNat x50) ++ (x51.take (Int.toNat x50 - Int.toNat (0 : Int))).take (Int.toNat ((Int.toNat (IntKind.i64.wrap t17.2)) : Int) - Int.toNat x50) ++ x51.drop (Int.toNat x50 + ((x51.take (Int.toNat x50 - Int.toNat (0 : Int))).take (Int.toNat ((Int.toNat (IntKind.i64.wrap t17.2)) : Int) - Int.toNat x50)).length)) := C274
                    have z287 : (σ266 8) = .int .i64 (IntKind.i64.wrap (x50 + (((x51.take (Int.toNat x50 - Int.toNat (0 : Int))).take (Int.toNat ((Int.toNat (IntKind.i64.wrap t17.2)) : Int) - Int.toNat x50)).length : Int))) := m285
                    refine bn ?_
                    refine qn ?_
                    exact ⟨_, _, _, (IntKind.i64.wrap (x50 + (((x51.take (Int.toNat x50 - Int.toNat (0 : Int))).take (Int.toNat ((Int.toNat (IntKind.i64.wrap t17.2)) : Int) - Int.toNat x50)).length : Int))), (x51.take (Int.toNat x50) ++ (x51.take (Int.toNat x50 - Int.toNat (0 : Int))).take (Int.toNat ((Int.toNat (IntKind.i64.wrap t17.2)) : Int) - Int.toNat x50) ++ x51.drop (Int.toNat x50 + ((x51.take (Int.toNat x50 - Int.toNat (0 : Int))).take (Int.toNat ((Int.toNat (IntKind.i64.wrap t17.2)) : Int) - Int.toNat x50)).length)), rfl, (by omega), (by omega), fr272, (Ext.trans e56 (Ext.trans s64.ext e273)), ((q270 7 rfl).trans z59), z287, B286, h⟩
                · replace h := (if_neg c69).symm.trans h
                  cases h
              · replace h := (if_neg c68).symm.trans h
                cases h
            · replace h := (if_neg c62).symm.trans h
              have b288 : (decide (x50 < ((Int.toNat (IntKind.i64.wrap t17.2)) : Int))) = false := decide_eq_false c62
              refine wc_else rfl b288 ?_
              refine wc_exit ?_
              refine qe ?_
              refine qe ?_
              refine be ?_
              refine qn ?_
              refine wc_seq ?_
              refine wc_region ?_
              refine wl_move (.slice (some ⟨b38, 0, none⟩) (Int.toNat (IntKind.i64.wrap t17.2)) (Int.toNat (IntKind.i64.wrap t17.2))) z59 ?_
              refine wl_assign (.slice (some ⟨b38, 0, none⟩) (Int.toNat (IntKind.i64.wrap t17.2)) (Int.toNat (IntKind.i64.wrap t17.2))) rfl ?_
              refine wl_nil ?_
              refine qn ?_
              refine wc_ret ?_
              by_cases c289 : x51 ≠ []
              · replace h := (if_pos c289).symm.trans h
                have h := Option.some.inj h
                subst h
                refine end1 rfl (.tmp rfl .nil) ?_
                exact ⟨(.slice (some ⟨b38, 0, none⟩) (Int.toNat (IntKind.i64.wrap t17.2)) (Int.toNat (IntKind.i64.wrap t17.2))), _, rfl, fr55, (MV.mut B61 c289)⟩
              · replace h := (if_neg c289).symm.trans h
                cases h
        · replace h := (if_neg c44).symm.trans h
          cases h
      · replace h := (if_neg c37).symm.trans h
        cases h
/-! ### consignor/disk.New: function 60 -/
def disk_New.f (k : Nat) (a0 : Int) : Option (ApiDisk × Int) := if ((decide (a0 < 4)) || (decide (64 < a0))) = true then (some ((⟨[], []⟩ : ApiDisk), 1)) else ((strings_Repeat.f k ([0] : List UInt8) 128).bind fun t16 => ((slices_Repeat_string_string.f k ([t16]) a0).bind fun t32 => (if t32 = [] then (some ((⟨t32, []⟩ : ApiDisk), 0)) else (if t32 ≠ [] then (some ((⟨t32, []⟩ : ApiDisk), 0)) else none))))
set_option maxHeartbeats 1000000 in
theorem disk_New.ok (k : Nat) {w0 : World} {hw0 : Hw} (wf : Hwf w0 hw0) (a0 : Int) (r : (ApiDisk × Int)) (h : disk_New.f k a0 = some r) :
    Calls Tryd.prog 60 #[.int .i64 a0] w0 fun e w' => ∃ (v0_0 : Value) (v0_1 : Value) (hw' : Hw), e = .returned (.tuple #[.agg #[v0_0, v0_1], .int .i64 r.2]) ∧ Stp none w0 hw0 w' hw' ∧ MV Kstr 9 w0.heap.size w' hw' v0_0 r.1.Sectors ∧ Row KApiWrite w' hw' v0_1 r.1.Dirty := by
  have fr0 := Stp.refl none (w := w0) (hw := hw0) wf
  unfold disk_New.f at h
  refine enter (n := 16) Tryd.func60 rfl rfl (Nat.le_of_ble_eq_true rfl) ?_
  refine wc_seq ?_
  refine wc_region ?_
  refine wl_alloc fr0.wf fr0.g.size ty68 [.slice none 0 0, .slice none 0 0] rfl ?_
  intro b1 w2 s3 B4 g5
  have fr6 := fr0.then0 s3
  refine wl_assign (.int .i64 0) rfl ?_
  refine wl_nil ?_
  refine qn ?_
  refine wc_seq ?_
  refine wc_seq ?_
  refine wc_region ?_
  refine wl_move (.int .i64 a0) rfl ?_
  refine wl_lss rfl rfl ?_
  refine wl_move (.bool (decide (a0 < 4))) rfl ?_
  refine wl_join 3 [7, 8, 9] 9 (.bool ((decide (a0 < 4)) || (decide (64 < a0)))) ?_ ?_
  · rcases Bool.eq_false_or_eq_true (decide (a0 < 4)) with hcc | hcc
    · skip
      refine wl_off (yl rfl rfl rfl) hcc ?_
      refine wl_off (yl rfl rfl rfl) hcc ?_
      refine wl_pick_t (decide (a0 < 4)) (.bool true) rfl hcc rfl ?_
      refine wl_nil ?_
      exact qn ⟨rfl, _, rfl, (by repeat (first | exact Same.refl _ _ | refine Same.upd ?_ rfl)), (by rw [hcc]; rfl)⟩
    · skip
      refine wl_on (yl rfl rfl rfl) hcc ?_
      refine wl_move (.int .i64 a0) rfl ?_
      refine wl_on (yl rfl rfl rfl) hcc ?_
      refine wl_gtr rfl rfl ?_
      refine wl_pick_f (decide (a0 < 4)) (.bool (decide (64 < a0))) rfl hcc rfl ?_
      refine wl_nil ?_
      exact qn ⟨rfl, _, rfl, (by repeat (first | exact Same.refl _ _ | refine Same.upd ?_ rfl)), (by rw [hcc]; rfl)⟩
  intro _ ho7 hv8
  refine wl_nil ?_
  refine qn ?_
  by_cases c9 : ((decide (a0 < 4)) || (decide (64 < a0))) = true
  · replace h := (if_pos c9).symm.trans h
    refine wc_then hv8 c9 ?_
    refine wc_seq ?_
    refine wc_region ?_
    have hb10 : ∀ w, (Instr.build 68 #[]).run Tryd.prog w = .ok (.agg (List.toArray [.slice none 0 0, .slice none 0 0])) w := by intro  _; kernel_rfl
    refine wl_build [.slice none 0 0, .slice none 0 0] (pn _ _) (hb10 _) ?_
    refine wl_store B4 fr6.wf ty68 ((ho7 2 rfl).trans rfl) [.slice none 0 0, .slice none 0 0] (cells_of (v := (.agg #[.slice none 0 0, .slice none 0 0])) rfl rfl) rfl (Nat.le_of_ble_eq_true rfl) (by intro u hu; simp only [List.mem_cons, List.not_mem_nil, or_false] at hu; rcases hu with rfl | rfl <;> first | rfl | exact Dy.one _) [.slice none 0 0, .slice none 0 0] rfl ?_
    intro w11 s12 B13
    have fr14 := fr6.then s12 (fun _ e => (Option.some.inj e ▸ B4.new))
    refine wl_assign (.int .i64 1) rfl ?_
    refine wl_nil ?_
    refine qn ?_
    refine wc_ret ?_
    refine qr ?_
    have h := Option.some.inj h
    subst h
    refine end2 rfl (.cell ((ho7 2 rfl).trans rfl) (ty68.load (l := [.slice none 0 0, .slice none 0 0]) rfl (B13.cells rfl)) (.tmp rfl .nil)) ?_
    exact ⟨(.slice none 0 0), (.slice none 0 0), _, rfl, fr14, (MV.nil rfl), (Row.nil _ _ _)⟩
  · replace h := (if_neg c9).symm.trans h
    have b15 : ((decide (a0 < 4)) || (decide (64 < a0))) = false := Bool.eq_false_iff.2 c9
    refine wc_else hv8 b15 ?_
    refine wc_skip ?_
    refine qn ?_
    refine wc_seq ?_
    refine wc_region ?_
    obtain ⟨t16, h17, h⟩ := Option.bind_eq_some_iff.1 h
    refine wl_call [.string (bs ([0] : List UInt8)), .int .i64 128] bod65 (mc rfl (mc rfl (mn _))) (strings_Repeat.ok k fr6.wf ([0] : List UInt8) 128 _ h17) ?_
    rintro e18 w19 ⟨hw20, rfl, s21⟩
    refine ⟨_, rfl, ?_⟩
    have fr22 := fr6.then0 s21
    have hb23 : ∀ w : World, (Instr.buildSlice 36 1 #[(0, .string (bs t16))]).run Tryd.prog w = .ok (.slice (some ⟨w.heap.size, 0, none⟩) 1 1) (w.alloc (.cells (List.toArray [.string (bs t16)]) 9)) := fun _ => by kernel_rfl
    refine wl_lit (KD := Kstr) fr22.wf [.string (bs t16)] [t16] (pc rfl (pn _ _)) (hb23 _) rfl (by decide) ⟨[.string (bs t16)], _, rfl, rfl, rfl⟩ ?_
    intro v24 w25 hw26 O28 s27
    have B29 := (B4.step0 s21)
    have n30 := own_new_lt O28 B29.lt
    replace O28 := O28.low fr22.g.size
    have fr31 := fr22.then0 s27
    refine wl_move (.int .i64 a0) ((ho7 0 rfl).trans rfl) ?_
    obtain ⟨t32, h33, h⟩ := Option.bind_eq_some_iff.1 h
    have B38 := (B29.step0 s27)
    refine wl_call [v24, .int .i64 a0] bod64 (mc rfl (mc rfl (mn _))) (slices_Repeat_string_string.ok k fr31.wf ([t16]) a0 v24 O28.row _ h33) ?_
    rintro e34 w35 ⟨v39, hw36, rfl, s37, f40⟩
    refine ⟨_, rfl, ?_⟩
    have fr41 := fr31.then0 s37
    by_cases c42 : t32 = []
    · rw [if_pos c42] at h
      cases f40.1 c42
      have f43 : Row Kstr w35 hw36 (.slice none 0 0) t32 := row_nil_of c42
      have hb44 : ∀ w, (Instr.build 68 #[(0, .slice none 0 0)]).run Tryd.prog w = .ok (.agg (List.toArray [.slice none 0 0, .slice none 0 0])) w := by intro  _; kernel_rfl
      refine wl_build [.slice none 0 0, .slice none 0 0] (pc rfl (pn _ _)) (hb44 _) ?_
      have B45 := (B38.step0 s37)
      refine wl_store B45 fr41.wf ty68 ((ho7 2 rfl).trans rfl) [.slice none 0 0, .slice none 0 0] (cells_of (v := (.agg #[.slice none 0 0, .slice none 0 0])) rfl rfl) rfl (Nat.le_of_ble_eq_true rfl) (by intro u hu; simp only [List.mem_cons, List.not_mem_nil, or_false] at hu; rcases hu with rfl | rfl <;> first | rfl | exact Dy.one _) [.slice none 0 0, .slice none 0 0] rfl ?_
      intro w46 s47 B48
      have fr49 := fr41.then s47 (fun _ e => (Option.some.inj e ▸ B45.new))
      refine wl_assign (.int .i64 0) rfl ?_
      refine wl_nil ?_
      refine qn ?_
      refine wc_ret ?_
      have h := Option.some.inj h
      subst h
      refine end2 rfl (.cell ((ho7 2 rfl).trans rfl) (ty68.load (l := [.slice none 0 0, .slice none 0 0]) rfl (B48.cells rfl)) (.tmp rfl .nil)) ?_
      exact ⟨(.slice none 0 0), (.slice none 0 0), _, rfl, fr49, (MV.nil c42), (Row.nil _ _ _)⟩
    · rw [if_neg c42] at h
      obtain ⟨b50, hv, B51⟩ := f40.2 c42
      subst hv
      have n52 := mut_new_ne B51 B38.lt
      have n53 := mut_new_own B51 O28
      replace B51 := B51.low fr31.g.size
      have hb54 : ∀ w, (Instr.build 68 #[(0, .slice (some ⟨b50, 0, none⟩) t32.length t32.length)]).run Tryd.prog w = .ok (.agg (List.toArray [.slice (some ⟨b50, 0, none⟩) t32.length t32.length, .slice none 0 0])) w := by intro  _; kernel_rfl
      refine wl_build [.slice (some ⟨b50, 0, none⟩) t32.length t32.length, .slice none 0 0] (pc rfl (pn _ _)) (hb54 _) ?_
      have B55 := (B38.step0 s37)
      refine wl_store B55 fr41.wf ty68 ((ho7 2 rfl).trans rfl) [.slice (some ⟨b50, 0, none⟩) t32.length t32.length, .slice none 0 0] (cells_of (v := (.agg #[.slice (some ⟨b50, 0, none⟩) t32.length t32.length, .slice none 0 0])) rfl rfl) rfl (Nat.le_of_ble_eq_true rfl) (by intro u hu; simp only [List.mem_cons, List.not_mem_nil, or_false] at hu; rcases hu with rfl | rfl <;> first | rfl | exact Dy.one _) [.slice (some ⟨b50, 0, none⟩) t32.length t32.length, .slice none 0 0] rfl ?_
      intro w56 s57 B58
      have fr59 := fr41.then s57 (fun _ e => (Option.some.inj e ▸ B55.new))
      refine wl_assign (.int .i64 0) rfl ?_
      refine wl_nil ?_
      refine qn ?_
      refine wc_ret ?_
      by_cases c60 : t32 ≠ []
      · replace h := (if_pos c60).symm.trans h
        have B61 := (B51.stepb s57 (Ne.symm n52))
        have h := Option.some.inj h
        subst h
        refine end2 rfl (.cell ((ho7 2 rfl).trans rfl) (ty68.load (l := [.slice (some ⟨b50, 0, none⟩) t32.length t32.length, .slice none 0 0]) rfl (B58.cells rfl)) (.tmp rfl .nil)) ?_
        exact ⟨(.slice (some ⟨b50, 0, none⟩) t32.length t32.length), (.slice none 0 0), _, rfl, fr59, (MV.mut B61 c60), (Row.nil _ _ _)⟩
      · replace h := (if_neg c60).symm.trans h
        cases h
/-! ### consignor/octet.Wide: function 66 -/
mutual
def octet_Wide.l1 : Nat → Int → Int → Int → (List Int) → Option ((List UInt8) × Int)
  | 0, _, _, _, _ => none
  | k + 1, a0, a1, x29, x30 => if x29 < ((Int.toNat a1) : Int) then (if ¬ (IntKind.i64.wrap (8 * x29)) < 0 then (if (0 : Int) ≤ x29 ∧ x29 < ((Int.toNat a1) : Int) then (octet_Wide.l1 k a0 a1 (IntKind.i64.wrap (x29 + 1)) (x30.set (Int.toNat x29) (IntKind.u8.wrap (ishr .u64 a0 (IntKind.i64.wrap (8 * x29)))))) else none) else none) else (some ((ofInts x30), 0))
def octet_Wide.j0 : Nat → Int → Int → Bool → Option ((List UInt8) × Int)
  | 0, _, _, _ => none
  | k + 1, a0, a1, x5 => if x5 = true then (some ([], 2)) else (if 0 ≤ a1 ∧ (1 : Int) * a1 ≤ 281474976710656 ∧ a1 ≤ 9223372036854775807 then (octet_Wide.l1 k a0 a1 0 (List.replicate (Int.toNat a1) 0)) else none)
end
def octet_Wide.f (k : Nat) (a0 : Int) (a1 : Int) : Option ((List UInt8) × Int) := if ((decide (a1 < 0)) || (decide (8 < a1))) = true then (some ([], 1)) else (if a1 < 8 then (if ¬ (IntKind.i64.wrap (8 * a1)) < 0 then (octet_Wide.j0 k a0 a1 ((ishr .u64 a0 (IntKind.i64.wrap (8 * a1))) != 0)) else none) else (octet_Wide.j0 k a0 a1 false))
set_option maxHeartbeats 1000000 in
theorem octet_Wide.ok (k : Nat) {w0 : World} {hw0 : Hw} (wf : Hwf w0 hw0) (a0 : Int) (a1 : Int) (r : ((List UInt8) × Int)) (h : octet_Wide.f k a0 a1 = some r) :
    Calls Tryd.prog 66 #[.int .u64 a0, .int .i64 a1] w0 fun e w' => ∃ (hw' : Hw), e = .returned (.tuple #[.string (bs r.1), .int .i64 r.2]) ∧ Stp none w0 hw0 w' hw' := by
  have fr0 := Stp.refl none (w := w0) (hw := hw0) wf
  unfold octet_Wide.f at h
  refine enter (n := 43) Tryd.func66 rfl rfl (Nat.le_of_ble_eq_true rfl) ?_
  refine wc_seq ?_
  refine wc_region ?_
  refine wl_assign (.string (bs [])) rfl ?_
  refine wl_assign (.int .i64 0) rfl ?_
  refine wl_nil ?_
  refine qn ?_
  refine wc_seq ?_
  refine wc_block ?_
  refine wc_seq ?_
  refine wc_region ?_
  refine wl_move (.int .i64 a1) rfl ?_
  refine wl_lss rfl rfl ?_
  refine wl_move (.bool (decide (a1 < 0))) rfl ?_
  refine wl_join 3 [12, 13, 14] 14 (.bool ((decide (a1 < 0)) || (decide (8 < a1)))) ?_ ?_
  · rcases Bool.eq_false_or_eq_true (decide (a1 < 0)) with hcc | hcc
    · skip
      refine wl_off (yl rfl rfl rfl) hcc ?_
      refine wl_off (yl rfl rfl rfl) hcc ?_
      refine wl_pick_t (decide (a1 < 0)) (.bool true) rfl hcc rfl ?_
      refine wl_nil ?_
      exact qn ⟨rfl, _, rfl, (by repeat (first | exact Same.refl _ _ | refine Same.upd ?_ rfl)), (by rw [hcc]; rfl)⟩
    · skip
      refine wl_on (yl rfl rfl rfl) hcc ?_
      refine wl_move (.int .i64 a1) rfl ?_
      refine wl_on (yl rfl rfl rfl) hcc ?_
      refine wl_gtr rfl rfl ?_
      refine wl_pick_f (decide (a1 < 0)) (.bool (decide (8 < a1))) rfl hcc rfl ?_
      refine wl_nil ?_
      exact qn ⟨rfl, _, rfl, (by repeat (first | exact Same.refl _ _ | refine Same.upd ?_ rfl)), (by rw [hcc]; rfl)⟩
  intro _ ho1 hv2
  refine wl_assign (.bool ((decide (a1 < 0)) || (decide (8 < a1)))) hv2 ?_
  refine wl_nil ?_
  refine qn ?_
  by_cases c3 : ((decide (a1 < 0)) || (decide (8 < a1))) = true
  · replace h := (if_pos c3).symm.trans h
    refine wc_then rfl c3 ?_
    refine wc_seq ?_
    refine wc_region ?_
    refine wl_assign (.string (bs [])) rfl ?_
    refine wl_assign (.int .i64 1) rfl ?_
    refine wl_nil ?_
    refine qn ?_
    refine wc_ret ?_
    refine bret ?_
    refine qr ?_
    have h := Option.some.inj h
    subst h
    refine end2 rfl (.tmp rfl (.tmp rfl .nil)) ?_
    exact ⟨_, rfl, fr0⟩
  · replace h := (if_neg c3).symm.trans h
    have b4 : ((decide (a1 < 0)) || (decide (8 < a1))) = false := Bool.eq_false_iff.2 c3
    refine wc_else rfl b4 ?_
    refine wc_cut (fun a w => ∃ (σ : Nat → Value) (hw : Hw) (kq : Nat) (x5 : Bool), a = mkA 43 σ ∧ kq ≤ k ∧ kq ≤ k ∧ Stp none w0 hw0 w hw ∧ Ext w0 hw0 w hw ∧ σ 0 = .int .u64 a0 ∧ σ 1 = .int .i64 a1 ∧ σ 15 = .bool x5 ∧ octet_Wide.j0 kq a0 a1 x5 = some r) ?_ ?_
    · skip
      refine wc_region ?_
      refine wl_move (.int .i64 a1) ((ho1 1 rfl).trans rfl) ?_
      refine wl_lss rfl rfl ?_
      refine wl_move (.bool (decide (a1 < 8))) rfl ?_
      by_cases c6 : a1 < 8
      · replace h := (if_pos c6).symm.trans h
        have b7 : (decide (a1 < 8)) = true := decide_eq_true c6
        refine wl_on (yl rfl rfl rfl) b7 ?_
        refine wl_move (.int .u64 a0) ((ho1 0 rfl).trans rfl) ?_
        refine wl_on (yl rfl rfl rfl) b7 ?_
        refine wl_move (.int .i64 a1) ((ho1 1 rfl).trans rfl) ?_
        refine wl_on (yl rfl rfl rfl) b7 ?_
        refine wl_mul rfl rfl ?_
        refine wl_on (yl rfl rfl rfl) b7 ?_
        by_cases c8 : ¬ (IntKind.i64.wrap (8 * a1)) < 0
        · replace h := (if_pos c8).symm.trans h
          refine wl_shr rfl rfl c8 ?_
          refine wl_on (yl rfl rfl rfl) b7 ?_
          refine wl_neq rfl rfl ?_
          refine wl_pick_t (decide (a1 < 8)) (.bool ((ishr .u64 a0 (IntKind.i64.wrap (8 * a1))) != 0)) rfl b7 rfl ?_
          refine wl_assign (.bool ((ishr .u64 a0 (IntKind.i64.wrap (8 * a1))) != 0)) rfl ?_
          refine wl_nil ?_
          refine qn ?_
          exact ⟨_, _, _, ((ishr .u64 a0 (IntKind.i64.wrap (8 * a1))) != 0), rfl, (by omega), (by omega), fr0, (Ext.refl _ _), ((ho1 0 rfl).trans rfl), ((ho1 1 rfl).trans rfl), rfl, h⟩
        · replace h := (if_neg c8).symm.trans h
          cases h
      · replace h := (if_neg c6).symm.trans h
        have b9 : (decide (a1 < 8)) = false := decide_eq_false c6
        refine wl_off (yl rfl rfl rfl) b9 ?_
        refine wl_off (yl rfl rfl rfl) b9 ?_
        refine wl_off (yl rfl rfl rfl) b9 ?_
        refine wl_off (yl rfl rfl rfl) b9 ?_
        refine wl_off (yl rfl rfl rfl) b9 ?_
        refine wl_pick_f (decide (a1 < 8)) (.bool false) rfl b9 rfl ?_
        refine wl_assign (.bool false) rfl ?_
        refine wl_nil ?_
        refine qn ?_
        exact ⟨_, _, _, false, rfl, (by omega), (by omega), fr0, (Ext.refl _ _), ((ho1 0 rfl).trans rfl), ((ho1 1 rfl).trans rfl), rfl, h⟩
    · rintro _ w10 ⟨_, hw11, k12, x5, rfl, hk15, hk16, fr13, e14, z17, z18, z19, h⟩
      rcases k12 with _ | k12
      · rw [octet_Wide.j0] at h; cases h
      rw [octet_Wide.j0] at h
      by_cases c20 : x5 = true
      · replace h := (if_pos c20).symm.trans h
        refine wc_then z19 c20 ?_
        refine wc_seq ?_
        refine wc_region ?_
        refine wl_assign (.string (bs [])) rfl ?_
        refine wl_assign (.int .i64 2) rfl ?_
        refine wl_nil ?_
        refine qn ?_
        refine wc_ret ?_
        refine bret ?_
        refine qr ?_
        have h := Option.some.inj h
        subst h
        refine end2 rfl (.tmp rfl (.tmp rfl .nil)) ?_
        exact ⟨_, rfl, fr13⟩
      · replace h := (if_neg c20).symm.trans h
        have b21 : x5 = false := Bool.eq_false_iff.2 c20
        refine wc_else z19 b21 ?_
        refine wc_skip ?_
        refine bn ?_
        refine qn ?_
        refine wc_seq ?_
        refine wc_region ?_
        refine wl_move (.int .i64 a1) z18 ?_
        by_cases c22 : 0 ≤ a1 ∧ (1 : Int) * a1 ≤ 281474976710656 ∧ a1 ≤ 9223372036854775807
        · replace h := (if_pos c22).symm.trans h
          refine wl_make (enc := Value.int .u8) (h1 := fun _ => rfl) 0 Tryd.underlying98 ty5 fr13.wf fr13.g.size rfl c22.1 c22.2.1 c22.2.2 rfl ?_
          intro b23 w24 s25 B26 g27
          have fr28 := fr13.then0 s25
          refine wl_assign (.slice (some ⟨b23, 0, none⟩) (Int.toNat a1) (Int.toNat a1)) rfl ?_
          refine wl_nil ?_
          refine qn ?_
          refine wc_seq ?_
          refine wc_seq ?_
          refine wc_region ?_
          refine wl_move (.slice (some ⟨b23, 0, none⟩) (Int.toNat a1) (Int.toNat a1)) rfl ?_
          refine wl_len Tryd.underlying98 (show _ = Value.slice _ (Int.toNat a1) _ from rfl) ?_
          refine wl_move (.int .i64 0) rfl ?_
          refine wl_nil ?_
          refine qn ?_
          refine wc_block ?_
          refine wc_loop (fun m a w => ∃ (σ : Nat → Value) (hw : Hw) (kq : Nat) (x29 : Int) (x30 : (List Int)), a = mkA 43 σ ∧ kq ≤ m ∧ kq ≤ k12 ∧ Stp none w0 hw0 w hw ∧ Ext w24 hw11 w hw ∧ σ 0 = .int .u64 a0 ∧ σ 6 = .slice (some ⟨b23, 0, none⟩) (Int.toNat a1) (Int.toNat a1) ∧ σ 28 = .int .i64 ((Int.toNat a1) : Int) ∧ σ 29 = .int .i64 x29 ∧ MutN (Kint .u8) 5 w0.heap.size w hw b23 (Int.toNat a1) (Int.toNat a1) x30 ∧ octet_Wide.l1 kq a0 a1 x29 x30 = some r) k12 ?_ ?_ ?_
          · skip
            exact ⟨_, _, _, 0, (List.replicate (Int.toNat a1) 0), rfl, (Nat.le_refl _), (Nat.le_refl _), fr28, (Ext.refl _ _), z17, rfl, rfl, rfl, B26, h⟩
          · rintro _ _ ⟨_, hw32, k33, x29, x30, rfl, hk36, hk37, fr34, e35, z38, z39, z40, z41, B42, h⟩; obtain rfl := Nat.le_zero.1 hk36; rw [octet_Wide.l1] at h; cases h
          · rintro m1 _ w31 ⟨_, hw32, k33, x29, x30, rfl, hk36, hk37, fr34, e35, z38, z39, z40, z41, B42, h⟩
            rcases k33 with _ | k33
            · rw [octet_Wide.l1] at h; cases h
            rw [octet_Wide.l1] at h
            refine wc_seq ?_
            refine wc_region ?_
            refine wl_lss z41 z40 ?_
            refine wl_nil ?_
            refine qn ?_
            refine wc_seq ?_
            by_cases c43 : x29 < ((Int.toNat a1) : Int)
            · replace h := (if_pos c43).symm.trans h
              have b44 : (decide (x29 < ((Int.toNat a1) : Int))) = true := decide_eq_true c43
              refine wc_then rfl b44 ?_
              refine wc_skip ?_
              refine qn ?_
              refine wc_seq ?_
              refine wc_block ?_
              refine wc_seq ?_
              refine wc_region ?_
              refine wl_move (.int .i64 x29) z41 ?_
              refine wl_assign (.int .i64 x29) rfl ?_
              refine wl_nil ?_
              refine qn ?_
              refine wc_region ?_
              refine wl_move (.slice (some ⟨b23, 0, none⟩) (Int.toNat a1) (Int.toNat a1)) z39 ?_
              refine wl_move (.int .i64 x29) rfl ?_
              refine wl_move (.int .u64 a0) z38 ?_
              refine wl_move (.int .i64 x29) rfl ?_
              refine wl_mul rfl rfl ?_
              by_cases c45 : ¬ (IntKind.i64.wrap (8 * x29)) < 0
              · replace h := (if_pos c45).symm.trans h
                refine wl_shr rfl rfl c45 ?_
                refine wl_conv_int Tryd.underlying140 Tryd.underlying5 rfl ?_
                by_cases c46 : (0 : Int) ≤ x29 ∧ x29 < ((Int.toNat a1) : Int)
                · replace h := (if_pos c46).symm.trans h
                  refine wl_atm Tryd.underlying98 ty5 rfl rfl c46.1 c46.2 ?_
                  refine wl_storem (enc := Value.int .u8) (h1 := fun _ => rfl) (len := (Int.toNat a1)) (IntKind.u8.wrap (ishr .u64 a0 (IntKind.i64.wrap (8 * x29)))) B42 fr34.wf ty5 rfl rfl rfl (by have := c46; omega) ?_
                  intro w47 s48 B49
                  have fr50 := fr34.then s48 (fun _ e => (Option.some.inj e ▸ B42.new))
                  refine wl_nil ?_
                  refine bn ?_
                  refine qn ?_
                  refine wc_region ?_
                  refine wl_add z41 rfl ?_
                  refine wl_move (.int .i64 (IntKind.i64.wrap (x29 + 1))) rfl ?_
                  refine wl_nil ?_
                  refine qn ?_
                  exact ⟨_, _, _, (IntKind.i64.wrap (x29 + 1)), (x30.set (Int.toNat x29) (IntKind.u8.wrap (ishr .u64 a0 (IntKind.i64.wrap (8 * x29))))), rfl, (by omega), (by omega), fr50, (Ext.trans e35 s48.ext), z38, z39, z40, rfl, B49, h⟩
                · replace h := (if_neg c46).symm.trans h
                  cases h
              · replace h := (if_neg c45).symm.trans h
                cases h
            · replace h := (if_neg c43).symm.trans h
              have b51 : (decide (x29 < ((Int.toNat a1) : Int))) = false := decide_eq_false c43
              refine wc_else rfl b51 ?_
              refine wc_exit ?_
              refine qe ?_
              refine qe ?_
              refine be ?_
              refine qn ?_
              refine wc_seq ?_
              refine wc_region ?_
              refine wl_move (.slice (some ⟨b23, 0, none⟩) (Int.toNat a1) (Int.toNat a1)) z39 ?_
              refine wl_conv_bytesm Tryd.underlying98 Tryd.underlying5 Tryd.underlying9 B42 rfl ?_
              refine wl_assign (.string (bs (ofInts x30))) rfl ?_
              refine wl_assign (.int .i64 0) rfl ?_
              refine wl_nil ?_
              refine qn ?_
              refine wc_ret ?_
              have h := Option.some.inj h
              subst h
              refine end2 rfl (.tmp rfl (.tmp rfl .nil)) ?_
              exact ⟨_, rfl, fr34⟩
        · replace h := (if_neg c22).symm.trans h
          cases h
/-! ### consignor/ledger.head: function 61 -/
def ledger_head.f (k : Nat) (a0 : Int) (a1 : Int) : Option (List UInt8) := (octet_Wide.f k (IntKind.u64.wrap a0) 6).bind fun t1 => ((octet_Wide.f k (IntKind.u64.wrap a1) 3).bind fun t8 => (if ([108, 101, 100] : List UInt8).length + t1.1.length ≤ 9223372036854775807 then (if (([108, 101, 100] : List UInt8) ++ t1.1).length + t8.1.length ≤ 9223372036854775807 then ((strings_Repeat.f k ([0] : List UInt8) (IntKind.i64.wrap (128 - (((([108, 101, 100] : List UInt8) ++ t1.1) ++ t8.1).length : Int)))).bind fun t17 => (if ((([108, 101, 100] : List UInt8) ++ t1.1) ++ t8.1).length + t17.length ≤ 9223372036854775807 then (some (((([108, 101, 100] : List UInt8) ++ t1.1) ++ t8.1) ++ t17)) else none)) else none) else none))
set_option maxHeartbeats 1000000 in
theorem ledger_head.ok (k : Nat) {w0 : World} {hw0 : Hw} (wf : Hwf w0 hw0) (a0 : Int) (a1 : Int) (r : (List UInt8)) (h : ledger_head.f k a0 a1 = some r) :
    Calls Tryd.prog 61 #[.int .i64 a0, .int .i64 a1] w0 fun e w' => ∃ (hw' : Hw), e = .returned (.string (bs r)) ∧ Stp none w0 hw0 w' hw' := by
  have fr0 := Stp.refl none (w := w0) (hw := hw0) wf
  unfold ledger_head.f at h
  refine enter (n := 32) Tryd.func61 rfl rfl (Nat.le_of_ble_eq_true rfl) ?_
  refine wc_seq ?_
  refine wc_region ?_
  refine wl_assign (.string (bs [])) rfl ?_
  refine wl_nil ?_
  refine qn ?_
  refine wc_seq ?_
  refine wc_region ?_
  refine wl_move (.int .i64 a0) rfl ?_
  refine wl_conv_int Tryd.underlying3 Tryd.underlying140 rfl ?_
  obtain ⟨t1, h2, h⟩ := Option.bind_eq_some_iff.1 h
  refine wl_call [.int .u64 (IntKind.u64.wrap a0), .int .i64 6] bod66 (mc rfl (mc rfl (mn _))) (octet_Wide.ok k fr0.wf (IntKind.u64.wrap a0) 6 _ h2) ?_
  rintro e3 w4 ⟨hw5, rfl, s6⟩
  refine ⟨_, rfl, ?_⟩
  have fr7 := fr0.then0 s6
  refine wl_move (.tuple #[.string (bs t1.1), .int .i64 t1.2]) rfl ?_
  refine wl_extract (vs := [.string (bs t1.1), .int .i64 t1.2]) (.string (bs t1.1)) rfl rfl ?_
  refine wl_extract (vs := [.string (bs t1.1), .int .i64 t1.2]) (.int .i64 t1.2) rfl rfl ?_
  refine wl_assign (.string (bs t1.1)) rfl ?_
  refine wl_assign (.int .i64 t1.2) rfl ?_
  refine wl_nil ?_
  refine qn ?_
  refine wc_seq ?_
  refine wc_region ?_
  refine wl_move (.int .i64 a1) rfl ?_
  refine wl_conv_int Tryd.underlying3 Tryd.underlying140 rfl ?_
  obtain ⟨t8, h9, h⟩ := Option.bind_eq_some_iff.1 h
  refine wl_call [.int .u64 (IntKind.u64.wrap a1), .int .i64 3] bod66 (mc rfl (mc rfl (mn _))) (octet_Wide.ok k fr7.wf (IntKind.u64.wrap a1) 3 _ h9) ?_
  rintro e10 w11 ⟨hw12, rfl, s13⟩
  refine ⟨_, rfl, ?_⟩
  have fr14 := fr7.then0 s13
  refine wl_move (.tuple #[.string (bs t8.1), .int .i64 t8.2]) rfl ?_
  refine wl_extract (vs := [.string (bs t8.1), .int .i64 t8.2]) (.string (bs t8.1)) rfl rfl ?_
  refine wl_extract (vs := [.string (bs t8.1), .int .i64 t8.2]) (.int .i64 t8.2) rfl rfl ?_
  refine wl_assign (.string (bs t8.1)) rfl ?_
  refine wl_assign (.int .i64 t8.2) rfl ?_
  refine wl_nil ?_
  refine qn ?_
  refine wc_seq ?_
  refine wc_region ?_
  refine wl_move (.string (bs t1.1)) rfl ?_
  by_cases c15 : ([108, 101, 100] : List UInt8).length + t1.1.length ≤ 9223372036854775807
  · replace h := (if_pos c15).symm.trans h
    refine wl_adds rfl rfl c15 ?_
    refine wl_move (.string (bs t8.1)) rfl ?_
    by_cases c16 : (([108, 101, 100] : List UInt8) ++ t1.1).length + t8.1.length ≤ 9223372036854775807
    · replace h := (if_pos c16).symm.trans h
      refine wl_adds rfl rfl c16 ?_
      refine wl_assign (.string (bs ((([108, 101, 100] : List UInt8) ++ t1.1) ++ t8.1))) rfl ?_
      refine wl_nil ?_
      refine qn ?_
      refine wc_seq ?_
      refine wc_region ?_
      refine wl_move (.string (bs ((([108, 101, 100] : List UInt8) ++ t1.1) ++ t8.1))) rfl ?_
      refine wl_move (.string (bs ((([108, 101, 100] : List UInt8) ++ t1.1) ++ t8.1))) rfl ?_
      refine wl_lens Tryd.underlying9 rfl ?_
      refine wl_sub rfl rfl ?_
      obtain ⟨t17, h18, h⟩ := Option.bind_eq_some_iff.1 h
      refine wl_call [.string (bs ([0] : List UInt8)), .int .i64 (IntKind.i64.wrap (128 - (((([108, 101, 100] : List UInt8) ++ t1.1) ++ t8.1).length : Int)))] bod65 (mc rfl (mc rfl (mn _))) (strings_Repeat.ok k fr14.wf ([0] : List UInt8) (IntKind.i64.wrap (128 - (((([108, 101, 100] : List UInt8) ++ t1.1) ++ t8.1).length : Int))) _ h18) ?_
      rintro e19 w20 ⟨hw21, rfl, s22⟩
      refine ⟨_, rfl, ?_⟩
      have fr23 := fr14.then0 s22
      by_cases c24 : ((([108, 101, 100] : List UInt8) ++ t1.1) ++ t8.1).length + t17.length ≤ 9223372036854775807
      · replace h := (if_pos c24).symm.trans h
        refine wl_adds rfl rfl c24 ?_
        refine wl_assign (.string (bs (((([108, 101, 100] : List UInt8) ++ t1.1) ++ t8.1) ++ t17))) rfl ?_
        refine wl_nil ?_
        refine qn ?_
        refine wc_ret ?_
        have h := Option.some.inj h
        subst h
        refine end1 rfl (.tmp rfl .nil) ?_
        exact ⟨_, rfl, fr23⟩
      · replace h := (if_neg c24).symm.trans h
        cases h
    · replace h := (if_neg c16).symm.trans h
      cases h
  · replace h := (if_neg c15).symm.trans h
    cases h
/-! ### slices.IndexFunc[[]string,string]: function 41 -/
def slices_IndexFunc_string_string.l0 : Nat → (List (List UInt8)) → ((List UInt8) → Option Bool) → Int → Option Int
  | 0, _, _, _ => none
  | k + 1, a0, p1, x4 => if x4 < (a0.length : Int) then (if 0 ≤ x4 then ((a0[Int.toNat x4]?).bind fun t19 => ((p1 t19).bind fun t28 => (if t28 = true then (some x4) else (slices_IndexFunc_string_string.l0 k a0 p1 (IntKind.i64.wrap (x4 + 1)))))) else none) else (some (-1))
def slices_IndexFunc_string_string.f (k : Nat) (a0 : (List (List UInt8))) (p1 : ((List UInt8) → Option Bool)) : Option Int := slices_IndexFunc_string_string.l0 k a0 p1 0
set_option maxHeartbeats 1000000 in
theorem slices_IndexFunc_string_string.ok (k : Nat) {w0 : World} {hw0 : Hw} (wf : Hwf w0 hw0) (a0 : (List (List UInt8))) (p1 : (List UInt8) → Option Bool) (v0_ : Value) (q0 : Row Kstr w0 hw0 v0_ a0) (fv1 : Value) (q1 : FnOk Tryd.prog w0 hw0 fv1 (V1 Kstr) Value.bool p1) (r : Int) (h : slices_IndexFunc_string_string.f k a0 p1 = some r) :
    Calls Tryd.prog 41 #[v0_, fv1] w0 fun e w' => ∃ (hw' : Hw), e = .returned (.int .i64 r) ∧ Stp none w0 hw0 w' hw' := by
  have fr0 := Stp.refl none (w := w0) (hw := hw0) wf
  unfold slices_IndexFunc_string_string.f at h
  refine enter (n := 19) Tryd.func41 rfl rfl (Nat.le_of_ble_eq_true rfl) ?_
  refine wc_seq ?_
  refine wc_region ?_
  refine wl_assign (.int .i64 0) rfl ?_
  refine wl_nil ?_
  refine qn ?_
  refine wc_seq ?_
  refine wc_seq ?_
  refine wc_region ?_
  refine wl_move (v0_) rfl ?_
  obtain ⟨A1, c2, hv3⟩ := (q0).slice
  refine wl_len Tryd.underlying36 (show _ = Value.slice _ a0.length _ from (Eq.trans rfl hv3)) ?_
  refine wl_move (.int .i64 0) rfl ?_
  refine wl_nil ?_
  refine qn ?_
  refine wc_block ?_
  refine wc_loop (fun m a w => ∃ (σ : Nat → Value) (hw : Hw) (kq : Nat) (x4 : Int), a = mkA 19 σ ∧ kq ≤ m ∧ kq ≤ k ∧ Stp none w0 hw0 w hw ∧ Ext w0 hw0 w hw ∧ σ 0 = v0_ ∧ σ 1 = fv1 ∧ σ 7 = .int .i64 (a0.length : Int) ∧ σ 8 = .int .i64 x4 ∧ slices_IndexFunc_string_string.l0 kq a0 p1 x4 = some r) k ?_ ?_ ?_
  · skip
    exact ⟨_, _, _, 0, rfl, (Nat.le_refl _), (Nat.le_refl _), fr0, (Ext.refl _ _), rfl, rfl, rfl, rfl, h⟩
  · rintro _ _ ⟨_, hw6, k7, x4, rfl, hk10, hk11, fr8, e9, z12, z13, z14, z15, h⟩; obtain rfl := Nat.le_zero.1 hk10; rw [slices_IndexFunc_string_string.l0] at h; cases h
  · rintro m0 _ w5 ⟨_, hw6, k7, x4, rfl, hk10, hk11, fr8, e9, z12, z13, z14, z15, h⟩
    rcases k7 with _ | k7
    · rw [slices_IndexFunc_string_string.l0] at h; cases h
    rw [slices_IndexFunc_string_string.l0] at h
    refine wc_seq ?_
    refine wc_region ?_
    refine wl_lss z15 z14 ?_
    refine wl_nil ?_
    refine qn ?_
    refine wc_seq ?_
    by_cases c16 : x4 < (a0.length : Int)
    · replace h := (if_pos c16).symm.trans h
      have b17 : (decide (x4 < (a0.length : Int))) = true := decide_eq_true c16
      refine wc_then rfl b17 ?_
      refine wc_skip ?_
      refine qn ?_
      refine wc_seq ?_
      refine wc_block ?_
      refine wc_seq ?_
      refine wc_region ?_
      refine wl_move (.int .i64 x4) z15 ?_
      refine wl_assign (.int .i64 x4) rfl ?_
      refine wl_nil ?_
      refine qn ?_
      refine wc_seq ?_
      refine wc_region ?_
      refine wl_move (fv1) z13 ?_
      refine wl_move (v0_) z12 ?_
      refine wl_move (.int .i64 x4) rfl ?_
      by_cases c18 : 0 ≤ x4
      · replace h := (if_pos c18).symm.trans h
        obtain ⟨t19, h20, h⟩ := Option.bind_eq_some_iff.1 h
        have c21 := at_lt c18 h20
        have f27 := q0.ext (e9)
        refine wl_at Tryd.underlying36 ty9 f27 rfl rfl c18 c21 t19 h20 ?_
        rintro B22 o23 cs24 rfl l26
        refine wl_load1 ty9 rfl (.string (bs t19)) (l26.2 0 _ rfl) ?_
        obtain ⟨t28, h29, h⟩ := Option.bind_eq_some_iff.1 h
        have f34 := q1.ext (e9)
        refine wl_callf f34 rfl rfl fr8.wf (rfl) h29 ?_
        intro w30 hw31 s32
        have fr35 := fr8.then0 s32
        refine wl_nil ?_
        refine qn ?_
        by_cases c36 : t28 = true
        · replace h := (if_pos c36).symm.trans h
          refine wc_then rfl c36 ?_
          refine wc_seq ?_
          refine wc_region ?_
          refine wl_move (.int .i64 x4) rfl ?_
          refine wl_assign (.int .i64 x4) rfl ?_
          refine wl_nil ?_
          refine qn ?_
          refine wc_ret ?_
          refine bret ?_
          refine qr ?_
          refine qr ?_
          refine bret ?_
          refine qr ?_
          have h := Option.some.inj h
          subst h
          refine end1 rfl (.tmp rfl .nil) ?_
          exact ⟨_, rfl, fr35⟩
        · replace h := (if_neg c36).symm.trans h
          have b37 : t28 = false := Bool.eq_false_iff.2 c36
          refine wc_else rfl b37 ?_
          refine wc_skip ?_
          refine bn ?_
          refine qn ?_
          refine wc_region ?_
          refine wl_add z15 rfl ?_
          refine wl_move (.int .i64 (IntKind.i64.wrap (x4 + 1))) rfl ?_
          refine wl_nil ?_
          refine qn ?_
          exact ⟨_, _, _, (IntKind.i64.wrap (x4 + 1)), rfl, (by omega), (by omega), fr35, (Ext.trans e9 s32.ext), z12, z13, z14, rfl, h⟩
      · replace h := (if_neg c18).symm.trans h
        cases h
    · replace h := (if_neg c16).symm.trans h
      have b38 : (decide (x4 < (a0.length : Int))) = false := decide_eq_false c16
      refine wc_else rfl b38 ?_
      refine wc_exit ?_
      refine qe ?_
      refine qe ?_
      refine be ?_
      refine qn ?_
      refine wc_seq ?_
      refine wc_region ?_
      refine wl_assign (.int .i64 (-1)) rfl ?_
      refine wl_nil ?_
      refine qn ?_
      refine wc_ret ?_
      have h := Option.some.inj h
      subst h
      refine end1 rfl (.tmp rfl .nil) ?_
      exact ⟨_, rfl, fr8⟩
/-! ### slices.ContainsFunc[[]string,string]: function 30 -/
def slices_ContainsFunc_string_string.f (k : Nat) (a0 : (List (List UInt8))) (p1 : ((List UInt8) → Option Bool)) : Option Bool := (slices_IndexFunc_string_string.f k a0 p1).bind fun t1 => (some (decide (0 ≤ t1)))
set_option maxHeartbeats 1000000 in
theorem slices_ContainsFunc_string_string.ok (k : Nat) {w0 : World} {hw0 : Hw} (wf : Hwf w0 hw0) (a0 : (List (List UInt8))) (p1 : (List UInt8) → Option Bool) (v0_ : Value) (q0 : Row Kstr w0 hw0 v0_ a0) (fv1 : Value) (q1 : FnOk Tryd.prog w0 hw0 fv1 (V1 Kstr) Value.bool p1) (r : Bool) (h : slices_ContainsFunc_string_string.f k a0 p1 = some r) :
    Calls Tryd.prog 30 #[v0_, fv1] w0 fun e w' => ∃ (hw' : Hw), e = .returned (.bool r) ∧ Stp none w0 hw0 w' hw' := by
  have fr0 := Stp.refl none (w := w0) (hw := hw0) wf
  unfold slices_ContainsFunc_string_string.f at h
  refine enter (n := 9) Tryd.func30 rfl rfl (Nat.le_of_ble_eq_true rfl) ?_
  refine wc_seq ?_
  refine wc_region ?_
  refine wl_assign (.bool false) rfl ?_
  refine wl_nil ?_
  refine qn ?_
  refine wc_seq ?_
  refine wc_region ?_
  refine wl_move (v0_) rfl ?_
  refine wl_move (fv1) rfl ?_
  obtain ⟨t1, h2, h⟩ := Option.bind_eq_some_iff.1 h
  refine wl_call [v0_, fv1] bod41 (mc rfl (mc rfl (mn _))) (slices_IndexFunc_string_string.ok k fr0.wf a0 p1 v0_ q0 fv1 q1 _ h2) ?_
  rintro e3 w4 ⟨hw5, rfl, s6⟩
  refine ⟨_, rfl, ?_⟩
  have fr7 := fr0.then0 s6
  refine wl_geq rfl rfl ?_
  refine wl_assign (.bool (decide (0 ≤ t1))) rfl ?_
  refine wl_nil ?_
  refine qn ?_
  refine wc_ret ?_
  have h := Option.some.inj h
  subst h
  refine end1 rfl (.tmp rfl .nil) ?_
  exact ⟨_, rfl, fr7⟩
/-! ### consignor/disk.Right$1: function 76 -/
def disk_Right_c1.f (k : Nat) (a0 : (List UInt8)) : Option Bool := some ((a0.length : Int) != 128)
set_option maxHeartbeats 1000000 in
theorem disk_Right_c1.ok (k : Nat) {w0 : World} {hw0 : Hw} (wf : Hwf w0 hw0) (a0 : (List UInt8)) (r : Bool) (h : disk_Right_c1.f k a0 = some r) :
    Calls Tryd.prog 76 #[.string (bs a0)] w0 fun e w' => ∃ (hw' : Hw), e = .returned (.bool r) ∧ Stp none w0 hw0 w' hw' := by
  have fr0 := Stp.refl none (w := w0) (hw := hw0) wf
  unfold disk_Right_c1.f at h
  refine enter (n := 6) Tryd.func76 rfl rfl (Nat.le_of_ble_eq_true rfl) ?_
  refine wc_seq ?_
  refine wc_region ?_
  refine wl_assign (.bool false) rfl ?_
  refine wl_nil ?_
  refine qn ?_
  refine wc_seq ?_
  refine wc_region ?_
  refine wl_move (.string (bs a0)) rfl ?_
  refine wl_lens Tryd.underlying9 rfl ?_
  refine wl_neq rfl rfl ?_
  refine wl_assign (.bool ((a0.length : Int) != 128)) rfl ?_
  refine wl_nil ?_
  refine qn ?_
  refine wc_ret ?_
  have h := Option.some.inj h
  subst h
  refine end1 rfl (.tmp rfl .nil) ?_
  exact ⟨_, rfl, fr0⟩
/-! ### slices.IndexFunc[[]consignor/api.Write,consignor/api.Write]: function 86 -/
def slices_IndexFunc_api_Write.l0 : Nat → (List ApiWrite) → (ApiWrite → Option Bool) → Int → Option Int
  | 0, _, _, _ => none
  | k + 1, a0, p1, x4 => if x4 < (a0.length : Int) then (if 0 ≤ x4 then ((a0[Int.toNat x4]?).bind fun t19 => ((p1 t19).bind fun t28 => (if t28 = true then (some x4) else (slices_IndexFunc_api_Write.l0 k a0 p1 (IntKind.i64.wrap (x4 + 1)))))) else none) else (some (-1))
def slices_IndexFunc_api_Write.f (k : Nat) (a0 : (List ApiWrite)) (p1 : (ApiWrite → Option Bool)) : Option Int := slices_IndexFunc_api_Write.l0 k a0 p1 0
set_option maxHeartbeats 1000000 in
theorem slices_IndexFunc_api_Write.ok (k : Nat) {w0 : World} {hw0 : Hw} (wf : Hwf w0 hw0) (a0 : (List ApiWrite)) (p1 : ApiWrite → Option Bool) (v0_ : Value) (q0 : Row KApiWrite w0 hw0 v0_ a0) (fv1 : Value) (q1 : FnOk Tryd.prog w0 hw0 fv1 (VS KApiWrite) Value.bool p1) (r : Int) (h : slices_IndexFunc_api_Write.f k a0 p1 = some r) :
    Calls Tryd.prog 86 #[v0_, fv1] w0 fun e w' => ∃ (hw' : Hw), e = .returned (.int .i64 r) ∧ Stp none w0 hw0 w' hw' := by
  have fr0 := Stp.refl none (w := w0) (hw := hw0) wf
  unfold slices_IndexFunc_api_Write.f at h
  refine enter (n := 19) Tryd.func86 rfl rfl (Nat.le_of_ble_eq_true rfl) ?_
  refine wc_seq ?_
  refine wc_region ?_
  refine wl_assign (.int .i64 0) rfl ?_
  refine wl_nil ?_
  refine qn ?_
  refine wc_seq ?_
  refine wc_seq ?_
  refine wc_region ?_
  refine wl_move (v0_) rfl ?_
  obtain ⟨A1, c2, hv3⟩ := (q0).slice
  refine wl_len Tryd.underlying66 (show _ = Value.slice _ a0.length _ from (Eq.trans rfl hv3)) ?_
  refine wl_move (.int .i64 0) rfl ?_
  refine wl_nil ?_
  refine qn ?_
  refine wc_block ?_
  refine wc_loop (fun m a w => ∃ (σ : Nat → Value) (hw : Hw) (kq : Nat) (x4 : Int), a = mkA 19 σ ∧ kq ≤ m ∧ kq ≤ k ∧ Stp none w0 hw0 w hw ∧ Ext w0 hw0 w hw ∧ σ 0 = v0_ ∧ σ 1 = fv1 ∧ σ 7 = .int .i64 (a0.length : Int) ∧ σ 8 = .int .i64 x4 ∧ slices_IndexFunc_api_Write.l0 kq a0 p1 x4 = some r) k ?_ ?_ ?_
  · skip
    exact ⟨_, _, _, 0, rfl, (Nat.le_refl _), (Nat.le_refl _), fr0, (Ext.refl _ _), rfl, rfl, rfl, rfl, h⟩
  · rintro _ _ ⟨_, hw6, k7, x4, rfl, hk10, hk11, fr8, e9, z12, z13, z14, z15, h⟩; obtain rfl := Nat.le_zero.1 hk10; rw [slices_IndexFunc_api_Write.l0] at h; cases h
  · rintro m0 _ w5 ⟨_, hw6, k7, x4, rfl, hk10, hk11, fr8, e9, z12, z13, z14, z15, h⟩
    rcases k7 with _ | k7
    · rw [slices_IndexFunc_api_Write.l0] at h; cases h
    rw [slices_IndexFunc_api_Write.l0] at h
    refine wc_seq ?_
    refine wc_region ?_
    refine wl_lss z15 z14 ?_
    refine wl_nil ?_
    refine qn ?_
    refine wc_seq ?_
    by_cases c16 : x4 < (a0.length : Int)
    · replace h := (if_pos c16).symm.trans h
      have b17 : (decide (x4 < (a0.length : Int))) = true := decide_eq_true c16
      refine wc_then rfl b17 ?_
      refine wc_skip ?_
      refine qn ?_
      refine wc_seq ?_
      refine wc_block ?_
      refine wc_seq ?_
      refine wc_region ?_
      refine wl_move (.int .i64 x4) z15 ?_
      refine wl_assign (.int .i64 x4) rfl ?_
      refine wl_nil ?_
      refine qn ?_
      refine wc_seq ?_
      refine wc_region ?_
      refine wl_move (fv1) z13 ?_
      refine wl_move (v0_) z12 ?_
      refine wl_move (.int .i64 x4) rfl ?_
      by_cases c18 : 0 ≤ x4
      · replace h := (if_pos c18).symm.trans h
        obtain ⟨t19, h20, h⟩ := Option.bind_eq_some_iff.1 h
        have c21 := at_lt c18 h20
        have f27 := q0.ext (e9)
        refine wl_at Tryd.underlying66 ty167 f27 rfl rfl c18 c21 t19 h20 ?_
        rintro B22 o23 cs24 rfl l26
        refine wl_load ty167 rfl [.int .i64 t19.At, .string (bs t19.Data)] rfl l26.2 ?_
        obtain ⟨t28, h29, h⟩ := Option.bind_eq_some_iff.1 h
        have f34 := q1.ext (e9)
        refine wl_callf f34 rfl rfl fr8.wf (⟨_, rfl, rfl⟩) h29 ?_
        intro w30 hw31 s32
        have fr35 := fr8.then0 s32
        refine wl_nil ?_
        refine qn ?_
        by_cases c36 : t28 = true
        · replace h := (if_pos c36).symm.trans h
          refine wc_then rfl c36 ?_
          refine wc_seq ?_
          refine wc_region ?_
          refine wl_move (.int .i64 x4) rfl ?_
          refine wl_assign (.int .i64 x4) rfl ?_
          refine wl_nil ?_
          refine qn ?_
          refine wc_ret ?_
          refine bret ?_
          refine qr ?_
          refine qr ?_
          refine bret ?_
          refine qr ?_
          have h := Option.some.inj h
          subst h
          refine end1 rfl (.tmp rfl .nil) ?_
          exact ⟨_, rfl, fr35⟩
        · replace h := (if_neg c36).symm.trans h
          have b37 : t28 = false := Bool.eq_false_iff.2 c36
          refine wc_else rfl b37 ?_
          refine wc_skip ?_
          refine bn ?_
          refine qn ?_
          refine wc_region ?_
          refine wl_add z15 rfl ?_
          refine wl_move (.int .i64 (IntKind.i64.wrap (x4 + 1))) rfl ?_
          refine wl_nil ?_
          refine qn ?_
          exact ⟨_, _, _, (IntKind.i64.wrap (x4 + 1)), rfl, (by omega), (by omega), fr35, (Ext.trans e9 s32.ext), z12, z13, z14, rfl, h⟩
      · replace h := (if_neg c18).symm.trans h
        cases h
    · replace h := (if_neg c16).symm.trans h
      have b38 : (decide (x4 < (a0.length : Int))) = false := decide_eq_false c16
      refine wc_else rfl b38 ?_
      refine wc_exit ?_
      refine qe ?_
      refine qe ?_
      refine be ?_
      refine qn ?_
      refine wc_seq ?_
      refine wc_region ?_
      refine wl_assign (.int .i64 (-1)) rfl ?_
      refine wl_nil ?_
      refine qn ?_
      refine wc_ret ?_
      have h := Option.some.inj h
      subst h
      refine end1 rfl (.tmp rfl .nil) ?_
      exact ⟨_, rfl, fr8⟩
/-! ### slices.ContainsFunc[[]consignor/api.Write,consignor/api.Write]: function 83 -/
def slices_ContainsFunc_api_Write.f (k : Nat) (a0 : (List ApiWrite)) (p1 : (ApiWrite → Option Bool)) : Option Bool := (slices_IndexFunc_api_Write.f k a0 p1).bind fun t1 => (some (decide (0 ≤ t1)))
set_option maxHeartbeats 1000000 in
theorem slices_ContainsFunc_api_Write.ok (k : Nat) {w0 : World} {hw0 : Hw} (wf : Hwf w0 hw0) (a0 : (List ApiWrite)) (p1 : ApiWrite → Option Bool) (v0_ : Value) (q0 : Row KApiWrite w0 hw0 v0_ a0) (fv1 : Value) (q1 : FnOk Tryd.prog w0 hw0 fv1 (VS KApiWrite) Value.bool p1) (r : Bool) (h : slices_ContainsFunc_api_Write.f k a0 p1 = some r) :
    Calls Tryd.prog 83 #[v0_, fv1] w0 fun e w' => ∃ (hw' : Hw), e = .returned (.bool r) ∧ Stp none w0 hw0 w' hw' := by
  have fr0 := Stp.refl none (w := w0) (hw := hw0) wf
  unfold slices_ContainsFunc_api_Write.f at h
  refine enter (n := 9) Tryd.func83 rfl rfl (Nat.le_of_ble_eq_true rfl) ?_
  refine wc_seq ?_
  refine wc_region ?_
  refine wl_assign (.bool false) rfl ?_
  refine wl_nil ?_
  refine qn ?_
  refine wc_seq ?_
  refine wc_region ?_
  refine wl_move (v0_) rfl ?_
  refine wl_move (fv1) rfl ?_
  obtain ⟨t1, h2, h⟩ := Option.bind_eq_some_iff.1 h
  refine wl_call [v0_, fv1] bod86 (mc rfl (mc rfl (mn _))) (slices_IndexFunc_api_Write.ok k fr0.wf a0 p1 v0_ q0 fv1 q1 _ h2) ?_
  rintro e3 w4 ⟨hw5, rfl, s6⟩
  refine ⟨_, rfl, ?_⟩
  have fr7 := fr0.then0 s6
  refine wl_geq rfl rfl ?_
  refine wl_assign (.bool (decide (0 ≤ t1))) rfl ?_
  refine wl_nil ?_
  refine qn ?_
  refine wc_ret ?_
  have h := Option.some.inj h
  subst h
  refine end1 rfl (.tmp rfl .nil) ?_
  exact ⟨_, rfl, fr7⟩
/-! ### consignor/disk.well$1: function 84 -/
def disk_well_c1.f (k : Nat) (a0 : ApiWrite) (c0 : Int) : Option Bool := some (((decide (a0.At < 0)) || (decide (c0 ≤ a0.At))) || ((a0.Data.length : Int) != 128))
set_option maxHeartbeats 1000000 in
theorem disk_well_c1.ok (k : Nat) {w0 : World} {hw0 : Hw} (wf : Hwf w0 hw0) (a0 : ApiWrite) (c0 : Int) (cb0 co0 : Nat) (cl0 : Live w0 hw0 cb0 co0 [.int .i64 c0]) (r : Bool) (h : disk_well_c1.f k a0 c0 = some r) :
    Calls Tryd.prog 84 #[.agg #[.int .i64 a0.At, .string (bs a0.Data)], .pointer (some ⟨cb0, co0, none⟩)] w0 fun e w' => ∃ (hw' : Hw), e = .returned (.bool r) ∧ Stp none w0 hw0 w' hw' := by
  have fr0 := Stp.refl none (w := w0) (hw := hw0) wf
  unfold disk_well_c1.f at h
  refine enter (n := 19) Tryd.func84 rfl rfl (Nat.le_of_ble_eq_true rfl) ?_
  refine wc_seq ?_
  refine wc_region ?_
  refine wl_box fr0.wf fr0.g.size [.int .i64 a0.At, .string (bs a0.Data)] (cells_of (v := (.agg #[.int .i64 a0.At, .string (bs a0.Data)])) rfl rfl) ?_
  intro b1 w2 s3 B4 g5
  have fr6 := fr0.then0 s3
  refine wl_assign (.bool false) rfl ?_
  refine wl_nil ?_
  refine qn ?_
  refine wc_seq ?_
  refine wc_region ?_
  refine wl_field fld167_0 rfl ?_
  refine wl_loadb1 B4 ty3 rfl (.int .i64 a0.At) rfl ?_
  refine wl_lss rfl rfl ?_
  refine wl_move (.bool (decide (a0.At < 0))) rfl ?_
  refine wl_join 5 [8, 9, 10, 11, 12] 12 (.bool ((decide (a0.At < 0)) || (decide (c0 ≤ a0.At)))) ?_ ?_
  · rcases Bool.eq_false_or_eq_true (decide (a0.At < 0)) with hcc | hcc
    · skip
      refine wl_off (yl rfl rfl rfl) hcc ?_
      refine wl_off (yl rfl rfl rfl) hcc ?_
      refine wl_off (yl rfl rfl rfl) hcc ?_
      refine wl_off (yl rfl rfl rfl) hcc ?_
      refine wl_pick_t (decide (a0.At < 0)) (.bool true) rfl hcc rfl ?_
      refine wl_nil ?_
      exact qn ⟨rfl, _, rfl, (by repeat (first | exact Same.refl _ _ | refine Same.upd ?_ rfl)), (by rw [hcc]; rfl)⟩
    · skip
      refine wl_on (yl rfl rfl rfl) hcc ?_
      refine wl_field fld167_0 rfl ?_
      refine wl_on (yl rfl rfl rfl) hcc ?_
      refine wl_loadb1 B4 ty3 rfl (.int .i64 a0.At) rfl ?_
      refine wl_on (yl rfl rfl rfl) hcc ?_
      have f7 := cl0.ext (s3.ext)
      refine wl_load1 ty3 rfl (.int .i64 c0) (f7.2 0 _ rfl) ?_
      refine wl_on (yl rfl rfl rfl) hcc ?_
      refine wl_geq rfl rfl ?_
      refine wl_pick_f (decide (a0.At < 0)) (.bool (decide (c0 ≤ a0.At))) rfl hcc rfl ?_
      refine wl_nil ?_
      exact qn ⟨rfl, _, rfl, (by repeat (first | exact Same.refl _ _ | refine Same.upd ?_ rfl)), (by rw [hcc]; rfl)⟩
  intro _ ho8 hv9
  refine wl_move (.bool ((decide (a0.At < 0)) || (decide (c0 ≤ a0.At)))) hv9 ?_
  refine wl_join 5 [14, 15, 16, 17, 18] 18 (.bool (((decide (a0.At < 0)) || (decide (c0 ≤ a0.At))) || ((a0.Data.length : Int) != 128))) ?_ ?_
  · rcases Bool.eq_false_or_eq_true ((decide (a0.At < 0)) || (decide (c0 ≤ a0.At))) with hcc | hcc
    · skip
      refine wl_off (yl rfl rfl rfl) hcc ?_
      refine wl_off (yl rfl rfl rfl) hcc ?_
      refine wl_off (yl rfl rfl rfl) hcc ?_
      refine wl_off (yl rfl rfl rfl) hcc ?_
      refine wl_pick_t ((decide (a0.At < 0)) || (decide (c0 ≤ a0.At))) (.bool true) rfl hcc rfl ?_
      refine wl_nil ?_
      exact qn ⟨rfl, _, rfl, (by repeat (first | exact Same.refl _ _ | refine Same.upd ?_ rfl)), (by rw [hcc]; rfl)⟩
    · skip
      refine wl_on (yl rfl rfl rfl) hcc ?_
      refine wl_field fld167_1 ((ho8 2 rfl).trans rfl) ?_
      refine wl_on (yl rfl rfl rfl) hcc ?_
      refine wl_loadb1 B4 ty9 rfl (.string (bs a0.Data)) rfl ?_
      refine wl_on (yl rfl rfl rfl) hcc ?_
      refine wl_lens Tryd.underlying9 rfl ?_
      refine wl_on (yl rfl rfl rfl) hcc ?_
      refine wl_neq rfl rfl ?_
      refine wl_pick_f ((decide (a0.At < 0)) || (decide (c0 ≤ a0.At))) (.bool ((a0.Data.length : Int) != 128)) rfl hcc rfl ?_
      refine wl_nil ?_
      exact qn ⟨rfl, _, rfl, (by repeat (first | exact Same.refl _ _ | refine Same.upd ?_ rfl)), (by rw [hcc]; rfl)⟩
  intro _ ho10 hv11
  refine wl_assign (.bool (((decide (a0.At < 0)) || (decide (c0 ≤ a0.At))) || ((a0.Data.length : Int) != 128))) hv11 ?_
  refine wl_nil ?_
  refine qn ?_
  refine wc_ret ?_
  have h := Option.some.inj h
  subst h
  refine end1 rfl (.tmp rfl .nil) ?_
  exact ⟨_, rfl, fr6⟩
/-! ### consignor/disk.well: function 77 -/
def disk_well.f (k : Nat) (a0 : (List ApiWrite)) (a1 : Int) : Option Bool := (slices_ContainsFunc_api_Write.f k a0 (fun x => disk_well_c1.f k x a1)).bind fun t12 => (some (!t12))
set_option maxHeartbeats 1000000 in
theorem disk_well.ok (k : Nat) {w0 : World} {hw0 : Hw} (wf : Hwf w0 hw0) (a0 : (List ApiWrite)) (a1 : Int) (v0_ : Value) (q0 : Row KApiWrite w0 hw0 v0_ a0) (r : Bool) (h : disk_well.f k a0 a1 = some r) :
    Calls Tryd.prog 77 #[v0_, .int .i64 a1] w0 fun e w' => ∃ (hw' : Hw), e = .returned (.bool r) ∧ Stp none w0 hw0 w' hw' := by
  have fr0 := Stp.refl none (w := w0) (hw := hw0) wf
  unfold disk_well.f at h
  refine enter (n := 9) Tryd.func77 rfl rfl (Nat.le_of_ble_eq_true rfl) ?_
  refine wc_seq ?_
  refine wc_region ?_
  refine wl_box fr0.wf fr0.g.size [.int .i64 a1] (cells_of (v := (.int .i64 a1)) rfl rfl) ?_
  intro b1 w2 s3 B4 g5
  have fr6 := fr0.then0 s3
  refine wl_assign (.bool false) rfl ?_
  refine wl_nil ?_
  refine qn ?_
  refine wc_seq ?_
  refine wc_region ?_
  refine wl_move (v0_) rfl ?_
  have s7 := Stp.raise fr6.wf b1 1 B4.lt
  have l8 := B4.live
  have fr9 := fr6.then s7 (fun _ e => (Option.some.inj e ▸ B4.new))
  refine wl_func (mn _) (mc rfl (mn _)) ?_
  have f10 := q0.ext (s3.ext.trans (s7.ext))
  have q11 : FnOk Tryd.prog w2 (raise hw0 b1 1) (.func (.func 84) #[] #[.pointer (some ⟨b1, 0, none⟩)]) (VS KApiWrite) Value.bool (fun x => disk_well_c1.f k x a1) := by
    refine ⟨84, [], [.pointer (some ⟨b1, 0, none⟩)], rfl, bod84, ?_⟩
    rintro w' hw' e wf x va ⟨cs, rfl, rfl⟩ y hy
    exact disk_well_c1.ok k wf x a1 b1 0 (Live.ext e l8) _ hy
  obtain ⟨t12, h13, h⟩ := Option.bind_eq_some_iff.1 h
  refine wl_call [v0_, .func (.func 84) #[] #[.pointer (some ⟨b1, 0, none⟩)]] bod83 (mc rfl (mc rfl (mn _))) (slices_ContainsFunc_api_Write.ok k fr9.wf a0 (fun x => disk_well_c1.f k x a1) v0_ f10 (.func (.func 84) #[] #[.pointer (some ⟨b1, 0, none⟩)]) q11 _ h13) ?_
  rintro e14 w15 ⟨hw16, rfl, s17⟩
  refine ⟨_, rfl, ?_⟩
  have fr18 := fr9.then0 s17
  refine wl_not rfl ?_
  refine wl_assign (.bool (!t12)) rfl ?_
  refine wl_nil ?_
  refine qn ?_
  refine wc_ret ?_
  have h := Option.some.inj h
  subst h
  refine end1 rfl (.tmp rfl .nil) ?_
  exact ⟨_, rfl, fr18⟩
/-! ### consignor/disk.Right: function 67 -/
def disk_Right.f (k : Nat) (a0 : ApiDisk) : Option Bool := if (((decide (4 ≤ (a0.Sectors.length : Int))) && (decide ((a0.Sectors.length : Int) ≤ 64))) && (decide ((a0.Dirty.length : Int) ≤ 200))) = true then ((slices_ContainsFunc_string_string.f k a0.Sectors (fun x => disk_Right_c1.f k x)).bind fun t21 => (if t21 = true then (some false) else ((disk_well.f k a0.Dirty (a0.Sectors.length : Int)).bind fun t32 => (some t32)))) else (some false)
set_option maxHeartbeats 1000000 in
theorem disk_Right.ok (k : Nat) {w0 : World} {hw0 : Hw} (wf : Hwf w0 hw0) (a0 : ApiDisk) (v0_0 : Value) (q0_0 : Row Kstr w0 hw0 v0_0 a0.Sectors) (v0_1 : Value) (q0_1 : Row KApiWrite w0 hw0 v0_1 a0.Dirty) (r : Bool) (h : disk_Right.f k a0 = some r) :
    Calls Tryd.prog 67 #[.agg #[v0_0, v0_1]] w0 fun e w' => ∃ (hw' : Hw), e = .returned (.bool r) ∧ Stp none w0 hw0 w' hw' := by
  have fr0 := Stp.refl none (w := w0) (hw := hw0) wf
  unfold disk_Right.f at h
  refine enter (n := 33) Tryd.func67 rfl rfl (Nat.le_of_ble_eq_true rfl) ?_
  refine wc_seq ?_
  refine wc_region ?_
  refine wl_box fr0.wf fr0.g.size [v0_0, v0_1] (cells_of (v := (.agg #[v0_0, v0_1])) rfl rfl) ?_
  intro b1 w2 s3 B4 g5
  have fr6 := fr0.then0 s3
  refine wl_assign (.bool false) rfl ?_
  refine wl_nil ?_
  refine qn ?_
  refine wc_seq ?_
  refine wc_region ?_
  refine wl_field fld68_0 rfl ?_
  refine wl_loadb1 B4 ty36 rfl (v0_0) rfl ?_
  have f10 := q0_0.ext (s3.ext)
  obtain ⟨A7, c8, hv9⟩ := (f10).slice
  refine wl_len Tryd.underlying36 (show _ = Value.slice _ a0.Sectors.length _ from (Eq.trans rfl hv9)) ?_
  refine wl_assign (.int .i64 (a0.Sectors.length : Int)) rfl ?_
  refine wl_nil ?_
  refine qn ?_
  refine wc_seq ?_
  refine wc_region ?_
  refine wl_assign (.func (.func 76) #[] #[]) rfl ?_
  refine wl_nil ?_
  refine qn ?_
  refine wc_seq ?_
  refine wc_region ?_
  refine wl_move (.int .i64 (a0.Sectors.length : Int)) rfl ?_
  refine wl_geq rfl rfl ?_
  refine wl_move (.bool (decide (4 ≤ (a0.Sectors.length : Int)))) rfl ?_
  refine wl_join 3 [11, 12, 13] 13 (.bool ((decide (4 ≤ (a0.Sectors.length : Int))) && (decide ((a0.Sectors.length : Int) ≤ 64)))) ?_ ?_
  · rcases Bool.eq_false_or_eq_true (decide (4 ≤ (a0.Sectors.length : Int))) with hcc | hcc
    · skip
      refine wl_on (yl rfl rfl rfl) hcc ?_
      refine wl_move (.int .i64 (a0.Sectors.length : Int)) rfl ?_
      refine wl_on (yl rfl rfl rfl) hcc ?_
      refine wl_leq rfl rfl ?_
      refine wl_pick_t (decide (4 ≤ (a0.Sectors.length : Int))) (.bool (decide ((a0.Sectors.length : Int) ≤ 64))) rfl hcc rfl ?_
      refine wl_nil ?_
      exact qn ⟨rfl, _, rfl, (by repeat (first | exact Same.refl _ _ | refine Same.upd ?_ rfl)), (by rw [hcc]; rfl)⟩
    · skip
      refine wl_off (yl rfl rfl rfl) hcc ?_
      refine wl_off (yl rfl rfl rfl) hcc ?_
      refine wl_pick_f (decide (4 ≤ (a0.Sectors.length : Int))) (.bool false) rfl hcc rfl ?_
      refine wl_nil ?_
      exact qn ⟨rfl, _, rfl, (by repeat (first | exact Same.refl _ _ | refine Same.upd ?_ rfl)), (by rw [hcc]; rfl)⟩
  intro _ ho11 hv12
  refine wl_move (.bool ((decide (4 ≤ (a0.Sectors.length : Int))) && (decide ((a0.Sectors.length : Int) ≤ 64)))) hv12 ?_
  refine wl_join 5 [15, 16, 17, 18, 19] 19 (.bool (((decide (4 ≤ (a0.Sectors.length : Int))) && (decide ((a0.Sectors.length : Int) ≤ 64))) && (decide ((a0.Dirty.length : Int) ≤ 200)))) ?_ ?_
  · rcases Bool.eq_false_or_eq_true ((decide (4 ≤ (a0.Sectors.length : Int))) && (decide ((a0.Sectors.length : Int) ≤ 64))) with hcc | hcc
    · skip
      refine wl_on (yl rfl rfl rfl) hcc ?_
      refine wl_field fld68_1 ((ho11 1 rfl).trans rfl) ?_
      refine wl_on (yl rfl rfl rfl) hcc ?_
      refine wl_loadb1 B4 ty66 rfl (v0_1) rfl ?_
      refine wl_on (yl rfl rfl rfl) hcc ?_
      have f16 := q0_1.ext (s3.ext)
      obtain ⟨A13, c14, hv15⟩ := (f16).slice
      refine wl_len Tryd.underlying66 (show _ = Value.slice _ a0.Dirty.length _ from (Eq.trans rfl hv15)) ?_
      refine wl_on (yl rfl rfl rfl) hcc ?_
      refine wl_leq rfl rfl ?_
      refine wl_pick_t ((decide (4 ≤ (a0.Sectors.length : Int))) && (decide ((a0.Sectors.length : Int) ≤ 64))) (.bool (decide ((a0.Dirty.length : Int) ≤ 200))) rfl hcc rfl ?_
      refine wl_nil ?_
      exact qn ⟨rfl, _, rfl, (by repeat (first | exact Same.refl _ _ | refine Same.upd ?_ rfl)), (by rw [hcc]; rfl)⟩
    · skip
      refine wl_off (yl rfl rfl rfl) hcc ?_
      refine wl_off (yl rfl rfl rfl) hcc ?_
      refine wl_off (yl rfl rfl rfl) hcc ?_
      refine wl_off (yl rfl rfl rfl) hcc ?_
      refine wl_pick_f ((decide (4 ≤ (a0.Sectors.length : Int))) && (decide ((a0.Sectors.length : Int) ≤ 64))) (.bool false) rfl hcc rfl ?_
      refine wl_nil ?_
      exact qn ⟨rfl, _, rfl, (by repeat (first | exact Same.refl _ _ | refine Same.upd ?_ rfl)), (by rw [hcc]; rfl)⟩
  intro _ ho17 hv18
  refine wl_move (.bool (((decide (4 ≤ (a0.Sectors.length : Int))) && (decide ((a0.Sectors.length : Int) ≤ 64))) && (decide ((a0.Dirty.length : Int) ≤ 200)))) hv18 ?_
  by_cases c19 : (((decide (4 ≤ (a0.Sectors.length : Int))) && (decide ((a0.Sectors.length : Int) ≤ 64))) && (decide ((a0.Dirty.length : Int) ≤ 200))) = true
  · replace h := (if_pos c19).symm.trans h
    refine wl_on (yl rfl rfl rfl) c19 ?_
    refine wl_field fld68_0 ((ho17 1 rfl).trans ((ho11 1 rfl).trans rfl)) ?_
    refine wl_on (yl rfl rfl rfl) c19 ?_
    refine wl_loadb1 B4 ty36 rfl (v0_0) rfl ?_
    refine wl_on (yl rfl rfl rfl) c19 ?_
    refine wl_move (.func (.func 76) #[] #[]) ((ho17 4 rfl).trans ((ho11 4 rfl).trans rfl)) ?_
    refine wl_on (yl rfl rfl rfl) c19 ?_
    have q20 : FnOk Tryd.prog w2 hw0 (.func (.func 76) #[] #[]) (V1 Kstr) Value.bool (fun x => disk_Right_c1.f k x) := by
      refine ⟨76, [], [], rfl, bod76, ?_⟩
      intro w' hw' e wf x va hva y hy
      obtain rfl : va = _ := (List.cons.inj hva).1
      exact disk_Right_c1.ok k wf x  _ hy
    obtain ⟨t21, h22, h⟩ := Option.bind_eq_some_iff.1 h
    refine wl_call [v0_0, .func (.func 76) #[] #[]] bod30 (mc rfl (mc rfl (mn _))) (slices_ContainsFunc_string_string.ok k fr6.wf a0.Sectors (fun x => disk_Right_c1.f k x) v0_0 f10 (.func (.func 76) #[] #[]) q20 _ h22) ?_
    rintro e23 w24 ⟨hw25, rfl, s26⟩
    refine ⟨_, rfl, ?_⟩
    have fr27 := fr6.then0 s26
    refine wl_on (yl rfl rfl rfl) c19 ?_
    refine wl_not rfl ?_
    refine wl_pick_t (((decide (4 ≤ (a0.Sectors.length : Int))) && (decide ((a0.Sectors.length : Int) ≤ 64))) && (decide ((a0.Dirty.length : Int) ≤ 200))) (.bool (!t21)) rfl c19 rfl ?_
    refine wl_move (.bool (!t21)) rfl ?_
    by_cases c28 : t21 = true
    · replace h := (if_pos c28).symm.trans h
      refine wl_off (yl rfl rfl rfl) (by rw [c28] <;> rfl) ?_
      refine wl_off (yl rfl rfl rfl) (by rw [c28] <;> rfl) ?_
      refine wl_off (yl rfl rfl rfl) (by rw [c28] <;> rfl) ?_
      refine wl_off (yl rfl rfl rfl) (by rw [c28] <;> rfl) ?_
      refine wl_pick_f (!t21) (.bool false) rfl (by rw [c28] <;> rfl) rfl ?_
      refine wl_assign (.bool false) rfl ?_
      refine wl_nil ?_
      refine qn ?_
      refine wc_ret ?_
      have h := Option.some.inj h
      subst h
      refine end1 rfl (.tmp rfl .nil) ?_
      exact ⟨_, rfl, fr27⟩
    · replace h := (if_neg c28).symm.trans h
      have b29 : t21 = false := Bool.eq_false_iff.2 c28
      refine wl_on (yl rfl rfl rfl) (by rw [b29] <;> rfl) ?_
      refine wl_field fld68_1 ((ho17 1 rfl).trans ((ho11 1 rfl).trans rfl)) ?_
      refine wl_on (yl rfl rfl rfl) (by rw [b29] <;> rfl) ?_
      have B30 := (B4.step0 s26)
      refine wl_loadb1 B30 ty66 rfl (v0_1) rfl ?_
      refine wl_on (yl rfl rfl rfl) (by rw [b29] <;> rfl) ?_
      refine wl_move (.int .i64 (a0.Sectors.length : Int)) ((ho17 3 rfl).trans ((ho11 3 rfl).trans rfl)) ?_
      refine wl_on (yl rfl rfl rfl) (by rw [b29] <;> rfl) ?_
      have f31 := q0_1.ext (s3.ext.trans (s26.ext))
      obtain ⟨t32, h33, h⟩ := Option.bind_eq_some_iff.1 h
      refine wl_call [v0_1, .int .i64 (a0.Sectors.length : Int)] bod77 (mc rfl (mc rfl (mn _))) (disk_well.ok k fr27.wf a0.Dirty (a0.Sectors.length : Int) v0_1 f31 _ h33) ?_
      rintro e34 w35 ⟨hw36, rfl, s37⟩
      refine ⟨_, rfl, ?_⟩
      have fr38 := fr27.then0 s37
      refine wl_pick_t (!t21) (.bool t32) rfl (by rw [b29] <;> rfl) rfl ?_
      refine wl_assign (.bool t32) rfl ?_
      refine wl_nil ?_
      refine qn ?_
      refine wc_ret ?_
      have h := Option.some.inj h
      subst h
      refine end1 rfl (.tmp rfl .nil) ?_
      exact ⟨_, rfl, fr38⟩
  · replace h := (if_neg c19).symm.trans h
    have b39 : (((decide (4 ≤ (a0.Sectors.length : Int))) && (decide ((a0.Sectors.length : Int) ≤ 64))) && (decide ((a0.Dirty.length : Int) ≤ 200))) = false := Bool.eq_false_iff.2 c19
    refine wl_off (yl rfl rfl rfl) b39 ?_
    refine wl_off (yl rfl rfl rfl) b39 ?_
    refine wl_off (yl rfl rfl rfl) b39 ?_
    refine wl_off (yl rfl rfl rfl) b39 ?_
    refine wl_off (yl rfl rfl rfl) b39 ?_
    refine wl_pick_f (((decide (4 ≤ (a0.Sectors.length : Int))) && (decide ((a0.Sectors.length : Int) ≤ 64))) && (decide ((a0.Dirty.length : Int) ≤ 200))) (.bool false) rfl b39 rfl ?_
    refine wl_move (.bool false) rfl ?_
    refine wl_off (yl rfl rfl rfl) rfl ?_
    refine wl_off (yl rfl rfl rfl) rfl ?_
    refine wl_off (yl rfl rfl rfl) rfl ?_
    refine wl_off (yl rfl rfl rfl) rfl ?_
    refine wl_pick_f false (.bool false) rfl rfl rfl ?_
    refine wl_assign (.bool false) rfl ?_
    refine wl_nil ?_
    refine qn ?_
    refine wc_ret ?_
    have h := Option.some.inj h
    subst h
    refine end1 rfl (.tmp rfl .nil) ?_
    exact ⟨_, rfl, fr6⟩
/-! ### consignor/ledger.room: function 69 -/
def ledger_room.f (k : Nat) (a0 : ApiDisk) (a1 : Int) : Option (Int × (List UInt8)) := if (0 : Int) ≤ (IntKind.i64.wrap ((IntKind.i64.wrap (a1 * (IntKind.i64.wrap (Int.tdiv (a0.Sectors.length : Int) 2)))) + 1)) then (if ((IntKind.i64.wrap ((IntKind.i64.wrap (a1 * (IntKind.i64.wrap (Int.tdiv (a0.Sectors.length : Int) 2)))) + 1)) : Int) ≤ (IntKind.i64.wrap ((IntKind.i64.wrap (a1 + 1)) * (IntKind.i64.wrap (Int.tdiv (a0.Sectors.length : Int) 2)))) then (if ((IntKind.i64.wrap ((IntKind.i64.wrap (a1 + 1)) * (IntKind.i64.wrap (Int.tdiv (a0.Sectors.length : Int) 2)))) : Int) ≤ (a0.Sectors.length : Int) then ((strings_Join.f k ((a0.Sectors.take (Int.toNat (IntKind.i64.wrap ((IntKind.i64.wrap (a1 + 1)) * (IntKind.i64.wrap (Int.tdiv (a0.Sectors.length : Int) 2)))))).drop (Int.toNat (IntKind.i64.wrap ((IntKind.i64.wrap (a1 * (IntKind.i64.wrap (Int.tdiv (a0.Sectors.length : Int) 2)))) + 1)))) []).bind fun t16 => (some ((IntKind.i64.wrap (a1 * (IntKind.i64.wrap (Int.tdiv (a0.Sectors.length : Int) 2)))), t16))) else none) else none) else none
set_option maxHeartbeats 1000000 in
theorem ledger_room.ok (k : Nat) {w0 : World} {hw0 : Hw} (wf : Hwf w0 hw0) (a0 : ApiDisk) (a1 : Int) (v0_0 : Value) (q0_0 : Row Kstr w0 hw0 v0_0 a0.Sectors) (v0_1 : Value) (q0_1 : Row KApiWrite w0 hw0 v0_1 a0.Dirty) (r : (Int × (List UInt8))) (h : ledger_room.f k a0 a1 = some r) :
    Calls Tryd.prog 69 #[.agg #[v0_0, v0_1], .int .i64 a1] w0 fun e w' => ∃ (hw' : Hw), e = .returned (.tuple #[.int .i64 r.1, .string (bs r.2)]) ∧ Stp none w0 hw0 w' hw' := by
  have fr0 := Stp.refl none (w := w0) (hw := hw0) wf
  unfold ledger_room.f at h
  refine enter (n := 26) Tryd.func69 rfl rfl (Nat.le_of_ble_eq_true rfl) ?_
  refine wc_seq ?_
  refine wc_region ?_
  refine wl_box fr0.wf fr0.g.size [v0_0, v0_1] (cells_of (v := (.agg #[v0_0, v0_1])) rfl rfl) ?_
  intro b1 w2 s3 B4 g5
  have fr6 := fr0.then0 s3
  refine wl_assign (.int .i64 0) rfl ?_
  refine wl_assign (.string (bs [])) rfl ?_
  refine wl_nil ?_
  refine qn ?_
  refine wc_seq ?_
  refine wc_region ?_
  refine wl_field fld68_0 rfl ?_
  refine wl_loadb1 B4 ty36 rfl (v0_0) rfl ?_
  have f10 := q0_0.ext (s3.ext)
  obtain ⟨A7, c8, hv9⟩ := (f10).slice
  refine wl_len Tryd.underlying36 (show _ = Value.slice _ a0.Sectors.length _ from (Eq.trans rfl hv9)) ?_
  refine wl_quo rfl rfl (by decide) ?_
  refine wl_assign (.int .i64 (IntKind.i64.wrap (Int.tdiv (a0.Sectors.length : Int) 2))) rfl ?_
  refine wl_nil ?_
  refine qn ?_
  refine wc_seq ?_
  refine wc_region ?_
  refine wl_move (.int .i64 a1) rfl ?_
  refine wl_move (.int .i64 (IntKind.i64.wrap (Int.tdiv (a0.Sectors.length : Int) 2))) rfl ?_
  refine wl_mul rfl rfl ?_
  refine wl_field fld68_0 rfl ?_
  refine wl_loadb1 B4 ty36 rfl (v0_0) rfl ?_
  refine wl_move (.int .i64 a1) rfl ?_
  refine wl_move (.int .i64 (IntKind.i64.wrap (Int.tdiv (a0.Sectors.length : Int) 2))) rfl ?_
  refine wl_mul rfl rfl ?_
  refine wl_add rfl rfl ?_
  refine wl_move (.int .i64 a1) rfl ?_
  refine wl_add rfl rfl ?_
  refine wl_move (.int .i64 (IntKind.i64.wrap (Int.tdiv (a0.Sectors.length : Int) 2))) rfl ?_
  refine wl_mul rfl rfl ?_
  by_cases c11 : (0 : Int) ≤ (IntKind.i64.wrap ((IntKind.i64.wrap (a1 * (IntKind.i64.wrap (Int.tdiv (a0.Sectors.length : Int) 2)))) + 1))
  · replace h := (if_pos c11).symm.trans h
    by_cases c12 : ((IntKind.i64.wrap ((IntKind.i64.wrap (a1 * (IntKind.i64.wrap (Int.tdiv (a0.Sectors.length : Int) 2)))) + 1)) : Int) ≤ (IntKind.i64.wrap ((IntKind.i64.wrap (a1 + 1)) * (IntKind.i64.wrap (Int.tdiv (a0.Sectors.length : Int) 2))))
    · replace h := (if_pos c12).symm.trans h
      by_cases c13 : ((IntKind.i64.wrap ((IntKind.i64.wrap (a1 + 1)) * (IntKind.i64.wrap (Int.tdiv (a0.Sectors.length : Int) 2)))) : Int) ≤ (a0.Sectors.length : Int)
      · replace h := (if_pos c13).symm.trans h
        refine wl_cut Tryd.underlying36 ty9 f10 rfl (Bd.yes rfl) (Bd.yes rfl) c11 c12 c13 ?_
        intro v14 f15
        obtain ⟨t16, h17, h⟩ := Option.bind_eq_some_iff.1 h
        refine wl_call [v14, .string (bs [])] bod79 (mc rfl (mc rfl (mn _))) (strings_Join.ok k fr6.wf ((a0.Sectors.take (Int.toNat (IntKind.i64.wrap ((IntKind.i64.wrap (a1 + 1)) * (IntKind.i64.wrap (Int.tdiv (a0.Sectors.length : Int) 2)))))).drop (Int.toNat (IntKind.i64.wrap ((IntKind.i64.wrap (a1 * (IntKind.i64.wrap (Int.tdiv (a0.Sectors.length : Int) 2)))) + 1)))) [] v14 f15 _ h17) ?_
        rintro e18 w19 ⟨hw20, rfl, s21⟩
        refine ⟨_, rfl, ?_⟩
        have fr22 := fr6.then0 s21
        refine wl_assign (.int .i64 (IntKind.i64.wrap (a1 * (IntKind.i64.wrap (Int.tdiv (a0.Sectors.length : Int) 2))))) rfl ?_
        refine wl_assign (.string (bs t16)) rfl ?_
        refine wl_nil ?_
        refine qn ?_
        refine wc_ret ?_
        have h := Option.some.inj h
        subst h
        refine end2 rfl (.tmp rfl (.tmp rfl .nil)) ?_
        exact ⟨_, rfl, fr22⟩
      · replace h := (if_neg c13).symm.trans h
        cases h
    · replace h := (if_neg c12).symm.trans h
      cases h
  · replace h := (if_neg c11).symm.trans h
    cases h
/-! ### consignor/octet.Whole: function 78 -/
def octet_Whole.l0 : Nat → (List UInt8) → Int → Int → Option (Int × Int)
  | 0, _, _, _ => none
  | k + 1, a0, x4, x5 => if x5 < (a0.length : Int) then (if 0 ≤ x5 then (if x5 < (a0.length : Int) then (if ¬ (IntKind.i64.wrap (8 * x5)) < 0 then (octet_Whole.l0 k a0 (ibits .or .u64 x4 (ishl .u64 (IntKind.u64.wrap ((a0.getD (Int.toNat x5) 0).toNat : Int)) (IntKind.i64.wrap (8 * x5)))) (IntKind.i64.wrap (x5 + 1))) else none) else none) else none) else (some (x4, 0))
def octet_Whole.f (k : Nat) (a0 : (List UInt8)) : Option (Int × Int) := if 8 < (a0.length : Int) then (some (0, 2)) else (octet_Whole.l0 k a0 0 0)
set_option maxHeartbeats 1000000 in
theorem octet_Whole.ok (k : Nat) {w0 : World} {hw0 : Hw} (wf : Hwf w0 hw0) (a0 : (List UInt8)) (r : (Int × Int)) (h : octet_Whole.f k a0 = some r) :
    Calls Tryd.prog 78 #[.string (bs a0)] w0 fun e w' => ∃ (hw' : Hw), e = .returned (.tuple #[.int .u64 r.1, .int .i64 r.2]) ∧ Stp none w0 hw0 w' hw' := by
  have fr0 := Stp.refl none (w := w0) (hw := hw0) wf
  unfold octet_Whole.f at h
  refine enter (n := 25) Tryd.func78 rfl rfl (Nat.le_of_ble_eq_true rfl) ?_
  refine wc_seq ?_
  refine wc_region ?_
  refine wl_assign (.int .u64 0) rfl ?_
  refine wl_assign (.int .i64 0) rfl ?_
  refine wl_nil ?_
  refine qn ?_
  refine wc_seq ?_
  refine wc_seq ?_
  refine wc_region ?_
  refine wl_move (.string (bs a0)) rfl ?_
  refine wl_lens Tryd.underlying9 rfl ?_
  refine wl_gtr rfl rfl ?_
  refine wl_nil ?_
  refine qn ?_
  by_cases c1 : 8 < (a0.length : Int)
  · replace h := (if_pos c1).symm.trans h
    have b2 : (decide (8 < (a0.length : Int))) = true := decide_eq_true c1
    refine wc_then rfl b2 ?_
    refine wc_seq ?_
    refine wc_region ?_
    refine wl_assign (.int .u64 0) rfl ?_
    refine wl_assign (.int .i64 2) rfl ?_
    refine wl_nil ?_
    refine qn ?_
    refine wc_ret ?_
    refine qr ?_
    have h := Option.some.inj h
    subst h
    refine end2 rfl (.tmp rfl (.tmp rfl .nil)) ?_
    exact ⟨_, rfl, fr0⟩
  · replace h := (if_neg c1).symm.trans h
    have b3 : (decide (8 < (a0.length : Int))) = false := decide_eq_false c1
    refine wc_else rfl b3 ?_
    refine wc_skip ?_
    refine qn ?_
    refine wc_seq ?_
    refine wc_region ?_
    refine wl_assign (.int .u64 0) rfl ?_
    refine wl_nil ?_
    refine qn ?_
    refine wc_seq ?_
    refine wc_seq ?_
    refine wc_region ?_
    refine wl_move (.string (bs a0)) rfl ?_
    refine wl_lens Tryd.underlying9 rfl ?_
    refine wl_move (.int .i64 0) rfl ?_
    refine wl_nil ?_
    refine qn ?_
    refine wc_block ?_
    refine wc_loop (fun m a w => ∃ (σ : Nat → Value) (hw : Hw) (kq : Nat) (x4 : Int) (x5 : Int), a = mkA 25 σ ∧ kq ≤ m ∧ kq ≤ k ∧ Stp none w0 hw0 w hw ∧ Ext w0 hw0 w hw ∧ σ 0 = .string (bs a0) ∧ σ 4 = .int .u64 x4 ∧ σ 10 = .int .i64 (a0.length : Int) ∧ σ 11 = .int .i64 x5 ∧ octet_Whole.l0 kq a0 x4 x5 = some r) k ?_ ?_ ?_
    · skip
      exact ⟨_, _, _, 0, 0, rfl, (Nat.le_refl _), (Nat.le_refl _), fr0, (Ext.refl _ _), rfl, rfl, rfl, rfl, h⟩
    · rintro _ _ ⟨_, hw7, k8, x4, x5, rfl, hk11, hk12, fr9, e10, z13, z14, z15, z16, h⟩; obtain rfl := Nat.le_zero.1 hk11; rw [octet_Whole.l0] at h; cases h
    · rintro m0 _ w6 ⟨_, hw7, k8, x4, x5, rfl, hk11, hk12, fr9, e10, z13, z14, z15, z16, h⟩
      rcases k8 with _ | k8
      · rw [octet_Whole.l0] at h; cases h
      rw [octet_Whole.l0] at h
      refine wc_seq ?_
      refine wc_region ?_
      refine wl_lss z16 z15 ?_
      refine wl_nil ?_
      refine qn ?_
      refine wc_seq ?_
      by_cases c17 : x5 < (a0.length : Int)
      · replace h := (if_pos c17).symm.trans h
        have b18 : (decide (x5 < (a0.length : Int))) = true := decide_eq_true c17
        refine wc_then rfl b18 ?_
        refine wc_skip ?_
        refine qn ?_
        refine wc_seq ?_
        refine wc_block ?_
        refine wc_seq ?_
        refine wc_region ?_
        refine wl_move (.int .i64 x5) z16 ?_
        refine wl_assign (.int .i64 x5) rfl ?_
        refine wl_nil ?_
        refine qn ?_
        refine wc_region ?_
        refine wl_move (.int .u64 x4) z14 ?_
        refine wl_move (.string (bs a0)) z13 ?_
        refine wl_move (.int .i64 x5) rfl ?_
        by_cases c19 : 0 ≤ x5
        · replace h := (if_pos c19).symm.trans h
          by_cases c20 : x5 < (a0.length : Int)
          · replace h := (if_pos c20).symm.trans h
            refine wl_bt Tryd.underlying9 rfl rfl c19 c20 ?_
            refine wl_conv_int Tryd.underlying5 Tryd.underlying140 rfl ?_
            refine wl_move (.int .i64 x5) rfl ?_
            refine wl_mul rfl rfl ?_
            by_cases c21 : ¬ (IntKind.i64.wrap (8 * x5)) < 0
            · replace h := (if_pos c21).symm.trans h
              refine wl_shl rfl rfl c21 ?_
              refine wl_or rfl rfl ?_
              refine wl_assign (.int .u64 (ibits .or .u64 x4 (ishl .u64 (IntKind.u64.wrap ((a0.getD (Int.toNat x5) 0).toNat : Int)) (IntKind.i64.wrap (8 * x5))))) rfl ?_
              refine wl_nil ?_
              refine bn ?_
              refine qn ?_
              refine wc_region ?_
              refine wl_add z16 rfl ?_
              refine wl_move (.int .i64 (IntKind.i64.wrap (x5 + 1))) rfl ?_
              refine wl_nil ?_
              refine qn ?_
              exact ⟨_, _, _, (ibits .or .u64 x4 (ishl .u64 (IntKind.u64.wrap ((a0.getD (Int.toNat x5) 0).toNat : Int)) (IntKind.i64.wrap (8 * x5)))), (IntKind.i64.wrap (x5 + 1)), rfl, (by omega), (by omega), fr9, e10, z13, rfl, z15, rfl, h⟩
            · replace h := (if_neg c21).symm.trans h
              cases h
          · replace h := (if_neg c20).symm.trans h
            cases h
        · replace h := (if_neg c19).symm.trans h
          cases h
      · replace h := (if_neg c17).symm.trans h
        have b22 : (decide (x5 < (a0.length : Int))) = false := decide_eq_false c17
        refine wc_else rfl b22 ?_
        refine wc_exit ?_
        refine qe ?_
        refine qe ?_
        refine be ?_
        refine qn ?_
        refine wc_seq ?_
        refine wc_region ?_
        refine wl_move (.int .u64 x4) z14 ?_
        refine wl_assign (.int .u64 x4) rfl ?_
        refine wl_assign (.int .i64 0) rfl ?_
        refine wl_nil ?_
        refine qn ?_
        refine wc_ret ?_
        have h := Option.some.inj h
        subst h
        refine end2 rfl (.tmp rfl (.tmp rfl .nil)) ?_
        exact ⟨_, rfl, fr9⟩
/-! ### consignor/ledger.tells: function 68 -/
def ledger_tells.j0 : Nat → (Int × Int) → (Int × Int) → Bool → Option (Int × Int)
  | 0, _, _, _ => none
  | k + 1, t29, t38, x46 => if x46 = true then (some (0, 0)) else (some ((IntKind.i64.wrap t29.1), (IntKind.i64.wrap t38.1)))
def ledger_tells.f (k : Nat) (a0 : ApiDisk) (a1 : Int) : Option (Int × Int) := (ledger_room.f k a0 a1).bind fun t9 => (if 0 ≤ t9.1 then ((a0.Sectors[Int.toNat t9.1]?).bind fun t18 => (if (3 : Int) ≤ 9 then (if (9 : Int) ≤ (t18.length : Int) then ((octet_Whole.f k ((t18.take (Int.toNat 9)).drop (Int.toNat 3))).bind fun t29 => (if (9 : Int) ≤ 12 then (if (12 : Int) ≤ (t18.length : Int) then ((octet_Whole.f k ((t18.take (Int.toNat 12)).drop (Int.toNat 9))).bind fun t38 => (if ((decide (t29.1 < 1)) || (decide (1099511627776 < t29.1))) = true then (ledger_tells.j0 k t29 t38 true) else (if (IntKind.u64.wrap (t9.2.length : Int)) < t38.1 then (ledger_tells.j0 k t29 t38 true) else ((ledger_head.f k (IntKind.i64.wrap t29.1) (IntKind.i64.wrap t38.1)).bind fun t54 => (ledger_tells.j0 k t29 t38 (!(t54 == t18))))))) else none) else none)) else none) else none)) else none)
set_option maxHeartbeats 1000000 in
theorem ledger_tells.ok (k : Nat) {w0 : World} {hw0 : Hw} (wf : Hwf w0 hw0) (a0 : ApiDisk) (a1 : Int) (v0_0 : Value) (q0_0 : Row Kstr w0 hw0 v0_0 a0.Sectors) (v0_1 : Value) (q0_1 : Row KApiWrite w0 hw0 v0_1 a0.Dirty) (r : (Int × Int)) (h : ledger_tells.f k a0 a1 = some r) :
    Calls Tryd.prog 68 #[.agg #[v0_0, v0_1], .int .i64 a1] w0 fun e w' => ∃ (hw' : Hw), e = .returned (.tuple #[.int .i64 r.1, .int .i64 r.2]) ∧ Stp none w0 hw0 w' hw' := by
  have fr0 := Stp.refl none (w := w0) (hw := hw0) wf
  unfold ledger_tells.f at h
  refine enter (n := 62) Tryd.func68 rfl rfl (Nat.le_of_ble_eq_true rfl) ?_
  refine wc_seq ?_
  refine wc_region ?_
  refine wl_box fr0.wf fr0.g.size [v0_0, v0_1] (cells_of (v := (.agg #[v0_0, v0_1])) rfl rfl) ?_
  intro b1 w2 s3 B4 g5
  have fr6 := fr0.then0 s3
  refine wl_assign (.int .i64 0) rfl ?_
  refine wl_assign (.int .i64 0) rfl ?_
  refine wl_nil ?_
  refine qn ?_
  refine wc_seq ?_
  refine wc_region ?_
  refine wl_loadb B4 ty68 rfl [v0_0, v0_1] rfl rfl ?_
  refine wl_move (.int .i64 a1) rfl ?_
  have f7 := q0_0.ext (s3.ext)
  have f8 := q0_1.ext (s3.ext)
  obtain ⟨t9, h10, h⟩ := Option.bind_eq_some_iff.1 h
  refine wl_call [.agg #[v0_0, v0_1], .int .i64 a1] bod69 (mc rfl (mc rfl (mn _))) (ledger_room.ok k fr6.wf a0 a1 v0_0 f7 v0_1 f8 _ h10) ?_
  rintro e11 w12 ⟨hw13, rfl, s14⟩
  refine ⟨_, rfl, ?_⟩
  have fr15 := fr6.then0 s14
  refine wl_move (.tuple #[.int .i64 t9.1, .string (bs t9.2)]) rfl ?_
  refine wl_extract (vs := [.int .i64 t9.1, .string (bs t9.2)]) (.int .i64 t9.1) rfl rfl ?_
  refine wl_extract (vs := [.int .i64 t9.1, .string (bs t9.2)]) (.string (bs t9.2)) rfl rfl ?_
  refine wl_assign (.int .i64 t9.1) rfl ?_
  refine wl_assign (.string (bs t9.2)) rfl ?_
  refine wl_nil ?_
  refine qn ?_
  refine wc_seq ?_
  refine wc_region ?_
  refine wl_field fld68_0 rfl ?_
  have B16 := (B4.step0 s14)
  refine wl_loadb1 B16 ty36 rfl (v0_0) rfl ?_
  refine wl_move (.int .i64 t9.1) rfl ?_
  by_cases c17 : 0 ≤ t9.1
  · replace h := (if_pos c17).symm.trans h
    obtain ⟨t18, h19, h⟩ := Option.bind_eq_some_iff.1 h
    have c20 := at_lt c17 h19
    have f26 := f7.ext (s14.ext)
    refine wl_at Tryd.underlying36 ty9 f26 rfl rfl c17 c20 t18 h19 ?_
    rintro B21 o22 cs23 rfl l25
    refine wl_load1 ty9 rfl (.string (bs t18)) (l25.2 0 _ rfl) ?_
    refine wl_assign (.string (bs t18)) rfl ?_
    refine wl_nil ?_
    refine qn ?_
    refine wc_seq ?_
    refine wc_region ?_
    refine wl_move (.string (bs t18)) rfl ?_
    by_cases c27 : (3 : Int) ≤ 9
    · replace h := (if_pos c27).symm.trans h
      by_cases c28 : (9 : Int) ≤ (t18.length : Int)
      · replace h := (if_pos c28).symm.trans h
        refine wl_cuts Tryd.underlying9 rfl (Bd.yes rfl) (Bd.yes rfl) (by first | decide | omega | simp) c27 c28 ?_
        obtain ⟨t29, h30, h⟩ := Option.bind_eq_some_iff.1 h
        refine wl_call [.string (bs ((t18.take (Int.toNat 9)).drop (Int.toNat 3)))] bod78 (mc rfl (mn _)) (octet_Whole.ok k fr15.wf ((t18.take (Int.toNat 9)).drop (Int.toNat 3)) _ h30) ?_
        rintro e31 w32 ⟨hw33, rfl, s34⟩
        refine ⟨_, rfl, ?_⟩
        have fr35 := fr15.then0 s34
        refine wl_move (.tuple #[.int .u64 t29.1, .int .i64 t29.2]) rfl ?_
        refine wl_extract (vs := [.int .u64 t29.1, .int .i64 t29.2]) (.int .u64 t29.1) rfl rfl ?_
        refine wl_extract (vs := [.int .u64 t29.1, .int .i64 t29.2]) (.int .i64 t29.2) rfl rfl ?_
        refine wl_assign (.int .u64 t29.1) rfl ?_
        refine wl_assign (.int .i64 t29.2) rfl ?_
        refine wl_nil ?_
        refine qn ?_
        refine wc_seq ?_
        refine wc_region ?_
        refine wl_move (.string (bs t18)) rfl ?_
        by_cases c36 : (9 : Int) ≤ 12
        · replace h := (if_pos c36).symm.trans h
          by_cases c37 : (12 : Int) ≤ (t18.length : Int)
          · replace h := (if_pos c37).symm.trans h
            refine wl_cuts Tryd.underlying9 rfl (Bd.yes rfl) (Bd.yes rfl) (by first | decide | omega | simp) c36 c37 ?_
            obtain ⟨t38, h39, h⟩ := Option.bind_eq_some_iff.1 h
            have B44 := (B16.step0 s34)
            refine wl_call [.string (bs ((t18.take (Int.toNat 12)).drop (Int.toNat 9)))] bod78 (mc rfl (mn _)) (octet_Whole.ok k fr35.wf ((t18.take (Int.toNat 12)).drop (Int.toNat 9)) _ h39) ?_
            rintro e40 w41 ⟨hw42, rfl, s43⟩
            refine ⟨_, rfl, ?_⟩
            have fr45 := fr35.then0 s43
            refine wl_move (.tuple #[.int .u64 t38.1, .int .i64 t38.2]) rfl ?_
            refine wl_extract (vs := [.int .u64 t38.1, .int .i64 t38.2]) (.int .u64 t38.1) rfl rfl ?_
            refine wl_extract (vs := [.int .u64 t38.1, .int .i64 t38.2]) (.int .i64 t38.2) rfl rfl ?_
            refine wl_assign (.int .u64 t38.1) rfl ?_
            refine wl_assign (.int .i64 t38.2) rfl ?_
            refine wl_nil ?_
            refine qn ?_
            refine wc_seq ?_
            refine wc_cut (fun a w => ∃ (σ : Nat → Value) (hw : Hw) (kq : Nat) (x46 : Bool), a = mkA 62 σ ∧ kq ≤ k ∧ kq ≤ k ∧ Stp none w0 hw0 w hw ∧ Ext w41 hw42 w hw ∧ σ 9 = .int .u64 t29.1 ∧ σ 11 = .int .u64 t38.1 ∧ σ 57 = .bool x46 ∧ ledger_tells.j0 kq t29 t38 x46 = some r) ?_ ?_
            · skip
              refine wc_region ?_
              refine wl_move (.int .u64 t29.1) rfl ?_
              refine wl_lss rfl rfl ?_
              refine wl_move (.bool (decide (t29.1 < 1))) rfl ?_
              refine wl_join 3 [39, 40, 41] 41 (.bool ((decide (t29.1 < 1)) || (decide (1099511627776 < t29.1)))) ?_ ?_
              · rcases Bool.eq_false_or_eq_true (decide (t29.1 < 1)) with hcc | hcc
                · skip
                  refine wl_off (yl rfl rfl rfl) hcc ?_
                  refine wl_off (yl rfl rfl rfl) hcc ?_
                  refine wl_pick_t (decide (t29.1 < 1)) (.bool true) rfl hcc rfl ?_
                  refine wl_nil ?_
                  exact qn ⟨rfl, _, rfl, (by repeat (first | exact Same.refl _ _ | refine Same.upd ?_ rfl)), (by rw [hcc]; rfl)⟩
                · skip
                  refine wl_on (yl rfl rfl rfl) hcc ?_
                  refine wl_move (.int .u64 t29.1) rfl ?_
                  refine wl_on (yl rfl rfl rfl) hcc ?_
                  refine wl_gtr rfl rfl ?_
                  refine wl_pick_f (decide (t29.1 < 1)) (.bool (decide (1099511627776 < t29.1))) rfl hcc rfl ?_
                  refine wl_nil ?_
                  exact qn ⟨rfl, _, rfl, (by repeat (first | exact Same.refl _ _ | refine Same.upd ?_ rfl)), (by rw [hcc]; rfl)⟩
              intro _ ho47 hv48
              refine wl_move (.bool ((decide (t29.1 < 1)) || (decide (1099511627776 < t29.1)))) hv48 ?_
              by_cases c49 : ((decide (t29.1 < 1)) || (decide (1099511627776 < t29.1))) = true
              · replace h := (if_pos c49).symm.trans h
                refine wl_off (yl rfl rfl rfl) c49 ?_
                refine wl_off (yl rfl rfl rfl) c49 ?_
                refine wl_off (yl rfl rfl rfl) c49 ?_
                refine wl_off (yl rfl rfl rfl) c49 ?_
                refine wl_off (yl rfl rfl rfl) c49 ?_
                refine wl_pick_t ((decide (t29.1 < 1)) || (decide (1099511627776 < t29.1))) (.bool true) rfl c49 rfl ?_
                refine wl_move (.bool true) rfl ?_
                refine wl_off (yl rfl rfl rfl) rfl ?_
                refine wl_off (yl rfl rfl rfl) rfl ?_
                refine wl_off (yl rfl rfl rfl) rfl ?_
                refine wl_off (yl rfl rfl rfl) rfl ?_
                refine wl_off (yl rfl rfl rfl) rfl ?_
                refine wl_off (yl rfl rfl rfl) rfl ?_
                refine wl_off (yl rfl rfl rfl) rfl ?_
                refine wl_pick_t true (.bool true) rfl rfl rfl ?_
                refine wl_nil ?_
                refine qn ?_
                exact ⟨_, _, _, true, rfl, (by omega), (by omega), fr45, (Ext.refl _ _), ((ho47 9 rfl).trans rfl), ((ho47 11 rfl).trans rfl), rfl, h⟩
              · replace h := (if_neg c49).symm.trans h
                have b50 : ((decide (t29.1 < 1)) || (decide (1099511627776 < t29.1))) = false := Bool.eq_false_iff.2 c49
                refine wl_on (yl rfl rfl rfl) b50 ?_
                refine wl_move (.int .u64 t38.1) ((ho47 11 rfl).trans rfl) ?_
                refine wl_on (yl rfl rfl rfl) b50 ?_
                refine wl_move (.string (bs t9.2)) ((ho47 7 rfl).trans rfl) ?_
                refine wl_on (yl rfl rfl rfl) b50 ?_
                refine wl_lens Tryd.underlying9 rfl ?_
                refine wl_on (yl rfl rfl rfl) b50 ?_
                refine wl_conv_int Tryd.underlying3 Tryd.underlying140 rfl ?_
                refine wl_on (yl rfl rfl rfl) b50 ?_
                refine wl_gtr rfl rfl ?_
                refine wl_pick_f ((decide (t29.1 < 1)) || (decide (1099511627776 < t29.1))) (.bool (decide ((IntKind.u64.wrap (t9.2.length : Int)) < t38.1))) rfl b50 rfl ?_
                refine wl_move (.bool (decide ((IntKind.u64.wrap (t9.2.length : Int)) < t38.1))) rfl ?_
                by_cases c51 : (IntKind.u64.wrap (t9.2.length : Int)) < t38.1
                · replace h := (if_pos c51).symm.trans h
                  have b52 : (decide ((IntKind.u64.wrap (t9.2.length : Int)) < t38.1)) = true := decide_eq_true c51
                  refine wl_off (yl rfl rfl rfl) b52 ?_
                  refine wl_off (yl rfl rfl rfl) b52 ?_
                  refine wl_off (yl rfl rfl rfl) b52 ?_
                  refine wl_off (yl rfl rfl rfl) b52 ?_
                  refine wl_off (yl rfl rfl rfl) b52 ?_
                  refine wl_off (yl rfl rfl rfl) b52 ?_
                  refine wl_off (yl rfl rfl rfl) b52 ?_
                  refine wl_pick_t (decide ((IntKind.u64.wrap (t9.2.length : Int)) < t38.1)) (.bool true) rfl b52 rfl ?_
                  refine wl_nil ?_
                  refine qn ?_
                  exact ⟨_, _, _, true, rfl, (by omega), (by omega), fr45, (Ext.refl _ _), ((ho47 9 rfl).trans rfl), ((ho47 11 rfl).trans rfl), rfl, h⟩
                · replace h := (if_neg c51).symm.trans h
                  have b53 : (decide ((IntKind.u64.wrap (t9.2.length : Int)) < t38.1)) = false := decide_eq_false c51
                  refine wl_on (yl rfl rfl rfl) b53 ?_
                  refine wl_move (.int .u64 t29.1) ((ho47 9 rfl).trans rfl) ?_
                  refine wl_on (yl rfl rfl rfl) b53 ?_
                  refine wl_conv_int Tryd.underlying140 Tryd.underlying3 rfl ?_
                  refine wl_on (yl rfl rfl rfl) b53 ?_
                  refine wl_move (.int .u64 t38.1) ((ho47 11 rfl).trans rfl) ?_
                  refine wl_on (yl rfl rfl rfl) b53 ?_
                  refine wl_conv_int Tryd.underlying140 Tryd.underlying3 rfl ?_
                  refine wl_on (yl rfl rfl rfl) b53 ?_
                  obtain ⟨t54, h55, h⟩ := Option.bind_eq_some_iff.1 h
                  have B60 := (B44.step0 s43)
                  refine wl_call [.int .i64 (IntKind.i64.wrap t29.1), .int .i64 (IntKind.i64.wrap t38.1)] bod61 (mc rfl (mc rfl (mn _))) (ledger_head.ok k fr45.wf (IntKind.i64.wrap t29.1) (IntKind.i64.wrap t38.1) _ h55) ?_
                  rintro e56 w57 ⟨hw58, rfl, s59⟩
                  refine ⟨_, rfl, ?_⟩
                  have fr61 := fr45.then0 s59
                  refine wl_on (yl rfl rfl rfl) b53 ?_
                  refine wl_move (.string (bs t18)) ((ho47 8 rfl).trans rfl) ?_
                  refine wl_on (yl rfl rfl rfl) b53 ?_
                  refine wl_neqs rfl rfl ?_
                  refine wl_pick_f (decide ((IntKind.u64.wrap (t9.2.length : Int)) < t38.1)) (.bool (!(t54 == t18))) rfl b53 rfl ?_
                  refine wl_nil ?_
                  refine qn ?_
                  exact ⟨_, _, _, (!(t54 == t18)), rfl, (by omega), (by omega), fr61, s59.ext, ((ho47 9 rfl).trans rfl), ((ho47 11 rfl).trans rfl), rfl, h⟩
            · rintro _ w62 ⟨_, hw63, k64, x46, rfl, hk67, hk68, fr65, e66, z69, z70, z71, h⟩
              rcases k64 with _ | k64
              · rw [ledger_tells.j0] at h; cases h
              rw [ledger_tells.j0] at h
              by_cases c72 : x46 = true
              · replace h := (if_pos c72).symm.trans h
                refine wc_then z71 c72 ?_
                refine wc_seq ?_
                refine wc_region ?_
                refine wl_assign (.int .i64 0) rfl ?_
                refine wl_assign (.int .i64 0) rfl ?_
                refine wl_nil ?_
                refine qn ?_
                refine wc_ret ?_
                refine qr ?_
                have h := Option.some.inj h
                subst h
                refine end2 rfl (.tmp rfl (.tmp rfl .nil)) ?_
                exact ⟨_, rfl, fr65⟩
              · replace h := (if_neg c72).symm.trans h
                have b73 : x46 = false := Bool.eq_false_iff.2 c72
                refine wc_else z71 b73 ?_
                refine wc_skip ?_
                refine qn ?_
                refine wc_seq ?_
                refine wc_region ?_
                refine wl_move (.int .u64 t29.1) z69 ?_
                refine wl_conv_int Tryd.underlying140 Tryd.underlying3 rfl ?_
                refine wl_move (.int .u64 t38.1) z70 ?_
                refine wl_conv_int Tryd.underlying140 Tryd.underlying3 rfl ?_
                refine wl_assign (.int .i64 (IntKind.i64.wrap t29.1)) rfl ?_
                refine wl_assign (.int .i64 (IntKind.i64.wrap t38.1)) rfl ?_
                refine wl_nil ?_
                refine qn ?_
                refine wc_ret ?_
                have h := Option.some.inj h
                subst h
                refine end2 rfl (.tmp rfl (.tmp rfl .nil)) ?_
                exact ⟨_, rfl, fr65⟩
          · replace h := (if_neg c37).symm.trans h
            cases h
        · replace h := (if_neg c36).symm.trans h
          cases h
      · replace h := (if_neg c28).symm.trans h
        cases h
    · replace h := (if_neg c27).symm.trans h
      cases h
  · replace h := (if_neg c17).symm.trans h
    cases h
/-! ### consignor/ledger.entries: function 70 -/
mutual
def ledger_entries.j1 : Nat → List UInt8 → (List (List UInt8)) → (Int × Int) → Bool → Option ((List (List UInt8)) × Bool)
  | 0, _, _, _, _ => none
  | k + 1, x1, l3, t21, x29 => if x29 = true then (some ([], false)) else (if (0 : Int) ≤ t21.1 then (if (t21.1 : Int) ≤ (((x1.take (Int.toNat (x1.length : Int))).drop (Int.toNat 2)).length : Int) then (if (l3.length + ([((((x1.take (Int.toNat (x1.length : Int))).drop (Int.toNat 2)).take (Int.toNat t21.1)).drop (Int.toNat 0))]).length) * 16 ≤ 140737488355328 then (if (0 : Int) ≤ t21.1 then (if (t21.1 : Int) ≤ (((x1.take (Int.toNat (x1.length : Int))).drop (Int.toNat 2)).length : Int) then (ledger_entries.l0 k ((((x1.take (Int.toNat (x1.length : Int))).drop (Int.toNat 2)).take (Int.toNat (((x1.take (Int.toNat (x1.length : Int))).drop (Int.toNat 2)).length : Int))).drop (Int.toNat t21.1)) (l3 ++ ([((((x1.take (Int.toNat (x1.length : Int))).drop (Int.toNat 2)).take (Int.toNat t21.1)).drop (Int.toNat 0))]))) else none) else none) else none) else none) else none)
def ledger_entries.l0 : Nat → List UInt8 → (List (List UInt8)) → Option ((List (List UInt8)) × Bool)
  | 0, _, _ => none
  | k + 1, x1, l3 => if (x1 == []) = true then (some (l3, true)) else (if (x1.length : Int) < 2 then (some ([], false)) else (if (0 : Int) ≤ 2 then (if (2 : Int) ≤ (x1.length : Int) then ((octet_Whole.f k ((x1.take (Int.toNat 2)).drop (Int.toNat 0))).bind fun t21 => (if (2 : Int) ≤ (x1.length : Int) then (if 4096 < t21.1 then (ledger_entries.j1 k x1 l3 t21 true) else (ledger_entries.j1 k x1 l3 t21 (decide ((IntKind.u64.wrap (((x1.take (Int.toNat (x1.length : Int))).drop (Int.toNat 2)).length : Int)) < t21.1)))) else none)) else none) else none))
end
def ledger_entries.f (k : Nat) (a0 : (List UInt8)) : Option ((List (List UInt8)) × Bool) := ledger_entries.l0 k a0 []
set_option maxHeartbeats 1000000 in
theorem ledger_entries.ok (k : Nat) {w0 : World} {hw0 : Hw} (wf : Hwf w0 hw0) (a0 : (List UInt8)) (r : ((List (List UInt8)) × Bool)) (h : ledger_entries.f k a0 = some r) :
    Calls Tryd.prog 70 #[.string (bs a0)] w0 fun e w' => ∃ (v0 : Value) (hw' : Hw), e = .returned (.tuple #[v0, .bool r.2]) ∧ Stp none w0 hw0 w' hw' ∧ Own Kstr 9 w0.heap.size w' hw' v0 r.1 := by
  have fr0 := Stp.refl none (w := w0) (hw := hw0) wf
  unfold ledger_entries.f at h
  refine enter (n := 39) Tryd.func70 rfl rfl (Nat.le_of_ble_eq_true rfl) ?_
  refine wc_seq ?_
  refine wc_region ?_
  refine wl_assign (.slice none 0 0) rfl ?_
  refine wl_assign (.bool false) rfl ?_
  refine wl_nil ?_
  refine qn ?_
  refine wc_seq ?_
  refine wc_region ?_
  refine wl_assign (.slice none 0 0) rfl ?_
  refine wl_nil ?_
  refine qn ?_
  refine wc_seq ?_
  refine wc_block ?_
  refine wc_loop (fun m a w => ∃ (σ : Nat → Value) (hw : Hw) (kq : Nat) (x1 : List UInt8) (v2 : Value) (l3 : (List (List UInt8))), a = mkA 39 σ ∧ kq ≤ m ∧ kq ≤ k ∧ Stp none w0 hw0 w hw ∧ Ext w0 hw0 w hw ∧ σ 0 = .string (bs x1) ∧ σ 4 = v2 ∧ Own Kstr 9 w0.heap.size w hw v2 l3 ∧ ledger_entries.l0 kq x1 l3 = some r) k ?_ ?_ ?_
  · skip
    exact ⟨_, _, _, a0, (.slice none 0 0), [], rfl, (Nat.le_refl _), (Nat.le_refl _), fr0, (Ext.refl _ _), rfl, rfl, (Own.nil _ _ _ _ _), h⟩
  · rintro _ _ ⟨_, hw5, k6, x1, v2, l3, rfl, hk9, hk10, fr7, e8, z11, z12, r13, h⟩; obtain rfl := Nat.le_zero.1 hk9; rw [ledger_entries.l0] at h; cases h
  · rintro m0 _ w4 ⟨_, hw5, k6, x1, v2, l3, rfl, hk9, hk10, fr7, e8, z11, z12, r13, h⟩
    rcases k6 with _ | k6
    · rw [ledger_entries.l0] at h; cases h
    rw [ledger_entries.l0] at h
    refine wc_seq ?_
    refine wc_seq ?_
    refine wc_region ?_
    refine wl_move (.string (bs x1)) z11 ?_
    refine wl_neqs rfl rfl ?_
    refine wl_nil ?_
    refine qn ?_
    by_cases c14 : (x1 == []) = true
    · replace h := (if_pos c14).symm.trans h
      refine wc_else rfl (by rw [c14] <;> rfl) ?_
      refine wc_exit ?_
      refine qe ?_
      refine qe ?_
      refine be ?_
      refine qn ?_
      refine wc_seq ?_
      refine wc_region ?_
      refine wl_move (v2) z12 ?_
      refine wl_assign (v2) rfl ?_
      refine wl_assign (.bool true) rfl ?_
      refine wl_nil ?_
      refine qn ?_
      refine wc_ret ?_
      have h := Option.some.inj h
      subst h
      refine end2 rfl (.tmp rfl (.tmp rfl .nil)) ?_
      exact ⟨v2, _, rfl, fr7, r13⟩
    · replace h := (if_neg c14).symm.trans h
      have b15 : (x1 == []) = false := Bool.eq_false_iff.2 c14
      refine wc_then rfl (by rw [b15] <;> rfl) ?_
      refine wc_skip ?_
      refine qn ?_
      refine wc_block ?_
      refine wc_seq ?_
      refine wc_seq ?_
      refine wc_region ?_
      refine wl_move (.string (bs x1)) z11 ?_
      refine wl_lens Tryd.underlying9 rfl ?_
      refine wl_lss rfl rfl ?_
      refine wl_nil ?_
      refine qn ?_
      by_cases c16 : (x1.length : Int) < 2
      · replace h := (if_pos c16).symm.trans h
        have b17 : (decide ((x1.length : Int) < 2)) = true := decide_eq_true c16
        refine wc_then rfl b17 ?_
        refine wc_seq ?_
        refine wc_region ?_
        refine wl_assign (.slice none 0 0) rfl ?_
        refine wl_assign (.bool false) rfl ?_
        refine wl_nil ?_
        refine qn ?_
        refine wc_ret ?_
        refine qr ?_
        refine bret ?_
        refine qr ?_
        refine bret ?_
        refine qr ?_
        have h := Option.some.inj h
        subst h
        refine end2 rfl (.tmp rfl (.tmp rfl .nil)) ?_
        exact ⟨(.slice none 0 0), _, rfl, fr7, (Own.nil _ _ _ _ _)⟩
      · replace h := (if_neg c16).symm.trans h
        have b18 : (decide ((x1.length : Int) < 2)) = false := decide_eq_false c16
        refine wc_else rfl b18 ?_
        refine wc_skip ?_
        refine qn ?_
        refine wc_seq ?_
        refine wc_region ?_
        refine wl_move (.string (bs x1)) z11 ?_
        by_cases c19 : (0 : Int) ≤ 2
        · replace h := (if_pos c19).symm.trans h
          by_cases c20 : (2 : Int) ≤ (x1.length : Int)
          · replace h := (if_pos c20).symm.trans h
            refine wl_cuts Tryd.underlying9 rfl Bd.no (Bd.yes rfl) (by first | decide | omega | simp) c19 c20 ?_
            obtain ⟨t21, h22, h⟩ := Option.bind_eq_some_iff.1 h
            refine wl_call [.string (bs ((x1.take (Int.toNat 2)).drop (Int.toNat 0)))] bod78 (mc rfl (mn _)) (octet_Whole.ok k6 fr7.wf ((x1.take (Int.toNat 2)).drop (Int.toNat 0)) _ h22) ?_
            rintro e23 w24 ⟨hw25, rfl, s26⟩
            refine ⟨_, rfl, ?_⟩
            have fr27 := fr7.then0 s26
            refine wl_move (.tuple #[.int .u64 t21.1, .int .i64 t21.2]) rfl ?_
            refine wl_extract (vs := [.int .u64 t21.1, .int .i64 t21.2]) (.int .u64 t21.1) rfl rfl ?_
            refine wl_extract (vs := [.int .u64 t21.1, .int .i64 t21.2]) (.int .i64 t21.2) rfl rfl ?_
            refine wl_assign (.int .u64 t21.1) rfl ?_
            refine wl_assign (.int .i64 t21.2) rfl ?_
            refine wl_nil ?_
            refine qn ?_
            refine wc_seq ?_
            refine wc_seq ?_
            refine wc_region ?_
            refine wl_move (.string (bs x1)) z11 ?_
            by_cases c28 : (2 : Int) ≤ (x1.length : Int)
            · replace h := (if_pos c28).symm.trans h
              refine wl_cuts Tryd.underlying9 rfl (Bd.yes rfl) Bd.no (by first | decide | omega | simp) c28 (by first | decide | omega | simp) ?_
              refine wl_assign (.string (bs ((x1.take (Int.toNat (x1.length : Int))).drop (Int.toNat 2)))) rfl ?_
              refine wl_nil ?_
              refine qn ?_
              refine wc_cut (fun a w => ∃ (σ : Nat → Value) (hw : Hw) (kq : Nat) (x29 : Bool), a = mkA 39 σ ∧ kq ≤ k6 ∧ kq ≤ k6 ∧ Stp none w0 hw0 w hw ∧ Ext w24 hw25 w hw ∧ σ 0 = .string (bs ((x1.take (Int.toNat (x1.length : Int))).drop (Int.toNat 2))) ∧ σ 4 = v2 ∧ σ 5 = .int .u64 t21.1 ∧ σ 28 = .bool x29 ∧ Own Kstr 9 w0.heap.size w hw v2 l3 ∧ ledger_entries.j1 kq x1 l3 t21 x29 = some r) ?_ ?_
              · skip
                refine wc_region ?_
                refine wl_move (.int .u64 t21.1) rfl ?_
                refine wl_gtr rfl rfl ?_
                refine wl_move (.bool (decide (4096 < t21.1))) rfl ?_
                by_cases c30 : 4096 < t21.1
                · replace h := (if_pos c30).symm.trans h
                  have b31 : (decide (4096 < t21.1)) = true := decide_eq_true c30
                  refine wl_off (yl rfl rfl rfl) b31 ?_
                  refine wl_off (yl rfl rfl rfl) b31 ?_
                  refine wl_off (yl rfl rfl rfl) b31 ?_
                  refine wl_off (yl rfl rfl rfl) b31 ?_
                  refine wl_off (yl rfl rfl rfl) b31 ?_
                  refine wl_pick_t (decide (4096 < t21.1)) (.bool true) rfl b31 rfl ?_
                  refine wl_nil ?_
                  refine qn ?_
                  have O32 := (r13.step0 s26)
                  exact ⟨_, _, _, true, rfl, (by omega), (by omega), fr27, (Ext.refl _ _), rfl, z12, rfl, rfl, O32, h⟩
                · replace h := (if_neg c30).symm.trans h
                  have b33 : (decide (4096 < t21.1)) = false := decide_eq_false c30
                  refine wl_on (yl rfl rfl rfl) b33 ?_
                  refine wl_move (.int .u64 t21.1) rfl ?_
                  refine wl_on (yl rfl rfl rfl) b33 ?_
                  refine wl_move (.string (bs ((x1.take (Int.toNat (x1.length : Int))).drop (Int.toNat 2)))) rfl ?_
                  refine wl_on (yl rfl rfl rfl) b33 ?_
                  refine wl_lens Tryd.underlying9 rfl ?_
                  refine wl_on (yl rfl rfl rfl) b33 ?_
                  refine wl_conv_int Tryd.underlying3 Tryd.underlying140 rfl ?_
                  refine wl_on (yl rfl rfl rfl) b33 ?_
                  refine wl_gtr rfl rfl ?_
                  refine wl_pick_f (decide (4096 < t21.1)) (.bool (decide ((IntKind.u64.wrap (((x1.take (Int.toNat (x1.length : Int))).drop (Int.toNat 2)).length : Int)) < t21.1))) rfl b33 rfl ?_
                  refine wl_nil ?_
                  refine qn ?_
                  have O34 := (r13.step0 s26)
                  exact ⟨_, _, _, (decide ((IntKind.u64.wrap (((x1.take (Int.toNat (x1.length : Int))).drop (Int.toNat 2)).length : Int)) < t21.1)), rfl, (by omega), (by omega), fr27, (Ext.refl _ _), rfl, z12, rfl, rfl, O34, h⟩
              · rintro _ w35 ⟨_, hw36, k37, x29, rfl, hk40, hk41, fr38, e39, z42, z43, z44, z45, O46, h⟩
                rcases k37 with _ | k37
                · rw [ledger_entries.j1] at h; cases h
                rw [ledger_entries.j1] at h
                by_cases c47 : x29 = true
                · replace h := (if_pos c47).symm.trans h
                  refine wc_then z45 c47 ?_
                  refine wc_seq ?_
                  refine wc_region ?_
                  refine wl_assign (.slice none 0 0) rfl ?_
                  refine wl_assign (.bool false) rfl ?_
                  refine wl_nil ?_
                  refine qn ?_
                  refine wc_ret ?_
                  refine qr ?_
                  refine bret ?_
                  refine qr ?_
                  refine bret ?_
                  refine qr ?_
                  have h := Option.some.inj h
                  subst h
                  refine end2 rfl (.tmp rfl (.tmp rfl .nil)) ?_
                  exact ⟨(.slice none 0 0), _, rfl, fr38, (Own.nil _ _ _ _ _)⟩
                · replace h := (if_neg c47).symm.trans h
                  have b48 : x29 = false := Bool.eq_false_iff.2 c47
                  refine wc_else z45 b48 ?_
                  refine wc_skip ?_
                  refine qn ?_
                  have s49 := Stp.drew (w := w35) (hw := hw36) fr38.wf
                  have fr50 := fr38.then0 s49
                  have O51 := (O46.step0 s49)
                  by_cases c53 : (0 : Int) ≤ t21.1
                  · replace h := (if_pos c53).symm.trans h
                    by_cases c54 : (t21.1 : Int) ≤ (((x1.take (Int.toNat (x1.length : Int))).drop (Int.toNat 2)).length : Int)
                    · replace h := (if_pos c54).symm.trans h
                      by_cases c63 : (l3.length + ([((((x1.take (Int.toNat (x1.length : Int))).drop (Int.toNat 2)).take (Int.toNat t21.1)).drop (Int.toNat 0))]).length) * 16 ≤ 140737488355328
                      · replace h := (if_pos c63).symm.trans h
                        by_cases c74 : (0 : Int) ≤ t21.1
                        · replace h := (if_pos c74).symm.trans h
                          by_cases c75 : (t21.1 : Int) ≤ (((x1.take (Int.toNat (x1.length : Int))).drop (Int.toNat 2)).length : Int)
                          · replace h := (if_pos c75).symm.trans h
                            refine wc_any (hw := hw36) mixed [[], [], [], [1, 2], [3], [0, 4], [], [], [6, 7], [5, 5, 0, 1, 2, 3, 4, 5], [8, 9, 0, 1, 2, 3, 4, 5, 6, 7, 8, 9]] [29, 30, 31, 32, 33, 34, 35, 36, 37, 4, 0] (by kernel_rfl) (PhiOf [fun v w hw => v = v2, fun v w hw => v = .string (bs ((x1.take (Int.toNat (x1.length : Int))).drop (Int.toNat 2))), fun v w hw => v = .int .u64 t21.1, fun v w hw => v = .string (bs ((((x1.take (Int.toNat (x1.length : Int))).drop (Int.toNat 2)).take (Int.toNat t21.1)).drop (Int.toNat 0))), fun v w hw => Row Kstr w hw v ([((((x1.take (Int.toNat (x1.length : Int))).drop (Int.toNat 2)).take (Int.toNat t21.1)).drop (Int.toNat 0))]), fun v w hw => Row Kstr w hw v (l3 ++ ([((((x1.take (Int.toNat (x1.length : Int))).drop (Int.toNat 2)).take (Int.toNat t21.1)).drop (Int.toNat 0))])), fun v w hw => v = .string (bs ((x1.take (Int.toNat (x1.length : Int))).drop (Int.toNat 2))), fun v w hw => v = .int .u64 t21.1, fun v w hw => v = .string (bs ((((x1.take (Int.toNat (x1.length : Int))).drop (Int.toNat 2)).take (Int.toNat (((x1.take (Int.toNat (x1.length : Int))).drop (Int.toNat 2)).length : Int))).drop (Int.toNat t21.1))), fun v w hw => Row Kstr w hw v (l3 ++ ([((((x1.take (Int.toNat (x1.length : Int))).drop (Int.toNat 2)).take (Int.toNat t21.1)).drop (Int.toNat 0))])), fun v w hw => v = .string (bs ((((x1.take (Int.toNat (x1.length : Int))).drop (Int.toNat 2)).take (Int.toNat (((x1.take (Int.toNat (x1.length : Int))).drop (Int.toNat 2)).length : Int))).drop (Int.toNat t21.1)))]) (fun D σ w hw => Stp none w0 hw0 w hw ∧ Ext (w35).drew hw36 w hw ∧ (bif D 5 then (Own Kstr 9 w0.heap.size w hw (σ 34) (l3 ++ ([((((x1.take (Int.toNat (x1.length : Int))).drop (Int.toNat 2)).take (Int.toNat t21.1)).drop (Int.toNat 0))]))) else Own Kstr 9 w0.heap.size w hw v2 l3) ∧ (bif D 9 then σ 4 = (σ 34) else True) ∧ (bif D 9 then True else σ 4 = v2) ∧ (bif D 10 then True else σ 0 = .string (bs ((x1.take (Int.toNat (x1.length : Int))).drop (Int.toNat 2))))) (stab_of (sbc (fun _ _ _ _ _ _ h => h) (sbc (fun _ _ _ _ _ _ h => h) (sbc (fun _ _ _ _ _ _ h => h) (sbc (fun _ _ _ _ _ _ h => h) (sbc (fun _ _ _ _ _ e h => Row.ext e h) (sbc (fun _ _ _ _ _ e h => Row.ext e h) (sbc (fun _ _ _ _ _ _ h => h) (sbc (fun _ _ _ _ _ _ h => h) (sbc (fun _ _ _ _ _ _ h => h) (sbc (fun _ _ _ _ _ e h => Row.ext e h) (sbc (fun _ _ _ _ _ _ h => h) sbn)))))))))))) ?_ (stc ?_ (stc ?_ (stc ?_ (stc ?_ (stc ?_ (stc ?_ (stc ?_ (stc ?_ (stc ?_ (stc ?_ (stc ?_ stn))))))))))) ?_
                            · exact ⟨fr50, Ext.refl _ _, O51, trivial, z43, z42⟩
                            · intro D76 σ77 w78 hw79 q80 q81 q82 q83 q84 q85
                              obtain ⟨fr86, e87, C88, C89, C90, C91⟩ := q80
                              have O92 := bif_f (q85 5 rfl) C88
                              have z93 := bif_f (q85 9 rfl) C90
                              refine wl_move (v2) z93 ?_
                              refine wl_nil ?_
                              exact qn ⟨_, _, rfl, (Ext.refl _ _), ⟨fr86, e87.trans (Ext.refl _ _), C88, C89, C90, C91⟩, (aft_some rfl)⟩
                            · intro D94 σ95 w96 hw97 q98 q99 q100 q101 q102 q103
                              obtain ⟨fr104, e105, C106, C107, C108, C109⟩ := q98
                              have O110 := bif_f (q103 5 rfl) C106
                              have z111 := bif_f (q103 10 rfl) C109
                              refine wl_move (.string (bs ((x1.take (Int.toNat (x1.length : Int))).drop (Int.toNat 2)))) z111 ?_
                              refine wl_nil ?_
                              exact qn ⟨_, _, rfl, (Ext.refl _ _), ⟨fr104, e105.trans (Ext.refl _ _), C106, C107, C108, C109⟩, (aft_some rfl)⟩
                            · intro D112 σ113 w114 hw115 q116 q117 q118 q119 q120 q121
                              obtain ⟨fr122, e123, C124, C125, C126, C127⟩ := q116
                              have O128 := bif_f (q121 5 rfl) C124
                              refine wl_move (.int .u64 t21.1) ((q119 5 rfl).trans z44) ?_
                              refine wl_nil ?_
                              exact qn ⟨_, _, rfl, (Ext.refl _ _), ⟨fr122, e123.trans (Ext.refl _ _), C124, C125, C126, C127⟩, (aft_some rfl)⟩
                            · intro D129 σ130 w131 hw132 q133 q134 q135 q136 q137 q138
                              obtain ⟨fr139, e140, C141, C142, C143, C144⟩ := q133
                              have O145 := bif_f (q138 5 rfl) C141
                              obtain ⟨⟨_, m146⟩, ⟨_, m147⟩, _⟩ := q135
                              have z148 : (σ130 30) = .string (bs ((x1.take (Int.toNat (x1.length : Int))).drop (Int.toNat 2))) := m146
                              have z149 : (σ130 31) = .int .u64 t21.1 := m147
                              refine wl_cuts Tryd.underlying9 z148 Bd.no (Bd.yes z149) (by first | decide | omega | simp) c53 c54 ?_
                              refine wl_nil ?_
                              exact qn ⟨_, _, rfl, (Ext.refl _ _), ⟨fr139, e140.trans (Ext.refl _ _), C141, C142, C143, C144⟩, (aft_some rfl)⟩
                            · intro D150 σ151 w152 hw153 q154 q155 q156 q157 q158 q159
                              obtain ⟨fr160, e161, C162, C163, C164, C165⟩ := q154
                              have O166 := bif_f (q159 5 rfl) C162
                              obtain ⟨⟨_, m167⟩, _⟩ := q156
                              have z168 : (σ151 32) = .string (bs ((((x1.take (Int.toNat (x1.length : Int))).drop (Int.toNat 2)).take (Int.toNat t21.1)).drop (Int.toNat 0))) := m167
                              have hb169 : ∀ w : World, (Instr.buildSlice 36 1 #[(0, .string (bs ((((x1.take (Int.toNat (x1.length : Int))).drop (Int.toNat 2)).take (Int.toNat t21.1)).drop (Int.toNat 0))))]).run Tryd.prog w = .ok (.slice (some ⟨w.heap.size, 0, none⟩) 1 1) (w.alloc (.cells (List.toArray [.string (bs ((((x1.take (Int.toNat (x1.length : Int))).drop (Int.toNat 2)).take (Int.toNat t21.1)).drop (Int.toNat 0)))]) 9)) := fun _ => by kernel_rfl
                              refine wl_lit (KD := Kstr) fr160.wf [.string (bs ((((x1.take (Int.toNat (x1.length : Int))).drop (Int.toNat 2)).take (Int.toNat t21.1)).drop (Int.toNat 0)))] [((((x1.take (Int.toNat (x1.length : Int))).drop (Int.toNat 2)).take (Int.toNat t21.1)).drop (Int.toNat 0))] (pc z168 (pn _ _)) (hb169 _) rfl (by decide) ⟨[.string (bs ((((x1.take (Int.toNat (x1.length : Int))).drop (Int.toNat 2)).take (Int.toNat t21.1)).drop (Int.toNat 0)))], _, rfl, rfl, rfl⟩ ?_
                              intro v170 w171 hw172 O174 s173
                              have n175 := own_dis_new O174 O166
                              replace O174 := O174.low fr160.g.size
                              have fr176 := fr160.then0 s173
                              refine wl_nil ?_
                              exact qn ⟨_, _, rfl, s173.ext, ⟨fr176, e161.trans s173.ext, ((fun h => bif_mp (fun h => (h.step0 s173)) (fun h => (h.step0 s173)) h) C162), C163, C164, C165⟩, (aft_some O174.row)⟩
                            · intro D177 σ178 w179 hw180 q181 q182 q183 q184 q185 q186
                              obtain ⟨fr187, e188, C189, C190, C191, C192⟩ := q181
                              have O193 := bif_f q182 C189
                              obtain ⟨⟨_, m194⟩, ⟨_, m195⟩, _⟩ := q183
                              have z196 : (σ178 29) = v2 := m194
                              have f197 : Row Kstr w179 hw180 (σ178 33) ([((((x1.take (Int.toNat (x1.length : Int))).drop (Int.toNat 2)).take (Int.toNat t21.1)).drop (Int.toNat 0))]) := m195
                              have c198 : l3.length + ([((((x1.take (Int.toNat (x1.length : Int))).drop (Int.toNat 2)).take (Int.toNat t21.1)).drop (Int.toNat 0))]).length ≤ 9223372036854775807 := by omega
                              refine wl_app Tryd.underlying36 ty9 rfl (by decide) fr187.wf O193 f197 z196 rfl c198 c63 fr187.g.size ?_
                              intro v199 w200 hw201 O203 s202 lo204
                              have fr205 := fr187.then s202 (fun _ e => (O193.new _ e).1)
                              refine wl_nil ?_
                              exact qn ⟨_, _, rfl, s202.ext, ⟨fr205, e188.trans s202.ext, O203, (bif_no (q186 9 rfl) trivial), C191, C192⟩, (aft_some O203.row)⟩
                            · intro D206 σ207 w208 hw209 q210 q211 q212 q213 q214 q215
                              obtain ⟨fr216, e217, C218, C219, C220, C221⟩ := q210
                              have z222 := bif_f (q215 10 rfl) C221
                              refine wl_move (.string (bs ((x1.take (Int.toNat (x1.length : Int))).drop (Int.toNat 2)))) z222 ?_
                              refine wl_nil ?_
                              exact qn ⟨_, _, rfl, (Ext.refl _ _), ⟨fr216, e217.trans (Ext.refl _ _), C218, C219, C220, C221⟩, (aft_some rfl)⟩
                            · intro D223 σ224 w225 hw226 q227 q228 q229 q230 q231 q232
                              obtain ⟨fr233, e234, C235, C236, C237, C238⟩ := q227
                              refine wl_move (.int .u64 t21.1) ((q230 5 rfl).trans z44) ?_
                              refine wl_nil ?_
                              exact qn ⟨_, _, rfl, (Ext.refl _ _), ⟨fr233, e234.trans (Ext.refl _ _), C235, C236, C237, C238⟩, (aft_some rfl)⟩
                            · intro D239 σ240 w241 hw242 q243 q244 q245 q246 q247 q248
                              obtain ⟨fr249, e250, C251, C252, C253, C254⟩ := q243
                              obtain ⟨⟨_, m255⟩, ⟨_, m256⟩, _⟩ := q245
                              have z257 : (σ240 35) = .string (bs ((x1.take (Int.toNat (x1.length : Int))).drop (Int.toNat 2))) := m255
                              have z258 : (σ240 36) = .int .u64 t21.1 := m256
                              refine wl_cuts Tryd.underlying9 z257 (Bd.yes z258) Bd.no c74 c75 (by first | decide | omega | simp) ?_
                              refine wl_nil ?_
                              exact qn ⟨_, _, rfl, (Ext.refl _ _), ⟨fr249, e250.trans (Ext.refl _ _), C251, C252, C253, C254⟩, (aft_some rfl)⟩
                            · intro D259 σ260 w261 hw262 q263 q264 q265 q266 q267 q268
                              obtain ⟨fr269, e270, C271, C272, C273, C274⟩ := q263
                              have O275 := bif_t (q267 5 rfl) C271
                              have O275 : Own Kstr 9 w0.heap.size w261 hw262 (σ260 34) (l3 ++ ([((((x1.take (Int.toNat (x1.length : Int))).drop (Int.toNat 2)).take (Int.toNat t21.1)).drop (Int.toNat 0))])) := O275
                              obtain ⟨⟨_, m276⟩, ⟨_, m277⟩, ⟨_, m278⟩, ⟨_, m279⟩, ⟨_, m280⟩, ⟨_, m281⟩, ⟨_, m282⟩, ⟨_, m283⟩, _⟩ := q265
                              have f284 : Row Kstr w261 hw262 (σ260 34) (l3 ++ ([((((x1.take (Int.toNat (x1.length : Int))).drop (Int.toNat 2)).take (Int.toNat t21.1)).drop (Int.toNat 0))])) := m276
                              have z285 : (σ260 29) = v2 := m278
                              have z286 : (σ260 30) = .string (bs ((x1.take (Int.toNat (x1.length : Int))).drop (Int.toNat 2))) := m279
                              have z287 : (σ260 31) = .int .u64 t21.1 := m280
                              have z288 : (σ260 32) = .string (bs ((((x1.take (Int.toNat (x1.length : Int))).drop (Int.toNat 2)).take (Int.toNat t21.1)).drop (Int.toNat 0))) := m281
                              have f289 : Row Kstr w261 hw262 (σ260 33) ([((((x1.take (Int.toNat (x1.length : Int))).drop (Int.toNat 2)).take (Int.toNat t21.1)).drop (Int.toNat 0))]) := m282
                              refine wl_assign ((σ260 34)) rfl ?_
                              refine wl_nil ?_
                              exact qn ⟨_, _, rfl, (Ext.refl _ _), ⟨fr269, e270.trans (Ext.refl _ _), C271, rfl, trivial, C274⟩, (aft_some O275.row)⟩
                            · intro D290 σ291 w292 hw293 q294 q295 q296 q297 q298 q299
                              obtain ⟨fr300, e301, C302, C303, C304, C305⟩ := q294
                              have O306 := bif_t (q298 5 rfl) C302
                              have O306 : Own Kstr 9 w0.heap.size w292 hw293 (σ291 34) (l3 ++ ([((((x1.take (Int.toNat (x1.length : Int))).drop (Int.toNat 2)).take (Int.toNat t21.1)).drop (Int.toNat 0))])) := O306
                              obtain ⟨⟨_, m307⟩, ⟨_, m308⟩, ⟨_, m309⟩, ⟨_, m310⟩, ⟨_, m311⟩, ⟨_, m312⟩, ⟨_, m313⟩, ⟨_, m314⟩, ⟨_, m315⟩, ⟨_, m316⟩, ⟨_, m317⟩, ⟨_, m318⟩, _⟩ := q296
                              have z319 : (σ291 37) = .string (bs ((((x1.take (Int.toNat (x1.length : Int))).drop (Int.toNat 2)).take (Int.toNat (((x1.take (Int.toNat (x1.length : Int))).drop (Int.toNat 2)).length : Int))).drop (Int.toNat t21.1))) := m307
                              have f320 : Row Kstr w292 hw293 (σ291 4) (l3 ++ ([((((x1.take (Int.toNat (x1.length : Int))).drop (Int.toNat 2)).take (Int.toNat t21.1)).drop (Int.toNat 0))])) := m308
                              have z321 : (σ291 29) = v2 := m309
                              have z322 : (σ291 30) = .string (bs ((x1.take (Int.toNat (x1.length : Int))).drop (Int.toNat 2))) := m310
                              have z323 : (σ291 31) = .int .u64 t21.1 := m311
                              have z324 : (σ291 32) = .string (bs ((((x1.take (Int.toNat (x1.length : Int))).drop (Int.toNat 2)).take (Int.toNat t21.1)).drop (Int.toNat 0))) := m312
                              have f325 : Row Kstr w292 hw293 (σ291 33) ([((((x1.take (Int.toNat (x1.length : Int))).drop (Int.toNat 2)).take (Int.toNat t21.1)).drop (Int.toNat 0))]) := m313
                              have f326 : Row Kstr w292 hw293 (σ291 34) (l3 ++ ([((((x1.take (Int.toNat (x1.length : Int))).drop (Int.toNat 2)).take (Int.toNat t21.1)).drop (Int.toNat 0))])) := m314
                              have z327 : (σ291 35) = .string (bs ((x1.take (Int.toNat (x1.length : Int))).drop (Int.toNat 2))) := m315
                              have z328 : (σ291 36) = .int .u64 t21.1 := m316
                              have z329 := bif_t (q298 9 rfl) C303
                              refine wl_assign (.string (bs ((((x1.take (Int.toNat (x1.length : Int))).drop (Int.toNat 2)).take (Int.toNat (((x1.take (Int.toNat (x1.length : Int))).drop (Int.toNat 2)).length : Int))).drop (Int.toNat t21.1)))) z319 ?_
                              refine wl_nil ?_
                              exact qn ⟨_, _, rfl, (Ext.refl _ _), ⟨fr300, e301.trans (Ext.refl _ _), C302, C303, C304, trivial⟩, (aft_some rfl)⟩
                            · intro σ330 w331 hw332 q333 q334 q335
                              obtain ⟨fr336, e337, C338, C339, C340, C341⟩ := q333
                              have O342 := C338
                              have O342 : Own Kstr 9 w0.heap.size w331 hw332 (σ330 34) (l3 ++ ([((((x1.take (Int.toNat (x1.length : Int))).drop (Int.toNat 2)).take (Int.toNat t21.1)).drop (Int.toNat 0))])) := O342
                              obtain ⟨m343, m344, m345, m346, m347, m348, m349, m350, m351, m352, m353, _⟩ := q335
                              have z354 : (σ330 29) = v2 := m343
                              have f355 : Row Kstr w331 hw332 (σ330 33) ([((((x1.take (Int.toNat (x1.length : Int))).drop (Int.toNat 2)).take (Int.toNat t21.1)).drop (Int.toNat 0))]) := m347
                              have f356 : Row Kstr w331 hw332 (σ330 34) (l3 ++ ([((((x1.take (Int.toNat (x1.length : Int))).drop (Int.toNat 2)).take (Int.toNat t21.1)).drop (Int.toNat 0))])) := m348
                              have f357 : Row Kstr w331 hw332 (σ330 4) (l3 ++ ([((((x1.take (Int.toNat (x1.length : Int))).drop (Int.toNat 2)).take (Int.toNat t21.1)).drop (Int.toNat 0))])) := m352
                              have z358 : (σ330 0) = .string (bs ((((x1.take (Int.toNat (x1.length : Int))).drop (Int.toNat 2)).take (Int.toNat (((x1.take (Int.toNat (x1.length : Int))).drop (Int.toNat 2)).length : Int))).drop (Int.toNat t21.1))) := m353
                              have z359 : σ330 4 = (σ330 34) := C339
                              refine bn ?_
                              refine qn ?_
                              exact ⟨_, _, _, ((((x1.take (Int.toNat (x1.length : Int))).drop (Int.toNat 2)).take (Int.toNat (((x1.take (Int.toNat (x1.length : Int))).drop (Int.toNat 2)).length : Int))).drop (Int.toNat t21.1)), (σ330 34), (l3 ++ ([((((x1.take (Int.toNat (x1.length : Int))).drop (Int.toNat 2)).take (Int.toNat t21.1)).drop (Int.toNat 0))])), rfl, (by omega), (by omega), fr336, (Ext.trans e8 (Ext.trans s26.ext (Ext.trans e39 (Ext.trans s49.ext e337)))), z358, z359, O342, h⟩
                          · replace h := (if_neg c75).symm.trans h
                            cases h
                        · replace h := (if_neg c74).symm.trans h
                          cases h
                      · replace h := (if_neg c63).symm.trans h
                        cases h
                    · replace h := (if_neg c54).symm.trans h
                      cases h
                  · replace h := (if_neg c53).symm.trans h
                    cases h
            · replace h := (if_neg c28).symm.trans h
              cases h
          · replace h := (if_neg c20).symm.trans h
            cases h
        · replace h := (if_neg c19).symm.trans h
          cases h
/-! ### consignor/ledger.Open: function 62 -/
def ledger_Open.l0 : Nat → ApiDisk → Int → Int → Int → Int → Option (ApiLedger × Int)
  | 0, _, _, _, _, _ => none
  | k + 1, a0, x64, x65, x66, x67 => if x64 < 2 then ((ledger_tells.f k a0 x64).bind fun t88 => (if x66 < t88.1 then (ledger_Open.l0 k a0 (IntKind.i64.wrap (x64 + 1)) x64 t88.1 t88.2) else (ledger_Open.l0 k a0 (IntKind.i64.wrap (x64 + 1)) x65 x66 x67))) else ((ledger_room.f k a0 x65).bind fun t118 => (if (0 : Int) ≤ x67 then (if (x67 : Int) ≤ (t118.2.length : Int) then ((ledger_entries.f k ((t118.2.take (Int.toNat x67)).drop (Int.toNat 0))).bind fun t128 => (if ((x66 == 0) || (!t128.2)) = true then (some ((⟨(⟨[], []⟩ : ApiDisk), 0, 0, 0, []⟩ : ApiLedger), 14)) else (some ((⟨(⟨a0.Sectors, a0.Dirty⟩ : ApiDisk), x65, x66, x67, t128.1⟩ : ApiLedger), 0)))) else none) else none))
def ledger_Open.f (k : Nat) (a0 : ApiDisk) : Option (ApiLedger × Int) := (disk_Right.f k a0).bind fun t17 => (if ((!t17) || (decide (0 < (a0.Dirty.length : Int)))) = true then (some ((⟨(⟨[], []⟩ : ApiDisk), 0, 0, 0, []⟩ : ApiLedger), 1)) else (ledger_Open.l0 k a0 0 0 0 0))
set_option maxHeartbeats 1000000 in
theorem ledger_Open.ok (k : Nat) {w0 : World} {hw0 : Hw} (wf : Hwf w0 hw0) (a0 : ApiDisk) (v0_0 : Value) (q0_0 : Row Kstr w0 hw0 v0_0 a0.Sectors) (v0_1 : Value) (q0_1 : Row KApiWrite w0 hw0 v0_1 a0.Dirty) (r : (ApiLedger × Int)) (h : ledger_Open.f k a0 = some r) :
    Calls Tryd.prog 62 #[.agg #[v0_0, v0_1]] w0 fun e w' => ∃ (v0_0 : Value) (v0_1 : Value) (v0_5 : Value) (hw' : Hw), e = .returned (.tuple #[.agg #[v0_0, v0_1, .int .i64 r.1.Half, .int .i64 r.1.Gen, .int .i64 r.1.Used, v0_5], .int .i64 r.2]) ∧ Stp none w0 hw0 w' hw' ∧ Row Kstr w' hw' v0_0 r.1.Disk.Sectors ∧ Row KApiWrite w' hw' v0_1 r.1.Disk.Dirty ∧ Row Kstr w' hw' v0_5 r.1.Entries := by
  have fr0 := Stp.refl none (w := w0) (hw := hw0) wf
  unfold ledger_Open.f at h
  refine enter (n := 70) Tryd.func62 rfl rfl (Nat.le_of_ble_eq_true rfl) ?_
  refine wc_seq ?_
  refine wc_region ?_
  refine wl_box fr0.wf fr0.g.size [v0_0, v0_1] (cells_of (v := (.agg #[v0_0, v0_1])) rfl rfl) ?_
  intro b1 w2 s3 B4 g5
  have fr6 := fr0.then0 s3
  refine wl_alloc fr6.wf fr6.g.size ty70 [.slice none 0 0, .slice none 0 0, .int .i64 0, .int .i64 0, .int .i64 0, .slice none 0 0] rfl ?_
  intro b7 w8 s9 B10 g11
  have n12 : b1 ≠ b7 := B4.ne g11
  have fr13 := fr6.then0 s9
  refine wl_assign (.int .i64 0) rfl ?_
  refine wl_nil ?_
  refine qn ?_
  refine wc_seq ?_
  refine wc_seq ?_
  refine wc_region ?_
  have B14 := (B4.step0 s9)
  refine wl_loadb B14 ty68 rfl [v0_0, v0_1] rfl rfl ?_
  have f15 := q0_0.ext (s3.ext.trans (s9.ext))
  have f16 := q0_1.ext (s3.ext.trans (s9.ext))
  obtain ⟨t17, h18, h⟩ := Option.bind_eq_some_iff.1 h
  refine wl_call [.agg #[v0_0, v0_1]] bod67 (mc rfl (mn _)) (disk_Right.ok k fr13.wf a0 v0_0 f15 v0_1 f16 _ h18) ?_
  rintro e19 w20 ⟨hw21, rfl, s22⟩
  refine ⟨_, rfl, ?_⟩
  have fr23 := fr13.then0 s22
  refine wl_not rfl ?_
  refine wl_move (.bool (!t17)) rfl ?_
  refine wl_join 5 [16, 17, 18, 19, 20] 20 (.bool ((!t17) || (decide (0 < (a0.Dirty.length : Int))))) ?_ ?_
  · rcases Bool.eq_false_or_eq_true (!t17) with hcc | hcc
    · skip
      refine wl_off (yl rfl rfl rfl) hcc ?_
      refine wl_off (yl rfl rfl rfl) hcc ?_
      refine wl_off (yl rfl rfl rfl) hcc ?_
      refine wl_off (yl rfl rfl rfl) hcc ?_
      refine wl_pick_t (!t17) (.bool true) rfl hcc rfl ?_
      refine wl_nil ?_
      exact qn ⟨rfl, _, rfl, (by repeat (first | exact Same.refl _ _ | refine Same.upd ?_ rfl)), (by rw [hcc]; rfl)⟩
    · skip
      refine wl_on (yl rfl rfl rfl) hcc ?_
      refine wl_field fld68_1 rfl ?_
      refine wl_on (yl rfl rfl rfl) hcc ?_
      have B24 := (B14.step0 s22)
      refine wl_loadb1 B24 ty66 rfl (v0_1) rfl ?_
      refine wl_on (yl rfl rfl rfl) hcc ?_
      have f28 := f16.ext (s22.ext)
      obtain ⟨A25, c26, hv27⟩ := (f28).slice
      refine wl_len Tryd.underlying66 (show _ = Value.slice _ a0.Dirty.length _ from (Eq.trans rfl hv27)) ?_
      refine wl_on (yl rfl rfl rfl) hcc ?_
      refine wl_gtr rfl rfl ?_
      refine wl_pick_f (!t17) (.bool (decide (0 < (a0.Dirty.length : Int)))) rfl hcc rfl ?_
      refine wl_nil ?_
      exact qn ⟨rfl, _, rfl, (by repeat (first | exact Same.refl _ _ | refine Same.upd ?_ rfl)), (by rw [hcc]; rfl)⟩
  intro _ ho29 hv30
  refine wl_nil ?_
  refine qn ?_
  by_cases c31 : ((!t17) || (decide (0 < (a0.Dirty.length : Int)))) = true
  · replace h := (if_pos c31).symm.trans h
    refine wc_then hv30 c31 ?_
    refine wc_seq ?_
    refine wc_region ?_
    have hb32 : ∀ w, (Instr.build 70 #[]).run Tryd.prog w = .ok (.agg (List.toArray [.slice none 0 0, .slice none 0 0, .int .i64 0, .int .i64 0, .int .i64 0, .slice none 0 0])) w := by intro  _; kernel_rfl
    refine wl_build [.slice none 0 0, .slice none 0 0, .int .i64 0, .int .i64 0, .int .i64 0, .slice none 0 0] (pn _ _) (hb32 _) ?_
    have B33 := (B10.step0 s22)
    refine wl_store B33 fr23.wf ty70 ((ho29 2 rfl).trans rfl) [.slice none 0 0, .slice none 0 0, .int .i64 0, .int .i64 0, .int .i64 0, .slice none 0 0] (cells_of (v := (.agg #[.slice none 0 0, .slice none 0 0, .int .i64 0, .int .i64 0, .int .i64 0, .slice none 0 0])) rfl rfl) rfl (Nat.le_of_ble_eq_true rfl) (by intro u hu; simp only [List.mem_cons, List.not_mem_nil, or_false] at hu; rcases hu with rfl | rfl | rfl | rfl | rfl | rfl <;> first | rfl | exact Dy.one _) [.slice none 0 0, .slice none 0 0, .int .i64 0, .int .i64 0, .int .i64 0, .slice none 0 0] rfl ?_
    intro w34 s35 B36
    have fr37 := fr23.then s35 (fun _ e => (Option.some.inj e ▸ B33.new))
    refine wl_assign (.int .i64 1) rfl ?_
    refine wl_nil ?_
    refine qn ?_
    refine wc_ret ?_
    refine qr ?_
    have h := Option.some.inj h
    subst h
    refine end2 rfl (.cell ((ho29 2 rfl).trans rfl) (ty70.load (l := [.slice none 0 0, .slice none 0 0, .int .i64 0, .int .i64 0, .int .i64 0, .slice none 0 0]) rfl (B36.cells rfl)) (.tmp rfl .nil)) ?_
    exact ⟨(.slice none 0 0), (.slice none 0 0), (.slice none 0 0), _, rfl, fr37, (Row.nil _ _ _), (Row.nil _ _ _), (Row.nil _ _ _)⟩
  · replace h := (if_neg c31).symm.trans h
    have b38 : ((!t17) || (decide (0 < (a0.Dirty.length : Int)))) = false := Bool.eq_false_iff.2 c31
    refine wc_else hv30 b38 ?_
    refine wc_skip ?_
    refine qn ?_
    refine wc_seq ?_
    refine wc_region ?_
    have B39 := (B14.step0 s22)
    refine wl_loadb B39 ty68 ((ho29 1 rfl).trans rfl) [v0_0, v0_1] rfl rfl ?_
    have f43 := f15.ext (s22.ext)
    obtain ⟨A40, c41, hv42⟩ := (f43).slice
    have f47 := f16.ext (s22.ext)
    obtain ⟨A44, c45, hv46⟩ := (f47).slice
    have hb48 : ∀ w, (Instr.build 70 #[(0, .agg #[v0_0, v0_1])]).run Tryd.prog w = .ok (.agg (List.toArray [v0_0, v0_1, .int .i64 0, .int .i64 0, .int .i64 0, .slice none 0 0])) w := by intro  _; rw [hv42]; rw [hv46]; kernel_rfl
    refine wl_build [v0_0, v0_1, .int .i64 0, .int .i64 0, .int .i64 0, .slice none 0 0] (pc rfl (pn _ _)) (hb48 _) ?_
    refine wl_alloc fr23.wf fr23.g.size ty70 [.slice none 0 0, .slice none 0 0, .int .i64 0, .int .i64 0, .int .i64 0, .slice none 0 0] rfl ?_
    intro b49 w50 s51 B52 g53
    have n54 : b1 ≠ b49 := B39.ne g53
    have B56 := (B10.step0 s22)
    have n55 : b7 ≠ b49 := B56.ne g53
    have fr57 := fr23.then0 s51
    have f61 := f43.ext (s51.ext)
    have f62 := f47.ext (s51.ext)
    refine wl_store B52 fr57.wf ty70 rfl [v0_0, v0_1, .int .i64 0, .int .i64 0, .int .i64 0, .slice none 0 0] (cells_of (v := (.agg #[v0_0, v0_1, .int .i64 0, .int .i64 0, .int .i64 0, .slice none 0 0])) rfl rfl) rfl (Nat.le_of_ble_eq_true rfl) (one_all [v0_0, v0_1, .int .i64 0, .int .i64 0, .int .i64 0, .slice none 0 0] (by simp only [List.all_cons, List.all_nil, Bool.and_true, Bool.true_and, row_one f61, row_one f62] <;> rfl)) [v0_0, v0_1, .int .i64 0, .int .i64 0, .int .i64 0, .slice none 0 0] rfl ?_
    intro w58 s59 B60
    have fr63 := fr57.then s59 (fun _ e => (Option.some.inj e ▸ B52.new))
    refine wl_nil ?_
    refine qn ?_
    refine wc_seq ?_
    refine wc_seq ?_
    refine wc_region ?_
    refine wl_move (.int .i64 0) rfl ?_
    refine wl_nil ?_
    refine qn ?_
    refine wc_block ?_
    refine wc_loop (fun m a w => ∃ (σ : Nat → Value) (hw : Hw) (kq : Nat) (x64 : Int) (x65 : Int) (x66 : Int) (x67 : Int), a = mkA 70 σ ∧ kq ≤ m ∧ kq ≤ k ∧ Stp none w0 hw0 w hw ∧ Ext w58 hw21 w hw ∧ σ 1 = .pointer (some ⟨b1, 0, none⟩) ∧ σ 2 = .pointer (some ⟨b7, 0, none⟩) ∧ σ 4 = .pointer (some ⟨b49, 0, none⟩) ∧ σ 24 = .int .i64 x64 ∧ Box w0.heap.size w hw b1 68 [v0_0, v0_1] ∧ Box w0.heap.size w hw b7 70 [.slice none 0 0, .slice none 0 0, .int .i64 0, .int .i64 0, .int .i64 0, .slice none 0 0] ∧ Box w0.heap.size w hw b49 70 [v0_0, v0_1, .int .i64 x65, .int .i64 x66, .int .i64 x67, .slice none 0 0] ∧ ledger_Open.l0 kq a0 x64 x65 x66 x67 = some r) k ?_ ?_ ?_
    · skip
      have B68 := ((B39.step0 s51).stepb s59 n54)
      have B69 := ((B56.step0 s51).stepb s59 n55)
      exact ⟨_, _, _, 0, 0, 0, 0, rfl, (Nat.le_refl _), (Nat.le_refl _), fr63, (Ext.refl _ _), ((ho29 1 rfl).trans rfl), ((ho29 2 rfl).trans rfl), rfl, rfl, B68, B69, B60, h⟩
    · rintro _ _ ⟨_, hw71, k72, x64, x65, x66, x67, rfl, hk75, hk76, fr73, e74, z77, z78, z79, z80, B81, B82, B83, h⟩; obtain rfl := Nat.le_zero.1 hk75; rw [ledger_Open.l0] at h; cases h
    · rintro m0 _ w70 ⟨_, hw71, k72, x64, x65, x66, x67, rfl, hk75, hk76, fr73, e74, z77, z78, z79, z80, B81, B82, B83, h⟩
      rcases k72 with _ | k72
      · rw [ledger_Open.l0] at h; cases h
      rw [ledger_Open.l0] at h
      refine wc_seq ?_
      refine wc_region ?_
      refine wl_lss z80 rfl ?_
      refine wl_nil ?_
      refine qn ?_
      refine wc_seq ?_
      by_cases c84 : x64 < 2
      · replace h := (if_pos c84).symm.trans h
        have b85 : (decide (x64 < 2)) = true := decide_eq_true c84
        refine wc_then rfl b85 ?_
        refine wc_skip ?_
        refine qn ?_
        refine wc_seq ?_
        refine wc_block ?_
        refine wc_seq ?_
        refine wc_region ?_
        refine wl_move (.int .i64 x64) z80 ?_
        refine wl_assign (.int .i64 x64) rfl ?_
        refine wl_nil ?_
        refine qn ?_
        refine wc_seq ?_
        refine wc_region ?_
        refine wl_loadb B81 ty68 z77 [v0_0, v0_1] rfl rfl ?_
        refine wl_move (.int .i64 x64) rfl ?_
        have f86 := f61.ext (s59.ext.trans (e74))
        have f87 := f62.ext (s59.ext.trans (e74))
        obtain ⟨t88, h89, h⟩ := Option.bind_eq_some_iff.1 h
        refine wl_call [.agg #[v0_0, v0_1], .int .i64 x64] bod68 (mc rfl (mc rfl (mn _))) (ledger_tells.ok k72 fr73.wf a0 x64 v0_0 f86 v0_1 f87 _ h89) ?_
        rintro e90 w91 ⟨hw92, rfl, s93⟩
        refine ⟨_, rfl, ?_⟩
        have fr94 := fr73.then0 s93
        refine wl_move (.tuple #[.int .i64 t88.1, .int .i64 t88.2]) rfl ?_
        refine wl_extract (vs := [.int .i64 t88.1, .int .i64 t88.2]) (.int .i64 t88.1) rfl rfl ?_
        refine wl_extract (vs := [.int .i64 t88.1, .int .i64 t88.2]) (.int .i64 t88.2) rfl rfl ?_
        refine wl_assign (.int .i64 t88.1) rfl ?_
        refine wl_assign (.int .i64 t88.2) rfl ?_
        refine wl_nil ?_
        refine qn ?_
        refine wc_seq ?_
        refine wc_region ?_
        refine wl_move (.int .i64 t88.1) rfl ?_
        refine wl_field fld70_2 z79 ?_
        have B95 := (B83.step0 s93)
        refine wl_loadb1 B95 ty3 rfl (.int .i64 x66) rfl ?_
        refine wl_gtr rfl rfl ?_
        refine wl_nil ?_
        refine qn ?_
        by_cases c96 : x66 < t88.1
        · replace h := (if_pos c96).symm.trans h
          have b97 : (decide (x66 < t88.1)) = true := decide_eq_true c96
          refine wc_then rfl b97 ?_
          refine wc_region ?_
          refine wl_move (.int .i64 x64) rfl ?_
          refine wl_move (.int .i64 t88.1) rfl ?_
          refine wl_move (.int .i64 t88.2) rfl ?_
          refine wl_field fld70_1 z79 ?_
          refine wl_store B95 fr94.wf ty3 rfl [.int .i64 x64] (cells_of (v := (.int .i64 x64)) rfl rfl) rfl (Nat.le_of_ble_eq_true rfl) (by intro u hu; simp only [List.mem_cons, List.not_mem_nil, or_false] at hu; subst hu; first | rfl | exact Dy.one _) [v0_0, v0_1, .int .i64 x64, .int .i64 x66, .int .i64 x67, .slice none 0 0] rfl ?_
          intro w98 s99 B100
          have fr101 := fr94.then s99 (fun _ e => (Option.some.inj e ▸ B95.new))
          refine wl_field fld70_2 z79 ?_
          refine wl_store B100 fr101.wf ty3 rfl [.int .i64 t88.1] (cells_of (v := (.int .i64 t88.1)) rfl rfl) rfl (Nat.le_of_ble_eq_true rfl) (by intro u hu; simp only [List.mem_cons, List.not_mem_nil, or_false] at hu; subst hu; first | rfl | exact Dy.one _) [v0_0, v0_1, .int .i64 x64, .int .i64 t88.1, .int .i64 x67, .slice none 0 0] rfl ?_
          intro w102 s103 B104
          have fr105 := fr101.then s103 (fun _ e => (Option.some.inj e ▸ B100.new))
          refine wl_field fld70_3 z79 ?_
          refine wl_store B104 fr105.wf ty3 rfl [.int .i64 t88.2] (cells_of (v := (.int .i64 t88.2)) rfl rfl) rfl (Nat.le_of_ble_eq_true rfl) (by intro u hu; simp only [List.mem_cons, List.not_mem_nil, or_false] at hu; subst hu; first | rfl | exact Dy.one _) [v0_0, v0_1, .int .i64 x64, .int .i64 t88.1, .int .i64 t88.2, .slice none 0 0] rfl ?_
          intro w106 s107 B108
          have fr109 := fr105.then s107 (fun _ e => (Option.some.inj e ▸ B104.new))
          refine wl_nil ?_
          refine bn ?_
          refine qn ?_
          refine wc_region ?_
          refine wl_add z80 rfl ?_
          refine wl_move (.int .i64 (IntKind.i64.wrap (x64 + 1))) rfl ?_
          refine wl_nil ?_
          refine qn ?_
          have B110 := ((((B81.step0 s93).stepb s99 n54).stepb s103 n54).stepb s107 n54)
          have B111 := ((((B82.step0 s93).stepb s99 n55).stepb s103 n55).stepb s107 n55)
          exact ⟨_, _, _, (IntKind.i64.wrap (x64 + 1)), x64, t88.1, t88.2, rfl, (by omega), (by omega), fr109, (Ext.trans e74 (Ext.trans s93.ext (Ext.trans s99.ext (Ext.trans s103.ext s107.ext)))), z77, z78, z79, rfl, B110, B111, B108, h⟩
        · replace h := (if_neg c96).symm.trans h
          have b112 : (decide (x66 < t88.1)) = false := decide_eq_false c96
          refine wc_else rfl b112 ?_
          refine wc_skip ?_
          refine bn ?_
          refine qn ?_
          refine wc_region ?_
          refine wl_add z80 rfl ?_
          refine wl_move (.int .i64 (IntKind.i64.wrap (x64 + 1))) rfl ?_
          refine wl_nil ?_
          refine qn ?_
          have B113 := (B81.step0 s93)
          have B114 := (B82.step0 s93)
          exact ⟨_, _, _, (IntKind.i64.wrap (x64 + 1)), x65, x66, x67, rfl, (by omega), (by omega), fr94, (Ext.trans e74 s93.ext), z77, z78, z79, rfl, B113, B114, B95, h⟩
      · replace h := (if_neg c84).symm.trans h
        have b115 : (decide (x64 < 2)) = false := decide_eq_false c84
        refine wc_else rfl b115 ?_
        refine wc_exit ?_
        refine qe ?_
        refine qe ?_
        refine be ?_
        refine qn ?_
        refine wc_seq ?_
        refine wc_region ?_
        refine wl_loadb B81 ty68 z77 [v0_0, v0_1] rfl rfl ?_
        refine wl_field fld70_1 z79 ?_
        refine wl_loadb1 B83 ty3 rfl (.int .i64 x65) rfl ?_
        have f116 := f61.ext (s59.ext.trans (e74))
        have f117 := f62.ext (s59.ext.trans (e74))
        obtain ⟨t118, h119, h⟩ := Option.bind_eq_some_iff.1 h
        refine wl_call [.agg #[v0_0, v0_1], .int .i64 x65] bod69 (mc rfl (mc rfl (mn _))) (ledger_room.ok k72 fr73.wf a0 x65 v0_0 f116 v0_1 f117 _ h119) ?_
        rintro e120 w121 ⟨hw122, rfl, s123⟩
        refine ⟨_, rfl, ?_⟩
        have fr124 := fr73.then0 s123
        refine wl_move (.tuple #[.int .i64 t118.1, .string (bs t118.2)]) rfl ?_
        refine wl_extract (vs := [.int .i64 t118.1, .string (bs t118.2)]) (.int .i64 t118.1) rfl rfl ?_
        refine wl_extract (vs := [.int .i64 t118.1, .string (bs t118.2)]) (.string (bs t118.2)) rfl rfl ?_
        refine wl_assign (.int .i64 t118.1) rfl ?_
        refine wl_assign (.string (bs t118.2)) rfl ?_
        refine wl_nil ?_
        refine qn ?_
        refine wc_seq ?_
        refine wc_region ?_
        refine wl_move (.string (bs t118.2)) rfl ?_
        refine wl_field fld70_3 z79 ?_
        have B125 := (B83.step0 s123)
        refine wl_loadb1 B125 ty3 rfl (.int .i64 x67) rfl ?_
        by_cases c126 : (0 : Int) ≤ x67
        · replace h := (if_pos c126).symm.trans h
          by_cases c127 : (x67 : Int) ≤ (t118.2.length : Int)
          · replace h := (if_pos c127).symm.trans h
            refine wl_cuts Tryd.underlying9 rfl Bd.no (Bd.yes rfl) (by first | decide | omega | simp) c126 c127 ?_
            obtain ⟨t128, h129, h⟩ := Option.bind_eq_some_iff.1 h
            have B134 := (B81.step0 s123)
            have B135 := (B82.step0 s123)
            refine wl_call [.string (bs ((t118.2.take (Int.toNat x67)).drop (Int.toNat 0)))] bod70 (mc rfl (mn _)) (ledger_entries.ok k72 fr124.wf ((t118.2.take (Int.toNat x67)).drop (Int.toNat 0)) _ h129) ?_
            rintro e130 w131 ⟨v136, hw132, rfl, s133, O137⟩
            refine ⟨_, rfl, ?_⟩
            have n138 := own_new_lt O137 B134.lt
            have n139 := own_new_lt O137 B135.lt
            have n140 := own_new_lt O137 B125.lt
            replace O137 := O137.low fr124.g.size
            have fr141 := fr124.then0 s133
            refine wl_move (.tuple #[v136, .bool t128.2]) rfl ?_
            refine wl_extract (vs := [v136, .bool t128.2]) (v136) rfl rfl ?_
            refine wl_extract (vs := [v136, .bool t128.2]) (.bool t128.2) rfl rfl ?_
            refine wl_assign (v136) rfl ?_
            refine wl_assign (.bool t128.2) rfl ?_
            refine wl_nil ?_
            refine qn ?_
            refine wc_seq ?_
            refine wc_seq ?_
            refine wc_region ?_
            refine wl_field fld70_2 z79 ?_
            have B142 := (B125.step0 s133)
            refine wl_loadb1 B142 ty3 rfl (.int .i64 x66) rfl ?_
            refine wl_eql rfl rfl ?_
            refine wl_move (.bool (x66 == 0)) rfl ?_
            refine wl_join 3 [63, 64, 65] 65 (.bool ((x66 == 0) || (!t128.2))) ?_ ?_
            · rcases Bool.eq_false_or_eq_true (x66 == 0) with hcc | hcc
              · skip
                refine wl_off (yl rfl rfl rfl) hcc ?_
                refine wl_off (yl rfl rfl rfl) hcc ?_
                refine wl_pick_t (x66 == 0) (.bool true) rfl hcc rfl ?_
                refine wl_nil ?_
                exact qn ⟨rfl, _, rfl, (by repeat (first | exact Same.refl _ _ | refine Same.upd ?_ rfl)), (by rw [hcc]; rfl)⟩
              · skip
                refine wl_on (yl rfl rfl rfl) hcc ?_
                refine wl_move (.bool t128.2) rfl ?_
                refine wl_on (yl rfl rfl rfl) hcc ?_
                refine wl_not rfl ?_
                refine wl_pick_f (x66 == 0) (.bool (!t128.2)) rfl hcc rfl ?_
                refine wl_nil ?_
                exact qn ⟨rfl, _, rfl, (by repeat (first | exact Same.refl _ _ | refine Same.upd ?_ rfl)), (by rw [hcc]; rfl)⟩
            intro _ ho143 hv144
            refine wl_nil ?_
            refine qn ?_
            by_cases c145 : ((x66 == 0) || (!t128.2)) = true
            · replace h := (if_pos c145).symm.trans h
              refine wc_then hv144 c145 ?_
              refine wc_seq ?_
              refine wc_region ?_
              have hb146 : ∀ w, (Instr.build 70 #[]).run Tryd.prog w = .ok (.agg (List.toArray [.slice none 0 0, .slice none 0 0, .int .i64 0, .int .i64 0, .int .i64 0, .slice none 0 0])) w := by intro  _; kernel_rfl
              refine wl_build [.slice none 0 0, .slice none 0 0, .int .i64 0, .int .i64 0, .int .i64 0, .slice none 0 0] (pn _ _) (hb146 _) ?_
              have B147 := (B135.step0 s133)
              refine wl_store B147 fr141.wf ty70 ((ho143 2 rfl).trans z78) [.slice none 0 0, .slice none 0 0, .int .i64 0, .int .i64 0, .int .i64 0, .slice none 0 0] (cells_of (v := (.agg #[.slice none 0 0, .slice none 0 0, .int .i64 0, .int .i64 0, .int .i64 0, .slice none 0 0])) rfl rfl) rfl (Nat.le_of_ble_eq_true rfl) (by intro u hu; simp only [List.mem_cons, List.not_mem_nil, or_false] at hu; rcases hu with rfl | rfl | rfl | rfl | rfl | rfl <;> first | rfl | exact Dy.one _) [.slice none 0 0, .slice none 0 0, .int .i64 0, .int .i64 0, .int .i64 0, .slice none 0 0] rfl ?_
              intro w148 s149 B150
              have fr151 := fr141.then s149 (fun _ e => (Option.some.inj e ▸ B147.new))
              refine wl_assign (.int .i64 14) rfl ?_
              refine wl_nil ?_
              refine qn ?_
              refine wc_ret ?_
              refine qr ?_
              have h := Option.some.inj h
              subst h
              refine end2 rfl (.cell ((ho143 2 rfl).trans z78) (ty70.load (l := [.slice none 0 0, .slice none 0 0, .int .i64 0, .int .i64 0, .int .i64 0, .slice none 0 0]) rfl (B150.cells rfl)) (.tmp rfl .nil)) ?_
              exact ⟨(.slice none 0 0), (.slice none 0 0), (.slice none 0 0), _, rfl, fr151, (Row.nil _ _ _), (Row.nil _ _ _), (Row.nil _ _ _)⟩
            · replace h := (if_neg c145).symm.trans h
              have b152 : ((x66 == 0) || (!t128.2)) = false := Bool.eq_false_iff.2 c145
              refine wc_else hv144 b152 ?_
              refine wc_skip ?_
              refine qn ?_
              refine wc_seq ?_
              refine wc_region ?_
              refine wl_move (v136) ((ho143 10 rfl).trans rfl) ?_
              refine wl_field fld70_4 ((ho143 4 rfl).trans z79) ?_
              refine wl_store B142 fr141.wf ty36 rfl [v136] (cells_of (v := v136) rfl (row_cells O137.row)) rfl (Nat.le_of_ble_eq_true rfl) (one_all [v136] (by simp only [List.all_cons, List.all_nil, Bool.and_true, Bool.true_and, row_one O137.row] <;> rfl)) [v0_0, v0_1, .int .i64 x65, .int .i64 x66, .int .i64 x67, v136] rfl ?_
              intro w153 s154 B155
              have fr156 := fr141.then s154 (fun _ e => (Option.some.inj e ▸ B142.new))
              refine wl_nil ?_
              refine qn ?_
              refine wc_seq ?_
              refine wc_region ?_
              refine wl_loadb B155 ty70 ((ho143 4 rfl).trans z79) [v0_0, v0_1, .int .i64 x65, .int .i64 x66, .int .i64 x67, v136] rfl rfl ?_
              have B157 := ((B135.step0 s133).stepb s154 n55)
              have f161 := f116.ext (s123.ext.trans (s133.ext.trans (s154.ext)))
              have f162 := f117.ext (s123.ext.trans (s133.ext.trans (s154.ext)))
              have O163 := (O137.step s154 (.inr n140))
              refine wl_store B157 fr156.wf ty70 ((ho143 2 rfl).trans z78) [v0_0, v0_1, .int .i64 x65, .int .i64 x66, .int .i64 x67, v136] (cells_of (v := (.agg #[v0_0, v0_1, .int .i64 x65, .int .i64 x66, .int .i64 x67, v136])) rfl rfl) rfl (Nat.le_of_ble_eq_true rfl) (one_all [v0_0, v0_1, .int .i64 x65, .int .i64 x66, .int .i64 x67, v136] (by simp only [List.all_cons, List.all_nil, Bool.and_true, Bool.true_and, row_one f161, row_one f162, row_one O163.row] <;> rfl)) [v0_0, v0_1, .int .i64 x65, .int .i64 x66, .int .i64 x67, v136] rfl ?_
              intro w158 s159 B160
              have fr164 := fr156.then s159 (fun _ e => (Option.some.inj e ▸ B157.new))
              refine wl_assign (.int .i64 0) rfl ?_
              refine wl_nil ?_
              refine qn ?_
              refine wc_ret ?_
              have f165 := f161.ext (s159.ext)
              have f166 := f162.ext (s159.ext)
              have O167 := (O163.step s159 (.inr n139))
              have h := Option.some.inj h
              subst h
              refine end2 rfl (.cell ((ho143 2 rfl).trans z78) (ty70.load (l := [v0_0, v0_1, .int .i64 x65, .int .i64 x66, .int .i64 x67, v136]) rfl (B160.cells rfl)) (.tmp rfl .nil)) ?_
              exact ⟨v0_0, v0_1, v136, _, rfl, fr164, f165, f166, O167.row⟩
          · replace h := (if_neg c127).symm.trans h
            cases h
        · replace h := (if_neg c126).symm.trans h
          cases h
end Go.Proofs.YtlaifpbickdpkaaDoor
