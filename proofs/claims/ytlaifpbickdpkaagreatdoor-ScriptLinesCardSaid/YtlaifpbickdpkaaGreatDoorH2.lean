/- ScriptLines: from its contract and its plain law to the row and the tied card: no condition beyond the row's own (written by gwharn.py; own work). -/
import Derived.Test.YtlaifpbickdpkaaGreatDoorRows
import Derived.Test.YtlaifpbickdpkaaGreatDoorO2
import Derived.Test.YtlaifpbickdpkaaGreatDoorGwP
import Derived.Test.YtlaifpbickdpkaaGreatDoorTie
import Derived.Test.YtlaifpbickdpkaaGreatDoorCards
import Derived.ChangeSame
import Derived.ChangeVars
import Derived.JoinedOf
import Derived.RowKit
import Derived.RowKitTokens
import Derived.LaidLaws
import Derived.LaidHandle
import Derived.Stop.Joined
import Derived.SevenTiedAt
namespace Go.Proofs.YtlaifpbickdpkaaGreatDoor
open Go.ChangeShapes Go.WideShapes Go.ChangeAt Go.RowKit
set_option linter.unusedVariables false
set_option linter.unusedSimpArgs false
theorem Tryz.own : ownKnob Tryz.prog.godebug = none := by kernel_rfl
theorem Tryz.laidOut : laidOutB Tryz.prog = true := by kernel_rfl
/-! ### the listed tables -/
theorem laidP (W : World) : laidMetH Tryz.prog Rows.scriptLinesRow.laid W = laidMet Tryz.prog Rows.scriptLinesRow.laid W := Go.MakeChecks.laidMetH_plain _ _ _ (by kernel_rfl)
noncomputable def laidWorld (os : Os) : World := World.laidAll Tryz.prog os Rows.scriptLinesRow.laid
theorem laidWorld_met (os : Os) (args : Array Value) : laidMetH Tryz.prog Rows.scriptLinesRow.laid ((laidWorld os).forCall (fun _ _ => 0) ⟨#[], args, []⟩).memory := by
  rw [laidP]; exact laidMet_laidAll args (by kernel_rfl) (by kernel_rfl)
theorem onlyPow : (Rows.scriptLinesRow.laid.filter fun x => x.1 == "internal/strconv.uint64pow10") = [("internal/strconv.uint64pow10", Lib.tabData .u64 Lib.pow10Tab)] := by kernel_rfl
theorem gl_of {W : World} (hs : W.ShapedOpen Tryz.prog) (h : laidMetH Tryz.prog Rows.scriptLinesRow.laid W) : Gl W (allLive W) := by
  refine ⟨cell_of_shapedOpen_int (zero := #[.int .i64 0]) (t := 3) hs (of_decide_eq_true (by kernel_rfl)) (by kernel_rfl) rfl (by kernel_rfl) (by kernel_rfl) Tryz.underlying3, ?_⟩
  rw [laidP] at h
  have h2 := laidMet.filter (fun x => x.1 == "internal/strconv.uint64pow10") h
  rw [onlyPow] at h2
  exact Lib.tabIs_of_head (rest := []) (g := 1) (t := 151) (e := 135) (n := 20) (by kernel_rfl) (by kernel_rfl) (by kernel_rfl) (by kernel_rfl) (by kernel_rfl) (by kernel_rfl) h2

def LawScriptLines : Prop := ∀ (a0 : ApiPlan) (a1 : ApiDeed), GApiPlan a0 → GApiDeed a1 → ∃ k, consignorlaw20_ScriptLines.f k a0 a1 = some true
set_option maxRecDepth 100000 in
theorem scriptLines_lifted (law : LawScriptLines) (os : Os) (started : os.Started) (H : Type) (enc : TypeId × Value → H) :
    ReturnsInHanded {} Tryz.checked os 5 .any (fun w args => (Rows.scriptLinesSpec.pre enc Tryz.prog Tryz.f5 [] false w args ∧ laidMetH Tryz.prog Rows.scriptLinesRow.laid w) ∧ sizedMet enc Tryz.prog Tryz.f5 (OpenSpec.ofChange Rows.scriptLinesSpec) false w args) (Rows.scriptLinesSpec.post enc Tryz.prog Tryz.f5 false true false false) := by
  refine retAndShaped (C := Tryz.checked) (X := fun w _ => laidMetH Tryz.prog Rows.scriptLinesRow.laid w) (fun _ _ _ hh h => h.of_heap hh) Tryz.own started (by kernel_rfl) Tryz.func5
    (ChangeSpec.witness_at (enc := enc) (C := Tryz.checked) (os := os) (X := fun w _ => laidMetH Tryz.prog Rows.scriptLinesRow.laid w) false (laidWorld os) #[.agg #[.int .i64 0, .int .i64 0, .slice none 0 0], .agg #[.int .i64 0, .slice none 0 0, .slice none 0 0]] 8 rfl (by kernel_rfl) (by kernel_rfl) (by kernel_rfl) (by kernel_rfl) (by kernel_rfl) (laidWorld_met os _)) ?_
  intro W base args ds gs before hval0 hW hL hS
  have hval : ∀ (j : Nat) t v, Tryz.f5.params[j]? = some t → args[j]? = some v → Value.okWide Tryz.prog W .any base t v := hval0
  have hW' := hW
  obtain ⟨p, q, hA0, hV, rfl, hfz, hnd⟩ := hW
  have hA : DataW.TrodAll enc Tryz.prog W 0 (fun _ => true) true Tryz.f5.params.toList args.toList ds p := hA0
  rw [Tryz.params5] at hA hval
  obtain ⟨v0, v1, d0, d1, p0, p1, rfl, rfl, rfl, h0, h1⟩ := trodAll_two hA
  obtain ⟨rfl, rfl⟩ := trodVars_none hV
  have h0k := h0
  have h1k := h1
  clear hA0 hval0
  simp only [List.append_nil, List.append_assoc] at hW'
  have hlt : ∀ x ∈ (p0 ++ p1 : List MemPlace), x.block < W.heap.size := fun x hx => hW'.lt x hx
  have hargs0 : ∀ (W' : World), Below W.heap.size W W' → DataW.Trod enc Tryz.prog W' 0 (fun b => decide (b < W.heap.size)) true 24 v0 d0 p0 :=
    fun W' hn => Below.trod Tryz.laidOut (by kernel_rfl) (of_decide_eq_true (by kernel_rfl)) h0k hn (fun x hx => hlt x (by simp [hx]))
  have hargs1 : ∀ (W' : World), Below W.heap.size W W' → DataW.Trod enc Tryz.prog W' 0 (fun b => decide (b < W.heap.size)) true 41 v1 d1 p1 :=
    fun W' hn => Below.trod Tryz.laidOut (by kernel_rfl) (of_decide_eq_true (by kernel_rfl)) h1k hn (fun x hx => hlt x (by simp [hx]))
  have fin : ∀ e W', (e = Ending.returned (.bool true) ∧ Below W.heap.size W W') →
      ∃ v, e = Ending.returned v ∧ Rows.scriptLinesSpec.post enc Tryz.checked.prog Tryz.f5 false true false false W #[v0, v1] v W' := by
    intro e W' ⟨he, hnx⟩
    subst he
    exact ⟨_, rfl, _, _, _, _, p0 ++ p1, [], hW', trodAll_mk1 (shut_bool Tryz.underlying4 true), trodAll_mk2 (hargs0 _ hnx) (hargs1 _ hnx), rfl, hnx.frame _, fun h => by cases h⟩
  obtain ⟨cs0, y0, rfl, k0, g0⟩ := arg_agg Tryz.underlying24 opn24 (hval 0 24 v0 rfl rfl) h0k
  obtain ⟨u0_2, rfl, w0_2⟩ := k0
  obtain ⟨cs1, y1, rfl, k1, g1⟩ := arg_agg Tryz.underlying41 opn41 (hval 1 41 v1 rfl rfl) h1k
  obtain ⟨u1_1, u1_2, rfl, w1_1, w1_2⟩ := k1
  obtain ⟨k, hk⟩ := law y0 y1 g0 g1
  refine (consignorlaw20_ScriptLines.ok k (allLive_wf W) y0 y1 u0_2 w0_2 u1_1 w1_1 u1_2 w1_2 (gl_of hS hL) true hk).mono fun e W' ⟨hw', he, s⟩ => fin e W' ⟨he, s.below⟩
theorem scriptLines_of (law : LawScriptLines) : Rows.ScriptLinesSaid :=
  OpenClaim.holds_of_wide 5 Tryz.f5 rfl rfl rfl rfl rfl rfl rfl ⟨rfl, rfl, rfl, rfl, rfl⟩ rfl rfl rfl rfl rfl (by kernel_rfl) Tryz.func5 (by kernel_rfl)
    (of_decide_eq_true (by kernel_rfl)) (by unfold Func.isWrapper; first | (rw [if_pos (by decide +kernel)]; kernel_rfl) | (rw [if_neg (by decide +kernel)]; exact ⟨rfl, rfl⟩))
    (fun os started H enc _ => scriptLines_lifted law os started H enc)
end Go.Proofs.YtlaifpbickdpkaaGreatDoor
