/- ScriptBack: from its contract and its plain law to the row and the tied card: no condition beyond the row's own (written by gwharn.py; own work). -/
import Derived.Test.YtlaifpbickdpkaaDoorRows
import Derived.Test.YtlaifpbickdpkaaDoorO1
import Derived.Test.YtlaifpbickdpkaaDoorGwP
import Derived.Test.YtlaifpbickdpkaaDoorTie
import Derived.Test.YtlaifpbickdpkaaDoorCards
import Derived.ChangeSame
import Derived.ChangeVars
import Derived.JoinedOf
import Derived.RowKit
import Derived.RowKitTokens
import Derived.LaidLaws
import Derived.LaidHandle
import Derived.Stop.Joined
import Derived.SevenTiedAt
namespace Go.Proofs.YtlaifpbickdpkaaDoor
open Go.ChangeShapes Go.WideShapes Go.ChangeAt Go.RowKit
set_option linter.unusedVariables false
set_option linter.unusedSimpArgs false
theorem Tryd.own : ownKnob Tryd.prog.godebug = none := by kernel_rfl
theorem Tryd.laidOut : laidOutB Tryd.prog = true := by kernel_rfl
/-! ### the listed tables -/
theorem laidP (W : World) : laidMetH Tryd.prog Rows.scriptBackRow.laid W = laidMet Tryd.prog Rows.scriptBackRow.laid W := Go.MakeChecks.laidMetH_plain _ _ _ (by kernel_rfl)
noncomputable def laidWorld (os : Os) : World := World.laidAll Tryd.prog os Rows.scriptBackRow.laid
theorem laidWorld_met (os : Os) (args : Array Value) : laidMetH Tryd.prog Rows.scriptBackRow.laid ((laidWorld os).forCall (fun _ _ => 0) ⟨#[], args, []⟩).memory := by
  rw [laidP]; exact laidMet_laidAll args (by kernel_rfl) (by kernel_rfl)
theorem gl_of {W : World} (hs : W.ShapedOpen Tryd.prog) : Gl W (allLive W) :=
  cell_of_shapedOpen_int (zero := #[.int .i64 0]) (t := 3) hs (of_decide_eq_true (by kernel_rfl)) (by kernel_rfl) rfl (by kernel_rfl) (by kernel_rfl) Tryd.underlying3

def LawScriptBack : Prop := ∀ (a0 : ApiPlan) (a1 : (List UInt8)), GApiPlan a0 → Gstr a1 → ∃ k, consignorlaw20_ScriptBack.f k a0 a1 = some true
set_option maxRecDepth 100000 in
theorem scriptBack_lifted (law : LawScriptBack) (os : Os) (started : os.Started) (H : Type) (enc : TypeId × Value → H) :
    ReturnsInHanded {} Tryd.checked os 3 .any (fun w args => (Rows.scriptBackSpec.pre enc Tryd.prog Tryd.f3 [] false w args ∧ laidMetH Tryd.prog Rows.scriptBackRow.laid w) ∧ sizedMet enc Tryd.prog Tryd.f3 (OpenSpec.ofChange Rows.scriptBackSpec) false w args) (Rows.scriptBackSpec.post enc Tryd.prog Tryd.f3 false true false false) := by
  refine retAndShaped (C := Tryd.checked) (X := fun w _ => laidMetH Tryd.prog Rows.scriptBackRow.laid w) (fun _ _ _ hh h => h.of_heap hh) Tryd.own started (by kernel_rfl) Tryd.func3
    (ChangeSpec.witness_at (enc := enc) (C := Tryd.checked) (os := os) (X := fun w _ => laidMetH Tryd.prog Rows.scriptBackRow.laid w) false (laidWorld os) #[.agg #[.int .i64 0, .int .i64 0, .slice none 0 0], .string ⟨#[]⟩] 8 rfl (by kernel_rfl) (by kernel_rfl) (by kernel_rfl) (by kernel_rfl) (by kernel_rfl) (laidWorld_met os _)) ?_
  intro W base args ds gs before hval0 hW hL hS
  have hval : ∀ (j : Nat) t v, Tryd.f3.params[j]? = some t → args[j]? = some v → Value.okWide Tryd.prog W .any base t v := hval0
  have hW' := hW
  obtain ⟨p, q, hA0, hV, rfl, hfz, hnd⟩ := hW
  have hA : DataW.TrodAll enc Tryd.prog W 0 (fun _ => true) true Tryd.f3.params.toList args.toList ds p := hA0
  rw [Tryd.params3] at hA hval
  obtain ⟨v0, v1, d0, d1, p0, p1, rfl, rfl, rfl, h0, h1⟩ := trodAll_two hA
  obtain ⟨rfl, rfl⟩ := trodVars_none hV
  obtain ⟨x1, rfl⟩ := okWide_string Tryd.underlying9 (hval 1 9 v1 rfl rfl)
  have h0k := h0
  have h1k := h1
  clear hA0 hval0
  simp only [List.append_nil, List.append_assoc] at hW'
  have hlt : ∀ x ∈ (p0 ++ p1 : List MemPlace), x.block < W.heap.size := fun x hx => hW'.lt x hx
  have hargs0 : ∀ (W' : World), Below W.heap.size W W' → DataW.Trod enc Tryd.prog W' 0 (fun b => decide (b < W.heap.size)) true 24 v0 d0 p0 :=
    fun W' hn => Below.trod Tryd.laidOut (by kernel_rfl) (of_decide_eq_true (by kernel_rfl)) h0k hn (fun x hx => hlt x (by simp [hx]))
  have hargs1 : ∀ (W' : World), Below W.heap.size W W' → DataW.Trod enc Tryd.prog W' 0 (fun b => decide (b < W.heap.size)) true 9 (.string x1) d1 p1 :=
    fun W' hn => Below.trod Tryd.laidOut (by kernel_rfl) (of_decide_eq_true (by kernel_rfl)) h1k hn (fun x hx => hlt x (by simp [hx]))
  have fin : ∀ e W', (e = Ending.returned (.bool true) ∧ Below W.heap.size W W') →
      ∃ v, e = Ending.returned v ∧ Rows.scriptBackSpec.post enc Tryd.checked.prog Tryd.f3 false true false false W #[v0, .string x1] v W' := by
    intro e W' ⟨he, hnx⟩
    subst he
    exact ⟨_, rfl, _, _, _, _, p0 ++ p1, [], hW', trodAll_mk1 (shut_bool Tryd.underlying4 true), trodAll_mk2 (hargs0 _ hnx) (hargs1 _ hnx), rfl, hnx.frame _, fun h => by cases h⟩
  obtain ⟨cs0, y0, rfl, k0, g0⟩ := arg_agg Tryd.underlying24 opn24 (hval 0 24 v0 rfl rfl) h0k
  obtain ⟨u0_2, rfl, w0_2⟩ := k0
  obtain ⟨y1, k1, g1⟩ := arg_one (v := (.string x1)) rfl (opn_str Tryd.underlying9) h1k
  have e1 : ((.string x1) : Value) = .string (bs y1) := (List.cons.inj k1).1
  rw [e1]
  rw [e1] at fin
  obtain ⟨k, hk⟩ := law y0 y1 g0 g1
  refine (consignorlaw20_ScriptBack.ok k (allLive_wf W) y0 y1 u0_2 w0_2 (gl_of hS) true hk).mono fun e W' ⟨hw', he, s⟩ => fin e W' ⟨he, s.below⟩
theorem scriptBack_of (law : LawScriptBack) : Rows.ScriptBackSaid :=
  OpenClaim.holds_of_wide 3 Tryd.f3 rfl rfl rfl rfl rfl rfl rfl ⟨rfl, rfl, rfl, rfl, rfl⟩ rfl rfl rfl rfl rfl (by kernel_rfl) Tryd.func3 (by kernel_rfl)
    (of_decide_eq_true (by kernel_rfl)) (by unfold Func.isWrapper; first | (rw [if_pos (by decide +kernel)]; kernel_rfl) | (rw [if_neg (by decide +kernel)]; exact ⟨rfl, rfl⟩))
    (fun os started H enc _ => scriptBack_lifted law os started H enc)
end Go.Proofs.YtlaifpbickdpkaaDoor
