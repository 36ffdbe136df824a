/- ScriptLines is proved as stated, as a tied card: whatever comes in, the law answers true, and what came in reads as it did; the row lists tables of Go's library, which the card ties to the program's text; no other condition. -/
import Derived.Test.YtlaifpbickdpkaaGreatDoorH2
import Derived.Test.YtlaifpbickdpkaaGreatDoorSL5
namespace Go.Proofs.YtlaifpbickdpkaaGreatDoor
open Go
theorem scriptLines_row : Rows.ScriptLinesSaid := scriptLines_of (fun a0 a1 g0 g1 => scriptLines_law a0 a1 (fun d hd => (g0.2.2.2 d hd).1) g1.1)
theorem scriptLines_holds : Rows.ScriptLinesCardSaid :=
  Claim7.holds_tied_plain_at .later [] [.data, .data, .data, .data, .pinned] true (true, "b66e61027921d82359b28599a670f9b33da5f6cd78f3f01ba010730809de4476") false
    scriptLines_row (fun _ h => by cases h) (by kernel_rfl) (fun _ h => by cases h) scriptLines_row_tie rfl ⟨rfl, rfl⟩ (by kernel_rfl) rfl
    (fun f fn hf hfn => by
      obtain rfl : f = 5 := Option.some.inj ((show Tryz.prog.funcNamed "consignor/consignorlaw20.ScriptLines" = some 5 by kernel_rfl).symm.trans hf) |>.symm
      obtain rfl : fn = Tryz.f5 := (Option.some.inj (Tryz.func5.symm.trans hfn)).symm
      exact ⟨by kernel_rfl, fun j t ht => by
        rw [Tryz.params5] at ht
        have h3 : t = 24 ∨ t = 41 := by
          rcases j with _ | _ | j
          · exact (.inl (by simpa using ht.symm))
          · exact (.inr (by simpa using ht.symm))
          · simp at ht
        rcases h3 with rfl | rfl
        · exact (show Tryz.prog.wantsStandIn 24 = false by kernel_rfl)
        · exact (show Tryz.prog.wantsStandIn 41 = false by kernel_rfl)⟩)
    (by kernel_rfl)
end Go.Proofs.YtlaifpbickdpkaaGreatDoor
#print axioms Go.Proofs.YtlaifpbickdpkaaGreatDoor.scriptLines_holds
