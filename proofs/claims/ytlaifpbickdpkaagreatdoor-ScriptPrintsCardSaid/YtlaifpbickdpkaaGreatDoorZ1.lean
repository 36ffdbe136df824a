/- ScriptPrints is proved as stated, as a tied card: whatever comes in, the law answers true, and what came in reads as it did; the row lists tables of Go's library, which the card ties to the program's text; no other condition. -/
import Derived.Test.YtlaifpbickdpkaaGreatDoorH1
import Derived.Test.YtlaifpbickdpkaaGreatDoorSL4
namespace Go.Proofs.YtlaifpbickdpkaaGreatDoor
open Go
theorem scriptPrints_row : Rows.ScriptPrintsSaid := scriptPrints_of (fun a0 g => scriptPrints_law a0 (fun d hd => (g.2.2.2 d hd).1))
theorem scriptPrints_holds : Rows.ScriptPrintsCardSaid :=
  Claim7.holds_tied_plain_at .later [] [.data, .data, .data, .data, .pinned] true (true, "b66e61027921d82359b28599a670f9b33da5f6cd78f3f01ba010730809de4476") false
    scriptPrints_row (fun _ h => by cases h) (by kernel_rfl) (fun _ h => by cases h) scriptPrints_row_tie rfl ⟨rfl, rfl⟩ (by kernel_rfl) rfl
    (fun f fn hf hfn => by
      obtain rfl : f = 3 := Option.some.inj ((show Tryz.prog.funcNamed "consignor/consignorlaw20.ScriptPrints" = some 3 by kernel_rfl).symm.trans hf) |>.symm
      obtain rfl : fn = Tryz.f3 := (Option.some.inj (Tryz.func3.symm.trans hfn)).symm
      exact ⟨by kernel_rfl, fun j t ht => by
        rw [Tryz.params3] at ht
        have h3 : t = 24 := by
          rcases j with _ | j
          · exact (by simpa using ht.symm)
          · simp at ht
        subst h3
        · exact (show Tryz.prog.wantsStandIn 24 = false by kernel_rfl)⟩)
    (by kernel_rfl)
end Go.Proofs.YtlaifpbickdpkaaGreatDoor
#print axioms Go.Proofs.YtlaifpbickdpkaaGreatDoor.scriptPrints_holds
