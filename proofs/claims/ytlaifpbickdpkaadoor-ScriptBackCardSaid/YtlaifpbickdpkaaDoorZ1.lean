/- ScriptBack is proved as stated, as a tied card: whatever comes in, the law answers true, and what came in reads as it did; the row lists tables of Go's library, which the card ties to the program's text; no other condition. -/
import Derived.Test.YtlaifpbickdpkaaDoorH1
import Derived.Test.YtlaifpbickdpkaaDoorSB1
namespace Go.Proofs.YtlaifpbickdpkaaDoor
open Go
theorem scriptBack_row : Rows.ScriptBackSaid := scriptBack_of (fun a0 a1 g0 _ => scriptBack_law a0 a1 (fun d hd => (g0.2.2.2 d hd).1))
theorem scriptBack_holds : Rows.ScriptBackCardSaid :=
  Claim7.holds_tied_plain_at .later [] [.data, .pinned] true (true, "0b5d1d99e4e66973415b9344def6fce5765373eeaba4df301b2de436aecdf965") false
    scriptBack_row (fun _ h => by cases h) (by kernel_rfl) (fun _ h => by cases h) scriptBack_row_tie rfl ⟨rfl, rfl⟩ (by kernel_rfl) rfl
    (fun f fn hf hfn => by
      obtain rfl : f = 3 := Option.some.inj ((show Tryd.prog.funcNamed "consignor/consignorlaw20.ScriptBack" = some 3 by kernel_rfl).symm.trans hf) |>.symm
      obtain rfl : fn = Tryd.f3 := (Option.some.inj (Tryd.func3.symm.trans hfn)).symm
      exact ⟨by kernel_rfl, fun j t ht => by
        rw [Tryd.params3] at ht
        have h3 : t = 24 ∨ t = 9 := by
          rcases j with _ | _ | j
          · exact (.inl (by simpa using ht.symm))
          · exact (.inr (by simpa using ht.symm))
          · simp at ht
        rcases h3 with rfl | rfl
        · exact (show Tryd.prog.wantsStandIn 24 = false by kernel_rfl)
        · exact (show Tryd.prog.wantsStandIn 9 = false by kernel_rfl)⟩)
    (by kernel_rfl)
end Go.Proofs.YtlaifpbickdpkaaDoor
#print axioms Go.Proofs.YtlaifpbickdpkaaDoor.scriptBack_holds
