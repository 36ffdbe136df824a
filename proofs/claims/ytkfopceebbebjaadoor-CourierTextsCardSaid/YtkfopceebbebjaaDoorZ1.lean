/- CourierTexts is proved as stated, as a tied card: whatever the ask, the answer and the text, the law answers true, and what came in reads as it did; the row lists one package variable of Go's library (errors.errorType), which the card ties to the program's text; no other condition. -/
import Derived.Test.YtkfopceebbebjaaDoorH1
import Derived.Test.YtkfopceebbebjaaDoorL4
namespace Go.Proofs.YtkfopceebbebjaaDoor
open Go
theorem courierTexts_row : Rows.CourierTextsSaid := courierTexts_of (fun a0 a1 a2 _ _ _ => courierTexts_law a0 a1 a2)
theorem courierTexts_holds : Rows.CourierTextsCardSaid :=
  Claim7.holds_tied_plain_at .later [] [.handle] true (true, "ef3ec18cb1a588762eb78cf46f557161174c34b1d76553b45a3a43ce872598a4") true
    courierTexts_row (fun _ h => by cases h) (by kernel_rfl) (fun _ h => by cases h) courierTexts_row_tie rfl ⟨rfl, rfl⟩ (by kernel_rfl) rfl
    (fun f fn hf hfn => by
      obtain rfl : f = 3 := Option.some.inj ((show Tryd.prog.funcNamed "consignor/consignorlaw21.CourierTexts" = some 3 by kernel_rfl).symm.trans hf) |>.symm
      obtain rfl : fn = Tryd.f3 := (Option.some.inj (Tryd.func3.symm.trans hfn)).symm
      exact ⟨by kernel_rfl, fun j t ht => by
        rw [Tryd.params3] at ht
        have h3 : t = 23 ∨ t = 26 ∨ t = 9 := by
          rcases j with _ | _ | _ | j
          · exact .inl (by simpa using ht.symm)
          · exact .inr (.inl (by simpa using ht.symm))
          · exact .inr (.inr (by simpa using ht.symm))
          · simp at ht
        rcases h3 with rfl | rfl | rfl
        · exact (show Tryd.prog.wantsStandIn 23 = false by kernel_rfl)
        · exact (show Tryd.prog.wantsStandIn 26 = false by kernel_rfl)
        · exact (show Tryd.prog.wantsStandIn 9 = false by kernel_rfl)⟩)
    (by kernel_rfl)
end Go.Proofs.YtkfopceebbebjaaDoor
#print axioms Go.Proofs.YtkfopceebbebjaaDoor.courierTexts_holds
