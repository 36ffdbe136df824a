/- SLf: a fresh ledger, of so many sectors as may be, opens: the kernel reckons it (own work). -/
import Derived.Test.YtlaifpbickdpkaaGreatDoorT2
namespace Go.Proofs.YtlaifpbickdpkaaGreatDoor
theorem fmt_all (k : Nat) (hk : k = 20000 ∨ k = 19999) : ((List.range 61).all fun i => (ledger_Format.f k ((i : Int) + 4)).map (·.2) == some 0) = true := by
  rcases hk with rfl | rfl <;> kernel_rfl
end Go.Proofs.YtlaifpbickdpkaaGreatDoor
