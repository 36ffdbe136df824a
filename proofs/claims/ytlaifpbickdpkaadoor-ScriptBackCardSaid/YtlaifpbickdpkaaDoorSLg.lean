/- SLg: a fresh ledger, of so many sectors as may be, opens; the law's own look at a plan without deeds: the kernel reckons both, whatever fuel there is beyond 3000 (own work). -/
import Derived.Test.YtlaifpbickdpkaaDoorT3
namespace Go.Proofs.YtlaifpbickdpkaaDoor
theorem fmt_all (n : Nat) : ((List.range 61).all fun i => (ledger_Format.f (n + 3000) ((i : Int) + 4)).map (·.2) == some 0) = true := by kernel_rfl
theorem alive_all (n : Nat) : consignorlaw20_alive.f (n + 3000) = some true := by kernel_rfl
end Go.Proofs.YtlaifpbickdpkaaDoor
