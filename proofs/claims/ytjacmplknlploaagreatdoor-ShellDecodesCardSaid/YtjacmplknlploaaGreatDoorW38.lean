/- The closed facts of Sd, part a. -/
import Derived.Test.YtjacmplknlploaaGreatDoorRows
import Derived.JoinedOf
import Derived.KernelRfl
set_option linter.all false
namespace Go.Proofs.YtjacmplknlploaaGreatDoor
open Go
theorem Sd_fact1 : (laidOutB Tryz.prog) = true := by kernel_rfl
end Go.Proofs.YtjacmplknlploaaGreatDoor
