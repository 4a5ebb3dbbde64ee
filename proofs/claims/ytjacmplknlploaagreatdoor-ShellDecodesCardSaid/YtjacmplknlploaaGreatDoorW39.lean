/- The closed facts of Sd, part b. -/
import Derived.Test.YtjacmplknlploaaGreatDoorRows
import Derived.JoinedOf
import Derived.KernelRfl
set_option linter.all false
namespace Go.Proofs.YtjacmplknlploaaGreatDoor
open Go
theorem Sd_fact9 : ((Rows.shellDecodesRow.inPlace == Tryz.prog.inPlace 4)) = true := by kernel_rfl
end Go.Proofs.YtjacmplknlploaaGreatDoor
