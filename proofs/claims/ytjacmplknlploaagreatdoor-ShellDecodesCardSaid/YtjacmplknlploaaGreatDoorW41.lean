/- The closed facts of Sd, part d. -/
import Derived.Test.YtjacmplknlploaaGreatDoorRows
import Derived.JoinedOf
import Derived.KernelRfl
set_option linter.all false
namespace Go.Proofs.YtjacmplknlploaaGreatDoor
open Go
theorem Sd_fact11 : ((Rows.shellDecodesRow.recurses == Tryz.prog.recurses 4)) = true := by kernel_rfl
end Go.Proofs.YtjacmplknlploaaGreatDoor
