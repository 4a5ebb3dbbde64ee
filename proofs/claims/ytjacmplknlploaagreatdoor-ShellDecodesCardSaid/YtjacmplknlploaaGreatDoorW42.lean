/- The closed facts of Sd, part e. -/
import Derived.Test.YtjacmplknlploaaGreatDoorRows
import Derived.JoinedOf
import Derived.KernelRfl
set_option linter.all false
namespace Go.Proofs.YtjacmplknlploaaGreatDoor
open Go
theorem Sd_fact12 : ((Rows.shellDecodesRow.named == Tryz.prog.varsNamed 4)) = true := by kernel_rfl
end Go.Proofs.YtjacmplknlploaaGreatDoor
