/- Evaluated calls: the proofs, part 6. -/
import Derived.KernelRfl
import Derived.Test.YtjacmplknlploaaGreatDoorW28
set_option linter.all false
namespace Go.Am
theorem p23 : d23.ok E0 := Done.ok_of_run (n := 5000) (depOk_of rfl) (by kernel_rfl)
theorem p24 : d24.ok E0 := Done.ok_of_run (n := 5000) (depOk_of rfl) (by kernel_rfl)
end Go.Am
