/- Evaluated calls: the proofs, part 3. -/
import Derived.KernelRfl
import Derived.Test.YtjacmplknlploaaGreatDoorW28
set_option linter.all false
namespace Go.Am
theorem p12 : d12.ok E0 := Done.ok_of_run (n := 5000) (depOk_of rfl) (by kernel_rfl)
theorem p13 : d13.ok E0 := Done.ok_of_run (n := 5000) (depOk_of rfl) (by kernel_rfl)
theorem p14 : d14.ok E0 := Done.ok_of_run (n := 5000) (depOk_of rfl) (by kernel_rfl)
end Go.Am
