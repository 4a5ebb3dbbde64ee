/- Evaluated calls: the proofs, part 2. -/
import Derived.KernelRfl
import Derived.Test.YtjacmplknlploaaGreatDoorW28
set_option linter.all false
namespace Go.Am
theorem p10 : d10.ok E0 := Done.ok_of_run (n := 5000) (depOk_of rfl) (by kernel_rfl)
theorem p11 : d11.ok E0 := Done.ok_of_run (n := 5000) (depOk_of rfl) (by kernel_rfl)
end Go.Am
