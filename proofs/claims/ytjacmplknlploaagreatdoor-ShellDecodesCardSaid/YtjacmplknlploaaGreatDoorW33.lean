/- Evaluated calls: the proofs, part 4. -/
import Derived.KernelRfl
import Derived.Test.YtjacmplknlploaaGreatDoorW28
set_option linter.all false
namespace Go.Am
theorem p15 : d15.ok E0 := Done.ok_of_run (n := 5000) (depOk_of rfl) (by kernel_rfl)
theorem p16 : d16.ok E0 := Done.ok_of_run (n := 5000) (depOk_of rfl) (by kernel_rfl)
theorem p17 : d17.ok E0 := Done.ok_of_run (n := 5000) (depOk_of rfl) (by kernel_rfl)
theorem p18 : d18.ok E0 := Done.ok_of_run (n := 5000) (depOk_of rfl) (by kernel_rfl)
theorem p20 : d20.ok E0 := Done.ok_of_run (n := 5000) (depOk_of rfl) (by kernel_rfl)
end Go.Am
