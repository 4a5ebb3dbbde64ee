/- Evaluated calls: the proofs, part 0. -/
import Derived.KernelRfl
import Derived.Test.YtjacmplknlploaaGreatDoorW28
set_option linter.all false
namespace Go.Am
theorem p0 : d0.ok E0 := Done.ok_of_run (n := 5000) (depOk_of rfl) (by kernel_rfl)
theorem p1 : d1.ok E0 := Done.ok_of_run (n := 5000) (depOk_of rfl) (by kernel_rfl)
theorem p2 : d2.ok E0 := Done.ok_of_run (n := 5000) (depOk_of rfl) (by kernel_rfl)
theorem p3 : d3.ok E0 := Done.ok_of_run (n := 5000) (depOk_of rfl) (by kernel_rfl)
theorem p4 : d4.ok E0 := Done.ok_of_run (n := 5000) (depOk_of rfl) (by kernel_rfl)
theorem p5 : d5.ok E0 := Done.ok_of_run (n := 5000) (depOk_of rfl) (by kernel_rfl)
end Go.Am
