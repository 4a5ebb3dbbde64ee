/- The closed facts of Sd, together. -/
import Derived.Test.YtjacmplknlploaaGreatDoorW38
import Derived.Test.YtjacmplknlploaaGreatDoorW39
import Derived.Test.YtjacmplknlploaaGreatDoorW40
import Derived.Test.YtjacmplknlploaaGreatDoorW41
import Derived.Test.YtjacmplknlploaaGreatDoorW42
import Derived.Test.YtjacmplknlploaaGreatDoorW43
import GoSem.ClaimSeven
set_option linter.all false
namespace Go.Proofs.YtjacmplknlploaaGreatDoor
open Go
theorem bt {a b : Bool} (h : a = true) (h2 : b = true) : (a && b) = true := by rw [h, h2]; rfl
set_option maxRecDepth 100000 in
theorem Sd_closed : joinedFacts Tryz.prog 4 Tryz.f4 Rows.shellDecodesSpec Rows.shellDecodesRow = true := by
  unfold joinedFacts
  exact (bt (bt (bt (bt (bt (bt (bt (bt (bt (bt (bt (bt (bt (bt (bt (bt (bt (bt (bt (bt (bt (bt (bt (bt (bt (bt (bt (bt (bt (bt (bt Sd_fact0 Sd_fact1) Sd_fact2) Sd_fact3) Sd_fact4) Sd_fact5) Sd_fact6) Sd_fact7) Sd_fact8) Sd_fact9) Sd_fact10) Sd_fact11) Sd_fact12) Sd_fact13) Sd_fact14) Sd_fact15) Sd_fact16) Sd_fact17) Sd_fact18) Sd_fact19) Sd_fact20) Sd_fact21) Sd_fact22) Sd_fact23) Sd_fact24) Sd_fact25) Sd_fact26) Sd_fact27) Sd_fact28) Sd_fact29) Sd_fact30) Sd_fact31)
theorem no_goes : (Tryz.prog.funcs.any Func.goes) = false := by kernel_rfl
theorem goes_none (f : FuncId) : Tryz.prog.goes f = false := by
  unfold Program.goes
  rw [no_goes, Bool.and_false, Bool.or_false, List.any_eq_false]
  intro g _
  cases h : Tryz.prog.funcs[g]? with
  | none => simp
  | some fn =>
    have := no_goes
    rw [Array.any_eq_false] at this
    obtain ⟨hlt, he⟩ := Array.getElem?_eq_some_iff.1 h
    have := this g hlt
    rw [he] at this
    simpa using this
end Go.Proofs.YtjacmplknlploaaGreatDoor
