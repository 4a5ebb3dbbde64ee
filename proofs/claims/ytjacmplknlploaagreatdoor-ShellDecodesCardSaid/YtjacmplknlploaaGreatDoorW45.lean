/- ShellDecodes: the given statement and its tied card. -/
import Derived.Test.YtjacmplknlploaaGreatDoorW37
import Derived.Test.YtjacmplknlploaaGreatDoorW44
set_option linter.all false
namespace Go.Proofs.YtjacmplknlploaaGreatDoor
open Go

theorem shellDecodes_said : Rows.ShellDecodesSaid :=
  OpenClaim.holds_of_wide 4 Tryz.f4 rfl rfl rfl rfl rfl rfl rfl ⟨rfl, rfl, rfl, rfl, rfl⟩ rfl rfl rfl rfl rfl (by kernel_rfl) Tryz.func4 Sd_closed
    (of_decide_eq_true (by kernel_rfl)) (by unfold Func.isWrapper; first | (rw [if_pos (by decide +kernel)]; kernel_rfl) | (rw [if_neg (by decide +kernel)]; exact ⟨rfl, rfl⟩))
    (fun os started H enc _ => lifted os started H enc)

theorem plainSd (f : FuncId) (fn : Func) (hf : Tryz.pinned.checked.prog.funcNamed "replevin/replevinlaw42.ShellDecodes" = some f) (hfn : Tryz.pinned.checked.prog.funcs[f]? = some fn) :
    false = Tryz.pinned.checked.prog.looks [] ∧ ∀ (j : Nat) t, fn.params[j]? = some t → Tryz.pinned.checked.prog.wantsStandIn t = false := by
  obtain rfl : f = 4 := Option.some.inj ((show Tryz.prog.funcNamed "replevin/replevinlaw42.ShellDecodes" = some 4 by kernel_rfl).symm.trans hf) |>.symm
  obtain rfl : fn = Tryz.f4 := (Option.some.inj (Tryz.func4.symm.trans hfn)).symm
  refine ⟨by kernel_rfl, fun j t ht => ?_⟩
  rw [Tryz.params4] at ht
  obtain rfl : t = 9 := by simpa using Array.mem_of_getElem? ht
  exact (show Tryz.prog.wantsStandIn 9 = false by kernel_rfl)

theorem goesFrom_none {P : Program} (h : ∀ f, P.goes f = false) (n : String) : P.goesFrom n = false := by
  unfold Program.goesFrom
  cases P.funcNamed n with
  | none => rfl
  | some f => exact h f
theorem goesAt_none {P : Program} {st : Start} {n : String} (h : ∀ f, P.goes f = false) (h2 : st = .entering) : P.goesAt st n = false := by
  subst h2
  unfold Program.goesAt
  rw [goesFrom_none h]; rfl
theorem goesRow_none {P : Program} (h : ∀ f, P.goes f = false) (c : OpenClaim) (h2 : c.start = .entering) : false = c.goesBy P := (goesAt_none h h2).symm

theorem shellDecodes_card : Rows.ShellDecodesCardSaid :=
  Claim7.holds_tied_plain_at .later [] _ _ _ _ shellDecodes_said (fun _ h => by cases h) (by kernel_rfl) (fun _ h => by cases h) shellDecodes_row_tie rfl ⟨rfl, rfl⟩ (by kernel_rfl) rfl plainSd (goesRow_none goes_none _ rfl)
end Go.Proofs.YtjacmplknlploaaGreatDoor
