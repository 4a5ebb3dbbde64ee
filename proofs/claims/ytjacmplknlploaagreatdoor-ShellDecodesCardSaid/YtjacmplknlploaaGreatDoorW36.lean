/- The whole of known. -/
import Derived.Test.YtjacmplknlploaaGreatDoorW29
import Derived.Test.YtjacmplknlploaaGreatDoorW30
import Derived.Test.YtjacmplknlploaaGreatDoorW31
import Derived.Test.YtjacmplknlploaaGreatDoorW32
import Derived.Test.YtjacmplknlploaaGreatDoorW33
import Derived.Test.YtjacmplknlploaaGreatDoorW34
import Derived.Test.YtjacmplknlploaaGreatDoorW35
set_option linter.all false
namespace Go.Am
def mb : List Done := [d0, d1, d2, d3, d4, d5, d6, d7, d8, d9, d10, d11, d12, d13, d14, d15, d16, d17, d18]
theorem mb_ok : AllOk mb := (AllOk.cons E0_ok p0 (AllOk.cons E0_ok p1 (AllOk.cons E0_ok p2 (AllOk.cons E0_ok p3 (AllOk.cons E0_ok p4 (AllOk.cons E0_ok p5 (AllOk.cons E0_ok p6 (AllOk.cons E0_ok p7 (AllOk.cons E0_ok p8 (AllOk.cons E0_ok p9 (AllOk.cons E0_ok p10 (AllOk.cons E0_ok p11 (AllOk.cons E0_ok p12 (AllOk.cons E0_ok p13 (AllOk.cons E0_ok p14 (AllOk.cons E0_ok p15 (AllOk.cons E0_ok p16 (AllOk.cons E0_ok p17 (AllOk.cons E0_ok p18 AllOk.nil)))))))))))))))))))
theorem p19 : d19.ok (memoE mb) := Done.ok_of_run (n := 5000) memo_dep (by kernel_rfl)
def mk : List Done := [d19, d20, d21, d22, d23, d24]
theorem mk_ok : AllOk mk := (AllOk.cons (memo_ok mb_ok) p19 (AllOk.cons E0_ok p20 (AllOk.cons E0_ok p21 (AllOk.cons E0_ok p22 (AllOk.cons E0_ok p23 (AllOk.cons E0_ok p24 AllOk.nil))))))
def isTrue : Option (AV × St) → Bool
  | some (v, _) => AV.eqb v (.bool true)
  | none => false
theorem known_true : isTrue (evCallT (memoE mk) (evT (memoE mk) 5000) 9 [] y0) = true := by kernel_rfl
/-- known() comes to true. -/
theorem known_calls : ∃ s', CallsTo (memoE mk) 9 [] y0 (.bool true) s' := by
  have h := known_true
  generalize hr : evCallT (memoE mk) (evT (memoE mk) 5000) 9 [] y0 = r at h
  cases r with
  | none => cases h
  | some p =>
    obtain ⟨v, s⟩ := p
    exact ⟨s, AV.eqb_sound h ▸ callsTo_of_fast memo_dep hr⟩

end Go.Am
