/- Of any predicate. -/
import Derived.Test.YtcgckbjdadmcmaaPureG
namespace Go.Proofs.Ytcgckbjdadmcmaa.W
open Go.Proofs.Ytcgckbjdadmcmaa.Flat
set_option linter.unusedVariables false
set_option linter.unusedSimpArgs false
theorem Pure.PredTests : ∀ (x0 : GPred) (x1 : GValue), GPred.In x0 → GValue.In x1 → ∃ n, (tab n).law09_PredTests x0 x1 = some true := by
  intro a x ha hx
  have ha := GPred.pin a ha
  have hx := GValue.vin x hx
  obtain ⟨r, e⟩ := much_all (l := [x]) ha (by simp; exact hx) (by simp)
  refine Ev.out (Ev.step (((e.and known_ev).and ((predCheck_ev ha).and ((ref9Check_ev ha).and ((predTest_ev ha hx).and (ref9Test_ev ha hx))))).mono fun n hh => ?_))
  obtain ⟨⟨h1, h2⟩, h3, h4, h5, h6⟩ := hh
  rw [tab_law09_PredTests]
  cases a
  cases x
  simp only [law09_PredTests, h1, h2, h3, h4, h5, h6, beq_self_eq_true, if_pos]
  split <;> rfl
end Go.Proofs.Ytcgckbjdadmcmaa.W
