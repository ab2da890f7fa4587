/- A plan looked at twice. -/
import Derived.Test.YtgkfjhfehdefaaaGreatDoorPlY
import Derived.Test.YtgkfjhfehdefaaaGreatDoorPlN
namespace Go.Proofs.YtgkfjhfehdefaaaGreatDoor.W
open Go.Proofs.YtgkfjhfehdefaaaGreatDoor.Flat
set_option linter.unusedVariables false
set_option linter.unusedSimpArgs false
theorem Pure.PlanChecks : ∀ (x0 : List GStep) (x1 : Int), wts [.sl false 14 (GStep.ts x0), .v (.int .i64 x1)] ≤ 1048576 → (Lit.int .i64 x1).wf = true → ∃ n, (tab n).law12_PlanChecks x0 x1 = some true := by
  intro a op hw _
  simp only [wts, T.wt, GStep.ts_map] at hw
  have hl : wL a ≤ 1048576 := by unfold wL; omega
  obtain ⟨r1, e1⟩ := muchL_ev (l := a) (by omega)
  have c1 := Check_ev (l := a) (by omega)
  have c2 := refPCheck_ev (l := a) (by omega)
  have s1 := Steps_ev (l := a) (by omega)
  have s2 := refSteps_ev (l := a) (by omega)
  have n1 := Nest_ev (l := a) (by omega)
  have n2 := refNest_ev (l := a) (by omega)
  have f1 := Free_ev (l := a) (by omega)
  have f2 := refFree_ev (l := a) (by omega)
  have m1 : Ev fun n => (tab n).plan_Name op = some (nmF op) := Ev.step (Ev.pure fun n => by rw [tab_plan_Name, name_at])
  have m2 := rName_ev op
  refine Ev.out (Ev.step ((((e1.and knownL_ev).and ((c1.and c2).and (s1.and s2))).and (((n1.and n2).and (f1.and f2)).and (m1.and m2))).mono fun n hh => ?_))
  obtain ⟨⟨⟨e1, hk⟩, ⟨c1, c2⟩, s1, s2⟩, ⟨⟨n1, n2⟩, f1, f2⟩, m1, m2⟩ := hh
  rw [tab_law12_PlanChecks]
  simp only [law12_PlanChecks, e1, hk, c1, c2, s1, s2, n1, n2, f1, f2, m1, m2]
  cases r1 <;> simp
end Go.Proofs.YtgkfjhfehdefaaaGreatDoor.W
