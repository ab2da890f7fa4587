/- Does a plan use some: the program says what the reference says; with more of them no less. -/
import Derived.Test.YtgkfjhfehdefaaaDoorPlC
namespace Go.Proofs.YtgkfjhfehdefaaaDoor.W
open Go.Proofs.YtgkfjhfehdefaaaDoor.Flat
set_option linter.unusedVariables false
set_option linter.unusedSimpArgs false
theorem planUsesP {ops : List Int} {l : List GStep} (ho : ops.length ≤ 4194304) (h : wL l ≤ 2097152) : Ev fun n => (tab n).plan_Uses l ops = some (someP (usesQ ops) l) :=
  Ev.step ((planUses_ev ho 2097152 l h (Nat.le_refl _)).mono fun n hn => by rw [tab_plan_Uses, plan_Uses, hn, someF_eq h (by omega)])
theorem planUsesP2 {ops : List Int} {l : List GStep} (ho : ops.length ≤ 4194304) (h : wL l ≤ 2097152) : Ev fun n => (tab n).plan_Uses_i2 l ops = some (someP (usesQ ops) l) :=
  Ev.step ((planUses_ev ho 2097152 l h (Nat.le_refl _)).mono fun n hn => by rw [tab_plan_Uses_i2, plan_Uses_i2, hn, someF_eq h (by omega)])
theorem refUsesP {ops : List Int} {l : List GStep} (ho : ops.length ≤ 4194304) (h : wL l ≤ 2097152) : Ev fun n => (tab n).ref12_Uses l ops = some (someP (usesQ ops) l) :=
  (refUses_ev ho 2097152 l h (Nat.le_refl _)).mono fun n hn => by rw [hn, someF_eq (by omega) (by omega)]
theorem Pure.PlanUses : ∀ (x0 : List GStep) (x1 : List Int) (x2 : Int), wts [.sl false 14 (GStep.ts x0), .sl false 1 (ints_i64 x1), .v (.int .i64 x2)] ≤ 1048576 → (Lit.int .i64 x2).wf = true → ∃ n, (tab n).law12_PlanUses x0 x1 x2 = some true := by
  intro l ops m hw hm
  simp only [wts, T.wt, GStep.ts_map, ints_i64_map] at hw
  have hl : wL l ≤ 1048576 := by unfold wL; omega
  have ho := wts_mlen (f := fun x => T.v (.int .i64 x)) ops
  obtain ⟨r, hr⟩ := muchL_ev (l := l) (by omega)
  have e1 := planUsesP (ops := ops) (l := l) (by omega) (by omega)
  have e2 := refUsesP (ops := ops) (l := l) (by omega) (by omega)
  have e3 := planUsesP (ops := ([] ++ ops) ++ [m]) (l := l) (by simp; omega) (by omega)
  have e4 := planUsesP (ops := [m]) (l := l) (by simp) (by omega)
  have e5 := planUsesP2 (ops := []) (l := l) (by simp) (by omega)
  refine Ev.out (Ev.step (((hr.and knownL_ev).and ((e1.and e2).and (e3.and (e4.and e5)))).mono fun n hh => ?_))
  obtain ⟨⟨h1, h2⟩, ⟨g1, g2⟩, g3, g4, g5⟩ := hh
  rw [tab_law12_PlanUses]
  have e0 : someP (usesQ []) l = false := someP_no l
  have ea : someP (usesQ (([] ++ ops) ++ [m])) l = (someP (usesQ ops) l || someP (usesQ [m]) l) := by rw [List.nil_append, usesQ_app]
  rw [e0] at g5
  rw [ea] at g3
  simp only [law12_PlanUses, h1, h2]
  cases r with
  | true => rfl
  | false =>
    rw [if_neg (by simp)]
    split
    · rfl
    · simp only [law12_PlanUses_j1, g1, g2, g3, g4, g5, h2]
      rw [if_pos (by simp; omega), if_pos (by simp; omega)]
      cases someP (usesQ ops) l <;> cases someP (usesQ [m]) l <;> rfl
end Go.Proofs.YtgkfjhfehdefaaaDoor.W
