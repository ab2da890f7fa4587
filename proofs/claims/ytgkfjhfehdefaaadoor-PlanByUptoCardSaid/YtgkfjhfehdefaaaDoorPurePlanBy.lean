/- A plan by which something is ordered, or grouped. -/
import Derived.Test.YtgkfjhfehdefaaaDoorPlI
import Derived.Test.YtgkfjhfehdefaaaDoorPlS
namespace Go.Proofs.YtgkfjhfehdefaaaDoor.W
open Go.Proofs.YtgkfjhfehdefaaaDoor.Flat
set_option linter.unusedVariables false
set_option linter.unusedSimpArgs false
theorem Pure.PlanBy : ∀ (x0 : List GStep) (x1 : Bool) (x2 : Int), wts [.sl false 14 (GStep.ts x0), .v (.bool x1), .v (.int .i64 x2)] ≤ 1048576 → (Lit.int .i64 x2).wf = true → ∃ n, (tab n).law12_PlanBy x0 x1 x2 = some true := by
  intro a d op hw _
  simp only [wts, T.wt, GStep.ts_map] at hw
  have hl : wL a ≤ 1048576 := by unfold wL; omega
  have hla := wL_len a
  have hx := wb_wt 40 3 d a
  have hy := wb_wt 41 3 d a
  obtain ⟨r1, e1⟩ := muchL_ev (l := a) (by omega)
  have c1 := Check_ev (l := a) (by omega)
  have c3 := Check_ev (l := [wh 40 [] [.mk 3 ByteArray.empty a d]]) (by omega)
  have c4 := Check_ev (l := [wh 41 [] [.mk 3 ByteArray.empty a d]]) (by omega)
  have s1 := Steps_ev (l := a) (by omega)
  have s4 := Steps_ev (l := [wh 40 [] [.mk 3 ByteArray.empty a d]]) (by omega)
  have rs := refSteps_ev (l := a) (by omega)
  have rn := refNest_ev (l := a) (by omega)
  have u1 := planUsesP (ops := [op]) (l := a) (by simp) (by omega)
  have u4 := planUsesP (ops := [op]) (l := [wh 40 [] [.mk 3 ByteArray.empty a d]]) (by simp) (by omega)
  have f1 := Free_ev (l := a) (by omega)
  have f2 := Free_ev (l := [wh 41 [] [.mk 3 ByteArray.empty a d]]) (by omega)
  have m1 := Same_ev (a := [wh 40 [] [.mk 3 ByteArray.empty a d]]) (b := [wh 40 [] [.mk 3 ByteArray.empty a d]]) (by omega) (by omega)
  have m2 := Same_ev (a := [wh 40 [] [.mk 3 ByteArray.empty a d]]) (b := [wh 41 [] [.mk 3 ByteArray.empty a d]]) (by omega) (by omega)
  refine Ev.out (Ev.step ((((e1.and (knownL_ev.and c1)).and ((c3.and c4).and (s1.and s4))).and (((rs.and rn).and (u1.and u4)).and ((f1.and f2).and (m1.and m2)))).mono fun n hh => ?_))
  obtain ⟨⟨⟨e1, hk, c1⟩, ⟨c3, c4⟩, s1, s4⟩, ⟨⟨rs, rn⟩, u1, u4⟩, ⟨f1, f2⟩, m1, m2⟩ := hh
  rw [tab_law12_PlanBy]
  simp only [law12_PlanBy, e1, hk, c1, ifn]
  cases r1 with
  | true => simp
  | false =>
  by_cases ha : okL2 a = true
  case neg => simp [ha]
  obtain ⟨p1, p2, p3, p4, p5, p6, p7⟩ := ok_facts ha
  simp only [ha, Bool.not_true, Bool.false_eq_true, if_false, rs]
  by_cases h390 : stepsC a > 390
  · rw [if_pos (by simpa using h390)]
  rw [if_neg (by simpa using h390)]
  have k3 := ok_one ha (inn_wb 40 d a) (d := true) (by rw [step_wb (.inl rfl)]; cases d <;> rfl)
  have k4 := ok_one ha (inn_wb 41 d a) (d := !d) (by rw [step_wb (.inr rfl)]; cases d <;> rfl)
  have h4 : 1 + cntN 12 a ≤ 400 := by omega
  have u4' : someP (usesQ [op]) [wh 40 [] [.mk 3 ByteArray.empty a d]] = ((40 : Int) == op || someP (usesQ [op]) a) := uses_one (inn_wb 40 d a) rfl (by omega)
  have f2' : freeF [wh 41 [] [.mk 3 ByteArray.empty a d]] = freeF a := free_one (inn_wb 41 d a) (.inr (.inr rfl)) rfl (by omega)
  have m2' : samePl [wh 40 [] [.mk 3 ByteArray.empty a d]] [wh 41 [] [.mk 3 ByteArray.empty a d]] = false := rfl
  rw [same_self] at m1
  rw [m2'] at m2
  rw [u4'] at u4
  rw [f2'] at f2
  rw [k3] at c3
  rw [k4] at c4
  have g2 := cnt_one (inn_wb 40 d a) 11
  have hs : stepsC [wh 40 [] [.mk 3 ByteArray.empty a d]] = IntKind.wrap .i64 (stepsC a + 1) := by
    rw [p6, wr (by omega) (by omega)]
    unfold stepsC
    rw [g2, p4]
    push_cast
    omega
  rw [hs] at s4
  simp only [wh] at c3 c4 s4 u4 f2 m1 m2
  have e40 : ((40 : Int) == op) = (op == 40) := by rw [Bool.eq_iff_iff, beq_iff_eq, beq_iff_eq]; omega
  have j2 : law12_PlanBy_j2 (tab n) n a op [GStep.mk 40 [] [] (GValue.mk 0 0 ByteArray.empty [] []) (GPred.mk 0 [] []) [] [GBy.mk 3 ByteArray.empty a d] []] [GStep.mk 41 [] [] (GValue.mk 0 0 ByteArray.empty [] []) (GPred.mk 0 [] []) [] [GBy.mk 3 ByteArray.empty a d] []] = some true := by
    simp only [law12_PlanBy_j2, s4, s1, u1, u4, f1, f2, m1, m2, hk, e40, beq_self_eq_true, if_true, Bool.false_eq_true, if_false]
    cases someP (usesQ [op]) a <;> cases (op == 40) <;> rfl
  have e10 : (decide (((nn 12 a : Nat) : Int) ≤ 10)) = decide (nn 12 a ≤ 10) := by rw [Bool.eq_iff_iff, decide_eq_true_eq, decide_eq_true_eq]; omega
  have h4' : decide (1 + cntN 12 a ≤ 400) = true := by simpa using h4
  rw [h4'] at c3 c4
  simp only [law12_PlanBy_j1, rn, c3, c4, e10, ifb, j2, Bool.true_and, Bool.and_true]
  cases decide (nn 12 a ≤ 10) <;> cases d <;> rfl
end Go.Proofs.YtgkfjhfehdefaaaDoor.W
