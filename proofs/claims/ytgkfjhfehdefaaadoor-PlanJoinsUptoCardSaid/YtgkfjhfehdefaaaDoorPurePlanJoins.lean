/- Two plans, one behind the other; a plan in a step. -/
import Derived.Test.YtgkfjhfehdefaaaDoorPlH
namespace Go.Proofs.YtgkfjhfehdefaaaDoor.W
open Go.Proofs.YtgkfjhfehdefaaaDoor.Flat
set_option linter.unusedVariables false
set_option linter.unusedSimpArgs false
theorem Pure.PlanJoins : ∀ (x0 : List GStep) (x1 : List GStep) (x2 : Int), wts [.sl false 14 (GStep.ts x0), .sl false 14 (GStep.ts x1), .v (.int .i64 x2)] ≤ 1048576 → (Lit.int .i64 x2).wf = true → ∃ n, (tab n).law12_PlanJoins x0 x1 x2 = some true := by
  intro a b op hw _
  simp only [wts, T.wt, GStep.ts_map] at hw
  have hl : wL a + wL b ≤ 1048576 := by unfold wL; omega
  have hla := wL_len a
  have hlb := wL_len b
  have hx := wh_wt 28 a
  have hab := wL_app a b
  obtain ⟨r1, e1⟩ := muchL_ev (l := a) (by omega)
  obtain ⟨r2, e2⟩ := muchL_ev (l := b) (by omega)
  have c1 := Check_ev (l := a) (by omega)
  have c2 := Check_ev (l := b) (by omega)
  have c3 := Check_ev (l := a ++ b) (by omega)
  have c4 := Check_ev (l := [wh 28 [a] []]) (by omega)
  have s1 := Steps_ev (l := a) (by omega)
  have s2 := Steps_ev (l := b) (by omega)
  have s3 := Steps_ev (l := a ++ b) (by omega)
  have s4 := Steps_ev (l := [wh 28 [a] []]) (by omega)
  have n1 := Nest_ev (l := a) (by omega)
  have n2 := Nest_ev (l := b) (by omega)
  have n3 := Nest_ev (l := a ++ b) (by omega)
  have n4 := Nest_ev (l := [wh 28 [a] []]) (by omega)
  have u1 := planUsesP (ops := [op]) (l := a) (by simp) (by omega)
  have u2 := planUsesP (ops := [op]) (l := b) (by simp) (by omega)
  have u3 := planUsesP (ops := [op]) (l := a ++ b) (by simp) (by omega)
  have u4 := planUsesP (ops := [op]) (l := [wh 28 [a] []]) (by simp) (by omega)
  have f1 := Free_ev (l := a) (by omega)
  have f2 := Free_ev (l := b) (by omega)
  have f3 := Free_ev (l := a ++ b) (by omega)
  refine Ev.out (Ev.step (((((e1.and e2).and (knownL_ev.and (c1.and c2))).and ((c3.and c4).and ((s1.and s2).and (s3.and s4)))).and (((n1.and n2).and (n3.and n4)).and (((u1.and u2).and (u3.and u4)).and (f1.and (f2.and f3))))).mono fun n hh => ?_))
  obtain ⟨⟨⟨⟨e1, e2⟩, hk, c1, c2⟩, ⟨c3, c4⟩, ⟨s1, s2⟩, s3, s4⟩, ⟨⟨n1, n2⟩, n3, n4⟩, ⟨⟨u1, u2⟩, u3, u4⟩, f1, f2, f3⟩ := hh
  have el : (([] : List GStep) ++ a) ++ b = a ++ b := rfl
  rw [tab_law12_PlanJoins]
  simp only [law12_PlanJoins, e1, e2, hk, c1, c2, ifn]
  cases r1 with
  | true => simp
  | false =>
  cases r2 with
  | true => simp
  | false =>
  by_cases ha : okL2 a = true
  case neg => simp [ha]
  by_cases hb : okL2 b = true
  case neg => simp [ha, hb]
  obtain ⟨p1, p2, p3, p4, p5, p6, p7⟩ := ok_facts ha
  obtain ⟨q1, q2, q3, q4, q5, q6, q7⟩ := ok_facts hb
  have k3 := ok_app ha hb
  have k4 := ok_one ha (inn_wh 28 a) (d := true) (by rw [step_wh, Bool.true_and])
  have ew : IntKind.wrap .i64 (stepsC a + stepsC b) = ((cntN 12 a + cntN 12 b : Nat) : Int) := by rw [p6, q6, wr (by omega) (by omega)]; push_cast; rfl
  have e40 : (decide (((cntN 12 a + cntN 12 b : Nat) : Int) ≤ 400)) = decide (cntN 12 a + cntN 12 b ≤ 400) := by rw [Bool.eq_iff_iff, decide_eq_true_eq, decide_eq_true_eq]; omega
  have u3' : someP (usesQ [op]) (a ++ b) = (someP (usesQ [op]) a || someP (usesQ [op]) b) := someP_app (by omega)
  have u4' : someP (usesQ [op]) [wh 28 [a] []] = ((28 : Int) == op || someP (usesQ [op]) a) := uses_one (inn_wh 28 a) rfl (by omega)
  have f3' : freeF (a ++ b) = (freeF a && freeF b) := freeF_app (by omega)
  rw [u3'] at u3
  rw [u4'] at u4
  rw [f3'] at f3
  rw [k3] at c3
  rw [k4, Bool.and_true] at c4
  simp only [wh] at c4 s4 n4 u4
  have j4 : law12_PlanJoins_j4 (tab n) n a b op (a ++ b) [GStep.mk 28 [] [] (GValue.mk 0 0 ByteArray.empty [] []) (GPred.mk 0 [] []) [a] [] []] = some true := by
    have e28 : ((28 : Int) == op) = (op == 28) := by rw [Bool.eq_iff_iff, beq_iff_eq, beq_iff_eq]; omega
    simp only [law12_PlanJoins_j4, u1, u2, u3, u4, f1, f2, f3, hk, e28]
    cases someP (usesQ [op]) a <;> cases someP (usesQ [op]) b <;> cases (op == 28) <;> cases freeF a <;> cases freeF b <;> rfl
  have j3 : ∀ q : Bool, (decide (1 + cntN 12 a ≤ 400) && decide (nn 12 a ≤ 10)) = q → law12_PlanJoins_j3 (tab n) n a b op (a ++ b) [GStep.mk 28 [] [] (GValue.mk 0 0 ByteArray.empty [] []) (GPred.mk 0 [] []) [a] [] []] q = some true := by
    intro q hq
    rw [hq] at c4
    simp only [law12_PlanJoins_j3, c4, ifb, beq_self_eq_true, if_true]
    cases q with
    | false => simpa using j4
    | true =>
      rw [Bool.and_eq_true, decide_eq_true_eq, decide_eq_true_eq] at hq
      have g1 := nn_one (inn_wh 28 a) 11
      have g2 := cnt_one (inn_wh 28 a) 11
      simp only [wh] at g1 g2
      have h1 : ((nn 12 [GStep.mk 28 [] [] (GValue.mk 0 0 ByteArray.empty [] []) (GPred.mk 0 [] []) [a] [] []] : Nat) : Int) = IntKind.wrap .i64 (((nn 12 a : Nat) : Int) + 1) := by
        rw [wr (by omega) (by omega), g1, p7 hq.2]
        push_cast
        omega
      have h2 : stepsC [GStep.mk 28 [] [] (GValue.mk 0 0 ByteArray.empty [] []) (GPred.mk 0 [] []) [a] [] []] = IntKind.wrap .i64 (stepsC a + 1) := by
        rw [p6, wr (by omega) (by omega)]
        unfold stepsC
        rw [g2, p4]
        push_cast
        omega
      simp only [n4, n1, s4, s1, h1, h2, bne_self_eq_false, Bool.false_eq_true, if_false, if_true]
      exact j4
  have j2 : law12_PlanJoins_j2 (tab n) n a b op (a ++ b) = some true := by
    rw [law12_PlanJoins_j2, n1]
    dsimp only
    by_cases h10 : nn 12 a ≤ 10
    · rw [if_pos (by simp; omega), s1]
      have e4 : (decide (stepsC a < 400)) = decide (1 + cntN 12 a ≤ 400) := by rw [p6, Bool.eq_iff_iff, decide_eq_true_eq, decide_eq_true_eq]; omega
      simp only [e4]
      exact j3 _ (by simp [h10])
    · rw [if_neg (by simp; omega)]
      exact j3 _ (by simp [h10])
  simp only [ha, hb, Bool.not_true, Bool.false_eq_true, if_false]
  rw [law12_PlanJoins_j1, el, if_pos (by simp; omega), if_pos (by simp; omega), s1, s2]
  simp only [c3, ew, e40, ifb, beq_self_eq_true, if_true, Bool.not_true, Bool.false_eq_true, if_false]
  by_cases h4 : cntN 12 a + cntN 12 b ≤ 400
  · have h1 : stepsC (a ++ b) = ((cntN 12 a + cntN 12 b : Nat) : Int) := by unfold stepsC; rw [cnt_app]; omega
    have h2 : ((nn 12 (a ++ b) : Nat) : Int) = (if ((nn 12 b : Nat) : Int) > ((nn 12 a : Nat) : Int) then ((nn 12 b : Nat) : Int) else ((nn 12 a : Nat) : Int)) := by
      rw [show nn 12 (a ++ b) = max (nn 12 a) (nn 12 b) from nn_app 11 a b]
      split <;> omega
    simp only [h4, decide_true, if_true, s3, h1, n1, n2, n3, h2, bne_self_eq_false, Bool.false_eq_true, if_false]
    exact j2
  · simp only [h4, decide_false, Bool.false_eq_true, if_false]
    exact j2
end Go.Proofs.YtgkfjhfehdefaaaDoor.W
