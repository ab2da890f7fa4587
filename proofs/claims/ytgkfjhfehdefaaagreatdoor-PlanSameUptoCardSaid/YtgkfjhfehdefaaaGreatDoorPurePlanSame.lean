/- Two plans compared, a plan copied, and the copy spoilt. -/
import Derived.Test.YtgkfjhfehdefaaaGreatDoorPlJ
namespace Go.Proofs.YtgkfjhfehdefaaaGreatDoor.W
open Go.Proofs.YtgkfjhfehdefaaaGreatDoor.Flat
set_option linter.unusedVariables false
set_option linter.unusedSimpArgs false
theorem Pure.PlanSame : ∀ (x0 : List GStep) (x1 : List GStep), wts [.sl false 14 (GStep.ts x0), .sl false 14 (GStep.ts x1)] ≤ 1048576 → ∃ n, (tab n).law12_PlanSame x0 x1 = some true := by
  intro a b hw
  simp only [wts, T.wt, GStep.ts_map] at hw
  have ha : wL a ≤ 1048576 := by unfold wL; omega
  have hb : wL b ≤ 1048576 := by unfold wL; omega
  have hc : wL (cpL 12 a) ≤ 1048576 := Nat.le_trans (cpL_wt 12 a) ha
  obtain ⟨r1, e1⟩ := muchL_ev (l := a) (by omega)
  obtain ⟨r2, e2⟩ := muchL_ev (l := b) (by omega)
  have s1 := Same_ev (a := a) (b := b) (by omega) (by omega)
  have s2 := Same_ev (a := b) (b := a) (by omega) (by omega)
  have s3 := Same_ev (a := a) (b := a) (by omega) (by omega)
  have s4 := Same_ev (a := a) (b := cpL 12 a) (by omega) (by omega)
  have q1 := rSamePl_ev (a := a) (b := b) (by omega) (by omega)
  have q2 := rSamePl_ev (a := a) (b := cpL 12 a) (by omega) (by omega)
  have c1 := Copy_ev (a := a) (by omega)
  have c2 := refPCheck_ev (l := a) (by omega)
  have sm := small_ev (l := cpL 12 a) (by omega)
  refine Ev.out (Ev.step (((((e1.and e2).and knownL_ev).and ((s1.and s2).and (s3.and s4))).and (((q1.and q2).and (c1.and c2)).and (sm.and (Ev.ge 1)))).mono fun n hh => ?_))
  obtain ⟨⟨⟨⟨e1, e2⟩, hk⟩, ⟨s1, s2⟩, s3, s4⟩, ⟨⟨q1, q2⟩, c1, c2⟩, sm, h1⟩ := hh
  have J2 : ∀ r : Bool, (r = true → samePl a (cpL 12 a) = true) → law12_PlanSame_j2 (tab n) n a (cpL 12 a) (cpL 12 a) r = some true := by
    intro r hr
    obtain ⟨c', z1, z2, g⟩ := sp_l3 (t := tab n) (n := n) (a := a) (d := cpL 12 a) (r := r) (cpL 12 a).length 0 n (cpL 12 a) sm (by omega) sm.1
    rw [show ((0 : Nat) : Int) = 0 from rfl] at g
    rw [law12_PlanSame_j2, g]
    dsimp only
    rw [law12_PlanSame_j9, q2]
    cases r with
    | false => simpa using hk
    | true =>
      rw [hr rfl]
      simpa using hk
  rw [tab_law12_PlanSame]
  simp only [law12_PlanSame, e1, e2, hk]
  cases r1 with
  | true => simp
  | false =>
    cases r2 with
    | true => simp
    | false =>
      simp only [Bool.false_eq_true, if_false, law12_PlanSame_j1, s1, c1, c2, q1, s2, s3, s4, q2, same_sw b a, same_self, beq_self_eq_true, if_true]
      cases ho : okL2 a with
      | false =>
        exact J2 _ (fun h => by simp at h)
      | true =>
        have hs : samePl a (cpL 12 a) = true := by
          unfold okL2 at ho
          rw [Bool.and_eq_true] at ho
          exact copy_same ho.2
        simp only [hs, if_true, beq_self_eq_true]
        exact J2 _ (fun _ => hs)
end Go.Proofs.YtgkfjhfehdefaaaGreatDoor.W
