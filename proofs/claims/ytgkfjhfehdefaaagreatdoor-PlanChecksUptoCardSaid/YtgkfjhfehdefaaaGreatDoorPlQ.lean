/- Does a plan use any of some: the program's. -/
import Derived.Test.YtgkfjhfehdefaaaGreatDoorPlB
namespace Go.Proofs.YtgkfjhfehdefaaaGreatDoor.W
open Go.Proofs.YtgkfjhfehdefaaaGreatDoor.Flat
set_option linter.unusedVariables false
set_option linter.unusedSimpArgs false
theorem planUses_ev {ops : List Int} (ho : ops.length ≤ 4194304) : ∀ (k : Nat) (l : List GStep), wL l ≤ k → k ≤ 2097152 → Ev fun n => (tab n).plan_plan_Uses_1 l ops = some (someF (usesQ ops) k l) := by
  intro k
  induction k with
  | zero =>
    intro l h _
    have := wL_len l
    have : l = [] := List.eq_nil_of_length_eq_zero (by omega)
    subst this
    refine Ev.step ((plan_some_1_i2_c (l := []) (e0 := ops) (g := fun _ => false) (fun x hx => by cases hx) (by simp)).mono fun n hn => ?_)
    rw [tab_plan_plan_Uses_1, plan_plan_Uses_1, hn]
    rfl
  | succ k ih =>
    intro l h hk
    have hin := lin_wt (l := l) (by omega)
    have hlen := wL_len l
    refine Ev.step ((plan_some_1_i2_c (l := l) (e0 := ops) (g := fun x => usesQ ops x || (inn x).any (someF (usesQ ops) k)) (fun x hx => ?_) (by omega)).mono fun n hn => ?_)
    · have hx1 := wL_mem hx
      have hs := hin x hx
      have e1 := inner_ev hs
      have e2 : Ev fun n => (tab n).slices_ContainsFunc_plan_some_1_1_i2 (inn x) ops = some ((inn x).any (someF (usesQ ops) k)) :=
        plan_some_1_1_i2_c (fun t ht => Ev.step ((ih t (by have := inn_wt ht; omega) (by omega)).mono fun n hn => by rw [tab_plan_some_1_1_plan_Uses_1, plan_some_1_1_plan_Uses_1]; exact hn)) (by have := hs.inn_len; omega)
      have e3 := contains_int_c (l := ops) (v := opOf x) (by omega)
      refine Ev.step (((e1.and e2).and (Ev.step (p := fun n => (tab n).plan_Uses_1 x ops = some (usesQ ops x)) (e3.mono fun n hn => ?_))).mono fun n hh => ?_)
      · rw [tab_plan_Uses_1]
        obtain ⟨op, S, N, ⟨v1, v2, v3, v4, v5⟩, ⟨p1, p2, p3⟩, Ts, By, As⟩ := x
        simp only [plan_Uses_1]
        exact hn
      · obtain ⟨⟨h1, h2⟩, h3⟩ := hh
        rw [tab_plan_some_1_plan_Uses_1]
        obtain ⟨op, S, N, ⟨v1, v2, v3, v4, v5⟩, ⟨p1, p2, p3⟩, Ts, By, As⟩ := x
        simp only [plan_some_1_plan_Uses_1, h1, h2, h3]
        cases usesQ ops (GStep.mk op S N (GValue.mk v1 v2 v3 v4 v5) (GPred.mk p1 p2 p3) Ts By As) <;> rfl
    · rw [tab_plan_plan_Uses_1, plan_plan_Uses_1, hn, someF]
end Go.Proofs.YtgkfjhfehdefaaaGreatDoor.W
