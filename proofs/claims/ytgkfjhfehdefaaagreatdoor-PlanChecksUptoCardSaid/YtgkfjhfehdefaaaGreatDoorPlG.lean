/- Does anything hang on trails? Are two plans the same? -/
import Derived.Test.YtgkfjhfehdefaaaGreatDoorPlF
import Derived.Test.YtgkfjhfehdefaaaGreatDoorPlQ
namespace Go.Proofs.YtgkfjhfehdefaaaGreatDoor.W
open Go.Proofs.YtgkfjhfehdefaaaGreatDoor.Flat
set_option linter.unusedVariables false
set_option linter.unusedSimpArgs false
theorem ngz2 (a : Nat) : (decide ((a : Int) > 0)) = (a != 0) := by
  rw [ngz, bne, Bool.eq_iff_iff]
  simp
def freeQ (x : GStep) : Bool := (asOf x).length != 0
theorem planFree_ev : ∀ (k : Nat) (l : List GStep), wL l ≤ k → k ≤ 2097152 → Ev fun n => (tab n).plan_plan_Free_1 l = some (someF freeQ k l) := by
  intro k
  induction k with
  | zero =>
    intro l h _
    have := wL_len l
    have : l = [] := List.eq_nil_of_length_eq_zero (by omega)
    subst this
    refine Ev.step ((plan_some_1_c (l := []) (g := fun _ => false) (fun x hx => by cases hx) (by simp)).mono fun n hn => ?_)
    rw [tab_plan_plan_Free_1, plan_plan_Free_1, hn]
    rfl
  | succ k ih =>
    intro l h hk
    have hin := lin_wt (l := l) (by omega)
    have hlen := wL_len l
    refine Ev.step ((plan_some_1_c (l := l) (g := fun x => freeQ x || (inn x).any (someF freeQ k)) (fun x hx => ?_) (by omega)).mono fun n hn => ?_)
    · have hx1 := wL_mem hx
      have hs := hin x hx
      have e1 := inner_ev hs
      have e2 : Ev fun n => (tab n).slices_ContainsFunc_plan_some_1_1 (inn x) = some ((inn x).any (someF freeQ k)) :=
        plan_some_1_1_c (fun t ht => Ev.step ((ih t (by have := inn_wt ht; omega) (by omega)).mono fun n hn => by rw [tab_plan_some_1_1_plan_Free_1, plan_some_1_1_plan_Free_1]; exact hn)) (by have := hs.inn_len; omega)
      refine Ev.step (((e1.and e2).and (Ev.step (p := fun n => (tab n).plan_Free_1 x = some (freeQ x)) (Ev.pure fun n => ?_))).mono fun n hh => ?_)
      · rw [tab_plan_Free_1]
        obtain ⟨op, S, N, ⟨v1, v2, v3, v4, v5⟩, ⟨p1, p2, p3⟩, Ts, By, As⟩ := x
        simp only [plan_Free_1, freeQ, asOf, ngz2]
      · obtain ⟨⟨h1, h2⟩, h3⟩ := hh
        rw [tab_plan_some_1_plan_Free_1]
        obtain ⟨op, S, N, ⟨v1, v2, v3, v4, v5⟩, ⟨p1, p2, p3⟩, Ts, By, As⟩ := x
        simp only [plan_some_1_plan_Free_1, h1, h2, h3]
        cases freeQ (GStep.mk op S N (GValue.mk v1 v2 v3 v4 v5) (GPred.mk p1 p2 p3) Ts By As) <;> rfl
    · rw [tab_plan_plan_Free_1, plan_plan_Free_1, hn, someF]
theorem planUsesP {ops : List Int} {l : List GStep} (ho : ops.length ≤ 4194304) (h : wL l ≤ 2097152) : Ev fun n => (tab n).plan_Uses l ops = some (someP (usesQ ops) l) :=
  Ev.step ((planUses_ev ho 2097152 l h (Nat.le_refl _)).mono fun n hn => by rw [tab_plan_Uses, plan_Uses, hn, someF_eq h (by omega)])
def freeF (l : List GStep) : Bool := !someP (usesQ [38, 26, 27, 39]) l && !someP freeQ l
theorem Free_ev {l : List GStep} (h : wL l ≤ 2097152) : Ev fun n => (tab n).plan_Free l = some (freeF l) := by
  refine Ev.step (((planUsesP (ops := [38, 26, 27, 39]) (by simp) h).and (planFree_ev 2097152 l h (Nat.le_refl _))).mono fun n hh => ?_)
  obtain ⟨h1, h2⟩ := hh
  rw [someF_eq h (by omega)] at h2
  rw [tab_plan_Free]
  simp only [plan_Free, h1, h2, freeF]
  cases someP (usesQ [38, 26, 27, 39]) l <;> rfl
theorem freeF_app {a b : List GStep} (h : wL (a ++ b) ≤ 4194303) : freeF (a ++ b) = (freeF a && freeF b) := by
  unfold freeF
  rw [someP_app h, someP_app h]
  cases someP (usesQ [38, 26, 27, 39]) a <;> cases someP (usesQ [38, 26, 27, 39]) b <;> cases someP freeQ a <;> cases someP freeQ b <;> rfl
theorem wL_app (a b : List GStep) : wL (a ++ b) = wL a + wL b := by unfold wL; rw [List.map_append, wts_app]
end Go.Proofs.YtgkfjhfehdefaaaGreatDoor.W
