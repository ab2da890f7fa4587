/- Predicates of one and of two values. -/
import Derived.Test.YtcgckbjdadmcmaaPureG
namespace Go.Proofs.Ytcgckbjdadmcmaa.W
open Go.Proofs.Ytcgckbjdadmcmaa.Flat
set_option linter.unusedVariables false
set_option linter.unusedSimpArgs false
theorem pin0 (k : Int) (l : List GValue) (H : ∀ x ∈ l, VIn x) (hl : l.length ≤ 1759218604391) : PIn (.mk k l []) := .mk hl (by simp) H (by simp)
theorem one_evs : Ev fun n => ∀ (k : Int) (a : GValue), (tab n).law09_one k a = some (.mk k [a] []) :=
  Ev.step (Ev.pure fun n k a => by
    rw [tab_law09_one]
    cases a
    rfl)
theorem test_mk (k : Int) (l : List GValue) (p : List GPred) (v : GValue) : test (.mk k l p) v = (arOK k l.length p.length && (l.all okV && p.all (rightF 11)) && testF 12 (.mk k l p) v) := rfl
theorem test_one {k : Int} {a v : GValue} (h : k = 3 ∨ k = 4 ∨ k = 5 ∨ k = 6) (ok : okV a = true) : test (.mk k [a] []) v = (kindOf a == kindOf v && orderF k (cmp v a) (cmp v a)) := by
  rw [test_mk]
  rcases h with rfl | rfl | rfl | rfl <;> simp [arOK, ok, testF, fin, allK, List.getD]
theorem test_eq {a v : GValue} (ok : okV a = true) : test (.mk 1 [a] []) v = (cmp a v == 0) := by
  rw [test_mk]
  simp [arOK, ok, testF, anyS]
theorem test_neq {a v : GValue} (ok : okV a = true) : test (.mk 2 [a] []) v = !(cmp a v == 0) := by
  rw [test_mk]
  simp [arOK, ok, testF, anyS]
theorem test_two {k : Int} {a b v : GValue} (h : k = 7 ∨ k = 8 ∨ k = 9) (ok : okV a = true) (okb : okV b = true) : test (.mk k [a, b] []) v = (kindOf a == kindOf v && kindOf b == kindOf v && orderF k (cmp v a) (cmp v b)) := by
  rw [test_mk]
  rcases h with rfl | rfl | rfl <;> simp [arOK, ok, okb, testF, fin, allK, List.getD]
theorem cmp_kind {a v : GValue} (h : cmp a v = 0) : kindOf a = kindOf v := by
  cases a
  cases v
  have h := (or2_zero.1 h).1
  have h := (or2_zero.1 h).1
  unfold sg at h
  simp only [kindOf]
  repeat' split at h
  all_goals omega
theorem cmp_neg (a v : GValue) : cmp a v = - cmp v a := cmpV_neg 12 v a
theorem cmp_sg (a v : GValue) : Sg (cmp a v) := cmpV_sg 12 a v
end Go.Proofs.Ytcgckbjdadmcmaa.W
