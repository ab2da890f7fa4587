/- May a predicate be? -/
import Derived.Test.YtgkfjhfehdefaaaGreatDoorPvD
namespace Go.Proofs.YtgkfjhfehdefaaaGreatDoor.W
open Go.Proofs.YtgkfjhfehdefaaaGreatDoor.Flat
set_option linter.unusedVariables false
set_option linter.unusedSimpArgs false
/-- What a predicate that came in keeps to. -/
inductive PIn : GPred → Prop
  | mk {k : Int} {v : List GValue} {p : List GPred} (hv : v.length ≤ 1759218604391) (hp : p.length ≤ 2513169434844) (av : ∀ x, x ∈ v → VIn x) (ap : ∀ x, x ∈ p → PIn x) : PIn (.mk k v p)
mutual
theorem GPred.pin : ∀ a : GPred, GPred.In a → PIn a
  | .mk k v p, h =>
    have h := GPred.in_mk h
    PIn.mk (by omega) (by omega) (fun x hx => GValue.vin x (h.2.1.2 x hx)) (GPred.pins p h.2.2.2)
theorem GPred.pins : ∀ l : List GPred, (∀ x ∈ l, GPred.In x) → ∀ x, x ∈ l → PIn x
  | [], _, x, hx => absurd hx (by simp)
  | y :: ys, h, x, hx => by
    rcases List.mem_cons.1 hx with e | hx
    · rw [e]
      exact GPred.pin y (h y (by simp))
    · exact GPred.pins ys (fun z hz => h z (by simp [hz])) x hx
end
def arOK (k a b : Int) : Bool :=
  if 1 ≤ k ∧ k ≤ 6 then decide (a = 1 ∧ b = 0)
  else if 7 ≤ k ∧ k ≤ 9 then decide (a = 2 ∧ b = 0)
  else if k = 10 ∨ k = 11 then decide (a ≤ 1000 ∧ b = 0)
  else if k = 12 then decide (a = 0 ∧ b = 1)
  else if k = 13 ∨ k = 14 then decide (a = 0 ∧ 2 ≤ b ∧ b ≤ 1000)
  else false
def rightF : Nat → GPred → Bool
  | 0, _ => false
  | f + 1, .mk k v p => arOK k v.length p.length && (v.all okV && p.all (rightF f))
def okP (a : GPred) : Bool := rightF 12 a
theorem arOK_cases {k a b : Int} (h : arOK k a b = true) : ((k = 1 ∨ k = 2 ∨ k = 3 ∨ k = 4 ∨ k = 5 ∨ k = 6) ∧ a = 1 ∧ b = 0) ∨ ((k = 7 ∨ k = 8 ∨ k = 9) ∧ a = 2 ∧ b = 0) ∨ ((k = 10 ∨ k = 11) ∧ a ≤ 1000 ∧ b = 0) ∨ (k = 12 ∧ a = 0 ∧ b = 1) ∨ ((k = 13 ∨ k = 14) ∧ a = 0 ∧ 2 ≤ b ∧ b ≤ 1000) := by
  unfold arOK at h
  repeat' split at h
  all_goals simp at h
  all_goals omega
theorem rightF_mk {f : Nat} {k : Int} {v : List GValue} {p : List GPred} (h : rightF (f + 1) (.mk k v p) = true) : arOK k v.length p.length = true ∧ (∀ x ∈ v, okV x = true) ∧ ∀ x ∈ p, rightF f x = true := by
  rw [rightF, Bool.and_eq_true, Bool.and_eq_true, List.all_eq_true, List.all_eq_true] at h
  exact h
end Go.Proofs.YtgkfjhfehdefaaaGreatDoor.W
