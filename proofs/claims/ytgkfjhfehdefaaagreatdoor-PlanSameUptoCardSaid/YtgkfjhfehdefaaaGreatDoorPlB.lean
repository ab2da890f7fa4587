/- Does a plan use any of some? -/
import Derived.Test.YtgkfjhfehdefaaaGreatDoorPlA
namespace Go.Proofs.YtgkfjhfehdefaaaGreatDoor.W
open Go.Proofs.YtgkfjhfehdefaaaGreatDoor.Flat
set_option linter.unusedVariables false
set_option linter.unusedSimpArgs false
/-- Is there a step like that, in whichever plan? -/
def someF (p : GStep → Bool) : Nat → List GStep → Bool
  | 0, _ => false
  | k + 1, l => l.any fun x => p x || (inn x).any (someF p k)
theorem any_congr {α : Type _} {f g : α → Bool} : ∀ {l : List α}, (∀ x ∈ l, f x = g x) → l.any f = l.any g
  | [], _ => rfl
  | x :: xs, h => by rw [List.any_cons, List.any_cons, h x (List.mem_cons_self ..), any_congr fun y hy => h y (List.mem_cons_of_mem _ hy)]
theorem someF_up {p : GStep → Bool} : ∀ (k : Nat) (l : List GStep), wL l ≤ k → someF p (k + 1) l = someF p k l
  | 0, l, h => by
    have := wL_len l
    have : l = [] := List.eq_nil_of_length_eq_zero (by omega)
    subst this
    rfl
  | k + 1, l, h => by
    rw [someF, someF]
    refine any_congr fun x hx => ?_
    have h1 := wL_mem hx
    congr 1
    exact any_congr fun t ht => someF_up k t (by have := inn_wt ht; omega)
theorem someF_ge {p : GStep → Bool} {l : List GStep} {k : Nat} (h : wL l ≤ k) : ∀ j, someF p (k + j) l = someF p k l
  | 0 => rfl
  | j + 1 => by rw [← Nat.add_assoc, someF_up (k + j) l (by omega), someF_ge h j]
def someP (p : GStep → Bool) (l : List GStep) : Bool := someF p 4194304 l
theorem someF_eq {p : GStep → Bool} {l : List GStep} {k : Nat} (h : wL l ≤ k) (hk : k ≤ 4194304) : someF p k l = someP p l := by
  unfold someP
  rw [show 4194304 = k + (4194304 - k) by omega, someF_ge h]
theorem someP_mk {p : GStep → Bool} {l : List GStep} (h : wL l ≤ 4194303) : someP p l = l.any fun x => p x || (inn x).any (someP p) := by
  rw [← someF_eq (k := wL l + 1) (by omega) (by omega), someF]
  refine any_congr fun x hx => ?_
  have h1 := wL_mem hx
  congr 1
  exact any_congr fun t ht => by
    have := inn_wt ht
    exact someF_eq (by omega) (by omega)
theorem someP_app {p : GStep → Bool} {l m : List GStep} (h : wL (l ++ m) ≤ 4194303) : someP p (l ++ m) = (someP p l || someP p m) := by
  have e : wL (l ++ m) = wL l + wL m := by unfold wL; rw [List.map_append, wts_app]
  rw [someP_mk h, someP_mk (by omega), someP_mk (by omega), List.any_append]
theorem any_or {α : Type _} {p q : α → Bool} : ∀ l : List α, (l.any fun x => p x || q x) = (l.any p || l.any q)
  | [] => rfl
  | x :: xs => by
    rw [List.any_cons, List.any_cons, List.any_cons, any_or xs]
    cases p x <;> cases q x <;> cases xs.any p <;> cases xs.any q <;> rfl
theorem someF_or {p q : GStep → Bool} : ∀ (k : Nat) (l : List GStep), someF (fun x => p x || q x) k l = (someF p k l || someF q k l)
  | 0, l => rfl
  | k + 1, l => by
    rw [someF, someF, someF, ← any_or]
    refine any_congr fun x hx => ?_
    have : (inn x).any (someF (fun x => p x || q x) k) = ((inn x).any (someF p k) || (inn x).any (someF q k)) := by
      rw [← any_or]
      exact any_congr fun t _ => someF_or k t
    rw [this]
    cases p x <;> cases q x <;> cases (inn x).any (someF p k) <;> cases (inn x).any (someF q k) <;> rfl
theorem someP_or {p q : GStep → Bool} (l : List GStep) : someP (fun x => p x || q x) l = (someP p l || someP q l) := someF_or _ l
theorem someF_no : ∀ (k : Nat) (l : List GStep), someF (fun _ => false) k l = false
  | 0, l => rfl
  | k + 1, l => by
    rw [someF]
    apply List.any_eq_false.2
    intro x _
    rw [Bool.false_or]
    simp only [Bool.not_eq_true]
    apply List.any_eq_false.2
    intro t _
    rw [someF_no k t]
    simp
theorem someP_no (l : List GStep) : someP (fun _ => false) l = false := someF_no _ l
def usesQ (ops : List Int) (x : GStep) : Bool := ops.any fun y => opOf x == y
theorem usesQ_app (a b : List Int) (l : List GStep) : someP (usesQ (a ++ b)) l = (someP (usesQ a) l || someP (usesQ b) l) := by
  rw [← someP_or]
  congr 1
  funext x
  unfold usesQ
  rw [List.any_append]
end Go.Proofs.YtgkfjhfehdefaaaGreatDoor.W
