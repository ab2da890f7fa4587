/- May steps be? -/
import Derived.Test.YtgkfjhfehdefaaaGreatDoorPlD
namespace Go.Proofs.YtgkfjhfehdefaaaGreatDoor.W
open Go.Proofs.YtgkfjhfehdefaaaGreatDoor.Flat
set_option linter.unusedVariables false
set_option linter.unusedSimpArgs false
def byF (R : List GStep → Bool) (order : Bool) (b : GBy) : Bool :=
  (!bD b || order) && (bK b == 2 || (bKey b).size == 0) && (bK b == 3 || (bT b).length == 0) && (bK b == 1 || (bK b == 2 && nameF (bKey b)) || (bK b == 3 && R (bT b)))
def zv : GValue := .mk 0 0 ByteArray.empty [] []
def nmF (op : Int) : ByteArray := if 1 ≤ op ∧ op ≤ 51 then gl0.getD op.toNat ByteArray.empty else ByteArray.mk #[]
theorem nm_size : ∀ i : Nat, 1 ≤ i → i ≤ 51 → (gl0.getD i ByteArray.empty).size ≠ 0 := by
  have h : (List.range 52).all (fun i => i == 0 || !((gl0.getD i ByteArray.empty).size == 0)) = true := by decide +kernel
  intro i h1 h2 h3
  have := List.all_eq_true.1 h i (List.mem_range.2 (by omega))
  rw [h3] at this
  simp at this
  omega
theorem nm_nil (op : Int) : ((nmF op).toList == (ByteArray.mk #[]).toList) = !decide (1 ≤ op ∧ op ≤ 51) := by
  rw [tl_nil]
  by_cases h : 1 ≤ op ∧ op ≤ 51
  · have e : (nmF op).size ≠ 0 := by
      unfold nmF
      rw [if_pos h]
      exact nm_size op.toNat (by omega) (by omega)
    rw [decide_eq_false e, decide_eq_true h]
    rfl
  · have e : (nmF op).size = 0 := by
      unfold nmF
      rw [if_neg h]
      rfl
    rw [decide_eq_true e, decide_eq_false h]
    rfl
open Classical in
/-- What the reference says of a step's own parts. -/
noncomputable def ownQ (x : GStep) : Bool := decide (Ev fun n => (tab n).ref12_own x = some true)
def namedF (l : List ByteArray) : Bool := l.all nameF && decide (l.length ≤ 50)
noncomputable def stepF (R : List GStep → Bool) (x : GStep) : Bool := ownQ x && namedF (sOf x) && namedF (asOf x) && (((if (opOf x == 15) then okV (vOf x) else (cmp (vOf x) zv == 0)) && (if (opOf x == 18 || opOf x == 22) then okP (pOf x) else emptyF (pOf x))) && ((tOf x).all R && (byOf x).all (byF R (opOf x == 40))))
noncomputable def rightL : Nat → List GStep → Bool
  | 0, _ => false
  | f + 1, l => l.all (stepF (rightL f))
theorem any_not {α : Type _} (p : α → Bool) (l : List α) : (!(l.any fun x => !p x)) = l.all p := by
  induction l with
  | nil => rfl
  | cons x xs ih => rw [List.any_cons, List.all_cons, ← ih]; cases p x <;> simp
end Go.Proofs.YtgkfjhfehdefaaaGreatDoor.W
