/- How many steps there are, how deep; may a plan be? -/
import Derived.Test.YtgkfjhfehdefaaaGreatDoorPlE
namespace Go.Proofs.YtgkfjhfehdefaaaGreatDoor.W
open Go.Proofs.YtgkfjhfehdefaaaGreatDoor.Flat
set_option linter.unusedVariables false
set_option linter.unusedSimpArgs false
/-- How many, so many plans deep. -/
def cntN : Nat → List GStep → Nat
  | 0, _ => 0
  | g + 1, l => (l.map fun x => 1 + ((inn x).map (cntN g)).sum).sum
/-- How deep, at most. -/
def sup : List Nat → Nat
  | [] => 0
  | x :: xs => max x (sup xs)
def nn : Nat → List GStep → Nat
  | 0, _ => 0
  | g + 1, l => 1 + sup (l.map fun x => sup ((inn x).map (nn g)))
theorem sup_app : ∀ a b : List Nat, sup (a ++ b) = max (sup a) (sup b)
  | [], b => by rw [List.nil_append, sup]; omega
  | x :: xs, b => by rw [List.cons_append, sup, sup, sup_app xs b]; omega
theorem sup_le {k : Nat} : ∀ {a : List Nat}, sup a ≤ k ↔ ∀ x ∈ a, x ≤ k
  | [] => by simp [sup]
  | x :: xs => by
    rw [sup, Nat.max_le, sup_le (a := xs)]
    simp
theorem nn_le : ∀ (g : Nat) (l : List GStep), nn g l ≤ g
  | 0, l => Nat.le_refl _
  | g + 1, l => by
    rw [nn]
    have : sup (l.map fun x => sup ((inn x).map (nn g))) ≤ g := sup_le.2 fun y hy => by
      obtain ⟨x, _, rfl⟩ := List.mem_map.1 hy
      refine sup_le.2 fun z hz => ?_
      obtain ⟨t, _, rfl⟩ := List.mem_map.1 hz
      exact nn_le g t
    omega
theorem nn_in {g k : Nat} {l : List GStep} : nn (g + 1) l ≤ k + 1 ↔ ∀ x ∈ l, ∀ t ∈ inn x, nn g t ≤ k := by
  rw [nn]
  constructor
  · intro h x hx t ht
    have h1 : sup (l.map fun x => sup ((inn x).map (nn g))) ≤ k := by omega
    have h2 := sup_le.1 h1 _ (List.mem_map.2 ⟨x, hx, rfl⟩)
    exact sup_le.1 h2 _ (List.mem_map.2 ⟨t, ht, rfl⟩)
  · intro h
    have : sup (l.map fun x => sup ((inn x).map (nn g))) ≤ k := sup_le.2 fun y hy => by
      obtain ⟨x, hx, rfl⟩ := List.mem_map.1 hy
      refine sup_le.2 fun z hz => ?_
      obtain ⟨t, ht, rfl⟩ := List.mem_map.1 hz
      exact h x hx t ht
    omega
theorem map_congr2 {α β : Type _} {f g : α → β} {l : List α} (h : ∀ x ∈ l, f x = g x) : l.map f = l.map g := List.map_congr_left h
/-- What is less deep is so however deep one looks. -/
theorem nn_up : ∀ (g : Nat) (l : List GStep), nn (g + 1) l ≤ g → nn (g + 1) l = nn g l
  | 0, l, h => by rw [nn] at h; omega
  | g + 1, l, h => by
    have h1 := nn_in.1 h
    rw [nn, nn]
    congr 2
    refine map_congr2 fun x hx => ?_
    congr 1
    exact map_congr2 fun t ht => nn_up g t (h1 x hx t ht)
theorem cnt_up : ∀ (g : Nat) (l : List GStep), nn (g + 1) l ≤ g → cntN (g + 1) l = cntN g l
  | 0, l, h => by rw [nn] at h; omega
  | g + 1, l, h => by
    have h1 := nn_in.1 h
    rw [cntN, cntN]
    congr 1
    refine map_congr2 fun x hx => ?_
    congr 2
    exact map_congr2 fun t ht => cnt_up g t (h1 x hx t ht)
theorem cnt_app (g : Nat) (a b : List GStep) : cntN g (a ++ b) = cntN g a + cntN g b := by
  cases g with
  | zero => rfl
  | succ g => rw [cntN, cntN, cntN, List.map_append, List.sum_append]
theorem nn_app (g : Nat) (a b : List GStep) : nn (g + 1) (a ++ b) = max (nn (g + 1) a) (nn (g + 1) b) := by
  rw [nn, nn, nn, List.map_append, sup_app]
  omega
theorem sum_min {most a b : Int} (h : 1 ≤ most) (h0 : 0 ≤ a) (hb : 0 ≤ b) : min most (min most a + b) = min most (a + b) := by omega
theorem cnt0_sum : ∀ l : List (List GStep), (l.map (cntN 0)).sum = 0
  | [] => rfl
  | x :: xs => by rw [List.map_cons, List.sum_cons, cnt0_sum xs]; rfl
def stepsC (l : List GStep) : Int := min 401 (cntN 12 l : Int)
noncomputable def okL2 (l : List GStep) : Bool := decide (cntN 12 l ≤ 400) && rightL 11 l
end Go.Proofs.YtgkfjhfehdefaaaGreatDoor.W
