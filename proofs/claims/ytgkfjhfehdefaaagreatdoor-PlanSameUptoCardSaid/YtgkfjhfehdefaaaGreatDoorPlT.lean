/- The same, the other way round. -/
import Derived.Test.YtgkfjhfehdefaaaGreatDoorPlR
namespace Go.Proofs.YtgkfjhfehdefaaaGreatDoor.W
open Go.Proofs.YtgkfjhfehdefaaaGreatDoor.Flat
set_option linter.unusedVariables false
set_option linter.unusedSimpArgs false
theorem eqL_comm {α : Type _} {f g : α → α → Bool} : ∀ {a b : List α}, (∀ x ∈ a, ∀ y ∈ b, f x y = g y x) → eqL f a b = eqL g b a
  | [], [], _ => rfl
  | [], _ :: _, _ => rfl
  | _ :: _, [], _ => rfl
  | x :: xs, y :: ys, h => by
    rw [eqL, eqL, h x (List.mem_cons_self ..) y (List.mem_cons_self ..), eqL_comm fun z hz w hw => h z (List.mem_cons_of_mem _ hz) w (List.mem_cons_of_mem _ hw)]
theorem beq_sw {α : Type _} [BEq α] [LawfulBEq α] (x y : α) : (x == y) = (y == x) := by
  rw [Bool.eq_iff_iff, beq_iff_eq, beq_iff_eq]
  exact ⟨Eq.symm, Eq.symm⟩
theorem cmp_sw (a b : GValue) : (cmp a b == 0) = (cmp b a == 0) := by
  have := cmpV_neg 12 a b
  rw [Bool.eq_iff_iff, beq_iff_eq, beq_iff_eq]
  unfold cmp
  omega
theorem sameP_sw : ∀ (f : Nat) (a b : GPred), sameP f a b = sameP f b a
  | 0, _, _ => rfl
  | f + 1, .mk k v p, .mk k' v' p' => by
    rw [sameP, sameP, beq_sw k k', eqL_comm fun x _ y _ => cmp_sw x y, eqL_comm fun x _ y _ => sameP_sw f x y]
theorem sameL_sw : ∀ (f : Nat) (a b : List GStep), sameL f a b = sameL f b a
  | 0, a, b => eqL_comm fun _ _ _ _ => rfl
  | f + 1, a, b => by
    rw [sameL, sameL]
    refine eqL_comm fun x _ y _ => ?_
    obtain ⟨op, S, N, V, P, Ts, By, As⟩ := x
    obtain ⟨op', S', N', V', P', Ts', By', As'⟩ := y
    have a1 : eqL (fun x y : ByteArray => x.toList == y.toList) S S' = eqL (fun x y : ByteArray => x.toList == y.toList) S' S := eqL_comm fun x _ y _ => beq_sw _ _
    have a2 : eqL (fun x y : Int => x == y) N N' = eqL (fun x y : Int => x == y) N' N := eqL_comm fun x _ y _ => beq_sw _ _
    have a3 : eqL (fun x y : ByteArray => x.toList == y.toList) As As' = eqL (fun x y : ByteArray => x.toList == y.toList) As' As := eqL_comm fun x _ y _ => beq_sw _ _
    have a4 : eqL (sameL f) Ts Ts' = eqL (sameL f) Ts' Ts := eqL_comm fun x _ y _ => sameL_sw f x y
    have a5 : eqL (sameB (sameL f)) By By' = eqL (sameB (sameL f)) By' By := eqL_comm fun x _ y _ => by
      obtain ⟨k, s, t, d⟩ := x
      obtain ⟨k', s', t', d'⟩ := y
      rw [sameB, sameB, sameL_sw f t t', beq_sw k k', beq_sw s.toList s'.toList, beq_sw d d']
    rw [sameS, sameS, beq_sw op op', a1, a2, a3, cmp_sw V V', sameP_sw _ P P', a4, a5]
theorem same_sw (a b : List GStep) : samePl a b = samePl b a := sameL_sw _ a b
end Go.Proofs.YtgkfjhfehdefaaaGreatDoor.W
