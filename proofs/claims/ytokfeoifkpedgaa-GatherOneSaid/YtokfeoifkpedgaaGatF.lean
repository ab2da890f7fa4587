/- Parts of bulks, rows of bulks, and counts. -/
import Derived.Test.YtokfeoifkpedgaaGatE
namespace Go.Proofs.Ytokfeoifkpedgaa.W
open Go.Proofs.Ytokfeoifkpedgaa.Flat
set_option linter.unusedVariables false
set_option linter.unusedSimpArgs false
def vOf : GMany → GValue
  | .mk v _ => v
def lw (lo p : Int) : Int := if lo > p then lo else p
def hg (hi q : Int) : Int := if hi < q then hi else q
def cutS (lo hi : Int) : Int → List GMany → List GMany
  | _, [] => []
  | p, x :: xs => if lw lo p < hg hi (p + nOf x) then .mk (cp (vOf x)) (hg hi (p + nOf x) - lw lo p) :: cutS lo hi (p + nOf x) xs else cutS lo hi (p + nOf x) xs
/-- What bulks that come in keep to. -/
def Ok (l : List GMany) : Prop := l.length ≤ 1000000 ∧ bad l = false ∧ sumN l ≤ 1000000 ∧ ∀ x ∈ l, VIn (vOf x)
theorem sumN_mem {l : List GMany} (hb : bad l = false) : ∀ x ∈ l, nOf x ≤ sumN l := by
  induction l with
  | nil => intro x hx; cases hx
  | cons y ys ih =>
    rw [bad_cons, Bool.or_eq_false_iff, decide_eq_false_iff_not] at hb
    have h2 := sumN_nonneg hb.2
    intro x hx
    rw [sumN]
    rcases List.mem_cons.1 hx with rfl | hx
    · omega
    · have := ih hb.2 x hx
      omega
theorem Ok.n64 {l : List GMany} (h : Ok l) : N64 l := ⟨by have := h.1; omega, fun x hx => by have := sumN_mem h.2.1 x hx; have := h.2.2.1; omega⟩
theorem Ok.size {l : List GMany} (h : Ok l) : sizeS l = (sumN l, 0) := by
  have := h.2.2.1
  rw [sizeS, if_neg (by simp [h.2.1]), if_pos (by omega)]
theorem gsizeOk {l : List GMany} (h : Ok l) : Ev fun n => (tab n).gather_size l = some (sumN l, 0) := by
  have := gsize_ev h.n64 (by have := h.1; omega)
  rw [h.size] at this
  exact this
def exM : List GMany → List GMany
  | [] => []
  | x :: xs => List.replicate (nOf x).toNat (.mk (vOf x) 1) ++ exM xs
theorem exM_len : ∀ {l : List GMany}, bad l = false → ((exM l).length : Int) = sumN l
  | [], _ => rfl
  | x :: xs, h => by
    rw [bad_cons, Bool.or_eq_false_iff, decide_eq_false_iff_not] at h
    have := exM_len h.2
    rw [exM, sumN, List.length_append, List.length_replicate]
    omega
end Go.Proofs.Ytokfeoifkpedgaa.W
