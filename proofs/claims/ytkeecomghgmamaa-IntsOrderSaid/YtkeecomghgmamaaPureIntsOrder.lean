/- The statement IntsOrder: of two numbers the sum and the product hang on no order, a sum less one of its parts is the other, and a product that has room, divided by one of its parts, is the other; for every two numbers of 64 bits. -/
import Derived.Test.YtkeecomghgmamaaBaseIntsOrder
namespace Go.Proofs.Ytkeecomghgmamaa.Pure
open Go.RowKit Go.Proofs.Ytkeecomghgmamaa.PIntsOrder Go.Proofs.YtkeecomghgmamaaW.PrintWords Go.Proofs.YtkeecomghgmamaaW.PrintLast
theorem tail_ok (k : Nat) (hk : 20 < k) (a b p g : Int) (hb : I64 b) (h : g = 0 → p = a * b) :
    wayfarerlaw01_IntsOrder.j1 k a b p g false = some true := by
  obtain ⟨k, rfl⟩ : ∃ m, k = m + 1 := ⟨k - 1, by omega⟩
  simp only [wayfarerlaw01_IntsOrder.j1]
  rw [if_neg (by decide)]
  have hkn := known_ev k (by omega)
  by_cases hg : g = 0
  · rw [if_pos hg]
    by_cases h0 : a = 0
    · rw [if_pos h0, hkn]; rfl
    · have hp := h hg
      have e1 : Int.tdiv p a = b := by rw [hp]; exact Int.mul_tdiv_cancel_left b h0
      have e2 : Int.tmod p a = 0 := by rw [hp]; exact Int.mul_tmod_right a b
      rw [if_neg h0, e1, wrap_in hb, if_pos rfl, e2, if_pos rfl, hkn]; rfl
  · rw [if_neg hg, hkn]; rfl
theorem IntsOrder : wayfarerlaw01_IntsOrder.Pure := by
  intro a b wa wb
  have ha := wf_i64 wa
  have hb := wf_i64 wb
  refine ⟨40, ?_⟩
  unfold wayfarerlaw01_IntsOrder.f
  rw [Add2 ha hb _ (by omega), Add2 hb ha _ (by omega), Mul2 ha hb _ (by omega), Mul2 hb ha _ (by omega), Int.add_comm b a, Int.mul_comm b a]
  simp only [Option.bind_some, if_true]
  rw [bne_self_eq_false]
  show wayfarerlaw01_IntsOrder.j0 (39 + 1) a b _ _ _ _ false = some true
  simp only [wayfarerlaw01_IntsOrder.j0]
  rw [if_neg (by decide)]
  have tl := fun p g h => tail_ok 39 (by omega) a b p g hb h
  have hm : ∀ q : Int, q = a * b → (if I64 q then (q, (0 : Int)) else (0, 10)).2 = 0 → (if I64 q then (q, (0 : Int)) else (0, 10)).1 = a * b := by
    intro q hq
    by_cases h : I64 q
    · rw [if_pos h]; intro _; exact hq
    · rw [if_neg h]; intro h; exact absurd h (by decide)
  by_cases hs : I64 (a + b)
  · rw [if_pos hs]
    rw [if_pos rfl]
    have e : wrap64 (a + b - a) = b := by rw [show a + b - a = b by omega]; exact wrap_in hb
    show wayfarerlaw01_IntsOrder.j1 39 a b _ _ (wrap64 (a + b - a) != b) = some true
    rw [e, bne_self_eq_false]
    exact tl _ _ (hm _ rfl)
  · rw [if_neg hs, if_neg (by decide)]
    exact tl _ _ (hm _ rfl)
end Go.Proofs.Ytkeecomghgmamaa.Pure
