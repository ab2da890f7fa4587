/- The statement IntsRing: as far as all have room, a number times a sum is the sum of both products, so many and so many more of one are as many together, and a number and its opposite are nothing; for every three numbers of 64 bits. -/
import Derived.Test.YtkeecomghgmamaaBaseIntsRing
namespace Go.Proofs.Ytkeecomghgmamaa.Pure
open Go.RowKit Go.Proofs.Ytkeecomghgmamaa.PIntsRing Go.Proofs.YtkeecomghgmamaaW.PrintWords Go.Proofs.YtkeecomghgmamaaW.PrintLast
theorem tail_ok (k : Nat) (hk : 20 < k) (a : Int) (ha : I64 a) : wayfarerlaw01_IntsRing.j0 k a false = some true := by
  obtain ⟨k, rfl⟩ : ∃ m, k = m + 1 := ⟨k - 1, by omega⟩
  have hkn := known_ev k (by omega)
  simp only [wayfarerlaw01_IntsRing.j0]
  rw [if_neg (by decide)]
  unfold ints_Neg.f
  by_cases h : a = -9223372036854775808
  · rw [if_pos h]
    simp only [Option.bind_some]
    rw [Add2 ha i64_nought _ (by omega)]
    simp only [Option.bind_some]
    rw [if_neg (by decide), if_pos h, hkn]
    rfl
  · rw [if_neg h]
    have hn : I64 (-a) := by unfold I64 at *; omega
    simp only [Option.bind_some]
    rw [wrap_in hn, Add2 ha hn _ (by omega), show a + -a = 0 by omega, if_pos i64_nought]
    simp only [Option.bind_some, if_true]
    rw [hkn]
    rfl
theorem IntsRing : wayfarerlaw01_IntsRing.Pure := by
  intro a b c wa wb wc
  have ha := wf_i64 wa
  have hb := wf_i64 wb
  have hc := wf_i64 wc
  refine ⟨40, ?_⟩
  have tl := tail_ok 40 (by omega) a ha
  unfold wayfarerlaw01_IntsRing.f
  rw [Add2 hb hc _ (by omega), Mul2 ha hb _ (by omega), Mul2 ha hc _ (by omega)]
  simp only [Option.bind_some]
  have h0 : ∀ x : Int, I64 (if I64 x then (x, (0 : Int)) else (0, 10)).1 := fun x => by
    by_cases h : I64 x
    · rw [if_pos h]; exact h
    · rw [if_neg h]; exact i64_nought
  rw [Mul2 ha (h0 _) _ (by omega), Add2 (h0 _) (h0 _) _ (by omega)]
  simp only [Option.bind_some]
  by_cases h1 : I64 (b + c)
  · by_cases h2 : I64 (a * b)
    · by_cases h3 : I64 (a * c)
      · simp only [if_pos h1, if_pos h2, if_pos h3, if_true]
        rw [Int.mul_add, if_pos rfl, bne_self_eq_false]
        exact tl
      · simp only [if_pos h1, if_pos h2, if_neg h3, if_true]
        rw [if_neg (by decide)]
        exact tl
    · simp only [if_pos h1, if_neg h2, if_true]
      rw [if_neg (by decide)]
      exact tl
  · simp only [if_neg h1]
    rw [if_neg (by decide)]
    exact tl
end Go.Proofs.Ytkeecomghgmamaa.Pure
