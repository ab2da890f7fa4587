/- The statement IntsMuls: of any numbers the product, and so many of one, and one with the other sign, are what the chapter says, or are told to have no room; for every list of numbers of 64 bits and every two of them. -/
import Derived.Test.YtkeecomghgmamaaTimesIntsMuls
namespace Go.Proofs.Ytkeecomghgmamaa.Pure
open Go.RowKit Go.Proofs.Ytkeecomghgmamaa.PIntsMuls Go.Proofs.Ytkeecomghgmamaa.Dec Go.Proofs.YtkeecomghgmamaaW.PrintWords Go.Proofs.YtkeecomghgmamaaW.PrintLast
set_option linter.unusedVariables false
theorem I64_len {x : Int} {p : Bool × List Int} (hp : IsNum x p) (hx : I64 x) : p.2.length ≤ 20 := hp.len (by unfold I64 at hx; omega)
theorem mul_len {x y : Int} {p : Bool × List Int} (hp : IsNum (x * y) p) (hx : I64 x) (hy : I64 y) : p.2.length ≤ 40 := by
  refine hp.len ?_
  rw [Int.natAbs_mul, Int.natCast_mul]
  have hx2 : (x.natAbs : Int) ≤ 9223372036854775808 := by unfold I64 at hx; omega
  have hy2 : (y.natAbs : Int) ≤ 9223372036854775808 := by unfold I64 at hy; omega
  have h1 := Int.mul_le_mul hx2 hy2 (Int.natCast_nonneg _) (by decide)
  have h2 : (9223372036854775808 : Int) * 9223372036854775808 < 10 ^ 40 := by decide +kernel
  exact Int.lt_of_le_of_lt h1 h2
theorem Mul_ref (l : List Int) (hw : ∀ x ∈ l, I64 x) (hl : l.length ≤ 1000) (c : Nat) (hc0 : 11000 ≤ c) (d : Nat) : ∀ (k i : Nat) (acc : Int) (p : Bool × List Int), I64 acc → IsNum acc p → l.length - i = d → i ≤ l.length → d + c < k →
    wayfarerref01_Mul.l0 k l (i : Int) p.1 p.2 = some (mulAll acc (l.drop i)) := by
  induction d with
  | zero =>
    intro k i acc p ha hp hd hi hk
    obtain ⟨k, rfl⟩ : ∃ m, k = m + 1 := ⟨k - 1, by omega⟩
    have hlen := I64_len hp ha
    simp only [wayfarerref01_Mul.l0]
    rw [if_neg (by omega), List.drop_eq_nil_of_le (by omega), told_spec p.1 p.2 hp.1 (by omega) k (by omega), hp.2.2.2, if_pos ha]
    rfl
  | succ d ih =>
    intro k i acc p ha hp hd hi hk
    obtain ⟨k, rfl⟩ : ∃ m, k = m + 1 := ⟨k - 1, by omega⟩
    have hlt : i < l.length := by omega
    have hlen := I64_len hp ha
    have hx := hw _ (List.getElem_mem hlt)
    obtain ⟨q, hq, hqn⟩ := Of_spec l[i] hx k (by omega)
    have hqlen := I64_len hqn hx
    obtain ⟨r, hr, hrn⟩ := Times_spec hp hqn (by omega) (by omega) k (by omega)
    have hrlen := mul_len hrn ha hx
    simp only [wayfarerref01_Mul.l0]
    rw [if_pos (by omega), if_pos (by omega), rd_nat l i hlt, hq, Option.bind_some, hr, Option.bind_some, Int_spec r.1 r.2 hrn.1 (by omega) k (by omega), hrn.2.2.2, Option.bind_some]
    rw [List.drop_eq_getElem_cons hlt]
    unfold mulAll
    by_cases hc : I64 (acc * l[i])
    · simp only [if_pos hc, if_true]
      rw [wrap_next hlt (by omega)]
      exact ih k (i + 1) _ r hc hrn (by omega) (by omega) (by omega)
    · simp only [if_neg hc]
      rfl
theorem Mul_ref_spec (l : List Int) (hw : ∀ x ∈ l, I64 x) (hl : l.length ≤ 1000) (k : Nat) (hk : 14000 < k) : wayfarerref01_Mul.f k l = some (mulAll 1 l) := by
  have h1 : I64 1 := by unfold I64; omega
  obtain ⟨q, hq, hqn⟩ := Of_spec 1 h1 k (by omega)
  unfold wayfarerref01_Mul.f
  rw [hq]
  exact Mul_ref l hw hl 12000 (by decide) l.length k 0 1 q h1 hqn (by omega) (by omega) (by omega)
theorem Neg_spec {n : Int} (hn : I64 n) : ints_Neg.f n = some (mulAll 1 [n, -1]) := by
  rw [mul2 hn]
  unfold ints_Neg.f
  by_cases h : n = -9223372036854775808
  · rw [if_pos h, if_neg (by rw [h]; decide +kernel)]
  · have h2 : I64 (n * -1) := by unfold I64 at *; omega
    rw [if_neg h, if_pos h2, show n * -1 = -n by omega, wrap_in (by rw [show -n = n * -1 by omega]; exact h2)]
theorem IntsMuls : wayfarerlaw01_IntsMuls.Pure := by
  intro l n t _ _ wl wn wt
  have hw : ∀ x ∈ l, I64 x := fun x hx => wf_i64 (wl x hx)
  have hn := wf_i64 wn
  have ht := wf_i64 wt
  refine ⟨15000, ?_⟩
  have hkn := known_ev 15000 (by omega)
  unfold wayfarerlaw01_IntsMuls.f
  by_cases h : (l.length : Int) > 200
  · rw [if_pos h, hkn]; rfl
  · have h1 : I64 (-1) := by unfold I64; omega
    rw [if_neg h, Mul_spec l hw (by omega) 15000 (by omega), Mul_ref_spec l hw (by omega) 15000 (by omega)]
    have ht2 : ints_Times.f 15000 n t = some (if t < 0 then (0, 2) else mulAll 1 [n, t]) := by
      unfold ints_Times.f
      by_cases h2 : t < 0
      · rw [if_pos h2, if_pos h2]
      · rw [if_neg h2, if_neg h2, Mul_spec [n, t] (by simp; exact ⟨hn, ht⟩) (by simp) 15000 (by simp)]; rfl
    rw [ht2, Mul_ref_spec [n, t] (by simp; exact ⟨hn, ht⟩) (by simp) 15000 (by omega)]
    simp only [Option.bind_some]
    rw [Neg_spec hn, Mul_ref_spec [n, -1] (by simp; exact ⟨hn, h1⟩) (by simp) 15000 (by omega)]
    simp only [Option.bind_some]
    by_cases h2 : t < 0
    · simp only [if_pos h2, if_true]
      rw [hkn]; rfl
    · simp only [if_neg h2, if_true]
      rw [hkn]; rfl
end Go.Proofs.Ytkeecomghgmamaa.Pure
