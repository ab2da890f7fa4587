/- So many of one, added to a number of two halves. -/
import Derived.Test.YtokfeoifkpedgaaGatH
namespace Go.Proofs.Ytokfeoifkpedgaa.W
open Go.Proofs.Ytokfeoifkpedgaa.Flat
set_option linter.unusedVariables false
set_option linter.unusedSimpArgs false
def U64' (x : Int) : Prop := 0 ≤ x ∧ x < 18446744073709551616
def I64' (x : Int) : Prop := -9223372036854775808 ≤ x ∧ x ≤ 9223372036854775807
theorem halves (hi lo n k : Int) (h1 : U64' hi) (h2 : U64' lo) (hn : I64' n) (hk : I64' k) (hk0 : 0 ≤ k) :
    ∃ ph pl ph', ph = (IntKind.wrap .u64 n * IntKind.wrap .u64 k) / 18446744073709551616 ∧ pl = (IntKind.wrap .u64 n * IntKind.wrap .u64 k) % 18446744073709551616 ∧ ph' = (if n < 0 then IntKind.wrap .u64 (ph - IntKind.wrap .u64 k) else ph) ∧ U64' ph ∧ U64' pl ∧ U64' ph' ∧
      (lo + pl + 0) % 18446744073709551616 = ((hi * 18446744073709551616 + lo) + n * k) % 18446744073709551616 ∧
      (hi + ph' + (lo + pl + 0) / 18446744073709551616) % 18446744073709551616 = (((hi * 18446744073709551616 + lo) + n * k) / 18446744073709551616) % 18446744073709551616 := by
  unfold U64' I64' at *
  refine ⟨_, _, _, rfl, rfl, rfl, ?_⟩
  have hk' : IntKind.wrap .u64 k = k := by rw [IntKind.wrap_u64]; omega
  rw [hk']
  by_cases hneg : n < 0
  · have hn' : IntKind.wrap .u64 n = n + 18446744073709551616 := by rw [IntKind.wrap_u64]; omega
    rw [hn', if_pos hneg, Int.add_mul, IntKind.wrap_u64]
    have hb : -9223372036854775808 * k ≤ n * k ∧ n * k ≤ 0 := ⟨Int.mul_le_mul_of_nonneg_right hn.1 hk0, Int.mul_nonpos_of_nonpos_of_nonneg (by omega) hk0⟩
    generalize n * k = p at hb ⊢
    clear hn' hk'
    refine ⟨⟨by omega, by omega⟩, ⟨by omega, by omega⟩, ⟨by omega, by omega⟩, by omega, by omega⟩
  · have hn' : IntKind.wrap .u64 n = n := by rw [IntKind.wrap_u64]; omega
    rw [hn', if_neg hneg]
    have hb : 0 ≤ n * k ∧ n * k ≤ 9223372036854775807 * 9223372036854775807 := by
      constructor
      · exact Int.mul_nonneg (by omega) hk0
      · exact Int.mul_le_mul hn.2 hk.2 hk0 (by decide)
    generalize n * k = p at hb ⊢
    clear hn' hk'
    refine ⟨⟨by omega, by omega⟩, ⟨by omega, by omega⟩, ⟨by omega, by omega⟩, by omega, by omega⟩
theorem wadd_evs : Ev fun N => ∀ (h l n k : Int), U64' h → U64' l → I64' n → I64' k → 0 ≤ k → (tab N).gather_wide_add n k (.mk h l) = some (.mk (((wv h l + n * k) / 18446744073709551616) % 18446744073709551616) ((wv h l + n * k) % 18446744073709551616)) :=
  Ev.step ((mul64_evs.and add64_evs).mono fun N hh h l n k h1 h2 hn hk hk0 => by
    obtain ⟨ph, pl, ph', e1, e2, e3, b1, b2, b3, e4, e5⟩ := halves h l n k h1 h2 hn hk hk0
    have hu1 : U64' (IntKind.wrap .u64 n) := by unfold U64'; rw [IntKind.wrap_u64]; omega
    have hu2 : U64' (IntKind.wrap .u64 k) := by unfold U64'; rw [IntKind.wrap_u64]; omega
    have hm := hh.1 (IntKind.wrap .u64 n) (IntKind.wrap .u64 k) hu1.1 hu1.2 hu2.1 hu2.2
    rw [← e1, ← e2] at hm
    have hj : gather_wide_add_j1 (tab N) N ph' pl h l = some (((wv h l + n * k) / 18446744073709551616) % 18446744073709551616, (wv h l + n * k) % 18446744073709551616) := by
      rw [gather_wide_add_j1, hh.2 l pl 0 h2.1 b2.1 (by omega) (by omega)]
      dsimp only
      have hc : 0 ≤ (l + pl + 0) / 18446744073709551616 ∧ (l + pl + 0) / 18446744073709551616 ≤ 1 := by
        unfold U64' at h2 b2
        omega
      rw [hh.2 h ph' _ h1.1 b3.1 hc.1 hc.2]
      dsimp only
      rw [e4, e5]
      rfl
    rw [tab_gather_wide_add, gather_wide_add, hm]
    dsimp only
    by_cases hneg : n < 0
    · rw [if_pos hneg] at e3
      rw [if_pos (by simpa using hneg), ← e3, hj]
    · rw [if_neg hneg] at e3
      rw [if_neg (by simpa using hneg), ← e3, hj])
end Go.Proofs.Ytokfeoifkpedgaa.W
