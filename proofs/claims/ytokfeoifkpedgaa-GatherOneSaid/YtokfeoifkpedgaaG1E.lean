/- The whole table. -/
import Derived.Test.YtokfeoifkpedgaaG1D1
namespace Go.Proofs.Ytokfeoifkpedgaa.W
open Go.Proofs.Ytokfeoifkpedgaa.Flat
set_option linter.unusedVariables false
set_option linter.unusedSimpArgs false
theorem tab_ok : ∀ n, TabOk (tab n) (run Try.prog own kp X n)
  | 0 => ⟨fun _ _ h => (by cases h), fun _ _ h => (by cases h), fun _ h => (by cases h), fun _ _ h => (by cases h), fun _ _ h => (by cases h), fun _ _ h => (by cases h), fun _ _ h => (by cases h), fun _ _ h => (by cases h), fun _ _ h => (by cases h), fun _ _ _ h => (by cases h), fun _ _ _ h => (by cases h), fun _ _ h => (by cases h), fun _ _ _ _ h => (by cases h), fun _ _ h => (by cases h), fun _ _ h => (by cases h), fun _ _ _ h => (by cases h), fun _ _ _ h => (by cases h), fun _ _ h => (by cases h), fun _ _ h => (by cases h), fun _ _ h => (by cases h), fun _ _ h => (by cases h), fun _ _ _ h => (by cases h), fun _ _ _ _ h => (by cases h), fun _ _ h => (by cases h), fun _ _ _ h => (by cases h), fun _ _ _ _ h => (by cases h), fun _ _ h => (by cases h), fun _ _ _ h => (by cases h), fun _ _ _ h => (by cases h), fun _ _ _ h => (by cases h), fun _ _ _ h => (by cases h), fun _ _ _ h => (by cases h), fun _ _ _ h => (by cases h), fun _ _ _ h => (by cases h), fun _ _ _ _ h => (by cases h), fun _ _ _ h => (by cases h), fun _ _ h => (by cases h), fun _ _ _ h => (by cases h), fun _ _ _ h => (by cases h), fun _ _ _ _ h => (by cases h), fun _ _ _ h => (by cases h), fun _ _ _ h => (by cases h), fun _ _ h => (by cases h), fun _ _ _ _ h => (by cases h), fun _ _ h => (by cases h), fun _ _ _ h => (by cases h), fun _ _ _ _ h => (by cases h)⟩
  | n + 1 => ⟨law16_GatherOne.ok (tab_ok n),
    law16_many.ok (tab_ok n),
    (fun r h => by rw [← Option.some.inj h]; exact run_told (by kernel_rfl)),
    gather_Sum.ok (tab_ok n),
    ref16_Sum.ok (tab_ok n),
    gather_Ends.ok (tab_ok n),
    ref16_Ends.ok (tab_ok n),
    gather_Fold.ok (tab_ok n),
    ref16_Fold.ok (tab_ok n),
    ref02_Same.ok (tab_ok n),
    ref02_Count.ok (tab_ok n),
    gather_size.ok (tab_ok n),
    gather_wide_add.ok (tab_ok n),
    ref16_Size.ok (tab_ok n),
    ref01_Of.ok (tab_ok n),
    ref01_Num_Times.ok (tab_ok n),
    ref01_Num_Plus.ok (tab_ok n),
    ref01_Num_Int.ok (tab_ok n),
    slices_MinFunc_gather_Ends_1.ok (tab_ok n),
    value_Copy.ok (tab_ok n),
    slices_MaxFunc_gather_Ends_1.ok (tab_ok n),
    ref02_Cmp.ok (tab_ok n),
    ref02_compare.ok (tab_ok n),
    ints_Add.ok (tab_ok n),
    math_bits_Mul64.ok (tab_ok n),
    (fun a b c r h => by
    by_cases hq : decide (0 ≤ a ∧ 0 ≤ b ∧ 0 ≤ c ∧ c ≤ 1) = true
    · have h : (if decide (0 ≤ a ∧ 0 ≤ b ∧ 0 ≤ c ∧ c ≤ 1) = true then some ((a + b + c) % 18446744073709551616, (a + b + c) / 18446744073709551616) else none) = some r := h
      rw [if_pos hq] at h
      rw [← Option.some.inj h]
      exact run_told (if_pos hq)
    · have h : (if decide (0 ≤ a ∧ 0 ≤ b ∧ 0 ≤ c ∧ c ≤ 1) = true then some ((a + b + c) % 18446744073709551616, (a + b + c) / 18446744073709551616) else none) = some r := h
      rw [if_neg hq] at h
      cases h),
    ref01_Add.ok (tab_ok n),
    ref01_trim.ok (tab_ok n),
    ref01_digit.ok (tab_ok n),
    ref01_size.ok (tab_ok n),
    gather_Ends_1.ok (tab_ok n),
    value_part.ok (tab_ok n),
    ref02_sign.ok (tab_ok n),
    ref02_texts.ok (tab_ok n),
    ref02_rows.ok (tab_ok n),
    ints_add.ok (tab_ok n),
    ref01_told.ok (tab_ok n),
    value_Cmp.ok (tab_ok n),
    value_copied.ok (tab_ok n),
    value_compare.ok (tab_ok n),
    cmp_Compare_int.ok (tab_ok n),
    strings_Compare.ok (tab_ok n),
    cmp_Or_int.ok (tab_ok n),
    slices_CompareFunc_value_compare_1.ok (tab_ok n),
    cmp_isNaN_int.ok (tab_ok n),
    (fun p1 p2 r h => by rw [← Option.some.inj h]; exact run_told (by kernel_rfl)),
    value_compare_1.ok (tab_ok n)⟩
end Go.Proofs.Ytokfeoifkpedgaa.W
