/- The whole table. -/
import Derived.Test.YtcgckbjdadmcmaaQ4D3
namespace Go.Proofs.Ytcgckbjdadmcmaa.W
open Go.Proofs.Ytcgckbjdadmcmaa.Flat
set_option linter.unusedVariables false
set_option linter.unusedSimpArgs false
theorem tab_ok : ∀ n, TabOk (tab n) (run Try.prog own kp X n)
  | 0 => ⟨fun _ _ _ h => (by cases h), fun _ _ _ h => (by cases h), fun _ _ _ _ h => (by cases h), fun _ _ _ h => (by cases h), fun _ _ _ h => (by cases h), fun _ _ _ _ h => (by cases h), fun _ _ _ h => (by cases h), fun _ h => (by cases h), fun _ _ h => (by cases h), fun _ _ h => (by cases h), fun _ _ _ h => (by cases h), fun _ _ _ h => (by cases h), fun _ _ h => (by cases h), fun _ _ _ h => (by cases h), fun _ _ h => (by cases h), fun _ _ _ h => (by cases h), fun _ _ _ h => (by cases h), fun _ _ _ h => (by cases h), fun _ _ _ h => (by cases h), fun _ _ _ h => (by cases h), fun _ _ _ h => (by cases h), fun _ _ _ h => (by cases h), fun _ _ _ h => (by cases h), fun _ _ _ h => (by cases h), fun _ _ h => (by cases h), fun _ _ h => (by cases h), fun _ _ _ h => (by cases h), fun _ _ _ h => (by cases h), fun _ _ _ h => (by cases h), fun _ _ _ _ h => (by cases h), fun _ _ h => (by cases h), fun _ _ _ h => (by cases h), fun _ _ h => (by cases h), fun _ _ _ h => (by cases h), fun _ _ _ h => (by cases h), fun _ _ _ h => (by cases h), fun _ _ _ h => (by cases h), fun _ _ _ h => (by cases h), fun _ _ _ _ h => (by cases h), fun _ _ _ h => (by cases h), fun _ _ _ h => (by cases h), fun _ _ h => (by cases h), fun _ _ h => (by cases h), fun _ _ _ h => (by cases h), fun _ _ _ h => (by cases h), fun _ _ _ _ h => (by cases h), fun _ _ _ h => (by cases h), fun _ _ h => (by cases h), fun _ _ _ h => (by cases h), fun _ _ _ h => (by cases h), fun _ _ _ h => (by cases h), fun _ _ _ h => (by cases h), fun _ _ _ h => (by cases h), fun _ _ h => (by cases h), fun _ _ _ h => (by cases h), fun _ _ h => (by cases h), fun _ _ _ h => (by cases h), fun _ _ _ h => (by cases h), fun _ _ _ h => (by cases h), fun _ _ _ _ h => (by cases h), fun _ _ _ h => (by cases h), fun _ _ h => (by cases h), fun _ _ _ h => (by cases h), fun _ _ _ h => (by cases h), fun _ _ _ h => (by cases h), fun _ _ _ h => (by cases h), fun _ _ h => (by cases h), fun _ _ _ _ h => (by cases h), fun _ _ _ h => (by cases h), fun _ _ _ h => (by cases h), fun _ _ h => (by cases h), fun _ _ _ h => (by cases h), fun _ _ _ _ h => (by cases h), fun _ _ h => (by cases h), fun _ _ _ h => (by cases h)⟩
  | n + 1 => ⟨law09_PredTests.ok (tab_ok n),
    law09_PredOthers.ok (tab_ok n),
    law09_PredOrder.ok (tab_ok n),
    law09_PredSets.ok (tab_ok n),
    law09_PredJoins.ok (tab_ok n),
    law09_PredRanges.ok (tab_ok n),
    law09_much.ok (tab_ok n),
    (fun r h => by rw [← Option.some.inj h]; exact run_told (by kernel_rfl)),
    pred_Check.ok (tab_ok n),
    ref09_Check.ok (tab_ok n),
    pred_Test.ok (tab_ok n),
    ref09_Test.ok (tab_ok n),
    pred_Negate.ok (tab_ok n),
    ref09_Same.ok (tab_ok n),
    ref02_Check.ok (tab_ok n),
    law09_one.ok (tab_ok n),
    ref02_Many.ok (tab_ok n),
    ref02_Same.ok (tab_ok n),
    ref09_Count.ok (tab_ok n),
    pred_Join.ok (tab_ok n),
    pred_right.ok (tab_ok n),
    ref09_right.ok (tab_ok n),
    pred_test.ok (tab_ok n),
    ref09_test.ok (tab_ok n),
    pred_Copy.ok (tab_ok n),
    pred_negate.ok (tab_ok n),
    ref02_SameRows.ok (tab_ok n),
    ref02_right.ok (tab_ok n),
    ref02_Count.ok (tab_ok n),
    ref02_compare.ok (tab_ok n),
    pred_arity.ok (tab_ok n),
    slices_ContainsFunc_pred_right_1.ok (tab_ok n),
    slices_ContainsFunc_pred_right_2.ok (tab_ok n),
    slices_ContainsFunc_pred_test_3.ok (tab_ok n),
    slices_ContainsFunc_pred_test_1.ok (tab_ok n),
    slices_ContainsFunc_pred_test_2.ok (tab_ok n),
    pred_test_2.ok (tab_ok n),
    pred_alike.ok (tab_ok n),
    pred_order.ok (tab_ok n),
    ref02_Cmp.ok (tab_ok n),
    pred_part.ok (tab_ok n),
    pred_other.ok (tab_ok n),
    ref02_fields.ok (tab_ok n),
    ref02_sign.ok (tab_ok n),
    ref02_texts.ok (tab_ok n),
    ref02_rows.ok (tab_ok n),
    slices_IndexFunc_pred_right_1.ok (tab_ok n),
    slices_IndexFunc_pred_right_2.ok (tab_ok n),
    slices_IndexFunc_pred_test_3.ok (tab_ok n),
    slices_IndexFunc_pred_test_1.ok (tab_ok n),
    slices_IndexFunc_pred_test_2.ok (tab_ok n),
    slices_ContainsFunc_pred_alike_1.ok (tab_ok n),
    value_Cmp.ok (tab_ok n),
    value_Copy.ok (tab_ok n),
    pred_right_1.ok (tab_ok n),
    pred_right_2.ok (tab_ok n),
    pred_test_3.ok (tab_ok n),
    pred_test_1.ok (tab_ok n),
    slices_IndexFunc_pred_alike_1.ok (tab_ok n),
    value_compare.ok (tab_ok n),
    value_part.ok (tab_ok n),
    value_Check.ok (tab_ok n),
    value_Same.ok (tab_ok n),
    pred_alike_1.ok (tab_ok n),
    cmp_Compare_int.ok (tab_ok n),
    strings_Compare.ok (tab_ok n),
    cmp_Or_int.ok (tab_ok n),
    slices_CompareFunc_value_compare_1.ok (tab_ok n),
    value_copied.ok (tab_ok n),
    value_plain.ok (tab_ok n),
    cmp_isNaN_int.ok (tab_ok n),
    (fun p1 p2 r h => by rw [← Option.some.inj h]; exact run_told (by kernel_rfl)),
    value_compare_1.ok (tab_ok n),
    slices_Concat_Value.ok (tab_ok n),
    (fun p1 p2 r h => by
    cases p1 with
    | nil =>
      by_cases hq : decide (0 ≤ p2 ∧ p2 * 80 ≤ 140737488355328) = true
      · have h : (if decide (0 ≤ p2 ∧ p2 * 80 ≤ 140737488355328) = true then some ([] : List GValue) else none) = some r := h
        rw [if_pos hq] at h
        rw [← Option.some.inj h]
        exact run_told (if_pos hq)
      · have h : (if decide (0 ≤ p2 ∧ p2 * 80 ≤ 140737488355328) = true then some ([] : List GValue) else none) = some r := h
        rw [if_neg hq] at h; cases h
    | cons _ _ => cases h)⟩
end Go.Proofs.Ytcgckbjdadmcmaa.W
