/- The whole table. -/
import Derived.Test.YtgkfjhfehdefaaaGreatDoorP1D2
namespace Go.Proofs.YtgkfjhfehdefaaaGreatDoor.W
open Go.Proofs.YtgkfjhfehdefaaaGreatDoor.Flat
set_option linter.unusedVariables false
set_option linter.unusedSimpArgs false
theorem tab_ok : ∀ n, TabOk (tab n) (run Tryz.prog own kp X n)
  | 0 => ⟨fun _ _ _ h => (by cases h), fun _ _ h => (by cases h), fun _ h => (by cases h), fun _ _ h => (by cases h), fun _ _ h => (by cases h), fun _ _ h => (by cases h), fun _ _ h => (by cases h), fun _ _ h => (by cases h), fun _ _ h => (by cases h), fun _ _ h => (by cases h), fun _ _ h => (by cases h), fun _ _ h => (by cases h), fun _ _ h => (by cases h), fun _ _ _ _ h => (by cases h), fun _ _ _ h => (by cases h), fun _ _ _ h => (by cases h), fun _ _ _ _ h => (by cases h), fun _ _ _ _ h => (by cases h), fun _ _ _ h => (by cases h), fun _ _ _ h => (by cases h), fun _ _ _ h => (by cases h), fun _ _ h => (by cases h), fun _ _ _ h => (by cases h), fun _ _ h => (by cases h), fun _ _ _ h => (by cases h), fun _ _ _ h => (by cases h), fun _ _ h => (by cases h), fun _ _ _ h => (by cases h), fun _ _ h => (by cases h), fun _ _ h => (by cases h), fun _ _ h => (by cases h), fun _ _ h => (by cases h), fun _ _ _ _ h => (by cases h), fun _ _ _ h => (by cases h), fun _ _ _ h => (by cases h), fun _ _ h => (by cases h), fun _ _ _ h => (by cases h), fun _ _ h => (by cases h), fun _ _ _ h => (by cases h), fun _ _ _ h => (by cases h), fun _ _ h => (by cases h), fun _ _ h => (by cases h), fun _ _ h => (by cases h), fun _ _ _ h => (by cases h), fun _ _ _ h => (by cases h), fun _ _ _ h => (by cases h), fun _ _ _ _ h => (by cases h), fun _ _ h => (by cases h), fun _ _ _ h => (by cases h), fun _ _ h => (by cases h), fun _ _ _ h => (by cases h), fun _ _ h => (by cases h), fun _ _ _ h => (by cases h), fun _ _ _ h => (by cases h), fun _ _ _ h => (by cases h), fun _ _ _ _ h => (by cases h), fun _ _ _ h => (by cases h), fun _ _ h => (by cases h), fun _ _ _ h => (by cases h), fun _ _ _ h => (by cases h), fun _ _ h => (by cases h), fun _ _ h => (by cases h), fun _ h => (by cases h), fun _ _ _ h => (by cases h), fun _ _ h => (by cases h), fun _ _ h => (by cases h), fun _ _ h => (by cases h), fun _ _ h => (by cases h), fun _ _ h => (by cases h), fun _ _ _ h => (by cases h), fun _ _ h => (by cases h), fun _ _ _ _ h => (by cases h), fun _ _ _ h => (by cases h), fun _ _ _ h => (by cases h), fun _ _ h => (by cases h), fun _ _ h => (by cases h), fun _ _ _ h => (by cases h), fun _ _ _ h => (by cases h), fun _ _ _ h => (by cases h), fun _ _ _ h => (by cases h), fun _ _ h => (by cases h), fun _ _ h => (by cases h), fun _ _ _ h => (by cases h), fun _ _ _ h => (by cases h), fun _ _ h => (by cases h), fun _ _ h => (by cases h), fun _ _ h => (by cases h), fun _ _ h => (by cases h), fun _ _ _ h => (by cases h), fun _ _ h => (by cases h), fun _ _ _ h => (by cases h), fun _ _ _ _ h => (by cases h), fun _ _ h => (by cases h), fun _ _ _ h => (by cases h), fun _ _ _ h => (by cases h), fun _ _ _ h => (by cases h), fun _ _ _ h => (by cases h), fun _ _ _ h => (by cases h), fun _ _ h => (by cases h), fun _ _ _ h => (by cases h), fun _ _ _ h => (by cases h), fun _ _ h => (by cases h), fun _ _ _ _ h => (by cases h), fun _ _ h => (by cases h), fun _ _ _ h => (by cases h), fun _ _ h => (by cases h), fun _ _ h => (by cases h), fun _ _ _ h => (by cases h), fun _ _ _ _ h => (by cases h)⟩
  | n + 1 => ⟨law12_PlanChecks.ok (tab_ok n),
    law12_much.ok (tab_ok n),
    (fun r h => by rw [← Option.some.inj h]; exact run_told (by kernel_rfl)),
    plan_Check.ok (tab_ok n),
    ref12_Check.ok (tab_ok n),
    plan_Steps.ok (tab_ok n),
    ref12_Steps.ok (tab_ok n),
    plan_Nest.ok (tab_ok n),
    ref12_Nest.ok (tab_ok n),
    plan_Free.ok (tab_ok n),
    ref12_Free.ok (tab_ok n),
    plan_Name.ok (tab_ok n),
    ref12_Name.ok (tab_ok n),
    ref12_Much.ok (tab_ok n),
    plan_right.ok (tab_ok n),
    ref12_right.ok (tab_ok n),
    plan_steps.ok (tab_ok n),
    ref12_steps.ok (tab_ok n),
    plan_nest.ok (tab_ok n),
    ref12_nest.ok (tab_ok n),
    plan_Uses.ok (tab_ok n),
    plan_plan_Free_1.ok (tab_ok n),
    ref12_Uses.ok (tab_ok n),
    ref12_Named.ok (tab_ok n),
    ref02_Count.ok (tab_ok n),
    ref09_Count.ok (tab_ok n),
    ref12_Inner.ok (tab_ok n),
    slices_ContainsFunc_plan_right_1.ok (tab_ok n),
    ref12_own.ok (tab_ok n),
    ref12_named.ok (tab_ok n),
    ref02_Check.ok (tab_ok n),
    ref09_Check.ok (tab_ok n),
    ref12_by.ok (tab_ok n),
    ref09_Same.ok (tab_ok n),
    ref02_Same.ok (tab_ok n),
    plan_inner.ok (tab_ok n),
    plan_plan_Uses_1.ok (tab_ok n),
    slices_ContainsFunc_plan_some_1.ok (tab_ok n),
    ref02_Many.ok (tab_ok n),
    slices_IndexFunc_plan_right_1.ok (tab_ok n),
    ref12_low.ok (tab_ok n),
    ref12_once.ok (tab_ok n),
    ref05_Name.ok (tab_ok n),
    ref02_right.ok (tab_ok n),
    ref09_right.ok (tab_ok n),
    ref02_SameRows.ok (tab_ok n),
    ref02_compare.ok (tab_ok n),
    (fun p1 r h => by
    by_cases hq : decide (p1.length * 24 ≤ 140737488355328) = true
    · have h : (if decide (p1.length * 24 ≤ 140737488355328) = true then some p1 else none) = some r := h
      rw [if_pos hq] at h
      rw [← Option.some.inj h]
      have e : (if decide ((rows_GStep_ts p1).length * 24 ≤ 140737488355328) = true then some (AV.t (T.sl true 1 (rows_GStep_ts p1)), ([] : List AV)) else none) = some (AV.t (T.sl true 1 (rows_GStep_ts p1)), []) := if_pos (by rw [rows_GStep_ts_map, List.length_map]; exact hq)
      exact run_told e
    · have h : (if decide (p1.length * 24 ≤ 140737488355328) = true then some p1 else none) = some r := h
      rw [if_neg hq] at h; cases h),
    slices_ContainsFunc_plan_some_1_i2.ok (tab_ok n),
    slices_IndexFunc_plan_some_1.ok (tab_ok n),
    plan_right_1.ok (tab_ok n),
    ref02_fields.ok (tab_ok n),
    ref02_Cmp.ok (tab_ok n),
    ref02_sign.ok (tab_ok n),
    ref02_texts.ok (tab_ok n),
    ref02_rows.ok (tab_ok n),
    slices_IndexFunc_plan_some_1_i2.ok (tab_ok n),
    plan_some_1_plan_Free_1.ok (tab_ok n),
    plan_step.ok (tab_ok n),
    plan_some_1_plan_Uses_1.ok (tab_ok n),
    plan_Free_1.ok (tab_ok n),
    slices_ContainsFunc_plan_some_1_1.ok (tab_ok n),
    plan_shapes.ok (tab_ok n),
    plan_in.ok (tab_ok n),
    slices_ContainsFunc_plan_step_1.ok (tab_ok n),
    value_Check.ok (tab_ok n),
    pred_Check.ok (tab_ok n),
    plan_twice.ok (tab_ok n),
    plan_empty.ok (tab_ok n),
    value_Same.ok (tab_ok n),
    plan_numbers.ok (tab_ok n),
    plan_by.ok (tab_ok n),
    plan_Uses_1.ok (tab_ok n),
    slices_ContainsFunc_plan_some_1_1_i2.ok (tab_ok n),
    slices_IndexFunc_plan_some_1_1.ok (tab_ok n),
    slices_IndexFunc_plan_step_1.ok (tab_ok n),
    value_plain.ok (tab_ok n),
    pred_right.ok (tab_ok n),
    slices_Contains_string.ok (tab_ok n),
    value_Cmp.ok (tab_ok n),
    slices_ContainsFunc_plan_numbers_1.ok (tab_ok n),
    graph_Name.ok (tab_ok n),
    slices_Contains_int.ok (tab_ok n),
    slices_IndexFunc_plan_some_1_1_i2.ok (tab_ok n),
    plan_some_1_1_plan_Free_1.ok (tab_ok n),
    plan_step_1.ok (tab_ok n),
    slices_Concat_Value.ok (tab_ok n),
    pred_arity.ok (tab_ok n),
    slices_ContainsFunc_pred_right_1.ok (tab_ok n),
    slices_ContainsFunc_pred_right_2.ok (tab_ok n),
    slices_Index_string.ok (tab_ok n),
    value_compare.ok (tab_ok n),
    slices_IndexFunc_plan_numbers_1.ok (tab_ok n),
    graph_sign.ok (tab_ok n),
    slices_Index_int.ok (tab_ok n),
    plan_some_1_1_plan_Uses_1.ok (tab_ok n),
    (fun p1 p2 r h => by
    cases p1 with
    | nil =>
      by_cases hq : decide (0 ≤ p2 ∧ p2 * 80 ≤ 140737488355328) = true
      · have h : (if decide (0 ≤ p2 ∧ p2 * 80 ≤ 140737488355328) = true then some ([] : List GValue) else none) = some r := h
        rw [if_pos hq] at h
        rw [← Option.some.inj h]
        exact run_told (if_pos hq)
      · have h : (if decide (0 ≤ p2 ∧ p2 * 80 ≤ 140737488355328) = true then some ([] : List GValue) else none) = some r := h
        rw [if_neg hq] at h; cases h
    | cons _ _ => cases h),
    slices_IndexFunc_pred_right_1.ok (tab_ok n),
    slices_IndexFunc_pred_right_2.ok (tab_ok n),
    cmp_Compare_int.ok (tab_ok n),
    strings_Compare.ok (tab_ok n),
    cmp_Or_int.ok (tab_ok n),
    slices_CompareFunc_value_compare_1.ok (tab_ok n),
    plan_numbers_1.ok (tab_ok n),
    pred_right_1.ok (tab_ok n),
    pred_right_2.ok (tab_ok n),
    cmp_isNaN_int.ok (tab_ok n),
    (fun p1 p2 r h => by rw [← Option.some.inj h]; exact run_told (by kernel_rfl)),
    value_compare_1.ok (tab_ok n)⟩
end Go.Proofs.YtgkfjhfehdefaaaGreatDoor.W
