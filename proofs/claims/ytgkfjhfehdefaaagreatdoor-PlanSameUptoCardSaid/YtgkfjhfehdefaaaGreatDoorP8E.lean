/- The whole table. -/
import Derived.Test.YtgkfjhfehdefaaaGreatDoorP8D2
namespace Go.Proofs.YtgkfjhfehdefaaaGreatDoor.W
open Go.Proofs.YtgkfjhfehdefaaaGreatDoor.Flat
set_option linter.unusedVariables false
set_option linter.unusedSimpArgs false
theorem tab_ok : ∀ n, TabOk (tab n) (run Tryz.prog own kp X n)
  | 0 => ⟨fun _ _ _ h => (by cases h), fun _ _ h => (by cases h), fun _ h => (by cases h), fun _ _ _ h => (by cases h), fun _ _ h => (by cases h), fun _ _ h => (by cases h), fun _ _ _ h => (by cases h), fun _ _ _ _ h => (by cases h), fun _ _ _ h => (by cases h), fun _ _ _ h => (by cases h), fun _ _ h => (by cases h), fun _ _ _ h => (by cases h), fun _ _ _ h => (by cases h), fun _ _ _ h => (by cases h), fun _ _ _ h => (by cases h), fun _ _ _ h => (by cases h), fun _ _ _ h => (by cases h), fun _ _ _ h => (by cases h), fun _ _ h => (by cases h), fun _ _ _ h => (by cases h), fun _ _ h => (by cases h), fun _ _ h => (by cases h), fun _ _ h => (by cases h), fun _ _ h => (by cases h), fun _ _ _ h => (by cases h), fun _ _ _ _ h => (by cases h), fun _ _ h => (by cases h), fun _ _ h => (by cases h), fun _ _ h => (by cases h), fun _ _ h => (by cases h), fun _ _ h => (by cases h), fun _ _ _ _ h => (by cases h), fun _ _ _ _ h => (by cases h), fun _ _ _ h => (by cases h), fun _ _ _ h => (by cases h), fun _ _ _ h => (by cases h), fun _ _ _ h => (by cases h), fun _ _ _ h => (by cases h), fun _ _ _ h => (by cases h), fun _ _ _ h => (by cases h), fun _ _ _ h => (by cases h), fun _ _ _ h => (by cases h), fun _ _ _ h => (by cases h), fun _ _ h => (by cases h), fun _ _ h => (by cases h), fun _ _ h => (by cases h), fun _ _ _ h => (by cases h), fun _ _ _ h => (by cases h), fun _ _ _ h => (by cases h), fun _ _ _ h => (by cases h), fun _ _ _ _ h => (by cases h), fun _ _ _ h => (by cases h), fun _ _ _ h => (by cases h), fun _ _ _ h => (by cases h), fun _ _ _ h => (by cases h), fun _ _ _ h => (by cases h), fun _ _ h => (by cases h), fun _ _ _ h => (by cases h), fun _ _ _ _ h => (by cases h), fun _ _ _ h => (by cases h), fun _ _ _ h => (by cases h), fun _ _ h => (by cases h), fun _ _ _ _ h => (by cases h), fun _ _ h => (by cases h), fun _ _ _ h => (by cases h), fun _ _ _ _ h => (by cases h)⟩
  | n + 1 => ⟨law12_PlanSame.ok (tab_ok n),
    law12_much.ok (tab_ok n),
    (fun r h => by rw [← Option.some.inj h]; exact run_told (by kernel_rfl)),
    plan_Same.ok (tab_ok n),
    plan_Copy.ok (tab_ok n),
    ref12_Check.ok (tab_ok n),
    ref12_Same.ok (tab_ok n),
    ref12_Much.ok (tab_ok n),
    slices_EqualFunc_plan_Same_1.ok (tab_ok n),
    plan_copied.ok (tab_ok n),
    ref12_Steps.ok (tab_ok n),
    ref12_right.ok (tab_ok n),
    ref12_sameTexts.ok (tab_ok n),
    ref12_sameNumbers.ok (tab_ok n),
    ref02_Same.ok (tab_ok n),
    ref09_Same.ok (tab_ok n),
    ref02_Count.ok (tab_ok n),
    ref09_Count.ok (tab_ok n),
    ref12_Inner.ok (tab_ok n),
    plan_Same_1.ok (tab_ok n),
    (fun p1 r h => by
    by_cases hq : decide (p1.length * 16 ≤ 140737488355328) = true
    · have h : (if decide (p1.length * 16 ≤ 140737488355328) = true then some p1 else none) = some r := h
      rw [if_pos hq] at h
      rw [← Option.some.inj h]
      have e : (if decide ((texts p1).length * 16 ≤ 140737488355328) = true then some (AV.t (T.xl 1 (texts p1)), ([] : List AV)) else none) = some (AV.t (T.xl 1 (texts p1)), []) := if_pos (by rw [texts_map, List.length_map]; exact hq)
      exact run_told e
    · have h : (if decide (p1.length * 16 ≤ 140737488355328) = true then some p1 else none) = some r := h
      rw [if_neg hq] at h; cases h),
    (fun p1 r h => by
    by_cases hq : decide (p1.length * 8 ≤ 140737488355328) = true
    · have h : (if decide (p1.length * 8 ≤ 140737488355328) = true then some p1 else none) = some r := h
      rw [if_pos hq] at h
      rw [← Option.some.inj h]
      have e : (if decide ((ints_i64 p1).length * 8 ≤ 140737488355328) = true then some (AV.t (T.xl 1 (ints_i64 p1)), ([] : List AV)) else none) = some (AV.t (T.xl 1 (ints_i64 p1)), []) := if_pos (by rw [ints_i64_map, List.length_map]; exact hq)
      exact run_told e
    · have h : (if decide (p1.length * 8 ≤ 140737488355328) = true then some p1 else none) = some r := h
      rw [if_neg hq] at h; cases h),
    value_Copy.ok (tab_ok n),
    pred_Copy.ok (tab_ok n),
    plan_plans.ok (tab_ok n),
    ref12_steps.ok (tab_ok n),
    ref12_own.ok (tab_ok n),
    ref12_named.ok (tab_ok n),
    ref02_Check.ok (tab_ok n),
    ref09_Check.ok (tab_ok n),
    ref12_Name.ok (tab_ok n),
    ref12_by.ok (tab_ok n),
    ref02_compare.ok (tab_ok n),
    ref02_SameRows.ok (tab_ok n),
    ref02_Many.ok (tab_ok n),
    slices_Equal_string.ok (tab_ok n),
    slices_Equal_int.ok (tab_ok n),
    value_Same.ok (tab_ok n),
    plan_samePred.ok (tab_ok n),
    slices_EqualFunc_plan_Same.ok (tab_ok n),
    slices_EqualFunc_plan_sameBy.ok (tab_ok n),
    value_part.ok (tab_ok n),
    pred_part.ok (tab_ok n),
    ref12_low.ok (tab_ok n),
    ref12_once.ok (tab_ok n),
    ref05_Name.ok (tab_ok n),
    ref02_right.ok (tab_ok n),
    ref09_right.ok (tab_ok n),
    ref02_sign.ok (tab_ok n),
    ref02_texts.ok (tab_ok n),
    ref02_rows.ok (tab_ok n),
    value_Cmp.ok (tab_ok n),
    slices_EqualFunc_value_Same.ok (tab_ok n),
    slices_EqualFunc_plan_samePred.ok (tab_ok n),
    plan_sameBy.ok (tab_ok n),
    value_copied.ok (tab_ok n),
    ref02_fields.ok (tab_ok n),
    ref02_Cmp.ok (tab_ok n),
    value_compare.ok (tab_ok n),
    cmp_Compare_int.ok (tab_ok n),
    strings_Compare.ok (tab_ok n),
    cmp_Or_int.ok (tab_ok n),
    slices_CompareFunc_value_compare_1.ok (tab_ok n),
    cmp_isNaN_int.ok (tab_ok n),
    (fun p1 p2 r h => by rw [← Option.some.inj h]; exact run_told (by kernel_rfl)),
    value_compare_1.ok (tab_ok n)⟩
end Go.Proofs.YtgkfjhfehdefaaaGreatDoor.W
