/- The functions of this program, over plain data. -/
import Derived.Test.YtgkfjhfehdefaaaGreatDoorP1A
import Derived.Lib.Bytealg
namespace Go.Proofs.YtgkfjhfehdefaaaGreatDoor.W
open Go.Proofs.YtgkfjhfehdefaaaGreatDoor.Flat
set_option linter.unusedVariables false
set_option linter.unusedSimpArgs false
structure Tab where
  law12_PlanChecks : (List GStep) → Int → Option Bool
  law12_much : (List GStep) → Option Bool
  law12_known : Option Bool
  plan_Check : (List GStep) → Option Int
  ref12_Check : (List GStep) → Option Int
  plan_Steps : (List GStep) → Option Int
  ref12_Steps : (List GStep) → Option Int
  plan_Nest : (List GStep) → Option Int
  ref12_Nest : (List GStep) → Option Int
  plan_Free : (List GStep) → Option Bool
  ref12_Free : (List GStep) → Option Bool
  plan_Name : Int → Option ByteArray
  ref12_Name : Int → Option ByteArray
  ref12_Much : (List GStep) → Int → Int → Option Int
  plan_right : (List GStep) → Int → Option Bool
  ref12_right : (List GStep) → Int → Option Bool
  plan_steps : (List GStep) → Int → Int → Option Int
  ref12_steps : (List GStep) → Int → Int → Option Int
  plan_nest : (List GStep) → Int → Option Int
  ref12_nest : (List GStep) → Int → Option Int
  plan_Uses : (List GStep) → (List Int) → Option Bool
  plan_plan_Free_1 : (List GStep) → Option Bool
  ref12_Uses : (List GStep) → (List Int) → Option Bool
  ref12_Named : (List GStep) → Option Bool
  ref02_Count : GValue → Int → Option Int
  ref09_Count : GPred → Int → Option Int
  ref12_Inner : GStep → Option (List (List GStep))
  slices_ContainsFunc_plan_right_1 : (List GStep) → Int → Option Bool
  ref12_own : GStep → Option Bool
  ref12_named : (List ByteArray) → Option Bool
  ref02_Check : GValue → Option Int
  ref09_Check : GPred → Option Int
  ref12_by : GBy → Bool → Int → Option Bool
  ref09_Same : GPred → GPred → Option Bool
  ref02_Same : GValue → GValue → Option Bool
  plan_inner : GStep → Option (List (List GStep))
  plan_plan_Uses_1 : (List GStep) → (List Int) → Option Bool
  slices_ContainsFunc_plan_some_1 : (List GStep) → Option Bool
  ref02_Many : (List GValue) → Int → Option Int
  slices_IndexFunc_plan_right_1 : (List GStep) → Int → Option Int
  ref12_low : (List Int) → Option Bool
  ref12_once : (List ByteArray) → Option Bool
  ref05_Name : ByteArray → Option Bool
  ref02_right : GValue → Int → Option Bool
  ref09_right : GPred → Int → Option Bool
  ref02_SameRows : (List GValue) → (List GValue) → Option Bool
  ref02_compare : GValue → GValue → Int → Option Int
  slices_Clone_Step : (List (List GStep)) → Option (List (List GStep))
  slices_ContainsFunc_plan_some_1_i2 : (List GStep) → (List Int) → Option Bool
  slices_IndexFunc_plan_some_1 : (List GStep) → Option Int
  plan_right_1 : GStep → Int → Option Bool
  ref02_fields : GValue → Option Bool
  ref02_Cmp : GValue → GValue → Option Int
  ref02_sign : Int → Int → Option Int
  ref02_texts : ByteArray → ByteArray → Option Int
  ref02_rows : (List GValue) → (List GValue) → Int → Option Int
  slices_IndexFunc_plan_some_1_i2 : (List GStep) → (List Int) → Option Int
  plan_some_1_plan_Free_1 : GStep → Option Bool
  plan_step : GStep → Int → Option Bool
  plan_some_1_plan_Uses_1 : GStep → (List Int) → Option Bool
  plan_Free_1 : GStep → Option Bool
  slices_ContainsFunc_plan_some_1_1 : (List (List GStep)) → Option Bool
  plan_shapes : Option GT89
  plan_in : Int → GT86 → Option Bool
  slices_ContainsFunc_plan_step_1 : (List ByteArray) → Option Bool
  value_Check : GValue → Option Int
  pred_Check : GPred → Option Int
  plan_twice : (List ByteArray) → Option Bool
  plan_empty : GPred → Option Bool
  value_Same : GValue → GValue → Option Bool
  plan_numbers : GStep → Option Bool
  plan_by : GBy → Bool → Int → Option Bool
  plan_Uses_1 : GStep → (List Int) → Option Bool
  slices_ContainsFunc_plan_some_1_1_i2 : (List (List GStep)) → (List Int) → Option Bool
  slices_IndexFunc_plan_some_1_1 : (List (List GStep)) → Option Int
  slices_IndexFunc_plan_step_1 : (List ByteArray) → Option Int
  value_plain : GValue → Int → Option Bool
  pred_right : GPred → Int → Option Bool
  slices_Contains_string : (List ByteArray) → ByteArray → Option Bool
  value_Cmp : GValue → GValue → Option Int
  slices_ContainsFunc_plan_numbers_1 : (List Int) → Option Bool
  graph_Name : ByteArray → Option Bool
  slices_Contains_int : (List Int) → Int → Option Bool
  slices_IndexFunc_plan_some_1_1_i2 : (List (List GStep)) → (List Int) → Option Int
  plan_some_1_1_plan_Free_1 : (List GStep) → Option Bool
  plan_step_1 : ByteArray → Option Bool
  slices_Concat_Value : (List (List GValue)) → Option (List GValue)
  pred_arity : Int → Option (Int × Int × Int × Int)
  slices_ContainsFunc_pred_right_1 : (List GPred) → Int → Option Bool
  slices_ContainsFunc_pred_right_2 : (List GValue) → Option Bool
  slices_Index_string : (List ByteArray) → ByteArray → Option Int
  value_compare : GValue → GValue → Int → Option Int
  slices_IndexFunc_plan_numbers_1 : (List Int) → Option Int
  graph_sign : Int → Bool → Option Bool
  slices_Index_int : (List Int) → Int → Option Int
  plan_some_1_1_plan_Uses_1 : (List GStep) → (List Int) → Option Bool
  slices_Grow_Value : (List GValue) → Int → Option (List GValue)
  slices_IndexFunc_pred_right_1 : (List GPred) → Int → Option Int
  slices_IndexFunc_pred_right_2 : (List GValue) → Option Int
  cmp_Compare_int : Int → Int → Option Int
  strings_Compare : ByteArray → ByteArray → Option Int
  cmp_Or_int : (List Int) → Option Int
  slices_CompareFunc_value_compare_1 : (List GValue) → (List GValue) → Int → Option Int
  plan_numbers_1 : Int → Option Bool
  pred_right_1 : GPred → Int → Option Bool
  pred_right_2 : GValue → Option Bool
  cmp_isNaN_int : Int → Option Bool
  bytealg_CompareString : ByteArray → ByteArray → Option Int
  value_compare_1 : GValue → GValue → Int → Option Int
def law12_PlanChecks (t : Tab) (n : Nat) : (List GStep) → Int → Option Bool
 | a1, a2 =>
 (match t.law12_much a1 with
 | some a3 =>
 if a3 = true then
 t.law12_known 
 else
 (match t.plan_Check a1 with
 | some a5 =>
 (match t.ref12_Check a1 with
 | some a6 =>
 if (a5 == a6) = true then
 (match t.plan_Steps a1 with
 | some a7 =>
 (match t.ref12_Steps a1 with
 | some a8 =>
 if (a7 == a8) = true then
 (match t.plan_Nest a1 with
 | some a9 =>
 (match t.ref12_Nest a1 with
 | some a10 =>
 if (a9 == a10) = true then
 (match t.plan_Free a1 with
 | some a11 =>
 (match t.ref12_Free a1 with
 | some a12 =>
 if (a11 == a12) = true then
 (match t.plan_Name a2 with
 | some a13 =>
 (match t.ref12_Name a2 with
 | some a14 =>
 if (a13.toList == a14.toList) = true then
 t.law12_known 
 else
 some false
 | none => none)
 | none => none)
 else
 some false
 | none => none)
 | none => none)
 else
 some false
 | none => none)
 | none => none)
 else
 some false
 | none => none)
 | none => none)
 else
 some false
 | none => none)
 | none => none)
 | none => none)
def law12_much (t : Tab) (n : Nat) : (List GStep) → Option Bool
 | a1 =>
 (match t.ref12_Much a1 1500 14 with
 | some a2 =>
 some (decide (a2 ≥ 1500))
 | none => none)
def plan_Check (t : Tab) (n : Nat) : (List GStep) → Option Int
 | a1 =>
 (match t.plan_Steps a1 with
 | some a2 =>
 if (decide (a2 > 400)) = true then
 some 2
 else
 (match t.plan_right a1 1 with
 | some a3 =>
 if a3 = true then
 some 0
 else
 some 2
 | none => none)
 | none => none)
def ref12_Check (t : Tab) (n : Nat) : (List GStep) → Option Int
 | a1 =>
 (match t.ref12_Steps a1 with
 | some a2 =>
 if (decide (a2 > 400)) = true then
 some 2
 else
 (match t.ref12_right a1 1 with
 | some a3 =>
 if a3 = true then
 some 0
 else
 some 2
 | none => none)
 | none => none)
def plan_Steps (t : Tab) (n : Nat) : (List GStep) → Option Int
 | a1 =>
 t.plan_steps a1 401 1
def ref12_Steps (t : Tab) (n : Nat) : (List GStep) → Option Int
 | a1 =>
 (match t.ref12_steps a1 401 11 with
 | some a2 =>
 some (if (401 : Int) < a2 then 401 else a2)
 | none => none)
def plan_Nest (t : Tab) (n : Nat) : (List GStep) → Option Int
 | a1 =>
 t.plan_nest a1 12
def ref12_Nest (t : Tab) (n : Nat) : (List GStep) → Option Int
 | a1 =>
 t.ref12_nest a1 11
def plan_Free (t : Tab) (n : Nat) : (List GStep) → Option Bool
 | a1 =>
 (match t.plan_Uses a1 ([38, 26, 27, 39] : List Int) with
 | some a2 =>
 if a2 = true then
 some false
 else
 (match t.plan_plan_Free_1 a1 with
 | some a3 =>
 some (!a3)
 | none => none)
 | none => none)
def ref12_Free (t : Tab) (n : Nat) : (List GStep) → Option Bool
 | a1 =>
 (match t.ref12_Uses a1 ([26, 27, 38, 39] : List Int) with
 | some a2 =>
 if a2 = true then
 some false
 else
 (match t.ref12_Named a1 with
 | some a3 =>
 some (!a3)
 | none => none)
 | none => none)
def plan_Name (t : Tab) (n : Nat) : Int → Option ByteArray
 | a1 =>
 if (decide (a1 < 1)) = true then
 some (ByteArray.mk #[])
 else
 if (decide (a1 > 51)) = true then
 some (ByteArray.mk #[])
 else
 if (decide (0 ≤ (a1 : Int) ∧ (a1 : Int) < ((52 : Nat) : Int))) = true then
 (match gl0[(a1 : Int).toNat]? with
 | some a2 =>
 some a2
 | none => none)
 else none
def ref12_Name_j2 (t : Tab) (n : Nat) (a1 : Int) (a2 : List ByteArray) : Option ByteArray :=
 if (decide (0 ≤ ((IntKind.wrap .i64 (a1 - 1)) : Int))) = true then
 (match a2[((IntKind.wrap .i64 (a1 - 1)) : Int).toNat]? with
 | some a3 =>
 some a3
 | none => none)
 else none
def ref12_Name_j1 (t : Tab) (n : Nat) (a1 : Int) (a2 : List ByteArray) : Option ByteArray :=
 if (decide (a1 < 1)) = true then
 some (ByteArray.mk #[])
 else
 if (decide (a1 > (a2.length : Int))) = true then
 some (ByteArray.mk #[])
 else
 ref12_Name_j2 t n  a1 a2
def ref12_Name (t : Tab) (n : Nat) : Int → Option ByteArray
 | a1 =>
 ref12_Name_j1 t n  a1 ([(ByteArray.mk #[86]), (ByteArray.mk #[69]), (ByteArray.mk #[79, 117, 116]), (ByteArray.mk #[73, 110]), (ByteArray.mk #[66, 111, 116, 104]), (ByteArray.mk #[79, 117, 116, 69]), (ByteArray.mk #[73, 110, 69]), (ByteArray.mk #[66, 111, 116, 104, 69]), (ByteArray.mk #[79, 117, 116, 86]), (ByteArray.mk #[73, 110, 86]), (ByteArray.mk #[66, 111, 116, 104, 86]), (ByteArray.mk #[73, 68]), (ByteArray.mk #[76, 97, 98, 101, 108]), (ByteArray.mk #[86, 97, 108, 117, 101, 115]), (ByteArray.mk #[67, 111, 110, 115, 116, 97, 110, 116]), (ByteArray.mk #[73, 100, 101, 110, 116, 105, 116, 121]), (ByteArray.mk #[72, 97, 115, 76, 97, 98, 101, 108]), (ByteArray.mk #[72, 97, 115]), (ByteArray.mk #[72, 97, 115, 75, 101, 121]), (ByteArray.mk #[72, 97, 115, 78, 111, 116]), (ByteArray.mk #[72, 97, 115, 73, 68]), (ByteArray.mk #[73, 115]), (ByteArray.mk #[68, 101, 100, 117, 112]), (ByteArray.mk #[82, 97, 110, 103, 101]), (ByteArray.mk #[84, 97, 105, 108]), (ByteArray.mk #[83, 105, 109, 112, 108, 101]), (ByteArray.mk #[67, 121, 99, 108, 105, 99]), (ByteArray.mk #[87, 104, 101, 114, 101]), (ByteArray.mk #[78, 111, 116, 84, 104, 97, 116]), (ByteArray.mk #[65, 108, 108, 79, 102]), (ByteArray.mk #[65, 110, 121, 79, 102]), (ByteArray.mk #[67, 111, 117, 110, 116]), (ByteArray.mk #[83, 117, 109]), (ByteArray.mk #[77, 105, 110]), (ByteArray.mk #[77, 97, 120]), (ByteArray.mk #[70, 111, 108, 100]), (ByteArray.mk #[85, 110, 102, 111, 108, 100]), (ByteArray.mk #[84, 114, 97, 105, 108]), (ByteArray.mk #[83, 101, 108, 101, 99, 116]), (ByteArray.mk #[79, 114, 100, 101, 114]), (ByteArray.mk #[71, 114, 111, 117, 112]), (ByteArray.mk #[71, 114, 111, 117, 112, 67, 111, 117, 110, 116]), (ByteArray.mk #[80, 114, 111, 106, 101, 99, 116]), (ByteArray.mk #[85, 110, 105, 111, 110]), (ByteArray.mk #[67, 111, 97, 108, 101, 115, 99, 101]), (ByteArray.mk #[67, 104, 111, 111, 115, 101]), (ByteArray.mk #[79, 112, 116, 105, 111, 110, 97, 108]), (ByteArray.mk #[82, 101, 112, 101, 97, 116]), (ByteArray.mk #[65, 103, 103, 114, 101, 103, 97, 116, 101]), (ByteArray.mk #[67, 97, 112]), (ByteArray.mk #[66, 97, 114, 114, 105, 101, 114])] : List ByteArray)
def ref12_Much_j4 (t : Tab) (n : Nat) (a1 : List GStep) (a2 a3 a4 a5 : Int) (a6 : List (List GStep)) (a7 : Int) : Option (Int ⊕ ((List GStep) × Int × Int × Int × Int × (List (List GStep)) × Int)) :=
 if (decide (a3 ≤ 0)) = true then
 some (.inl a2)
 else
 if (decide (0 ≤ (a7 : Int))) = true then
 (match a6[(a7 : Int).toNat]? with
 | some a8 =>
 (match t.ref12_Much a8 (IntKind.wrap .i64 (a2 - a4)) (IntKind.wrap .i64 (a3 - 1)) with
 | some a9 =>
 some (.inr (a1, a2, a3, (IntKind.wrap .i64 (a4 + a9)), a5, a6, (IntKind.wrap .i64 (a7 + 1))))
 | none => none)
 | none => none)
 else none
def ref12_Much_l3 (t : Tab) (n : Nat) : Nat → (List GStep) → Int → Int → Int → Int → (List (List GStep)) → Int → Option (Int ⊕ ((List GStep) × Int × Int × Int × Int × (List (List GStep)) × Int × Bool))
 | 0, _, _, _, _, _, _, _ => none
 | k + 1, a1, a2, a3, a4, a5, a6, a7 =>
 if (decide (a7 < (a6.length : Int))) = true then
 if (decide (a4 < a2)) = true then
 (match ref12_Much_j4 t n  a1 a2 a3 a4 a5 a6 a7 with
 | some (.inl a8) =>
 some (.inl a8)
 | some (.inr (a9, a10, a11, a12, a13, a14, a15)) =>
 ref12_Much_l3 t n k a9 a10 a11 a12 a13 a14 a15
 | none => none)
 else
 some (.inr (a1, a2, a3, a4, a5, a6, a7, (decide (a4 < a2))))
 else
 some (.inr (a1, a2, a3, a4, a5, a6, a7, false))
def ref12_Much_j2 (t : Tab) (n : Nat) (a1 : List GStep) (a2 a3 a4 a5 : Int) : Option (Int ⊕ ((List GStep) × Int × Int × Int × Int)) :=
 if (decide (0 ≤ (a5 : Int))) = true then
 (match a1[(a5 : Int).toNat]? with
 | some ⟨a6, a7, a8, ⟨a9, a10, a11, a12, a13⟩, ⟨a14, a15, a16⟩, a17, a18, a19⟩ =>
 (match t.ref02_Count (GValue.mk a9 a10 a11 a12 a13) a2 with
 | some a20 =>
 (match t.ref09_Count (GPred.mk a14 a15 a16) a2 with
 | some a21 =>
 (match t.ref12_Inner (GStep.mk a6 a7 a8 (GValue.mk a9 a10 a11 a12 a13) (GPred.mk a14 a15 a16) a17 a18 a19) with
 | some a22 =>
 (match ref12_Much_l3 t n n a1 a2 a3 (IntKind.wrap .i64 ((IntKind.wrap .i64 ((IntKind.wrap .i64 ((IntKind.wrap .i64 ((IntKind.wrap .i64 ((IntKind.wrap .i64 (a4 + 1)) + (a7.length : Int))) + (a8.length : Int))) + (a19.length : Int))) + a20)) + a21)) a5 a22 0 with
 | some (.inl a23) =>
 some (.inl a23)
 | some (.inr (a24, a25, a26, a27, a28, a29, a30, a31)) =>
 some (.inr (a24, a25, a26, a27, (IntKind.wrap .i64 (a28 + 1))))
 | none => none)
 | none => none)
 | none => none)
 | none => none)
 | none => none)
 else none
def ref12_Much_l1 (t : Tab) (n : Nat) : Nat → (List GStep) → Int → Int → Int → Int → Option (Int ⊕ ((List GStep) × Int × Int × Int × Int × Bool))
 | 0, _, _, _, _, _ => none
 | k + 1, a1, a2, a3, a4, a5 =>
 if (decide (a5 < (a1.length : Int))) = true then
 if (decide (a4 < a2)) = true then
 (match ref12_Much_j2 t n  a1 a2 a3 a4 a5 with
 | some (.inl a6) =>
 some (.inl a6)
 | some (.inr (a7, a8, a9, a10, a11)) =>
 ref12_Much_l1 t n k a7 a8 a9 a10 a11
 | none => none)
 else
 some (.inr (a1, a2, a3, a4, a5, (decide (a4 < a2))))
 else
 some (.inr (a1, a2, a3, a4, a5, false))
def ref12_Much (t : Tab) (n : Nat) : (List GStep) → Int → Int → Option Int
 | a1, a2, a3 =>
 (match ref12_Much_l1 t n n a1 a2 a3 0 0 with
 | some (.inl a4) =>
 some a4
 | some (.inr (a5, a6, a7, a8, a9, a10)) =>
 some a8
 | none => none)
def plan_right (t : Tab) (n : Nat) : (List GStep) → Int → Option Bool
 | a1, a2 =>
 if (decide (a2 ≤ 11)) = true then
 (match t.slices_ContainsFunc_plan_right_1 a1 a2 with
 | some a3 =>
 some (!a3)
 | none => none)
 else
 some false
def ref12_right_l5 (t : Tab) (n : Nat) : Nat → (List GStep) → Int → Int → Int → Int → (List ByteArray) → (List Int) → Int → Int → ByteArray → (List GValue) → (List GValue) → Int → (List GValue) → (List GPred) → (List (List GStep)) → (List GBy) → (List ByteArray) → Option (Bool ⊕ ((List GStep) × Int × Int × Int × Bool × Int × (List ByteArray) × (List Int) × Int × Int × ByteArray × (List GValue) × (List GValue) × Int × (List GValue) × (List GPred) × (List (List GStep)) × (List GBy) × (List ByteArray)))
 | 0, _, _, _, _, _, _, _, _, _, _, _, _, _, _, _, _, _, _ => none
 | k + 1, a1, a2, a3, a4, a5, a6, a7, a8, a9, a10, a11, a12, a13, a14, a15, a16, a17, a18 =>
 if (decide (a4 < (a16.length : Int))) = true then
 if (decide (0 ≤ (a4 : Int))) = true then
 (match a16[(a4 : Int).toNat]? with
 | some a19 =>
 (match t.ref12_right a19 (IntKind.wrap .i64 (a2 + 1)) with
 | some a20 =>
 if a20 = true then
 ref12_right_l5 t n k a1 a2 a3 (IntKind.wrap .i64 (a4 + 1)) a5 a6 a7 a8 a9 a10 a11 a12 a13 a14 a15 a16 a17 a18
 else
 some (.inl false)
 | none => none)
 | none => none)
 else none
 else
 some (.inr (a1, a2, a3, a4, (decide (a4 < (a16.length : Int))), a5, a6, a7, a8, a9, a10, a11, a12, a13, a14, a15, a16, a17, a18))
def ref12_right_l7 (t : Tab) (n : Nat) : Nat → (List GStep) → Int → Int → Int → Int → (List ByteArray) → (List Int) → Int → Int → ByteArray → (List GValue) → (List GValue) → Int → (List GValue) → (List GPred) → (List (List GStep)) → (List GBy) → (List ByteArray) → Option (Bool ⊕ ((List GStep) × Int × Int × Int × Bool × Int × (List ByteArray) × (List Int) × Int × Int × ByteArray × (List GValue) × (List GValue) × Int × (List GValue) × (List GPred) × (List (List GStep)) × (List GBy) × (List ByteArray)))
 | 0, _, _, _, _, _, _, _, _, _, _, _, _, _, _, _, _, _, _ => none
 | k + 1, a1, a2, a3, a4, a5, a6, a7, a8, a9, a10, a11, a12, a13, a14, a15, a16, a17, a18 =>
 if (decide (a4 < (a17.length : Int))) = true then
 if (decide (0 ≤ (a4 : Int))) = true then
 (match a17[(a4 : Int).toNat]? with
 | some ⟨a19, a20, a21, a22⟩ =>
 (match t.ref12_Name a5 with
 | some a23 =>
 (match t.ref12_by (GBy.mk a19 a20 a21 a22) (a23.toList == (ByteArray.mk #[79, 114, 100, 101, 114]).toList) a2 with
 | some a24 =>
 if a24 = true then
 ref12_right_l7 t n k a1 a2 a3 (IntKind.wrap .i64 (a4 + 1)) a5 a6 a7 a8 a9 a10 a11 a12 a13 a14 a15 a16 a17 a18
 else
 some (.inl false)
 | none => none)
 | none => none)
 | none => none)
 else none
 else
 some (.inr (a1, a2, a3, a4, (decide (a4 < (a17.length : Int))), a5, a6, a7, a8, a9, a10, a11, a12, a13, a14, a15, a16, a17, a18))
def ref12_right_j6 (t : Tab) (n : Nat) (a1 : List GStep) (a2 a3 a4 : Int) (a5 : List ByteArray) (a6 : List Int) (a7 a8 : Int) (a9 : ByteArray) (a10 a11 : List GValue) (a12 : Int) (a13 : List GValue) (a14 : List GPred) (a15 : List (List GStep)) (a16 : List GBy) (a17 : List ByteArray) : Option (Bool ⊕ ((List GStep) × Int × Int)) :=
 (match ref12_right_l7 t n n a1 a2 a3 0 a4 a5 a6 a7 a8 a9 a10 a11 a12 a13 a14 a15 a16 a17 with
 | some (.inl a18) =>
 some (.inl a18)
 | some (.inr (a19, a20, a21, a22, a23, a24, a25, a26, a27, a28, a29, a30, a31, a32, a33, a34, a35, a36, a37)) =>
 some (.inr (a19, a20, a21))
 | none => none)
def ref12_right_j4 (t : Tab) (n : Nat) (a1 : List GStep) (a2 a3 a4 : Int) (a5 : List ByteArray) (a6 : List Int) (a7 a8 : Int) (a9 : ByteArray) (a10 a11 : List GValue) (a12 : Int) (a13 : List GValue) (a14 : List GPred) (a15 : List (List GStep)) (a16 : List GBy) (a17 : List ByteArray) : Option (Bool ⊕ ((List GStep) × Int × Int)) :=
 (match ref12_right_l5 t n n a1 a2 a3 0 a4 a5 a6 a7 a8 a9 a10 a11 a12 a13 a14 a15 a16 a17 with
 | some (.inl a18) =>
 some (.inl a18)
 | some (.inr (a19, a20, a21, a22, a23, a24, a25, a26, a27, a28, a29, a30, a31, a32, a33, a34, a35, a36, a37)) =>
 ref12_right_j6 t n  a19 a20 a21 a24 a25 a26 a27 a28 a29 a30 a31 a32 a33 a34 a35 a36 a37
 | none => none)
def ref12_right_j3 (t : Tab) (n : Nat) (a1 : List GStep) (a2 a3 a4 a5 : Int) (a6 a7 : Bool) (a8 : Int) (a9 : List ByteArray) (a10 : List Int) (a11 a12 : Int) (a13 : ByteArray) (a14 a15 : List GValue) (a16 : Int) (a17 : List GValue) (a18 : List GPred) (a19 : List (List GStep)) (a20 : List GBy) (a21 : List ByteArray) : Option (Bool ⊕ ((List GStep) × Int × Int)) :=
 if a6 = true then
 if (a4 != 0) = true then
 some (.inl false)
 else
 if a7 = true then
 if (a5 != 0) = true then
 some (.inl false)
 else
 ref12_right_j4 t n  a1 a2 a3 a8 a9 a10 a11 a12 a13 a14 a15 a16 a17 a18 a19 a20 a21
 else
 (match t.ref09_Same (GPred.mk a16 a17 a18) (GPred.mk 0 ([] : List GValue) ([] : List GPred)) with
 | some a26 =>
 if a26 = true then
 ref12_right_j4 t n  a1 a2 a3 a8 a9 a10 a11 a12 a13 a14 a15 a16 a17 a18 a19 a20 a21
 else
 some (.inl false)
 | none => none)
 else
 (match t.ref02_Same (GValue.mk a11 a12 a13 a14 a15) (GValue.mk 0 0 ByteArray.empty ([] : List GValue) ([] : List GValue)) with
 | some a31 =>
 if a31 = true then
 if a7 = true then
 if (a5 != 0) = true then
 some (.inl false)
 else
 ref12_right_j4 t n  a1 a2 a3 a8 a9 a10 a11 a12 a13 a14 a15 a16 a17 a18 a19 a20 a21
 else
 (match t.ref09_Same (GPred.mk a16 a17 a18) (GPred.mk 0 ([] : List GValue) ([] : List GPred)) with
 | some a36 =>
 if a36 = true then
 ref12_right_j4 t n  a1 a2 a3 a8 a9 a10 a11 a12 a13 a14 a15 a16 a17 a18 a19 a20 a21
 else
 some (.inl false)
 | none => none)
 else
 some (.inl false)
 | none => none)
def ref12_right_j2 (t : Tab) (n : Nat) (a1 : List GStep) (a2 a3 a4 : Int) (a5 : List ByteArray) (a6 : List Int) (a7 a8 : Int) (a9 : ByteArray) (a10 a11 : List GValue) (a12 : Int) (a13 : List GValue) (a14 : List GPred) (a15 : List (List GStep)) (a16 : List GBy) (a17 : List ByteArray) : Option (Bool ⊕ ((List GStep) × Int × Int)) :=
 (match t.ref02_Check (GValue.mk a7 a8 a9 a10 a11) with
 | some a18 =>
 (match t.ref09_Check (GPred.mk a12 a13 a14) with
 | some a19 =>
 (match t.ref12_Name a4 with
 | some a20 =>
 if (a20.toList == (ByteArray.mk #[72, 97, 115]).toList) = true then
 ref12_right_j3 t n  a1 a2 a3 a18 a19 (a20.toList == (ByteArray.mk #[67, 111, 110, 115, 116, 97, 110, 116]).toList) true a4 a5 a6 a7 a8 a9 a10 a11 a12 a13 a14 a15 a16 a17
 else
 ref12_right_j3 t n  a1 a2 a3 a18 a19 (a20.toList == (ByteArray.mk #[67, 111, 110, 115, 116, 97, 110, 116]).toList) (a20.toList == (ByteArray.mk #[73, 115]).toList) a4 a5 a6 a7 a8 a9 a10 a11 a12 a13 a14 a15 a16 a17
 | none => none)
 | none => none)
 | none => none)
def ref12_right_l1 (t : Tab) (n : Nat) : Nat → (List GStep) → Int → Int → Option (Bool ⊕ ((List GStep) × Int × Int × Bool))
 | 0, _, _, _ => none
 | k + 1, a1, a2, a3 =>
 if (decide (a3 < (a1.length : Int))) = true then
 if (decide (0 ≤ (a3 : Int))) = true then
 (match a1[(a3 : Int).toNat]? with
 | some ⟨a4, a5, a6, ⟨a7, a8, a9, a10, a11⟩, ⟨a12, a13, a14⟩, a15, a16, a17⟩ =>
 (match t.ref12_own (GStep.mk a4 a5 a6 (GValue.mk a7 a8 a9 a10 a11) (GPred.mk a12 a13 a14) a15 a16 a17) with
 | some a18 =>
 if a18 = true then
 (match t.ref12_named a5 with
 | some a19 =>
 if a19 = true then
 (match t.ref12_named a17 with
 | some a20 =>
 if a20 = true then
 (match ref12_right_j2 t n  a1 a2 a3 a4 a5 a6 a7 a8 a9 a10 a11 a12 a13 a14 a15 a16 a17 with
 | some (.inl a21) =>
 some (.inl a21)
 | some (.inr (a22, a23, a24)) =>
 ref12_right_l1 t n k a22 a23 (IntKind.wrap .i64 (a24 + 1))
 | none => none)
 else
 some (.inl false)
 | none => none)
 else
 some (.inl false)
 | none => none)
 else
 some (.inl false)
 | none => none)
 | none => none)
 else none
 else
 some (.inr (a1, a2, a3, (decide (a3 < (a1.length : Int)))))
def ref12_right (t : Tab) (n : Nat) : (List GStep) → Int → Option Bool
 | a1, a2 =>
 if (decide (a2 > 11)) = true then
 some false
 else
 (match ref12_right_l1 t n n a1 a2 0 with
 | some (.inl a3) =>
 some a3
 | some (.inr (a4, a5, a6, a7)) =>
 some true
 | none => none)
def plan_steps_j3 (t : Tab) (n : Nat) (a1 a2 a3 : Int) (a4 a5 : List GStep) (a6 a7 : Int) (a8 : List (List GStep)) (a9 a10 : Int) (a11 : Bool) : Option (Int × Int × Int × (List GStep) × Int × Int × (List (List GStep)) × Int × Int) :=
 if a11 = true then
 (match t.plan_steps a4 (IntKind.wrap .i64 (a1 - a3)) (IntKind.wrap .i64 (a2 + 1)) with
 | some a12 =>
 some (a1, a2, (IntKind.wrap .i64 (a3 + a12)), a5, a6, a7, a8, a9, a10)
 | none => none)
 else
 some (a1, a2, a3, a5, a6, a7, a8, a9, a10)
def plan_steps_l2 (t : Tab) (n : Nat) : Nat → Int → Int → Int → (List GStep) → Int → Int → (List (List GStep)) → Int → Int → Option (Int × Int × Int × (List GStep) × Int × Int × (List (List GStep)) × Int × Int × Bool)
 | 0, _, _, _, _, _, _, _, _, _ => none
 | k + 1, a1, a2, a3, a4, a5, a6, a7, a8, a9 =>
 if (decide (a9 < a8)) = true then
 if (decide (0 ≤ (a9 : Int))) = true then
 (match a7[(a9 : Int).toNat]? with
 | some a10 =>
 if (decide (a2 ≤ 11)) = true then
 (match plan_steps_j3 t n  a1 a2 a3 a10 a4 a5 a6 a7 a8 a9 (decide (a3 < a1)) with
 | some (a11, a12, a13, a14, a15, a16, a17, a18, a19) =>
 plan_steps_l2 t n k a11 a12 a13 a14 a15 a16 a17 a18 (IntKind.wrap .i64 (a19 + 1))
 | none => none)
 else
 (match plan_steps_j3 t n  a1 a2 a3 a10 a4 a5 a6 a7 a8 a9 false with
 | some (a20, a21, a22, a23, a24, a25, a26, a27, a28) =>
 plan_steps_l2 t n k a20 a21 a22 a23 a24 a25 a26 a27 (IntKind.wrap .i64 (a28 + 1))
 | none => none)
 | none => none)
 else none
 else
 some (a1, a2, a3, a4, a5, a6, a7, a8, a9, (decide (a9 < a8)))
def plan_steps_l1 (t : Tab) (n : Nat) : Nat → Int → Int → Int → (List GStep) → Int → Int → Option (Int ⊕ (Int × Int × Int × (List GStep) × Int × Int × Bool))
 | 0, _, _, _, _, _, _ => none
 | k + 1, a1, a2, a3, a4, a5, a6 =>
 if (decide (a6 < a5)) = true then
 if (decide (0 ≤ (a6 : Int))) = true then
 (match a4[(a6 : Int).toNat]? with
 | some ⟨a7, a8, a9, ⟨a10, a11, a12, a13, a14⟩, ⟨a15, a16, a17⟩, a18, a19, a20⟩ =>
 if (decide ((IntKind.wrap .i64 (a3 + 1)) ≥ a1)) = true then
 some (.inl a1)
 else
 (match t.plan_inner (GStep.mk a7 a8 a9 (GValue.mk a10 a11 a12 a13 a14) (GPred.mk a15 a16 a17) a18 a19 a20) with
 | some a21 =>
 (match plan_steps_l2 t n n a1 a2 (IntKind.wrap .i64 (a3 + 1)) a4 a5 a6 a21 (a21.length : Int) 0 with
 | some (a22, a23, a24, a25, a26, a27, a28, a29, a30, a31) =>
 plan_steps_l1 t n k a22 a23 a24 a25 a26 (IntKind.wrap .i64 (a27 + 1))
 | none => none)
 | none => none)
 | none => none)
 else none
 else
 some (.inr (a1, a2, a3, a4, a5, a6, (decide (a6 < a5))))
def plan_steps (t : Tab) (n : Nat) : (List GStep) → Int → Int → Option Int
 | a1, a2, a3 =>
 (match plan_steps_l1 t n n a2 a3 0 a1 (a1.length : Int) 0 with
 | some (.inl a4) =>
 some a4
 | some (.inr (a5, a6, a7, a8, a9, a10, a11)) =>
 some a7
 | none => none)
def ref12_steps_j4 (t : Tab) (n : Nat) (a1 : List GStep) (a2 a3 a4 a5 : Int) (a6 : List (List GStep)) (a7 : Int) : Option ((List GStep) × Int × Int × Int × Int × (List (List GStep)) × Int) :=
 if (decide (0 ≤ (a7 : Int))) = true then
 (match a6[(a7 : Int).toNat]? with
 | some a8 =>
 (match t.ref12_steps a8 (IntKind.wrap .i64 (a2 - a4)) (IntKind.wrap .i64 (a3 - 1)) with
 | some a9 =>
 some (a1, a2, a3, (IntKind.wrap .i64 (a4 + a9)), a5, a6, (IntKind.wrap .i64 (a7 + 1)))
 | none => none)
 | none => none)
 else none
def ref12_steps_l3 (t : Tab) (n : Nat) : Nat → (List GStep) → Int → Int → Int → Int → (List (List GStep)) → Int → Option ((List GStep) × Int × Int × Int × Int × (List (List GStep)) × Int × Bool)
 | 0, _, _, _, _, _, _, _ => none
 | k + 1, a1, a2, a3, a4, a5, a6, a7 =>
 if (decide (a7 < (a6.length : Int))) = true then
 if (decide (a3 > 0)) = true then
 if (decide (a4 < a2)) = true then
 (match ref12_steps_j4 t n  a1 a2 a3 a4 a5 a6 a7 with
 | some (a8, a9, a10, a11, a12, a13, a14) =>
 ref12_steps_l3 t n k a8 a9 a10 a11 a12 a13 a14
 | none => none)
 else
 some (a1, a2, a3, a4, a5, a6, a7, (decide (a4 < a2)))
 else
 some (a1, a2, a3, a4, a5, a6, a7, false)
 else
 some (a1, a2, a3, a4, a5, a6, a7, false)
def ref12_steps_j2 (t : Tab) (n : Nat) (a1 : List GStep) (a2 a3 a4 a5 : Int) : Option ((List GStep) × Int × Int × Int × Int) :=
 if (decide (0 ≤ (a5 : Int))) = true then
 (match a1[(a5 : Int).toNat]? with
 | some ⟨a6, a7, a8, ⟨a9, a10, a11, a12, a13⟩, ⟨a14, a15, a16⟩, a17, a18, a19⟩ =>
 (match t.ref12_Inner (GStep.mk a6 a7 a8 (GValue.mk a9 a10 a11 a12 a13) (GPred.mk a14 a15 a16) a17 a18 a19) with
 | some a20 =>
 (match ref12_steps_l3 t n n a1 a2 a3 (IntKind.wrap .i64 (a4 + 1)) a5 a20 0 with
 | some (a21, a22, a23, a24, a25, a26, a27, a28) =>
 some (a21, a22, a23, a24, (IntKind.wrap .i64 (a25 + 1)))
 | none => none)
 | none => none)
 | none => none)
 else none
def ref12_steps_l1 (t : Tab) (n : Nat) : Nat → (List GStep) → Int → Int → Int → Int → Option ((List GStep) × Int × Int × Int × Int × Bool)
 | 0, _, _, _, _, _ => none
 | k + 1, a1, a2, a3, a4, a5 =>
 if (decide (a5 < (a1.length : Int))) = true then
 if (decide (a4 < a2)) = true then
 (match ref12_steps_j2 t n  a1 a2 a3 a4 a5 with
 | some (a6, a7, a8, a9, a10) =>
 ref12_steps_l1 t n k a6 a7 a8 a9 a10
 | none => none)
 else
 some (a1, a2, a3, a4, a5, (decide (a4 < a2)))
 else
 some (a1, a2, a3, a4, a5, false)
def ref12_steps (t : Tab) (n : Nat) : (List GStep) → Int → Int → Option Int
 | a1, a2, a3 =>
 (match ref12_steps_l1 t n n a1 a2 a3 0 0 with
 | some (a4, a5, a6, a7, a8, a9) =>
 some a7
 | none => none)
def plan_nest_l2 (t : Tab) (n : Nat) : Nat → Int → Int → (List GStep) → Int → Int → (List (List GStep)) → Int → Int → Option (Int × Int × (List GStep) × Int × Int × (List (List GStep)) × Int × Int × Bool)
 | 0, _, _, _, _, _, _, _, _ => none
 | k + 1, a1, a2, a3, a4, a5, a6, a7, a8 =>
 if (decide (a8 < a7)) = true then
 if (decide (0 ≤ (a8 : Int))) = true then
 (match a6[(a8 : Int).toNat]? with
 | some a9 =>
 if (decide (a1 > 1)) = true then
 (match t.plan_nest a9 (IntKind.wrap .i64 (a1 - 1)) with
 | some a10 =>
 plan_nest_l2 t n k a1 (if (IntKind.wrap .i64 (1 + a10)) > a2 then (IntKind.wrap .i64 (1 + a10)) else a2) a3 a4 a5 a6 a7 (IntKind.wrap .i64 (a8 + 1))
 | none => none)
 else
 plan_nest_l2 t n k a1 a2 a3 a4 a5 a6 a7 (IntKind.wrap .i64 (a8 + 1))
 | none => none)
 else none
 else
 some (a1, a2, a3, a4, a5, a6, a7, a8, (decide (a8 < a7)))
def plan_nest_l1 (t : Tab) (n : Nat) : Nat → Int → Int → (List GStep) → Int → Int → Option (Int × Int × (List GStep) × Int × Int × Bool)
 | 0, _, _, _, _, _ => none
 | k + 1, a1, a2, a3, a4, a5 =>
 if (decide (a5 < a4)) = true then
 if (decide (0 ≤ (a5 : Int))) = true then
 (match a3[(a5 : Int).toNat]? with
 | some ⟨a6, a7, a8, ⟨a9, a10, a11, a12, a13⟩, ⟨a14, a15, a16⟩, a17, a18, a19⟩ =>
 (match t.plan_inner (GStep.mk a6 a7 a8 (GValue.mk a9 a10 a11 a12 a13) (GPred.mk a14 a15 a16) a17 a18 a19) with
 | some a20 =>
 (match plan_nest_l2 t n n a1 a2 a3 a4 a5 a20 (a20.length : Int) 0 with
 | some (a21, a22, a23, a24, a25, a26, a27, a28, a29) =>
 plan_nest_l1 t n k a21 a22 a23 a24 (IntKind.wrap .i64 (a25 + 1))
 | none => none)
 | none => none)
 | none => none)
 else none
 else
 some (a1, a2, a3, a4, a5, (decide (a5 < a4)))
def plan_nest (t : Tab) (n : Nat) : (List GStep) → Int → Option Int
 | a1, a2 =>
 (match plan_nest_l1 t n n a2 1 a1 (a1.length : Int) 0 with
 | some (a3, a4, a5, a6, a7, a8) =>
 some a4
 | none => none)
def ref12_nest_l3 (t : Tab) (n : Nat) : Nat → (List GStep) → Int → Int → Int → (List (List GStep)) → Int → Option ((List GStep) × Int × Int × Int × (List (List GStep)) × Int × Bool)
 | 0, _, _, _, _, _, _ => none
 | k + 1, a1, a2, a3, a4, a5, a6 =>
 if (decide (a6 < (a5.length : Int))) = true then
 if (decide (0 ≤ (a6 : Int))) = true then
 (match a5[(a6 : Int).toNat]? with
 | some a7 =>
 (match t.ref12_nest a7 (IntKind.wrap .i64 (a2 - 1)) with
 | some a8 =>
 ref12_nest_l3 t n k a1 a2 (if a8 > a3 then a8 else a3) a4 a5 (IntKind.wrap .i64 (a6 + 1))
 | none => none)
 | none => none)
 else none
 else
 some (a1, a2, a3, a4, a5, a6, (decide (a6 < (a5.length : Int))))
def ref12_nest_j2 (t : Tab) (n : Nat) (a1 : List GStep) (a2 a3 a4 : Int) : Option ((List GStep) × Int × Int × Int) :=
 if (decide (0 ≤ (a4 : Int))) = true then
 (match a1[(a4 : Int).toNat]? with
 | some ⟨a5, a6, a7, ⟨a8, a9, a10, a11, a12⟩, ⟨a13, a14, a15⟩, a16, a17, a18⟩ =>
 (match t.ref12_Inner (GStep.mk a5 a6 a7 (GValue.mk a8 a9 a10 a11 a12) (GPred.mk a13 a14 a15) a16 a17 a18) with
 | some a19 =>
 (match ref12_nest_l3 t n n a1 a2 a3 a4 a19 0 with
 | some (a20, a21, a22, a23, a24, a25, a26) =>
 some (a20, a21, a22, (IntKind.wrap .i64 (a23 + 1)))
 | none => none)
 | none => none)
 | none => none)
 else none
def ref12_nest_l1 (t : Tab) (n : Nat) : Nat → (List GStep) → Int → Int → Int → Option ((List GStep) × Int × Int × Int × Bool)
 | 0, _, _, _, _ => none
 | k + 1, a1, a2, a3, a4 =>
 if (decide (a4 < (a1.length : Int))) = true then
 if (decide (a2 > 0)) = true then
 (match ref12_nest_j2 t n  a1 a2 a3 a4 with
 | some (a5, a6, a7, a8) =>
 ref12_nest_l1 t n k a5 a6 a7 a8
 | none => none)
 else
 some (a1, a2, a3, a4, (decide (a2 > 0)))
 else
 some (a1, a2, a3, a4, false)
def ref12_nest (t : Tab) (n : Nat) : (List GStep) → Int → Option Int
 | a1, a2 =>
 (match ref12_nest_l1 t n n a1 a2 0 0 with
 | some (a3, a4, a5, a6, a7) =>
 some (IntKind.wrap .i64 (1 + a5))
 | none => none)
def plan_Uses (t : Tab) (n : Nat) : (List GStep) → (List Int) → Option Bool
 | a1, a2 =>
 t.plan_plan_Uses_1 a1 a2
def plan_plan_Free_1 (t : Tab) (n : Nat) : (List GStep) → Option Bool
 | a1 =>
 t.slices_ContainsFunc_plan_some_1 a1
def ref12_Uses_l2 (t : Tab) (n : Nat) : Nat → (List GStep) → (List Int) → Int → Int → Option (Bool ⊕ ((List GStep) × (List Int) × Int × Int × Bool))
 | 0, _, _, _, _ => none
 | k + 1, a1, a2, a3, a4 =>
 if (decide (a4 < (a2.length : Int))) = true then
 if (decide (0 ≤ (a3 : Int))) = true then
 (match a1[(a3 : Int).toNat]? with
 | some ⟨a5, a6, a7, ⟨a8, a9, a10, a11, a12⟩, ⟨a13, a14, a15⟩, a16, a17, a18⟩ =>
 if (decide (0 ≤ (a4 : Int))) = true then
 (match a2[(a4 : Int).toNat]? with
 | some a19 =>
 if (a5 == a19) = true then
 some (.inl true)
 else
 ref12_Uses_l2 t n k a1 a2 a3 (IntKind.wrap .i64 (a4 + 1))
 | none => none)
 else none
 | none => none)
 else none
 else
 some (.inr (a1, a2, a3, a4, (decide (a4 < (a2.length : Int)))))
def ref12_Uses_l4 (t : Tab) (n : Nat) : Nat → (List GStep) → (List Int) → Int → (List (List GStep)) → Int → Option (Bool ⊕ ((List GStep) × (List Int) × Int × (List (List GStep)) × Int × Bool))
 | 0, _, _, _, _, _ => none
 | k + 1, a1, a2, a3, a4, a5 =>
 if (decide (a5 < (a4.length : Int))) = true then
 if (decide (0 ≤ (a5 : Int))) = true then
 (match a4[(a5 : Int).toNat]? with
 | some a6 =>
 (match t.ref12_Uses a6 a2 with
 | some a7 =>
 if a7 = true then
 some (.inl true)
 else
 ref12_Uses_l4 t n k a1 a2 a3 a4 (IntKind.wrap .i64 (a5 + 1))
 | none => none)
 | none => none)
 else none
 else
 some (.inr (a1, a2, a3, a4, a5, (decide (a5 < (a4.length : Int)))))
def ref12_Uses_j3 (t : Tab) (n : Nat) (a1 : List GStep) (a2 : List Int) (a3 : Int) : Option (Bool ⊕ ((List GStep) × (List Int) × Int)) :=
 if (decide (0 ≤ (a3 : Int))) = true then
 (match a1[(a3 : Int).toNat]? with
 | some ⟨a4, a5, a6, ⟨a7, a8, a9, a10, a11⟩, ⟨a12, a13, a14⟩, a15, a16, a17⟩ =>
 (match t.ref12_Inner (GStep.mk a4 a5 a6 (GValue.mk a7 a8 a9 a10 a11) (GPred.mk a12 a13 a14) a15 a16 a17) with
 | some a18 =>
 (match ref12_Uses_l4 t n n a1 a2 a3 a18 0 with
 | some (.inl a19) =>
 some (.inl a19)
 | some (.inr (a20, a21, a22, a23, a24, a25)) =>
 some (.inr (a20, a21, a22))
 | none => none)
 | none => none)
 | none => none)
 else none
def ref12_Uses_l1 (t : Tab) (n : Nat) : Nat → (List GStep) → (List Int) → Int → Option (Bool ⊕ ((List GStep) × (List Int) × Int × Bool))
 | 0, _, _, _ => none
 | k + 1, a1, a2, a3 =>
 if (decide (a3 < (a1.length : Int))) = true then
 (match ref12_Uses_l2 t n n a1 a2 a3 0 with
 | some (.inl a4) =>
 some (.inl a4)
 | some (.inr (a5, a6, a7, a8, a9)) =>
 (match ref12_Uses_j3 t n  a5 a6 a7 with
 | some (.inl a10) =>
 some (.inl a10)
 | some (.inr (a11, a12, a13)) =>
 ref12_Uses_l1 t n k a11 a12 (IntKind.wrap .i64 (a13 + 1))
 | none => none)
 | none => none)
 else
 some (.inr (a1, a2, a3, (decide (a3 < (a1.length : Int)))))
def ref12_Uses (t : Tab) (n : Nat) : (List GStep) → (List Int) → Option Bool
 | a1, a2 =>
 (match ref12_Uses_l1 t n n a1 a2 0 with
 | some (.inl a3) =>
 some a3
 | some (.inr (a4, a5, a6, a7)) =>
 some false
 | none => none)
def ref12_Named_l2 (t : Tab) (n : Nat) : Nat → (List GStep) → Int → (List (List GStep)) → Int → Option (Bool ⊕ ((List GStep) × Int × (List (List GStep)) × Int × Bool))
 | 0, _, _, _, _ => none
 | k + 1, a1, a2, a3, a4 =>
 if (decide (a4 < (a3.length : Int))) = true then
 if (decide (0 ≤ (a4 : Int))) = true then
 (match a3[(a4 : Int).toNat]? with
 | some a5 =>
 (match t.ref12_Named a5 with
 | some a6 =>
 if a6 = true then
 some (.inl true)
 else
 ref12_Named_l2 t n k a1 a2 a3 (IntKind.wrap .i64 (a4 + 1))
 | none => none)
 | none => none)
 else none
 else
 some (.inr (a1, a2, a3, a4, (decide (a4 < (a3.length : Int)))))
def ref12_Named_l1 (t : Tab) (n : Nat) : Nat → (List GStep) → Int → Option (Bool ⊕ ((List GStep) × Int × Bool))
 | 0, _, _ => none
 | k + 1, a1, a2 =>
 if (decide (a2 < (a1.length : Int))) = true then
 if (decide (0 ≤ (a2 : Int))) = true then
 (match a1[(a2 : Int).toNat]? with
 | some ⟨a3, a4, a5, ⟨a6, a7, a8, a9, a10⟩, ⟨a11, a12, a13⟩, a14, a15, a16⟩ =>
 if (decide ((a16.length : Int) > 0)) = true then
 some (.inl true)
 else
 (match t.ref12_Inner (GStep.mk a3 a4 a5 (GValue.mk a6 a7 a8 a9 a10) (GPred.mk a11 a12 a13) a14 a15 a16) with
 | some a17 =>
 (match ref12_Named_l2 t n n a1 a2 a17 0 with
 | some (.inl a18) =>
 some (.inl a18)
 | some (.inr (a19, a20, a21, a22, a23)) =>
 ref12_Named_l1 t n k a19 (IntKind.wrap .i64 (a20 + 1))
 | none => none)
 | none => none)
 | none => none)
 else none
 else
 some (.inr (a1, a2, (decide (a2 < (a1.length : Int)))))
def ref12_Named (t : Tab) (n : Nat) : (List GStep) → Option Bool
 | a1 =>
 (match ref12_Named_l1 t n n a1 0 with
 | some (.inl a2) =>
 some a2
 | some (.inr (a3, a4, a5)) =>
 some false
 | none => none)
def ref02_Count_j2 (t : Tab) (n : Nat) (a1 a2 a3 a4 a5 : Int) (a6 : ByteArray) (a7 a8 : List GValue) : Option (Int × Int × Int × Int × Int × ByteArray × (List GValue) × (List GValue)) :=
 if (decide (0 ≤ (a3 : Int))) = true then
 (match a7[(a3 : Int).toNat]? with
 | some ⟨a9, a10, a11, a12, a13⟩ =>
 (match t.ref02_Count (GValue.mk a9 a10 a11 a12 a13) (IntKind.wrap .i64 (a1 - a2)) with
 | some a14 =>
 some (a1, (IntKind.wrap .i64 (a2 + a14)), (IntKind.wrap .i64 (a3 + 1)), a4, a5, a6, a7, a8)
 | none => none)
 | none => none)
 else none
def ref02_Count_l1 (t : Tab) (n : Nat) : Nat → Int → Int → Int → Int → Int → ByteArray → (List GValue) → (List GValue) → Option (Int × Int × Int × Bool × Int × Int × ByteArray × (List GValue) × (List GValue))
 | 0, _, _, _, _, _, _, _, _ => none
 | k + 1, a1, a2, a3, a4, a5, a6, a7, a8 =>
 if (decide (a3 < (a7.length : Int))) = true then
 if (decide (a2 < a1)) = true then
 (match ref02_Count_j2 t n  a1 a2 a3 a4 a5 a6 a7 a8 with
 | some (a9, a10, a11, a12, a13, a14, a15, a16) =>
 ref02_Count_l1 t n k a9 a10 a11 a12 a13 a14 a15 a16
 | none => none)
 else
 some (a1, a2, a3, (decide (a2 < a1)), a4, a5, a6, a7, a8)
 else
 some (a1, a2, a3, false, a4, a5, a6, a7, a8)
def ref02_Count_j5 (t : Tab) (n : Nat) (a1 a2 a3 a4 a5 : Int) (a6 : ByteArray) (a7 a8 : List GValue) : Option (Int × Int × Int × Int × Int × ByteArray × (List GValue) × (List GValue)) :=
 if (decide (0 ≤ (a3 : Int))) = true then
 (match a8[(a3 : Int).toNat]? with
 | some ⟨a9, a10, a11, a12, a13⟩ =>
 (match t.ref02_Count (GValue.mk a9 a10 a11 a12 a13) (IntKind.wrap .i64 (a1 - a2)) with
 | some a14 =>
 some (a1, (IntKind.wrap .i64 (a2 + a14)), (IntKind.wrap .i64 (a3 + 1)), a4, a5, a6, a7, a8)
 | none => none)
 | none => none)
 else none
def ref02_Count_l4 (t : Tab) (n : Nat) : Nat → Int → Int → Int → Int → Int → ByteArray → (List GValue) → (List GValue) → Option (Int × Int × Int × Bool × Int × Int × ByteArray × (List GValue) × (List GValue))
 | 0, _, _, _, _, _, _, _, _ => none
 | k + 1, a1, a2, a3, a4, a5, a6, a7, a8 =>
 if (decide (a3 < (a8.length : Int))) = true then
 if (decide (a2 < a1)) = true then
 (match ref02_Count_j5 t n  a1 a2 a3 a4 a5 a6 a7 a8 with
 | some (a9, a10, a11, a12, a13, a14, a15, a16) =>
 ref02_Count_l4 t n k a9 a10 a11 a12 a13 a14 a15 a16
 | none => none)
 else
 some (a1, a2, a3, (decide (a2 < a1)), a4, a5, a6, a7, a8)
 else
 some (a1, a2, a3, false, a4, a5, a6, a7, a8)
def ref02_Count_j6 (t : Tab) (n : Nat) (a1 a2 a3 : Int) (a4 : ByteArray) (a5 a6 : List GValue) : Option Int :=
 (match quoI .i64 (a4.size : Int) 20 with
 | some a7 =>
 some (IntKind.wrap .i64 (a1 + a7))
 | none => none)
def ref02_Count_j3 (t : Tab) (n : Nat) (a1 a2 a3 a4 : Int) (a5 : ByteArray) (a6 a7 : List GValue) : Option Int :=
 (match ref02_Count_l4 t n n a1 a2 0 a3 a4 a5 a6 a7 with
 | some (a8, a9, a10, a11, a12, a13, a14, a15, a16) =>
 ref02_Count_j6 t n  a9 a12 a13 a14 a15 a16
 | none => none)
def ref02_Count (t : Tab) (n : Nat) : GValue → Int → Option Int
 | ⟨a1, a2, a3, a4, a5⟩, a6 =>
 (match ref02_Count_l1 t n n a6 1 0 a1 a2 a3 a4 a5 with
 | some (a7, a8, a9, a10, a11, a12, a13, a14, a15) =>
 ref02_Count_j3 t n  a7 a8 a11 a12 a13 a14 a15
 | none => none)
def ref09_Count_j2 (t : Tab) (n : Nat) (a1 a2 a3 a4 : Int) (a5 : List GValue) (a6 : List GPred) : Option (Int × Int × Int × Int × (List GValue) × (List GPred)) :=
 if (decide (0 ≤ (a3 : Int))) = true then
 (match a6[(a3 : Int).toNat]? with
 | some ⟨a7, a8, a9⟩ =>
 (match t.ref09_Count (GPred.mk a7 a8 a9) (IntKind.wrap .i64 (a1 - a2)) with
 | some a10 =>
 some (a1, (IntKind.wrap .i64 (a2 + a10)), (IntKind.wrap .i64 (a3 + 1)), a4, a5, a6)
 | none => none)
 | none => none)
 else none
def ref09_Count_l1 (t : Tab) (n : Nat) : Nat → Int → Int → Int → Int → (List GValue) → (List GPred) → Option (Int × Int × Int × Bool × Int × (List GValue) × (List GPred))
 | 0, _, _, _, _, _, _ => none
 | k + 1, a1, a2, a3, a4, a5, a6 =>
 if (decide (a3 < (a6.length : Int))) = true then
 if (decide (a2 < a1)) = true then
 (match ref09_Count_j2 t n  a1 a2 a3 a4 a5 a6 with
 | some (a7, a8, a9, a10, a11, a12) =>
 ref09_Count_l1 t n k a7 a8 a9 a10 a11 a12
 | none => none)
 else
 some (a1, a2, a3, (decide (a2 < a1)), a4, a5, a6)
 else
 some (a1, a2, a3, false, a4, a5, a6)
def ref09_Count (t : Tab) (n : Nat) : GPred → Int → Option Int
 | ⟨a1, a2, a3⟩, a4 =>
 (match t.ref02_Many a2 a4 with
 | some a5 =>
 (match ref09_Count_l1 t n n a4 (IntKind.wrap .i64 (1 + a5)) 0 a1 a2 a3 with
 | some (a6, a7, a8, a9, a10, a11, a12) =>
 some a7
 | none => none)
 | none => none)
def ref12_Inner_j2 (t : Tab) (n : Nat) (a1 : List (List GStep)) (a2 : Int) (a3 : Bool) (a4 : Int) (a5 : List ByteArray) (a6 : List Int) (a7 a8 : Int) (a9 : ByteArray) (a10 a11 : List GValue) (a12 : Int) (a13 : List GValue) (a14 : List GPred) (a15 : List (List GStep)) (a16 : List GBy) (a17 : List ByteArray) : Option ((List (List GStep)) × Int × Int × (List ByteArray) × (List Int) × Int × Int × ByteArray × (List GValue) × (List GValue) × Int × (List GValue) × (List GPred) × (List (List GStep)) × (List GBy) × (List ByteArray)) :=
 if a3 = true then
 if (decide (0 ≤ (a2 : Int))) = true then
 (match a16[(a2 : Int).toNat]? with
 | some ⟨a18, a19, a20, a21⟩ =>
 if (a1.length + ([a20] : List (List GStep)).length) * 24 ≤ 140737488355328 then
 some ((a1 ++ ([a20] : List (List GStep))), a2, a4, a5, a6, a7, a8, a9, a10, a11, a12, a13, a14, a15, a16, a17)
 else none
 | none => none)
 else none
 else
 some (a1, a2, a4, a5, a6, a7, a8, a9, a10, a11, a12, a13, a14, a15, a16, a17)
def ref12_Inner_l1 (t : Tab) (n : Nat) : Nat → (List (List GStep)) → Int → Int → (List ByteArray) → (List Int) → Int → Int → ByteArray → (List GValue) → (List GValue) → Int → (List GValue) → (List GPred) → (List (List GStep)) → (List GBy) → (List ByteArray) → Option ((List (List GStep)) × Int × Bool × Int × (List ByteArray) × (List Int) × Int × Int × ByteArray × (List GValue) × (List GValue) × Int × (List GValue) × (List GPred) × (List (List GStep)) × (List GBy) × (List ByteArray))
 | 0, _, _, _, _, _, _, _, _, _, _, _, _, _, _, _, _ => none
 | k + 1, a1, a2, a3, a4, a5, a6, a7, a8, a9, a10, a11, a12, a13, a14, a15, a16 =>
 if (decide (a2 < (a15.length : Int))) = true then
 if (decide (0 ≤ (a2 : Int))) = true then
 (match a15[(a2 : Int).toNat]? with
 | some ⟨a17, a18, a19, a20⟩ =>
 if (a17 == 3) = true then
 (match ref12_Inner_j2 t n  a1 a2 true a3 a4 a5 a6 a7 a8 a9 a10 a11 a12 a13 a14 a15 a16 with
 | some (a21, a22, a23, a24, a25, a26, a27, a28, a29, a30, a31, a32, a33, a34, a35, a36) =>
 ref12_Inner_l1 t n k a21 (IntKind.wrap .i64 (a22 + 1)) a23 a24 a25 a26 a27 a28 a29 a30 a31 a32 a33 a34 a35 a36
 | none => none)
 else
 (match ref12_Inner_j2 t n  a1 a2 (decide ((a19.length : Int) > 0)) a3 a4 a5 a6 a7 a8 a9 a10 a11 a12 a13 a14 a15 a16 with
 | some (a37, a38, a39, a40, a41, a42, a43, a44, a45, a46, a47, a48, a49, a50, a51, a52) =>
 ref12_Inner_l1 t n k a37 (IntKind.wrap .i64 (a38 + 1)) a39 a40 a41 a42 a43 a44 a45 a46 a47 a48 a49 a50 a51 a52
 | none => none)
 | none => none)
 else none
 else
 some (a1, a2, (decide (a2 < (a15.length : Int))), a3, a4, a5, a6, a7, a8, a9, a10, a11, a12, a13, a14, a15, a16)
def ref12_Inner (t : Tab) (n : Nat) : GStep → Option (List (List GStep))
 | ⟨a1, a2, a3, ⟨a4, a5, a6, a7, a8⟩, ⟨a9, a10, a11⟩, a12, a13, a14⟩ =>
 if (([] : List (List GStep)).length + a12.length) * 24 ≤ 140737488355328 then
 (match ref12_Inner_l1 t n n (([] : List (List GStep)) ++ a12) 0 a1 a2 a3 a4 a5 a6 a7 a8 a9 a10 a11 a12 a13 a14 with
 | some (a15, a16, a17, a18, a19, a20, a21, a22, a23, a24, a25, a26, a27, a28, a29, a30, a31) =>
 some a15
 | none => none)
 else none
def slices_ContainsFunc_plan_right_1 (t : Tab) (n : Nat) : (List GStep) → Int → Option Bool
 | a1, a2 =>
 (match t.slices_IndexFunc_plan_right_1 a1 a2 with
 | some a3 =>
 some (decide (a3 ≥ 0))
 | none => none)
def ref12_own_j6 (t : Tab) (n : Nat) (a1 a2 a3 a4 : Int) (a5 : Bool) (a6 : ByteArray) (a7 : Bool) (a8 : Int) (a9 : List ByteArray) (a10 : List Int) (a11 a12 : Int) (a13 : ByteArray) (a14 a15 : List GValue) (a16 : Int) (a17 : List GValue) (a18 : List GPred) (a19 : List (List GStep)) (a20 : List GBy) (a21 : List ByteArray) : Option (Bool ⊕ Bool) :=
 if a7 = true then
 if (decide (a3 > 0)) = true then
 if (decide (a3 ≤ 50)) = true then
 some (.inl ((IntKind.wrap .i64 ((IntKind.wrap .i64 (a1 + a2)) + a4)) == 0))
 else
 some (.inl false)
 else
 some (.inl false)
 else
 if (a6.toList == (ByteArray.mk #[67, 104, 111, 111, 115, 101]).toList) = true then
 if (a3 == 3) = true then
 some (.inl ((IntKind.wrap .i64 ((IntKind.wrap .i64 (a1 + a2)) + a4)) == 0))
 else
 some (.inl false)
 else
 if (a6.toList == (ByteArray.mk #[82, 101, 112, 101, 97, 116]).toList) = true then
 if ((IntKind.wrap .i64 (a1 + a4)) == 0) = true then
 if (a2 == 2) = true then
 if (decide (0 ≤ (0 : Int))) = true then
 (match a10[(0 : Int).toNat]? with
 | some a22 =>
 if (decide (a22 ≥ (-1))) = true then
 if (decide (0 ≤ (1 : Int))) = true then
 (match a10[(1 : Int).toNat]? with
 | some a23 =>
 if (a23 == 0) = true then
 if (a3 == 2) = true then
 some (.inl true)
 else
 if (a3 == 1) = true then
 some (.inl (decide (a22 ≥ 0)))
 else
 some (.inl false)
 else
 if (a23 == 1) = true then
 if (a3 == 2) = true then
 some (.inl true)
 else
 if (a3 == 1) = true then
 some (.inl (decide (a22 ≥ 0)))
 else
 some (.inl false)
 else
 some (.inl false)
 | none => none)
 else none
 else
 some (.inl false)
 | none => none)
 else none
 else
 some (.inl false)
 else
 some (.inl false)
 else
 if (a6.toList == (ByteArray.mk #[79, 114, 100, 101, 114]).toList) = true then
 if ((IntKind.wrap .i64 ((IntKind.wrap .i64 (a1 + a2)) + a3)) == 0) = true then
 some (.inl (decide (a4 ≤ 50)))
 else
 some (.inl false)
 else
 if (a6.toList == (ByteArray.mk #[71, 114, 111, 117, 112]).toList) = true then
 if ((IntKind.wrap .i64 ((IntKind.wrap .i64 (a1 + a2)) + a3)) == 0) = true then
 some (.inl (decide (a4 ≤ 2)))
 else
 some (.inl false)
 else
 if (a6.toList == (ByteArray.mk #[71, 114, 111, 117, 112, 67, 111, 117, 110, 116]).toList) = true then
 if ((IntKind.wrap .i64 ((IntKind.wrap .i64 (a1 + a2)) + a3)) == 0) = true then
 some (.inl (decide (a4 ≤ 1)))
 else
 some (.inl false)
 else
 if (a6.toList == (ByteArray.mk #[80, 114, 111, 106, 101, 99, 116]).toList) = true then
 if (decide (a1 > 0)) = true then
 if ((IntKind.wrap .i64 (a2 + a3)) == 0) = true then
 if (decide (a4 ≤ a1)) = true then
 (match t.ref12_once a9 with
 | some a24 =>
 some (.inl a24)
 | none => none)
 else
 some (.inl false)
 else
 some (.inl false)
 else
 some (.inl false)
 else
 some (.inr a5)
def ref12_own_j5 (t : Tab) (n : Nat) (a1 a2 a3 a4 : Int) (a5 : Bool) (a6 : ByteArray) (a7 : Bool) (a8 : Int) (a9 : List ByteArray) (a10 : List Int) (a11 a12 : Int) (a13 : ByteArray) (a14 a15 : List GValue) (a16 : Int) (a17 : List GValue) (a18 : List GPred) (a19 : List (List GStep)) (a20 : List GBy) (a21 : List ByteArray) : Option (Bool ⊕ Bool) :=
 if a7 = true then
 if (a3 == 1) = true then
 some (.inl ((IntKind.wrap .i64 ((IntKind.wrap .i64 (a1 + a2)) + a4)) == 0))
 else
 some (.inl false)
 else
 if (a6.toList == (ByteArray.mk #[65, 108, 108, 79, 102]).toList) = true then
 ref12_own_j6 t n  a1 a2 a3 a4 a5 a6 (a6.toList == (ByteArray.mk #[65, 108, 108, 79, 102]).toList) a8 a9 a10 a11 a12 a13 a14 a15 a16 a17 a18 a19 a20 a21
 else
 if (a6.toList == (ByteArray.mk #[65, 110, 121, 79, 102]).toList) = true then
 ref12_own_j6 t n  a1 a2 a3 a4 a5 a6 (a6.toList == (ByteArray.mk #[65, 110, 121, 79, 102]).toList) a8 a9 a10 a11 a12 a13 a14 a15 a16 a17 a18 a19 a20 a21
 else
 if (a6.toList == (ByteArray.mk #[85, 110, 105, 111, 110]).toList) = true then
 ref12_own_j6 t n  a1 a2 a3 a4 a5 a6 (a6.toList == (ByteArray.mk #[85, 110, 105, 111, 110]).toList) a8 a9 a10 a11 a12 a13 a14 a15 a16 a17 a18 a19 a20 a21
 else
 ref12_own_j6 t n  a1 a2 a3 a4 a5 a6 (a6.toList == (ByteArray.mk #[67, 111, 97, 108, 101, 115, 99, 101]).toList) a8 a9 a10 a11 a12 a13 a14 a15 a16 a17 a18 a19 a20 a21
def ref12_own_j4 (t : Tab) (n : Nat) (a1 a2 a3 a4 : Int) (a5 : Bool) (a6 : ByteArray) (a7 : Bool) (a8 : Int) (a9 : List ByteArray) (a10 : List Int) (a11 a12 : Int) (a13 : ByteArray) (a14 a15 : List GValue) (a16 : Int) (a17 : List GValue) (a18 : List GPred) (a19 : List (List GStep)) (a20 : List GBy) (a21 : List ByteArray) : Option (Bool ⊕ Bool) :=
 if a7 = true then
 if (a1 == 1) = true then
 some (.inl ((IntKind.wrap .i64 ((IntKind.wrap .i64 (a2 + a3)) + a4)) == 0))
 else
 some (.inl false)
 else
 if (a6.toList == (ByteArray.mk #[72, 97, 115, 73, 68]).toList) = true then
 if (decide (a2 > 0)) = true then
 if (decide (a2 ≤ 50)) = true then
 some (.inl ((IntKind.wrap .i64 ((IntKind.wrap .i64 (a1 + a3)) + a4)) == 0))
 else
 some (.inl false)
 else
 some (.inl false)
 else
 if (a6.toList == (ByteArray.mk #[82, 97, 110, 103, 101]).toList) = true then
 if (a2 == 2) = true then
 if ((IntKind.wrap .i64 ((IntKind.wrap .i64 (a1 + a3)) + a4)) == 0) = true then
 if (decide (0 ≤ (0 : Int))) = true then
 (match a10[(0 : Int).toNat]? with
 | some a22 =>
 if (decide (a22 ≥ 0)) = true then
 if (decide (0 ≤ (1 : Int))) = true then
 (match a10[(1 : Int).toNat]? with
 | some a23 =>
 if (a23 == (-1)) = true then
 some (.inl true)
 else
 some (.inl (decide (a22 ≤ a23)))
 | none => none)
 else none
 else
 some (.inl false)
 | none => none)
 else none
 else
 some (.inl false)
 else
 some (.inl false)
 else
 if (a6.toList == (ByteArray.mk #[84, 97, 105, 108]).toList) = true then
 if (a2 == 1) = true then
 if ((IntKind.wrap .i64 ((IntKind.wrap .i64 (a1 + a3)) + a4)) == 0) = true then
 (match t.ref12_low a10 with
 | some a24 =>
 some (.inl a24)
 | none => none)
 else
 some (.inl false)
 else
 some (.inl false)
 else
 if (a6.toList == (ByteArray.mk #[87, 104, 101, 114, 101]).toList) = true then
 ref12_own_j5 t n  a1 a2 a3 a4 a5 a6 (a6.toList == (ByteArray.mk #[87, 104, 101, 114, 101]).toList) a8 a9 a10 a11 a12 a13 a14 a15 a16 a17 a18 a19 a20 a21
 else
 if (a6.toList == (ByteArray.mk #[78, 111, 116, 84, 104, 97, 116]).toList) = true then
 ref12_own_j5 t n  a1 a2 a3 a4 a5 a6 (a6.toList == (ByteArray.mk #[78, 111, 116, 84, 104, 97, 116]).toList) a8 a9 a10 a11 a12 a13 a14 a15 a16 a17 a18 a19 a20 a21
 else
 ref12_own_j5 t n  a1 a2 a3 a4 a5 a6 (a6.toList == (ByteArray.mk #[79, 112, 116, 105, 111, 110, 97, 108]).toList) a8 a9 a10 a11 a12 a13 a14 a15 a16 a17 a18 a19 a20 a21
def ref12_own_j3 (t : Tab) (n : Nat) (a1 a2 a3 a4 : Int) (a5 : Bool) (a6 : ByteArray) (a7 : Bool) (a8 : Int) (a9 : List ByteArray) (a10 : List Int) (a11 a12 : Int) (a13 : ByteArray) (a14 a15 : List GValue) (a16 : Int) (a17 : List GValue) (a18 : List GPred) (a19 : List (List GStep)) (a20 : List GBy) (a21 : List ByteArray) : Option (Bool ⊕ Bool) :=
 if a7 = true then
 if (decide (a1 > 0)) = true then
 some (.inl ((IntKind.wrap .i64 ((IntKind.wrap .i64 (a2 + a3)) + a4)) == 0))
 else
 some (.inl false)
 else
 if (a6.toList == (ByteArray.mk #[72, 97, 115]).toList) = true then
 ref12_own_j4 t n  a1 a2 a3 a4 a5 a6 (a6.toList == (ByteArray.mk #[72, 97, 115]).toList) a8 a9 a10 a11 a12 a13 a14 a15 a16 a17 a18 a19 a20 a21
 else
 if (a6.toList == (ByteArray.mk #[72, 97, 115, 75, 101, 121]).toList) = true then
 ref12_own_j4 t n  a1 a2 a3 a4 a5 a6 (a6.toList == (ByteArray.mk #[72, 97, 115, 75, 101, 121]).toList) a8 a9 a10 a11 a12 a13 a14 a15 a16 a17 a18 a19 a20 a21
 else
 if (a6.toList == (ByteArray.mk #[72, 97, 115, 78, 111, 116]).toList) = true then
 ref12_own_j4 t n  a1 a2 a3 a4 a5 a6 (a6.toList == (ByteArray.mk #[72, 97, 115, 78, 111, 116]).toList) a8 a9 a10 a11 a12 a13 a14 a15 a16 a17 a18 a19 a20 a21
 else
 if (a6.toList == (ByteArray.mk #[65, 103, 103, 114, 101, 103, 97, 116, 101]).toList) = true then
 ref12_own_j4 t n  a1 a2 a3 a4 a5 a6 (a6.toList == (ByteArray.mk #[65, 103, 103, 114, 101, 103, 97, 116, 101]).toList) a8 a9 a10 a11 a12 a13 a14 a15 a16 a17 a18 a19 a20 a21
 else
 ref12_own_j4 t n  a1 a2 a3 a4 a5 a6 (a6.toList == (ByteArray.mk #[67, 97, 112]).toList) a8 a9 a10 a11 a12 a13 a14 a15 a16 a17 a18 a19 a20 a21
def ref12_own_j2 (t : Tab) (n : Nat) (a1 a2 a3 a4 : Int) (a5 : Bool) (a6 : ByteArray) (a7 : Bool) (a8 : Int) (a9 : List ByteArray) (a10 : List Int) (a11 a12 : Int) (a13 : ByteArray) (a14 a15 : List GValue) (a16 : Int) (a17 : List GValue) (a18 : List GPred) (a19 : List (List GStep)) (a20 : List GBy) (a21 : List ByteArray) : Option (Bool ⊕ Bool) :=
 if a7 = true then
 some (.inl ((IntKind.wrap .i64 ((IntKind.wrap .i64 (a2 + a3)) + a4)) == 0))
 else
 if (a6.toList == (ByteArray.mk #[72, 97, 115, 76, 97, 98, 101, 108]).toList) = true then
 ref12_own_j3 t n  a1 a2 a3 a4 a5 a6 (a6.toList == (ByteArray.mk #[72, 97, 115, 76, 97, 98, 101, 108]).toList) a8 a9 a10 a11 a12 a13 a14 a15 a16 a17 a18 a19 a20 a21
 else
 ref12_own_j3 t n  a1 a2 a3 a4 a5 a6 (a6.toList == (ByteArray.mk #[83, 101, 108, 101, 99, 116]).toList) a8 a9 a10 a11 a12 a13 a14 a15 a16 a17 a18 a19 a20 a21
def ref12_own_j1 (t : Tab) (n : Nat) (a1 a2 a3 a4 : Int) (a5 : Bool) (a6 : ByteArray) (a7 : Bool) (a8 : Int) (a9 : List ByteArray) (a10 : List Int) (a11 a12 : Int) (a13 : ByteArray) (a14 a15 : List GValue) (a16 : Int) (a17 : List GValue) (a18 : List GPred) (a19 : List (List GStep)) (a20 : List GBy) (a21 : List ByteArray) : Option (Bool ⊕ Bool) :=
 if a7 = true then
 if ((IntKind.wrap .i64 ((IntKind.wrap .i64 (a1 + a3)) + a4)) == 0) = true then
 if (decide (a2 ≤ 50)) = true then
 (match t.ref12_low a10 with
 | some a22 =>
 some (.inl a22)
 | none => none)
 else
 some (.inl false)
 else
 some (.inl false)
 else
 if (a6.toList == (ByteArray.mk #[79, 117, 116]).toList) = true then
 ref12_own_j2 t n  a1 a2 a3 a4 a5 a6 (a6.toList == (ByteArray.mk #[79, 117, 116]).toList) a8 a9 a10 a11 a12 a13 a14 a15 a16 a17 a18 a19 a20 a21
 else
 if (a6.toList == (ByteArray.mk #[73, 110]).toList) = true then
 ref12_own_j2 t n  a1 a2 a3 a4 a5 a6 (a6.toList == (ByteArray.mk #[73, 110]).toList) a8 a9 a10 a11 a12 a13 a14 a15 a16 a17 a18 a19 a20 a21
 else
 if (a6.toList == (ByteArray.mk #[66, 111, 116, 104]).toList) = true then
 ref12_own_j2 t n  a1 a2 a3 a4 a5 a6 (a6.toList == (ByteArray.mk #[66, 111, 116, 104]).toList) a8 a9 a10 a11 a12 a13 a14 a15 a16 a17 a18 a19 a20 a21
 else
 if (a6.toList == (ByteArray.mk #[79, 117, 116, 69]).toList) = true then
 ref12_own_j2 t n  a1 a2 a3 a4 a5 a6 (a6.toList == (ByteArray.mk #[79, 117, 116, 69]).toList) a8 a9 a10 a11 a12 a13 a14 a15 a16 a17 a18 a19 a20 a21
 else
 if (a6.toList == (ByteArray.mk #[73, 110, 69]).toList) = true then
 ref12_own_j2 t n  a1 a2 a3 a4 a5 a6 (a6.toList == (ByteArray.mk #[73, 110, 69]).toList) a8 a9 a10 a11 a12 a13 a14 a15 a16 a17 a18 a19 a20 a21
 else
 if (a6.toList == (ByteArray.mk #[66, 111, 116, 104, 69]).toList) = true then
 ref12_own_j2 t n  a1 a2 a3 a4 a5 a6 (a6.toList == (ByteArray.mk #[66, 111, 116, 104, 69]).toList) a8 a9 a10 a11 a12 a13 a14 a15 a16 a17 a18 a19 a20 a21
 else
 ref12_own_j2 t n  a1 a2 a3 a4 a5 a6 (a6.toList == (ByteArray.mk #[86, 97, 108, 117, 101, 115]).toList) a8 a9 a10 a11 a12 a13 a14 a15 a16 a17 a18 a19 a20 a21
def ref12_own (t : Tab) (n : Nat) : GStep → Option Bool
 | ⟨a1, a2, a3, ⟨a4, a5, a6, a7, a8⟩, ⟨a9, a10, a11⟩, a12, a13, a14⟩ =>
 (match t.ref12_Name a1 with
 | some a15 =>
 if (a15.toList == (ByteArray.mk #[]).toList) = true then
 some false
 else
 if (a15.toList == (ByteArray.mk #[86]).toList) = true then
 (match ref12_own_j1 t n  (a2.length : Int) (a3.length : Int) (a12.length : Int) (a13.length : Int) ((IntKind.wrap .i64 ((IntKind.wrap .i64 ((IntKind.wrap .i64 ((a2.length : Int) + (a3.length : Int))) + (a12.length : Int))) + (a13.length : Int))) == 0) a15 (a15.toList == (ByteArray.mk #[86]).toList) a1 a2 a3 a4 a5 a6 a7 a8 a9 a10 a11 a12 a13 a14 with
 | some (.inl a16) =>
 some a16
 | some (.inr a17) =>
 some a17
 | none => none)
 else
 (match ref12_own_j1 t n  (a2.length : Int) (a3.length : Int) (a12.length : Int) (a13.length : Int) ((IntKind.wrap .i64 ((IntKind.wrap .i64 ((IntKind.wrap .i64 ((a2.length : Int) + (a3.length : Int))) + (a12.length : Int))) + (a13.length : Int))) == 0) a15 (a15.toList == (ByteArray.mk #[69]).toList) a1 a2 a3 a4 a5 a6 a7 a8 a9 a10 a11 a12 a13 a14 with
 | some (.inl a18) =>
 some a18
 | some (.inr a19) =>
 some a19
 | none => none)
 | none => none)
def ref12_named_l1 (t : Tab) (n : Nat) : Nat → (List ByteArray) → Int → Option (Bool ⊕ ((List ByteArray) × Int × Bool))
 | 0, _, _ => none
 | k + 1, a1, a2 =>
 if (decide (a2 < (a1.length : Int))) = true then
 if (decide (0 ≤ (a2 : Int))) = true then
 (match a1[(a2 : Int).toNat]? with
 | some a3 =>
 (match t.ref05_Name a3 with
 | some a4 =>
 if a4 = true then
 ref12_named_l1 t n k a1 (IntKind.wrap .i64 (a2 + 1))
 else
 some (.inl false)
 | none => none)
 | none => none)
 else none
 else
 some (.inr (a1, a2, (decide (a2 < (a1.length : Int)))))
def ref12_named (t : Tab) (n : Nat) : (List ByteArray) → Option Bool
 | a1 =>
 (match ref12_named_l1 t n n a1 0 with
 | some (.inl a2) =>
 some a2
 | some (.inr (a3, a4, a5)) =>
 some (decide ((a3.length : Int) ≤ 50))
 | none => none)
def ref02_Check (t : Tab) (n : Nat) : GValue → Option Int
 | ⟨a1, a2, a3, a4, a5⟩ =>
 (match t.ref02_right (GValue.mk a1 a2 a3 a4 a5) 1 with
 | some a6 =>
 if a6 = true then
 some 0
 else
 some 2
 | none => none)
def ref09_Check (t : Tab) (n : Nat) : GPred → Option Int
 | ⟨a1, a2, a3⟩ =>
 (match t.ref09_right (GPred.mk a1 a2 a3) 1 with
 | some a4 =>
 if a4 = true then
 some 0
 else
 some 2
 | none => none)
def ref12_by_j1 (t : Tab) (n : Nat) (a1 a2 : Int) (a3 : ByteArray) (a4 : List GStep) (a5 : Bool) : Option Bool :=
 if (a2 == 1) = true then
 if (a3.toList == (ByteArray.mk #[]).toList) = true then
 some ((a4.length : Int) == 0)
 else
 some false
 else
 if (a2 == 2) = true then
 (match t.ref05_Name a3 with
 | some a6 =>
 if a6 = true then
 some ((a4.length : Int) == 0)
 else
 some false
 | none => none)
 else
 if (a2 == 3) = true then
 if (a3.toList == (ByteArray.mk #[]).toList) = true then
 t.ref12_right a4 (IntKind.wrap .i64 (a1 + 1))
 else
 some false
 else
 some false
def ref12_by (t : Tab) (n : Nat) : GBy → Bool → Int → Option Bool
 | ⟨a1, a2, a3, a4⟩, a5, a6 =>
 if a4 = true then
 if a5 = true then
 ref12_by_j1 t n  a6 a1 a2 a3 a4
 else
 some false
 else
 ref12_by_j1 t n  a6 a1 a2 a3 a4
def ref09_Same_l2 (t : Tab) (n : Nat) : Nat → Int → Int → (List GValue) → (List GPred) → Int → (List GValue) → (List GPred) → Option (Bool ⊕ (Int × Bool × Int × (List GValue) × (List GPred) × Int × (List GValue) × (List GPred)))
 | 0, _, _, _, _, _, _, _ => none
 | k + 1, a1, a2, a3, a4, a5, a6, a7 =>
 if (decide (a1 < (a4.length : Int))) = true then
 if (decide (0 ≤ (a1 : Int))) = true then
 (match a4[(a1 : Int).toNat]? with
 | some ⟨a8, a9, a10⟩ =>
 (match a7[(a1 : Int).toNat]? with
 | some ⟨a11, a12, a13⟩ =>
 (match t.ref09_Same (GPred.mk a8 a9 a10) (GPred.mk a11 a12 a13) with
 | some a14 =>
 if a14 = true then
 ref09_Same_l2 t n k (IntKind.wrap .i64 (a1 + 1)) a2 a3 a4 a5 a6 a7
 else
 some (.inl false)
 | none => none)
 | none => none)
 | none => none)
 else none
 else
 some (.inr (a1, (decide (a1 < (a4.length : Int))), a2, a3, a4, a5, a6, a7))
def ref09_Same_j1 (t : Tab) (n : Nat) (a1 : Int) (a2 : List GValue) (a3 : List GPred) (a4 : Int) (a5 : List GValue) (a6 : List GPred) : Option Bool :=
 (match ref09_Same_l2 t n n 0 a1 a2 a3 a4 a5 a6 with
 | some (.inl a7) =>
 some a7
 | some (.inr (a8, a9, a10, a11, a12, a13, a14, a15)) =>
 some true
 | none => none)
def ref09_Same (t : Tab) (n : Nat) : GPred → GPred → Option Bool
 | ⟨a1, a2, a3⟩, ⟨a4, a5, a6⟩ =>
 if (a1 != a4) = true then
 some false
 else
 (match t.ref02_SameRows a2 a5 with
 | some a7 =>
 if a7 = true then
 if ((a3.length : Int) != (a6.length : Int)) = true then
 some false
 else
 ref09_Same_j1 t n  a1 a2 a3 a4 a5 a6
 else
 some false
 | none => none)
def ref02_Same (t : Tab) (n : Nat) : GValue → GValue → Option Bool
 | ⟨a1, a2, a3, a4, a5⟩, ⟨a6, a7, a8, a9, a10⟩ =>
 (match t.ref02_compare (GValue.mk a1 a2 a3 a4 a5) (GValue.mk a6 a7 a8 a9 a10) 1 with
 | some a11 =>
 some (a11 == 0)
 | none => none)
def plan_inner_j2 (t : Tab) (n : Nat) (a1 : List (List GStep)) (a2 : List GBy) (a3 a4 : Int) (a5 : Bool) (a6 : Int) (a7 : ByteArray) (a8 : List GStep) (a9 : Bool) : Option ((List (List GStep)) × (List GBy) × Int × Int) :=
 if a5 = true then
 if (a1.length + ([a8] : List (List GStep)).length) * 24 ≤ 140737488355328 then
 some ((a1 ++ ([a8] : List (List GStep))), a2, a3, a4)
 else none
 else
 some (a1, a2, a3, a4)
def plan_inner_l1 (t : Tab) (n : Nat) : Nat → (List (List GStep)) → (List GBy) → Int → Int → Option ((List (List GStep)) × (List GBy) × Int × Int × Bool)
 | 0, _, _, _, _ => none
 | k + 1, a1, a2, a3, a4 =>
 if (decide (a4 < a3)) = true then
 if (decide (0 ≤ (a4 : Int))) = true then
 (match a2[(a4 : Int).toNat]? with
 | some ⟨a5, a6, a7, a8⟩ =>
 if (a5 == 3) = true then
 (match plan_inner_j2 t n  a1 a2 a3 a4 true a5 a6 a7 a8 with
 | some (a9, a10, a11, a12) =>
 plan_inner_l1 t n k a9 a10 a11 (IntKind.wrap .i64 (a12 + 1))
 | none => none)
 else
 (match plan_inner_j2 t n  a1 a2 a3 a4 (decide ((a7.length : Int) > 0)) a5 a6 a7 a8 with
 | some (a13, a14, a15, a16) =>
 plan_inner_l1 t n k a13 a14 a15 (IntKind.wrap .i64 (a16 + 1))
 | none => none)
 | none => none)
 else none
 else
 some (a1, a2, a3, a4, (decide (a4 < a3)))
def plan_inner (t : Tab) (n : Nat) : GStep → Option (List (List GStep))
 | ⟨a1, a2, a3, ⟨a4, a5, a6, a7, a8⟩, ⟨a9, a10, a11⟩, a12, a13, a14⟩ =>
 (match t.slices_Clone_Step a12 with
 | some a15 =>
 (match plan_inner_l1 t n n a15 a13 (a13.length : Int) 0 with
 | some (a16, a17, a18, a19, a20) =>
 some a16
 | none => none)
 | none => none)
def plan_plan_Uses_1 (t : Tab) (n : Nat) : (List GStep) → (List Int) → Option Bool
 | a1, a2 =>
 t.slices_ContainsFunc_plan_some_1_i2 a1 a2
def slices_ContainsFunc_plan_some_1 (t : Tab) (n : Nat) : (List GStep) → Option Bool
 | a1 =>
 (match t.slices_IndexFunc_plan_some_1 a1 with
 | some a2 =>
 some (decide (a2 ≥ 0))
 | none => none)
def ref02_Many_j2 (t : Tab) (n : Nat) (a1 : List GValue) (a2 a3 a4 : Int) : Option ((List GValue) × Int × Int × Int) :=
 if (decide (0 ≤ (a4 : Int))) = true then
 (match a1[(a4 : Int).toNat]? with
 | some ⟨a5, a6, a7, a8, a9⟩ =>
 (match t.ref02_Count (GValue.mk a5 a6 a7 a8 a9) (IntKind.wrap .i64 (a2 - a3)) with
 | some a10 =>
 some (a1, a2, (IntKind.wrap .i64 (a3 + a10)), (IntKind.wrap .i64 (a4 + 1)))
 | none => none)
 | none => none)
 else none
def ref02_Many_l1 (t : Tab) (n : Nat) : Nat → (List GValue) → Int → Int → Int → Option ((List GValue) × Int × Int × Int × Bool)
 | 0, _, _, _, _ => none
 | k + 1, a1, a2, a3, a4 =>
 if (decide (a4 < (a1.length : Int))) = true then
 if (decide (a3 < a2)) = true then
 (match ref02_Many_j2 t n  a1 a2 a3 a4 with
 | some (a5, a6, a7, a8) =>
 ref02_Many_l1 t n k a5 a6 a7 a8
 | none => none)
 else
 some (a1, a2, a3, a4, (decide (a3 < a2)))
 else
 some (a1, a2, a3, a4, false)
def ref02_Many (t : Tab) (n : Nat) : (List GValue) → Int → Option Int
 | a1, a2 =>
 (match ref02_Many_l1 t n n a1 a2 0 0 with
 | some (a3, a4, a5, a6, a7) =>
 some a5
 | none => none)
def slices_IndexFunc_plan_right_1_l1 (t : Tab) (n : Nat) : Nat → (List GStep) → Int → Int → Int → Option (Int ⊕ ((List GStep) × Int × Int × Int × Bool))
 | 0, _, _, _, _ => none
 | k + 1, a1, a2, a3, a4 =>
 if (decide (a4 < a3)) = true then
 if (decide (0 ≤ (a4 : Int))) = true then
 (match a1[(a4 : Int).toNat]? with
 | some ⟨a5, a6, a7, ⟨a8, a9, a10, a11, a12⟩, ⟨a13, a14, a15⟩, a16, a17, a18⟩ =>
 (match t.plan_right_1 (GStep.mk a5 a6 a7 (GValue.mk a8 a9 a10 a11 a12) (GPred.mk a13 a14 a15) a16 a17 a18) a2 with
 | some a19 =>
 if a19 = true then
 some (.inl a4)
 else
 slices_IndexFunc_plan_right_1_l1 t n k a1 a2 a3 (IntKind.wrap .i64 (a4 + 1))
 | none => none)
 | none => none)
 else none
 else
 some (.inr (a1, a2, a3, a4, (decide (a4 < a3))))
def slices_IndexFunc_plan_right_1 (t : Tab) (n : Nat) : (List GStep) → Int → Option Int
 | a1, a2 =>
 (match slices_IndexFunc_plan_right_1_l1 t n n a1 a2 (a1.length : Int) 0 with
 | some (.inl a3) =>
 some a3
 | some (.inr (a4, a5, a6, a7, a8)) =>
 some (-1)
 | none => none)
def ref12_low_l1 (t : Tab) (n : Nat) : Nat → (List Int) → Int → Option (Bool ⊕ ((List Int) × Int × Bool))
 | 0, _, _ => none
 | k + 1, a1, a2 =>
 if (decide (a2 < (a1.length : Int))) = true then
 if (decide (0 ≤ (a2 : Int))) = true then
 (match a1[(a2 : Int).toNat]? with
 | some a3 =>
 if (decide (a3 < 0)) = true then
 some (.inl false)
 else
 ref12_low_l1 t n k a1 (IntKind.wrap .i64 (a2 + 1))
 | none => none)
 else none
 else
 some (.inr (a1, a2, (decide (a2 < (a1.length : Int)))))
def ref12_low (t : Tab) (n : Nat) : (List Int) → Option Bool
 | a1 =>
 (match ref12_low_l1 t n n a1 0 with
 | some (.inl a2) =>
 some a2
 | some (.inr (a3, a4, a5)) =>
 some true
 | none => none)
def ref12_once_l2 (t : Tab) (n : Nat) : Nat → (List ByteArray) → Int → Int → Option (Bool ⊕ ((List ByteArray) × Int × Int × Bool))
 | 0, _, _, _ => none
 | k + 1, a1, a2, a3 =>
 if (decide (a3 < a2)) = true then
 if (decide (0 ≤ (a2 : Int))) = true then
 (match a1[(a2 : Int).toNat]? with
 | some a4 =>
 if (decide (0 ≤ (a3 : Int))) = true then
 (match a1[(a3 : Int).toNat]? with
 | some a5 =>
 if (a4.toList == a5.toList) = true then
 some (.inl false)
 else
 ref12_once_l2 t n k a1 a2 (IntKind.wrap .i64 (a3 + 1))
 | none => none)
 else none
 | none => none)
 else none
 else
 some (.inr (a1, a2, a3, (decide (a3 < a2))))
def ref12_once_l1 (t : Tab) (n : Nat) : Nat → (List ByteArray) → Int → Option (Bool ⊕ ((List ByteArray) × Int × Bool))
 | 0, _, _ => none
 | k + 1, a1, a2 =>
 if (decide (a2 < (a1.length : Int))) = true then
 (match ref12_once_l2 t n n a1 a2 0 with
 | some (.inl a3) =>
 some (.inl a3)
 | some (.inr (a4, a5, a6, a7)) =>
 ref12_once_l1 t n k a4 (IntKind.wrap .i64 (a5 + 1))
 | none => none)
 else
 some (.inr (a1, a2, (decide (a2 < (a1.length : Int)))))
def ref12_once (t : Tab) (n : Nat) : (List ByteArray) → Option Bool
 | a1 =>
 (match ref12_once_l1 t n n a1 0 with
 | some (.inl a2) =>
 some a2
 | some (.inr (a3, a4, a5)) =>
 some true
 | none => none)
def ref05_Name_j2 (t : Tab) (n : Nat) (a1 : ByteArray) (a2 a3 : Int) (a4 : Bool) : Option ((ByteArray × Int) ⊕ Bool) :=
 if a4 = true then
 some (.inl (a1, a2))
 else
 if (a2 == 0) = true then
 some (.inr false)
 else
 if (decide (a3 < 48)) = true then
 some (.inr false)
 else
 if (decide (a3 > 57)) = true then
 some (.inr false)
 else
 some (.inl (a1, a2))
def ref05_Name_l1 (t : Tab) (n : Nat) : Nat → ByteArray → Int → Option (Bool ⊕ (ByteArray × Int × Bool))
 | 0, _, _ => none
 | k + 1, a1, a2 =>
 if (decide (a2 < (a1.size : Int))) = true then
 (match strAt a1 a2 with
 | some a3 =>
 if (decide (a3 ≥ 97)) = true then
 if (decide (a3 ≤ 122)) = true then
 (match ref05_Name_j2 t n  a1 a2 a3 true with
 | some (.inl (a4, a5)) =>
 ref05_Name_l1 t n k a4 (IntKind.wrap .i64 (a5 + 1))
 | some (.inr a6) =>
 some (.inl a6)
 | none => none)
 else
 if (decide (a3 ≥ 65)) = true then
 if (decide (a3 ≤ 90)) = true then
 (match ref05_Name_j2 t n  a1 a2 a3 true with
 | some (.inl (a7, a8)) =>
 ref05_Name_l1 t n k a7 (IntKind.wrap .i64 (a8 + 1))
 | some (.inr a9) =>
 some (.inl a9)
 | none => none)
 else
 (match ref05_Name_j2 t n  a1 a2 a3 (a3 == 95) with
 | some (.inl (a10, a11)) =>
 ref05_Name_l1 t n k a10 (IntKind.wrap .i64 (a11 + 1))
 | some (.inr a12) =>
 some (.inl a12)
 | none => none)
 else
 (match ref05_Name_j2 t n  a1 a2 a3 (a3 == 95) with
 | some (.inl (a13, a14)) =>
 ref05_Name_l1 t n k a13 (IntKind.wrap .i64 (a14 + 1))
 | some (.inr a15) =>
 some (.inl a15)
 | none => none)
 else
 if (decide (a3 ≥ 65)) = true then
 if (decide (a3 ≤ 90)) = true then
 (match ref05_Name_j2 t n  a1 a2 a3 true with
 | some (.inl (a16, a17)) =>
 ref05_Name_l1 t n k a16 (IntKind.wrap .i64 (a17 + 1))
 | some (.inr a18) =>
 some (.inl a18)
 | none => none)
 else
 (match ref05_Name_j2 t n  a1 a2 a3 (a3 == 95) with
 | some (.inl (a19, a20)) =>
 ref05_Name_l1 t n k a19 (IntKind.wrap .i64 (a20 + 1))
 | some (.inr a21) =>
 some (.inl a21)
 | none => none)
 else
 (match ref05_Name_j2 t n  a1 a2 a3 (a3 == 95) with
 | some (.inl (a22, a23)) =>
 ref05_Name_l1 t n k a22 (IntKind.wrap .i64 (a23 + 1))
 | some (.inr a24) =>
 some (.inl a24)
 | none => none)
 | none => none)
 else
 some (.inr (a1, a2, (decide (a2 < (a1.size : Int)))))
def ref05_Name_j3 (t : Tab) (n : Nat) (a1 : ByteArray) : Option Bool :=
 if (decide ((a1.size : Int) ≥ 1)) = true then
 some (decide ((a1.size : Int) ≤ 40))
 else
 some false
def ref05_Name (t : Tab) (n : Nat) : ByteArray → Option Bool
 | a1 =>
 (match ref05_Name_l1 t n n a1 0 with
 | some (.inl a2) =>
 some a2
 | some (.inr (a3, a4, a5)) =>
 ref05_Name_j3 t n  a3
 | none => none)
def ref02_right_l2 (t : Tab) (n : Nat) : Nat → Int → Int → Int → Int → ByteArray → (List GValue) → (List GValue) → Option (Bool ⊕ (Int × Int × Bool × Int × Int × ByteArray × (List GValue) × (List GValue)))
 | 0, _, _, _, _, _, _, _ => none
 | k + 1, a1, a2, a3, a4, a5, a6, a7 =>
 if (decide (a2 < (a6.length : Int))) = true then
 if (decide (0 ≤ (a2 : Int))) = true then
 (match a6[(a2 : Int).toNat]? with
 | some ⟨a8, a9, a10, a11, a12⟩ =>
 (match t.ref02_right (GValue.mk a8 a9 a10 a11 a12) (IntKind.wrap .i64 (a1 + 1)) with
 | some a13 =>
 if a13 = true then
 if (a3 == 7) = true then
 if (decide (a2 > 0)) = true then
 if (decide (0 ≤ ((IntKind.wrap .i64 (a2 - 1)) : Int))) = true then
 (match a6[((IntKind.wrap .i64 (a2 - 1)) : Int).toNat]? with
 | some ⟨a14, a15, a16, a17, a18⟩ =>
 (match t.ref02_Cmp (GValue.mk a14 a15 a16 a17 a18) (GValue.mk a8 a9 a10 a11 a12) with
 | some a19 =>
 if (a19 != (-1)) = true then
 some (.inl false)
 else
 ref02_right_l2 t n k a1 (IntKind.wrap .i64 (a2 + 1)) a3 a4 a5 a6 a7
 | none => none)
 | none => none)
 else none
 else
 ref02_right_l2 t n k a1 (IntKind.wrap .i64 (a2 + 1)) a3 a4 a5 a6 a7
 else
 ref02_right_l2 t n k a1 (IntKind.wrap .i64 (a2 + 1)) a3 a4 a5 a6 a7
 else
 some (.inl false)
 | none => none)
 | none => none)
 else none
 else
 some (.inr (a1, a2, (decide (a2 < (a6.length : Int))), a3, a4, a5, a6, a7))
def ref02_right_l4 (t : Tab) (n : Nat) : Nat → Int → Int → Int → Int → ByteArray → (List GValue) → (List GValue) → Option (Bool ⊕ (Int × Int × Bool × Int × Int × ByteArray × (List GValue) × (List GValue)))
 | 0, _, _, _, _, _, _, _ => none
 | k + 1, a1, a2, a3, a4, a5, a6, a7 =>
 if (decide (a2 < (a7.length : Int))) = true then
 if (decide (0 ≤ (a2 : Int))) = true then
 (match a7[(a2 : Int).toNat]? with
 | some ⟨a8, a9, a10, a11, a12⟩ =>
 (match t.ref02_right (GValue.mk a8 a9 a10 a11 a12) (IntKind.wrap .i64 (a1 + 1)) with
 | some a13 =>
 if a13 = true then
 ref02_right_l4 t n k a1 (IntKind.wrap .i64 (a2 + 1)) a3 a4 a5 a6 a7
 else
 some (.inl false)
 | none => none)
 | none => none)
 else none
 else
 some (.inr (a1, a2, (decide (a2 < (a7.length : Int))), a3, a4, a5, a6, a7))
def ref02_right_j3 (t : Tab) (n : Nat) (a1 a2 a3 : Int) (a4 : ByteArray) (a5 a6 : List GValue) : Option Bool :=
 (match ref02_right_l4 t n n a1 0 a2 a3 a4 a5 a6 with
 | some (.inl a7) =>
 some a7
 | some (.inr (a8, a9, a10, a11, a12, a13, a14, a15)) =>
 some true
 | none => none)
def ref02_right_j1 (t : Tab) (n : Nat) (a1 a2 a3 : Int) (a4 : ByteArray) (a5 a6 : List GValue) : Option Bool :=
 (match ref02_right_l2 t n n a1 0 a2 a3 a4 a5 a6 with
 | some (.inl a7) =>
 some a7
 | some (.inr (a8, a9, a10, a11, a12, a13, a14, a15)) =>
 ref02_right_j3 t n  a8 a11 a12 a13 a14 a15
 | none => none)
def ref02_right (t : Tab) (n : Nat) : GValue → Int → Option Bool
 | ⟨a1, a2, a3, a4, a5⟩, a6 =>
 if (decide (a6 > 12)) = true then
 some false
 else
 (match t.ref02_fields (GValue.mk a1 a2 a3 a4 a5) with
 | some a7 =>
 if a7 = true then
 ref02_right_j1 t n  a6 a1 a2 a3 a4 a5
 else
 some false
 | none => none)
def ref09_right_j4 (t : Tab) (n : Nat) (a1 a2 a3 : Int) (a4 a5 : Bool) (a6 : Int) (a7 : List GValue) (a8 : List GPred) : Option (Int × Int × Int × Bool × Int × (List GValue) × (List GPred)) :=
 if a5 = true then
 if (a2 == 0) = true then
 if (decide (a3 ≥ 2)) = true then
 some (a1, a2, a3, (decide (a3 ≤ 1000)), a6, a7, a8)
 else
 some (a1, a2, a3, false, a6, a7, a8)
 else
 some (a1, a2, a3, false, a6, a7, a8)
 else
 some (a1, a2, a3, a4, a6, a7, a8)
def ref09_right_j3 (t : Tab) (n : Nat) (a1 a2 a3 : Int) (a4 : Bool) (a5 : Int) (a6 : Bool) (a7 : Int) (a8 : List GValue) (a9 : List GPred) : Option (Int × Int × Int × Bool × Int × (List GValue) × (List GPred)) :=
 if a6 = true then
 if (decide (a2 ≤ 1000)) = true then
 some (a1, a2, a3, (a3 == 0), a7, a8, a9)
 else
 some (a1, a2, a3, false, a7, a8, a9)
 else
 if (a5 == 12) = true then
 if (a2 == 0) = true then
 some (a1, a2, a3, (a3 == 1), a7, a8, a9)
 else
 some (a1, a2, a3, false, a7, a8, a9)
 else
 if (a5 == 13) = true then
 ref09_right_j4 t n  a1 a2 a3 a4 (a5 == 13) a7 a8 a9
 else
 ref09_right_j4 t n  a1 a2 a3 a4 (a5 == 14) a7 a8 a9
def ref09_right_j2 (t : Tab) (n : Nat) (a1 a2 a3 : Int) (a4 : Bool) (a5 : Int) (a6 : Bool) (a7 : Int) (a8 : List GValue) (a9 : List GPred) : Option (Int × Int × Int × Bool × Int × (List GValue) × (List GPred)) :=
 if a6 = true then
 if (a2 == 2) = true then
 some (a1, a2, a3, (a3 == 0), a7, a8, a9)
 else
 some (a1, a2, a3, false, a7, a8, a9)
 else
 if (a5 == 10) = true then
 ref09_right_j3 t n  a1 a2 a3 a4 a5 (a5 == 10) a7 a8 a9
 else
 ref09_right_j3 t n  a1 a2 a3 a4 a5 (a5 == 11) a7 a8 a9
def ref09_right_j1 (t : Tab) (n : Nat) (a1 a2 a3 : Int) (a4 : Bool) (a5 : Int) (a6 : Bool) (a7 : Int) (a8 : List GValue) (a9 : List GPred) : Option (Int × Int × Int × Bool × Int × (List GValue) × (List GPred)) :=
 if a6 = true then
 if (a2 == 1) = true then
 some (a1, a2, a3, (a3 == 0), a7, a8, a9)
 else
 some (a1, a2, a3, false, a7, a8, a9)
 else
 if (a5 == 7) = true then
 ref09_right_j2 t n  a1 a2 a3 a4 a5 (a5 == 7) a7 a8 a9
 else
 if (a5 == 8) = true then
 ref09_right_j2 t n  a1 a2 a3 a4 a5 (a5 == 8) a7 a8 a9
 else
 ref09_right_j2 t n  a1 a2 a3 a4 a5 (a5 == 9) a7 a8 a9
def ref09_right_l7 (t : Tab) (n : Nat) : Nat → Int → Int → Int → Int → Int → (List GValue) → (List GPred) → Option (Bool ⊕ (Int × Int × Int × Int × Bool × Int × (List GValue) × (List GPred)))
 | 0, _, _, _, _, _, _, _ => none
 | k + 1, a1, a2, a3, a4, a5, a6, a7 =>
 if (decide (a4 < a2)) = true then
 if (decide (0 ≤ (a4 : Int))) = true then
 (match a6[(a4 : Int).toNat]? with
 | some ⟨a8, a9, a10, a11, a12⟩ =>
 (match t.ref02_Check (GValue.mk a8 a9 a10 a11 a12) with
 | some a13 =>
 if (a13 != 0) = true then
 some (.inl false)
 else
 ref09_right_l7 t n k a1 a2 a3 (IntKind.wrap .i64 (a4 + 1)) a5 a6 a7
 | none => none)
 | none => none)
 else none
 else
 some (.inr (a1, a2, a3, a4, (decide (a4 < a2)), a5, a6, a7))
def ref09_right_l9 (t : Tab) (n : Nat) : Nat → Int → Int → Int → Int → (List GValue) → (List GPred) → Option (Bool ⊕ (Int × Int × Int × Bool × Int × (List GValue) × (List GPred)))
 | 0, _, _, _, _, _, _ => none
 | k + 1, a1, a2, a3, a4, a5, a6 =>
 if (decide (a3 < a2)) = true then
 if (decide (0 ≤ (a3 : Int))) = true then
 (match a6[(a3 : Int).toNat]? with
 | some ⟨a7, a8, a9⟩ =>
 (match t.ref09_right (GPred.mk a7 a8 a9) (IntKind.wrap .i64 (a1 + 1)) with
 | some a10 =>
 if a10 = true then
 ref09_right_l9 t n k a1 a2 (IntKind.wrap .i64 (a3 + 1)) a4 a5 a6
 else
 some (.inl false)
 | none => none)
 | none => none)
 else none
 else
 some (.inr (a1, a2, a3, (decide (a3 < a2)), a4, a5, a6))
def ref09_right_j8 (t : Tab) (n : Nat) (a1 a2 a3 : Int) (a4 : List GValue) (a5 : List GPred) : Option Bool :=
 (match ref09_right_l9 t n n a1 a2 0 a3 a4 a5 with
 | some (.inl a6) =>
 some a6
 | some (.inr (a7, a8, a9, a10, a11, a12, a13)) =>
 some true
 | none => none)
def ref09_right_j6 (t : Tab) (n : Nat) (a1 a2 a3 a4 : Int) (a5 : List GValue) (a6 : List GPred) : Option Bool :=
 (match ref09_right_l7 t n n a1 a2 a3 0 a4 a5 a6 with
 | some (.inl a7) =>
 some a7
 | some (.inr (a8, a9, a10, a11, a12, a13, a14, a15)) =>
 ref09_right_j8 t n  a8 a10 a13 a14 a15
 | none => none)
def ref09_right_j5 (t : Tab) (n : Nat) (a1 a2 a3 : Int) (a4 : Bool) (a5 : Int) (a6 : List GValue) (a7 : List GPred) : Option Bool :=
 if a4 = true then
 if (decide (a1 > 12)) = true then
 some false
 else
 ref09_right_j6 t n  a1 a2 a3 a5 a6 a7
 else
 some false
def ref09_right (t : Tab) (n : Nat) : GPred → Int → Option Bool
 | ⟨a1, a2, a3⟩, a4 =>
 if (a1 == 1) = true then
 (match ref09_right_j1 t n  a4 (a2.length : Int) (a3.length : Int) false a1 (a1 == 1) a1 a2 a3 with
 | some (a5, a6, a7, a8, a9, a10, a11) =>
 ref09_right_j5 t n  a5 a6 a7 a8 a9 a10 a11
 | none => none)
 else
 if (a1 == 2) = true then
 (match ref09_right_j1 t n  a4 (a2.length : Int) (a3.length : Int) false a1 (a1 == 2) a1 a2 a3 with
 | some (a13, a14, a15, a16, a17, a18, a19) =>
 ref09_right_j5 t n  a13 a14 a15 a16 a17 a18 a19
 | none => none)
 else
 if (a1 == 3) = true then
 (match ref09_right_j1 t n  a4 (a2.length : Int) (a3.length : Int) false a1 (a1 == 3) a1 a2 a3 with
 | some (a21, a22, a23, a24, a25, a26, a27) =>
 ref09_right_j5 t n  a21 a22 a23 a24 a25 a26 a27
 | none => none)
 else
 if (a1 == 4) = true then
 (match ref09_right_j1 t n  a4 (a2.length : Int) (a3.length : Int) false a1 (a1 == 4) a1 a2 a3 with
 | some (a29, a30, a31, a32, a33, a34, a35) =>
 ref09_right_j5 t n  a29 a30 a31 a32 a33 a34 a35
 | none => none)
 else
 if (a1 == 5) = true then
 (match ref09_right_j1 t n  a4 (a2.length : Int) (a3.length : Int) false a1 (a1 == 5) a1 a2 a3 with
 | some (a37, a38, a39, a40, a41, a42, a43) =>
 ref09_right_j5 t n  a37 a38 a39 a40 a41 a42 a43
 | none => none)
 else
 (match ref09_right_j1 t n  a4 (a2.length : Int) (a3.length : Int) false a1 (a1 == 6) a1 a2 a3 with
 | some (a45, a46, a47, a48, a49, a50, a51) =>
 ref09_right_j5 t n  a45 a46 a47 a48 a49 a50 a51
 | none => none)
def ref02_SameRows_l1 (t : Tab) (n : Nat) : Nat → (List GValue) → (List GValue) → Int → Option (Bool ⊕ ((List GValue) × (List GValue) × Int × Bool))
 | 0, _, _, _ => none
 | k + 1, a1, a2, a3 =>
 if (decide (a3 < (a1.length : Int))) = true then
 if (decide (0 ≤ (a3 : Int))) = true then
 (match a1[(a3 : Int).toNat]? with
 | some ⟨a4, a5, a6, a7, a8⟩ =>
 (match a2[(a3 : Int).toNat]? with
 | some ⟨a9, a10, a11, a12, a13⟩ =>
 (match t.ref02_Same (GValue.mk a4 a5 a6 a7 a8) (GValue.mk a9 a10 a11 a12 a13) with
 | some a14 =>
 if a14 = true then
 ref02_SameRows_l1 t n k a1 a2 (IntKind.wrap .i64 (a3 + 1))
 else
 some (.inl false)
 | none => none)
 | none => none)
 | none => none)
 else none
 else
 some (.inr (a1, a2, a3, (decide (a3 < (a1.length : Int)))))
def ref02_SameRows (t : Tab) (n : Nat) : (List GValue) → (List GValue) → Option Bool
 | a1, a2 =>
 if ((a1.length : Int) != (a2.length : Int)) = true then
 some false
 else
 (match ref02_SameRows_l1 t n n a1 a2 0 with
 | some (.inl a3) =>
 some a3
 | some (.inr (a4, a5, a6, a7)) =>
 some true
 | none => none)
def ref02_compare_j3 (t : Tab) (n : Nat) (a1 a2 : Int) (a3 : Bool) (a4 a5 : Int) (a6 : ByteArray) (a7 a8 : List GValue) (a9 a10 : Int) (a11 : ByteArray) (a12 a13 : List GValue) : Option (Int × Int × Int × Int × ByteArray × (List GValue) × (List GValue) × Int × Int × ByteArray × (List GValue) × (List GValue)) :=
 if a3 = true then
 (match t.ref02_rows a7 a12 (IntKind.wrap .i64 (a1 + 1)) with
 | some a14 =>
 some (a1, a14, a4, a5, a6, a7, a8, a9, a10, a11, a12, a13)
 | none => none)
 else
 some (a1, a2, a4, a5, a6, a7, a8, a9, a10, a11, a12, a13)
def ref02_compare_j5 (t : Tab) (n : Nat) (a1 a2 : Int) (a3 : Bool) (a4 a5 : Int) (a6 : ByteArray) (a7 a8 : List GValue) (a9 a10 : Int) (a11 : ByteArray) (a12 a13 : List GValue) : Option Int :=
 if a3 = true then
 t.ref02_rows a8 a13 (IntKind.wrap .i64 (a1 + 1))
 else
 some a2
def ref02_compare_j4 (t : Tab) (n : Nat) (a1 a2 a3 a4 : Int) (a5 : ByteArray) (a6 a7 : List GValue) (a8 a9 : Int) (a10 : ByteArray) (a11 a12 : List GValue) : Option Int :=
 if (a2 == 0) = true then
 ref02_compare_j5 t n  a1 a2 (decide (a1 ≤ 12)) a3 a4 a5 a6 a7 a8 a9 a10 a11 a12
 else
 ref02_compare_j5 t n  a1 a2 false a3 a4 a5 a6 a7 a8 a9 a10 a11 a12
def ref02_compare_j2 (t : Tab) (n : Nat) (a1 a2 a3 a4 : Int) (a5 : ByteArray) (a6 a7 : List GValue) (a8 a9 : Int) (a10 : ByteArray) (a11 a12 : List GValue) : Option Int :=
 if (a2 == 0) = true then
 (match ref02_compare_j3 t n  a1 a2 (decide (a1 ≤ 12)) a3 a4 a5 a6 a7 a8 a9 a10 a11 a12 with
 | some (a13, a14, a15, a16, a17, a18, a19, a20, a21, a22, a23, a24) =>
 ref02_compare_j4 t n  a13 a14 a15 a16 a17 a18 a19 a20 a21 a22 a23 a24
 | none => none)
 else
 (match ref02_compare_j3 t n  a1 a2 false a3 a4 a5 a6 a7 a8 a9 a10 a11 a12 with
 | some (a26, a27, a28, a29, a30, a31, a32, a33, a34, a35, a36, a37) =>
 ref02_compare_j4 t n  a26 a27 a28 a29 a30 a31 a32 a33 a34 a35 a36 a37
 | none => none)
def ref02_compare_j1 (t : Tab) (n : Nat) (a1 a2 a3 a4 : Int) (a5 : ByteArray) (a6 a7 : List GValue) (a8 a9 : Int) (a10 : ByteArray) (a11 a12 : List GValue) : Option Int :=
 if (a2 == 0) = true then
 (match t.ref02_texts a5 a10 with
 | some a13 =>
 ref02_compare_j2 t n  a1 a13 a3 a4 a5 a6 a7 a8 a9 a10 a11 a12
 | none => none)
 else
 ref02_compare_j2 t n  a1 a2 a3 a4 a5 a6 a7 a8 a9 a10 a11 a12
def ref02_compare (t : Tab) (n : Nat) : GValue → GValue → Int → Option Int
 | ⟨a1, a2, a3, a4, a5⟩, ⟨a6, a7, a8, a9, a10⟩, a11 =>
 (match t.ref02_sign a1 a6 with
 | some a12 =>
 if (a12 == 0) = true then
 (match t.ref02_sign a2 a7 with
 | some a13 =>
 ref02_compare_j1 t n  a11 a13 a1 a2 a3 a4 a5 a6 a7 a8 a9 a10
 | none => none)
 else
 ref02_compare_j1 t n  a11 a12 a1 a2 a3 a4 a5 a6 a7 a8 a9 a10
 | none => none)
def slices_ContainsFunc_plan_some_1_i2 (t : Tab) (n : Nat) : (List GStep) → (List Int) → Option Bool
 | a1, a2 =>
 (match t.slices_IndexFunc_plan_some_1_i2 a1 a2 with
 | some a3 =>
 some (decide (a3 ≥ 0))
 | none => none)
def slices_IndexFunc_plan_some_1_l1 (t : Tab) (n : Nat) : Nat → (List GStep) → Int → Int → Option (Int ⊕ ((List GStep) × Int × Int × Bool))
 | 0, _, _, _ => none
 | k + 1, a1, a2, a3 =>
 if (decide (a3 < a2)) = true then
 if (decide (0 ≤ (a3 : Int))) = true then
 (match a1[(a3 : Int).toNat]? with
 | some ⟨a4, a5, a6, ⟨a7, a8, a9, a10, a11⟩, ⟨a12, a13, a14⟩, a15, a16, a17⟩ =>
 (match t.plan_some_1_plan_Free_1 (GStep.mk a4 a5 a6 (GValue.mk a7 a8 a9 a10 a11) (GPred.mk a12 a13 a14) a15 a16 a17) with
 | some a18 =>
 if a18 = true then
 some (.inl a3)
 else
 slices_IndexFunc_plan_some_1_l1 t n k a1 a2 (IntKind.wrap .i64 (a3 + 1))
 | none => none)
 | none => none)
 else none
 else
 some (.inr (a1, a2, a3, (decide (a3 < a2))))
def slices_IndexFunc_plan_some_1 (t : Tab) (n : Nat) : (List GStep) → Option Int
 | a1 =>
 (match slices_IndexFunc_plan_some_1_l1 t n n a1 (a1.length : Int) 0 with
 | some (.inl a2) =>
 some a2
 | some (.inr (a3, a4, a5, a6)) =>
 some (-1)
 | none => none)
def plan_right_1 (t : Tab) (n : Nat) : GStep → Int → Option Bool
 | ⟨a1, a2, a3, ⟨a4, a5, a6, a7, a8⟩, ⟨a9, a10, a11⟩, a12, a13, a14⟩, a15 =>
 (match t.plan_step (GStep.mk a1 a2 a3 (GValue.mk a4 a5 a6 a7 a8) (GPred.mk a9 a10 a11) a12 a13 a14) a15 with
 | some a16 =>
 some (!a16)
 | none => none)
def ref02_fields_j2 (t : Tab) (n : Nat) (a1 : Int) (a2 : Bool) (a3 a4 : Int) (a5 : ByteArray) (a6 a7 : List GValue) : Option (Bool ⊕ Unit) :=
 if a2 = true then
 if (a4 == 0) = true then
 if (a5.toList == (ByteArray.mk #[]).toList) = true then
 if (decide ((a6.length : Int) ≤ 1000)) = true then
 some (.inl ((a7.length : Int) == 0))
 else
 some (.inl false)
 else
 some (.inl false)
 else
 some (.inl false)
 else
 if (a1 == 7) = true then
 if (a4 == 0) = true then
 if (a5.toList == (ByteArray.mk #[]).toList) = true then
 if (decide ((a6.length : Int) ≤ 1000)) = true then
 some (.inl ((a7.length : Int) == (a6.length : Int)))
 else
 some (.inl false)
 else
 some (.inl false)
 else
 some (.inl false)
 else
 some (.inr ())
def ref02_fields_j1 (t : Tab) (n : Nat) (a1 : Int) (a2 : Bool) (a3 a4 : Int) (a5 : ByteArray) (a6 a7 : List GValue) : Option (Bool ⊕ Unit) :=
 if a2 = true then
 if (decide (a4 ≥ 0)) = true then
 if (a5.toList == (ByteArray.mk #[]).toList) = true then
 if ((a6.length : Int) == 0) = true then
 some (.inl ((a7.length : Int) == 0))
 else
 some (.inl false)
 else
 some (.inl false)
 else
 some (.inl false)
 else
 if (a1 == 6) = true then
 ref02_fields_j2 t n  a1 (a1 == 6) a3 a4 a5 a6 a7
 else
 ref02_fields_j2 t n  a1 (a1 == 8) a3 a4 a5 a6 a7
def ref02_fields (t : Tab) (n : Nat) : GValue → Option Bool
 | ⟨a1, a2, a3, a4, a5⟩ =>
 if (a1 == 1) = true then
 if (a2 == 0) = true then
 if (a3.toList == (ByteArray.mk #[]).toList) = true then
 if ((a4.length : Int) == 0) = true then
 some ((a5.length : Int) == 0)
 else
 some false
 else
 some false
 else
 if (a2 == 1) = true then
 if (a3.toList == (ByteArray.mk #[]).toList) = true then
 if ((a4.length : Int) == 0) = true then
 some ((a5.length : Int) == 0)
 else
 some false
 else
 some false
 else
 some false
 else
 if (a1 == 2) = true then
 if (a3.toList == (ByteArray.mk #[]).toList) = true then
 if ((a4.length : Int) == 0) = true then
 some ((a5.length : Int) == 0)
 else
 some false
 else
 some false
 else
 if (a1 == 3) = true then
 if (a2 == 0) = true then
 if (decide ((a3.size : Int) ≤ 1000)) = true then
 if ((a4.length : Int) == 0) = true then
 some ((a5.length : Int) == 0)
 else
 some false
 else
 some false
 else
 some false
 else
 if (a1 == 4) = true then
 (match ref02_fields_j1 t n  a1 (a1 == 4) a1 a2 a3 a4 a5 with
 | some (.inl a6) =>
 some a6
 | some (.inr ()) =>
 some false
 | none => none)
 else
 (match ref02_fields_j1 t n  a1 (a1 == 5) a1 a2 a3 a4 a5 with
 | some (.inl a7) =>
 some a7
 | some (.inr ()) =>
 some false
 | none => none)
def ref02_Cmp (t : Tab) (n : Nat) : GValue → GValue → Option Int
 | ⟨a1, a2, a3, a4, a5⟩, ⟨a6, a7, a8, a9, a10⟩ =>
 t.ref02_compare (GValue.mk a1 a2 a3 a4 a5) (GValue.mk a6 a7 a8 a9 a10) 1
def ref02_sign (t : Tab) (n : Nat) : Int → Int → Option Int
 | a1, a2 =>
 if (decide (a1 < a2)) = true then
 some (-1)
 else
 if (decide (a1 > a2)) = true then
 some 1
 else
 some 0
def ref02_texts_j2 (t : Tab) (n : Nat) (a1 a2 : ByteArray) (a3 : Int) : Option (Int ⊕ (ByteArray × ByteArray × Int)) :=
 (match strAt a1 a3 with
 | some a4 =>
 (match strAt a2 a3 with
 | some a5 =>
 if (a4 != a5) = true then
 (match t.ref02_sign (IntKind.wrap .i64 a4) (IntKind.wrap .i64 a5) with
 | some a6 =>
 some (.inl a6)
 | none => none)
 else
 some (.inr (a1, a2, (IntKind.wrap .i64 (a3 + 1))))
 | none => none)
 | none => none)
def ref02_texts_l1 (t : Tab) (n : Nat) : Nat → ByteArray → ByteArray → Int → Option (Int ⊕ (ByteArray × ByteArray × Int × Bool))
 | 0, _, _, _ => none
 | k + 1, a1, a2, a3 =>
 if (decide (a3 < (a1.size : Int))) = true then
 if (decide (a3 < (a2.size : Int))) = true then
 (match ref02_texts_j2 t n  a1 a2 a3 with
 | some (.inl a4) =>
 some (.inl a4)
 | some (.inr (a5, a6, a7)) =>
 ref02_texts_l1 t n k a5 a6 a7
 | none => none)
 else
 some (.inr (a1, a2, a3, (decide (a3 < (a2.size : Int)))))
 else
 some (.inr (a1, a2, a3, false))
def ref02_texts_j3 (t : Tab) (n : Nat) (a1 a2 : ByteArray) : Option Int :=
 t.ref02_sign (a1.size : Int) (a2.size : Int)
def ref02_texts (t : Tab) (n : Nat) : ByteArray → ByteArray → Option Int
 | a1, a2 =>
 (match ref02_texts_l1 t n n a1 a2 0 with
 | some (.inl a3) =>
 some a3
 | some (.inr (a4, a5, a6, a7)) =>
 ref02_texts_j3 t n  a4 a5
 | none => none)
def ref02_rows_j2 (t : Tab) (n : Nat) (a1 a2 : List GValue) (a3 a4 : Int) : Option (Int ⊕ ((List GValue) × (List GValue) × Int × Int)) :=
 if (decide (0 ≤ (a4 : Int))) = true then
 (match a1[(a4 : Int).toNat]? with
 | some ⟨a5, a6, a7, a8, a9⟩ =>
 (match a2[(a4 : Int).toNat]? with
 | some ⟨a10, a11, a12, a13, a14⟩ =>
 (match t.ref02_compare (GValue.mk a5 a6 a7 a8 a9) (GValue.mk a10 a11 a12 a13 a14) a3 with
 | some a15 =>
 if (a15 != 0) = true then
 some (.inl a15)
 else
 some (.inr (a1, a2, a3, (IntKind.wrap .i64 (a4 + 1))))
 | none => none)
 | none => none)
 | none => none)
 else none
def ref02_rows_l1 (t : Tab) (n : Nat) : Nat → (List GValue) → (List GValue) → Int → Int → Option (Int ⊕ ((List GValue) × (List GValue) × Int × Int × Bool))
 | 0, _, _, _, _ => none
 | k + 1, a1, a2, a3, a4 =>
 if (decide (a4 < (a1.length : Int))) = true then
 if (decide (a4 < (a2.length : Int))) = true then
 (match ref02_rows_j2 t n  a1 a2 a3 a4 with
 | some (.inl a5) =>
 some (.inl a5)
 | some (.inr (a6, a7, a8, a9)) =>
 ref02_rows_l1 t n k a6 a7 a8 a9
 | none => none)
 else
 some (.inr (a1, a2, a3, a4, (decide (a4 < (a2.length : Int)))))
 else
 some (.inr (a1, a2, a3, a4, false))
def ref02_rows_j3 (t : Tab) (n : Nat) (a1 a2 : List GValue) : Option Int :=
 t.ref02_sign (a1.length : Int) (a2.length : Int)
def ref02_rows (t : Tab) (n : Nat) : (List GValue) → (List GValue) → Int → Option Int
 | a1, a2, a3 =>
 (match ref02_rows_l1 t n n a1 a2 a3 0 with
 | some (.inl a4) =>
 some a4
 | some (.inr (a5, a6, a7, a8, a9)) =>
 ref02_rows_j3 t n  a5 a6
 | none => none)
def slices_IndexFunc_plan_some_1_i2_l1 (t : Tab) (n : Nat) : Nat → (List GStep) → (List Int) → Int → Int → Option (Int ⊕ ((List GStep) × (List Int) × Int × Int × Bool))
 | 0, _, _, _, _ => none
 | k + 1, a1, a2, a3, a4 =>
 if (decide (a4 < a3)) = true then
 if (decide (0 ≤ (a4 : Int))) = true then
 (match a1[(a4 : Int).toNat]? with
 | some ⟨a5, a6, a7, ⟨a8, a9, a10, a11, a12⟩, ⟨a13, a14, a15⟩, a16, a17, a18⟩ =>
 (match t.plan_some_1_plan_Uses_1 (GStep.mk a5 a6 a7 (GValue.mk a8 a9 a10 a11 a12) (GPred.mk a13 a14 a15) a16 a17 a18) a2 with
 | some a19 =>
 if a19 = true then
 some (.inl a4)
 else
 slices_IndexFunc_plan_some_1_i2_l1 t n k a1 a2 a3 (IntKind.wrap .i64 (a4 + 1))
 | none => none)
 | none => none)
 else none
 else
 some (.inr (a1, a2, a3, a4, (decide (a4 < a3))))
def slices_IndexFunc_plan_some_1_i2 (t : Tab) (n : Nat) : (List GStep) → (List Int) → Option Int
 | a1, a2 =>
 (match slices_IndexFunc_plan_some_1_i2_l1 t n n a1 a2 (a1.length : Int) 0 with
 | some (.inl a3) =>
 some a3
 | some (.inr (a4, a5, a6, a7, a8)) =>
 some (-1)
 | none => none)
def plan_some_1_plan_Free_1 (t : Tab) (n : Nat) : GStep → Option Bool
 | ⟨a1, a2, a3, ⟨a4, a5, a6, a7, a8⟩, ⟨a9, a10, a11⟩, a12, a13, a14⟩ =>
 (match t.plan_Free_1 (GStep.mk a1 a2 a3 (GValue.mk a4 a5 a6 a7 a8) (GPred.mk a9 a10 a11) a12 a13 a14) with
 | some a15 =>
 if a15 = true then
 some true
 else
 (match t.plan_inner (GStep.mk a1 a2 a3 (GValue.mk a4 a5 a6 a7 a8) (GPred.mk a9 a10 a11) a12 a13 a14) with
 | some a16 =>
 t.slices_ContainsFunc_plan_some_1_1 a16
 | none => none)
 | none => none)
def plan_step_j4 (t : Tab) (n : Nat) (a1 : Int) (a2 : Bool) (a3 : Int) (a4 : List ByteArray) (a5 : List Int) (a6 a7 : Int) (a8 : ByteArray) (a9 a10 : List GValue) (a11 : Int) (a12 : List GValue) (a13 : List GPred) (a14 : List (List GStep)) (a15 : List GBy) (a16 : List ByteArray) : Option (Bool ⊕ (Int × Int × (List ByteArray) × (List Int) × Int × Int × ByteArray × (List GValue) × (List GValue) × Int × (List GValue) × (List GPred) × (List (List GStep)) × (List GBy) × (List ByteArray))) :=
 if a2 = true then
 some (.inl false)
 else
 if (a3 == 43) = true then
 (match t.plan_twice a4 with
 | some a17 =>
 if a17 = true then
 some (.inl false)
 else
 if (decide ((a15.length : Int) > (a4.length : Int))) = true then
 some (.inl false)
 else
 some (.inr (a1, a3, a4, a5, a6, a7, a8, a9, a10, a11, a12, a13, a14, a15, a16))
 | none => none)
 else
 some (.inr (a1, a3, a4, a5, a6, a7, a8, a9, a10, a11, a12, a13, a14, a15, a16))
def plan_step_j3 (t : Tab) (n : Nat) (a1 : Int) (a2 : Bool) (a3 : Int) (a4 : List ByteArray) (a5 : List Int) (a6 a7 : Int) (a8 : ByteArray) (a9 a10 : List GValue) (a11 : Int) (a12 : List GValue) (a13 : List GPred) (a14 : List (List GStep)) (a15 : List GBy) (a16 : List ByteArray) (a17 a18 a19 a20 a21 a22 a23 a24 : Int) (a25 a26 : Bool) : Option (Bool ⊕ (Int × Int × (List ByteArray) × (List Int) × Int × Int × ByteArray × (List GValue) × (List GValue) × Int × (List GValue) × (List GPred) × (List (List GStep)) × (List GBy) × (List ByteArray))) :=
 if a2 = true then
 some (.inl false)
 else
 if a26 = true then
 (match t.pred_Check (GPred.mk a11 a12 a13) with
 | some a27 =>
 if (a27 != 0) = true then
 plan_step_j4 t n  a1 true a3 a4 a5 a6 a7 a8 a9 a10 a11 a12 a13 a14 a15 a16
 else
 plan_step_j4 t n  a1 false a3 a4 a5 a6 a7 a8 a9 a10 a11 a12 a13 a14 a15 a16
 | none => none)
 else
 (match t.plan_empty (GPred.mk a11 a12 a13) with
 | some a60 =>
 plan_step_j4 t n  a1 (!a60) a3 a4 a5 a6 a7 a8 a9 a10 a11 a12 a13 a14 a15 a16
 | none => none)
def plan_step_j2 (t : Tab) (n : Nat) (a1 : Int) (a2 : Bool) (a3 : Int) (a4 : List ByteArray) (a5 : List Int) (a6 a7 : Int) (a8 : ByteArray) (a9 a10 : List GValue) (a11 : Int) (a12 : List GValue) (a13 : List GPred) (a14 : List (List GStep)) (a15 : List GBy) (a16 : List ByteArray) (a17 a18 a19 a20 a21 a22 a23 a24 : Int) (a25 a26 : Bool) : Option (Bool ⊕ (Int × Int × (List ByteArray) × (List Int) × Int × Int × ByteArray × (List GValue) × (List GValue) × Int × (List GValue) × (List GPred) × (List (List GStep)) × (List GBy) × (List ByteArray))) :=
 if a2 = true then
 some (.inl false)
 else
 if a25 = true then
 (match t.value_Check (GValue.mk a6 a7 a8 a9 a10) with
 | some a27 =>
 if (a27 != 0) = true then
 plan_step_j3 t n  a1 true a3 a4 a5 a6 a7 a8 a9 a10 a11 a12 a13 a14 a15 a16 a17 a18 a19 a20 a21 a22 a23 a24 a25 a26
 else
 plan_step_j3 t n  a1 false a3 a4 a5 a6 a7 a8 a9 a10 a11 a12 a13 a14 a15 a16 a17 a18 a19 a20 a21 a22 a23 a24 a25 a26
 | none => none)
 else
 (match t.value_Same (GValue.mk a6 a7 a8 a9 a10) (GValue.mk 0 0 ByteArray.empty ([] : List GValue) ([] : List GValue)) with
 | some a60 =>
 plan_step_j3 t n  a1 (!a60) a3 a4 a5 a6 a7 a8 a9 a10 a11 a12 a13 a14 a15 a16 a17 a18 a19 a20 a21 a22 a23 a24 a25 a26
 | none => none)
def plan_step_j1 (t : Tab) (n : Nat) (a1 : Int) (a2 : Bool) (a3 : Int) (a4 : List ByteArray) (a5 : List Int) (a6 a7 : Int) (a8 : ByteArray) (a9 a10 : List GValue) (a11 : Int) (a12 : List GValue) (a13 : List GPred) (a14 : List (List GStep)) (a15 : List GBy) (a16 : List ByteArray) (a17 a18 a19 a20 a21 a22 a23 a24 : Int) (a25 a26 : Bool) : Option (Bool ⊕ (Int × Int × (List ByteArray) × (List Int) × Int × Int × ByteArray × (List GValue) × (List GValue) × Int × (List GValue) × (List GPred) × (List (List GStep)) × (List GBy) × (List ByteArray))) :=
 if a2 = true then
 some (.inl false)
 else
 (match t.slices_ContainsFunc_plan_step_1 a4 with
 | some a27 =>
 if a27 = true then
 plan_step_j2 t n  a1 true a3 a4 a5 a6 a7 a8 a9 a10 a11 a12 a13 a14 a15 a16 a17 a18 a19 a20 a21 a22 a23 a24 a25 a26
 else
 (match t.slices_ContainsFunc_plan_step_1 a16 with
 | some a44 =>
 if a44 = true then
 plan_step_j2 t n  a1 true a3 a4 a5 a6 a7 a8 a9 a10 a11 a12 a13 a14 a15 a16 a17 a18 a19 a20 a21 a22 a23 a24 a25 a26
 else
 (match t.plan_numbers (GStep.mk a3 a4 a5 (GValue.mk a6 a7 a8 a9 a10) (GPred.mk a11 a12 a13) a14 a15 a16) with
 | some a61 =>
 plan_step_j2 t n  a1 (!a61) a3 a4 a5 a6 a7 a8 a9 a10 a11 a12 a13 a14 a15 a16 a17 a18 a19 a20 a21 a22 a23 a24 a25 a26
 | none => none)
 | none => none)
 | none => none)
def plan_step_l6 (t : Tab) (n : Nat) : Nat → Int → (List (List GStep)) → Int → Int → Int → (List ByteArray) → (List Int) → Int → Int → ByteArray → (List GValue) → (List GValue) → Int → (List GValue) → (List GPred) → (List (List GStep)) → (List GBy) → (List ByteArray) → Option (Bool ⊕ (Int × (List (List GStep)) × Int × Int × Bool × Int × (List ByteArray) × (List Int) × Int × Int × ByteArray × (List GValue) × (List GValue) × Int × (List GValue) × (List GPred) × (List (List GStep)) × (List GBy) × (List ByteArray)))
 | 0, _, _, _, _, _, _, _, _, _, _, _, _, _, _, _, _, _, _ => none
 | k + 1, a1, a2, a3, a4, a5, a6, a7, a8, a9, a10, a11, a12, a13, a14, a15, a16, a17, a18 =>
 if (decide (a4 < a3)) = true then
 if (decide (0 ≤ (a4 : Int))) = true then
 (match a2[(a4 : Int).toNat]? with
 | some a19 =>
 (match t.plan_right a19 (IntKind.wrap .i64 (a1 + 1)) with
 | some a20 =>
 if a20 = true then
 plan_step_l6 t n k a1 a2 a3 (IntKind.wrap .i64 (a4 + 1)) a5 a6 a7 a8 a9 a10 a11 a12 a13 a14 a15 a16 a17 a18
 else
 some (.inl false)
 | none => none)
 | none => none)
 else none
 else
 some (.inr (a1, a2, a3, a4, (decide (a4 < a3)), a5, a6, a7, a8, a9, a10, a11, a12, a13, a14, a15, a16, a17, a18))
def plan_step_l8 (t : Tab) (n : Nat) : Nat → Int → (List GBy) → Int → Int → Int → (List ByteArray) → (List Int) → Int → Int → ByteArray → (List GValue) → (List GValue) → Int → (List GValue) → (List GPred) → (List (List GStep)) → (List GBy) → (List ByteArray) → Option (Bool ⊕ (Int × (List GBy) × Int × Int × Bool × Int × (List ByteArray) × (List Int) × Int × Int × ByteArray × (List GValue) × (List GValue) × Int × (List GValue) × (List GPred) × (List (List GStep)) × (List GBy) × (List ByteArray)))
 | 0, _, _, _, _, _, _, _, _, _, _, _, _, _, _, _, _, _, _ => none
 | k + 1, a1, a2, a3, a4, a5, a6, a7, a8, a9, a10, a11, a12, a13, a14, a15, a16, a17, a18 =>
 if (decide (a4 < a3)) = true then
 if (decide (0 ≤ (a4 : Int))) = true then
 (match a2[(a4 : Int).toNat]? with
 | some ⟨a19, a20, a21, a22⟩ =>
 (match t.plan_by (GBy.mk a19 a20 a21 a22) (a5 == 40) a1 with
 | some a23 =>
 if a23 = true then
 plan_step_l8 t n k a1 a2 a3 (IntKind.wrap .i64 (a4 + 1)) a5 a6 a7 a8 a9 a10 a11 a12 a13 a14 a15 a16 a17 a18
 else
 some (.inl false)
 | none => none)
 | none => none)
 else none
 else
 some (.inr (a1, a2, a3, a4, (decide (a4 < a3)), a5, a6, a7, a8, a9, a10, a11, a12, a13, a14, a15, a16, a17, a18))
def plan_step_j7 (t : Tab) (n : Nat) (a1 a2 : Int) (a3 : List ByteArray) (a4 : List Int) (a5 a6 : Int) (a7 : ByteArray) (a8 a9 : List GValue) (a10 : Int) (a11 : List GValue) (a12 : List GPred) (a13 : List (List GStep)) (a14 : List GBy) (a15 : List ByteArray) : Option Bool :=
 (match plan_step_l8 t n n a1 a14 (a14.length : Int) 0 a2 a3 a4 a5 a6 a7 a8 a9 a10 a11 a12 a13 a14 a15 with
 | some (.inl a16) =>
 some a16
 | some (.inr (a17, a18, a19, a20, a21, a22, a23, a24, a25, a26, a27, a28, a29, a30, a31, a32, a33, a34, a35)) =>
 some true
 | none => none)
def plan_step_j5 (t : Tab) (n : Nat) (a1 a2 : Int) (a3 : List ByteArray) (a4 : List Int) (a5 a6 : Int) (a7 : ByteArray) (a8 a9 : List GValue) (a10 : Int) (a11 : List GValue) (a12 : List GPred) (a13 : List (List GStep)) (a14 : List GBy) (a15 : List ByteArray) : Option Bool :=
 (match plan_step_l6 t n n a1 a13 (a13.length : Int) 0 a2 a3 a4 a5 a6 a7 a8 a9 a10 a11 a12 a13 a14 a15 with
 | some (.inl a16) =>
 some a16
 | some (.inr (a17, a18, a19, a20, a21, a22, a23, a24, a25, a26, a27, a28, a29, a30, a31, a32, a33, a34, a35)) =>
 plan_step_j7 t n  a17 a22 a23 a24 a25 a26 a27 a28 a29 a30 a31 a32 a33 a34 a35
 | none => none)
def plan_step (t : Tab) (n : Nat) : GStep → Int → Option Bool
 | ⟨a1, a2, a3, ⟨a4, a5, a6, a7, a8⟩, ⟨a9, a10, a11⟩, a12, a13, a14⟩, a15 =>
 (match t.plan_Name a1 with
 | some a16 =>
 if (a16.toList == (ByteArray.mk #[]).toList) = true then
 some false
 else
 (match t.plan_shapes  with
 | some ⟨⟨⟨a17, a18⟩, ⟨a19, a20⟩, ⟨a21, a22⟩, ⟨a23, a24⟩, a25, a26⟩, ⟨⟨a27, a28⟩, ⟨a29, a30⟩, ⟨a31, a32⟩, ⟨a33, a34⟩, a35, a36⟩, ⟨⟨a37, a38⟩, ⟨a39, a40⟩, ⟨a41, a42⟩, ⟨a43, a44⟩, a45, a46⟩, ⟨⟨a47, a48⟩, ⟨a49, a50⟩, ⟨a51, a52⟩, ⟨a53, a54⟩, a55, a56⟩, ⟨⟨a57, a58⟩, ⟨a59, a60⟩, ⟨a61, a62⟩, ⟨a63, a64⟩, a65, a66⟩, ⟨⟨a67, a68⟩, ⟨a69, a70⟩, ⟨a71, a72⟩, ⟨a73, a74⟩, a75, a76⟩, ⟨⟨a77, a78⟩, ⟨a79, a80⟩, ⟨a81, a82⟩, ⟨a83, a84⟩, a85, a86⟩, ⟨⟨a87, a88⟩, ⟨a89, a90⟩, ⟨a91, a92⟩, ⟨a93, a94⟩, a95, a96⟩, ⟨⟨a97, a98⟩, ⟨a99, a100⟩, ⟨a101, a102⟩, ⟨a103, a104⟩, a105, a106⟩, ⟨⟨a107, a108⟩, ⟨a109, a110⟩, ⟨a111, a112⟩, ⟨a113, a114⟩, a115, a116⟩, ⟨⟨a117, a118⟩, ⟨a119, a120⟩, ⟨a121, a122⟩, ⟨a123, a124⟩, a125, a126⟩, ⟨⟨a127, a128⟩, ⟨a129, a130⟩, ⟨a131, a132⟩, ⟨a133, a134⟩, a135, a136⟩, ⟨⟨a137, a138⟩, ⟨a139, a140⟩, ⟨a141, a142⟩, ⟨a143, a144⟩, a145, a146⟩, ⟨⟨a147, a148⟩, ⟨a149, a150⟩, ⟨a151, a152⟩, ⟨a153, a154⟩, a155, a156⟩, ⟨⟨a157, a158⟩, ⟨a159, a160⟩, ⟨a161, a162⟩, ⟨a163, a164⟩, a165, a166⟩, ⟨⟨a167, a168⟩, ⟨a169, a170⟩, ⟨a171, a172⟩, ⟨a173, a174⟩, a175, a176⟩, ⟨⟨a177, a178⟩, ⟨a179, a180⟩, ⟨a181, a182⟩, ⟨a183, a184⟩, a185, a186⟩, ⟨⟨a187, a188⟩, ⟨a189, a190⟩, ⟨a191, a192⟩, ⟨a193, a194⟩, a195, a196⟩, ⟨⟨a197, a198⟩, ⟨a199, a200⟩, ⟨a201, a202⟩, ⟨a203, a204⟩, a205, a206⟩, ⟨⟨a207, a208⟩, ⟨a209, a210⟩, ⟨a211, a212⟩, ⟨a213, a214⟩, a215, a216⟩, ⟨⟨a217, a218⟩, ⟨a219, a220⟩, ⟨a221, a222⟩, ⟨a223, a224⟩, a225, a226⟩, ⟨⟨a227, a228⟩, ⟨a229, a230⟩, ⟨a231, a232⟩, ⟨a233, a234⟩, a235, a236⟩, ⟨⟨a237, a238⟩, ⟨a239, a240⟩, ⟨a241, a242⟩, ⟨a243, a244⟩, a245, a246⟩, ⟨⟨a247, a248⟩, ⟨a249, a250⟩, ⟨a251, a252⟩, ⟨a253, a254⟩, a255, a256⟩, ⟨⟨a257, a258⟩, ⟨a259, a260⟩, ⟨a261, a262⟩, ⟨a263, a264⟩, a265, a266⟩, ⟨⟨a267, a268⟩, ⟨a269, a270⟩, ⟨a271, a272⟩, ⟨a273, a274⟩, a275, a276⟩, ⟨⟨a277, a278⟩, ⟨a279, a280⟩, ⟨a281, a282⟩, ⟨a283, a284⟩, a285, a286⟩, ⟨⟨a287, a288⟩, ⟨a289, a290⟩, ⟨a291, a292⟩, ⟨a293, a294⟩, a295, a296⟩, ⟨⟨a297, a298⟩, ⟨a299, a300⟩, ⟨a301, a302⟩, ⟨a303, a304⟩, a305, a306⟩, ⟨⟨a307, a308⟩, ⟨a309, a310⟩, ⟨a311, a312⟩, ⟨a313, a314⟩, a315, a316⟩, ⟨⟨a317, a318⟩, ⟨a319, a320⟩, ⟨a321, a322⟩, ⟨a323, a324⟩, a325, a326⟩, ⟨⟨a327, a328⟩, ⟨a329, a330⟩, ⟨a331, a332⟩, ⟨a333, a334⟩, a335, a336⟩, ⟨⟨a337, a338⟩, ⟨a339, a340⟩, ⟨a341, a342⟩, ⟨a343, a344⟩, a345, a346⟩, ⟨⟨a347, a348⟩, ⟨a349, a350⟩, ⟨a351, a352⟩, ⟨a353, a354⟩, a355, a356⟩, ⟨⟨a357, a358⟩, ⟨a359, a360⟩, ⟨a361, a362⟩, ⟨a363, a364⟩, a365, a366⟩, ⟨⟨a367, a368⟩, ⟨a369, a370⟩, ⟨a371, a372⟩, ⟨a373, a374⟩, a375, a376⟩, ⟨⟨a377, a378⟩, ⟨a379, a380⟩, ⟨a381, a382⟩, ⟨a383, a384⟩, a385, a386⟩, ⟨⟨a387, a388⟩, ⟨a389, a390⟩, ⟨a391, a392⟩, ⟨a393, a394⟩, a395, a396⟩, ⟨⟨a397, a398⟩, ⟨a399, a400⟩, ⟨a401, a402⟩, ⟨a403, a404⟩, a405, a406⟩, ⟨⟨a407, a408⟩, ⟨a409, a410⟩, ⟨a411, a412⟩, ⟨a413, a414⟩, a415, a416⟩, ⟨⟨a417, a418⟩, ⟨a419, a420⟩, ⟨a421, a422⟩, ⟨a423, a424⟩, a425, a426⟩, ⟨⟨a427, a428⟩, ⟨a429, a430⟩, ⟨a431, a432⟩, ⟨a433, a434⟩, a435, a436⟩, ⟨⟨a437, a438⟩, ⟨a439, a440⟩, ⟨a441, a442⟩, ⟨a443, a444⟩, a445, a446⟩, ⟨⟨a447, a448⟩, ⟨a449, a450⟩, ⟨a451, a452⟩, ⟨a453, a454⟩, a455, a456⟩, ⟨⟨a457, a458⟩, ⟨a459, a460⟩, ⟨a461, a462⟩, ⟨a463, a464⟩, a465, a466⟩, ⟨⟨a467, a468⟩, ⟨a469, a470⟩, ⟨a471, a472⟩, ⟨a473, a474⟩, a475, a476⟩, ⟨⟨a477, a478⟩, ⟨a479, a480⟩, ⟨a481, a482⟩, ⟨a483, a484⟩, a485, a486⟩, ⟨⟨a487, a488⟩, ⟨a489, a490⟩, ⟨a491, a492⟩, ⟨a493, a494⟩, a495, a496⟩, ⟨⟨a497, a498⟩, ⟨a499, a500⟩, ⟨a501, a502⟩, ⟨a503, a504⟩, a505, a506⟩, ⟨⟨a507, a508⟩, ⟨a509, a510⟩, ⟨a511, a512⟩, ⟨a513, a514⟩, a515, a516⟩, ⟨⟨a517, a518⟩, ⟨a519, a520⟩, ⟨a521, a522⟩, ⟨a523, a524⟩, a525, a526⟩, ⟨⟨a527, a528⟩, ⟨a529, a530⟩, ⟨a531, a532⟩, ⟨a533, a534⟩, a535, a536⟩⟩ =>
 if (decide (0 ≤ (a1 : Int) ∧ (a1 : Int) < ((52 : Nat) : Int))) = true then
 (match ([(Gshape.mk (GT86.mk a17 a18) (GT86.mk a19 a20) (GT86.mk a21 a22) (GT86.mk a23 a24) a25 a26), (Gshape.mk (GT86.mk a27 a28) (GT86.mk a29 a30) (GT86.mk a31 a32) (GT86.mk a33 a34) a35 a36), (Gshape.mk (GT86.mk a37 a38) (GT86.mk a39 a40) (GT86.mk a41 a42) (GT86.mk a43 a44) a45 a46), (Gshape.mk (GT86.mk a47 a48) (GT86.mk a49 a50) (GT86.mk a51 a52) (GT86.mk a53 a54) a55 a56), (Gshape.mk (GT86.mk a57 a58) (GT86.mk a59 a60) (GT86.mk a61 a62) (GT86.mk a63 a64) a65 a66), (Gshape.mk (GT86.mk a67 a68) (GT86.mk a69 a70) (GT86.mk a71 a72) (GT86.mk a73 a74) a75 a76), (Gshape.mk (GT86.mk a77 a78) (GT86.mk a79 a80) (GT86.mk a81 a82) (GT86.mk a83 a84) a85 a86), (Gshape.mk (GT86.mk a87 a88) (GT86.mk a89 a90) (GT86.mk a91 a92) (GT86.mk a93 a94) a95 a96), (Gshape.mk (GT86.mk a97 a98) (GT86.mk a99 a100) (GT86.mk a101 a102) (GT86.mk a103 a104) a105 a106), (Gshape.mk (GT86.mk a107 a108) (GT86.mk a109 a110) (GT86.mk a111 a112) (GT86.mk a113 a114) a115 a116), (Gshape.mk (GT86.mk a117 a118) (GT86.mk a119 a120) (GT86.mk a121 a122) (GT86.mk a123 a124) a125 a126), (Gshape.mk (GT86.mk a127 a128) (GT86.mk a129 a130) (GT86.mk a131 a132) (GT86.mk a133 a134) a135 a136), (Gshape.mk (GT86.mk a137 a138) (GT86.mk a139 a140) (GT86.mk a141 a142) (GT86.mk a143 a144) a145 a146), (Gshape.mk (GT86.mk a147 a148) (GT86.mk a149 a150) (GT86.mk a151 a152) (GT86.mk a153 a154) a155 a156), (Gshape.mk (GT86.mk a157 a158) (GT86.mk a159 a160) (GT86.mk a161 a162) (GT86.mk a163 a164) a165 a166), (Gshape.mk (GT86.mk a167 a168) (GT86.mk a169 a170) (GT86.mk a171 a172) (GT86.mk a173 a174) a175 a176), (Gshape.mk (GT86.mk a177 a178) (GT86.mk a179 a180) (GT86.mk a181 a182) (GT86.mk a183 a184) a185 a186), (Gshape.mk (GT86.mk a187 a188) (GT86.mk a189 a190) (GT86.mk a191 a192) (GT86.mk a193 a194) a195 a196), (Gshape.mk (GT86.mk a197 a198) (GT86.mk a199 a200) (GT86.mk a201 a202) (GT86.mk a203 a204) a205 a206), (Gshape.mk (GT86.mk a207 a208) (GT86.mk a209 a210) (GT86.mk a211 a212) (GT86.mk a213 a214) a215 a216), (Gshape.mk (GT86.mk a217 a218) (GT86.mk a219 a220) (GT86.mk a221 a222) (GT86.mk a223 a224) a225 a226), (Gshape.mk (GT86.mk a227 a228) (GT86.mk a229 a230) (GT86.mk a231 a232) (GT86.mk a233 a234) a235 a236), (Gshape.mk (GT86.mk a237 a238) (GT86.mk a239 a240) (GT86.mk a241 a242) (GT86.mk a243 a244) a245 a246), (Gshape.mk (GT86.mk a247 a248) (GT86.mk a249 a250) (GT86.mk a251 a252) (GT86.mk a253 a254) a255 a256), (Gshape.mk (GT86.mk a257 a258) (GT86.mk a259 a260) (GT86.mk a261 a262) (GT86.mk a263 a264) a265 a266), (Gshape.mk (GT86.mk a267 a268) (GT86.mk a269 a270) (GT86.mk a271 a272) (GT86.mk a273 a274) a275 a276), (Gshape.mk (GT86.mk a277 a278) (GT86.mk a279 a280) (GT86.mk a281 a282) (GT86.mk a283 a284) a285 a286), (Gshape.mk (GT86.mk a287 a288) (GT86.mk a289 a290) (GT86.mk a291 a292) (GT86.mk a293 a294) a295 a296), (Gshape.mk (GT86.mk a297 a298) (GT86.mk a299 a300) (GT86.mk a301 a302) (GT86.mk a303 a304) a305 a306), (Gshape.mk (GT86.mk a307 a308) (GT86.mk a309 a310) (GT86.mk a311 a312) (GT86.mk a313 a314) a315 a316), (Gshape.mk (GT86.mk a317 a318) (GT86.mk a319 a320) (GT86.mk a321 a322) (GT86.mk a323 a324) a325 a326), (Gshape.mk (GT86.mk a327 a328) (GT86.mk a329 a330) (GT86.mk a331 a332) (GT86.mk a333 a334) a335 a336), (Gshape.mk (GT86.mk a337 a338) (GT86.mk a339 a340) (GT86.mk a341 a342) (GT86.mk a343 a344) a345 a346), (Gshape.mk (GT86.mk a347 a348) (GT86.mk a349 a350) (GT86.mk a351 a352) (GT86.mk a353 a354) a355 a356), (Gshape.mk (GT86.mk a357 a358) (GT86.mk a359 a360) (GT86.mk a361 a362) (GT86.mk a363 a364) a365 a366), (Gshape.mk (GT86.mk a367 a368) (GT86.mk a369 a370) (GT86.mk a371 a372) (GT86.mk a373 a374) a375 a376), (Gshape.mk (GT86.mk a377 a378) (GT86.mk a379 a380) (GT86.mk a381 a382) (GT86.mk a383 a384) a385 a386), (Gshape.mk (GT86.mk a387 a388) (GT86.mk a389 a390) (GT86.mk a391 a392) (GT86.mk a393 a394) a395 a396), (Gshape.mk (GT86.mk a397 a398) (GT86.mk a399 a400) (GT86.mk a401 a402) (GT86.mk a403 a404) a405 a406), (Gshape.mk (GT86.mk a407 a408) (GT86.mk a409 a410) (GT86.mk a411 a412) (GT86.mk a413 a414) a415 a416), (Gshape.mk (GT86.mk a417 a418) (GT86.mk a419 a420) (GT86.mk a421 a422) (GT86.mk a423 a424) a425 a426), (Gshape.mk (GT86.mk a427 a428) (GT86.mk a429 a430) (GT86.mk a431 a432) (GT86.mk a433 a434) a435 a436), (Gshape.mk (GT86.mk a437 a438) (GT86.mk a439 a440) (GT86.mk a441 a442) (GT86.mk a443 a444) a445 a446), (Gshape.mk (GT86.mk a447 a448) (GT86.mk a449 a450) (GT86.mk a451 a452) (GT86.mk a453 a454) a455 a456), (Gshape.mk (GT86.mk a457 a458) (GT86.mk a459 a460) (GT86.mk a461 a462) (GT86.mk a463 a464) a465 a466), (Gshape.mk (GT86.mk a467 a468) (GT86.mk a469 a470) (GT86.mk a471 a472) (GT86.mk a473 a474) a475 a476), (Gshape.mk (GT86.mk a477 a478) (GT86.mk a479 a480) (GT86.mk a481 a482) (GT86.mk a483 a484) a485 a486), (Gshape.mk (GT86.mk a487 a488) (GT86.mk a489 a490) (GT86.mk a491 a492) (GT86.mk a493 a494) a495 a496), (Gshape.mk (GT86.mk a497 a498) (GT86.mk a499 a500) (GT86.mk a501 a502) (GT86.mk a503 a504) a505 a506), (Gshape.mk (GT86.mk a507 a508) (GT86.mk a509 a510) (GT86.mk a511 a512) (GT86.mk a513 a514) a515 a516), (Gshape.mk (GT86.mk a517 a518) (GT86.mk a519 a520) (GT86.mk a521 a522) (GT86.mk a523 a524) a525 a526), (Gshape.mk (GT86.mk a527 a528) (GT86.mk a529 a530) (GT86.mk a531 a532) (GT86.mk a533 a534) a535 a536)] : List Gshape)[(a1 : Int).toNat]? with
 | some ⟨⟨a537, a538⟩, ⟨a539, a540⟩, ⟨a541, a542⟩, ⟨a543, a544⟩, a545, a546⟩ =>
 (match t.plan_in (a2.length : Int) (GT86.mk a537 a538) with
 | some a547 =>
 if a547 = true then
 (match t.plan_in (a3.length : Int) (GT86.mk a539 a540) with
 | some a548 =>
 if a548 = true then
 (match t.plan_in (a12.length : Int) (GT86.mk a541 a542) with
 | some a549 =>
 if a549 = true then
 (match t.plan_in (a13.length : Int) (GT86.mk a543 a544) with
 | some a550 =>
 if a550 = true then
 (match plan_step_j1 t n  a15 (decide ((a14.length : Int) > 50)) a1 a2 a3 a4 a5 a6 a7 a8 a9 a10 a11 a12 a13 a14 a537 a538 a539 a540 a541 a542 a543 a544 a545 a546 with
 | some (.inl a551) =>
 some a551
 | some (.inr (a552, a553, a554, a555, a556, a557, a558, a559, a560, a561, a562, a563, a564, a565, a566)) =>
 plan_step_j5 t n  a552 a553 a554 a555 a556 a557 a558 a559 a560 a561 a562 a563 a564 a565 a566
 | none => none)
 else
 (match plan_step_j1 t n  a15 true a1 a2 a3 a4 a5 a6 a7 a8 a9 a10 a11 a12 a13 a14 a537 a538 a539 a540 a541 a542 a543 a544 a545 a546 with
 | some (.inl a568) =>
 some a568
 | some (.inr (a569, a570, a571, a572, a573, a574, a575, a576, a577, a578, a579, a580, a581, a582, a583)) =>
 plan_step_j5 t n  a569 a570 a571 a572 a573 a574 a575 a576 a577 a578 a579 a580 a581 a582 a583
 | none => none)
 | none => none)
 else
 (match plan_step_j1 t n  a15 true a1 a2 a3 a4 a5 a6 a7 a8 a9 a10 a11 a12 a13 a14 a537 a538 a539 a540 a541 a542 a543 a544 a545 a546 with
 | some (.inl a585) =>
 some a585
 | some (.inr (a586, a587, a588, a589, a590, a591, a592, a593, a594, a595, a596, a597, a598, a599, a600)) =>
 plan_step_j5 t n  a586 a587 a588 a589 a590 a591 a592 a593 a594 a595 a596 a597 a598 a599 a600
 | none => none)
 | none => none)
 else
 (match plan_step_j1 t n  a15 true a1 a2 a3 a4 a5 a6 a7 a8 a9 a10 a11 a12 a13 a14 a537 a538 a539 a540 a541 a542 a543 a544 a545 a546 with
 | some (.inl a602) =>
 some a602
 | some (.inr (a603, a604, a605, a606, a607, a608, a609, a610, a611, a612, a613, a614, a615, a616, a617)) =>
 plan_step_j5 t n  a603 a604 a605 a606 a607 a608 a609 a610 a611 a612 a613 a614 a615 a616 a617
 | none => none)
 | none => none)
 else
 (match plan_step_j1 t n  a15 true a1 a2 a3 a4 a5 a6 a7 a8 a9 a10 a11 a12 a13 a14 a537 a538 a539 a540 a541 a542 a543 a544 a545 a546 with
 | some (.inl a619) =>
 some a619
 | some (.inr (a620, a621, a622, a623, a624, a625, a626, a627, a628, a629, a630, a631, a632, a633, a634)) =>
 plan_step_j5 t n  a620 a621 a622 a623 a624 a625 a626 a627 a628 a629 a630 a631 a632 a633 a634
 | none => none)
 | none => none)
 | none => none)
 else none
 | none => none)
 | none => none)
def plan_some_1_plan_Uses_1 (t : Tab) (n : Nat) : GStep → (List Int) → Option Bool
 | ⟨a1, a2, a3, ⟨a4, a5, a6, a7, a8⟩, ⟨a9, a10, a11⟩, a12, a13, a14⟩, a15 =>
 (match t.plan_Uses_1 (GStep.mk a1 a2 a3 (GValue.mk a4 a5 a6 a7 a8) (GPred.mk a9 a10 a11) a12 a13 a14) a15 with
 | some a16 =>
 if a16 = true then
 some true
 else
 (match t.plan_inner (GStep.mk a1 a2 a3 (GValue.mk a4 a5 a6 a7 a8) (GPred.mk a9 a10 a11) a12 a13 a14) with
 | some a17 =>
 t.slices_ContainsFunc_plan_some_1_1_i2 a17 a15
 | none => none)
 | none => none)
def plan_Free_1 (t : Tab) (n : Nat) : GStep → Option Bool
 | ⟨a1, a2, a3, ⟨a4, a5, a6, a7, a8⟩, ⟨a9, a10, a11⟩, a12, a13, a14⟩ =>
 some (decide ((a14.length : Int) > 0))
def slices_ContainsFunc_plan_some_1_1 (t : Tab) (n : Nat) : (List (List GStep)) → Option Bool
 | a1 =>
 (match t.slices_IndexFunc_plan_some_1_1 a1 with
 | some a2 =>
 some (decide (a2 ≥ 0))
 | none => none)
def plan_shapes (t : Tab) (n : Nat) : Option GT89 :=
 some (GT89.mk (Gshape.mk (GT86.mk 0 0) (GT86.mk 0 0) (GT86.mk 0 0) (GT86.mk 0 0) false false) (Gshape.mk (GT86.mk 0 0) (GT86.mk 0 50) (GT86.mk 0 0) (GT86.mk 0 0) false false) (Gshape.mk (GT86.mk 0 0) (GT86.mk 0 50) (GT86.mk 0 0) (GT86.mk 0 0) false false) (Gshape.mk (GT86.mk 0 50) (GT86.mk 0 0) (GT86.mk 0 0) (GT86.mk 0 0) false false) (Gshape.mk (GT86.mk 0 50) (GT86.mk 0 0) (GT86.mk 0 0) (GT86.mk 0 0) false false) (Gshape.mk (GT86.mk 0 50) (GT86.mk 0 0) (GT86.mk 0 0) (GT86.mk 0 0) false false) (Gshape.mk (GT86.mk 0 50) (GT86.mk 0 0) (GT86.mk 0 0) (GT86.mk 0 0) false false) (Gshape.mk (GT86.mk 0 50) (GT86.mk 0 0) (GT86.mk 0 0) (GT86.mk 0 0) false false) (Gshape.mk (GT86.mk 0 50) (GT86.mk 0 0) (GT86.mk 0 0) (GT86.mk 0 0) false false) (Gshape.mk (GT86.mk 0 0) (GT86.mk 0 0) (GT86.mk 0 0) (GT86.mk 0 0) false false) (Gshape.mk (GT86.mk 0 0) (GT86.mk 0 0) (GT86.mk 0 0) (GT86.mk 0 0) false false) (Gshape.mk (GT86.mk 0 0) (GT86.mk 0 0) (GT86.mk 0 0) (GT86.mk 0 0) false false) (Gshape.mk (GT86.mk 0 0) (GT86.mk 0 0) (GT86.mk 0 0) (GT86.mk 0 0) false false) (Gshape.mk (GT86.mk 0 0) (GT86.mk 0 0) (GT86.mk 0 0) (GT86.mk 0 0) false false) (Gshape.mk (GT86.mk 0 50) (GT86.mk 0 0) (GT86.mk 0 0) (GT86.mk 0 0) false false) (Gshape.mk (GT86.mk 0 0) (GT86.mk 0 0) (GT86.mk 0 0) (GT86.mk 0 0) true false) (Gshape.mk (GT86.mk 0 0) (GT86.mk 0 0) (GT86.mk 0 0) (GT86.mk 0 0) false false) (Gshape.mk (GT86.mk 1 50) (GT86.mk 0 0) (GT86.mk 0 0) (GT86.mk 0 0) false false) (Gshape.mk (GT86.mk 1 1) (GT86.mk 0 0) (GT86.mk 0 0) (GT86.mk 0 0) false true) (Gshape.mk (GT86.mk 1 1) (GT86.mk 0 0) (GT86.mk 0 0) (GT86.mk 0 0) false false) (Gshape.mk (GT86.mk 1 1) (GT86.mk 0 0) (GT86.mk 0 0) (GT86.mk 0 0) false false) (Gshape.mk (GT86.mk 0 0) (GT86.mk 1 50) (GT86.mk 0 0) (GT86.mk 0 0) false false) (Gshape.mk (GT86.mk 0 0) (GT86.mk 0 0) (GT86.mk 0 0) (GT86.mk 0 0) false true) (Gshape.mk (GT86.mk 0 0) (GT86.mk 0 0) (GT86.mk 0 0) (GT86.mk 0 0) false false) (Gshape.mk (GT86.mk 0 0) (GT86.mk 2 2) (GT86.mk 0 0) (GT86.mk 0 0) false false) (Gshape.mk (GT86.mk 0 0) (GT86.mk 1 1) (GT86.mk 0 0) (GT86.mk 0 0) false false) (Gshape.mk (GT86.mk 0 0) (GT86.mk 0 0) (GT86.mk 0 0) (GT86.mk 0 0) false false) (Gshape.mk (GT86.mk 0 0) (GT86.mk 0 0) (GT86.mk 0 0) (GT86.mk 0 0) false false) (Gshape.mk (GT86.mk 0 0) (GT86.mk 0 0) (GT86.mk 1 1) (GT86.mk 0 0) false false) (Gshape.mk (GT86.mk 0 0) (GT86.mk 0 0) (GT86.mk 1 1) (GT86.mk 0 0) false false) (Gshape.mk (GT86.mk 0 0) (GT86.mk 0 0) (GT86.mk 1 50) (GT86.mk 0 0) false false) (Gshape.mk (GT86.mk 0 0) (GT86.mk 0 0) (GT86.mk 1 50) (GT86.mk 0 0) false false) (Gshape.mk (GT86.mk 0 0) (GT86.mk 0 0) (GT86.mk 0 0) (GT86.mk 0 0) false false) (Gshape.mk (GT86.mk 0 0) (GT86.mk 0 0) (GT86.mk 0 0) (GT86.mk 0 0) false false) (Gshape.mk (GT86.mk 0 0) (GT86.mk 0 0) (GT86.mk 0 0) (GT86.mk 0 0) false false) (Gshape.mk (GT86.mk 0 0) (GT86.mk 0 0) (GT86.mk 0 0) (GT86.mk 0 0) false false) (Gshape.mk (GT86.mk 0 0) (GT86.mk 0 0) (GT86.mk 0 0) (GT86.mk 0 0) false false) (Gshape.mk (GT86.mk 0 0) (GT86.mk 0 0) (GT86.mk 0 0) (GT86.mk 0 0) false false) (Gshape.mk (GT86.mk 0 0) (GT86.mk 0 0) (GT86.mk 0 0) (GT86.mk 0 0) false false) (Gshape.mk (GT86.mk 1 50) (GT86.mk 0 0) (GT86.mk 0 0) (GT86.mk 0 0) false false) (Gshape.mk (GT86.mk 0 0) (GT86.mk 0 0) (GT86.mk 0 0) (GT86.mk 0 50) false false) (Gshape.mk (GT86.mk 0 0) (GT86.mk 0 0) (GT86.mk 0 0) (GT86.mk 0 2) false false) (Gshape.mk (GT86.mk 0 0) (GT86.mk 0 0) (GT86.mk 0 0) (GT86.mk 0 1) false false) (Gshape.mk (GT86.mk 1 50) (GT86.mk 0 0) (GT86.mk 0 0) (GT86.mk 0 50) false false) (Gshape.mk (GT86.mk 0 0) (GT86.mk 0 0) (GT86.mk 1 50) (GT86.mk 0 0) false false) (Gshape.mk (GT86.mk 0 0) (GT86.mk 0 0) (GT86.mk 1 50) (GT86.mk 0 0) false false) (Gshape.mk (GT86.mk 0 0) (GT86.mk 0 0) (GT86.mk 3 3) (GT86.mk 0 0) false false) (Gshape.mk (GT86.mk 0 0) (GT86.mk 0 0) (GT86.mk 1 1) (GT86.mk 0 0) false false) (Gshape.mk (GT86.mk 0 0) (GT86.mk 2 2) (GT86.mk 1 2) (GT86.mk 0 0) false false) (Gshape.mk (GT86.mk 1 1) (GT86.mk 0 0) (GT86.mk 0 0) (GT86.mk 0 0) false false) (Gshape.mk (GT86.mk 1 1) (GT86.mk 0 0) (GT86.mk 0 0) (GT86.mk 0 0) false false) (Gshape.mk (GT86.mk 0 0) (GT86.mk 0 0) (GT86.mk 0 0) (GT86.mk 0 0) false false))
def plan_in (t : Tab) (n : Nat) : Int → GT86 → Option Bool
 | a1, ⟨a2, a3⟩ =>
 if (decide (a1 ≥ a2)) = true then
 some (decide (a1 ≤ a3))
 else
 some false
def slices_ContainsFunc_plan_step_1 (t : Tab) (n : Nat) : (List ByteArray) → Option Bool
 | a1 =>
 (match t.slices_IndexFunc_plan_step_1 a1 with
 | some a2 =>
 some (decide (a2 ≥ 0))
 | none => none)
def value_Check (t : Tab) (n : Nat) : GValue → Option Int
 | ⟨a1, a2, a3, a4, a5⟩ =>
 (match t.value_plain (GValue.mk a1 a2 a3 a4 a5) 1 with
 | some a6 =>
 if a6 = true then
 some 0
 else
 some 2
 | none => none)
def pred_Check (t : Tab) (n : Nat) : GPred → Option Int
 | ⟨a1, a2, a3⟩ =>
 (match t.pred_right (GPred.mk a1 a2 a3) 1 with
 | some a4 =>
 if a4 = true then
 some 0
 else
 some 2
 | none => none)
def plan_twice_l1 (t : Tab) (n : Nat) : Nat → (List ByteArray) → (List ByteArray) → Int → Int → Option (Bool ⊕ ((List ByteArray) × (List ByteArray) × Int × Int × Bool))
 | 0, _, _, _, _ => none
 | k + 1, a1, a2, a3, a4 =>
 if (decide (a4 < a3)) = true then
 if (decide (0 ≤ (a4 : Int))) = true then
 (match a2[(a4 : Int).toNat]? with
 | some a5 =>
 if (decide (0 ≤ (0 : Int) ∧ (0 : Int) ≤ (a4 : Int) ∧ (a4 : Int) ≤ (a1.length : Int))) = true then
 (match t.slices_Contains_string ((a1.take (a4 : Int).toNat).drop (0 : Int).toNat) a5 with
 | some a6 =>
 if a6 = true then
 some (.inl true)
 else
 plan_twice_l1 t n k a1 a2 a3 (IntKind.wrap .i64 (a4 + 1))
 | none => none)
 else none
 | none => none)
 else none
 else
 some (.inr (a1, a2, a3, a4, (decide (a4 < a3))))
def plan_twice (t : Tab) (n : Nat) : (List ByteArray) → Option Bool
 | a1 =>
 (match plan_twice_l1 t n n a1 a1 (a1.length : Int) 0 with
 | some (.inl a2) =>
 some a2
 | some (.inr (a3, a4, a5, a6, a7)) =>
 some false
 | none => none)
def plan_empty (t : Tab) (n : Nat) : GPred → Option Bool
 | ⟨a1, a2, a3⟩ =>
 if (a1 == 0) = true then
 some ((IntKind.wrap .i64 ((a2.length : Int) + (a3.length : Int))) == 0)
 else
 some false
def value_Same (t : Tab) (n : Nat) : GValue → GValue → Option Bool
 | ⟨a1, a2, a3, a4, a5⟩, ⟨a6, a7, a8, a9, a10⟩ =>
 (match t.value_Cmp (GValue.mk a1 a2 a3 a4 a5) (GValue.mk a6 a7 a8 a9 a10) with
 | some a11 =>
 some (a11 == 0)
 | none => none)
def plan_numbers_j1 (t : Tab) (n : Nat) (a1 : Bool) (a2 : Int) (a3 : List ByteArray) (a4 : List Int) (a5 a6 : Int) (a7 : ByteArray) (a8 a9 : List GValue) (a10 : Int) (a11 : List GValue) (a12 : List GPred) (a13 : List (List GStep)) (a14 : List GBy) (a15 : List ByteArray) : Option (Bool ⊕ Unit) :=
 if a1 = true then
 if (a2 == 21) = true then
 some (.inl true)
 else
 (match t.slices_ContainsFunc_plan_numbers_1 a4 with
 | some a16 =>
 some (.inl (!a16))
 | none => none)
 else
 some (.inr ())
def plan_numbers (t : Tab) (n : Nat) : GStep → Option Bool
 | ⟨a1, a2, a3, ⟨a4, a5, a6, a7, a8⟩, ⟨a9, a10, a11⟩, a12, a13, a14⟩ =>
 if (a1 == 24) = true then
 if (decide (0 ≤ (0 : Int))) = true then
 (match a3[(0 : Int).toNat]? with
 | some a15 =>
 if (decide (a15 ≥ 0)) = true then
 if (decide (0 ≤ (1 : Int))) = true then
 (match a3[(1 : Int).toNat]? with
 | some a16 =>
 if (a16 == (-1)) = true then
 some true
 else
 some (decide (a16 ≥ a15))
 | none => none)
 else none
 else
 some false
 | none => none)
 else none
 else
 if (a1 == 48) = true then
 if (decide (0 ≤ (0 : Int))) = true then
 (match a3[(0 : Int).toNat]? with
 | some a17 =>
 if (decide (a17 ≥ (-1))) = true then
 if (decide (0 ≤ (1 : Int))) = true then
 (match a3[(1 : Int).toNat]? with
 | some a18 =>
 if (decide (a18 ≥ 0)) = true then
 if (decide (a18 ≤ 1)) = true then
 if ((a12.length : Int) == 2) = true then
 some true
 else
 some (decide (a17 ≥ 0))
 else
 some false
 else
 some false
 | none => none)
 else none
 else
 some false
 | none => none)
 else none
 else
 if (a1 == 1) = true then
 (match plan_numbers_j1 t n  (a1 == 1) a1 a2 a3 a4 a5 a6 a7 a8 a9 a10 a11 a12 a13 a14 with
 | some (.inl a19) =>
 some a19
 | some (.inr ()) =>
 some true
 | none => none)
 else
 if (a1 == 2) = true then
 (match plan_numbers_j1 t n  (a1 == 2) a1 a2 a3 a4 a5 a6 a7 a8 a9 a10 a11 a12 a13 a14 with
 | some (.inl a20) =>
 some a20
 | some (.inr ()) =>
 some true
 | none => none)
 else
 if (a1 == 21) = true then
 (match plan_numbers_j1 t n  (a1 == 21) a1 a2 a3 a4 a5 a6 a7 a8 a9 a10 a11 a12 a13 a14 with
 | some (.inl a21) =>
 some a21
 | some (.inr ()) =>
 some true
 | none => none)
 else
 (match plan_numbers_j1 t n  (a1 == 25) a1 a2 a3 a4 a5 a6 a7 a8 a9 a10 a11 a12 a13 a14 with
 | some (.inl a22) =>
 some a22
 | some (.inr ()) =>
 some true
 | none => none)
def plan_by_j1 (t : Tab) (n : Nat) (a1 a2 : Int) (a3 : ByteArray) (a4 : List GStep) (a5 : Bool) : Option Bool :=
 if (a2 == 1) = true then
 some true
 else
 if (a2 == 2) = true then
 t.graph_Name a3
 else
 if (a2 == 3) = true then
 t.plan_right a4 (IntKind.wrap .i64 (a1 + 1))
 else
 some false
def plan_by (t : Tab) (n : Nat) : GBy → Bool → Int → Option Bool
 | ⟨a1, a2, a3, a4⟩, a5, a6 =>
 if a4 = true then
 if a5 = true then
 if (a1 != 2) = true then
 if (a2.toList == (ByteArray.mk #[]).toList) = true then
 if (a1 != 3) = true then
 if (decide ((a3.length : Int) > 0)) = true then
 some false
 else
 plan_by_j1 t n  a6 a1 a2 a3 a4
 else
 plan_by_j1 t n  a6 a1 a2 a3 a4
 else
 some false
 else
 if (a1 != 3) = true then
 if (decide ((a3.length : Int) > 0)) = true then
 some false
 else
 plan_by_j1 t n  a6 a1 a2 a3 a4
 else
 plan_by_j1 t n  a6 a1 a2 a3 a4
 else
 some false
 else
 if (a1 != 2) = true then
 if (a2.toList == (ByteArray.mk #[]).toList) = true then
 if (a1 != 3) = true then
 if (decide ((a3.length : Int) > 0)) = true then
 some false
 else
 plan_by_j1 t n  a6 a1 a2 a3 a4
 else
 plan_by_j1 t n  a6 a1 a2 a3 a4
 else
 some false
 else
 if (a1 != 3) = true then
 if (decide ((a3.length : Int) > 0)) = true then
 some false
 else
 plan_by_j1 t n  a6 a1 a2 a3 a4
 else
 plan_by_j1 t n  a6 a1 a2 a3 a4
def plan_Uses_1 (t : Tab) (n : Nat) : GStep → (List Int) → Option Bool
 | ⟨a1, a2, a3, ⟨a4, a5, a6, a7, a8⟩, ⟨a9, a10, a11⟩, a12, a13, a14⟩, a15 =>
 t.slices_Contains_int a15 a1
def slices_ContainsFunc_plan_some_1_1_i2 (t : Tab) (n : Nat) : (List (List GStep)) → (List Int) → Option Bool
 | a1, a2 =>
 (match t.slices_IndexFunc_plan_some_1_1_i2 a1 a2 with
 | some a3 =>
 some (decide (a3 ≥ 0))
 | none => none)
def slices_IndexFunc_plan_some_1_1_l1 (t : Tab) (n : Nat) : Nat → (List (List GStep)) → Int → Int → Option (Int ⊕ ((List (List GStep)) × Int × Int × Bool))
 | 0, _, _, _ => none
 | k + 1, a1, a2, a3 =>
 if (decide (a3 < a2)) = true then
 if (decide (0 ≤ (a3 : Int))) = true then
 (match a1[(a3 : Int).toNat]? with
 | some a4 =>
 (match t.plan_some_1_1_plan_Free_1 a4 with
 | some a5 =>
 if a5 = true then
 some (.inl a3)
 else
 slices_IndexFunc_plan_some_1_1_l1 t n k a1 a2 (IntKind.wrap .i64 (a3 + 1))
 | none => none)
 | none => none)
 else none
 else
 some (.inr (a1, a2, a3, (decide (a3 < a2))))
def slices_IndexFunc_plan_some_1_1 (t : Tab) (n : Nat) : (List (List GStep)) → Option Int
 | a1 =>
 (match slices_IndexFunc_plan_some_1_1_l1 t n n a1 (a1.length : Int) 0 with
 | some (.inl a2) =>
 some a2
 | some (.inr (a3, a4, a5, a6)) =>
 some (-1)
 | none => none)
def slices_IndexFunc_plan_step_1_l1 (t : Tab) (n : Nat) : Nat → (List ByteArray) → Int → Int → Option (Int ⊕ ((List ByteArray) × Int × Int × Bool))
 | 0, _, _, _ => none
 | k + 1, a1, a2, a3 =>
 if (decide (a3 < a2)) = true then
 if (decide (0 ≤ (a3 : Int))) = true then
 (match a1[(a3 : Int).toNat]? with
 | some a4 =>
 (match t.plan_step_1 a4 with
 | some a5 =>
 if a5 = true then
 some (.inl a3)
 else
 slices_IndexFunc_plan_step_1_l1 t n k a1 a2 (IntKind.wrap .i64 (a3 + 1))
 | none => none)
 | none => none)
 else none
 else
 some (.inr (a1, a2, a3, (decide (a3 < a2))))
def slices_IndexFunc_plan_step_1 (t : Tab) (n : Nat) : (List ByteArray) → Option Int
 | a1 =>
 (match slices_IndexFunc_plan_step_1_l1 t n n a1 (a1.length : Int) 0 with
 | some (.inl a2) =>
 some a2
 | some (.inr (a3, a4, a5, a6)) =>
 some (-1)
 | none => none)
def value_plain_l4 (t : Tab) (n : Nat) : Nat → Int → (List GValue) → Int → Int → Int → Int → ByteArray → (List GValue) → (List GValue) → Option (Bool ⊕ (Int × (List GValue) × Int × Int × Bool × Int × Int × ByteArray × (List GValue) × (List GValue)))
 | 0, _, _, _, _, _, _, _, _, _ => none
 | k + 1, a1, a2, a3, a4, a5, a6, a7, a8, a9 =>
 if (decide (a4 < a3)) = true then
 if (decide (0 ≤ (a4 : Int))) = true then
 (match a2[(a4 : Int).toNat]? with
 | some ⟨a10, a11, a12, a13, a14⟩ =>
 (match t.value_plain (GValue.mk a10 a11 a12 a13 a14) (IntKind.wrap .i64 (a1 + 1)) with
 | some a15 =>
 if a15 = true then
 if (a5 == 7) = true then
 if (decide (a4 > 0)) = true then
 if (decide (a4 < (a8.length : Int))) = true then
 if (decide (0 ≤ ((IntKind.wrap .i64 (a4 - 1)) : Int))) = true then
 (match a8[((IntKind.wrap .i64 (a4 - 1)) : Int).toNat]? with
 | some ⟨a16, a17, a18, a19, a20⟩ =>
 (match t.value_Cmp (GValue.mk a16 a17 a18 a19 a20) (GValue.mk a10 a11 a12 a13 a14) with
 | some a21 =>
 if (decide (a21 ≥ 0)) = true then
 some (.inl false)
 else
 value_plain_l4 t n k a1 a2 a3 (IntKind.wrap .i64 (a4 + 1)) a5 a6 a7 a8 a9
 | none => none)
 | none => none)
 else none
 else
 value_plain_l4 t n k a1 a2 a3 (IntKind.wrap .i64 (a4 + 1)) a5 a6 a7 a8 a9
 else
 value_plain_l4 t n k a1 a2 a3 (IntKind.wrap .i64 (a4 + 1)) a5 a6 a7 a8 a9
 else
 value_plain_l4 t n k a1 a2 a3 (IntKind.wrap .i64 (a4 + 1)) a5 a6 a7 a8 a9
 else
 some (.inl false)
 | none => none)
 | none => none)
 else none
 else
 some (.inr (a1, a2, a3, a4, (decide (a4 < a3)), a5, a6, a7, a8, a9))
def value_plain_j3 (t : Tab) (n : Nat) (a1 a2 a3 : Int) (a4 : ByteArray) (a5 a6 : List GValue) : Option Bool :=
 (match t.slices_Concat_Value ([a5, a6] : List (List GValue)) with
 | some a7 =>
 (match value_plain_l4 t n n a1 a7 (a7.length : Int) 0 a2 a3 a4 a5 a6 with
 | some (.inl a8) =>
 some a8
 | some (.inr (a9, a10, a11, a12, a13, a14, a15, a16, a17, a18)) =>
 some true
 | none => none)
 | none => none)
def value_plain_j2 (t : Tab) (n : Nat) (a1 a2 a3 : Int) (a4 : ByteArray) (a5 a6 : List GValue) : Option Bool :=
 if (decide ((a5.length : Int) > 1000)) = true then
 some false
 else
 if (a2 == 7) = true then
 if ((a6.length : Int) != (a5.length : Int)) = true then
 some false
 else
 if (a2 != 7) = true then
 if (decide ((a6.length : Int) > 0)) = true then
 some false
 else
 value_plain_j3 t n  a1 a2 a3 a4 a5 a6
 else
 value_plain_j3 t n  a1 a2 a3 a4 a5 a6
 else
 if (a2 != 7) = true then
 if (decide ((a6.length : Int) > 0)) = true then
 some false
 else
 value_plain_j3 t n  a1 a2 a3 a4 a5 a6
 else
 value_plain_j3 t n  a1 a2 a3 a4 a5 a6
def value_plain_j1 (t : Tab) (n : Nat) (a1 : Int) (a2 a3 : Bool) (a4 a5 : Int) (a6 : ByteArray) (a7 a8 : List GValue) : Option Bool :=
 if a3 = true then
 if (decide ((a6.size : Int) > 1000)) = true then
 some false
 else
 if (a5 != 0) = true then
 some false
 else
 if a2 = true then
 value_plain_j2 t n  a1 a4 a5 a6 a7 a8
 else
 if (decide ((IntKind.wrap .i64 ((a7.length : Int) + (a8.length : Int))) > 0)) = true then
 some false
 else
 value_plain_j2 t n  a1 a4 a5 a6 a7 a8
 else
 if (a6.toList == (ByteArray.mk #[]).toList) = true then
 if (decide ((a6.size : Int) > 1000)) = true then
 some false
 else
 if a2 = true then
 if (a5 != 0) = true then
 some false
 else
 value_plain_j2 t n  a1 a4 a5 a6 a7 a8
 else
 if (decide ((IntKind.wrap .i64 ((a7.length : Int) + (a8.length : Int))) > 0)) = true then
 some false
 else
 value_plain_j2 t n  a1 a4 a5 a6 a7 a8
 else
 some false
def value_plain_j5 (t : Tab) (n : Nat) (a1 : Int) (a2 a3 : Bool) (a4 : Int) (a5 : Bool) (a6 a7 : Int) (a8 : ByteArray) (a9 a10 : List GValue) : Option (Bool ⊕ (Int × Bool × Bool × Int × Int × ByteArray × (List GValue) × (List GValue))) :=
 if a5 = true then
 if (decide (a7 < 0)) = true then
 some (.inl false)
 else
 some (.inr (a1, a2, a3, a6, a7, a8, a9, a10))
 else
 if (a4 == 3) = true then
 some (.inr (a1, a2, true, a6, a7, a8, a9, a10))
 else
 if (a4 == 6) = true then
 some (.inr (a1, true, a3, a6, a7, a8, a9, a10))
 else
 if (a4 == 8) = true then
 some (.inr (a1, true, a3, a6, a7, a8, a9, a10))
 else
 if (a4 == 7) = true then
 some (.inr (a1, true, a3, a6, a7, a8, a9, a10))
 else
 some (.inl false)
def value_plain (t : Tab) (n : Nat) : GValue → Int → Option Bool
 | ⟨a1, a2, a3, a4, a5⟩, a6 =>
 if (decide (a6 > 12)) = true then
 some false
 else
 if (a1 == 1) = true then
 if (decide (a2 < 0)) = true then
 some false
 else
 if (decide (a2 > 1)) = true then
 some false
 else
 value_plain_j1 t n  a6 false false a1 a2 a3 a4 a5
 else
 if (a1 == 2) = true then
 value_plain_j1 t n  a6 false false a1 a2 a3 a4 a5
 else
 if (a1 == 4) = true then
 (match value_plain_j5 t n  a6 false false a1 (a1 == 4) a1 a2 a3 a4 a5 with
 | some (.inl a9) =>
 some a9
 | some (.inr (a10, a11, a12, a13, a14, a15, a16, a17)) =>
 value_plain_j1 t n  a10 a11 a12 a13 a14 a15 a16 a17
 | none => none)
 else
 (match value_plain_j5 t n  a6 false false a1 (a1 == 5) a1 a2 a3 a4 a5 with
 | some (.inl a19) =>
 some a19
 | some (.inr (a20, a21, a22, a23, a24, a25, a26, a27)) =>
 value_plain_j1 t n  a20 a21 a22 a23 a24 a25 a26 a27
 | none => none)
def pred_right_j1 (t : Tab) (n : Nat) (a1 : Int) (a2 : List GValue) (a3 : List GPred) (a4 : Int) : Option Bool :=
 (match t.slices_ContainsFunc_pred_right_1 a3 a4 with
 | some a5 =>
 if a5 = true then
 some false
 else
 (match t.slices_ContainsFunc_pred_right_2 a2 with
 | some a6 =>
 some (!a6)
 | none => none)
 | none => none)
def pred_right (t : Tab) (n : Nat) : GPred → Int → Option Bool
 | ⟨a1, a2, a3⟩, a4 =>
 (match t.pred_arity a1 with
 | some (a5, a6, a7, a8) =>
 if (decide (a4 > 12)) = true then
 some false
 else
 if (decide ((a2.length : Int) < a5)) = true then
 some false
 else
 if (decide ((a2.length : Int) > a6)) = true then
 some false
 else
 if (decide ((a3.length : Int) < a7)) = true then
 some false
 else
 if (decide ((a3.length : Int) > a8)) = true then
 some false
 else
 pred_right_j1 t n  a1 a2 a3 a4
 | none => none)
def slices_Contains_string (t : Tab) (n : Nat) : (List ByteArray) → ByteArray → Option Bool
 | a1, a2 =>
 (match t.slices_Index_string a1 a2 with
 | some a3 =>
 some (decide (a3 ≥ 0))
 | none => none)
def value_Cmp (t : Tab) (n : Nat) : GValue → GValue → Option Int
 | ⟨a1, a2, a3, a4, a5⟩, ⟨a6, a7, a8, a9, a10⟩ =>
 t.value_compare (GValue.mk a1 a2 a3 a4 a5) (GValue.mk a6 a7 a8 a9 a10) 1
def slices_ContainsFunc_plan_numbers_1 (t : Tab) (n : Nat) : (List Int) → Option Bool
 | a1 =>
 (match t.slices_IndexFunc_plan_numbers_1 a1 with
 | some a2 =>
 some (decide (a2 ≥ 0))
 | none => none)
def graph_Name_l1 (t : Tab) (n : Nat) : Nat → ByteArray → Int → Int → Option (Bool ⊕ (ByteArray × Int × Int × Bool))
 | 0, _, _, _ => none
 | k + 1, a1, a2, a3 =>
 if (decide (a3 < a2)) = true then
 (match strAt a1 a3 with
 | some a4 =>
 (match t.graph_sign a4 (a3 == 0) with
 | some a5 =>
 if a5 = true then
 graph_Name_l1 t n k a1 a2 (IntKind.wrap .i64 (a3 + 1))
 else
 some (.inl false)
 | none => none)
 | none => none)
 else
 some (.inr (a1, a2, a3, (decide (a3 < a2))))
def graph_Name_j2 (t : Tab) (n : Nat) (a1 : ByteArray) : Option Bool :=
 if (a1.toList == (ByteArray.mk #[]).toList) = true then
 some false
 else
 some (decide ((a1.size : Int) ≤ 40))
def graph_Name (t : Tab) (n : Nat) : ByteArray → Option Bool
 | a1 =>
 (match graph_Name_l1 t n n a1 (a1.size : Int) 0 with
 | some (.inl a2) =>
 some a2
 | some (.inr (a3, a4, a5, a6)) =>
 graph_Name_j2 t n  a3
 | none => none)
def slices_Contains_int (t : Tab) (n : Nat) : (List Int) → Int → Option Bool
 | a1, a2 =>
 (match t.slices_Index_int a1 a2 with
 | some a3 =>
 some (decide (a3 ≥ 0))
 | none => none)
def slices_IndexFunc_plan_some_1_1_i2_l1 (t : Tab) (n : Nat) : Nat → (List (List GStep)) → (List Int) → Int → Int → Option (Int ⊕ ((List (List GStep)) × (List Int) × Int × Int × Bool))
 | 0, _, _, _, _ => none
 | k + 1, a1, a2, a3, a4 =>
 if (decide (a4 < a3)) = true then
 if (decide (0 ≤ (a4 : Int))) = true then
 (match a1[(a4 : Int).toNat]? with
 | some a5 =>
 (match t.plan_some_1_1_plan_Uses_1 a5 a2 with
 | some a6 =>
 if a6 = true then
 some (.inl a4)
 else
 slices_IndexFunc_plan_some_1_1_i2_l1 t n k a1 a2 a3 (IntKind.wrap .i64 (a4 + 1))
 | none => none)
 | none => none)
 else none
 else
 some (.inr (a1, a2, a3, a4, (decide (a4 < a3))))
def slices_IndexFunc_plan_some_1_1_i2 (t : Tab) (n : Nat) : (List (List GStep)) → (List Int) → Option Int
 | a1, a2 =>
 (match slices_IndexFunc_plan_some_1_1_i2_l1 t n n a1 a2 (a1.length : Int) 0 with
 | some (.inl a3) =>
 some a3
 | some (.inr (a4, a5, a6, a7, a8)) =>
 some (-1)
 | none => none)
def plan_some_1_1_plan_Free_1 (t : Tab) (n : Nat) : (List GStep) → Option Bool
 | a1 =>
 t.plan_plan_Free_1 a1
def plan_step_1 (t : Tab) (n : Nat) : ByteArray → Option Bool
 | a1 =>
 (match t.graph_Name a1 with
 | some a2 =>
 some (!a2)
 | none => none)
def slices_Concat_Value_l1 (t : Tab) (n : Nat) : Nat → (List (List GValue)) → Int → (List (List GValue)) → Int → Int → Option ((List (List GValue)) × Int × (List (List GValue)) × Int × Int × Bool)
 | 0, _, _, _, _, _ => none
 | k + 1, a1, a2, a3, a4, a5 =>
 if (decide (a5 < a4)) = true then
 if (decide (0 ≤ (a5 : Int))) = true then
 (match a3[(a5 : Int).toNat]? with
 | some a6 =>
 if (decide ((IntKind.wrap .i64 (a2 + (a6.length : Int))) < 0)) = true then
 none
 else
 slices_Concat_Value_l1 t n k a1 (IntKind.wrap .i64 (a2 + (a6.length : Int))) a3 a4 (IntKind.wrap .i64 (a5 + 1))
 | none => none)
 else none
 else
 some (a1, a2, a3, a4, a5, (decide (a5 < a4)))
def slices_Concat_Value_l3 (t : Tab) (n : Nat) : Nat → (List GValue) → (List (List GValue)) → Int → Int → Option ((List GValue) × (List (List GValue)) × Int × Int × Bool)
 | 0, _, _, _, _ => none
 | k + 1, a1, a2, a3, a4 =>
 if (decide (a4 < a3)) = true then
 if (decide (0 ≤ (a4 : Int))) = true then
 (match a2[(a4 : Int).toNat]? with
 | some a5 =>
 if (a1.length + a5.length) * 80 ≤ 140737488355328 then
 slices_Concat_Value_l3 t n k (a1 ++ a5) a2 a3 (IntKind.wrap .i64 (a4 + 1))
 else none
 | none => none)
 else none
 else
 some (a1, a2, a3, a4, (decide (a4 < a3)))
def slices_Concat_Value_j2 (t : Tab) (n : Nat) (a1 : List (List GValue)) (a2 : Int) : Option (List GValue) :=
 (match t.slices_Grow_Value ([] : List GValue) a2 with
 | some a3 =>
 (match slices_Concat_Value_l3 t n n a3 a1 (a1.length : Int) 0 with
 | some (a4, a5, a6, a7, a8) =>
 some a4
 | none => none)
 | none => none)
def slices_Concat_Value (t : Tab) (n : Nat) : (List (List GValue)) → Option (List GValue)
 | a1 =>
 (match slices_Concat_Value_l1 t n n a1 0 a1 (a1.length : Int) 0 with
 | some (a2, a3, a4, a5, a6, a7) =>
 slices_Concat_Value_j2 t n  a2 a3
 | none => none)
def pred_arity_j3 (t : Tab) (n : Nat) (a1 : Int) (a2 : Bool) : Option ((Int × Int × Int × Int) ⊕ Unit) :=
 if a2 = true then
 some (.inl (0, 1000, 0, 0))
 else
 if (a1 == 12) = true then
 some (.inl (0, 0, 1, 1))
 else
 if (a1 == 13) = true then
 some (.inl (0, 0, 2, 1000))
 else
 if (a1 == 14) = true then
 some (.inl (0, 0, 2, 1000))
 else
 some (.inr ())
def pred_arity_j2 (t : Tab) (n : Nat) (a1 : Int) (a2 : Bool) : Option ((Int × Int × Int × Int) ⊕ Unit) :=
 if a2 = true then
 some (.inl (2, 2, 0, 0))
 else
 if (a1 == 10) = true then
 pred_arity_j3 t n  a1 true
 else
 pred_arity_j3 t n  a1 (a1 == 11)
def pred_arity_j1 (t : Tab) (n : Nat) (a1 : Int) (a2 : Bool) : Option ((Int × Int × Int × Int) ⊕ Unit) :=
 if a2 = true then
 some (.inl (1, 1, 0, 0))
 else
 if (decide (a1 ≥ 7)) = true then
 pred_arity_j2 t n  a1 (decide (a1 ≤ 9))
 else
 pred_arity_j2 t n  a1 false
def pred_arity (t : Tab) (n : Nat) : Int → Option (Int × Int × Int × Int)
 | a1 =>
 if (decide (a1 ≥ 1)) = true then
 (match pred_arity_j1 t n  a1 (decide (a1 ≤ 6)) with
 | some (.inl (a2, a3, a4, a5)) =>
 some (a2, a3, a4, a5)
 | some (.inr ()) =>
 some (1, 0, 1, 0)
 | none => none)
 else
 (match pred_arity_j1 t n  a1 false with
 | some (.inl (a6, a7, a8, a9)) =>
 some (a6, a7, a8, a9)
 | some (.inr ()) =>
 some (1, 0, 1, 0)
 | none => none)
def slices_ContainsFunc_pred_right_1 (t : Tab) (n : Nat) : (List GPred) → Int → Option Bool
 | a1, a2 =>
 (match t.slices_IndexFunc_pred_right_1 a1 a2 with
 | some a3 =>
 some (decide (a3 ≥ 0))
 | none => none)
def slices_ContainsFunc_pred_right_2 (t : Tab) (n : Nat) : (List GValue) → Option Bool
 | a1 =>
 (match t.slices_IndexFunc_pred_right_2 a1 with
 | some a2 =>
 some (decide (a2 ≥ 0))
 | none => none)
def slices_Index_string_l1 (t : Tab) (n : Nat) : Nat → (List ByteArray) → ByteArray → Int → Int → Option (Int ⊕ ((List ByteArray) × ByteArray × Int × Int × Bool))
 | 0, _, _, _, _ => none
 | k + 1, a1, a2, a3, a4 =>
 if (decide (a4 < a3)) = true then
 if (decide (0 ≤ (a4 : Int))) = true then
 (match a1[(a4 : Int).toNat]? with
 | some a5 =>
 if (a2.toList == a5.toList) = true then
 some (.inl a4)
 else
 slices_Index_string_l1 t n k a1 a2 a3 (IntKind.wrap .i64 (a4 + 1))
 | none => none)
 else none
 else
 some (.inr (a1, a2, a3, a4, (decide (a4 < a3))))
def slices_Index_string (t : Tab) (n : Nat) : (List ByteArray) → ByteArray → Option Int
 | a1, a2 =>
 (match slices_Index_string_l1 t n n a1 a2 (a1.length : Int) 0 with
 | some (.inl a3) =>
 some a3
 | some (.inr (a4, a5, a6, a7, a8)) =>
 some (-1)
 | none => none)
def value_compare_j1 (t : Tab) (n : Nat) (a1 a2 : Int) (a3 : ByteArray) (a4 a5 : List GValue) (a6 a7 : Int) (a8 : ByteArray) (a9 a10 : List GValue) (a11 : Int) : Option Int :=
 (match t.slices_CompareFunc_value_compare_1 a4 a9 a11 with
 | some a12 =>
 (match t.slices_CompareFunc_value_compare_1 a5 a10 a11 with
 | some a13 =>
 t.cmp_Or_int ([a12, a13] : List Int)
 | none => none)
 | none => none)
def value_compare (t : Tab) (n : Nat) : GValue → GValue → Int → Option Int
 | ⟨a1, a2, a3, a4, a5⟩, ⟨a6, a7, a8, a9, a10⟩, a11 =>
 (match t.cmp_Compare_int a1 a6 with
 | some a12 =>
 (match t.cmp_Compare_int a2 a7 with
 | some a13 =>
 (match t.strings_Compare a3 a8 with
 | some a14 =>
 (match t.cmp_Or_int ([a12, a13, a14] : List Int) with
 | some a15 =>
 if (a15 != 0) = true then
 some a15
 else
 if (decide (a11 > 12)) = true then
 some a15
 else
 value_compare_j1 t n  a1 a2 a3 a4 a5 a6 a7 a8 a9 a10 a11
 | none => none)
 | none => none)
 | none => none)
 | none => none)
def slices_IndexFunc_plan_numbers_1_l1 (t : Tab) (n : Nat) : Nat → (List Int) → Int → Int → Option (Int ⊕ ((List Int) × Int × Int × Bool))
 | 0, _, _, _ => none
 | k + 1, a1, a2, a3 =>
 if (decide (a3 < a2)) = true then
 if (decide (0 ≤ (a3 : Int))) = true then
 (match a1[(a3 : Int).toNat]? with
 | some a4 =>
 (match t.plan_numbers_1 a4 with
 | some a5 =>
 if a5 = true then
 some (.inl a3)
 else
 slices_IndexFunc_plan_numbers_1_l1 t n k a1 a2 (IntKind.wrap .i64 (a3 + 1))
 | none => none)
 | none => none)
 else none
 else
 some (.inr (a1, a2, a3, (decide (a3 < a2))))
def slices_IndexFunc_plan_numbers_1 (t : Tab) (n : Nat) : (List Int) → Option Int
 | a1 =>
 (match slices_IndexFunc_plan_numbers_1_l1 t n n a1 (a1.length : Int) 0 with
 | some (.inl a2) =>
 some a2
 | some (.inr (a3, a4, a5, a6)) =>
 some (-1)
 | none => none)
def graph_sign_j1 (t : Tab) (n : Nat) (a1 : Int) (a2 a3 : Bool) : Option (Int × Bool × Bool) :=
 if a3 = true then
 some (a1, a2, a3)
 else
 if (decide (a1 ≥ 65)) = true then
 if (decide (a1 ≤ 90)) = true then
 some (a1, a2, (decide (a1 ≤ 90)))
 else
 some (a1, a2, (a1 == 95))
 else
 some (a1, a2, (a1 == 95))
def graph_sign_j2 (t : Tab) (n : Nat) (a1 : Int) (a2 a3 : Bool) : Option (Bool ⊕ Unit) :=
 if a3 = true then
 some (.inl true)
 else
 if (decide (a1 ≥ 48)) = true then
 if (decide (a1 ≤ 57)) = true then
 some (.inl (!a2))
 else
 some (.inr ())
 else
 some (.inr ())
def graph_sign (t : Tab) (n : Nat) : Int → Bool → Option Bool
 | a1, a2 =>
 if (decide (a1 ≥ 97)) = true then
 (match graph_sign_j1 t n  a1 a2 (decide (a1 ≤ 122)) with
 | some (a3, a4, a5) =>
 (match graph_sign_j2 t n  a3 a4 a5 with
 | some (.inl a6) =>
 some a6
 | some (.inr ()) =>
 some false
 | none => none)
 | none => none)
 else
 (match graph_sign_j1 t n  a1 a2 false with
 | some (a7, a8, a9) =>
 (match graph_sign_j2 t n  a7 a8 a9 with
 | some (.inl a10) =>
 some a10
 | some (.inr ()) =>
 some false
 | none => none)
 | none => none)
def slices_Index_int_l1 (t : Tab) (n : Nat) : Nat → (List Int) → Int → Int → Int → Option (Int ⊕ ((List Int) × Int × Int × Int × Bool))
 | 0, _, _, _, _ => none
 | k + 1, a1, a2, a3, a4 =>
 if (decide (a4 < a3)) = true then
 if (decide (0 ≤ (a4 : Int))) = true then
 (match a1[(a4 : Int).toNat]? with
 | some a5 =>
 if (a2 == a5) = true then
 some (.inl a4)
 else
 slices_Index_int_l1 t n k a1 a2 a3 (IntKind.wrap .i64 (a4 + 1))
 | none => none)
 else none
 else
 some (.inr (a1, a2, a3, a4, (decide (a4 < a3))))
def slices_Index_int (t : Tab) (n : Nat) : (List Int) → Int → Option Int
 | a1, a2 =>
 (match slices_Index_int_l1 t n n a1 a2 (a1.length : Int) 0 with
 | some (.inl a3) =>
 some a3
 | some (.inr (a4, a5, a6, a7, a8)) =>
 some (-1)
 | none => none)
def plan_some_1_1_plan_Uses_1 (t : Tab) (n : Nat) : (List GStep) → (List Int) → Option Bool
 | a1, a2 =>
 t.plan_plan_Uses_1 a1 a2
def slices_IndexFunc_pred_right_1_l1 (t : Tab) (n : Nat) : Nat → (List GPred) → Int → Int → Int → Option (Int ⊕ ((List GPred) × Int × Int × Int × Bool))
 | 0, _, _, _, _ => none
 | k + 1, a1, a2, a3, a4 =>
 if (decide (a4 < a3)) = true then
 if (decide (0 ≤ (a4 : Int))) = true then
 (match a1[(a4 : Int).toNat]? with
 | some ⟨a5, a6, a7⟩ =>
 (match t.pred_right_1 (GPred.mk a5 a6 a7) a2 with
 | some a8 =>
 if a8 = true then
 some (.inl a4)
 else
 slices_IndexFunc_pred_right_1_l1 t n k a1 a2 a3 (IntKind.wrap .i64 (a4 + 1))
 | none => none)
 | none => none)
 else none
 else
 some (.inr (a1, a2, a3, a4, (decide (a4 < a3))))
def slices_IndexFunc_pred_right_1 (t : Tab) (n : Nat) : (List GPred) → Int → Option Int
 | a1, a2 =>
 (match slices_IndexFunc_pred_right_1_l1 t n n a1 a2 (a1.length : Int) 0 with
 | some (.inl a3) =>
 some a3
 | some (.inr (a4, a5, a6, a7, a8)) =>
 some (-1)
 | none => none)
def slices_IndexFunc_pred_right_2_l1 (t : Tab) (n : Nat) : Nat → (List GValue) → Int → Int → Option (Int ⊕ ((List GValue) × Int × Int × Bool))
 | 0, _, _, _ => none
 | k + 1, a1, a2, a3 =>
 if (decide (a3 < a2)) = true then
 if (decide (0 ≤ (a3 : Int))) = true then
 (match a1[(a3 : Int).toNat]? with
 | some ⟨a4, a5, a6, a7, a8⟩ =>
 (match t.pred_right_2 (GValue.mk a4 a5 a6 a7 a8) with
 | some a9 =>
 if a9 = true then
 some (.inl a3)
 else
 slices_IndexFunc_pred_right_2_l1 t n k a1 a2 (IntKind.wrap .i64 (a3 + 1))
 | none => none)
 | none => none)
 else none
 else
 some (.inr (a1, a2, a3, (decide (a3 < a2))))
def slices_IndexFunc_pred_right_2 (t : Tab) (n : Nat) : (List GValue) → Option Int
 | a1 =>
 (match slices_IndexFunc_pred_right_2_l1 t n n a1 (a1.length : Int) 0 with
 | some (.inl a2) =>
 some a2
 | some (.inr (a3, a4, a5, a6)) =>
 some (-1)
 | none => none)
def cmp_Compare_int (t : Tab) (n : Nat) : Int → Int → Option Int
 | a1, a2 =>
 (match t.cmp_isNaN_int a1 with
 | some a3 =>
 (match t.cmp_isNaN_int a2 with
 | some a4 =>
 if a3 = true then
 if a4 = true then
 some 0
 else
 some (-1)
 else
 if a4 = true then
 some 1
 else
 if (decide (a1 < a2)) = true then
 some (-1)
 else
 if (decide (a1 > a2)) = true then
 some 1
 else
 some 0
 | none => none)
 | none => none)
def strings_Compare (t : Tab) (n : Nat) : ByteArray → ByteArray → Option Int
 | a1, a2 =>
 t.bytealg_CompareString a1 a2
def cmp_Or_int_l1 (t : Tab) (n : Nat) : Nat → Int → (List Int) → Int → Int → Option (Int ⊕ (Int × (List Int) × Int × Int × Bool))
 | 0, _, _, _, _ => none
 | k + 1, a1, a2, a3, a4 =>
 if (decide (a4 < a3)) = true then
 if (decide (0 ≤ (a4 : Int))) = true then
 (match a2[(a4 : Int).toNat]? with
 | some a5 =>
 if (a5 != a1) = true then
 some (.inl a5)
 else
 cmp_Or_int_l1 t n k a1 a2 a3 (IntKind.wrap .i64 (a4 + 1))
 | none => none)
 else none
 else
 some (.inr (a1, a2, a3, a4, (decide (a4 < a3))))
def cmp_Or_int (t : Tab) (n : Nat) : (List Int) → Option Int
 | a1 =>
 (match cmp_Or_int_l1 t n n 0 a1 (a1.length : Int) 0 with
 | some (.inl a2) =>
 some a2
 | some (.inr (a3, a4, a5, a6, a7)) =>
 some a3
 | none => none)
def slices_CompareFunc_value_compare_1_l1 (t : Tab) (n : Nat) : Nat → (List GValue) → (List GValue) → Int → (List GValue) → Int → Int → Option (Int ⊕ ((List GValue) × (List GValue) × Int × (List GValue) × Int × Int × Bool))
 | 0, _, _, _, _, _, _ => none
 | k + 1, a1, a2, a3, a4, a5, a6 =>
 if (decide (a6 < a5)) = true then
 if (decide (0 ≤ (a6 : Int))) = true then
 (match a4[(a6 : Int).toNat]? with
 | some ⟨a7, a8, a9, a10, a11⟩ =>
 if (decide (a6 ≥ (a2.length : Int))) = true then
 some (.inl 1)
 else
 (match a2[(a6 : Int).toNat]? with
 | some ⟨a12, a13, a14, a15, a16⟩ =>
 (match t.value_compare_1 (GValue.mk a7 a8 a9 a10 a11) (GValue.mk a12 a13 a14 a15 a16) a3 with
 | some a17 =>
 if (a17 != 0) = true then
 some (.inl a17)
 else
 slices_CompareFunc_value_compare_1_l1 t n k a1 a2 a3 a4 a5 (IntKind.wrap .i64 (a6 + 1))
 | none => none)
 | none => none)
 | none => none)
 else none
 else
 some (.inr (a1, a2, a3, a4, a5, a6, (decide (a6 < a5))))
def slices_CompareFunc_value_compare_1_j2 (t : Tab) (n : Nat) (a1 a2 : List GValue) : Option Int :=
 if (decide ((a1.length : Int) < (a2.length : Int))) = true then
 some (-1)
 else
 some 0
def slices_CompareFunc_value_compare_1 (t : Tab) (n : Nat) : (List GValue) → (List GValue) → Int → Option Int
 | a1, a2, a3 =>
 (match slices_CompareFunc_value_compare_1_l1 t n n a1 a2 a3 a1 (a1.length : Int) 0 with
 | some (.inl a4) =>
 some a4
 | some (.inr (a5, a6, a7, a8, a9, a10, a11)) =>
 slices_CompareFunc_value_compare_1_j2 t n  a5 a6
 | none => none)
def plan_numbers_1 (t : Tab) (n : Nat) : Int → Option Bool
 | a1 =>
 some (decide (a1 < 0))
def pred_right_1 (t : Tab) (n : Nat) : GPred → Int → Option Bool
 | ⟨a1, a2, a3⟩, a4 =>
 (match t.pred_right (GPred.mk a1 a2 a3) (IntKind.wrap .i64 (a4 + 1)) with
 | some a5 =>
 some (!a5)
 | none => none)
def pred_right_2 (t : Tab) (n : Nat) : GValue → Option Bool
 | ⟨a1, a2, a3, a4, a5⟩ =>
 (match t.value_Check (GValue.mk a1 a2 a3 a4 a5) with
 | some a6 =>
 some (a6 != 0)
 | none => none)
def cmp_isNaN_int (t : Tab) (n : Nat) : Int → Option Bool
 | a1 =>
 some (a1 != a1)
def value_compare_1 (t : Tab) (n : Nat) : GValue → GValue → Int → Option Int
 | ⟨a1, a2, a3, a4, a5⟩, ⟨a6, a7, a8, a9, a10⟩, a11 =>
 t.value_compare (GValue.mk a1 a2 a3 a4 a5) (GValue.mk a6 a7 a8 a9 a10) (IntKind.wrap .i64 (a11 + 1))
def tab : Nat → Tab
 | 0 => ⟨fun _ _ => none,
 fun _ => none,
 none,
 fun _ => none,
 fun _ => none,
 fun _ => none,
 fun _ => none,
 fun _ => none,
 fun _ => none,
 fun _ => none,
 fun _ => none,
 fun _ => none,
 fun _ => none,
 fun _ _ _ => none,
 fun _ _ => none,
 fun _ _ => none,
 fun _ _ _ => none,
 fun _ _ _ => none,
 fun _ _ => none,
 fun _ _ => none,
 fun _ _ => none,
 fun _ => none,
 fun _ _ => none,
 fun _ => none,
 fun _ _ => none,
 fun _ _ => none,
 fun _ => none,
 fun _ _ => none,
 fun _ => none,
 fun _ => none,
 fun _ => none,
 fun _ => none,
 fun _ _ _ => none,
 fun _ _ => none,
 fun _ _ => none,
 fun _ => none,
 fun _ _ => none,
 fun _ => none,
 fun _ _ => none,
 fun _ _ => none,
 fun _ => none,
 fun _ => none,
 fun _ => none,
 fun _ _ => none,
 fun _ _ => none,
 fun _ _ => none,
 fun _ _ _ => none,
 fun _ => none,
 fun _ _ => none,
 fun _ => none,
 fun _ _ => none,
 fun _ => none,
 fun _ _ => none,
 fun _ _ => none,
 fun _ _ => none,
 fun _ _ _ => none,
 fun _ _ => none,
 fun _ => none,
 fun _ _ => none,
 fun _ _ => none,
 fun _ => none,
 fun _ => none,
 none,
 fun _ _ => none,
 fun _ => none,
 fun _ => none,
 fun _ => none,
 fun _ => none,
 fun _ => none,
 fun _ _ => none,
 fun _ => none,
 fun _ _ _ => none,
 fun _ _ => none,
 fun _ _ => none,
 fun _ => none,
 fun _ => none,
 fun _ _ => none,
 fun _ _ => none,
 fun _ _ => none,
 fun _ _ => none,
 fun _ => none,
 fun _ => none,
 fun _ _ => none,
 fun _ _ => none,
 fun _ => none,
 fun _ => none,
 fun _ => none,
 fun _ => none,
 fun _ _ => none,
 fun _ => none,
 fun _ _ => none,
 fun _ _ _ => none,
 fun _ => none,
 fun _ _ => none,
 fun _ _ => none,
 fun _ _ => none,
 fun _ _ => none,
 fun _ _ => none,
 fun _ => none,
 fun _ _ => none,
 fun _ _ => none,
 fun _ => none,
 fun _ _ _ => none,
 fun _ => none,
 fun _ _ => none,
 fun _ => none,
 fun _ => none,
 fun _ _ => none,
 fun _ _ _ => none⟩
 | n + 1 => ⟨law12_PlanChecks (tab n) n,
 law12_much (tab n) n,
 some true,
 plan_Check (tab n) n,
 ref12_Check (tab n) n,
 plan_Steps (tab n) n,
 ref12_Steps (tab n) n,
 plan_Nest (tab n) n,
 ref12_Nest (tab n) n,
 plan_Free (tab n) n,
 ref12_Free (tab n) n,
 plan_Name (tab n) n,
 ref12_Name (tab n) n,
 ref12_Much (tab n) n,
 plan_right (tab n) n,
 ref12_right (tab n) n,
 plan_steps (tab n) n,
 ref12_steps (tab n) n,
 plan_nest (tab n) n,
 ref12_nest (tab n) n,
 plan_Uses (tab n) n,
 plan_plan_Free_1 (tab n) n,
 ref12_Uses (tab n) n,
 ref12_Named (tab n) n,
 ref02_Count (tab n) n,
 ref09_Count (tab n) n,
 ref12_Inner (tab n) n,
 slices_ContainsFunc_plan_right_1 (tab n) n,
 ref12_own (tab n) n,
 ref12_named (tab n) n,
 ref02_Check (tab n) n,
 ref09_Check (tab n) n,
 ref12_by (tab n) n,
 ref09_Same (tab n) n,
 ref02_Same (tab n) n,
 plan_inner (tab n) n,
 plan_plan_Uses_1 (tab n) n,
 slices_ContainsFunc_plan_some_1 (tab n) n,
 ref02_Many (tab n) n,
 slices_IndexFunc_plan_right_1 (tab n) n,
 ref12_low (tab n) n,
 ref12_once (tab n) n,
 ref05_Name (tab n) n,
 ref02_right (tab n) n,
 ref09_right (tab n) n,
 ref02_SameRows (tab n) n,
 ref02_compare (tab n) n,
 fun a => if decide (a.length * 24 ≤ 140737488355328) = true then some a else none,
 slices_ContainsFunc_plan_some_1_i2 (tab n) n,
 slices_IndexFunc_plan_some_1 (tab n) n,
 plan_right_1 (tab n) n,
 ref02_fields (tab n) n,
 ref02_Cmp (tab n) n,
 ref02_sign (tab n) n,
 ref02_texts (tab n) n,
 ref02_rows (tab n) n,
 slices_IndexFunc_plan_some_1_i2 (tab n) n,
 plan_some_1_plan_Free_1 (tab n) n,
 plan_step (tab n) n,
 plan_some_1_plan_Uses_1 (tab n) n,
 plan_Free_1 (tab n) n,
 slices_ContainsFunc_plan_some_1_1 (tab n) n,
 plan_shapes (tab n) n,
 plan_in (tab n) n,
 slices_ContainsFunc_plan_step_1 (tab n) n,
 value_Check (tab n) n,
 pred_Check (tab n) n,
 plan_twice (tab n) n,
 plan_empty (tab n) n,
 value_Same (tab n) n,
 plan_numbers (tab n) n,
 plan_by (tab n) n,
 plan_Uses_1 (tab n) n,
 slices_ContainsFunc_plan_some_1_1_i2 (tab n) n,
 slices_IndexFunc_plan_some_1_1 (tab n) n,
 slices_IndexFunc_plan_step_1 (tab n) n,
 value_plain (tab n) n,
 pred_right (tab n) n,
 slices_Contains_string (tab n) n,
 value_Cmp (tab n) n,
 slices_ContainsFunc_plan_numbers_1 (tab n) n,
 graph_Name (tab n) n,
 slices_Contains_int (tab n) n,
 slices_IndexFunc_plan_some_1_1_i2 (tab n) n,
 plan_some_1_1_plan_Free_1 (tab n) n,
 plan_step_1 (tab n) n,
 slices_Concat_Value (tab n) n,
 pred_arity (tab n) n,
 slices_ContainsFunc_pred_right_1 (tab n) n,
 slices_ContainsFunc_pred_right_2 (tab n) n,
 slices_Index_string (tab n) n,
 value_compare (tab n) n,
 slices_IndexFunc_plan_numbers_1 (tab n) n,
 graph_sign (tab n) n,
 slices_Index_int (tab n) n,
 plan_some_1_1_plan_Uses_1 (tab n) n,
 fun a n => if a.isEmpty = true then if decide (0 ≤ n ∧ n * 80 ≤ 140737488355328) = true then some ([] : List GValue) else none else none,
 slices_IndexFunc_pred_right_1 (tab n) n,
 slices_IndexFunc_pred_right_2 (tab n) n,
 cmp_Compare_int (tab n) n,
 strings_Compare (tab n) n,
 cmp_Or_int (tab n) n,
 slices_CompareFunc_value_compare_1 (tab n) n,
 plan_numbers_1 (tab n) n,
 pred_right_1 (tab n) n,
 pred_right_2 (tab n) n,
 cmp_isNaN_int (tab n) n,
 fun a b => some (Lib.compareBytes a.data.toList b.data.toList),
 value_compare_1 (tab n) n⟩
end Go.Proofs.YtgkfjhfehdefaaaGreatDoor.W
