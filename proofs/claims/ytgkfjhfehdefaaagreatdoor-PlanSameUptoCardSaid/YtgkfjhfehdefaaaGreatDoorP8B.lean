/- The functions of this program, over plain data. -/
import Derived.Test.YtgkfjhfehdefaaaGreatDoorP8A
import Derived.Lib.Bytealg
namespace Go.Proofs.YtgkfjhfehdefaaaGreatDoor.W
open Go.Proofs.YtgkfjhfehdefaaaGreatDoor.Flat
set_option linter.unusedVariables false
set_option linter.unusedSimpArgs false
structure Tab where
  law12_PlanSame : (List GStep) → (List GStep) → Option Bool
  law12_much : (List GStep) → Option Bool
  law12_known : Option Bool
  plan_Same : (List GStep) → (List GStep) → Option Bool
  plan_Copy : (List GStep) → Option (List GStep)
  ref12_Check : (List GStep) → Option Int
  ref12_Same : (List GStep) → (List GStep) → Option Bool
  ref12_Much : (List GStep) → Int → Int → Option Int
  slices_EqualFunc_plan_Same_1 : (List GStep) → (List GStep) → Option Bool
  plan_copied : (List GStep) → Int → Option (List GStep)
  ref12_Steps : (List GStep) → Option Int
  ref12_right : (List GStep) → Int → Option Bool
  ref12_sameTexts : (List ByteArray) → (List ByteArray) → Option Bool
  ref12_sameNumbers : (List Int) → (List Int) → Option Bool
  ref02_Same : GValue → GValue → Option Bool
  ref09_Same : GPred → GPred → Option Bool
  ref02_Count : GValue → Int → Option Int
  ref09_Count : GPred → Int → Option Int
  ref12_Inner : GStep → Option (List (List GStep))
  plan_Same_1 : GStep → GStep → Option Bool
  slices_Clone_string : (List ByteArray) → Option (List ByteArray)
  slices_Clone_int : (List Int) → Option (List Int)
  value_Copy : GValue → Option GValue
  pred_Copy : GPred → Option GPred
  plan_plans : (List (List GStep)) → Int → Option (List (List GStep))
  ref12_steps : (List GStep) → Int → Int → Option Int
  ref12_own : GStep → Option Bool
  ref12_named : (List ByteArray) → Option Bool
  ref02_Check : GValue → Option Int
  ref09_Check : GPred → Option Int
  ref12_Name : Int → Option ByteArray
  ref12_by : GBy → Bool → Int → Option Bool
  ref02_compare : GValue → GValue → Int → Option Int
  ref02_SameRows : (List GValue) → (List GValue) → Option Bool
  ref02_Many : (List GValue) → Int → Option Int
  slices_Equal_string : (List ByteArray) → (List ByteArray) → Option Bool
  slices_Equal_int : (List Int) → (List Int) → Option Bool
  value_Same : GValue → GValue → Option Bool
  plan_samePred : GPred → GPred → Option Bool
  slices_EqualFunc_plan_Same : (List (List GStep)) → (List (List GStep)) → Option Bool
  slices_EqualFunc_plan_sameBy : (List GBy) → (List GBy) → Option Bool
  value_part : GValue → Int → Option GValue
  pred_part : GPred → Int → Option GPred
  ref12_low : (List Int) → Option Bool
  ref12_once : (List ByteArray) → Option Bool
  ref05_Name : ByteArray → Option Bool
  ref02_right : GValue → Int → Option Bool
  ref09_right : GPred → Int → Option Bool
  ref02_sign : Int → Int → Option Int
  ref02_texts : ByteArray → ByteArray → Option Int
  ref02_rows : (List GValue) → (List GValue) → Int → Option Int
  value_Cmp : GValue → GValue → Option Int
  slices_EqualFunc_value_Same : (List GValue) → (List GValue) → Option Bool
  slices_EqualFunc_plan_samePred : (List GPred) → (List GPred) → Option Bool
  plan_sameBy : GBy → GBy → Option Bool
  value_copied : (List GValue) → Int → Option (List GValue)
  ref02_fields : GValue → Option Bool
  ref02_Cmp : GValue → GValue → Option Int
  value_compare : GValue → GValue → Int → Option Int
  cmp_Compare_int : Int → Int → Option Int
  strings_Compare : ByteArray → ByteArray → Option Int
  cmp_Or_int : (List Int) → Option Int
  slices_CompareFunc_value_compare_1 : (List GValue) → (List GValue) → Int → Option Int
  cmp_isNaN_int : Int → Option Bool
  bytealg_CompareString : ByteArray → ByteArray → Option Int
  value_compare_1 : GValue → GValue → Int → Option Int
def law12_PlanSame_l4 (t : Tab) (n : Nat) : Nat → (List GStep) → (List GStep) → (List GStep) → Bool → Int → Int → Option ((List GStep) × (List GStep) × (List GStep) × Bool × Int × Int × Bool)
 | 0, _, _, _, _, _, _ => none
 | k + 1, a1, a2, a3, a4, a5, a6 =>
 if (decide (0 ≤ (a5 : Int))) = true then
 (match a2[(a5 : Int).toNat]? with
 | some ⟨a7, a8, a9, ⟨a10, a11, a12, a13, a14⟩, ⟨a15, a16, a17⟩, a18, a19, a20⟩ =>
 if (decide (a6 < (a8.length : Int))) = true then
 if (decide (0 ≤ (a6 : Int))) = true then
 (match a8[(a6 : Int).toNat]? with
 | some a21 =>
 law12_PlanSame_l4 t n k a1 (a2.set (a5 : Int).toNat (GStep.mk a7 (a8.set (a6 : Int).toNat (ByteArray.mk #[115, 112, 111, 105, 108, 116])) a9 (GValue.mk a10 a11 a12 a13 a14) (GPred.mk a15 a16 a17) a18 a19 a20)) a3 a4 a5 (IntKind.wrap .i64 (a6 + 1))
 | none => none)
 else none
 else
 some (a1, a2, a3, a4, a5, a6, (decide (a6 < (a8.length : Int))))
 | none => none)
 else none
def law12_PlanSame_l7 (t : Tab) (n : Nat) : Nat → (List GStep) → (List GStep) → (List GStep) → Bool → Int → Int → Int → Option ((List GStep) × (List GStep) × (List GStep) × Bool × Int × Int × Int × Bool)
 | 0, _, _, _, _, _, _, _ => none
 | k + 1, a1, a2, a3, a4, a5, a6, a7 =>
 if (decide (0 ≤ (a5 : Int))) = true then
 (match a2[(a5 : Int).toNat]? with
 | some ⟨a8, a9, a10, ⟨a11, a12, a13, a14, a15⟩, ⟨a16, a17, a18⟩, a19, a20, a21⟩ =>
 if (decide (0 ≤ (a6 : Int))) = true then
 (match a19[(a6 : Int).toNat]? with
 | some a22 =>
 if (decide (a7 < (a22.length : Int))) = true then
 if (decide (0 ≤ (a7 : Int))) = true then
 (match a22[(a7 : Int).toNat]? with
 | some ⟨a23, a24, a25, ⟨a26, a27, a28, a29, a30⟩, ⟨a31, a32, a33⟩, a34, a35, a36⟩ =>
 law12_PlanSame_l7 t n k a1 (a2.set (a5 : Int).toNat (GStep.mk a8 a9 a10 (GValue.mk a11 a12 a13 a14 a15) (GPred.mk a16 a17 a18) (a19.set (a6 : Int).toNat (a22.set (a7 : Int).toNat (GStep.mk (-7) a24 a25 (GValue.mk a26 a27 a28 a29 a30) (GPred.mk a31 a32 a33) a34 a35 a36))) a20 a21)) a3 a4 a5 a6 (IntKind.wrap .i64 (a7 + 1))
 | none => none)
 else none
 else
 some (a1, a2, a3, a4, a5, a6, a7, (decide (a7 < (a22.length : Int))))
 | none => none)
 else none
 | none => none)
 else none
def law12_PlanSame_l6 (t : Tab) (n : Nat) : Nat → (List GStep) → (List GStep) → (List GStep) → Bool → Int → Int → Option ((List GStep) × (List GStep) × (List GStep) × Bool × Int × Int × Bool)
 | 0, _, _, _, _, _, _ => none
 | k + 1, a1, a2, a3, a4, a5, a6 =>
 if (decide (0 ≤ (a5 : Int))) = true then
 (match a2[(a5 : Int).toNat]? with
 | some ⟨a7, a8, a9, ⟨a10, a11, a12, a13, a14⟩, ⟨a15, a16, a17⟩, a18, a19, a20⟩ =>
 if (decide (a6 < (a18.length : Int))) = true then
 (match law12_PlanSame_l7 t n n a1 a2 a3 a4 a5 a6 0 with
 | some (a21, a22, a23, a24, a25, a26, a27, a28) =>
 law12_PlanSame_l6 t n k a21 a22 a23 a24 a25 (IntKind.wrap .i64 (a26 + 1))
 | none => none)
 else
 some (a1, a2, a3, a4, a5, a6, (decide (a6 < (a18.length : Int))))
 | none => none)
 else none
def law12_PlanSame_j8 (t : Tab) (n : Nat) (a1 a2 a3 : List GStep) (a4 : Bool) (a5 : Int) : Option ((List GStep) × (List GStep) × (List GStep) × Bool × Int) :=
 if (decide (0 ≤ (a5 : Int))) = true then
 (match a2[(a5 : Int).toNat]? with
 | some ⟨a6, a7, a8, ⟨a9, a10, a11, a12, a13⟩, ⟨a14, a15, a16⟩, a17, a18, a19⟩ =>
 some (a1, (a2.set (a5 : Int).toNat (GStep.mk (-7) a7 a8 (GValue.mk a9 a10 a11 a12 a13) (GPred.mk a14 a15 a16) a17 a18 a19)), a3, a4, a5)
 | none => none)
 else none
def law12_PlanSame_j5 (t : Tab) (n : Nat) (a1 a2 a3 : List GStep) (a4 : Bool) (a5 : Int) : Option ((List GStep) × (List GStep) × (List GStep) × Bool × Int) :=
 (match law12_PlanSame_l6 t n n a1 a2 a3 a4 a5 0 with
 | some (a6, a7, a8, a9, a10, a11, a12) =>
 law12_PlanSame_j8 t n  a6 a7 a8 a9 a10
 | none => none)
def law12_PlanSame_l3 (t : Tab) (n : Nat) : Nat → (List GStep) → (List GStep) → (List GStep) → Bool → Int → Option ((List GStep) × (List GStep) × (List GStep) × Bool × Int × Bool)
 | 0, _, _, _, _, _ => none
 | k + 1, a1, a2, a3, a4, a5 =>
 if (decide (a5 < (a2.length : Int))) = true then
 (match law12_PlanSame_l4 t n n a1 a2 a3 a4 a5 0 with
 | some (a6, a7, a8, a9, a10, a11, a12) =>
 (match law12_PlanSame_j5 t n  a6 a7 a8 a9 a10 with
 | some (a13, a14, a15, a16, a17) =>
 law12_PlanSame_l3 t n k a13 a14 a15 a16 (IntKind.wrap .i64 (a17 + 1))
 | none => none)
 | none => none)
 else
 some (a1, a2, a3, a4, a5, (decide (a5 < (a2.length : Int))))
def law12_PlanSame_j9 (t : Tab) (n : Nat) (a1 a2 : List GStep) (a3 : Bool) : Option Bool :=
 if a3 = true then
 (match t.ref12_Same a1 a2 with
 | some a4 =>
 if a4 = true then
 t.law12_known 
 else
 some false
 | none => none)
 else
 t.law12_known 
def law12_PlanSame_j2 (t : Tab) (n : Nat) (a1 a2 a3 : List GStep) (a4 : Bool) : Option Bool :=
 (match law12_PlanSame_l3 t n n a1 a2 a3 a4 0 with
 | some (a5, a6, a7, a8, a9, a10) =>
 law12_PlanSame_j9 t n  a5 a7 a8
 | none => none)
def law12_PlanSame_j1 (t : Tab) (n : Nat) (a1 a2 : List GStep) : Option Bool :=
 (match t.plan_Same a1 a2 with
 | some a3 =>
 (match t.plan_Copy a1 with
 | some a4 =>
 (match t.ref12_Check a1 with
 | some a5 =>
 (match t.ref12_Same a1 a2 with
 | some a6 =>
 if (a3 == a6) = true then
 (match t.plan_Same a2 a1 with
 | some a7 =>
 if (a7 == a3) = true then
 (match t.plan_Same a1 a1 with
 | some a8 =>
 if a8 = true then
 if (a5 == 0) = true then
 (match t.plan_Same a1 a4 with
 | some a9 =>
 if a9 = true then
 (match t.ref12_Same a1 a4 with
 | some a10 =>
 if a10 = true then
 law12_PlanSame_j2 t n  a1 a4 a4 (a5 == 0)
 else
 some false
 | none => none)
 else
 some false
 | none => none)
 else
 law12_PlanSame_j2 t n  a1 a4 a4 (a5 == 0)
 else
 some false
 | none => none)
 else
 some false
 | none => none)
 else
 some false
 | none => none)
 | none => none)
 | none => none)
 | none => none)
def law12_PlanSame (t : Tab) (n : Nat) : (List GStep) → (List GStep) → Option Bool
 | a1, a2 =>
 (match t.law12_much a1 with
 | some a3 =>
 if a3 = true then
 t.law12_known 
 else
 (match t.law12_much a2 with
 | some a5 =>
 if a5 = true then
 t.law12_known 
 else
 law12_PlanSame_j1 t n  a1 a2
 | none => none)
 | none => none)
def law12_much (t : Tab) (n : Nat) : (List GStep) → Option Bool
 | a1 =>
 (match t.ref12_Much a1 1500 14 with
 | some a2 =>
 some (decide (a2 ≥ 1500))
 | none => none)
def plan_Same (t : Tab) (n : Nat) : (List GStep) → (List GStep) → Option Bool
 | a1, a2 =>
 t.slices_EqualFunc_plan_Same_1 a1 a2
def plan_Copy (t : Tab) (n : Nat) : (List GStep) → Option (List GStep)
 | a1 =>
 t.plan_copied a1 1
def ref12_Check (t : Tab) (n : Nat) : (List GStep) → Option Int
 | a1 =>
 (match t.ref12_Steps a1 with
 | some a2 =>
 if (decide (a2 > 400)) = true then
 some 2
 else
 (match t.ref12_right a1 1 with
 | some a3 =>
 if a3 = true then
 some 0
 else
 some 2
 | none => none)
 | none => none)
def ref12_Same_l3 (t : Tab) (n : Nat) : Nat → (List GStep) → (List GStep) → Int → Int → Int → (List ByteArray) → (List Int) → Int → Int → ByteArray → (List GValue) → (List GValue) → Int → (List GValue) → (List GPred) → (List (List GStep)) → (List GBy) → (List ByteArray) → Int → (List ByteArray) → (List Int) → Int → Int → ByteArray → (List GValue) → (List GValue) → Int → (List GValue) → (List GPred) → (List (List GStep)) → (List GBy) → (List ByteArray) → Option (Bool ⊕ ((List GStep) × (List GStep) × Int × Int × Bool × Int × (List ByteArray) × (List Int) × Int × Int × ByteArray × (List GValue) × (List GValue) × Int × (List GValue) × (List GPred) × (List (List GStep)) × (List GBy) × (List ByteArray) × Int × (List ByteArray) × (List Int) × Int × Int × ByteArray × (List GValue) × (List GValue) × Int × (List GValue) × (List GPred) × (List (List GStep)) × (List GBy) × (List ByteArray)))
 | 0, _, _, _, _, _, _, _, _, _, _, _, _, _, _, _, _, _, _, _, _, _, _, _, _, _, _, _, _, _, _, _, _ => none
 | k + 1, a1, a2, a3, a4, a5, a6, a7, a8, a9, a10, a11, a12, a13, a14, a15, a16, a17, a18, a19, a20, a21, a22, a23, a24, a25, a26, a27, a28, a29, a30, a31, a32 =>
 if (decide (a4 < (a16.length : Int))) = true then
 if (decide (0 ≤ (a4 : Int))) = true then
 (match a16[(a4 : Int).toNat]? with
 | some a33 =>
 (match a30[(a4 : Int).toNat]? with
 | some a34 =>
 (match t.ref12_Same a33 a34 with
 | some a35 =>
 if a35 = true then
 ref12_Same_l3 t n k a1 a2 a3 (IntKind.wrap .i64 (a4 + 1)) a5 a6 a7 a8 a9 a10 a11 a12 a13 a14 a15 a16 a17 a18 a19 a20 a21 a22 a23 a24 a25 a26 a27 a28 a29 a30 a31 a32
 else
 some (.inl false)
 | none => none)
 | none => none)
 | none => none)
 else none
 else
 some (.inr (a1, a2, a3, a4, (decide (a4 < (a16.length : Int))), a5, a6, a7, a8, a9, a10, a11, a12, a13, a14, a15, a16, a17, a18, a19, a20, a21, a22, a23, a24, a25, a26, a27, a28, a29, a30, a31, a32))
def ref12_Same_l5 (t : Tab) (n : Nat) : Nat → (List GStep) → (List GStep) → Int → Int → Int → (List ByteArray) → (List Int) → Int → Int → ByteArray → (List GValue) → (List GValue) → Int → (List GValue) → (List GPred) → (List (List GStep)) → (List GBy) → (List ByteArray) → Int → (List ByteArray) → (List Int) → Int → Int → ByteArray → (List GValue) → (List GValue) → Int → (List GValue) → (List GPred) → (List (List GStep)) → (List GBy) → (List ByteArray) → Option (Bool ⊕ ((List GStep) × (List GStep) × Int × Int × Bool × Int × (List ByteArray) × (List Int) × Int × Int × ByteArray × (List GValue) × (List GValue) × Int × (List GValue) × (List GPred) × (List (List GStep)) × (List GBy) × (List ByteArray) × Int × (List ByteArray) × (List Int) × Int × Int × ByteArray × (List GValue) × (List GValue) × Int × (List GValue) × (List GPred) × (List (List GStep)) × (List GBy) × (List ByteArray)))
 | 0, _, _, _, _, _, _, _, _, _, _, _, _, _, _, _, _, _, _, _, _, _, _, _, _, _, _, _, _, _, _, _, _ => none
 | k + 1, a1, a2, a3, a4, a5, a6, a7, a8, a9, a10, a11, a12, a13, a14, a15, a16, a17, a18, a19, a20, a21, a22, a23, a24, a25, a26, a27, a28, a29, a30, a31, a32 =>
 if (decide (a4 < (a17.length : Int))) = true then
 if (decide (0 ≤ (a4 : Int))) = true then
 (match a17[(a4 : Int).toNat]? with
 | some ⟨a33, a34, a35, a36⟩ =>
 (match a31[(a4 : Int).toNat]? with
 | some ⟨a37, a38, a39, a40⟩ =>
 if (a33 != a37) = true then
 some (.inl false)
 else
 if (a34.toList == a38.toList) = true then
 if (a36 == a40) = true then
 (match t.ref12_Same a35 a39 with
 | some a41 =>
 if a41 = true then
 ref12_Same_l5 t n k a1 a2 a3 (IntKind.wrap .i64 (a4 + 1)) a5 a6 a7 a8 a9 a10 a11 a12 a13 a14 a15 a16 a17 a18 a19 a20 a21 a22 a23 a24 a25 a26 a27 a28 a29 a30 a31 a32
 else
 some (.inl false)
 | none => none)
 else
 some (.inl false)
 else
 some (.inl false)
 | none => none)
 | none => none)
 else none
 else
 some (.inr (a1, a2, a3, a4, (decide (a4 < (a17.length : Int))), a5, a6, a7, a8, a9, a10, a11, a12, a13, a14, a15, a16, a17, a18, a19, a20, a21, a22, a23, a24, a25, a26, a27, a28, a29, a30, a31, a32))
def ref12_Same_j4 (t : Tab) (n : Nat) (a1 a2 : List GStep) (a3 a4 : Int) (a5 : List ByteArray) (a6 : List Int) (a7 a8 : Int) (a9 : ByteArray) (a10 a11 : List GValue) (a12 : Int) (a13 : List GValue) (a14 : List GPred) (a15 : List (List GStep)) (a16 : List GBy) (a17 : List ByteArray) (a18 : Int) (a19 : List ByteArray) (a20 : List Int) (a21 a22 : Int) (a23 : ByteArray) (a24 a25 : List GValue) (a26 : Int) (a27 : List GValue) (a28 : List GPred) (a29 : List (List GStep)) (a30 : List GBy) (a31 : List ByteArray) : Option (Bool ⊕ ((List GStep) × (List GStep) × Int)) :=
 (match ref12_Same_l5 t n n a1 a2 a3 0 a4 a5 a6 a7 a8 a9 a10 a11 a12 a13 a14 a15 a16 a17 a18 a19 a20 a21 a22 a23 a24 a25 a26 a27 a28 a29 a30 a31 with
 | some (.inl a32) =>
 some (.inl a32)
 | some (.inr (a33, a34, a35, a36, a37, a38, a39, a40, a41, a42, a43, a44, a45, a46, a47, a48, a49, a50, a51, a52, a53, a54, a55, a56, a57, a58, a59, a60, a61, a62, a63, a64, a65)) =>
 some (.inr (a33, a34, a35))
 | none => none)
def ref12_Same_j2 (t : Tab) (n : Nat) (a1 a2 : List GStep) (a3 a4 : Int) (a5 : List ByteArray) (a6 : List Int) (a7 a8 : Int) (a9 : ByteArray) (a10 a11 : List GValue) (a12 : Int) (a13 : List GValue) (a14 : List GPred) (a15 : List (List GStep)) (a16 : List GBy) (a17 : List ByteArray) (a18 : Int) (a19 : List ByteArray) (a20 : List Int) (a21 a22 : Int) (a23 : ByteArray) (a24 a25 : List GValue) (a26 : Int) (a27 : List GValue) (a28 : List GPred) (a29 : List (List GStep)) (a30 : List GBy) (a31 : List ByteArray) : Option (Bool ⊕ ((List GStep) × (List GStep) × Int)) :=
 (match ref12_Same_l3 t n n a1 a2 a3 0 a4 a5 a6 a7 a8 a9 a10 a11 a12 a13 a14 a15 a16 a17 a18 a19 a20 a21 a22 a23 a24 a25 a26 a27 a28 a29 a30 a31 with
 | some (.inl a32) =>
 some (.inl a32)
 | some (.inr (a33, a34, a35, a36, a37, a38, a39, a40, a41, a42, a43, a44, a45, a46, a47, a48, a49, a50, a51, a52, a53, a54, a55, a56, a57, a58, a59, a60, a61, a62, a63, a64, a65)) =>
 ref12_Same_j4 t n  a33 a34 a35 a38 a39 a40 a41 a42 a43 a44 a45 a46 a47 a48 a49 a50 a51 a52 a53 a54 a55 a56 a57 a58 a59 a60 a61 a62 a63 a64 a65
 | none => none)
def ref12_Same_l1 (t : Tab) (n : Nat) : Nat → (List GStep) → (List GStep) → Int → Option (Bool ⊕ ((List GStep) × (List GStep) × Int × Bool))
 | 0, _, _, _ => none
 | k + 1, a1, a2, a3 =>
 if (decide (a3 < (a1.length : Int))) = true then
 if (decide (0 ≤ (a3 : Int))) = true then
 (match a1[(a3 : Int).toNat]? with
 | some ⟨a4, a5, a6, ⟨a7, a8, a9, a10, a11⟩, ⟨a12, a13, a14⟩, a15, a16, a17⟩ =>
 (match a2[(a3 : Int).toNat]? with
 | some ⟨a18, a19, a20, ⟨a21, a22, a23, a24, a25⟩, ⟨a26, a27, a28⟩, a29, a30, a31⟩ =>
 if (a4 != a18) = true then
 some (.inl false)
 else
 (match t.ref12_sameTexts a5 a19 with
 | some a32 =>
 if a32 = true then
 (match t.ref12_sameNumbers a6 a20 with
 | some a33 =>
 if a33 = true then
 (match t.ref12_sameTexts a17 a31 with
 | some a34 =>
 if a34 = true then
 (match t.ref02_Same (GValue.mk a7 a8 a9 a10 a11) (GValue.mk a21 a22 a23 a24 a25) with
 | some a35 =>
 if a35 = true then
 (match t.ref09_Same (GPred.mk a12 a13 a14) (GPred.mk a26 a27 a28) with
 | some a36 =>
 if a36 = true then
 if ((a15.length : Int) != (a29.length : Int)) = true then
 some (.inl false)
 else
 if ((a16.length : Int) != (a30.length : Int)) = true then
 some (.inl false)
 else
 (match ref12_Same_j2 t n  a1 a2 a3 a4 a5 a6 a7 a8 a9 a10 a11 a12 a13 a14 a15 a16 a17 a18 a19 a20 a21 a22 a23 a24 a25 a26 a27 a28 a29 a30 a31 with
 | some (.inl a37) =>
 some (.inl a37)
 | some (.inr (a38, a39, a40)) =>
 ref12_Same_l1 t n k a38 a39 (IntKind.wrap .i64 (a40 + 1))
 | none => none)
 else
 some (.inl false)
 | none => none)
 else
 some (.inl false)
 | none => none)
 else
 some (.inl false)
 | none => none)
 else
 some (.inl false)
 | none => none)
 else
 some (.inl false)
 | none => none)
 | none => none)
 | none => none)
 else none
 else
 some (.inr (a1, a2, a3, (decide (a3 < (a1.length : Int)))))
def ref12_Same (t : Tab) (n : Nat) : (List GStep) → (List GStep) → Option Bool
 | a1, a2 =>
 if ((a1.length : Int) != (a2.length : Int)) = true then
 some false
 else
 (match ref12_Same_l1 t n n a1 a2 0 with
 | some (.inl a3) =>
 some a3
 | some (.inr (a4, a5, a6, a7)) =>
 some true
 | none => none)
def ref12_Much_j4 (t : Tab) (n : Nat) (a1 : List GStep) (a2 a3 a4 a5 : Int) (a6 : List (List GStep)) (a7 : Int) : Option (Int ⊕ ((List GStep) × Int × Int × Int × Int × (List (List GStep)) × Int)) :=
 if (decide (a3 ≤ 0)) = true then
 some (.inl a2)
 else
 if (decide (0 ≤ (a7 : Int))) = true then
 (match a6[(a7 : Int).toNat]? with
 | some a8 =>
 (match t.ref12_Much a8 (IntKind.wrap .i64 (a2 - a4)) (IntKind.wrap .i64 (a3 - 1)) with
 | some a9 =>
 some (.inr (a1, a2, a3, (IntKind.wrap .i64 (a4 + a9)), a5, a6, (IntKind.wrap .i64 (a7 + 1))))
 | none => none)
 | none => none)
 else none
def ref12_Much_l3 (t : Tab) (n : Nat) : Nat → (List GStep) → Int → Int → Int → Int → (List (List GStep)) → Int → Option (Int ⊕ ((List GStep) × Int × Int × Int × Int × (List (List GStep)) × Int × Bool))
 | 0, _, _, _, _, _, _, _ => none
 | k + 1, a1, a2, a3, a4, a5, a6, a7 =>
 if (decide (a7 < (a6.length : Int))) = true then
 if (decide (a4 < a2)) = true then
 (match ref12_Much_j4 t n  a1 a2 a3 a4 a5 a6 a7 with
 | some (.inl a8) =>
 some (.inl a8)
 | some (.inr (a9, a10, a11, a12, a13, a14, a15)) =>
 ref12_Much_l3 t n k a9 a10 a11 a12 a13 a14 a15
 | none => none)
 else
 some (.inr (a1, a2, a3, a4, a5, a6, a7, (decide (a4 < a2))))
 else
 some (.inr (a1, a2, a3, a4, a5, a6, a7, false))
def ref12_Much_j2 (t : Tab) (n : Nat) (a1 : List GStep) (a2 a3 a4 a5 : Int) : Option (Int ⊕ ((List GStep) × Int × Int × Int × Int)) :=
 if (decide (0 ≤ (a5 : Int))) = true then
 (match a1[(a5 : Int).toNat]? with
 | some ⟨a6, a7, a8, ⟨a9, a10, a11, a12, a13⟩, ⟨a14, a15, a16⟩, a17, a18, a19⟩ =>
 (match t.ref02_Count (GValue.mk a9 a10 a11 a12 a13) a2 with
 | some a20 =>
 (match t.ref09_Count (GPred.mk a14 a15 a16) a2 with
 | some a21 =>
 (match t.ref12_Inner (GStep.mk a6 a7 a8 (GValue.mk a9 a10 a11 a12 a13) (GPred.mk a14 a15 a16) a17 a18 a19) with
 | some a22 =>
 (match ref12_Much_l3 t n n a1 a2 a3 (IntKind.wrap .i64 ((IntKind.wrap .i64 ((IntKind.wrap .i64 ((IntKind.wrap .i64 ((IntKind.wrap .i64 ((IntKind.wrap .i64 (a4 + 1)) + (a7.length : Int))) + (a8.length : Int))) + (a19.length : Int))) + a20)) + a21)) a5 a22 0 with
 | some (.inl a23) =>
 some (.inl a23)
 | some (.inr (a24, a25, a26, a27, a28, a29, a30, a31)) =>
 some (.inr (a24, a25, a26, a27, (IntKind.wrap .i64 (a28 + 1))))
 | none => none)
 | none => none)
 | none => none)
 | none => none)
 | none => none)
 else none
def ref12_Much_l1 (t : Tab) (n : Nat) : Nat → (List GStep) → Int → Int → Int → Int → Option (Int ⊕ ((List GStep) × Int × Int × Int × Int × Bool))
 | 0, _, _, _, _, _ => none
 | k + 1, a1, a2, a3, a4, a5 =>
 if (decide (a5 < (a1.length : Int))) = true then
 if (decide (a4 < a2)) = true then
 (match ref12_Much_j2 t n  a1 a2 a3 a4 a5 with
 | some (.inl a6) =>
 some (.inl a6)
 | some (.inr (a7, a8, a9, a10, a11)) =>
 ref12_Much_l1 t n k a7 a8 a9 a10 a11
 | none => none)
 else
 some (.inr (a1, a2, a3, a4, a5, (decide (a4 < a2))))
 else
 some (.inr (a1, a2, a3, a4, a5, false))
def ref12_Much (t : Tab) (n : Nat) : (List GStep) → Int → Int → Option Int
 | a1, a2, a3 =>
 (match ref12_Much_l1 t n n a1 a2 a3 0 0 with
 | some (.inl a4) =>
 some a4
 | some (.inr (a5, a6, a7, a8, a9, a10)) =>
 some a8
 | none => none)
def slices_EqualFunc_plan_Same_1_l1 (t : Tab) (n : Nat) : Nat → (List GStep) → (List GStep) → Int → Int → Option (Bool ⊕ ((List GStep) × (List GStep) × Int × Int × Bool))
 | 0, _, _, _, _ => none
 | k + 1, a1, a2, a3, a4 =>
 if (decide (a4 < a3)) = true then
 if (decide (0 ≤ (a4 : Int))) = true then
 (match a2[(a4 : Int).toNat]? with
 | some ⟨a5, a6, a7, ⟨a8, a9, a10, a11, a12⟩, ⟨a13, a14, a15⟩, a16, a17, a18⟩ =>
 (match a1[(a4 : Int).toNat]? with
 | some ⟨a19, a20, a21, ⟨a22, a23, a24, a25, a26⟩, ⟨a27, a28, a29⟩, a30, a31, a32⟩ =>
 (match t.plan_Same_1 (GStep.mk a5 a6 a7 (GValue.mk a8 a9 a10 a11 a12) (GPred.mk a13 a14 a15) a16 a17 a18) (GStep.mk a19 a20 a21 (GValue.mk a22 a23 a24 a25 a26) (GPred.mk a27 a28 a29) a30 a31 a32) with
 | some a33 =>
 if a33 = true then
 slices_EqualFunc_plan_Same_1_l1 t n k a1 a2 a3 (IntKind.wrap .i64 (a4 + 1))
 else
 some (.inl false)
 | none => none)
 | none => none)
 | none => none)
 else none
 else
 some (.inr (a1, a2, a3, a4, (decide (a4 < a3))))
def slices_EqualFunc_plan_Same_1 (t : Tab) (n : Nat) : (List GStep) → (List GStep) → Option Bool
 | a1, a2 =>
 if ((a1.length : Int) != (a2.length : Int)) = true then
 some false
 else
 (match slices_EqualFunc_plan_Same_1_l1 t n n a2 a1 (a1.length : Int) 0 with
 | some (.inl a3) =>
 some a3
 | some (.inr (a4, a5, a6, a7, a8)) =>
 some true
 | none => none)
def plan_copied_l2 (t : Tab) (n : Nat) : Nat → Int → (List GStep) → (List GStep) → Int → Int → (List GBy) → Int → Int → Int → (List ByteArray) → (List Int) → Int → Int → ByteArray → (List GValue) → (List GValue) → Int → (List GValue) → (List GPred) → (List (List GStep)) → (List GBy) → (List ByteArray) → Option (Int × (List GStep) × (List GStep) × Int × Int × (List GBy) × Int × Int × Bool × Int × (List ByteArray) × (List Int) × Int × Int × ByteArray × (List GValue) × (List GValue) × Int × (List GValue) × (List GPred) × (List (List GStep)) × (List GBy) × (List ByteArray))
 | 0, _, _, _, _, _, _, _, _, _, _, _, _, _, _, _, _, _, _, _, _, _, _ => none
 | k + 1, a1, a2, a3, a4, a5, a6, a7, a8, a9, a10, a11, a12, a13, a14, a15, a16, a17, a18, a19, a20, a21, a22 =>
 if (decide (a8 < a7)) = true then
 if (decide (0 ≤ (a8 : Int))) = true then
 (match a6[(a8 : Int).toNat]? with
 | some ⟨a23, a24, a25, a26⟩ =>
 (match t.plan_copied a25 (IntKind.wrap .i64 (a1 + 1)) with
 | some a27 =>
 if (a21.length + ([(GBy.mk a23 a24 a27 a26)] : List GBy).length) * 56 ≤ 140737488355328 then
 plan_copied_l2 t n k a1 a2 a3 a4 a5 a6 a7 (IntKind.wrap .i64 (a8 + 1)) a9 a10 a11 a12 a13 a14 a15 a16 a17 a18 a19 a20 (a21 ++ ([(GBy.mk a23 a24 a27 a26)] : List GBy)) a22
 else none
 | none => none)
 | none => none)
 else none
 else
 some (a1, a2, a3, a4, a5, a6, a7, a8, (decide (a8 < a7)), a9, a10, a11, a12, a13, a14, a15, a16, a17, a18, a19, a20, a21, a22)
def plan_copied_j3 (t : Tab) (n : Nat) (a1 : Int) (a2 a3 : List GStep) (a4 a5 a6 : Int) (a7 : List ByteArray) (a8 : List Int) (a9 a10 : Int) (a11 : ByteArray) (a12 a13 : List GValue) (a14 : Int) (a15 : List GValue) (a16 : List GPred) (a17 : List (List GStep)) (a18 : List GBy) (a19 : List ByteArray) : Option (Int × (List GStep) × (List GStep) × Int × Int) :=
 if (a2.length + ([(GStep.mk a6 a7 a8 (GValue.mk a9 a10 a11 a12 a13) (GPred.mk a14 a15 a16) a17 a18 a19)] : List GStep).length) * 264 ≤ 140737488355328 then
 some (a1, (a2 ++ ([(GStep.mk a6 a7 a8 (GValue.mk a9 a10 a11 a12 a13) (GPred.mk a14 a15 a16) a17 a18 a19)] : List GStep)), a3, a4, a5)
 else none
def plan_copied_l1 (t : Tab) (n : Nat) : Nat → Int → (List GStep) → (List GStep) → Int → Int → Option (Int × (List GStep) × (List GStep) × Int × Int × Bool)
 | 0, _, _, _, _, _ => none
 | k + 1, a1, a2, a3, a4, a5 =>
 if (decide (a5 < a4)) = true then
 if (decide (0 ≤ (a5 : Int))) = true then
 (match a3[(a5 : Int).toNat]? with
 | some ⟨a6, a7, a8, ⟨a9, a10, a11, a12, a13⟩, ⟨a14, a15, a16⟩, a17, a18, a19⟩ =>
 (match t.slices_Clone_string a7 with
 | some a20 =>
 (match t.slices_Clone_int a8 with
 | some a21 =>
 (match t.value_Copy (GValue.mk a9 a10 a11 a12 a13) with
 | some ⟨a22, a23, a24, a25, a26⟩ =>
 (match t.pred_Copy (GPred.mk a14 a15 a16) with
 | some ⟨a27, a28, a29⟩ =>
 (match t.slices_Clone_string a19 with
 | some a30 =>
 (match t.plan_plans a17 (IntKind.wrap .i64 (a1 + 1)) with
 | some a31 =>
 (match plan_copied_l2 t n n a1 a2 a3 a4 a5 a18 (a18.length : Int) 0 a6 a20 a21 a22 a23 a24 a25 a26 a27 a28 a29 a31 ([] : List GBy) a30 with
 | some (a32, a33, a34, a35, a36, a37, a38, a39, a40, a41, a42, a43, a44, a45, a46, a47, a48, a49, a50, a51, a52, a53, a54) =>
 (match plan_copied_j3 t n  a32 a33 a34 a35 a36 a41 a42 a43 a44 a45 a46 a47 a48 a49 a50 a51 a52 a53 a54 with
 | some (a55, a56, a57, a58, a59) =>
 plan_copied_l1 t n k a55 a56 a57 a58 (IntKind.wrap .i64 (a59 + 1))
 | none => none)
 | none => none)
 | none => none)
 | none => none)
 | none => none)
 | none => none)
 | none => none)
 | none => none)
 | none => none)
 else none
 else
 some (a1, a2, a3, a4, a5, (decide (a5 < a4)))
def plan_copied (t : Tab) (n : Nat) : (List GStep) → Int → Option (List GStep)
 | a1, a2 =>
 if (decide (a2 > 12)) = true then
 some ([] : List GStep)
 else
 (match plan_copied_l1 t n n a2 ([] : List GStep) a1 (a1.length : Int) 0 with
 | some (a3, a4, a5, a6, a7, a8) =>
 some a4
 | none => none)
def ref12_Steps (t : Tab) (n : Nat) : (List GStep) → Option Int
 | a1 =>
 (match t.ref12_steps a1 401 11 with
 | some a2 =>
 some (if (401 : Int) < a2 then 401 else a2)
 | none => none)
def ref12_right_l5 (t : Tab) (n : Nat) : Nat → (List GStep) → Int → Int → Int → Int → (List ByteArray) → (List Int) → Int → Int → ByteArray → (List GValue) → (List GValue) → Int → (List GValue) → (List GPred) → (List (List GStep)) → (List GBy) → (List ByteArray) → Option (Bool ⊕ ((List GStep) × Int × Int × Int × Bool × Int × (List ByteArray) × (List Int) × Int × Int × ByteArray × (List GValue) × (List GValue) × Int × (List GValue) × (List GPred) × (List (List GStep)) × (List GBy) × (List ByteArray)))
 | 0, _, _, _, _, _, _, _, _, _, _, _, _, _, _, _, _, _, _ => none
 | k + 1, a1, a2, a3, a4, a5, a6, a7, a8, a9, a10, a11, a12, a13, a14, a15, a16, a17, a18 =>
 if (decide (a4 < (a16.length : Int))) = true then
 if (decide (0 ≤ (a4 : Int))) = true then
 (match a16[(a4 : Int).toNat]? with
 | some a19 =>
 (match t.ref12_right a19 (IntKind.wrap .i64 (a2 + 1)) with
 | some a20 =>
 if a20 = true then
 ref12_right_l5 t n k a1 a2 a3 (IntKind.wrap .i64 (a4 + 1)) a5 a6 a7 a8 a9 a10 a11 a12 a13 a14 a15 a16 a17 a18
 else
 some (.inl false)
 | none => none)
 | none => none)
 else none
 else
 some (.inr (a1, a2, a3, a4, (decide (a4 < (a16.length : Int))), a5, a6, a7, a8, a9, a10, a11, a12, a13, a14, a15, a16, a17, a18))
def ref12_right_l7 (t : Tab) (n : Nat) : Nat → (List GStep) → Int → Int → Int → Int → (List ByteArray) → (List Int) → Int → Int → ByteArray → (List GValue) → (List GValue) → Int → (List GValue) → (List GPred) → (List (List GStep)) → (List GBy) → (List ByteArray) → Option (Bool ⊕ ((List GStep) × Int × Int × Int × Bool × Int × (List ByteArray) × (List Int) × Int × Int × ByteArray × (List GValue) × (List GValue) × Int × (List GValue) × (List GPred) × (List (List GStep)) × (List GBy) × (List ByteArray)))
 | 0, _, _, _, _, _, _, _, _, _, _, _, _, _, _, _, _, _, _ => none
 | k + 1, a1, a2, a3, a4, a5, a6, a7, a8, a9, a10, a11, a12, a13, a14, a15, a16, a17, a18 =>
 if (decide (a4 < (a17.length : Int))) = true then
 if (decide (0 ≤ (a4 : Int))) = true then
 (match a17[(a4 : Int).toNat]? with
 | some ⟨a19, a20, a21, a22⟩ =>
 (match t.ref12_Name a5 with
 | some a23 =>
 (match t.ref12_by (GBy.mk a19 a20 a21 a22) (a23.toList == (ByteArray.mk #[79, 114, 100, 101, 114]).toList) a2 with
 | some a24 =>
 if a24 = true then
 ref12_right_l7 t n k a1 a2 a3 (IntKind.wrap .i64 (a4 + 1)) a5 a6 a7 a8 a9 a10 a11 a12 a13 a14 a15 a16 a17 a18
 else
 some (.inl false)
 | none => none)
 | none => none)
 | none => none)
 else none
 else
 some (.inr (a1, a2, a3, a4, (decide (a4 < (a17.length : Int))), a5, a6, a7, a8, a9, a10, a11, a12, a13, a14, a15, a16, a17, a18))
def ref12_right_j6 (t : Tab) (n : Nat) (a1 : List GStep) (a2 a3 a4 : Int) (a5 : List ByteArray) (a6 : List Int) (a7 a8 : Int) (a9 : ByteArray) (a10 a11 : List GValue) (a12 : Int) (a13 : List GValue) (a14 : List GPred) (a15 : List (List GStep)) (a16 : List GBy) (a17 : List ByteArray) : Option (Bool ⊕ ((List GStep) × Int × Int)) :=
 (match ref12_right_l7 t n n a1 a2 a3 0 a4 a5 a6 a7 a8 a9 a10 a11 a12 a13 a14 a15 a16 a17 with
 | some (.inl a18) =>
 some (.inl a18)
 | some (.inr (a19, a20, a21, a22, a23, a24, a25, a26, a27, a28, a29, a30, a31, a32, a33, a34, a35, a36, a37)) =>
 some (.inr (a19, a20, a21))
 | none => none)
def ref12_right_j4 (t : Tab) (n : Nat) (a1 : List GStep) (a2 a3 a4 : Int) (a5 : List ByteArray) (a6 : List Int) (a7 a8 : Int) (a9 : ByteArray) (a10 a11 : List GValue) (a12 : Int) (a13 : List GValue) (a14 : List GPred) (a15 : List (List GStep)) (a16 : List GBy) (a17 : List ByteArray) : Option (Bool ⊕ ((List GStep) × Int × Int)) :=
 (match ref12_right_l5 t n n a1 a2 a3 0 a4 a5 a6 a7 a8 a9 a10 a11 a12 a13 a14 a15 a16 a17 with
 | some (.inl a18) =>
 some (.inl a18)
 | some (.inr (a19, a20, a21, a22, a23, a24, a25, a26, a27, a28, a29, a30, a31, a32, a33, a34, a35, a36, a37)) =>
 ref12_right_j6 t n  a19 a20 a21 a24 a25 a26 a27 a28 a29 a30 a31 a32 a33 a34 a35 a36 a37
 | none => none)
def ref12_right_j3 (t : Tab) (n : Nat) (a1 : List GStep) (a2 a3 a4 a5 : Int) (a6 a7 : Bool) (a8 : Int) (a9 : List ByteArray) (a10 : List Int) (a11 a12 : Int) (a13 : ByteArray) (a14 a15 : List GValue) (a16 : Int) (a17 : List GValue) (a18 : List GPred) (a19 : List (List GStep)) (a20 : List GBy) (a21 : List ByteArray) : Option (Bool ⊕ ((List GStep) × Int × Int)) :=
 if a6 = true then
 if (a4 != 0) = true then
 some (.inl false)
 else
 if a7 = true then
 if (a5 != 0) = true then
 some (.inl false)
 else
 ref12_right_j4 t n  a1 a2 a3 a8 a9 a10 a11 a12 a13 a14 a15 a16 a17 a18 a19 a20 a21
 else
 (match t.ref09_Same (GPred.mk a16 a17 a18) (GPred.mk 0 ([] : List GValue) ([] : List GPred)) with
 | some a26 =>
 if a26 = true then
 ref12_right_j4 t n  a1 a2 a3 a8 a9 a10 a11 a12 a13 a14 a15 a16 a17 a18 a19 a20 a21
 else
 some (.inl false)
 | none => none)
 else
 (match t.ref02_Same (GValue.mk a11 a12 a13 a14 a15) (GValue.mk 0 0 ByteArray.empty ([] : List GValue) ([] : List GValue)) with
 | some a31 =>
 if a31 = true then
 if a7 = true then
 if (a5 != 0) = true then
 some (.inl false)
 else
 ref12_right_j4 t n  a1 a2 a3 a8 a9 a10 a11 a12 a13 a14 a15 a16 a17 a18 a19 a20 a21
 else
 (match t.ref09_Same (GPred.mk a16 a17 a18) (GPred.mk 0 ([] : List GValue) ([] : List GPred)) with
 | some a36 =>
 if a36 = true then
 ref12_right_j4 t n  a1 a2 a3 a8 a9 a10 a11 a12 a13 a14 a15 a16 a17 a18 a19 a20 a21
 else
 some (.inl false)
 | none => none)
 else
 some (.inl false)
 | none => none)
def ref12_right_j2 (t : Tab) (n : Nat) (a1 : List GStep) (a2 a3 a4 : Int) (a5 : List ByteArray) (a6 : List Int) (a7 a8 : Int) (a9 : ByteArray) (a10 a11 : List GValue) (a12 : Int) (a13 : List GValue) (a14 : List GPred) (a15 : List (List GStep)) (a16 : List GBy) (a17 : List ByteArray) : Option (Bool ⊕ ((List GStep) × Int × Int)) :=
 (match t.ref02_Check (GValue.mk a7 a8 a9 a10 a11) with
 | some a18 =>
 (match t.ref09_Check (GPred.mk a12 a13 a14) with
 | some a19 =>
 (match t.ref12_Name a4 with
 | some a20 =>
 if (a20.toList == (ByteArray.mk #[72, 97, 115]).toList) = true then
 ref12_right_j3 t n  a1 a2 a3 a18 a19 (a20.toList == (ByteArray.mk #[67, 111, 110, 115, 116, 97, 110, 116]).toList) true a4 a5 a6 a7 a8 a9 a10 a11 a12 a13 a14 a15 a16 a17
 else
 ref12_right_j3 t n  a1 a2 a3 a18 a19 (a20.toList == (ByteArray.mk #[67, 111, 110, 115, 116, 97, 110, 116]).toList) (a20.toList == (ByteArray.mk #[73, 115]).toList) a4 a5 a6 a7 a8 a9 a10 a11 a12 a13 a14 a15 a16 a17
 | none => none)
 | none => none)
 | none => none)
def ref12_right_l1 (t : Tab) (n : Nat) : Nat → (List GStep) → Int → Int → Option (Bool ⊕ ((List GStep) × Int × Int × Bool))
 | 0, _, _, _ => none
 | k + 1, a1, a2, a3 =>
 if (decide (a3 < (a1.length : Int))) = true then
 if (decide (0 ≤ (a3 : Int))) = true then
 (match a1[(a3 : Int).toNat]? with
 | some ⟨a4, a5, a6, ⟨a7, a8, a9, a10, a11⟩, ⟨a12, a13, a14⟩, a15, a16, a17⟩ =>
 (match t.ref12_own (GStep.mk a4 a5 a6 (GValue.mk a7 a8 a9 a10 a11) (GPred.mk a12 a13 a14) a15 a16 a17) with
 | some a18 =>
 if a18 = true then
 (match t.ref12_named a5 with
 | some a19 =>
 if a19 = true then
 (match t.ref12_named a17 with
 | some a20 =>
 if a20 = true then
 (match ref12_right_j2 t n  a1 a2 a3 a4 a5 a6 a7 a8 a9 a10 a11 a12 a13 a14 a15 a16 a17 with
 | some (.inl a21) =>
 some (.inl a21)
 | some (.inr (a22, a23, a24)) =>
 ref12_right_l1 t n k a22 a23 (IntKind.wrap .i64 (a24 + 1))
 | none => none)
 else
 some (.inl false)
 | none => none)
 else
 some (.inl false)
 | none => none)
 else
 some (.inl false)
 | none => none)
 | none => none)
 else none
 else
 some (.inr (a1, a2, a3, (decide (a3 < (a1.length : Int)))))
def ref12_right (t : Tab) (n : Nat) : (List GStep) → Int → Option Bool
 | a1, a2 =>
 if (decide (a2 > 11)) = true then
 some false
 else
 (match ref12_right_l1 t n n a1 a2 0 with
 | some (.inl a3) =>
 some a3
 | some (.inr (a4, a5, a6, a7)) =>
 some true
 | none => none)
def ref12_sameTexts_l1 (t : Tab) (n : Nat) : Nat → (List ByteArray) → (List ByteArray) → Int → Option (Bool ⊕ ((List ByteArray) × (List ByteArray) × Int × Bool))
 | 0, _, _, _ => none
 | k + 1, a1, a2, a3 =>
 if (decide (a3 < (a1.length : Int))) = true then
 if (decide (0 ≤ (a3 : Int))) = true then
 (match a1[(a3 : Int).toNat]? with
 | some a4 =>
 (match a2[(a3 : Int).toNat]? with
 | some a5 =>
 if (a4.toList == a5.toList) = true then
 ref12_sameTexts_l1 t n k a1 a2 (IntKind.wrap .i64 (a3 + 1))
 else
 some (.inl false)
 | none => none)
 | none => none)
 else none
 else
 some (.inr (a1, a2, a3, (decide (a3 < (a1.length : Int)))))
def ref12_sameTexts (t : Tab) (n : Nat) : (List ByteArray) → (List ByteArray) → Option Bool
 | a1, a2 =>
 if ((a1.length : Int) != (a2.length : Int)) = true then
 some false
 else
 (match ref12_sameTexts_l1 t n n a1 a2 0 with
 | some (.inl a3) =>
 some a3
 | some (.inr (a4, a5, a6, a7)) =>
 some true
 | none => none)
def ref12_sameNumbers_l1 (t : Tab) (n : Nat) : Nat → (List Int) → (List Int) → Int → Option (Bool ⊕ ((List Int) × (List Int) × Int × Bool))
 | 0, _, _, _ => none
 | k + 1, a1, a2, a3 =>
 if (decide (a3 < (a1.length : Int))) = true then
 if (decide (0 ≤ (a3 : Int))) = true then
 (match a1[(a3 : Int).toNat]? with
 | some a4 =>
 (match a2[(a3 : Int).toNat]? with
 | some a5 =>
 if (a4 != a5) = true then
 some (.inl false)
 else
 ref12_sameNumbers_l1 t n k a1 a2 (IntKind.wrap .i64 (a3 + 1))
 | none => none)
 | none => none)
 else none
 else
 some (.inr (a1, a2, a3, (decide (a3 < (a1.length : Int)))))
def ref12_sameNumbers (t : Tab) (n : Nat) : (List Int) → (List Int) → Option Bool
 | a1, a2 =>
 if ((a1.length : Int) != (a2.length : Int)) = true then
 some false
 else
 (match ref12_sameNumbers_l1 t n n a1 a2 0 with
 | some (.inl a3) =>
 some a3
 | some (.inr (a4, a5, a6, a7)) =>
 some true
 | none => none)
def ref02_Same (t : Tab) (n : Nat) : GValue → GValue → Option Bool
 | ⟨a1, a2, a3, a4, a5⟩, ⟨a6, a7, a8, a9, a10⟩ =>
 (match t.ref02_compare (GValue.mk a1 a2 a3 a4 a5) (GValue.mk a6 a7 a8 a9 a10) 1 with
 | some a11 =>
 some (a11 == 0)
 | none => none)
def ref09_Same_l2 (t : Tab) (n : Nat) : Nat → Int → Int → (List GValue) → (List GPred) → Int → (List GValue) → (List GPred) → Option (Bool ⊕ (Int × Bool × Int × (List GValue) × (List GPred) × Int × (List GValue) × (List GPred)))
 | 0, _, _, _, _, _, _, _ => none
 | k + 1, a1, a2, a3, a4, a5, a6, a7 =>
 if (decide (a1 < (a4.length : Int))) = true then
 if (decide (0 ≤ (a1 : Int))) = true then
 (match a4[(a1 : Int).toNat]? with
 | some ⟨a8, a9, a10⟩ =>
 (match a7[(a1 : Int).toNat]? with
 | some ⟨a11, a12, a13⟩ =>
 (match t.ref09_Same (GPred.mk a8 a9 a10) (GPred.mk a11 a12 a13) with
 | some a14 =>
 if a14 = true then
 ref09_Same_l2 t n k (IntKind.wrap .i64 (a1 + 1)) a2 a3 a4 a5 a6 a7
 else
 some (.inl false)
 | none => none)
 | none => none)
 | none => none)
 else none
 else
 some (.inr (a1, (decide (a1 < (a4.length : Int))), a2, a3, a4, a5, a6, a7))
def ref09_Same_j1 (t : Tab) (n : Nat) (a1 : Int) (a2 : List GValue) (a3 : List GPred) (a4 : Int) (a5 : List GValue) (a6 : List GPred) : Option Bool :=
 (match ref09_Same_l2 t n n 0 a1 a2 a3 a4 a5 a6 with
 | some (.inl a7) =>
 some a7
 | some (.inr (a8, a9, a10, a11, a12, a13, a14, a15)) =>
 some true
 | none => none)
def ref09_Same (t : Tab) (n : Nat) : GPred → GPred → Option Bool
 | ⟨a1, a2, a3⟩, ⟨a4, a5, a6⟩ =>
 if (a1 != a4) = true then
 some false
 else
 (match t.ref02_SameRows a2 a5 with
 | some a7 =>
 if a7 = true then
 if ((a3.length : Int) != (a6.length : Int)) = true then
 some false
 else
 ref09_Same_j1 t n  a1 a2 a3 a4 a5 a6
 else
 some false
 | none => none)
def ref02_Count_j2 (t : Tab) (n : Nat) (a1 a2 a3 a4 a5 : Int) (a6 : ByteArray) (a7 a8 : List GValue) : Option (Int × Int × Int × Int × Int × ByteArray × (List GValue) × (List GValue)) :=
 if (decide (0 ≤ (a3 : Int))) = true then
 (match a7[(a3 : Int).toNat]? with
 | some ⟨a9, a10, a11, a12, a13⟩ =>
 (match t.ref02_Count (GValue.mk a9 a10 a11 a12 a13) (IntKind.wrap .i64 (a1 - a2)) with
 | some a14 =>
 some (a1, (IntKind.wrap .i64 (a2 + a14)), (IntKind.wrap .i64 (a3 + 1)), a4, a5, a6, a7, a8)
 | none => none)
 | none => none)
 else none
def ref02_Count_l1 (t : Tab) (n : Nat) : Nat → Int → Int → Int → Int → Int → ByteArray → (List GValue) → (List GValue) → Option (Int × Int × Int × Bool × Int × Int × ByteArray × (List GValue) × (List GValue))
 | 0, _, _, _, _, _, _, _, _ => none
 | k + 1, a1, a2, a3, a4, a5, a6, a7, a8 =>
 if (decide (a3 < (a7.length : Int))) = true then
 if (decide (a2 < a1)) = true then
 (match ref02_Count_j2 t n  a1 a2 a3 a4 a5 a6 a7 a8 with
 | some (a9, a10, a11, a12, a13, a14, a15, a16) =>
 ref02_Count_l1 t n k a9 a10 a11 a12 a13 a14 a15 a16
 | none => none)
 else
 some (a1, a2, a3, (decide (a2 < a1)), a4, a5, a6, a7, a8)
 else
 some (a1, a2, a3, false, a4, a5, a6, a7, a8)
def ref02_Count_j5 (t : Tab) (n : Nat) (a1 a2 a3 a4 a5 : Int) (a6 : ByteArray) (a7 a8 : List GValue) : Option (Int × Int × Int × Int × Int × ByteArray × (List GValue) × (List GValue)) :=
 if (decide (0 ≤ (a3 : Int))) = true then
 (match a8[(a3 : Int).toNat]? with
 | some ⟨a9, a10, a11, a12, a13⟩ =>
 (match t.ref02_Count (GValue.mk a9 a10 a11 a12 a13) (IntKind.wrap .i64 (a1 - a2)) with
 | some a14 =>
 some (a1, (IntKind.wrap .i64 (a2 + a14)), (IntKind.wrap .i64 (a3 + 1)), a4, a5, a6, a7, a8)
 | none => none)
 | none => none)
 else none
def ref02_Count_l4 (t : Tab) (n : Nat) : Nat → Int → Int → Int → Int → Int → ByteArray → (List GValue) → (List GValue) → Option (Int × Int × Int × Bool × Int × Int × ByteArray × (List GValue) × (List GValue))
 | 0, _, _, _, _, _, _, _, _ => none
 | k + 1, a1, a2, a3, a4, a5, a6, a7, a8 =>
 if (decide (a3 < (a8.length : Int))) = true then
 if (decide (a2 < a1)) = true then
 (match ref02_Count_j5 t n  a1 a2 a3 a4 a5 a6 a7 a8 with
 | some (a9, a10, a11, a12, a13, a14, a15, a16) =>
 ref02_Count_l4 t n k a9 a10 a11 a12 a13 a14 a15 a16
 | none => none)
 else
 some (a1, a2, a3, (decide (a2 < a1)), a4, a5, a6, a7, a8)
 else
 some (a1, a2, a3, false, a4, a5, a6, a7, a8)
def ref02_Count_j6 (t : Tab) (n : Nat) (a1 a2 a3 : Int) (a4 : ByteArray) (a5 a6 : List GValue) : Option Int :=
 (match quoI .i64 (a4.size : Int) 20 with
 | some a7 =>
 some (IntKind.wrap .i64 (a1 + a7))
 | none => none)
def ref02_Count_j3 (t : Tab) (n : Nat) (a1 a2 a3 a4 : Int) (a5 : ByteArray) (a6 a7 : List GValue) : Option Int :=
 (match ref02_Count_l4 t n n a1 a2 0 a3 a4 a5 a6 a7 with
 | some (a8, a9, a10, a11, a12, a13, a14, a15, a16) =>
 ref02_Count_j6 t n  a9 a12 a13 a14 a15 a16
 | none => none)
def ref02_Count (t : Tab) (n : Nat) : GValue → Int → Option Int
 | ⟨a1, a2, a3, a4, a5⟩, a6 =>
 (match ref02_Count_l1 t n n a6 1 0 a1 a2 a3 a4 a5 with
 | some (a7, a8, a9, a10, a11, a12, a13, a14, a15) =>
 ref02_Count_j3 t n  a7 a8 a11 a12 a13 a14 a15
 | none => none)
def ref09_Count_j2 (t : Tab) (n : Nat) (a1 a2 a3 a4 : Int) (a5 : List GValue) (a6 : List GPred) : Option (Int × Int × Int × Int × (List GValue) × (List GPred)) :=
 if (decide (0 ≤ (a3 : Int))) = true then
 (match a6[(a3 : Int).toNat]? with
 | some ⟨a7, a8, a9⟩ =>
 (match t.ref09_Count (GPred.mk a7 a8 a9) (IntKind.wrap .i64 (a1 - a2)) with
 | some a10 =>
 some (a1, (IntKind.wrap .i64 (a2 + a10)), (IntKind.wrap .i64 (a3 + 1)), a4, a5, a6)
 | none => none)
 | none => none)
 else none
def ref09_Count_l1 (t : Tab) (n : Nat) : Nat → Int → Int → Int → Int → (List GValue) → (List GPred) → Option (Int × Int × Int × Bool × Int × (List GValue) × (List GPred))
 | 0, _, _, _, _, _, _ => none
 | k + 1, a1, a2, a3, a4, a5, a6 =>
 if (decide (a3 < (a6.length : Int))) = true then
 if (decide (a2 < a1)) = true then
 (match ref09_Count_j2 t n  a1 a2 a3 a4 a5 a6 with
 | some (a7, a8, a9, a10, a11, a12) =>
 ref09_Count_l1 t n k a7 a8 a9 a10 a11 a12
 | none => none)
 else
 some (a1, a2, a3, (decide (a2 < a1)), a4, a5, a6)
 else
 some (a1, a2, a3, false, a4, a5, a6)
def ref09_Count (t : Tab) (n : Nat) : GPred → Int → Option Int
 | ⟨a1, a2, a3⟩, a4 =>
 (match t.ref02_Many a2 a4 with
 | some a5 =>
 (match ref09_Count_l1 t n n a4 (IntKind.wrap .i64 (1 + a5)) 0 a1 a2 a3 with
 | some (a6, a7, a8, a9, a10, a11, a12) =>
 some a7
 | none => none)
 | none => none)
def ref12_Inner_j2 (t : Tab) (n : Nat) (a1 : List (List GStep)) (a2 : Int) (a3 : Bool) (a4 : Int) (a5 : List ByteArray) (a6 : List Int) (a7 a8 : Int) (a9 : ByteArray) (a10 a11 : List GValue) (a12 : Int) (a13 : List GValue) (a14 : List GPred) (a15 : List (List GStep)) (a16 : List GBy) (a17 : List ByteArray) : Option ((List (List GStep)) × Int × Int × (List ByteArray) × (List Int) × Int × Int × ByteArray × (List GValue) × (List GValue) × Int × (List GValue) × (List GPred) × (List (List GStep)) × (List GBy) × (List ByteArray)) :=
 if a3 = true then
 if (decide (0 ≤ (a2 : Int))) = true then
 (match a16[(a2 : Int).toNat]? with
 | some ⟨a18, a19, a20, a21⟩ =>
 if (a1.length + ([a20] : List (List GStep)).length) * 24 ≤ 140737488355328 then
 some ((a1 ++ ([a20] : List (List GStep))), a2, a4, a5, a6, a7, a8, a9, a10, a11, a12, a13, a14, a15, a16, a17)
 else none
 | none => none)
 else none
 else
 some (a1, a2, a4, a5, a6, a7, a8, a9, a10, a11, a12, a13, a14, a15, a16, a17)
def ref12_Inner_l1 (t : Tab) (n : Nat) : Nat → (List (List GStep)) → Int → Int → (List ByteArray) → (List Int) → Int → Int → ByteArray → (List GValue) → (List GValue) → Int → (List GValue) → (List GPred) → (List (List GStep)) → (List GBy) → (List ByteArray) → Option ((List (List GStep)) × Int × Bool × Int × (List ByteArray) × (List Int) × Int × Int × ByteArray × (List GValue) × (List GValue) × Int × (List GValue) × (List GPred) × (List (List GStep)) × (List GBy) × (List ByteArray))
 | 0, _, _, _, _, _, _, _, _, _, _, _, _, _, _, _, _ => none
 | k + 1, a1, a2, a3, a4, a5, a6, a7, a8, a9, a10, a11, a12, a13, a14, a15, a16 =>
 if (decide (a2 < (a15.length : Int))) = true then
 if (decide (0 ≤ (a2 : Int))) = true then
 (match a15[(a2 : Int).toNat]? with
 | some ⟨a17, a18, a19, a20⟩ =>
 if (a17 == 3) = true then
 (match ref12_Inner_j2 t n  a1 a2 true a3 a4 a5 a6 a7 a8 a9 a10 a11 a12 a13 a14 a15 a16 with
 | some (a21, a22, a23, a24, a25, a26, a27, a28, a29, a30, a31, a32, a33, a34, a35, a36) =>
 ref12_Inner_l1 t n k a21 (IntKind.wrap .i64 (a22 + 1)) a23 a24 a25 a26 a27 a28 a29 a30 a31 a32 a33 a34 a35 a36
 | none => none)
 else
 (match ref12_Inner_j2 t n  a1 a2 (decide ((a19.length : Int) > 0)) a3 a4 a5 a6 a7 a8 a9 a10 a11 a12 a13 a14 a15 a16 with
 | some (a37, a38, a39, a40, a41, a42, a43, a44, a45, a46, a47, a48, a49, a50, a51, a52) =>
 ref12_Inner_l1 t n k a37 (IntKind.wrap .i64 (a38 + 1)) a39 a40 a41 a42 a43 a44 a45 a46 a47 a48 a49 a50 a51 a52
 | none => none)
 | none => none)
 else none
 else
 some (a1, a2, (decide (a2 < (a15.length : Int))), a3, a4, a5, a6, a7, a8, a9, a10, a11, a12, a13, a14, a15, a16)
def ref12_Inner (t : Tab) (n : Nat) : GStep → Option (List (List GStep))
 | ⟨a1, a2, a3, ⟨a4, a5, a6, a7, a8⟩, ⟨a9, a10, a11⟩, a12, a13, a14⟩ =>
 if (([] : List (List GStep)).length + a12.length) * 24 ≤ 140737488355328 then
 (match ref12_Inner_l1 t n n (([] : List (List GStep)) ++ a12) 0 a1 a2 a3 a4 a5 a6 a7 a8 a9 a10 a11 a12 a13 a14 with
 | some (a15, a16, a17, a18, a19, a20, a21, a22, a23, a24, a25, a26, a27, a28, a29, a30, a31) =>
 some a15
 | none => none)
 else none
def plan_Same_1_j1 (t : Tab) (n : Nat) (a1 : Bool) (a2 : Int) (a3 : List ByteArray) (a4 : List Int) (a5 a6 : Int) (a7 : ByteArray) (a8 a9 : List GValue) (a10 : Int) (a11 : List GValue) (a12 : List GPred) (a13 : List (List GStep)) (a14 : List GBy) (a15 : List ByteArray) (a16 : Int) (a17 : List ByteArray) (a18 : List Int) (a19 a20 : Int) (a21 : ByteArray) (a22 a23 : List GValue) (a24 : Int) (a25 : List GValue) (a26 : List GPred) (a27 : List (List GStep)) (a28 : List GBy) (a29 : List ByteArray) : Option Bool :=
 if a1 = true then
 (match t.value_Same (GValue.mk a5 a6 a7 a8 a9) (GValue.mk a19 a20 a21 a22 a23) with
 | some a30 =>
 if a30 = true then
 (match t.plan_samePred (GPred.mk a10 a11 a12) (GPred.mk a24 a25 a26) with
 | some a31 =>
 if a31 = true then
 (match t.slices_EqualFunc_plan_Same a13 a27 with
 | some a32 =>
 if a32 = true then
 t.slices_EqualFunc_plan_sameBy a14 a28
 else
 some false
 | none => none)
 else
 some false
 | none => none)
 else
 some false
 | none => none)
 else
 some false
def plan_Same_1 (t : Tab) (n : Nat) : GStep → GStep → Option Bool
 | ⟨a1, a2, a3, ⟨a4, a5, a6, a7, a8⟩, ⟨a9, a10, a11⟩, a12, a13, a14⟩, ⟨a15, a16, a17, ⟨a18, a19, a20, a21, a22⟩, ⟨a23, a24, a25⟩, a26, a27, a28⟩ =>
 if (a1 == a15) = true then
 (match t.slices_Equal_string a2 a16 with
 | some a29 =>
 if a29 = true then
 (match t.slices_Equal_int a3 a17 with
 | some a30 =>
 if a30 = true then
 (match t.slices_Equal_string a14 a28 with
 | some a31 =>
 plan_Same_1_j1 t n  a31 a1 a2 a3 a4 a5 a6 a7 a8 a9 a10 a11 a12 a13 a14 a15 a16 a17 a18 a19 a20 a21 a22 a23 a24 a25 a26 a27 a28
 | none => none)
 else
 plan_Same_1_j1 t n  false a1 a2 a3 a4 a5 a6 a7 a8 a9 a10 a11 a12 a13 a14 a15 a16 a17 a18 a19 a20 a21 a22 a23 a24 a25 a26 a27 a28
 | none => none)
 else
 plan_Same_1_j1 t n  false a1 a2 a3 a4 a5 a6 a7 a8 a9 a10 a11 a12 a13 a14 a15 a16 a17 a18 a19 a20 a21 a22 a23 a24 a25 a26 a27 a28
 | none => none)
 else
 plan_Same_1_j1 t n  false a1 a2 a3 a4 a5 a6 a7 a8 a9 a10 a11 a12 a13 a14 a15 a16 a17 a18 a19 a20 a21 a22 a23 a24 a25 a26 a27 a28
def value_Copy (t : Tab) (n : Nat) : GValue → Option GValue
 | ⟨a1, a2, a3, a4, a5⟩ =>
 t.value_part (GValue.mk a1 a2 a3 a4 a5) 1
def pred_Copy (t : Tab) (n : Nat) : GPred → Option GPred
 | ⟨a1, a2, a3⟩ =>
 t.pred_part (GPred.mk a1 a2 a3) 1
def plan_plans_l1 (t : Tab) (n : Nat) : Nat → Int → (List (List GStep)) → (List (List GStep)) → Int → Int → Option (Int × (List (List GStep)) × (List (List GStep)) × Int × Int × Bool)
 | 0, _, _, _, _, _ => none
 | k + 1, a1, a2, a3, a4, a5 =>
 if (decide (a5 < a4)) = true then
 if (decide (0 ≤ (a5 : Int))) = true then
 (match a3[(a5 : Int).toNat]? with
 | some a6 =>
 (match t.plan_copied a6 a1 with
 | some a7 =>
 if (a2.length + ([a7] : List (List GStep)).length) * 24 ≤ 140737488355328 then
 plan_plans_l1 t n k a1 (a2 ++ ([a7] : List (List GStep))) a3 a4 (IntKind.wrap .i64 (a5 + 1))
 else none
 | none => none)
 | none => none)
 else none
 else
 some (a1, a2, a3, a4, a5, (decide (a5 < a4)))
def plan_plans (t : Tab) (n : Nat) : (List (List GStep)) → Int → Option (List (List GStep))
 | a1, a2 =>
 (match plan_plans_l1 t n n a2 ([] : List (List GStep)) a1 (a1.length : Int) 0 with
 | some (a3, a4, a5, a6, a7, a8) =>
 some a4
 | none => none)
def ref12_steps_j4 (t : Tab) (n : Nat) (a1 : List GStep) (a2 a3 a4 a5 : Int) (a6 : List (List GStep)) (a7 : Int) : Option ((List GStep) × Int × Int × Int × Int × (List (List GStep)) × Int) :=
 if (decide (0 ≤ (a7 : Int))) = true then
 (match a6[(a7 : Int).toNat]? with
 | some a8 =>
 (match t.ref12_steps a8 (IntKind.wrap .i64 (a2 - a4)) (IntKind.wrap .i64 (a3 - 1)) with
 | some a9 =>
 some (a1, a2, a3, (IntKind.wrap .i64 (a4 + a9)), a5, a6, (IntKind.wrap .i64 (a7 + 1)))
 | none => none)
 | none => none)
 else none
def ref12_steps_l3 (t : Tab) (n : Nat) : Nat → (List GStep) → Int → Int → Int → Int → (List (List GStep)) → Int → Option ((List GStep) × Int × Int × Int × Int × (List (List GStep)) × Int × Bool)
 | 0, _, _, _, _, _, _, _ => none
 | k + 1, a1, a2, a3, a4, a5, a6, a7 =>
 if (decide (a7 < (a6.length : Int))) = true then
 if (decide (a3 > 0)) = true then
 if (decide (a4 < a2)) = true then
 (match ref12_steps_j4 t n  a1 a2 a3 a4 a5 a6 a7 with
 | some (a8, a9, a10, a11, a12, a13, a14) =>
 ref12_steps_l3 t n k a8 a9 a10 a11 a12 a13 a14
 | none => none)
 else
 some (a1, a2, a3, a4, a5, a6, a7, (decide (a4 < a2)))
 else
 some (a1, a2, a3, a4, a5, a6, a7, false)
 else
 some (a1, a2, a3, a4, a5, a6, a7, false)
def ref12_steps_j2 (t : Tab) (n : Nat) (a1 : List GStep) (a2 a3 a4 a5 : Int) : Option ((List GStep) × Int × Int × Int × Int) :=
 if (decide (0 ≤ (a5 : Int))) = true then
 (match a1[(a5 : Int).toNat]? with
 | some ⟨a6, a7, a8, ⟨a9, a10, a11, a12, a13⟩, ⟨a14, a15, a16⟩, a17, a18, a19⟩ =>
 (match t.ref12_Inner (GStep.mk a6 a7 a8 (GValue.mk a9 a10 a11 a12 a13) (GPred.mk a14 a15 a16) a17 a18 a19) with
 | some a20 =>
 (match ref12_steps_l3 t n n a1 a2 a3 (IntKind.wrap .i64 (a4 + 1)) a5 a20 0 with
 | some (a21, a22, a23, a24, a25, a26, a27, a28) =>
 some (a21, a22, a23, a24, (IntKind.wrap .i64 (a25 + 1)))
 | none => none)
 | none => none)
 | none => none)
 else none
def ref12_steps_l1 (t : Tab) (n : Nat) : Nat → (List GStep) → Int → Int → Int → Int → Option ((List GStep) × Int × Int × Int × Int × Bool)
 | 0, _, _, _, _, _ => none
 | k + 1, a1, a2, a3, a4, a5 =>
 if (decide (a5 < (a1.length : Int))) = true then
 if (decide (a4 < a2)) = true then
 (match ref12_steps_j2 t n  a1 a2 a3 a4 a5 with
 | some (a6, a7, a8, a9, a10) =>
 ref12_steps_l1 t n k a6 a7 a8 a9 a10
 | none => none)
 else
 some (a1, a2, a3, a4, a5, (decide (a4 < a2)))
 else
 some (a1, a2, a3, a4, a5, false)
def ref12_steps (t : Tab) (n : Nat) : (List GStep) → Int → Int → Option Int
 | a1, a2, a3 =>
 (match ref12_steps_l1 t n n a1 a2 a3 0 0 with
 | some (a4, a5, a6, a7, a8, a9) =>
 some a7
 | none => none)
def ref12_own_j6 (t : Tab) (n : Nat) (a1 a2 a3 a4 : Int) (a5 : Bool) (a6 : ByteArray) (a7 : Bool) (a8 : Int) (a9 : List ByteArray) (a10 : List Int) (a11 a12 : Int) (a13 : ByteArray) (a14 a15 : List GValue) (a16 : Int) (a17 : List GValue) (a18 : List GPred) (a19 : List (List GStep)) (a20 : List GBy) (a21 : List ByteArray) : Option (Bool ⊕ Bool) :=
 if a7 = true then
 if (decide (a3 > 0)) = true then
 if (decide (a3 ≤ 50)) = true then
 some (.inl ((IntKind.wrap .i64 ((IntKind.wrap .i64 (a1 + a2)) + a4)) == 0))
 else
 some (.inl false)
 else
 some (.inl false)
 else
 if (a6.toList == (ByteArray.mk #[67, 104, 111, 111, 115, 101]).toList) = true then
 if (a3 == 3) = true then
 some (.inl ((IntKind.wrap .i64 ((IntKind.wrap .i64 (a1 + a2)) + a4)) == 0))
 else
 some (.inl false)
 else
 if (a6.toList == (ByteArray.mk #[82, 101, 112, 101, 97, 116]).toList) = true then
 if ((IntKind.wrap .i64 (a1 + a4)) == 0) = true then
 if (a2 == 2) = true then
 if (decide (0 ≤ (0 : Int))) = true then
 (match a10[(0 : Int).toNat]? with
 | some a22 =>
 if (decide (a22 ≥ (-1))) = true then
 if (decide (0 ≤ (1 : Int))) = true then
 (match a10[(1 : Int).toNat]? with
 | some a23 =>
 if (a23 == 0) = true then
 if (a3 == 2) = true then
 some (.inl true)
 else
 if (a3 == 1) = true then
 some (.inl (decide (a22 ≥ 0)))
 else
 some (.inl false)
 else
 if (a23 == 1) = true then
 if (a3 == 2) = true then
 some (.inl true)
 else
 if (a3 == 1) = true then
 some (.inl (decide (a22 ≥ 0)))
 else
 some (.inl false)
 else
 some (.inl false)
 | none => none)
 else none
 else
 some (.inl false)
 | none => none)
 else none
 else
 some (.inl false)
 else
 some (.inl false)
 else
 if (a6.toList == (ByteArray.mk #[79, 114, 100, 101, 114]).toList) = true then
 if ((IntKind.wrap .i64 ((IntKind.wrap .i64 (a1 + a2)) + a3)) == 0) = true then
 some (.inl (decide (a4 ≤ 50)))
 else
 some (.inl false)
 else
 if (a6.toList == (ByteArray.mk #[71, 114, 111, 117, 112]).toList) = true then
 if ((IntKind.wrap .i64 ((IntKind.wrap .i64 (a1 + a2)) + a3)) == 0) = true then
 some (.inl (decide (a4 ≤ 2)))
 else
 some (.inl false)
 else
 if (a6.toList == (ByteArray.mk #[71, 114, 111, 117, 112, 67, 111, 117, 110, 116]).toList) = true then
 if ((IntKind.wrap .i64 ((IntKind.wrap .i64 (a1 + a2)) + a3)) == 0) = true then
 some (.inl (decide (a4 ≤ 1)))
 else
 some (.inl false)
 else
 if (a6.toList == (ByteArray.mk #[80, 114, 111, 106, 101, 99, 116]).toList) = true then
 if (decide (a1 > 0)) = true then
 if ((IntKind.wrap .i64 (a2 + a3)) == 0) = true then
 if (decide (a4 ≤ a1)) = true then
 (match t.ref12_once a9 with
 | some a24 =>
 some (.inl a24)
 | none => none)
 else
 some (.inl false)
 else
 some (.inl false)
 else
 some (.inl false)
 else
 some (.inr a5)
def ref12_own_j5 (t : Tab) (n : Nat) (a1 a2 a3 a4 : Int) (a5 : Bool) (a6 : ByteArray) (a7 : Bool) (a8 : Int) (a9 : List ByteArray) (a10 : List Int) (a11 a12 : Int) (a13 : ByteArray) (a14 a15 : List GValue) (a16 : Int) (a17 : List GValue) (a18 : List GPred) (a19 : List (List GStep)) (a20 : List GBy) (a21 : List ByteArray) : Option (Bool ⊕ Bool) :=
 if a7 = true then
 if (a3 == 1) = true then
 some (.inl ((IntKind.wrap .i64 ((IntKind.wrap .i64 (a1 + a2)) + a4)) == 0))
 else
 some (.inl false)
 else
 if (a6.toList == (ByteArray.mk #[65, 108, 108, 79, 102]).toList) = true then
 ref12_own_j6 t n  a1 a2 a3 a4 a5 a6 (a6.toList == (ByteArray.mk #[65, 108, 108, 79, 102]).toList) a8 a9 a10 a11 a12 a13 a14 a15 a16 a17 a18 a19 a20 a21
 else
 if (a6.toList == (ByteArray.mk #[65, 110, 121, 79, 102]).toList) = true then
 ref12_own_j6 t n  a1 a2 a3 a4 a5 a6 (a6.toList == (ByteArray.mk #[65, 110, 121, 79, 102]).toList) a8 a9 a10 a11 a12 a13 a14 a15 a16 a17 a18 a19 a20 a21
 else
 if (a6.toList == (ByteArray.mk #[85, 110, 105, 111, 110]).toList) = true then
 ref12_own_j6 t n  a1 a2 a3 a4 a5 a6 (a6.toList == (ByteArray.mk #[85, 110, 105, 111, 110]).toList) a8 a9 a10 a11 a12 a13 a14 a15 a16 a17 a18 a19 a20 a21
 else
 ref12_own_j6 t n  a1 a2 a3 a4 a5 a6 (a6.toList == (ByteArray.mk #[67, 111, 97, 108, 101, 115, 99, 101]).toList) a8 a9 a10 a11 a12 a13 a14 a15 a16 a17 a18 a19 a20 a21
def ref12_own_j4 (t : Tab) (n : Nat) (a1 a2 a3 a4 : Int) (a5 : Bool) (a6 : ByteArray) (a7 : Bool) (a8 : Int) (a9 : List ByteArray) (a10 : List Int) (a11 a12 : Int) (a13 : ByteArray) (a14 a15 : List GValue) (a16 : Int) (a17 : List GValue) (a18 : List GPred) (a19 : List (List GStep)) (a20 : List GBy) (a21 : List ByteArray) : Option (Bool ⊕ Bool) :=
 if a7 = true then
 if (a1 == 1) = true then
 some (.inl ((IntKind.wrap .i64 ((IntKind.wrap .i64 (a2 + a3)) + a4)) == 0))
 else
 some (.inl false)
 else
 if (a6.toList == (ByteArray.mk #[72, 97, 115, 73, 68]).toList) = true then
 if (decide (a2 > 0)) = true then
 if (decide (a2 ≤ 50)) = true then
 some (.inl ((IntKind.wrap .i64 ((IntKind.wrap .i64 (a1 + a3)) + a4)) == 0))
 else
 some (.inl false)
 else
 some (.inl false)
 else
 if (a6.toList == (ByteArray.mk #[82, 97, 110, 103, 101]).toList) = true then
 if (a2 == 2) = true then
 if ((IntKind.wrap .i64 ((IntKind.wrap .i64 (a1 + a3)) + a4)) == 0) = true then
 if (decide (0 ≤ (0 : Int))) = true then
 (match a10[(0 : Int).toNat]? with
 | some a22 =>
 if (decide (a22 ≥ 0)) = true then
 if (decide (0 ≤ (1 : Int))) = true then
 (match a10[(1 : Int).toNat]? with
 | some a23 =>
 if (a23 == (-1)) = true then
 some (.inl true)
 else
 some (.inl (decide (a22 ≤ a23)))
 | none => none)
 else none
 else
 some (.inl false)
 | none => none)
 else none
 else
 some (.inl false)
 else
 some (.inl false)
 else
 if (a6.toList == (ByteArray.mk #[84, 97, 105, 108]).toList) = true then
 if (a2 == 1) = true then
 if ((IntKind.wrap .i64 ((IntKind.wrap .i64 (a1 + a3)) + a4)) == 0) = true then
 (match t.ref12_low a10 with
 | some a24 =>
 some (.inl a24)
 | none => none)
 else
 some (.inl false)
 else
 some (.inl false)
 else
 if (a6.toList == (ByteArray.mk #[87, 104, 101, 114, 101]).toList) = true then
 ref12_own_j5 t n  a1 a2 a3 a4 a5 a6 (a6.toList == (ByteArray.mk #[87, 104, 101, 114, 101]).toList) a8 a9 a10 a11 a12 a13 a14 a15 a16 a17 a18 a19 a20 a21
 else
 if (a6.toList == (ByteArray.mk #[78, 111, 116, 84, 104, 97, 116]).toList) = true then
 ref12_own_j5 t n  a1 a2 a3 a4 a5 a6 (a6.toList == (ByteArray.mk #[78, 111, 116, 84, 104, 97, 116]).toList) a8 a9 a10 a11 a12 a13 a14 a15 a16 a17 a18 a19 a20 a21
 else
 ref12_own_j5 t n  a1 a2 a3 a4 a5 a6 (a6.toList == (ByteArray.mk #[79, 112, 116, 105, 111, 110, 97, 108]).toList) a8 a9 a10 a11 a12 a13 a14 a15 a16 a17 a18 a19 a20 a21
def ref12_own_j3 (t : Tab) (n : Nat) (a1 a2 a3 a4 : Int) (a5 : Bool) (a6 : ByteArray) (a7 : Bool) (a8 : Int) (a9 : List ByteArray) (a10 : List Int) (a11 a12 : Int) (a13 : ByteArray) (a14 a15 : List GValue) (a16 : Int) (a17 : List GValue) (a18 : List GPred) (a19 : List (List GStep)) (a20 : List GBy) (a21 : List ByteArray) : Option (Bool ⊕ Bool) :=
 if a7 = true then
 if (decide (a1 > 0)) = true then
 some (.inl ((IntKind.wrap .i64 ((IntKind.wrap .i64 (a2 + a3)) + a4)) == 0))
 else
 some (.inl false)
 else
 if (a6.toList == (ByteArray.mk #[72, 97, 115]).toList) = true then
 ref12_own_j4 t n  a1 a2 a3 a4 a5 a6 (a6.toList == (ByteArray.mk #[72, 97, 115]).toList) a8 a9 a10 a11 a12 a13 a14 a15 a16 a17 a18 a19 a20 a21
 else
 if (a6.toList == (ByteArray.mk #[72, 97, 115, 75, 101, 121]).toList) = true then
 ref12_own_j4 t n  a1 a2 a3 a4 a5 a6 (a6.toList == (ByteArray.mk #[72, 97, 115, 75, 101, 121]).toList) a8 a9 a10 a11 a12 a13 a14 a15 a16 a17 a18 a19 a20 a21
 else
 if (a6.toList == (ByteArray.mk #[72, 97, 115, 78, 111, 116]).toList) = true then
 ref12_own_j4 t n  a1 a2 a3 a4 a5 a6 (a6.toList == (ByteArray.mk #[72, 97, 115, 78, 111, 116]).toList) a8 a9 a10 a11 a12 a13 a14 a15 a16 a17 a18 a19 a20 a21
 else
 if (a6.toList == (ByteArray.mk #[65, 103, 103, 114, 101, 103, 97, 116, 101]).toList) = true then
 ref12_own_j4 t n  a1 a2 a3 a4 a5 a6 (a6.toList == (ByteArray.mk #[65, 103, 103, 114, 101, 103, 97, 116, 101]).toList) a8 a9 a10 a11 a12 a13 a14 a15 a16 a17 a18 a19 a20 a21
 else
 ref12_own_j4 t n  a1 a2 a3 a4 a5 a6 (a6.toList == (ByteArray.mk #[67, 97, 112]).toList) a8 a9 a10 a11 a12 a13 a14 a15 a16 a17 a18 a19 a20 a21
def ref12_own_j2 (t : Tab) (n : Nat) (a1 a2 a3 a4 : Int) (a5 : Bool) (a6 : ByteArray) (a7 : Bool) (a8 : Int) (a9 : List ByteArray) (a10 : List Int) (a11 a12 : Int) (a13 : ByteArray) (a14 a15 : List GValue) (a16 : Int) (a17 : List GValue) (a18 : List GPred) (a19 : List (List GStep)) (a20 : List GBy) (a21 : List ByteArray) : Option (Bool ⊕ Bool) :=
 if a7 = true then
 some (.inl ((IntKind.wrap .i64 ((IntKind.wrap .i64 (a2 + a3)) + a4)) == 0))
 else
 if (a6.toList == (ByteArray.mk #[72, 97, 115, 76, 97, 98, 101, 108]).toList) = true then
 ref12_own_j3 t n  a1 a2 a3 a4 a5 a6 (a6.toList == (ByteArray.mk #[72, 97, 115, 76, 97, 98, 101, 108]).toList) a8 a9 a10 a11 a12 a13 a14 a15 a16 a17 a18 a19 a20 a21
 else
 ref12_own_j3 t n  a1 a2 a3 a4 a5 a6 (a6.toList == (ByteArray.mk #[83, 101, 108, 101, 99, 116]).toList) a8 a9 a10 a11 a12 a13 a14 a15 a16 a17 a18 a19 a20 a21
def ref12_own_j1 (t : Tab) (n : Nat) (a1 a2 a3 a4 : Int) (a5 : Bool) (a6 : ByteArray) (a7 : Bool) (a8 : Int) (a9 : List ByteArray) (a10 : List Int) (a11 a12 : Int) (a13 : ByteArray) (a14 a15 : List GValue) (a16 : Int) (a17 : List GValue) (a18 : List GPred) (a19 : List (List GStep)) (a20 : List GBy) (a21 : List ByteArray) : Option (Bool ⊕ Bool) :=
 if a7 = true then
 if ((IntKind.wrap .i64 ((IntKind.wrap .i64 (a1 + a3)) + a4)) == 0) = true then
 if (decide (a2 ≤ 50)) = true then
 (match t.ref12_low a10 with
 | some a22 =>
 some (.inl a22)
 | none => none)
 else
 some (.inl false)
 else
 some (.inl false)
 else
 if (a6.toList == (ByteArray.mk #[79, 117, 116]).toList) = true then
 ref12_own_j2 t n  a1 a2 a3 a4 a5 a6 (a6.toList == (ByteArray.mk #[79, 117, 116]).toList) a8 a9 a10 a11 a12 a13 a14 a15 a16 a17 a18 a19 a20 a21
 else
 if (a6.toList == (ByteArray.mk #[73, 110]).toList) = true then
 ref12_own_j2 t n  a1 a2 a3 a4 a5 a6 (a6.toList == (ByteArray.mk #[73, 110]).toList) a8 a9 a10 a11 a12 a13 a14 a15 a16 a17 a18 a19 a20 a21
 else
 if (a6.toList == (ByteArray.mk #[66, 111, 116, 104]).toList) = true then
 ref12_own_j2 t n  a1 a2 a3 a4 a5 a6 (a6.toList == (ByteArray.mk #[66, 111, 116, 104]).toList) a8 a9 a10 a11 a12 a13 a14 a15 a16 a17 a18 a19 a20 a21
 else
 if (a6.toList == (ByteArray.mk #[79, 117, 116, 69]).toList) = true then
 ref12_own_j2 t n  a1 a2 a3 a4 a5 a6 (a6.toList == (ByteArray.mk #[79, 117, 116, 69]).toList) a8 a9 a10 a11 a12 a13 a14 a15 a16 a17 a18 a19 a20 a21
 else
 if (a6.toList == (ByteArray.mk #[73, 110, 69]).toList) = true then
 ref12_own_j2 t n  a1 a2 a3 a4 a5 a6 (a6.toList == (ByteArray.mk #[73, 110, 69]).toList) a8 a9 a10 a11 a12 a13 a14 a15 a16 a17 a18 a19 a20 a21
 else
 if (a6.toList == (ByteArray.mk #[66, 111, 116, 104, 69]).toList) = true then
 ref12_own_j2 t n  a1 a2 a3 a4 a5 a6 (a6.toList == (ByteArray.mk #[66, 111, 116, 104, 69]).toList) a8 a9 a10 a11 a12 a13 a14 a15 a16 a17 a18 a19 a20 a21
 else
 ref12_own_j2 t n  a1 a2 a3 a4 a5 a6 (a6.toList == (ByteArray.mk #[86, 97, 108, 117, 101, 115]).toList) a8 a9 a10 a11 a12 a13 a14 a15 a16 a17 a18 a19 a20 a21
def ref12_own (t : Tab) (n : Nat) : GStep → Option Bool
 | ⟨a1, a2, a3, ⟨a4, a5, a6, a7, a8⟩, ⟨a9, a10, a11⟩, a12, a13, a14⟩ =>
 (match t.ref12_Name a1 with
 | some a15 =>
 if (a15.toList == (ByteArray.mk #[]).toList) = true then
 some false
 else
 if (a15.toList == (ByteArray.mk #[86]).toList) = true then
 (match ref12_own_j1 t n  (a2.length : Int) (a3.length : Int) (a12.length : Int) (a13.length : Int) ((IntKind.wrap .i64 ((IntKind.wrap .i64 ((IntKind.wrap .i64 ((a2.length : Int) + (a3.length : Int))) + (a12.length : Int))) + (a13.length : Int))) == 0) a15 (a15.toList == (ByteArray.mk #[86]).toList) a1 a2 a3 a4 a5 a6 a7 a8 a9 a10 a11 a12 a13 a14 with
 | some (.inl a16) =>
 some a16
 | some (.inr a17) =>
 some a17
 | none => none)
 else
 (match ref12_own_j1 t n  (a2.length : Int) (a3.length : Int) (a12.length : Int) (a13.length : Int) ((IntKind.wrap .i64 ((IntKind.wrap .i64 ((IntKind.wrap .i64 ((a2.length : Int) + (a3.length : Int))) + (a12.length : Int))) + (a13.length : Int))) == 0) a15 (a15.toList == (ByteArray.mk #[69]).toList) a1 a2 a3 a4 a5 a6 a7 a8 a9 a10 a11 a12 a13 a14 with
 | some (.inl a18) =>
 some a18
 | some (.inr a19) =>
 some a19
 | none => none)
 | none => none)
def ref12_named_l1 (t : Tab) (n : Nat) : Nat → (List ByteArray) → Int → Option (Bool ⊕ ((List ByteArray) × Int × Bool))
 | 0, _, _ => none
 | k + 1, a1, a2 =>
 if (decide (a2 < (a1.length : Int))) = true then
 if (decide (0 ≤ (a2 : Int))) = true then
 (match a1[(a2 : Int).toNat]? with
 | some a3 =>
 (match t.ref05_Name a3 with
 | some a4 =>
 if a4 = true then
 ref12_named_l1 t n k a1 (IntKind.wrap .i64 (a2 + 1))
 else
 some (.inl false)
 | none => none)
 | none => none)
 else none
 else
 some (.inr (a1, a2, (decide (a2 < (a1.length : Int)))))
def ref12_named (t : Tab) (n : Nat) : (List ByteArray) → Option Bool
 | a1 =>
 (match ref12_named_l1 t n n a1 0 with
 | some (.inl a2) =>
 some a2
 | some (.inr (a3, a4, a5)) =>
 some (decide ((a3.length : Int) ≤ 50))
 | none => none)
def ref02_Check (t : Tab) (n : Nat) : GValue → Option Int
 | ⟨a1, a2, a3, a4, a5⟩ =>
 (match t.ref02_right (GValue.mk a1 a2 a3 a4 a5) 1 with
 | some a6 =>
 if a6 = true then
 some 0
 else
 some 2
 | none => none)
def ref09_Check (t : Tab) (n : Nat) : GPred → Option Int
 | ⟨a1, a2, a3⟩ =>
 (match t.ref09_right (GPred.mk a1 a2 a3) 1 with
 | some a4 =>
 if a4 = true then
 some 0
 else
 some 2
 | none => none)
def ref12_Name_j2 (t : Tab) (n : Nat) (a1 : Int) (a2 : List ByteArray) : Option ByteArray :=
 if (decide (0 ≤ ((IntKind.wrap .i64 (a1 - 1)) : Int))) = true then
 (match a2[((IntKind.wrap .i64 (a1 - 1)) : Int).toNat]? with
 | some a3 =>
 some a3
 | none => none)
 else none
def ref12_Name_j1 (t : Tab) (n : Nat) (a1 : Int) (a2 : List ByteArray) : Option ByteArray :=
 if (decide (a1 < 1)) = true then
 some (ByteArray.mk #[])
 else
 if (decide (a1 > (a2.length : Int))) = true then
 some (ByteArray.mk #[])
 else
 ref12_Name_j2 t n  a1 a2
def ref12_Name (t : Tab) (n : Nat) : Int → Option ByteArray
 | a1 =>
 ref12_Name_j1 t n  a1 ([(ByteArray.mk #[86]), (ByteArray.mk #[69]), (ByteArray.mk #[79, 117, 116]), (ByteArray.mk #[73, 110]), (ByteArray.mk #[66, 111, 116, 104]), (ByteArray.mk #[79, 117, 116, 69]), (ByteArray.mk #[73, 110, 69]), (ByteArray.mk #[66, 111, 116, 104, 69]), (ByteArray.mk #[79, 117, 116, 86]), (ByteArray.mk #[73, 110, 86]), (ByteArray.mk #[66, 111, 116, 104, 86]), (ByteArray.mk #[73, 68]), (ByteArray.mk #[76, 97, 98, 101, 108]), (ByteArray.mk #[86, 97, 108, 117, 101, 115]), (ByteArray.mk #[67, 111, 110, 115, 116, 97, 110, 116]), (ByteArray.mk #[73, 100, 101, 110, 116, 105, 116, 121]), (ByteArray.mk #[72, 97, 115, 76, 97, 98, 101, 108]), (ByteArray.mk #[72, 97, 115]), (ByteArray.mk #[72, 97, 115, 75, 101, 121]), (ByteArray.mk #[72, 97, 115, 78, 111, 116]), (ByteArray.mk #[72, 97, 115, 73, 68]), (ByteArray.mk #[73, 115]), (ByteArray.mk #[68, 101, 100, 117, 112]), (ByteArray.mk #[82, 97, 110, 103, 101]), (ByteArray.mk #[84, 97, 105, 108]), (ByteArray.mk #[83, 105, 109, 112, 108, 101]), (ByteArray.mk #[67, 121, 99, 108, 105, 99]), (ByteArray.mk #[87, 104, 101, 114, 101]), (ByteArray.mk #[78, 111, 116, 84, 104, 97, 116]), (ByteArray.mk #[65, 108, 108, 79, 102]), (ByteArray.mk #[65, 110, 121, 79, 102]), (ByteArray.mk #[67, 111, 117, 110, 116]), (ByteArray.mk #[83, 117, 109]), (ByteArray.mk #[77, 105, 110]), (ByteArray.mk #[77, 97, 120]), (ByteArray.mk #[70, 111, 108, 100]), (ByteArray.mk #[85, 110, 102, 111, 108, 100]), (ByteArray.mk #[84, 114, 97, 105, 108]), (ByteArray.mk #[83, 101, 108, 101, 99, 116]), (ByteArray.mk #[79, 114, 100, 101, 114]), (ByteArray.mk #[71, 114, 111, 117, 112]), (ByteArray.mk #[71, 114, 111, 117, 112, 67, 111, 117, 110, 116]), (ByteArray.mk #[80, 114, 111, 106, 101, 99, 116]), (ByteArray.mk #[85, 110, 105, 111, 110]), (ByteArray.mk #[67, 111, 97, 108, 101, 115, 99, 101]), (ByteArray.mk #[67, 104, 111, 111, 115, 101]), (ByteArray.mk #[79, 112, 116, 105, 111, 110, 97, 108]), (ByteArray.mk #[82, 101, 112, 101, 97, 116]), (ByteArray.mk #[65, 103, 103, 114, 101, 103, 97, 116, 101]), (ByteArray.mk #[67, 97, 112]), (ByteArray.mk #[66, 97, 114, 114, 105, 101, 114])] : List ByteArray)
def ref12_by_j1 (t : Tab) (n : Nat) (a1 a2 : Int) (a3 : ByteArray) (a4 : List GStep) (a5 : Bool) : Option Bool :=
 if (a2 == 1) = true then
 if (a3.toList == (ByteArray.mk #[]).toList) = true then
 some ((a4.length : Int) == 0)
 else
 some false
 else
 if (a2 == 2) = true then
 (match t.ref05_Name a3 with
 | some a6 =>
 if a6 = true then
 some ((a4.length : Int) == 0)
 else
 some false
 | none => none)
 else
 if (a2 == 3) = true then
 if (a3.toList == (ByteArray.mk #[]).toList) = true then
 t.ref12_right a4 (IntKind.wrap .i64 (a1 + 1))
 else
 some false
 else
 some false
def ref12_by (t : Tab) (n : Nat) : GBy → Bool → Int → Option Bool
 | ⟨a1, a2, a3, a4⟩, a5, a6 =>
 if a4 = true then
 if a5 = true then
 ref12_by_j1 t n  a6 a1 a2 a3 a4
 else
 some false
 else
 ref12_by_j1 t n  a6 a1 a2 a3 a4
def ref02_compare_j3 (t : Tab) (n : Nat) (a1 a2 : Int) (a3 : Bool) (a4 a5 : Int) (a6 : ByteArray) (a7 a8 : List GValue) (a9 a10 : Int) (a11 : ByteArray) (a12 a13 : List GValue) : Option (Int × Int × Int × Int × ByteArray × (List GValue) × (List GValue) × Int × Int × ByteArray × (List GValue) × (List GValue)) :=
 if a3 = true then
 (match t.ref02_rows a7 a12 (IntKind.wrap .i64 (a1 + 1)) with
 | some a14 =>
 some (a1, a14, a4, a5, a6, a7, a8, a9, a10, a11, a12, a13)
 | none => none)
 else
 some (a1, a2, a4, a5, a6, a7, a8, a9, a10, a11, a12, a13)
def ref02_compare_j5 (t : Tab) (n : Nat) (a1 a2 : Int) (a3 : Bool) (a4 a5 : Int) (a6 : ByteArray) (a7 a8 : List GValue) (a9 a10 : Int) (a11 : ByteArray) (a12 a13 : List GValue) : Option Int :=
 if a3 = true then
 t.ref02_rows a8 a13 (IntKind.wrap .i64 (a1 + 1))
 else
 some a2
def ref02_compare_j4 (t : Tab) (n : Nat) (a1 a2 a3 a4 : Int) (a5 : ByteArray) (a6 a7 : List GValue) (a8 a9 : Int) (a10 : ByteArray) (a11 a12 : List GValue) : Option Int :=
 if (a2 == 0) = true then
 ref02_compare_j5 t n  a1 a2 (decide (a1 ≤ 12)) a3 a4 a5 a6 a7 a8 a9 a10 a11 a12
 else
 ref02_compare_j5 t n  a1 a2 false a3 a4 a5 a6 a7 a8 a9 a10 a11 a12
def ref02_compare_j2 (t : Tab) (n : Nat) (a1 a2 a3 a4 : Int) (a5 : ByteArray) (a6 a7 : List GValue) (a8 a9 : Int) (a10 : ByteArray) (a11 a12 : List GValue) : Option Int :=
 if (a2 == 0) = true then
 (match ref02_compare_j3 t n  a1 a2 (decide (a1 ≤ 12)) a3 a4 a5 a6 a7 a8 a9 a10 a11 a12 with
 | some (a13, a14, a15, a16, a17, a18, a19, a20, a21, a22, a23, a24) =>
 ref02_compare_j4 t n  a13 a14 a15 a16 a17 a18 a19 a20 a21 a22 a23 a24
 | none => none)
 else
 (match ref02_compare_j3 t n  a1 a2 false a3 a4 a5 a6 a7 a8 a9 a10 a11 a12 with
 | some (a26, a27, a28, a29, a30, a31, a32, a33, a34, a35, a36, a37) =>
 ref02_compare_j4 t n  a26 a27 a28 a29 a30 a31 a32 a33 a34 a35 a36 a37
 | none => none)
def ref02_compare_j1 (t : Tab) (n : Nat) (a1 a2 a3 a4 : Int) (a5 : ByteArray) (a6 a7 : List GValue) (a8 a9 : Int) (a10 : ByteArray) (a11 a12 : List GValue) : Option Int :=
 if (a2 == 0) = true then
 (match t.ref02_texts a5 a10 with
 | some a13 =>
 ref02_compare_j2 t n  a1 a13 a3 a4 a5 a6 a7 a8 a9 a10 a11 a12
 | none => none)
 else
 ref02_compare_j2 t n  a1 a2 a3 a4 a5 a6 a7 a8 a9 a10 a11 a12
def ref02_compare (t : Tab) (n : Nat) : GValue → GValue → Int → Option Int
 | ⟨a1, a2, a3, a4, a5⟩, ⟨a6, a7, a8, a9, a10⟩, a11 =>
 (match t.ref02_sign a1 a6 with
 | some a12 =>
 if (a12 == 0) = true then
 (match t.ref02_sign a2 a7 with
 | some a13 =>
 ref02_compare_j1 t n  a11 a13 a1 a2 a3 a4 a5 a6 a7 a8 a9 a10
 | none => none)
 else
 ref02_compare_j1 t n  a11 a12 a1 a2 a3 a4 a5 a6 a7 a8 a9 a10
 | none => none)
def ref02_SameRows_l1 (t : Tab) (n : Nat) : Nat → (List GValue) → (List GValue) → Int → Option (Bool ⊕ ((List GValue) × (List GValue) × Int × Bool))
 | 0, _, _, _ => none
 | k + 1, a1, a2, a3 =>
 if (decide (a3 < (a1.length : Int))) = true then
 if (decide (0 ≤ (a3 : Int))) = true then
 (match a1[(a3 : Int).toNat]? with
 | some ⟨a4, a5, a6, a7, a8⟩ =>
 (match a2[(a3 : Int).toNat]? with
 | some ⟨a9, a10, a11, a12, a13⟩ =>
 (match t.ref02_Same (GValue.mk a4 a5 a6 a7 a8) (GValue.mk a9 a10 a11 a12 a13) with
 | some a14 =>
 if a14 = true then
 ref02_SameRows_l1 t n k a1 a2 (IntKind.wrap .i64 (a3 + 1))
 else
 some (.inl false)
 | none => none)
 | none => none)
 | none => none)
 else none
 else
 some (.inr (a1, a2, a3, (decide (a3 < (a1.length : Int)))))
def ref02_SameRows (t : Tab) (n : Nat) : (List GValue) → (List GValue) → Option Bool
 | a1, a2 =>
 if ((a1.length : Int) != (a2.length : Int)) = true then
 some false
 else
 (match ref02_SameRows_l1 t n n a1 a2 0 with
 | some (.inl a3) =>
 some a3
 | some (.inr (a4, a5, a6, a7)) =>
 some true
 | none => none)
def ref02_Many_j2 (t : Tab) (n : Nat) (a1 : List GValue) (a2 a3 a4 : Int) : Option ((List GValue) × Int × Int × Int) :=
 if (decide (0 ≤ (a4 : Int))) = true then
 (match a1[(a4 : Int).toNat]? with
 | some ⟨a5, a6, a7, a8, a9⟩ =>
 (match t.ref02_Count (GValue.mk a5 a6 a7 a8 a9) (IntKind.wrap .i64 (a2 - a3)) with
 | some a10 =>
 some (a1, a2, (IntKind.wrap .i64 (a3 + a10)), (IntKind.wrap .i64 (a4 + 1)))
 | none => none)
 | none => none)
 else none
def ref02_Many_l1 (t : Tab) (n : Nat) : Nat → (List GValue) → Int → Int → Int → Option ((List GValue) × Int × Int × Int × Bool)
 | 0, _, _, _, _ => none
 | k + 1, a1, a2, a3, a4 =>
 if (decide (a4 < (a1.length : Int))) = true then
 if (decide (a3 < a2)) = true then
 (match ref02_Many_j2 t n  a1 a2 a3 a4 with
 | some (a5, a6, a7, a8) =>
 ref02_Many_l1 t n k a5 a6 a7 a8
 | none => none)
 else
 some (a1, a2, a3, a4, (decide (a3 < a2)))
 else
 some (a1, a2, a3, a4, false)
def ref02_Many (t : Tab) (n : Nat) : (List GValue) → Int → Option Int
 | a1, a2 =>
 (match ref02_Many_l1 t n n a1 a2 0 0 with
 | some (a3, a4, a5, a6, a7) =>
 some a5
 | none => none)
def slices_Equal_string_l1 (t : Tab) (n : Nat) : Nat → (List ByteArray) → (List ByteArray) → Int → Int → Option (Bool ⊕ ((List ByteArray) × (List ByteArray) × Int × Int × Bool))
 | 0, _, _, _, _ => none
 | k + 1, a1, a2, a3, a4 =>
 if (decide (a4 < a3)) = true then
 if (decide (0 ≤ (a4 : Int))) = true then
 (match a1[(a4 : Int).toNat]? with
 | some a5 =>
 (match a2[(a4 : Int).toNat]? with
 | some a6 =>
 if (a5.toList == a6.toList) = true then
 slices_Equal_string_l1 t n k a1 a2 a3 (IntKind.wrap .i64 (a4 + 1))
 else
 some (.inl false)
 | none => none)
 | none => none)
 else none
 else
 some (.inr (a1, a2, a3, a4, (decide (a4 < a3))))
def slices_Equal_string (t : Tab) (n : Nat) : (List ByteArray) → (List ByteArray) → Option Bool
 | a1, a2 =>
 if ((a1.length : Int) != (a2.length : Int)) = true then
 some false
 else
 (match slices_Equal_string_l1 t n n a1 a2 (a1.length : Int) 0 with
 | some (.inl a3) =>
 some a3
 | some (.inr (a4, a5, a6, a7, a8)) =>
 some true
 | none => none)
def slices_Equal_int_l1 (t : Tab) (n : Nat) : Nat → (List Int) → (List Int) → Int → Int → Option (Bool ⊕ ((List Int) × (List Int) × Int × Int × Bool))
 | 0, _, _, _, _ => none
 | k + 1, a1, a2, a3, a4 =>
 if (decide (a4 < a3)) = true then
 if (decide (0 ≤ (a4 : Int))) = true then
 (match a1[(a4 : Int).toNat]? with
 | some a5 =>
 (match a2[(a4 : Int).toNat]? with
 | some a6 =>
 if (a5 != a6) = true then
 some (.inl false)
 else
 slices_Equal_int_l1 t n k a1 a2 a3 (IntKind.wrap .i64 (a4 + 1))
 | none => none)
 | none => none)
 else none
 else
 some (.inr (a1, a2, a3, a4, (decide (a4 < a3))))
def slices_Equal_int (t : Tab) (n : Nat) : (List Int) → (List Int) → Option Bool
 | a1, a2 =>
 if ((a1.length : Int) != (a2.length : Int)) = true then
 some false
 else
 (match slices_Equal_int_l1 t n n a1 a2 (a1.length : Int) 0 with
 | some (.inl a3) =>
 some a3
 | some (.inr (a4, a5, a6, a7, a8)) =>
 some true
 | none => none)
def value_Same (t : Tab) (n : Nat) : GValue → GValue → Option Bool
 | ⟨a1, a2, a3, a4, a5⟩, ⟨a6, a7, a8, a9, a10⟩ =>
 (match t.value_Cmp (GValue.mk a1 a2 a3 a4 a5) (GValue.mk a6 a7 a8 a9 a10) with
 | some a11 =>
 some (a11 == 0)
 | none => none)
def plan_samePred (t : Tab) (n : Nat) : GPred → GPred → Option Bool
 | ⟨a1, a2, a3⟩, ⟨a4, a5, a6⟩ =>
 if (a1 == a4) = true then
 (match t.slices_EqualFunc_value_Same a2 a5 with
 | some a7 =>
 if a7 = true then
 t.slices_EqualFunc_plan_samePred a3 a6
 else
 some false
 | none => none)
 else
 some false
def slices_EqualFunc_plan_Same_l1 (t : Tab) (n : Nat) : Nat → (List (List GStep)) → (List (List GStep)) → Int → Int → Option (Bool ⊕ ((List (List GStep)) × (List (List GStep)) × Int × Int × Bool))
 | 0, _, _, _, _ => none
 | k + 1, a1, a2, a3, a4 =>
 if (decide (a4 < a3)) = true then
 if (decide (0 ≤ (a4 : Int))) = true then
 (match a2[(a4 : Int).toNat]? with
 | some a5 =>
 (match a1[(a4 : Int).toNat]? with
 | some a6 =>
 (match t.plan_Same a5 a6 with
 | some a7 =>
 if a7 = true then
 slices_EqualFunc_plan_Same_l1 t n k a1 a2 a3 (IntKind.wrap .i64 (a4 + 1))
 else
 some (.inl false)
 | none => none)
 | none => none)
 | none => none)
 else none
 else
 some (.inr (a1, a2, a3, a4, (decide (a4 < a3))))
def slices_EqualFunc_plan_Same (t : Tab) (n : Nat) : (List (List GStep)) → (List (List GStep)) → Option Bool
 | a1, a2 =>
 if ((a1.length : Int) != (a2.length : Int)) = true then
 some false
 else
 (match slices_EqualFunc_plan_Same_l1 t n n a2 a1 (a1.length : Int) 0 with
 | some (.inl a3) =>
 some a3
 | some (.inr (a4, a5, a6, a7, a8)) =>
 some true
 | none => none)
def slices_EqualFunc_plan_sameBy_l1 (t : Tab) (n : Nat) : Nat → (List GBy) → (List GBy) → Int → Int → Option (Bool ⊕ ((List GBy) × (List GBy) × Int × Int × Bool))
 | 0, _, _, _, _ => none
 | k + 1, a1, a2, a3, a4 =>
 if (decide (a4 < a3)) = true then
 if (decide (0 ≤ (a4 : Int))) = true then
 (match a2[(a4 : Int).toNat]? with
 | some ⟨a5, a6, a7, a8⟩ =>
 (match a1[(a4 : Int).toNat]? with
 | some ⟨a9, a10, a11, a12⟩ =>
 (match t.plan_sameBy (GBy.mk a5 a6 a7 a8) (GBy.mk a9 a10 a11 a12) with
 | some a13 =>
 if a13 = true then
 slices_EqualFunc_plan_sameBy_l1 t n k a1 a2 a3 (IntKind.wrap .i64 (a4 + 1))
 else
 some (.inl false)
 | none => none)
 | none => none)
 | none => none)
 else none
 else
 some (.inr (a1, a2, a3, a4, (decide (a4 < a3))))
def slices_EqualFunc_plan_sameBy (t : Tab) (n : Nat) : (List GBy) → (List GBy) → Option Bool
 | a1, a2 =>
 if ((a1.length : Int) != (a2.length : Int)) = true then
 some false
 else
 (match slices_EqualFunc_plan_sameBy_l1 t n n a2 a1 (a1.length : Int) 0 with
 | some (.inl a3) =>
 some a3
 | some (.inr (a4, a5, a6, a7, a8)) =>
 some true
 | none => none)
def value_part (t : Tab) (n : Nat) : GValue → Int → Option GValue
 | ⟨a1, a2, a3, a4, a5⟩, a6 =>
 if (decide (a6 > 12)) = true then
 some (GValue.mk a1 a2 a3 ([] : List GValue) ([] : List GValue))
 else
 (match t.value_copied a4 (IntKind.wrap .i64 (a6 + 1)) with
 | some a7 =>
 (match t.value_copied a5 (IntKind.wrap .i64 (a6 + 1)) with
 | some a8 =>
 some (GValue.mk a1 a2 a3 a7 a8)
 | none => none)
 | none => none)
def pred_part_l1 (t : Tab) (n : Nat) : Nat → Int → (List GValue) → Int → Int → Int → (List GValue) → (List GPred) → Int → (List GValue) → (List GPred) → Int → (List GValue) → (List GPred) → Option (Int × (List GValue) × Int × Int × Bool × Int × (List GValue) × (List GPred) × Int × (List GValue) × (List GPred) × Int × (List GValue) × (List GPred))
 | 0, _, _, _, _, _, _, _, _, _, _, _, _, _ => none
 | k + 1, a1, a2, a3, a4, a5, a6, a7, a8, a9, a10, a11, a12, a13 =>
 if (decide (a4 < a3)) = true then
 if (decide (0 ≤ (a4 : Int))) = true then
 (match a2[(a4 : Int).toNat]? with
 | some ⟨a14, a15, a16, a17, a18⟩ =>
 (match t.value_Copy (GValue.mk a14 a15 a16 a17 a18) with
 | some ⟨a19, a20, a21, a22, a23⟩ =>
 if (a12.length + ([(GValue.mk a19 a20 a21 a22 a23)] : List GValue).length) * 80 ≤ 140737488355328 then
 pred_part_l1 t n k a1 a2 a3 (IntKind.wrap .i64 (a4 + 1)) a5 a6 a7 a8 a9 a10 a11 (a12 ++ ([(GValue.mk a19 a20 a21 a22 a23)] : List GValue)) a13
 else none
 | none => none)
 | none => none)
 else none
 else
 some (a1, a2, a3, a4, (decide (a4 < a3)), a5, a6, a7, a8, a9, a10, a11, a12, a13)
def pred_part_l3 (t : Tab) (n : Nat) : Nat → Int → (List GPred) → Int → Int → Int → (List GValue) → (List GPred) → Int → (List GValue) → (List GPred) → Option (Int × (List GPred) × Int × Int × Bool × Int × (List GValue) × (List GPred) × Int × (List GValue) × (List GPred))
 | 0, _, _, _, _, _, _, _, _, _, _ => none
 | k + 1, a1, a2, a3, a4, a5, a6, a7, a8, a9, a10 =>
 if (decide (a4 < a3)) = true then
 if (decide (0 ≤ (a4 : Int))) = true then
 (match a2[(a4 : Int).toNat]? with
 | some ⟨a11, a12, a13⟩ =>
 (match t.pred_part (GPred.mk a11 a12 a13) (IntKind.wrap .i64 (a1 + 1)) with
 | some ⟨a14, a15, a16⟩ =>
 if (a10.length + ([(GPred.mk a14 a15 a16)] : List GPred).length) * 56 ≤ 140737488355328 then
 pred_part_l3 t n k a1 a2 a3 (IntKind.wrap .i64 (a4 + 1)) a5 a6 a7 a8 a9 (a10 ++ ([(GPred.mk a14 a15 a16)] : List GPred))
 else none
 | none => none)
 | none => none)
 else none
 else
 some (a1, a2, a3, a4, (decide (a4 < a3)), a5, a6, a7, a8, a9, a10)
def pred_part_j2 (t : Tab) (n : Nat) (a1 a2 : Int) (a3 : List GValue) (a4 : List GPred) (a5 : Int) (a6 : List GValue) (a7 : List GPred) (a8 : Int) (a9 : List GValue) (a10 : List GPred) : Option (Int × (List GValue) × (List GPred)) :=
 (match pred_part_l3 t n n a1 a4 (a4.length : Int) 0 a5 a6 a7 a8 a9 a10 with
 | some (a11, a12, a13, a14, a15, a16, a17, a18, a19, a20, a21) =>
 some (a19, a20, a21)
 | none => none)
def pred_part (t : Tab) (n : Nat) : GPred → Int → Option GPred
 | ⟨a1, a2, a3⟩, a4 =>
 if (decide (a4 > 12)) = true then
 some (GPred.mk a1 ([] : List GValue) ([] : List GPred))
 else
 (match pred_part_l1 t n n a4 a2 (a2.length : Int) 0 a1 a2 a3 0 ([] : List GValue) ([] : List GPred) a1 ([] : List GValue) ([] : List GPred) with
 | some (a5, a6, a7, a8, a9, a10, a11, a12, a13, a14, a15, a16, a17, a18) =>
 (match pred_part_j2 t n  a5 a10 a11 a12 a13 a14 a15 a16 a17 a18 with
 | some (a19, a20, a21) =>
 some (GPred.mk a19 a20 a21)
 | none => none)
 | none => none)
def ref12_low_l1 (t : Tab) (n : Nat) : Nat → (List Int) → Int → Option (Bool ⊕ ((List Int) × Int × Bool))
 | 0, _, _ => none
 | k + 1, a1, a2 =>
 if (decide (a2 < (a1.length : Int))) = true then
 if (decide (0 ≤ (a2 : Int))) = true then
 (match a1[(a2 : Int).toNat]? with
 | some a3 =>
 if (decide (a3 < 0)) = true then
 some (.inl false)
 else
 ref12_low_l1 t n k a1 (IntKind.wrap .i64 (a2 + 1))
 | none => none)
 else none
 else
 some (.inr (a1, a2, (decide (a2 < (a1.length : Int)))))
def ref12_low (t : Tab) (n : Nat) : (List Int) → Option Bool
 | a1 =>
 (match ref12_low_l1 t n n a1 0 with
 | some (.inl a2) =>
 some a2
 | some (.inr (a3, a4, a5)) =>
 some true
 | none => none)
def ref12_once_l2 (t : Tab) (n : Nat) : Nat → (List ByteArray) → Int → Int → Option (Bool ⊕ ((List ByteArray) × Int × Int × Bool))
 | 0, _, _, _ => none
 | k + 1, a1, a2, a3 =>
 if (decide (a3 < a2)) = true then
 if (decide (0 ≤ (a2 : Int))) = true then
 (match a1[(a2 : Int).toNat]? with
 | some a4 =>
 if (decide (0 ≤ (a3 : Int))) = true then
 (match a1[(a3 : Int).toNat]? with
 | some a5 =>
 if (a4.toList == a5.toList) = true then
 some (.inl false)
 else
 ref12_once_l2 t n k a1 a2 (IntKind.wrap .i64 (a3 + 1))
 | none => none)
 else none
 | none => none)
 else none
 else
 some (.inr (a1, a2, a3, (decide (a3 < a2))))
def ref12_once_l1 (t : Tab) (n : Nat) : Nat → (List ByteArray) → Int → Option (Bool ⊕ ((List ByteArray) × Int × Bool))
 | 0, _, _ => none
 | k + 1, a1, a2 =>
 if (decide (a2 < (a1.length : Int))) = true then
 (match ref12_once_l2 t n n a1 a2 0 with
 | some (.inl a3) =>
 some (.inl a3)
 | some (.inr (a4, a5, a6, a7)) =>
 ref12_once_l1 t n k a4 (IntKind.wrap .i64 (a5 + 1))
 | none => none)
 else
 some (.inr (a1, a2, (decide (a2 < (a1.length : Int)))))
def ref12_once (t : Tab) (n : Nat) : (List ByteArray) → Option Bool
 | a1 =>
 (match ref12_once_l1 t n n a1 0 with
 | some (.inl a2) =>
 some a2
 | some (.inr (a3, a4, a5)) =>
 some true
 | none => none)
def ref05_Name_j2 (t : Tab) (n : Nat) (a1 : ByteArray) (a2 a3 : Int) (a4 : Bool) : Option ((ByteArray × Int) ⊕ Bool) :=
 if a4 = true then
 some (.inl (a1, a2))
 else
 if (a2 == 0) = true then
 some (.inr false)
 else
 if (decide (a3 < 48)) = true then
 some (.inr false)
 else
 if (decide (a3 > 57)) = true then
 some (.inr false)
 else
 some (.inl (a1, a2))
def ref05_Name_l1 (t : Tab) (n : Nat) : Nat → ByteArray → Int → Option (Bool ⊕ (ByteArray × Int × Bool))
 | 0, _, _ => none
 | k + 1, a1, a2 =>
 if (decide (a2 < (a1.size : Int))) = true then
 (match strAt a1 a2 with
 | some a3 =>
 if (decide (a3 ≥ 97)) = true then
 if (decide (a3 ≤ 122)) = true then
 (match ref05_Name_j2 t n  a1 a2 a3 true with
 | some (.inl (a4, a5)) =>
 ref05_Name_l1 t n k a4 (IntKind.wrap .i64 (a5 + 1))
 | some (.inr a6) =>
 some (.inl a6)
 | none => none)
 else
 if (decide (a3 ≥ 65)) = true then
 if (decide (a3 ≤ 90)) = true then
 (match ref05_Name_j2 t n  a1 a2 a3 true with
 | some (.inl (a7, a8)) =>
 ref05_Name_l1 t n k a7 (IntKind.wrap .i64 (a8 + 1))
 | some (.inr a9) =>
 some (.inl a9)
 | none => none)
 else
 (match ref05_Name_j2 t n  a1 a2 a3 (a3 == 95) with
 | some (.inl (a10, a11)) =>
 ref05_Name_l1 t n k a10 (IntKind.wrap .i64 (a11 + 1))
 | some (.inr a12) =>
 some (.inl a12)
 | none => none)
 else
 (match ref05_Name_j2 t n  a1 a2 a3 (a3 == 95) with
 | some (.inl (a13, a14)) =>
 ref05_Name_l1 t n k a13 (IntKind.wrap .i64 (a14 + 1))
 | some (.inr a15) =>
 some (.inl a15)
 | none => none)
 else
 if (decide (a3 ≥ 65)) = true then
 if (decide (a3 ≤ 90)) = true then
 (match ref05_Name_j2 t n  a1 a2 a3 true with
 | some (.inl (a16, a17)) =>
 ref05_Name_l1 t n k a16 (IntKind.wrap .i64 (a17 + 1))
 | some (.inr a18) =>
 some (.inl a18)
 | none => none)
 else
 (match ref05_Name_j2 t n  a1 a2 a3 (a3 == 95) with
 | some (.inl (a19, a20)) =>
 ref05_Name_l1 t n k a19 (IntKind.wrap .i64 (a20 + 1))
 | some (.inr a21) =>
 some (.inl a21)
 | none => none)
 else
 (match ref05_Name_j2 t n  a1 a2 a3 (a3 == 95) with
 | some (.inl (a22, a23)) =>
 ref05_Name_l1 t n k a22 (IntKind.wrap .i64 (a23 + 1))
 | some (.inr a24) =>
 some (.inl a24)
 | none => none)
 | none => none)
 else
 some (.inr (a1, a2, (decide (a2 < (a1.size : Int)))))
def ref05_Name_j3 (t : Tab) (n : Nat) (a1 : ByteArray) : Option Bool :=
 if (decide ((a1.size : Int) ≥ 1)) = true then
 some (decide ((a1.size : Int) ≤ 40))
 else
 some false
def ref05_Name (t : Tab) (n : Nat) : ByteArray → Option Bool
 | a1 =>
 (match ref05_Name_l1 t n n a1 0 with
 | some (.inl a2) =>
 some a2
 | some (.inr (a3, a4, a5)) =>
 ref05_Name_j3 t n  a3
 | none => none)
def ref02_right_l2 (t : Tab) (n : Nat) : Nat → Int → Int → Int → Int → ByteArray → (List GValue) → (List GValue) → Option (Bool ⊕ (Int × Int × Bool × Int × Int × ByteArray × (List GValue) × (List GValue)))
 | 0, _, _, _, _, _, _, _ => none
 | k + 1, a1, a2, a3, a4, a5, a6, a7 =>
 if (decide (a2 < (a6.length : Int))) = true then
 if (decide (0 ≤ (a2 : Int))) = true then
 (match a6[(a2 : Int).toNat]? with
 | some ⟨a8, a9, a10, a11, a12⟩ =>
 (match t.ref02_right (GValue.mk a8 a9 a10 a11 a12) (IntKind.wrap .i64 (a1 + 1)) with
 | some a13 =>
 if a13 = true then
 if (a3 == 7) = true then
 if (decide (a2 > 0)) = true then
 if (decide (0 ≤ ((IntKind.wrap .i64 (a2 - 1)) : Int))) = true then
 (match a6[((IntKind.wrap .i64 (a2 - 1)) : Int).toNat]? with
 | some ⟨a14, a15, a16, a17, a18⟩ =>
 (match t.ref02_Cmp (GValue.mk a14 a15 a16 a17 a18) (GValue.mk a8 a9 a10 a11 a12) with
 | some a19 =>
 if (a19 != (-1)) = true then
 some (.inl false)
 else
 ref02_right_l2 t n k a1 (IntKind.wrap .i64 (a2 + 1)) a3 a4 a5 a6 a7
 | none => none)
 | none => none)
 else none
 else
 ref02_right_l2 t n k a1 (IntKind.wrap .i64 (a2 + 1)) a3 a4 a5 a6 a7
 else
 ref02_right_l2 t n k a1 (IntKind.wrap .i64 (a2 + 1)) a3 a4 a5 a6 a7
 else
 some (.inl false)
 | none => none)
 | none => none)
 else none
 else
 some (.inr (a1, a2, (decide (a2 < (a6.length : Int))), a3, a4, a5, a6, a7))
def ref02_right_l4 (t : Tab) (n : Nat) : Nat → Int → Int → Int → Int → ByteArray → (List GValue) → (List GValue) → Option (Bool ⊕ (Int × Int × Bool × Int × Int × ByteArray × (List GValue) × (List GValue)))
 | 0, _, _, _, _, _, _, _ => none
 | k + 1, a1, a2, a3, a4, a5, a6, a7 =>
 if (decide (a2 < (a7.length : Int))) = true then
 if (decide (0 ≤ (a2 : Int))) = true then
 (match a7[(a2 : Int).toNat]? with
 | some ⟨a8, a9, a10, a11, a12⟩ =>
 (match t.ref02_right (GValue.mk a8 a9 a10 a11 a12) (IntKind.wrap .i64 (a1 + 1)) with
 | some a13 =>
 if a13 = true then
 ref02_right_l4 t n k a1 (IntKind.wrap .i64 (a2 + 1)) a3 a4 a5 a6 a7
 else
 some (.inl false)
 | none => none)
 | none => none)
 else none
 else
 some (.inr (a1, a2, (decide (a2 < (a7.length : Int))), a3, a4, a5, a6, a7))
def ref02_right_j3 (t : Tab) (n : Nat) (a1 a2 a3 : Int) (a4 : ByteArray) (a5 a6 : List GValue) : Option Bool :=
 (match ref02_right_l4 t n n a1 0 a2 a3 a4 a5 a6 with
 | some (.inl a7) =>
 some a7
 | some (.inr (a8, a9, a10, a11, a12, a13, a14, a15)) =>
 some true
 | none => none)
def ref02_right_j1 (t : Tab) (n : Nat) (a1 a2 a3 : Int) (a4 : ByteArray) (a5 a6 : List GValue) : Option Bool :=
 (match ref02_right_l2 t n n a1 0 a2 a3 a4 a5 a6 with
 | some (.inl a7) =>
 some a7
 | some (.inr (a8, a9, a10, a11, a12, a13, a14, a15)) =>
 ref02_right_j3 t n  a8 a11 a12 a13 a14 a15
 | none => none)
def ref02_right (t : Tab) (n : Nat) : GValue → Int → Option Bool
 | ⟨a1, a2, a3, a4, a5⟩, a6 =>
 if (decide (a6 > 12)) = true then
 some false
 else
 (match t.ref02_fields (GValue.mk a1 a2 a3 a4 a5) with
 | some a7 =>
 if a7 = true then
 ref02_right_j1 t n  a6 a1 a2 a3 a4 a5
 else
 some false
 | none => none)
def ref09_right_j4 (t : Tab) (n : Nat) (a1 a2 a3 : Int) (a4 a5 : Bool) (a6 : Int) (a7 : List GValue) (a8 : List GPred) : Option (Int × Int × Int × Bool × Int × (List GValue) × (List GPred)) :=
 if a5 = true then
 if (a2 == 0) = true then
 if (decide (a3 ≥ 2)) = true then
 some (a1, a2, a3, (decide (a3 ≤ 1000)), a6, a7, a8)
 else
 some (a1, a2, a3, false, a6, a7, a8)
 else
 some (a1, a2, a3, false, a6, a7, a8)
 else
 some (a1, a2, a3, a4, a6, a7, a8)
def ref09_right_j3 (t : Tab) (n : Nat) (a1 a2 a3 : Int) (a4 : Bool) (a5 : Int) (a6 : Bool) (a7 : Int) (a8 : List GValue) (a9 : List GPred) : Option (Int × Int × Int × Bool × Int × (List GValue) × (List GPred)) :=
 if a6 = true then
 if (decide (a2 ≤ 1000)) = true then
 some (a1, a2, a3, (a3 == 0), a7, a8, a9)
 else
 some (a1, a2, a3, false, a7, a8, a9)
 else
 if (a5 == 12) = true then
 if (a2 == 0) = true then
 some (a1, a2, a3, (a3 == 1), a7, a8, a9)
 else
 some (a1, a2, a3, false, a7, a8, a9)
 else
 if (a5 == 13) = true then
 ref09_right_j4 t n  a1 a2 a3 a4 (a5 == 13) a7 a8 a9
 else
 ref09_right_j4 t n  a1 a2 a3 a4 (a5 == 14) a7 a8 a9
def ref09_right_j2 (t : Tab) (n : Nat) (a1 a2 a3 : Int) (a4 : Bool) (a5 : Int) (a6 : Bool) (a7 : Int) (a8 : List GValue) (a9 : List GPred) : Option (Int × Int × Int × Bool × Int × (List GValue) × (List GPred)) :=
 if a6 = true then
 if (a2 == 2) = true then
 some (a1, a2, a3, (a3 == 0), a7, a8, a9)
 else
 some (a1, a2, a3, false, a7, a8, a9)
 else
 if (a5 == 10) = true then
 ref09_right_j3 t n  a1 a2 a3 a4 a5 (a5 == 10) a7 a8 a9
 else
 ref09_right_j3 t n  a1 a2 a3 a4 a5 (a5 == 11) a7 a8 a9
def ref09_right_j1 (t : Tab) (n : Nat) (a1 a2 a3 : Int) (a4 : Bool) (a5 : Int) (a6 : Bool) (a7 : Int) (a8 : List GValue) (a9 : List GPred) : Option (Int × Int × Int × Bool × Int × (List GValue) × (List GPred)) :=
 if a6 = true then
 if (a2 == 1) = true then
 some (a1, a2, a3, (a3 == 0), a7, a8, a9)
 else
 some (a1, a2, a3, false, a7, a8, a9)
 else
 if (a5 == 7) = true then
 ref09_right_j2 t n  a1 a2 a3 a4 a5 (a5 == 7) a7 a8 a9
 else
 if (a5 == 8) = true then
 ref09_right_j2 t n  a1 a2 a3 a4 a5 (a5 == 8) a7 a8 a9
 else
 ref09_right_j2 t n  a1 a2 a3 a4 a5 (a5 == 9) a7 a8 a9
def ref09_right_l7 (t : Tab) (n : Nat) : Nat → Int → Int → Int → Int → Int → (List GValue) → (List GPred) → Option (Bool ⊕ (Int × Int × Int × Int × Bool × Int × (List GValue) × (List GPred)))
 | 0, _, _, _, _, _, _, _ => none
 | k + 1, a1, a2, a3, a4, a5, a6, a7 =>
 if (decide (a4 < a2)) = true then
 if (decide (0 ≤ (a4 : Int))) = true then
 (match a6[(a4 : Int).toNat]? with
 | some ⟨a8, a9, a10, a11, a12⟩ =>
 (match t.ref02_Check (GValue.mk a8 a9 a10 a11 a12) with
 | some a13 =>
 if (a13 != 0) = true then
 some (.inl false)
 else
 ref09_right_l7 t n k a1 a2 a3 (IntKind.wrap .i64 (a4 + 1)) a5 a6 a7
 | none => none)
 | none => none)
 else none
 else
 some (.inr (a1, a2, a3, a4, (decide (a4 < a2)), a5, a6, a7))
def ref09_right_l9 (t : Tab) (n : Nat) : Nat → Int → Int → Int → Int → (List GValue) → (List GPred) → Option (Bool ⊕ (Int × Int × Int × Bool × Int × (List GValue) × (List GPred)))
 | 0, _, _, _, _, _, _ => none
 | k + 1, a1, a2, a3, a4, a5, a6 =>
 if (decide (a3 < a2)) = true then
 if (decide (0 ≤ (a3 : Int))) = true then
 (match a6[(a3 : Int).toNat]? with
 | some ⟨a7, a8, a9⟩ =>
 (match t.ref09_right (GPred.mk a7 a8 a9) (IntKind.wrap .i64 (a1 + 1)) with
 | some a10 =>
 if a10 = true then
 ref09_right_l9 t n k a1 a2 (IntKind.wrap .i64 (a3 + 1)) a4 a5 a6
 else
 some (.inl false)
 | none => none)
 | none => none)
 else none
 else
 some (.inr (a1, a2, a3, (decide (a3 < a2)), a4, a5, a6))
def ref09_right_j8 (t : Tab) (n : Nat) (a1 a2 a3 : Int) (a4 : List GValue) (a5 : List GPred) : Option Bool :=
 (match ref09_right_l9 t n n a1 a2 0 a3 a4 a5 with
 | some (.inl a6) =>
 some a6
 | some (.inr (a7, a8, a9, a10, a11, a12, a13)) =>
 some true
 | none => none)
def ref09_right_j6 (t : Tab) (n : Nat) (a1 a2 a3 a4 : Int) (a5 : List GValue) (a6 : List GPred) : Option Bool :=
 (match ref09_right_l7 t n n a1 a2 a3 0 a4 a5 a6 with
 | some (.inl a7) =>
 some a7
 | some (.inr (a8, a9, a10, a11, a12, a13, a14, a15)) =>
 ref09_right_j8 t n  a8 a10 a13 a14 a15
 | none => none)
def ref09_right_j5 (t : Tab) (n : Nat) (a1 a2 a3 : Int) (a4 : Bool) (a5 : Int) (a6 : List GValue) (a7 : List GPred) : Option Bool :=
 if a4 = true then
 if (decide (a1 > 12)) = true then
 some false
 else
 ref09_right_j6 t n  a1 a2 a3 a5 a6 a7
 else
 some false
def ref09_right (t : Tab) (n : Nat) : GPred → Int → Option Bool
 | ⟨a1, a2, a3⟩, a4 =>
 if (a1 == 1) = true then
 (match ref09_right_j1 t n  a4 (a2.length : Int) (a3.length : Int) false a1 (a1 == 1) a1 a2 a3 with
 | some (a5, a6, a7, a8, a9, a10, a11) =>
 ref09_right_j5 t n  a5 a6 a7 a8 a9 a10 a11
 | none => none)
 else
 if (a1 == 2) = true then
 (match ref09_right_j1 t n  a4 (a2.length : Int) (a3.length : Int) false a1 (a1 == 2) a1 a2 a3 with
 | some (a13, a14, a15, a16, a17, a18, a19) =>
 ref09_right_j5 t n  a13 a14 a15 a16 a17 a18 a19
 | none => none)
 else
 if (a1 == 3) = true then
 (match ref09_right_j1 t n  a4 (a2.length : Int) (a3.length : Int) false a1 (a1 == 3) a1 a2 a3 with
 | some (a21, a22, a23, a24, a25, a26, a27) =>
 ref09_right_j5 t n  a21 a22 a23 a24 a25 a26 a27
 | none => none)
 else
 if (a1 == 4) = true then
 (match ref09_right_j1 t n  a4 (a2.length : Int) (a3.length : Int) false a1 (a1 == 4) a1 a2 a3 with
 | some (a29, a30, a31, a32, a33, a34, a35) =>
 ref09_right_j5 t n  a29 a30 a31 a32 a33 a34 a35
 | none => none)
 else
 if (a1 == 5) = true then
 (match ref09_right_j1 t n  a4 (a2.length : Int) (a3.length : Int) false a1 (a1 == 5) a1 a2 a3 with
 | some (a37, a38, a39, a40, a41, a42, a43) =>
 ref09_right_j5 t n  a37 a38 a39 a40 a41 a42 a43
 | none => none)
 else
 (match ref09_right_j1 t n  a4 (a2.length : Int) (a3.length : Int) false a1 (a1 == 6) a1 a2 a3 with
 | some (a45, a46, a47, a48, a49, a50, a51) =>
 ref09_right_j5 t n  a45 a46 a47 a48 a49 a50 a51
 | none => none)
def ref02_sign (t : Tab) (n : Nat) : Int → Int → Option Int
 | a1, a2 =>
 if (decide (a1 < a2)) = true then
 some (-1)
 else
 if (decide (a1 > a2)) = true then
 some 1
 else
 some 0
def ref02_texts_j2 (t : Tab) (n : Nat) (a1 a2 : ByteArray) (a3 : Int) : Option (Int ⊕ (ByteArray × ByteArray × Int)) :=
 (match strAt a1 a3 with
 | some a4 =>
 (match strAt a2 a3 with
 | some a5 =>
 if (a4 != a5) = true then
 (match t.ref02_sign (IntKind.wrap .i64 a4) (IntKind.wrap .i64 a5) with
 | some a6 =>
 some (.inl a6)
 | none => none)
 else
 some (.inr (a1, a2, (IntKind.wrap .i64 (a3 + 1))))
 | none => none)
 | none => none)
def ref02_texts_l1 (t : Tab) (n : Nat) : Nat → ByteArray → ByteArray → Int → Option (Int ⊕ (ByteArray × ByteArray × Int × Bool))
 | 0, _, _, _ => none
 | k + 1, a1, a2, a3 =>
 if (decide (a3 < (a1.size : Int))) = true then
 if (decide (a3 < (a2.size : Int))) = true then
 (match ref02_texts_j2 t n  a1 a2 a3 with
 | some (.inl a4) =>
 some (.inl a4)
 | some (.inr (a5, a6, a7)) =>
 ref02_texts_l1 t n k a5 a6 a7
 | none => none)
 else
 some (.inr (a1, a2, a3, (decide (a3 < (a2.size : Int)))))
 else
 some (.inr (a1, a2, a3, false))
def ref02_texts_j3 (t : Tab) (n : Nat) (a1 a2 : ByteArray) : Option Int :=
 t.ref02_sign (a1.size : Int) (a2.size : Int)
def ref02_texts (t : Tab) (n : Nat) : ByteArray → ByteArray → Option Int
 | a1, a2 =>
 (match ref02_texts_l1 t n n a1 a2 0 with
 | some (.inl a3) =>
 some a3
 | some (.inr (a4, a5, a6, a7)) =>
 ref02_texts_j3 t n  a4 a5
 | none => none)
def ref02_rows_j2 (t : Tab) (n : Nat) (a1 a2 : List GValue) (a3 a4 : Int) : Option (Int ⊕ ((List GValue) × (List GValue) × Int × Int)) :=
 if (decide (0 ≤ (a4 : Int))) = true then
 (match a1[(a4 : Int).toNat]? with
 | some ⟨a5, a6, a7, a8, a9⟩ =>
 (match a2[(a4 : Int).toNat]? with
 | some ⟨a10, a11, a12, a13, a14⟩ =>
 (match t.ref02_compare (GValue.mk a5 a6 a7 a8 a9) (GValue.mk a10 a11 a12 a13 a14) a3 with
 | some a15 =>
 if (a15 != 0) = true then
 some (.inl a15)
 else
 some (.inr (a1, a2, a3, (IntKind.wrap .i64 (a4 + 1))))
 | none => none)
 | none => none)
 | none => none)
 else none
def ref02_rows_l1 (t : Tab) (n : Nat) : Nat → (List GValue) → (List GValue) → Int → Int → Option (Int ⊕ ((List GValue) × (List GValue) × Int × Int × Bool))
 | 0, _, _, _, _ => none
 | k + 1, a1, a2, a3, a4 =>
 if (decide (a4 < (a1.length : Int))) = true then
 if (decide (a4 < (a2.length : Int))) = true then
 (match ref02_rows_j2 t n  a1 a2 a3 a4 with
 | some (.inl a5) =>
 some (.inl a5)
 | some (.inr (a6, a7, a8, a9)) =>
 ref02_rows_l1 t n k a6 a7 a8 a9
 | none => none)
 else
 some (.inr (a1, a2, a3, a4, (decide (a4 < (a2.length : Int)))))
 else
 some (.inr (a1, a2, a3, a4, false))
def ref02_rows_j3 (t : Tab) (n : Nat) (a1 a2 : List GValue) : Option Int :=
 t.ref02_sign (a1.length : Int) (a2.length : Int)
def ref02_rows (t : Tab) (n : Nat) : (List GValue) → (List GValue) → Int → Option Int
 | a1, a2, a3 =>
 (match ref02_rows_l1 t n n a1 a2 a3 0 with
 | some (.inl a4) =>
 some a4
 | some (.inr (a5, a6, a7, a8, a9)) =>
 ref02_rows_j3 t n  a5 a6
 | none => none)
def value_Cmp (t : Tab) (n : Nat) : GValue → GValue → Option Int
 | ⟨a1, a2, a3, a4, a5⟩, ⟨a6, a7, a8, a9, a10⟩ =>
 t.value_compare (GValue.mk a1 a2 a3 a4 a5) (GValue.mk a6 a7 a8 a9 a10) 1
def slices_EqualFunc_value_Same_l1 (t : Tab) (n : Nat) : Nat → (List GValue) → (List GValue) → Int → Int → Option (Bool ⊕ ((List GValue) × (List GValue) × Int × Int × Bool))
 | 0, _, _, _, _ => none
 | k + 1, a1, a2, a3, a4 =>
 if (decide (a4 < a3)) = true then
 if (decide (0 ≤ (a4 : Int))) = true then
 (match a2[(a4 : Int).toNat]? with
 | some ⟨a5, a6, a7, a8, a9⟩ =>
 (match a1[(a4 : Int).toNat]? with
 | some ⟨a10, a11, a12, a13, a14⟩ =>
 (match t.value_Same (GValue.mk a5 a6 a7 a8 a9) (GValue.mk a10 a11 a12 a13 a14) with
 | some a15 =>
 if a15 = true then
 slices_EqualFunc_value_Same_l1 t n k a1 a2 a3 (IntKind.wrap .i64 (a4 + 1))
 else
 some (.inl false)
 | none => none)
 | none => none)
 | none => none)
 else none
 else
 some (.inr (a1, a2, a3, a4, (decide (a4 < a3))))
def slices_EqualFunc_value_Same (t : Tab) (n : Nat) : (List GValue) → (List GValue) → Option Bool
 | a1, a2 =>
 if ((a1.length : Int) != (a2.length : Int)) = true then
 some false
 else
 (match slices_EqualFunc_value_Same_l1 t n n a2 a1 (a1.length : Int) 0 with
 | some (.inl a3) =>
 some a3
 | some (.inr (a4, a5, a6, a7, a8)) =>
 some true
 | none => none)
def slices_EqualFunc_plan_samePred_l1 (t : Tab) (n : Nat) : Nat → (List GPred) → (List GPred) → Int → Int → Option (Bool ⊕ ((List GPred) × (List GPred) × Int × Int × Bool))
 | 0, _, _, _, _ => none
 | k + 1, a1, a2, a3, a4 =>
 if (decide (a4 < a3)) = true then
 if (decide (0 ≤ (a4 : Int))) = true then
 (match a2[(a4 : Int).toNat]? with
 | some ⟨a5, a6, a7⟩ =>
 (match a1[(a4 : Int).toNat]? with
 | some ⟨a8, a9, a10⟩ =>
 (match t.plan_samePred (GPred.mk a5 a6 a7) (GPred.mk a8 a9 a10) with
 | some a11 =>
 if a11 = true then
 slices_EqualFunc_plan_samePred_l1 t n k a1 a2 a3 (IntKind.wrap .i64 (a4 + 1))
 else
 some (.inl false)
 | none => none)
 | none => none)
 | none => none)
 else none
 else
 some (.inr (a1, a2, a3, a4, (decide (a4 < a3))))
def slices_EqualFunc_plan_samePred (t : Tab) (n : Nat) : (List GPred) → (List GPred) → Option Bool
 | a1, a2 =>
 if ((a1.length : Int) != (a2.length : Int)) = true then
 some false
 else
 (match slices_EqualFunc_plan_samePred_l1 t n n a2 a1 (a1.length : Int) 0 with
 | some (.inl a3) =>
 some a3
 | some (.inr (a4, a5, a6, a7, a8)) =>
 some true
 | none => none)
def plan_sameBy (t : Tab) (n : Nat) : GBy → GBy → Option Bool
 | ⟨a1, a2, a3, a4⟩, ⟨a5, a6, a7, a8⟩ =>
 if (a1 == a5) = true then
 if (a2.toList == a6.toList) = true then
 if (a4 == a8) = true then
 t.plan_Same a3 a7
 else
 some false
 else
 some false
 else
 some false
def value_copied_l1 (t : Tab) (n : Nat) : Nat → Int → (List GValue) → (List GValue) → Int → Int → Option (Int × (List GValue) × (List GValue) × Int × Int × Bool)
 | 0, _, _, _, _, _ => none
 | k + 1, a1, a2, a3, a4, a5 =>
 if (decide (a5 < a4)) = true then
 if (decide (0 ≤ (a5 : Int))) = true then
 (match a3[(a5 : Int).toNat]? with
 | some ⟨a6, a7, a8, a9, a10⟩ =>
 (match t.value_part (GValue.mk a6 a7 a8 a9 a10) a1 with
 | some ⟨a11, a12, a13, a14, a15⟩ =>
 if (a2.length + ([(GValue.mk a11 a12 a13 a14 a15)] : List GValue).length) * 80 ≤ 140737488355328 then
 value_copied_l1 t n k a1 (a2 ++ ([(GValue.mk a11 a12 a13 a14 a15)] : List GValue)) a3 a4 (IntKind.wrap .i64 (a5 + 1))
 else none
 | none => none)
 | none => none)
 else none
 else
 some (a1, a2, a3, a4, a5, (decide (a5 < a4)))
def value_copied (t : Tab) (n : Nat) : (List GValue) → Int → Option (List GValue)
 | a1, a2 =>
 (match value_copied_l1 t n n a2 ([] : List GValue) a1 (a1.length : Int) 0 with
 | some (a3, a4, a5, a6, a7, a8) =>
 some a4
 | none => none)
def ref02_fields_j2 (t : Tab) (n : Nat) (a1 : Int) (a2 : Bool) (a3 a4 : Int) (a5 : ByteArray) (a6 a7 : List GValue) : Option (Bool ⊕ Unit) :=
 if a2 = true then
 if (a4 == 0) = true then
 if (a5.toList == (ByteArray.mk #[]).toList) = true then
 if (decide ((a6.length : Int) ≤ 1000)) = true then
 some (.inl ((a7.length : Int) == 0))
 else
 some (.inl false)
 else
 some (.inl false)
 else
 some (.inl false)
 else
 if (a1 == 7) = true then
 if (a4 == 0) = true then
 if (a5.toList == (ByteArray.mk #[]).toList) = true then
 if (decide ((a6.length : Int) ≤ 1000)) = true then
 some (.inl ((a7.length : Int) == (a6.length : Int)))
 else
 some (.inl false)
 else
 some (.inl false)
 else
 some (.inl false)
 else
 some (.inr ())
def ref02_fields_j1 (t : Tab) (n : Nat) (a1 : Int) (a2 : Bool) (a3 a4 : Int) (a5 : ByteArray) (a6 a7 : List GValue) : Option (Bool ⊕ Unit) :=
 if a2 = true then
 if (decide (a4 ≥ 0)) = true then
 if (a5.toList == (ByteArray.mk #[]).toList) = true then
 if ((a6.length : Int) == 0) = true then
 some (.inl ((a7.length : Int) == 0))
 else
 some (.inl false)
 else
 some (.inl false)
 else
 some (.inl false)
 else
 if (a1 == 6) = true then
 ref02_fields_j2 t n  a1 (a1 == 6) a3 a4 a5 a6 a7
 else
 ref02_fields_j2 t n  a1 (a1 == 8) a3 a4 a5 a6 a7
def ref02_fields (t : Tab) (n : Nat) : GValue → Option Bool
 | ⟨a1, a2, a3, a4, a5⟩ =>
 if (a1 == 1) = true then
 if (a2 == 0) = true then
 if (a3.toList == (ByteArray.mk #[]).toList) = true then
 if ((a4.length : Int) == 0) = true then
 some ((a5.length : Int) == 0)
 else
 some false
 else
 some false
 else
 if (a2 == 1) = true then
 if (a3.toList == (ByteArray.mk #[]).toList) = true then
 if ((a4.length : Int) == 0) = true then
 some ((a5.length : Int) == 0)
 else
 some false
 else
 some false
 else
 some false
 else
 if (a1 == 2) = true then
 if (a3.toList == (ByteArray.mk #[]).toList) = true then
 if ((a4.length : Int) == 0) = true then
 some ((a5.length : Int) == 0)
 else
 some false
 else
 some false
 else
 if (a1 == 3) = true then
 if (a2 == 0) = true then
 if (decide ((a3.size : Int) ≤ 1000)) = true then
 if ((a4.length : Int) == 0) = true then
 some ((a5.length : Int) == 0)
 else
 some false
 else
 some false
 else
 some false
 else
 if (a1 == 4) = true then
 (match ref02_fields_j1 t n  a1 (a1 == 4) a1 a2 a3 a4 a5 with
 | some (.inl a6) =>
 some a6
 | some (.inr ()) =>
 some false
 | none => none)
 else
 (match ref02_fields_j1 t n  a1 (a1 == 5) a1 a2 a3 a4 a5 with
 | some (.inl a7) =>
 some a7
 | some (.inr ()) =>
 some false
 | none => none)
def ref02_Cmp (t : Tab) (n : Nat) : GValue → GValue → Option Int
 | ⟨a1, a2, a3, a4, a5⟩, ⟨a6, a7, a8, a9, a10⟩ =>
 t.ref02_compare (GValue.mk a1 a2 a3 a4 a5) (GValue.mk a6 a7 a8 a9 a10) 1
def value_compare_j1 (t : Tab) (n : Nat) (a1 a2 : Int) (a3 : ByteArray) (a4 a5 : List GValue) (a6 a7 : Int) (a8 : ByteArray) (a9 a10 : List GValue) (a11 : Int) : Option Int :=
 (match t.slices_CompareFunc_value_compare_1 a4 a9 a11 with
 | some a12 =>
 (match t.slices_CompareFunc_value_compare_1 a5 a10 a11 with
 | some a13 =>
 t.cmp_Or_int ([a12, a13] : List Int)
 | none => none)
 | none => none)
def value_compare (t : Tab) (n : Nat) : GValue → GValue → Int → Option Int
 | ⟨a1, a2, a3, a4, a5⟩, ⟨a6, a7, a8, a9, a10⟩, a11 =>
 (match t.cmp_Compare_int a1 a6 with
 | some a12 =>
 (match t.cmp_Compare_int a2 a7 with
 | some a13 =>
 (match t.strings_Compare a3 a8 with
 | some a14 =>
 (match t.cmp_Or_int ([a12, a13, a14] : List Int) with
 | some a15 =>
 if (a15 != 0) = true then
 some a15
 else
 if (decide (a11 > 12)) = true then
 some a15
 else
 value_compare_j1 t n  a1 a2 a3 a4 a5 a6 a7 a8 a9 a10 a11
 | none => none)
 | none => none)
 | none => none)
 | none => none)
def cmp_Compare_int (t : Tab) (n : Nat) : Int → Int → Option Int
 | a1, a2 =>
 (match t.cmp_isNaN_int a1 with
 | some a3 =>
 (match t.cmp_isNaN_int a2 with
 | some a4 =>
 if a3 = true then
 if a4 = true then
 some 0
 else
 some (-1)
 else
 if a4 = true then
 some 1
 else
 if (decide (a1 < a2)) = true then
 some (-1)
 else
 if (decide (a1 > a2)) = true then
 some 1
 else
 some 0
 | none => none)
 | none => none)
def strings_Compare (t : Tab) (n : Nat) : ByteArray → ByteArray → Option Int
 | a1, a2 =>
 t.bytealg_CompareString a1 a2
def cmp_Or_int_l1 (t : Tab) (n : Nat) : Nat → Int → (List Int) → Int → Int → Option (Int ⊕ (Int × (List Int) × Int × Int × Bool))
 | 0, _, _, _, _ => none
 | k + 1, a1, a2, a3, a4 =>
 if (decide (a4 < a3)) = true then
 if (decide (0 ≤ (a4 : Int))) = true then
 (match a2[(a4 : Int).toNat]? with
 | some a5 =>
 if (a5 != a1) = true then
 some (.inl a5)
 else
 cmp_Or_int_l1 t n k a1 a2 a3 (IntKind.wrap .i64 (a4 + 1))
 | none => none)
 else none
 else
 some (.inr (a1, a2, a3, a4, (decide (a4 < a3))))
def cmp_Or_int (t : Tab) (n : Nat) : (List Int) → Option Int
 | a1 =>
 (match cmp_Or_int_l1 t n n 0 a1 (a1.length : Int) 0 with
 | some (.inl a2) =>
 some a2
 | some (.inr (a3, a4, a5, a6, a7)) =>
 some a3
 | none => none)
def slices_CompareFunc_value_compare_1_l1 (t : Tab) (n : Nat) : Nat → (List GValue) → (List GValue) → Int → (List GValue) → Int → Int → Option (Int ⊕ ((List GValue) × (List GValue) × Int × (List GValue) × Int × Int × Bool))
 | 0, _, _, _, _, _, _ => none
 | k + 1, a1, a2, a3, a4, a5, a6 =>
 if (decide (a6 < a5)) = true then
 if (decide (0 ≤ (a6 : Int))) = true then
 (match a4[(a6 : Int).toNat]? with
 | some ⟨a7, a8, a9, a10, a11⟩ =>
 if (decide (a6 ≥ (a2.length : Int))) = true then
 some (.inl 1)
 else
 (match a2[(a6 : Int).toNat]? with
 | some ⟨a12, a13, a14, a15, a16⟩ =>
 (match t.value_compare_1 (GValue.mk a7 a8 a9 a10 a11) (GValue.mk a12 a13 a14 a15 a16) a3 with
 | some a17 =>
 if (a17 != 0) = true then
 some (.inl a17)
 else
 slices_CompareFunc_value_compare_1_l1 t n k a1 a2 a3 a4 a5 (IntKind.wrap .i64 (a6 + 1))
 | none => none)
 | none => none)
 | none => none)
 else none
 else
 some (.inr (a1, a2, a3, a4, a5, a6, (decide (a6 < a5))))
def slices_CompareFunc_value_compare_1_j2 (t : Tab) (n : Nat) (a1 a2 : List GValue) : Option Int :=
 if (decide ((a1.length : Int) < (a2.length : Int))) = true then
 some (-1)
 else
 some 0
def slices_CompareFunc_value_compare_1 (t : Tab) (n : Nat) : (List GValue) → (List GValue) → Int → Option Int
 | a1, a2, a3 =>
 (match slices_CompareFunc_value_compare_1_l1 t n n a1 a2 a3 a1 (a1.length : Int) 0 with
 | some (.inl a4) =>
 some a4
 | some (.inr (a5, a6, a7, a8, a9, a10, a11)) =>
 slices_CompareFunc_value_compare_1_j2 t n  a5 a6
 | none => none)
def cmp_isNaN_int (t : Tab) (n : Nat) : Int → Option Bool
 | a1 =>
 some (a1 != a1)
def value_compare_1 (t : Tab) (n : Nat) : GValue → GValue → Int → Option Int
 | ⟨a1, a2, a3, a4, a5⟩, ⟨a6, a7, a8, a9, a10⟩, a11 =>
 t.value_compare (GValue.mk a1 a2 a3 a4 a5) (GValue.mk a6 a7 a8 a9 a10) (IntKind.wrap .i64 (a11 + 1))
def tab : Nat → Tab
 | 0 => ⟨fun _ _ => none,
 fun _ => none,
 none,
 fun _ _ => none,
 fun _ => none,
 fun _ => none,
 fun _ _ => none,
 fun _ _ _ => none,
 fun _ _ => none,
 fun _ _ => none,
 fun _ => none,
 fun _ _ => none,
 fun _ _ => none,
 fun _ _ => none,
 fun _ _ => none,
 fun _ _ => none,
 fun _ _ => none,
 fun _ _ => none,
 fun _ => none,
 fun _ _ => none,
 fun _ => none,
 fun _ => none,
 fun _ => none,
 fun _ => none,
 fun _ _ => none,
 fun _ _ _ => none,
 fun _ => none,
 fun _ => none,
 fun _ => none,
 fun _ => none,
 fun _ => none,
 fun _ _ _ => none,
 fun _ _ _ => none,
 fun _ _ => none,
 fun _ _ => none,
 fun _ _ => none,
 fun _ _ => none,
 fun _ _ => none,
 fun _ _ => none,
 fun _ _ => none,
 fun _ _ => none,
 fun _ _ => none,
 fun _ _ => none,
 fun _ => none,
 fun _ => none,
 fun _ => none,
 fun _ _ => none,
 fun _ _ => none,
 fun _ _ => none,
 fun _ _ => none,
 fun _ _ _ => none,
 fun _ _ => none,
 fun _ _ => none,
 fun _ _ => none,
 fun _ _ => none,
 fun _ _ => none,
 fun _ => none,
 fun _ _ => none,
 fun _ _ _ => none,
 fun _ _ => none,
 fun _ _ => none,
 fun _ => none,
 fun _ _ _ => none,
 fun _ => none,
 fun _ _ => none,
 fun _ _ _ => none⟩
 | n + 1 => ⟨law12_PlanSame (tab n) n,
 law12_much (tab n) n,
 some true,
 plan_Same (tab n) n,
 plan_Copy (tab n) n,
 ref12_Check (tab n) n,
 ref12_Same (tab n) n,
 ref12_Much (tab n) n,
 slices_EqualFunc_plan_Same_1 (tab n) n,
 plan_copied (tab n) n,
 ref12_Steps (tab n) n,
 ref12_right (tab n) n,
 ref12_sameTexts (tab n) n,
 ref12_sameNumbers (tab n) n,
 ref02_Same (tab n) n,
 ref09_Same (tab n) n,
 ref02_Count (tab n) n,
 ref09_Count (tab n) n,
 ref12_Inner (tab n) n,
 plan_Same_1 (tab n) n,
 fun a => if decide (a.length * 16 ≤ 140737488355328) = true then some a else none,
 fun a => if decide (a.length * 8 ≤ 140737488355328) = true then some a else none,
 value_Copy (tab n) n,
 pred_Copy (tab n) n,
 plan_plans (tab n) n,
 ref12_steps (tab n) n,
 ref12_own (tab n) n,
 ref12_named (tab n) n,
 ref02_Check (tab n) n,
 ref09_Check (tab n) n,
 ref12_Name (tab n) n,
 ref12_by (tab n) n,
 ref02_compare (tab n) n,
 ref02_SameRows (tab n) n,
 ref02_Many (tab n) n,
 slices_Equal_string (tab n) n,
 slices_Equal_int (tab n) n,
 value_Same (tab n) n,
 plan_samePred (tab n) n,
 slices_EqualFunc_plan_Same (tab n) n,
 slices_EqualFunc_plan_sameBy (tab n) n,
 value_part (tab n) n,
 pred_part (tab n) n,
 ref12_low (tab n) n,
 ref12_once (tab n) n,
 ref05_Name (tab n) n,
 ref02_right (tab n) n,
 ref09_right (tab n) n,
 ref02_sign (tab n) n,
 ref02_texts (tab n) n,
 ref02_rows (tab n) n,
 value_Cmp (tab n) n,
 slices_EqualFunc_value_Same (tab n) n,
 slices_EqualFunc_plan_samePred (tab n) n,
 plan_sameBy (tab n) n,
 value_copied (tab n) n,
 ref02_fields (tab n) n,
 ref02_Cmp (tab n) n,
 value_compare (tab n) n,
 cmp_Compare_int (tab n) n,
 strings_Compare (tab n) n,
 cmp_Or_int (tab n) n,
 slices_CompareFunc_value_compare_1 (tab n) n,
 cmp_isNaN_int (tab n) n,
 fun a b => some (Lib.compareBytes a.data.toList b.data.toList),
 value_compare_1 (tab n) n⟩
end Go.Proofs.YtgkfjhfehdefaaaGreatDoor.W
