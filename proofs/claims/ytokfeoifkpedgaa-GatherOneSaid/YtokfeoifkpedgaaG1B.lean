/- The functions of this program, over plain data. -/
import Derived.Test.YtokfeoifkpedgaaG1A
import Derived.Lib.Bytealg
namespace Go.Proofs.Ytokfeoifkpedgaa.W
open Go.Proofs.Ytokfeoifkpedgaa.Flat
set_option linter.unusedVariables false
set_option linter.unusedSimpArgs false
structure Tab where
  law16_GatherOne : (List GMany) → Option Bool
  law16_many : (List GMany) → Option Bool
  law16_known : Option Bool
  gather_Sum : (List GMany) → Option (Int × Bool × Int)
  ref16_Sum : (List GMany) → Option (Int × Bool × Int)
  gather_Ends : (List GMany) → Option (GValue × GValue × Bool)
  ref16_Ends : (List GMany) → Option (GValue × GValue × Bool)
  gather_Fold : (List GMany) → Option (GValue × Int)
  ref16_Fold : (List GMany) → Option (GValue × Int)
  ref02_Same : GValue → GValue → Option Bool
  ref02_Count : GValue → Int → Option Int
  gather_size : (List GMany) → Option (Int × Int)
  gather_wide_add : Int → Int → Gwide → Option Gwide
  ref16_Size : (List GMany) → Option (Int × Int)
  ref01_Of : Int → Option GNum
  ref01_Num_Times : GNum → GNum → Option GNum
  ref01_Num_Plus : GNum → GNum → Option GNum
  ref01_Num_Int : GNum → Option (Int × Bool)
  slices_MinFunc_gather_Ends_1 : (List GMany) → Option GMany
  value_Copy : GValue → Option GValue
  slices_MaxFunc_gather_Ends_1 : (List GMany) → Option GMany
  ref02_Cmp : GValue → GValue → Option Int
  ref02_compare : GValue → GValue → Int → Option Int
  ints_Add : (List Int) → Option (Int × Int)
  math_bits_Mul64 : Int → Int → Option (Int × Int)
  math_bits_Add64 : Int → Int → Int → Option (Int × Int)
  ref01_Add : (List Int) → Option (Int × Int)
  ref01_trim : Bool → (List Int) → Option GNum
  ref01_digit : (List Int) → Int → Option Int
  ref01_size : (List Int) → (List Int) → Option Int
  gather_Ends_1 : GMany → GMany → Option Int
  value_part : GValue → Int → Option GValue
  ref02_sign : Int → Int → Option Int
  ref02_texts : ByteArray → ByteArray → Option Int
  ref02_rows : (List GValue) → (List GValue) → Int → Option Int
  ints_add : Int → Int → Option (Int × Bool)
  ref01_told : GNum → Option (Int × Int)
  value_Cmp : GValue → GValue → Option Int
  value_copied : (List GValue) → Int → Option (List GValue)
  value_compare : GValue → GValue → Int → Option Int
  cmp_Compare_int : Int → Int → Option Int
  strings_Compare : ByteArray → ByteArray → Option Int
  cmp_Or_int : (List Int) → Option Int
  slices_CompareFunc_value_compare_1 : (List GValue) → (List GValue) → Int → Option Int
  cmp_isNaN_int : Int → Option Bool
  bytealg_CompareString : ByteArray → ByteArray → Option Int
  value_compare_1 : GValue → GValue → Int → Option Int
def law16_GatherOne (t : Tab) (n : Nat) : (List GMany) → Option Bool
 | a1 =>
 (match t.law16_many a1 with
 | some a2 =>
 if a2 = true then
 t.law16_known 
 else
 (match t.gather_Sum a1 with
 | some (a4, a5, a6) =>
 (match t.ref16_Sum a1 with
 | some (a7, a8, a9) =>
 (match t.gather_Ends a1 with
 | some (⟨a10, a11, a12, a13, a14⟩, ⟨a15, a16, a17, a18, a19⟩, a20) =>
 (match t.ref16_Ends a1 with
 | some (⟨a21, a22, a23, a24, a25⟩, ⟨a26, a27, a28, a29, a30⟩, a31) =>
 (match t.gather_Fold a1 with
 | some (⟨a32, a33, a34, a35, a36⟩, a37) =>
 (match t.ref16_Fold a1 with
 | some (⟨a38, a39, a40, a41, a42⟩, a43) =>
 if (a4 == a7) = true then
 if (a5 == a8) = true then
 if (a6 == a9) = true then
 (match t.ref02_Same (GValue.mk a10 a11 a12 a13 a14) (GValue.mk a21 a22 a23 a24 a25) with
 | some a44 =>
 if a44 = true then
 (match t.ref02_Same (GValue.mk a15 a16 a17 a18 a19) (GValue.mk a26 a27 a28 a29 a30) with
 | some a45 =>
 if a45 = true then
 if (a20 == a31) = true then
 (match t.ref02_Same (GValue.mk a32 a33 a34 a35 a36) (GValue.mk a38 a39 a40 a41 a42) with
 | some a46 =>
 if a46 = true then
 if (a37 == a43) = true then
 t.law16_known 
 else
 some false
 else
 some false
 | none => none)
 else
 some false
 else
 some false
 | none => none)
 else
 some false
 | none => none)
 else
 some false
 else
 some false
 else
 some false
 | none => none)
 | none => none)
 | none => none)
 | none => none)
 | none => none)
 | none => none)
 | none => none)
def law16_many_j2 (t : Tab) (n : Nat) (a1 : List GMany) (a2 a3 : Int) : Option ((List GMany) × Int × Int) :=
 if (decide (0 ≤ (a3 : Int))) = true then
 (match a1[(a3 : Int).toNat]? with
 | some ⟨⟨a4, a5, a6, a7, a8⟩, a9⟩ =>
 (match t.ref02_Count (GValue.mk a4 a5 a6 a7 a8) 300 with
 | some a10 =>
 some (a1, (IntKind.wrap .i64 (a2 + a10)), (IntKind.wrap .i64 (a3 + 1)))
 | none => none)
 | none => none)
 else none
def law16_many_l1 (t : Tab) (n : Nat) : Nat → (List GMany) → Int → Int → Option ((List GMany) × Int × Int × Bool)
 | 0, _, _, _ => none
 | k + 1, a1, a2, a3 =>
 if (decide (a3 < (a1.length : Int))) = true then
 if (decide (a2 < 300)) = true then
 (match law16_many_j2 t n  a1 a2 a3 with
 | some (a4, a5, a6) =>
 law16_many_l1 t n k a4 a5 a6
 | none => none)
 else
 some (a1, a2, a3, (decide (a2 < 300)))
 else
 some (a1, a2, a3, false)
def law16_many (t : Tab) (n : Nat) : (List GMany) → Option Bool
 | a1 =>
 (match law16_many_l1 t n n a1 0 0 with
 | some (a2, a3, a4, a5) =>
 some (decide (a3 ≥ 300))
 | none => none)
def gather_Sum_l1 (t : Tab) (n : Nat) : Nat → (List GMany) → (List GMany) → Int → Int → Int → Int → Option ((Int × Bool × Int) ⊕ ((List GMany) × (List GMany) × Int × Int × Bool × Int × Int))
 | 0, _, _, _, _, _, _ => none
 | k + 1, a1, a2, a3, a4, a5, a6 =>
 if (decide (a4 < a3)) = true then
 if (decide (0 ≤ (a4 : Int))) = true then
 (match a2[(a4 : Int).toNat]? with
 | some ⟨⟨a7, a8, a9, a10, a11⟩, a12⟩ =>
 if (a7 != 2) = true then
 some (.inl (0, false, 160))
 else
 (match t.gather_wide_add a8 a12 (Gwide.mk a5 a6) with
 | some ⟨a13, a14⟩ =>
 gather_Sum_l1 t n k a1 a2 a3 (IntKind.wrap .i64 (a4 + 1)) a13 a14
 | none => none)
 | none => none)
 else none
 else
 some (.inr (a1, a2, a3, a4, (decide (a4 < a3)), a5, a6))
def gather_Sum_j2 (t : Tab) (n : Nat) (a1 : List GMany) (a2 a3 : Int) : Option (Int × Bool × Int) :=
 (match shrI .i64 (IntKind.wrap .i64 a3) 63 with
 | some a4 =>
 if (a2 == (IntKind.wrap .u64 a4)) = true then
 some ((IntKind.wrap .i64 a3), (decide ((a1.length : Int) > 0)), 0)
 else
 some (0, false, 10)
 | none => none)
def gather_Sum (t : Tab) (n : Nat) : (List GMany) → Option (Int × Bool × Int)
 | a1 =>
 (match t.gather_size a1 with
 | some (a2, a3) =>
 if (a3 != 0) = true then
 some (0, false, a3)
 else
 (match gather_Sum_l1 t n n a1 a1 (a1.length : Int) 0 0 0 with
 | some (.inl (a4, a5, a6)) =>
 some (a4, a5, a6)
 | some (.inr (a7, a8, a9, a10, a11, a12, a13)) =>
 gather_Sum_j2 t n  a7 a12 a13
 | none => none)
 | none => none)
def ref16_Sum_l1 (t : Tab) (n : Nat) : Nat → (List GMany) → Int → Bool → (List Int) → Option ((Int × Bool × Int) ⊕ ((List GMany) × Int × Bool × Bool × (List Int)))
 | 0, _, _, _, _ => none
 | k + 1, a1, a2, a3, a4 =>
 if (decide (a2 < (a1.length : Int))) = true then
 if (decide (0 ≤ (a2 : Int))) = true then
 (match a1[(a2 : Int).toNat]? with
 | some ⟨⟨a5, a6, a7, a8, a9⟩, a10⟩ =>
 if (a5 != 2) = true then
 some (.inl (0, false, 160))
 else
 (match t.ref01_Of a6 with
 | some ⟨a11, a12⟩ =>
 (match t.ref01_Of a10 with
 | some ⟨a13, a14⟩ =>
 (match t.ref01_Num_Times (GNum.mk a11 a12) (GNum.mk a13 a14) with
 | some ⟨a15, a16⟩ =>
 (match t.ref01_Num_Plus (GNum.mk a3 a4) (GNum.mk a15 a16) with
 | some ⟨a17, a18⟩ =>
 ref16_Sum_l1 t n k a1 (IntKind.wrap .i64 (a2 + 1)) a17 a18
 | none => none)
 | none => none)
 | none => none)
 | none => none)
 | none => none)
 else none
 else
 some (.inr (a1, a2, (decide (a2 < (a1.length : Int))), a3, a4))
def ref16_Sum_j2 (t : Tab) (n : Nat) (a1 : List GMany) (a2 : Bool) (a3 : List Int) : Option (Int × Bool × Int) :=
 (match t.ref01_Num_Int (GNum.mk a2 a3) with
 | some (a4, a5) =>
 if a5 = true then
 some (a4, (decide ((a1.length : Int) > 0)), 0)
 else
 some (0, false, 10)
 | none => none)
def ref16_Sum (t : Tab) (n : Nat) : (List GMany) → Option (Int × Bool × Int)
 | a1 =>
 (match t.ref16_Size a1 with
 | some (a2, a3) =>
 if (a3 != 0) = true then
 some (0, false, a3)
 else
 (match ref16_Sum_l1 t n n a1 0 false ([] : List Int) with
 | some (.inl (a4, a5, a6)) =>
 some (a4, a5, a6)
 | some (.inr (a7, a8, a9, a10, a11)) =>
 ref16_Sum_j2 t n  a7 a10 a11
 | none => none)
 | none => none)
def gather_Ends (t : Tab) (n : Nat) : (List GMany) → Option (GValue × GValue × Bool)
 | a1 =>
 if ((a1.length : Int) == 0) = true then
 some ((GValue.mk 0 0 ByteArray.empty ([] : List GValue) ([] : List GValue)), (GValue.mk 0 0 ByteArray.empty ([] : List GValue) ([] : List GValue)), false)
 else
 (match t.slices_MinFunc_gather_Ends_1 a1 with
 | some ⟨⟨a2, a3, a4, a5, a6⟩, a7⟩ =>
 (match t.value_Copy (GValue.mk a2 a3 a4 a5 a6) with
 | some ⟨a8, a9, a10, a11, a12⟩ =>
 (match t.slices_MaxFunc_gather_Ends_1 a1 with
 | some ⟨⟨a13, a14, a15, a16, a17⟩, a18⟩ =>
 (match t.value_Copy (GValue.mk a13 a14 a15 a16 a17) with
 | some ⟨a19, a20, a21, a22, a23⟩ =>
 some ((GValue.mk a8 a9 a10 a11 a12), (GValue.mk a19 a20 a21 a22 a23), true)
 | none => none)
 | none => none)
 | none => none)
 | none => none)
def ref16_Ends_j2 (t : Tab) (n : Nat) (a1 : List GMany) (a2 : Int) (a3 : Bool) (a4 a5 : Int) (a6 : ByteArray) (a7 a8 : List GValue) (a9 a10 : Int) (a11 : ByteArray) (a12 a13 : List GValue) (a14 a15 : Int) (a16 : ByteArray) (a17 a18 : List GValue) (a19 a20 : Int) (a21 : ByteArray) (a22 a23 : List GValue) : Option ((List GMany) × Int × Int × Int × ByteArray × (List GValue) × (List GValue) × Int × Int × ByteArray × (List GValue) × (List GValue) × Int × Int × ByteArray × (List GValue) × (List GValue) × Int × Int × ByteArray × (List GValue) × (List GValue)) :=
 if a3 = true then
 if (decide (0 ≤ (a2 : Int))) = true then
 (match a1[(a2 : Int).toNat]? with
 | some ⟨⟨a24, a25, a26, a27, a28⟩, a29⟩ =>
 some (a1, a2, a4, a5, a6, a7, a8, a9, a10, a11, a12, a13, a24, a25, a26, a27, a28, a19, a20, a21, a22, a23)
 | none => none)
 else none
 else
 some (a1, a2, a4, a5, a6, a7, a8, a9, a10, a11, a12, a13, a14, a15, a16, a17, a18, a19, a20, a21, a22, a23)
def ref16_Ends_j4 (t : Tab) (n : Nat) (a1 : List GMany) (a2 : Int) (a3 : Bool) (a4 a5 : Int) (a6 : ByteArray) (a7 a8 : List GValue) (a9 a10 : Int) (a11 : ByteArray) (a12 a13 : List GValue) (a14 a15 : Int) (a16 : ByteArray) (a17 a18 : List GValue) (a19 a20 : Int) (a21 : ByteArray) (a22 a23 : List GValue) : Option ((List GMany) × Int × Int × Int × ByteArray × (List GValue) × (List GValue) × Int × Int × ByteArray × (List GValue) × (List GValue) × Int × Int × ByteArray × (List GValue) × (List GValue) × Int × Int × ByteArray × (List GValue) × (List GValue)) :=
 if a3 = true then
 if (decide (0 ≤ (a2 : Int))) = true then
 (match a1[(a2 : Int).toNat]? with
 | some ⟨⟨a24, a25, a26, a27, a28⟩, a29⟩ =>
 some (a1, a2, a4, a5, a6, a7, a8, a9, a10, a11, a12, a13, a14, a15, a16, a17, a18, a24, a25, a26, a27, a28)
 | none => none)
 else none
 else
 some (a1, a2, a4, a5, a6, a7, a8, a9, a10, a11, a12, a13, a14, a15, a16, a17, a18, a19, a20, a21, a22, a23)
def ref16_Ends_j3 (t : Tab) (n : Nat) (a1 : List GMany) (a2 a3 a4 : Int) (a5 : ByteArray) (a6 a7 : List GValue) (a8 a9 : Int) (a10 : ByteArray) (a11 a12 : List GValue) (a13 a14 : Int) (a15 : ByteArray) (a16 a17 : List GValue) (a18 a19 : Int) (a20 : ByteArray) (a21 a22 : List GValue) : Option ((List GMany) × Int × Int × Int × ByteArray × (List GValue) × (List GValue) × Int × Int × ByteArray × (List GValue) × (List GValue) × Int × Int × ByteArray × (List GValue) × (List GValue) × Int × Int × ByteArray × (List GValue) × (List GValue)) :=
 if (a2 == 0) = true then
 ref16_Ends_j4 t n  a1 a2 true a3 a4 a5 a6 a7 a8 a9 a10 a11 a12 a13 a14 a15 a16 a17 a18 a19 a20 a21 a22
 else
 if (decide (0 ≤ (a2 : Int))) = true then
 (match a1[(a2 : Int).toNat]? with
 | some ⟨⟨a45, a46, a47, a48, a49⟩, a50⟩ =>
 (match t.ref02_Cmp (GValue.mk a45 a46 a47 a48 a49) (GValue.mk a18 a19 a20 a21 a22) with
 | some a51 =>
 ref16_Ends_j4 t n  a1 a2 (decide (a51 > 0)) a3 a4 a5 a6 a7 a8 a9 a10 a11 a12 a13 a14 a15 a16 a17 a18 a19 a20 a21 a22
 | none => none)
 | none => none)
 else none
def ref16_Ends_l1 (t : Tab) (n : Nat) : Nat → (List GMany) → Int → Int → Int → ByteArray → (List GValue) → (List GValue) → Int → Int → ByteArray → (List GValue) → (List GValue) → Int → Int → ByteArray → (List GValue) → (List GValue) → Int → Int → ByteArray → (List GValue) → (List GValue) → Option ((List GMany) × Int × Bool × Int × Int × ByteArray × (List GValue) × (List GValue) × Int × Int × ByteArray × (List GValue) × (List GValue) × Int × Int × ByteArray × (List GValue) × (List GValue) × Int × Int × ByteArray × (List GValue) × (List GValue))
 | 0, _, _, _, _, _, _, _, _, _, _, _, _, _, _, _, _, _, _, _, _, _, _ => none
 | k + 1, a1, a2, a3, a4, a5, a6, a7, a8, a9, a10, a11, a12, a13, a14, a15, a16, a17, a18, a19, a20, a21, a22 =>
 if (decide (a2 < (a1.length : Int))) = true then
 if (a2 == 0) = true then
 (match ref16_Ends_j2 t n  a1 a2 true a3 a4 a5 a6 a7 a8 a9 a10 a11 a12 a13 a14 a15 a16 a17 a18 a19 a20 a21 a22 with
 | some (a23, a24, a25, a26, a27, a28, a29, a30, a31, a32, a33, a34, a35, a36, a37, a38, a39, a40, a41, a42, a43, a44) =>
 (match ref16_Ends_j3 t n  a23 a24 a25 a26 a27 a28 a29 a30 a31 a32 a33 a34 a35 a36 a37 a38 a39 a40 a41 a42 a43 a44 with
 | some (a45, a46, a47, a48, a49, a50, a51, a52, a53, a54, a55, a56, a57, a58, a59, a60, a61, a62, a63, a64, a65, a66) =>
 ref16_Ends_l1 t n k a45 (IntKind.wrap .i64 (a46 + 1)) a47 a48 a49 a50 a51 a52 a53 a54 a55 a56 a57 a58 a59 a60 a61 a62 a63 a64 a65 a66
 | none => none)
 | none => none)
 else
 if (decide (0 ≤ (a2 : Int))) = true then
 (match a1[(a2 : Int).toNat]? with
 | some ⟨⟨a67, a68, a69, a70, a71⟩, a72⟩ =>
 (match t.ref02_Cmp (GValue.mk a67 a68 a69 a70 a71) (GValue.mk a13 a14 a15 a16 a17) with
 | some a73 =>
 (match ref16_Ends_j2 t n  a1 a2 (decide (a73 < 0)) a3 a4 a5 a6 a7 a8 a9 a10 a11 a12 a13 a14 a15 a16 a17 a18 a19 a20 a21 a22 with
 | some (a74, a75, a76, a77, a78, a79, a80, a81, a82, a83, a84, a85, a86, a87, a88, a89, a90, a91, a92, a93, a94, a95) =>
 (match ref16_Ends_j3 t n  a74 a75 a76 a77 a78 a79 a80 a81 a82 a83 a84 a85 a86 a87 a88 a89 a90 a91 a92 a93 a94 a95 with
 | some (a96, a97, a98, a99, a100, a101, a102, a103, a104, a105, a106, a107, a108, a109, a110, a111, a112, a113, a114, a115, a116, a117) =>
 ref16_Ends_l1 t n k a96 (IntKind.wrap .i64 (a97 + 1)) a98 a99 a100 a101 a102 a103 a104 a105 a106 a107 a108 a109 a110 a111 a112 a113 a114 a115 a116 a117
 | none => none)
 | none => none)
 | none => none)
 | none => none)
 else none
 else
 some (a1, a2, (decide (a2 < (a1.length : Int))), a3, a4, a5, a6, a7, a8, a9, a10, a11, a12, a13, a14, a15, a16, a17, a18, a19, a20, a21, a22)
def ref16_Ends_j5 (t : Tab) (n : Nat) (a1 : List GMany) (a2 a3 : Int) (a4 : ByteArray) (a5 a6 : List GValue) (a7 a8 : Int) (a9 : ByteArray) (a10 a11 : List GValue) (a12 a13 : Int) (a14 : ByteArray) (a15 a16 : List GValue) (a17 a18 : Int) (a19 : ByteArray) (a20 a21 : List GValue) : Option (Bool × Int × Int × ByteArray × (List GValue) × (List GValue) × Int × Int × ByteArray × (List GValue) × (List GValue)) :=
 some ((decide ((a1.length : Int) > 0)), a12, a13, a14, a15, a16, a17, a18, a19, a20, a21)
def ref16_Ends (t : Tab) (n : Nat) : (List GMany) → Option (GValue × GValue × Bool)
 | a1 =>
 (match ref16_Ends_l1 t n n a1 0 0 0 ByteArray.empty ([] : List GValue) ([] : List GValue) 0 0 ByteArray.empty ([] : List GValue) ([] : List GValue) 0 0 ByteArray.empty ([] : List GValue) ([] : List GValue) 0 0 ByteArray.empty ([] : List GValue) ([] : List GValue) with
 | some (a2, a3, a4, a5, a6, a7, a8, a9, a10, a11, a12, a13, a14, a15, a16, a17, a18, a19, a20, a21, a22, a23, a24) =>
 (match ref16_Ends_j5 t n  a2 a5 a6 a7 a8 a9 a10 a11 a12 a13 a14 a15 a16 a17 a18 a19 a20 a21 a22 a23 a24 with
 | some (a25, a26, a27, a28, a29, a30, a31, a32, a33, a34, a35) =>
 some ((GValue.mk a26 a27 a28 a29 a30), (GValue.mk a31 a32 a33 a34 a35), a25)
 | none => none)
 | none => none)
def gather_Fold_l3 (t : Tab) (n : Nat) : Nat → (List GMany) → Int → Int → Int → Int → Int → Int → ByteArray → (List GValue) → (List GValue) → Int → Int → ByteArray → (List GValue) → (List GValue) → Int → Int → ByteArray → (List GValue) → (List GValue) → Int → Option ((List GMany) × Int × Int × Int × Int × Bool × Int × Int × ByteArray × (List GValue) × (List GValue) × Int × Int × ByteArray × (List GValue) × (List GValue) × Int × Int × ByteArray × (List GValue) × (List GValue) × Int)
 | 0, _, _, _, _, _, _, _, _, _, _, _, _, _, _, _, _, _, _, _, _, _ => none
 | k + 1, a1, a2, a3, a4, a5, a6, a7, a8, a9, a10, a11, a12, a13, a14, a15, a16, a17, a18, a19, a20, a21 =>
 if (decide (a5 < a4)) = true then
 (match t.value_Copy (GValue.mk a16 a17 a18 a19 a20) with
 | some ⟨a22, a23, a24, a25, a26⟩ =>
 if (a14.length + ([(GValue.mk a22 a23 a24 a25 a26)] : List GValue).length) * 80 ≤ 140737488355328 then
 gather_Fold_l3 t n k a1 a2 a3 a4 (IntKind.wrap .i64 (a5 + 1)) a6 a7 a8 a9 a10 a11 a12 a13 (a14 ++ ([(GValue.mk a22 a23 a24 a25 a26)] : List GValue)) a15 a16 a17 a18 a19 a20 a21
 else none
 | none => none)
 else
 some (a1, a2, a3, a4, a5, (decide (a5 < a4)), a6, a7, a8, a9, a10, a11, a12, a13, a14, a15, a16, a17, a18, a19, a20, a21)
def gather_Fold_l2 (t : Tab) (n : Nat) : Nat → (List GMany) → Int → Int → Int → Int → ByteArray → (List GValue) → (List GValue) → Int → Int → ByteArray → (List GValue) → (List GValue) → Option ((List GMany) × Int × Int × Bool × Int × Int × ByteArray × (List GValue) × (List GValue) × Int × Int × ByteArray × (List GValue) × (List GValue))
 | 0, _, _, _, _, _, _, _, _, _, _, _, _, _ => none
 | k + 1, a1, a2, a3, a4, a5, a6, a7, a8, a9, a10, a11, a12, a13 =>
 if (decide (a3 < a2)) = true then
 if (decide (0 ≤ (a3 : Int))) = true then
 (match a1[(a3 : Int).toNat]? with
 | some ⟨⟨a14, a15, a16, a17, a18⟩, a19⟩ =>
 (match gather_Fold_l3 t n n a1 a2 a3 a19 0 a4 a5 a6 a7 a8 a9 a10 a11 a12 a13 a14 a15 a16 a17 a18 a19 with
 | some (a20, a21, a22, a23, a24, a25, a26, a27, a28, a29, a30, a31, a32, a33, a34, a35, a36, a37, a38, a39, a40, a41) =>
 gather_Fold_l2 t n k a20 a21 (IntKind.wrap .i64 (a22 + 1)) a26 a27 a28 a29 a30 a31 a32 a33 a34 a35
 | none => none)
 | none => none)
 else none
 else
 some (a1, a2, a3, (decide (a3 < a2)), a4, a5, a6, a7, a8, a9, a10, a11, a12, a13)
def gather_Fold_j1 (t : Tab) (n : Nat) (a1 : List GMany) (a2 a3 a4 : Int) (a5 : ByteArray) (a6 a7 : List GValue) : Option (Int × Int × Int × ByteArray × (List GValue) × (List GValue)) :=
 if (a2 != 0) = true then
 some (a2, 0, 0, ByteArray.empty, ([] : List GValue), ([] : List GValue))
 else
 (match gather_Fold_l2 t n n a1 (a1.length : Int) 0 a3 a4 a5 a6 a7 6 0 ByteArray.empty ([] : List GValue) ([] : List GValue) with
 | some (a8, a9, a10, a11, a12, a13, a14, a15, a16, a17, a18, a19, a20, a21) =>
 some (0, a17, a18, a19, a20, a21)
 | none => none)
def gather_Fold (t : Tab) (n : Nat) : (List GMany) → Option (GValue × Int)
 | a1 =>
 (match t.gather_size a1 with
 | some (a2, a3) =>
 if (a3 == 0) = true then
 if (decide (a2 > 1000)) = true then
 (match gather_Fold_j1 t n  a1 3 0 0 ByteArray.empty ([] : List GValue) ([] : List GValue) with
 | some (a4, a5, a6, a7, a8, a9) =>
 some ((GValue.mk a5 a6 a7 a8 a9), a4)
 | none => none)
 else
 (match gather_Fold_j1 t n  a1 a3 0 0 ByteArray.empty ([] : List GValue) ([] : List GValue) with
 | some (a10, a11, a12, a13, a14, a15) =>
 some ((GValue.mk a11 a12 a13 a14 a15), a10)
 | none => none)
 else
 (match gather_Fold_j1 t n  a1 a3 0 0 ByteArray.empty ([] : List GValue) ([] : List GValue) with
 | some (a16, a17, a18, a19, a20, a21) =>
 some ((GValue.mk a17 a18 a19 a20 a21), a16)
 | none => none)
 | none => none)
def ref16_Fold_l2 (t : Tab) (n : Nat) : Nat → (List GMany) → Int → Int → Int → Int → ByteArray → (List GValue) → (List GValue) → Int → Int → ByteArray → (List GValue) → (List GValue) → Option ((List GMany) × Int × Int × Bool × Int × Int × ByteArray × (List GValue) × (List GValue) × Int × Int × ByteArray × (List GValue) × (List GValue))
 | 0, _, _, _, _, _, _, _, _, _, _, _, _, _ => none
 | k + 1, a1, a2, a3, a4, a5, a6, a7, a8, a9, a10, a11, a12, a13 =>
 if (decide (0 ≤ (a2 : Int))) = true then
 (match a1[(a2 : Int).toNat]? with
 | some ⟨⟨a14, a15, a16, a17, a18⟩, a19⟩ =>
 if (decide (a3 < a19)) = true then
 if (a12.length + ([(GValue.mk a14 a15 a16 a17 a18)] : List GValue).length) * 80 ≤ 140737488355328 then
 ref16_Fold_l2 t n k a1 a2 (IntKind.wrap .i64 (a3 + 1)) a4 a5 a6 a7 a8 a9 a10 a11 (a12 ++ ([(GValue.mk a14 a15 a16 a17 a18)] : List GValue)) a13
 else none
 else
 some (a1, a2, a3, (decide (a3 < a19)), a4, a5, a6, a7, a8, a9, a10, a11, a12, a13)
 | none => none)
 else none
def ref16_Fold_l1 (t : Tab) (n : Nat) : Nat → (List GMany) → Int → Int → Int → ByteArray → (List GValue) → (List GValue) → Int → Int → ByteArray → (List GValue) → (List GValue) → Option ((List GMany) × Int × Bool × Int × Int × ByteArray × (List GValue) × (List GValue) × Int × Int × ByteArray × (List GValue) × (List GValue))
 | 0, _, _, _, _, _, _, _, _, _, _, _, _ => none
 | k + 1, a1, a2, a3, a4, a5, a6, a7, a8, a9, a10, a11, a12 =>
 if (decide (a2 < (a1.length : Int))) = true then
 (match ref16_Fold_l2 t n n a1 a2 0 a3 a4 a5 a6 a7 a8 a9 a10 a11 a12 with
 | some (a13, a14, a15, a16, a17, a18, a19, a20, a21, a22, a23, a24, a25, a26) =>
 ref16_Fold_l1 t n k a13 (IntKind.wrap .i64 (a14 + 1)) a17 a18 a19 a20 a21 a22 a23 a24 a25 a26
 | none => none)
 else
 some (a1, a2, (decide (a2 < (a1.length : Int))), a3, a4, a5, a6, a7, a8, a9, a10, a11, a12)
def ref16_Fold (t : Tab) (n : Nat) : (List GMany) → Option (GValue × Int)
 | a1 =>
 (match t.ref16_Size a1 with
 | some (a2, a3) =>
 if (a3 != 0) = true then
 some ((GValue.mk 0 0 ByteArray.empty ([] : List GValue) ([] : List GValue)), a3)
 else
 if (decide (a2 > 1000)) = true then
 some ((GValue.mk 0 0 ByteArray.empty ([] : List GValue) ([] : List GValue)), 3)
 else
 (match ref16_Fold_l1 t n n a1 0 0 0 ByteArray.empty ([] : List GValue) ([] : List GValue) 6 0 ByteArray.empty ([] : List GValue) ([] : List GValue) with
 | some (a4, a5, a6, a7, a8, a9, a10, a11, a12, a13, a14, a15, a16) =>
 some ((GValue.mk a12 a13 a14 a15 a16), 0)
 | none => none)
 | none => none)
def ref02_Same (t : Tab) (n : Nat) : GValue → GValue → Option Bool
 | ⟨a1, a2, a3, a4, a5⟩, ⟨a6, a7, a8, a9, a10⟩ =>
 (match t.ref02_compare (GValue.mk a1 a2 a3 a4 a5) (GValue.mk a6 a7 a8 a9 a10) 1 with
 | some a11 =>
 some (a11 == 0)
 | none => none)
def ref02_Count_j2 (t : Tab) (n : Nat) (a1 a2 a3 a4 a5 : Int) (a6 : ByteArray) (a7 a8 : List GValue) : Option (Int × Int × Int × Int × Int × ByteArray × (List GValue) × (List GValue)) :=
 if (decide (0 ≤ (a3 : Int))) = true then
 (match a7[(a3 : Int).toNat]? with
 | some ⟨a9, a10, a11, a12, a13⟩ =>
 (match t.ref02_Count (GValue.mk a9 a10 a11 a12 a13) (IntKind.wrap .i64 (a1 - a2)) with
 | some a14 =>
 some (a1, (IntKind.wrap .i64 (a2 + a14)), (IntKind.wrap .i64 (a3 + 1)), a4, a5, a6, a7, a8)
 | none => none)
 | none => none)
 else none
def ref02_Count_l1 (t : Tab) (n : Nat) : Nat → Int → Int → Int → Int → Int → ByteArray → (List GValue) → (List GValue) → Option (Int × Int × Int × Bool × Int × Int × ByteArray × (List GValue) × (List GValue))
 | 0, _, _, _, _, _, _, _, _ => none
 | k + 1, a1, a2, a3, a4, a5, a6, a7, a8 =>
 if (decide (a3 < (a7.length : Int))) = true then
 if (decide (a2 < a1)) = true then
 (match ref02_Count_j2 t n  a1 a2 a3 a4 a5 a6 a7 a8 with
 | some (a9, a10, a11, a12, a13, a14, a15, a16) =>
 ref02_Count_l1 t n k a9 a10 a11 a12 a13 a14 a15 a16
 | none => none)
 else
 some (a1, a2, a3, (decide (a2 < a1)), a4, a5, a6, a7, a8)
 else
 some (a1, a2, a3, false, a4, a5, a6, a7, a8)
def ref02_Count_j5 (t : Tab) (n : Nat) (a1 a2 a3 a4 a5 : Int) (a6 : ByteArray) (a7 a8 : List GValue) : Option (Int × Int × Int × Int × Int × ByteArray × (List GValue) × (List GValue)) :=
 if (decide (0 ≤ (a3 : Int))) = true then
 (match a8[(a3 : Int).toNat]? with
 | some ⟨a9, a10, a11, a12, a13⟩ =>
 (match t.ref02_Count (GValue.mk a9 a10 a11 a12 a13) (IntKind.wrap .i64 (a1 - a2)) with
 | some a14 =>
 some (a1, (IntKind.wrap .i64 (a2 + a14)), (IntKind.wrap .i64 (a3 + 1)), a4, a5, a6, a7, a8)
 | none => none)
 | none => none)
 else none
def ref02_Count_l4 (t : Tab) (n : Nat) : Nat → Int → Int → Int → Int → Int → ByteArray → (List GValue) → (List GValue) → Option (Int × Int × Int × Bool × Int × Int × ByteArray × (List GValue) × (List GValue))
 | 0, _, _, _, _, _, _, _, _ => none
 | k + 1, a1, a2, a3, a4, a5, a6, a7, a8 =>
 if (decide (a3 < (a8.length : Int))) = true then
 if (decide (a2 < a1)) = true then
 (match ref02_Count_j5 t n  a1 a2 a3 a4 a5 a6 a7 a8 with
 | some (a9, a10, a11, a12, a13, a14, a15, a16) =>
 ref02_Count_l4 t n k a9 a10 a11 a12 a13 a14 a15 a16
 | none => none)
 else
 some (a1, a2, a3, (decide (a2 < a1)), a4, a5, a6, a7, a8)
 else
 some (a1, a2, a3, false, a4, a5, a6, a7, a8)
def ref02_Count_j6 (t : Tab) (n : Nat) (a1 a2 a3 : Int) (a4 : ByteArray) (a5 a6 : List GValue) : Option Int :=
 (match quoI .i64 (a4.size : Int) 20 with
 | some a7 =>
 some (IntKind.wrap .i64 (a1 + a7))
 | none => none)
def ref02_Count_j3 (t : Tab) (n : Nat) (a1 a2 a3 a4 : Int) (a5 : ByteArray) (a6 a7 : List GValue) : Option Int :=
 (match ref02_Count_l4 t n n a1 a2 0 a3 a4 a5 a6 a7 with
 | some (a8, a9, a10, a11, a12, a13, a14, a15, a16) =>
 ref02_Count_j6 t n  a9 a12 a13 a14 a15 a16
 | none => none)
def ref02_Count (t : Tab) (n : Nat) : GValue → Int → Option Int
 | ⟨a1, a2, a3, a4, a5⟩, a6 =>
 (match ref02_Count_l1 t n n a6 1 0 a1 a2 a3 a4 a5 with
 | some (a7, a8, a9, a10, a11, a12, a13, a14, a15) =>
 ref02_Count_j3 t n  a7 a8 a11 a12 a13 a14 a15
 | none => none)
def gather_size_l1 (t : Tab) (n : Nat) : Nat → (List Int) → (List GMany) → Int → Int → Option ((Int × Int) ⊕ ((List Int) × (List GMany) × Int × Int × Bool))
 | 0, _, _, _, _ => none
 | k + 1, a1, a2, a3, a4 =>
 if (decide (a4 < a3)) = true then
 if (decide (0 ≤ (a4 : Int))) = true then
 (match a2[(a4 : Int).toNat]? with
 | some ⟨⟨a5, a6, a7, a8, a9⟩, a10⟩ =>
 if (decide (a10 < 1)) = true then
 some (.inl (0, 2))
 else
 if (a1.length + ([a10] : List Int).length) * 8 ≤ 140737488355328 then
 gather_size_l1 t n k (a1 ++ ([a10] : List Int)) a2 a3 (IntKind.wrap .i64 (a4 + 1))
 else none
 | none => none)
 else none
 else
 some (.inr (a1, a2, a3, a4, (decide (a4 < a3))))
def gather_size_j2 (t : Tab) (n : Nat) (a1 : List Int) : Option (Int × Int) :=
 (match t.ints_Add a1 with
 | some (a2, a3) =>
 if (a3 != 0) = true then
 some (0, 3)
 else
 some (a2, 0)
 | none => none)
def gather_size (t : Tab) (n : Nat) : (List GMany) → Option (Int × Int)
 | a1 =>
 (match gather_size_l1 t n n ([] : List Int) a1 (a1.length : Int) 0 with
 | some (.inl (a2, a3)) =>
 some (a2, a3)
 | some (.inr (a4, a5, a6, a7, a8)) =>
 gather_size_j2 t n  a4
 | none => none)
def gather_wide_add_j1 (t : Tab) (n : Nat) (a1 a2 a3 a4 : Int) : Option (Int × Int) :=
 (match t.math_bits_Add64 a4 a2 0 with
 | some (a5, a6) =>
 (match t.math_bits_Add64 a3 a1 a6 with
 | some (a7, a8) =>
 some (a7, a5)
 | none => none)
 | none => none)
def gather_wide_add (t : Tab) (n : Nat) : Int → Int → Gwide → Option Gwide
 | a1, a2, ⟨a3, a4⟩ =>
 (match t.math_bits_Mul64 (IntKind.wrap .u64 a1) (IntKind.wrap .u64 a2) with
 | some (a5, a6) =>
 if (decide (a1 < 0)) = true then
 (match gather_wide_add_j1 t n  (IntKind.wrap .u64 (a5 - (IntKind.wrap .u64 a2))) a6 a3 a4 with
 | some (a7, a8) =>
 some (Gwide.mk a7 a8)
 | none => none)
 else
 (match gather_wide_add_j1 t n  a5 a6 a3 a4 with
 | some (a9, a10) =>
 some (Gwide.mk a9 a10)
 | none => none)
 | none => none)
def ref16_Size_l1 (t : Tab) (n : Nat) : Nat → (List GMany) → Int → Int → Option ((Int × Int) ⊕ ((List GMany) × Int × Int × Bool))
 | 0, _, _, _ => none
 | k + 1, a1, a2, a3 =>
 if (decide (a3 < (a1.length : Int))) = true then
 if (decide (0 ≤ (a3 : Int))) = true then
 (match a1[(a3 : Int).toNat]? with
 | some ⟨⟨a4, a5, a6, a7, a8⟩, a9⟩ =>
 if (decide (a9 < 1)) = true then
 some (.inl (0, 2))
 else
 ref16_Size_l1 t n k a1 a2 (IntKind.wrap .i64 (a3 + 1))
 | none => none)
 else none
 else
 some (.inr (a1, a2, a3, (decide (a3 < (a1.length : Int)))))
def ref16_Size_l3 (t : Tab) (n : Nat) : Nat → (List GMany) → Int → Int → Option ((Int × Int) ⊕ ((List GMany) × Int × Int × Bool))
 | 0, _, _, _ => none
 | k + 1, a1, a2, a3 =>
 if (decide (a3 < (a1.length : Int))) = true then
 if (decide (0 ≤ (a3 : Int))) = true then
 (match a1[(a3 : Int).toNat]? with
 | some ⟨⟨a4, a5, a6, a7, a8⟩, a9⟩ =>
 (match t.ref01_Add ([a2, a9] : List Int) with
 | some (a10, a11) =>
 if (a11 != 0) = true then
 some (.inl (0, 3))
 else
 ref16_Size_l3 t n k a1 a10 (IntKind.wrap .i64 (a3 + 1))
 | none => none)
 | none => none)
 else none
 else
 some (.inr (a1, a2, a3, (decide (a3 < (a1.length : Int)))))
def ref16_Size_j2 (t : Tab) (n : Nat) (a1 : List GMany) (a2 : Int) : Option (Int × Int) :=
 (match ref16_Size_l3 t n n a1 a2 0 with
 | some (.inl (a3, a4)) =>
 some (a3, a4)
 | some (.inr (a5, a6, a7, a8)) =>
 some (a6, 0)
 | none => none)
def ref16_Size (t : Tab) (n : Nat) : (List GMany) → Option (Int × Int)
 | a1 =>
 (match ref16_Size_l1 t n n a1 0 0 with
 | some (.inl (a2, a3)) =>
 some (a2, a3)
 | some (.inr (a4, a5, a6, a7)) =>
 ref16_Size_j2 t n  a4 a5
 | none => none)
def ref01_Of_j2 (t : Tab) (n : Nat) (a1 : Int) (a2 : List Int) (a3 a4 : Int) (a5 : Bool) (a6 : List Int) : Option (Int × (List Int) × Int × Bool × (List Int)) :=
 if (a2.length + ([a4] : List Int).length) * 8 ≤ 140737488355328 then
 (match quoI .i64 a3 10 with
 | some a7 =>
 some (a1, (a2 ++ ([a4] : List Int)), a7, a5, a6)
 | none => none)
 else none
def ref01_Of_l1 (t : Tab) (n : Nat) : Nat → Int → (List Int) → Int → Bool → (List Int) → Option (Int × (List Int) × Int × Bool × Bool × (List Int))
 | 0, _, _, _, _, _ => none
 | k + 1, a1, a2, a3, a4, a5 =>
 if (a3 != 0) = true then
 (match remI .i64 a3 10 with
 | some a6 =>
 if (decide (a6 < 0)) = true then
 (match ref01_Of_j2 t n  a1 a2 a3 (IntKind.wrap .i64 (0 - a6)) a4 a5 with
 | some (a7, a8, a9, a10, a11) =>
 ref01_Of_l1 t n k a7 a8 a9 a10 a11
 | none => none)
 else
 (match ref01_Of_j2 t n  a1 a2 a3 a6 a4 a5 with
 | some (a12, a13, a14, a15, a16) =>
 ref01_Of_l1 t n k a12 a13 a14 a15 a16
 | none => none)
 | none => none)
 else
 some (a1, a2, a3, (a3 != 0), a4, a5)
def ref01_Of_j3 (t : Tab) (n : Nat) (a1 : Int) (a2 : List Int) (a3 : Bool) (a4 : List Int) : Option (Bool × (List Int)) :=
 (match t.ref01_trim (decide (a1 < 0)) a2 with
 | some ⟨a5, a6⟩ =>
 some (a5, a6)
 | none => none)
def ref01_Of (t : Tab) (n : Nat) : Int → Option GNum
 | a1 =>
 (match ref01_Of_l1 t n n a1 ([] : List Int) a1 false ([] : List Int) with
 | some (a2, a3, a4, a5, a6, a7) =>
 (match ref01_Of_j3 t n  a2 a3 a6 a7 with
 | some (a8, a9) =>
 some (GNum.mk a8 a9)
 | none => none)
 | none => none)
def ref01_Num_Times_j3 (t : Tab) (n : Nat) (a1 : List Int) (a2 a3 a4 : Int) (a5 : Bool) (a6 : List Int) (a7 : Bool) (a8 : List Int) (a9 : Bool) (a10 : List Int) : Option ((List Int) × Int × Int × Int × Bool × (List Int) × Bool × (List Int) × Bool × (List Int)) :=
 if (decide (0 ≤ ((IntKind.wrap .i64 (a2 + a4)) : Int))) = true then
 (match a1[((IntKind.wrap .i64 (a2 + a4)) : Int).toNat]? with
 | some a11 =>
 if (decide (0 ≤ (a2 : Int))) = true then
 (match a6[(a2 : Int).toNat]? with
 | some a12 =>
 (match t.ref01_digit a8 a4 with
 | some a13 =>
 (match remI .i64 (IntKind.wrap .i64 ((IntKind.wrap .i64 (a11 + (IntKind.wrap .i64 (a12 * a13)))) + a3)) 10 with
 | some a14 =>
 (match quoI .i64 (IntKind.wrap .i64 ((IntKind.wrap .i64 (a11 + (IntKind.wrap .i64 (a12 * a13)))) + a3)) 10 with
 | some a15 =>
 some ((a1.set ((IntKind.wrap .i64 (a2 + a4)) : Int).toNat a14), a2, a15, (IntKind.wrap .i64 (a4 + 1)), a5, a6, a7, a8, a9, a10)
 | none => none)
 | none => none)
 | none => none)
 | none => none)
 else none
 | none => none)
 else none
def ref01_Num_Times_l2 (t : Tab) (n : Nat) : Nat → (List Int) → Int → Int → Int → Bool → (List Int) → Bool → (List Int) → Bool → (List Int) → Option ((List Int) × Int × Int × Int × Bool × Bool × (List Int) × Bool × (List Int) × Bool × (List Int))
 | 0, _, _, _, _, _, _, _, _, _, _ => none
 | k + 1, a1, a2, a3, a4, a5, a6, a7, a8, a9, a10 =>
 if (decide (a4 < (a8.length : Int))) = true then
 (match ref01_Num_Times_j3 t n  a1 a2 a3 a4 a5 a6 a7 a8 a9 a10 with
 | some (a11, a12, a13, a14, a15, a16, a17, a18, a19, a20) =>
 ref01_Num_Times_l2 t n k a11 a12 a13 a14 a15 a16 a17 a18 a19 a20
 | none => none)
 else
 if (decide (a3 > 0)) = true then
 (match ref01_Num_Times_j3 t n  a1 a2 a3 a4 a5 a6 a7 a8 a9 a10 with
 | some (a21, a22, a23, a24, a25, a26, a27, a28, a29, a30) =>
 ref01_Num_Times_l2 t n k a21 a22 a23 a24 a25 a26 a27 a28 a29 a30
 | none => none)
 else
 some (a1, a2, a3, a4, (decide (a3 > 0)), a5, a6, a7, a8, a9, a10)
def ref01_Num_Times_l1 (t : Tab) (n : Nat) : Nat → (List Int) → Int → Bool → (List Int) → Bool → (List Int) → Bool → (List Int) → Option ((List Int) × Int × Bool × Bool × (List Int) × Bool × (List Int) × Bool × (List Int))
 | 0, _, _, _, _, _, _, _, _ => none
 | k + 1, a1, a2, a3, a4, a5, a6, a7, a8 =>
 if (decide (a2 < (a4.length : Int))) = true then
 (match ref01_Num_Times_l2 t n n a1 a2 0 0 a3 a4 a5 a6 a7 a8 with
 | some (a9, a10, a11, a12, a13, a14, a15, a16, a17, a18, a19) =>
 ref01_Num_Times_l1 t n k a9 (IntKind.wrap .i64 (a10 + 1)) a14 a15 a16 a17 a18 a19
 | none => none)
 else
 some (a1, a2, (decide (a2 < (a4.length : Int))), a3, a4, a5, a6, a7, a8)
def ref01_Num_Times_j4 (t : Tab) (n : Nat) (a1 : List Int) (a2 : Bool) (a3 : List Int) (a4 : Bool) (a5 : List Int) (a6 : Bool) (a7 : List Int) : Option (Bool × (List Int)) :=
 (match t.ref01_trim (!(a2 == a4)) a1 with
 | some ⟨a8, a9⟩ =>
 some (a8, a9)
 | none => none)
def ref01_Num_Times (t : Tab) (n : Nat) : GNum → GNum → Option GNum
 | ⟨a1, a2⟩, ⟨a3, a4⟩ =>
 if (decide (0 ≤ ((IntKind.wrap .i64 ((IntKind.wrap .i64 ((a2.length : Int) + (a4.length : Int))) + 1)) : Int) ∧ ((IntKind.wrap .i64 ((IntKind.wrap .i64 ((a2.length : Int) + (a4.length : Int))) + 1)) : Int) ≤ ((IntKind.wrap .i64 ((IntKind.wrap .i64 ((a2.length : Int) + (a4.length : Int))) + 1)) : Int) ∧ ((8 : Nat) : Int) * ((IntKind.wrap .i64 ((IntKind.wrap .i64 ((a2.length : Int) + (a4.length : Int))) + 1)) : Int) ≤ 281474976710656 ∧ ((IntKind.wrap .i64 ((IntKind.wrap .i64 ((a2.length : Int) + (a4.length : Int))) + 1)) : Int) ≤ 9223372036854775807)) = true then
 (match ref01_Num_Times_l1 t n n (List.replicate ((IntKind.wrap .i64 ((IntKind.wrap .i64 ((a2.length : Int) + (a4.length : Int))) + 1)) : Int).toNat (0 : Int)) 0 a1 a2 a3 a4 false ([] : List Int) with
 | some (a5, a6, a7, a8, a9, a10, a11, a12, a13) =>
 (match ref01_Num_Times_j4 t n  a5 a8 a9 a10 a11 a12 a13 with
 | some (a14, a15) =>
 some (GNum.mk a14 a15)
 | none => none)
 | none => none)
 else none
def ref01_Num_Plus_j2 (t : Tab) (n : Nat) (a1 : List Int) (a2 a3 : Int) (a4 : Bool) (a5 : List Int) (a6 : Bool) (a7 : List Int) (a8 : Bool) (a9 : List Int) : Option ((List Int) × Int × Int × Bool × (List Int) × Bool × (List Int) × Bool × (List Int)) :=
 (match t.ref01_digit a5 a3 with
 | some a10 =>
 (match t.ref01_digit a7 a3 with
 | some a11 =>
 (match remI .i64 (IntKind.wrap .i64 ((IntKind.wrap .i64 (a10 + a11)) + a2)) 10 with
 | some a12 =>
 if (a1.length + ([a12] : List Int).length) * 8 ≤ 140737488355328 then
 (match quoI .i64 (IntKind.wrap .i64 ((IntKind.wrap .i64 (a10 + a11)) + a2)) 10 with
 | some a13 =>
 some ((a1 ++ ([a12] : List Int)), a13, (IntKind.wrap .i64 (a3 + 1)), a4, a5, a6, a7, a8, a9)
 | none => none)
 else none
 | none => none)
 | none => none)
 | none => none)
def ref01_Num_Plus_l1 (t : Tab) (n : Nat) : Nat → (List Int) → Int → Int → Bool → (List Int) → Bool → (List Int) → Bool → (List Int) → Option ((List Int) × Int × Int × Bool × Bool × (List Int) × Bool × (List Int) × Bool × (List Int))
 | 0, _, _, _, _, _, _, _, _, _ => none
 | k + 1, a1, a2, a3, a4, a5, a6, a7, a8, a9 =>
 if (decide (a3 < (a5.length : Int))) = true then
 (match ref01_Num_Plus_j2 t n  a1 a2 a3 a4 a5 a6 a7 a8 a9 with
 | some (a10, a11, a12, a13, a14, a15, a16, a17, a18) =>
 ref01_Num_Plus_l1 t n k a10 a11 a12 a13 a14 a15 a16 a17 a18
 | none => none)
 else
 if (decide (a3 < (a7.length : Int))) = true then
 (match ref01_Num_Plus_j2 t n  a1 a2 a3 a4 a5 a6 a7 a8 a9 with
 | some (a19, a20, a21, a22, a23, a24, a25, a26, a27) =>
 ref01_Num_Plus_l1 t n k a19 a20 a21 a22 a23 a24 a25 a26 a27
 | none => none)
 else
 if (decide (a2 > 0)) = true then
 (match ref01_Num_Plus_j2 t n  a1 a2 a3 a4 a5 a6 a7 a8 a9 with
 | some (a28, a29, a30, a31, a32, a33, a34, a35, a36) =>
 ref01_Num_Plus_l1 t n k a28 a29 a30 a31 a32 a33 a34 a35 a36
 | none => none)
 else
 some (a1, a2, a3, (decide (a2 > 0)), a4, a5, a6, a7, a8, a9)
def ref01_Num_Plus_j3 (t : Tab) (n : Nat) (a1 : List Int) (a2 : Bool) (a3 : List Int) (a4 : Bool) (a5 : List Int) : Option (Bool × (List Int)) :=
 (match t.ref01_trim a2 a1 with
 | some ⟨a6, a7⟩ =>
 some (a6, a7)
 | none => none)
def ref01_Num_Plus_j6 (t : Tab) (n : Nat) (a1 : List Int) (a2 a3 a4 : Int) (a5 : Bool) (a6 : List Int) (a7 : Bool) (a8 : List Int) (a9 : Bool) (a10 : List Int) : Option ((List Int) × Int × Int × Bool × (List Int) × Bool × (List Int) × Bool × (List Int)) :=
 if (a1.length + ([a4] : List Int).length) * 8 ≤ 140737488355328 then
 some ((a1 ++ ([a4] : List Int)), a2, a3, a5, a6, a7, a8, a9, a10)
 else none
def ref01_Num_Plus_l5 (t : Tab) (n : Nat) : Nat → (List Int) → Int → Int → Bool → (List Int) → Bool → (List Int) → Bool → (List Int) → Option ((List Int) × Int × Int × Bool × Bool × (List Int) × Bool × (List Int) × Bool × (List Int))
 | 0, _, _, _, _, _, _, _, _, _ => none
 | k + 1, a1, a2, a3, a4, a5, a6, a7, a8, a9 =>
 if (decide (a3 < (a7.length : Int))) = true then
 if (decide (0 ≤ (a3 : Int))) = true then
 (match a7[(a3 : Int).toNat]? with
 | some a10 =>
 (match t.ref01_digit a9 a3 with
 | some a11 =>
 if (decide ((IntKind.wrap .i64 ((IntKind.wrap .i64 (a10 - a11)) - a2)) < 0)) = true then
 (match ref01_Num_Plus_j6 t n  a1 1 a3 (IntKind.wrap .i64 ((IntKind.wrap .i64 ((IntKind.wrap .i64 (a10 - a11)) - a2)) + 10)) a4 a5 a6 a7 a8 a9 with
 | some (a12, a13, a14, a15, a16, a17, a18, a19, a20) =>
 ref01_Num_Plus_l5 t n k a12 a13 (IntKind.wrap .i64 (a14 + 1)) a15 a16 a17 a18 a19 a20
 | none => none)
 else
 (match ref01_Num_Plus_j6 t n  a1 0 a3 (IntKind.wrap .i64 ((IntKind.wrap .i64 (a10 - a11)) - a2)) a4 a5 a6 a7 a8 a9 with
 | some (a21, a22, a23, a24, a25, a26, a27, a28, a29) =>
 ref01_Num_Plus_l5 t n k a21 a22 (IntKind.wrap .i64 (a23 + 1)) a24 a25 a26 a27 a28 a29
 | none => none)
 | none => none)
 | none => none)
 else none
 else
 some (a1, a2, a3, (decide (a3 < (a7.length : Int))), a4, a5, a6, a7, a8, a9)
def ref01_Num_Plus_j7 (t : Tab) (n : Nat) (a1 : List Int) (a2 : Bool) (a3 : List Int) (a4 : Bool) (a5 : List Int) : Option (Bool × (List Int)) :=
 (match t.ref01_trim a4 a1 with
 | some ⟨a6, a7⟩ =>
 some (a6, a7)
 | none => none)
def ref01_Num_Plus_j4 (t : Tab) (n : Nat) (a1 : List Int) (a2 : Int) (a3 : Bool) (a4 : List Int) (a5 : Bool) (a6 : List Int) (a7 : Bool) (a8 : List Int) : Option (Bool × (List Int)) :=
 (match ref01_Num_Plus_l5 t n n a1 a2 0 a3 a4 a5 a6 a7 a8 with
 | some (a9, a10, a11, a12, a13, a14, a15, a16, a17, a18) =>
 ref01_Num_Plus_j7 t n  a9 a13 a14 a15 a16
 | none => none)
def ref01_Num_Plus (t : Tab) (n : Nat) : GNum → GNum → Option GNum
 | ⟨a1, a2⟩, ⟨a3, a4⟩ =>
 if (a1 == a3) = true then
 (match ref01_Num_Plus_l1 t n n ([] : List Int) 0 0 a1 a2 a3 a4 false ([] : List Int) with
 | some (a5, a6, a7, a8, a9, a10, a11, a12, a13, a14) =>
 (match ref01_Num_Plus_j3 t n  a5 a9 a10 a13 a14 with
 | some (a15, a16) =>
 some (GNum.mk a15 a16)
 | none => none)
 | none => none)
 else
 (match t.ref01_size a2 a4 with
 | some a17 =>
 if (decide (a17 < 0)) = true then
 (match ref01_Num_Plus_j4 t n  ([] : List Int) 0 false ([] : List Int) a3 a4 a1 a2 with
 | some (a18, a19) =>
 some (GNum.mk a18 a19)
 | none => none)
 else
 (match ref01_Num_Plus_j4 t n  ([] : List Int) 0 false ([] : List Int) a1 a2 a3 a4 with
 | some (a20, a21) =>
 some (GNum.mk a20 a21)
 | none => none)
 | none => none)
def ref01_Num_Int_j2 (t : Tab) (n : Nat) (a1 a2 : Int) (a3 : Bool) (a4 : List Int) : Option (Int × Int × Bool × (List Int)) :=
 if (decide (0 ≤ (a2 : Int))) = true then
 (match a4[(a2 : Int).toNat]? with
 | some a5 =>
 some ((IntKind.wrap .i64 ((IntKind.wrap .i64 (a1 * 10)) - a5)), a2, a3, a4)
 | none => none)
 else none
def ref01_Num_Int_l1 (t : Tab) (n : Nat) : Nat → Int → Int → Bool → (List Int) → Option ((Int × Bool) ⊕ (Int × Int × Bool × Bool × (List Int)))
 | 0, _, _, _, _ => none
 | k + 1, a1, a2, a3, a4 =>
 if (decide (a2 ≥ 0)) = true then
 if (decide (a1 < (-922337203685477580))) = true then
 some (.inl (0, false))
 else
 if (a1 == (-922337203685477580)) = true then
 if (decide (0 ≤ (a2 : Int))) = true then
 (match a4[(a2 : Int).toNat]? with
 | some a5 =>
 if (decide (a5 > 8)) = true then
 some (.inl (0, false))
 else
 (match ref01_Num_Int_j2 t n  a1 a2 a3 a4 with
 | some (a6, a7, a8, a9) =>
 ref01_Num_Int_l1 t n k a6 (IntKind.wrap .i64 (a7 - 1)) a8 a9
 | none => none)
 | none => none)
 else none
 else
 (match ref01_Num_Int_j2 t n  a1 a2 a3 a4 with
 | some (a10, a11, a12, a13) =>
 ref01_Num_Int_l1 t n k a10 (IntKind.wrap .i64 (a11 - 1)) a12 a13
 | none => none)
 else
 some (.inr (a1, a2, (decide (a2 ≥ 0)), a3, a4))
def ref01_Num_Int_j3 (t : Tab) (n : Nat) (a1 : Int) (a2 : Bool) (a3 : List Int) : Option (Int × Bool) :=
 if a2 = true then
 some (a1, true)
 else
 if (a1 == (-9223372036854775808)) = true then
 some (0, false)
 else
 some ((IntKind.wrap .i64 (0 - a1)), true)
def ref01_Num_Int (t : Tab) (n : Nat) : GNum → Option (Int × Bool)
 | ⟨a1, a2⟩ =>
 (match ref01_Num_Int_l1 t n n 0 (IntKind.wrap .i64 ((a2.length : Int) - 1)) a1 a2 with
 | some (.inl (a3, a4)) =>
 some (a3, a4)
 | some (.inr (a5, a6, a7, a8, a9)) =>
 ref01_Num_Int_j3 t n  a5 a8 a9
 | none => none)
def slices_MinFunc_gather_Ends_1_l2 (t : Tab) (n : Nat) : Nat → (List GMany) → Int → Int → Int → ByteArray → (List GValue) → (List GValue) → Int → Int → Int → ByteArray → (List GValue) → (List GValue) → Int → Option ((List GMany) × Int × Bool × Int × Int × ByteArray × (List GValue) × (List GValue) × Int × Int × Int × ByteArray × (List GValue) × (List GValue) × Int)
 | 0, _, _, _, _, _, _, _, _, _, _, _, _, _, _ => none
 | k + 1, a1, a2, a3, a4, a5, a6, a7, a8, a9, a10, a11, a12, a13, a14 =>
 if (decide (a2 < (a1.length : Int))) = true then
 if (decide (0 ≤ (a2 : Int))) = true then
 (match a1[(a2 : Int).toNat]? with
 | some ⟨⟨a15, a16, a17, a18, a19⟩, a20⟩ =>
 (match t.gather_Ends_1 (GMany.mk (GValue.mk a15 a16 a17 a18 a19) a20) (GMany.mk (GValue.mk a9 a10 a11 a12 a13) a14) with
 | some a21 =>
 if (decide (a21 < 0)) = true then
 slices_MinFunc_gather_Ends_1_l2 t n k a1 (IntKind.wrap .i64 (a2 + 1)) a3 a4 a5 a6 a7 a8 a15 a16 a17 a18 a19 a20
 else
 slices_MinFunc_gather_Ends_1_l2 t n k a1 (IntKind.wrap .i64 (a2 + 1)) a3 a4 a5 a6 a7 a8 a9 a10 a11 a12 a13 a14
 | none => none)
 | none => none)
 else none
 else
 some (a1, a2, (decide (a2 < (a1.length : Int))), a3, a4, a5, a6, a7, a8, a9, a10, a11, a12, a13, a14)
def slices_MinFunc_gather_Ends_1_j1 (t : Tab) (n : Nat) (a1 : List GMany) (a2 a3 : Int) (a4 : ByteArray) (a5 a6 : List GValue) (a7 : Int) : Option (Int × Int × ByteArray × (List GValue) × (List GValue) × Int) :=
 if (decide (0 ≤ (0 : Int))) = true then
 (match a1[(0 : Int).toNat]? with
 | some ⟨⟨a8, a9, a10, a11, a12⟩, a13⟩ =>
 (match slices_MinFunc_gather_Ends_1_l2 t n n a1 1 a2 a3 a4 a5 a6 a7 a8 a9 a10 a11 a12 a13 with
 | some (a14, a15, a16, a17, a18, a19, a20, a21, a22, a23, a24, a25, a26, a27, a28) =>
 some (a23, a24, a25, a26, a27, a28)
 | none => none)
 | none => none)
 else none
def slices_MinFunc_gather_Ends_1 (t : Tab) (n : Nat) : (List GMany) → Option GMany
 | a1 =>
 if (decide ((a1.length : Int) < 1)) = true then
 none
 else
 (match slices_MinFunc_gather_Ends_1_j1 t n  a1 0 0 ByteArray.empty ([] : List GValue) ([] : List GValue) 0 with
 | some (a2, a3, a4, a5, a6, a7) =>
 some (GMany.mk (GValue.mk a2 a3 a4 a5 a6) a7)
 | none => none)
def value_Copy (t : Tab) (n : Nat) : GValue → Option GValue
 | ⟨a1, a2, a3, a4, a5⟩ =>
 t.value_part (GValue.mk a1 a2 a3 a4 a5) 1
def slices_MaxFunc_gather_Ends_1_l2 (t : Tab) (n : Nat) : Nat → (List GMany) → Int → Int → Int → ByteArray → (List GValue) → (List GValue) → Int → Int → Int → ByteArray → (List GValue) → (List GValue) → Int → Option ((List GMany) × Int × Bool × Int × Int × ByteArray × (List GValue) × (List GValue) × Int × Int × Int × ByteArray × (List GValue) × (List GValue) × Int)
 | 0, _, _, _, _, _, _, _, _, _, _, _, _, _, _ => none
 | k + 1, a1, a2, a3, a4, a5, a6, a7, a8, a9, a10, a11, a12, a13, a14 =>
 if (decide (a2 < (a1.length : Int))) = true then
 if (decide (0 ≤ (a2 : Int))) = true then
 (match a1[(a2 : Int).toNat]? with
 | some ⟨⟨a15, a16, a17, a18, a19⟩, a20⟩ =>
 (match t.gather_Ends_1 (GMany.mk (GValue.mk a15 a16 a17 a18 a19) a20) (GMany.mk (GValue.mk a9 a10 a11 a12 a13) a14) with
 | some a21 =>
 if (decide (a21 > 0)) = true then
 slices_MaxFunc_gather_Ends_1_l2 t n k a1 (IntKind.wrap .i64 (a2 + 1)) a3 a4 a5 a6 a7 a8 a15 a16 a17 a18 a19 a20
 else
 slices_MaxFunc_gather_Ends_1_l2 t n k a1 (IntKind.wrap .i64 (a2 + 1)) a3 a4 a5 a6 a7 a8 a9 a10 a11 a12 a13 a14
 | none => none)
 | none => none)
 else none
 else
 some (a1, a2, (decide (a2 < (a1.length : Int))), a3, a4, a5, a6, a7, a8, a9, a10, a11, a12, a13, a14)
def slices_MaxFunc_gather_Ends_1_j1 (t : Tab) (n : Nat) (a1 : List GMany) (a2 a3 : Int) (a4 : ByteArray) (a5 a6 : List GValue) (a7 : Int) : Option (Int × Int × ByteArray × (List GValue) × (List GValue) × Int) :=
 if (decide (0 ≤ (0 : Int))) = true then
 (match a1[(0 : Int).toNat]? with
 | some ⟨⟨a8, a9, a10, a11, a12⟩, a13⟩ =>
 (match slices_MaxFunc_gather_Ends_1_l2 t n n a1 1 a2 a3 a4 a5 a6 a7 a8 a9 a10 a11 a12 a13 with
 | some (a14, a15, a16, a17, a18, a19, a20, a21, a22, a23, a24, a25, a26, a27, a28) =>
 some (a23, a24, a25, a26, a27, a28)
 | none => none)
 | none => none)
 else none
def slices_MaxFunc_gather_Ends_1 (t : Tab) (n : Nat) : (List GMany) → Option GMany
 | a1 =>
 if (decide ((a1.length : Int) < 1)) = true then
 none
 else
 (match slices_MaxFunc_gather_Ends_1_j1 t n  a1 0 0 ByteArray.empty ([] : List GValue) ([] : List GValue) 0 with
 | some (a2, a3, a4, a5, a6, a7) =>
 some (GMany.mk (GValue.mk a2 a3 a4 a5 a6) a7)
 | none => none)
def ref02_Cmp (t : Tab) (n : Nat) : GValue → GValue → Option Int
 | ⟨a1, a2, a3, a4, a5⟩, ⟨a6, a7, a8, a9, a10⟩ =>
 t.ref02_compare (GValue.mk a1 a2 a3 a4 a5) (GValue.mk a6 a7 a8 a9 a10) 1
def ref02_compare_j3 (t : Tab) (n : Nat) (a1 a2 : Int) (a3 : Bool) (a4 a5 : Int) (a6 : ByteArray) (a7 a8 : List GValue) (a9 a10 : Int) (a11 : ByteArray) (a12 a13 : List GValue) : Option (Int × Int × Int × Int × ByteArray × (List GValue) × (List GValue) × Int × Int × ByteArray × (List GValue) × (List GValue)) :=
 if a3 = true then
 (match t.ref02_rows a7 a12 (IntKind.wrap .i64 (a1 + 1)) with
 | some a14 =>
 some (a1, a14, a4, a5, a6, a7, a8, a9, a10, a11, a12, a13)
 | none => none)
 else
 some (a1, a2, a4, a5, a6, a7, a8, a9, a10, a11, a12, a13)
def ref02_compare_j5 (t : Tab) (n : Nat) (a1 a2 : Int) (a3 : Bool) (a4 a5 : Int) (a6 : ByteArray) (a7 a8 : List GValue) (a9 a10 : Int) (a11 : ByteArray) (a12 a13 : List GValue) : Option Int :=
 if a3 = true then
 t.ref02_rows a8 a13 (IntKind.wrap .i64 (a1 + 1))
 else
 some a2
def ref02_compare_j4 (t : Tab) (n : Nat) (a1 a2 a3 a4 : Int) (a5 : ByteArray) (a6 a7 : List GValue) (a8 a9 : Int) (a10 : ByteArray) (a11 a12 : List GValue) : Option Int :=
 if (a2 == 0) = true then
 ref02_compare_j5 t n  a1 a2 (decide (a1 ≤ 12)) a3 a4 a5 a6 a7 a8 a9 a10 a11 a12
 else
 ref02_compare_j5 t n  a1 a2 false a3 a4 a5 a6 a7 a8 a9 a10 a11 a12
def ref02_compare_j2 (t : Tab) (n : Nat) (a1 a2 a3 a4 : Int) (a5 : ByteArray) (a6 a7 : List GValue) (a8 a9 : Int) (a10 : ByteArray) (a11 a12 : List GValue) : Option Int :=
 if (a2 == 0) = true then
 (match ref02_compare_j3 t n  a1 a2 (decide (a1 ≤ 12)) a3 a4 a5 a6 a7 a8 a9 a10 a11 a12 with
 | some (a13, a14, a15, a16, a17, a18, a19, a20, a21, a22, a23, a24) =>
 ref02_compare_j4 t n  a13 a14 a15 a16 a17 a18 a19 a20 a21 a22 a23 a24
 | none => none)
 else
 (match ref02_compare_j3 t n  a1 a2 false a3 a4 a5 a6 a7 a8 a9 a10 a11 a12 with
 | some (a26, a27, a28, a29, a30, a31, a32, a33, a34, a35, a36, a37) =>
 ref02_compare_j4 t n  a26 a27 a28 a29 a30 a31 a32 a33 a34 a35 a36 a37
 | none => none)
def ref02_compare_j1 (t : Tab) (n : Nat) (a1 a2 a3 a4 : Int) (a5 : ByteArray) (a6 a7 : List GValue) (a8 a9 : Int) (a10 : ByteArray) (a11 a12 : List GValue) : Option Int :=
 if (a2 == 0) = true then
 (match t.ref02_texts a5 a10 with
 | some a13 =>
 ref02_compare_j2 t n  a1 a13 a3 a4 a5 a6 a7 a8 a9 a10 a11 a12
 | none => none)
 else
 ref02_compare_j2 t n  a1 a2 a3 a4 a5 a6 a7 a8 a9 a10 a11 a12
def ref02_compare (t : Tab) (n : Nat) : GValue → GValue → Int → Option Int
 | ⟨a1, a2, a3, a4, a5⟩, ⟨a6, a7, a8, a9, a10⟩, a11 =>
 (match t.ref02_sign a1 a6 with
 | some a12 =>
 if (a12 == 0) = true then
 (match t.ref02_sign a2 a7 with
 | some a13 =>
 ref02_compare_j1 t n  a11 a13 a1 a2 a3 a4 a5 a6 a7 a8 a9 a10
 | none => none)
 else
 ref02_compare_j1 t n  a11 a12 a1 a2 a3 a4 a5 a6 a7 a8 a9 a10
 | none => none)
def ints_Add_l1 (t : Tab) (n : Nat) : Nat → Int → (List Int) → Int → Int → Option ((Int × Int) ⊕ (Int × (List Int) × Int × Int × Bool))
 | 0, _, _, _, _ => none
 | k + 1, a1, a2, a3, a4 =>
 if (decide (a4 < a3)) = true then
 if (decide (0 ≤ (a4 : Int))) = true then
 (match a2[(a4 : Int).toNat]? with
 | some a5 =>
 (match t.ints_add a1 a5 with
 | some (a6, a7) =>
 if a7 = true then
 ints_Add_l1 t n k a6 a2 a3 (IntKind.wrap .i64 (a4 + 1))
 else
 some (.inl (0, 10))
 | none => none)
 | none => none)
 else none
 else
 some (.inr (a1, a2, a3, a4, (decide (a4 < a3))))
def ints_Add (t : Tab) (n : Nat) : (List Int) → Option (Int × Int)
 | a1 =>
 (match ints_Add_l1 t n n 0 a1 (a1.length : Int) 0 with
 | some (.inl (a2, a3)) =>
 some (a2, a3)
 | some (.inr (a4, a5, a6, a7, a8)) =>
 some (a4, 0)
 | none => none)
def math_bits_Mul64 (t : Tab) (n : Nat) : Int → Int → Option (Int × Int)
 | a1, a2 =>
 (match shrI .u64 a1 32 with
 | some a3 =>
 (match shrI .u64 a2 32 with
 | some a4 =>
 (match shrI .u64 (IntKind.wrap .u64 ((IntKind.wrap .u64 ((BitVec.ofInt 64 a1 &&& BitVec.ofInt 64 4294967295).toNat : Int)) * (IntKind.wrap .u64 ((BitVec.ofInt 64 a2 &&& BitVec.ofInt 64 4294967295).toNat : Int)))) 32 with
 | some a5 =>
 (match shrI .u64 (IntKind.wrap .u64 ((IntKind.wrap .u64 (a3 * (IntKind.wrap .u64 ((BitVec.ofInt 64 a2 &&& BitVec.ofInt 64 4294967295).toNat : Int)))) + a5)) 32 with
 | some a6 =>
 (match shrI .u64 (IntKind.wrap .u64 ((IntKind.wrap .u64 ((BitVec.ofInt 64 (IntKind.wrap .u64 ((IntKind.wrap .u64 (a3 * (IntKind.wrap .u64 ((BitVec.ofInt 64 a2 &&& BitVec.ofInt 64 4294967295).toNat : Int)))) + a5)) &&& BitVec.ofInt 64 4294967295).toNat : Int)) + (IntKind.wrap .u64 ((IntKind.wrap .u64 ((BitVec.ofInt 64 a1 &&& BitVec.ofInt 64 4294967295).toNat : Int)) * a4)))) 32 with
 | some a7 =>
 some ((IntKind.wrap .u64 ((IntKind.wrap .u64 ((IntKind.wrap .u64 (a3 * a4)) + a6)) + a7)), (IntKind.wrap .u64 (a1 * a2)))
 | none => none)
 | none => none)
 | none => none)
 | none => none)
 | none => none)
def ref01_Add_l1 (t : Tab) (n : Nat) : Nat → (List Int) → Int → Bool → (List Int) → Option ((Int × Int) ⊕ ((List Int) × Int × Bool × Bool × (List Int)))
 | 0, _, _, _, _ => none
 | k + 1, a1, a2, a3, a4 =>
 if (decide (a2 < (a1.length : Int))) = true then
 if (decide (0 ≤ (a2 : Int))) = true then
 (match a1[(a2 : Int).toNat]? with
 | some a5 =>
 (match t.ref01_Of a5 with
 | some ⟨a6, a7⟩ =>
 (match t.ref01_Num_Plus (GNum.mk a3 a4) (GNum.mk a6 a7) with
 | some ⟨a8, a9⟩ =>
 (match t.ref01_Num_Int (GNum.mk a8 a9) with
 | some (a10, a11) =>
 if a11 = true then
 ref01_Add_l1 t n k a1 (IntKind.wrap .i64 (a2 + 1)) a8 a9
 else
 some (.inl (0, 10))
 | none => none)
 | none => none)
 | none => none)
 | none => none)
 else none
 else
 some (.inr (a1, a2, (decide (a2 < (a1.length : Int))), a3, a4))
def ref01_Add_j2 (t : Tab) (n : Nat) (a1 : Bool) (a2 : List Int) : Option (Int × Int) :=
 t.ref01_told (GNum.mk a1 a2)
def ref01_Add (t : Tab) (n : Nat) : (List Int) → Option (Int × Int)
 | a1 =>
 (match ref01_Add_l1 t n n a1 0 false ([] : List Int) with
 | some (.inl (a2, a3)) =>
 some (a2, a3)
 | some (.inr (a4, a5, a6, a7, a8)) =>
 ref01_Add_j2 t n  a7 a8
 | none => none)
def ref01_trim_l1 (t : Tab) (n : Nat) : Nat → Bool → (List Int) → Int → Bool → (List Int) → Option (Bool × (List Int) × Int × Bool × Bool × (List Int))
 | 0, _, _, _, _, _ => none
 | k + 1, a1, a2, a3, a4, a5 =>
 if (decide (a3 > 0)) = true then
 if (decide (0 ≤ ((IntKind.wrap .i64 (a3 - 1)) : Int))) = true then
 (match a2[((IntKind.wrap .i64 (a3 - 1)) : Int).toNat]? with
 | some a6 =>
 if (a6 == 0) = true then
 ref01_trim_l1 t n k a1 a2 (IntKind.wrap .i64 (a3 - 1)) a4 a5
 else
 some (a1, a2, a3, (a6 == 0), a4, a5)
 | none => none)
 else none
 else
 some (a1, a2, a3, false, a4, a5)
def ref01_trim_j2 (t : Tab) (n : Nat) (a1 : Bool) (a2 : List Int) (a3 : Int) (a4 : Bool) (a5 : List Int) : Option (Bool × (List Int)) :=
 if a1 = true then
 if (decide (0 ≤ (0 : Int) ∧ (0 : Int) ≤ (a3 : Int) ∧ (a3 : Int) ≤ (a2.length : Int))) = true then
 some ((decide (a3 > 0)), ((a2.take (a3 : Int).toNat).drop (0 : Int).toNat))
 else none
 else
 if (decide (0 ≤ (0 : Int) ∧ (0 : Int) ≤ (a3 : Int) ∧ (a3 : Int) ≤ (a2.length : Int))) = true then
 some (false, ((a2.take (a3 : Int).toNat).drop (0 : Int).toNat))
 else none
def ref01_trim (t : Tab) (n : Nat) : Bool → (List Int) → Option GNum
 | a1, a2 =>
 (match ref01_trim_l1 t n n a1 a2 (a2.length : Int) false ([] : List Int) with
 | some (a3, a4, a5, a6, a7, a8) =>
 (match ref01_trim_j2 t n  a3 a4 a5 a7 a8 with
 | some (a9, a10) =>
 some (GNum.mk a9 a10)
 | none => none)
 | none => none)
def ref01_digit (t : Tab) (n : Nat) : (List Int) → Int → Option Int
 | a1, a2 =>
 if (decide (a2 < (a1.length : Int))) = true then
 if (decide (0 ≤ (a2 : Int))) = true then
 (match a1[(a2 : Int).toNat]? with
 | some a3 =>
 some a3
 | none => none)
 else none
 else
 some 0
def ref01_size_l1 (t : Tab) (n : Nat) : Nat → (List Int) → (List Int) → Int → Option (Int ⊕ ((List Int) × (List Int) × Int × Bool))
 | 0, _, _, _ => none
 | k + 1, a1, a2, a3 =>
 if (decide (a3 ≥ 0)) = true then
 if (decide (0 ≤ (a3 : Int))) = true then
 (match a1[(a3 : Int).toNat]? with
 | some a4 =>
 (match a2[(a3 : Int).toNat]? with
 | some a5 =>
 if (a4 != a5) = true then
 some (.inl (IntKind.wrap .i64 (a4 - a5)))
 else
 ref01_size_l1 t n k a1 a2 (IntKind.wrap .i64 (a3 - 1))
 | none => none)
 | none => none)
 else none
 else
 some (.inr (a1, a2, a3, (decide (a3 ≥ 0))))
def ref01_size (t : Tab) (n : Nat) : (List Int) → (List Int) → Option Int
 | a1, a2 =>
 if ((a1.length : Int) != (a2.length : Int)) = true then
 some (IntKind.wrap .i64 ((a1.length : Int) - (a2.length : Int)))
 else
 (match ref01_size_l1 t n n a1 a2 (IntKind.wrap .i64 ((a1.length : Int) - 1)) with
 | some (.inl a3) =>
 some a3
 | some (.inr (a4, a5, a6, a7)) =>
 some 0
 | none => none)
def gather_Ends_1 (t : Tab) (n : Nat) : GMany → GMany → Option Int
 | ⟨⟨a1, a2, a3, a4, a5⟩, a6⟩, ⟨⟨a7, a8, a9, a10, a11⟩, a12⟩ =>
 t.value_Cmp (GValue.mk a1 a2 a3 a4 a5) (GValue.mk a7 a8 a9 a10 a11)
def value_part (t : Tab) (n : Nat) : GValue → Int → Option GValue
 | ⟨a1, a2, a3, a4, a5⟩, a6 =>
 if (decide (a6 > 12)) = true then
 some (GValue.mk a1 a2 a3 ([] : List GValue) ([] : List GValue))
 else
 (match t.value_copied a4 (IntKind.wrap .i64 (a6 + 1)) with
 | some a7 =>
 (match t.value_copied a5 (IntKind.wrap .i64 (a6 + 1)) with
 | some a8 =>
 some (GValue.mk a1 a2 a3 a7 a8)
 | none => none)
 | none => none)
def ref02_sign (t : Tab) (n : Nat) : Int → Int → Option Int
 | a1, a2 =>
 if (decide (a1 < a2)) = true then
 some (-1)
 else
 if (decide (a1 > a2)) = true then
 some 1
 else
 some 0
def ref02_texts_j2 (t : Tab) (n : Nat) (a1 a2 : ByteArray) (a3 : Int) : Option (Int ⊕ (ByteArray × ByteArray × Int)) :=
 (match strAt a1 a3 with
 | some a4 =>
 (match strAt a2 a3 with
 | some a5 =>
 if (a4 != a5) = true then
 (match t.ref02_sign (IntKind.wrap .i64 a4) (IntKind.wrap .i64 a5) with
 | some a6 =>
 some (.inl a6)
 | none => none)
 else
 some (.inr (a1, a2, (IntKind.wrap .i64 (a3 + 1))))
 | none => none)
 | none => none)
def ref02_texts_l1 (t : Tab) (n : Nat) : Nat → ByteArray → ByteArray → Int → Option (Int ⊕ (ByteArray × ByteArray × Int × Bool))
 | 0, _, _, _ => none
 | k + 1, a1, a2, a3 =>
 if (decide (a3 < (a1.size : Int))) = true then
 if (decide (a3 < (a2.size : Int))) = true then
 (match ref02_texts_j2 t n  a1 a2 a3 with
 | some (.inl a4) =>
 some (.inl a4)
 | some (.inr (a5, a6, a7)) =>
 ref02_texts_l1 t n k a5 a6 a7
 | none => none)
 else
 some (.inr (a1, a2, a3, (decide (a3 < (a2.size : Int)))))
 else
 some (.inr (a1, a2, a3, false))
def ref02_texts_j3 (t : Tab) (n : Nat) (a1 a2 : ByteArray) : Option Int :=
 t.ref02_sign (a1.size : Int) (a2.size : Int)
def ref02_texts (t : Tab) (n : Nat) : ByteArray → ByteArray → Option Int
 | a1, a2 =>
 (match ref02_texts_l1 t n n a1 a2 0 with
 | some (.inl a3) =>
 some a3
 | some (.inr (a4, a5, a6, a7)) =>
 ref02_texts_j3 t n  a4 a5
 | none => none)
def ref02_rows_j2 (t : Tab) (n : Nat) (a1 a2 : List GValue) (a3 a4 : Int) : Option (Int ⊕ ((List GValue) × (List GValue) × Int × Int)) :=
 if (decide (0 ≤ (a4 : Int))) = true then
 (match a1[(a4 : Int).toNat]? with
 | some ⟨a5, a6, a7, a8, a9⟩ =>
 (match a2[(a4 : Int).toNat]? with
 | some ⟨a10, a11, a12, a13, a14⟩ =>
 (match t.ref02_compare (GValue.mk a5 a6 a7 a8 a9) (GValue.mk a10 a11 a12 a13 a14) a3 with
 | some a15 =>
 if (a15 != 0) = true then
 some (.inl a15)
 else
 some (.inr (a1, a2, a3, (IntKind.wrap .i64 (a4 + 1))))
 | none => none)
 | none => none)
 | none => none)
 else none
def ref02_rows_l1 (t : Tab) (n : Nat) : Nat → (List GValue) → (List GValue) → Int → Int → Option (Int ⊕ ((List GValue) × (List GValue) × Int × Int × Bool))
 | 0, _, _, _, _ => none
 | k + 1, a1, a2, a3, a4 =>
 if (decide (a4 < (a1.length : Int))) = true then
 if (decide (a4 < (a2.length : Int))) = true then
 (match ref02_rows_j2 t n  a1 a2 a3 a4 with
 | some (.inl a5) =>
 some (.inl a5)
 | some (.inr (a6, a7, a8, a9)) =>
 ref02_rows_l1 t n k a6 a7 a8 a9
 | none => none)
 else
 some (.inr (a1, a2, a3, a4, (decide (a4 < (a2.length : Int)))))
 else
 some (.inr (a1, a2, a3, a4, false))
def ref02_rows_j3 (t : Tab) (n : Nat) (a1 a2 : List GValue) : Option Int :=
 t.ref02_sign (a1.length : Int) (a2.length : Int)
def ref02_rows (t : Tab) (n : Nat) : (List GValue) → (List GValue) → Int → Option Int
 | a1, a2, a3 =>
 (match ref02_rows_l1 t n n a1 a2 a3 0 with
 | some (.inl a4) =>
 some a4
 | some (.inr (a5, a6, a7, a8, a9)) =>
 ref02_rows_j3 t n  a5 a6
 | none => none)
def ints_add (t : Tab) (n : Nat) : Int → Int → Option (Int × Bool)
 | a1, a2 =>
 some ((IntKind.wrap .i64 (a1 + a2)), ((decide ((IntKind.wrap .i64 (a1 + a2)) > a1)) == (decide (a2 > 0))))
def ref01_told (t : Tab) (n : Nat) : GNum → Option (Int × Int)
 | ⟨a1, a2⟩ =>
 (match t.ref01_Num_Int (GNum.mk a1 a2) with
 | some (a3, a4) =>
 if a4 = true then
 some (a3, 0)
 else
 some (0, 10)
 | none => none)
def value_Cmp (t : Tab) (n : Nat) : GValue → GValue → Option Int
 | ⟨a1, a2, a3, a4, a5⟩, ⟨a6, a7, a8, a9, a10⟩ =>
 t.value_compare (GValue.mk a1 a2 a3 a4 a5) (GValue.mk a6 a7 a8 a9 a10) 1
def value_copied_l1 (t : Tab) (n : Nat) : Nat → Int → (List GValue) → (List GValue) → Int → Int → Option (Int × (List GValue) × (List GValue) × Int × Int × Bool)
 | 0, _, _, _, _, _ => none
 | k + 1, a1, a2, a3, a4, a5 =>
 if (decide (a5 < a4)) = true then
 if (decide (0 ≤ (a5 : Int))) = true then
 (match a3[(a5 : Int).toNat]? with
 | some ⟨a6, a7, a8, a9, a10⟩ =>
 (match t.value_part (GValue.mk a6 a7 a8 a9 a10) a1 with
 | some ⟨a11, a12, a13, a14, a15⟩ =>
 if (a2.length + ([(GValue.mk a11 a12 a13 a14 a15)] : List GValue).length) * 80 ≤ 140737488355328 then
 value_copied_l1 t n k a1 (a2 ++ ([(GValue.mk a11 a12 a13 a14 a15)] : List GValue)) a3 a4 (IntKind.wrap .i64 (a5 + 1))
 else none
 | none => none)
 | none => none)
 else none
 else
 some (a1, a2, a3, a4, a5, (decide (a5 < a4)))
def value_copied (t : Tab) (n : Nat) : (List GValue) → Int → Option (List GValue)
 | a1, a2 =>
 (match value_copied_l1 t n n a2 ([] : List GValue) a1 (a1.length : Int) 0 with
 | some (a3, a4, a5, a6, a7, a8) =>
 some a4
 | none => none)
def value_compare_j1 (t : Tab) (n : Nat) (a1 a2 : Int) (a3 : ByteArray) (a4 a5 : List GValue) (a6 a7 : Int) (a8 : ByteArray) (a9 a10 : List GValue) (a11 : Int) : Option Int :=
 (match t.slices_CompareFunc_value_compare_1 a4 a9 a11 with
 | some a12 =>
 (match t.slices_CompareFunc_value_compare_1 a5 a10 a11 with
 | some a13 =>
 t.cmp_Or_int ([a12, a13] : List Int)
 | none => none)
 | none => none)
def value_compare (t : Tab) (n : Nat) : GValue → GValue → Int → Option Int
 | ⟨a1, a2, a3, a4, a5⟩, ⟨a6, a7, a8, a9, a10⟩, a11 =>
 (match t.cmp_Compare_int a1 a6 with
 | some a12 =>
 (match t.cmp_Compare_int a2 a7 with
 | some a13 =>
 (match t.strings_Compare a3 a8 with
 | some a14 =>
 (match t.cmp_Or_int ([a12, a13, a14] : List Int) with
 | some a15 =>
 if (a15 != 0) = true then
 some a15
 else
 if (decide (a11 > 12)) = true then
 some a15
 else
 value_compare_j1 t n  a1 a2 a3 a4 a5 a6 a7 a8 a9 a10 a11
 | none => none)
 | none => none)
 | none => none)
 | none => none)
def cmp_Compare_int (t : Tab) (n : Nat) : Int → Int → Option Int
 | a1, a2 =>
 (match t.cmp_isNaN_int a1 with
 | some a3 =>
 (match t.cmp_isNaN_int a2 with
 | some a4 =>
 if a3 = true then
 if a4 = true then
 some 0
 else
 some (-1)
 else
 if a4 = true then
 some 1
 else
 if (decide (a1 < a2)) = true then
 some (-1)
 else
 if (decide (a1 > a2)) = true then
 some 1
 else
 some 0
 | none => none)
 | none => none)
def strings_Compare (t : Tab) (n : Nat) : ByteArray → ByteArray → Option Int
 | a1, a2 =>
 t.bytealg_CompareString a1 a2
def cmp_Or_int_l1 (t : Tab) (n : Nat) : Nat → Int → (List Int) → Int → Int → Option (Int ⊕ (Int × (List Int) × Int × Int × Bool))
 | 0, _, _, _, _ => none
 | k + 1, a1, a2, a3, a4 =>
 if (decide (a4 < a3)) = true then
 if (decide (0 ≤ (a4 : Int))) = true then
 (match a2[(a4 : Int).toNat]? with
 | some a5 =>
 if (a5 != a1) = true then
 some (.inl a5)
 else
 cmp_Or_int_l1 t n k a1 a2 a3 (IntKind.wrap .i64 (a4 + 1))
 | none => none)
 else none
 else
 some (.inr (a1, a2, a3, a4, (decide (a4 < a3))))
def cmp_Or_int (t : Tab) (n : Nat) : (List Int) → Option Int
 | a1 =>
 (match cmp_Or_int_l1 t n n 0 a1 (a1.length : Int) 0 with
 | some (.inl a2) =>
 some a2
 | some (.inr (a3, a4, a5, a6, a7)) =>
 some a3
 | none => none)
def slices_CompareFunc_value_compare_1_l1 (t : Tab) (n : Nat) : Nat → (List GValue) → (List GValue) → Int → (List GValue) → Int → Int → Option (Int ⊕ ((List GValue) × (List GValue) × Int × (List GValue) × Int × Int × Bool))
 | 0, _, _, _, _, _, _ => none
 | k + 1, a1, a2, a3, a4, a5, a6 =>
 if (decide (a6 < a5)) = true then
 if (decide (0 ≤ (a6 : Int))) = true then
 (match a4[(a6 : Int).toNat]? with
 | some ⟨a7, a8, a9, a10, a11⟩ =>
 if (decide (a6 ≥ (a2.length : Int))) = true then
 some (.inl 1)
 else
 (match a2[(a6 : Int).toNat]? with
 | some ⟨a12, a13, a14, a15, a16⟩ =>
 (match t.value_compare_1 (GValue.mk a7 a8 a9 a10 a11) (GValue.mk a12 a13 a14 a15 a16) a3 with
 | some a17 =>
 if (a17 != 0) = true then
 some (.inl a17)
 else
 slices_CompareFunc_value_compare_1_l1 t n k a1 a2 a3 a4 a5 (IntKind.wrap .i64 (a6 + 1))
 | none => none)
 | none => none)
 | none => none)
 else none
 else
 some (.inr (a1, a2, a3, a4, a5, a6, (decide (a6 < a5))))
def slices_CompareFunc_value_compare_1_j2 (t : Tab) (n : Nat) (a1 a2 : List GValue) : Option Int :=
 if (decide ((a1.length : Int) < (a2.length : Int))) = true then
 some (-1)
 else
 some 0
def slices_CompareFunc_value_compare_1 (t : Tab) (n : Nat) : (List GValue) → (List GValue) → Int → Option Int
 | a1, a2, a3 =>
 (match slices_CompareFunc_value_compare_1_l1 t n n a1 a2 a3 a1 (a1.length : Int) 0 with
 | some (.inl a4) =>
 some a4
 | some (.inr (a5, a6, a7, a8, a9, a10, a11)) =>
 slices_CompareFunc_value_compare_1_j2 t n  a5 a6
 | none => none)
def cmp_isNaN_int (t : Tab) (n : Nat) : Int → Option Bool
 | a1 =>
 some (a1 != a1)
def value_compare_1 (t : Tab) (n : Nat) : GValue → GValue → Int → Option Int
 | ⟨a1, a2, a3, a4, a5⟩, ⟨a6, a7, a8, a9, a10⟩, a11 =>
 t.value_compare (GValue.mk a1 a2 a3 a4 a5) (GValue.mk a6 a7 a8 a9 a10) (IntKind.wrap .i64 (a11 + 1))
def tab : Nat → Tab
 | 0 => ⟨fun _ => none,
 fun _ => none,
 none,
 fun _ => none,
 fun _ => none,
 fun _ => none,
 fun _ => none,
 fun _ => none,
 fun _ => none,
 fun _ _ => none,
 fun _ _ => none,
 fun _ => none,
 fun _ _ _ => none,
 fun _ => none,
 fun _ => none,
 fun _ _ => none,
 fun _ _ => none,
 fun _ => none,
 fun _ => none,
 fun _ => none,
 fun _ => none,
 fun _ _ => none,
 fun _ _ _ => none,
 fun _ => none,
 fun _ _ => none,
 fun _ _ _ => none,
 fun _ => none,
 fun _ _ => none,
 fun _ _ => none,
 fun _ _ => none,
 fun _ _ => none,
 fun _ _ => none,
 fun _ _ => none,
 fun _ _ => none,
 fun _ _ _ => none,
 fun _ _ => none,
 fun _ => none,
 fun _ _ => none,
 fun _ _ => none,
 fun _ _ _ => none,
 fun _ _ => none,
 fun _ _ => none,
 fun _ => none,
 fun _ _ _ => none,
 fun _ => none,
 fun _ _ => none,
 fun _ _ _ => none⟩
 | n + 1 => ⟨law16_GatherOne (tab n) n,
 law16_many (tab n) n,
 some true,
 gather_Sum (tab n) n,
 ref16_Sum (tab n) n,
 gather_Ends (tab n) n,
 ref16_Ends (tab n) n,
 gather_Fold (tab n) n,
 ref16_Fold (tab n) n,
 ref02_Same (tab n) n,
 ref02_Count (tab n) n,
 gather_size (tab n) n,
 gather_wide_add (tab n) n,
 ref16_Size (tab n) n,
 ref01_Of (tab n) n,
 ref01_Num_Times (tab n) n,
 ref01_Num_Plus (tab n) n,
 ref01_Num_Int (tab n) n,
 slices_MinFunc_gather_Ends_1 (tab n) n,
 value_Copy (tab n) n,
 slices_MaxFunc_gather_Ends_1 (tab n) n,
 ref02_Cmp (tab n) n,
 ref02_compare (tab n) n,
 ints_Add (tab n) n,
 math_bits_Mul64 (tab n) n,
 fun a b c => if decide (0 ≤ a ∧ 0 ≤ b ∧ 0 ≤ c ∧ c ≤ 1) = true then some ((a + b + c) % 18446744073709551616, (a + b + c) / 18446744073709551616) else none,
 ref01_Add (tab n) n,
 ref01_trim (tab n) n,
 ref01_digit (tab n) n,
 ref01_size (tab n) n,
 gather_Ends_1 (tab n) n,
 value_part (tab n) n,
 ref02_sign (tab n) n,
 ref02_texts (tab n) n,
 ref02_rows (tab n) n,
 ints_add (tab n) n,
 ref01_told (tab n) n,
 value_Cmp (tab n) n,
 value_copied (tab n) n,
 value_compare (tab n) n,
 cmp_Compare_int (tab n) n,
 strings_Compare (tab n) n,
 cmp_Or_int (tab n) n,
 slices_CompareFunc_value_compare_1 (tab n) n,
 cmp_isNaN_int (tab n) n,
 fun a b => some (Lib.compareBytes a.data.toList b.data.toList),
 value_compare_1 (tab n) n⟩
end Go.Proofs.Ytokfeoifkpedgaa.W
