/- The functions of this program, over plain data. -/
import Derived.Test.YtcgckbjdadmcmaaQ4A
import Derived.Lib.Bytealg
namespace Go.Proofs.Ytcgckbjdadmcmaa.W
open Go.Proofs.Ytcgckbjdadmcmaa.Flat
set_option linter.unusedVariables false
set_option linter.unusedSimpArgs false
structure Tab where
  law09_PredTests : GPred → GValue → Option Bool
  law09_PredOthers : GPred → GValue → Option Bool
  law09_PredOrder : GValue → GValue → GValue → Option Bool
  law09_PredSets : (List GValue) → GValue → Option Bool
  law09_PredJoins : (List GPred) → GValue → Option Bool
  law09_PredRanges : GValue → GValue → GValue → Option Bool
  law09_much : GPred → (List GValue) → Option Bool
  law09_known : Option Bool
  pred_Check : GPred → Option Int
  ref09_Check : GPred → Option Int
  pred_Test : GPred → GValue → Option Bool
  ref09_Test : GPred → GValue → Option Bool
  pred_Negate : GPred → Option GPred
  ref09_Same : GPred → GPred → Option Bool
  ref02_Check : GValue → Option Int
  law09_one : Int → GValue → Option GPred
  ref02_Many : (List GValue) → Int → Option Int
  ref02_Same : GValue → GValue → Option Bool
  ref09_Count : GPred → Int → Option Int
  pred_Join : Int → (List GPred) → Option GPred
  pred_right : GPred → Int → Option Bool
  ref09_right : GPred → Int → Option Bool
  pred_test : GPred → GValue → Option Bool
  ref09_test : GPred → GValue → Option Bool
  pred_Copy : GPred → Option GPred
  pred_negate : GPred → Option GPred
  ref02_SameRows : (List GValue) → (List GValue) → Option Bool
  ref02_right : GValue → Int → Option Bool
  ref02_Count : GValue → Int → Option Int
  ref02_compare : GValue → GValue → Int → Option Int
  pred_arity : Int → Option (Int × Int × Int × Int)
  slices_ContainsFunc_pred_right_1 : (List GPred) → Int → Option Bool
  slices_ContainsFunc_pred_right_2 : (List GValue) → Option Bool
  slices_ContainsFunc_pred_test_3 : (List GValue) → GValue → Option Bool
  slices_ContainsFunc_pred_test_1 : (List GPred) → GValue → Option Bool
  slices_ContainsFunc_pred_test_2 : (List GPred) → GValue → Option Bool
  pred_test_2 : GPred → GValue → Option Bool
  pred_alike : GValue → (List GValue) → Option Bool
  pred_order : Int → GValue → (List GValue) → Option Bool
  ref02_Cmp : GValue → GValue → Option Int
  pred_part : GPred → Int → Option GPred
  pred_other : Int → Option (Int × Bool)
  ref02_fields : GValue → Option Bool
  ref02_sign : Int → Int → Option Int
  ref02_texts : ByteArray → ByteArray → Option Int
  ref02_rows : (List GValue) → (List GValue) → Int → Option Int
  slices_IndexFunc_pred_right_1 : (List GPred) → Int → Option Int
  slices_IndexFunc_pred_right_2 : (List GValue) → Option Int
  slices_IndexFunc_pred_test_3 : (List GValue) → GValue → Option Int
  slices_IndexFunc_pred_test_1 : (List GPred) → GValue → Option Int
  slices_IndexFunc_pred_test_2 : (List GPred) → GValue → Option Int
  slices_ContainsFunc_pred_alike_1 : (List GValue) → GValue → Option Bool
  value_Cmp : GValue → GValue → Option Int
  value_Copy : GValue → Option GValue
  pred_right_1 : GPred → Int → Option Bool
  pred_right_2 : GValue → Option Bool
  pred_test_3 : GValue → GValue → Option Bool
  pred_test_1 : GPred → GValue → Option Bool
  slices_IndexFunc_pred_alike_1 : (List GValue) → GValue → Option Int
  value_compare : GValue → GValue → Int → Option Int
  value_part : GValue → Int → Option GValue
  value_Check : GValue → Option Int
  value_Same : GValue → GValue → Option Bool
  pred_alike_1 : GValue → GValue → Option Bool
  cmp_Compare_int : Int → Int → Option Int
  strings_Compare : ByteArray → ByteArray → Option Int
  cmp_Or_int : (List Int) → Option Int
  slices_CompareFunc_value_compare_1 : (List GValue) → (List GValue) → Int → Option Int
  value_copied : (List GValue) → Int → Option (List GValue)
  value_plain : GValue → Int → Option Bool
  cmp_isNaN_int : Int → Option Bool
  bytealg_CompareString : ByteArray → ByteArray → Option Int
  value_compare_1 : GValue → GValue → Int → Option Int
  slices_Concat_Value : (List (List GValue)) → Option (List GValue)
  slices_Grow_Value : (List GValue) → Int → Option (List GValue)
def law09_PredTests (t : Tab) (n : Nat) : GPred → GValue → Option Bool
  | ⟨a1, a2, a3⟩, ⟨a4, a5, a6, a7, a8⟩ =>
    (match t.law09_much (GPred.mk a1 a2 a3) ([(GValue.mk a4 a5 a6 a7 a8)] : List GValue) with
    | some a9 =>
      if a9 = true then
        t.law09_known 
      else
        (match t.pred_Check (GPred.mk a1 a2 a3) with
        | some a11 =>
        (match t.ref09_Check (GPred.mk a1 a2 a3) with
        | some a12 =>
          if (a11 == a12) = true then
            (match t.pred_Test (GPred.mk a1 a2 a3) (GValue.mk a4 a5 a6 a7 a8) with
            | some a13 =>
            (match t.ref09_Test (GPred.mk a1 a2 a3) (GValue.mk a4 a5 a6 a7 a8) with
            | some a14 =>
              if (a13 == a14) = true then
                t.law09_known 
              else
                some false
            | none => none)
            | none => none)
          else
            some false
        | none => none)
        | none => none)
    | none => none)
def law09_PredOthers_j3 (t : Tab) (n : Nat) (a1 : Int) (a2 : List GValue) (a3 : List GPred) (a4 : Int) (a5 : Int) (a6 : ByteArray) (a7 : List GValue) (a8 : List GValue) : Option Bool :=
  (match t.pred_Check (GPred.mk 12 ([] : List GValue) ([(GPred.mk a1 a2 a3)] : List GPred)) with
  | some a9 =>
    if (a9 != 0) = true then
      t.law09_known 
    else
      (match t.pred_Test (GPred.mk 12 ([] : List GValue) ([(GPred.mk a1 a2 a3)] : List GPred)) (GValue.mk a4 a5 a6 a7 a8) with
      | some a11 =>
      (match t.pred_Test (GPred.mk a1 a2 a3) (GValue.mk a4 a5 a6 a7 a8) with
      | some a12 =>
        if (a11 == a12) = true then
          some false
        else
          (match t.pred_Negate (GPred.mk 12 ([] : List GValue) ([(GPred.mk a1 a2 a3)] : List GPred)) with
          | some ⟨a13, a14, a15⟩ =>
          (match t.ref09_Same (GPred.mk a13 a14 a15) (GPred.mk a1 a2 a3) with
          | some a16 =>
            if a16 = true then
              t.law09_known 
            else
              some false
          | none => none)
          | none => none)
      | none => none)
      | none => none)
  | none => none)
def law09_PredOthers_j2 (t : Tab) (n : Nat) (a1 : Int) (a2 : List GValue) (a3 : List GPred) (a4 : Int) (a5 : Int) (a6 : ByteArray) (a7 : List GValue) (a8 : List GValue) (a9 : Int) (a10 : List GValue) (a11 : List GPred) : Option Bool :=
  (match t.pred_Negate (GPred.mk a9 a10 a11) with
  | some ⟨a12, a13, a14⟩ =>
  (match t.pred_Check (GPred.mk a9 a10 a11) with
  | some a15 =>
    if (a15 == 0) = true then
      (match t.pred_Check (GPred.mk a12 a13 a14) with
      | some a16 =>
        if (a16 == 0) = true then
          (match t.pred_Test (GPred.mk a12 a13 a14) (GValue.mk a4 a5 a6 a7 a8) with
          | some a17 =>
          (match t.pred_Test (GPred.mk a1 a2 a3) (GValue.mk a4 a5 a6 a7 a8) with
          | some a18 =>
            if (a17 == a18) = true then
              law09_PredOthers_j3 t n  a1 a2 a3 a4 a5 a6 a7 a8
            else
              some false
          | none => none)
          | none => none)
        else
          law09_PredOthers_j3 t n  a1 a2 a3 a4 a5 a6 a7 a8
      | none => none)
    else
      law09_PredOthers_j3 t n  a1 a2 a3 a4 a5 a6 a7 a8
  | none => none)
  | none => none)
def law09_PredOthers_j1 (t : Tab) (n : Nat) (a1 : Int) (a2 : List GValue) (a3 : List GPred) (a4 : Int) (a5 : Int) (a6 : ByteArray) (a7 : List GValue) (a8 : List GValue) : Option Bool :=
  (match t.pred_Negate (GPred.mk a1 a2 a3) with
  | some ⟨a9, a10, a11⟩ =>
  (match t.pred_Check (GPred.mk a9 a10 a11) with
  | some a12 =>
    if (a12 == 0) = true then
      (match t.pred_Test (GPred.mk a9 a10 a11) (GValue.mk a4 a5 a6 a7 a8) with
      | some a13 =>
      (match t.pred_Test (GPred.mk a1 a2 a3) (GValue.mk a4 a5 a6 a7 a8) with
      | some a14 =>
        if (a13 == a14) = true then
          some false
        else
          law09_PredOthers_j2 t n  a1 a2 a3 a4 a5 a6 a7 a8 a9 a10 a11
      | none => none)
      | none => none)
    else
      law09_PredOthers_j2 t n  a1 a2 a3 a4 a5 a6 a7 a8 a9 a10 a11
  | none => none)
  | none => none)
def law09_PredOthers (t : Tab) (n : Nat) : GPred → GValue → Option Bool
  | ⟨a1, a2, a3⟩, ⟨a4, a5, a6, a7, a8⟩ =>
    (match t.law09_much (GPred.mk a1 a2 a3) ([(GValue.mk a4 a5 a6 a7 a8)] : List GValue) with
    | some a9 =>
      if a9 = true then
        t.law09_known 
      else
        (match t.pred_Check (GPred.mk a1 a2 a3) with
        | some a11 =>
          if (a11 != 0) = true then
            t.law09_known 
          else
            law09_PredOthers_j1 t n  a1 a2 a3 a4 a5 a6 a7 a8
        | none => none)
    | none => none)
def law09_PredOrder_j5 (t : Tab) (n : Nat) (a1 : Bool) (a2 : Bool) (a3 : Bool) (a4 : Bool) (a5 : Bool) (a6 : Bool) (a7 : Int) (a8 : Int) (a9 : ByteArray) (a10 : List GValue) (a11 : List GValue) (a12 : Int) (a13 : Int) (a14 : ByteArray) (a15 : List GValue) (a16 : List GValue) : Option Bool :=
  if (a12 != a7) = true then
    if a4 = true then
      some false
    else
      if a5 = true then
        some false
      else
        if a6 = true then
          some false
        else
          t.law09_known 
  else
    (match t.law09_one 3 (GValue.mk a12 a13 a14 a15 a16) with
    | some ⟨a18, a19, a20⟩ =>
    (match t.pred_Test (GPred.mk a18 a19 a20) (GValue.mk a7 a8 a9 a10 a11) with
    | some a21 =>
    (match t.law09_one 5 (GValue.mk a12 a13 a14 a15 a16) with
    | some ⟨a22, a23, a24⟩ =>
    (match t.pred_Test (GPred.mk a22 a23 a24) (GValue.mk a7 a8 a9 a10 a11) with
    | some a25 =>
      if a3 = true then
        if (a4 == a21) = true then
          if a2 = true then
            if (a5 == a21) = true then
              if a1 = true then
                if (a6 == true) = true then
                  t.law09_known 
                else
                  some false
              else
                if (a6 == a25) = true then
                  t.law09_known 
                else
                  some false
            else
              some false
          else
            if (a5 == false) = true then
              if a1 = true then
                if (a6 == true) = true then
                  t.law09_known 
                else
                  some false
              else
                if (a6 == a25) = true then
                  t.law09_known 
                else
                  some false
            else
              some false
        else
          some false
      else
        if (a4 == false) = true then
          if a2 = true then
            if (a5 == a21) = true then
              if a1 = true then
                if (a6 == true) = true then
                  t.law09_known 
                else
                  some false
              else
                if (a6 == a25) = true then
                  t.law09_known 
                else
                  some false
            else
              some false
          else
            if (a5 == false) = true then
              if a1 = true then
                if (a6 == true) = true then
                  t.law09_known 
                else
                  some false
              else
                if (a6 == a25) = true then
                  t.law09_known 
                else
                  some false
            else
              some false
        else
          some false
    | none => none)
    | none => none)
    | none => none)
    | none => none)
def law09_PredOrder_j4 (t : Tab) (n : Nat) (a1 : Bool) (a2 : Bool) (a3 : Bool) (a4 : Bool) (a5 : Bool) (a6 : Bool) (a7 : Bool) (a8 : Int) (a9 : Int) (a10 : Int) (a11 : ByteArray) (a12 : List GValue) (a13 : List GValue) (a14 : Int) (a15 : Int) (a16 : ByteArray) (a17 : List GValue) (a18 : List GValue) : Option Bool :=
  if (a8 != 1) = true then
    some false
  else
    if (a3 == a2) = true then
      some false
    else
      if (a4 == a1) = true then
        some false
      else
        law09_PredOrder_j5 t n  a1 a2 a4 a5 a6 a7 a9 a10 a11 a12 a13 a14 a15 a16 a17 a18
def law09_PredOrder_j3 (t : Tab) (n : Nat) (a1 : Bool) (a2 : Bool) (a3 : Bool) (a4 : Bool) (a5 : Bool) (a6 : Bool) (a7 : Bool) (a8 : Bool) (a9 : Int) (a10 : Int) (a11 : Int) (a12 : ByteArray) (a13 : List GValue) (a14 : List GValue) (a15 : Int) (a16 : Int) (a17 : ByteArray) (a18 : List GValue) (a19 : List GValue) : Option Bool :=
  if a3 = true then
    law09_PredOrder_j4 t n  a1 a2 a4 a5 a6 a7 a8 (IntKind.wrap .i64 (a9 + 1)) a10 a11 a12 a13 a14 a15 a16 a17 a18 a19
  else
    law09_PredOrder_j4 t n  a1 a2 a4 a5 a6 a7 a8 a9 a10 a11 a12 a13 a14 a15 a16 a17 a18 a19
def law09_PredOrder_j2 (t : Tab) (n : Nat) (a1 : Bool) (a2 : Bool) (a3 : Bool) (a4 : Bool) (a5 : Bool) (a6 : Bool) (a7 : Bool) (a8 : Bool) (a9 : Int) (a10 : Int) (a11 : Int) (a12 : ByteArray) (a13 : List GValue) (a14 : List GValue) (a15 : Int) (a16 : Int) (a17 : ByteArray) (a18 : List GValue) (a19 : List GValue) : Option Bool :=
  if a2 = true then
    law09_PredOrder_j3 t n  a1 a2 a3 a4 a5 a6 a7 a8 (IntKind.wrap .i64 (a9 + 1)) a10 a11 a12 a13 a14 a15 a16 a17 a18 a19
  else
    law09_PredOrder_j3 t n  a1 a2 a3 a4 a5 a6 a7 a8 a9 a10 a11 a12 a13 a14 a15 a16 a17 a18 a19
def law09_PredOrder_j1 (t : Tab) (n : Nat) (a1 : Int) (a2 : Int) (a3 : ByteArray) (a4 : List GValue) (a5 : List GValue) (a6 : Int) (a7 : Int) (a8 : ByteArray) (a9 : List GValue) (a10 : List GValue) (a11 : Int) (a12 : Int) (a13 : ByteArray) (a14 : List GValue) (a15 : List GValue) : Option Bool :=
  (match t.law09_one 3 (GValue.mk a1 a2 a3 a4 a5) with
  | some ⟨a16, a17, a18⟩ =>
  (match t.pred_Test (GPred.mk a16 a17 a18) (GValue.mk a6 a7 a8 a9 a10) with
  | some a19 =>
  (match t.law09_one 5 (GValue.mk a1 a2 a3 a4 a5) with
  | some ⟨a20, a21, a22⟩ =>
  (match t.pred_Test (GPred.mk a20 a21 a22) (GValue.mk a6 a7 a8 a9 a10) with
  | some a23 =>
  (match t.law09_one 1 (GValue.mk a1 a2 a3 a4 a5) with
  | some ⟨a24, a25, a26⟩ =>
  (match t.pred_Test (GPred.mk a24 a25 a26) (GValue.mk a6 a7 a8 a9 a10) with
  | some a27 =>
  (match t.law09_one 4 (GValue.mk a1 a2 a3 a4 a5) with
  | some ⟨a28, a29, a30⟩ =>
  (match t.pred_Test (GPred.mk a28 a29 a30) (GValue.mk a6 a7 a8 a9 a10) with
  | some a31 =>
  (match t.law09_one 6 (GValue.mk a1 a2 a3 a4 a5) with
  | some ⟨a32, a33, a34⟩ =>
  (match t.pred_Test (GPred.mk a32 a33 a34) (GValue.mk a6 a7 a8 a9 a10) with
  | some a35 =>
  (match t.pred_Test (GPred.mk 7 ([(GValue.mk a1 a2 a3 a4 a5), (GValue.mk a11 a12 a13 a14 a15)] : List GValue) ([] : List GPred)) (GValue.mk a6 a7 a8 a9 a10) with
  | some a36 =>
  (match t.pred_Test (GPred.mk 8 ([(GValue.mk a1 a2 a3 a4 a5), (GValue.mk a11 a12 a13 a14 a15)] : List GValue) ([] : List GPred)) (GValue.mk a6 a7 a8 a9 a10) with
  | some a37 =>
  (match t.pred_Test (GPred.mk 9 ([(GValue.mk a1 a2 a3 a4 a5), (GValue.mk a11 a12 a13 a14 a15)] : List GValue) ([] : List GPred)) (GValue.mk a6 a7 a8 a9 a10) with
  | some a38 =>
    if (a1 != a6) = true then
      if a19 = true then
        some false
      else
        if a23 = true then
          some false
        else
          if a27 = true then
            some false
          else
            if a31 = true then
              some false
            else
              if a35 = true then
                some false
              else
                if a36 = true then
                  some false
                else
                  if a37 = true then
                    some false
                  else
                    if a38 = true then
                      some false
                    else
                      (match t.law09_one 2 (GValue.mk a1 a2 a3 a4 a5) with
                      | some ⟨a39, a40, a41⟩ =>
                      (match t.pred_Test (GPred.mk a39 a40 a41) (GValue.mk a6 a7 a8 a9 a10) with
                      | some a42 =>
                        if a42 = true then
                          t.law09_known 
                        else
                          some false
                      | none => none)
                      | none => none)
    else
      if a19 = true then
        law09_PredOrder_j2 t n  a19 a23 a27 a31 a35 a36 a37 a38 1 a6 a7 a8 a9 a10 a11 a12 a13 a14 a15
      else
        law09_PredOrder_j2 t n  a19 a23 a27 a31 a35 a36 a37 a38 0 a6 a7 a8 a9 a10 a11 a12 a13 a14 a15
  | none => none)
  | none => none)
  | none => none)
  | none => none)
  | none => none)
  | none => none)
  | none => none)
  | none => none)
  | none => none)
  | none => none)
  | none => none)
  | none => none)
  | none => none)
def law09_PredOrder (t : Tab) (n : Nat) : GValue → GValue → GValue → Option Bool
  | ⟨a1, a2, a3, a4, a5⟩, ⟨a6, a7, a8, a9, a10⟩, ⟨a11, a12, a13, a14, a15⟩ =>
    (match t.law09_much (GPred.mk 0 ([] : List GValue) ([] : List GPred)) ([(GValue.mk a1 a2 a3 a4 a5), (GValue.mk a6 a7 a8 a9 a10), (GValue.mk a11 a12 a13 a14 a15)] : List GValue) with
    | some a16 =>
      if a16 = true then
        t.law09_known 
      else
        (match t.ref02_Check (GValue.mk a1 a2 a3 a4 a5) with
        | some a18 =>
          if (a18 != 0) = true then
            t.law09_known 
          else
            (match t.ref02_Check (GValue.mk a11 a12 a13 a14 a15) with
            | some a20 =>
              if (a20 != 0) = true then
                t.law09_known 
              else
                law09_PredOrder_j1 t n  a1 a2 a3 a4 a5 a6 a7 a8 a9 a10 a11 a12 a13 a14 a15
            | none => none)
        | none => none)
    | none => none)
def law09_PredSets_j3 (t : Tab) (n : Nat) (a1 : List GValue) (a2 : Bool) (a3 : Bool) (a4 : Int) (a5 : Int) (a6 : Int) (a7 : ByteArray) (a8 : List GValue) (a9 : List GValue) : Option ((List GValue) × Bool × Bool × Int × Int × Int × ByteArray × (List GValue) × (List GValue)) :=
  if a3 = true then
    if (decide (0 ≤ (a4 : Int))) = true then
    (match a1[(a4 : Int).toNat]? with
    | some ⟨a10, a11, a12, a13, a14⟩ =>
    (match t.ref02_Check (GValue.mk a10 a11 a12 a13 a14) with
    | some a15 =>
      some (a1, a2, (a15 == 0), a4, a5, a6, a7, a8, a9)
    | none => none)
    | none => none)
    else none
  else
    some (a1, a2, false, a4, a5, a6, a7, a8, a9)
def law09_PredSets_l2 (t : Tab) (n : Nat) : Nat → (List GValue) → Bool → Bool → Int → Int → Int → ByteArray → (List GValue) → (List GValue) → Option ((List GValue) × Bool × Bool × Int × Bool × Int × Int × ByteArray × (List GValue) × (List GValue))
  | 0, _, _, _, _, _, _, _, _, _ => none
  | k + 1, a1, a2, a3, a4, a5, a6, a7, a8, a9 =>
    if (decide (a4 < (a1.length : Int))) = true then
      if a2 = true then
        (match law09_PredSets_j3 t n  a1 true a3 a4 a5 a6 a7 a8 a9 with
        | some (a10, a11, a12, a13, a14, a15, a16, a17, a18) =>
          law09_PredSets_l2 t n k a10 a11 a12 (IntKind.wrap .i64 (a13 + 1)) a14 a15 a16 a17 a18
        | none => none)
      else
        if (decide (0 ≤ (a4 : Int))) = true then
        (match a1[(a4 : Int).toNat]? with
        | some ⟨a19, a20, a21, a22, a23⟩ =>
        (match t.ref02_Same (GValue.mk a19 a20 a21 a22 a23) (GValue.mk a5 a6 a7 a8 a9) with
        | some a24 =>
          (match law09_PredSets_j3 t n  a1 a24 a3 a4 a5 a6 a7 a8 a9 with
          | some (a25, a26, a27, a28, a29, a30, a31, a32, a33) =>
            law09_PredSets_l2 t n k a25 a26 a27 (IntKind.wrap .i64 (a28 + 1)) a29 a30 a31 a32 a33
          | none => none)
        | none => none)
        | none => none)
        else none
    else
      some (a1, a2, a3, a4, (decide (a4 < (a1.length : Int))), a5, a6, a7, a8, a9)
def law09_PredSets_j4 (t : Tab) (n : Nat) (a1 : List GValue) (a2 : Bool) (a3 : Bool) (a4 : Int) (a5 : Int) (a6 : ByteArray) (a7 : List GValue) (a8 : List GValue) : Option Bool :=
  (match t.pred_Test (GPred.mk 10 a1 ([] : List GPred)) (GValue.mk a4 a5 a6 a7 a8) with
  | some a9 =>
  (match t.pred_Test (GPred.mk 11 a1 ([] : List GPred)) (GValue.mk a4 a5 a6 a7 a8) with
  | some a10 =>
    if a3 = true then
      if (a9 == a2) = true then
        if (a10 == (!a2)) = true then
          (match t.pred_Test (GPred.mk 10 ([] : List GValue) ([] : List GPred)) (GValue.mk a4 a5 a6 a7 a8) with
          | some a11 =>
            if a11 = true then
              some false
            else
              (match t.pred_Test (GPred.mk 11 ([] : List GValue) ([] : List GPred)) (GValue.mk a4 a5 a6 a7 a8) with
              | some a12 =>
                if a12 = true then
                  t.law09_known 
                else
                  some false
              | none => none)
          | none => none)
        else
          some false
      else
        some false
    else
      if a9 = true then
        some false
      else
        if a10 = true then
          some false
        else
          t.law09_known 
  | none => none)
  | none => none)
def law09_PredSets_j1 (t : Tab) (n : Nat) (a1 : List GValue) (a2 : Int) (a3 : Int) (a4 : ByteArray) (a5 : List GValue) (a6 : List GValue) : Option Bool :=
  (match law09_PredSets_l2 t n n a1 false true 0 a2 a3 a4 a5 a6 with
  | some (a7, a8, a9, a10, a11, a12, a13, a14, a15, a16) =>
    law09_PredSets_j4 t n  a7 a8 a9 a12 a13 a14 a15 a16
  | none => none)
def law09_PredSets (t : Tab) (n : Nat) : (List GValue) → GValue → Option Bool
  | a1, ⟨a2, a3, a4, a5, a6⟩ =>
    (match t.ref02_Many a1 300 with
    | some a7 =>
      if (decide (a7 ≥ 300)) = true then
        t.law09_known 
      else
        (match t.law09_much (GPred.mk 0 ([] : List GValue) ([] : List GPred)) ([(GValue.mk a2 a3 a4 a5 a6)] : List GValue) with
        | some a9 =>
          if a9 = true then
            t.law09_known 
          else
            if (decide ((a1.length : Int) > 60)) = true then
              t.law09_known 
            else
              law09_PredSets_j1 t n  a1 a2 a3 a4 a5 a6
        | none => none)
    | none => none)
def law09_PredJoins_j2 (t : Tab) (n : Nat) (a1 : List GPred) (a2 : Int) (a3 : Int) (a4 : Int) (a5 : Int) (a6 : ByteArray) (a7 : List GValue) (a8 : List GValue) : Option ((List GPred) × Int × Int × Int × Int × ByteArray × (List GValue) × (List GValue)) :=
  if (decide (0 ≤ (a3 : Int))) = true then
  (match a1[(a3 : Int).toNat]? with
  | some ⟨a9, a10, a11⟩ =>
  (match t.ref09_Count (GPred.mk a9 a10 a11) 400 with
  | some a12 =>
    some (a1, (IntKind.wrap .i64 (a2 + a12)), (IntKind.wrap .i64 (a3 + 1)), a4, a5, a6, a7, a8)
  | none => none)
  | none => none)
  else none
def law09_PredJoins_l1 (t : Tab) (n : Nat) : Nat → (List GPred) → Int → Int → Int → Int → ByteArray → (List GValue) → (List GValue) → Option ((List GPred) × Int × Int × Bool × Int × Int × ByteArray × (List GValue) × (List GValue))
  | 0, _, _, _, _, _, _, _, _ => none
  | k + 1, a1, a2, a3, a4, a5, a6, a7, a8 =>
    if (decide (a3 < (a1.length : Int))) = true then
      if (decide (a2 < 400)) = true then
        (match law09_PredJoins_j2 t n  a1 a2 a3 a4 a5 a6 a7 a8 with
        | some (a9, a10, a11, a12, a13, a14, a15, a16) =>
          law09_PredJoins_l1 t n k a9 a10 a11 a12 a13 a14 a15 a16
        | none => none)
      else
        some (a1, a2, a3, (decide (a2 < 400)), a4, a5, a6, a7, a8)
    else
      some (a1, a2, a3, false, a4, a5, a6, a7, a8)
def law09_PredJoins_j8 (t : Tab) (n : Nat) (a1 : List GPred) (a2 : Bool) (a3 : Bool) (a4 : Bool) (a5 : List GPred) (a6 : Int) (a7 : Int) (a8 : Int) (a9 : ByteArray) (a10 : List GValue) (a11 : List GValue) : Option ((List GPred) × Bool × Bool × Bool × (List GPred) × Int × Int × Int × ByteArray × (List GValue) × (List GValue)) :=
  if (decide (0 ≤ ((IntKind.wrap .i64 ((IntKind.wrap .i64 ((a1.length : Int) - 1)) - a6)) : Int))) = true then
  (match a1[((IntKind.wrap .i64 ((IntKind.wrap .i64 ((a1.length : Int) - 1)) - a6)) : Int).toNat]? with
  | some ⟨a12, a13, a14⟩ =>
  if (a5.length + ([(GPred.mk a12 a13 a14)] : List GPred).length) * 56 ≤ 140737488355328 then
  some (a1, a2, a3, a4, (a5 ++ ([(GPred.mk a12 a13 a14)] : List GPred)), a6, a7, a8, a9, a10, a11)
  else none
  | none => none)
  else none
def law09_PredJoins_j7 (t : Tab) (n : Nat) (a1 : List GPred) (a2 : Bool) (a3 : Bool) (a4 : Bool) (a5 : List GPred) (a6 : Int) (a7 : Int) (a8 : Int) (a9 : ByteArray) (a10 : List GValue) (a11 : List GValue) : Option ((List GPred) × Bool × Bool × Bool × (List GPred) × Int × Int × Int × ByteArray × (List GValue) × (List GValue)) :=
  if a4 = true then
    if (decide (0 ≤ (a6 : Int))) = true then
    (match a1[(a6 : Int).toNat]? with
    | some ⟨a12, a13, a14⟩ =>
    (match t.ref09_Check (GPred.mk 12 ([] : List GValue) ([(GPred.mk a12 a13 a14)] : List GPred)) with
    | some a15 =>
      law09_PredJoins_j8 t n  a1 a2 a3 (a15 == 0) a5 a6 a7 a8 a9 a10 a11
    | none => none)
    | none => none)
    else none
  else
    law09_PredJoins_j8 t n  a1 a2 a3 false a5 a6 a7 a8 a9 a10 a11
def law09_PredJoins_j6 (t : Tab) (n : Nat) (a1 : List GPred) (a2 : Bool) (a3 : Bool) (a4 : Bool) (a5 : List GPred) (a6 : Int) (a7 : Bool) (a8 : Int) (a9 : Int) (a10 : ByteArray) (a11 : List GValue) (a12 : List GValue) : Option ((List GPred) × Bool × Bool × Bool × (List GPred) × Int × Int × Int × ByteArray × (List GValue) × (List GValue)) :=
  if a3 = true then
    law09_PredJoins_j7 t n  a1 a2 true a4 a5 a6 a8 a9 a10 a11 a12
  else
    law09_PredJoins_j7 t n  a1 a2 a7 a4 a5 a6 a8 a9 a10 a11 a12
def law09_PredJoins_l5 (t : Tab) (n : Nat) : Nat → (List GPred) → Bool → Bool → Bool → (List GPred) → Int → Int → Int → ByteArray → (List GValue) → (List GValue) → Option ((List GPred) × Bool × Bool × Bool × (List GPred) × Int × Bool × Int × Int × ByteArray × (List GValue) × (List GValue))
  | 0, _, _, _, _, _, _, _, _, _, _, _ => none
  | k + 1, a1, a2, a3, a4, a5, a6, a7, a8, a9, a10, a11 =>
    if (decide (a6 < (a1.length : Int))) = true then
      if (decide (0 ≤ (a6 : Int))) = true then
      (match a1[(a6 : Int).toNat]? with
      | some ⟨a12, a13, a14⟩ =>
      (match t.pred_Test (GPred.mk a12 a13 a14) (GValue.mk a7 a8 a9 a10 a11) with
      | some a15 =>
        if a2 = true then
          (match law09_PredJoins_j6 t n  a1 a15 a3 a4 a5 a6 a15 a7 a8 a9 a10 a11 with
          | some (a16, a17, a18, a19, a20, a21, a22, a23, a24, a25, a26) =>
            law09_PredJoins_l5 t n k a16 a17 a18 a19 a20 (IntKind.wrap .i64 (a21 + 1)) a22 a23 a24 a25 a26
          | none => none)
        else
          (match law09_PredJoins_j6 t n  a1 false a3 a4 a5 a6 a15 a7 a8 a9 a10 a11 with
          | some (a27, a28, a29, a30, a31, a32, a33, a34, a35, a36, a37) =>
            law09_PredJoins_l5 t n k a27 a28 a29 a30 a31 (IntKind.wrap .i64 (a32 + 1)) a33 a34 a35 a36 a37
          | none => none)
      | none => none)
      | none => none)
      else none
    else
      some (a1, a2, a3, a4, a5, a6, (decide (a6 < (a1.length : Int))), a7, a8, a9, a10, a11)
def law09_PredJoins_j9 (t : Tab) (n : Nat) (a1 : List GPred) (a2 : Bool) (a3 : Bool) (a4 : Bool) (a5 : List GPred) (a6 : Int) (a7 : Int) (a8 : ByteArray) (a9 : List GValue) (a10 : List GValue) : Option Bool :=
  (match t.pred_Join 13 a1 with
  | some ⟨a11, a12, a13⟩ =>
  (match t.pred_Join 14 a1 with
  | some ⟨a14, a15, a16⟩ =>
  (match t.pred_Join 13 a5 with
  | some ⟨a17, a18, a19⟩ =>
  (match t.pred_Join 14 a5 with
  | some ⟨a20, a21, a22⟩ =>
    if a4 = true then
      if (a11 == 13) = true then
        if ((a13.length : Int) == (a1.length : Int)) = true then
          (match t.pred_Test (GPred.mk a11 a12 a13) (GValue.mk a6 a7 a8 a9 a10) with
          | some a23 =>
            if (a23 == a2) = true then
              (match t.pred_Test (GPred.mk a14 a15 a16) (GValue.mk a6 a7 a8 a9 a10) with
              | some a24 =>
                if (a24 == a3) = true then
                  (match t.pred_Test (GPred.mk a17 a18 a19) (GValue.mk a6 a7 a8 a9 a10) with
                  | some a25 =>
                    if (a25 == a2) = true then
                      (match t.pred_Test (GPred.mk a20 a21 a22) (GValue.mk a6 a7 a8 a9 a10) with
                      | some a26 =>
                        if (a26 == a3) = true then
                          t.law09_known 
                        else
                          some false
                      | none => none)
                    else
                      some false
                  | none => none)
                else
                  some false
              | none => none)
            else
              some false
          | none => none)
        else
          some false
      else
        some false
    else
      if (a11 == 0) = true then
        if (a14 == 0) = true then
          t.law09_known 
        else
          some false
      else
        some false
  | none => none)
  | none => none)
  | none => none)
  | none => none)
def law09_PredJoins_j4 (t : Tab) (n : Nat) (a1 : List GPred) (a2 : Int) (a3 : Int) (a4 : ByteArray) (a5 : List GValue) (a6 : List GValue) : Option Bool :=
  (match law09_PredJoins_l5 t n n a1 true false (decide ((a1.length : Int) ≥ 2)) ([] : List GPred) 0 a2 a3 a4 a5 a6 with
  | some (a7, a8, a9, a10, a11, a12, a13, a14, a15, a16, a17, a18) =>
    law09_PredJoins_j9 t n  a7 a8 a9 a10 a11 a14 a15 a16 a17 a18
  | none => none)
def law09_PredJoins_j3 (t : Tab) (n : Nat) (a1 : List GPred) (a2 : Int) (a3 : Int) (a4 : Int) (a5 : ByteArray) (a6 : List GValue) (a7 : List GValue) : Option Bool :=
  if (decide (a2 ≥ 400)) = true then
    t.law09_known 
  else
    (match t.law09_much (GPred.mk 0 ([] : List GValue) ([] : List GPred)) ([(GValue.mk a3 a4 a5 a6 a7)] : List GValue) with
    | some a9 =>
      if a9 = true then
        t.law09_known 
      else
        law09_PredJoins_j4 t n  a1 a3 a4 a5 a6 a7
    | none => none)
def law09_PredJoins (t : Tab) (n : Nat) : (List GPred) → GValue → Option Bool
  | a1, ⟨a2, a3, a4, a5, a6⟩ =>
    (match law09_PredJoins_l1 t n n a1 0 0 a2 a3 a4 a5 a6 with
    | some (a7, a8, a9, a10, a11, a12, a13, a14, a15) =>
      law09_PredJoins_j3 t n  a7 a8 a11 a12 a13 a14 a15
    | none => none)
def law09_PredRanges_j1 (t : Tab) (n : Nat) (a1 : Int) (a2 : Int) (a3 : ByteArray) (a4 : List GValue) (a5 : List GValue) (a6 : Int) (a7 : Int) (a8 : ByteArray) (a9 : List GValue) (a10 : List GValue) (a11 : Int) (a12 : Int) (a13 : ByteArray) (a14 : List GValue) (a15 : List GValue) : Option Bool :=
  (match t.pred_Test (GPred.mk 7 ([(GValue.mk a1 a2 a3 a4 a5), (GValue.mk a6 a7 a8 a9 a10)] : List GValue) ([] : List GPred)) (GValue.mk a11 a12 a13 a14 a15) with
  | some a16 =>
  (match t.pred_Test (GPred.mk 8 ([(GValue.mk a1 a2 a3 a4 a5), (GValue.mk a6 a7 a8 a9 a10)] : List GValue) ([] : List GPred)) (GValue.mk a11 a12 a13 a14 a15) with
  | some a17 =>
  (match t.pred_Test (GPred.mk 9 ([(GValue.mk a1 a2 a3 a4 a5), (GValue.mk a6 a7 a8 a9 a10)] : List GValue) ([] : List GPred)) (GValue.mk a11 a12 a13 a14 a15) with
  | some a18 =>
    if (a1 != a6) = true then
      if a16 = true then
        some false
      else
        if a17 = true then
          some false
        else
          if a18 = true then
            some false
          else
            t.law09_known 
    else
      (match t.law09_one 6 (GValue.mk a1 a2 a3 a4 a5) with
      | some ⟨a20, a21, a22⟩ =>
      (match t.law09_one 3 (GValue.mk a6 a7 a8 a9 a10) with
      | some ⟨a23, a24, a25⟩ =>
      (match t.pred_Join 13 ([(GPred.mk a20 a21 a22), (GPred.mk a23 a24 a25)] : List GPred) with
      | some ⟨a26, a27, a28⟩ =>
      (match t.pred_Test (GPred.mk a26 a27 a28) (GValue.mk a11 a12 a13 a14 a15) with
      | some a29 =>
      (match t.law09_one 5 (GValue.mk a1 a2 a3 a4 a5) with
      | some ⟨a30, a31, a32⟩ =>
      (match t.pred_Join 13 ([(GPred.mk a30 a31 a32), (GPred.mk a23 a24 a25)] : List GPred) with
      | some ⟨a33, a34, a35⟩ =>
      (match t.pred_Test (GPred.mk a33 a34 a35) (GValue.mk a11 a12 a13 a14 a15) with
      | some a36 =>
      (match t.law09_one 3 (GValue.mk a1 a2 a3 a4 a5) with
      | some ⟨a37, a38, a39⟩ =>
      (match t.law09_one 5 (GValue.mk a6 a7 a8 a9 a10) with
      | some ⟨a40, a41, a42⟩ =>
      (match t.pred_Join 14 ([(GPred.mk a37 a38 a39), (GPred.mk a40 a41 a42)] : List GPred) with
      | some ⟨a43, a44, a45⟩ =>
      (match t.pred_Test (GPred.mk a43 a44 a45) (GValue.mk a11 a12 a13 a14 a15) with
      | some a46 =>
        if (a16 == a29) = true then
          if (a17 == a36) = true then
            if (a18 == a46) = true then
              t.law09_known 
            else
              some false
          else
            some false
        else
          some false
      | none => none)
      | none => none)
      | none => none)
      | none => none)
      | none => none)
      | none => none)
      | none => none)
      | none => none)
      | none => none)
      | none => none)
      | none => none)
  | none => none)
  | none => none)
  | none => none)
def law09_PredRanges (t : Tab) (n : Nat) : GValue → GValue → GValue → Option Bool
  | ⟨a1, a2, a3, a4, a5⟩, ⟨a6, a7, a8, a9, a10⟩, ⟨a11, a12, a13, a14, a15⟩ =>
    (match t.law09_much (GPred.mk 0 ([] : List GValue) ([] : List GPred)) ([(GValue.mk a1 a2 a3 a4 a5), (GValue.mk a6 a7 a8 a9 a10), (GValue.mk a11 a12 a13 a14 a15)] : List GValue) with
    | some a16 =>
      if a16 = true then
        t.law09_known 
      else
        (match t.ref02_Check (GValue.mk a1 a2 a3 a4 a5) with
        | some a18 =>
          if (a18 != 0) = true then
            t.law09_known 
          else
            (match t.ref02_Check (GValue.mk a6 a7 a8 a9 a10) with
            | some a20 =>
              if (a20 != 0) = true then
                t.law09_known 
              else
                law09_PredRanges_j1 t n  a1 a2 a3 a4 a5 a6 a7 a8 a9 a10 a11 a12 a13 a14 a15
            | none => none)
        | none => none)
    | none => none)
def law09_much (t : Tab) (n : Nat) : GPred → (List GValue) → Option Bool
  | ⟨a1, a2, a3⟩, a4 =>
    (match t.ref09_Count (GPred.mk a1 a2 a3) 400 with
    | some a5 =>
      if (decide (a5 ≥ 400)) = true then
        some true
      else
        (match t.ref02_Many a4 300 with
        | some a6 =>
          some (decide (a6 ≥ 300))
        | none => none)
    | none => none)
def pred_Check (t : Tab) (n : Nat) : GPred → Option Int
  | ⟨a1, a2, a3⟩ =>
    (match t.pred_right (GPred.mk a1 a2 a3) 1 with
    | some a4 =>
      if a4 = true then
        some 0
      else
        some 2
    | none => none)
def ref09_Check (t : Tab) (n : Nat) : GPred → Option Int
  | ⟨a1, a2, a3⟩ =>
    (match t.ref09_right (GPred.mk a1 a2 a3) 1 with
    | some a4 =>
      if a4 = true then
        some 0
      else
        some 2
    | none => none)
def pred_Test (t : Tab) (n : Nat) : GPred → GValue → Option Bool
  | ⟨a1, a2, a3⟩, ⟨a4, a5, a6, a7, a8⟩ =>
    (match t.pred_right (GPred.mk a1 a2 a3) 1 with
    | some a9 =>
      if a9 = true then
        t.pred_test (GPred.mk a1 a2 a3) (GValue.mk a4 a5 a6 a7 a8)
      else
        some false
    | none => none)
def ref09_Test (t : Tab) (n : Nat) : GPred → GValue → Option Bool
  | ⟨a1, a2, a3⟩, ⟨a4, a5, a6, a7, a8⟩ =>
    (match t.ref09_right (GPred.mk a1 a2 a3) 1 with
    | some a9 =>
      if a9 = true then
        t.ref09_test (GPred.mk a1 a2 a3) (GValue.mk a4 a5 a6 a7 a8)
      else
        some false
    | none => none)
def pred_Negate (t : Tab) (n : Nat) : GPred → Option GPred
  | ⟨a1, a2, a3⟩ =>
    (match t.pred_right (GPred.mk a1 a2 a3) 1 with
    | some a4 =>
      if a4 = true then
        (match t.pred_Copy (GPred.mk a1 a2 a3) with
        | some ⟨a5, a6, a7⟩ =>
        t.pred_negate (GPred.mk a5 a6 a7)
        | none => none)
      else
        some (GPred.mk 0 ([] : List GValue) ([] : List GPred))
    | none => none)
def ref09_Same_l2 (t : Tab) (n : Nat) : Nat → Int → Int → (List GValue) → (List GPred) → Int → (List GValue) → (List GPred) → Option (Bool ⊕ (Int × Bool × Int × (List GValue) × (List GPred) × Int × (List GValue) × (List GPred)))
  | 0, _, _, _, _, _, _, _ => none
  | k + 1, a1, a2, a3, a4, a5, a6, a7 =>
    if (decide (a1 < (a4.length : Int))) = true then
      if (decide (0 ≤ (a1 : Int))) = true then
      (match a4[(a1 : Int).toNat]? with
      | some ⟨a8, a9, a10⟩ =>
      (match a7[(a1 : Int).toNat]? with
      | some ⟨a11, a12, a13⟩ =>
      (match t.ref09_Same (GPred.mk a8 a9 a10) (GPred.mk a11 a12 a13) with
      | some a14 =>
        if a14 = true then
          ref09_Same_l2 t n k (IntKind.wrap .i64 (a1 + 1)) a2 a3 a4 a5 a6 a7
        else
          some (.inl false)
      | none => none)
      | none => none)
      | none => none)
      else none
    else
      some (.inr (a1, (decide (a1 < (a4.length : Int))), a2, a3, a4, a5, a6, a7))
def ref09_Same_j1 (t : Tab) (n : Nat) (a1 : Int) (a2 : List GValue) (a3 : List GPred) (a4 : Int) (a5 : List GValue) (a6 : List GPred) : Option Bool :=
  (match ref09_Same_l2 t n n 0 a1 a2 a3 a4 a5 a6 with
  | some (.inl a7) =>
    some a7
  | some (.inr (a8, a9, a10, a11, a12, a13, a14, a15)) =>
    some true
  | none => none)
def ref09_Same (t : Tab) (n : Nat) : GPred → GPred → Option Bool
  | ⟨a1, a2, a3⟩, ⟨a4, a5, a6⟩ =>
    if (a1 != a4) = true then
      some false
    else
      (match t.ref02_SameRows a2 a5 with
      | some a7 =>
        if a7 = true then
          if ((a3.length : Int) != (a6.length : Int)) = true then
            some false
          else
            ref09_Same_j1 t n  a1 a2 a3 a4 a5 a6
        else
          some false
      | none => none)
def ref02_Check (t : Tab) (n : Nat) : GValue → Option Int
  | ⟨a1, a2, a3, a4, a5⟩ =>
    (match t.ref02_right (GValue.mk a1 a2 a3 a4 a5) 1 with
    | some a6 =>
      if a6 = true then
        some 0
      else
        some 2
    | none => none)
def law09_one (t : Tab) (n : Nat) : Int → GValue → Option GPred
  | a1, ⟨a2, a3, a4, a5, a6⟩ =>
    some (GPred.mk a1 ([(GValue.mk a2 a3 a4 a5 a6)] : List GValue) ([] : List GPred))
def ref02_Many_j2 (t : Tab) (n : Nat) (a1 : List GValue) (a2 : Int) (a3 : Int) (a4 : Int) : Option ((List GValue) × Int × Int × Int) :=
  if (decide (0 ≤ (a4 : Int))) = true then
  (match a1[(a4 : Int).toNat]? with
  | some ⟨a5, a6, a7, a8, a9⟩ =>
  (match t.ref02_Count (GValue.mk a5 a6 a7 a8 a9) (IntKind.wrap .i64 (a2 - a3)) with
  | some a10 =>
    some (a1, a2, (IntKind.wrap .i64 (a3 + a10)), (IntKind.wrap .i64 (a4 + 1)))
  | none => none)
  | none => none)
  else none
def ref02_Many_l1 (t : Tab) (n : Nat) : Nat → (List GValue) → Int → Int → Int → Option ((List GValue) × Int × Int × Int × Bool)
  | 0, _, _, _, _ => none
  | k + 1, a1, a2, a3, a4 =>
    if (decide (a4 < (a1.length : Int))) = true then
      if (decide (a3 < a2)) = true then
        (match ref02_Many_j2 t n  a1 a2 a3 a4 with
        | some (a5, a6, a7, a8) =>
          ref02_Many_l1 t n k a5 a6 a7 a8
        | none => none)
      else
        some (a1, a2, a3, a4, (decide (a3 < a2)))
    else
      some (a1, a2, a3, a4, false)
def ref02_Many (t : Tab) (n : Nat) : (List GValue) → Int → Option Int
  | a1, a2 =>
    (match ref02_Many_l1 t n n a1 a2 0 0 with
    | some (a3, a4, a5, a6, a7) =>
      some a5
    | none => none)
def ref02_Same (t : Tab) (n : Nat) : GValue → GValue → Option Bool
  | ⟨a1, a2, a3, a4, a5⟩, ⟨a6, a7, a8, a9, a10⟩ =>
    (match t.ref02_compare (GValue.mk a1 a2 a3 a4 a5) (GValue.mk a6 a7 a8 a9 a10) 1 with
    | some a11 =>
      some (a11 == 0)
    | none => none)
def ref09_Count_j2 (t : Tab) (n : Nat) (a1 : Int) (a2 : Int) (a3 : Int) (a4 : Int) (a5 : List GValue) (a6 : List GPred) : Option (Int × Int × Int × Int × (List GValue) × (List GPred)) :=
  if (decide (0 ≤ (a3 : Int))) = true then
  (match a6[(a3 : Int).toNat]? with
  | some ⟨a7, a8, a9⟩ =>
  (match t.ref09_Count (GPred.mk a7 a8 a9) (IntKind.wrap .i64 (a1 - a2)) with
  | some a10 =>
    some (a1, (IntKind.wrap .i64 (a2 + a10)), (IntKind.wrap .i64 (a3 + 1)), a4, a5, a6)
  | none => none)
  | none => none)
  else none
def ref09_Count_l1 (t : Tab) (n : Nat) : Nat → Int → Int → Int → Int → (List GValue) → (List GPred) → Option (Int × Int × Int × Bool × Int × (List GValue) × (List GPred))
  | 0, _, _, _, _, _, _ => none
  | k + 1, a1, a2, a3, a4, a5, a6 =>
    if (decide (a3 < (a6.length : Int))) = true then
      if (decide (a2 < a1)) = true then
        (match ref09_Count_j2 t n  a1 a2 a3 a4 a5 a6 with
        | some (a7, a8, a9, a10, a11, a12) =>
          ref09_Count_l1 t n k a7 a8 a9 a10 a11 a12
        | none => none)
      else
        some (a1, a2, a3, (decide (a2 < a1)), a4, a5, a6)
    else
      some (a1, a2, a3, false, a4, a5, a6)
def ref09_Count (t : Tab) (n : Nat) : GPred → Int → Option Int
  | ⟨a1, a2, a3⟩, a4 =>
    (match t.ref02_Many a2 a4 with
    | some a5 =>
      (match ref09_Count_l1 t n n a4 (IntKind.wrap .i64 (1 + a5)) 0 a1 a2 a3 with
      | some (a6, a7, a8, a9, a10, a11, a12) =>
        some a7
      | none => none)
    | none => none)
def pred_Join (t : Tab) (n : Nat) : Int → (List GPred) → Option GPred
  | a1, a2 =>
    (match t.pred_right (GPred.mk a1 ([] : List GValue) a2) 1 with
    | some a3 =>
      if a3 = true then
        t.pred_Copy (GPred.mk a1 ([] : List GValue) a2)
      else
        some (GPred.mk 0 ([] : List GValue) ([] : List GPred))
    | none => none)
def pred_right_j1 (t : Tab) (n : Nat) (a1 : Int) (a2 : List GValue) (a3 : List GPred) (a4 : Int) : Option Bool :=
  (match t.slices_ContainsFunc_pred_right_1 a3 a4 with
  | some a5 =>
    if a5 = true then
      some false
    else
      (match t.slices_ContainsFunc_pred_right_2 a2 with
      | some a6 =>
        some (!a6)
      | none => none)
  | none => none)
def pred_right (t : Tab) (n : Nat) : GPred → Int → Option Bool
  | ⟨a1, a2, a3⟩, a4 =>
    (match t.pred_arity a1 with
    | some (a5, a6, a7, a8) =>
      if (decide (a4 > 12)) = true then
        some false
      else
        if (decide ((a2.length : Int) < a5)) = true then
          some false
        else
          if (decide ((a2.length : Int) > a6)) = true then
            some false
          else
            if (decide ((a3.length : Int) < a7)) = true then
              some false
            else
              if (decide ((a3.length : Int) > a8)) = true then
                some false
              else
                pred_right_j1 t n  a1 a2 a3 a4
    | none => none)
def ref09_right_j4 (t : Tab) (n : Nat) (a1 : Int) (a2 : Int) (a3 : Int) (a4 : Bool) (a5 : Bool) (a6 : Int) (a7 : List GValue) (a8 : List GPred) : Option (Int × Int × Int × Bool × Int × (List GValue) × (List GPred)) :=
  if a5 = true then
    if (a2 == 0) = true then
      if (decide (a3 ≥ 2)) = true then
        some (a1, a2, a3, (decide (a3 ≤ 1000)), a6, a7, a8)
      else
        some (a1, a2, a3, false, a6, a7, a8)
    else
      some (a1, a2, a3, false, a6, a7, a8)
  else
    some (a1, a2, a3, a4, a6, a7, a8)
def ref09_right_j3 (t : Tab) (n : Nat) (a1 : Int) (a2 : Int) (a3 : Int) (a4 : Bool) (a5 : Int) (a6 : Bool) (a7 : Int) (a8 : List GValue) (a9 : List GPred) : Option (Int × Int × Int × Bool × Int × (List GValue) × (List GPred)) :=
  if a6 = true then
    if (decide (a2 ≤ 1000)) = true then
      some (a1, a2, a3, (a3 == 0), a7, a8, a9)
    else
      some (a1, a2, a3, false, a7, a8, a9)
  else
    if (a5 == 12) = true then
      if (a2 == 0) = true then
        some (a1, a2, a3, (a3 == 1), a7, a8, a9)
      else
        some (a1, a2, a3, false, a7, a8, a9)
    else
      if (a5 == 13) = true then
        ref09_right_j4 t n  a1 a2 a3 a4 (a5 == 13) a7 a8 a9
      else
        ref09_right_j4 t n  a1 a2 a3 a4 (a5 == 14) a7 a8 a9
def ref09_right_j2 (t : Tab) (n : Nat) (a1 : Int) (a2 : Int) (a3 : Int) (a4 : Bool) (a5 : Int) (a6 : Bool) (a7 : Int) (a8 : List GValue) (a9 : List GPred) : Option (Int × Int × Int × Bool × Int × (List GValue) × (List GPred)) :=
  if a6 = true then
    if (a2 == 2) = true then
      some (a1, a2, a3, (a3 == 0), a7, a8, a9)
    else
      some (a1, a2, a3, false, a7, a8, a9)
  else
    if (a5 == 10) = true then
      ref09_right_j3 t n  a1 a2 a3 a4 a5 (a5 == 10) a7 a8 a9
    else
      ref09_right_j3 t n  a1 a2 a3 a4 a5 (a5 == 11) a7 a8 a9
def ref09_right_j1 (t : Tab) (n : Nat) (a1 : Int) (a2 : Int) (a3 : Int) (a4 : Bool) (a5 : Int) (a6 : Bool) (a7 : Int) (a8 : List GValue) (a9 : List GPred) : Option (Int × Int × Int × Bool × Int × (List GValue) × (List GPred)) :=
  if a6 = true then
    if (a2 == 1) = true then
      some (a1, a2, a3, (a3 == 0), a7, a8, a9)
    else
      some (a1, a2, a3, false, a7, a8, a9)
  else
    if (a5 == 7) = true then
      ref09_right_j2 t n  a1 a2 a3 a4 a5 (a5 == 7) a7 a8 a9
    else
      if (a5 == 8) = true then
        ref09_right_j2 t n  a1 a2 a3 a4 a5 (a5 == 8) a7 a8 a9
      else
        ref09_right_j2 t n  a1 a2 a3 a4 a5 (a5 == 9) a7 a8 a9
def ref09_right_l7 (t : Tab) (n : Nat) : Nat → Int → Int → Int → Int → Int → (List GValue) → (List GPred) → Option (Bool ⊕ (Int × Int × Int × Int × Bool × Int × (List GValue) × (List GPred)))
  | 0, _, _, _, _, _, _, _ => none
  | k + 1, a1, a2, a3, a4, a5, a6, a7 =>
    if (decide (a4 < a2)) = true then
      if (decide (0 ≤ (a4 : Int))) = true then
      (match a6[(a4 : Int).toNat]? with
      | some ⟨a8, a9, a10, a11, a12⟩ =>
      (match t.ref02_Check (GValue.mk a8 a9 a10 a11 a12) with
      | some a13 =>
        if (a13 != 0) = true then
          some (.inl false)
        else
          ref09_right_l7 t n k a1 a2 a3 (IntKind.wrap .i64 (a4 + 1)) a5 a6 a7
      | none => none)
      | none => none)
      else none
    else
      some (.inr (a1, a2, a3, a4, (decide (a4 < a2)), a5, a6, a7))
def ref09_right_l9 (t : Tab) (n : Nat) : Nat → Int → Int → Int → Int → (List GValue) → (List GPred) → Option (Bool ⊕ (Int × Int × Int × Bool × Int × (List GValue) × (List GPred)))
  | 0, _, _, _, _, _, _ => none
  | k + 1, a1, a2, a3, a4, a5, a6 =>
    if (decide (a3 < a2)) = true then
      if (decide (0 ≤ (a3 : Int))) = true then
      (match a6[(a3 : Int).toNat]? with
      | some ⟨a7, a8, a9⟩ =>
      (match t.ref09_right (GPred.mk a7 a8 a9) (IntKind.wrap .i64 (a1 + 1)) with
      | some a10 =>
        if a10 = true then
          ref09_right_l9 t n k a1 a2 (IntKind.wrap .i64 (a3 + 1)) a4 a5 a6
        else
          some (.inl false)
      | none => none)
      | none => none)
      else none
    else
      some (.inr (a1, a2, a3, (decide (a3 < a2)), a4, a5, a6))
def ref09_right_j8 (t : Tab) (n : Nat) (a1 : Int) (a2 : Int) (a3 : Int) (a4 : List GValue) (a5 : List GPred) : Option Bool :=
  (match ref09_right_l9 t n n a1 a2 0 a3 a4 a5 with
  | some (.inl a6) =>
    some a6
  | some (.inr (a7, a8, a9, a10, a11, a12, a13)) =>
    some true
  | none => none)
def ref09_right_j6 (t : Tab) (n : Nat) (a1 : Int) (a2 : Int) (a3 : Int) (a4 : Int) (a5 : List GValue) (a6 : List GPred) : Option Bool :=
  (match ref09_right_l7 t n n a1 a2 a3 0 a4 a5 a6 with
  | some (.inl a7) =>
    some a7
  | some (.inr (a8, a9, a10, a11, a12, a13, a14, a15)) =>
    ref09_right_j8 t n  a8 a10 a13 a14 a15
  | none => none)
def ref09_right_j5 (t : Tab) (n : Nat) (a1 : Int) (a2 : Int) (a3 : Int) (a4 : Bool) (a5 : Int) (a6 : List GValue) (a7 : List GPred) : Option Bool :=
  if a4 = true then
    if (decide (a1 > 12)) = true then
      some false
    else
      ref09_right_j6 t n  a1 a2 a3 a5 a6 a7
  else
    some false
def ref09_right (t : Tab) (n : Nat) : GPred → Int → Option Bool
  | ⟨a1, a2, a3⟩, a4 =>
    if (a1 == 1) = true then
      (match ref09_right_j1 t n  a4 (a2.length : Int) (a3.length : Int) false a1 (a1 == 1) a1 a2 a3 with
      | some (a5, a6, a7, a8, a9, a10, a11) =>
        ref09_right_j5 t n  a5 a6 a7 a8 a9 a10 a11
      | none => none)
    else
      if (a1 == 2) = true then
        (match ref09_right_j1 t n  a4 (a2.length : Int) (a3.length : Int) false a1 (a1 == 2) a1 a2 a3 with
        | some (a13, a14, a15, a16, a17, a18, a19) =>
          ref09_right_j5 t n  a13 a14 a15 a16 a17 a18 a19
        | none => none)
      else
        if (a1 == 3) = true then
          (match ref09_right_j1 t n  a4 (a2.length : Int) (a3.length : Int) false a1 (a1 == 3) a1 a2 a3 with
          | some (a21, a22, a23, a24, a25, a26, a27) =>
            ref09_right_j5 t n  a21 a22 a23 a24 a25 a26 a27
          | none => none)
        else
          if (a1 == 4) = true then
            (match ref09_right_j1 t n  a4 (a2.length : Int) (a3.length : Int) false a1 (a1 == 4) a1 a2 a3 with
            | some (a29, a30, a31, a32, a33, a34, a35) =>
              ref09_right_j5 t n  a29 a30 a31 a32 a33 a34 a35
            | none => none)
          else
            if (a1 == 5) = true then
              (match ref09_right_j1 t n  a4 (a2.length : Int) (a3.length : Int) false a1 (a1 == 5) a1 a2 a3 with
              | some (a37, a38, a39, a40, a41, a42, a43) =>
                ref09_right_j5 t n  a37 a38 a39 a40 a41 a42 a43
              | none => none)
            else
              (match ref09_right_j1 t n  a4 (a2.length : Int) (a3.length : Int) false a1 (a1 == 6) a1 a2 a3 with
              | some (a45, a46, a47, a48, a49, a50, a51) =>
                ref09_right_j5 t n  a45 a46 a47 a48 a49 a50 a51
              | none => none)
def pred_test_j2 (t : Tab) (n : Nat) (a1 : Int) (a2 : Bool) (a3 : Int) (a4 : List GValue) (a5 : List GPred) (a6 : Int) (a7 : Int) (a8 : ByteArray) (a9 : List GValue) (a10 : List GValue) : Option (Bool ⊕ (Int × (List GValue) × (List GPred) × Int × Int × ByteArray × (List GValue) × (List GValue))) :=
  if a2 = true then
    (match t.slices_ContainsFunc_pred_test_3 a4 (GValue.mk a6 a7 a8 a9 a10) with
    | some a11 =>
      some (.inl (!a11))
    | none => none)
  else
    if (a1 == 14) = true then
      (match t.slices_ContainsFunc_pred_test_1 a5 (GValue.mk a6 a7 a8 a9 a10) with
      | some a12 =>
        some (.inl a12)
      | none => none)
    else
      if (a1 == 13) = true then
        (match t.slices_ContainsFunc_pred_test_2 a5 (GValue.mk a6 a7 a8 a9 a10) with
        | some a13 =>
          some (.inl (!a13))
        | none => none)
      else
        if (a1 == 12) = true then
          if (decide (0 ≤ (0 : Int))) = true then
          (match a5[(0 : Int).toNat]? with
          | some ⟨a14, a15, a16⟩ =>
          (match t.pred_test_2 (GPred.mk a14 a15 a16) (GValue.mk a6 a7 a8 a9 a10) with
          | some a17 =>
            some (.inl a17)
          | none => none)
          | none => none)
          else none
        else
          some (.inr (a3, a4, a5, a6, a7, a8, a9, a10))
def pred_test_j1 (t : Tab) (n : Nat) (a1 : Int) (a2 : Bool) (a3 : Int) (a4 : List GValue) (a5 : List GPred) (a6 : Int) (a7 : Int) (a8 : ByteArray) (a9 : List GValue) (a10 : List GValue) : Option (Bool ⊕ (Int × (List GValue) × (List GPred) × Int × Int × ByteArray × (List GValue) × (List GValue))) :=
  if a2 = true then
    (match t.slices_ContainsFunc_pred_test_3 a4 (GValue.mk a6 a7 a8 a9 a10) with
    | some a11 =>
      some (.inl a11)
    | none => none)
  else
    if (a1 == 2) = true then
      pred_test_j2 t n  a1 (a1 == 2) a3 a4 a5 a6 a7 a8 a9 a10
    else
      pred_test_j2 t n  a1 (a1 == 11) a3 a4 a5 a6 a7 a8 a9 a10
def pred_test_j3 (t : Tab) (n : Nat) (a1 : Int) (a2 : List GValue) (a3 : List GPred) (a4 : Int) (a5 : Int) (a6 : ByteArray) (a7 : List GValue) (a8 : List GValue) : Option Bool :=
  (match t.pred_alike (GValue.mk a4 a5 a6 a7 a8) a2 with
  | some a9 =>
    if a9 = true then
      t.pred_order a1 (GValue.mk a4 a5 a6 a7 a8) a2
    else
      some false
  | none => none)
def pred_test (t : Tab) (n : Nat) : GPred → GValue → Option Bool
  | ⟨a1, a2, a3⟩, ⟨a4, a5, a6, a7, a8⟩ =>
    if (a1 == 1) = true then
      (match pred_test_j1 t n  a1 (a1 == 1) a1 a2 a3 a4 a5 a6 a7 a8 with
      | some (.inl a9) =>
        some a9
      | some (.inr (a10, a11, a12, a13, a14, a15, a16, a17)) =>
        pred_test_j3 t n  a10 a11 a12 a13 a14 a15 a16 a17
      | none => none)
    else
      (match pred_test_j1 t n  a1 (a1 == 10) a1 a2 a3 a4 a5 a6 a7 a8 with
      | some (.inl a19) =>
        some a19
      | some (.inr (a20, a21, a22, a23, a24, a25, a26, a27)) =>
        pred_test_j3 t n  a20 a21 a22 a23 a24 a25 a26 a27
      | none => none)
def ref09_test_j2 (t : Tab) (n : Nat) (a1 : Bool) (a2 : Bool) (a3 : Int) (a4 : Int) (a5 : List GValue) (a6 : List GPred) (a7 : Int) (a8 : Int) (a9 : ByteArray) (a10 : List GValue) (a11 : List GValue) : Option (Bool × Bool × Int × Int × (List GValue) × (List GPred) × Int × Int × ByteArray × (List GValue) × (List GValue)) :=
  if a2 = true then
    if (decide (0 ≤ (a3 : Int))) = true then
    (match a5[(a3 : Int).toNat]? with
    | some ⟨a12, a13, a14, a15, a16⟩ =>
      some (a1, (a12 == a7), a3, a4, a5, a6, a7, a8, a9, a10, a11)
    | none => none)
    else none
  else
    some (a1, false, a3, a4, a5, a6, a7, a8, a9, a10, a11)
def ref09_test_l1 (t : Tab) (n : Nat) : Nat → Bool → Bool → Int → Int → (List GValue) → (List GPred) → Int → Int → ByteArray → (List GValue) → (List GValue) → Option (Bool × Bool × Int × Bool × Int × (List GValue) × (List GPred) × Int × Int × ByteArray × (List GValue) × (List GValue))
  | 0, _, _, _, _, _, _, _, _, _, _, _ => none
  | k + 1, a1, a2, a3, a4, a5, a6, a7, a8, a9, a10, a11 =>
    if (decide (a3 < (a5.length : Int))) = true then
      if a1 = true then
        (match ref09_test_j2 t n  true a2 a3 a4 a5 a6 a7 a8 a9 a10 a11 with
        | some (a12, a13, a14, a15, a16, a17, a18, a19, a20, a21, a22) =>
          ref09_test_l1 t n k a12 a13 (IntKind.wrap .i64 (a14 + 1)) a15 a16 a17 a18 a19 a20 a21 a22
        | none => none)
      else
        if (decide (0 ≤ (a3 : Int))) = true then
        (match a5[(a3 : Int).toNat]? with
        | some ⟨a23, a24, a25, a26, a27⟩ =>
        (match t.ref02_Same (GValue.mk a23 a24 a25 a26 a27) (GValue.mk a7 a8 a9 a10 a11) with
        | some a28 =>
          (match ref09_test_j2 t n  a28 a2 a3 a4 a5 a6 a7 a8 a9 a10 a11 with
          | some (a29, a30, a31, a32, a33, a34, a35, a36, a37, a38, a39) =>
            ref09_test_l1 t n k a29 a30 (IntKind.wrap .i64 (a31 + 1)) a32 a33 a34 a35 a36 a37 a38 a39
          | none => none)
        | none => none)
        | none => none)
        else none
    else
      some (a1, a2, a3, (decide (a3 < (a5.length : Int))), a4, a5, a6, a7, a8, a9, a10, a11)
def ref09_test_j5 (t : Tab) (n : Nat) (a1 : Bool) (a2 : Bool) (a3 : Bool) (a4 : Bool) (a5 : Int) (a6 : Bool) (a7 : Int) (a8 : List GValue) (a9 : List GPred) (a10 : Int) (a11 : Int) (a12 : ByteArray) (a13 : List GValue) (a14 : List GValue) : Option (Bool × Bool × Bool × Bool × Int × Int × (List GValue) × (List GPred) × Int × Int × ByteArray × (List GValue) × (List GValue)) :=
  if a4 = true then
    some (a1, a2, a3, a6, a5, a7, a8, a9, a10, a11, a12, a13, a14)
  else
    some (a1, a2, a3, false, a5, a7, a8, a9, a10, a11, a12, a13, a14)
def ref09_test_l4 (t : Tab) (n : Nat) : Nat → Bool → Bool → Bool → Bool → Int → Int → (List GValue) → (List GPred) → Int → Int → ByteArray → (List GValue) → (List GValue) → Option (Bool × Bool × Bool × Bool × Int × Bool × Int × (List GValue) × (List GPred) × Int × Int × ByteArray × (List GValue) × (List GValue))
  | 0, _, _, _, _, _, _, _, _, _, _, _, _, _ => none
  | k + 1, a1, a2, a3, a4, a5, a6, a7, a8, a9, a10, a11, a12, a13 =>
    if (decide (a5 < (a8.length : Int))) = true then
      if (decide (0 ≤ (a5 : Int))) = true then
      (match a8[(a5 : Int).toNat]? with
      | some ⟨a14, a15, a16⟩ =>
      (match t.ref09_test (GPred.mk a14 a15 a16) (GValue.mk a9 a10 a11 a12 a13) with
      | some a17 =>
        if a3 = true then
          (match ref09_test_j5 t n  a1 a2 true a4 a5 a17 a6 a7 a8 a9 a10 a11 a12 a13 with
          | some (a18, a19, a20, a21, a22, a23, a24, a25, a26, a27, a28, a29, a30) =>
            ref09_test_l4 t n k a18 a19 a20 a21 (IntKind.wrap .i64 (a22 + 1)) a23 a24 a25 a26 a27 a28 a29 a30
          | none => none)
        else
          (match ref09_test_j5 t n  a1 a2 a17 a4 a5 a17 a6 a7 a8 a9 a10 a11 a12 a13 with
          | some (a31, a32, a33, a34, a35, a36, a37, a38, a39, a40, a41, a42, a43) =>
            ref09_test_l4 t n k a31 a32 a33 a34 (IntKind.wrap .i64 (a35 + 1)) a36 a37 a38 a39 a40 a41 a42 a43
          | none => none)
      | none => none)
      | none => none)
      else none
    else
      some (a1, a2, a3, a4, a5, (decide (a5 < (a8.length : Int))), a6, a7, a8, a9, a10, a11, a12, a13)
def ref09_test_j8 (t : Tab) (n : Nat) (a1 : Bool) (a2 : Bool) (a3 : Bool) (a4 : Bool) (a5 : Int) (a6 : Bool) (a7 : Int) (a8 : List GValue) (a9 : List GPred) (a10 : Int) (a11 : Int) (a12 : ByteArray) (a13 : List GValue) (a14 : List GValue) : Option (Bool ⊕ (Bool × Int × (List GValue) × (List GPred) × Int × Int × ByteArray × (List GValue) × (List GValue))) :=
  if a6 = true then
    some (.inl (!a1))
  else
    if (a5 == 12) = true then
      some (.inl (!a4))
    else
      if (a5 == 13) = true then
        some (.inl a4)
      else
        if (a5 == 14) = true then
          some (.inl a3)
        else
          some (.inr (a2, a7, a8, a9, a10, a11, a12, a13, a14))
def ref09_test_j7 (t : Tab) (n : Nat) (a1 : Bool) (a2 : Bool) (a3 : Bool) (a4 : Bool) (a5 : Int) (a6 : Bool) (a7 : Int) (a8 : List GValue) (a9 : List GPred) (a10 : Int) (a11 : Int) (a12 : ByteArray) (a13 : List GValue) (a14 : List GValue) : Option (Bool ⊕ (Bool × Int × (List GValue) × (List GPred) × Int × Int × ByteArray × (List GValue) × (List GValue))) :=
  if a6 = true then
    some (.inl a1)
  else
    if (a5 == 2) = true then
      ref09_test_j8 t n  a1 a2 a3 a4 a5 (a5 == 2) a7 a8 a9 a10 a11 a12 a13 a14
    else
      ref09_test_j8 t n  a1 a2 a3 a4 a5 (a5 == 11) a7 a8 a9 a10 a11 a12 a13 a14
def ref09_test_j9 (t : Tab) (n : Nat) (a1 : Bool) (a2 : Int) (a3 : List GValue) (a4 : List GPred) (a5 : Int) (a6 : Int) (a7 : ByteArray) (a8 : List GValue) (a9 : List GValue) : Option Bool :=
  if a1 = true then
    if (decide (0 ≤ (0 : Int))) = true then
    (match a3[(0 : Int).toNat]? with
    | some ⟨a10, a11, a12, a13, a14⟩ =>
    (match t.ref02_Cmp (GValue.mk a5 a6 a7 a8 a9) (GValue.mk a10 a11 a12 a13 a14) with
    | some a15 =>
      if (a2 == 3) = true then
        some (a15 == (-1))
      else
        if (a2 == 4) = true then
          some (a15 != 1)
        else
          if (a2 == 5) = true then
            some (a15 == 1)
          else
            if (a2 == 6) = true then
              some (a15 != (-1))
            else
              if (decide (0 ≤ (1 : Int))) = true then
              (match a3[(1 : Int).toNat]? with
              | some ⟨a16, a17, a18, a19, a20⟩ =>
              (match t.ref02_Cmp (GValue.mk a5 a6 a7 a8 a9) (GValue.mk a16 a17 a18 a19 a20) with
              | some a21 =>
                if (a2 == 7) = true then
                  if (a15 != (-1)) = true then
                    some (a21 == (-1))
                  else
                    some false
                else
                  if (a2 == 8) = true then
                    if (a15 == 1) = true then
                      some (a21 == (-1))
                    else
                      some false
                  else
                    if (a15 == (-1)) = true then
                      some true
                    else
                      some (a21 == 1)
              | none => none)
              | none => none)
              else none
    | none => none)
    | none => none)
    else none
  else
    some false
def ref09_test_j6 (t : Tab) (n : Nat) (a1 : Bool) (a2 : Bool) (a3 : Bool) (a4 : Bool) (a5 : Int) (a6 : List GValue) (a7 : List GPred) (a8 : Int) (a9 : Int) (a10 : ByteArray) (a11 : List GValue) (a12 : List GValue) : Option Bool :=
  if (a5 == 1) = true then
    (match ref09_test_j7 t n  a1 a2 a3 a4 a5 (a5 == 1) a5 a6 a7 a8 a9 a10 a11 a12 with
    | some (.inl a13) =>
      some a13
    | some (.inr (a14, a15, a16, a17, a18, a19, a20, a21, a22)) =>
      ref09_test_j9 t n  a14 a15 a16 a17 a18 a19 a20 a21 a22
    | none => none)
  else
    (match ref09_test_j7 t n  a1 a2 a3 a4 a5 (a5 == 10) a5 a6 a7 a8 a9 a10 a11 a12 with
    | some (.inl a24) =>
      some a24
    | some (.inr (a25, a26, a27, a28, a29, a30, a31, a32, a33)) =>
      ref09_test_j9 t n  a25 a26 a27 a28 a29 a30 a31 a32 a33
    | none => none)
def ref09_test_j3 (t : Tab) (n : Nat) (a1 : Bool) (a2 : Bool) (a3 : Int) (a4 : List GValue) (a5 : List GPred) (a6 : Int) (a7 : Int) (a8 : ByteArray) (a9 : List GValue) (a10 : List GValue) : Option Bool :=
  (match ref09_test_l4 t n n a1 a2 false true 0 a3 a4 a5 a6 a7 a8 a9 a10 with
  | some (a11, a12, a13, a14, a15, a16, a17, a18, a19, a20, a21, a22, a23, a24) =>
    ref09_test_j6 t n  a11 a12 a13 a14 a17 a18 a19 a20 a21 a22 a23 a24
  | none => none)
def ref09_test (t : Tab) (n : Nat) : GPred → GValue → Option Bool
  | ⟨a1, a2, a3⟩, ⟨a4, a5, a6, a7, a8⟩ =>
    (match ref09_test_l1 t n n false true 0 a1 a2 a3 a4 a5 a6 a7 a8 with
    | some (a9, a10, a11, a12, a13, a14, a15, a16, a17, a18, a19, a20) =>
      ref09_test_j3 t n  a9 a10 a13 a14 a15 a16 a17 a18 a19 a20
    | none => none)
def pred_Copy (t : Tab) (n : Nat) : GPred → Option GPred
  | ⟨a1, a2, a3⟩ =>
    t.pred_part (GPred.mk a1 a2 a3) 1
def pred_negate_l2 (t : Tab) (n : Nat) : Nat → (List GPred) → Int → Int → Int → (List GValue) → (List GPred) → Int → (List GValue) → (List GPred) → Option ((List GPred) × Int × Int × Bool × Int × (List GValue) × (List GPred) × Int × (List GValue) × (List GPred))
  | 0, _, _, _, _, _, _, _, _, _ => none
  | k + 1, a1, a2, a3, a4, a5, a6, a7, a8, a9 =>
    if (decide (a3 < a2)) = true then
      if (decide (0 ≤ (a3 : Int))) = true then
      (match a1[(a3 : Int).toNat]? with
      | some ⟨a10, a11, a12⟩ =>
      (match t.pred_negate (GPred.mk a10 a11 a12) with
      | some ⟨a13, a14, a15⟩ =>
      if (a9.length + ([(GPred.mk a13 a14 a15)] : List GPred).length) * 56 ≤ 140737488355328 then
      pred_negate_l2 t n k a1 a2 (IntKind.wrap .i64 (a3 + 1)) a4 a5 a6 a7 a8 (a9 ++ ([(GPred.mk a13 a14 a15)] : List GPred))
      else none
      | none => none)
      | none => none)
      else none
    else
      some (a1, a2, a3, (decide (a3 < a2)), a4, a5, a6, a7, a8, a9)
def pred_negate_j1 (t : Tab) (n : Nat) (a1 : Bool) (a2 : Int) (a3 : List GValue) (a4 : List GPred) (a5 : Int) (a6 : List GValue) (a7 : List GPred) : Option ((Int × (List GValue) × (List GPred)) ⊕ (Int × (List GValue) × (List GPred) × Int × (List GValue) × (List GPred))) :=
  if a1 = true then
    (match pred_negate_l2 t n n a4 (a4.length : Int) 0 a5 a6 a7 (IntKind.wrap .i64 (27 - a2)) ([] : List GValue) ([] : List GPred) with
    | some (a8, a9, a10, a11, a12, a13, a14, a15, a16, a17) =>
      some (.inl (a15, a16, a17))
    | none => none)
  else
    some (.inr (a2, a3, a4, a5, a6, a7))
def pred_negate (t : Tab) (n : Nat) : GPred → Option GPred
  | ⟨a1, a2, a3⟩ =>
    (match t.pred_other a1 with
    | some (a4, a5) =>
      if a5 = true then
        some (GPred.mk a4 a2 a3)
      else
        if (a1 == 12) = true then
          if (decide (0 ≤ (0 : Int))) = true then
          (match a3[(0 : Int).toNat]? with
          | some ⟨a6, a7, a8⟩ =>
            some (GPred.mk a6 a7 a8)
          | none => none)
          else none
        else
          if (a1 == 13) = true then
            (match pred_negate_j1 t n  (a1 == 13) a1 a2 a3 0 ([] : List GValue) ([] : List GPred) with
            | some (.inl (a9, a10, a11)) =>
              some (GPred.mk a9 a10 a11)
            | some (.inr (a12, a13, a14, a15, a16, a17)) =>
              some (GPred.mk 12 ([] : List GValue) ([(GPred.mk a12 a13 a14)] : List GPred))
            | none => none)
          else
            (match pred_negate_j1 t n  (a1 == 14) a1 a2 a3 0 ([] : List GValue) ([] : List GPred) with
            | some (.inl (a18, a19, a20)) =>
              some (GPred.mk a18 a19 a20)
            | some (.inr (a21, a22, a23, a24, a25, a26)) =>
              some (GPred.mk 12 ([] : List GValue) ([(GPred.mk a21 a22 a23)] : List GPred))
            | none => none)
    | none => none)
def ref02_SameRows_l1 (t : Tab) (n : Nat) : Nat → (List GValue) → (List GValue) → Int → Option (Bool ⊕ ((List GValue) × (List GValue) × Int × Bool))
  | 0, _, _, _ => none
  | k + 1, a1, a2, a3 =>
    if (decide (a3 < (a1.length : Int))) = true then
      if (decide (0 ≤ (a3 : Int))) = true then
      (match a1[(a3 : Int).toNat]? with
      | some ⟨a4, a5, a6, a7, a8⟩ =>
      (match a2[(a3 : Int).toNat]? with
      | some ⟨a9, a10, a11, a12, a13⟩ =>
      (match t.ref02_Same (GValue.mk a4 a5 a6 a7 a8) (GValue.mk a9 a10 a11 a12 a13) with
      | some a14 =>
        if a14 = true then
          ref02_SameRows_l1 t n k a1 a2 (IntKind.wrap .i64 (a3 + 1))
        else
          some (.inl false)
      | none => none)
      | none => none)
      | none => none)
      else none
    else
      some (.inr (a1, a2, a3, (decide (a3 < (a1.length : Int)))))
def ref02_SameRows (t : Tab) (n : Nat) : (List GValue) → (List GValue) → Option Bool
  | a1, a2 =>
    if ((a1.length : Int) != (a2.length : Int)) = true then
      some false
    else
      (match ref02_SameRows_l1 t n n a1 a2 0 with
      | some (.inl a3) =>
        some a3
      | some (.inr (a4, a5, a6, a7)) =>
        some true
      | none => none)
def ref02_right_l2 (t : Tab) (n : Nat) : Nat → Int → Int → Int → Int → ByteArray → (List GValue) → (List GValue) → Option (Bool ⊕ (Int × Int × Bool × Int × Int × ByteArray × (List GValue) × (List GValue)))
  | 0, _, _, _, _, _, _, _ => none
  | k + 1, a1, a2, a3, a4, a5, a6, a7 =>
    if (decide (a2 < (a6.length : Int))) = true then
      if (decide (0 ≤ (a2 : Int))) = true then
      (match a6[(a2 : Int).toNat]? with
      | some ⟨a8, a9, a10, a11, a12⟩ =>
      (match t.ref02_right (GValue.mk a8 a9 a10 a11 a12) (IntKind.wrap .i64 (a1 + 1)) with
      | some a13 =>
        if a13 = true then
          if (a3 == 7) = true then
            if (decide (a2 > 0)) = true then
              if (decide (0 ≤ ((IntKind.wrap .i64 (a2 - 1)) : Int))) = true then
              (match a6[((IntKind.wrap .i64 (a2 - 1)) : Int).toNat]? with
              | some ⟨a14, a15, a16, a17, a18⟩ =>
              (match t.ref02_Cmp (GValue.mk a14 a15 a16 a17 a18) (GValue.mk a8 a9 a10 a11 a12) with
              | some a19 =>
                if (a19 != (-1)) = true then
                  some (.inl false)
                else
                  ref02_right_l2 t n k a1 (IntKind.wrap .i64 (a2 + 1)) a3 a4 a5 a6 a7
              | none => none)
              | none => none)
              else none
            else
              ref02_right_l2 t n k a1 (IntKind.wrap .i64 (a2 + 1)) a3 a4 a5 a6 a7
          else
            ref02_right_l2 t n k a1 (IntKind.wrap .i64 (a2 + 1)) a3 a4 a5 a6 a7
        else
          some (.inl false)
      | none => none)
      | none => none)
      else none
    else
      some (.inr (a1, a2, (decide (a2 < (a6.length : Int))), a3, a4, a5, a6, a7))
def ref02_right_l4 (t : Tab) (n : Nat) : Nat → Int → Int → Int → Int → ByteArray → (List GValue) → (List GValue) → Option (Bool ⊕ (Int × Int × Bool × Int × Int × ByteArray × (List GValue) × (List GValue)))
  | 0, _, _, _, _, _, _, _ => none
  | k + 1, a1, a2, a3, a4, a5, a6, a7 =>
    if (decide (a2 < (a7.length : Int))) = true then
      if (decide (0 ≤ (a2 : Int))) = true then
      (match a7[(a2 : Int).toNat]? with
      | some ⟨a8, a9, a10, a11, a12⟩ =>
      (match t.ref02_right (GValue.mk a8 a9 a10 a11 a12) (IntKind.wrap .i64 (a1 + 1)) with
      | some a13 =>
        if a13 = true then
          ref02_right_l4 t n k a1 (IntKind.wrap .i64 (a2 + 1)) a3 a4 a5 a6 a7
        else
          some (.inl false)
      | none => none)
      | none => none)
      else none
    else
      some (.inr (a1, a2, (decide (a2 < (a7.length : Int))), a3, a4, a5, a6, a7))
def ref02_right_j3 (t : Tab) (n : Nat) (a1 : Int) (a2 : Int) (a3 : Int) (a4 : ByteArray) (a5 : List GValue) (a6 : List GValue) : Option Bool :=
  (match ref02_right_l4 t n n a1 0 a2 a3 a4 a5 a6 with
  | some (.inl a7) =>
    some a7
  | some (.inr (a8, a9, a10, a11, a12, a13, a14, a15)) =>
    some true
  | none => none)
def ref02_right_j1 (t : Tab) (n : Nat) (a1 : Int) (a2 : Int) (a3 : Int) (a4 : ByteArray) (a5 : List GValue) (a6 : List GValue) : Option Bool :=
  (match ref02_right_l2 t n n a1 0 a2 a3 a4 a5 a6 with
  | some (.inl a7) =>
    some a7
  | some (.inr (a8, a9, a10, a11, a12, a13, a14, a15)) =>
    ref02_right_j3 t n  a8 a11 a12 a13 a14 a15
  | none => none)
def ref02_right (t : Tab) (n : Nat) : GValue → Int → Option Bool
  | ⟨a1, a2, a3, a4, a5⟩, a6 =>
    if (decide (a6 > 12)) = true then
      some false
    else
      (match t.ref02_fields (GValue.mk a1 a2 a3 a4 a5) with
      | some a7 =>
        if a7 = true then
          ref02_right_j1 t n  a6 a1 a2 a3 a4 a5
        else
          some false
      | none => none)
def ref02_Count_j2 (t : Tab) (n : Nat) (a1 : Int) (a2 : Int) (a3 : Int) (a4 : Int) (a5 : Int) (a6 : ByteArray) (a7 : List GValue) (a8 : List GValue) : Option (Int × Int × Int × Int × Int × ByteArray × (List GValue) × (List GValue)) :=
  if (decide (0 ≤ (a3 : Int))) = true then
  (match a7[(a3 : Int).toNat]? with
  | some ⟨a9, a10, a11, a12, a13⟩ =>
  (match t.ref02_Count (GValue.mk a9 a10 a11 a12 a13) (IntKind.wrap .i64 (a1 - a2)) with
  | some a14 =>
    some (a1, (IntKind.wrap .i64 (a2 + a14)), (IntKind.wrap .i64 (a3 + 1)), a4, a5, a6, a7, a8)
  | none => none)
  | none => none)
  else none
def ref02_Count_l1 (t : Tab) (n : Nat) : Nat → Int → Int → Int → Int → Int → ByteArray → (List GValue) → (List GValue) → Option (Int × Int × Int × Bool × Int × Int × ByteArray × (List GValue) × (List GValue))
  | 0, _, _, _, _, _, _, _, _ => none
  | k + 1, a1, a2, a3, a4, a5, a6, a7, a8 =>
    if (decide (a3 < (a7.length : Int))) = true then
      if (decide (a2 < a1)) = true then
        (match ref02_Count_j2 t n  a1 a2 a3 a4 a5 a6 a7 a8 with
        | some (a9, a10, a11, a12, a13, a14, a15, a16) =>
          ref02_Count_l1 t n k a9 a10 a11 a12 a13 a14 a15 a16
        | none => none)
      else
        some (a1, a2, a3, (decide (a2 < a1)), a4, a5, a6, a7, a8)
    else
      some (a1, a2, a3, false, a4, a5, a6, a7, a8)
def ref02_Count_j5 (t : Tab) (n : Nat) (a1 : Int) (a2 : Int) (a3 : Int) (a4 : Int) (a5 : Int) (a6 : ByteArray) (a7 : List GValue) (a8 : List GValue) : Option (Int × Int × Int × Int × Int × ByteArray × (List GValue) × (List GValue)) :=
  if (decide (0 ≤ (a3 : Int))) = true then
  (match a8[(a3 : Int).toNat]? with
  | some ⟨a9, a10, a11, a12, a13⟩ =>
  (match t.ref02_Count (GValue.mk a9 a10 a11 a12 a13) (IntKind.wrap .i64 (a1 - a2)) with
  | some a14 =>
    some (a1, (IntKind.wrap .i64 (a2 + a14)), (IntKind.wrap .i64 (a3 + 1)), a4, a5, a6, a7, a8)
  | none => none)
  | none => none)
  else none
def ref02_Count_l4 (t : Tab) (n : Nat) : Nat → Int → Int → Int → Int → Int → ByteArray → (List GValue) → (List GValue) → Option (Int × Int × Int × Bool × Int × Int × ByteArray × (List GValue) × (List GValue))
  | 0, _, _, _, _, _, _, _, _ => none
  | k + 1, a1, a2, a3, a4, a5, a6, a7, a8 =>
    if (decide (a3 < (a8.length : Int))) = true then
      if (decide (a2 < a1)) = true then
        (match ref02_Count_j5 t n  a1 a2 a3 a4 a5 a6 a7 a8 with
        | some (a9, a10, a11, a12, a13, a14, a15, a16) =>
          ref02_Count_l4 t n k a9 a10 a11 a12 a13 a14 a15 a16
        | none => none)
      else
        some (a1, a2, a3, (decide (a2 < a1)), a4, a5, a6, a7, a8)
    else
      some (a1, a2, a3, false, a4, a5, a6, a7, a8)
def ref02_Count_j6 (t : Tab) (n : Nat) (a1 : Int) (a2 : Int) (a3 : Int) (a4 : ByteArray) (a5 : List GValue) (a6 : List GValue) : Option Int :=
  (match quoI .i64 (a4.size : Int) 20 with
  | some a7 =>
    some (IntKind.wrap .i64 (a1 + a7))
  | none => none)
def ref02_Count_j3 (t : Tab) (n : Nat) (a1 : Int) (a2 : Int) (a3 : Int) (a4 : Int) (a5 : ByteArray) (a6 : List GValue) (a7 : List GValue) : Option Int :=
  (match ref02_Count_l4 t n n a1 a2 0 a3 a4 a5 a6 a7 with
  | some (a8, a9, a10, a11, a12, a13, a14, a15, a16) =>
    ref02_Count_j6 t n  a9 a12 a13 a14 a15 a16
  | none => none)
def ref02_Count (t : Tab) (n : Nat) : GValue → Int → Option Int
  | ⟨a1, a2, a3, a4, a5⟩, a6 =>
    (match ref02_Count_l1 t n n a6 1 0 a1 a2 a3 a4 a5 with
    | some (a7, a8, a9, a10, a11, a12, a13, a14, a15) =>
      ref02_Count_j3 t n  a7 a8 a11 a12 a13 a14 a15
    | none => none)
def ref02_compare_j3 (t : Tab) (n : Nat) (a1 : Int) (a2 : Int) (a3 : Bool) (a4 : Int) (a5 : Int) (a6 : ByteArray) (a7 : List GValue) (a8 : List GValue) (a9 : Int) (a10 : Int) (a11 : ByteArray) (a12 : List GValue) (a13 : List GValue) : Option (Int × Int × Int × Int × ByteArray × (List GValue) × (List GValue) × Int × Int × ByteArray × (List GValue) × (List GValue)) :=
  if a3 = true then
    (match t.ref02_rows a7 a12 (IntKind.wrap .i64 (a1 + 1)) with
    | some a14 =>
      some (a1, a14, a4, a5, a6, a7, a8, a9, a10, a11, a12, a13)
    | none => none)
  else
    some (a1, a2, a4, a5, a6, a7, a8, a9, a10, a11, a12, a13)
def ref02_compare_j5 (t : Tab) (n : Nat) (a1 : Int) (a2 : Int) (a3 : Bool) (a4 : Int) (a5 : Int) (a6 : ByteArray) (a7 : List GValue) (a8 : List GValue) (a9 : Int) (a10 : Int) (a11 : ByteArray) (a12 : List GValue) (a13 : List GValue) : Option Int :=
  if a3 = true then
    t.ref02_rows a8 a13 (IntKind.wrap .i64 (a1 + 1))
  else
    some a2
def ref02_compare_j4 (t : Tab) (n : Nat) (a1 : Int) (a2 : Int) (a3 : Int) (a4 : Int) (a5 : ByteArray) (a6 : List GValue) (a7 : List GValue) (a8 : Int) (a9 : Int) (a10 : ByteArray) (a11 : List GValue) (a12 : List GValue) : Option Int :=
  if (a2 == 0) = true then
    ref02_compare_j5 t n  a1 a2 (decide (a1 ≤ 12)) a3 a4 a5 a6 a7 a8 a9 a10 a11 a12
  else
    ref02_compare_j5 t n  a1 a2 false a3 a4 a5 a6 a7 a8 a9 a10 a11 a12
def ref02_compare_j2 (t : Tab) (n : Nat) (a1 : Int) (a2 : Int) (a3 : Int) (a4 : Int) (a5 : ByteArray) (a6 : List GValue) (a7 : List GValue) (a8 : Int) (a9 : Int) (a10 : ByteArray) (a11 : List GValue) (a12 : List GValue) : Option Int :=
  if (a2 == 0) = true then
    (match ref02_compare_j3 t n  a1 a2 (decide (a1 ≤ 12)) a3 a4 a5 a6 a7 a8 a9 a10 a11 a12 with
    | some (a13, a14, a15, a16, a17, a18, a19, a20, a21, a22, a23, a24) =>
      ref02_compare_j4 t n  a13 a14 a15 a16 a17 a18 a19 a20 a21 a22 a23 a24
    | none => none)
  else
    (match ref02_compare_j3 t n  a1 a2 false a3 a4 a5 a6 a7 a8 a9 a10 a11 a12 with
    | some (a26, a27, a28, a29, a30, a31, a32, a33, a34, a35, a36, a37) =>
      ref02_compare_j4 t n  a26 a27 a28 a29 a30 a31 a32 a33 a34 a35 a36 a37
    | none => none)
def ref02_compare_j1 (t : Tab) (n : Nat) (a1 : Int) (a2 : Int) (a3 : Int) (a4 : Int) (a5 : ByteArray) (a6 : List GValue) (a7 : List GValue) (a8 : Int) (a9 : Int) (a10 : ByteArray) (a11 : List GValue) (a12 : List GValue) : Option Int :=
  if (a2 == 0) = true then
    (match t.ref02_texts a5 a10 with
    | some a13 =>
      ref02_compare_j2 t n  a1 a13 a3 a4 a5 a6 a7 a8 a9 a10 a11 a12
    | none => none)
  else
    ref02_compare_j2 t n  a1 a2 a3 a4 a5 a6 a7 a8 a9 a10 a11 a12
def ref02_compare (t : Tab) (n : Nat) : GValue → GValue → Int → Option Int
  | ⟨a1, a2, a3, a4, a5⟩, ⟨a6, a7, a8, a9, a10⟩, a11 =>
    (match t.ref02_sign a1 a6 with
    | some a12 =>
      if (a12 == 0) = true then
        (match t.ref02_sign a2 a7 with
        | some a13 =>
          ref02_compare_j1 t n  a11 a13 a1 a2 a3 a4 a5 a6 a7 a8 a9 a10
        | none => none)
      else
        ref02_compare_j1 t n  a11 a12 a1 a2 a3 a4 a5 a6 a7 a8 a9 a10
    | none => none)
def pred_arity_j3 (t : Tab) (n : Nat) (a1 : Int) (a2 : Bool) : Option ((Int × Int × Int × Int) ⊕ Unit) :=
  if a2 = true then
    some (.inl (0, 1000, 0, 0))
  else
    if (a1 == 12) = true then
      some (.inl (0, 0, 1, 1))
    else
      if (a1 == 13) = true then
        some (.inl (0, 0, 2, 1000))
      else
        if (a1 == 14) = true then
          some (.inl (0, 0, 2, 1000))
        else
          some (.inr ())
def pred_arity_j2 (t : Tab) (n : Nat) (a1 : Int) (a2 : Bool) : Option ((Int × Int × Int × Int) ⊕ Unit) :=
  if a2 = true then
    some (.inl (2, 2, 0, 0))
  else
    if (a1 == 10) = true then
      pred_arity_j3 t n  a1 true
    else
      pred_arity_j3 t n  a1 (a1 == 11)
def pred_arity_j1 (t : Tab) (n : Nat) (a1 : Int) (a2 : Bool) : Option ((Int × Int × Int × Int) ⊕ Unit) :=
  if a2 = true then
    some (.inl (1, 1, 0, 0))
  else
    if (decide (a1 ≥ 7)) = true then
      pred_arity_j2 t n  a1 (decide (a1 ≤ 9))
    else
      pred_arity_j2 t n  a1 false
def pred_arity (t : Tab) (n : Nat) : Int → Option (Int × Int × Int × Int)
  | a1 =>
    if (decide (a1 ≥ 1)) = true then
      (match pred_arity_j1 t n  a1 (decide (a1 ≤ 6)) with
      | some (.inl (a2, a3, a4, a5)) =>
        some (a2, a3, a4, a5)
      | some (.inr ()) =>
        some (1, 0, 1, 0)
      | none => none)
    else
      (match pred_arity_j1 t n  a1 false with
      | some (.inl (a6, a7, a8, a9)) =>
        some (a6, a7, a8, a9)
      | some (.inr ()) =>
        some (1, 0, 1, 0)
      | none => none)
def slices_ContainsFunc_pred_right_1 (t : Tab) (n : Nat) : (List GPred) → Int → Option Bool
  | a1, a2 =>
    (match t.slices_IndexFunc_pred_right_1 a1 a2 with
    | some a3 =>
      some (decide (a3 ≥ 0))
    | none => none)
def slices_ContainsFunc_pred_right_2 (t : Tab) (n : Nat) : (List GValue) → Option Bool
  | a1 =>
    (match t.slices_IndexFunc_pred_right_2 a1 with
    | some a2 =>
      some (decide (a2 ≥ 0))
    | none => none)
def slices_ContainsFunc_pred_test_3 (t : Tab) (n : Nat) : (List GValue) → GValue → Option Bool
  | a1, ⟨a2, a3, a4, a5, a6⟩ =>
    (match t.slices_IndexFunc_pred_test_3 a1 (GValue.mk a2 a3 a4 a5 a6) with
    | some a7 =>
      some (decide (a7 ≥ 0))
    | none => none)
def slices_ContainsFunc_pred_test_1 (t : Tab) (n : Nat) : (List GPred) → GValue → Option Bool
  | a1, ⟨a2, a3, a4, a5, a6⟩ =>
    (match t.slices_IndexFunc_pred_test_1 a1 (GValue.mk a2 a3 a4 a5 a6) with
    | some a7 =>
      some (decide (a7 ≥ 0))
    | none => none)
def slices_ContainsFunc_pred_test_2 (t : Tab) (n : Nat) : (List GPred) → GValue → Option Bool
  | a1, ⟨a2, a3, a4, a5, a6⟩ =>
    (match t.slices_IndexFunc_pred_test_2 a1 (GValue.mk a2 a3 a4 a5 a6) with
    | some a7 =>
      some (decide (a7 ≥ 0))
    | none => none)
def pred_test_2 (t : Tab) (n : Nat) : GPred → GValue → Option Bool
  | ⟨a1, a2, a3⟩, ⟨a4, a5, a6, a7, a8⟩ =>
    (match t.pred_test (GPred.mk a1 a2 a3) (GValue.mk a4 a5 a6 a7 a8) with
    | some a9 =>
      some (!a9)
    | none => none)
def pred_alike (t : Tab) (n : Nat) : GValue → (List GValue) → Option Bool
  | ⟨a1, a2, a3, a4, a5⟩, a6 =>
    (match t.slices_ContainsFunc_pred_alike_1 a6 (GValue.mk a1 a2 a3 a4 a5) with
    | some a7 =>
      some (!a7)
    | none => none)
def pred_order (t : Tab) (n : Nat) : Int → GValue → (List GValue) → Option Bool
  | a1, ⟨a2, a3, a4, a5, a6⟩, a7 =>
    if (decide (0 ≤ (0 : Int))) = true then
    (match a7[(0 : Int).toNat]? with
    | some ⟨a8, a9, a10, a11, a12⟩ =>
    (match t.value_Cmp (GValue.mk a2 a3 a4 a5 a6) (GValue.mk a8 a9 a10 a11 a12) with
    | some a13 =>
    if (decide (0 ≤ ((IntKind.wrap .i64 ((a7.length : Int) - 1)) : Int))) = true then
    (match a7[((IntKind.wrap .i64 ((a7.length : Int) - 1)) : Int).toNat]? with
    | some ⟨a14, a15, a16, a17, a18⟩ =>
    (match t.value_Cmp (GValue.mk a2 a3 a4 a5 a6) (GValue.mk a14 a15 a16 a17 a18) with
    | some a19 =>
      if (a1 == 3) = true then
        some (decide (a13 < 0))
      else
        if (a1 == 4) = true then
          some (decide (a13 ≤ 0))
        else
          if (a1 == 5) = true then
            some (decide (a13 > 0))
          else
            if (a1 == 6) = true then
              some (decide (a13 ≥ 0))
            else
              if (a1 == 7) = true then
                if (decide (a13 ≥ 0)) = true then
                  some (decide (a19 < 0))
                else
                  some false
              else
                if (a1 == 8) = true then
                  if (decide (a13 > 0)) = true then
                    some (decide (a19 < 0))
                  else
                    some false
                else
                  if (decide (a13 < 0)) = true then
                    some true
                  else
                    some (decide (a19 > 0))
    | none => none)
    | none => none)
    else none
    | none => none)
    | none => none)
    else none
def ref02_Cmp (t : Tab) (n : Nat) : GValue → GValue → Option Int
  | ⟨a1, a2, a3, a4, a5⟩, ⟨a6, a7, a8, a9, a10⟩ =>
    t.ref02_compare (GValue.mk a1 a2 a3 a4 a5) (GValue.mk a6 a7 a8 a9 a10) 1
def pred_part_l1 (t : Tab) (n : Nat) : Nat → Int → (List GValue) → Int → Int → Int → (List GValue) → (List GPred) → Int → (List GValue) → (List GPred) → Int → (List GValue) → (List GPred) → Option (Int × (List GValue) × Int × Int × Bool × Int × (List GValue) × (List GPred) × Int × (List GValue) × (List GPred) × Int × (List GValue) × (List GPred))
  | 0, _, _, _, _, _, _, _, _, _, _, _, _, _ => none
  | k + 1, a1, a2, a3, a4, a5, a6, a7, a8, a9, a10, a11, a12, a13 =>
    if (decide (a4 < a3)) = true then
      if (decide (0 ≤ (a4 : Int))) = true then
      (match a2[(a4 : Int).toNat]? with
      | some ⟨a14, a15, a16, a17, a18⟩ =>
      (match t.value_Copy (GValue.mk a14 a15 a16 a17 a18) with
      | some ⟨a19, a20, a21, a22, a23⟩ =>
      if (a12.length + ([(GValue.mk a19 a20 a21 a22 a23)] : List GValue).length) * 80 ≤ 140737488355328 then
      pred_part_l1 t n k a1 a2 a3 (IntKind.wrap .i64 (a4 + 1)) a5 a6 a7 a8 a9 a10 a11 (a12 ++ ([(GValue.mk a19 a20 a21 a22 a23)] : List GValue)) a13
      else none
      | none => none)
      | none => none)
      else none
    else
      some (a1, a2, a3, a4, (decide (a4 < a3)), a5, a6, a7, a8, a9, a10, a11, a12, a13)
def pred_part_l3 (t : Tab) (n : Nat) : Nat → Int → (List GPred) → Int → Int → Int → (List GValue) → (List GPred) → Int → (List GValue) → (List GPred) → Option (Int × (List GPred) × Int × Int × Bool × Int × (List GValue) × (List GPred) × Int × (List GValue) × (List GPred))
  | 0, _, _, _, _, _, _, _, _, _, _ => none
  | k + 1, a1, a2, a3, a4, a5, a6, a7, a8, a9, a10 =>
    if (decide (a4 < a3)) = true then
      if (decide (0 ≤ (a4 : Int))) = true then
      (match a2[(a4 : Int).toNat]? with
      | some ⟨a11, a12, a13⟩ =>
      (match t.pred_part (GPred.mk a11 a12 a13) (IntKind.wrap .i64 (a1 + 1)) with
      | some ⟨a14, a15, a16⟩ =>
      if (a10.length + ([(GPred.mk a14 a15 a16)] : List GPred).length) * 56 ≤ 140737488355328 then
      pred_part_l3 t n k a1 a2 a3 (IntKind.wrap .i64 (a4 + 1)) a5 a6 a7 a8 a9 (a10 ++ ([(GPred.mk a14 a15 a16)] : List GPred))
      else none
      | none => none)
      | none => none)
      else none
    else
      some (a1, a2, a3, a4, (decide (a4 < a3)), a5, a6, a7, a8, a9, a10)
def pred_part_j2 (t : Tab) (n : Nat) (a1 : Int) (a2 : Int) (a3 : List GValue) (a4 : List GPred) (a5 : Int) (a6 : List GValue) (a7 : List GPred) (a8 : Int) (a9 : List GValue) (a10 : List GPred) : Option (Int × (List GValue) × (List GPred)) :=
  (match pred_part_l3 t n n a1 a4 (a4.length : Int) 0 a5 a6 a7 a8 a9 a10 with
  | some (a11, a12, a13, a14, a15, a16, a17, a18, a19, a20, a21) =>
    some (a19, a20, a21)
  | none => none)
def pred_part (t : Tab) (n : Nat) : GPred → Int → Option GPred
  | ⟨a1, a2, a3⟩, a4 =>
    if (decide (a4 > 12)) = true then
      some (GPred.mk a1 ([] : List GValue) ([] : List GPred))
    else
      (match pred_part_l1 t n n a4 a2 (a2.length : Int) 0 a1 a2 a3 0 ([] : List GValue) ([] : List GPred) a1 ([] : List GValue) ([] : List GPred) with
      | some (a5, a6, a7, a8, a9, a10, a11, a12, a13, a14, a15, a16, a17, a18) =>
        (match pred_part_j2 t n  a5 a10 a11 a12 a13 a14 a15 a16 a17 a18 with
        | some (a19, a20, a21) =>
          some (GPred.mk a19 a20 a21)
        | none => none)
      | none => none)
def pred_other (t : Tab) (n : Nat) : Int → Option (Int × Bool)
  | a1 =>
    if (a1 == 1) = true then
      some (2, true)
    else
      if (a1 == 2) = true then
        some (1, true)
      else
        if (a1 == 10) = true then
          some (11, true)
        else
          if (a1 == 11) = true then
            some (10, true)
          else
            some (0, false)
def ref02_fields_j2 (t : Tab) (n : Nat) (a1 : Int) (a2 : Bool) (a3 : Int) (a4 : Int) (a5 : ByteArray) (a6 : List GValue) (a7 : List GValue) : Option (Bool ⊕ Unit) :=
  if a2 = true then
    if (a4 == 0) = true then
      if (a5.toList == (ByteArray.mk #[]).toList) = true then
        if (decide ((a6.length : Int) ≤ 1000)) = true then
          some (.inl ((a7.length : Int) == 0))
        else
          some (.inl false)
      else
        some (.inl false)
    else
      some (.inl false)
  else
    if (a1 == 7) = true then
      if (a4 == 0) = true then
        if (a5.toList == (ByteArray.mk #[]).toList) = true then
          if (decide ((a6.length : Int) ≤ 1000)) = true then
            some (.inl ((a7.length : Int) == (a6.length : Int)))
          else
            some (.inl false)
        else
          some (.inl false)
      else
        some (.inl false)
    else
      some (.inr ())
def ref02_fields_j1 (t : Tab) (n : Nat) (a1 : Int) (a2 : Bool) (a3 : Int) (a4 : Int) (a5 : ByteArray) (a6 : List GValue) (a7 : List GValue) : Option (Bool ⊕ Unit) :=
  if a2 = true then
    if (decide (a4 ≥ 0)) = true then
      if (a5.toList == (ByteArray.mk #[]).toList) = true then
        if ((a6.length : Int) == 0) = true then
          some (.inl ((a7.length : Int) == 0))
        else
          some (.inl false)
      else
        some (.inl false)
    else
      some (.inl false)
  else
    if (a1 == 6) = true then
      ref02_fields_j2 t n  a1 (a1 == 6) a3 a4 a5 a6 a7
    else
      ref02_fields_j2 t n  a1 (a1 == 8) a3 a4 a5 a6 a7
def ref02_fields (t : Tab) (n : Nat) : GValue → Option Bool
  | ⟨a1, a2, a3, a4, a5⟩ =>
    if (a1 == 1) = true then
      if (a2 == 0) = true then
        if (a3.toList == (ByteArray.mk #[]).toList) = true then
          if ((a4.length : Int) == 0) = true then
            some ((a5.length : Int) == 0)
          else
            some false
        else
          some false
      else
        if (a2 == 1) = true then
          if (a3.toList == (ByteArray.mk #[]).toList) = true then
            if ((a4.length : Int) == 0) = true then
              some ((a5.length : Int) == 0)
            else
              some false
          else
            some false
        else
          some false
    else
      if (a1 == 2) = true then
        if (a3.toList == (ByteArray.mk #[]).toList) = true then
          if ((a4.length : Int) == 0) = true then
            some ((a5.length : Int) == 0)
          else
            some false
        else
          some false
      else
        if (a1 == 3) = true then
          if (a2 == 0) = true then
            if (decide ((a3.size : Int) ≤ 1000)) = true then
              if ((a4.length : Int) == 0) = true then
                some ((a5.length : Int) == 0)
              else
                some false
            else
              some false
          else
            some false
        else
          if (a1 == 4) = true then
            (match ref02_fields_j1 t n  a1 (a1 == 4) a1 a2 a3 a4 a5 with
            | some (.inl a6) =>
              some a6
            | some (.inr ()) =>
              some false
            | none => none)
          else
            (match ref02_fields_j1 t n  a1 (a1 == 5) a1 a2 a3 a4 a5 with
            | some (.inl a7) =>
              some a7
            | some (.inr ()) =>
              some false
            | none => none)
def ref02_sign (t : Tab) (n : Nat) : Int → Int → Option Int
  | a1, a2 =>
    if (decide (a1 < a2)) = true then
      some (-1)
    else
      if (decide (a1 > a2)) = true then
        some 1
      else
        some 0
def ref02_texts_j2 (t : Tab) (n : Nat) (a1 : ByteArray) (a2 : ByteArray) (a3 : Int) : Option (Int ⊕ (ByteArray × ByteArray × Int)) :=
  (match strAt a1 a3 with
  | some a4 =>
  (match strAt a2 a3 with
  | some a5 =>
    if (a4 != a5) = true then
      (match t.ref02_sign (IntKind.wrap .i64 a4) (IntKind.wrap .i64 a5) with
      | some a6 =>
        some (.inl a6)
      | none => none)
    else
      some (.inr (a1, a2, (IntKind.wrap .i64 (a3 + 1))))
  | none => none)
  | none => none)
def ref02_texts_l1 (t : Tab) (n : Nat) : Nat → ByteArray → ByteArray → Int → Option (Int ⊕ (ByteArray × ByteArray × Int × Bool))
  | 0, _, _, _ => none
  | k + 1, a1, a2, a3 =>
    if (decide (a3 < (a1.size : Int))) = true then
      if (decide (a3 < (a2.size : Int))) = true then
        (match ref02_texts_j2 t n  a1 a2 a3 with
        | some (.inl a4) =>
          some (.inl a4)
        | some (.inr (a5, a6, a7)) =>
          ref02_texts_l1 t n k a5 a6 a7
        | none => none)
      else
        some (.inr (a1, a2, a3, (decide (a3 < (a2.size : Int)))))
    else
      some (.inr (a1, a2, a3, false))
def ref02_texts_j3 (t : Tab) (n : Nat) (a1 : ByteArray) (a2 : ByteArray) : Option Int :=
  t.ref02_sign (a1.size : Int) (a2.size : Int)
def ref02_texts (t : Tab) (n : Nat) : ByteArray → ByteArray → Option Int
  | a1, a2 =>
    (match ref02_texts_l1 t n n a1 a2 0 with
    | some (.inl a3) =>
      some a3
    | some (.inr (a4, a5, a6, a7)) =>
      ref02_texts_j3 t n  a4 a5
    | none => none)
def ref02_rows_j2 (t : Tab) (n : Nat) (a1 : List GValue) (a2 : List GValue) (a3 : Int) (a4 : Int) : Option (Int ⊕ ((List GValue) × (List GValue) × Int × Int)) :=
  if (decide (0 ≤ (a4 : Int))) = true then
  (match a1[(a4 : Int).toNat]? with
  | some ⟨a5, a6, a7, a8, a9⟩ =>
  (match a2[(a4 : Int).toNat]? with
  | some ⟨a10, a11, a12, a13, a14⟩ =>
  (match t.ref02_compare (GValue.mk a5 a6 a7 a8 a9) (GValue.mk a10 a11 a12 a13 a14) a3 with
  | some a15 =>
    if (a15 != 0) = true then
      some (.inl a15)
    else
      some (.inr (a1, a2, a3, (IntKind.wrap .i64 (a4 + 1))))
  | none => none)
  | none => none)
  | none => none)
  else none
def ref02_rows_l1 (t : Tab) (n : Nat) : Nat → (List GValue) → (List GValue) → Int → Int → Option (Int ⊕ ((List GValue) × (List GValue) × Int × Int × Bool))
  | 0, _, _, _, _ => none
  | k + 1, a1, a2, a3, a4 =>
    if (decide (a4 < (a1.length : Int))) = true then
      if (decide (a4 < (a2.length : Int))) = true then
        (match ref02_rows_j2 t n  a1 a2 a3 a4 with
        | some (.inl a5) =>
          some (.inl a5)
        | some (.inr (a6, a7, a8, a9)) =>
          ref02_rows_l1 t n k a6 a7 a8 a9
        | none => none)
      else
        some (.inr (a1, a2, a3, a4, (decide (a4 < (a2.length : Int)))))
    else
      some (.inr (a1, a2, a3, a4, false))
def ref02_rows_j3 (t : Tab) (n : Nat) (a1 : List GValue) (a2 : List GValue) : Option Int :=
  t.ref02_sign (a1.length : Int) (a2.length : Int)
def ref02_rows (t : Tab) (n : Nat) : (List GValue) → (List GValue) → Int → Option Int
  | a1, a2, a3 =>
    (match ref02_rows_l1 t n n a1 a2 a3 0 with
    | some (.inl a4) =>
      some a4
    | some (.inr (a5, a6, a7, a8, a9)) =>
      ref02_rows_j3 t n  a5 a6
    | none => none)
def slices_IndexFunc_pred_right_1_l1 (t : Tab) (n : Nat) : Nat → (List GPred) → Int → Int → Int → Option (Int ⊕ ((List GPred) × Int × Int × Int × Bool))
  | 0, _, _, _, _ => none
  | k + 1, a1, a2, a3, a4 =>
    if (decide (a4 < a3)) = true then
      if (decide (0 ≤ (a4 : Int))) = true then
      (match a1[(a4 : Int).toNat]? with
      | some ⟨a5, a6, a7⟩ =>
      (match t.pred_right_1 (GPred.mk a5 a6 a7) a2 with
      | some a8 =>
        if a8 = true then
          some (.inl a4)
        else
          slices_IndexFunc_pred_right_1_l1 t n k a1 a2 a3 (IntKind.wrap .i64 (a4 + 1))
      | none => none)
      | none => none)
      else none
    else
      some (.inr (a1, a2, a3, a4, (decide (a4 < a3))))
def slices_IndexFunc_pred_right_1 (t : Tab) (n : Nat) : (List GPred) → Int → Option Int
  | a1, a2 =>
    (match slices_IndexFunc_pred_right_1_l1 t n n a1 a2 (a1.length : Int) 0 with
    | some (.inl a3) =>
      some a3
    | some (.inr (a4, a5, a6, a7, a8)) =>
      some (-1)
    | none => none)
def slices_IndexFunc_pred_right_2_l1 (t : Tab) (n : Nat) : Nat → (List GValue) → Int → Int → Option (Int ⊕ ((List GValue) × Int × Int × Bool))
  | 0, _, _, _ => none
  | k + 1, a1, a2, a3 =>
    if (decide (a3 < a2)) = true then
      if (decide (0 ≤ (a3 : Int))) = true then
      (match a1[(a3 : Int).toNat]? with
      | some ⟨a4, a5, a6, a7, a8⟩ =>
      (match t.pred_right_2 (GValue.mk a4 a5 a6 a7 a8) with
      | some a9 =>
        if a9 = true then
          some (.inl a3)
        else
          slices_IndexFunc_pred_right_2_l1 t n k a1 a2 (IntKind.wrap .i64 (a3 + 1))
      | none => none)
      | none => none)
      else none
    else
      some (.inr (a1, a2, a3, (decide (a3 < a2))))
def slices_IndexFunc_pred_right_2 (t : Tab) (n : Nat) : (List GValue) → Option Int
  | a1 =>
    (match slices_IndexFunc_pred_right_2_l1 t n n a1 (a1.length : Int) 0 with
    | some (.inl a2) =>
      some a2
    | some (.inr (a3, a4, a5, a6)) =>
      some (-1)
    | none => none)
def slices_IndexFunc_pred_test_3_l1 (t : Tab) (n : Nat) : Nat → (List GValue) → Int → Int → ByteArray → (List GValue) → (List GValue) → Int → Int → Option (Int ⊕ ((List GValue) × Int × Int × ByteArray × (List GValue) × (List GValue) × Int × Int × Bool))
  | 0, _, _, _, _, _, _, _, _ => none
  | k + 1, a1, a2, a3, a4, a5, a6, a7, a8 =>
    if (decide (a8 < a7)) = true then
      if (decide (0 ≤ (a8 : Int))) = true then
      (match a1[(a8 : Int).toNat]? with
      | some ⟨a9, a10, a11, a12, a13⟩ =>
      (match t.pred_test_3 (GValue.mk a9 a10 a11 a12 a13) (GValue.mk a2 a3 a4 a5 a6) with
      | some a14 =>
        if a14 = true then
          some (.inl a8)
        else
          slices_IndexFunc_pred_test_3_l1 t n k a1 a2 a3 a4 a5 a6 a7 (IntKind.wrap .i64 (a8 + 1))
      | none => none)
      | none => none)
      else none
    else
      some (.inr (a1, a2, a3, a4, a5, a6, a7, a8, (decide (a8 < a7))))
def slices_IndexFunc_pred_test_3 (t : Tab) (n : Nat) : (List GValue) → GValue → Option Int
  | a1, ⟨a2, a3, a4, a5, a6⟩ =>
    (match slices_IndexFunc_pred_test_3_l1 t n n a1 a2 a3 a4 a5 a6 (a1.length : Int) 0 with
    | some (.inl a7) =>
      some a7
    | some (.inr (a8, a9, a10, a11, a12, a13, a14, a15, a16)) =>
      some (-1)
    | none => none)
def slices_IndexFunc_pred_test_1_l1 (t : Tab) (n : Nat) : Nat → (List GPred) → Int → Int → ByteArray → (List GValue) → (List GValue) → Int → Int → Option (Int ⊕ ((List GPred) × Int × Int × ByteArray × (List GValue) × (List GValue) × Int × Int × Bool))
  | 0, _, _, _, _, _, _, _, _ => none
  | k + 1, a1, a2, a3, a4, a5, a6, a7, a8 =>
    if (decide (a8 < a7)) = true then
      if (decide (0 ≤ (a8 : Int))) = true then
      (match a1[(a8 : Int).toNat]? with
      | some ⟨a9, a10, a11⟩ =>
      (match t.pred_test_1 (GPred.mk a9 a10 a11) (GValue.mk a2 a3 a4 a5 a6) with
      | some a12 =>
        if a12 = true then
          some (.inl a8)
        else
          slices_IndexFunc_pred_test_1_l1 t n k a1 a2 a3 a4 a5 a6 a7 (IntKind.wrap .i64 (a8 + 1))
      | none => none)
      | none => none)
      else none
    else
      some (.inr (a1, a2, a3, a4, a5, a6, a7, a8, (decide (a8 < a7))))
def slices_IndexFunc_pred_test_1 (t : Tab) (n : Nat) : (List GPred) → GValue → Option Int
  | a1, ⟨a2, a3, a4, a5, a6⟩ =>
    (match slices_IndexFunc_pred_test_1_l1 t n n a1 a2 a3 a4 a5 a6 (a1.length : Int) 0 with
    | some (.inl a7) =>
      some a7
    | some (.inr (a8, a9, a10, a11, a12, a13, a14, a15, a16)) =>
      some (-1)
    | none => none)
def slices_IndexFunc_pred_test_2_l1 (t : Tab) (n : Nat) : Nat → (List GPred) → Int → Int → ByteArray → (List GValue) → (List GValue) → Int → Int → Option (Int ⊕ ((List GPred) × Int × Int × ByteArray × (List GValue) × (List GValue) × Int × Int × Bool))
  | 0, _, _, _, _, _, _, _, _ => none
  | k + 1, a1, a2, a3, a4, a5, a6, a7, a8 =>
    if (decide (a8 < a7)) = true then
      if (decide (0 ≤ (a8 : Int))) = true then
      (match a1[(a8 : Int).toNat]? with
      | some ⟨a9, a10, a11⟩ =>
      (match t.pred_test_2 (GPred.mk a9 a10 a11) (GValue.mk a2 a3 a4 a5 a6) with
      | some a12 =>
        if a12 = true then
          some (.inl a8)
        else
          slices_IndexFunc_pred_test_2_l1 t n k a1 a2 a3 a4 a5 a6 a7 (IntKind.wrap .i64 (a8 + 1))
      | none => none)
      | none => none)
      else none
    else
      some (.inr (a1, a2, a3, a4, a5, a6, a7, a8, (decide (a8 < a7))))
def slices_IndexFunc_pred_test_2 (t : Tab) (n : Nat) : (List GPred) → GValue → Option Int
  | a1, ⟨a2, a3, a4, a5, a6⟩ =>
    (match slices_IndexFunc_pred_test_2_l1 t n n a1 a2 a3 a4 a5 a6 (a1.length : Int) 0 with
    | some (.inl a7) =>
      some a7
    | some (.inr (a8, a9, a10, a11, a12, a13, a14, a15, a16)) =>
      some (-1)
    | none => none)
def slices_ContainsFunc_pred_alike_1 (t : Tab) (n : Nat) : (List GValue) → GValue → Option Bool
  | a1, ⟨a2, a3, a4, a5, a6⟩ =>
    (match t.slices_IndexFunc_pred_alike_1 a1 (GValue.mk a2 a3 a4 a5 a6) with
    | some a7 =>
      some (decide (a7 ≥ 0))
    | none => none)
def value_Cmp (t : Tab) (n : Nat) : GValue → GValue → Option Int
  | ⟨a1, a2, a3, a4, a5⟩, ⟨a6, a7, a8, a9, a10⟩ =>
    t.value_compare (GValue.mk a1 a2 a3 a4 a5) (GValue.mk a6 a7 a8 a9 a10) 1
def value_Copy (t : Tab) (n : Nat) : GValue → Option GValue
  | ⟨a1, a2, a3, a4, a5⟩ =>
    t.value_part (GValue.mk a1 a2 a3 a4 a5) 1
def pred_right_1 (t : Tab) (n : Nat) : GPred → Int → Option Bool
  | ⟨a1, a2, a3⟩, a4 =>
    (match t.pred_right (GPred.mk a1 a2 a3) (IntKind.wrap .i64 (a4 + 1)) with
    | some a5 =>
      some (!a5)
    | none => none)
def pred_right_2 (t : Tab) (n : Nat) : GValue → Option Bool
  | ⟨a1, a2, a3, a4, a5⟩ =>
    (match t.value_Check (GValue.mk a1 a2 a3 a4 a5) with
    | some a6 =>
      some (a6 != 0)
    | none => none)
def pred_test_3 (t : Tab) (n : Nat) : GValue → GValue → Option Bool
  | ⟨a1, a2, a3, a4, a5⟩, ⟨a6, a7, a8, a9, a10⟩ =>
    t.value_Same (GValue.mk a1 a2 a3 a4 a5) (GValue.mk a6 a7 a8 a9 a10)
def pred_test_1 (t : Tab) (n : Nat) : GPred → GValue → Option Bool
  | ⟨a1, a2, a3⟩, ⟨a4, a5, a6, a7, a8⟩ =>
    t.pred_test (GPred.mk a1 a2 a3) (GValue.mk a4 a5 a6 a7 a8)
def slices_IndexFunc_pred_alike_1_l1 (t : Tab) (n : Nat) : Nat → (List GValue) → Int → Int → ByteArray → (List GValue) → (List GValue) → Int → Int → Option (Int ⊕ ((List GValue) × Int × Int × ByteArray × (List GValue) × (List GValue) × Int × Int × Bool))
  | 0, _, _, _, _, _, _, _, _ => none
  | k + 1, a1, a2, a3, a4, a5, a6, a7, a8 =>
    if (decide (a8 < a7)) = true then
      if (decide (0 ≤ (a8 : Int))) = true then
      (match a1[(a8 : Int).toNat]? with
      | some ⟨a9, a10, a11, a12, a13⟩ =>
      (match t.pred_alike_1 (GValue.mk a9 a10 a11 a12 a13) (GValue.mk a2 a3 a4 a5 a6) with
      | some a14 =>
        if a14 = true then
          some (.inl a8)
        else
          slices_IndexFunc_pred_alike_1_l1 t n k a1 a2 a3 a4 a5 a6 a7 (IntKind.wrap .i64 (a8 + 1))
      | none => none)
      | none => none)
      else none
    else
      some (.inr (a1, a2, a3, a4, a5, a6, a7, a8, (decide (a8 < a7))))
def slices_IndexFunc_pred_alike_1 (t : Tab) (n : Nat) : (List GValue) → GValue → Option Int
  | a1, ⟨a2, a3, a4, a5, a6⟩ =>
    (match slices_IndexFunc_pred_alike_1_l1 t n n a1 a2 a3 a4 a5 a6 (a1.length : Int) 0 with
    | some (.inl a7) =>
      some a7
    | some (.inr (a8, a9, a10, a11, a12, a13, a14, a15, a16)) =>
      some (-1)
    | none => none)
def value_compare_j1 (t : Tab) (n : Nat) (a1 : Int) (a2 : Int) (a3 : ByteArray) (a4 : List GValue) (a5 : List GValue) (a6 : Int) (a7 : Int) (a8 : ByteArray) (a9 : List GValue) (a10 : List GValue) (a11 : Int) : Option Int :=
  (match t.slices_CompareFunc_value_compare_1 a4 a9 a11 with
  | some a12 =>
  (match t.slices_CompareFunc_value_compare_1 a5 a10 a11 with
  | some a13 =>
  t.cmp_Or_int ([a12, a13] : List Int)
  | none => none)
  | none => none)
def value_compare (t : Tab) (n : Nat) : GValue → GValue → Int → Option Int
  | ⟨a1, a2, a3, a4, a5⟩, ⟨a6, a7, a8, a9, a10⟩, a11 =>
    (match t.cmp_Compare_int a1 a6 with
    | some a12 =>
    (match t.cmp_Compare_int a2 a7 with
    | some a13 =>
    (match t.strings_Compare a3 a8 with
    | some a14 =>
    (match t.cmp_Or_int ([a12, a13, a14] : List Int) with
    | some a15 =>
      if (a15 != 0) = true then
        some a15
      else
        if (decide (a11 > 12)) = true then
          some a15
        else
          value_compare_j1 t n  a1 a2 a3 a4 a5 a6 a7 a8 a9 a10 a11
    | none => none)
    | none => none)
    | none => none)
    | none => none)
def value_part (t : Tab) (n : Nat) : GValue → Int → Option GValue
  | ⟨a1, a2, a3, a4, a5⟩, a6 =>
    if (decide (a6 > 12)) = true then
      some (GValue.mk a1 a2 a3 ([] : List GValue) ([] : List GValue))
    else
      (match t.value_copied a4 (IntKind.wrap .i64 (a6 + 1)) with
      | some a7 =>
      (match t.value_copied a5 (IntKind.wrap .i64 (a6 + 1)) with
      | some a8 =>
        some (GValue.mk a1 a2 a3 a7 a8)
      | none => none)
      | none => none)
def value_Check (t : Tab) (n : Nat) : GValue → Option Int
  | ⟨a1, a2, a3, a4, a5⟩ =>
    (match t.value_plain (GValue.mk a1 a2 a3 a4 a5) 1 with
    | some a6 =>
      if a6 = true then
        some 0
      else
        some 2
    | none => none)
def value_Same (t : Tab) (n : Nat) : GValue → GValue → Option Bool
  | ⟨a1, a2, a3, a4, a5⟩, ⟨a6, a7, a8, a9, a10⟩ =>
    (match t.value_Cmp (GValue.mk a1 a2 a3 a4 a5) (GValue.mk a6 a7 a8 a9 a10) with
    | some a11 =>
      some (a11 == 0)
    | none => none)
def pred_alike_1 (t : Tab) (n : Nat) : GValue → GValue → Option Bool
  | ⟨a1, a2, a3, a4, a5⟩, ⟨a6, a7, a8, a9, a10⟩ =>
    some (a1 != a6)
def cmp_Compare_int (t : Tab) (n : Nat) : Int → Int → Option Int
  | a1, a2 =>
    (match t.cmp_isNaN_int a1 with
    | some a3 =>
    (match t.cmp_isNaN_int a2 with
    | some a4 =>
      if a3 = true then
        if a4 = true then
          some 0
        else
          some (-1)
      else
        if a4 = true then
          some 1
        else
          if (decide (a1 < a2)) = true then
            some (-1)
          else
            if (decide (a1 > a2)) = true then
              some 1
            else
              some 0
    | none => none)
    | none => none)
def strings_Compare (t : Tab) (n : Nat) : ByteArray → ByteArray → Option Int
  | a1, a2 =>
    t.bytealg_CompareString a1 a2
def cmp_Or_int_l1 (t : Tab) (n : Nat) : Nat → Int → (List Int) → Int → Int → Option (Int ⊕ (Int × (List Int) × Int × Int × Bool))
  | 0, _, _, _, _ => none
  | k + 1, a1, a2, a3, a4 =>
    if (decide (a4 < a3)) = true then
      if (decide (0 ≤ (a4 : Int))) = true then
      (match a2[(a4 : Int).toNat]? with
      | some a5 =>
        if (a5 != a1) = true then
          some (.inl a5)
        else
          cmp_Or_int_l1 t n k a1 a2 a3 (IntKind.wrap .i64 (a4 + 1))
      | none => none)
      else none
    else
      some (.inr (a1, a2, a3, a4, (decide (a4 < a3))))
def cmp_Or_int (t : Tab) (n : Nat) : (List Int) → Option Int
  | a1 =>
    (match cmp_Or_int_l1 t n n 0 a1 (a1.length : Int) 0 with
    | some (.inl a2) =>
      some a2
    | some (.inr (a3, a4, a5, a6, a7)) =>
      some a3
    | none => none)
def slices_CompareFunc_value_compare_1_l1 (t : Tab) (n : Nat) : Nat → (List GValue) → (List GValue) → Int → (List GValue) → Int → Int → Option (Int ⊕ ((List GValue) × (List GValue) × Int × (List GValue) × Int × Int × Bool))
  | 0, _, _, _, _, _, _ => none
  | k + 1, a1, a2, a3, a4, a5, a6 =>
    if (decide (a6 < a5)) = true then
      if (decide (0 ≤ (a6 : Int))) = true then
      (match a4[(a6 : Int).toNat]? with
      | some ⟨a7, a8, a9, a10, a11⟩ =>
        if (decide (a6 ≥ (a2.length : Int))) = true then
          some (.inl 1)
        else
          (match a2[(a6 : Int).toNat]? with
          | some ⟨a12, a13, a14, a15, a16⟩ =>
          (match t.value_compare_1 (GValue.mk a7 a8 a9 a10 a11) (GValue.mk a12 a13 a14 a15 a16) a3 with
          | some a17 =>
            if (a17 != 0) = true then
              some (.inl a17)
            else
              slices_CompareFunc_value_compare_1_l1 t n k a1 a2 a3 a4 a5 (IntKind.wrap .i64 (a6 + 1))
          | none => none)
          | none => none)
      | none => none)
      else none
    else
      some (.inr (a1, a2, a3, a4, a5, a6, (decide (a6 < a5))))
def slices_CompareFunc_value_compare_1_j2 (t : Tab) (n : Nat) (a1 : List GValue) (a2 : List GValue) : Option Int :=
  if (decide ((a1.length : Int) < (a2.length : Int))) = true then
    some (-1)
  else
    some 0
def slices_CompareFunc_value_compare_1 (t : Tab) (n : Nat) : (List GValue) → (List GValue) → Int → Option Int
  | a1, a2, a3 =>
    (match slices_CompareFunc_value_compare_1_l1 t n n a1 a2 a3 a1 (a1.length : Int) 0 with
    | some (.inl a4) =>
      some a4
    | some (.inr (a5, a6, a7, a8, a9, a10, a11)) =>
      slices_CompareFunc_value_compare_1_j2 t n  a5 a6
    | none => none)
def value_copied_l1 (t : Tab) (n : Nat) : Nat → Int → (List GValue) → (List GValue) → Int → Int → Option (Int × (List GValue) × (List GValue) × Int × Int × Bool)
  | 0, _, _, _, _, _ => none
  | k + 1, a1, a2, a3, a4, a5 =>
    if (decide (a5 < a4)) = true then
      if (decide (0 ≤ (a5 : Int))) = true then
      (match a3[(a5 : Int).toNat]? with
      | some ⟨a6, a7, a8, a9, a10⟩ =>
      (match t.value_part (GValue.mk a6 a7 a8 a9 a10) a1 with
      | some ⟨a11, a12, a13, a14, a15⟩ =>
      if (a2.length + ([(GValue.mk a11 a12 a13 a14 a15)] : List GValue).length) * 80 ≤ 140737488355328 then
      value_copied_l1 t n k a1 (a2 ++ ([(GValue.mk a11 a12 a13 a14 a15)] : List GValue)) a3 a4 (IntKind.wrap .i64 (a5 + 1))
      else none
      | none => none)
      | none => none)
      else none
    else
      some (a1, a2, a3, a4, a5, (decide (a5 < a4)))
def value_copied (t : Tab) (n : Nat) : (List GValue) → Int → Option (List GValue)
  | a1, a2 =>
    (match value_copied_l1 t n n a2 ([] : List GValue) a1 (a1.length : Int) 0 with
    | some (a3, a4, a5, a6, a7, a8) =>
      some a4
    | none => none)
def value_plain_l4 (t : Tab) (n : Nat) : Nat → Int → (List GValue) → Int → Int → Int → Int → ByteArray → (List GValue) → (List GValue) → Option (Bool ⊕ (Int × (List GValue) × Int × Int × Bool × Int × Int × ByteArray × (List GValue) × (List GValue)))
  | 0, _, _, _, _, _, _, _, _, _ => none
  | k + 1, a1, a2, a3, a4, a5, a6, a7, a8, a9 =>
    if (decide (a4 < a3)) = true then
      if (decide (0 ≤ (a4 : Int))) = true then
      (match a2[(a4 : Int).toNat]? with
      | some ⟨a10, a11, a12, a13, a14⟩ =>
      (match t.value_plain (GValue.mk a10 a11 a12 a13 a14) (IntKind.wrap .i64 (a1 + 1)) with
      | some a15 =>
        if a15 = true then
          if (a5 == 7) = true then
            if (decide (a4 > 0)) = true then
              if (decide (a4 < (a8.length : Int))) = true then
                if (decide (0 ≤ ((IntKind.wrap .i64 (a4 - 1)) : Int))) = true then
                (match a8[((IntKind.wrap .i64 (a4 - 1)) : Int).toNat]? with
                | some ⟨a16, a17, a18, a19, a20⟩ =>
                (match t.value_Cmp (GValue.mk a16 a17 a18 a19 a20) (GValue.mk a10 a11 a12 a13 a14) with
                | some a21 =>
                  if (decide (a21 ≥ 0)) = true then
                    some (.inl false)
                  else
                    value_plain_l4 t n k a1 a2 a3 (IntKind.wrap .i64 (a4 + 1)) a5 a6 a7 a8 a9
                | none => none)
                | none => none)
                else none
              else
                value_plain_l4 t n k a1 a2 a3 (IntKind.wrap .i64 (a4 + 1)) a5 a6 a7 a8 a9
            else
              value_plain_l4 t n k a1 a2 a3 (IntKind.wrap .i64 (a4 + 1)) a5 a6 a7 a8 a9
          else
            value_plain_l4 t n k a1 a2 a3 (IntKind.wrap .i64 (a4 + 1)) a5 a6 a7 a8 a9
        else
          some (.inl false)
      | none => none)
      | none => none)
      else none
    else
      some (.inr (a1, a2, a3, a4, (decide (a4 < a3)), a5, a6, a7, a8, a9))
def value_plain_j3 (t : Tab) (n : Nat) (a1 : Int) (a2 : Int) (a3 : Int) (a4 : ByteArray) (a5 : List GValue) (a6 : List GValue) : Option Bool :=
  (match t.slices_Concat_Value ([a5, a6] : List (List GValue)) with
  | some a7 =>
    (match value_plain_l4 t n n a1 a7 (a7.length : Int) 0 a2 a3 a4 a5 a6 with
    | some (.inl a8) =>
      some a8
    | some (.inr (a9, a10, a11, a12, a13, a14, a15, a16, a17, a18)) =>
      some true
    | none => none)
  | none => none)
def value_plain_j2 (t : Tab) (n : Nat) (a1 : Int) (a2 : Int) (a3 : Int) (a4 : ByteArray) (a5 : List GValue) (a6 : List GValue) : Option Bool :=
  if (decide ((a5.length : Int) > 1000)) = true then
    some false
  else
    if (a2 == 7) = true then
      if ((a6.length : Int) != (a5.length : Int)) = true then
        some false
      else
        if (a2 != 7) = true then
          if (decide ((a6.length : Int) > 0)) = true then
            some false
          else
            value_plain_j3 t n  a1 a2 a3 a4 a5 a6
        else
          value_plain_j3 t n  a1 a2 a3 a4 a5 a6
    else
      if (a2 != 7) = true then
        if (decide ((a6.length : Int) > 0)) = true then
          some false
        else
          value_plain_j3 t n  a1 a2 a3 a4 a5 a6
      else
        value_plain_j3 t n  a1 a2 a3 a4 a5 a6
def value_plain_j1 (t : Tab) (n : Nat) (a1 : Int) (a2 : Bool) (a3 : Bool) (a4 : Int) (a5 : Int) (a6 : ByteArray) (a7 : List GValue) (a8 : List GValue) : Option Bool :=
  if a3 = true then
    if (decide ((a6.size : Int) > 1000)) = true then
      some false
    else
      if (a5 != 0) = true then
        some false
      else
        if a2 = true then
          value_plain_j2 t n  a1 a4 a5 a6 a7 a8
        else
          if (decide ((IntKind.wrap .i64 ((a7.length : Int) + (a8.length : Int))) > 0)) = true then
            some false
          else
            value_plain_j2 t n  a1 a4 a5 a6 a7 a8
  else
    if (a6.toList == (ByteArray.mk #[]).toList) = true then
      if (decide ((a6.size : Int) > 1000)) = true then
        some false
      else
        if a2 = true then
          if (a5 != 0) = true then
            some false
          else
            value_plain_j2 t n  a1 a4 a5 a6 a7 a8
        else
          if (decide ((IntKind.wrap .i64 ((a7.length : Int) + (a8.length : Int))) > 0)) = true then
            some false
          else
            value_plain_j2 t n  a1 a4 a5 a6 a7 a8
    else
      some false
def value_plain_j5 (t : Tab) (n : Nat) (a1 : Int) (a2 : Bool) (a3 : Bool) (a4 : Int) (a5 : Bool) (a6 : Int) (a7 : Int) (a8 : ByteArray) (a9 : List GValue) (a10 : List GValue) : Option (Bool ⊕ (Int × Bool × Bool × Int × Int × ByteArray × (List GValue) × (List GValue))) :=
  if a5 = true then
    if (decide (a7 < 0)) = true then
      some (.inl false)
    else
      some (.inr (a1, a2, a3, a6, a7, a8, a9, a10))
  else
    if (a4 == 3) = true then
      some (.inr (a1, a2, true, a6, a7, a8, a9, a10))
    else
      if (a4 == 6) = true then
        some (.inr (a1, true, a3, a6, a7, a8, a9, a10))
      else
        if (a4 == 8) = true then
          some (.inr (a1, true, a3, a6, a7, a8, a9, a10))
        else
          if (a4 == 7) = true then
            some (.inr (a1, true, a3, a6, a7, a8, a9, a10))
          else
            some (.inl false)
def value_plain (t : Tab) (n : Nat) : GValue → Int → Option Bool
  | ⟨a1, a2, a3, a4, a5⟩, a6 =>
    if (decide (a6 > 12)) = true then
      some false
    else
      if (a1 == 1) = true then
        if (decide (a2 < 0)) = true then
          some false
        else
          if (decide (a2 > 1)) = true then
            some false
          else
            value_plain_j1 t n  a6 false false a1 a2 a3 a4 a5
      else
        if (a1 == 2) = true then
          value_plain_j1 t n  a6 false false a1 a2 a3 a4 a5
        else
          if (a1 == 4) = true then
            (match value_plain_j5 t n  a6 false false a1 (a1 == 4) a1 a2 a3 a4 a5 with
            | some (.inl a9) =>
              some a9
            | some (.inr (a10, a11, a12, a13, a14, a15, a16, a17)) =>
              value_plain_j1 t n  a10 a11 a12 a13 a14 a15 a16 a17
            | none => none)
          else
            (match value_plain_j5 t n  a6 false false a1 (a1 == 5) a1 a2 a3 a4 a5 with
            | some (.inl a19) =>
              some a19
            | some (.inr (a20, a21, a22, a23, a24, a25, a26, a27)) =>
              value_plain_j1 t n  a20 a21 a22 a23 a24 a25 a26 a27
            | none => none)
def cmp_isNaN_int (t : Tab) (n : Nat) : Int → Option Bool
  | a1 =>
    some (a1 != a1)
def value_compare_1 (t : Tab) (n : Nat) : GValue → GValue → Int → Option Int
  | ⟨a1, a2, a3, a4, a5⟩, ⟨a6, a7, a8, a9, a10⟩, a11 =>
    t.value_compare (GValue.mk a1 a2 a3 a4 a5) (GValue.mk a6 a7 a8 a9 a10) (IntKind.wrap .i64 (a11 + 1))
def slices_Concat_Value_l1 (t : Tab) (n : Nat) : Nat → (List (List GValue)) → Int → (List (List GValue)) → Int → Int → Option ((List (List GValue)) × Int × (List (List GValue)) × Int × Int × Bool)
  | 0, _, _, _, _, _ => none
  | k + 1, a1, a2, a3, a4, a5 =>
    if (decide (a5 < a4)) = true then
      if (decide (0 ≤ (a5 : Int))) = true then
      (match a3[(a5 : Int).toNat]? with
      | some a6 =>
        if (decide ((IntKind.wrap .i64 (a2 + (a6.length : Int))) < 0)) = true then
          none
        else
          slices_Concat_Value_l1 t n k a1 (IntKind.wrap .i64 (a2 + (a6.length : Int))) a3 a4 (IntKind.wrap .i64 (a5 + 1))
      | none => none)
      else none
    else
      some (a1, a2, a3, a4, a5, (decide (a5 < a4)))
def slices_Concat_Value_l3 (t : Tab) (n : Nat) : Nat → (List GValue) → (List (List GValue)) → Int → Int → Option ((List GValue) × (List (List GValue)) × Int × Int × Bool)
  | 0, _, _, _, _ => none
  | k + 1, a1, a2, a3, a4 =>
    if (decide (a4 < a3)) = true then
      if (decide (0 ≤ (a4 : Int))) = true then
      (match a2[(a4 : Int).toNat]? with
      | some a5 =>
      if (a1.length + a5.length) * 80 ≤ 140737488355328 then
      slices_Concat_Value_l3 t n k (a1 ++ a5) a2 a3 (IntKind.wrap .i64 (a4 + 1))
      else none
      | none => none)
      else none
    else
      some (a1, a2, a3, a4, (decide (a4 < a3)))
def slices_Concat_Value_j2 (t : Tab) (n : Nat) (a1 : List (List GValue)) (a2 : Int) : Option (List GValue) :=
  (match t.slices_Grow_Value ([] : List GValue) a2 with
  | some a3 =>
    (match slices_Concat_Value_l3 t n n a3 a1 (a1.length : Int) 0 with
    | some (a4, a5, a6, a7, a8) =>
      some a4
    | none => none)
  | none => none)
def slices_Concat_Value (t : Tab) (n : Nat) : (List (List GValue)) → Option (List GValue)
  | a1 =>
    (match slices_Concat_Value_l1 t n n a1 0 a1 (a1.length : Int) 0 with
    | some (a2, a3, a4, a5, a6, a7) =>
      slices_Concat_Value_j2 t n  a2 a3
    | none => none)
def tab : Nat → Tab
  | 0 => ⟨fun _ _ => none,
    fun _ _ => none,
    fun _ _ _ => none,
    fun _ _ => none,
    fun _ _ => none,
    fun _ _ _ => none,
    fun _ _ => none,
    none,
    fun _ => none,
    fun _ => none,
    fun _ _ => none,
    fun _ _ => none,
    fun _ => none,
    fun _ _ => none,
    fun _ => none,
    fun _ _ => none,
    fun _ _ => none,
    fun _ _ => none,
    fun _ _ => none,
    fun _ _ => none,
    fun _ _ => none,
    fun _ _ => none,
    fun _ _ => none,
    fun _ _ => none,
    fun _ => none,
    fun _ => none,
    fun _ _ => none,
    fun _ _ => none,
    fun _ _ => none,
    fun _ _ _ => none,
    fun _ => none,
    fun _ _ => none,
    fun _ => none,
    fun _ _ => none,
    fun _ _ => none,
    fun _ _ => none,
    fun _ _ => none,
    fun _ _ => none,
    fun _ _ _ => none,
    fun _ _ => none,
    fun _ _ => none,
    fun _ => none,
    fun _ => none,
    fun _ _ => none,
    fun _ _ => none,
    fun _ _ _ => none,
    fun _ _ => none,
    fun _ => none,
    fun _ _ => none,
    fun _ _ => none,
    fun _ _ => none,
    fun _ _ => none,
    fun _ _ => none,
    fun _ => none,
    fun _ _ => none,
    fun _ => none,
    fun _ _ => none,
    fun _ _ => none,
    fun _ _ => none,
    fun _ _ _ => none,
    fun _ _ => none,
    fun _ => none,
    fun _ _ => none,
    fun _ _ => none,
    fun _ _ => none,
    fun _ _ => none,
    fun _ => none,
    fun _ _ _ => none,
    fun _ _ => none,
    fun _ _ => none,
    fun _ => none,
    fun _ _ => none,
    fun _ _ _ => none,
    fun _ => none,
    fun _ _ => none⟩
  | n + 1 => ⟨law09_PredTests (tab n) n,
    law09_PredOthers (tab n) n,
    law09_PredOrder (tab n) n,
    law09_PredSets (tab n) n,
    law09_PredJoins (tab n) n,
    law09_PredRanges (tab n) n,
    law09_much (tab n) n,
    some true,
    pred_Check (tab n) n,
    ref09_Check (tab n) n,
    pred_Test (tab n) n,
    ref09_Test (tab n) n,
    pred_Negate (tab n) n,
    ref09_Same (tab n) n,
    ref02_Check (tab n) n,
    law09_one (tab n) n,
    ref02_Many (tab n) n,
    ref02_Same (tab n) n,
    ref09_Count (tab n) n,
    pred_Join (tab n) n,
    pred_right (tab n) n,
    ref09_right (tab n) n,
    pred_test (tab n) n,
    ref09_test (tab n) n,
    pred_Copy (tab n) n,
    pred_negate (tab n) n,
    ref02_SameRows (tab n) n,
    ref02_right (tab n) n,
    ref02_Count (tab n) n,
    ref02_compare (tab n) n,
    pred_arity (tab n) n,
    slices_ContainsFunc_pred_right_1 (tab n) n,
    slices_ContainsFunc_pred_right_2 (tab n) n,
    slices_ContainsFunc_pred_test_3 (tab n) n,
    slices_ContainsFunc_pred_test_1 (tab n) n,
    slices_ContainsFunc_pred_test_2 (tab n) n,
    pred_test_2 (tab n) n,
    pred_alike (tab n) n,
    pred_order (tab n) n,
    ref02_Cmp (tab n) n,
    pred_part (tab n) n,
    pred_other (tab n) n,
    ref02_fields (tab n) n,
    ref02_sign (tab n) n,
    ref02_texts (tab n) n,
    ref02_rows (tab n) n,
    slices_IndexFunc_pred_right_1 (tab n) n,
    slices_IndexFunc_pred_right_2 (tab n) n,
    slices_IndexFunc_pred_test_3 (tab n) n,
    slices_IndexFunc_pred_test_1 (tab n) n,
    slices_IndexFunc_pred_test_2 (tab n) n,
    slices_ContainsFunc_pred_alike_1 (tab n) n,
    value_Cmp (tab n) n,
    value_Copy (tab n) n,
    pred_right_1 (tab n) n,
    pred_right_2 (tab n) n,
    pred_test_3 (tab n) n,
    pred_test_1 (tab n) n,
    slices_IndexFunc_pred_alike_1 (tab n) n,
    value_compare (tab n) n,
    value_part (tab n) n,
    value_Check (tab n) n,
    value_Same (tab n) n,
    pred_alike_1 (tab n) n,
    cmp_Compare_int (tab n) n,
    strings_Compare (tab n) n,
    cmp_Or_int (tab n) n,
    slices_CompareFunc_value_compare_1 (tab n) n,
    value_copied (tab n) n,
    value_plain (tab n) n,
    cmp_isNaN_int (tab n) n,
    fun a b => some (Lib.compareBytes a.data.toList b.data.toList),
    value_compare_1 (tab n) n,
    slices_Concat_Value (tab n) n,
    fun a n => if a.isEmpty = true then if decide (0 ≤ n ∧ n * 80 ≤ 140737488355328) = true then some ([] : List GValue) else none else none⟩
end Go.Proofs.Ytcgckbjdadmcmaa.W
