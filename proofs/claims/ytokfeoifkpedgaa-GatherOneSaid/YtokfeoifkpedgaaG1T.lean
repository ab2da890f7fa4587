/- What each place of the table holds. -/
import Derived.Test.YtokfeoifkpedgaaG1B
namespace Go.Proofs.Ytokfeoifkpedgaa.W
open Go.Proofs.Ytokfeoifkpedgaa.Flat
theorem tab_law16_GatherOne (n : Nat) : (tab (n + 1)).law16_GatherOne = law16_GatherOne (tab n) n := rfl
theorem tab_law16_many (n : Nat) : (tab (n + 1)).law16_many = law16_many (tab n) n := rfl
theorem tab_gather_Sum (n : Nat) : (tab (n + 1)).gather_Sum = gather_Sum (tab n) n := rfl
theorem tab_ref16_Sum (n : Nat) : (tab (n + 1)).ref16_Sum = ref16_Sum (tab n) n := rfl
theorem tab_gather_Ends (n : Nat) : (tab (n + 1)).gather_Ends = gather_Ends (tab n) n := rfl
theorem tab_ref16_Ends (n : Nat) : (tab (n + 1)).ref16_Ends = ref16_Ends (tab n) n := rfl
theorem tab_gather_Fold (n : Nat) : (tab (n + 1)).gather_Fold = gather_Fold (tab n) n := rfl
theorem tab_ref16_Fold (n : Nat) : (tab (n + 1)).ref16_Fold = ref16_Fold (tab n) n := rfl
theorem tab_ref02_Same (n : Nat) : (tab (n + 1)).ref02_Same = ref02_Same (tab n) n := rfl
theorem tab_ref02_Count (n : Nat) : (tab (n + 1)).ref02_Count = ref02_Count (tab n) n := rfl
theorem tab_gather_size (n : Nat) : (tab (n + 1)).gather_size = gather_size (tab n) n := rfl
theorem tab_gather_wide_add (n : Nat) : (tab (n + 1)).gather_wide_add = gather_wide_add (tab n) n := rfl
theorem tab_ref16_Size (n : Nat) : (tab (n + 1)).ref16_Size = ref16_Size (tab n) n := rfl
theorem tab_ref01_Of (n : Nat) : (tab (n + 1)).ref01_Of = ref01_Of (tab n) n := rfl
theorem tab_ref01_Num_Times (n : Nat) : (tab (n + 1)).ref01_Num_Times = ref01_Num_Times (tab n) n := rfl
theorem tab_ref01_Num_Plus (n : Nat) : (tab (n + 1)).ref01_Num_Plus = ref01_Num_Plus (tab n) n := rfl
theorem tab_ref01_Num_Int (n : Nat) : (tab (n + 1)).ref01_Num_Int = ref01_Num_Int (tab n) n := rfl
theorem tab_slices_MinFunc_gather_Ends_1 (n : Nat) : (tab (n + 1)).slices_MinFunc_gather_Ends_1 = slices_MinFunc_gather_Ends_1 (tab n) n := rfl
theorem tab_value_Copy (n : Nat) : (tab (n + 1)).value_Copy = value_Copy (tab n) n := rfl
theorem tab_slices_MaxFunc_gather_Ends_1 (n : Nat) : (tab (n + 1)).slices_MaxFunc_gather_Ends_1 = slices_MaxFunc_gather_Ends_1 (tab n) n := rfl
theorem tab_ref02_Cmp (n : Nat) : (tab (n + 1)).ref02_Cmp = ref02_Cmp (tab n) n := rfl
theorem tab_ref02_compare (n : Nat) : (tab (n + 1)).ref02_compare = ref02_compare (tab n) n := rfl
theorem tab_ints_Add (n : Nat) : (tab (n + 1)).ints_Add = ints_Add (tab n) n := rfl
theorem tab_math_bits_Mul64 (n : Nat) : (tab (n + 1)).math_bits_Mul64 = math_bits_Mul64 (tab n) n := rfl
theorem tab_ref01_Add (n : Nat) : (tab (n + 1)).ref01_Add = ref01_Add (tab n) n := rfl
theorem tab_ref01_trim (n : Nat) : (tab (n + 1)).ref01_trim = ref01_trim (tab n) n := rfl
theorem tab_ref01_digit (n : Nat) : (tab (n + 1)).ref01_digit = ref01_digit (tab n) n := rfl
theorem tab_ref01_size (n : Nat) : (tab (n + 1)).ref01_size = ref01_size (tab n) n := rfl
theorem tab_gather_Ends_1 (n : Nat) : (tab (n + 1)).gather_Ends_1 = gather_Ends_1 (tab n) n := rfl
theorem tab_value_part (n : Nat) : (tab (n + 1)).value_part = value_part (tab n) n := rfl
theorem tab_ref02_sign (n : Nat) : (tab (n + 1)).ref02_sign = ref02_sign (tab n) n := rfl
theorem tab_ref02_texts (n : Nat) : (tab (n + 1)).ref02_texts = ref02_texts (tab n) n := rfl
theorem tab_ref02_rows (n : Nat) : (tab (n + 1)).ref02_rows = ref02_rows (tab n) n := rfl
theorem tab_ints_add (n : Nat) : (tab (n + 1)).ints_add = ints_add (tab n) n := rfl
theorem tab_ref01_told (n : Nat) : (tab (n + 1)).ref01_told = ref01_told (tab n) n := rfl
theorem tab_value_Cmp (n : Nat) : (tab (n + 1)).value_Cmp = value_Cmp (tab n) n := rfl
theorem tab_value_copied (n : Nat) : (tab (n + 1)).value_copied = value_copied (tab n) n := rfl
theorem tab_value_compare (n : Nat) : (tab (n + 1)).value_compare = value_compare (tab n) n := rfl
theorem tab_cmp_Compare_int (n : Nat) : (tab (n + 1)).cmp_Compare_int = cmp_Compare_int (tab n) n := rfl
theorem tab_strings_Compare (n : Nat) : (tab (n + 1)).strings_Compare = strings_Compare (tab n) n := rfl
theorem tab_cmp_Or_int (n : Nat) : (tab (n + 1)).cmp_Or_int = cmp_Or_int (tab n) n := rfl
theorem tab_slices_CompareFunc_value_compare_1 (n : Nat) : (tab (n + 1)).slices_CompareFunc_value_compare_1 = slices_CompareFunc_value_compare_1 (tab n) n := rfl
theorem tab_cmp_isNaN_int (n : Nat) : (tab (n + 1)).cmp_isNaN_int = cmp_isNaN_int (tab n) n := rfl
theorem tab_value_compare_1 (n : Nat) : (tab (n + 1)).value_compare_1 = value_compare_1 (tab n) n := rfl
end Go.Proofs.Ytokfeoifkpedgaa.W
