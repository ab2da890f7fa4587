/- The proofs of it, part 1. -/
import Derived.Test.YtokfeoifkpedgaaG1D0
namespace Go.Proofs.Ytokfeoifkpedgaa.W
open Go.Proofs.Ytokfeoifkpedgaa.Flat
set_option linter.unusedVariables false
set_option linter.unusedSimpArgs false
set_option smartUnfolding false
attribute [local irreducible] gather_Fold_j1 gather_wide_add_j1 law16_many_j2 quoI ref01_Num_Int_j2 ref01_Num_Plus_j2 ref01_Num_Plus_j3 ref01_Num_Plus_j4 ref01_Num_Plus_j6 ref01_Num_Times_j3 ref01_Num_Times_j4 ref01_Of_j2 ref01_Of_j3 ref01_trim_j2 ref02_Count_j2 ref02_Count_j5 ref02_compare_j3 ref02_rows_j2 ref02_texts_j2 ref16_Ends_j2 ref16_Ends_j3 ref16_Ends_j5 remI shrI slices_MaxFunc_gather_Ends_1_j1 slices_MinFunc_gather_Ends_1_j1 strAt
variable {t : Tab} {call : FuncId → List AV → List AV → Option (AV × List AV)}
theorem value_compare.ok {n : Nat} {t : Tab} (ht : TabOk t (run Try.prog own kp X n)) : ∀ (p1 : GValue) (p2 : GValue) (p3 : Int) r, value_compare t n p1 p2 p3 = some r → run Try.prog own kp X (n + 1) 50 [(.t (GValue.t p1)), (.t (GValue.t p2)), (I6 p3)] [] = some ((I6 r), []) := by
 intro p1 p2 p3 r h
 obtain ⟨a1, a2, a3, a4, a5⟩ := p1
 obtain ⟨a6, a7, a8, a9, a10⟩ := p2
 obtain ⟨a11, rfl⟩ : ∃ z_, z_ = p3 := ⟨_, rfl⟩
 rw [value_compare] at h
 obtain ⟨a12, h1, h⟩ := sm h
 obtain ⟨a13, h2, h⟩ := sm h
 obtain ⟨a14, h3, h⟩ := sm h
 obtain ⟨a15, h4, h⟩ := sm h
 have o4 {os} (x : Obls (env Try.prog 50 Try.f50 (run Try.prog own kp X n)) n os) := ob_c (ht.cmp_Compare_int _ _ _ h1) (ob_c (ht.cmp_Compare_int _ _ _ h2) (ob_c (ht.strings_Compare _ _ _ h3) (ob_c (ht.cmp_Or_int _ _ h4) x)))
 rcases fk h with ⟨h5, h⟩ | ⟨h5, h⟩
 ·cases h
  exact run_path Try.func50 (o4 (ob_b3 h5 (ob_b (rfl : true = true) ob))) (by kernel_rfl)
 ·rcases fk h with ⟨h6, h⟩ | ⟨h6, h⟩
  ·cases h
   exact run_path Try.func50 (o4 (ob_b3 h5 (ob_b h6 ob))) (by kernel_rfl)
  ·obtain ⟨a16, rfl⟩ : ∃ z_, z_ = r := ⟨_, rfl⟩
   have h7 := h
   exact run_path Try.func50 (o4 (ob_b3 h5 (ob_b h6 (ob_j (value_compare_j1.ok ht n _ _ _ _ _ _ _ _ _ _ _ _ h7) ob)))) (by kernel_rfl)
theorem cmp_Compare_int.ok {n : Nat} {t : Tab} (ht : TabOk t (run Try.prog own kp X n)) : ∀ (p1 : Int) (p2 : Int) r, cmp_Compare_int t n p1 p2 = some r → run Try.prog own kp X (n + 1) 60 [(I6 p1), (I6 p2)] [] = some ((I6 r), []) := by
 intro p1 p2 r h
 obtain ⟨a1, rfl⟩ : ∃ z_, z_ = p1 := ⟨_, rfl⟩
 obtain ⟨a2, rfl⟩ : ∃ z_, z_ = p2 := ⟨_, rfl⟩
 rw [cmp_Compare_int] at h
 obtain ⟨a3, h1, h⟩ := sm h
 obtain ⟨a4, h2, h⟩ := sm h
 have o2 {os} (x : Obls (env Try.prog 60 Try.f60 (run Try.prog own kp X n)) n os) := ob_c (ht.cmp_isNaN_int _ _ h1) (ob_c (ht.cmp_isNaN_int _ _ h2) x)
 rcases fk h with ⟨h3, h⟩ | ⟨h3, h⟩
 ·rcases fk h with ⟨h4, h⟩ | ⟨h4, h⟩
  ·cases h
   exact run_path Try.func60 (o2 (ob_b h3 (ob_b h4 ob))) (by kernel_rfl)
  ·cases h
   exact run_path Try.func60 (o2 (ob_b h3 (ob_b h4 ob))) (by kernel_rfl)
 ·rcases fk h with ⟨h5, h⟩ | ⟨h5, h⟩
  ·cases h
   exact run_path Try.func60 (o2 (ob_b h3 (ob_b h5 ob))) (by kernel_rfl)
  ·rcases fk h with ⟨h6, h⟩ | ⟨h6, h⟩
   ·cases h
    exact run_path Try.func60 (o2 (ob_b h3 (ob_b h5 (ob_b h6 ob)))) (by kernel_rfl)
   ·rcases fk h with ⟨h7, h⟩ | ⟨h7, h⟩
    ·cases h
     exact run_path Try.func60 (o2 (ob_b h3 (ob_b h5 (ob_b h6 (ob_b h7 ob))))) (by kernel_rfl)
    ·cases h
     exact run_path Try.func60 (o2 (ob_b h3 (ob_b h5 (ob_b h6 (ob_b h7 ob))))) (by kernel_rfl)
theorem strings_Compare.ok {n : Nat} {t : Tab} (ht : TabOk t (run Try.prog own kp X n)) : ∀ (p1 : ByteArray) (p2 : ByteArray) r, strings_Compare t n p1 p2 = some r → run Try.prog own kp X (n + 1) 61 [(Sr p1), (Sr p2)] [] = some ((I6 r), []) := by
 intro p1 p2 r h
 obtain ⟨a1, rfl⟩ : ∃ z_, z_ = p1 := ⟨_, rfl⟩
 obtain ⟨a2, rfl⟩ : ∃ z_, z_ = p2 := ⟨_, rfl⟩
 rw [strings_Compare] at h
 obtain ⟨a3, rfl⟩ : ∃ z_, z_ = r := ⟨_, rfl⟩
 have h1 := h
 exact run_path Try.func61 (ob_c (ht.bytealg_CompareString _ _ _ h1) ob) (by kernel_rfl)
theorem cmp_Or_int_l1.okL (ht : TabOk t call) (n : Nat) : ∀ (k : Nat) (a1 : Int) (a2 : List Int) (a3 a4 : Int) (r : _), cmp_Or_int_l1 t n k a1 a2 a3 a4 = some r → loopN (exec (env Try.prog 59 Try.f59 call) n (sub [1, 1, 0, 1, 0, 0] (bodyOf Try.f59))) k (mkSt 18 18 [(3, (I6 a1)), (6, (Sl 1 (ints_i64 a2))), (7, (I6 a3)), (8, (I6 a4))] []) = some (cmp_Or_int_l1.to r)
 | 0, a1, a2, a3, a4, r, h => by rw [cmp_Or_int_l1] at h; cases h
 | k + 1, a1, a2, a3, a4, r, h => by
  rw [cmp_Or_int_l1] at h
  rcases fk h with ⟨h1, h⟩ | ⟨h1, h⟩
  ·obtain ⟨h2, h⟩ := ck h
   obtain ⟨a5, h3, h⟩ := sm h
   rcases fk h with ⟨h4, h⟩ | ⟨h4, h⟩
   ·cases h
    exact loop_out (path (ob_b h1 (ob_n h2 (ob_t (look_ts ints_i64_map h3) (ob_b h4 ob)))) (by kernel_rfl)) (fun h => by cases h)
   ·exact loop_more (path (ob_b h1 (ob_n h2 (ob_t (look_ts ints_i64_map h3) (ob_b h4 ob)))) (by kernel_rfl)) (cmp_Or_int_l1.okL ht n k _ _ _ _ _ h)
  ·cases h
   exact loop_out (path (ob_b h1 ob) (by kernel_rfl)) (fun h => by cases h)
theorem cmp_Or_int.ok {n : Nat} {t : Tab} (ht : TabOk t (run Try.prog own kp X n)) : ∀ (p1 : List Int) r, cmp_Or_int t n p1 = some r → run Try.prog own kp X (n + 1) 59 [(Sl 1 (ints_i64 p1))] [] = some ((I6 r), []) := by
 intro p1 r h
 obtain ⟨a1, rfl⟩ : ∃ z_, z_ = p1 := ⟨_, rfl⟩
 rw [cmp_Or_int] at h
 obtain ⟨a2 | ⟨a3, a4, a5, a6, a7⟩, h1, h⟩ := sm h
 ·cases h
  exact run_path Try.func59 (ob_v (len_ts ints_i64_map (l := a1)) (ob_k (lk (sub [1, 1, 0, 1, 0] (bodyOf Try.f59)) (by kernel_rfl) (cmp_Or_int_l1.okL ht n n _ _ _ _ _ h1)) ob)) (by kernel_rfl)
 ·cases h
  exact run_path Try.func59 (ob_v (len_ts ints_i64_map (l := a1)) (ob_k (lk (sub [1, 1, 0, 1, 0] (bodyOf Try.f59)) (by kernel_rfl) (cmp_Or_int_l1.okL ht n n _ _ _ _ _ h1)) ob)) (by kernel_rfl)
theorem slices_CompareFunc_value_compare_1_l1.okL (ht : TabOk t call) (n : Nat) : ∀ (k : Nat) (a1 a2 : List GValue) (a3 : Int) (a4 : List GValue) (a5 a6 : Int) (r : _), slices_CompareFunc_value_compare_1_l1 t n k a1 a2 a3 a4 a5 a6 = some r → loopN (exec (env Try.prog 63 Try.f63 call) n (sub [1, 0, 1, 0, 0] (bodyOf Try.f63))) k (mkSt 39 39 [(0, (Sl 5 (GValue.ts a1))), (1, (Sl 5 (GValue.ts a2))), (2, (.fn 62 [(.ref (.v (.int .i64 a3)))])), (11, (Sl 5 (GValue.ts a4))), (12, (I6 a5)), (13, (I6 a6))] []) = some (slices_CompareFunc_value_compare_1_l1.to r)
 | 0, a1, a2, a3, a4, a5, a6, r, h => by rw [slices_CompareFunc_value_compare_1_l1] at h; cases h
 | k + 1, a1, a2, a3, a4, a5, a6, r, h => by
  rw [slices_CompareFunc_value_compare_1_l1] at h
  rcases fk h with ⟨h1, h⟩ | ⟨h1, h⟩
  ·obtain ⟨h2, h⟩ := ck h
   obtain ⟨⟨a7, a8, a9, a10, a11⟩, h3, h⟩ := sm h
   have o4 {os} (x : Obls (env Try.prog 63 Try.f63 call) n os) := ob_b h1 (ob_n h2 (ob_t (look_ts GValue.ts_map h3) (ob_v (len_ts GValue.ts_map (l := a2)) x)))
   rcases fk h with ⟨h4, h⟩ | ⟨h4, h⟩
   ·cases h
    exact loop_out (path (o4 (ob_b h4 ob)) (by kernel_rfl)) (fun h => by cases h)
   ·obtain ⟨⟨a12, a13, a14, a15, a16⟩, h5, h⟩ := sm h
    obtain ⟨a17, h6, h⟩ := sm h
    rcases fk h with ⟨h7, h⟩ | ⟨h7, h⟩
    ·cases h
     exact loop_out (path (o4 (ob_b h4 (ob_n h2 (ob_t (look_ts GValue.ts_map h5) (ob_c (ht.value_compare_1 _ _ _ _ h6) (ob_b h7 ob)))))) (by kernel_rfl)) (fun h => by cases h)
    ·exact loop_more (path (o4 (ob_b h4 (ob_n h2 (ob_t (look_ts GValue.ts_map h5) (ob_c (ht.value_compare_1 _ _ _ _ h6) (ob_b h7 ob)))))) (by kernel_rfl)) (slices_CompareFunc_value_compare_1_l1.okL ht n k _ _ _ _ _ _ _ h)
  ·cases h
   exact loop_out (path (ob_b h1 ob) (by kernel_rfl)) (fun h => by cases h)
theorem slices_CompareFunc_value_compare_1_j2.ok (ht : TabOk t call) (n : Nat) (a1 a2 : List GValue) (r : _) (h : slices_CompareFunc_value_compare_1_j2 t n a1 a2 = some r) : exec (env Try.prog 63 Try.f63 call) n (sub [1, 1] (bodyOf Try.f63)) (mkSt 39 39 [(0, (Sl 5 (GValue.ts a1))), (1, (Sl 5 (GValue.ts a2)))] []) = some (slices_CompareFunc_value_compare_1_j2.to r) := by
 rw [slices_CompareFunc_value_compare_1_j2] at h
 rcases fk h with ⟨h1, h⟩ | ⟨h1, h⟩
 ·cases h
  exact path (ob_v (len_ts GValue.ts_map (l := a1)) (ob_v (len_ts GValue.ts_map (l := a2)) (ob_b h1 ob))) (by kernel_rfl)
 ·cases h
  exact path (ob_v (len_ts GValue.ts_map (l := a1)) (ob_v (len_ts GValue.ts_map (l := a2)) (ob_b h1 ob))) (by kernel_rfl)
theorem slices_CompareFunc_value_compare_1.ok {n : Nat} {t : Tab} (ht : TabOk t (run Try.prog own kp X n)) : ∀ (p1 : List GValue) (p2 : List GValue) (p3 : Int) r, slices_CompareFunc_value_compare_1 t n p1 p2 p3 = some r → run Try.prog own kp X (n + 1) 63 [(Sl 5 (GValue.ts p1)), (Sl 5 (GValue.ts p2)), (.fn 62 [(.ref (.v (.int .i64 p3)))])] [] = some ((I6 r), []) := by
 intro p1 p2 p3 r h
 obtain ⟨a1, rfl⟩ : ∃ z_, z_ = p1 := ⟨_, rfl⟩
 obtain ⟨a2, rfl⟩ : ∃ z_, z_ = p2 := ⟨_, rfl⟩
 obtain ⟨a3, rfl⟩ : ∃ z_, z_ = p3 := ⟨_, rfl⟩
 rw [slices_CompareFunc_value_compare_1] at h
 obtain ⟨a4 | ⟨a5, a6, a7, a8, a9, a10, a11⟩, h1, h⟩ := sm h
 ·cases h
  exact run_path Try.func63 (ob_v (len_ts GValue.ts_map (l := a1)) (ob_k (lk (sub [1, 0, 1, 0] (bodyOf Try.f63)) (by kernel_rfl) (slices_CompareFunc_value_compare_1_l1.okL ht n n _ _ _ _ _ _ _ h1)) ob)) (by kernel_rfl)
 ·obtain ⟨a12, rfl⟩ : ∃ z_, z_ = r := ⟨_, rfl⟩
  have h2 := h
  exact run_path Try.func63 (ob_v (len_ts GValue.ts_map (l := a1)) (ob_k (lk (sub [1, 0, 1, 0] (bodyOf Try.f63)) (by kernel_rfl) (slices_CompareFunc_value_compare_1_l1.okL ht n n _ _ _ _ _ _ _ h1)) (ob_j (slices_CompareFunc_value_compare_1_j2.ok ht n _ _ _ h2) ob))) (by kernel_rfl)
theorem cmp_isNaN_int.ok {n : Nat} {t : Tab} (ht : TabOk t (run Try.prog own kp X n)) : ∀ (p1 : Int) r, cmp_isNaN_int t n p1 = some r → run Try.prog own kp X (n + 1) 66 [(I6 p1)] [] = some ((Bo r), []) := by
 intro p1 r h
 obtain ⟨a1, rfl⟩ : ∃ z_, z_ = p1 := ⟨_, rfl⟩
 rw [cmp_isNaN_int] at h
 cases h
 exact run_path Try.func66 ob (by kernel_rfl)
theorem value_compare_1.ok {n : Nat} {t : Tab} (ht : TabOk t (run Try.prog own kp X n)) : ∀ (p1 : GValue) (p2 : GValue) (p3 : Int) r, value_compare_1 t n p1 p2 p3 = some r → run Try.prog own kp X (n + 1) 62 [(.t (GValue.t p1)), (.t (GValue.t p2)), (.ref (.v (.int .i64 p3)))] [] = some ((I6 r), []) := by
 intro p1 p2 p3 r h
 obtain ⟨a1, a2, a3, a4, a5⟩ := p1
 obtain ⟨a6, a7, a8, a9, a10⟩ := p2
 obtain ⟨a11, rfl⟩ : ∃ z_, z_ = p3 := ⟨_, rfl⟩
 rw [value_compare_1] at h
 obtain ⟨a12, rfl⟩ : ∃ z_, z_ = r := ⟨_, rfl⟩
 have h1 := h
 exact run_path Try.func62 (ob_c (ht.value_compare _ _ _ _ h1) ob) (by kernel_rfl)
end Go.Proofs.Ytokfeoifkpedgaa.W
