/- The proofs of it, part 2. -/
import Derived.Test.YtgkfjhfehdefaaaDoorP7D1
namespace Go.Proofs.YtgkfjhfehdefaaaDoor.W
open Go.Proofs.YtgkfjhfehdefaaaDoor.Flat
set_option linter.unusedVariables false
set_option linter.unusedSimpArgs false
variable {t : Tab} {call : FuncId → List AV → List AV → Option (AV × List AV)}
theorem pred_arity_j1.ok (ht : TabOk t call) (n : Nat) (a1 : Int) (a2 : Bool) (r : _) (h : pred_arity_j1 t n a1 a2 = some r) : exec (env Tryd.prog 92 Tryd.f92 call) n (sub [1, 0, 0, 1] (bodyOf Tryd.f92)) (mkSt 37 37 [(0, (.t (.v (.int .i64 a1)))), (6, (.t (.v (.bool a2))))] []) = some (pred_arity_j1.to r) := by
  rw [pred_arity_j1] at h
  by_cases h1 : a2 = true
  · rw [if_pos h1] at h
    rw [← Option.some.inj h]
    exact path (ob_b h1 ob) (by kernel_rfl)
  · rw [if_neg h1] at h
    replace h1 := Bool.eq_false_iff.2 h1
    by_cases h2 : (decide (a1 ≥ 7)) = true
    · rw [if_pos h2] at h
      have h3 := h
      rcases r with ⟨a3, a4, a5, a6⟩ | _
      · exact path (ob_b h1 (ob_b h2 (ob_b h2 (ob_b h2 (ob_j (pred_arity_j2.ok ht n _ _ _ h3) ob))))) (by kernel_rfl)
      · exact path (ob_b h1 (ob_b h2 (ob_b h2 (ob_b h2 (ob_j (pred_arity_j2.ok ht n _ _ _ h3) ob))))) (by kernel_rfl)
    · rw [if_neg h2] at h
      replace h2 := Bool.eq_false_iff.2 h2
      have h4 := h
      rcases r with ⟨a7, a8, a9, a10⟩ | _
      · exact path (ob_b h1 (ob_b h2 (ob_b h2 (ob_b h2 (ob_j (pred_arity_j2.ok ht n _ _ _ h4) ob))))) (by kernel_rfl)
      · exact path (ob_b h1 (ob_b h2 (ob_b h2 (ob_b h2 (ob_j (pred_arity_j2.ok ht n _ _ _ h4) ob))))) (by kernel_rfl)
theorem pred_arity.ok {n : Nat} {t : Tab} (ht : TabOk t (run Tryd.prog own kp X n)) : ∀ (p1 : Int) r, pred_arity t n p1 = some r → run Tryd.prog own kp X (n + 1) 92 [(.t (.v (.int .i64 p1)))] [] = some ((.tup [(.v (.int .i64 r.1)), (.v (.int .i64 r.2.1)), (.v (.int .i64 r.2.2.1)), (.v (.int .i64 r.2.2.2))]), []) := by
  intro p1 r h
  obtain ⟨a1, rfl⟩ : ∃ z_, z_ = p1 := ⟨_, rfl⟩
  rw [pred_arity] at h
  by_cases h1 : (decide (a1 ≥ 1)) = true
  · rw [if_pos h1] at h
    rcases h2 : pred_arity_j1 t n  a1 (decide (a1 ≤ 6)) with _ | q_
    · rw [h2] at h; cases h
    rw [h2] at h
    rcases q_ with ⟨a2, a3, a4, a5⟩ | _
    · dsimp only at h
      rw [← Option.some.inj h]
      exact run_path Tryd.func92 (ob_b h1 (ob_b h1 (ob_b h1 (ob_j (pred_arity_j1.ok ht n _ _ _ h2) ob)))) (by kernel_rfl)
    · dsimp only at h
      rw [← Option.some.inj h]
      exact run_path Tryd.func92 (ob_b h1 (ob_b h1 (ob_b h1 (ob_j (pred_arity_j1.ok ht n _ _ _ h2) ob)))) (by kernel_rfl)
  · rw [if_neg h1] at h
    replace h1 := Bool.eq_false_iff.2 h1
    rcases h3 : pred_arity_j1 t n  a1 false with _ | q_
    · rw [h3] at h; cases h
    rw [h3] at h
    rcases q_ with ⟨a6, a7, a8, a9⟩ | _
    · dsimp only at h
      rw [← Option.some.inj h]
      exact run_path Tryd.func92 (ob_b h1 (ob_b h1 (ob_b h1 (ob_j (pred_arity_j1.ok ht n _ _ _ h3) ob)))) (by kernel_rfl)
    · dsimp only at h
      rw [← Option.some.inj h]
      exact run_path Tryd.func92 (ob_b h1 (ob_b h1 (ob_b h1 (ob_j (pred_arity_j1.ok ht n _ _ _ h3) ob)))) (by kernel_rfl)
theorem slices_ContainsFunc_pred_right_1.ok {n : Nat} {t : Tab} (ht : TabOk t (run Tryd.prog own kp X n)) : ∀ (p1 : List GPred) (p2 : Int) r, slices_ContainsFunc_pred_right_1 t n p1 p2 = some r → run Tryd.prog own kp X (n + 1) 95 [(.t (.sl false 3 (GPred.ts p1))), (.fn 93 [(.ref (.v (.int .i64 p2)))])] [] = some ((.t (.v (.bool r))), []) := by
  intro p1 p2 r h
  obtain ⟨a1, rfl⟩ : ∃ z_, z_ = p1 := ⟨_, rfl⟩
  obtain ⟨a2, rfl⟩ : ∃ z_, z_ = p2 := ⟨_, rfl⟩
  rw [slices_ContainsFunc_pred_right_1] at h
  rcases h1 : t.slices_IndexFunc_pred_right_1 a1 a2 with _ | a3
  · rw [h1] at h; cases h
  rw [h1] at h
  dsimp only at h
  rw [← Option.some.inj h]
  exact run_path Tryd.func95 (ob_c (ht.slices_IndexFunc_pred_right_1 _ _ _ h1) ob) (by kernel_rfl)
theorem slices_ContainsFunc_pred_right_2.ok {n : Nat} {t : Tab} (ht : TabOk t (run Tryd.prog own kp X n)) : ∀ (p1 : List GValue) r, slices_ContainsFunc_pred_right_2 t n p1 = some r → run Tryd.prog own kp X (n + 1) 96 [(.t (.sl false 5 (GValue.ts p1))), (.fn 94 [])] [] = some ((.t (.v (.bool r))), []) := by
  intro p1 r h
  obtain ⟨a1, rfl⟩ : ∃ z_, z_ = p1 := ⟨_, rfl⟩
  rw [slices_ContainsFunc_pred_right_2] at h
  rcases h1 : t.slices_IndexFunc_pred_right_2 a1 with _ | a2
  · rw [h1] at h; cases h
  rw [h1] at h
  dsimp only at h
  rw [← Option.some.inj h]
  exact run_path Tryd.func96 (ob_c (ht.slices_IndexFunc_pred_right_2 _ _ h1) ob) (by kernel_rfl)
theorem slices_Index_string_l1.okL (ht : TabOk t call) (n : Nat) : ∀ (k : Nat) (a1 : List ByteArray) (a2 : ByteArray) (a3 a4 : Int) (r : _), slices_Index_string_l1 t n k a1 a2 a3 a4 = some r → loopN (exec (env Tryd.prog 97 Tryd.f97 call) n (sub [1, 0, 1, 0, 0] (bodyOf Tryd.f97))) k (mkSt 19 19 [(0, (.t (.sl false 1 (texts a1)))), (1, (.t (.v (.string a2)))), (7, (.t (.v (.int .i64 a3)))), (8, (.t (.v (.int .i64 a4))))] []) = some (slices_Index_string_l1.to r)
  | 0, a1, a2, a3, a4, r, h => by rw [slices_Index_string_l1] at h; cases h
  | k + 1, a1, a2, a3, a4, r, h => by
    rw [slices_Index_string_l1] at h
    by_cases h1 : (decide (a4 < a3)) = true
    · rw [if_pos h1] at h
      by_cases h2 : (decide (0 ≤ (a4 : Int))) = true
      case neg => rw [if_neg h2] at h; cases h
      rw [if_pos h2] at h
      rcases h3 : a1[(a4 : Int).toNat]? with _ | a5
      · rw [h3] at h; cases h
      rw [h3] at h
      dsimp only at h
      by_cases h4 : (a2.toList == a5.toList) = true
      · rw [if_pos h4] at h
        rw [← Option.some.inj h]
        exact loop_out (path (ob_b h1 (ob_n h2 (ob_t (look_ts texts_map h3) (ob_b h4 ob)))) (by kernel_rfl)) (fun h => by cases h)
      · rw [if_neg h4] at h
        replace h4 := Bool.eq_false_iff.2 h4
        exact loop_more (path (ob_b h1 (ob_n h2 (ob_t (look_ts texts_map h3) (ob_b h4 ob)))) (by kernel_rfl)) (slices_Index_string_l1.okL ht n k _ _ _ _ _ h)
    · rw [if_neg h1] at h
      replace h1 := Bool.eq_false_iff.2 h1
      rw [← Option.some.inj h]
      exact loop_out (path (ob_b h1 ob) (by kernel_rfl)) (fun h => by cases h)
theorem slices_Index_string_l1.ok (ht : TabOk t call) (n : Nat) (a1 : List ByteArray) (a2 : ByteArray) (a3 a4 : Int) (r : _) (h : slices_Index_string_l1 t n n a1 a2 a3 a4 = some r) : exec (env Tryd.prog 97 Tryd.f97 call) n (sub [1, 0, 1, 0] (bodyOf Tryd.f97)) (mkSt 19 19 [(0, (.t (.sl false 1 (texts a1)))), (1, (.t (.v (.string a2)))), (7, (.t (.v (.int .i64 a3)))), (8, (.t (.v (.int .i64 a4))))] []) = some (slices_Index_string_l1.to r) := by
  have e1 : sub [1, 0, 1, 0] (bodyOf Tryd.f97) = .loop (sub [1, 0, 1, 0, 0] (bodyOf Tryd.f97)) := by kernel_rfl
  rw [e1, exec]
  exact slices_Index_string_l1.okL ht n n a1 a2 a3 a4 r h
theorem slices_Index_string.ok {n : Nat} {t : Tab} (ht : TabOk t (run Tryd.prog own kp X n)) : ∀ (p1 : List ByteArray) (p2 : ByteArray) r, slices_Index_string t n p1 p2 = some r → run Tryd.prog own kp X (n + 1) 97 [(.t (.sl false 1 (texts p1))), (.t (.v (.string p2)))] [] = some ((.t (.v (.int .i64 r))), []) := by
  intro p1 p2 r h
  obtain ⟨a1, rfl⟩ : ∃ z_, z_ = p1 := ⟨_, rfl⟩
  obtain ⟨a2, rfl⟩ : ∃ z_, z_ = p2 := ⟨_, rfl⟩
  rw [slices_Index_string] at h
  rcases h1 : slices_Index_string_l1 t n n a1 a2 (a1.length : Int) 0 with _ | q_
  · rw [h1] at h; cases h
  rw [h1] at h
  rcases q_ with a3 | ⟨a4, a5, a6, a7, a8⟩
  · dsimp only at h
    rw [← Option.some.inj h]
    exact run_path Tryd.func97 (ob_v (len_ts texts_map (l := a1)) (ob_k (slices_Index_string_l1.ok ht n _ _ _ _ _ h1) ob)) (by kernel_rfl)
  · dsimp only at h
    rw [← Option.some.inj h]
    exact run_path Tryd.func97 (ob_v (len_ts texts_map (l := a1)) (ob_k (slices_Index_string_l1.ok ht n _ _ _ _ _ h1) ob)) (by kernel_rfl)
theorem value_compare_j1.ok (ht : TabOk t call) (n : Nat) (a1 a2 : Int) (a3 : ByteArray) (a4 a5 : List GValue) (a6 a7 : Int) (a8 : ByteArray) (a9 a10 : List GValue) (a11 : Int) (r : _) (h : value_compare_j1 t n a1 a2 a3 a4 a5 a6 a7 a8 a9 a10 a11 = some r) : exec (env Tryd.prog 74 Tryd.f74 call) n (sub [1, 1] (bodyOf Tryd.f74)) (mkSt 48 48 [(3, (.ptr 3 0 [] 0)), (4, (.ptr 4 0 [] 0)), (5, (.ptr 5 0 [] 0))] [(3, (.t (.st [(.v (.int .i64 a1)), (.v (.int .i64 a2)), (.v (.string a3)), (.sl false 5 (GValue.ts a4)), (.sl false 5 (GValue.ts a5))]))), (4, (.t (.st [(.v (.int .i64 a6)), (.v (.int .i64 a7)), (.v (.string a8)), (.sl false 5 (GValue.ts a9)), (.sl false 5 (GValue.ts a10))]))), (5, (.t (.v (.int .i64 a11))))]) = some (value_compare_j1.to r) := by
  rw [value_compare_j1] at h
  rcases h1 : t.slices_CompareFunc_value_compare_1 a4 a9 a11 with _ | a12
  · rw [h1] at h; cases h
  rw [h1] at h
  dsimp only at h
  rcases h2 : t.slices_CompareFunc_value_compare_1 a5 a10 a11 with _ | a13
  · rw [h2] at h; cases h
  rw [h2] at h
  dsimp only at h
  obtain ⟨a14, rfl⟩ : ∃ z_, z_ = r := ⟨_, rfl⟩
  have h3 := h
  exact path (ob_c (ht.slices_CompareFunc_value_compare_1 _ _ _ _ h1) (ob_c (ht.slices_CompareFunc_value_compare_1 _ _ _ _ h2) (ob_c (ht.cmp_Or_int _ _ h3) ob))) (by kernel_rfl)
theorem value_compare.ok {n : Nat} {t : Tab} (ht : TabOk t (run Tryd.prog own kp X n)) : ∀ (p1 : GValue) (p2 : GValue) (p3 : Int) r, value_compare t n p1 p2 p3 = some r → run Tryd.prog own kp X (n + 1) 74 [(.t (GValue.t p1)), (.t (GValue.t p2)), (.t (.v (.int .i64 p3)))] [] = some ((.t (.v (.int .i64 r))), []) := by
  intro p1 p2 p3 r h
  obtain ⟨a1, a2, a3, a4, a5⟩ := p1
  obtain ⟨a6, a7, a8, a9, a10⟩ := p2
  obtain ⟨a11, rfl⟩ : ∃ z_, z_ = p3 := ⟨_, rfl⟩
  rw [value_compare] at h
  rcases h1 : t.cmp_Compare_int a1 a6 with _ | a12
  · rw [h1] at h; cases h
  rw [h1] at h
  dsimp only at h
  rcases h2 : t.cmp_Compare_int a2 a7 with _ | a13
  · rw [h2] at h; cases h
  rw [h2] at h
  dsimp only at h
  rcases h3 : t.strings_Compare a3 a8 with _ | a14
  · rw [h3] at h; cases h
  rw [h3] at h
  dsimp only at h
  rcases h4 : t.cmp_Or_int ([a12, a13, a14] : List Int) with _ | a15
  · rw [h4] at h; cases h
  rw [h4] at h
  dsimp only at h
  by_cases h5 : (a15 != 0) = true
  · rw [if_pos h5] at h
    rw [← Option.some.inj h]
    exact run_path Tryd.func74 (ob_c (ht.cmp_Compare_int _ _ _ h1) (ob_c (ht.cmp_Compare_int _ _ _ h2) (ob_c (ht.strings_Compare _ _ _ h3) (ob_c (ht.cmp_Or_int _ _ h4) (ob_b h5 (ob_b h5 (ob_b h5 (ob_b (rfl : true = true) ob)))))))) (by kernel_rfl)
  · rw [if_neg h5] at h
    replace h5 := Bool.eq_false_iff.2 h5
    by_cases h6 : (decide (a11 > 12)) = true
    · rw [if_pos h6] at h
      rw [← Option.some.inj h]
      exact run_path Tryd.func74 (ob_c (ht.cmp_Compare_int _ _ _ h1) (ob_c (ht.cmp_Compare_int _ _ _ h2) (ob_c (ht.strings_Compare _ _ _ h3) (ob_c (ht.cmp_Or_int _ _ h4) (ob_b h5 (ob_b h5 (ob_b h5 (ob_b h6 ob)))))))) (by kernel_rfl)
    · rw [if_neg h6] at h
      replace h6 := Bool.eq_false_iff.2 h6
      obtain ⟨a16, rfl⟩ : ∃ z_, z_ = r := ⟨_, rfl⟩
      have h7 := h
      exact run_path Tryd.func74 (ob_c (ht.cmp_Compare_int _ _ _ h1) (ob_c (ht.cmp_Compare_int _ _ _ h2) (ob_c (ht.strings_Compare _ _ _ h3) (ob_c (ht.cmp_Or_int _ _ h4) (ob_b h5 (ob_b h5 (ob_b h5 (ob_b h6 (ob_j (value_compare_j1.ok ht n _ _ _ _ _ _ _ _ _ _ _ _ h7) ob))))))))) (by kernel_rfl)
theorem slices_IndexFunc_plan_numbers_1_l1.okL (ht : TabOk t call) (n : Nat) : ∀ (k : Nat) (a1 : List Int) (a2 a3 : Int) (r : _), slices_IndexFunc_plan_numbers_1_l1 t n k a1 a2 a3 = some r → loopN (exec (env Tryd.prog 90 Tryd.f90 call) n (sub [1, 0, 1, 0, 0] (bodyOf Tryd.f90))) k (mkSt 19 19 [(0, (.t (.sl false 1 (ints_i64 a1)))), (1, (.fn 80 [])), (7, (.t (.v (.int .i64 a2)))), (8, (.t (.v (.int .i64 a3))))] []) = some (slices_IndexFunc_plan_numbers_1_l1.to r)
  | 0, a1, a2, a3, r, h => by rw [slices_IndexFunc_plan_numbers_1_l1] at h; cases h
  | k + 1, a1, a2, a3, r, h => by
    rw [slices_IndexFunc_plan_numbers_1_l1] at h
    by_cases h1 : (decide (a3 < a2)) = true
    · rw [if_pos h1] at h
      by_cases h2 : (decide (0 ≤ (a3 : Int))) = true
      case neg => rw [if_neg h2] at h; cases h
      rw [if_pos h2] at h
      rcases h3 : a1[(a3 : Int).toNat]? with _ | a4
      · rw [h3] at h; cases h
      rw [h3] at h
      dsimp only at h
      rcases h4 : t.plan_numbers_1 a4 with _ | a5
      · rw [h4] at h; cases h
      rw [h4] at h
      dsimp only at h
      by_cases h5 : a5 = true
      · rw [if_pos h5] at h
        rw [← Option.some.inj h]
        exact loop_out (path (ob_b h1 (ob_n h2 (ob_t (look_ts ints_i64_map h3) (ob_c (ht.plan_numbers_1 _ _ h4) (ob_b h5 ob))))) (by kernel_rfl)) (fun h => by cases h)
      · rw [if_neg h5] at h
        replace h5 := Bool.eq_false_iff.2 h5
        exact loop_more (path (ob_b h1 (ob_n h2 (ob_t (look_ts ints_i64_map h3) (ob_c (ht.plan_numbers_1 _ _ h4) (ob_b h5 ob))))) (by kernel_rfl)) (slices_IndexFunc_plan_numbers_1_l1.okL ht n k _ _ _ _ h)
    · rw [if_neg h1] at h
      replace h1 := Bool.eq_false_iff.2 h1
      rw [← Option.some.inj h]
      exact loop_out (path (ob_b h1 ob) (by kernel_rfl)) (fun h => by cases h)
theorem slices_IndexFunc_plan_numbers_1_l1.ok (ht : TabOk t call) (n : Nat) (a1 : List Int) (a2 a3 : Int) (r : _) (h : slices_IndexFunc_plan_numbers_1_l1 t n n a1 a2 a3 = some r) : exec (env Tryd.prog 90 Tryd.f90 call) n (sub [1, 0, 1, 0] (bodyOf Tryd.f90)) (mkSt 19 19 [(0, (.t (.sl false 1 (ints_i64 a1)))), (1, (.fn 80 [])), (7, (.t (.v (.int .i64 a2)))), (8, (.t (.v (.int .i64 a3))))] []) = some (slices_IndexFunc_plan_numbers_1_l1.to r) := by
  have e1 : sub [1, 0, 1, 0] (bodyOf Tryd.f90) = .loop (sub [1, 0, 1, 0, 0] (bodyOf Tryd.f90)) := by kernel_rfl
  rw [e1, exec]
  exact slices_IndexFunc_plan_numbers_1_l1.okL ht n n a1 a2 a3 r h
theorem slices_IndexFunc_plan_numbers_1.ok {n : Nat} {t : Tab} (ht : TabOk t (run Tryd.prog own kp X n)) : ∀ (p1 : List Int) r, slices_IndexFunc_plan_numbers_1 t n p1 = some r → run Tryd.prog own kp X (n + 1) 90 [(.t (.sl false 1 (ints_i64 p1))), (.fn 80 [])] [] = some ((.t (.v (.int .i64 r))), []) := by
  intro p1 r h
  obtain ⟨a1, rfl⟩ : ∃ z_, z_ = p1 := ⟨_, rfl⟩
  rw [slices_IndexFunc_plan_numbers_1] at h
  rcases h1 : slices_IndexFunc_plan_numbers_1_l1 t n n a1 (a1.length : Int) 0 with _ | q_
  · rw [h1] at h; cases h
  rw [h1] at h
  rcases q_ with a2 | ⟨a3, a4, a5, a6⟩
  · dsimp only at h
    rw [← Option.some.inj h]
    exact run_path Tryd.func90 (ob_v (len_ts ints_i64_map (l := a1)) (ob_k (slices_IndexFunc_plan_numbers_1_l1.ok ht n _ _ _ _ h1) ob)) (by kernel_rfl)
  · dsimp only at h
    rw [← Option.some.inj h]
    exact run_path Tryd.func90 (ob_v (len_ts ints_i64_map (l := a1)) (ob_k (slices_IndexFunc_plan_numbers_1_l1.ok ht n _ _ _ _ h1) ob)) (by kernel_rfl)
theorem graph_sign_j1.ok (ht : TabOk t call) (n : Nat) (a1 : Int) (a2 a3 : Bool) (r : _) (h : graph_sign_j1 t n a1 a2 a3 = some r) : exec (env Tryd.prog 77 Tryd.f77 call) n (sub [1, 0, 0, 0, 1] (bodyOf Tryd.f77)) (mkSt 29 29 [(0, (.t (.v (.int .u8 a1)))), (1, (.t (.v (.bool a2)))), (5, (.t (.v (.bool a3))))] []) = some (graph_sign_j1.to r) := by
  rw [graph_sign_j1] at h
  by_cases h1 : a3 = true
  · rw [if_pos h1] at h
    rw [← Option.some.inj h]
    exact path (ob_b h1 ob) (by kernel_rfl)
  · rw [if_neg h1] at h
    replace h1 := Bool.eq_false_iff.2 h1
    by_cases h2 : (decide (a1 ≥ 65)) = true
    · rw [if_pos h2] at h
      by_cases h3 : (decide (a1 ≤ 90)) = true
      · rw [if_pos h3] at h
        rw [← Option.some.inj h]
        exact path (ob_b h1 (ob_b h2 (ob_b h2 (ob_b h2 (ob_b h3 ob))))) (by kernel_rfl)
      · rw [if_neg h3] at h
        replace h3 := Bool.eq_false_iff.2 h3
        rw [← Option.some.inj h]
        exact path (ob_b h1 (ob_b h2 (ob_b h2 (ob_b h2 (ob_b h3 ob))))) (by kernel_rfl)
    · rw [if_neg h2] at h
      replace h2 := Bool.eq_false_iff.2 h2
      rw [← Option.some.inj h]
      exact path (ob_b h1 (ob_b h2 (ob_b h2 (ob_b h2 (ob_b (rfl : false = false) ob))))) (by kernel_rfl)
theorem graph_sign_j2.ok (ht : TabOk t call) (n : Nat) (a1 : Int) (a2 a3 : Bool) (r : _) (h : graph_sign_j2 t n a1 a2 a3 = some r) : exec (env Tryd.prog 77 Tryd.f77 call) n (sub [1, 0, 0, 1] (bodyOf Tryd.f77)) (mkSt 29 29 [(0, (.t (.v (.int .u8 a1)))), (1, (.t (.v (.bool a2)))), (5, (.t (.v (.bool a3))))] []) = some (graph_sign_j2.to r) := by
  rw [graph_sign_j2] at h
  by_cases h1 : a3 = true
  · rw [if_pos h1] at h
    rw [← Option.some.inj h]
    exact path (ob_b h1 ob) (by kernel_rfl)
  · rw [if_neg h1] at h
    replace h1 := Bool.eq_false_iff.2 h1
    by_cases h2 : (decide (a1 ≥ 48)) = true
    · rw [if_pos h2] at h
      by_cases h3 : (decide (a1 ≤ 57)) = true
      · rw [if_pos h3] at h
        rw [← Option.some.inj h]
        exact path (ob_b h1 (ob_b h2 (ob_b h2 (ob_b h2 (ob_b h3 ob))))) (by kernel_rfl)
      · rw [if_neg h3] at h
        replace h3 := Bool.eq_false_iff.2 h3
        rw [← Option.some.inj h]
        exact path (ob_b h1 (ob_b h2 (ob_b h2 (ob_b h2 (ob_b h3 ob))))) (by kernel_rfl)
    · rw [if_neg h2] at h
      replace h2 := Bool.eq_false_iff.2 h2
      rw [← Option.some.inj h]
      exact path (ob_b h1 (ob_b h2 (ob_b h2 (ob_b h2 (ob_b (rfl : false = false) ob))))) (by kernel_rfl)
theorem graph_sign.ok {n : Nat} {t : Tab} (ht : TabOk t (run Tryd.prog own kp X n)) : ∀ (p1 : Int) (p2 : Bool) r, graph_sign t n p1 p2 = some r → run Tryd.prog own kp X (n + 1) 77 [(.t (.v (.int .u8 p1))), (.t (.v (.bool p2)))] [] = some ((.t (.v (.bool r))), []) := by
  intro p1 p2 r h
  obtain ⟨a1, rfl⟩ : ∃ z_, z_ = p1 := ⟨_, rfl⟩
  obtain ⟨a2, rfl⟩ : ∃ z_, z_ = p2 := ⟨_, rfl⟩
  rw [graph_sign] at h
  by_cases h1 : (decide (a1 ≥ 97)) = true
  · rw [if_pos h1] at h
    rcases h2 : graph_sign_j1 t n  a1 a2 (decide (a1 ≤ 122)) with _ | q_
    · rw [h2] at h; cases h
    rw [h2] at h
    obtain ⟨a3, a4, a5⟩ := q_
    dsimp only at h
    rcases h3 : graph_sign_j2 t n  a3 a4 a5 with _ | q_
    · rw [h3] at h; cases h
    rw [h3] at h
    rcases q_ with a6 | _
    · dsimp only at h
      rw [← Option.some.inj h]
      exact run_path Tryd.func77 (ob_b h1 (ob_b h1 (ob_b h1 (ob_j (graph_sign_j1.ok ht n _ _ _ _ h2) (ob_j (graph_sign_j2.ok ht n _ _ _ _ h3) ob))))) (by kernel_rfl)
    · dsimp only at h
      rw [← Option.some.inj h]
      exact run_path Tryd.func77 (ob_b h1 (ob_b h1 (ob_b h1 (ob_j (graph_sign_j1.ok ht n _ _ _ _ h2) (ob_j (graph_sign_j2.ok ht n _ _ _ _ h3) ob))))) (by kernel_rfl)
  · rw [if_neg h1] at h
    replace h1 := Bool.eq_false_iff.2 h1
    rcases h4 : graph_sign_j1 t n  a1 a2 false with _ | q_
    · rw [h4] at h; cases h
    rw [h4] at h
    obtain ⟨a7, a8, a9⟩ := q_
    dsimp only at h
    rcases h5 : graph_sign_j2 t n  a7 a8 a9 with _ | q_
    · rw [h5] at h; cases h
    rw [h5] at h
    rcases q_ with a10 | _
    · dsimp only at h
      rw [← Option.some.inj h]
      exact run_path Tryd.func77 (ob_b h1 (ob_b h1 (ob_b h1 (ob_j (graph_sign_j1.ok ht n _ _ _ _ h4) (ob_j (graph_sign_j2.ok ht n _ _ _ _ h5) ob))))) (by kernel_rfl)
    · dsimp only at h
      rw [← Option.some.inj h]
      exact run_path Tryd.func77 (ob_b h1 (ob_b h1 (ob_b h1 (ob_j (graph_sign_j1.ok ht n _ _ _ _ h4) (ob_j (graph_sign_j2.ok ht n _ _ _ _ h5) ob))))) (by kernel_rfl)
theorem slices_IndexFunc_pred_right_1_l1.okL (ht : TabOk t call) (n : Nat) : ∀ (k : Nat) (a1 : List GPred) (a2 a3 a4 : Int) (r : _), slices_IndexFunc_pred_right_1_l1 t n k a1 a2 a3 a4 = some r → loopN (exec (env Tryd.prog 101 Tryd.f101 call) n (sub [1, 0, 1, 0, 0] (bodyOf Tryd.f101))) k (mkSt 19 19 [(0, (.t (.sl false 3 (GPred.ts a1)))), (1, (.fn 93 [(.ref (.v (.int .i64 a2)))])), (7, (.t (.v (.int .i64 a3)))), (8, (.t (.v (.int .i64 a4))))] []) = some (slices_IndexFunc_pred_right_1_l1.to r)
  | 0, a1, a2, a3, a4, r, h => by rw [slices_IndexFunc_pred_right_1_l1] at h; cases h
  | k + 1, a1, a2, a3, a4, r, h => by
    rw [slices_IndexFunc_pred_right_1_l1] at h
    by_cases h1 : (decide (a4 < a3)) = true
    · rw [if_pos h1] at h
      by_cases h2 : (decide (0 ≤ (a4 : Int))) = true
      case neg => rw [if_neg h2] at h; cases h
      rw [if_pos h2] at h
      rcases h3 : a1[(a4 : Int).toNat]? with _ | ⟨a5, a6, a7⟩
      · rw [h3] at h; cases h
      rw [h3] at h
      dsimp only at h
      rcases h4 : t.pred_right_1 (GPred.mk a5 a6 a7) a2 with _ | a8
      · rw [h4] at h; cases h
      rw [h4] at h
      dsimp only at h
      by_cases h5 : a8 = true
      · rw [if_pos h5] at h
        rw [← Option.some.inj h]
        exact loop_out (path (ob_b h1 (ob_n h2 (ob_t (look_ts GPred.ts_map h3) (ob_c (ht.pred_right_1 _ _ _ h4) (ob_b h5 ob))))) (by kernel_rfl)) (fun h => by cases h)
      · rw [if_neg h5] at h
        replace h5 := Bool.eq_false_iff.2 h5
        exact loop_more (path (ob_b h1 (ob_n h2 (ob_t (look_ts GPred.ts_map h3) (ob_c (ht.pred_right_1 _ _ _ h4) (ob_b h5 ob))))) (by kernel_rfl)) (slices_IndexFunc_pred_right_1_l1.okL ht n k _ _ _ _ _ h)
    · rw [if_neg h1] at h
      replace h1 := Bool.eq_false_iff.2 h1
      rw [← Option.some.inj h]
      exact loop_out (path (ob_b h1 ob) (by kernel_rfl)) (fun h => by cases h)
theorem slices_IndexFunc_pred_right_1_l1.ok (ht : TabOk t call) (n : Nat) (a1 : List GPred) (a2 a3 a4 : Int) (r : _) (h : slices_IndexFunc_pred_right_1_l1 t n n a1 a2 a3 a4 = some r) : exec (env Tryd.prog 101 Tryd.f101 call) n (sub [1, 0, 1, 0] (bodyOf Tryd.f101)) (mkSt 19 19 [(0, (.t (.sl false 3 (GPred.ts a1)))), (1, (.fn 93 [(.ref (.v (.int .i64 a2)))])), (7, (.t (.v (.int .i64 a3)))), (8, (.t (.v (.int .i64 a4))))] []) = some (slices_IndexFunc_pred_right_1_l1.to r) := by
  have e1 : sub [1, 0, 1, 0] (bodyOf Tryd.f101) = .loop (sub [1, 0, 1, 0, 0] (bodyOf Tryd.f101)) := by kernel_rfl
  rw [e1, exec]
  exact slices_IndexFunc_pred_right_1_l1.okL ht n n a1 a2 a3 a4 r h
theorem slices_IndexFunc_pred_right_1.ok {n : Nat} {t : Tab} (ht : TabOk t (run Tryd.prog own kp X n)) : ∀ (p1 : List GPred) (p2 : Int) r, slices_IndexFunc_pred_right_1 t n p1 p2 = some r → run Tryd.prog own kp X (n + 1) 101 [(.t (.sl false 3 (GPred.ts p1))), (.fn 93 [(.ref (.v (.int .i64 p2)))])] [] = some ((.t (.v (.int .i64 r))), []) := by
  intro p1 p2 r h
  obtain ⟨a1, rfl⟩ : ∃ z_, z_ = p1 := ⟨_, rfl⟩
  obtain ⟨a2, rfl⟩ : ∃ z_, z_ = p2 := ⟨_, rfl⟩
  rw [slices_IndexFunc_pred_right_1] at h
  rcases h1 : slices_IndexFunc_pred_right_1_l1 t n n a1 a2 (a1.length : Int) 0 with _ | q_
  · rw [h1] at h; cases h
  rw [h1] at h
  rcases q_ with a3 | ⟨a4, a5, a6, a7, a8⟩
  · dsimp only at h
    rw [← Option.some.inj h]
    exact run_path Tryd.func101 (ob_v (len_ts GPred.ts_map (l := a1)) (ob_k (slices_IndexFunc_pred_right_1_l1.ok ht n _ _ _ _ _ h1) ob)) (by kernel_rfl)
  · dsimp only at h
    rw [← Option.some.inj h]
    exact run_path Tryd.func101 (ob_v (len_ts GPred.ts_map (l := a1)) (ob_k (slices_IndexFunc_pred_right_1_l1.ok ht n _ _ _ _ _ h1) ob)) (by kernel_rfl)
theorem slices_IndexFunc_pred_right_2_l1.okL (ht : TabOk t call) (n : Nat) : ∀ (k : Nat) (a1 : List GValue) (a2 a3 : Int) (r : _), slices_IndexFunc_pred_right_2_l1 t n k a1 a2 a3 = some r → loopN (exec (env Tryd.prog 102 Tryd.f102 call) n (sub [1, 0, 1, 0, 0] (bodyOf Tryd.f102))) k (mkSt 19 19 [(0, (.t (.sl false 5 (GValue.ts a1)))), (1, (.fn 94 [])), (7, (.t (.v (.int .i64 a2)))), (8, (.t (.v (.int .i64 a3))))] []) = some (slices_IndexFunc_pred_right_2_l1.to r)
  | 0, a1, a2, a3, r, h => by rw [slices_IndexFunc_pred_right_2_l1] at h; cases h
  | k + 1, a1, a2, a3, r, h => by
    rw [slices_IndexFunc_pred_right_2_l1] at h
    by_cases h1 : (decide (a3 < a2)) = true
    · rw [if_pos h1] at h
      by_cases h2 : (decide (0 ≤ (a3 : Int))) = true
      case neg => rw [if_neg h2] at h; cases h
      rw [if_pos h2] at h
      rcases h3 : a1[(a3 : Int).toNat]? with _ | ⟨a4, a5, a6, a7, a8⟩
      · rw [h3] at h; cases h
      rw [h3] at h
      dsimp only at h
      rcases h4 : t.pred_right_2 (GValue.mk a4 a5 a6 a7 a8) with _ | a9
      · rw [h4] at h; cases h
      rw [h4] at h
      dsimp only at h
      by_cases h5 : a9 = true
      · rw [if_pos h5] at h
        rw [← Option.some.inj h]
        exact loop_out (path (ob_b h1 (ob_n h2 (ob_t (look_ts GValue.ts_map h3) (ob_c (ht.pred_right_2 _ _ h4) (ob_b h5 ob))))) (by kernel_rfl)) (fun h => by cases h)
      · rw [if_neg h5] at h
        replace h5 := Bool.eq_false_iff.2 h5
        exact loop_more (path (ob_b h1 (ob_n h2 (ob_t (look_ts GValue.ts_map h3) (ob_c (ht.pred_right_2 _ _ h4) (ob_b h5 ob))))) (by kernel_rfl)) (slices_IndexFunc_pred_right_2_l1.okL ht n k _ _ _ _ h)
    · rw [if_neg h1] at h
      replace h1 := Bool.eq_false_iff.2 h1
      rw [← Option.some.inj h]
      exact loop_out (path (ob_b h1 ob) (by kernel_rfl)) (fun h => by cases h)
theorem slices_IndexFunc_pred_right_2_l1.ok (ht : TabOk t call) (n : Nat) (a1 : List GValue) (a2 a3 : Int) (r : _) (h : slices_IndexFunc_pred_right_2_l1 t n n a1 a2 a3 = some r) : exec (env Tryd.prog 102 Tryd.f102 call) n (sub [1, 0, 1, 0] (bodyOf Tryd.f102)) (mkSt 19 19 [(0, (.t (.sl false 5 (GValue.ts a1)))), (1, (.fn 94 [])), (7, (.t (.v (.int .i64 a2)))), (8, (.t (.v (.int .i64 a3))))] []) = some (slices_IndexFunc_pred_right_2_l1.to r) := by
  have e1 : sub [1, 0, 1, 0] (bodyOf Tryd.f102) = .loop (sub [1, 0, 1, 0, 0] (bodyOf Tryd.f102)) := by kernel_rfl
  rw [e1, exec]
  exact slices_IndexFunc_pred_right_2_l1.okL ht n n a1 a2 a3 r h
theorem slices_IndexFunc_pred_right_2.ok {n : Nat} {t : Tab} (ht : TabOk t (run Tryd.prog own kp X n)) : ∀ (p1 : List GValue) r, slices_IndexFunc_pred_right_2 t n p1 = some r → run Tryd.prog own kp X (n + 1) 102 [(.t (.sl false 5 (GValue.ts p1))), (.fn 94 [])] [] = some ((.t (.v (.int .i64 r))), []) := by
  intro p1 r h
  obtain ⟨a1, rfl⟩ : ∃ z_, z_ = p1 := ⟨_, rfl⟩
  rw [slices_IndexFunc_pred_right_2] at h
  rcases h1 : slices_IndexFunc_pred_right_2_l1 t n n a1 (a1.length : Int) 0 with _ | q_
  · rw [h1] at h; cases h
  rw [h1] at h
  rcases q_ with a2 | ⟨a3, a4, a5, a6⟩
  · dsimp only at h
    rw [← Option.some.inj h]
    exact run_path Tryd.func102 (ob_v (len_ts GValue.ts_map (l := a1)) (ob_k (slices_IndexFunc_pred_right_2_l1.ok ht n _ _ _ _ h1) ob)) (by kernel_rfl)
  · dsimp only at h
    rw [← Option.some.inj h]
    exact run_path Tryd.func102 (ob_v (len_ts GValue.ts_map (l := a1)) (ob_k (slices_IndexFunc_pred_right_2_l1.ok ht n _ _ _ _ h1) ob)) (by kernel_rfl)
theorem cmp_Compare_int.ok {n : Nat} {t : Tab} (ht : TabOk t (run Tryd.prog own kp X n)) : ∀ (p1 : Int) (p2 : Int) r, cmp_Compare_int t n p1 p2 = some r → run Tryd.prog own kp X (n + 1) 85 [(.t (.v (.int .i64 p1))), (.t (.v (.int .i64 p2)))] [] = some ((.t (.v (.int .i64 r))), []) := by
  intro p1 p2 r h
  obtain ⟨a1, rfl⟩ : ∃ z_, z_ = p1 := ⟨_, rfl⟩
  obtain ⟨a2, rfl⟩ : ∃ z_, z_ = p2 := ⟨_, rfl⟩
  rw [cmp_Compare_int] at h
  rcases h1 : t.cmp_isNaN_int a1 with _ | a3
  · rw [h1] at h; cases h
  rw [h1] at h
  dsimp only at h
  rcases h2 : t.cmp_isNaN_int a2 with _ | a4
  · rw [h2] at h; cases h
  rw [h2] at h
  dsimp only at h
  by_cases h3 : a3 = true
  · rw [if_pos h3] at h
    by_cases h4 : a4 = true
    · rw [if_pos h4] at h
      rw [← Option.some.inj h]
      exact run_path Tryd.func85 (ob_c (ht.cmp_isNaN_int _ _ h1) (ob_c (ht.cmp_isNaN_int _ _ h2) (ob_b h3 (ob_b h4 ob)))) (by kernel_rfl)
    · rw [if_neg h4] at h
      replace h4 := Bool.eq_false_iff.2 h4
      rw [← Option.some.inj h]
      exact run_path Tryd.func85 (ob_c (ht.cmp_isNaN_int _ _ h1) (ob_c (ht.cmp_isNaN_int _ _ h2) (ob_b h3 (ob_b h4 ob)))) (by kernel_rfl)
  · rw [if_neg h3] at h
    replace h3 := Bool.eq_false_iff.2 h3
    by_cases h5 : a4 = true
    · rw [if_pos h5] at h
      rw [← Option.some.inj h]
      exact run_path Tryd.func85 (ob_c (ht.cmp_isNaN_int _ _ h1) (ob_c (ht.cmp_isNaN_int _ _ h2) (ob_b h3 (ob_b h5 ob)))) (by kernel_rfl)
    · rw [if_neg h5] at h
      replace h5 := Bool.eq_false_iff.2 h5
      by_cases h6 : (decide (a1 < a2)) = true
      · rw [if_pos h6] at h
        rw [← Option.some.inj h]
        exact run_path Tryd.func85 (ob_c (ht.cmp_isNaN_int _ _ h1) (ob_c (ht.cmp_isNaN_int _ _ h2) (ob_b h3 (ob_b h5 (ob_b h6 ob))))) (by kernel_rfl)
      · rw [if_neg h6] at h
        replace h6 := Bool.eq_false_iff.2 h6
        by_cases h7 : (decide (a1 > a2)) = true
        · rw [if_pos h7] at h
          rw [← Option.some.inj h]
          exact run_path Tryd.func85 (ob_c (ht.cmp_isNaN_int _ _ h1) (ob_c (ht.cmp_isNaN_int _ _ h2) (ob_b h3 (ob_b h5 (ob_b h6 (ob_b h7 ob)))))) (by kernel_rfl)
        · rw [if_neg h7] at h
          replace h7 := Bool.eq_false_iff.2 h7
          rw [← Option.some.inj h]
          exact run_path Tryd.func85 (ob_c (ht.cmp_isNaN_int _ _ h1) (ob_c (ht.cmp_isNaN_int _ _ h2) (ob_b h3 (ob_b h5 (ob_b h6 (ob_b h7 ob)))))) (by kernel_rfl)
theorem strings_Compare.ok {n : Nat} {t : Tab} (ht : TabOk t (run Tryd.prog own kp X n)) : ∀ (p1 : ByteArray) (p2 : ByteArray) r, strings_Compare t n p1 p2 = some r → run Tryd.prog own kp X (n + 1) 86 [(.t (.v (.string p1))), (.t (.v (.string p2)))] [] = some ((.t (.v (.int .i64 r))), []) := by
  intro p1 p2 r h
  obtain ⟨a1, rfl⟩ : ∃ z_, z_ = p1 := ⟨_, rfl⟩
  obtain ⟨a2, rfl⟩ : ∃ z_, z_ = p2 := ⟨_, rfl⟩
  rw [strings_Compare] at h
  obtain ⟨a3, rfl⟩ : ∃ z_, z_ = r := ⟨_, rfl⟩
  have h1 := h
  exact run_path Tryd.func86 (ob_c (ht.bytealg_CompareString _ _ _ h1) ob) (by kernel_rfl)
theorem cmp_Or_int_l1.okL (ht : TabOk t call) (n : Nat) : ∀ (k : Nat) (a1 : Int) (a2 : List Int) (a3 a4 : Int) (r : _), cmp_Or_int_l1 t n k a1 a2 a3 a4 = some r → loopN (exec (env Tryd.prog 84 Tryd.f84 call) n (sub [1, 1, 0, 1, 0, 0] (bodyOf Tryd.f84))) k (mkSt 18 18 [(3, (.t (.v (.int .i64 a1)))), (6, (.t (.sl false 1 (ints_i64 a2)))), (7, (.t (.v (.int .i64 a3)))), (8, (.t (.v (.int .i64 a4))))] []) = some (cmp_Or_int_l1.to r)
  | 0, a1, a2, a3, a4, r, h => by rw [cmp_Or_int_l1] at h; cases h
  | k + 1, a1, a2, a3, a4, r, h => by
    rw [cmp_Or_int_l1] at h
    by_cases h1 : (decide (a4 < a3)) = true
    · rw [if_pos h1] at h
      by_cases h2 : (decide (0 ≤ (a4 : Int))) = true
      case neg => rw [if_neg h2] at h; cases h
      rw [if_pos h2] at h
      rcases h3 : a2[(a4 : Int).toNat]? with _ | a5
      · rw [h3] at h; cases h
      rw [h3] at h
      dsimp only at h
      by_cases h4 : (a5 != a1) = true
      · rw [if_pos h4] at h
        rw [← Option.some.inj h]
        exact loop_out (path (ob_b h1 (ob_n h2 (ob_t (look_ts ints_i64_map h3) (ob_b h4 ob)))) (by kernel_rfl)) (fun h => by cases h)
      · rw [if_neg h4] at h
        replace h4 := Bool.eq_false_iff.2 h4
        exact loop_more (path (ob_b h1 (ob_n h2 (ob_t (look_ts ints_i64_map h3) (ob_b h4 ob)))) (by kernel_rfl)) (cmp_Or_int_l1.okL ht n k _ _ _ _ _ h)
    · rw [if_neg h1] at h
      replace h1 := Bool.eq_false_iff.2 h1
      rw [← Option.some.inj h]
      exact loop_out (path (ob_b h1 ob) (by kernel_rfl)) (fun h => by cases h)
theorem cmp_Or_int_l1.ok (ht : TabOk t call) (n : Nat) (a1 : Int) (a2 : List Int) (a3 a4 : Int) (r : _) (h : cmp_Or_int_l1 t n n a1 a2 a3 a4 = some r) : exec (env Tryd.prog 84 Tryd.f84 call) n (sub [1, 1, 0, 1, 0] (bodyOf Tryd.f84)) (mkSt 18 18 [(3, (.t (.v (.int .i64 a1)))), (6, (.t (.sl false 1 (ints_i64 a2)))), (7, (.t (.v (.int .i64 a3)))), (8, (.t (.v (.int .i64 a4))))] []) = some (cmp_Or_int_l1.to r) := by
  have e1 : sub [1, 1, 0, 1, 0] (bodyOf Tryd.f84) = .loop (sub [1, 1, 0, 1, 0, 0] (bodyOf Tryd.f84)) := by kernel_rfl
  rw [e1, exec]
  exact cmp_Or_int_l1.okL ht n n a1 a2 a3 a4 r h
theorem cmp_Or_int.ok {n : Nat} {t : Tab} (ht : TabOk t (run Tryd.prog own kp X n)) : ∀ (p1 : List Int) r, cmp_Or_int t n p1 = some r → run Tryd.prog own kp X (n + 1) 84 [(.t (.sl false 1 (ints_i64 p1)))] [] = some ((.t (.v (.int .i64 r))), []) := by
  intro p1 r h
  obtain ⟨a1, rfl⟩ : ∃ z_, z_ = p1 := ⟨_, rfl⟩
  rw [cmp_Or_int] at h
  rcases h1 : cmp_Or_int_l1 t n n 0 a1 (a1.length : Int) 0 with _ | q_
  · rw [h1] at h; cases h
  rw [h1] at h
  rcases q_ with a2 | ⟨a3, a4, a5, a6, a7⟩
  · dsimp only at h
    rw [← Option.some.inj h]
    exact run_path Tryd.func84 (ob_v (len_ts ints_i64_map (l := a1)) (ob_k (cmp_Or_int_l1.ok ht n _ _ _ _ _ h1) ob)) (by kernel_rfl)
  · dsimp only at h
    rw [← Option.some.inj h]
    exact run_path Tryd.func84 (ob_v (len_ts ints_i64_map (l := a1)) (ob_k (cmp_Or_int_l1.ok ht n _ _ _ _ _ h1) ob)) (by kernel_rfl)
theorem slices_CompareFunc_value_compare_1_l1.okL (ht : TabOk t call) (n : Nat) : ∀ (k : Nat) (a1 a2 : List GValue) (a3 : Int) (a4 : List GValue) (a5 a6 : Int) (r : _), slices_CompareFunc_value_compare_1_l1 t n k a1 a2 a3 a4 a5 a6 = some r → loopN (exec (env Tryd.prog 88 Tryd.f88 call) n (sub [1, 0, 1, 0, 0] (bodyOf Tryd.f88))) k (mkSt 39 39 [(0, (.t (.sl false 5 (GValue.ts a1)))), (1, (.t (.sl false 5 (GValue.ts a2)))), (2, (.fn 87 [(.ref (.v (.int .i64 a3)))])), (11, (.t (.sl false 5 (GValue.ts a4)))), (12, (.t (.v (.int .i64 a5)))), (13, (.t (.v (.int .i64 a6))))] []) = some (slices_CompareFunc_value_compare_1_l1.to r)
  | 0, a1, a2, a3, a4, a5, a6, r, h => by rw [slices_CompareFunc_value_compare_1_l1] at h; cases h
  | k + 1, a1, a2, a3, a4, a5, a6, r, h => by
    rw [slices_CompareFunc_value_compare_1_l1] at h
    by_cases h1 : (decide (a6 < a5)) = true
    · rw [if_pos h1] at h
      by_cases h2 : (decide (0 ≤ (a6 : Int))) = true
      case neg => rw [if_neg h2] at h; cases h
      rw [if_pos h2] at h
      rcases h3 : a4[(a6 : Int).toNat]? with _ | ⟨a7, a8, a9, a10, a11⟩
      · rw [h3] at h; cases h
      rw [h3] at h
      dsimp only at h
      by_cases h4 : (decide (a6 ≥ (a2.length : Int))) = true
      · rw [if_pos h4] at h
        rw [← Option.some.inj h]
        exact loop_out (path (ob_b h1 (ob_n h2 (ob_t (look_ts GValue.ts_map h3) (ob_v (len_ts GValue.ts_map (l := a2)) (ob_b h4 ob))))) (by kernel_rfl)) (fun h => by cases h)
      · rw [if_neg h4] at h
        replace h4 := Bool.eq_false_iff.2 h4
        rcases h5 : a2[(a6 : Int).toNat]? with _ | ⟨a12, a13, a14, a15, a16⟩
        · rw [h5] at h; cases h
        rw [h5] at h
        dsimp only at h
        rcases h6 : t.value_compare_1 (GValue.mk a7 a8 a9 a10 a11) (GValue.mk a12 a13 a14 a15 a16) a3 with _ | a17
        · rw [h6] at h; cases h
        rw [h6] at h
        dsimp only at h
        by_cases h7 : (a17 != 0) = true
        · rw [if_pos h7] at h
          rw [← Option.some.inj h]
          exact loop_out (path (ob_b h1 (ob_n h2 (ob_t (look_ts GValue.ts_map h3) (ob_v (len_ts GValue.ts_map (l := a2)) (ob_b h4 (ob_n h2 (ob_t (look_ts GValue.ts_map h5) (ob_c (ht.value_compare_1 _ _ _ _ h6) (ob_b h7 ob))))))))) (by kernel_rfl)) (fun h => by cases h)
        · rw [if_neg h7] at h
          replace h7 := Bool.eq_false_iff.2 h7
          exact loop_more (path (ob_b h1 (ob_n h2 (ob_t (look_ts GValue.ts_map h3) (ob_v (len_ts GValue.ts_map (l := a2)) (ob_b h4 (ob_n h2 (ob_t (look_ts GValue.ts_map h5) (ob_c (ht.value_compare_1 _ _ _ _ h6) (ob_b h7 ob))))))))) (by kernel_rfl)) (slices_CompareFunc_value_compare_1_l1.okL ht n k _ _ _ _ _ _ _ h)
    · rw [if_neg h1] at h
      replace h1 := Bool.eq_false_iff.2 h1
      rw [← Option.some.inj h]
      exact loop_out (path (ob_b h1 ob) (by kernel_rfl)) (fun h => by cases h)
theorem slices_CompareFunc_value_compare_1_l1.ok (ht : TabOk t call) (n : Nat) (a1 a2 : List GValue) (a3 : Int) (a4 : List GValue) (a5 a6 : Int) (r : _) (h : slices_CompareFunc_value_compare_1_l1 t n n a1 a2 a3 a4 a5 a6 = some r) : exec (env Tryd.prog 88 Tryd.f88 call) n (sub [1, 0, 1, 0] (bodyOf Tryd.f88)) (mkSt 39 39 [(0, (.t (.sl false 5 (GValue.ts a1)))), (1, (.t (.sl false 5 (GValue.ts a2)))), (2, (.fn 87 [(.ref (.v (.int .i64 a3)))])), (11, (.t (.sl false 5 (GValue.ts a4)))), (12, (.t (.v (.int .i64 a5)))), (13, (.t (.v (.int .i64 a6))))] []) = some (slices_CompareFunc_value_compare_1_l1.to r) := by
  have e1 : sub [1, 0, 1, 0] (bodyOf Tryd.f88) = .loop (sub [1, 0, 1, 0, 0] (bodyOf Tryd.f88)) := by kernel_rfl
  rw [e1, exec]
  exact slices_CompareFunc_value_compare_1_l1.okL ht n n a1 a2 a3 a4 a5 a6 r h
theorem slices_CompareFunc_value_compare_1_j2.ok (ht : TabOk t call) (n : Nat) (a1 a2 : List GValue) (r : _) (h : slices_CompareFunc_value_compare_1_j2 t n a1 a2 = some r) : exec (env Tryd.prog 88 Tryd.f88 call) n (sub [1, 1] (bodyOf Tryd.f88)) (mkSt 39 39 [(0, (.t (.sl false 5 (GValue.ts a1)))), (1, (.t (.sl false 5 (GValue.ts a2))))] []) = some (slices_CompareFunc_value_compare_1_j2.to r) := by
  rw [slices_CompareFunc_value_compare_1_j2] at h
  by_cases h1 : (decide ((a1.length : Int) < (a2.length : Int))) = true
  · rw [if_pos h1] at h
    rw [← Option.some.inj h]
    exact path (ob_v (len_ts GValue.ts_map (l := a1)) (ob_v (len_ts GValue.ts_map (l := a2)) (ob_b h1 ob))) (by kernel_rfl)
  · rw [if_neg h1] at h
    replace h1 := Bool.eq_false_iff.2 h1
    rw [← Option.some.inj h]
    exact path (ob_v (len_ts GValue.ts_map (l := a1)) (ob_v (len_ts GValue.ts_map (l := a2)) (ob_b h1 ob))) (by kernel_rfl)
theorem slices_CompareFunc_value_compare_1.ok {n : Nat} {t : Tab} (ht : TabOk t (run Tryd.prog own kp X n)) : ∀ (p1 : List GValue) (p2 : List GValue) (p3 : Int) r, slices_CompareFunc_value_compare_1 t n p1 p2 p3 = some r → run Tryd.prog own kp X (n + 1) 88 [(.t (.sl false 5 (GValue.ts p1))), (.t (.sl false 5 (GValue.ts p2))), (.fn 87 [(.ref (.v (.int .i64 p3)))])] [] = some ((.t (.v (.int .i64 r))), []) := by
  intro p1 p2 p3 r h
  obtain ⟨a1, rfl⟩ : ∃ z_, z_ = p1 := ⟨_, rfl⟩
  obtain ⟨a2, rfl⟩ : ∃ z_, z_ = p2 := ⟨_, rfl⟩
  obtain ⟨a3, rfl⟩ : ∃ z_, z_ = p3 := ⟨_, rfl⟩
  rw [slices_CompareFunc_value_compare_1] at h
  rcases h1 : slices_CompareFunc_value_compare_1_l1 t n n a1 a2 a3 a1 (a1.length : Int) 0 with _ | q_
  · rw [h1] at h; cases h
  rw [h1] at h
  rcases q_ with a4 | ⟨a5, a6, a7, a8, a9, a10, a11⟩
  · dsimp only at h
    rw [← Option.some.inj h]
    exact run_path Tryd.func88 (ob_v (len_ts GValue.ts_map (l := a1)) (ob_k (slices_CompareFunc_value_compare_1_l1.ok ht n _ _ _ _ _ _ _ h1) ob)) (by kernel_rfl)
  · dsimp only at h
    obtain ⟨a12, rfl⟩ : ∃ z_, z_ = r := ⟨_, rfl⟩
    have h2 := h
    exact run_path Tryd.func88 (ob_v (len_ts GValue.ts_map (l := a1)) (ob_k (slices_CompareFunc_value_compare_1_l1.ok ht n _ _ _ _ _ _ _ h1) (ob_j (slices_CompareFunc_value_compare_1_j2.ok ht n _ _ _ h2) ob))) (by kernel_rfl)
theorem plan_numbers_1.ok {n : Nat} {t : Tab} (ht : TabOk t (run Tryd.prog own kp X n)) : ∀ (p1 : Int) r, plan_numbers_1 t n p1 = some r → run Tryd.prog own kp X (n + 1) 80 [(.t (.v (.int .i64 p1)))] [] = some ((.t (.v (.bool r))), []) := by
  intro p1 r h
  obtain ⟨a1, rfl⟩ : ∃ z_, z_ = p1 := ⟨_, rfl⟩
  rw [plan_numbers_1] at h
  rw [← Option.some.inj h]
  exact run_path Tryd.func80 ob (by kernel_rfl)
theorem pred_right_1.ok {n : Nat} {t : Tab} (ht : TabOk t (run Tryd.prog own kp X n)) : ∀ (p1 : GPred) (p2 : Int) r, pred_right_1 t n p1 p2 = some r → run Tryd.prog own kp X (n + 1) 93 [(.t (GPred.t p1)), (.ref (.v (.int .i64 p2)))] [] = some ((.t (.v (.bool r))), []) := by
  intro p1 p2 r h
  obtain ⟨a1, a2, a3⟩ := p1
  obtain ⟨a4, rfl⟩ : ∃ z_, z_ = p2 := ⟨_, rfl⟩
  rw [pred_right_1] at h
  rcases h1 : t.pred_right (GPred.mk a1 a2 a3) (IntKind.wrap .i64 (a4 + 1)) with _ | a5
  · rw [h1] at h; cases h
  rw [h1] at h
  dsimp only at h
  rw [← Option.some.inj h]
  exact run_path Tryd.func93 (ob_c (ht.pred_right _ _ _ h1) ob) (by kernel_rfl)
theorem pred_right_2.ok {n : Nat} {t : Tab} (ht : TabOk t (run Tryd.prog own kp X n)) : ∀ (p1 : GValue) r, pred_right_2 t n p1 = some r → run Tryd.prog own kp X (n + 1) 94 [(.t (GValue.t p1))] [] = some ((.t (.v (.bool r))), []) := by
  intro p1 r h
  obtain ⟨a1, a2, a3, a4, a5⟩ := p1
  rw [pred_right_2] at h
  rcases h1 : t.value_Check (GValue.mk a1 a2 a3 a4 a5) with _ | a6
  · rw [h1] at h; cases h
  rw [h1] at h
  dsimp only at h
  rw [← Option.some.inj h]
  exact run_path Tryd.func94 (ob_c (ht.value_Check _ _ h1) ob) (by kernel_rfl)
theorem cmp_isNaN_int.ok {n : Nat} {t : Tab} (ht : TabOk t (run Tryd.prog own kp X n)) : ∀ (p1 : Int) r, cmp_isNaN_int t n p1 = some r → run Tryd.prog own kp X (n + 1) 98 [(.t (.v (.int .i64 p1)))] [] = some ((.t (.v (.bool r))), []) := by
  intro p1 r h
  obtain ⟨a1, rfl⟩ : ∃ z_, z_ = p1 := ⟨_, rfl⟩
  rw [cmp_isNaN_int] at h
  rw [← Option.some.inj h]
  exact run_path Tryd.func98 ob (by kernel_rfl)
theorem value_compare_1.ok {n : Nat} {t : Tab} (ht : TabOk t (run Tryd.prog own kp X n)) : ∀ (p1 : GValue) (p2 : GValue) (p3 : Int) r, value_compare_1 t n p1 p2 p3 = some r → run Tryd.prog own kp X (n + 1) 87 [(.t (GValue.t p1)), (.t (GValue.t p2)), (.ref (.v (.int .i64 p3)))] [] = some ((.t (.v (.int .i64 r))), []) := by
  intro p1 p2 p3 r h
  obtain ⟨a1, a2, a3, a4, a5⟩ := p1
  obtain ⟨a6, a7, a8, a9, a10⟩ := p2
  obtain ⟨a11, rfl⟩ : ∃ z_, z_ = p3 := ⟨_, rfl⟩
  rw [value_compare_1] at h
  obtain ⟨a12, rfl⟩ : ∃ z_, z_ = r := ⟨_, rfl⟩
  have h1 := h
  exact run_path Tryd.func87 (ob_c (ht.value_compare _ _ _ _ h1) ob) (by kernel_rfl)
end Go.Proofs.YtgkfjhfehdefaaaDoor.W
