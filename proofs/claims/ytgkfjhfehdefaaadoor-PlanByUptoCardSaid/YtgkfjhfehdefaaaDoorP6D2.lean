/- The proofs of it, part 2. -/
import Derived.Test.YtgkfjhfehdefaaaDoorP6D1
namespace Go.Proofs.YtgkfjhfehdefaaaDoor.W
open Go.Proofs.YtgkfjhfehdefaaaDoor.Flat
set_option linter.unusedVariables false
set_option linter.unusedSimpArgs false
variable {t : Tab} {call : FuncId → List AV → List AV → Option (AV × List AV)}
theorem plan_by_j1.ok (ht : TabOk t call) (n : Nat) (a1 a2 : Int) (a3 : ByteArray) (a4 : List GStep) (a5 : Bool) (r : _) (h : plan_by_j1 t n a1 a2 a3 a4 a5 = some r) : exec (env Tryd.prog 73 Tryd.f73 call) n (sub [1, 1] (bodyOf Tryd.f73)) (mkSt 50 50 [(2, (.t (.v (.int .i64 a1)))), (3, (.ptr 3 0 [] 0))] [(3, (.t (.st [(.v (.int .i64 a2)), (.v (.string a3)), (.sl false 14 (GStep.ts a4)), (.v (.bool a5))])))]) = some (plan_by_j1.to r) := by
  rw [plan_by_j1] at h
  by_cases h1 : (a2 == 1) = true
  · rw [if_pos h1] at h
    rw [← Option.some.inj h]
    exact path (ob_b h1 ob) (by kernel_rfl)
  · rw [if_neg h1] at h
    replace h1 := Bool.eq_false_iff.2 h1
    by_cases h2 : (a2 == 2) = true
    · rw [if_pos h2] at h
      obtain ⟨a6, rfl⟩ : ∃ z_, z_ = r := ⟨_, rfl⟩
      have h3 := h
      exact path (ob_b h1 (ob_b h2 (ob_c (ht.graph_Name _ _ h3) ob))) (by kernel_rfl)
    · rw [if_neg h2] at h
      replace h2 := Bool.eq_false_iff.2 h2
      by_cases h4 : (a2 == 3) = true
      · rw [if_pos h4] at h
        obtain ⟨a7, rfl⟩ : ∃ z_, z_ = r := ⟨_, rfl⟩
        have h5 := h
        exact path (ob_b h1 (ob_b h2 (ob_b h4 (ob_c (ht.plan_right _ _ _ h5) ob)))) (by kernel_rfl)
      · rw [if_neg h4] at h
        replace h4 := Bool.eq_false_iff.2 h4
        rw [← Option.some.inj h]
        exact path (ob_b h1 (ob_b h2 (ob_b h4 ob))) (by kernel_rfl)
theorem plan_by.ok {n : Nat} {t : Tab} (ht : TabOk t (run Tryd.prog own kp X n)) : ∀ (p1 : GBy) (p2 : Bool) (p3 : Int) r, plan_by t n p1 p2 p3 = some r → run Tryd.prog own kp X (n + 1) 73 [(.t (GBy.t p1)), (.t (.v (.bool p2))), (.t (.v (.int .i64 p3)))] [] = some ((.t (.v (.bool r))), []) := by
  intro p1 p2 p3 r h
  obtain ⟨a1, a2, a3, a4⟩ := p1
  obtain ⟨a5, rfl⟩ : ∃ z_, z_ = p2 := ⟨_, rfl⟩
  obtain ⟨a6, rfl⟩ : ∃ z_, z_ = p3 := ⟨_, rfl⟩
  rw [plan_by] at h
  by_cases h1 : a4 = true
  · rw [if_pos h1] at h
    by_cases h2 : a5 = true
    · rw [if_pos h2] at h
      by_cases h3 : (a1 != 2) = true
      · rw [if_pos h3] at h
        by_cases h4 : (a2.toList == (ByteArray.mk #[]).toList) = true
        · rw [if_pos h4] at h
          by_cases h5 : (a1 != 3) = true
          · rw [if_pos h5] at h
            by_cases h6 : (decide ((a3.length : Int) > 0)) = true
            · rw [if_pos h6] at h
              rw [← Option.some.inj h]
              exact run_path Tryd.func73 (ob_b h1 (ob_b h1 (ob_b h1 (ob_b (congrArg (!·) h2) (ob_b (congrArg (!·) h2) (ob_b (congrArg (!·) h2) (ob_b (congrArg (!·) h2) (ob_b h3 (ob_b h3 (ob_b h3 (ob_b (congrArg (!·) h2) (ob_b h3 (ob_b (congrArg (!·) h2) (ob_b (congrArg (!·) h4) (ob_b (congrArg (!·) h4) (ob_b (congrArg (!·) h4) (ob_b (congrArg (!·) h4) (ob_b h5 (ob_b h5 (ob_b h5 (ob_v (len_ts GStep.ts_map (l := a3)) (ob_b h5 (ob_b (congrArg (!·) h4) (ob_b h5 (ob_b (congrArg (!·) h4) (ob_b h6 ob)))))))))))))))))))))))))) (by kernel_rfl)
            · rw [if_neg h6] at h
              replace h6 := Bool.eq_false_iff.2 h6
              obtain ⟨a7, rfl⟩ : ∃ z_, z_ = r := ⟨_, rfl⟩
              have h7 := h
              exact run_path Tryd.func73 (ob_b h1 (ob_b h1 (ob_b h1 (ob_b (congrArg (!·) h2) (ob_b (congrArg (!·) h2) (ob_b (congrArg (!·) h2) (ob_b (congrArg (!·) h2) (ob_b h3 (ob_b h3 (ob_b h3 (ob_b (congrArg (!·) h2) (ob_b h3 (ob_b (congrArg (!·) h2) (ob_b (congrArg (!·) h4) (ob_b (congrArg (!·) h4) (ob_b (congrArg (!·) h4) (ob_b (congrArg (!·) h4) (ob_b h5 (ob_b h5 (ob_b h5 (ob_v (len_ts GStep.ts_map (l := a3)) (ob_b h5 (ob_b (congrArg (!·) h4) (ob_b h5 (ob_b (congrArg (!·) h4) (ob_b h6 (ob_j (plan_by_j1.ok ht n _ _ _ _ _ _ h7) ob))))))))))))))))))))))))))) (by kernel_rfl)
          · rw [if_neg h5] at h
            replace h5 := Bool.eq_false_iff.2 h5
            obtain ⟨a8, rfl⟩ : ∃ z_, z_ = r := ⟨_, rfl⟩
            have h8 := h
            exact run_path Tryd.func73 (ob_b h1 (ob_b h1 (ob_b h1 (ob_b (congrArg (!·) h2) (ob_b (congrArg (!·) h2) (ob_b (congrArg (!·) h2) (ob_b (congrArg (!·) h2) (ob_b h3 (ob_b h3 (ob_b h3 (ob_b (congrArg (!·) h2) (ob_b h3 (ob_b (congrArg (!·) h2) (ob_b (congrArg (!·) h4) (ob_b (congrArg (!·) h4) (ob_b (congrArg (!·) h4) (ob_b (congrArg (!·) h4) (ob_b h5 (ob_b h5 (ob_b h5 (ob_b h5 (ob_b (congrArg (!·) h4) (ob_b h5 (ob_b (congrArg (!·) h4) (ob_b (rfl : false = false) (ob_j (plan_by_j1.ok ht n _ _ _ _ _ _ h8) ob)))))))))))))))))))))))))) (by kernel_rfl)
        · rw [if_neg h4] at h
          replace h4 := Bool.eq_false_iff.2 h4
          rw [← Option.some.inj h]
          exact run_path Tryd.func73 (ob_b h1 (ob_b h1 (ob_b h1 (ob_b (congrArg (!·) h2) (ob_b (congrArg (!·) h2) (ob_b (congrArg (!·) h2) (ob_b (congrArg (!·) h2) (ob_b h3 (ob_b h3 (ob_b h3 (ob_b (congrArg (!·) h2) (ob_b h3 (ob_b (congrArg (!·) h2) (ob_b (congrArg (!·) h4) (ob_b (congrArg (!·) h4) (ob_b (congrArg (!·) h4) (ob_b (congrArg (!·) h4) (ob_b (congrArg (!·) h4) (ob_b (congrArg (!·) h4) (ob_b (rfl : true = true) ob)))))))))))))))))))) (by kernel_rfl)
      · rw [if_neg h3] at h
        replace h3 := Bool.eq_false_iff.2 h3
        by_cases h9 : (a1 != 3) = true
        · rw [if_pos h9] at h
          by_cases h10 : (decide ((a3.length : Int) > 0)) = true
          · rw [if_pos h10] at h
            rw [← Option.some.inj h]
            exact run_path Tryd.func73 (ob_b h1 (ob_b h1 (ob_b h1 (ob_b (congrArg (!·) h2) (ob_b (congrArg (!·) h2) (ob_b (congrArg (!·) h2) (ob_b (congrArg (!·) h2) (ob_b h3 (ob_b h3 (ob_b h3 (ob_b (congrArg (!·) h2) (ob_b h3 (ob_b (congrArg (!·) h2) (ob_b (rfl : false = false) (ob_b (rfl : false = false) (ob_b (rfl : false = false) (ob_b (rfl : false = false) (ob_b h9 (ob_b h9 (ob_b h9 (ob_v (len_ts GStep.ts_map (l := a3)) (ob_b h9 (ob_b (rfl : false = false) (ob_b h9 (ob_b (rfl : false = false) (ob_b h10 ob)))))))))))))))))))))))))) (by kernel_rfl)
          · rw [if_neg h10] at h
            replace h10 := Bool.eq_false_iff.2 h10
            obtain ⟨a9, rfl⟩ : ∃ z_, z_ = r := ⟨_, rfl⟩
            have h11 := h
            exact run_path Tryd.func73 (ob_b h1 (ob_b h1 (ob_b h1 (ob_b (congrArg (!·) h2) (ob_b (congrArg (!·) h2) (ob_b (congrArg (!·) h2) (ob_b (congrArg (!·) h2) (ob_b h3 (ob_b h3 (ob_b h3 (ob_b (congrArg (!·) h2) (ob_b h3 (ob_b (congrArg (!·) h2) (ob_b (rfl : false = false) (ob_b (rfl : false = false) (ob_b (rfl : false = false) (ob_b (rfl : false = false) (ob_b h9 (ob_b h9 (ob_b h9 (ob_v (len_ts GStep.ts_map (l := a3)) (ob_b h9 (ob_b (rfl : false = false) (ob_b h9 (ob_b (rfl : false = false) (ob_b h10 (ob_j (plan_by_j1.ok ht n _ _ _ _ _ _ h11) ob))))))))))))))))))))))))))) (by kernel_rfl)
        · rw [if_neg h9] at h
          replace h9 := Bool.eq_false_iff.2 h9
          obtain ⟨a10, rfl⟩ : ∃ z_, z_ = r := ⟨_, rfl⟩
          have h12 := h
          exact run_path Tryd.func73 (ob_b h1 (ob_b h1 (ob_b h1 (ob_b (congrArg (!·) h2) (ob_b (congrArg (!·) h2) (ob_b (congrArg (!·) h2) (ob_b (congrArg (!·) h2) (ob_b h3 (ob_b h3 (ob_b h3 (ob_b (congrArg (!·) h2) (ob_b h3 (ob_b (congrArg (!·) h2) (ob_b (rfl : false = false) (ob_b (rfl : false = false) (ob_b (rfl : false = false) (ob_b (rfl : false = false) (ob_b h9 (ob_b h9 (ob_b h9 (ob_b h9 (ob_b (rfl : false = false) (ob_b h9 (ob_b (rfl : false = false) (ob_b (rfl : false = false) (ob_j (plan_by_j1.ok ht n _ _ _ _ _ _ h12) ob)))))))))))))))))))))))))) (by kernel_rfl)
    · rw [if_neg h2] at h
      replace h2 := Bool.eq_false_iff.2 h2
      rw [← Option.some.inj h]
      exact run_path Tryd.func73 (ob_b h1 (ob_b h1 (ob_b h1 (ob_b (congrArg (!·) h2) (ob_b (congrArg (!·) h2) (ob_b (congrArg (!·) h2) (ob_b (congrArg (!·) h2) (ob_b (congrArg (!·) h2) (ob_b (congrArg (!·) h2) (ob_b (rfl : true = true) (ob_b (rfl : true = true) (ob_b (rfl : true = true) (ob_b (rfl : true = true) (ob_b (rfl : true = true) (ob_b (rfl : true = true) (ob_b (rfl : true = true) ob)))))))))))))))) (by kernel_rfl)
  · rw [if_neg h1] at h
    replace h1 := Bool.eq_false_iff.2 h1
    by_cases h13 : (a1 != 2) = true
    · rw [if_pos h13] at h
      by_cases h14 : (a2.toList == (ByteArray.mk #[]).toList) = true
      · rw [if_pos h14] at h
        by_cases h15 : (a1 != 3) = true
        · rw [if_pos h15] at h
          by_cases h16 : (decide ((a3.length : Int) > 0)) = true
          · rw [if_pos h16] at h
            rw [← Option.some.inj h]
            exact run_path Tryd.func73 (ob_b h1 (ob_b h1 (ob_b h1 (ob_b (rfl : false = false) (ob_b (rfl : false = false) (ob_b (rfl : false = false) (ob_b (rfl : false = false) (ob_b h13 (ob_b h13 (ob_b h13 (ob_b (rfl : false = false) (ob_b h13 (ob_b (rfl : false = false) (ob_b (congrArg (!·) h14) (ob_b (congrArg (!·) h14) (ob_b (congrArg (!·) h14) (ob_b (congrArg (!·) h14) (ob_b h15 (ob_b h15 (ob_b h15 (ob_v (len_ts GStep.ts_map (l := a3)) (ob_b h15 (ob_b (congrArg (!·) h14) (ob_b h15 (ob_b (congrArg (!·) h14) (ob_b h16 ob)))))))))))))))))))))))))) (by kernel_rfl)
          · rw [if_neg h16] at h
            replace h16 := Bool.eq_false_iff.2 h16
            obtain ⟨a11, rfl⟩ : ∃ z_, z_ = r := ⟨_, rfl⟩
            have h17 := h
            exact run_path Tryd.func73 (ob_b h1 (ob_b h1 (ob_b h1 (ob_b (rfl : false = false) (ob_b (rfl : false = false) (ob_b (rfl : false = false) (ob_b (rfl : false = false) (ob_b h13 (ob_b h13 (ob_b h13 (ob_b (rfl : false = false) (ob_b h13 (ob_b (rfl : false = false) (ob_b (congrArg (!·) h14) (ob_b (congrArg (!·) h14) (ob_b (congrArg (!·) h14) (ob_b (congrArg (!·) h14) (ob_b h15 (ob_b h15 (ob_b h15 (ob_v (len_ts GStep.ts_map (l := a3)) (ob_b h15 (ob_b (congrArg (!·) h14) (ob_b h15 (ob_b (congrArg (!·) h14) (ob_b h16 (ob_j (plan_by_j1.ok ht n _ _ _ _ _ _ h17) ob))))))))))))))))))))))))))) (by kernel_rfl)
        · rw [if_neg h15] at h
          replace h15 := Bool.eq_false_iff.2 h15
          obtain ⟨a12, rfl⟩ : ∃ z_, z_ = r := ⟨_, rfl⟩
          have h18 := h
          exact run_path Tryd.func73 (ob_b h1 (ob_b h1 (ob_b h1 (ob_b (rfl : false = false) (ob_b (rfl : false = false) (ob_b (rfl : false = false) (ob_b (rfl : false = false) (ob_b h13 (ob_b h13 (ob_b h13 (ob_b (rfl : false = false) (ob_b h13 (ob_b (rfl : false = false) (ob_b (congrArg (!·) h14) (ob_b (congrArg (!·) h14) (ob_b (congrArg (!·) h14) (ob_b (congrArg (!·) h14) (ob_b h15 (ob_b h15 (ob_b h15 (ob_b h15 (ob_b (congrArg (!·) h14) (ob_b h15 (ob_b (congrArg (!·) h14) (ob_b (rfl : false = false) (ob_j (plan_by_j1.ok ht n _ _ _ _ _ _ h18) ob)))))))))))))))))))))))))) (by kernel_rfl)
      · rw [if_neg h14] at h
        replace h14 := Bool.eq_false_iff.2 h14
        rw [← Option.some.inj h]
        exact run_path Tryd.func73 (ob_b h1 (ob_b h1 (ob_b h1 (ob_b (rfl : false = false) (ob_b (rfl : false = false) (ob_b (rfl : false = false) (ob_b (rfl : false = false) (ob_b h13 (ob_b h13 (ob_b h13 (ob_b (rfl : false = false) (ob_b h13 (ob_b (rfl : false = false) (ob_b (congrArg (!·) h14) (ob_b (congrArg (!·) h14) (ob_b (congrArg (!·) h14) (ob_b (congrArg (!·) h14) (ob_b (congrArg (!·) h14) (ob_b (congrArg (!·) h14) (ob_b (rfl : true = true) ob)))))))))))))))))))) (by kernel_rfl)
    · rw [if_neg h13] at h
      replace h13 := Bool.eq_false_iff.2 h13
      by_cases h19 : (a1 != 3) = true
      · rw [if_pos h19] at h
        by_cases h20 : (decide ((a3.length : Int) > 0)) = true
        · rw [if_pos h20] at h
          rw [← Option.some.inj h]
          exact run_path Tryd.func73 (ob_b h1 (ob_b h1 (ob_b h1 (ob_b (rfl : false = false) (ob_b (rfl : false = false) (ob_b (rfl : false = false) (ob_b (rfl : false = false) (ob_b h13 (ob_b h13 (ob_b h13 (ob_b (rfl : false = false) (ob_b h13 (ob_b (rfl : false = false) (ob_b (rfl : false = false) (ob_b (rfl : false = false) (ob_b (rfl : false = false) (ob_b (rfl : false = false) (ob_b h19 (ob_b h19 (ob_b h19 (ob_v (len_ts GStep.ts_map (l := a3)) (ob_b h19 (ob_b (rfl : false = false) (ob_b h19 (ob_b (rfl : false = false) (ob_b h20 ob)))))))))))))))))))))))))) (by kernel_rfl)
        · rw [if_neg h20] at h
          replace h20 := Bool.eq_false_iff.2 h20
          obtain ⟨a13, rfl⟩ : ∃ z_, z_ = r := ⟨_, rfl⟩
          have h21 := h
          exact run_path Tryd.func73 (ob_b h1 (ob_b h1 (ob_b h1 (ob_b (rfl : false = false) (ob_b (rfl : false = false) (ob_b (rfl : false = false) (ob_b (rfl : false = false) (ob_b h13 (ob_b h13 (ob_b h13 (ob_b (rfl : false = false) (ob_b h13 (ob_b (rfl : false = false) (ob_b (rfl : false = false) (ob_b (rfl : false = false) (ob_b (rfl : false = false) (ob_b (rfl : false = false) (ob_b h19 (ob_b h19 (ob_b h19 (ob_v (len_ts GStep.ts_map (l := a3)) (ob_b h19 (ob_b (rfl : false = false) (ob_b h19 (ob_b (rfl : false = false) (ob_b h20 (ob_j (plan_by_j1.ok ht n _ _ _ _ _ _ h21) ob))))))))))))))))))))))))))) (by kernel_rfl)
      · rw [if_neg h19] at h
        replace h19 := Bool.eq_false_iff.2 h19
        obtain ⟨a14, rfl⟩ : ∃ z_, z_ = r := ⟨_, rfl⟩
        have h22 := h
        exact run_path Tryd.func73 (ob_b h1 (ob_b h1 (ob_b h1 (ob_b (rfl : false = false) (ob_b (rfl : false = false) (ob_b (rfl : false = false) (ob_b (rfl : false = false) (ob_b h13 (ob_b h13 (ob_b h13 (ob_b (rfl : false = false) (ob_b h13 (ob_b (rfl : false = false) (ob_b (rfl : false = false) (ob_b (rfl : false = false) (ob_b (rfl : false = false) (ob_b (rfl : false = false) (ob_b h19 (ob_b h19 (ob_b h19 (ob_b h19 (ob_b (rfl : false = false) (ob_b h19 (ob_b (rfl : false = false) (ob_b (rfl : false = false) (ob_j (plan_by_j1.ok ht n _ _ _ _ _ _ h22) ob)))))))))))))))))))))))))) (by kernel_rfl)
theorem slices_Contains_int.ok {n : Nat} {t : Tab} (ht : TabOk t (run Tryd.prog own kp X n)) : ∀ (p1 : List Int) (p2 : Int) r, slices_Contains_int t n p1 p2 = some r → run Tryd.prog own kp X (n + 1) 23 [(.t (.sl false 1 (ints_i64 p1))), (.t (.v (.int .i64 p2)))] [] = some ((.t (.v (.bool r))), []) := by
  intro p1 p2 r h
  obtain ⟨a1, rfl⟩ : ∃ z_, z_ = p1 := ⟨_, rfl⟩
  obtain ⟨a2, rfl⟩ : ∃ z_, z_ = p2 := ⟨_, rfl⟩
  rw [slices_Contains_int] at h
  rcases h1 : t.slices_Index_int a1 a2 with _ | a3
  · rw [h1] at h; cases h
  rw [h1] at h
  dsimp only at h
  rw [← Option.some.inj h]
  exact run_path Tryd.func23 (ob_c (ht.slices_Index_int _ _ _ h1) ob) (by kernel_rfl)
theorem slices_IndexFunc_plan_some_1_1_l1.okL (ht : TabOk t call) (n : Nat) : ∀ (k : Nat) (a1 : List (List GStep)) (a2 : List Int) (a3 a4 : Int) (r : _), slices_IndexFunc_plan_some_1_1_l1 t n k a1 a2 a3 a4 = some r → loopN (exec (env Tryd.prog 61 Tryd.f61 call) n (sub [1, 0, 1, 0, 0] (bodyOf Tryd.f61))) k (mkSt 19 19 [(0, (.t (.sl false 1 (rows_GStep_ts a1)))), (1, (.fn 47 [(.fref 22 [(.ref (.sl false 1 (ints_i64 a2)))])])), (7, (.t (.v (.int .i64 a3)))), (8, (.t (.v (.int .i64 a4))))] []) = some (slices_IndexFunc_plan_some_1_1_l1.to r)
  | 0, a1, a2, a3, a4, r, h => by rw [slices_IndexFunc_plan_some_1_1_l1] at h; cases h
  | k + 1, a1, a2, a3, a4, r, h => by
    rw [slices_IndexFunc_plan_some_1_1_l1] at h
    by_cases h1 : (decide (a4 < a3)) = true
    · rw [if_pos h1] at h
      by_cases h2 : (decide (0 ≤ (a4 : Int))) = true
      case neg => rw [if_neg h2] at h; cases h
      rw [if_pos h2] at h
      rcases h3 : a1[(a4 : Int).toNat]? with _ | a5
      · rw [h3] at h; cases h
      rw [h3] at h
      dsimp only at h
      rcases h4 : t.plan_some_1_1_plan_Uses_1 a5 a2 with _ | a6
      · rw [h4] at h; cases h
      rw [h4] at h
      dsimp only at h
      by_cases h5 : a6 = true
      · rw [if_pos h5] at h
        rw [← Option.some.inj h]
        exact loop_out (path (ob_b h1 (ob_n h2 (ob_t (look_ts rows_GStep_ts_map h3) (ob_c (ht.plan_some_1_1_plan_Uses_1 _ _ _ h4) (ob_b h5 ob))))) (by kernel_rfl)) (fun h => by cases h)
      · rw [if_neg h5] at h
        replace h5 := Bool.eq_false_iff.2 h5
        exact loop_more (path (ob_b h1 (ob_n h2 (ob_t (look_ts rows_GStep_ts_map h3) (ob_c (ht.plan_some_1_1_plan_Uses_1 _ _ _ h4) (ob_b h5 ob))))) (by kernel_rfl)) (slices_IndexFunc_plan_some_1_1_l1.okL ht n k _ _ _ _ _ h)
    · rw [if_neg h1] at h
      replace h1 := Bool.eq_false_iff.2 h1
      rw [← Option.some.inj h]
      exact loop_out (path (ob_b h1 ob) (by kernel_rfl)) (fun h => by cases h)
theorem slices_IndexFunc_plan_some_1_1_l1.ok (ht : TabOk t call) (n : Nat) (a1 : List (List GStep)) (a2 : List Int) (a3 a4 : Int) (r : _) (h : slices_IndexFunc_plan_some_1_1_l1 t n n a1 a2 a3 a4 = some r) : exec (env Tryd.prog 61 Tryd.f61 call) n (sub [1, 0, 1, 0] (bodyOf Tryd.f61)) (mkSt 19 19 [(0, (.t (.sl false 1 (rows_GStep_ts a1)))), (1, (.fn 47 [(.fref 22 [(.ref (.sl false 1 (ints_i64 a2)))])])), (7, (.t (.v (.int .i64 a3)))), (8, (.t (.v (.int .i64 a4))))] []) = some (slices_IndexFunc_plan_some_1_1_l1.to r) := by
  have e1 : sub [1, 0, 1, 0] (bodyOf Tryd.f61) = .loop (sub [1, 0, 1, 0, 0] (bodyOf Tryd.f61)) := by kernel_rfl
  rw [e1, exec]
  exact slices_IndexFunc_plan_some_1_1_l1.okL ht n n a1 a2 a3 a4 r h
theorem slices_IndexFunc_plan_some_1_1.ok {n : Nat} {t : Tab} (ht : TabOk t (run Tryd.prog own kp X n)) : ∀ (p1 : List (List GStep)) (p2 : List Int) r, slices_IndexFunc_plan_some_1_1 t n p1 p2 = some r → run Tryd.prog own kp X (n + 1) 61 [(.t (.sl false 1 (rows_GStep_ts p1))), (.fn 47 [(.fref 22 [(.ref (.sl false 1 (ints_i64 p2)))])])] [] = some ((.t (.v (.int .i64 r))), []) := by
  intro p1 p2 r h
  obtain ⟨a1, rfl⟩ : ∃ z_, z_ = p1 := ⟨_, rfl⟩
  obtain ⟨a2, rfl⟩ : ∃ z_, z_ = p2 := ⟨_, rfl⟩
  rw [slices_IndexFunc_plan_some_1_1] at h
  rcases h1 : slices_IndexFunc_plan_some_1_1_l1 t n n a1 a2 (a1.length : Int) 0 with _ | q_
  · rw [h1] at h; cases h
  rw [h1] at h
  rcases q_ with a3 | ⟨a4, a5, a6, a7, a8⟩
  · dsimp only at h
    rw [← Option.some.inj h]
    exact run_path Tryd.func61 (ob_v (len_ts rows_GStep_ts_map (l := a1)) (ob_k (slices_IndexFunc_plan_some_1_1_l1.ok ht n _ _ _ _ _ h1) ob)) (by kernel_rfl)
  · dsimp only at h
    rw [← Option.some.inj h]
    exact run_path Tryd.func61 (ob_v (len_ts rows_GStep_ts_map (l := a1)) (ob_k (slices_IndexFunc_plan_some_1_1_l1.ok ht n _ _ _ _ _ h1) ob)) (by kernel_rfl)
theorem slices_IndexFunc_plan_some_1_1_i2_l1.okL (ht : TabOk t call) (n : Nat) : ∀ (k : Nat) (a1 : List (List GStep)) (a2 a3 : Int) (r : _), slices_IndexFunc_plan_some_1_1_i2_l1 t n k a1 a2 a3 = some r → loopN (exec (env Tryd.prog 61 Tryd.f61 call) n (sub [1, 0, 1, 0, 0] (bodyOf Tryd.f61))) k (mkSt 19 19 [(0, (.t (.sl false 1 (rows_GStep_ts a1)))), (1, (.fn 47 [(.fref 28 [])])), (7, (.t (.v (.int .i64 a2)))), (8, (.t (.v (.int .i64 a3))))] []) = some (slices_IndexFunc_plan_some_1_1_i2_l1.to r)
  | 0, a1, a2, a3, r, h => by rw [slices_IndexFunc_plan_some_1_1_i2_l1] at h; cases h
  | k + 1, a1, a2, a3, r, h => by
    rw [slices_IndexFunc_plan_some_1_1_i2_l1] at h
    by_cases h1 : (decide (a3 < a2)) = true
    · rw [if_pos h1] at h
      by_cases h2 : (decide (0 ≤ (a3 : Int))) = true
      case neg => rw [if_neg h2] at h; cases h
      rw [if_pos h2] at h
      rcases h3 : a1[(a3 : Int).toNat]? with _ | a4
      · rw [h3] at h; cases h
      rw [h3] at h
      dsimp only at h
      rcases h4 : t.plan_some_1_1_plan_Free_1 a4 with _ | a5
      · rw [h4] at h; cases h
      rw [h4] at h
      dsimp only at h
      by_cases h5 : a5 = true
      · rw [if_pos h5] at h
        rw [← Option.some.inj h]
        exact loop_out (path (ob_b h1 (ob_n h2 (ob_t (look_ts rows_GStep_ts_map h3) (ob_c (ht.plan_some_1_1_plan_Free_1 _ _ h4) (ob_b h5 ob))))) (by kernel_rfl)) (fun h => by cases h)
      · rw [if_neg h5] at h
        replace h5 := Bool.eq_false_iff.2 h5
        exact loop_more (path (ob_b h1 (ob_n h2 (ob_t (look_ts rows_GStep_ts_map h3) (ob_c (ht.plan_some_1_1_plan_Free_1 _ _ h4) (ob_b h5 ob))))) (by kernel_rfl)) (slices_IndexFunc_plan_some_1_1_i2_l1.okL ht n k _ _ _ _ h)
    · rw [if_neg h1] at h
      replace h1 := Bool.eq_false_iff.2 h1
      rw [← Option.some.inj h]
      exact loop_out (path (ob_b h1 ob) (by kernel_rfl)) (fun h => by cases h)
theorem slices_IndexFunc_plan_some_1_1_i2_l1.ok (ht : TabOk t call) (n : Nat) (a1 : List (List GStep)) (a2 a3 : Int) (r : _) (h : slices_IndexFunc_plan_some_1_1_i2_l1 t n n a1 a2 a3 = some r) : exec (env Tryd.prog 61 Tryd.f61 call) n (sub [1, 0, 1, 0] (bodyOf Tryd.f61)) (mkSt 19 19 [(0, (.t (.sl false 1 (rows_GStep_ts a1)))), (1, (.fn 47 [(.fref 28 [])])), (7, (.t (.v (.int .i64 a2)))), (8, (.t (.v (.int .i64 a3))))] []) = some (slices_IndexFunc_plan_some_1_1_i2_l1.to r) := by
  have e1 : sub [1, 0, 1, 0] (bodyOf Tryd.f61) = .loop (sub [1, 0, 1, 0, 0] (bodyOf Tryd.f61)) := by kernel_rfl
  rw [e1, exec]
  exact slices_IndexFunc_plan_some_1_1_i2_l1.okL ht n n a1 a2 a3 r h
theorem slices_IndexFunc_plan_some_1_1_i2.ok {n : Nat} {t : Tab} (ht : TabOk t (run Tryd.prog own kp X n)) : ∀ (p1 : List (List GStep)) r, slices_IndexFunc_plan_some_1_1_i2 t n p1 = some r → run Tryd.prog own kp X (n + 1) 61 [(.t (.sl false 1 (rows_GStep_ts p1))), (.fn 47 [(.fref 28 [])])] [] = some ((.t (.v (.int .i64 r))), []) := by
  intro p1 r h
  obtain ⟨a1, rfl⟩ : ∃ z_, z_ = p1 := ⟨_, rfl⟩
  rw [slices_IndexFunc_plan_some_1_1_i2] at h
  rcases h1 : slices_IndexFunc_plan_some_1_1_i2_l1 t n n a1 (a1.length : Int) 0 with _ | q_
  · rw [h1] at h; cases h
  rw [h1] at h
  rcases q_ with a2 | ⟨a3, a4, a5, a6⟩
  · dsimp only at h
    rw [← Option.some.inj h]
    exact run_path Tryd.func61 (ob_v (len_ts rows_GStep_ts_map (l := a1)) (ob_k (slices_IndexFunc_plan_some_1_1_i2_l1.ok ht n _ _ _ _ h1) ob)) (by kernel_rfl)
  · dsimp only at h
    rw [← Option.some.inj h]
    exact run_path Tryd.func61 (ob_v (len_ts rows_GStep_ts_map (l := a1)) (ob_k (slices_IndexFunc_plan_some_1_1_i2_l1.ok ht n _ _ _ _ h1) ob)) (by kernel_rfl)
theorem cmp_Compare_int.ok {n : Nat} {t : Tab} (ht : TabOk t (run Tryd.prog own kp X n)) : ∀ (p1 : Int) (p2 : Int) r, cmp_Compare_int t n p1 p2 = some r → run Tryd.prog own kp X (n + 1) 85 [(.t (.v (.int .i64 p1))), (.t (.v (.int .i64 p2)))] [] = some ((.t (.v (.int .i64 r))), []) := by
  intro p1 p2 r h
  obtain ⟨a1, rfl⟩ : ∃ z_, z_ = p1 := ⟨_, rfl⟩
  obtain ⟨a2, rfl⟩ : ∃ z_, z_ = p2 := ⟨_, rfl⟩
  rw [cmp_Compare_int] at h
  rcases h1 : t.cmp_isNaN_int a1 with _ | a3
  · rw [h1] at h; cases h
  rw [h1] at h
  dsimp only at h
  rcases h2 : t.cmp_isNaN_int a2 with _ | a4
  · rw [h2] at h; cases h
  rw [h2] at h
  dsimp only at h
  by_cases h3 : a3 = true
  · rw [if_pos h3] at h
    by_cases h4 : a4 = true
    · rw [if_pos h4] at h
      rw [← Option.some.inj h]
      exact run_path Tryd.func85 (ob_c (ht.cmp_isNaN_int _ _ h1) (ob_c (ht.cmp_isNaN_int _ _ h2) (ob_b h3 (ob_b h4 ob)))) (by kernel_rfl)
    · rw [if_neg h4] at h
      replace h4 := Bool.eq_false_iff.2 h4
      rw [← Option.some.inj h]
      exact run_path Tryd.func85 (ob_c (ht.cmp_isNaN_int _ _ h1) (ob_c (ht.cmp_isNaN_int _ _ h2) (ob_b h3 (ob_b h4 ob)))) (by kernel_rfl)
  · rw [if_neg h3] at h
    replace h3 := Bool.eq_false_iff.2 h3
    by_cases h5 : a4 = true
    · rw [if_pos h5] at h
      rw [← Option.some.inj h]
      exact run_path Tryd.func85 (ob_c (ht.cmp_isNaN_int _ _ h1) (ob_c (ht.cmp_isNaN_int _ _ h2) (ob_b h3 (ob_b h5 ob)))) (by kernel_rfl)
    · rw [if_neg h5] at h
      replace h5 := Bool.eq_false_iff.2 h5
      by_cases h6 : (decide (a1 < a2)) = true
      · rw [if_pos h6] at h
        rw [← Option.some.inj h]
        exact run_path Tryd.func85 (ob_c (ht.cmp_isNaN_int _ _ h1) (ob_c (ht.cmp_isNaN_int _ _ h2) (ob_b h3 (ob_b h5 (ob_b h6 ob))))) (by kernel_rfl)
      · rw [if_neg h6] at h
        replace h6 := Bool.eq_false_iff.2 h6
        by_cases h7 : (decide (a1 > a2)) = true
        · rw [if_pos h7] at h
          rw [← Option.some.inj h]
          exact run_path Tryd.func85 (ob_c (ht.cmp_isNaN_int _ _ h1) (ob_c (ht.cmp_isNaN_int _ _ h2) (ob_b h3 (ob_b h5 (ob_b h6 (ob_b h7 ob)))))) (by kernel_rfl)
        · rw [if_neg h7] at h
          replace h7 := Bool.eq_false_iff.2 h7
          rw [← Option.some.inj h]
          exact run_path Tryd.func85 (ob_c (ht.cmp_isNaN_int _ _ h1) (ob_c (ht.cmp_isNaN_int _ _ h2) (ob_b h3 (ob_b h5 (ob_b h6 (ob_b h7 ob)))))) (by kernel_rfl)
theorem strings_Compare.ok {n : Nat} {t : Tab} (ht : TabOk t (run Tryd.prog own kp X n)) : ∀ (p1 : ByteArray) (p2 : ByteArray) r, strings_Compare t n p1 p2 = some r → run Tryd.prog own kp X (n + 1) 86 [(.t (.v (.string p1))), (.t (.v (.string p2)))] [] = some ((.t (.v (.int .i64 r))), []) := by
  intro p1 p2 r h
  obtain ⟨a1, rfl⟩ : ∃ z_, z_ = p1 := ⟨_, rfl⟩
  obtain ⟨a2, rfl⟩ : ∃ z_, z_ = p2 := ⟨_, rfl⟩
  rw [strings_Compare] at h
  obtain ⟨a3, rfl⟩ : ∃ z_, z_ = r := ⟨_, rfl⟩
  have h1 := h
  exact run_path Tryd.func86 (ob_c (ht.bytealg_CompareString _ _ _ h1) ob) (by kernel_rfl)
theorem cmp_Or_int_l1.okL (ht : TabOk t call) (n : Nat) : ∀ (k : Nat) (a1 : Int) (a2 : List Int) (a3 a4 : Int) (r : _), cmp_Or_int_l1 t n k a1 a2 a3 a4 = some r → loopN (exec (env Tryd.prog 84 Tryd.f84 call) n (sub [1, 1, 0, 1, 0, 0] (bodyOf Tryd.f84))) k (mkSt 18 18 [(3, (.t (.v (.int .i64 a1)))), (6, (.t (.sl false 1 (ints_i64 a2)))), (7, (.t (.v (.int .i64 a3)))), (8, (.t (.v (.int .i64 a4))))] []) = some (cmp_Or_int_l1.to r)
  | 0, a1, a2, a3, a4, r, h => by rw [cmp_Or_int_l1] at h; cases h
  | k + 1, a1, a2, a3, a4, r, h => by
    rw [cmp_Or_int_l1] at h
    by_cases h1 : (decide (a4 < a3)) = true
    · rw [if_pos h1] at h
      by_cases h2 : (decide (0 ≤ (a4 : Int))) = true
      case neg => rw [if_neg h2] at h; cases h
      rw [if_pos h2] at h
      rcases h3 : a2[(a4 : Int).toNat]? with _ | a5
      · rw [h3] at h; cases h
      rw [h3] at h
      dsimp only at h
      by_cases h4 : (a5 != a1) = true
      · rw [if_pos h4] at h
        rw [← Option.some.inj h]
        exact loop_out (path (ob_b h1 (ob_n h2 (ob_t (look_ts ints_i64_map h3) (ob_b h4 ob)))) (by kernel_rfl)) (fun h => by cases h)
      · rw [if_neg h4] at h
        replace h4 := Bool.eq_false_iff.2 h4
        exact loop_more (path (ob_b h1 (ob_n h2 (ob_t (look_ts ints_i64_map h3) (ob_b h4 ob)))) (by kernel_rfl)) (cmp_Or_int_l1.okL ht n k _ _ _ _ _ h)
    · rw [if_neg h1] at h
      replace h1 := Bool.eq_false_iff.2 h1
      rw [← Option.some.inj h]
      exact loop_out (path (ob_b h1 ob) (by kernel_rfl)) (fun h => by cases h)
theorem cmp_Or_int_l1.ok (ht : TabOk t call) (n : Nat) (a1 : Int) (a2 : List Int) (a3 a4 : Int) (r : _) (h : cmp_Or_int_l1 t n n a1 a2 a3 a4 = some r) : exec (env Tryd.prog 84 Tryd.f84 call) n (sub [1, 1, 0, 1, 0] (bodyOf Tryd.f84)) (mkSt 18 18 [(3, (.t (.v (.int .i64 a1)))), (6, (.t (.sl false 1 (ints_i64 a2)))), (7, (.t (.v (.int .i64 a3)))), (8, (.t (.v (.int .i64 a4))))] []) = some (cmp_Or_int_l1.to r) := by
  have e1 : sub [1, 1, 0, 1, 0] (bodyOf Tryd.f84) = .loop (sub [1, 1, 0, 1, 0, 0] (bodyOf Tryd.f84)) := by kernel_rfl
  rw [e1, exec]
  exact cmp_Or_int_l1.okL ht n n a1 a2 a3 a4 r h
theorem cmp_Or_int.ok {n : Nat} {t : Tab} (ht : TabOk t (run Tryd.prog own kp X n)) : ∀ (p1 : List Int) r, cmp_Or_int t n p1 = some r → run Tryd.prog own kp X (n + 1) 84 [(.t (.sl false 1 (ints_i64 p1)))] [] = some ((.t (.v (.int .i64 r))), []) := by
  intro p1 r h
  obtain ⟨a1, rfl⟩ : ∃ z_, z_ = p1 := ⟨_, rfl⟩
  rw [cmp_Or_int] at h
  rcases h1 : cmp_Or_int_l1 t n n 0 a1 (a1.length : Int) 0 with _ | q_
  · rw [h1] at h; cases h
  rw [h1] at h
  rcases q_ with a2 | ⟨a3, a4, a5, a6, a7⟩
  · dsimp only at h
    rw [← Option.some.inj h]
    exact run_path Tryd.func84 (ob_v (len_ts ints_i64_map (l := a1)) (ob_k (cmp_Or_int_l1.ok ht n _ _ _ _ _ h1) ob)) (by kernel_rfl)
  · dsimp only at h
    rw [← Option.some.inj h]
    exact run_path Tryd.func84 (ob_v (len_ts ints_i64_map (l := a1)) (ob_k (cmp_Or_int_l1.ok ht n _ _ _ _ _ h1) ob)) (by kernel_rfl)
theorem slices_CompareFunc_value_compare_1_l1.okL (ht : TabOk t call) (n : Nat) : ∀ (k : Nat) (a1 a2 : List GValue) (a3 : Int) (a4 : List GValue) (a5 a6 : Int) (r : _), slices_CompareFunc_value_compare_1_l1 t n k a1 a2 a3 a4 a5 a6 = some r → loopN (exec (env Tryd.prog 88 Tryd.f88 call) n (sub [1, 0, 1, 0, 0] (bodyOf Tryd.f88))) k (mkSt 39 39 [(0, (.t (.sl false 5 (GValue.ts a1)))), (1, (.t (.sl false 5 (GValue.ts a2)))), (2, (.fn 87 [(.ref (.v (.int .i64 a3)))])), (11, (.t (.sl false 5 (GValue.ts a4)))), (12, (.t (.v (.int .i64 a5)))), (13, (.t (.v (.int .i64 a6))))] []) = some (slices_CompareFunc_value_compare_1_l1.to r)
  | 0, a1, a2, a3, a4, a5, a6, r, h => by rw [slices_CompareFunc_value_compare_1_l1] at h; cases h
  | k + 1, a1, a2, a3, a4, a5, a6, r, h => by
    rw [slices_CompareFunc_value_compare_1_l1] at h
    by_cases h1 : (decide (a6 < a5)) = true
    · rw [if_pos h1] at h
      by_cases h2 : (decide (0 ≤ (a6 : Int))) = true
      case neg => rw [if_neg h2] at h; cases h
      rw [if_pos h2] at h
      rcases h3 : a4[(a6 : Int).toNat]? with _ | ⟨a7, a8, a9, a10, a11⟩
      · rw [h3] at h; cases h
      rw [h3] at h
      dsimp only at h
      by_cases h4 : (decide (a6 ≥ (a2.length : Int))) = true
      · rw [if_pos h4] at h
        rw [← Option.some.inj h]
        exact loop_out (path (ob_b h1 (ob_n h2 (ob_t (look_ts GValue.ts_map h3) (ob_v (len_ts GValue.ts_map (l := a2)) (ob_b h4 ob))))) (by kernel_rfl)) (fun h => by cases h)
      · rw [if_neg h4] at h
        replace h4 := Bool.eq_false_iff.2 h4
        rcases h5 : a2[(a6 : Int).toNat]? with _ | ⟨a12, a13, a14, a15, a16⟩
        · rw [h5] at h; cases h
        rw [h5] at h
        dsimp only at h
        rcases h6 : t.value_compare_1 (GValue.mk a7 a8 a9 a10 a11) (GValue.mk a12 a13 a14 a15 a16) a3 with _ | a17
        · rw [h6] at h; cases h
        rw [h6] at h
        dsimp only at h
        by_cases h7 : (a17 != 0) = true
        · rw [if_pos h7] at h
          rw [← Option.some.inj h]
          exact loop_out (path (ob_b h1 (ob_n h2 (ob_t (look_ts GValue.ts_map h3) (ob_v (len_ts GValue.ts_map (l := a2)) (ob_b h4 (ob_n h2 (ob_t (look_ts GValue.ts_map h5) (ob_c (ht.value_compare_1 _ _ _ _ h6) (ob_b h7 ob))))))))) (by kernel_rfl)) (fun h => by cases h)
        · rw [if_neg h7] at h
          replace h7 := Bool.eq_false_iff.2 h7
          exact loop_more (path (ob_b h1 (ob_n h2 (ob_t (look_ts GValue.ts_map h3) (ob_v (len_ts GValue.ts_map (l := a2)) (ob_b h4 (ob_n h2 (ob_t (look_ts GValue.ts_map h5) (ob_c (ht.value_compare_1 _ _ _ _ h6) (ob_b h7 ob))))))))) (by kernel_rfl)) (slices_CompareFunc_value_compare_1_l1.okL ht n k _ _ _ _ _ _ _ h)
    · rw [if_neg h1] at h
      replace h1 := Bool.eq_false_iff.2 h1
      rw [← Option.some.inj h]
      exact loop_out (path (ob_b h1 ob) (by kernel_rfl)) (fun h => by cases h)
theorem slices_CompareFunc_value_compare_1_l1.ok (ht : TabOk t call) (n : Nat) (a1 a2 : List GValue) (a3 : Int) (a4 : List GValue) (a5 a6 : Int) (r : _) (h : slices_CompareFunc_value_compare_1_l1 t n n a1 a2 a3 a4 a5 a6 = some r) : exec (env Tryd.prog 88 Tryd.f88 call) n (sub [1, 0, 1, 0] (bodyOf Tryd.f88)) (mkSt 39 39 [(0, (.t (.sl false 5 (GValue.ts a1)))), (1, (.t (.sl false 5 (GValue.ts a2)))), (2, (.fn 87 [(.ref (.v (.int .i64 a3)))])), (11, (.t (.sl false 5 (GValue.ts a4)))), (12, (.t (.v (.int .i64 a5)))), (13, (.t (.v (.int .i64 a6))))] []) = some (slices_CompareFunc_value_compare_1_l1.to r) := by
  have e1 : sub [1, 0, 1, 0] (bodyOf Tryd.f88) = .loop (sub [1, 0, 1, 0, 0] (bodyOf Tryd.f88)) := by kernel_rfl
  rw [e1, exec]
  exact slices_CompareFunc_value_compare_1_l1.okL ht n n a1 a2 a3 a4 a5 a6 r h
theorem slices_CompareFunc_value_compare_1_j2.ok (ht : TabOk t call) (n : Nat) (a1 a2 : List GValue) (r : _) (h : slices_CompareFunc_value_compare_1_j2 t n a1 a2 = some r) : exec (env Tryd.prog 88 Tryd.f88 call) n (sub [1, 1] (bodyOf Tryd.f88)) (mkSt 39 39 [(0, (.t (.sl false 5 (GValue.ts a1)))), (1, (.t (.sl false 5 (GValue.ts a2))))] []) = some (slices_CompareFunc_value_compare_1_j2.to r) := by
  rw [slices_CompareFunc_value_compare_1_j2] at h
  by_cases h1 : (decide ((a1.length : Int) < (a2.length : Int))) = true
  · rw [if_pos h1] at h
    rw [← Option.some.inj h]
    exact path (ob_v (len_ts GValue.ts_map (l := a1)) (ob_v (len_ts GValue.ts_map (l := a2)) (ob_b h1 ob))) (by kernel_rfl)
  · rw [if_neg h1] at h
    replace h1 := Bool.eq_false_iff.2 h1
    rw [← Option.some.inj h]
    exact path (ob_v (len_ts GValue.ts_map (l := a1)) (ob_v (len_ts GValue.ts_map (l := a2)) (ob_b h1 ob))) (by kernel_rfl)
theorem slices_CompareFunc_value_compare_1.ok {n : Nat} {t : Tab} (ht : TabOk t (run Tryd.prog own kp X n)) : ∀ (p1 : List GValue) (p2 : List GValue) (p3 : Int) r, slices_CompareFunc_value_compare_1 t n p1 p2 p3 = some r → run Tryd.prog own kp X (n + 1) 88 [(.t (.sl false 5 (GValue.ts p1))), (.t (.sl false 5 (GValue.ts p2))), (.fn 87 [(.ref (.v (.int .i64 p3)))])] [] = some ((.t (.v (.int .i64 r))), []) := by
  intro p1 p2 p3 r h
  obtain ⟨a1, rfl⟩ : ∃ z_, z_ = p1 := ⟨_, rfl⟩
  obtain ⟨a2, rfl⟩ : ∃ z_, z_ = p2 := ⟨_, rfl⟩
  obtain ⟨a3, rfl⟩ : ∃ z_, z_ = p3 := ⟨_, rfl⟩
  rw [slices_CompareFunc_value_compare_1] at h
  rcases h1 : slices_CompareFunc_value_compare_1_l1 t n n a1 a2 a3 a1 (a1.length : Int) 0 with _ | q_
  · rw [h1] at h; cases h
  rw [h1] at h
  rcases q_ with a4 | ⟨a5, a6, a7, a8, a9, a10, a11⟩
  · dsimp only at h
    rw [← Option.some.inj h]
    exact run_path Tryd.func88 (ob_v (len_ts GValue.ts_map (l := a1)) (ob_k (slices_CompareFunc_value_compare_1_l1.ok ht n _ _ _ _ _ _ _ h1) ob)) (by kernel_rfl)
  · dsimp only at h
    obtain ⟨a12, rfl⟩ : ∃ z_, z_ = r := ⟨_, rfl⟩
    have h2 := h
    exact run_path Tryd.func88 (ob_v (len_ts GValue.ts_map (l := a1)) (ob_k (slices_CompareFunc_value_compare_1_l1.ok ht n _ _ _ _ _ _ _ h1) (ob_j (slices_CompareFunc_value_compare_1_j2.ok ht n _ _ _ h2) ob))) (by kernel_rfl)
theorem slices_IndexFunc_plan_step_1_l1.okL (ht : TabOk t call) (n : Nat) : ∀ (k : Nat) (a1 : List ByteArray) (a2 a3 : Int) (r : _), slices_IndexFunc_plan_step_1_l1 t n k a1 a2 a3 = some r → loopN (exec (env Tryd.prog 78 Tryd.f78 call) n (sub [1, 0, 1, 0, 0] (bodyOf Tryd.f78))) k (mkSt 19 19 [(0, (.t (.sl false 1 (texts a1)))), (1, (.fn 64 [])), (7, (.t (.v (.int .i64 a2)))), (8, (.t (.v (.int .i64 a3))))] []) = some (slices_IndexFunc_plan_step_1_l1.to r)
  | 0, a1, a2, a3, r, h => by rw [slices_IndexFunc_plan_step_1_l1] at h; cases h
  | k + 1, a1, a2, a3, r, h => by
    rw [slices_IndexFunc_plan_step_1_l1] at h
    by_cases h1 : (decide (a3 < a2)) = true
    · rw [if_pos h1] at h
      by_cases h2 : (decide (0 ≤ (a3 : Int))) = true
      case neg => rw [if_neg h2] at h; cases h
      rw [if_pos h2] at h
      rcases h3 : a1[(a3 : Int).toNat]? with _ | a4
      · rw [h3] at h; cases h
      rw [h3] at h
      dsimp only at h
      rcases h4 : t.plan_step_1 a4 with _ | a5
      · rw [h4] at h; cases h
      rw [h4] at h
      dsimp only at h
      by_cases h5 : a5 = true
      · rw [if_pos h5] at h
        rw [← Option.some.inj h]
        exact loop_out (path (ob_b h1 (ob_n h2 (ob_t (look_ts texts_map h3) (ob_c (ht.plan_step_1 _ _ h4) (ob_b h5 ob))))) (by kernel_rfl)) (fun h => by cases h)
      · rw [if_neg h5] at h
        replace h5 := Bool.eq_false_iff.2 h5
        exact loop_more (path (ob_b h1 (ob_n h2 (ob_t (look_ts texts_map h3) (ob_c (ht.plan_step_1 _ _ h4) (ob_b h5 ob))))) (by kernel_rfl)) (slices_IndexFunc_plan_step_1_l1.okL ht n k _ _ _ _ h)
    · rw [if_neg h1] at h
      replace h1 := Bool.eq_false_iff.2 h1
      rw [← Option.some.inj h]
      exact loop_out (path (ob_b h1 ob) (by kernel_rfl)) (fun h => by cases h)
theorem slices_IndexFunc_plan_step_1_l1.ok (ht : TabOk t call) (n : Nat) (a1 : List ByteArray) (a2 a3 : Int) (r : _) (h : slices_IndexFunc_plan_step_1_l1 t n n a1 a2 a3 = some r) : exec (env Tryd.prog 78 Tryd.f78 call) n (sub [1, 0, 1, 0] (bodyOf Tryd.f78)) (mkSt 19 19 [(0, (.t (.sl false 1 (texts a1)))), (1, (.fn 64 [])), (7, (.t (.v (.int .i64 a2)))), (8, (.t (.v (.int .i64 a3))))] []) = some (slices_IndexFunc_plan_step_1_l1.to r) := by
  have e1 : sub [1, 0, 1, 0] (bodyOf Tryd.f78) = .loop (sub [1, 0, 1, 0, 0] (bodyOf Tryd.f78)) := by kernel_rfl
  rw [e1, exec]
  exact slices_IndexFunc_plan_step_1_l1.okL ht n n a1 a2 a3 r h
theorem slices_IndexFunc_plan_step_1.ok {n : Nat} {t : Tab} (ht : TabOk t (run Tryd.prog own kp X n)) : ∀ (p1 : List ByteArray) r, slices_IndexFunc_plan_step_1 t n p1 = some r → run Tryd.prog own kp X (n + 1) 78 [(.t (.sl false 1 (texts p1))), (.fn 64 [])] [] = some ((.t (.v (.int .i64 r))), []) := by
  intro p1 r h
  obtain ⟨a1, rfl⟩ : ∃ z_, z_ = p1 := ⟨_, rfl⟩
  rw [slices_IndexFunc_plan_step_1] at h
  rcases h1 : slices_IndexFunc_plan_step_1_l1 t n n a1 (a1.length : Int) 0 with _ | q_
  · rw [h1] at h; cases h
  rw [h1] at h
  rcases q_ with a2 | ⟨a3, a4, a5, a6⟩
  · dsimp only at h
    rw [← Option.some.inj h]
    exact run_path Tryd.func78 (ob_v (len_ts texts_map (l := a1)) (ob_k (slices_IndexFunc_plan_step_1_l1.ok ht n _ _ _ _ h1) ob)) (by kernel_rfl)
  · dsimp only at h
    rw [← Option.some.inj h]
    exact run_path Tryd.func78 (ob_v (len_ts texts_map (l := a1)) (ob_k (slices_IndexFunc_plan_step_1_l1.ok ht n _ _ _ _ h1) ob)) (by kernel_rfl)
theorem value_plain_l4.okL (ht : TabOk t call) (n : Nat) : ∀ (k : Nat) (a1 : Int) (a2 : List GValue) (a3 a4 a5 a6 : Int) (a7 : ByteArray) (a8 a9 : List GValue) (r : _), value_plain_l4 t n k a1 a2 a3 a4 a5 a6 a7 a8 a9 = some r → loopN (exec (env Tryd.prog 81 Tryd.f81 call) n (sub [1, 1, 1, 1, 1, 1, 0, 1, 0, 0] (bodyOf Tryd.f81))) k (mkSt 147 147 [(1, (.t (.v (.int .i64 a1)))), (2, (.ptr 2 0 [] 0)), (109, (.t (.sl false 5 (GValue.ts a2)))), (110, (.t (.v (.int .i64 a3)))), (111, (.t (.v (.int .i64 a4))))] [(2, (.t (.st [(.v (.int .i64 a5)), (.v (.int .i64 a6)), (.v (.string a7)), (.sl false 5 (GValue.ts a8)), (.sl false 5 (GValue.ts a9))])))]) = some (value_plain_l4.to r)
  | 0, a1, a2, a3, a4, a5, a6, a7, a8, a9, r, h => by rw [value_plain_l4] at h; cases h
  | k + 1, a1, a2, a3, a4, a5, a6, a7, a8, a9, r, h => by
    rw [value_plain_l4] at h
    by_cases h1 : (decide (a4 < a3)) = true
    · rw [if_pos h1] at h
      by_cases h2 : (decide (0 ≤ (a4 : Int))) = true
      case neg => rw [if_neg h2] at h; cases h
      rw [if_pos h2] at h
      rcases h3 : a2[(a4 : Int).toNat]? with _ | ⟨a10, a11, a12, a13, a14⟩
      · rw [h3] at h; cases h
      rw [h3] at h
      dsimp only at h
      rcases h4 : t.value_plain (GValue.mk a10 a11 a12 a13 a14) (IntKind.wrap .i64 (a1 + 1)) with _ | a15
      · rw [h4] at h; cases h
      rw [h4] at h
      dsimp only at h
      by_cases h5 : a15 = true
      · rw [if_pos h5] at h
        by_cases h6 : (a5 == 7) = true
        · rw [if_pos h6] at h
          by_cases h7 : (decide (a4 > 0)) = true
          · rw [if_pos h7] at h
            by_cases h8 : (decide (a4 < (a8.length : Int))) = true
            · rw [if_pos h8] at h
              by_cases h9 : (decide (0 ≤ ((IntKind.wrap .i64 (a4 - 1)) : Int))) = true
              case neg => rw [if_neg h9] at h; cases h
              rw [if_pos h9] at h
              rcases h10 : a8[((IntKind.wrap .i64 (a4 - 1)) : Int).toNat]? with _ | ⟨a16, a17, a18, a19, a20⟩
              · rw [h10] at h; cases h
              rw [h10] at h
              dsimp only at h
              rcases h11 : t.value_Cmp (GValue.mk a16 a17 a18 a19 a20) (GValue.mk a10 a11 a12 a13 a14) with _ | a21
              · rw [h11] at h; cases h
              rw [h11] at h
              dsimp only at h
              by_cases h12 : (decide (a21 ≥ 0)) = true
              · rw [if_pos h12] at h
                rw [← Option.some.inj h]
                exact loop_out (path (ob_b h1 (ob_n h2 (ob_t (look_ts GValue.ts_map h3) (ob_c (ht.value_plain _ _ _ h4) (ob_b (congrArg (!·) h5) (ob_b h6 (ob_b h6 (ob_b h6 (ob_b h7 (ob_b h7 (ob_b h7 (ob_b h7 (ob_v (len_ts GValue.ts_map (l := a8)) (ob_b h7 (ob_b h7 (ob_b h8 (ob_b h8 (ob_b h8 (ob_b h8 (ob_b h8 (ob_n h9 (ob_t (look_ts GValue.ts_map h10) (ob_b h8 (ob_b h8 (ob_b h8 (ob_c (ht.value_Cmp _ _ _ h11) (ob_b h8 (ob_b h8 (ob_b h12 ob))))))))))))))))))))))))))))) (by kernel_rfl)) (fun h => by cases h)
              · rw [if_neg h12] at h
                replace h12 := Bool.eq_false_iff.2 h12
                exact loop_more (path (ob_b h1 (ob_n h2 (ob_t (look_ts GValue.ts_map h3) (ob_c (ht.value_plain _ _ _ h4) (ob_b (congrArg (!·) h5) (ob_b h6 (ob_b h6 (ob_b h6 (ob_b h7 (ob_b h7 (ob_b h7 (ob_b h7 (ob_v (len_ts GValue.ts_map (l := a8)) (ob_b h7 (ob_b h7 (ob_b h8 (ob_b h8 (ob_b h8 (ob_b h8 (ob_b h8 (ob_n h9 (ob_t (look_ts GValue.ts_map h10) (ob_b h8 (ob_b h8 (ob_b h8 (ob_c (ht.value_Cmp _ _ _ h11) (ob_b h8 (ob_b h8 (ob_b h12 ob))))))))))))))))))))))))))))) (by kernel_rfl)) (value_plain_l4.okL ht n k _ _ _ _ _ _ _ _ _ _ h)
            · rw [if_neg h8] at h
              replace h8 := Bool.eq_false_iff.2 h8
              exact loop_more (path (ob_b h1 (ob_n h2 (ob_t (look_ts GValue.ts_map h3) (ob_c (ht.value_plain _ _ _ h4) (ob_b (congrArg (!·) h5) (ob_b h6 (ob_b h6 (ob_b h6 (ob_b h7 (ob_b h7 (ob_b h7 (ob_b h7 (ob_v (len_ts GValue.ts_map (l := a8)) (ob_b h7 (ob_b h7 (ob_b h8 (ob_b h8 (ob_b h8 (ob_b h8 (ob_b h8 (ob_b h8 (ob_b h8 (ob_b h8 (ob_b h8 (ob_b h8 (ob_b (rfl : false = false) ob)))))))))))))))))))))))))) (by kernel_rfl)) (value_plain_l4.okL ht n k _ _ _ _ _ _ _ _ _ _ h)
          · rw [if_neg h7] at h
            replace h7 := Bool.eq_false_iff.2 h7
            exact loop_more (path (ob_b h1 (ob_n h2 (ob_t (look_ts GValue.ts_map h3) (ob_c (ht.value_plain _ _ _ h4) (ob_b (congrArg (!·) h5) (ob_b h6 (ob_b h6 (ob_b h6 (ob_b h7 (ob_b h7 (ob_b h7 (ob_b h7 (ob_b h7 (ob_b h7 (ob_b (rfl : false = false) (ob_b (rfl : false = false) (ob_b (rfl : false = false) (ob_b (rfl : false = false) (ob_b (rfl : false = false) (ob_b (rfl : false = false) (ob_b (rfl : false = false) (ob_b (rfl : false = false) (ob_b (rfl : false = false) (ob_b (rfl : false = false) (ob_b (rfl : false = false) ob))))))))))))))))))))))))) (by kernel_rfl)) (value_plain_l4.okL ht n k _ _ _ _ _ _ _ _ _ _ h)
        · rw [if_neg h6] at h
          replace h6 := Bool.eq_false_iff.2 h6
          exact loop_more (path (ob_b h1 (ob_n h2 (ob_t (look_ts GValue.ts_map h3) (ob_c (ht.value_plain _ _ _ h4) (ob_b (congrArg (!·) h5) (ob_b h6 (ob_b h6 (ob_b h6 (ob_b (rfl : false = false) (ob_b (rfl : false = false) (ob_b (rfl : false = false) (ob_b (rfl : false = false) (ob_b (rfl : false = false) (ob_b (rfl : false = false) (ob_b (rfl : false = false) (ob_b (rfl : false = false) (ob_b (rfl : false = false) (ob_b (rfl : false = false) (ob_b (rfl : false = false) (ob_b (rfl : false = false) (ob_b (rfl : false = false) (ob_b (rfl : false = false) (ob_b (rfl : false = false) (ob_b (rfl : false = false) (ob_b (rfl : false = false) ob))))))))))))))))))))))))) (by kernel_rfl)) (value_plain_l4.okL ht n k _ _ _ _ _ _ _ _ _ _ h)
      · rw [if_neg h5] at h
        replace h5 := Bool.eq_false_iff.2 h5
        rw [← Option.some.inj h]
        exact loop_out (path (ob_b h1 (ob_n h2 (ob_t (look_ts GValue.ts_map h3) (ob_c (ht.value_plain _ _ _ h4) (ob_b (congrArg (!·) h5) ob))))) (by kernel_rfl)) (fun h => by cases h)
    · rw [if_neg h1] at h
      replace h1 := Bool.eq_false_iff.2 h1
      rw [← Option.some.inj h]
      exact loop_out (path (ob_b h1 ob) (by kernel_rfl)) (fun h => by cases h)
theorem value_plain_l4.ok (ht : TabOk t call) (n : Nat) (a1 : Int) (a2 : List GValue) (a3 a4 a5 a6 : Int) (a7 : ByteArray) (a8 a9 : List GValue) (r : _) (h : value_plain_l4 t n n a1 a2 a3 a4 a5 a6 a7 a8 a9 = some r) : exec (env Tryd.prog 81 Tryd.f81 call) n (sub [1, 1, 1, 1, 1, 1, 0, 1, 0] (bodyOf Tryd.f81)) (mkSt 147 147 [(1, (.t (.v (.int .i64 a1)))), (2, (.ptr 2 0 [] 0)), (109, (.t (.sl false 5 (GValue.ts a2)))), (110, (.t (.v (.int .i64 a3)))), (111, (.t (.v (.int .i64 a4))))] [(2, (.t (.st [(.v (.int .i64 a5)), (.v (.int .i64 a6)), (.v (.string a7)), (.sl false 5 (GValue.ts a8)), (.sl false 5 (GValue.ts a9))])))]) = some (value_plain_l4.to r) := by
  have e1 : sub [1, 1, 1, 1, 1, 1, 0, 1, 0] (bodyOf Tryd.f81) = .loop (sub [1, 1, 1, 1, 1, 1, 0, 1, 0, 0] (bodyOf Tryd.f81)) := by kernel_rfl
  rw [e1, exec]
  exact value_plain_l4.okL ht n n a1 a2 a3 a4 a5 a6 a7 a8 a9 r h
theorem value_plain_j3.ok (ht : TabOk t call) (n : Nat) (a1 a2 a3 : Int) (a4 : ByteArray) (a5 a6 : List GValue) (r : _) (h : value_plain_j3 t n a1 a2 a3 a4 a5 a6 = some r) : exec (env Tryd.prog 81 Tryd.f81 call) n (sub [1, 1, 1, 1, 1, 1] (bodyOf Tryd.f81)) (mkSt 147 147 [(1, (.t (.v (.int .i64 a1)))), (2, (.ptr 2 0 [] 0))] [(2, (.t (.st [(.v (.int .i64 a2)), (.v (.int .i64 a3)), (.v (.string a4)), (.sl false 5 (GValue.ts a5)), (.sl false 5 (GValue.ts a6))])))]) = some (value_plain_j3.to r) := by
  rw [value_plain_j3] at h
  rcases h1 : t.slices_Concat_Value ([a5, a6] : List (List GValue)) with _ | a7
  · rw [h1] at h; cases h
  rw [h1] at h
  dsimp only at h
  rcases h2 : value_plain_l4 t n n a1 a7 (a7.length : Int) 0 a2 a3 a4 a5 a6 with _ | q_
  · rw [h2] at h; cases h
  rw [h2] at h
  rcases q_ with a8 | ⟨a9, a10, a11, a12, a13, a14, a15, a16, a17, a18⟩
  · dsimp only at h
    rw [← Option.some.inj h]
    exact path (ob_c (ht.slices_Concat_Value _ _ h1) (ob_v (len_ts GValue.ts_map (l := a7)) (ob_k (value_plain_l4.ok ht n _ _ _ _ _ _ _ _ _ _ h2) ob))) (by kernel_rfl)
  · dsimp only at h
    rw [← Option.some.inj h]
    exact path (ob_c (ht.slices_Concat_Value _ _ h1) (ob_v (len_ts GValue.ts_map (l := a7)) (ob_k (value_plain_l4.ok ht n _ _ _ _ _ _ _ _ _ _ h2) ob))) (by kernel_rfl)
theorem value_plain_j2.ok (ht : TabOk t call) (n : Nat) (a1 a2 a3 : Int) (a4 : ByteArray) (a5 a6 : List GValue) (r : _) (h : value_plain_j2 t n a1 a2 a3 a4 a5 a6 = some r) : exec (env Tryd.prog 81 Tryd.f81 call) n (sub [1, 1, 1, 1, 1] (bodyOf Tryd.f81)) (mkSt 147 147 [(1, (.t (.v (.int .i64 a1)))), (2, (.ptr 2 0 [] 0))] [(2, (.t (.st [(.v (.int .i64 a2)), (.v (.int .i64 a3)), (.v (.string a4)), (.sl false 5 (GValue.ts a5)), (.sl false 5 (GValue.ts a6))])))]) = some (value_plain_j2.to r) := by
  rw [value_plain_j2] at h
  by_cases h1 : (decide ((a5.length : Int) > 1000)) = true
  · rw [if_pos h1] at h
    rw [← Option.some.inj h]
    exact path (ob_v (len_ts GValue.ts_map (l := a5)) (ob_b h1 (ob_b h1 (ob_b h1 (ob_b h1 (ob_b h1 (ob_b h1 (ob_b (rfl : true = true) (ob_b (rfl : true = true) (ob_b (rfl : true = true) (ob_b (rfl : true = true) (ob_b (rfl : true = true) (ob_b (rfl : true = true) (ob_b (rfl : true = true) ob)))))))))))))) (by kernel_rfl)
  · rw [if_neg h1] at h
    replace h1 := Bool.eq_false_iff.2 h1
    by_cases h2 : (a2 == 7) = true
    · rw [if_pos h2] at h
      by_cases h3 : ((a6.length : Int) != (a5.length : Int)) = true
      · rw [if_pos h3] at h
        rw [← Option.some.inj h]
        exact path (ob_v (len_ts GValue.ts_map (l := a5)) (ob_b h1 (ob_b h1 (ob_b h1 (ob_b h1 (ob_b h2 (ob_b h2 (ob_b h2 (ob_v (len_ts GValue.ts_map (l := a6)) (ob_b h2 (ob_b h2 (ob_b h2 (ob_v (len_ts GValue.ts_map (l := a5)) (ob_b h2 (ob_b h1 (ob_b h2 (ob_b h1 (ob_b h3 (ob_b h3 (ob_b h3 (ob_b h3 (ob_b h3 (ob_b h3 (ob_b (rfl : true = true) ob)))))))))))))))))))))))) (by kernel_rfl)
      · rw [if_neg h3] at h
        replace h3 := Bool.eq_false_iff.2 h3
        by_cases h4 : (a2 != 7) = true
        · rw [if_pos h4] at h
          by_cases h5 : (decide ((a6.length : Int) > 0)) = true
          · rw [if_pos h5] at h
            rw [← Option.some.inj h]
            exact path (ob_v (len_ts GValue.ts_map (l := a5)) (ob_b h1 (ob_b h1 (ob_b h1 (ob_b h1 (ob_b h2 (ob_b h2 (ob_b h2 (ob_v (len_ts GValue.ts_map (l := a6)) (ob_b h2 (ob_b h2 (ob_b h2 (ob_v (len_ts GValue.ts_map (l := a5)) (ob_b h2 (ob_b h1 (ob_b h2 (ob_b h1 (ob_b h3 (ob_b h3 (ob_b h3 (ob_b h3 (ob_b h4 (ob_b h4 (ob_b h4 (ob_v (len_ts GValue.ts_map (l := a6)) (ob_b h4 (ob_b h3 (ob_b h4 (ob_b h3 (ob_b h5 ob)))))))))))))))))))))))))))))) (by kernel_rfl)
          · rw [if_neg h5] at h
            replace h5 := Bool.eq_false_iff.2 h5
            obtain ⟨a7, rfl⟩ : ∃ z_, z_ = r := ⟨_, rfl⟩
            have h6 := h
            exact path (ob_v (len_ts GValue.ts_map (l := a5)) (ob_b h1 (ob_b h1 (ob_b h1 (ob_b h1 (ob_b h2 (ob_b h2 (ob_b h2 (ob_v (len_ts GValue.ts_map (l := a6)) (ob_b h2 (ob_b h2 (ob_b h2 (ob_v (len_ts GValue.ts_map (l := a5)) (ob_b h2 (ob_b h1 (ob_b h2 (ob_b h1 (ob_b h3 (ob_b h3 (ob_b h3 (ob_b h3 (ob_b h4 (ob_b h4 (ob_b h4 (ob_v (len_ts GValue.ts_map (l := a6)) (ob_b h4 (ob_b h3 (ob_b h4 (ob_b h3 (ob_b h5 (ob_j (value_plain_j3.ok ht n _ _ _ _ _ _ _ h6) ob))))))))))))))))))))))))))))))) (by kernel_rfl)
        · rw [if_neg h4] at h
          replace h4 := Bool.eq_false_iff.2 h4
          obtain ⟨a8, rfl⟩ : ∃ z_, z_ = r := ⟨_, rfl⟩
          have h7 := h
          exact path (ob_v (len_ts GValue.ts_map (l := a5)) (ob_b h1 (ob_b h1 (ob_b h1 (ob_b h1 (ob_b h2 (ob_b h2 (ob_b h2 (ob_v (len_ts GValue.ts_map (l := a6)) (ob_b h2 (ob_b h2 (ob_b h2 (ob_v (len_ts GValue.ts_map (l := a5)) (ob_b h2 (ob_b h1 (ob_b h2 (ob_b h1 (ob_b h3 (ob_b h3 (ob_b h3 (ob_b h3 (ob_b h4 (ob_b h4 (ob_b h4 (ob_b h4 (ob_b h3 (ob_b h4 (ob_b h3 (ob_b (rfl : false = false) (ob_j (value_plain_j3.ok ht n _ _ _ _ _ _ _ h7) ob)))))))))))))))))))))))))))))) (by kernel_rfl)
    · rw [if_neg h2] at h
      replace h2 := Bool.eq_false_iff.2 h2
      by_cases h8 : (a2 != 7) = true
      · rw [if_pos h8] at h
        by_cases h9 : (decide ((a6.length : Int) > 0)) = true
        · rw [if_pos h9] at h
          rw [← Option.some.inj h]
          exact path (ob_v (len_ts GValue.ts_map (l := a5)) (ob_b h1 (ob_b h1 (ob_b h1 (ob_b h1 (ob_b h2 (ob_b h2 (ob_b h2 (ob_b h2 (ob_b h2 (ob_b h2 (ob_b h2 (ob_b h1 (ob_b h2 (ob_b h1 (ob_b (rfl : false = false) (ob_b (rfl : false = false) (ob_b (rfl : false = false) (ob_b (rfl : false = false) (ob_b h8 (ob_b h8 (ob_b h8 (ob_v (len_ts GValue.ts_map (l := a6)) (ob_b h8 (ob_b (rfl : false = false) (ob_b h8 (ob_b (rfl : false = false) (ob_b h9 ob)))))))))))))))))))))))))))) (by kernel_rfl)
        · rw [if_neg h9] at h
          replace h9 := Bool.eq_false_iff.2 h9
          obtain ⟨a9, rfl⟩ : ∃ z_, z_ = r := ⟨_, rfl⟩
          have h10 := h
          exact path (ob_v (len_ts GValue.ts_map (l := a5)) (ob_b h1 (ob_b h1 (ob_b h1 (ob_b h1 (ob_b h2 (ob_b h2 (ob_b h2 (ob_b h2 (ob_b h2 (ob_b h2 (ob_b h2 (ob_b h1 (ob_b h2 (ob_b h1 (ob_b (rfl : false = false) (ob_b (rfl : false = false) (ob_b (rfl : false = false) (ob_b (rfl : false = false) (ob_b h8 (ob_b h8 (ob_b h8 (ob_v (len_ts GValue.ts_map (l := a6)) (ob_b h8 (ob_b (rfl : false = false) (ob_b h8 (ob_b (rfl : false = false) (ob_b h9 (ob_j (value_plain_j3.ok ht n _ _ _ _ _ _ _ h10) ob))))))))))))))))))))))))))))) (by kernel_rfl)
      · rw [if_neg h8] at h
        replace h8 := Bool.eq_false_iff.2 h8
        obtain ⟨a10, rfl⟩ : ∃ z_, z_ = r := ⟨_, rfl⟩
        have h11 := h
        exact path (ob_v (len_ts GValue.ts_map (l := a5)) (ob_b h1 (ob_b h1 (ob_b h1 (ob_b h1 (ob_b h2 (ob_b h2 (ob_b h2 (ob_b h2 (ob_b h2 (ob_b h2 (ob_b h2 (ob_b h1 (ob_b h2 (ob_b h1 (ob_b (rfl : false = false) (ob_b (rfl : false = false) (ob_b (rfl : false = false) (ob_b (rfl : false = false) (ob_b h8 (ob_b h8 (ob_b h8 (ob_b h8 (ob_b (rfl : false = false) (ob_b h8 (ob_b (rfl : false = false) (ob_b (rfl : false = false) (ob_j (value_plain_j3.ok ht n _ _ _ _ _ _ _ h11) ob)))))))))))))))))))))))))))) (by kernel_rfl)
theorem value_plain_j1.ok (ht : TabOk t call) (n : Nat) (a1 : Int) (a2 a3 : Bool) (a4 a5 : Int) (a6 : ByteArray) (a7 a8 : List GValue) (r : _) (h : value_plain_j1 t n a1 a2 a3 a4 a5 a6 a7 a8 = some r) : exec (env Tryd.prog 81 Tryd.f81 call) n (sub [1, 1, 1, 1] (bodyOf Tryd.f81)) (mkSt 147 147 [(1, (.t (.v (.int .i64 a1)))), (2, (.ptr 2 0 [] 0)), (5, (.t (.v (.bool a2)))), (6, (.t (.v (.bool a3))))] [(2, (.t (.st [(.v (.int .i64 a4)), (.v (.int .i64 a5)), (.v (.string a6)), (.sl false 5 (GValue.ts a7)), (.sl false 5 (GValue.ts a8))])))]) = some (value_plain_j1.to r) := by
  rw [value_plain_j1] at h
  by_cases h1 : a3 = true
  · rw [if_pos h1] at h
    by_cases h2 : (decide ((a6.size : Int) > 1000)) = true
    · rw [if_pos h2] at h
      rw [← Option.some.inj h]
      exact path (ob_b (congrArg (!·) h1) (ob_b (congrArg (!·) h1) (ob_b (congrArg (!·) h1) (ob_b (congrArg (!·) h1) (ob_b (rfl : false = false) (ob_b (rfl : false = false) (ob_b (rfl : false = false) (ob_b (rfl : false = false) (ob_b (rfl : false = false) (ob_b h2 (ob_b h2 (ob_b h2 (ob_b h2 (ob_b h2 (ob_b h2 (ob_b (rfl : true = true) (ob_b (rfl : true = true) (ob_b (rfl : true = true) (ob_b (rfl : true = true) (ob_b (rfl : true = true) (ob_b (rfl : true = true) ob))))))))))))))))))))) (by kernel_rfl)
    · rw [if_neg h2] at h
      replace h2 := Bool.eq_false_iff.2 h2
      by_cases h3 : (a5 != 0) = true
      · rw [if_pos h3] at h
        rw [← Option.some.inj h]
        exact path (ob_b (congrArg (!·) h1) (ob_b (congrArg (!·) h1) (ob_b (congrArg (!·) h1) (ob_b (congrArg (!·) h1) (ob_b (rfl : false = false) (ob_b (rfl : false = false) (ob_b (rfl : false = false) (ob_b (rfl : false = false) (ob_b (rfl : false = false) (ob_b h2 (ob_b h2 (ob_b h1 (ob_b h2 (ob_b h1 (ob_b h2 (ob_b (rfl : true = true) (ob_b (rfl : true = true) (ob_b (rfl : true = true) (ob_b h2 (ob_b (rfl : true = true) (ob_b h2 (ob_b h3 (ob_b h3 (ob_b h3 (ob_b h3 (ob_b h3 (ob_b (rfl : true = true) ob))))))))))))))))))))))))))) (by kernel_rfl)
      · rw [if_neg h3] at h
        replace h3 := Bool.eq_false_iff.2 h3
        by_cases h4 : a2 = true
        · rw [if_pos h4] at h
          obtain ⟨a9, rfl⟩ : ∃ z_, z_ = r := ⟨_, rfl⟩
          have h5 := h
          exact path (ob_b (congrArg (!·) h1) (ob_b (congrArg (!·) h1) (ob_b (congrArg (!·) h1) (ob_b (congrArg (!·) h1) (ob_b (rfl : false = false) (ob_b (rfl : false = false) (ob_b (rfl : false = false) (ob_b (rfl : false = false) (ob_b (rfl : false = false) (ob_b h2 (ob_b h2 (ob_b h1 (ob_b h2 (ob_b h1 (ob_b h2 (ob_b (rfl : true = true) (ob_b (rfl : true = true) (ob_b (rfl : true = true) (ob_b h2 (ob_b (rfl : true = true) (ob_b h2 (ob_b h3 (ob_b h3 (ob_b h3 (ob_b (congrArg (!·) h4) (ob_b (congrArg (!·) h4) (ob_b (congrArg (!·) h4) (ob_b (congrArg (!·) h4) (ob_b (congrArg (!·) h4) (ob_b (congrArg (!·) h4) (ob_b (congrArg (!·) h4) (ob_b (congrArg (!·) h4) (ob_b h3 (ob_b (congrArg (!·) h4) (ob_b h3 (ob_b (rfl : false = false) (ob_j (value_plain_j2.ok ht n _ _ _ _ _ _ _ h5) ob))))))))))))))))))))))))))))))))))))) (by kernel_rfl)
        · rw [if_neg h4] at h
          replace h4 := Bool.eq_false_iff.2 h4
          by_cases h6 : (decide ((IntKind.wrap .i64 ((a7.length : Int) + (a8.length : Int))) > 0)) = true
          · rw [if_pos h6] at h
            rw [← Option.some.inj h]
            exact path (ob_b (congrArg (!·) h1) (ob_b (congrArg (!·) h1) (ob_b (congrArg (!·) h1) (ob_b (congrArg (!·) h1) (ob_b (rfl : false = false) (ob_b (rfl : false = false) (ob_b (rfl : false = false) (ob_b (rfl : false = false) (ob_b (rfl : false = false) (ob_b h2 (ob_b h2 (ob_b h1 (ob_b h2 (ob_b h1 (ob_b h2 (ob_b (rfl : true = true) (ob_b (rfl : true = true) (ob_b (rfl : true = true) (ob_b h2 (ob_b (rfl : true = true) (ob_b h2 (ob_b h3 (ob_b h3 (ob_b h3 (ob_b (congrArg (!·) h4) (ob_b (congrArg (!·) h4) (ob_b (congrArg (!·) h4) (ob_v (len_ts GValue.ts_map (l := a7)) (ob_b (congrArg (!·) h4) (ob_b (congrArg (!·) h4) (ob_b (congrArg (!·) h4) (ob_v (len_ts GValue.ts_map (l := a8)) (ob_b (congrArg (!·) h4) (ob_b (congrArg (!·) h4) (ob_b h3 (ob_b (congrArg (!·) h4) (ob_b h3 (ob_b h6 ob)))))))))))))))))))))))))))))))))))))) (by kernel_rfl)
          · rw [if_neg h6] at h
            replace h6 := Bool.eq_false_iff.2 h6
            obtain ⟨a10, rfl⟩ : ∃ z_, z_ = r := ⟨_, rfl⟩
            have h7 := h
            exact path (ob_b (congrArg (!·) h1) (ob_b (congrArg (!·) h1) (ob_b (congrArg (!·) h1) (ob_b (congrArg (!·) h1) (ob_b (rfl : false = false) (ob_b (rfl : false = false) (ob_b (rfl : false = false) (ob_b (rfl : false = false) (ob_b (rfl : false = false) (ob_b h2 (ob_b h2 (ob_b h1 (ob_b h2 (ob_b h1 (ob_b h2 (ob_b (rfl : true = true) (ob_b (rfl : true = true) (ob_b (rfl : true = true) (ob_b h2 (ob_b (rfl : true = true) (ob_b h2 (ob_b h3 (ob_b h3 (ob_b h3 (ob_b (congrArg (!·) h4) (ob_b (congrArg (!·) h4) (ob_b (congrArg (!·) h4) (ob_v (len_ts GValue.ts_map (l := a7)) (ob_b (congrArg (!·) h4) (ob_b (congrArg (!·) h4) (ob_b (congrArg (!·) h4) (ob_v (len_ts GValue.ts_map (l := a8)) (ob_b (congrArg (!·) h4) (ob_b (congrArg (!·) h4) (ob_b h3 (ob_b (congrArg (!·) h4) (ob_b h3 (ob_b h6 (ob_j (value_plain_j2.ok ht n _ _ _ _ _ _ _ h7) ob))))))))))))))))))))))))))))))))))))))) (by kernel_rfl)
  · rw [if_neg h1] at h
    replace h1 := Bool.eq_false_iff.2 h1
    by_cases h8 : (a6.toList == (ByteArray.mk #[]).toList) = true
    · rw [if_pos h8] at h
      by_cases h9 : (decide ((a6.size : Int) > 1000)) = true
      · rw [if_pos h9] at h
        rw [← Option.some.inj h]
        exact path (ob_b (congrArg (!·) h1) (ob_b (congrArg (!·) h1) (ob_b (congrArg (!·) h1) (ob_b (congrArg (!·) h1) (ob_b (congrArg (!·) h8) (ob_b (congrArg (!·) h8) (ob_b (congrArg (!·) h8) (ob_b (congrArg (!·) h8) (ob_b (congrArg (!·) h8) (ob_b h9 (ob_b h9 (ob_b h9 (ob_b h9 (ob_b h9 (ob_b h9 (ob_b (rfl : true = true) (ob_b (rfl : true = true) (ob_b (rfl : true = true) (ob_b (rfl : true = true) (ob_b (rfl : true = true) (ob_b (rfl : true = true) ob))))))))))))))))))))) (by kernel_rfl)
      · rw [if_neg h9] at h
        replace h9 := Bool.eq_false_iff.2 h9
        by_cases h10 : a2 = true
        · rw [if_pos h10] at h
          by_cases h11 : (a5 != 0) = true
          · rw [if_pos h11] at h
            rw [← Option.some.inj h]
            exact path (ob_b (congrArg (!·) h1) (ob_b (congrArg (!·) h1) (ob_b (congrArg (!·) h1) (ob_b (congrArg (!·) h1) (ob_b (congrArg (!·) h8) (ob_b (congrArg (!·) h8) (ob_b (congrArg (!·) h8) (ob_b (congrArg (!·) h8) (ob_b (congrArg (!·) h8) (ob_b h9 (ob_b h9 (ob_b h1 (ob_b h9 (ob_b h1 (ob_b h9 (ob_b h10 (ob_b h10 (ob_b h10 (ob_b h9 (ob_b h10 (ob_b h9 (ob_b h11 (ob_b h11 (ob_b h11 (ob_b h11 (ob_b h11 (ob_b (rfl : true = true) ob))))))))))))))))))))))))))) (by kernel_rfl)
          · rw [if_neg h11] at h
            replace h11 := Bool.eq_false_iff.2 h11
            obtain ⟨a11, rfl⟩ : ∃ z_, z_ = r := ⟨_, rfl⟩
            have h12 := h
            exact path (ob_b (congrArg (!·) h1) (ob_b (congrArg (!·) h1) (ob_b (congrArg (!·) h1) (ob_b (congrArg (!·) h1) (ob_b (congrArg (!·) h8) (ob_b (congrArg (!·) h8) (ob_b (congrArg (!·) h8) (ob_b (congrArg (!·) h8) (ob_b (congrArg (!·) h8) (ob_b h9 (ob_b h9 (ob_b h1 (ob_b h9 (ob_b h1 (ob_b h9 (ob_b h10 (ob_b h10 (ob_b h10 (ob_b h9 (ob_b h10 (ob_b h9 (ob_b h11 (ob_b h11 (ob_b h11 (ob_b (congrArg (!·) h10) (ob_b (congrArg (!·) h10) (ob_b (congrArg (!·) h10) (ob_b (congrArg (!·) h10) (ob_b (congrArg (!·) h10) (ob_b (congrArg (!·) h10) (ob_b (congrArg (!·) h10) (ob_b (congrArg (!·) h10) (ob_b h11 (ob_b (congrArg (!·) h10) (ob_b h11 (ob_b (rfl : false = false) (ob_j (value_plain_j2.ok ht n _ _ _ _ _ _ _ h12) ob))))))))))))))))))))))))))))))))))))) (by kernel_rfl)
        · rw [if_neg h10] at h
          replace h10 := Bool.eq_false_iff.2 h10
          by_cases h13 : (decide ((IntKind.wrap .i64 ((a7.length : Int) + (a8.length : Int))) > 0)) = true
          · rw [if_pos h13] at h
            rw [← Option.some.inj h]
            exact path (ob_b (congrArg (!·) h1) (ob_b (congrArg (!·) h1) (ob_b (congrArg (!·) h1) (ob_b (congrArg (!·) h1) (ob_b (congrArg (!·) h8) (ob_b (congrArg (!·) h8) (ob_b (congrArg (!·) h8) (ob_b (congrArg (!·) h8) (ob_b (congrArg (!·) h8) (ob_b h9 (ob_b h9 (ob_b h1 (ob_b h9 (ob_b h1 (ob_b h9 (ob_b h10 (ob_b h10 (ob_b h10 (ob_b h9 (ob_b h10 (ob_b h9 (ob_b (rfl : false = false) (ob_b (rfl : false = false) (ob_b (rfl : false = false) (ob_b (congrArg (!·) h10) (ob_b (congrArg (!·) h10) (ob_b (congrArg (!·) h10) (ob_v (len_ts GValue.ts_map (l := a7)) (ob_b (congrArg (!·) h10) (ob_b (congrArg (!·) h10) (ob_b (congrArg (!·) h10) (ob_v (len_ts GValue.ts_map (l := a8)) (ob_b (congrArg (!·) h10) (ob_b (congrArg (!·) h10) (ob_b (rfl : false = false) (ob_b (congrArg (!·) h10) (ob_b (rfl : false = false) (ob_b h13 ob)))))))))))))))))))))))))))))))))))))) (by kernel_rfl)
          · rw [if_neg h13] at h
            replace h13 := Bool.eq_false_iff.2 h13
            obtain ⟨a12, rfl⟩ : ∃ z_, z_ = r := ⟨_, rfl⟩
            have h14 := h
            exact path (ob_b (congrArg (!·) h1) (ob_b (congrArg (!·) h1) (ob_b (congrArg (!·) h1) (ob_b (congrArg (!·) h1) (ob_b (congrArg (!·) h8) (ob_b (congrArg (!·) h8) (ob_b (congrArg (!·) h8) (ob_b (congrArg (!·) h8) (ob_b (congrArg (!·) h8) (ob_b h9 (ob_b h9 (ob_b h1 (ob_b h9 (ob_b h1 (ob_b h9 (ob_b h10 (ob_b h10 (ob_b h10 (ob_b h9 (ob_b h10 (ob_b h9 (ob_b (rfl : false = false) (ob_b (rfl : false = false) (ob_b (rfl : false = false) (ob_b (congrArg (!·) h10) (ob_b (congrArg (!·) h10) (ob_b (congrArg (!·) h10) (ob_v (len_ts GValue.ts_map (l := a7)) (ob_b (congrArg (!·) h10) (ob_b (congrArg (!·) h10) (ob_b (congrArg (!·) h10) (ob_v (len_ts GValue.ts_map (l := a8)) (ob_b (congrArg (!·) h10) (ob_b (congrArg (!·) h10) (ob_b (rfl : false = false) (ob_b (congrArg (!·) h10) (ob_b (rfl : false = false) (ob_b h13 (ob_j (value_plain_j2.ok ht n _ _ _ _ _ _ _ h14) ob))))))))))))))))))))))))))))))))))))))) (by kernel_rfl)
    · rw [if_neg h8] at h
      replace h8 := Bool.eq_false_iff.2 h8
      rw [← Option.some.inj h]
      exact path (ob_b (congrArg (!·) h1) (ob_b (congrArg (!·) h1) (ob_b (congrArg (!·) h1) (ob_b (congrArg (!·) h1) (ob_b (congrArg (!·) h8) (ob_b (congrArg (!·) h8) (ob_b (congrArg (!·) h8) (ob_b (congrArg (!·) h8) (ob_b (congrArg (!·) h8) (ob_b (rfl : true = true) (ob_b (rfl : true = true) (ob_b (rfl : true = true) (ob_b (rfl : true = true) (ob_b (rfl : true = true) (ob_b (rfl : true = true) (ob_b (rfl : true = true) (ob_b (rfl : true = true) (ob_b (rfl : true = true) (ob_b (rfl : true = true) (ob_b (rfl : true = true) (ob_b (rfl : true = true) ob))))))))))))))))))))) (by kernel_rfl)
theorem value_plain_j5.ok (ht : TabOk t call) (n : Nat) (a1 : Int) (a2 a3 : Bool) (a4 : Int) (a5 : Bool) (a6 a7 : Int) (a8 : ByteArray) (a9 a10 : List GValue) (r : _) (h : value_plain_j5 t n a1 a2 a3 a4 a5 a6 a7 a8 a9 a10 = some r) : exec (env Tryd.prog 81 Tryd.f81 call) n (sub [1, 1, 1, 0, 1, 0, 1, 1, 1, 1, 1] (bodyOf Tryd.f81)) (mkSt 147 147 [(1, (.t (.v (.int .i64 a1)))), (2, (.ptr 2 0 [] 0)), (5, (.t (.v (.bool a2)))), (6, (.t (.v (.bool a3)))), (12, (.t (.v (.int .i64 a4)))), (25, (.t (.v (.bool a5))))] [(2, (.t (.st [(.v (.int .i64 a6)), (.v (.int .i64 a7)), (.v (.string a8)), (.sl false 5 (GValue.ts a9)), (.sl false 5 (GValue.ts a10))])))]) = some (value_plain_j5.to r) := by
  rw [value_plain_j5] at h
  by_cases h1 : a5 = true
  · rw [if_pos h1] at h
    by_cases h2 : (decide (a7 < 0)) = true
    · rw [if_pos h2] at h
      rw [← Option.some.inj h]
      exact path (ob_b h1 (ob_b h2 ob)) (by kernel_rfl)
    · rw [if_neg h2] at h
      replace h2 := Bool.eq_false_iff.2 h2
      rw [← Option.some.inj h]
      exact path (ob_b h1 (ob_b h2 ob)) (by kernel_rfl)
  · rw [if_neg h1] at h
    replace h1 := Bool.eq_false_iff.2 h1
    by_cases h3 : (a4 == 3) = true
    · rw [if_pos h3] at h
      rw [← Option.some.inj h]
      exact path (ob_b h1 (ob_b h3 ob)) (by kernel_rfl)
    · rw [if_neg h3] at h
      replace h3 := Bool.eq_false_iff.2 h3
      by_cases h4 : (a4 == 6) = true
      · rw [if_pos h4] at h
        rw [← Option.some.inj h]
        exact path (ob_b h1 (ob_b h3 (ob_b h4 (ob_b h4 ob)))) (by kernel_rfl)
      · rw [if_neg h4] at h
        replace h4 := Bool.eq_false_iff.2 h4
        by_cases h5 : (a4 == 8) = true
        · rw [if_pos h5] at h
          rw [← Option.some.inj h]
          exact path (ob_b h1 (ob_b h3 (ob_b h4 (ob_b h5 (ob_b h5 ob))))) (by kernel_rfl)
        · rw [if_neg h5] at h
          replace h5 := Bool.eq_false_iff.2 h5
          by_cases h6 : (a4 == 7) = true
          · rw [if_pos h6] at h
            rw [← Option.some.inj h]
            exact path (ob_b h1 (ob_b h3 (ob_b h4 (ob_b h5 (ob_b h6 ob))))) (by kernel_rfl)
          · rw [if_neg h6] at h
            replace h6 := Bool.eq_false_iff.2 h6
            rw [← Option.some.inj h]
            exact path (ob_b h1 (ob_b h3 (ob_b h4 (ob_b h5 (ob_b h6 ob))))) (by kernel_rfl)
theorem value_plain.ok {n : Nat} {t : Tab} (ht : TabOk t (run Tryd.prog own kp X n)) : ∀ (p1 : GValue) (p2 : Int) r, value_plain t n p1 p2 = some r → run Tryd.prog own kp X (n + 1) 81 [(.t (GValue.t p1)), (.t (.v (.int .i64 p2)))] [] = some ((.t (.v (.bool r))), []) := by
  intro p1 p2 r h
  obtain ⟨a1, a2, a3, a4, a5⟩ := p1
  obtain ⟨a6, rfl⟩ : ∃ z_, z_ = p2 := ⟨_, rfl⟩
  rw [value_plain] at h
  by_cases h1 : (decide (a6 > 12)) = true
  · rw [if_pos h1] at h
    rw [← Option.some.inj h]
    exact run_path Tryd.func81 (ob_b h1 ob) (by kernel_rfl)
  · rw [if_neg h1] at h
    replace h1 := Bool.eq_false_iff.2 h1
    by_cases h2 : (a1 == 1) = true
    · rw [if_pos h2] at h
      by_cases h3 : (decide (a2 < 0)) = true
      · rw [if_pos h3] at h
        rw [← Option.some.inj h]
        exact run_path Tryd.func81 (ob_b h1 (ob_b h2 (ob_b h3 (ob_b h3 (ob_b h3 (ob_b h3 (ob_b (rfl : true = true) ob))))))) (by kernel_rfl)
      · rw [if_neg h3] at h
        replace h3 := Bool.eq_false_iff.2 h3
        by_cases h4 : (decide (a2 > 1)) = true
        · rw [if_pos h4] at h
          rw [← Option.some.inj h]
          exact run_path Tryd.func81 (ob_b h1 (ob_b h2 (ob_b h3 (ob_b h3 (ob_b h3 (ob_b h3 (ob_b h4 ob))))))) (by kernel_rfl)
        · rw [if_neg h4] at h
          replace h4 := Bool.eq_false_iff.2 h4
          obtain ⟨a7, rfl⟩ : ∃ z_, z_ = r := ⟨_, rfl⟩
          have h5 := h
          exact run_path Tryd.func81 (ob_b h1 (ob_b h2 (ob_b h3 (ob_b h3 (ob_b h3 (ob_b h3 (ob_b h4 (ob_j (value_plain_j1.ok ht n _ _ _ _ _ _ _ _ _ h5) ob)))))))) (by kernel_rfl)
    · rw [if_neg h2] at h
      replace h2 := Bool.eq_false_iff.2 h2
      by_cases h6 : (a1 == 2) = true
      · rw [if_pos h6] at h
        obtain ⟨a8, rfl⟩ : ∃ z_, z_ = r := ⟨_, rfl⟩
        have h7 := h
        exact run_path Tryd.func81 (ob_b h1 (ob_b h2 (ob_b h6 (ob_j (value_plain_j1.ok ht n _ _ _ _ _ _ _ _ _ h7) ob)))) (by kernel_rfl)
      · rw [if_neg h6] at h
        replace h6 := Bool.eq_false_iff.2 h6
        by_cases h8 : (a1 == 4) = true
        · rw [if_pos h8] at h
          rcases h9 : value_plain_j5 t n  a6 false false a1 (a1 == 4) a1 a2 a3 a4 a5 with _ | q_
          · rw [h9] at h; cases h
          rw [h9] at h
          rcases q_ with a9 | ⟨a10, a11, a12, a13, a14, a15, a16, a17⟩
          · dsimp only at h
            rw [← Option.some.inj h]
            exact run_path Tryd.func81 (ob_b h1 (ob_b h2 (ob_b h6 (ob_b h8 (ob_j (value_plain_j5.ok ht n _ _ _ _ _ _ _ _ _ _ _ h9) ob))))) (by kernel_rfl)
          · dsimp only at h
            obtain ⟨a18, rfl⟩ : ∃ z_, z_ = r := ⟨_, rfl⟩
            have h10 := h
            exact run_path Tryd.func81 (ob_b h1 (ob_b h2 (ob_b h6 (ob_b h8 (ob_j (value_plain_j5.ok ht n _ _ _ _ _ _ _ _ _ _ _ h9) (ob_j (value_plain_j1.ok ht n _ _ _ _ _ _ _ _ _ h10) ob)))))) (by kernel_rfl)
        · rw [if_neg h8] at h
          replace h8 := Bool.eq_false_iff.2 h8
          rcases h11 : value_plain_j5 t n  a6 false false a1 (a1 == 5) a1 a2 a3 a4 a5 with _ | q_
          · rw [h11] at h; cases h
          rw [h11] at h
          rcases q_ with a19 | ⟨a20, a21, a22, a23, a24, a25, a26, a27⟩
          · dsimp only at h
            rw [← Option.some.inj h]
            exact run_path Tryd.func81 (ob_b h1 (ob_b h2 (ob_b h6 (ob_b h8 (ob_j (value_plain_j5.ok ht n _ _ _ _ _ _ _ _ _ _ _ h11) ob))))) (by kernel_rfl)
          · dsimp only at h
            obtain ⟨a28, rfl⟩ : ∃ z_, z_ = r := ⟨_, rfl⟩
            have h12 := h
            exact run_path Tryd.func81 (ob_b h1 (ob_b h2 (ob_b h6 (ob_b h8 (ob_j (value_plain_j5.ok ht n _ _ _ _ _ _ _ _ _ _ _ h11) (ob_j (value_plain_j1.ok ht n _ _ _ _ _ _ _ _ _ h12) ob)))))) (by kernel_rfl)
theorem pred_right_j1.ok (ht : TabOk t call) (n : Nat) (a1 : Int) (a2 : List GValue) (a3 : List GPred) (a4 : Int) (r : _) (h : pred_right_j1 t n a1 a2 a3 a4 = some r) : exec (env Tryd.prog 82 Tryd.f82 call) n (sub [1, 1, 1] (bodyOf Tryd.f82)) (mkSt 62 62 [(2, (.ptr 2 0 [] 0)), (3, (.ptr 3 0 [] 0))] [(2, (.t (.st [(.v (.int .i64 a1)), (.sl false 5 (GValue.ts a2)), (.sl false 3 (GPred.ts a3))]))), (3, (.t (.v (.int .i64 a4))))]) = some (pred_right_j1.to r) := by
  rw [pred_right_j1] at h
  rcases h1 : t.slices_ContainsFunc_pred_right_1 a3 a4 with _ | a5
  · rw [h1] at h; cases h
  rw [h1] at h
  dsimp only at h
  by_cases h2 : a5 = true
  · rw [if_pos h2] at h
    rw [← Option.some.inj h]
    exact path (ob_c (ht.slices_ContainsFunc_pred_right_1 _ _ _ h1) (ob_b (congrArg (!·) h2) (ob_b (congrArg (!·) h2) (ob_b (congrArg (!·) h2) (ob_b (congrArg (!·) h2) (ob_b (congrArg (!·) h2) (ob_b (congrArg (!·) h2) ob))))))) (by kernel_rfl)
  · rw [if_neg h2] at h
    replace h2 := Bool.eq_false_iff.2 h2
    rcases h3 : t.slices_ContainsFunc_pred_right_2 a2 with _ | a6
    · rw [h3] at h; cases h
    rw [h3] at h
    dsimp only at h
    rw [← Option.some.inj h]
    exact path (ob_c (ht.slices_ContainsFunc_pred_right_1 _ _ _ h1) (ob_b (congrArg (!·) h2) (ob_b (congrArg (!·) h2) (ob_b (congrArg (!·) h2) (ob_b (congrArg (!·) h2) (ob_c (ht.slices_ContainsFunc_pred_right_2 _ _ h3) (ob_b (congrArg (!·) h2) (ob_b (congrArg (!·) h2) ob)))))))) (by kernel_rfl)
theorem pred_right.ok {n : Nat} {t : Tab} (ht : TabOk t (run Tryd.prog own kp X n)) : ∀ (p1 : GPred) (p2 : Int) r, pred_right t n p1 p2 = some r → run Tryd.prog own kp X (n + 1) 82 [(.t (GPred.t p1)), (.t (.v (.int .i64 p2)))] [] = some ((.t (.v (.bool r))), []) := by
  intro p1 p2 r h
  obtain ⟨a1, a2, a3⟩ := p1
  obtain ⟨a4, rfl⟩ : ∃ z_, z_ = p2 := ⟨_, rfl⟩
  rw [pred_right] at h
  rcases h1 : t.pred_arity a1 with _ | ⟨a5, a6, a7, a8⟩
  · rw [h1] at h; cases h
  rw [h1] at h
  dsimp only at h
  by_cases h2 : (decide (a4 > 12)) = true
  · rw [if_pos h2] at h
    rw [← Option.some.inj h]
    exact run_path Tryd.func82 (ob_c (ht.pred_arity _ _ h1) (ob_b h2 (ob_b h2 (ob_b h2 (ob_b h2 (ob_b h2 (ob_b h2 (ob_b (rfl : true = true) (ob_b (rfl : true = true) (ob_b (rfl : true = true) (ob_b (rfl : true = true) (ob_b (rfl : true = true) (ob_b (rfl : true = true) (ob_b (rfl : true = true) (ob_b (rfl : true = true) (ob_b (rfl : true = true) (ob_b (rfl : true = true) (ob_b (rfl : true = true) (ob_b (rfl : true = true) (ob_b (rfl : true = true) (ob_b (rfl : true = true) (ob_b (rfl : true = true) (ob_b (rfl : true = true) (ob_b (rfl : true = true) (ob_b (rfl : true = true) (ob_b (rfl : true = true) ob)))))))))))))))))))))))))) (by kernel_rfl)
  · rw [if_neg h2] at h
    replace h2 := Bool.eq_false_iff.2 h2
    by_cases h3 : (decide ((a2.length : Int) < a5)) = true
    · rw [if_pos h3] at h
      rw [← Option.some.inj h]
      exact run_path Tryd.func82 (ob_c (ht.pred_arity _ _ h1) (ob_b h2 (ob_b h2 (ob_b h2 (ob_v (len_ts GValue.ts_map (l := a2)) (ob_b h2 (ob_b h2 (ob_b h2 (ob_b h3 (ob_b h3 (ob_b h3 (ob_b h3 (ob_b h3 (ob_b h3 (ob_b (rfl : true = true) (ob_b (rfl : true = true) (ob_b (rfl : true = true) (ob_b (rfl : true = true) (ob_b (rfl : true = true) (ob_b (rfl : true = true) (ob_b (rfl : true = true) (ob_b (rfl : true = true) (ob_b (rfl : true = true) (ob_b (rfl : true = true) (ob_b (rfl : true = true) (ob_b (rfl : true = true) (ob_b (rfl : true = true) ob))))))))))))))))))))))))))) (by kernel_rfl)
    · rw [if_neg h3] at h
      replace h3 := Bool.eq_false_iff.2 h3
      by_cases h4 : (decide ((a2.length : Int) > a6)) = true
      · rw [if_pos h4] at h
        rw [← Option.some.inj h]
        exact run_path Tryd.func82 (ob_c (ht.pred_arity _ _ h1) (ob_b h2 (ob_b h2 (ob_b h2 (ob_v (len_ts GValue.ts_map (l := a2)) (ob_b h2 (ob_b h2 (ob_b h2 (ob_b h3 (ob_b h3 (ob_b h3 (ob_v (len_ts GValue.ts_map (l := a2)) (ob_b h3 (ob_b h3 (ob_b h3 (ob_b h4 (ob_b h4 (ob_b h4 (ob_b h4 (ob_b h4 (ob_b h4 (ob_b (rfl : true = true) (ob_b (rfl : true = true) (ob_b (rfl : true = true) (ob_b (rfl : true = true) (ob_b (rfl : true = true) (ob_b (rfl : true = true) (ob_b (rfl : true = true) ob)))))))))))))))))))))))))))) (by kernel_rfl)
      · rw [if_neg h4] at h
        replace h4 := Bool.eq_false_iff.2 h4
        by_cases h5 : (decide ((a3.length : Int) < a7)) = true
        · rw [if_pos h5] at h
          rw [← Option.some.inj h]
          exact run_path Tryd.func82 (ob_c (ht.pred_arity _ _ h1) (ob_b h2 (ob_b h2 (ob_b h2 (ob_v (len_ts GValue.ts_map (l := a2)) (ob_b h2 (ob_b h2 (ob_b h2 (ob_b h3 (ob_b h3 (ob_b h3 (ob_v (len_ts GValue.ts_map (l := a2)) (ob_b h3 (ob_b h3 (ob_b h3 (ob_b h4 (ob_b h4 (ob_b h4 (ob_v (len_ts GPred.ts_map (l := a3)) (ob_b h4 (ob_b h4 (ob_b h4 (ob_b h5 (ob_b h5 (ob_b h5 (ob_b h5 (ob_b h5 (ob_b h5 (ob_b (rfl : true = true) ob))))))))))))))))))))))))))))) (by kernel_rfl)
        · rw [if_neg h5] at h
          replace h5 := Bool.eq_false_iff.2 h5
          by_cases h6 : (decide ((a3.length : Int) > a8)) = true
          · rw [if_pos h6] at h
            rw [← Option.some.inj h]
            exact run_path Tryd.func82 (ob_c (ht.pred_arity _ _ h1) (ob_b h2 (ob_b h2 (ob_b h2 (ob_v (len_ts GValue.ts_map (l := a2)) (ob_b h2 (ob_b h2 (ob_b h2 (ob_b h3 (ob_b h3 (ob_b h3 (ob_v (len_ts GValue.ts_map (l := a2)) (ob_b h3 (ob_b h3 (ob_b h3 (ob_b h4 (ob_b h4 (ob_b h4 (ob_v (len_ts GPred.ts_map (l := a3)) (ob_b h4 (ob_b h4 (ob_b h4 (ob_b h5 (ob_b h5 (ob_b h5 (ob_v (len_ts GPred.ts_map (l := a3)) (ob_b h5 (ob_b h5 (ob_b h5 (ob_b h6 ob)))))))))))))))))))))))))))))) (by kernel_rfl)
          · rw [if_neg h6] at h
            replace h6 := Bool.eq_false_iff.2 h6
            obtain ⟨a9, rfl⟩ : ∃ z_, z_ = r := ⟨_, rfl⟩
            have h7 := h
            exact run_path Tryd.func82 (ob_c (ht.pred_arity _ _ h1) (ob_b h2 (ob_b h2 (ob_b h2 (ob_v (len_ts GValue.ts_map (l := a2)) (ob_b h2 (ob_b h2 (ob_b h2 (ob_b h3 (ob_b h3 (ob_b h3 (ob_v (len_ts GValue.ts_map (l := a2)) (ob_b h3 (ob_b h3 (ob_b h3 (ob_b h4 (ob_b h4 (ob_b h4 (ob_v (len_ts GPred.ts_map (l := a3)) (ob_b h4 (ob_b h4 (ob_b h4 (ob_b h5 (ob_b h5 (ob_b h5 (ob_v (len_ts GPred.ts_map (l := a3)) (ob_b h5 (ob_b h5 (ob_b h5 (ob_b h6 (ob_j (pred_right_j1.ok ht n _ _ _ _ _ h7) ob))))))))))))))))))))))))))))))) (by kernel_rfl)
theorem slices_Contains_string.ok {n : Nat} {t : Tab} (ht : TabOk t (run Tryd.prog own kp X n)) : ∀ (p1 : List ByteArray) (p2 : ByteArray) r, slices_Contains_string t n p1 p2 = some r → run Tryd.prog own kp X (n + 1) 83 [(.t (.sl false 1 (texts p1))), (.t (.v (.string p2)))] [] = some ((.t (.v (.bool r))), []) := by
  intro p1 p2 r h
  obtain ⟨a1, rfl⟩ : ∃ z_, z_ = p1 := ⟨_, rfl⟩
  obtain ⟨a2, rfl⟩ : ∃ z_, z_ = p2 := ⟨_, rfl⟩
  rw [slices_Contains_string] at h
  rcases h1 : t.slices_Index_string a1 a2 with _ | a3
  · rw [h1] at h; cases h
  rw [h1] at h
  dsimp only at h
  rw [← Option.some.inj h]
  exact run_path Tryd.func83 (ob_c (ht.slices_Index_string _ _ _ h1) ob) (by kernel_rfl)
theorem slices_ContainsFunc_plan_numbers_1.ok {n : Nat} {t : Tab} (ht : TabOk t (run Tryd.prog own kp X n)) : ∀ (p1 : List Int) r, slices_ContainsFunc_plan_numbers_1 t n p1 = some r → run Tryd.prog own kp X (n + 1) 79 [(.t (.sl false 1 (ints_i64 p1))), (.fn 80 [])] [] = some ((.t (.v (.bool r))), []) := by
  intro p1 r h
  obtain ⟨a1, rfl⟩ : ∃ z_, z_ = p1 := ⟨_, rfl⟩
  rw [slices_ContainsFunc_plan_numbers_1] at h
  rcases h1 : t.slices_IndexFunc_plan_numbers_1 a1 with _ | a2
  · rw [h1] at h; cases h
  rw [h1] at h
  dsimp only at h
  rw [← Option.some.inj h]
  exact run_path Tryd.func79 (ob_c (ht.slices_IndexFunc_plan_numbers_1 _ _ h1) ob) (by kernel_rfl)
theorem graph_Name_l1.okL (ht : TabOk t call) (n : Nat) : ∀ (k : Nat) (a1 : ByteArray) (a2 a3 : Int) (r : _), graph_Name_l1 t n k a1 a2 a3 = some r → loopN (exec (env Tryd.prog 65 Tryd.f65 call) n (sub [1, 0, 1, 0, 0] (bodyOf Tryd.f65))) k (mkSt 24 24 [(0, (.t (.v (.string a1)))), (5, (.t (.v (.int .i64 a2)))), (6, (.t (.v (.int .i64 a3))))] []) = some (graph_Name_l1.to r)
  | 0, a1, a2, a3, r, h => by rw [graph_Name_l1] at h; cases h
  | k + 1, a1, a2, a3, r, h => by
    rw [graph_Name_l1] at h
    by_cases h1 : (decide (a3 < a2)) = true
    · rw [if_pos h1] at h
      rcases h2 : strAt a1 a3 with _ | a4
      · rw [h2] at h; cases h
      rw [h2] at h
      dsimp only at h
      rcases h3 : t.graph_sign a4 (a3 == 0) with _ | a5
      · rw [h3] at h; cases h
      rw [h3] at h
      dsimp only at h
      by_cases h4 : a5 = true
      · rw [if_pos h4] at h
        exact loop_more (path (ob_b h1 (ob_v (at_ok (P := Tryd.prog) (t := 9) (k := .i64) (by kernel_rfl) h2) (ob_c (ht.graph_sign _ _ _ h3) (ob_b (congrArg (!·) h4) ob)))) (by kernel_rfl)) (graph_Name_l1.okL ht n k _ _ _ _ h)
      · rw [if_neg h4] at h
        replace h4 := Bool.eq_false_iff.2 h4
        rw [← Option.some.inj h]
        exact loop_out (path (ob_b h1 (ob_v (at_ok (P := Tryd.prog) (t := 9) (k := .i64) (by kernel_rfl) h2) (ob_c (ht.graph_sign _ _ _ h3) (ob_b (congrArg (!·) h4) ob)))) (by kernel_rfl)) (fun h => by cases h)
    · rw [if_neg h1] at h
      replace h1 := Bool.eq_false_iff.2 h1
      rw [← Option.some.inj h]
      exact loop_out (path (ob_b h1 ob) (by kernel_rfl)) (fun h => by cases h)
theorem graph_Name_l1.ok (ht : TabOk t call) (n : Nat) (a1 : ByteArray) (a2 a3 : Int) (r : _) (h : graph_Name_l1 t n n a1 a2 a3 = some r) : exec (env Tryd.prog 65 Tryd.f65 call) n (sub [1, 0, 1, 0] (bodyOf Tryd.f65)) (mkSt 24 24 [(0, (.t (.v (.string a1)))), (5, (.t (.v (.int .i64 a2)))), (6, (.t (.v (.int .i64 a3))))] []) = some (graph_Name_l1.to r) := by
  have e1 : sub [1, 0, 1, 0] (bodyOf Tryd.f65) = .loop (sub [1, 0, 1, 0, 0] (bodyOf Tryd.f65)) := by kernel_rfl
  rw [e1, exec]
  exact graph_Name_l1.okL ht n n a1 a2 a3 r h
theorem graph_Name_j2.ok (ht : TabOk t call) (n : Nat) (a1 : ByteArray) (r : _) (h : graph_Name_j2 t n a1 = some r) : exec (env Tryd.prog 65 Tryd.f65 call) n (sub [1, 1] (bodyOf Tryd.f65)) (mkSt 24 24 [(0, (.t (.v (.string a1))))] []) = some (graph_Name_j2.to r) := by
  rw [graph_Name_j2] at h
  by_cases h1 : (a1.toList == (ByteArray.mk #[]).toList) = true
  · rw [if_pos h1] at h
    rw [← Option.some.inj h]
    exact path (ob_b (congrArg (!·) h1) (ob_b (congrArg (!·) h1) (ob_b (congrArg (!·) h1) (ob_b (congrArg (!·) h1) ob)))) (by kernel_rfl)
  · rw [if_neg h1] at h
    replace h1 := Bool.eq_false_iff.2 h1
    rw [← Option.some.inj h]
    exact path (ob_b (congrArg (!·) h1) (ob_b (congrArg (!·) h1) (ob_b (congrArg (!·) h1) (ob_b (congrArg (!·) h1) ob)))) (by kernel_rfl)
theorem graph_Name.ok {n : Nat} {t : Tab} (ht : TabOk t (run Tryd.prog own kp X n)) : ∀ (p1 : ByteArray) r, graph_Name t n p1 = some r → run Tryd.prog own kp X (n + 1) 65 [(.t (.v (.string p1)))] [] = some ((.t (.v (.bool r))), []) := by
  intro p1 r h
  obtain ⟨a1, rfl⟩ : ∃ z_, z_ = p1 := ⟨_, rfl⟩
  rw [graph_Name] at h
  rcases h1 : graph_Name_l1 t n n a1 (a1.size : Int) 0 with _ | q_
  · rw [h1] at h; cases h
  rw [h1] at h
  rcases q_ with a2 | ⟨a3, a4, a5, a6⟩
  · dsimp only at h
    rw [← Option.some.inj h]
    exact run_path Tryd.func65 (ob_k (graph_Name_l1.ok ht n _ _ _ _ h1) ob) (by kernel_rfl)
  · dsimp only at h
    obtain ⟨a7, rfl⟩ : ∃ z_, z_ = r := ⟨_, rfl⟩
    have h2 := h
    exact run_path Tryd.func65 (ob_k (graph_Name_l1.ok ht n _ _ _ _ h1) (ob_j (graph_Name_j2.ok ht n _ _ h2) ob)) (by kernel_rfl)
theorem slices_Index_int_l1.okL (ht : TabOk t call) (n : Nat) : ∀ (k : Nat) (a1 : List Int) (a2 a3 a4 : Int) (r : _), slices_Index_int_l1 t n k a1 a2 a3 a4 = some r → loopN (exec (env Tryd.prog 48 Tryd.f48 call) n (sub [1, 0, 1, 0, 0] (bodyOf Tryd.f48))) k (mkSt 19 19 [(0, (.t (.sl false 1 (ints_i64 a1)))), (1, (.t (.v (.int .i64 a2)))), (7, (.t (.v (.int .i64 a3)))), (8, (.t (.v (.int .i64 a4))))] []) = some (slices_Index_int_l1.to r)
  | 0, a1, a2, a3, a4, r, h => by rw [slices_Index_int_l1] at h; cases h
  | k + 1, a1, a2, a3, a4, r, h => by
    rw [slices_Index_int_l1] at h
    by_cases h1 : (decide (a4 < a3)) = true
    · rw [if_pos h1] at h
      by_cases h2 : (decide (0 ≤ (a4 : Int))) = true
      case neg => rw [if_neg h2] at h; cases h
      rw [if_pos h2] at h
      rcases h3 : a1[(a4 : Int).toNat]? with _ | a5
      · rw [h3] at h; cases h
      rw [h3] at h
      dsimp only at h
      by_cases h4 : (a2 == a5) = true
      · rw [if_pos h4] at h
        rw [← Option.some.inj h]
        exact loop_out (path (ob_b h1 (ob_n h2 (ob_t (look_ts ints_i64_map h3) (ob_b h4 ob)))) (by kernel_rfl)) (fun h => by cases h)
      · rw [if_neg h4] at h
        replace h4 := Bool.eq_false_iff.2 h4
        exact loop_more (path (ob_b h1 (ob_n h2 (ob_t (look_ts ints_i64_map h3) (ob_b h4 ob)))) (by kernel_rfl)) (slices_Index_int_l1.okL ht n k _ _ _ _ _ h)
    · rw [if_neg h1] at h
      replace h1 := Bool.eq_false_iff.2 h1
      rw [← Option.some.inj h]
      exact loop_out (path (ob_b h1 ob) (by kernel_rfl)) (fun h => by cases h)
theorem slices_Index_int_l1.ok (ht : TabOk t call) (n : Nat) (a1 : List Int) (a2 a3 a4 : Int) (r : _) (h : slices_Index_int_l1 t n n a1 a2 a3 a4 = some r) : exec (env Tryd.prog 48 Tryd.f48 call) n (sub [1, 0, 1, 0] (bodyOf Tryd.f48)) (mkSt 19 19 [(0, (.t (.sl false 1 (ints_i64 a1)))), (1, (.t (.v (.int .i64 a2)))), (7, (.t (.v (.int .i64 a3)))), (8, (.t (.v (.int .i64 a4))))] []) = some (slices_Index_int_l1.to r) := by
  have e1 : sub [1, 0, 1, 0] (bodyOf Tryd.f48) = .loop (sub [1, 0, 1, 0, 0] (bodyOf Tryd.f48)) := by kernel_rfl
  rw [e1, exec]
  exact slices_Index_int_l1.okL ht n n a1 a2 a3 a4 r h
theorem slices_Index_int.ok {n : Nat} {t : Tab} (ht : TabOk t (run Tryd.prog own kp X n)) : ∀ (p1 : List Int) (p2 : Int) r, slices_Index_int t n p1 p2 = some r → run Tryd.prog own kp X (n + 1) 48 [(.t (.sl false 1 (ints_i64 p1))), (.t (.v (.int .i64 p2)))] [] = some ((.t (.v (.int .i64 r))), []) := by
  intro p1 p2 r h
  obtain ⟨a1, rfl⟩ : ∃ z_, z_ = p1 := ⟨_, rfl⟩
  obtain ⟨a2, rfl⟩ : ∃ z_, z_ = p2 := ⟨_, rfl⟩
  rw [slices_Index_int] at h
  rcases h1 : slices_Index_int_l1 t n n a1 a2 (a1.length : Int) 0 with _ | q_
  · rw [h1] at h; cases h
  rw [h1] at h
  rcases q_ with a3 | ⟨a4, a5, a6, a7, a8⟩
  · dsimp only at h
    rw [← Option.some.inj h]
    exact run_path Tryd.func48 (ob_v (len_ts ints_i64_map (l := a1)) (ob_k (slices_Index_int_l1.ok ht n _ _ _ _ _ h1) ob)) (by kernel_rfl)
  · dsimp only at h
    rw [← Option.some.inj h]
    exact run_path Tryd.func48 (ob_v (len_ts ints_i64_map (l := a1)) (ob_k (slices_Index_int_l1.ok ht n _ _ _ _ _ h1) ob)) (by kernel_rfl)
theorem plan_some_1_1_plan_Uses_1.ok {n : Nat} {t : Tab} (ht : TabOk t (run Tryd.prog own kp X n)) : ∀ (p1 : List GStep) (p2 : List Int) r, plan_some_1_1_plan_Uses_1 t n p1 p2 = some r → run Tryd.prog own kp X (n + 1) 47 [(.t (.sl false 14 (GStep.ts p1))), (.fref 22 [(.ref (.sl false 1 (ints_i64 p2)))])] [] = some ((.t (.v (.bool r))), []) := by
  intro p1 p2 r h
  obtain ⟨a1, rfl⟩ : ∃ z_, z_ = p1 := ⟨_, rfl⟩
  obtain ⟨a2, rfl⟩ : ∃ z_, z_ = p2 := ⟨_, rfl⟩
  rw [plan_some_1_1_plan_Uses_1] at h
  obtain ⟨a3, rfl⟩ : ∃ z_, z_ = r := ⟨_, rfl⟩
  have h1 := h
  exact run_path Tryd.func47 (ob_c (ht.plan_plan_Uses_1 _ _ _ h1) ob) (by kernel_rfl)
theorem plan_some_1_1_plan_Free_1.ok {n : Nat} {t : Tab} (ht : TabOk t (run Tryd.prog own kp X n)) : ∀ (p1 : List GStep) r, plan_some_1_1_plan_Free_1 t n p1 = some r → run Tryd.prog own kp X (n + 1) 47 [(.t (.sl false 14 (GStep.ts p1))), (.fref 28 [])] [] = some ((.t (.v (.bool r))), []) := by
  intro p1 r h
  obtain ⟨a1, rfl⟩ : ∃ z_, z_ = p1 := ⟨_, rfl⟩
  rw [plan_some_1_1_plan_Free_1] at h
  obtain ⟨a2, rfl⟩ : ∃ z_, z_ = r := ⟨_, rfl⟩
  have h1 := h
  exact run_path Tryd.func47 (ob_c (ht.plan_plan_Free_1 _ _ h1) ob) (by kernel_rfl)
theorem cmp_isNaN_int.ok {n : Nat} {t : Tab} (ht : TabOk t (run Tryd.prog own kp X n)) : ∀ (p1 : Int) r, cmp_isNaN_int t n p1 = some r → run Tryd.prog own kp X (n + 1) 98 [(.t (.v (.int .i64 p1)))] [] = some ((.t (.v (.bool r))), []) := by
  intro p1 r h
  obtain ⟨a1, rfl⟩ : ∃ z_, z_ = p1 := ⟨_, rfl⟩
  rw [cmp_isNaN_int] at h
  rw [← Option.some.inj h]
  exact run_path Tryd.func98 ob (by kernel_rfl)
theorem value_compare_1.ok {n : Nat} {t : Tab} (ht : TabOk t (run Tryd.prog own kp X n)) : ∀ (p1 : GValue) (p2 : GValue) (p3 : Int) r, value_compare_1 t n p1 p2 p3 = some r → run Tryd.prog own kp X (n + 1) 87 [(.t (GValue.t p1)), (.t (GValue.t p2)), (.ref (.v (.int .i64 p3)))] [] = some ((.t (.v (.int .i64 r))), []) := by
  intro p1 p2 p3 r h
  obtain ⟨a1, a2, a3, a4, a5⟩ := p1
  obtain ⟨a6, a7, a8, a9, a10⟩ := p2
  obtain ⟨a11, rfl⟩ : ∃ z_, z_ = p3 := ⟨_, rfl⟩
  rw [value_compare_1] at h
  obtain ⟨a12, rfl⟩ : ∃ z_, z_ = r := ⟨_, rfl⟩
  have h1 := h
  exact run_path Tryd.func87 (ob_c (ht.value_compare _ _ _ _ h1) ob) (by kernel_rfl)
theorem plan_step_1.ok {n : Nat} {t : Tab} (ht : TabOk t (run Tryd.prog own kp X n)) : ∀ (p1 : ByteArray) r, plan_step_1 t n p1 = some r → run Tryd.prog own kp X (n + 1) 64 [(.t (.v (.string p1)))] [] = some ((.t (.v (.bool r))), []) := by
  intro p1 r h
  obtain ⟨a1, rfl⟩ : ∃ z_, z_ = p1 := ⟨_, rfl⟩
  rw [plan_step_1] at h
  rcases h1 : t.graph_Name a1 with _ | a2
  · rw [h1] at h; cases h
  rw [h1] at h
  dsimp only at h
  rw [← Option.some.inj h]
  exact run_path Tryd.func64 (ob_c (ht.graph_Name _ _ h1) ob) (by kernel_rfl)
theorem slices_Concat_Value_l1.okL (ht : TabOk t call) (n : Nat) : ∀ (k : Nat) (a1 : List (List GValue)) (a2 : Int) (a3 : List (List GValue)) (a4 a5 : Int) (r : _), slices_Concat_Value_l1 t n k a1 a2 a3 a4 a5 = some r → loopN (exec (env Tryd.prog 91 Tryd.f91 call) n (sub [1, 1, 0, 1, 0, 0] (bodyOf Tryd.f91))) k (mkSt 36 36 [(0, (.t (.sl false 1 (rows_GValue_ts a1)))), (3, (.t (.v (.int .i64 a2)))), (9, (.t (.sl false 1 (rows_GValue_ts a3)))), (10, (.t (.v (.int .i64 a4)))), (11, (.t (.v (.int .i64 a5))))] []) = some (slices_Concat_Value_l1.to r)
  | 0, a1, a2, a3, a4, a5, r, h => by rw [slices_Concat_Value_l1] at h; cases h
  | k + 1, a1, a2, a3, a4, a5, r, h => by
    rw [slices_Concat_Value_l1] at h
    by_cases h1 : (decide (a5 < a4)) = true
    · rw [if_pos h1] at h
      by_cases h2 : (decide (0 ≤ (a5 : Int))) = true
      case neg => rw [if_neg h2] at h; cases h
      rw [if_pos h2] at h
      rcases h3 : a3[(a5 : Int).toNat]? with _ | a6
      · rw [h3] at h; cases h
      rw [h3] at h
      dsimp only at h
      by_cases h4 : (decide ((IntKind.wrap .i64 (a2 + (a6.length : Int))) < 0)) = true
      · rw [if_pos h4] at h
        cases h
      · rw [if_neg h4] at h
        replace h4 := Bool.eq_false_iff.2 h4
        exact loop_more (path (ob_b h1 (ob_n h2 (ob_t (look_ts rows_GValue_ts_map h3) (ob_v (len_ts GValue.ts_map (l := a6)) (ob_b h4 ob))))) (by kernel_rfl)) (slices_Concat_Value_l1.okL ht n k _ _ _ _ _ _ h)
    · rw [if_neg h1] at h
      replace h1 := Bool.eq_false_iff.2 h1
      rw [← Option.some.inj h]
      exact loop_out (path (ob_b h1 ob) (by kernel_rfl)) (fun h => by cases h)
theorem slices_Concat_Value_l1.ok (ht : TabOk t call) (n : Nat) (a1 : List (List GValue)) (a2 : Int) (a3 : List (List GValue)) (a4 a5 : Int) (r : _) (h : slices_Concat_Value_l1 t n n a1 a2 a3 a4 a5 = some r) : exec (env Tryd.prog 91 Tryd.f91 call) n (sub [1, 1, 0, 1, 0] (bodyOf Tryd.f91)) (mkSt 36 36 [(0, (.t (.sl false 1 (rows_GValue_ts a1)))), (3, (.t (.v (.int .i64 a2)))), (9, (.t (.sl false 1 (rows_GValue_ts a3)))), (10, (.t (.v (.int .i64 a4)))), (11, (.t (.v (.int .i64 a5))))] []) = some (slices_Concat_Value_l1.to r) := by
  have e1 : sub [1, 1, 0, 1, 0] (bodyOf Tryd.f91) = .loop (sub [1, 1, 0, 1, 0, 0] (bodyOf Tryd.f91)) := by kernel_rfl
  rw [e1, exec]
  exact slices_Concat_Value_l1.okL ht n n a1 a2 a3 a4 a5 r h
theorem slices_Concat_Value_l3.okL (ht : TabOk t call) (n : Nat) : ∀ (k : Nat) (a1 : List GValue) (a2 : List (List GValue)) (a3 a4 : Int) (r : _), slices_Concat_Value_l3 t n k a1 a2 a3 a4 = some r → loopN (exec (env Tryd.prog 91 Tryd.f91 call) n (sub [1, 1, 1, 1, 0, 1, 0, 0] (bodyOf Tryd.f91))) k (mkSt 36 36 [(6, (.t (.sl true 5 (GValue.ts a1)))), (25, (.t (.sl false 1 (rows_GValue_ts a2)))), (26, (.t (.v (.int .i64 a3)))), (27, (.t (.v (.int .i64 a4))))] []) = some (slices_Concat_Value_l3.to r)
  | 0, a1, a2, a3, a4, r, h => by rw [slices_Concat_Value_l3] at h; cases h
  | k + 1, a1, a2, a3, a4, r, h => by
    rw [slices_Concat_Value_l3] at h
    by_cases h1 : (decide (a4 < a3)) = true
    · rw [if_pos h1] at h
      by_cases h2 : (decide (0 ≤ (a4 : Int))) = true
      case neg => rw [if_neg h2] at h; cases h
      rw [if_pos h2] at h
      rcases h3 : a2[(a4 : Int).toNat]? with _ | a5
      · rw [h3] at h; cases h
      rw [h3] at h
      dsimp only at h
      by_cases h4 : (a1.length + a5.length) * 80 ≤ 140737488355328
      case neg => rw [if_neg h4] at h; cases h
      rw [if_pos h4] at h
      exact loop_more (path (ob_b h1 (ob_n h2 (ob_t (look_ts rows_GValue_ts_map h3) (ob_le (room_ts GValue.ts_map h4) (ob_l (app_ts GValue.ts_map (a := a1) (b := a5)) ob))))) (by kernel_rfl)) (slices_Concat_Value_l3.okL ht n k _ _ _ _ _ h)
    · rw [if_neg h1] at h
      replace h1 := Bool.eq_false_iff.2 h1
      rw [← Option.some.inj h]
      exact loop_out (path (ob_b h1 ob) (by kernel_rfl)) (fun h => by cases h)
theorem slices_Concat_Value_l3.ok (ht : TabOk t call) (n : Nat) (a1 : List GValue) (a2 : List (List GValue)) (a3 a4 : Int) (r : _) (h : slices_Concat_Value_l3 t n n a1 a2 a3 a4 = some r) : exec (env Tryd.prog 91 Tryd.f91 call) n (sub [1, 1, 1, 1, 0, 1, 0] (bodyOf Tryd.f91)) (mkSt 36 36 [(6, (.t (.sl true 5 (GValue.ts a1)))), (25, (.t (.sl false 1 (rows_GValue_ts a2)))), (26, (.t (.v (.int .i64 a3)))), (27, (.t (.v (.int .i64 a4))))] []) = some (slices_Concat_Value_l3.to r) := by
  have e1 : sub [1, 1, 1, 1, 0, 1, 0] (bodyOf Tryd.f91) = .loop (sub [1, 1, 1, 1, 0, 1, 0, 0] (bodyOf Tryd.f91)) := by kernel_rfl
  rw [e1, exec]
  exact slices_Concat_Value_l3.okL ht n n a1 a2 a3 a4 r h
theorem slices_Concat_Value_j2.ok (ht : TabOk t call) (n : Nat) (a1 : List (List GValue)) (a2 : Int) (r : _) (h : slices_Concat_Value_j2 t n a1 a2 = some r) : exec (env Tryd.prog 91 Tryd.f91 call) n (sub [1, 1, 1] (bodyOf Tryd.f91)) (mkSt 36 36 [(0, (.t (.sl false 1 (rows_GValue_ts a1)))), (3, (.t (.v (.int .i64 a2))))] []) = some (slices_Concat_Value_j2.to r) := by
  rw [slices_Concat_Value_j2] at h
  rcases h1 : t.slices_Grow_Value ([] : List GValue) a2 with _ | a3
  · rw [h1] at h; cases h
  rw [h1] at h
  dsimp only at h
  rcases h2 : slices_Concat_Value_l3 t n n a3 a1 (a1.length : Int) 0 with _ | q_
  · rw [h2] at h; cases h
  rw [h2] at h
  obtain ⟨a4, a5, a6, a7, a8⟩ := q_
  dsimp only at h
  rw [← Option.some.inj h]
  exact path (ob_c (ht.slices_Grow_Value _ _ _ h1) (ob_v (len_ts rows_GValue_ts_map (l := a1)) (ob_k (slices_Concat_Value_l3.ok ht n _ _ _ _ _ h2) ob))) (by kernel_rfl)
theorem slices_Concat_Value.ok {n : Nat} {t : Tab} (ht : TabOk t (run Tryd.prog own kp X n)) : ∀ (p1 : List (List GValue)) r, slices_Concat_Value t n p1 = some r → run Tryd.prog own kp X (n + 1) 91 [(.t (.sl false 1 (rows_GValue_ts p1)))] [] = some ((.t (.sl false 5 (GValue.ts r))), []) := by
  intro p1 r h
  obtain ⟨a1, rfl⟩ : ∃ z_, z_ = p1 := ⟨_, rfl⟩
  rw [slices_Concat_Value] at h
  rcases h1 : slices_Concat_Value_l1 t n n a1 0 a1 (a1.length : Int) 0 with _ | q_
  · rw [h1] at h; cases h
  rw [h1] at h
  obtain ⟨a2, a3, a4, a5, a6, a7⟩ := q_
  dsimp only at h
  obtain ⟨a8, rfl⟩ : ∃ z_, z_ = r := ⟨_, rfl⟩
  have h2 := h
  exact run_path Tryd.func91 (ob_v (len_ts rows_GValue_ts_map (l := a1)) (ob_k (slices_Concat_Value_l1.ok ht n _ _ _ _ _ _ h1) (ob_j (slices_Concat_Value_j2.ok ht n _ _ _ h2) ob))) (by kernel_rfl)
theorem pred_arity_j3.ok (ht : TabOk t call) (n : Nat) (a1 : Int) (a2 : Bool) (r : _) (h : pred_arity_j3 t n a1 a2 = some r) : exec (env Tryd.prog 92 Tryd.f92 call) n (sub [1, 0, 0, 1, 1, 1, 1, 1] (bodyOf Tryd.f92)) (mkSt 37 37 [(0, (.t (.v (.int .i64 a1)))), (20, (.t (.v (.bool a2))))] []) = some (pred_arity_j3.to r) := by
  rw [pred_arity_j3] at h
  by_cases h1 : a2 = true
  · rw [if_pos h1] at h
    rw [← Option.some.inj h]
    exact path (ob_b h1 ob) (by kernel_rfl)
  · rw [if_neg h1] at h
    replace h1 := Bool.eq_false_iff.2 h1
    by_cases h2 : (a1 == 12) = true
    · rw [if_pos h2] at h
      rw [← Option.some.inj h]
      exact path (ob_b h1 (ob_b h2 ob)) (by kernel_rfl)
    · rw [if_neg h2] at h
      replace h2 := Bool.eq_false_iff.2 h2
      by_cases h3 : (a1 == 13) = true
      · rw [if_pos h3] at h
        rw [← Option.some.inj h]
        exact path (ob_b h1 (ob_b h2 (ob_b h3 (ob_b h3 (ob_b h3 (ob_b (rfl : true = true) ob)))))) (by kernel_rfl)
      · rw [if_neg h3] at h
        replace h3 := Bool.eq_false_iff.2 h3
        by_cases h4 : (a1 == 14) = true
        · rw [if_pos h4] at h
          rw [← Option.some.inj h]
          exact path (ob_b h1 (ob_b h2 (ob_b h3 (ob_b h3 (ob_b h3 (ob_b h4 ob)))))) (by kernel_rfl)
        · rw [if_neg h4] at h
          replace h4 := Bool.eq_false_iff.2 h4
          rw [← Option.some.inj h]
          exact path (ob_b h1 (ob_b h2 (ob_b h3 (ob_b h3 (ob_b h3 (ob_b h4 ob)))))) (by kernel_rfl)
theorem pred_arity_j2.ok (ht : TabOk t call) (n : Nat) (a1 : Int) (a2 : Bool) (r : _) (h : pred_arity_j2 t n a1 a2 = some r) : exec (env Tryd.prog 92 Tryd.f92 call) n (sub [1, 0, 0, 1, 1, 1] (bodyOf Tryd.f92)) (mkSt 37 37 [(0, (.t (.v (.int .i64 a1)))), (13, (.t (.v (.bool a2))))] []) = some (pred_arity_j2.to r) := by
  rw [pred_arity_j2] at h
  by_cases h1 : a2 = true
  · rw [if_pos h1] at h
    rw [← Option.some.inj h]
    exact path (ob_b h1 ob) (by kernel_rfl)
  · rw [if_neg h1] at h
    replace h1 := Bool.eq_false_iff.2 h1
    by_cases h2 : (a1 == 10) = true
    · rw [if_pos h2] at h
      have h3 := h
      rcases r with ⟨a3, a4, a5, a6⟩ | _
      · exact path (ob_b h1 (ob_b h2 (ob_b h2 (ob_b h2 (ob_j (pred_arity_j3.ok ht n _ _ _ h3) ob))))) (by kernel_rfl)
      · exact path (ob_b h1 (ob_b h2 (ob_b h2 (ob_b h2 (ob_j (pred_arity_j3.ok ht n _ _ _ h3) ob))))) (by kernel_rfl)
    · rw [if_neg h2] at h
      replace h2 := Bool.eq_false_iff.2 h2
      have h4 := h
      rcases r with ⟨a7, a8, a9, a10⟩ | _
      · exact path (ob_b h1 (ob_b h2 (ob_b h2 (ob_b h2 (ob_j (pred_arity_j3.ok ht n _ _ _ h4) ob))))) (by kernel_rfl)
      · exact path (ob_b h1 (ob_b h2 (ob_b h2 (ob_b h2 (ob_j (pred_arity_j3.ok ht n _ _ _ h4) ob))))) (by kernel_rfl)
theorem pred_arity_j1.ok (ht : TabOk t call) (n : Nat) (a1 : Int) (a2 : Bool) (r : _) (h : pred_arity_j1 t n a1 a2 = some r) : exec (env Tryd.prog 92 Tryd.f92 call) n (sub [1, 0, 0, 1] (bodyOf Tryd.f92)) (mkSt 37 37 [(0, (.t (.v (.int .i64 a1)))), (6, (.t (.v (.bool a2))))] []) = some (pred_arity_j1.to r) := by
  rw [pred_arity_j1] at h
  by_cases h1 : a2 = true
  · rw [if_pos h1] at h
    rw [← Option.some.inj h]
    exact path (ob_b h1 ob) (by kernel_rfl)
  · rw [if_neg h1] at h
    replace h1 := Bool.eq_false_iff.2 h1
    by_cases h2 : (decide (a1 ≥ 7)) = true
    · rw [if_pos h2] at h
      have h3 := h
      rcases r with ⟨a3, a4, a5, a6⟩ | _
      · exact path (ob_b h1 (ob_b h2 (ob_b h2 (ob_b h2 (ob_j (pred_arity_j2.ok ht n _ _ _ h3) ob))))) (by kernel_rfl)
      · exact path (ob_b h1 (ob_b h2 (ob_b h2 (ob_b h2 (ob_j (pred_arity_j2.ok ht n _ _ _ h3) ob))))) (by kernel_rfl)
    · rw [if_neg h2] at h
      replace h2 := Bool.eq_false_iff.2 h2
      have h4 := h
      rcases r with ⟨a7, a8, a9, a10⟩ | _
      · exact path (ob_b h1 (ob_b h2 (ob_b h2 (ob_b h2 (ob_j (pred_arity_j2.ok ht n _ _ _ h4) ob))))) (by kernel_rfl)
      · exact path (ob_b h1 (ob_b h2 (ob_b h2 (ob_b h2 (ob_j (pred_arity_j2.ok ht n _ _ _ h4) ob))))) (by kernel_rfl)
theorem pred_arity.ok {n : Nat} {t : Tab} (ht : TabOk t (run Tryd.prog own kp X n)) : ∀ (p1 : Int) r, pred_arity t n p1 = some r → run Tryd.prog own kp X (n + 1) 92 [(.t (.v (.int .i64 p1)))] [] = some ((.tup [(.v (.int .i64 r.1)), (.v (.int .i64 r.2.1)), (.v (.int .i64 r.2.2.1)), (.v (.int .i64 r.2.2.2))]), []) := by
  intro p1 r h
  obtain ⟨a1, rfl⟩ : ∃ z_, z_ = p1 := ⟨_, rfl⟩
  rw [pred_arity] at h
  by_cases h1 : (decide (a1 ≥ 1)) = true
  · rw [if_pos h1] at h
    rcases h2 : pred_arity_j1 t n  a1 (decide (a1 ≤ 6)) with _ | q_
    · rw [h2] at h; cases h
    rw [h2] at h
    rcases q_ with ⟨a2, a3, a4, a5⟩ | _
    · dsimp only at h
      rw [← Option.some.inj h]
      exact run_path Tryd.func92 (ob_b h1 (ob_b h1 (ob_b h1 (ob_j (pred_arity_j1.ok ht n _ _ _ h2) ob)))) (by kernel_rfl)
    · dsimp only at h
      rw [← Option.some.inj h]
      exact run_path Tryd.func92 (ob_b h1 (ob_b h1 (ob_b h1 (ob_j (pred_arity_j1.ok ht n _ _ _ h2) ob)))) (by kernel_rfl)
  · rw [if_neg h1] at h
    replace h1 := Bool.eq_false_iff.2 h1
    rcases h3 : pred_arity_j1 t n  a1 false with _ | q_
    · rw [h3] at h; cases h
    rw [h3] at h
    rcases q_ with ⟨a6, a7, a8, a9⟩ | _
    · dsimp only at h
      rw [← Option.some.inj h]
      exact run_path Tryd.func92 (ob_b h1 (ob_b h1 (ob_b h1 (ob_j (pred_arity_j1.ok ht n _ _ _ h3) ob)))) (by kernel_rfl)
    · dsimp only at h
      rw [← Option.some.inj h]
      exact run_path Tryd.func92 (ob_b h1 (ob_b h1 (ob_b h1 (ob_j (pred_arity_j1.ok ht n _ _ _ h3) ob)))) (by kernel_rfl)
theorem slices_ContainsFunc_pred_right_1.ok {n : Nat} {t : Tab} (ht : TabOk t (run Tryd.prog own kp X n)) : ∀ (p1 : List GPred) (p2 : Int) r, slices_ContainsFunc_pred_right_1 t n p1 p2 = some r → run Tryd.prog own kp X (n + 1) 95 [(.t (.sl false 3 (GPred.ts p1))), (.fn 93 [(.ref (.v (.int .i64 p2)))])] [] = some ((.t (.v (.bool r))), []) := by
  intro p1 p2 r h
  obtain ⟨a1, rfl⟩ : ∃ z_, z_ = p1 := ⟨_, rfl⟩
  obtain ⟨a2, rfl⟩ : ∃ z_, z_ = p2 := ⟨_, rfl⟩
  rw [slices_ContainsFunc_pred_right_1] at h
  rcases h1 : t.slices_IndexFunc_pred_right_1 a1 a2 with _ | a3
  · rw [h1] at h; cases h
  rw [h1] at h
  dsimp only at h
  rw [← Option.some.inj h]
  exact run_path Tryd.func95 (ob_c (ht.slices_IndexFunc_pred_right_1 _ _ _ h1) ob) (by kernel_rfl)
theorem slices_ContainsFunc_pred_right_2.ok {n : Nat} {t : Tab} (ht : TabOk t (run Tryd.prog own kp X n)) : ∀ (p1 : List GValue) r, slices_ContainsFunc_pred_right_2 t n p1 = some r → run Tryd.prog own kp X (n + 1) 96 [(.t (.sl false 5 (GValue.ts p1))), (.fn 94 [])] [] = some ((.t (.v (.bool r))), []) := by
  intro p1 r h
  obtain ⟨a1, rfl⟩ : ∃ z_, z_ = p1 := ⟨_, rfl⟩
  rw [slices_ContainsFunc_pred_right_2] at h
  rcases h1 : t.slices_IndexFunc_pred_right_2 a1 with _ | a2
  · rw [h1] at h; cases h
  rw [h1] at h
  dsimp only at h
  rw [← Option.some.inj h]
  exact run_path Tryd.func96 (ob_c (ht.slices_IndexFunc_pred_right_2 _ _ h1) ob) (by kernel_rfl)
theorem slices_Index_string_l1.okL (ht : TabOk t call) (n : Nat) : ∀ (k : Nat) (a1 : List ByteArray) (a2 : ByteArray) (a3 a4 : Int) (r : _), slices_Index_string_l1 t n k a1 a2 a3 a4 = some r → loopN (exec (env Tryd.prog 97 Tryd.f97 call) n (sub [1, 0, 1, 0, 0] (bodyOf Tryd.f97))) k (mkSt 19 19 [(0, (.t (.sl false 1 (texts a1)))), (1, (.t (.v (.string a2)))), (7, (.t (.v (.int .i64 a3)))), (8, (.t (.v (.int .i64 a4))))] []) = some (slices_Index_string_l1.to r)
  | 0, a1, a2, a3, a4, r, h => by rw [slices_Index_string_l1] at h; cases h
  | k + 1, a1, a2, a3, a4, r, h => by
    rw [slices_Index_string_l1] at h
    by_cases h1 : (decide (a4 < a3)) = true
    · rw [if_pos h1] at h
      by_cases h2 : (decide (0 ≤ (a4 : Int))) = true
      case neg => rw [if_neg h2] at h; cases h
      rw [if_pos h2] at h
      rcases h3 : a1[(a4 : Int).toNat]? with _ | a5
      · rw [h3] at h; cases h
      rw [h3] at h
      dsimp only at h
      by_cases h4 : (a2.toList == a5.toList) = true
      · rw [if_pos h4] at h
        rw [← Option.some.inj h]
        exact loop_out (path (ob_b h1 (ob_n h2 (ob_t (look_ts texts_map h3) (ob_b h4 ob)))) (by kernel_rfl)) (fun h => by cases h)
      · rw [if_neg h4] at h
        replace h4 := Bool.eq_false_iff.2 h4
        exact loop_more (path (ob_b h1 (ob_n h2 (ob_t (look_ts texts_map h3) (ob_b h4 ob)))) (by kernel_rfl)) (slices_Index_string_l1.okL ht n k _ _ _ _ _ h)
    · rw [if_neg h1] at h
      replace h1 := Bool.eq_false_iff.2 h1
      rw [← Option.some.inj h]
      exact loop_out (path (ob_b h1 ob) (by kernel_rfl)) (fun h => by cases h)
theorem slices_Index_string_l1.ok (ht : TabOk t call) (n : Nat) (a1 : List ByteArray) (a2 : ByteArray) (a3 a4 : Int) (r : _) (h : slices_Index_string_l1 t n n a1 a2 a3 a4 = some r) : exec (env Tryd.prog 97 Tryd.f97 call) n (sub [1, 0, 1, 0] (bodyOf Tryd.f97)) (mkSt 19 19 [(0, (.t (.sl false 1 (texts a1)))), (1, (.t (.v (.string a2)))), (7, (.t (.v (.int .i64 a3)))), (8, (.t (.v (.int .i64 a4))))] []) = some (slices_Index_string_l1.to r) := by
  have e1 : sub [1, 0, 1, 0] (bodyOf Tryd.f97) = .loop (sub [1, 0, 1, 0, 0] (bodyOf Tryd.f97)) := by kernel_rfl
  rw [e1, exec]
  exact slices_Index_string_l1.okL ht n n a1 a2 a3 a4 r h
theorem slices_Index_string.ok {n : Nat} {t : Tab} (ht : TabOk t (run Tryd.prog own kp X n)) : ∀ (p1 : List ByteArray) (p2 : ByteArray) r, slices_Index_string t n p1 p2 = some r → run Tryd.prog own kp X (n + 1) 97 [(.t (.sl false 1 (texts p1))), (.t (.v (.string p2)))] [] = some ((.t (.v (.int .i64 r))), []) := by
  intro p1 p2 r h
  obtain ⟨a1, rfl⟩ : ∃ z_, z_ = p1 := ⟨_, rfl⟩
  obtain ⟨a2, rfl⟩ : ∃ z_, z_ = p2 := ⟨_, rfl⟩
  rw [slices_Index_string] at h
  rcases h1 : slices_Index_string_l1 t n n a1 a2 (a1.length : Int) 0 with _ | q_
  · rw [h1] at h; cases h
  rw [h1] at h
  rcases q_ with a3 | ⟨a4, a5, a6, a7, a8⟩
  · dsimp only at h
    rw [← Option.some.inj h]
    exact run_path Tryd.func97 (ob_v (len_ts texts_map (l := a1)) (ob_k (slices_Index_string_l1.ok ht n _ _ _ _ _ h1) ob)) (by kernel_rfl)
  · dsimp only at h
    rw [← Option.some.inj h]
    exact run_path Tryd.func97 (ob_v (len_ts texts_map (l := a1)) (ob_k (slices_Index_string_l1.ok ht n _ _ _ _ _ h1) ob)) (by kernel_rfl)
theorem slices_IndexFunc_plan_numbers_1_l1.okL (ht : TabOk t call) (n : Nat) : ∀ (k : Nat) (a1 : List Int) (a2 a3 : Int) (r : _), slices_IndexFunc_plan_numbers_1_l1 t n k a1 a2 a3 = some r → loopN (exec (env Tryd.prog 90 Tryd.f90 call) n (sub [1, 0, 1, 0, 0] (bodyOf Tryd.f90))) k (mkSt 19 19 [(0, (.t (.sl false 1 (ints_i64 a1)))), (1, (.fn 80 [])), (7, (.t (.v (.int .i64 a2)))), (8, (.t (.v (.int .i64 a3))))] []) = some (slices_IndexFunc_plan_numbers_1_l1.to r)
  | 0, a1, a2, a3, r, h => by rw [slices_IndexFunc_plan_numbers_1_l1] at h; cases h
  | k + 1, a1, a2, a3, r, h => by
    rw [slices_IndexFunc_plan_numbers_1_l1] at h
    by_cases h1 : (decide (a3 < a2)) = true
    · rw [if_pos h1] at h
      by_cases h2 : (decide (0 ≤ (a3 : Int))) = true
      case neg => rw [if_neg h2] at h; cases h
      rw [if_pos h2] at h
      rcases h3 : a1[(a3 : Int).toNat]? with _ | a4
      · rw [h3] at h; cases h
      rw [h3] at h
      dsimp only at h
      rcases h4 : t.plan_numbers_1 a4 with _ | a5
      · rw [h4] at h; cases h
      rw [h4] at h
      dsimp only at h
      by_cases h5 : a5 = true
      · rw [if_pos h5] at h
        rw [← Option.some.inj h]
        exact loop_out (path (ob_b h1 (ob_n h2 (ob_t (look_ts ints_i64_map h3) (ob_c (ht.plan_numbers_1 _ _ h4) (ob_b h5 ob))))) (by kernel_rfl)) (fun h => by cases h)
      · rw [if_neg h5] at h
        replace h5 := Bool.eq_false_iff.2 h5
        exact loop_more (path (ob_b h1 (ob_n h2 (ob_t (look_ts ints_i64_map h3) (ob_c (ht.plan_numbers_1 _ _ h4) (ob_b h5 ob))))) (by kernel_rfl)) (slices_IndexFunc_plan_numbers_1_l1.okL ht n k _ _ _ _ h)
    · rw [if_neg h1] at h
      replace h1 := Bool.eq_false_iff.2 h1
      rw [← Option.some.inj h]
      exact loop_out (path (ob_b h1 ob) (by kernel_rfl)) (fun h => by cases h)
theorem slices_IndexFunc_plan_numbers_1_l1.ok (ht : TabOk t call) (n : Nat) (a1 : List Int) (a2 a3 : Int) (r : _) (h : slices_IndexFunc_plan_numbers_1_l1 t n n a1 a2 a3 = some r) : exec (env Tryd.prog 90 Tryd.f90 call) n (sub [1, 0, 1, 0] (bodyOf Tryd.f90)) (mkSt 19 19 [(0, (.t (.sl false 1 (ints_i64 a1)))), (1, (.fn 80 [])), (7, (.t (.v (.int .i64 a2)))), (8, (.t (.v (.int .i64 a3))))] []) = some (slices_IndexFunc_plan_numbers_1_l1.to r) := by
  have e1 : sub [1, 0, 1, 0] (bodyOf Tryd.f90) = .loop (sub [1, 0, 1, 0, 0] (bodyOf Tryd.f90)) := by kernel_rfl
  rw [e1, exec]
  exact slices_IndexFunc_plan_numbers_1_l1.okL ht n n a1 a2 a3 r h
theorem slices_IndexFunc_plan_numbers_1.ok {n : Nat} {t : Tab} (ht : TabOk t (run Tryd.prog own kp X n)) : ∀ (p1 : List Int) r, slices_IndexFunc_plan_numbers_1 t n p1 = some r → run Tryd.prog own kp X (n + 1) 90 [(.t (.sl false 1 (ints_i64 p1))), (.fn 80 [])] [] = some ((.t (.v (.int .i64 r))), []) := by
  intro p1 r h
  obtain ⟨a1, rfl⟩ : ∃ z_, z_ = p1 := ⟨_, rfl⟩
  rw [slices_IndexFunc_plan_numbers_1] at h
  rcases h1 : slices_IndexFunc_plan_numbers_1_l1 t n n a1 (a1.length : Int) 0 with _ | q_
  · rw [h1] at h; cases h
  rw [h1] at h
  rcases q_ with a2 | ⟨a3, a4, a5, a6⟩
  · dsimp only at h
    rw [← Option.some.inj h]
    exact run_path Tryd.func90 (ob_v (len_ts ints_i64_map (l := a1)) (ob_k (slices_IndexFunc_plan_numbers_1_l1.ok ht n _ _ _ _ h1) ob)) (by kernel_rfl)
  · dsimp only at h
    rw [← Option.some.inj h]
    exact run_path Tryd.func90 (ob_v (len_ts ints_i64_map (l := a1)) (ob_k (slices_IndexFunc_plan_numbers_1_l1.ok ht n _ _ _ _ h1) ob)) (by kernel_rfl)
theorem graph_sign_j1.ok (ht : TabOk t call) (n : Nat) (a1 : Int) (a2 a3 : Bool) (r : _) (h : graph_sign_j1 t n a1 a2 a3 = some r) : exec (env Tryd.prog 77 Tryd.f77 call) n (sub [1, 0, 0, 0, 1] (bodyOf Tryd.f77)) (mkSt 29 29 [(0, (.t (.v (.int .u8 a1)))), (1, (.t (.v (.bool a2)))), (5, (.t (.v (.bool a3))))] []) = some (graph_sign_j1.to r) := by
  rw [graph_sign_j1] at h
  by_cases h1 : a3 = true
  · rw [if_pos h1] at h
    rw [← Option.some.inj h]
    exact path (ob_b h1 ob) (by kernel_rfl)
  · rw [if_neg h1] at h
    replace h1 := Bool.eq_false_iff.2 h1
    by_cases h2 : (decide (a1 ≥ 65)) = true
    · rw [if_pos h2] at h
      by_cases h3 : (decide (a1 ≤ 90)) = true
      · rw [if_pos h3] at h
        rw [← Option.some.inj h]
        exact path (ob_b h1 (ob_b h2 (ob_b h2 (ob_b h2 (ob_b h3 ob))))) (by kernel_rfl)
      · rw [if_neg h3] at h
        replace h3 := Bool.eq_false_iff.2 h3
        rw [← Option.some.inj h]
        exact path (ob_b h1 (ob_b h2 (ob_b h2 (ob_b h2 (ob_b h3 ob))))) (by kernel_rfl)
    · rw [if_neg h2] at h
      replace h2 := Bool.eq_false_iff.2 h2
      rw [← Option.some.inj h]
      exact path (ob_b h1 (ob_b h2 (ob_b h2 (ob_b h2 (ob_b (rfl : false = false) ob))))) (by kernel_rfl)
theorem graph_sign_j2.ok (ht : TabOk t call) (n : Nat) (a1 : Int) (a2 a3 : Bool) (r : _) (h : graph_sign_j2 t n a1 a2 a3 = some r) : exec (env Tryd.prog 77 Tryd.f77 call) n (sub [1, 0, 0, 1] (bodyOf Tryd.f77)) (mkSt 29 29 [(0, (.t (.v (.int .u8 a1)))), (1, (.t (.v (.bool a2)))), (5, (.t (.v (.bool a3))))] []) = some (graph_sign_j2.to r) := by
  rw [graph_sign_j2] at h
  by_cases h1 : a3 = true
  · rw [if_pos h1] at h
    rw [← Option.some.inj h]
    exact path (ob_b h1 ob) (by kernel_rfl)
  · rw [if_neg h1] at h
    replace h1 := Bool.eq_false_iff.2 h1
    by_cases h2 : (decide (a1 ≥ 48)) = true
    · rw [if_pos h2] at h
      by_cases h3 : (decide (a1 ≤ 57)) = true
      · rw [if_pos h3] at h
        rw [← Option.some.inj h]
        exact path (ob_b h1 (ob_b h2 (ob_b h2 (ob_b h2 (ob_b h3 ob))))) (by kernel_rfl)
      · rw [if_neg h3] at h
        replace h3 := Bool.eq_false_iff.2 h3
        rw [← Option.some.inj h]
        exact path (ob_b h1 (ob_b h2 (ob_b h2 (ob_b h2 (ob_b h3 ob))))) (by kernel_rfl)
    · rw [if_neg h2] at h
      replace h2 := Bool.eq_false_iff.2 h2
      rw [← Option.some.inj h]
      exact path (ob_b h1 (ob_b h2 (ob_b h2 (ob_b h2 (ob_b (rfl : false = false) ob))))) (by kernel_rfl)
theorem graph_sign.ok {n : Nat} {t : Tab} (ht : TabOk t (run Tryd.prog own kp X n)) : ∀ (p1 : Int) (p2 : Bool) r, graph_sign t n p1 p2 = some r → run Tryd.prog own kp X (n + 1) 77 [(.t (.v (.int .u8 p1))), (.t (.v (.bool p2)))] [] = some ((.t (.v (.bool r))), []) := by
  intro p1 p2 r h
  obtain ⟨a1, rfl⟩ : ∃ z_, z_ = p1 := ⟨_, rfl⟩
  obtain ⟨a2, rfl⟩ : ∃ z_, z_ = p2 := ⟨_, rfl⟩
  rw [graph_sign] at h
  by_cases h1 : (decide (a1 ≥ 97)) = true
  · rw [if_pos h1] at h
    rcases h2 : graph_sign_j1 t n  a1 a2 (decide (a1 ≤ 122)) with _ | q_
    · rw [h2] at h; cases h
    rw [h2] at h
    obtain ⟨a3, a4, a5⟩ := q_
    dsimp only at h
    rcases h3 : graph_sign_j2 t n  a3 a4 a5 with _ | q_
    · rw [h3] at h; cases h
    rw [h3] at h
    rcases q_ with a6 | _
    · dsimp only at h
      rw [← Option.some.inj h]
      exact run_path Tryd.func77 (ob_b h1 (ob_b h1 (ob_b h1 (ob_j (graph_sign_j1.ok ht n _ _ _ _ h2) (ob_j (graph_sign_j2.ok ht n _ _ _ _ h3) ob))))) (by kernel_rfl)
    · dsimp only at h
      rw [← Option.some.inj h]
      exact run_path Tryd.func77 (ob_b h1 (ob_b h1 (ob_b h1 (ob_j (graph_sign_j1.ok ht n _ _ _ _ h2) (ob_j (graph_sign_j2.ok ht n _ _ _ _ h3) ob))))) (by kernel_rfl)
  · rw [if_neg h1] at h
    replace h1 := Bool.eq_false_iff.2 h1
    rcases h4 : graph_sign_j1 t n  a1 a2 false with _ | q_
    · rw [h4] at h; cases h
    rw [h4] at h
    obtain ⟨a7, a8, a9⟩ := q_
    dsimp only at h
    rcases h5 : graph_sign_j2 t n  a7 a8 a9 with _ | q_
    · rw [h5] at h; cases h
    rw [h5] at h
    rcases q_ with a10 | _
    · dsimp only at h
      rw [← Option.some.inj h]
      exact run_path Tryd.func77 (ob_b h1 (ob_b h1 (ob_b h1 (ob_j (graph_sign_j1.ok ht n _ _ _ _ h4) (ob_j (graph_sign_j2.ok ht n _ _ _ _ h5) ob))))) (by kernel_rfl)
    · dsimp only at h
      rw [← Option.some.inj h]
      exact run_path Tryd.func77 (ob_b h1 (ob_b h1 (ob_b h1 (ob_j (graph_sign_j1.ok ht n _ _ _ _ h4) (ob_j (graph_sign_j2.ok ht n _ _ _ _ h5) ob))))) (by kernel_rfl)
theorem slices_IndexFunc_pred_right_1_l1.okL (ht : TabOk t call) (n : Nat) : ∀ (k : Nat) (a1 : List GPred) (a2 a3 a4 : Int) (r : _), slices_IndexFunc_pred_right_1_l1 t n k a1 a2 a3 a4 = some r → loopN (exec (env Tryd.prog 101 Tryd.f101 call) n (sub [1, 0, 1, 0, 0] (bodyOf Tryd.f101))) k (mkSt 19 19 [(0, (.t (.sl false 3 (GPred.ts a1)))), (1, (.fn 93 [(.ref (.v (.int .i64 a2)))])), (7, (.t (.v (.int .i64 a3)))), (8, (.t (.v (.int .i64 a4))))] []) = some (slices_IndexFunc_pred_right_1_l1.to r)
  | 0, a1, a2, a3, a4, r, h => by rw [slices_IndexFunc_pred_right_1_l1] at h; cases h
  | k + 1, a1, a2, a3, a4, r, h => by
    rw [slices_IndexFunc_pred_right_1_l1] at h
    by_cases h1 : (decide (a4 < a3)) = true
    · rw [if_pos h1] at h
      by_cases h2 : (decide (0 ≤ (a4 : Int))) = true
      case neg => rw [if_neg h2] at h; cases h
      rw [if_pos h2] at h
      rcases h3 : a1[(a4 : Int).toNat]? with _ | ⟨a5, a6, a7⟩
      · rw [h3] at h; cases h
      rw [h3] at h
      dsimp only at h
      rcases h4 : t.pred_right_1 (GPred.mk a5 a6 a7) a2 with _ | a8
      · rw [h4] at h; cases h
      rw [h4] at h
      dsimp only at h
      by_cases h5 : a8 = true
      · rw [if_pos h5] at h
        rw [← Option.some.inj h]
        exact loop_out (path (ob_b h1 (ob_n h2 (ob_t (look_ts GPred.ts_map h3) (ob_c (ht.pred_right_1 _ _ _ h4) (ob_b h5 ob))))) (by kernel_rfl)) (fun h => by cases h)
      · rw [if_neg h5] at h
        replace h5 := Bool.eq_false_iff.2 h5
        exact loop_more (path (ob_b h1 (ob_n h2 (ob_t (look_ts GPred.ts_map h3) (ob_c (ht.pred_right_1 _ _ _ h4) (ob_b h5 ob))))) (by kernel_rfl)) (slices_IndexFunc_pred_right_1_l1.okL ht n k _ _ _ _ _ h)
    · rw [if_neg h1] at h
      replace h1 := Bool.eq_false_iff.2 h1
      rw [← Option.some.inj h]
      exact loop_out (path (ob_b h1 ob) (by kernel_rfl)) (fun h => by cases h)
theorem slices_IndexFunc_pred_right_1_l1.ok (ht : TabOk t call) (n : Nat) (a1 : List GPred) (a2 a3 a4 : Int) (r : _) (h : slices_IndexFunc_pred_right_1_l1 t n n a1 a2 a3 a4 = some r) : exec (env Tryd.prog 101 Tryd.f101 call) n (sub [1, 0, 1, 0] (bodyOf Tryd.f101)) (mkSt 19 19 [(0, (.t (.sl false 3 (GPred.ts a1)))), (1, (.fn 93 [(.ref (.v (.int .i64 a2)))])), (7, (.t (.v (.int .i64 a3)))), (8, (.t (.v (.int .i64 a4))))] []) = some (slices_IndexFunc_pred_right_1_l1.to r) := by
  have e1 : sub [1, 0, 1, 0] (bodyOf Tryd.f101) = .loop (sub [1, 0, 1, 0, 0] (bodyOf Tryd.f101)) := by kernel_rfl
  rw [e1, exec]
  exact slices_IndexFunc_pred_right_1_l1.okL ht n n a1 a2 a3 a4 r h
theorem slices_IndexFunc_pred_right_1.ok {n : Nat} {t : Tab} (ht : TabOk t (run Tryd.prog own kp X n)) : ∀ (p1 : List GPred) (p2 : Int) r, slices_IndexFunc_pred_right_1 t n p1 p2 = some r → run Tryd.prog own kp X (n + 1) 101 [(.t (.sl false 3 (GPred.ts p1))), (.fn 93 [(.ref (.v (.int .i64 p2)))])] [] = some ((.t (.v (.int .i64 r))), []) := by
  intro p1 p2 r h
  obtain ⟨a1, rfl⟩ : ∃ z_, z_ = p1 := ⟨_, rfl⟩
  obtain ⟨a2, rfl⟩ : ∃ z_, z_ = p2 := ⟨_, rfl⟩
  rw [slices_IndexFunc_pred_right_1] at h
  rcases h1 : slices_IndexFunc_pred_right_1_l1 t n n a1 a2 (a1.length : Int) 0 with _ | q_
  · rw [h1] at h; cases h
  rw [h1] at h
  rcases q_ with a3 | ⟨a4, a5, a6, a7, a8⟩
  · dsimp only at h
    rw [← Option.some.inj h]
    exact run_path Tryd.func101 (ob_v (len_ts GPred.ts_map (l := a1)) (ob_k (slices_IndexFunc_pred_right_1_l1.ok ht n _ _ _ _ _ h1) ob)) (by kernel_rfl)
  · dsimp only at h
    rw [← Option.some.inj h]
    exact run_path Tryd.func101 (ob_v (len_ts GPred.ts_map (l := a1)) (ob_k (slices_IndexFunc_pred_right_1_l1.ok ht n _ _ _ _ _ h1) ob)) (by kernel_rfl)
theorem slices_IndexFunc_pred_right_2_l1.okL (ht : TabOk t call) (n : Nat) : ∀ (k : Nat) (a1 : List GValue) (a2 a3 : Int) (r : _), slices_IndexFunc_pred_right_2_l1 t n k a1 a2 a3 = some r → loopN (exec (env Tryd.prog 102 Tryd.f102 call) n (sub [1, 0, 1, 0, 0] (bodyOf Tryd.f102))) k (mkSt 19 19 [(0, (.t (.sl false 5 (GValue.ts a1)))), (1, (.fn 94 [])), (7, (.t (.v (.int .i64 a2)))), (8, (.t (.v (.int .i64 a3))))] []) = some (slices_IndexFunc_pred_right_2_l1.to r)
  | 0, a1, a2, a3, r, h => by rw [slices_IndexFunc_pred_right_2_l1] at h; cases h
  | k + 1, a1, a2, a3, r, h => by
    rw [slices_IndexFunc_pred_right_2_l1] at h
    by_cases h1 : (decide (a3 < a2)) = true
    · rw [if_pos h1] at h
      by_cases h2 : (decide (0 ≤ (a3 : Int))) = true
      case neg => rw [if_neg h2] at h; cases h
      rw [if_pos h2] at h
      rcases h3 : a1[(a3 : Int).toNat]? with _ | ⟨a4, a5, a6, a7, a8⟩
      · rw [h3] at h; cases h
      rw [h3] at h
      dsimp only at h
      rcases h4 : t.pred_right_2 (GValue.mk a4 a5 a6 a7 a8) with _ | a9
      · rw [h4] at h; cases h
      rw [h4] at h
      dsimp only at h
      by_cases h5 : a9 = true
      · rw [if_pos h5] at h
        rw [← Option.some.inj h]
        exact loop_out (path (ob_b h1 (ob_n h2 (ob_t (look_ts GValue.ts_map h3) (ob_c (ht.pred_right_2 _ _ h4) (ob_b h5 ob))))) (by kernel_rfl)) (fun h => by cases h)
      · rw [if_neg h5] at h
        replace h5 := Bool.eq_false_iff.2 h5
        exact loop_more (path (ob_b h1 (ob_n h2 (ob_t (look_ts GValue.ts_map h3) (ob_c (ht.pred_right_2 _ _ h4) (ob_b h5 ob))))) (by kernel_rfl)) (slices_IndexFunc_pred_right_2_l1.okL ht n k _ _ _ _ h)
    · rw [if_neg h1] at h
      replace h1 := Bool.eq_false_iff.2 h1
      rw [← Option.some.inj h]
      exact loop_out (path (ob_b h1 ob) (by kernel_rfl)) (fun h => by cases h)
theorem slices_IndexFunc_pred_right_2_l1.ok (ht : TabOk t call) (n : Nat) (a1 : List GValue) (a2 a3 : Int) (r : _) (h : slices_IndexFunc_pred_right_2_l1 t n n a1 a2 a3 = some r) : exec (env Tryd.prog 102 Tryd.f102 call) n (sub [1, 0, 1, 0] (bodyOf Tryd.f102)) (mkSt 19 19 [(0, (.t (.sl false 5 (GValue.ts a1)))), (1, (.fn 94 [])), (7, (.t (.v (.int .i64 a2)))), (8, (.t (.v (.int .i64 a3))))] []) = some (slices_IndexFunc_pred_right_2_l1.to r) := by
  have e1 : sub [1, 0, 1, 0] (bodyOf Tryd.f102) = .loop (sub [1, 0, 1, 0, 0] (bodyOf Tryd.f102)) := by kernel_rfl
  rw [e1, exec]
  exact slices_IndexFunc_pred_right_2_l1.okL ht n n a1 a2 a3 r h
theorem slices_IndexFunc_pred_right_2.ok {n : Nat} {t : Tab} (ht : TabOk t (run Tryd.prog own kp X n)) : ∀ (p1 : List GValue) r, slices_IndexFunc_pred_right_2 t n p1 = some r → run Tryd.prog own kp X (n + 1) 102 [(.t (.sl false 5 (GValue.ts p1))), (.fn 94 [])] [] = some ((.t (.v (.int .i64 r))), []) := by
  intro p1 r h
  obtain ⟨a1, rfl⟩ : ∃ z_, z_ = p1 := ⟨_, rfl⟩
  rw [slices_IndexFunc_pred_right_2] at h
  rcases h1 : slices_IndexFunc_pred_right_2_l1 t n n a1 (a1.length : Int) 0 with _ | q_
  · rw [h1] at h; cases h
  rw [h1] at h
  rcases q_ with a2 | ⟨a3, a4, a5, a6⟩
  · dsimp only at h
    rw [← Option.some.inj h]
    exact run_path Tryd.func102 (ob_v (len_ts GValue.ts_map (l := a1)) (ob_k (slices_IndexFunc_pred_right_2_l1.ok ht n _ _ _ _ h1) ob)) (by kernel_rfl)
  · dsimp only at h
    rw [← Option.some.inj h]
    exact run_path Tryd.func102 (ob_v (len_ts GValue.ts_map (l := a1)) (ob_k (slices_IndexFunc_pred_right_2_l1.ok ht n _ _ _ _ h1) ob)) (by kernel_rfl)
theorem plan_numbers_1.ok {n : Nat} {t : Tab} (ht : TabOk t (run Tryd.prog own kp X n)) : ∀ (p1 : Int) r, plan_numbers_1 t n p1 = some r → run Tryd.prog own kp X (n + 1) 80 [(.t (.v (.int .i64 p1)))] [] = some ((.t (.v (.bool r))), []) := by
  intro p1 r h
  obtain ⟨a1, rfl⟩ : ∃ z_, z_ = p1 := ⟨_, rfl⟩
  rw [plan_numbers_1] at h
  rw [← Option.some.inj h]
  exact run_path Tryd.func80 ob (by kernel_rfl)
theorem pred_right_1.ok {n : Nat} {t : Tab} (ht : TabOk t (run Tryd.prog own kp X n)) : ∀ (p1 : GPred) (p2 : Int) r, pred_right_1 t n p1 p2 = some r → run Tryd.prog own kp X (n + 1) 93 [(.t (GPred.t p1)), (.ref (.v (.int .i64 p2)))] [] = some ((.t (.v (.bool r))), []) := by
  intro p1 p2 r h
  obtain ⟨a1, a2, a3⟩ := p1
  obtain ⟨a4, rfl⟩ : ∃ z_, z_ = p2 := ⟨_, rfl⟩
  rw [pred_right_1] at h
  rcases h1 : t.pred_right (GPred.mk a1 a2 a3) (IntKind.wrap .i64 (a4 + 1)) with _ | a5
  · rw [h1] at h; cases h
  rw [h1] at h
  dsimp only at h
  rw [← Option.some.inj h]
  exact run_path Tryd.func93 (ob_c (ht.pred_right _ _ _ h1) ob) (by kernel_rfl)
theorem pred_right_2.ok {n : Nat} {t : Tab} (ht : TabOk t (run Tryd.prog own kp X n)) : ∀ (p1 : GValue) r, pred_right_2 t n p1 = some r → run Tryd.prog own kp X (n + 1) 94 [(.t (GValue.t p1))] [] = some ((.t (.v (.bool r))), []) := by
  intro p1 r h
  obtain ⟨a1, a2, a3, a4, a5⟩ := p1
  rw [pred_right_2] at h
  rcases h1 : t.value_Check (GValue.mk a1 a2 a3 a4 a5) with _ | a6
  · rw [h1] at h; cases h
  rw [h1] at h
  dsimp only at h
  rw [← Option.some.inj h]
  exact run_path Tryd.func94 (ob_c (ht.value_Check _ _ h1) ob) (by kernel_rfl)
end Go.Proofs.YtgkfjhfehdefaaaDoor.W
