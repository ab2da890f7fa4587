/- The proofs of it, part 3. -/
import Derived.Test.YtcgckbjdadmcmaaQ4D2
namespace Go.Proofs.Ytcgckbjdadmcmaa.W
open Go.Proofs.Ytcgckbjdadmcmaa.Flat
set_option linter.unusedVariables false
set_option linter.unusedSimpArgs false
theorem cmp_Or_int.ok {n : Nat} {t : Tab} (ht : TabOk t (run Try.prog own kp X n)) : ∀ (p1 : List Int) r, cmp_Or_int t n p1 = some r → run Try.prog own kp X (n + 1) 67 [(.t (.sl false 1 (ints_i64 p1)))] [] = some ((.t (.v (.int .i64 r))), []) := by
  intro p1 r h
  obtain ⟨a1, rfl⟩ : ∃ z_, z_ = p1 := ⟨_, rfl⟩
  rw [cmp_Or_int] at h
  rcases h1 : cmp_Or_int_l1 t n n 0 a1 (a1.length : Int) 0 with _ | q_
  · rw [h1] at h; cases h
  rw [h1] at h
  rcases q_ with a2 | ⟨a3, a4, a5, a6, a7⟩
  · dsimp only at h
    rw [← Option.some.inj h]
    exact run_path Try.func67 (ob_v (len_ts ints_i64_map (l := a1)) (ob_k (cmp_Or_int_l1.ok ht n _ _ _ _ _ h1) ob)) (by kernel_rfl)
  · dsimp only at h
    rw [← Option.some.inj h]
    exact run_path Try.func67 (ob_v (len_ts ints_i64_map (l := a1)) (ob_k (cmp_Or_int_l1.ok ht n _ _ _ _ _ h1) ob)) (by kernel_rfl)
theorem slices_CompareFunc_value_compare_1_l1.okL {t : Tab} {call : FuncId → List AV → List AV → Option (AV × List AV)} (ht : TabOk t call) (n : Nat) : ∀ (k : Nat) (a1 : List GValue) (a2 : List GValue) (a3 : Int) (a4 : List GValue) (a5 : Int) (a6 : Int) (r : Int ⊕ ((List GValue) × (List GValue) × Int × (List GValue) × Int × Int × Bool)), slices_CompareFunc_value_compare_1_l1 t n k a1 a2 a3 a4 a5 a6 = some r → loopN (exec (env Try.prog 71 Try.f71 call) n (sub [1, 0, 1, 0, 0] (bodyOf Try.f71))) k (mkSt 39 39 [(0, (.t (.sl false 5 (GValue.ts a1)))), (1, (.t (.sl false 5 (GValue.ts a2)))), (2, (.fn 70 [(.ref (.v (.int .i64 a3)))])), (11, (.t (.sl false 5 (GValue.ts a4)))), (12, (.t (.v (.int .i64 a5)))), (13, (.t (.v (.int .i64 a6))))] []) = some (slices_CompareFunc_value_compare_1_l1.to r)
  | 0, a1, a2, a3, a4, a5, a6, r, h => by rw [slices_CompareFunc_value_compare_1_l1] at h; cases h
  | k + 1, a1, a2, a3, a4, a5, a6, r, h => by
    rw [slices_CompareFunc_value_compare_1_l1] at h
    by_cases h1 : (decide (a6 < a5)) = true
    · rw [if_pos h1] at h
      by_cases h2 : (decide (0 ≤ (a6 : Int))) = true
      case neg => rw [if_neg h2] at h; cases h
      rw [if_pos h2] at h
      rcases h3 : a4[(a6 : Int).toNat]? with _ | ⟨a7, a8, a9, a10, a11⟩
      · rw [h3] at h; cases h
      rw [h3] at h
      dsimp only at h
      by_cases h4 : (decide (a6 ≥ (a2.length : Int))) = true
      · rw [if_pos h4] at h
        rw [← Option.some.inj h]
        exact loop_out (path (ob_b h1 (ob_n h2 (ob_t (look_ts GValue.ts_map h3) (ob_v (len_ts GValue.ts_map (l := a2)) (ob_b h4 ob))))) (by kernel_rfl)) (fun h => by cases h)
      · rw [if_neg h4] at h
        replace h4 := Bool.eq_false_iff.2 h4
        rcases h5 : a2[(a6 : Int).toNat]? with _ | ⟨a12, a13, a14, a15, a16⟩
        · rw [h5] at h; cases h
        rw [h5] at h
        dsimp only at h
        rcases h6 : t.value_compare_1 (GValue.mk a7 a8 a9 a10 a11) (GValue.mk a12 a13 a14 a15 a16) a3 with _ | a17
        · rw [h6] at h; cases h
        rw [h6] at h
        dsimp only at h
        by_cases h7 : (a17 != 0) = true
        · rw [if_pos h7] at h
          rw [← Option.some.inj h]
          exact loop_out (path (ob_b h1 (ob_n h2 (ob_t (look_ts GValue.ts_map h3) (ob_v (len_ts GValue.ts_map (l := a2)) (ob_b h4 (ob_n h2 (ob_t (look_ts GValue.ts_map h5) (ob_c (ht.value_compare_1 _ _ _ _ h6) (ob_b h7 ob))))))))) (by kernel_rfl)) (fun h => by cases h)
        · rw [if_neg h7] at h
          replace h7 := Bool.eq_false_iff.2 h7
          exact loop_more (path (ob_b h1 (ob_n h2 (ob_t (look_ts GValue.ts_map h3) (ob_v (len_ts GValue.ts_map (l := a2)) (ob_b h4 (ob_n h2 (ob_t (look_ts GValue.ts_map h5) (ob_c (ht.value_compare_1 _ _ _ _ h6) (ob_b h7 ob))))))))) (by kernel_rfl)) (slices_CompareFunc_value_compare_1_l1.okL ht n k _ _ _ _ _ _ _ h)
    · rw [if_neg h1] at h
      replace h1 := Bool.eq_false_iff.2 h1
      rw [← Option.some.inj h]
      exact loop_out (path (ob_b h1 ob) (by kernel_rfl)) (fun h => by cases h)
theorem slices_CompareFunc_value_compare_1_l1.ok {t : Tab} {call : FuncId → List AV → List AV → Option (AV × List AV)} (ht : TabOk t call) (n : Nat) (a1 : List GValue) (a2 : List GValue) (a3 : Int) (a4 : List GValue) (a5 : Int) (a6 : Int) (r : Int ⊕ ((List GValue) × (List GValue) × Int × (List GValue) × Int × Int × Bool)) (h : slices_CompareFunc_value_compare_1_l1 t n n a1 a2 a3 a4 a5 a6 = some r) : exec (env Try.prog 71 Try.f71 call) n (sub [1, 0, 1, 0] (bodyOf Try.f71)) (mkSt 39 39 [(0, (.t (.sl false 5 (GValue.ts a1)))), (1, (.t (.sl false 5 (GValue.ts a2)))), (2, (.fn 70 [(.ref (.v (.int .i64 a3)))])), (11, (.t (.sl false 5 (GValue.ts a4)))), (12, (.t (.v (.int .i64 a5)))), (13, (.t (.v (.int .i64 a6))))] []) = some (slices_CompareFunc_value_compare_1_l1.to r) := by
  have e1 : sub [1, 0, 1, 0] (bodyOf Try.f71) = .loop (sub [1, 0, 1, 0, 0] (bodyOf Try.f71)) := by kernel_rfl
  rw [e1, exec]
  exact slices_CompareFunc_value_compare_1_l1.okL ht n n a1 a2 a3 a4 a5 a6 r h
theorem slices_CompareFunc_value_compare_1_j2.ok {t : Tab} {call : FuncId → List AV → List AV → Option (AV × List AV)} (ht : TabOk t call) (n : Nat) (a1 : List GValue) (a2 : List GValue) (r : Int) (h : slices_CompareFunc_value_compare_1_j2 t n a1 a2 = some r) : exec (env Try.prog 71 Try.f71 call) n (sub [1, 1] (bodyOf Try.f71)) (mkSt 39 39 [(0, (.t (.sl false 5 (GValue.ts a1)))), (1, (.t (.sl false 5 (GValue.ts a2))))] []) = some (slices_CompareFunc_value_compare_1_j2.to r) := by
  rw [slices_CompareFunc_value_compare_1_j2] at h
  by_cases h1 : (decide ((a1.length : Int) < (a2.length : Int))) = true
  · rw [if_pos h1] at h
    rw [← Option.some.inj h]
    exact path (ob_v (len_ts GValue.ts_map (l := a1)) (ob_v (len_ts GValue.ts_map (l := a2)) (ob_b h1 ob))) (by kernel_rfl)
  · rw [if_neg h1] at h
    replace h1 := Bool.eq_false_iff.2 h1
    rw [← Option.some.inj h]
    exact path (ob_v (len_ts GValue.ts_map (l := a1)) (ob_v (len_ts GValue.ts_map (l := a2)) (ob_b h1 ob))) (by kernel_rfl)
theorem slices_CompareFunc_value_compare_1.ok {n : Nat} {t : Tab} (ht : TabOk t (run Try.prog own kp X n)) : ∀ (p1 : List GValue) (p2 : List GValue) (p3 : Int) r, slices_CompareFunc_value_compare_1 t n p1 p2 p3 = some r → run Try.prog own kp X (n + 1) 71 [(.t (.sl false 5 (GValue.ts p1))), (.t (.sl false 5 (GValue.ts p2))), (.fn 70 [(.ref (.v (.int .i64 p3)))])] [] = some ((.t (.v (.int .i64 r))), []) := by
  intro p1 p2 p3 r h
  obtain ⟨a1, rfl⟩ : ∃ z_, z_ = p1 := ⟨_, rfl⟩
  obtain ⟨a2, rfl⟩ : ∃ z_, z_ = p2 := ⟨_, rfl⟩
  obtain ⟨a3, rfl⟩ : ∃ z_, z_ = p3 := ⟨_, rfl⟩
  rw [slices_CompareFunc_value_compare_1] at h
  rcases h1 : slices_CompareFunc_value_compare_1_l1 t n n a1 a2 a3 a1 (a1.length : Int) 0 with _ | q_
  · rw [h1] at h; cases h
  rw [h1] at h
  rcases q_ with a4 | ⟨a5, a6, a7, a8, a9, a10, a11⟩
  · dsimp only at h
    rw [← Option.some.inj h]
    exact run_path Try.func71 (ob_v (len_ts GValue.ts_map (l := a1)) (ob_k (slices_CompareFunc_value_compare_1_l1.ok ht n _ _ _ _ _ _ _ h1) ob)) (by kernel_rfl)
  · dsimp only at h
    obtain ⟨a12, rfl⟩ : ∃ z_, z_ = r := ⟨_, rfl⟩
    have h2 := h
    exact run_path Try.func71 (ob_v (len_ts GValue.ts_map (l := a1)) (ob_k (slices_CompareFunc_value_compare_1_l1.ok ht n _ _ _ _ _ _ _ h1) (ob_j (slices_CompareFunc_value_compare_1_j2.ok ht n _ _ _ h2) ob))) (by kernel_rfl)
theorem value_copied_l1.okL {t : Tab} {call : FuncId → List AV → List AV → Option (AV × List AV)} (ht : TabOk t call) (n : Nat) : ∀ (k : Nat) (a1 : Int) (a2 : List GValue) (a3 : List GValue) (a4 : Int) (a5 : Int) (r : Int × (List GValue) × (List GValue) × Int × Int × Bool), value_copied_l1 t n k a1 a2 a3 a4 a5 = some r → loopN (exec (env Try.prog 65 Try.f65 call) n (sub [1, 1, 0, 1, 0, 0] (bodyOf Try.f65))) k (mkSt 22 22 [(1, (.t (.v (.int .i64 a1)))), (5, (.t (.sl true 5 (GValue.ts a2)))), (8, (.t (.sl false 5 (GValue.ts a3)))), (9, (.t (.v (.int .i64 a4)))), (10, (.t (.v (.int .i64 a5))))] []) = some (value_copied_l1.to r)
  | 0, a1, a2, a3, a4, a5, r, h => by rw [value_copied_l1] at h; cases h
  | k + 1, a1, a2, a3, a4, a5, r, h => by
    rw [value_copied_l1] at h
    by_cases h1 : (decide (a5 < a4)) = true
    · rw [if_pos h1] at h
      by_cases h2 : (decide (0 ≤ (a5 : Int))) = true
      case neg => rw [if_neg h2] at h; cases h
      rw [if_pos h2] at h
      rcases h3 : a3[(a5 : Int).toNat]? with _ | ⟨a6, a7, a8, a9, a10⟩
      · rw [h3] at h; cases h
      rw [h3] at h
      dsimp only at h
      rcases h4 : t.value_part (GValue.mk a6 a7 a8 a9 a10) a1 with _ | ⟨a11, a12, a13, a14, a15⟩
      · rw [h4] at h; cases h
      rw [h4] at h
      dsimp only at h
      by_cases h5 : (a2.length + ([(GValue.mk a11 a12 a13 a14 a15)] : List GValue).length) * 80 ≤ 140737488355328
      case neg => rw [if_neg h5] at h; cases h
      rw [if_pos h5] at h
      exact loop_more (path (ob_b h1 (ob_n h2 (ob_t (look_ts GValue.ts_map h3) (ob_c (ht.value_part _ _ _ h4) (ob_le (room_ts GValue.ts_map h5) (ob_l (app_ts GValue.ts_map (a := a2) (b := ([(GValue.mk a11 a12 a13 a14 a15)] : List GValue))) ob)))))) (by kernel_rfl)) (value_copied_l1.okL ht n k _ _ _ _ _ _ h)
    · rw [if_neg h1] at h
      replace h1 := Bool.eq_false_iff.2 h1
      rw [← Option.some.inj h]
      exact loop_out (path (ob_b h1 ob) (by kernel_rfl)) (fun h => by cases h)
theorem value_copied_l1.ok {t : Tab} {call : FuncId → List AV → List AV → Option (AV × List AV)} (ht : TabOk t call) (n : Nat) (a1 : Int) (a2 : List GValue) (a3 : List GValue) (a4 : Int) (a5 : Int) (r : Int × (List GValue) × (List GValue) × Int × Int × Bool) (h : value_copied_l1 t n n a1 a2 a3 a4 a5 = some r) : exec (env Try.prog 65 Try.f65 call) n (sub [1, 1, 0, 1, 0] (bodyOf Try.f65)) (mkSt 22 22 [(1, (.t (.v (.int .i64 a1)))), (5, (.t (.sl true 5 (GValue.ts a2)))), (8, (.t (.sl false 5 (GValue.ts a3)))), (9, (.t (.v (.int .i64 a4)))), (10, (.t (.v (.int .i64 a5))))] []) = some (value_copied_l1.to r) := by
  have e1 : sub [1, 1, 0, 1, 0] (bodyOf Try.f65) = .loop (sub [1, 1, 0, 1, 0, 0] (bodyOf Try.f65)) := by kernel_rfl
  rw [e1, exec]
  exact value_copied_l1.okL ht n n a1 a2 a3 a4 a5 r h
theorem value_copied.ok {n : Nat} {t : Tab} (ht : TabOk t (run Try.prog own kp X n)) : ∀ (p1 : List GValue) (p2 : Int) r, value_copied t n p1 p2 = some r → run Try.prog own kp X (n + 1) 65 [(.t (.sl false 5 (GValue.ts p1))), (.t (.v (.int .i64 p2)))] [] = some ((.t (.sl false 5 (GValue.ts r))), []) := by
  intro p1 p2 r h
  obtain ⟨a1, rfl⟩ : ∃ z_, z_ = p1 := ⟨_, rfl⟩
  obtain ⟨a2, rfl⟩ : ∃ z_, z_ = p2 := ⟨_, rfl⟩
  rw [value_copied] at h
  rcases h1 : value_copied_l1 t n n a2 ([] : List GValue) a1 (a1.length : Int) 0 with _ | q_
  · rw [h1] at h; cases h
  rw [h1] at h
  obtain ⟨a3, a4, a5, a6, a7, a8⟩ := q_
  dsimp only at h
  rw [← Option.some.inj h]
  exact run_path Try.func65 (ob_v (len_ts GValue.ts_map (l := a1)) (ob_k (value_copied_l1.ok ht n _ _ _ _ _ _ h1) ob)) (by kernel_rfl)
theorem value_plain_l4.okL {t : Tab} {call : FuncId → List AV → List AV → Option (AV × List AV)} (ht : TabOk t call) (n : Nat) : ∀ (k : Nat) (a1 : Int) (a2 : List GValue) (a3 : Int) (a4 : Int) (a5 : Int) (a6 : Int) (a7 : ByteArray) (a8 : List GValue) (a9 : List GValue) (r : Bool ⊕ (Int × (List GValue) × Int × Int × Bool × Int × Int × ByteArray × (List GValue) × (List GValue))), value_plain_l4 t n k a1 a2 a3 a4 a5 a6 a7 a8 a9 = some r → loopN (exec (env Try.prog 57 Try.f57 call) n (sub [1, 1, 1, 1, 1, 1, 0, 1, 0, 0] (bodyOf Try.f57))) k (mkSt 147 147 [(1, (.t (.v (.int .i64 a1)))), (2, (.ptr 2 0 [] 0)), (109, (.t (.sl false 5 (GValue.ts a2)))), (110, (.t (.v (.int .i64 a3)))), (111, (.t (.v (.int .i64 a4))))] [(2, (.t (.st [(.v (.int .i64 a5)), (.v (.int .i64 a6)), (.v (.string a7)), (.sl false 5 (GValue.ts a8)), (.sl false 5 (GValue.ts a9))])))]) = some (value_plain_l4.to r)
  | 0, a1, a2, a3, a4, a5, a6, a7, a8, a9, r, h => by rw [value_plain_l4] at h; cases h
  | k + 1, a1, a2, a3, a4, a5, a6, a7, a8, a9, r, h => by
    rw [value_plain_l4] at h
    by_cases h1 : (decide (a4 < a3)) = true
    · rw [if_pos h1] at h
      by_cases h2 : (decide (0 ≤ (a4 : Int))) = true
      case neg => rw [if_neg h2] at h; cases h
      rw [if_pos h2] at h
      rcases h3 : a2[(a4 : Int).toNat]? with _ | ⟨a10, a11, a12, a13, a14⟩
      · rw [h3] at h; cases h
      rw [h3] at h
      dsimp only at h
      rcases h4 : t.value_plain (GValue.mk a10 a11 a12 a13 a14) (IntKind.wrap .i64 (a1 + 1)) with _ | a15
      · rw [h4] at h; cases h
      rw [h4] at h
      dsimp only at h
      by_cases h5 : a15 = true
      · rw [if_pos h5] at h
        by_cases h6 : (a5 == 7) = true
        · rw [if_pos h6] at h
          by_cases h7 : (decide (a4 > 0)) = true
          · rw [if_pos h7] at h
            by_cases h8 : (decide (a4 < (a8.length : Int))) = true
            · rw [if_pos h8] at h
              by_cases h9 : (decide (0 ≤ ((IntKind.wrap .i64 (a4 - 1)) : Int))) = true
              case neg => rw [if_neg h9] at h; cases h
              rw [if_pos h9] at h
              rcases h10 : a8[((IntKind.wrap .i64 (a4 - 1)) : Int).toNat]? with _ | ⟨a16, a17, a18, a19, a20⟩
              · rw [h10] at h; cases h
              rw [h10] at h
              dsimp only at h
              rcases h11 : t.value_Cmp (GValue.mk a16 a17 a18 a19 a20) (GValue.mk a10 a11 a12 a13 a14) with _ | a21
              · rw [h11] at h; cases h
              rw [h11] at h
              dsimp only at h
              by_cases h12 : (decide (a21 ≥ 0)) = true
              · rw [if_pos h12] at h
                rw [← Option.some.inj h]
                exact loop_out (path (ob_b h1 (ob_n h2 (ob_t (look_ts GValue.ts_map h3) (ob_c (ht.value_plain _ _ _ h4) (ob_b (congrArg (!·) h5) (ob_b h6 (ob_b h6 (ob_b h6 (ob_b h7 (ob_b h7 (ob_b h7 (ob_b h7 (ob_v (len_ts GValue.ts_map (l := a8)) (ob_b h7 (ob_b h7 (ob_b h8 (ob_b h8 (ob_b h8 (ob_b h8 (ob_b h8 (ob_n h9 (ob_t (look_ts GValue.ts_map h10) (ob_b h8 (ob_b h8 (ob_b h8 (ob_c (ht.value_Cmp _ _ _ h11) (ob_b h8 (ob_b h8 (ob_b h12 ob))))))))))))))))))))))))))))) (by kernel_rfl)) (fun h => by cases h)
              · rw [if_neg h12] at h
                replace h12 := Bool.eq_false_iff.2 h12
                exact loop_more (path (ob_b h1 (ob_n h2 (ob_t (look_ts GValue.ts_map h3) (ob_c (ht.value_plain _ _ _ h4) (ob_b (congrArg (!·) h5) (ob_b h6 (ob_b h6 (ob_b h6 (ob_b h7 (ob_b h7 (ob_b h7 (ob_b h7 (ob_v (len_ts GValue.ts_map (l := a8)) (ob_b h7 (ob_b h7 (ob_b h8 (ob_b h8 (ob_b h8 (ob_b h8 (ob_b h8 (ob_n h9 (ob_t (look_ts GValue.ts_map h10) (ob_b h8 (ob_b h8 (ob_b h8 (ob_c (ht.value_Cmp _ _ _ h11) (ob_b h8 (ob_b h8 (ob_b h12 ob))))))))))))))))))))))))))))) (by kernel_rfl)) (value_plain_l4.okL ht n k _ _ _ _ _ _ _ _ _ _ h)
            · rw [if_neg h8] at h
              replace h8 := Bool.eq_false_iff.2 h8
              exact loop_more (path (ob_b h1 (ob_n h2 (ob_t (look_ts GValue.ts_map h3) (ob_c (ht.value_plain _ _ _ h4) (ob_b (congrArg (!·) h5) (ob_b h6 (ob_b h6 (ob_b h6 (ob_b h7 (ob_b h7 (ob_b h7 (ob_b h7 (ob_v (len_ts GValue.ts_map (l := a8)) (ob_b h7 (ob_b h7 (ob_b h8 (ob_b h8 (ob_b h8 (ob_b h8 (ob_b h8 (ob_b h8 (ob_b h8 (ob_b h8 (ob_b h8 (ob_b h8 (ob_b (rfl : false = false) ob)))))))))))))))))))))))))) (by kernel_rfl)) (value_plain_l4.okL ht n k _ _ _ _ _ _ _ _ _ _ h)
          · rw [if_neg h7] at h
            replace h7 := Bool.eq_false_iff.2 h7
            exact loop_more (path (ob_b h1 (ob_n h2 (ob_t (look_ts GValue.ts_map h3) (ob_c (ht.value_plain _ _ _ h4) (ob_b (congrArg (!·) h5) (ob_b h6 (ob_b h6 (ob_b h6 (ob_b h7 (ob_b h7 (ob_b h7 (ob_b h7 (ob_b h7 (ob_b h7 (ob_b (rfl : false = false) (ob_b (rfl : false = false) (ob_b (rfl : false = false) (ob_b (rfl : false = false) (ob_b (rfl : false = false) (ob_b (rfl : false = false) (ob_b (rfl : false = false) (ob_b (rfl : false = false) (ob_b (rfl : false = false) (ob_b (rfl : false = false) (ob_b (rfl : false = false) ob))))))))))))))))))))))))) (by kernel_rfl)) (value_plain_l4.okL ht n k _ _ _ _ _ _ _ _ _ _ h)
        · rw [if_neg h6] at h
          replace h6 := Bool.eq_false_iff.2 h6
          exact loop_more (path (ob_b h1 (ob_n h2 (ob_t (look_ts GValue.ts_map h3) (ob_c (ht.value_plain _ _ _ h4) (ob_b (congrArg (!·) h5) (ob_b h6 (ob_b h6 (ob_b h6 (ob_b (rfl : false = false) (ob_b (rfl : false = false) (ob_b (rfl : false = false) (ob_b (rfl : false = false) (ob_b (rfl : false = false) (ob_b (rfl : false = false) (ob_b (rfl : false = false) (ob_b (rfl : false = false) (ob_b (rfl : false = false) (ob_b (rfl : false = false) (ob_b (rfl : false = false) (ob_b (rfl : false = false) (ob_b (rfl : false = false) (ob_b (rfl : false = false) (ob_b (rfl : false = false) (ob_b (rfl : false = false) (ob_b (rfl : false = false) ob))))))))))))))))))))))))) (by kernel_rfl)) (value_plain_l4.okL ht n k _ _ _ _ _ _ _ _ _ _ h)
      · rw [if_neg h5] at h
        replace h5 := Bool.eq_false_iff.2 h5
        rw [← Option.some.inj h]
        exact loop_out (path (ob_b h1 (ob_n h2 (ob_t (look_ts GValue.ts_map h3) (ob_c (ht.value_plain _ _ _ h4) (ob_b (congrArg (!·) h5) ob))))) (by kernel_rfl)) (fun h => by cases h)
    · rw [if_neg h1] at h
      replace h1 := Bool.eq_false_iff.2 h1
      rw [← Option.some.inj h]
      exact loop_out (path (ob_b h1 ob) (by kernel_rfl)) (fun h => by cases h)
theorem value_plain_l4.ok {t : Tab} {call : FuncId → List AV → List AV → Option (AV × List AV)} (ht : TabOk t call) (n : Nat) (a1 : Int) (a2 : List GValue) (a3 : Int) (a4 : Int) (a5 : Int) (a6 : Int) (a7 : ByteArray) (a8 : List GValue) (a9 : List GValue) (r : Bool ⊕ (Int × (List GValue) × Int × Int × Bool × Int × Int × ByteArray × (List GValue) × (List GValue))) (h : value_plain_l4 t n n a1 a2 a3 a4 a5 a6 a7 a8 a9 = some r) : exec (env Try.prog 57 Try.f57 call) n (sub [1, 1, 1, 1, 1, 1, 0, 1, 0] (bodyOf Try.f57)) (mkSt 147 147 [(1, (.t (.v (.int .i64 a1)))), (2, (.ptr 2 0 [] 0)), (109, (.t (.sl false 5 (GValue.ts a2)))), (110, (.t (.v (.int .i64 a3)))), (111, (.t (.v (.int .i64 a4))))] [(2, (.t (.st [(.v (.int .i64 a5)), (.v (.int .i64 a6)), (.v (.string a7)), (.sl false 5 (GValue.ts a8)), (.sl false 5 (GValue.ts a9))])))]) = some (value_plain_l4.to r) := by
  have e1 : sub [1, 1, 1, 1, 1, 1, 0, 1, 0] (bodyOf Try.f57) = .loop (sub [1, 1, 1, 1, 1, 1, 0, 1, 0, 0] (bodyOf Try.f57)) := by kernel_rfl
  rw [e1, exec]
  exact value_plain_l4.okL ht n n a1 a2 a3 a4 a5 a6 a7 a8 a9 r h
theorem value_plain_j3.ok {t : Tab} {call : FuncId → List AV → List AV → Option (AV × List AV)} (ht : TabOk t call) (n : Nat) (a1 : Int) (a2 : Int) (a3 : Int) (a4 : ByteArray) (a5 : List GValue) (a6 : List GValue) (r : Bool) (h : value_plain_j3 t n a1 a2 a3 a4 a5 a6 = some r) : exec (env Try.prog 57 Try.f57 call) n (sub [1, 1, 1, 1, 1, 1] (bodyOf Try.f57)) (mkSt 147 147 [(1, (.t (.v (.int .i64 a1)))), (2, (.ptr 2 0 [] 0))] [(2, (.t (.st [(.v (.int .i64 a2)), (.v (.int .i64 a3)), (.v (.string a4)), (.sl false 5 (GValue.ts a5)), (.sl false 5 (GValue.ts a6))])))]) = some (value_plain_j3.to r) := by
  rw [value_plain_j3] at h
  rcases h1 : t.slices_Concat_Value ([a5, a6] : List (List GValue)) with _ | a7
  · rw [h1] at h; cases h
  rw [h1] at h
  dsimp only at h
  rcases h2 : value_plain_l4 t n n a1 a7 (a7.length : Int) 0 a2 a3 a4 a5 a6 with _ | q_
  · rw [h2] at h; cases h
  rw [h2] at h
  rcases q_ with a8 | ⟨a9, a10, a11, a12, a13, a14, a15, a16, a17, a18⟩
  · dsimp only at h
    rw [← Option.some.inj h]
    exact path (ob_c (ht.slices_Concat_Value _ _ h1) (ob_v (len_ts GValue.ts_map (l := a7)) (ob_k (value_plain_l4.ok ht n _ _ _ _ _ _ _ _ _ _ h2) ob))) (by kernel_rfl)
  · dsimp only at h
    rw [← Option.some.inj h]
    exact path (ob_c (ht.slices_Concat_Value _ _ h1) (ob_v (len_ts GValue.ts_map (l := a7)) (ob_k (value_plain_l4.ok ht n _ _ _ _ _ _ _ _ _ _ h2) ob))) (by kernel_rfl)
theorem value_plain_j2.ok {t : Tab} {call : FuncId → List AV → List AV → Option (AV × List AV)} (ht : TabOk t call) (n : Nat) (a1 : Int) (a2 : Int) (a3 : Int) (a4 : ByteArray) (a5 : List GValue) (a6 : List GValue) (r : Bool) (h : value_plain_j2 t n a1 a2 a3 a4 a5 a6 = some r) : exec (env Try.prog 57 Try.f57 call) n (sub [1, 1, 1, 1, 1] (bodyOf Try.f57)) (mkSt 147 147 [(1, (.t (.v (.int .i64 a1)))), (2, (.ptr 2 0 [] 0))] [(2, (.t (.st [(.v (.int .i64 a2)), (.v (.int .i64 a3)), (.v (.string a4)), (.sl false 5 (GValue.ts a5)), (.sl false 5 (GValue.ts a6))])))]) = some (value_plain_j2.to r) := by
  rw [value_plain_j2] at h
  by_cases h1 : (decide ((a5.length : Int) > 1000)) = true
  · rw [if_pos h1] at h
    rw [← Option.some.inj h]
    exact path (ob_v (len_ts GValue.ts_map (l := a5)) (ob_b h1 (ob_b h1 (ob_b h1 (ob_b h1 (ob_b h1 (ob_b h1 (ob_b (rfl : true = true) (ob_b (rfl : true = true) (ob_b (rfl : true = true) (ob_b (rfl : true = true) (ob_b (rfl : true = true) (ob_b (rfl : true = true) (ob_b (rfl : true = true) ob)))))))))))))) (by kernel_rfl)
  · rw [if_neg h1] at h
    replace h1 := Bool.eq_false_iff.2 h1
    by_cases h2 : (a2 == 7) = true
    · rw [if_pos h2] at h
      by_cases h3 : ((a6.length : Int) != (a5.length : Int)) = true
      · rw [if_pos h3] at h
        rw [← Option.some.inj h]
        exact path (ob_v (len_ts GValue.ts_map (l := a5)) (ob_b h1 (ob_b h1 (ob_b h1 (ob_b h1 (ob_b h2 (ob_b h2 (ob_b h2 (ob_v (len_ts GValue.ts_map (l := a6)) (ob_b h2 (ob_b h2 (ob_b h2 (ob_v (len_ts GValue.ts_map (l := a5)) (ob_b h2 (ob_b h1 (ob_b h2 (ob_b h1 (ob_b h3 (ob_b h3 (ob_b h3 (ob_b h3 (ob_b h3 (ob_b h3 (ob_b (rfl : true = true) ob)))))))))))))))))))))))) (by kernel_rfl)
      · rw [if_neg h3] at h
        replace h3 := Bool.eq_false_iff.2 h3
        by_cases h4 : (a2 != 7) = true
        · rw [if_pos h4] at h
          by_cases h5 : (decide ((a6.length : Int) > 0)) = true
          · rw [if_pos h5] at h
            rw [← Option.some.inj h]
            exact path (ob_v (len_ts GValue.ts_map (l := a5)) (ob_b h1 (ob_b h1 (ob_b h1 (ob_b h1 (ob_b h2 (ob_b h2 (ob_b h2 (ob_v (len_ts GValue.ts_map (l := a6)) (ob_b h2 (ob_b h2 (ob_b h2 (ob_v (len_ts GValue.ts_map (l := a5)) (ob_b h2 (ob_b h1 (ob_b h2 (ob_b h1 (ob_b h3 (ob_b h3 (ob_b h3 (ob_b h3 (ob_b h4 (ob_b h4 (ob_b h4 (ob_v (len_ts GValue.ts_map (l := a6)) (ob_b h4 (ob_b h3 (ob_b h4 (ob_b h3 (ob_b h5 ob)))))))))))))))))))))))))))))) (by kernel_rfl)
          · rw [if_neg h5] at h
            replace h5 := Bool.eq_false_iff.2 h5
            obtain ⟨a7, rfl⟩ : ∃ z_, z_ = r := ⟨_, rfl⟩
            have h6 := h
            exact path (ob_v (len_ts GValue.ts_map (l := a5)) (ob_b h1 (ob_b h1 (ob_b h1 (ob_b h1 (ob_b h2 (ob_b h2 (ob_b h2 (ob_v (len_ts GValue.ts_map (l := a6)) (ob_b h2 (ob_b h2 (ob_b h2 (ob_v (len_ts GValue.ts_map (l := a5)) (ob_b h2 (ob_b h1 (ob_b h2 (ob_b h1 (ob_b h3 (ob_b h3 (ob_b h3 (ob_b h3 (ob_b h4 (ob_b h4 (ob_b h4 (ob_v (len_ts GValue.ts_map (l := a6)) (ob_b h4 (ob_b h3 (ob_b h4 (ob_b h3 (ob_b h5 (ob_j (value_plain_j3.ok ht n _ _ _ _ _ _ _ h6) ob))))))))))))))))))))))))))))))) (by kernel_rfl)
        · rw [if_neg h4] at h
          replace h4 := Bool.eq_false_iff.2 h4
          obtain ⟨a8, rfl⟩ : ∃ z_, z_ = r := ⟨_, rfl⟩
          have h7 := h
          exact path (ob_v (len_ts GValue.ts_map (l := a5)) (ob_b h1 (ob_b h1 (ob_b h1 (ob_b h1 (ob_b h2 (ob_b h2 (ob_b h2 (ob_v (len_ts GValue.ts_map (l := a6)) (ob_b h2 (ob_b h2 (ob_b h2 (ob_v (len_ts GValue.ts_map (l := a5)) (ob_b h2 (ob_b h1 (ob_b h2 (ob_b h1 (ob_b h3 (ob_b h3 (ob_b h3 (ob_b h3 (ob_b h4 (ob_b h4 (ob_b h4 (ob_b h4 (ob_b h3 (ob_b h4 (ob_b h3 (ob_b (rfl : false = false) (ob_j (value_plain_j3.ok ht n _ _ _ _ _ _ _ h7) ob)))))))))))))))))))))))))))))) (by kernel_rfl)
    · rw [if_neg h2] at h
      replace h2 := Bool.eq_false_iff.2 h2
      by_cases h8 : (a2 != 7) = true
      · rw [if_pos h8] at h
        by_cases h9 : (decide ((a6.length : Int) > 0)) = true
        · rw [if_pos h9] at h
          rw [← Option.some.inj h]
          exact path (ob_v (len_ts GValue.ts_map (l := a5)) (ob_b h1 (ob_b h1 (ob_b h1 (ob_b h1 (ob_b h2 (ob_b h2 (ob_b h2 (ob_b h2 (ob_b h2 (ob_b h2 (ob_b h2 (ob_b h1 (ob_b h2 (ob_b h1 (ob_b (rfl : false = false) (ob_b (rfl : false = false) (ob_b (rfl : false = false) (ob_b (rfl : false = false) (ob_b h8 (ob_b h8 (ob_b h8 (ob_v (len_ts GValue.ts_map (l := a6)) (ob_b h8 (ob_b (rfl : false = false) (ob_b h8 (ob_b (rfl : false = false) (ob_b h9 ob)))))))))))))))))))))))))))) (by kernel_rfl)
        · rw [if_neg h9] at h
          replace h9 := Bool.eq_false_iff.2 h9
          obtain ⟨a9, rfl⟩ : ∃ z_, z_ = r := ⟨_, rfl⟩
          have h10 := h
          exact path (ob_v (len_ts GValue.ts_map (l := a5)) (ob_b h1 (ob_b h1 (ob_b h1 (ob_b h1 (ob_b h2 (ob_b h2 (ob_b h2 (ob_b h2 (ob_b h2 (ob_b h2 (ob_b h2 (ob_b h1 (ob_b h2 (ob_b h1 (ob_b (rfl : false = false) (ob_b (rfl : false = false) (ob_b (rfl : false = false) (ob_b (rfl : false = false) (ob_b h8 (ob_b h8 (ob_b h8 (ob_v (len_ts GValue.ts_map (l := a6)) (ob_b h8 (ob_b (rfl : false = false) (ob_b h8 (ob_b (rfl : false = false) (ob_b h9 (ob_j (value_plain_j3.ok ht n _ _ _ _ _ _ _ h10) ob))))))))))))))))))))))))))))) (by kernel_rfl)
      · rw [if_neg h8] at h
        replace h8 := Bool.eq_false_iff.2 h8
        obtain ⟨a10, rfl⟩ : ∃ z_, z_ = r := ⟨_, rfl⟩
        have h11 := h
        exact path (ob_v (len_ts GValue.ts_map (l := a5)) (ob_b h1 (ob_b h1 (ob_b h1 (ob_b h1 (ob_b h2 (ob_b h2 (ob_b h2 (ob_b h2 (ob_b h2 (ob_b h2 (ob_b h2 (ob_b h1 (ob_b h2 (ob_b h1 (ob_b (rfl : false = false) (ob_b (rfl : false = false) (ob_b (rfl : false = false) (ob_b (rfl : false = false) (ob_b h8 (ob_b h8 (ob_b h8 (ob_b h8 (ob_b (rfl : false = false) (ob_b h8 (ob_b (rfl : false = false) (ob_b (rfl : false = false) (ob_j (value_plain_j3.ok ht n _ _ _ _ _ _ _ h11) ob)))))))))))))))))))))))))))) (by kernel_rfl)
theorem value_plain_j1.ok {t : Tab} {call : FuncId → List AV → List AV → Option (AV × List AV)} (ht : TabOk t call) (n : Nat) (a1 : Int) (a2 : Bool) (a3 : Bool) (a4 : Int) (a5 : Int) (a6 : ByteArray) (a7 : List GValue) (a8 : List GValue) (r : Bool) (h : value_plain_j1 t n a1 a2 a3 a4 a5 a6 a7 a8 = some r) : exec (env Try.prog 57 Try.f57 call) n (sub [1, 1, 1, 1] (bodyOf Try.f57)) (mkSt 147 147 [(1, (.t (.v (.int .i64 a1)))), (2, (.ptr 2 0 [] 0)), (5, (.t (.v (.bool a2)))), (6, (.t (.v (.bool a3))))] [(2, (.t (.st [(.v (.int .i64 a4)), (.v (.int .i64 a5)), (.v (.string a6)), (.sl false 5 (GValue.ts a7)), (.sl false 5 (GValue.ts a8))])))]) = some (value_plain_j1.to r) := by
  rw [value_plain_j1] at h
  by_cases h1 : a3 = true
  · rw [if_pos h1] at h
    by_cases h2 : (decide ((a6.size : Int) > 1000)) = true
    · rw [if_pos h2] at h
      rw [← Option.some.inj h]
      exact path (ob_b (congrArg (!·) h1) (ob_b (congrArg (!·) h1) (ob_b (congrArg (!·) h1) (ob_b (congrArg (!·) h1) (ob_b (rfl : false = false) (ob_b (rfl : false = false) (ob_b (rfl : false = false) (ob_b (rfl : false = false) (ob_b (rfl : false = false) (ob_b h2 (ob_b h2 (ob_b h2 (ob_b h2 (ob_b h2 (ob_b h2 (ob_b (rfl : true = true) (ob_b (rfl : true = true) (ob_b (rfl : true = true) (ob_b (rfl : true = true) (ob_b (rfl : true = true) (ob_b (rfl : true = true) ob))))))))))))))))))))) (by kernel_rfl)
    · rw [if_neg h2] at h
      replace h2 := Bool.eq_false_iff.2 h2
      by_cases h3 : (a5 != 0) = true
      · rw [if_pos h3] at h
        rw [← Option.some.inj h]
        exact path (ob_b (congrArg (!·) h1) (ob_b (congrArg (!·) h1) (ob_b (congrArg (!·) h1) (ob_b (congrArg (!·) h1) (ob_b (rfl : false = false) (ob_b (rfl : false = false) (ob_b (rfl : false = false) (ob_b (rfl : false = false) (ob_b (rfl : false = false) (ob_b h2 (ob_b h2 (ob_b h1 (ob_b h2 (ob_b h1 (ob_b h2 (ob_b (rfl : true = true) (ob_b (rfl : true = true) (ob_b (rfl : true = true) (ob_b h2 (ob_b (rfl : true = true) (ob_b h2 (ob_b h3 (ob_b h3 (ob_b h3 (ob_b h3 (ob_b h3 (ob_b (rfl : true = true) ob))))))))))))))))))))))))))) (by kernel_rfl)
      · rw [if_neg h3] at h
        replace h3 := Bool.eq_false_iff.2 h3
        by_cases h4 : a2 = true
        · rw [if_pos h4] at h
          obtain ⟨a9, rfl⟩ : ∃ z_, z_ = r := ⟨_, rfl⟩
          have h5 := h
          exact path (ob_b (congrArg (!·) h1) (ob_b (congrArg (!·) h1) (ob_b (congrArg (!·) h1) (ob_b (congrArg (!·) h1) (ob_b (rfl : false = false) (ob_b (rfl : false = false) (ob_b (rfl : false = false) (ob_b (rfl : false = false) (ob_b (rfl : false = false) (ob_b h2 (ob_b h2 (ob_b h1 (ob_b h2 (ob_b h1 (ob_b h2 (ob_b (rfl : true = true) (ob_b (rfl : true = true) (ob_b (rfl : true = true) (ob_b h2 (ob_b (rfl : true = true) (ob_b h2 (ob_b h3 (ob_b h3 (ob_b h3 (ob_b (congrArg (!·) h4) (ob_b (congrArg (!·) h4) (ob_b (congrArg (!·) h4) (ob_b (congrArg (!·) h4) (ob_b (congrArg (!·) h4) (ob_b (congrArg (!·) h4) (ob_b (congrArg (!·) h4) (ob_b (congrArg (!·) h4) (ob_b h3 (ob_b (congrArg (!·) h4) (ob_b h3 (ob_b (rfl : false = false) (ob_j (value_plain_j2.ok ht n _ _ _ _ _ _ _ h5) ob))))))))))))))))))))))))))))))))))))) (by kernel_rfl)
        · rw [if_neg h4] at h
          replace h4 := Bool.eq_false_iff.2 h4
          by_cases h6 : (decide ((IntKind.wrap .i64 ((a7.length : Int) + (a8.length : Int))) > 0)) = true
          · rw [if_pos h6] at h
            rw [← Option.some.inj h]
            exact path (ob_b (congrArg (!·) h1) (ob_b (congrArg (!·) h1) (ob_b (congrArg (!·) h1) (ob_b (congrArg (!·) h1) (ob_b (rfl : false = false) (ob_b (rfl : false = false) (ob_b (rfl : false = false) (ob_b (rfl : false = false) (ob_b (rfl : false = false) (ob_b h2 (ob_b h2 (ob_b h1 (ob_b h2 (ob_b h1 (ob_b h2 (ob_b (rfl : true = true) (ob_b (rfl : true = true) (ob_b (rfl : true = true) (ob_b h2 (ob_b (rfl : true = true) (ob_b h2 (ob_b h3 (ob_b h3 (ob_b h3 (ob_b (congrArg (!·) h4) (ob_b (congrArg (!·) h4) (ob_b (congrArg (!·) h4) (ob_v (len_ts GValue.ts_map (l := a7)) (ob_b (congrArg (!·) h4) (ob_b (congrArg (!·) h4) (ob_b (congrArg (!·) h4) (ob_v (len_ts GValue.ts_map (l := a8)) (ob_b (congrArg (!·) h4) (ob_b (congrArg (!·) h4) (ob_b h3 (ob_b (congrArg (!·) h4) (ob_b h3 (ob_b h6 ob)))))))))))))))))))))))))))))))))))))) (by kernel_rfl)
          · rw [if_neg h6] at h
            replace h6 := Bool.eq_false_iff.2 h6
            obtain ⟨a10, rfl⟩ : ∃ z_, z_ = r := ⟨_, rfl⟩
            have h7 := h
            exact path (ob_b (congrArg (!·) h1) (ob_b (congrArg (!·) h1) (ob_b (congrArg (!·) h1) (ob_b (congrArg (!·) h1) (ob_b (rfl : false = false) (ob_b (rfl : false = false) (ob_b (rfl : false = false) (ob_b (rfl : false = false) (ob_b (rfl : false = false) (ob_b h2 (ob_b h2 (ob_b h1 (ob_b h2 (ob_b h1 (ob_b h2 (ob_b (rfl : true = true) (ob_b (rfl : true = true) (ob_b (rfl : true = true) (ob_b h2 (ob_b (rfl : true = true) (ob_b h2 (ob_b h3 (ob_b h3 (ob_b h3 (ob_b (congrArg (!·) h4) (ob_b (congrArg (!·) h4) (ob_b (congrArg (!·) h4) (ob_v (len_ts GValue.ts_map (l := a7)) (ob_b (congrArg (!·) h4) (ob_b (congrArg (!·) h4) (ob_b (congrArg (!·) h4) (ob_v (len_ts GValue.ts_map (l := a8)) (ob_b (congrArg (!·) h4) (ob_b (congrArg (!·) h4) (ob_b h3 (ob_b (congrArg (!·) h4) (ob_b h3 (ob_b h6 (ob_j (value_plain_j2.ok ht n _ _ _ _ _ _ _ h7) ob))))))))))))))))))))))))))))))))))))))) (by kernel_rfl)
  · rw [if_neg h1] at h
    replace h1 := Bool.eq_false_iff.2 h1
    by_cases h8 : (a6.toList == (ByteArray.mk #[]).toList) = true
    · rw [if_pos h8] at h
      by_cases h9 : (decide ((a6.size : Int) > 1000)) = true
      · rw [if_pos h9] at h
        rw [← Option.some.inj h]
        exact path (ob_b (congrArg (!·) h1) (ob_b (congrArg (!·) h1) (ob_b (congrArg (!·) h1) (ob_b (congrArg (!·) h1) (ob_b (congrArg (!·) h8) (ob_b (congrArg (!·) h8) (ob_b (congrArg (!·) h8) (ob_b (congrArg (!·) h8) (ob_b (congrArg (!·) h8) (ob_b h9 (ob_b h9 (ob_b h9 (ob_b h9 (ob_b h9 (ob_b h9 (ob_b (rfl : true = true) (ob_b (rfl : true = true) (ob_b (rfl : true = true) (ob_b (rfl : true = true) (ob_b (rfl : true = true) (ob_b (rfl : true = true) ob))))))))))))))))))))) (by kernel_rfl)
      · rw [if_neg h9] at h
        replace h9 := Bool.eq_false_iff.2 h9
        by_cases h10 : a2 = true
        · rw [if_pos h10] at h
          by_cases h11 : (a5 != 0) = true
          · rw [if_pos h11] at h
            rw [← Option.some.inj h]
            exact path (ob_b (congrArg (!·) h1) (ob_b (congrArg (!·) h1) (ob_b (congrArg (!·) h1) (ob_b (congrArg (!·) h1) (ob_b (congrArg (!·) h8) (ob_b (congrArg (!·) h8) (ob_b (congrArg (!·) h8) (ob_b (congrArg (!·) h8) (ob_b (congrArg (!·) h8) (ob_b h9 (ob_b h9 (ob_b h1 (ob_b h9 (ob_b h1 (ob_b h9 (ob_b h10 (ob_b h10 (ob_b h10 (ob_b h9 (ob_b h10 (ob_b h9 (ob_b h11 (ob_b h11 (ob_b h11 (ob_b h11 (ob_b h11 (ob_b (rfl : true = true) ob))))))))))))))))))))))))))) (by kernel_rfl)
          · rw [if_neg h11] at h
            replace h11 := Bool.eq_false_iff.2 h11
            obtain ⟨a11, rfl⟩ : ∃ z_, z_ = r := ⟨_, rfl⟩
            have h12 := h
            exact path (ob_b (congrArg (!·) h1) (ob_b (congrArg (!·) h1) (ob_b (congrArg (!·) h1) (ob_b (congrArg (!·) h1) (ob_b (congrArg (!·) h8) (ob_b (congrArg (!·) h8) (ob_b (congrArg (!·) h8) (ob_b (congrArg (!·) h8) (ob_b (congrArg (!·) h8) (ob_b h9 (ob_b h9 (ob_b h1 (ob_b h9 (ob_b h1 (ob_b h9 (ob_b h10 (ob_b h10 (ob_b h10 (ob_b h9 (ob_b h10 (ob_b h9 (ob_b h11 (ob_b h11 (ob_b h11 (ob_b (congrArg (!·) h10) (ob_b (congrArg (!·) h10) (ob_b (congrArg (!·) h10) (ob_b (congrArg (!·) h10) (ob_b (congrArg (!·) h10) (ob_b (congrArg (!·) h10) (ob_b (congrArg (!·) h10) (ob_b (congrArg (!·) h10) (ob_b h11 (ob_b (congrArg (!·) h10) (ob_b h11 (ob_b (rfl : false = false) (ob_j (value_plain_j2.ok ht n _ _ _ _ _ _ _ h12) ob))))))))))))))))))))))))))))))))))))) (by kernel_rfl)
        · rw [if_neg h10] at h
          replace h10 := Bool.eq_false_iff.2 h10
          by_cases h13 : (decide ((IntKind.wrap .i64 ((a7.length : Int) + (a8.length : Int))) > 0)) = true
          · rw [if_pos h13] at h
            rw [← Option.some.inj h]
            exact path (ob_b (congrArg (!·) h1) (ob_b (congrArg (!·) h1) (ob_b (congrArg (!·) h1) (ob_b (congrArg (!·) h1) (ob_b (congrArg (!·) h8) (ob_b (congrArg (!·) h8) (ob_b (congrArg (!·) h8) (ob_b (congrArg (!·) h8) (ob_b (congrArg (!·) h8) (ob_b h9 (ob_b h9 (ob_b h1 (ob_b h9 (ob_b h1 (ob_b h9 (ob_b h10 (ob_b h10 (ob_b h10 (ob_b h9 (ob_b h10 (ob_b h9 (ob_b (rfl : false = false) (ob_b (rfl : false = false) (ob_b (rfl : false = false) (ob_b (congrArg (!·) h10) (ob_b (congrArg (!·) h10) (ob_b (congrArg (!·) h10) (ob_v (len_ts GValue.ts_map (l := a7)) (ob_b (congrArg (!·) h10) (ob_b (congrArg (!·) h10) (ob_b (congrArg (!·) h10) (ob_v (len_ts GValue.ts_map (l := a8)) (ob_b (congrArg (!·) h10) (ob_b (congrArg (!·) h10) (ob_b (rfl : false = false) (ob_b (congrArg (!·) h10) (ob_b (rfl : false = false) (ob_b h13 ob)))))))))))))))))))))))))))))))))))))) (by kernel_rfl)
          · rw [if_neg h13] at h
            replace h13 := Bool.eq_false_iff.2 h13
            obtain ⟨a12, rfl⟩ : ∃ z_, z_ = r := ⟨_, rfl⟩
            have h14 := h
            exact path (ob_b (congrArg (!·) h1) (ob_b (congrArg (!·) h1) (ob_b (congrArg (!·) h1) (ob_b (congrArg (!·) h1) (ob_b (congrArg (!·) h8) (ob_b (congrArg (!·) h8) (ob_b (congrArg (!·) h8) (ob_b (congrArg (!·) h8) (ob_b (congrArg (!·) h8) (ob_b h9 (ob_b h9 (ob_b h1 (ob_b h9 (ob_b h1 (ob_b h9 (ob_b h10 (ob_b h10 (ob_b h10 (ob_b h9 (ob_b h10 (ob_b h9 (ob_b (rfl : false = false) (ob_b (rfl : false = false) (ob_b (rfl : false = false) (ob_b (congrArg (!·) h10) (ob_b (congrArg (!·) h10) (ob_b (congrArg (!·) h10) (ob_v (len_ts GValue.ts_map (l := a7)) (ob_b (congrArg (!·) h10) (ob_b (congrArg (!·) h10) (ob_b (congrArg (!·) h10) (ob_v (len_ts GValue.ts_map (l := a8)) (ob_b (congrArg (!·) h10) (ob_b (congrArg (!·) h10) (ob_b (rfl : false = false) (ob_b (congrArg (!·) h10) (ob_b (rfl : false = false) (ob_b h13 (ob_j (value_plain_j2.ok ht n _ _ _ _ _ _ _ h14) ob))))))))))))))))))))))))))))))))))))))) (by kernel_rfl)
    · rw [if_neg h8] at h
      replace h8 := Bool.eq_false_iff.2 h8
      rw [← Option.some.inj h]
      exact path (ob_b (congrArg (!·) h1) (ob_b (congrArg (!·) h1) (ob_b (congrArg (!·) h1) (ob_b (congrArg (!·) h1) (ob_b (congrArg (!·) h8) (ob_b (congrArg (!·) h8) (ob_b (congrArg (!·) h8) (ob_b (congrArg (!·) h8) (ob_b (congrArg (!·) h8) (ob_b (rfl : true = true) (ob_b (rfl : true = true) (ob_b (rfl : true = true) (ob_b (rfl : true = true) (ob_b (rfl : true = true) (ob_b (rfl : true = true) (ob_b (rfl : true = true) (ob_b (rfl : true = true) (ob_b (rfl : true = true) (ob_b (rfl : true = true) (ob_b (rfl : true = true) (ob_b (rfl : true = true) ob))))))))))))))))))))) (by kernel_rfl)
theorem value_plain_j5.ok {t : Tab} {call : FuncId → List AV → List AV → Option (AV × List AV)} (ht : TabOk t call) (n : Nat) (a1 : Int) (a2 : Bool) (a3 : Bool) (a4 : Int) (a5 : Bool) (a6 : Int) (a7 : Int) (a8 : ByteArray) (a9 : List GValue) (a10 : List GValue) (r : Bool ⊕ (Int × Bool × Bool × Int × Int × ByteArray × (List GValue) × (List GValue))) (h : value_plain_j5 t n a1 a2 a3 a4 a5 a6 a7 a8 a9 a10 = some r) : exec (env Try.prog 57 Try.f57 call) n (sub [1, 1, 1, 0, 1, 0, 1, 1, 1, 1, 1] (bodyOf Try.f57)) (mkSt 147 147 [(1, (.t (.v (.int .i64 a1)))), (2, (.ptr 2 0 [] 0)), (5, (.t (.v (.bool a2)))), (6, (.t (.v (.bool a3)))), (12, (.t (.v (.int .i64 a4)))), (25, (.t (.v (.bool a5))))] [(2, (.t (.st [(.v (.int .i64 a6)), (.v (.int .i64 a7)), (.v (.string a8)), (.sl false 5 (GValue.ts a9)), (.sl false 5 (GValue.ts a10))])))]) = some (value_plain_j5.to r) := by
  rw [value_plain_j5] at h
  by_cases h1 : a5 = true
  · rw [if_pos h1] at h
    by_cases h2 : (decide (a7 < 0)) = true
    · rw [if_pos h2] at h
      rw [← Option.some.inj h]
      exact path (ob_b h1 (ob_b h2 ob)) (by kernel_rfl)
    · rw [if_neg h2] at h
      replace h2 := Bool.eq_false_iff.2 h2
      rw [← Option.some.inj h]
      exact path (ob_b h1 (ob_b h2 ob)) (by kernel_rfl)
  · rw [if_neg h1] at h
    replace h1 := Bool.eq_false_iff.2 h1
    by_cases h3 : (a4 == 3) = true
    · rw [if_pos h3] at h
      rw [← Option.some.inj h]
      exact path (ob_b h1 (ob_b h3 ob)) (by kernel_rfl)
    · rw [if_neg h3] at h
      replace h3 := Bool.eq_false_iff.2 h3
      by_cases h4 : (a4 == 6) = true
      · rw [if_pos h4] at h
        rw [← Option.some.inj h]
        exact path (ob_b h1 (ob_b h3 (ob_b h4 (ob_b h4 ob)))) (by kernel_rfl)
      · rw [if_neg h4] at h
        replace h4 := Bool.eq_false_iff.2 h4
        by_cases h5 : (a4 == 8) = true
        · rw [if_pos h5] at h
          rw [← Option.some.inj h]
          exact path (ob_b h1 (ob_b h3 (ob_b h4 (ob_b h5 (ob_b h5 ob))))) (by kernel_rfl)
        · rw [if_neg h5] at h
          replace h5 := Bool.eq_false_iff.2 h5
          by_cases h6 : (a4 == 7) = true
          · rw [if_pos h6] at h
            rw [← Option.some.inj h]
            exact path (ob_b h1 (ob_b h3 (ob_b h4 (ob_b h5 (ob_b h6 ob))))) (by kernel_rfl)
          · rw [if_neg h6] at h
            replace h6 := Bool.eq_false_iff.2 h6
            rw [← Option.some.inj h]
            exact path (ob_b h1 (ob_b h3 (ob_b h4 (ob_b h5 (ob_b h6 ob))))) (by kernel_rfl)
theorem value_plain.ok {n : Nat} {t : Tab} (ht : TabOk t (run Try.prog own kp X n)) : ∀ (p1 : GValue) (p2 : Int) r, value_plain t n p1 p2 = some r → run Try.prog own kp X (n + 1) 57 [(.t (GValue.t p1)), (.t (.v (.int .i64 p2)))] [] = some ((.t (.v (.bool r))), []) := by
  intro p1 p2 r h
  obtain ⟨a1, a2, a3, a4, a5⟩ := p1
  obtain ⟨a6, rfl⟩ : ∃ z_, z_ = p2 := ⟨_, rfl⟩
  rw [value_plain] at h
  by_cases h1 : (decide (a6 > 12)) = true
  · rw [if_pos h1] at h
    rw [← Option.some.inj h]
    exact run_path Try.func57 (ob_b h1 ob) (by kernel_rfl)
  · rw [if_neg h1] at h
    replace h1 := Bool.eq_false_iff.2 h1
    by_cases h2 : (a1 == 1) = true
    · rw [if_pos h2] at h
      by_cases h3 : (decide (a2 < 0)) = true
      · rw [if_pos h3] at h
        rw [← Option.some.inj h]
        exact run_path Try.func57 (ob_b h1 (ob_b h2 (ob_b h3 (ob_b h3 (ob_b h3 (ob_b h3 (ob_b (rfl : true = true) ob))))))) (by kernel_rfl)
      · rw [if_neg h3] at h
        replace h3 := Bool.eq_false_iff.2 h3
        by_cases h4 : (decide (a2 > 1)) = true
        · rw [if_pos h4] at h
          rw [← Option.some.inj h]
          exact run_path Try.func57 (ob_b h1 (ob_b h2 (ob_b h3 (ob_b h3 (ob_b h3 (ob_b h3 (ob_b h4 ob))))))) (by kernel_rfl)
        · rw [if_neg h4] at h
          replace h4 := Bool.eq_false_iff.2 h4
          obtain ⟨a7, rfl⟩ : ∃ z_, z_ = r := ⟨_, rfl⟩
          have h5 := h
          exact run_path Try.func57 (ob_b h1 (ob_b h2 (ob_b h3 (ob_b h3 (ob_b h3 (ob_b h3 (ob_b h4 (ob_j (value_plain_j1.ok ht n _ _ _ _ _ _ _ _ _ h5) ob)))))))) (by kernel_rfl)
    · rw [if_neg h2] at h
      replace h2 := Bool.eq_false_iff.2 h2
      by_cases h6 : (a1 == 2) = true
      · rw [if_pos h6] at h
        obtain ⟨a8, rfl⟩ : ∃ z_, z_ = r := ⟨_, rfl⟩
        have h7 := h
        exact run_path Try.func57 (ob_b h1 (ob_b h2 (ob_b h6 (ob_j (value_plain_j1.ok ht n _ _ _ _ _ _ _ _ _ h7) ob)))) (by kernel_rfl)
      · rw [if_neg h6] at h
        replace h6 := Bool.eq_false_iff.2 h6
        by_cases h8 : (a1 == 4) = true
        · rw [if_pos h8] at h
          rcases h9 : value_plain_j5 t n  a6 false false a1 (a1 == 4) a1 a2 a3 a4 a5 with _ | q_
          · rw [h9] at h; cases h
          rw [h9] at h
          rcases q_ with a9 | ⟨a10, a11, a12, a13, a14, a15, a16, a17⟩
          · dsimp only at h
            rw [← Option.some.inj h]
            exact run_path Try.func57 (ob_b h1 (ob_b h2 (ob_b h6 (ob_b h8 (ob_j (value_plain_j5.ok ht n _ _ _ _ _ _ _ _ _ _ _ h9) ob))))) (by kernel_rfl)
          · dsimp only at h
            obtain ⟨a18, rfl⟩ : ∃ z_, z_ = r := ⟨_, rfl⟩
            have h10 := h
            exact run_path Try.func57 (ob_b h1 (ob_b h2 (ob_b h6 (ob_b h8 (ob_j (value_plain_j5.ok ht n _ _ _ _ _ _ _ _ _ _ _ h9) (ob_j (value_plain_j1.ok ht n _ _ _ _ _ _ _ _ _ h10) ob)))))) (by kernel_rfl)
        · rw [if_neg h8] at h
          replace h8 := Bool.eq_false_iff.2 h8
          rcases h11 : value_plain_j5 t n  a6 false false a1 (a1 == 5) a1 a2 a3 a4 a5 with _ | q_
          · rw [h11] at h; cases h
          rw [h11] at h
          rcases q_ with a19 | ⟨a20, a21, a22, a23, a24, a25, a26, a27⟩
          · dsimp only at h
            rw [← Option.some.inj h]
            exact run_path Try.func57 (ob_b h1 (ob_b h2 (ob_b h6 (ob_b h8 (ob_j (value_plain_j5.ok ht n _ _ _ _ _ _ _ _ _ _ _ h11) ob))))) (by kernel_rfl)
          · dsimp only at h
            obtain ⟨a28, rfl⟩ : ∃ z_, z_ = r := ⟨_, rfl⟩
            have h12 := h
            exact run_path Try.func57 (ob_b h1 (ob_b h2 (ob_b h6 (ob_b h8 (ob_j (value_plain_j5.ok ht n _ _ _ _ _ _ _ _ _ _ _ h11) (ob_j (value_plain_j1.ok ht n _ _ _ _ _ _ _ _ _ h12) ob)))))) (by kernel_rfl)
theorem cmp_isNaN_int.ok {n : Nat} {t : Tab} (ht : TabOk t (run Try.prog own kp X n)) : ∀ (p1 : Int) r, cmp_isNaN_int t n p1 = some r → run Try.prog own kp X (n + 1) 72 [(.t (.v (.int .i64 p1)))] [] = some ((.t (.v (.bool r))), []) := by
  intro p1 r h
  obtain ⟨a1, rfl⟩ : ∃ z_, z_ = p1 := ⟨_, rfl⟩
  rw [cmp_isNaN_int] at h
  rw [← Option.some.inj h]
  exact run_path Try.func72 ob (by kernel_rfl)
theorem value_compare_1.ok {n : Nat} {t : Tab} (ht : TabOk t (run Try.prog own kp X n)) : ∀ (p1 : GValue) (p2 : GValue) (p3 : Int) r, value_compare_1 t n p1 p2 p3 = some r → run Try.prog own kp X (n + 1) 70 [(.t (GValue.t p1)), (.t (GValue.t p2)), (.ref (.v (.int .i64 p3)))] [] = some ((.t (.v (.int .i64 r))), []) := by
  intro p1 p2 p3 r h
  obtain ⟨a1, a2, a3, a4, a5⟩ := p1
  obtain ⟨a6, a7, a8, a9, a10⟩ := p2
  obtain ⟨a11, rfl⟩ : ∃ z_, z_ = p3 := ⟨_, rfl⟩
  rw [value_compare_1] at h
  obtain ⟨a12, rfl⟩ : ∃ z_, z_ = r := ⟨_, rfl⟩
  have h1 := h
  exact run_path Try.func70 (ob_c (ht.value_compare _ _ _ _ h1) ob) (by kernel_rfl)
theorem slices_Concat_Value_l1.okL {t : Tab} {call : FuncId → List AV → List AV → Option (AV × List AV)} (ht : TabOk t call) (n : Nat) : ∀ (k : Nat) (a1 : List (List GValue)) (a2 : Int) (a3 : List (List GValue)) (a4 : Int) (a5 : Int) (r : (List (List GValue)) × Int × (List (List GValue)) × Int × Int × Bool), slices_Concat_Value_l1 t n k a1 a2 a3 a4 a5 = some r → loopN (exec (env Try.prog 63 Try.f63 call) n (sub [1, 1, 0, 1, 0, 0] (bodyOf Try.f63))) k (mkSt 36 36 [(0, (.t (.sl false 1 (rows_GValue_ts a1)))), (3, (.t (.v (.int .i64 a2)))), (9, (.t (.sl false 1 (rows_GValue_ts a3)))), (10, (.t (.v (.int .i64 a4)))), (11, (.t (.v (.int .i64 a5))))] []) = some (slices_Concat_Value_l1.to r)
  | 0, a1, a2, a3, a4, a5, r, h => by rw [slices_Concat_Value_l1] at h; cases h
  | k + 1, a1, a2, a3, a4, a5, r, h => by
    rw [slices_Concat_Value_l1] at h
    by_cases h1 : (decide (a5 < a4)) = true
    · rw [if_pos h1] at h
      by_cases h2 : (decide (0 ≤ (a5 : Int))) = true
      case neg => rw [if_neg h2] at h; cases h
      rw [if_pos h2] at h
      rcases h3 : a3[(a5 : Int).toNat]? with _ | a6
      · rw [h3] at h; cases h
      rw [h3] at h
      dsimp only at h
      by_cases h4 : (decide ((IntKind.wrap .i64 (a2 + (a6.length : Int))) < 0)) = true
      · rw [if_pos h4] at h
        cases h
      · rw [if_neg h4] at h
        replace h4 := Bool.eq_false_iff.2 h4
        exact loop_more (path (ob_b h1 (ob_n h2 (ob_t (look_ts rows_GValue_ts_map h3) (ob_v (len_ts GValue.ts_map (l := a6)) (ob_b h4 ob))))) (by kernel_rfl)) (slices_Concat_Value_l1.okL ht n k _ _ _ _ _ _ h)
    · rw [if_neg h1] at h
      replace h1 := Bool.eq_false_iff.2 h1
      rw [← Option.some.inj h]
      exact loop_out (path (ob_b h1 ob) (by kernel_rfl)) (fun h => by cases h)
theorem slices_Concat_Value_l1.ok {t : Tab} {call : FuncId → List AV → List AV → Option (AV × List AV)} (ht : TabOk t call) (n : Nat) (a1 : List (List GValue)) (a2 : Int) (a3 : List (List GValue)) (a4 : Int) (a5 : Int) (r : (List (List GValue)) × Int × (List (List GValue)) × Int × Int × Bool) (h : slices_Concat_Value_l1 t n n a1 a2 a3 a4 a5 = some r) : exec (env Try.prog 63 Try.f63 call) n (sub [1, 1, 0, 1, 0] (bodyOf Try.f63)) (mkSt 36 36 [(0, (.t (.sl false 1 (rows_GValue_ts a1)))), (3, (.t (.v (.int .i64 a2)))), (9, (.t (.sl false 1 (rows_GValue_ts a3)))), (10, (.t (.v (.int .i64 a4)))), (11, (.t (.v (.int .i64 a5))))] []) = some (slices_Concat_Value_l1.to r) := by
  have e1 : sub [1, 1, 0, 1, 0] (bodyOf Try.f63) = .loop (sub [1, 1, 0, 1, 0, 0] (bodyOf Try.f63)) := by kernel_rfl
  rw [e1, exec]
  exact slices_Concat_Value_l1.okL ht n n a1 a2 a3 a4 a5 r h
theorem slices_Concat_Value_l3.okL {t : Tab} {call : FuncId → List AV → List AV → Option (AV × List AV)} (ht : TabOk t call) (n : Nat) : ∀ (k : Nat) (a1 : List GValue) (a2 : List (List GValue)) (a3 : Int) (a4 : Int) (r : (List GValue) × (List (List GValue)) × Int × Int × Bool), slices_Concat_Value_l3 t n k a1 a2 a3 a4 = some r → loopN (exec (env Try.prog 63 Try.f63 call) n (sub [1, 1, 1, 1, 0, 1, 0, 0] (bodyOf Try.f63))) k (mkSt 36 36 [(6, (.t (.sl true 5 (GValue.ts a1)))), (25, (.t (.sl false 1 (rows_GValue_ts a2)))), (26, (.t (.v (.int .i64 a3)))), (27, (.t (.v (.int .i64 a4))))] []) = some (slices_Concat_Value_l3.to r)
  | 0, a1, a2, a3, a4, r, h => by rw [slices_Concat_Value_l3] at h; cases h
  | k + 1, a1, a2, a3, a4, r, h => by
    rw [slices_Concat_Value_l3] at h
    by_cases h1 : (decide (a4 < a3)) = true
    · rw [if_pos h1] at h
      by_cases h2 : (decide (0 ≤ (a4 : Int))) = true
      case neg => rw [if_neg h2] at h; cases h
      rw [if_pos h2] at h
      rcases h3 : a2[(a4 : Int).toNat]? with _ | a5
      · rw [h3] at h; cases h
      rw [h3] at h
      dsimp only at h
      by_cases h4 : (a1.length + a5.length) * 80 ≤ 140737488355328
      case neg => rw [if_neg h4] at h; cases h
      rw [if_pos h4] at h
      exact loop_more (path (ob_b h1 (ob_n h2 (ob_t (look_ts rows_GValue_ts_map h3) (ob_le (room_ts GValue.ts_map h4) (ob_l (app_ts GValue.ts_map (a := a1) (b := a5)) ob))))) (by kernel_rfl)) (slices_Concat_Value_l3.okL ht n k _ _ _ _ _ h)
    · rw [if_neg h1] at h
      replace h1 := Bool.eq_false_iff.2 h1
      rw [← Option.some.inj h]
      exact loop_out (path (ob_b h1 ob) (by kernel_rfl)) (fun h => by cases h)
theorem slices_Concat_Value_l3.ok {t : Tab} {call : FuncId → List AV → List AV → Option (AV × List AV)} (ht : TabOk t call) (n : Nat) (a1 : List GValue) (a2 : List (List GValue)) (a3 : Int) (a4 : Int) (r : (List GValue) × (List (List GValue)) × Int × Int × Bool) (h : slices_Concat_Value_l3 t n n a1 a2 a3 a4 = some r) : exec (env Try.prog 63 Try.f63 call) n (sub [1, 1, 1, 1, 0, 1, 0] (bodyOf Try.f63)) (mkSt 36 36 [(6, (.t (.sl true 5 (GValue.ts a1)))), (25, (.t (.sl false 1 (rows_GValue_ts a2)))), (26, (.t (.v (.int .i64 a3)))), (27, (.t (.v (.int .i64 a4))))] []) = some (slices_Concat_Value_l3.to r) := by
  have e1 : sub [1, 1, 1, 1, 0, 1, 0] (bodyOf Try.f63) = .loop (sub [1, 1, 1, 1, 0, 1, 0, 0] (bodyOf Try.f63)) := by kernel_rfl
  rw [e1, exec]
  exact slices_Concat_Value_l3.okL ht n n a1 a2 a3 a4 r h
theorem slices_Concat_Value_j2.ok {t : Tab} {call : FuncId → List AV → List AV → Option (AV × List AV)} (ht : TabOk t call) (n : Nat) (a1 : List (List GValue)) (a2 : Int) (r : List GValue) (h : slices_Concat_Value_j2 t n a1 a2 = some r) : exec (env Try.prog 63 Try.f63 call) n (sub [1, 1, 1] (bodyOf Try.f63)) (mkSt 36 36 [(0, (.t (.sl false 1 (rows_GValue_ts a1)))), (3, (.t (.v (.int .i64 a2))))] []) = some (slices_Concat_Value_j2.to r) := by
  rw [slices_Concat_Value_j2] at h
  rcases h1 : t.slices_Grow_Value ([] : List GValue) a2 with _ | a3
  · rw [h1] at h; cases h
  rw [h1] at h
  dsimp only at h
  rcases h2 : slices_Concat_Value_l3 t n n a3 a1 (a1.length : Int) 0 with _ | q_
  · rw [h2] at h; cases h
  rw [h2] at h
  obtain ⟨a4, a5, a6, a7, a8⟩ := q_
  dsimp only at h
  rw [← Option.some.inj h]
  exact path (ob_c (ht.slices_Grow_Value _ _ _ h1) (ob_v (len_ts rows_GValue_ts_map (l := a1)) (ob_k (slices_Concat_Value_l3.ok ht n _ _ _ _ _ h2) ob))) (by kernel_rfl)
theorem slices_Concat_Value.ok {n : Nat} {t : Tab} (ht : TabOk t (run Try.prog own kp X n)) : ∀ (p1 : List (List GValue)) r, slices_Concat_Value t n p1 = some r → run Try.prog own kp X (n + 1) 63 [(.t (.sl false 1 (rows_GValue_ts p1)))] [] = some ((.t (.sl false 5 (GValue.ts r))), []) := by
  intro p1 r h
  obtain ⟨a1, rfl⟩ : ∃ z_, z_ = p1 := ⟨_, rfl⟩
  rw [slices_Concat_Value] at h
  rcases h1 : slices_Concat_Value_l1 t n n a1 0 a1 (a1.length : Int) 0 with _ | q_
  · rw [h1] at h; cases h
  rw [h1] at h
  obtain ⟨a2, a3, a4, a5, a6, a7⟩ := q_
  dsimp only at h
  obtain ⟨a8, rfl⟩ : ∃ z_, z_ = r := ⟨_, rfl⟩
  have h2 := h
  exact run_path Try.func63 (ob_v (len_ts rows_GValue_ts_map (l := a1)) (ob_k (slices_Concat_Value_l1.ok ht n _ _ _ _ _ _ h1) (ob_j (slices_Concat_Value_j2.ok ht n _ _ _ h2) ob))) (by kernel_rfl)
end Go.Proofs.Ytcgckbjdadmcmaa.W
