/- The proofs of it, part 0. -/
import Derived.Test.YtgkfjhfehdefaaaDoorP7C
namespace Go.Proofs.YtgkfjhfehdefaaaDoor.W
open Go.Proofs.YtgkfjhfehdefaaaDoor.Flat
set_option linter.unusedVariables false
set_option linter.unusedSimpArgs false
variable {t : Tab} {call : FuncId → List AV → List AV → Option (AV × List AV)}
theorem law12_PlanHurt_j2.ok (ht : TabOk t call) (n : Nat) (a1 : List GStep) (a2 a3 : Int) (a4 : List GStep) (r : _) (h : law12_PlanHurt_j2 t n a1 a2 a3 a4 = some r) : exec (env Tryd.prog 5 Tryd.f5 call) n (sub [1, 1, 1, 1] (bodyOf Tryd.f5)) (mkSt 103 103 [(0, (.t (.sl false 14 (GStep.ts a1)))), (2, (.t (.v (.int .u8 a2)))), (7, (.t (.v (.int .i64 a3)))), (8, (.t (.sl false 14 (GStep.ts a4))))] []) = some (law12_PlanHurt_j2.to r) := by
  rw [law12_PlanHurt_j2] at h
  by_cases h1 : (decide (0 ≤ (0 : Int) ∧ (0 : Int) ≤ (a3 : Int) ∧ (a3 : Int) ≤ (a1.length : Int))) = true
  case neg => rw [if_neg h1] at h; cases h
  rw [if_pos h1] at h
  by_cases h2 : (([] : List GStep).length + ((a1.take (a3 : Int).toNat).drop (0 : Int).toNat).length) * 264 ≤ 140737488355328
  case neg => rw [if_neg h2] at h; cases h
  rw [if_pos h2] at h
  rcases h3 : remI .i64 (IntKind.wrap .i64 a2) 24 with _ | a5
  · rw [h3] at h; cases h
  rw [h3] at h
  dsimp only at h
  by_cases h4 : (decide (0 ≤ (a5 : Int))) = true
  case neg => rw [if_neg h4] at h; cases h
  rw [if_pos h4] at h
  rcases h5 : a4[(a5 : Int).toNat]? with _ | ⟨a6, a7, a8, ⟨a9, a10, a11, a12, a13⟩, ⟨a14, a15, a16⟩, a17, a18, a19⟩
  · rw [h5] at h; cases h
  rw [h5] at h
  dsimp only at h
  by_cases h6 : ((([] : List GStep) ++ ((a1.take (a3 : Int).toNat).drop (0 : Int).toNat)).length + ([(GStep.mk a6 a7 a8 (GValue.mk a9 a10 a11 a12 a13) (GPred.mk a14 a15 a16) a17 a18 a19)] : List GStep).length) * 264 ≤ 140737488355328
  case neg => rw [if_neg h6] at h; cases h
  rw [if_pos h6] at h
  by_cases h7 : (decide (0 ≤ (a3 : Int) ∧ (a3 : Int) ≤ ((a1.length : Int) : Int) ∧ ((a1.length : Int) : Int) ≤ (a1.length : Int))) = true
  case neg => rw [if_neg h7] at h; cases h
  rw [if_pos h7] at h
  by_cases h8 : (((([] : List GStep) ++ ((a1.take (a3 : Int).toNat).drop (0 : Int).toNat)) ++ ([(GStep.mk a6 a7 a8 (GValue.mk a9 a10 a11 a12 a13) (GPred.mk a14 a15 a16) a17 a18 a19)] : List GStep)).length + ((a1.take ((a1.length : Int) : Int).toNat).drop (a3 : Int).toNat).length) * 264 ≤ 140737488355328
  case neg => rw [if_neg h8] at h; cases h
  rw [if_pos h8] at h
  rcases h9 : t.plan_Check (((([] : List GStep) ++ ((a1.take (a3 : Int).toNat).drop (0 : Int).toNat)) ++ ([(GStep.mk a6 a7 a8 (GValue.mk a9 a10 a11 a12 a13) (GPred.mk a14 a15 a16) a17 a18 a19)] : List GStep)) ++ ((a1.take ((a1.length : Int) : Int).toNat).drop (a3 : Int).toNat)) with _ | a20
  · rw [h9] at h; cases h
  rw [h9] at h
  dsimp only at h
  by_cases h10 : (a20 == 2) = true
  · rw [if_pos h10] at h
    obtain ⟨a21, rfl⟩ : ∃ z_, z_ = r := ⟨_, rfl⟩
    have h11 := h
    exact path (ob_n (within_ts GStep.ts_map h1) (ob_l (cut_ts GStep.ts_map (l := a1) (h := (a3 : Int).toNat) (i := (0 : Int).toNat)) (ob_le (room_ts GStep.ts_map h2) (ob_l (app_ts GStep.ts_map (a := ([] : List GStep)) (b := ((a1.take (a3 : Int).toNat).drop (0 : Int).toNat))) (ob_v (rem_ok (P := Tryd.prog) (t := 3) (x := (.tmp 86)) (y := (.const (.int .i64 24))) h3) (ob_n h4 (ob_t (look_ts GStep.ts_map h5) (ob_le (room_ts GStep.ts_map h6) (ob_l (app_ts GStep.ts_map (a := (([] : List GStep) ++ ((a1.take (a3 : Int).toNat).drop (0 : Int).toNat))) (b := ([(GStep.mk a6 a7 a8 (GValue.mk a9 a10 a11 a12 a13) (GPred.mk a14 a15 a16) a17 a18 a19)] : List GStep))) (ob_v (len_ts GStep.ts_map (l := a1)) (ob_n (within_ts GStep.ts_map h7) (ob_l (cut_ts GStep.ts_map (l := a1) (h := ((a1.length : Int) : Int).toNat) (i := (a3 : Int).toNat)) (ob_le (room_ts GStep.ts_map h8) (ob_l (app_ts GStep.ts_map (a := ((([] : List GStep) ++ ((a1.take (a3 : Int).toNat).drop (0 : Int).toNat)) ++ ([(GStep.mk a6 a7 a8 (GValue.mk a9 a10 a11 a12 a13) (GPred.mk a14 a15 a16) a17 a18 a19)] : List GStep))) (b := ((a1.take ((a1.length : Int) : Int).toNat).drop (a3 : Int).toNat))) (ob_c (ht.plan_Check _ _ h9) (ob_b h10 (ob_c (ht.law12_known _ h11) (ob_b h10 ob)))))))))))))))))) (by kernel_rfl)
  · rw [if_neg h10] at h
    replace h10 := Bool.eq_false_iff.2 h10
    rw [← Option.some.inj h]
    exact path (ob_n (within_ts GStep.ts_map h1) (ob_l (cut_ts GStep.ts_map (l := a1) (h := (a3 : Int).toNat) (i := (0 : Int).toNat)) (ob_le (room_ts GStep.ts_map h2) (ob_l (app_ts GStep.ts_map (a := ([] : List GStep)) (b := ((a1.take (a3 : Int).toNat).drop (0 : Int).toNat))) (ob_v (rem_ok (P := Tryd.prog) (t := 3) (x := (.tmp 86)) (y := (.const (.int .i64 24))) h3) (ob_n h4 (ob_t (look_ts GStep.ts_map h5) (ob_le (room_ts GStep.ts_map h6) (ob_l (app_ts GStep.ts_map (a := (([] : List GStep) ++ ((a1.take (a3 : Int).toNat).drop (0 : Int).toNat))) (b := ([(GStep.mk a6 a7 a8 (GValue.mk a9 a10 a11 a12 a13) (GPred.mk a14 a15 a16) a17 a18 a19)] : List GStep))) (ob_v (len_ts GStep.ts_map (l := a1)) (ob_n (within_ts GStep.ts_map h7) (ob_l (cut_ts GStep.ts_map (l := a1) (h := ((a1.length : Int) : Int).toNat) (i := (a3 : Int).toNat)) (ob_le (room_ts GStep.ts_map h8) (ob_l (app_ts GStep.ts_map (a := ((([] : List GStep) ++ ((a1.take (a3 : Int).toNat).drop (0 : Int).toNat)) ++ ([(GStep.mk a6 a7 a8 (GValue.mk a9 a10 a11 a12 a13) (GPred.mk a14 a15 a16) a17 a18 a19)] : List GStep))) (b := ((a1.take ((a1.length : Int) : Int).toNat).drop (a3 : Int).toNat))) (ob_c (ht.plan_Check _ _ h9) (ob_b h10 (ob_b h10 ob))))))))))))))))) (by kernel_rfl)
theorem law12_PlanHurt_j1.ok (ht : TabOk t call) (n : Nat) (a1 : List GStep) (a2 a3 : Int) (r : _) (h : law12_PlanHurt_j1 t n a1 a2 a3 = some r) : exec (env Tryd.prog 5 Tryd.f5 call) n (sub [1, 1] (bodyOf Tryd.f5)) (mkSt 103 103 [(0, (.t (.sl false 14 (GStep.ts a1)))), (1, (.t (.v (.int .i64 a2)))), (2, (.t (.v (.int .u8 a3))))] []) = some (law12_PlanHurt_j1.to r) := by
  rw [law12_PlanHurt_j1] at h
  rcases h1 : remI .u64 (IntKind.wrap .u64 a2) (IntKind.wrap .u64 (IntKind.wrap .i64 ((a1.length : Int) + 1))) with _ | a4
  · rw [h1] at h; cases h
  rw [h1] at h
  dsimp only at h
  obtain ⟨a5, rfl⟩ : ∃ z_, z_ = r := ⟨_, rfl⟩
  have h2 := h
  exact path (ob_v (len_ts GStep.ts_map (l := a1)) (ob_v (rem_ok (P := Tryd.prog) (t := 44) (x := (.tmp 19)) (y := (.tmp 23)) h1) (ob_j (law12_PlanHurt_j2.ok ht n _ _ _ _ _ h2) ob))) (by kernel_rfl)
theorem law12_PlanHurt.ok {n : Nat} {t : Tab} (ht : TabOk t (run Tryd.prog own kp X n)) : ∀ (p1 : List GStep) (p2 : Int) (p3 : Int) r, law12_PlanHurt t n p1 p2 p3 = some r → run Tryd.prog own kp X (n + 1) 5 [(.t (.sl false 14 (GStep.ts p1))), (.t (.v (.int .i64 p2))), (.t (.v (.int .u8 p3)))] [] = some ((.t (.v (.bool r))), []) := by
  intro p1 p2 p3 r h
  obtain ⟨a1, rfl⟩ : ∃ z_, z_ = p1 := ⟨_, rfl⟩
  obtain ⟨a2, rfl⟩ : ∃ z_, z_ = p2 := ⟨_, rfl⟩
  obtain ⟨a3, rfl⟩ : ∃ z_, z_ = p3 := ⟨_, rfl⟩
  rw [law12_PlanHurt] at h
  rcases h1 : t.law12_much a1 with _ | a4
  · rw [h1] at h; cases h
  rw [h1] at h
  dsimp only at h
  by_cases h2 : a4 = true
  · rw [if_pos h2] at h
    obtain ⟨a5, rfl⟩ : ∃ z_, z_ = r := ⟨_, rfl⟩
    have h3 := h
    exact run_path Tryd.func5 (ob_c (ht.law12_much _ _ h1) (ob_b h2 (ob_b h2 (ob_b h2 (ob_b h2 (ob_b (rfl : true = true) (ob_c (ht.law12_known _ h3) ob))))))) (by kernel_rfl)
  · rw [if_neg h2] at h
    replace h2 := Bool.eq_false_iff.2 h2
    rcases h4 : t.plan_Check a1 with _ | a6
    · rw [h4] at h; cases h
    rw [h4] at h
    dsimp only at h
    by_cases h5 : (a6 != 0) = true
    · rw [if_pos h5] at h
      obtain ⟨a7, rfl⟩ : ∃ z_, z_ = r := ⟨_, rfl⟩
      have h6 := h
      exact run_path Tryd.func5 (ob_c (ht.law12_much _ _ h1) (ob_b h2 (ob_b h2 (ob_c (ht.plan_Check _ _ h4) (ob_b h2 (ob_b h2 (ob_b h5 (ob_c (ht.law12_known _ h6) ob)))))))) (by kernel_rfl)
    · rw [if_neg h5] at h
      replace h5 := Bool.eq_false_iff.2 h5
      obtain ⟨a8, rfl⟩ : ∃ z_, z_ = r := ⟨_, rfl⟩
      have h7 := h
      exact run_path Tryd.func5 (ob_c (ht.law12_much _ _ h1) (ob_b h2 (ob_b h2 (ob_c (ht.plan_Check _ _ h4) (ob_b h2 (ob_b h2 (ob_b h5 (ob_j (law12_PlanHurt_j1.ok ht n _ _ _ _ h7) ob)))))))) (by kernel_rfl)
theorem law12_much.ok {n : Nat} {t : Tab} (ht : TabOk t (run Tryd.prog own kp X n)) : ∀ (p1 : List GStep) r, law12_much t n p1 = some r → run Tryd.prog own kp X (n + 1) 7 [(.t (.sl false 14 (GStep.ts p1)))] [] = some ((.t (.v (.bool r))), []) := by
  intro p1 r h
  obtain ⟨a1, rfl⟩ : ∃ z_, z_ = p1 := ⟨_, rfl⟩
  rw [law12_much] at h
  rcases h1 : t.ref12_Much a1 1500 14 with _ | a2
  · rw [h1] at h; cases h
  rw [h1] at h
  dsimp only at h
  rw [← Option.some.inj h]
  exact run_path Tryd.func7 (ob_c (ht.ref12_Much _ _ _ _ h1) ob) (by kernel_rfl)
theorem plan_Check.ok {n : Nat} {t : Tab} (ht : TabOk t (run Tryd.prog own kp X n)) : ∀ (p1 : List GStep) r, plan_Check t n p1 = some r → run Tryd.prog own kp X (n + 1) 11 [(.t (.sl false 14 (GStep.ts p1)))] [] = some ((.t (.v (.int .i64 r))), []) := by
  intro p1 r h
  obtain ⟨a1, rfl⟩ : ∃ z_, z_ = p1 := ⟨_, rfl⟩
  rw [plan_Check] at h
  rcases h1 : t.plan_Steps a1 with _ | a2
  · rw [h1] at h; cases h
  rw [h1] at h
  dsimp only at h
  by_cases h2 : (decide (a2 > 400)) = true
  · rw [if_pos h2] at h
    rw [← Option.some.inj h]
    exact run_path Tryd.func11 (ob_c (ht.plan_Steps _ _ h1) (ob_b h2 (ob_b h2 (ob_b h2 (ob_b h2 (ob_b (rfl : true = true) ob)))))) (by kernel_rfl)
  · rw [if_neg h2] at h
    replace h2 := Bool.eq_false_iff.2 h2
    rcases h3 : t.plan_right a1 1 with _ | a3
    · rw [h3] at h; cases h
    rw [h3] at h
    dsimp only at h
    by_cases h4 : a3 = true
    · rw [if_pos h4] at h
      rw [← Option.some.inj h]
      exact run_path Tryd.func11 (ob_c (ht.plan_Steps _ _ h1) (ob_b h2 (ob_b h2 (ob_c (ht.plan_right _ _ _ h3) (ob_b h2 (ob_b h2 (ob_b (congrArg (!·) h4) ob))))))) (by kernel_rfl)
    · rw [if_neg h4] at h
      replace h4 := Bool.eq_false_iff.2 h4
      rw [← Option.some.inj h]
      exact run_path Tryd.func11 (ob_c (ht.plan_Steps _ _ h1) (ob_b h2 (ob_b h2 (ob_c (ht.plan_right _ _ _ h3) (ob_b h2 (ob_b h2 (ob_b (congrArg (!·) h4) ob))))))) (by kernel_rfl)
theorem ref12_Much_j4.ok (ht : TabOk t call) (n : Nat) (a1 : List GStep) (a2 a3 a4 a5 : Int) (a6 : List (List GStep)) (a7 : Int) (r : _) (h : ref12_Much_j4 t n a1 a2 a3 a4 a5 a6 a7 = some r) : exec (env Tryd.prog 18 Tryd.f18 call) n (sub [1, 1, 0, 1, 0, 0, 1, 0, 0, 1, 1, 1, 1, 0, 0, 1] (bodyOf Tryd.f18)) (mkSt 80 80 [(0, (.t (.sl false 14 (GStep.ts a1)))), (1, (.t (.v (.int .i64 a2)))), (2, (.t (.v (.int .i64 a3)))), (7, (.t (.v (.int .i64 a4)))), (8, (.t (.v (.int .i64 a5)))), (10, (.t (.sl false 1 (rows_GStep_ts a6)))), (11, (.t (.v (.int .i64 a7))))] []) = some (ref12_Much_j4.to r) := by
  rw [ref12_Much_j4] at h
  by_cases h1 : (decide (a3 ≤ 0)) = true
  · rw [if_pos h1] at h
    rw [← Option.some.inj h]
    exact path (ob_b h1 ob) (by kernel_rfl)
  · rw [if_neg h1] at h
    replace h1 := Bool.eq_false_iff.2 h1
    by_cases h2 : (decide (0 ≤ (a7 : Int))) = true
    case neg => rw [if_neg h2] at h; cases h
    rw [if_pos h2] at h
    rcases h3 : a6[(a7 : Int).toNat]? with _ | a8
    · rw [h3] at h; cases h
    rw [h3] at h
    dsimp only at h
    rcases h4 : t.ref12_Much a8 (IntKind.wrap .i64 (a2 - a4)) (IntKind.wrap .i64 (a3 - 1)) with _ | a9
    · rw [h4] at h; cases h
    rw [h4] at h
    dsimp only at h
    rw [← Option.some.inj h]
    exact path (ob_b h1 (ob_n h2 (ob_t (look_ts rows_GStep_ts_map h3) (ob_c (ht.ref12_Much _ _ _ _ h4) ob)))) (by kernel_rfl)
theorem ref12_Much_l3.okL (ht : TabOk t call) (n : Nat) : ∀ (k : Nat) (a1 : List GStep) (a2 a3 a4 a5 : Int) (a6 : List (List GStep)) (a7 : Int) (r : _), ref12_Much_l3 t n k a1 a2 a3 a4 a5 a6 a7 = some r → loopN (exec (env Tryd.prog 18 Tryd.f18 call) n (sub [1, 1, 0, 1, 0, 0, 1, 0, 0, 1, 1, 1, 1, 0, 0] (bodyOf Tryd.f18))) k (mkSt 80 80 [(0, (.t (.sl false 14 (GStep.ts a1)))), (1, (.t (.v (.int .i64 a2)))), (2, (.t (.v (.int .i64 a3)))), (7, (.t (.v (.int .i64 a4)))), (8, (.t (.v (.int .i64 a5)))), (10, (.t (.sl false 1 (rows_GStep_ts a6)))), (11, (.t (.v (.int .i64 a7))))] []) = some (ref12_Much_l3.to r)
  | 0, a1, a2, a3, a4, a5, a6, a7, r, h => by rw [ref12_Much_l3] at h; cases h
  | k + 1, a1, a2, a3, a4, a5, a6, a7, r, h => by
    rw [ref12_Much_l3] at h
    by_cases h1 : (decide (a7 < (a6.length : Int))) = true
    · rw [if_pos h1] at h
      by_cases h2 : (decide (a4 < a2)) = true
      · rw [if_pos h2] at h
        rcases h3 : ref12_Much_j4 t n  a1 a2 a3 a4 a5 a6 a7 with _ | q_
        · rw [h3] at h; cases h
        rw [h3] at h
        rcases q_ with a8 | ⟨a9, a10, a11, a12, a13, a14, a15⟩
        · dsimp only at h
          rw [← Option.some.inj h]
          exact loop_out (path (ob_v (len_ts rows_GStep_ts_map (l := a6)) (ob_b h1 (ob_b h1 (ob_b h1 (ob_b h1 (ob_b h2 (ob_j (ref12_Much_j4.ok ht n _ _ _ _ _ _ _ _ h3) ob))))))) (by kernel_rfl)) (fun h => by cases h)
        · dsimp only at h
          exact loop_more (path (ob_v (len_ts rows_GStep_ts_map (l := a6)) (ob_b h1 (ob_b h1 (ob_b h1 (ob_b h1 (ob_b h2 (ob_j (ref12_Much_j4.ok ht n _ _ _ _ _ _ _ _ h3) ob))))))) (by kernel_rfl)) (ref12_Much_l3.okL ht n k _ _ _ _ _ _ _ _ h)
      · rw [if_neg h2] at h
        replace h2 := Bool.eq_false_iff.2 h2
        rw [← Option.some.inj h]
        exact loop_out (path (ob_v (len_ts rows_GStep_ts_map (l := a6)) (ob_b h1 (ob_b h1 (ob_b h1 (ob_b h1 (ob_b h2 ob)))))) (by kernel_rfl)) (fun h => by cases h)
    · rw [if_neg h1] at h
      replace h1 := Bool.eq_false_iff.2 h1
      rw [← Option.some.inj h]
      exact loop_out (path (ob_v (len_ts rows_GStep_ts_map (l := a6)) (ob_b h1 (ob_b h1 (ob_b h1 (ob_b h1 (ob_b (rfl : false = false) ob)))))) (by kernel_rfl)) (fun h => by cases h)
theorem ref12_Much_l3.ok (ht : TabOk t call) (n : Nat) (a1 : List GStep) (a2 a3 a4 a5 : Int) (a6 : List (List GStep)) (a7 : Int) (r : _) (h : ref12_Much_l3 t n n a1 a2 a3 a4 a5 a6 a7 = some r) : exec (env Tryd.prog 18 Tryd.f18 call) n (sub [1, 1, 0, 1, 0, 0, 1, 0, 0, 1, 1, 1, 1, 0] (bodyOf Tryd.f18)) (mkSt 80 80 [(0, (.t (.sl false 14 (GStep.ts a1)))), (1, (.t (.v (.int .i64 a2)))), (2, (.t (.v (.int .i64 a3)))), (7, (.t (.v (.int .i64 a4)))), (8, (.t (.v (.int .i64 a5)))), (10, (.t (.sl false 1 (rows_GStep_ts a6)))), (11, (.t (.v (.int .i64 a7))))] []) = some (ref12_Much_l3.to r) := by
  have e1 : sub [1, 1, 0, 1, 0, 0, 1, 0, 0, 1, 1, 1, 1, 0] (bodyOf Tryd.f18) = .loop (sub [1, 1, 0, 1, 0, 0, 1, 0, 0, 1, 1, 1, 1, 0, 0] (bodyOf Tryd.f18)) := by kernel_rfl
  rw [e1, exec]
  exact ref12_Much_l3.okL ht n n a1 a2 a3 a4 a5 a6 a7 r h
theorem ref12_Much_j2.ok (ht : TabOk t call) (n : Nat) (a1 : List GStep) (a2 a3 a4 a5 : Int) (r : _) (h : ref12_Much_j2 t n a1 a2 a3 a4 a5 = some r) : exec (env Tryd.prog 18 Tryd.f18 call) n (sub [1, 1, 0, 1, 0, 0, 1] (bodyOf Tryd.f18)) (mkSt 80 80 [(0, (.t (.sl false 14 (GStep.ts a1)))), (1, (.t (.v (.int .i64 a2)))), (2, (.t (.v (.int .i64 a3)))), (7, (.t (.v (.int .i64 a4)))), (8, (.t (.v (.int .i64 a5))))] []) = some (ref12_Much_j2.to r) := by
  rw [ref12_Much_j2] at h
  by_cases h1 : (decide (0 ≤ (a5 : Int))) = true
  case neg => rw [if_neg h1] at h; cases h
  rw [if_pos h1] at h
  rcases h2 : a1[(a5 : Int).toNat]? with _ | ⟨a6, a7, a8, ⟨a9, a10, a11, a12, a13⟩, ⟨a14, a15, a16⟩, a17, a18, a19⟩
  · rw [h2] at h; cases h
  rw [h2] at h
  dsimp only at h
  rcases h3 : t.ref02_Count (GValue.mk a9 a10 a11 a12 a13) a2 with _ | a20
  · rw [h3] at h; cases h
  rw [h3] at h
  dsimp only at h
  rcases h4 : t.ref09_Count (GPred.mk a14 a15 a16) a2 with _ | a21
  · rw [h4] at h; cases h
  rw [h4] at h
  dsimp only at h
  rcases h5 : t.ref12_Inner (GStep.mk a6 a7 a8 (GValue.mk a9 a10 a11 a12 a13) (GPred.mk a14 a15 a16) a17 a18 a19) with _ | a22
  · rw [h5] at h; cases h
  rw [h5] at h
  dsimp only at h
  rcases h6 : ref12_Much_l3 t n n a1 a2 a3 (IntKind.wrap .i64 ((IntKind.wrap .i64 ((IntKind.wrap .i64 ((IntKind.wrap .i64 ((IntKind.wrap .i64 ((IntKind.wrap .i64 (a4 + 1)) + (a7.length : Int))) + (a8.length : Int))) + (a19.length : Int))) + a20)) + a21)) a5 a22 0 with _ | q_
  · rw [h6] at h; cases h
  rw [h6] at h
  rcases q_ with a23 | ⟨a24, a25, a26, a27, a28, a29, a30, a31⟩
  · dsimp only at h
    rw [← Option.some.inj h]
    exact path (ob_n h1 (ob_t (look_ts GStep.ts_map h2) (ob_v (len_ts texts_map (l := a7)) (ob_v (len_ts ints_i64_map (l := a8)) (ob_v (len_ts texts_map (l := a19)) (ob_c (ht.ref02_Count _ _ _ h3) (ob_c (ht.ref09_Count _ _ _ h4) (ob_c (ht.ref12_Inner _ _ h5) (ob_k (ref12_Much_l3.ok ht n _ _ _ _ _ _ _ _ h6) ob))))))))) (by kernel_rfl)
  · dsimp only at h
    rw [← Option.some.inj h]
    exact path (ob_n h1 (ob_t (look_ts GStep.ts_map h2) (ob_v (len_ts texts_map (l := a7)) (ob_v (len_ts ints_i64_map (l := a8)) (ob_v (len_ts texts_map (l := a19)) (ob_c (ht.ref02_Count _ _ _ h3) (ob_c (ht.ref09_Count _ _ _ h4) (ob_c (ht.ref12_Inner _ _ h5) (ob_k (ref12_Much_l3.ok ht n _ _ _ _ _ _ _ _ h6) ob))))))))) (by kernel_rfl)
theorem ref12_Much_l1.okL (ht : TabOk t call) (n : Nat) : ∀ (k : Nat) (a1 : List GStep) (a2 a3 a4 a5 : Int) (r : _), ref12_Much_l1 t n k a1 a2 a3 a4 a5 = some r → loopN (exec (env Tryd.prog 18 Tryd.f18 call) n (sub [1, 1, 0, 1, 0, 0] (bodyOf Tryd.f18))) k (mkSt 80 80 [(0, (.t (.sl false 14 (GStep.ts a1)))), (1, (.t (.v (.int .i64 a2)))), (2, (.t (.v (.int .i64 a3)))), (7, (.t (.v (.int .i64 a4)))), (8, (.t (.v (.int .i64 a5))))] []) = some (ref12_Much_l1.to r)
  | 0, a1, a2, a3, a4, a5, r, h => by rw [ref12_Much_l1] at h; cases h
  | k + 1, a1, a2, a3, a4, a5, r, h => by
    rw [ref12_Much_l1] at h
    by_cases h1 : (decide (a5 < (a1.length : Int))) = true
    · rw [if_pos h1] at h
      by_cases h2 : (decide (a4 < a2)) = true
      · rw [if_pos h2] at h
        rcases h3 : ref12_Much_j2 t n  a1 a2 a3 a4 a5 with _ | q_
        · rw [h3] at h; cases h
        rw [h3] at h
        rcases q_ with a6 | ⟨a7, a8, a9, a10, a11⟩
        · dsimp only at h
          rw [← Option.some.inj h]
          exact loop_out (path (ob_v (len_ts GStep.ts_map (l := a1)) (ob_b h1 (ob_b h1 (ob_b h1 (ob_b h1 (ob_b h2 (ob_j (ref12_Much_j2.ok ht n _ _ _ _ _ _ h3) ob))))))) (by kernel_rfl)) (fun h => by cases h)
        · dsimp only at h
          exact loop_more (path (ob_v (len_ts GStep.ts_map (l := a1)) (ob_b h1 (ob_b h1 (ob_b h1 (ob_b h1 (ob_b h2 (ob_j (ref12_Much_j2.ok ht n _ _ _ _ _ _ h3) ob))))))) (by kernel_rfl)) (ref12_Much_l1.okL ht n k _ _ _ _ _ _ h)
      · rw [if_neg h2] at h
        replace h2 := Bool.eq_false_iff.2 h2
        rw [← Option.some.inj h]
        exact loop_out (path (ob_v (len_ts GStep.ts_map (l := a1)) (ob_b h1 (ob_b h1 (ob_b h1 (ob_b h1 (ob_b h2 ob)))))) (by kernel_rfl)) (fun h => by cases h)
    · rw [if_neg h1] at h
      replace h1 := Bool.eq_false_iff.2 h1
      rw [← Option.some.inj h]
      exact loop_out (path (ob_v (len_ts GStep.ts_map (l := a1)) (ob_b h1 (ob_b h1 (ob_b h1 (ob_b h1 (ob_b (rfl : false = false) ob)))))) (by kernel_rfl)) (fun h => by cases h)
theorem ref12_Much_l1.ok (ht : TabOk t call) (n : Nat) (a1 : List GStep) (a2 a3 a4 a5 : Int) (r : _) (h : ref12_Much_l1 t n n a1 a2 a3 a4 a5 = some r) : exec (env Tryd.prog 18 Tryd.f18 call) n (sub [1, 1, 0, 1, 0] (bodyOf Tryd.f18)) (mkSt 80 80 [(0, (.t (.sl false 14 (GStep.ts a1)))), (1, (.t (.v (.int .i64 a2)))), (2, (.t (.v (.int .i64 a3)))), (7, (.t (.v (.int .i64 a4)))), (8, (.t (.v (.int .i64 a5))))] []) = some (ref12_Much_l1.to r) := by
  have e1 : sub [1, 1, 0, 1, 0] (bodyOf Tryd.f18) = .loop (sub [1, 1, 0, 1, 0, 0] (bodyOf Tryd.f18)) := by kernel_rfl
  rw [e1, exec]
  exact ref12_Much_l1.okL ht n n a1 a2 a3 a4 a5 r h
theorem ref12_Much.ok {n : Nat} {t : Tab} (ht : TabOk t (run Tryd.prog own kp X n)) : ∀ (p1 : List GStep) (p2 : Int) (p3 : Int) r, ref12_Much t n p1 p2 p3 = some r → run Tryd.prog own kp X (n + 1) 18 [(.t (.sl false 14 (GStep.ts p1))), (.t (.v (.int .i64 p2))), (.t (.v (.int .i64 p3)))] [] = some ((.t (.v (.int .i64 r))), []) := by
  intro p1 p2 p3 r h
  obtain ⟨a1, rfl⟩ : ∃ z_, z_ = p1 := ⟨_, rfl⟩
  obtain ⟨a2, rfl⟩ : ∃ z_, z_ = p2 := ⟨_, rfl⟩
  obtain ⟨a3, rfl⟩ : ∃ z_, z_ = p3 := ⟨_, rfl⟩
  rw [ref12_Much] at h
  rcases h1 : ref12_Much_l1 t n n a1 a2 a3 0 0 with _ | q_
  · rw [h1] at h; cases h
  rw [h1] at h
  rcases q_ with a4 | ⟨a5, a6, a7, a8, a9, a10⟩
  · dsimp only at h
    rw [← Option.some.inj h]
    exact run_path Tryd.func18 (ob_k (ref12_Much_l1.ok ht n _ _ _ _ _ _ h1) ob) (by kernel_rfl)
  · dsimp only at h
    rw [← Option.some.inj h]
    exact run_path Tryd.func18 (ob_k (ref12_Much_l1.ok ht n _ _ _ _ _ _ h1) ob) (by kernel_rfl)
theorem plan_Steps.ok {n : Nat} {t : Tab} (ht : TabOk t (run Tryd.prog own kp X n)) : ∀ (p1 : List GStep) r, plan_Steps t n p1 = some r → run Tryd.prog own kp X (n + 1) 12 [(.t (.sl false 14 (GStep.ts p1)))] [] = some ((.t (.v (.int .i64 r))), []) := by
  intro p1 r h
  obtain ⟨a1, rfl⟩ : ∃ z_, z_ = p1 := ⟨_, rfl⟩
  rw [plan_Steps] at h
  obtain ⟨a2, rfl⟩ : ∃ z_, z_ = r := ⟨_, rfl⟩
  have h1 := h
  exact run_path Tryd.func12 (ob_c (ht.plan_steps _ _ _ _ h1) ob) (by kernel_rfl)
theorem plan_right.ok {n : Nat} {t : Tab} (ht : TabOk t (run Tryd.prog own kp X n)) : ∀ (p1 : List GStep) (p2 : Int) r, plan_right t n p1 p2 = some r → run Tryd.prog own kp X (n + 1) 25 [(.t (.sl false 14 (GStep.ts p1))), (.t (.v (.int .i64 p2)))] [] = some ((.t (.v (.bool r))), []) := by
  intro p1 p2 r h
  obtain ⟨a1, rfl⟩ : ∃ z_, z_ = p1 := ⟨_, rfl⟩
  obtain ⟨a2, rfl⟩ : ∃ z_, z_ = p2 := ⟨_, rfl⟩
  rw [plan_right] at h
  by_cases h1 : (decide (a2 ≤ 11)) = true
  · rw [if_pos h1] at h
    rcases h2 : t.slices_ContainsFunc_plan_right_1 a1 a2 with _ | a3
    · rw [h2] at h; cases h
    rw [h2] at h
    dsimp only at h
    rw [← Option.some.inj h]
    exact run_path Tryd.func25 (ob_b h1 (ob_b h1 (ob_b h1 (ob_c (ht.slices_ContainsFunc_plan_right_1 _ _ _ h2) (ob_b h1 (ob_b h1 ob)))))) (by kernel_rfl)
  · rw [if_neg h1] at h
    replace h1 := Bool.eq_false_iff.2 h1
    rw [← Option.some.inj h]
    exact run_path Tryd.func25 (ob_b h1 (ob_b h1 (ob_b h1 (ob_b h1 (ob_b h1 ob))))) (by kernel_rfl)
theorem ref02_Count_j2.ok (ht : TabOk t call) (n : Nat) (a1 a2 a3 a4 a5 : Int) (a6 : ByteArray) (a7 a8 : List GValue) (r : _) (h : ref02_Count_j2 t n a1 a2 a3 a4 a5 a6 a7 a8 = some r) : exec (env Tryd.prog 40 Tryd.f40 call) n (sub [1, 1, 0, 1, 0, 0, 1] (bodyOf Tryd.f40)) (mkSt 60 60 [(1, (.t (.v (.int .i64 a1)))), (2, (.ptr 2 0 [] 0)), (5, (.t (.v (.int .i64 a2)))), (6, (.t (.v (.int .i64 a3))))] [(2, (.t (.st [(.v (.int .i64 a4)), (.v (.int .i64 a5)), (.v (.string a6)), (.sl false 5 (GValue.ts a7)), (.sl false 5 (GValue.ts a8))])))]) = some (ref02_Count_j2.to r) := by
  rw [ref02_Count_j2] at h
  by_cases h1 : (decide (0 ≤ (a3 : Int))) = true
  case neg => rw [if_neg h1] at h; cases h
  rw [if_pos h1] at h
  rcases h2 : a7[(a3 : Int).toNat]? with _ | ⟨a9, a10, a11, a12, a13⟩
  · rw [h2] at h; cases h
  rw [h2] at h
  dsimp only at h
  rcases h3 : t.ref02_Count (GValue.mk a9 a10 a11 a12 a13) (IntKind.wrap .i64 (a1 - a2)) with _ | a14
  · rw [h3] at h; cases h
  rw [h3] at h
  dsimp only at h
  rw [← Option.some.inj h]
  exact path (ob_n h1 (ob_t (look_ts GValue.ts_map h2) (ob_c (ht.ref02_Count _ _ _ h3) ob))) (by kernel_rfl)
theorem ref02_Count_l1.okL (ht : TabOk t call) (n : Nat) : ∀ (k : Nat) (a1 a2 a3 a4 a5 : Int) (a6 : ByteArray) (a7 a8 : List GValue) (r : _), ref02_Count_l1 t n k a1 a2 a3 a4 a5 a6 a7 a8 = some r → loopN (exec (env Tryd.prog 40 Tryd.f40 call) n (sub [1, 1, 0, 1, 0, 0] (bodyOf Tryd.f40))) k (mkSt 60 60 [(1, (.t (.v (.int .i64 a1)))), (2, (.ptr 2 0 [] 0)), (5, (.t (.v (.int .i64 a2)))), (6, (.t (.v (.int .i64 a3))))] [(2, (.t (.st [(.v (.int .i64 a4)), (.v (.int .i64 a5)), (.v (.string a6)), (.sl false 5 (GValue.ts a7)), (.sl false 5 (GValue.ts a8))])))]) = some (ref02_Count_l1.to r)
  | 0, a1, a2, a3, a4, a5, a6, a7, a8, r, h => by rw [ref02_Count_l1] at h; cases h
  | k + 1, a1, a2, a3, a4, a5, a6, a7, a8, r, h => by
    rw [ref02_Count_l1] at h
    by_cases h1 : (decide (a3 < (a7.length : Int))) = true
    · rw [if_pos h1] at h
      by_cases h2 : (decide (a2 < a1)) = true
      · rw [if_pos h2] at h
        rcases h3 : ref02_Count_j2 t n  a1 a2 a3 a4 a5 a6 a7 a8 with _ | q_
        · rw [h3] at h; cases h
        rw [h3] at h
        obtain ⟨a9, a10, a11, a12, a13, a14, a15, a16⟩ := q_
        dsimp only at h
        exact loop_more (path (ob_v (len_ts GValue.ts_map (l := a7)) (ob_b h1 (ob_b h1 (ob_b h1 (ob_b h1 (ob_b h2 (ob_j (ref02_Count_j2.ok ht n _ _ _ _ _ _ _ _ _ h3) ob))))))) (by kernel_rfl)) (ref02_Count_l1.okL ht n k _ _ _ _ _ _ _ _ _ h)
      · rw [if_neg h2] at h
        replace h2 := Bool.eq_false_iff.2 h2
        rw [← Option.some.inj h]
        exact loop_out (path (ob_v (len_ts GValue.ts_map (l := a7)) (ob_b h1 (ob_b h1 (ob_b h1 (ob_b h1 (ob_b h2 ob)))))) (by kernel_rfl)) (fun h => by cases h)
    · rw [if_neg h1] at h
      replace h1 := Bool.eq_false_iff.2 h1
      rw [← Option.some.inj h]
      exact loop_out (path (ob_v (len_ts GValue.ts_map (l := a7)) (ob_b h1 (ob_b h1 (ob_b h1 (ob_b h1 (ob_b (rfl : false = false) ob)))))) (by kernel_rfl)) (fun h => by cases h)
theorem ref02_Count_l1.ok (ht : TabOk t call) (n : Nat) (a1 a2 a3 a4 a5 : Int) (a6 : ByteArray) (a7 a8 : List GValue) (r : _) (h : ref02_Count_l1 t n n a1 a2 a3 a4 a5 a6 a7 a8 = some r) : exec (env Tryd.prog 40 Tryd.f40 call) n (sub [1, 1, 0, 1, 0] (bodyOf Tryd.f40)) (mkSt 60 60 [(1, (.t (.v (.int .i64 a1)))), (2, (.ptr 2 0 [] 0)), (5, (.t (.v (.int .i64 a2)))), (6, (.t (.v (.int .i64 a3))))] [(2, (.t (.st [(.v (.int .i64 a4)), (.v (.int .i64 a5)), (.v (.string a6)), (.sl false 5 (GValue.ts a7)), (.sl false 5 (GValue.ts a8))])))]) = some (ref02_Count_l1.to r) := by
  have e1 : sub [1, 1, 0, 1, 0] (bodyOf Tryd.f40) = .loop (sub [1, 1, 0, 1, 0, 0] (bodyOf Tryd.f40)) := by kernel_rfl
  rw [e1, exec]
  exact ref02_Count_l1.okL ht n n a1 a2 a3 a4 a5 a6 a7 a8 r h
theorem ref02_Count_j5.ok (ht : TabOk t call) (n : Nat) (a1 a2 a3 a4 a5 : Int) (a6 : ByteArray) (a7 a8 : List GValue) (r : _) (h : ref02_Count_j5 t n a1 a2 a3 a4 a5 a6 a7 a8 = some r) : exec (env Tryd.prog 40 Tryd.f40 call) n (sub [1, 1, 1, 0, 1, 0, 0, 1] (bodyOf Tryd.f40)) (mkSt 60 60 [(1, (.t (.v (.int .i64 a1)))), (2, (.ptr 2 0 [] 0)), (5, (.t (.v (.int .i64 a2)))), (7, (.t (.v (.int .i64 a3))))] [(2, (.t (.st [(.v (.int .i64 a4)), (.v (.int .i64 a5)), (.v (.string a6)), (.sl false 5 (GValue.ts a7)), (.sl false 5 (GValue.ts a8))])))]) = some (ref02_Count_j5.to r) := by
  rw [ref02_Count_j5] at h
  by_cases h1 : (decide (0 ≤ (a3 : Int))) = true
  case neg => rw [if_neg h1] at h; cases h
  rw [if_pos h1] at h
  rcases h2 : a8[(a3 : Int).toNat]? with _ | ⟨a9, a10, a11, a12, a13⟩
  · rw [h2] at h; cases h
  rw [h2] at h
  dsimp only at h
  rcases h3 : t.ref02_Count (GValue.mk a9 a10 a11 a12 a13) (IntKind.wrap .i64 (a1 - a2)) with _ | a14
  · rw [h3] at h; cases h
  rw [h3] at h
  dsimp only at h
  rw [← Option.some.inj h]
  exact path (ob_n h1 (ob_t (look_ts GValue.ts_map h2) (ob_c (ht.ref02_Count _ _ _ h3) ob))) (by kernel_rfl)
theorem ref02_Count_l4.okL (ht : TabOk t call) (n : Nat) : ∀ (k : Nat) (a1 a2 a3 a4 a5 : Int) (a6 : ByteArray) (a7 a8 : List GValue) (r : _), ref02_Count_l4 t n k a1 a2 a3 a4 a5 a6 a7 a8 = some r → loopN (exec (env Tryd.prog 40 Tryd.f40 call) n (sub [1, 1, 1, 0, 1, 0, 0] (bodyOf Tryd.f40))) k (mkSt 60 60 [(1, (.t (.v (.int .i64 a1)))), (2, (.ptr 2 0 [] 0)), (5, (.t (.v (.int .i64 a2)))), (7, (.t (.v (.int .i64 a3))))] [(2, (.t (.st [(.v (.int .i64 a4)), (.v (.int .i64 a5)), (.v (.string a6)), (.sl false 5 (GValue.ts a7)), (.sl false 5 (GValue.ts a8))])))]) = some (ref02_Count_l4.to r)
  | 0, a1, a2, a3, a4, a5, a6, a7, a8, r, h => by rw [ref02_Count_l4] at h; cases h
  | k + 1, a1, a2, a3, a4, a5, a6, a7, a8, r, h => by
    rw [ref02_Count_l4] at h
    by_cases h1 : (decide (a3 < (a8.length : Int))) = true
    · rw [if_pos h1] at h
      by_cases h2 : (decide (a2 < a1)) = true
      · rw [if_pos h2] at h
        rcases h3 : ref02_Count_j5 t n  a1 a2 a3 a4 a5 a6 a7 a8 with _ | q_
        · rw [h3] at h; cases h
        rw [h3] at h
        obtain ⟨a9, a10, a11, a12, a13, a14, a15, a16⟩ := q_
        dsimp only at h
        exact loop_more (path (ob_v (len_ts GValue.ts_map (l := a8)) (ob_b h1 (ob_b h1 (ob_b h1 (ob_b h1 (ob_b h2 (ob_j (ref02_Count_j5.ok ht n _ _ _ _ _ _ _ _ _ h3) ob))))))) (by kernel_rfl)) (ref02_Count_l4.okL ht n k _ _ _ _ _ _ _ _ _ h)
      · rw [if_neg h2] at h
        replace h2 := Bool.eq_false_iff.2 h2
        rw [← Option.some.inj h]
        exact loop_out (path (ob_v (len_ts GValue.ts_map (l := a8)) (ob_b h1 (ob_b h1 (ob_b h1 (ob_b h1 (ob_b h2 ob)))))) (by kernel_rfl)) (fun h => by cases h)
    · rw [if_neg h1] at h
      replace h1 := Bool.eq_false_iff.2 h1
      rw [← Option.some.inj h]
      exact loop_out (path (ob_v (len_ts GValue.ts_map (l := a8)) (ob_b h1 (ob_b h1 (ob_b h1 (ob_b h1 (ob_b (rfl : false = false) ob)))))) (by kernel_rfl)) (fun h => by cases h)
theorem ref02_Count_l4.ok (ht : TabOk t call) (n : Nat) (a1 a2 a3 a4 a5 : Int) (a6 : ByteArray) (a7 a8 : List GValue) (r : _) (h : ref02_Count_l4 t n n a1 a2 a3 a4 a5 a6 a7 a8 = some r) : exec (env Tryd.prog 40 Tryd.f40 call) n (sub [1, 1, 1, 0, 1, 0] (bodyOf Tryd.f40)) (mkSt 60 60 [(1, (.t (.v (.int .i64 a1)))), (2, (.ptr 2 0 [] 0)), (5, (.t (.v (.int .i64 a2)))), (7, (.t (.v (.int .i64 a3))))] [(2, (.t (.st [(.v (.int .i64 a4)), (.v (.int .i64 a5)), (.v (.string a6)), (.sl false 5 (GValue.ts a7)), (.sl false 5 (GValue.ts a8))])))]) = some (ref02_Count_l4.to r) := by
  have e1 : sub [1, 1, 1, 0, 1, 0] (bodyOf Tryd.f40) = .loop (sub [1, 1, 1, 0, 1, 0, 0] (bodyOf Tryd.f40)) := by kernel_rfl
  rw [e1, exec]
  exact ref02_Count_l4.okL ht n n a1 a2 a3 a4 a5 a6 a7 a8 r h
theorem ref02_Count_j6.ok (ht : TabOk t call) (n : Nat) (a1 a2 a3 : Int) (a4 : ByteArray) (a5 a6 : List GValue) (r : _) (h : ref02_Count_j6 t n a1 a2 a3 a4 a5 a6 = some r) : exec (env Tryd.prog 40 Tryd.f40 call) n (sub [1, 1, 1, 1] (bodyOf Tryd.f40)) (mkSt 60 60 [(2, (.ptr 2 0 [] 0)), (5, (.t (.v (.int .i64 a1))))] [(2, (.t (.st [(.v (.int .i64 a2)), (.v (.int .i64 a3)), (.v (.string a4)), (.sl false 5 (GValue.ts a5)), (.sl false 5 (GValue.ts a6))])))]) = some (ref02_Count_j6.to r) := by
  rw [ref02_Count_j6] at h
  rcases h1 : quoI .i64 (a4.size : Int) 20 with _ | a7
  · rw [h1] at h; cases h
  rw [h1] at h
  dsimp only at h
  rw [← Option.some.inj h]
  exact path (ob_v (quo_ok (P := Tryd.prog) (t := 3) (x := (.tmp 57)) (y := (.const (.int .i64 20))) h1) ob) (by kernel_rfl)
theorem ref02_Count_j3.ok (ht : TabOk t call) (n : Nat) (a1 a2 a3 a4 : Int) (a5 : ByteArray) (a6 a7 : List GValue) (r : _) (h : ref02_Count_j3 t n a1 a2 a3 a4 a5 a6 a7 = some r) : exec (env Tryd.prog 40 Tryd.f40 call) n (sub [1, 1, 1] (bodyOf Tryd.f40)) (mkSt 60 60 [(1, (.t (.v (.int .i64 a1)))), (2, (.ptr 2 0 [] 0)), (5, (.t (.v (.int .i64 a2))))] [(2, (.t (.st [(.v (.int .i64 a3)), (.v (.int .i64 a4)), (.v (.string a5)), (.sl false 5 (GValue.ts a6)), (.sl false 5 (GValue.ts a7))])))]) = some (ref02_Count_j3.to r) := by
  rw [ref02_Count_j3] at h
  rcases h1 : ref02_Count_l4 t n n a1 a2 0 a3 a4 a5 a6 a7 with _ | q_
  · rw [h1] at h; cases h
  rw [h1] at h
  obtain ⟨a8, a9, a10, a11, a12, a13, a14, a15, a16⟩ := q_
  dsimp only at h
  obtain ⟨a17, rfl⟩ : ∃ z_, z_ = r := ⟨_, rfl⟩
  have h2 := h
  exact path (ob_k (ref02_Count_l4.ok ht n _ _ _ _ _ _ _ _ _ h1) (ob_j (ref02_Count_j6.ok ht n _ _ _ _ _ _ _ h2) ob)) (by kernel_rfl)
theorem ref02_Count.ok {n : Nat} {t : Tab} (ht : TabOk t (run Tryd.prog own kp X n)) : ∀ (p1 : GValue) (p2 : Int) r, ref02_Count t n p1 p2 = some r → run Tryd.prog own kp X (n + 1) 40 [(.t (GValue.t p1)), (.t (.v (.int .i64 p2)))] [] = some ((.t (.v (.int .i64 r))), []) := by
  intro p1 p2 r h
  obtain ⟨a1, a2, a3, a4, a5⟩ := p1
  obtain ⟨a6, rfl⟩ : ∃ z_, z_ = p2 := ⟨_, rfl⟩
  rw [ref02_Count] at h
  rcases h1 : ref02_Count_l1 t n n a6 1 0 a1 a2 a3 a4 a5 with _ | q_
  · rw [h1] at h; cases h
  rw [h1] at h
  obtain ⟨a7, a8, a9, a10, a11, a12, a13, a14, a15⟩ := q_
  dsimp only at h
  obtain ⟨a16, rfl⟩ : ∃ z_, z_ = r := ⟨_, rfl⟩
  have h2 := h
  exact run_path Tryd.func40 (ob_k (ref02_Count_l1.ok ht n _ _ _ _ _ _ _ _ _ h1) (ob_j (ref02_Count_j3.ok ht n _ _ _ _ _ _ _ _ h2) ob)) (by kernel_rfl)
theorem ref09_Count_j2.ok (ht : TabOk t call) (n : Nat) (a1 a2 a3 a4 : Int) (a5 : List GValue) (a6 : List GPred) (r : _) (h : ref09_Count_j2 t n a1 a2 a3 a4 a5 a6 = some r) : exec (env Tryd.prog 41 Tryd.f41 call) n (sub [1, 1, 0, 1, 0, 0, 1] (bodyOf Tryd.f41)) (mkSt 36 36 [(1, (.t (.v (.int .i64 a1)))), (2, (.ptr 2 0 [] 0)), (5, (.t (.v (.int .i64 a2)))), (6, (.t (.v (.int .i64 a3))))] [(2, (.t (.st [(.v (.int .i64 a4)), (.sl false 5 (GValue.ts a5)), (.sl false 3 (GPred.ts a6))])))]) = some (ref09_Count_j2.to r) := by
  rw [ref09_Count_j2] at h
  by_cases h1 : (decide (0 ≤ (a3 : Int))) = true
  case neg => rw [if_neg h1] at h; cases h
  rw [if_pos h1] at h
  rcases h2 : a6[(a3 : Int).toNat]? with _ | ⟨a7, a8, a9⟩
  · rw [h2] at h; cases h
  rw [h2] at h
  dsimp only at h
  rcases h3 : t.ref09_Count (GPred.mk a7 a8 a9) (IntKind.wrap .i64 (a1 - a2)) with _ | a10
  · rw [h3] at h; cases h
  rw [h3] at h
  dsimp only at h
  rw [← Option.some.inj h]
  exact path (ob_n h1 (ob_t (look_ts GPred.ts_map h2) (ob_c (ht.ref09_Count _ _ _ h3) ob))) (by kernel_rfl)
theorem ref09_Count_l1.okL (ht : TabOk t call) (n : Nat) : ∀ (k : Nat) (a1 a2 a3 a4 : Int) (a5 : List GValue) (a6 : List GPred) (r : _), ref09_Count_l1 t n k a1 a2 a3 a4 a5 a6 = some r → loopN (exec (env Tryd.prog 41 Tryd.f41 call) n (sub [1, 1, 0, 1, 0, 0] (bodyOf Tryd.f41))) k (mkSt 36 36 [(1, (.t (.v (.int .i64 a1)))), (2, (.ptr 2 0 [] 0)), (5, (.t (.v (.int .i64 a2)))), (6, (.t (.v (.int .i64 a3))))] [(2, (.t (.st [(.v (.int .i64 a4)), (.sl false 5 (GValue.ts a5)), (.sl false 3 (GPred.ts a6))])))]) = some (ref09_Count_l1.to r)
  | 0, a1, a2, a3, a4, a5, a6, r, h => by rw [ref09_Count_l1] at h; cases h
  | k + 1, a1, a2, a3, a4, a5, a6, r, h => by
    rw [ref09_Count_l1] at h
    by_cases h1 : (decide (a3 < (a6.length : Int))) = true
    · rw [if_pos h1] at h
      by_cases h2 : (decide (a2 < a1)) = true
      · rw [if_pos h2] at h
        rcases h3 : ref09_Count_j2 t n  a1 a2 a3 a4 a5 a6 with _ | q_
        · rw [h3] at h; cases h
        rw [h3] at h
        obtain ⟨a7, a8, a9, a10, a11, a12⟩ := q_
        dsimp only at h
        exact loop_more (path (ob_v (len_ts GPred.ts_map (l := a6)) (ob_b h1 (ob_b h1 (ob_b h1 (ob_b h1 (ob_b h2 (ob_j (ref09_Count_j2.ok ht n _ _ _ _ _ _ _ h3) ob))))))) (by kernel_rfl)) (ref09_Count_l1.okL ht n k _ _ _ _ _ _ _ h)
      · rw [if_neg h2] at h
        replace h2 := Bool.eq_false_iff.2 h2
        rw [← Option.some.inj h]
        exact loop_out (path (ob_v (len_ts GPred.ts_map (l := a6)) (ob_b h1 (ob_b h1 (ob_b h1 (ob_b h1 (ob_b h2 ob)))))) (by kernel_rfl)) (fun h => by cases h)
    · rw [if_neg h1] at h
      replace h1 := Bool.eq_false_iff.2 h1
      rw [← Option.some.inj h]
      exact loop_out (path (ob_v (len_ts GPred.ts_map (l := a6)) (ob_b h1 (ob_b h1 (ob_b h1 (ob_b h1 (ob_b (rfl : false = false) ob)))))) (by kernel_rfl)) (fun h => by cases h)
theorem ref09_Count_l1.ok (ht : TabOk t call) (n : Nat) (a1 a2 a3 a4 : Int) (a5 : List GValue) (a6 : List GPred) (r : _) (h : ref09_Count_l1 t n n a1 a2 a3 a4 a5 a6 = some r) : exec (env Tryd.prog 41 Tryd.f41 call) n (sub [1, 1, 0, 1, 0] (bodyOf Tryd.f41)) (mkSt 36 36 [(1, (.t (.v (.int .i64 a1)))), (2, (.ptr 2 0 [] 0)), (5, (.t (.v (.int .i64 a2)))), (6, (.t (.v (.int .i64 a3))))] [(2, (.t (.st [(.v (.int .i64 a4)), (.sl false 5 (GValue.ts a5)), (.sl false 3 (GPred.ts a6))])))]) = some (ref09_Count_l1.to r) := by
  have e1 : sub [1, 1, 0, 1, 0] (bodyOf Tryd.f41) = .loop (sub [1, 1, 0, 1, 0, 0] (bodyOf Tryd.f41)) := by kernel_rfl
  rw [e1, exec]
  exact ref09_Count_l1.okL ht n n a1 a2 a3 a4 a5 a6 r h
theorem ref09_Count.ok {n : Nat} {t : Tab} (ht : TabOk t (run Tryd.prog own kp X n)) : ∀ (p1 : GPred) (p2 : Int) r, ref09_Count t n p1 p2 = some r → run Tryd.prog own kp X (n + 1) 41 [(.t (GPred.t p1)), (.t (.v (.int .i64 p2)))] [] = some ((.t (.v (.int .i64 r))), []) := by
  intro p1 p2 r h
  obtain ⟨a1, a2, a3⟩ := p1
  obtain ⟨a4, rfl⟩ : ∃ z_, z_ = p2 := ⟨_, rfl⟩
  rw [ref09_Count] at h
  rcases h1 : t.ref02_Many a2 a4 with _ | a5
  · rw [h1] at h; cases h
  rw [h1] at h
  dsimp only at h
  rcases h2 : ref09_Count_l1 t n n a4 (IntKind.wrap .i64 (1 + a5)) 0 a1 a2 a3 with _ | q_
  · rw [h2] at h; cases h
  rw [h2] at h
  obtain ⟨a6, a7, a8, a9, a10, a11, a12⟩ := q_
  dsimp only at h
  rw [← Option.some.inj h]
  exact run_path Tryd.func41 (ob_c (ht.ref02_Many _ _ _ h1) (ob_k (ref09_Count_l1.ok ht n _ _ _ _ _ _ _ h2) ob)) (by kernel_rfl)
theorem ref12_Inner_j2.ok (ht : TabOk t call) (n : Nat) (a1 : List (List GStep)) (a2 : Int) (a3 : Bool) (a4 : Int) (a5 : List ByteArray) (a6 : List Int) (a7 a8 : Int) (a9 : ByteArray) (a10 a11 : List GValue) (a12 : Int) (a13 : List GValue) (a14 : List GPred) (a15 : List (List GStep)) (a16 : List GBy) (a17 : List ByteArray) (r : _) (h : ref12_Inner_j2 t n a1 a2 a3 a4 a5 a6 a7 a8 a9 a10 a11 a12 a13 a14 a15 a16 a17 = some r) : exec (env Tryd.prog 24 Tryd.f24 call) n (sub [1, 1, 1, 0, 1, 0, 0, 1, 0, 0, 1] (bodyOf Tryd.f24)) (mkSt 43 43 [(1, (.ptr 1 0 [] 0)), (3, (.t (.sl true 1 (rows_GStep_ts a1)))), (4, (.t (.v (.int .i64 a2)))), (32, (.t (.v (.bool a3))))] [(1, (.t (.st [(.v (.int .i64 a4)), (.sl false 1 (texts a5)), (.sl false 1 (ints_i64 a6)), (.st [(.v (.int .i64 a7)), (.v (.int .i64 a8)), (.v (.string a9)), (.sl false 5 (GValue.ts a10)), (.sl false 5 (GValue.ts a11))]), (.st [(.v (.int .i64 a12)), (.sl false 5 (GValue.ts a13)), (.sl false 3 (GPred.ts a14))]), (.sl false 1 (rows_GStep_ts a15)), (.sl false 4 (GBy.ts a16)), (.sl false 1 (texts a17))])))]) = some (ref12_Inner_j2.to r) := by
  rw [ref12_Inner_j2] at h
  by_cases h1 : a3 = true
  · rw [if_pos h1] at h
    by_cases h2 : (decide (0 ≤ (a2 : Int))) = true
    case neg => rw [if_neg h2] at h; cases h
    rw [if_pos h2] at h
    rcases h3 : a16[(a2 : Int).toNat]? with _ | ⟨a18, a19, a20, a21⟩
    · rw [h3] at h; cases h
    rw [h3] at h
    dsimp only at h
    by_cases h4 : (a1.length + ([a20] : List (List GStep)).length) * 24 ≤ 140737488355328
    case neg => rw [if_neg h4] at h; cases h
    rw [if_pos h4] at h
    rw [← Option.some.inj h]
    exact path (ob_b h1 (ob_n h2 (ob_t (look_ts GBy.ts_map h3) (ob_le (room_ts rows_GStep_ts_map h4) (ob_l (app_ts rows_GStep_ts_map (a := a1) (b := ([a20] : List (List GStep)))) ob))))) (by kernel_rfl)
  · rw [if_neg h1] at h
    replace h1 := Bool.eq_false_iff.2 h1
    rw [← Option.some.inj h]
    exact path (ob_b h1 ob) (by kernel_rfl)
theorem ref12_Inner_l1.okL (ht : TabOk t call) (n : Nat) : ∀ (k : Nat) (a1 : List (List GStep)) (a2 a3 : Int) (a4 : List ByteArray) (a5 : List Int) (a6 a7 : Int) (a8 : ByteArray) (a9 a10 : List GValue) (a11 : Int) (a12 : List GValue) (a13 : List GPred) (a14 : List (List GStep)) (a15 : List GBy) (a16 : List ByteArray) (r : _), ref12_Inner_l1 t n k a1 a2 a3 a4 a5 a6 a7 a8 a9 a10 a11 a12 a13 a14 a15 a16 = some r → loopN (exec (env Tryd.prog 24 Tryd.f24 call) n (sub [1, 1, 1, 0, 1, 0, 0] (bodyOf Tryd.f24))) k (mkSt 43 43 [(1, (.ptr 1 0 [] 0)), (3, (.t (.sl true 1 (rows_GStep_ts a1)))), (4, (.t (.v (.int .i64 a2))))] [(1, (.t (.st [(.v (.int .i64 a3)), (.sl false 1 (texts a4)), (.sl false 1 (ints_i64 a5)), (.st [(.v (.int .i64 a6)), (.v (.int .i64 a7)), (.v (.string a8)), (.sl false 5 (GValue.ts a9)), (.sl false 5 (GValue.ts a10))]), (.st [(.v (.int .i64 a11)), (.sl false 5 (GValue.ts a12)), (.sl false 3 (GPred.ts a13))]), (.sl false 1 (rows_GStep_ts a14)), (.sl false 4 (GBy.ts a15)), (.sl false 1 (texts a16))])))]) = some (ref12_Inner_l1.to r)
  | 0, a1, a2, a3, a4, a5, a6, a7, a8, a9, a10, a11, a12, a13, a14, a15, a16, r, h => by rw [ref12_Inner_l1] at h; cases h
  | k + 1, a1, a2, a3, a4, a5, a6, a7, a8, a9, a10, a11, a12, a13, a14, a15, a16, r, h => by
    rw [ref12_Inner_l1] at h
    by_cases h1 : (decide (a2 < (a15.length : Int))) = true
    · rw [if_pos h1] at h
      by_cases h2 : (decide (0 ≤ (a2 : Int))) = true
      case neg => rw [if_neg h2] at h; cases h
      rw [if_pos h2] at h
      rcases h3 : a15[(a2 : Int).toNat]? with _ | ⟨a17, a18, a19, a20⟩
      · rw [h3] at h; cases h
      rw [h3] at h
      dsimp only at h
      by_cases h4 : (a17 == 3) = true
      · rw [if_pos h4] at h
        rcases h5 : ref12_Inner_j2 t n  a1 a2 true a3 a4 a5 a6 a7 a8 a9 a10 a11 a12 a13 a14 a15 a16 with _ | q_
        · rw [h5] at h; cases h
        rw [h5] at h
        obtain ⟨a21, a22, a23, a24, a25, a26, a27, a28, a29, a30, a31, a32, a33, a34, a35, a36⟩ := q_
        dsimp only at h
        exact loop_more (path (ob_v (len_ts GBy.ts_map (l := a15)) (ob_b h1 (ob_n h2 (ob_t (look_ts GBy.ts_map h3) (ob_b h4 (ob_b h4 (ob_b h4 (ob_b h4 (ob_b h4 (ob_b h4 (ob_b h4 (ob_b h4 (ob_b h4 (ob_j (ref12_Inner_j2.ok ht n _ _ _ _ _ _ _ _ _ _ _ _ _ _ _ _ _ _ h5) ob)))))))))))))) (by kernel_rfl)) (ref12_Inner_l1.okL ht n k _ _ _ _ _ _ _ _ _ _ _ _ _ _ _ _ _ h)
      · rw [if_neg h4] at h
        replace h4 := Bool.eq_false_iff.2 h4
        rcases h6 : ref12_Inner_j2 t n  a1 a2 (decide ((a19.length : Int) > 0)) a3 a4 a5 a6 a7 a8 a9 a10 a11 a12 a13 a14 a15 a16 with _ | q_
        · rw [h6] at h; cases h
        rw [h6] at h
        obtain ⟨a37, a38, a39, a40, a41, a42, a43, a44, a45, a46, a47, a48, a49, a50, a51, a52⟩ := q_
        dsimp only at h
        exact loop_more (path (ob_v (len_ts GBy.ts_map (l := a15)) (ob_b h1 (ob_n h2 (ob_t (look_ts GBy.ts_map h3) (ob_b h4 (ob_b h4 (ob_b h4 (ob_b h4 (ob_n h2 (ob_t (look_ts GBy.ts_map h3) (ob_b h4 (ob_b h4 (ob_b h4 (ob_v (len_ts GStep.ts_map (l := a19)) (ob_b h4 (ob_b h4 (ob_j (ref12_Inner_j2.ok ht n _ _ _ _ _ _ _ _ _ _ _ _ _ _ _ _ _ _ h6) ob))))))))))))))))) (by kernel_rfl)) (ref12_Inner_l1.okL ht n k _ _ _ _ _ _ _ _ _ _ _ _ _ _ _ _ _ h)
    · rw [if_neg h1] at h
      replace h1 := Bool.eq_false_iff.2 h1
      rw [← Option.some.inj h]
      exact loop_out (path (ob_v (len_ts GBy.ts_map (l := a15)) (ob_b h1 ob)) (by kernel_rfl)) (fun h => by cases h)
theorem ref12_Inner_l1.ok (ht : TabOk t call) (n : Nat) (a1 : List (List GStep)) (a2 a3 : Int) (a4 : List ByteArray) (a5 : List Int) (a6 a7 : Int) (a8 : ByteArray) (a9 a10 : List GValue) (a11 : Int) (a12 : List GValue) (a13 : List GPred) (a14 : List (List GStep)) (a15 : List GBy) (a16 : List ByteArray) (r : _) (h : ref12_Inner_l1 t n n a1 a2 a3 a4 a5 a6 a7 a8 a9 a10 a11 a12 a13 a14 a15 a16 = some r) : exec (env Tryd.prog 24 Tryd.f24 call) n (sub [1, 1, 1, 0, 1, 0] (bodyOf Tryd.f24)) (mkSt 43 43 [(1, (.ptr 1 0 [] 0)), (3, (.t (.sl true 1 (rows_GStep_ts a1)))), (4, (.t (.v (.int .i64 a2))))] [(1, (.t (.st [(.v (.int .i64 a3)), (.sl false 1 (texts a4)), (.sl false 1 (ints_i64 a5)), (.st [(.v (.int .i64 a6)), (.v (.int .i64 a7)), (.v (.string a8)), (.sl false 5 (GValue.ts a9)), (.sl false 5 (GValue.ts a10))]), (.st [(.v (.int .i64 a11)), (.sl false 5 (GValue.ts a12)), (.sl false 3 (GPred.ts a13))]), (.sl false 1 (rows_GStep_ts a14)), (.sl false 4 (GBy.ts a15)), (.sl false 1 (texts a16))])))]) = some (ref12_Inner_l1.to r) := by
  have e1 : sub [1, 1, 1, 0, 1, 0] (bodyOf Tryd.f24) = .loop (sub [1, 1, 1, 0, 1, 0, 0] (bodyOf Tryd.f24)) := by kernel_rfl
  rw [e1, exec]
  exact ref12_Inner_l1.okL ht n n a1 a2 a3 a4 a5 a6 a7 a8 a9 a10 a11 a12 a13 a14 a15 a16 r h
theorem ref12_Inner.ok {n : Nat} {t : Tab} (ht : TabOk t (run Tryd.prog own kp X n)) : ∀ (p1 : GStep) r, ref12_Inner t n p1 = some r → run Tryd.prog own kp X (n + 1) 24 [(.t (GStep.t p1))] [] = some ((.t (.sl false 1 (rows_GStep_ts r))), []) := by
  intro p1 r h
  obtain ⟨a1, a2, a3, ⟨a4, a5, a6, a7, a8⟩, ⟨a9, a10, a11⟩, a12, a13, a14⟩ := p1
  rw [ref12_Inner] at h
  by_cases h1 : (([] : List (List GStep)).length + a12.length) * 24 ≤ 140737488355328
  case neg => rw [if_neg h1] at h; cases h
  rw [if_pos h1] at h
  rcases h2 : ref12_Inner_l1 t n n (([] : List (List GStep)) ++ a12) 0 a1 a2 a3 a4 a5 a6 a7 a8 a9 a10 a11 a12 a13 a14 with _ | q_
  · rw [h2] at h; cases h
  rw [h2] at h
  obtain ⟨a15, a16, a17, a18, a19, a20, a21, a22, a23, a24, a25, a26, a27, a28, a29, a30, a31⟩ := q_
  dsimp only at h
  rw [← Option.some.inj h]
  exact run_path Tryd.func24 (ob_le (room_ts rows_GStep_ts_map h1) (ob_l (app_ts rows_GStep_ts_map (a := ([] : List (List GStep))) (b := a12)) (ob_k (ref12_Inner_l1.ok ht n _ _ _ _ _ _ _ _ _ _ _ _ _ _ _ _ _ h2) ob))) (by kernel_rfl)
theorem plan_steps_j3.ok (ht : TabOk t call) (n : Nat) (a1 a2 a3 : Int) (a4 a5 : List GStep) (a6 a7 : Int) (a8 : List (List GStep)) (a9 a10 : Int) (a11 : Bool) (r : _) (h : plan_steps_j3 t n a1 a2 a3 a4 a5 a6 a7 a8 a9 a10 a11 = some r) : exec (env Tryd.prog 26 Tryd.f26 call) n (sub [1, 1, 0, 1, 0, 0, 1, 1, 0, 0, 1, 1, 1, 0, 0, 1, 1, 0, 0, 1, 1] (bodyOf Tryd.f26)) (mkSt 50 50 [(1, (.t (.v (.int .i64 a1)))), (2, (.t (.v (.int .i64 a2)))), (7, (.t (.v (.int .i64 a3)))), (11, (.t (.sl false 14 (GStep.ts a4)))), (12, (.t (.sl false 14 (GStep.ts a5)))), (13, (.t (.v (.int .i64 a6)))), (14, (.t (.v (.int .i64 a7)))), (25, (.t (.sl false 1 (rows_GStep_ts a8)))), (26, (.t (.v (.int .i64 a9)))), (27, (.t (.v (.int .i64 a10)))), (37, (.t (.v (.bool a11))))] []) = some (plan_steps_j3.to r) := by
  rw [plan_steps_j3] at h
  by_cases h1 : a11 = true
  · rw [if_pos h1] at h
    rcases h2 : t.plan_steps a4 (IntKind.wrap .i64 (a1 - a3)) (IntKind.wrap .i64 (a2 + 1)) with _ | a12
    · rw [h2] at h; cases h
    rw [h2] at h
    dsimp only at h
    rw [← Option.some.inj h]
    exact path (ob_b h1 (ob_c (ht.plan_steps _ _ _ _ h2) ob)) (by kernel_rfl)
  · rw [if_neg h1] at h
    replace h1 := Bool.eq_false_iff.2 h1
    rw [← Option.some.inj h]
    exact path (ob_b h1 ob) (by kernel_rfl)
theorem plan_steps_l2.okL (ht : TabOk t call) (n : Nat) : ∀ (k : Nat) (a1 a2 a3 : Int) (a4 : List GStep) (a5 a6 : Int) (a7 : List (List GStep)) (a8 a9 : Int) (r : _), plan_steps_l2 t n k a1 a2 a3 a4 a5 a6 a7 a8 a9 = some r → loopN (exec (env Tryd.prog 26 Tryd.f26 call) n (sub [1, 1, 0, 1, 0, 0, 1, 1, 0, 0, 1, 1, 1, 0, 0] (bodyOf Tryd.f26))) k (mkSt 50 50 [(1, (.t (.v (.int .i64 a1)))), (2, (.t (.v (.int .i64 a2)))), (7, (.t (.v (.int .i64 a3)))), (12, (.t (.sl false 14 (GStep.ts a4)))), (13, (.t (.v (.int .i64 a5)))), (14, (.t (.v (.int .i64 a6)))), (25, (.t (.sl false 1 (rows_GStep_ts a7)))), (26, (.t (.v (.int .i64 a8)))), (27, (.t (.v (.int .i64 a9))))] []) = some (plan_steps_l2.to r)
  | 0, a1, a2, a3, a4, a5, a6, a7, a8, a9, r, h => by rw [plan_steps_l2] at h; cases h
  | k + 1, a1, a2, a3, a4, a5, a6, a7, a8, a9, r, h => by
    rw [plan_steps_l2] at h
    by_cases h1 : (decide (a9 < a8)) = true
    · rw [if_pos h1] at h
      by_cases h2 : (decide (0 ≤ (a9 : Int))) = true
      case neg => rw [if_neg h2] at h; cases h
      rw [if_pos h2] at h
      rcases h3 : a7[(a9 : Int).toNat]? with _ | a10
      · rw [h3] at h; cases h
      rw [h3] at h
      dsimp only at h
      by_cases h4 : (decide (a2 ≤ 11)) = true
      · rw [if_pos h4] at h
        rcases h5 : plan_steps_j3 t n  a1 a2 a3 a10 a4 a5 a6 a7 a8 a9 (decide (a3 < a1)) with _ | q_
        · rw [h5] at h; cases h
        rw [h5] at h
        obtain ⟨a11, a12, a13, a14, a15, a16, a17, a18, a19⟩ := q_
        dsimp only at h
        exact loop_more (path (ob_b h1 (ob_n h2 (ob_t (look_ts rows_GStep_ts_map h3) (ob_b h4 (ob_b h4 (ob_b h4 (ob_b h4 (ob_j (plan_steps_j3.ok ht n _ _ _ _ _ _ _ _ _ _ _ _ h5) ob)))))))) (by kernel_rfl)) (plan_steps_l2.okL ht n k _ _ _ _ _ _ _ _ _ _ h)
      · rw [if_neg h4] at h
        replace h4 := Bool.eq_false_iff.2 h4
        rcases h6 : plan_steps_j3 t n  a1 a2 a3 a10 a4 a5 a6 a7 a8 a9 false with _ | q_
        · rw [h6] at h; cases h
        rw [h6] at h
        obtain ⟨a20, a21, a22, a23, a24, a25, a26, a27, a28⟩ := q_
        dsimp only at h
        exact loop_more (path (ob_b h1 (ob_n h2 (ob_t (look_ts rows_GStep_ts_map h3) (ob_b h4 (ob_b h4 (ob_b h4 (ob_b h4 (ob_j (plan_steps_j3.ok ht n _ _ _ _ _ _ _ _ _ _ _ _ h6) ob)))))))) (by kernel_rfl)) (plan_steps_l2.okL ht n k _ _ _ _ _ _ _ _ _ _ h)
    · rw [if_neg h1] at h
      replace h1 := Bool.eq_false_iff.2 h1
      rw [← Option.some.inj h]
      exact loop_out (path (ob_b h1 ob) (by kernel_rfl)) (fun h => by cases h)
theorem plan_steps_l2.ok (ht : TabOk t call) (n : Nat) (a1 a2 a3 : Int) (a4 : List GStep) (a5 a6 : Int) (a7 : List (List GStep)) (a8 a9 : Int) (r : _) (h : plan_steps_l2 t n n a1 a2 a3 a4 a5 a6 a7 a8 a9 = some r) : exec (env Tryd.prog 26 Tryd.f26 call) n (sub [1, 1, 0, 1, 0, 0, 1, 1, 0, 0, 1, 1, 1, 0] (bodyOf Tryd.f26)) (mkSt 50 50 [(1, (.t (.v (.int .i64 a1)))), (2, (.t (.v (.int .i64 a2)))), (7, (.t (.v (.int .i64 a3)))), (12, (.t (.sl false 14 (GStep.ts a4)))), (13, (.t (.v (.int .i64 a5)))), (14, (.t (.v (.int .i64 a6)))), (25, (.t (.sl false 1 (rows_GStep_ts a7)))), (26, (.t (.v (.int .i64 a8)))), (27, (.t (.v (.int .i64 a9))))] []) = some (plan_steps_l2.to r) := by
  have e1 : sub [1, 1, 0, 1, 0, 0, 1, 1, 0, 0, 1, 1, 1, 0] (bodyOf Tryd.f26) = .loop (sub [1, 1, 0, 1, 0, 0, 1, 1, 0, 0, 1, 1, 1, 0, 0] (bodyOf Tryd.f26)) := by kernel_rfl
  rw [e1, exec]
  exact plan_steps_l2.okL ht n n a1 a2 a3 a4 a5 a6 a7 a8 a9 r h
theorem plan_steps_l1.okL (ht : TabOk t call) (n : Nat) : ∀ (k : Nat) (a1 a2 a3 : Int) (a4 : List GStep) (a5 a6 : Int) (r : _), plan_steps_l1 t n k a1 a2 a3 a4 a5 a6 = some r → loopN (exec (env Tryd.prog 26 Tryd.f26 call) n (sub [1, 1, 0, 1, 0, 0] (bodyOf Tryd.f26))) k (mkSt 50 50 [(1, (.t (.v (.int .i64 a1)))), (2, (.t (.v (.int .i64 a2)))), (7, (.t (.v (.int .i64 a3)))), (12, (.t (.sl false 14 (GStep.ts a4)))), (13, (.t (.v (.int .i64 a5)))), (14, (.t (.v (.int .i64 a6))))] []) = some (plan_steps_l1.to r)
  | 0, a1, a2, a3, a4, a5, a6, r, h => by rw [plan_steps_l1] at h; cases h
  | k + 1, a1, a2, a3, a4, a5, a6, r, h => by
    rw [plan_steps_l1] at h
    by_cases h1 : (decide (a6 < a5)) = true
    · rw [if_pos h1] at h
      by_cases h2 : (decide (0 ≤ (a6 : Int))) = true
      case neg => rw [if_neg h2] at h; cases h
      rw [if_pos h2] at h
      rcases h3 : a4[(a6 : Int).toNat]? with _ | ⟨a7, a8, a9, ⟨a10, a11, a12, a13, a14⟩, ⟨a15, a16, a17⟩, a18, a19, a20⟩
      · rw [h3] at h; cases h
      rw [h3] at h
      dsimp only at h
      by_cases h4 : (decide ((IntKind.wrap .i64 (a3 + 1)) ≥ a1)) = true
      · rw [if_pos h4] at h
        rw [← Option.some.inj h]
        exact loop_out (path (ob_b h1 (ob_n h2 (ob_t (look_ts GStep.ts_map h3) (ob_b h4 ob)))) (by kernel_rfl)) (fun h => by cases h)
      · rw [if_neg h4] at h
        replace h4 := Bool.eq_false_iff.2 h4
        rcases h5 : t.plan_inner (GStep.mk a7 a8 a9 (GValue.mk a10 a11 a12 a13 a14) (GPred.mk a15 a16 a17) a18 a19 a20) with _ | a21
        · rw [h5] at h; cases h
        rw [h5] at h
        dsimp only at h
        rcases h6 : plan_steps_l2 t n n a1 a2 (IntKind.wrap .i64 (a3 + 1)) a4 a5 a6 a21 (a21.length : Int) 0 with _ | q_
        · rw [h6] at h; cases h
        rw [h6] at h
        obtain ⟨a22, a23, a24, a25, a26, a27, a28, a29, a30, a31⟩ := q_
        dsimp only at h
        exact loop_more (path (ob_b h1 (ob_n h2 (ob_t (look_ts GStep.ts_map h3) (ob_b h4 (ob_c (ht.plan_inner _ _ h5) (ob_v (len_ts rows_GStep_ts_map (l := a21)) (ob_k (plan_steps_l2.ok ht n _ _ _ _ _ _ _ _ _ _ h6) ob))))))) (by kernel_rfl)) (plan_steps_l1.okL ht n k _ _ _ _ _ _ _ h)
    · rw [if_neg h1] at h
      replace h1 := Bool.eq_false_iff.2 h1
      rw [← Option.some.inj h]
      exact loop_out (path (ob_b h1 ob) (by kernel_rfl)) (fun h => by cases h)
theorem plan_steps_l1.ok (ht : TabOk t call) (n : Nat) (a1 a2 a3 : Int) (a4 : List GStep) (a5 a6 : Int) (r : _) (h : plan_steps_l1 t n n a1 a2 a3 a4 a5 a6 = some r) : exec (env Tryd.prog 26 Tryd.f26 call) n (sub [1, 1, 0, 1, 0] (bodyOf Tryd.f26)) (mkSt 50 50 [(1, (.t (.v (.int .i64 a1)))), (2, (.t (.v (.int .i64 a2)))), (7, (.t (.v (.int .i64 a3)))), (12, (.t (.sl false 14 (GStep.ts a4)))), (13, (.t (.v (.int .i64 a5)))), (14, (.t (.v (.int .i64 a6))))] []) = some (plan_steps_l1.to r) := by
  have e1 : sub [1, 1, 0, 1, 0] (bodyOf Tryd.f26) = .loop (sub [1, 1, 0, 1, 0, 0] (bodyOf Tryd.f26)) := by kernel_rfl
  rw [e1, exec]
  exact plan_steps_l1.okL ht n n a1 a2 a3 a4 a5 a6 r h
theorem plan_steps.ok {n : Nat} {t : Tab} (ht : TabOk t (run Tryd.prog own kp X n)) : ∀ (p1 : List GStep) (p2 : Int) (p3 : Int) r, plan_steps t n p1 p2 p3 = some r → run Tryd.prog own kp X (n + 1) 26 [(.t (.sl false 14 (GStep.ts p1))), (.t (.v (.int .i64 p2))), (.t (.v (.int .i64 p3)))] [] = some ((.t (.v (.int .i64 r))), []) := by
  intro p1 p2 p3 r h
  obtain ⟨a1, rfl⟩ : ∃ z_, z_ = p1 := ⟨_, rfl⟩
  obtain ⟨a2, rfl⟩ : ∃ z_, z_ = p2 := ⟨_, rfl⟩
  obtain ⟨a3, rfl⟩ : ∃ z_, z_ = p3 := ⟨_, rfl⟩
  rw [plan_steps] at h
  rcases h1 : plan_steps_l1 t n n a2 a3 0 a1 (a1.length : Int) 0 with _ | q_
  · rw [h1] at h; cases h
  rw [h1] at h
  rcases q_ with a4 | ⟨a5, a6, a7, a8, a9, a10, a11⟩
  · dsimp only at h
    rw [← Option.some.inj h]
    exact run_path Tryd.func26 (ob_v (len_ts GStep.ts_map (l := a1)) (ob_k (plan_steps_l1.ok ht n _ _ _ _ _ _ _ h1) ob)) (by kernel_rfl)
  · dsimp only at h
    rw [← Option.some.inj h]
    exact run_path Tryd.func26 (ob_v (len_ts GStep.ts_map (l := a1)) (ob_k (plan_steps_l1.ok ht n _ _ _ _ _ _ _ h1) ob)) (by kernel_rfl)
theorem slices_ContainsFunc_plan_right_1.ok {n : Nat} {t : Tab} (ht : TabOk t (run Tryd.prog own kp X n)) : ∀ (p1 : List GStep) (p2 : Int) r, slices_ContainsFunc_plan_right_1 t n p1 p2 = some r → run Tryd.prog own kp X (n + 1) 43 [(.t (.sl false 14 (GStep.ts p1))), (.fn 49 [(.ref (.v (.int .i64 p2)))])] [] = some ((.t (.v (.bool r))), []) := by
  intro p1 p2 r h
  obtain ⟨a1, rfl⟩ : ∃ z_, z_ = p1 := ⟨_, rfl⟩
  obtain ⟨a2, rfl⟩ : ∃ z_, z_ = p2 := ⟨_, rfl⟩
  rw [slices_ContainsFunc_plan_right_1] at h
  rcases h1 : t.slices_IndexFunc_plan_right_1 a1 a2 with _ | a3
  · rw [h1] at h; cases h
  rw [h1] at h
  dsimp only at h
  rw [← Option.some.inj h]
  exact run_path Tryd.func43 (ob_c (ht.slices_IndexFunc_plan_right_1 _ _ _ h1) ob) (by kernel_rfl)
theorem ref02_Many_j2.ok (ht : TabOk t call) (n : Nat) (a1 : List GValue) (a2 a3 a4 : Int) (r : _) (h : ref02_Many_j2 t n a1 a2 a3 a4 = some r) : exec (env Tryd.prog 54 Tryd.f54 call) n (sub [1, 1, 0, 1, 0, 0, 1] (bodyOf Tryd.f54)) (mkSt 29 29 [(0, (.t (.sl false 5 (GValue.ts a1)))), (1, (.t (.v (.int .i64 a2)))), (5, (.t (.v (.int .i64 a3)))), (6, (.t (.v (.int .i64 a4))))] []) = some (ref02_Many_j2.to r) := by
  rw [ref02_Many_j2] at h
  by_cases h1 : (decide (0 ≤ (a4 : Int))) = true
  case neg => rw [if_neg h1] at h; cases h
  rw [if_pos h1] at h
  rcases h2 : a1[(a4 : Int).toNat]? with _ | ⟨a5, a6, a7, a8, a9⟩
  · rw [h2] at h; cases h
  rw [h2] at h
  dsimp only at h
  rcases h3 : t.ref02_Count (GValue.mk a5 a6 a7 a8 a9) (IntKind.wrap .i64 (a2 - a3)) with _ | a10
  · rw [h3] at h; cases h
  rw [h3] at h
  dsimp only at h
  rw [← Option.some.inj h]
  exact path (ob_n h1 (ob_t (look_ts GValue.ts_map h2) (ob_c (ht.ref02_Count _ _ _ h3) ob))) (by kernel_rfl)
theorem ref02_Many_l1.okL (ht : TabOk t call) (n : Nat) : ∀ (k : Nat) (a1 : List GValue) (a2 a3 a4 : Int) (r : _), ref02_Many_l1 t n k a1 a2 a3 a4 = some r → loopN (exec (env Tryd.prog 54 Tryd.f54 call) n (sub [1, 1, 0, 1, 0, 0] (bodyOf Tryd.f54))) k (mkSt 29 29 [(0, (.t (.sl false 5 (GValue.ts a1)))), (1, (.t (.v (.int .i64 a2)))), (5, (.t (.v (.int .i64 a3)))), (6, (.t (.v (.int .i64 a4))))] []) = some (ref02_Many_l1.to r)
  | 0, a1, a2, a3, a4, r, h => by rw [ref02_Many_l1] at h; cases h
  | k + 1, a1, a2, a3, a4, r, h => by
    rw [ref02_Many_l1] at h
    by_cases h1 : (decide (a4 < (a1.length : Int))) = true
    · rw [if_pos h1] at h
      by_cases h2 : (decide (a3 < a2)) = true
      · rw [if_pos h2] at h
        rcases h3 : ref02_Many_j2 t n  a1 a2 a3 a4 with _ | q_
        · rw [h3] at h; cases h
        rw [h3] at h
        obtain ⟨a5, a6, a7, a8⟩ := q_
        dsimp only at h
        exact loop_more (path (ob_v (len_ts GValue.ts_map (l := a1)) (ob_b h1 (ob_b h1 (ob_b h1 (ob_b h1 (ob_b h2 (ob_j (ref02_Many_j2.ok ht n _ _ _ _ _ h3) ob))))))) (by kernel_rfl)) (ref02_Many_l1.okL ht n k _ _ _ _ _ h)
      · rw [if_neg h2] at h
        replace h2 := Bool.eq_false_iff.2 h2
        rw [← Option.some.inj h]
        exact loop_out (path (ob_v (len_ts GValue.ts_map (l := a1)) (ob_b h1 (ob_b h1 (ob_b h1 (ob_b h1 (ob_b h2 ob)))))) (by kernel_rfl)) (fun h => by cases h)
    · rw [if_neg h1] at h
      replace h1 := Bool.eq_false_iff.2 h1
      rw [← Option.some.inj h]
      exact loop_out (path (ob_v (len_ts GValue.ts_map (l := a1)) (ob_b h1 (ob_b h1 (ob_b h1 (ob_b h1 (ob_b (rfl : false = false) ob)))))) (by kernel_rfl)) (fun h => by cases h)
theorem ref02_Many_l1.ok (ht : TabOk t call) (n : Nat) (a1 : List GValue) (a2 a3 a4 : Int) (r : _) (h : ref02_Many_l1 t n n a1 a2 a3 a4 = some r) : exec (env Tryd.prog 54 Tryd.f54 call) n (sub [1, 1, 0, 1, 0] (bodyOf Tryd.f54)) (mkSt 29 29 [(0, (.t (.sl false 5 (GValue.ts a1)))), (1, (.t (.v (.int .i64 a2)))), (5, (.t (.v (.int .i64 a3)))), (6, (.t (.v (.int .i64 a4))))] []) = some (ref02_Many_l1.to r) := by
  have e1 : sub [1, 1, 0, 1, 0] (bodyOf Tryd.f54) = .loop (sub [1, 1, 0, 1, 0, 0] (bodyOf Tryd.f54)) := by kernel_rfl
  rw [e1, exec]
  exact ref02_Many_l1.okL ht n n a1 a2 a3 a4 r h
theorem ref02_Many.ok {n : Nat} {t : Tab} (ht : TabOk t (run Tryd.prog own kp X n)) : ∀ (p1 : List GValue) (p2 : Int) r, ref02_Many t n p1 p2 = some r → run Tryd.prog own kp X (n + 1) 54 [(.t (.sl false 5 (GValue.ts p1))), (.t (.v (.int .i64 p2)))] [] = some ((.t (.v (.int .i64 r))), []) := by
  intro p1 p2 r h
  obtain ⟨a1, rfl⟩ : ∃ z_, z_ = p1 := ⟨_, rfl⟩
  obtain ⟨a2, rfl⟩ : ∃ z_, z_ = p2 := ⟨_, rfl⟩
  rw [ref02_Many] at h
  rcases h1 : ref02_Many_l1 t n n a1 a2 0 0 with _ | q_
  · rw [h1] at h; cases h
  rw [h1] at h
  obtain ⟨a3, a4, a5, a6, a7⟩ := q_
  dsimp only at h
  rw [← Option.some.inj h]
  exact run_path Tryd.func54 (ob_k (ref02_Many_l1.ok ht n _ _ _ _ _ h1) ob) (by kernel_rfl)
theorem plan_inner_j2.ok (ht : TabOk t call) (n : Nat) (a1 : List (List GStep)) (a2 : List GBy) (a3 a4 : Int) (a5 : Bool) (a6 : Int) (a7 : ByteArray) (a8 : List GStep) (a9 : Bool) (r : _) (h : plan_inner_j2 t n a1 a2 a3 a4 a5 a6 a7 a8 a9 = some r) : exec (env Tryd.prog 46 Tryd.f46 call) n (sub [1, 1, 0, 1, 0, 0, 1, 1, 0, 0, 1, 1] (bodyOf Tryd.f46)) (mkSt 32 32 [(3, (.t (.sl true 1 (rows_GStep_ts a1)))), (5, (.ptr 5 0 [] 0)), (10, (.t (.sl false 4 (GBy.ts a2)))), (11, (.t (.v (.int .i64 a3)))), (12, (.t (.v (.int .i64 a4)))), (24, (.t (.v (.bool a5))))] [(5, (.t (.st [(.v (.int .i64 a6)), (.v (.string a7)), (.sl false 14 (GStep.ts a8)), (.v (.bool a9))])))]) = some (plan_inner_j2.to r) := by
  rw [plan_inner_j2] at h
  by_cases h1 : a5 = true
  · rw [if_pos h1] at h
    by_cases h2 : (a1.length + ([a8] : List (List GStep)).length) * 24 ≤ 140737488355328
    case neg => rw [if_neg h2] at h; cases h
    rw [if_pos h2] at h
    rw [← Option.some.inj h]
    exact path (ob_b h1 (ob_le (room_ts rows_GStep_ts_map h2) (ob_l (app_ts rows_GStep_ts_map (a := a1) (b := ([a8] : List (List GStep)))) ob))) (by kernel_rfl)
  · rw [if_neg h1] at h
    replace h1 := Bool.eq_false_iff.2 h1
    rw [← Option.some.inj h]
    exact path (ob_b h1 ob) (by kernel_rfl)
theorem plan_inner_l1.okL (ht : TabOk t call) (n : Nat) : ∀ (k : Nat) (a1 : List (List GStep)) (a2 : List GBy) (a3 a4 : Int) (r : _), plan_inner_l1 t n k a1 a2 a3 a4 = some r → loopN (exec (env Tryd.prog 46 Tryd.f46 call) n (sub [1, 1, 0, 1, 0, 0] (bodyOf Tryd.f46))) k (mkSt 32 32 [(3, (.t (.sl true 1 (rows_GStep_ts a1)))), (10, (.t (.sl false 4 (GBy.ts a2)))), (11, (.t (.v (.int .i64 a3)))), (12, (.t (.v (.int .i64 a4))))] []) = some (plan_inner_l1.to r)
  | 0, a1, a2, a3, a4, r, h => by rw [plan_inner_l1] at h; cases h
  | k + 1, a1, a2, a3, a4, r, h => by
    rw [plan_inner_l1] at h
    by_cases h1 : (decide (a4 < a3)) = true
    · rw [if_pos h1] at h
      by_cases h2 : (decide (0 ≤ (a4 : Int))) = true
      case neg => rw [if_neg h2] at h; cases h
      rw [if_pos h2] at h
      rcases h3 : a2[(a4 : Int).toNat]? with _ | ⟨a5, a6, a7, a8⟩
      · rw [h3] at h; cases h
      rw [h3] at h
      dsimp only at h
      by_cases h4 : (a5 == 3) = true
      · rw [if_pos h4] at h
        rcases h5 : plan_inner_j2 t n  a1 a2 a3 a4 true a5 a6 a7 a8 with _ | q_
        · rw [h5] at h; cases h
        rw [h5] at h
        obtain ⟨a9, a10, a11, a12⟩ := q_
        dsimp only at h
        exact loop_more (path (ob_b h1 (ob_n h2 (ob_t (look_ts GBy.ts_map h3) (ob_b h4 (ob_b h4 (ob_b h4 (ob_b h4 (ob_b h4 (ob_j (plan_inner_j2.ok ht n _ _ _ _ _ _ _ _ _ _ h5) ob))))))))) (by kernel_rfl)) (plan_inner_l1.okL ht n k _ _ _ _ _ h)
      · rw [if_neg h4] at h
        replace h4 := Bool.eq_false_iff.2 h4
        rcases h6 : plan_inner_j2 t n  a1 a2 a3 a4 (decide ((a7.length : Int) > 0)) a5 a6 a7 a8 with _ | q_
        · rw [h6] at h; cases h
        rw [h6] at h
        obtain ⟨a13, a14, a15, a16⟩ := q_
        dsimp only at h
        exact loop_more (path (ob_b h1 (ob_n h2 (ob_t (look_ts GBy.ts_map h3) (ob_b h4 (ob_b h4 (ob_b h4 (ob_v (len_ts GStep.ts_map (l := a7)) (ob_b h4 (ob_b h4 (ob_j (plan_inner_j2.ok ht n _ _ _ _ _ _ _ _ _ _ h6) ob)))))))))) (by kernel_rfl)) (plan_inner_l1.okL ht n k _ _ _ _ _ h)
    · rw [if_neg h1] at h
      replace h1 := Bool.eq_false_iff.2 h1
      rw [← Option.some.inj h]
      exact loop_out (path (ob_b h1 ob) (by kernel_rfl)) (fun h => by cases h)
theorem plan_inner_l1.ok (ht : TabOk t call) (n : Nat) (a1 : List (List GStep)) (a2 : List GBy) (a3 a4 : Int) (r : _) (h : plan_inner_l1 t n n a1 a2 a3 a4 = some r) : exec (env Tryd.prog 46 Tryd.f46 call) n (sub [1, 1, 0, 1, 0] (bodyOf Tryd.f46)) (mkSt 32 32 [(3, (.t (.sl true 1 (rows_GStep_ts a1)))), (10, (.t (.sl false 4 (GBy.ts a2)))), (11, (.t (.v (.int .i64 a3)))), (12, (.t (.v (.int .i64 a4))))] []) = some (plan_inner_l1.to r) := by
  have e1 : sub [1, 1, 0, 1, 0] (bodyOf Tryd.f46) = .loop (sub [1, 1, 0, 1, 0, 0] (bodyOf Tryd.f46)) := by kernel_rfl
  rw [e1, exec]
  exact plan_inner_l1.okL ht n n a1 a2 a3 a4 r h
theorem plan_inner.ok {n : Nat} {t : Tab} (ht : TabOk t (run Tryd.prog own kp X n)) : ∀ (p1 : GStep) r, plan_inner t n p1 = some r → run Tryd.prog own kp X (n + 1) 46 [(.t (GStep.t p1))] [] = some ((.t (.sl false 1 (rows_GStep_ts r))), []) := by
  intro p1 r h
  obtain ⟨a1, a2, a3, ⟨a4, a5, a6, a7, a8⟩, ⟨a9, a10, a11⟩, a12, a13, a14⟩ := p1
  rw [plan_inner] at h
  rcases h1 : t.slices_Clone_Step a12 with _ | a15
  · rw [h1] at h; cases h
  rw [h1] at h
  dsimp only at h
  rcases h2 : plan_inner_l1 t n n a15 a13 (a13.length : Int) 0 with _ | q_
  · rw [h2] at h; cases h
  rw [h2] at h
  obtain ⟨a16, a17, a18, a19, a20⟩ := q_
  dsimp only at h
  rw [← Option.some.inj h]
  exact run_path Tryd.func46 (ob_c (ht.slices_Clone_Step _ _ h1) (ob_v (len_ts GBy.ts_map (l := a13)) (ob_k (plan_inner_l1.ok ht n _ _ _ _ _ h2) ob))) (by kernel_rfl)
theorem slices_IndexFunc_plan_right_1_l1.okL (ht : TabOk t call) (n : Nat) : ∀ (k : Nat) (a1 : List GStep) (a2 a3 a4 : Int) (r : _), slices_IndexFunc_plan_right_1_l1 t n k a1 a2 a3 a4 = some r → loopN (exec (env Tryd.prog 60 Tryd.f60 call) n (sub [1, 0, 1, 0, 0] (bodyOf Tryd.f60))) k (mkSt 19 19 [(0, (.t (.sl false 14 (GStep.ts a1)))), (1, (.fn 49 [(.ref (.v (.int .i64 a2)))])), (7, (.t (.v (.int .i64 a3)))), (8, (.t (.v (.int .i64 a4))))] []) = some (slices_IndexFunc_plan_right_1_l1.to r)
  | 0, a1, a2, a3, a4, r, h => by rw [slices_IndexFunc_plan_right_1_l1] at h; cases h
  | k + 1, a1, a2, a3, a4, r, h => by
    rw [slices_IndexFunc_plan_right_1_l1] at h
    by_cases h1 : (decide (a4 < a3)) = true
    · rw [if_pos h1] at h
      by_cases h2 : (decide (0 ≤ (a4 : Int))) = true
      case neg => rw [if_neg h2] at h; cases h
      rw [if_pos h2] at h
      rcases h3 : a1[(a4 : Int).toNat]? with _ | ⟨a5, a6, a7, ⟨a8, a9, a10, a11, a12⟩, ⟨a13, a14, a15⟩, a16, a17, a18⟩
      · rw [h3] at h; cases h
      rw [h3] at h
      dsimp only at h
      rcases h4 : t.plan_right_1 (GStep.mk a5 a6 a7 (GValue.mk a8 a9 a10 a11 a12) (GPred.mk a13 a14 a15) a16 a17 a18) a2 with _ | a19
      · rw [h4] at h; cases h
      rw [h4] at h
      dsimp only at h
      by_cases h5 : a19 = true
      · rw [if_pos h5] at h
        rw [← Option.some.inj h]
        exact loop_out (path (ob_b h1 (ob_n h2 (ob_t (look_ts GStep.ts_map h3) (ob_c (ht.plan_right_1 _ _ _ h4) (ob_b h5 ob))))) (by kernel_rfl)) (fun h => by cases h)
      · rw [if_neg h5] at h
        replace h5 := Bool.eq_false_iff.2 h5
        exact loop_more (path (ob_b h1 (ob_n h2 (ob_t (look_ts GStep.ts_map h3) (ob_c (ht.plan_right_1 _ _ _ h4) (ob_b h5 ob))))) (by kernel_rfl)) (slices_IndexFunc_plan_right_1_l1.okL ht n k _ _ _ _ _ h)
    · rw [if_neg h1] at h
      replace h1 := Bool.eq_false_iff.2 h1
      rw [← Option.some.inj h]
      exact loop_out (path (ob_b h1 ob) (by kernel_rfl)) (fun h => by cases h)
theorem slices_IndexFunc_plan_right_1_l1.ok (ht : TabOk t call) (n : Nat) (a1 : List GStep) (a2 a3 a4 : Int) (r : _) (h : slices_IndexFunc_plan_right_1_l1 t n n a1 a2 a3 a4 = some r) : exec (env Tryd.prog 60 Tryd.f60 call) n (sub [1, 0, 1, 0] (bodyOf Tryd.f60)) (mkSt 19 19 [(0, (.t (.sl false 14 (GStep.ts a1)))), (1, (.fn 49 [(.ref (.v (.int .i64 a2)))])), (7, (.t (.v (.int .i64 a3)))), (8, (.t (.v (.int .i64 a4))))] []) = some (slices_IndexFunc_plan_right_1_l1.to r) := by
  have e1 : sub [1, 0, 1, 0] (bodyOf Tryd.f60) = .loop (sub [1, 0, 1, 0, 0] (bodyOf Tryd.f60)) := by kernel_rfl
  rw [e1, exec]
  exact slices_IndexFunc_plan_right_1_l1.okL ht n n a1 a2 a3 a4 r h
theorem slices_IndexFunc_plan_right_1.ok {n : Nat} {t : Tab} (ht : TabOk t (run Tryd.prog own kp X n)) : ∀ (p1 : List GStep) (p2 : Int) r, slices_IndexFunc_plan_right_1 t n p1 p2 = some r → run Tryd.prog own kp X (n + 1) 60 [(.t (.sl false 14 (GStep.ts p1))), (.fn 49 [(.ref (.v (.int .i64 p2)))])] [] = some ((.t (.v (.int .i64 r))), []) := by
  intro p1 p2 r h
  obtain ⟨a1, rfl⟩ : ∃ z_, z_ = p1 := ⟨_, rfl⟩
  obtain ⟨a2, rfl⟩ : ∃ z_, z_ = p2 := ⟨_, rfl⟩
  rw [slices_IndexFunc_plan_right_1] at h
  rcases h1 : slices_IndexFunc_plan_right_1_l1 t n n a1 a2 (a1.length : Int) 0 with _ | q_
  · rw [h1] at h; cases h
  rw [h1] at h
  rcases q_ with a3 | ⟨a4, a5, a6, a7, a8⟩
  · dsimp only at h
    rw [← Option.some.inj h]
    exact run_path Tryd.func60 (ob_v (len_ts GStep.ts_map (l := a1)) (ob_k (slices_IndexFunc_plan_right_1_l1.ok ht n _ _ _ _ _ h1) ob)) (by kernel_rfl)
  · dsimp only at h
    rw [← Option.some.inj h]
    exact run_path Tryd.func60 (ob_v (len_ts GStep.ts_map (l := a1)) (ob_k (slices_IndexFunc_plan_right_1_l1.ok ht n _ _ _ _ _ h1) ob)) (by kernel_rfl)
theorem plan_right_1.ok {n : Nat} {t : Tab} (ht : TabOk t (run Tryd.prog own kp X n)) : ∀ (p1 : GStep) (p2 : Int) r, plan_right_1 t n p1 p2 = some r → run Tryd.prog own kp X (n + 1) 49 [(.t (GStep.t p1)), (.ref (.v (.int .i64 p2)))] [] = some ((.t (.v (.bool r))), []) := by
  intro p1 p2 r h
  obtain ⟨a1, a2, a3, ⟨a4, a5, a6, a7, a8⟩, ⟨a9, a10, a11⟩, a12, a13, a14⟩ := p1
  obtain ⟨a15, rfl⟩ : ∃ z_, z_ = p2 := ⟨_, rfl⟩
  rw [plan_right_1] at h
  rcases h1 : t.plan_step (GStep.mk a1 a2 a3 (GValue.mk a4 a5 a6 a7 a8) (GPred.mk a9 a10 a11) a12 a13 a14) a15 with _ | a16
  · rw [h1] at h; cases h
  rw [h1] at h
  dsimp only at h
  rw [← Option.some.inj h]
  exact run_path Tryd.func49 (ob_c (ht.plan_step _ _ _ h1) ob) (by kernel_rfl)
theorem plan_step_j4.ok (ht : TabOk t call) (n : Nat) (a1 : Int) (a2 : Bool) (a3 : Int) (a4 : List ByteArray) (a5 : List Int) (a6 a7 : Int) (a8 : ByteArray) (a9 a10 : List GValue) (a11 : Int) (a12 : List GValue) (a13 : List GPred) (a14 : List (List GStep)) (a15 : List GBy) (a16 : List ByteArray) (r : _) (h : plan_step_j4 t n a1 a2 a3 a4 a5 a6 a7 a8 a9 a10 a11 a12 a13 a14 a15 a16 = some r) : exec (env Tryd.prog 50 Tryd.f50 call) n (sub [1, 1, 1, 1, 0, 0, 1, 1, 1, 1, 1, 1, 1] (bodyOf Tryd.f50)) (mkSt 163 163 [(1, (.t (.v (.int .i64 a1)))), (2, (.ptr 2 0 [] 0)), (97, (.t (.v (.bool a2))))] [(2, (.t (.st [(.v (.int .i64 a3)), (.sl false 1 (texts a4)), (.sl false 1 (ints_i64 a5)), (.st [(.v (.int .i64 a6)), (.v (.int .i64 a7)), (.v (.string a8)), (.sl false 5 (GValue.ts a9)), (.sl false 5 (GValue.ts a10))]), (.st [(.v (.int .i64 a11)), (.sl false 5 (GValue.ts a12)), (.sl false 3 (GPred.ts a13))]), (.sl false 1 (rows_GStep_ts a14)), (.sl false 4 (GBy.ts a15)), (.sl false 1 (texts a16))])))]) = some (plan_step_j4.to r) := by
  rw [plan_step_j4] at h
  by_cases h1 : a2 = true
  · rw [if_pos h1] at h
    rw [← Option.some.inj h]
    exact path (ob_b h1 ob) (by kernel_rfl)
  · rw [if_neg h1] at h
    replace h1 := Bool.eq_false_iff.2 h1
    by_cases h2 : (a3 == 43) = true
    · rw [if_pos h2] at h
      rcases h3 : t.plan_twice a4 with _ | a17
      · rw [h3] at h; cases h
      rw [h3] at h
      dsimp only at h
      by_cases h4 : a17 = true
      · rw [if_pos h4] at h
        rw [← Option.some.inj h]
        exact path (ob_b h1 (ob_b h2 (ob_b h2 (ob_b h2 (ob_c (ht.plan_twice _ _ h3) (ob_b h2 (ob_b h4 (ob_b h4 (ob_b h4 (ob_b h4 (ob_b h4 (ob_b h4 (ob_b h4 (ob_b h2 (ob_b h4 (ob_b h2 (ob_b (rfl : true = true) ob))))))))))))))))) (by kernel_rfl)
      · rw [if_neg h4] at h
        replace h4 := Bool.eq_false_iff.2 h4
        by_cases h5 : (decide ((a15.length : Int) > (a4.length : Int))) = true
        · rw [if_pos h5] at h
          rw [← Option.some.inj h]
          exact path (ob_b h1 (ob_b h2 (ob_b h2 (ob_b h2 (ob_c (ht.plan_twice _ _ h3) (ob_b h2 (ob_b h4 (ob_b h4 (ob_b h4 (ob_v (len_ts GBy.ts_map (l := a15)) (ob_b h4 (ob_b h4 (ob_b h4 (ob_v (len_ts texts_map (l := a4)) (ob_b h4 (ob_b h2 (ob_b h4 (ob_b h2 (ob_b h5 ob))))))))))))))))))) (by kernel_rfl)
        · rw [if_neg h5] at h
          replace h5 := Bool.eq_false_iff.2 h5
          rw [← Option.some.inj h]
          exact path (ob_b h1 (ob_b h2 (ob_b h2 (ob_b h2 (ob_c (ht.plan_twice _ _ h3) (ob_b h2 (ob_b h4 (ob_b h4 (ob_b h4 (ob_v (len_ts GBy.ts_map (l := a15)) (ob_b h4 (ob_b h4 (ob_b h4 (ob_v (len_ts texts_map (l := a4)) (ob_b h4 (ob_b h2 (ob_b h4 (ob_b h2 (ob_b h5 ob))))))))))))))))))) (by kernel_rfl)
    · rw [if_neg h2] at h
      replace h2 := Bool.eq_false_iff.2 h2
      rw [← Option.some.inj h]
      exact path (ob_b h1 (ob_b h2 (ob_b h2 (ob_b h2 (ob_b h2 (ob_b h2 (ob_b h2 (ob_b (rfl : false = false) ob)))))))) (by kernel_rfl)
theorem plan_step_j3.ok (ht : TabOk t call) (n : Nat) (a1 : Int) (a2 : Bool) (a3 : Int) (a4 : List ByteArray) (a5 : List Int) (a6 a7 : Int) (a8 : ByteArray) (a9 a10 : List GValue) (a11 : Int) (a12 : List GValue) (a13 : List GPred) (a14 : List (List GStep)) (a15 : List GBy) (a16 : List ByteArray) (a17 a18 a19 a20 a21 a22 a23 a24 : Int) (a25 a26 : Bool) (r : _) (h : plan_step_j3 t n a1 a2 a3 a4 a5 a6 a7 a8 a9 a10 a11 a12 a13 a14 a15 a16 a17 a18 a19 a20 a21 a22 a23 a24 a25 a26 = some r) : exec (env Tryd.prog 50 Tryd.f50 call) n (sub [1, 1, 1, 1, 0, 0, 1, 1, 1, 1, 1] (bodyOf Tryd.f50)) (mkSt 163 163 [(1, (.t (.v (.int .i64 a1)))), (2, (.ptr 2 0 [] 0)), (5, (.ptr 5 0 [] 0)), (76, (.t (.v (.bool a2))))] [(2, (.t (.st [(.v (.int .i64 a3)), (.sl false 1 (texts a4)), (.sl false 1 (ints_i64 a5)), (.st [(.v (.int .i64 a6)), (.v (.int .i64 a7)), (.v (.string a8)), (.sl false 5 (GValue.ts a9)), (.sl false 5 (GValue.ts a10))]), (.st [(.v (.int .i64 a11)), (.sl false 5 (GValue.ts a12)), (.sl false 3 (GPred.ts a13))]), (.sl false 1 (rows_GStep_ts a14)), (.sl false 4 (GBy.ts a15)), (.sl false 1 (texts a16))]))), (5, (.t (.st [(.st [(.v (.int .i64 a17)), (.v (.int .i64 a18))]), (.st [(.v (.int .i64 a19)), (.v (.int .i64 a20))]), (.st [(.v (.int .i64 a21)), (.v (.int .i64 a22))]), (.st [(.v (.int .i64 a23)), (.v (.int .i64 a24))]), (.v (.bool a25)), (.v (.bool a26))])))]) = some (plan_step_j3.to r) := by
  rw [plan_step_j3] at h
  by_cases h1 : a2 = true
  · rw [if_pos h1] at h
    rw [← Option.some.inj h]
    exact path (ob_b h1 ob) (by kernel_rfl)
  · rw [if_neg h1] at h
    replace h1 := Bool.eq_false_iff.2 h1
    by_cases h2 : a26 = true
    · rw [if_pos h2] at h
      rcases h3 : t.pred_Check (GPred.mk a11 a12 a13) with _ | a27
      · rw [h3] at h; cases h
      rw [h3] at h
      dsimp only at h
      by_cases h4 : (a27 != 0) = true
      · rw [if_pos h4] at h
        have h5 := h
        rcases r with a28 | ⟨a29, a30, a31, a32, a33, a34, a35, a36, a37, a38, a39, a40, a41, a42, a43⟩
        · exact path (ob_b h1 (ob_b h2 (ob_b h2 (ob_b h2 (ob_c (ht.pred_Check _ _ h3) (ob_b h2 (ob_b h2 (ob_b h4 (ob_b h4 (ob_b h4 (ob_b h4 (ob_b h4 (ob_b h4 (ob_j (plan_step_j4.ok ht n _ _ _ _ _ _ _ _ _ _ _ _ _ _ _ _ _ h5) ob)))))))))))))) (by kernel_rfl)
        · exact path (ob_b h1 (ob_b h2 (ob_b h2 (ob_b h2 (ob_c (ht.pred_Check _ _ h3) (ob_b h2 (ob_b h2 (ob_b h4 (ob_b h4 (ob_b h4 (ob_b h4 (ob_b h4 (ob_b h4 (ob_j (plan_step_j4.ok ht n _ _ _ _ _ _ _ _ _ _ _ _ _ _ _ _ _ h5) ob)))))))))))))) (by kernel_rfl)
      · rw [if_neg h4] at h
        replace h4 := Bool.eq_false_iff.2 h4
        have h6 := h
        rcases r with a44 | ⟨a45, a46, a47, a48, a49, a50, a51, a52, a53, a54, a55, a56, a57, a58, a59⟩
        · exact path (ob_b h1 (ob_b h2 (ob_b h2 (ob_b h2 (ob_c (ht.pred_Check _ _ h3) (ob_b h2 (ob_b h2 (ob_b h4 (ob_b h4 (ob_b h4 (ob_b h4 (ob_b (congrArg (!·) h2) (ob_b (congrArg (!·) h2) (ob_b (congrArg (!·) h2) (ob_b (congrArg (!·) h2) (ob_b h4 (ob_b (congrArg (!·) h2) (ob_b h4 (ob_j (plan_step_j4.ok ht n _ _ _ _ _ _ _ _ _ _ _ _ _ _ _ _ _ h6) ob))))))))))))))))))) (by kernel_rfl)
        · exact path (ob_b h1 (ob_b h2 (ob_b h2 (ob_b h2 (ob_c (ht.pred_Check _ _ h3) (ob_b h2 (ob_b h2 (ob_b h4 (ob_b h4 (ob_b h4 (ob_b h4 (ob_b (congrArg (!·) h2) (ob_b (congrArg (!·) h2) (ob_b (congrArg (!·) h2) (ob_b (congrArg (!·) h2) (ob_b h4 (ob_b (congrArg (!·) h2) (ob_b h4 (ob_j (plan_step_j4.ok ht n _ _ _ _ _ _ _ _ _ _ _ _ _ _ _ _ _ h6) ob))))))))))))))))))) (by kernel_rfl)
    · rw [if_neg h2] at h
      replace h2 := Bool.eq_false_iff.2 h2
      rcases h7 : t.plan_empty (GPred.mk a11 a12 a13) with _ | a60
      · rw [h7] at h; cases h
      rw [h7] at h
      dsimp only at h
      have h8 := h
      rcases r with a61 | ⟨a62, a63, a64, a65, a66, a67, a68, a69, a70, a71, a72, a73, a74, a75, a76⟩
      · exact path (ob_b h1 (ob_b h2 (ob_b h2 (ob_b h2 (ob_b h2 (ob_b h2 (ob_b (rfl : false = false) (ob_b (rfl : false = false) (ob_b (rfl : false = false) (ob_b (rfl : false = false) (ob_b (congrArg (!·) h2) (ob_b (congrArg (!·) h2) (ob_b (congrArg (!·) h2) (ob_c (ht.plan_empty _ _ h7) (ob_b (congrArg (!·) h2) (ob_b (rfl : false = false) (ob_b (congrArg (!·) h2) (ob_b (rfl : false = false) (ob_j (plan_step_j4.ok ht n _ _ _ _ _ _ _ _ _ _ _ _ _ _ _ _ _ h8) ob))))))))))))))))))) (by kernel_rfl)
      · exact path (ob_b h1 (ob_b h2 (ob_b h2 (ob_b h2 (ob_b h2 (ob_b h2 (ob_b (rfl : false = false) (ob_b (rfl : false = false) (ob_b (rfl : false = false) (ob_b (rfl : false = false) (ob_b (congrArg (!·) h2) (ob_b (congrArg (!·) h2) (ob_b (congrArg (!·) h2) (ob_c (ht.plan_empty _ _ h7) (ob_b (congrArg (!·) h2) (ob_b (rfl : false = false) (ob_b (congrArg (!·) h2) (ob_b (rfl : false = false) (ob_j (plan_step_j4.ok ht n _ _ _ _ _ _ _ _ _ _ _ _ _ _ _ _ _ h8) ob))))))))))))))))))) (by kernel_rfl)
theorem plan_step_j2.ok (ht : TabOk t call) (n : Nat) (a1 : Int) (a2 : Bool) (a3 : Int) (a4 : List ByteArray) (a5 : List Int) (a6 a7 : Int) (a8 : ByteArray) (a9 a10 : List GValue) (a11 : Int) (a12 : List GValue) (a13 : List GPred) (a14 : List (List GStep)) (a15 : List GBy) (a16 : List ByteArray) (a17 a18 a19 a20 a21 a22 a23 a24 : Int) (a25 a26 : Bool) (r : _) (h : plan_step_j2 t n a1 a2 a3 a4 a5 a6 a7 a8 a9 a10 a11 a12 a13 a14 a15 a16 a17 a18 a19 a20 a21 a22 a23 a24 a25 a26 = some r) : exec (env Tryd.prog 50 Tryd.f50 call) n (sub [1, 1, 1, 1, 0, 0, 1, 1, 1] (bodyOf Tryd.f50)) (mkSt 163 163 [(1, (.t (.v (.int .i64 a1)))), (2, (.ptr 2 0 [] 0)), (5, (.ptr 5 0 [] 0)), (60, (.t (.v (.bool a2))))] [(2, (.t (.st [(.v (.int .i64 a3)), (.sl false 1 (texts a4)), (.sl false 1 (ints_i64 a5)), (.st [(.v (.int .i64 a6)), (.v (.int .i64 a7)), (.v (.string a8)), (.sl false 5 (GValue.ts a9)), (.sl false 5 (GValue.ts a10))]), (.st [(.v (.int .i64 a11)), (.sl false 5 (GValue.ts a12)), (.sl false 3 (GPred.ts a13))]), (.sl false 1 (rows_GStep_ts a14)), (.sl false 4 (GBy.ts a15)), (.sl false 1 (texts a16))]))), (5, (.t (.st [(.st [(.v (.int .i64 a17)), (.v (.int .i64 a18))]), (.st [(.v (.int .i64 a19)), (.v (.int .i64 a20))]), (.st [(.v (.int .i64 a21)), (.v (.int .i64 a22))]), (.st [(.v (.int .i64 a23)), (.v (.int .i64 a24))]), (.v (.bool a25)), (.v (.bool a26))])))]) = some (plan_step_j2.to r) := by
  rw [plan_step_j2] at h
  by_cases h1 : a2 = true
  · rw [if_pos h1] at h
    rw [← Option.some.inj h]
    exact path (ob_b h1 ob) (by kernel_rfl)
  · rw [if_neg h1] at h
    replace h1 := Bool.eq_false_iff.2 h1
    by_cases h2 : a25 = true
    · rw [if_pos h2] at h
      rcases h3 : t.value_Check (GValue.mk a6 a7 a8 a9 a10) with _ | a27
      · rw [h3] at h; cases h
      rw [h3] at h
      dsimp only at h
      by_cases h4 : (a27 != 0) = true
      · rw [if_pos h4] at h
        have h5 := h
        rcases r with a28 | ⟨a29, a30, a31, a32, a33, a34, a35, a36, a37, a38, a39, a40, a41, a42, a43⟩
        · exact path (ob_b h1 (ob_b h2 (ob_b h2 (ob_b h2 (ob_c (ht.value_Check _ _ h3) (ob_b h2 (ob_b h2 (ob_b h4 (ob_b h4 (ob_b h4 (ob_b h4 (ob_b h4 (ob_b h4 (ob_j (plan_step_j3.ok ht n _ _ _ _ _ _ _ _ _ _ _ _ _ _ _ _ _ _ _ _ _ _ _ _ _ _ _ h5) ob)))))))))))))) (by kernel_rfl)
        · exact path (ob_b h1 (ob_b h2 (ob_b h2 (ob_b h2 (ob_c (ht.value_Check _ _ h3) (ob_b h2 (ob_b h2 (ob_b h4 (ob_b h4 (ob_b h4 (ob_b h4 (ob_b h4 (ob_b h4 (ob_j (plan_step_j3.ok ht n _ _ _ _ _ _ _ _ _ _ _ _ _ _ _ _ _ _ _ _ _ _ _ _ _ _ _ h5) ob)))))))))))))) (by kernel_rfl)
      · rw [if_neg h4] at h
        replace h4 := Bool.eq_false_iff.2 h4
        have h6 := h
        rcases r with a44 | ⟨a45, a46, a47, a48, a49, a50, a51, a52, a53, a54, a55, a56, a57, a58, a59⟩
        · exact path (ob_b h1 (ob_b h2 (ob_b h2 (ob_b h2 (ob_c (ht.value_Check _ _ h3) (ob_b h2 (ob_b h2 (ob_b h4 (ob_b h4 (ob_b h4 (ob_b h4 (ob_b (congrArg (!·) h2) (ob_b (congrArg (!·) h2) (ob_b (congrArg (!·) h2) (ob_b (congrArg (!·) h2) (ob_b (congrArg (!·) h2) (ob_b h4 (ob_b (congrArg (!·) h2) (ob_b h4 (ob_j (plan_step_j3.ok ht n _ _ _ _ _ _ _ _ _ _ _ _ _ _ _ _ _ _ _ _ _ _ _ _ _ _ _ h6) ob)))))))))))))))))))) (by kernel_rfl)
        · exact path (ob_b h1 (ob_b h2 (ob_b h2 (ob_b h2 (ob_c (ht.value_Check _ _ h3) (ob_b h2 (ob_b h2 (ob_b h4 (ob_b h4 (ob_b h4 (ob_b h4 (ob_b (congrArg (!·) h2) (ob_b (congrArg (!·) h2) (ob_b (congrArg (!·) h2) (ob_b (congrArg (!·) h2) (ob_b (congrArg (!·) h2) (ob_b h4 (ob_b (congrArg (!·) h2) (ob_b h4 (ob_j (plan_step_j3.ok ht n _ _ _ _ _ _ _ _ _ _ _ _ _ _ _ _ _ _ _ _ _ _ _ _ _ _ _ h6) ob)))))))))))))))))))) (by kernel_rfl)
    · rw [if_neg h2] at h
      replace h2 := Bool.eq_false_iff.2 h2
      rcases h7 : t.value_Same (GValue.mk a6 a7 a8 a9 a10) (GValue.mk 0 0 ByteArray.empty ([] : List GValue) ([] : List GValue)) with _ | a60
      · rw [h7] at h; cases h
      rw [h7] at h
      dsimp only at h
      have h8 := h
      rcases r with a61 | ⟨a62, a63, a64, a65, a66, a67, a68, a69, a70, a71, a72, a73, a74, a75, a76⟩
      · exact path (ob_b h1 (ob_b h2 (ob_b h2 (ob_b h2 (ob_b h2 (ob_b h2 (ob_b (rfl : false = false) (ob_b (rfl : false = false) (ob_b (rfl : false = false) (ob_b (rfl : false = false) (ob_b (congrArg (!·) h2) (ob_b (congrArg (!·) h2) (ob_b (congrArg (!·) h2) (ob_b (congrArg (!·) h2) (ob_c (ht.value_Same _ _ _ h7) (ob_b (congrArg (!·) h2) (ob_b (rfl : false = false) (ob_b (congrArg (!·) h2) (ob_b (rfl : false = false) (ob_j (plan_step_j3.ok ht n _ _ _ _ _ _ _ _ _ _ _ _ _ _ _ _ _ _ _ _ _ _ _ _ _ _ _ h8) ob)))))))))))))))))))) (by kernel_rfl)
      · exact path (ob_b h1 (ob_b h2 (ob_b h2 (ob_b h2 (ob_b h2 (ob_b h2 (ob_b (rfl : false = false) (ob_b (rfl : false = false) (ob_b (rfl : false = false) (ob_b (rfl : false = false) (ob_b (congrArg (!·) h2) (ob_b (congrArg (!·) h2) (ob_b (congrArg (!·) h2) (ob_b (congrArg (!·) h2) (ob_c (ht.value_Same _ _ _ h7) (ob_b (congrArg (!·) h2) (ob_b (rfl : false = false) (ob_b (congrArg (!·) h2) (ob_b (rfl : false = false) (ob_j (plan_step_j3.ok ht n _ _ _ _ _ _ _ _ _ _ _ _ _ _ _ _ _ _ _ _ _ _ _ _ _ _ _ h8) ob)))))))))))))))))))) (by kernel_rfl)
theorem plan_step_j1.ok (ht : TabOk t call) (n : Nat) (a1 : Int) (a2 : Bool) (a3 : Int) (a4 : List ByteArray) (a5 : List Int) (a6 a7 : Int) (a8 : ByteArray) (a9 a10 : List GValue) (a11 : Int) (a12 : List GValue) (a13 : List GPred) (a14 : List (List GStep)) (a15 : List GBy) (a16 : List ByteArray) (a17 a18 a19 a20 a21 a22 a23 a24 : Int) (a25 a26 : Bool) (r : _) (h : plan_step_j1 t n a1 a2 a3 a4 a5 a6 a7 a8 a9 a10 a11 a12 a13 a14 a15 a16 a17 a18 a19 a20 a21 a22 a23 a24 a25 a26 = some r) : exec (env Tryd.prog 50 Tryd.f50 call) n (sub [1, 1, 1, 1, 0, 0, 1] (bodyOf Tryd.f50)) (mkSt 163 163 [(1, (.t (.v (.int .i64 a1)))), (2, (.ptr 2 0 [] 0)), (5, (.ptr 5 0 [] 0)), (6, (.fn 64 [])), (19, (.t (.v (.bool a2))))] [(2, (.t (.st [(.v (.int .i64 a3)), (.sl false 1 (texts a4)), (.sl false 1 (ints_i64 a5)), (.st [(.v (.int .i64 a6)), (.v (.int .i64 a7)), (.v (.string a8)), (.sl false 5 (GValue.ts a9)), (.sl false 5 (GValue.ts a10))]), (.st [(.v (.int .i64 a11)), (.sl false 5 (GValue.ts a12)), (.sl false 3 (GPred.ts a13))]), (.sl false 1 (rows_GStep_ts a14)), (.sl false 4 (GBy.ts a15)), (.sl false 1 (texts a16))]))), (5, (.t (.st [(.st [(.v (.int .i64 a17)), (.v (.int .i64 a18))]), (.st [(.v (.int .i64 a19)), (.v (.int .i64 a20))]), (.st [(.v (.int .i64 a21)), (.v (.int .i64 a22))]), (.st [(.v (.int .i64 a23)), (.v (.int .i64 a24))]), (.v (.bool a25)), (.v (.bool a26))])))]) = some (plan_step_j1.to r) := by
  rw [plan_step_j1] at h
  by_cases h1 : a2 = true
  · rw [if_pos h1] at h
    rw [← Option.some.inj h]
    exact path (ob_b h1 ob) (by kernel_rfl)
  · rw [if_neg h1] at h
    replace h1 := Bool.eq_false_iff.2 h1
    rcases h2 : t.slices_ContainsFunc_plan_step_1 a4 with _ | a27
    · rw [h2] at h; cases h
    rw [h2] at h
    dsimp only at h
    by_cases h3 : a27 = true
    · rw [if_pos h3] at h
      have h4 := h
      rcases r with a28 | ⟨a29, a30, a31, a32, a33, a34, a35, a36, a37, a38, a39, a40, a41, a42, a43⟩
      · exact path (ob_b h1 (ob_c (ht.slices_ContainsFunc_plan_step_1 _ _ h2) (ob_b h3 (ob_b h3 (ob_b h3 (ob_b h3 (ob_b h3 (ob_b (rfl : true = true) (ob_b (rfl : true = true) (ob_b (rfl : true = true) (ob_b (rfl : true = true) (ob_j (plan_step_j2.ok ht n _ _ _ _ _ _ _ _ _ _ _ _ _ _ _ _ _ _ _ _ _ _ _ _ _ _ _ h4) ob)))))))))))) (by kernel_rfl)
      · exact path (ob_b h1 (ob_c (ht.slices_ContainsFunc_plan_step_1 _ _ h2) (ob_b h3 (ob_b h3 (ob_b h3 (ob_b h3 (ob_b h3 (ob_b (rfl : true = true) (ob_b (rfl : true = true) (ob_b (rfl : true = true) (ob_b (rfl : true = true) (ob_j (plan_step_j2.ok ht n _ _ _ _ _ _ _ _ _ _ _ _ _ _ _ _ _ _ _ _ _ _ _ _ _ _ _ h4) ob)))))))))))) (by kernel_rfl)
    · rw [if_neg h3] at h
      replace h3 := Bool.eq_false_iff.2 h3
      rcases h5 : t.slices_ContainsFunc_plan_step_1 a16 with _ | a44
      · rw [h5] at h; cases h
      rw [h5] at h
      dsimp only at h
      by_cases h6 : a44 = true
      · rw [if_pos h6] at h
        have h7 := h
        rcases r with a45 | ⟨a46, a47, a48, a49, a50, a51, a52, a53, a54, a55, a56, a57, a58, a59, a60⟩
        · exact path (ob_b h1 (ob_c (ht.slices_ContainsFunc_plan_step_1 _ _ h2) (ob_b h3 (ob_b h3 (ob_b h3 (ob_b h3 (ob_c (ht.slices_ContainsFunc_plan_step_1 _ _ h5) (ob_b h3 (ob_b h6 (ob_b h6 (ob_b h6 (ob_b h6 (ob_j (plan_step_j2.ok ht n _ _ _ _ _ _ _ _ _ _ _ _ _ _ _ _ _ _ _ _ _ _ _ _ _ _ _ h7) ob))))))))))))) (by kernel_rfl)
        · exact path (ob_b h1 (ob_c (ht.slices_ContainsFunc_plan_step_1 _ _ h2) (ob_b h3 (ob_b h3 (ob_b h3 (ob_b h3 (ob_c (ht.slices_ContainsFunc_plan_step_1 _ _ h5) (ob_b h3 (ob_b h6 (ob_b h6 (ob_b h6 (ob_b h6 (ob_j (plan_step_j2.ok ht n _ _ _ _ _ _ _ _ _ _ _ _ _ _ _ _ _ _ _ _ _ _ _ _ _ _ _ h7) ob))))))))))))) (by kernel_rfl)
      · rw [if_neg h6] at h
        replace h6 := Bool.eq_false_iff.2 h6
        rcases h8 : t.plan_numbers (GStep.mk a3 a4 a5 (GValue.mk a6 a7 a8 a9 a10) (GPred.mk a11 a12 a13) a14 a15 a16) with _ | a61
        · rw [h8] at h; cases h
        rw [h8] at h
        dsimp only at h
        have h9 := h
        rcases r with a62 | ⟨a63, a64, a65, a66, a67, a68, a69, a70, a71, a72, a73, a74, a75, a76, a77⟩
        · exact path (ob_b h1 (ob_c (ht.slices_ContainsFunc_plan_step_1 _ _ h2) (ob_b h3 (ob_b h3 (ob_b h3 (ob_b h3 (ob_c (ht.slices_ContainsFunc_plan_step_1 _ _ h5) (ob_b h3 (ob_b h6 (ob_b h6 (ob_c (ht.plan_numbers _ _ h8) (ob_b h6 (ob_b h6 (ob_j (plan_step_j2.ok ht n _ _ _ _ _ _ _ _ _ _ _ _ _ _ _ _ _ _ _ _ _ _ _ _ _ _ _ h9) ob)))))))))))))) (by kernel_rfl)
        · exact path (ob_b h1 (ob_c (ht.slices_ContainsFunc_plan_step_1 _ _ h2) (ob_b h3 (ob_b h3 (ob_b h3 (ob_b h3 (ob_c (ht.slices_ContainsFunc_plan_step_1 _ _ h5) (ob_b h3 (ob_b h6 (ob_b h6 (ob_c (ht.plan_numbers _ _ h8) (ob_b h6 (ob_b h6 (ob_j (plan_step_j2.ok ht n _ _ _ _ _ _ _ _ _ _ _ _ _ _ _ _ _ _ _ _ _ _ _ _ _ _ _ h9) ob)))))))))))))) (by kernel_rfl)
theorem plan_step_l6.okL (ht : TabOk t call) (n : Nat) : ∀ (k : Nat) (a1 : Int) (a2 : List (List GStep)) (a3 a4 a5 : Int) (a6 : List ByteArray) (a7 : List Int) (a8 a9 : Int) (a10 : ByteArray) (a11 a12 : List GValue) (a13 : Int) (a14 : List GValue) (a15 : List GPred) (a16 : List (List GStep)) (a17 : List GBy) (a18 : List ByteArray) (r : _), plan_step_l6 t n k a1 a2 a3 a4 a5 a6 a7 a8 a9 a10 a11 a12 a13 a14 a15 a16 a17 a18 = some r → loopN (exec (env Tryd.prog 50 Tryd.f50 call) n (sub [1, 1, 1, 1, 1, 0, 1, 0, 0] (bodyOf Tryd.f50))) k (mkSt 163 163 [(1, (.t (.v (.int .i64 a1)))), (2, (.ptr 2 0 [] 0)), (136, (.t (.sl false 1 (rows_GStep_ts a2)))), (137, (.t (.v (.int .i64 a3)))), (138, (.t (.v (.int .i64 a4))))] [(2, (.t (.st [(.v (.int .i64 a5)), (.sl false 1 (texts a6)), (.sl false 1 (ints_i64 a7)), (.st [(.v (.int .i64 a8)), (.v (.int .i64 a9)), (.v (.string a10)), (.sl false 5 (GValue.ts a11)), (.sl false 5 (GValue.ts a12))]), (.st [(.v (.int .i64 a13)), (.sl false 5 (GValue.ts a14)), (.sl false 3 (GPred.ts a15))]), (.sl false 1 (rows_GStep_ts a16)), (.sl false 4 (GBy.ts a17)), (.sl false 1 (texts a18))])))]) = some (plan_step_l6.to r)
  | 0, a1, a2, a3, a4, a5, a6, a7, a8, a9, a10, a11, a12, a13, a14, a15, a16, a17, a18, r, h => by rw [plan_step_l6] at h; cases h
  | k + 1, a1, a2, a3, a4, a5, a6, a7, a8, a9, a10, a11, a12, a13, a14, a15, a16, a17, a18, r, h => by
    rw [plan_step_l6] at h
    by_cases h1 : (decide (a4 < a3)) = true
    · rw [if_pos h1] at h
      by_cases h2 : (decide (0 ≤ (a4 : Int))) = true
      case neg => rw [if_neg h2] at h; cases h
      rw [if_pos h2] at h
      rcases h3 : a2[(a4 : Int).toNat]? with _ | a19
      · rw [h3] at h; cases h
      rw [h3] at h
      dsimp only at h
      rcases h4 : t.plan_right a19 (IntKind.wrap .i64 (a1 + 1)) with _ | a20
      · rw [h4] at h; cases h
      rw [h4] at h
      dsimp only at h
      by_cases h5 : a20 = true
      · rw [if_pos h5] at h
        exact loop_more (path (ob_b h1 (ob_n h2 (ob_t (look_ts rows_GStep_ts_map h3) (ob_c (ht.plan_right _ _ _ h4) (ob_b (congrArg (!·) h5) ob))))) (by kernel_rfl)) (plan_step_l6.okL ht n k _ _ _ _ _ _ _ _ _ _ _ _ _ _ _ _ _ _ _ h)
      · rw [if_neg h5] at h
        replace h5 := Bool.eq_false_iff.2 h5
        rw [← Option.some.inj h]
        exact loop_out (path (ob_b h1 (ob_n h2 (ob_t (look_ts rows_GStep_ts_map h3) (ob_c (ht.plan_right _ _ _ h4) (ob_b (congrArg (!·) h5) ob))))) (by kernel_rfl)) (fun h => by cases h)
    · rw [if_neg h1] at h
      replace h1 := Bool.eq_false_iff.2 h1
      rw [← Option.some.inj h]
      exact loop_out (path (ob_b h1 ob) (by kernel_rfl)) (fun h => by cases h)
theorem plan_step_l6.ok (ht : TabOk t call) (n : Nat) (a1 : Int) (a2 : List (List GStep)) (a3 a4 a5 : Int) (a6 : List ByteArray) (a7 : List Int) (a8 a9 : Int) (a10 : ByteArray) (a11 a12 : List GValue) (a13 : Int) (a14 : List GValue) (a15 : List GPred) (a16 : List (List GStep)) (a17 : List GBy) (a18 : List ByteArray) (r : _) (h : plan_step_l6 t n n a1 a2 a3 a4 a5 a6 a7 a8 a9 a10 a11 a12 a13 a14 a15 a16 a17 a18 = some r) : exec (env Tryd.prog 50 Tryd.f50 call) n (sub [1, 1, 1, 1, 1, 0, 1, 0] (bodyOf Tryd.f50)) (mkSt 163 163 [(1, (.t (.v (.int .i64 a1)))), (2, (.ptr 2 0 [] 0)), (136, (.t (.sl false 1 (rows_GStep_ts a2)))), (137, (.t (.v (.int .i64 a3)))), (138, (.t (.v (.int .i64 a4))))] [(2, (.t (.st [(.v (.int .i64 a5)), (.sl false 1 (texts a6)), (.sl false 1 (ints_i64 a7)), (.st [(.v (.int .i64 a8)), (.v (.int .i64 a9)), (.v (.string a10)), (.sl false 5 (GValue.ts a11)), (.sl false 5 (GValue.ts a12))]), (.st [(.v (.int .i64 a13)), (.sl false 5 (GValue.ts a14)), (.sl false 3 (GPred.ts a15))]), (.sl false 1 (rows_GStep_ts a16)), (.sl false 4 (GBy.ts a17)), (.sl false 1 (texts a18))])))]) = some (plan_step_l6.to r) := by
  have e1 : sub [1, 1, 1, 1, 1, 0, 1, 0] (bodyOf Tryd.f50) = .loop (sub [1, 1, 1, 1, 1, 0, 1, 0, 0] (bodyOf Tryd.f50)) := by kernel_rfl
  rw [e1, exec]
  exact plan_step_l6.okL ht n n a1 a2 a3 a4 a5 a6 a7 a8 a9 a10 a11 a12 a13 a14 a15 a16 a17 a18 r h
theorem plan_step_l8.okL (ht : TabOk t call) (n : Nat) : ∀ (k : Nat) (a1 : Int) (a2 : List GBy) (a3 a4 a5 : Int) (a6 : List ByteArray) (a7 : List Int) (a8 a9 : Int) (a10 : ByteArray) (a11 a12 : List GValue) (a13 : Int) (a14 : List GValue) (a15 : List GPred) (a16 : List (List GStep)) (a17 : List GBy) (a18 : List ByteArray) (r : _), plan_step_l8 t n k a1 a2 a3 a4 a5 a6 a7 a8 a9 a10 a11 a12 a13 a14 a15 a16 a17 a18 = some r → loopN (exec (env Tryd.prog 50 Tryd.f50 call) n (sub [1, 1, 1, 1, 1, 1, 0, 1, 0, 0] (bodyOf Tryd.f50))) k (mkSt 163 163 [(1, (.t (.v (.int .i64 a1)))), (2, (.ptr 2 0 [] 0)), (149, (.t (.sl false 4 (GBy.ts a2)))), (150, (.t (.v (.int .i64 a3)))), (151, (.t (.v (.int .i64 a4))))] [(2, (.t (.st [(.v (.int .i64 a5)), (.sl false 1 (texts a6)), (.sl false 1 (ints_i64 a7)), (.st [(.v (.int .i64 a8)), (.v (.int .i64 a9)), (.v (.string a10)), (.sl false 5 (GValue.ts a11)), (.sl false 5 (GValue.ts a12))]), (.st [(.v (.int .i64 a13)), (.sl false 5 (GValue.ts a14)), (.sl false 3 (GPred.ts a15))]), (.sl false 1 (rows_GStep_ts a16)), (.sl false 4 (GBy.ts a17)), (.sl false 1 (texts a18))])))]) = some (plan_step_l8.to r)
  | 0, a1, a2, a3, a4, a5, a6, a7, a8, a9, a10, a11, a12, a13, a14, a15, a16, a17, a18, r, h => by rw [plan_step_l8] at h; cases h
  | k + 1, a1, a2, a3, a4, a5, a6, a7, a8, a9, a10, a11, a12, a13, a14, a15, a16, a17, a18, r, h => by
    rw [plan_step_l8] at h
    by_cases h1 : (decide (a4 < a3)) = true
    · rw [if_pos h1] at h
      by_cases h2 : (decide (0 ≤ (a4 : Int))) = true
      case neg => rw [if_neg h2] at h; cases h
      rw [if_pos h2] at h
      rcases h3 : a2[(a4 : Int).toNat]? with _ | ⟨a19, a20, a21, a22⟩
      · rw [h3] at h; cases h
      rw [h3] at h
      dsimp only at h
      rcases h4 : t.plan_by (GBy.mk a19 a20 a21 a22) (a5 == 40) a1 with _ | a23
      · rw [h4] at h; cases h
      rw [h4] at h
      dsimp only at h
      by_cases h5 : a23 = true
      · rw [if_pos h5] at h
        exact loop_more (path (ob_b h1 (ob_n h2 (ob_t (look_ts GBy.ts_map h3) (ob_c (ht.plan_by _ _ _ _ h4) (ob_b (congrArg (!·) h5) ob))))) (by kernel_rfl)) (plan_step_l8.okL ht n k _ _ _ _ _ _ _ _ _ _ _ _ _ _ _ _ _ _ _ h)
      · rw [if_neg h5] at h
        replace h5 := Bool.eq_false_iff.2 h5
        rw [← Option.some.inj h]
        exact loop_out (path (ob_b h1 (ob_n h2 (ob_t (look_ts GBy.ts_map h3) (ob_c (ht.plan_by _ _ _ _ h4) (ob_b (congrArg (!·) h5) ob))))) (by kernel_rfl)) (fun h => by cases h)
    · rw [if_neg h1] at h
      replace h1 := Bool.eq_false_iff.2 h1
      rw [← Option.some.inj h]
      exact loop_out (path (ob_b h1 ob) (by kernel_rfl)) (fun h => by cases h)
theorem plan_step_l8.ok (ht : TabOk t call) (n : Nat) (a1 : Int) (a2 : List GBy) (a3 a4 a5 : Int) (a6 : List ByteArray) (a7 : List Int) (a8 a9 : Int) (a10 : ByteArray) (a11 a12 : List GValue) (a13 : Int) (a14 : List GValue) (a15 : List GPred) (a16 : List (List GStep)) (a17 : List GBy) (a18 : List ByteArray) (r : _) (h : plan_step_l8 t n n a1 a2 a3 a4 a5 a6 a7 a8 a9 a10 a11 a12 a13 a14 a15 a16 a17 a18 = some r) : exec (env Tryd.prog 50 Tryd.f50 call) n (sub [1, 1, 1, 1, 1, 1, 0, 1, 0] (bodyOf Tryd.f50)) (mkSt 163 163 [(1, (.t (.v (.int .i64 a1)))), (2, (.ptr 2 0 [] 0)), (149, (.t (.sl false 4 (GBy.ts a2)))), (150, (.t (.v (.int .i64 a3)))), (151, (.t (.v (.int .i64 a4))))] [(2, (.t (.st [(.v (.int .i64 a5)), (.sl false 1 (texts a6)), (.sl false 1 (ints_i64 a7)), (.st [(.v (.int .i64 a8)), (.v (.int .i64 a9)), (.v (.string a10)), (.sl false 5 (GValue.ts a11)), (.sl false 5 (GValue.ts a12))]), (.st [(.v (.int .i64 a13)), (.sl false 5 (GValue.ts a14)), (.sl false 3 (GPred.ts a15))]), (.sl false 1 (rows_GStep_ts a16)), (.sl false 4 (GBy.ts a17)), (.sl false 1 (texts a18))])))]) = some (plan_step_l8.to r) := by
  have e1 : sub [1, 1, 1, 1, 1, 1, 0, 1, 0] (bodyOf Tryd.f50) = .loop (sub [1, 1, 1, 1, 1, 1, 0, 1, 0, 0] (bodyOf Tryd.f50)) := by kernel_rfl
  rw [e1, exec]
  exact plan_step_l8.okL ht n n a1 a2 a3 a4 a5 a6 a7 a8 a9 a10 a11 a12 a13 a14 a15 a16 a17 a18 r h
theorem plan_step_j7.ok (ht : TabOk t call) (n : Nat) (a1 a2 : Int) (a3 : List ByteArray) (a4 : List Int) (a5 a6 : Int) (a7 : ByteArray) (a8 a9 : List GValue) (a10 : Int) (a11 : List GValue) (a12 : List GPred) (a13 : List (List GStep)) (a14 : List GBy) (a15 : List ByteArray) (r : _) (h : plan_step_j7 t n a1 a2 a3 a4 a5 a6 a7 a8 a9 a10 a11 a12 a13 a14 a15 = some r) : exec (env Tryd.prog 50 Tryd.f50 call) n (sub [1, 1, 1, 1, 1, 1] (bodyOf Tryd.f50)) (mkSt 163 163 [(1, (.t (.v (.int .i64 a1)))), (2, (.ptr 2 0 [] 0))] [(2, (.t (.st [(.v (.int .i64 a2)), (.sl false 1 (texts a3)), (.sl false 1 (ints_i64 a4)), (.st [(.v (.int .i64 a5)), (.v (.int .i64 a6)), (.v (.string a7)), (.sl false 5 (GValue.ts a8)), (.sl false 5 (GValue.ts a9))]), (.st [(.v (.int .i64 a10)), (.sl false 5 (GValue.ts a11)), (.sl false 3 (GPred.ts a12))]), (.sl false 1 (rows_GStep_ts a13)), (.sl false 4 (GBy.ts a14)), (.sl false 1 (texts a15))])))]) = some (plan_step_j7.to r) := by
  rw [plan_step_j7] at h
  rcases h1 : plan_step_l8 t n n a1 a14 (a14.length : Int) 0 a2 a3 a4 a5 a6 a7 a8 a9 a10 a11 a12 a13 a14 a15 with _ | q_
  · rw [h1] at h; cases h
  rw [h1] at h
  rcases q_ with a16 | ⟨a17, a18, a19, a20, a21, a22, a23, a24, a25, a26, a27, a28, a29, a30, a31, a32, a33, a34, a35⟩
  · dsimp only at h
    rw [← Option.some.inj h]
    exact path (ob_v (len_ts GBy.ts_map (l := a14)) (ob_k (plan_step_l8.ok ht n _ _ _ _ _ _ _ _ _ _ _ _ _ _ _ _ _ _ _ h1) ob)) (by kernel_rfl)
  · dsimp only at h
    rw [← Option.some.inj h]
    exact path (ob_v (len_ts GBy.ts_map (l := a14)) (ob_k (plan_step_l8.ok ht n _ _ _ _ _ _ _ _ _ _ _ _ _ _ _ _ _ _ _ h1) ob)) (by kernel_rfl)
theorem plan_step_j5.ok (ht : TabOk t call) (n : Nat) (a1 a2 : Int) (a3 : List ByteArray) (a4 : List Int) (a5 a6 : Int) (a7 : ByteArray) (a8 a9 : List GValue) (a10 : Int) (a11 : List GValue) (a12 : List GPred) (a13 : List (List GStep)) (a14 : List GBy) (a15 : List ByteArray) (r : _) (h : plan_step_j5 t n a1 a2 a3 a4 a5 a6 a7 a8 a9 a10 a11 a12 a13 a14 a15 = some r) : exec (env Tryd.prog 50 Tryd.f50 call) n (sub [1, 1, 1, 1, 1] (bodyOf Tryd.f50)) (mkSt 163 163 [(1, (.t (.v (.int .i64 a1)))), (2, (.ptr 2 0 [] 0))] [(2, (.t (.st [(.v (.int .i64 a2)), (.sl false 1 (texts a3)), (.sl false 1 (ints_i64 a4)), (.st [(.v (.int .i64 a5)), (.v (.int .i64 a6)), (.v (.string a7)), (.sl false 5 (GValue.ts a8)), (.sl false 5 (GValue.ts a9))]), (.st [(.v (.int .i64 a10)), (.sl false 5 (GValue.ts a11)), (.sl false 3 (GPred.ts a12))]), (.sl false 1 (rows_GStep_ts a13)), (.sl false 4 (GBy.ts a14)), (.sl false 1 (texts a15))])))]) = some (plan_step_j5.to r) := by
  rw [plan_step_j5] at h
  rcases h1 : plan_step_l6 t n n a1 a13 (a13.length : Int) 0 a2 a3 a4 a5 a6 a7 a8 a9 a10 a11 a12 a13 a14 a15 with _ | q_
  · rw [h1] at h; cases h
  rw [h1] at h
  rcases q_ with a16 | ⟨a17, a18, a19, a20, a21, a22, a23, a24, a25, a26, a27, a28, a29, a30, a31, a32, a33, a34, a35⟩
  · dsimp only at h
    rw [← Option.some.inj h]
    exact path (ob_v (len_ts rows_GStep_ts_map (l := a13)) (ob_k (plan_step_l6.ok ht n _ _ _ _ _ _ _ _ _ _ _ _ _ _ _ _ _ _ _ h1) ob)) (by kernel_rfl)
  · dsimp only at h
    obtain ⟨a36, rfl⟩ : ∃ z_, z_ = r := ⟨_, rfl⟩
    have h2 := h
    exact path (ob_v (len_ts rows_GStep_ts_map (l := a13)) (ob_k (plan_step_l6.ok ht n _ _ _ _ _ _ _ _ _ _ _ _ _ _ _ _ _ _ _ h1) (ob_j (plan_step_j7.ok ht n _ _ _ _ _ _ _ _ _ _ _ _ _ _ _ _ h2) ob))) (by kernel_rfl)
end Go.Proofs.YtgkfjhfehdefaaaDoor.W
