/- The proofs of it, part 1. -/
import Derived.Test.YtgkfjhfehdefaaaDoorP4D0
namespace Go.Proofs.YtgkfjhfehdefaaaDoor.W
open Go.Proofs.YtgkfjhfehdefaaaDoor.Flat
set_option linter.unusedVariables false
set_option linter.unusedSimpArgs false
theorem ref12_steps_l1.okL {t : Tab} {call : FuncId → List AV → List AV → Option (AV × List AV)} (ht : TabOk t call) (n : Nat) : ∀ (k : Nat) (a1 : List GStep) (a2 : Int) (a3 : Int) (a4 : Int) (a5 : Int) (r : (List GStep) × Int × Int × Int × Int × Bool), ref12_steps_l1 t n k a1 a2 a3 a4 a5 = some r → loopN (exec (env Tryd.prog 29 Tryd.f29 call) n (sub [1, 1, 0, 1, 0, 0] (bodyOf Tryd.f29))) k (mkSt 57 57 [(0, (.t (.sl false 14 (GStep.ts a1)))), (1, (.t (.v (.int .i64 a2)))), (2, (.t (.v (.int .i64 a3)))), (7, (.t (.v (.int .i64 a4)))), (8, (.t (.v (.int .i64 a5))))] []) = some (ref12_steps_l1.to r)
  | 0, a1, a2, a3, a4, a5, r, h => by rw [ref12_steps_l1] at h; cases h
  | k + 1, a1, a2, a3, a4, a5, r, h => by
    rw [ref12_steps_l1] at h
    by_cases h1 : (decide (a5 < (a1.length : Int))) = true
    · rw [if_pos h1] at h
      by_cases h2 : (decide (a4 < a2)) = true
      · rw [if_pos h2] at h
        rcases h3 : ref12_steps_j2 t n  a1 a2 a3 a4 a5 with _ | q_
        · rw [h3] at h; cases h
        rw [h3] at h
        obtain ⟨a6, a7, a8, a9, a10⟩ := q_
        dsimp only at h
        exact loop_more (path (ob_v (len_ts GStep.ts_map (l := a1)) (ob_b h1 (ob_b h1 (ob_b h1 (ob_b h1 (ob_b h2 (ob_j (ref12_steps_j2.ok ht n _ _ _ _ _ _ h3) ob))))))) (by kernel_rfl)) (ref12_steps_l1.okL ht n k _ _ _ _ _ _ h)
      · rw [if_neg h2] at h
        replace h2 := Bool.eq_false_iff.2 h2
        rw [← Option.some.inj h]
        exact loop_out (path (ob_v (len_ts GStep.ts_map (l := a1)) (ob_b h1 (ob_b h1 (ob_b h1 (ob_b h1 (ob_b h2 ob)))))) (by kernel_rfl)) (fun h => by cases h)
    · rw [if_neg h1] at h
      replace h1 := Bool.eq_false_iff.2 h1
      rw [← Option.some.inj h]
      exact loop_out (path (ob_v (len_ts GStep.ts_map (l := a1)) (ob_b h1 (ob_b h1 (ob_b h1 (ob_b h1 (ob_b (rfl : false = false) ob)))))) (by kernel_rfl)) (fun h => by cases h)
theorem ref12_steps_l1.ok {t : Tab} {call : FuncId → List AV → List AV → Option (AV × List AV)} (ht : TabOk t call) (n : Nat) (a1 : List GStep) (a2 : Int) (a3 : Int) (a4 : Int) (a5 : Int) (r : (List GStep) × Int × Int × Int × Int × Bool) (h : ref12_steps_l1 t n n a1 a2 a3 a4 a5 = some r) : exec (env Tryd.prog 29 Tryd.f29 call) n (sub [1, 1, 0, 1, 0] (bodyOf Tryd.f29)) (mkSt 57 57 [(0, (.t (.sl false 14 (GStep.ts a1)))), (1, (.t (.v (.int .i64 a2)))), (2, (.t (.v (.int .i64 a3)))), (7, (.t (.v (.int .i64 a4)))), (8, (.t (.v (.int .i64 a5))))] []) = some (ref12_steps_l1.to r) := by
  have e1 : sub [1, 1, 0, 1, 0] (bodyOf Tryd.f29) = .loop (sub [1, 1, 0, 1, 0, 0] (bodyOf Tryd.f29)) := by kernel_rfl
  rw [e1, exec]
  exact ref12_steps_l1.okL ht n n a1 a2 a3 a4 a5 r h
theorem ref12_steps.ok {n : Nat} {t : Tab} (ht : TabOk t (run Tryd.prog own kp X n)) : ∀ (p1 : List GStep) (p2 : Int) (p3 : Int) r, ref12_steps t n p1 p2 p3 = some r → run Tryd.prog own kp X (n + 1) 29 [(.t (.sl false 14 (GStep.ts p1))), (.t (.v (.int .i64 p2))), (.t (.v (.int .i64 p3)))] [] = some ((.t (.v (.int .i64 r))), []) := by
  intro p1 p2 p3 r h
  obtain ⟨a1, rfl⟩ : ∃ z_, z_ = p1 := ⟨_, rfl⟩
  obtain ⟨a2, rfl⟩ : ∃ z_, z_ = p2 := ⟨_, rfl⟩
  obtain ⟨a3, rfl⟩ : ∃ z_, z_ = p3 := ⟨_, rfl⟩
  rw [ref12_steps] at h
  rcases h1 : ref12_steps_l1 t n n a1 a2 a3 0 0 with _ | q_
  · rw [h1] at h; cases h
  rw [h1] at h
  obtain ⟨a4, a5, a6, a7, a8, a9⟩ := q_
  dsimp only at h
  rw [← Option.some.inj h]
  exact run_path Tryd.func29 (ob_k (ref12_steps_l1.ok ht n _ _ _ _ _ _ h1) ob) (by kernel_rfl)
theorem ref12_nest_l3.okL {t : Tab} {call : FuncId → List AV → List AV → Option (AV × List AV)} (ht : TabOk t call) (n : Nat) : ∀ (k : Nat) (a1 : List GStep) (a2 : Int) (a3 : Int) (a4 : Int) (a5 : List (List GStep)) (a6 : Int) (r : (List GStep) × Int × Int × Int × (List (List GStep)) × Int × Bool), ref12_nest_l3 t n k a1 a2 a3 a4 a5 a6 = some r → loopN (exec (env Tryd.prog 30 Tryd.f30 call) n (sub [1, 1, 0, 1, 0, 0, 1, 0, 0, 1, 1, 0, 0] (bodyOf Tryd.f30))) k (mkSt 41 41 [(0, (.t (.sl false 14 (GStep.ts a1)))), (1, (.t (.v (.int .i64 a2)))), (5, (.t (.v (.int .i64 a3)))), (6, (.t (.v (.int .i64 a4)))), (7, (.t (.sl false 1 (rows_GStep_ts a5)))), (8, (.t (.v (.int .i64 a6))))] []) = some (ref12_nest_l3.to r)
  | 0, a1, a2, a3, a4, a5, a6, r, h => by rw [ref12_nest_l3] at h; cases h
  | k + 1, a1, a2, a3, a4, a5, a6, r, h => by
    rw [ref12_nest_l3] at h
    by_cases h1 : (decide (a6 < (a5.length : Int))) = true
    · rw [if_pos h1] at h
      by_cases h2 : (decide (0 ≤ (a6 : Int))) = true
      case neg => rw [if_neg h2] at h; cases h
      rw [if_pos h2] at h
      rcases h3 : a5[(a6 : Int).toNat]? with _ | a7
      · rw [h3] at h; cases h
      rw [h3] at h
      dsimp only at h
      rcases h4 : t.ref12_nest a7 (IntKind.wrap .i64 (a2 - 1)) with _ | a8
      · rw [h4] at h; cases h
      rw [h4] at h
      dsimp only at h
      exact loop_more (path (ob_v (len_ts rows_GStep_ts_map (l := a5)) (ob_b h1 (ob_n h2 (ob_t (look_ts rows_GStep_ts_map h3) (ob_c (ht.ref12_nest _ _ _ h4) ob))))) (by kernel_rfl)) (ref12_nest_l3.okL ht n k _ _ _ _ _ _ _ h)
    · rw [if_neg h1] at h
      replace h1 := Bool.eq_false_iff.2 h1
      rw [← Option.some.inj h]
      exact loop_out (path (ob_v (len_ts rows_GStep_ts_map (l := a5)) (ob_b h1 ob)) (by kernel_rfl)) (fun h => by cases h)
theorem ref12_nest_l3.ok {t : Tab} {call : FuncId → List AV → List AV → Option (AV × List AV)} (ht : TabOk t call) (n : Nat) (a1 : List GStep) (a2 : Int) (a3 : Int) (a4 : Int) (a5 : List (List GStep)) (a6 : Int) (r : (List GStep) × Int × Int × Int × (List (List GStep)) × Int × Bool) (h : ref12_nest_l3 t n n a1 a2 a3 a4 a5 a6 = some r) : exec (env Tryd.prog 30 Tryd.f30 call) n (sub [1, 1, 0, 1, 0, 0, 1, 0, 0, 1, 1, 0] (bodyOf Tryd.f30)) (mkSt 41 41 [(0, (.t (.sl false 14 (GStep.ts a1)))), (1, (.t (.v (.int .i64 a2)))), (5, (.t (.v (.int .i64 a3)))), (6, (.t (.v (.int .i64 a4)))), (7, (.t (.sl false 1 (rows_GStep_ts a5)))), (8, (.t (.v (.int .i64 a6))))] []) = some (ref12_nest_l3.to r) := by
  have e1 : sub [1, 1, 0, 1, 0, 0, 1, 0, 0, 1, 1, 0] (bodyOf Tryd.f30) = .loop (sub [1, 1, 0, 1, 0, 0, 1, 0, 0, 1, 1, 0, 0] (bodyOf Tryd.f30)) := by kernel_rfl
  rw [e1, exec]
  exact ref12_nest_l3.okL ht n n a1 a2 a3 a4 a5 a6 r h
theorem ref12_nest_j2.ok {t : Tab} {call : FuncId → List AV → List AV → Option (AV × List AV)} (ht : TabOk t call) (n : Nat) (a1 : List GStep) (a2 : Int) (a3 : Int) (a4 : Int) (r : (List GStep) × Int × Int × Int) (h : ref12_nest_j2 t n a1 a2 a3 a4 = some r) : exec (env Tryd.prog 30 Tryd.f30 call) n (sub [1, 1, 0, 1, 0, 0, 1] (bodyOf Tryd.f30)) (mkSt 41 41 [(0, (.t (.sl false 14 (GStep.ts a1)))), (1, (.t (.v (.int .i64 a2)))), (5, (.t (.v (.int .i64 a3)))), (6, (.t (.v (.int .i64 a4))))] []) = some (ref12_nest_j2.to r) := by
  rw [ref12_nest_j2] at h
  by_cases h1 : (decide (0 ≤ (a4 : Int))) = true
  case neg => rw [if_neg h1] at h; cases h
  rw [if_pos h1] at h
  rcases h2 : a1[(a4 : Int).toNat]? with _ | ⟨a5, a6, a7, ⟨a8, a9, a10, a11, a12⟩, ⟨a13, a14, a15⟩, a16, a17, a18⟩
  · rw [h2] at h; cases h
  rw [h2] at h
  dsimp only at h
  rcases h3 : t.ref12_Inner (GStep.mk a5 a6 a7 (GValue.mk a8 a9 a10 a11 a12) (GPred.mk a13 a14 a15) a16 a17 a18) with _ | a19
  · rw [h3] at h; cases h
  rw [h3] at h
  dsimp only at h
  rcases h4 : ref12_nest_l3 t n n a1 a2 a3 a4 a19 0 with _ | q_
  · rw [h4] at h; cases h
  rw [h4] at h
  obtain ⟨a20, a21, a22, a23, a24, a25, a26⟩ := q_
  dsimp only at h
  rw [← Option.some.inj h]
  exact path (ob_n h1 (ob_t (look_ts GStep.ts_map h2) (ob_c (ht.ref12_Inner _ _ h3) (ob_k (ref12_nest_l3.ok ht n _ _ _ _ _ _ _ h4) ob)))) (by kernel_rfl)
theorem ref12_nest_l1.okL {t : Tab} {call : FuncId → List AV → List AV → Option (AV × List AV)} (ht : TabOk t call) (n : Nat) : ∀ (k : Nat) (a1 : List GStep) (a2 : Int) (a3 : Int) (a4 : Int) (r : (List GStep) × Int × Int × Int × Bool), ref12_nest_l1 t n k a1 a2 a3 a4 = some r → loopN (exec (env Tryd.prog 30 Tryd.f30 call) n (sub [1, 1, 0, 1, 0, 0] (bodyOf Tryd.f30))) k (mkSt 41 41 [(0, (.t (.sl false 14 (GStep.ts a1)))), (1, (.t (.v (.int .i64 a2)))), (5, (.t (.v (.int .i64 a3)))), (6, (.t (.v (.int .i64 a4))))] []) = some (ref12_nest_l1.to r)
  | 0, a1, a2, a3, a4, r, h => by rw [ref12_nest_l1] at h; cases h
  | k + 1, a1, a2, a3, a4, r, h => by
    rw [ref12_nest_l1] at h
    by_cases h1 : (decide (a4 < (a1.length : Int))) = true
    · rw [if_pos h1] at h
      by_cases h2 : (decide (a2 > 0)) = true
      · rw [if_pos h2] at h
        rcases h3 : ref12_nest_j2 t n  a1 a2 a3 a4 with _ | q_
        · rw [h3] at h; cases h
        rw [h3] at h
        obtain ⟨a5, a6, a7, a8⟩ := q_
        dsimp only at h
        exact loop_more (path (ob_v (len_ts GStep.ts_map (l := a1)) (ob_b h1 (ob_b h1 (ob_b h1 (ob_b h2 (ob_j (ref12_nest_j2.ok ht n _ _ _ _ _ h3) ob)))))) (by kernel_rfl)) (ref12_nest_l1.okL ht n k _ _ _ _ _ h)
      · rw [if_neg h2] at h
        replace h2 := Bool.eq_false_iff.2 h2
        rw [← Option.some.inj h]
        exact loop_out (path (ob_v (len_ts GStep.ts_map (l := a1)) (ob_b h1 (ob_b h1 (ob_b h1 (ob_b h2 ob))))) (by kernel_rfl)) (fun h => by cases h)
    · rw [if_neg h1] at h
      replace h1 := Bool.eq_false_iff.2 h1
      rw [← Option.some.inj h]
      exact loop_out (path (ob_v (len_ts GStep.ts_map (l := a1)) (ob_b h1 (ob_b h1 (ob_b h1 (ob_b (rfl : false = false) ob))))) (by kernel_rfl)) (fun h => by cases h)
theorem ref12_nest_l1.ok {t : Tab} {call : FuncId → List AV → List AV → Option (AV × List AV)} (ht : TabOk t call) (n : Nat) (a1 : List GStep) (a2 : Int) (a3 : Int) (a4 : Int) (r : (List GStep) × Int × Int × Int × Bool) (h : ref12_nest_l1 t n n a1 a2 a3 a4 = some r) : exec (env Tryd.prog 30 Tryd.f30 call) n (sub [1, 1, 0, 1, 0] (bodyOf Tryd.f30)) (mkSt 41 41 [(0, (.t (.sl false 14 (GStep.ts a1)))), (1, (.t (.v (.int .i64 a2)))), (5, (.t (.v (.int .i64 a3)))), (6, (.t (.v (.int .i64 a4))))] []) = some (ref12_nest_l1.to r) := by
  have e1 : sub [1, 1, 0, 1, 0] (bodyOf Tryd.f30) = .loop (sub [1, 1, 0, 1, 0, 0] (bodyOf Tryd.f30)) := by kernel_rfl
  rw [e1, exec]
  exact ref12_nest_l1.okL ht n n a1 a2 a3 a4 r h
theorem ref12_nest.ok {n : Nat} {t : Tab} (ht : TabOk t (run Tryd.prog own kp X n)) : ∀ (p1 : List GStep) (p2 : Int) r, ref12_nest t n p1 p2 = some r → run Tryd.prog own kp X (n + 1) 30 [(.t (.sl false 14 (GStep.ts p1))), (.t (.v (.int .i64 p2)))] [] = some ((.t (.v (.int .i64 r))), []) := by
  intro p1 p2 r h
  obtain ⟨a1, rfl⟩ : ∃ z_, z_ = p1 := ⟨_, rfl⟩
  obtain ⟨a2, rfl⟩ : ∃ z_, z_ = p2 := ⟨_, rfl⟩
  rw [ref12_nest] at h
  rcases h1 : ref12_nest_l1 t n n a1 a2 0 0 with _ | q_
  · rw [h1] at h; cases h
  rw [h1] at h
  obtain ⟨a3, a4, a5, a6, a7⟩ := q_
  dsimp only at h
  rw [← Option.some.inj h]
  exact run_path Tryd.func30 (ob_k (ref12_nest_l1.ok ht n _ _ _ _ _ h1) ob) (by kernel_rfl)
theorem slices_EqualFunc_plan_Same_1_l1.okL {t : Tab} {call : FuncId → List AV → List AV → Option (AV × List AV)} (ht : TabOk t call) (n : Nat) : ∀ (k : Nat) (a1 : List GStep) (a2 : List GStep) (a3 : Int) (a4 : Int) (r : Bool ⊕ ((List GStep) × (List GStep) × Int × Int × Bool)), slices_EqualFunc_plan_Same_1_l1 t n k a1 a2 a3 a4 = some r → loopN (exec (env Tryd.prog 31 Tryd.f31 call) n (sub [1, 1, 0, 1, 0, 0] (bodyOf Tryd.f31))) k (mkSt 32 32 [(1, (.t (.sl false 14 (GStep.ts a1)))), (2, (.fn 32 [])), (15, (.t (.sl false 14 (GStep.ts a2)))), (16, (.t (.v (.int .i64 a3)))), (17, (.t (.v (.int .i64 a4))))] []) = some (slices_EqualFunc_plan_Same_1_l1.to r)
  | 0, a1, a2, a3, a4, r, h => by rw [slices_EqualFunc_plan_Same_1_l1] at h; cases h
  | k + 1, a1, a2, a3, a4, r, h => by
    rw [slices_EqualFunc_plan_Same_1_l1] at h
    by_cases h1 : (decide (a4 < a3)) = true
    · rw [if_pos h1] at h
      by_cases h2 : (decide (0 ≤ (a4 : Int))) = true
      case neg => rw [if_neg h2] at h; cases h
      rw [if_pos h2] at h
      rcases h3 : a2[(a4 : Int).toNat]? with _ | ⟨a5, a6, a7, ⟨a8, a9, a10, a11, a12⟩, ⟨a13, a14, a15⟩, a16, a17, a18⟩
      · rw [h3] at h; cases h
      rw [h3] at h
      dsimp only at h
      rcases h4 : a1[(a4 : Int).toNat]? with _ | ⟨a19, a20, a21, ⟨a22, a23, a24, a25, a26⟩, ⟨a27, a28, a29⟩, a30, a31, a32⟩
      · rw [h4] at h; cases h
      rw [h4] at h
      dsimp only at h
      rcases h5 : t.plan_Same_1 (GStep.mk a5 a6 a7 (GValue.mk a8 a9 a10 a11 a12) (GPred.mk a13 a14 a15) a16 a17 a18) (GStep.mk a19 a20 a21 (GValue.mk a22 a23 a24 a25 a26) (GPred.mk a27 a28 a29) a30 a31 a32) with _ | a33
      · rw [h5] at h; cases h
      rw [h5] at h
      dsimp only at h
      by_cases h6 : a33 = true
      · rw [if_pos h6] at h
        exact loop_more (path (ob_b h1 (ob_n h2 (ob_t (look_ts GStep.ts_map h3) (ob_n h2 (ob_t (look_ts GStep.ts_map h4) (ob_c (ht.plan_Same_1 _ _ _ h5) (ob_b (congrArg (!·) h6) ob))))))) (by kernel_rfl)) (slices_EqualFunc_plan_Same_1_l1.okL ht n k _ _ _ _ _ h)
      · rw [if_neg h6] at h
        replace h6 := Bool.eq_false_iff.2 h6
        rw [← Option.some.inj h]
        exact loop_out (path (ob_b h1 (ob_n h2 (ob_t (look_ts GStep.ts_map h3) (ob_n h2 (ob_t (look_ts GStep.ts_map h4) (ob_c (ht.plan_Same_1 _ _ _ h5) (ob_b (congrArg (!·) h6) ob))))))) (by kernel_rfl)) (fun h => by cases h)
    · rw [if_neg h1] at h
      replace h1 := Bool.eq_false_iff.2 h1
      rw [← Option.some.inj h]
      exact loop_out (path (ob_b h1 ob) (by kernel_rfl)) (fun h => by cases h)
theorem slices_EqualFunc_plan_Same_1_l1.ok {t : Tab} {call : FuncId → List AV → List AV → Option (AV × List AV)} (ht : TabOk t call) (n : Nat) (a1 : List GStep) (a2 : List GStep) (a3 : Int) (a4 : Int) (r : Bool ⊕ ((List GStep) × (List GStep) × Int × Int × Bool)) (h : slices_EqualFunc_plan_Same_1_l1 t n n a1 a2 a3 a4 = some r) : exec (env Tryd.prog 31 Tryd.f31 call) n (sub [1, 1, 0, 1, 0] (bodyOf Tryd.f31)) (mkSt 32 32 [(1, (.t (.sl false 14 (GStep.ts a1)))), (2, (.fn 32 [])), (15, (.t (.sl false 14 (GStep.ts a2)))), (16, (.t (.v (.int .i64 a3)))), (17, (.t (.v (.int .i64 a4))))] []) = some (slices_EqualFunc_plan_Same_1_l1.to r) := by
  have e1 : sub [1, 1, 0, 1, 0] (bodyOf Tryd.f31) = .loop (sub [1, 1, 0, 1, 0, 0] (bodyOf Tryd.f31)) := by kernel_rfl
  rw [e1, exec]
  exact slices_EqualFunc_plan_Same_1_l1.okL ht n n a1 a2 a3 a4 r h
theorem slices_EqualFunc_plan_Same_1.ok {n : Nat} {t : Tab} (ht : TabOk t (run Tryd.prog own kp X n)) : ∀ (p1 : List GStep) (p2 : List GStep) r, slices_EqualFunc_plan_Same_1 t n p1 p2 = some r → run Tryd.prog own kp X (n + 1) 31 [(.t (.sl false 14 (GStep.ts p1))), (.t (.sl false 14 (GStep.ts p2))), (.fn 32 [])] [] = some ((.t (.v (.bool r))), []) := by
  intro p1 p2 r h
  obtain ⟨a1, rfl⟩ : ∃ z_, z_ = p1 := ⟨_, rfl⟩
  obtain ⟨a2, rfl⟩ : ∃ z_, z_ = p2 := ⟨_, rfl⟩
  rw [slices_EqualFunc_plan_Same_1] at h
  by_cases h1 : ((a1.length : Int) != (a2.length : Int)) = true
  · rw [if_pos h1] at h
    rw [← Option.some.inj h]
    exact run_path Tryd.func31 (ob_v (len_ts GStep.ts_map (l := a1)) (ob_v (len_ts GStep.ts_map (l := a2)) (ob_b h1 ob))) (by kernel_rfl)
  · rw [if_neg h1] at h
    replace h1 := Bool.eq_false_iff.2 h1
    rcases h2 : slices_EqualFunc_plan_Same_1_l1 t n n a2 a1 (a1.length : Int) 0 with _ | q_
    · rw [h2] at h; cases h
    rw [h2] at h
    rcases q_ with a3 | ⟨a4, a5, a6, a7, a8⟩
    · dsimp only at h
      rw [← Option.some.inj h]
      exact run_path Tryd.func31 (ob_v (len_ts GStep.ts_map (l := a1)) (ob_v (len_ts GStep.ts_map (l := a2)) (ob_b h1 (ob_v (len_ts GStep.ts_map (l := a1)) (ob_k (slices_EqualFunc_plan_Same_1_l1.ok ht n _ _ _ _ _ h2) ob))))) (by kernel_rfl)
    · dsimp only at h
      rw [← Option.some.inj h]
      exact run_path Tryd.func31 (ob_v (len_ts GStep.ts_map (l := a1)) (ob_v (len_ts GStep.ts_map (l := a2)) (ob_b h1 (ob_v (len_ts GStep.ts_map (l := a1)) (ob_k (slices_EqualFunc_plan_Same_1_l1.ok ht n _ _ _ _ _ h2) ob))))) (by kernel_rfl)
theorem ref02_Count_j2.ok {t : Tab} {call : FuncId → List AV → List AV → Option (AV × List AV)} (ht : TabOk t call) (n : Nat) (a1 : Int) (a2 : Int) (a3 : Int) (a4 : Int) (a5 : Int) (a6 : ByteArray) (a7 : List GValue) (a8 : List GValue) (r : Int × Int × Int × Int × Int × ByteArray × (List GValue) × (List GValue)) (h : ref02_Count_j2 t n a1 a2 a3 a4 a5 a6 a7 a8 = some r) : exec (env Tryd.prog 40 Tryd.f40 call) n (sub [1, 1, 0, 1, 0, 0, 1] (bodyOf Tryd.f40)) (mkSt 60 60 [(1, (.t (.v (.int .i64 a1)))), (2, (.ptr 2 0 [] 0)), (5, (.t (.v (.int .i64 a2)))), (6, (.t (.v (.int .i64 a3))))] [(2, (.t (.st [(.v (.int .i64 a4)), (.v (.int .i64 a5)), (.v (.string a6)), (.sl false 5 (GValue.ts a7)), (.sl false 5 (GValue.ts a8))])))]) = some (ref02_Count_j2.to r) := by
  rw [ref02_Count_j2] at h
  by_cases h1 : (decide (0 ≤ (a3 : Int))) = true
  case neg => rw [if_neg h1] at h; cases h
  rw [if_pos h1] at h
  rcases h2 : a7[(a3 : Int).toNat]? with _ | ⟨a9, a10, a11, a12, a13⟩
  · rw [h2] at h; cases h
  rw [h2] at h
  dsimp only at h
  rcases h3 : t.ref02_Count (GValue.mk a9 a10 a11 a12 a13) (IntKind.wrap .i64 (a1 - a2)) with _ | a14
  · rw [h3] at h; cases h
  rw [h3] at h
  dsimp only at h
  rw [← Option.some.inj h]
  exact path (ob_n h1 (ob_t (look_ts GValue.ts_map h2) (ob_c (ht.ref02_Count _ _ _ h3) ob))) (by kernel_rfl)
theorem ref02_Count_l1.okL {t : Tab} {call : FuncId → List AV → List AV → Option (AV × List AV)} (ht : TabOk t call) (n : Nat) : ∀ (k : Nat) (a1 : Int) (a2 : Int) (a3 : Int) (a4 : Int) (a5 : Int) (a6 : ByteArray) (a7 : List GValue) (a8 : List GValue) (r : Int × Int × Int × Bool × Int × Int × ByteArray × (List GValue) × (List GValue)), ref02_Count_l1 t n k a1 a2 a3 a4 a5 a6 a7 a8 = some r → loopN (exec (env Tryd.prog 40 Tryd.f40 call) n (sub [1, 1, 0, 1, 0, 0] (bodyOf Tryd.f40))) k (mkSt 60 60 [(1, (.t (.v (.int .i64 a1)))), (2, (.ptr 2 0 [] 0)), (5, (.t (.v (.int .i64 a2)))), (6, (.t (.v (.int .i64 a3))))] [(2, (.t (.st [(.v (.int .i64 a4)), (.v (.int .i64 a5)), (.v (.string a6)), (.sl false 5 (GValue.ts a7)), (.sl false 5 (GValue.ts a8))])))]) = some (ref02_Count_l1.to r)
  | 0, a1, a2, a3, a4, a5, a6, a7, a8, r, h => by rw [ref02_Count_l1] at h; cases h
  | k + 1, a1, a2, a3, a4, a5, a6, a7, a8, r, h => by
    rw [ref02_Count_l1] at h
    by_cases h1 : (decide (a3 < (a7.length : Int))) = true
    · rw [if_pos h1] at h
      by_cases h2 : (decide (a2 < a1)) = true
      · rw [if_pos h2] at h
        rcases h3 : ref02_Count_j2 t n  a1 a2 a3 a4 a5 a6 a7 a8 with _ | q_
        · rw [h3] at h; cases h
        rw [h3] at h
        obtain ⟨a9, a10, a11, a12, a13, a14, a15, a16⟩ := q_
        dsimp only at h
        exact loop_more (path (ob_v (len_ts GValue.ts_map (l := a7)) (ob_b h1 (ob_b h1 (ob_b h1 (ob_b h1 (ob_b h2 (ob_j (ref02_Count_j2.ok ht n _ _ _ _ _ _ _ _ _ h3) ob))))))) (by kernel_rfl)) (ref02_Count_l1.okL ht n k _ _ _ _ _ _ _ _ _ h)
      · rw [if_neg h2] at h
        replace h2 := Bool.eq_false_iff.2 h2
        rw [← Option.some.inj h]
        exact loop_out (path (ob_v (len_ts GValue.ts_map (l := a7)) (ob_b h1 (ob_b h1 (ob_b h1 (ob_b h1 (ob_b h2 ob)))))) (by kernel_rfl)) (fun h => by cases h)
    · rw [if_neg h1] at h
      replace h1 := Bool.eq_false_iff.2 h1
      rw [← Option.some.inj h]
      exact loop_out (path (ob_v (len_ts GValue.ts_map (l := a7)) (ob_b h1 (ob_b h1 (ob_b h1 (ob_b h1 (ob_b (rfl : false = false) ob)))))) (by kernel_rfl)) (fun h => by cases h)
theorem ref02_Count_l1.ok {t : Tab} {call : FuncId → List AV → List AV → Option (AV × List AV)} (ht : TabOk t call) (n : Nat) (a1 : Int) (a2 : Int) (a3 : Int) (a4 : Int) (a5 : Int) (a6 : ByteArray) (a7 : List GValue) (a8 : List GValue) (r : Int × Int × Int × Bool × Int × Int × ByteArray × (List GValue) × (List GValue)) (h : ref02_Count_l1 t n n a1 a2 a3 a4 a5 a6 a7 a8 = some r) : exec (env Tryd.prog 40 Tryd.f40 call) n (sub [1, 1, 0, 1, 0] (bodyOf Tryd.f40)) (mkSt 60 60 [(1, (.t (.v (.int .i64 a1)))), (2, (.ptr 2 0 [] 0)), (5, (.t (.v (.int .i64 a2)))), (6, (.t (.v (.int .i64 a3))))] [(2, (.t (.st [(.v (.int .i64 a4)), (.v (.int .i64 a5)), (.v (.string a6)), (.sl false 5 (GValue.ts a7)), (.sl false 5 (GValue.ts a8))])))]) = some (ref02_Count_l1.to r) := by
  have e1 : sub [1, 1, 0, 1, 0] (bodyOf Tryd.f40) = .loop (sub [1, 1, 0, 1, 0, 0] (bodyOf Tryd.f40)) := by kernel_rfl
  rw [e1, exec]
  exact ref02_Count_l1.okL ht n n a1 a2 a3 a4 a5 a6 a7 a8 r h
theorem ref02_Count_j5.ok {t : Tab} {call : FuncId → List AV → List AV → Option (AV × List AV)} (ht : TabOk t call) (n : Nat) (a1 : Int) (a2 : Int) (a3 : Int) (a4 : Int) (a5 : Int) (a6 : ByteArray) (a7 : List GValue) (a8 : List GValue) (r : Int × Int × Int × Int × Int × ByteArray × (List GValue) × (List GValue)) (h : ref02_Count_j5 t n a1 a2 a3 a4 a5 a6 a7 a8 = some r) : exec (env Tryd.prog 40 Tryd.f40 call) n (sub [1, 1, 1, 0, 1, 0, 0, 1] (bodyOf Tryd.f40)) (mkSt 60 60 [(1, (.t (.v (.int .i64 a1)))), (2, (.ptr 2 0 [] 0)), (5, (.t (.v (.int .i64 a2)))), (7, (.t (.v (.int .i64 a3))))] [(2, (.t (.st [(.v (.int .i64 a4)), (.v (.int .i64 a5)), (.v (.string a6)), (.sl false 5 (GValue.ts a7)), (.sl false 5 (GValue.ts a8))])))]) = some (ref02_Count_j5.to r) := by
  rw [ref02_Count_j5] at h
  by_cases h1 : (decide (0 ≤ (a3 : Int))) = true
  case neg => rw [if_neg h1] at h; cases h
  rw [if_pos h1] at h
  rcases h2 : a8[(a3 : Int).toNat]? with _ | ⟨a9, a10, a11, a12, a13⟩
  · rw [h2] at h; cases h
  rw [h2] at h
  dsimp only at h
  rcases h3 : t.ref02_Count (GValue.mk a9 a10 a11 a12 a13) (IntKind.wrap .i64 (a1 - a2)) with _ | a14
  · rw [h3] at h; cases h
  rw [h3] at h
  dsimp only at h
  rw [← Option.some.inj h]
  exact path (ob_n h1 (ob_t (look_ts GValue.ts_map h2) (ob_c (ht.ref02_Count _ _ _ h3) ob))) (by kernel_rfl)
theorem ref02_Count_l4.okL {t : Tab} {call : FuncId → List AV → List AV → Option (AV × List AV)} (ht : TabOk t call) (n : Nat) : ∀ (k : Nat) (a1 : Int) (a2 : Int) (a3 : Int) (a4 : Int) (a5 : Int) (a6 : ByteArray) (a7 : List GValue) (a8 : List GValue) (r : Int × Int × Int × Bool × Int × Int × ByteArray × (List GValue) × (List GValue)), ref02_Count_l4 t n k a1 a2 a3 a4 a5 a6 a7 a8 = some r → loopN (exec (env Tryd.prog 40 Tryd.f40 call) n (sub [1, 1, 1, 0, 1, 0, 0] (bodyOf Tryd.f40))) k (mkSt 60 60 [(1, (.t (.v (.int .i64 a1)))), (2, (.ptr 2 0 [] 0)), (5, (.t (.v (.int .i64 a2)))), (7, (.t (.v (.int .i64 a3))))] [(2, (.t (.st [(.v (.int .i64 a4)), (.v (.int .i64 a5)), (.v (.string a6)), (.sl false 5 (GValue.ts a7)), (.sl false 5 (GValue.ts a8))])))]) = some (ref02_Count_l4.to r)
  | 0, a1, a2, a3, a4, a5, a6, a7, a8, r, h => by rw [ref02_Count_l4] at h; cases h
  | k + 1, a1, a2, a3, a4, a5, a6, a7, a8, r, h => by
    rw [ref02_Count_l4] at h
    by_cases h1 : (decide (a3 < (a8.length : Int))) = true
    · rw [if_pos h1] at h
      by_cases h2 : (decide (a2 < a1)) = true
      · rw [if_pos h2] at h
        rcases h3 : ref02_Count_j5 t n  a1 a2 a3 a4 a5 a6 a7 a8 with _ | q_
        · rw [h3] at h; cases h
        rw [h3] at h
        obtain ⟨a9, a10, a11, a12, a13, a14, a15, a16⟩ := q_
        dsimp only at h
        exact loop_more (path (ob_v (len_ts GValue.ts_map (l := a8)) (ob_b h1 (ob_b h1 (ob_b h1 (ob_b h1 (ob_b h2 (ob_j (ref02_Count_j5.ok ht n _ _ _ _ _ _ _ _ _ h3) ob))))))) (by kernel_rfl)) (ref02_Count_l4.okL ht n k _ _ _ _ _ _ _ _ _ h)
      · rw [if_neg h2] at h
        replace h2 := Bool.eq_false_iff.2 h2
        rw [← Option.some.inj h]
        exact loop_out (path (ob_v (len_ts GValue.ts_map (l := a8)) (ob_b h1 (ob_b h1 (ob_b h1 (ob_b h1 (ob_b h2 ob)))))) (by kernel_rfl)) (fun h => by cases h)
    · rw [if_neg h1] at h
      replace h1 := Bool.eq_false_iff.2 h1
      rw [← Option.some.inj h]
      exact loop_out (path (ob_v (len_ts GValue.ts_map (l := a8)) (ob_b h1 (ob_b h1 (ob_b h1 (ob_b h1 (ob_b (rfl : false = false) ob)))))) (by kernel_rfl)) (fun h => by cases h)
theorem ref02_Count_l4.ok {t : Tab} {call : FuncId → List AV → List AV → Option (AV × List AV)} (ht : TabOk t call) (n : Nat) (a1 : Int) (a2 : Int) (a3 : Int) (a4 : Int) (a5 : Int) (a6 : ByteArray) (a7 : List GValue) (a8 : List GValue) (r : Int × Int × Int × Bool × Int × Int × ByteArray × (List GValue) × (List GValue)) (h : ref02_Count_l4 t n n a1 a2 a3 a4 a5 a6 a7 a8 = some r) : exec (env Tryd.prog 40 Tryd.f40 call) n (sub [1, 1, 1, 0, 1, 0] (bodyOf Tryd.f40)) (mkSt 60 60 [(1, (.t (.v (.int .i64 a1)))), (2, (.ptr 2 0 [] 0)), (5, (.t (.v (.int .i64 a2)))), (7, (.t (.v (.int .i64 a3))))] [(2, (.t (.st [(.v (.int .i64 a4)), (.v (.int .i64 a5)), (.v (.string a6)), (.sl false 5 (GValue.ts a7)), (.sl false 5 (GValue.ts a8))])))]) = some (ref02_Count_l4.to r) := by
  have e1 : sub [1, 1, 1, 0, 1, 0] (bodyOf Tryd.f40) = .loop (sub [1, 1, 1, 0, 1, 0, 0] (bodyOf Tryd.f40)) := by kernel_rfl
  rw [e1, exec]
  exact ref02_Count_l4.okL ht n n a1 a2 a3 a4 a5 a6 a7 a8 r h
theorem ref02_Count_j6.ok {t : Tab} {call : FuncId → List AV → List AV → Option (AV × List AV)} (ht : TabOk t call) (n : Nat) (a1 : Int) (a2 : Int) (a3 : Int) (a4 : ByteArray) (a5 : List GValue) (a6 : List GValue) (r : Int) (h : ref02_Count_j6 t n a1 a2 a3 a4 a5 a6 = some r) : exec (env Tryd.prog 40 Tryd.f40 call) n (sub [1, 1, 1, 1] (bodyOf Tryd.f40)) (mkSt 60 60 [(2, (.ptr 2 0 [] 0)), (5, (.t (.v (.int .i64 a1))))] [(2, (.t (.st [(.v (.int .i64 a2)), (.v (.int .i64 a3)), (.v (.string a4)), (.sl false 5 (GValue.ts a5)), (.sl false 5 (GValue.ts a6))])))]) = some (ref02_Count_j6.to r) := by
  rw [ref02_Count_j6] at h
  rcases h1 : quoI .i64 (a4.size : Int) 20 with _ | a7
  · rw [h1] at h; cases h
  rw [h1] at h
  dsimp only at h
  rw [← Option.some.inj h]
  exact path (ob_v (quo_ok (P := Tryd.prog) (t := 3) (x := (.tmp 57)) (y := (.const (.int .i64 20))) h1) ob) (by kernel_rfl)
theorem ref02_Count_j3.ok {t : Tab} {call : FuncId → List AV → List AV → Option (AV × List AV)} (ht : TabOk t call) (n : Nat) (a1 : Int) (a2 : Int) (a3 : Int) (a4 : Int) (a5 : ByteArray) (a6 : List GValue) (a7 : List GValue) (r : Int) (h : ref02_Count_j3 t n a1 a2 a3 a4 a5 a6 a7 = some r) : exec (env Tryd.prog 40 Tryd.f40 call) n (sub [1, 1, 1] (bodyOf Tryd.f40)) (mkSt 60 60 [(1, (.t (.v (.int .i64 a1)))), (2, (.ptr 2 0 [] 0)), (5, (.t (.v (.int .i64 a2))))] [(2, (.t (.st [(.v (.int .i64 a3)), (.v (.int .i64 a4)), (.v (.string a5)), (.sl false 5 (GValue.ts a6)), (.sl false 5 (GValue.ts a7))])))]) = some (ref02_Count_j3.to r) := by
  rw [ref02_Count_j3] at h
  rcases h1 : ref02_Count_l4 t n n a1 a2 0 a3 a4 a5 a6 a7 with _ | q_
  · rw [h1] at h; cases h
  rw [h1] at h
  obtain ⟨a8, a9, a10, a11, a12, a13, a14, a15, a16⟩ := q_
  dsimp only at h
  obtain ⟨a17, rfl⟩ : ∃ z_, z_ = r := ⟨_, rfl⟩
  have h2 := h
  exact path (ob_k (ref02_Count_l4.ok ht n _ _ _ _ _ _ _ _ _ h1) (ob_j (ref02_Count_j6.ok ht n _ _ _ _ _ _ _ h2) ob)) (by kernel_rfl)
theorem ref02_Count.ok {n : Nat} {t : Tab} (ht : TabOk t (run Tryd.prog own kp X n)) : ∀ (p1 : GValue) (p2 : Int) r, ref02_Count t n p1 p2 = some r → run Tryd.prog own kp X (n + 1) 40 [(.t (GValue.t p1)), (.t (.v (.int .i64 p2)))] [] = some ((.t (.v (.int .i64 r))), []) := by
  intro p1 p2 r h
  obtain ⟨a1, a2, a3, a4, a5⟩ := p1
  obtain ⟨a6, rfl⟩ : ∃ z_, z_ = p2 := ⟨_, rfl⟩
  rw [ref02_Count] at h
  rcases h1 : ref02_Count_l1 t n n a6 1 0 a1 a2 a3 a4 a5 with _ | q_
  · rw [h1] at h; cases h
  rw [h1] at h
  obtain ⟨a7, a8, a9, a10, a11, a12, a13, a14, a15⟩ := q_
  dsimp only at h
  obtain ⟨a16, rfl⟩ : ∃ z_, z_ = r := ⟨_, rfl⟩
  have h2 := h
  exact run_path Tryd.func40 (ob_k (ref02_Count_l1.ok ht n _ _ _ _ _ _ _ _ _ h1) (ob_j (ref02_Count_j3.ok ht n _ _ _ _ _ _ _ _ h2) ob)) (by kernel_rfl)
theorem ref09_Count_j2.ok {t : Tab} {call : FuncId → List AV → List AV → Option (AV × List AV)} (ht : TabOk t call) (n : Nat) (a1 : Int) (a2 : Int) (a3 : Int) (a4 : Int) (a5 : List GValue) (a6 : List GPred) (r : Int × Int × Int × Int × (List GValue) × (List GPred)) (h : ref09_Count_j2 t n a1 a2 a3 a4 a5 a6 = some r) : exec (env Tryd.prog 41 Tryd.f41 call) n (sub [1, 1, 0, 1, 0, 0, 1] (bodyOf Tryd.f41)) (mkSt 36 36 [(1, (.t (.v (.int .i64 a1)))), (2, (.ptr 2 0 [] 0)), (5, (.t (.v (.int .i64 a2)))), (6, (.t (.v (.int .i64 a3))))] [(2, (.t (.st [(.v (.int .i64 a4)), (.sl false 5 (GValue.ts a5)), (.sl false 3 (GPred.ts a6))])))]) = some (ref09_Count_j2.to r) := by
  rw [ref09_Count_j2] at h
  by_cases h1 : (decide (0 ≤ (a3 : Int))) = true
  case neg => rw [if_neg h1] at h; cases h
  rw [if_pos h1] at h
  rcases h2 : a6[(a3 : Int).toNat]? with _ | ⟨a7, a8, a9⟩
  · rw [h2] at h; cases h
  rw [h2] at h
  dsimp only at h
  rcases h3 : t.ref09_Count (GPred.mk a7 a8 a9) (IntKind.wrap .i64 (a1 - a2)) with _ | a10
  · rw [h3] at h; cases h
  rw [h3] at h
  dsimp only at h
  rw [← Option.some.inj h]
  exact path (ob_n h1 (ob_t (look_ts GPred.ts_map h2) (ob_c (ht.ref09_Count _ _ _ h3) ob))) (by kernel_rfl)
theorem ref09_Count_l1.okL {t : Tab} {call : FuncId → List AV → List AV → Option (AV × List AV)} (ht : TabOk t call) (n : Nat) : ∀ (k : Nat) (a1 : Int) (a2 : Int) (a3 : Int) (a4 : Int) (a5 : List GValue) (a6 : List GPred) (r : Int × Int × Int × Bool × Int × (List GValue) × (List GPred)), ref09_Count_l1 t n k a1 a2 a3 a4 a5 a6 = some r → loopN (exec (env Tryd.prog 41 Tryd.f41 call) n (sub [1, 1, 0, 1, 0, 0] (bodyOf Tryd.f41))) k (mkSt 36 36 [(1, (.t (.v (.int .i64 a1)))), (2, (.ptr 2 0 [] 0)), (5, (.t (.v (.int .i64 a2)))), (6, (.t (.v (.int .i64 a3))))] [(2, (.t (.st [(.v (.int .i64 a4)), (.sl false 5 (GValue.ts a5)), (.sl false 3 (GPred.ts a6))])))]) = some (ref09_Count_l1.to r)
  | 0, a1, a2, a3, a4, a5, a6, r, h => by rw [ref09_Count_l1] at h; cases h
  | k + 1, a1, a2, a3, a4, a5, a6, r, h => by
    rw [ref09_Count_l1] at h
    by_cases h1 : (decide (a3 < (a6.length : Int))) = true
    · rw [if_pos h1] at h
      by_cases h2 : (decide (a2 < a1)) = true
      · rw [if_pos h2] at h
        rcases h3 : ref09_Count_j2 t n  a1 a2 a3 a4 a5 a6 with _ | q_
        · rw [h3] at h; cases h
        rw [h3] at h
        obtain ⟨a7, a8, a9, a10, a11, a12⟩ := q_
        dsimp only at h
        exact loop_more (path (ob_v (len_ts GPred.ts_map (l := a6)) (ob_b h1 (ob_b h1 (ob_b h1 (ob_b h1 (ob_b h2 (ob_j (ref09_Count_j2.ok ht n _ _ _ _ _ _ _ h3) ob))))))) (by kernel_rfl)) (ref09_Count_l1.okL ht n k _ _ _ _ _ _ _ h)
      · rw [if_neg h2] at h
        replace h2 := Bool.eq_false_iff.2 h2
        rw [← Option.some.inj h]
        exact loop_out (path (ob_v (len_ts GPred.ts_map (l := a6)) (ob_b h1 (ob_b h1 (ob_b h1 (ob_b h1 (ob_b h2 ob)))))) (by kernel_rfl)) (fun h => by cases h)
    · rw [if_neg h1] at h
      replace h1 := Bool.eq_false_iff.2 h1
      rw [← Option.some.inj h]
      exact loop_out (path (ob_v (len_ts GPred.ts_map (l := a6)) (ob_b h1 (ob_b h1 (ob_b h1 (ob_b h1 (ob_b (rfl : false = false) ob)))))) (by kernel_rfl)) (fun h => by cases h)
theorem ref09_Count_l1.ok {t : Tab} {call : FuncId → List AV → List AV → Option (AV × List AV)} (ht : TabOk t call) (n : Nat) (a1 : Int) (a2 : Int) (a3 : Int) (a4 : Int) (a5 : List GValue) (a6 : List GPred) (r : Int × Int × Int × Bool × Int × (List GValue) × (List GPred)) (h : ref09_Count_l1 t n n a1 a2 a3 a4 a5 a6 = some r) : exec (env Tryd.prog 41 Tryd.f41 call) n (sub [1, 1, 0, 1, 0] (bodyOf Tryd.f41)) (mkSt 36 36 [(1, (.t (.v (.int .i64 a1)))), (2, (.ptr 2 0 [] 0)), (5, (.t (.v (.int .i64 a2)))), (6, (.t (.v (.int .i64 a3))))] [(2, (.t (.st [(.v (.int .i64 a4)), (.sl false 5 (GValue.ts a5)), (.sl false 3 (GPred.ts a6))])))]) = some (ref09_Count_l1.to r) := by
  have e1 : sub [1, 1, 0, 1, 0] (bodyOf Tryd.f41) = .loop (sub [1, 1, 0, 1, 0, 0] (bodyOf Tryd.f41)) := by kernel_rfl
  rw [e1, exec]
  exact ref09_Count_l1.okL ht n n a1 a2 a3 a4 a5 a6 r h
theorem ref09_Count.ok {n : Nat} {t : Tab} (ht : TabOk t (run Tryd.prog own kp X n)) : ∀ (p1 : GPred) (p2 : Int) r, ref09_Count t n p1 p2 = some r → run Tryd.prog own kp X (n + 1) 41 [(.t (GPred.t p1)), (.t (.v (.int .i64 p2)))] [] = some ((.t (.v (.int .i64 r))), []) := by
  intro p1 p2 r h
  obtain ⟨a1, a2, a3⟩ := p1
  obtain ⟨a4, rfl⟩ : ∃ z_, z_ = p2 := ⟨_, rfl⟩
  rw [ref09_Count] at h
  rcases h1 : t.ref02_Many a2 a4 with _ | a5
  · rw [h1] at h; cases h
  rw [h1] at h
  dsimp only at h
  rcases h2 : ref09_Count_l1 t n n a4 (IntKind.wrap .i64 (1 + a5)) 0 a1 a2 a3 with _ | q_
  · rw [h2] at h; cases h
  rw [h2] at h
  obtain ⟨a6, a7, a8, a9, a10, a11, a12⟩ := q_
  dsimp only at h
  rw [← Option.some.inj h]
  exact run_path Tryd.func41 (ob_c (ht.ref02_Many _ _ _ h1) (ob_k (ref09_Count_l1.ok ht n _ _ _ _ _ _ _ h2) ob)) (by kernel_rfl)
theorem slices_ContainsFunc_plan_some_1.ok {n : Nat} {t : Tab} (ht : TabOk t (run Tryd.prog own kp X n)) : ∀ (p1 : List GStep) (p2 : List Int) r, slices_ContainsFunc_plan_some_1 t n p1 p2 = some r → run Tryd.prog own kp X (n + 1) 43 [(.t (.sl false 14 (GStep.ts p1))), (.fn 44 [(.fref 22 [(.ref (.sl false 1 (ints_i64 p2)))])])] [] = some ((.t (.v (.bool r))), []) := by
  intro p1 p2 r h
  obtain ⟨a1, rfl⟩ : ∃ z_, z_ = p1 := ⟨_, rfl⟩
  obtain ⟨a2, rfl⟩ : ∃ z_, z_ = p2 := ⟨_, rfl⟩
  rw [slices_ContainsFunc_plan_some_1] at h
  rcases h1 : t.slices_IndexFunc_plan_some_1 a1 a2 with _ | a3
  · rw [h1] at h; cases h
  rw [h1] at h
  dsimp only at h
  rw [← Option.some.inj h]
  exact run_path Tryd.func43 (ob_c (ht.slices_IndexFunc_plan_some_1 _ _ _ h1) ob) (by kernel_rfl)
theorem slices_ContainsFunc_plan_right_1.ok {n : Nat} {t : Tab} (ht : TabOk t (run Tryd.prog own kp X n)) : ∀ (p1 : List GStep) (p2 : Int) r, slices_ContainsFunc_plan_right_1 t n p1 p2 = some r → run Tryd.prog own kp X (n + 1) 43 [(.t (.sl false 14 (GStep.ts p1))), (.fn 49 [(.ref (.v (.int .i64 p2)))])] [] = some ((.t (.v (.bool r))), []) := by
  intro p1 p2 r h
  obtain ⟨a1, rfl⟩ : ∃ z_, z_ = p1 := ⟨_, rfl⟩
  obtain ⟨a2, rfl⟩ : ∃ z_, z_ = p2 := ⟨_, rfl⟩
  rw [slices_ContainsFunc_plan_right_1] at h
  rcases h1 : t.slices_IndexFunc_plan_right_1 a1 a2 with _ | a3
  · rw [h1] at h; cases h
  rw [h1] at h
  dsimp only at h
  rw [← Option.some.inj h]
  exact run_path Tryd.func43 (ob_c (ht.slices_IndexFunc_plan_right_1 _ _ _ h1) ob) (by kernel_rfl)
theorem plan_inner_j2.ok {t : Tab} {call : FuncId → List AV → List AV → Option (AV × List AV)} (ht : TabOk t call) (n : Nat) (a1 : List (List GStep)) (a2 : List GBy) (a3 : Int) (a4 : Int) (a5 : Bool) (a6 : Int) (a7 : ByteArray) (a8 : List GStep) (a9 : Bool) (r : (List (List GStep)) × (List GBy) × Int × Int) (h : plan_inner_j2 t n a1 a2 a3 a4 a5 a6 a7 a8 a9 = some r) : exec (env Tryd.prog 46 Tryd.f46 call) n (sub [1, 1, 0, 1, 0, 0, 1, 1, 0, 0, 1, 1] (bodyOf Tryd.f46)) (mkSt 32 32 [(3, (.t (.sl true 1 (rows_GStep_ts a1)))), (5, (.ptr 5 0 [] 0)), (10, (.t (.sl false 4 (GBy.ts a2)))), (11, (.t (.v (.int .i64 a3)))), (12, (.t (.v (.int .i64 a4)))), (24, (.t (.v (.bool a5))))] [(5, (.t (.st [(.v (.int .i64 a6)), (.v (.string a7)), (.sl false 14 (GStep.ts a8)), (.v (.bool a9))])))]) = some (plan_inner_j2.to r) := by
  rw [plan_inner_j2] at h
  by_cases h1 : a5 = true
  · rw [if_pos h1] at h
    by_cases h2 : (a1.length + ([a8] : List (List GStep)).length) * 24 ≤ 140737488355328
    case neg => rw [if_neg h2] at h; cases h
    rw [if_pos h2] at h
    rw [← Option.some.inj h]
    exact path (ob_b h1 (ob_le (room_ts rows_GStep_ts_map h2) (ob_l (app_ts rows_GStep_ts_map (a := a1) (b := ([a8] : List (List GStep)))) ob))) (by kernel_rfl)
  · rw [if_neg h1] at h
    replace h1 := Bool.eq_false_iff.2 h1
    rw [← Option.some.inj h]
    exact path (ob_b h1 ob) (by kernel_rfl)
theorem plan_inner_l1.okL {t : Tab} {call : FuncId → List AV → List AV → Option (AV × List AV)} (ht : TabOk t call) (n : Nat) : ∀ (k : Nat) (a1 : List (List GStep)) (a2 : List GBy) (a3 : Int) (a4 : Int) (r : (List (List GStep)) × (List GBy) × Int × Int × Bool), plan_inner_l1 t n k a1 a2 a3 a4 = some r → loopN (exec (env Tryd.prog 46 Tryd.f46 call) n (sub [1, 1, 0, 1, 0, 0] (bodyOf Tryd.f46))) k (mkSt 32 32 [(3, (.t (.sl true 1 (rows_GStep_ts a1)))), (10, (.t (.sl false 4 (GBy.ts a2)))), (11, (.t (.v (.int .i64 a3)))), (12, (.t (.v (.int .i64 a4))))] []) = some (plan_inner_l1.to r)
  | 0, a1, a2, a3, a4, r, h => by rw [plan_inner_l1] at h; cases h
  | k + 1, a1, a2, a3, a4, r, h => by
    rw [plan_inner_l1] at h
    by_cases h1 : (decide (a4 < a3)) = true
    · rw [if_pos h1] at h
      by_cases h2 : (decide (0 ≤ (a4 : Int))) = true
      case neg => rw [if_neg h2] at h; cases h
      rw [if_pos h2] at h
      rcases h3 : a2[(a4 : Int).toNat]? with _ | ⟨a5, a6, a7, a8⟩
      · rw [h3] at h; cases h
      rw [h3] at h
      dsimp only at h
      by_cases h4 : (a5 == 3) = true
      · rw [if_pos h4] at h
        rcases h5 : plan_inner_j2 t n  a1 a2 a3 a4 true a5 a6 a7 a8 with _ | q_
        · rw [h5] at h; cases h
        rw [h5] at h
        obtain ⟨a9, a10, a11, a12⟩ := q_
        dsimp only at h
        exact loop_more (path (ob_b h1 (ob_n h2 (ob_t (look_ts GBy.ts_map h3) (ob_b h4 (ob_b h4 (ob_b h4 (ob_b h4 (ob_b h4 (ob_j (plan_inner_j2.ok ht n _ _ _ _ _ _ _ _ _ _ h5) ob))))))))) (by kernel_rfl)) (plan_inner_l1.okL ht n k _ _ _ _ _ h)
      · rw [if_neg h4] at h
        replace h4 := Bool.eq_false_iff.2 h4
        rcases h6 : plan_inner_j2 t n  a1 a2 a3 a4 (decide ((a7.length : Int) > 0)) a5 a6 a7 a8 with _ | q_
        · rw [h6] at h; cases h
        rw [h6] at h
        obtain ⟨a13, a14, a15, a16⟩ := q_
        dsimp only at h
        exact loop_more (path (ob_b h1 (ob_n h2 (ob_t (look_ts GBy.ts_map h3) (ob_b h4 (ob_b h4 (ob_b h4 (ob_v (len_ts GStep.ts_map (l := a7)) (ob_b h4 (ob_b h4 (ob_j (plan_inner_j2.ok ht n _ _ _ _ _ _ _ _ _ _ h6) ob)))))))))) (by kernel_rfl)) (plan_inner_l1.okL ht n k _ _ _ _ _ h)
    · rw [if_neg h1] at h
      replace h1 := Bool.eq_false_iff.2 h1
      rw [← Option.some.inj h]
      exact loop_out (path (ob_b h1 ob) (by kernel_rfl)) (fun h => by cases h)
theorem plan_inner_l1.ok {t : Tab} {call : FuncId → List AV → List AV → Option (AV × List AV)} (ht : TabOk t call) (n : Nat) (a1 : List (List GStep)) (a2 : List GBy) (a3 : Int) (a4 : Int) (r : (List (List GStep)) × (List GBy) × Int × Int × Bool) (h : plan_inner_l1 t n n a1 a2 a3 a4 = some r) : exec (env Tryd.prog 46 Tryd.f46 call) n (sub [1, 1, 0, 1, 0] (bodyOf Tryd.f46)) (mkSt 32 32 [(3, (.t (.sl true 1 (rows_GStep_ts a1)))), (10, (.t (.sl false 4 (GBy.ts a2)))), (11, (.t (.v (.int .i64 a3)))), (12, (.t (.v (.int .i64 a4))))] []) = some (plan_inner_l1.to r) := by
  have e1 : sub [1, 1, 0, 1, 0] (bodyOf Tryd.f46) = .loop (sub [1, 1, 0, 1, 0, 0] (bodyOf Tryd.f46)) := by kernel_rfl
  rw [e1, exec]
  exact plan_inner_l1.okL ht n n a1 a2 a3 a4 r h
theorem plan_inner.ok {n : Nat} {t : Tab} (ht : TabOk t (run Tryd.prog own kp X n)) : ∀ (p1 : GStep) r, plan_inner t n p1 = some r → run Tryd.prog own kp X (n + 1) 46 [(.t (GStep.t p1))] [] = some ((.t (.sl false 1 (rows_GStep_ts r))), []) := by
  intro p1 r h
  obtain ⟨a1, a2, a3, ⟨a4, a5, a6, a7, a8⟩, ⟨a9, a10, a11⟩, a12, a13, a14⟩ := p1
  rw [plan_inner] at h
  rcases h1 : t.slices_Clone_Step a12 with _ | a15
  · rw [h1] at h; cases h
  rw [h1] at h
  dsimp only at h
  rcases h2 : plan_inner_l1 t n n a15 a13 (a13.length : Int) 0 with _ | q_
  · rw [h2] at h; cases h
  rw [h2] at h
  obtain ⟨a16, a17, a18, a19, a20⟩ := q_
  dsimp only at h
  rw [← Option.some.inj h]
  exact run_path Tryd.func46 (ob_c (ht.slices_Clone_Step _ _ h1) (ob_v (len_ts GBy.ts_map (l := a13)) (ob_k (plan_inner_l1.ok ht n _ _ _ _ _ h2) ob))) (by kernel_rfl)
theorem slices_ContainsFunc_plan_some_1_i2.ok {n : Nat} {t : Tab} (ht : TabOk t (run Tryd.prog own kp X n)) : ∀ (p1 : List GStep) r, slices_ContainsFunc_plan_some_1_i2 t n p1 = some r → run Tryd.prog own kp X (n + 1) 43 [(.t (.sl false 14 (GStep.ts p1))), (.fn 44 [(.fref 28 [])])] [] = some ((.t (.v (.bool r))), []) := by
  intro p1 r h
  obtain ⟨a1, rfl⟩ : ∃ z_, z_ = p1 := ⟨_, rfl⟩
  rw [slices_ContainsFunc_plan_some_1_i2] at h
  rcases h1 : t.slices_IndexFunc_plan_some_1_i2 a1 with _ | a2
  · rw [h1] at h; cases h
  rw [h1] at h
  dsimp only at h
  rw [← Option.some.inj h]
  exact run_path Tryd.func43 (ob_c (ht.slices_IndexFunc_plan_some_1_i2 _ _ h1) ob) (by kernel_rfl)
theorem plan_Same_1_j1.ok {t : Tab} {call : FuncId → List AV → List AV → Option (AV × List AV)} (ht : TabOk t call) (n : Nat) (a1 : Bool) (a2 : Int) (a3 : List ByteArray) (a4 : List Int) (a5 : Int) (a6 : Int) (a7 : ByteArray) (a8 : List GValue) (a9 : List GValue) (a10 : Int) (a11 : List GValue) (a12 : List GPred) (a13 : List (List GStep)) (a14 : List GBy) (a15 : List ByteArray) (a16 : Int) (a17 : List ByteArray) (a18 : List Int) (a19 : Int) (a20 : Int) (a21 : ByteArray) (a22 : List GValue) (a23 : List GValue) (a24 : Int) (a25 : List GValue) (a26 : List GPred) (a27 : List (List GStep)) (a28 : List GBy) (a29 : List ByteArray) (r : Bool) (h : plan_Same_1_j1 t n a1 a2 a3 a4 a5 a6 a7 a8 a9 a10 a11 a12 a13 a14 a15 a16 a17 a18 a19 a20 a21 a22 a23 a24 a25 a26 a27 a28 a29 = some r) : exec (env Tryd.prog 32 Tryd.f32 call) n (sub [1, 1] (bodyOf Tryd.f32)) (mkSt 61 61 [(2, (.ptr 2 0 [] 0)), (3, (.ptr 3 0 [] 0)), (5, (.t (.v (.bool a1))))] [(2, (.t (.st [(.v (.int .i64 a2)), (.sl false 1 (texts a3)), (.sl false 1 (ints_i64 a4)), (.st [(.v (.int .i64 a5)), (.v (.int .i64 a6)), (.v (.string a7)), (.sl false 5 (GValue.ts a8)), (.sl false 5 (GValue.ts a9))]), (.st [(.v (.int .i64 a10)), (.sl false 5 (GValue.ts a11)), (.sl false 3 (GPred.ts a12))]), (.sl false 1 (rows_GStep_ts a13)), (.sl false 4 (GBy.ts a14)), (.sl false 1 (texts a15))]))), (3, (.t (.st [(.v (.int .i64 a16)), (.sl false 1 (texts a17)), (.sl false 1 (ints_i64 a18)), (.st [(.v (.int .i64 a19)), (.v (.int .i64 a20)), (.v (.string a21)), (.sl false 5 (GValue.ts a22)), (.sl false 5 (GValue.ts a23))]), (.st [(.v (.int .i64 a24)), (.sl false 5 (GValue.ts a25)), (.sl false 3 (GPred.ts a26))]), (.sl false 1 (rows_GStep_ts a27)), (.sl false 4 (GBy.ts a28)), (.sl false 1 (texts a29))])))]) = some (plan_Same_1_j1.to r) := by
  rw [plan_Same_1_j1] at h
  by_cases h1 : a1 = true
  · rw [if_pos h1] at h
    rcases h2 : t.value_Same (GValue.mk a5 a6 a7 a8 a9) (GValue.mk a19 a20 a21 a22 a23) with _ | a30
    · rw [h2] at h; cases h
    rw [h2] at h
    dsimp only at h
    by_cases h3 : a30 = true
    · rw [if_pos h3] at h
      rcases h4 : t.plan_samePred (GPred.mk a10 a11 a12) (GPred.mk a24 a25 a26) with _ | a31
      · rw [h4] at h; cases h
      rw [h4] at h
      dsimp only at h
      by_cases h5 : a31 = true
      · rw [if_pos h5] at h
        rcases h6 : t.slices_EqualFunc_plan_Same a13 a27 with _ | a32
        · rw [h6] at h; cases h
        rw [h6] at h
        dsimp only at h
        by_cases h7 : a32 = true
        · rw [if_pos h7] at h
          obtain ⟨a33, rfl⟩ : ∃ z_, z_ = r := ⟨_, rfl⟩
          have h8 := h
          exact path (ob_b h1 (ob_b h1 (ob_b h1 (ob_b h1 (ob_b h1 (ob_c (ht.value_Same _ _ _ h2) (ob_b h1 (ob_b h3 (ob_b h3 (ob_b h3 (ob_b h3 (ob_b h3 (ob_c (ht.plan_samePred _ _ _ h4) (ob_b h3 (ob_b h5 (ob_b h5 (ob_b h5 (ob_b h5 (ob_b h5 (ob_c (ht.slices_EqualFunc_plan_Same _ _ _ h6) (ob_b h5 (ob_b h7 (ob_b h7 (ob_b h7 (ob_b h7 (ob_b h7 (ob_c (ht.slices_EqualFunc_plan_sameBy _ _ _ h8) (ob_b h7 ob)))))))))))))))))))))))))))) (by kernel_rfl)
        · rw [if_neg h7] at h
          replace h7 := Bool.eq_false_iff.2 h7
          rw [← Option.some.inj h]
          exact path (ob_b h1 (ob_b h1 (ob_b h1 (ob_b h1 (ob_b h1 (ob_c (ht.value_Same _ _ _ h2) (ob_b h1 (ob_b h3 (ob_b h3 (ob_b h3 (ob_b h3 (ob_b h3 (ob_c (ht.plan_samePred _ _ _ h4) (ob_b h3 (ob_b h5 (ob_b h5 (ob_b h5 (ob_b h5 (ob_b h5 (ob_c (ht.slices_EqualFunc_plan_Same _ _ _ h6) (ob_b h5 (ob_b h7 (ob_b h7 (ob_b h7 (ob_b h7 (ob_b h7 (ob_b h7 ob))))))))))))))))))))))))))) (by kernel_rfl)
      · rw [if_neg h5] at h
        replace h5 := Bool.eq_false_iff.2 h5
        rw [← Option.some.inj h]
        exact path (ob_b h1 (ob_b h1 (ob_b h1 (ob_b h1 (ob_b h1 (ob_c (ht.value_Same _ _ _ h2) (ob_b h1 (ob_b h3 (ob_b h3 (ob_b h3 (ob_b h3 (ob_b h3 (ob_c (ht.plan_samePred _ _ _ h4) (ob_b h3 (ob_b h5 (ob_b h5 (ob_b h5 (ob_b h5 (ob_b h5 (ob_b h5 (ob_b (rfl : false = false) (ob_b (rfl : false = false) (ob_b (rfl : false = false) (ob_b (rfl : false = false) (ob_b (rfl : false = false) (ob_b (rfl : false = false) ob)))))))))))))))))))))))))) (by kernel_rfl)
    · rw [if_neg h3] at h
      replace h3 := Bool.eq_false_iff.2 h3
      rw [← Option.some.inj h]
      exact path (ob_b h1 (ob_b h1 (ob_b h1 (ob_b h1 (ob_b h1 (ob_c (ht.value_Same _ _ _ h2) (ob_b h1 (ob_b h3 (ob_b h3 (ob_b h3 (ob_b h3 (ob_b h3 (ob_b h3 (ob_b (rfl : false = false) (ob_b (rfl : false = false) (ob_b (rfl : false = false) (ob_b (rfl : false = false) (ob_b (rfl : false = false) (ob_b (rfl : false = false) (ob_b (rfl : false = false) (ob_b (rfl : false = false) (ob_b (rfl : false = false) (ob_b (rfl : false = false) (ob_b (rfl : false = false) (ob_b (rfl : false = false) ob))))))))))))))))))))))))) (by kernel_rfl)
  · rw [if_neg h1] at h
    replace h1 := Bool.eq_false_iff.2 h1
    rw [← Option.some.inj h]
    exact path (ob_b h1 (ob_b h1 (ob_b h1 (ob_b h1 (ob_b h1 (ob_b h1 (ob_b (rfl : false = false) (ob_b (rfl : false = false) (ob_b (rfl : false = false) (ob_b (rfl : false = false) (ob_b (rfl : false = false) (ob_b (rfl : false = false) (ob_b (rfl : false = false) (ob_b (rfl : false = false) (ob_b (rfl : false = false) (ob_b (rfl : false = false) (ob_b (rfl : false = false) (ob_b (rfl : false = false) (ob_b (rfl : false = false) (ob_b (rfl : false = false) (ob_b (rfl : false = false) (ob_b (rfl : false = false) (ob_b (rfl : false = false) (ob_b (rfl : false = false) ob)))))))))))))))))))))))) (by kernel_rfl)
theorem plan_Same_1.ok {n : Nat} {t : Tab} (ht : TabOk t (run Tryd.prog own kp X n)) : ∀ (p1 : GStep) (p2 : GStep) r, plan_Same_1 t n p1 p2 = some r → run Tryd.prog own kp X (n + 1) 32 [(.t (GStep.t p1)), (.t (GStep.t p2))] [] = some ((.t (.v (.bool r))), []) := by
  intro p1 p2 r h
  obtain ⟨a1, a2, a3, ⟨a4, a5, a6, a7, a8⟩, ⟨a9, a10, a11⟩, a12, a13, a14⟩ := p1
  obtain ⟨a15, a16, a17, ⟨a18, a19, a20, a21, a22⟩, ⟨a23, a24, a25⟩, a26, a27, a28⟩ := p2
  rw [plan_Same_1] at h
  by_cases h1 : (a1 == a15) = true
  · rw [if_pos h1] at h
    rcases h2 : t.slices_Equal_string a2 a16 with _ | a29
    · rw [h2] at h; cases h
    rw [h2] at h
    dsimp only at h
    by_cases h3 : a29 = true
    · rw [if_pos h3] at h
      rcases h4 : t.slices_Equal_int a3 a17 with _ | a30
      · rw [h4] at h; cases h
      rw [h4] at h
      dsimp only at h
      by_cases h5 : a30 = true
      · rw [if_pos h5] at h
        rcases h6 : t.slices_Equal_string a14 a28 with _ | a31
        · rw [h6] at h; cases h
        rw [h6] at h
        dsimp only at h
        obtain ⟨a32, rfl⟩ : ∃ z_, z_ = r := ⟨_, rfl⟩
        have h7 := h
        exact run_path Tryd.func32 (ob_b h1 (ob_b h1 (ob_b h1 (ob_b h1 (ob_b h1 (ob_c (ht.slices_Equal_string _ _ _ h2) (ob_b h1 (ob_b h3 (ob_b h3 (ob_b h3 (ob_b h3 (ob_b h3 (ob_c (ht.slices_Equal_int _ _ _ h4) (ob_b h3 (ob_b h5 (ob_b h5 (ob_b h5 (ob_b h5 (ob_b h5 (ob_c (ht.slices_Equal_string _ _ _ h6) (ob_b h5 (ob_j (plan_Same_1_j1.ok ht n _ _ _ _ _ _ _ _ _ _ _ _ _ _ _ _ _ _ _ _ _ _ _ _ _ _ _ _ _ _ h7) ob)))))))))))))))))))))) (by kernel_rfl)
      · rw [if_neg h5] at h
        replace h5 := Bool.eq_false_iff.2 h5
        obtain ⟨a33, rfl⟩ : ∃ z_, z_ = r := ⟨_, rfl⟩
        have h8 := h
        exact run_path Tryd.func32 (ob_b h1 (ob_b h1 (ob_b h1 (ob_b h1 (ob_b h1 (ob_c (ht.slices_Equal_string _ _ _ h2) (ob_b h1 (ob_b h3 (ob_b h3 (ob_b h3 (ob_b h3 (ob_b h3 (ob_c (ht.slices_Equal_int _ _ _ h4) (ob_b h3 (ob_b h5 (ob_b h5 (ob_b h5 (ob_b h5 (ob_b h5 (ob_b h5 (ob_j (plan_Same_1_j1.ok ht n _ _ _ _ _ _ _ _ _ _ _ _ _ _ _ _ _ _ _ _ _ _ _ _ _ _ _ _ _ _ h8) ob))))))))))))))))))))) (by kernel_rfl)
    · rw [if_neg h3] at h
      replace h3 := Bool.eq_false_iff.2 h3
      obtain ⟨a34, rfl⟩ : ∃ z_, z_ = r := ⟨_, rfl⟩
      have h9 := h
      exact run_path Tryd.func32 (ob_b h1 (ob_b h1 (ob_b h1 (ob_b h1 (ob_b h1 (ob_c (ht.slices_Equal_string _ _ _ h2) (ob_b h1 (ob_b h3 (ob_b h3 (ob_b h3 (ob_b h3 (ob_b h3 (ob_b h3 (ob_b (rfl : false = false) (ob_b (rfl : false = false) (ob_b (rfl : false = false) (ob_b (rfl : false = false) (ob_b (rfl : false = false) (ob_b (rfl : false = false) (ob_j (plan_Same_1_j1.ok ht n _ _ _ _ _ _ _ _ _ _ _ _ _ _ _ _ _ _ _ _ _ _ _ _ _ _ _ _ _ _ h9) ob)))))))))))))))))))) (by kernel_rfl)
  · rw [if_neg h1] at h
    replace h1 := Bool.eq_false_iff.2 h1
    obtain ⟨a35, rfl⟩ : ∃ z_, z_ = r := ⟨_, rfl⟩
    have h10 := h
    exact run_path Tryd.func32 (ob_b h1 (ob_b h1 (ob_b h1 (ob_b h1 (ob_b h1 (ob_b h1 (ob_b (rfl : false = false) (ob_b (rfl : false = false) (ob_b (rfl : false = false) (ob_b (rfl : false = false) (ob_b (rfl : false = false) (ob_b (rfl : false = false) (ob_b (rfl : false = false) (ob_b (rfl : false = false) (ob_b (rfl : false = false) (ob_b (rfl : false = false) (ob_b (rfl : false = false) (ob_b (rfl : false = false) (ob_j (plan_Same_1_j1.ok ht n _ _ _ _ _ _ _ _ _ _ _ _ _ _ _ _ _ _ _ _ _ _ _ _ _ _ _ _ _ _ h10) ob))))))))))))))))))) (by kernel_rfl)
theorem ref02_Many_j2.ok {t : Tab} {call : FuncId → List AV → List AV → Option (AV × List AV)} (ht : TabOk t call) (n : Nat) (a1 : List GValue) (a2 : Int) (a3 : Int) (a4 : Int) (r : (List GValue) × Int × Int × Int) (h : ref02_Many_j2 t n a1 a2 a3 a4 = some r) : exec (env Tryd.prog 54 Tryd.f54 call) n (sub [1, 1, 0, 1, 0, 0, 1] (bodyOf Tryd.f54)) (mkSt 29 29 [(0, (.t (.sl false 5 (GValue.ts a1)))), (1, (.t (.v (.int .i64 a2)))), (5, (.t (.v (.int .i64 a3)))), (6, (.t (.v (.int .i64 a4))))] []) = some (ref02_Many_j2.to r) := by
  rw [ref02_Many_j2] at h
  by_cases h1 : (decide (0 ≤ (a4 : Int))) = true
  case neg => rw [if_neg h1] at h; cases h
  rw [if_pos h1] at h
  rcases h2 : a1[(a4 : Int).toNat]? with _ | ⟨a5, a6, a7, a8, a9⟩
  · rw [h2] at h; cases h
  rw [h2] at h
  dsimp only at h
  rcases h3 : t.ref02_Count (GValue.mk a5 a6 a7 a8 a9) (IntKind.wrap .i64 (a2 - a3)) with _ | a10
  · rw [h3] at h; cases h
  rw [h3] at h
  dsimp only at h
  rw [← Option.some.inj h]
  exact path (ob_n h1 (ob_t (look_ts GValue.ts_map h2) (ob_c (ht.ref02_Count _ _ _ h3) ob))) (by kernel_rfl)
theorem ref02_Many_l1.okL {t : Tab} {call : FuncId → List AV → List AV → Option (AV × List AV)} (ht : TabOk t call) (n : Nat) : ∀ (k : Nat) (a1 : List GValue) (a2 : Int) (a3 : Int) (a4 : Int) (r : (List GValue) × Int × Int × Int × Bool), ref02_Many_l1 t n k a1 a2 a3 a4 = some r → loopN (exec (env Tryd.prog 54 Tryd.f54 call) n (sub [1, 1, 0, 1, 0, 0] (bodyOf Tryd.f54))) k (mkSt 29 29 [(0, (.t (.sl false 5 (GValue.ts a1)))), (1, (.t (.v (.int .i64 a2)))), (5, (.t (.v (.int .i64 a3)))), (6, (.t (.v (.int .i64 a4))))] []) = some (ref02_Many_l1.to r)
  | 0, a1, a2, a3, a4, r, h => by rw [ref02_Many_l1] at h; cases h
  | k + 1, a1, a2, a3, a4, r, h => by
    rw [ref02_Many_l1] at h
    by_cases h1 : (decide (a4 < (a1.length : Int))) = true
    · rw [if_pos h1] at h
      by_cases h2 : (decide (a3 < a2)) = true
      · rw [if_pos h2] at h
        rcases h3 : ref02_Many_j2 t n  a1 a2 a3 a4 with _ | q_
        · rw [h3] at h; cases h
        rw [h3] at h
        obtain ⟨a5, a6, a7, a8⟩ := q_
        dsimp only at h
        exact loop_more (path (ob_v (len_ts GValue.ts_map (l := a1)) (ob_b h1 (ob_b h1 (ob_b h1 (ob_b h1 (ob_b h2 (ob_j (ref02_Many_j2.ok ht n _ _ _ _ _ h3) ob))))))) (by kernel_rfl)) (ref02_Many_l1.okL ht n k _ _ _ _ _ h)
      · rw [if_neg h2] at h
        replace h2 := Bool.eq_false_iff.2 h2
        rw [← Option.some.inj h]
        exact loop_out (path (ob_v (len_ts GValue.ts_map (l := a1)) (ob_b h1 (ob_b h1 (ob_b h1 (ob_b h1 (ob_b h2 ob)))))) (by kernel_rfl)) (fun h => by cases h)
    · rw [if_neg h1] at h
      replace h1 := Bool.eq_false_iff.2 h1
      rw [← Option.some.inj h]
      exact loop_out (path (ob_v (len_ts GValue.ts_map (l := a1)) (ob_b h1 (ob_b h1 (ob_b h1 (ob_b h1 (ob_b (rfl : false = false) ob)))))) (by kernel_rfl)) (fun h => by cases h)
theorem ref02_Many_l1.ok {t : Tab} {call : FuncId → List AV → List AV → Option (AV × List AV)} (ht : TabOk t call) (n : Nat) (a1 : List GValue) (a2 : Int) (a3 : Int) (a4 : Int) (r : (List GValue) × Int × Int × Int × Bool) (h : ref02_Many_l1 t n n a1 a2 a3 a4 = some r) : exec (env Tryd.prog 54 Tryd.f54 call) n (sub [1, 1, 0, 1, 0] (bodyOf Tryd.f54)) (mkSt 29 29 [(0, (.t (.sl false 5 (GValue.ts a1)))), (1, (.t (.v (.int .i64 a2)))), (5, (.t (.v (.int .i64 a3)))), (6, (.t (.v (.int .i64 a4))))] []) = some (ref02_Many_l1.to r) := by
  have e1 : sub [1, 1, 0, 1, 0] (bodyOf Tryd.f54) = .loop (sub [1, 1, 0, 1, 0, 0] (bodyOf Tryd.f54)) := by kernel_rfl
  rw [e1, exec]
  exact ref02_Many_l1.okL ht n n a1 a2 a3 a4 r h
theorem ref02_Many.ok {n : Nat} {t : Tab} (ht : TabOk t (run Tryd.prog own kp X n)) : ∀ (p1 : List GValue) (p2 : Int) r, ref02_Many t n p1 p2 = some r → run Tryd.prog own kp X (n + 1) 54 [(.t (.sl false 5 (GValue.ts p1))), (.t (.v (.int .i64 p2)))] [] = some ((.t (.v (.int .i64 r))), []) := by
  intro p1 p2 r h
  obtain ⟨a1, rfl⟩ : ∃ z_, z_ = p1 := ⟨_, rfl⟩
  obtain ⟨a2, rfl⟩ : ∃ z_, z_ = p2 := ⟨_, rfl⟩
  rw [ref02_Many] at h
  rcases h1 : ref02_Many_l1 t n n a1 a2 0 0 with _ | q_
  · rw [h1] at h; cases h
  rw [h1] at h
  obtain ⟨a3, a4, a5, a6, a7⟩ := q_
  dsimp only at h
  rw [← Option.some.inj h]
  exact run_path Tryd.func54 (ob_k (ref02_Many_l1.ok ht n _ _ _ _ _ h1) ob) (by kernel_rfl)
theorem slices_IndexFunc_plan_some_1_l1.okL {t : Tab} {call : FuncId → List AV → List AV → Option (AV × List AV)} (ht : TabOk t call) (n : Nat) : ∀ (k : Nat) (a1 : List GStep) (a2 : List Int) (a3 : Int) (a4 : Int) (r : Int ⊕ ((List GStep) × (List Int) × Int × Int × Bool)), slices_IndexFunc_plan_some_1_l1 t n k a1 a2 a3 a4 = some r → loopN (exec (env Tryd.prog 60 Tryd.f60 call) n (sub [1, 0, 1, 0, 0] (bodyOf Tryd.f60))) k (mkSt 19 19 [(0, (.t (.sl false 14 (GStep.ts a1)))), (1, (.fn 44 [(.fref 22 [(.ref (.sl false 1 (ints_i64 a2)))])])), (7, (.t (.v (.int .i64 a3)))), (8, (.t (.v (.int .i64 a4))))] []) = some (slices_IndexFunc_plan_some_1_l1.to r)
  | 0, a1, a2, a3, a4, r, h => by rw [slices_IndexFunc_plan_some_1_l1] at h; cases h
  | k + 1, a1, a2, a3, a4, r, h => by
    rw [slices_IndexFunc_plan_some_1_l1] at h
    by_cases h1 : (decide (a4 < a3)) = true
    · rw [if_pos h1] at h
      by_cases h2 : (decide (0 ≤ (a4 : Int))) = true
      case neg => rw [if_neg h2] at h; cases h
      rw [if_pos h2] at h
      rcases h3 : a1[(a4 : Int).toNat]? with _ | ⟨a5, a6, a7, ⟨a8, a9, a10, a11, a12⟩, ⟨a13, a14, a15⟩, a16, a17, a18⟩
      · rw [h3] at h; cases h
      rw [h3] at h
      dsimp only at h
      rcases h4 : t.plan_some_1_plan_Uses_1 (GStep.mk a5 a6 a7 (GValue.mk a8 a9 a10 a11 a12) (GPred.mk a13 a14 a15) a16 a17 a18) a2 with _ | a19
      · rw [h4] at h; cases h
      rw [h4] at h
      dsimp only at h
      by_cases h5 : a19 = true
      · rw [if_pos h5] at h
        rw [← Option.some.inj h]
        exact loop_out (path (ob_b h1 (ob_n h2 (ob_t (look_ts GStep.ts_map h3) (ob_c (ht.plan_some_1_plan_Uses_1 _ _ _ h4) (ob_b h5 ob))))) (by kernel_rfl)) (fun h => by cases h)
      · rw [if_neg h5] at h
        replace h5 := Bool.eq_false_iff.2 h5
        exact loop_more (path (ob_b h1 (ob_n h2 (ob_t (look_ts GStep.ts_map h3) (ob_c (ht.plan_some_1_plan_Uses_1 _ _ _ h4) (ob_b h5 ob))))) (by kernel_rfl)) (slices_IndexFunc_plan_some_1_l1.okL ht n k _ _ _ _ _ h)
    · rw [if_neg h1] at h
      replace h1 := Bool.eq_false_iff.2 h1
      rw [← Option.some.inj h]
      exact loop_out (path (ob_b h1 ob) (by kernel_rfl)) (fun h => by cases h)
theorem slices_IndexFunc_plan_some_1_l1.ok {t : Tab} {call : FuncId → List AV → List AV → Option (AV × List AV)} (ht : TabOk t call) (n : Nat) (a1 : List GStep) (a2 : List Int) (a3 : Int) (a4 : Int) (r : Int ⊕ ((List GStep) × (List Int) × Int × Int × Bool)) (h : slices_IndexFunc_plan_some_1_l1 t n n a1 a2 a3 a4 = some r) : exec (env Tryd.prog 60 Tryd.f60 call) n (sub [1, 0, 1, 0] (bodyOf Tryd.f60)) (mkSt 19 19 [(0, (.t (.sl false 14 (GStep.ts a1)))), (1, (.fn 44 [(.fref 22 [(.ref (.sl false 1 (ints_i64 a2)))])])), (7, (.t (.v (.int .i64 a3)))), (8, (.t (.v (.int .i64 a4))))] []) = some (slices_IndexFunc_plan_some_1_l1.to r) := by
  have e1 : sub [1, 0, 1, 0] (bodyOf Tryd.f60) = .loop (sub [1, 0, 1, 0, 0] (bodyOf Tryd.f60)) := by kernel_rfl
  rw [e1, exec]
  exact slices_IndexFunc_plan_some_1_l1.okL ht n n a1 a2 a3 a4 r h
theorem slices_IndexFunc_plan_some_1.ok {n : Nat} {t : Tab} (ht : TabOk t (run Tryd.prog own kp X n)) : ∀ (p1 : List GStep) (p2 : List Int) r, slices_IndexFunc_plan_some_1 t n p1 p2 = some r → run Tryd.prog own kp X (n + 1) 60 [(.t (.sl false 14 (GStep.ts p1))), (.fn 44 [(.fref 22 [(.ref (.sl false 1 (ints_i64 p2)))])])] [] = some ((.t (.v (.int .i64 r))), []) := by
  intro p1 p2 r h
  obtain ⟨a1, rfl⟩ : ∃ z_, z_ = p1 := ⟨_, rfl⟩
  obtain ⟨a2, rfl⟩ : ∃ z_, z_ = p2 := ⟨_, rfl⟩
  rw [slices_IndexFunc_plan_some_1] at h
  rcases h1 : slices_IndexFunc_plan_some_1_l1 t n n a1 a2 (a1.length : Int) 0 with _ | q_
  · rw [h1] at h; cases h
  rw [h1] at h
  rcases q_ with a3 | ⟨a4, a5, a6, a7, a8⟩
  · dsimp only at h
    rw [← Option.some.inj h]
    exact run_path Tryd.func60 (ob_v (len_ts GStep.ts_map (l := a1)) (ob_k (slices_IndexFunc_plan_some_1_l1.ok ht n _ _ _ _ _ h1) ob)) (by kernel_rfl)
  · dsimp only at h
    rw [← Option.some.inj h]
    exact run_path Tryd.func60 (ob_v (len_ts GStep.ts_map (l := a1)) (ob_k (slices_IndexFunc_plan_some_1_l1.ok ht n _ _ _ _ _ h1) ob)) (by kernel_rfl)
theorem slices_IndexFunc_plan_right_1_l1.okL {t : Tab} {call : FuncId → List AV → List AV → Option (AV × List AV)} (ht : TabOk t call) (n : Nat) : ∀ (k : Nat) (a1 : List GStep) (a2 : Int) (a3 : Int) (a4 : Int) (r : Int ⊕ ((List GStep) × Int × Int × Int × Bool)), slices_IndexFunc_plan_right_1_l1 t n k a1 a2 a3 a4 = some r → loopN (exec (env Tryd.prog 60 Tryd.f60 call) n (sub [1, 0, 1, 0, 0] (bodyOf Tryd.f60))) k (mkSt 19 19 [(0, (.t (.sl false 14 (GStep.ts a1)))), (1, (.fn 49 [(.ref (.v (.int .i64 a2)))])), (7, (.t (.v (.int .i64 a3)))), (8, (.t (.v (.int .i64 a4))))] []) = some (slices_IndexFunc_plan_right_1_l1.to r)
  | 0, a1, a2, a3, a4, r, h => by rw [slices_IndexFunc_plan_right_1_l1] at h; cases h
  | k + 1, a1, a2, a3, a4, r, h => by
    rw [slices_IndexFunc_plan_right_1_l1] at h
    by_cases h1 : (decide (a4 < a3)) = true
    · rw [if_pos h1] at h
      by_cases h2 : (decide (0 ≤ (a4 : Int))) = true
      case neg => rw [if_neg h2] at h; cases h
      rw [if_pos h2] at h
      rcases h3 : a1[(a4 : Int).toNat]? with _ | ⟨a5, a6, a7, ⟨a8, a9, a10, a11, a12⟩, ⟨a13, a14, a15⟩, a16, a17, a18⟩
      · rw [h3] at h; cases h
      rw [h3] at h
      dsimp only at h
      rcases h4 : t.plan_right_1 (GStep.mk a5 a6 a7 (GValue.mk a8 a9 a10 a11 a12) (GPred.mk a13 a14 a15) a16 a17 a18) a2 with _ | a19
      · rw [h4] at h; cases h
      rw [h4] at h
      dsimp only at h
      by_cases h5 : a19 = true
      · rw [if_pos h5] at h
        rw [← Option.some.inj h]
        exact loop_out (path (ob_b h1 (ob_n h2 (ob_t (look_ts GStep.ts_map h3) (ob_c (ht.plan_right_1 _ _ _ h4) (ob_b h5 ob))))) (by kernel_rfl)) (fun h => by cases h)
      · rw [if_neg h5] at h
        replace h5 := Bool.eq_false_iff.2 h5
        exact loop_more (path (ob_b h1 (ob_n h2 (ob_t (look_ts GStep.ts_map h3) (ob_c (ht.plan_right_1 _ _ _ h4) (ob_b h5 ob))))) (by kernel_rfl)) (slices_IndexFunc_plan_right_1_l1.okL ht n k _ _ _ _ _ h)
    · rw [if_neg h1] at h
      replace h1 := Bool.eq_false_iff.2 h1
      rw [← Option.some.inj h]
      exact loop_out (path (ob_b h1 ob) (by kernel_rfl)) (fun h => by cases h)
theorem slices_IndexFunc_plan_right_1_l1.ok {t : Tab} {call : FuncId → List AV → List AV → Option (AV × List AV)} (ht : TabOk t call) (n : Nat) (a1 : List GStep) (a2 : Int) (a3 : Int) (a4 : Int) (r : Int ⊕ ((List GStep) × Int × Int × Int × Bool)) (h : slices_IndexFunc_plan_right_1_l1 t n n a1 a2 a3 a4 = some r) : exec (env Tryd.prog 60 Tryd.f60 call) n (sub [1, 0, 1, 0] (bodyOf Tryd.f60)) (mkSt 19 19 [(0, (.t (.sl false 14 (GStep.ts a1)))), (1, (.fn 49 [(.ref (.v (.int .i64 a2)))])), (7, (.t (.v (.int .i64 a3)))), (8, (.t (.v (.int .i64 a4))))] []) = some (slices_IndexFunc_plan_right_1_l1.to r) := by
  have e1 : sub [1, 0, 1, 0] (bodyOf Tryd.f60) = .loop (sub [1, 0, 1, 0, 0] (bodyOf Tryd.f60)) := by kernel_rfl
  rw [e1, exec]
  exact slices_IndexFunc_plan_right_1_l1.okL ht n n a1 a2 a3 a4 r h
theorem slices_IndexFunc_plan_right_1.ok {n : Nat} {t : Tab} (ht : TabOk t (run Tryd.prog own kp X n)) : ∀ (p1 : List GStep) (p2 : Int) r, slices_IndexFunc_plan_right_1 t n p1 p2 = some r → run Tryd.prog own kp X (n + 1) 60 [(.t (.sl false 14 (GStep.ts p1))), (.fn 49 [(.ref (.v (.int .i64 p2)))])] [] = some ((.t (.v (.int .i64 r))), []) := by
  intro p1 p2 r h
  obtain ⟨a1, rfl⟩ : ∃ z_, z_ = p1 := ⟨_, rfl⟩
  obtain ⟨a2, rfl⟩ : ∃ z_, z_ = p2 := ⟨_, rfl⟩
  rw [slices_IndexFunc_plan_right_1] at h
  rcases h1 : slices_IndexFunc_plan_right_1_l1 t n n a1 a2 (a1.length : Int) 0 with _ | q_
  · rw [h1] at h; cases h
  rw [h1] at h
  rcases q_ with a3 | ⟨a4, a5, a6, a7, a8⟩
  · dsimp only at h
    rw [← Option.some.inj h]
    exact run_path Tryd.func60 (ob_v (len_ts GStep.ts_map (l := a1)) (ob_k (slices_IndexFunc_plan_right_1_l1.ok ht n _ _ _ _ _ h1) ob)) (by kernel_rfl)
  · dsimp only at h
    rw [← Option.some.inj h]
    exact run_path Tryd.func60 (ob_v (len_ts GStep.ts_map (l := a1)) (ob_k (slices_IndexFunc_plan_right_1_l1.ok ht n _ _ _ _ _ h1) ob)) (by kernel_rfl)
theorem slices_IndexFunc_plan_some_1_i2_l1.okL {t : Tab} {call : FuncId → List AV → List AV → Option (AV × List AV)} (ht : TabOk t call) (n : Nat) : ∀ (k : Nat) (a1 : List GStep) (a2 : Int) (a3 : Int) (r : Int ⊕ ((List GStep) × Int × Int × Bool)), slices_IndexFunc_plan_some_1_i2_l1 t n k a1 a2 a3 = some r → loopN (exec (env Tryd.prog 60 Tryd.f60 call) n (sub [1, 0, 1, 0, 0] (bodyOf Tryd.f60))) k (mkSt 19 19 [(0, (.t (.sl false 14 (GStep.ts a1)))), (1, (.fn 44 [(.fref 28 [])])), (7, (.t (.v (.int .i64 a2)))), (8, (.t (.v (.int .i64 a3))))] []) = some (slices_IndexFunc_plan_some_1_i2_l1.to r)
  | 0, a1, a2, a3, r, h => by rw [slices_IndexFunc_plan_some_1_i2_l1] at h; cases h
  | k + 1, a1, a2, a3, r, h => by
    rw [slices_IndexFunc_plan_some_1_i2_l1] at h
    by_cases h1 : (decide (a3 < a2)) = true
    · rw [if_pos h1] at h
      by_cases h2 : (decide (0 ≤ (a3 : Int))) = true
      case neg => rw [if_neg h2] at h; cases h
      rw [if_pos h2] at h
      rcases h3 : a1[(a3 : Int).toNat]? with _ | ⟨a4, a5, a6, ⟨a7, a8, a9, a10, a11⟩, ⟨a12, a13, a14⟩, a15, a16, a17⟩
      · rw [h3] at h; cases h
      rw [h3] at h
      dsimp only at h
      rcases h4 : t.plan_some_1_plan_Free_1 (GStep.mk a4 a5 a6 (GValue.mk a7 a8 a9 a10 a11) (GPred.mk a12 a13 a14) a15 a16 a17) with _ | a18
      · rw [h4] at h; cases h
      rw [h4] at h
      dsimp only at h
      by_cases h5 : a18 = true
      · rw [if_pos h5] at h
        rw [← Option.some.inj h]
        exact loop_out (path (ob_b h1 (ob_n h2 (ob_t (look_ts GStep.ts_map h3) (ob_c (ht.plan_some_1_plan_Free_1 _ _ h4) (ob_b h5 ob))))) (by kernel_rfl)) (fun h => by cases h)
      · rw [if_neg h5] at h
        replace h5 := Bool.eq_false_iff.2 h5
        exact loop_more (path (ob_b h1 (ob_n h2 (ob_t (look_ts GStep.ts_map h3) (ob_c (ht.plan_some_1_plan_Free_1 _ _ h4) (ob_b h5 ob))))) (by kernel_rfl)) (slices_IndexFunc_plan_some_1_i2_l1.okL ht n k _ _ _ _ h)
    · rw [if_neg h1] at h
      replace h1 := Bool.eq_false_iff.2 h1
      rw [← Option.some.inj h]
      exact loop_out (path (ob_b h1 ob) (by kernel_rfl)) (fun h => by cases h)
theorem slices_IndexFunc_plan_some_1_i2_l1.ok {t : Tab} {call : FuncId → List AV → List AV → Option (AV × List AV)} (ht : TabOk t call) (n : Nat) (a1 : List GStep) (a2 : Int) (a3 : Int) (r : Int ⊕ ((List GStep) × Int × Int × Bool)) (h : slices_IndexFunc_plan_some_1_i2_l1 t n n a1 a2 a3 = some r) : exec (env Tryd.prog 60 Tryd.f60 call) n (sub [1, 0, 1, 0] (bodyOf Tryd.f60)) (mkSt 19 19 [(0, (.t (.sl false 14 (GStep.ts a1)))), (1, (.fn 44 [(.fref 28 [])])), (7, (.t (.v (.int .i64 a2)))), (8, (.t (.v (.int .i64 a3))))] []) = some (slices_IndexFunc_plan_some_1_i2_l1.to r) := by
  have e1 : sub [1, 0, 1, 0] (bodyOf Tryd.f60) = .loop (sub [1, 0, 1, 0, 0] (bodyOf Tryd.f60)) := by kernel_rfl
  rw [e1, exec]
  exact slices_IndexFunc_plan_some_1_i2_l1.okL ht n n a1 a2 a3 r h
theorem slices_IndexFunc_plan_some_1_i2.ok {n : Nat} {t : Tab} (ht : TabOk t (run Tryd.prog own kp X n)) : ∀ (p1 : List GStep) r, slices_IndexFunc_plan_some_1_i2 t n p1 = some r → run Tryd.prog own kp X (n + 1) 60 [(.t (.sl false 14 (GStep.ts p1))), (.fn 44 [(.fref 28 [])])] [] = some ((.t (.v (.int .i64 r))), []) := by
  intro p1 r h
  obtain ⟨a1, rfl⟩ : ∃ z_, z_ = p1 := ⟨_, rfl⟩
  rw [slices_IndexFunc_plan_some_1_i2] at h
  rcases h1 : slices_IndexFunc_plan_some_1_i2_l1 t n n a1 (a1.length : Int) 0 with _ | q_
  · rw [h1] at h; cases h
  rw [h1] at h
  rcases q_ with a2 | ⟨a3, a4, a5, a6⟩
  · dsimp only at h
    rw [← Option.some.inj h]
    exact run_path Tryd.func60 (ob_v (len_ts GStep.ts_map (l := a1)) (ob_k (slices_IndexFunc_plan_some_1_i2_l1.ok ht n _ _ _ _ h1) ob)) (by kernel_rfl)
  · dsimp only at h
    rw [← Option.some.inj h]
    exact run_path Tryd.func60 (ob_v (len_ts GStep.ts_map (l := a1)) (ob_k (slices_IndexFunc_plan_some_1_i2_l1.ok ht n _ _ _ _ h1) ob)) (by kernel_rfl)
theorem slices_Equal_string_l1.okL {t : Tab} {call : FuncId → List AV → List AV → Option (AV × List AV)} (ht : TabOk t call) (n : Nat) : ∀ (k : Nat) (a1 : List ByteArray) (a2 : List ByteArray) (a3 : Int) (a4 : Int) (r : Bool ⊕ ((List ByteArray) × (List ByteArray) × Int × Int × Bool)), slices_Equal_string_l1 t n k a1 a2 a3 a4 = some r → loopN (exec (env Tryd.prog 33 Tryd.f33 call) n (sub [1, 1, 0, 1, 0, 0] (bodyOf Tryd.f33))) k (mkSt 26 26 [(0, (.t (.sl false 1 (texts a1)))), (1, (.t (.sl false 1 (texts a2)))), (12, (.t (.v (.int .i64 a3)))), (13, (.t (.v (.int .i64 a4))))] []) = some (slices_Equal_string_l1.to r)
  | 0, a1, a2, a3, a4, r, h => by rw [slices_Equal_string_l1] at h; cases h
  | k + 1, a1, a2, a3, a4, r, h => by
    rw [slices_Equal_string_l1] at h
    by_cases h1 : (decide (a4 < a3)) = true
    · rw [if_pos h1] at h
      by_cases h2 : (decide (0 ≤ (a4 : Int))) = true
      case neg => rw [if_neg h2] at h; cases h
      rw [if_pos h2] at h
      rcases h3 : a1[(a4 : Int).toNat]? with _ | a5
      · rw [h3] at h; cases h
      rw [h3] at h
      dsimp only at h
      rcases h4 : a2[(a4 : Int).toNat]? with _ | a6
      · rw [h4] at h; cases h
      rw [h4] at h
      dsimp only at h
      by_cases h5 : (a5.toList == a6.toList) = true
      · rw [if_pos h5] at h
        exact loop_more (path (ob_b h1 (ob_n h2 (ob_t (look_ts texts_map h3) (ob_n h2 (ob_t (look_ts texts_map h4) (ob_b (congrArg (!·) h5) ob)))))) (by kernel_rfl)) (slices_Equal_string_l1.okL ht n k _ _ _ _ _ h)
      · rw [if_neg h5] at h
        replace h5 := Bool.eq_false_iff.2 h5
        rw [← Option.some.inj h]
        exact loop_out (path (ob_b h1 (ob_n h2 (ob_t (look_ts texts_map h3) (ob_n h2 (ob_t (look_ts texts_map h4) (ob_b (congrArg (!·) h5) ob)))))) (by kernel_rfl)) (fun h => by cases h)
    · rw [if_neg h1] at h
      replace h1 := Bool.eq_false_iff.2 h1
      rw [← Option.some.inj h]
      exact loop_out (path (ob_b h1 ob) (by kernel_rfl)) (fun h => by cases h)
theorem slices_Equal_string_l1.ok {t : Tab} {call : FuncId → List AV → List AV → Option (AV × List AV)} (ht : TabOk t call) (n : Nat) (a1 : List ByteArray) (a2 : List ByteArray) (a3 : Int) (a4 : Int) (r : Bool ⊕ ((List ByteArray) × (List ByteArray) × Int × Int × Bool)) (h : slices_Equal_string_l1 t n n a1 a2 a3 a4 = some r) : exec (env Tryd.prog 33 Tryd.f33 call) n (sub [1, 1, 0, 1, 0] (bodyOf Tryd.f33)) (mkSt 26 26 [(0, (.t (.sl false 1 (texts a1)))), (1, (.t (.sl false 1 (texts a2)))), (12, (.t (.v (.int .i64 a3)))), (13, (.t (.v (.int .i64 a4))))] []) = some (slices_Equal_string_l1.to r) := by
  have e1 : sub [1, 1, 0, 1, 0] (bodyOf Tryd.f33) = .loop (sub [1, 1, 0, 1, 0, 0] (bodyOf Tryd.f33)) := by kernel_rfl
  rw [e1, exec]
  exact slices_Equal_string_l1.okL ht n n a1 a2 a3 a4 r h
theorem slices_Equal_string.ok {n : Nat} {t : Tab} (ht : TabOk t (run Tryd.prog own kp X n)) : ∀ (p1 : List ByteArray) (p2 : List ByteArray) r, slices_Equal_string t n p1 p2 = some r → run Tryd.prog own kp X (n + 1) 33 [(.t (.sl false 1 (texts p1))), (.t (.sl false 1 (texts p2)))] [] = some ((.t (.v (.bool r))), []) := by
  intro p1 p2 r h
  obtain ⟨a1, rfl⟩ : ∃ z_, z_ = p1 := ⟨_, rfl⟩
  obtain ⟨a2, rfl⟩ : ∃ z_, z_ = p2 := ⟨_, rfl⟩
  rw [slices_Equal_string] at h
  by_cases h1 : ((a1.length : Int) != (a2.length : Int)) = true
  · rw [if_pos h1] at h
    rw [← Option.some.inj h]
    exact run_path Tryd.func33 (ob_v (len_ts texts_map (l := a1)) (ob_v (len_ts texts_map (l := a2)) (ob_b h1 ob))) (by kernel_rfl)
  · rw [if_neg h1] at h
    replace h1 := Bool.eq_false_iff.2 h1
    rcases h2 : slices_Equal_string_l1 t n n a1 a2 (a1.length : Int) 0 with _ | q_
    · rw [h2] at h; cases h
    rw [h2] at h
    rcases q_ with a3 | ⟨a4, a5, a6, a7, a8⟩
    · dsimp only at h
      rw [← Option.some.inj h]
      exact run_path Tryd.func33 (ob_v (len_ts texts_map (l := a1)) (ob_v (len_ts texts_map (l := a2)) (ob_b h1 (ob_v (len_ts texts_map (l := a1)) (ob_k (slices_Equal_string_l1.ok ht n _ _ _ _ _ h2) ob))))) (by kernel_rfl)
    · dsimp only at h
      rw [← Option.some.inj h]
      exact run_path Tryd.func33 (ob_v (len_ts texts_map (l := a1)) (ob_v (len_ts texts_map (l := a2)) (ob_b h1 (ob_v (len_ts texts_map (l := a1)) (ob_k (slices_Equal_string_l1.ok ht n _ _ _ _ _ h2) ob))))) (by kernel_rfl)
theorem slices_Equal_int_l1.okL {t : Tab} {call : FuncId → List AV → List AV → Option (AV × List AV)} (ht : TabOk t call) (n : Nat) : ∀ (k : Nat) (a1 : List Int) (a2 : List Int) (a3 : Int) (a4 : Int) (r : Bool ⊕ ((List Int) × (List Int) × Int × Int × Bool)), slices_Equal_int_l1 t n k a1 a2 a3 a4 = some r → loopN (exec (env Tryd.prog 34 Tryd.f34 call) n (sub [1, 1, 0, 1, 0, 0] (bodyOf Tryd.f34))) k (mkSt 26 26 [(0, (.t (.sl false 1 (ints_i64 a1)))), (1, (.t (.sl false 1 (ints_i64 a2)))), (12, (.t (.v (.int .i64 a3)))), (13, (.t (.v (.int .i64 a4))))] []) = some (slices_Equal_int_l1.to r)
  | 0, a1, a2, a3, a4, r, h => by rw [slices_Equal_int_l1] at h; cases h
  | k + 1, a1, a2, a3, a4, r, h => by
    rw [slices_Equal_int_l1] at h
    by_cases h1 : (decide (a4 < a3)) = true
    · rw [if_pos h1] at h
      by_cases h2 : (decide (0 ≤ (a4 : Int))) = true
      case neg => rw [if_neg h2] at h; cases h
      rw [if_pos h2] at h
      rcases h3 : a1[(a4 : Int).toNat]? with _ | a5
      · rw [h3] at h; cases h
      rw [h3] at h
      dsimp only at h
      rcases h4 : a2[(a4 : Int).toNat]? with _ | a6
      · rw [h4] at h; cases h
      rw [h4] at h
      dsimp only at h
      by_cases h5 : (a5 != a6) = true
      · rw [if_pos h5] at h
        rw [← Option.some.inj h]
        exact loop_out (path (ob_b h1 (ob_n h2 (ob_t (look_ts ints_i64_map h3) (ob_n h2 (ob_t (look_ts ints_i64_map h4) (ob_b h5 ob)))))) (by kernel_rfl)) (fun h => by cases h)
      · rw [if_neg h5] at h
        replace h5 := Bool.eq_false_iff.2 h5
        exact loop_more (path (ob_b h1 (ob_n h2 (ob_t (look_ts ints_i64_map h3) (ob_n h2 (ob_t (look_ts ints_i64_map h4) (ob_b h5 ob)))))) (by kernel_rfl)) (slices_Equal_int_l1.okL ht n k _ _ _ _ _ h)
    · rw [if_neg h1] at h
      replace h1 := Bool.eq_false_iff.2 h1
      rw [← Option.some.inj h]
      exact loop_out (path (ob_b h1 ob) (by kernel_rfl)) (fun h => by cases h)
theorem slices_Equal_int_l1.ok {t : Tab} {call : FuncId → List AV → List AV → Option (AV × List AV)} (ht : TabOk t call) (n : Nat) (a1 : List Int) (a2 : List Int) (a3 : Int) (a4 : Int) (r : Bool ⊕ ((List Int) × (List Int) × Int × Int × Bool)) (h : slices_Equal_int_l1 t n n a1 a2 a3 a4 = some r) : exec (env Tryd.prog 34 Tryd.f34 call) n (sub [1, 1, 0, 1, 0] (bodyOf Tryd.f34)) (mkSt 26 26 [(0, (.t (.sl false 1 (ints_i64 a1)))), (1, (.t (.sl false 1 (ints_i64 a2)))), (12, (.t (.v (.int .i64 a3)))), (13, (.t (.v (.int .i64 a4))))] []) = some (slices_Equal_int_l1.to r) := by
  have e1 : sub [1, 1, 0, 1, 0] (bodyOf Tryd.f34) = .loop (sub [1, 1, 0, 1, 0, 0] (bodyOf Tryd.f34)) := by kernel_rfl
  rw [e1, exec]
  exact slices_Equal_int_l1.okL ht n n a1 a2 a3 a4 r h
theorem slices_Equal_int.ok {n : Nat} {t : Tab} (ht : TabOk t (run Tryd.prog own kp X n)) : ∀ (p1 : List Int) (p2 : List Int) r, slices_Equal_int t n p1 p2 = some r → run Tryd.prog own kp X (n + 1) 34 [(.t (.sl false 1 (ints_i64 p1))), (.t (.sl false 1 (ints_i64 p2)))] [] = some ((.t (.v (.bool r))), []) := by
  intro p1 p2 r h
  obtain ⟨a1, rfl⟩ : ∃ z_, z_ = p1 := ⟨_, rfl⟩
  obtain ⟨a2, rfl⟩ : ∃ z_, z_ = p2 := ⟨_, rfl⟩
  rw [slices_Equal_int] at h
  by_cases h1 : ((a1.length : Int) != (a2.length : Int)) = true
  · rw [if_pos h1] at h
    rw [← Option.some.inj h]
    exact run_path Tryd.func34 (ob_v (len_ts ints_i64_map (l := a1)) (ob_v (len_ts ints_i64_map (l := a2)) (ob_b h1 ob))) (by kernel_rfl)
  · rw [if_neg h1] at h
    replace h1 := Bool.eq_false_iff.2 h1
    rcases h2 : slices_Equal_int_l1 t n n a1 a2 (a1.length : Int) 0 with _ | q_
    · rw [h2] at h; cases h
    rw [h2] at h
    rcases q_ with a3 | ⟨a4, a5, a6, a7, a8⟩
    · dsimp only at h
      rw [← Option.some.inj h]
      exact run_path Tryd.func34 (ob_v (len_ts ints_i64_map (l := a1)) (ob_v (len_ts ints_i64_map (l := a2)) (ob_b h1 (ob_v (len_ts ints_i64_map (l := a1)) (ob_k (slices_Equal_int_l1.ok ht n _ _ _ _ _ h2) ob))))) (by kernel_rfl)
    · dsimp only at h
      rw [← Option.some.inj h]
      exact run_path Tryd.func34 (ob_v (len_ts ints_i64_map (l := a1)) (ob_v (len_ts ints_i64_map (l := a2)) (ob_b h1 (ob_v (len_ts ints_i64_map (l := a1)) (ob_k (slices_Equal_int_l1.ok ht n _ _ _ _ _ h2) ob))))) (by kernel_rfl)
theorem value_Same.ok {n : Nat} {t : Tab} (ht : TabOk t (run Tryd.prog own kp X n)) : ∀ (p1 : GValue) (p2 : GValue) r, value_Same t n p1 p2 = some r → run Tryd.prog own kp X (n + 1) 35 [(.t (GValue.t p1)), (.t (GValue.t p2))] [] = some ((.t (.v (.bool r))), []) := by
  intro p1 p2 r h
  obtain ⟨a1, a2, a3, a4, a5⟩ := p1
  obtain ⟨a6, a7, a8, a9, a10⟩ := p2
  rw [value_Same] at h
  rcases h1 : t.value_Cmp (GValue.mk a1 a2 a3 a4 a5) (GValue.mk a6 a7 a8 a9 a10) with _ | a11
  · rw [h1] at h; cases h
  rw [h1] at h
  dsimp only at h
  rw [← Option.some.inj h]
  exact run_path Tryd.func35 (ob_c (ht.value_Cmp _ _ _ h1) ob) (by kernel_rfl)
theorem plan_samePred.ok {n : Nat} {t : Tab} (ht : TabOk t (run Tryd.prog own kp X n)) : ∀ (p1 : GPred) (p2 : GPred) r, plan_samePred t n p1 p2 = some r → run Tryd.prog own kp X (n + 1) 36 [(.t (GPred.t p1)), (.t (GPred.t p2))] [] = some ((.t (.v (.bool r))), []) := by
  intro p1 p2 r h
  obtain ⟨a1, a2, a3⟩ := p1
  obtain ⟨a4, a5, a6⟩ := p2
  rw [plan_samePred] at h
  by_cases h1 : (a1 == a4) = true
  · rw [if_pos h1] at h
    rcases h2 : t.slices_EqualFunc_value_Same a2 a5 with _ | a7
    · rw [h2] at h; cases h
    rw [h2] at h
    dsimp only at h
    by_cases h3 : a7 = true
    · rw [if_pos h3] at h
      obtain ⟨a8, rfl⟩ : ∃ z_, z_ = r := ⟨_, rfl⟩
      have h4 := h
      exact run_path Tryd.func36 (ob_b h1 (ob_b h1 (ob_b h1 (ob_b h1 (ob_b h1 (ob_c (ht.slices_EqualFunc_value_Same _ _ _ h2) (ob_b h1 (ob_b h3 (ob_b h3 (ob_b h3 (ob_b h3 (ob_b h3 (ob_c (ht.slices_EqualFunc_plan_samePred _ _ _ h4) (ob_b h3 ob)))))))))))))) (by kernel_rfl)
    · rw [if_neg h3] at h
      replace h3 := Bool.eq_false_iff.2 h3
      rw [← Option.some.inj h]
      exact run_path Tryd.func36 (ob_b h1 (ob_b h1 (ob_b h1 (ob_b h1 (ob_b h1 (ob_c (ht.slices_EqualFunc_value_Same _ _ _ h2) (ob_b h1 (ob_b h3 (ob_b h3 (ob_b h3 (ob_b h3 (ob_b h3 (ob_b h3 ob))))))))))))) (by kernel_rfl)
  · rw [if_neg h1] at h
    replace h1 := Bool.eq_false_iff.2 h1
    rw [← Option.some.inj h]
    exact run_path Tryd.func36 (ob_b h1 (ob_b h1 (ob_b h1 (ob_b h1 (ob_b h1 (ob_b h1 (ob_b (rfl : false = false) (ob_b (rfl : false = false) (ob_b (rfl : false = false) (ob_b (rfl : false = false) (ob_b (rfl : false = false) (ob_b (rfl : false = false) ob)))))))))))) (by kernel_rfl)
theorem slices_EqualFunc_plan_Same_l1.okL {t : Tab} {call : FuncId → List AV → List AV → Option (AV × List AV)} (ht : TabOk t call) (n : Nat) : ∀ (k : Nat) (a1 : List (List GStep)) (a2 : List (List GStep)) (a3 : Int) (a4 : Int) (r : Bool ⊕ ((List (List GStep)) × (List (List GStep)) × Int × Int × Bool)), slices_EqualFunc_plan_Same_l1 t n k a1 a2 a3 a4 = some r → loopN (exec (env Tryd.prog 37 Tryd.f37 call) n (sub [1, 1, 0, 1, 0, 0] (bodyOf Tryd.f37))) k (mkSt 32 32 [(1, (.t (.sl false 1 (rows_GStep_ts a1)))), (2, (.fn 17 [])), (15, (.t (.sl false 1 (rows_GStep_ts a2)))), (16, (.t (.v (.int .i64 a3)))), (17, (.t (.v (.int .i64 a4))))] []) = some (slices_EqualFunc_plan_Same_l1.to r)
  | 0, a1, a2, a3, a4, r, h => by rw [slices_EqualFunc_plan_Same_l1] at h; cases h
  | k + 1, a1, a2, a3, a4, r, h => by
    rw [slices_EqualFunc_plan_Same_l1] at h
    by_cases h1 : (decide (a4 < a3)) = true
    · rw [if_pos h1] at h
      by_cases h2 : (decide (0 ≤ (a4 : Int))) = true
      case neg => rw [if_neg h2] at h; cases h
      rw [if_pos h2] at h
      rcases h3 : a2[(a4 : Int).toNat]? with _ | a5
      · rw [h3] at h; cases h
      rw [h3] at h
      dsimp only at h
      rcases h4 : a1[(a4 : Int).toNat]? with _ | a6
      · rw [h4] at h; cases h
      rw [h4] at h
      dsimp only at h
      rcases h5 : t.plan_Same a5 a6 with _ | a7
      · rw [h5] at h; cases h
      rw [h5] at h
      dsimp only at h
      by_cases h6 : a7 = true
      · rw [if_pos h6] at h
        exact loop_more (path (ob_b h1 (ob_n h2 (ob_t (look_ts rows_GStep_ts_map h3) (ob_n h2 (ob_t (look_ts rows_GStep_ts_map h4) (ob_c (ht.plan_Same _ _ _ h5) (ob_b (congrArg (!·) h6) ob))))))) (by kernel_rfl)) (slices_EqualFunc_plan_Same_l1.okL ht n k _ _ _ _ _ h)
      · rw [if_neg h6] at h
        replace h6 := Bool.eq_false_iff.2 h6
        rw [← Option.some.inj h]
        exact loop_out (path (ob_b h1 (ob_n h2 (ob_t (look_ts rows_GStep_ts_map h3) (ob_n h2 (ob_t (look_ts rows_GStep_ts_map h4) (ob_c (ht.plan_Same _ _ _ h5) (ob_b (congrArg (!·) h6) ob))))))) (by kernel_rfl)) (fun h => by cases h)
    · rw [if_neg h1] at h
      replace h1 := Bool.eq_false_iff.2 h1
      rw [← Option.some.inj h]
      exact loop_out (path (ob_b h1 ob) (by kernel_rfl)) (fun h => by cases h)
theorem slices_EqualFunc_plan_Same_l1.ok {t : Tab} {call : FuncId → List AV → List AV → Option (AV × List AV)} (ht : TabOk t call) (n : Nat) (a1 : List (List GStep)) (a2 : List (List GStep)) (a3 : Int) (a4 : Int) (r : Bool ⊕ ((List (List GStep)) × (List (List GStep)) × Int × Int × Bool)) (h : slices_EqualFunc_plan_Same_l1 t n n a1 a2 a3 a4 = some r) : exec (env Tryd.prog 37 Tryd.f37 call) n (sub [1, 1, 0, 1, 0] (bodyOf Tryd.f37)) (mkSt 32 32 [(1, (.t (.sl false 1 (rows_GStep_ts a1)))), (2, (.fn 17 [])), (15, (.t (.sl false 1 (rows_GStep_ts a2)))), (16, (.t (.v (.int .i64 a3)))), (17, (.t (.v (.int .i64 a4))))] []) = some (slices_EqualFunc_plan_Same_l1.to r) := by
  have e1 : sub [1, 1, 0, 1, 0] (bodyOf Tryd.f37) = .loop (sub [1, 1, 0, 1, 0, 0] (bodyOf Tryd.f37)) := by kernel_rfl
  rw [e1, exec]
  exact slices_EqualFunc_plan_Same_l1.okL ht n n a1 a2 a3 a4 r h
theorem slices_EqualFunc_plan_Same.ok {n : Nat} {t : Tab} (ht : TabOk t (run Tryd.prog own kp X n)) : ∀ (p1 : List (List GStep)) (p2 : List (List GStep)) r, slices_EqualFunc_plan_Same t n p1 p2 = some r → run Tryd.prog own kp X (n + 1) 37 [(.t (.sl false 1 (rows_GStep_ts p1))), (.t (.sl false 1 (rows_GStep_ts p2))), (.fn 17 [])] [] = some ((.t (.v (.bool r))), []) := by
  intro p1 p2 r h
  obtain ⟨a1, rfl⟩ : ∃ z_, z_ = p1 := ⟨_, rfl⟩
  obtain ⟨a2, rfl⟩ : ∃ z_, z_ = p2 := ⟨_, rfl⟩
  rw [slices_EqualFunc_plan_Same] at h
  by_cases h1 : ((a1.length : Int) != (a2.length : Int)) = true
  · rw [if_pos h1] at h
    rw [← Option.some.inj h]
    exact run_path Tryd.func37 (ob_v (len_ts rows_GStep_ts_map (l := a1)) (ob_v (len_ts rows_GStep_ts_map (l := a2)) (ob_b h1 ob))) (by kernel_rfl)
  · rw [if_neg h1] at h
    replace h1 := Bool.eq_false_iff.2 h1
    rcases h2 : slices_EqualFunc_plan_Same_l1 t n n a2 a1 (a1.length : Int) 0 with _ | q_
    · rw [h2] at h; cases h
    rw [h2] at h
    rcases q_ with a3 | ⟨a4, a5, a6, a7, a8⟩
    · dsimp only at h
      rw [← Option.some.inj h]
      exact run_path Tryd.func37 (ob_v (len_ts rows_GStep_ts_map (l := a1)) (ob_v (len_ts rows_GStep_ts_map (l := a2)) (ob_b h1 (ob_v (len_ts rows_GStep_ts_map (l := a1)) (ob_k (slices_EqualFunc_plan_Same_l1.ok ht n _ _ _ _ _ h2) ob))))) (by kernel_rfl)
    · dsimp only at h
      rw [← Option.some.inj h]
      exact run_path Tryd.func37 (ob_v (len_ts rows_GStep_ts_map (l := a1)) (ob_v (len_ts rows_GStep_ts_map (l := a2)) (ob_b h1 (ob_v (len_ts rows_GStep_ts_map (l := a1)) (ob_k (slices_EqualFunc_plan_Same_l1.ok ht n _ _ _ _ _ h2) ob))))) (by kernel_rfl)
theorem slices_EqualFunc_plan_sameBy_l1.okL {t : Tab} {call : FuncId → List AV → List AV → Option (AV × List AV)} (ht : TabOk t call) (n : Nat) : ∀ (k : Nat) (a1 : List GBy) (a2 : List GBy) (a3 : Int) (a4 : Int) (r : Bool ⊕ ((List GBy) × (List GBy) × Int × Int × Bool)), slices_EqualFunc_plan_sameBy_l1 t n k a1 a2 a3 a4 = some r → loopN (exec (env Tryd.prog 38 Tryd.f38 call) n (sub [1, 1, 0, 1, 0, 0] (bodyOf Tryd.f38))) k (mkSt 32 32 [(1, (.t (.sl false 4 (GBy.ts a1)))), (2, (.fn 39 [])), (15, (.t (.sl false 4 (GBy.ts a2)))), (16, (.t (.v (.int .i64 a3)))), (17, (.t (.v (.int .i64 a4))))] []) = some (slices_EqualFunc_plan_sameBy_l1.to r)
  | 0, a1, a2, a3, a4, r, h => by rw [slices_EqualFunc_plan_sameBy_l1] at h; cases h
  | k + 1, a1, a2, a3, a4, r, h => by
    rw [slices_EqualFunc_plan_sameBy_l1] at h
    by_cases h1 : (decide (a4 < a3)) = true
    · rw [if_pos h1] at h
      by_cases h2 : (decide (0 ≤ (a4 : Int))) = true
      case neg => rw [if_neg h2] at h; cases h
      rw [if_pos h2] at h
      rcases h3 : a2[(a4 : Int).toNat]? with _ | ⟨a5, a6, a7, a8⟩
      · rw [h3] at h; cases h
      rw [h3] at h
      dsimp only at h
      rcases h4 : a1[(a4 : Int).toNat]? with _ | ⟨a9, a10, a11, a12⟩
      · rw [h4] at h; cases h
      rw [h4] at h
      dsimp only at h
      rcases h5 : t.plan_sameBy (GBy.mk a5 a6 a7 a8) (GBy.mk a9 a10 a11 a12) with _ | a13
      · rw [h5] at h; cases h
      rw [h5] at h
      dsimp only at h
      by_cases h6 : a13 = true
      · rw [if_pos h6] at h
        exact loop_more (path (ob_b h1 (ob_n h2 (ob_t (look_ts GBy.ts_map h3) (ob_n h2 (ob_t (look_ts GBy.ts_map h4) (ob_c (ht.plan_sameBy _ _ _ h5) (ob_b (congrArg (!·) h6) ob))))))) (by kernel_rfl)) (slices_EqualFunc_plan_sameBy_l1.okL ht n k _ _ _ _ _ h)
      · rw [if_neg h6] at h
        replace h6 := Bool.eq_false_iff.2 h6
        rw [← Option.some.inj h]
        exact loop_out (path (ob_b h1 (ob_n h2 (ob_t (look_ts GBy.ts_map h3) (ob_n h2 (ob_t (look_ts GBy.ts_map h4) (ob_c (ht.plan_sameBy _ _ _ h5) (ob_b (congrArg (!·) h6) ob))))))) (by kernel_rfl)) (fun h => by cases h)
    · rw [if_neg h1] at h
      replace h1 := Bool.eq_false_iff.2 h1
      rw [← Option.some.inj h]
      exact loop_out (path (ob_b h1 ob) (by kernel_rfl)) (fun h => by cases h)
theorem slices_EqualFunc_plan_sameBy_l1.ok {t : Tab} {call : FuncId → List AV → List AV → Option (AV × List AV)} (ht : TabOk t call) (n : Nat) (a1 : List GBy) (a2 : List GBy) (a3 : Int) (a4 : Int) (r : Bool ⊕ ((List GBy) × (List GBy) × Int × Int × Bool)) (h : slices_EqualFunc_plan_sameBy_l1 t n n a1 a2 a3 a4 = some r) : exec (env Tryd.prog 38 Tryd.f38 call) n (sub [1, 1, 0, 1, 0] (bodyOf Tryd.f38)) (mkSt 32 32 [(1, (.t (.sl false 4 (GBy.ts a1)))), (2, (.fn 39 [])), (15, (.t (.sl false 4 (GBy.ts a2)))), (16, (.t (.v (.int .i64 a3)))), (17, (.t (.v (.int .i64 a4))))] []) = some (slices_EqualFunc_plan_sameBy_l1.to r) := by
  have e1 : sub [1, 1, 0, 1, 0] (bodyOf Tryd.f38) = .loop (sub [1, 1, 0, 1, 0, 0] (bodyOf Tryd.f38)) := by kernel_rfl
  rw [e1, exec]
  exact slices_EqualFunc_plan_sameBy_l1.okL ht n n a1 a2 a3 a4 r h
theorem slices_EqualFunc_plan_sameBy.ok {n : Nat} {t : Tab} (ht : TabOk t (run Tryd.prog own kp X n)) : ∀ (p1 : List GBy) (p2 : List GBy) r, slices_EqualFunc_plan_sameBy t n p1 p2 = some r → run Tryd.prog own kp X (n + 1) 38 [(.t (.sl false 4 (GBy.ts p1))), (.t (.sl false 4 (GBy.ts p2))), (.fn 39 [])] [] = some ((.t (.v (.bool r))), []) := by
  intro p1 p2 r h
  obtain ⟨a1, rfl⟩ : ∃ z_, z_ = p1 := ⟨_, rfl⟩
  obtain ⟨a2, rfl⟩ : ∃ z_, z_ = p2 := ⟨_, rfl⟩
  rw [slices_EqualFunc_plan_sameBy] at h
  by_cases h1 : ((a1.length : Int) != (a2.length : Int)) = true
  · rw [if_pos h1] at h
    rw [← Option.some.inj h]
    exact run_path Tryd.func38 (ob_v (len_ts GBy.ts_map (l := a1)) (ob_v (len_ts GBy.ts_map (l := a2)) (ob_b h1 ob))) (by kernel_rfl)
  · rw [if_neg h1] at h
    replace h1 := Bool.eq_false_iff.2 h1
    rcases h2 : slices_EqualFunc_plan_sameBy_l1 t n n a2 a1 (a1.length : Int) 0 with _ | q_
    · rw [h2] at h; cases h
    rw [h2] at h
    rcases q_ with a3 | ⟨a4, a5, a6, a7, a8⟩
    · dsimp only at h
      rw [← Option.some.inj h]
      exact run_path Tryd.func38 (ob_v (len_ts GBy.ts_map (l := a1)) (ob_v (len_ts GBy.ts_map (l := a2)) (ob_b h1 (ob_v (len_ts GBy.ts_map (l := a1)) (ob_k (slices_EqualFunc_plan_sameBy_l1.ok ht n _ _ _ _ _ h2) ob))))) (by kernel_rfl)
    · dsimp only at h
      rw [← Option.some.inj h]
      exact run_path Tryd.func38 (ob_v (len_ts GBy.ts_map (l := a1)) (ob_v (len_ts GBy.ts_map (l := a2)) (ob_b h1 (ob_v (len_ts GBy.ts_map (l := a1)) (ob_k (slices_EqualFunc_plan_sameBy_l1.ok ht n _ _ _ _ _ h2) ob))))) (by kernel_rfl)
theorem plan_some_1_plan_Uses_1.ok {n : Nat} {t : Tab} (ht : TabOk t (run Tryd.prog own kp X n)) : ∀ (p1 : GStep) (p2 : List Int) r, plan_some_1_plan_Uses_1 t n p1 p2 = some r → run Tryd.prog own kp X (n + 1) 44 [(.t (GStep.t p1)), (.fref 22 [(.ref (.sl false 1 (ints_i64 p2)))])] [] = some ((.t (.v (.bool r))), []) := by
  intro p1 p2 r h
  obtain ⟨a1, a2, a3, ⟨a4, a5, a6, a7, a8⟩, ⟨a9, a10, a11⟩, a12, a13, a14⟩ := p1
  obtain ⟨a15, rfl⟩ : ∃ z_, z_ = p2 := ⟨_, rfl⟩
  rw [plan_some_1_plan_Uses_1] at h
  rcases h1 : t.plan_Uses_1 (GStep.mk a1 a2 a3 (GValue.mk a4 a5 a6 a7 a8) (GPred.mk a9 a10 a11) a12 a13 a14) a15 with _ | a16
  · rw [h1] at h; cases h
  rw [h1] at h
  dsimp only at h
  by_cases h2 : a16 = true
  · rw [if_pos h2] at h
    rw [← Option.some.inj h]
    exact run_path Tryd.func44 (ob_c (ht.plan_Uses_1 _ _ _ h1) (ob_b h2 (ob_b h2 (ob_b h2 (ob_b h2 (ob_b h2 ob)))))) (by kernel_rfl)
  · rw [if_neg h2] at h
    replace h2 := Bool.eq_false_iff.2 h2
    rcases h3 : t.plan_inner (GStep.mk a1 a2 a3 (GValue.mk a4 a5 a6 a7 a8) (GPred.mk a9 a10 a11) a12 a13 a14) with _ | a17
    · rw [h3] at h; cases h
    rw [h3] at h
    dsimp only at h
    obtain ⟨a18, rfl⟩ : ∃ z_, z_ = r := ⟨_, rfl⟩
    have h4 := h
    exact run_path Tryd.func44 (ob_c (ht.plan_Uses_1 _ _ _ h1) (ob_b h2 (ob_b h2 (ob_c (ht.plan_inner _ _ h3) (ob_b h2 (ob_b h2 (ob_c (ht.slices_ContainsFunc_plan_some_1_1 _ _ _ h4) (ob_b h2 ob)))))))) (by kernel_rfl)
theorem plan_right_1.ok {n : Nat} {t : Tab} (ht : TabOk t (run Tryd.prog own kp X n)) : ∀ (p1 : GStep) (p2 : Int) r, plan_right_1 t n p1 p2 = some r → run Tryd.prog own kp X (n + 1) 49 [(.t (GStep.t p1)), (.ref (.v (.int .i64 p2)))] [] = some ((.t (.v (.bool r))), []) := by
  intro p1 p2 r h
  obtain ⟨a1, a2, a3, ⟨a4, a5, a6, a7, a8⟩, ⟨a9, a10, a11⟩, a12, a13, a14⟩ := p1
  obtain ⟨a15, rfl⟩ : ∃ z_, z_ = p2 := ⟨_, rfl⟩
  rw [plan_right_1] at h
  rcases h1 : t.plan_step (GStep.mk a1 a2 a3 (GValue.mk a4 a5 a6 a7 a8) (GPred.mk a9 a10 a11) a12 a13 a14) a15 with _ | a16
  · rw [h1] at h; cases h
  rw [h1] at h
  dsimp only at h
  rw [← Option.some.inj h]
  exact run_path Tryd.func49 (ob_c (ht.plan_step _ _ _ h1) ob) (by kernel_rfl)
theorem plan_some_1_plan_Free_1.ok {n : Nat} {t : Tab} (ht : TabOk t (run Tryd.prog own kp X n)) : ∀ (p1 : GStep) r, plan_some_1_plan_Free_1 t n p1 = some r → run Tryd.prog own kp X (n + 1) 44 [(.t (GStep.t p1)), (.fref 28 [])] [] = some ((.t (.v (.bool r))), []) := by
  intro p1 r h
  obtain ⟨a1, a2, a3, ⟨a4, a5, a6, a7, a8⟩, ⟨a9, a10, a11⟩, a12, a13, a14⟩ := p1
  rw [plan_some_1_plan_Free_1] at h
  rcases h1 : t.plan_Free_1 (GStep.mk a1 a2 a3 (GValue.mk a4 a5 a6 a7 a8) (GPred.mk a9 a10 a11) a12 a13 a14) with _ | a15
  · rw [h1] at h; cases h
  rw [h1] at h
  dsimp only at h
  by_cases h2 : a15 = true
  · rw [if_pos h2] at h
    rw [← Option.some.inj h]
    exact run_path Tryd.func44 (ob_c (ht.plan_Free_1 _ _ h1) (ob_b h2 (ob_b h2 (ob_b h2 (ob_b h2 (ob_b h2 ob)))))) (by kernel_rfl)
  · rw [if_neg h2] at h
    replace h2 := Bool.eq_false_iff.2 h2
    rcases h3 : t.plan_inner (GStep.mk a1 a2 a3 (GValue.mk a4 a5 a6 a7 a8) (GPred.mk a9 a10 a11) a12 a13 a14) with _ | a16
    · rw [h3] at h; cases h
    rw [h3] at h
    dsimp only at h
    obtain ⟨a17, rfl⟩ : ∃ z_, z_ = r := ⟨_, rfl⟩
    have h4 := h
    exact run_path Tryd.func44 (ob_c (ht.plan_Free_1 _ _ h1) (ob_b h2 (ob_b h2 (ob_c (ht.plan_inner _ _ h3) (ob_b h2 (ob_b h2 (ob_c (ht.slices_ContainsFunc_plan_some_1_1_i2 _ _ h4) (ob_b h2 ob)))))))) (by kernel_rfl)
theorem value_Cmp.ok {n : Nat} {t : Tab} (ht : TabOk t (run Tryd.prog own kp X n)) : ∀ (p1 : GValue) (p2 : GValue) r, value_Cmp t n p1 p2 = some r → run Tryd.prog own kp X (n + 1) 51 [(.t (GValue.t p1)), (.t (GValue.t p2))] [] = some ((.t (.v (.int .i64 r))), []) := by
  intro p1 p2 r h
  obtain ⟨a1, a2, a3, a4, a5⟩ := p1
  obtain ⟨a6, a7, a8, a9, a10⟩ := p2
  rw [value_Cmp] at h
  obtain ⟨a11, rfl⟩ : ∃ z_, z_ = r := ⟨_, rfl⟩
  have h1 := h
  exact run_path Tryd.func51 (ob_c (ht.value_compare _ _ _ _ h1) ob) (by kernel_rfl)
theorem slices_EqualFunc_value_Same_l1.okL {t : Tab} {call : FuncId → List AV → List AV → Option (AV × List AV)} (ht : TabOk t call) (n : Nat) : ∀ (k : Nat) (a1 : List GValue) (a2 : List GValue) (a3 : Int) (a4 : Int) (r : Bool ⊕ ((List GValue) × (List GValue) × Int × Int × Bool)), slices_EqualFunc_value_Same_l1 t n k a1 a2 a3 a4 = some r → loopN (exec (env Tryd.prog 52 Tryd.f52 call) n (sub [1, 1, 0, 1, 0, 0] (bodyOf Tryd.f52))) k (mkSt 32 32 [(1, (.t (.sl false 5 (GValue.ts a1)))), (2, (.fn 35 [])), (15, (.t (.sl false 5 (GValue.ts a2)))), (16, (.t (.v (.int .i64 a3)))), (17, (.t (.v (.int .i64 a4))))] []) = some (slices_EqualFunc_value_Same_l1.to r)
  | 0, a1, a2, a3, a4, r, h => by rw [slices_EqualFunc_value_Same_l1] at h; cases h
  | k + 1, a1, a2, a3, a4, r, h => by
    rw [slices_EqualFunc_value_Same_l1] at h
    by_cases h1 : (decide (a4 < a3)) = true
    · rw [if_pos h1] at h
      by_cases h2 : (decide (0 ≤ (a4 : Int))) = true
      case neg => rw [if_neg h2] at h; cases h
      rw [if_pos h2] at h
      rcases h3 : a2[(a4 : Int).toNat]? with _ | ⟨a5, a6, a7, a8, a9⟩
      · rw [h3] at h; cases h
      rw [h3] at h
      dsimp only at h
      rcases h4 : a1[(a4 : Int).toNat]? with _ | ⟨a10, a11, a12, a13, a14⟩
      · rw [h4] at h; cases h
      rw [h4] at h
      dsimp only at h
      rcases h5 : t.value_Same (GValue.mk a5 a6 a7 a8 a9) (GValue.mk a10 a11 a12 a13 a14) with _ | a15
      · rw [h5] at h; cases h
      rw [h5] at h
      dsimp only at h
      by_cases h6 : a15 = true
      · rw [if_pos h6] at h
        exact loop_more (path (ob_b h1 (ob_n h2 (ob_t (look_ts GValue.ts_map h3) (ob_n h2 (ob_t (look_ts GValue.ts_map h4) (ob_c (ht.value_Same _ _ _ h5) (ob_b (congrArg (!·) h6) ob))))))) (by kernel_rfl)) (slices_EqualFunc_value_Same_l1.okL ht n k _ _ _ _ _ h)
      · rw [if_neg h6] at h
        replace h6 := Bool.eq_false_iff.2 h6
        rw [← Option.some.inj h]
        exact loop_out (path (ob_b h1 (ob_n h2 (ob_t (look_ts GValue.ts_map h3) (ob_n h2 (ob_t (look_ts GValue.ts_map h4) (ob_c (ht.value_Same _ _ _ h5) (ob_b (congrArg (!·) h6) ob))))))) (by kernel_rfl)) (fun h => by cases h)
    · rw [if_neg h1] at h
      replace h1 := Bool.eq_false_iff.2 h1
      rw [← Option.some.inj h]
      exact loop_out (path (ob_b h1 ob) (by kernel_rfl)) (fun h => by cases h)
theorem slices_EqualFunc_value_Same_l1.ok {t : Tab} {call : FuncId → List AV → List AV → Option (AV × List AV)} (ht : TabOk t call) (n : Nat) (a1 : List GValue) (a2 : List GValue) (a3 : Int) (a4 : Int) (r : Bool ⊕ ((List GValue) × (List GValue) × Int × Int × Bool)) (h : slices_EqualFunc_value_Same_l1 t n n a1 a2 a3 a4 = some r) : exec (env Tryd.prog 52 Tryd.f52 call) n (sub [1, 1, 0, 1, 0] (bodyOf Tryd.f52)) (mkSt 32 32 [(1, (.t (.sl false 5 (GValue.ts a1)))), (2, (.fn 35 [])), (15, (.t (.sl false 5 (GValue.ts a2)))), (16, (.t (.v (.int .i64 a3)))), (17, (.t (.v (.int .i64 a4))))] []) = some (slices_EqualFunc_value_Same_l1.to r) := by
  have e1 : sub [1, 1, 0, 1, 0] (bodyOf Tryd.f52) = .loop (sub [1, 1, 0, 1, 0, 0] (bodyOf Tryd.f52)) := by kernel_rfl
  rw [e1, exec]
  exact slices_EqualFunc_value_Same_l1.okL ht n n a1 a2 a3 a4 r h
theorem slices_EqualFunc_value_Same.ok {n : Nat} {t : Tab} (ht : TabOk t (run Tryd.prog own kp X n)) : ∀ (p1 : List GValue) (p2 : List GValue) r, slices_EqualFunc_value_Same t n p1 p2 = some r → run Tryd.prog own kp X (n + 1) 52 [(.t (.sl false 5 (GValue.ts p1))), (.t (.sl false 5 (GValue.ts p2))), (.fn 35 [])] [] = some ((.t (.v (.bool r))), []) := by
  intro p1 p2 r h
  obtain ⟨a1, rfl⟩ : ∃ z_, z_ = p1 := ⟨_, rfl⟩
  obtain ⟨a2, rfl⟩ : ∃ z_, z_ = p2 := ⟨_, rfl⟩
  rw [slices_EqualFunc_value_Same] at h
  by_cases h1 : ((a1.length : Int) != (a2.length : Int)) = true
  · rw [if_pos h1] at h
    rw [← Option.some.inj h]
    exact run_path Tryd.func52 (ob_v (len_ts GValue.ts_map (l := a1)) (ob_v (len_ts GValue.ts_map (l := a2)) (ob_b h1 ob))) (by kernel_rfl)
  · rw [if_neg h1] at h
    replace h1 := Bool.eq_false_iff.2 h1
    rcases h2 : slices_EqualFunc_value_Same_l1 t n n a2 a1 (a1.length : Int) 0 with _ | q_
    · rw [h2] at h; cases h
    rw [h2] at h
    rcases q_ with a3 | ⟨a4, a5, a6, a7, a8⟩
    · dsimp only at h
      rw [← Option.some.inj h]
      exact run_path Tryd.func52 (ob_v (len_ts GValue.ts_map (l := a1)) (ob_v (len_ts GValue.ts_map (l := a2)) (ob_b h1 (ob_v (len_ts GValue.ts_map (l := a1)) (ob_k (slices_EqualFunc_value_Same_l1.ok ht n _ _ _ _ _ h2) ob))))) (by kernel_rfl)
    · dsimp only at h
      rw [← Option.some.inj h]
      exact run_path Tryd.func52 (ob_v (len_ts GValue.ts_map (l := a1)) (ob_v (len_ts GValue.ts_map (l := a2)) (ob_b h1 (ob_v (len_ts GValue.ts_map (l := a1)) (ob_k (slices_EqualFunc_value_Same_l1.ok ht n _ _ _ _ _ h2) ob))))) (by kernel_rfl)
theorem slices_EqualFunc_plan_samePred_l1.okL {t : Tab} {call : FuncId → List AV → List AV → Option (AV × List AV)} (ht : TabOk t call) (n : Nat) : ∀ (k : Nat) (a1 : List GPred) (a2 : List GPred) (a3 : Int) (a4 : Int) (r : Bool ⊕ ((List GPred) × (List GPred) × Int × Int × Bool)), slices_EqualFunc_plan_samePred_l1 t n k a1 a2 a3 a4 = some r → loopN (exec (env Tryd.prog 53 Tryd.f53 call) n (sub [1, 1, 0, 1, 0, 0] (bodyOf Tryd.f53))) k (mkSt 32 32 [(1, (.t (.sl false 3 (GPred.ts a1)))), (2, (.fn 36 [])), (15, (.t (.sl false 3 (GPred.ts a2)))), (16, (.t (.v (.int .i64 a3)))), (17, (.t (.v (.int .i64 a4))))] []) = some (slices_EqualFunc_plan_samePred_l1.to r)
  | 0, a1, a2, a3, a4, r, h => by rw [slices_EqualFunc_plan_samePred_l1] at h; cases h
  | k + 1, a1, a2, a3, a4, r, h => by
    rw [slices_EqualFunc_plan_samePred_l1] at h
    by_cases h1 : (decide (a4 < a3)) = true
    · rw [if_pos h1] at h
      by_cases h2 : (decide (0 ≤ (a4 : Int))) = true
      case neg => rw [if_neg h2] at h; cases h
      rw [if_pos h2] at h
      rcases h3 : a2[(a4 : Int).toNat]? with _ | ⟨a5, a6, a7⟩
      · rw [h3] at h; cases h
      rw [h3] at h
      dsimp only at h
      rcases h4 : a1[(a4 : Int).toNat]? with _ | ⟨a8, a9, a10⟩
      · rw [h4] at h; cases h
      rw [h4] at h
      dsimp only at h
      rcases h5 : t.plan_samePred (GPred.mk a5 a6 a7) (GPred.mk a8 a9 a10) with _ | a11
      · rw [h5] at h; cases h
      rw [h5] at h
      dsimp only at h
      by_cases h6 : a11 = true
      · rw [if_pos h6] at h
        exact loop_more (path (ob_b h1 (ob_n h2 (ob_t (look_ts GPred.ts_map h3) (ob_n h2 (ob_t (look_ts GPred.ts_map h4) (ob_c (ht.plan_samePred _ _ _ h5) (ob_b (congrArg (!·) h6) ob))))))) (by kernel_rfl)) (slices_EqualFunc_plan_samePred_l1.okL ht n k _ _ _ _ _ h)
      · rw [if_neg h6] at h
        replace h6 := Bool.eq_false_iff.2 h6
        rw [← Option.some.inj h]
        exact loop_out (path (ob_b h1 (ob_n h2 (ob_t (look_ts GPred.ts_map h3) (ob_n h2 (ob_t (look_ts GPred.ts_map h4) (ob_c (ht.plan_samePred _ _ _ h5) (ob_b (congrArg (!·) h6) ob))))))) (by kernel_rfl)) (fun h => by cases h)
    · rw [if_neg h1] at h
      replace h1 := Bool.eq_false_iff.2 h1
      rw [← Option.some.inj h]
      exact loop_out (path (ob_b h1 ob) (by kernel_rfl)) (fun h => by cases h)
theorem slices_EqualFunc_plan_samePred_l1.ok {t : Tab} {call : FuncId → List AV → List AV → Option (AV × List AV)} (ht : TabOk t call) (n : Nat) (a1 : List GPred) (a2 : List GPred) (a3 : Int) (a4 : Int) (r : Bool ⊕ ((List GPred) × (List GPred) × Int × Int × Bool)) (h : slices_EqualFunc_plan_samePred_l1 t n n a1 a2 a3 a4 = some r) : exec (env Tryd.prog 53 Tryd.f53 call) n (sub [1, 1, 0, 1, 0] (bodyOf Tryd.f53)) (mkSt 32 32 [(1, (.t (.sl false 3 (GPred.ts a1)))), (2, (.fn 36 [])), (15, (.t (.sl false 3 (GPred.ts a2)))), (16, (.t (.v (.int .i64 a3)))), (17, (.t (.v (.int .i64 a4))))] []) = some (slices_EqualFunc_plan_samePred_l1.to r) := by
  have e1 : sub [1, 1, 0, 1, 0] (bodyOf Tryd.f53) = .loop (sub [1, 1, 0, 1, 0, 0] (bodyOf Tryd.f53)) := by kernel_rfl
  rw [e1, exec]
  exact slices_EqualFunc_plan_samePred_l1.okL ht n n a1 a2 a3 a4 r h
theorem slices_EqualFunc_plan_samePred.ok {n : Nat} {t : Tab} (ht : TabOk t (run Tryd.prog own kp X n)) : ∀ (p1 : List GPred) (p2 : List GPred) r, slices_EqualFunc_plan_samePred t n p1 p2 = some r → run Tryd.prog own kp X (n + 1) 53 [(.t (.sl false 3 (GPred.ts p1))), (.t (.sl false 3 (GPred.ts p2))), (.fn 36 [])] [] = some ((.t (.v (.bool r))), []) := by
  intro p1 p2 r h
  obtain ⟨a1, rfl⟩ : ∃ z_, z_ = p1 := ⟨_, rfl⟩
  obtain ⟨a2, rfl⟩ : ∃ z_, z_ = p2 := ⟨_, rfl⟩
  rw [slices_EqualFunc_plan_samePred] at h
  by_cases h1 : ((a1.length : Int) != (a2.length : Int)) = true
  · rw [if_pos h1] at h
    rw [← Option.some.inj h]
    exact run_path Tryd.func53 (ob_v (len_ts GPred.ts_map (l := a1)) (ob_v (len_ts GPred.ts_map (l := a2)) (ob_b h1 ob))) (by kernel_rfl)
  · rw [if_neg h1] at h
    replace h1 := Bool.eq_false_iff.2 h1
    rcases h2 : slices_EqualFunc_plan_samePred_l1 t n n a2 a1 (a1.length : Int) 0 with _ | q_
    · rw [h2] at h; cases h
    rw [h2] at h
    rcases q_ with a3 | ⟨a4, a5, a6, a7, a8⟩
    · dsimp only at h
      rw [← Option.some.inj h]
      exact run_path Tryd.func53 (ob_v (len_ts GPred.ts_map (l := a1)) (ob_v (len_ts GPred.ts_map (l := a2)) (ob_b h1 (ob_v (len_ts GPred.ts_map (l := a1)) (ob_k (slices_EqualFunc_plan_samePred_l1.ok ht n _ _ _ _ _ h2) ob))))) (by kernel_rfl)
    · dsimp only at h
      rw [← Option.some.inj h]
      exact run_path Tryd.func53 (ob_v (len_ts GPred.ts_map (l := a1)) (ob_v (len_ts GPred.ts_map (l := a2)) (ob_b h1 (ob_v (len_ts GPred.ts_map (l := a1)) (ob_k (slices_EqualFunc_plan_samePred_l1.ok ht n _ _ _ _ _ h2) ob))))) (by kernel_rfl)
theorem plan_sameBy.ok {n : Nat} {t : Tab} (ht : TabOk t (run Tryd.prog own kp X n)) : ∀ (p1 : GBy) (p2 : GBy) r, plan_sameBy t n p1 p2 = some r → run Tryd.prog own kp X (n + 1) 39 [(.t (GBy.t p1)), (.t (GBy.t p2))] [] = some ((.t (.v (.bool r))), []) := by
  intro p1 p2 r h
  obtain ⟨a1, a2, a3, a4⟩ := p1
  obtain ⟨a5, a6, a7, a8⟩ := p2
  rw [plan_sameBy] at h
  by_cases h1 : (a1 == a5) = true
  · rw [if_pos h1] at h
    by_cases h2 : (a2.toList == a6.toList) = true
    · rw [if_pos h2] at h
      by_cases h3 : (a4 == a8) = true
      · rw [if_pos h3] at h
        obtain ⟨a9, rfl⟩ : ∃ z_, z_ = r := ⟨_, rfl⟩
        have h4 := h
        exact run_path Tryd.func39 (ob_b h1 (ob_b h1 (ob_b h1 (ob_b h1 (ob_b h1 (ob_b h1 (ob_b h2 (ob_b h2 (ob_b h2 (ob_b h2 (ob_b h2 (ob_b h2 (ob_b h3 (ob_b h3 (ob_b h3 (ob_b h3 (ob_b h3 (ob_c (ht.plan_Same _ _ _ h4) (ob_b h3 ob))))))))))))))))))) (by kernel_rfl)
      · rw [if_neg h3] at h
        replace h3 := Bool.eq_false_iff.2 h3
        rw [← Option.some.inj h]
        exact run_path Tryd.func39 (ob_b h1 (ob_b h1 (ob_b h1 (ob_b h1 (ob_b h1 (ob_b h1 (ob_b h2 (ob_b h2 (ob_b h2 (ob_b h2 (ob_b h2 (ob_b h2 (ob_b h3 (ob_b h3 (ob_b h3 (ob_b h3 (ob_b h3 (ob_b h3 ob)))))))))))))))))) (by kernel_rfl)
    · rw [if_neg h2] at h
      replace h2 := Bool.eq_false_iff.2 h2
      rw [← Option.some.inj h]
      exact run_path Tryd.func39 (ob_b h1 (ob_b h1 (ob_b h1 (ob_b h1 (ob_b h1 (ob_b h1 (ob_b h2 (ob_b h2 (ob_b h2 (ob_b h2 (ob_b h2 (ob_b h2 (ob_b (rfl : false = false) (ob_b (rfl : false = false) (ob_b (rfl : false = false) (ob_b (rfl : false = false) (ob_b (rfl : false = false) (ob_b (rfl : false = false) ob)))))))))))))))))) (by kernel_rfl)
  · rw [if_neg h1] at h
    replace h1 := Bool.eq_false_iff.2 h1
    rw [← Option.some.inj h]
    exact run_path Tryd.func39 (ob_b h1 (ob_b h1 (ob_b h1 (ob_b h1 (ob_b h1 (ob_b h1 (ob_b (rfl : false = false) (ob_b (rfl : false = false) (ob_b (rfl : false = false) (ob_b (rfl : false = false) (ob_b (rfl : false = false) (ob_b (rfl : false = false) (ob_b (rfl : false = false) (ob_b (rfl : false = false) (ob_b (rfl : false = false) (ob_b (rfl : false = false) (ob_b (rfl : false = false) (ob_b (rfl : false = false) ob)))))))))))))))))) (by kernel_rfl)
theorem plan_Uses_1.ok {n : Nat} {t : Tab} (ht : TabOk t (run Tryd.prog own kp X n)) : ∀ (p1 : GStep) (p2 : List Int) r, plan_Uses_1 t n p1 p2 = some r → run Tryd.prog own kp X (n + 1) 22 [(.t (GStep.t p1)), (.ref (.sl false 1 (ints_i64 p2)))] [] = some ((.t (.v (.bool r))), []) := by
  intro p1 p2 r h
  obtain ⟨a1, a2, a3, ⟨a4, a5, a6, a7, a8⟩, ⟨a9, a10, a11⟩, a12, a13, a14⟩ := p1
  obtain ⟨a15, rfl⟩ : ∃ z_, z_ = p2 := ⟨_, rfl⟩
  rw [plan_Uses_1] at h
  obtain ⟨a16, rfl⟩ : ∃ z_, z_ = r := ⟨_, rfl⟩
  have h1 := h
  exact run_path Tryd.func22 (ob_c (ht.slices_Contains_int _ _ _ h1) ob) (by kernel_rfl)
theorem slices_ContainsFunc_plan_some_1_1.ok {n : Nat} {t : Tab} (ht : TabOk t (run Tryd.prog own kp X n)) : ∀ (p1 : List (List GStep)) (p2 : List Int) r, slices_ContainsFunc_plan_some_1_1 t n p1 p2 = some r → run Tryd.prog own kp X (n + 1) 45 [(.t (.sl false 1 (rows_GStep_ts p1))), (.fn 47 [(.fref 22 [(.ref (.sl false 1 (ints_i64 p2)))])])] [] = some ((.t (.v (.bool r))), []) := by
  intro p1 p2 r h
  obtain ⟨a1, rfl⟩ : ∃ z_, z_ = p1 := ⟨_, rfl⟩
  obtain ⟨a2, rfl⟩ : ∃ z_, z_ = p2 := ⟨_, rfl⟩
  rw [slices_ContainsFunc_plan_some_1_1] at h
  rcases h1 : t.slices_IndexFunc_plan_some_1_1 a1 a2 with _ | a3
  · rw [h1] at h; cases h
  rw [h1] at h
  dsimp only at h
  rw [← Option.some.inj h]
  exact run_path Tryd.func45 (ob_c (ht.slices_IndexFunc_plan_some_1_1 _ _ _ h1) ob) (by kernel_rfl)
theorem plan_step_j4.ok {t : Tab} {call : FuncId → List AV → List AV → Option (AV × List AV)} (ht : TabOk t call) (n : Nat) (a1 : Int) (a2 : Bool) (a3 : Int) (a4 : List ByteArray) (a5 : List Int) (a6 : Int) (a7 : Int) (a8 : ByteArray) (a9 : List GValue) (a10 : List GValue) (a11 : Int) (a12 : List GValue) (a13 : List GPred) (a14 : List (List GStep)) (a15 : List GBy) (a16 : List ByteArray) (r : Bool ⊕ (Int × Int × (List ByteArray) × (List Int) × Int × Int × ByteArray × (List GValue) × (List GValue) × Int × (List GValue) × (List GPred) × (List (List GStep)) × (List GBy) × (List ByteArray))) (h : plan_step_j4 t n a1 a2 a3 a4 a5 a6 a7 a8 a9 a10 a11 a12 a13 a14 a15 a16 = some r) : exec (env Tryd.prog 50 Tryd.f50 call) n (sub [1, 1, 1, 1, 0, 0, 1, 1, 1, 1, 1, 1, 1] (bodyOf Tryd.f50)) (mkSt 163 163 [(1, (.t (.v (.int .i64 a1)))), (2, (.ptr 2 0 [] 0)), (97, (.t (.v (.bool a2))))] [(2, (.t (.st [(.v (.int .i64 a3)), (.sl false 1 (texts a4)), (.sl false 1 (ints_i64 a5)), (.st [(.v (.int .i64 a6)), (.v (.int .i64 a7)), (.v (.string a8)), (.sl false 5 (GValue.ts a9)), (.sl false 5 (GValue.ts a10))]), (.st [(.v (.int .i64 a11)), (.sl false 5 (GValue.ts a12)), (.sl false 3 (GPred.ts a13))]), (.sl false 1 (rows_GStep_ts a14)), (.sl false 4 (GBy.ts a15)), (.sl false 1 (texts a16))])))]) = some (plan_step_j4.to r) := by
  rw [plan_step_j4] at h
  by_cases h1 : a2 = true
  · rw [if_pos h1] at h
    rw [← Option.some.inj h]
    exact path (ob_b h1 ob) (by kernel_rfl)
  · rw [if_neg h1] at h
    replace h1 := Bool.eq_false_iff.2 h1
    by_cases h2 : (a3 == 43) = true
    · rw [if_pos h2] at h
      rcases h3 : t.plan_twice a4 with _ | a17
      · rw [h3] at h; cases h
      rw [h3] at h
      dsimp only at h
      by_cases h4 : a17 = true
      · rw [if_pos h4] at h
        rw [← Option.some.inj h]
        exact path (ob_b h1 (ob_b h2 (ob_b h2 (ob_b h2 (ob_c (ht.plan_twice _ _ h3) (ob_b h2 (ob_b h4 (ob_b h4 (ob_b h4 (ob_b h4 (ob_b h4 (ob_b h4 (ob_b h4 (ob_b h2 (ob_b h4 (ob_b h2 (ob_b (rfl : true = true) ob))))))))))))))))) (by kernel_rfl)
      · rw [if_neg h4] at h
        replace h4 := Bool.eq_false_iff.2 h4
        by_cases h5 : (decide ((a15.length : Int) > (a4.length : Int))) = true
        · rw [if_pos h5] at h
          rw [← Option.some.inj h]
          exact path (ob_b h1 (ob_b h2 (ob_b h2 (ob_b h2 (ob_c (ht.plan_twice _ _ h3) (ob_b h2 (ob_b h4 (ob_b h4 (ob_b h4 (ob_v (len_ts GBy.ts_map (l := a15)) (ob_b h4 (ob_b h4 (ob_b h4 (ob_v (len_ts texts_map (l := a4)) (ob_b h4 (ob_b h2 (ob_b h4 (ob_b h2 (ob_b h5 ob))))))))))))))))))) (by kernel_rfl)
        · rw [if_neg h5] at h
          replace h5 := Bool.eq_false_iff.2 h5
          rw [← Option.some.inj h]
          exact path (ob_b h1 (ob_b h2 (ob_b h2 (ob_b h2 (ob_c (ht.plan_twice _ _ h3) (ob_b h2 (ob_b h4 (ob_b h4 (ob_b h4 (ob_v (len_ts GBy.ts_map (l := a15)) (ob_b h4 (ob_b h4 (ob_b h4 (ob_v (len_ts texts_map (l := a4)) (ob_b h4 (ob_b h2 (ob_b h4 (ob_b h2 (ob_b h5 ob))))))))))))))))))) (by kernel_rfl)
    · rw [if_neg h2] at h
      replace h2 := Bool.eq_false_iff.2 h2
      rw [← Option.some.inj h]
      exact path (ob_b h1 (ob_b h2 (ob_b h2 (ob_b h2 (ob_b h2 (ob_b h2 (ob_b h2 (ob_b (rfl : false = false) ob)))))))) (by kernel_rfl)
theorem plan_step_j3.ok {t : Tab} {call : FuncId → List AV → List AV → Option (AV × List AV)} (ht : TabOk t call) (n : Nat) (a1 : Int) (a2 : Bool) (a3 : Int) (a4 : List ByteArray) (a5 : List Int) (a6 : Int) (a7 : Int) (a8 : ByteArray) (a9 : List GValue) (a10 : List GValue) (a11 : Int) (a12 : List GValue) (a13 : List GPred) (a14 : List (List GStep)) (a15 : List GBy) (a16 : List ByteArray) (a17 : Int) (a18 : Int) (a19 : Int) (a20 : Int) (a21 : Int) (a22 : Int) (a23 : Int) (a24 : Int) (a25 : Bool) (a26 : Bool) (r : Bool ⊕ (Int × Int × (List ByteArray) × (List Int) × Int × Int × ByteArray × (List GValue) × (List GValue) × Int × (List GValue) × (List GPred) × (List (List GStep)) × (List GBy) × (List ByteArray))) (h : plan_step_j3 t n a1 a2 a3 a4 a5 a6 a7 a8 a9 a10 a11 a12 a13 a14 a15 a16 a17 a18 a19 a20 a21 a22 a23 a24 a25 a26 = some r) : exec (env Tryd.prog 50 Tryd.f50 call) n (sub [1, 1, 1, 1, 0, 0, 1, 1, 1, 1, 1] (bodyOf Tryd.f50)) (mkSt 163 163 [(1, (.t (.v (.int .i64 a1)))), (2, (.ptr 2 0 [] 0)), (5, (.ptr 5 0 [] 0)), (76, (.t (.v (.bool a2))))] [(2, (.t (.st [(.v (.int .i64 a3)), (.sl false 1 (texts a4)), (.sl false 1 (ints_i64 a5)), (.st [(.v (.int .i64 a6)), (.v (.int .i64 a7)), (.v (.string a8)), (.sl false 5 (GValue.ts a9)), (.sl false 5 (GValue.ts a10))]), (.st [(.v (.int .i64 a11)), (.sl false 5 (GValue.ts a12)), (.sl false 3 (GPred.ts a13))]), (.sl false 1 (rows_GStep_ts a14)), (.sl false 4 (GBy.ts a15)), (.sl false 1 (texts a16))]))), (5, (.t (.st [(.st [(.v (.int .i64 a17)), (.v (.int .i64 a18))]), (.st [(.v (.int .i64 a19)), (.v (.int .i64 a20))]), (.st [(.v (.int .i64 a21)), (.v (.int .i64 a22))]), (.st [(.v (.int .i64 a23)), (.v (.int .i64 a24))]), (.v (.bool a25)), (.v (.bool a26))])))]) = some (plan_step_j3.to r) := by
  rw [plan_step_j3] at h
  by_cases h1 : a2 = true
  · rw [if_pos h1] at h
    rw [← Option.some.inj h]
    exact path (ob_b h1 ob) (by kernel_rfl)
  · rw [if_neg h1] at h
    replace h1 := Bool.eq_false_iff.2 h1
    by_cases h2 : a26 = true
    · rw [if_pos h2] at h
      rcases h3 : t.pred_Check (GPred.mk a11 a12 a13) with _ | a27
      · rw [h3] at h; cases h
      rw [h3] at h
      dsimp only at h
      by_cases h4 : (a27 != 0) = true
      · rw [if_pos h4] at h
        have h5 := h
        rcases r with a28 | ⟨a29, a30, a31, a32, a33, a34, a35, a36, a37, a38, a39, a40, a41, a42, a43⟩
        · exact path (ob_b h1 (ob_b h2 (ob_b h2 (ob_b h2 (ob_c (ht.pred_Check _ _ h3) (ob_b h2 (ob_b h2 (ob_b h4 (ob_b h4 (ob_b h4 (ob_b h4 (ob_b h4 (ob_b h4 (ob_j (plan_step_j4.ok ht n _ _ _ _ _ _ _ _ _ _ _ _ _ _ _ _ _ h5) ob)))))))))))))) (by kernel_rfl)
        · exact path (ob_b h1 (ob_b h2 (ob_b h2 (ob_b h2 (ob_c (ht.pred_Check _ _ h3) (ob_b h2 (ob_b h2 (ob_b h4 (ob_b h4 (ob_b h4 (ob_b h4 (ob_b h4 (ob_b h4 (ob_j (plan_step_j4.ok ht n _ _ _ _ _ _ _ _ _ _ _ _ _ _ _ _ _ h5) ob)))))))))))))) (by kernel_rfl)
      · rw [if_neg h4] at h
        replace h4 := Bool.eq_false_iff.2 h4
        have h6 := h
        rcases r with a44 | ⟨a45, a46, a47, a48, a49, a50, a51, a52, a53, a54, a55, a56, a57, a58, a59⟩
        · exact path (ob_b h1 (ob_b h2 (ob_b h2 (ob_b h2 (ob_c (ht.pred_Check _ _ h3) (ob_b h2 (ob_b h2 (ob_b h4 (ob_b h4 (ob_b h4 (ob_b h4 (ob_b (congrArg (!·) h2) (ob_b (congrArg (!·) h2) (ob_b (congrArg (!·) h2) (ob_b (congrArg (!·) h2) (ob_b h4 (ob_b (congrArg (!·) h2) (ob_b h4 (ob_j (plan_step_j4.ok ht n _ _ _ _ _ _ _ _ _ _ _ _ _ _ _ _ _ h6) ob))))))))))))))))))) (by kernel_rfl)
        · exact path (ob_b h1 (ob_b h2 (ob_b h2 (ob_b h2 (ob_c (ht.pred_Check _ _ h3) (ob_b h2 (ob_b h2 (ob_b h4 (ob_b h4 (ob_b h4 (ob_b h4 (ob_b (congrArg (!·) h2) (ob_b (congrArg (!·) h2) (ob_b (congrArg (!·) h2) (ob_b (congrArg (!·) h2) (ob_b h4 (ob_b (congrArg (!·) h2) (ob_b h4 (ob_j (plan_step_j4.ok ht n _ _ _ _ _ _ _ _ _ _ _ _ _ _ _ _ _ h6) ob))))))))))))))))))) (by kernel_rfl)
    · rw [if_neg h2] at h
      replace h2 := Bool.eq_false_iff.2 h2
      rcases h7 : t.plan_empty (GPred.mk a11 a12 a13) with _ | a60
      · rw [h7] at h; cases h
      rw [h7] at h
      dsimp only at h
      have h8 := h
      rcases r with a61 | ⟨a62, a63, a64, a65, a66, a67, a68, a69, a70, a71, a72, a73, a74, a75, a76⟩
      · exact path (ob_b h1 (ob_b h2 (ob_b h2 (ob_b h2 (ob_b h2 (ob_b h2 (ob_b (rfl : false = false) (ob_b (rfl : false = false) (ob_b (rfl : false = false) (ob_b (rfl : false = false) (ob_b (congrArg (!·) h2) (ob_b (congrArg (!·) h2) (ob_b (congrArg (!·) h2) (ob_c (ht.plan_empty _ _ h7) (ob_b (congrArg (!·) h2) (ob_b (rfl : false = false) (ob_b (congrArg (!·) h2) (ob_b (rfl : false = false) (ob_j (plan_step_j4.ok ht n _ _ _ _ _ _ _ _ _ _ _ _ _ _ _ _ _ h8) ob))))))))))))))))))) (by kernel_rfl)
      · exact path (ob_b h1 (ob_b h2 (ob_b h2 (ob_b h2 (ob_b h2 (ob_b h2 (ob_b (rfl : false = false) (ob_b (rfl : false = false) (ob_b (rfl : false = false) (ob_b (rfl : false = false) (ob_b (congrArg (!·) h2) (ob_b (congrArg (!·) h2) (ob_b (congrArg (!·) h2) (ob_c (ht.plan_empty _ _ h7) (ob_b (congrArg (!·) h2) (ob_b (rfl : false = false) (ob_b (congrArg (!·) h2) (ob_b (rfl : false = false) (ob_j (plan_step_j4.ok ht n _ _ _ _ _ _ _ _ _ _ _ _ _ _ _ _ _ h8) ob))))))))))))))))))) (by kernel_rfl)
theorem plan_step_j2.ok {t : Tab} {call : FuncId → List AV → List AV → Option (AV × List AV)} (ht : TabOk t call) (n : Nat) (a1 : Int) (a2 : Bool) (a3 : Int) (a4 : List ByteArray) (a5 : List Int) (a6 : Int) (a7 : Int) (a8 : ByteArray) (a9 : List GValue) (a10 : List GValue) (a11 : Int) (a12 : List GValue) (a13 : List GPred) (a14 : List (List GStep)) (a15 : List GBy) (a16 : List ByteArray) (a17 : Int) (a18 : Int) (a19 : Int) (a20 : Int) (a21 : Int) (a22 : Int) (a23 : Int) (a24 : Int) (a25 : Bool) (a26 : Bool) (r : Bool ⊕ (Int × Int × (List ByteArray) × (List Int) × Int × Int × ByteArray × (List GValue) × (List GValue) × Int × (List GValue) × (List GPred) × (List (List GStep)) × (List GBy) × (List ByteArray))) (h : plan_step_j2 t n a1 a2 a3 a4 a5 a6 a7 a8 a9 a10 a11 a12 a13 a14 a15 a16 a17 a18 a19 a20 a21 a22 a23 a24 a25 a26 = some r) : exec (env Tryd.prog 50 Tryd.f50 call) n (sub [1, 1, 1, 1, 0, 0, 1, 1, 1] (bodyOf Tryd.f50)) (mkSt 163 163 [(1, (.t (.v (.int .i64 a1)))), (2, (.ptr 2 0 [] 0)), (5, (.ptr 5 0 [] 0)), (60, (.t (.v (.bool a2))))] [(2, (.t (.st [(.v (.int .i64 a3)), (.sl false 1 (texts a4)), (.sl false 1 (ints_i64 a5)), (.st [(.v (.int .i64 a6)), (.v (.int .i64 a7)), (.v (.string a8)), (.sl false 5 (GValue.ts a9)), (.sl false 5 (GValue.ts a10))]), (.st [(.v (.int .i64 a11)), (.sl false 5 (GValue.ts a12)), (.sl false 3 (GPred.ts a13))]), (.sl false 1 (rows_GStep_ts a14)), (.sl false 4 (GBy.ts a15)), (.sl false 1 (texts a16))]))), (5, (.t (.st [(.st [(.v (.int .i64 a17)), (.v (.int .i64 a18))]), (.st [(.v (.int .i64 a19)), (.v (.int .i64 a20))]), (.st [(.v (.int .i64 a21)), (.v (.int .i64 a22))]), (.st [(.v (.int .i64 a23)), (.v (.int .i64 a24))]), (.v (.bool a25)), (.v (.bool a26))])))]) = some (plan_step_j2.to r) := by
  rw [plan_step_j2] at h
  by_cases h1 : a2 = true
  · rw [if_pos h1] at h
    rw [← Option.some.inj h]
    exact path (ob_b h1 ob) (by kernel_rfl)
  · rw [if_neg h1] at h
    replace h1 := Bool.eq_false_iff.2 h1
    by_cases h2 : a25 = true
    · rw [if_pos h2] at h
      rcases h3 : t.value_Check (GValue.mk a6 a7 a8 a9 a10) with _ | a27
      · rw [h3] at h; cases h
      rw [h3] at h
      dsimp only at h
      by_cases h4 : (a27 != 0) = true
      · rw [if_pos h4] at h
        have h5 := h
        rcases r with a28 | ⟨a29, a30, a31, a32, a33, a34, a35, a36, a37, a38, a39, a40, a41, a42, a43⟩
        · exact path (ob_b h1 (ob_b h2 (ob_b h2 (ob_b h2 (ob_c (ht.value_Check _ _ h3) (ob_b h2 (ob_b h2 (ob_b h4 (ob_b h4 (ob_b h4 (ob_b h4 (ob_b h4 (ob_b h4 (ob_j (plan_step_j3.ok ht n _ _ _ _ _ _ _ _ _ _ _ _ _ _ _ _ _ _ _ _ _ _ _ _ _ _ _ h5) ob)))))))))))))) (by kernel_rfl)
        · exact path (ob_b h1 (ob_b h2 (ob_b h2 (ob_b h2 (ob_c (ht.value_Check _ _ h3) (ob_b h2 (ob_b h2 (ob_b h4 (ob_b h4 (ob_b h4 (ob_b h4 (ob_b h4 (ob_b h4 (ob_j (plan_step_j3.ok ht n _ _ _ _ _ _ _ _ _ _ _ _ _ _ _ _ _ _ _ _ _ _ _ _ _ _ _ h5) ob)))))))))))))) (by kernel_rfl)
      · rw [if_neg h4] at h
        replace h4 := Bool.eq_false_iff.2 h4
        have h6 := h
        rcases r with a44 | ⟨a45, a46, a47, a48, a49, a50, a51, a52, a53, a54, a55, a56, a57, a58, a59⟩
        · exact path (ob_b h1 (ob_b h2 (ob_b h2 (ob_b h2 (ob_c (ht.value_Check _ _ h3) (ob_b h2 (ob_b h2 (ob_b h4 (ob_b h4 (ob_b h4 (ob_b h4 (ob_b (congrArg (!·) h2) (ob_b (congrArg (!·) h2) (ob_b (congrArg (!·) h2) (ob_b (congrArg (!·) h2) (ob_b (congrArg (!·) h2) (ob_b h4 (ob_b (congrArg (!·) h2) (ob_b h4 (ob_j (plan_step_j3.ok ht n _ _ _ _ _ _ _ _ _ _ _ _ _ _ _ _ _ _ _ _ _ _ _ _ _ _ _ h6) ob)))))))))))))))))))) (by kernel_rfl)
        · exact path (ob_b h1 (ob_b h2 (ob_b h2 (ob_b h2 (ob_c (ht.value_Check _ _ h3) (ob_b h2 (ob_b h2 (ob_b h4 (ob_b h4 (ob_b h4 (ob_b h4 (ob_b (congrArg (!·) h2) (ob_b (congrArg (!·) h2) (ob_b (congrArg (!·) h2) (ob_b (congrArg (!·) h2) (ob_b (congrArg (!·) h2) (ob_b h4 (ob_b (congrArg (!·) h2) (ob_b h4 (ob_j (plan_step_j3.ok ht n _ _ _ _ _ _ _ _ _ _ _ _ _ _ _ _ _ _ _ _ _ _ _ _ _ _ _ h6) ob)))))))))))))))))))) (by kernel_rfl)
    · rw [if_neg h2] at h
      replace h2 := Bool.eq_false_iff.2 h2
      rcases h7 : t.value_Same (GValue.mk a6 a7 a8 a9 a10) (GValue.mk 0 0 ByteArray.empty ([] : List GValue) ([] : List GValue)) with _ | a60
      · rw [h7] at h; cases h
      rw [h7] at h
      dsimp only at h
      have h8 := h
      rcases r with a61 | ⟨a62, a63, a64, a65, a66, a67, a68, a69, a70, a71, a72, a73, a74, a75, a76⟩
      · exact path (ob_b h1 (ob_b h2 (ob_b h2 (ob_b h2 (ob_b h2 (ob_b h2 (ob_b (rfl : false = false) (ob_b (rfl : false = false) (ob_b (rfl : false = false) (ob_b (rfl : false = false) (ob_b (congrArg (!·) h2) (ob_b (congrArg (!·) h2) (ob_b (congrArg (!·) h2) (ob_b (congrArg (!·) h2) (ob_c (ht.value_Same _ _ _ h7) (ob_b (congrArg (!·) h2) (ob_b (rfl : false = false) (ob_b (congrArg (!·) h2) (ob_b (rfl : false = false) (ob_j (plan_step_j3.ok ht n _ _ _ _ _ _ _ _ _ _ _ _ _ _ _ _ _ _ _ _ _ _ _ _ _ _ _ h8) ob)))))))))))))))))))) (by kernel_rfl)
      · exact path (ob_b h1 (ob_b h2 (ob_b h2 (ob_b h2 (ob_b h2 (ob_b h2 (ob_b (rfl : false = false) (ob_b (rfl : false = false) (ob_b (rfl : false = false) (ob_b (rfl : false = false) (ob_b (congrArg (!·) h2) (ob_b (congrArg (!·) h2) (ob_b (congrArg (!·) h2) (ob_b (congrArg (!·) h2) (ob_c (ht.value_Same _ _ _ h7) (ob_b (congrArg (!·) h2) (ob_b (rfl : false = false) (ob_b (congrArg (!·) h2) (ob_b (rfl : false = false) (ob_j (plan_step_j3.ok ht n _ _ _ _ _ _ _ _ _ _ _ _ _ _ _ _ _ _ _ _ _ _ _ _ _ _ _ h8) ob)))))))))))))))))))) (by kernel_rfl)
end Go.Proofs.YtgkfjhfehdefaaaDoor.W
