/- The proofs of it, part 1. -/
import Derived.Test.YtcgckbjdadmcmaaQ4D0
namespace Go.Proofs.Ytcgckbjdadmcmaa.W
open Go.Proofs.Ytcgckbjdadmcmaa.Flat
set_option linter.unusedVariables false
set_option linter.unusedSimpArgs false
theorem pred_Check.ok {n : Nat} {t : Tab} (ht : TabOk t (run Try.prog own kp X n)) : ∀ (p1 : GPred) r, pred_Check t n p1 = some r → run Try.prog own kp X (n + 1) 12 [(.t (GPred.t p1))] [] = some ((.t (.v (.int .i64 r))), []) := by
  intro p1 r h
  obtain ⟨a1, a2, a3⟩ := p1
  rw [pred_Check] at h
  rcases h1 : t.pred_right (GPred.mk a1 a2 a3) 1 with _ | a4
  · rw [h1] at h; cases h
  rw [h1] at h
  dsimp only at h
  by_cases h2 : a4 = true
  · rw [if_pos h2] at h
    rw [← Option.some.inj h]
    exact run_path Try.func12 (ob_c (ht.pred_right _ _ _ h1) (ob_b (congrArg (!·) h2) ob)) (by kernel_rfl)
  · rw [if_neg h2] at h
    replace h2 := Bool.eq_false_iff.2 h2
    rw [← Option.some.inj h]
    exact run_path Try.func12 (ob_c (ht.pred_right _ _ _ h1) (ob_b (congrArg (!·) h2) ob)) (by kernel_rfl)
theorem ref09_Check.ok {n : Nat} {t : Tab} (ht : TabOk t (run Try.prog own kp X n)) : ∀ (p1 : GPred) r, ref09_Check t n p1 = some r → run Try.prog own kp X (n + 1) 13 [(.t (GPred.t p1))] [] = some ((.t (.v (.int .i64 r))), []) := by
  intro p1 r h
  obtain ⟨a1, a2, a3⟩ := p1
  rw [ref09_Check] at h
  rcases h1 : t.ref09_right (GPred.mk a1 a2 a3) 1 with _ | a4
  · rw [h1] at h; cases h
  rw [h1] at h
  dsimp only at h
  by_cases h2 : a4 = true
  · rw [if_pos h2] at h
    rw [← Option.some.inj h]
    exact run_path Try.func13 (ob_c (ht.ref09_right _ _ _ h1) (ob_b (congrArg (!·) h2) ob)) (by kernel_rfl)
  · rw [if_neg h2] at h
    replace h2 := Bool.eq_false_iff.2 h2
    rw [← Option.some.inj h]
    exact run_path Try.func13 (ob_c (ht.ref09_right _ _ _ h1) (ob_b (congrArg (!·) h2) ob)) (by kernel_rfl)
theorem pred_Test.ok {n : Nat} {t : Tab} (ht : TabOk t (run Try.prog own kp X n)) : ∀ (p1 : GPred) (p2 : GValue) r, pred_Test t n p1 p2 = some r → run Try.prog own kp X (n + 1) 14 [(.t (GPred.t p1)), (.t (GValue.t p2))] [] = some ((.t (.v (.bool r))), []) := by
  intro p1 p2 r h
  obtain ⟨a1, a2, a3⟩ := p1
  obtain ⟨a4, a5, a6, a7, a8⟩ := p2
  rw [pred_Test] at h
  rcases h1 : t.pred_right (GPred.mk a1 a2 a3) 1 with _ | a9
  · rw [h1] at h; cases h
  rw [h1] at h
  dsimp only at h
  by_cases h2 : a9 = true
  · rw [if_pos h2] at h
    obtain ⟨a10, rfl⟩ : ∃ z_, z_ = r := ⟨_, rfl⟩
    have h3 := h
    exact run_path Try.func14 (ob_c (ht.pred_right _ _ _ h1) (ob_b h2 (ob_b h2 (ob_b h2 (ob_c (ht.pred_test _ _ _ h3) (ob_b h2 ob)))))) (by kernel_rfl)
  · rw [if_neg h2] at h
    replace h2 := Bool.eq_false_iff.2 h2
    rw [← Option.some.inj h]
    exact run_path Try.func14 (ob_c (ht.pred_right _ _ _ h1) (ob_b h2 (ob_b h2 (ob_b h2 (ob_b h2 ob))))) (by kernel_rfl)
theorem ref09_Test.ok {n : Nat} {t : Tab} (ht : TabOk t (run Try.prog own kp X n)) : ∀ (p1 : GPred) (p2 : GValue) r, ref09_Test t n p1 p2 = some r → run Try.prog own kp X (n + 1) 15 [(.t (GPred.t p1)), (.t (GValue.t p2))] [] = some ((.t (.v (.bool r))), []) := by
  intro p1 p2 r h
  obtain ⟨a1, a2, a3⟩ := p1
  obtain ⟨a4, a5, a6, a7, a8⟩ := p2
  rw [ref09_Test] at h
  rcases h1 : t.ref09_right (GPred.mk a1 a2 a3) 1 with _ | a9
  · rw [h1] at h; cases h
  rw [h1] at h
  dsimp only at h
  by_cases h2 : a9 = true
  · rw [if_pos h2] at h
    obtain ⟨a10, rfl⟩ : ∃ z_, z_ = r := ⟨_, rfl⟩
    have h3 := h
    exact run_path Try.func15 (ob_c (ht.ref09_right _ _ _ h1) (ob_b h2 (ob_b h2 (ob_b h2 (ob_c (ht.ref09_test _ _ _ h3) (ob_b h2 ob)))))) (by kernel_rfl)
  · rw [if_neg h2] at h
    replace h2 := Bool.eq_false_iff.2 h2
    rw [← Option.some.inj h]
    exact run_path Try.func15 (ob_c (ht.ref09_right _ _ _ h1) (ob_b h2 (ob_b h2 (ob_b h2 (ob_b h2 ob))))) (by kernel_rfl)
theorem pred_Negate.ok {n : Nat} {t : Tab} (ht : TabOk t (run Try.prog own kp X n)) : ∀ (p1 : GPred) r, pred_Negate t n p1 = some r → run Try.prog own kp X (n + 1) 16 [(.t (GPred.t p1))] [] = some ((.t (GPred.t r)), []) := by
  intro p1 r h
  obtain ⟨a1, a2, a3⟩ := p1
  rw [pred_Negate] at h
  rcases h1 : t.pred_right (GPred.mk a1 a2 a3) 1 with _ | a4
  · rw [h1] at h; cases h
  rw [h1] at h
  dsimp only at h
  by_cases h2 : a4 = true
  · rw [if_pos h2] at h
    rcases h3 : t.pred_Copy (GPred.mk a1 a2 a3) with _ | ⟨a5, a6, a7⟩
    · rw [h3] at h; cases h
    rw [h3] at h
    dsimp only at h
    obtain ⟨a8, a9, a10⟩ := r
    have h4 := h
    exact run_path Try.func16 (ob_c (ht.pred_right _ _ _ h1) (ob_b (congrArg (!·) h2) (ob_c (ht.pred_Copy _ _ h3) (ob_c (ht.pred_negate _ _ h4) ob)))) (by kernel_rfl)
  · rw [if_neg h2] at h
    replace h2 := Bool.eq_false_iff.2 h2
    rw [← Option.some.inj h]
    exact run_path Try.func16 (ob_c (ht.pred_right _ _ _ h1) (ob_b (congrArg (!·) h2) ob)) (by kernel_rfl)
theorem ref09_Same_l2.okL {t : Tab} {call : FuncId → List AV → List AV → Option (AV × List AV)} (ht : TabOk t call) (n : Nat) : ∀ (k : Nat) (a1 : Int) (a2 : Int) (a3 : List GValue) (a4 : List GPred) (a5 : Int) (a6 : List GValue) (a7 : List GPred) (r : Bool ⊕ (Int × Bool × Int × (List GValue) × (List GPred) × Int × (List GValue) × (List GPred))), ref09_Same_l2 t n k a1 a2 a3 a4 a5 a6 a7 = some r → loopN (exec (env Try.prog 18 Try.f18 call) n (sub [1, 1, 0, 1, 0, 0] (bodyOf Try.f18))) k (mkSt 47 47 [(2, (.ptr 2 0 [] 0)), (3, (.ptr 3 0 [] 0)), (5, (.t (.v (.int .i64 a1))))] [(2, (.t (.st [(.v (.int .i64 a2)), (.sl false 5 (GValue.ts a3)), (.sl false 3 (GPred.ts a4))]))), (3, (.t (.st [(.v (.int .i64 a5)), (.sl false 5 (GValue.ts a6)), (.sl false 3 (GPred.ts a7))])))]) = some (ref09_Same_l2.to r)
  | 0, a1, a2, a3, a4, a5, a6, a7, r, h => by rw [ref09_Same_l2] at h; cases h
  | k + 1, a1, a2, a3, a4, a5, a6, a7, r, h => by
    rw [ref09_Same_l2] at h
    by_cases h1 : (decide (a1 < (a4.length : Int))) = true
    · rw [if_pos h1] at h
      by_cases h2 : (decide (0 ≤ (a1 : Int))) = true
      case neg => rw [if_neg h2] at h; cases h
      rw [if_pos h2] at h
      rcases h3 : a4[(a1 : Int).toNat]? with _ | ⟨a8, a9, a10⟩
      · rw [h3] at h; cases h
      rw [h3] at h
      dsimp only at h
      rcases h4 : a7[(a1 : Int).toNat]? with _ | ⟨a11, a12, a13⟩
      · rw [h4] at h; cases h
      rw [h4] at h
      dsimp only at h
      rcases h5 : t.ref09_Same (GPred.mk a8 a9 a10) (GPred.mk a11 a12 a13) with _ | a14
      · rw [h5] at h; cases h
      rw [h5] at h
      dsimp only at h
      by_cases h6 : a14 = true
      · rw [if_pos h6] at h
        exact loop_more (path (ob_v (len_ts GPred.ts_map (l := a4)) (ob_b h1 (ob_n h2 (ob_t (look_ts GPred.ts_map h3) (ob_n h2 (ob_t (look_ts GPred.ts_map h4) (ob_c (ht.ref09_Same _ _ _ h5) (ob_b (congrArg (!·) h6) ob)))))))) (by kernel_rfl)) (ref09_Same_l2.okL ht n k _ _ _ _ _ _ _ _ h)
      · rw [if_neg h6] at h
        replace h6 := Bool.eq_false_iff.2 h6
        rw [← Option.some.inj h]
        exact loop_out (path (ob_v (len_ts GPred.ts_map (l := a4)) (ob_b h1 (ob_n h2 (ob_t (look_ts GPred.ts_map h3) (ob_n h2 (ob_t (look_ts GPred.ts_map h4) (ob_c (ht.ref09_Same _ _ _ h5) (ob_b (congrArg (!·) h6) ob)))))))) (by kernel_rfl)) (fun h => by cases h)
    · rw [if_neg h1] at h
      replace h1 := Bool.eq_false_iff.2 h1
      rw [← Option.some.inj h]
      exact loop_out (path (ob_v (len_ts GPred.ts_map (l := a4)) (ob_b h1 ob)) (by kernel_rfl)) (fun h => by cases h)
theorem ref09_Same_l2.ok {t : Tab} {call : FuncId → List AV → List AV → Option (AV × List AV)} (ht : TabOk t call) (n : Nat) (a1 : Int) (a2 : Int) (a3 : List GValue) (a4 : List GPred) (a5 : Int) (a6 : List GValue) (a7 : List GPred) (r : Bool ⊕ (Int × Bool × Int × (List GValue) × (List GPred) × Int × (List GValue) × (List GPred))) (h : ref09_Same_l2 t n n a1 a2 a3 a4 a5 a6 a7 = some r) : exec (env Try.prog 18 Try.f18 call) n (sub [1, 1, 0, 1, 0] (bodyOf Try.f18)) (mkSt 47 47 [(2, (.ptr 2 0 [] 0)), (3, (.ptr 3 0 [] 0)), (5, (.t (.v (.int .i64 a1))))] [(2, (.t (.st [(.v (.int .i64 a2)), (.sl false 5 (GValue.ts a3)), (.sl false 3 (GPred.ts a4))]))), (3, (.t (.st [(.v (.int .i64 a5)), (.sl false 5 (GValue.ts a6)), (.sl false 3 (GPred.ts a7))])))]) = some (ref09_Same_l2.to r) := by
  have e1 : sub [1, 1, 0, 1, 0] (bodyOf Try.f18) = .loop (sub [1, 1, 0, 1, 0, 0] (bodyOf Try.f18)) := by kernel_rfl
  rw [e1, exec]
  exact ref09_Same_l2.okL ht n n a1 a2 a3 a4 a5 a6 a7 r h
theorem ref09_Same_j1.ok {t : Tab} {call : FuncId → List AV → List AV → Option (AV × List AV)} (ht : TabOk t call) (n : Nat) (a1 : Int) (a2 : List GValue) (a3 : List GPred) (a4 : Int) (a5 : List GValue) (a6 : List GPred) (r : Bool) (h : ref09_Same_j1 t n a1 a2 a3 a4 a5 a6 = some r) : exec (env Try.prog 18 Try.f18 call) n (sub [1, 1] (bodyOf Try.f18)) (mkSt 47 47 [(2, (.ptr 2 0 [] 0)), (3, (.ptr 3 0 [] 0))] [(2, (.t (.st [(.v (.int .i64 a1)), (.sl false 5 (GValue.ts a2)), (.sl false 3 (GPred.ts a3))]))), (3, (.t (.st [(.v (.int .i64 a4)), (.sl false 5 (GValue.ts a5)), (.sl false 3 (GPred.ts a6))])))]) = some (ref09_Same_j1.to r) := by
  rw [ref09_Same_j1] at h
  rcases h1 : ref09_Same_l2 t n n 0 a1 a2 a3 a4 a5 a6 with _ | q_
  · rw [h1] at h; cases h
  rw [h1] at h
  rcases q_ with a7 | ⟨a8, a9, a10, a11, a12, a13, a14, a15⟩
  · dsimp only at h
    rw [← Option.some.inj h]
    exact path (ob_k (ref09_Same_l2.ok ht n _ _ _ _ _ _ _ _ h1) ob) (by kernel_rfl)
  · dsimp only at h
    rw [← Option.some.inj h]
    exact path (ob_k (ref09_Same_l2.ok ht n _ _ _ _ _ _ _ _ h1) ob) (by kernel_rfl)
theorem ref09_Same.ok {n : Nat} {t : Tab} (ht : TabOk t (run Try.prog own kp X n)) : ∀ (p1 : GPred) (p2 : GPred) r, ref09_Same t n p1 p2 = some r → run Try.prog own kp X (n + 1) 18 [(.t (GPred.t p1)), (.t (GPred.t p2))] [] = some ((.t (.v (.bool r))), []) := by
  intro p1 p2 r h
  obtain ⟨a1, a2, a3⟩ := p1
  obtain ⟨a4, a5, a6⟩ := p2
  rw [ref09_Same] at h
  by_cases h1 : (a1 != a4) = true
  · rw [if_pos h1] at h
    rw [← Option.some.inj h]
    exact run_path Try.func18 (ob_b h1 (ob_b h1 (ob_b h1 (ob_b h1 (ob_b h1 (ob_b h1 (ob_b h1 (ob_b (rfl : true = true) (ob_b (rfl : true = true) (ob_b (rfl : true = true) (ob_b (rfl : true = true) (ob_b (rfl : true = true) (ob_b (rfl : true = true) (ob_b (rfl : true = true) (ob_b (rfl : true = true) (ob_b (rfl : true = true) ob)))))))))))))))) (by kernel_rfl)
  · rw [if_neg h1] at h
    replace h1 := Bool.eq_false_iff.2 h1
    rcases h2 : t.ref02_SameRows a2 a5 with _ | a7
    · rw [h2] at h; cases h
    rw [h2] at h
    dsimp only at h
    by_cases h3 : a7 = true
    · rw [if_pos h3] at h
      by_cases h4 : ((a3.length : Int) != (a6.length : Int)) = true
      · rw [if_pos h4] at h
        rw [← Option.some.inj h]
        exact run_path Try.func18 (ob_b h1 (ob_b h1 (ob_b h1 (ob_b h1 (ob_b h1 (ob_c (ht.ref02_SameRows _ _ _ h2) (ob_b h1 (ob_b h1 (ob_b (congrArg (!·) h3) (ob_b (congrArg (!·) h3) (ob_b (congrArg (!·) h3) (ob_v (len_ts GPred.ts_map (l := a3)) (ob_b (congrArg (!·) h3) (ob_b (congrArg (!·) h3) (ob_b (congrArg (!·) h3) (ob_v (len_ts GPred.ts_map (l := a6)) (ob_b (congrArg (!·) h3) (ob_b (congrArg (!·) h3) (ob_b h4 ob))))))))))))))))))) (by kernel_rfl)
      · rw [if_neg h4] at h
        replace h4 := Bool.eq_false_iff.2 h4
        obtain ⟨a8, rfl⟩ : ∃ z_, z_ = r := ⟨_, rfl⟩
        have h5 := h
        exact run_path Try.func18 (ob_b h1 (ob_b h1 (ob_b h1 (ob_b h1 (ob_b h1 (ob_c (ht.ref02_SameRows _ _ _ h2) (ob_b h1 (ob_b h1 (ob_b (congrArg (!·) h3) (ob_b (congrArg (!·) h3) (ob_b (congrArg (!·) h3) (ob_v (len_ts GPred.ts_map (l := a3)) (ob_b (congrArg (!·) h3) (ob_b (congrArg (!·) h3) (ob_b (congrArg (!·) h3) (ob_v (len_ts GPred.ts_map (l := a6)) (ob_b (congrArg (!·) h3) (ob_b (congrArg (!·) h3) (ob_b h4 (ob_j (ref09_Same_j1.ok ht n _ _ _ _ _ _ _ h5) ob)))))))))))))))))))) (by kernel_rfl)
    · rw [if_neg h3] at h
      replace h3 := Bool.eq_false_iff.2 h3
      rw [← Option.some.inj h]
      exact run_path Try.func18 (ob_b h1 (ob_b h1 (ob_b h1 (ob_b h1 (ob_b h1 (ob_c (ht.ref02_SameRows _ _ _ h2) (ob_b h1 (ob_b h1 (ob_b (congrArg (!·) h3) (ob_b (congrArg (!·) h3) (ob_b (congrArg (!·) h3) (ob_b (congrArg (!·) h3) (ob_b (congrArg (!·) h3) (ob_b (congrArg (!·) h3) (ob_b (congrArg (!·) h3) (ob_b (congrArg (!·) h3) (ob_b (rfl : true = true) ob))))))))))))))))) (by kernel_rfl)
theorem ref02_Check.ok {n : Nat} {t : Tab} (ht : TabOk t (run Try.prog own kp X n)) : ∀ (p1 : GValue) r, ref02_Check t n p1 = some r → run Try.prog own kp X (n + 1) 20 [(.t (GValue.t p1))] [] = some ((.t (.v (.int .i64 r))), []) := by
  intro p1 r h
  obtain ⟨a1, a2, a3, a4, a5⟩ := p1
  rw [ref02_Check] at h
  rcases h1 : t.ref02_right (GValue.mk a1 a2 a3 a4 a5) 1 with _ | a6
  · rw [h1] at h; cases h
  rw [h1] at h
  dsimp only at h
  by_cases h2 : a6 = true
  · rw [if_pos h2] at h
    rw [← Option.some.inj h]
    exact run_path Try.func20 (ob_c (ht.ref02_right _ _ _ h1) (ob_b (congrArg (!·) h2) ob)) (by kernel_rfl)
  · rw [if_neg h2] at h
    replace h2 := Bool.eq_false_iff.2 h2
    rw [← Option.some.inj h]
    exact run_path Try.func20 (ob_c (ht.ref02_right _ _ _ h1) (ob_b (congrArg (!·) h2) ob)) (by kernel_rfl)
theorem law09_one.ok {n : Nat} {t : Tab} (ht : TabOk t (run Try.prog own kp X n)) : ∀ (p1 : Int) (p2 : GValue) r, law09_one t n p1 p2 = some r → run Try.prog own kp X (n + 1) 21 [(.t (.v (.int .i64 p1))), (.t (GValue.t p2))] [] = some ((.t (GPred.t r)), []) := by
  intro p1 p2 r h
  obtain ⟨a1, rfl⟩ : ∃ z_, z_ = p1 := ⟨_, rfl⟩
  obtain ⟨a2, a3, a4, a5, a6⟩ := p2
  rw [law09_one] at h
  rw [← Option.some.inj h]
  exact run_path Try.func21 ob (by kernel_rfl)
theorem ref02_Many_j2.ok {t : Tab} {call : FuncId → List AV → List AV → Option (AV × List AV)} (ht : TabOk t call) (n : Nat) (a1 : List GValue) (a2 : Int) (a3 : Int) (a4 : Int) (r : (List GValue) × Int × Int × Int) (h : ref02_Many_j2 t n a1 a2 a3 a4 = some r) : exec (env Try.prog 22 Try.f22 call) n (sub [1, 1, 0, 1, 0, 0, 1] (bodyOf Try.f22)) (mkSt 29 29 [(0, (.t (.sl false 5 (GValue.ts a1)))), (1, (.t (.v (.int .i64 a2)))), (5, (.t (.v (.int .i64 a3)))), (6, (.t (.v (.int .i64 a4))))] []) = some (ref02_Many_j2.to r) := by
  rw [ref02_Many_j2] at h
  by_cases h1 : (decide (0 ≤ (a4 : Int))) = true
  case neg => rw [if_neg h1] at h; cases h
  rw [if_pos h1] at h
  rcases h2 : a1[(a4 : Int).toNat]? with _ | ⟨a5, a6, a7, a8, a9⟩
  · rw [h2] at h; cases h
  rw [h2] at h
  dsimp only at h
  rcases h3 : t.ref02_Count (GValue.mk a5 a6 a7 a8 a9) (IntKind.wrap .i64 (a2 - a3)) with _ | a10
  · rw [h3] at h; cases h
  rw [h3] at h
  dsimp only at h
  rw [← Option.some.inj h]
  exact path (ob_n h1 (ob_t (look_ts GValue.ts_map h2) (ob_c (ht.ref02_Count _ _ _ h3) ob))) (by kernel_rfl)
theorem ref02_Many_l1.okL {t : Tab} {call : FuncId → List AV → List AV → Option (AV × List AV)} (ht : TabOk t call) (n : Nat) : ∀ (k : Nat) (a1 : List GValue) (a2 : Int) (a3 : Int) (a4 : Int) (r : (List GValue) × Int × Int × Int × Bool), ref02_Many_l1 t n k a1 a2 a3 a4 = some r → loopN (exec (env Try.prog 22 Try.f22 call) n (sub [1, 1, 0, 1, 0, 0] (bodyOf Try.f22))) k (mkSt 29 29 [(0, (.t (.sl false 5 (GValue.ts a1)))), (1, (.t (.v (.int .i64 a2)))), (5, (.t (.v (.int .i64 a3)))), (6, (.t (.v (.int .i64 a4))))] []) = some (ref02_Many_l1.to r)
  | 0, a1, a2, a3, a4, r, h => by rw [ref02_Many_l1] at h; cases h
  | k + 1, a1, a2, a3, a4, r, h => by
    rw [ref02_Many_l1] at h
    by_cases h1 : (decide (a4 < (a1.length : Int))) = true
    · rw [if_pos h1] at h
      by_cases h2 : (decide (a3 < a2)) = true
      · rw [if_pos h2] at h
        rcases h3 : ref02_Many_j2 t n  a1 a2 a3 a4 with _ | q_
        · rw [h3] at h; cases h
        rw [h3] at h
        obtain ⟨a5, a6, a7, a8⟩ := q_
        dsimp only at h
        exact loop_more (path (ob_v (len_ts GValue.ts_map (l := a1)) (ob_b h1 (ob_b h1 (ob_b h1 (ob_b h1 (ob_b h2 (ob_j (ref02_Many_j2.ok ht n _ _ _ _ _ h3) ob))))))) (by kernel_rfl)) (ref02_Many_l1.okL ht n k _ _ _ _ _ h)
      · rw [if_neg h2] at h
        replace h2 := Bool.eq_false_iff.2 h2
        rw [← Option.some.inj h]
        exact loop_out (path (ob_v (len_ts GValue.ts_map (l := a1)) (ob_b h1 (ob_b h1 (ob_b h1 (ob_b h1 (ob_b h2 ob)))))) (by kernel_rfl)) (fun h => by cases h)
    · rw [if_neg h1] at h
      replace h1 := Bool.eq_false_iff.2 h1
      rw [← Option.some.inj h]
      exact loop_out (path (ob_v (len_ts GValue.ts_map (l := a1)) (ob_b h1 (ob_b h1 (ob_b h1 (ob_b h1 (ob_b (rfl : false = false) ob)))))) (by kernel_rfl)) (fun h => by cases h)
theorem ref02_Many_l1.ok {t : Tab} {call : FuncId → List AV → List AV → Option (AV × List AV)} (ht : TabOk t call) (n : Nat) (a1 : List GValue) (a2 : Int) (a3 : Int) (a4 : Int) (r : (List GValue) × Int × Int × Int × Bool) (h : ref02_Many_l1 t n n a1 a2 a3 a4 = some r) : exec (env Try.prog 22 Try.f22 call) n (sub [1, 1, 0, 1, 0] (bodyOf Try.f22)) (mkSt 29 29 [(0, (.t (.sl false 5 (GValue.ts a1)))), (1, (.t (.v (.int .i64 a2)))), (5, (.t (.v (.int .i64 a3)))), (6, (.t (.v (.int .i64 a4))))] []) = some (ref02_Many_l1.to r) := by
  have e1 : sub [1, 1, 0, 1, 0] (bodyOf Try.f22) = .loop (sub [1, 1, 0, 1, 0, 0] (bodyOf Try.f22)) := by kernel_rfl
  rw [e1, exec]
  exact ref02_Many_l1.okL ht n n a1 a2 a3 a4 r h
theorem ref02_Many.ok {n : Nat} {t : Tab} (ht : TabOk t (run Try.prog own kp X n)) : ∀ (p1 : List GValue) (p2 : Int) r, ref02_Many t n p1 p2 = some r → run Try.prog own kp X (n + 1) 22 [(.t (.sl false 5 (GValue.ts p1))), (.t (.v (.int .i64 p2)))] [] = some ((.t (.v (.int .i64 r))), []) := by
  intro p1 p2 r h
  obtain ⟨a1, rfl⟩ : ∃ z_, z_ = p1 := ⟨_, rfl⟩
  obtain ⟨a2, rfl⟩ : ∃ z_, z_ = p2 := ⟨_, rfl⟩
  rw [ref02_Many] at h
  rcases h1 : ref02_Many_l1 t n n a1 a2 0 0 with _ | q_
  · rw [h1] at h; cases h
  rw [h1] at h
  obtain ⟨a3, a4, a5, a6, a7⟩ := q_
  dsimp only at h
  rw [← Option.some.inj h]
  exact run_path Try.func22 (ob_k (ref02_Many_l1.ok ht n _ _ _ _ _ h1) ob) (by kernel_rfl)
theorem ref02_Same.ok {n : Nat} {t : Tab} (ht : TabOk t (run Try.prog own kp X n)) : ∀ (p1 : GValue) (p2 : GValue) r, ref02_Same t n p1 p2 = some r → run Try.prog own kp X (n + 1) 23 [(.t (GValue.t p1)), (.t (GValue.t p2))] [] = some ((.t (.v (.bool r))), []) := by
  intro p1 p2 r h
  obtain ⟨a1, a2, a3, a4, a5⟩ := p1
  obtain ⟨a6, a7, a8, a9, a10⟩ := p2
  rw [ref02_Same] at h
  rcases h1 : t.ref02_compare (GValue.mk a1 a2 a3 a4 a5) (GValue.mk a6 a7 a8 a9 a10) 1 with _ | a11
  · rw [h1] at h; cases h
  rw [h1] at h
  dsimp only at h
  rw [← Option.some.inj h]
  exact run_path Try.func23 (ob_c (ht.ref02_compare _ _ _ _ h1) ob) (by kernel_rfl)
theorem ref09_Count_j2.ok {t : Tab} {call : FuncId → List AV → List AV → Option (AV × List AV)} (ht : TabOk t call) (n : Nat) (a1 : Int) (a2 : Int) (a3 : Int) (a4 : Int) (a5 : List GValue) (a6 : List GPred) (r : Int × Int × Int × Int × (List GValue) × (List GPred)) (h : ref09_Count_j2 t n a1 a2 a3 a4 a5 a6 = some r) : exec (env Try.prog 24 Try.f24 call) n (sub [1, 1, 0, 1, 0, 0, 1] (bodyOf Try.f24)) (mkSt 36 36 [(1, (.t (.v (.int .i64 a1)))), (2, (.ptr 2 0 [] 0)), (5, (.t (.v (.int .i64 a2)))), (6, (.t (.v (.int .i64 a3))))] [(2, (.t (.st [(.v (.int .i64 a4)), (.sl false 5 (GValue.ts a5)), (.sl false 3 (GPred.ts a6))])))]) = some (ref09_Count_j2.to r) := by
  rw [ref09_Count_j2] at h
  by_cases h1 : (decide (0 ≤ (a3 : Int))) = true
  case neg => rw [if_neg h1] at h; cases h
  rw [if_pos h1] at h
  rcases h2 : a6[(a3 : Int).toNat]? with _ | ⟨a7, a8, a9⟩
  · rw [h2] at h; cases h
  rw [h2] at h
  dsimp only at h
  rcases h3 : t.ref09_Count (GPred.mk a7 a8 a9) (IntKind.wrap .i64 (a1 - a2)) with _ | a10
  · rw [h3] at h; cases h
  rw [h3] at h
  dsimp only at h
  rw [← Option.some.inj h]
  exact path (ob_n h1 (ob_t (look_ts GPred.ts_map h2) (ob_c (ht.ref09_Count _ _ _ h3) ob))) (by kernel_rfl)
theorem ref09_Count_l1.okL {t : Tab} {call : FuncId → List AV → List AV → Option (AV × List AV)} (ht : TabOk t call) (n : Nat) : ∀ (k : Nat) (a1 : Int) (a2 : Int) (a3 : Int) (a4 : Int) (a5 : List GValue) (a6 : List GPred) (r : Int × Int × Int × Bool × Int × (List GValue) × (List GPred)), ref09_Count_l1 t n k a1 a2 a3 a4 a5 a6 = some r → loopN (exec (env Try.prog 24 Try.f24 call) n (sub [1, 1, 0, 1, 0, 0] (bodyOf Try.f24))) k (mkSt 36 36 [(1, (.t (.v (.int .i64 a1)))), (2, (.ptr 2 0 [] 0)), (5, (.t (.v (.int .i64 a2)))), (6, (.t (.v (.int .i64 a3))))] [(2, (.t (.st [(.v (.int .i64 a4)), (.sl false 5 (GValue.ts a5)), (.sl false 3 (GPred.ts a6))])))]) = some (ref09_Count_l1.to r)
  | 0, a1, a2, a3, a4, a5, a6, r, h => by rw [ref09_Count_l1] at h; cases h
  | k + 1, a1, a2, a3, a4, a5, a6, r, h => by
    rw [ref09_Count_l1] at h
    by_cases h1 : (decide (a3 < (a6.length : Int))) = true
    · rw [if_pos h1] at h
      by_cases h2 : (decide (a2 < a1)) = true
      · rw [if_pos h2] at h
        rcases h3 : ref09_Count_j2 t n  a1 a2 a3 a4 a5 a6 with _ | q_
        · rw [h3] at h; cases h
        rw [h3] at h
        obtain ⟨a7, a8, a9, a10, a11, a12⟩ := q_
        dsimp only at h
        exact loop_more (path (ob_v (len_ts GPred.ts_map (l := a6)) (ob_b h1 (ob_b h1 (ob_b h1 (ob_b h1 (ob_b h2 (ob_j (ref09_Count_j2.ok ht n _ _ _ _ _ _ _ h3) ob))))))) (by kernel_rfl)) (ref09_Count_l1.okL ht n k _ _ _ _ _ _ _ h)
      · rw [if_neg h2] at h
        replace h2 := Bool.eq_false_iff.2 h2
        rw [← Option.some.inj h]
        exact loop_out (path (ob_v (len_ts GPred.ts_map (l := a6)) (ob_b h1 (ob_b h1 (ob_b h1 (ob_b h1 (ob_b h2 ob)))))) (by kernel_rfl)) (fun h => by cases h)
    · rw [if_neg h1] at h
      replace h1 := Bool.eq_false_iff.2 h1
      rw [← Option.some.inj h]
      exact loop_out (path (ob_v (len_ts GPred.ts_map (l := a6)) (ob_b h1 (ob_b h1 (ob_b h1 (ob_b h1 (ob_b (rfl : false = false) ob)))))) (by kernel_rfl)) (fun h => by cases h)
theorem ref09_Count_l1.ok {t : Tab} {call : FuncId → List AV → List AV → Option (AV × List AV)} (ht : TabOk t call) (n : Nat) (a1 : Int) (a2 : Int) (a3 : Int) (a4 : Int) (a5 : List GValue) (a6 : List GPred) (r : Int × Int × Int × Bool × Int × (List GValue) × (List GPred)) (h : ref09_Count_l1 t n n a1 a2 a3 a4 a5 a6 = some r) : exec (env Try.prog 24 Try.f24 call) n (sub [1, 1, 0, 1, 0] (bodyOf Try.f24)) (mkSt 36 36 [(1, (.t (.v (.int .i64 a1)))), (2, (.ptr 2 0 [] 0)), (5, (.t (.v (.int .i64 a2)))), (6, (.t (.v (.int .i64 a3))))] [(2, (.t (.st [(.v (.int .i64 a4)), (.sl false 5 (GValue.ts a5)), (.sl false 3 (GPred.ts a6))])))]) = some (ref09_Count_l1.to r) := by
  have e1 : sub [1, 1, 0, 1, 0] (bodyOf Try.f24) = .loop (sub [1, 1, 0, 1, 0, 0] (bodyOf Try.f24)) := by kernel_rfl
  rw [e1, exec]
  exact ref09_Count_l1.okL ht n n a1 a2 a3 a4 a5 a6 r h
theorem ref09_Count.ok {n : Nat} {t : Tab} (ht : TabOk t (run Try.prog own kp X n)) : ∀ (p1 : GPred) (p2 : Int) r, ref09_Count t n p1 p2 = some r → run Try.prog own kp X (n + 1) 24 [(.t (GPred.t p1)), (.t (.v (.int .i64 p2)))] [] = some ((.t (.v (.int .i64 r))), []) := by
  intro p1 p2 r h
  obtain ⟨a1, a2, a3⟩ := p1
  obtain ⟨a4, rfl⟩ : ∃ z_, z_ = p2 := ⟨_, rfl⟩
  rw [ref09_Count] at h
  rcases h1 : t.ref02_Many a2 a4 with _ | a5
  · rw [h1] at h; cases h
  rw [h1] at h
  dsimp only at h
  rcases h2 : ref09_Count_l1 t n n a4 (IntKind.wrap .i64 (1 + a5)) 0 a1 a2 a3 with _ | q_
  · rw [h2] at h; cases h
  rw [h2] at h
  obtain ⟨a6, a7, a8, a9, a10, a11, a12⟩ := q_
  dsimp only at h
  rw [← Option.some.inj h]
  exact run_path Try.func24 (ob_c (ht.ref02_Many _ _ _ h1) (ob_k (ref09_Count_l1.ok ht n _ _ _ _ _ _ _ h2) ob)) (by kernel_rfl)
theorem pred_Join.ok {n : Nat} {t : Tab} (ht : TabOk t (run Try.prog own kp X n)) : ∀ (p1 : Int) (p2 : List GPred) r, pred_Join t n p1 p2 = some r → run Try.prog own kp X (n + 1) 25 [(.t (.v (.int .i64 p1))), (.t (.sl false 3 (GPred.ts p2)))] [] = some ((.t (GPred.t r)), []) := by
  intro p1 p2 r h
  obtain ⟨a1, rfl⟩ : ∃ z_, z_ = p1 := ⟨_, rfl⟩
  obtain ⟨a2, rfl⟩ : ∃ z_, z_ = p2 := ⟨_, rfl⟩
  rw [pred_Join] at h
  rcases h1 : t.pred_right (GPred.mk a1 ([] : List GValue) a2) 1 with _ | a3
  · rw [h1] at h; cases h
  rw [h1] at h
  dsimp only at h
  by_cases h2 : a3 = true
  · rw [if_pos h2] at h
    obtain ⟨a4, a5, a6⟩ := r
    have h3 := h
    exact run_path Try.func25 (ob_c (ht.pred_right _ _ _ h1) (ob_b (congrArg (!·) h2) (ob_c (ht.pred_Copy _ _ h3) ob))) (by kernel_rfl)
  · rw [if_neg h2] at h
    replace h2 := Bool.eq_false_iff.2 h2
    rw [← Option.some.inj h]
    exact run_path Try.func25 (ob_c (ht.pred_right _ _ _ h1) (ob_b (congrArg (!·) h2) ob)) (by kernel_rfl)
theorem pred_right_j1.ok {t : Tab} {call : FuncId → List AV → List AV → Option (AV × List AV)} (ht : TabOk t call) (n : Nat) (a1 : Int) (a2 : List GValue) (a3 : List GPred) (a4 : Int) (r : Bool) (h : pred_right_j1 t n a1 a2 a3 a4 = some r) : exec (env Try.prog 27 Try.f27 call) n (sub [1, 1, 1] (bodyOf Try.f27)) (mkSt 62 62 [(2, (.ptr 2 0 [] 0)), (3, (.ptr 3 0 [] 0))] [(2, (.t (.st [(.v (.int .i64 a1)), (.sl false 5 (GValue.ts a2)), (.sl false 3 (GPred.ts a3))]))), (3, (.t (.v (.int .i64 a4))))]) = some (pred_right_j1.to r) := by
  rw [pred_right_j1] at h
  rcases h1 : t.slices_ContainsFunc_pred_right_1 a3 a4 with _ | a5
  · rw [h1] at h; cases h
  rw [h1] at h
  dsimp only at h
  by_cases h2 : a5 = true
  · rw [if_pos h2] at h
    rw [← Option.some.inj h]
    exact path (ob_c (ht.slices_ContainsFunc_pred_right_1 _ _ _ h1) (ob_b (congrArg (!·) h2) (ob_b (congrArg (!·) h2) (ob_b (congrArg (!·) h2) (ob_b (congrArg (!·) h2) (ob_b (congrArg (!·) h2) (ob_b (congrArg (!·) h2) ob))))))) (by kernel_rfl)
  · rw [if_neg h2] at h
    replace h2 := Bool.eq_false_iff.2 h2
    rcases h3 : t.slices_ContainsFunc_pred_right_2 a2 with _ | a6
    · rw [h3] at h; cases h
    rw [h3] at h
    dsimp only at h
    rw [← Option.some.inj h]
    exact path (ob_c (ht.slices_ContainsFunc_pred_right_1 _ _ _ h1) (ob_b (congrArg (!·) h2) (ob_b (congrArg (!·) h2) (ob_b (congrArg (!·) h2) (ob_b (congrArg (!·) h2) (ob_c (ht.slices_ContainsFunc_pred_right_2 _ _ h3) (ob_b (congrArg (!·) h2) (ob_b (congrArg (!·) h2) ob)))))))) (by kernel_rfl)
theorem pred_right.ok {n : Nat} {t : Tab} (ht : TabOk t (run Try.prog own kp X n)) : ∀ (p1 : GPred) (p2 : Int) r, pred_right t n p1 p2 = some r → run Try.prog own kp X (n + 1) 27 [(.t (GPred.t p1)), (.t (.v (.int .i64 p2)))] [] = some ((.t (.v (.bool r))), []) := by
  intro p1 p2 r h
  obtain ⟨a1, a2, a3⟩ := p1
  obtain ⟨a4, rfl⟩ : ∃ z_, z_ = p2 := ⟨_, rfl⟩
  rw [pred_right] at h
  rcases h1 : t.pred_arity a1 with _ | ⟨a5, a6, a7, a8⟩
  · rw [h1] at h; cases h
  rw [h1] at h
  dsimp only at h
  by_cases h2 : (decide (a4 > 12)) = true
  · rw [if_pos h2] at h
    rw [← Option.some.inj h]
    exact run_path Try.func27 (ob_c (ht.pred_arity _ _ h1) (ob_b h2 (ob_b h2 (ob_b h2 (ob_b h2 (ob_b h2 (ob_b h2 (ob_b (rfl : true = true) (ob_b (rfl : true = true) (ob_b (rfl : true = true) (ob_b (rfl : true = true) (ob_b (rfl : true = true) (ob_b (rfl : true = true) (ob_b (rfl : true = true) (ob_b (rfl : true = true) (ob_b (rfl : true = true) (ob_b (rfl : true = true) (ob_b (rfl : true = true) (ob_b (rfl : true = true) (ob_b (rfl : true = true) (ob_b (rfl : true = true) (ob_b (rfl : true = true) (ob_b (rfl : true = true) (ob_b (rfl : true = true) (ob_b (rfl : true = true) (ob_b (rfl : true = true) ob)))))))))))))))))))))))))) (by kernel_rfl)
  · rw [if_neg h2] at h
    replace h2 := Bool.eq_false_iff.2 h2
    by_cases h3 : (decide ((a2.length : Int) < a5)) = true
    · rw [if_pos h3] at h
      rw [← Option.some.inj h]
      exact run_path Try.func27 (ob_c (ht.pred_arity _ _ h1) (ob_b h2 (ob_b h2 (ob_b h2 (ob_v (len_ts GValue.ts_map (l := a2)) (ob_b h2 (ob_b h2 (ob_b h2 (ob_b h3 (ob_b h3 (ob_b h3 (ob_b h3 (ob_b h3 (ob_b h3 (ob_b (rfl : true = true) (ob_b (rfl : true = true) (ob_b (rfl : true = true) (ob_b (rfl : true = true) (ob_b (rfl : true = true) (ob_b (rfl : true = true) (ob_b (rfl : true = true) (ob_b (rfl : true = true) (ob_b (rfl : true = true) (ob_b (rfl : true = true) (ob_b (rfl : true = true) (ob_b (rfl : true = true) (ob_b (rfl : true = true) ob))))))))))))))))))))))))))) (by kernel_rfl)
    · rw [if_neg h3] at h
      replace h3 := Bool.eq_false_iff.2 h3
      by_cases h4 : (decide ((a2.length : Int) > a6)) = true
      · rw [if_pos h4] at h
        rw [← Option.some.inj h]
        exact run_path Try.func27 (ob_c (ht.pred_arity _ _ h1) (ob_b h2 (ob_b h2 (ob_b h2 (ob_v (len_ts GValue.ts_map (l := a2)) (ob_b h2 (ob_b h2 (ob_b h2 (ob_b h3 (ob_b h3 (ob_b h3 (ob_v (len_ts GValue.ts_map (l := a2)) (ob_b h3 (ob_b h3 (ob_b h3 (ob_b h4 (ob_b h4 (ob_b h4 (ob_b h4 (ob_b h4 (ob_b h4 (ob_b (rfl : true = true) (ob_b (rfl : true = true) (ob_b (rfl : true = true) (ob_b (rfl : true = true) (ob_b (rfl : true = true) (ob_b (rfl : true = true) (ob_b (rfl : true = true) ob)))))))))))))))))))))))))))) (by kernel_rfl)
      · rw [if_neg h4] at h
        replace h4 := Bool.eq_false_iff.2 h4
        by_cases h5 : (decide ((a3.length : Int) < a7)) = true
        · rw [if_pos h5] at h
          rw [← Option.some.inj h]
          exact run_path Try.func27 (ob_c (ht.pred_arity _ _ h1) (ob_b h2 (ob_b h2 (ob_b h2 (ob_v (len_ts GValue.ts_map (l := a2)) (ob_b h2 (ob_b h2 (ob_b h2 (ob_b h3 (ob_b h3 (ob_b h3 (ob_v (len_ts GValue.ts_map (l := a2)) (ob_b h3 (ob_b h3 (ob_b h3 (ob_b h4 (ob_b h4 (ob_b h4 (ob_v (len_ts GPred.ts_map (l := a3)) (ob_b h4 (ob_b h4 (ob_b h4 (ob_b h5 (ob_b h5 (ob_b h5 (ob_b h5 (ob_b h5 (ob_b h5 (ob_b (rfl : true = true) ob))))))))))))))))))))))))))))) (by kernel_rfl)
        · rw [if_neg h5] at h
          replace h5 := Bool.eq_false_iff.2 h5
          by_cases h6 : (decide ((a3.length : Int) > a8)) = true
          · rw [if_pos h6] at h
            rw [← Option.some.inj h]
            exact run_path Try.func27 (ob_c (ht.pred_arity _ _ h1) (ob_b h2 (ob_b h2 (ob_b h2 (ob_v (len_ts GValue.ts_map (l := a2)) (ob_b h2 (ob_b h2 (ob_b h2 (ob_b h3 (ob_b h3 (ob_b h3 (ob_v (len_ts GValue.ts_map (l := a2)) (ob_b h3 (ob_b h3 (ob_b h3 (ob_b h4 (ob_b h4 (ob_b h4 (ob_v (len_ts GPred.ts_map (l := a3)) (ob_b h4 (ob_b h4 (ob_b h4 (ob_b h5 (ob_b h5 (ob_b h5 (ob_v (len_ts GPred.ts_map (l := a3)) (ob_b h5 (ob_b h5 (ob_b h5 (ob_b h6 ob)))))))))))))))))))))))))))))) (by kernel_rfl)
          · rw [if_neg h6] at h
            replace h6 := Bool.eq_false_iff.2 h6
            obtain ⟨a9, rfl⟩ : ∃ z_, z_ = r := ⟨_, rfl⟩
            have h7 := h
            exact run_path Try.func27 (ob_c (ht.pred_arity _ _ h1) (ob_b h2 (ob_b h2 (ob_b h2 (ob_v (len_ts GValue.ts_map (l := a2)) (ob_b h2 (ob_b h2 (ob_b h2 (ob_b h3 (ob_b h3 (ob_b h3 (ob_v (len_ts GValue.ts_map (l := a2)) (ob_b h3 (ob_b h3 (ob_b h3 (ob_b h4 (ob_b h4 (ob_b h4 (ob_v (len_ts GPred.ts_map (l := a3)) (ob_b h4 (ob_b h4 (ob_b h4 (ob_b h5 (ob_b h5 (ob_b h5 (ob_v (len_ts GPred.ts_map (l := a3)) (ob_b h5 (ob_b h5 (ob_b h5 (ob_b h6 (ob_j (pred_right_j1.ok ht n _ _ _ _ _ h7) ob))))))))))))))))))))))))))))))) (by kernel_rfl)
theorem ref09_right_j4.ok {t : Tab} {call : FuncId → List AV → List AV → Option (AV × List AV)} (ht : TabOk t call) (n : Nat) (a1 : Int) (a2 : Int) (a3 : Int) (a4 : Bool) (a5 : Bool) (a6 : Int) (a7 : List GValue) (a8 : List GPred) (r : Int × Int × Int × Bool × Int × (List GValue) × (List GPred)) (h : ref09_right_j4 t n a1 a2 a3 a4 a5 a6 a7 a8 = some r) : exec (env Try.prog 28 Try.f28 call) n (sub [1, 1, 1, 1, 0, 1, 0, 1, 1, 1, 1, 1, 1, 1, 1, 1] (bodyOf Try.f28)) (mkSt 105 105 [(1, (.t (.v (.int .i64 a1)))), (2, (.ptr 2 0 [] 0)), (5, (.t (.v (.int .i64 a2)))), (6, (.t (.v (.int .i64 a3)))), (7, (.t (.v (.bool a4)))), (59, (.t (.v (.bool a5))))] [(2, (.t (.st [(.v (.int .i64 a6)), (.sl false 5 (GValue.ts a7)), (.sl false 3 (GPred.ts a8))])))]) = some (ref09_right_j4.to r) := by
  rw [ref09_right_j4] at h
  by_cases h1 : a5 = true
  · rw [if_pos h1] at h
    by_cases h2 : (a2 == 0) = true
    · rw [if_pos h2] at h
      by_cases h3 : (decide (a3 ≥ 2)) = true
      · rw [if_pos h3] at h
        rw [← Option.some.inj h]
        exact path (ob_b h1 (ob_b h2 (ob_b h2 (ob_b h2 (ob_b h3 (ob_b h3 (ob_b h3 ob))))))) (by kernel_rfl)
      · rw [if_neg h3] at h
        replace h3 := Bool.eq_false_iff.2 h3
        rw [← Option.some.inj h]
        exact path (ob_b h1 (ob_b h2 (ob_b h2 (ob_b h2 (ob_b h3 (ob_b h3 (ob_b h3 ob))))))) (by kernel_rfl)
    · rw [if_neg h2] at h
      replace h2 := Bool.eq_false_iff.2 h2
      rw [← Option.some.inj h]
      exact path (ob_b h1 (ob_b h2 (ob_b h2 (ob_b h2 (ob_b (rfl : false = false) (ob_b (rfl : false = false) (ob_b (rfl : false = false) ob))))))) (by kernel_rfl)
  · rw [if_neg h1] at h
    replace h1 := Bool.eq_false_iff.2 h1
    rw [← Option.some.inj h]
    exact path (ob_b h1 ob) (by kernel_rfl)
theorem ref09_right_j3.ok {t : Tab} {call : FuncId → List AV → List AV → Option (AV × List AV)} (ht : TabOk t call) (n : Nat) (a1 : Int) (a2 : Int) (a3 : Int) (a4 : Bool) (a5 : Int) (a6 : Bool) (a7 : Int) (a8 : List GValue) (a9 : List GPred) (r : Int × Int × Int × Bool × Int × (List GValue) × (List GPred)) (h : ref09_right_j3 t n a1 a2 a3 a4 a5 a6 a7 a8 a9 = some r) : exec (env Try.prog 28 Try.f28 call) n (sub [1, 1, 1, 1, 0, 1, 0, 1, 1, 1, 1, 1] (bodyOf Try.f28)) (mkSt 105 105 [(1, (.t (.v (.int .i64 a1)))), (2, (.ptr 2 0 [] 0)), (5, (.t (.v (.int .i64 a2)))), (6, (.t (.v (.int .i64 a3)))), (7, (.t (.v (.bool a4)))), (18, (.t (.v (.int .i64 a5)))), (42, (.t (.v (.bool a6))))] [(2, (.t (.st [(.v (.int .i64 a7)), (.sl false 5 (GValue.ts a8)), (.sl false 3 (GPred.ts a9))])))]) = some (ref09_right_j3.to r) := by
  rw [ref09_right_j3] at h
  by_cases h1 : a6 = true
  · rw [if_pos h1] at h
    by_cases h2 : (decide (a2 ≤ 1000)) = true
    · rw [if_pos h2] at h
      rw [← Option.some.inj h]
      exact path (ob_b h1 (ob_b h2 (ob_b h2 (ob_b h2 ob)))) (by kernel_rfl)
    · rw [if_neg h2] at h
      replace h2 := Bool.eq_false_iff.2 h2
      rw [← Option.some.inj h]
      exact path (ob_b h1 (ob_b h2 (ob_b h2 (ob_b h2 ob)))) (by kernel_rfl)
  · rw [if_neg h1] at h
    replace h1 := Bool.eq_false_iff.2 h1
    by_cases h3 : (a5 == 12) = true
    · rw [if_pos h3] at h
      by_cases h4 : (a2 == 0) = true
      · rw [if_pos h4] at h
        rw [← Option.some.inj h]
        exact path (ob_b h1 (ob_b h3 (ob_b h4 (ob_b h4 (ob_b h4 ob))))) (by kernel_rfl)
      · rw [if_neg h4] at h
        replace h4 := Bool.eq_false_iff.2 h4
        rw [← Option.some.inj h]
        exact path (ob_b h1 (ob_b h3 (ob_b h4 (ob_b h4 (ob_b h4 ob))))) (by kernel_rfl)
    · rw [if_neg h3] at h
      replace h3 := Bool.eq_false_iff.2 h3
      by_cases h5 : (a5 == 13) = true
      · rw [if_pos h5] at h
        obtain ⟨a10, a11, a12, a13, a14, a15, a16⟩ := r
        have h6 := h
        exact path (ob_b h1 (ob_b h3 (ob_b h5 (ob_j (ref09_right_j4.ok ht n _ _ _ _ _ _ _ _ _ h6) ob)))) (by kernel_rfl)
      · rw [if_neg h5] at h
        replace h5 := Bool.eq_false_iff.2 h5
        obtain ⟨a17, a18, a19, a20, a21, a22, a23⟩ := r
        have h7 := h
        exact path (ob_b h1 (ob_b h3 (ob_b h5 (ob_j (ref09_right_j4.ok ht n _ _ _ _ _ _ _ _ _ h7) ob)))) (by kernel_rfl)
theorem ref09_right_j2.ok {t : Tab} {call : FuncId → List AV → List AV → Option (AV × List AV)} (ht : TabOk t call) (n : Nat) (a1 : Int) (a2 : Int) (a3 : Int) (a4 : Bool) (a5 : Int) (a6 : Bool) (a7 : Int) (a8 : List GValue) (a9 : List GPred) (r : Int × Int × Int × Bool × Int × (List GValue) × (List GPred)) (h : ref09_right_j2 t n a1 a2 a3 a4 a5 a6 a7 a8 a9 = some r) : exec (env Try.prog 28 Try.f28 call) n (sub [1, 1, 1, 1, 0, 1, 0, 1, 1, 1] (bodyOf Try.f28)) (mkSt 105 105 [(1, (.t (.v (.int .i64 a1)))), (2, (.ptr 2 0 [] 0)), (5, (.t (.v (.int .i64 a2)))), (6, (.t (.v (.int .i64 a3)))), (7, (.t (.v (.bool a4)))), (18, (.t (.v (.int .i64 a5)))), (32, (.t (.v (.bool a6))))] [(2, (.t (.st [(.v (.int .i64 a7)), (.sl false 5 (GValue.ts a8)), (.sl false 3 (GPred.ts a9))])))]) = some (ref09_right_j2.to r) := by
  rw [ref09_right_j2] at h
  by_cases h1 : a6 = true
  · rw [if_pos h1] at h
    by_cases h2 : (a2 == 2) = true
    · rw [if_pos h2] at h
      rw [← Option.some.inj h]
      exact path (ob_b h1 (ob_b h2 (ob_b h2 (ob_b h2 ob)))) (by kernel_rfl)
    · rw [if_neg h2] at h
      replace h2 := Bool.eq_false_iff.2 h2
      rw [← Option.some.inj h]
      exact path (ob_b h1 (ob_b h2 (ob_b h2 (ob_b h2 ob)))) (by kernel_rfl)
  · rw [if_neg h1] at h
    replace h1 := Bool.eq_false_iff.2 h1
    by_cases h3 : (a5 == 10) = true
    · rw [if_pos h3] at h
      obtain ⟨a10, a11, a12, a13, a14, a15, a16⟩ := r
      have h4 := h
      exact path (ob_b h1 (ob_b h3 (ob_j (ref09_right_j3.ok ht n _ _ _ _ _ _ _ _ _ _ h4) ob))) (by kernel_rfl)
    · rw [if_neg h3] at h
      replace h3 := Bool.eq_false_iff.2 h3
      obtain ⟨a17, a18, a19, a20, a21, a22, a23⟩ := r
      have h5 := h
      exact path (ob_b h1 (ob_b h3 (ob_j (ref09_right_j3.ok ht n _ _ _ _ _ _ _ _ _ _ h5) ob))) (by kernel_rfl)
theorem ref09_right_j1.ok {t : Tab} {call : FuncId → List AV → List AV → Option (AV × List AV)} (ht : TabOk t call) (n : Nat) (a1 : Int) (a2 : Int) (a3 : Int) (a4 : Bool) (a5 : Int) (a6 : Bool) (a7 : Int) (a8 : List GValue) (a9 : List GPred) (r : Int × Int × Int × Bool × Int × (List GValue) × (List GPred)) (h : ref09_right_j1 t n a1 a2 a3 a4 a5 a6 a7 a8 a9 = some r) : exec (env Try.prog 28 Try.f28 call) n (sub [1, 1, 1, 1, 0, 1, 0, 1] (bodyOf Try.f28)) (mkSt 105 105 [(1, (.t (.v (.int .i64 a1)))), (2, (.ptr 2 0 [] 0)), (5, (.t (.v (.int .i64 a2)))), (6, (.t (.v (.int .i64 a3)))), (7, (.t (.v (.bool a4)))), (18, (.t (.v (.int .i64 a5)))), (19, (.t (.v (.bool a6))))] [(2, (.t (.st [(.v (.int .i64 a7)), (.sl false 5 (GValue.ts a8)), (.sl false 3 (GPred.ts a9))])))]) = some (ref09_right_j1.to r) := by
  rw [ref09_right_j1] at h
  by_cases h1 : a6 = true
  · rw [if_pos h1] at h
    by_cases h2 : (a2 == 1) = true
    · rw [if_pos h2] at h
      rw [← Option.some.inj h]
      exact path (ob_b h1 (ob_b h2 (ob_b h2 (ob_b h2 ob)))) (by kernel_rfl)
    · rw [if_neg h2] at h
      replace h2 := Bool.eq_false_iff.2 h2
      rw [← Option.some.inj h]
      exact path (ob_b h1 (ob_b h2 (ob_b h2 (ob_b h2 ob)))) (by kernel_rfl)
  · rw [if_neg h1] at h
    replace h1 := Bool.eq_false_iff.2 h1
    by_cases h3 : (a5 == 7) = true
    · rw [if_pos h3] at h
      obtain ⟨a10, a11, a12, a13, a14, a15, a16⟩ := r
      have h4 := h
      exact path (ob_b h1 (ob_b h3 (ob_j (ref09_right_j2.ok ht n _ _ _ _ _ _ _ _ _ _ h4) ob))) (by kernel_rfl)
    · rw [if_neg h3] at h
      replace h3 := Bool.eq_false_iff.2 h3
      by_cases h5 : (a5 == 8) = true
      · rw [if_pos h5] at h
        obtain ⟨a17, a18, a19, a20, a21, a22, a23⟩ := r
        have h6 := h
        exact path (ob_b h1 (ob_b h3 (ob_b h5 (ob_j (ref09_right_j2.ok ht n _ _ _ _ _ _ _ _ _ _ h6) ob)))) (by kernel_rfl)
      · rw [if_neg h5] at h
        replace h5 := Bool.eq_false_iff.2 h5
        obtain ⟨a24, a25, a26, a27, a28, a29, a30⟩ := r
        have h7 := h
        exact path (ob_b h1 (ob_b h3 (ob_b h5 (ob_j (ref09_right_j2.ok ht n _ _ _ _ _ _ _ _ _ _ h7) ob)))) (by kernel_rfl)
theorem ref09_right_l7.okL {t : Tab} {call : FuncId → List AV → List AV → Option (AV × List AV)} (ht : TabOk t call) (n : Nat) : ∀ (k : Nat) (a1 : Int) (a2 : Int) (a3 : Int) (a4 : Int) (a5 : Int) (a6 : List GValue) (a7 : List GPred) (r : Bool ⊕ (Int × Int × Int × Int × Bool × Int × (List GValue) × (List GPred))), ref09_right_l7 t n k a1 a2 a3 a4 a5 a6 a7 = some r → loopN (exec (env Try.prog 28 Try.f28 call) n (sub [1, 1, 1, 1, 1, 1, 0, 1, 0, 0] (bodyOf Try.f28))) k (mkSt 105 105 [(1, (.t (.v (.int .i64 a1)))), (2, (.ptr 2 0 [] 0)), (5, (.t (.v (.int .i64 a2)))), (6, (.t (.v (.int .i64 a3)))), (8, (.t (.v (.int .i64 a4))))] [(2, (.t (.st [(.v (.int .i64 a5)), (.sl false 5 (GValue.ts a6)), (.sl false 3 (GPred.ts a7))])))]) = some (ref09_right_l7.to r)
  | 0, a1, a2, a3, a4, a5, a6, a7, r, h => by rw [ref09_right_l7] at h; cases h
  | k + 1, a1, a2, a3, a4, a5, a6, a7, r, h => by
    rw [ref09_right_l7] at h
    by_cases h1 : (decide (a4 < a2)) = true
    · rw [if_pos h1] at h
      by_cases h2 : (decide (0 ≤ (a4 : Int))) = true
      case neg => rw [if_neg h2] at h; cases h
      rw [if_pos h2] at h
      rcases h3 : a6[(a4 : Int).toNat]? with _ | ⟨a8, a9, a10, a11, a12⟩
      · rw [h3] at h; cases h
      rw [h3] at h
      dsimp only at h
      rcases h4 : t.ref02_Check (GValue.mk a8 a9 a10 a11 a12) with _ | a13
      · rw [h4] at h; cases h
      rw [h4] at h
      dsimp only at h
      by_cases h5 : (a13 != 0) = true
      · rw [if_pos h5] at h
        rw [← Option.some.inj h]
        exact loop_out (path (ob_b h1 (ob_n h2 (ob_t (look_ts GValue.ts_map h3) (ob_c (ht.ref02_Check _ _ h4) (ob_b h5 ob))))) (by kernel_rfl)) (fun h => by cases h)
      · rw [if_neg h5] at h
        replace h5 := Bool.eq_false_iff.2 h5
        exact loop_more (path (ob_b h1 (ob_n h2 (ob_t (look_ts GValue.ts_map h3) (ob_c (ht.ref02_Check _ _ h4) (ob_b h5 ob))))) (by kernel_rfl)) (ref09_right_l7.okL ht n k _ _ _ _ _ _ _ _ h)
    · rw [if_neg h1] at h
      replace h1 := Bool.eq_false_iff.2 h1
      rw [← Option.some.inj h]
      exact loop_out (path (ob_b h1 ob) (by kernel_rfl)) (fun h => by cases h)
theorem ref09_right_l7.ok {t : Tab} {call : FuncId → List AV → List AV → Option (AV × List AV)} (ht : TabOk t call) (n : Nat) (a1 : Int) (a2 : Int) (a3 : Int) (a4 : Int) (a5 : Int) (a6 : List GValue) (a7 : List GPred) (r : Bool ⊕ (Int × Int × Int × Int × Bool × Int × (List GValue) × (List GPred))) (h : ref09_right_l7 t n n a1 a2 a3 a4 a5 a6 a7 = some r) : exec (env Try.prog 28 Try.f28 call) n (sub [1, 1, 1, 1, 1, 1, 0, 1, 0] (bodyOf Try.f28)) (mkSt 105 105 [(1, (.t (.v (.int .i64 a1)))), (2, (.ptr 2 0 [] 0)), (5, (.t (.v (.int .i64 a2)))), (6, (.t (.v (.int .i64 a3)))), (8, (.t (.v (.int .i64 a4))))] [(2, (.t (.st [(.v (.int .i64 a5)), (.sl false 5 (GValue.ts a6)), (.sl false 3 (GPred.ts a7))])))]) = some (ref09_right_l7.to r) := by
  have e1 : sub [1, 1, 1, 1, 1, 1, 0, 1, 0] (bodyOf Try.f28) = .loop (sub [1, 1, 1, 1, 1, 1, 0, 1, 0, 0] (bodyOf Try.f28)) := by kernel_rfl
  rw [e1, exec]
  exact ref09_right_l7.okL ht n n a1 a2 a3 a4 a5 a6 a7 r h
theorem ref09_right_l9.okL {t : Tab} {call : FuncId → List AV → List AV → Option (AV × List AV)} (ht : TabOk t call) (n : Nat) : ∀ (k : Nat) (a1 : Int) (a2 : Int) (a3 : Int) (a4 : Int) (a5 : List GValue) (a6 : List GPred) (r : Bool ⊕ (Int × Int × Int × Bool × Int × (List GValue) × (List GPred))), ref09_right_l9 t n k a1 a2 a3 a4 a5 a6 = some r → loopN (exec (env Try.prog 28 Try.f28 call) n (sub [1, 1, 1, 1, 1, 1, 1, 0, 1, 0, 0] (bodyOf Try.f28))) k (mkSt 105 105 [(1, (.t (.v (.int .i64 a1)))), (2, (.ptr 2 0 [] 0)), (6, (.t (.v (.int .i64 a2)))), (10, (.t (.v (.int .i64 a3))))] [(2, (.t (.st [(.v (.int .i64 a4)), (.sl false 5 (GValue.ts a5)), (.sl false 3 (GPred.ts a6))])))]) = some (ref09_right_l9.to r)
  | 0, a1, a2, a3, a4, a5, a6, r, h => by rw [ref09_right_l9] at h; cases h
  | k + 1, a1, a2, a3, a4, a5, a6, r, h => by
    rw [ref09_right_l9] at h
    by_cases h1 : (decide (a3 < a2)) = true
    · rw [if_pos h1] at h
      by_cases h2 : (decide (0 ≤ (a3 : Int))) = true
      case neg => rw [if_neg h2] at h; cases h
      rw [if_pos h2] at h
      rcases h3 : a6[(a3 : Int).toNat]? with _ | ⟨a7, a8, a9⟩
      · rw [h3] at h; cases h
      rw [h3] at h
      dsimp only at h
      rcases h4 : t.ref09_right (GPred.mk a7 a8 a9) (IntKind.wrap .i64 (a1 + 1)) with _ | a10
      · rw [h4] at h; cases h
      rw [h4] at h
      dsimp only at h
      by_cases h5 : a10 = true
      · rw [if_pos h5] at h
        exact loop_more (path (ob_b h1 (ob_n h2 (ob_t (look_ts GPred.ts_map h3) (ob_c (ht.ref09_right _ _ _ h4) (ob_b (congrArg (!·) h5) ob))))) (by kernel_rfl)) (ref09_right_l9.okL ht n k _ _ _ _ _ _ _ h)
      · rw [if_neg h5] at h
        replace h5 := Bool.eq_false_iff.2 h5
        rw [← Option.some.inj h]
        exact loop_out (path (ob_b h1 (ob_n h2 (ob_t (look_ts GPred.ts_map h3) (ob_c (ht.ref09_right _ _ _ h4) (ob_b (congrArg (!·) h5) ob))))) (by kernel_rfl)) (fun h => by cases h)
    · rw [if_neg h1] at h
      replace h1 := Bool.eq_false_iff.2 h1
      rw [← Option.some.inj h]
      exact loop_out (path (ob_b h1 ob) (by kernel_rfl)) (fun h => by cases h)
theorem ref09_right_l9.ok {t : Tab} {call : FuncId → List AV → List AV → Option (AV × List AV)} (ht : TabOk t call) (n : Nat) (a1 : Int) (a2 : Int) (a3 : Int) (a4 : Int) (a5 : List GValue) (a6 : List GPred) (r : Bool ⊕ (Int × Int × Int × Bool × Int × (List GValue) × (List GPred))) (h : ref09_right_l9 t n n a1 a2 a3 a4 a5 a6 = some r) : exec (env Try.prog 28 Try.f28 call) n (sub [1, 1, 1, 1, 1, 1, 1, 0, 1, 0] (bodyOf Try.f28)) (mkSt 105 105 [(1, (.t (.v (.int .i64 a1)))), (2, (.ptr 2 0 [] 0)), (6, (.t (.v (.int .i64 a2)))), (10, (.t (.v (.int .i64 a3))))] [(2, (.t (.st [(.v (.int .i64 a4)), (.sl false 5 (GValue.ts a5)), (.sl false 3 (GPred.ts a6))])))]) = some (ref09_right_l9.to r) := by
  have e1 : sub [1, 1, 1, 1, 1, 1, 1, 0, 1, 0] (bodyOf Try.f28) = .loop (sub [1, 1, 1, 1, 1, 1, 1, 0, 1, 0, 0] (bodyOf Try.f28)) := by kernel_rfl
  rw [e1, exec]
  exact ref09_right_l9.okL ht n n a1 a2 a3 a4 a5 a6 r h
theorem ref09_right_j8.ok {t : Tab} {call : FuncId → List AV → List AV → Option (AV × List AV)} (ht : TabOk t call) (n : Nat) (a1 : Int) (a2 : Int) (a3 : Int) (a4 : List GValue) (a5 : List GPred) (r : Bool) (h : ref09_right_j8 t n a1 a2 a3 a4 a5 = some r) : exec (env Try.prog 28 Try.f28 call) n (sub [1, 1, 1, 1, 1, 1, 1] (bodyOf Try.f28)) (mkSt 105 105 [(1, (.t (.v (.int .i64 a1)))), (2, (.ptr 2 0 [] 0)), (6, (.t (.v (.int .i64 a2))))] [(2, (.t (.st [(.v (.int .i64 a3)), (.sl false 5 (GValue.ts a4)), (.sl false 3 (GPred.ts a5))])))]) = some (ref09_right_j8.to r) := by
  rw [ref09_right_j8] at h
  rcases h1 : ref09_right_l9 t n n a1 a2 0 a3 a4 a5 with _ | q_
  · rw [h1] at h; cases h
  rw [h1] at h
  rcases q_ with a6 | ⟨a7, a8, a9, a10, a11, a12, a13⟩
  · dsimp only at h
    rw [← Option.some.inj h]
    exact path (ob_k (ref09_right_l9.ok ht n _ _ _ _ _ _ _ h1) ob) (by kernel_rfl)
  · dsimp only at h
    rw [← Option.some.inj h]
    exact path (ob_k (ref09_right_l9.ok ht n _ _ _ _ _ _ _ h1) ob) (by kernel_rfl)
theorem ref09_right_j6.ok {t : Tab} {call : FuncId → List AV → List AV → Option (AV × List AV)} (ht : TabOk t call) (n : Nat) (a1 : Int) (a2 : Int) (a3 : Int) (a4 : Int) (a5 : List GValue) (a6 : List GPred) (r : Bool) (h : ref09_right_j6 t n a1 a2 a3 a4 a5 a6 = some r) : exec (env Try.prog 28 Try.f28 call) n (sub [1, 1, 1, 1, 1, 1] (bodyOf Try.f28)) (mkSt 105 105 [(1, (.t (.v (.int .i64 a1)))), (2, (.ptr 2 0 [] 0)), (5, (.t (.v (.int .i64 a2)))), (6, (.t (.v (.int .i64 a3))))] [(2, (.t (.st [(.v (.int .i64 a4)), (.sl false 5 (GValue.ts a5)), (.sl false 3 (GPred.ts a6))])))]) = some (ref09_right_j6.to r) := by
  rw [ref09_right_j6] at h
  rcases h1 : ref09_right_l7 t n n a1 a2 a3 0 a4 a5 a6 with _ | q_
  · rw [h1] at h; cases h
  rw [h1] at h
  rcases q_ with a7 | ⟨a8, a9, a10, a11, a12, a13, a14, a15⟩
  · dsimp only at h
    rw [← Option.some.inj h]
    exact path (ob_k (ref09_right_l7.ok ht n _ _ _ _ _ _ _ _ h1) ob) (by kernel_rfl)
  · dsimp only at h
    obtain ⟨a16, rfl⟩ : ∃ z_, z_ = r := ⟨_, rfl⟩
    have h2 := h
    exact path (ob_k (ref09_right_l7.ok ht n _ _ _ _ _ _ _ _ h1) (ob_j (ref09_right_j8.ok ht n _ _ _ _ _ _ h2) ob)) (by kernel_rfl)
theorem ref09_right_j5.ok {t : Tab} {call : FuncId → List AV → List AV → Option (AV × List AV)} (ht : TabOk t call) (n : Nat) (a1 : Int) (a2 : Int) (a3 : Int) (a4 : Bool) (a5 : Int) (a6 : List GValue) (a7 : List GPred) (r : Bool) (h : ref09_right_j5 t n a1 a2 a3 a4 a5 a6 a7 = some r) : exec (env Try.prog 28 Try.f28 call) n (sub [1, 1, 1, 1, 1] (bodyOf Try.f28)) (mkSt 105 105 [(1, (.t (.v (.int .i64 a1)))), (2, (.ptr 2 0 [] 0)), (5, (.t (.v (.int .i64 a2)))), (6, (.t (.v (.int .i64 a3)))), (7, (.t (.v (.bool a4))))] [(2, (.t (.st [(.v (.int .i64 a5)), (.sl false 5 (GValue.ts a6)), (.sl false 3 (GPred.ts a7))])))]) = some (ref09_right_j5.to r) := by
  rw [ref09_right_j5] at h
  by_cases h1 : a4 = true
  · rw [if_pos h1] at h
    by_cases h2 : (decide (a1 > 12)) = true
    · rw [if_pos h2] at h
      rw [← Option.some.inj h]
      exact path (ob_b (congrArg (!·) h1) (ob_b (congrArg (!·) h1) (ob_b (congrArg (!·) h1) (ob_b h2 ob)))) (by kernel_rfl)
    · rw [if_neg h2] at h
      replace h2 := Bool.eq_false_iff.2 h2
      obtain ⟨a8, rfl⟩ : ∃ z_, z_ = r := ⟨_, rfl⟩
      have h3 := h
      exact path (ob_b (congrArg (!·) h1) (ob_b (congrArg (!·) h1) (ob_b (congrArg (!·) h1) (ob_b h2 (ob_j (ref09_right_j6.ok ht n _ _ _ _ _ _ _ h3) ob))))) (by kernel_rfl)
  · rw [if_neg h1] at h
    replace h1 := Bool.eq_false_iff.2 h1
    rw [← Option.some.inj h]
    exact path (ob_b (congrArg (!·) h1) (ob_b (congrArg (!·) h1) (ob_b (congrArg (!·) h1) (ob_b (rfl : true = true) ob)))) (by kernel_rfl)
theorem ref09_right.ok {n : Nat} {t : Tab} (ht : TabOk t (run Try.prog own kp X n)) : ∀ (p1 : GPred) (p2 : Int) r, ref09_right t n p1 p2 = some r → run Try.prog own kp X (n + 1) 28 [(.t (GPred.t p1)), (.t (.v (.int .i64 p2)))] [] = some ((.t (.v (.bool r))), []) := by
  intro p1 p2 r h
  obtain ⟨a1, a2, a3⟩ := p1
  obtain ⟨a4, rfl⟩ : ∃ z_, z_ = p2 := ⟨_, rfl⟩
  rw [ref09_right] at h
  by_cases h1 : (a1 == 1) = true
  · rw [if_pos h1] at h
    rcases h2 : ref09_right_j1 t n  a4 (a2.length : Int) (a3.length : Int) false a1 (a1 == 1) a1 a2 a3 with _ | q_
    · rw [h2] at h; cases h
    rw [h2] at h
    obtain ⟨a5, a6, a7, a8, a9, a10, a11⟩ := q_
    dsimp only at h
    obtain ⟨a12, rfl⟩ : ∃ z_, z_ = r := ⟨_, rfl⟩
    have h3 := h
    exact run_path Try.func28 (ob_v (len_ts GValue.ts_map (l := a2)) (ob_v (len_ts GPred.ts_map (l := a3)) (ob_b h1 (ob_j (ref09_right_j1.ok ht n _ _ _ _ _ _ _ _ _ _ h2) (ob_j (ref09_right_j5.ok ht n _ _ _ _ _ _ _ _ h3) ob))))) (by kernel_rfl)
  · rw [if_neg h1] at h
    replace h1 := Bool.eq_false_iff.2 h1
    by_cases h4 : (a1 == 2) = true
    · rw [if_pos h4] at h
      rcases h5 : ref09_right_j1 t n  a4 (a2.length : Int) (a3.length : Int) false a1 (a1 == 2) a1 a2 a3 with _ | q_
      · rw [h5] at h; cases h
      rw [h5] at h
      obtain ⟨a13, a14, a15, a16, a17, a18, a19⟩ := q_
      dsimp only at h
      obtain ⟨a20, rfl⟩ : ∃ z_, z_ = r := ⟨_, rfl⟩
      have h6 := h
      exact run_path Try.func28 (ob_v (len_ts GValue.ts_map (l := a2)) (ob_v (len_ts GPred.ts_map (l := a3)) (ob_b h1 (ob_b h4 (ob_j (ref09_right_j1.ok ht n _ _ _ _ _ _ _ _ _ _ h5) (ob_j (ref09_right_j5.ok ht n _ _ _ _ _ _ _ _ h6) ob)))))) (by kernel_rfl)
    · rw [if_neg h4] at h
      replace h4 := Bool.eq_false_iff.2 h4
      by_cases h7 : (a1 == 3) = true
      · rw [if_pos h7] at h
        rcases h8 : ref09_right_j1 t n  a4 (a2.length : Int) (a3.length : Int) false a1 (a1 == 3) a1 a2 a3 with _ | q_
        · rw [h8] at h; cases h
        rw [h8] at h
        obtain ⟨a21, a22, a23, a24, a25, a26, a27⟩ := q_
        dsimp only at h
        obtain ⟨a28, rfl⟩ : ∃ z_, z_ = r := ⟨_, rfl⟩
        have h9 := h
        exact run_path Try.func28 (ob_v (len_ts GValue.ts_map (l := a2)) (ob_v (len_ts GPred.ts_map (l := a3)) (ob_b h1 (ob_b h4 (ob_b h7 (ob_j (ref09_right_j1.ok ht n _ _ _ _ _ _ _ _ _ _ h8) (ob_j (ref09_right_j5.ok ht n _ _ _ _ _ _ _ _ h9) ob))))))) (by kernel_rfl)
      · rw [if_neg h7] at h
        replace h7 := Bool.eq_false_iff.2 h7
        by_cases h10 : (a1 == 4) = true
        · rw [if_pos h10] at h
          rcases h11 : ref09_right_j1 t n  a4 (a2.length : Int) (a3.length : Int) false a1 (a1 == 4) a1 a2 a3 with _ | q_
          · rw [h11] at h; cases h
          rw [h11] at h
          obtain ⟨a29, a30, a31, a32, a33, a34, a35⟩ := q_
          dsimp only at h
          obtain ⟨a36, rfl⟩ : ∃ z_, z_ = r := ⟨_, rfl⟩
          have h12 := h
          exact run_path Try.func28 (ob_v (len_ts GValue.ts_map (l := a2)) (ob_v (len_ts GPred.ts_map (l := a3)) (ob_b h1 (ob_b h4 (ob_b h7 (ob_b h10 (ob_j (ref09_right_j1.ok ht n _ _ _ _ _ _ _ _ _ _ h11) (ob_j (ref09_right_j5.ok ht n _ _ _ _ _ _ _ _ h12) ob)))))))) (by kernel_rfl)
        · rw [if_neg h10] at h
          replace h10 := Bool.eq_false_iff.2 h10
          by_cases h13 : (a1 == 5) = true
          · rw [if_pos h13] at h
            rcases h14 : ref09_right_j1 t n  a4 (a2.length : Int) (a3.length : Int) false a1 (a1 == 5) a1 a2 a3 with _ | q_
            · rw [h14] at h; cases h
            rw [h14] at h
            obtain ⟨a37, a38, a39, a40, a41, a42, a43⟩ := q_
            dsimp only at h
            obtain ⟨a44, rfl⟩ : ∃ z_, z_ = r := ⟨_, rfl⟩
            have h15 := h
            exact run_path Try.func28 (ob_v (len_ts GValue.ts_map (l := a2)) (ob_v (len_ts GPred.ts_map (l := a3)) (ob_b h1 (ob_b h4 (ob_b h7 (ob_b h10 (ob_b h13 (ob_j (ref09_right_j1.ok ht n _ _ _ _ _ _ _ _ _ _ h14) (ob_j (ref09_right_j5.ok ht n _ _ _ _ _ _ _ _ h15) ob))))))))) (by kernel_rfl)
          · rw [if_neg h13] at h
            replace h13 := Bool.eq_false_iff.2 h13
            rcases h16 : ref09_right_j1 t n  a4 (a2.length : Int) (a3.length : Int) false a1 (a1 == 6) a1 a2 a3 with _ | q_
            · rw [h16] at h; cases h
            rw [h16] at h
            obtain ⟨a45, a46, a47, a48, a49, a50, a51⟩ := q_
            dsimp only at h
            obtain ⟨a52, rfl⟩ : ∃ z_, z_ = r := ⟨_, rfl⟩
            have h17 := h
            exact run_path Try.func28 (ob_v (len_ts GValue.ts_map (l := a2)) (ob_v (len_ts GPred.ts_map (l := a3)) (ob_b h1 (ob_b h4 (ob_b h7 (ob_b h10 (ob_b h13 (ob_j (ref09_right_j1.ok ht n _ _ _ _ _ _ _ _ _ _ h16) (ob_j (ref09_right_j5.ok ht n _ _ _ _ _ _ _ _ h17) ob))))))))) (by kernel_rfl)
theorem pred_test_j2.ok {t : Tab} {call : FuncId → List AV → List AV → Option (AV × List AV)} (ht : TabOk t call) (n : Nat) (a1 : Int) (a2 : Bool) (a3 : Int) (a4 : List GValue) (a5 : List GPred) (a6 : Int) (a7 : Int) (a8 : ByteArray) (a9 : List GValue) (a10 : List GValue) (r : Bool ⊕ (Int × (List GValue) × (List GPred) × Int × Int × ByteArray × (List GValue) × (List GValue))) (h : pred_test_j2 t n a1 a2 a3 a4 a5 a6 a7 a8 a9 a10 = some r) : exec (env Try.prog 29 Try.f29 call) n (sub [1, 1, 1, 1, 0, 1, 0, 1, 1, 1] (bodyOf Try.f29)) (mkSt 61 61 [(2, (.ptr 2 0 [] 0)), (3, (.ptr 3 0 [] 0)), (5, (.fn 44 [(.ptr 3 0 [] 0)])), (6, (.fn 45 [(.ptr 3 0 [] 0)])), (7, (.fn 46 [(.ptr 3 0 [] 0)])), (12, (.t (.v (.int .i64 a1)))), (20, (.t (.v (.bool a2))))] [(2, (.t (.st [(.v (.int .i64 a3)), (.sl false 5 (GValue.ts a4)), (.sl false 3 (GPred.ts a5))]))), (3, (.t (.st [(.v (.int .i64 a6)), (.v (.int .i64 a7)), (.v (.string a8)), (.sl false 5 (GValue.ts a9)), (.sl false 5 (GValue.ts a10))])))]) = some (pred_test_j2.to r) := by
  rw [pred_test_j2] at h
  by_cases h1 : a2 = true
  · rw [if_pos h1] at h
    rcases h2 : t.slices_ContainsFunc_pred_test_3 a4 (GValue.mk a6 a7 a8 a9 a10) with _ | a11
    · rw [h2] at h; cases h
    rw [h2] at h
    dsimp only at h
    rw [← Option.some.inj h]
    exact path (ob_b h1 (ob_c (ht.slices_ContainsFunc_pred_test_3 _ _ _ h2) ob)) (by kernel_rfl)
  · rw [if_neg h1] at h
    replace h1 := Bool.eq_false_iff.2 h1
    by_cases h3 : (a1 == 14) = true
    · rw [if_pos h3] at h
      rcases h4 : t.slices_ContainsFunc_pred_test_1 a5 (GValue.mk a6 a7 a8 a9 a10) with _ | a12
      · rw [h4] at h; cases h
      rw [h4] at h
      dsimp only at h
      rw [← Option.some.inj h]
      exact path (ob_b h1 (ob_b h3 (ob_c (ht.slices_ContainsFunc_pred_test_1 _ _ _ h4) ob))) (by kernel_rfl)
    · rw [if_neg h3] at h
      replace h3 := Bool.eq_false_iff.2 h3
      by_cases h5 : (a1 == 13) = true
      · rw [if_pos h5] at h
        rcases h6 : t.slices_ContainsFunc_pred_test_2 a5 (GValue.mk a6 a7 a8 a9 a10) with _ | a13
        · rw [h6] at h; cases h
        rw [h6] at h
        dsimp only at h
        rw [← Option.some.inj h]
        exact path (ob_b h1 (ob_b h3 (ob_b h5 (ob_c (ht.slices_ContainsFunc_pred_test_2 _ _ _ h6) ob)))) (by kernel_rfl)
      · rw [if_neg h5] at h
        replace h5 := Bool.eq_false_iff.2 h5
        by_cases h7 : (a1 == 12) = true
        · rw [if_pos h7] at h
          by_cases h8 : (decide (0 ≤ (0 : Int))) = true
          case neg => rw [if_neg h8] at h; cases h
          rw [if_pos h8] at h
          rcases h9 : a5[(0 : Int).toNat]? with _ | ⟨a14, a15, a16⟩
          · rw [h9] at h; cases h
          rw [h9] at h
          dsimp only at h
          rcases h10 : t.pred_test_2 (GPred.mk a14 a15 a16) (GValue.mk a6 a7 a8 a9 a10) with _ | a17
          · rw [h10] at h; cases h
          rw [h10] at h
          dsimp only at h
          rw [← Option.some.inj h]
          exact path (ob_b h1 (ob_b h3 (ob_b h5 (ob_b h7 (ob_n h8 (ob_t (look_ts GPred.ts_map h9) (ob_c (ht.pred_test_2 _ _ _ h10) ob))))))) (by kernel_rfl)
        · rw [if_neg h7] at h
          replace h7 := Bool.eq_false_iff.2 h7
          rw [← Option.some.inj h]
          exact path (ob_b h1 (ob_b h3 (ob_b h5 (ob_b h7 ob)))) (by kernel_rfl)
theorem pred_test_j1.ok {t : Tab} {call : FuncId → List AV → List AV → Option (AV × List AV)} (ht : TabOk t call) (n : Nat) (a1 : Int) (a2 : Bool) (a3 : Int) (a4 : List GValue) (a5 : List GPred) (a6 : Int) (a7 : Int) (a8 : ByteArray) (a9 : List GValue) (a10 : List GValue) (r : Bool ⊕ (Int × (List GValue) × (List GPred) × Int × Int × ByteArray × (List GValue) × (List GValue))) (h : pred_test_j1 t n a1 a2 a3 a4 a5 a6 a7 a8 a9 a10 = some r) : exec (env Try.prog 29 Try.f29 call) n (sub [1, 1, 1, 1, 0, 1, 0, 1] (bodyOf Try.f29)) (mkSt 61 61 [(2, (.ptr 2 0 [] 0)), (3, (.ptr 3 0 [] 0)), (5, (.fn 44 [(.ptr 3 0 [] 0)])), (6, (.fn 45 [(.ptr 3 0 [] 0)])), (7, (.fn 46 [(.ptr 3 0 [] 0)])), (12, (.t (.v (.int .i64 a1)))), (13, (.t (.v (.bool a2))))] [(2, (.t (.st [(.v (.int .i64 a3)), (.sl false 5 (GValue.ts a4)), (.sl false 3 (GPred.ts a5))]))), (3, (.t (.st [(.v (.int .i64 a6)), (.v (.int .i64 a7)), (.v (.string a8)), (.sl false 5 (GValue.ts a9)), (.sl false 5 (GValue.ts a10))])))]) = some (pred_test_j1.to r) := by
  rw [pred_test_j1] at h
  by_cases h1 : a2 = true
  · rw [if_pos h1] at h
    rcases h2 : t.slices_ContainsFunc_pred_test_3 a4 (GValue.mk a6 a7 a8 a9 a10) with _ | a11
    · rw [h2] at h; cases h
    rw [h2] at h
    dsimp only at h
    rw [← Option.some.inj h]
    exact path (ob_b h1 (ob_c (ht.slices_ContainsFunc_pred_test_3 _ _ _ h2) ob)) (by kernel_rfl)
  · rw [if_neg h1] at h
    replace h1 := Bool.eq_false_iff.2 h1
    by_cases h3 : (a1 == 2) = true
    · rw [if_pos h3] at h
      have h4 := h
      rcases r with a12 | ⟨a13, a14, a15, a16, a17, a18, a19, a20⟩
      · exact path (ob_b h1 (ob_b h3 (ob_j (pred_test_j2.ok ht n _ _ _ _ _ _ _ _ _ _ _ h4) ob))) (by kernel_rfl)
      · exact path (ob_b h1 (ob_b h3 (ob_j (pred_test_j2.ok ht n _ _ _ _ _ _ _ _ _ _ _ h4) ob))) (by kernel_rfl)
    · rw [if_neg h3] at h
      replace h3 := Bool.eq_false_iff.2 h3
      have h5 := h
      rcases r with a21 | ⟨a22, a23, a24, a25, a26, a27, a28, a29⟩
      · exact path (ob_b h1 (ob_b h3 (ob_j (pred_test_j2.ok ht n _ _ _ _ _ _ _ _ _ _ _ h5) ob))) (by kernel_rfl)
      · exact path (ob_b h1 (ob_b h3 (ob_j (pred_test_j2.ok ht n _ _ _ _ _ _ _ _ _ _ _ h5) ob))) (by kernel_rfl)
theorem pred_test_j3.ok {t : Tab} {call : FuncId → List AV → List AV → Option (AV × List AV)} (ht : TabOk t call) (n : Nat) (a1 : Int) (a2 : List GValue) (a3 : List GPred) (a4 : Int) (a5 : Int) (a6 : ByteArray) (a7 : List GValue) (a8 : List GValue) (r : Bool) (h : pred_test_j3 t n a1 a2 a3 a4 a5 a6 a7 a8 = some r) : exec (env Try.prog 29 Try.f29 call) n (sub [1, 1, 1, 1, 1] (bodyOf Try.f29)) (mkSt 61 61 [(2, (.ptr 2 0 [] 0)), (3, (.ptr 3 0 [] 0))] [(2, (.t (.st [(.v (.int .i64 a1)), (.sl false 5 (GValue.ts a2)), (.sl false 3 (GPred.ts a3))]))), (3, (.t (.st [(.v (.int .i64 a4)), (.v (.int .i64 a5)), (.v (.string a6)), (.sl false 5 (GValue.ts a7)), (.sl false 5 (GValue.ts a8))])))]) = some (pred_test_j3.to r) := by
  rw [pred_test_j3] at h
  rcases h1 : t.pred_alike (GValue.mk a4 a5 a6 a7 a8) a2 with _ | a9
  · rw [h1] at h; cases h
  rw [h1] at h
  dsimp only at h
  by_cases h2 : a9 = true
  · rw [if_pos h2] at h
    obtain ⟨a10, rfl⟩ : ∃ z_, z_ = r := ⟨_, rfl⟩
    have h3 := h
    exact path (ob_c (ht.pred_alike _ _ _ h1) (ob_b h2 (ob_b h2 (ob_b h2 (ob_b h2 (ob_b h2 (ob_b h2 (ob_c (ht.pred_order _ _ _ _ h3) (ob_b h2 ob))))))))) (by kernel_rfl)
  · rw [if_neg h2] at h
    replace h2 := Bool.eq_false_iff.2 h2
    rw [← Option.some.inj h]
    exact path (ob_c (ht.pred_alike _ _ _ h1) (ob_b h2 (ob_b h2 (ob_b h2 (ob_b h2 (ob_b h2 (ob_b h2 (ob_b h2 ob)))))))) (by kernel_rfl)
theorem pred_test.ok {n : Nat} {t : Tab} (ht : TabOk t (run Try.prog own kp X n)) : ∀ (p1 : GPred) (p2 : GValue) r, pred_test t n p1 p2 = some r → run Try.prog own kp X (n + 1) 29 [(.t (GPred.t p1)), (.t (GValue.t p2))] [] = some ((.t (.v (.bool r))), []) := by
  intro p1 p2 r h
  obtain ⟨a1, a2, a3⟩ := p1
  obtain ⟨a4, a5, a6, a7, a8⟩ := p2
  rw [pred_test] at h
  by_cases h1 : (a1 == 1) = true
  · rw [if_pos h1] at h
    rcases h2 : pred_test_j1 t n  a1 (a1 == 1) a1 a2 a3 a4 a5 a6 a7 a8 with _ | q_
    · rw [h2] at h; cases h
    rw [h2] at h
    rcases q_ with a9 | ⟨a10, a11, a12, a13, a14, a15, a16, a17⟩
    · dsimp only at h
      rw [← Option.some.inj h]
      exact run_path Try.func29 (ob_b h1 (ob_j (pred_test_j1.ok ht n _ _ _ _ _ _ _ _ _ _ _ h2) ob)) (by kernel_rfl)
    · dsimp only at h
      obtain ⟨a18, rfl⟩ : ∃ z_, z_ = r := ⟨_, rfl⟩
      have h3 := h
      exact run_path Try.func29 (ob_b h1 (ob_j (pred_test_j1.ok ht n _ _ _ _ _ _ _ _ _ _ _ h2) (ob_j (pred_test_j3.ok ht n _ _ _ _ _ _ _ _ _ h3) ob))) (by kernel_rfl)
  · rw [if_neg h1] at h
    replace h1 := Bool.eq_false_iff.2 h1
    rcases h4 : pred_test_j1 t n  a1 (a1 == 10) a1 a2 a3 a4 a5 a6 a7 a8 with _ | q_
    · rw [h4] at h; cases h
    rw [h4] at h
    rcases q_ with a19 | ⟨a20, a21, a22, a23, a24, a25, a26, a27⟩
    · dsimp only at h
      rw [← Option.some.inj h]
      exact run_path Try.func29 (ob_b h1 (ob_j (pred_test_j1.ok ht n _ _ _ _ _ _ _ _ _ _ _ h4) ob)) (by kernel_rfl)
    · dsimp only at h
      obtain ⟨a28, rfl⟩ : ∃ z_, z_ = r := ⟨_, rfl⟩
      have h5 := h
      exact run_path Try.func29 (ob_b h1 (ob_j (pred_test_j1.ok ht n _ _ _ _ _ _ _ _ _ _ _ h4) (ob_j (pred_test_j3.ok ht n _ _ _ _ _ _ _ _ _ h5) ob))) (by kernel_rfl)
theorem ref09_test_j2.ok {t : Tab} {call : FuncId → List AV → List AV → Option (AV × List AV)} (ht : TabOk t call) (n : Nat) (a1 : Bool) (a2 : Bool) (a3 : Int) (a4 : Int) (a5 : List GValue) (a6 : List GPred) (a7 : Int) (a8 : Int) (a9 : ByteArray) (a10 : List GValue) (a11 : List GValue) (r : Bool × Bool × Int × Int × (List GValue) × (List GPred) × Int × Int × ByteArray × (List GValue) × (List GValue)) (h : ref09_test_j2 t n a1 a2 a3 a4 a5 a6 a7 a8 a9 a10 a11 = some r) : exec (env Try.prog 30 Try.f30 call) n (sub [1, 1, 1, 0, 1, 0, 0, 1, 0, 0, 1] (bodyOf Try.f30)) (mkSt 142 142 [(2, (.ptr 2 0 [] 0)), (3, (.ptr 3 0 [] 0)), (5, (.t (.v (.bool a1)))), (6, (.t (.v (.bool a2)))), (7, (.t (.v (.int .i64 a3))))] [(2, (.t (.st [(.v (.int .i64 a4)), (.sl false 5 (GValue.ts a5)), (.sl false 3 (GPred.ts a6))]))), (3, (.t (.st [(.v (.int .i64 a7)), (.v (.int .i64 a8)), (.v (.string a9)), (.sl false 5 (GValue.ts a10)), (.sl false 5 (GValue.ts a11))])))]) = some (ref09_test_j2.to r) := by
  rw [ref09_test_j2] at h
  by_cases h1 : a2 = true
  · rw [if_pos h1] at h
    by_cases h2 : (decide (0 ≤ (a3 : Int))) = true
    case neg => rw [if_neg h2] at h; cases h
    rw [if_pos h2] at h
    rcases h3 : a5[(a3 : Int).toNat]? with _ | ⟨a12, a13, a14, a15, a16⟩
    · rw [h3] at h; cases h
    rw [h3] at h
    dsimp only at h
    rw [← Option.some.inj h]
    exact path (ob_b h1 (ob_b h1 (ob_b h1 (ob_b h1 (ob_n h2 (ob_t (look_ts GValue.ts_map h3) (ob_b h1 (ob_b h1 (ob_b h1 (ob_b h1 (ob_b h1 (ob_b h1 ob)))))))))))) (by kernel_rfl)
  · rw [if_neg h1] at h
    replace h1 := Bool.eq_false_iff.2 h1
    rw [← Option.some.inj h]
    exact path (ob_b h1 (ob_b h1 (ob_b h1 (ob_b h1 (ob_b h1 (ob_b h1 (ob_b h1 (ob_b h1 (ob_b h1 (ob_b h1 ob)))))))))) (by kernel_rfl)
theorem ref09_test_l1.okL {t : Tab} {call : FuncId → List AV → List AV → Option (AV × List AV)} (ht : TabOk t call) (n : Nat) : ∀ (k : Nat) (a1 : Bool) (a2 : Bool) (a3 : Int) (a4 : Int) (a5 : List GValue) (a6 : List GPred) (a7 : Int) (a8 : Int) (a9 : ByteArray) (a10 : List GValue) (a11 : List GValue) (r : Bool × Bool × Int × Bool × Int × (List GValue) × (List GPred) × Int × Int × ByteArray × (List GValue) × (List GValue)), ref09_test_l1 t n k a1 a2 a3 a4 a5 a6 a7 a8 a9 a10 a11 = some r → loopN (exec (env Try.prog 30 Try.f30 call) n (sub [1, 1, 1, 0, 1, 0, 0] (bodyOf Try.f30))) k (mkSt 142 142 [(2, (.ptr 2 0 [] 0)), (3, (.ptr 3 0 [] 0)), (5, (.t (.v (.bool a1)))), (6, (.t (.v (.bool a2)))), (7, (.t (.v (.int .i64 a3))))] [(2, (.t (.st [(.v (.int .i64 a4)), (.sl false 5 (GValue.ts a5)), (.sl false 3 (GPred.ts a6))]))), (3, (.t (.st [(.v (.int .i64 a7)), (.v (.int .i64 a8)), (.v (.string a9)), (.sl false 5 (GValue.ts a10)), (.sl false 5 (GValue.ts a11))])))]) = some (ref09_test_l1.to r)
  | 0, a1, a2, a3, a4, a5, a6, a7, a8, a9, a10, a11, r, h => by rw [ref09_test_l1] at h; cases h
  | k + 1, a1, a2, a3, a4, a5, a6, a7, a8, a9, a10, a11, r, h => by
    rw [ref09_test_l1] at h
    by_cases h1 : (decide (a3 < (a5.length : Int))) = true
    · rw [if_pos h1] at h
      by_cases h2 : a1 = true
      · rw [if_pos h2] at h
        rcases h3 : ref09_test_j2 t n  true a2 a3 a4 a5 a6 a7 a8 a9 a10 a11 with _ | q_
        · rw [h3] at h; cases h
        rw [h3] at h
        obtain ⟨a12, a13, a14, a15, a16, a17, a18, a19, a20, a21, a22⟩ := q_
        dsimp only at h
        exact loop_more (path (ob_v (len_ts GValue.ts_map (l := a5)) (ob_b h1 (ob_b h2 (ob_b h2 (ob_b h2 (ob_b h2 (ob_b h2 (ob_b h2 (ob_b h2 (ob_b h2 (ob_j (ref09_test_j2.ok ht n _ _ _ _ _ _ _ _ _ _ _ _ h3) ob))))))))))) (by kernel_rfl)) (ref09_test_l1.okL ht n k _ _ _ _ _ _ _ _ _ _ _ _ h)
      · rw [if_neg h2] at h
        replace h2 := Bool.eq_false_iff.2 h2
        by_cases h4 : (decide (0 ≤ (a3 : Int))) = true
        case neg => rw [if_neg h4] at h; cases h
        rw [if_pos h4] at h
        rcases h5 : a5[(a3 : Int).toNat]? with _ | ⟨a23, a24, a25, a26, a27⟩
        · rw [h5] at h; cases h
        rw [h5] at h
        dsimp only at h
        rcases h6 : t.ref02_Same (GValue.mk a23 a24 a25 a26 a27) (GValue.mk a7 a8 a9 a10 a11) with _ | a28
        · rw [h6] at h; cases h
        rw [h6] at h
        dsimp only at h
        rcases h7 : ref09_test_j2 t n  a28 a2 a3 a4 a5 a6 a7 a8 a9 a10 a11 with _ | q_
        · rw [h7] at h; cases h
        rw [h7] at h
        obtain ⟨a29, a30, a31, a32, a33, a34, a35, a36, a37, a38, a39⟩ := q_
        dsimp only at h
        exact loop_more (path (ob_v (len_ts GValue.ts_map (l := a5)) (ob_b h1 (ob_b h2 (ob_b h2 (ob_b h2 (ob_b h2 (ob_n h4 (ob_t (look_ts GValue.ts_map h5) (ob_b h2 (ob_b h2 (ob_b h2 (ob_c (ht.ref02_Same _ _ _ h6) (ob_b h2 (ob_j (ref09_test_j2.ok ht n _ _ _ _ _ _ _ _ _ _ _ _ h7) ob)))))))))))))) (by kernel_rfl)) (ref09_test_l1.okL ht n k _ _ _ _ _ _ _ _ _ _ _ _ h)
    · rw [if_neg h1] at h
      replace h1 := Bool.eq_false_iff.2 h1
      rw [← Option.some.inj h]
      exact loop_out (path (ob_v (len_ts GValue.ts_map (l := a5)) (ob_b h1 ob)) (by kernel_rfl)) (fun h => by cases h)
theorem ref09_test_l1.ok {t : Tab} {call : FuncId → List AV → List AV → Option (AV × List AV)} (ht : TabOk t call) (n : Nat) (a1 : Bool) (a2 : Bool) (a3 : Int) (a4 : Int) (a5 : List GValue) (a6 : List GPred) (a7 : Int) (a8 : Int) (a9 : ByteArray) (a10 : List GValue) (a11 : List GValue) (r : Bool × Bool × Int × Bool × Int × (List GValue) × (List GPred) × Int × Int × ByteArray × (List GValue) × (List GValue)) (h : ref09_test_l1 t n n a1 a2 a3 a4 a5 a6 a7 a8 a9 a10 a11 = some r) : exec (env Try.prog 30 Try.f30 call) n (sub [1, 1, 1, 0, 1, 0] (bodyOf Try.f30)) (mkSt 142 142 [(2, (.ptr 2 0 [] 0)), (3, (.ptr 3 0 [] 0)), (5, (.t (.v (.bool a1)))), (6, (.t (.v (.bool a2)))), (7, (.t (.v (.int .i64 a3))))] [(2, (.t (.st [(.v (.int .i64 a4)), (.sl false 5 (GValue.ts a5)), (.sl false 3 (GPred.ts a6))]))), (3, (.t (.st [(.v (.int .i64 a7)), (.v (.int .i64 a8)), (.v (.string a9)), (.sl false 5 (GValue.ts a10)), (.sl false 5 (GValue.ts a11))])))]) = some (ref09_test_l1.to r) := by
  have e1 : sub [1, 1, 1, 0, 1, 0] (bodyOf Try.f30) = .loop (sub [1, 1, 1, 0, 1, 0, 0] (bodyOf Try.f30)) := by kernel_rfl
  rw [e1, exec]
  exact ref09_test_l1.okL ht n n a1 a2 a3 a4 a5 a6 a7 a8 a9 a10 a11 r h
theorem ref09_test_j5.ok {t : Tab} {call : FuncId → List AV → List AV → Option (AV × List AV)} (ht : TabOk t call) (n : Nat) (a1 : Bool) (a2 : Bool) (a3 : Bool) (a4 : Bool) (a5 : Int) (a6 : Bool) (a7 : Int) (a8 : List GValue) (a9 : List GPred) (a10 : Int) (a11 : Int) (a12 : ByteArray) (a13 : List GValue) (a14 : List GValue) (r : Bool × Bool × Bool × Bool × Int × Int × (List GValue) × (List GPred) × Int × Int × ByteArray × (List GValue) × (List GValue)) (h : ref09_test_j5 t n a1 a2 a3 a4 a5 a6 a7 a8 a9 a10 a11 a12 a13 a14 = some r) : exec (env Try.prog 30 Try.f30 call) n (sub [1, 1, 1, 1, 1, 1, 0, 1, 0, 0, 1, 0, 0, 1, 1] (bodyOf Try.f30)) (mkSt 142 142 [(2, (.ptr 2 0 [] 0)), (3, (.ptr 3 0 [] 0)), (5, (.t (.v (.bool a1)))), (6, (.t (.v (.bool a2)))), (8, (.t (.v (.bool a3)))), (9, (.t (.v (.bool a4)))), (10, (.t (.v (.int .i64 a5)))), (11, (.t (.v (.bool a6))))] [(2, (.t (.st [(.v (.int .i64 a7)), (.sl false 5 (GValue.ts a8)), (.sl false 3 (GPred.ts a9))]))), (3, (.t (.st [(.v (.int .i64 a10)), (.v (.int .i64 a11)), (.v (.string a12)), (.sl false 5 (GValue.ts a13)), (.sl false 5 (GValue.ts a14))])))]) = some (ref09_test_j5.to r) := by
  rw [ref09_test_j5] at h
  by_cases h1 : a4 = true
  · rw [if_pos h1] at h
    rw [← Option.some.inj h]
    exact path (ob_b h1 (ob_b h1 ob)) (by kernel_rfl)
  · rw [if_neg h1] at h
    replace h1 := Bool.eq_false_iff.2 h1
    rw [← Option.some.inj h]
    exact path (ob_b h1 (ob_b h1 ob)) (by kernel_rfl)
theorem ref09_test_l4.okL {t : Tab} {call : FuncId → List AV → List AV → Option (AV × List AV)} (ht : TabOk t call) (n : Nat) : ∀ (k : Nat) (a1 : Bool) (a2 : Bool) (a3 : Bool) (a4 : Bool) (a5 : Int) (a6 : Int) (a7 : List GValue) (a8 : List GPred) (a9 : Int) (a10 : Int) (a11 : ByteArray) (a12 : List GValue) (a13 : List GValue) (r : Bool × Bool × Bool × Bool × Int × Bool × Int × (List GValue) × (List GPred) × Int × Int × ByteArray × (List GValue) × (List GValue)), ref09_test_l4 t n k a1 a2 a3 a4 a5 a6 a7 a8 a9 a10 a11 a12 a13 = some r → loopN (exec (env Try.prog 30 Try.f30 call) n (sub [1, 1, 1, 1, 1, 1, 0, 1, 0, 0] (bodyOf Try.f30))) k (mkSt 142 142 [(2, (.ptr 2 0 [] 0)), (3, (.ptr 3 0 [] 0)), (5, (.t (.v (.bool a1)))), (6, (.t (.v (.bool a2)))), (8, (.t (.v (.bool a3)))), (9, (.t (.v (.bool a4)))), (10, (.t (.v (.int .i64 a5))))] [(2, (.t (.st [(.v (.int .i64 a6)), (.sl false 5 (GValue.ts a7)), (.sl false 3 (GPred.ts a8))]))), (3, (.t (.st [(.v (.int .i64 a9)), (.v (.int .i64 a10)), (.v (.string a11)), (.sl false 5 (GValue.ts a12)), (.sl false 5 (GValue.ts a13))])))]) = some (ref09_test_l4.to r)
  | 0, a1, a2, a3, a4, a5, a6, a7, a8, a9, a10, a11, a12, a13, r, h => by rw [ref09_test_l4] at h; cases h
  | k + 1, a1, a2, a3, a4, a5, a6, a7, a8, a9, a10, a11, a12, a13, r, h => by
    rw [ref09_test_l4] at h
    by_cases h1 : (decide (a5 < (a8.length : Int))) = true
    · rw [if_pos h1] at h
      by_cases h2 : (decide (0 ≤ (a5 : Int))) = true
      case neg => rw [if_neg h2] at h; cases h
      rw [if_pos h2] at h
      rcases h3 : a8[(a5 : Int).toNat]? with _ | ⟨a14, a15, a16⟩
      · rw [h3] at h; cases h
      rw [h3] at h
      dsimp only at h
      rcases h4 : t.ref09_test (GPred.mk a14 a15 a16) (GValue.mk a9 a10 a11 a12 a13) with _ | a17
      · rw [h4] at h; cases h
      rw [h4] at h
      dsimp only at h
      by_cases h5 : a3 = true
      · rw [if_pos h5] at h
        rcases h6 : ref09_test_j5 t n  a1 a2 true a4 a5 a17 a6 a7 a8 a9 a10 a11 a12 a13 with _ | q_
        · rw [h6] at h; cases h
        rw [h6] at h
        obtain ⟨a18, a19, a20, a21, a22, a23, a24, a25, a26, a27, a28, a29, a30⟩ := q_
        dsimp only at h
        exact loop_more (path (ob_v (len_ts GPred.ts_map (l := a8)) (ob_b h1 (ob_n h2 (ob_t (look_ts GPred.ts_map h3) (ob_c (ht.ref09_test _ _ _ h4) (ob_b h5 (ob_b h5 (ob_j (ref09_test_j5.ok ht n _ _ _ _ _ _ _ _ _ _ _ _ _ _ _ h6) ob)))))))) (by kernel_rfl)) (ref09_test_l4.okL ht n k _ _ _ _ _ _ _ _ _ _ _ _ _ _ h)
      · rw [if_neg h5] at h
        replace h5 := Bool.eq_false_iff.2 h5
        rcases h7 : ref09_test_j5 t n  a1 a2 a17 a4 a5 a17 a6 a7 a8 a9 a10 a11 a12 a13 with _ | q_
        · rw [h7] at h; cases h
        rw [h7] at h
        obtain ⟨a31, a32, a33, a34, a35, a36, a37, a38, a39, a40, a41, a42, a43⟩ := q_
        dsimp only at h
        exact loop_more (path (ob_v (len_ts GPred.ts_map (l := a8)) (ob_b h1 (ob_n h2 (ob_t (look_ts GPred.ts_map h3) (ob_c (ht.ref09_test _ _ _ h4) (ob_b h5 (ob_b h5 (ob_j (ref09_test_j5.ok ht n _ _ _ _ _ _ _ _ _ _ _ _ _ _ _ h7) ob)))))))) (by kernel_rfl)) (ref09_test_l4.okL ht n k _ _ _ _ _ _ _ _ _ _ _ _ _ _ h)
    · rw [if_neg h1] at h
      replace h1 := Bool.eq_false_iff.2 h1
      rw [← Option.some.inj h]
      exact loop_out (path (ob_v (len_ts GPred.ts_map (l := a8)) (ob_b h1 ob)) (by kernel_rfl)) (fun h => by cases h)
theorem ref09_test_l4.ok {t : Tab} {call : FuncId → List AV → List AV → Option (AV × List AV)} (ht : TabOk t call) (n : Nat) (a1 : Bool) (a2 : Bool) (a3 : Bool) (a4 : Bool) (a5 : Int) (a6 : Int) (a7 : List GValue) (a8 : List GPred) (a9 : Int) (a10 : Int) (a11 : ByteArray) (a12 : List GValue) (a13 : List GValue) (r : Bool × Bool × Bool × Bool × Int × Bool × Int × (List GValue) × (List GPred) × Int × Int × ByteArray × (List GValue) × (List GValue)) (h : ref09_test_l4 t n n a1 a2 a3 a4 a5 a6 a7 a8 a9 a10 a11 a12 a13 = some r) : exec (env Try.prog 30 Try.f30 call) n (sub [1, 1, 1, 1, 1, 1, 0, 1, 0] (bodyOf Try.f30)) (mkSt 142 142 [(2, (.ptr 2 0 [] 0)), (3, (.ptr 3 0 [] 0)), (5, (.t (.v (.bool a1)))), (6, (.t (.v (.bool a2)))), (8, (.t (.v (.bool a3)))), (9, (.t (.v (.bool a4)))), (10, (.t (.v (.int .i64 a5))))] [(2, (.t (.st [(.v (.int .i64 a6)), (.sl false 5 (GValue.ts a7)), (.sl false 3 (GPred.ts a8))]))), (3, (.t (.st [(.v (.int .i64 a9)), (.v (.int .i64 a10)), (.v (.string a11)), (.sl false 5 (GValue.ts a12)), (.sl false 5 (GValue.ts a13))])))]) = some (ref09_test_l4.to r) := by
  have e1 : sub [1, 1, 1, 1, 1, 1, 0, 1, 0] (bodyOf Try.f30) = .loop (sub [1, 1, 1, 1, 1, 1, 0, 1, 0, 0] (bodyOf Try.f30)) := by kernel_rfl
  rw [e1, exec]
  exact ref09_test_l4.okL ht n n a1 a2 a3 a4 a5 a6 a7 a8 a9 a10 a11 a12 a13 r h
theorem ref09_test_j8.ok {t : Tab} {call : FuncId → List AV → List AV → Option (AV × List AV)} (ht : TabOk t call) (n : Nat) (a1 : Bool) (a2 : Bool) (a3 : Bool) (a4 : Bool) (a5 : Int) (a6 : Bool) (a7 : Int) (a8 : List GValue) (a9 : List GPred) (a10 : Int) (a11 : Int) (a12 : ByteArray) (a13 : List GValue) (a14 : List GValue) (r : Bool ⊕ (Bool × Int × (List GValue) × (List GPred) × Int × Int × ByteArray × (List GValue) × (List GValue))) (h : ref09_test_j8 t n a1 a2 a3 a4 a5 a6 a7 a8 a9 a10 a11 a12 a13 a14 = some r) : exec (env Try.prog 30 Try.f30 call) n (sub [1, 1, 1, 1, 1, 1, 1, 0, 1, 0, 1, 1, 1] (bodyOf Try.f30)) (mkSt 142 142 [(2, (.ptr 2 0 [] 0)), (3, (.ptr 3 0 [] 0)), (5, (.t (.v (.bool a1)))), (6, (.t (.v (.bool a2)))), (8, (.t (.v (.bool a3)))), (9, (.t (.v (.bool a4)))), (66, (.t (.v (.int .i64 a5)))), (71, (.t (.v (.bool a6))))] [(2, (.t (.st [(.v (.int .i64 a7)), (.sl false 5 (GValue.ts a8)), (.sl false 3 (GPred.ts a9))]))), (3, (.t (.st [(.v (.int .i64 a10)), (.v (.int .i64 a11)), (.v (.string a12)), (.sl false 5 (GValue.ts a13)), (.sl false 5 (GValue.ts a14))])))]) = some (ref09_test_j8.to r) := by
  rw [ref09_test_j8] at h
  by_cases h1 : a6 = true
  · rw [if_pos h1] at h
    rw [← Option.some.inj h]
    exact path (ob_b h1 ob) (by kernel_rfl)
  · rw [if_neg h1] at h
    replace h1 := Bool.eq_false_iff.2 h1
    by_cases h2 : (a5 == 12) = true
    · rw [if_pos h2] at h
      rw [← Option.some.inj h]
      exact path (ob_b h1 (ob_b h2 ob)) (by kernel_rfl)
    · rw [if_neg h2] at h
      replace h2 := Bool.eq_false_iff.2 h2
      by_cases h3 : (a5 == 13) = true
      · rw [if_pos h3] at h
        rw [← Option.some.inj h]
        exact path (ob_b h1 (ob_b h2 (ob_b h3 ob))) (by kernel_rfl)
      · rw [if_neg h3] at h
        replace h3 := Bool.eq_false_iff.2 h3
        by_cases h4 : (a5 == 14) = true
        · rw [if_pos h4] at h
          rw [← Option.some.inj h]
          exact path (ob_b h1 (ob_b h2 (ob_b h3 (ob_b h4 ob)))) (by kernel_rfl)
        · rw [if_neg h4] at h
          replace h4 := Bool.eq_false_iff.2 h4
          rw [← Option.some.inj h]
          exact path (ob_b h1 (ob_b h2 (ob_b h3 (ob_b h4 ob)))) (by kernel_rfl)
theorem ref09_test_j7.ok {t : Tab} {call : FuncId → List AV → List AV → Option (AV × List AV)} (ht : TabOk t call) (n : Nat) (a1 : Bool) (a2 : Bool) (a3 : Bool) (a4 : Bool) (a5 : Int) (a6 : Bool) (a7 : Int) (a8 : List GValue) (a9 : List GPred) (a10 : Int) (a11 : Int) (a12 : ByteArray) (a13 : List GValue) (a14 : List GValue) (r : Bool ⊕ (Bool × Int × (List GValue) × (List GPred) × Int × Int × ByteArray × (List GValue) × (List GValue))) (h : ref09_test_j7 t n a1 a2 a3 a4 a5 a6 a7 a8 a9 a10 a11 a12 a13 a14 = some r) : exec (env Try.prog 30 Try.f30 call) n (sub [1, 1, 1, 1, 1, 1, 1, 0, 1, 0, 1] (bodyOf Try.f30)) (mkSt 142 142 [(2, (.ptr 2 0 [] 0)), (3, (.ptr 3 0 [] 0)), (5, (.t (.v (.bool a1)))), (6, (.t (.v (.bool a2)))), (8, (.t (.v (.bool a3)))), (9, (.t (.v (.bool a4)))), (66, (.t (.v (.int .i64 a5)))), (67, (.t (.v (.bool a6))))] [(2, (.t (.st [(.v (.int .i64 a7)), (.sl false 5 (GValue.ts a8)), (.sl false 3 (GPred.ts a9))]))), (3, (.t (.st [(.v (.int .i64 a10)), (.v (.int .i64 a11)), (.v (.string a12)), (.sl false 5 (GValue.ts a13)), (.sl false 5 (GValue.ts a14))])))]) = some (ref09_test_j7.to r) := by
  rw [ref09_test_j7] at h
  by_cases h1 : a6 = true
  · rw [if_pos h1] at h
    rw [← Option.some.inj h]
    exact path (ob_b h1 ob) (by kernel_rfl)
  · rw [if_neg h1] at h
    replace h1 := Bool.eq_false_iff.2 h1
    by_cases h2 : (a5 == 2) = true
    · rw [if_pos h2] at h
      have h3 := h
      rcases r with a15 | ⟨a16, a17, a18, a19, a20, a21, a22, a23, a24⟩
      · exact path (ob_b h1 (ob_b h2 (ob_j (ref09_test_j8.ok ht n _ _ _ _ _ _ _ _ _ _ _ _ _ _ _ h3) ob))) (by kernel_rfl)
      · exact path (ob_b h1 (ob_b h2 (ob_j (ref09_test_j8.ok ht n _ _ _ _ _ _ _ _ _ _ _ _ _ _ _ h3) ob))) (by kernel_rfl)
    · rw [if_neg h2] at h
      replace h2 := Bool.eq_false_iff.2 h2
      have h4 := h
      rcases r with a25 | ⟨a26, a27, a28, a29, a30, a31, a32, a33, a34⟩
      · exact path (ob_b h1 (ob_b h2 (ob_j (ref09_test_j8.ok ht n _ _ _ _ _ _ _ _ _ _ _ _ _ _ _ h4) ob))) (by kernel_rfl)
      · exact path (ob_b h1 (ob_b h2 (ob_j (ref09_test_j8.ok ht n _ _ _ _ _ _ _ _ _ _ _ _ _ _ _ h4) ob))) (by kernel_rfl)
theorem ref09_test_j9.ok {t : Tab} {call : FuncId → List AV → List AV → Option (AV × List AV)} (ht : TabOk t call) (n : Nat) (a1 : Bool) (a2 : Int) (a3 : List GValue) (a4 : List GPred) (a5 : Int) (a6 : Int) (a7 : ByteArray) (a8 : List GValue) (a9 : List GValue) (r : Bool) (h : ref09_test_j9 t n a1 a2 a3 a4 a5 a6 a7 a8 a9 = some r) : exec (env Try.prog 30 Try.f30 call) n (sub [1, 1, 1, 1, 1, 1, 1, 1] (bodyOf Try.f30)) (mkSt 142 142 [(2, (.ptr 2 0 [] 0)), (3, (.ptr 3 0 [] 0)), (6, (.t (.v (.bool a1))))] [(2, (.t (.st [(.v (.int .i64 a2)), (.sl false 5 (GValue.ts a3)), (.sl false 3 (GPred.ts a4))]))), (3, (.t (.st [(.v (.int .i64 a5)), (.v (.int .i64 a6)), (.v (.string a7)), (.sl false 5 (GValue.ts a8)), (.sl false 5 (GValue.ts a9))])))]) = some (ref09_test_j9.to r) := by
  rw [ref09_test_j9] at h
  by_cases h1 : a1 = true
  · rw [if_pos h1] at h
    by_cases h2 : (decide (0 ≤ (0 : Int))) = true
    case neg => rw [if_neg h2] at h; cases h
    rw [if_pos h2] at h
    rcases h3 : a3[(0 : Int).toNat]? with _ | ⟨a10, a11, a12, a13, a14⟩
    · rw [h3] at h; cases h
    rw [h3] at h
    dsimp only at h
    rcases h4 : t.ref02_Cmp (GValue.mk a5 a6 a7 a8 a9) (GValue.mk a10 a11 a12 a13 a14) with _ | a15
    · rw [h4] at h; cases h
    rw [h4] at h
    dsimp only at h
    by_cases h5 : (a2 == 3) = true
    · rw [if_pos h5] at h
      rw [← Option.some.inj h]
      exact path (ob_b (congrArg (!·) h1) (ob_n h2 (ob_t (look_ts GValue.ts_map h3) (ob_c (ht.ref02_Cmp _ _ _ h4) (ob_b h5 ob))))) (by kernel_rfl)
    · rw [if_neg h5] at h
      replace h5 := Bool.eq_false_iff.2 h5
      by_cases h6 : (a2 == 4) = true
      · rw [if_pos h6] at h
        rw [← Option.some.inj h]
        exact path (ob_b (congrArg (!·) h1) (ob_n h2 (ob_t (look_ts GValue.ts_map h3) (ob_c (ht.ref02_Cmp _ _ _ h4) (ob_b h5 (ob_b h6 ob)))))) (by kernel_rfl)
      · rw [if_neg h6] at h
        replace h6 := Bool.eq_false_iff.2 h6
        by_cases h7 : (a2 == 5) = true
        · rw [if_pos h7] at h
          rw [← Option.some.inj h]
          exact path (ob_b (congrArg (!·) h1) (ob_n h2 (ob_t (look_ts GValue.ts_map h3) (ob_c (ht.ref02_Cmp _ _ _ h4) (ob_b h5 (ob_b h6 (ob_b h7 ob))))))) (by kernel_rfl)
        · rw [if_neg h7] at h
          replace h7 := Bool.eq_false_iff.2 h7
          by_cases h8 : (a2 == 6) = true
          · rw [if_pos h8] at h
            rw [← Option.some.inj h]
            exact path (ob_b (congrArg (!·) h1) (ob_n h2 (ob_t (look_ts GValue.ts_map h3) (ob_c (ht.ref02_Cmp _ _ _ h4) (ob_b h5 (ob_b h6 (ob_b h7 (ob_b h8 ob)))))))) (by kernel_rfl)
          · rw [if_neg h8] at h
            replace h8 := Bool.eq_false_iff.2 h8
            by_cases h9 : (decide (0 ≤ (1 : Int))) = true
            case neg => rw [if_neg h9] at h; cases h
            rw [if_pos h9] at h
            rcases h10 : a3[(1 : Int).toNat]? with _ | ⟨a16, a17, a18, a19, a20⟩
            · rw [h10] at h; cases h
            rw [h10] at h
            dsimp only at h
            rcases h11 : t.ref02_Cmp (GValue.mk a5 a6 a7 a8 a9) (GValue.mk a16 a17 a18 a19 a20) with _ | a21
            · rw [h11] at h; cases h
            rw [h11] at h
            dsimp only at h
            by_cases h12 : (a2 == 7) = true
            · rw [if_pos h12] at h
              by_cases h13 : (a15 != (-1)) = true
              · rw [if_pos h13] at h
                rw [← Option.some.inj h]
                exact path (ob_b (congrArg (!·) h1) (ob_n h2 (ob_t (look_ts GValue.ts_map h3) (ob_c (ht.ref02_Cmp _ _ _ h4) (ob_b h5 (ob_b h6 (ob_b h7 (ob_b h8 (ob_n h9 (ob_t (look_ts GValue.ts_map h10) (ob_c (ht.ref02_Cmp _ _ _ h11) (ob_b h12 (ob_b h13 (ob_b h13 (ob_b h13 ob))))))))))))))) (by kernel_rfl)
              · rw [if_neg h13] at h
                replace h13 := Bool.eq_false_iff.2 h13
                rw [← Option.some.inj h]
                exact path (ob_b (congrArg (!·) h1) (ob_n h2 (ob_t (look_ts GValue.ts_map h3) (ob_c (ht.ref02_Cmp _ _ _ h4) (ob_b h5 (ob_b h6 (ob_b h7 (ob_b h8 (ob_n h9 (ob_t (look_ts GValue.ts_map h10) (ob_c (ht.ref02_Cmp _ _ _ h11) (ob_b h12 (ob_b h13 (ob_b h13 (ob_b h13 ob))))))))))))))) (by kernel_rfl)
            · rw [if_neg h12] at h
              replace h12 := Bool.eq_false_iff.2 h12
              by_cases h14 : (a2 == 8) = true
              · rw [if_pos h14] at h
                by_cases h15 : (a15 == 1) = true
                · rw [if_pos h15] at h
                  rw [← Option.some.inj h]
                  exact path (ob_b (congrArg (!·) h1) (ob_n h2 (ob_t (look_ts GValue.ts_map h3) (ob_c (ht.ref02_Cmp _ _ _ h4) (ob_b h5 (ob_b h6 (ob_b h7 (ob_b h8 (ob_n h9 (ob_t (look_ts GValue.ts_map h10) (ob_c (ht.ref02_Cmp _ _ _ h11) (ob_b h12 (ob_b h14 (ob_b h15 (ob_b h15 (ob_b h15 ob)))))))))))))))) (by kernel_rfl)
                · rw [if_neg h15] at h
                  replace h15 := Bool.eq_false_iff.2 h15
                  rw [← Option.some.inj h]
                  exact path (ob_b (congrArg (!·) h1) (ob_n h2 (ob_t (look_ts GValue.ts_map h3) (ob_c (ht.ref02_Cmp _ _ _ h4) (ob_b h5 (ob_b h6 (ob_b h7 (ob_b h8 (ob_n h9 (ob_t (look_ts GValue.ts_map h10) (ob_c (ht.ref02_Cmp _ _ _ h11) (ob_b h12 (ob_b h14 (ob_b h15 (ob_b h15 (ob_b h15 ob)))))))))))))))) (by kernel_rfl)
              · rw [if_neg h14] at h
                replace h14 := Bool.eq_false_iff.2 h14
                by_cases h16 : (a15 == (-1)) = true
                · rw [if_pos h16] at h
                  rw [← Option.some.inj h]
                  exact path (ob_b (congrArg (!·) h1) (ob_n h2 (ob_t (look_ts GValue.ts_map h3) (ob_c (ht.ref02_Cmp _ _ _ h4) (ob_b h5 (ob_b h6 (ob_b h7 (ob_b h8 (ob_n h9 (ob_t (look_ts GValue.ts_map h10) (ob_c (ht.ref02_Cmp _ _ _ h11) (ob_b h12 (ob_b h14 (ob_b h16 (ob_b h16 (ob_b h16 ob)))))))))))))))) (by kernel_rfl)
                · rw [if_neg h16] at h
                  replace h16 := Bool.eq_false_iff.2 h16
                  rw [← Option.some.inj h]
                  exact path (ob_b (congrArg (!·) h1) (ob_n h2 (ob_t (look_ts GValue.ts_map h3) (ob_c (ht.ref02_Cmp _ _ _ h4) (ob_b h5 (ob_b h6 (ob_b h7 (ob_b h8 (ob_n h9 (ob_t (look_ts GValue.ts_map h10) (ob_c (ht.ref02_Cmp _ _ _ h11) (ob_b h12 (ob_b h14 (ob_b h16 (ob_b h16 (ob_b h16 ob)))))))))))))))) (by kernel_rfl)
  · rw [if_neg h1] at h
    replace h1 := Bool.eq_false_iff.2 h1
    rw [← Option.some.inj h]
    exact path (ob_b (congrArg (!·) h1) ob) (by kernel_rfl)
theorem ref09_test_j6.ok {t : Tab} {call : FuncId → List AV → List AV → Option (AV × List AV)} (ht : TabOk t call) (n : Nat) (a1 : Bool) (a2 : Bool) (a3 : Bool) (a4 : Bool) (a5 : Int) (a6 : List GValue) (a7 : List GPred) (a8 : Int) (a9 : Int) (a10 : ByteArray) (a11 : List GValue) (a12 : List GValue) (r : Bool) (h : ref09_test_j6 t n a1 a2 a3 a4 a5 a6 a7 a8 a9 a10 a11 a12 = some r) : exec (env Try.prog 30 Try.f30 call) n (sub [1, 1, 1, 1, 1, 1, 1] (bodyOf Try.f30)) (mkSt 142 142 [(2, (.ptr 2 0 [] 0)), (3, (.ptr 3 0 [] 0)), (5, (.t (.v (.bool a1)))), (6, (.t (.v (.bool a2)))), (8, (.t (.v (.bool a3)))), (9, (.t (.v (.bool a4))))] [(2, (.t (.st [(.v (.int .i64 a5)), (.sl false 5 (GValue.ts a6)), (.sl false 3 (GPred.ts a7))]))), (3, (.t (.st [(.v (.int .i64 a8)), (.v (.int .i64 a9)), (.v (.string a10)), (.sl false 5 (GValue.ts a11)), (.sl false 5 (GValue.ts a12))])))]) = some (ref09_test_j6.to r) := by
  rw [ref09_test_j6] at h
  by_cases h1 : (a5 == 1) = true
  · rw [if_pos h1] at h
    rcases h2 : ref09_test_j7 t n  a1 a2 a3 a4 a5 (a5 == 1) a5 a6 a7 a8 a9 a10 a11 a12 with _ | q_
    · rw [h2] at h; cases h
    rw [h2] at h
    rcases q_ with a13 | ⟨a14, a15, a16, a17, a18, a19, a20, a21, a22⟩
    · dsimp only at h
      rw [← Option.some.inj h]
      exact path (ob_b h1 (ob_j (ref09_test_j7.ok ht n _ _ _ _ _ _ _ _ _ _ _ _ _ _ _ h2) ob)) (by kernel_rfl)
    · dsimp only at h
      obtain ⟨a23, rfl⟩ : ∃ z_, z_ = r := ⟨_, rfl⟩
      have h3 := h
      exact path (ob_b h1 (ob_j (ref09_test_j7.ok ht n _ _ _ _ _ _ _ _ _ _ _ _ _ _ _ h2) (ob_j (ref09_test_j9.ok ht n _ _ _ _ _ _ _ _ _ _ h3) ob))) (by kernel_rfl)
  · rw [if_neg h1] at h
    replace h1 := Bool.eq_false_iff.2 h1
    rcases h4 : ref09_test_j7 t n  a1 a2 a3 a4 a5 (a5 == 10) a5 a6 a7 a8 a9 a10 a11 a12 with _ | q_
    · rw [h4] at h; cases h
    rw [h4] at h
    rcases q_ with a24 | ⟨a25, a26, a27, a28, a29, a30, a31, a32, a33⟩
    · dsimp only at h
      rw [← Option.some.inj h]
      exact path (ob_b h1 (ob_j (ref09_test_j7.ok ht n _ _ _ _ _ _ _ _ _ _ _ _ _ _ _ h4) ob)) (by kernel_rfl)
    · dsimp only at h
      obtain ⟨a34, rfl⟩ : ∃ z_, z_ = r := ⟨_, rfl⟩
      have h5 := h
      exact path (ob_b h1 (ob_j (ref09_test_j7.ok ht n _ _ _ _ _ _ _ _ _ _ _ _ _ _ _ h4) (ob_j (ref09_test_j9.ok ht n _ _ _ _ _ _ _ _ _ _ h5) ob))) (by kernel_rfl)
theorem ref09_test_j3.ok {t : Tab} {call : FuncId → List AV → List AV → Option (AV × List AV)} (ht : TabOk t call) (n : Nat) (a1 : Bool) (a2 : Bool) (a3 : Int) (a4 : List GValue) (a5 : List GPred) (a6 : Int) (a7 : Int) (a8 : ByteArray) (a9 : List GValue) (a10 : List GValue) (r : Bool) (h : ref09_test_j3 t n a1 a2 a3 a4 a5 a6 a7 a8 a9 a10 = some r) : exec (env Try.prog 30 Try.f30 call) n (sub [1, 1, 1, 1] (bodyOf Try.f30)) (mkSt 142 142 [(2, (.ptr 2 0 [] 0)), (3, (.ptr 3 0 [] 0)), (5, (.t (.v (.bool a1)))), (6, (.t (.v (.bool a2))))] [(2, (.t (.st [(.v (.int .i64 a3)), (.sl false 5 (GValue.ts a4)), (.sl false 3 (GPred.ts a5))]))), (3, (.t (.st [(.v (.int .i64 a6)), (.v (.int .i64 a7)), (.v (.string a8)), (.sl false 5 (GValue.ts a9)), (.sl false 5 (GValue.ts a10))])))]) = some (ref09_test_j3.to r) := by
  rw [ref09_test_j3] at h
  rcases h1 : ref09_test_l4 t n n a1 a2 false true 0 a3 a4 a5 a6 a7 a8 a9 a10 with _ | q_
  · rw [h1] at h; cases h
  rw [h1] at h
  obtain ⟨a11, a12, a13, a14, a15, a16, a17, a18, a19, a20, a21, a22, a23, a24⟩ := q_
  dsimp only at h
  obtain ⟨a25, rfl⟩ : ∃ z_, z_ = r := ⟨_, rfl⟩
  have h2 := h
  exact path (ob_k (ref09_test_l4.ok ht n _ _ _ _ _ _ _ _ _ _ _ _ _ _ h1) (ob_j (ref09_test_j6.ok ht n _ _ _ _ _ _ _ _ _ _ _ _ _ h2) ob)) (by kernel_rfl)
theorem ref09_test.ok {n : Nat} {t : Tab} (ht : TabOk t (run Try.prog own kp X n)) : ∀ (p1 : GPred) (p2 : GValue) r, ref09_test t n p1 p2 = some r → run Try.prog own kp X (n + 1) 30 [(.t (GPred.t p1)), (.t (GValue.t p2))] [] = some ((.t (.v (.bool r))), []) := by
  intro p1 p2 r h
  obtain ⟨a1, a2, a3⟩ := p1
  obtain ⟨a4, a5, a6, a7, a8⟩ := p2
  rw [ref09_test] at h
  rcases h1 : ref09_test_l1 t n n false true 0 a1 a2 a3 a4 a5 a6 a7 a8 with _ | q_
  · rw [h1] at h; cases h
  rw [h1] at h
  obtain ⟨a9, a10, a11, a12, a13, a14, a15, a16, a17, a18, a19, a20⟩ := q_
  dsimp only at h
  obtain ⟨a21, rfl⟩ : ∃ z_, z_ = r := ⟨_, rfl⟩
  have h2 := h
  exact run_path Try.func30 (ob_k (ref09_test_l1.ok ht n _ _ _ _ _ _ _ _ _ _ _ _ h1) (ob_j (ref09_test_j3.ok ht n _ _ _ _ _ _ _ _ _ _ _ h2) ob)) (by kernel_rfl)
theorem pred_Copy.ok {n : Nat} {t : Tab} (ht : TabOk t (run Try.prog own kp X n)) : ∀ (p1 : GPred) r, pred_Copy t n p1 = some r → run Try.prog own kp X (n + 1) 17 [(.t (GPred.t p1))] [] = some ((.t (GPred.t r)), []) := by
  intro p1 r h
  obtain ⟨a1, a2, a3⟩ := p1
  rw [pred_Copy] at h
  obtain ⟨a4, a5, a6⟩ := r
  have h1 := h
  exact run_path Try.func17 (ob_c (ht.pred_part _ _ _ h1) ob) (by kernel_rfl)
theorem pred_negate_l2.okL {t : Tab} {call : FuncId → List AV → List AV → Option (AV × List AV)} (ht : TabOk t call) (n : Nat) : ∀ (k : Nat) (a1 : List GPred) (a2 : Int) (a3 : Int) (a4 : Int) (a5 : List GValue) (a6 : List GPred) (a7 : Int) (a8 : List GValue) (a9 : List GPred) (r : (List GPred) × Int × Int × Bool × Int × (List GValue) × (List GPred) × Int × (List GValue) × (List GPred)), pred_negate_l2 t n k a1 a2 a3 a4 a5 a6 a7 a8 a9 = some r → loopN (exec (env Try.prog 31 Try.f31 call) n (sub [1, 1, 0, 1, 0, 1, 1, 1, 0, 1, 0, 1, 0, 0] (bodyOf Try.f31))) k (mkSt 52 52 [(2, (.ptr 2 0 [] 0)), (5, (.ptr 5 0 [] 0)), (34, (.t (.sl false 3 (GPred.ts a1)))), (35, (.t (.v (.int .i64 a2)))), (36, (.t (.v (.int .i64 a3))))] [(2, (.t (.st [(.v (.int .i64 a4)), (.sl true 5 (GValue.ts a5)), (.sl true 3 (GPred.ts a6))]))), (5, (.t (.st [(.v (.int .i64 a7)), (.sl true 5 (GValue.ts a8)), (.sl true 3 (GPred.ts a9))])))]) = some (pred_negate_l2.to r)
  | 0, a1, a2, a3, a4, a5, a6, a7, a8, a9, r, h => by rw [pred_negate_l2] at h; cases h
  | k + 1, a1, a2, a3, a4, a5, a6, a7, a8, a9, r, h => by
    rw [pred_negate_l2] at h
    by_cases h1 : (decide (a3 < a2)) = true
    · rw [if_pos h1] at h
      by_cases h2 : (decide (0 ≤ (a3 : Int))) = true
      case neg => rw [if_neg h2] at h; cases h
      rw [if_pos h2] at h
      rcases h3 : a1[(a3 : Int).toNat]? with _ | ⟨a10, a11, a12⟩
      · rw [h3] at h; cases h
      rw [h3] at h
      dsimp only at h
      rcases h4 : t.pred_negate (GPred.mk a10 a11 a12) with _ | ⟨a13, a14, a15⟩
      · rw [h4] at h; cases h
      rw [h4] at h
      dsimp only at h
      by_cases h5 : (a9.length + ([(GPred.mk a13 a14 a15)] : List GPred).length) * 56 ≤ 140737488355328
      case neg => rw [if_neg h5] at h; cases h
      rw [if_pos h5] at h
      exact loop_more (path (ob_b h1 (ob_n h2 (ob_t (look_ts GPred.ts_map h3) (ob_c (ht.pred_negate _ _ h4) (ob_le (room_ts GPred.ts_map h5) (ob_l (app_ts GPred.ts_map (a := a9) (b := ([(GPred.mk a13 a14 a15)] : List GPred))) ob)))))) (by kernel_rfl)) (pred_negate_l2.okL ht n k _ _ _ _ _ _ _ _ _ _ h)
    · rw [if_neg h1] at h
      replace h1 := Bool.eq_false_iff.2 h1
      rw [← Option.some.inj h]
      exact loop_out (path (ob_b h1 ob) (by kernel_rfl)) (fun h => by cases h)
theorem pred_negate_l2.ok {t : Tab} {call : FuncId → List AV → List AV → Option (AV × List AV)} (ht : TabOk t call) (n : Nat) (a1 : List GPred) (a2 : Int) (a3 : Int) (a4 : Int) (a5 : List GValue) (a6 : List GPred) (a7 : Int) (a8 : List GValue) (a9 : List GPred) (r : (List GPred) × Int × Int × Bool × Int × (List GValue) × (List GPred) × Int × (List GValue) × (List GPred)) (h : pred_negate_l2 t n n a1 a2 a3 a4 a5 a6 a7 a8 a9 = some r) : exec (env Try.prog 31 Try.f31 call) n (sub [1, 1, 0, 1, 0, 1, 1, 1, 0, 1, 0, 1, 0] (bodyOf Try.f31)) (mkSt 52 52 [(2, (.ptr 2 0 [] 0)), (5, (.ptr 5 0 [] 0)), (34, (.t (.sl false 3 (GPred.ts a1)))), (35, (.t (.v (.int .i64 a2)))), (36, (.t (.v (.int .i64 a3))))] [(2, (.t (.st [(.v (.int .i64 a4)), (.sl true 5 (GValue.ts a5)), (.sl true 3 (GPred.ts a6))]))), (5, (.t (.st [(.v (.int .i64 a7)), (.sl true 5 (GValue.ts a8)), (.sl true 3 (GPred.ts a9))])))]) = some (pred_negate_l2.to r) := by
  have e1 : sub [1, 1, 0, 1, 0, 1, 1, 1, 0, 1, 0, 1, 0] (bodyOf Try.f31) = .loop (sub [1, 1, 0, 1, 0, 1, 1, 1, 0, 1, 0, 1, 0, 0] (bodyOf Try.f31)) := by kernel_rfl
  rw [e1, exec]
  exact pred_negate_l2.okL ht n n a1 a2 a3 a4 a5 a6 a7 a8 a9 r h
theorem pred_negate_j1.ok {t : Tab} {call : FuncId → List AV → List AV → Option (AV × List AV)} (ht : TabOk t call) (n : Nat) (a1 : Bool) (a2 : Int) (a3 : List GValue) (a4 : List GPred) (a5 : Int) (a6 : List GValue) (a7 : List GPred) (r : (Int × (List GValue) × (List GPred)) ⊕ (Int × (List GValue) × (List GPred) × Int × (List GValue) × (List GPred))) (h : pred_negate_j1 t n a1 a2 a3 a4 a5 a6 a7 = some r) : exec (env Try.prog 31 Try.f31 call) n (sub [1, 1, 0, 1, 0, 1, 1, 1] (bodyOf Try.f31)) (mkSt 52 52 [(1, (.ptr 1 0 [] 0)), (2, (.ptr 2 0 [] 0)), (26, (.t (.v (.bool a1))))] [(1, (.t (.st [(.v (.int .i64 a2)), (.sl false 5 (GValue.ts a3)), (.sl false 3 (GPred.ts a4))]))), (2, (.t (.st [(.v (.int .i64 a5)), (.sl true 5 (GValue.ts a6)), (.sl true 3 (GPred.ts a7))])))]) = some (pred_negate_j1.to r) := by
  rw [pred_negate_j1] at h
  by_cases h1 : a1 = true
  · rw [if_pos h1] at h
    rcases h2 : pred_negate_l2 t n n a4 (a4.length : Int) 0 a5 a6 a7 (IntKind.wrap .i64 (27 - a2)) ([] : List GValue) ([] : List GPred) with _ | q_
    · rw [h2] at h; cases h
    rw [h2] at h
    obtain ⟨a8, a9, a10, a11, a12, a13, a14, a15, a16, a17⟩ := q_
    dsimp only at h
    rw [← Option.some.inj h]
    exact path (ob_b h1 (ob_v (len_ts GPred.ts_map (l := a4)) (ob_k (pred_negate_l2.ok ht n _ _ _ _ _ _ _ _ _ _ h2) ob))) (by kernel_rfl)
  · rw [if_neg h1] at h
    replace h1 := Bool.eq_false_iff.2 h1
    rw [← Option.some.inj h]
    exact path (ob_b h1 ob) (by kernel_rfl)
theorem pred_negate.ok {n : Nat} {t : Tab} (ht : TabOk t (run Try.prog own kp X n)) : ∀ (p1 : GPred) r, pred_negate t n p1 = some r → run Try.prog own kp X (n + 1) 31 [(.t (GPred.t p1))] [] = some ((.t (GPred.t r)), []) := by
  intro p1 r h
  obtain ⟨a1, a2, a3⟩ := p1
  rw [pred_negate] at h
  rcases h1 : t.pred_other a1 with _ | ⟨a4, a5⟩
  · rw [h1] at h; cases h
  rw [h1] at h
  dsimp only at h
  by_cases h2 : a5 = true
  · rw [if_pos h2] at h
    rw [← Option.some.inj h]
    exact run_path Try.func31 (ob_c (ht.pred_other _ _ h1) (ob_b h2 ob)) (by kernel_rfl)
  · rw [if_neg h2] at h
    replace h2 := Bool.eq_false_iff.2 h2
    by_cases h3 : (a1 == 12) = true
    · rw [if_pos h3] at h
      by_cases h4 : (decide (0 ≤ (0 : Int))) = true
      case neg => rw [if_neg h4] at h; cases h
      rw [if_pos h4] at h
      rcases h5 : a3[(0 : Int).toNat]? with _ | ⟨a6, a7, a8⟩
      · rw [h5] at h; cases h
      rw [h5] at h
      dsimp only at h
      rw [← Option.some.inj h]
      exact run_path Try.func31 (ob_c (ht.pred_other _ _ h1) (ob_b h2 (ob_b h3 (ob_n h4 (ob_t (look_ts GPred.ts_map h5) ob))))) (by kernel_rfl)
    · rw [if_neg h3] at h
      replace h3 := Bool.eq_false_iff.2 h3
      by_cases h6 : (a1 == 13) = true
      · rw [if_pos h6] at h
        rcases h7 : pred_negate_j1 t n  (a1 == 13) a1 a2 a3 0 ([] : List GValue) ([] : List GPred) with _ | q_
        · rw [h7] at h; cases h
        rw [h7] at h
        rcases q_ with ⟨a9, a10, a11⟩ | ⟨a12, a13, a14, a15, a16, a17⟩
        · dsimp only at h
          rw [← Option.some.inj h]
          exact run_path Try.func31 (ob_c (ht.pred_other _ _ h1) (ob_b h2 (ob_b h3 (ob_b h6 (ob_j (pred_negate_j1.ok ht n _ _ _ _ _ _ _ _ h7) ob))))) (by kernel_rfl)
        · dsimp only at h
          rw [← Option.some.inj h]
          exact run_path Try.func31 (ob_c (ht.pred_other _ _ h1) (ob_b h2 (ob_b h3 (ob_b h6 (ob_j (pred_negate_j1.ok ht n _ _ _ _ _ _ _ _ h7) ob))))) (by kernel_rfl)
      · rw [if_neg h6] at h
        replace h6 := Bool.eq_false_iff.2 h6
        rcases h8 : pred_negate_j1 t n  (a1 == 14) a1 a2 a3 0 ([] : List GValue) ([] : List GPred) with _ | q_
        · rw [h8] at h; cases h
        rw [h8] at h
        rcases q_ with ⟨a18, a19, a20⟩ | ⟨a21, a22, a23, a24, a25, a26⟩
        · dsimp only at h
          rw [← Option.some.inj h]
          exact run_path Try.func31 (ob_c (ht.pred_other _ _ h1) (ob_b h2 (ob_b h3 (ob_b h6 (ob_j (pred_negate_j1.ok ht n _ _ _ _ _ _ _ _ h8) ob))))) (by kernel_rfl)
        · dsimp only at h
          rw [← Option.some.inj h]
          exact run_path Try.func31 (ob_c (ht.pred_other _ _ h1) (ob_b h2 (ob_b h3 (ob_b h6 (ob_j (pred_negate_j1.ok ht n _ _ _ _ _ _ _ _ h8) ob))))) (by kernel_rfl)
theorem ref02_SameRows_l1.okL {t : Tab} {call : FuncId → List AV → List AV → Option (AV × List AV)} (ht : TabOk t call) (n : Nat) : ∀ (k : Nat) (a1 : List GValue) (a2 : List GValue) (a3 : Int) (r : Bool ⊕ ((List GValue) × (List GValue) × Int × Bool)), ref02_SameRows_l1 t n k a1 a2 a3 = some r → loopN (exec (env Try.prog 33 Try.f33 call) n (sub [1, 1, 0, 1, 0, 0] (bodyOf Try.f33))) k (mkSt 27 27 [(0, (.t (.sl false 5 (GValue.ts a1)))), (1, (.t (.sl false 5 (GValue.ts a2)))), (5, (.t (.v (.int .i64 a3))))] []) = some (ref02_SameRows_l1.to r)
  | 0, a1, a2, a3, r, h => by rw [ref02_SameRows_l1] at h; cases h
  | k + 1, a1, a2, a3, r, h => by
    rw [ref02_SameRows_l1] at h
    by_cases h1 : (decide (a3 < (a1.length : Int))) = true
    · rw [if_pos h1] at h
      by_cases h2 : (decide (0 ≤ (a3 : Int))) = true
      case neg => rw [if_neg h2] at h; cases h
      rw [if_pos h2] at h
      rcases h3 : a1[(a3 : Int).toNat]? with _ | ⟨a4, a5, a6, a7, a8⟩
      · rw [h3] at h; cases h
      rw [h3] at h
      dsimp only at h
      rcases h4 : a2[(a3 : Int).toNat]? with _ | ⟨a9, a10, a11, a12, a13⟩
      · rw [h4] at h; cases h
      rw [h4] at h
      dsimp only at h
      rcases h5 : t.ref02_Same (GValue.mk a4 a5 a6 a7 a8) (GValue.mk a9 a10 a11 a12 a13) with _ | a14
      · rw [h5] at h; cases h
      rw [h5] at h
      dsimp only at h
      by_cases h6 : a14 = true
      · rw [if_pos h6] at h
        exact loop_more (path (ob_v (len_ts GValue.ts_map (l := a1)) (ob_b h1 (ob_n h2 (ob_t (look_ts GValue.ts_map h3) (ob_n h2 (ob_t (look_ts GValue.ts_map h4) (ob_c (ht.ref02_Same _ _ _ h5) (ob_b (congrArg (!·) h6) ob)))))))) (by kernel_rfl)) (ref02_SameRows_l1.okL ht n k _ _ _ _ h)
      · rw [if_neg h6] at h
        replace h6 := Bool.eq_false_iff.2 h6
        rw [← Option.some.inj h]
        exact loop_out (path (ob_v (len_ts GValue.ts_map (l := a1)) (ob_b h1 (ob_n h2 (ob_t (look_ts GValue.ts_map h3) (ob_n h2 (ob_t (look_ts GValue.ts_map h4) (ob_c (ht.ref02_Same _ _ _ h5) (ob_b (congrArg (!·) h6) ob)))))))) (by kernel_rfl)) (fun h => by cases h)
    · rw [if_neg h1] at h
      replace h1 := Bool.eq_false_iff.2 h1
      rw [← Option.some.inj h]
      exact loop_out (path (ob_v (len_ts GValue.ts_map (l := a1)) (ob_b h1 ob)) (by kernel_rfl)) (fun h => by cases h)
theorem ref02_SameRows_l1.ok {t : Tab} {call : FuncId → List AV → List AV → Option (AV × List AV)} (ht : TabOk t call) (n : Nat) (a1 : List GValue) (a2 : List GValue) (a3 : Int) (r : Bool ⊕ ((List GValue) × (List GValue) × Int × Bool)) (h : ref02_SameRows_l1 t n n a1 a2 a3 = some r) : exec (env Try.prog 33 Try.f33 call) n (sub [1, 1, 0, 1, 0] (bodyOf Try.f33)) (mkSt 27 27 [(0, (.t (.sl false 5 (GValue.ts a1)))), (1, (.t (.sl false 5 (GValue.ts a2)))), (5, (.t (.v (.int .i64 a3))))] []) = some (ref02_SameRows_l1.to r) := by
  have e1 : sub [1, 1, 0, 1, 0] (bodyOf Try.f33) = .loop (sub [1, 1, 0, 1, 0, 0] (bodyOf Try.f33)) := by kernel_rfl
  rw [e1, exec]
  exact ref02_SameRows_l1.okL ht n n a1 a2 a3 r h
theorem ref02_SameRows.ok {n : Nat} {t : Tab} (ht : TabOk t (run Try.prog own kp X n)) : ∀ (p1 : List GValue) (p2 : List GValue) r, ref02_SameRows t n p1 p2 = some r → run Try.prog own kp X (n + 1) 33 [(.t (.sl false 5 (GValue.ts p1))), (.t (.sl false 5 (GValue.ts p2)))] [] = some ((.t (.v (.bool r))), []) := by
  intro p1 p2 r h
  obtain ⟨a1, rfl⟩ : ∃ z_, z_ = p1 := ⟨_, rfl⟩
  obtain ⟨a2, rfl⟩ : ∃ z_, z_ = p2 := ⟨_, rfl⟩
  rw [ref02_SameRows] at h
  by_cases h1 : ((a1.length : Int) != (a2.length : Int)) = true
  · rw [if_pos h1] at h
    rw [← Option.some.inj h]
    exact run_path Try.func33 (ob_v (len_ts GValue.ts_map (l := a1)) (ob_v (len_ts GValue.ts_map (l := a2)) (ob_b h1 ob))) (by kernel_rfl)
  · rw [if_neg h1] at h
    replace h1 := Bool.eq_false_iff.2 h1
    rcases h2 : ref02_SameRows_l1 t n n a1 a2 0 with _ | q_
    · rw [h2] at h; cases h
    rw [h2] at h
    rcases q_ with a3 | ⟨a4, a5, a6, a7⟩
    · dsimp only at h
      rw [← Option.some.inj h]
      exact run_path Try.func33 (ob_v (len_ts GValue.ts_map (l := a1)) (ob_v (len_ts GValue.ts_map (l := a2)) (ob_b h1 (ob_k (ref02_SameRows_l1.ok ht n _ _ _ _ h2) ob)))) (by kernel_rfl)
    · dsimp only at h
      rw [← Option.some.inj h]
      exact run_path Try.func33 (ob_v (len_ts GValue.ts_map (l := a1)) (ob_v (len_ts GValue.ts_map (l := a2)) (ob_b h1 (ob_k (ref02_SameRows_l1.ok ht n _ _ _ _ h2) ob)))) (by kernel_rfl)
theorem ref02_right_l2.okL {t : Tab} {call : FuncId → List AV → List AV → Option (AV × List AV)} (ht : TabOk t call) (n : Nat) : ∀ (k : Nat) (a1 : Int) (a2 : Int) (a3 : Int) (a4 : Int) (a5 : ByteArray) (a6 : List GValue) (a7 : List GValue) (r : Bool ⊕ (Int × Int × Bool × Int × Int × ByteArray × (List GValue) × (List GValue))), ref02_right_l2 t n k a1 a2 a3 a4 a5 a6 a7 = some r → loopN (exec (env Try.prog 35 Try.f35 call) n (sub [1, 1, 0, 1, 0, 0] (bodyOf Try.f35))) k (mkSt 68 68 [(1, (.t (.v (.int .i64 a1)))), (2, (.ptr 2 0 [] 0)), (5, (.t (.v (.int .i64 a2))))] [(2, (.t (.st [(.v (.int .i64 a3)), (.v (.int .i64 a4)), (.v (.string a5)), (.sl false 5 (GValue.ts a6)), (.sl false 5 (GValue.ts a7))])))]) = some (ref02_right_l2.to r)
  | 0, a1, a2, a3, a4, a5, a6, a7, r, h => by rw [ref02_right_l2] at h; cases h
  | k + 1, a1, a2, a3, a4, a5, a6, a7, r, h => by
    rw [ref02_right_l2] at h
    by_cases h1 : (decide (a2 < (a6.length : Int))) = true
    · rw [if_pos h1] at h
      by_cases h2 : (decide (0 ≤ (a2 : Int))) = true
      case neg => rw [if_neg h2] at h; cases h
      rw [if_pos h2] at h
      rcases h3 : a6[(a2 : Int).toNat]? with _ | ⟨a8, a9, a10, a11, a12⟩
      · rw [h3] at h; cases h
      rw [h3] at h
      dsimp only at h
      rcases h4 : t.ref02_right (GValue.mk a8 a9 a10 a11 a12) (IntKind.wrap .i64 (a1 + 1)) with _ | a13
      · rw [h4] at h; cases h
      rw [h4] at h
      dsimp only at h
      by_cases h5 : a13 = true
      · rw [if_pos h5] at h
        by_cases h6 : (a3 == 7) = true
        · rw [if_pos h6] at h
          by_cases h7 : (decide (a2 > 0)) = true
          · rw [if_pos h7] at h
            by_cases h8 : (decide (0 ≤ ((IntKind.wrap .i64 (a2 - 1)) : Int))) = true
            case neg => rw [if_neg h8] at h; cases h
            rw [if_pos h8] at h
            rcases h9 : a6[((IntKind.wrap .i64 (a2 - 1)) : Int).toNat]? with _ | ⟨a14, a15, a16, a17, a18⟩
            · rw [h9] at h; cases h
            rw [h9] at h
            dsimp only at h
            rcases h10 : t.ref02_Cmp (GValue.mk a14 a15 a16 a17 a18) (GValue.mk a8 a9 a10 a11 a12) with _ | a19
            · rw [h10] at h; cases h
            rw [h10] at h
            dsimp only at h
            by_cases h11 : (a19 != (-1)) = true
            · rw [if_pos h11] at h
              rw [← Option.some.inj h]
              exact loop_out (path (ob_v (len_ts GValue.ts_map (l := a6)) (ob_b h1 (ob_n h2 (ob_t (look_ts GValue.ts_map h3) (ob_c (ht.ref02_right _ _ _ h4) (ob_b (congrArg (!·) h5) (ob_b h6 (ob_b h6 (ob_b h6 (ob_b h7 (ob_b h7 (ob_b h7 (ob_b h7 (ob_b h7 (ob_n h8 (ob_t (look_ts GValue.ts_map h9) (ob_b h7 (ob_b h7 (ob_b h7 (ob_b h7 (ob_b h7 (ob_n h2 (ob_t (look_ts GValue.ts_map h3) (ob_b h7 (ob_b h7 (ob_c (ht.ref02_Cmp _ _ _ h10) (ob_b h7 (ob_b h7 (ob_b h11 ob))))))))))))))))))))))))))))) (by kernel_rfl)) (fun h => by cases h)
            · rw [if_neg h11] at h
              replace h11 := Bool.eq_false_iff.2 h11
              exact loop_more (path (ob_v (len_ts GValue.ts_map (l := a6)) (ob_b h1 (ob_n h2 (ob_t (look_ts GValue.ts_map h3) (ob_c (ht.ref02_right _ _ _ h4) (ob_b (congrArg (!·) h5) (ob_b h6 (ob_b h6 (ob_b h6 (ob_b h7 (ob_b h7 (ob_b h7 (ob_b h7 (ob_b h7 (ob_n h8 (ob_t (look_ts GValue.ts_map h9) (ob_b h7 (ob_b h7 (ob_b h7 (ob_b h7 (ob_b h7 (ob_n h2 (ob_t (look_ts GValue.ts_map h3) (ob_b h7 (ob_b h7 (ob_c (ht.ref02_Cmp _ _ _ h10) (ob_b h7 (ob_b h7 (ob_b h11 ob))))))))))))))))))))))))))))) (by kernel_rfl)) (ref02_right_l2.okL ht n k _ _ _ _ _ _ _ _ h)
          · rw [if_neg h7] at h
            replace h7 := Bool.eq_false_iff.2 h7
            exact loop_more (path (ob_v (len_ts GValue.ts_map (l := a6)) (ob_b h1 (ob_n h2 (ob_t (look_ts GValue.ts_map h3) (ob_c (ht.ref02_right _ _ _ h4) (ob_b (congrArg (!·) h5) (ob_b h6 (ob_b h6 (ob_b h6 (ob_b h7 (ob_b h7 (ob_b h7 (ob_b h7 (ob_b h7 (ob_b h7 (ob_b h7 (ob_b h7 (ob_b h7 (ob_b h7 (ob_b h7 (ob_b h7 (ob_b h7 (ob_b h7 (ob_b (rfl : false = false) ob)))))))))))))))))))))))) (by kernel_rfl)) (ref02_right_l2.okL ht n k _ _ _ _ _ _ _ _ h)
        · rw [if_neg h6] at h
          replace h6 := Bool.eq_false_iff.2 h6
          exact loop_more (path (ob_v (len_ts GValue.ts_map (l := a6)) (ob_b h1 (ob_n h2 (ob_t (look_ts GValue.ts_map h3) (ob_c (ht.ref02_right _ _ _ h4) (ob_b (congrArg (!·) h5) (ob_b h6 (ob_b h6 (ob_b h6 (ob_b (rfl : false = false) (ob_b (rfl : false = false) (ob_b (rfl : false = false) (ob_b (rfl : false = false) (ob_b (rfl : false = false) (ob_b (rfl : false = false) (ob_b (rfl : false = false) (ob_b (rfl : false = false) (ob_b (rfl : false = false) (ob_b (rfl : false = false) (ob_b (rfl : false = false) (ob_b (rfl : false = false) (ob_b (rfl : false = false) (ob_b (rfl : false = false) (ob_b (rfl : false = false) ob)))))))))))))))))))))))) (by kernel_rfl)) (ref02_right_l2.okL ht n k _ _ _ _ _ _ _ _ h)
      · rw [if_neg h5] at h
        replace h5 := Bool.eq_false_iff.2 h5
        rw [← Option.some.inj h]
        exact loop_out (path (ob_v (len_ts GValue.ts_map (l := a6)) (ob_b h1 (ob_n h2 (ob_t (look_ts GValue.ts_map h3) (ob_c (ht.ref02_right _ _ _ h4) (ob_b (congrArg (!·) h5) ob)))))) (by kernel_rfl)) (fun h => by cases h)
    · rw [if_neg h1] at h
      replace h1 := Bool.eq_false_iff.2 h1
      rw [← Option.some.inj h]
      exact loop_out (path (ob_v (len_ts GValue.ts_map (l := a6)) (ob_b h1 ob)) (by kernel_rfl)) (fun h => by cases h)
theorem ref02_right_l2.ok {t : Tab} {call : FuncId → List AV → List AV → Option (AV × List AV)} (ht : TabOk t call) (n : Nat) (a1 : Int) (a2 : Int) (a3 : Int) (a4 : Int) (a5 : ByteArray) (a6 : List GValue) (a7 : List GValue) (r : Bool ⊕ (Int × Int × Bool × Int × Int × ByteArray × (List GValue) × (List GValue))) (h : ref02_right_l2 t n n a1 a2 a3 a4 a5 a6 a7 = some r) : exec (env Try.prog 35 Try.f35 call) n (sub [1, 1, 0, 1, 0] (bodyOf Try.f35)) (mkSt 68 68 [(1, (.t (.v (.int .i64 a1)))), (2, (.ptr 2 0 [] 0)), (5, (.t (.v (.int .i64 a2))))] [(2, (.t (.st [(.v (.int .i64 a3)), (.v (.int .i64 a4)), (.v (.string a5)), (.sl false 5 (GValue.ts a6)), (.sl false 5 (GValue.ts a7))])))]) = some (ref02_right_l2.to r) := by
  have e1 : sub [1, 1, 0, 1, 0] (bodyOf Try.f35) = .loop (sub [1, 1, 0, 1, 0, 0] (bodyOf Try.f35)) := by kernel_rfl
  rw [e1, exec]
  exact ref02_right_l2.okL ht n n a1 a2 a3 a4 a5 a6 a7 r h
theorem ref02_right_l4.okL {t : Tab} {call : FuncId → List AV → List AV → Option (AV × List AV)} (ht : TabOk t call) (n : Nat) : ∀ (k : Nat) (a1 : Int) (a2 : Int) (a3 : Int) (a4 : Int) (a5 : ByteArray) (a6 : List GValue) (a7 : List GValue) (r : Bool ⊕ (Int × Int × Bool × Int × Int × ByteArray × (List GValue) × (List GValue))), ref02_right_l4 t n k a1 a2 a3 a4 a5 a6 a7 = some r → loopN (exec (env Try.prog 35 Try.f35 call) n (sub [1, 1, 1, 0, 1, 0, 0] (bodyOf Try.f35))) k (mkSt 68 68 [(1, (.t (.v (.int .i64 a1)))), (2, (.ptr 2 0 [] 0)), (6, (.t (.v (.int .i64 a2))))] [(2, (.t (.st [(.v (.int .i64 a3)), (.v (.int .i64 a4)), (.v (.string a5)), (.sl false 5 (GValue.ts a6)), (.sl false 5 (GValue.ts a7))])))]) = some (ref02_right_l4.to r)
  | 0, a1, a2, a3, a4, a5, a6, a7, r, h => by rw [ref02_right_l4] at h; cases h
  | k + 1, a1, a2, a3, a4, a5, a6, a7, r, h => by
    rw [ref02_right_l4] at h
    by_cases h1 : (decide (a2 < (a7.length : Int))) = true
    · rw [if_pos h1] at h
      by_cases h2 : (decide (0 ≤ (a2 : Int))) = true
      case neg => rw [if_neg h2] at h; cases h
      rw [if_pos h2] at h
      rcases h3 : a7[(a2 : Int).toNat]? with _ | ⟨a8, a9, a10, a11, a12⟩
      · rw [h3] at h; cases h
      rw [h3] at h
      dsimp only at h
      rcases h4 : t.ref02_right (GValue.mk a8 a9 a10 a11 a12) (IntKind.wrap .i64 (a1 + 1)) with _ | a13
      · rw [h4] at h; cases h
      rw [h4] at h
      dsimp only at h
      by_cases h5 : a13 = true
      · rw [if_pos h5] at h
        exact loop_more (path (ob_v (len_ts GValue.ts_map (l := a7)) (ob_b h1 (ob_n h2 (ob_t (look_ts GValue.ts_map h3) (ob_c (ht.ref02_right _ _ _ h4) (ob_b (congrArg (!·) h5) ob)))))) (by kernel_rfl)) (ref02_right_l4.okL ht n k _ _ _ _ _ _ _ _ h)
      · rw [if_neg h5] at h
        replace h5 := Bool.eq_false_iff.2 h5
        rw [← Option.some.inj h]
        exact loop_out (path (ob_v (len_ts GValue.ts_map (l := a7)) (ob_b h1 (ob_n h2 (ob_t (look_ts GValue.ts_map h3) (ob_c (ht.ref02_right _ _ _ h4) (ob_b (congrArg (!·) h5) ob)))))) (by kernel_rfl)) (fun h => by cases h)
    · rw [if_neg h1] at h
      replace h1 := Bool.eq_false_iff.2 h1
      rw [← Option.some.inj h]
      exact loop_out (path (ob_v (len_ts GValue.ts_map (l := a7)) (ob_b h1 ob)) (by kernel_rfl)) (fun h => by cases h)
theorem ref02_right_l4.ok {t : Tab} {call : FuncId → List AV → List AV → Option (AV × List AV)} (ht : TabOk t call) (n : Nat) (a1 : Int) (a2 : Int) (a3 : Int) (a4 : Int) (a5 : ByteArray) (a6 : List GValue) (a7 : List GValue) (r : Bool ⊕ (Int × Int × Bool × Int × Int × ByteArray × (List GValue) × (List GValue))) (h : ref02_right_l4 t n n a1 a2 a3 a4 a5 a6 a7 = some r) : exec (env Try.prog 35 Try.f35 call) n (sub [1, 1, 1, 0, 1, 0] (bodyOf Try.f35)) (mkSt 68 68 [(1, (.t (.v (.int .i64 a1)))), (2, (.ptr 2 0 [] 0)), (6, (.t (.v (.int .i64 a2))))] [(2, (.t (.st [(.v (.int .i64 a3)), (.v (.int .i64 a4)), (.v (.string a5)), (.sl false 5 (GValue.ts a6)), (.sl false 5 (GValue.ts a7))])))]) = some (ref02_right_l4.to r) := by
  have e1 : sub [1, 1, 1, 0, 1, 0] (bodyOf Try.f35) = .loop (sub [1, 1, 1, 0, 1, 0, 0] (bodyOf Try.f35)) := by kernel_rfl
  rw [e1, exec]
  exact ref02_right_l4.okL ht n n a1 a2 a3 a4 a5 a6 a7 r h
theorem ref02_right_j3.ok {t : Tab} {call : FuncId → List AV → List AV → Option (AV × List AV)} (ht : TabOk t call) (n : Nat) (a1 : Int) (a2 : Int) (a3 : Int) (a4 : ByteArray) (a5 : List GValue) (a6 : List GValue) (r : Bool) (h : ref02_right_j3 t n a1 a2 a3 a4 a5 a6 = some r) : exec (env Try.prog 35 Try.f35 call) n (sub [1, 1, 1] (bodyOf Try.f35)) (mkSt 68 68 [(1, (.t (.v (.int .i64 a1)))), (2, (.ptr 2 0 [] 0))] [(2, (.t (.st [(.v (.int .i64 a2)), (.v (.int .i64 a3)), (.v (.string a4)), (.sl false 5 (GValue.ts a5)), (.sl false 5 (GValue.ts a6))])))]) = some (ref02_right_j3.to r) := by
  rw [ref02_right_j3] at h
  rcases h1 : ref02_right_l4 t n n a1 0 a2 a3 a4 a5 a6 with _ | q_
  · rw [h1] at h; cases h
  rw [h1] at h
  rcases q_ with a7 | ⟨a8, a9, a10, a11, a12, a13, a14, a15⟩
  · dsimp only at h
    rw [← Option.some.inj h]
    exact path (ob_k (ref02_right_l4.ok ht n _ _ _ _ _ _ _ _ h1) ob) (by kernel_rfl)
  · dsimp only at h
    rw [← Option.some.inj h]
    exact path (ob_k (ref02_right_l4.ok ht n _ _ _ _ _ _ _ _ h1) ob) (by kernel_rfl)
theorem ref02_right_j1.ok {t : Tab} {call : FuncId → List AV → List AV → Option (AV × List AV)} (ht : TabOk t call) (n : Nat) (a1 : Int) (a2 : Int) (a3 : Int) (a4 : ByteArray) (a5 : List GValue) (a6 : List GValue) (r : Bool) (h : ref02_right_j1 t n a1 a2 a3 a4 a5 a6 = some r) : exec (env Try.prog 35 Try.f35 call) n (sub [1, 1] (bodyOf Try.f35)) (mkSt 68 68 [(1, (.t (.v (.int .i64 a1)))), (2, (.ptr 2 0 [] 0))] [(2, (.t (.st [(.v (.int .i64 a2)), (.v (.int .i64 a3)), (.v (.string a4)), (.sl false 5 (GValue.ts a5)), (.sl false 5 (GValue.ts a6))])))]) = some (ref02_right_j1.to r) := by
  rw [ref02_right_j1] at h
  rcases h1 : ref02_right_l2 t n n a1 0 a2 a3 a4 a5 a6 with _ | q_
  · rw [h1] at h; cases h
  rw [h1] at h
  rcases q_ with a7 | ⟨a8, a9, a10, a11, a12, a13, a14, a15⟩
  · dsimp only at h
    rw [← Option.some.inj h]
    exact path (ob_k (ref02_right_l2.ok ht n _ _ _ _ _ _ _ _ h1) ob) (by kernel_rfl)
  · dsimp only at h
    obtain ⟨a16, rfl⟩ : ∃ z_, z_ = r := ⟨_, rfl⟩
    have h2 := h
    exact path (ob_k (ref02_right_l2.ok ht n _ _ _ _ _ _ _ _ h1) (ob_j (ref02_right_j3.ok ht n _ _ _ _ _ _ _ h2) ob)) (by kernel_rfl)
theorem ref02_right.ok {n : Nat} {t : Tab} (ht : TabOk t (run Try.prog own kp X n)) : ∀ (p1 : GValue) (p2 : Int) r, ref02_right t n p1 p2 = some r → run Try.prog own kp X (n + 1) 35 [(.t (GValue.t p1)), (.t (.v (.int .i64 p2)))] [] = some ((.t (.v (.bool r))), []) := by
  intro p1 p2 r h
  obtain ⟨a1, a2, a3, a4, a5⟩ := p1
  obtain ⟨a6, rfl⟩ : ∃ z_, z_ = p2 := ⟨_, rfl⟩
  rw [ref02_right] at h
  by_cases h1 : (decide (a6 > 12)) = true
  · rw [if_pos h1] at h
    rw [← Option.some.inj h]
    exact run_path Try.func35 (ob_b h1 (ob_b h1 (ob_b h1 (ob_b h1 (ob_b (rfl : true = true) ob))))) (by kernel_rfl)
  · rw [if_neg h1] at h
    replace h1 := Bool.eq_false_iff.2 h1
    rcases h2 : t.ref02_fields (GValue.mk a1 a2 a3 a4 a5) with _ | a7
    · rw [h2] at h; cases h
    rw [h2] at h
    dsimp only at h
    by_cases h3 : a7 = true
    · rw [if_pos h3] at h
      obtain ⟨a8, rfl⟩ : ∃ z_, z_ = r := ⟨_, rfl⟩
      have h4 := h
      exact run_path Try.func35 (ob_b h1 (ob_b h1 (ob_c (ht.ref02_fields _ _ h2) (ob_b h1 (ob_b h1 (ob_b (congrArg (!·) h3) (ob_j (ref02_right_j1.ok ht n _ _ _ _ _ _ _ h4) ob))))))) (by kernel_rfl)
    · rw [if_neg h3] at h
      replace h3 := Bool.eq_false_iff.2 h3
      rw [← Option.some.inj h]
      exact run_path Try.func35 (ob_b h1 (ob_b h1 (ob_c (ht.ref02_fields _ _ h2) (ob_b h1 (ob_b h1 (ob_b (congrArg (!·) h3) ob)))))) (by kernel_rfl)
theorem ref02_Count_j2.ok {t : Tab} {call : FuncId → List AV → List AV → Option (AV × List AV)} (ht : TabOk t call) (n : Nat) (a1 : Int) (a2 : Int) (a3 : Int) (a4 : Int) (a5 : Int) (a6 : ByteArray) (a7 : List GValue) (a8 : List GValue) (r : Int × Int × Int × Int × Int × ByteArray × (List GValue) × (List GValue)) (h : ref02_Count_j2 t n a1 a2 a3 a4 a5 a6 a7 a8 = some r) : exec (env Try.prog 36 Try.f36 call) n (sub [1, 1, 0, 1, 0, 0, 1] (bodyOf Try.f36)) (mkSt 60 60 [(1, (.t (.v (.int .i64 a1)))), (2, (.ptr 2 0 [] 0)), (5, (.t (.v (.int .i64 a2)))), (6, (.t (.v (.int .i64 a3))))] [(2, (.t (.st [(.v (.int .i64 a4)), (.v (.int .i64 a5)), (.v (.string a6)), (.sl false 5 (GValue.ts a7)), (.sl false 5 (GValue.ts a8))])))]) = some (ref02_Count_j2.to r) := by
  rw [ref02_Count_j2] at h
  by_cases h1 : (decide (0 ≤ (a3 : Int))) = true
  case neg => rw [if_neg h1] at h; cases h
  rw [if_pos h1] at h
  rcases h2 : a7[(a3 : Int).toNat]? with _ | ⟨a9, a10, a11, a12, a13⟩
  · rw [h2] at h; cases h
  rw [h2] at h
  dsimp only at h
  rcases h3 : t.ref02_Count (GValue.mk a9 a10 a11 a12 a13) (IntKind.wrap .i64 (a1 - a2)) with _ | a14
  · rw [h3] at h; cases h
  rw [h3] at h
  dsimp only at h
  rw [← Option.some.inj h]
  exact path (ob_n h1 (ob_t (look_ts GValue.ts_map h2) (ob_c (ht.ref02_Count _ _ _ h3) ob))) (by kernel_rfl)
theorem ref02_Count_l1.okL {t : Tab} {call : FuncId → List AV → List AV → Option (AV × List AV)} (ht : TabOk t call) (n : Nat) : ∀ (k : Nat) (a1 : Int) (a2 : Int) (a3 : Int) (a4 : Int) (a5 : Int) (a6 : ByteArray) (a7 : List GValue) (a8 : List GValue) (r : Int × Int × Int × Bool × Int × Int × ByteArray × (List GValue) × (List GValue)), ref02_Count_l1 t n k a1 a2 a3 a4 a5 a6 a7 a8 = some r → loopN (exec (env Try.prog 36 Try.f36 call) n (sub [1, 1, 0, 1, 0, 0] (bodyOf Try.f36))) k (mkSt 60 60 [(1, (.t (.v (.int .i64 a1)))), (2, (.ptr 2 0 [] 0)), (5, (.t (.v (.int .i64 a2)))), (6, (.t (.v (.int .i64 a3))))] [(2, (.t (.st [(.v (.int .i64 a4)), (.v (.int .i64 a5)), (.v (.string a6)), (.sl false 5 (GValue.ts a7)), (.sl false 5 (GValue.ts a8))])))]) = some (ref02_Count_l1.to r)
  | 0, a1, a2, a3, a4, a5, a6, a7, a8, r, h => by rw [ref02_Count_l1] at h; cases h
  | k + 1, a1, a2, a3, a4, a5, a6, a7, a8, r, h => by
    rw [ref02_Count_l1] at h
    by_cases h1 : (decide (a3 < (a7.length : Int))) = true
    · rw [if_pos h1] at h
      by_cases h2 : (decide (a2 < a1)) = true
      · rw [if_pos h2] at h
        rcases h3 : ref02_Count_j2 t n  a1 a2 a3 a4 a5 a6 a7 a8 with _ | q_
        · rw [h3] at h; cases h
        rw [h3] at h
        obtain ⟨a9, a10, a11, a12, a13, a14, a15, a16⟩ := q_
        dsimp only at h
        exact loop_more (path (ob_v (len_ts GValue.ts_map (l := a7)) (ob_b h1 (ob_b h1 (ob_b h1 (ob_b h1 (ob_b h2 (ob_j (ref02_Count_j2.ok ht n _ _ _ _ _ _ _ _ _ h3) ob))))))) (by kernel_rfl)) (ref02_Count_l1.okL ht n k _ _ _ _ _ _ _ _ _ h)
      · rw [if_neg h2] at h
        replace h2 := Bool.eq_false_iff.2 h2
        rw [← Option.some.inj h]
        exact loop_out (path (ob_v (len_ts GValue.ts_map (l := a7)) (ob_b h1 (ob_b h1 (ob_b h1 (ob_b h1 (ob_b h2 ob)))))) (by kernel_rfl)) (fun h => by cases h)
    · rw [if_neg h1] at h
      replace h1 := Bool.eq_false_iff.2 h1
      rw [← Option.some.inj h]
      exact loop_out (path (ob_v (len_ts GValue.ts_map (l := a7)) (ob_b h1 (ob_b h1 (ob_b h1 (ob_b h1 (ob_b (rfl : false = false) ob)))))) (by kernel_rfl)) (fun h => by cases h)
end Go.Proofs.Ytcgckbjdadmcmaa.W
