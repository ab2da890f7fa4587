/- The proofs of it, part 0. -/
import Derived.Test.YtcgckbjdadmcmaaQ4C
namespace Go.Proofs.Ytcgckbjdadmcmaa.W
open Go.Proofs.Ytcgckbjdadmcmaa.Flat
set_option linter.unusedVariables false
set_option linter.unusedSimpArgs false
theorem law09_PredTests.ok {n : Nat} {t : Tab} (ht : TabOk t (run Try.prog own kp X n)) : ∀ (p1 : GPred) (p2 : GValue) r, law09_PredTests t n p1 p2 = some r → run Try.prog own kp X (n + 1) 3 [(.t (GPred.t p1)), (.t (GValue.t p2))] [] = some ((.t (.v (.bool r))), []) := by
  intro p1 p2 r h
  obtain ⟨a1, a2, a3⟩ := p1
  obtain ⟨a4, a5, a6, a7, a8⟩ := p2
  rw [law09_PredTests] at h
  rcases h1 : t.law09_much (GPred.mk a1 a2 a3) ([(GValue.mk a4 a5 a6 a7 a8)] : List GValue) with _ | a9
  · rw [h1] at h; cases h
  rw [h1] at h
  dsimp only at h
  by_cases h2 : a9 = true
  · rw [if_pos h2] at h
    obtain ⟨a10, rfl⟩ : ∃ z_, z_ = r := ⟨_, rfl⟩
    have h3 := h
    exact run_path Try.func3 (ob_c (ht.law09_much _ _ _ h1) (ob_b h2 (ob_c (ht.law09_known _ h3) ob))) (by kernel_rfl)
  · rw [if_neg h2] at h
    replace h2 := Bool.eq_false_iff.2 h2
    rcases h4 : t.pred_Check (GPred.mk a1 a2 a3) with _ | a11
    · rw [h4] at h; cases h
    rw [h4] at h
    dsimp only at h
    rcases h5 : t.ref09_Check (GPred.mk a1 a2 a3) with _ | a12
    · rw [h5] at h; cases h
    rw [h5] at h
    dsimp only at h
    by_cases h6 : (a11 == a12) = true
    · rw [if_pos h6] at h
      rcases h7 : t.pred_Test (GPred.mk a1 a2 a3) (GValue.mk a4 a5 a6 a7 a8) with _ | a13
      · rw [h7] at h; cases h
      rw [h7] at h
      dsimp only at h
      rcases h8 : t.ref09_Test (GPred.mk a1 a2 a3) (GValue.mk a4 a5 a6 a7 a8) with _ | a14
      · rw [h8] at h; cases h
      rw [h8] at h
      dsimp only at h
      by_cases h9 : (a13 == a14) = true
      · rw [if_pos h9] at h
        obtain ⟨a15, rfl⟩ : ∃ z_, z_ = r := ⟨_, rfl⟩
        have h10 := h
        exact run_path Try.func3 (ob_c (ht.law09_much _ _ _ h1) (ob_b h2 (ob_c (ht.pred_Check _ _ h4) (ob_c (ht.ref09_Check _ _ h5) (ob_b h6 (ob_b h6 (ob_b h6 (ob_c (ht.pred_Test _ _ _ h7) (ob_b h6 (ob_b h6 (ob_b h6 (ob_c (ht.ref09_Test _ _ _ h8) (ob_b h6 (ob_b h6 (ob_b h9 (ob_c (ht.law09_known _ h10) (ob_b h9 ob))))))))))))))))) (by kernel_rfl)
      · rw [if_neg h9] at h
        replace h9 := Bool.eq_false_iff.2 h9
        rw [← Option.some.inj h]
        exact run_path Try.func3 (ob_c (ht.law09_much _ _ _ h1) (ob_b h2 (ob_c (ht.pred_Check _ _ h4) (ob_c (ht.ref09_Check _ _ h5) (ob_b h6 (ob_b h6 (ob_b h6 (ob_c (ht.pred_Test _ _ _ h7) (ob_b h6 (ob_b h6 (ob_b h6 (ob_c (ht.ref09_Test _ _ _ h8) (ob_b h6 (ob_b h6 (ob_b h9 (ob_b h9 ob)))))))))))))))) (by kernel_rfl)
    · rw [if_neg h6] at h
      replace h6 := Bool.eq_false_iff.2 h6
      rw [← Option.some.inj h]
      exact run_path Try.func3 (ob_c (ht.law09_much _ _ _ h1) (ob_b h2 (ob_c (ht.pred_Check _ _ h4) (ob_c (ht.ref09_Check _ _ h5) (ob_b h6 (ob_b h6 (ob_b h6 (ob_b h6 (ob_b h6 (ob_b h6 (ob_b h6 (ob_b h6 (ob_b (rfl : false = false) (ob_b (rfl : false = false) ob)))))))))))))) (by kernel_rfl)
theorem law09_PredOthers_j3.ok {t : Tab} {call : FuncId → List AV → List AV → Option (AV × List AV)} (ht : TabOk t call) (n : Nat) (a1 : Int) (a2 : List GValue) (a3 : List GPred) (a4 : Int) (a5 : Int) (a6 : ByteArray) (a7 : List GValue) (a8 : List GValue) (r : Bool) (h : law09_PredOthers_j3 t n a1 a2 a3 a4 a5 a6 a7 a8 = some r) : exec (env Try.prog 5 Try.f5 call) n (sub [1, 1, 1, 1, 1, 1] (bodyOf Try.f5)) (mkSt 75 75 [(2, (.ptr 2 0 [] 0)), (3, (.ptr 3 0 [] 0))] [(2, (.t (.st [(.v (.int .i64 a1)), (.sl false 5 (GValue.ts a2)), (.sl false 3 (GPred.ts a3))]))), (3, (.t (.st [(.v (.int .i64 a4)), (.v (.int .i64 a5)), (.v (.string a6)), (.sl false 5 (GValue.ts a7)), (.sl false 5 (GValue.ts a8))])))]) = some (law09_PredOthers_j3.to r) := by
  rw [law09_PredOthers_j3] at h
  rcases h1 : t.pred_Check (GPred.mk 12 ([] : List GValue) ([(GPred.mk a1 a2 a3)] : List GPred)) with _ | a9
  · rw [h1] at h; cases h
  rw [h1] at h
  dsimp only at h
  by_cases h2 : (a9 != 0) = true
  · rw [if_pos h2] at h
    obtain ⟨a10, rfl⟩ : ∃ z_, z_ = r := ⟨_, rfl⟩
    have h3 := h
    exact path (ob_c (ht.pred_Check _ _ h1) (ob_b h2 (ob_b h2 (ob_b h2 (ob_b h2 (ob_b h2 (ob_b h2 (ob_b h2 (ob_b h2 (ob_b h2 (ob_b h2 (ob_b (rfl : true = true) (ob_c (ht.law09_known _ h3) (ob_b (rfl : true = true) ob)))))))))))))) (by kernel_rfl)
  · rw [if_neg h2] at h
    replace h2 := Bool.eq_false_iff.2 h2
    rcases h4 : t.pred_Test (GPred.mk 12 ([] : List GValue) ([(GPred.mk a1 a2 a3)] : List GPred)) (GValue.mk a4 a5 a6 a7 a8) with _ | a11
    · rw [h4] at h; cases h
    rw [h4] at h
    dsimp only at h
    rcases h5 : t.pred_Test (GPred.mk a1 a2 a3) (GValue.mk a4 a5 a6 a7 a8) with _ | a12
    · rw [h5] at h; cases h
    rw [h5] at h
    dsimp only at h
    by_cases h6 : (a11 == a12) = true
    · rw [if_pos h6] at h
      rw [← Option.some.inj h]
      exact path (ob_c (ht.pred_Check _ _ h1) (ob_b h2 (ob_b h2 (ob_b h2 (ob_c (ht.pred_Test _ _ _ h4) (ob_b h2 (ob_b h2 (ob_b h2 (ob_c (ht.pred_Test _ _ _ h5) (ob_b h2 (ob_b h2 (ob_b (congrArg (!·) h6) (ob_b (congrArg (!·) h6) (ob_b (congrArg (!·) h6) (ob_b (congrArg (!·) h6) (ob_b h2 (ob_b (congrArg (!·) h6) (ob_b h2 (ob_b (rfl : false = false) (ob_b (rfl : false = false) ob)))))))))))))))))))) (by kernel_rfl)
    · rw [if_neg h6] at h
      replace h6 := Bool.eq_false_iff.2 h6
      rcases h7 : t.pred_Negate (GPred.mk 12 ([] : List GValue) ([(GPred.mk a1 a2 a3)] : List GPred)) with _ | ⟨a13, a14, a15⟩
      · rw [h7] at h; cases h
      rw [h7] at h
      dsimp only at h
      rcases h8 : t.ref09_Same (GPred.mk a13 a14 a15) (GPred.mk a1 a2 a3) with _ | a16
      · rw [h8] at h; cases h
      rw [h8] at h
      dsimp only at h
      by_cases h9 : a16 = true
      · rw [if_pos h9] at h
        obtain ⟨a17, rfl⟩ : ∃ z_, z_ = r := ⟨_, rfl⟩
        have h10 := h
        exact path (ob_c (ht.pred_Check _ _ h1) (ob_b h2 (ob_b h2 (ob_b h2 (ob_c (ht.pred_Test _ _ _ h4) (ob_b h2 (ob_b h2 (ob_b h2 (ob_c (ht.pred_Test _ _ _ h5) (ob_b h2 (ob_b h2 (ob_b (congrArg (!·) h6) (ob_b (congrArg (!·) h6) (ob_c (ht.pred_Negate _ _ h7) (ob_b (congrArg (!·) h6) (ob_b (congrArg (!·) h6) (ob_c (ht.ref09_Same _ _ _ h8) (ob_b h2 (ob_b (congrArg (!·) h6) (ob_b h2 (ob_b h9 (ob_c (ht.law09_known _ h10) (ob_b h9 ob))))))))))))))))))))))) (by kernel_rfl)
      · rw [if_neg h9] at h
        replace h9 := Bool.eq_false_iff.2 h9
        rw [← Option.some.inj h]
        exact path (ob_c (ht.pred_Check _ _ h1) (ob_b h2 (ob_b h2 (ob_b h2 (ob_c (ht.pred_Test _ _ _ h4) (ob_b h2 (ob_b h2 (ob_b h2 (ob_c (ht.pred_Test _ _ _ h5) (ob_b h2 (ob_b h2 (ob_b (congrArg (!·) h6) (ob_b (congrArg (!·) h6) (ob_c (ht.pred_Negate _ _ h7) (ob_b (congrArg (!·) h6) (ob_b (congrArg (!·) h6) (ob_c (ht.ref09_Same _ _ _ h8) (ob_b h2 (ob_b (congrArg (!·) h6) (ob_b h2 (ob_b h9 (ob_b h9 ob)))))))))))))))))))))) (by kernel_rfl)
theorem law09_PredOthers_j2.ok {t : Tab} {call : FuncId → List AV → List AV → Option (AV × List AV)} (ht : TabOk t call) (n : Nat) (a1 : Int) (a2 : List GValue) (a3 : List GPred) (a4 : Int) (a5 : Int) (a6 : ByteArray) (a7 : List GValue) (a8 : List GValue) (a9 : Int) (a10 : List GValue) (a11 : List GPred) (r : Bool) (h : law09_PredOthers_j2 t n a1 a2 a3 a4 a5 a6 a7 a8 a9 a10 a11 = some r) : exec (env Try.prog 5 Try.f5 call) n (sub [1, 1, 1, 1] (bodyOf Try.f5)) (mkSt 75 75 [(2, (.ptr 2 0 [] 0)), (3, (.ptr 3 0 [] 0)), (5, (.ptr 5 0 [] 0))] [(2, (.t (.st [(.v (.int .i64 a1)), (.sl false 5 (GValue.ts a2)), (.sl false 3 (GPred.ts a3))]))), (3, (.t (.st [(.v (.int .i64 a4)), (.v (.int .i64 a5)), (.v (.string a6)), (.sl false 5 (GValue.ts a7)), (.sl false 5 (GValue.ts a8))]))), (5, (.t (.st [(.v (.int .i64 a9)), (.sl false 5 (GValue.ts a10)), (.sl false 3 (GPred.ts a11))])))]) = some (law09_PredOthers_j2.to r) := by
  rw [law09_PredOthers_j2] at h
  rcases h1 : t.pred_Negate (GPred.mk a9 a10 a11) with _ | ⟨a12, a13, a14⟩
  · rw [h1] at h; cases h
  rw [h1] at h
  dsimp only at h
  rcases h2 : t.pred_Check (GPred.mk a9 a10 a11) with _ | a15
  · rw [h2] at h; cases h
  rw [h2] at h
  dsimp only at h
  by_cases h3 : (a15 == 0) = true
  · rw [if_pos h3] at h
    rcases h4 : t.pred_Check (GPred.mk a12 a13 a14) with _ | a16
    · rw [h4] at h; cases h
    rw [h4] at h
    dsimp only at h
    by_cases h5 : (a16 == 0) = true
    · rw [if_pos h5] at h
      rcases h6 : t.pred_Test (GPred.mk a12 a13 a14) (GValue.mk a4 a5 a6 a7 a8) with _ | a17
      · rw [h6] at h; cases h
      rw [h6] at h
      dsimp only at h
      rcases h7 : t.pred_Test (GPred.mk a1 a2 a3) (GValue.mk a4 a5 a6 a7 a8) with _ | a18
      · rw [h7] at h; cases h
      rw [h7] at h
      dsimp only at h
      by_cases h8 : (a17 == a18) = true
      · rw [if_pos h8] at h
        obtain ⟨a19, rfl⟩ : ∃ z_, z_ = r := ⟨_, rfl⟩
        have h9 := h
        exact path (ob_c (ht.pred_Negate _ _ h1) (ob_c (ht.pred_Check _ _ h2) (ob_b h3 (ob_b h3 (ob_c (ht.pred_Check _ _ h4) (ob_b h3 (ob_b h3 (ob_b h5 (ob_b h5 (ob_b h5 (ob_c (ht.pred_Test _ _ _ h6) (ob_b h5 (ob_b h5 (ob_b h5 (ob_c (ht.pred_Test _ _ _ h7) (ob_b h5 (ob_b h5 (ob_b (congrArg (!·) h8) (ob_j (law09_PredOthers_j3.ok ht n _ _ _ _ _ _ _ _ _ h9) ob))))))))))))))))))) (by kernel_rfl)
      · rw [if_neg h8] at h
        replace h8 := Bool.eq_false_iff.2 h8
        rw [← Option.some.inj h]
        exact path (ob_c (ht.pred_Negate _ _ h1) (ob_c (ht.pred_Check _ _ h2) (ob_b h3 (ob_b h3 (ob_c (ht.pred_Check _ _ h4) (ob_b h3 (ob_b h3 (ob_b h5 (ob_b h5 (ob_b h5 (ob_c (ht.pred_Test _ _ _ h6) (ob_b h5 (ob_b h5 (ob_b h5 (ob_c (ht.pred_Test _ _ _ h7) (ob_b h5 (ob_b h5 (ob_b (congrArg (!·) h8) ob)))))))))))))))))) (by kernel_rfl)
    · rw [if_neg h5] at h
      replace h5 := Bool.eq_false_iff.2 h5
      obtain ⟨a20, rfl⟩ : ∃ z_, z_ = r := ⟨_, rfl⟩
      have h10 := h
      exact path (ob_c (ht.pred_Negate _ _ h1) (ob_c (ht.pred_Check _ _ h2) (ob_b h3 (ob_b h3 (ob_c (ht.pred_Check _ _ h4) (ob_b h3 (ob_b h3 (ob_b h5 (ob_b h5 (ob_b h5 (ob_b h5 (ob_b h5 (ob_b h5 (ob_b h5 (ob_b h5 (ob_b (rfl : false = false) (ob_j (law09_PredOthers_j3.ok ht n _ _ _ _ _ _ _ _ _ h10) ob))))))))))))))))) (by kernel_rfl)
  · rw [if_neg h3] at h
    replace h3 := Bool.eq_false_iff.2 h3
    obtain ⟨a21, rfl⟩ : ∃ z_, z_ = r := ⟨_, rfl⟩
    have h11 := h
    exact path (ob_c (ht.pred_Negate _ _ h1) (ob_c (ht.pred_Check _ _ h2) (ob_b h3 (ob_b h3 (ob_b h3 (ob_b h3 (ob_b (rfl : false = false) (ob_b (rfl : false = false) (ob_b (rfl : false = false) (ob_b (rfl : false = false) (ob_b (rfl : false = false) (ob_b (rfl : false = false) (ob_b (rfl : false = false) (ob_b (rfl : false = false) (ob_b (rfl : false = false) (ob_j (law09_PredOthers_j3.ok ht n _ _ _ _ _ _ _ _ _ h11) ob)))))))))))))))) (by kernel_rfl)
theorem law09_PredOthers_j1.ok {t : Tab} {call : FuncId → List AV → List AV → Option (AV × List AV)} (ht : TabOk t call) (n : Nat) (a1 : Int) (a2 : List GValue) (a3 : List GPred) (a4 : Int) (a5 : Int) (a6 : ByteArray) (a7 : List GValue) (a8 : List GValue) (r : Bool) (h : law09_PredOthers_j1 t n a1 a2 a3 a4 a5 a6 a7 a8 = some r) : exec (env Try.prog 5 Try.f5 call) n (sub [1, 1] (bodyOf Try.f5)) (mkSt 75 75 [(2, (.ptr 2 0 [] 0)), (3, (.ptr 3 0 [] 0))] [(2, (.t (.st [(.v (.int .i64 a1)), (.sl false 5 (GValue.ts a2)), (.sl false 3 (GPred.ts a3))]))), (3, (.t (.st [(.v (.int .i64 a4)), (.v (.int .i64 a5)), (.v (.string a6)), (.sl false 5 (GValue.ts a7)), (.sl false 5 (GValue.ts a8))])))]) = some (law09_PredOthers_j1.to r) := by
  rw [law09_PredOthers_j1] at h
  rcases h1 : t.pred_Negate (GPred.mk a1 a2 a3) with _ | ⟨a9, a10, a11⟩
  · rw [h1] at h; cases h
  rw [h1] at h
  dsimp only at h
  rcases h2 : t.pred_Check (GPred.mk a9 a10 a11) with _ | a12
  · rw [h2] at h; cases h
  rw [h2] at h
  dsimp only at h
  by_cases h3 : (a12 == 0) = true
  · rw [if_pos h3] at h
    rcases h4 : t.pred_Test (GPred.mk a9 a10 a11) (GValue.mk a4 a5 a6 a7 a8) with _ | a13
    · rw [h4] at h; cases h
    rw [h4] at h
    dsimp only at h
    rcases h5 : t.pred_Test (GPred.mk a1 a2 a3) (GValue.mk a4 a5 a6 a7 a8) with _ | a14
    · rw [h5] at h; cases h
    rw [h5] at h
    dsimp only at h
    by_cases h6 : (a13 == a14) = true
    · rw [if_pos h6] at h
      rw [← Option.some.inj h]
      exact path (ob_c (ht.pred_Negate _ _ h1) (ob_c (ht.pred_Check _ _ h2) (ob_b h3 (ob_b h3 (ob_b h3 (ob_c (ht.pred_Test _ _ _ h4) (ob_b h3 (ob_b h3 (ob_b h3 (ob_c (ht.pred_Test _ _ _ h5) (ob_b h3 (ob_b h3 (ob_b h6 ob))))))))))))) (by kernel_rfl)
    · rw [if_neg h6] at h
      replace h6 := Bool.eq_false_iff.2 h6
      obtain ⟨a15, rfl⟩ : ∃ z_, z_ = r := ⟨_, rfl⟩
      have h7 := h
      exact path (ob_c (ht.pred_Negate _ _ h1) (ob_c (ht.pred_Check _ _ h2) (ob_b h3 (ob_b h3 (ob_b h3 (ob_c (ht.pred_Test _ _ _ h4) (ob_b h3 (ob_b h3 (ob_b h3 (ob_c (ht.pred_Test _ _ _ h5) (ob_b h3 (ob_b h3 (ob_b h6 (ob_j (law09_PredOthers_j2.ok ht n _ _ _ _ _ _ _ _ _ _ _ _ h7) ob)))))))))))))) (by kernel_rfl)
  · rw [if_neg h3] at h
    replace h3 := Bool.eq_false_iff.2 h3
    obtain ⟨a16, rfl⟩ : ∃ z_, z_ = r := ⟨_, rfl⟩
    have h8 := h
    exact path (ob_c (ht.pred_Negate _ _ h1) (ob_c (ht.pred_Check _ _ h2) (ob_b h3 (ob_b h3 (ob_b h3 (ob_b h3 (ob_b h3 (ob_b h3 (ob_b h3 (ob_b h3 (ob_b (rfl : false = false) (ob_j (law09_PredOthers_j2.ok ht n _ _ _ _ _ _ _ _ _ _ _ _ h8) ob)))))))))))) (by kernel_rfl)
theorem law09_PredOthers.ok {n : Nat} {t : Tab} (ht : TabOk t (run Try.prog own kp X n)) : ∀ (p1 : GPred) (p2 : GValue) r, law09_PredOthers t n p1 p2 = some r → run Try.prog own kp X (n + 1) 5 [(.t (GPred.t p1)), (.t (GValue.t p2))] [] = some ((.t (.v (.bool r))), []) := by
  intro p1 p2 r h
  obtain ⟨a1, a2, a3⟩ := p1
  obtain ⟨a4, a5, a6, a7, a8⟩ := p2
  rw [law09_PredOthers] at h
  rcases h1 : t.law09_much (GPred.mk a1 a2 a3) ([(GValue.mk a4 a5 a6 a7 a8)] : List GValue) with _ | a9
  · rw [h1] at h; cases h
  rw [h1] at h
  dsimp only at h
  by_cases h2 : a9 = true
  · rw [if_pos h2] at h
    obtain ⟨a10, rfl⟩ : ∃ z_, z_ = r := ⟨_, rfl⟩
    have h3 := h
    exact run_path Try.func5 (ob_c (ht.law09_much _ _ _ h1) (ob_b h2 (ob_b h2 (ob_b h2 (ob_b h2 (ob_b (rfl : true = true) (ob_c (ht.law09_known _ h3) ob))))))) (by kernel_rfl)
  · rw [if_neg h2] at h
    replace h2 := Bool.eq_false_iff.2 h2
    rcases h4 : t.pred_Check (GPred.mk a1 a2 a3) with _ | a11
    · rw [h4] at h; cases h
    rw [h4] at h
    dsimp only at h
    by_cases h5 : (a11 != 0) = true
    · rw [if_pos h5] at h
      obtain ⟨a12, rfl⟩ : ∃ z_, z_ = r := ⟨_, rfl⟩
      have h6 := h
      exact run_path Try.func5 (ob_c (ht.law09_much _ _ _ h1) (ob_b h2 (ob_b h2 (ob_c (ht.pred_Check _ _ h4) (ob_b h2 (ob_b h2 (ob_b h5 (ob_c (ht.law09_known _ h6) ob)))))))) (by kernel_rfl)
    · rw [if_neg h5] at h
      replace h5 := Bool.eq_false_iff.2 h5
      obtain ⟨a13, rfl⟩ : ∃ z_, z_ = r := ⟨_, rfl⟩
      have h7 := h
      exact run_path Try.func5 (ob_c (ht.law09_much _ _ _ h1) (ob_b h2 (ob_b h2 (ob_c (ht.pred_Check _ _ h4) (ob_b h2 (ob_b h2 (ob_b h5 (ob_j (law09_PredOthers_j1.ok ht n _ _ _ _ _ _ _ _ _ h7) ob)))))))) (by kernel_rfl)
theorem law09_PredOrder_j5.ok {t : Tab} {call : FuncId → List AV → List AV → Option (AV × List AV)} (ht : TabOk t call) (n : Nat) (a1 : Bool) (a2 : Bool) (a3 : Bool) (a4 : Bool) (a5 : Bool) (a6 : Bool) (a7 : Int) (a8 : Int) (a9 : ByteArray) (a10 : List GValue) (a11 : List GValue) (a12 : Int) (a13 : Int) (a14 : ByteArray) (a15 : List GValue) (a16 : List GValue) (r : Bool) (h : law09_PredOrder_j5 t n a1 a2 a3 a4 a5 a6 a7 a8 a9 a10 a11 a12 a13 a14 a15 a16 = some r) : exec (env Try.prog 6 Try.f6 call) n (sub [1, 1, 1, 1, 1, 1, 1, 1, 1, 1, 1, 1, 1, 1, 1, 1, 1] (bodyOf Try.f6)) (mkSt 187 187 [(4, (.ptr 4 0 [] 0)), (5, (.ptr 5 0 [] 0)), (7, (.t (.v (.bool a1)))), (8, (.t (.v (.bool a2)))), (11, (.t (.v (.bool a3)))), (13, (.t (.v (.bool a4)))), (14, (.t (.v (.bool a5)))), (15, (.t (.v (.bool a6))))] [(4, (.t (.st [(.v (.int .i64 a7)), (.v (.int .i64 a8)), (.v (.string a9)), (.sl false 5 (GValue.ts a10)), (.sl false 5 (GValue.ts a11))]))), (5, (.t (.st [(.v (.int .i64 a12)), (.v (.int .i64 a13)), (.v (.string a14)), (.sl false 5 (GValue.ts a15)), (.sl false 5 (GValue.ts a16))])))]) = some (law09_PredOrder_j5.to r) := by
  rw [law09_PredOrder_j5] at h
  by_cases h1 : (a12 != a7) = true
  · rw [if_pos h1] at h
    by_cases h2 : a4 = true
    · rw [if_pos h2] at h
      rw [← Option.some.inj h]
      exact path (ob_b h1 (ob_b (congrArg (!·) h2) (ob_b (congrArg (!·) h2) (ob_b (congrArg (!·) h2) (ob_b (rfl : false = false) (ob_b (rfl : false = false) (ob_b (rfl : false = false) (ob_b (rfl : false = false) (ob_b (rfl : false = false) ob))))))))) (by kernel_rfl)
    · rw [if_neg h2] at h
      replace h2 := Bool.eq_false_iff.2 h2
      by_cases h3 : a5 = true
      · rw [if_pos h3] at h
        rw [← Option.some.inj h]
        exact path (ob_b h1 (ob_b (congrArg (!·) h2) (ob_b (congrArg (!·) h2) (ob_b (congrArg (!·) h2) (ob_b (congrArg (!·) h3) (ob_b (congrArg (!·) h3) (ob_b (congrArg (!·) h3) (ob_b (rfl : false = false) (ob_b (rfl : false = false) ob))))))))) (by kernel_rfl)
      · rw [if_neg h3] at h
        replace h3 := Bool.eq_false_iff.2 h3
        by_cases h4 : a6 = true
        · rw [if_pos h4] at h
          rw [← Option.some.inj h]
          exact path (ob_b h1 (ob_b (congrArg (!·) h2) (ob_b (congrArg (!·) h2) (ob_b (congrArg (!·) h2) (ob_b (congrArg (!·) h3) (ob_b (congrArg (!·) h3) (ob_b (congrArg (!·) h3) (ob_b (congrArg (!·) h4) (ob_b (congrArg (!·) h4) ob))))))))) (by kernel_rfl)
        · rw [if_neg h4] at h
          replace h4 := Bool.eq_false_iff.2 h4
          obtain ⟨a17, rfl⟩ : ∃ z_, z_ = r := ⟨_, rfl⟩
          have h5 := h
          exact path (ob_b h1 (ob_b (congrArg (!·) h2) (ob_b (congrArg (!·) h2) (ob_b (congrArg (!·) h2) (ob_b (congrArg (!·) h3) (ob_b (congrArg (!·) h3) (ob_b (congrArg (!·) h3) (ob_b (congrArg (!·) h4) (ob_c (ht.law09_known _ h5) (ob_b (congrArg (!·) h4) ob)))))))))) (by kernel_rfl)
  · rw [if_neg h1] at h
    replace h1 := Bool.eq_false_iff.2 h1
    rcases h6 : t.law09_one 3 (GValue.mk a12 a13 a14 a15 a16) with _ | ⟨a18, a19, a20⟩
    · rw [h6] at h; cases h
    rw [h6] at h
    dsimp only at h
    rcases h7 : t.pred_Test (GPred.mk a18 a19 a20) (GValue.mk a7 a8 a9 a10 a11) with _ | a21
    · rw [h7] at h; cases h
    rw [h7] at h
    dsimp only at h
    rcases h8 : t.law09_one 5 (GValue.mk a12 a13 a14 a15 a16) with _ | ⟨a22, a23, a24⟩
    · rw [h8] at h; cases h
    rw [h8] at h
    dsimp only at h
    rcases h9 : t.pred_Test (GPred.mk a22 a23 a24) (GValue.mk a7 a8 a9 a10 a11) with _ | a25
    · rw [h9] at h; cases h
    rw [h9] at h
    dsimp only at h
    by_cases h10 : a3 = true
    · rw [if_pos h10] at h
      by_cases h11 : (a4 == a21) = true
      · rw [if_pos h11] at h
        by_cases h12 : a2 = true
        · rw [if_pos h12] at h
          by_cases h13 : (a5 == a21) = true
          · rw [if_pos h13] at h
            by_cases h14 : a1 = true
            · rw [if_pos h14] at h
              by_cases h15 : (a6 == true) = true
              · rw [if_pos h15] at h
                obtain ⟨a26, rfl⟩ : ∃ z_, z_ = r := ⟨_, rfl⟩
                have h16 := h
                exact path (ob_b h1 (ob_c (ht.law09_one _ _ _ h6) (ob_c (ht.pred_Test _ _ _ h7) (ob_c (ht.law09_one _ _ _ h8) (ob_c (ht.pred_Test _ _ _ h9) (ob_b h10 (ob_b h10 (ob_b h11 (ob_b h11 (ob_b h11 (ob_b h12 (ob_b h11 (ob_b h12 (ob_b h11 (ob_b h11 (ob_b h13 (ob_b h13 (ob_b h13 (ob_b h14 (ob_b h13 (ob_b h14 (ob_b h13 (ob_b h13 (ob_b h15 (ob_c (ht.law09_known _ h16) (ob_b h15 ob)))))))))))))))))))))))))) (by kernel_rfl)
              · rw [if_neg h15] at h
                replace h15 := Bool.eq_false_iff.2 h15
                rw [← Option.some.inj h]
                exact path (ob_b h1 (ob_c (ht.law09_one _ _ _ h6) (ob_c (ht.pred_Test _ _ _ h7) (ob_c (ht.law09_one _ _ _ h8) (ob_c (ht.pred_Test _ _ _ h9) (ob_b h10 (ob_b h10 (ob_b h11 (ob_b h11 (ob_b h11 (ob_b h12 (ob_b h11 (ob_b h12 (ob_b h11 (ob_b h11 (ob_b h13 (ob_b h13 (ob_b h13 (ob_b h14 (ob_b h13 (ob_b h14 (ob_b h13 (ob_b h13 (ob_b h15 (ob_b h15 ob))))))))))))))))))))))))) (by kernel_rfl)
            · rw [if_neg h14] at h
              replace h14 := Bool.eq_false_iff.2 h14
              by_cases h17 : (a6 == a25) = true
              · rw [if_pos h17] at h
                obtain ⟨a27, rfl⟩ : ∃ z_, z_ = r := ⟨_, rfl⟩
                have h18 := h
                exact path (ob_b h1 (ob_c (ht.law09_one _ _ _ h6) (ob_c (ht.pred_Test _ _ _ h7) (ob_c (ht.law09_one _ _ _ h8) (ob_c (ht.pred_Test _ _ _ h9) (ob_b h10 (ob_b h10 (ob_b h11 (ob_b h11 (ob_b h11 (ob_b h12 (ob_b h11 (ob_b h12 (ob_b h11 (ob_b h11 (ob_b h13 (ob_b h13 (ob_b h13 (ob_b h14 (ob_b h13 (ob_b h14 (ob_b h13 (ob_b h13 (ob_b h17 (ob_c (ht.law09_known _ h18) (ob_b h17 ob)))))))))))))))))))))))))) (by kernel_rfl)
              · rw [if_neg h17] at h
                replace h17 := Bool.eq_false_iff.2 h17
                rw [← Option.some.inj h]
                exact path (ob_b h1 (ob_c (ht.law09_one _ _ _ h6) (ob_c (ht.pred_Test _ _ _ h7) (ob_c (ht.law09_one _ _ _ h8) (ob_c (ht.pred_Test _ _ _ h9) (ob_b h10 (ob_b h10 (ob_b h11 (ob_b h11 (ob_b h11 (ob_b h12 (ob_b h11 (ob_b h12 (ob_b h11 (ob_b h11 (ob_b h13 (ob_b h13 (ob_b h13 (ob_b h14 (ob_b h13 (ob_b h14 (ob_b h13 (ob_b h13 (ob_b h17 (ob_b h17 ob))))))))))))))))))))))))) (by kernel_rfl)
          · rw [if_neg h13] at h
            replace h13 := Bool.eq_false_iff.2 h13
            rw [← Option.some.inj h]
            exact path (ob_b h1 (ob_c (ht.law09_one _ _ _ h6) (ob_c (ht.pred_Test _ _ _ h7) (ob_c (ht.law09_one _ _ _ h8) (ob_c (ht.pred_Test _ _ _ h9) (ob_b h10 (ob_b h10 (ob_b h11 (ob_b h11 (ob_b h11 (ob_b h12 (ob_b h11 (ob_b h12 (ob_b h11 (ob_b h11 (ob_b h13 (ob_b h13 (ob_b h13 (ob_b h13 (ob_b h13 (ob_b h13 (ob_b (rfl : false = false) (ob_b (rfl : false = false) ob))))))))))))))))))))))) (by kernel_rfl)
        · rw [if_neg h12] at h
          replace h12 := Bool.eq_false_iff.2 h12
          by_cases h19 : (a5 == false) = true
          · rw [if_pos h19] at h
            by_cases h20 : a1 = true
            · rw [if_pos h20] at h
              by_cases h21 : (a6 == true) = true
              · rw [if_pos h21] at h
                obtain ⟨a28, rfl⟩ : ∃ z_, z_ = r := ⟨_, rfl⟩
                have h22 := h
                exact path (ob_b h1 (ob_c (ht.law09_one _ _ _ h6) (ob_c (ht.pred_Test _ _ _ h7) (ob_c (ht.law09_one _ _ _ h8) (ob_c (ht.pred_Test _ _ _ h9) (ob_b h10 (ob_b h10 (ob_b h11 (ob_b h11 (ob_b h11 (ob_b h12 (ob_b h11 (ob_b h12 (ob_b h11 (ob_b h11 (ob_b h19 (ob_b h19 (ob_b h19 (ob_b h20 (ob_b h19 (ob_b h20 (ob_b h19 (ob_b h19 (ob_b h21 (ob_c (ht.law09_known _ h22) (ob_b h21 ob)))))))))))))))))))))))))) (by kernel_rfl)
              · rw [if_neg h21] at h
                replace h21 := Bool.eq_false_iff.2 h21
                rw [← Option.some.inj h]
                exact path (ob_b h1 (ob_c (ht.law09_one _ _ _ h6) (ob_c (ht.pred_Test _ _ _ h7) (ob_c (ht.law09_one _ _ _ h8) (ob_c (ht.pred_Test _ _ _ h9) (ob_b h10 (ob_b h10 (ob_b h11 (ob_b h11 (ob_b h11 (ob_b h12 (ob_b h11 (ob_b h12 (ob_b h11 (ob_b h11 (ob_b h19 (ob_b h19 (ob_b h19 (ob_b h20 (ob_b h19 (ob_b h20 (ob_b h19 (ob_b h19 (ob_b h21 (ob_b h21 ob))))))))))))))))))))))))) (by kernel_rfl)
            · rw [if_neg h20] at h
              replace h20 := Bool.eq_false_iff.2 h20
              by_cases h23 : (a6 == a25) = true
              · rw [if_pos h23] at h
                obtain ⟨a29, rfl⟩ : ∃ z_, z_ = r := ⟨_, rfl⟩
                have h24 := h
                exact path (ob_b h1 (ob_c (ht.law09_one _ _ _ h6) (ob_c (ht.pred_Test _ _ _ h7) (ob_c (ht.law09_one _ _ _ h8) (ob_c (ht.pred_Test _ _ _ h9) (ob_b h10 (ob_b h10 (ob_b h11 (ob_b h11 (ob_b h11 (ob_b h12 (ob_b h11 (ob_b h12 (ob_b h11 (ob_b h11 (ob_b h19 (ob_b h19 (ob_b h19 (ob_b h20 (ob_b h19 (ob_b h20 (ob_b h19 (ob_b h19 (ob_b h23 (ob_c (ht.law09_known _ h24) (ob_b h23 ob)))))))))))))))))))))))))) (by kernel_rfl)
              · rw [if_neg h23] at h
                replace h23 := Bool.eq_false_iff.2 h23
                rw [← Option.some.inj h]
                exact path (ob_b h1 (ob_c (ht.law09_one _ _ _ h6) (ob_c (ht.pred_Test _ _ _ h7) (ob_c (ht.law09_one _ _ _ h8) (ob_c (ht.pred_Test _ _ _ h9) (ob_b h10 (ob_b h10 (ob_b h11 (ob_b h11 (ob_b h11 (ob_b h12 (ob_b h11 (ob_b h12 (ob_b h11 (ob_b h11 (ob_b h19 (ob_b h19 (ob_b h19 (ob_b h20 (ob_b h19 (ob_b h20 (ob_b h19 (ob_b h19 (ob_b h23 (ob_b h23 ob))))))))))))))))))))))))) (by kernel_rfl)
          · rw [if_neg h19] at h
            replace h19 := Bool.eq_false_iff.2 h19
            rw [← Option.some.inj h]
            exact path (ob_b h1 (ob_c (ht.law09_one _ _ _ h6) (ob_c (ht.pred_Test _ _ _ h7) (ob_c (ht.law09_one _ _ _ h8) (ob_c (ht.pred_Test _ _ _ h9) (ob_b h10 (ob_b h10 (ob_b h11 (ob_b h11 (ob_b h11 (ob_b h12 (ob_b h11 (ob_b h12 (ob_b h11 (ob_b h11 (ob_b h19 (ob_b h19 (ob_b h19 (ob_b h19 (ob_b h19 (ob_b h19 (ob_b (rfl : false = false) (ob_b (rfl : false = false) ob))))))))))))))))))))))) (by kernel_rfl)
      · rw [if_neg h11] at h
        replace h11 := Bool.eq_false_iff.2 h11
        rw [← Option.some.inj h]
        exact path (ob_b h1 (ob_c (ht.law09_one _ _ _ h6) (ob_c (ht.pred_Test _ _ _ h7) (ob_c (ht.law09_one _ _ _ h8) (ob_c (ht.pred_Test _ _ _ h9) (ob_b h10 (ob_b h10 (ob_b h11 (ob_b h11 (ob_b h11 (ob_b h11 (ob_b h11 (ob_b h11 (ob_b (rfl : false = false) (ob_b (rfl : false = false) (ob_b (rfl : false = false) (ob_b (rfl : false = false) (ob_b (rfl : false = false) (ob_b (rfl : false = false) (ob_b (rfl : false = false) (ob_b (rfl : false = false) ob))))))))))))))))))))) (by kernel_rfl)
    · rw [if_neg h10] at h
      replace h10 := Bool.eq_false_iff.2 h10
      by_cases h25 : (a4 == false) = true
      · rw [if_pos h25] at h
        by_cases h26 : a2 = true
        · rw [if_pos h26] at h
          by_cases h27 : (a5 == a21) = true
          · rw [if_pos h27] at h
            by_cases h28 : a1 = true
            · rw [if_pos h28] at h
              by_cases h29 : (a6 == true) = true
              · rw [if_pos h29] at h
                obtain ⟨a30, rfl⟩ : ∃ z_, z_ = r := ⟨_, rfl⟩
                have h30 := h
                exact path (ob_b h1 (ob_c (ht.law09_one _ _ _ h6) (ob_c (ht.pred_Test _ _ _ h7) (ob_c (ht.law09_one _ _ _ h8) (ob_c (ht.pred_Test _ _ _ h9) (ob_b h10 (ob_b h10 (ob_b h25 (ob_b h25 (ob_b h25 (ob_b h26 (ob_b h25 (ob_b h26 (ob_b h25 (ob_b h25 (ob_b h27 (ob_b h27 (ob_b h27 (ob_b h28 (ob_b h27 (ob_b h28 (ob_b h27 (ob_b h27 (ob_b h29 (ob_c (ht.law09_known _ h30) (ob_b h29 ob)))))))))))))))))))))))))) (by kernel_rfl)
              · rw [if_neg h29] at h
                replace h29 := Bool.eq_false_iff.2 h29
                rw [← Option.some.inj h]
                exact path (ob_b h1 (ob_c (ht.law09_one _ _ _ h6) (ob_c (ht.pred_Test _ _ _ h7) (ob_c (ht.law09_one _ _ _ h8) (ob_c (ht.pred_Test _ _ _ h9) (ob_b h10 (ob_b h10 (ob_b h25 (ob_b h25 (ob_b h25 (ob_b h26 (ob_b h25 (ob_b h26 (ob_b h25 (ob_b h25 (ob_b h27 (ob_b h27 (ob_b h27 (ob_b h28 (ob_b h27 (ob_b h28 (ob_b h27 (ob_b h27 (ob_b h29 (ob_b h29 ob))))))))))))))))))))))))) (by kernel_rfl)
            · rw [if_neg h28] at h
              replace h28 := Bool.eq_false_iff.2 h28
              by_cases h31 : (a6 == a25) = true
              · rw [if_pos h31] at h
                obtain ⟨a31, rfl⟩ : ∃ z_, z_ = r := ⟨_, rfl⟩
                have h32 := h
                exact path (ob_b h1 (ob_c (ht.law09_one _ _ _ h6) (ob_c (ht.pred_Test _ _ _ h7) (ob_c (ht.law09_one _ _ _ h8) (ob_c (ht.pred_Test _ _ _ h9) (ob_b h10 (ob_b h10 (ob_b h25 (ob_b h25 (ob_b h25 (ob_b h26 (ob_b h25 (ob_b h26 (ob_b h25 (ob_b h25 (ob_b h27 (ob_b h27 (ob_b h27 (ob_b h28 (ob_b h27 (ob_b h28 (ob_b h27 (ob_b h27 (ob_b h31 (ob_c (ht.law09_known _ h32) (ob_b h31 ob)))))))))))))))))))))))))) (by kernel_rfl)
              · rw [if_neg h31] at h
                replace h31 := Bool.eq_false_iff.2 h31
                rw [← Option.some.inj h]
                exact path (ob_b h1 (ob_c (ht.law09_one _ _ _ h6) (ob_c (ht.pred_Test _ _ _ h7) (ob_c (ht.law09_one _ _ _ h8) (ob_c (ht.pred_Test _ _ _ h9) (ob_b h10 (ob_b h10 (ob_b h25 (ob_b h25 (ob_b h25 (ob_b h26 (ob_b h25 (ob_b h26 (ob_b h25 (ob_b h25 (ob_b h27 (ob_b h27 (ob_b h27 (ob_b h28 (ob_b h27 (ob_b h28 (ob_b h27 (ob_b h27 (ob_b h31 (ob_b h31 ob))))))))))))))))))))))))) (by kernel_rfl)
          · rw [if_neg h27] at h
            replace h27 := Bool.eq_false_iff.2 h27
            rw [← Option.some.inj h]
            exact path (ob_b h1 (ob_c (ht.law09_one _ _ _ h6) (ob_c (ht.pred_Test _ _ _ h7) (ob_c (ht.law09_one _ _ _ h8) (ob_c (ht.pred_Test _ _ _ h9) (ob_b h10 (ob_b h10 (ob_b h25 (ob_b h25 (ob_b h25 (ob_b h26 (ob_b h25 (ob_b h26 (ob_b h25 (ob_b h25 (ob_b h27 (ob_b h27 (ob_b h27 (ob_b h27 (ob_b h27 (ob_b h27 (ob_b (rfl : false = false) (ob_b (rfl : false = false) ob))))))))))))))))))))))) (by kernel_rfl)
        · rw [if_neg h26] at h
          replace h26 := Bool.eq_false_iff.2 h26
          by_cases h33 : (a5 == false) = true
          · rw [if_pos h33] at h
            by_cases h34 : a1 = true
            · rw [if_pos h34] at h
              by_cases h35 : (a6 == true) = true
              · rw [if_pos h35] at h
                obtain ⟨a32, rfl⟩ : ∃ z_, z_ = r := ⟨_, rfl⟩
                have h36 := h
                exact path (ob_b h1 (ob_c (ht.law09_one _ _ _ h6) (ob_c (ht.pred_Test _ _ _ h7) (ob_c (ht.law09_one _ _ _ h8) (ob_c (ht.pred_Test _ _ _ h9) (ob_b h10 (ob_b h10 (ob_b h25 (ob_b h25 (ob_b h25 (ob_b h26 (ob_b h25 (ob_b h26 (ob_b h25 (ob_b h25 (ob_b h33 (ob_b h33 (ob_b h33 (ob_b h34 (ob_b h33 (ob_b h34 (ob_b h33 (ob_b h33 (ob_b h35 (ob_c (ht.law09_known _ h36) (ob_b h35 ob)))))))))))))))))))))))))) (by kernel_rfl)
              · rw [if_neg h35] at h
                replace h35 := Bool.eq_false_iff.2 h35
                rw [← Option.some.inj h]
                exact path (ob_b h1 (ob_c (ht.law09_one _ _ _ h6) (ob_c (ht.pred_Test _ _ _ h7) (ob_c (ht.law09_one _ _ _ h8) (ob_c (ht.pred_Test _ _ _ h9) (ob_b h10 (ob_b h10 (ob_b h25 (ob_b h25 (ob_b h25 (ob_b h26 (ob_b h25 (ob_b h26 (ob_b h25 (ob_b h25 (ob_b h33 (ob_b h33 (ob_b h33 (ob_b h34 (ob_b h33 (ob_b h34 (ob_b h33 (ob_b h33 (ob_b h35 (ob_b h35 ob))))))))))))))))))))))))) (by kernel_rfl)
            · rw [if_neg h34] at h
              replace h34 := Bool.eq_false_iff.2 h34
              by_cases h37 : (a6 == a25) = true
              · rw [if_pos h37] at h
                obtain ⟨a33, rfl⟩ : ∃ z_, z_ = r := ⟨_, rfl⟩
                have h38 := h
                exact path (ob_b h1 (ob_c (ht.law09_one _ _ _ h6) (ob_c (ht.pred_Test _ _ _ h7) (ob_c (ht.law09_one _ _ _ h8) (ob_c (ht.pred_Test _ _ _ h9) (ob_b h10 (ob_b h10 (ob_b h25 (ob_b h25 (ob_b h25 (ob_b h26 (ob_b h25 (ob_b h26 (ob_b h25 (ob_b h25 (ob_b h33 (ob_b h33 (ob_b h33 (ob_b h34 (ob_b h33 (ob_b h34 (ob_b h33 (ob_b h33 (ob_b h37 (ob_c (ht.law09_known _ h38) (ob_b h37 ob)))))))))))))))))))))))))) (by kernel_rfl)
              · rw [if_neg h37] at h
                replace h37 := Bool.eq_false_iff.2 h37
                rw [← Option.some.inj h]
                exact path (ob_b h1 (ob_c (ht.law09_one _ _ _ h6) (ob_c (ht.pred_Test _ _ _ h7) (ob_c (ht.law09_one _ _ _ h8) (ob_c (ht.pred_Test _ _ _ h9) (ob_b h10 (ob_b h10 (ob_b h25 (ob_b h25 (ob_b h25 (ob_b h26 (ob_b h25 (ob_b h26 (ob_b h25 (ob_b h25 (ob_b h33 (ob_b h33 (ob_b h33 (ob_b h34 (ob_b h33 (ob_b h34 (ob_b h33 (ob_b h33 (ob_b h37 (ob_b h37 ob))))))))))))))))))))))))) (by kernel_rfl)
          · rw [if_neg h33] at h
            replace h33 := Bool.eq_false_iff.2 h33
            rw [← Option.some.inj h]
            exact path (ob_b h1 (ob_c (ht.law09_one _ _ _ h6) (ob_c (ht.pred_Test _ _ _ h7) (ob_c (ht.law09_one _ _ _ h8) (ob_c (ht.pred_Test _ _ _ h9) (ob_b h10 (ob_b h10 (ob_b h25 (ob_b h25 (ob_b h25 (ob_b h26 (ob_b h25 (ob_b h26 (ob_b h25 (ob_b h25 (ob_b h33 (ob_b h33 (ob_b h33 (ob_b h33 (ob_b h33 (ob_b h33 (ob_b (rfl : false = false) (ob_b (rfl : false = false) ob))))))))))))))))))))))) (by kernel_rfl)
      · rw [if_neg h25] at h
        replace h25 := Bool.eq_false_iff.2 h25
        rw [← Option.some.inj h]
        exact path (ob_b h1 (ob_c (ht.law09_one _ _ _ h6) (ob_c (ht.pred_Test _ _ _ h7) (ob_c (ht.law09_one _ _ _ h8) (ob_c (ht.pred_Test _ _ _ h9) (ob_b h10 (ob_b h10 (ob_b h25 (ob_b h25 (ob_b h25 (ob_b h25 (ob_b h25 (ob_b h25 (ob_b (rfl : false = false) (ob_b (rfl : false = false) (ob_b (rfl : false = false) (ob_b (rfl : false = false) (ob_b (rfl : false = false) (ob_b (rfl : false = false) (ob_b (rfl : false = false) (ob_b (rfl : false = false) ob))))))))))))))))))))) (by kernel_rfl)
theorem law09_PredOrder_j4.ok {t : Tab} {call : FuncId → List AV → List AV → Option (AV × List AV)} (ht : TabOk t call) (n : Nat) (a1 : Bool) (a2 : Bool) (a3 : Bool) (a4 : Bool) (a5 : Bool) (a6 : Bool) (a7 : Bool) (a8 : Int) (a9 : Int) (a10 : Int) (a11 : ByteArray) (a12 : List GValue) (a13 : List GValue) (a14 : Int) (a15 : Int) (a16 : ByteArray) (a17 : List GValue) (a18 : List GValue) (r : Bool) (h : law09_PredOrder_j4 t n a1 a2 a3 a4 a5 a6 a7 a8 a9 a10 a11 a12 a13 a14 a15 a16 a17 a18 = some r) : exec (env Try.prog 6 Try.f6 call) n (sub [1, 1, 1, 1, 1, 1, 1, 1, 1, 1, 1, 1, 1, 1, 1, 1] (bodyOf Try.f6)) (mkSt 187 187 [(4, (.ptr 4 0 [] 0)), (5, (.ptr 5 0 [] 0)), (7, (.t (.v (.bool a1)))), (8, (.t (.v (.bool a2)))), (10, (.t (.v (.bool a3)))), (11, (.t (.v (.bool a4)))), (13, (.t (.v (.bool a5)))), (14, (.t (.v (.bool a6)))), (15, (.t (.v (.bool a7)))), (16, (.t (.v (.int .i64 a8))))] [(4, (.t (.st [(.v (.int .i64 a9)), (.v (.int .i64 a10)), (.v (.string a11)), (.sl false 5 (GValue.ts a12)), (.sl false 5 (GValue.ts a13))]))), (5, (.t (.st [(.v (.int .i64 a14)), (.v (.int .i64 a15)), (.v (.string a16)), (.sl false 5 (GValue.ts a17)), (.sl false 5 (GValue.ts a18))])))]) = some (law09_PredOrder_j4.to r) := by
  rw [law09_PredOrder_j4] at h
  by_cases h1 : (a8 != 1) = true
  · rw [if_pos h1] at h
    rw [← Option.some.inj h]
    exact path (ob_b h1 (ob_b h1 (ob_b h1 (ob_b h1 (ob_b (rfl : true = true) (ob_b (rfl : true = true) (ob_b (rfl : true = true) (ob_b (rfl : true = true) (ob_b (rfl : true = true) ob))))))))) (by kernel_rfl)
  · rw [if_neg h1] at h
    replace h1 := Bool.eq_false_iff.2 h1
    by_cases h2 : (a3 == a2) = true
    · rw [if_pos h2] at h
      rw [← Option.some.inj h]
      exact path (ob_b h1 (ob_b h1 (ob_b h1 (ob_b h1 (ob_b h2 (ob_b h2 (ob_b h2 (ob_b h2 (ob_b (rfl : true = true) ob))))))))) (by kernel_rfl)
    · rw [if_neg h2] at h
      replace h2 := Bool.eq_false_iff.2 h2
      by_cases h3 : (a4 == a1) = true
      · rw [if_pos h3] at h
        rw [← Option.some.inj h]
        exact path (ob_b h1 (ob_b h1 (ob_b h1 (ob_b h1 (ob_b h2 (ob_b h2 (ob_b h2 (ob_b h2 (ob_b h3 ob))))))))) (by kernel_rfl)
      · rw [if_neg h3] at h
        replace h3 := Bool.eq_false_iff.2 h3
        obtain ⟨a19, rfl⟩ : ∃ z_, z_ = r := ⟨_, rfl⟩
        have h4 := h
        exact path (ob_b h1 (ob_b h1 (ob_b h1 (ob_b h1 (ob_b h2 (ob_b h2 (ob_b h2 (ob_b h2 (ob_b h3 (ob_j (law09_PredOrder_j5.ok ht n _ _ _ _ _ _ _ _ _ _ _ _ _ _ _ _ _ h4) ob)))))))))) (by kernel_rfl)
theorem law09_PredOrder_j3.ok {t : Tab} {call : FuncId → List AV → List AV → Option (AV × List AV)} (ht : TabOk t call) (n : Nat) (a1 : Bool) (a2 : Bool) (a3 : Bool) (a4 : Bool) (a5 : Bool) (a6 : Bool) (a7 : Bool) (a8 : Bool) (a9 : Int) (a10 : Int) (a11 : Int) (a12 : ByteArray) (a13 : List GValue) (a14 : List GValue) (a15 : Int) (a16 : Int) (a17 : ByteArray) (a18 : List GValue) (a19 : List GValue) (r : Bool) (h : law09_PredOrder_j3 t n a1 a2 a3 a4 a5 a6 a7 a8 a9 a10 a11 a12 a13 a14 a15 a16 a17 a18 a19 = some r) : exec (env Try.prog 6 Try.f6 call) n (sub [1, 1, 1, 1, 1, 1, 1, 1, 1, 1, 1, 1, 1, 1, 1] (bodyOf Try.f6)) (mkSt 187 187 [(4, (.ptr 4 0 [] 0)), (5, (.ptr 5 0 [] 0)), (7, (.t (.v (.bool a1)))), (8, (.t (.v (.bool a2)))), (9, (.t (.v (.bool a3)))), (10, (.t (.v (.bool a4)))), (11, (.t (.v (.bool a5)))), (13, (.t (.v (.bool a6)))), (14, (.t (.v (.bool a7)))), (15, (.t (.v (.bool a8)))), (16, (.t (.v (.int .i64 a9))))] [(4, (.t (.st [(.v (.int .i64 a10)), (.v (.int .i64 a11)), (.v (.string a12)), (.sl false 5 (GValue.ts a13)), (.sl false 5 (GValue.ts a14))]))), (5, (.t (.st [(.v (.int .i64 a15)), (.v (.int .i64 a16)), (.v (.string a17)), (.sl false 5 (GValue.ts a18)), (.sl false 5 (GValue.ts a19))])))]) = some (law09_PredOrder_j3.to r) := by
  rw [law09_PredOrder_j3] at h
  by_cases h1 : a3 = true
  · rw [if_pos h1] at h
    obtain ⟨a20, rfl⟩ : ∃ z_, z_ = r := ⟨_, rfl⟩
    have h2 := h
    exact path (ob_b h1 (ob_j (law09_PredOrder_j4.ok ht n _ _ _ _ _ _ _ _ _ _ _ _ _ _ _ _ _ _ _ h2) ob)) (by kernel_rfl)
  · rw [if_neg h1] at h
    replace h1 := Bool.eq_false_iff.2 h1
    obtain ⟨a21, rfl⟩ : ∃ z_, z_ = r := ⟨_, rfl⟩
    have h3 := h
    exact path (ob_b h1 (ob_j (law09_PredOrder_j4.ok ht n _ _ _ _ _ _ _ _ _ _ _ _ _ _ _ _ _ _ _ h3) ob)) (by kernel_rfl)
theorem law09_PredOrder_j2.ok {t : Tab} {call : FuncId → List AV → List AV → Option (AV × List AV)} (ht : TabOk t call) (n : Nat) (a1 : Bool) (a2 : Bool) (a3 : Bool) (a4 : Bool) (a5 : Bool) (a6 : Bool) (a7 : Bool) (a8 : Bool) (a9 : Int) (a10 : Int) (a11 : Int) (a12 : ByteArray) (a13 : List GValue) (a14 : List GValue) (a15 : Int) (a16 : Int) (a17 : ByteArray) (a18 : List GValue) (a19 : List GValue) (r : Bool) (h : law09_PredOrder_j2 t n a1 a2 a3 a4 a5 a6 a7 a8 a9 a10 a11 a12 a13 a14 a15 a16 a17 a18 a19 = some r) : exec (env Try.prog 6 Try.f6 call) n (sub [1, 1, 1, 1, 1, 1, 1, 1, 1, 1, 1, 1, 1, 1] (bodyOf Try.f6)) (mkSt 187 187 [(4, (.ptr 4 0 [] 0)), (5, (.ptr 5 0 [] 0)), (7, (.t (.v (.bool a1)))), (8, (.t (.v (.bool a2)))), (9, (.t (.v (.bool a3)))), (10, (.t (.v (.bool a4)))), (11, (.t (.v (.bool a5)))), (13, (.t (.v (.bool a6)))), (14, (.t (.v (.bool a7)))), (15, (.t (.v (.bool a8)))), (16, (.t (.v (.int .i64 a9))))] [(4, (.t (.st [(.v (.int .i64 a10)), (.v (.int .i64 a11)), (.v (.string a12)), (.sl false 5 (GValue.ts a13)), (.sl false 5 (GValue.ts a14))]))), (5, (.t (.st [(.v (.int .i64 a15)), (.v (.int .i64 a16)), (.v (.string a17)), (.sl false 5 (GValue.ts a18)), (.sl false 5 (GValue.ts a19))])))]) = some (law09_PredOrder_j2.to r) := by
  rw [law09_PredOrder_j2] at h
  by_cases h1 : a2 = true
  · rw [if_pos h1] at h
    obtain ⟨a20, rfl⟩ : ∃ z_, z_ = r := ⟨_, rfl⟩
    have h2 := h
    exact path (ob_b h1 (ob_j (law09_PredOrder_j3.ok ht n _ _ _ _ _ _ _ _ _ _ _ _ _ _ _ _ _ _ _ _ h2) ob)) (by kernel_rfl)
  · rw [if_neg h1] at h
    replace h1 := Bool.eq_false_iff.2 h1
    obtain ⟨a21, rfl⟩ : ∃ z_, z_ = r := ⟨_, rfl⟩
    have h3 := h
    exact path (ob_b h1 (ob_j (law09_PredOrder_j3.ok ht n _ _ _ _ _ _ _ _ _ _ _ _ _ _ _ _ _ _ _ _ h3) ob)) (by kernel_rfl)
theorem law09_PredOrder_j1.ok {t : Tab} {call : FuncId → List AV → List AV → Option (AV × List AV)} (ht : TabOk t call) (n : Nat) (a1 : Int) (a2 : Int) (a3 : ByteArray) (a4 : List GValue) (a5 : List GValue) (a6 : Int) (a7 : Int) (a8 : ByteArray) (a9 : List GValue) (a10 : List GValue) (a11 : Int) (a12 : Int) (a13 : ByteArray) (a14 : List GValue) (a15 : List GValue) (r : Bool) (h : law09_PredOrder_j1 t n a1 a2 a3 a4 a5 a6 a7 a8 a9 a10 a11 a12 a13 a14 a15 = some r) : exec (env Try.prog 6 Try.f6 call) n (sub [1, 1] (bodyOf Try.f6)) (mkSt 187 187 [(3, (.ptr 3 0 [] 0)), (4, (.ptr 4 0 [] 0)), (5, (.ptr 5 0 [] 0))] [(3, (.t (.st [(.v (.int .i64 a1)), (.v (.int .i64 a2)), (.v (.string a3)), (.sl false 5 (GValue.ts a4)), (.sl false 5 (GValue.ts a5))]))), (4, (.t (.st [(.v (.int .i64 a6)), (.v (.int .i64 a7)), (.v (.string a8)), (.sl false 5 (GValue.ts a9)), (.sl false 5 (GValue.ts a10))]))), (5, (.t (.st [(.v (.int .i64 a11)), (.v (.int .i64 a12)), (.v (.string a13)), (.sl false 5 (GValue.ts a14)), (.sl false 5 (GValue.ts a15))])))]) = some (law09_PredOrder_j1.to r) := by
  rw [law09_PredOrder_j1] at h
  rcases h1 : t.law09_one 3 (GValue.mk a1 a2 a3 a4 a5) with _ | ⟨a16, a17, a18⟩
  · rw [h1] at h; cases h
  rw [h1] at h
  dsimp only at h
  rcases h2 : t.pred_Test (GPred.mk a16 a17 a18) (GValue.mk a6 a7 a8 a9 a10) with _ | a19
  · rw [h2] at h; cases h
  rw [h2] at h
  dsimp only at h
  rcases h3 : t.law09_one 5 (GValue.mk a1 a2 a3 a4 a5) with _ | ⟨a20, a21, a22⟩
  · rw [h3] at h; cases h
  rw [h3] at h
  dsimp only at h
  rcases h4 : t.pred_Test (GPred.mk a20 a21 a22) (GValue.mk a6 a7 a8 a9 a10) with _ | a23
  · rw [h4] at h; cases h
  rw [h4] at h
  dsimp only at h
  rcases h5 : t.law09_one 1 (GValue.mk a1 a2 a3 a4 a5) with _ | ⟨a24, a25, a26⟩
  · rw [h5] at h; cases h
  rw [h5] at h
  dsimp only at h
  rcases h6 : t.pred_Test (GPred.mk a24 a25 a26) (GValue.mk a6 a7 a8 a9 a10) with _ | a27
  · rw [h6] at h; cases h
  rw [h6] at h
  dsimp only at h
  rcases h7 : t.law09_one 4 (GValue.mk a1 a2 a3 a4 a5) with _ | ⟨a28, a29, a30⟩
  · rw [h7] at h; cases h
  rw [h7] at h
  dsimp only at h
  rcases h8 : t.pred_Test (GPred.mk a28 a29 a30) (GValue.mk a6 a7 a8 a9 a10) with _ | a31
  · rw [h8] at h; cases h
  rw [h8] at h
  dsimp only at h
  rcases h9 : t.law09_one 6 (GValue.mk a1 a2 a3 a4 a5) with _ | ⟨a32, a33, a34⟩
  · rw [h9] at h; cases h
  rw [h9] at h
  dsimp only at h
  rcases h10 : t.pred_Test (GPred.mk a32 a33 a34) (GValue.mk a6 a7 a8 a9 a10) with _ | a35
  · rw [h10] at h; cases h
  rw [h10] at h
  dsimp only at h
  rcases h11 : t.pred_Test (GPred.mk 7 ([(GValue.mk a1 a2 a3 a4 a5), (GValue.mk a11 a12 a13 a14 a15)] : List GValue) ([] : List GPred)) (GValue.mk a6 a7 a8 a9 a10) with _ | a36
  · rw [h11] at h; cases h
  rw [h11] at h
  dsimp only at h
  rcases h12 : t.pred_Test (GPred.mk 8 ([(GValue.mk a1 a2 a3 a4 a5), (GValue.mk a11 a12 a13 a14 a15)] : List GValue) ([] : List GPred)) (GValue.mk a6 a7 a8 a9 a10) with _ | a37
  · rw [h12] at h; cases h
  rw [h12] at h
  dsimp only at h
  rcases h13 : t.pred_Test (GPred.mk 9 ([(GValue.mk a1 a2 a3 a4 a5), (GValue.mk a11 a12 a13 a14 a15)] : List GValue) ([] : List GPred)) (GValue.mk a6 a7 a8 a9 a10) with _ | a38
  · rw [h13] at h; cases h
  rw [h13] at h
  dsimp only at h
  by_cases h14 : (a1 != a6) = true
  · rw [if_pos h14] at h
    by_cases h15 : a19 = true
    · rw [if_pos h15] at h
      rw [← Option.some.inj h]
      exact path (ob_c (ht.law09_one _ _ _ h1) (ob_c (ht.pred_Test _ _ _ h2) (ob_c (ht.law09_one _ _ _ h3) (ob_c (ht.pred_Test _ _ _ h4) (ob_c (ht.law09_one _ _ _ h5) (ob_c (ht.pred_Test _ _ _ h6) (ob_c (ht.law09_one _ _ _ h7) (ob_c (ht.pred_Test _ _ _ h8) (ob_c (ht.law09_one _ _ _ h9) (ob_c (ht.pred_Test _ _ _ h10) (ob_c (ht.pred_Test _ _ _ h11) (ob_c (ht.pred_Test _ _ _ h12) (ob_c (ht.pred_Test _ _ _ h13) (ob_b h14 (ob_b (congrArg (!·) h15) (ob_b (congrArg (!·) h15) (ob_b (congrArg (!·) h15) (ob_b (rfl : false = false) (ob_b (rfl : false = false) (ob_b (rfl : false = false) (ob_b (rfl : false = false) (ob_b (rfl : false = false) (ob_b (rfl : false = false) (ob_b (rfl : false = false) (ob_b (rfl : false = false) (ob_b (rfl : false = false) (ob_b (rfl : false = false) (ob_b (rfl : false = false) (ob_b (rfl : false = false) (ob_b (rfl : false = false) (ob_b (rfl : false = false) (ob_b (rfl : false = false) (ob_b (rfl : false = false) (ob_b (rfl : false = false) (ob_b (rfl : false = false) (ob_b (rfl : false = false) (ob_b (rfl : false = false) (ob_b (rfl : false = false) (ob_b (rfl : false = false) (ob_b (rfl : false = false) (ob_b (rfl : false = false) (ob_b (rfl : false = false) ob)))))))))))))))))))))))))))))))))))))))))) (by kernel_rfl)
    · rw [if_neg h15] at h
      replace h15 := Bool.eq_false_iff.2 h15
      by_cases h16 : a23 = true
      · rw [if_pos h16] at h
        rw [← Option.some.inj h]
        exact path (ob_c (ht.law09_one _ _ _ h1) (ob_c (ht.pred_Test _ _ _ h2) (ob_c (ht.law09_one _ _ _ h3) (ob_c (ht.pred_Test _ _ _ h4) (ob_c (ht.law09_one _ _ _ h5) (ob_c (ht.pred_Test _ _ _ h6) (ob_c (ht.law09_one _ _ _ h7) (ob_c (ht.pred_Test _ _ _ h8) (ob_c (ht.law09_one _ _ _ h9) (ob_c (ht.pred_Test _ _ _ h10) (ob_c (ht.pred_Test _ _ _ h11) (ob_c (ht.pred_Test _ _ _ h12) (ob_c (ht.pred_Test _ _ _ h13) (ob_b h14 (ob_b (congrArg (!·) h15) (ob_b (congrArg (!·) h15) (ob_b (congrArg (!·) h15) (ob_b (congrArg (!·) h16) (ob_b (congrArg (!·) h16) (ob_b (congrArg (!·) h16) (ob_b (rfl : false = false) (ob_b (rfl : false = false) (ob_b (rfl : false = false) (ob_b (rfl : false = false) (ob_b (rfl : false = false) (ob_b (rfl : false = false) (ob_b (rfl : false = false) (ob_b (rfl : false = false) (ob_b (rfl : false = false) (ob_b (rfl : false = false) (ob_b (rfl : false = false) (ob_b (rfl : false = false) (ob_b (rfl : false = false) (ob_b (rfl : false = false) (ob_b (rfl : false = false) (ob_b (rfl : false = false) (ob_b (rfl : false = false) (ob_b (rfl : false = false) (ob_b (rfl : false = false) (ob_b (rfl : false = false) (ob_b (rfl : false = false) (ob_b (rfl : false = false) ob)))))))))))))))))))))))))))))))))))))))))) (by kernel_rfl)
      · rw [if_neg h16] at h
        replace h16 := Bool.eq_false_iff.2 h16
        by_cases h17 : a27 = true
        · rw [if_pos h17] at h
          rw [← Option.some.inj h]
          exact path (ob_c (ht.law09_one _ _ _ h1) (ob_c (ht.pred_Test _ _ _ h2) (ob_c (ht.law09_one _ _ _ h3) (ob_c (ht.pred_Test _ _ _ h4) (ob_c (ht.law09_one _ _ _ h5) (ob_c (ht.pred_Test _ _ _ h6) (ob_c (ht.law09_one _ _ _ h7) (ob_c (ht.pred_Test _ _ _ h8) (ob_c (ht.law09_one _ _ _ h9) (ob_c (ht.pred_Test _ _ _ h10) (ob_c (ht.pred_Test _ _ _ h11) (ob_c (ht.pred_Test _ _ _ h12) (ob_c (ht.pred_Test _ _ _ h13) (ob_b h14 (ob_b (congrArg (!·) h15) (ob_b (congrArg (!·) h15) (ob_b (congrArg (!·) h15) (ob_b (congrArg (!·) h16) (ob_b (congrArg (!·) h16) (ob_b (congrArg (!·) h16) (ob_b (congrArg (!·) h17) (ob_b (congrArg (!·) h17) (ob_b (congrArg (!·) h17) (ob_b (rfl : false = false) (ob_b (rfl : false = false) (ob_b (rfl : false = false) (ob_b (rfl : false = false) (ob_b (rfl : false = false) (ob_b (rfl : false = false) (ob_b (rfl : false = false) (ob_b (rfl : false = false) (ob_b (rfl : false = false) (ob_b (rfl : false = false) (ob_b (rfl : false = false) (ob_b (rfl : false = false) (ob_b (rfl : false = false) (ob_b (rfl : false = false) (ob_b (rfl : false = false) (ob_b (rfl : false = false) (ob_b (rfl : false = false) (ob_b (rfl : false = false) (ob_b (rfl : false = false) ob)))))))))))))))))))))))))))))))))))))))))) (by kernel_rfl)
        · rw [if_neg h17] at h
          replace h17 := Bool.eq_false_iff.2 h17
          by_cases h18 : a31 = true
          · rw [if_pos h18] at h
            rw [← Option.some.inj h]
            exact path (ob_c (ht.law09_one _ _ _ h1) (ob_c (ht.pred_Test _ _ _ h2) (ob_c (ht.law09_one _ _ _ h3) (ob_c (ht.pred_Test _ _ _ h4) (ob_c (ht.law09_one _ _ _ h5) (ob_c (ht.pred_Test _ _ _ h6) (ob_c (ht.law09_one _ _ _ h7) (ob_c (ht.pred_Test _ _ _ h8) (ob_c (ht.law09_one _ _ _ h9) (ob_c (ht.pred_Test _ _ _ h10) (ob_c (ht.pred_Test _ _ _ h11) (ob_c (ht.pred_Test _ _ _ h12) (ob_c (ht.pred_Test _ _ _ h13) (ob_b h14 (ob_b (congrArg (!·) h15) (ob_b (congrArg (!·) h15) (ob_b (congrArg (!·) h15) (ob_b (congrArg (!·) h16) (ob_b (congrArg (!·) h16) (ob_b (congrArg (!·) h16) (ob_b (congrArg (!·) h17) (ob_b (congrArg (!·) h17) (ob_b (congrArg (!·) h17) (ob_b (congrArg (!·) h18) (ob_b (congrArg (!·) h18) (ob_b (congrArg (!·) h18) (ob_b (rfl : false = false) (ob_b (rfl : false = false) (ob_b (rfl : false = false) (ob_b (rfl : false = false) (ob_b (rfl : false = false) (ob_b (rfl : false = false) (ob_b (rfl : false = false) (ob_b (rfl : false = false) (ob_b (rfl : false = false) (ob_b (rfl : false = false) (ob_b (rfl : false = false) (ob_b (rfl : false = false) (ob_b (rfl : false = false) (ob_b (rfl : false = false) (ob_b (rfl : false = false) (ob_b (rfl : false = false) ob)))))))))))))))))))))))))))))))))))))))))) (by kernel_rfl)
          · rw [if_neg h18] at h
            replace h18 := Bool.eq_false_iff.2 h18
            by_cases h19 : a35 = true
            · rw [if_pos h19] at h
              rw [← Option.some.inj h]
              exact path (ob_c (ht.law09_one _ _ _ h1) (ob_c (ht.pred_Test _ _ _ h2) (ob_c (ht.law09_one _ _ _ h3) (ob_c (ht.pred_Test _ _ _ h4) (ob_c (ht.law09_one _ _ _ h5) (ob_c (ht.pred_Test _ _ _ h6) (ob_c (ht.law09_one _ _ _ h7) (ob_c (ht.pred_Test _ _ _ h8) (ob_c (ht.law09_one _ _ _ h9) (ob_c (ht.pred_Test _ _ _ h10) (ob_c (ht.pred_Test _ _ _ h11) (ob_c (ht.pred_Test _ _ _ h12) (ob_c (ht.pred_Test _ _ _ h13) (ob_b h14 (ob_b (congrArg (!·) h15) (ob_b (congrArg (!·) h15) (ob_b (congrArg (!·) h15) (ob_b (congrArg (!·) h16) (ob_b (congrArg (!·) h16) (ob_b (congrArg (!·) h16) (ob_b (congrArg (!·) h17) (ob_b (congrArg (!·) h17) (ob_b (congrArg (!·) h17) (ob_b (congrArg (!·) h18) (ob_b (congrArg (!·) h18) (ob_b (congrArg (!·) h18) (ob_b (congrArg (!·) h19) (ob_b (congrArg (!·) h19) (ob_b (congrArg (!·) h19) (ob_b (rfl : false = false) (ob_b (rfl : false = false) (ob_b (rfl : false = false) (ob_b (rfl : false = false) (ob_b (rfl : false = false) (ob_b (rfl : false = false) (ob_b (rfl : false = false) (ob_b (rfl : false = false) (ob_b (rfl : false = false) (ob_b (rfl : false = false) (ob_b (rfl : false = false) (ob_b (rfl : false = false) (ob_b (rfl : false = false) ob)))))))))))))))))))))))))))))))))))))))))) (by kernel_rfl)
            · rw [if_neg h19] at h
              replace h19 := Bool.eq_false_iff.2 h19
              by_cases h20 : a36 = true
              · rw [if_pos h20] at h
                rw [← Option.some.inj h]
                exact path (ob_c (ht.law09_one _ _ _ h1) (ob_c (ht.pred_Test _ _ _ h2) (ob_c (ht.law09_one _ _ _ h3) (ob_c (ht.pred_Test _ _ _ h4) (ob_c (ht.law09_one _ _ _ h5) (ob_c (ht.pred_Test _ _ _ h6) (ob_c (ht.law09_one _ _ _ h7) (ob_c (ht.pred_Test _ _ _ h8) (ob_c (ht.law09_one _ _ _ h9) (ob_c (ht.pred_Test _ _ _ h10) (ob_c (ht.pred_Test _ _ _ h11) (ob_c (ht.pred_Test _ _ _ h12) (ob_c (ht.pred_Test _ _ _ h13) (ob_b h14 (ob_b (congrArg (!·) h15) (ob_b (congrArg (!·) h15) (ob_b (congrArg (!·) h15) (ob_b (congrArg (!·) h16) (ob_b (congrArg (!·) h16) (ob_b (congrArg (!·) h16) (ob_b (congrArg (!·) h17) (ob_b (congrArg (!·) h17) (ob_b (congrArg (!·) h17) (ob_b (congrArg (!·) h18) (ob_b (congrArg (!·) h18) (ob_b (congrArg (!·) h18) (ob_b (congrArg (!·) h19) (ob_b (congrArg (!·) h19) (ob_b (congrArg (!·) h19) (ob_b (congrArg (!·) h20) (ob_b (congrArg (!·) h20) (ob_b (congrArg (!·) h20) (ob_b (rfl : false = false) (ob_b (rfl : false = false) (ob_b (rfl : false = false) (ob_b (rfl : false = false) (ob_b (rfl : false = false) (ob_b (rfl : false = false) (ob_b (rfl : false = false) (ob_b (rfl : false = false) (ob_b (rfl : false = false) (ob_b (rfl : false = false) ob)))))))))))))))))))))))))))))))))))))))))) (by kernel_rfl)
              · rw [if_neg h20] at h
                replace h20 := Bool.eq_false_iff.2 h20
                by_cases h21 : a37 = true
                · rw [if_pos h21] at h
                  rw [← Option.some.inj h]
                  exact path (ob_c (ht.law09_one _ _ _ h1) (ob_c (ht.pred_Test _ _ _ h2) (ob_c (ht.law09_one _ _ _ h3) (ob_c (ht.pred_Test _ _ _ h4) (ob_c (ht.law09_one _ _ _ h5) (ob_c (ht.pred_Test _ _ _ h6) (ob_c (ht.law09_one _ _ _ h7) (ob_c (ht.pred_Test _ _ _ h8) (ob_c (ht.law09_one _ _ _ h9) (ob_c (ht.pred_Test _ _ _ h10) (ob_c (ht.pred_Test _ _ _ h11) (ob_c (ht.pred_Test _ _ _ h12) (ob_c (ht.pred_Test _ _ _ h13) (ob_b h14 (ob_b (congrArg (!·) h15) (ob_b (congrArg (!·) h15) (ob_b (congrArg (!·) h15) (ob_b (congrArg (!·) h16) (ob_b (congrArg (!·) h16) (ob_b (congrArg (!·) h16) (ob_b (congrArg (!·) h17) (ob_b (congrArg (!·) h17) (ob_b (congrArg (!·) h17) (ob_b (congrArg (!·) h18) (ob_b (congrArg (!·) h18) (ob_b (congrArg (!·) h18) (ob_b (congrArg (!·) h19) (ob_b (congrArg (!·) h19) (ob_b (congrArg (!·) h19) (ob_b (congrArg (!·) h20) (ob_b (congrArg (!·) h20) (ob_b (congrArg (!·) h20) (ob_b (congrArg (!·) h21) (ob_b (congrArg (!·) h21) (ob_b (congrArg (!·) h21) (ob_b (rfl : false = false) (ob_b (rfl : false = false) (ob_b (rfl : false = false) (ob_b (rfl : false = false) (ob_b (rfl : false = false) (ob_b (rfl : false = false) (ob_b (rfl : false = false) ob)))))))))))))))))))))))))))))))))))))))))) (by kernel_rfl)
                · rw [if_neg h21] at h
                  replace h21 := Bool.eq_false_iff.2 h21
                  by_cases h22 : a38 = true
                  · rw [if_pos h22] at h
                    rw [← Option.some.inj h]
                    exact path (ob_c (ht.law09_one _ _ _ h1) (ob_c (ht.pred_Test _ _ _ h2) (ob_c (ht.law09_one _ _ _ h3) (ob_c (ht.pred_Test _ _ _ h4) (ob_c (ht.law09_one _ _ _ h5) (ob_c (ht.pred_Test _ _ _ h6) (ob_c (ht.law09_one _ _ _ h7) (ob_c (ht.pred_Test _ _ _ h8) (ob_c (ht.law09_one _ _ _ h9) (ob_c (ht.pred_Test _ _ _ h10) (ob_c (ht.pred_Test _ _ _ h11) (ob_c (ht.pred_Test _ _ _ h12) (ob_c (ht.pred_Test _ _ _ h13) (ob_b h14 (ob_b (congrArg (!·) h15) (ob_b (congrArg (!·) h15) (ob_b (congrArg (!·) h15) (ob_b (congrArg (!·) h16) (ob_b (congrArg (!·) h16) (ob_b (congrArg (!·) h16) (ob_b (congrArg (!·) h17) (ob_b (congrArg (!·) h17) (ob_b (congrArg (!·) h17) (ob_b (congrArg (!·) h18) (ob_b (congrArg (!·) h18) (ob_b (congrArg (!·) h18) (ob_b (congrArg (!·) h19) (ob_b (congrArg (!·) h19) (ob_b (congrArg (!·) h19) (ob_b (congrArg (!·) h20) (ob_b (congrArg (!·) h20) (ob_b (congrArg (!·) h20) (ob_b (congrArg (!·) h21) (ob_b (congrArg (!·) h21) (ob_b (congrArg (!·) h21) (ob_b (congrArg (!·) h22) (ob_b (congrArg (!·) h22) (ob_b (congrArg (!·) h22) (ob_b (congrArg (!·) h22) (ob_b (congrArg (!·) h22) (ob_b (rfl : false = false) (ob_b (rfl : false = false) ob)))))))))))))))))))))))))))))))))))))))))) (by kernel_rfl)
                  · rw [if_neg h22] at h
                    replace h22 := Bool.eq_false_iff.2 h22
                    rcases h23 : t.law09_one 2 (GValue.mk a1 a2 a3 a4 a5) with _ | ⟨a39, a40, a41⟩
                    · rw [h23] at h; cases h
                    rw [h23] at h
                    dsimp only at h
                    rcases h24 : t.pred_Test (GPred.mk a39 a40 a41) (GValue.mk a6 a7 a8 a9 a10) with _ | a42
                    · rw [h24] at h; cases h
                    rw [h24] at h
                    dsimp only at h
                    by_cases h25 : a42 = true
                    · rw [if_pos h25] at h
                      obtain ⟨a43, rfl⟩ : ∃ z_, z_ = r := ⟨_, rfl⟩
                      have h26 := h
                      exact path (ob_c (ht.law09_one _ _ _ h1) (ob_c (ht.pred_Test _ _ _ h2) (ob_c (ht.law09_one _ _ _ h3) (ob_c (ht.pred_Test _ _ _ h4) (ob_c (ht.law09_one _ _ _ h5) (ob_c (ht.pred_Test _ _ _ h6) (ob_c (ht.law09_one _ _ _ h7) (ob_c (ht.pred_Test _ _ _ h8) (ob_c (ht.law09_one _ _ _ h9) (ob_c (ht.pred_Test _ _ _ h10) (ob_c (ht.pred_Test _ _ _ h11) (ob_c (ht.pred_Test _ _ _ h12) (ob_c (ht.pred_Test _ _ _ h13) (ob_b h14 (ob_b (congrArg (!·) h15) (ob_b (congrArg (!·) h15) (ob_b (congrArg (!·) h15) (ob_b (congrArg (!·) h16) (ob_b (congrArg (!·) h16) (ob_b (congrArg (!·) h16) (ob_b (congrArg (!·) h17) (ob_b (congrArg (!·) h17) (ob_b (congrArg (!·) h17) (ob_b (congrArg (!·) h18) (ob_b (congrArg (!·) h18) (ob_b (congrArg (!·) h18) (ob_b (congrArg (!·) h19) (ob_b (congrArg (!·) h19) (ob_b (congrArg (!·) h19) (ob_b (congrArg (!·) h20) (ob_b (congrArg (!·) h20) (ob_b (congrArg (!·) h20) (ob_b (congrArg (!·) h21) (ob_b (congrArg (!·) h21) (ob_b (congrArg (!·) h21) (ob_b (congrArg (!·) h22) (ob_b (congrArg (!·) h22) (ob_c (ht.law09_one _ _ _ h23) (ob_b (congrArg (!·) h22) (ob_b (congrArg (!·) h22) (ob_c (ht.pred_Test _ _ _ h24) (ob_b (congrArg (!·) h22) (ob_b h25 (ob_c (ht.law09_known _ h26) (ob_b h25 ob))))))))))))))))))))))))))))))))))))))))))))) (by kernel_rfl)
                    · rw [if_neg h25] at h
                      replace h25 := Bool.eq_false_iff.2 h25
                      rw [← Option.some.inj h]
                      exact path (ob_c (ht.law09_one _ _ _ h1) (ob_c (ht.pred_Test _ _ _ h2) (ob_c (ht.law09_one _ _ _ h3) (ob_c (ht.pred_Test _ _ _ h4) (ob_c (ht.law09_one _ _ _ h5) (ob_c (ht.pred_Test _ _ _ h6) (ob_c (ht.law09_one _ _ _ h7) (ob_c (ht.pred_Test _ _ _ h8) (ob_c (ht.law09_one _ _ _ h9) (ob_c (ht.pred_Test _ _ _ h10) (ob_c (ht.pred_Test _ _ _ h11) (ob_c (ht.pred_Test _ _ _ h12) (ob_c (ht.pred_Test _ _ _ h13) (ob_b h14 (ob_b (congrArg (!·) h15) (ob_b (congrArg (!·) h15) (ob_b (congrArg (!·) h15) (ob_b (congrArg (!·) h16) (ob_b (congrArg (!·) h16) (ob_b (congrArg (!·) h16) (ob_b (congrArg (!·) h17) (ob_b (congrArg (!·) h17) (ob_b (congrArg (!·) h17) (ob_b (congrArg (!·) h18) (ob_b (congrArg (!·) h18) (ob_b (congrArg (!·) h18) (ob_b (congrArg (!·) h19) (ob_b (congrArg (!·) h19) (ob_b (congrArg (!·) h19) (ob_b (congrArg (!·) h20) (ob_b (congrArg (!·) h20) (ob_b (congrArg (!·) h20) (ob_b (congrArg (!·) h21) (ob_b (congrArg (!·) h21) (ob_b (congrArg (!·) h21) (ob_b (congrArg (!·) h22) (ob_b (congrArg (!·) h22) (ob_c (ht.law09_one _ _ _ h23) (ob_b (congrArg (!·) h22) (ob_b (congrArg (!·) h22) (ob_c (ht.pred_Test _ _ _ h24) (ob_b (congrArg (!·) h22) (ob_b h25 (ob_b h25 ob)))))))))))))))))))))))))))))))))))))))))))) (by kernel_rfl)
  · rw [if_neg h14] at h
    replace h14 := Bool.eq_false_iff.2 h14
    by_cases h27 : a19 = true
    · rw [if_pos h27] at h
      obtain ⟨a44, rfl⟩ : ∃ z_, z_ = r := ⟨_, rfl⟩
      have h28 := h
      exact path (ob_c (ht.law09_one _ _ _ h1) (ob_c (ht.pred_Test _ _ _ h2) (ob_c (ht.law09_one _ _ _ h3) (ob_c (ht.pred_Test _ _ _ h4) (ob_c (ht.law09_one _ _ _ h5) (ob_c (ht.pred_Test _ _ _ h6) (ob_c (ht.law09_one _ _ _ h7) (ob_c (ht.pred_Test _ _ _ h8) (ob_c (ht.law09_one _ _ _ h9) (ob_c (ht.pred_Test _ _ _ h10) (ob_c (ht.pred_Test _ _ _ h11) (ob_c (ht.pred_Test _ _ _ h12) (ob_c (ht.pred_Test _ _ _ h13) (ob_b h14 (ob_b h27 (ob_j (law09_PredOrder_j2.ok ht n _ _ _ _ _ _ _ _ _ _ _ _ _ _ _ _ _ _ _ _ h28) ob)))))))))))))))) (by kernel_rfl)
    · rw [if_neg h27] at h
      replace h27 := Bool.eq_false_iff.2 h27
      obtain ⟨a45, rfl⟩ : ∃ z_, z_ = r := ⟨_, rfl⟩
      have h29 := h
      exact path (ob_c (ht.law09_one _ _ _ h1) (ob_c (ht.pred_Test _ _ _ h2) (ob_c (ht.law09_one _ _ _ h3) (ob_c (ht.pred_Test _ _ _ h4) (ob_c (ht.law09_one _ _ _ h5) (ob_c (ht.pred_Test _ _ _ h6) (ob_c (ht.law09_one _ _ _ h7) (ob_c (ht.pred_Test _ _ _ h8) (ob_c (ht.law09_one _ _ _ h9) (ob_c (ht.pred_Test _ _ _ h10) (ob_c (ht.pred_Test _ _ _ h11) (ob_c (ht.pred_Test _ _ _ h12) (ob_c (ht.pred_Test _ _ _ h13) (ob_b h14 (ob_b h27 (ob_j (law09_PredOrder_j2.ok ht n _ _ _ _ _ _ _ _ _ _ _ _ _ _ _ _ _ _ _ _ h29) ob)))))))))))))))) (by kernel_rfl)
theorem law09_PredOrder.ok {n : Nat} {t : Tab} (ht : TabOk t (run Try.prog own kp X n)) : ∀ (p1 : GValue) (p2 : GValue) (p3 : GValue) r, law09_PredOrder t n p1 p2 p3 = some r → run Try.prog own kp X (n + 1) 6 [(.t (GValue.t p1)), (.t (GValue.t p2)), (.t (GValue.t p3))] [] = some ((.t (.v (.bool r))), []) := by
  intro p1 p2 p3 r h
  obtain ⟨a1, a2, a3, a4, a5⟩ := p1
  obtain ⟨a6, a7, a8, a9, a10⟩ := p2
  obtain ⟨a11, a12, a13, a14, a15⟩ := p3
  rw [law09_PredOrder] at h
  rcases h1 : t.law09_much (GPred.mk 0 ([] : List GValue) ([] : List GPred)) ([(GValue.mk a1 a2 a3 a4 a5), (GValue.mk a6 a7 a8 a9 a10), (GValue.mk a11 a12 a13 a14 a15)] : List GValue) with _ | a16
  · rw [h1] at h; cases h
  rw [h1] at h
  dsimp only at h
  by_cases h2 : a16 = true
  · rw [if_pos h2] at h
    obtain ⟨a17, rfl⟩ : ∃ z_, z_ = r := ⟨_, rfl⟩
    have h3 := h
    exact run_path Try.func6 (ob_c (ht.law09_much _ _ _ h1) (ob_b h2 (ob_b h2 (ob_b h2 (ob_b h2 (ob_b (rfl : true = true) (ob_b (rfl : true = true) (ob_b (rfl : true = true) (ob_b (rfl : true = true) (ob_b (rfl : true = true) (ob_c (ht.law09_known _ h3) ob))))))))))) (by kernel_rfl)
  · rw [if_neg h2] at h
    replace h2 := Bool.eq_false_iff.2 h2
    rcases h4 : t.ref02_Check (GValue.mk a1 a2 a3 a4 a5) with _ | a18
    · rw [h4] at h; cases h
    rw [h4] at h
    dsimp only at h
    by_cases h5 : (a18 != 0) = true
    · rw [if_pos h5] at h
      obtain ⟨a19, rfl⟩ : ∃ z_, z_ = r := ⟨_, rfl⟩
      have h6 := h
      exact run_path Try.func6 (ob_c (ht.law09_much _ _ _ h1) (ob_b h2 (ob_b h2 (ob_c (ht.ref02_Check _ _ h4) (ob_b h2 (ob_b h2 (ob_b h5 (ob_b h5 (ob_b h5 (ob_b h5 (ob_b (rfl : true = true) (ob_c (ht.law09_known _ h6) ob)))))))))))) (by kernel_rfl)
    · rw [if_neg h5] at h
      replace h5 := Bool.eq_false_iff.2 h5
      rcases h7 : t.ref02_Check (GValue.mk a11 a12 a13 a14 a15) with _ | a20
      · rw [h7] at h; cases h
      rw [h7] at h
      dsimp only at h
      by_cases h8 : (a20 != 0) = true
      · rw [if_pos h8] at h
        obtain ⟨a21, rfl⟩ : ∃ z_, z_ = r := ⟨_, rfl⟩
        have h9 := h
        exact run_path Try.func6 (ob_c (ht.law09_much _ _ _ h1) (ob_b h2 (ob_b h2 (ob_c (ht.ref02_Check _ _ h4) (ob_b h2 (ob_b h2 (ob_b h5 (ob_b h5 (ob_c (ht.ref02_Check _ _ h7) (ob_b h5 (ob_b h5 (ob_b h8 (ob_c (ht.law09_known _ h9) ob))))))))))))) (by kernel_rfl)
      · rw [if_neg h8] at h
        replace h8 := Bool.eq_false_iff.2 h8
        obtain ⟨a22, rfl⟩ : ∃ z_, z_ = r := ⟨_, rfl⟩
        have h10 := h
        exact run_path Try.func6 (ob_c (ht.law09_much _ _ _ h1) (ob_b h2 (ob_b h2 (ob_c (ht.ref02_Check _ _ h4) (ob_b h2 (ob_b h2 (ob_b h5 (ob_b h5 (ob_c (ht.ref02_Check _ _ h7) (ob_b h5 (ob_b h5 (ob_b h8 (ob_j (law09_PredOrder_j1.ok ht n _ _ _ _ _ _ _ _ _ _ _ _ _ _ _ _ h10) ob))))))))))))) (by kernel_rfl)
theorem law09_PredSets_j3.ok {t : Tab} {call : FuncId → List AV → List AV → Option (AV × List AV)} (ht : TabOk t call) (n : Nat) (a1 : List GValue) (a2 : Bool) (a3 : Bool) (a4 : Int) (a5 : Int) (a6 : Int) (a7 : ByteArray) (a8 : List GValue) (a9 : List GValue) (r : (List GValue) × Bool × Bool × Int × Int × Int × ByteArray × (List GValue) × (List GValue)) (h : law09_PredSets_j3 t n a1 a2 a3 a4 a5 a6 a7 a8 a9 = some r) : exec (env Try.prog 7 Try.f7 call) n (sub [1, 1, 1, 1, 0, 1, 0, 0, 1, 0, 0, 1] (bodyOf Try.f7)) (mkSt 91 91 [(0, (.t (.sl false 5 (GValue.ts a1)))), (3, (.ptr 3 0 [] 0)), (5, (.t (.v (.bool a2)))), (6, (.t (.v (.bool a3)))), (7, (.t (.v (.int .i64 a4))))] [(3, (.t (.st [(.v (.int .i64 a5)), (.v (.int .i64 a6)), (.v (.string a7)), (.sl false 5 (GValue.ts a8)), (.sl false 5 (GValue.ts a9))])))]) = some (law09_PredSets_j3.to r) := by
  rw [law09_PredSets_j3] at h
  by_cases h1 : a3 = true
  · rw [if_pos h1] at h
    by_cases h2 : (decide (0 ≤ (a4 : Int))) = true
    case neg => rw [if_neg h2] at h; cases h
    rw [if_pos h2] at h
    rcases h3 : a1[(a4 : Int).toNat]? with _ | ⟨a10, a11, a12, a13, a14⟩
    · rw [h3] at h; cases h
    rw [h3] at h
    dsimp only at h
    rcases h4 : t.ref02_Check (GValue.mk a10 a11 a12 a13 a14) with _ | a15
    · rw [h4] at h; cases h
    rw [h4] at h
    dsimp only at h
    rw [← Option.some.inj h]
    exact path (ob_b h1 (ob_b h1 (ob_b h1 (ob_n h2 (ob_t (look_ts GValue.ts_map h3) (ob_b h1 (ob_b h1 (ob_c (ht.ref02_Check _ _ h4) (ob_b h1 (ob_b h1 ob)))))))))) (by kernel_rfl)
  · rw [if_neg h1] at h
    replace h1 := Bool.eq_false_iff.2 h1
    rw [← Option.some.inj h]
    exact path (ob_b h1 (ob_b h1 (ob_b h1 (ob_b h1 (ob_b h1 (ob_b h1 (ob_b h1 ob))))))) (by kernel_rfl)
theorem law09_PredSets_l2.okL {t : Tab} {call : FuncId → List AV → List AV → Option (AV × List AV)} (ht : TabOk t call) (n : Nat) : ∀ (k : Nat) (a1 : List GValue) (a2 : Bool) (a3 : Bool) (a4 : Int) (a5 : Int) (a6 : Int) (a7 : ByteArray) (a8 : List GValue) (a9 : List GValue) (r : (List GValue) × Bool × Bool × Int × Bool × Int × Int × ByteArray × (List GValue) × (List GValue)), law09_PredSets_l2 t n k a1 a2 a3 a4 a5 a6 a7 a8 a9 = some r → loopN (exec (env Try.prog 7 Try.f7 call) n (sub [1, 1, 1, 1, 0, 1, 0, 0] (bodyOf Try.f7))) k (mkSt 91 91 [(0, (.t (.sl false 5 (GValue.ts a1)))), (3, (.ptr 3 0 [] 0)), (5, (.t (.v (.bool a2)))), (6, (.t (.v (.bool a3)))), (7, (.t (.v (.int .i64 a4))))] [(3, (.t (.st [(.v (.int .i64 a5)), (.v (.int .i64 a6)), (.v (.string a7)), (.sl false 5 (GValue.ts a8)), (.sl false 5 (GValue.ts a9))])))]) = some (law09_PredSets_l2.to r)
  | 0, a1, a2, a3, a4, a5, a6, a7, a8, a9, r, h => by rw [law09_PredSets_l2] at h; cases h
  | k + 1, a1, a2, a3, a4, a5, a6, a7, a8, a9, r, h => by
    rw [law09_PredSets_l2] at h
    by_cases h1 : (decide (a4 < (a1.length : Int))) = true
    · rw [if_pos h1] at h
      by_cases h2 : a2 = true
      · rw [if_pos h2] at h
        rcases h3 : law09_PredSets_j3 t n  a1 true a3 a4 a5 a6 a7 a8 a9 with _ | q_
        · rw [h3] at h; cases h
        rw [h3] at h
        obtain ⟨a10, a11, a12, a13, a14, a15, a16, a17, a18⟩ := q_
        dsimp only at h
        exact loop_more (path (ob_v (len_ts GValue.ts_map (l := a1)) (ob_b h1 (ob_b h2 (ob_b h2 (ob_b h2 (ob_b h2 (ob_b h2 (ob_b h2 (ob_b h2 (ob_j (law09_PredSets_j3.ok ht n _ _ _ _ _ _ _ _ _ _ h3) ob)))))))))) (by kernel_rfl)) (law09_PredSets_l2.okL ht n k _ _ _ _ _ _ _ _ _ _ h)
      · rw [if_neg h2] at h
        replace h2 := Bool.eq_false_iff.2 h2
        by_cases h4 : (decide (0 ≤ (a4 : Int))) = true
        case neg => rw [if_neg h4] at h; cases h
        rw [if_pos h4] at h
        rcases h5 : a1[(a4 : Int).toNat]? with _ | ⟨a19, a20, a21, a22, a23⟩
        · rw [h5] at h; cases h
        rw [h5] at h
        dsimp only at h
        rcases h6 : t.ref02_Same (GValue.mk a19 a20 a21 a22 a23) (GValue.mk a5 a6 a7 a8 a9) with _ | a24
        · rw [h6] at h; cases h
        rw [h6] at h
        dsimp only at h
        rcases h7 : law09_PredSets_j3 t n  a1 a24 a3 a4 a5 a6 a7 a8 a9 with _ | q_
        · rw [h7] at h; cases h
        rw [h7] at h
        obtain ⟨a25, a26, a27, a28, a29, a30, a31, a32, a33⟩ := q_
        dsimp only at h
        exact loop_more (path (ob_v (len_ts GValue.ts_map (l := a1)) (ob_b h1 (ob_b h2 (ob_b h2 (ob_b h2 (ob_n h4 (ob_t (look_ts GValue.ts_map h5) (ob_b h2 (ob_b h2 (ob_b h2 (ob_c (ht.ref02_Same _ _ _ h6) (ob_b h2 (ob_j (law09_PredSets_j3.ok ht n _ _ _ _ _ _ _ _ _ _ h7) ob))))))))))))) (by kernel_rfl)) (law09_PredSets_l2.okL ht n k _ _ _ _ _ _ _ _ _ _ h)
    · rw [if_neg h1] at h
      replace h1 := Bool.eq_false_iff.2 h1
      rw [← Option.some.inj h]
      exact loop_out (path (ob_v (len_ts GValue.ts_map (l := a1)) (ob_b h1 ob)) (by kernel_rfl)) (fun h => by cases h)
theorem law09_PredSets_l2.ok {t : Tab} {call : FuncId → List AV → List AV → Option (AV × List AV)} (ht : TabOk t call) (n : Nat) (a1 : List GValue) (a2 : Bool) (a3 : Bool) (a4 : Int) (a5 : Int) (a6 : Int) (a7 : ByteArray) (a8 : List GValue) (a9 : List GValue) (r : (List GValue) × Bool × Bool × Int × Bool × Int × Int × ByteArray × (List GValue) × (List GValue)) (h : law09_PredSets_l2 t n n a1 a2 a3 a4 a5 a6 a7 a8 a9 = some r) : exec (env Try.prog 7 Try.f7 call) n (sub [1, 1, 1, 1, 0, 1, 0] (bodyOf Try.f7)) (mkSt 91 91 [(0, (.t (.sl false 5 (GValue.ts a1)))), (3, (.ptr 3 0 [] 0)), (5, (.t (.v (.bool a2)))), (6, (.t (.v (.bool a3)))), (7, (.t (.v (.int .i64 a4))))] [(3, (.t (.st [(.v (.int .i64 a5)), (.v (.int .i64 a6)), (.v (.string a7)), (.sl false 5 (GValue.ts a8)), (.sl false 5 (GValue.ts a9))])))]) = some (law09_PredSets_l2.to r) := by
  have e1 : sub [1, 1, 1, 1, 0, 1, 0] (bodyOf Try.f7) = .loop (sub [1, 1, 1, 1, 0, 1, 0, 0] (bodyOf Try.f7)) := by kernel_rfl
  rw [e1, exec]
  exact law09_PredSets_l2.okL ht n n a1 a2 a3 a4 a5 a6 a7 a8 a9 r h
theorem law09_PredSets_j4.ok {t : Tab} {call : FuncId → List AV → List AV → Option (AV × List AV)} (ht : TabOk t call) (n : Nat) (a1 : List GValue) (a2 : Bool) (a3 : Bool) (a4 : Int) (a5 : Int) (a6 : ByteArray) (a7 : List GValue) (a8 : List GValue) (r : Bool) (h : law09_PredSets_j4 t n a1 a2 a3 a4 a5 a6 a7 a8 = some r) : exec (env Try.prog 7 Try.f7 call) n (sub [1, 1, 1, 1, 1] (bodyOf Try.f7)) (mkSt 91 91 [(0, (.t (.sl false 5 (GValue.ts a1)))), (3, (.ptr 3 0 [] 0)), (5, (.t (.v (.bool a2)))), (6, (.t (.v (.bool a3))))] [(3, (.t (.st [(.v (.int .i64 a4)), (.v (.int .i64 a5)), (.v (.string a6)), (.sl false 5 (GValue.ts a7)), (.sl false 5 (GValue.ts a8))])))]) = some (law09_PredSets_j4.to r) := by
  rw [law09_PredSets_j4] at h
  rcases h1 : t.pred_Test (GPred.mk 10 a1 ([] : List GPred)) (GValue.mk a4 a5 a6 a7 a8) with _ | a9
  · rw [h1] at h; cases h
  rw [h1] at h
  dsimp only at h
  rcases h2 : t.pred_Test (GPred.mk 11 a1 ([] : List GPred)) (GValue.mk a4 a5 a6 a7 a8) with _ | a10
  · rw [h2] at h; cases h
  rw [h2] at h
  dsimp only at h
  by_cases h3 : a3 = true
  · rw [if_pos h3] at h
    by_cases h4 : (a9 == a2) = true
    · rw [if_pos h4] at h
      by_cases h5 : (a10 == (!a2)) = true
      · rw [if_pos h5] at h
        rcases h6 : t.pred_Test (GPred.mk 10 ([] : List GValue) ([] : List GPred)) (GValue.mk a4 a5 a6 a7 a8) with _ | a11
        · rw [h6] at h; cases h
        rw [h6] at h
        dsimp only at h
        by_cases h7 : a11 = true
        · rw [if_pos h7] at h
          rw [← Option.some.inj h]
          exact path (ob_c (ht.pred_Test _ _ _ h1) (ob_c (ht.pred_Test _ _ _ h2) (ob_b (congrArg (!·) h3) (ob_b h4 (ob_b h4 (ob_b h4 (ob_b h4 (ob_b h4 (ob_b h5 (ob_b h5 (ob_b h5 (ob_c (ht.pred_Test _ _ _ h6) (ob_b h5 (ob_b h5 (ob_b (congrArg (!·) h7) (ob_b (congrArg (!·) h7) (ob_b (congrArg (!·) h7) (ob_b (congrArg (!·) h7) (ob_b (rfl : false = false) (ob_b (rfl : false = false) ob)))))))))))))))))))) (by kernel_rfl)
        · rw [if_neg h7] at h
          replace h7 := Bool.eq_false_iff.2 h7
          rcases h8 : t.pred_Test (GPred.mk 11 ([] : List GValue) ([] : List GPred)) (GValue.mk a4 a5 a6 a7 a8) with _ | a12
          · rw [h8] at h; cases h
          rw [h8] at h
          dsimp only at h
          by_cases h9 : a12 = true
          · rw [if_pos h9] at h
            obtain ⟨a13, rfl⟩ : ∃ z_, z_ = r := ⟨_, rfl⟩
            have h10 := h
            exact path (ob_c (ht.pred_Test _ _ _ h1) (ob_c (ht.pred_Test _ _ _ h2) (ob_b (congrArg (!·) h3) (ob_b h4 (ob_b h4 (ob_b h4 (ob_b h4 (ob_b h4 (ob_b h5 (ob_b h5 (ob_b h5 (ob_c (ht.pred_Test _ _ _ h6) (ob_b h5 (ob_b h5 (ob_b (congrArg (!·) h7) (ob_b (congrArg (!·) h7) (ob_b (congrArg (!·) h7) (ob_c (ht.pred_Test _ _ _ h8) (ob_b (congrArg (!·) h7) (ob_b h9 (ob_c (ht.law09_known _ h10) (ob_b h9 ob)))))))))))))))))))))) (by kernel_rfl)
          · rw [if_neg h9] at h
            replace h9 := Bool.eq_false_iff.2 h9
            rw [← Option.some.inj h]
            exact path (ob_c (ht.pred_Test _ _ _ h1) (ob_c (ht.pred_Test _ _ _ h2) (ob_b (congrArg (!·) h3) (ob_b h4 (ob_b h4 (ob_b h4 (ob_b h4 (ob_b h4 (ob_b h5 (ob_b h5 (ob_b h5 (ob_c (ht.pred_Test _ _ _ h6) (ob_b h5 (ob_b h5 (ob_b (congrArg (!·) h7) (ob_b (congrArg (!·) h7) (ob_b (congrArg (!·) h7) (ob_c (ht.pred_Test _ _ _ h8) (ob_b (congrArg (!·) h7) (ob_b h9 (ob_b h9 ob))))))))))))))))))))) (by kernel_rfl)
      · rw [if_neg h5] at h
        replace h5 := Bool.eq_false_iff.2 h5
        rw [← Option.some.inj h]
        exact path (ob_c (ht.pred_Test _ _ _ h1) (ob_c (ht.pred_Test _ _ _ h2) (ob_b (congrArg (!·) h3) (ob_b h4 (ob_b h4 (ob_b h4 (ob_b h4 (ob_b h4 (ob_b h5 (ob_b h5 (ob_b h5 (ob_b h5 (ob_b h5 (ob_b (rfl : false = false) (ob_b (rfl : false = false) (ob_b (rfl : false = false) (ob_b (rfl : false = false) (ob_b (rfl : false = false) (ob_b (rfl : false = false) ob))))))))))))))))))) (by kernel_rfl)
    · rw [if_neg h4] at h
      replace h4 := Bool.eq_false_iff.2 h4
      rw [← Option.some.inj h]
      exact path (ob_c (ht.pred_Test _ _ _ h1) (ob_c (ht.pred_Test _ _ _ h2) (ob_b (congrArg (!·) h3) (ob_b h4 (ob_b h4 (ob_b h4 (ob_b h4 (ob_b h4 (ob_b (rfl : false = false) (ob_b (rfl : false = false) (ob_b (rfl : false = false) (ob_b (rfl : false = false) (ob_b (rfl : false = false) (ob_b (rfl : false = false) (ob_b (rfl : false = false) (ob_b (rfl : false = false) (ob_b (rfl : false = false) (ob_b (rfl : false = false) (ob_b (rfl : false = false) ob))))))))))))))))))) (by kernel_rfl)
  · rw [if_neg h3] at h
    replace h3 := Bool.eq_false_iff.2 h3
    by_cases h11 : a9 = true
    · rw [if_pos h11] at h
      rw [← Option.some.inj h]
      exact path (ob_c (ht.pred_Test _ _ _ h1) (ob_c (ht.pred_Test _ _ _ h2) (ob_b (congrArg (!·) h3) (ob_b (congrArg (!·) h11) (ob_b (congrArg (!·) h11) (ob_b (congrArg (!·) h11) (ob_b (rfl : false = false) (ob_b (rfl : false = false) ob)))))))) (by kernel_rfl)
    · rw [if_neg h11] at h
      replace h11 := Bool.eq_false_iff.2 h11
      by_cases h12 : a10 = true
      · rw [if_pos h12] at h
        rw [← Option.some.inj h]
        exact path (ob_c (ht.pred_Test _ _ _ h1) (ob_c (ht.pred_Test _ _ _ h2) (ob_b (congrArg (!·) h3) (ob_b (congrArg (!·) h11) (ob_b (congrArg (!·) h11) (ob_b (congrArg (!·) h11) (ob_b (congrArg (!·) h12) (ob_b (congrArg (!·) h12) ob)))))))) (by kernel_rfl)
      · rw [if_neg h12] at h
        replace h12 := Bool.eq_false_iff.2 h12
        obtain ⟨a14, rfl⟩ : ∃ z_, z_ = r := ⟨_, rfl⟩
        have h13 := h
        exact path (ob_c (ht.pred_Test _ _ _ h1) (ob_c (ht.pred_Test _ _ _ h2) (ob_b (congrArg (!·) h3) (ob_b (congrArg (!·) h11) (ob_b (congrArg (!·) h11) (ob_b (congrArg (!·) h11) (ob_b (congrArg (!·) h12) (ob_c (ht.law09_known _ h13) (ob_b (congrArg (!·) h12) ob))))))))) (by kernel_rfl)
theorem law09_PredSets_j1.ok {t : Tab} {call : FuncId → List AV → List AV → Option (AV × List AV)} (ht : TabOk t call) (n : Nat) (a1 : List GValue) (a2 : Int) (a3 : Int) (a4 : ByteArray) (a5 : List GValue) (a6 : List GValue) (r : Bool) (h : law09_PredSets_j1 t n a1 a2 a3 a4 a5 a6 = some r) : exec (env Try.prog 7 Try.f7 call) n (sub [1, 1] (bodyOf Try.f7)) (mkSt 91 91 [(0, (.t (.sl false 5 (GValue.ts a1)))), (3, (.ptr 3 0 [] 0))] [(3, (.t (.st [(.v (.int .i64 a2)), (.v (.int .i64 a3)), (.v (.string a4)), (.sl false 5 (GValue.ts a5)), (.sl false 5 (GValue.ts a6))])))]) = some (law09_PredSets_j1.to r) := by
  rw [law09_PredSets_j1] at h
  rcases h1 : law09_PredSets_l2 t n n a1 false true 0 a2 a3 a4 a5 a6 with _ | q_
  · rw [h1] at h; cases h
  rw [h1] at h
  obtain ⟨a7, a8, a9, a10, a11, a12, a13, a14, a15, a16⟩ := q_
  dsimp only at h
  obtain ⟨a17, rfl⟩ : ∃ z_, z_ = r := ⟨_, rfl⟩
  have h2 := h
  exact path (ob_k (law09_PredSets_l2.ok ht n _ _ _ _ _ _ _ _ _ _ h1) (ob_j (law09_PredSets_j4.ok ht n _ _ _ _ _ _ _ _ _ h2) ob)) (by kernel_rfl)
theorem law09_PredSets.ok {n : Nat} {t : Tab} (ht : TabOk t (run Try.prog own kp X n)) : ∀ (p1 : List GValue) (p2 : GValue) r, law09_PredSets t n p1 p2 = some r → run Try.prog own kp X (n + 1) 7 [(.t (.sl false 5 (GValue.ts p1))), (.t (GValue.t p2))] [] = some ((.t (.v (.bool r))), []) := by
  intro p1 p2 r h
  obtain ⟨a1, rfl⟩ : ∃ z_, z_ = p1 := ⟨_, rfl⟩
  obtain ⟨a2, a3, a4, a5, a6⟩ := p2
  rw [law09_PredSets] at h
  rcases h1 : t.ref02_Many a1 300 with _ | a7
  · rw [h1] at h; cases h
  rw [h1] at h
  dsimp only at h
  by_cases h2 : (decide (a7 ≥ 300)) = true
  · rw [if_pos h2] at h
    obtain ⟨a8, rfl⟩ : ∃ z_, z_ = r := ⟨_, rfl⟩
    have h3 := h
    exact run_path Try.func7 (ob_c (ht.ref02_Many _ _ _ h1) (ob_b h2 (ob_b h2 (ob_b h2 (ob_b h2 (ob_b h2 (ob_b (rfl : true = true) (ob_b (rfl : true = true) (ob_b (rfl : true = true) (ob_b (rfl : true = true) (ob_b (rfl : true = true) (ob_c (ht.law09_known _ h3) ob)))))))))))) (by kernel_rfl)
  · rw [if_neg h2] at h
    replace h2 := Bool.eq_false_iff.2 h2
    rcases h4 : t.law09_much (GPred.mk 0 ([] : List GValue) ([] : List GPred)) ([(GValue.mk a2 a3 a4 a5 a6)] : List GValue) with _ | a9
    · rw [h4] at h; cases h
    rw [h4] at h
    dsimp only at h
    by_cases h5 : a9 = true
    · rw [if_pos h5] at h
      obtain ⟨a10, rfl⟩ : ∃ z_, z_ = r := ⟨_, rfl⟩
      have h6 := h
      exact run_path Try.func7 (ob_c (ht.ref02_Many _ _ _ h1) (ob_b h2 (ob_b h2 (ob_b h2 (ob_b h2 (ob_c (ht.law09_much _ _ _ h4) (ob_b h2 (ob_b h5 (ob_b h5 (ob_b h5 (ob_b h5 (ob_b (rfl : true = true) (ob_c (ht.law09_known _ h6) ob))))))))))))) (by kernel_rfl)
    · rw [if_neg h5] at h
      replace h5 := Bool.eq_false_iff.2 h5
      by_cases h7 : (decide ((a1.length : Int) > 60)) = true
      · rw [if_pos h7] at h
        obtain ⟨a11, rfl⟩ : ∃ z_, z_ = r := ⟨_, rfl⟩
        have h8 := h
        exact run_path Try.func7 (ob_c (ht.ref02_Many _ _ _ h1) (ob_b h2 (ob_b h2 (ob_b h2 (ob_b h2 (ob_c (ht.law09_much _ _ _ h4) (ob_b h2 (ob_b h5 (ob_b h5 (ob_v (len_ts GValue.ts_map (l := a1)) (ob_b h5 (ob_b h5 (ob_b h7 (ob_c (ht.law09_known _ h8) ob)))))))))))))) (by kernel_rfl)
      · rw [if_neg h7] at h
        replace h7 := Bool.eq_false_iff.2 h7
        obtain ⟨a12, rfl⟩ : ∃ z_, z_ = r := ⟨_, rfl⟩
        have h9 := h
        exact run_path Try.func7 (ob_c (ht.ref02_Many _ _ _ h1) (ob_b h2 (ob_b h2 (ob_b h2 (ob_b h2 (ob_c (ht.law09_much _ _ _ h4) (ob_b h2 (ob_b h5 (ob_b h5 (ob_v (len_ts GValue.ts_map (l := a1)) (ob_b h5 (ob_b h5 (ob_b h7 (ob_j (law09_PredSets_j1.ok ht n _ _ _ _ _ _ _ h9) ob)))))))))))))) (by kernel_rfl)
theorem law09_PredJoins_j2.ok {t : Tab} {call : FuncId → List AV → List AV → Option (AV × List AV)} (ht : TabOk t call) (n : Nat) (a1 : List GPred) (a2 : Int) (a3 : Int) (a4 : Int) (a5 : Int) (a6 : ByteArray) (a7 : List GValue) (a8 : List GValue) (r : (List GPred) × Int × Int × Int × Int × ByteArray × (List GValue) × (List GValue)) (h : law09_PredJoins_j2 t n a1 a2 a3 a4 a5 a6 a7 a8 = some r) : exec (env Try.prog 8 Try.f8 call) n (sub [1, 1, 0, 1, 0, 0, 1] (bodyOf Try.f8)) (mkSt 151 151 [(0, (.t (.sl false 3 (GPred.ts a1)))), (3, (.ptr 3 0 [] 0)), (5, (.t (.v (.int .i64 a2)))), (6, (.t (.v (.int .i64 a3))))] [(3, (.t (.st [(.v (.int .i64 a4)), (.v (.int .i64 a5)), (.v (.string a6)), (.sl false 5 (GValue.ts a7)), (.sl false 5 (GValue.ts a8))])))]) = some (law09_PredJoins_j2.to r) := by
  rw [law09_PredJoins_j2] at h
  by_cases h1 : (decide (0 ≤ (a3 : Int))) = true
  case neg => rw [if_neg h1] at h; cases h
  rw [if_pos h1] at h
  rcases h2 : a1[(a3 : Int).toNat]? with _ | ⟨a9, a10, a11⟩
  · rw [h2] at h; cases h
  rw [h2] at h
  dsimp only at h
  rcases h3 : t.ref09_Count (GPred.mk a9 a10 a11) 400 with _ | a12
  · rw [h3] at h; cases h
  rw [h3] at h
  dsimp only at h
  rw [← Option.some.inj h]
  exact path (ob_n h1 (ob_t (look_ts GPred.ts_map h2) (ob_c (ht.ref09_Count _ _ _ h3) ob))) (by kernel_rfl)
theorem law09_PredJoins_l1.okL {t : Tab} {call : FuncId → List AV → List AV → Option (AV × List AV)} (ht : TabOk t call) (n : Nat) : ∀ (k : Nat) (a1 : List GPred) (a2 : Int) (a3 : Int) (a4 : Int) (a5 : Int) (a6 : ByteArray) (a7 : List GValue) (a8 : List GValue) (r : (List GPred) × Int × Int × Bool × Int × Int × ByteArray × (List GValue) × (List GValue)), law09_PredJoins_l1 t n k a1 a2 a3 a4 a5 a6 a7 a8 = some r → loopN (exec (env Try.prog 8 Try.f8 call) n (sub [1, 1, 0, 1, 0, 0] (bodyOf Try.f8))) k (mkSt 151 151 [(0, (.t (.sl false 3 (GPred.ts a1)))), (3, (.ptr 3 0 [] 0)), (5, (.t (.v (.int .i64 a2)))), (6, (.t (.v (.int .i64 a3))))] [(3, (.t (.st [(.v (.int .i64 a4)), (.v (.int .i64 a5)), (.v (.string a6)), (.sl false 5 (GValue.ts a7)), (.sl false 5 (GValue.ts a8))])))]) = some (law09_PredJoins_l1.to r)
  | 0, a1, a2, a3, a4, a5, a6, a7, a8, r, h => by rw [law09_PredJoins_l1] at h; cases h
  | k + 1, a1, a2, a3, a4, a5, a6, a7, a8, r, h => by
    rw [law09_PredJoins_l1] at h
    by_cases h1 : (decide (a3 < (a1.length : Int))) = true
    · rw [if_pos h1] at h
      by_cases h2 : (decide (a2 < 400)) = true
      · rw [if_pos h2] at h
        rcases h3 : law09_PredJoins_j2 t n  a1 a2 a3 a4 a5 a6 a7 a8 with _ | q_
        · rw [h3] at h; cases h
        rw [h3] at h
        obtain ⟨a9, a10, a11, a12, a13, a14, a15, a16⟩ := q_
        dsimp only at h
        exact loop_more (path (ob_v (len_ts GPred.ts_map (l := a1)) (ob_b h1 (ob_b h1 (ob_b h1 (ob_b h2 (ob_j (law09_PredJoins_j2.ok ht n _ _ _ _ _ _ _ _ _ h3) ob)))))) (by kernel_rfl)) (law09_PredJoins_l1.okL ht n k _ _ _ _ _ _ _ _ _ h)
      · rw [if_neg h2] at h
        replace h2 := Bool.eq_false_iff.2 h2
        rw [← Option.some.inj h]
        exact loop_out (path (ob_v (len_ts GPred.ts_map (l := a1)) (ob_b h1 (ob_b h1 (ob_b h1 (ob_b h2 ob))))) (by kernel_rfl)) (fun h => by cases h)
    · rw [if_neg h1] at h
      replace h1 := Bool.eq_false_iff.2 h1
      rw [← Option.some.inj h]
      exact loop_out (path (ob_v (len_ts GPred.ts_map (l := a1)) (ob_b h1 (ob_b h1 (ob_b h1 (ob_b (rfl : false = false) ob))))) (by kernel_rfl)) (fun h => by cases h)
theorem law09_PredJoins_l1.ok {t : Tab} {call : FuncId → List AV → List AV → Option (AV × List AV)} (ht : TabOk t call) (n : Nat) (a1 : List GPred) (a2 : Int) (a3 : Int) (a4 : Int) (a5 : Int) (a6 : ByteArray) (a7 : List GValue) (a8 : List GValue) (r : (List GPred) × Int × Int × Bool × Int × Int × ByteArray × (List GValue) × (List GValue)) (h : law09_PredJoins_l1 t n n a1 a2 a3 a4 a5 a6 a7 a8 = some r) : exec (env Try.prog 8 Try.f8 call) n (sub [1, 1, 0, 1, 0] (bodyOf Try.f8)) (mkSt 151 151 [(0, (.t (.sl false 3 (GPred.ts a1)))), (3, (.ptr 3 0 [] 0)), (5, (.t (.v (.int .i64 a2)))), (6, (.t (.v (.int .i64 a3))))] [(3, (.t (.st [(.v (.int .i64 a4)), (.v (.int .i64 a5)), (.v (.string a6)), (.sl false 5 (GValue.ts a7)), (.sl false 5 (GValue.ts a8))])))]) = some (law09_PredJoins_l1.to r) := by
  have e1 : sub [1, 1, 0, 1, 0] (bodyOf Try.f8) = .loop (sub [1, 1, 0, 1, 0, 0] (bodyOf Try.f8)) := by kernel_rfl
  rw [e1, exec]
  exact law09_PredJoins_l1.okL ht n n a1 a2 a3 a4 a5 a6 a7 a8 r h
theorem law09_PredJoins_j8.ok {t : Tab} {call : FuncId → List AV → List AV → Option (AV × List AV)} (ht : TabOk t call) (n : Nat) (a1 : List GPred) (a2 : Bool) (a3 : Bool) (a4 : Bool) (a5 : List GPred) (a6 : Int) (a7 : Int) (a8 : Int) (a9 : ByteArray) (a10 : List GValue) (a11 : List GValue) (r : (List GPred) × Bool × Bool × Bool × (List GPred) × Int × Int × Int × ByteArray × (List GValue) × (List GValue)) (h : law09_PredJoins_j8 t n a1 a2 a3 a4 a5 a6 a7 a8 a9 a10 a11 = some r) : exec (env Try.prog 8 Try.f8 call) n (sub [1, 1, 1, 1, 1, 1, 1, 1, 0, 1, 0, 0, 1, 0, 0, 1, 1, 1, 1] (bodyOf Try.f8)) (mkSt 151 151 [(0, (.t (.sl false 3 (GPred.ts a1)))), (3, (.ptr 3 0 [] 0)), (7, (.t (.v (.bool a2)))), (8, (.t (.v (.bool a3)))), (9, (.t (.v (.bool a4)))), (10, (.t (.sl true 3 (GPred.ts a5)))), (11, (.t (.v (.int .i64 a6))))] [(3, (.t (.st [(.v (.int .i64 a7)), (.v (.int .i64 a8)), (.v (.string a9)), (.sl false 5 (GValue.ts a10)), (.sl false 5 (GValue.ts a11))])))]) = some (law09_PredJoins_j8.to r) := by
  rw [law09_PredJoins_j8] at h
  by_cases h1 : (decide (0 ≤ ((IntKind.wrap .i64 ((IntKind.wrap .i64 ((a1.length : Int) - 1)) - a6)) : Int))) = true
  case neg => rw [if_neg h1] at h; cases h
  rw [if_pos h1] at h
  rcases h2 : a1[((IntKind.wrap .i64 ((IntKind.wrap .i64 ((a1.length : Int) - 1)) - a6)) : Int).toNat]? with _ | ⟨a12, a13, a14⟩
  · rw [h2] at h; cases h
  rw [h2] at h
  dsimp only at h
  by_cases h3 : (a5.length + ([(GPred.mk a12 a13 a14)] : List GPred).length) * 56 ≤ 140737488355328
  case neg => rw [if_neg h3] at h; cases h
  rw [if_pos h3] at h
  rw [← Option.some.inj h]
  exact path (ob_v (len_ts GPred.ts_map (l := a1)) (ob_n h1 (ob_t (look_ts GPred.ts_map h2) (ob_le (room_ts GPred.ts_map h3) (ob_l (app_ts GPred.ts_map (a := a5) (b := ([(GPred.mk a12 a13 a14)] : List GPred))) ob))))) (by kernel_rfl)
theorem law09_PredJoins_j7.ok {t : Tab} {call : FuncId → List AV → List AV → Option (AV × List AV)} (ht : TabOk t call) (n : Nat) (a1 : List GPred) (a2 : Bool) (a3 : Bool) (a4 : Bool) (a5 : List GPred) (a6 : Int) (a7 : Int) (a8 : Int) (a9 : ByteArray) (a10 : List GValue) (a11 : List GValue) (r : (List GPred) × Bool × Bool × Bool × (List GPred) × Int × Int × Int × ByteArray × (List GValue) × (List GValue)) (h : law09_PredJoins_j7 t n a1 a2 a3 a4 a5 a6 a7 a8 a9 a10 a11 = some r) : exec (env Try.prog 8 Try.f8 call) n (sub [1, 1, 1, 1, 1, 1, 1, 1, 0, 1, 0, 0, 1, 0, 0, 1, 1, 1] (bodyOf Try.f8)) (mkSt 151 151 [(0, (.t (.sl false 3 (GPred.ts a1)))), (3, (.ptr 3 0 [] 0)), (7, (.t (.v (.bool a2)))), (8, (.t (.v (.bool a3)))), (9, (.t (.v (.bool a4)))), (10, (.t (.sl true 3 (GPred.ts a5)))), (11, (.t (.v (.int .i64 a6))))] [(3, (.t (.st [(.v (.int .i64 a7)), (.v (.int .i64 a8)), (.v (.string a9)), (.sl false 5 (GValue.ts a10)), (.sl false 5 (GValue.ts a11))])))]) = some (law09_PredJoins_j7.to r) := by
  rw [law09_PredJoins_j7] at h
  by_cases h1 : a4 = true
  · rw [if_pos h1] at h
    by_cases h2 : (decide (0 ≤ (a6 : Int))) = true
    case neg => rw [if_neg h2] at h; cases h
    rw [if_pos h2] at h
    rcases h3 : a1[(a6 : Int).toNat]? with _ | ⟨a12, a13, a14⟩
    · rw [h3] at h; cases h
    rw [h3] at h
    dsimp only at h
    rcases h4 : t.ref09_Check (GPred.mk 12 ([] : List GValue) ([(GPred.mk a12 a13 a14)] : List GPred)) with _ | a15
    · rw [h4] at h; cases h
    rw [h4] at h
    dsimp only at h
    obtain ⟨a16, a17, a18, a19, a20, a21, a22, a23, a24, a25, a26⟩ := r
    have h5 := h
    exact path (ob_b h1 (ob_b h1 (ob_b h1 (ob_n h2 (ob_t (look_ts GPred.ts_map h3) (ob_b h1 (ob_b h1 (ob_b h1 (ob_b h1 (ob_c (ht.ref09_Check _ _ h4) (ob_b h1 (ob_b h1 (ob_j (law09_PredJoins_j8.ok ht n _ _ _ _ _ _ _ _ _ _ _ _ h5) ob))))))))))))) (by kernel_rfl)
  · rw [if_neg h1] at h
    replace h1 := Bool.eq_false_iff.2 h1
    obtain ⟨a27, a28, a29, a30, a31, a32, a33, a34, a35, a36, a37⟩ := r
    have h6 := h
    exact path (ob_b h1 (ob_b h1 (ob_b h1 (ob_b h1 (ob_b h1 (ob_b h1 (ob_b h1 (ob_b h1 (ob_b h1 (ob_j (law09_PredJoins_j8.ok ht n _ _ _ _ _ _ _ _ _ _ _ _ h6) ob)))))))))) (by kernel_rfl)
theorem law09_PredJoins_j6.ok {t : Tab} {call : FuncId → List AV → List AV → Option (AV × List AV)} (ht : TabOk t call) (n : Nat) (a1 : List GPred) (a2 : Bool) (a3 : Bool) (a4 : Bool) (a5 : List GPred) (a6 : Int) (a7 : Bool) (a8 : Int) (a9 : Int) (a10 : ByteArray) (a11 : List GValue) (a12 : List GValue) (r : (List GPred) × Bool × Bool × Bool × (List GPred) × Int × Int × Int × ByteArray × (List GValue) × (List GValue)) (h : law09_PredJoins_j6 t n a1 a2 a3 a4 a5 a6 a7 a8 a9 a10 a11 a12 = some r) : exec (env Try.prog 8 Try.f8 call) n (sub [1, 1, 1, 1, 1, 1, 1, 1, 0, 1, 0, 0, 1, 0, 0, 1, 1] (bodyOf Try.f8)) (mkSt 151 151 [(0, (.t (.sl false 3 (GPred.ts a1)))), (3, (.ptr 3 0 [] 0)), (7, (.t (.v (.bool a2)))), (8, (.t (.v (.bool a3)))), (9, (.t (.v (.bool a4)))), (10, (.t (.sl true 3 (GPred.ts a5)))), (11, (.t (.v (.int .i64 a6)))), (12, (.t (.v (.bool a7))))] [(3, (.t (.st [(.v (.int .i64 a8)), (.v (.int .i64 a9)), (.v (.string a10)), (.sl false 5 (GValue.ts a11)), (.sl false 5 (GValue.ts a12))])))]) = some (law09_PredJoins_j6.to r) := by
  rw [law09_PredJoins_j6] at h
  by_cases h1 : a3 = true
  · rw [if_pos h1] at h
    obtain ⟨a13, a14, a15, a16, a17, a18, a19, a20, a21, a22, a23⟩ := r
    have h2 := h
    exact path (ob_b h1 (ob_b h1 (ob_j (law09_PredJoins_j7.ok ht n _ _ _ _ _ _ _ _ _ _ _ _ h2) ob))) (by kernel_rfl)
  · rw [if_neg h1] at h
    replace h1 := Bool.eq_false_iff.2 h1
    obtain ⟨a24, a25, a26, a27, a28, a29, a30, a31, a32, a33, a34⟩ := r
    have h3 := h
    exact path (ob_b h1 (ob_b h1 (ob_j (law09_PredJoins_j7.ok ht n _ _ _ _ _ _ _ _ _ _ _ _ h3) ob))) (by kernel_rfl)
theorem law09_PredJoins_l5.okL {t : Tab} {call : FuncId → List AV → List AV → Option (AV × List AV)} (ht : TabOk t call) (n : Nat) : ∀ (k : Nat) (a1 : List GPred) (a2 : Bool) (a3 : Bool) (a4 : Bool) (a5 : List GPred) (a6 : Int) (a7 : Int) (a8 : Int) (a9 : ByteArray) (a10 : List GValue) (a11 : List GValue) (r : (List GPred) × Bool × Bool × Bool × (List GPred) × Int × Bool × Int × Int × ByteArray × (List GValue) × (List GValue)), law09_PredJoins_l5 t n k a1 a2 a3 a4 a5 a6 a7 a8 a9 a10 a11 = some r → loopN (exec (env Try.prog 8 Try.f8 call) n (sub [1, 1, 1, 1, 1, 1, 1, 1, 0, 1, 0, 0] (bodyOf Try.f8))) k (mkSt 151 151 [(0, (.t (.sl false 3 (GPred.ts a1)))), (3, (.ptr 3 0 [] 0)), (7, (.t (.v (.bool a2)))), (8, (.t (.v (.bool a3)))), (9, (.t (.v (.bool a4)))), (10, (.t (.sl true 3 (GPred.ts a5)))), (11, (.t (.v (.int .i64 a6))))] [(3, (.t (.st [(.v (.int .i64 a7)), (.v (.int .i64 a8)), (.v (.string a9)), (.sl false 5 (GValue.ts a10)), (.sl false 5 (GValue.ts a11))])))]) = some (law09_PredJoins_l5.to r)
  | 0, a1, a2, a3, a4, a5, a6, a7, a8, a9, a10, a11, r, h => by rw [law09_PredJoins_l5] at h; cases h
  | k + 1, a1, a2, a3, a4, a5, a6, a7, a8, a9, a10, a11, r, h => by
    rw [law09_PredJoins_l5] at h
    by_cases h1 : (decide (a6 < (a1.length : Int))) = true
    · rw [if_pos h1] at h
      by_cases h2 : (decide (0 ≤ (a6 : Int))) = true
      case neg => rw [if_neg h2] at h; cases h
      rw [if_pos h2] at h
      rcases h3 : a1[(a6 : Int).toNat]? with _ | ⟨a12, a13, a14⟩
      · rw [h3] at h; cases h
      rw [h3] at h
      dsimp only at h
      rcases h4 : t.pred_Test (GPred.mk a12 a13 a14) (GValue.mk a7 a8 a9 a10 a11) with _ | a15
      · rw [h4] at h; cases h
      rw [h4] at h
      dsimp only at h
      by_cases h5 : a2 = true
      · rw [if_pos h5] at h
        rcases h6 : law09_PredJoins_j6 t n  a1 a15 a3 a4 a5 a6 a15 a7 a8 a9 a10 a11 with _ | q_
        · rw [h6] at h; cases h
        rw [h6] at h
        obtain ⟨a16, a17, a18, a19, a20, a21, a22, a23, a24, a25, a26⟩ := q_
        dsimp only at h
        exact loop_more (path (ob_v (len_ts GPred.ts_map (l := a1)) (ob_b h1 (ob_n h2 (ob_t (look_ts GPred.ts_map h3) (ob_c (ht.pred_Test _ _ _ h4) (ob_b h5 (ob_b h5 (ob_j (law09_PredJoins_j6.ok ht n _ _ _ _ _ _ _ _ _ _ _ _ _ h6) ob)))))))) (by kernel_rfl)) (law09_PredJoins_l5.okL ht n k _ _ _ _ _ _ _ _ _ _ _ _ h)
      · rw [if_neg h5] at h
        replace h5 := Bool.eq_false_iff.2 h5
        rcases h7 : law09_PredJoins_j6 t n  a1 false a3 a4 a5 a6 a15 a7 a8 a9 a10 a11 with _ | q_
        · rw [h7] at h; cases h
        rw [h7] at h
        obtain ⟨a27, a28, a29, a30, a31, a32, a33, a34, a35, a36, a37⟩ := q_
        dsimp only at h
        exact loop_more (path (ob_v (len_ts GPred.ts_map (l := a1)) (ob_b h1 (ob_n h2 (ob_t (look_ts GPred.ts_map h3) (ob_c (ht.pred_Test _ _ _ h4) (ob_b h5 (ob_b h5 (ob_j (law09_PredJoins_j6.ok ht n _ _ _ _ _ _ _ _ _ _ _ _ _ h7) ob)))))))) (by kernel_rfl)) (law09_PredJoins_l5.okL ht n k _ _ _ _ _ _ _ _ _ _ _ _ h)
    · rw [if_neg h1] at h
      replace h1 := Bool.eq_false_iff.2 h1
      rw [← Option.some.inj h]
      exact loop_out (path (ob_v (len_ts GPred.ts_map (l := a1)) (ob_b h1 ob)) (by kernel_rfl)) (fun h => by cases h)
theorem law09_PredJoins_l5.ok {t : Tab} {call : FuncId → List AV → List AV → Option (AV × List AV)} (ht : TabOk t call) (n : Nat) (a1 : List GPred) (a2 : Bool) (a3 : Bool) (a4 : Bool) (a5 : List GPred) (a6 : Int) (a7 : Int) (a8 : Int) (a9 : ByteArray) (a10 : List GValue) (a11 : List GValue) (r : (List GPred) × Bool × Bool × Bool × (List GPred) × Int × Bool × Int × Int × ByteArray × (List GValue) × (List GValue)) (h : law09_PredJoins_l5 t n n a1 a2 a3 a4 a5 a6 a7 a8 a9 a10 a11 = some r) : exec (env Try.prog 8 Try.f8 call) n (sub [1, 1, 1, 1, 1, 1, 1, 1, 0, 1, 0] (bodyOf Try.f8)) (mkSt 151 151 [(0, (.t (.sl false 3 (GPred.ts a1)))), (3, (.ptr 3 0 [] 0)), (7, (.t (.v (.bool a2)))), (8, (.t (.v (.bool a3)))), (9, (.t (.v (.bool a4)))), (10, (.t (.sl true 3 (GPred.ts a5)))), (11, (.t (.v (.int .i64 a6))))] [(3, (.t (.st [(.v (.int .i64 a7)), (.v (.int .i64 a8)), (.v (.string a9)), (.sl false 5 (GValue.ts a10)), (.sl false 5 (GValue.ts a11))])))]) = some (law09_PredJoins_l5.to r) := by
  have e1 : sub [1, 1, 1, 1, 1, 1, 1, 1, 0, 1, 0] (bodyOf Try.f8) = .loop (sub [1, 1, 1, 1, 1, 1, 1, 1, 0, 1, 0, 0] (bodyOf Try.f8)) := by kernel_rfl
  rw [e1, exec]
  exact law09_PredJoins_l5.okL ht n n a1 a2 a3 a4 a5 a6 a7 a8 a9 a10 a11 r h
theorem law09_PredJoins_j9.ok {t : Tab} {call : FuncId → List AV → List AV → Option (AV × List AV)} (ht : TabOk t call) (n : Nat) (a1 : List GPred) (a2 : Bool) (a3 : Bool) (a4 : Bool) (a5 : List GPred) (a6 : Int) (a7 : Int) (a8 : ByteArray) (a9 : List GValue) (a10 : List GValue) (r : Bool) (h : law09_PredJoins_j9 t n a1 a2 a3 a4 a5 a6 a7 a8 a9 a10 = some r) : exec (env Try.prog 8 Try.f8 call) n (sub [1, 1, 1, 1, 1, 1, 1, 1, 1] (bodyOf Try.f8)) (mkSt 151 151 [(0, (.t (.sl false 3 (GPred.ts a1)))), (3, (.ptr 3 0 [] 0)), (7, (.t (.v (.bool a2)))), (8, (.t (.v (.bool a3)))), (9, (.t (.v (.bool a4)))), (10, (.t (.sl true 3 (GPred.ts a5))))] [(3, (.t (.st [(.v (.int .i64 a6)), (.v (.int .i64 a7)), (.v (.string a8)), (.sl false 5 (GValue.ts a9)), (.sl false 5 (GValue.ts a10))])))]) = some (law09_PredJoins_j9.to r) := by
  rw [law09_PredJoins_j9] at h
  rcases h1 : t.pred_Join 13 a1 with _ | ⟨a11, a12, a13⟩
  · rw [h1] at h; cases h
  rw [h1] at h
  dsimp only at h
  rcases h2 : t.pred_Join 14 a1 with _ | ⟨a14, a15, a16⟩
  · rw [h2] at h; cases h
  rw [h2] at h
  dsimp only at h
  rcases h3 : t.pred_Join 13 a5 with _ | ⟨a17, a18, a19⟩
  · rw [h3] at h; cases h
  rw [h3] at h
  dsimp only at h
  rcases h4 : t.pred_Join 14 a5 with _ | ⟨a20, a21, a22⟩
  · rw [h4] at h; cases h
  rw [h4] at h
  dsimp only at h
  by_cases h5 : a4 = true
  · rw [if_pos h5] at h
    by_cases h6 : (a11 == 13) = true
    · rw [if_pos h6] at h
      by_cases h7 : ((a13.length : Int) == (a1.length : Int)) = true
      · rw [if_pos h7] at h
        rcases h8 : t.pred_Test (GPred.mk a11 a12 a13) (GValue.mk a6 a7 a8 a9 a10) with _ | a23
        · rw [h8] at h; cases h
        rw [h8] at h
        dsimp only at h
        by_cases h9 : (a23 == a2) = true
        · rw [if_pos h9] at h
          rcases h10 : t.pred_Test (GPred.mk a14 a15 a16) (GValue.mk a6 a7 a8 a9 a10) with _ | a24
          · rw [h10] at h; cases h
          rw [h10] at h
          dsimp only at h
          by_cases h11 : (a24 == a3) = true
          · rw [if_pos h11] at h
            rcases h12 : t.pred_Test (GPred.mk a17 a18 a19) (GValue.mk a6 a7 a8 a9 a10) with _ | a25
            · rw [h12] at h; cases h
            rw [h12] at h
            dsimp only at h
            by_cases h13 : (a25 == a2) = true
            · rw [if_pos h13] at h
              rcases h14 : t.pred_Test (GPred.mk a20 a21 a22) (GValue.mk a6 a7 a8 a9 a10) with _ | a26
              · rw [h14] at h; cases h
              rw [h14] at h
              dsimp only at h
              by_cases h15 : (a26 == a3) = true
              · rw [if_pos h15] at h
                obtain ⟨a27, rfl⟩ : ∃ z_, z_ = r := ⟨_, rfl⟩
                have h16 := h
                exact path (ob_c (ht.pred_Join _ _ _ h1) (ob_c (ht.pred_Join _ _ _ h2) (ob_c (ht.pred_Join _ _ _ h3) (ob_c (ht.pred_Join _ _ _ h4) (ob_b (congrArg (!·) h5) (ob_b h6 (ob_b h6 (ob_b h6 (ob_v (len_ts GPred.ts_map (l := a13)) (ob_b h6 (ob_b h6 (ob_v (len_ts GPred.ts_map (l := a1)) (ob_b h6 (ob_b h6 (ob_b h7 (ob_b h7 (ob_b h7 (ob_c (ht.pred_Test _ _ _ h8) (ob_b h7 (ob_b h7 (ob_b h7 (ob_b h9 (ob_b h9 (ob_b h9 (ob_c (ht.pred_Test _ _ _ h10) (ob_b h9 (ob_b h9 (ob_b h9 (ob_b h11 (ob_b h11 (ob_b h11 (ob_c (ht.pred_Test _ _ _ h12) (ob_b h11 (ob_b h11 (ob_b h11 (ob_b h13 (ob_b h13 (ob_b h13 (ob_c (ht.pred_Test _ _ _ h14) (ob_b h13 (ob_b h13 (ob_b h13 (ob_b h15 (ob_c (ht.law09_known _ h16) (ob_b h15 ob))))))))))))))))))))))))))))))))))))))))))))) (by kernel_rfl)
              · rw [if_neg h15] at h
                replace h15 := Bool.eq_false_iff.2 h15
                rw [← Option.some.inj h]
                exact path (ob_c (ht.pred_Join _ _ _ h1) (ob_c (ht.pred_Join _ _ _ h2) (ob_c (ht.pred_Join _ _ _ h3) (ob_c (ht.pred_Join _ _ _ h4) (ob_b (congrArg (!·) h5) (ob_b h6 (ob_b h6 (ob_b h6 (ob_v (len_ts GPred.ts_map (l := a13)) (ob_b h6 (ob_b h6 (ob_v (len_ts GPred.ts_map (l := a1)) (ob_b h6 (ob_b h6 (ob_b h7 (ob_b h7 (ob_b h7 (ob_c (ht.pred_Test _ _ _ h8) (ob_b h7 (ob_b h7 (ob_b h7 (ob_b h9 (ob_b h9 (ob_b h9 (ob_c (ht.pred_Test _ _ _ h10) (ob_b h9 (ob_b h9 (ob_b h9 (ob_b h11 (ob_b h11 (ob_b h11 (ob_c (ht.pred_Test _ _ _ h12) (ob_b h11 (ob_b h11 (ob_b h11 (ob_b h13 (ob_b h13 (ob_b h13 (ob_c (ht.pred_Test _ _ _ h14) (ob_b h13 (ob_b h13 (ob_b h13 (ob_b h15 (ob_b h15 ob)))))))))))))))))))))))))))))))))))))))))))) (by kernel_rfl)
            · rw [if_neg h13] at h
              replace h13 := Bool.eq_false_iff.2 h13
              rw [← Option.some.inj h]
              exact path (ob_c (ht.pred_Join _ _ _ h1) (ob_c (ht.pred_Join _ _ _ h2) (ob_c (ht.pred_Join _ _ _ h3) (ob_c (ht.pred_Join _ _ _ h4) (ob_b (congrArg (!·) h5) (ob_b h6 (ob_b h6 (ob_b h6 (ob_v (len_ts GPred.ts_map (l := a13)) (ob_b h6 (ob_b h6 (ob_v (len_ts GPred.ts_map (l := a1)) (ob_b h6 (ob_b h6 (ob_b h7 (ob_b h7 (ob_b h7 (ob_c (ht.pred_Test _ _ _ h8) (ob_b h7 (ob_b h7 (ob_b h7 (ob_b h9 (ob_b h9 (ob_b h9 (ob_c (ht.pred_Test _ _ _ h10) (ob_b h9 (ob_b h9 (ob_b h9 (ob_b h11 (ob_b h11 (ob_b h11 (ob_c (ht.pred_Test _ _ _ h12) (ob_b h11 (ob_b h11 (ob_b h11 (ob_b h13 (ob_b h13 (ob_b h13 (ob_b h13 (ob_b h13 (ob_b h13 (ob_b (rfl : false = false) (ob_b (rfl : false = false) ob))))))))))))))))))))))))))))))))))))))))))) (by kernel_rfl)
          · rw [if_neg h11] at h
            replace h11 := Bool.eq_false_iff.2 h11
            rw [← Option.some.inj h]
            exact path (ob_c (ht.pred_Join _ _ _ h1) (ob_c (ht.pred_Join _ _ _ h2) (ob_c (ht.pred_Join _ _ _ h3) (ob_c (ht.pred_Join _ _ _ h4) (ob_b (congrArg (!·) h5) (ob_b h6 (ob_b h6 (ob_b h6 (ob_v (len_ts GPred.ts_map (l := a13)) (ob_b h6 (ob_b h6 (ob_v (len_ts GPred.ts_map (l := a1)) (ob_b h6 (ob_b h6 (ob_b h7 (ob_b h7 (ob_b h7 (ob_c (ht.pred_Test _ _ _ h8) (ob_b h7 (ob_b h7 (ob_b h7 (ob_b h9 (ob_b h9 (ob_b h9 (ob_c (ht.pred_Test _ _ _ h10) (ob_b h9 (ob_b h9 (ob_b h9 (ob_b h11 (ob_b h11 (ob_b h11 (ob_b h11 (ob_b h11 (ob_b h11 (ob_b (rfl : false = false) (ob_b (rfl : false = false) (ob_b (rfl : false = false) (ob_b (rfl : false = false) (ob_b (rfl : false = false) (ob_b (rfl : false = false) (ob_b (rfl : false = false) (ob_b (rfl : false = false) ob)))))))))))))))))))))))))))))))))))))))))) (by kernel_rfl)
        · rw [if_neg h9] at h
          replace h9 := Bool.eq_false_iff.2 h9
          rw [← Option.some.inj h]
          exact path (ob_c (ht.pred_Join _ _ _ h1) (ob_c (ht.pred_Join _ _ _ h2) (ob_c (ht.pred_Join _ _ _ h3) (ob_c (ht.pred_Join _ _ _ h4) (ob_b (congrArg (!·) h5) (ob_b h6 (ob_b h6 (ob_b h6 (ob_v (len_ts GPred.ts_map (l := a13)) (ob_b h6 (ob_b h6 (ob_v (len_ts GPred.ts_map (l := a1)) (ob_b h6 (ob_b h6 (ob_b h7 (ob_b h7 (ob_b h7 (ob_c (ht.pred_Test _ _ _ h8) (ob_b h7 (ob_b h7 (ob_b h7 (ob_b h9 (ob_b h9 (ob_b h9 (ob_b h9 (ob_b h9 (ob_b h9 (ob_b (rfl : false = false) (ob_b (rfl : false = false) (ob_b (rfl : false = false) (ob_b (rfl : false = false) (ob_b (rfl : false = false) (ob_b (rfl : false = false) (ob_b (rfl : false = false) (ob_b (rfl : false = false) (ob_b (rfl : false = false) (ob_b (rfl : false = false) (ob_b (rfl : false = false) (ob_b (rfl : false = false) (ob_b (rfl : false = false) (ob_b (rfl : false = false) ob))))))))))))))))))))))))))))))))))))))))) (by kernel_rfl)
      · rw [if_neg h7] at h
        replace h7 := Bool.eq_false_iff.2 h7
        rw [← Option.some.inj h]
        exact path (ob_c (ht.pred_Join _ _ _ h1) (ob_c (ht.pred_Join _ _ _ h2) (ob_c (ht.pred_Join _ _ _ h3) (ob_c (ht.pred_Join _ _ _ h4) (ob_b (congrArg (!·) h5) (ob_b h6 (ob_b h6 (ob_b h6 (ob_v (len_ts GPred.ts_map (l := a13)) (ob_b h6 (ob_b h6 (ob_v (len_ts GPred.ts_map (l := a1)) (ob_b h6 (ob_b h6 (ob_b h7 (ob_b h7 (ob_b h7 (ob_b h7 (ob_b h7 (ob_b h7 (ob_b (rfl : false = false) (ob_b (rfl : false = false) (ob_b (rfl : false = false) (ob_b (rfl : false = false) (ob_b (rfl : false = false) (ob_b (rfl : false = false) (ob_b (rfl : false = false) (ob_b (rfl : false = false) (ob_b (rfl : false = false) (ob_b (rfl : false = false) (ob_b (rfl : false = false) (ob_b (rfl : false = false) (ob_b (rfl : false = false) (ob_b (rfl : false = false) (ob_b (rfl : false = false) (ob_b (rfl : false = false) (ob_b (rfl : false = false) (ob_b (rfl : false = false) (ob_b (rfl : false = false) (ob_b (rfl : false = false) ob)))))))))))))))))))))))))))))))))))))))) (by kernel_rfl)
    · rw [if_neg h6] at h
      replace h6 := Bool.eq_false_iff.2 h6
      rw [← Option.some.inj h]
      exact path (ob_c (ht.pred_Join _ _ _ h1) (ob_c (ht.pred_Join _ _ _ h2) (ob_c (ht.pred_Join _ _ _ h3) (ob_c (ht.pred_Join _ _ _ h4) (ob_b (congrArg (!·) h5) (ob_b h6 (ob_b h6 (ob_b h6 (ob_b h6 (ob_b h6 (ob_b h6 (ob_b h6 (ob_b (rfl : false = false) (ob_b (rfl : false = false) (ob_b (rfl : false = false) (ob_b (rfl : false = false) (ob_b (rfl : false = false) (ob_b (rfl : false = false) (ob_b (rfl : false = false) (ob_b (rfl : false = false) (ob_b (rfl : false = false) (ob_b (rfl : false = false) (ob_b (rfl : false = false) (ob_b (rfl : false = false) (ob_b (rfl : false = false) (ob_b (rfl : false = false) (ob_b (rfl : false = false) (ob_b (rfl : false = false) (ob_b (rfl : false = false) (ob_b (rfl : false = false) (ob_b (rfl : false = false) (ob_b (rfl : false = false) (ob_b (rfl : false = false) (ob_b (rfl : false = false) (ob_b (rfl : false = false) (ob_b (rfl : false = false) (ob_b (rfl : false = false) (ob_b (rfl : false = false) ob)))))))))))))))))))))))))))))))))))))) (by kernel_rfl)
  · rw [if_neg h5] at h
    replace h5 := Bool.eq_false_iff.2 h5
    by_cases h17 : (a11 == 0) = true
    · rw [if_pos h17] at h
      by_cases h18 : (a14 == 0) = true
      · rw [if_pos h18] at h
        obtain ⟨a28, rfl⟩ : ∃ z_, z_ = r := ⟨_, rfl⟩
        have h19 := h
        exact path (ob_c (ht.pred_Join _ _ _ h1) (ob_c (ht.pred_Join _ _ _ h2) (ob_c (ht.pred_Join _ _ _ h3) (ob_c (ht.pred_Join _ _ _ h4) (ob_b (congrArg (!·) h5) (ob_b h17 (ob_b h17 (ob_b h17 (ob_b h17 (ob_b h18 (ob_c (ht.law09_known _ h19) (ob_b h18 ob)))))))))))) (by kernel_rfl)
      · rw [if_neg h18] at h
        replace h18 := Bool.eq_false_iff.2 h18
        rw [← Option.some.inj h]
        exact path (ob_c (ht.pred_Join _ _ _ h1) (ob_c (ht.pred_Join _ _ _ h2) (ob_c (ht.pred_Join _ _ _ h3) (ob_c (ht.pred_Join _ _ _ h4) (ob_b (congrArg (!·) h5) (ob_b h17 (ob_b h17 (ob_b h17 (ob_b h17 (ob_b h18 (ob_b h18 ob))))))))))) (by kernel_rfl)
    · rw [if_neg h17] at h
      replace h17 := Bool.eq_false_iff.2 h17
      rw [← Option.some.inj h]
      exact path (ob_c (ht.pred_Join _ _ _ h1) (ob_c (ht.pred_Join _ _ _ h2) (ob_c (ht.pred_Join _ _ _ h3) (ob_c (ht.pred_Join _ _ _ h4) (ob_b (congrArg (!·) h5) (ob_b h17 (ob_b h17 (ob_b h17 (ob_b h17 (ob_b (rfl : false = false) (ob_b (rfl : false = false) ob))))))))))) (by kernel_rfl)
theorem law09_PredJoins_j4.ok {t : Tab} {call : FuncId → List AV → List AV → Option (AV × List AV)} (ht : TabOk t call) (n : Nat) (a1 : List GPred) (a2 : Int) (a3 : Int) (a4 : ByteArray) (a5 : List GValue) (a6 : List GValue) (r : Bool) (h : law09_PredJoins_j4 t n a1 a2 a3 a4 a5 a6 = some r) : exec (env Try.prog 8 Try.f8 call) n (sub [1, 1, 1, 1] (bodyOf Try.f8)) (mkSt 151 151 [(0, (.t (.sl false 3 (GPred.ts a1)))), (3, (.ptr 3 0 [] 0))] [(3, (.t (.st [(.v (.int .i64 a2)), (.v (.int .i64 a3)), (.v (.string a4)), (.sl false 5 (GValue.ts a5)), (.sl false 5 (GValue.ts a6))])))]) = some (law09_PredJoins_j4.to r) := by
  rw [law09_PredJoins_j4] at h
  rcases h1 : law09_PredJoins_l5 t n n a1 true false (decide ((a1.length : Int) ≥ 2)) ([] : List GPred) 0 a2 a3 a4 a5 a6 with _ | q_
  · rw [h1] at h; cases h
  rw [h1] at h
  obtain ⟨a7, a8, a9, a10, a11, a12, a13, a14, a15, a16, a17, a18⟩ := q_
  dsimp only at h
  obtain ⟨a19, rfl⟩ : ∃ z_, z_ = r := ⟨_, rfl⟩
  have h2 := h
  exact path (ob_v (len_ts GPred.ts_map (l := a1)) (ob_k (law09_PredJoins_l5.ok ht n _ _ _ _ _ _ _ _ _ _ _ _ h1) (ob_j (law09_PredJoins_j9.ok ht n _ _ _ _ _ _ _ _ _ _ _ h2) ob))) (by kernel_rfl)
theorem law09_PredJoins_j3.ok {t : Tab} {call : FuncId → List AV → List AV → Option (AV × List AV)} (ht : TabOk t call) (n : Nat) (a1 : List GPred) (a2 : Int) (a3 : Int) (a4 : Int) (a5 : ByteArray) (a6 : List GValue) (a7 : List GValue) (r : Bool) (h : law09_PredJoins_j3 t n a1 a2 a3 a4 a5 a6 a7 = some r) : exec (env Try.prog 8 Try.f8 call) n (sub [1, 1, 1] (bodyOf Try.f8)) (mkSt 151 151 [(0, (.t (.sl false 3 (GPred.ts a1)))), (3, (.ptr 3 0 [] 0)), (5, (.t (.v (.int .i64 a2))))] [(3, (.t (.st [(.v (.int .i64 a3)), (.v (.int .i64 a4)), (.v (.string a5)), (.sl false 5 (GValue.ts a6)), (.sl false 5 (GValue.ts a7))])))]) = some (law09_PredJoins_j3.to r) := by
  rw [law09_PredJoins_j3] at h
  by_cases h1 : (decide (a2 ≥ 400)) = true
  · rw [if_pos h1] at h
    obtain ⟨a8, rfl⟩ : ∃ z_, z_ = r := ⟨_, rfl⟩
    have h2 := h
    exact path (ob_b h1 (ob_b h1 (ob_b h1 (ob_b h1 (ob_b h1 (ob_b (rfl : true = true) (ob_c (ht.law09_known _ h2) ob))))))) (by kernel_rfl)
  · rw [if_neg h1] at h
    replace h1 := Bool.eq_false_iff.2 h1
    rcases h3 : t.law09_much (GPred.mk 0 ([] : List GValue) ([] : List GPred)) ([(GValue.mk a3 a4 a5 a6 a7)] : List GValue) with _ | a9
    · rw [h3] at h; cases h
    rw [h3] at h
    dsimp only at h
    by_cases h4 : a9 = true
    · rw [if_pos h4] at h
      obtain ⟨a10, rfl⟩ : ∃ z_, z_ = r := ⟨_, rfl⟩
      have h5 := h
      exact path (ob_b h1 (ob_b h1 (ob_b h1 (ob_b h1 (ob_c (ht.law09_much _ _ _ h3) (ob_b h1 (ob_b h4 (ob_c (ht.law09_known _ h5) ob)))))))) (by kernel_rfl)
    · rw [if_neg h4] at h
      replace h4 := Bool.eq_false_iff.2 h4
      obtain ⟨a11, rfl⟩ : ∃ z_, z_ = r := ⟨_, rfl⟩
      have h6 := h
      exact path (ob_b h1 (ob_b h1 (ob_b h1 (ob_b h1 (ob_c (ht.law09_much _ _ _ h3) (ob_b h1 (ob_b h4 (ob_j (law09_PredJoins_j4.ok ht n _ _ _ _ _ _ _ h6) ob)))))))) (by kernel_rfl)
theorem law09_PredJoins.ok {n : Nat} {t : Tab} (ht : TabOk t (run Try.prog own kp X n)) : ∀ (p1 : List GPred) (p2 : GValue) r, law09_PredJoins t n p1 p2 = some r → run Try.prog own kp X (n + 1) 8 [(.t (.sl false 3 (GPred.ts p1))), (.t (GValue.t p2))] [] = some ((.t (.v (.bool r))), []) := by
  intro p1 p2 r h
  obtain ⟨a1, rfl⟩ : ∃ z_, z_ = p1 := ⟨_, rfl⟩
  obtain ⟨a2, a3, a4, a5, a6⟩ := p2
  rw [law09_PredJoins] at h
  rcases h1 : law09_PredJoins_l1 t n n a1 0 0 a2 a3 a4 a5 a6 with _ | q_
  · rw [h1] at h; cases h
  rw [h1] at h
  obtain ⟨a7, a8, a9, a10, a11, a12, a13, a14, a15⟩ := q_
  dsimp only at h
  obtain ⟨a16, rfl⟩ : ∃ z_, z_ = r := ⟨_, rfl⟩
  have h2 := h
  exact run_path Try.func8 (ob_k (law09_PredJoins_l1.ok ht n _ _ _ _ _ _ _ _ _ h1) (ob_j (law09_PredJoins_j3.ok ht n _ _ _ _ _ _ _ _ h2) ob)) (by kernel_rfl)
theorem law09_PredRanges_j1.ok {t : Tab} {call : FuncId → List AV → List AV → Option (AV × List AV)} (ht : TabOk t call) (n : Nat) (a1 : Int) (a2 : Int) (a3 : ByteArray) (a4 : List GValue) (a5 : List GValue) (a6 : Int) (a7 : Int) (a8 : ByteArray) (a9 : List GValue) (a10 : List GValue) (a11 : Int) (a12 : Int) (a13 : ByteArray) (a14 : List GValue) (a15 : List GValue) (r : Bool) (h : law09_PredRanges_j1 t n a1 a2 a3 a4 a5 a6 a7 a8 a9 a10 a11 a12 a13 a14 a15 = some r) : exec (env Try.prog 9 Try.f9 call) n (sub [1, 1] (bodyOf Try.f9)) (mkSt 104 104 [(3, (.ptr 3 0 [] 0)), (4, (.ptr 4 0 [] 0)), (5, (.ptr 5 0 [] 0))] [(3, (.t (.st [(.v (.int .i64 a1)), (.v (.int .i64 a2)), (.v (.string a3)), (.sl false 5 (GValue.ts a4)), (.sl false 5 (GValue.ts a5))]))), (4, (.t (.st [(.v (.int .i64 a6)), (.v (.int .i64 a7)), (.v (.string a8)), (.sl false 5 (GValue.ts a9)), (.sl false 5 (GValue.ts a10))]))), (5, (.t (.st [(.v (.int .i64 a11)), (.v (.int .i64 a12)), (.v (.string a13)), (.sl false 5 (GValue.ts a14)), (.sl false 5 (GValue.ts a15))])))]) = some (law09_PredRanges_j1.to r) := by
  rw [law09_PredRanges_j1] at h
  rcases h1 : t.pred_Test (GPred.mk 7 ([(GValue.mk a1 a2 a3 a4 a5), (GValue.mk a6 a7 a8 a9 a10)] : List GValue) ([] : List GPred)) (GValue.mk a11 a12 a13 a14 a15) with _ | a16
  · rw [h1] at h; cases h
  rw [h1] at h
  dsimp only at h
  rcases h2 : t.pred_Test (GPred.mk 8 ([(GValue.mk a1 a2 a3 a4 a5), (GValue.mk a6 a7 a8 a9 a10)] : List GValue) ([] : List GPred)) (GValue.mk a11 a12 a13 a14 a15) with _ | a17
  · rw [h2] at h; cases h
  rw [h2] at h
  dsimp only at h
  rcases h3 : t.pred_Test (GPred.mk 9 ([(GValue.mk a1 a2 a3 a4 a5), (GValue.mk a6 a7 a8 a9 a10)] : List GValue) ([] : List GPred)) (GValue.mk a11 a12 a13 a14 a15) with _ | a18
  · rw [h3] at h; cases h
  rw [h3] at h
  dsimp only at h
  by_cases h4 : (a1 != a6) = true
  · rw [if_pos h4] at h
    by_cases h5 : a16 = true
    · rw [if_pos h5] at h
      rw [← Option.some.inj h]
      exact path (ob_c (ht.pred_Test _ _ _ h1) (ob_c (ht.pred_Test _ _ _ h2) (ob_c (ht.pred_Test _ _ _ h3) (ob_b h4 (ob_b (congrArg (!·) h5) (ob_b (congrArg (!·) h5) (ob_b (congrArg (!·) h5) (ob_b (rfl : false = false) (ob_b (rfl : false = false) (ob_b (rfl : false = false) (ob_b (rfl : false = false) (ob_b (rfl : false = false) ob)))))))))))) (by kernel_rfl)
    · rw [if_neg h5] at h
      replace h5 := Bool.eq_false_iff.2 h5
      by_cases h6 : a17 = true
      · rw [if_pos h6] at h
        rw [← Option.some.inj h]
        exact path (ob_c (ht.pred_Test _ _ _ h1) (ob_c (ht.pred_Test _ _ _ h2) (ob_c (ht.pred_Test _ _ _ h3) (ob_b h4 (ob_b (congrArg (!·) h5) (ob_b (congrArg (!·) h5) (ob_b (congrArg (!·) h5) (ob_b (congrArg (!·) h6) (ob_b (congrArg (!·) h6) (ob_b (congrArg (!·) h6) (ob_b (rfl : false = false) (ob_b (rfl : false = false) ob)))))))))))) (by kernel_rfl)
      · rw [if_neg h6] at h
        replace h6 := Bool.eq_false_iff.2 h6
        by_cases h7 : a18 = true
        · rw [if_pos h7] at h
          rw [← Option.some.inj h]
          exact path (ob_c (ht.pred_Test _ _ _ h1) (ob_c (ht.pred_Test _ _ _ h2) (ob_c (ht.pred_Test _ _ _ h3) (ob_b h4 (ob_b (congrArg (!·) h5) (ob_b (congrArg (!·) h5) (ob_b (congrArg (!·) h5) (ob_b (congrArg (!·) h6) (ob_b (congrArg (!·) h6) (ob_b (congrArg (!·) h6) (ob_b (congrArg (!·) h7) (ob_b (congrArg (!·) h7) ob)))))))))))) (by kernel_rfl)
        · rw [if_neg h7] at h
          replace h7 := Bool.eq_false_iff.2 h7
          obtain ⟨a19, rfl⟩ : ∃ z_, z_ = r := ⟨_, rfl⟩
          have h8 := h
          exact path (ob_c (ht.pred_Test _ _ _ h1) (ob_c (ht.pred_Test _ _ _ h2) (ob_c (ht.pred_Test _ _ _ h3) (ob_b h4 (ob_b (congrArg (!·) h5) (ob_b (congrArg (!·) h5) (ob_b (congrArg (!·) h5) (ob_b (congrArg (!·) h6) (ob_b (congrArg (!·) h6) (ob_b (congrArg (!·) h6) (ob_b (congrArg (!·) h7) (ob_c (ht.law09_known _ h8) (ob_b (congrArg (!·) h7) ob))))))))))))) (by kernel_rfl)
  · rw [if_neg h4] at h
    replace h4 := Bool.eq_false_iff.2 h4
    rcases h9 : t.law09_one 6 (GValue.mk a1 a2 a3 a4 a5) with _ | ⟨a20, a21, a22⟩
    · rw [h9] at h; cases h
    rw [h9] at h
    dsimp only at h
    rcases h10 : t.law09_one 3 (GValue.mk a6 a7 a8 a9 a10) with _ | ⟨a23, a24, a25⟩
    · rw [h10] at h; cases h
    rw [h10] at h
    dsimp only at h
    rcases h11 : t.pred_Join 13 ([(GPred.mk a20 a21 a22), (GPred.mk a23 a24 a25)] : List GPred) with _ | ⟨a26, a27, a28⟩
    · rw [h11] at h; cases h
    rw [h11] at h
    dsimp only at h
    rcases h12 : t.pred_Test (GPred.mk a26 a27 a28) (GValue.mk a11 a12 a13 a14 a15) with _ | a29
    · rw [h12] at h; cases h
    rw [h12] at h
    dsimp only at h
    rcases h13 : t.law09_one 5 (GValue.mk a1 a2 a3 a4 a5) with _ | ⟨a30, a31, a32⟩
    · rw [h13] at h; cases h
    rw [h13] at h
    dsimp only at h
    rcases h14 : t.pred_Join 13 ([(GPred.mk a30 a31 a32), (GPred.mk a23 a24 a25)] : List GPred) with _ | ⟨a33, a34, a35⟩
    · rw [h14] at h; cases h
    rw [h14] at h
    dsimp only at h
    rcases h15 : t.pred_Test (GPred.mk a33 a34 a35) (GValue.mk a11 a12 a13 a14 a15) with _ | a36
    · rw [h15] at h; cases h
    rw [h15] at h
    dsimp only at h
    rcases h16 : t.law09_one 3 (GValue.mk a1 a2 a3 a4 a5) with _ | ⟨a37, a38, a39⟩
    · rw [h16] at h; cases h
    rw [h16] at h
    dsimp only at h
    rcases h17 : t.law09_one 5 (GValue.mk a6 a7 a8 a9 a10) with _ | ⟨a40, a41, a42⟩
    · rw [h17] at h; cases h
    rw [h17] at h
    dsimp only at h
    rcases h18 : t.pred_Join 14 ([(GPred.mk a37 a38 a39), (GPred.mk a40 a41 a42)] : List GPred) with _ | ⟨a43, a44, a45⟩
    · rw [h18] at h; cases h
    rw [h18] at h
    dsimp only at h
    rcases h19 : t.pred_Test (GPred.mk a43 a44 a45) (GValue.mk a11 a12 a13 a14 a15) with _ | a46
    · rw [h19] at h; cases h
    rw [h19] at h
    dsimp only at h
    by_cases h20 : (a16 == a29) = true
    · rw [if_pos h20] at h
      by_cases h21 : (a17 == a36) = true
      · rw [if_pos h21] at h
        by_cases h22 : (a18 == a46) = true
        · rw [if_pos h22] at h
          obtain ⟨a47, rfl⟩ : ∃ z_, z_ = r := ⟨_, rfl⟩
          have h23 := h
          exact path (ob_c (ht.pred_Test _ _ _ h1) (ob_c (ht.pred_Test _ _ _ h2) (ob_c (ht.pred_Test _ _ _ h3) (ob_b h4 (ob_c (ht.law09_one _ _ _ h9) (ob_c (ht.law09_one _ _ _ h10) (ob_c (ht.pred_Join _ _ _ h11) (ob_c (ht.pred_Test _ _ _ h12) (ob_c (ht.law09_one _ _ _ h13) (ob_c (ht.law09_one _ _ _ h10) (ob_c (ht.pred_Join _ _ _ h14) (ob_c (ht.pred_Test _ _ _ h15) (ob_c (ht.law09_one _ _ _ h16) (ob_c (ht.law09_one _ _ _ h17) (ob_c (ht.pred_Join _ _ _ h18) (ob_c (ht.pred_Test _ _ _ h19) (ob_b h20 (ob_b h20 (ob_b h20 (ob_b h20 (ob_b h21 (ob_b h21 (ob_b h21 (ob_b h21 (ob_b h22 (ob_c (ht.law09_known _ h23) (ob_b h22 ob))))))))))))))))))))))))))) (by kernel_rfl)
        · rw [if_neg h22] at h
          replace h22 := Bool.eq_false_iff.2 h22
          rw [← Option.some.inj h]
          exact path (ob_c (ht.pred_Test _ _ _ h1) (ob_c (ht.pred_Test _ _ _ h2) (ob_c (ht.pred_Test _ _ _ h3) (ob_b h4 (ob_c (ht.law09_one _ _ _ h9) (ob_c (ht.law09_one _ _ _ h10) (ob_c (ht.pred_Join _ _ _ h11) (ob_c (ht.pred_Test _ _ _ h12) (ob_c (ht.law09_one _ _ _ h13) (ob_c (ht.law09_one _ _ _ h10) (ob_c (ht.pred_Join _ _ _ h14) (ob_c (ht.pred_Test _ _ _ h15) (ob_c (ht.law09_one _ _ _ h16) (ob_c (ht.law09_one _ _ _ h17) (ob_c (ht.pred_Join _ _ _ h18) (ob_c (ht.pred_Test _ _ _ h19) (ob_b h20 (ob_b h20 (ob_b h20 (ob_b h20 (ob_b h21 (ob_b h21 (ob_b h21 (ob_b h21 (ob_b h22 (ob_b h22 ob)))))))))))))))))))))))))) (by kernel_rfl)
      · rw [if_neg h21] at h
        replace h21 := Bool.eq_false_iff.2 h21
        rw [← Option.some.inj h]
        exact path (ob_c (ht.pred_Test _ _ _ h1) (ob_c (ht.pred_Test _ _ _ h2) (ob_c (ht.pred_Test _ _ _ h3) (ob_b h4 (ob_c (ht.law09_one _ _ _ h9) (ob_c (ht.law09_one _ _ _ h10) (ob_c (ht.pred_Join _ _ _ h11) (ob_c (ht.pred_Test _ _ _ h12) (ob_c (ht.law09_one _ _ _ h13) (ob_c (ht.law09_one _ _ _ h10) (ob_c (ht.pred_Join _ _ _ h14) (ob_c (ht.pred_Test _ _ _ h15) (ob_c (ht.law09_one _ _ _ h16) (ob_c (ht.law09_one _ _ _ h17) (ob_c (ht.pred_Join _ _ _ h18) (ob_c (ht.pred_Test _ _ _ h19) (ob_b h20 (ob_b h20 (ob_b h20 (ob_b h20 (ob_b h21 (ob_b h21 (ob_b h21 (ob_b h21 (ob_b (rfl : false = false) (ob_b (rfl : false = false) ob)))))))))))))))))))))))))) (by kernel_rfl)
    · rw [if_neg h20] at h
      replace h20 := Bool.eq_false_iff.2 h20
      rw [← Option.some.inj h]
      exact path (ob_c (ht.pred_Test _ _ _ h1) (ob_c (ht.pred_Test _ _ _ h2) (ob_c (ht.pred_Test _ _ _ h3) (ob_b h4 (ob_c (ht.law09_one _ _ _ h9) (ob_c (ht.law09_one _ _ _ h10) (ob_c (ht.pred_Join _ _ _ h11) (ob_c (ht.pred_Test _ _ _ h12) (ob_c (ht.law09_one _ _ _ h13) (ob_c (ht.law09_one _ _ _ h10) (ob_c (ht.pred_Join _ _ _ h14) (ob_c (ht.pred_Test _ _ _ h15) (ob_c (ht.law09_one _ _ _ h16) (ob_c (ht.law09_one _ _ _ h17) (ob_c (ht.pred_Join _ _ _ h18) (ob_c (ht.pred_Test _ _ _ h19) (ob_b h20 (ob_b h20 (ob_b h20 (ob_b h20 (ob_b (rfl : false = false) (ob_b (rfl : false = false) (ob_b (rfl : false = false) (ob_b (rfl : false = false) (ob_b (rfl : false = false) (ob_b (rfl : false = false) ob)))))))))))))))))))))))))) (by kernel_rfl)
theorem law09_PredRanges.ok {n : Nat} {t : Tab} (ht : TabOk t (run Try.prog own kp X n)) : ∀ (p1 : GValue) (p2 : GValue) (p3 : GValue) r, law09_PredRanges t n p1 p2 p3 = some r → run Try.prog own kp X (n + 1) 9 [(.t (GValue.t p1)), (.t (GValue.t p2)), (.t (GValue.t p3))] [] = some ((.t (.v (.bool r))), []) := by
  intro p1 p2 p3 r h
  obtain ⟨a1, a2, a3, a4, a5⟩ := p1
  obtain ⟨a6, a7, a8, a9, a10⟩ := p2
  obtain ⟨a11, a12, a13, a14, a15⟩ := p3
  rw [law09_PredRanges] at h
  rcases h1 : t.law09_much (GPred.mk 0 ([] : List GValue) ([] : List GPred)) ([(GValue.mk a1 a2 a3 a4 a5), (GValue.mk a6 a7 a8 a9 a10), (GValue.mk a11 a12 a13 a14 a15)] : List GValue) with _ | a16
  · rw [h1] at h; cases h
  rw [h1] at h
  dsimp only at h
  by_cases h2 : a16 = true
  · rw [if_pos h2] at h
    obtain ⟨a17, rfl⟩ : ∃ z_, z_ = r := ⟨_, rfl⟩
    have h3 := h
    exact run_path Try.func9 (ob_c (ht.law09_much _ _ _ h1) (ob_b h2 (ob_b h2 (ob_b h2 (ob_b h2 (ob_b (rfl : true = true) (ob_b (rfl : true = true) (ob_b (rfl : true = true) (ob_b (rfl : true = true) (ob_b (rfl : true = true) (ob_c (ht.law09_known _ h3) ob))))))))))) (by kernel_rfl)
  · rw [if_neg h2] at h
    replace h2 := Bool.eq_false_iff.2 h2
    rcases h4 : t.ref02_Check (GValue.mk a1 a2 a3 a4 a5) with _ | a18
    · rw [h4] at h; cases h
    rw [h4] at h
    dsimp only at h
    by_cases h5 : (a18 != 0) = true
    · rw [if_pos h5] at h
      obtain ⟨a19, rfl⟩ : ∃ z_, z_ = r := ⟨_, rfl⟩
      have h6 := h
      exact run_path Try.func9 (ob_c (ht.law09_much _ _ _ h1) (ob_b h2 (ob_b h2 (ob_c (ht.ref02_Check _ _ h4) (ob_b h2 (ob_b h2 (ob_b h5 (ob_b h5 (ob_b h5 (ob_b h5 (ob_b (rfl : true = true) (ob_c (ht.law09_known _ h6) ob)))))))))))) (by kernel_rfl)
    · rw [if_neg h5] at h
      replace h5 := Bool.eq_false_iff.2 h5
      rcases h7 : t.ref02_Check (GValue.mk a6 a7 a8 a9 a10) with _ | a20
      · rw [h7] at h; cases h
      rw [h7] at h
      dsimp only at h
      by_cases h8 : (a20 != 0) = true
      · rw [if_pos h8] at h
        obtain ⟨a21, rfl⟩ : ∃ z_, z_ = r := ⟨_, rfl⟩
        have h9 := h
        exact run_path Try.func9 (ob_c (ht.law09_much _ _ _ h1) (ob_b h2 (ob_b h2 (ob_c (ht.ref02_Check _ _ h4) (ob_b h2 (ob_b h2 (ob_b h5 (ob_b h5 (ob_c (ht.ref02_Check _ _ h7) (ob_b h5 (ob_b h5 (ob_b h8 (ob_c (ht.law09_known _ h9) ob))))))))))))) (by kernel_rfl)
      · rw [if_neg h8] at h
        replace h8 := Bool.eq_false_iff.2 h8
        obtain ⟨a22, rfl⟩ : ∃ z_, z_ = r := ⟨_, rfl⟩
        have h10 := h
        exact run_path Try.func9 (ob_c (ht.law09_much _ _ _ h1) (ob_b h2 (ob_b h2 (ob_c (ht.ref02_Check _ _ h4) (ob_b h2 (ob_b h2 (ob_b h5 (ob_b h5 (ob_c (ht.ref02_Check _ _ h7) (ob_b h5 (ob_b h5 (ob_b h8 (ob_j (law09_PredRanges_j1.ok ht n _ _ _ _ _ _ _ _ _ _ _ _ _ _ _ _ h10) ob))))))))))))) (by kernel_rfl)
theorem law09_much.ok {n : Nat} {t : Tab} (ht : TabOk t (run Try.prog own kp X n)) : ∀ (p1 : GPred) (p2 : List GValue) r, law09_much t n p1 p2 = some r → run Try.prog own kp X (n + 1) 10 [(.t (GPred.t p1)), (.t (.sl false 5 (GValue.ts p2)))] [] = some ((.t (.v (.bool r))), []) := by
  intro p1 p2 r h
  obtain ⟨a1, a2, a3⟩ := p1
  obtain ⟨a4, rfl⟩ : ∃ z_, z_ = p2 := ⟨_, rfl⟩
  rw [law09_much] at h
  rcases h1 : t.ref09_Count (GPred.mk a1 a2 a3) 400 with _ | a5
  · rw [h1] at h; cases h
  rw [h1] at h
  dsimp only at h
  by_cases h2 : (decide (a5 ≥ 400)) = true
  · rw [if_pos h2] at h
    rw [← Option.some.inj h]
    exact run_path Try.func10 (ob_c (ht.ref09_Count _ _ _ h1) (ob_b h2 (ob_b h2 (ob_b h2 (ob_b h2 ob))))) (by kernel_rfl)
  · rw [if_neg h2] at h
    replace h2 := Bool.eq_false_iff.2 h2
    rcases h3 : t.ref02_Many a4 300 with _ | a6
    · rw [h3] at h; cases h
    rw [h3] at h
    dsimp only at h
    rw [← Option.some.inj h]
    exact run_path Try.func10 (ob_c (ht.ref09_Count _ _ _ h1) (ob_b h2 (ob_b h2 (ob_c (ht.ref02_Many _ _ _ h3) (ob_b h2 (ob_b h2 ob)))))) (by kernel_rfl)
end Go.Proofs.Ytcgckbjdadmcmaa.W
