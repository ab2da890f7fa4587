/- The proofs of it, part 0. -/
import Derived.Test.YtgkfjhfehdefaaaDoorP6C
namespace Go.Proofs.YtgkfjhfehdefaaaDoor.W
open Go.Proofs.YtgkfjhfehdefaaaDoor.Flat
set_option linter.unusedVariables false
set_option linter.unusedSimpArgs false
variable {t : Tab} {call : FuncId → List AV → List AV → Option (AV × List AV)}
theorem law12_PlanBy_j2.ok (ht : TabOk t call) (n : Nat) (a1 : List GStep) (a2 : Int) (a3 a4 : List GStep) (r : _) (h : law12_PlanBy_j2 t n a1 a2 a3 a4 = some r) : exec (env Tryd.prog 6 Tryd.f6 call) n (sub [1, 1, 1, 1, 1, 1, 1] (bodyOf Tryd.f6)) (mkSt 95 95 [(0, (.t (.sl false 14 (GStep.ts a1)))), (2, (.t (.v (.int .i64 a2)))), (8, (.t (.sl false 14 (GStep.ts a3)))), (9, (.t (.sl false 14 (GStep.ts a4))))] []) = some (law12_PlanBy_j2.to r) := by
  rw [law12_PlanBy_j2] at h
  rcases h1 : t.plan_Steps a3 with _ | a5
  · rw [h1] at h; cases h
  rw [h1] at h
  dsimp only at h
  rcases h2 : t.plan_Steps a1 with _ | a6
  · rw [h2] at h; cases h
  rw [h2] at h
  dsimp only at h
  by_cases h3 : (a5 == (IntKind.wrap .i64 (a6 + 1))) = true
  · rw [if_pos h3] at h
    rcases h4 : t.plan_Uses a3 ([a2] : List Int) with _ | a7
    · rw [h4] at h; cases h
    rw [h4] at h
    dsimp only at h
    rcases h5 : t.plan_Uses a1 ([a2] : List Int) with _ | a8
    · rw [h5] at h; cases h
    rw [h5] at h
    dsimp only at h
    by_cases h6 : a8 = true
    · rw [if_pos h6] at h
      by_cases h7 : (a7 == true) = true
      · rw [if_pos h7] at h
        rcases h8 : t.plan_Free a4 with _ | a9
        · rw [h8] at h; cases h
        rw [h8] at h
        dsimp only at h
        rcases h9 : t.plan_Free a1 with _ | a10
        · rw [h9] at h; cases h
        rw [h9] at h
        dsimp only at h
        by_cases h10 : (a9 == a10) = true
        · rw [if_pos h10] at h
          rcases h11 : t.plan_Same a3 a3 with _ | a11
          · rw [h11] at h; cases h
          rw [h11] at h
          dsimp only at h
          by_cases h12 : a11 = true
          · rw [if_pos h12] at h
            rcases h13 : t.plan_Same a3 a4 with _ | a12
            · rw [h13] at h; cases h
            rw [h13] at h
            dsimp only at h
            by_cases h14 : a12 = true
            · rw [if_pos h14] at h
              rw [← Option.some.inj h]
              exact path (ob_c (ht.plan_Steps _ _ h1) (ob_c (ht.plan_Steps _ _ h2) (ob_b h3 (ob_b h3 (ob_b h3 (ob_b h3 (ob_c (ht.plan_Uses _ _ _ h4) (ob_b h3 (ob_b h3 (ob_b h3 (ob_b h3 (ob_c (ht.plan_Uses _ _ _ h5) (ob_b h3 (ob_b h6 (ob_b h6 (ob_b h3 (ob_b h6 (ob_b h3 (ob_b h3 (ob_b h7 (ob_b h7 (ob_c (ht.plan_Free _ _ h8) (ob_b h7 (ob_b h7 (ob_c (ht.plan_Free _ _ h9) (ob_b h7 (ob_b h7 (ob_b h10 (ob_b h10 (ob_b h10 (ob_c (ht.plan_Same _ _ _ h11) (ob_b h10 (ob_b h12 (ob_b h12 (ob_b h12 (ob_c (ht.plan_Same _ _ _ h13) (ob_b h12 (ob_b h12 (ob_b (congrArg (!·) h14) (ob_b (congrArg (!·) h14) ob)))))))))))))))))))))))))))))))))))))))) (by kernel_rfl)
            · rw [if_neg h14] at h
              replace h14 := Bool.eq_false_iff.2 h14
              obtain ⟨a13, rfl⟩ : ∃ z_, z_ = r := ⟨_, rfl⟩
              have h15 := h
              exact path (ob_c (ht.plan_Steps _ _ h1) (ob_c (ht.plan_Steps _ _ h2) (ob_b h3 (ob_b h3 (ob_b h3 (ob_b h3 (ob_c (ht.plan_Uses _ _ _ h4) (ob_b h3 (ob_b h3 (ob_b h3 (ob_b h3 (ob_c (ht.plan_Uses _ _ _ h5) (ob_b h3 (ob_b h6 (ob_b h6 (ob_b h3 (ob_b h6 (ob_b h3 (ob_b h3 (ob_b h7 (ob_b h7 (ob_c (ht.plan_Free _ _ h8) (ob_b h7 (ob_b h7 (ob_c (ht.plan_Free _ _ h9) (ob_b h7 (ob_b h7 (ob_b h10 (ob_b h10 (ob_b h10 (ob_c (ht.plan_Same _ _ _ h11) (ob_b h10 (ob_b h12 (ob_b h12 (ob_b h12 (ob_c (ht.plan_Same _ _ _ h13) (ob_b h12 (ob_b h12 (ob_b (congrArg (!·) h14) (ob_c (ht.law12_known _ h15) (ob_b (congrArg (!·) h14) ob))))))))))))))))))))))))))))))))))))))))) (by kernel_rfl)
          · rw [if_neg h12] at h
            replace h12 := Bool.eq_false_iff.2 h12
            rw [← Option.some.inj h]
            exact path (ob_c (ht.plan_Steps _ _ h1) (ob_c (ht.plan_Steps _ _ h2) (ob_b h3 (ob_b h3 (ob_b h3 (ob_b h3 (ob_c (ht.plan_Uses _ _ _ h4) (ob_b h3 (ob_b h3 (ob_b h3 (ob_b h3 (ob_c (ht.plan_Uses _ _ _ h5) (ob_b h3 (ob_b h6 (ob_b h6 (ob_b h3 (ob_b h6 (ob_b h3 (ob_b h3 (ob_b h7 (ob_b h7 (ob_c (ht.plan_Free _ _ h8) (ob_b h7 (ob_b h7 (ob_c (ht.plan_Free _ _ h9) (ob_b h7 (ob_b h7 (ob_b h10 (ob_b h10 (ob_b h10 (ob_c (ht.plan_Same _ _ _ h11) (ob_b h10 (ob_b h12 (ob_b h12 (ob_b h12 (ob_b h12 (ob_b h12 (ob_b (rfl : false = false) (ob_b (rfl : false = false) ob))))))))))))))))))))))))))))))))))))))) (by kernel_rfl)
        · rw [if_neg h10] at h
          replace h10 := Bool.eq_false_iff.2 h10
          rw [← Option.some.inj h]
          exact path (ob_c (ht.plan_Steps _ _ h1) (ob_c (ht.plan_Steps _ _ h2) (ob_b h3 (ob_b h3 (ob_b h3 (ob_b h3 (ob_c (ht.plan_Uses _ _ _ h4) (ob_b h3 (ob_b h3 (ob_b h3 (ob_b h3 (ob_c (ht.plan_Uses _ _ _ h5) (ob_b h3 (ob_b h6 (ob_b h6 (ob_b h3 (ob_b h6 (ob_b h3 (ob_b h3 (ob_b h7 (ob_b h7 (ob_c (ht.plan_Free _ _ h8) (ob_b h7 (ob_b h7 (ob_c (ht.plan_Free _ _ h9) (ob_b h7 (ob_b h7 (ob_b h10 (ob_b h10 (ob_b h10 (ob_b h10 (ob_b (rfl : false = false) (ob_b (rfl : false = false) (ob_b (rfl : false = false) (ob_b (rfl : false = false) (ob_b (rfl : false = false) (ob_b (rfl : false = false) (ob_b (rfl : false = false) ob)))))))))))))))))))))))))))))))))))))) (by kernel_rfl)
      · rw [if_neg h7] at h
        replace h7 := Bool.eq_false_iff.2 h7
        rw [← Option.some.inj h]
        exact path (ob_c (ht.plan_Steps _ _ h1) (ob_c (ht.plan_Steps _ _ h2) (ob_b h3 (ob_b h3 (ob_b h3 (ob_b h3 (ob_c (ht.plan_Uses _ _ _ h4) (ob_b h3 (ob_b h3 (ob_b h3 (ob_b h3 (ob_c (ht.plan_Uses _ _ _ h5) (ob_b h3 (ob_b h6 (ob_b h6 (ob_b h3 (ob_b h6 (ob_b h3 (ob_b h3 (ob_b h7 (ob_b h7 (ob_b h7 (ob_b h7 (ob_b h7 (ob_b h7 (ob_b (rfl : false = false) (ob_b (rfl : false = false) (ob_b (rfl : false = false) (ob_b (rfl : false = false) (ob_b (rfl : false = false) (ob_b (rfl : false = false) (ob_b (rfl : false = false) (ob_b (rfl : false = false) (ob_b (rfl : false = false) (ob_b (rfl : false = false) (ob_b (rfl : false = false) ob)))))))))))))))))))))))))))))))))))) (by kernel_rfl)
    · rw [if_neg h6] at h
      replace h6 := Bool.eq_false_iff.2 h6
      by_cases h16 : (a7 == (a2 == 40)) = true
      · rw [if_pos h16] at h
        rcases h17 : t.plan_Free a4 with _ | a14
        · rw [h17] at h; cases h
        rw [h17] at h
        dsimp only at h
        rcases h18 : t.plan_Free a1 with _ | a15
        · rw [h18] at h; cases h
        rw [h18] at h
        dsimp only at h
        by_cases h19 : (a14 == a15) = true
        · rw [if_pos h19] at h
          rcases h20 : t.plan_Same a3 a3 with _ | a16
          · rw [h20] at h; cases h
          rw [h20] at h
          dsimp only at h
          by_cases h21 : a16 = true
          · rw [if_pos h21] at h
            rcases h22 : t.plan_Same a3 a4 with _ | a17
            · rw [h22] at h; cases h
            rw [h22] at h
            dsimp only at h
            by_cases h23 : a17 = true
            · rw [if_pos h23] at h
              rw [← Option.some.inj h]
              exact path (ob_c (ht.plan_Steps _ _ h1) (ob_c (ht.plan_Steps _ _ h2) (ob_b h3 (ob_b h3 (ob_b h3 (ob_b h3 (ob_c (ht.plan_Uses _ _ _ h4) (ob_b h3 (ob_b h3 (ob_b h3 (ob_b h3 (ob_c (ht.plan_Uses _ _ _ h5) (ob_b h3 (ob_b h6 (ob_b h6 (ob_b h3 (ob_b h6 (ob_b h3 (ob_b h3 (ob_b h16 (ob_b h16 (ob_c (ht.plan_Free _ _ h17) (ob_b h16 (ob_b h16 (ob_c (ht.plan_Free _ _ h18) (ob_b h16 (ob_b h16 (ob_b h19 (ob_b h19 (ob_b h19 (ob_c (ht.plan_Same _ _ _ h20) (ob_b h19 (ob_b h21 (ob_b h21 (ob_b h21 (ob_c (ht.plan_Same _ _ _ h22) (ob_b h21 (ob_b h21 (ob_b (congrArg (!·) h23) (ob_b (congrArg (!·) h23) ob)))))))))))))))))))))))))))))))))))))))) (by kernel_rfl)
            · rw [if_neg h23] at h
              replace h23 := Bool.eq_false_iff.2 h23
              obtain ⟨a18, rfl⟩ : ∃ z_, z_ = r := ⟨_, rfl⟩
              have h24 := h
              exact path (ob_c (ht.plan_Steps _ _ h1) (ob_c (ht.plan_Steps _ _ h2) (ob_b h3 (ob_b h3 (ob_b h3 (ob_b h3 (ob_c (ht.plan_Uses _ _ _ h4) (ob_b h3 (ob_b h3 (ob_b h3 (ob_b h3 (ob_c (ht.plan_Uses _ _ _ h5) (ob_b h3 (ob_b h6 (ob_b h6 (ob_b h3 (ob_b h6 (ob_b h3 (ob_b h3 (ob_b h16 (ob_b h16 (ob_c (ht.plan_Free _ _ h17) (ob_b h16 (ob_b h16 (ob_c (ht.plan_Free _ _ h18) (ob_b h16 (ob_b h16 (ob_b h19 (ob_b h19 (ob_b h19 (ob_c (ht.plan_Same _ _ _ h20) (ob_b h19 (ob_b h21 (ob_b h21 (ob_b h21 (ob_c (ht.plan_Same _ _ _ h22) (ob_b h21 (ob_b h21 (ob_b (congrArg (!·) h23) (ob_c (ht.law12_known _ h24) (ob_b (congrArg (!·) h23) ob))))))))))))))))))))))))))))))))))))))))) (by kernel_rfl)
          · rw [if_neg h21] at h
            replace h21 := Bool.eq_false_iff.2 h21
            rw [← Option.some.inj h]
            exact path (ob_c (ht.plan_Steps _ _ h1) (ob_c (ht.plan_Steps _ _ h2) (ob_b h3 (ob_b h3 (ob_b h3 (ob_b h3 (ob_c (ht.plan_Uses _ _ _ h4) (ob_b h3 (ob_b h3 (ob_b h3 (ob_b h3 (ob_c (ht.plan_Uses _ _ _ h5) (ob_b h3 (ob_b h6 (ob_b h6 (ob_b h3 (ob_b h6 (ob_b h3 (ob_b h3 (ob_b h16 (ob_b h16 (ob_c (ht.plan_Free _ _ h17) (ob_b h16 (ob_b h16 (ob_c (ht.plan_Free _ _ h18) (ob_b h16 (ob_b h16 (ob_b h19 (ob_b h19 (ob_b h19 (ob_c (ht.plan_Same _ _ _ h20) (ob_b h19 (ob_b h21 (ob_b h21 (ob_b h21 (ob_b h21 (ob_b h21 (ob_b (rfl : false = false) (ob_b (rfl : false = false) ob))))))))))))))))))))))))))))))))))))))) (by kernel_rfl)
        · rw [if_neg h19] at h
          replace h19 := Bool.eq_false_iff.2 h19
          rw [← Option.some.inj h]
          exact path (ob_c (ht.plan_Steps _ _ h1) (ob_c (ht.plan_Steps _ _ h2) (ob_b h3 (ob_b h3 (ob_b h3 (ob_b h3 (ob_c (ht.plan_Uses _ _ _ h4) (ob_b h3 (ob_b h3 (ob_b h3 (ob_b h3 (ob_c (ht.plan_Uses _ _ _ h5) (ob_b h3 (ob_b h6 (ob_b h6 (ob_b h3 (ob_b h6 (ob_b h3 (ob_b h3 (ob_b h16 (ob_b h16 (ob_c (ht.plan_Free _ _ h17) (ob_b h16 (ob_b h16 (ob_c (ht.plan_Free _ _ h18) (ob_b h16 (ob_b h16 (ob_b h19 (ob_b h19 (ob_b h19 (ob_b h19 (ob_b (rfl : false = false) (ob_b (rfl : false = false) (ob_b (rfl : false = false) (ob_b (rfl : false = false) (ob_b (rfl : false = false) (ob_b (rfl : false = false) (ob_b (rfl : false = false) ob)))))))))))))))))))))))))))))))))))))) (by kernel_rfl)
      · rw [if_neg h16] at h
        replace h16 := Bool.eq_false_iff.2 h16
        rw [← Option.some.inj h]
        exact path (ob_c (ht.plan_Steps _ _ h1) (ob_c (ht.plan_Steps _ _ h2) (ob_b h3 (ob_b h3 (ob_b h3 (ob_b h3 (ob_c (ht.plan_Uses _ _ _ h4) (ob_b h3 (ob_b h3 (ob_b h3 (ob_b h3 (ob_c (ht.plan_Uses _ _ _ h5) (ob_b h3 (ob_b h6 (ob_b h6 (ob_b h3 (ob_b h6 (ob_b h3 (ob_b h3 (ob_b h16 (ob_b h16 (ob_b h16 (ob_b h16 (ob_b h16 (ob_b h16 (ob_b (rfl : false = false) (ob_b (rfl : false = false) (ob_b (rfl : false = false) (ob_b (rfl : false = false) (ob_b (rfl : false = false) (ob_b (rfl : false = false) (ob_b (rfl : false = false) (ob_b (rfl : false = false) (ob_b (rfl : false = false) (ob_b (rfl : false = false) (ob_b (rfl : false = false) ob)))))))))))))))))))))))))))))))))))) (by kernel_rfl)
  · rw [if_neg h3] at h
    replace h3 := Bool.eq_false_iff.2 h3
    rw [← Option.some.inj h]
    exact path (ob_c (ht.plan_Steps _ _ h1) (ob_c (ht.plan_Steps _ _ h2) (ob_b h3 (ob_b h3 (ob_b h3 (ob_b h3 (ob_b h3 (ob_b h3 (ob_b h3 (ob_b h3 (ob_b h3 (ob_b h3 (ob_b h3 (ob_b h3 (ob_b (rfl : false = false) (ob_b (rfl : false = false) (ob_b (rfl : false = false) (ob_b (rfl : false = false) (ob_b (rfl : false = false) (ob_b (rfl : false = false) (ob_b (rfl : false = false) (ob_b (rfl : false = false) (ob_b (rfl : false = false) (ob_b (rfl : false = false) (ob_b (rfl : false = false) (ob_b (rfl : false = false) (ob_b (rfl : false = false) (ob_b (rfl : false = false) (ob_b (rfl : false = false) (ob_b (rfl : false = false) (ob_b (rfl : false = false) ob))))))))))))))))))))))))))))))) (by kernel_rfl)
theorem law12_PlanBy_j1.ok (ht : TabOk t call) (n : Nat) (a1 : List GStep) (a2 : Bool) (a3 : Int) (r : _) (h : law12_PlanBy_j1 t n a1 a2 a3 = some r) : exec (env Tryd.prog 6 Tryd.f6 call) n (sub [1, 1] (bodyOf Tryd.f6)) (mkSt 95 95 [(0, (.t (.sl false 14 (GStep.ts a1)))), (1, (.t (.v (.bool a2)))), (2, (.t (.v (.int .i64 a3))))] []) = some (law12_PlanBy_j1.to r) := by
  rw [law12_PlanBy_j1] at h
  rcases h1 : t.ref12_Nest a1 with _ | a4
  · rw [h1] at h; cases h
  rw [h1] at h
  dsimp only at h
  rcases h2 : t.plan_Check ([(GStep.mk 40 ([] : List ByteArray) ([] : List Int) (GValue.mk 0 0 ByteArray.empty ([] : List GValue) ([] : List GValue)) (GPred.mk 0 ([] : List GValue) ([] : List GPred)) ([] : List (List GStep)) ([(GBy.mk 3 ByteArray.empty a1 a2)] : List GBy) ([] : List ByteArray))] : List GStep) with _ | a5
  · rw [h2] at h; cases h
  rw [h2] at h
  dsimp only at h
  by_cases h3 : ((a5 == 0) == (decide (a4 ≤ 10))) = true
  · rw [if_pos h3] at h
    rcases h4 : t.plan_Check ([(GStep.mk 41 ([] : List ByteArray) ([] : List Int) (GValue.mk 0 0 ByteArray.empty ([] : List GValue) ([] : List GValue)) (GPred.mk 0 ([] : List GValue) ([] : List GPred)) ([] : List (List GStep)) ([(GBy.mk 3 ByteArray.empty a1 a2)] : List GBy) ([] : List ByteArray))] : List GStep) with _ | a6
    · rw [h4] at h; cases h
    rw [h4] at h
    dsimp only at h
    by_cases h5 : (decide (a4 ≤ 10)) = true
    · rw [if_pos h5] at h
      by_cases h6 : ((a6 == 0) == (!a2)) = true
      · rw [if_pos h6] at h
        obtain ⟨a7, rfl⟩ : ∃ z_, z_ = r := ⟨_, rfl⟩
        have h7 := h
        exact path (ob_c (ht.ref12_Nest _ _ h1) (ob_c (ht.plan_Check _ _ h2) (ob_b (congrArg (!·) h3) (ob_b (congrArg (!·) h3) (ob_c (ht.plan_Check _ _ h4) (ob_b (congrArg (!·) h3) (ob_b (congrArg (!·) h3) (ob_b (congrArg (!·) h3) (ob_b h5 (ob_b h5 (ob_b (congrArg (!·) h3) (ob_b h5 (ob_b (congrArg (!·) h3) (ob_b (congrArg (!·) h3) (ob_b (congrArg (!·) h6) (ob_j (law12_PlanBy_j2.ok ht n _ _ _ _ _ h7) ob)))))))))))))))) (by kernel_rfl)
      · rw [if_neg h6] at h
        replace h6 := Bool.eq_false_iff.2 h6
        rw [← Option.some.inj h]
        exact path (ob_c (ht.ref12_Nest _ _ h1) (ob_c (ht.plan_Check _ _ h2) (ob_b (congrArg (!·) h3) (ob_b (congrArg (!·) h3) (ob_c (ht.plan_Check _ _ h4) (ob_b (congrArg (!·) h3) (ob_b (congrArg (!·) h3) (ob_b (congrArg (!·) h3) (ob_b h5 (ob_b h5 (ob_b (congrArg (!·) h3) (ob_b h5 (ob_b (congrArg (!·) h3) (ob_b (congrArg (!·) h3) (ob_b (congrArg (!·) h6) ob))))))))))))))) (by kernel_rfl)
    · rw [if_neg h5] at h
      replace h5 := Bool.eq_false_iff.2 h5
      by_cases h8 : ((a6 == 0) == false) = true
      · rw [if_pos h8] at h
        obtain ⟨a8, rfl⟩ : ∃ z_, z_ = r := ⟨_, rfl⟩
        have h9 := h
        exact path (ob_c (ht.ref12_Nest _ _ h1) (ob_c (ht.plan_Check _ _ h2) (ob_b (congrArg (!·) h3) (ob_b (congrArg (!·) h3) (ob_c (ht.plan_Check _ _ h4) (ob_b (congrArg (!·) h3) (ob_b (congrArg (!·) h3) (ob_b (congrArg (!·) h3) (ob_b h5 (ob_b h5 (ob_b (congrArg (!·) h3) (ob_b h5 (ob_b (congrArg (!·) h3) (ob_b (congrArg (!·) h3) (ob_b (congrArg (!·) h8) (ob_j (law12_PlanBy_j2.ok ht n _ _ _ _ _ h9) ob)))))))))))))))) (by kernel_rfl)
      · rw [if_neg h8] at h
        replace h8 := Bool.eq_false_iff.2 h8
        rw [← Option.some.inj h]
        exact path (ob_c (ht.ref12_Nest _ _ h1) (ob_c (ht.plan_Check _ _ h2) (ob_b (congrArg (!·) h3) (ob_b (congrArg (!·) h3) (ob_c (ht.plan_Check _ _ h4) (ob_b (congrArg (!·) h3) (ob_b (congrArg (!·) h3) (ob_b (congrArg (!·) h3) (ob_b h5 (ob_b h5 (ob_b (congrArg (!·) h3) (ob_b h5 (ob_b (congrArg (!·) h3) (ob_b (congrArg (!·) h3) (ob_b (congrArg (!·) h8) ob))))))))))))))) (by kernel_rfl)
  · rw [if_neg h3] at h
    replace h3 := Bool.eq_false_iff.2 h3
    rw [← Option.some.inj h]
    exact path (ob_c (ht.ref12_Nest _ _ h1) (ob_c (ht.plan_Check _ _ h2) (ob_b (congrArg (!·) h3) (ob_b (congrArg (!·) h3) (ob_b (congrArg (!·) h3) (ob_b (congrArg (!·) h3) (ob_b (congrArg (!·) h3) (ob_b (congrArg (!·) h3) (ob_b (congrArg (!·) h3) (ob_b (congrArg (!·) h3) (ob_b (rfl : true = true) ob))))))))))) (by kernel_rfl)
theorem law12_PlanBy.ok {n : Nat} {t : Tab} (ht : TabOk t (run Tryd.prog own kp X n)) : ∀ (p1 : List GStep) (p2 : Bool) (p3 : Int) r, law12_PlanBy t n p1 p2 p3 = some r → run Tryd.prog own kp X (n + 1) 6 [(.t (.sl false 14 (GStep.ts p1))), (.t (.v (.bool p2))), (.t (.v (.int .i64 p3)))] [] = some ((.t (.v (.bool r))), []) := by
  intro p1 p2 p3 r h
  obtain ⟨a1, rfl⟩ : ∃ z_, z_ = p1 := ⟨_, rfl⟩
  obtain ⟨a2, rfl⟩ : ∃ z_, z_ = p2 := ⟨_, rfl⟩
  obtain ⟨a3, rfl⟩ : ∃ z_, z_ = p3 := ⟨_, rfl⟩
  rw [law12_PlanBy] at h
  rcases h1 : t.law12_much a1 with _ | a4
  · rw [h1] at h; cases h
  rw [h1] at h
  dsimp only at h
  by_cases h2 : a4 = true
  · rw [if_pos h2] at h
    obtain ⟨a5, rfl⟩ : ∃ z_, z_ = r := ⟨_, rfl⟩
    have h3 := h
    exact run_path Tryd.func6 (ob_c (ht.law12_much _ _ h1) (ob_b h2 (ob_b h2 (ob_b h2 (ob_b h2 (ob_b (rfl : true = true) (ob_b (rfl : true = true) (ob_b (rfl : true = true) (ob_b (rfl : true = true) (ob_b (rfl : true = true) (ob_c (ht.law12_known _ h3) ob))))))))))) (by kernel_rfl)
  · rw [if_neg h2] at h
    replace h2 := Bool.eq_false_iff.2 h2
    rcases h4 : t.plan_Check a1 with _ | a6
    · rw [h4] at h; cases h
    rw [h4] at h
    dsimp only at h
    by_cases h5 : (a6 != 0) = true
    · rw [if_pos h5] at h
      obtain ⟨a7, rfl⟩ : ∃ z_, z_ = r := ⟨_, rfl⟩
      have h6 := h
      exact run_path Tryd.func6 (ob_c (ht.law12_much _ _ h1) (ob_b h2 (ob_b h2 (ob_c (ht.plan_Check _ _ h4) (ob_b h2 (ob_b h2 (ob_b h5 (ob_b h5 (ob_b h5 (ob_b h5 (ob_b (rfl : true = true) (ob_c (ht.law12_known _ h6) ob)))))))))))) (by kernel_rfl)
    · rw [if_neg h5] at h
      replace h5 := Bool.eq_false_iff.2 h5
      rcases h7 : t.ref12_Steps a1 with _ | a8
      · rw [h7] at h; cases h
      rw [h7] at h
      dsimp only at h
      by_cases h8 : (decide (a8 > 390)) = true
      · rw [if_pos h8] at h
        obtain ⟨a9, rfl⟩ : ∃ z_, z_ = r := ⟨_, rfl⟩
        have h9 := h
        exact run_path Tryd.func6 (ob_c (ht.law12_much _ _ h1) (ob_b h2 (ob_b h2 (ob_c (ht.plan_Check _ _ h4) (ob_b h2 (ob_b h2 (ob_b h5 (ob_b h5 (ob_c (ht.ref12_Steps _ _ h7) (ob_b h5 (ob_b h5 (ob_b h8 (ob_c (ht.law12_known _ h9) ob))))))))))))) (by kernel_rfl)
      · rw [if_neg h8] at h
        replace h8 := Bool.eq_false_iff.2 h8
        obtain ⟨a10, rfl⟩ : ∃ z_, z_ = r := ⟨_, rfl⟩
        have h10 := h
        exact run_path Tryd.func6 (ob_c (ht.law12_much _ _ h1) (ob_b h2 (ob_b h2 (ob_c (ht.plan_Check _ _ h4) (ob_b h2 (ob_b h2 (ob_b h5 (ob_b h5 (ob_c (ht.ref12_Steps _ _ h7) (ob_b h5 (ob_b h5 (ob_b h8 (ob_j (law12_PlanBy_j1.ok ht n _ _ _ _ h10) ob))))))))))))) (by kernel_rfl)
theorem law12_much.ok {n : Nat} {t : Tab} (ht : TabOk t (run Tryd.prog own kp X n)) : ∀ (p1 : List GStep) r, law12_much t n p1 = some r → run Tryd.prog own kp X (n + 1) 7 [(.t (.sl false 14 (GStep.ts p1)))] [] = some ((.t (.v (.bool r))), []) := by
  intro p1 r h
  obtain ⟨a1, rfl⟩ : ∃ z_, z_ = p1 := ⟨_, rfl⟩
  rw [law12_much] at h
  rcases h1 : t.ref12_Much a1 1500 14 with _ | a2
  · rw [h1] at h; cases h
  rw [h1] at h
  dsimp only at h
  rw [← Option.some.inj h]
  exact run_path Tryd.func7 (ob_c (ht.ref12_Much _ _ _ _ h1) ob) (by kernel_rfl)
theorem plan_Check.ok {n : Nat} {t : Tab} (ht : TabOk t (run Tryd.prog own kp X n)) : ∀ (p1 : List GStep) r, plan_Check t n p1 = some r → run Tryd.prog own kp X (n + 1) 11 [(.t (.sl false 14 (GStep.ts p1)))] [] = some ((.t (.v (.int .i64 r))), []) := by
  intro p1 r h
  obtain ⟨a1, rfl⟩ : ∃ z_, z_ = p1 := ⟨_, rfl⟩
  rw [plan_Check] at h
  rcases h1 : t.plan_Steps a1 with _ | a2
  · rw [h1] at h; cases h
  rw [h1] at h
  dsimp only at h
  by_cases h2 : (decide (a2 > 400)) = true
  · rw [if_pos h2] at h
    rw [← Option.some.inj h]
    exact run_path Tryd.func11 (ob_c (ht.plan_Steps _ _ h1) (ob_b h2 (ob_b h2 (ob_b h2 (ob_b h2 (ob_b (rfl : true = true) ob)))))) (by kernel_rfl)
  · rw [if_neg h2] at h
    replace h2 := Bool.eq_false_iff.2 h2
    rcases h3 : t.plan_right a1 1 with _ | a3
    · rw [h3] at h; cases h
    rw [h3] at h
    dsimp only at h
    by_cases h4 : a3 = true
    · rw [if_pos h4] at h
      rw [← Option.some.inj h]
      exact run_path Tryd.func11 (ob_c (ht.plan_Steps _ _ h1) (ob_b h2 (ob_b h2 (ob_c (ht.plan_right _ _ _ h3) (ob_b h2 (ob_b h2 (ob_b (congrArg (!·) h4) ob))))))) (by kernel_rfl)
    · rw [if_neg h4] at h
      replace h4 := Bool.eq_false_iff.2 h4
      rw [← Option.some.inj h]
      exact run_path Tryd.func11 (ob_c (ht.plan_Steps _ _ h1) (ob_b h2 (ob_b h2 (ob_c (ht.plan_right _ _ _ h3) (ob_b h2 (ob_b h2 (ob_b (congrArg (!·) h4) ob))))))) (by kernel_rfl)
theorem ref12_Steps.ok {n : Nat} {t : Tab} (ht : TabOk t (run Tryd.prog own kp X n)) : ∀ (p1 : List GStep) r, ref12_Steps t n p1 = some r → run Tryd.prog own kp X (n + 1) 15 [(.t (.sl false 14 (GStep.ts p1)))] [] = some ((.t (.v (.int .i64 r))), []) := by
  intro p1 r h
  obtain ⟨a1, rfl⟩ : ∃ z_, z_ = p1 := ⟨_, rfl⟩
  rw [ref12_Steps] at h
  rcases h1 : t.ref12_steps a1 401 11 with _ | a2
  · rw [h1] at h; cases h
  rw [h1] at h
  dsimp only at h
  rw [← Option.some.inj h]
  exact run_path Tryd.func15 (ob_c (ht.ref12_steps _ _ _ _ h1) ob) (by kernel_rfl)
theorem ref12_Nest.ok {n : Nat} {t : Tab} (ht : TabOk t (run Tryd.prog own kp X n)) : ∀ (p1 : List GStep) r, ref12_Nest t n p1 = some r → run Tryd.prog own kp X (n + 1) 16 [(.t (.sl false 14 (GStep.ts p1)))] [] = some ((.t (.v (.int .i64 r))), []) := by
  intro p1 r h
  obtain ⟨a1, rfl⟩ : ∃ z_, z_ = p1 := ⟨_, rfl⟩
  rw [ref12_Nest] at h
  obtain ⟨a2, rfl⟩ : ∃ z_, z_ = r := ⟨_, rfl⟩
  have h1 := h
  exact run_path Tryd.func16 (ob_c (ht.ref12_nest _ _ _ h1) ob) (by kernel_rfl)
theorem plan_Steps.ok {n : Nat} {t : Tab} (ht : TabOk t (run Tryd.prog own kp X n)) : ∀ (p1 : List GStep) r, plan_Steps t n p1 = some r → run Tryd.prog own kp X (n + 1) 12 [(.t (.sl false 14 (GStep.ts p1)))] [] = some ((.t (.v (.int .i64 r))), []) := by
  intro p1 r h
  obtain ⟨a1, rfl⟩ : ∃ z_, z_ = p1 := ⟨_, rfl⟩
  rw [plan_Steps] at h
  obtain ⟨a2, rfl⟩ : ∃ z_, z_ = r := ⟨_, rfl⟩
  have h1 := h
  exact run_path Tryd.func12 (ob_c (ht.plan_steps _ _ _ _ h1) ob) (by kernel_rfl)
theorem plan_Uses.ok {n : Nat} {t : Tab} (ht : TabOk t (run Tryd.prog own kp X n)) : ∀ (p1 : List GStep) (p2 : List Int) r, plan_Uses t n p1 p2 = some r → run Tryd.prog own kp X (n + 1) 9 [(.t (.sl false 14 (GStep.ts p1))), (.t (.sl false 1 (ints_i64 p2)))] [] = some ((.t (.v (.bool r))), []) := by
  intro p1 p2 r h
  obtain ⟨a1, rfl⟩ : ∃ z_, z_ = p1 := ⟨_, rfl⟩
  obtain ⟨a2, rfl⟩ : ∃ z_, z_ = p2 := ⟨_, rfl⟩
  rw [plan_Uses] at h
  obtain ⟨a3, rfl⟩ : ∃ z_, z_ = r := ⟨_, rfl⟩
  have h1 := h
  exact run_path Tryd.func9 (ob_c (ht.plan_plan_Uses_1 _ _ _ h1) ob) (by kernel_rfl)
theorem plan_Free.ok {n : Nat} {t : Tab} (ht : TabOk t (run Tryd.prog own kp X n)) : ∀ (p1 : List GStep) r, plan_Free t n p1 = some r → run Tryd.prog own kp X (n + 1) 14 [(.t (.sl false 14 (GStep.ts p1)))] [] = some ((.t (.v (.bool r))), []) := by
  intro p1 r h
  obtain ⟨a1, rfl⟩ : ∃ z_, z_ = p1 := ⟨_, rfl⟩
  rw [plan_Free] at h
  rcases h1 : t.plan_Uses a1 ([38, 26, 27, 39] : List Int) with _ | a2
  · rw [h1] at h; cases h
  rw [h1] at h
  dsimp only at h
  by_cases h2 : a2 = true
  · rw [if_pos h2] at h
    rw [← Option.some.inj h]
    exact run_path Tryd.func14 (ob_c (ht.plan_Uses _ _ _ h1) (ob_b (congrArg (!·) h2) (ob_b (congrArg (!·) h2) (ob_b (congrArg (!·) h2) (ob_b (congrArg (!·) h2) ob))))) (by kernel_rfl)
  · rw [if_neg h2] at h
    replace h2 := Bool.eq_false_iff.2 h2
    rcases h3 : t.plan_plan_Free_1 a1 with _ | a3
    · rw [h3] at h; cases h
    rw [h3] at h
    dsimp only at h
    rw [← Option.some.inj h]
    exact run_path Tryd.func14 (ob_c (ht.plan_Uses _ _ _ h1) (ob_b (congrArg (!·) h2) (ob_b (congrArg (!·) h2) (ob_c (ht.plan_plan_Free_1 _ _ h3) (ob_b (congrArg (!·) h2) (ob_b (congrArg (!·) h2) ob)))))) (by kernel_rfl)
theorem plan_Same.ok {n : Nat} {t : Tab} (ht : TabOk t (run Tryd.prog own kp X n)) : ∀ (p1 : List GStep) (p2 : List GStep) r, plan_Same t n p1 p2 = some r → run Tryd.prog own kp X (n + 1) 17 [(.t (.sl false 14 (GStep.ts p1))), (.t (.sl false 14 (GStep.ts p2)))] [] = some ((.t (.v (.bool r))), []) := by
  intro p1 p2 r h
  obtain ⟨a1, rfl⟩ : ∃ z_, z_ = p1 := ⟨_, rfl⟩
  obtain ⟨a2, rfl⟩ : ∃ z_, z_ = p2 := ⟨_, rfl⟩
  rw [plan_Same] at h
  obtain ⟨a3, rfl⟩ : ∃ z_, z_ = r := ⟨_, rfl⟩
  have h1 := h
  exact run_path Tryd.func17 (ob_c (ht.slices_EqualFunc_plan_Same_1 _ _ _ h1) ob) (by kernel_rfl)
theorem ref12_Much_j4.ok (ht : TabOk t call) (n : Nat) (a1 : List GStep) (a2 a3 a4 a5 : Int) (a6 : List (List GStep)) (a7 : Int) (r : _) (h : ref12_Much_j4 t n a1 a2 a3 a4 a5 a6 a7 = some r) : exec (env Tryd.prog 18 Tryd.f18 call) n (sub [1, 1, 0, 1, 0, 0, 1, 0, 0, 1, 1, 1, 1, 0, 0, 1] (bodyOf Tryd.f18)) (mkSt 80 80 [(0, (.t (.sl false 14 (GStep.ts a1)))), (1, (.t (.v (.int .i64 a2)))), (2, (.t (.v (.int .i64 a3)))), (7, (.t (.v (.int .i64 a4)))), (8, (.t (.v (.int .i64 a5)))), (10, (.t (.sl false 1 (rows_GStep_ts a6)))), (11, (.t (.v (.int .i64 a7))))] []) = some (ref12_Much_j4.to r) := by
  rw [ref12_Much_j4] at h
  by_cases h1 : (decide (a3 ≤ 0)) = true
  · rw [if_pos h1] at h
    rw [← Option.some.inj h]
    exact path (ob_b h1 ob) (by kernel_rfl)
  · rw [if_neg h1] at h
    replace h1 := Bool.eq_false_iff.2 h1
    by_cases h2 : (decide (0 ≤ (a7 : Int))) = true
    case neg => rw [if_neg h2] at h; cases h
    rw [if_pos h2] at h
    rcases h3 : a6[(a7 : Int).toNat]? with _ | a8
    · rw [h3] at h; cases h
    rw [h3] at h
    dsimp only at h
    rcases h4 : t.ref12_Much a8 (IntKind.wrap .i64 (a2 - a4)) (IntKind.wrap .i64 (a3 - 1)) with _ | a9
    · rw [h4] at h; cases h
    rw [h4] at h
    dsimp only at h
    rw [← Option.some.inj h]
    exact path (ob_b h1 (ob_n h2 (ob_t (look_ts rows_GStep_ts_map h3) (ob_c (ht.ref12_Much _ _ _ _ h4) ob)))) (by kernel_rfl)
theorem ref12_Much_l3.okL (ht : TabOk t call) (n : Nat) : ∀ (k : Nat) (a1 : List GStep) (a2 a3 a4 a5 : Int) (a6 : List (List GStep)) (a7 : Int) (r : _), ref12_Much_l3 t n k a1 a2 a3 a4 a5 a6 a7 = some r → loopN (exec (env Tryd.prog 18 Tryd.f18 call) n (sub [1, 1, 0, 1, 0, 0, 1, 0, 0, 1, 1, 1, 1, 0, 0] (bodyOf Tryd.f18))) k (mkSt 80 80 [(0, (.t (.sl false 14 (GStep.ts a1)))), (1, (.t (.v (.int .i64 a2)))), (2, (.t (.v (.int .i64 a3)))), (7, (.t (.v (.int .i64 a4)))), (8, (.t (.v (.int .i64 a5)))), (10, (.t (.sl false 1 (rows_GStep_ts a6)))), (11, (.t (.v (.int .i64 a7))))] []) = some (ref12_Much_l3.to r)
  | 0, a1, a2, a3, a4, a5, a6, a7, r, h => by rw [ref12_Much_l3] at h; cases h
  | k + 1, a1, a2, a3, a4, a5, a6, a7, r, h => by
    rw [ref12_Much_l3] at h
    by_cases h1 : (decide (a7 < (a6.length : Int))) = true
    · rw [if_pos h1] at h
      by_cases h2 : (decide (a4 < a2)) = true
      · rw [if_pos h2] at h
        rcases h3 : ref12_Much_j4 t n  a1 a2 a3 a4 a5 a6 a7 with _ | q_
        · rw [h3] at h; cases h
        rw [h3] at h
        rcases q_ with a8 | ⟨a9, a10, a11, a12, a13, a14, a15⟩
        · dsimp only at h
          rw [← Option.some.inj h]
          exact loop_out (path (ob_v (len_ts rows_GStep_ts_map (l := a6)) (ob_b h1 (ob_b h1 (ob_b h1 (ob_b h1 (ob_b h2 (ob_j (ref12_Much_j4.ok ht n _ _ _ _ _ _ _ _ h3) ob))))))) (by kernel_rfl)) (fun h => by cases h)
        · dsimp only at h
          exact loop_more (path (ob_v (len_ts rows_GStep_ts_map (l := a6)) (ob_b h1 (ob_b h1 (ob_b h1 (ob_b h1 (ob_b h2 (ob_j (ref12_Much_j4.ok ht n _ _ _ _ _ _ _ _ h3) ob))))))) (by kernel_rfl)) (ref12_Much_l3.okL ht n k _ _ _ _ _ _ _ _ h)
      · rw [if_neg h2] at h
        replace h2 := Bool.eq_false_iff.2 h2
        rw [← Option.some.inj h]
        exact loop_out (path (ob_v (len_ts rows_GStep_ts_map (l := a6)) (ob_b h1 (ob_b h1 (ob_b h1 (ob_b h1 (ob_b h2 ob)))))) (by kernel_rfl)) (fun h => by cases h)
    · rw [if_neg h1] at h
      replace h1 := Bool.eq_false_iff.2 h1
      rw [← Option.some.inj h]
      exact loop_out (path (ob_v (len_ts rows_GStep_ts_map (l := a6)) (ob_b h1 (ob_b h1 (ob_b h1 (ob_b h1 (ob_b (rfl : false = false) ob)))))) (by kernel_rfl)) (fun h => by cases h)
theorem ref12_Much_l3.ok (ht : TabOk t call) (n : Nat) (a1 : List GStep) (a2 a3 a4 a5 : Int) (a6 : List (List GStep)) (a7 : Int) (r : _) (h : ref12_Much_l3 t n n a1 a2 a3 a4 a5 a6 a7 = some r) : exec (env Tryd.prog 18 Tryd.f18 call) n (sub [1, 1, 0, 1, 0, 0, 1, 0, 0, 1, 1, 1, 1, 0] (bodyOf Tryd.f18)) (mkSt 80 80 [(0, (.t (.sl false 14 (GStep.ts a1)))), (1, (.t (.v (.int .i64 a2)))), (2, (.t (.v (.int .i64 a3)))), (7, (.t (.v (.int .i64 a4)))), (8, (.t (.v (.int .i64 a5)))), (10, (.t (.sl false 1 (rows_GStep_ts a6)))), (11, (.t (.v (.int .i64 a7))))] []) = some (ref12_Much_l3.to r) := by
  have e1 : sub [1, 1, 0, 1, 0, 0, 1, 0, 0, 1, 1, 1, 1, 0] (bodyOf Tryd.f18) = .loop (sub [1, 1, 0, 1, 0, 0, 1, 0, 0, 1, 1, 1, 1, 0, 0] (bodyOf Tryd.f18)) := by kernel_rfl
  rw [e1, exec]
  exact ref12_Much_l3.okL ht n n a1 a2 a3 a4 a5 a6 a7 r h
theorem ref12_Much_j2.ok (ht : TabOk t call) (n : Nat) (a1 : List GStep) (a2 a3 a4 a5 : Int) (r : _) (h : ref12_Much_j2 t n a1 a2 a3 a4 a5 = some r) : exec (env Tryd.prog 18 Tryd.f18 call) n (sub [1, 1, 0, 1, 0, 0, 1] (bodyOf Tryd.f18)) (mkSt 80 80 [(0, (.t (.sl false 14 (GStep.ts a1)))), (1, (.t (.v (.int .i64 a2)))), (2, (.t (.v (.int .i64 a3)))), (7, (.t (.v (.int .i64 a4)))), (8, (.t (.v (.int .i64 a5))))] []) = some (ref12_Much_j2.to r) := by
  rw [ref12_Much_j2] at h
  by_cases h1 : (decide (0 ≤ (a5 : Int))) = true
  case neg => rw [if_neg h1] at h; cases h
  rw [if_pos h1] at h
  rcases h2 : a1[(a5 : Int).toNat]? with _ | ⟨a6, a7, a8, ⟨a9, a10, a11, a12, a13⟩, ⟨a14, a15, a16⟩, a17, a18, a19⟩
  · rw [h2] at h; cases h
  rw [h2] at h
  dsimp only at h
  rcases h3 : t.ref02_Count (GValue.mk a9 a10 a11 a12 a13) a2 with _ | a20
  · rw [h3] at h; cases h
  rw [h3] at h
  dsimp only at h
  rcases h4 : t.ref09_Count (GPred.mk a14 a15 a16) a2 with _ | a21
  · rw [h4] at h; cases h
  rw [h4] at h
  dsimp only at h
  rcases h5 : t.ref12_Inner (GStep.mk a6 a7 a8 (GValue.mk a9 a10 a11 a12 a13) (GPred.mk a14 a15 a16) a17 a18 a19) with _ | a22
  · rw [h5] at h; cases h
  rw [h5] at h
  dsimp only at h
  rcases h6 : ref12_Much_l3 t n n a1 a2 a3 (IntKind.wrap .i64 ((IntKind.wrap .i64 ((IntKind.wrap .i64 ((IntKind.wrap .i64 ((IntKind.wrap .i64 ((IntKind.wrap .i64 (a4 + 1)) + (a7.length : Int))) + (a8.length : Int))) + (a19.length : Int))) + a20)) + a21)) a5 a22 0 with _ | q_
  · rw [h6] at h; cases h
  rw [h6] at h
  rcases q_ with a23 | ⟨a24, a25, a26, a27, a28, a29, a30, a31⟩
  · dsimp only at h
    rw [← Option.some.inj h]
    exact path (ob_n h1 (ob_t (look_ts GStep.ts_map h2) (ob_v (len_ts texts_map (l := a7)) (ob_v (len_ts ints_i64_map (l := a8)) (ob_v (len_ts texts_map (l := a19)) (ob_c (ht.ref02_Count _ _ _ h3) (ob_c (ht.ref09_Count _ _ _ h4) (ob_c (ht.ref12_Inner _ _ h5) (ob_k (ref12_Much_l3.ok ht n _ _ _ _ _ _ _ _ h6) ob))))))))) (by kernel_rfl)
  · dsimp only at h
    rw [← Option.some.inj h]
    exact path (ob_n h1 (ob_t (look_ts GStep.ts_map h2) (ob_v (len_ts texts_map (l := a7)) (ob_v (len_ts ints_i64_map (l := a8)) (ob_v (len_ts texts_map (l := a19)) (ob_c (ht.ref02_Count _ _ _ h3) (ob_c (ht.ref09_Count _ _ _ h4) (ob_c (ht.ref12_Inner _ _ h5) (ob_k (ref12_Much_l3.ok ht n _ _ _ _ _ _ _ _ h6) ob))))))))) (by kernel_rfl)
theorem ref12_Much_l1.okL (ht : TabOk t call) (n : Nat) : ∀ (k : Nat) (a1 : List GStep) (a2 a3 a4 a5 : Int) (r : _), ref12_Much_l1 t n k a1 a2 a3 a4 a5 = some r → loopN (exec (env Tryd.prog 18 Tryd.f18 call) n (sub [1, 1, 0, 1, 0, 0] (bodyOf Tryd.f18))) k (mkSt 80 80 [(0, (.t (.sl false 14 (GStep.ts a1)))), (1, (.t (.v (.int .i64 a2)))), (2, (.t (.v (.int .i64 a3)))), (7, (.t (.v (.int .i64 a4)))), (8, (.t (.v (.int .i64 a5))))] []) = some (ref12_Much_l1.to r)
  | 0, a1, a2, a3, a4, a5, r, h => by rw [ref12_Much_l1] at h; cases h
  | k + 1, a1, a2, a3, a4, a5, r, h => by
    rw [ref12_Much_l1] at h
    by_cases h1 : (decide (a5 < (a1.length : Int))) = true
    · rw [if_pos h1] at h
      by_cases h2 : (decide (a4 < a2)) = true
      · rw [if_pos h2] at h
        rcases h3 : ref12_Much_j2 t n  a1 a2 a3 a4 a5 with _ | q_
        · rw [h3] at h; cases h
        rw [h3] at h
        rcases q_ with a6 | ⟨a7, a8, a9, a10, a11⟩
        · dsimp only at h
          rw [← Option.some.inj h]
          exact loop_out (path (ob_v (len_ts GStep.ts_map (l := a1)) (ob_b h1 (ob_b h1 (ob_b h1 (ob_b h1 (ob_b h2 (ob_j (ref12_Much_j2.ok ht n _ _ _ _ _ _ h3) ob))))))) (by kernel_rfl)) (fun h => by cases h)
        · dsimp only at h
          exact loop_more (path (ob_v (len_ts GStep.ts_map (l := a1)) (ob_b h1 (ob_b h1 (ob_b h1 (ob_b h1 (ob_b h2 (ob_j (ref12_Much_j2.ok ht n _ _ _ _ _ _ h3) ob))))))) (by kernel_rfl)) (ref12_Much_l1.okL ht n k _ _ _ _ _ _ h)
      · rw [if_neg h2] at h
        replace h2 := Bool.eq_false_iff.2 h2
        rw [← Option.some.inj h]
        exact loop_out (path (ob_v (len_ts GStep.ts_map (l := a1)) (ob_b h1 (ob_b h1 (ob_b h1 (ob_b h1 (ob_b h2 ob)))))) (by kernel_rfl)) (fun h => by cases h)
    · rw [if_neg h1] at h
      replace h1 := Bool.eq_false_iff.2 h1
      rw [← Option.some.inj h]
      exact loop_out (path (ob_v (len_ts GStep.ts_map (l := a1)) (ob_b h1 (ob_b h1 (ob_b h1 (ob_b h1 (ob_b (rfl : false = false) ob)))))) (by kernel_rfl)) (fun h => by cases h)
theorem ref12_Much_l1.ok (ht : TabOk t call) (n : Nat) (a1 : List GStep) (a2 a3 a4 a5 : Int) (r : _) (h : ref12_Much_l1 t n n a1 a2 a3 a4 a5 = some r) : exec (env Tryd.prog 18 Tryd.f18 call) n (sub [1, 1, 0, 1, 0] (bodyOf Tryd.f18)) (mkSt 80 80 [(0, (.t (.sl false 14 (GStep.ts a1)))), (1, (.t (.v (.int .i64 a2)))), (2, (.t (.v (.int .i64 a3)))), (7, (.t (.v (.int .i64 a4)))), (8, (.t (.v (.int .i64 a5))))] []) = some (ref12_Much_l1.to r) := by
  have e1 : sub [1, 1, 0, 1, 0] (bodyOf Tryd.f18) = .loop (sub [1, 1, 0, 1, 0, 0] (bodyOf Tryd.f18)) := by kernel_rfl
  rw [e1, exec]
  exact ref12_Much_l1.okL ht n n a1 a2 a3 a4 a5 r h
theorem ref12_Much.ok {n : Nat} {t : Tab} (ht : TabOk t (run Tryd.prog own kp X n)) : ∀ (p1 : List GStep) (p2 : Int) (p3 : Int) r, ref12_Much t n p1 p2 p3 = some r → run Tryd.prog own kp X (n + 1) 18 [(.t (.sl false 14 (GStep.ts p1))), (.t (.v (.int .i64 p2))), (.t (.v (.int .i64 p3)))] [] = some ((.t (.v (.int .i64 r))), []) := by
  intro p1 p2 p3 r h
  obtain ⟨a1, rfl⟩ : ∃ z_, z_ = p1 := ⟨_, rfl⟩
  obtain ⟨a2, rfl⟩ : ∃ z_, z_ = p2 := ⟨_, rfl⟩
  obtain ⟨a3, rfl⟩ : ∃ z_, z_ = p3 := ⟨_, rfl⟩
  rw [ref12_Much] at h
  rcases h1 : ref12_Much_l1 t n n a1 a2 a3 0 0 with _ | q_
  · rw [h1] at h; cases h
  rw [h1] at h
  rcases q_ with a4 | ⟨a5, a6, a7, a8, a9, a10⟩
  · dsimp only at h
    rw [← Option.some.inj h]
    exact run_path Tryd.func18 (ob_k (ref12_Much_l1.ok ht n _ _ _ _ _ _ h1) ob) (by kernel_rfl)
  · dsimp only at h
    rw [← Option.some.inj h]
    exact run_path Tryd.func18 (ob_k (ref12_Much_l1.ok ht n _ _ _ _ _ _ h1) ob) (by kernel_rfl)
theorem plan_right.ok {n : Nat} {t : Tab} (ht : TabOk t (run Tryd.prog own kp X n)) : ∀ (p1 : List GStep) (p2 : Int) r, plan_right t n p1 p2 = some r → run Tryd.prog own kp X (n + 1) 25 [(.t (.sl false 14 (GStep.ts p1))), (.t (.v (.int .i64 p2)))] [] = some ((.t (.v (.bool r))), []) := by
  intro p1 p2 r h
  obtain ⟨a1, rfl⟩ : ∃ z_, z_ = p1 := ⟨_, rfl⟩
  obtain ⟨a2, rfl⟩ : ∃ z_, z_ = p2 := ⟨_, rfl⟩
  rw [plan_right] at h
  by_cases h1 : (decide (a2 ≤ 11)) = true
  · rw [if_pos h1] at h
    rcases h2 : t.slices_ContainsFunc_plan_right_1 a1 a2 with _ | a3
    · rw [h2] at h; cases h
    rw [h2] at h
    dsimp only at h
    rw [← Option.some.inj h]
    exact run_path Tryd.func25 (ob_b h1 (ob_b h1 (ob_b h1 (ob_c (ht.slices_ContainsFunc_plan_right_1 _ _ _ h2) (ob_b h1 (ob_b h1 ob)))))) (by kernel_rfl)
  · rw [if_neg h1] at h
    replace h1 := Bool.eq_false_iff.2 h1
    rw [← Option.some.inj h]
    exact run_path Tryd.func25 (ob_b h1 (ob_b h1 (ob_b h1 (ob_b h1 (ob_b h1 ob))))) (by kernel_rfl)
theorem ref12_steps_j4.ok (ht : TabOk t call) (n : Nat) (a1 : List GStep) (a2 a3 a4 a5 : Int) (a6 : List (List GStep)) (a7 : Int) (r : _) (h : ref12_steps_j4 t n a1 a2 a3 a4 a5 a6 a7 = some r) : exec (env Tryd.prog 29 Tryd.f29 call) n (sub [1, 1, 0, 1, 0, 0, 1, 0, 0, 1, 1, 1, 0, 0, 1] (bodyOf Tryd.f29)) (mkSt 57 57 [(0, (.t (.sl false 14 (GStep.ts a1)))), (1, (.t (.v (.int .i64 a2)))), (2, (.t (.v (.int .i64 a3)))), (7, (.t (.v (.int .i64 a4)))), (8, (.t (.v (.int .i64 a5)))), (9, (.t (.sl false 1 (rows_GStep_ts a6)))), (10, (.t (.v (.int .i64 a7))))] []) = some (ref12_steps_j4.to r) := by
  rw [ref12_steps_j4] at h
  by_cases h1 : (decide (0 ≤ (a7 : Int))) = true
  case neg => rw [if_neg h1] at h; cases h
  rw [if_pos h1] at h
  rcases h2 : a6[(a7 : Int).toNat]? with _ | a8
  · rw [h2] at h; cases h
  rw [h2] at h
  dsimp only at h
  rcases h3 : t.ref12_steps a8 (IntKind.wrap .i64 (a2 - a4)) (IntKind.wrap .i64 (a3 - 1)) with _ | a9
  · rw [h3] at h; cases h
  rw [h3] at h
  dsimp only at h
  rw [← Option.some.inj h]
  exact path (ob_n h1 (ob_t (look_ts rows_GStep_ts_map h2) (ob_c (ht.ref12_steps _ _ _ _ h3) ob))) (by kernel_rfl)
theorem ref12_steps_l3.okL (ht : TabOk t call) (n : Nat) : ∀ (k : Nat) (a1 : List GStep) (a2 a3 a4 a5 : Int) (a6 : List (List GStep)) (a7 : Int) (r : _), ref12_steps_l3 t n k a1 a2 a3 a4 a5 a6 a7 = some r → loopN (exec (env Tryd.prog 29 Tryd.f29 call) n (sub [1, 1, 0, 1, 0, 0, 1, 0, 0, 1, 1, 1, 0, 0] (bodyOf Tryd.f29))) k (mkSt 57 57 [(0, (.t (.sl false 14 (GStep.ts a1)))), (1, (.t (.v (.int .i64 a2)))), (2, (.t (.v (.int .i64 a3)))), (7, (.t (.v (.int .i64 a4)))), (8, (.t (.v (.int .i64 a5)))), (9, (.t (.sl false 1 (rows_GStep_ts a6)))), (10, (.t (.v (.int .i64 a7))))] []) = some (ref12_steps_l3.to r)
  | 0, a1, a2, a3, a4, a5, a6, a7, r, h => by rw [ref12_steps_l3] at h; cases h
  | k + 1, a1, a2, a3, a4, a5, a6, a7, r, h => by
    rw [ref12_steps_l3] at h
    by_cases h1 : (decide (a7 < (a6.length : Int))) = true
    · rw [if_pos h1] at h
      by_cases h2 : (decide (a3 > 0)) = true
      · rw [if_pos h2] at h
        by_cases h3 : (decide (a4 < a2)) = true
        · rw [if_pos h3] at h
          rcases h4 : ref12_steps_j4 t n  a1 a2 a3 a4 a5 a6 a7 with _ | q_
          · rw [h4] at h; cases h
          rw [h4] at h
          obtain ⟨a8, a9, a10, a11, a12, a13, a14⟩ := q_
          dsimp only at h
          exact loop_more (path (ob_v (len_ts rows_GStep_ts_map (l := a6)) (ob_b h1 (ob_b h1 (ob_b h1 (ob_b h2 (ob_b h2 (ob_b h2 (ob_b h2 (ob_b h3 (ob_j (ref12_steps_j4.ok ht n _ _ _ _ _ _ _ _ h4) ob)))))))))) (by kernel_rfl)) (ref12_steps_l3.okL ht n k _ _ _ _ _ _ _ _ h)
        · rw [if_neg h3] at h
          replace h3 := Bool.eq_false_iff.2 h3
          rw [← Option.some.inj h]
          exact loop_out (path (ob_v (len_ts rows_GStep_ts_map (l := a6)) (ob_b h1 (ob_b h1 (ob_b h1 (ob_b h2 (ob_b h2 (ob_b h2 (ob_b h2 (ob_b h3 ob))))))))) (by kernel_rfl)) (fun h => by cases h)
      · rw [if_neg h2] at h
        replace h2 := Bool.eq_false_iff.2 h2
        rw [← Option.some.inj h]
        exact loop_out (path (ob_v (len_ts rows_GStep_ts_map (l := a6)) (ob_b h1 (ob_b h1 (ob_b h1 (ob_b h2 (ob_b h2 (ob_b h2 (ob_b h2 (ob_b (rfl : false = false) ob))))))))) (by kernel_rfl)) (fun h => by cases h)
    · rw [if_neg h1] at h
      replace h1 := Bool.eq_false_iff.2 h1
      rw [← Option.some.inj h]
      exact loop_out (path (ob_v (len_ts rows_GStep_ts_map (l := a6)) (ob_b h1 (ob_b h1 (ob_b h1 (ob_b (rfl : false = false) (ob_b (rfl : false = false) (ob_b (rfl : false = false) (ob_b (rfl : false = false) (ob_b (rfl : false = false) ob))))))))) (by kernel_rfl)) (fun h => by cases h)
theorem ref12_steps_l3.ok (ht : TabOk t call) (n : Nat) (a1 : List GStep) (a2 a3 a4 a5 : Int) (a6 : List (List GStep)) (a7 : Int) (r : _) (h : ref12_steps_l3 t n n a1 a2 a3 a4 a5 a6 a7 = some r) : exec (env Tryd.prog 29 Tryd.f29 call) n (sub [1, 1, 0, 1, 0, 0, 1, 0, 0, 1, 1, 1, 0] (bodyOf Tryd.f29)) (mkSt 57 57 [(0, (.t (.sl false 14 (GStep.ts a1)))), (1, (.t (.v (.int .i64 a2)))), (2, (.t (.v (.int .i64 a3)))), (7, (.t (.v (.int .i64 a4)))), (8, (.t (.v (.int .i64 a5)))), (9, (.t (.sl false 1 (rows_GStep_ts a6)))), (10, (.t (.v (.int .i64 a7))))] []) = some (ref12_steps_l3.to r) := by
  have e1 : sub [1, 1, 0, 1, 0, 0, 1, 0, 0, 1, 1, 1, 0] (bodyOf Tryd.f29) = .loop (sub [1, 1, 0, 1, 0, 0, 1, 0, 0, 1, 1, 1, 0, 0] (bodyOf Tryd.f29)) := by kernel_rfl
  rw [e1, exec]
  exact ref12_steps_l3.okL ht n n a1 a2 a3 a4 a5 a6 a7 r h
theorem ref12_steps_j2.ok (ht : TabOk t call) (n : Nat) (a1 : List GStep) (a2 a3 a4 a5 : Int) (r : _) (h : ref12_steps_j2 t n a1 a2 a3 a4 a5 = some r) : exec (env Tryd.prog 29 Tryd.f29 call) n (sub [1, 1, 0, 1, 0, 0, 1] (bodyOf Tryd.f29)) (mkSt 57 57 [(0, (.t (.sl false 14 (GStep.ts a1)))), (1, (.t (.v (.int .i64 a2)))), (2, (.t (.v (.int .i64 a3)))), (7, (.t (.v (.int .i64 a4)))), (8, (.t (.v (.int .i64 a5))))] []) = some (ref12_steps_j2.to r) := by
  rw [ref12_steps_j2] at h
  by_cases h1 : (decide (0 ≤ (a5 : Int))) = true
  case neg => rw [if_neg h1] at h; cases h
  rw [if_pos h1] at h
  rcases h2 : a1[(a5 : Int).toNat]? with _ | ⟨a6, a7, a8, ⟨a9, a10, a11, a12, a13⟩, ⟨a14, a15, a16⟩, a17, a18, a19⟩
  · rw [h2] at h; cases h
  rw [h2] at h
  dsimp only at h
  rcases h3 : t.ref12_Inner (GStep.mk a6 a7 a8 (GValue.mk a9 a10 a11 a12 a13) (GPred.mk a14 a15 a16) a17 a18 a19) with _ | a20
  · rw [h3] at h; cases h
  rw [h3] at h
  dsimp only at h
  rcases h4 : ref12_steps_l3 t n n a1 a2 a3 (IntKind.wrap .i64 (a4 + 1)) a5 a20 0 with _ | q_
  · rw [h4] at h; cases h
  rw [h4] at h
  obtain ⟨a21, a22, a23, a24, a25, a26, a27, a28⟩ := q_
  dsimp only at h
  rw [← Option.some.inj h]
  exact path (ob_n h1 (ob_t (look_ts GStep.ts_map h2) (ob_c (ht.ref12_Inner _ _ h3) (ob_k (ref12_steps_l3.ok ht n _ _ _ _ _ _ _ _ h4) ob)))) (by kernel_rfl)
theorem ref12_steps_l1.okL (ht : TabOk t call) (n : Nat) : ∀ (k : Nat) (a1 : List GStep) (a2 a3 a4 a5 : Int) (r : _), ref12_steps_l1 t n k a1 a2 a3 a4 a5 = some r → loopN (exec (env Tryd.prog 29 Tryd.f29 call) n (sub [1, 1, 0, 1, 0, 0] (bodyOf Tryd.f29))) k (mkSt 57 57 [(0, (.t (.sl false 14 (GStep.ts a1)))), (1, (.t (.v (.int .i64 a2)))), (2, (.t (.v (.int .i64 a3)))), (7, (.t (.v (.int .i64 a4)))), (8, (.t (.v (.int .i64 a5))))] []) = some (ref12_steps_l1.to r)
  | 0, a1, a2, a3, a4, a5, r, h => by rw [ref12_steps_l1] at h; cases h
  | k + 1, a1, a2, a3, a4, a5, r, h => by
    rw [ref12_steps_l1] at h
    by_cases h1 : (decide (a5 < (a1.length : Int))) = true
    · rw [if_pos h1] at h
      by_cases h2 : (decide (a4 < a2)) = true
      · rw [if_pos h2] at h
        rcases h3 : ref12_steps_j2 t n  a1 a2 a3 a4 a5 with _ | q_
        · rw [h3] at h; cases h
        rw [h3] at h
        obtain ⟨a6, a7, a8, a9, a10⟩ := q_
        dsimp only at h
        exact loop_more (path (ob_v (len_ts GStep.ts_map (l := a1)) (ob_b h1 (ob_b h1 (ob_b h1 (ob_b h1 (ob_b h2 (ob_j (ref12_steps_j2.ok ht n _ _ _ _ _ _ h3) ob))))))) (by kernel_rfl)) (ref12_steps_l1.okL ht n k _ _ _ _ _ _ h)
      · rw [if_neg h2] at h
        replace h2 := Bool.eq_false_iff.2 h2
        rw [← Option.some.inj h]
        exact loop_out (path (ob_v (len_ts GStep.ts_map (l := a1)) (ob_b h1 (ob_b h1 (ob_b h1 (ob_b h1 (ob_b h2 ob)))))) (by kernel_rfl)) (fun h => by cases h)
    · rw [if_neg h1] at h
      replace h1 := Bool.eq_false_iff.2 h1
      rw [← Option.some.inj h]
      exact loop_out (path (ob_v (len_ts GStep.ts_map (l := a1)) (ob_b h1 (ob_b h1 (ob_b h1 (ob_b h1 (ob_b (rfl : false = false) ob)))))) (by kernel_rfl)) (fun h => by cases h)
theorem ref12_steps_l1.ok (ht : TabOk t call) (n : Nat) (a1 : List GStep) (a2 a3 a4 a5 : Int) (r : _) (h : ref12_steps_l1 t n n a1 a2 a3 a4 a5 = some r) : exec (env Tryd.prog 29 Tryd.f29 call) n (sub [1, 1, 0, 1, 0] (bodyOf Tryd.f29)) (mkSt 57 57 [(0, (.t (.sl false 14 (GStep.ts a1)))), (1, (.t (.v (.int .i64 a2)))), (2, (.t (.v (.int .i64 a3)))), (7, (.t (.v (.int .i64 a4)))), (8, (.t (.v (.int .i64 a5))))] []) = some (ref12_steps_l1.to r) := by
  have e1 : sub [1, 1, 0, 1, 0] (bodyOf Tryd.f29) = .loop (sub [1, 1, 0, 1, 0, 0] (bodyOf Tryd.f29)) := by kernel_rfl
  rw [e1, exec]
  exact ref12_steps_l1.okL ht n n a1 a2 a3 a4 a5 r h
theorem ref12_steps.ok {n : Nat} {t : Tab} (ht : TabOk t (run Tryd.prog own kp X n)) : ∀ (p1 : List GStep) (p2 : Int) (p3 : Int) r, ref12_steps t n p1 p2 p3 = some r → run Tryd.prog own kp X (n + 1) 29 [(.t (.sl false 14 (GStep.ts p1))), (.t (.v (.int .i64 p2))), (.t (.v (.int .i64 p3)))] [] = some ((.t (.v (.int .i64 r))), []) := by
  intro p1 p2 p3 r h
  obtain ⟨a1, rfl⟩ : ∃ z_, z_ = p1 := ⟨_, rfl⟩
  obtain ⟨a2, rfl⟩ : ∃ z_, z_ = p2 := ⟨_, rfl⟩
  obtain ⟨a3, rfl⟩ : ∃ z_, z_ = p3 := ⟨_, rfl⟩
  rw [ref12_steps] at h
  rcases h1 : ref12_steps_l1 t n n a1 a2 a3 0 0 with _ | q_
  · rw [h1] at h; cases h
  rw [h1] at h
  obtain ⟨a4, a5, a6, a7, a8, a9⟩ := q_
  dsimp only at h
  rw [← Option.some.inj h]
  exact run_path Tryd.func29 (ob_k (ref12_steps_l1.ok ht n _ _ _ _ _ _ h1) ob) (by kernel_rfl)
theorem ref12_nest_l3.okL (ht : TabOk t call) (n : Nat) : ∀ (k : Nat) (a1 : List GStep) (a2 a3 a4 : Int) (a5 : List (List GStep)) (a6 : Int) (r : _), ref12_nest_l3 t n k a1 a2 a3 a4 a5 a6 = some r → loopN (exec (env Tryd.prog 30 Tryd.f30 call) n (sub [1, 1, 0, 1, 0, 0, 1, 0, 0, 1, 1, 0, 0] (bodyOf Tryd.f30))) k (mkSt 41 41 [(0, (.t (.sl false 14 (GStep.ts a1)))), (1, (.t (.v (.int .i64 a2)))), (5, (.t (.v (.int .i64 a3)))), (6, (.t (.v (.int .i64 a4)))), (7, (.t (.sl false 1 (rows_GStep_ts a5)))), (8, (.t (.v (.int .i64 a6))))] []) = some (ref12_nest_l3.to r)
  | 0, a1, a2, a3, a4, a5, a6, r, h => by rw [ref12_nest_l3] at h; cases h
  | k + 1, a1, a2, a3, a4, a5, a6, r, h => by
    rw [ref12_nest_l3] at h
    by_cases h1 : (decide (a6 < (a5.length : Int))) = true
    · rw [if_pos h1] at h
      by_cases h2 : (decide (0 ≤ (a6 : Int))) = true
      case neg => rw [if_neg h2] at h; cases h
      rw [if_pos h2] at h
      rcases h3 : a5[(a6 : Int).toNat]? with _ | a7
      · rw [h3] at h; cases h
      rw [h3] at h
      dsimp only at h
      rcases h4 : t.ref12_nest a7 (IntKind.wrap .i64 (a2 - 1)) with _ | a8
      · rw [h4] at h; cases h
      rw [h4] at h
      dsimp only at h
      exact loop_more (path (ob_v (len_ts rows_GStep_ts_map (l := a5)) (ob_b h1 (ob_n h2 (ob_t (look_ts rows_GStep_ts_map h3) (ob_c (ht.ref12_nest _ _ _ h4) ob))))) (by kernel_rfl)) (ref12_nest_l3.okL ht n k _ _ _ _ _ _ _ h)
    · rw [if_neg h1] at h
      replace h1 := Bool.eq_false_iff.2 h1
      rw [← Option.some.inj h]
      exact loop_out (path (ob_v (len_ts rows_GStep_ts_map (l := a5)) (ob_b h1 ob)) (by kernel_rfl)) (fun h => by cases h)
theorem ref12_nest_l3.ok (ht : TabOk t call) (n : Nat) (a1 : List GStep) (a2 a3 a4 : Int) (a5 : List (List GStep)) (a6 : Int) (r : _) (h : ref12_nest_l3 t n n a1 a2 a3 a4 a5 a6 = some r) : exec (env Tryd.prog 30 Tryd.f30 call) n (sub [1, 1, 0, 1, 0, 0, 1, 0, 0, 1, 1, 0] (bodyOf Tryd.f30)) (mkSt 41 41 [(0, (.t (.sl false 14 (GStep.ts a1)))), (1, (.t (.v (.int .i64 a2)))), (5, (.t (.v (.int .i64 a3)))), (6, (.t (.v (.int .i64 a4)))), (7, (.t (.sl false 1 (rows_GStep_ts a5)))), (8, (.t (.v (.int .i64 a6))))] []) = some (ref12_nest_l3.to r) := by
  have e1 : sub [1, 1, 0, 1, 0, 0, 1, 0, 0, 1, 1, 0] (bodyOf Tryd.f30) = .loop (sub [1, 1, 0, 1, 0, 0, 1, 0, 0, 1, 1, 0, 0] (bodyOf Tryd.f30)) := by kernel_rfl
  rw [e1, exec]
  exact ref12_nest_l3.okL ht n n a1 a2 a3 a4 a5 a6 r h
theorem ref12_nest_j2.ok (ht : TabOk t call) (n : Nat) (a1 : List GStep) (a2 a3 a4 : Int) (r : _) (h : ref12_nest_j2 t n a1 a2 a3 a4 = some r) : exec (env Tryd.prog 30 Tryd.f30 call) n (sub [1, 1, 0, 1, 0, 0, 1] (bodyOf Tryd.f30)) (mkSt 41 41 [(0, (.t (.sl false 14 (GStep.ts a1)))), (1, (.t (.v (.int .i64 a2)))), (5, (.t (.v (.int .i64 a3)))), (6, (.t (.v (.int .i64 a4))))] []) = some (ref12_nest_j2.to r) := by
  rw [ref12_nest_j2] at h
  by_cases h1 : (decide (0 ≤ (a4 : Int))) = true
  case neg => rw [if_neg h1] at h; cases h
  rw [if_pos h1] at h
  rcases h2 : a1[(a4 : Int).toNat]? with _ | ⟨a5, a6, a7, ⟨a8, a9, a10, a11, a12⟩, ⟨a13, a14, a15⟩, a16, a17, a18⟩
  · rw [h2] at h; cases h
  rw [h2] at h
  dsimp only at h
  rcases h3 : t.ref12_Inner (GStep.mk a5 a6 a7 (GValue.mk a8 a9 a10 a11 a12) (GPred.mk a13 a14 a15) a16 a17 a18) with _ | a19
  · rw [h3] at h; cases h
  rw [h3] at h
  dsimp only at h
  rcases h4 : ref12_nest_l3 t n n a1 a2 a3 a4 a19 0 with _ | q_
  · rw [h4] at h; cases h
  rw [h4] at h
  obtain ⟨a20, a21, a22, a23, a24, a25, a26⟩ := q_
  dsimp only at h
  rw [← Option.some.inj h]
  exact path (ob_n h1 (ob_t (look_ts GStep.ts_map h2) (ob_c (ht.ref12_Inner _ _ h3) (ob_k (ref12_nest_l3.ok ht n _ _ _ _ _ _ _ h4) ob)))) (by kernel_rfl)
theorem ref12_nest_l1.okL (ht : TabOk t call) (n : Nat) : ∀ (k : Nat) (a1 : List GStep) (a2 a3 a4 : Int) (r : _), ref12_nest_l1 t n k a1 a2 a3 a4 = some r → loopN (exec (env Tryd.prog 30 Tryd.f30 call) n (sub [1, 1, 0, 1, 0, 0] (bodyOf Tryd.f30))) k (mkSt 41 41 [(0, (.t (.sl false 14 (GStep.ts a1)))), (1, (.t (.v (.int .i64 a2)))), (5, (.t (.v (.int .i64 a3)))), (6, (.t (.v (.int .i64 a4))))] []) = some (ref12_nest_l1.to r)
  | 0, a1, a2, a3, a4, r, h => by rw [ref12_nest_l1] at h; cases h
  | k + 1, a1, a2, a3, a4, r, h => by
    rw [ref12_nest_l1] at h
    by_cases h1 : (decide (a4 < (a1.length : Int))) = true
    · rw [if_pos h1] at h
      by_cases h2 : (decide (a2 > 0)) = true
      · rw [if_pos h2] at h
        rcases h3 : ref12_nest_j2 t n  a1 a2 a3 a4 with _ | q_
        · rw [h3] at h; cases h
        rw [h3] at h
        obtain ⟨a5, a6, a7, a8⟩ := q_
        dsimp only at h
        exact loop_more (path (ob_v (len_ts GStep.ts_map (l := a1)) (ob_b h1 (ob_b h1 (ob_b h1 (ob_b h2 (ob_j (ref12_nest_j2.ok ht n _ _ _ _ _ h3) ob)))))) (by kernel_rfl)) (ref12_nest_l1.okL ht n k _ _ _ _ _ h)
      · rw [if_neg h2] at h
        replace h2 := Bool.eq_false_iff.2 h2
        rw [← Option.some.inj h]
        exact loop_out (path (ob_v (len_ts GStep.ts_map (l := a1)) (ob_b h1 (ob_b h1 (ob_b h1 (ob_b h2 ob))))) (by kernel_rfl)) (fun h => by cases h)
    · rw [if_neg h1] at h
      replace h1 := Bool.eq_false_iff.2 h1
      rw [← Option.some.inj h]
      exact loop_out (path (ob_v (len_ts GStep.ts_map (l := a1)) (ob_b h1 (ob_b h1 (ob_b h1 (ob_b (rfl : false = false) ob))))) (by kernel_rfl)) (fun h => by cases h)
theorem ref12_nest_l1.ok (ht : TabOk t call) (n : Nat) (a1 : List GStep) (a2 a3 a4 : Int) (r : _) (h : ref12_nest_l1 t n n a1 a2 a3 a4 = some r) : exec (env Tryd.prog 30 Tryd.f30 call) n (sub [1, 1, 0, 1, 0] (bodyOf Tryd.f30)) (mkSt 41 41 [(0, (.t (.sl false 14 (GStep.ts a1)))), (1, (.t (.v (.int .i64 a2)))), (5, (.t (.v (.int .i64 a3)))), (6, (.t (.v (.int .i64 a4))))] []) = some (ref12_nest_l1.to r) := by
  have e1 : sub [1, 1, 0, 1, 0] (bodyOf Tryd.f30) = .loop (sub [1, 1, 0, 1, 0, 0] (bodyOf Tryd.f30)) := by kernel_rfl
  rw [e1, exec]
  exact ref12_nest_l1.okL ht n n a1 a2 a3 a4 r h
theorem ref12_nest.ok {n : Nat} {t : Tab} (ht : TabOk t (run Tryd.prog own kp X n)) : ∀ (p1 : List GStep) (p2 : Int) r, ref12_nest t n p1 p2 = some r → run Tryd.prog own kp X (n + 1) 30 [(.t (.sl false 14 (GStep.ts p1))), (.t (.v (.int .i64 p2)))] [] = some ((.t (.v (.int .i64 r))), []) := by
  intro p1 p2 r h
  obtain ⟨a1, rfl⟩ : ∃ z_, z_ = p1 := ⟨_, rfl⟩
  obtain ⟨a2, rfl⟩ : ∃ z_, z_ = p2 := ⟨_, rfl⟩
  rw [ref12_nest] at h
  rcases h1 : ref12_nest_l1 t n n a1 a2 0 0 with _ | q_
  · rw [h1] at h; cases h
  rw [h1] at h
  obtain ⟨a3, a4, a5, a6, a7⟩ := q_
  dsimp only at h
  rw [← Option.some.inj h]
  exact run_path Tryd.func30 (ob_k (ref12_nest_l1.ok ht n _ _ _ _ _ h1) ob) (by kernel_rfl)
theorem plan_steps_j3.ok (ht : TabOk t call) (n : Nat) (a1 a2 a3 : Int) (a4 a5 : List GStep) (a6 a7 : Int) (a8 : List (List GStep)) (a9 a10 : Int) (a11 : Bool) (r : _) (h : plan_steps_j3 t n a1 a2 a3 a4 a5 a6 a7 a8 a9 a10 a11 = some r) : exec (env Tryd.prog 26 Tryd.f26 call) n (sub [1, 1, 0, 1, 0, 0, 1, 1, 0, 0, 1, 1, 1, 0, 0, 1, 1, 0, 0, 1, 1] (bodyOf Tryd.f26)) (mkSt 50 50 [(1, (.t (.v (.int .i64 a1)))), (2, (.t (.v (.int .i64 a2)))), (7, (.t (.v (.int .i64 a3)))), (11, (.t (.sl false 14 (GStep.ts a4)))), (12, (.t (.sl false 14 (GStep.ts a5)))), (13, (.t (.v (.int .i64 a6)))), (14, (.t (.v (.int .i64 a7)))), (25, (.t (.sl false 1 (rows_GStep_ts a8)))), (26, (.t (.v (.int .i64 a9)))), (27, (.t (.v (.int .i64 a10)))), (37, (.t (.v (.bool a11))))] []) = some (plan_steps_j3.to r) := by
  rw [plan_steps_j3] at h
  by_cases h1 : a11 = true
  · rw [if_pos h1] at h
    rcases h2 : t.plan_steps a4 (IntKind.wrap .i64 (a1 - a3)) (IntKind.wrap .i64 (a2 + 1)) with _ | a12
    · rw [h2] at h; cases h
    rw [h2] at h
    dsimp only at h
    rw [← Option.some.inj h]
    exact path (ob_b h1 (ob_c (ht.plan_steps _ _ _ _ h2) ob)) (by kernel_rfl)
  · rw [if_neg h1] at h
    replace h1 := Bool.eq_false_iff.2 h1
    rw [← Option.some.inj h]
    exact path (ob_b h1 ob) (by kernel_rfl)
theorem plan_steps_l2.okL (ht : TabOk t call) (n : Nat) : ∀ (k : Nat) (a1 a2 a3 : Int) (a4 : List GStep) (a5 a6 : Int) (a7 : List (List GStep)) (a8 a9 : Int) (r : _), plan_steps_l2 t n k a1 a2 a3 a4 a5 a6 a7 a8 a9 = some r → loopN (exec (env Tryd.prog 26 Tryd.f26 call) n (sub [1, 1, 0, 1, 0, 0, 1, 1, 0, 0, 1, 1, 1, 0, 0] (bodyOf Tryd.f26))) k (mkSt 50 50 [(1, (.t (.v (.int .i64 a1)))), (2, (.t (.v (.int .i64 a2)))), (7, (.t (.v (.int .i64 a3)))), (12, (.t (.sl false 14 (GStep.ts a4)))), (13, (.t (.v (.int .i64 a5)))), (14, (.t (.v (.int .i64 a6)))), (25, (.t (.sl false 1 (rows_GStep_ts a7)))), (26, (.t (.v (.int .i64 a8)))), (27, (.t (.v (.int .i64 a9))))] []) = some (plan_steps_l2.to r)
  | 0, a1, a2, a3, a4, a5, a6, a7, a8, a9, r, h => by rw [plan_steps_l2] at h; cases h
  | k + 1, a1, a2, a3, a4, a5, a6, a7, a8, a9, r, h => by
    rw [plan_steps_l2] at h
    by_cases h1 : (decide (a9 < a8)) = true
    · rw [if_pos h1] at h
      by_cases h2 : (decide (0 ≤ (a9 : Int))) = true
      case neg => rw [if_neg h2] at h; cases h
      rw [if_pos h2] at h
      rcases h3 : a7[(a9 : Int).toNat]? with _ | a10
      · rw [h3] at h; cases h
      rw [h3] at h
      dsimp only at h
      by_cases h4 : (decide (a2 ≤ 11)) = true
      · rw [if_pos h4] at h
        rcases h5 : plan_steps_j3 t n  a1 a2 a3 a10 a4 a5 a6 a7 a8 a9 (decide (a3 < a1)) with _ | q_
        · rw [h5] at h; cases h
        rw [h5] at h
        obtain ⟨a11, a12, a13, a14, a15, a16, a17, a18, a19⟩ := q_
        dsimp only at h
        exact loop_more (path (ob_b h1 (ob_n h2 (ob_t (look_ts rows_GStep_ts_map h3) (ob_b h4 (ob_b h4 (ob_b h4 (ob_b h4 (ob_j (plan_steps_j3.ok ht n _ _ _ _ _ _ _ _ _ _ _ _ h5) ob)))))))) (by kernel_rfl)) (plan_steps_l2.okL ht n k _ _ _ _ _ _ _ _ _ _ h)
      · rw [if_neg h4] at h
        replace h4 := Bool.eq_false_iff.2 h4
        rcases h6 : plan_steps_j3 t n  a1 a2 a3 a10 a4 a5 a6 a7 a8 a9 false with _ | q_
        · rw [h6] at h; cases h
        rw [h6] at h
        obtain ⟨a20, a21, a22, a23, a24, a25, a26, a27, a28⟩ := q_
        dsimp only at h
        exact loop_more (path (ob_b h1 (ob_n h2 (ob_t (look_ts rows_GStep_ts_map h3) (ob_b h4 (ob_b h4 (ob_b h4 (ob_b h4 (ob_j (plan_steps_j3.ok ht n _ _ _ _ _ _ _ _ _ _ _ _ h6) ob)))))))) (by kernel_rfl)) (plan_steps_l2.okL ht n k _ _ _ _ _ _ _ _ _ _ h)
    · rw [if_neg h1] at h
      replace h1 := Bool.eq_false_iff.2 h1
      rw [← Option.some.inj h]
      exact loop_out (path (ob_b h1 ob) (by kernel_rfl)) (fun h => by cases h)
theorem plan_steps_l2.ok (ht : TabOk t call) (n : Nat) (a1 a2 a3 : Int) (a4 : List GStep) (a5 a6 : Int) (a7 : List (List GStep)) (a8 a9 : Int) (r : _) (h : plan_steps_l2 t n n a1 a2 a3 a4 a5 a6 a7 a8 a9 = some r) : exec (env Tryd.prog 26 Tryd.f26 call) n (sub [1, 1, 0, 1, 0, 0, 1, 1, 0, 0, 1, 1, 1, 0] (bodyOf Tryd.f26)) (mkSt 50 50 [(1, (.t (.v (.int .i64 a1)))), (2, (.t (.v (.int .i64 a2)))), (7, (.t (.v (.int .i64 a3)))), (12, (.t (.sl false 14 (GStep.ts a4)))), (13, (.t (.v (.int .i64 a5)))), (14, (.t (.v (.int .i64 a6)))), (25, (.t (.sl false 1 (rows_GStep_ts a7)))), (26, (.t (.v (.int .i64 a8)))), (27, (.t (.v (.int .i64 a9))))] []) = some (plan_steps_l2.to r) := by
  have e1 : sub [1, 1, 0, 1, 0, 0, 1, 1, 0, 0, 1, 1, 1, 0] (bodyOf Tryd.f26) = .loop (sub [1, 1, 0, 1, 0, 0, 1, 1, 0, 0, 1, 1, 1, 0, 0] (bodyOf Tryd.f26)) := by kernel_rfl
  rw [e1, exec]
  exact plan_steps_l2.okL ht n n a1 a2 a3 a4 a5 a6 a7 a8 a9 r h
theorem plan_steps_l1.okL (ht : TabOk t call) (n : Nat) : ∀ (k : Nat) (a1 a2 a3 : Int) (a4 : List GStep) (a5 a6 : Int) (r : _), plan_steps_l1 t n k a1 a2 a3 a4 a5 a6 = some r → loopN (exec (env Tryd.prog 26 Tryd.f26 call) n (sub [1, 1, 0, 1, 0, 0] (bodyOf Tryd.f26))) k (mkSt 50 50 [(1, (.t (.v (.int .i64 a1)))), (2, (.t (.v (.int .i64 a2)))), (7, (.t (.v (.int .i64 a3)))), (12, (.t (.sl false 14 (GStep.ts a4)))), (13, (.t (.v (.int .i64 a5)))), (14, (.t (.v (.int .i64 a6))))] []) = some (plan_steps_l1.to r)
  | 0, a1, a2, a3, a4, a5, a6, r, h => by rw [plan_steps_l1] at h; cases h
  | k + 1, a1, a2, a3, a4, a5, a6, r, h => by
    rw [plan_steps_l1] at h
    by_cases h1 : (decide (a6 < a5)) = true
    · rw [if_pos h1] at h
      by_cases h2 : (decide (0 ≤ (a6 : Int))) = true
      case neg => rw [if_neg h2] at h; cases h
      rw [if_pos h2] at h
      rcases h3 : a4[(a6 : Int).toNat]? with _ | ⟨a7, a8, a9, ⟨a10, a11, a12, a13, a14⟩, ⟨a15, a16, a17⟩, a18, a19, a20⟩
      · rw [h3] at h; cases h
      rw [h3] at h
      dsimp only at h
      by_cases h4 : (decide ((IntKind.wrap .i64 (a3 + 1)) ≥ a1)) = true
      · rw [if_pos h4] at h
        rw [← Option.some.inj h]
        exact loop_out (path (ob_b h1 (ob_n h2 (ob_t (look_ts GStep.ts_map h3) (ob_b h4 ob)))) (by kernel_rfl)) (fun h => by cases h)
      · rw [if_neg h4] at h
        replace h4 := Bool.eq_false_iff.2 h4
        rcases h5 : t.plan_inner (GStep.mk a7 a8 a9 (GValue.mk a10 a11 a12 a13 a14) (GPred.mk a15 a16 a17) a18 a19 a20) with _ | a21
        · rw [h5] at h; cases h
        rw [h5] at h
        dsimp only at h
        rcases h6 : plan_steps_l2 t n n a1 a2 (IntKind.wrap .i64 (a3 + 1)) a4 a5 a6 a21 (a21.length : Int) 0 with _ | q_
        · rw [h6] at h; cases h
        rw [h6] at h
        obtain ⟨a22, a23, a24, a25, a26, a27, a28, a29, a30, a31⟩ := q_
        dsimp only at h
        exact loop_more (path (ob_b h1 (ob_n h2 (ob_t (look_ts GStep.ts_map h3) (ob_b h4 (ob_c (ht.plan_inner _ _ h5) (ob_v (len_ts rows_GStep_ts_map (l := a21)) (ob_k (plan_steps_l2.ok ht n _ _ _ _ _ _ _ _ _ _ h6) ob))))))) (by kernel_rfl)) (plan_steps_l1.okL ht n k _ _ _ _ _ _ _ h)
    · rw [if_neg h1] at h
      replace h1 := Bool.eq_false_iff.2 h1
      rw [← Option.some.inj h]
      exact loop_out (path (ob_b h1 ob) (by kernel_rfl)) (fun h => by cases h)
theorem plan_steps_l1.ok (ht : TabOk t call) (n : Nat) (a1 a2 a3 : Int) (a4 : List GStep) (a5 a6 : Int) (r : _) (h : plan_steps_l1 t n n a1 a2 a3 a4 a5 a6 = some r) : exec (env Tryd.prog 26 Tryd.f26 call) n (sub [1, 1, 0, 1, 0] (bodyOf Tryd.f26)) (mkSt 50 50 [(1, (.t (.v (.int .i64 a1)))), (2, (.t (.v (.int .i64 a2)))), (7, (.t (.v (.int .i64 a3)))), (12, (.t (.sl false 14 (GStep.ts a4)))), (13, (.t (.v (.int .i64 a5)))), (14, (.t (.v (.int .i64 a6))))] []) = some (plan_steps_l1.to r) := by
  have e1 : sub [1, 1, 0, 1, 0] (bodyOf Tryd.f26) = .loop (sub [1, 1, 0, 1, 0, 0] (bodyOf Tryd.f26)) := by kernel_rfl
  rw [e1, exec]
  exact plan_steps_l1.okL ht n n a1 a2 a3 a4 a5 a6 r h
theorem plan_steps.ok {n : Nat} {t : Tab} (ht : TabOk t (run Tryd.prog own kp X n)) : ∀ (p1 : List GStep) (p2 : Int) (p3 : Int) r, plan_steps t n p1 p2 p3 = some r → run Tryd.prog own kp X (n + 1) 26 [(.t (.sl false 14 (GStep.ts p1))), (.t (.v (.int .i64 p2))), (.t (.v (.int .i64 p3)))] [] = some ((.t (.v (.int .i64 r))), []) := by
  intro p1 p2 p3 r h
  obtain ⟨a1, rfl⟩ : ∃ z_, z_ = p1 := ⟨_, rfl⟩
  obtain ⟨a2, rfl⟩ : ∃ z_, z_ = p2 := ⟨_, rfl⟩
  obtain ⟨a3, rfl⟩ : ∃ z_, z_ = p3 := ⟨_, rfl⟩
  rw [plan_steps] at h
  rcases h1 : plan_steps_l1 t n n a2 a3 0 a1 (a1.length : Int) 0 with _ | q_
  · rw [h1] at h; cases h
  rw [h1] at h
  rcases q_ with a4 | ⟨a5, a6, a7, a8, a9, a10, a11⟩
  · dsimp only at h
    rw [← Option.some.inj h]
    exact run_path Tryd.func26 (ob_v (len_ts GStep.ts_map (l := a1)) (ob_k (plan_steps_l1.ok ht n _ _ _ _ _ _ _ h1) ob)) (by kernel_rfl)
  · dsimp only at h
    rw [← Option.some.inj h]
    exact run_path Tryd.func26 (ob_v (len_ts GStep.ts_map (l := a1)) (ob_k (plan_steps_l1.ok ht n _ _ _ _ _ _ _ h1) ob)) (by kernel_rfl)
theorem plan_plan_Uses_1.ok {n : Nat} {t : Tab} (ht : TabOk t (run Tryd.prog own kp X n)) : ∀ (p1 : List GStep) (p2 : List Int) r, plan_plan_Uses_1 t n p1 p2 = some r → run Tryd.prog own kp X (n + 1) 21 [(.t (.sl false 14 (GStep.ts p1))), (.fn 22 [(.ref (.sl false 1 (ints_i64 p2)))])] [] = some ((.t (.v (.bool r))), []) := by
  intro p1 p2 r h
  obtain ⟨a1, rfl⟩ : ∃ z_, z_ = p1 := ⟨_, rfl⟩
  obtain ⟨a2, rfl⟩ : ∃ z_, z_ = p2 := ⟨_, rfl⟩
  rw [plan_plan_Uses_1] at h
  obtain ⟨a3, rfl⟩ : ∃ z_, z_ = r := ⟨_, rfl⟩
  have h1 := h
  exact run_path Tryd.func21 (ob_c (ht.slices_ContainsFunc_plan_some_1 _ _ _ h1) ob) (by kernel_rfl)
theorem plan_plan_Free_1.ok {n : Nat} {t : Tab} (ht : TabOk t (run Tryd.prog own kp X n)) : ∀ (p1 : List GStep) r, plan_plan_Free_1 t n p1 = some r → run Tryd.prog own kp X (n + 1) 21 [(.t (.sl false 14 (GStep.ts p1))), (.fn 28 [])] [] = some ((.t (.v (.bool r))), []) := by
  intro p1 r h
  obtain ⟨a1, rfl⟩ : ∃ z_, z_ = p1 := ⟨_, rfl⟩
  rw [plan_plan_Free_1] at h
  obtain ⟨a2, rfl⟩ : ∃ z_, z_ = r := ⟨_, rfl⟩
  have h1 := h
  exact run_path Tryd.func21 (ob_c (ht.slices_ContainsFunc_plan_some_1_i2 _ _ h1) ob) (by kernel_rfl)
theorem slices_EqualFunc_plan_Same_1_l1.okL (ht : TabOk t call) (n : Nat) : ∀ (k : Nat) (a1 a2 : List GStep) (a3 a4 : Int) (r : _), slices_EqualFunc_plan_Same_1_l1 t n k a1 a2 a3 a4 = some r → loopN (exec (env Tryd.prog 31 Tryd.f31 call) n (sub [1, 1, 0, 1, 0, 0] (bodyOf Tryd.f31))) k (mkSt 32 32 [(1, (.t (.sl false 14 (GStep.ts a1)))), (2, (.fn 32 [])), (15, (.t (.sl false 14 (GStep.ts a2)))), (16, (.t (.v (.int .i64 a3)))), (17, (.t (.v (.int .i64 a4))))] []) = some (slices_EqualFunc_plan_Same_1_l1.to r)
  | 0, a1, a2, a3, a4, r, h => by rw [slices_EqualFunc_plan_Same_1_l1] at h; cases h
  | k + 1, a1, a2, a3, a4, r, h => by
    rw [slices_EqualFunc_plan_Same_1_l1] at h
    by_cases h1 : (decide (a4 < a3)) = true
    · rw [if_pos h1] at h
      by_cases h2 : (decide (0 ≤ (a4 : Int))) = true
      case neg => rw [if_neg h2] at h; cases h
      rw [if_pos h2] at h
      rcases h3 : a2[(a4 : Int).toNat]? with _ | ⟨a5, a6, a7, ⟨a8, a9, a10, a11, a12⟩, ⟨a13, a14, a15⟩, a16, a17, a18⟩
      · rw [h3] at h; cases h
      rw [h3] at h
      dsimp only at h
      rcases h4 : a1[(a4 : Int).toNat]? with _ | ⟨a19, a20, a21, ⟨a22, a23, a24, a25, a26⟩, ⟨a27, a28, a29⟩, a30, a31, a32⟩
      · rw [h4] at h; cases h
      rw [h4] at h
      dsimp only at h
      rcases h5 : t.plan_Same_1 (GStep.mk a5 a6 a7 (GValue.mk a8 a9 a10 a11 a12) (GPred.mk a13 a14 a15) a16 a17 a18) (GStep.mk a19 a20 a21 (GValue.mk a22 a23 a24 a25 a26) (GPred.mk a27 a28 a29) a30 a31 a32) with _ | a33
      · rw [h5] at h; cases h
      rw [h5] at h
      dsimp only at h
      by_cases h6 : a33 = true
      · rw [if_pos h6] at h
        exact loop_more (path (ob_b h1 (ob_n h2 (ob_t (look_ts GStep.ts_map h3) (ob_n h2 (ob_t (look_ts GStep.ts_map h4) (ob_c (ht.plan_Same_1 _ _ _ h5) (ob_b (congrArg (!·) h6) ob))))))) (by kernel_rfl)) (slices_EqualFunc_plan_Same_1_l1.okL ht n k _ _ _ _ _ h)
      · rw [if_neg h6] at h
        replace h6 := Bool.eq_false_iff.2 h6
        rw [← Option.some.inj h]
        exact loop_out (path (ob_b h1 (ob_n h2 (ob_t (look_ts GStep.ts_map h3) (ob_n h2 (ob_t (look_ts GStep.ts_map h4) (ob_c (ht.plan_Same_1 _ _ _ h5) (ob_b (congrArg (!·) h6) ob))))))) (by kernel_rfl)) (fun h => by cases h)
    · rw [if_neg h1] at h
      replace h1 := Bool.eq_false_iff.2 h1
      rw [← Option.some.inj h]
      exact loop_out (path (ob_b h1 ob) (by kernel_rfl)) (fun h => by cases h)
theorem slices_EqualFunc_plan_Same_1_l1.ok (ht : TabOk t call) (n : Nat) (a1 a2 : List GStep) (a3 a4 : Int) (r : _) (h : slices_EqualFunc_plan_Same_1_l1 t n n a1 a2 a3 a4 = some r) : exec (env Tryd.prog 31 Tryd.f31 call) n (sub [1, 1, 0, 1, 0] (bodyOf Tryd.f31)) (mkSt 32 32 [(1, (.t (.sl false 14 (GStep.ts a1)))), (2, (.fn 32 [])), (15, (.t (.sl false 14 (GStep.ts a2)))), (16, (.t (.v (.int .i64 a3)))), (17, (.t (.v (.int .i64 a4))))] []) = some (slices_EqualFunc_plan_Same_1_l1.to r) := by
  have e1 : sub [1, 1, 0, 1, 0] (bodyOf Tryd.f31) = .loop (sub [1, 1, 0, 1, 0, 0] (bodyOf Tryd.f31)) := by kernel_rfl
  rw [e1, exec]
  exact slices_EqualFunc_plan_Same_1_l1.okL ht n n a1 a2 a3 a4 r h
theorem slices_EqualFunc_plan_Same_1.ok {n : Nat} {t : Tab} (ht : TabOk t (run Tryd.prog own kp X n)) : ∀ (p1 : List GStep) (p2 : List GStep) r, slices_EqualFunc_plan_Same_1 t n p1 p2 = some r → run Tryd.prog own kp X (n + 1) 31 [(.t (.sl false 14 (GStep.ts p1))), (.t (.sl false 14 (GStep.ts p2))), (.fn 32 [])] [] = some ((.t (.v (.bool r))), []) := by
  intro p1 p2 r h
  obtain ⟨a1, rfl⟩ : ∃ z_, z_ = p1 := ⟨_, rfl⟩
  obtain ⟨a2, rfl⟩ : ∃ z_, z_ = p2 := ⟨_, rfl⟩
  rw [slices_EqualFunc_plan_Same_1] at h
  by_cases h1 : ((a1.length : Int) != (a2.length : Int)) = true
  · rw [if_pos h1] at h
    rw [← Option.some.inj h]
    exact run_path Tryd.func31 (ob_v (len_ts GStep.ts_map (l := a1)) (ob_v (len_ts GStep.ts_map (l := a2)) (ob_b h1 ob))) (by kernel_rfl)
  · rw [if_neg h1] at h
    replace h1 := Bool.eq_false_iff.2 h1
    rcases h2 : slices_EqualFunc_plan_Same_1_l1 t n n a2 a1 (a1.length : Int) 0 with _ | q_
    · rw [h2] at h; cases h
    rw [h2] at h
    rcases q_ with a3 | ⟨a4, a5, a6, a7, a8⟩
    · dsimp only at h
      rw [← Option.some.inj h]
      exact run_path Tryd.func31 (ob_v (len_ts GStep.ts_map (l := a1)) (ob_v (len_ts GStep.ts_map (l := a2)) (ob_b h1 (ob_v (len_ts GStep.ts_map (l := a1)) (ob_k (slices_EqualFunc_plan_Same_1_l1.ok ht n _ _ _ _ _ h2) ob))))) (by kernel_rfl)
    · dsimp only at h
      rw [← Option.some.inj h]
      exact run_path Tryd.func31 (ob_v (len_ts GStep.ts_map (l := a1)) (ob_v (len_ts GStep.ts_map (l := a2)) (ob_b h1 (ob_v (len_ts GStep.ts_map (l := a1)) (ob_k (slices_EqualFunc_plan_Same_1_l1.ok ht n _ _ _ _ _ h2) ob))))) (by kernel_rfl)
theorem ref02_Count_j2.ok (ht : TabOk t call) (n : Nat) (a1 a2 a3 a4 a5 : Int) (a6 : ByteArray) (a7 a8 : List GValue) (r : _) (h : ref02_Count_j2 t n a1 a2 a3 a4 a5 a6 a7 a8 = some r) : exec (env Tryd.prog 40 Tryd.f40 call) n (sub [1, 1, 0, 1, 0, 0, 1] (bodyOf Tryd.f40)) (mkSt 60 60 [(1, (.t (.v (.int .i64 a1)))), (2, (.ptr 2 0 [] 0)), (5, (.t (.v (.int .i64 a2)))), (6, (.t (.v (.int .i64 a3))))] [(2, (.t (.st [(.v (.int .i64 a4)), (.v (.int .i64 a5)), (.v (.string a6)), (.sl false 5 (GValue.ts a7)), (.sl false 5 (GValue.ts a8))])))]) = some (ref02_Count_j2.to r) := by
  rw [ref02_Count_j2] at h
  by_cases h1 : (decide (0 ≤ (a3 : Int))) = true
  case neg => rw [if_neg h1] at h; cases h
  rw [if_pos h1] at h
  rcases h2 : a7[(a3 : Int).toNat]? with _ | ⟨a9, a10, a11, a12, a13⟩
  · rw [h2] at h; cases h
  rw [h2] at h
  dsimp only at h
  rcases h3 : t.ref02_Count (GValue.mk a9 a10 a11 a12 a13) (IntKind.wrap .i64 (a1 - a2)) with _ | a14
  · rw [h3] at h; cases h
  rw [h3] at h
  dsimp only at h
  rw [← Option.some.inj h]
  exact path (ob_n h1 (ob_t (look_ts GValue.ts_map h2) (ob_c (ht.ref02_Count _ _ _ h3) ob))) (by kernel_rfl)
theorem ref02_Count_l1.okL (ht : TabOk t call) (n : Nat) : ∀ (k : Nat) (a1 a2 a3 a4 a5 : Int) (a6 : ByteArray) (a7 a8 : List GValue) (r : _), ref02_Count_l1 t n k a1 a2 a3 a4 a5 a6 a7 a8 = some r → loopN (exec (env Tryd.prog 40 Tryd.f40 call) n (sub [1, 1, 0, 1, 0, 0] (bodyOf Tryd.f40))) k (mkSt 60 60 [(1, (.t (.v (.int .i64 a1)))), (2, (.ptr 2 0 [] 0)), (5, (.t (.v (.int .i64 a2)))), (6, (.t (.v (.int .i64 a3))))] [(2, (.t (.st [(.v (.int .i64 a4)), (.v (.int .i64 a5)), (.v (.string a6)), (.sl false 5 (GValue.ts a7)), (.sl false 5 (GValue.ts a8))])))]) = some (ref02_Count_l1.to r)
  | 0, a1, a2, a3, a4, a5, a6, a7, a8, r, h => by rw [ref02_Count_l1] at h; cases h
  | k + 1, a1, a2, a3, a4, a5, a6, a7, a8, r, h => by
    rw [ref02_Count_l1] at h
    by_cases h1 : (decide (a3 < (a7.length : Int))) = true
    · rw [if_pos h1] at h
      by_cases h2 : (decide (a2 < a1)) = true
      · rw [if_pos h2] at h
        rcases h3 : ref02_Count_j2 t n  a1 a2 a3 a4 a5 a6 a7 a8 with _ | q_
        · rw [h3] at h; cases h
        rw [h3] at h
        obtain ⟨a9, a10, a11, a12, a13, a14, a15, a16⟩ := q_
        dsimp only at h
        exact loop_more (path (ob_v (len_ts GValue.ts_map (l := a7)) (ob_b h1 (ob_b h1 (ob_b h1 (ob_b h1 (ob_b h2 (ob_j (ref02_Count_j2.ok ht n _ _ _ _ _ _ _ _ _ h3) ob))))))) (by kernel_rfl)) (ref02_Count_l1.okL ht n k _ _ _ _ _ _ _ _ _ h)
      · rw [if_neg h2] at h
        replace h2 := Bool.eq_false_iff.2 h2
        rw [← Option.some.inj h]
        exact loop_out (path (ob_v (len_ts GValue.ts_map (l := a7)) (ob_b h1 (ob_b h1 (ob_b h1 (ob_b h1 (ob_b h2 ob)))))) (by kernel_rfl)) (fun h => by cases h)
    · rw [if_neg h1] at h
      replace h1 := Bool.eq_false_iff.2 h1
      rw [← Option.some.inj h]
      exact loop_out (path (ob_v (len_ts GValue.ts_map (l := a7)) (ob_b h1 (ob_b h1 (ob_b h1 (ob_b h1 (ob_b (rfl : false = false) ob)))))) (by kernel_rfl)) (fun h => by cases h)
theorem ref02_Count_l1.ok (ht : TabOk t call) (n : Nat) (a1 a2 a3 a4 a5 : Int) (a6 : ByteArray) (a7 a8 : List GValue) (r : _) (h : ref02_Count_l1 t n n a1 a2 a3 a4 a5 a6 a7 a8 = some r) : exec (env Tryd.prog 40 Tryd.f40 call) n (sub [1, 1, 0, 1, 0] (bodyOf Tryd.f40)) (mkSt 60 60 [(1, (.t (.v (.int .i64 a1)))), (2, (.ptr 2 0 [] 0)), (5, (.t (.v (.int .i64 a2)))), (6, (.t (.v (.int .i64 a3))))] [(2, (.t (.st [(.v (.int .i64 a4)), (.v (.int .i64 a5)), (.v (.string a6)), (.sl false 5 (GValue.ts a7)), (.sl false 5 (GValue.ts a8))])))]) = some (ref02_Count_l1.to r) := by
  have e1 : sub [1, 1, 0, 1, 0] (bodyOf Tryd.f40) = .loop (sub [1, 1, 0, 1, 0, 0] (bodyOf Tryd.f40)) := by kernel_rfl
  rw [e1, exec]
  exact ref02_Count_l1.okL ht n n a1 a2 a3 a4 a5 a6 a7 a8 r h
theorem ref02_Count_j5.ok (ht : TabOk t call) (n : Nat) (a1 a2 a3 a4 a5 : Int) (a6 : ByteArray) (a7 a8 : List GValue) (r : _) (h : ref02_Count_j5 t n a1 a2 a3 a4 a5 a6 a7 a8 = some r) : exec (env Tryd.prog 40 Tryd.f40 call) n (sub [1, 1, 1, 0, 1, 0, 0, 1] (bodyOf Tryd.f40)) (mkSt 60 60 [(1, (.t (.v (.int .i64 a1)))), (2, (.ptr 2 0 [] 0)), (5, (.t (.v (.int .i64 a2)))), (7, (.t (.v (.int .i64 a3))))] [(2, (.t (.st [(.v (.int .i64 a4)), (.v (.int .i64 a5)), (.v (.string a6)), (.sl false 5 (GValue.ts a7)), (.sl false 5 (GValue.ts a8))])))]) = some (ref02_Count_j5.to r) := by
  rw [ref02_Count_j5] at h
  by_cases h1 : (decide (0 ≤ (a3 : Int))) = true
  case neg => rw [if_neg h1] at h; cases h
  rw [if_pos h1] at h
  rcases h2 : a8[(a3 : Int).toNat]? with _ | ⟨a9, a10, a11, a12, a13⟩
  · rw [h2] at h; cases h
  rw [h2] at h
  dsimp only at h
  rcases h3 : t.ref02_Count (GValue.mk a9 a10 a11 a12 a13) (IntKind.wrap .i64 (a1 - a2)) with _ | a14
  · rw [h3] at h; cases h
  rw [h3] at h
  dsimp only at h
  rw [← Option.some.inj h]
  exact path (ob_n h1 (ob_t (look_ts GValue.ts_map h2) (ob_c (ht.ref02_Count _ _ _ h3) ob))) (by kernel_rfl)
theorem ref02_Count_l4.okL (ht : TabOk t call) (n : Nat) : ∀ (k : Nat) (a1 a2 a3 a4 a5 : Int) (a6 : ByteArray) (a7 a8 : List GValue) (r : _), ref02_Count_l4 t n k a1 a2 a3 a4 a5 a6 a7 a8 = some r → loopN (exec (env Tryd.prog 40 Tryd.f40 call) n (sub [1, 1, 1, 0, 1, 0, 0] (bodyOf Tryd.f40))) k (mkSt 60 60 [(1, (.t (.v (.int .i64 a1)))), (2, (.ptr 2 0 [] 0)), (5, (.t (.v (.int .i64 a2)))), (7, (.t (.v (.int .i64 a3))))] [(2, (.t (.st [(.v (.int .i64 a4)), (.v (.int .i64 a5)), (.v (.string a6)), (.sl false 5 (GValue.ts a7)), (.sl false 5 (GValue.ts a8))])))]) = some (ref02_Count_l4.to r)
  | 0, a1, a2, a3, a4, a5, a6, a7, a8, r, h => by rw [ref02_Count_l4] at h; cases h
  | k + 1, a1, a2, a3, a4, a5, a6, a7, a8, r, h => by
    rw [ref02_Count_l4] at h
    by_cases h1 : (decide (a3 < (a8.length : Int))) = true
    · rw [if_pos h1] at h
      by_cases h2 : (decide (a2 < a1)) = true
      · rw [if_pos h2] at h
        rcases h3 : ref02_Count_j5 t n  a1 a2 a3 a4 a5 a6 a7 a8 with _ | q_
        · rw [h3] at h; cases h
        rw [h3] at h
        obtain ⟨a9, a10, a11, a12, a13, a14, a15, a16⟩ := q_
        dsimp only at h
        exact loop_more (path (ob_v (len_ts GValue.ts_map (l := a8)) (ob_b h1 (ob_b h1 (ob_b h1 (ob_b h1 (ob_b h2 (ob_j (ref02_Count_j5.ok ht n _ _ _ _ _ _ _ _ _ h3) ob))))))) (by kernel_rfl)) (ref02_Count_l4.okL ht n k _ _ _ _ _ _ _ _ _ h)
      · rw [if_neg h2] at h
        replace h2 := Bool.eq_false_iff.2 h2
        rw [← Option.some.inj h]
        exact loop_out (path (ob_v (len_ts GValue.ts_map (l := a8)) (ob_b h1 (ob_b h1 (ob_b h1 (ob_b h1 (ob_b h2 ob)))))) (by kernel_rfl)) (fun h => by cases h)
    · rw [if_neg h1] at h
      replace h1 := Bool.eq_false_iff.2 h1
      rw [← Option.some.inj h]
      exact loop_out (path (ob_v (len_ts GValue.ts_map (l := a8)) (ob_b h1 (ob_b h1 (ob_b h1 (ob_b h1 (ob_b (rfl : false = false) ob)))))) (by kernel_rfl)) (fun h => by cases h)
theorem ref02_Count_l4.ok (ht : TabOk t call) (n : Nat) (a1 a2 a3 a4 a5 : Int) (a6 : ByteArray) (a7 a8 : List GValue) (r : _) (h : ref02_Count_l4 t n n a1 a2 a3 a4 a5 a6 a7 a8 = some r) : exec (env Tryd.prog 40 Tryd.f40 call) n (sub [1, 1, 1, 0, 1, 0] (bodyOf Tryd.f40)) (mkSt 60 60 [(1, (.t (.v (.int .i64 a1)))), (2, (.ptr 2 0 [] 0)), (5, (.t (.v (.int .i64 a2)))), (7, (.t (.v (.int .i64 a3))))] [(2, (.t (.st [(.v (.int .i64 a4)), (.v (.int .i64 a5)), (.v (.string a6)), (.sl false 5 (GValue.ts a7)), (.sl false 5 (GValue.ts a8))])))]) = some (ref02_Count_l4.to r) := by
  have e1 : sub [1, 1, 1, 0, 1, 0] (bodyOf Tryd.f40) = .loop (sub [1, 1, 1, 0, 1, 0, 0] (bodyOf Tryd.f40)) := by kernel_rfl
  rw [e1, exec]
  exact ref02_Count_l4.okL ht n n a1 a2 a3 a4 a5 a6 a7 a8 r h
theorem ref02_Count_j6.ok (ht : TabOk t call) (n : Nat) (a1 a2 a3 : Int) (a4 : ByteArray) (a5 a6 : List GValue) (r : _) (h : ref02_Count_j6 t n a1 a2 a3 a4 a5 a6 = some r) : exec (env Tryd.prog 40 Tryd.f40 call) n (sub [1, 1, 1, 1] (bodyOf Tryd.f40)) (mkSt 60 60 [(2, (.ptr 2 0 [] 0)), (5, (.t (.v (.int .i64 a1))))] [(2, (.t (.st [(.v (.int .i64 a2)), (.v (.int .i64 a3)), (.v (.string a4)), (.sl false 5 (GValue.ts a5)), (.sl false 5 (GValue.ts a6))])))]) = some (ref02_Count_j6.to r) := by
  rw [ref02_Count_j6] at h
  rcases h1 : quoI .i64 (a4.size : Int) 20 with _ | a7
  · rw [h1] at h; cases h
  rw [h1] at h
  dsimp only at h
  rw [← Option.some.inj h]
  exact path (ob_v (quo_ok (P := Tryd.prog) (t := 3) (x := (.tmp 57)) (y := (.const (.int .i64 20))) h1) ob) (by kernel_rfl)
theorem ref02_Count_j3.ok (ht : TabOk t call) (n : Nat) (a1 a2 a3 a4 : Int) (a5 : ByteArray) (a6 a7 : List GValue) (r : _) (h : ref02_Count_j3 t n a1 a2 a3 a4 a5 a6 a7 = some r) : exec (env Tryd.prog 40 Tryd.f40 call) n (sub [1, 1, 1] (bodyOf Tryd.f40)) (mkSt 60 60 [(1, (.t (.v (.int .i64 a1)))), (2, (.ptr 2 0 [] 0)), (5, (.t (.v (.int .i64 a2))))] [(2, (.t (.st [(.v (.int .i64 a3)), (.v (.int .i64 a4)), (.v (.string a5)), (.sl false 5 (GValue.ts a6)), (.sl false 5 (GValue.ts a7))])))]) = some (ref02_Count_j3.to r) := by
  rw [ref02_Count_j3] at h
  rcases h1 : ref02_Count_l4 t n n a1 a2 0 a3 a4 a5 a6 a7 with _ | q_
  · rw [h1] at h; cases h
  rw [h1] at h
  obtain ⟨a8, a9, a10, a11, a12, a13, a14, a15, a16⟩ := q_
  dsimp only at h
  obtain ⟨a17, rfl⟩ : ∃ z_, z_ = r := ⟨_, rfl⟩
  have h2 := h
  exact path (ob_k (ref02_Count_l4.ok ht n _ _ _ _ _ _ _ _ _ h1) (ob_j (ref02_Count_j6.ok ht n _ _ _ _ _ _ _ h2) ob)) (by kernel_rfl)
theorem ref02_Count.ok {n : Nat} {t : Tab} (ht : TabOk t (run Tryd.prog own kp X n)) : ∀ (p1 : GValue) (p2 : Int) r, ref02_Count t n p1 p2 = some r → run Tryd.prog own kp X (n + 1) 40 [(.t (GValue.t p1)), (.t (.v (.int .i64 p2)))] [] = some ((.t (.v (.int .i64 r))), []) := by
  intro p1 p2 r h
  obtain ⟨a1, a2, a3, a4, a5⟩ := p1
  obtain ⟨a6, rfl⟩ : ∃ z_, z_ = p2 := ⟨_, rfl⟩
  rw [ref02_Count] at h
  rcases h1 : ref02_Count_l1 t n n a6 1 0 a1 a2 a3 a4 a5 with _ | q_
  · rw [h1] at h; cases h
  rw [h1] at h
  obtain ⟨a7, a8, a9, a10, a11, a12, a13, a14, a15⟩ := q_
  dsimp only at h
  obtain ⟨a16, rfl⟩ : ∃ z_, z_ = r := ⟨_, rfl⟩
  have h2 := h
  exact run_path Tryd.func40 (ob_k (ref02_Count_l1.ok ht n _ _ _ _ _ _ _ _ _ h1) (ob_j (ref02_Count_j3.ok ht n _ _ _ _ _ _ _ _ h2) ob)) (by kernel_rfl)
theorem ref09_Count_j2.ok (ht : TabOk t call) (n : Nat) (a1 a2 a3 a4 : Int) (a5 : List GValue) (a6 : List GPred) (r : _) (h : ref09_Count_j2 t n a1 a2 a3 a4 a5 a6 = some r) : exec (env Tryd.prog 41 Tryd.f41 call) n (sub [1, 1, 0, 1, 0, 0, 1] (bodyOf Tryd.f41)) (mkSt 36 36 [(1, (.t (.v (.int .i64 a1)))), (2, (.ptr 2 0 [] 0)), (5, (.t (.v (.int .i64 a2)))), (6, (.t (.v (.int .i64 a3))))] [(2, (.t (.st [(.v (.int .i64 a4)), (.sl false 5 (GValue.ts a5)), (.sl false 3 (GPred.ts a6))])))]) = some (ref09_Count_j2.to r) := by
  rw [ref09_Count_j2] at h
  by_cases h1 : (decide (0 ≤ (a3 : Int))) = true
  case neg => rw [if_neg h1] at h; cases h
  rw [if_pos h1] at h
  rcases h2 : a6[(a3 : Int).toNat]? with _ | ⟨a7, a8, a9⟩
  · rw [h2] at h; cases h
  rw [h2] at h
  dsimp only at h
  rcases h3 : t.ref09_Count (GPred.mk a7 a8 a9) (IntKind.wrap .i64 (a1 - a2)) with _ | a10
  · rw [h3] at h; cases h
  rw [h3] at h
  dsimp only at h
  rw [← Option.some.inj h]
  exact path (ob_n h1 (ob_t (look_ts GPred.ts_map h2) (ob_c (ht.ref09_Count _ _ _ h3) ob))) (by kernel_rfl)
theorem ref09_Count_l1.okL (ht : TabOk t call) (n : Nat) : ∀ (k : Nat) (a1 a2 a3 a4 : Int) (a5 : List GValue) (a6 : List GPred) (r : _), ref09_Count_l1 t n k a1 a2 a3 a4 a5 a6 = some r → loopN (exec (env Tryd.prog 41 Tryd.f41 call) n (sub [1, 1, 0, 1, 0, 0] (bodyOf Tryd.f41))) k (mkSt 36 36 [(1, (.t (.v (.int .i64 a1)))), (2, (.ptr 2 0 [] 0)), (5, (.t (.v (.int .i64 a2)))), (6, (.t (.v (.int .i64 a3))))] [(2, (.t (.st [(.v (.int .i64 a4)), (.sl false 5 (GValue.ts a5)), (.sl false 3 (GPred.ts a6))])))]) = some (ref09_Count_l1.to r)
  | 0, a1, a2, a3, a4, a5, a6, r, h => by rw [ref09_Count_l1] at h; cases h
  | k + 1, a1, a2, a3, a4, a5, a6, r, h => by
    rw [ref09_Count_l1] at h
    by_cases h1 : (decide (a3 < (a6.length : Int))) = true
    · rw [if_pos h1] at h
      by_cases h2 : (decide (a2 < a1)) = true
      · rw [if_pos h2] at h
        rcases h3 : ref09_Count_j2 t n  a1 a2 a3 a4 a5 a6 with _ | q_
        · rw [h3] at h; cases h
        rw [h3] at h
        obtain ⟨a7, a8, a9, a10, a11, a12⟩ := q_
        dsimp only at h
        exact loop_more (path (ob_v (len_ts GPred.ts_map (l := a6)) (ob_b h1 (ob_b h1 (ob_b h1 (ob_b h1 (ob_b h2 (ob_j (ref09_Count_j2.ok ht n _ _ _ _ _ _ _ h3) ob))))))) (by kernel_rfl)) (ref09_Count_l1.okL ht n k _ _ _ _ _ _ _ h)
      · rw [if_neg h2] at h
        replace h2 := Bool.eq_false_iff.2 h2
        rw [← Option.some.inj h]
        exact loop_out (path (ob_v (len_ts GPred.ts_map (l := a6)) (ob_b h1 (ob_b h1 (ob_b h1 (ob_b h1 (ob_b h2 ob)))))) (by kernel_rfl)) (fun h => by cases h)
    · rw [if_neg h1] at h
      replace h1 := Bool.eq_false_iff.2 h1
      rw [← Option.some.inj h]
      exact loop_out (path (ob_v (len_ts GPred.ts_map (l := a6)) (ob_b h1 (ob_b h1 (ob_b h1 (ob_b h1 (ob_b (rfl : false = false) ob)))))) (by kernel_rfl)) (fun h => by cases h)
theorem ref09_Count_l1.ok (ht : TabOk t call) (n : Nat) (a1 a2 a3 a4 : Int) (a5 : List GValue) (a6 : List GPred) (r : _) (h : ref09_Count_l1 t n n a1 a2 a3 a4 a5 a6 = some r) : exec (env Tryd.prog 41 Tryd.f41 call) n (sub [1, 1, 0, 1, 0] (bodyOf Tryd.f41)) (mkSt 36 36 [(1, (.t (.v (.int .i64 a1)))), (2, (.ptr 2 0 [] 0)), (5, (.t (.v (.int .i64 a2)))), (6, (.t (.v (.int .i64 a3))))] [(2, (.t (.st [(.v (.int .i64 a4)), (.sl false 5 (GValue.ts a5)), (.sl false 3 (GPred.ts a6))])))]) = some (ref09_Count_l1.to r) := by
  have e1 : sub [1, 1, 0, 1, 0] (bodyOf Tryd.f41) = .loop (sub [1, 1, 0, 1, 0, 0] (bodyOf Tryd.f41)) := by kernel_rfl
  rw [e1, exec]
  exact ref09_Count_l1.okL ht n n a1 a2 a3 a4 a5 a6 r h
theorem ref09_Count.ok {n : Nat} {t : Tab} (ht : TabOk t (run Tryd.prog own kp X n)) : ∀ (p1 : GPred) (p2 : Int) r, ref09_Count t n p1 p2 = some r → run Tryd.prog own kp X (n + 1) 41 [(.t (GPred.t p1)), (.t (.v (.int .i64 p2)))] [] = some ((.t (.v (.int .i64 r))), []) := by
  intro p1 p2 r h
  obtain ⟨a1, a2, a3⟩ := p1
  obtain ⟨a4, rfl⟩ : ∃ z_, z_ = p2 := ⟨_, rfl⟩
  rw [ref09_Count] at h
  rcases h1 : t.ref02_Many a2 a4 with _ | a5
  · rw [h1] at h; cases h
  rw [h1] at h
  dsimp only at h
  rcases h2 : ref09_Count_l1 t n n a4 (IntKind.wrap .i64 (1 + a5)) 0 a1 a2 a3 with _ | q_
  · rw [h2] at h; cases h
  rw [h2] at h
  obtain ⟨a6, a7, a8, a9, a10, a11, a12⟩ := q_
  dsimp only at h
  rw [← Option.some.inj h]
  exact run_path Tryd.func41 (ob_c (ht.ref02_Many _ _ _ h1) (ob_k (ref09_Count_l1.ok ht n _ _ _ _ _ _ _ h2) ob)) (by kernel_rfl)
theorem ref12_Inner_j2.ok (ht : TabOk t call) (n : Nat) (a1 : List (List GStep)) (a2 : Int) (a3 : Bool) (a4 : Int) (a5 : List ByteArray) (a6 : List Int) (a7 a8 : Int) (a9 : ByteArray) (a10 a11 : List GValue) (a12 : Int) (a13 : List GValue) (a14 : List GPred) (a15 : List (List GStep)) (a16 : List GBy) (a17 : List ByteArray) (r : _) (h : ref12_Inner_j2 t n a1 a2 a3 a4 a5 a6 a7 a8 a9 a10 a11 a12 a13 a14 a15 a16 a17 = some r) : exec (env Tryd.prog 24 Tryd.f24 call) n (sub [1, 1, 1, 0, 1, 0, 0, 1, 0, 0, 1] (bodyOf Tryd.f24)) (mkSt 43 43 [(1, (.ptr 1 0 [] 0)), (3, (.t (.sl true 1 (rows_GStep_ts a1)))), (4, (.t (.v (.int .i64 a2)))), (32, (.t (.v (.bool a3))))] [(1, (.t (.st [(.v (.int .i64 a4)), (.sl false 1 (texts a5)), (.sl false 1 (ints_i64 a6)), (.st [(.v (.int .i64 a7)), (.v (.int .i64 a8)), (.v (.string a9)), (.sl false 5 (GValue.ts a10)), (.sl false 5 (GValue.ts a11))]), (.st [(.v (.int .i64 a12)), (.sl false 5 (GValue.ts a13)), (.sl false 3 (GPred.ts a14))]), (.sl false 1 (rows_GStep_ts a15)), (.sl false 4 (GBy.ts a16)), (.sl false 1 (texts a17))])))]) = some (ref12_Inner_j2.to r) := by
  rw [ref12_Inner_j2] at h
  by_cases h1 : a3 = true
  · rw [if_pos h1] at h
    by_cases h2 : (decide (0 ≤ (a2 : Int))) = true
    case neg => rw [if_neg h2] at h; cases h
    rw [if_pos h2] at h
    rcases h3 : a16[(a2 : Int).toNat]? with _ | ⟨a18, a19, a20, a21⟩
    · rw [h3] at h; cases h
    rw [h3] at h
    dsimp only at h
    by_cases h4 : (a1.length + ([a20] : List (List GStep)).length) * 24 ≤ 140737488355328
    case neg => rw [if_neg h4] at h; cases h
    rw [if_pos h4] at h
    rw [← Option.some.inj h]
    exact path (ob_b h1 (ob_n h2 (ob_t (look_ts GBy.ts_map h3) (ob_le (room_ts rows_GStep_ts_map h4) (ob_l (app_ts rows_GStep_ts_map (a := a1) (b := ([a20] : List (List GStep)))) ob))))) (by kernel_rfl)
  · rw [if_neg h1] at h
    replace h1 := Bool.eq_false_iff.2 h1
    rw [← Option.some.inj h]
    exact path (ob_b h1 ob) (by kernel_rfl)
theorem ref12_Inner_l1.okL (ht : TabOk t call) (n : Nat) : ∀ (k : Nat) (a1 : List (List GStep)) (a2 a3 : Int) (a4 : List ByteArray) (a5 : List Int) (a6 a7 : Int) (a8 : ByteArray) (a9 a10 : List GValue) (a11 : Int) (a12 : List GValue) (a13 : List GPred) (a14 : List (List GStep)) (a15 : List GBy) (a16 : List ByteArray) (r : _), ref12_Inner_l1 t n k a1 a2 a3 a4 a5 a6 a7 a8 a9 a10 a11 a12 a13 a14 a15 a16 = some r → loopN (exec (env Tryd.prog 24 Tryd.f24 call) n (sub [1, 1, 1, 0, 1, 0, 0] (bodyOf Tryd.f24))) k (mkSt 43 43 [(1, (.ptr 1 0 [] 0)), (3, (.t (.sl true 1 (rows_GStep_ts a1)))), (4, (.t (.v (.int .i64 a2))))] [(1, (.t (.st [(.v (.int .i64 a3)), (.sl false 1 (texts a4)), (.sl false 1 (ints_i64 a5)), (.st [(.v (.int .i64 a6)), (.v (.int .i64 a7)), (.v (.string a8)), (.sl false 5 (GValue.ts a9)), (.sl false 5 (GValue.ts a10))]), (.st [(.v (.int .i64 a11)), (.sl false 5 (GValue.ts a12)), (.sl false 3 (GPred.ts a13))]), (.sl false 1 (rows_GStep_ts a14)), (.sl false 4 (GBy.ts a15)), (.sl false 1 (texts a16))])))]) = some (ref12_Inner_l1.to r)
  | 0, a1, a2, a3, a4, a5, a6, a7, a8, a9, a10, a11, a12, a13, a14, a15, a16, r, h => by rw [ref12_Inner_l1] at h; cases h
  | k + 1, a1, a2, a3, a4, a5, a6, a7, a8, a9, a10, a11, a12, a13, a14, a15, a16, r, h => by
    rw [ref12_Inner_l1] at h
    by_cases h1 : (decide (a2 < (a15.length : Int))) = true
    · rw [if_pos h1] at h
      by_cases h2 : (decide (0 ≤ (a2 : Int))) = true
      case neg => rw [if_neg h2] at h; cases h
      rw [if_pos h2] at h
      rcases h3 : a15[(a2 : Int).toNat]? with _ | ⟨a17, a18, a19, a20⟩
      · rw [h3] at h; cases h
      rw [h3] at h
      dsimp only at h
      by_cases h4 : (a17 == 3) = true
      · rw [if_pos h4] at h
        rcases h5 : ref12_Inner_j2 t n  a1 a2 true a3 a4 a5 a6 a7 a8 a9 a10 a11 a12 a13 a14 a15 a16 with _ | q_
        · rw [h5] at h; cases h
        rw [h5] at h
        obtain ⟨a21, a22, a23, a24, a25, a26, a27, a28, a29, a30, a31, a32, a33, a34, a35, a36⟩ := q_
        dsimp only at h
        exact loop_more (path (ob_v (len_ts GBy.ts_map (l := a15)) (ob_b h1 (ob_n h2 (ob_t (look_ts GBy.ts_map h3) (ob_b h4 (ob_b h4 (ob_b h4 (ob_b h4 (ob_b h4 (ob_b h4 (ob_b h4 (ob_b h4 (ob_b h4 (ob_j (ref12_Inner_j2.ok ht n _ _ _ _ _ _ _ _ _ _ _ _ _ _ _ _ _ _ h5) ob)))))))))))))) (by kernel_rfl)) (ref12_Inner_l1.okL ht n k _ _ _ _ _ _ _ _ _ _ _ _ _ _ _ _ _ h)
      · rw [if_neg h4] at h
        replace h4 := Bool.eq_false_iff.2 h4
        rcases h6 : ref12_Inner_j2 t n  a1 a2 (decide ((a19.length : Int) > 0)) a3 a4 a5 a6 a7 a8 a9 a10 a11 a12 a13 a14 a15 a16 with _ | q_
        · rw [h6] at h; cases h
        rw [h6] at h
        obtain ⟨a37, a38, a39, a40, a41, a42, a43, a44, a45, a46, a47, a48, a49, a50, a51, a52⟩ := q_
        dsimp only at h
        exact loop_more (path (ob_v (len_ts GBy.ts_map (l := a15)) (ob_b h1 (ob_n h2 (ob_t (look_ts GBy.ts_map h3) (ob_b h4 (ob_b h4 (ob_b h4 (ob_b h4 (ob_n h2 (ob_t (look_ts GBy.ts_map h3) (ob_b h4 (ob_b h4 (ob_b h4 (ob_v (len_ts GStep.ts_map (l := a19)) (ob_b h4 (ob_b h4 (ob_j (ref12_Inner_j2.ok ht n _ _ _ _ _ _ _ _ _ _ _ _ _ _ _ _ _ _ h6) ob))))))))))))))))) (by kernel_rfl)) (ref12_Inner_l1.okL ht n k _ _ _ _ _ _ _ _ _ _ _ _ _ _ _ _ _ h)
    · rw [if_neg h1] at h
      replace h1 := Bool.eq_false_iff.2 h1
      rw [← Option.some.inj h]
      exact loop_out (path (ob_v (len_ts GBy.ts_map (l := a15)) (ob_b h1 ob)) (by kernel_rfl)) (fun h => by cases h)
theorem ref12_Inner_l1.ok (ht : TabOk t call) (n : Nat) (a1 : List (List GStep)) (a2 a3 : Int) (a4 : List ByteArray) (a5 : List Int) (a6 a7 : Int) (a8 : ByteArray) (a9 a10 : List GValue) (a11 : Int) (a12 : List GValue) (a13 : List GPred) (a14 : List (List GStep)) (a15 : List GBy) (a16 : List ByteArray) (r : _) (h : ref12_Inner_l1 t n n a1 a2 a3 a4 a5 a6 a7 a8 a9 a10 a11 a12 a13 a14 a15 a16 = some r) : exec (env Tryd.prog 24 Tryd.f24 call) n (sub [1, 1, 1, 0, 1, 0] (bodyOf Tryd.f24)) (mkSt 43 43 [(1, (.ptr 1 0 [] 0)), (3, (.t (.sl true 1 (rows_GStep_ts a1)))), (4, (.t (.v (.int .i64 a2))))] [(1, (.t (.st [(.v (.int .i64 a3)), (.sl false 1 (texts a4)), (.sl false 1 (ints_i64 a5)), (.st [(.v (.int .i64 a6)), (.v (.int .i64 a7)), (.v (.string a8)), (.sl false 5 (GValue.ts a9)), (.sl false 5 (GValue.ts a10))]), (.st [(.v (.int .i64 a11)), (.sl false 5 (GValue.ts a12)), (.sl false 3 (GPred.ts a13))]), (.sl false 1 (rows_GStep_ts a14)), (.sl false 4 (GBy.ts a15)), (.sl false 1 (texts a16))])))]) = some (ref12_Inner_l1.to r) := by
  have e1 : sub [1, 1, 1, 0, 1, 0] (bodyOf Tryd.f24) = .loop (sub [1, 1, 1, 0, 1, 0, 0] (bodyOf Tryd.f24)) := by kernel_rfl
  rw [e1, exec]
  exact ref12_Inner_l1.okL ht n n a1 a2 a3 a4 a5 a6 a7 a8 a9 a10 a11 a12 a13 a14 a15 a16 r h
theorem ref12_Inner.ok {n : Nat} {t : Tab} (ht : TabOk t (run Tryd.prog own kp X n)) : ∀ (p1 : GStep) r, ref12_Inner t n p1 = some r → run Tryd.prog own kp X (n + 1) 24 [(.t (GStep.t p1))] [] = some ((.t (.sl false 1 (rows_GStep_ts r))), []) := by
  intro p1 r h
  obtain ⟨a1, a2, a3, ⟨a4, a5, a6, a7, a8⟩, ⟨a9, a10, a11⟩, a12, a13, a14⟩ := p1
  rw [ref12_Inner] at h
  by_cases h1 : (([] : List (List GStep)).length + a12.length) * 24 ≤ 140737488355328
  case neg => rw [if_neg h1] at h; cases h
  rw [if_pos h1] at h
  rcases h2 : ref12_Inner_l1 t n n (([] : List (List GStep)) ++ a12) 0 a1 a2 a3 a4 a5 a6 a7 a8 a9 a10 a11 a12 a13 a14 with _ | q_
  · rw [h2] at h; cases h
  rw [h2] at h
  obtain ⟨a15, a16, a17, a18, a19, a20, a21, a22, a23, a24, a25, a26, a27, a28, a29, a30, a31⟩ := q_
  dsimp only at h
  rw [← Option.some.inj h]
  exact run_path Tryd.func24 (ob_le (room_ts rows_GStep_ts_map h1) (ob_l (app_ts rows_GStep_ts_map (a := ([] : List (List GStep))) (b := a12)) (ob_k (ref12_Inner_l1.ok ht n _ _ _ _ _ _ _ _ _ _ _ _ _ _ _ _ _ h2) ob))) (by kernel_rfl)
theorem slices_ContainsFunc_plan_right_1.ok {n : Nat} {t : Tab} (ht : TabOk t (run Tryd.prog own kp X n)) : ∀ (p1 : List GStep) (p2 : Int) r, slices_ContainsFunc_plan_right_1 t n p1 p2 = some r → run Tryd.prog own kp X (n + 1) 43 [(.t (.sl false 14 (GStep.ts p1))), (.fn 49 [(.ref (.v (.int .i64 p2)))])] [] = some ((.t (.v (.bool r))), []) := by
  intro p1 p2 r h
  obtain ⟨a1, rfl⟩ : ∃ z_, z_ = p1 := ⟨_, rfl⟩
  obtain ⟨a2, rfl⟩ : ∃ z_, z_ = p2 := ⟨_, rfl⟩
  rw [slices_ContainsFunc_plan_right_1] at h
  rcases h1 : t.slices_IndexFunc_plan_right_1 a1 a2 with _ | a3
  · rw [h1] at h; cases h
  rw [h1] at h
  dsimp only at h
  rw [← Option.some.inj h]
  exact run_path Tryd.func43 (ob_c (ht.slices_IndexFunc_plan_right_1 _ _ _ h1) ob) (by kernel_rfl)
theorem plan_inner_j2.ok (ht : TabOk t call) (n : Nat) (a1 : List (List GStep)) (a2 : List GBy) (a3 a4 : Int) (a5 : Bool) (a6 : Int) (a7 : ByteArray) (a8 : List GStep) (a9 : Bool) (r : _) (h : plan_inner_j2 t n a1 a2 a3 a4 a5 a6 a7 a8 a9 = some r) : exec (env Tryd.prog 46 Tryd.f46 call) n (sub [1, 1, 0, 1, 0, 0, 1, 1, 0, 0, 1, 1] (bodyOf Tryd.f46)) (mkSt 32 32 [(3, (.t (.sl true 1 (rows_GStep_ts a1)))), (5, (.ptr 5 0 [] 0)), (10, (.t (.sl false 4 (GBy.ts a2)))), (11, (.t (.v (.int .i64 a3)))), (12, (.t (.v (.int .i64 a4)))), (24, (.t (.v (.bool a5))))] [(5, (.t (.st [(.v (.int .i64 a6)), (.v (.string a7)), (.sl false 14 (GStep.ts a8)), (.v (.bool a9))])))]) = some (plan_inner_j2.to r) := by
  rw [plan_inner_j2] at h
  by_cases h1 : a5 = true
  · rw [if_pos h1] at h
    by_cases h2 : (a1.length + ([a8] : List (List GStep)).length) * 24 ≤ 140737488355328
    case neg => rw [if_neg h2] at h; cases h
    rw [if_pos h2] at h
    rw [← Option.some.inj h]
    exact path (ob_b h1 (ob_le (room_ts rows_GStep_ts_map h2) (ob_l (app_ts rows_GStep_ts_map (a := a1) (b := ([a8] : List (List GStep)))) ob))) (by kernel_rfl)
  · rw [if_neg h1] at h
    replace h1 := Bool.eq_false_iff.2 h1
    rw [← Option.some.inj h]
    exact path (ob_b h1 ob) (by kernel_rfl)
theorem plan_inner_l1.okL (ht : TabOk t call) (n : Nat) : ∀ (k : Nat) (a1 : List (List GStep)) (a2 : List GBy) (a3 a4 : Int) (r : _), plan_inner_l1 t n k a1 a2 a3 a4 = some r → loopN (exec (env Tryd.prog 46 Tryd.f46 call) n (sub [1, 1, 0, 1, 0, 0] (bodyOf Tryd.f46))) k (mkSt 32 32 [(3, (.t (.sl true 1 (rows_GStep_ts a1)))), (10, (.t (.sl false 4 (GBy.ts a2)))), (11, (.t (.v (.int .i64 a3)))), (12, (.t (.v (.int .i64 a4))))] []) = some (plan_inner_l1.to r)
  | 0, a1, a2, a3, a4, r, h => by rw [plan_inner_l1] at h; cases h
  | k + 1, a1, a2, a3, a4, r, h => by
    rw [plan_inner_l1] at h
    by_cases h1 : (decide (a4 < a3)) = true
    · rw [if_pos h1] at h
      by_cases h2 : (decide (0 ≤ (a4 : Int))) = true
      case neg => rw [if_neg h2] at h; cases h
      rw [if_pos h2] at h
      rcases h3 : a2[(a4 : Int).toNat]? with _ | ⟨a5, a6, a7, a8⟩
      · rw [h3] at h; cases h
      rw [h3] at h
      dsimp only at h
      by_cases h4 : (a5 == 3) = true
      · rw [if_pos h4] at h
        rcases h5 : plan_inner_j2 t n  a1 a2 a3 a4 true a5 a6 a7 a8 with _ | q_
        · rw [h5] at h; cases h
        rw [h5] at h
        obtain ⟨a9, a10, a11, a12⟩ := q_
        dsimp only at h
        exact loop_more (path (ob_b h1 (ob_n h2 (ob_t (look_ts GBy.ts_map h3) (ob_b h4 (ob_b h4 (ob_b h4 (ob_b h4 (ob_b h4 (ob_j (plan_inner_j2.ok ht n _ _ _ _ _ _ _ _ _ _ h5) ob))))))))) (by kernel_rfl)) (plan_inner_l1.okL ht n k _ _ _ _ _ h)
      · rw [if_neg h4] at h
        replace h4 := Bool.eq_false_iff.2 h4
        rcases h6 : plan_inner_j2 t n  a1 a2 a3 a4 (decide ((a7.length : Int) > 0)) a5 a6 a7 a8 with _ | q_
        · rw [h6] at h; cases h
        rw [h6] at h
        obtain ⟨a13, a14, a15, a16⟩ := q_
        dsimp only at h
        exact loop_more (path (ob_b h1 (ob_n h2 (ob_t (look_ts GBy.ts_map h3) (ob_b h4 (ob_b h4 (ob_b h4 (ob_v (len_ts GStep.ts_map (l := a7)) (ob_b h4 (ob_b h4 (ob_j (plan_inner_j2.ok ht n _ _ _ _ _ _ _ _ _ _ h6) ob)))))))))) (by kernel_rfl)) (plan_inner_l1.okL ht n k _ _ _ _ _ h)
    · rw [if_neg h1] at h
      replace h1 := Bool.eq_false_iff.2 h1
      rw [← Option.some.inj h]
      exact loop_out (path (ob_b h1 ob) (by kernel_rfl)) (fun h => by cases h)
theorem plan_inner_l1.ok (ht : TabOk t call) (n : Nat) (a1 : List (List GStep)) (a2 : List GBy) (a3 a4 : Int) (r : _) (h : plan_inner_l1 t n n a1 a2 a3 a4 = some r) : exec (env Tryd.prog 46 Tryd.f46 call) n (sub [1, 1, 0, 1, 0] (bodyOf Tryd.f46)) (mkSt 32 32 [(3, (.t (.sl true 1 (rows_GStep_ts a1)))), (10, (.t (.sl false 4 (GBy.ts a2)))), (11, (.t (.v (.int .i64 a3)))), (12, (.t (.v (.int .i64 a4))))] []) = some (plan_inner_l1.to r) := by
  have e1 : sub [1, 1, 0, 1, 0] (bodyOf Tryd.f46) = .loop (sub [1, 1, 0, 1, 0, 0] (bodyOf Tryd.f46)) := by kernel_rfl
  rw [e1, exec]
  exact plan_inner_l1.okL ht n n a1 a2 a3 a4 r h
theorem plan_inner.ok {n : Nat} {t : Tab} (ht : TabOk t (run Tryd.prog own kp X n)) : ∀ (p1 : GStep) r, plan_inner t n p1 = some r → run Tryd.prog own kp X (n + 1) 46 [(.t (GStep.t p1))] [] = some ((.t (.sl false 1 (rows_GStep_ts r))), []) := by
  intro p1 r h
  obtain ⟨a1, a2, a3, ⟨a4, a5, a6, a7, a8⟩, ⟨a9, a10, a11⟩, a12, a13, a14⟩ := p1
  rw [plan_inner] at h
  rcases h1 : t.slices_Clone_Step a12 with _ | a15
  · rw [h1] at h; cases h
  rw [h1] at h
  dsimp only at h
  rcases h2 : plan_inner_l1 t n n a15 a13 (a13.length : Int) 0 with _ | q_
  · rw [h2] at h; cases h
  rw [h2] at h
  obtain ⟨a16, a17, a18, a19, a20⟩ := q_
  dsimp only at h
  rw [← Option.some.inj h]
  exact run_path Tryd.func46 (ob_c (ht.slices_Clone_Step _ _ h1) (ob_v (len_ts GBy.ts_map (l := a13)) (ob_k (plan_inner_l1.ok ht n _ _ _ _ _ h2) ob))) (by kernel_rfl)
theorem slices_ContainsFunc_plan_some_1.ok {n : Nat} {t : Tab} (ht : TabOk t (run Tryd.prog own kp X n)) : ∀ (p1 : List GStep) (p2 : List Int) r, slices_ContainsFunc_plan_some_1 t n p1 p2 = some r → run Tryd.prog own kp X (n + 1) 43 [(.t (.sl false 14 (GStep.ts p1))), (.fn 44 [(.fref 22 [(.ref (.sl false 1 (ints_i64 p2)))])])] [] = some ((.t (.v (.bool r))), []) := by
  intro p1 p2 r h
  obtain ⟨a1, rfl⟩ : ∃ z_, z_ = p1 := ⟨_, rfl⟩
  obtain ⟨a2, rfl⟩ : ∃ z_, z_ = p2 := ⟨_, rfl⟩
  rw [slices_ContainsFunc_plan_some_1] at h
  rcases h1 : t.slices_IndexFunc_plan_some_1 a1 a2 with _ | a3
  · rw [h1] at h; cases h
  rw [h1] at h
  dsimp only at h
  rw [← Option.some.inj h]
  exact run_path Tryd.func43 (ob_c (ht.slices_IndexFunc_plan_some_1 _ _ _ h1) ob) (by kernel_rfl)
theorem slices_ContainsFunc_plan_some_1_i2.ok {n : Nat} {t : Tab} (ht : TabOk t (run Tryd.prog own kp X n)) : ∀ (p1 : List GStep) r, slices_ContainsFunc_plan_some_1_i2 t n p1 = some r → run Tryd.prog own kp X (n + 1) 43 [(.t (.sl false 14 (GStep.ts p1))), (.fn 44 [(.fref 28 [])])] [] = some ((.t (.v (.bool r))), []) := by
  intro p1 r h
  obtain ⟨a1, rfl⟩ : ∃ z_, z_ = p1 := ⟨_, rfl⟩
  rw [slices_ContainsFunc_plan_some_1_i2] at h
  rcases h1 : t.slices_IndexFunc_plan_some_1_i2 a1 with _ | a2
  · rw [h1] at h; cases h
  rw [h1] at h
  dsimp only at h
  rw [← Option.some.inj h]
  exact run_path Tryd.func43 (ob_c (ht.slices_IndexFunc_plan_some_1_i2 _ _ h1) ob) (by kernel_rfl)
theorem plan_Same_1_j1.ok (ht : TabOk t call) (n : Nat) (a1 : Bool) (a2 : Int) (a3 : List ByteArray) (a4 : List Int) (a5 a6 : Int) (a7 : ByteArray) (a8 a9 : List GValue) (a10 : Int) (a11 : List GValue) (a12 : List GPred) (a13 : List (List GStep)) (a14 : List GBy) (a15 : List ByteArray) (a16 : Int) (a17 : List ByteArray) (a18 : List Int) (a19 a20 : Int) (a21 : ByteArray) (a22 a23 : List GValue) (a24 : Int) (a25 : List GValue) (a26 : List GPred) (a27 : List (List GStep)) (a28 : List GBy) (a29 : List ByteArray) (r : _) (h : plan_Same_1_j1 t n a1 a2 a3 a4 a5 a6 a7 a8 a9 a10 a11 a12 a13 a14 a15 a16 a17 a18 a19 a20 a21 a22 a23 a24 a25 a26 a27 a28 a29 = some r) : exec (env Tryd.prog 32 Tryd.f32 call) n (sub [1, 1] (bodyOf Tryd.f32)) (mkSt 61 61 [(2, (.ptr 2 0 [] 0)), (3, (.ptr 3 0 [] 0)), (5, (.t (.v (.bool a1))))] [(2, (.t (.st [(.v (.int .i64 a2)), (.sl false 1 (texts a3)), (.sl false 1 (ints_i64 a4)), (.st [(.v (.int .i64 a5)), (.v (.int .i64 a6)), (.v (.string a7)), (.sl false 5 (GValue.ts a8)), (.sl false 5 (GValue.ts a9))]), (.st [(.v (.int .i64 a10)), (.sl false 5 (GValue.ts a11)), (.sl false 3 (GPred.ts a12))]), (.sl false 1 (rows_GStep_ts a13)), (.sl false 4 (GBy.ts a14)), (.sl false 1 (texts a15))]))), (3, (.t (.st [(.v (.int .i64 a16)), (.sl false 1 (texts a17)), (.sl false 1 (ints_i64 a18)), (.st [(.v (.int .i64 a19)), (.v (.int .i64 a20)), (.v (.string a21)), (.sl false 5 (GValue.ts a22)), (.sl false 5 (GValue.ts a23))]), (.st [(.v (.int .i64 a24)), (.sl false 5 (GValue.ts a25)), (.sl false 3 (GPred.ts a26))]), (.sl false 1 (rows_GStep_ts a27)), (.sl false 4 (GBy.ts a28)), (.sl false 1 (texts a29))])))]) = some (plan_Same_1_j1.to r) := by
  rw [plan_Same_1_j1] at h
  by_cases h1 : a1 = true
  · rw [if_pos h1] at h
    rcases h2 : t.value_Same (GValue.mk a5 a6 a7 a8 a9) (GValue.mk a19 a20 a21 a22 a23) with _ | a30
    · rw [h2] at h; cases h
    rw [h2] at h
    dsimp only at h
    by_cases h3 : a30 = true
    · rw [if_pos h3] at h
      rcases h4 : t.plan_samePred (GPred.mk a10 a11 a12) (GPred.mk a24 a25 a26) with _ | a31
      · rw [h4] at h; cases h
      rw [h4] at h
      dsimp only at h
      by_cases h5 : a31 = true
      · rw [if_pos h5] at h
        rcases h6 : t.slices_EqualFunc_plan_Same a13 a27 with _ | a32
        · rw [h6] at h; cases h
        rw [h6] at h
        dsimp only at h
        by_cases h7 : a32 = true
        · rw [if_pos h7] at h
          obtain ⟨a33, rfl⟩ : ∃ z_, z_ = r := ⟨_, rfl⟩
          have h8 := h
          exact path (ob_b h1 (ob_b h1 (ob_b h1 (ob_b h1 (ob_b h1 (ob_c (ht.value_Same _ _ _ h2) (ob_b h1 (ob_b h3 (ob_b h3 (ob_b h3 (ob_b h3 (ob_b h3 (ob_c (ht.plan_samePred _ _ _ h4) (ob_b h3 (ob_b h5 (ob_b h5 (ob_b h5 (ob_b h5 (ob_b h5 (ob_c (ht.slices_EqualFunc_plan_Same _ _ _ h6) (ob_b h5 (ob_b h7 (ob_b h7 (ob_b h7 (ob_b h7 (ob_b h7 (ob_c (ht.slices_EqualFunc_plan_sameBy _ _ _ h8) (ob_b h7 ob)))))))))))))))))))))))))))) (by kernel_rfl)
        · rw [if_neg h7] at h
          replace h7 := Bool.eq_false_iff.2 h7
          rw [← Option.some.inj h]
          exact path (ob_b h1 (ob_b h1 (ob_b h1 (ob_b h1 (ob_b h1 (ob_c (ht.value_Same _ _ _ h2) (ob_b h1 (ob_b h3 (ob_b h3 (ob_b h3 (ob_b h3 (ob_b h3 (ob_c (ht.plan_samePred _ _ _ h4) (ob_b h3 (ob_b h5 (ob_b h5 (ob_b h5 (ob_b h5 (ob_b h5 (ob_c (ht.slices_EqualFunc_plan_Same _ _ _ h6) (ob_b h5 (ob_b h7 (ob_b h7 (ob_b h7 (ob_b h7 (ob_b h7 (ob_b h7 ob))))))))))))))))))))))))))) (by kernel_rfl)
      · rw [if_neg h5] at h
        replace h5 := Bool.eq_false_iff.2 h5
        rw [← Option.some.inj h]
        exact path (ob_b h1 (ob_b h1 (ob_b h1 (ob_b h1 (ob_b h1 (ob_c (ht.value_Same _ _ _ h2) (ob_b h1 (ob_b h3 (ob_b h3 (ob_b h3 (ob_b h3 (ob_b h3 (ob_c (ht.plan_samePred _ _ _ h4) (ob_b h3 (ob_b h5 (ob_b h5 (ob_b h5 (ob_b h5 (ob_b h5 (ob_b h5 (ob_b (rfl : false = false) (ob_b (rfl : false = false) (ob_b (rfl : false = false) (ob_b (rfl : false = false) (ob_b (rfl : false = false) (ob_b (rfl : false = false) ob)))))))))))))))))))))))))) (by kernel_rfl)
    · rw [if_neg h3] at h
      replace h3 := Bool.eq_false_iff.2 h3
      rw [← Option.some.inj h]
      exact path (ob_b h1 (ob_b h1 (ob_b h1 (ob_b h1 (ob_b h1 (ob_c (ht.value_Same _ _ _ h2) (ob_b h1 (ob_b h3 (ob_b h3 (ob_b h3 (ob_b h3 (ob_b h3 (ob_b h3 (ob_b (rfl : false = false) (ob_b (rfl : false = false) (ob_b (rfl : false = false) (ob_b (rfl : false = false) (ob_b (rfl : false = false) (ob_b (rfl : false = false) (ob_b (rfl : false = false) (ob_b (rfl : false = false) (ob_b (rfl : false = false) (ob_b (rfl : false = false) (ob_b (rfl : false = false) (ob_b (rfl : false = false) ob))))))))))))))))))))))))) (by kernel_rfl)
  · rw [if_neg h1] at h
    replace h1 := Bool.eq_false_iff.2 h1
    rw [← Option.some.inj h]
    exact path (ob_b h1 (ob_b h1 (ob_b h1 (ob_b h1 (ob_b h1 (ob_b h1 (ob_b (rfl : false = false) (ob_b (rfl : false = false) (ob_b (rfl : false = false) (ob_b (rfl : false = false) (ob_b (rfl : false = false) (ob_b (rfl : false = false) (ob_b (rfl : false = false) (ob_b (rfl : false = false) (ob_b (rfl : false = false) (ob_b (rfl : false = false) (ob_b (rfl : false = false) (ob_b (rfl : false = false) (ob_b (rfl : false = false) (ob_b (rfl : false = false) (ob_b (rfl : false = false) (ob_b (rfl : false = false) (ob_b (rfl : false = false) (ob_b (rfl : false = false) ob)))))))))))))))))))))))) (by kernel_rfl)
theorem plan_Same_1.ok {n : Nat} {t : Tab} (ht : TabOk t (run Tryd.prog own kp X n)) : ∀ (p1 : GStep) (p2 : GStep) r, plan_Same_1 t n p1 p2 = some r → run Tryd.prog own kp X (n + 1) 32 [(.t (GStep.t p1)), (.t (GStep.t p2))] [] = some ((.t (.v (.bool r))), []) := by
  intro p1 p2 r h
  obtain ⟨a1, a2, a3, ⟨a4, a5, a6, a7, a8⟩, ⟨a9, a10, a11⟩, a12, a13, a14⟩ := p1
  obtain ⟨a15, a16, a17, ⟨a18, a19, a20, a21, a22⟩, ⟨a23, a24, a25⟩, a26, a27, a28⟩ := p2
  rw [plan_Same_1] at h
  by_cases h1 : (a1 == a15) = true
  · rw [if_pos h1] at h
    rcases h2 : t.slices_Equal_string a2 a16 with _ | a29
    · rw [h2] at h; cases h
    rw [h2] at h
    dsimp only at h
    by_cases h3 : a29 = true
    · rw [if_pos h3] at h
      rcases h4 : t.slices_Equal_int a3 a17 with _ | a30
      · rw [h4] at h; cases h
      rw [h4] at h
      dsimp only at h
      by_cases h5 : a30 = true
      · rw [if_pos h5] at h
        rcases h6 : t.slices_Equal_string a14 a28 with _ | a31
        · rw [h6] at h; cases h
        rw [h6] at h
        dsimp only at h
        obtain ⟨a32, rfl⟩ : ∃ z_, z_ = r := ⟨_, rfl⟩
        have h7 := h
        exact run_path Tryd.func32 (ob_b h1 (ob_b h1 (ob_b h1 (ob_b h1 (ob_b h1 (ob_c (ht.slices_Equal_string _ _ _ h2) (ob_b h1 (ob_b h3 (ob_b h3 (ob_b h3 (ob_b h3 (ob_b h3 (ob_c (ht.slices_Equal_int _ _ _ h4) (ob_b h3 (ob_b h5 (ob_b h5 (ob_b h5 (ob_b h5 (ob_b h5 (ob_c (ht.slices_Equal_string _ _ _ h6) (ob_b h5 (ob_j (plan_Same_1_j1.ok ht n _ _ _ _ _ _ _ _ _ _ _ _ _ _ _ _ _ _ _ _ _ _ _ _ _ _ _ _ _ _ h7) ob)))))))))))))))))))))) (by kernel_rfl)
      · rw [if_neg h5] at h
        replace h5 := Bool.eq_false_iff.2 h5
        obtain ⟨a33, rfl⟩ : ∃ z_, z_ = r := ⟨_, rfl⟩
        have h8 := h
        exact run_path Tryd.func32 (ob_b h1 (ob_b h1 (ob_b h1 (ob_b h1 (ob_b h1 (ob_c (ht.slices_Equal_string _ _ _ h2) (ob_b h1 (ob_b h3 (ob_b h3 (ob_b h3 (ob_b h3 (ob_b h3 (ob_c (ht.slices_Equal_int _ _ _ h4) (ob_b h3 (ob_b h5 (ob_b h5 (ob_b h5 (ob_b h5 (ob_b h5 (ob_b h5 (ob_j (plan_Same_1_j1.ok ht n _ _ _ _ _ _ _ _ _ _ _ _ _ _ _ _ _ _ _ _ _ _ _ _ _ _ _ _ _ _ h8) ob))))))))))))))))))))) (by kernel_rfl)
    · rw [if_neg h3] at h
      replace h3 := Bool.eq_false_iff.2 h3
      obtain ⟨a34, rfl⟩ : ∃ z_, z_ = r := ⟨_, rfl⟩
      have h9 := h
      exact run_path Tryd.func32 (ob_b h1 (ob_b h1 (ob_b h1 (ob_b h1 (ob_b h1 (ob_c (ht.slices_Equal_string _ _ _ h2) (ob_b h1 (ob_b h3 (ob_b h3 (ob_b h3 (ob_b h3 (ob_b h3 (ob_b h3 (ob_b (rfl : false = false) (ob_b (rfl : false = false) (ob_b (rfl : false = false) (ob_b (rfl : false = false) (ob_b (rfl : false = false) (ob_b (rfl : false = false) (ob_j (plan_Same_1_j1.ok ht n _ _ _ _ _ _ _ _ _ _ _ _ _ _ _ _ _ _ _ _ _ _ _ _ _ _ _ _ _ _ h9) ob)))))))))))))))))))) (by kernel_rfl)
  · rw [if_neg h1] at h
    replace h1 := Bool.eq_false_iff.2 h1
    obtain ⟨a35, rfl⟩ : ∃ z_, z_ = r := ⟨_, rfl⟩
    have h10 := h
    exact run_path Tryd.func32 (ob_b h1 (ob_b h1 (ob_b h1 (ob_b h1 (ob_b h1 (ob_b h1 (ob_b (rfl : false = false) (ob_b (rfl : false = false) (ob_b (rfl : false = false) (ob_b (rfl : false = false) (ob_b (rfl : false = false) (ob_b (rfl : false = false) (ob_b (rfl : false = false) (ob_b (rfl : false = false) (ob_b (rfl : false = false) (ob_b (rfl : false = false) (ob_b (rfl : false = false) (ob_b (rfl : false = false) (ob_j (plan_Same_1_j1.ok ht n _ _ _ _ _ _ _ _ _ _ _ _ _ _ _ _ _ _ _ _ _ _ _ _ _ _ _ _ _ _ h10) ob))))))))))))))))))) (by kernel_rfl)
theorem ref02_Many_j2.ok (ht : TabOk t call) (n : Nat) (a1 : List GValue) (a2 a3 a4 : Int) (r : _) (h : ref02_Many_j2 t n a1 a2 a3 a4 = some r) : exec (env Tryd.prog 54 Tryd.f54 call) n (sub [1, 1, 0, 1, 0, 0, 1] (bodyOf Tryd.f54)) (mkSt 29 29 [(0, (.t (.sl false 5 (GValue.ts a1)))), (1, (.t (.v (.int .i64 a2)))), (5, (.t (.v (.int .i64 a3)))), (6, (.t (.v (.int .i64 a4))))] []) = some (ref02_Many_j2.to r) := by
  rw [ref02_Many_j2] at h
  by_cases h1 : (decide (0 ≤ (a4 : Int))) = true
  case neg => rw [if_neg h1] at h; cases h
  rw [if_pos h1] at h
  rcases h2 : a1[(a4 : Int).toNat]? with _ | ⟨a5, a6, a7, a8, a9⟩
  · rw [h2] at h; cases h
  rw [h2] at h
  dsimp only at h
  rcases h3 : t.ref02_Count (GValue.mk a5 a6 a7 a8 a9) (IntKind.wrap .i64 (a2 - a3)) with _ | a10
  · rw [h3] at h; cases h
  rw [h3] at h
  dsimp only at h
  rw [← Option.some.inj h]
  exact path (ob_n h1 (ob_t (look_ts GValue.ts_map h2) (ob_c (ht.ref02_Count _ _ _ h3) ob))) (by kernel_rfl)
theorem ref02_Many_l1.okL (ht : TabOk t call) (n : Nat) : ∀ (k : Nat) (a1 : List GValue) (a2 a3 a4 : Int) (r : _), ref02_Many_l1 t n k a1 a2 a3 a4 = some r → loopN (exec (env Tryd.prog 54 Tryd.f54 call) n (sub [1, 1, 0, 1, 0, 0] (bodyOf Tryd.f54))) k (mkSt 29 29 [(0, (.t (.sl false 5 (GValue.ts a1)))), (1, (.t (.v (.int .i64 a2)))), (5, (.t (.v (.int .i64 a3)))), (6, (.t (.v (.int .i64 a4))))] []) = some (ref02_Many_l1.to r)
  | 0, a1, a2, a3, a4, r, h => by rw [ref02_Many_l1] at h; cases h
  | k + 1, a1, a2, a3, a4, r, h => by
    rw [ref02_Many_l1] at h
    by_cases h1 : (decide (a4 < (a1.length : Int))) = true
    · rw [if_pos h1] at h
      by_cases h2 : (decide (a3 < a2)) = true
      · rw [if_pos h2] at h
        rcases h3 : ref02_Many_j2 t n  a1 a2 a3 a4 with _ | q_
        · rw [h3] at h; cases h
        rw [h3] at h
        obtain ⟨a5, a6, a7, a8⟩ := q_
        dsimp only at h
        exact loop_more (path (ob_v (len_ts GValue.ts_map (l := a1)) (ob_b h1 (ob_b h1 (ob_b h1 (ob_b h1 (ob_b h2 (ob_j (ref02_Many_j2.ok ht n _ _ _ _ _ h3) ob))))))) (by kernel_rfl)) (ref02_Many_l1.okL ht n k _ _ _ _ _ h)
      · rw [if_neg h2] at h
        replace h2 := Bool.eq_false_iff.2 h2
        rw [← Option.some.inj h]
        exact loop_out (path (ob_v (len_ts GValue.ts_map (l := a1)) (ob_b h1 (ob_b h1 (ob_b h1 (ob_b h1 (ob_b h2 ob)))))) (by kernel_rfl)) (fun h => by cases h)
    · rw [if_neg h1] at h
      replace h1 := Bool.eq_false_iff.2 h1
      rw [← Option.some.inj h]
      exact loop_out (path (ob_v (len_ts GValue.ts_map (l := a1)) (ob_b h1 (ob_b h1 (ob_b h1 (ob_b h1 (ob_b (rfl : false = false) ob)))))) (by kernel_rfl)) (fun h => by cases h)
theorem ref02_Many_l1.ok (ht : TabOk t call) (n : Nat) (a1 : List GValue) (a2 a3 a4 : Int) (r : _) (h : ref02_Many_l1 t n n a1 a2 a3 a4 = some r) : exec (env Tryd.prog 54 Tryd.f54 call) n (sub [1, 1, 0, 1, 0] (bodyOf Tryd.f54)) (mkSt 29 29 [(0, (.t (.sl false 5 (GValue.ts a1)))), (1, (.t (.v (.int .i64 a2)))), (5, (.t (.v (.int .i64 a3)))), (6, (.t (.v (.int .i64 a4))))] []) = some (ref02_Many_l1.to r) := by
  have e1 : sub [1, 1, 0, 1, 0] (bodyOf Tryd.f54) = .loop (sub [1, 1, 0, 1, 0, 0] (bodyOf Tryd.f54)) := by kernel_rfl
  rw [e1, exec]
  exact ref02_Many_l1.okL ht n n a1 a2 a3 a4 r h
theorem ref02_Many.ok {n : Nat} {t : Tab} (ht : TabOk t (run Tryd.prog own kp X n)) : ∀ (p1 : List GValue) (p2 : Int) r, ref02_Many t n p1 p2 = some r → run Tryd.prog own kp X (n + 1) 54 [(.t (.sl false 5 (GValue.ts p1))), (.t (.v (.int .i64 p2)))] [] = some ((.t (.v (.int .i64 r))), []) := by
  intro p1 p2 r h
  obtain ⟨a1, rfl⟩ : ∃ z_, z_ = p1 := ⟨_, rfl⟩
  obtain ⟨a2, rfl⟩ : ∃ z_, z_ = p2 := ⟨_, rfl⟩
  rw [ref02_Many] at h
  rcases h1 : ref02_Many_l1 t n n a1 a2 0 0 with _ | q_
  · rw [h1] at h; cases h
  rw [h1] at h
  obtain ⟨a3, a4, a5, a6, a7⟩ := q_
  dsimp only at h
  rw [← Option.some.inj h]
  exact run_path Tryd.func54 (ob_k (ref02_Many_l1.ok ht n _ _ _ _ _ h1) ob) (by kernel_rfl)
theorem slices_IndexFunc_plan_right_1_l1.okL (ht : TabOk t call) (n : Nat) : ∀ (k : Nat) (a1 : List GStep) (a2 a3 a4 : Int) (r : _), slices_IndexFunc_plan_right_1_l1 t n k a1 a2 a3 a4 = some r → loopN (exec (env Tryd.prog 60 Tryd.f60 call) n (sub [1, 0, 1, 0, 0] (bodyOf Tryd.f60))) k (mkSt 19 19 [(0, (.t (.sl false 14 (GStep.ts a1)))), (1, (.fn 49 [(.ref (.v (.int .i64 a2)))])), (7, (.t (.v (.int .i64 a3)))), (8, (.t (.v (.int .i64 a4))))] []) = some (slices_IndexFunc_plan_right_1_l1.to r)
  | 0, a1, a2, a3, a4, r, h => by rw [slices_IndexFunc_plan_right_1_l1] at h; cases h
  | k + 1, a1, a2, a3, a4, r, h => by
    rw [slices_IndexFunc_plan_right_1_l1] at h
    by_cases h1 : (decide (a4 < a3)) = true
    · rw [if_pos h1] at h
      by_cases h2 : (decide (0 ≤ (a4 : Int))) = true
      case neg => rw [if_neg h2] at h; cases h
      rw [if_pos h2] at h
      rcases h3 : a1[(a4 : Int).toNat]? with _ | ⟨a5, a6, a7, ⟨a8, a9, a10, a11, a12⟩, ⟨a13, a14, a15⟩, a16, a17, a18⟩
      · rw [h3] at h; cases h
      rw [h3] at h
      dsimp only at h
      rcases h4 : t.plan_right_1 (GStep.mk a5 a6 a7 (GValue.mk a8 a9 a10 a11 a12) (GPred.mk a13 a14 a15) a16 a17 a18) a2 with _ | a19
      · rw [h4] at h; cases h
      rw [h4] at h
      dsimp only at h
      by_cases h5 : a19 = true
      · rw [if_pos h5] at h
        rw [← Option.some.inj h]
        exact loop_out (path (ob_b h1 (ob_n h2 (ob_t (look_ts GStep.ts_map h3) (ob_c (ht.plan_right_1 _ _ _ h4) (ob_b h5 ob))))) (by kernel_rfl)) (fun h => by cases h)
      · rw [if_neg h5] at h
        replace h5 := Bool.eq_false_iff.2 h5
        exact loop_more (path (ob_b h1 (ob_n h2 (ob_t (look_ts GStep.ts_map h3) (ob_c (ht.plan_right_1 _ _ _ h4) (ob_b h5 ob))))) (by kernel_rfl)) (slices_IndexFunc_plan_right_1_l1.okL ht n k _ _ _ _ _ h)
    · rw [if_neg h1] at h
      replace h1 := Bool.eq_false_iff.2 h1
      rw [← Option.some.inj h]
      exact loop_out (path (ob_b h1 ob) (by kernel_rfl)) (fun h => by cases h)
theorem slices_IndexFunc_plan_right_1_l1.ok (ht : TabOk t call) (n : Nat) (a1 : List GStep) (a2 a3 a4 : Int) (r : _) (h : slices_IndexFunc_plan_right_1_l1 t n n a1 a2 a3 a4 = some r) : exec (env Tryd.prog 60 Tryd.f60 call) n (sub [1, 0, 1, 0] (bodyOf Tryd.f60)) (mkSt 19 19 [(0, (.t (.sl false 14 (GStep.ts a1)))), (1, (.fn 49 [(.ref (.v (.int .i64 a2)))])), (7, (.t (.v (.int .i64 a3)))), (8, (.t (.v (.int .i64 a4))))] []) = some (slices_IndexFunc_plan_right_1_l1.to r) := by
  have e1 : sub [1, 0, 1, 0] (bodyOf Tryd.f60) = .loop (sub [1, 0, 1, 0, 0] (bodyOf Tryd.f60)) := by kernel_rfl
  rw [e1, exec]
  exact slices_IndexFunc_plan_right_1_l1.okL ht n n a1 a2 a3 a4 r h
theorem slices_IndexFunc_plan_right_1.ok {n : Nat} {t : Tab} (ht : TabOk t (run Tryd.prog own kp X n)) : ∀ (p1 : List GStep) (p2 : Int) r, slices_IndexFunc_plan_right_1 t n p1 p2 = some r → run Tryd.prog own kp X (n + 1) 60 [(.t (.sl false 14 (GStep.ts p1))), (.fn 49 [(.ref (.v (.int .i64 p2)))])] [] = some ((.t (.v (.int .i64 r))), []) := by
  intro p1 p2 r h
  obtain ⟨a1, rfl⟩ : ∃ z_, z_ = p1 := ⟨_, rfl⟩
  obtain ⟨a2, rfl⟩ : ∃ z_, z_ = p2 := ⟨_, rfl⟩
  rw [slices_IndexFunc_plan_right_1] at h
  rcases h1 : slices_IndexFunc_plan_right_1_l1 t n n a1 a2 (a1.length : Int) 0 with _ | q_
  · rw [h1] at h; cases h
  rw [h1] at h
  rcases q_ with a3 | ⟨a4, a5, a6, a7, a8⟩
  · dsimp only at h
    rw [← Option.some.inj h]
    exact run_path Tryd.func60 (ob_v (len_ts GStep.ts_map (l := a1)) (ob_k (slices_IndexFunc_plan_right_1_l1.ok ht n _ _ _ _ _ h1) ob)) (by kernel_rfl)
  · dsimp only at h
    rw [← Option.some.inj h]
    exact run_path Tryd.func60 (ob_v (len_ts GStep.ts_map (l := a1)) (ob_k (slices_IndexFunc_plan_right_1_l1.ok ht n _ _ _ _ _ h1) ob)) (by kernel_rfl)
theorem slices_IndexFunc_plan_some_1_l1.okL (ht : TabOk t call) (n : Nat) : ∀ (k : Nat) (a1 : List GStep) (a2 : List Int) (a3 a4 : Int) (r : _), slices_IndexFunc_plan_some_1_l1 t n k a1 a2 a3 a4 = some r → loopN (exec (env Tryd.prog 60 Tryd.f60 call) n (sub [1, 0, 1, 0, 0] (bodyOf Tryd.f60))) k (mkSt 19 19 [(0, (.t (.sl false 14 (GStep.ts a1)))), (1, (.fn 44 [(.fref 22 [(.ref (.sl false 1 (ints_i64 a2)))])])), (7, (.t (.v (.int .i64 a3)))), (8, (.t (.v (.int .i64 a4))))] []) = some (slices_IndexFunc_plan_some_1_l1.to r)
  | 0, a1, a2, a3, a4, r, h => by rw [slices_IndexFunc_plan_some_1_l1] at h; cases h
  | k + 1, a1, a2, a3, a4, r, h => by
    rw [slices_IndexFunc_plan_some_1_l1] at h
    by_cases h1 : (decide (a4 < a3)) = true
    · rw [if_pos h1] at h
      by_cases h2 : (decide (0 ≤ (a4 : Int))) = true
      case neg => rw [if_neg h2] at h; cases h
      rw [if_pos h2] at h
      rcases h3 : a1[(a4 : Int).toNat]? with _ | ⟨a5, a6, a7, ⟨a8, a9, a10, a11, a12⟩, ⟨a13, a14, a15⟩, a16, a17, a18⟩
      · rw [h3] at h; cases h
      rw [h3] at h
      dsimp only at h
      rcases h4 : t.plan_some_1_plan_Uses_1 (GStep.mk a5 a6 a7 (GValue.mk a8 a9 a10 a11 a12) (GPred.mk a13 a14 a15) a16 a17 a18) a2 with _ | a19
      · rw [h4] at h; cases h
      rw [h4] at h
      dsimp only at h
      by_cases h5 : a19 = true
      · rw [if_pos h5] at h
        rw [← Option.some.inj h]
        exact loop_out (path (ob_b h1 (ob_n h2 (ob_t (look_ts GStep.ts_map h3) (ob_c (ht.plan_some_1_plan_Uses_1 _ _ _ h4) (ob_b h5 ob))))) (by kernel_rfl)) (fun h => by cases h)
      · rw [if_neg h5] at h
        replace h5 := Bool.eq_false_iff.2 h5
        exact loop_more (path (ob_b h1 (ob_n h2 (ob_t (look_ts GStep.ts_map h3) (ob_c (ht.plan_some_1_plan_Uses_1 _ _ _ h4) (ob_b h5 ob))))) (by kernel_rfl)) (slices_IndexFunc_plan_some_1_l1.okL ht n k _ _ _ _ _ h)
    · rw [if_neg h1] at h
      replace h1 := Bool.eq_false_iff.2 h1
      rw [← Option.some.inj h]
      exact loop_out (path (ob_b h1 ob) (by kernel_rfl)) (fun h => by cases h)
theorem slices_IndexFunc_plan_some_1_l1.ok (ht : TabOk t call) (n : Nat) (a1 : List GStep) (a2 : List Int) (a3 a4 : Int) (r : _) (h : slices_IndexFunc_plan_some_1_l1 t n n a1 a2 a3 a4 = some r) : exec (env Tryd.prog 60 Tryd.f60 call) n (sub [1, 0, 1, 0] (bodyOf Tryd.f60)) (mkSt 19 19 [(0, (.t (.sl false 14 (GStep.ts a1)))), (1, (.fn 44 [(.fref 22 [(.ref (.sl false 1 (ints_i64 a2)))])])), (7, (.t (.v (.int .i64 a3)))), (8, (.t (.v (.int .i64 a4))))] []) = some (slices_IndexFunc_plan_some_1_l1.to r) := by
  have e1 : sub [1, 0, 1, 0] (bodyOf Tryd.f60) = .loop (sub [1, 0, 1, 0, 0] (bodyOf Tryd.f60)) := by kernel_rfl
  rw [e1, exec]
  exact slices_IndexFunc_plan_some_1_l1.okL ht n n a1 a2 a3 a4 r h
theorem slices_IndexFunc_plan_some_1.ok {n : Nat} {t : Tab} (ht : TabOk t (run Tryd.prog own kp X n)) : ∀ (p1 : List GStep) (p2 : List Int) r, slices_IndexFunc_plan_some_1 t n p1 p2 = some r → run Tryd.prog own kp X (n + 1) 60 [(.t (.sl false 14 (GStep.ts p1))), (.fn 44 [(.fref 22 [(.ref (.sl false 1 (ints_i64 p2)))])])] [] = some ((.t (.v (.int .i64 r))), []) := by
  intro p1 p2 r h
  obtain ⟨a1, rfl⟩ : ∃ z_, z_ = p1 := ⟨_, rfl⟩
  obtain ⟨a2, rfl⟩ : ∃ z_, z_ = p2 := ⟨_, rfl⟩
  rw [slices_IndexFunc_plan_some_1] at h
  rcases h1 : slices_IndexFunc_plan_some_1_l1 t n n a1 a2 (a1.length : Int) 0 with _ | q_
  · rw [h1] at h; cases h
  rw [h1] at h
  rcases q_ with a3 | ⟨a4, a5, a6, a7, a8⟩
  · dsimp only at h
    rw [← Option.some.inj h]
    exact run_path Tryd.func60 (ob_v (len_ts GStep.ts_map (l := a1)) (ob_k (slices_IndexFunc_plan_some_1_l1.ok ht n _ _ _ _ _ h1) ob)) (by kernel_rfl)
  · dsimp only at h
    rw [← Option.some.inj h]
    exact run_path Tryd.func60 (ob_v (len_ts GStep.ts_map (l := a1)) (ob_k (slices_IndexFunc_plan_some_1_l1.ok ht n _ _ _ _ _ h1) ob)) (by kernel_rfl)
theorem slices_IndexFunc_plan_some_1_i2_l1.okL (ht : TabOk t call) (n : Nat) : ∀ (k : Nat) (a1 : List GStep) (a2 a3 : Int) (r : _), slices_IndexFunc_plan_some_1_i2_l1 t n k a1 a2 a3 = some r → loopN (exec (env Tryd.prog 60 Tryd.f60 call) n (sub [1, 0, 1, 0, 0] (bodyOf Tryd.f60))) k (mkSt 19 19 [(0, (.t (.sl false 14 (GStep.ts a1)))), (1, (.fn 44 [(.fref 28 [])])), (7, (.t (.v (.int .i64 a2)))), (8, (.t (.v (.int .i64 a3))))] []) = some (slices_IndexFunc_plan_some_1_i2_l1.to r)
  | 0, a1, a2, a3, r, h => by rw [slices_IndexFunc_plan_some_1_i2_l1] at h; cases h
  | k + 1, a1, a2, a3, r, h => by
    rw [slices_IndexFunc_plan_some_1_i2_l1] at h
    by_cases h1 : (decide (a3 < a2)) = true
    · rw [if_pos h1] at h
      by_cases h2 : (decide (0 ≤ (a3 : Int))) = true
      case neg => rw [if_neg h2] at h; cases h
      rw [if_pos h2] at h
      rcases h3 : a1[(a3 : Int).toNat]? with _ | ⟨a4, a5, a6, ⟨a7, a8, a9, a10, a11⟩, ⟨a12, a13, a14⟩, a15, a16, a17⟩
      · rw [h3] at h; cases h
      rw [h3] at h
      dsimp only at h
      rcases h4 : t.plan_some_1_plan_Free_1 (GStep.mk a4 a5 a6 (GValue.mk a7 a8 a9 a10 a11) (GPred.mk a12 a13 a14) a15 a16 a17) with _ | a18
      · rw [h4] at h; cases h
      rw [h4] at h
      dsimp only at h
      by_cases h5 : a18 = true
      · rw [if_pos h5] at h
        rw [← Option.some.inj h]
        exact loop_out (path (ob_b h1 (ob_n h2 (ob_t (look_ts GStep.ts_map h3) (ob_c (ht.plan_some_1_plan_Free_1 _ _ h4) (ob_b h5 ob))))) (by kernel_rfl)) (fun h => by cases h)
      · rw [if_neg h5] at h
        replace h5 := Bool.eq_false_iff.2 h5
        exact loop_more (path (ob_b h1 (ob_n h2 (ob_t (look_ts GStep.ts_map h3) (ob_c (ht.plan_some_1_plan_Free_1 _ _ h4) (ob_b h5 ob))))) (by kernel_rfl)) (slices_IndexFunc_plan_some_1_i2_l1.okL ht n k _ _ _ _ h)
    · rw [if_neg h1] at h
      replace h1 := Bool.eq_false_iff.2 h1
      rw [← Option.some.inj h]
      exact loop_out (path (ob_b h1 ob) (by kernel_rfl)) (fun h => by cases h)
theorem slices_IndexFunc_plan_some_1_i2_l1.ok (ht : TabOk t call) (n : Nat) (a1 : List GStep) (a2 a3 : Int) (r : _) (h : slices_IndexFunc_plan_some_1_i2_l1 t n n a1 a2 a3 = some r) : exec (env Tryd.prog 60 Tryd.f60 call) n (sub [1, 0, 1, 0] (bodyOf Tryd.f60)) (mkSt 19 19 [(0, (.t (.sl false 14 (GStep.ts a1)))), (1, (.fn 44 [(.fref 28 [])])), (7, (.t (.v (.int .i64 a2)))), (8, (.t (.v (.int .i64 a3))))] []) = some (slices_IndexFunc_plan_some_1_i2_l1.to r) := by
  have e1 : sub [1, 0, 1, 0] (bodyOf Tryd.f60) = .loop (sub [1, 0, 1, 0, 0] (bodyOf Tryd.f60)) := by kernel_rfl
  rw [e1, exec]
  exact slices_IndexFunc_plan_some_1_i2_l1.okL ht n n a1 a2 a3 r h
end Go.Proofs.YtgkfjhfehdefaaaDoor.W
