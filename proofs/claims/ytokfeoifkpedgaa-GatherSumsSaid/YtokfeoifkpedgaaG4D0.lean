/- The proofs of it, part 0. -/
import Derived.Test.YtokfeoifkpedgaaG4C
namespace Go.Proofs.Ytokfeoifkpedgaa.W
open Go.Proofs.Ytokfeoifkpedgaa.Flat
set_option linter.unusedVariables false
set_option linter.unusedSimpArgs false
theorem law16_GatherParts_j2.ok {t : Tab} {call : FuncId → List AV → List AV → Option (AV × List AV)} (ht : TabOk t call) (n : Nat) (a1 : List GMany) (a2 : Int) (a3 : Int) (a4 : Int) (r : Bool) (h : law16_GatherParts_j2 t n a1 a2 a3 a4 = some r) : exec (env Try.prog 4 Try.f4 call) n (sub [1, 1, 1, 1, 1, 1, 1, 1, 1, 1, 1] (bodyOf Try.f4)) (mkSt 172 172 [(0, (.t (.sl false 6 (GMany.ts a1)))), (2, (.t (.v (.int .i64 a2)))), (3, (.t (.v (.int .i64 a3)))), (11, (.t (.v (.int .i64 a4))))] []) = some (law16_GatherParts_j2.to r) := by
  rw [law16_GatherParts_j2] at h
  rcases h1 : t.gather_Range a1 a2 (-1) with _ | ⟨a5, a6⟩
  · rw [h1] at h; cases h
  rw [h1] at h
  dsimp only at h
  rcases h2 : t.gather_Range a5 a3 (IntKind.wrap .i64 (a3 + a4)) with _ | ⟨a7, a8⟩
  · rw [h2] at h; cases h
  rw [h2] at h
  dsimp only at h
  rcases h3 : t.gather_Range a1 (IntKind.wrap .i64 (a2 + a3)) (IntKind.wrap .i64 ((IntKind.wrap .i64 (a2 + a3)) + a4)) with _ | ⟨a9, a10⟩
  · rw [h3] at h; cases h
  rw [h3] at h
  dsimp only at h
  by_cases h4 : (a6 == 0) = true
  · rw [if_pos h4] at h
    by_cases h5 : (a8 == 0) = true
    · rw [if_pos h5] at h
      by_cases h6 : (a10 == 0) = true
      · rw [if_pos h6] at h
        rcases h7 : t.ref04_SameRows a7 a9 with _ | a11
        · rw [h7] at h; cases h
        rw [h7] at h
        dsimp only at h
        by_cases h8 : a11 = true
        · rw [if_pos h8] at h
          obtain ⟨a12, rfl⟩ : ∃ z_, z_ = r := ⟨_, rfl⟩
          have h9 := h
          exact path (ob_c (ht.gather_Range _ _ _ _ h1) (ob_c (ht.gather_Range _ _ _ _ h2) (ob_c (ht.gather_Range _ _ _ _ h3) (ob_b h4 (ob_b h4 (ob_b h4 (ob_b h5 (ob_b h5 (ob_b h5 (ob_b h6 (ob_b h6 (ob_b h6 (ob_c (ht.ref04_SameRows _ _ _ h7) (ob_b h6 (ob_b h8 (ob_c (ht.law16_known _ h9) (ob_b h8 ob))))))))))))))))) (by kernel_rfl)
        · rw [if_neg h8] at h
          replace h8 := Bool.eq_false_iff.2 h8
          rw [← Option.some.inj h]
          exact path (ob_c (ht.gather_Range _ _ _ _ h1) (ob_c (ht.gather_Range _ _ _ _ h2) (ob_c (ht.gather_Range _ _ _ _ h3) (ob_b h4 (ob_b h4 (ob_b h4 (ob_b h5 (ob_b h5 (ob_b h5 (ob_b h6 (ob_b h6 (ob_b h6 (ob_c (ht.ref04_SameRows _ _ _ h7) (ob_b h6 (ob_b h8 (ob_b h8 ob)))))))))))))))) (by kernel_rfl)
      · rw [if_neg h6] at h
        replace h6 := Bool.eq_false_iff.2 h6
        rw [← Option.some.inj h]
        exact path (ob_c (ht.gather_Range _ _ _ _ h1) (ob_c (ht.gather_Range _ _ _ _ h2) (ob_c (ht.gather_Range _ _ _ _ h3) (ob_b h4 (ob_b h4 (ob_b h4 (ob_b h5 (ob_b h5 (ob_b h5 (ob_b h6 (ob_b h6 (ob_b h6 (ob_b h6 (ob_b (rfl : false = false) (ob_b (rfl : false = false) ob))))))))))))))) (by kernel_rfl)
    · rw [if_neg h5] at h
      replace h5 := Bool.eq_false_iff.2 h5
      rw [← Option.some.inj h]
      exact path (ob_c (ht.gather_Range _ _ _ _ h1) (ob_c (ht.gather_Range _ _ _ _ h2) (ob_c (ht.gather_Range _ _ _ _ h3) (ob_b h4 (ob_b h4 (ob_b h4 (ob_b h5 (ob_b h5 (ob_b h5 (ob_b (rfl : false = false) (ob_b (rfl : false = false) (ob_b (rfl : false = false) (ob_b (rfl : false = false) (ob_b (rfl : false = false) (ob_b (rfl : false = false) ob))))))))))))))) (by kernel_rfl)
  · rw [if_neg h4] at h
    replace h4 := Bool.eq_false_iff.2 h4
    rw [← Option.some.inj h]
    exact path (ob_c (ht.gather_Range _ _ _ _ h1) (ob_c (ht.gather_Range _ _ _ _ h2) (ob_c (ht.gather_Range _ _ _ _ h3) (ob_b h4 (ob_b h4 (ob_b h4 (ob_b (rfl : false = false) (ob_b (rfl : false = false) (ob_b (rfl : false = false) (ob_b (rfl : false = false) (ob_b (rfl : false = false) (ob_b (rfl : false = false) (ob_b (rfl : false = false) (ob_b (rfl : false = false) (ob_b (rfl : false = false) ob))))))))))))))) (by kernel_rfl)
theorem law16_GatherParts_j1.ok {t : Tab} {call : FuncId → List AV → List AV → Option (AV × List AV)} (ht : TabOk t call) (n : Nat) (a1 : List GMany) (a2 : Int) (a3 : Int) (a4 : Int) (a5 : List GMany) (r : Bool) (h : law16_GatherParts_j1 t n a1 a2 a3 a4 a5 = some r) : exec (env Try.prog 4 Try.f4 call) n (sub [1, 1, 1] (bodyOf Try.f4)) (mkSt 172 172 [(0, (.t (.sl false 6 (GMany.ts a1)))), (1, (.t (.v (.int .i64 a2)))), (2, (.t (.v (.int .i64 a3)))), (3, (.t (.v (.int .i64 a4)))), (9, (.t (.sl false 6 (GMany.ts a5))))] []) = some (law16_GatherParts_j1.to r) := by
  rw [law16_GatherParts_j1] at h
  rcases h1 : remI .u64 (IntKind.wrap .u64 a2) (IntKind.wrap .u64 (IntKind.wrap .i64 ((a5.length : Int) + 2))) with _ | a6
  · rw [h1] at h; cases h
  rw [h1] at h
  dsimp only at h
  rcases h2 : t.gather_Range a1 0 (IntKind.wrap .i64 a6) with _ | ⟨a7, a8⟩
  · rw [h2] at h; cases h
  rw [h2] at h
  dsimp only at h
  rcases h3 : t.gather_Range a1 (IntKind.wrap .i64 a6) (-1) with _ | ⟨a9, a10⟩
  · rw [h3] at h; cases h
  rw [h3] at h
  dsimp only at h
  by_cases h4 : (a7.length + a9.length) * 88 ≤ 140737488355328
  case neg => rw [if_neg h4] at h; cases h
  rw [if_pos h4] at h
  rcases h5 : t.law16_rows (a7 ++ a9) with _ | ⟨a11, a12⟩
  · rw [h5] at h; cases h
  rw [h5] at h
  dsimp only at h
  rcases h6 : t.gather_Tail a1 (IntKind.wrap .i64 a6) with _ | ⟨a13, a14⟩
  · rw [h6] at h; cases h
  rw [h6] at h
  dsimp only at h
  rcases h7 : t.gather_Range a1 (if (0 : Int) > (IntKind.wrap .i64 ((a5.length : Int) - (IntKind.wrap .i64 a6))) then 0 else (IntKind.wrap .i64 ((a5.length : Int) - (IntKind.wrap .i64 a6)))) (-1) with _ | ⟨a15, a16⟩
  · rw [h7] at h; cases h
  rw [h7] at h
  dsimp only at h
  by_cases h8 : (a8 != 0) = true
  · rw [if_pos h8] at h
    rw [← Option.some.inj h]
    exact path (ob_v (len_ts GMany.ts_map (l := a5)) (ob_v (rem_ok (P := Try.prog) (t := 42) (x := (.tmp 57)) (y := (.tmp 61)) h1) (ob_c (ht.gather_Range _ _ _ _ h2) (ob_c (ht.gather_Range _ _ _ _ h3) (ob_le (room_ts GMany.ts_map h4) (ob_l (app_ts GMany.ts_map (a := a7) (b := a9)) (ob_c (ht.law16_rows _ _ h5) (ob_c (ht.gather_Tail _ _ _ h6) (ob_v (len_ts GMany.ts_map (l := a5)) (ob_c (ht.gather_Range _ _ _ _ h7) (ob_b h8 (ob_b h8 (ob_b h8 (ob_b (rfl : true = true) (ob_b (rfl : true = true) (ob_b (rfl : true = true) (ob_b (rfl : true = true) (ob_b (rfl : true = true) (ob_b (rfl : true = true) (ob_b (rfl : true = true) (ob_b (rfl : true = true) (ob_b (rfl : true = true) (ob_b (rfl : true = true) (ob_b (rfl : true = true) (ob_b (rfl : true = true) (ob_b (rfl : true = true) (ob_b (rfl : true = true) (ob_b (rfl : true = true) (ob_b (rfl : true = true) (ob_b (rfl : true = true) ob)))))))))))))))))))))))))))))) (by kernel_rfl)
  · rw [if_neg h8] at h
    replace h8 := Bool.eq_false_iff.2 h8
    by_cases h9 : (a10 != 0) = true
    · rw [if_pos h9] at h
      rw [← Option.some.inj h]
      exact path (ob_v (len_ts GMany.ts_map (l := a5)) (ob_v (rem_ok (P := Try.prog) (t := 42) (x := (.tmp 57)) (y := (.tmp 61)) h1) (ob_c (ht.gather_Range _ _ _ _ h2) (ob_c (ht.gather_Range _ _ _ _ h3) (ob_le (room_ts GMany.ts_map h4) (ob_l (app_ts GMany.ts_map (a := a7) (b := a9)) (ob_c (ht.law16_rows _ _ h5) (ob_c (ht.gather_Tail _ _ _ h6) (ob_v (len_ts GMany.ts_map (l := a5)) (ob_c (ht.gather_Range _ _ _ _ h7) (ob_b h8 (ob_b h8 (ob_b h8 (ob_b h9 (ob_b h9 (ob_b h9 (ob_b (rfl : true = true) (ob_b (rfl : true = true) (ob_b (rfl : true = true) (ob_b (rfl : true = true) (ob_b (rfl : true = true) (ob_b (rfl : true = true) (ob_b (rfl : true = true) (ob_b (rfl : true = true) (ob_b (rfl : true = true) (ob_b (rfl : true = true) (ob_b (rfl : true = true) (ob_b (rfl : true = true) (ob_b (rfl : true = true) (ob_b (rfl : true = true) ob)))))))))))))))))))))))))))))) (by kernel_rfl)
    · rw [if_neg h9] at h
      replace h9 := Bool.eq_false_iff.2 h9
      by_cases h10 : (a14 != 0) = true
      · rw [if_pos h10] at h
        rw [← Option.some.inj h]
        exact path (ob_v (len_ts GMany.ts_map (l := a5)) (ob_v (rem_ok (P := Try.prog) (t := 42) (x := (.tmp 57)) (y := (.tmp 61)) h1) (ob_c (ht.gather_Range _ _ _ _ h2) (ob_c (ht.gather_Range _ _ _ _ h3) (ob_le (room_ts GMany.ts_map h4) (ob_l (app_ts GMany.ts_map (a := a7) (b := a9)) (ob_c (ht.law16_rows _ _ h5) (ob_c (ht.gather_Tail _ _ _ h6) (ob_v (len_ts GMany.ts_map (l := a5)) (ob_c (ht.gather_Range _ _ _ _ h7) (ob_b h8 (ob_b h8 (ob_b h8 (ob_b h9 (ob_b h9 (ob_b h9 (ob_b h10 (ob_b h10 (ob_b h10 (ob_b (rfl : true = true) (ob_b (rfl : true = true) (ob_b (rfl : true = true) (ob_b (rfl : true = true) (ob_b (rfl : true = true) (ob_b (rfl : true = true) (ob_b (rfl : true = true) (ob_b (rfl : true = true) (ob_b (rfl : true = true) (ob_b (rfl : true = true) (ob_b (rfl : true = true) ob)))))))))))))))))))))))))))))) (by kernel_rfl)
      · rw [if_neg h10] at h
        replace h10 := Bool.eq_false_iff.2 h10
        by_cases h11 : (a16 != 0) = true
        · rw [if_pos h11] at h
          rw [← Option.some.inj h]
          exact path (ob_v (len_ts GMany.ts_map (l := a5)) (ob_v (rem_ok (P := Try.prog) (t := 42) (x := (.tmp 57)) (y := (.tmp 61)) h1) (ob_c (ht.gather_Range _ _ _ _ h2) (ob_c (ht.gather_Range _ _ _ _ h3) (ob_le (room_ts GMany.ts_map h4) (ob_l (app_ts GMany.ts_map (a := a7) (b := a9)) (ob_c (ht.law16_rows _ _ h5) (ob_c (ht.gather_Tail _ _ _ h6) (ob_v (len_ts GMany.ts_map (l := a5)) (ob_c (ht.gather_Range _ _ _ _ h7) (ob_b h8 (ob_b h8 (ob_b h8 (ob_b h9 (ob_b h9 (ob_b h9 (ob_b h10 (ob_b h10 (ob_b h10 (ob_b h11 (ob_b h11 (ob_b h11 (ob_b h11 (ob_b h11 (ob_b (rfl : true = true) (ob_b (rfl : true = true) (ob_b (rfl : true = true) (ob_b (rfl : true = true) (ob_b (rfl : true = true) (ob_b (rfl : true = true) ob)))))))))))))))))))))))))))))) (by kernel_rfl)
        · rw [if_neg h11] at h
          replace h11 := Bool.eq_false_iff.2 h11
          rcases h12 : t.ref04_SameRows a11 a5 with _ | a17
          · rw [h12] at h; cases h
          rw [h12] at h
          dsimp only at h
          by_cases h13 : a17 = true
          · rw [if_pos h13] at h
            rcases h14 : t.ref04_SameRows a13 a15 with _ | a18
            · rw [h14] at h; cases h
            rw [h14] at h
            dsimp only at h
            by_cases h15 : a18 = true
            · rw [if_pos h15] at h
              obtain ⟨a19, rfl⟩ : ∃ z_, z_ = r := ⟨_, rfl⟩
              have h16 := h
              exact path (ob_v (len_ts GMany.ts_map (l := a5)) (ob_v (rem_ok (P := Try.prog) (t := 42) (x := (.tmp 57)) (y := (.tmp 61)) h1) (ob_c (ht.gather_Range _ _ _ _ h2) (ob_c (ht.gather_Range _ _ _ _ h3) (ob_le (room_ts GMany.ts_map h4) (ob_l (app_ts GMany.ts_map (a := a7) (b := a9)) (ob_c (ht.law16_rows _ _ h5) (ob_c (ht.gather_Tail _ _ _ h6) (ob_v (len_ts GMany.ts_map (l := a5)) (ob_c (ht.gather_Range _ _ _ _ h7) (ob_b h8 (ob_b h8 (ob_b h8 (ob_b h9 (ob_b h9 (ob_b h9 (ob_b h10 (ob_b h10 (ob_b h10 (ob_b h11 (ob_b h11 (ob_b h11 (ob_c (ht.ref04_SameRows _ _ _ h12) (ob_b h11 (ob_b h11 (ob_b (congrArg (!·) h13) (ob_b (congrArg (!·) h13) (ob_b (congrArg (!·) h13) (ob_c (ht.ref04_SameRows _ _ _ h14) (ob_b (congrArg (!·) h13) (ob_b (congrArg (!·) h13) (ob_b (congrArg (!·) h15) (ob_j (law16_GatherParts_j2.ok ht n _ _ _ _ _ h16) ob))))))))))))))))))))))))))))))))) (by kernel_rfl)
            · rw [if_neg h15] at h
              replace h15 := Bool.eq_false_iff.2 h15
              rw [← Option.some.inj h]
              exact path (ob_v (len_ts GMany.ts_map (l := a5)) (ob_v (rem_ok (P := Try.prog) (t := 42) (x := (.tmp 57)) (y := (.tmp 61)) h1) (ob_c (ht.gather_Range _ _ _ _ h2) (ob_c (ht.gather_Range _ _ _ _ h3) (ob_le (room_ts GMany.ts_map h4) (ob_l (app_ts GMany.ts_map (a := a7) (b := a9)) (ob_c (ht.law16_rows _ _ h5) (ob_c (ht.gather_Tail _ _ _ h6) (ob_v (len_ts GMany.ts_map (l := a5)) (ob_c (ht.gather_Range _ _ _ _ h7) (ob_b h8 (ob_b h8 (ob_b h8 (ob_b h9 (ob_b h9 (ob_b h9 (ob_b h10 (ob_b h10 (ob_b h10 (ob_b h11 (ob_b h11 (ob_b h11 (ob_c (ht.ref04_SameRows _ _ _ h12) (ob_b h11 (ob_b h11 (ob_b (congrArg (!·) h13) (ob_b (congrArg (!·) h13) (ob_b (congrArg (!·) h13) (ob_c (ht.ref04_SameRows _ _ _ h14) (ob_b (congrArg (!·) h13) (ob_b (congrArg (!·) h13) (ob_b (congrArg (!·) h15) ob)))))))))))))))))))))))))))))))) (by kernel_rfl)
          · rw [if_neg h13] at h
            replace h13 := Bool.eq_false_iff.2 h13
            rw [← Option.some.inj h]
            exact path (ob_v (len_ts GMany.ts_map (l := a5)) (ob_v (rem_ok (P := Try.prog) (t := 42) (x := (.tmp 57)) (y := (.tmp 61)) h1) (ob_c (ht.gather_Range _ _ _ _ h2) (ob_c (ht.gather_Range _ _ _ _ h3) (ob_le (room_ts GMany.ts_map h4) (ob_l (app_ts GMany.ts_map (a := a7) (b := a9)) (ob_c (ht.law16_rows _ _ h5) (ob_c (ht.gather_Tail _ _ _ h6) (ob_v (len_ts GMany.ts_map (l := a5)) (ob_c (ht.gather_Range _ _ _ _ h7) (ob_b h8 (ob_b h8 (ob_b h8 (ob_b h9 (ob_b h9 (ob_b h9 (ob_b h10 (ob_b h10 (ob_b h10 (ob_b h11 (ob_b h11 (ob_b h11 (ob_c (ht.ref04_SameRows _ _ _ h12) (ob_b h11 (ob_b h11 (ob_b (congrArg (!·) h13) (ob_b (congrArg (!·) h13) (ob_b (congrArg (!·) h13) (ob_b (congrArg (!·) h13) (ob_b (congrArg (!·) h13) (ob_b (rfl : true = true) ob))))))))))))))))))))))))))))))) (by kernel_rfl)
theorem law16_GatherParts.ok {n : Nat} {t : Tab} (ht : TabOk t (run Try.prog own kp X n)) : ∀ (p1 : List GMany) (p2 : Int) (p3 : Int) (p4 : Int) r, law16_GatherParts t n p1 p2 p3 p4 = some r → run Try.prog own kp X (n + 1) 4 [(.t (.sl false 6 (GMany.ts p1))), (.t (.v (.int .i64 p2))), (.t (.v (.int .i64 p3))), (.t (.v (.int .i64 p4)))] [] = some ((.t (.v (.bool r))), []) := by
  intro p1 p2 p3 p4 r h
  obtain ⟨a1, rfl⟩ : ∃ z_, z_ = p1 := ⟨_, rfl⟩
  obtain ⟨a2, rfl⟩ : ∃ z_, z_ = p2 := ⟨_, rfl⟩
  obtain ⟨a3, rfl⟩ : ∃ z_, z_ = p3 := ⟨_, rfl⟩
  obtain ⟨a4, rfl⟩ : ∃ z_, z_ = p4 := ⟨_, rfl⟩
  rw [law16_GatherParts] at h
  rcases h1 : t.law16_rows a1 with _ | ⟨a5, a6⟩
  · rw [h1] at h; cases h
  rw [h1] at h
  dsimp only at h
  rcases h2 : t.law16_many a1 with _ | a7
  · rw [h2] at h; cases h
  rw [h2] at h
  dsimp only at h
  by_cases h3 : a7 = true
  · rw [if_pos h3] at h
    obtain ⟨a8, rfl⟩ : ∃ z_, z_ = r := ⟨_, rfl⟩
    have h4 := h
    exact run_path Try.func4 (ob_c (ht.law16_rows _ _ h1) (ob_c (ht.law16_many _ _ h2) (ob_b h3 (ob_b h3 (ob_b h3 (ob_b (rfl : true = true) (ob_b (rfl : true = true) (ob_b (rfl : true = true) (ob_b (rfl : true = true) (ob_b (rfl : true = true) (ob_b (rfl : true = true) (ob_b (rfl : true = true) (ob_b (rfl : true = true) (ob_b (rfl : true = true) (ob_b (rfl : true = true) (ob_b (rfl : true = true) (ob_b (rfl : true = true) (ob_b (rfl : true = true) (ob_c (ht.law16_known _ h4) ob))))))))))))))))))) (by kernel_rfl)
  · rw [if_neg h3] at h
    replace h3 := Bool.eq_false_iff.2 h3
    by_cases h5 : a6 = true
    · rw [if_pos h5] at h
      by_cases h6 : (decide (a3 < 0)) = true
      · rw [if_pos h6] at h
        obtain ⟨a9, rfl⟩ : ∃ z_, z_ = r := ⟨_, rfl⟩
        have h7 := h
        exact run_path Try.func4 (ob_c (ht.law16_rows _ _ h1) (ob_c (ht.law16_many _ _ h2) (ob_b h3 (ob_b h3 (ob_b h3 (ob_b (congrArg (!·) h5) (ob_b (congrArg (!·) h5) (ob_b (congrArg (!·) h5) (ob_b h6 (ob_b h6 (ob_b h6 (ob_b (rfl : true = true) (ob_b (rfl : true = true) (ob_b (rfl : true = true) (ob_b (rfl : true = true) (ob_b (rfl : true = true) (ob_b (rfl : true = true) (ob_b (rfl : true = true) (ob_c (ht.law16_known _ h7) ob))))))))))))))))))) (by kernel_rfl)
      · rw [if_neg h6] at h
        replace h6 := Bool.eq_false_iff.2 h6
        by_cases h8 : (decide (a3 > 400)) = true
        · rw [if_pos h8] at h
          obtain ⟨a10, rfl⟩ : ∃ z_, z_ = r := ⟨_, rfl⟩
          have h9 := h
          exact run_path Try.func4 (ob_c (ht.law16_rows _ _ h1) (ob_c (ht.law16_many _ _ h2) (ob_b h3 (ob_b h3 (ob_b h3 (ob_b (congrArg (!·) h5) (ob_b (congrArg (!·) h5) (ob_b (congrArg (!·) h5) (ob_b h6 (ob_b h6 (ob_b h6 (ob_b h8 (ob_b h8 (ob_b h8 (ob_b (rfl : true = true) (ob_b (rfl : true = true) (ob_b (rfl : true = true) (ob_b (rfl : true = true) (ob_c (ht.law16_known _ h9) ob))))))))))))))))))) (by kernel_rfl)
        · rw [if_neg h8] at h
          replace h8 := Bool.eq_false_iff.2 h8
          by_cases h10 : (decide (a4 < 0)) = true
          · rw [if_pos h10] at h
            obtain ⟨a11, rfl⟩ : ∃ z_, z_ = r := ⟨_, rfl⟩
            have h11 := h
            exact run_path Try.func4 (ob_c (ht.law16_rows _ _ h1) (ob_c (ht.law16_many _ _ h2) (ob_b h3 (ob_b h3 (ob_b h3 (ob_b (congrArg (!·) h5) (ob_b (congrArg (!·) h5) (ob_b (congrArg (!·) h5) (ob_b h6 (ob_b h6 (ob_b h6 (ob_b h8 (ob_b h8 (ob_b h8 (ob_b h10 (ob_b h10 (ob_b h10 (ob_b (rfl : true = true) (ob_c (ht.law16_known _ h11) ob))))))))))))))))))) (by kernel_rfl)
          · rw [if_neg h10] at h
            replace h10 := Bool.eq_false_iff.2 h10
            by_cases h12 : (decide (a4 > 400)) = true
            · rw [if_pos h12] at h
              obtain ⟨a12, rfl⟩ : ∃ z_, z_ = r := ⟨_, rfl⟩
              have h13 := h
              exact run_path Try.func4 (ob_c (ht.law16_rows _ _ h1) (ob_c (ht.law16_many _ _ h2) (ob_b h3 (ob_b h3 (ob_b h3 (ob_b (congrArg (!·) h5) (ob_b (congrArg (!·) h5) (ob_b (congrArg (!·) h5) (ob_b h6 (ob_b h6 (ob_b h6 (ob_b h8 (ob_b h8 (ob_b h8 (ob_b h10 (ob_b h10 (ob_b h10 (ob_b h12 (ob_c (ht.law16_known _ h13) ob))))))))))))))))))) (by kernel_rfl)
            · rw [if_neg h12] at h
              replace h12 := Bool.eq_false_iff.2 h12
              obtain ⟨a13, rfl⟩ : ∃ z_, z_ = r := ⟨_, rfl⟩
              have h14 := h
              exact run_path Try.func4 (ob_c (ht.law16_rows _ _ h1) (ob_c (ht.law16_many _ _ h2) (ob_b h3 (ob_b h3 (ob_b h3 (ob_b (congrArg (!·) h5) (ob_b (congrArg (!·) h5) (ob_b (congrArg (!·) h5) (ob_b h6 (ob_b h6 (ob_b h6 (ob_b h8 (ob_b h8 (ob_b h8 (ob_b h10 (ob_b h10 (ob_b h10 (ob_b h12 (ob_j (law16_GatherParts_j1.ok ht n _ _ _ _ _ _ h14) ob))))))))))))))))))) (by kernel_rfl)
    · rw [if_neg h5] at h
      replace h5 := Bool.eq_false_iff.2 h5
      obtain ⟨a14, rfl⟩ : ∃ z_, z_ = r := ⟨_, rfl⟩
      have h15 := h
      exact run_path Try.func4 (ob_c (ht.law16_rows _ _ h1) (ob_c (ht.law16_many _ _ h2) (ob_b h3 (ob_b h3 (ob_b h3 (ob_b (congrArg (!·) h5) (ob_b (congrArg (!·) h5) (ob_b (congrArg (!·) h5) (ob_b (rfl : true = true) (ob_b (rfl : true = true) (ob_b (rfl : true = true) (ob_b (rfl : true = true) (ob_b (rfl : true = true) (ob_b (rfl : true = true) (ob_b (rfl : true = true) (ob_b (rfl : true = true) (ob_b (rfl : true = true) (ob_b (rfl : true = true) (ob_c (ht.law16_known _ h15) ob))))))))))))))))))) (by kernel_rfl)
theorem law16_GatherSums_l2.okL {t : Tab} {call : FuncId → List AV → List AV → Option (AV × List AV)} (ht : TabOk t call) (n : Nat) : ∀ (k : Nat) (a1 : List GMany) (a2 : Int) (a3 : Int) (a4 : List GMany) (a5 : Int) (a6 : Int) (r : (List GMany) × Int × Int × (List GMany) × Int × Int × Bool), law16_GatherSums_l2 t n k a1 a2 a3 a4 a5 a6 = some r → loopN (exec (env Try.prog 5 Try.f5 call) n (sub [1, 1, 1, 1, 0, 1, 0, 0] (bodyOf Try.f5))) k (mkSt 130 130 [(0, (.t (.sl false 6 (GMany.ts a1)))), (2, (.t (.v (.int .i64 a2)))), (3, (.t (.v (.int .i64 a3)))), (9, (.t (.sl true 6 (GMany.ts a4)))), (10, (.t (.v (.int .i64 a5)))), (11, (.t (.v (.int .i64 a6))))] []) = some (law16_GatherSums_l2.to r)
  | 0, a1, a2, a3, a4, a5, a6, r, h => by rw [law16_GatherSums_l2] at h; cases h
  | k + 1, a1, a2, a3, a4, a5, a6, r, h => by
    rw [law16_GatherSums_l2] at h
    by_cases h1 : (decide (a6 < (a1.length : Int))) = true
    · rw [if_pos h1] at h
      rcases h2 : remI .i64 (IntKind.wrap .i64 (a6 + a5)) (a1.length : Int) with _ | a7
      · rw [h2] at h; cases h
      rw [h2] at h
      dsimp only at h
      by_cases h3 : (decide (0 ≤ (a7 : Int))) = true
      case neg => rw [if_neg h3] at h; cases h
      rw [if_pos h3] at h
      rcases h4 : a1[(a7 : Int).toNat]? with _ | ⟨⟨a8, a9, a10, a11, a12⟩, a13⟩
      · rw [h4] at h; cases h
      rw [h4] at h
      dsimp only at h
      by_cases h5 : (a4.length + ([(GMany.mk (GValue.mk a8 a9 a10 a11 a12) a13)] : List GMany).length) * 88 ≤ 140737488355328
      case neg => rw [if_neg h5] at h; cases h
      rw [if_pos h5] at h
      exact loop_more (path (ob_v (len_ts GMany.ts_map (l := a1)) (ob_b h1 (ob_v (len_ts GMany.ts_map (l := a1)) (ob_v (rem_ok (P := Try.prog) (t := 3) (x := (.tmp 56)) (y := (.tmp 58)) h2) (ob_n h3 (ob_t (look_ts GMany.ts_map h4) (ob_le (room_ts GMany.ts_map h5) (ob_l (app_ts GMany.ts_map (a := a4) (b := ([(GMany.mk (GValue.mk a8 a9 a10 a11 a12) a13)] : List GMany))) ob)))))))) (by kernel_rfl)) (law16_GatherSums_l2.okL ht n k _ _ _ _ _ _ _ h)
    · rw [if_neg h1] at h
      replace h1 := Bool.eq_false_iff.2 h1
      rw [← Option.some.inj h]
      exact loop_out (path (ob_v (len_ts GMany.ts_map (l := a1)) (ob_b h1 ob)) (by kernel_rfl)) (fun h => by cases h)
theorem law16_GatherSums_l2.ok {t : Tab} {call : FuncId → List AV → List AV → Option (AV × List AV)} (ht : TabOk t call) (n : Nat) (a1 : List GMany) (a2 : Int) (a3 : Int) (a4 : List GMany) (a5 : Int) (a6 : Int) (r : (List GMany) × Int × Int × (List GMany) × Int × Int × Bool) (h : law16_GatherSums_l2 t n n a1 a2 a3 a4 a5 a6 = some r) : exec (env Try.prog 5 Try.f5 call) n (sub [1, 1, 1, 1, 0, 1, 0] (bodyOf Try.f5)) (mkSt 130 130 [(0, (.t (.sl false 6 (GMany.ts a1)))), (2, (.t (.v (.int .i64 a2)))), (3, (.t (.v (.int .i64 a3)))), (9, (.t (.sl true 6 (GMany.ts a4)))), (10, (.t (.v (.int .i64 a5)))), (11, (.t (.v (.int .i64 a6))))] []) = some (law16_GatherSums_l2.to r) := by
  have e1 : sub [1, 1, 1, 1, 0, 1, 0] (bodyOf Try.f5) = .loop (sub [1, 1, 1, 1, 0, 1, 0, 0] (bodyOf Try.f5)) := by kernel_rfl
  rw [e1, exec]
  exact law16_GatherSums_l2.okL ht n n a1 a2 a3 a4 a5 a6 r h
theorem law16_GatherSums_j5.ok {t : Tab} {call : FuncId → List AV → List AV → Option (AV × List AV)} (ht : TabOk t call) (n : Nat) (a1 : Int) (a2 : Int) (a3 : Int) (a4 : Int) (r : Bool) (h : law16_GatherSums_j5 t n a1 a2 a3 a4 = some r) : exec (env Try.prog 5 Try.f5 call) n (sub [1, 1, 1, 1, 1, 1, 1, 1, 1, 1, 1, 1] (bodyOf Try.f5)) (mkSt 130 130 [(12, (.t (.v (.int .i64 a1)))), (14, (.t (.v (.int .i64 a2)))), (20, (.t (.v (.int .i64 a3)))), (22, (.t (.v (.int .i64 a4))))] []) = some (law16_GatherSums_j5.to r) := by
  rw [law16_GatherSums_j5] at h
  by_cases h1 : (a3 == a1) = true
  · rw [if_pos h1] at h
    by_cases h2 : (a4 == a2) = true
    · rw [if_pos h2] at h
      obtain ⟨a5, rfl⟩ : ∃ z_, z_ = r := ⟨_, rfl⟩
      have h3 := h
      exact path (ob_b h1 (ob_b h1 (ob_b h1 (ob_b h1 (ob_b h2 (ob_c (ht.law16_known _ h3) (ob_b h2 ob))))))) (by kernel_rfl)
    · rw [if_neg h2] at h
      replace h2 := Bool.eq_false_iff.2 h2
      rw [← Option.some.inj h]
      exact path (ob_b h1 (ob_b h1 (ob_b h1 (ob_b h1 (ob_b h2 (ob_b h2 ob)))))) (by kernel_rfl)
  · rw [if_neg h1] at h
    replace h1 := Bool.eq_false_iff.2 h1
    rw [← Option.some.inj h]
    exact path (ob_b h1 (ob_b h1 (ob_b h1 (ob_b h1 (ob_b (rfl : false = false) (ob_b (rfl : false = false) ob)))))) (by kernel_rfl)
theorem law16_GatherSums_j4.ok {t : Tab} {call : FuncId → List AV → List AV → Option (AV × List AV)} (ht : TabOk t call) (n : Nat) (a1 : List GMany) (a2 : Int) (a3 : Int) (a4 : List GMany) (a5 : Int) (a6 : Int) (r : Bool) (h : law16_GatherSums_j4 t n a1 a2 a3 a4 a5 a6 = some r) : exec (env Try.prog 5 Try.f5 call) n (sub [1, 1, 1, 1, 1, 1, 1, 1] (bodyOf Try.f5)) (mkSt 130 130 [(0, (.t (.sl false 6 (GMany.ts a1)))), (2, (.t (.v (.int .i64 a2)))), (3, (.t (.v (.int .i64 a3)))), (9, (.t (.sl true 6 (GMany.ts a4)))), (12, (.t (.v (.int .i64 a5)))), (14, (.t (.v (.int .i64 a6))))] []) = some (law16_GatherSums_j4.to r) := by
  rw [law16_GatherSums_j4] at h
  rcases h1 : t.ref16_Size a1 with _ | ⟨a7, a8⟩
  · rw [h1] at h; cases h
  rw [h1] at h
  dsimp only at h
  rcases h2 : t.law16_number a2 with _ | ⟨a9, a10, a11, a12, a13⟩
  · rw [h2] at h; cases h
  rw [h2] at h
  dsimp only at h
  rcases h3 : t.law16_number (IntKind.wrap .i64 (0 - a2)) with _ | ⟨a14, a15, a16, a17, a18⟩
  · rw [h3] at h; cases h
  rw [h3] at h
  dsimp only at h
  by_cases h4 : (a4.length + ([(GMany.mk (GValue.mk a9 a10 a11 a12 a13) a3), (GMany.mk (GValue.mk a14 a15 a16 a17 a18) a3)] : List GMany).length) * 88 ≤ 140737488355328
  case neg => rw [if_neg h4] at h; cases h
  rw [if_pos h4] at h
  rcases h5 : t.gather_Sum (a4 ++ ([(GMany.mk (GValue.mk a9 a10 a11 a12 a13) a3), (GMany.mk (GValue.mk a14 a15 a16 a17 a18) a3)] : List GMany)) with _ | ⟨a19, a20, a21⟩
  · rw [h5] at h; cases h
  rw [h5] at h
  dsimp only at h
  by_cases h6 : (a8 != 0) = true
  · rw [if_pos h6] at h
    obtain ⟨a22, rfl⟩ : ∃ z_, z_ = r := ⟨_, rfl⟩
    have h7 := h
    exact path (ob_c (ht.ref16_Size _ _ h1) (ob_c (ht.law16_number _ _ h2) (ob_c (ht.law16_number _ _ h3) (ob_le (room_ts GMany.ts_map h4) (ob_l (app_ts GMany.ts_map (a := a4) (b := ([(GMany.mk (GValue.mk a9 a10 a11 a12 a13) a3), (GMany.mk (GValue.mk a14 a15 a16 a17 a18) a3)] : List GMany))) (ob_c (ht.gather_Sum _ _ h5) (ob_b h6 (ob_b h6 (ob_b h6 (ob_b (rfl : true = true) (ob_c (ht.law16_known _ h7) ob))))))))))) (by kernel_rfl)
  · rw [if_neg h6] at h
    replace h6 := Bool.eq_false_iff.2 h6
    by_cases h8 : (decide (a7 > 2305843009213693952)) = true
    · rw [if_pos h8] at h
      obtain ⟨a23, rfl⟩ : ∃ z_, z_ = r := ⟨_, rfl⟩
      have h9 := h
      exact path (ob_c (ht.ref16_Size _ _ h1) (ob_c (ht.law16_number _ _ h2) (ob_c (ht.law16_number _ _ h3) (ob_le (room_ts GMany.ts_map h4) (ob_l (app_ts GMany.ts_map (a := a4) (b := ([(GMany.mk (GValue.mk a9 a10 a11 a12 a13) a3), (GMany.mk (GValue.mk a14 a15 a16 a17 a18) a3)] : List GMany))) (ob_c (ht.gather_Sum _ _ h5) (ob_b h6 (ob_b h6 (ob_b h6 (ob_b h8 (ob_c (ht.law16_known _ h9) ob))))))))))) (by kernel_rfl)
    · rw [if_neg h8] at h
      replace h8 := Bool.eq_false_iff.2 h8
      obtain ⟨a24, rfl⟩ : ∃ z_, z_ = r := ⟨_, rfl⟩
      have h10 := h
      exact path (ob_c (ht.ref16_Size _ _ h1) (ob_c (ht.law16_number _ _ h2) (ob_c (ht.law16_number _ _ h3) (ob_le (room_ts GMany.ts_map h4) (ob_l (app_ts GMany.ts_map (a := a4) (b := ([(GMany.mk (GValue.mk a9 a10 a11 a12 a13) a3), (GMany.mk (GValue.mk a14 a15 a16 a17 a18) a3)] : List GMany))) (ob_c (ht.gather_Sum _ _ h5) (ob_b h6 (ob_b h6 (ob_b h6 (ob_b h8 (ob_j (law16_GatherSums_j5.ok ht n _ _ _ _ _ h10) ob))))))))))) (by kernel_rfl)
theorem law16_GatherSums_j3.ok {t : Tab} {call : FuncId → List AV → List AV → Option (AV × List AV)} (ht : TabOk t call) (n : Nat) (a1 : List GMany) (a2 : Int) (a3 : Int) (a4 : List GMany) (r : Bool) (h : law16_GatherSums_j3 t n a1 a2 a3 a4 = some r) : exec (env Try.prog 5 Try.f5 call) n (sub [1, 1, 1, 1, 1] (bodyOf Try.f5)) (mkSt 130 130 [(0, (.t (.sl false 6 (GMany.ts a1)))), (2, (.t (.v (.int .i64 a2)))), (3, (.t (.v (.int .i64 a3)))), (9, (.t (.sl true 6 (GMany.ts a4))))] []) = some (law16_GatherSums_j3.to r) := by
  rw [law16_GatherSums_j3] at h
  rcases h1 : t.gather_Sum a1 with _ | ⟨a5, a6, a7⟩
  · rw [h1] at h; cases h
  rw [h1] at h
  dsimp only at h
  rcases h2 : t.gather_Sum a4 with _ | ⟨a8, a9, a10⟩
  · rw [h2] at h; cases h
  rw [h2] at h
  dsimp only at h
  by_cases h3 : (a5 != a8) = true
  · rw [if_pos h3] at h
    rw [← Option.some.inj h]
    exact path (ob_c (ht.gather_Sum _ _ h1) (ob_c (ht.gather_Sum _ _ h2) (ob_b h3 (ob_b h3 (ob_b h3 (ob_b h3 (ob_b (rfl : true = true) (ob_b (rfl : true = true) (ob_b (rfl : true = true) (ob_b (rfl : true = true) (ob_b (rfl : true = true) ob))))))))))) (by kernel_rfl)
  · rw [if_neg h3] at h
    replace h3 := Bool.eq_false_iff.2 h3
    by_cases h4 : (a6 == a9) = true
    · rw [if_pos h4] at h
      by_cases h5 : (a7 != a10) = true
      · rw [if_pos h5] at h
        rw [← Option.some.inj h]
        exact path (ob_c (ht.gather_Sum _ _ h1) (ob_c (ht.gather_Sum _ _ h2) (ob_b h3 (ob_b h3 (ob_b h3 (ob_b h3 (ob_b (congrArg (!·) h4) (ob_b (congrArg (!·) h4) (ob_b (congrArg (!·) h4) (ob_b (congrArg (!·) h4) (ob_b h5 ob))))))))))) (by kernel_rfl)
      · rw [if_neg h5] at h
        replace h5 := Bool.eq_false_iff.2 h5
        obtain ⟨a11, rfl⟩ : ∃ z_, z_ = r := ⟨_, rfl⟩
        have h6 := h
        exact path (ob_c (ht.gather_Sum _ _ h1) (ob_c (ht.gather_Sum _ _ h2) (ob_b h3 (ob_b h3 (ob_b h3 (ob_b h3 (ob_b (congrArg (!·) h4) (ob_b (congrArg (!·) h4) (ob_b (congrArg (!·) h4) (ob_b (congrArg (!·) h4) (ob_b h5 (ob_j (law16_GatherSums_j4.ok ht n _ _ _ _ _ _ _ h6) ob)))))))))))) (by kernel_rfl)
    · rw [if_neg h4] at h
      replace h4 := Bool.eq_false_iff.2 h4
      rw [← Option.some.inj h]
      exact path (ob_c (ht.gather_Sum _ _ h1) (ob_c (ht.gather_Sum _ _ h2) (ob_b h3 (ob_b h3 (ob_b h3 (ob_b h3 (ob_b (congrArg (!·) h4) (ob_b (congrArg (!·) h4) (ob_b (congrArg (!·) h4) (ob_b (congrArg (!·) h4) (ob_b (rfl : true = true) ob))))))))))) (by kernel_rfl)
theorem law16_GatherSums_j1.ok {t : Tab} {call : FuncId → List AV → List AV → Option (AV × List AV)} (ht : TabOk t call) (n : Nat) (a1 : List GMany) (a2 : Int) (a3 : Int) (a4 : Int) (r : Bool) (h : law16_GatherSums_j1 t n a1 a2 a3 a4 = some r) : exec (env Try.prog 5 Try.f5 call) n (sub [1, 1] (bodyOf Try.f5)) (mkSt 130 130 [(0, (.t (.sl false 6 (GMany.ts a1)))), (1, (.t (.v (.int .i64 a2)))), (2, (.t (.v (.int .i64 a3)))), (3, (.t (.v (.int .i64 a4))))] []) = some (law16_GatherSums_j1.to r) := by
  rw [law16_GatherSums_j1] at h
  rcases h1 : remI .u64 (IntKind.wrap .u64 a2) (IntKind.wrap .u64 (if (1 : Int) > (a1.length : Int) then 1 else (a1.length : Int))) with _ | a5
  · rw [h1] at h; cases h
  rw [h1] at h
  dsimp only at h
  rcases h2 : law16_GatherSums_l2 t n n a1 a3 a4 ([] : List GMany) (IntKind.wrap .i64 a5) 0 with _ | q_
  · rw [h2] at h; cases h
  rw [h2] at h
  obtain ⟨a6, a7, a8, a9, a10, a11, a12⟩ := q_
  dsimp only at h
  obtain ⟨a13, rfl⟩ : ∃ z_, z_ = r := ⟨_, rfl⟩
  have h3 := h
  exact path (ob_v (len_ts GMany.ts_map (l := a1)) (ob_v (rem_ok (P := Try.prog) (t := 42) (x := (.tmp 39)) (y := (.tmp 43)) h1) (ob_k (law16_GatherSums_l2.ok ht n _ _ _ _ _ _ _ h2) (ob_j (law16_GatherSums_j3.ok ht n _ _ _ _ _ h3) ob)))) (by kernel_rfl)
theorem law16_GatherSums.ok {n : Nat} {t : Tab} (ht : TabOk t (run Try.prog own kp X n)) : ∀ (p1 : List GMany) (p2 : Int) (p3 : Int) (p4 : Int) r, law16_GatherSums t n p1 p2 p3 p4 = some r → run Try.prog own kp X (n + 1) 5 [(.t (.sl false 6 (GMany.ts p1))), (.t (.v (.int .i64 p2))), (.t (.v (.int .i64 p3))), (.t (.v (.int .i64 p4)))] [] = some ((.t (.v (.bool r))), []) := by
  intro p1 p2 p3 p4 r h
  obtain ⟨a1, rfl⟩ : ∃ z_, z_ = p1 := ⟨_, rfl⟩
  obtain ⟨a2, rfl⟩ : ∃ z_, z_ = p2 := ⟨_, rfl⟩
  obtain ⟨a3, rfl⟩ : ∃ z_, z_ = p3 := ⟨_, rfl⟩
  obtain ⟨a4, rfl⟩ : ∃ z_, z_ = p4 := ⟨_, rfl⟩
  rw [law16_GatherSums] at h
  rcases h1 : t.law16_many a1 with _ | a5
  · rw [h1] at h; cases h
  rw [h1] at h
  dsimp only at h
  by_cases h2 : a5 = true
  · rw [if_pos h2] at h
    obtain ⟨a6, rfl⟩ : ∃ z_, z_ = r := ⟨_, rfl⟩
    have h3 := h
    exact run_path Try.func5 (ob_c (ht.law16_many _ _ h1) (ob_b h2 (ob_b h2 (ob_b h2 (ob_b (rfl : true = true) (ob_b (rfl : true = true) (ob_b (rfl : true = true) (ob_b (rfl : true = true) (ob_b (rfl : true = true) (ob_b (rfl : true = true) (ob_b (rfl : true = true) (ob_c (ht.law16_known _ h3) ob)))))))))))) (by kernel_rfl)
  · rw [if_neg h2] at h
    replace h2 := Bool.eq_false_iff.2 h2
    by_cases h4 : (decide (a4 < 1)) = true
    · rw [if_pos h4] at h
      obtain ⟨a7, rfl⟩ : ∃ z_, z_ = r := ⟨_, rfl⟩
      have h5 := h
      exact run_path Try.func5 (ob_c (ht.law16_many _ _ h1) (ob_b h2 (ob_b h2 (ob_b h2 (ob_b h4 (ob_b h4 (ob_b h4 (ob_b (rfl : true = true) (ob_b (rfl : true = true) (ob_b (rfl : true = true) (ob_b (rfl : true = true) (ob_c (ht.law16_known _ h5) ob)))))))))))) (by kernel_rfl)
    · rw [if_neg h4] at h
      replace h4 := Bool.eq_false_iff.2 h4
      by_cases h6 : (decide (a4 > 1099511627776)) = true
      · rw [if_pos h6] at h
        obtain ⟨a8, rfl⟩ : ∃ z_, z_ = r := ⟨_, rfl⟩
        have h7 := h
        exact run_path Try.func5 (ob_c (ht.law16_many _ _ h1) (ob_b h2 (ob_b h2 (ob_b h2 (ob_b h4 (ob_b h4 (ob_b h4 (ob_b h6 (ob_b h6 (ob_b h6 (ob_b (rfl : true = true) (ob_c (ht.law16_known _ h7) ob)))))))))))) (by kernel_rfl)
      · rw [if_neg h6] at h
        replace h6 := Bool.eq_false_iff.2 h6
        by_cases h8 : (a3 == (-9223372036854775808)) = true
        · rw [if_pos h8] at h
          obtain ⟨a9, rfl⟩ : ∃ z_, z_ = r := ⟨_, rfl⟩
          have h9 := h
          exact run_path Try.func5 (ob_c (ht.law16_many _ _ h1) (ob_b h2 (ob_b h2 (ob_b h2 (ob_b h4 (ob_b h4 (ob_b h4 (ob_b h6 (ob_b h6 (ob_b h6 (ob_b h8 (ob_c (ht.law16_known _ h9) ob)))))))))))) (by kernel_rfl)
        · rw [if_neg h8] at h
          replace h8 := Bool.eq_false_iff.2 h8
          obtain ⟨a10, rfl⟩ : ∃ z_, z_ = r := ⟨_, rfl⟩
          have h10 := h
          exact run_path Try.func5 (ob_c (ht.law16_many _ _ h1) (ob_b h2 (ob_b h2 (ob_b h2 (ob_b h4 (ob_b h4 (ob_b h4 (ob_b h6 (ob_b h6 (ob_b h6 (ob_b h8 (ob_j (law16_GatherSums_j1.ok ht n _ _ _ _ _ h10) ob)))))))))))) (by kernel_rfl)
theorem law16_rows_l3.okL {t : Tab} {call : FuncId → List AV → List AV → Option (AV × List AV)} (ht : TabOk t call) (n : Nat) : ∀ (k : Nat) (a1 : List GMany) (a2 : List GMany) (a3 : Int) (a4 : Int) (r : (List GMany) × (List GMany) × Int × Int × Bool), law16_rows_l3 t n k a1 a2 a3 a4 = some r → loopN (exec (env Try.prog 17 Try.f17 call) n (sub [1, 1, 1, 1, 0, 1, 0, 0, 1, 0, 0, 1, 0, 0] (bodyOf Try.f17))) k (mkSt 45 45 [(0, (.t (.sl false 6 (GMany.ts a1)))), (6, (.t (.sl true 6 (GMany.ts a2)))), (7, (.t (.v (.int .i64 a3)))), (8, (.t (.v (.int .i64 a4))))] []) = some (law16_rows_l3.to r)
  | 0, a1, a2, a3, a4, r, h => by rw [law16_rows_l3] at h; cases h
  | k + 1, a1, a2, a3, a4, r, h => by
    rw [law16_rows_l3] at h
    by_cases h1 : (decide (0 ≤ (a3 : Int))) = true
    case neg => rw [if_neg h1] at h; cases h
    rw [if_pos h1] at h
    rcases h2 : a1[(a3 : Int).toNat]? with _ | ⟨⟨a5, a6, a7, a8, a9⟩, a10⟩
    · rw [h2] at h; cases h
    rw [h2] at h
    dsimp only at h
    by_cases h3 : (decide (a4 < a10)) = true
    · rw [if_pos h3] at h
      by_cases h4 : (a2.length + ([(GMany.mk (GValue.mk a5 a6 a7 a8 a9) 1)] : List GMany).length) * 88 ≤ 140737488355328
      case neg => rw [if_neg h4] at h; cases h
      rw [if_pos h4] at h
      exact loop_more (path (ob_n h1 (ob_t (look_ts GMany.ts_map h2) (ob_b h3 (ob_n h1 (ob_t (look_ts GMany.ts_map h2) (ob_le (room_ts GMany.ts_map h4) (ob_l (app_ts GMany.ts_map (a := a2) (b := ([(GMany.mk (GValue.mk a5 a6 a7 a8 a9) 1)] : List GMany))) ob))))))) (by kernel_rfl)) (law16_rows_l3.okL ht n k _ _ _ _ _ h)
    · rw [if_neg h3] at h
      replace h3 := Bool.eq_false_iff.2 h3
      rw [← Option.some.inj h]
      exact loop_out (path (ob_n h1 (ob_t (look_ts GMany.ts_map h2) (ob_b h3 ob))) (by kernel_rfl)) (fun h => by cases h)
theorem law16_rows_l3.ok {t : Tab} {call : FuncId → List AV → List AV → Option (AV × List AV)} (ht : TabOk t call) (n : Nat) (a1 : List GMany) (a2 : List GMany) (a3 : Int) (a4 : Int) (r : (List GMany) × (List GMany) × Int × Int × Bool) (h : law16_rows_l3 t n n a1 a2 a3 a4 = some r) : exec (env Try.prog 17 Try.f17 call) n (sub [1, 1, 1, 1, 0, 1, 0, 0, 1, 0, 0, 1, 0] (bodyOf Try.f17)) (mkSt 45 45 [(0, (.t (.sl false 6 (GMany.ts a1)))), (6, (.t (.sl true 6 (GMany.ts a2)))), (7, (.t (.v (.int .i64 a3)))), (8, (.t (.v (.int .i64 a4))))] []) = some (law16_rows_l3.to r) := by
  have e1 : sub [1, 1, 1, 1, 0, 1, 0, 0, 1, 0, 0, 1, 0] (bodyOf Try.f17) = .loop (sub [1, 1, 1, 1, 0, 1, 0, 0, 1, 0, 0, 1, 0, 0] (bodyOf Try.f17)) := by kernel_rfl
  rw [e1, exec]
  exact law16_rows_l3.okL ht n n a1 a2 a3 a4 r h
theorem law16_rows_l2.okL {t : Tab} {call : FuncId → List AV → List AV → Option (AV × List AV)} (ht : TabOk t call) (n : Nat) : ∀ (k : Nat) (a1 : List GMany) (a2 : List GMany) (a3 : Int) (r : (List GMany) × (List GMany) × Int × Bool), law16_rows_l2 t n k a1 a2 a3 = some r → loopN (exec (env Try.prog 17 Try.f17 call) n (sub [1, 1, 1, 1, 0, 1, 0, 0] (bodyOf Try.f17))) k (mkSt 45 45 [(0, (.t (.sl false 6 (GMany.ts a1)))), (6, (.t (.sl true 6 (GMany.ts a2)))), (7, (.t (.v (.int .i64 a3))))] []) = some (law16_rows_l2.to r)
  | 0, a1, a2, a3, r, h => by rw [law16_rows_l2] at h; cases h
  | k + 1, a1, a2, a3, r, h => by
    rw [law16_rows_l2] at h
    by_cases h1 : (decide (a3 < (a1.length : Int))) = true
    · rw [if_pos h1] at h
      rcases h2 : law16_rows_l3 t n n a1 a2 a3 0 with _ | q_
      · rw [h2] at h; cases h
      rw [h2] at h
      obtain ⟨a4, a5, a6, a7, a8⟩ := q_
      dsimp only at h
      exact loop_more (path (ob_v (len_ts GMany.ts_map (l := a1)) (ob_b h1 (ob_k (law16_rows_l3.ok ht n _ _ _ _ _ h2) ob))) (by kernel_rfl)) (law16_rows_l2.okL ht n k _ _ _ _ h)
    · rw [if_neg h1] at h
      replace h1 := Bool.eq_false_iff.2 h1
      rw [← Option.some.inj h]
      exact loop_out (path (ob_v (len_ts GMany.ts_map (l := a1)) (ob_b h1 ob)) (by kernel_rfl)) (fun h => by cases h)
theorem law16_rows_l2.ok {t : Tab} {call : FuncId → List AV → List AV → Option (AV × List AV)} (ht : TabOk t call) (n : Nat) (a1 : List GMany) (a2 : List GMany) (a3 : Int) (r : (List GMany) × (List GMany) × Int × Bool) (h : law16_rows_l2 t n n a1 a2 a3 = some r) : exec (env Try.prog 17 Try.f17 call) n (sub [1, 1, 1, 1, 0, 1, 0] (bodyOf Try.f17)) (mkSt 45 45 [(0, (.t (.sl false 6 (GMany.ts a1)))), (6, (.t (.sl true 6 (GMany.ts a2)))), (7, (.t (.v (.int .i64 a3))))] []) = some (law16_rows_l2.to r) := by
  have e1 : sub [1, 1, 1, 1, 0, 1, 0] (bodyOf Try.f17) = .loop (sub [1, 1, 1, 1, 0, 1, 0, 0] (bodyOf Try.f17)) := by kernel_rfl
  rw [e1, exec]
  exact law16_rows_l2.okL ht n n a1 a2 a3 r h
theorem law16_rows_j1.ok {t : Tab} {call : FuncId → List AV → List AV → Option (AV × List AV)} (ht : TabOk t call) (n : Nat) (a1 : List GMany) (r : (List GMany) × Bool) (h : law16_rows_j1 t n a1 = some r) : exec (env Try.prog 17 Try.f17 call) n (sub [1, 1, 1] (bodyOf Try.f17)) (mkSt 45 45 [(0, (.t (.sl false 6 (GMany.ts a1))))] []) = some (law16_rows_j1.to r) := by
  rw [law16_rows_j1] at h
  rcases h1 : law16_rows_l2 t n n a1 ([] : List GMany) 0 with _ | q_
  · rw [h1] at h; cases h
  rw [h1] at h
  obtain ⟨a2, a3, a4, a5⟩ := q_
  dsimp only at h
  rw [← Option.some.inj h]
  exact path (ob_k (law16_rows_l2.ok ht n _ _ _ _ h1) ob) (by kernel_rfl)
theorem law16_rows.ok {n : Nat} {t : Tab} (ht : TabOk t (run Try.prog own kp X n)) : ∀ (p1 : List GMany) r, law16_rows t n p1 = some r → run Try.prog own kp X (n + 1) 17 [(.t (.sl false 6 (GMany.ts p1)))] [] = some ((.tup [(.sl false 6 (GMany.ts r.1)), (.v (.bool r.2))]), []) := by
  intro p1 r h
  obtain ⟨a1, rfl⟩ : ∃ z_, z_ = p1 := ⟨_, rfl⟩
  rw [law16_rows] at h
  rcases h1 : t.ref16_Size a1 with _ | ⟨a2, a3⟩
  · rw [h1] at h; cases h
  rw [h1] at h
  dsimp only at h
  by_cases h2 : (a3 != 0) = true
  · rw [if_pos h2] at h
    rw [← Option.some.inj h]
    exact run_path Try.func17 (ob_c (ht.ref16_Size _ _ h1) (ob_b h2 (ob_b h2 (ob_b h2 (ob_b (rfl : true = true) ob))))) (by kernel_rfl)
  · rw [if_neg h2] at h
    replace h2 := Bool.eq_false_iff.2 h2
    by_cases h3 : (decide (a2 > 300)) = true
    · rw [if_pos h3] at h
      rw [← Option.some.inj h]
      exact run_path Try.func17 (ob_c (ht.ref16_Size _ _ h1) (ob_b h2 (ob_b h2 (ob_b h2 (ob_b h3 ob))))) (by kernel_rfl)
    · rw [if_neg h3] at h
      replace h3 := Bool.eq_false_iff.2 h3
      obtain ⟨a4, a5⟩ := r
      have h4 := h
      exact run_path Try.func17 (ob_c (ht.ref16_Size _ _ h1) (ob_b h2 (ob_b h2 (ob_b h2 (ob_b h3 (ob_j (law16_rows_j1.ok ht n _ _ h4) ob)))))) (by kernel_rfl)
theorem law16_many_j2.ok {t : Tab} {call : FuncId → List AV → List AV → Option (AV × List AV)} (ht : TabOk t call) (n : Nat) (a1 : List GMany) (a2 : Int) (a3 : Int) (r : (List GMany) × Int × Int) (h : law16_many_j2 t n a1 a2 a3 = some r) : exec (env Try.prog 8 Try.f8 call) n (sub [1, 1, 0, 1, 0, 0, 1] (bodyOf Try.f8)) (mkSt 25 25 [(0, (.t (.sl false 6 (GMany.ts a1)))), (3, (.t (.v (.int .i64 a2)))), (4, (.t (.v (.int .i64 a3))))] []) = some (law16_many_j2.to r) := by
  rw [law16_many_j2] at h
  by_cases h1 : (decide (0 ≤ (a3 : Int))) = true
  case neg => rw [if_neg h1] at h; cases h
  rw [if_pos h1] at h
  rcases h2 : a1[(a3 : Int).toNat]? with _ | ⟨⟨a4, a5, a6, a7, a8⟩, a9⟩
  · rw [h2] at h; cases h
  rw [h2] at h
  dsimp only at h
  rcases h3 : t.ref02_Count (GValue.mk a4 a5 a6 a7 a8) 300 with _ | a10
  · rw [h3] at h; cases h
  rw [h3] at h
  dsimp only at h
  rw [← Option.some.inj h]
  exact path (ob_n h1 (ob_t (look_ts GMany.ts_map h2) (ob_c (ht.ref02_Count _ _ _ h3) ob))) (by kernel_rfl)
theorem law16_many_l1.okL {t : Tab} {call : FuncId → List AV → List AV → Option (AV × List AV)} (ht : TabOk t call) (n : Nat) : ∀ (k : Nat) (a1 : List GMany) (a2 : Int) (a3 : Int) (r : (List GMany) × Int × Int × Bool), law16_many_l1 t n k a1 a2 a3 = some r → loopN (exec (env Try.prog 8 Try.f8 call) n (sub [1, 1, 0, 1, 0, 0] (bodyOf Try.f8))) k (mkSt 25 25 [(0, (.t (.sl false 6 (GMany.ts a1)))), (3, (.t (.v (.int .i64 a2)))), (4, (.t (.v (.int .i64 a3))))] []) = some (law16_many_l1.to r)
  | 0, a1, a2, a3, r, h => by rw [law16_many_l1] at h; cases h
  | k + 1, a1, a2, a3, r, h => by
    rw [law16_many_l1] at h
    by_cases h1 : (decide (a3 < (a1.length : Int))) = true
    · rw [if_pos h1] at h
      by_cases h2 : (decide (a2 < 300)) = true
      · rw [if_pos h2] at h
        rcases h3 : law16_many_j2 t n  a1 a2 a3 with _ | q_
        · rw [h3] at h; cases h
        rw [h3] at h
        obtain ⟨a4, a5, a6⟩ := q_
        dsimp only at h
        exact loop_more (path (ob_v (len_ts GMany.ts_map (l := a1)) (ob_b h1 (ob_b h1 (ob_b h1 (ob_b h2 (ob_j (law16_many_j2.ok ht n _ _ _ _ h3) ob)))))) (by kernel_rfl)) (law16_many_l1.okL ht n k _ _ _ _ h)
      · rw [if_neg h2] at h
        replace h2 := Bool.eq_false_iff.2 h2
        rw [← Option.some.inj h]
        exact loop_out (path (ob_v (len_ts GMany.ts_map (l := a1)) (ob_b h1 (ob_b h1 (ob_b h1 (ob_b h2 ob))))) (by kernel_rfl)) (fun h => by cases h)
    · rw [if_neg h1] at h
      replace h1 := Bool.eq_false_iff.2 h1
      rw [← Option.some.inj h]
      exact loop_out (path (ob_v (len_ts GMany.ts_map (l := a1)) (ob_b h1 (ob_b h1 (ob_b h1 (ob_b (rfl : false = false) ob))))) (by kernel_rfl)) (fun h => by cases h)
theorem law16_many_l1.ok {t : Tab} {call : FuncId → List AV → List AV → Option (AV × List AV)} (ht : TabOk t call) (n : Nat) (a1 : List GMany) (a2 : Int) (a3 : Int) (r : (List GMany) × Int × Int × Bool) (h : law16_many_l1 t n n a1 a2 a3 = some r) : exec (env Try.prog 8 Try.f8 call) n (sub [1, 1, 0, 1, 0] (bodyOf Try.f8)) (mkSt 25 25 [(0, (.t (.sl false 6 (GMany.ts a1)))), (3, (.t (.v (.int .i64 a2)))), (4, (.t (.v (.int .i64 a3))))] []) = some (law16_many_l1.to r) := by
  have e1 : sub [1, 1, 0, 1, 0] (bodyOf Try.f8) = .loop (sub [1, 1, 0, 1, 0, 0] (bodyOf Try.f8)) := by kernel_rfl
  rw [e1, exec]
  exact law16_many_l1.okL ht n n a1 a2 a3 r h
theorem law16_many.ok {n : Nat} {t : Tab} (ht : TabOk t (run Try.prog own kp X n)) : ∀ (p1 : List GMany) r, law16_many t n p1 = some r → run Try.prog own kp X (n + 1) 8 [(.t (.sl false 6 (GMany.ts p1)))] [] = some ((.t (.v (.bool r))), []) := by
  intro p1 r h
  obtain ⟨a1, rfl⟩ : ∃ z_, z_ = p1 := ⟨_, rfl⟩
  rw [law16_many] at h
  rcases h1 : law16_many_l1 t n n a1 0 0 with _ | q_
  · rw [h1] at h; cases h
  rw [h1] at h
  obtain ⟨a2, a3, a4, a5⟩ := q_
  dsimp only at h
  rw [← Option.some.inj h]
  exact run_path Try.func8 (ob_k (law16_many_l1.ok ht n _ _ _ _ h1) ob) (by kernel_rfl)
theorem gather_Range_j1.ok {t : Tab} {call : FuncId → List AV → List AV → Option (AV × List AV)} (ht : TabOk t call) (n : Nat) (a1 : List GMany) (a2 : Int) (a3 : Int) (a4 : Int) (a5 : Int) (a6 : Bool) (r : ((List GMany) × Int) ⊕ ((List GMany) × Int × Int)) (h : gather_Range_j1 t n a1 a2 a3 a4 a5 a6 = some r) : exec (env Try.prog 18 Try.f18 call) n (sub [1, 1, 0, 0, 1] (bodyOf Try.f18)) (mkSt 39 39 [(0, (.t (.sl false 6 (GMany.ts a1)))), (1, (.t (.v (.int .i64 a2)))), (2, (.t (.v (.int .i64 a3)))), (8, (.t (.v (.int .i64 a4)))), (9, (.t (.v (.int .i64 a5)))), (15, (.t (.v (.bool a6))))] []) = some (gather_Range_j1.to r) := by
  rw [gather_Range_j1] at h
  by_cases h1 : a6 = true
  · rw [if_pos h1] at h
    rw [← Option.some.inj h]
    exact path (ob_b h1 ob) (by kernel_rfl)
  · rw [if_neg h1] at h
    replace h1 := Bool.eq_false_iff.2 h1
    by_cases h2 : (a5 != 0) = true
    · rw [if_pos h2] at h
      rw [← Option.some.inj h]
      exact path (ob_b h1 (ob_b h2 ob)) (by kernel_rfl)
    · rw [if_neg h2] at h
      replace h2 := Bool.eq_false_iff.2 h2
      by_cases h3 : (a3 == (-1)) = true
      · rw [if_pos h3] at h
        rw [← Option.some.inj h]
        exact path (ob_b h1 (ob_b h2 (ob_b h3 ob))) (by kernel_rfl)
      · rw [if_neg h3] at h
        replace h3 := Bool.eq_false_iff.2 h3
        rw [← Option.some.inj h]
        exact path (ob_b h1 (ob_b h2 (ob_b h3 ob))) (by kernel_rfl)
theorem gather_Range_j2.ok {t : Tab} {call : FuncId → List AV → List AV → Option (AV × List AV)} (ht : TabOk t call) (n : Nat) (a1 : List GMany) (a2 : Int) (a3 : Int) (r : (List GMany) × Int) (h : gather_Range_j2 t n a1 a2 a3 = some r) : exec (env Try.prog 18 Try.f18 call) n (sub [1, 1, 1] (bodyOf Try.f18)) (mkSt 39 39 [(0, (.t (.sl false 6 (GMany.ts a1)))), (1, (.t (.v (.int .i64 a2)))), (2, (.t (.v (.int .i64 a3))))] []) = some (gather_Range_j2.to r) := by
  rw [gather_Range_j2] at h
  rcases h1 : t.gather_cut a1 a2 a3 with _ | a4
  · rw [h1] at h; cases h
  rw [h1] at h
  dsimp only at h
  rw [← Option.some.inj h]
  exact path (ob_c (ht.gather_cut _ _ _ _ h1) ob) (by kernel_rfl)
theorem gather_Range.ok {n : Nat} {t : Tab} (ht : TabOk t (run Try.prog own kp X n)) : ∀ (p1 : List GMany) (p2 : Int) (p3 : Int) r, gather_Range t n p1 p2 p3 = some r → run Try.prog own kp X (n + 1) 18 [(.t (.sl false 6 (GMany.ts p1))), (.t (.v (.int .i64 p2))), (.t (.v (.int .i64 p3)))] [] = some ((.tup [(.sl true 6 (GMany.ts r.1)), (.v (.int .i64 r.2))]), []) := by
  intro p1 p2 p3 r h
  obtain ⟨a1, rfl⟩ : ∃ z_, z_ = p1 := ⟨_, rfl⟩
  obtain ⟨a2, rfl⟩ : ∃ z_, z_ = p2 := ⟨_, rfl⟩
  obtain ⟨a3, rfl⟩ : ∃ z_, z_ = p3 := ⟨_, rfl⟩
  rw [gather_Range] at h
  rcases h1 : t.gather_size a1 with _ | ⟨a4, a5⟩
  · rw [h1] at h; cases h
  rw [h1] at h
  dsimp only at h
  by_cases h2 : (decide (a2 < 0)) = true
  · rw [if_pos h2] at h
    rcases h3 : gather_Range_j1 t n  a1 a2 a3 a4 a5 true with _ | q_
    · rw [h3] at h; cases h
    rw [h3] at h
    rcases q_ with ⟨a6, a7⟩ | ⟨a8, a9, a10⟩
    · dsimp only at h
      rw [← Option.some.inj h]
      exact run_path Try.func18 (ob_c (ht.gather_size _ _ h1) (ob_b h2 (ob_b h2 (ob_b h2 (ob_b h2 (ob_b h2 (ob_j (gather_Range_j1.ok ht n _ _ _ _ _ _ _ h3) ob))))))) (by kernel_rfl)
    · dsimp only at h
      obtain ⟨a11, a12⟩ := r
      have h4 := h
      exact run_path Try.func18 (ob_c (ht.gather_size _ _ h1) (ob_b h2 (ob_b h2 (ob_b h2 (ob_b h2 (ob_b h2 (ob_j (gather_Range_j1.ok ht n _ _ _ _ _ _ _ h3) (ob_j (gather_Range_j2.ok ht n _ _ _ _ h4) ob)))))))) (by kernel_rfl)
  · rw [if_neg h2] at h
    replace h2 := Bool.eq_false_iff.2 h2
    by_cases h5 : (a3 != (-1)) = true
    · rw [if_pos h5] at h
      rcases h6 : gather_Range_j1 t n  a1 a2 a3 a4 a5 (decide (a3 < a2)) with _ | q_
      · rw [h6] at h; cases h
      rw [h6] at h
      rcases q_ with ⟨a13, a14⟩ | ⟨a15, a16, a17⟩
      · dsimp only at h
        rw [← Option.some.inj h]
        exact run_path Try.func18 (ob_c (ht.gather_size _ _ h1) (ob_b h2 (ob_b h2 (ob_b h2 (ob_b h5 (ob_b h5 (ob_b h5 (ob_b h2 (ob_b h5 (ob_b h2 (ob_j (gather_Range_j1.ok ht n _ _ _ _ _ _ _ h6) ob))))))))))) (by kernel_rfl)
      · dsimp only at h
        obtain ⟨a18, a19⟩ := r
        have h7 := h
        exact run_path Try.func18 (ob_c (ht.gather_size _ _ h1) (ob_b h2 (ob_b h2 (ob_b h2 (ob_b h5 (ob_b h5 (ob_b h5 (ob_b h2 (ob_b h5 (ob_b h2 (ob_j (gather_Range_j1.ok ht n _ _ _ _ _ _ _ h6) (ob_j (gather_Range_j2.ok ht n _ _ _ _ h7) ob)))))))))))) (by kernel_rfl)
    · rw [if_neg h5] at h
      replace h5 := Bool.eq_false_iff.2 h5
      rcases h8 : gather_Range_j1 t n  a1 a2 a3 a4 a5 false with _ | q_
      · rw [h8] at h; cases h
      rw [h8] at h
      rcases q_ with ⟨a20, a21⟩ | ⟨a22, a23, a24⟩
      · dsimp only at h
        rw [← Option.some.inj h]
        exact run_path Try.func18 (ob_c (ht.gather_size _ _ h1) (ob_b h2 (ob_b h2 (ob_b h2 (ob_b h5 (ob_b h5 (ob_b h5 (ob_b h2 (ob_b h5 (ob_b h2 (ob_j (gather_Range_j1.ok ht n _ _ _ _ _ _ _ h8) ob))))))))))) (by kernel_rfl)
      · dsimp only at h
        obtain ⟨a25, a26⟩ := r
        have h9 := h
        exact run_path Try.func18 (ob_c (ht.gather_size _ _ h1) (ob_b h2 (ob_b h2 (ob_b h2 (ob_b h5 (ob_b h5 (ob_b h5 (ob_b h2 (ob_b h5 (ob_b h2 (ob_j (gather_Range_j1.ok ht n _ _ _ _ _ _ _ h8) (ob_j (gather_Range_j2.ok ht n _ _ _ _ h9) ob)))))))))))) (by kernel_rfl)
theorem gather_Tail.ok {n : Nat} {t : Tab} (ht : TabOk t (run Try.prog own kp X n)) : ∀ (p1 : List GMany) (p2 : Int) r, gather_Tail t n p1 p2 = some r → run Try.prog own kp X (n + 1) 19 [(.t (.sl false 6 (GMany.ts p1))), (.t (.v (.int .i64 p2)))] [] = some ((.tup [(.sl false 6 (GMany.ts r.1)), (.v (.int .i64 r.2))]), []) := by
  intro p1 p2 r h
  obtain ⟨a1, rfl⟩ : ∃ z_, z_ = p1 := ⟨_, rfl⟩
  obtain ⟨a2, rfl⟩ : ∃ z_, z_ = p2 := ⟨_, rfl⟩
  rw [gather_Tail] at h
  rcases h1 : t.gather_size a1 with _ | ⟨a3, a4⟩
  · rw [h1] at h; cases h
  rw [h1] at h
  dsimp only at h
  by_cases h2 : (decide (a2 < 0)) = true
  · rw [if_pos h2] at h
    rw [← Option.some.inj h]
    exact run_path Try.func19 (ob_c (ht.gather_size _ _ h1) (ob_b h2 ob)) (by kernel_rfl)
  · rw [if_neg h2] at h
    replace h2 := Bool.eq_false_iff.2 h2
    by_cases h3 : (a4 != 0) = true
    · rw [if_pos h3] at h
      rw [← Option.some.inj h]
      exact run_path Try.func19 (ob_c (ht.gather_size _ _ h1) (ob_b h2 (ob_b h3 ob))) (by kernel_rfl)
    · rw [if_neg h3] at h
      replace h3 := Bool.eq_false_iff.2 h3
      rcases h4 : t.gather_cut a1 (if (0 : Int) > (IntKind.wrap .i64 (a3 - a2)) then 0 else (IntKind.wrap .i64 (a3 - a2))) a3 with _ | a5
      · rw [h4] at h; cases h
      rw [h4] at h
      dsimp only at h
      rw [← Option.some.inj h]
      exact run_path Try.func19 (ob_c (ht.gather_size _ _ h1) (ob_b h2 (ob_b h3 (ob_c (ht.gather_cut _ _ _ _ h4) ob)))) (by kernel_rfl)
theorem ref04_SameRows_l1.okL {t : Tab} {call : FuncId → List AV → List AV → Option (AV × List AV)} (ht : TabOk t call) (n : Nat) : ∀ (k : Nat) (a1 : List GMany) (a2 : List GMany) (a3 : Int) (r : Bool ⊕ ((List GMany) × (List GMany) × Int × Bool)), ref04_SameRows_l1 t n k a1 a2 a3 = some r → loopN (exec (env Try.prog 20 Try.f20 call) n (sub [1, 1, 0, 1, 0, 0] (bodyOf Try.f20))) k (mkSt 42 42 [(0, (.t (.sl false 6 (GMany.ts a1)))), (1, (.t (.sl false 6 (GMany.ts a2)))), (5, (.t (.v (.int .i64 a3))))] []) = some (ref04_SameRows_l1.to r)
  | 0, a1, a2, a3, r, h => by rw [ref04_SameRows_l1] at h; cases h
  | k + 1, a1, a2, a3, r, h => by
    rw [ref04_SameRows_l1] at h
    by_cases h1 : (decide (a3 < (a1.length : Int))) = true
    · rw [if_pos h1] at h
      by_cases h2 : (decide (0 ≤ (a3 : Int))) = true
      case neg => rw [if_neg h2] at h; cases h
      rw [if_pos h2] at h
      rcases h3 : a1[(a3 : Int).toNat]? with _ | ⟨⟨a4, a5, a6, a7, a8⟩, a9⟩
      · rw [h3] at h; cases h
      rw [h3] at h
      dsimp only at h
      rcases h4 : a2[(a3 : Int).toNat]? with _ | ⟨⟨a10, a11, a12, a13, a14⟩, a15⟩
      · rw [h4] at h; cases h
      rw [h4] at h
      dsimp only at h
      by_cases h5 : (a9 != a15) = true
      · rw [if_pos h5] at h
        rw [← Option.some.inj h]
        exact loop_out (path (ob_v (len_ts GMany.ts_map (l := a1)) (ob_b h1 (ob_n h2 (ob_t (look_ts GMany.ts_map h3) (ob_n h2 (ob_t (look_ts GMany.ts_map h4) (ob_b h5 (ob_b h5 (ob_b h5 (ob_b h5 (ob_b h5 (ob_b h5 (ob_b h5 (ob_b h5 (ob_b h5 (ob_b h5 (ob_b h5 (ob_b h5 (ob_b h5 (ob_b (rfl : true = true) ob)))))))))))))))))))) (by kernel_rfl)) (fun h => by cases h)
      · rw [if_neg h5] at h
        replace h5 := Bool.eq_false_iff.2 h5
        rcases h6 : t.ref02_Same (GValue.mk a4 a5 a6 a7 a8) (GValue.mk a10 a11 a12 a13 a14) with _ | a16
        · rw [h6] at h; cases h
        rw [h6] at h
        dsimp only at h
        by_cases h7 : a16 = true
        · rw [if_pos h7] at h
          exact loop_more (path (ob_v (len_ts GMany.ts_map (l := a1)) (ob_b h1 (ob_n h2 (ob_t (look_ts GMany.ts_map h3) (ob_n h2 (ob_t (look_ts GMany.ts_map h4) (ob_b h5 (ob_b h5 (ob_b h5 (ob_n h2 (ob_t (look_ts GMany.ts_map h3) (ob_b h5 (ob_b h5 (ob_b h5 (ob_b h5 (ob_b h5 (ob_n h2 (ob_t (look_ts GMany.ts_map h4) (ob_b h5 (ob_b h5 (ob_b h5 (ob_c (ht.ref02_Same _ _ _ h6) (ob_b h5 (ob_b h5 (ob_b (congrArg (!·) h7) ob))))))))))))))))))))))))) (by kernel_rfl)) (ref04_SameRows_l1.okL ht n k _ _ _ _ h)
        · rw [if_neg h7] at h
          replace h7 := Bool.eq_false_iff.2 h7
          rw [← Option.some.inj h]
          exact loop_out (path (ob_v (len_ts GMany.ts_map (l := a1)) (ob_b h1 (ob_n h2 (ob_t (look_ts GMany.ts_map h3) (ob_n h2 (ob_t (look_ts GMany.ts_map h4) (ob_b h5 (ob_b h5 (ob_b h5 (ob_n h2 (ob_t (look_ts GMany.ts_map h3) (ob_b h5 (ob_b h5 (ob_b h5 (ob_b h5 (ob_b h5 (ob_n h2 (ob_t (look_ts GMany.ts_map h4) (ob_b h5 (ob_b h5 (ob_b h5 (ob_c (ht.ref02_Same _ _ _ h6) (ob_b h5 (ob_b h5 (ob_b (congrArg (!·) h7) ob))))))))))))))))))))))))) (by kernel_rfl)) (fun h => by cases h)
    · rw [if_neg h1] at h
      replace h1 := Bool.eq_false_iff.2 h1
      rw [← Option.some.inj h]
      exact loop_out (path (ob_v (len_ts GMany.ts_map (l := a1)) (ob_b h1 ob)) (by kernel_rfl)) (fun h => by cases h)
theorem ref04_SameRows_l1.ok {t : Tab} {call : FuncId → List AV → List AV → Option (AV × List AV)} (ht : TabOk t call) (n : Nat) (a1 : List GMany) (a2 : List GMany) (a3 : Int) (r : Bool ⊕ ((List GMany) × (List GMany) × Int × Bool)) (h : ref04_SameRows_l1 t n n a1 a2 a3 = some r) : exec (env Try.prog 20 Try.f20 call) n (sub [1, 1, 0, 1, 0] (bodyOf Try.f20)) (mkSt 42 42 [(0, (.t (.sl false 6 (GMany.ts a1)))), (1, (.t (.sl false 6 (GMany.ts a2)))), (5, (.t (.v (.int .i64 a3))))] []) = some (ref04_SameRows_l1.to r) := by
  have e1 : sub [1, 1, 0, 1, 0] (bodyOf Try.f20) = .loop (sub [1, 1, 0, 1, 0, 0] (bodyOf Try.f20)) := by kernel_rfl
  rw [e1, exec]
  exact ref04_SameRows_l1.okL ht n n a1 a2 a3 r h
theorem ref04_SameRows.ok {n : Nat} {t : Tab} (ht : TabOk t (run Try.prog own kp X n)) : ∀ (p1 : List GMany) (p2 : List GMany) r, ref04_SameRows t n p1 p2 = some r → run Try.prog own kp X (n + 1) 20 [(.t (.sl false 6 (GMany.ts p1))), (.t (.sl false 6 (GMany.ts p2)))] [] = some ((.t (.v (.bool r))), []) := by
  intro p1 p2 r h
  obtain ⟨a1, rfl⟩ : ∃ z_, z_ = p1 := ⟨_, rfl⟩
  obtain ⟨a2, rfl⟩ : ∃ z_, z_ = p2 := ⟨_, rfl⟩
  rw [ref04_SameRows] at h
  by_cases h1 : ((a1.length : Int) != (a2.length : Int)) = true
  · rw [if_pos h1] at h
    rw [← Option.some.inj h]
    exact run_path Try.func20 (ob_v (len_ts GMany.ts_map (l := a1)) (ob_v (len_ts GMany.ts_map (l := a2)) (ob_b h1 ob))) (by kernel_rfl)
  · rw [if_neg h1] at h
    replace h1 := Bool.eq_false_iff.2 h1
    rcases h2 : ref04_SameRows_l1 t n n a1 a2 0 with _ | q_
    · rw [h2] at h; cases h
    rw [h2] at h
    rcases q_ with a3 | ⟨a4, a5, a6, a7⟩
    · dsimp only at h
      rw [← Option.some.inj h]
      exact run_path Try.func20 (ob_v (len_ts GMany.ts_map (l := a1)) (ob_v (len_ts GMany.ts_map (l := a2)) (ob_b h1 (ob_k (ref04_SameRows_l1.ok ht n _ _ _ _ h2) ob)))) (by kernel_rfl)
    · dsimp only at h
      rw [← Option.some.inj h]
      exact run_path Try.func20 (ob_v (len_ts GMany.ts_map (l := a1)) (ob_v (len_ts GMany.ts_map (l := a2)) (ob_b h1 (ob_k (ref04_SameRows_l1.ok ht n _ _ _ _ h2) ob)))) (by kernel_rfl)
theorem gather_Sum_l1.okL {t : Tab} {call : FuncId → List AV → List AV → Option (AV × List AV)} (ht : TabOk t call) (n : Nat) : ∀ (k : Nat) (a1 : List GMany) (a2 : List GMany) (a3 : Int) (a4 : Int) (a5 : Int) (a6 : Int) (r : (Int × Bool × Int) ⊕ ((List GMany) × (List GMany) × Int × Int × Bool × Int × Int)), gather_Sum_l1 t n k a1 a2 a3 a4 a5 a6 = some r → loopN (exec (env Try.prog 10 Try.f10 call) n (sub [1, 1, 1, 0, 1, 0, 0] (bodyOf Try.f10))) k (mkSt 49 49 [(0, (.t (.sl false 6 (GMany.ts a1)))), (7, (.ptr 7 0 [] 0)), (19, (.t (.sl false 6 (GMany.ts a2)))), (20, (.t (.v (.int .i64 a3)))), (21, (.t (.v (.int .i64 a4))))] [(7, (.t (.st [(.v (.int .u64 a5)), (.v (.int .u64 a6))])))]) = some (gather_Sum_l1.to r)
  | 0, a1, a2, a3, a4, a5, a6, r, h => by rw [gather_Sum_l1] at h; cases h
  | k + 1, a1, a2, a3, a4, a5, a6, r, h => by
    rw [gather_Sum_l1] at h
    by_cases h1 : (decide (a4 < a3)) = true
    · rw [if_pos h1] at h
      by_cases h2 : (decide (0 ≤ (a4 : Int))) = true
      case neg => rw [if_neg h2] at h; cases h
      rw [if_pos h2] at h
      rcases h3 : a2[(a4 : Int).toNat]? with _ | ⟨⟨a7, a8, a9, a10, a11⟩, a12⟩
      · rw [h3] at h; cases h
      rw [h3] at h
      dsimp only at h
      by_cases h4 : (a7 != 2) = true
      · rw [if_pos h4] at h
        rw [← Option.some.inj h]
        exact loop_out (path (ob_b h1 (ob_n h2 (ob_t (look_ts GMany.ts_map h3) (ob_b h4 ob)))) (by kernel_rfl)) (fun h => by cases h)
      · rw [if_neg h4] at h
        replace h4 := Bool.eq_false_iff.2 h4
        rcases h5 : t.gather_wide_add a8 a12 (Gwide.mk a5 a6) with _ | ⟨a13, a14⟩
        · rw [h5] at h; cases h
        rw [h5] at h
        dsimp only at h
        exact loop_more (path (ob_b h1 (ob_n h2 (ob_t (look_ts GMany.ts_map h3) (ob_b h4 (ob_c (ht.gather_wide_add _ _ _ _ h5) ob))))) (by kernel_rfl)) (gather_Sum_l1.okL ht n k _ _ _ _ _ _ _ h)
    · rw [if_neg h1] at h
      replace h1 := Bool.eq_false_iff.2 h1
      rw [← Option.some.inj h]
      exact loop_out (path (ob_b h1 ob) (by kernel_rfl)) (fun h => by cases h)
theorem gather_Sum_l1.ok {t : Tab} {call : FuncId → List AV → List AV → Option (AV × List AV)} (ht : TabOk t call) (n : Nat) (a1 : List GMany) (a2 : List GMany) (a3 : Int) (a4 : Int) (a5 : Int) (a6 : Int) (r : (Int × Bool × Int) ⊕ ((List GMany) × (List GMany) × Int × Int × Bool × Int × Int)) (h : gather_Sum_l1 t n n a1 a2 a3 a4 a5 a6 = some r) : exec (env Try.prog 10 Try.f10 call) n (sub [1, 1, 1, 0, 1, 0] (bodyOf Try.f10)) (mkSt 49 49 [(0, (.t (.sl false 6 (GMany.ts a1)))), (7, (.ptr 7 0 [] 0)), (19, (.t (.sl false 6 (GMany.ts a2)))), (20, (.t (.v (.int .i64 a3)))), (21, (.t (.v (.int .i64 a4))))] [(7, (.t (.st [(.v (.int .u64 a5)), (.v (.int .u64 a6))])))]) = some (gather_Sum_l1.to r) := by
  have e1 : sub [1, 1, 1, 0, 1, 0] (bodyOf Try.f10) = .loop (sub [1, 1, 1, 0, 1, 0, 0] (bodyOf Try.f10)) := by kernel_rfl
  rw [e1, exec]
  exact gather_Sum_l1.okL ht n n a1 a2 a3 a4 a5 a6 r h
theorem gather_Sum_j2.ok {t : Tab} {call : FuncId → List AV → List AV → Option (AV × List AV)} (ht : TabOk t call) (n : Nat) (a1 : List GMany) (a2 : Int) (a3 : Int) (r : Int × Bool × Int) (h : gather_Sum_j2 t n a1 a2 a3 = some r) : exec (env Try.prog 10 Try.f10 call) n (sub [1, 1, 1, 1] (bodyOf Try.f10)) (mkSt 49 49 [(0, (.t (.sl false 6 (GMany.ts a1)))), (7, (.ptr 7 0 [] 0))] [(7, (.t (.st [(.v (.int .u64 a2)), (.v (.int .u64 a3))])))]) = some (gather_Sum_j2.to r) := by
  rw [gather_Sum_j2] at h
  rcases h1 : shrI .i64 (IntKind.wrap .i64 a3) 63 with _ | a4
  · rw [h1] at h; cases h
  rw [h1] at h
  dsimp only at h
  by_cases h2 : (a2 == (IntKind.wrap .u64 a4)) = true
  · rw [if_pos h2] at h
    rw [← Option.some.inj h]
    exact path (ob_v (shr_ok (P := Try.prog) (t := 3) (x := (.tmp 41)) (y := (.const (.int .u64 63))) (k' := .u64) h1) (ob_b h2 (ob_v (len_ts GMany.ts_map (l := a1)) ob))) (by kernel_rfl)
  · rw [if_neg h2] at h
    replace h2 := Bool.eq_false_iff.2 h2
    rw [← Option.some.inj h]
    exact path (ob_v (shr_ok (P := Try.prog) (t := 3) (x := (.tmp 41)) (y := (.const (.int .u64 63))) (k' := .u64) h1) (ob_b h2 ob)) (by kernel_rfl)
theorem gather_Sum.ok {n : Nat} {t : Tab} (ht : TabOk t (run Try.prog own kp X n)) : ∀ (p1 : List GMany) r, gather_Sum t n p1 = some r → run Try.prog own kp X (n + 1) 10 [(.t (.sl false 6 (GMany.ts p1)))] [] = some ((.tup [(.v (.int .i64 r.1)), (.v (.bool r.2.1)), (.v (.int .i64 r.2.2))]), []) := by
  intro p1 r h
  obtain ⟨a1, rfl⟩ : ∃ z_, z_ = p1 := ⟨_, rfl⟩
  rw [gather_Sum] at h
  rcases h1 : t.gather_size a1 with _ | ⟨a2, a3⟩
  · rw [h1] at h; cases h
  rw [h1] at h
  dsimp only at h
  by_cases h2 : (a3 != 0) = true
  · rw [if_pos h2] at h
    rw [← Option.some.inj h]
    exact run_path Try.func10 (ob_c (ht.gather_size _ _ h1) (ob_b h2 ob)) (by kernel_rfl)
  · rw [if_neg h2] at h
    replace h2 := Bool.eq_false_iff.2 h2
    rcases h3 : gather_Sum_l1 t n n a1 a1 (a1.length : Int) 0 0 0 with _ | q_
    · rw [h3] at h; cases h
    rw [h3] at h
    rcases q_ with ⟨a4, a5, a6⟩ | ⟨a7, a8, a9, a10, a11, a12, a13⟩
    · dsimp only at h
      rw [← Option.some.inj h]
      exact run_path Try.func10 (ob_c (ht.gather_size _ _ h1) (ob_b h2 (ob_v (len_ts GMany.ts_map (l := a1)) (ob_k (gather_Sum_l1.ok ht n _ _ _ _ _ _ _ h3) ob)))) (by kernel_rfl)
    · dsimp only at h
      obtain ⟨a14, a15, a16⟩ := r
      have h4 := h
      exact run_path Try.func10 (ob_c (ht.gather_size _ _ h1) (ob_b h2 (ob_v (len_ts GMany.ts_map (l := a1)) (ob_k (gather_Sum_l1.ok ht n _ _ _ _ _ _ _ h3) (ob_j (gather_Sum_j2.ok ht n _ _ _ _ h4) ob))))) (by kernel_rfl)
theorem ref16_Size_l1.okL {t : Tab} {call : FuncId → List AV → List AV → Option (AV × List AV)} (ht : TabOk t call) (n : Nat) : ∀ (k : Nat) (a1 : List GMany) (a2 : Int) (a3 : Int) (r : (Int × Int) ⊕ ((List GMany) × Int × Int × Bool)), ref16_Size_l1 t n k a1 a2 a3 = some r → loopN (exec (env Try.prog 21 Try.f21 call) n (sub [1, 1, 0, 1, 0, 0] (bodyOf Try.f21))) k (mkSt 42 42 [(0, (.t (.sl false 6 (GMany.ts a1)))), (4, (.t (.v (.int .i64 a2)))), (5, (.t (.v (.int .i64 a3))))] []) = some (ref16_Size_l1.to r)
  | 0, a1, a2, a3, r, h => by rw [ref16_Size_l1] at h; cases h
  | k + 1, a1, a2, a3, r, h => by
    rw [ref16_Size_l1] at h
    by_cases h1 : (decide (a3 < (a1.length : Int))) = true
    · rw [if_pos h1] at h
      by_cases h2 : (decide (0 ≤ (a3 : Int))) = true
      case neg => rw [if_neg h2] at h; cases h
      rw [if_pos h2] at h
      rcases h3 : a1[(a3 : Int).toNat]? with _ | ⟨⟨a4, a5, a6, a7, a8⟩, a9⟩
      · rw [h3] at h; cases h
      rw [h3] at h
      dsimp only at h
      by_cases h4 : (decide (a9 < 1)) = true
      · rw [if_pos h4] at h
        rw [← Option.some.inj h]
        exact loop_out (path (ob_v (len_ts GMany.ts_map (l := a1)) (ob_b h1 (ob_n h2 (ob_t (look_ts GMany.ts_map h3) (ob_b h4 ob))))) (by kernel_rfl)) (fun h => by cases h)
      · rw [if_neg h4] at h
        replace h4 := Bool.eq_false_iff.2 h4
        exact loop_more (path (ob_v (len_ts GMany.ts_map (l := a1)) (ob_b h1 (ob_n h2 (ob_t (look_ts GMany.ts_map h3) (ob_b h4 ob))))) (by kernel_rfl)) (ref16_Size_l1.okL ht n k _ _ _ _ h)
    · rw [if_neg h1] at h
      replace h1 := Bool.eq_false_iff.2 h1
      rw [← Option.some.inj h]
      exact loop_out (path (ob_v (len_ts GMany.ts_map (l := a1)) (ob_b h1 ob)) (by kernel_rfl)) (fun h => by cases h)
theorem ref16_Size_l1.ok {t : Tab} {call : FuncId → List AV → List AV → Option (AV × List AV)} (ht : TabOk t call) (n : Nat) (a1 : List GMany) (a2 : Int) (a3 : Int) (r : (Int × Int) ⊕ ((List GMany) × Int × Int × Bool)) (h : ref16_Size_l1 t n n a1 a2 a3 = some r) : exec (env Try.prog 21 Try.f21 call) n (sub [1, 1, 0, 1, 0] (bodyOf Try.f21)) (mkSt 42 42 [(0, (.t (.sl false 6 (GMany.ts a1)))), (4, (.t (.v (.int .i64 a2)))), (5, (.t (.v (.int .i64 a3))))] []) = some (ref16_Size_l1.to r) := by
  have e1 : sub [1, 1, 0, 1, 0] (bodyOf Try.f21) = .loop (sub [1, 1, 0, 1, 0, 0] (bodyOf Try.f21)) := by kernel_rfl
  rw [e1, exec]
  exact ref16_Size_l1.okL ht n n a1 a2 a3 r h
theorem ref16_Size_l3.okL {t : Tab} {call : FuncId → List AV → List AV → Option (AV × List AV)} (ht : TabOk t call) (n : Nat) : ∀ (k : Nat) (a1 : List GMany) (a2 : Int) (a3 : Int) (r : (Int × Int) ⊕ ((List GMany) × Int × Int × Bool)), ref16_Size_l3 t n k a1 a2 a3 = some r → loopN (exec (env Try.prog 21 Try.f21 call) n (sub [1, 1, 1, 0, 1, 0, 0] (bodyOf Try.f21))) k (mkSt 42 42 [(0, (.t (.sl false 6 (GMany.ts a1)))), (4, (.t (.v (.int .i64 a2)))), (6, (.t (.v (.int .i64 a3))))] []) = some (ref16_Size_l3.to r)
  | 0, a1, a2, a3, r, h => by rw [ref16_Size_l3] at h; cases h
  | k + 1, a1, a2, a3, r, h => by
    rw [ref16_Size_l3] at h
    by_cases h1 : (decide (a3 < (a1.length : Int))) = true
    · rw [if_pos h1] at h
      by_cases h2 : (decide (0 ≤ (a3 : Int))) = true
      case neg => rw [if_neg h2] at h; cases h
      rw [if_pos h2] at h
      rcases h3 : a1[(a3 : Int).toNat]? with _ | ⟨⟨a4, a5, a6, a7, a8⟩, a9⟩
      · rw [h3] at h; cases h
      rw [h3] at h
      dsimp only at h
      rcases h4 : t.ref01_Add ([a2, a9] : List Int) with _ | ⟨a10, a11⟩
      · rw [h4] at h; cases h
      rw [h4] at h
      dsimp only at h
      by_cases h5 : (a11 != 0) = true
      · rw [if_pos h5] at h
        rw [← Option.some.inj h]
        exact loop_out (path (ob_v (len_ts GMany.ts_map (l := a1)) (ob_b h1 (ob_n h2 (ob_t (look_ts GMany.ts_map h3) (ob_c (ht.ref01_Add _ _ h4) (ob_b h5 ob)))))) (by kernel_rfl)) (fun h => by cases h)
      · rw [if_neg h5] at h
        replace h5 := Bool.eq_false_iff.2 h5
        exact loop_more (path (ob_v (len_ts GMany.ts_map (l := a1)) (ob_b h1 (ob_n h2 (ob_t (look_ts GMany.ts_map h3) (ob_c (ht.ref01_Add _ _ h4) (ob_b h5 ob)))))) (by kernel_rfl)) (ref16_Size_l3.okL ht n k _ _ _ _ h)
    · rw [if_neg h1] at h
      replace h1 := Bool.eq_false_iff.2 h1
      rw [← Option.some.inj h]
      exact loop_out (path (ob_v (len_ts GMany.ts_map (l := a1)) (ob_b h1 ob)) (by kernel_rfl)) (fun h => by cases h)
theorem ref16_Size_l3.ok {t : Tab} {call : FuncId → List AV → List AV → Option (AV × List AV)} (ht : TabOk t call) (n : Nat) (a1 : List GMany) (a2 : Int) (a3 : Int) (r : (Int × Int) ⊕ ((List GMany) × Int × Int × Bool)) (h : ref16_Size_l3 t n n a1 a2 a3 = some r) : exec (env Try.prog 21 Try.f21 call) n (sub [1, 1, 1, 0, 1, 0] (bodyOf Try.f21)) (mkSt 42 42 [(0, (.t (.sl false 6 (GMany.ts a1)))), (4, (.t (.v (.int .i64 a2)))), (6, (.t (.v (.int .i64 a3))))] []) = some (ref16_Size_l3.to r) := by
  have e1 : sub [1, 1, 1, 0, 1, 0] (bodyOf Try.f21) = .loop (sub [1, 1, 1, 0, 1, 0, 0] (bodyOf Try.f21)) := by kernel_rfl
  rw [e1, exec]
  exact ref16_Size_l3.okL ht n n a1 a2 a3 r h
theorem ref16_Size_j2.ok {t : Tab} {call : FuncId → List AV → List AV → Option (AV × List AV)} (ht : TabOk t call) (n : Nat) (a1 : List GMany) (a2 : Int) (r : Int × Int) (h : ref16_Size_j2 t n a1 a2 = some r) : exec (env Try.prog 21 Try.f21 call) n (sub [1, 1, 1] (bodyOf Try.f21)) (mkSt 42 42 [(0, (.t (.sl false 6 (GMany.ts a1)))), (4, (.t (.v (.int .i64 a2))))] []) = some (ref16_Size_j2.to r) := by
  rw [ref16_Size_j2] at h
  rcases h1 : ref16_Size_l3 t n n a1 a2 0 with _ | q_
  · rw [h1] at h; cases h
  rw [h1] at h
  rcases q_ with ⟨a3, a4⟩ | ⟨a5, a6, a7, a8⟩
  · dsimp only at h
    rw [← Option.some.inj h]
    exact path (ob_k (ref16_Size_l3.ok ht n _ _ _ _ h1) ob) (by kernel_rfl)
  · dsimp only at h
    rw [← Option.some.inj h]
    exact path (ob_k (ref16_Size_l3.ok ht n _ _ _ _ h1) ob) (by kernel_rfl)
theorem ref16_Size.ok {n : Nat} {t : Tab} (ht : TabOk t (run Try.prog own kp X n)) : ∀ (p1 : List GMany) r, ref16_Size t n p1 = some r → run Try.prog own kp X (n + 1) 21 [(.t (.sl false 6 (GMany.ts p1)))] [] = some ((.tup [(.v (.int .i64 r.1)), (.v (.int .i64 r.2))]), []) := by
  intro p1 r h
  obtain ⟨a1, rfl⟩ : ∃ z_, z_ = p1 := ⟨_, rfl⟩
  rw [ref16_Size] at h
  rcases h1 : ref16_Size_l1 t n n a1 0 0 with _ | q_
  · rw [h1] at h; cases h
  rw [h1] at h
  rcases q_ with ⟨a2, a3⟩ | ⟨a4, a5, a6, a7⟩
  · dsimp only at h
    rw [← Option.some.inj h]
    exact run_path Try.func21 (ob_k (ref16_Size_l1.ok ht n _ _ _ _ h1) ob) (by kernel_rfl)
  · dsimp only at h
    obtain ⟨a8, a9⟩ := r
    have h2 := h
    exact run_path Try.func21 (ob_k (ref16_Size_l1.ok ht n _ _ _ _ h1) (ob_j (ref16_Size_j2.ok ht n _ _ _ h2) ob)) (by kernel_rfl)
theorem law16_number.ok {n : Nat} {t : Tab} (ht : TabOk t (run Try.prog own kp X n)) : ∀ (p1 : Int) r, law16_number t n p1 = some r → run Try.prog own kp X (n + 1) 22 [(.t (.v (.int .i64 p1)))] [] = some ((.t (GValue.t r)), []) := by
  intro p1 r h
  obtain ⟨a1, rfl⟩ : ∃ z_, z_ = p1 := ⟨_, rfl⟩
  rw [law16_number] at h
  rw [← Option.some.inj h]
  exact run_path Try.func22 ob (by kernel_rfl)
theorem ref02_Count_j2.ok {t : Tab} {call : FuncId → List AV → List AV → Option (AV × List AV)} (ht : TabOk t call) (n : Nat) (a1 : Int) (a2 : Int) (a3 : Int) (a4 : Int) (a5 : Int) (a6 : ByteArray) (a7 : List GValue) (a8 : List GValue) (r : Int × Int × Int × Int × Int × ByteArray × (List GValue) × (List GValue)) (h : ref02_Count_j2 t n a1 a2 a3 a4 a5 a6 a7 a8 = some r) : exec (env Try.prog 25 Try.f25 call) n (sub [1, 1, 0, 1, 0, 0, 1] (bodyOf Try.f25)) (mkSt 60 60 [(1, (.t (.v (.int .i64 a1)))), (2, (.ptr 2 0 [] 0)), (5, (.t (.v (.int .i64 a2)))), (6, (.t (.v (.int .i64 a3))))] [(2, (.t (.st [(.v (.int .i64 a4)), (.v (.int .i64 a5)), (.v (.string a6)), (.sl false 5 (GValue.ts a7)), (.sl false 5 (GValue.ts a8))])))]) = some (ref02_Count_j2.to r) := by
  rw [ref02_Count_j2] at h
  by_cases h1 : (decide (0 ≤ (a3 : Int))) = true
  case neg => rw [if_neg h1] at h; cases h
  rw [if_pos h1] at h
  rcases h2 : a7[(a3 : Int).toNat]? with _ | ⟨a9, a10, a11, a12, a13⟩
  · rw [h2] at h; cases h
  rw [h2] at h
  dsimp only at h
  rcases h3 : t.ref02_Count (GValue.mk a9 a10 a11 a12 a13) (IntKind.wrap .i64 (a1 - a2)) with _ | a14
  · rw [h3] at h; cases h
  rw [h3] at h
  dsimp only at h
  rw [← Option.some.inj h]
  exact path (ob_n h1 (ob_t (look_ts GValue.ts_map h2) (ob_c (ht.ref02_Count _ _ _ h3) ob))) (by kernel_rfl)
theorem ref02_Count_l1.okL {t : Tab} {call : FuncId → List AV → List AV → Option (AV × List AV)} (ht : TabOk t call) (n : Nat) : ∀ (k : Nat) (a1 : Int) (a2 : Int) (a3 : Int) (a4 : Int) (a5 : Int) (a6 : ByteArray) (a7 : List GValue) (a8 : List GValue) (r : Int × Int × Int × Bool × Int × Int × ByteArray × (List GValue) × (List GValue)), ref02_Count_l1 t n k a1 a2 a3 a4 a5 a6 a7 a8 = some r → loopN (exec (env Try.prog 25 Try.f25 call) n (sub [1, 1, 0, 1, 0, 0] (bodyOf Try.f25))) k (mkSt 60 60 [(1, (.t (.v (.int .i64 a1)))), (2, (.ptr 2 0 [] 0)), (5, (.t (.v (.int .i64 a2)))), (6, (.t (.v (.int .i64 a3))))] [(2, (.t (.st [(.v (.int .i64 a4)), (.v (.int .i64 a5)), (.v (.string a6)), (.sl false 5 (GValue.ts a7)), (.sl false 5 (GValue.ts a8))])))]) = some (ref02_Count_l1.to r)
  | 0, a1, a2, a3, a4, a5, a6, a7, a8, r, h => by rw [ref02_Count_l1] at h; cases h
  | k + 1, a1, a2, a3, a4, a5, a6, a7, a8, r, h => by
    rw [ref02_Count_l1] at h
    by_cases h1 : (decide (a3 < (a7.length : Int))) = true
    · rw [if_pos h1] at h
      by_cases h2 : (decide (a2 < a1)) = true
      · rw [if_pos h2] at h
        rcases h3 : ref02_Count_j2 t n  a1 a2 a3 a4 a5 a6 a7 a8 with _ | q_
        · rw [h3] at h; cases h
        rw [h3] at h
        obtain ⟨a9, a10, a11, a12, a13, a14, a15, a16⟩ := q_
        dsimp only at h
        exact loop_more (path (ob_v (len_ts GValue.ts_map (l := a7)) (ob_b h1 (ob_b h1 (ob_b h1 (ob_b h1 (ob_b h2 (ob_j (ref02_Count_j2.ok ht n _ _ _ _ _ _ _ _ _ h3) ob))))))) (by kernel_rfl)) (ref02_Count_l1.okL ht n k _ _ _ _ _ _ _ _ _ h)
      · rw [if_neg h2] at h
        replace h2 := Bool.eq_false_iff.2 h2
        rw [← Option.some.inj h]
        exact loop_out (path (ob_v (len_ts GValue.ts_map (l := a7)) (ob_b h1 (ob_b h1 (ob_b h1 (ob_b h1 (ob_b h2 ob)))))) (by kernel_rfl)) (fun h => by cases h)
    · rw [if_neg h1] at h
      replace h1 := Bool.eq_false_iff.2 h1
      rw [← Option.some.inj h]
      exact loop_out (path (ob_v (len_ts GValue.ts_map (l := a7)) (ob_b h1 (ob_b h1 (ob_b h1 (ob_b h1 (ob_b (rfl : false = false) ob)))))) (by kernel_rfl)) (fun h => by cases h)
theorem ref02_Count_l1.ok {t : Tab} {call : FuncId → List AV → List AV → Option (AV × List AV)} (ht : TabOk t call) (n : Nat) (a1 : Int) (a2 : Int) (a3 : Int) (a4 : Int) (a5 : Int) (a6 : ByteArray) (a7 : List GValue) (a8 : List GValue) (r : Int × Int × Int × Bool × Int × Int × ByteArray × (List GValue) × (List GValue)) (h : ref02_Count_l1 t n n a1 a2 a3 a4 a5 a6 a7 a8 = some r) : exec (env Try.prog 25 Try.f25 call) n (sub [1, 1, 0, 1, 0] (bodyOf Try.f25)) (mkSt 60 60 [(1, (.t (.v (.int .i64 a1)))), (2, (.ptr 2 0 [] 0)), (5, (.t (.v (.int .i64 a2)))), (6, (.t (.v (.int .i64 a3))))] [(2, (.t (.st [(.v (.int .i64 a4)), (.v (.int .i64 a5)), (.v (.string a6)), (.sl false 5 (GValue.ts a7)), (.sl false 5 (GValue.ts a8))])))]) = some (ref02_Count_l1.to r) := by
  have e1 : sub [1, 1, 0, 1, 0] (bodyOf Try.f25) = .loop (sub [1, 1, 0, 1, 0, 0] (bodyOf Try.f25)) := by kernel_rfl
  rw [e1, exec]
  exact ref02_Count_l1.okL ht n n a1 a2 a3 a4 a5 a6 a7 a8 r h
theorem ref02_Count_j5.ok {t : Tab} {call : FuncId → List AV → List AV → Option (AV × List AV)} (ht : TabOk t call) (n : Nat) (a1 : Int) (a2 : Int) (a3 : Int) (a4 : Int) (a5 : Int) (a6 : ByteArray) (a7 : List GValue) (a8 : List GValue) (r : Int × Int × Int × Int × Int × ByteArray × (List GValue) × (List GValue)) (h : ref02_Count_j5 t n a1 a2 a3 a4 a5 a6 a7 a8 = some r) : exec (env Try.prog 25 Try.f25 call) n (sub [1, 1, 1, 0, 1, 0, 0, 1] (bodyOf Try.f25)) (mkSt 60 60 [(1, (.t (.v (.int .i64 a1)))), (2, (.ptr 2 0 [] 0)), (5, (.t (.v (.int .i64 a2)))), (7, (.t (.v (.int .i64 a3))))] [(2, (.t (.st [(.v (.int .i64 a4)), (.v (.int .i64 a5)), (.v (.string a6)), (.sl false 5 (GValue.ts a7)), (.sl false 5 (GValue.ts a8))])))]) = some (ref02_Count_j5.to r) := by
  rw [ref02_Count_j5] at h
  by_cases h1 : (decide (0 ≤ (a3 : Int))) = true
  case neg => rw [if_neg h1] at h; cases h
  rw [if_pos h1] at h
  rcases h2 : a8[(a3 : Int).toNat]? with _ | ⟨a9, a10, a11, a12, a13⟩
  · rw [h2] at h; cases h
  rw [h2] at h
  dsimp only at h
  rcases h3 : t.ref02_Count (GValue.mk a9 a10 a11 a12 a13) (IntKind.wrap .i64 (a1 - a2)) with _ | a14
  · rw [h3] at h; cases h
  rw [h3] at h
  dsimp only at h
  rw [← Option.some.inj h]
  exact path (ob_n h1 (ob_t (look_ts GValue.ts_map h2) (ob_c (ht.ref02_Count _ _ _ h3) ob))) (by kernel_rfl)
theorem ref02_Count_l4.okL {t : Tab} {call : FuncId → List AV → List AV → Option (AV × List AV)} (ht : TabOk t call) (n : Nat) : ∀ (k : Nat) (a1 : Int) (a2 : Int) (a3 : Int) (a4 : Int) (a5 : Int) (a6 : ByteArray) (a7 : List GValue) (a8 : List GValue) (r : Int × Int × Int × Bool × Int × Int × ByteArray × (List GValue) × (List GValue)), ref02_Count_l4 t n k a1 a2 a3 a4 a5 a6 a7 a8 = some r → loopN (exec (env Try.prog 25 Try.f25 call) n (sub [1, 1, 1, 0, 1, 0, 0] (bodyOf Try.f25))) k (mkSt 60 60 [(1, (.t (.v (.int .i64 a1)))), (2, (.ptr 2 0 [] 0)), (5, (.t (.v (.int .i64 a2)))), (7, (.t (.v (.int .i64 a3))))] [(2, (.t (.st [(.v (.int .i64 a4)), (.v (.int .i64 a5)), (.v (.string a6)), (.sl false 5 (GValue.ts a7)), (.sl false 5 (GValue.ts a8))])))]) = some (ref02_Count_l4.to r)
  | 0, a1, a2, a3, a4, a5, a6, a7, a8, r, h => by rw [ref02_Count_l4] at h; cases h
  | k + 1, a1, a2, a3, a4, a5, a6, a7, a8, r, h => by
    rw [ref02_Count_l4] at h
    by_cases h1 : (decide (a3 < (a8.length : Int))) = true
    · rw [if_pos h1] at h
      by_cases h2 : (decide (a2 < a1)) = true
      · rw [if_pos h2] at h
        rcases h3 : ref02_Count_j5 t n  a1 a2 a3 a4 a5 a6 a7 a8 with _ | q_
        · rw [h3] at h; cases h
        rw [h3] at h
        obtain ⟨a9, a10, a11, a12, a13, a14, a15, a16⟩ := q_
        dsimp only at h
        exact loop_more (path (ob_v (len_ts GValue.ts_map (l := a8)) (ob_b h1 (ob_b h1 (ob_b h1 (ob_b h1 (ob_b h2 (ob_j (ref02_Count_j5.ok ht n _ _ _ _ _ _ _ _ _ h3) ob))))))) (by kernel_rfl)) (ref02_Count_l4.okL ht n k _ _ _ _ _ _ _ _ _ h)
      · rw [if_neg h2] at h
        replace h2 := Bool.eq_false_iff.2 h2
        rw [← Option.some.inj h]
        exact loop_out (path (ob_v (len_ts GValue.ts_map (l := a8)) (ob_b h1 (ob_b h1 (ob_b h1 (ob_b h1 (ob_b h2 ob)))))) (by kernel_rfl)) (fun h => by cases h)
    · rw [if_neg h1] at h
      replace h1 := Bool.eq_false_iff.2 h1
      rw [← Option.some.inj h]
      exact loop_out (path (ob_v (len_ts GValue.ts_map (l := a8)) (ob_b h1 (ob_b h1 (ob_b h1 (ob_b h1 (ob_b (rfl : false = false) ob)))))) (by kernel_rfl)) (fun h => by cases h)
theorem ref02_Count_l4.ok {t : Tab} {call : FuncId → List AV → List AV → Option (AV × List AV)} (ht : TabOk t call) (n : Nat) (a1 : Int) (a2 : Int) (a3 : Int) (a4 : Int) (a5 : Int) (a6 : ByteArray) (a7 : List GValue) (a8 : List GValue) (r : Int × Int × Int × Bool × Int × Int × ByteArray × (List GValue) × (List GValue)) (h : ref02_Count_l4 t n n a1 a2 a3 a4 a5 a6 a7 a8 = some r) : exec (env Try.prog 25 Try.f25 call) n (sub [1, 1, 1, 0, 1, 0] (bodyOf Try.f25)) (mkSt 60 60 [(1, (.t (.v (.int .i64 a1)))), (2, (.ptr 2 0 [] 0)), (5, (.t (.v (.int .i64 a2)))), (7, (.t (.v (.int .i64 a3))))] [(2, (.t (.st [(.v (.int .i64 a4)), (.v (.int .i64 a5)), (.v (.string a6)), (.sl false 5 (GValue.ts a7)), (.sl false 5 (GValue.ts a8))])))]) = some (ref02_Count_l4.to r) := by
  have e1 : sub [1, 1, 1, 0, 1, 0] (bodyOf Try.f25) = .loop (sub [1, 1, 1, 0, 1, 0, 0] (bodyOf Try.f25)) := by kernel_rfl
  rw [e1, exec]
  exact ref02_Count_l4.okL ht n n a1 a2 a3 a4 a5 a6 a7 a8 r h
theorem ref02_Count_j6.ok {t : Tab} {call : FuncId → List AV → List AV → Option (AV × List AV)} (ht : TabOk t call) (n : Nat) (a1 : Int) (a2 : Int) (a3 : Int) (a4 : ByteArray) (a5 : List GValue) (a6 : List GValue) (r : Int) (h : ref02_Count_j6 t n a1 a2 a3 a4 a5 a6 = some r) : exec (env Try.prog 25 Try.f25 call) n (sub [1, 1, 1, 1] (bodyOf Try.f25)) (mkSt 60 60 [(2, (.ptr 2 0 [] 0)), (5, (.t (.v (.int .i64 a1))))] [(2, (.t (.st [(.v (.int .i64 a2)), (.v (.int .i64 a3)), (.v (.string a4)), (.sl false 5 (GValue.ts a5)), (.sl false 5 (GValue.ts a6))])))]) = some (ref02_Count_j6.to r) := by
  rw [ref02_Count_j6] at h
  rcases h1 : quoI .i64 (a4.size : Int) 20 with _ | a7
  · rw [h1] at h; cases h
  rw [h1] at h
  dsimp only at h
  rw [← Option.some.inj h]
  exact path (ob_v (quo_ok (P := Try.prog) (t := 3) (x := (.tmp 57)) (y := (.const (.int .i64 20))) h1) ob) (by kernel_rfl)
theorem ref02_Count_j3.ok {t : Tab} {call : FuncId → List AV → List AV → Option (AV × List AV)} (ht : TabOk t call) (n : Nat) (a1 : Int) (a2 : Int) (a3 : Int) (a4 : Int) (a5 : ByteArray) (a6 : List GValue) (a7 : List GValue) (r : Int) (h : ref02_Count_j3 t n a1 a2 a3 a4 a5 a6 a7 = some r) : exec (env Try.prog 25 Try.f25 call) n (sub [1, 1, 1] (bodyOf Try.f25)) (mkSt 60 60 [(1, (.t (.v (.int .i64 a1)))), (2, (.ptr 2 0 [] 0)), (5, (.t (.v (.int .i64 a2))))] [(2, (.t (.st [(.v (.int .i64 a3)), (.v (.int .i64 a4)), (.v (.string a5)), (.sl false 5 (GValue.ts a6)), (.sl false 5 (GValue.ts a7))])))]) = some (ref02_Count_j3.to r) := by
  rw [ref02_Count_j3] at h
  rcases h1 : ref02_Count_l4 t n n a1 a2 0 a3 a4 a5 a6 a7 with _ | q_
  · rw [h1] at h; cases h
  rw [h1] at h
  obtain ⟨a8, a9, a10, a11, a12, a13, a14, a15, a16⟩ := q_
  dsimp only at h
  obtain ⟨a17, rfl⟩ : ∃ z_, z_ = r := ⟨_, rfl⟩
  have h2 := h
  exact path (ob_k (ref02_Count_l4.ok ht n _ _ _ _ _ _ _ _ _ h1) (ob_j (ref02_Count_j6.ok ht n _ _ _ _ _ _ _ h2) ob)) (by kernel_rfl)
theorem ref02_Count.ok {n : Nat} {t : Tab} (ht : TabOk t (run Try.prog own kp X n)) : ∀ (p1 : GValue) (p2 : Int) r, ref02_Count t n p1 p2 = some r → run Try.prog own kp X (n + 1) 25 [(.t (GValue.t p1)), (.t (.v (.int .i64 p2)))] [] = some ((.t (.v (.int .i64 r))), []) := by
  intro p1 p2 r h
  obtain ⟨a1, a2, a3, a4, a5⟩ := p1
  obtain ⟨a6, rfl⟩ : ∃ z_, z_ = p2 := ⟨_, rfl⟩
  rw [ref02_Count] at h
  rcases h1 : ref02_Count_l1 t n n a6 1 0 a1 a2 a3 a4 a5 with _ | q_
  · rw [h1] at h; cases h
  rw [h1] at h
  obtain ⟨a7, a8, a9, a10, a11, a12, a13, a14, a15⟩ := q_
  dsimp only at h
  obtain ⟨a16, rfl⟩ : ∃ z_, z_ = r := ⟨_, rfl⟩
  have h2 := h
  exact run_path Try.func25 (ob_k (ref02_Count_l1.ok ht n _ _ _ _ _ _ _ _ _ h1) (ob_j (ref02_Count_j3.ok ht n _ _ _ _ _ _ _ _ h2) ob)) (by kernel_rfl)
theorem gather_size_l1.okL {t : Tab} {call : FuncId → List AV → List AV → Option (AV × List AV)} (ht : TabOk t call) (n : Nat) : ∀ (k : Nat) (a1 : List Int) (a2 : List GMany) (a3 : Int) (a4 : Int) (r : (Int × Int) ⊕ ((List Int) × (List GMany) × Int × Int × Bool)), gather_size_l1 t n k a1 a2 a3 a4 = some r → loopN (exec (env Try.prog 26 Try.f26 call) n (sub [1, 1, 0, 1, 0, 0] (bodyOf Try.f26))) k (mkSt 32 32 [(4, (.t (.sl true 1 (ints_i64 a1)))), (9, (.t (.sl false 6 (GMany.ts a2)))), (10, (.t (.v (.int .i64 a3)))), (11, (.t (.v (.int .i64 a4))))] []) = some (gather_size_l1.to r)
  | 0, a1, a2, a3, a4, r, h => by rw [gather_size_l1] at h; cases h
  | k + 1, a1, a2, a3, a4, r, h => by
    rw [gather_size_l1] at h
    by_cases h1 : (decide (a4 < a3)) = true
    · rw [if_pos h1] at h
      by_cases h2 : (decide (0 ≤ (a4 : Int))) = true
      case neg => rw [if_neg h2] at h; cases h
      rw [if_pos h2] at h
      rcases h3 : a2[(a4 : Int).toNat]? with _ | ⟨⟨a5, a6, a7, a8, a9⟩, a10⟩
      · rw [h3] at h; cases h
      rw [h3] at h
      dsimp only at h
      by_cases h4 : (decide (a10 < 1)) = true
      · rw [if_pos h4] at h
        rw [← Option.some.inj h]
        exact loop_out (path (ob_b h1 (ob_n h2 (ob_t (look_ts GMany.ts_map h3) (ob_b h4 ob)))) (by kernel_rfl)) (fun h => by cases h)
      · rw [if_neg h4] at h
        replace h4 := Bool.eq_false_iff.2 h4
        by_cases h5 : (a1.length + ([a10] : List Int).length) * 8 ≤ 140737488355328
        case neg => rw [if_neg h5] at h; cases h
        rw [if_pos h5] at h
        exact loop_more (path (ob_b h1 (ob_n h2 (ob_t (look_ts GMany.ts_map h3) (ob_b h4 (ob_le (room_ts ints_i64_map h5) (ob_l (app_ts ints_i64_map (a := a1) (b := ([a10] : List Int))) ob)))))) (by kernel_rfl)) (gather_size_l1.okL ht n k _ _ _ _ _ h)
    · rw [if_neg h1] at h
      replace h1 := Bool.eq_false_iff.2 h1
      rw [← Option.some.inj h]
      exact loop_out (path (ob_b h1 ob) (by kernel_rfl)) (fun h => by cases h)
theorem gather_size_l1.ok {t : Tab} {call : FuncId → List AV → List AV → Option (AV × List AV)} (ht : TabOk t call) (n : Nat) (a1 : List Int) (a2 : List GMany) (a3 : Int) (a4 : Int) (r : (Int × Int) ⊕ ((List Int) × (List GMany) × Int × Int × Bool)) (h : gather_size_l1 t n n a1 a2 a3 a4 = some r) : exec (env Try.prog 26 Try.f26 call) n (sub [1, 1, 0, 1, 0] (bodyOf Try.f26)) (mkSt 32 32 [(4, (.t (.sl true 1 (ints_i64 a1)))), (9, (.t (.sl false 6 (GMany.ts a2)))), (10, (.t (.v (.int .i64 a3)))), (11, (.t (.v (.int .i64 a4))))] []) = some (gather_size_l1.to r) := by
  have e1 : sub [1, 1, 0, 1, 0] (bodyOf Try.f26) = .loop (sub [1, 1, 0, 1, 0, 0] (bodyOf Try.f26)) := by kernel_rfl
  rw [e1, exec]
  exact gather_size_l1.okL ht n n a1 a2 a3 a4 r h
theorem gather_size_j2.ok {t : Tab} {call : FuncId → List AV → List AV → Option (AV × List AV)} (ht : TabOk t call) (n : Nat) (a1 : List Int) (r : Int × Int) (h : gather_size_j2 t n a1 = some r) : exec (env Try.prog 26 Try.f26 call) n (sub [1, 1, 1] (bodyOf Try.f26)) (mkSt 32 32 [(4, (.t (.sl true 1 (ints_i64 a1))))] []) = some (gather_size_j2.to r) := by
  rw [gather_size_j2] at h
  rcases h1 : t.ints_Add a1 with _ | ⟨a2, a3⟩
  · rw [h1] at h; cases h
  rw [h1] at h
  dsimp only at h
  by_cases h2 : (a3 != 0) = true
  · rw [if_pos h2] at h
    rw [← Option.some.inj h]
    exact path (ob_c (ht.ints_Add _ _ h1) (ob_b h2 ob)) (by kernel_rfl)
  · rw [if_neg h2] at h
    replace h2 := Bool.eq_false_iff.2 h2
    rw [← Option.some.inj h]
    exact path (ob_c (ht.ints_Add _ _ h1) (ob_b h2 ob)) (by kernel_rfl)
theorem gather_size.ok {n : Nat} {t : Tab} (ht : TabOk t (run Try.prog own kp X n)) : ∀ (p1 : List GMany) r, gather_size t n p1 = some r → run Try.prog own kp X (n + 1) 26 [(.t (.sl false 6 (GMany.ts p1)))] [] = some ((.tup [(.v (.int .i64 r.1)), (.v (.int .i64 r.2))]), []) := by
  intro p1 r h
  obtain ⟨a1, rfl⟩ : ∃ z_, z_ = p1 := ⟨_, rfl⟩
  rw [gather_size] at h
  rcases h1 : gather_size_l1 t n n ([] : List Int) a1 (a1.length : Int) 0 with _ | q_
  · rw [h1] at h; cases h
  rw [h1] at h
  rcases q_ with ⟨a2, a3⟩ | ⟨a4, a5, a6, a7, a8⟩
  · dsimp only at h
    rw [← Option.some.inj h]
    exact run_path Try.func26 (ob_v (len_ts GMany.ts_map (l := a1)) (ob_k (gather_size_l1.ok ht n _ _ _ _ _ h1) ob)) (by kernel_rfl)
  · dsimp only at h
    obtain ⟨a9, a10⟩ := r
    have h2 := h
    exact run_path Try.func26 (ob_v (len_ts GMany.ts_map (l := a1)) (ob_k (gather_size_l1.ok ht n _ _ _ _ _ h1) (ob_j (gather_size_j2.ok ht n _ _ h2) ob))) (by kernel_rfl)
theorem gather_cut_j2.ok {t : Tab} {call : FuncId → List AV → List AV → Option (AV × List AV)} (ht : TabOk t call) (n : Nat) (a1 : Int) (a2 : Int) (a3 : List GMany) (a4 : Int) (a5 : List GMany) (a6 : Int) (a7 : Int) (a8 : Int) (a9 : Int) (a10 : ByteArray) (a11 : List GValue) (a12 : List GValue) (a13 : Int) (r : Int × Int × (List GMany) × Int × (List GMany) × Int × Int) (h : gather_cut_j2 t n a1 a2 a3 a4 a5 a6 a7 a8 a9 a10 a11 a12 a13 = some r) : exec (env Try.prog 39 Try.f39 call) n (sub [1, 1, 1, 0, 1, 0, 0, 1, 1, 0, 0, 1, 1, 1] (bodyOf Try.f39)) (mkSt 47 47 [(1, (.t (.v (.int .i64 a1)))), (2, (.t (.v (.int .i64 a2)))), (7, (.t (.sl true 6 (GMany.ts a3)))), (8, (.t (.v (.int .i64 a4)))), (10, (.ptr 10 0 [] 0)), (13, (.t (.sl false 6 (GMany.ts a5)))), (14, (.t (.v (.int .i64 a6)))), (15, (.t (.v (.int .i64 a7))))] [(10, (.t (.st [(.st [(.v (.int .i64 a8)), (.v (.int .i64 a9)), (.v (.string a10)), (.sl false 5 (GValue.ts a11)), (.sl false 5 (GValue.ts a12))]), (.v (.int .i64 a13))])))]) = some (gather_cut_j2.to r) := by
  rw [gather_cut_j2] at h
  rw [← Option.some.inj h]
  exact path ob (by kernel_rfl)
theorem gather_cut_l1.okL {t : Tab} {call : FuncId → List AV → List AV → Option (AV × List AV)} (ht : TabOk t call) (n : Nat) : ∀ (k : Nat) (a1 : Int) (a2 : Int) (a3 : List GMany) (a4 : Int) (a5 : List GMany) (a6 : Int) (a7 : Int) (r : Int × Int × (List GMany) × Int × (List GMany) × Int × Int × Bool), gather_cut_l1 t n k a1 a2 a3 a4 a5 a6 a7 = some r → loopN (exec (env Try.prog 39 Try.f39 call) n (sub [1, 1, 1, 0, 1, 0, 0] (bodyOf Try.f39))) k (mkSt 47 47 [(1, (.t (.v (.int .i64 a1)))), (2, (.t (.v (.int .i64 a2)))), (7, (.t (.sl true 6 (GMany.ts a3)))), (8, (.t (.v (.int .i64 a4)))), (13, (.t (.sl false 6 (GMany.ts a5)))), (14, (.t (.v (.int .i64 a6)))), (15, (.t (.v (.int .i64 a7))))] []) = some (gather_cut_l1.to r)
  | 0, a1, a2, a3, a4, a5, a6, a7, r, h => by rw [gather_cut_l1] at h; cases h
  | k + 1, a1, a2, a3, a4, a5, a6, a7, r, h => by
    rw [gather_cut_l1] at h
    by_cases h1 : (decide (a7 < a6)) = true
    · rw [if_pos h1] at h
      by_cases h2 : (decide (0 ≤ (a7 : Int))) = true
      case neg => rw [if_neg h2] at h; cases h
      rw [if_pos h2] at h
      rcases h3 : a5[(a7 : Int).toNat]? with _ | ⟨⟨a8, a9, a10, a11, a12⟩, a13⟩
      · rw [h3] at h; cases h
      rw [h3] at h
      dsimp only at h
      by_cases h4 : (decide ((if a1 > a4 then a1 else a4) < (if a2 < (IntKind.wrap .i64 (a4 + a13)) then a2 else (IntKind.wrap .i64 (a4 + a13))))) = true
      · rw [if_pos h4] at h
        rcases h5 : t.value_Copy (GValue.mk a8 a9 a10 a11 a12) with _ | ⟨a14, a15, a16, a17, a18⟩
        · rw [h5] at h; cases h
        rw [h5] at h
        dsimp only at h
        by_cases h6 : (a3.length + ([(GMany.mk (GValue.mk a14 a15 a16 a17 a18) (IntKind.wrap .i64 ((if a2 < (IntKind.wrap .i64 (a4 + a13)) then a2 else (IntKind.wrap .i64 (a4 + a13))) - (if a1 > a4 then a1 else a4))))] : List GMany).length) * 88 ≤ 140737488355328
        case neg => rw [if_neg h6] at h; cases h
        rw [if_pos h6] at h
        rcases h7 : gather_cut_j2 t n  a1 a2 (a3 ++ ([(GMany.mk (GValue.mk a14 a15 a16 a17 a18) (IntKind.wrap .i64 ((if a2 < (IntKind.wrap .i64 (a4 + a13)) then a2 else (IntKind.wrap .i64 (a4 + a13))) - (if a1 > a4 then a1 else a4))))] : List GMany)) a4 a5 a6 a7 a8 a9 a10 a11 a12 a13 with _ | q_
        · rw [h7] at h; cases h
        rw [h7] at h
        obtain ⟨a19, a20, a21, a22, a23, a24, a25⟩ := q_
        dsimp only at h
        exact loop_more (path (ob_b h1 (ob_n h2 (ob_t (look_ts GMany.ts_map h3) (ob_b h4 (ob_c (ht.value_Copy _ _ h5) (ob_le (room_ts GMany.ts_map h6) (ob_l (app_ts GMany.ts_map (a := a3) (b := ([(GMany.mk (GValue.mk a14 a15 a16 a17 a18) (IntKind.wrap .i64 ((if a2 < (IntKind.wrap .i64 (a4 + a13)) then a2 else (IntKind.wrap .i64 (a4 + a13))) - (if a1 > a4 then a1 else a4))))] : List GMany))) (ob_j (gather_cut_j2.ok ht n _ _ _ _ _ _ _ _ _ _ _ _ _ _ h7) ob)))))))) (by kernel_rfl)) (gather_cut_l1.okL ht n k _ _ _ _ _ _ _ _ h)
      · rw [if_neg h4] at h
        replace h4 := Bool.eq_false_iff.2 h4
        rcases h8 : gather_cut_j2 t n  a1 a2 a3 a4 a5 a6 a7 a8 a9 a10 a11 a12 a13 with _ | q_
        · rw [h8] at h; cases h
        rw [h8] at h
        obtain ⟨a26, a27, a28, a29, a30, a31, a32⟩ := q_
        dsimp only at h
        exact loop_more (path (ob_b h1 (ob_n h2 (ob_t (look_ts GMany.ts_map h3) (ob_b h4 (ob_j (gather_cut_j2.ok ht n _ _ _ _ _ _ _ _ _ _ _ _ _ _ h8) ob))))) (by kernel_rfl)) (gather_cut_l1.okL ht n k _ _ _ _ _ _ _ _ h)
    · rw [if_neg h1] at h
      replace h1 := Bool.eq_false_iff.2 h1
      rw [← Option.some.inj h]
      exact loop_out (path (ob_b h1 ob) (by kernel_rfl)) (fun h => by cases h)
theorem gather_cut_l1.ok {t : Tab} {call : FuncId → List AV → List AV → Option (AV × List AV)} (ht : TabOk t call) (n : Nat) (a1 : Int) (a2 : Int) (a3 : List GMany) (a4 : Int) (a5 : List GMany) (a6 : Int) (a7 : Int) (r : Int × Int × (List GMany) × Int × (List GMany) × Int × Int × Bool) (h : gather_cut_l1 t n n a1 a2 a3 a4 a5 a6 a7 = some r) : exec (env Try.prog 39 Try.f39 call) n (sub [1, 1, 1, 0, 1, 0] (bodyOf Try.f39)) (mkSt 47 47 [(1, (.t (.v (.int .i64 a1)))), (2, (.t (.v (.int .i64 a2)))), (7, (.t (.sl true 6 (GMany.ts a3)))), (8, (.t (.v (.int .i64 a4)))), (13, (.t (.sl false 6 (GMany.ts a5)))), (14, (.t (.v (.int .i64 a6)))), (15, (.t (.v (.int .i64 a7))))] []) = some (gather_cut_l1.to r) := by
  have e1 : sub [1, 1, 1, 0, 1, 0] (bodyOf Try.f39) = .loop (sub [1, 1, 1, 0, 1, 0, 0] (bodyOf Try.f39)) := by kernel_rfl
  rw [e1, exec]
  exact gather_cut_l1.okL ht n n a1 a2 a3 a4 a5 a6 a7 r h
theorem gather_cut.ok {n : Nat} {t : Tab} (ht : TabOk t (run Try.prog own kp X n)) : ∀ (p1 : List GMany) (p2 : Int) (p3 : Int) r, gather_cut t n p1 p2 p3 = some r → run Try.prog own kp X (n + 1) 39 [(.t (.sl false 6 (GMany.ts p1))), (.t (.v (.int .i64 p2))), (.t (.v (.int .i64 p3)))] [] = some ((.t (.sl true 6 (GMany.ts r))), []) := by
  intro p1 p2 p3 r h
  obtain ⟨a1, rfl⟩ : ∃ z_, z_ = p1 := ⟨_, rfl⟩
  obtain ⟨a2, rfl⟩ : ∃ z_, z_ = p2 := ⟨_, rfl⟩
  obtain ⟨a3, rfl⟩ : ∃ z_, z_ = p3 := ⟨_, rfl⟩
  rw [gather_cut] at h
  rcases h1 : gather_cut_l1 t n n a2 a3 ([] : List GMany) 0 a1 (a1.length : Int) 0 with _ | q_
  · rw [h1] at h; cases h
  rw [h1] at h
  obtain ⟨a4, a5, a6, a7, a8, a9, a10, a11⟩ := q_
  dsimp only at h
  rw [← Option.some.inj h]
  exact run_path Try.func39 (ob_v (len_ts GMany.ts_map (l := a1)) (ob_k (gather_cut_l1.ok ht n _ _ _ _ _ _ _ _ h1) ob)) (by kernel_rfl)
theorem ref02_Same.ok {n : Nat} {t : Tab} (ht : TabOk t (run Try.prog own kp X n)) : ∀ (p1 : GValue) (p2 : GValue) r, ref02_Same t n p1 p2 = some r → run Try.prog own kp X (n + 1) 16 [(.t (GValue.t p1)), (.t (GValue.t p2))] [] = some ((.t (.v (.bool r))), []) := by
  intro p1 p2 r h
  obtain ⟨a1, a2, a3, a4, a5⟩ := p1
  obtain ⟨a6, a7, a8, a9, a10⟩ := p2
  rw [ref02_Same] at h
  rcases h1 : t.ref02_compare (GValue.mk a1 a2 a3 a4 a5) (GValue.mk a6 a7 a8 a9 a10) 1 with _ | a11
  · rw [h1] at h; cases h
  rw [h1] at h
  dsimp only at h
  rw [← Option.some.inj h]
  exact run_path Try.func16 (ob_c (ht.ref02_compare _ _ _ _ h1) ob) (by kernel_rfl)
theorem gather_wide_add_j1.ok {t : Tab} {call : FuncId → List AV → List AV → Option (AV × List AV)} (ht : TabOk t call) (n : Nat) (a1 : Int) (a2 : Int) (a3 : Int) (a4 : Int) (r : Int × Int) (h : gather_wide_add_j1 t n a1 a2 a3 a4 = some r) : exec (env Try.prog 27 Try.f27 call) n (sub [1, 1] (bodyOf Try.f27)) (mkSt 48 49 [(0, (.ptr 48 0 [] 0)), (6, (.t (.v (.int .u64 a1)))), (7, (.t (.v (.int .u64 a2))))] [(48, (.t (.st [(.v (.int .u64 a3)), (.v (.int .u64 a4))])))]) = some (gather_wide_add_j1.to r) := by
  rw [gather_wide_add_j1] at h
  rcases h1 : t.math_bits_Add64 a4 a2 0 with _ | ⟨a5, a6⟩
  · rw [h1] at h; cases h
  rw [h1] at h
  dsimp only at h
  rcases h2 : t.math_bits_Add64 a3 a1 a6 with _ | ⟨a7, a8⟩
  · rw [h2] at h; cases h
  rw [h2] at h
  dsimp only at h
  rw [← Option.some.inj h]
  exact path (ob_c (ht.math_bits_Add64 _ _ _ _ h1) (ob_c (ht.math_bits_Add64 _ _ _ _ h2) ob)) (by kernel_rfl)
theorem gather_wide_add.ok {n : Nat} {t : Tab} (ht : TabOk t (run Try.prog own kp X n)) : ∀ (p1 : Int) (p2 : Int) (p3 : Gwide) r, gather_wide_add t n p1 p2 p3 = some r → run Try.prog own kp X (n + 1) 27 [(.ptr 0 0 [] 0), (.t (.v (.int .i64 p1))), (.t (.v (.int .i64 p2)))] [(.t (Gwide.t p3))] = some ((.tup []), [(.t (Gwide.t r))]) := by
  intro p1 p2 p3 r h
  obtain ⟨a1, rfl⟩ : ∃ z_, z_ = p1 := ⟨_, rfl⟩
  obtain ⟨a2, rfl⟩ : ∃ z_, z_ = p2 := ⟨_, rfl⟩
  obtain ⟨a3, a4⟩ := p3
  rw [gather_wide_add] at h
  rcases h1 : t.math_bits_Mul64 (IntKind.wrap .u64 a1) (IntKind.wrap .u64 a2) with _ | ⟨a5, a6⟩
  · rw [h1] at h; cases h
  rw [h1] at h
  dsimp only at h
  by_cases h2 : (decide (a1 < 0)) = true
  · rw [if_pos h2] at h
    rcases h3 : gather_wide_add_j1 t n  (IntKind.wrap .u64 (a5 - (IntKind.wrap .u64 a2))) a6 a3 a4 with _ | q_
    · rw [h3] at h; cases h
    rw [h3] at h
    obtain ⟨a7, a8⟩ := q_
    dsimp only at h
    rw [← Option.some.inj h]
    exact run_path Try.func27 (ob_c (ht.math_bits_Mul64 _ _ _ h1) (ob_b h2 (ob_j (gather_wide_add_j1.ok ht n _ _ _ _ _ h3) ob))) (by kernel_rfl)
  · rw [if_neg h2] at h
    replace h2 := Bool.eq_false_iff.2 h2
    rcases h4 : gather_wide_add_j1 t n  a5 a6 a3 a4 with _ | q_
    · rw [h4] at h; cases h
    rw [h4] at h
    obtain ⟨a9, a10⟩ := q_
    dsimp only at h
    rw [← Option.some.inj h]
    exact run_path Try.func27 (ob_c (ht.math_bits_Mul64 _ _ _ h1) (ob_b h2 (ob_j (gather_wide_add_j1.ok ht n _ _ _ _ _ h4) ob))) (by kernel_rfl)
theorem ref01_Add_l1.okL {t : Tab} {call : FuncId → List AV → List AV → Option (AV × List AV)} (ht : TabOk t call) (n : Nat) : ∀ (k : Nat) (a1 : List Int) (a2 : Int) (a3 : Bool) (a4 : List Int) (r : (Int × Int) ⊕ ((List Int) × Int × Bool × Bool × (List Int))), ref01_Add_l1 t n k a1 a2 a3 a4 = some r → loopN (exec (env Try.prog 40 Try.f40 call) n (sub [1, 1, 0, 1, 0, 0] (bodyOf Try.f40))) k (mkSt 33 33 [(0, (.t (.sl false 1 (ints_i64 a1)))), (4, (.ptr 4 0 [] 0)), (5, (.t (.v (.int .i64 a2))))] [(4, (.t (.st [(.v (.bool a3)), (.sl false 1 (ints_i64 a4))])))]) = some (ref01_Add_l1.to r)
  | 0, a1, a2, a3, a4, r, h => by rw [ref01_Add_l1] at h; cases h
  | k + 1, a1, a2, a3, a4, r, h => by
    rw [ref01_Add_l1] at h
    by_cases h1 : (decide (a2 < (a1.length : Int))) = true
    · rw [if_pos h1] at h
      by_cases h2 : (decide (0 ≤ (a2 : Int))) = true
      case neg => rw [if_neg h2] at h; cases h
      rw [if_pos h2] at h
      rcases h3 : a1[(a2 : Int).toNat]? with _ | a5
      · rw [h3] at h; cases h
      rw [h3] at h
      dsimp only at h
      rcases h4 : t.ref01_Of a5 with _ | ⟨a6, a7⟩
      · rw [h4] at h; cases h
      rw [h4] at h
      dsimp only at h
      rcases h5 : t.ref01_Num_Plus (GNum.mk a3 a4) (GNum.mk a6 a7) with _ | ⟨a8, a9⟩
      · rw [h5] at h; cases h
      rw [h5] at h
      dsimp only at h
      rcases h6 : t.ref01_Num_Int (GNum.mk a8 a9) with _ | ⟨a10, a11⟩
      · rw [h6] at h; cases h
      rw [h6] at h
      dsimp only at h
      by_cases h7 : a11 = true
      · rw [if_pos h7] at h
        exact loop_more (path (ob_v (len_ts ints_i64_map (l := a1)) (ob_b h1 (ob_n h2 (ob_t (look_ts ints_i64_map h3) (ob_c (ht.ref01_Of _ _ h4) (ob_c (ht.ref01_Num_Plus _ _ _ h5) (ob_c (ht.ref01_Num_Int _ _ h6) (ob_b (congrArg (!·) h7) ob)))))))) (by kernel_rfl)) (ref01_Add_l1.okL ht n k _ _ _ _ _ h)
      · rw [if_neg h7] at h
        replace h7 := Bool.eq_false_iff.2 h7
        rw [← Option.some.inj h]
        exact loop_out (path (ob_v (len_ts ints_i64_map (l := a1)) (ob_b h1 (ob_n h2 (ob_t (look_ts ints_i64_map h3) (ob_c (ht.ref01_Of _ _ h4) (ob_c (ht.ref01_Num_Plus _ _ _ h5) (ob_c (ht.ref01_Num_Int _ _ h6) (ob_b (congrArg (!·) h7) ob)))))))) (by kernel_rfl)) (fun h => by cases h)
    · rw [if_neg h1] at h
      replace h1 := Bool.eq_false_iff.2 h1
      rw [← Option.some.inj h]
      exact loop_out (path (ob_v (len_ts ints_i64_map (l := a1)) (ob_b h1 ob)) (by kernel_rfl)) (fun h => by cases h)
theorem ref01_Add_l1.ok {t : Tab} {call : FuncId → List AV → List AV → Option (AV × List AV)} (ht : TabOk t call) (n : Nat) (a1 : List Int) (a2 : Int) (a3 : Bool) (a4 : List Int) (r : (Int × Int) ⊕ ((List Int) × Int × Bool × Bool × (List Int))) (h : ref01_Add_l1 t n n a1 a2 a3 a4 = some r) : exec (env Try.prog 40 Try.f40 call) n (sub [1, 1, 0, 1, 0] (bodyOf Try.f40)) (mkSt 33 33 [(0, (.t (.sl false 1 (ints_i64 a1)))), (4, (.ptr 4 0 [] 0)), (5, (.t (.v (.int .i64 a2))))] [(4, (.t (.st [(.v (.bool a3)), (.sl false 1 (ints_i64 a4))])))]) = some (ref01_Add_l1.to r) := by
  have e1 : sub [1, 1, 0, 1, 0] (bodyOf Try.f40) = .loop (sub [1, 1, 0, 1, 0, 0] (bodyOf Try.f40)) := by kernel_rfl
  rw [e1, exec]
  exact ref01_Add_l1.okL ht n n a1 a2 a3 a4 r h
theorem ref01_Add_j2.ok {t : Tab} {call : FuncId → List AV → List AV → Option (AV × List AV)} (ht : TabOk t call) (n : Nat) (a1 : Bool) (a2 : List Int) (r : Int × Int) (h : ref01_Add_j2 t n a1 a2 = some r) : exec (env Try.prog 40 Try.f40 call) n (sub [1, 1, 1] (bodyOf Try.f40)) (mkSt 33 33 [(4, (.ptr 4 0 [] 0))] [(4, (.t (.st [(.v (.bool a1)), (.sl false 1 (ints_i64 a2))])))]) = some (ref01_Add_j2.to r) := by
  rw [ref01_Add_j2] at h
  obtain ⟨a3, a4⟩ := r
  have h1 := h
  exact path (ob_c (ht.ref01_told _ _ h1) ob) (by kernel_rfl)
theorem ref01_Add.ok {n : Nat} {t : Tab} (ht : TabOk t (run Try.prog own kp X n)) : ∀ (p1 : List Int) r, ref01_Add t n p1 = some r → run Try.prog own kp X (n + 1) 40 [(.t (.sl false 1 (ints_i64 p1)))] [] = some ((.tup [(.v (.int .i64 r.1)), (.v (.int .i64 r.2))]), []) := by
  intro p1 r h
  obtain ⟨a1, rfl⟩ : ∃ z_, z_ = p1 := ⟨_, rfl⟩
  rw [ref01_Add] at h
  rcases h1 : ref01_Add_l1 t n n a1 0 false ([] : List Int) with _ | q_
  · rw [h1] at h; cases h
  rw [h1] at h
  rcases q_ with ⟨a2, a3⟩ | ⟨a4, a5, a6, a7, a8⟩
  · dsimp only at h
    rw [← Option.some.inj h]
    exact run_path Try.func40 (ob_k (ref01_Add_l1.ok ht n _ _ _ _ _ h1) ob) (by kernel_rfl)
  · dsimp only at h
    obtain ⟨a9, a10⟩ := r
    have h2 := h
    exact run_path Try.func40 (ob_k (ref01_Add_l1.ok ht n _ _ _ _ _ h1) (ob_j (ref01_Add_j2.ok ht n _ _ _ h2) ob)) (by kernel_rfl)
theorem ints_Add_l1.okL {t : Tab} {call : FuncId → List AV → List AV → Option (AV × List AV)} (ht : TabOk t call) (n : Nat) : ∀ (k : Nat) (a1 : Int) (a2 : List Int) (a3 : Int) (a4 : Int) (r : (Int × Int) ⊕ (Int × (List Int) × Int × Int × Bool)), ints_Add_l1 t n k a1 a2 a3 a4 = some r → loopN (exec (env Try.prog 44 Try.f44 call) n (sub [1, 1, 0, 1, 0, 0] (bodyOf Try.f44))) k (mkSt 26 26 [(4, (.t (.v (.int .i64 a1)))), (9, (.t (.sl false 1 (ints_i64 a2)))), (10, (.t (.v (.int .i64 a3)))), (11, (.t (.v (.int .i64 a4))))] []) = some (ints_Add_l1.to r)
  | 0, a1, a2, a3, a4, r, h => by rw [ints_Add_l1] at h; cases h
  | k + 1, a1, a2, a3, a4, r, h => by
    rw [ints_Add_l1] at h
    by_cases h1 : (decide (a4 < a3)) = true
    · rw [if_pos h1] at h
      by_cases h2 : (decide (0 ≤ (a4 : Int))) = true
      case neg => rw [if_neg h2] at h; cases h
      rw [if_pos h2] at h
      rcases h3 : a2[(a4 : Int).toNat]? with _ | a5
      · rw [h3] at h; cases h
      rw [h3] at h
      dsimp only at h
      rcases h4 : t.ints_add a1 a5 with _ | ⟨a6, a7⟩
      · rw [h4] at h; cases h
      rw [h4] at h
      dsimp only at h
      by_cases h5 : a7 = true
      · rw [if_pos h5] at h
        exact loop_more (path (ob_b h1 (ob_n h2 (ob_t (look_ts ints_i64_map h3) (ob_c (ht.ints_add _ _ _ h4) (ob_b (congrArg (!·) h5) ob))))) (by kernel_rfl)) (ints_Add_l1.okL ht n k _ _ _ _ _ h)
      · rw [if_neg h5] at h
        replace h5 := Bool.eq_false_iff.2 h5
        rw [← Option.some.inj h]
        exact loop_out (path (ob_b h1 (ob_n h2 (ob_t (look_ts ints_i64_map h3) (ob_c (ht.ints_add _ _ _ h4) (ob_b (congrArg (!·) h5) ob))))) (by kernel_rfl)) (fun h => by cases h)
    · rw [if_neg h1] at h
      replace h1 := Bool.eq_false_iff.2 h1
      rw [← Option.some.inj h]
      exact loop_out (path (ob_b h1 ob) (by kernel_rfl)) (fun h => by cases h)
theorem ints_Add_l1.ok {t : Tab} {call : FuncId → List AV → List AV → Option (AV × List AV)} (ht : TabOk t call) (n : Nat) (a1 : Int) (a2 : List Int) (a3 : Int) (a4 : Int) (r : (Int × Int) ⊕ (Int × (List Int) × Int × Int × Bool)) (h : ints_Add_l1 t n n a1 a2 a3 a4 = some r) : exec (env Try.prog 44 Try.f44 call) n (sub [1, 1, 0, 1, 0] (bodyOf Try.f44)) (mkSt 26 26 [(4, (.t (.v (.int .i64 a1)))), (9, (.t (.sl false 1 (ints_i64 a2)))), (10, (.t (.v (.int .i64 a3)))), (11, (.t (.v (.int .i64 a4))))] []) = some (ints_Add_l1.to r) := by
  have e1 : sub [1, 1, 0, 1, 0] (bodyOf Try.f44) = .loop (sub [1, 1, 0, 1, 0, 0] (bodyOf Try.f44)) := by kernel_rfl
  rw [e1, exec]
  exact ints_Add_l1.okL ht n n a1 a2 a3 a4 r h
theorem ints_Add.ok {n : Nat} {t : Tab} (ht : TabOk t (run Try.prog own kp X n)) : ∀ (p1 : List Int) r, ints_Add t n p1 = some r → run Try.prog own kp X (n + 1) 44 [(.t (.sl false 1 (ints_i64 p1)))] [] = some ((.tup [(.v (.int .i64 r.1)), (.v (.int .i64 r.2))]), []) := by
  intro p1 r h
  obtain ⟨a1, rfl⟩ : ∃ z_, z_ = p1 := ⟨_, rfl⟩
  rw [ints_Add] at h
  rcases h1 : ints_Add_l1 t n n 0 a1 (a1.length : Int) 0 with _ | q_
  · rw [h1] at h; cases h
  rw [h1] at h
  rcases q_ with ⟨a2, a3⟩ | ⟨a4, a5, a6, a7, a8⟩
  · dsimp only at h
    rw [← Option.some.inj h]
    exact run_path Try.func44 (ob_v (len_ts ints_i64_map (l := a1)) (ob_k (ints_Add_l1.ok ht n _ _ _ _ _ h1) ob)) (by kernel_rfl)
  · dsimp only at h
    rw [← Option.some.inj h]
    exact run_path Try.func44 (ob_v (len_ts ints_i64_map (l := a1)) (ob_k (ints_Add_l1.ok ht n _ _ _ _ _ h1) ob)) (by kernel_rfl)
theorem value_Copy.ok {n : Nat} {t : Tab} (ht : TabOk t (run Try.prog own kp X n)) : ∀ (p1 : GValue) r, value_Copy t n p1 = some r → run Try.prog own kp X (n + 1) 34 [(.t (GValue.t p1))] [] = some ((.t (GValue.t r)), []) := by
  intro p1 r h
  obtain ⟨a1, a2, a3, a4, a5⟩ := p1
  rw [value_Copy] at h
  obtain ⟨a6, a7, a8, a9, a10⟩ := r
  have h1 := h
  exact run_path Try.func34 (ob_c (ht.value_part _ _ _ h1) ob) (by kernel_rfl)
theorem ref02_compare_j3.ok {t : Tab} {call : FuncId → List AV → List AV → Option (AV × List AV)} (ht : TabOk t call) (n : Nat) (a1 : Int) (a2 : Int) (a3 : Bool) (a4 : Int) (a5 : Int) (a6 : ByteArray) (a7 : List GValue) (a8 : List GValue) (a9 : Int) (a10 : Int) (a11 : ByteArray) (a12 : List GValue) (a13 : List GValue) (r : Int × Int × Int × Int × ByteArray × (List GValue) × (List GValue) × Int × Int × ByteArray × (List GValue) × (List GValue)) (h : ref02_compare_j3 t n a1 a2 a3 a4 a5 a6 a7 a8 a9 a10 a11 a12 a13 = some r) : exec (env Try.prog 38 Try.f38 call) n (sub [1, 1, 1, 1, 0, 1] (bodyOf Try.f38)) (mkSt 54 54 [(2, (.t (.v (.int .i64 a1)))), (3, (.ptr 3 0 [] 0)), (4, (.ptr 4 0 [] 0)), (7, (.t (.v (.int .i64 a2)))), (32, (.t (.v (.bool a3))))] [(3, (.t (.st [(.v (.int .i64 a4)), (.v (.int .i64 a5)), (.v (.string a6)), (.sl false 5 (GValue.ts a7)), (.sl false 5 (GValue.ts a8))]))), (4, (.t (.st [(.v (.int .i64 a9)), (.v (.int .i64 a10)), (.v (.string a11)), (.sl false 5 (GValue.ts a12)), (.sl false 5 (GValue.ts a13))])))]) = some (ref02_compare_j3.to r) := by
  rw [ref02_compare_j3] at h
  by_cases h1 : a3 = true
  · rw [if_pos h1] at h
    rcases h2 : t.ref02_rows a7 a12 (IntKind.wrap .i64 (a1 + 1)) with _ | a14
    · rw [h2] at h; cases h
    rw [h2] at h
    dsimp only at h
    rw [← Option.some.inj h]
    exact path (ob_b h1 (ob_c (ht.ref02_rows _ _ _ _ h2) ob)) (by kernel_rfl)
  · rw [if_neg h1] at h
    replace h1 := Bool.eq_false_iff.2 h1
    rw [← Option.some.inj h]
    exact path (ob_b h1 ob) (by kernel_rfl)
theorem ref02_compare_j5.ok {t : Tab} {call : FuncId → List AV → List AV → Option (AV × List AV)} (ht : TabOk t call) (n : Nat) (a1 : Int) (a2 : Int) (a3 : Bool) (a4 : Int) (a5 : Int) (a6 : ByteArray) (a7 : List GValue) (a8 : List GValue) (a9 : Int) (a10 : Int) (a11 : ByteArray) (a12 : List GValue) (a13 : List GValue) (r : Int) (h : ref02_compare_j5 t n a1 a2 a3 a4 a5 a6 a7 a8 a9 a10 a11 a12 a13 = some r) : exec (env Try.prog 38 Try.f38 call) n (sub [1, 1, 1, 1, 1, 0, 1] (bodyOf Try.f38)) (mkSt 54 54 [(2, (.t (.v (.int .i64 a1)))), (3, (.ptr 3 0 [] 0)), (4, (.ptr 4 0 [] 0)), (7, (.t (.v (.int .i64 a2)))), (45, (.t (.v (.bool a3))))] [(3, (.t (.st [(.v (.int .i64 a4)), (.v (.int .i64 a5)), (.v (.string a6)), (.sl false 5 (GValue.ts a7)), (.sl false 5 (GValue.ts a8))]))), (4, (.t (.st [(.v (.int .i64 a9)), (.v (.int .i64 a10)), (.v (.string a11)), (.sl false 5 (GValue.ts a12)), (.sl false 5 (GValue.ts a13))])))]) = some (ref02_compare_j5.to r) := by
  rw [ref02_compare_j5] at h
  by_cases h1 : a3 = true
  · rw [if_pos h1] at h
    obtain ⟨a14, rfl⟩ : ∃ z_, z_ = r := ⟨_, rfl⟩
    have h2 := h
    exact path (ob_b h1 (ob_c (ht.ref02_rows _ _ _ _ h2) ob)) (by kernel_rfl)
  · rw [if_neg h1] at h
    replace h1 := Bool.eq_false_iff.2 h1
    rw [← Option.some.inj h]
    exact path (ob_b h1 ob) (by kernel_rfl)
theorem ref02_compare_j4.ok {t : Tab} {call : FuncId → List AV → List AV → Option (AV × List AV)} (ht : TabOk t call) (n : Nat) (a1 : Int) (a2 : Int) (a3 : Int) (a4 : Int) (a5 : ByteArray) (a6 : List GValue) (a7 : List GValue) (a8 : Int) (a9 : Int) (a10 : ByteArray) (a11 : List GValue) (a12 : List GValue) (r : Int) (h : ref02_compare_j4 t n a1 a2 a3 a4 a5 a6 a7 a8 a9 a10 a11 a12 = some r) : exec (env Try.prog 38 Try.f38 call) n (sub [1, 1, 1, 1, 1] (bodyOf Try.f38)) (mkSt 54 54 [(2, (.t (.v (.int .i64 a1)))), (3, (.ptr 3 0 [] 0)), (4, (.ptr 4 0 [] 0)), (7, (.t (.v (.int .i64 a2))))] [(3, (.t (.st [(.v (.int .i64 a3)), (.v (.int .i64 a4)), (.v (.string a5)), (.sl false 5 (GValue.ts a6)), (.sl false 5 (GValue.ts a7))]))), (4, (.t (.st [(.v (.int .i64 a8)), (.v (.int .i64 a9)), (.v (.string a10)), (.sl false 5 (GValue.ts a11)), (.sl false 5 (GValue.ts a12))])))]) = some (ref02_compare_j4.to r) := by
  rw [ref02_compare_j4] at h
  by_cases h1 : (a2 == 0) = true
  · rw [if_pos h1] at h
    obtain ⟨a13, rfl⟩ : ∃ z_, z_ = r := ⟨_, rfl⟩
    have h2 := h
    exact path (ob_b h1 (ob_b h1 (ob_b h1 (ob_j (ref02_compare_j5.ok ht n _ _ _ _ _ _ _ _ _ _ _ _ _ _ h2) ob)))) (by kernel_rfl)
  · rw [if_neg h1] at h
    replace h1 := Bool.eq_false_iff.2 h1
    obtain ⟨a14, rfl⟩ : ∃ z_, z_ = r := ⟨_, rfl⟩
    have h3 := h
    exact path (ob_b h1 (ob_b h1 (ob_b h1 (ob_j (ref02_compare_j5.ok ht n _ _ _ _ _ _ _ _ _ _ _ _ _ _ h3) ob)))) (by kernel_rfl)
theorem ref02_compare_j2.ok {t : Tab} {call : FuncId → List AV → List AV → Option (AV × List AV)} (ht : TabOk t call) (n : Nat) (a1 : Int) (a2 : Int) (a3 : Int) (a4 : Int) (a5 : ByteArray) (a6 : List GValue) (a7 : List GValue) (a8 : Int) (a9 : Int) (a10 : ByteArray) (a11 : List GValue) (a12 : List GValue) (r : Int) (h : ref02_compare_j2 t n a1 a2 a3 a4 a5 a6 a7 a8 a9 a10 a11 a12 = some r) : exec (env Try.prog 38 Try.f38 call) n (sub [1, 1, 1, 1] (bodyOf Try.f38)) (mkSt 54 54 [(2, (.t (.v (.int .i64 a1)))), (3, (.ptr 3 0 [] 0)), (4, (.ptr 4 0 [] 0)), (7, (.t (.v (.int .i64 a2))))] [(3, (.t (.st [(.v (.int .i64 a3)), (.v (.int .i64 a4)), (.v (.string a5)), (.sl false 5 (GValue.ts a6)), (.sl false 5 (GValue.ts a7))]))), (4, (.t (.st [(.v (.int .i64 a8)), (.v (.int .i64 a9)), (.v (.string a10)), (.sl false 5 (GValue.ts a11)), (.sl false 5 (GValue.ts a12))])))]) = some (ref02_compare_j2.to r) := by
  rw [ref02_compare_j2] at h
  by_cases h1 : (a2 == 0) = true
  · rw [if_pos h1] at h
    rcases h2 : ref02_compare_j3 t n  a1 a2 (decide (a1 ≤ 12)) a3 a4 a5 a6 a7 a8 a9 a10 a11 a12 with _ | q_
    · rw [h2] at h; cases h
    rw [h2] at h
    obtain ⟨a13, a14, a15, a16, a17, a18, a19, a20, a21, a22, a23, a24⟩ := q_
    dsimp only at h
    obtain ⟨a25, rfl⟩ : ∃ z_, z_ = r := ⟨_, rfl⟩
    have h3 := h
    exact path (ob_b h1 (ob_b h1 (ob_b h1 (ob_j (ref02_compare_j3.ok ht n _ _ _ _ _ _ _ _ _ _ _ _ _ _ h2) (ob_j (ref02_compare_j4.ok ht n _ _ _ _ _ _ _ _ _ _ _ _ _ h3) ob))))) (by kernel_rfl)
  · rw [if_neg h1] at h
    replace h1 := Bool.eq_false_iff.2 h1
    rcases h4 : ref02_compare_j3 t n  a1 a2 false a3 a4 a5 a6 a7 a8 a9 a10 a11 a12 with _ | q_
    · rw [h4] at h; cases h
    rw [h4] at h
    obtain ⟨a26, a27, a28, a29, a30, a31, a32, a33, a34, a35, a36, a37⟩ := q_
    dsimp only at h
    obtain ⟨a38, rfl⟩ : ∃ z_, z_ = r := ⟨_, rfl⟩
    have h5 := h
    exact path (ob_b h1 (ob_b h1 (ob_b h1 (ob_j (ref02_compare_j3.ok ht n _ _ _ _ _ _ _ _ _ _ _ _ _ _ h4) (ob_j (ref02_compare_j4.ok ht n _ _ _ _ _ _ _ _ _ _ _ _ _ h5) ob))))) (by kernel_rfl)
theorem ref02_compare_j1.ok {t : Tab} {call : FuncId → List AV → List AV → Option (AV × List AV)} (ht : TabOk t call) (n : Nat) (a1 : Int) (a2 : Int) (a3 : Int) (a4 : Int) (a5 : ByteArray) (a6 : List GValue) (a7 : List GValue) (a8 : Int) (a9 : Int) (a10 : ByteArray) (a11 : List GValue) (a12 : List GValue) (r : Int) (h : ref02_compare_j1 t n a1 a2 a3 a4 a5 a6 a7 a8 a9 a10 a11 a12 = some r) : exec (env Try.prog 38 Try.f38 call) n (sub [1, 1, 1] (bodyOf Try.f38)) (mkSt 54 54 [(2, (.t (.v (.int .i64 a1)))), (3, (.ptr 3 0 [] 0)), (4, (.ptr 4 0 [] 0)), (7, (.t (.v (.int .i64 a2))))] [(3, (.t (.st [(.v (.int .i64 a3)), (.v (.int .i64 a4)), (.v (.string a5)), (.sl false 5 (GValue.ts a6)), (.sl false 5 (GValue.ts a7))]))), (4, (.t (.st [(.v (.int .i64 a8)), (.v (.int .i64 a9)), (.v (.string a10)), (.sl false 5 (GValue.ts a11)), (.sl false 5 (GValue.ts a12))])))]) = some (ref02_compare_j1.to r) := by
  rw [ref02_compare_j1] at h
  by_cases h1 : (a2 == 0) = true
  · rw [if_pos h1] at h
    rcases h2 : t.ref02_texts a5 a10 with _ | a13
    · rw [h2] at h; cases h
    rw [h2] at h
    dsimp only at h
    obtain ⟨a14, rfl⟩ : ∃ z_, z_ = r := ⟨_, rfl⟩
    have h3 := h
    exact path (ob_b h1 (ob_c (ht.ref02_texts _ _ _ h2) (ob_j (ref02_compare_j2.ok ht n _ _ _ _ _ _ _ _ _ _ _ _ _ h3) ob))) (by kernel_rfl)
  · rw [if_neg h1] at h
    replace h1 := Bool.eq_false_iff.2 h1
    obtain ⟨a15, rfl⟩ : ∃ z_, z_ = r := ⟨_, rfl⟩
    have h4 := h
    exact path (ob_b h1 (ob_j (ref02_compare_j2.ok ht n _ _ _ _ _ _ _ _ _ _ _ _ _ h4) ob)) (by kernel_rfl)
theorem ref02_compare.ok {n : Nat} {t : Tab} (ht : TabOk t (run Try.prog own kp X n)) : ∀ (p1 : GValue) (p2 : GValue) (p3 : Int) r, ref02_compare t n p1 p2 p3 = some r → run Try.prog own kp X (n + 1) 38 [(.t (GValue.t p1)), (.t (GValue.t p2)), (.t (.v (.int .i64 p3)))] [] = some ((.t (.v (.int .i64 r))), []) := by
  intro p1 p2 p3 r h
  obtain ⟨a1, a2, a3, a4, a5⟩ := p1
  obtain ⟨a6, a7, a8, a9, a10⟩ := p2
  obtain ⟨a11, rfl⟩ : ∃ z_, z_ = p3 := ⟨_, rfl⟩
  rw [ref02_compare] at h
  rcases h1 : t.ref02_sign a1 a6 with _ | a12
  · rw [h1] at h; cases h
  rw [h1] at h
  dsimp only at h
  by_cases h2 : (a12 == 0) = true
  · rw [if_pos h2] at h
    rcases h3 : t.ref02_sign a2 a7 with _ | a13
    · rw [h3] at h; cases h
    rw [h3] at h
    dsimp only at h
    obtain ⟨a14, rfl⟩ : ∃ z_, z_ = r := ⟨_, rfl⟩
    have h4 := h
    exact run_path Try.func38 (ob_c (ht.ref02_sign _ _ _ h1) (ob_b h2 (ob_c (ht.ref02_sign _ _ _ h3) (ob_j (ref02_compare_j1.ok ht n _ _ _ _ _ _ _ _ _ _ _ _ _ h4) ob)))) (by kernel_rfl)
  · rw [if_neg h2] at h
    replace h2 := Bool.eq_false_iff.2 h2
    obtain ⟨a15, rfl⟩ : ∃ z_, z_ = r := ⟨_, rfl⟩
    have h5 := h
    exact run_path Try.func38 (ob_c (ht.ref02_sign _ _ _ h1) (ob_b h2 (ob_j (ref02_compare_j1.ok ht n _ _ _ _ _ _ _ _ _ _ _ _ _ h5) ob))) (by kernel_rfl)
theorem math_bits_Mul64.ok {n : Nat} {t : Tab} (ht : TabOk t (run Try.prog own kp X n)) : ∀ (p1 : Int) (p2 : Int) r, math_bits_Mul64 t n p1 p2 = some r → run Try.prog own kp X (n + 1) 45 [(.t (.v (.int .u64 p1))), (.t (.v (.int .u64 p2)))] [] = some ((.tup [(.v (.int .u64 r.1)), (.v (.int .u64 r.2))]), []) := by
  intro p1 p2 r h
  obtain ⟨a1, rfl⟩ : ∃ z_, z_ = p1 := ⟨_, rfl⟩
  obtain ⟨a2, rfl⟩ : ∃ z_, z_ = p2 := ⟨_, rfl⟩
  rw [math_bits_Mul64] at h
  rcases h1 : shrI .u64 a1 32 with _ | a3
  · rw [h1] at h; cases h
  rw [h1] at h
  dsimp only at h
  rcases h2 : shrI .u64 a2 32 with _ | a4
  · rw [h2] at h; cases h
  rw [h2] at h
  dsimp only at h
  rcases h3 : shrI .u64 (IntKind.wrap .u64 ((IntKind.wrap .u64 ((BitVec.ofInt 64 a1 &&& BitVec.ofInt 64 4294967295).toNat : Int)) * (IntKind.wrap .u64 ((BitVec.ofInt 64 a2 &&& BitVec.ofInt 64 4294967295).toNat : Int)))) 32 with _ | a5
  · rw [h3] at h; cases h
  rw [h3] at h
  dsimp only at h
  rcases h4 : shrI .u64 (IntKind.wrap .u64 ((IntKind.wrap .u64 (a3 * (IntKind.wrap .u64 ((BitVec.ofInt 64 a2 &&& BitVec.ofInt 64 4294967295).toNat : Int)))) + a5)) 32 with _ | a6
  · rw [h4] at h; cases h
  rw [h4] at h
  dsimp only at h
  rcases h5 : shrI .u64 (IntKind.wrap .u64 ((IntKind.wrap .u64 ((BitVec.ofInt 64 (IntKind.wrap .u64 ((IntKind.wrap .u64 (a3 * (IntKind.wrap .u64 ((BitVec.ofInt 64 a2 &&& BitVec.ofInt 64 4294967295).toNat : Int)))) + a5)) &&& BitVec.ofInt 64 4294967295).toNat : Int)) + (IntKind.wrap .u64 ((IntKind.wrap .u64 ((BitVec.ofInt 64 a1 &&& BitVec.ofInt 64 4294967295).toNat : Int)) * a4)))) 32 with _ | a7
  · rw [h5] at h; cases h
  rw [h5] at h
  dsimp only at h
  rw [← Option.some.inj h]
  exact run_path Try.func45 (ob_v (shr_ok (P := Try.prog) (t := 58) (x := (.tmp 16)) (y := (.const (.int .u64 32))) (k' := .u64) h1) (ob_v (shr_ok (P := Try.prog) (t := 58) (x := (.tmp 20)) (y := (.const (.int .u64 32))) (k' := .u64) h2) (ob_v (shr_ok (P := Try.prog) (t := 58) (x := (.tmp 28)) (y := (.const (.int .u64 32))) (k' := .u64) h3) (ob_v (shr_ok (P := Try.prog) (t := 58) (x := (.tmp 33)) (y := (.const (.int .u64 32))) (k' := .u64) h4) (ob_v (shr_ok (P := Try.prog) (t := 58) (x := (.tmp 45)) (y := (.const (.int .u64 32))) (k' := .u64) h5) ob))))) (by kernel_rfl)
theorem ref01_Of_j2.ok {t : Tab} {call : FuncId → List AV → List AV → Option (AV × List AV)} (ht : TabOk t call) (n : Nat) (a1 : Int) (a2 : List Int) (a3 : Int) (a4 : Int) (a5 : Bool) (a6 : List Int) (r : Int × (List Int) × Int × Bool × (List Int)) (h : ref01_Of_j2 t n a1 a2 a3 a4 a5 a6 = some r) : exec (env Try.prog 29 Try.f29 call) n (sub [1, 1, 1, 0, 0, 0, 1, 0, 1, 1] (bodyOf Try.f29)) (mkSt 25 25 [(0, (.t (.v (.int .i64 a1)))), (2, (.ptr 2 0 [] 0)), (3, (.t (.sl true 1 (ints_i64 a2)))), (4, (.t (.v (.int .i64 a3)))), (5, (.t (.v (.int .i64 a4))))] [(2, (.t (.st [(.v (.bool a5)), (.sl false 1 (ints_i64 a6))])))]) = some (ref01_Of_j2.to r) := by
  rw [ref01_Of_j2] at h
  by_cases h1 : (a2.length + ([a4] : List Int).length) * 8 ≤ 140737488355328
  case neg => rw [if_neg h1] at h; cases h
  rw [if_pos h1] at h
  rcases h2 : quoI .i64 a3 10 with _ | a7
  · rw [h2] at h; cases h
  rw [h2] at h
  dsimp only at h
  rw [← Option.some.inj h]
  exact path (ob_le (room_ts ints_i64_map h1) (ob_l (app_ts ints_i64_map (a := a2) (b := ([a4] : List Int))) (ob_v (quo_ok (P := Try.prog) (t := 3) (x := (.tmp 19)) (y := (.const (.int .i64 10))) h2) ob))) (by kernel_rfl)
theorem ref01_Of_l1.okL {t : Tab} {call : FuncId → List AV → List AV → Option (AV × List AV)} (ht : TabOk t call) (n : Nat) : ∀ (k : Nat) (a1 : Int) (a2 : List Int) (a3 : Int) (a4 : Bool) (a5 : List Int) (r : Int × (List Int) × Int × Bool × Bool × (List Int)), ref01_Of_l1 t n k a1 a2 a3 a4 a5 = some r → loopN (exec (env Try.prog 29 Try.f29 call) n (sub [1, 1, 1, 0, 0, 0] (bodyOf Try.f29))) k (mkSt 25 25 [(0, (.t (.v (.int .i64 a1)))), (2, (.ptr 2 0 [] 0)), (3, (.t (.sl true 1 (ints_i64 a2)))), (4, (.t (.v (.int .i64 a3))))] [(2, (.t (.st [(.v (.bool a4)), (.sl false 1 (ints_i64 a5))])))]) = some (ref01_Of_l1.to r)
  | 0, a1, a2, a3, a4, a5, r, h => by rw [ref01_Of_l1] at h; cases h
  | k + 1, a1, a2, a3, a4, a5, r, h => by
    rw [ref01_Of_l1] at h
    by_cases h1 : (a3 != 0) = true
    · rw [if_pos h1] at h
      rcases h2 : remI .i64 a3 10 with _ | a6
      · rw [h2] at h; cases h
      rw [h2] at h
      dsimp only at h
      by_cases h3 : (decide (a6 < 0)) = true
      · rw [if_pos h3] at h
        rcases h4 : ref01_Of_j2 t n  a1 a2 a3 (IntKind.wrap .i64 (0 - a6)) a4 a5 with _ | q_
        · rw [h4] at h; cases h
        rw [h4] at h
        obtain ⟨a7, a8, a9, a10, a11⟩ := q_
        dsimp only at h
        exact loop_more (path (ob_b h1 (ob_v (rem_ok (P := Try.prog) (t := 3) (x := (.tmp 9)) (y := (.const (.int .i64 10))) h2) (ob_b h3 (ob_j (ref01_Of_j2.ok ht n _ _ _ _ _ _ _ h4) ob)))) (by kernel_rfl)) (ref01_Of_l1.okL ht n k _ _ _ _ _ _ h)
      · rw [if_neg h3] at h
        replace h3 := Bool.eq_false_iff.2 h3
        rcases h5 : ref01_Of_j2 t n  a1 a2 a3 a6 a4 a5 with _ | q_
        · rw [h5] at h; cases h
        rw [h5] at h
        obtain ⟨a12, a13, a14, a15, a16⟩ := q_
        dsimp only at h
        exact loop_more (path (ob_b h1 (ob_v (rem_ok (P := Try.prog) (t := 3) (x := (.tmp 9)) (y := (.const (.int .i64 10))) h2) (ob_b h3 (ob_j (ref01_Of_j2.ok ht n _ _ _ _ _ _ _ h5) ob)))) (by kernel_rfl)) (ref01_Of_l1.okL ht n k _ _ _ _ _ _ h)
    · rw [if_neg h1] at h
      replace h1 := Bool.eq_false_iff.2 h1
      rw [← Option.some.inj h]
      exact loop_out (path (ob_b h1 ob) (by kernel_rfl)) (fun h => by cases h)
theorem ref01_Of_l1.ok {t : Tab} {call : FuncId → List AV → List AV → Option (AV × List AV)} (ht : TabOk t call) (n : Nat) (a1 : Int) (a2 : List Int) (a3 : Int) (a4 : Bool) (a5 : List Int) (r : Int × (List Int) × Int × Bool × Bool × (List Int)) (h : ref01_Of_l1 t n n a1 a2 a3 a4 a5 = some r) : exec (env Try.prog 29 Try.f29 call) n (sub [1, 1, 1, 0, 0] (bodyOf Try.f29)) (mkSt 25 25 [(0, (.t (.v (.int .i64 a1)))), (2, (.ptr 2 0 [] 0)), (3, (.t (.sl true 1 (ints_i64 a2)))), (4, (.t (.v (.int .i64 a3))))] [(2, (.t (.st [(.v (.bool a4)), (.sl false 1 (ints_i64 a5))])))]) = some (ref01_Of_l1.to r) := by
  have e1 : sub [1, 1, 1, 0, 0] (bodyOf Try.f29) = .loop (sub [1, 1, 1, 0, 0, 0] (bodyOf Try.f29)) := by kernel_rfl
  rw [e1, exec]
  exact ref01_Of_l1.okL ht n n a1 a2 a3 a4 a5 r h
end Go.Proofs.Ytokfeoifkpedgaa.W
