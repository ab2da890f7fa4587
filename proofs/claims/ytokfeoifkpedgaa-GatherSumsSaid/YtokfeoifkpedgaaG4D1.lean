/- The proofs of it, part 1. -/
import Derived.Test.YtokfeoifkpedgaaG4D0
namespace Go.Proofs.Ytokfeoifkpedgaa.W
open Go.Proofs.Ytokfeoifkpedgaa.Flat
set_option linter.unusedVariables false
set_option linter.unusedSimpArgs false
theorem ref01_Of_j3.ok {t : Tab} {call : FuncId → List AV → List AV → Option (AV × List AV)} (ht : TabOk t call) (n : Nat) (a1 : Int) (a2 : List Int) (a3 : Bool) (a4 : List Int) (r : Bool × (List Int)) (h : ref01_Of_j3 t n a1 a2 a3 a4 = some r) : exec (env Try.prog 29 Try.f29 call) n (sub [1, 1, 1, 1] (bodyOf Try.f29)) (mkSt 25 25 [(0, (.t (.v (.int .i64 a1)))), (2, (.ptr 2 0 [] 0)), (3, (.t (.sl true 1 (ints_i64 a2))))] [(2, (.t (.st [(.v (.bool a3)), (.sl false 1 (ints_i64 a4))])))]) = some (ref01_Of_j3.to r) := by
  rw [ref01_Of_j3] at h
  rcases h1 : t.ref01_trim (decide (a1 < 0)) a2 with _ | ⟨a5, a6⟩
  · rw [h1] at h; cases h
  rw [h1] at h
  dsimp only at h
  rw [← Option.some.inj h]
  exact path (ob_c (ht.ref01_trim _ _ _ h1) ob) (by kernel_rfl)
theorem ref01_Of.ok {n : Nat} {t : Tab} (ht : TabOk t (run Try.prog own kp X n)) : ∀ (p1 : Int) r, ref01_Of t n p1 = some r → run Try.prog own kp X (n + 1) 29 [(.t (.v (.int .i64 p1)))] [] = some ((.t (GNum.t r)), []) := by
  intro p1 r h
  obtain ⟨a1, rfl⟩ : ∃ z_, z_ = p1 := ⟨_, rfl⟩
  rw [ref01_Of] at h
  rcases h1 : ref01_Of_l1 t n n a1 ([] : List Int) a1 false ([] : List Int) with _ | q_
  · rw [h1] at h; cases h
  rw [h1] at h
  obtain ⟨a2, a3, a4, a5, a6, a7⟩ := q_
  dsimp only at h
  rcases h2 : ref01_Of_j3 t n  a2 a3 a6 a7 with _ | q_
  · rw [h2] at h; cases h
  rw [h2] at h
  obtain ⟨a8, a9⟩ := q_
  dsimp only at h
  rw [← Option.some.inj h]
  exact run_path Try.func29 (ob_k (ref01_Of_l1.ok ht n _ _ _ _ _ _ h1) (ob_j (ref01_Of_j3.ok ht n _ _ _ _ _ h2) ob)) (by kernel_rfl)
theorem ref01_Num_Plus_j2.ok {t : Tab} {call : FuncId → List AV → List AV → Option (AV × List AV)} (ht : TabOk t call) (n : Nat) (a1 : List Int) (a2 : Int) (a3 : Int) (a4 : Bool) (a5 : List Int) (a6 : Bool) (a7 : List Int) (a8 : Bool) (a9 : List Int) (r : (List Int) × Int × Int × Bool × (List Int) × Bool × (List Int) × Bool × (List Int)) (h : ref01_Num_Plus_j2 t n a1 a2 a3 a4 a5 a6 a7 a8 a9 = some r) : exec (env Try.prog 28 Try.f28 call) n (sub [1, 1, 1, 0, 1, 0, 0, 1, 0, 0, 1] (bodyOf Try.f28)) (mkSt 99 99 [(2, (.ptr 2 0 [] 0)), (3, (.ptr 3 0 [] 0)), (4, (.ptr 4 0 [] 0)), (5, (.t (.sl true 1 (ints_i64 a1)))), (6, (.t (.v (.int .i64 a2)))), (7, (.t (.v (.int .i64 a3))))] [(2, (.t (.st [(.v (.bool a4)), (.sl false 1 (ints_i64 a5))]))), (3, (.t (.st [(.v (.bool a6)), (.sl false 1 (ints_i64 a7))]))), (4, (.t (.st [(.v (.bool a8)), (.sl false 1 (ints_i64 a9))])))]) = some (ref01_Num_Plus_j2.to r) := by
  rw [ref01_Num_Plus_j2] at h
  rcases h1 : t.ref01_digit a5 a3 with _ | a10
  · rw [h1] at h; cases h
  rw [h1] at h
  dsimp only at h
  rcases h2 : t.ref01_digit a7 a3 with _ | a11
  · rw [h2] at h; cases h
  rw [h2] at h
  dsimp only at h
  rcases h3 : remI .i64 (IntKind.wrap .i64 ((IntKind.wrap .i64 (a10 + a11)) + a2)) 10 with _ | a12
  · rw [h3] at h; cases h
  rw [h3] at h
  dsimp only at h
  by_cases h4 : (a1.length + ([a12] : List Int).length) * 8 ≤ 140737488355328
  case neg => rw [if_neg h4] at h; cases h
  rw [if_pos h4] at h
  rcases h5 : quoI .i64 (IntKind.wrap .i64 ((IntKind.wrap .i64 (a10 + a11)) + a2)) 10 with _ | a13
  · rw [h5] at h; cases h
  rw [h5] at h
  dsimp only at h
  rw [← Option.some.inj h]
  exact path (ob_c (ht.ref01_digit _ _ _ h1) (ob_c (ht.ref01_digit _ _ _ h2) (ob_v (rem_ok (P := Try.prog) (t := 3) (x := (.tmp 48)) (y := (.const (.int .i64 10))) h3) (ob_le (room_ts ints_i64_map h4) (ob_l (app_ts ints_i64_map (a := a1) (b := ([a12] : List Int))) (ob_v (quo_ok (P := Try.prog) (t := 3) (x := (.tmp 52)) (y := (.const (.int .i64 10))) h5) ob)))))) (by kernel_rfl)
theorem ref01_Num_Plus_l1.okL {t : Tab} {call : FuncId → List AV → List AV → Option (AV × List AV)} (ht : TabOk t call) (n : Nat) : ∀ (k : Nat) (a1 : List Int) (a2 : Int) (a3 : Int) (a4 : Bool) (a5 : List Int) (a6 : Bool) (a7 : List Int) (a8 : Bool) (a9 : List Int) (r : (List Int) × Int × Int × Bool × Bool × (List Int) × Bool × (List Int) × Bool × (List Int)), ref01_Num_Plus_l1 t n k a1 a2 a3 a4 a5 a6 a7 a8 a9 = some r → loopN (exec (env Try.prog 28 Try.f28 call) n (sub [1, 1, 1, 0, 1, 0, 0, 1, 0, 0] (bodyOf Try.f28))) k (mkSt 99 99 [(2, (.ptr 2 0 [] 0)), (3, (.ptr 3 0 [] 0)), (4, (.ptr 4 0 [] 0)), (5, (.t (.sl true 1 (ints_i64 a1)))), (6, (.t (.v (.int .i64 a2)))), (7, (.t (.v (.int .i64 a3))))] [(2, (.t (.st [(.v (.bool a4)), (.sl false 1 (ints_i64 a5))]))), (3, (.t (.st [(.v (.bool a6)), (.sl false 1 (ints_i64 a7))]))), (4, (.t (.st [(.v (.bool a8)), (.sl false 1 (ints_i64 a9))])))]) = some (ref01_Num_Plus_l1.to r)
  | 0, a1, a2, a3, a4, a5, a6, a7, a8, a9, r, h => by rw [ref01_Num_Plus_l1] at h; cases h
  | k + 1, a1, a2, a3, a4, a5, a6, a7, a8, a9, r, h => by
    rw [ref01_Num_Plus_l1] at h
    by_cases h1 : (decide (a3 < (a5.length : Int))) = true
    · rw [if_pos h1] at h
      rcases h2 : ref01_Num_Plus_j2 t n  a1 a2 a3 a4 a5 a6 a7 a8 a9 with _ | q_
      · rw [h2] at h; cases h
      rw [h2] at h
      obtain ⟨a10, a11, a12, a13, a14, a15, a16, a17, a18⟩ := q_
      dsimp only at h
      exact loop_more (path (ob_v (len_ts ints_i64_map (l := a5)) (ob_b h1 (ob_b h1 (ob_b h1 (ob_b h1 (ob_b h1 (ob_b h1 (ob_b (rfl : true = true) (ob_b (rfl : true = true) (ob_b (rfl : true = true) (ob_b (rfl : true = true) (ob_j (ref01_Num_Plus_j2.ok ht n _ _ _ _ _ _ _ _ _ _ h2) ob)))))))))))) (by kernel_rfl)) (ref01_Num_Plus_l1.okL ht n k _ _ _ _ _ _ _ _ _ _ h)
    · rw [if_neg h1] at h
      replace h1 := Bool.eq_false_iff.2 h1
      by_cases h3 : (decide (a3 < (a7.length : Int))) = true
      · rw [if_pos h3] at h
        rcases h4 : ref01_Num_Plus_j2 t n  a1 a2 a3 a4 a5 a6 a7 a8 a9 with _ | q_
        · rw [h4] at h; cases h
        rw [h4] at h
        obtain ⟨a19, a20, a21, a22, a23, a24, a25, a26, a27⟩ := q_
        dsimp only at h
        exact loop_more (path (ob_v (len_ts ints_i64_map (l := a5)) (ob_b h1 (ob_b h1 (ob_b h1 (ob_b h1 (ob_v (len_ts ints_i64_map (l := a7)) (ob_b h1 (ob_b h1 (ob_b h3 (ob_b h3 (ob_b h3 (ob_b (rfl : true = true) (ob_j (ref01_Num_Plus_j2.ok ht n _ _ _ _ _ _ _ _ _ _ h4) ob))))))))))))) (by kernel_rfl)) (ref01_Num_Plus_l1.okL ht n k _ _ _ _ _ _ _ _ _ _ h)
      · rw [if_neg h3] at h
        replace h3 := Bool.eq_false_iff.2 h3
        by_cases h5 : (decide (a2 > 0)) = true
        · rw [if_pos h5] at h
          rcases h6 : ref01_Num_Plus_j2 t n  a1 a2 a3 a4 a5 a6 a7 a8 a9 with _ | q_
          · rw [h6] at h; cases h
          rw [h6] at h
          obtain ⟨a28, a29, a30, a31, a32, a33, a34, a35, a36⟩ := q_
          dsimp only at h
          exact loop_more (path (ob_v (len_ts ints_i64_map (l := a5)) (ob_b h1 (ob_b h1 (ob_b h1 (ob_b h1 (ob_v (len_ts ints_i64_map (l := a7)) (ob_b h1 (ob_b h1 (ob_b h3 (ob_b h3 (ob_b h3 (ob_b h5 (ob_j (ref01_Num_Plus_j2.ok ht n _ _ _ _ _ _ _ _ _ _ h6) ob))))))))))))) (by kernel_rfl)) (ref01_Num_Plus_l1.okL ht n k _ _ _ _ _ _ _ _ _ _ h)
        · rw [if_neg h5] at h
          replace h5 := Bool.eq_false_iff.2 h5
          rw [← Option.some.inj h]
          exact loop_out (path (ob_v (len_ts ints_i64_map (l := a5)) (ob_b h1 (ob_b h1 (ob_b h1 (ob_b h1 (ob_v (len_ts ints_i64_map (l := a7)) (ob_b h1 (ob_b h1 (ob_b h3 (ob_b h3 (ob_b h3 (ob_b h5 ob)))))))))))) (by kernel_rfl)) (fun h => by cases h)
theorem ref01_Num_Plus_l1.ok {t : Tab} {call : FuncId → List AV → List AV → Option (AV × List AV)} (ht : TabOk t call) (n : Nat) (a1 : List Int) (a2 : Int) (a3 : Int) (a4 : Bool) (a5 : List Int) (a6 : Bool) (a7 : List Int) (a8 : Bool) (a9 : List Int) (r : (List Int) × Int × Int × Bool × Bool × (List Int) × Bool × (List Int) × Bool × (List Int)) (h : ref01_Num_Plus_l1 t n n a1 a2 a3 a4 a5 a6 a7 a8 a9 = some r) : exec (env Try.prog 28 Try.f28 call) n (sub [1, 1, 1, 0, 1, 0, 0, 1, 0] (bodyOf Try.f28)) (mkSt 99 99 [(2, (.ptr 2 0 [] 0)), (3, (.ptr 3 0 [] 0)), (4, (.ptr 4 0 [] 0)), (5, (.t (.sl true 1 (ints_i64 a1)))), (6, (.t (.v (.int .i64 a2)))), (7, (.t (.v (.int .i64 a3))))] [(2, (.t (.st [(.v (.bool a4)), (.sl false 1 (ints_i64 a5))]))), (3, (.t (.st [(.v (.bool a6)), (.sl false 1 (ints_i64 a7))]))), (4, (.t (.st [(.v (.bool a8)), (.sl false 1 (ints_i64 a9))])))]) = some (ref01_Num_Plus_l1.to r) := by
  have e1 : sub [1, 1, 1, 0, 1, 0, 0, 1, 0] (bodyOf Try.f28) = .loop (sub [1, 1, 1, 0, 1, 0, 0, 1, 0, 0] (bodyOf Try.f28)) := by kernel_rfl
  rw [e1, exec]
  exact ref01_Num_Plus_l1.okL ht n n a1 a2 a3 a4 a5 a6 a7 a8 a9 r h
theorem ref01_Num_Plus_j3.ok {t : Tab} {call : FuncId → List AV → List AV → Option (AV × List AV)} (ht : TabOk t call) (n : Nat) (a1 : List Int) (a2 : Bool) (a3 : List Int) (a4 : Bool) (a5 : List Int) (r : Bool × (List Int)) (h : ref01_Num_Plus_j3 t n a1 a2 a3 a4 a5 = some r) : exec (env Try.prog 28 Try.f28 call) n (sub [1, 1, 1, 0, 1, 0, 1] (bodyOf Try.f28)) (mkSt 99 99 [(2, (.ptr 2 0 [] 0)), (4, (.ptr 4 0 [] 0)), (5, (.t (.sl true 1 (ints_i64 a1))))] [(2, (.t (.st [(.v (.bool a2)), (.sl false 1 (ints_i64 a3))]))), (4, (.t (.st [(.v (.bool a4)), (.sl false 1 (ints_i64 a5))])))]) = some (ref01_Num_Plus_j3.to r) := by
  rw [ref01_Num_Plus_j3] at h
  rcases h1 : t.ref01_trim a2 a1 with _ | ⟨a6, a7⟩
  · rw [h1] at h; cases h
  rw [h1] at h
  dsimp only at h
  rw [← Option.some.inj h]
  exact path (ob_c (ht.ref01_trim _ _ _ h1) ob) (by kernel_rfl)
theorem ref01_Num_Plus_j6.ok {t : Tab} {call : FuncId → List AV → List AV → Option (AV × List AV)} (ht : TabOk t call) (n : Nat) (a1 : List Int) (a2 : Int) (a3 : Int) (a4 : Int) (a5 : Bool) (a6 : List Int) (a7 : Bool) (a8 : List Int) (a9 : Bool) (a10 : List Int) (r : (List Int) × Int × Int × Bool × (List Int) × Bool × (List Int) × Bool × (List Int)) (h : ref01_Num_Plus_j6 t n a1 a2 a3 a4 a5 a6 a7 a8 a9 a10 = some r) : exec (env Try.prog 28 Try.f28 call) n (sub [1, 1, 1, 1, 1, 1, 1, 0, 1, 0, 0, 1, 0, 0, 1, 1, 1] (bodyOf Try.f28)) (mkSt 99 99 [(4, (.ptr 4 0 [] 0)), (5, (.t (.sl true 1 (ints_i64 a1)))), (6, (.t (.v (.int .i64 a2)))), (9, (.ptr 9 0 [] 0)), (10, (.ptr 10 0 [] 0)), (11, (.t (.v (.int .i64 a3)))), (12, (.t (.v (.int .i64 a4))))] [(4, (.t (.st [(.v (.bool a5)), (.sl false 1 (ints_i64 a6))]))), (9, (.t (.st [(.v (.bool a7)), (.sl false 1 (ints_i64 a8))]))), (10, (.t (.st [(.v (.bool a9)), (.sl false 1 (ints_i64 a10))])))]) = some (ref01_Num_Plus_j6.to r) := by
  rw [ref01_Num_Plus_j6] at h
  by_cases h1 : (a1.length + ([a4] : List Int).length) * 8 ≤ 140737488355328
  case neg => rw [if_neg h1] at h; cases h
  rw [if_pos h1] at h
  rw [← Option.some.inj h]
  exact path (ob_le (room_ts ints_i64_map h1) (ob_l (app_ts ints_i64_map (a := a1) (b := ([a4] : List Int))) ob)) (by kernel_rfl)
theorem ref01_Num_Plus_l5.okL {t : Tab} {call : FuncId → List AV → List AV → Option (AV × List AV)} (ht : TabOk t call) (n : Nat) : ∀ (k : Nat) (a1 : List Int) (a2 : Int) (a3 : Int) (a4 : Bool) (a5 : List Int) (a6 : Bool) (a7 : List Int) (a8 : Bool) (a9 : List Int) (r : (List Int) × Int × Int × Bool × Bool × (List Int) × Bool × (List Int) × Bool × (List Int)), ref01_Num_Plus_l5 t n k a1 a2 a3 a4 a5 a6 a7 a8 a9 = some r → loopN (exec (env Try.prog 28 Try.f28 call) n (sub [1, 1, 1, 1, 1, 1, 1, 0, 1, 0, 0] (bodyOf Try.f28))) k (mkSt 99 99 [(4, (.ptr 4 0 [] 0)), (5, (.t (.sl true 1 (ints_i64 a1)))), (6, (.t (.v (.int .i64 a2)))), (9, (.ptr 9 0 [] 0)), (10, (.ptr 10 0 [] 0)), (11, (.t (.v (.int .i64 a3))))] [(4, (.t (.st [(.v (.bool a4)), (.sl false 1 (ints_i64 a5))]))), (9, (.t (.st [(.v (.bool a6)), (.sl false 1 (ints_i64 a7))]))), (10, (.t (.st [(.v (.bool a8)), (.sl false 1 (ints_i64 a9))])))]) = some (ref01_Num_Plus_l5.to r)
  | 0, a1, a2, a3, a4, a5, a6, a7, a8, a9, r, h => by rw [ref01_Num_Plus_l5] at h; cases h
  | k + 1, a1, a2, a3, a4, a5, a6, a7, a8, a9, r, h => by
    rw [ref01_Num_Plus_l5] at h
    by_cases h1 : (decide (a3 < (a7.length : Int))) = true
    · rw [if_pos h1] at h
      by_cases h2 : (decide (0 ≤ (a3 : Int))) = true
      case neg => rw [if_neg h2] at h; cases h
      rw [if_pos h2] at h
      rcases h3 : a7[(a3 : Int).toNat]? with _ | a10
      · rw [h3] at h; cases h
      rw [h3] at h
      dsimp only at h
      rcases h4 : t.ref01_digit a9 a3 with _ | a11
      · rw [h4] at h; cases h
      rw [h4] at h
      dsimp only at h
      by_cases h5 : (decide ((IntKind.wrap .i64 ((IntKind.wrap .i64 (a10 - a11)) - a2)) < 0)) = true
      · rw [if_pos h5] at h
        rcases h6 : ref01_Num_Plus_j6 t n  a1 1 a3 (IntKind.wrap .i64 ((IntKind.wrap .i64 ((IntKind.wrap .i64 (a10 - a11)) - a2)) + 10)) a4 a5 a6 a7 a8 a9 with _ | q_
        · rw [h6] at h; cases h
        rw [h6] at h
        obtain ⟨a12, a13, a14, a15, a16, a17, a18, a19, a20⟩ := q_
        dsimp only at h
        exact loop_more (path (ob_v (len_ts ints_i64_map (l := a7)) (ob_b h1 (ob_n h2 (ob_t (look_ts ints_i64_map h3) (ob_c (ht.ref01_digit _ _ _ h4) (ob_b h5 (ob_j (ref01_Num_Plus_j6.ok ht n _ _ _ _ _ _ _ _ _ _ _ h6) ob))))))) (by kernel_rfl)) (ref01_Num_Plus_l5.okL ht n k _ _ _ _ _ _ _ _ _ _ h)
      · rw [if_neg h5] at h
        replace h5 := Bool.eq_false_iff.2 h5
        rcases h7 : ref01_Num_Plus_j6 t n  a1 0 a3 (IntKind.wrap .i64 ((IntKind.wrap .i64 (a10 - a11)) - a2)) a4 a5 a6 a7 a8 a9 with _ | q_
        · rw [h7] at h; cases h
        rw [h7] at h
        obtain ⟨a21, a22, a23, a24, a25, a26, a27, a28, a29⟩ := q_
        dsimp only at h
        exact loop_more (path (ob_v (len_ts ints_i64_map (l := a7)) (ob_b h1 (ob_n h2 (ob_t (look_ts ints_i64_map h3) (ob_c (ht.ref01_digit _ _ _ h4) (ob_b h5 (ob_j (ref01_Num_Plus_j6.ok ht n _ _ _ _ _ _ _ _ _ _ _ h7) ob))))))) (by kernel_rfl)) (ref01_Num_Plus_l5.okL ht n k _ _ _ _ _ _ _ _ _ _ h)
    · rw [if_neg h1] at h
      replace h1 := Bool.eq_false_iff.2 h1
      rw [← Option.some.inj h]
      exact loop_out (path (ob_v (len_ts ints_i64_map (l := a7)) (ob_b h1 ob)) (by kernel_rfl)) (fun h => by cases h)
theorem ref01_Num_Plus_l5.ok {t : Tab} {call : FuncId → List AV → List AV → Option (AV × List AV)} (ht : TabOk t call) (n : Nat) (a1 : List Int) (a2 : Int) (a3 : Int) (a4 : Bool) (a5 : List Int) (a6 : Bool) (a7 : List Int) (a8 : Bool) (a9 : List Int) (r : (List Int) × Int × Int × Bool × Bool × (List Int) × Bool × (List Int) × Bool × (List Int)) (h : ref01_Num_Plus_l5 t n n a1 a2 a3 a4 a5 a6 a7 a8 a9 = some r) : exec (env Try.prog 28 Try.f28 call) n (sub [1, 1, 1, 1, 1, 1, 1, 0, 1, 0] (bodyOf Try.f28)) (mkSt 99 99 [(4, (.ptr 4 0 [] 0)), (5, (.t (.sl true 1 (ints_i64 a1)))), (6, (.t (.v (.int .i64 a2)))), (9, (.ptr 9 0 [] 0)), (10, (.ptr 10 0 [] 0)), (11, (.t (.v (.int .i64 a3))))] [(4, (.t (.st [(.v (.bool a4)), (.sl false 1 (ints_i64 a5))]))), (9, (.t (.st [(.v (.bool a6)), (.sl false 1 (ints_i64 a7))]))), (10, (.t (.st [(.v (.bool a8)), (.sl false 1 (ints_i64 a9))])))]) = some (ref01_Num_Plus_l5.to r) := by
  have e1 : sub [1, 1, 1, 1, 1, 1, 1, 0, 1, 0] (bodyOf Try.f28) = .loop (sub [1, 1, 1, 1, 1, 1, 1, 0, 1, 0, 0] (bodyOf Try.f28)) := by kernel_rfl
  rw [e1, exec]
  exact ref01_Num_Plus_l5.okL ht n n a1 a2 a3 a4 a5 a6 a7 a8 a9 r h
theorem ref01_Num_Plus_j7.ok {t : Tab} {call : FuncId → List AV → List AV → Option (AV × List AV)} (ht : TabOk t call) (n : Nat) (a1 : List Int) (a2 : Bool) (a3 : List Int) (a4 : Bool) (a5 : List Int) (r : Bool × (List Int)) (h : ref01_Num_Plus_j7 t n a1 a2 a3 a4 a5 = some r) : exec (env Try.prog 28 Try.f28 call) n (sub [1, 1, 1, 1, 1, 1, 1, 1] (bodyOf Try.f28)) (mkSt 99 99 [(4, (.ptr 4 0 [] 0)), (5, (.t (.sl true 1 (ints_i64 a1)))), (9, (.ptr 9 0 [] 0))] [(4, (.t (.st [(.v (.bool a2)), (.sl false 1 (ints_i64 a3))]))), (9, (.t (.st [(.v (.bool a4)), (.sl false 1 (ints_i64 a5))])))]) = some (ref01_Num_Plus_j7.to r) := by
  rw [ref01_Num_Plus_j7] at h
  rcases h1 : t.ref01_trim a4 a1 with _ | ⟨a6, a7⟩
  · rw [h1] at h; cases h
  rw [h1] at h
  dsimp only at h
  rw [← Option.some.inj h]
  exact path (ob_c (ht.ref01_trim _ _ _ h1) ob) (by kernel_rfl)
theorem ref01_Num_Plus_j4.ok {t : Tab} {call : FuncId → List AV → List AV → Option (AV × List AV)} (ht : TabOk t call) (n : Nat) (a1 : List Int) (a2 : Int) (a3 : Bool) (a4 : List Int) (a5 : Bool) (a6 : List Int) (a7 : Bool) (a8 : List Int) (r : Bool × (List Int)) (h : ref01_Num_Plus_j4 t n a1 a2 a3 a4 a5 a6 a7 a8 = some r) : exec (env Try.prog 28 Try.f28 call) n (sub [1, 1, 1, 1, 1, 1, 1] (bodyOf Try.f28)) (mkSt 99 99 [(4, (.ptr 4 0 [] 0)), (5, (.t (.sl true 1 (ints_i64 a1)))), (6, (.t (.v (.int .i64 a2)))), (9, (.ptr 9 0 [] 0)), (10, (.ptr 10 0 [] 0))] [(4, (.t (.st [(.v (.bool a3)), (.sl false 1 (ints_i64 a4))]))), (9, (.t (.st [(.v (.bool a5)), (.sl false 1 (ints_i64 a6))]))), (10, (.t (.st [(.v (.bool a7)), (.sl false 1 (ints_i64 a8))])))]) = some (ref01_Num_Plus_j4.to r) := by
  rw [ref01_Num_Plus_j4] at h
  rcases h1 : ref01_Num_Plus_l5 t n n a1 a2 0 a3 a4 a5 a6 a7 a8 with _ | q_
  · rw [h1] at h; cases h
  rw [h1] at h
  obtain ⟨a9, a10, a11, a12, a13, a14, a15, a16, a17, a18⟩ := q_
  dsimp only at h
  obtain ⟨a19, a20⟩ := r
  have h2 := h
  exact path (ob_k (ref01_Num_Plus_l5.ok ht n _ _ _ _ _ _ _ _ _ _ h1) (ob_j (ref01_Num_Plus_j7.ok ht n _ _ _ _ _ _ h2) ob)) (by kernel_rfl)
theorem ref01_Num_Plus.ok {n : Nat} {t : Tab} (ht : TabOk t (run Try.prog own kp X n)) : ∀ (p1 : GNum) (p2 : GNum) r, ref01_Num_Plus t n p1 p2 = some r → run Try.prog own kp X (n + 1) 28 [(.t (GNum.t p1)), (.t (GNum.t p2))] [] = some ((.t (GNum.t r)), []) := by
  intro p1 p2 r h
  obtain ⟨a1, a2⟩ := p1
  obtain ⟨a3, a4⟩ := p2
  rw [ref01_Num_Plus] at h
  by_cases h1 : (a1 == a3) = true
  · rw [if_pos h1] at h
    rcases h2 : ref01_Num_Plus_l1 t n n ([] : List Int) 0 0 a1 a2 a3 a4 false ([] : List Int) with _ | q_
    · rw [h2] at h; cases h
    rw [h2] at h
    obtain ⟨a5, a6, a7, a8, a9, a10, a11, a12, a13, a14⟩ := q_
    dsimp only at h
    rcases h3 : ref01_Num_Plus_j3 t n  a5 a9 a10 a13 a14 with _ | q_
    · rw [h3] at h; cases h
    rw [h3] at h
    obtain ⟨a15, a16⟩ := q_
    dsimp only at h
    rw [← Option.some.inj h]
    exact run_path Try.func28 (ob_b h1 (ob_k (ref01_Num_Plus_l1.ok ht n _ _ _ _ _ _ _ _ _ _ h2) (ob_j (ref01_Num_Plus_j3.ok ht n _ _ _ _ _ _ h3) ob))) (by kernel_rfl)
  · rw [if_neg h1] at h
    replace h1 := Bool.eq_false_iff.2 h1
    rcases h4 : t.ref01_size a2 a4 with _ | a17
    · rw [h4] at h; cases h
    rw [h4] at h
    dsimp only at h
    by_cases h5 : (decide (a17 < 0)) = true
    · rw [if_pos h5] at h
      rcases h6 : ref01_Num_Plus_j4 t n  ([] : List Int) 0 false ([] : List Int) a3 a4 a1 a2 with _ | q_
      · rw [h6] at h; cases h
      rw [h6] at h
      obtain ⟨a18, a19⟩ := q_
      dsimp only at h
      rw [← Option.some.inj h]
      exact run_path Try.func28 (ob_b h1 (ob_c (ht.ref01_size _ _ _ h4) (ob_b h5 (ob_j (ref01_Num_Plus_j4.ok ht n _ _ _ _ _ _ _ _ _ h6) ob)))) (by kernel_rfl)
    · rw [if_neg h5] at h
      replace h5 := Bool.eq_false_iff.2 h5
      rcases h7 : ref01_Num_Plus_j4 t n  ([] : List Int) 0 false ([] : List Int) a1 a2 a3 a4 with _ | q_
      · rw [h7] at h; cases h
      rw [h7] at h
      obtain ⟨a20, a21⟩ := q_
      dsimp only at h
      rw [← Option.some.inj h]
      exact run_path Try.func28 (ob_b h1 (ob_c (ht.ref01_size _ _ _ h4) (ob_b h5 (ob_j (ref01_Num_Plus_j4.ok ht n _ _ _ _ _ _ _ _ _ h7) ob)))) (by kernel_rfl)
theorem ref01_Num_Int_j2.ok {t : Tab} {call : FuncId → List AV → List AV → Option (AV × List AV)} (ht : TabOk t call) (n : Nat) (a1 : Int) (a2 : Int) (a3 : Bool) (a4 : List Int) (r : Int × Int × Bool × (List Int)) (h : ref01_Num_Int_j2 t n a1 a2 a3 a4 = some r) : exec (env Try.prog 31 Try.f31 call) n (sub [1, 1, 0, 1, 0, 0, 1, 0, 0, 1] (bodyOf Try.f31)) (mkSt 43 43 [(1, (.ptr 1 0 [] 0)), (4, (.t (.v (.int .i64 a1)))), (5, (.t (.v (.int .i64 a2))))] [(1, (.t (.st [(.v (.bool a3)), (.sl false 1 (ints_i64 a4))])))]) = some (ref01_Num_Int_j2.to r) := by
  rw [ref01_Num_Int_j2] at h
  by_cases h1 : (decide (0 ≤ (a2 : Int))) = true
  case neg => rw [if_neg h1] at h; cases h
  rw [if_pos h1] at h
  rcases h2 : a4[(a2 : Int).toNat]? with _ | a5
  · rw [h2] at h; cases h
  rw [h2] at h
  dsimp only at h
  rw [← Option.some.inj h]
  exact path (ob_n h1 (ob_t (look_ts ints_i64_map h2) ob)) (by kernel_rfl)
theorem ref01_Num_Int_l1.okL {t : Tab} {call : FuncId → List AV → List AV → Option (AV × List AV)} (ht : TabOk t call) (n : Nat) : ∀ (k : Nat) (a1 : Int) (a2 : Int) (a3 : Bool) (a4 : List Int) (r : (Int × Bool) ⊕ (Int × Int × Bool × Bool × (List Int))), ref01_Num_Int_l1 t n k a1 a2 a3 a4 = some r → loopN (exec (env Try.prog 31 Try.f31 call) n (sub [1, 1, 0, 1, 0, 0] (bodyOf Try.f31))) k (mkSt 43 43 [(1, (.ptr 1 0 [] 0)), (4, (.t (.v (.int .i64 a1)))), (5, (.t (.v (.int .i64 a2))))] [(1, (.t (.st [(.v (.bool a3)), (.sl false 1 (ints_i64 a4))])))]) = some (ref01_Num_Int_l1.to r)
  | 0, a1, a2, a3, a4, r, h => by rw [ref01_Num_Int_l1] at h; cases h
  | k + 1, a1, a2, a3, a4, r, h => by
    rw [ref01_Num_Int_l1] at h
    by_cases h1 : (decide (a2 ≥ 0)) = true
    · rw [if_pos h1] at h
      by_cases h2 : (decide (a1 < (-922337203685477580))) = true
      · rw [if_pos h2] at h
        rw [← Option.some.inj h]
        exact loop_out (path (ob_b h1 (ob_b h2 (ob_b h2 (ob_b h2 (ob_b h2 (ob_b h2 (ob_b (rfl : true = true) ob))))))) (by kernel_rfl)) (fun h => by cases h)
      · rw [if_neg h2] at h
        replace h2 := Bool.eq_false_iff.2 h2
        by_cases h3 : (a1 == (-922337203685477580)) = true
        · rw [if_pos h3] at h
          by_cases h4 : (decide (0 ≤ (a2 : Int))) = true
          case neg => rw [if_neg h4] at h; cases h
          rw [if_pos h4] at h
          rcases h5 : a4[(a2 : Int).toNat]? with _ | a5
          · rw [h5] at h; cases h
          rw [h5] at h
          dsimp only at h
          by_cases h6 : (decide (a5 > 8)) = true
          · rw [if_pos h6] at h
            rw [← Option.some.inj h]
            exact loop_out (path (ob_b h1 (ob_b h2 (ob_b h2 (ob_b h2 (ob_b h3 (ob_b h3 (ob_b h3 (ob_b h3 (ob_n h4 (ob_t (look_ts ints_i64_map h5) (ob_b h3 (ob_b h3 (ob_b h2 (ob_b h3 (ob_b h2 (ob_b h6 ob)))))))))))))))) (by kernel_rfl)) (fun h => by cases h)
          · rw [if_neg h6] at h
            replace h6 := Bool.eq_false_iff.2 h6
            rcases h7 : ref01_Num_Int_j2 t n  a1 a2 a3 a4 with _ | q_
            · rw [h7] at h; cases h
            rw [h7] at h
            obtain ⟨a6, a7, a8, a9⟩ := q_
            dsimp only at h
            exact loop_more (path (ob_b h1 (ob_b h2 (ob_b h2 (ob_b h2 (ob_b h3 (ob_b h3 (ob_b h3 (ob_b h3 (ob_n h4 (ob_t (look_ts ints_i64_map h5) (ob_b h3 (ob_b h3 (ob_b h2 (ob_b h3 (ob_b h2 (ob_b h6 (ob_j (ref01_Num_Int_j2.ok ht n _ _ _ _ _ h7) ob))))))))))))))))) (by kernel_rfl)) (ref01_Num_Int_l1.okL ht n k _ _ _ _ _ h)
        · rw [if_neg h3] at h
          replace h3 := Bool.eq_false_iff.2 h3
          rcases h8 : ref01_Num_Int_j2 t n  a1 a2 a3 a4 with _ | q_
          · rw [h8] at h; cases h
          rw [h8] at h
          obtain ⟨a10, a11, a12, a13⟩ := q_
          dsimp only at h
          exact loop_more (path (ob_b h1 (ob_b h2 (ob_b h2 (ob_b h2 (ob_b h3 (ob_b h3 (ob_b h3 (ob_b h3 (ob_b h3 (ob_b h3 (ob_b h2 (ob_b h3 (ob_b h2 (ob_b (rfl : false = false) (ob_j (ref01_Num_Int_j2.ok ht n _ _ _ _ _ h8) ob))))))))))))))) (by kernel_rfl)) (ref01_Num_Int_l1.okL ht n k _ _ _ _ _ h)
    · rw [if_neg h1] at h
      replace h1 := Bool.eq_false_iff.2 h1
      rw [← Option.some.inj h]
      exact loop_out (path (ob_b h1 ob) (by kernel_rfl)) (fun h => by cases h)
theorem ref01_Num_Int_l1.ok {t : Tab} {call : FuncId → List AV → List AV → Option (AV × List AV)} (ht : TabOk t call) (n : Nat) (a1 : Int) (a2 : Int) (a3 : Bool) (a4 : List Int) (r : (Int × Bool) ⊕ (Int × Int × Bool × Bool × (List Int))) (h : ref01_Num_Int_l1 t n n a1 a2 a3 a4 = some r) : exec (env Try.prog 31 Try.f31 call) n (sub [1, 1, 0, 1, 0] (bodyOf Try.f31)) (mkSt 43 43 [(1, (.ptr 1 0 [] 0)), (4, (.t (.v (.int .i64 a1)))), (5, (.t (.v (.int .i64 a2))))] [(1, (.t (.st [(.v (.bool a3)), (.sl false 1 (ints_i64 a4))])))]) = some (ref01_Num_Int_l1.to r) := by
  have e1 : sub [1, 1, 0, 1, 0] (bodyOf Try.f31) = .loop (sub [1, 1, 0, 1, 0, 0] (bodyOf Try.f31)) := by kernel_rfl
  rw [e1, exec]
  exact ref01_Num_Int_l1.okL ht n n a1 a2 a3 a4 r h
theorem ref01_Num_Int_j3.ok {t : Tab} {call : FuncId → List AV → List AV → Option (AV × List AV)} (ht : TabOk t call) (n : Nat) (a1 : Int) (a2 : Bool) (a3 : List Int) (r : Int × Bool) (h : ref01_Num_Int_j3 t n a1 a2 a3 = some r) : exec (env Try.prog 31 Try.f31 call) n (sub [1, 1, 1] (bodyOf Try.f31)) (mkSt 43 43 [(1, (.ptr 1 0 [] 0)), (4, (.t (.v (.int .i64 a1))))] [(1, (.t (.st [(.v (.bool a2)), (.sl false 1 (ints_i64 a3))])))]) = some (ref01_Num_Int_j3.to r) := by
  rw [ref01_Num_Int_j3] at h
  by_cases h1 : a2 = true
  · rw [if_pos h1] at h
    rw [← Option.some.inj h]
    exact path (ob_b h1 ob) (by kernel_rfl)
  · rw [if_neg h1] at h
    replace h1 := Bool.eq_false_iff.2 h1
    by_cases h2 : (a1 == (-9223372036854775808)) = true
    · rw [if_pos h2] at h
      rw [← Option.some.inj h]
      exact path (ob_b h1 (ob_b h2 ob)) (by kernel_rfl)
    · rw [if_neg h2] at h
      replace h2 := Bool.eq_false_iff.2 h2
      rw [← Option.some.inj h]
      exact path (ob_b h1 (ob_b h2 ob)) (by kernel_rfl)
theorem ref01_Num_Int.ok {n : Nat} {t : Tab} (ht : TabOk t (run Try.prog own kp X n)) : ∀ (p1 : GNum) r, ref01_Num_Int t n p1 = some r → run Try.prog own kp X (n + 1) 31 [(.t (GNum.t p1))] [] = some ((.tup [(.v (.int .i64 r.1)), (.v (.bool r.2))]), []) := by
  intro p1 r h
  obtain ⟨a1, a2⟩ := p1
  rw [ref01_Num_Int] at h
  rcases h1 : ref01_Num_Int_l1 t n n 0 (IntKind.wrap .i64 ((a2.length : Int) - 1)) a1 a2 with _ | q_
  · rw [h1] at h; cases h
  rw [h1] at h
  rcases q_ with ⟨a3, a4⟩ | ⟨a5, a6, a7, a8, a9⟩
  · dsimp only at h
    rw [← Option.some.inj h]
    exact run_path Try.func31 (ob_v (len_ts ints_i64_map (l := a2)) (ob_k (ref01_Num_Int_l1.ok ht n _ _ _ _ _ h1) ob)) (by kernel_rfl)
  · dsimp only at h
    obtain ⟨a10, a11⟩ := r
    have h2 := h
    exact run_path Try.func31 (ob_v (len_ts ints_i64_map (l := a2)) (ob_k (ref01_Num_Int_l1.ok ht n _ _ _ _ _ h1) (ob_j (ref01_Num_Int_j3.ok ht n _ _ _ _ h2) ob))) (by kernel_rfl)
theorem ref01_told.ok {n : Nat} {t : Tab} (ht : TabOk t (run Try.prog own kp X n)) : ∀ (p1 : GNum) r, ref01_told t n p1 = some r → run Try.prog own kp X (n + 1) 55 [(.t (GNum.t p1))] [] = some ((.tup [(.v (.int .i64 r.1)), (.v (.int .i64 r.2))]), []) := by
  intro p1 r h
  obtain ⟨a1, a2⟩ := p1
  rw [ref01_told] at h
  rcases h1 : t.ref01_Num_Int (GNum.mk a1 a2) with _ | ⟨a3, a4⟩
  · rw [h1] at h; cases h
  rw [h1] at h
  dsimp only at h
  by_cases h2 : a4 = true
  · rw [if_pos h2] at h
    rw [← Option.some.inj h]
    exact run_path Try.func55 (ob_c (ht.ref01_Num_Int _ _ h1) (ob_b (congrArg (!·) h2) ob)) (by kernel_rfl)
  · rw [if_neg h2] at h
    replace h2 := Bool.eq_false_iff.2 h2
    rw [← Option.some.inj h]
    exact run_path Try.func55 (ob_c (ht.ref01_Num_Int _ _ h1) (ob_b (congrArg (!·) h2) ob)) (by kernel_rfl)
theorem ints_add.ok {n : Nat} {t : Tab} (ht : TabOk t (run Try.prog own kp X n)) : ∀ (p1 : Int) (p2 : Int) r, ints_add t n p1 p2 = some r → run Try.prog own kp X (n + 1) 58 [(.t (.v (.int .i64 p1))), (.t (.v (.int .i64 p2)))] [] = some ((.tup [(.v (.int .i64 r.1)), (.v (.bool r.2))]), []) := by
  intro p1 p2 r h
  obtain ⟨a1, rfl⟩ : ∃ z_, z_ = p1 := ⟨_, rfl⟩
  obtain ⟨a2, rfl⟩ : ∃ z_, z_ = p2 := ⟨_, rfl⟩
  rw [ints_add] at h
  rw [← Option.some.inj h]
  exact run_path Try.func58 ob (by kernel_rfl)
theorem value_part.ok {n : Nat} {t : Tab} (ht : TabOk t (run Try.prog own kp X n)) : ∀ (p1 : GValue) (p2 : Int) r, value_part t n p1 p2 = some r → run Try.prog own kp X (n + 1) 51 [(.t (GValue.t p1)), (.t (.v (.int .i64 p2)))] [] = some ((.t (GValue.t r)), []) := by
  intro p1 p2 r h
  obtain ⟨a1, a2, a3, a4, a5⟩ := p1
  obtain ⟨a6, rfl⟩ : ∃ z_, z_ = p2 := ⟨_, rfl⟩
  rw [value_part] at h
  by_cases h1 : (decide (a6 > 12)) = true
  · rw [if_pos h1] at h
    rw [← Option.some.inj h]
    exact run_path Try.func51 (ob_b h1 ob) (by kernel_rfl)
  · rw [if_neg h1] at h
    replace h1 := Bool.eq_false_iff.2 h1
    rcases h2 : t.value_copied a4 (IntKind.wrap .i64 (a6 + 1)) with _ | a7
    · rw [h2] at h; cases h
    rw [h2] at h
    dsimp only at h
    rcases h3 : t.value_copied a5 (IntKind.wrap .i64 (a6 + 1)) with _ | a8
    · rw [h3] at h; cases h
    rw [h3] at h
    dsimp only at h
    rw [← Option.some.inj h]
    exact run_path Try.func51 (ob_b h1 (ob_c (ht.value_copied _ _ _ h2) (ob_c (ht.value_copied _ _ _ h3) ob))) (by kernel_rfl)
theorem ref02_sign.ok {n : Nat} {t : Tab} (ht : TabOk t (run Try.prog own kp X n)) : ∀ (p1 : Int) (p2 : Int) r, ref02_sign t n p1 p2 = some r → run Try.prog own kp X (n + 1) 52 [(.t (.v (.int .i64 p1))), (.t (.v (.int .i64 p2)))] [] = some ((.t (.v (.int .i64 r))), []) := by
  intro p1 p2 r h
  obtain ⟨a1, rfl⟩ : ∃ z_, z_ = p1 := ⟨_, rfl⟩
  obtain ⟨a2, rfl⟩ : ∃ z_, z_ = p2 := ⟨_, rfl⟩
  rw [ref02_sign] at h
  by_cases h1 : (decide (a1 < a2)) = true
  · rw [if_pos h1] at h
    rw [← Option.some.inj h]
    exact run_path Try.func52 (ob_b h1 ob) (by kernel_rfl)
  · rw [if_neg h1] at h
    replace h1 := Bool.eq_false_iff.2 h1
    by_cases h2 : (decide (a1 > a2)) = true
    · rw [if_pos h2] at h
      rw [← Option.some.inj h]
      exact run_path Try.func52 (ob_b h1 (ob_b h2 ob)) (by kernel_rfl)
    · rw [if_neg h2] at h
      replace h2 := Bool.eq_false_iff.2 h2
      rw [← Option.some.inj h]
      exact run_path Try.func52 (ob_b h1 (ob_b h2 ob)) (by kernel_rfl)
theorem ref02_texts_j2.ok {t : Tab} {call : FuncId → List AV → List AV → Option (AV × List AV)} (ht : TabOk t call) (n : Nat) (a1 : ByteArray) (a2 : ByteArray) (a3 : Int) (r : Int ⊕ (ByteArray × ByteArray × Int)) (h : ref02_texts_j2 t n a1 a2 a3 = some r) : exec (env Try.prog 53 Try.f53 call) n (sub [1, 0, 1, 0, 0, 1] (bodyOf Try.f53)) (mkSt 39 39 [(0, (.t (.v (.string a1)))), (1, (.t (.v (.string a2)))), (5, (.t (.v (.int .i64 a3))))] []) = some (ref02_texts_j2.to r) := by
  rw [ref02_texts_j2] at h
  rcases h1 : strAt a1 a3 with _ | a4
  · rw [h1] at h; cases h
  rw [h1] at h
  dsimp only at h
  rcases h2 : strAt a2 a3 with _ | a5
  · rw [h2] at h; cases h
  rw [h2] at h
  dsimp only at h
  by_cases h3 : (a4 != a5) = true
  · rw [if_pos h3] at h
    rcases h4 : t.ref02_sign (IntKind.wrap .i64 a4) (IntKind.wrap .i64 a5) with _ | a6
    · rw [h4] at h; cases h
    rw [h4] at h
    dsimp only at h
    rw [← Option.some.inj h]
    exact path (ob_v (at_ok (P := Try.prog) (t := 9) (k := .i64) (by kernel_rfl) h1) (ob_v (at_ok (P := Try.prog) (t := 9) (k := .i64) (by kernel_rfl) h2) (ob_b h3 (ob_v (at_ok (P := Try.prog) (t := 9) (k := .i64) (by kernel_rfl) h1) (ob_v (at_ok (P := Try.prog) (t := 9) (k := .i64) (by kernel_rfl) h2) (ob_c (ht.ref02_sign _ _ _ h4) ob)))))) (by kernel_rfl)
  · rw [if_neg h3] at h
    replace h3 := Bool.eq_false_iff.2 h3
    rw [← Option.some.inj h]
    exact path (ob_v (at_ok (P := Try.prog) (t := 9) (k := .i64) (by kernel_rfl) h1) (ob_v (at_ok (P := Try.prog) (t := 9) (k := .i64) (by kernel_rfl) h2) (ob_b h3 ob))) (by kernel_rfl)
theorem ref02_texts_l1.okL {t : Tab} {call : FuncId → List AV → List AV → Option (AV × List AV)} (ht : TabOk t call) (n : Nat) : ∀ (k : Nat) (a1 : ByteArray) (a2 : ByteArray) (a3 : Int) (r : Int ⊕ (ByteArray × ByteArray × Int × Bool)), ref02_texts_l1 t n k a1 a2 a3 = some r → loopN (exec (env Try.prog 53 Try.f53 call) n (sub [1, 0, 1, 0, 0] (bodyOf Try.f53))) k (mkSt 39 39 [(0, (.t (.v (.string a1)))), (1, (.t (.v (.string a2)))), (5, (.t (.v (.int .i64 a3))))] []) = some (ref02_texts_l1.to r)
  | 0, a1, a2, a3, r, h => by rw [ref02_texts_l1] at h; cases h
  | k + 1, a1, a2, a3, r, h => by
    rw [ref02_texts_l1] at h
    by_cases h1 : (decide (a3 < (a1.size : Int))) = true
    · rw [if_pos h1] at h
      by_cases h2 : (decide (a3 < (a2.size : Int))) = true
      · rw [if_pos h2] at h
        rcases h3 : ref02_texts_j2 t n  a1 a2 a3 with _ | q_
        · rw [h3] at h; cases h
        rw [h3] at h
        rcases q_ with a4 | ⟨a5, a6, a7⟩
        · dsimp only at h
          rw [← Option.some.inj h]
          exact loop_out (path (ob_b h1 (ob_b h1 (ob_b h1 (ob_b h1 (ob_b h1 (ob_b h2 (ob_j (ref02_texts_j2.ok ht n _ _ _ _ h3) ob))))))) (by kernel_rfl)) (fun h => by cases h)
        · dsimp only at h
          exact loop_more (path (ob_b h1 (ob_b h1 (ob_b h1 (ob_b h1 (ob_b h1 (ob_b h2 (ob_j (ref02_texts_j2.ok ht n _ _ _ _ h3) ob))))))) (by kernel_rfl)) (ref02_texts_l1.okL ht n k _ _ _ _ h)
      · rw [if_neg h2] at h
        replace h2 := Bool.eq_false_iff.2 h2
        rw [← Option.some.inj h]
        exact loop_out (path (ob_b h1 (ob_b h1 (ob_b h1 (ob_b h1 (ob_b h1 (ob_b h2 ob)))))) (by kernel_rfl)) (fun h => by cases h)
    · rw [if_neg h1] at h
      replace h1 := Bool.eq_false_iff.2 h1
      rw [← Option.some.inj h]
      exact loop_out (path (ob_b h1 (ob_b h1 (ob_b h1 (ob_b h1 (ob_b h1 (ob_b (rfl : false = false) ob)))))) (by kernel_rfl)) (fun h => by cases h)
theorem ref02_texts_l1.ok {t : Tab} {call : FuncId → List AV → List AV → Option (AV × List AV)} (ht : TabOk t call) (n : Nat) (a1 : ByteArray) (a2 : ByteArray) (a3 : Int) (r : Int ⊕ (ByteArray × ByteArray × Int × Bool)) (h : ref02_texts_l1 t n n a1 a2 a3 = some r) : exec (env Try.prog 53 Try.f53 call) n (sub [1, 0, 1, 0] (bodyOf Try.f53)) (mkSt 39 39 [(0, (.t (.v (.string a1)))), (1, (.t (.v (.string a2)))), (5, (.t (.v (.int .i64 a3))))] []) = some (ref02_texts_l1.to r) := by
  have e1 : sub [1, 0, 1, 0] (bodyOf Try.f53) = .loop (sub [1, 0, 1, 0, 0] (bodyOf Try.f53)) := by kernel_rfl
  rw [e1, exec]
  exact ref02_texts_l1.okL ht n n a1 a2 a3 r h
theorem ref02_texts_j3.ok {t : Tab} {call : FuncId → List AV → List AV → Option (AV × List AV)} (ht : TabOk t call) (n : Nat) (a1 : ByteArray) (a2 : ByteArray) (r : Int) (h : ref02_texts_j3 t n a1 a2 = some r) : exec (env Try.prog 53 Try.f53 call) n (sub [1, 1] (bodyOf Try.f53)) (mkSt 39 39 [(0, (.t (.v (.string a1)))), (1, (.t (.v (.string a2))))] []) = some (ref02_texts_j3.to r) := by
  rw [ref02_texts_j3] at h
  obtain ⟨a3, rfl⟩ : ∃ z_, z_ = r := ⟨_, rfl⟩
  have h1 := h
  exact path (ob_c (ht.ref02_sign _ _ _ h1) ob) (by kernel_rfl)
theorem ref02_texts.ok {n : Nat} {t : Tab} (ht : TabOk t (run Try.prog own kp X n)) : ∀ (p1 : ByteArray) (p2 : ByteArray) r, ref02_texts t n p1 p2 = some r → run Try.prog own kp X (n + 1) 53 [(.t (.v (.string p1))), (.t (.v (.string p2)))] [] = some ((.t (.v (.int .i64 r))), []) := by
  intro p1 p2 r h
  obtain ⟨a1, rfl⟩ : ∃ z_, z_ = p1 := ⟨_, rfl⟩
  obtain ⟨a2, rfl⟩ : ∃ z_, z_ = p2 := ⟨_, rfl⟩
  rw [ref02_texts] at h
  rcases h1 : ref02_texts_l1 t n n a1 a2 0 with _ | q_
  · rw [h1] at h; cases h
  rw [h1] at h
  rcases q_ with a3 | ⟨a4, a5, a6, a7⟩
  · dsimp only at h
    rw [← Option.some.inj h]
    exact run_path Try.func53 (ob_k (ref02_texts_l1.ok ht n _ _ _ _ h1) ob) (by kernel_rfl)
  · dsimp only at h
    obtain ⟨a8, rfl⟩ : ∃ z_, z_ = r := ⟨_, rfl⟩
    have h2 := h
    exact run_path Try.func53 (ob_k (ref02_texts_l1.ok ht n _ _ _ _ h1) (ob_j (ref02_texts_j3.ok ht n _ _ _ h2) ob)) (by kernel_rfl)
theorem ref02_rows_j2.ok {t : Tab} {call : FuncId → List AV → List AV → Option (AV × List AV)} (ht : TabOk t call) (n : Nat) (a1 : List GValue) (a2 : List GValue) (a3 : Int) (a4 : Int) (r : Int ⊕ ((List GValue) × (List GValue) × Int × Int)) (h : ref02_rows_j2 t n a1 a2 a3 a4 = some r) : exec (env Try.prog 54 Try.f54 call) n (sub [1, 0, 1, 0, 0, 1] (bodyOf Try.f54)) (mkSt 39 39 [(0, (.t (.sl false 5 (GValue.ts a1)))), (1, (.t (.sl false 5 (GValue.ts a2)))), (2, (.t (.v (.int .i64 a3)))), (7, (.t (.v (.int .i64 a4))))] []) = some (ref02_rows_j2.to r) := by
  rw [ref02_rows_j2] at h
  by_cases h1 : (decide (0 ≤ (a4 : Int))) = true
  case neg => rw [if_neg h1] at h; cases h
  rw [if_pos h1] at h
  rcases h2 : a1[(a4 : Int).toNat]? with _ | ⟨a5, a6, a7, a8, a9⟩
  · rw [h2] at h; cases h
  rw [h2] at h
  dsimp only at h
  rcases h3 : a2[(a4 : Int).toNat]? with _ | ⟨a10, a11, a12, a13, a14⟩
  · rw [h3] at h; cases h
  rw [h3] at h
  dsimp only at h
  rcases h4 : t.ref02_compare (GValue.mk a5 a6 a7 a8 a9) (GValue.mk a10 a11 a12 a13 a14) a3 with _ | a15
  · rw [h4] at h; cases h
  rw [h4] at h
  dsimp only at h
  by_cases h5 : (a15 != 0) = true
  · rw [if_pos h5] at h
    rw [← Option.some.inj h]
    exact path (ob_n h1 (ob_t (look_ts GValue.ts_map h2) (ob_n h1 (ob_t (look_ts GValue.ts_map h3) (ob_c (ht.ref02_compare _ _ _ _ h4) (ob_b h5 ob)))))) (by kernel_rfl)
  · rw [if_neg h5] at h
    replace h5 := Bool.eq_false_iff.2 h5
    rw [← Option.some.inj h]
    exact path (ob_n h1 (ob_t (look_ts GValue.ts_map h2) (ob_n h1 (ob_t (look_ts GValue.ts_map h3) (ob_c (ht.ref02_compare _ _ _ _ h4) (ob_b h5 ob)))))) (by kernel_rfl)
theorem ref02_rows_l1.okL {t : Tab} {call : FuncId → List AV → List AV → Option (AV × List AV)} (ht : TabOk t call) (n : Nat) : ∀ (k : Nat) (a1 : List GValue) (a2 : List GValue) (a3 : Int) (a4 : Int) (r : Int ⊕ ((List GValue) × (List GValue) × Int × Int × Bool)), ref02_rows_l1 t n k a1 a2 a3 a4 = some r → loopN (exec (env Try.prog 54 Try.f54 call) n (sub [1, 0, 1, 0, 0] (bodyOf Try.f54))) k (mkSt 39 39 [(0, (.t (.sl false 5 (GValue.ts a1)))), (1, (.t (.sl false 5 (GValue.ts a2)))), (2, (.t (.v (.int .i64 a3)))), (7, (.t (.v (.int .i64 a4))))] []) = some (ref02_rows_l1.to r)
  | 0, a1, a2, a3, a4, r, h => by rw [ref02_rows_l1] at h; cases h
  | k + 1, a1, a2, a3, a4, r, h => by
    rw [ref02_rows_l1] at h
    by_cases h1 : (decide (a4 < (a1.length : Int))) = true
    · rw [if_pos h1] at h
      by_cases h2 : (decide (a4 < (a2.length : Int))) = true
      · rw [if_pos h2] at h
        rcases h3 : ref02_rows_j2 t n  a1 a2 a3 a4 with _ | q_
        · rw [h3] at h; cases h
        rw [h3] at h
        rcases q_ with a5 | ⟨a6, a7, a8, a9⟩
        · dsimp only at h
          rw [← Option.some.inj h]
          exact loop_out (path (ob_v (len_ts GValue.ts_map (l := a1)) (ob_b h1 (ob_b h1 (ob_b h1 (ob_v (len_ts GValue.ts_map (l := a2)) (ob_b h1 (ob_b h1 (ob_b h2 (ob_j (ref02_rows_j2.ok ht n _ _ _ _ _ h3) ob))))))))) (by kernel_rfl)) (fun h => by cases h)
        · dsimp only at h
          exact loop_more (path (ob_v (len_ts GValue.ts_map (l := a1)) (ob_b h1 (ob_b h1 (ob_b h1 (ob_v (len_ts GValue.ts_map (l := a2)) (ob_b h1 (ob_b h1 (ob_b h2 (ob_j (ref02_rows_j2.ok ht n _ _ _ _ _ h3) ob))))))))) (by kernel_rfl)) (ref02_rows_l1.okL ht n k _ _ _ _ _ h)
      · rw [if_neg h2] at h
        replace h2 := Bool.eq_false_iff.2 h2
        rw [← Option.some.inj h]
        exact loop_out (path (ob_v (len_ts GValue.ts_map (l := a1)) (ob_b h1 (ob_b h1 (ob_b h1 (ob_v (len_ts GValue.ts_map (l := a2)) (ob_b h1 (ob_b h1 (ob_b h2 ob)))))))) (by kernel_rfl)) (fun h => by cases h)
    · rw [if_neg h1] at h
      replace h1 := Bool.eq_false_iff.2 h1
      rw [← Option.some.inj h]
      exact loop_out (path (ob_v (len_ts GValue.ts_map (l := a1)) (ob_b h1 (ob_b h1 (ob_b h1 (ob_b h1 (ob_b h1 (ob_b (rfl : false = false) ob))))))) (by kernel_rfl)) (fun h => by cases h)
theorem ref02_rows_l1.ok {t : Tab} {call : FuncId → List AV → List AV → Option (AV × List AV)} (ht : TabOk t call) (n : Nat) (a1 : List GValue) (a2 : List GValue) (a3 : Int) (a4 : Int) (r : Int ⊕ ((List GValue) × (List GValue) × Int × Int × Bool)) (h : ref02_rows_l1 t n n a1 a2 a3 a4 = some r) : exec (env Try.prog 54 Try.f54 call) n (sub [1, 0, 1, 0] (bodyOf Try.f54)) (mkSt 39 39 [(0, (.t (.sl false 5 (GValue.ts a1)))), (1, (.t (.sl false 5 (GValue.ts a2)))), (2, (.t (.v (.int .i64 a3)))), (7, (.t (.v (.int .i64 a4))))] []) = some (ref02_rows_l1.to r) := by
  have e1 : sub [1, 0, 1, 0] (bodyOf Try.f54) = .loop (sub [1, 0, 1, 0, 0] (bodyOf Try.f54)) := by kernel_rfl
  rw [e1, exec]
  exact ref02_rows_l1.okL ht n n a1 a2 a3 a4 r h
theorem ref02_rows_j3.ok {t : Tab} {call : FuncId → List AV → List AV → Option (AV × List AV)} (ht : TabOk t call) (n : Nat) (a1 : List GValue) (a2 : List GValue) (r : Int) (h : ref02_rows_j3 t n a1 a2 = some r) : exec (env Try.prog 54 Try.f54 call) n (sub [1, 1] (bodyOf Try.f54)) (mkSt 39 39 [(0, (.t (.sl false 5 (GValue.ts a1)))), (1, (.t (.sl false 5 (GValue.ts a2))))] []) = some (ref02_rows_j3.to r) := by
  rw [ref02_rows_j3] at h
  obtain ⟨a3, rfl⟩ : ∃ z_, z_ = r := ⟨_, rfl⟩
  have h1 := h
  exact path (ob_v (len_ts GValue.ts_map (l := a1)) (ob_v (len_ts GValue.ts_map (l := a2)) (ob_c (ht.ref02_sign _ _ _ h1) ob))) (by kernel_rfl)
theorem ref02_rows.ok {n : Nat} {t : Tab} (ht : TabOk t (run Try.prog own kp X n)) : ∀ (p1 : List GValue) (p2 : List GValue) (p3 : Int) r, ref02_rows t n p1 p2 p3 = some r → run Try.prog own kp X (n + 1) 54 [(.t (.sl false 5 (GValue.ts p1))), (.t (.sl false 5 (GValue.ts p2))), (.t (.v (.int .i64 p3)))] [] = some ((.t (.v (.int .i64 r))), []) := by
  intro p1 p2 p3 r h
  obtain ⟨a1, rfl⟩ : ∃ z_, z_ = p1 := ⟨_, rfl⟩
  obtain ⟨a2, rfl⟩ : ∃ z_, z_ = p2 := ⟨_, rfl⟩
  obtain ⟨a3, rfl⟩ : ∃ z_, z_ = p3 := ⟨_, rfl⟩
  rw [ref02_rows] at h
  rcases h1 : ref02_rows_l1 t n n a1 a2 a3 0 with _ | q_
  · rw [h1] at h; cases h
  rw [h1] at h
  rcases q_ with a4 | ⟨a5, a6, a7, a8, a9⟩
  · dsimp only at h
    rw [← Option.some.inj h]
    exact run_path Try.func54 (ob_k (ref02_rows_l1.ok ht n _ _ _ _ _ h1) ob) (by kernel_rfl)
  · dsimp only at h
    obtain ⟨a10, rfl⟩ : ∃ z_, z_ = r := ⟨_, rfl⟩
    have h2 := h
    exact run_path Try.func54 (ob_k (ref02_rows_l1.ok ht n _ _ _ _ _ h1) (ob_j (ref02_rows_j3.ok ht n _ _ _ h2) ob)) (by kernel_rfl)
theorem ref01_trim_l1.okL {t : Tab} {call : FuncId → List AV → List AV → Option (AV × List AV)} (ht : TabOk t call) (n : Nat) : ∀ (k : Nat) (a1 : Bool) (a2 : List Int) (a3 : Int) (a4 : Bool) (a5 : List Int) (r : Bool × (List Int) × Int × Bool × Bool × (List Int)), ref01_trim_l1 t n k a1 a2 a3 a4 a5 = some r → loopN (exec (env Try.prog 48 Try.f48 call) n (sub [1, 1, 0, 0, 0] (bodyOf Try.f48))) k (mkSt 29 29 [(0, (.t (.v (.bool a1)))), (1, (.t (.sl false 1 (ints_i64 a2)))), (4, (.ptr 4 0 [] 0)), (5, (.t (.v (.int .i64 a3))))] [(4, (.t (.st [(.v (.bool a4)), (.sl false 1 (ints_i64 a5))])))]) = some (ref01_trim_l1.to r)
  | 0, a1, a2, a3, a4, a5, r, h => by rw [ref01_trim_l1] at h; cases h
  | k + 1, a1, a2, a3, a4, a5, r, h => by
    rw [ref01_trim_l1] at h
    by_cases h1 : (decide (a3 > 0)) = true
    · rw [if_pos h1] at h
      by_cases h2 : (decide (0 ≤ ((IntKind.wrap .i64 (a3 - 1)) : Int))) = true
      case neg => rw [if_neg h2] at h; cases h
      rw [if_pos h2] at h
      rcases h3 : a2[((IntKind.wrap .i64 (a3 - 1)) : Int).toNat]? with _ | a6
      · rw [h3] at h; cases h
      rw [h3] at h
      dsimp only at h
      by_cases h4 : (a6 == 0) = true
      · rw [if_pos h4] at h
        exact loop_more (path (ob_b h1 (ob_b h1 (ob_b h1 (ob_b h1 (ob_n h2 (ob_t (look_ts ints_i64_map h3) (ob_b h1 (ob_b h1 (ob_b h1 (ob_b h4 ob)))))))))) (by kernel_rfl)) (ref01_trim_l1.okL ht n k _ _ _ _ _ _ h)
      · rw [if_neg h4] at h
        replace h4 := Bool.eq_false_iff.2 h4
        rw [← Option.some.inj h]
        exact loop_out (path (ob_b h1 (ob_b h1 (ob_b h1 (ob_b h1 (ob_n h2 (ob_t (look_ts ints_i64_map h3) (ob_b h1 (ob_b h1 (ob_b h1 (ob_b h4 ob)))))))))) (by kernel_rfl)) (fun h => by cases h)
    · rw [if_neg h1] at h
      replace h1 := Bool.eq_false_iff.2 h1
      rw [← Option.some.inj h]
      exact loop_out (path (ob_b h1 (ob_b h1 (ob_b h1 (ob_b h1 (ob_b h1 (ob_b h1 (ob_b h1 (ob_b (rfl : false = false) ob)))))))) (by kernel_rfl)) (fun h => by cases h)
theorem ref01_trim_l1.ok {t : Tab} {call : FuncId → List AV → List AV → Option (AV × List AV)} (ht : TabOk t call) (n : Nat) (a1 : Bool) (a2 : List Int) (a3 : Int) (a4 : Bool) (a5 : List Int) (r : Bool × (List Int) × Int × Bool × Bool × (List Int)) (h : ref01_trim_l1 t n n a1 a2 a3 a4 a5 = some r) : exec (env Try.prog 48 Try.f48 call) n (sub [1, 1, 0, 0] (bodyOf Try.f48)) (mkSt 29 29 [(0, (.t (.v (.bool a1)))), (1, (.t (.sl false 1 (ints_i64 a2)))), (4, (.ptr 4 0 [] 0)), (5, (.t (.v (.int .i64 a3))))] [(4, (.t (.st [(.v (.bool a4)), (.sl false 1 (ints_i64 a5))])))]) = some (ref01_trim_l1.to r) := by
  have e1 : sub [1, 1, 0, 0] (bodyOf Try.f48) = .loop (sub [1, 1, 0, 0, 0] (bodyOf Try.f48)) := by kernel_rfl
  rw [e1, exec]
  exact ref01_trim_l1.okL ht n n a1 a2 a3 a4 a5 r h
theorem ref01_trim_j2.ok {t : Tab} {call : FuncId → List AV → List AV → Option (AV × List AV)} (ht : TabOk t call) (n : Nat) (a1 : Bool) (a2 : List Int) (a3 : Int) (a4 : Bool) (a5 : List Int) (r : Bool × (List Int)) (h : ref01_trim_j2 t n a1 a2 a3 a4 a5 = some r) : exec (env Try.prog 48 Try.f48 call) n (sub [1, 1, 1] (bodyOf Try.f48)) (mkSt 29 29 [(0, (.t (.v (.bool a1)))), (1, (.t (.sl false 1 (ints_i64 a2)))), (4, (.ptr 4 0 [] 0)), (5, (.t (.v (.int .i64 a3))))] [(4, (.t (.st [(.v (.bool a4)), (.sl false 1 (ints_i64 a5))])))]) = some (ref01_trim_j2.to r) := by
  rw [ref01_trim_j2] at h
  by_cases h1 : a1 = true
  · rw [if_pos h1] at h
    by_cases h2 : (decide (0 ≤ (0 : Int) ∧ (0 : Int) ≤ (a3 : Int) ∧ (a3 : Int) ≤ (a2.length : Int))) = true
    case neg => rw [if_neg h2] at h; cases h
    rw [if_pos h2] at h
    rw [← Option.some.inj h]
    exact path (ob_b h1 (ob_b h1 (ob_b h1 (ob_n (within_ts ints_i64_map h2) (ob_l (cut_ts ints_i64_map (l := a2) (h := (a3 : Int).toNat) (i := (0 : Int).toNat)) ob))))) (by kernel_rfl)
  · rw [if_neg h1] at h
    replace h1 := Bool.eq_false_iff.2 h1
    by_cases h3 : (decide (0 ≤ (0 : Int) ∧ (0 : Int) ≤ (a3 : Int) ∧ (a3 : Int) ≤ (a2.length : Int))) = true
    case neg => rw [if_neg h3] at h; cases h
    rw [if_pos h3] at h
    rw [← Option.some.inj h]
    exact path (ob_b h1 (ob_b h1 (ob_b h1 (ob_n (within_ts ints_i64_map h3) (ob_l (cut_ts ints_i64_map (l := a2) (h := (a3 : Int).toNat) (i := (0 : Int).toNat)) ob))))) (by kernel_rfl)
theorem ref01_trim.ok {n : Nat} {t : Tab} (ht : TabOk t (run Try.prog own kp X n)) : ∀ (p1 : Bool) (p2 : List Int) r, ref01_trim t n p1 p2 = some r → run Try.prog own kp X (n + 1) 48 [(.t (.v (.bool p1))), (.t (.sl false 1 (ints_i64 p2)))] [] = some ((.t (GNum.t r)), []) := by
  intro p1 p2 r h
  obtain ⟨a1, rfl⟩ : ∃ z_, z_ = p1 := ⟨_, rfl⟩
  obtain ⟨a2, rfl⟩ : ∃ z_, z_ = p2 := ⟨_, rfl⟩
  rw [ref01_trim] at h
  rcases h1 : ref01_trim_l1 t n n a1 a2 (a2.length : Int) false ([] : List Int) with _ | q_
  · rw [h1] at h; cases h
  rw [h1] at h
  obtain ⟨a3, a4, a5, a6, a7, a8⟩ := q_
  dsimp only at h
  rcases h2 : ref01_trim_j2 t n  a3 a4 a5 a7 a8 with _ | q_
  · rw [h2] at h; cases h
  rw [h2] at h
  obtain ⟨a9, a10⟩ := q_
  dsimp only at h
  rw [← Option.some.inj h]
  exact run_path Try.func48 (ob_v (len_ts ints_i64_map (l := a2)) (ob_k (ref01_trim_l1.ok ht n _ _ _ _ _ _ h1) (ob_j (ref01_trim_j2.ok ht n _ _ _ _ _ _ h2) ob))) (by kernel_rfl)
theorem ref01_digit.ok {n : Nat} {t : Tab} (ht : TabOk t (run Try.prog own kp X n)) : ∀ (p1 : List Int) (p2 : Int) r, ref01_digit t n p1 p2 = some r → run Try.prog own kp X (n + 1) 47 [(.t (.sl false 1 (ints_i64 p1))), (.t (.v (.int .i64 p2)))] [] = some ((.t (.v (.int .i64 r))), []) := by
  intro p1 p2 r h
  obtain ⟨a1, rfl⟩ : ∃ z_, z_ = p1 := ⟨_, rfl⟩
  obtain ⟨a2, rfl⟩ : ∃ z_, z_ = p2 := ⟨_, rfl⟩
  rw [ref01_digit] at h
  by_cases h1 : (decide (a2 < (a1.length : Int))) = true
  · rw [if_pos h1] at h
    by_cases h2 : (decide (0 ≤ (a2 : Int))) = true
    case neg => rw [if_neg h2] at h; cases h
    rw [if_pos h2] at h
    rcases h3 : a1[(a2 : Int).toNat]? with _ | a3
    · rw [h3] at h; cases h
    rw [h3] at h
    dsimp only at h
    rw [← Option.some.inj h]
    exact run_path Try.func47 (ob_v (len_ts ints_i64_map (l := a1)) (ob_b h1 (ob_n h2 (ob_t (look_ts ints_i64_map h3) ob)))) (by kernel_rfl)
  · rw [if_neg h1] at h
    replace h1 := Bool.eq_false_iff.2 h1
    rw [← Option.some.inj h]
    exact run_path Try.func47 (ob_v (len_ts ints_i64_map (l := a1)) (ob_b h1 ob)) (by kernel_rfl)
theorem ref01_size_l1.okL {t : Tab} {call : FuncId → List AV → List AV → Option (AV × List AV)} (ht : TabOk t call) (n : Nat) : ∀ (k : Nat) (a1 : List Int) (a2 : List Int) (a3 : Int) (r : Int ⊕ ((List Int) × (List Int) × Int × Bool)), ref01_size_l1 t n k a1 a2 a3 = some r → loopN (exec (env Try.prog 49 Try.f49 call) n (sub [1, 1, 0, 1, 0, 0] (bodyOf Try.f49))) k (mkSt 41 41 [(0, (.t (.sl false 1 (ints_i64 a1)))), (1, (.t (.sl false 1 (ints_i64 a2)))), (5, (.t (.v (.int .i64 a3))))] []) = some (ref01_size_l1.to r)
  | 0, a1, a2, a3, r, h => by rw [ref01_size_l1] at h; cases h
  | k + 1, a1, a2, a3, r, h => by
    rw [ref01_size_l1] at h
    by_cases h1 : (decide (a3 ≥ 0)) = true
    · rw [if_pos h1] at h
      by_cases h2 : (decide (0 ≤ (a3 : Int))) = true
      case neg => rw [if_neg h2] at h; cases h
      rw [if_pos h2] at h
      rcases h3 : a1[(a3 : Int).toNat]? with _ | a4
      · rw [h3] at h; cases h
      rw [h3] at h
      dsimp only at h
      rcases h4 : a2[(a3 : Int).toNat]? with _ | a5
      · rw [h4] at h; cases h
      rw [h4] at h
      dsimp only at h
      by_cases h5 : (a4 != a5) = true
      · rw [if_pos h5] at h
        rw [← Option.some.inj h]
        exact loop_out (path (ob_b h1 (ob_n h2 (ob_t (look_ts ints_i64_map h3) (ob_n h2 (ob_t (look_ts ints_i64_map h4) (ob_b h5 (ob_n h2 (ob_t (look_ts ints_i64_map h3) (ob_n h2 (ob_t (look_ts ints_i64_map h4) ob)))))))))) (by kernel_rfl)) (fun h => by cases h)
      · rw [if_neg h5] at h
        replace h5 := Bool.eq_false_iff.2 h5
        exact loop_more (path (ob_b h1 (ob_n h2 (ob_t (look_ts ints_i64_map h3) (ob_n h2 (ob_t (look_ts ints_i64_map h4) (ob_b h5 ob)))))) (by kernel_rfl)) (ref01_size_l1.okL ht n k _ _ _ _ h)
    · rw [if_neg h1] at h
      replace h1 := Bool.eq_false_iff.2 h1
      rw [← Option.some.inj h]
      exact loop_out (path (ob_b h1 ob) (by kernel_rfl)) (fun h => by cases h)
theorem ref01_size_l1.ok {t : Tab} {call : FuncId → List AV → List AV → Option (AV × List AV)} (ht : TabOk t call) (n : Nat) (a1 : List Int) (a2 : List Int) (a3 : Int) (r : Int ⊕ ((List Int) × (List Int) × Int × Bool)) (h : ref01_size_l1 t n n a1 a2 a3 = some r) : exec (env Try.prog 49 Try.f49 call) n (sub [1, 1, 0, 1, 0] (bodyOf Try.f49)) (mkSt 41 41 [(0, (.t (.sl false 1 (ints_i64 a1)))), (1, (.t (.sl false 1 (ints_i64 a2)))), (5, (.t (.v (.int .i64 a3))))] []) = some (ref01_size_l1.to r) := by
  have e1 : sub [1, 1, 0, 1, 0] (bodyOf Try.f49) = .loop (sub [1, 1, 0, 1, 0, 0] (bodyOf Try.f49)) := by kernel_rfl
  rw [e1, exec]
  exact ref01_size_l1.okL ht n n a1 a2 a3 r h
theorem ref01_size.ok {n : Nat} {t : Tab} (ht : TabOk t (run Try.prog own kp X n)) : ∀ (p1 : List Int) (p2 : List Int) r, ref01_size t n p1 p2 = some r → run Try.prog own kp X (n + 1) 49 [(.t (.sl false 1 (ints_i64 p1))), (.t (.sl false 1 (ints_i64 p2)))] [] = some ((.t (.v (.int .i64 r))), []) := by
  intro p1 p2 r h
  obtain ⟨a1, rfl⟩ : ∃ z_, z_ = p1 := ⟨_, rfl⟩
  obtain ⟨a2, rfl⟩ : ∃ z_, z_ = p2 := ⟨_, rfl⟩
  rw [ref01_size] at h
  by_cases h1 : ((a1.length : Int) != (a2.length : Int)) = true
  · rw [if_pos h1] at h
    rw [← Option.some.inj h]
    exact run_path Try.func49 (ob_v (len_ts ints_i64_map (l := a1)) (ob_v (len_ts ints_i64_map (l := a2)) (ob_b h1 (ob_v (len_ts ints_i64_map (l := a1)) (ob_v (len_ts ints_i64_map (l := a2)) ob))))) (by kernel_rfl)
  · rw [if_neg h1] at h
    replace h1 := Bool.eq_false_iff.2 h1
    rcases h2 : ref01_size_l1 t n n a1 a2 (IntKind.wrap .i64 ((a1.length : Int) - 1)) with _ | q_
    · rw [h2] at h; cases h
    rw [h2] at h
    rcases q_ with a3 | ⟨a4, a5, a6, a7⟩
    · dsimp only at h
      rw [← Option.some.inj h]
      exact run_path Try.func49 (ob_v (len_ts ints_i64_map (l := a1)) (ob_v (len_ts ints_i64_map (l := a2)) (ob_b h1 (ob_v (len_ts ints_i64_map (l := a1)) (ob_k (ref01_size_l1.ok ht n _ _ _ _ h2) ob))))) (by kernel_rfl)
    · dsimp only at h
      rw [← Option.some.inj h]
      exact run_path Try.func49 (ob_v (len_ts ints_i64_map (l := a1)) (ob_v (len_ts ints_i64_map (l := a2)) (ob_b h1 (ob_v (len_ts ints_i64_map (l := a1)) (ob_k (ref01_size_l1.ok ht n _ _ _ _ h2) ob))))) (by kernel_rfl)
theorem value_copied_l1.okL {t : Tab} {call : FuncId → List AV → List AV → Option (AV × List AV)} (ht : TabOk t call) (n : Nat) : ∀ (k : Nat) (a1 : Int) (a2 : List GValue) (a3 : List GValue) (a4 : Int) (a5 : Int) (r : Int × (List GValue) × (List GValue) × Int × Int × Bool), value_copied_l1 t n k a1 a2 a3 a4 a5 = some r → loopN (exec (env Try.prog 64 Try.f64 call) n (sub [1, 1, 0, 1, 0, 0] (bodyOf Try.f64))) k (mkSt 22 22 [(1, (.t (.v (.int .i64 a1)))), (5, (.t (.sl true 5 (GValue.ts a2)))), (8, (.t (.sl false 5 (GValue.ts a3)))), (9, (.t (.v (.int .i64 a4)))), (10, (.t (.v (.int .i64 a5))))] []) = some (value_copied_l1.to r)
  | 0, a1, a2, a3, a4, a5, r, h => by rw [value_copied_l1] at h; cases h
  | k + 1, a1, a2, a3, a4, a5, r, h => by
    rw [value_copied_l1] at h
    by_cases h1 : (decide (a5 < a4)) = true
    · rw [if_pos h1] at h
      by_cases h2 : (decide (0 ≤ (a5 : Int))) = true
      case neg => rw [if_neg h2] at h; cases h
      rw [if_pos h2] at h
      rcases h3 : a3[(a5 : Int).toNat]? with _ | ⟨a6, a7, a8, a9, a10⟩
      · rw [h3] at h; cases h
      rw [h3] at h
      dsimp only at h
      rcases h4 : t.value_part (GValue.mk a6 a7 a8 a9 a10) a1 with _ | ⟨a11, a12, a13, a14, a15⟩
      · rw [h4] at h; cases h
      rw [h4] at h
      dsimp only at h
      by_cases h5 : (a2.length + ([(GValue.mk a11 a12 a13 a14 a15)] : List GValue).length) * 80 ≤ 140737488355328
      case neg => rw [if_neg h5] at h; cases h
      rw [if_pos h5] at h
      exact loop_more (path (ob_b h1 (ob_n h2 (ob_t (look_ts GValue.ts_map h3) (ob_c (ht.value_part _ _ _ h4) (ob_le (room_ts GValue.ts_map h5) (ob_l (app_ts GValue.ts_map (a := a2) (b := ([(GValue.mk a11 a12 a13 a14 a15)] : List GValue))) ob)))))) (by kernel_rfl)) (value_copied_l1.okL ht n k _ _ _ _ _ _ h)
    · rw [if_neg h1] at h
      replace h1 := Bool.eq_false_iff.2 h1
      rw [← Option.some.inj h]
      exact loop_out (path (ob_b h1 ob) (by kernel_rfl)) (fun h => by cases h)
theorem value_copied_l1.ok {t : Tab} {call : FuncId → List AV → List AV → Option (AV × List AV)} (ht : TabOk t call) (n : Nat) (a1 : Int) (a2 : List GValue) (a3 : List GValue) (a4 : Int) (a5 : Int) (r : Int × (List GValue) × (List GValue) × Int × Int × Bool) (h : value_copied_l1 t n n a1 a2 a3 a4 a5 = some r) : exec (env Try.prog 64 Try.f64 call) n (sub [1, 1, 0, 1, 0] (bodyOf Try.f64)) (mkSt 22 22 [(1, (.t (.v (.int .i64 a1)))), (5, (.t (.sl true 5 (GValue.ts a2)))), (8, (.t (.sl false 5 (GValue.ts a3)))), (9, (.t (.v (.int .i64 a4)))), (10, (.t (.v (.int .i64 a5))))] []) = some (value_copied_l1.to r) := by
  have e1 : sub [1, 1, 0, 1, 0] (bodyOf Try.f64) = .loop (sub [1, 1, 0, 1, 0, 0] (bodyOf Try.f64)) := by kernel_rfl
  rw [e1, exec]
  exact value_copied_l1.okL ht n n a1 a2 a3 a4 a5 r h
theorem value_copied.ok {n : Nat} {t : Tab} (ht : TabOk t (run Try.prog own kp X n)) : ∀ (p1 : List GValue) (p2 : Int) r, value_copied t n p1 p2 = some r → run Try.prog own kp X (n + 1) 64 [(.t (.sl false 5 (GValue.ts p1))), (.t (.v (.int .i64 p2)))] [] = some ((.t (.sl false 5 (GValue.ts r))), []) := by
  intro p1 p2 r h
  obtain ⟨a1, rfl⟩ : ∃ z_, z_ = p1 := ⟨_, rfl⟩
  obtain ⟨a2, rfl⟩ : ∃ z_, z_ = p2 := ⟨_, rfl⟩
  rw [value_copied] at h
  rcases h1 : value_copied_l1 t n n a2 ([] : List GValue) a1 (a1.length : Int) 0 with _ | q_
  · rw [h1] at h; cases h
  rw [h1] at h
  obtain ⟨a3, a4, a5, a6, a7, a8⟩ := q_
  dsimp only at h
  rw [← Option.some.inj h]
  exact run_path Try.func64 (ob_v (len_ts GValue.ts_map (l := a1)) (ob_k (value_copied_l1.ok ht n _ _ _ _ _ _ h1) ob)) (by kernel_rfl)
end Go.Proofs.Ytokfeoifkpedgaa.W
