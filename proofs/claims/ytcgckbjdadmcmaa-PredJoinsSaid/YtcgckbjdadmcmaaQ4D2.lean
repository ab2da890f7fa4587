/- The proofs of it, part 2. -/
import Derived.Test.YtcgckbjdadmcmaaQ4D1
namespace Go.Proofs.Ytcgckbjdadmcmaa.W
open Go.Proofs.Ytcgckbjdadmcmaa.Flat
set_option linter.unusedVariables false
set_option linter.unusedSimpArgs false
theorem ref02_Count_l1.ok {t : Tab} {call : FuncId → List AV → List AV → Option (AV × List AV)} (ht : TabOk t call) (n : Nat) (a1 : Int) (a2 : Int) (a3 : Int) (a4 : Int) (a5 : Int) (a6 : ByteArray) (a7 : List GValue) (a8 : List GValue) (r : Int × Int × Int × Bool × Int × Int × ByteArray × (List GValue) × (List GValue)) (h : ref02_Count_l1 t n n a1 a2 a3 a4 a5 a6 a7 a8 = some r) : exec (env Try.prog 36 Try.f36 call) n (sub [1, 1, 0, 1, 0] (bodyOf Try.f36)) (mkSt 60 60 [(1, (.t (.v (.int .i64 a1)))), (2, (.ptr 2 0 [] 0)), (5, (.t (.v (.int .i64 a2)))), (6, (.t (.v (.int .i64 a3))))] [(2, (.t (.st [(.v (.int .i64 a4)), (.v (.int .i64 a5)), (.v (.string a6)), (.sl false 5 (GValue.ts a7)), (.sl false 5 (GValue.ts a8))])))]) = some (ref02_Count_l1.to r) := by
  have e1 : sub [1, 1, 0, 1, 0] (bodyOf Try.f36) = .loop (sub [1, 1, 0, 1, 0, 0] (bodyOf Try.f36)) := by kernel_rfl
  rw [e1, exec]
  exact ref02_Count_l1.okL ht n n a1 a2 a3 a4 a5 a6 a7 a8 r h
theorem ref02_Count_j5.ok {t : Tab} {call : FuncId → List AV → List AV → Option (AV × List AV)} (ht : TabOk t call) (n : Nat) (a1 : Int) (a2 : Int) (a3 : Int) (a4 : Int) (a5 : Int) (a6 : ByteArray) (a7 : List GValue) (a8 : List GValue) (r : Int × Int × Int × Int × Int × ByteArray × (List GValue) × (List GValue)) (h : ref02_Count_j5 t n a1 a2 a3 a4 a5 a6 a7 a8 = some r) : exec (env Try.prog 36 Try.f36 call) n (sub [1, 1, 1, 0, 1, 0, 0, 1] (bodyOf Try.f36)) (mkSt 60 60 [(1, (.t (.v (.int .i64 a1)))), (2, (.ptr 2 0 [] 0)), (5, (.t (.v (.int .i64 a2)))), (7, (.t (.v (.int .i64 a3))))] [(2, (.t (.st [(.v (.int .i64 a4)), (.v (.int .i64 a5)), (.v (.string a6)), (.sl false 5 (GValue.ts a7)), (.sl false 5 (GValue.ts a8))])))]) = some (ref02_Count_j5.to r) := by
  rw [ref02_Count_j5] at h
  by_cases h1 : (decide (0 ≤ (a3 : Int))) = true
  case neg => rw [if_neg h1] at h; cases h
  rw [if_pos h1] at h
  rcases h2 : a8[(a3 : Int).toNat]? with _ | ⟨a9, a10, a11, a12, a13⟩
  · rw [h2] at h; cases h
  rw [h2] at h
  dsimp only at h
  rcases h3 : t.ref02_Count (GValue.mk a9 a10 a11 a12 a13) (IntKind.wrap .i64 (a1 - a2)) with _ | a14
  · rw [h3] at h; cases h
  rw [h3] at h
  dsimp only at h
  rw [← Option.some.inj h]
  exact path (ob_n h1 (ob_t (look_ts GValue.ts_map h2) (ob_c (ht.ref02_Count _ _ _ h3) ob))) (by kernel_rfl)
theorem ref02_Count_l4.okL {t : Tab} {call : FuncId → List AV → List AV → Option (AV × List AV)} (ht : TabOk t call) (n : Nat) : ∀ (k : Nat) (a1 : Int) (a2 : Int) (a3 : Int) (a4 : Int) (a5 : Int) (a6 : ByteArray) (a7 : List GValue) (a8 : List GValue) (r : Int × Int × Int × Bool × Int × Int × ByteArray × (List GValue) × (List GValue)), ref02_Count_l4 t n k a1 a2 a3 a4 a5 a6 a7 a8 = some r → loopN (exec (env Try.prog 36 Try.f36 call) n (sub [1, 1, 1, 0, 1, 0, 0] (bodyOf Try.f36))) k (mkSt 60 60 [(1, (.t (.v (.int .i64 a1)))), (2, (.ptr 2 0 [] 0)), (5, (.t (.v (.int .i64 a2)))), (7, (.t (.v (.int .i64 a3))))] [(2, (.t (.st [(.v (.int .i64 a4)), (.v (.int .i64 a5)), (.v (.string a6)), (.sl false 5 (GValue.ts a7)), (.sl false 5 (GValue.ts a8))])))]) = some (ref02_Count_l4.to r)
  | 0, a1, a2, a3, a4, a5, a6, a7, a8, r, h => by rw [ref02_Count_l4] at h; cases h
  | k + 1, a1, a2, a3, a4, a5, a6, a7, a8, r, h => by
    rw [ref02_Count_l4] at h
    by_cases h1 : (decide (a3 < (a8.length : Int))) = true
    · rw [if_pos h1] at h
      by_cases h2 : (decide (a2 < a1)) = true
      · rw [if_pos h2] at h
        rcases h3 : ref02_Count_j5 t n  a1 a2 a3 a4 a5 a6 a7 a8 with _ | q_
        · rw [h3] at h; cases h
        rw [h3] at h
        obtain ⟨a9, a10, a11, a12, a13, a14, a15, a16⟩ := q_
        dsimp only at h
        exact loop_more (path (ob_v (len_ts GValue.ts_map (l := a8)) (ob_b h1 (ob_b h1 (ob_b h1 (ob_b h1 (ob_b h2 (ob_j (ref02_Count_j5.ok ht n _ _ _ _ _ _ _ _ _ h3) ob))))))) (by kernel_rfl)) (ref02_Count_l4.okL ht n k _ _ _ _ _ _ _ _ _ h)
      · rw [if_neg h2] at h
        replace h2 := Bool.eq_false_iff.2 h2
        rw [← Option.some.inj h]
        exact loop_out (path (ob_v (len_ts GValue.ts_map (l := a8)) (ob_b h1 (ob_b h1 (ob_b h1 (ob_b h1 (ob_b h2 ob)))))) (by kernel_rfl)) (fun h => by cases h)
    · rw [if_neg h1] at h
      replace h1 := Bool.eq_false_iff.2 h1
      rw [← Option.some.inj h]
      exact loop_out (path (ob_v (len_ts GValue.ts_map (l := a8)) (ob_b h1 (ob_b h1 (ob_b h1 (ob_b h1 (ob_b (rfl : false = false) ob)))))) (by kernel_rfl)) (fun h => by cases h)
theorem ref02_Count_l4.ok {t : Tab} {call : FuncId → List AV → List AV → Option (AV × List AV)} (ht : TabOk t call) (n : Nat) (a1 : Int) (a2 : Int) (a3 : Int) (a4 : Int) (a5 : Int) (a6 : ByteArray) (a7 : List GValue) (a8 : List GValue) (r : Int × Int × Int × Bool × Int × Int × ByteArray × (List GValue) × (List GValue)) (h : ref02_Count_l4 t n n a1 a2 a3 a4 a5 a6 a7 a8 = some r) : exec (env Try.prog 36 Try.f36 call) n (sub [1, 1, 1, 0, 1, 0] (bodyOf Try.f36)) (mkSt 60 60 [(1, (.t (.v (.int .i64 a1)))), (2, (.ptr 2 0 [] 0)), (5, (.t (.v (.int .i64 a2)))), (7, (.t (.v (.int .i64 a3))))] [(2, (.t (.st [(.v (.int .i64 a4)), (.v (.int .i64 a5)), (.v (.string a6)), (.sl false 5 (GValue.ts a7)), (.sl false 5 (GValue.ts a8))])))]) = some (ref02_Count_l4.to r) := by
  have e1 : sub [1, 1, 1, 0, 1, 0] (bodyOf Try.f36) = .loop (sub [1, 1, 1, 0, 1, 0, 0] (bodyOf Try.f36)) := by kernel_rfl
  rw [e1, exec]
  exact ref02_Count_l4.okL ht n n a1 a2 a3 a4 a5 a6 a7 a8 r h
theorem ref02_Count_j6.ok {t : Tab} {call : FuncId → List AV → List AV → Option (AV × List AV)} (ht : TabOk t call) (n : Nat) (a1 : Int) (a2 : Int) (a3 : Int) (a4 : ByteArray) (a5 : List GValue) (a6 : List GValue) (r : Int) (h : ref02_Count_j6 t n a1 a2 a3 a4 a5 a6 = some r) : exec (env Try.prog 36 Try.f36 call) n (sub [1, 1, 1, 1] (bodyOf Try.f36)) (mkSt 60 60 [(2, (.ptr 2 0 [] 0)), (5, (.t (.v (.int .i64 a1))))] [(2, (.t (.st [(.v (.int .i64 a2)), (.v (.int .i64 a3)), (.v (.string a4)), (.sl false 5 (GValue.ts a5)), (.sl false 5 (GValue.ts a6))])))]) = some (ref02_Count_j6.to r) := by
  rw [ref02_Count_j6] at h
  rcases h1 : quoI .i64 (a4.size : Int) 20 with _ | a7
  · rw [h1] at h; cases h
  rw [h1] at h
  dsimp only at h
  rw [← Option.some.inj h]
  exact path (ob_v (quo_ok (P := Try.prog) (t := 3) (x := (.tmp 57)) (y := (.const (.int .i64 20))) h1) ob) (by kernel_rfl)
theorem ref02_Count_j3.ok {t : Tab} {call : FuncId → List AV → List AV → Option (AV × List AV)} (ht : TabOk t call) (n : Nat) (a1 : Int) (a2 : Int) (a3 : Int) (a4 : Int) (a5 : ByteArray) (a6 : List GValue) (a7 : List GValue) (r : Int) (h : ref02_Count_j3 t n a1 a2 a3 a4 a5 a6 a7 = some r) : exec (env Try.prog 36 Try.f36 call) n (sub [1, 1, 1] (bodyOf Try.f36)) (mkSt 60 60 [(1, (.t (.v (.int .i64 a1)))), (2, (.ptr 2 0 [] 0)), (5, (.t (.v (.int .i64 a2))))] [(2, (.t (.st [(.v (.int .i64 a3)), (.v (.int .i64 a4)), (.v (.string a5)), (.sl false 5 (GValue.ts a6)), (.sl false 5 (GValue.ts a7))])))]) = some (ref02_Count_j3.to r) := by
  rw [ref02_Count_j3] at h
  rcases h1 : ref02_Count_l4 t n n a1 a2 0 a3 a4 a5 a6 a7 with _ | q_
  · rw [h1] at h; cases h
  rw [h1] at h
  obtain ⟨a8, a9, a10, a11, a12, a13, a14, a15, a16⟩ := q_
  dsimp only at h
  obtain ⟨a17, rfl⟩ : ∃ z_, z_ = r := ⟨_, rfl⟩
  have h2 := h
  exact path (ob_k (ref02_Count_l4.ok ht n _ _ _ _ _ _ _ _ _ h1) (ob_j (ref02_Count_j6.ok ht n _ _ _ _ _ _ _ h2) ob)) (by kernel_rfl)
theorem ref02_Count.ok {n : Nat} {t : Tab} (ht : TabOk t (run Try.prog own kp X n)) : ∀ (p1 : GValue) (p2 : Int) r, ref02_Count t n p1 p2 = some r → run Try.prog own kp X (n + 1) 36 [(.t (GValue.t p1)), (.t (.v (.int .i64 p2)))] [] = some ((.t (.v (.int .i64 r))), []) := by
  intro p1 p2 r h
  obtain ⟨a1, a2, a3, a4, a5⟩ := p1
  obtain ⟨a6, rfl⟩ : ∃ z_, z_ = p2 := ⟨_, rfl⟩
  rw [ref02_Count] at h
  rcases h1 : ref02_Count_l1 t n n a6 1 0 a1 a2 a3 a4 a5 with _ | q_
  · rw [h1] at h; cases h
  rw [h1] at h
  obtain ⟨a7, a8, a9, a10, a11, a12, a13, a14, a15⟩ := q_
  dsimp only at h
  obtain ⟨a16, rfl⟩ : ∃ z_, z_ = r := ⟨_, rfl⟩
  have h2 := h
  exact run_path Try.func36 (ob_k (ref02_Count_l1.ok ht n _ _ _ _ _ _ _ _ _ h1) (ob_j (ref02_Count_j3.ok ht n _ _ _ _ _ _ _ _ h2) ob)) (by kernel_rfl)
theorem ref02_compare_j3.ok {t : Tab} {call : FuncId → List AV → List AV → Option (AV × List AV)} (ht : TabOk t call) (n : Nat) (a1 : Int) (a2 : Int) (a3 : Bool) (a4 : Int) (a5 : Int) (a6 : ByteArray) (a7 : List GValue) (a8 : List GValue) (a9 : Int) (a10 : Int) (a11 : ByteArray) (a12 : List GValue) (a13 : List GValue) (r : Int × Int × Int × Int × ByteArray × (List GValue) × (List GValue) × Int × Int × ByteArray × (List GValue) × (List GValue)) (h : ref02_compare_j3 t n a1 a2 a3 a4 a5 a6 a7 a8 a9 a10 a11 a12 a13 = some r) : exec (env Try.prog 37 Try.f37 call) n (sub [1, 1, 1, 1, 0, 1] (bodyOf Try.f37)) (mkSt 54 54 [(2, (.t (.v (.int .i64 a1)))), (3, (.ptr 3 0 [] 0)), (4, (.ptr 4 0 [] 0)), (7, (.t (.v (.int .i64 a2)))), (32, (.t (.v (.bool a3))))] [(3, (.t (.st [(.v (.int .i64 a4)), (.v (.int .i64 a5)), (.v (.string a6)), (.sl false 5 (GValue.ts a7)), (.sl false 5 (GValue.ts a8))]))), (4, (.t (.st [(.v (.int .i64 a9)), (.v (.int .i64 a10)), (.v (.string a11)), (.sl false 5 (GValue.ts a12)), (.sl false 5 (GValue.ts a13))])))]) = some (ref02_compare_j3.to r) := by
  rw [ref02_compare_j3] at h
  by_cases h1 : a3 = true
  · rw [if_pos h1] at h
    rcases h2 : t.ref02_rows a7 a12 (IntKind.wrap .i64 (a1 + 1)) with _ | a14
    · rw [h2] at h; cases h
    rw [h2] at h
    dsimp only at h
    rw [← Option.some.inj h]
    exact path (ob_b h1 (ob_c (ht.ref02_rows _ _ _ _ h2) ob)) (by kernel_rfl)
  · rw [if_neg h1] at h
    replace h1 := Bool.eq_false_iff.2 h1
    rw [← Option.some.inj h]
    exact path (ob_b h1 ob) (by kernel_rfl)
theorem ref02_compare_j5.ok {t : Tab} {call : FuncId → List AV → List AV → Option (AV × List AV)} (ht : TabOk t call) (n : Nat) (a1 : Int) (a2 : Int) (a3 : Bool) (a4 : Int) (a5 : Int) (a6 : ByteArray) (a7 : List GValue) (a8 : List GValue) (a9 : Int) (a10 : Int) (a11 : ByteArray) (a12 : List GValue) (a13 : List GValue) (r : Int) (h : ref02_compare_j5 t n a1 a2 a3 a4 a5 a6 a7 a8 a9 a10 a11 a12 a13 = some r) : exec (env Try.prog 37 Try.f37 call) n (sub [1, 1, 1, 1, 1, 0, 1] (bodyOf Try.f37)) (mkSt 54 54 [(2, (.t (.v (.int .i64 a1)))), (3, (.ptr 3 0 [] 0)), (4, (.ptr 4 0 [] 0)), (7, (.t (.v (.int .i64 a2)))), (45, (.t (.v (.bool a3))))] [(3, (.t (.st [(.v (.int .i64 a4)), (.v (.int .i64 a5)), (.v (.string a6)), (.sl false 5 (GValue.ts a7)), (.sl false 5 (GValue.ts a8))]))), (4, (.t (.st [(.v (.int .i64 a9)), (.v (.int .i64 a10)), (.v (.string a11)), (.sl false 5 (GValue.ts a12)), (.sl false 5 (GValue.ts a13))])))]) = some (ref02_compare_j5.to r) := by
  rw [ref02_compare_j5] at h
  by_cases h1 : a3 = true
  · rw [if_pos h1] at h
    obtain ⟨a14, rfl⟩ : ∃ z_, z_ = r := ⟨_, rfl⟩
    have h2 := h
    exact path (ob_b h1 (ob_c (ht.ref02_rows _ _ _ _ h2) ob)) (by kernel_rfl)
  · rw [if_neg h1] at h
    replace h1 := Bool.eq_false_iff.2 h1
    rw [← Option.some.inj h]
    exact path (ob_b h1 ob) (by kernel_rfl)
theorem ref02_compare_j4.ok {t : Tab} {call : FuncId → List AV → List AV → Option (AV × List AV)} (ht : TabOk t call) (n : Nat) (a1 : Int) (a2 : Int) (a3 : Int) (a4 : Int) (a5 : ByteArray) (a6 : List GValue) (a7 : List GValue) (a8 : Int) (a9 : Int) (a10 : ByteArray) (a11 : List GValue) (a12 : List GValue) (r : Int) (h : ref02_compare_j4 t n a1 a2 a3 a4 a5 a6 a7 a8 a9 a10 a11 a12 = some r) : exec (env Try.prog 37 Try.f37 call) n (sub [1, 1, 1, 1, 1] (bodyOf Try.f37)) (mkSt 54 54 [(2, (.t (.v (.int .i64 a1)))), (3, (.ptr 3 0 [] 0)), (4, (.ptr 4 0 [] 0)), (7, (.t (.v (.int .i64 a2))))] [(3, (.t (.st [(.v (.int .i64 a3)), (.v (.int .i64 a4)), (.v (.string a5)), (.sl false 5 (GValue.ts a6)), (.sl false 5 (GValue.ts a7))]))), (4, (.t (.st [(.v (.int .i64 a8)), (.v (.int .i64 a9)), (.v (.string a10)), (.sl false 5 (GValue.ts a11)), (.sl false 5 (GValue.ts a12))])))]) = some (ref02_compare_j4.to r) := by
  rw [ref02_compare_j4] at h
  by_cases h1 : (a2 == 0) = true
  · rw [if_pos h1] at h
    obtain ⟨a13, rfl⟩ : ∃ z_, z_ = r := ⟨_, rfl⟩
    have h2 := h
    exact path (ob_b h1 (ob_b h1 (ob_b h1 (ob_j (ref02_compare_j5.ok ht n _ _ _ _ _ _ _ _ _ _ _ _ _ _ h2) ob)))) (by kernel_rfl)
  · rw [if_neg h1] at h
    replace h1 := Bool.eq_false_iff.2 h1
    obtain ⟨a14, rfl⟩ : ∃ z_, z_ = r := ⟨_, rfl⟩
    have h3 := h
    exact path (ob_b h1 (ob_b h1 (ob_b h1 (ob_j (ref02_compare_j5.ok ht n _ _ _ _ _ _ _ _ _ _ _ _ _ _ h3) ob)))) (by kernel_rfl)
theorem ref02_compare_j2.ok {t : Tab} {call : FuncId → List AV → List AV → Option (AV × List AV)} (ht : TabOk t call) (n : Nat) (a1 : Int) (a2 : Int) (a3 : Int) (a4 : Int) (a5 : ByteArray) (a6 : List GValue) (a7 : List GValue) (a8 : Int) (a9 : Int) (a10 : ByteArray) (a11 : List GValue) (a12 : List GValue) (r : Int) (h : ref02_compare_j2 t n a1 a2 a3 a4 a5 a6 a7 a8 a9 a10 a11 a12 = some r) : exec (env Try.prog 37 Try.f37 call) n (sub [1, 1, 1, 1] (bodyOf Try.f37)) (mkSt 54 54 [(2, (.t (.v (.int .i64 a1)))), (3, (.ptr 3 0 [] 0)), (4, (.ptr 4 0 [] 0)), (7, (.t (.v (.int .i64 a2))))] [(3, (.t (.st [(.v (.int .i64 a3)), (.v (.int .i64 a4)), (.v (.string a5)), (.sl false 5 (GValue.ts a6)), (.sl false 5 (GValue.ts a7))]))), (4, (.t (.st [(.v (.int .i64 a8)), (.v (.int .i64 a9)), (.v (.string a10)), (.sl false 5 (GValue.ts a11)), (.sl false 5 (GValue.ts a12))])))]) = some (ref02_compare_j2.to r) := by
  rw [ref02_compare_j2] at h
  by_cases h1 : (a2 == 0) = true
  · rw [if_pos h1] at h
    rcases h2 : ref02_compare_j3 t n  a1 a2 (decide (a1 ≤ 12)) a3 a4 a5 a6 a7 a8 a9 a10 a11 a12 with _ | q_
    · rw [h2] at h; cases h
    rw [h2] at h
    obtain ⟨a13, a14, a15, a16, a17, a18, a19, a20, a21, a22, a23, a24⟩ := q_
    dsimp only at h
    obtain ⟨a25, rfl⟩ : ∃ z_, z_ = r := ⟨_, rfl⟩
    have h3 := h
    exact path (ob_b h1 (ob_b h1 (ob_b h1 (ob_j (ref02_compare_j3.ok ht n _ _ _ _ _ _ _ _ _ _ _ _ _ _ h2) (ob_j (ref02_compare_j4.ok ht n _ _ _ _ _ _ _ _ _ _ _ _ _ h3) ob))))) (by kernel_rfl)
  · rw [if_neg h1] at h
    replace h1 := Bool.eq_false_iff.2 h1
    rcases h4 : ref02_compare_j3 t n  a1 a2 false a3 a4 a5 a6 a7 a8 a9 a10 a11 a12 with _ | q_
    · rw [h4] at h; cases h
    rw [h4] at h
    obtain ⟨a26, a27, a28, a29, a30, a31, a32, a33, a34, a35, a36, a37⟩ := q_
    dsimp only at h
    obtain ⟨a38, rfl⟩ : ∃ z_, z_ = r := ⟨_, rfl⟩
    have h5 := h
    exact path (ob_b h1 (ob_b h1 (ob_b h1 (ob_j (ref02_compare_j3.ok ht n _ _ _ _ _ _ _ _ _ _ _ _ _ _ h4) (ob_j (ref02_compare_j4.ok ht n _ _ _ _ _ _ _ _ _ _ _ _ _ h5) ob))))) (by kernel_rfl)
theorem ref02_compare_j1.ok {t : Tab} {call : FuncId → List AV → List AV → Option (AV × List AV)} (ht : TabOk t call) (n : Nat) (a1 : Int) (a2 : Int) (a3 : Int) (a4 : Int) (a5 : ByteArray) (a6 : List GValue) (a7 : List GValue) (a8 : Int) (a9 : Int) (a10 : ByteArray) (a11 : List GValue) (a12 : List GValue) (r : Int) (h : ref02_compare_j1 t n a1 a2 a3 a4 a5 a6 a7 a8 a9 a10 a11 a12 = some r) : exec (env Try.prog 37 Try.f37 call) n (sub [1, 1, 1] (bodyOf Try.f37)) (mkSt 54 54 [(2, (.t (.v (.int .i64 a1)))), (3, (.ptr 3 0 [] 0)), (4, (.ptr 4 0 [] 0)), (7, (.t (.v (.int .i64 a2))))] [(3, (.t (.st [(.v (.int .i64 a3)), (.v (.int .i64 a4)), (.v (.string a5)), (.sl false 5 (GValue.ts a6)), (.sl false 5 (GValue.ts a7))]))), (4, (.t (.st [(.v (.int .i64 a8)), (.v (.int .i64 a9)), (.v (.string a10)), (.sl false 5 (GValue.ts a11)), (.sl false 5 (GValue.ts a12))])))]) = some (ref02_compare_j1.to r) := by
  rw [ref02_compare_j1] at h
  by_cases h1 : (a2 == 0) = true
  · rw [if_pos h1] at h
    rcases h2 : t.ref02_texts a5 a10 with _ | a13
    · rw [h2] at h; cases h
    rw [h2] at h
    dsimp only at h
    obtain ⟨a14, rfl⟩ : ∃ z_, z_ = r := ⟨_, rfl⟩
    have h3 := h
    exact path (ob_b h1 (ob_c (ht.ref02_texts _ _ _ h2) (ob_j (ref02_compare_j2.ok ht n _ _ _ _ _ _ _ _ _ _ _ _ _ h3) ob))) (by kernel_rfl)
  · rw [if_neg h1] at h
    replace h1 := Bool.eq_false_iff.2 h1
    obtain ⟨a15, rfl⟩ : ∃ z_, z_ = r := ⟨_, rfl⟩
    have h4 := h
    exact path (ob_b h1 (ob_j (ref02_compare_j2.ok ht n _ _ _ _ _ _ _ _ _ _ _ _ _ h4) ob)) (by kernel_rfl)
theorem ref02_compare.ok {n : Nat} {t : Tab} (ht : TabOk t (run Try.prog own kp X n)) : ∀ (p1 : GValue) (p2 : GValue) (p3 : Int) r, ref02_compare t n p1 p2 p3 = some r → run Try.prog own kp X (n + 1) 37 [(.t (GValue.t p1)), (.t (GValue.t p2)), (.t (.v (.int .i64 p3)))] [] = some ((.t (.v (.int .i64 r))), []) := by
  intro p1 p2 p3 r h
  obtain ⟨a1, a2, a3, a4, a5⟩ := p1
  obtain ⟨a6, a7, a8, a9, a10⟩ := p2
  obtain ⟨a11, rfl⟩ : ∃ z_, z_ = p3 := ⟨_, rfl⟩
  rw [ref02_compare] at h
  rcases h1 : t.ref02_sign a1 a6 with _ | a12
  · rw [h1] at h; cases h
  rw [h1] at h
  dsimp only at h
  by_cases h2 : (a12 == 0) = true
  · rw [if_pos h2] at h
    rcases h3 : t.ref02_sign a2 a7 with _ | a13
    · rw [h3] at h; cases h
    rw [h3] at h
    dsimp only at h
    obtain ⟨a14, rfl⟩ : ∃ z_, z_ = r := ⟨_, rfl⟩
    have h4 := h
    exact run_path Try.func37 (ob_c (ht.ref02_sign _ _ _ h1) (ob_b h2 (ob_c (ht.ref02_sign _ _ _ h3) (ob_j (ref02_compare_j1.ok ht n _ _ _ _ _ _ _ _ _ _ _ _ _ h4) ob)))) (by kernel_rfl)
  · rw [if_neg h2] at h
    replace h2 := Bool.eq_false_iff.2 h2
    obtain ⟨a15, rfl⟩ : ∃ z_, z_ = r := ⟨_, rfl⟩
    have h5 := h
    exact run_path Try.func37 (ob_c (ht.ref02_sign _ _ _ h1) (ob_b h2 (ob_j (ref02_compare_j1.ok ht n _ _ _ _ _ _ _ _ _ _ _ _ _ h5) ob))) (by kernel_rfl)
theorem pred_arity_j3.ok {t : Tab} {call : FuncId → List AV → List AV → Option (AV × List AV)} (ht : TabOk t call) (n : Nat) (a1 : Int) (a2 : Bool) (r : (Int × Int × Int × Int) ⊕ Unit) (h : pred_arity_j3 t n a1 a2 = some r) : exec (env Try.prog 38 Try.f38 call) n (sub [1, 0, 0, 1, 1, 1, 1, 1] (bodyOf Try.f38)) (mkSt 37 37 [(0, (.t (.v (.int .i64 a1)))), (20, (.t (.v (.bool a2))))] []) = some (pred_arity_j3.to r) := by
  rw [pred_arity_j3] at h
  by_cases h1 : a2 = true
  · rw [if_pos h1] at h
    rw [← Option.some.inj h]
    exact path (ob_b h1 ob) (by kernel_rfl)
  · rw [if_neg h1] at h
    replace h1 := Bool.eq_false_iff.2 h1
    by_cases h2 : (a1 == 12) = true
    · rw [if_pos h2] at h
      rw [← Option.some.inj h]
      exact path (ob_b h1 (ob_b h2 ob)) (by kernel_rfl)
    · rw [if_neg h2] at h
      replace h2 := Bool.eq_false_iff.2 h2
      by_cases h3 : (a1 == 13) = true
      · rw [if_pos h3] at h
        rw [← Option.some.inj h]
        exact path (ob_b h1 (ob_b h2 (ob_b h3 (ob_b h3 (ob_b h3 (ob_b (rfl : true = true) ob)))))) (by kernel_rfl)
      · rw [if_neg h3] at h
        replace h3 := Bool.eq_false_iff.2 h3
        by_cases h4 : (a1 == 14) = true
        · rw [if_pos h4] at h
          rw [← Option.some.inj h]
          exact path (ob_b h1 (ob_b h2 (ob_b h3 (ob_b h3 (ob_b h3 (ob_b h4 ob)))))) (by kernel_rfl)
        · rw [if_neg h4] at h
          replace h4 := Bool.eq_false_iff.2 h4
          rw [← Option.some.inj h]
          exact path (ob_b h1 (ob_b h2 (ob_b h3 (ob_b h3 (ob_b h3 (ob_b h4 ob)))))) (by kernel_rfl)
theorem pred_arity_j2.ok {t : Tab} {call : FuncId → List AV → List AV → Option (AV × List AV)} (ht : TabOk t call) (n : Nat) (a1 : Int) (a2 : Bool) (r : (Int × Int × Int × Int) ⊕ Unit) (h : pred_arity_j2 t n a1 a2 = some r) : exec (env Try.prog 38 Try.f38 call) n (sub [1, 0, 0, 1, 1, 1] (bodyOf Try.f38)) (mkSt 37 37 [(0, (.t (.v (.int .i64 a1)))), (13, (.t (.v (.bool a2))))] []) = some (pred_arity_j2.to r) := by
  rw [pred_arity_j2] at h
  by_cases h1 : a2 = true
  · rw [if_pos h1] at h
    rw [← Option.some.inj h]
    exact path (ob_b h1 ob) (by kernel_rfl)
  · rw [if_neg h1] at h
    replace h1 := Bool.eq_false_iff.2 h1
    by_cases h2 : (a1 == 10) = true
    · rw [if_pos h2] at h
      have h3 := h
      rcases r with ⟨a3, a4, a5, a6⟩ | _
      · exact path (ob_b h1 (ob_b h2 (ob_b h2 (ob_b h2 (ob_j (pred_arity_j3.ok ht n _ _ _ h3) ob))))) (by kernel_rfl)
      · exact path (ob_b h1 (ob_b h2 (ob_b h2 (ob_b h2 (ob_j (pred_arity_j3.ok ht n _ _ _ h3) ob))))) (by kernel_rfl)
    · rw [if_neg h2] at h
      replace h2 := Bool.eq_false_iff.2 h2
      have h4 := h
      rcases r with ⟨a7, a8, a9, a10⟩ | _
      · exact path (ob_b h1 (ob_b h2 (ob_b h2 (ob_b h2 (ob_j (pred_arity_j3.ok ht n _ _ _ h4) ob))))) (by kernel_rfl)
      · exact path (ob_b h1 (ob_b h2 (ob_b h2 (ob_b h2 (ob_j (pred_arity_j3.ok ht n _ _ _ h4) ob))))) (by kernel_rfl)
theorem pred_arity_j1.ok {t : Tab} {call : FuncId → List AV → List AV → Option (AV × List AV)} (ht : TabOk t call) (n : Nat) (a1 : Int) (a2 : Bool) (r : (Int × Int × Int × Int) ⊕ Unit) (h : pred_arity_j1 t n a1 a2 = some r) : exec (env Try.prog 38 Try.f38 call) n (sub [1, 0, 0, 1] (bodyOf Try.f38)) (mkSt 37 37 [(0, (.t (.v (.int .i64 a1)))), (6, (.t (.v (.bool a2))))] []) = some (pred_arity_j1.to r) := by
  rw [pred_arity_j1] at h
  by_cases h1 : a2 = true
  · rw [if_pos h1] at h
    rw [← Option.some.inj h]
    exact path (ob_b h1 ob) (by kernel_rfl)
  · rw [if_neg h1] at h
    replace h1 := Bool.eq_false_iff.2 h1
    by_cases h2 : (decide (a1 ≥ 7)) = true
    · rw [if_pos h2] at h
      have h3 := h
      rcases r with ⟨a3, a4, a5, a6⟩ | _
      · exact path (ob_b h1 (ob_b h2 (ob_b h2 (ob_b h2 (ob_j (pred_arity_j2.ok ht n _ _ _ h3) ob))))) (by kernel_rfl)
      · exact path (ob_b h1 (ob_b h2 (ob_b h2 (ob_b h2 (ob_j (pred_arity_j2.ok ht n _ _ _ h3) ob))))) (by kernel_rfl)
    · rw [if_neg h2] at h
      replace h2 := Bool.eq_false_iff.2 h2
      have h4 := h
      rcases r with ⟨a7, a8, a9, a10⟩ | _
      · exact path (ob_b h1 (ob_b h2 (ob_b h2 (ob_b h2 (ob_j (pred_arity_j2.ok ht n _ _ _ h4) ob))))) (by kernel_rfl)
      · exact path (ob_b h1 (ob_b h2 (ob_b h2 (ob_b h2 (ob_j (pred_arity_j2.ok ht n _ _ _ h4) ob))))) (by kernel_rfl)
theorem pred_arity.ok {n : Nat} {t : Tab} (ht : TabOk t (run Try.prog own kp X n)) : ∀ (p1 : Int) r, pred_arity t n p1 = some r → run Try.prog own kp X (n + 1) 38 [(.t (.v (.int .i64 p1)))] [] = some ((.tup [(.v (.int .i64 r.1)), (.v (.int .i64 r.2.1)), (.v (.int .i64 r.2.2.1)), (.v (.int .i64 r.2.2.2))]), []) := by
  intro p1 r h
  obtain ⟨a1, rfl⟩ : ∃ z_, z_ = p1 := ⟨_, rfl⟩
  rw [pred_arity] at h
  by_cases h1 : (decide (a1 ≥ 1)) = true
  · rw [if_pos h1] at h
    rcases h2 : pred_arity_j1 t n  a1 (decide (a1 ≤ 6)) with _ | q_
    · rw [h2] at h; cases h
    rw [h2] at h
    rcases q_ with ⟨a2, a3, a4, a5⟩ | _
    · dsimp only at h
      rw [← Option.some.inj h]
      exact run_path Try.func38 (ob_b h1 (ob_b h1 (ob_b h1 (ob_j (pred_arity_j1.ok ht n _ _ _ h2) ob)))) (by kernel_rfl)
    · dsimp only at h
      rw [← Option.some.inj h]
      exact run_path Try.func38 (ob_b h1 (ob_b h1 (ob_b h1 (ob_j (pred_arity_j1.ok ht n _ _ _ h2) ob)))) (by kernel_rfl)
  · rw [if_neg h1] at h
    replace h1 := Bool.eq_false_iff.2 h1
    rcases h3 : pred_arity_j1 t n  a1 false with _ | q_
    · rw [h3] at h; cases h
    rw [h3] at h
    rcases q_ with ⟨a6, a7, a8, a9⟩ | _
    · dsimp only at h
      rw [← Option.some.inj h]
      exact run_path Try.func38 (ob_b h1 (ob_b h1 (ob_b h1 (ob_j (pred_arity_j1.ok ht n _ _ _ h3) ob)))) (by kernel_rfl)
    · dsimp only at h
      rw [← Option.some.inj h]
      exact run_path Try.func38 (ob_b h1 (ob_b h1 (ob_b h1 (ob_j (pred_arity_j1.ok ht n _ _ _ h3) ob)))) (by kernel_rfl)
theorem slices_ContainsFunc_pred_right_1.ok {n : Nat} {t : Tab} (ht : TabOk t (run Try.prog own kp X n)) : ∀ (p1 : List GPred) (p2 : Int) r, slices_ContainsFunc_pred_right_1 t n p1 p2 = some r → run Try.prog own kp X (n + 1) 42 [(.t (.sl false 3 (GPred.ts p1))), (.fn 39 [(.ref (.v (.int .i64 p2)))])] [] = some ((.t (.v (.bool r))), []) := by
  intro p1 p2 r h
  obtain ⟨a1, rfl⟩ : ∃ z_, z_ = p1 := ⟨_, rfl⟩
  obtain ⟨a2, rfl⟩ : ∃ z_, z_ = p2 := ⟨_, rfl⟩
  rw [slices_ContainsFunc_pred_right_1] at h
  rcases h1 : t.slices_IndexFunc_pred_right_1 a1 a2 with _ | a3
  · rw [h1] at h; cases h
  rw [h1] at h
  dsimp only at h
  rw [← Option.some.inj h]
  exact run_path Try.func42 (ob_c (ht.slices_IndexFunc_pred_right_1 _ _ _ h1) ob) (by kernel_rfl)
theorem slices_ContainsFunc_pred_right_2.ok {n : Nat} {t : Tab} (ht : TabOk t (run Try.prog own kp X n)) : ∀ (p1 : List GValue) r, slices_ContainsFunc_pred_right_2 t n p1 = some r → run Try.prog own kp X (n + 1) 43 [(.t (.sl false 5 (GValue.ts p1))), (.fn 40 [])] [] = some ((.t (.v (.bool r))), []) := by
  intro p1 r h
  obtain ⟨a1, rfl⟩ : ∃ z_, z_ = p1 := ⟨_, rfl⟩
  rw [slices_ContainsFunc_pred_right_2] at h
  rcases h1 : t.slices_IndexFunc_pred_right_2 a1 with _ | a2
  · rw [h1] at h; cases h
  rw [h1] at h
  dsimp only at h
  rw [← Option.some.inj h]
  exact run_path Try.func43 (ob_c (ht.slices_IndexFunc_pred_right_2 _ _ h1) ob) (by kernel_rfl)
theorem slices_ContainsFunc_pred_test_3.ok {n : Nat} {t : Tab} (ht : TabOk t (run Try.prog own kp X n)) : ∀ (p1 : List GValue) (p2 : GValue) r, slices_ContainsFunc_pred_test_3 t n p1 p2 = some r → run Try.prog own kp X (n + 1) 43 [(.t (.sl false 5 (GValue.ts p1))), (.fn 46 [(.ref (GValue.t p2))])] [] = some ((.t (.v (.bool r))), []) := by
  intro p1 p2 r h
  obtain ⟨a1, rfl⟩ : ∃ z_, z_ = p1 := ⟨_, rfl⟩
  obtain ⟨a2, a3, a4, a5, a6⟩ := p2
  rw [slices_ContainsFunc_pred_test_3] at h
  rcases h1 : t.slices_IndexFunc_pred_test_3 a1 (GValue.mk a2 a3 a4 a5 a6) with _ | a7
  · rw [h1] at h; cases h
  rw [h1] at h
  dsimp only at h
  rw [← Option.some.inj h]
  exact run_path Try.func43 (ob_c (ht.slices_IndexFunc_pred_test_3 _ _ _ h1) ob) (by kernel_rfl)
theorem slices_ContainsFunc_pred_test_1.ok {n : Nat} {t : Tab} (ht : TabOk t (run Try.prog own kp X n)) : ∀ (p1 : List GPred) (p2 : GValue) r, slices_ContainsFunc_pred_test_1 t n p1 p2 = some r → run Try.prog own kp X (n + 1) 42 [(.t (.sl false 3 (GPred.ts p1))), (.fn 44 [(.ref (GValue.t p2))])] [] = some ((.t (.v (.bool r))), []) := by
  intro p1 p2 r h
  obtain ⟨a1, rfl⟩ : ∃ z_, z_ = p1 := ⟨_, rfl⟩
  obtain ⟨a2, a3, a4, a5, a6⟩ := p2
  rw [slices_ContainsFunc_pred_test_1] at h
  rcases h1 : t.slices_IndexFunc_pred_test_1 a1 (GValue.mk a2 a3 a4 a5 a6) with _ | a7
  · rw [h1] at h; cases h
  rw [h1] at h
  dsimp only at h
  rw [← Option.some.inj h]
  exact run_path Try.func42 (ob_c (ht.slices_IndexFunc_pred_test_1 _ _ _ h1) ob) (by kernel_rfl)
theorem slices_ContainsFunc_pred_test_2.ok {n : Nat} {t : Tab} (ht : TabOk t (run Try.prog own kp X n)) : ∀ (p1 : List GPred) (p2 : GValue) r, slices_ContainsFunc_pred_test_2 t n p1 p2 = some r → run Try.prog own kp X (n + 1) 42 [(.t (.sl false 3 (GPred.ts p1))), (.fn 45 [(.ref (GValue.t p2))])] [] = some ((.t (.v (.bool r))), []) := by
  intro p1 p2 r h
  obtain ⟨a1, rfl⟩ : ∃ z_, z_ = p1 := ⟨_, rfl⟩
  obtain ⟨a2, a3, a4, a5, a6⟩ := p2
  rw [slices_ContainsFunc_pred_test_2] at h
  rcases h1 : t.slices_IndexFunc_pred_test_2 a1 (GValue.mk a2 a3 a4 a5 a6) with _ | a7
  · rw [h1] at h; cases h
  rw [h1] at h
  dsimp only at h
  rw [← Option.some.inj h]
  exact run_path Try.func42 (ob_c (ht.slices_IndexFunc_pred_test_2 _ _ _ h1) ob) (by kernel_rfl)
theorem pred_test_2.ok {n : Nat} {t : Tab} (ht : TabOk t (run Try.prog own kp X n)) : ∀ (p1 : GPred) (p2 : GValue) r, pred_test_2 t n p1 p2 = some r → run Try.prog own kp X (n + 1) 45 [(.t (GPred.t p1)), (.ref (GValue.t p2))] [] = some ((.t (.v (.bool r))), []) := by
  intro p1 p2 r h
  obtain ⟨a1, a2, a3⟩ := p1
  obtain ⟨a4, a5, a6, a7, a8⟩ := p2
  rw [pred_test_2] at h
  rcases h1 : t.pred_test (GPred.mk a1 a2 a3) (GValue.mk a4 a5 a6 a7 a8) with _ | a9
  · rw [h1] at h; cases h
  rw [h1] at h
  dsimp only at h
  rw [← Option.some.inj h]
  exact run_path Try.func45 (ob_c (ht.pred_test _ _ _ h1) ob) (by kernel_rfl)
theorem pred_alike.ok {n : Nat} {t : Tab} (ht : TabOk t (run Try.prog own kp X n)) : ∀ (p1 : GValue) (p2 : List GValue) r, pred_alike t n p1 p2 = some r → run Try.prog own kp X (n + 1) 48 [(.t (GValue.t p1)), (.t (.sl false 5 (GValue.ts p2)))] [] = some ((.t (.v (.bool r))), []) := by
  intro p1 p2 r h
  obtain ⟨a1, a2, a3, a4, a5⟩ := p1
  obtain ⟨a6, rfl⟩ : ∃ z_, z_ = p2 := ⟨_, rfl⟩
  rw [pred_alike] at h
  rcases h1 : t.slices_ContainsFunc_pred_alike_1 a6 (GValue.mk a1 a2 a3 a4 a5) with _ | a7
  · rw [h1] at h; cases h
  rw [h1] at h
  dsimp only at h
  rw [← Option.some.inj h]
  exact run_path Try.func48 (ob_c (ht.slices_ContainsFunc_pred_alike_1 _ _ _ h1) ob) (by kernel_rfl)
theorem pred_order.ok {n : Nat} {t : Tab} (ht : TabOk t (run Try.prog own kp X n)) : ∀ (p1 : Int) (p2 : GValue) (p3 : List GValue) r, pred_order t n p1 p2 p3 = some r → run Try.prog own kp X (n + 1) 49 [(.t (.v (.int .i64 p1))), (.t (GValue.t p2)), (.t (.sl false 5 (GValue.ts p3)))] [] = some ((.t (.v (.bool r))), []) := by
  intro p1 p2 p3 r h
  obtain ⟨a1, rfl⟩ : ∃ z_, z_ = p1 := ⟨_, rfl⟩
  obtain ⟨a2, a3, a4, a5, a6⟩ := p2
  obtain ⟨a7, rfl⟩ : ∃ z_, z_ = p3 := ⟨_, rfl⟩
  rw [pred_order] at h
  by_cases h1 : (decide (0 ≤ (0 : Int))) = true
  case neg => rw [if_neg h1] at h; cases h
  rw [if_pos h1] at h
  rcases h2 : a7[(0 : Int).toNat]? with _ | ⟨a8, a9, a10, a11, a12⟩
  · rw [h2] at h; cases h
  rw [h2] at h
  dsimp only at h
  rcases h3 : t.value_Cmp (GValue.mk a2 a3 a4 a5 a6) (GValue.mk a8 a9 a10 a11 a12) with _ | a13
  · rw [h3] at h; cases h
  rw [h3] at h
  dsimp only at h
  by_cases h4 : (decide (0 ≤ ((IntKind.wrap .i64 ((a7.length : Int) - 1)) : Int))) = true
  case neg => rw [if_neg h4] at h; cases h
  rw [if_pos h4] at h
  rcases h5 : a7[((IntKind.wrap .i64 ((a7.length : Int) - 1)) : Int).toNat]? with _ | ⟨a14, a15, a16, a17, a18⟩
  · rw [h5] at h; cases h
  rw [h5] at h
  dsimp only at h
  rcases h6 : t.value_Cmp (GValue.mk a2 a3 a4 a5 a6) (GValue.mk a14 a15 a16 a17 a18) with _ | a19
  · rw [h6] at h; cases h
  rw [h6] at h
  dsimp only at h
  by_cases h7 : (a1 == 3) = true
  · rw [if_pos h7] at h
    rw [← Option.some.inj h]
    exact run_path Try.func49 (ob_n h1 (ob_t (look_ts GValue.ts_map h2) (ob_c (ht.value_Cmp _ _ _ h3) (ob_v (len_ts GValue.ts_map (l := a7)) (ob_n h4 (ob_t (look_ts GValue.ts_map h5) (ob_c (ht.value_Cmp _ _ _ h6) (ob_b h7 ob)))))))) (by kernel_rfl)
  · rw [if_neg h7] at h
    replace h7 := Bool.eq_false_iff.2 h7
    by_cases h8 : (a1 == 4) = true
    · rw [if_pos h8] at h
      rw [← Option.some.inj h]
      exact run_path Try.func49 (ob_n h1 (ob_t (look_ts GValue.ts_map h2) (ob_c (ht.value_Cmp _ _ _ h3) (ob_v (len_ts GValue.ts_map (l := a7)) (ob_n h4 (ob_t (look_ts GValue.ts_map h5) (ob_c (ht.value_Cmp _ _ _ h6) (ob_b h7 (ob_b h8 ob))))))))) (by kernel_rfl)
    · rw [if_neg h8] at h
      replace h8 := Bool.eq_false_iff.2 h8
      by_cases h9 : (a1 == 5) = true
      · rw [if_pos h9] at h
        rw [← Option.some.inj h]
        exact run_path Try.func49 (ob_n h1 (ob_t (look_ts GValue.ts_map h2) (ob_c (ht.value_Cmp _ _ _ h3) (ob_v (len_ts GValue.ts_map (l := a7)) (ob_n h4 (ob_t (look_ts GValue.ts_map h5) (ob_c (ht.value_Cmp _ _ _ h6) (ob_b h7 (ob_b h8 (ob_b h9 ob)))))))))) (by kernel_rfl)
      · rw [if_neg h9] at h
        replace h9 := Bool.eq_false_iff.2 h9
        by_cases h10 : (a1 == 6) = true
        · rw [if_pos h10] at h
          rw [← Option.some.inj h]
          exact run_path Try.func49 (ob_n h1 (ob_t (look_ts GValue.ts_map h2) (ob_c (ht.value_Cmp _ _ _ h3) (ob_v (len_ts GValue.ts_map (l := a7)) (ob_n h4 (ob_t (look_ts GValue.ts_map h5) (ob_c (ht.value_Cmp _ _ _ h6) (ob_b h7 (ob_b h8 (ob_b h9 (ob_b h10 ob))))))))))) (by kernel_rfl)
        · rw [if_neg h10] at h
          replace h10 := Bool.eq_false_iff.2 h10
          by_cases h11 : (a1 == 7) = true
          · rw [if_pos h11] at h
            by_cases h12 : (decide (a13 ≥ 0)) = true
            · rw [if_pos h12] at h
              rw [← Option.some.inj h]
              exact run_path Try.func49 (ob_n h1 (ob_t (look_ts GValue.ts_map h2) (ob_c (ht.value_Cmp _ _ _ h3) (ob_v (len_ts GValue.ts_map (l := a7)) (ob_n h4 (ob_t (look_ts GValue.ts_map h5) (ob_c (ht.value_Cmp _ _ _ h6) (ob_b h7 (ob_b h8 (ob_b h9 (ob_b h10 (ob_b h11 (ob_b h12 (ob_b h12 (ob_b h12 ob))))))))))))))) (by kernel_rfl)
            · rw [if_neg h12] at h
              replace h12 := Bool.eq_false_iff.2 h12
              rw [← Option.some.inj h]
              exact run_path Try.func49 (ob_n h1 (ob_t (look_ts GValue.ts_map h2) (ob_c (ht.value_Cmp _ _ _ h3) (ob_v (len_ts GValue.ts_map (l := a7)) (ob_n h4 (ob_t (look_ts GValue.ts_map h5) (ob_c (ht.value_Cmp _ _ _ h6) (ob_b h7 (ob_b h8 (ob_b h9 (ob_b h10 (ob_b h11 (ob_b h12 (ob_b h12 (ob_b h12 ob))))))))))))))) (by kernel_rfl)
          · rw [if_neg h11] at h
            replace h11 := Bool.eq_false_iff.2 h11
            by_cases h13 : (a1 == 8) = true
            · rw [if_pos h13] at h
              by_cases h14 : (decide (a13 > 0)) = true
              · rw [if_pos h14] at h
                rw [← Option.some.inj h]
                exact run_path Try.func49 (ob_n h1 (ob_t (look_ts GValue.ts_map h2) (ob_c (ht.value_Cmp _ _ _ h3) (ob_v (len_ts GValue.ts_map (l := a7)) (ob_n h4 (ob_t (look_ts GValue.ts_map h5) (ob_c (ht.value_Cmp _ _ _ h6) (ob_b h7 (ob_b h8 (ob_b h9 (ob_b h10 (ob_b h11 (ob_b h13 (ob_b h14 (ob_b h14 (ob_b h14 ob)))))))))))))))) (by kernel_rfl)
              · rw [if_neg h14] at h
                replace h14 := Bool.eq_false_iff.2 h14
                rw [← Option.some.inj h]
                exact run_path Try.func49 (ob_n h1 (ob_t (look_ts GValue.ts_map h2) (ob_c (ht.value_Cmp _ _ _ h3) (ob_v (len_ts GValue.ts_map (l := a7)) (ob_n h4 (ob_t (look_ts GValue.ts_map h5) (ob_c (ht.value_Cmp _ _ _ h6) (ob_b h7 (ob_b h8 (ob_b h9 (ob_b h10 (ob_b h11 (ob_b h13 (ob_b h14 (ob_b h14 (ob_b h14 ob)))))))))))))))) (by kernel_rfl)
            · rw [if_neg h13] at h
              replace h13 := Bool.eq_false_iff.2 h13
              by_cases h15 : (decide (a13 < 0)) = true
              · rw [if_pos h15] at h
                rw [← Option.some.inj h]
                exact run_path Try.func49 (ob_n h1 (ob_t (look_ts GValue.ts_map h2) (ob_c (ht.value_Cmp _ _ _ h3) (ob_v (len_ts GValue.ts_map (l := a7)) (ob_n h4 (ob_t (look_ts GValue.ts_map h5) (ob_c (ht.value_Cmp _ _ _ h6) (ob_b h7 (ob_b h8 (ob_b h9 (ob_b h10 (ob_b h11 (ob_b h13 (ob_b h15 (ob_b h15 (ob_b h15 ob)))))))))))))))) (by kernel_rfl)
              · rw [if_neg h15] at h
                replace h15 := Bool.eq_false_iff.2 h15
                rw [← Option.some.inj h]
                exact run_path Try.func49 (ob_n h1 (ob_t (look_ts GValue.ts_map h2) (ob_c (ht.value_Cmp _ _ _ h3) (ob_v (len_ts GValue.ts_map (l := a7)) (ob_n h4 (ob_t (look_ts GValue.ts_map h5) (ob_c (ht.value_Cmp _ _ _ h6) (ob_b h7 (ob_b h8 (ob_b h9 (ob_b h10 (ob_b h11 (ob_b h13 (ob_b h15 (ob_b h15 (ob_b h15 ob)))))))))))))))) (by kernel_rfl)
theorem ref02_Cmp.ok {n : Nat} {t : Tab} (ht : TabOk t (run Try.prog own kp X n)) : ∀ (p1 : GValue) (p2 : GValue) r, ref02_Cmp t n p1 p2 = some r → run Try.prog own kp X (n + 1) 50 [(.t (GValue.t p1)), (.t (GValue.t p2))] [] = some ((.t (.v (.int .i64 r))), []) := by
  intro p1 p2 r h
  obtain ⟨a1, a2, a3, a4, a5⟩ := p1
  obtain ⟨a6, a7, a8, a9, a10⟩ := p2
  rw [ref02_Cmp] at h
  obtain ⟨a11, rfl⟩ : ∃ z_, z_ = r := ⟨_, rfl⟩
  have h1 := h
  exact run_path Try.func50 (ob_c (ht.ref02_compare _ _ _ _ h1) ob) (by kernel_rfl)
theorem pred_part_l1.okL {t : Tab} {call : FuncId → List AV → List AV → Option (AV × List AV)} (ht : TabOk t call) (n : Nat) : ∀ (k : Nat) (a1 : Int) (a2 : List GValue) (a3 : Int) (a4 : Int) (a5 : Int) (a6 : List GValue) (a7 : List GPred) (a8 : Int) (a9 : List GValue) (a10 : List GPred) (a11 : Int) (a12 : List GValue) (a13 : List GPred) (r : Int × (List GValue) × Int × Int × Bool × Int × (List GValue) × (List GPred) × Int × (List GValue) × (List GPred) × Int × (List GValue) × (List GPred)), pred_part_l1 t n k a1 a2 a3 a4 a5 a6 a7 a8 a9 a10 a11 a12 a13 = some r → loopN (exec (env Try.prog 32 Try.f32 call) n (sub [1, 1, 1, 0, 1, 0, 0] (bodyOf Try.f32))) k (mkSt 49 49 [(1, (.t (.v (.int .i64 a1)))), (2, (.ptr 2 0 [] 0)), (4, (.ptr 4 0 [] 0)), (5, (.ptr 5 0 [] 0)), (17, (.t (.sl false 5 (GValue.ts a2)))), (18, (.t (.v (.int .i64 a3)))), (19, (.t (.v (.int .i64 a4))))] [(2, (.t (.st [(.v (.int .i64 a5)), (.sl false 5 (GValue.ts a6)), (.sl false 3 (GPred.ts a7))]))), (4, (.t (.st [(.v (.int .i64 a8)), (.sl true 5 (GValue.ts a9)), (.sl true 3 (GPred.ts a10))]))), (5, (.t (.st [(.v (.int .i64 a11)), (.sl true 5 (GValue.ts a12)), (.sl true 3 (GPred.ts a13))])))]) = some (pred_part_l1.to r)
  | 0, a1, a2, a3, a4, a5, a6, a7, a8, a9, a10, a11, a12, a13, r, h => by rw [pred_part_l1] at h; cases h
  | k + 1, a1, a2, a3, a4, a5, a6, a7, a8, a9, a10, a11, a12, a13, r, h => by
    rw [pred_part_l1] at h
    by_cases h1 : (decide (a4 < a3)) = true
    · rw [if_pos h1] at h
      by_cases h2 : (decide (0 ≤ (a4 : Int))) = true
      case neg => rw [if_neg h2] at h; cases h
      rw [if_pos h2] at h
      rcases h3 : a2[(a4 : Int).toNat]? with _ | ⟨a14, a15, a16, a17, a18⟩
      · rw [h3] at h; cases h
      rw [h3] at h
      dsimp only at h
      rcases h4 : t.value_Copy (GValue.mk a14 a15 a16 a17 a18) with _ | ⟨a19, a20, a21, a22, a23⟩
      · rw [h4] at h; cases h
      rw [h4] at h
      dsimp only at h
      by_cases h5 : (a12.length + ([(GValue.mk a19 a20 a21 a22 a23)] : List GValue).length) * 80 ≤ 140737488355328
      case neg => rw [if_neg h5] at h; cases h
      rw [if_pos h5] at h
      exact loop_more (path (ob_b h1 (ob_n h2 (ob_t (look_ts GValue.ts_map h3) (ob_c (ht.value_Copy _ _ h4) (ob_le (room_ts GValue.ts_map h5) (ob_l (app_ts GValue.ts_map (a := a12) (b := ([(GValue.mk a19 a20 a21 a22 a23)] : List GValue))) ob)))))) (by kernel_rfl)) (pred_part_l1.okL ht n k _ _ _ _ _ _ _ _ _ _ _ _ _ _ h)
    · rw [if_neg h1] at h
      replace h1 := Bool.eq_false_iff.2 h1
      rw [← Option.some.inj h]
      exact loop_out (path (ob_b h1 ob) (by kernel_rfl)) (fun h => by cases h)
theorem pred_part_l1.ok {t : Tab} {call : FuncId → List AV → List AV → Option (AV × List AV)} (ht : TabOk t call) (n : Nat) (a1 : Int) (a2 : List GValue) (a3 : Int) (a4 : Int) (a5 : Int) (a6 : List GValue) (a7 : List GPred) (a8 : Int) (a9 : List GValue) (a10 : List GPred) (a11 : Int) (a12 : List GValue) (a13 : List GPred) (r : Int × (List GValue) × Int × Int × Bool × Int × (List GValue) × (List GPred) × Int × (List GValue) × (List GPred) × Int × (List GValue) × (List GPred)) (h : pred_part_l1 t n n a1 a2 a3 a4 a5 a6 a7 a8 a9 a10 a11 a12 a13 = some r) : exec (env Try.prog 32 Try.f32 call) n (sub [1, 1, 1, 0, 1, 0] (bodyOf Try.f32)) (mkSt 49 49 [(1, (.t (.v (.int .i64 a1)))), (2, (.ptr 2 0 [] 0)), (4, (.ptr 4 0 [] 0)), (5, (.ptr 5 0 [] 0)), (17, (.t (.sl false 5 (GValue.ts a2)))), (18, (.t (.v (.int .i64 a3)))), (19, (.t (.v (.int .i64 a4))))] [(2, (.t (.st [(.v (.int .i64 a5)), (.sl false 5 (GValue.ts a6)), (.sl false 3 (GPred.ts a7))]))), (4, (.t (.st [(.v (.int .i64 a8)), (.sl true 5 (GValue.ts a9)), (.sl true 3 (GPred.ts a10))]))), (5, (.t (.st [(.v (.int .i64 a11)), (.sl true 5 (GValue.ts a12)), (.sl true 3 (GPred.ts a13))])))]) = some (pred_part_l1.to r) := by
  have e1 : sub [1, 1, 1, 0, 1, 0] (bodyOf Try.f32) = .loop (sub [1, 1, 1, 0, 1, 0, 0] (bodyOf Try.f32)) := by kernel_rfl
  rw [e1, exec]
  exact pred_part_l1.okL ht n n a1 a2 a3 a4 a5 a6 a7 a8 a9 a10 a11 a12 a13 r h
theorem pred_part_l3.okL {t : Tab} {call : FuncId → List AV → List AV → Option (AV × List AV)} (ht : TabOk t call) (n : Nat) : ∀ (k : Nat) (a1 : Int) (a2 : List GPred) (a3 : Int) (a4 : Int) (a5 : Int) (a6 : List GValue) (a7 : List GPred) (a8 : Int) (a9 : List GValue) (a10 : List GPred) (r : Int × (List GPred) × Int × Int × Bool × Int × (List GValue) × (List GPred) × Int × (List GValue) × (List GPred)), pred_part_l3 t n k a1 a2 a3 a4 a5 a6 a7 a8 a9 a10 = some r → loopN (exec (env Try.prog 32 Try.f32 call) n (sub [1, 1, 1, 1, 0, 1, 0, 0] (bodyOf Try.f32))) k (mkSt 49 49 [(1, (.t (.v (.int .i64 a1)))), (4, (.ptr 4 0 [] 0)), (5, (.ptr 5 0 [] 0)), (32, (.t (.sl false 3 (GPred.ts a2)))), (33, (.t (.v (.int .i64 a3)))), (34, (.t (.v (.int .i64 a4))))] [(4, (.t (.st [(.v (.int .i64 a5)), (.sl true 5 (GValue.ts a6)), (.sl true 3 (GPred.ts a7))]))), (5, (.t (.st [(.v (.int .i64 a8)), (.sl true 5 (GValue.ts a9)), (.sl true 3 (GPred.ts a10))])))]) = some (pred_part_l3.to r)
  | 0, a1, a2, a3, a4, a5, a6, a7, a8, a9, a10, r, h => by rw [pred_part_l3] at h; cases h
  | k + 1, a1, a2, a3, a4, a5, a6, a7, a8, a9, a10, r, h => by
    rw [pred_part_l3] at h
    by_cases h1 : (decide (a4 < a3)) = true
    · rw [if_pos h1] at h
      by_cases h2 : (decide (0 ≤ (a4 : Int))) = true
      case neg => rw [if_neg h2] at h; cases h
      rw [if_pos h2] at h
      rcases h3 : a2[(a4 : Int).toNat]? with _ | ⟨a11, a12, a13⟩
      · rw [h3] at h; cases h
      rw [h3] at h
      dsimp only at h
      rcases h4 : t.pred_part (GPred.mk a11 a12 a13) (IntKind.wrap .i64 (a1 + 1)) with _ | ⟨a14, a15, a16⟩
      · rw [h4] at h; cases h
      rw [h4] at h
      dsimp only at h
      by_cases h5 : (a10.length + ([(GPred.mk a14 a15 a16)] : List GPred).length) * 56 ≤ 140737488355328
      case neg => rw [if_neg h5] at h; cases h
      rw [if_pos h5] at h
      exact loop_more (path (ob_b h1 (ob_n h2 (ob_t (look_ts GPred.ts_map h3) (ob_c (ht.pred_part _ _ _ h4) (ob_le (room_ts GPred.ts_map h5) (ob_l (app_ts GPred.ts_map (a := a10) (b := ([(GPred.mk a14 a15 a16)] : List GPred))) ob)))))) (by kernel_rfl)) (pred_part_l3.okL ht n k _ _ _ _ _ _ _ _ _ _ _ h)
    · rw [if_neg h1] at h
      replace h1 := Bool.eq_false_iff.2 h1
      rw [← Option.some.inj h]
      exact loop_out (path (ob_b h1 ob) (by kernel_rfl)) (fun h => by cases h)
theorem pred_part_l3.ok {t : Tab} {call : FuncId → List AV → List AV → Option (AV × List AV)} (ht : TabOk t call) (n : Nat) (a1 : Int) (a2 : List GPred) (a3 : Int) (a4 : Int) (a5 : Int) (a6 : List GValue) (a7 : List GPred) (a8 : Int) (a9 : List GValue) (a10 : List GPred) (r : Int × (List GPred) × Int × Int × Bool × Int × (List GValue) × (List GPred) × Int × (List GValue) × (List GPred)) (h : pred_part_l3 t n n a1 a2 a3 a4 a5 a6 a7 a8 a9 a10 = some r) : exec (env Try.prog 32 Try.f32 call) n (sub [1, 1, 1, 1, 0, 1, 0] (bodyOf Try.f32)) (mkSt 49 49 [(1, (.t (.v (.int .i64 a1)))), (4, (.ptr 4 0 [] 0)), (5, (.ptr 5 0 [] 0)), (32, (.t (.sl false 3 (GPred.ts a2)))), (33, (.t (.v (.int .i64 a3)))), (34, (.t (.v (.int .i64 a4))))] [(4, (.t (.st [(.v (.int .i64 a5)), (.sl true 5 (GValue.ts a6)), (.sl true 3 (GPred.ts a7))]))), (5, (.t (.st [(.v (.int .i64 a8)), (.sl true 5 (GValue.ts a9)), (.sl true 3 (GPred.ts a10))])))]) = some (pred_part_l3.to r) := by
  have e1 : sub [1, 1, 1, 1, 0, 1, 0] (bodyOf Try.f32) = .loop (sub [1, 1, 1, 1, 0, 1, 0, 0] (bodyOf Try.f32)) := by kernel_rfl
  rw [e1, exec]
  exact pred_part_l3.okL ht n n a1 a2 a3 a4 a5 a6 a7 a8 a9 a10 r h
theorem pred_part_j2.ok {t : Tab} {call : FuncId → List AV → List AV → Option (AV × List AV)} (ht : TabOk t call) (n : Nat) (a1 : Int) (a2 : Int) (a3 : List GValue) (a4 : List GPred) (a5 : Int) (a6 : List GValue) (a7 : List GPred) (a8 : Int) (a9 : List GValue) (a10 : List GPred) (r : Int × (List GValue) × (List GPred)) (h : pred_part_j2 t n a1 a2 a3 a4 a5 a6 a7 a8 a9 a10 = some r) : exec (env Try.prog 32 Try.f32 call) n (sub [1, 1, 1, 1] (bodyOf Try.f32)) (mkSt 49 49 [(1, (.t (.v (.int .i64 a1)))), (2, (.ptr 2 0 [] 0)), (4, (.ptr 4 0 [] 0)), (5, (.ptr 5 0 [] 0))] [(2, (.t (.st [(.v (.int .i64 a2)), (.sl false 5 (GValue.ts a3)), (.sl false 3 (GPred.ts a4))]))), (4, (.t (.st [(.v (.int .i64 a5)), (.sl true 5 (GValue.ts a6)), (.sl true 3 (GPred.ts a7))]))), (5, (.t (.st [(.v (.int .i64 a8)), (.sl true 5 (GValue.ts a9)), (.sl true 3 (GPred.ts a10))])))]) = some (pred_part_j2.to r) := by
  rw [pred_part_j2] at h
  rcases h1 : pred_part_l3 t n n a1 a4 (a4.length : Int) 0 a5 a6 a7 a8 a9 a10 with _ | q_
  · rw [h1] at h; cases h
  rw [h1] at h
  obtain ⟨a11, a12, a13, a14, a15, a16, a17, a18, a19, a20, a21⟩ := q_
  dsimp only at h
  rw [← Option.some.inj h]
  exact path (ob_v (len_ts GPred.ts_map (l := a4)) (ob_k (pred_part_l3.ok ht n _ _ _ _ _ _ _ _ _ _ _ h1) ob)) (by kernel_rfl)
theorem pred_part.ok {n : Nat} {t : Tab} (ht : TabOk t (run Try.prog own kp X n)) : ∀ (p1 : GPred) (p2 : Int) r, pred_part t n p1 p2 = some r → run Try.prog own kp X (n + 1) 32 [(.t (GPred.t p1)), (.t (.v (.int .i64 p2)))] [] = some ((.t (GPred.t r)), []) := by
  intro p1 p2 r h
  obtain ⟨a1, a2, a3⟩ := p1
  obtain ⟨a4, rfl⟩ : ∃ z_, z_ = p2 := ⟨_, rfl⟩
  rw [pred_part] at h
  by_cases h1 : (decide (a4 > 12)) = true
  · rw [if_pos h1] at h
    rw [← Option.some.inj h]
    exact run_path Try.func32 (ob_b h1 ob) (by kernel_rfl)
  · rw [if_neg h1] at h
    replace h1 := Bool.eq_false_iff.2 h1
    rcases h2 : pred_part_l1 t n n a4 a2 (a2.length : Int) 0 a1 a2 a3 0 ([] : List GValue) ([] : List GPred) a1 ([] : List GValue) ([] : List GPred) with _ | q_
    · rw [h2] at h; cases h
    rw [h2] at h
    obtain ⟨a5, a6, a7, a8, a9, a10, a11, a12, a13, a14, a15, a16, a17, a18⟩ := q_
    dsimp only at h
    rcases h3 : pred_part_j2 t n  a5 a10 a11 a12 a13 a14 a15 a16 a17 a18 with _ | q_
    · rw [h3] at h; cases h
    rw [h3] at h
    obtain ⟨a19, a20, a21⟩ := q_
    dsimp only at h
    rw [← Option.some.inj h]
    exact run_path Try.func32 (ob_b h1 (ob_v (len_ts GValue.ts_map (l := a2)) (ob_k (pred_part_l1.ok ht n _ _ _ _ _ _ _ _ _ _ _ _ _ _ h2) (ob_j (pred_part_j2.ok ht n _ _ _ _ _ _ _ _ _ _ _ h3) ob)))) (by kernel_rfl)
theorem pred_other.ok {n : Nat} {t : Tab} (ht : TabOk t (run Try.prog own kp X n)) : ∀ (p1 : Int) r, pred_other t n p1 = some r → run Try.prog own kp X (n + 1) 51 [(.t (.v (.int .i64 p1)))] [] = some ((.tup [(.v (.int .i64 r.1)), (.v (.bool r.2))]), []) := by
  intro p1 r h
  obtain ⟨a1, rfl⟩ : ∃ z_, z_ = p1 := ⟨_, rfl⟩
  rw [pred_other] at h
  by_cases h1 : (a1 == 1) = true
  · rw [if_pos h1] at h
    rw [← Option.some.inj h]
    exact run_path Try.func51 (ob_b h1 ob) (by kernel_rfl)
  · rw [if_neg h1] at h
    replace h1 := Bool.eq_false_iff.2 h1
    by_cases h2 : (a1 == 2) = true
    · rw [if_pos h2] at h
      rw [← Option.some.inj h]
      exact run_path Try.func51 (ob_b h1 (ob_b h2 ob)) (by kernel_rfl)
    · rw [if_neg h2] at h
      replace h2 := Bool.eq_false_iff.2 h2
      by_cases h3 : (a1 == 10) = true
      · rw [if_pos h3] at h
        rw [← Option.some.inj h]
        exact run_path Try.func51 (ob_b h1 (ob_b h2 (ob_b h3 ob))) (by kernel_rfl)
      · rw [if_neg h3] at h
        replace h3 := Bool.eq_false_iff.2 h3
        by_cases h4 : (a1 == 11) = true
        · rw [if_pos h4] at h
          rw [← Option.some.inj h]
          exact run_path Try.func51 (ob_b h1 (ob_b h2 (ob_b h3 (ob_b h4 ob)))) (by kernel_rfl)
        · rw [if_neg h4] at h
          replace h4 := Bool.eq_false_iff.2 h4
          rw [← Option.some.inj h]
          exact run_path Try.func51 (ob_b h1 (ob_b h2 (ob_b h3 (ob_b h4 ob)))) (by kernel_rfl)
theorem ref02_fields_j2.ok {t : Tab} {call : FuncId → List AV → List AV → Option (AV × List AV)} (ht : TabOk t call) (n : Nat) (a1 : Int) (a2 : Bool) (a3 : Int) (a4 : Int) (a5 : ByteArray) (a6 : List GValue) (a7 : List GValue) (r : Bool ⊕ Unit) (h : ref02_fields_j2 t n a1 a2 a3 a4 a5 a6 a7 = some r) : exec (env Try.prog 53 Try.f53 call) n (sub [1, 0, 1, 0, 1, 1, 1, 1, 1, 1, 1, 1, 1] (bodyOf Try.f53)) (mkSt 143 143 [(1, (.ptr 1 0 [] 0)), (4, (.t (.v (.int .i64 a1)))), (95, (.t (.v (.bool a2))))] [(1, (.t (.st [(.v (.int .i64 a3)), (.v (.int .i64 a4)), (.v (.string a5)), (.sl false 5 (GValue.ts a6)), (.sl false 5 (GValue.ts a7))])))]) = some (ref02_fields_j2.to r) := by
  rw [ref02_fields_j2] at h
  by_cases h1 : a2 = true
  · rw [if_pos h1] at h
    by_cases h2 : (a4 == 0) = true
    · rw [if_pos h2] at h
      by_cases h3 : (a5.toList == (ByteArray.mk #[]).toList) = true
      · rw [if_pos h3] at h
        by_cases h4 : (decide ((a6.length : Int) ≤ 1000)) = true
        · rw [if_pos h4] at h
          rw [← Option.some.inj h]
          exact path (ob_b h1 (ob_b h2 (ob_b h2 (ob_b h2 (ob_b h2 (ob_b h3 (ob_b h3 (ob_b h3 (ob_v (len_ts GValue.ts_map (l := a6)) (ob_b h3 (ob_b h3 (ob_b h4 (ob_b h4 (ob_b h4 (ob_v (len_ts GValue.ts_map (l := a7)) (ob_b h4 (ob_b h4 ob))))))))))))))))) (by kernel_rfl)
        · rw [if_neg h4] at h
          replace h4 := Bool.eq_false_iff.2 h4
          rw [← Option.some.inj h]
          exact path (ob_b h1 (ob_b h2 (ob_b h2 (ob_b h2 (ob_b h2 (ob_b h3 (ob_b h3 (ob_b h3 (ob_v (len_ts GValue.ts_map (l := a6)) (ob_b h3 (ob_b h3 (ob_b h4 (ob_b h4 (ob_b h4 (ob_b h4 (ob_b h4 ob)))))))))))))))) (by kernel_rfl)
      · rw [if_neg h3] at h
        replace h3 := Bool.eq_false_iff.2 h3
        rw [← Option.some.inj h]
        exact path (ob_b h1 (ob_b h2 (ob_b h2 (ob_b h2 (ob_b h2 (ob_b h3 (ob_b h3 (ob_b h3 (ob_b h3 (ob_b h3 (ob_b (rfl : false = false) (ob_b (rfl : false = false) (ob_b (rfl : false = false) (ob_b (rfl : false = false) (ob_b (rfl : false = false) ob))))))))))))))) (by kernel_rfl)
    · rw [if_neg h2] at h
      replace h2 := Bool.eq_false_iff.2 h2
      rw [← Option.some.inj h]
      exact path (ob_b h1 (ob_b h2 (ob_b h2 (ob_b h2 (ob_b h2 (ob_b (rfl : false = false) (ob_b (rfl : false = false) (ob_b (rfl : false = false) (ob_b (rfl : false = false) (ob_b (rfl : false = false) (ob_b (rfl : false = false) (ob_b (rfl : false = false) (ob_b (rfl : false = false) (ob_b (rfl : false = false) (ob_b (rfl : false = false) ob))))))))))))))) (by kernel_rfl)
  · rw [if_neg h1] at h
    replace h1 := Bool.eq_false_iff.2 h1
    by_cases h5 : (a1 == 7) = true
    · rw [if_pos h5] at h
      by_cases h6 : (a4 == 0) = true
      · rw [if_pos h6] at h
        by_cases h7 : (a5.toList == (ByteArray.mk #[]).toList) = true
        · rw [if_pos h7] at h
          by_cases h8 : (decide ((a6.length : Int) ≤ 1000)) = true
          · rw [if_pos h8] at h
            rw [← Option.some.inj h]
            exact path (ob_b h1 (ob_b h5 (ob_b h6 (ob_b h6 (ob_b h6 (ob_b h6 (ob_b h7 (ob_b h7 (ob_b h7 (ob_v (len_ts GValue.ts_map (l := a6)) (ob_b h7 (ob_b h7 (ob_b h8 (ob_b h8 (ob_b h8 (ob_v (len_ts GValue.ts_map (l := a7)) (ob_b h8 (ob_b h8 (ob_b h8 (ob_v (len_ts GValue.ts_map (l := a6)) (ob_b h8 (ob_b h8 ob)))))))))))))))))))))) (by kernel_rfl)
          · rw [if_neg h8] at h
            replace h8 := Bool.eq_false_iff.2 h8
            rw [← Option.some.inj h]
            exact path (ob_b h1 (ob_b h5 (ob_b h6 (ob_b h6 (ob_b h6 (ob_b h6 (ob_b h7 (ob_b h7 (ob_b h7 (ob_v (len_ts GValue.ts_map (l := a6)) (ob_b h7 (ob_b h7 (ob_b h8 (ob_b h8 (ob_b h8 (ob_b h8 (ob_b h8 (ob_b h8 (ob_b h8 (ob_b h8 ob)))))))))))))))))))) (by kernel_rfl)
        · rw [if_neg h7] at h
          replace h7 := Bool.eq_false_iff.2 h7
          rw [← Option.some.inj h]
          exact path (ob_b h1 (ob_b h5 (ob_b h6 (ob_b h6 (ob_b h6 (ob_b h6 (ob_b h7 (ob_b h7 (ob_b h7 (ob_b h7 (ob_b h7 (ob_b (rfl : false = false) (ob_b (rfl : false = false) (ob_b (rfl : false = false) (ob_b (rfl : false = false) (ob_b (rfl : false = false) (ob_b (rfl : false = false) (ob_b (rfl : false = false) (ob_b (rfl : false = false) ob))))))))))))))))))) (by kernel_rfl)
      · rw [if_neg h6] at h
        replace h6 := Bool.eq_false_iff.2 h6
        rw [← Option.some.inj h]
        exact path (ob_b h1 (ob_b h5 (ob_b h6 (ob_b h6 (ob_b h6 (ob_b h6 (ob_b (rfl : false = false) (ob_b (rfl : false = false) (ob_b (rfl : false = false) (ob_b (rfl : false = false) (ob_b (rfl : false = false) (ob_b (rfl : false = false) (ob_b (rfl : false = false) (ob_b (rfl : false = false) (ob_b (rfl : false = false) (ob_b (rfl : false = false) (ob_b (rfl : false = false) (ob_b (rfl : false = false) (ob_b (rfl : false = false) ob))))))))))))))))))) (by kernel_rfl)
    · rw [if_neg h5] at h
      replace h5 := Bool.eq_false_iff.2 h5
      rw [← Option.some.inj h]
      exact path (ob_b h1 (ob_b h5 ob)) (by kernel_rfl)
theorem ref02_fields_j1.ok {t : Tab} {call : FuncId → List AV → List AV → Option (AV × List AV)} (ht : TabOk t call) (n : Nat) (a1 : Int) (a2 : Bool) (a3 : Int) (a4 : Int) (a5 : ByteArray) (a6 : List GValue) (a7 : List GValue) (r : Bool ⊕ Unit) (h : ref02_fields_j1 t n a1 a2 a3 a4 a5 a6 a7 = some r) : exec (env Try.prog 53 Try.f53 call) n (sub [1, 0, 1, 0, 1, 1, 1, 1, 1, 1, 1] (bodyOf Try.f53)) (mkSt 143 143 [(1, (.ptr 1 0 [] 0)), (4, (.t (.v (.int .i64 a1)))), (72, (.t (.v (.bool a2))))] [(1, (.t (.st [(.v (.int .i64 a3)), (.v (.int .i64 a4)), (.v (.string a5)), (.sl false 5 (GValue.ts a6)), (.sl false 5 (GValue.ts a7))])))]) = some (ref02_fields_j1.to r) := by
  rw [ref02_fields_j1] at h
  by_cases h1 : a2 = true
  · rw [if_pos h1] at h
    by_cases h2 : (decide (a4 ≥ 0)) = true
    · rw [if_pos h2] at h
      by_cases h3 : (a5.toList == (ByteArray.mk #[]).toList) = true
      · rw [if_pos h3] at h
        by_cases h4 : ((a6.length : Int) == 0) = true
        · rw [if_pos h4] at h
          rw [← Option.some.inj h]
          exact path (ob_b h1 (ob_b h2 (ob_b h2 (ob_b h2 (ob_b h2 (ob_b h3 (ob_b h3 (ob_b h3 (ob_v (len_ts GValue.ts_map (l := a6)) (ob_b h3 (ob_b h3 (ob_b h4 (ob_b h4 (ob_b h4 (ob_v (len_ts GValue.ts_map (l := a7)) (ob_b h4 (ob_b h4 ob))))))))))))))))) (by kernel_rfl)
        · rw [if_neg h4] at h
          replace h4 := Bool.eq_false_iff.2 h4
          rw [← Option.some.inj h]
          exact path (ob_b h1 (ob_b h2 (ob_b h2 (ob_b h2 (ob_b h2 (ob_b h3 (ob_b h3 (ob_b h3 (ob_v (len_ts GValue.ts_map (l := a6)) (ob_b h3 (ob_b h3 (ob_b h4 (ob_b h4 (ob_b h4 (ob_b h4 (ob_b h4 ob)))))))))))))))) (by kernel_rfl)
      · rw [if_neg h3] at h
        replace h3 := Bool.eq_false_iff.2 h3
        rw [← Option.some.inj h]
        exact path (ob_b h1 (ob_b h2 (ob_b h2 (ob_b h2 (ob_b h2 (ob_b h3 (ob_b h3 (ob_b h3 (ob_b h3 (ob_b h3 (ob_b (rfl : false = false) (ob_b (rfl : false = false) (ob_b (rfl : false = false) (ob_b (rfl : false = false) (ob_b (rfl : false = false) ob))))))))))))))) (by kernel_rfl)
    · rw [if_neg h2] at h
      replace h2 := Bool.eq_false_iff.2 h2
      rw [← Option.some.inj h]
      exact path (ob_b h1 (ob_b h2 (ob_b h2 (ob_b h2 (ob_b h2 (ob_b (rfl : false = false) (ob_b (rfl : false = false) (ob_b (rfl : false = false) (ob_b (rfl : false = false) (ob_b (rfl : false = false) (ob_b (rfl : false = false) (ob_b (rfl : false = false) (ob_b (rfl : false = false) (ob_b (rfl : false = false) (ob_b (rfl : false = false) ob))))))))))))))) (by kernel_rfl)
  · rw [if_neg h1] at h
    replace h1 := Bool.eq_false_iff.2 h1
    by_cases h5 : (a1 == 6) = true
    · rw [if_pos h5] at h
      have h6 := h
      rcases r with a8 | _
      · exact path (ob_b h1 (ob_b h5 (ob_j (ref02_fields_j2.ok ht n _ _ _ _ _ _ _ _ h6) ob))) (by kernel_rfl)
      · exact path (ob_b h1 (ob_b h5 (ob_j (ref02_fields_j2.ok ht n _ _ _ _ _ _ _ _ h6) ob))) (by kernel_rfl)
    · rw [if_neg h5] at h
      replace h5 := Bool.eq_false_iff.2 h5
      have h7 := h
      rcases r with a9 | _
      · exact path (ob_b h1 (ob_b h5 (ob_j (ref02_fields_j2.ok ht n _ _ _ _ _ _ _ _ h7) ob))) (by kernel_rfl)
      · exact path (ob_b h1 (ob_b h5 (ob_j (ref02_fields_j2.ok ht n _ _ _ _ _ _ _ _ h7) ob))) (by kernel_rfl)
theorem ref02_fields.ok {n : Nat} {t : Tab} (ht : TabOk t (run Try.prog own kp X n)) : ∀ (p1 : GValue) r, ref02_fields t n p1 = some r → run Try.prog own kp X (n + 1) 53 [(.t (GValue.t p1))] [] = some ((.t (.v (.bool r))), []) := by
  intro p1 r h
  obtain ⟨a1, a2, a3, a4, a5⟩ := p1
  rw [ref02_fields] at h
  by_cases h1 : (a1 == 1) = true
  · rw [if_pos h1] at h
    by_cases h2 : (a2 == 0) = true
    · rw [if_pos h2] at h
      by_cases h3 : (a3.toList == (ByteArray.mk #[]).toList) = true
      · rw [if_pos h3] at h
        by_cases h4 : ((a4.length : Int) == 0) = true
        · rw [if_pos h4] at h
          rw [← Option.some.inj h]
          exact run_path Try.func53 (ob_b h1 (ob_b h2 (ob_b h2 (ob_b h2 (ob_b h2 (ob_b (rfl : true = true) (ob_b (rfl : true = true) (ob_b (rfl : true = true) (ob_b (rfl : true = true) (ob_b h3 (ob_b h3 (ob_b h3 (ob_v (len_ts GValue.ts_map (l := a4)) (ob_b h3 (ob_b h3 (ob_b h4 (ob_b h4 (ob_b h4 (ob_v (len_ts GValue.ts_map (l := a5)) (ob_b h4 (ob_b h4 ob))))))))))))))))))))) (by kernel_rfl)
        · rw [if_neg h4] at h
          replace h4 := Bool.eq_false_iff.2 h4
          rw [← Option.some.inj h]
          exact run_path Try.func53 (ob_b h1 (ob_b h2 (ob_b h2 (ob_b h2 (ob_b h2 (ob_b (rfl : true = true) (ob_b (rfl : true = true) (ob_b (rfl : true = true) (ob_b (rfl : true = true) (ob_b h3 (ob_b h3 (ob_b h3 (ob_v (len_ts GValue.ts_map (l := a4)) (ob_b h3 (ob_b h3 (ob_b h4 (ob_b h4 (ob_b h4 (ob_b h4 (ob_b h4 ob)))))))))))))))))))) (by kernel_rfl)
      · rw [if_neg h3] at h
        replace h3 := Bool.eq_false_iff.2 h3
        rw [← Option.some.inj h]
        exact run_path Try.func53 (ob_b h1 (ob_b h2 (ob_b h2 (ob_b h2 (ob_b h2 (ob_b (rfl : true = true) (ob_b (rfl : true = true) (ob_b (rfl : true = true) (ob_b (rfl : true = true) (ob_b h3 (ob_b h3 (ob_b h3 (ob_b h3 (ob_b h3 (ob_b (rfl : false = false) (ob_b (rfl : false = false) (ob_b (rfl : false = false) (ob_b (rfl : false = false) (ob_b (rfl : false = false) ob))))))))))))))))))) (by kernel_rfl)
    · rw [if_neg h2] at h
      replace h2 := Bool.eq_false_iff.2 h2
      by_cases h5 : (a2 == 1) = true
      · rw [if_pos h5] at h
        by_cases h6 : (a3.toList == (ByteArray.mk #[]).toList) = true
        · rw [if_pos h6] at h
          by_cases h7 : ((a4.length : Int) == 0) = true
          · rw [if_pos h7] at h
            rw [← Option.some.inj h]
            exact run_path Try.func53 (ob_b h1 (ob_b h2 (ob_b h2 (ob_b h2 (ob_b h2 (ob_b h5 (ob_b h5 (ob_b h5 (ob_b h5 (ob_b h6 (ob_b h6 (ob_b h6 (ob_v (len_ts GValue.ts_map (l := a4)) (ob_b h6 (ob_b h6 (ob_b h7 (ob_b h7 (ob_b h7 (ob_v (len_ts GValue.ts_map (l := a5)) (ob_b h7 (ob_b h7 ob))))))))))))))))))))) (by kernel_rfl)
          · rw [if_neg h7] at h
            replace h7 := Bool.eq_false_iff.2 h7
            rw [← Option.some.inj h]
            exact run_path Try.func53 (ob_b h1 (ob_b h2 (ob_b h2 (ob_b h2 (ob_b h2 (ob_b h5 (ob_b h5 (ob_b h5 (ob_b h5 (ob_b h6 (ob_b h6 (ob_b h6 (ob_v (len_ts GValue.ts_map (l := a4)) (ob_b h6 (ob_b h6 (ob_b h7 (ob_b h7 (ob_b h7 (ob_b h7 (ob_b h7 ob)))))))))))))))))))) (by kernel_rfl)
        · rw [if_neg h6] at h
          replace h6 := Bool.eq_false_iff.2 h6
          rw [← Option.some.inj h]
          exact run_path Try.func53 (ob_b h1 (ob_b h2 (ob_b h2 (ob_b h2 (ob_b h2 (ob_b h5 (ob_b h5 (ob_b h5 (ob_b h5 (ob_b h6 (ob_b h6 (ob_b h6 (ob_b h6 (ob_b h6 (ob_b (rfl : false = false) (ob_b (rfl : false = false) (ob_b (rfl : false = false) (ob_b (rfl : false = false) (ob_b (rfl : false = false) ob))))))))))))))))))) (by kernel_rfl)
      · rw [if_neg h5] at h
        replace h5 := Bool.eq_false_iff.2 h5
        rw [← Option.some.inj h]
        exact run_path Try.func53 (ob_b h1 (ob_b h2 (ob_b h2 (ob_b h2 (ob_b h2 (ob_b h5 (ob_b h5 (ob_b h5 (ob_b h5 (ob_b (rfl : false = false) (ob_b (rfl : false = false) (ob_b (rfl : false = false) (ob_b (rfl : false = false) (ob_b (rfl : false = false) (ob_b (rfl : false = false) (ob_b (rfl : false = false) (ob_b (rfl : false = false) (ob_b (rfl : false = false) (ob_b (rfl : false = false) ob))))))))))))))))))) (by kernel_rfl)
  · rw [if_neg h1] at h
    replace h1 := Bool.eq_false_iff.2 h1
    by_cases h8 : (a1 == 2) = true
    · rw [if_pos h8] at h
      by_cases h9 : (a3.toList == (ByteArray.mk #[]).toList) = true
      · rw [if_pos h9] at h
        by_cases h10 : ((a4.length : Int) == 0) = true
        · rw [if_pos h10] at h
          rw [← Option.some.inj h]
          exact run_path Try.func53 (ob_b h1 (ob_b h8 (ob_b h9 (ob_b h9 (ob_b h9 (ob_v (len_ts GValue.ts_map (l := a4)) (ob_b h9 (ob_b h9 (ob_b h10 (ob_b h10 (ob_b h10 (ob_v (len_ts GValue.ts_map (l := a5)) (ob_b h10 (ob_b h10 ob)))))))))))))) (by kernel_rfl)
        · rw [if_neg h10] at h
          replace h10 := Bool.eq_false_iff.2 h10
          rw [← Option.some.inj h]
          exact run_path Try.func53 (ob_b h1 (ob_b h8 (ob_b h9 (ob_b h9 (ob_b h9 (ob_v (len_ts GValue.ts_map (l := a4)) (ob_b h9 (ob_b h9 (ob_b h10 (ob_b h10 (ob_b h10 (ob_b h10 (ob_b h10 ob))))))))))))) (by kernel_rfl)
      · rw [if_neg h9] at h
        replace h9 := Bool.eq_false_iff.2 h9
        rw [← Option.some.inj h]
        exact run_path Try.func53 (ob_b h1 (ob_b h8 (ob_b h9 (ob_b h9 (ob_b h9 (ob_b h9 (ob_b h9 (ob_b (rfl : false = false) (ob_b (rfl : false = false) (ob_b (rfl : false = false) (ob_b (rfl : false = false) (ob_b (rfl : false = false) ob)))))))))))) (by kernel_rfl)
    · rw [if_neg h8] at h
      replace h8 := Bool.eq_false_iff.2 h8
      by_cases h11 : (a1 == 3) = true
      · rw [if_pos h11] at h
        by_cases h12 : (a2 == 0) = true
        · rw [if_pos h12] at h
          by_cases h13 : (decide ((a3.size : Int) ≤ 1000)) = true
          · rw [if_pos h13] at h
            by_cases h14 : ((a4.length : Int) == 0) = true
            · rw [if_pos h14] at h
              rw [← Option.some.inj h]
              exact run_path Try.func53 (ob_b h1 (ob_b h8 (ob_b h11 (ob_b h12 (ob_b h12 (ob_b h12 (ob_b h12 (ob_b h12 (ob_b h13 (ob_b h13 (ob_b h13 (ob_v (len_ts GValue.ts_map (l := a4)) (ob_b h13 (ob_b h13 (ob_b h14 (ob_b h14 (ob_b h14 (ob_v (len_ts GValue.ts_map (l := a5)) (ob_b h14 (ob_b h14 ob)))))))))))))))))))) (by kernel_rfl)
            · rw [if_neg h14] at h
              replace h14 := Bool.eq_false_iff.2 h14
              rw [← Option.some.inj h]
              exact run_path Try.func53 (ob_b h1 (ob_b h8 (ob_b h11 (ob_b h12 (ob_b h12 (ob_b h12 (ob_b h12 (ob_b h12 (ob_b h13 (ob_b h13 (ob_b h13 (ob_v (len_ts GValue.ts_map (l := a4)) (ob_b h13 (ob_b h13 (ob_b h14 (ob_b h14 (ob_b h14 (ob_b h14 (ob_b h14 ob))))))))))))))))))) (by kernel_rfl)
          · rw [if_neg h13] at h
            replace h13 := Bool.eq_false_iff.2 h13
            rw [← Option.some.inj h]
            exact run_path Try.func53 (ob_b h1 (ob_b h8 (ob_b h11 (ob_b h12 (ob_b h12 (ob_b h12 (ob_b h12 (ob_b h12 (ob_b h13 (ob_b h13 (ob_b h13 (ob_b h13 (ob_b h13 (ob_b (rfl : false = false) (ob_b (rfl : false = false) (ob_b (rfl : false = false) (ob_b (rfl : false = false) (ob_b (rfl : false = false) ob)))))))))))))))))) (by kernel_rfl)
        · rw [if_neg h12] at h
          replace h12 := Bool.eq_false_iff.2 h12
          rw [← Option.some.inj h]
          exact run_path Try.func53 (ob_b h1 (ob_b h8 (ob_b h11 (ob_b h12 (ob_b h12 (ob_b h12 (ob_b h12 (ob_b h12 (ob_b (rfl : false = false) (ob_b (rfl : false = false) (ob_b (rfl : false = false) (ob_b (rfl : false = false) (ob_b (rfl : false = false) (ob_b (rfl : false = false) (ob_b (rfl : false = false) (ob_b (rfl : false = false) (ob_b (rfl : false = false) (ob_b (rfl : false = false) ob)))))))))))))))))) (by kernel_rfl)
      · rw [if_neg h11] at h
        replace h11 := Bool.eq_false_iff.2 h11
        by_cases h15 : (a1 == 4) = true
        · rw [if_pos h15] at h
          rcases h16 : ref02_fields_j1 t n  a1 (a1 == 4) a1 a2 a3 a4 a5 with _ | q_
          · rw [h16] at h; cases h
          rw [h16] at h
          rcases q_ with a6 | _
          · dsimp only at h
            rw [← Option.some.inj h]
            exact run_path Try.func53 (ob_b h1 (ob_b h8 (ob_b h11 (ob_b h15 (ob_j (ref02_fields_j1.ok ht n _ _ _ _ _ _ _ _ h16) ob))))) (by kernel_rfl)
          · dsimp only at h
            rw [← Option.some.inj h]
            exact run_path Try.func53 (ob_b h1 (ob_b h8 (ob_b h11 (ob_b h15 (ob_j (ref02_fields_j1.ok ht n _ _ _ _ _ _ _ _ h16) ob))))) (by kernel_rfl)
        · rw [if_neg h15] at h
          replace h15 := Bool.eq_false_iff.2 h15
          rcases h17 : ref02_fields_j1 t n  a1 (a1 == 5) a1 a2 a3 a4 a5 with _ | q_
          · rw [h17] at h; cases h
          rw [h17] at h
          rcases q_ with a7 | _
          · dsimp only at h
            rw [← Option.some.inj h]
            exact run_path Try.func53 (ob_b h1 (ob_b h8 (ob_b h11 (ob_b h15 (ob_j (ref02_fields_j1.ok ht n _ _ _ _ _ _ _ _ h17) ob))))) (by kernel_rfl)
          · dsimp only at h
            rw [← Option.some.inj h]
            exact run_path Try.func53 (ob_b h1 (ob_b h8 (ob_b h11 (ob_b h15 (ob_j (ref02_fields_j1.ok ht n _ _ _ _ _ _ _ _ h17) ob))))) (by kernel_rfl)
theorem ref02_sign.ok {n : Nat} {t : Tab} (ht : TabOk t (run Try.prog own kp X n)) : ∀ (p1 : Int) (p2 : Int) r, ref02_sign t n p1 p2 = some r → run Try.prog own kp X (n + 1) 54 [(.t (.v (.int .i64 p1))), (.t (.v (.int .i64 p2)))] [] = some ((.t (.v (.int .i64 r))), []) := by
  intro p1 p2 r h
  obtain ⟨a1, rfl⟩ : ∃ z_, z_ = p1 := ⟨_, rfl⟩
  obtain ⟨a2, rfl⟩ : ∃ z_, z_ = p2 := ⟨_, rfl⟩
  rw [ref02_sign] at h
  by_cases h1 : (decide (a1 < a2)) = true
  · rw [if_pos h1] at h
    rw [← Option.some.inj h]
    exact run_path Try.func54 (ob_b h1 ob) (by kernel_rfl)
  · rw [if_neg h1] at h
    replace h1 := Bool.eq_false_iff.2 h1
    by_cases h2 : (decide (a1 > a2)) = true
    · rw [if_pos h2] at h
      rw [← Option.some.inj h]
      exact run_path Try.func54 (ob_b h1 (ob_b h2 ob)) (by kernel_rfl)
    · rw [if_neg h2] at h
      replace h2 := Bool.eq_false_iff.2 h2
      rw [← Option.some.inj h]
      exact run_path Try.func54 (ob_b h1 (ob_b h2 ob)) (by kernel_rfl)
theorem ref02_texts_j2.ok {t : Tab} {call : FuncId → List AV → List AV → Option (AV × List AV)} (ht : TabOk t call) (n : Nat) (a1 : ByteArray) (a2 : ByteArray) (a3 : Int) (r : Int ⊕ (ByteArray × ByteArray × Int)) (h : ref02_texts_j2 t n a1 a2 a3 = some r) : exec (env Try.prog 55 Try.f55 call) n (sub [1, 0, 1, 0, 0, 1] (bodyOf Try.f55)) (mkSt 39 39 [(0, (.t (.v (.string a1)))), (1, (.t (.v (.string a2)))), (5, (.t (.v (.int .i64 a3))))] []) = some (ref02_texts_j2.to r) := by
  rw [ref02_texts_j2] at h
  rcases h1 : strAt a1 a3 with _ | a4
  · rw [h1] at h; cases h
  rw [h1] at h
  dsimp only at h
  rcases h2 : strAt a2 a3 with _ | a5
  · rw [h2] at h; cases h
  rw [h2] at h
  dsimp only at h
  by_cases h3 : (a4 != a5) = true
  · rw [if_pos h3] at h
    rcases h4 : t.ref02_sign (IntKind.wrap .i64 a4) (IntKind.wrap .i64 a5) with _ | a6
    · rw [h4] at h; cases h
    rw [h4] at h
    dsimp only at h
    rw [← Option.some.inj h]
    exact path (ob_v (at_ok (P := Try.prog) (t := 9) (k := .i64) (by kernel_rfl) h1) (ob_v (at_ok (P := Try.prog) (t := 9) (k := .i64) (by kernel_rfl) h2) (ob_b h3 (ob_v (at_ok (P := Try.prog) (t := 9) (k := .i64) (by kernel_rfl) h1) (ob_v (at_ok (P := Try.prog) (t := 9) (k := .i64) (by kernel_rfl) h2) (ob_c (ht.ref02_sign _ _ _ h4) ob)))))) (by kernel_rfl)
  · rw [if_neg h3] at h
    replace h3 := Bool.eq_false_iff.2 h3
    rw [← Option.some.inj h]
    exact path (ob_v (at_ok (P := Try.prog) (t := 9) (k := .i64) (by kernel_rfl) h1) (ob_v (at_ok (P := Try.prog) (t := 9) (k := .i64) (by kernel_rfl) h2) (ob_b h3 ob))) (by kernel_rfl)
theorem ref02_texts_l1.okL {t : Tab} {call : FuncId → List AV → List AV → Option (AV × List AV)} (ht : TabOk t call) (n : Nat) : ∀ (k : Nat) (a1 : ByteArray) (a2 : ByteArray) (a3 : Int) (r : Int ⊕ (ByteArray × ByteArray × Int × Bool)), ref02_texts_l1 t n k a1 a2 a3 = some r → loopN (exec (env Try.prog 55 Try.f55 call) n (sub [1, 0, 1, 0, 0] (bodyOf Try.f55))) k (mkSt 39 39 [(0, (.t (.v (.string a1)))), (1, (.t (.v (.string a2)))), (5, (.t (.v (.int .i64 a3))))] []) = some (ref02_texts_l1.to r)
  | 0, a1, a2, a3, r, h => by rw [ref02_texts_l1] at h; cases h
  | k + 1, a1, a2, a3, r, h => by
    rw [ref02_texts_l1] at h
    by_cases h1 : (decide (a3 < (a1.size : Int))) = true
    · rw [if_pos h1] at h
      by_cases h2 : (decide (a3 < (a2.size : Int))) = true
      · rw [if_pos h2] at h
        rcases h3 : ref02_texts_j2 t n  a1 a2 a3 with _ | q_
        · rw [h3] at h; cases h
        rw [h3] at h
        rcases q_ with a4 | ⟨a5, a6, a7⟩
        · dsimp only at h
          rw [← Option.some.inj h]
          exact loop_out (path (ob_b h1 (ob_b h1 (ob_b h1 (ob_b h1 (ob_b h1 (ob_b h2 (ob_j (ref02_texts_j2.ok ht n _ _ _ _ h3) ob))))))) (by kernel_rfl)) (fun h => by cases h)
        · dsimp only at h
          exact loop_more (path (ob_b h1 (ob_b h1 (ob_b h1 (ob_b h1 (ob_b h1 (ob_b h2 (ob_j (ref02_texts_j2.ok ht n _ _ _ _ h3) ob))))))) (by kernel_rfl)) (ref02_texts_l1.okL ht n k _ _ _ _ h)
      · rw [if_neg h2] at h
        replace h2 := Bool.eq_false_iff.2 h2
        rw [← Option.some.inj h]
        exact loop_out (path (ob_b h1 (ob_b h1 (ob_b h1 (ob_b h1 (ob_b h1 (ob_b h2 ob)))))) (by kernel_rfl)) (fun h => by cases h)
    · rw [if_neg h1] at h
      replace h1 := Bool.eq_false_iff.2 h1
      rw [← Option.some.inj h]
      exact loop_out (path (ob_b h1 (ob_b h1 (ob_b h1 (ob_b h1 (ob_b h1 (ob_b (rfl : false = false) ob)))))) (by kernel_rfl)) (fun h => by cases h)
theorem ref02_texts_l1.ok {t : Tab} {call : FuncId → List AV → List AV → Option (AV × List AV)} (ht : TabOk t call) (n : Nat) (a1 : ByteArray) (a2 : ByteArray) (a3 : Int) (r : Int ⊕ (ByteArray × ByteArray × Int × Bool)) (h : ref02_texts_l1 t n n a1 a2 a3 = some r) : exec (env Try.prog 55 Try.f55 call) n (sub [1, 0, 1, 0] (bodyOf Try.f55)) (mkSt 39 39 [(0, (.t (.v (.string a1)))), (1, (.t (.v (.string a2)))), (5, (.t (.v (.int .i64 a3))))] []) = some (ref02_texts_l1.to r) := by
  have e1 : sub [1, 0, 1, 0] (bodyOf Try.f55) = .loop (sub [1, 0, 1, 0, 0] (bodyOf Try.f55)) := by kernel_rfl
  rw [e1, exec]
  exact ref02_texts_l1.okL ht n n a1 a2 a3 r h
theorem ref02_texts_j3.ok {t : Tab} {call : FuncId → List AV → List AV → Option (AV × List AV)} (ht : TabOk t call) (n : Nat) (a1 : ByteArray) (a2 : ByteArray) (r : Int) (h : ref02_texts_j3 t n a1 a2 = some r) : exec (env Try.prog 55 Try.f55 call) n (sub [1, 1] (bodyOf Try.f55)) (mkSt 39 39 [(0, (.t (.v (.string a1)))), (1, (.t (.v (.string a2))))] []) = some (ref02_texts_j3.to r) := by
  rw [ref02_texts_j3] at h
  obtain ⟨a3, rfl⟩ : ∃ z_, z_ = r := ⟨_, rfl⟩
  have h1 := h
  exact path (ob_c (ht.ref02_sign _ _ _ h1) ob) (by kernel_rfl)
theorem ref02_texts.ok {n : Nat} {t : Tab} (ht : TabOk t (run Try.prog own kp X n)) : ∀ (p1 : ByteArray) (p2 : ByteArray) r, ref02_texts t n p1 p2 = some r → run Try.prog own kp X (n + 1) 55 [(.t (.v (.string p1))), (.t (.v (.string p2)))] [] = some ((.t (.v (.int .i64 r))), []) := by
  intro p1 p2 r h
  obtain ⟨a1, rfl⟩ : ∃ z_, z_ = p1 := ⟨_, rfl⟩
  obtain ⟨a2, rfl⟩ : ∃ z_, z_ = p2 := ⟨_, rfl⟩
  rw [ref02_texts] at h
  rcases h1 : ref02_texts_l1 t n n a1 a2 0 with _ | q_
  · rw [h1] at h; cases h
  rw [h1] at h
  rcases q_ with a3 | ⟨a4, a5, a6, a7⟩
  · dsimp only at h
    rw [← Option.some.inj h]
    exact run_path Try.func55 (ob_k (ref02_texts_l1.ok ht n _ _ _ _ h1) ob) (by kernel_rfl)
  · dsimp only at h
    obtain ⟨a8, rfl⟩ : ∃ z_, z_ = r := ⟨_, rfl⟩
    have h2 := h
    exact run_path Try.func55 (ob_k (ref02_texts_l1.ok ht n _ _ _ _ h1) (ob_j (ref02_texts_j3.ok ht n _ _ _ h2) ob)) (by kernel_rfl)
theorem ref02_rows_j2.ok {t : Tab} {call : FuncId → List AV → List AV → Option (AV × List AV)} (ht : TabOk t call) (n : Nat) (a1 : List GValue) (a2 : List GValue) (a3 : Int) (a4 : Int) (r : Int ⊕ ((List GValue) × (List GValue) × Int × Int)) (h : ref02_rows_j2 t n a1 a2 a3 a4 = some r) : exec (env Try.prog 56 Try.f56 call) n (sub [1, 0, 1, 0, 0, 1] (bodyOf Try.f56)) (mkSt 39 39 [(0, (.t (.sl false 5 (GValue.ts a1)))), (1, (.t (.sl false 5 (GValue.ts a2)))), (2, (.t (.v (.int .i64 a3)))), (7, (.t (.v (.int .i64 a4))))] []) = some (ref02_rows_j2.to r) := by
  rw [ref02_rows_j2] at h
  by_cases h1 : (decide (0 ≤ (a4 : Int))) = true
  case neg => rw [if_neg h1] at h; cases h
  rw [if_pos h1] at h
  rcases h2 : a1[(a4 : Int).toNat]? with _ | ⟨a5, a6, a7, a8, a9⟩
  · rw [h2] at h; cases h
  rw [h2] at h
  dsimp only at h
  rcases h3 : a2[(a4 : Int).toNat]? with _ | ⟨a10, a11, a12, a13, a14⟩
  · rw [h3] at h; cases h
  rw [h3] at h
  dsimp only at h
  rcases h4 : t.ref02_compare (GValue.mk a5 a6 a7 a8 a9) (GValue.mk a10 a11 a12 a13 a14) a3 with _ | a15
  · rw [h4] at h; cases h
  rw [h4] at h
  dsimp only at h
  by_cases h5 : (a15 != 0) = true
  · rw [if_pos h5] at h
    rw [← Option.some.inj h]
    exact path (ob_n h1 (ob_t (look_ts GValue.ts_map h2) (ob_n h1 (ob_t (look_ts GValue.ts_map h3) (ob_c (ht.ref02_compare _ _ _ _ h4) (ob_b h5 ob)))))) (by kernel_rfl)
  · rw [if_neg h5] at h
    replace h5 := Bool.eq_false_iff.2 h5
    rw [← Option.some.inj h]
    exact path (ob_n h1 (ob_t (look_ts GValue.ts_map h2) (ob_n h1 (ob_t (look_ts GValue.ts_map h3) (ob_c (ht.ref02_compare _ _ _ _ h4) (ob_b h5 ob)))))) (by kernel_rfl)
theorem ref02_rows_l1.okL {t : Tab} {call : FuncId → List AV → List AV → Option (AV × List AV)} (ht : TabOk t call) (n : Nat) : ∀ (k : Nat) (a1 : List GValue) (a2 : List GValue) (a3 : Int) (a4 : Int) (r : Int ⊕ ((List GValue) × (List GValue) × Int × Int × Bool)), ref02_rows_l1 t n k a1 a2 a3 a4 = some r → loopN (exec (env Try.prog 56 Try.f56 call) n (sub [1, 0, 1, 0, 0] (bodyOf Try.f56))) k (mkSt 39 39 [(0, (.t (.sl false 5 (GValue.ts a1)))), (1, (.t (.sl false 5 (GValue.ts a2)))), (2, (.t (.v (.int .i64 a3)))), (7, (.t (.v (.int .i64 a4))))] []) = some (ref02_rows_l1.to r)
  | 0, a1, a2, a3, a4, r, h => by rw [ref02_rows_l1] at h; cases h
  | k + 1, a1, a2, a3, a4, r, h => by
    rw [ref02_rows_l1] at h
    by_cases h1 : (decide (a4 < (a1.length : Int))) = true
    · rw [if_pos h1] at h
      by_cases h2 : (decide (a4 < (a2.length : Int))) = true
      · rw [if_pos h2] at h
        rcases h3 : ref02_rows_j2 t n  a1 a2 a3 a4 with _ | q_
        · rw [h3] at h; cases h
        rw [h3] at h
        rcases q_ with a5 | ⟨a6, a7, a8, a9⟩
        · dsimp only at h
          rw [← Option.some.inj h]
          exact loop_out (path (ob_v (len_ts GValue.ts_map (l := a1)) (ob_b h1 (ob_b h1 (ob_b h1 (ob_v (len_ts GValue.ts_map (l := a2)) (ob_b h1 (ob_b h1 (ob_b h2 (ob_j (ref02_rows_j2.ok ht n _ _ _ _ _ h3) ob))))))))) (by kernel_rfl)) (fun h => by cases h)
        · dsimp only at h
          exact loop_more (path (ob_v (len_ts GValue.ts_map (l := a1)) (ob_b h1 (ob_b h1 (ob_b h1 (ob_v (len_ts GValue.ts_map (l := a2)) (ob_b h1 (ob_b h1 (ob_b h2 (ob_j (ref02_rows_j2.ok ht n _ _ _ _ _ h3) ob))))))))) (by kernel_rfl)) (ref02_rows_l1.okL ht n k _ _ _ _ _ h)
      · rw [if_neg h2] at h
        replace h2 := Bool.eq_false_iff.2 h2
        rw [← Option.some.inj h]
        exact loop_out (path (ob_v (len_ts GValue.ts_map (l := a1)) (ob_b h1 (ob_b h1 (ob_b h1 (ob_v (len_ts GValue.ts_map (l := a2)) (ob_b h1 (ob_b h1 (ob_b h2 ob)))))))) (by kernel_rfl)) (fun h => by cases h)
    · rw [if_neg h1] at h
      replace h1 := Bool.eq_false_iff.2 h1
      rw [← Option.some.inj h]
      exact loop_out (path (ob_v (len_ts GValue.ts_map (l := a1)) (ob_b h1 (ob_b h1 (ob_b h1 (ob_b h1 (ob_b h1 (ob_b (rfl : false = false) ob))))))) (by kernel_rfl)) (fun h => by cases h)
theorem ref02_rows_l1.ok {t : Tab} {call : FuncId → List AV → List AV → Option (AV × List AV)} (ht : TabOk t call) (n : Nat) (a1 : List GValue) (a2 : List GValue) (a3 : Int) (a4 : Int) (r : Int ⊕ ((List GValue) × (List GValue) × Int × Int × Bool)) (h : ref02_rows_l1 t n n a1 a2 a3 a4 = some r) : exec (env Try.prog 56 Try.f56 call) n (sub [1, 0, 1, 0] (bodyOf Try.f56)) (mkSt 39 39 [(0, (.t (.sl false 5 (GValue.ts a1)))), (1, (.t (.sl false 5 (GValue.ts a2)))), (2, (.t (.v (.int .i64 a3)))), (7, (.t (.v (.int .i64 a4))))] []) = some (ref02_rows_l1.to r) := by
  have e1 : sub [1, 0, 1, 0] (bodyOf Try.f56) = .loop (sub [1, 0, 1, 0, 0] (bodyOf Try.f56)) := by kernel_rfl
  rw [e1, exec]
  exact ref02_rows_l1.okL ht n n a1 a2 a3 a4 r h
theorem ref02_rows_j3.ok {t : Tab} {call : FuncId → List AV → List AV → Option (AV × List AV)} (ht : TabOk t call) (n : Nat) (a1 : List GValue) (a2 : List GValue) (r : Int) (h : ref02_rows_j3 t n a1 a2 = some r) : exec (env Try.prog 56 Try.f56 call) n (sub [1, 1] (bodyOf Try.f56)) (mkSt 39 39 [(0, (.t (.sl false 5 (GValue.ts a1)))), (1, (.t (.sl false 5 (GValue.ts a2))))] []) = some (ref02_rows_j3.to r) := by
  rw [ref02_rows_j3] at h
  obtain ⟨a3, rfl⟩ : ∃ z_, z_ = r := ⟨_, rfl⟩
  have h1 := h
  exact path (ob_v (len_ts GValue.ts_map (l := a1)) (ob_v (len_ts GValue.ts_map (l := a2)) (ob_c (ht.ref02_sign _ _ _ h1) ob))) (by kernel_rfl)
theorem ref02_rows.ok {n : Nat} {t : Tab} (ht : TabOk t (run Try.prog own kp X n)) : ∀ (p1 : List GValue) (p2 : List GValue) (p3 : Int) r, ref02_rows t n p1 p2 p3 = some r → run Try.prog own kp X (n + 1) 56 [(.t (.sl false 5 (GValue.ts p1))), (.t (.sl false 5 (GValue.ts p2))), (.t (.v (.int .i64 p3)))] [] = some ((.t (.v (.int .i64 r))), []) := by
  intro p1 p2 p3 r h
  obtain ⟨a1, rfl⟩ : ∃ z_, z_ = p1 := ⟨_, rfl⟩
  obtain ⟨a2, rfl⟩ : ∃ z_, z_ = p2 := ⟨_, rfl⟩
  obtain ⟨a3, rfl⟩ : ∃ z_, z_ = p3 := ⟨_, rfl⟩
  rw [ref02_rows] at h
  rcases h1 : ref02_rows_l1 t n n a1 a2 a3 0 with _ | q_
  · rw [h1] at h; cases h
  rw [h1] at h
  rcases q_ with a4 | ⟨a5, a6, a7, a8, a9⟩
  · dsimp only at h
    rw [← Option.some.inj h]
    exact run_path Try.func56 (ob_k (ref02_rows_l1.ok ht n _ _ _ _ _ h1) ob) (by kernel_rfl)
  · dsimp only at h
    obtain ⟨a10, rfl⟩ : ∃ z_, z_ = r := ⟨_, rfl⟩
    have h2 := h
    exact run_path Try.func56 (ob_k (ref02_rows_l1.ok ht n _ _ _ _ _ h1) (ob_j (ref02_rows_j3.ok ht n _ _ _ h2) ob)) (by kernel_rfl)
theorem slices_IndexFunc_pred_right_1_l1.okL {t : Tab} {call : FuncId → List AV → List AV → Option (AV × List AV)} (ht : TabOk t call) (n : Nat) : ∀ (k : Nat) (a1 : List GPred) (a2 : Int) (a3 : Int) (a4 : Int) (r : Int ⊕ ((List GPred) × Int × Int × Int × Bool)), slices_IndexFunc_pred_right_1_l1 t n k a1 a2 a3 a4 = some r → loopN (exec (env Try.prog 58 Try.f58 call) n (sub [1, 0, 1, 0, 0] (bodyOf Try.f58))) k (mkSt 19 19 [(0, (.t (.sl false 3 (GPred.ts a1)))), (1, (.fn 39 [(.ref (.v (.int .i64 a2)))])), (7, (.t (.v (.int .i64 a3)))), (8, (.t (.v (.int .i64 a4))))] []) = some (slices_IndexFunc_pred_right_1_l1.to r)
  | 0, a1, a2, a3, a4, r, h => by rw [slices_IndexFunc_pred_right_1_l1] at h; cases h
  | k + 1, a1, a2, a3, a4, r, h => by
    rw [slices_IndexFunc_pred_right_1_l1] at h
    by_cases h1 : (decide (a4 < a3)) = true
    · rw [if_pos h1] at h
      by_cases h2 : (decide (0 ≤ (a4 : Int))) = true
      case neg => rw [if_neg h2] at h; cases h
      rw [if_pos h2] at h
      rcases h3 : a1[(a4 : Int).toNat]? with _ | ⟨a5, a6, a7⟩
      · rw [h3] at h; cases h
      rw [h3] at h
      dsimp only at h
      rcases h4 : t.pred_right_1 (GPred.mk a5 a6 a7) a2 with _ | a8
      · rw [h4] at h; cases h
      rw [h4] at h
      dsimp only at h
      by_cases h5 : a8 = true
      · rw [if_pos h5] at h
        rw [← Option.some.inj h]
        exact loop_out (path (ob_b h1 (ob_n h2 (ob_t (look_ts GPred.ts_map h3) (ob_c (ht.pred_right_1 _ _ _ h4) (ob_b h5 ob))))) (by kernel_rfl)) (fun h => by cases h)
      · rw [if_neg h5] at h
        replace h5 := Bool.eq_false_iff.2 h5
        exact loop_more (path (ob_b h1 (ob_n h2 (ob_t (look_ts GPred.ts_map h3) (ob_c (ht.pred_right_1 _ _ _ h4) (ob_b h5 ob))))) (by kernel_rfl)) (slices_IndexFunc_pred_right_1_l1.okL ht n k _ _ _ _ _ h)
    · rw [if_neg h1] at h
      replace h1 := Bool.eq_false_iff.2 h1
      rw [← Option.some.inj h]
      exact loop_out (path (ob_b h1 ob) (by kernel_rfl)) (fun h => by cases h)
theorem slices_IndexFunc_pred_right_1_l1.ok {t : Tab} {call : FuncId → List AV → List AV → Option (AV × List AV)} (ht : TabOk t call) (n : Nat) (a1 : List GPred) (a2 : Int) (a3 : Int) (a4 : Int) (r : Int ⊕ ((List GPred) × Int × Int × Int × Bool)) (h : slices_IndexFunc_pred_right_1_l1 t n n a1 a2 a3 a4 = some r) : exec (env Try.prog 58 Try.f58 call) n (sub [1, 0, 1, 0] (bodyOf Try.f58)) (mkSt 19 19 [(0, (.t (.sl false 3 (GPred.ts a1)))), (1, (.fn 39 [(.ref (.v (.int .i64 a2)))])), (7, (.t (.v (.int .i64 a3)))), (8, (.t (.v (.int .i64 a4))))] []) = some (slices_IndexFunc_pred_right_1_l1.to r) := by
  have e1 : sub [1, 0, 1, 0] (bodyOf Try.f58) = .loop (sub [1, 0, 1, 0, 0] (bodyOf Try.f58)) := by kernel_rfl
  rw [e1, exec]
  exact slices_IndexFunc_pred_right_1_l1.okL ht n n a1 a2 a3 a4 r h
theorem slices_IndexFunc_pred_right_1.ok {n : Nat} {t : Tab} (ht : TabOk t (run Try.prog own kp X n)) : ∀ (p1 : List GPred) (p2 : Int) r, slices_IndexFunc_pred_right_1 t n p1 p2 = some r → run Try.prog own kp X (n + 1) 58 [(.t (.sl false 3 (GPred.ts p1))), (.fn 39 [(.ref (.v (.int .i64 p2)))])] [] = some ((.t (.v (.int .i64 r))), []) := by
  intro p1 p2 r h
  obtain ⟨a1, rfl⟩ : ∃ z_, z_ = p1 := ⟨_, rfl⟩
  obtain ⟨a2, rfl⟩ : ∃ z_, z_ = p2 := ⟨_, rfl⟩
  rw [slices_IndexFunc_pred_right_1] at h
  rcases h1 : slices_IndexFunc_pred_right_1_l1 t n n a1 a2 (a1.length : Int) 0 with _ | q_
  · rw [h1] at h; cases h
  rw [h1] at h
  rcases q_ with a3 | ⟨a4, a5, a6, a7, a8⟩
  · dsimp only at h
    rw [← Option.some.inj h]
    exact run_path Try.func58 (ob_v (len_ts GPred.ts_map (l := a1)) (ob_k (slices_IndexFunc_pred_right_1_l1.ok ht n _ _ _ _ _ h1) ob)) (by kernel_rfl)
  · dsimp only at h
    rw [← Option.some.inj h]
    exact run_path Try.func58 (ob_v (len_ts GPred.ts_map (l := a1)) (ob_k (slices_IndexFunc_pred_right_1_l1.ok ht n _ _ _ _ _ h1) ob)) (by kernel_rfl)
theorem slices_IndexFunc_pred_right_2_l1.okL {t : Tab} {call : FuncId → List AV → List AV → Option (AV × List AV)} (ht : TabOk t call) (n : Nat) : ∀ (k : Nat) (a1 : List GValue) (a2 : Int) (a3 : Int) (r : Int ⊕ ((List GValue) × Int × Int × Bool)), slices_IndexFunc_pred_right_2_l1 t n k a1 a2 a3 = some r → loopN (exec (env Try.prog 59 Try.f59 call) n (sub [1, 0, 1, 0, 0] (bodyOf Try.f59))) k (mkSt 19 19 [(0, (.t (.sl false 5 (GValue.ts a1)))), (1, (.fn 40 [])), (7, (.t (.v (.int .i64 a2)))), (8, (.t (.v (.int .i64 a3))))] []) = some (slices_IndexFunc_pred_right_2_l1.to r)
  | 0, a1, a2, a3, r, h => by rw [slices_IndexFunc_pred_right_2_l1] at h; cases h
  | k + 1, a1, a2, a3, r, h => by
    rw [slices_IndexFunc_pred_right_2_l1] at h
    by_cases h1 : (decide (a3 < a2)) = true
    · rw [if_pos h1] at h
      by_cases h2 : (decide (0 ≤ (a3 : Int))) = true
      case neg => rw [if_neg h2] at h; cases h
      rw [if_pos h2] at h
      rcases h3 : a1[(a3 : Int).toNat]? with _ | ⟨a4, a5, a6, a7, a8⟩
      · rw [h3] at h; cases h
      rw [h3] at h
      dsimp only at h
      rcases h4 : t.pred_right_2 (GValue.mk a4 a5 a6 a7 a8) with _ | a9
      · rw [h4] at h; cases h
      rw [h4] at h
      dsimp only at h
      by_cases h5 : a9 = true
      · rw [if_pos h5] at h
        rw [← Option.some.inj h]
        exact loop_out (path (ob_b h1 (ob_n h2 (ob_t (look_ts GValue.ts_map h3) (ob_c (ht.pred_right_2 _ _ h4) (ob_b h5 ob))))) (by kernel_rfl)) (fun h => by cases h)
      · rw [if_neg h5] at h
        replace h5 := Bool.eq_false_iff.2 h5
        exact loop_more (path (ob_b h1 (ob_n h2 (ob_t (look_ts GValue.ts_map h3) (ob_c (ht.pred_right_2 _ _ h4) (ob_b h5 ob))))) (by kernel_rfl)) (slices_IndexFunc_pred_right_2_l1.okL ht n k _ _ _ _ h)
    · rw [if_neg h1] at h
      replace h1 := Bool.eq_false_iff.2 h1
      rw [← Option.some.inj h]
      exact loop_out (path (ob_b h1 ob) (by kernel_rfl)) (fun h => by cases h)
theorem slices_IndexFunc_pred_right_2_l1.ok {t : Tab} {call : FuncId → List AV → List AV → Option (AV × List AV)} (ht : TabOk t call) (n : Nat) (a1 : List GValue) (a2 : Int) (a3 : Int) (r : Int ⊕ ((List GValue) × Int × Int × Bool)) (h : slices_IndexFunc_pred_right_2_l1 t n n a1 a2 a3 = some r) : exec (env Try.prog 59 Try.f59 call) n (sub [1, 0, 1, 0] (bodyOf Try.f59)) (mkSt 19 19 [(0, (.t (.sl false 5 (GValue.ts a1)))), (1, (.fn 40 [])), (7, (.t (.v (.int .i64 a2)))), (8, (.t (.v (.int .i64 a3))))] []) = some (slices_IndexFunc_pred_right_2_l1.to r) := by
  have e1 : sub [1, 0, 1, 0] (bodyOf Try.f59) = .loop (sub [1, 0, 1, 0, 0] (bodyOf Try.f59)) := by kernel_rfl
  rw [e1, exec]
  exact slices_IndexFunc_pred_right_2_l1.okL ht n n a1 a2 a3 r h
theorem slices_IndexFunc_pred_right_2.ok {n : Nat} {t : Tab} (ht : TabOk t (run Try.prog own kp X n)) : ∀ (p1 : List GValue) r, slices_IndexFunc_pred_right_2 t n p1 = some r → run Try.prog own kp X (n + 1) 59 [(.t (.sl false 5 (GValue.ts p1))), (.fn 40 [])] [] = some ((.t (.v (.int .i64 r))), []) := by
  intro p1 r h
  obtain ⟨a1, rfl⟩ : ∃ z_, z_ = p1 := ⟨_, rfl⟩
  rw [slices_IndexFunc_pred_right_2] at h
  rcases h1 : slices_IndexFunc_pred_right_2_l1 t n n a1 (a1.length : Int) 0 with _ | q_
  · rw [h1] at h; cases h
  rw [h1] at h
  rcases q_ with a2 | ⟨a3, a4, a5, a6⟩
  · dsimp only at h
    rw [← Option.some.inj h]
    exact run_path Try.func59 (ob_v (len_ts GValue.ts_map (l := a1)) (ob_k (slices_IndexFunc_pred_right_2_l1.ok ht n _ _ _ _ h1) ob)) (by kernel_rfl)
  · dsimp only at h
    rw [← Option.some.inj h]
    exact run_path Try.func59 (ob_v (len_ts GValue.ts_map (l := a1)) (ob_k (slices_IndexFunc_pred_right_2_l1.ok ht n _ _ _ _ h1) ob)) (by kernel_rfl)
theorem slices_IndexFunc_pred_test_3_l1.okL {t : Tab} {call : FuncId → List AV → List AV → Option (AV × List AV)} (ht : TabOk t call) (n : Nat) : ∀ (k : Nat) (a1 : List GValue) (a2 : Int) (a3 : Int) (a4 : ByteArray) (a5 : List GValue) (a6 : List GValue) (a7 : Int) (a8 : Int) (r : Int ⊕ ((List GValue) × Int × Int × ByteArray × (List GValue) × (List GValue) × Int × Int × Bool)), slices_IndexFunc_pred_test_3_l1 t n k a1 a2 a3 a4 a5 a6 a7 a8 = some r → loopN (exec (env Try.prog 59 Try.f59 call) n (sub [1, 0, 1, 0, 0] (bodyOf Try.f59))) k (mkSt 19 19 [(0, (.t (.sl false 5 (GValue.ts a1)))), (1, (.fn 46 [(.ref (.st [(.v (.int .i64 a2)), (.v (.int .i64 a3)), (.v (.string a4)), (.sl false 5 (GValue.ts a5)), (.sl false 5 (GValue.ts a6))]))])), (7, (.t (.v (.int .i64 a7)))), (8, (.t (.v (.int .i64 a8))))] []) = some (slices_IndexFunc_pred_test_3_l1.to r)
  | 0, a1, a2, a3, a4, a5, a6, a7, a8, r, h => by rw [slices_IndexFunc_pred_test_3_l1] at h; cases h
  | k + 1, a1, a2, a3, a4, a5, a6, a7, a8, r, h => by
    rw [slices_IndexFunc_pred_test_3_l1] at h
    by_cases h1 : (decide (a8 < a7)) = true
    · rw [if_pos h1] at h
      by_cases h2 : (decide (0 ≤ (a8 : Int))) = true
      case neg => rw [if_neg h2] at h; cases h
      rw [if_pos h2] at h
      rcases h3 : a1[(a8 : Int).toNat]? with _ | ⟨a9, a10, a11, a12, a13⟩
      · rw [h3] at h; cases h
      rw [h3] at h
      dsimp only at h
      rcases h4 : t.pred_test_3 (GValue.mk a9 a10 a11 a12 a13) (GValue.mk a2 a3 a4 a5 a6) with _ | a14
      · rw [h4] at h; cases h
      rw [h4] at h
      dsimp only at h
      by_cases h5 : a14 = true
      · rw [if_pos h5] at h
        rw [← Option.some.inj h]
        exact loop_out (path (ob_b h1 (ob_n h2 (ob_t (look_ts GValue.ts_map h3) (ob_c (ht.pred_test_3 _ _ _ h4) (ob_b h5 ob))))) (by kernel_rfl)) (fun h => by cases h)
      · rw [if_neg h5] at h
        replace h5 := Bool.eq_false_iff.2 h5
        exact loop_more (path (ob_b h1 (ob_n h2 (ob_t (look_ts GValue.ts_map h3) (ob_c (ht.pred_test_3 _ _ _ h4) (ob_b h5 ob))))) (by kernel_rfl)) (slices_IndexFunc_pred_test_3_l1.okL ht n k _ _ _ _ _ _ _ _ _ h)
    · rw [if_neg h1] at h
      replace h1 := Bool.eq_false_iff.2 h1
      rw [← Option.some.inj h]
      exact loop_out (path (ob_b h1 ob) (by kernel_rfl)) (fun h => by cases h)
theorem slices_IndexFunc_pred_test_3_l1.ok {t : Tab} {call : FuncId → List AV → List AV → Option (AV × List AV)} (ht : TabOk t call) (n : Nat) (a1 : List GValue) (a2 : Int) (a3 : Int) (a4 : ByteArray) (a5 : List GValue) (a6 : List GValue) (a7 : Int) (a8 : Int) (r : Int ⊕ ((List GValue) × Int × Int × ByteArray × (List GValue) × (List GValue) × Int × Int × Bool)) (h : slices_IndexFunc_pred_test_3_l1 t n n a1 a2 a3 a4 a5 a6 a7 a8 = some r) : exec (env Try.prog 59 Try.f59 call) n (sub [1, 0, 1, 0] (bodyOf Try.f59)) (mkSt 19 19 [(0, (.t (.sl false 5 (GValue.ts a1)))), (1, (.fn 46 [(.ref (.st [(.v (.int .i64 a2)), (.v (.int .i64 a3)), (.v (.string a4)), (.sl false 5 (GValue.ts a5)), (.sl false 5 (GValue.ts a6))]))])), (7, (.t (.v (.int .i64 a7)))), (8, (.t (.v (.int .i64 a8))))] []) = some (slices_IndexFunc_pred_test_3_l1.to r) := by
  have e1 : sub [1, 0, 1, 0] (bodyOf Try.f59) = .loop (sub [1, 0, 1, 0, 0] (bodyOf Try.f59)) := by kernel_rfl
  rw [e1, exec]
  exact slices_IndexFunc_pred_test_3_l1.okL ht n n a1 a2 a3 a4 a5 a6 a7 a8 r h
theorem slices_IndexFunc_pred_test_3.ok {n : Nat} {t : Tab} (ht : TabOk t (run Try.prog own kp X n)) : ∀ (p1 : List GValue) (p2 : GValue) r, slices_IndexFunc_pred_test_3 t n p1 p2 = some r → run Try.prog own kp X (n + 1) 59 [(.t (.sl false 5 (GValue.ts p1))), (.fn 46 [(.ref (GValue.t p2))])] [] = some ((.t (.v (.int .i64 r))), []) := by
  intro p1 p2 r h
  obtain ⟨a1, rfl⟩ : ∃ z_, z_ = p1 := ⟨_, rfl⟩
  obtain ⟨a2, a3, a4, a5, a6⟩ := p2
  rw [slices_IndexFunc_pred_test_3] at h
  rcases h1 : slices_IndexFunc_pred_test_3_l1 t n n a1 a2 a3 a4 a5 a6 (a1.length : Int) 0 with _ | q_
  · rw [h1] at h; cases h
  rw [h1] at h
  rcases q_ with a7 | ⟨a8, a9, a10, a11, a12, a13, a14, a15, a16⟩
  · dsimp only at h
    rw [← Option.some.inj h]
    exact run_path Try.func59 (ob_v (len_ts GValue.ts_map (l := a1)) (ob_k (slices_IndexFunc_pred_test_3_l1.ok ht n _ _ _ _ _ _ _ _ _ h1) ob)) (by kernel_rfl)
  · dsimp only at h
    rw [← Option.some.inj h]
    exact run_path Try.func59 (ob_v (len_ts GValue.ts_map (l := a1)) (ob_k (slices_IndexFunc_pred_test_3_l1.ok ht n _ _ _ _ _ _ _ _ _ h1) ob)) (by kernel_rfl)
theorem slices_IndexFunc_pred_test_1_l1.okL {t : Tab} {call : FuncId → List AV → List AV → Option (AV × List AV)} (ht : TabOk t call) (n : Nat) : ∀ (k : Nat) (a1 : List GPred) (a2 : Int) (a3 : Int) (a4 : ByteArray) (a5 : List GValue) (a6 : List GValue) (a7 : Int) (a8 : Int) (r : Int ⊕ ((List GPred) × Int × Int × ByteArray × (List GValue) × (List GValue) × Int × Int × Bool)), slices_IndexFunc_pred_test_1_l1 t n k a1 a2 a3 a4 a5 a6 a7 a8 = some r → loopN (exec (env Try.prog 58 Try.f58 call) n (sub [1, 0, 1, 0, 0] (bodyOf Try.f58))) k (mkSt 19 19 [(0, (.t (.sl false 3 (GPred.ts a1)))), (1, (.fn 44 [(.ref (.st [(.v (.int .i64 a2)), (.v (.int .i64 a3)), (.v (.string a4)), (.sl false 5 (GValue.ts a5)), (.sl false 5 (GValue.ts a6))]))])), (7, (.t (.v (.int .i64 a7)))), (8, (.t (.v (.int .i64 a8))))] []) = some (slices_IndexFunc_pred_test_1_l1.to r)
  | 0, a1, a2, a3, a4, a5, a6, a7, a8, r, h => by rw [slices_IndexFunc_pred_test_1_l1] at h; cases h
  | k + 1, a1, a2, a3, a4, a5, a6, a7, a8, r, h => by
    rw [slices_IndexFunc_pred_test_1_l1] at h
    by_cases h1 : (decide (a8 < a7)) = true
    · rw [if_pos h1] at h
      by_cases h2 : (decide (0 ≤ (a8 : Int))) = true
      case neg => rw [if_neg h2] at h; cases h
      rw [if_pos h2] at h
      rcases h3 : a1[(a8 : Int).toNat]? with _ | ⟨a9, a10, a11⟩
      · rw [h3] at h; cases h
      rw [h3] at h
      dsimp only at h
      rcases h4 : t.pred_test_1 (GPred.mk a9 a10 a11) (GValue.mk a2 a3 a4 a5 a6) with _ | a12
      · rw [h4] at h; cases h
      rw [h4] at h
      dsimp only at h
      by_cases h5 : a12 = true
      · rw [if_pos h5] at h
        rw [← Option.some.inj h]
        exact loop_out (path (ob_b h1 (ob_n h2 (ob_t (look_ts GPred.ts_map h3) (ob_c (ht.pred_test_1 _ _ _ h4) (ob_b h5 ob))))) (by kernel_rfl)) (fun h => by cases h)
      · rw [if_neg h5] at h
        replace h5 := Bool.eq_false_iff.2 h5
        exact loop_more (path (ob_b h1 (ob_n h2 (ob_t (look_ts GPred.ts_map h3) (ob_c (ht.pred_test_1 _ _ _ h4) (ob_b h5 ob))))) (by kernel_rfl)) (slices_IndexFunc_pred_test_1_l1.okL ht n k _ _ _ _ _ _ _ _ _ h)
    · rw [if_neg h1] at h
      replace h1 := Bool.eq_false_iff.2 h1
      rw [← Option.some.inj h]
      exact loop_out (path (ob_b h1 ob) (by kernel_rfl)) (fun h => by cases h)
theorem slices_IndexFunc_pred_test_1_l1.ok {t : Tab} {call : FuncId → List AV → List AV → Option (AV × List AV)} (ht : TabOk t call) (n : Nat) (a1 : List GPred) (a2 : Int) (a3 : Int) (a4 : ByteArray) (a5 : List GValue) (a6 : List GValue) (a7 : Int) (a8 : Int) (r : Int ⊕ ((List GPred) × Int × Int × ByteArray × (List GValue) × (List GValue) × Int × Int × Bool)) (h : slices_IndexFunc_pred_test_1_l1 t n n a1 a2 a3 a4 a5 a6 a7 a8 = some r) : exec (env Try.prog 58 Try.f58 call) n (sub [1, 0, 1, 0] (bodyOf Try.f58)) (mkSt 19 19 [(0, (.t (.sl false 3 (GPred.ts a1)))), (1, (.fn 44 [(.ref (.st [(.v (.int .i64 a2)), (.v (.int .i64 a3)), (.v (.string a4)), (.sl false 5 (GValue.ts a5)), (.sl false 5 (GValue.ts a6))]))])), (7, (.t (.v (.int .i64 a7)))), (8, (.t (.v (.int .i64 a8))))] []) = some (slices_IndexFunc_pred_test_1_l1.to r) := by
  have e1 : sub [1, 0, 1, 0] (bodyOf Try.f58) = .loop (sub [1, 0, 1, 0, 0] (bodyOf Try.f58)) := by kernel_rfl
  rw [e1, exec]
  exact slices_IndexFunc_pred_test_1_l1.okL ht n n a1 a2 a3 a4 a5 a6 a7 a8 r h
theorem slices_IndexFunc_pred_test_1.ok {n : Nat} {t : Tab} (ht : TabOk t (run Try.prog own kp X n)) : ∀ (p1 : List GPred) (p2 : GValue) r, slices_IndexFunc_pred_test_1 t n p1 p2 = some r → run Try.prog own kp X (n + 1) 58 [(.t (.sl false 3 (GPred.ts p1))), (.fn 44 [(.ref (GValue.t p2))])] [] = some ((.t (.v (.int .i64 r))), []) := by
  intro p1 p2 r h
  obtain ⟨a1, rfl⟩ : ∃ z_, z_ = p1 := ⟨_, rfl⟩
  obtain ⟨a2, a3, a4, a5, a6⟩ := p2
  rw [slices_IndexFunc_pred_test_1] at h
  rcases h1 : slices_IndexFunc_pred_test_1_l1 t n n a1 a2 a3 a4 a5 a6 (a1.length : Int) 0 with _ | q_
  · rw [h1] at h; cases h
  rw [h1] at h
  rcases q_ with a7 | ⟨a8, a9, a10, a11, a12, a13, a14, a15, a16⟩
  · dsimp only at h
    rw [← Option.some.inj h]
    exact run_path Try.func58 (ob_v (len_ts GPred.ts_map (l := a1)) (ob_k (slices_IndexFunc_pred_test_1_l1.ok ht n _ _ _ _ _ _ _ _ _ h1) ob)) (by kernel_rfl)
  · dsimp only at h
    rw [← Option.some.inj h]
    exact run_path Try.func58 (ob_v (len_ts GPred.ts_map (l := a1)) (ob_k (slices_IndexFunc_pred_test_1_l1.ok ht n _ _ _ _ _ _ _ _ _ h1) ob)) (by kernel_rfl)
theorem slices_IndexFunc_pred_test_2_l1.okL {t : Tab} {call : FuncId → List AV → List AV → Option (AV × List AV)} (ht : TabOk t call) (n : Nat) : ∀ (k : Nat) (a1 : List GPred) (a2 : Int) (a3 : Int) (a4 : ByteArray) (a5 : List GValue) (a6 : List GValue) (a7 : Int) (a8 : Int) (r : Int ⊕ ((List GPred) × Int × Int × ByteArray × (List GValue) × (List GValue) × Int × Int × Bool)), slices_IndexFunc_pred_test_2_l1 t n k a1 a2 a3 a4 a5 a6 a7 a8 = some r → loopN (exec (env Try.prog 58 Try.f58 call) n (sub [1, 0, 1, 0, 0] (bodyOf Try.f58))) k (mkSt 19 19 [(0, (.t (.sl false 3 (GPred.ts a1)))), (1, (.fn 45 [(.ref (.st [(.v (.int .i64 a2)), (.v (.int .i64 a3)), (.v (.string a4)), (.sl false 5 (GValue.ts a5)), (.sl false 5 (GValue.ts a6))]))])), (7, (.t (.v (.int .i64 a7)))), (8, (.t (.v (.int .i64 a8))))] []) = some (slices_IndexFunc_pred_test_2_l1.to r)
  | 0, a1, a2, a3, a4, a5, a6, a7, a8, r, h => by rw [slices_IndexFunc_pred_test_2_l1] at h; cases h
  | k + 1, a1, a2, a3, a4, a5, a6, a7, a8, r, h => by
    rw [slices_IndexFunc_pred_test_2_l1] at h
    by_cases h1 : (decide (a8 < a7)) = true
    · rw [if_pos h1] at h
      by_cases h2 : (decide (0 ≤ (a8 : Int))) = true
      case neg => rw [if_neg h2] at h; cases h
      rw [if_pos h2] at h
      rcases h3 : a1[(a8 : Int).toNat]? with _ | ⟨a9, a10, a11⟩
      · rw [h3] at h; cases h
      rw [h3] at h
      dsimp only at h
      rcases h4 : t.pred_test_2 (GPred.mk a9 a10 a11) (GValue.mk a2 a3 a4 a5 a6) with _ | a12
      · rw [h4] at h; cases h
      rw [h4] at h
      dsimp only at h
      by_cases h5 : a12 = true
      · rw [if_pos h5] at h
        rw [← Option.some.inj h]
        exact loop_out (path (ob_b h1 (ob_n h2 (ob_t (look_ts GPred.ts_map h3) (ob_c (ht.pred_test_2 _ _ _ h4) (ob_b h5 ob))))) (by kernel_rfl)) (fun h => by cases h)
      · rw [if_neg h5] at h
        replace h5 := Bool.eq_false_iff.2 h5
        exact loop_more (path (ob_b h1 (ob_n h2 (ob_t (look_ts GPred.ts_map h3) (ob_c (ht.pred_test_2 _ _ _ h4) (ob_b h5 ob))))) (by kernel_rfl)) (slices_IndexFunc_pred_test_2_l1.okL ht n k _ _ _ _ _ _ _ _ _ h)
    · rw [if_neg h1] at h
      replace h1 := Bool.eq_false_iff.2 h1
      rw [← Option.some.inj h]
      exact loop_out (path (ob_b h1 ob) (by kernel_rfl)) (fun h => by cases h)
theorem slices_IndexFunc_pred_test_2_l1.ok {t : Tab} {call : FuncId → List AV → List AV → Option (AV × List AV)} (ht : TabOk t call) (n : Nat) (a1 : List GPred) (a2 : Int) (a3 : Int) (a4 : ByteArray) (a5 : List GValue) (a6 : List GValue) (a7 : Int) (a8 : Int) (r : Int ⊕ ((List GPred) × Int × Int × ByteArray × (List GValue) × (List GValue) × Int × Int × Bool)) (h : slices_IndexFunc_pred_test_2_l1 t n n a1 a2 a3 a4 a5 a6 a7 a8 = some r) : exec (env Try.prog 58 Try.f58 call) n (sub [1, 0, 1, 0] (bodyOf Try.f58)) (mkSt 19 19 [(0, (.t (.sl false 3 (GPred.ts a1)))), (1, (.fn 45 [(.ref (.st [(.v (.int .i64 a2)), (.v (.int .i64 a3)), (.v (.string a4)), (.sl false 5 (GValue.ts a5)), (.sl false 5 (GValue.ts a6))]))])), (7, (.t (.v (.int .i64 a7)))), (8, (.t (.v (.int .i64 a8))))] []) = some (slices_IndexFunc_pred_test_2_l1.to r) := by
  have e1 : sub [1, 0, 1, 0] (bodyOf Try.f58) = .loop (sub [1, 0, 1, 0, 0] (bodyOf Try.f58)) := by kernel_rfl
  rw [e1, exec]
  exact slices_IndexFunc_pred_test_2_l1.okL ht n n a1 a2 a3 a4 a5 a6 a7 a8 r h
theorem slices_IndexFunc_pred_test_2.ok {n : Nat} {t : Tab} (ht : TabOk t (run Try.prog own kp X n)) : ∀ (p1 : List GPred) (p2 : GValue) r, slices_IndexFunc_pred_test_2 t n p1 p2 = some r → run Try.prog own kp X (n + 1) 58 [(.t (.sl false 3 (GPred.ts p1))), (.fn 45 [(.ref (GValue.t p2))])] [] = some ((.t (.v (.int .i64 r))), []) := by
  intro p1 p2 r h
  obtain ⟨a1, rfl⟩ : ∃ z_, z_ = p1 := ⟨_, rfl⟩
  obtain ⟨a2, a3, a4, a5, a6⟩ := p2
  rw [slices_IndexFunc_pred_test_2] at h
  rcases h1 : slices_IndexFunc_pred_test_2_l1 t n n a1 a2 a3 a4 a5 a6 (a1.length : Int) 0 with _ | q_
  · rw [h1] at h; cases h
  rw [h1] at h
  rcases q_ with a7 | ⟨a8, a9, a10, a11, a12, a13, a14, a15, a16⟩
  · dsimp only at h
    rw [← Option.some.inj h]
    exact run_path Try.func58 (ob_v (len_ts GPred.ts_map (l := a1)) (ob_k (slices_IndexFunc_pred_test_2_l1.ok ht n _ _ _ _ _ _ _ _ _ h1) ob)) (by kernel_rfl)
  · dsimp only at h
    rw [← Option.some.inj h]
    exact run_path Try.func58 (ob_v (len_ts GPred.ts_map (l := a1)) (ob_k (slices_IndexFunc_pred_test_2_l1.ok ht n _ _ _ _ _ _ _ _ _ h1) ob)) (by kernel_rfl)
theorem slices_ContainsFunc_pred_alike_1.ok {n : Nat} {t : Tab} (ht : TabOk t (run Try.prog own kp X n)) : ∀ (p1 : List GValue) (p2 : GValue) r, slices_ContainsFunc_pred_alike_1 t n p1 p2 = some r → run Try.prog own kp X (n + 1) 43 [(.t (.sl false 5 (GValue.ts p1))), (.fn 61 [(.ref (GValue.t p2))])] [] = some ((.t (.v (.bool r))), []) := by
  intro p1 p2 r h
  obtain ⟨a1, rfl⟩ : ∃ z_, z_ = p1 := ⟨_, rfl⟩
  obtain ⟨a2, a3, a4, a5, a6⟩ := p2
  rw [slices_ContainsFunc_pred_alike_1] at h
  rcases h1 : t.slices_IndexFunc_pred_alike_1 a1 (GValue.mk a2 a3 a4 a5 a6) with _ | a7
  · rw [h1] at h; cases h
  rw [h1] at h
  dsimp only at h
  rw [← Option.some.inj h]
  exact run_path Try.func43 (ob_c (ht.slices_IndexFunc_pred_alike_1 _ _ _ h1) ob) (by kernel_rfl)
theorem value_Cmp.ok {n : Nat} {t : Tab} (ht : TabOk t (run Try.prog own kp X n)) : ∀ (p1 : GValue) (p2 : GValue) r, value_Cmp t n p1 p2 = some r → run Try.prog own kp X (n + 1) 60 [(.t (GValue.t p1)), (.t (GValue.t p2))] [] = some ((.t (.v (.int .i64 r))), []) := by
  intro p1 p2 r h
  obtain ⟨a1, a2, a3, a4, a5⟩ := p1
  obtain ⟨a6, a7, a8, a9, a10⟩ := p2
  rw [value_Cmp] at h
  obtain ⟨a11, rfl⟩ : ∃ z_, z_ = r := ⟨_, rfl⟩
  have h1 := h
  exact run_path Try.func60 (ob_c (ht.value_compare _ _ _ _ h1) ob) (by kernel_rfl)
theorem value_Copy.ok {n : Nat} {t : Tab} (ht : TabOk t (run Try.prog own kp X n)) : ∀ (p1 : GValue) r, value_Copy t n p1 = some r → run Try.prog own kp X (n + 1) 52 [(.t (GValue.t p1))] [] = some ((.t (GValue.t r)), []) := by
  intro p1 r h
  obtain ⟨a1, a2, a3, a4, a5⟩ := p1
  rw [value_Copy] at h
  obtain ⟨a6, a7, a8, a9, a10⟩ := r
  have h1 := h
  exact run_path Try.func52 (ob_c (ht.value_part _ _ _ h1) ob) (by kernel_rfl)
theorem pred_right_1.ok {n : Nat} {t : Tab} (ht : TabOk t (run Try.prog own kp X n)) : ∀ (p1 : GPred) (p2 : Int) r, pred_right_1 t n p1 p2 = some r → run Try.prog own kp X (n + 1) 39 [(.t (GPred.t p1)), (.ref (.v (.int .i64 p2)))] [] = some ((.t (.v (.bool r))), []) := by
  intro p1 p2 r h
  obtain ⟨a1, a2, a3⟩ := p1
  obtain ⟨a4, rfl⟩ : ∃ z_, z_ = p2 := ⟨_, rfl⟩
  rw [pred_right_1] at h
  rcases h1 : t.pred_right (GPred.mk a1 a2 a3) (IntKind.wrap .i64 (a4 + 1)) with _ | a5
  · rw [h1] at h; cases h
  rw [h1] at h
  dsimp only at h
  rw [← Option.some.inj h]
  exact run_path Try.func39 (ob_c (ht.pred_right _ _ _ h1) ob) (by kernel_rfl)
theorem pred_right_2.ok {n : Nat} {t : Tab} (ht : TabOk t (run Try.prog own kp X n)) : ∀ (p1 : GValue) r, pred_right_2 t n p1 = some r → run Try.prog own kp X (n + 1) 40 [(.t (GValue.t p1))] [] = some ((.t (.v (.bool r))), []) := by
  intro p1 r h
  obtain ⟨a1, a2, a3, a4, a5⟩ := p1
  rw [pred_right_2] at h
  rcases h1 : t.value_Check (GValue.mk a1 a2 a3 a4 a5) with _ | a6
  · rw [h1] at h; cases h
  rw [h1] at h
  dsimp only at h
  rw [← Option.some.inj h]
  exact run_path Try.func40 (ob_c (ht.value_Check _ _ h1) ob) (by kernel_rfl)
theorem pred_test_3.ok {n : Nat} {t : Tab} (ht : TabOk t (run Try.prog own kp X n)) : ∀ (p1 : GValue) (p2 : GValue) r, pred_test_3 t n p1 p2 = some r → run Try.prog own kp X (n + 1) 46 [(.t (GValue.t p1)), (.ref (GValue.t p2))] [] = some ((.t (.v (.bool r))), []) := by
  intro p1 p2 r h
  obtain ⟨a1, a2, a3, a4, a5⟩ := p1
  obtain ⟨a6, a7, a8, a9, a10⟩ := p2
  rw [pred_test_3] at h
  obtain ⟨a11, rfl⟩ : ∃ z_, z_ = r := ⟨_, rfl⟩
  have h1 := h
  exact run_path Try.func46 (ob_c (ht.value_Same _ _ _ h1) ob) (by kernel_rfl)
theorem pred_test_1.ok {n : Nat} {t : Tab} (ht : TabOk t (run Try.prog own kp X n)) : ∀ (p1 : GPred) (p2 : GValue) r, pred_test_1 t n p1 p2 = some r → run Try.prog own kp X (n + 1) 44 [(.t (GPred.t p1)), (.ref (GValue.t p2))] [] = some ((.t (.v (.bool r))), []) := by
  intro p1 p2 r h
  obtain ⟨a1, a2, a3⟩ := p1
  obtain ⟨a4, a5, a6, a7, a8⟩ := p2
  rw [pred_test_1] at h
  obtain ⟨a9, rfl⟩ : ∃ z_, z_ = r := ⟨_, rfl⟩
  have h1 := h
  exact run_path Try.func44 (ob_c (ht.pred_test _ _ _ h1) ob) (by kernel_rfl)
theorem slices_IndexFunc_pred_alike_1_l1.okL {t : Tab} {call : FuncId → List AV → List AV → Option (AV × List AV)} (ht : TabOk t call) (n : Nat) : ∀ (k : Nat) (a1 : List GValue) (a2 : Int) (a3 : Int) (a4 : ByteArray) (a5 : List GValue) (a6 : List GValue) (a7 : Int) (a8 : Int) (r : Int ⊕ ((List GValue) × Int × Int × ByteArray × (List GValue) × (List GValue) × Int × Int × Bool)), slices_IndexFunc_pred_alike_1_l1 t n k a1 a2 a3 a4 a5 a6 a7 a8 = some r → loopN (exec (env Try.prog 59 Try.f59 call) n (sub [1, 0, 1, 0, 0] (bodyOf Try.f59))) k (mkSt 19 19 [(0, (.t (.sl false 5 (GValue.ts a1)))), (1, (.fn 61 [(.ref (.st [(.v (.int .i64 a2)), (.v (.int .i64 a3)), (.v (.string a4)), (.sl false 5 (GValue.ts a5)), (.sl false 5 (GValue.ts a6))]))])), (7, (.t (.v (.int .i64 a7)))), (8, (.t (.v (.int .i64 a8))))] []) = some (slices_IndexFunc_pred_alike_1_l1.to r)
  | 0, a1, a2, a3, a4, a5, a6, a7, a8, r, h => by rw [slices_IndexFunc_pred_alike_1_l1] at h; cases h
  | k + 1, a1, a2, a3, a4, a5, a6, a7, a8, r, h => by
    rw [slices_IndexFunc_pred_alike_1_l1] at h
    by_cases h1 : (decide (a8 < a7)) = true
    · rw [if_pos h1] at h
      by_cases h2 : (decide (0 ≤ (a8 : Int))) = true
      case neg => rw [if_neg h2] at h; cases h
      rw [if_pos h2] at h
      rcases h3 : a1[(a8 : Int).toNat]? with _ | ⟨a9, a10, a11, a12, a13⟩
      · rw [h3] at h; cases h
      rw [h3] at h
      dsimp only at h
      rcases h4 : t.pred_alike_1 (GValue.mk a9 a10 a11 a12 a13) (GValue.mk a2 a3 a4 a5 a6) with _ | a14
      · rw [h4] at h; cases h
      rw [h4] at h
      dsimp only at h
      by_cases h5 : a14 = true
      · rw [if_pos h5] at h
        rw [← Option.some.inj h]
        exact loop_out (path (ob_b h1 (ob_n h2 (ob_t (look_ts GValue.ts_map h3) (ob_c (ht.pred_alike_1 _ _ _ h4) (ob_b h5 ob))))) (by kernel_rfl)) (fun h => by cases h)
      · rw [if_neg h5] at h
        replace h5 := Bool.eq_false_iff.2 h5
        exact loop_more (path (ob_b h1 (ob_n h2 (ob_t (look_ts GValue.ts_map h3) (ob_c (ht.pred_alike_1 _ _ _ h4) (ob_b h5 ob))))) (by kernel_rfl)) (slices_IndexFunc_pred_alike_1_l1.okL ht n k _ _ _ _ _ _ _ _ _ h)
    · rw [if_neg h1] at h
      replace h1 := Bool.eq_false_iff.2 h1
      rw [← Option.some.inj h]
      exact loop_out (path (ob_b h1 ob) (by kernel_rfl)) (fun h => by cases h)
theorem slices_IndexFunc_pred_alike_1_l1.ok {t : Tab} {call : FuncId → List AV → List AV → Option (AV × List AV)} (ht : TabOk t call) (n : Nat) (a1 : List GValue) (a2 : Int) (a3 : Int) (a4 : ByteArray) (a5 : List GValue) (a6 : List GValue) (a7 : Int) (a8 : Int) (r : Int ⊕ ((List GValue) × Int × Int × ByteArray × (List GValue) × (List GValue) × Int × Int × Bool)) (h : slices_IndexFunc_pred_alike_1_l1 t n n a1 a2 a3 a4 a5 a6 a7 a8 = some r) : exec (env Try.prog 59 Try.f59 call) n (sub [1, 0, 1, 0] (bodyOf Try.f59)) (mkSt 19 19 [(0, (.t (.sl false 5 (GValue.ts a1)))), (1, (.fn 61 [(.ref (.st [(.v (.int .i64 a2)), (.v (.int .i64 a3)), (.v (.string a4)), (.sl false 5 (GValue.ts a5)), (.sl false 5 (GValue.ts a6))]))])), (7, (.t (.v (.int .i64 a7)))), (8, (.t (.v (.int .i64 a8))))] []) = some (slices_IndexFunc_pred_alike_1_l1.to r) := by
  have e1 : sub [1, 0, 1, 0] (bodyOf Try.f59) = .loop (sub [1, 0, 1, 0, 0] (bodyOf Try.f59)) := by kernel_rfl
  rw [e1, exec]
  exact slices_IndexFunc_pred_alike_1_l1.okL ht n n a1 a2 a3 a4 a5 a6 a7 a8 r h
theorem slices_IndexFunc_pred_alike_1.ok {n : Nat} {t : Tab} (ht : TabOk t (run Try.prog own kp X n)) : ∀ (p1 : List GValue) (p2 : GValue) r, slices_IndexFunc_pred_alike_1 t n p1 p2 = some r → run Try.prog own kp X (n + 1) 59 [(.t (.sl false 5 (GValue.ts p1))), (.fn 61 [(.ref (GValue.t p2))])] [] = some ((.t (.v (.int .i64 r))), []) := by
  intro p1 p2 r h
  obtain ⟨a1, rfl⟩ : ∃ z_, z_ = p1 := ⟨_, rfl⟩
  obtain ⟨a2, a3, a4, a5, a6⟩ := p2
  rw [slices_IndexFunc_pred_alike_1] at h
  rcases h1 : slices_IndexFunc_pred_alike_1_l1 t n n a1 a2 a3 a4 a5 a6 (a1.length : Int) 0 with _ | q_
  · rw [h1] at h; cases h
  rw [h1] at h
  rcases q_ with a7 | ⟨a8, a9, a10, a11, a12, a13, a14, a15, a16⟩
  · dsimp only at h
    rw [← Option.some.inj h]
    exact run_path Try.func59 (ob_v (len_ts GValue.ts_map (l := a1)) (ob_k (slices_IndexFunc_pred_alike_1_l1.ok ht n _ _ _ _ _ _ _ _ _ h1) ob)) (by kernel_rfl)
  · dsimp only at h
    rw [← Option.some.inj h]
    exact run_path Try.func59 (ob_v (len_ts GValue.ts_map (l := a1)) (ob_k (slices_IndexFunc_pred_alike_1_l1.ok ht n _ _ _ _ _ _ _ _ _ h1) ob)) (by kernel_rfl)
theorem value_compare_j1.ok {t : Tab} {call : FuncId → List AV → List AV → Option (AV × List AV)} (ht : TabOk t call) (n : Nat) (a1 : Int) (a2 : Int) (a3 : ByteArray) (a4 : List GValue) (a5 : List GValue) (a6 : Int) (a7 : Int) (a8 : ByteArray) (a9 : List GValue) (a10 : List GValue) (a11 : Int) (r : Int) (h : value_compare_j1 t n a1 a2 a3 a4 a5 a6 a7 a8 a9 a10 a11 = some r) : exec (env Try.prog 64 Try.f64 call) n (sub [1, 1] (bodyOf Try.f64)) (mkSt 48 48 [(3, (.ptr 3 0 [] 0)), (4, (.ptr 4 0 [] 0)), (5, (.ptr 5 0 [] 0))] [(3, (.t (.st [(.v (.int .i64 a1)), (.v (.int .i64 a2)), (.v (.string a3)), (.sl false 5 (GValue.ts a4)), (.sl false 5 (GValue.ts a5))]))), (4, (.t (.st [(.v (.int .i64 a6)), (.v (.int .i64 a7)), (.v (.string a8)), (.sl false 5 (GValue.ts a9)), (.sl false 5 (GValue.ts a10))]))), (5, (.t (.v (.int .i64 a11))))]) = some (value_compare_j1.to r) := by
  rw [value_compare_j1] at h
  rcases h1 : t.slices_CompareFunc_value_compare_1 a4 a9 a11 with _ | a12
  · rw [h1] at h; cases h
  rw [h1] at h
  dsimp only at h
  rcases h2 : t.slices_CompareFunc_value_compare_1 a5 a10 a11 with _ | a13
  · rw [h2] at h; cases h
  rw [h2] at h
  dsimp only at h
  obtain ⟨a14, rfl⟩ : ∃ z_, z_ = r := ⟨_, rfl⟩
  have h3 := h
  exact path (ob_c (ht.slices_CompareFunc_value_compare_1 _ _ _ _ h1) (ob_c (ht.slices_CompareFunc_value_compare_1 _ _ _ _ h2) (ob_c (ht.cmp_Or_int _ _ h3) ob))) (by kernel_rfl)
theorem value_compare.ok {n : Nat} {t : Tab} (ht : TabOk t (run Try.prog own kp X n)) : ∀ (p1 : GValue) (p2 : GValue) (p3 : Int) r, value_compare t n p1 p2 p3 = some r → run Try.prog own kp X (n + 1) 64 [(.t (GValue.t p1)), (.t (GValue.t p2)), (.t (.v (.int .i64 p3)))] [] = some ((.t (.v (.int .i64 r))), []) := by
  intro p1 p2 p3 r h
  obtain ⟨a1, a2, a3, a4, a5⟩ := p1
  obtain ⟨a6, a7, a8, a9, a10⟩ := p2
  obtain ⟨a11, rfl⟩ : ∃ z_, z_ = p3 := ⟨_, rfl⟩
  rw [value_compare] at h
  rcases h1 : t.cmp_Compare_int a1 a6 with _ | a12
  · rw [h1] at h; cases h
  rw [h1] at h
  dsimp only at h
  rcases h2 : t.cmp_Compare_int a2 a7 with _ | a13
  · rw [h2] at h; cases h
  rw [h2] at h
  dsimp only at h
  rcases h3 : t.strings_Compare a3 a8 with _ | a14
  · rw [h3] at h; cases h
  rw [h3] at h
  dsimp only at h
  rcases h4 : t.cmp_Or_int ([a12, a13, a14] : List Int) with _ | a15
  · rw [h4] at h; cases h
  rw [h4] at h
  dsimp only at h
  by_cases h5 : (a15 != 0) = true
  · rw [if_pos h5] at h
    rw [← Option.some.inj h]
    exact run_path Try.func64 (ob_c (ht.cmp_Compare_int _ _ _ h1) (ob_c (ht.cmp_Compare_int _ _ _ h2) (ob_c (ht.strings_Compare _ _ _ h3) (ob_c (ht.cmp_Or_int _ _ h4) (ob_b h5 (ob_b h5 (ob_b h5 (ob_b (rfl : true = true) ob)))))))) (by kernel_rfl)
  · rw [if_neg h5] at h
    replace h5 := Bool.eq_false_iff.2 h5
    by_cases h6 : (decide (a11 > 12)) = true
    · rw [if_pos h6] at h
      rw [← Option.some.inj h]
      exact run_path Try.func64 (ob_c (ht.cmp_Compare_int _ _ _ h1) (ob_c (ht.cmp_Compare_int _ _ _ h2) (ob_c (ht.strings_Compare _ _ _ h3) (ob_c (ht.cmp_Or_int _ _ h4) (ob_b h5 (ob_b h5 (ob_b h5 (ob_b h6 ob)))))))) (by kernel_rfl)
    · rw [if_neg h6] at h
      replace h6 := Bool.eq_false_iff.2 h6
      obtain ⟨a16, rfl⟩ : ∃ z_, z_ = r := ⟨_, rfl⟩
      have h7 := h
      exact run_path Try.func64 (ob_c (ht.cmp_Compare_int _ _ _ h1) (ob_c (ht.cmp_Compare_int _ _ _ h2) (ob_c (ht.strings_Compare _ _ _ h3) (ob_c (ht.cmp_Or_int _ _ h4) (ob_b h5 (ob_b h5 (ob_b h5 (ob_b h6 (ob_j (value_compare_j1.ok ht n _ _ _ _ _ _ _ _ _ _ _ _ h7) ob))))))))) (by kernel_rfl)
theorem value_part.ok {n : Nat} {t : Tab} (ht : TabOk t (run Try.prog own kp X n)) : ∀ (p1 : GValue) (p2 : Int) r, value_part t n p1 p2 = some r → run Try.prog own kp X (n + 1) 62 [(.t (GValue.t p1)), (.t (.v (.int .i64 p2)))] [] = some ((.t (GValue.t r)), []) := by
  intro p1 p2 r h
  obtain ⟨a1, a2, a3, a4, a5⟩ := p1
  obtain ⟨a6, rfl⟩ : ∃ z_, z_ = p2 := ⟨_, rfl⟩
  rw [value_part] at h
  by_cases h1 : (decide (a6 > 12)) = true
  · rw [if_pos h1] at h
    rw [← Option.some.inj h]
    exact run_path Try.func62 (ob_b h1 ob) (by kernel_rfl)
  · rw [if_neg h1] at h
    replace h1 := Bool.eq_false_iff.2 h1
    rcases h2 : t.value_copied a4 (IntKind.wrap .i64 (a6 + 1)) with _ | a7
    · rw [h2] at h; cases h
    rw [h2] at h
    dsimp only at h
    rcases h3 : t.value_copied a5 (IntKind.wrap .i64 (a6 + 1)) with _ | a8
    · rw [h3] at h; cases h
    rw [h3] at h
    dsimp only at h
    rw [← Option.some.inj h]
    exact run_path Try.func62 (ob_b h1 (ob_c (ht.value_copied _ _ _ h2) (ob_c (ht.value_copied _ _ _ h3) ob))) (by kernel_rfl)
theorem value_Check.ok {n : Nat} {t : Tab} (ht : TabOk t (run Try.prog own kp X n)) : ∀ (p1 : GValue) r, value_Check t n p1 = some r → run Try.prog own kp X (n + 1) 41 [(.t (GValue.t p1))] [] = some ((.t (.v (.int .i64 r))), []) := by
  intro p1 r h
  obtain ⟨a1, a2, a3, a4, a5⟩ := p1
  rw [value_Check] at h
  rcases h1 : t.value_plain (GValue.mk a1 a2 a3 a4 a5) 1 with _ | a6
  · rw [h1] at h; cases h
  rw [h1] at h
  dsimp only at h
  by_cases h2 : a6 = true
  · rw [if_pos h2] at h
    rw [← Option.some.inj h]
    exact run_path Try.func41 (ob_c (ht.value_plain _ _ _ h1) (ob_b (congrArg (!·) h2) ob)) (by kernel_rfl)
  · rw [if_neg h2] at h
    replace h2 := Bool.eq_false_iff.2 h2
    rw [← Option.some.inj h]
    exact run_path Try.func41 (ob_c (ht.value_plain _ _ _ h1) (ob_b (congrArg (!·) h2) ob)) (by kernel_rfl)
theorem value_Same.ok {n : Nat} {t : Tab} (ht : TabOk t (run Try.prog own kp X n)) : ∀ (p1 : GValue) (p2 : GValue) r, value_Same t n p1 p2 = some r → run Try.prog own kp X (n + 1) 47 [(.t (GValue.t p1)), (.t (GValue.t p2))] [] = some ((.t (.v (.bool r))), []) := by
  intro p1 p2 r h
  obtain ⟨a1, a2, a3, a4, a5⟩ := p1
  obtain ⟨a6, a7, a8, a9, a10⟩ := p2
  rw [value_Same] at h
  rcases h1 : t.value_Cmp (GValue.mk a1 a2 a3 a4 a5) (GValue.mk a6 a7 a8 a9 a10) with _ | a11
  · rw [h1] at h; cases h
  rw [h1] at h
  dsimp only at h
  rw [← Option.some.inj h]
  exact run_path Try.func47 (ob_c (ht.value_Cmp _ _ _ h1) ob) (by kernel_rfl)
theorem pred_alike_1.ok {n : Nat} {t : Tab} (ht : TabOk t (run Try.prog own kp X n)) : ∀ (p1 : GValue) (p2 : GValue) r, pred_alike_1 t n p1 p2 = some r → run Try.prog own kp X (n + 1) 61 [(.t (GValue.t p1)), (.ref (GValue.t p2))] [] = some ((.t (.v (.bool r))), []) := by
  intro p1 p2 r h
  obtain ⟨a1, a2, a3, a4, a5⟩ := p1
  obtain ⟨a6, a7, a8, a9, a10⟩ := p2
  rw [pred_alike_1] at h
  rw [← Option.some.inj h]
  exact run_path Try.func61 ob (by kernel_rfl)
theorem cmp_Compare_int.ok {n : Nat} {t : Tab} (ht : TabOk t (run Try.prog own kp X n)) : ∀ (p1 : Int) (p2 : Int) r, cmp_Compare_int t n p1 p2 = some r → run Try.prog own kp X (n + 1) 68 [(.t (.v (.int .i64 p1))), (.t (.v (.int .i64 p2)))] [] = some ((.t (.v (.int .i64 r))), []) := by
  intro p1 p2 r h
  obtain ⟨a1, rfl⟩ : ∃ z_, z_ = p1 := ⟨_, rfl⟩
  obtain ⟨a2, rfl⟩ : ∃ z_, z_ = p2 := ⟨_, rfl⟩
  rw [cmp_Compare_int] at h
  rcases h1 : t.cmp_isNaN_int a1 with _ | a3
  · rw [h1] at h; cases h
  rw [h1] at h
  dsimp only at h
  rcases h2 : t.cmp_isNaN_int a2 with _ | a4
  · rw [h2] at h; cases h
  rw [h2] at h
  dsimp only at h
  by_cases h3 : a3 = true
  · rw [if_pos h3] at h
    by_cases h4 : a4 = true
    · rw [if_pos h4] at h
      rw [← Option.some.inj h]
      exact run_path Try.func68 (ob_c (ht.cmp_isNaN_int _ _ h1) (ob_c (ht.cmp_isNaN_int _ _ h2) (ob_b h3 (ob_b h4 ob)))) (by kernel_rfl)
    · rw [if_neg h4] at h
      replace h4 := Bool.eq_false_iff.2 h4
      rw [← Option.some.inj h]
      exact run_path Try.func68 (ob_c (ht.cmp_isNaN_int _ _ h1) (ob_c (ht.cmp_isNaN_int _ _ h2) (ob_b h3 (ob_b h4 ob)))) (by kernel_rfl)
  · rw [if_neg h3] at h
    replace h3 := Bool.eq_false_iff.2 h3
    by_cases h5 : a4 = true
    · rw [if_pos h5] at h
      rw [← Option.some.inj h]
      exact run_path Try.func68 (ob_c (ht.cmp_isNaN_int _ _ h1) (ob_c (ht.cmp_isNaN_int _ _ h2) (ob_b h3 (ob_b h5 ob)))) (by kernel_rfl)
    · rw [if_neg h5] at h
      replace h5 := Bool.eq_false_iff.2 h5
      by_cases h6 : (decide (a1 < a2)) = true
      · rw [if_pos h6] at h
        rw [← Option.some.inj h]
        exact run_path Try.func68 (ob_c (ht.cmp_isNaN_int _ _ h1) (ob_c (ht.cmp_isNaN_int _ _ h2) (ob_b h3 (ob_b h5 (ob_b h6 ob))))) (by kernel_rfl)
      · rw [if_neg h6] at h
        replace h6 := Bool.eq_false_iff.2 h6
        by_cases h7 : (decide (a1 > a2)) = true
        · rw [if_pos h7] at h
          rw [← Option.some.inj h]
          exact run_path Try.func68 (ob_c (ht.cmp_isNaN_int _ _ h1) (ob_c (ht.cmp_isNaN_int _ _ h2) (ob_b h3 (ob_b h5 (ob_b h6 (ob_b h7 ob)))))) (by kernel_rfl)
        · rw [if_neg h7] at h
          replace h7 := Bool.eq_false_iff.2 h7
          rw [← Option.some.inj h]
          exact run_path Try.func68 (ob_c (ht.cmp_isNaN_int _ _ h1) (ob_c (ht.cmp_isNaN_int _ _ h2) (ob_b h3 (ob_b h5 (ob_b h6 (ob_b h7 ob)))))) (by kernel_rfl)
theorem strings_Compare.ok {n : Nat} {t : Tab} (ht : TabOk t (run Try.prog own kp X n)) : ∀ (p1 : ByteArray) (p2 : ByteArray) r, strings_Compare t n p1 p2 = some r → run Try.prog own kp X (n + 1) 69 [(.t (.v (.string p1))), (.t (.v (.string p2)))] [] = some ((.t (.v (.int .i64 r))), []) := by
  intro p1 p2 r h
  obtain ⟨a1, rfl⟩ : ∃ z_, z_ = p1 := ⟨_, rfl⟩
  obtain ⟨a2, rfl⟩ : ∃ z_, z_ = p2 := ⟨_, rfl⟩
  rw [strings_Compare] at h
  obtain ⟨a3, rfl⟩ : ∃ z_, z_ = r := ⟨_, rfl⟩
  have h1 := h
  exact run_path Try.func69 (ob_c (ht.bytealg_CompareString _ _ _ h1) ob) (by kernel_rfl)
theorem cmp_Or_int_l1.okL {t : Tab} {call : FuncId → List AV → List AV → Option (AV × List AV)} (ht : TabOk t call) (n : Nat) : ∀ (k : Nat) (a1 : Int) (a2 : List Int) (a3 : Int) (a4 : Int) (r : Int ⊕ (Int × (List Int) × Int × Int × Bool)), cmp_Or_int_l1 t n k a1 a2 a3 a4 = some r → loopN (exec (env Try.prog 67 Try.f67 call) n (sub [1, 1, 0, 1, 0, 0] (bodyOf Try.f67))) k (mkSt 18 18 [(3, (.t (.v (.int .i64 a1)))), (6, (.t (.sl false 1 (ints_i64 a2)))), (7, (.t (.v (.int .i64 a3)))), (8, (.t (.v (.int .i64 a4))))] []) = some (cmp_Or_int_l1.to r)
  | 0, a1, a2, a3, a4, r, h => by rw [cmp_Or_int_l1] at h; cases h
  | k + 1, a1, a2, a3, a4, r, h => by
    rw [cmp_Or_int_l1] at h
    by_cases h1 : (decide (a4 < a3)) = true
    · rw [if_pos h1] at h
      by_cases h2 : (decide (0 ≤ (a4 : Int))) = true
      case neg => rw [if_neg h2] at h; cases h
      rw [if_pos h2] at h
      rcases h3 : a2[(a4 : Int).toNat]? with _ | a5
      · rw [h3] at h; cases h
      rw [h3] at h
      dsimp only at h
      by_cases h4 : (a5 != a1) = true
      · rw [if_pos h4] at h
        rw [← Option.some.inj h]
        exact loop_out (path (ob_b h1 (ob_n h2 (ob_t (look_ts ints_i64_map h3) (ob_b h4 ob)))) (by kernel_rfl)) (fun h => by cases h)
      · rw [if_neg h4] at h
        replace h4 := Bool.eq_false_iff.2 h4
        exact loop_more (path (ob_b h1 (ob_n h2 (ob_t (look_ts ints_i64_map h3) (ob_b h4 ob)))) (by kernel_rfl)) (cmp_Or_int_l1.okL ht n k _ _ _ _ _ h)
    · rw [if_neg h1] at h
      replace h1 := Bool.eq_false_iff.2 h1
      rw [← Option.some.inj h]
      exact loop_out (path (ob_b h1 ob) (by kernel_rfl)) (fun h => by cases h)
theorem cmp_Or_int_l1.ok {t : Tab} {call : FuncId → List AV → List AV → Option (AV × List AV)} (ht : TabOk t call) (n : Nat) (a1 : Int) (a2 : List Int) (a3 : Int) (a4 : Int) (r : Int ⊕ (Int × (List Int) × Int × Int × Bool)) (h : cmp_Or_int_l1 t n n a1 a2 a3 a4 = some r) : exec (env Try.prog 67 Try.f67 call) n (sub [1, 1, 0, 1, 0] (bodyOf Try.f67)) (mkSt 18 18 [(3, (.t (.v (.int .i64 a1)))), (6, (.t (.sl false 1 (ints_i64 a2)))), (7, (.t (.v (.int .i64 a3)))), (8, (.t (.v (.int .i64 a4))))] []) = some (cmp_Or_int_l1.to r) := by
  have e1 : sub [1, 1, 0, 1, 0] (bodyOf Try.f67) = .loop (sub [1, 1, 0, 1, 0, 0] (bodyOf Try.f67)) := by kernel_rfl
  rw [e1, exec]
  exact cmp_Or_int_l1.okL ht n n a1 a2 a3 a4 r h
end Go.Proofs.Ytcgckbjdadmcmaa.W
