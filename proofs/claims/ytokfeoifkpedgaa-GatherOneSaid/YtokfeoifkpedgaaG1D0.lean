/- The proofs of it, part 0. -/
import Derived.Test.YtokfeoifkpedgaaG1C
namespace Go.Proofs.Ytokfeoifkpedgaa.W
open Go.Proofs.Ytokfeoifkpedgaa.Flat
set_option linter.unusedVariables false
set_option linter.unusedSimpArgs false
set_option smartUnfolding false
attribute [local irreducible] gather_Fold_j1 gather_wide_add_j1 law16_many_j2 quoI ref01_Num_Int_j2 ref01_Num_Plus_j2 ref01_Num_Plus_j3 ref01_Num_Plus_j4 ref01_Num_Plus_j6 ref01_Num_Times_j3 ref01_Num_Times_j4 ref01_Of_j2 ref01_Of_j3 ref01_trim_j2 ref02_Count_j2 ref02_Count_j5 ref02_compare_j3 ref02_rows_j2 ref02_texts_j2 ref16_Ends_j2 ref16_Ends_j3 ref16_Ends_j5 remI shrI slices_MaxFunc_gather_Ends_1_j1 slices_MinFunc_gather_Ends_1_j1 strAt
variable {t : Tab} {call : FuncId → List AV → List AV → Option (AV × List AV)}
theorem law16_GatherOne.ok {n : Nat} {t : Tab} (ht : TabOk t (run Try.prog own kp X n)) : ∀ (p1 : List GMany) r, law16_GatherOne t n p1 = some r → run Try.prog own kp X (n + 1) 3 [(Sl 6 (GMany.ts p1))] [] = some ((Bo r), []) := by
 intro p1 r h
 obtain ⟨a1, rfl⟩ : ∃ z_, z_ = p1 := ⟨_, rfl⟩
 rw [law16_GatherOne] at h
 obtain ⟨a2, h1, h⟩ := sm h
 rcases fk h with ⟨h2, h⟩ | ⟨h2, h⟩
 ·obtain ⟨a3, rfl⟩ : ∃ z_, z_ = r := ⟨_, rfl⟩
  have h3 := h
  exact run_path Try.func3 (ob_c (ht.law16_many _ _ h1) (ob_b h2 (ob_c (ht.law16_known _ h3) ob))) (by kernel_rfl)
 ·obtain ⟨⟨a4, a5, a6⟩, h4, h⟩ := sm h
  obtain ⟨⟨a7, a8, a9⟩, h5, h⟩ := sm h
  obtain ⟨⟨⟨a10, a11, a12, a13, a14⟩, ⟨a15, a16, a17, a18, a19⟩, a20⟩, h6, h⟩ := sm h
  obtain ⟨⟨⟨a21, a22, a23, a24, a25⟩, ⟨a26, a27, a28, a29, a30⟩, a31⟩, h7, h⟩ := sm h
  obtain ⟨⟨⟨a32, a33, a34, a35, a36⟩, a37⟩, h8, h⟩ := sm h
  obtain ⟨⟨⟨a38, a39, a40, a41, a42⟩, a43⟩, h9, h⟩ := sm h
  have o8 {os} (x : Obls (env Try.prog 3 Try.f3 (run Try.prog own kp X n)) n os) := ob_c (ht.law16_many _ _ h1) (ob_b h2 (ob_c (ht.gather_Sum _ _ h4) (ob_c (ht.ref16_Sum _ _ h5) (ob_c (ht.gather_Ends _ _ h6) (ob_c (ht.ref16_Ends _ _ h7) (ob_c (ht.gather_Fold _ _ h8) (ob_c (ht.ref16_Fold _ _ h9) x)))))))
  rcases fk h with ⟨h10, h⟩ | ⟨h10, h⟩
  ·have o12 {os} (x : Obls (env Try.prog 3 Try.f3 (run Try.prog own kp X n)) n os) := o8 (ob_b4 h10 x)
   rcases fk h with ⟨h11, h⟩ | ⟨h11, h⟩
   ·have o16 {os} (x : Obls (env Try.prog 3 Try.f3 (run Try.prog own kp X n)) n os) := o12 (ob_b4 h11 x)
    rcases fk h with ⟨h12, h⟩ | ⟨h12, h⟩
    ·obtain ⟨a44, h13, h⟩ := sm h
     have o21 {os} (x : Obls (env Try.prog 3 Try.f3 (run Try.prog own kp X n)) n os) := o16 (ob_b3 h12 (ob_c (ht.ref02_Same _ _ _ h13) (ob_b h12 x)))
     rcases fk h with ⟨h14, h⟩ | ⟨h14, h⟩
     ·obtain ⟨a45, h15, h⟩ := sm h
      have o26 {os} (x : Obls (env Try.prog 3 Try.f3 (run Try.prog own kp X n)) n os) := o21 (ob_b3 h14 (ob_c (ht.ref02_Same _ _ _ h15) (ob_b h14 x)))
      rcases fk h with ⟨h16, h⟩ | ⟨h16, h⟩
      ·rcases fk h with ⟨h17, h⟩ | ⟨h17, h⟩
       ·obtain ⟨a46, h18, h⟩ := sm h
        have o35 {os} (x : Obls (env Try.prog 3 Try.f3 (run Try.prog own kp X n)) n os) := o26 (ob_b4 h16 (ob_b3 h17 (ob_c (ht.ref02_Same _ _ _ h18) (ob_b h17 x))))
        rcases fk h with ⟨h19, h⟩ | ⟨h19, h⟩
        ·rcases fk h with ⟨h20, h⟩ | ⟨h20, h⟩
         ·obtain ⟨a47, rfl⟩ : ∃ z_, z_ = r := ⟨_, rfl⟩
          have h21 := h
          exact run_path Try.func3 (o35 (ob_b4 h19 (ob_b h20 (ob_c (ht.law16_known _ h21) (ob_b h20 ob))))) (by kernel_rfl)
         ·cases h
          exact run_path Try.func3 (o35 (ob_b4 h19 (ob_b2 h20 ob))) (by kernel_rfl)
        ·cases h
         exact run_path Try.func3 (o35 (ob_b4 h19 (ob_b2 (rfl : false = false) ob))) (by kernel_rfl)
       ·cases h
        exact run_path Try.func3 (o26 (ob_b4 h16 (ob_b4 h17 (ob_b4 (rfl : false = false) (ob_b2 (rfl : false = false) ob))))) (by kernel_rfl)
      ·cases h
       exact run_path Try.func3 (o26 (ob_b4 h16 (ob_b4 (rfl : false = false) (ob_b4 (rfl : false = false) (ob_b2 (rfl : false = false) ob))))) (by kernel_rfl)
     ·cases h
      exact run_path Try.func3 (o21 (ob_b4 h14 (ob_b4 (rfl : false = false) (ob_b4 (rfl : false = false) (ob_b4 (rfl : false = false) (ob_b2 (rfl : false = false) ob)))))) (by kernel_rfl)
    ·cases h
     exact run_path Try.func3 (o16 (ob_b4 h12 (ob_b4 (rfl : false = false) (ob_b4 (rfl : false = false) (ob_b4 (rfl : false = false) (ob_b4 (rfl : false = false) (ob_b2 (rfl : false = false) ob))))))) (by kernel_rfl)
   ·cases h
    exact run_path Try.func3 (o12 (ob_b4 h11 (ob_b4 (rfl : false = false) (ob_b4 (rfl : false = false) (ob_b4 (rfl : false = false) (ob_b4 (rfl : false = false) (ob_b4 (rfl : false = false) (ob_b2 (rfl : false = false) ob)))))))) (by kernel_rfl)
  ·cases h
   exact run_path Try.func3 (o8 (ob_b4 h10 (ob_b4 (rfl : false = false) (ob_b4 (rfl : false = false) (ob_b4 (rfl : false = false) (ob_b4 (rfl : false = false) (ob_b4 (rfl : false = false) (ob_b4 (rfl : false = false) (ob_b2 (rfl : false = false) ob))))))))) (by kernel_rfl)
theorem law16_many_j2.ok (ht : TabOk t call) (n : Nat) (a1 : List GMany) (a2 a3 : Int) (r : _) (h : law16_many_j2 t n a1 a2 a3 = some r) : exec (env Try.prog 8 Try.f8 call) n (sub [1, 1, 0, 1, 0, 0, 1] (bodyOf Try.f8)) (mkSt 25 25 [(0, (Sl 6 (GMany.ts a1))), (3, (I6 a2)), (4, (I6 a3))] []) = some (law16_many_j2.to r) := by
 rw [law16_many_j2] at h
 obtain ⟨h1, h⟩ := ck h
 obtain ⟨⟨⟨a4, a5, a6, a7, a8⟩, a9⟩, h2, h⟩ := sm h
 obtain ⟨a10, h3, h⟩ := sm h
 cases h
 exact path (ob_n h1 (ob_t (look_ts GMany.ts_map h2) (ob_c (ht.ref02_Count _ _ _ h3) ob))) (by kernel_rfl)
theorem law16_many_l1.okL (ht : TabOk t call) (n : Nat) : ∀ (k : Nat) (a1 : List GMany) (a2 a3 : Int) (r : _), law16_many_l1 t n k a1 a2 a3 = some r → loopN (exec (env Try.prog 8 Try.f8 call) n (sub [1, 1, 0, 1, 0, 0] (bodyOf Try.f8))) k (mkSt 25 25 [(0, (Sl 6 (GMany.ts a1))), (3, (I6 a2)), (4, (I6 a3))] []) = some (law16_many_l1.to r)
 | 0, a1, a2, a3, r, h => by rw [law16_many_l1] at h; cases h
 | k + 1, a1, a2, a3, r, h => by
  rw [law16_many_l1] at h
  rcases fk h with ⟨h1, h⟩ | ⟨h1, h⟩
  ·rcases fk h with ⟨h2, h⟩ | ⟨h2, h⟩
   ·obtain ⟨⟨a4, a5, a6⟩, h3, h⟩ := sm h
    exact loop_more (path (ob_v (len_ts GMany.ts_map (l := a1)) (ob_b3 h1 (ob_b h2 (ob_j (law16_many_j2.ok ht n _ _ _ _ h3) ob)))) (by kernel_rfl)) (law16_many_l1.okL ht n k _ _ _ _ h)
   ·cases h
    exact loop_out (path (ob_v (len_ts GMany.ts_map (l := a1)) (ob_b3 h1 (ob_b h2 ob))) (by kernel_rfl)) (fun h => by cases h)
  ·cases h
   exact loop_out (path (ob_v (len_ts GMany.ts_map (l := a1)) (ob_b3 h1 (ob_b (rfl : false = false) ob))) (by kernel_rfl)) (fun h => by cases h)
theorem law16_many.ok {n : Nat} {t : Tab} (ht : TabOk t (run Try.prog own kp X n)) : ∀ (p1 : List GMany) r, law16_many t n p1 = some r → run Try.prog own kp X (n + 1) 8 [(Sl 6 (GMany.ts p1))] [] = some ((Bo r), []) := by
 intro p1 r h
 obtain ⟨a1, rfl⟩ : ∃ z_, z_ = p1 := ⟨_, rfl⟩
 rw [law16_many] at h
 obtain ⟨⟨a2, a3, a4, a5⟩, h1, h⟩ := sm h
 cases h
 exact run_path Try.func8 (ob_k (lk (sub [1, 1, 0, 1, 0] (bodyOf Try.f8)) (by kernel_rfl) (law16_many_l1.okL ht n n _ _ _ _ h1)) ob) (by kernel_rfl)
theorem gather_Sum_l1.okL (ht : TabOk t call) (n : Nat) : ∀ (k : Nat) (a1 a2 : List GMany) (a3 a4 a5 a6 : Int) (r : _), gather_Sum_l1 t n k a1 a2 a3 a4 a5 a6 = some r → loopN (exec (env Try.prog 10 Try.f10 call) n (sub [1, 1, 1, 0, 1, 0, 0] (bodyOf Try.f10))) k (mkSt 49 49 [(0, (Sl 6 (GMany.ts a1))), (7, (.ptr 7 0 [] 0)), (19, (Sl 6 (GMany.ts a2))), (20, (I6 a3)), (21, (I6 a4))] [(7, (.t (.st [(.v (.int .u64 a5)), (.v (.int .u64 a6))])))]) = some (gather_Sum_l1.to r)
 | 0, a1, a2, a3, a4, a5, a6, r, h => by rw [gather_Sum_l1] at h; cases h
 | k + 1, a1, a2, a3, a4, a5, a6, r, h => by
  rw [gather_Sum_l1] at h
  rcases fk h with ⟨h1, h⟩ | ⟨h1, h⟩
  ·obtain ⟨h2, h⟩ := ck h
   obtain ⟨⟨⟨a7, a8, a9, a10, a11⟩, a12⟩, h3, h⟩ := sm h
   rcases fk h with ⟨h4, h⟩ | ⟨h4, h⟩
   ·cases h
    exact loop_out (path (ob_b h1 (ob_n h2 (ob_t (look_ts GMany.ts_map h3) (ob_b h4 ob)))) (by kernel_rfl)) (fun h => by cases h)
   ·obtain ⟨⟨a13, a14⟩, h5, h⟩ := sm h
    exact loop_more (path (ob_b h1 (ob_n h2 (ob_t (look_ts GMany.ts_map h3) (ob_b h4 (ob_c (ht.gather_wide_add _ _ _ _ h5) ob))))) (by kernel_rfl)) (gather_Sum_l1.okL ht n k _ _ _ _ _ _ _ h)
  ·cases h
   exact loop_out (path (ob_b h1 ob) (by kernel_rfl)) (fun h => by cases h)
theorem gather_Sum_j2.ok (ht : TabOk t call) (n : Nat) (a1 : List GMany) (a2 a3 : Int) (r : _) (h : gather_Sum_j2 t n a1 a2 a3 = some r) : exec (env Try.prog 10 Try.f10 call) n (sub [1, 1, 1, 1] (bodyOf Try.f10)) (mkSt 49 49 [(0, (Sl 6 (GMany.ts a1))), (7, (.ptr 7 0 [] 0))] [(7, (.t (.st [(.v (.int .u64 a2)), (.v (.int .u64 a3))])))]) = some (gather_Sum_j2.to r) := by
 rw [gather_Sum_j2] at h
 obtain ⟨a4, h1, h⟩ := sm h
 rcases fk h with ⟨h2, h⟩ | ⟨h2, h⟩
 ·cases h
  exact path (ob_v (shr_ok (P := Try.prog) (t := 3) (x := (.tmp 41)) (y := (.const (.int .u64 63))) (k' := .u64) h1) (ob_b h2 (ob_v (len_ts GMany.ts_map (l := a1)) ob))) (by kernel_rfl)
 ·cases h
  exact path (ob_v (shr_ok (P := Try.prog) (t := 3) (x := (.tmp 41)) (y := (.const (.int .u64 63))) (k' := .u64) h1) (ob_b h2 ob)) (by kernel_rfl)
theorem gather_Sum.ok {n : Nat} {t : Tab} (ht : TabOk t (run Try.prog own kp X n)) : ∀ (p1 : List GMany) r, gather_Sum t n p1 = some r → run Try.prog own kp X (n + 1) 10 [(Sl 6 (GMany.ts p1))] [] = some ((.tup [(.v (.int .i64 r.1)), (.v (.bool r.2.1)), (.v (.int .i64 r.2.2))]), []) := by
 intro p1 r h
 obtain ⟨a1, rfl⟩ : ∃ z_, z_ = p1 := ⟨_, rfl⟩
 rw [gather_Sum] at h
 obtain ⟨⟨a2, a3⟩, h1, h⟩ := sm h
 rcases fk h with ⟨h2, h⟩ | ⟨h2, h⟩
 ·cases h
  exact run_path Try.func10 (ob_c (ht.gather_size _ _ h1) (ob_b h2 ob)) (by kernel_rfl)
 ·obtain ⟨⟨a4, a5, a6⟩ | ⟨a7, a8, a9, a10, a11, a12, a13⟩, h3, h⟩ := sm h
  ·cases h
   exact run_path Try.func10 (ob_c (ht.gather_size _ _ h1) (ob_b h2 (ob_v (len_ts GMany.ts_map (l := a1)) (ob_k (lk (sub [1, 1, 1, 0, 1, 0] (bodyOf Try.f10)) (by kernel_rfl) (gather_Sum_l1.okL ht n n _ _ _ _ _ _ _ h3)) ob)))) (by kernel_rfl)
  ·obtain ⟨a14, a15, a16⟩ := r
   have h4 := h
   exact run_path Try.func10 (ob_c (ht.gather_size _ _ h1) (ob_b h2 (ob_v (len_ts GMany.ts_map (l := a1)) (ob_k (lk (sub [1, 1, 1, 0, 1, 0] (bodyOf Try.f10)) (by kernel_rfl) (gather_Sum_l1.okL ht n n _ _ _ _ _ _ _ h3)) (ob_j (gather_Sum_j2.ok ht n _ _ _ _ h4) ob))))) (by kernel_rfl)
theorem ref16_Sum_l1.okL (ht : TabOk t call) (n : Nat) : ∀ (k : Nat) (a1 : List GMany) (a2 : Int) (a3 : Bool) (a4 : List Int) (r : _), ref16_Sum_l1 t n k a1 a2 a3 a4 = some r → loopN (exec (env Try.prog 11 Try.f11 call) n (sub [1, 1, 1, 1, 0, 1, 0, 0] (bodyOf Try.f11))) k (mkSt 60 60 [(0, (Sl 6 (GMany.ts a1))), (7, (.ptr 7 0 [] 0)), (8, (I6 a2))] [(7, (.t (.st [(.v (.bool a3)), (.sl false 1 (ints_i64 a4))])))]) = some (ref16_Sum_l1.to r)
 | 0, a1, a2, a3, a4, r, h => by rw [ref16_Sum_l1] at h; cases h
 | k + 1, a1, a2, a3, a4, r, h => by
  rw [ref16_Sum_l1] at h
  rcases fk h with ⟨h1, h⟩ | ⟨h1, h⟩
  ·obtain ⟨h2, h⟩ := ck h
   obtain ⟨⟨⟨a5, a6, a7, a8, a9⟩, a10⟩, h3, h⟩ := sm h
   rcases fk h with ⟨h4, h⟩ | ⟨h4, h⟩
   ·cases h
    exact loop_out (path (ob_v (len_ts GMany.ts_map (l := a1)) (ob_b h1 (ob_n h2 (ob_t (look_ts GMany.ts_map h3) (ob_b h4 ob))))) (by kernel_rfl)) (fun h => by cases h)
   ·obtain ⟨⟨a11, a12⟩, h5, h⟩ := sm h
    obtain ⟨⟨a13, a14⟩, h6, h⟩ := sm h
    obtain ⟨⟨a15, a16⟩, h7, h⟩ := sm h
    obtain ⟨⟨a17, a18⟩, h8, h⟩ := sm h
    exact loop_more (path (ob_v (len_ts GMany.ts_map (l := a1)) (ob_b h1 (ob_n h2 (ob_t (look_ts GMany.ts_map h3) (ob_b h4 (ob_n h2 (ob_t (look_ts GMany.ts_map h3) (ob_c (ht.ref01_Of _ _ h5) (ob_n h2 (ob_t (look_ts GMany.ts_map h3) (ob_c (ht.ref01_Of _ _ h6) (ob_c (ht.ref01_Num_Times _ _ _ h7) (ob_c (ht.ref01_Num_Plus _ _ _ h8) ob))))))))))))) (by kernel_rfl)) (ref16_Sum_l1.okL ht n k _ _ _ _ _ h)
  ·cases h
   exact loop_out (path (ob_v (len_ts GMany.ts_map (l := a1)) (ob_b h1 ob)) (by kernel_rfl)) (fun h => by cases h)
theorem ref16_Sum_j2.ok (ht : TabOk t call) (n : Nat) (a1 : List GMany) (a2 : Bool) (a3 : List Int) (r : _) (h : ref16_Sum_j2 t n a1 a2 a3 = some r) : exec (env Try.prog 11 Try.f11 call) n (sub [1, 1, 1, 1, 1] (bodyOf Try.f11)) (mkSt 60 60 [(0, (Sl 6 (GMany.ts a1))), (7, (.ptr 7 0 [] 0))] [(7, (.t (.st [(.v (.bool a2)), (.sl false 1 (ints_i64 a3))])))]) = some (ref16_Sum_j2.to r) := by
 rw [ref16_Sum_j2] at h
 obtain ⟨⟨a4, a5⟩, h1, h⟩ := sm h
 rcases fk h with ⟨h2, h⟩ | ⟨h2, h⟩
 ·cases h
  exact path (ob_c (ht.ref01_Num_Int _ _ h1) (ob_b (congrArg (!·) h2) (ob_v (len_ts GMany.ts_map (l := a1)) ob))) (by kernel_rfl)
 ·cases h
  exact path (ob_c (ht.ref01_Num_Int _ _ h1) (ob_b (congrArg (!·) h2) ob)) (by kernel_rfl)
theorem ref16_Sum.ok {n : Nat} {t : Tab} (ht : TabOk t (run Try.prog own kp X n)) : ∀ (p1 : List GMany) r, ref16_Sum t n p1 = some r → run Try.prog own kp X (n + 1) 11 [(Sl 6 (GMany.ts p1))] [] = some ((.tup [(.v (.int .i64 r.1)), (.v (.bool r.2.1)), (.v (.int .i64 r.2.2))]), []) := by
 intro p1 r h
 obtain ⟨a1, rfl⟩ : ∃ z_, z_ = p1 := ⟨_, rfl⟩
 rw [ref16_Sum] at h
 obtain ⟨⟨a2, a3⟩, h1, h⟩ := sm h
 rcases fk h with ⟨h2, h⟩ | ⟨h2, h⟩
 ·cases h
  exact run_path Try.func11 (ob_c (ht.ref16_Size _ _ h1) (ob_b h2 ob)) (by kernel_rfl)
 ·obtain ⟨⟨a4, a5, a6⟩ | ⟨a7, a8, a9, a10, a11⟩, h3, h⟩ := sm h
  ·cases h
   exact run_path Try.func11 (ob_c (ht.ref16_Size _ _ h1) (ob_b h2 (ob_k (lk (sub [1, 1, 1, 1, 0, 1, 0] (bodyOf Try.f11)) (by kernel_rfl) (ref16_Sum_l1.okL ht n n _ _ _ _ _ h3)) ob))) (by kernel_rfl)
  ·obtain ⟨a12, a13, a14⟩ := r
   have h4 := h
   exact run_path Try.func11 (ob_c (ht.ref16_Size _ _ h1) (ob_b h2 (ob_k (lk (sub [1, 1, 1, 1, 0, 1, 0] (bodyOf Try.f11)) (by kernel_rfl) (ref16_Sum_l1.okL ht n n _ _ _ _ _ h3)) (ob_j (ref16_Sum_j2.ok ht n _ _ _ _ h4) ob)))) (by kernel_rfl)
theorem gather_Ends.ok {n : Nat} {t : Tab} (ht : TabOk t (run Try.prog own kp X n)) : ∀ (p1 : List GMany) r, gather_Ends t n p1 = some r → run Try.prog own kp X (n + 1) 12 [(Sl 6 (GMany.ts p1))] [] = some ((.tup [(GValue.t r.1), (GValue.t r.2.1), (.v (.bool r.2.2))]), []) := by
 intro p1 r h
 obtain ⟨a1, rfl⟩ : ∃ z_, z_ = p1 := ⟨_, rfl⟩
 rw [gather_Ends] at h
 rcases fk h with ⟨h1, h⟩ | ⟨h1, h⟩
 ·cases h
  exact run_path Try.func12 (ob_v (len_ts GMany.ts_map (l := a1)) (ob_b h1 ob)) (by kernel_rfl)
 ·obtain ⟨⟨⟨a2, a3, a4, a5, a6⟩, a7⟩, h2, h⟩ := sm h
  obtain ⟨⟨a8, a9, a10, a11, a12⟩, h3, h⟩ := sm h
  obtain ⟨⟨⟨a13, a14, a15, a16, a17⟩, a18⟩, h4, h⟩ := sm h
  obtain ⟨⟨a19, a20, a21, a22, a23⟩, h5, h⟩ := sm h
  cases h
  exact run_path Try.func12 (ob_v (len_ts GMany.ts_map (l := a1)) (ob_b h1 (ob_c (ht.slices_MinFunc_gather_Ends_1 _ _ h2) (ob_c (ht.value_Copy _ _ h3) (ob_c (ht.slices_MaxFunc_gather_Ends_1 _ _ h4) (ob_c (ht.value_Copy _ _ h5) ob)))))) (by kernel_rfl)
theorem ref16_Ends_j2.ok (ht : TabOk t call) (n : Nat) (a1 : List GMany) (a2 : Int) (a3 : Bool) (a4 a5 : Int) (a6 : ByteArray) (a7 a8 : List GValue) (a9 a10 : Int) (a11 : ByteArray) (a12 a13 : List GValue) (a14 a15 : Int) (a16 : ByteArray) (a17 a18 : List GValue) (a19 a20 : Int) (a21 : ByteArray) (a22 a23 : List GValue) (r : _) (h : ref16_Ends_j2 t n a1 a2 a3 a4 a5 a6 a7 a8 a9 a10 a11 a12 a13 a14 a15 a16 a17 a18 a19 a20 a21 a22 a23 = some r) : exec (env Try.prog 13 Try.f13 call) n (sub [1, 1, 1, 0, 1, 0, 0, 1, 0, 0, 0, 1] (bodyOf Try.f13)) (mkSt 55 55 [(0, (Sl 6 (GMany.ts a1))), (2, (.ptr 2 0 [] 0)), (3, (.ptr 3 0 [] 0)), (5, (.ptr 5 0 [] 0)), (6, (.ptr 6 0 [] 0)), (7, (I6 a2)), (27, (Bo a3))] [(2, (.t (.st [(.v (.int .i64 a4)), (.v (.int .i64 a5)), (.v (.string a6)), (.sl false 5 (GValue.ts a7)), (.sl false 5 (GValue.ts a8))]))), (3, (.t (.st [(.v (.int .i64 a9)), (.v (.int .i64 a10)), (.v (.string a11)), (.sl false 5 (GValue.ts a12)), (.sl false 5 (GValue.ts a13))]))), (5, (.t (.st [(.v (.int .i64 a14)), (.v (.int .i64 a15)), (.v (.string a16)), (.sl false 5 (GValue.ts a17)), (.sl false 5 (GValue.ts a18))]))), (6, (.t (.st [(.v (.int .i64 a19)), (.v (.int .i64 a20)), (.v (.string a21)), (.sl false 5 (GValue.ts a22)), (.sl false 5 (GValue.ts a23))])))]) = some (ref16_Ends_j2.to r) := by
 rw [ref16_Ends_j2] at h
 rcases fk h with ⟨h1, h⟩ | ⟨h1, h⟩
 ·obtain ⟨h2, h⟩ := ck h
  obtain ⟨⟨⟨a24, a25, a26, a27, a28⟩, a29⟩, h3, h⟩ := sm h
  cases h
  exact path (ob_b h1 (ob_n h2 (ob_t (look_ts GMany.ts_map h3) ob))) (by kernel_rfl)
 ·cases h
  exact path (ob_b h1 ob) (by kernel_rfl)
theorem ref16_Ends_j4.ok (ht : TabOk t call) (n : Nat) (a1 : List GMany) (a2 : Int) (a3 : Bool) (a4 a5 : Int) (a6 : ByteArray) (a7 a8 : List GValue) (a9 a10 : Int) (a11 : ByteArray) (a12 a13 : List GValue) (a14 a15 : Int) (a16 : ByteArray) (a17 a18 : List GValue) (a19 a20 : Int) (a21 : ByteArray) (a22 a23 : List GValue) (r : _) (h : ref16_Ends_j4 t n a1 a2 a3 a4 a5 a6 a7 a8 a9 a10 a11 a12 a13 a14 a15 a16 a17 a18 a19 a20 a21 a22 a23 = some r) : exec (env Try.prog 13 Try.f13 call) n (sub [1, 1, 1, 0, 1, 0, 0, 1, 0, 0, 1, 1] (bodyOf Try.f13)) (mkSt 55 55 [(0, (Sl 6 (GMany.ts a1))), (2, (.ptr 2 0 [] 0)), (3, (.ptr 3 0 [] 0)), (5, (.ptr 5 0 [] 0)), (6, (.ptr 6 0 [] 0)), (7, (I6 a2)), (44, (Bo a3))] [(2, (.t (.st [(.v (.int .i64 a4)), (.v (.int .i64 a5)), (.v (.string a6)), (.sl false 5 (GValue.ts a7)), (.sl false 5 (GValue.ts a8))]))), (3, (.t (.st [(.v (.int .i64 a9)), (.v (.int .i64 a10)), (.v (.string a11)), (.sl false 5 (GValue.ts a12)), (.sl false 5 (GValue.ts a13))]))), (5, (.t (.st [(.v (.int .i64 a14)), (.v (.int .i64 a15)), (.v (.string a16)), (.sl false 5 (GValue.ts a17)), (.sl false 5 (GValue.ts a18))]))), (6, (.t (.st [(.v (.int .i64 a19)), (.v (.int .i64 a20)), (.v (.string a21)), (.sl false 5 (GValue.ts a22)), (.sl false 5 (GValue.ts a23))])))]) = some (ref16_Ends_j4.to r) := by
 rw [ref16_Ends_j4] at h
 rcases fk h with ⟨h1, h⟩ | ⟨h1, h⟩
 ·obtain ⟨h2, h⟩ := ck h
  obtain ⟨⟨⟨a24, a25, a26, a27, a28⟩, a29⟩, h3, h⟩ := sm h
  cases h
  exact path (ob_b h1 (ob_n h2 (ob_t (look_ts GMany.ts_map h3) ob))) (by kernel_rfl)
 ·cases h
  exact path (ob_b h1 ob) (by kernel_rfl)
theorem ref16_Ends_j3.ok (ht : TabOk t call) (n : Nat) (a1 : List GMany) (a2 a3 a4 : Int) (a5 : ByteArray) (a6 a7 : List GValue) (a8 a9 : Int) (a10 : ByteArray) (a11 a12 : List GValue) (a13 a14 : Int) (a15 : ByteArray) (a16 a17 : List GValue) (a18 a19 : Int) (a20 : ByteArray) (a21 a22 : List GValue) (r : _) (h : ref16_Ends_j3 t n a1 a2 a3 a4 a5 a6 a7 a8 a9 a10 a11 a12 a13 a14 a15 a16 a17 a18 a19 a20 a21 a22 = some r) : exec (env Try.prog 13 Try.f13 call) n (sub [1, 1, 1, 0, 1, 0, 0, 1, 0, 0, 1] (bodyOf Try.f13)) (mkSt 55 55 [(0, (Sl 6 (GMany.ts a1))), (2, (.ptr 2 0 [] 0)), (3, (.ptr 3 0 [] 0)), (5, (.ptr 5 0 [] 0)), (6, (.ptr 6 0 [] 0)), (7, (I6 a2))] [(2, (.t (.st [(.v (.int .i64 a3)), (.v (.int .i64 a4)), (.v (.string a5)), (.sl false 5 (GValue.ts a6)), (.sl false 5 (GValue.ts a7))]))), (3, (.t (.st [(.v (.int .i64 a8)), (.v (.int .i64 a9)), (.v (.string a10)), (.sl false 5 (GValue.ts a11)), (.sl false 5 (GValue.ts a12))]))), (5, (.t (.st [(.v (.int .i64 a13)), (.v (.int .i64 a14)), (.v (.string a15)), (.sl false 5 (GValue.ts a16)), (.sl false 5 (GValue.ts a17))]))), (6, (.t (.st [(.v (.int .i64 a18)), (.v (.int .i64 a19)), (.v (.string a20)), (.sl false 5 (GValue.ts a21)), (.sl false 5 (GValue.ts a22))])))]) = some (ref16_Ends_j3.to r) := by
 rw [ref16_Ends_j3] at h
 rcases fk h with ⟨h1, h⟩ | ⟨h1, h⟩
 ·obtain ⟨a23, a24, a25, a26, a27, a28, a29, a30, a31, a32, a33, a34, a35, a36, a37, a38, a39, a40, a41, a42, a43, a44⟩ := r
  have h2 := h
  exact path (ob_b4 h1 (ob_b4 h1 (ob_b h1 (ob_j (ref16_Ends_j4.ok ht n _ _ _ _ _ _ _ _ _ _ _ _ _ _ _ _ _ _ _ _ _ _ _ _ h2) ob)))) (by kernel_rfl)
 ·obtain ⟨h3, h⟩ := ck h
  obtain ⟨⟨⟨a45, a46, a47, a48, a49⟩, a50⟩, h4, h⟩ := sm h
  obtain ⟨a51, h5, h⟩ := sm h
  obtain ⟨a52, a53, a54, a55, a56, a57, a58, a59, a60, a61, a62, a63, a64, a65, a66, a67, a68, a69, a70, a71, a72, a73⟩ := r
  have h6 := h
  exact path (ob_b3 h1 (ob_n h3 (ob_t (look_ts GMany.ts_map h4) (ob_b4 h1 (ob_c (ht.ref02_Cmp _ _ _ h5) (ob_b2 h1 (ob_j (ref16_Ends_j4.ok ht n _ _ _ _ _ _ _ _ _ _ _ _ _ _ _ _ _ _ _ _ _ _ _ _ h6) ob))))))) (by kernel_rfl)
theorem ref16_Ends_l1.okL (ht : TabOk t call) (n : Nat) : ∀ (k : Nat) (a1 : List GMany) (a2 a3 a4 : Int) (a5 : ByteArray) (a6 a7 : List GValue) (a8 a9 : Int) (a10 : ByteArray) (a11 a12 : List GValue) (a13 a14 : Int) (a15 : ByteArray) (a16 a17 : List GValue) (a18 a19 : Int) (a20 : ByteArray) (a21 a22 : List GValue) (r : _), ref16_Ends_l1 t n k a1 a2 a3 a4 a5 a6 a7 a8 a9 a10 a11 a12 a13 a14 a15 a16 a17 a18 a19 a20 a21 a22 = some r → loopN (exec (env Try.prog 13 Try.f13 call) n (sub [1, 1, 1, 0, 1, 0, 0] (bodyOf Try.f13))) k (mkSt 55 55 [(0, (Sl 6 (GMany.ts a1))), (2, (.ptr 2 0 [] 0)), (3, (.ptr 3 0 [] 0)), (5, (.ptr 5 0 [] 0)), (6, (.ptr 6 0 [] 0)), (7, (I6 a2))] [(2, (.t (.st [(.v (.int .i64 a3)), (.v (.int .i64 a4)), (.v (.string a5)), (.sl false 5 (GValue.ts a6)), (.sl false 5 (GValue.ts a7))]))), (3, (.t (.st [(.v (.int .i64 a8)), (.v (.int .i64 a9)), (.v (.string a10)), (.sl false 5 (GValue.ts a11)), (.sl false 5 (GValue.ts a12))]))), (5, (.t (.st [(.v (.int .i64 a13)), (.v (.int .i64 a14)), (.v (.string a15)), (.sl false 5 (GValue.ts a16)), (.sl false 5 (GValue.ts a17))]))), (6, (.t (.st [(.v (.int .i64 a18)), (.v (.int .i64 a19)), (.v (.string a20)), (.sl false 5 (GValue.ts a21)), (.sl false 5 (GValue.ts a22))])))]) = some (ref16_Ends_l1.to r)
 | 0, a1, a2, a3, a4, a5, a6, a7, a8, a9, a10, a11, a12, a13, a14, a15, a16, a17, a18, a19, a20, a21, a22, r, h => by rw [ref16_Ends_l1] at h; cases h
 | k + 1, a1, a2, a3, a4, a5, a6, a7, a8, a9, a10, a11, a12, a13, a14, a15, a16, a17, a18, a19, a20, a21, a22, r, h => by
  rw [ref16_Ends_l1] at h
  rcases fk h with ⟨h1, h⟩ | ⟨h1, h⟩
  ·rcases fk h with ⟨h2, h⟩ | ⟨h2, h⟩
   ·obtain ⟨⟨a23, a24, a25, a26, a27, a28, a29, a30, a31, a32, a33, a34, a35, a36, a37, a38, a39, a40, a41, a42, a43, a44⟩, h3, h⟩ := sm h
    obtain ⟨⟨a45, a46, a47, a48, a49, a50, a51, a52, a53, a54, a55, a56, a57, a58, a59, a60, a61, a62, a63, a64, a65, a66⟩, h4, h⟩ := sm h
    exact loop_more (path (ob_v (len_ts GMany.ts_map (l := a1)) (ob_b h1 (ob_b4 h2 (ob_b4 h2 (ob_b h2 (ob_j (ref16_Ends_j2.ok ht n _ _ _ _ _ _ _ _ _ _ _ _ _ _ _ _ _ _ _ _ _ _ _ _ h3) (ob_j (ref16_Ends_j3.ok ht n _ _ _ _ _ _ _ _ _ _ _ _ _ _ _ _ _ _ _ _ _ _ _ h4) ob))))))) (by kernel_rfl)) (ref16_Ends_l1.okL ht n k _ _ _ _ _ _ _ _ _ _ _ _ _ _ _ _ _ _ _ _ _ _ _ h)
   ·obtain ⟨h5, h⟩ := ck h
    obtain ⟨⟨⟨a67, a68, a69, a70, a71⟩, a72⟩, h6, h⟩ := sm h
    obtain ⟨a73, h7, h⟩ := sm h
    obtain ⟨⟨a74, a75, a76, a77, a78, a79, a80, a81, a82, a83, a84, a85, a86, a87, a88, a89, a90, a91, a92, a93, a94, a95⟩, h8, h⟩ := sm h
    obtain ⟨⟨a96, a97, a98, a99, a100, a101, a102, a103, a104, a105, a106, a107, a108, a109, a110, a111, a112, a113, a114, a115, a116, a117⟩, h9, h⟩ := sm h
    exact loop_more (path (ob_v (len_ts GMany.ts_map (l := a1)) (ob_b h1 (ob_b3 h2 (ob_n h5 (ob_t (look_ts GMany.ts_map h6) (ob_b4 h2 (ob_c (ht.ref02_Cmp _ _ _ h7) (ob_b2 h2 (ob_j (ref16_Ends_j2.ok ht n _ _ _ _ _ _ _ _ _ _ _ _ _ _ _ _ _ _ _ _ _ _ _ _ h8) (ob_j (ref16_Ends_j3.ok ht n _ _ _ _ _ _ _ _ _ _ _ _ _ _ _ _ _ _ _ _ _ _ _ h9) ob)))))))))) (by kernel_rfl)) (ref16_Ends_l1.okL ht n k _ _ _ _ _ _ _ _ _ _ _ _ _ _ _ _ _ _ _ _ _ _ _ h)
  ·cases h
   exact loop_out (path (ob_v (len_ts GMany.ts_map (l := a1)) (ob_b h1 ob)) (by kernel_rfl)) (fun h => by cases h)
theorem ref16_Ends_j5.ok (ht : TabOk t call) (n : Nat) (a1 : List GMany) (a2 a3 : Int) (a4 : ByteArray) (a5 a6 : List GValue) (a7 a8 : Int) (a9 : ByteArray) (a10 a11 : List GValue) (a12 a13 : Int) (a14 : ByteArray) (a15 a16 : List GValue) (a17 a18 : Int) (a19 : ByteArray) (a20 a21 : List GValue) (r : _) (h : ref16_Ends_j5 t n a1 a2 a3 a4 a5 a6 a7 a8 a9 a10 a11 a12 a13 a14 a15 a16 a17 a18 a19 a20 a21 = some r) : exec (env Try.prog 13 Try.f13 call) n (sub [1, 1, 1, 1] (bodyOf Try.f13)) (mkSt 55 55 [(0, (Sl 6 (GMany.ts a1))), (2, (.ptr 2 0 [] 0)), (3, (.ptr 3 0 [] 0)), (5, (.ptr 5 0 [] 0)), (6, (.ptr 6 0 [] 0))] [(2, (.t (.st [(.v (.int .i64 a2)), (.v (.int .i64 a3)), (.v (.string a4)), (.sl false 5 (GValue.ts a5)), (.sl false 5 (GValue.ts a6))]))), (3, (.t (.st [(.v (.int .i64 a7)), (.v (.int .i64 a8)), (.v (.string a9)), (.sl false 5 (GValue.ts a10)), (.sl false 5 (GValue.ts a11))]))), (5, (.t (.st [(.v (.int .i64 a12)), (.v (.int .i64 a13)), (.v (.string a14)), (.sl false 5 (GValue.ts a15)), (.sl false 5 (GValue.ts a16))]))), (6, (.t (.st [(.v (.int .i64 a17)), (.v (.int .i64 a18)), (.v (.string a19)), (.sl false 5 (GValue.ts a20)), (.sl false 5 (GValue.ts a21))])))]) = some (ref16_Ends_j5.to r) := by
 rw [ref16_Ends_j5] at h
 cases h
 exact path (ob_v (len_ts GMany.ts_map (l := a1)) ob) (by kernel_rfl)
theorem ref16_Ends.ok {n : Nat} {t : Tab} (ht : TabOk t (run Try.prog own kp X n)) : ∀ (p1 : List GMany) r, ref16_Ends t n p1 = some r → run Try.prog own kp X (n + 1) 13 [(Sl 6 (GMany.ts p1))] [] = some ((.tup [(GValue.t r.1), (GValue.t r.2.1), (.v (.bool r.2.2))]), []) := by
 intro p1 r h
 obtain ⟨a1, rfl⟩ : ∃ z_, z_ = p1 := ⟨_, rfl⟩
 rw [ref16_Ends] at h
 obtain ⟨⟨a2, a3, a4, a5, a6, a7, a8, a9, a10, a11, a12, a13, a14, a15, a16, a17, a18, a19, a20, a21, a22, a23, a24⟩, h1, h⟩ := sm h
 obtain ⟨⟨a25, a26, a27, a28, a29, a30, a31, a32, a33, a34, a35⟩, h2, h⟩ := sm h
 cases h
 exact run_path Try.func13 (ob_k (lk (sub [1, 1, 1, 0, 1, 0] (bodyOf Try.f13)) (by kernel_rfl) (ref16_Ends_l1.okL ht n n _ _ _ _ _ _ _ _ _ _ _ _ _ _ _ _ _ _ _ _ _ _ _ h1)) (ob_j (ref16_Ends_j5.ok ht n _ _ _ _ _ _ _ _ _ _ _ _ _ _ _ _ _ _ _ _ _ _ h2) ob)) (by kernel_rfl)
theorem gather_Fold_l3.okL (ht : TabOk t call) (n : Nat) : ∀ (k : Nat) (a1 : List GMany) (a2 a3 a4 a5 a6 a7 : Int) (a8 : ByteArray) (a9 a10 : List GValue) (a11 a12 : Int) (a13 : ByteArray) (a14 a15 : List GValue) (a16 a17 : Int) (a18 : ByteArray) (a19 a20 : List GValue) (a21 : Int) (r : _), gather_Fold_l3 t n k a1 a2 a3 a4 a5 a6 a7 a8 a9 a10 a11 a12 a13 a14 a15 a16 a17 a18 a19 a20 a21 = some r → loopN (exec (env Try.prog 14 Try.f14 call) n (sub [1, 1, 1, 1, 1, 0, 1, 0, 0, 1, 1, 0, 0, 1, 1, 0, 0] (bodyOf Try.f14))) k (mkSt 46 46 [(2, (.ptr 2 0 [] 0)), (6, (.ptr 6 0 [] 0)), (8, (.ptr 8 0 [] 0)), (25, (Sl 6 (GMany.ts a1))), (26, (I6 a2)), (27, (I6 a3)), (32, (I6 a4)), (33, (I6 a5))] [(2, (.t (.st [(.v (.int .i64 a6)), (.v (.int .i64 a7)), (.v (.string a8)), (.sl false 5 (GValue.ts a9)), (.sl false 5 (GValue.ts a10))]))), (6, (.t (.st [(.v (.int .i64 a11)), (.v (.int .i64 a12)), (.v (.string a13)), (.sl true 5 (GValue.ts a14)), (.sl true 5 (GValue.ts a15))]))), (8, (.t (.st [(.st [(.v (.int .i64 a16)), (.v (.int .i64 a17)), (.v (.string a18)), (.sl false 5 (GValue.ts a19)), (.sl false 5 (GValue.ts a20))]), (.v (.int .i64 a21))])))]) = some (gather_Fold_l3.to r)
 | 0, a1, a2, a3, a4, a5, a6, a7, a8, a9, a10, a11, a12, a13, a14, a15, a16, a17, a18, a19, a20, a21, r, h => by rw [gather_Fold_l3] at h; cases h
 | k + 1, a1, a2, a3, a4, a5, a6, a7, a8, a9, a10, a11, a12, a13, a14, a15, a16, a17, a18, a19, a20, a21, r, h => by
  rw [gather_Fold_l3] at h
  rcases fk h with ⟨h1, h⟩ | ⟨h1, h⟩
  ·obtain ⟨⟨a22, a23, a24, a25, a26⟩, h2, h⟩ := sm h
   obtain ⟨h3, h⟩ := cl h
   exact loop_more (path (ob_b h1 (ob_c (ht.value_Copy _ _ h2) (ob_le (room_ts GValue.ts_map h3) (ob_l (app_ts GValue.ts_map (a := a14) (b := ([(GValue.mk a22 a23 a24 a25 a26)] : List GValue))) ob)))) (by kernel_rfl)) (gather_Fold_l3.okL ht n k _ _ _ _ _ _ _ _ _ _ _ _ _ _ _ _ _ _ _ _ _ _ h)
  ·cases h
   exact loop_out (path (ob_b h1 ob) (by kernel_rfl)) (fun h => by cases h)
theorem gather_Fold_l2.okL (ht : TabOk t call) (n : Nat) : ∀ (k : Nat) (a1 : List GMany) (a2 a3 a4 a5 : Int) (a6 : ByteArray) (a7 a8 : List GValue) (a9 a10 : Int) (a11 : ByteArray) (a12 a13 : List GValue) (r : _), gather_Fold_l2 t n k a1 a2 a3 a4 a5 a6 a7 a8 a9 a10 a11 a12 a13 = some r → loopN (exec (env Try.prog 14 Try.f14 call) n (sub [1, 1, 1, 1, 1, 0, 1, 0, 0] (bodyOf Try.f14))) k (mkSt 46 46 [(2, (.ptr 2 0 [] 0)), (6, (.ptr 6 0 [] 0)), (25, (Sl 6 (GMany.ts a1))), (26, (I6 a2)), (27, (I6 a3))] [(2, (.t (.st [(.v (.int .i64 a4)), (.v (.int .i64 a5)), (.v (.string a6)), (.sl false 5 (GValue.ts a7)), (.sl false 5 (GValue.ts a8))]))), (6, (.t (.st [(.v (.int .i64 a9)), (.v (.int .i64 a10)), (.v (.string a11)), (.sl true 5 (GValue.ts a12)), (.sl true 5 (GValue.ts a13))])))]) = some (gather_Fold_l2.to r)
 | 0, a1, a2, a3, a4, a5, a6, a7, a8, a9, a10, a11, a12, a13, r, h => by rw [gather_Fold_l2] at h; cases h
 | k + 1, a1, a2, a3, a4, a5, a6, a7, a8, a9, a10, a11, a12, a13, r, h => by
  rw [gather_Fold_l2] at h
  rcases fk h with ⟨h1, h⟩ | ⟨h1, h⟩
  ·obtain ⟨h2, h⟩ := ck h
   obtain ⟨⟨⟨a14, a15, a16, a17, a18⟩, a19⟩, h3, h⟩ := sm h
   obtain ⟨⟨a20, a21, a22, a23, a24, a25, a26, a27, a28, a29, a30, a31, a32, a33, a34, a35, a36, a37, a38, a39, a40, a41⟩, h4, h⟩ := sm h
   exact loop_more (path (ob_b h1 (ob_n h2 (ob_t (look_ts GMany.ts_map h3) (ob_k (lk (sub [1, 1, 1, 1, 1, 0, 1, 0, 0, 1, 1, 0, 0, 1, 1, 0] (bodyOf Try.f14)) (by kernel_rfl) (gather_Fold_l3.okL ht n n _ _ _ _ _ _ _ _ _ _ _ _ _ _ _ _ _ _ _ _ _ _ h4)) ob)))) (by kernel_rfl)) (gather_Fold_l2.okL ht n k _ _ _ _ _ _ _ _ _ _ _ _ _ _ h)
  ·cases h
   exact loop_out (path (ob_b h1 ob) (by kernel_rfl)) (fun h => by cases h)
theorem gather_Fold_j1.ok (ht : TabOk t call) (n : Nat) (a1 : List GMany) (a2 a3 a4 : Int) (a5 : ByteArray) (a6 a7 : List GValue) (r : _) (h : gather_Fold_j1 t n a1 a2 a3 a4 a5 a6 a7 = some r) : exec (env Try.prog 14 Try.f14 call) n (sub [1, 1, 1] (bodyOf Try.f14)) (mkSt 46 46 [(0, (Sl 6 (GMany.ts a1))), (2, (.ptr 2 0 [] 0)), (5, (I6 a2))] [(2, (.t (.st [(.v (.int .i64 a3)), (.v (.int .i64 a4)), (.v (.string a5)), (.sl false 5 (GValue.ts a6)), (.sl false 5 (GValue.ts a7))])))]) = some (gather_Fold_j1.to r) := by
 rw [gather_Fold_j1] at h
 rcases fk h with ⟨h1, h⟩ | ⟨h1, h⟩
 ·cases h
  exact path (ob_b h1 ob) (by kernel_rfl)
 ·obtain ⟨⟨a8, a9, a10, a11, a12, a13, a14, a15, a16, a17, a18, a19, a20, a21⟩, h2, h⟩ := sm h
  cases h
  exact path (ob_b h1 (ob_v (len_ts GMany.ts_map (l := a1)) (ob_k (lk (sub [1, 1, 1, 1, 1, 0, 1, 0] (bodyOf Try.f14)) (by kernel_rfl) (gather_Fold_l2.okL ht n n _ _ _ _ _ _ _ _ _ _ _ _ _ _ h2)) ob))) (by kernel_rfl)
theorem gather_Fold.ok {n : Nat} {t : Tab} (ht : TabOk t (run Try.prog own kp X n)) : ∀ (p1 : List GMany) r, gather_Fold t n p1 = some r → run Try.prog own kp X (n + 1) 14 [(Sl 6 (GMany.ts p1))] [] = some ((.tup [(GValue.t r.1), (.v (.int .i64 r.2))]), []) := by
 intro p1 r h
 obtain ⟨a1, rfl⟩ : ∃ z_, z_ = p1 := ⟨_, rfl⟩
 rw [gather_Fold] at h
 obtain ⟨⟨a2, a3⟩, h1, h⟩ := sm h
 rcases fk h with ⟨h2, h⟩ | ⟨h2, h⟩
 ·rcases fk h with ⟨h3, h⟩ | ⟨h3, h⟩
  ·obtain ⟨⟨a4, a5, a6, a7, a8, a9⟩, h4, h⟩ := sm h
   cases h
   exact run_path Try.func14 (ob_c (ht.gather_size _ _ h1) (ob_b3 h2 (ob_b h3 (ob_j (gather_Fold_j1.ok ht n _ _ _ _ _ _ _ _ h4) ob)))) (by kernel_rfl)
  ·obtain ⟨⟨a10, a11, a12, a13, a14, a15⟩, h5, h⟩ := sm h
   cases h
   exact run_path Try.func14 (ob_c (ht.gather_size _ _ h1) (ob_b3 h2 (ob_b h3 (ob_j (gather_Fold_j1.ok ht n _ _ _ _ _ _ _ _ h5) ob)))) (by kernel_rfl)
 ·obtain ⟨⟨a16, a17, a18, a19, a20, a21⟩, h6, h⟩ := sm h
  cases h
  exact run_path Try.func14 (ob_c (ht.gather_size _ _ h1) (ob_b3 h2 (ob_b (rfl : false = false) (ob_j (gather_Fold_j1.ok ht n _ _ _ _ _ _ _ _ h6) ob)))) (by kernel_rfl)
theorem ref16_Fold_l2.okL (ht : TabOk t call) (n : Nat) : ∀ (k : Nat) (a1 : List GMany) (a2 a3 a4 a5 : Int) (a6 : ByteArray) (a7 a8 : List GValue) (a9 a10 : Int) (a11 : ByteArray) (a12 a13 : List GValue) (r : _), ref16_Fold_l2 t n k a1 a2 a3 a4 a5 a6 a7 a8 a9 a10 a11 a12 a13 = some r → loopN (exec (env Try.prog 15 Try.f15 call) n (sub [1, 1, 1, 1, 1, 0, 1, 0, 0, 1, 0, 0, 1, 0, 0] (bodyOf Try.f15))) k (mkSt 48 48 [(0, (Sl 6 (GMany.ts a1))), (2, (.ptr 2 0 [] 0)), (6, (.ptr 6 0 [] 0)), (7, (I6 a2)), (8, (I6 a3))] [(2, (.t (.st [(.v (.int .i64 a4)), (.v (.int .i64 a5)), (.v (.string a6)), (.sl false 5 (GValue.ts a7)), (.sl false 5 (GValue.ts a8))]))), (6, (.t (.st [(.v (.int .i64 a9)), (.v (.int .i64 a10)), (.v (.string a11)), (.sl true 5 (GValue.ts a12)), (.sl true 5 (GValue.ts a13))])))]) = some (ref16_Fold_l2.to r)
 | 0, a1, a2, a3, a4, a5, a6, a7, a8, a9, a10, a11, a12, a13, r, h => by rw [ref16_Fold_l2] at h; cases h
 | k + 1, a1, a2, a3, a4, a5, a6, a7, a8, a9, a10, a11, a12, a13, r, h => by
  rw [ref16_Fold_l2] at h
  obtain ⟨h1, h⟩ := ck h
  obtain ⟨⟨⟨a14, a15, a16, a17, a18⟩, a19⟩, h2, h⟩ := sm h
  rcases fk h with ⟨h3, h⟩ | ⟨h3, h⟩
  ·obtain ⟨h4, h⟩ := cl h
   exact loop_more (path (ob_n h1 (ob_t (look_ts GMany.ts_map h2) (ob_b h3 (ob_n h1 (ob_t (look_ts GMany.ts_map h2) (ob_le (room_ts GValue.ts_map h4) (ob_l (app_ts GValue.ts_map (a := a12) (b := ([(GValue.mk a14 a15 a16 a17 a18)] : List GValue))) ob))))))) (by kernel_rfl)) (ref16_Fold_l2.okL ht n k _ _ _ _ _ _ _ _ _ _ _ _ _ _ h)
  ·cases h
   exact loop_out (path (ob_n h1 (ob_t (look_ts GMany.ts_map h2) (ob_b h3 ob))) (by kernel_rfl)) (fun h => by cases h)
theorem ref16_Fold_l1.okL (ht : TabOk t call) (n : Nat) : ∀ (k : Nat) (a1 : List GMany) (a2 a3 a4 : Int) (a5 : ByteArray) (a6 a7 : List GValue) (a8 a9 : Int) (a10 : ByteArray) (a11 a12 : List GValue) (r : _), ref16_Fold_l1 t n k a1 a2 a3 a4 a5 a6 a7 a8 a9 a10 a11 a12 = some r → loopN (exec (env Try.prog 15 Try.f15 call) n (sub [1, 1, 1, 1, 1, 0, 1, 0, 0] (bodyOf Try.f15))) k (mkSt 48 48 [(0, (Sl 6 (GMany.ts a1))), (2, (.ptr 2 0 [] 0)), (6, (.ptr 6 0 [] 0)), (7, (I6 a2))] [(2, (.t (.st [(.v (.int .i64 a3)), (.v (.int .i64 a4)), (.v (.string a5)), (.sl false 5 (GValue.ts a6)), (.sl false 5 (GValue.ts a7))]))), (6, (.t (.st [(.v (.int .i64 a8)), (.v (.int .i64 a9)), (.v (.string a10)), (.sl true 5 (GValue.ts a11)), (.sl true 5 (GValue.ts a12))])))]) = some (ref16_Fold_l1.to r)
 | 0, a1, a2, a3, a4, a5, a6, a7, a8, a9, a10, a11, a12, r, h => by rw [ref16_Fold_l1] at h; cases h
 | k + 1, a1, a2, a3, a4, a5, a6, a7, a8, a9, a10, a11, a12, r, h => by
  rw [ref16_Fold_l1] at h
  rcases fk h with ⟨h1, h⟩ | ⟨h1, h⟩
  ·obtain ⟨⟨a13, a14, a15, a16, a17, a18, a19, a20, a21, a22, a23, a24, a25, a26⟩, h2, h⟩ := sm h
   exact loop_more (path (ob_v (len_ts GMany.ts_map (l := a1)) (ob_b h1 (ob_k (lk (sub [1, 1, 1, 1, 1, 0, 1, 0, 0, 1, 0, 0, 1, 0] (bodyOf Try.f15)) (by kernel_rfl) (ref16_Fold_l2.okL ht n n _ _ _ _ _ _ _ _ _ _ _ _ _ _ h2)) ob))) (by kernel_rfl)) (ref16_Fold_l1.okL ht n k _ _ _ _ _ _ _ _ _ _ _ _ _ h)
  ·cases h
   exact loop_out (path (ob_v (len_ts GMany.ts_map (l := a1)) (ob_b h1 ob)) (by kernel_rfl)) (fun h => by cases h)
theorem ref16_Fold.ok {n : Nat} {t : Tab} (ht : TabOk t (run Try.prog own kp X n)) : ∀ (p1 : List GMany) r, ref16_Fold t n p1 = some r → run Try.prog own kp X (n + 1) 15 [(Sl 6 (GMany.ts p1))] [] = some ((.tup [(GValue.t r.1), (.v (.int .i64 r.2))]), []) := by
 intro p1 r h
 obtain ⟨a1, rfl⟩ : ∃ z_, z_ = p1 := ⟨_, rfl⟩
 rw [ref16_Fold] at h
 obtain ⟨⟨a2, a3⟩, h1, h⟩ := sm h
 rcases fk h with ⟨h2, h⟩ | ⟨h2, h⟩
 ·cases h
  exact run_path Try.func15 (ob_c (ht.ref16_Size _ _ h1) (ob_b h2 ob)) (by kernel_rfl)
 ·rcases fk h with ⟨h3, h⟩ | ⟨h3, h⟩
  ·cases h
   exact run_path Try.func15 (ob_c (ht.ref16_Size _ _ h1) (ob_b h2 (ob_b h3 ob))) (by kernel_rfl)
  ·obtain ⟨⟨a4, a5, a6, a7, a8, a9, a10, a11, a12, a13, a14, a15, a16⟩, h4, h⟩ := sm h
   cases h
   exact run_path Try.func15 (ob_c (ht.ref16_Size _ _ h1) (ob_b h2 (ob_b h3 (ob_k (lk (sub [1, 1, 1, 1, 1, 0, 1, 0] (bodyOf Try.f15)) (by kernel_rfl) (ref16_Fold_l1.okL ht n n _ _ _ _ _ _ _ _ _ _ _ _ _ h4)) ob)))) (by kernel_rfl)
theorem ref02_Same.ok {n : Nat} {t : Tab} (ht : TabOk t (run Try.prog own kp X n)) : ∀ (p1 : GValue) (p2 : GValue) r, ref02_Same t n p1 p2 = some r → run Try.prog own kp X (n + 1) 16 [(.t (GValue.t p1)), (.t (GValue.t p2))] [] = some ((Bo r), []) := by
 intro p1 p2 r h
 obtain ⟨a1, a2, a3, a4, a5⟩ := p1
 obtain ⟨a6, a7, a8, a9, a10⟩ := p2
 rw [ref02_Same] at h
 obtain ⟨a11, h1, h⟩ := sm h
 cases h
 exact run_path Try.func16 (ob_c (ht.ref02_compare _ _ _ _ h1) ob) (by kernel_rfl)
theorem ref02_Count_j2.ok (ht : TabOk t call) (n : Nat) (a1 a2 a3 a4 a5 : Int) (a6 : ByteArray) (a7 a8 : List GValue) (r : _) (h : ref02_Count_j2 t n a1 a2 a3 a4 a5 a6 a7 a8 = some r) : exec (env Try.prog 25 Try.f25 call) n (sub [1, 1, 0, 1, 0, 0, 1] (bodyOf Try.f25)) (mkSt 60 60 [(1, (I6 a1)), (2, (.ptr 2 0 [] 0)), (5, (I6 a2)), (6, (I6 a3))] [(2, (.t (.st [(.v (.int .i64 a4)), (.v (.int .i64 a5)), (.v (.string a6)), (.sl false 5 (GValue.ts a7)), (.sl false 5 (GValue.ts a8))])))]) = some (ref02_Count_j2.to r) := by
 rw [ref02_Count_j2] at h
 obtain ⟨h1, h⟩ := ck h
 obtain ⟨⟨a9, a10, a11, a12, a13⟩, h2, h⟩ := sm h
 obtain ⟨a14, h3, h⟩ := sm h
 cases h
 exact path (ob_n h1 (ob_t (look_ts GValue.ts_map h2) (ob_c (ht.ref02_Count _ _ _ h3) ob))) (by kernel_rfl)
theorem ref02_Count_l1.okL (ht : TabOk t call) (n : Nat) : ∀ (k : Nat) (a1 a2 a3 a4 a5 : Int) (a6 : ByteArray) (a7 a8 : List GValue) (r : _), ref02_Count_l1 t n k a1 a2 a3 a4 a5 a6 a7 a8 = some r → loopN (exec (env Try.prog 25 Try.f25 call) n (sub [1, 1, 0, 1, 0, 0] (bodyOf Try.f25))) k (mkSt 60 60 [(1, (I6 a1)), (2, (.ptr 2 0 [] 0)), (5, (I6 a2)), (6, (I6 a3))] [(2, (.t (.st [(.v (.int .i64 a4)), (.v (.int .i64 a5)), (.v (.string a6)), (.sl false 5 (GValue.ts a7)), (.sl false 5 (GValue.ts a8))])))]) = some (ref02_Count_l1.to r)
 | 0, a1, a2, a3, a4, a5, a6, a7, a8, r, h => by rw [ref02_Count_l1] at h; cases h
 | k + 1, a1, a2, a3, a4, a5, a6, a7, a8, r, h => by
  rw [ref02_Count_l1] at h
  rcases fk h with ⟨h1, h⟩ | ⟨h1, h⟩
  ·rcases fk h with ⟨h2, h⟩ | ⟨h2, h⟩
   ·obtain ⟨⟨a9, a10, a11, a12, a13, a14, a15, a16⟩, h3, h⟩ := sm h
    exact loop_more (path (ob_v (len_ts GValue.ts_map (l := a7)) (ob_b4 h1 (ob_b h2 (ob_j (ref02_Count_j2.ok ht n _ _ _ _ _ _ _ _ _ h3) ob)))) (by kernel_rfl)) (ref02_Count_l1.okL ht n k _ _ _ _ _ _ _ _ _ h)
   ·cases h
    exact loop_out (path (ob_v (len_ts GValue.ts_map (l := a7)) (ob_b4 h1 (ob_b h2 ob))) (by kernel_rfl)) (fun h => by cases h)
  ·cases h
   exact loop_out (path (ob_v (len_ts GValue.ts_map (l := a7)) (ob_b4 h1 (ob_b (rfl : false = false) ob))) (by kernel_rfl)) (fun h => by cases h)
theorem ref02_Count_j5.ok (ht : TabOk t call) (n : Nat) (a1 a2 a3 a4 a5 : Int) (a6 : ByteArray) (a7 a8 : List GValue) (r : _) (h : ref02_Count_j5 t n a1 a2 a3 a4 a5 a6 a7 a8 = some r) : exec (env Try.prog 25 Try.f25 call) n (sub [1, 1, 1, 0, 1, 0, 0, 1] (bodyOf Try.f25)) (mkSt 60 60 [(1, (I6 a1)), (2, (.ptr 2 0 [] 0)), (5, (I6 a2)), (7, (I6 a3))] [(2, (.t (.st [(.v (.int .i64 a4)), (.v (.int .i64 a5)), (.v (.string a6)), (.sl false 5 (GValue.ts a7)), (.sl false 5 (GValue.ts a8))])))]) = some (ref02_Count_j5.to r) := by
 rw [ref02_Count_j5] at h
 obtain ⟨h1, h⟩ := ck h
 obtain ⟨⟨a9, a10, a11, a12, a13⟩, h2, h⟩ := sm h
 obtain ⟨a14, h3, h⟩ := sm h
 cases h
 exact path (ob_n h1 (ob_t (look_ts GValue.ts_map h2) (ob_c (ht.ref02_Count _ _ _ h3) ob))) (by kernel_rfl)
theorem ref02_Count_l4.okL (ht : TabOk t call) (n : Nat) : ∀ (k : Nat) (a1 a2 a3 a4 a5 : Int) (a6 : ByteArray) (a7 a8 : List GValue) (r : _), ref02_Count_l4 t n k a1 a2 a3 a4 a5 a6 a7 a8 = some r → loopN (exec (env Try.prog 25 Try.f25 call) n (sub [1, 1, 1, 0, 1, 0, 0] (bodyOf Try.f25))) k (mkSt 60 60 [(1, (I6 a1)), (2, (.ptr 2 0 [] 0)), (5, (I6 a2)), (7, (I6 a3))] [(2, (.t (.st [(.v (.int .i64 a4)), (.v (.int .i64 a5)), (.v (.string a6)), (.sl false 5 (GValue.ts a7)), (.sl false 5 (GValue.ts a8))])))]) = some (ref02_Count_l4.to r)
 | 0, a1, a2, a3, a4, a5, a6, a7, a8, r, h => by rw [ref02_Count_l4] at h; cases h
 | k + 1, a1, a2, a3, a4, a5, a6, a7, a8, r, h => by
  rw [ref02_Count_l4] at h
  rcases fk h with ⟨h1, h⟩ | ⟨h1, h⟩
  ·rcases fk h with ⟨h2, h⟩ | ⟨h2, h⟩
   ·obtain ⟨⟨a9, a10, a11, a12, a13, a14, a15, a16⟩, h3, h⟩ := sm h
    exact loop_more (path (ob_v (len_ts GValue.ts_map (l := a8)) (ob_b4 h1 (ob_b h2 (ob_j (ref02_Count_j5.ok ht n _ _ _ _ _ _ _ _ _ h3) ob)))) (by kernel_rfl)) (ref02_Count_l4.okL ht n k _ _ _ _ _ _ _ _ _ h)
   ·cases h
    exact loop_out (path (ob_v (len_ts GValue.ts_map (l := a8)) (ob_b4 h1 (ob_b h2 ob))) (by kernel_rfl)) (fun h => by cases h)
  ·cases h
   exact loop_out (path (ob_v (len_ts GValue.ts_map (l := a8)) (ob_b4 h1 (ob_b (rfl : false = false) ob))) (by kernel_rfl)) (fun h => by cases h)
theorem ref02_Count_j6.ok (ht : TabOk t call) (n : Nat) (a1 a2 a3 : Int) (a4 : ByteArray) (a5 a6 : List GValue) (r : _) (h : ref02_Count_j6 t n a1 a2 a3 a4 a5 a6 = some r) : exec (env Try.prog 25 Try.f25 call) n (sub [1, 1, 1, 1] (bodyOf Try.f25)) (mkSt 60 60 [(2, (.ptr 2 0 [] 0)), (5, (I6 a1))] [(2, (.t (.st [(.v (.int .i64 a2)), (.v (.int .i64 a3)), (.v (.string a4)), (.sl false 5 (GValue.ts a5)), (.sl false 5 (GValue.ts a6))])))]) = some (ref02_Count_j6.to r) := by
 rw [ref02_Count_j6] at h
 obtain ⟨a7, h1, h⟩ := sm h
 cases h
 exact path (ob_v (quo_ok (P := Try.prog) (t := 3) (x := (.tmp 57)) (y := (.const (.int .i64 20))) h1) ob) (by kernel_rfl)
theorem ref02_Count_j3.ok (ht : TabOk t call) (n : Nat) (a1 a2 a3 a4 : Int) (a5 : ByteArray) (a6 a7 : List GValue) (r : _) (h : ref02_Count_j3 t n a1 a2 a3 a4 a5 a6 a7 = some r) : exec (env Try.prog 25 Try.f25 call) n (sub [1, 1, 1] (bodyOf Try.f25)) (mkSt 60 60 [(1, (I6 a1)), (2, (.ptr 2 0 [] 0)), (5, (I6 a2))] [(2, (.t (.st [(.v (.int .i64 a3)), (.v (.int .i64 a4)), (.v (.string a5)), (.sl false 5 (GValue.ts a6)), (.sl false 5 (GValue.ts a7))])))]) = some (ref02_Count_j3.to r) := by
 rw [ref02_Count_j3] at h
 obtain ⟨⟨a8, a9, a10, a11, a12, a13, a14, a15, a16⟩, h1, h⟩ := sm h
 obtain ⟨a17, rfl⟩ : ∃ z_, z_ = r := ⟨_, rfl⟩
 have h2 := h
 exact path (ob_k (lk (sub [1, 1, 1, 0, 1, 0] (bodyOf Try.f25)) (by kernel_rfl) (ref02_Count_l4.okL ht n n _ _ _ _ _ _ _ _ _ h1)) (ob_j (ref02_Count_j6.ok ht n _ _ _ _ _ _ _ h2) ob)) (by kernel_rfl)
theorem ref02_Count.ok {n : Nat} {t : Tab} (ht : TabOk t (run Try.prog own kp X n)) : ∀ (p1 : GValue) (p2 : Int) r, ref02_Count t n p1 p2 = some r → run Try.prog own kp X (n + 1) 25 [(.t (GValue.t p1)), (I6 p2)] [] = some ((I6 r), []) := by
 intro p1 p2 r h
 obtain ⟨a1, a2, a3, a4, a5⟩ := p1
 obtain ⟨a6, rfl⟩ : ∃ z_, z_ = p2 := ⟨_, rfl⟩
 rw [ref02_Count] at h
 obtain ⟨⟨a7, a8, a9, a10, a11, a12, a13, a14, a15⟩, h1, h⟩ := sm h
 obtain ⟨a16, rfl⟩ : ∃ z_, z_ = r := ⟨_, rfl⟩
 have h2 := h
 exact run_path Try.func25 (ob_k (lk (sub [1, 1, 0, 1, 0] (bodyOf Try.f25)) (by kernel_rfl) (ref02_Count_l1.okL ht n n _ _ _ _ _ _ _ _ _ h1)) (ob_j (ref02_Count_j3.ok ht n _ _ _ _ _ _ _ _ h2) ob)) (by kernel_rfl)
theorem gather_size_l1.okL (ht : TabOk t call) (n : Nat) : ∀ (k : Nat) (a1 : List Int) (a2 : List GMany) (a3 a4 : Int) (r : _), gather_size_l1 t n k a1 a2 a3 a4 = some r → loopN (exec (env Try.prog 26 Try.f26 call) n (sub [1, 1, 0, 1, 0, 0] (bodyOf Try.f26))) k (mkSt 32 32 [(4, (.t (.sl true 1 (ints_i64 a1)))), (9, (Sl 6 (GMany.ts a2))), (10, (I6 a3)), (11, (I6 a4))] []) = some (gather_size_l1.to r)
 | 0, a1, a2, a3, a4, r, h => by rw [gather_size_l1] at h; cases h
 | k + 1, a1, a2, a3, a4, r, h => by
  rw [gather_size_l1] at h
  rcases fk h with ⟨h1, h⟩ | ⟨h1, h⟩
  ·obtain ⟨h2, h⟩ := ck h
   obtain ⟨⟨⟨a5, a6, a7, a8, a9⟩, a10⟩, h3, h⟩ := sm h
   rcases fk h with ⟨h4, h⟩ | ⟨h4, h⟩
   ·cases h
    exact loop_out (path (ob_b h1 (ob_n h2 (ob_t (look_ts GMany.ts_map h3) (ob_b h4 ob)))) (by kernel_rfl)) (fun h => by cases h)
   ·obtain ⟨h5, h⟩ := cl h
    exact loop_more (path (ob_b h1 (ob_n h2 (ob_t (look_ts GMany.ts_map h3) (ob_b h4 (ob_le (room_ts ints_i64_map h5) (ob_l (app_ts ints_i64_map (a := a1) (b := ([a10] : List Int))) ob)))))) (by kernel_rfl)) (gather_size_l1.okL ht n k _ _ _ _ _ h)
  ·cases h
   exact loop_out (path (ob_b h1 ob) (by kernel_rfl)) (fun h => by cases h)
theorem gather_size_j2.ok (ht : TabOk t call) (n : Nat) (a1 : List Int) (r : _) (h : gather_size_j2 t n a1 = some r) : exec (env Try.prog 26 Try.f26 call) n (sub [1, 1, 1] (bodyOf Try.f26)) (mkSt 32 32 [(4, (.t (.sl true 1 (ints_i64 a1))))] []) = some (gather_size_j2.to r) := by
 rw [gather_size_j2] at h
 obtain ⟨⟨a2, a3⟩, h1, h⟩ := sm h
 rcases fk h with ⟨h2, h⟩ | ⟨h2, h⟩
 ·cases h
  exact path (ob_c (ht.ints_Add _ _ h1) (ob_b h2 ob)) (by kernel_rfl)
 ·cases h
  exact path (ob_c (ht.ints_Add _ _ h1) (ob_b h2 ob)) (by kernel_rfl)
theorem gather_size.ok {n : Nat} {t : Tab} (ht : TabOk t (run Try.prog own kp X n)) : ∀ (p1 : List GMany) r, gather_size t n p1 = some r → run Try.prog own kp X (n + 1) 26 [(Sl 6 (GMany.ts p1))] [] = some ((.tup [(.v (.int .i64 r.1)), (.v (.int .i64 r.2))]), []) := by
 intro p1 r h
 obtain ⟨a1, rfl⟩ : ∃ z_, z_ = p1 := ⟨_, rfl⟩
 rw [gather_size] at h
 obtain ⟨⟨a2, a3⟩ | ⟨a4, a5, a6, a7, a8⟩, h1, h⟩ := sm h
 ·cases h
  exact run_path Try.func26 (ob_v (len_ts GMany.ts_map (l := a1)) (ob_k (lk (sub [1, 1, 0, 1, 0] (bodyOf Try.f26)) (by kernel_rfl) (gather_size_l1.okL ht n n _ _ _ _ _ h1)) ob)) (by kernel_rfl)
 ·obtain ⟨a9, a10⟩ := r
  have h2 := h
  exact run_path Try.func26 (ob_v (len_ts GMany.ts_map (l := a1)) (ob_k (lk (sub [1, 1, 0, 1, 0] (bodyOf Try.f26)) (by kernel_rfl) (gather_size_l1.okL ht n n _ _ _ _ _ h1)) (ob_j (gather_size_j2.ok ht n _ _ h2) ob))) (by kernel_rfl)
theorem gather_wide_add_j1.ok (ht : TabOk t call) (n : Nat) (a1 a2 a3 a4 : Int) (r : _) (h : gather_wide_add_j1 t n a1 a2 a3 a4 = some r) : exec (env Try.prog 27 Try.f27 call) n (sub [1, 1] (bodyOf Try.f27)) (mkSt 48 49 [(0, (.ptr 48 0 [] 0)), (6, (.t (.v (.int .u64 a1)))), (7, (.t (.v (.int .u64 a2))))] [(48, (.t (.st [(.v (.int .u64 a3)), (.v (.int .u64 a4))])))]) = some (gather_wide_add_j1.to r) := by
 rw [gather_wide_add_j1] at h
 obtain ⟨⟨a5, a6⟩, h1, h⟩ := sm h
 obtain ⟨⟨a7, a8⟩, h2, h⟩ := sm h
 cases h
 exact path (ob_c (ht.math_bits_Add64 _ _ _ _ h1) (ob_c (ht.math_bits_Add64 _ _ _ _ h2) ob)) (by kernel_rfl)
theorem gather_wide_add.ok {n : Nat} {t : Tab} (ht : TabOk t (run Try.prog own kp X n)) : ∀ (p1 : Int) (p2 : Int) (p3 : Gwide) r, gather_wide_add t n p1 p2 p3 = some r → run Try.prog own kp X (n + 1) 27 [(.ptr 0 0 [] 0), (I6 p1), (I6 p2)] [(.t (Gwide.t p3))] = some ((.tup []), [(.t (Gwide.t r))]) := by
 intro p1 p2 p3 r h
 obtain ⟨a1, rfl⟩ : ∃ z_, z_ = p1 := ⟨_, rfl⟩
 obtain ⟨a2, rfl⟩ : ∃ z_, z_ = p2 := ⟨_, rfl⟩
 obtain ⟨a3, a4⟩ := p3
 rw [gather_wide_add] at h
 obtain ⟨⟨a5, a6⟩, h1, h⟩ := sm h
 rcases fk h with ⟨h2, h⟩ | ⟨h2, h⟩
 ·obtain ⟨⟨a7, a8⟩, h3, h⟩ := sm h
  cases h
  exact run_path Try.func27 (ob_c (ht.math_bits_Mul64 _ _ _ h1) (ob_b h2 (ob_j (gather_wide_add_j1.ok ht n _ _ _ _ _ h3) ob))) (by kernel_rfl)
 ·obtain ⟨⟨a9, a10⟩, h4, h⟩ := sm h
  cases h
  exact run_path Try.func27 (ob_c (ht.math_bits_Mul64 _ _ _ h1) (ob_b h2 (ob_j (gather_wide_add_j1.ok ht n _ _ _ _ _ h4) ob))) (by kernel_rfl)
theorem ref16_Size_l1.okL (ht : TabOk t call) (n : Nat) : ∀ (k : Nat) (a1 : List GMany) (a2 a3 : Int) (r : _), ref16_Size_l1 t n k a1 a2 a3 = some r → loopN (exec (env Try.prog 21 Try.f21 call) n (sub [1, 1, 0, 1, 0, 0] (bodyOf Try.f21))) k (mkSt 42 42 [(0, (Sl 6 (GMany.ts a1))), (4, (I6 a2)), (5, (I6 a3))] []) = some (ref16_Size_l1.to r)
 | 0, a1, a2, a3, r, h => by rw [ref16_Size_l1] at h; cases h
 | k + 1, a1, a2, a3, r, h => by
  rw [ref16_Size_l1] at h
  rcases fk h with ⟨h1, h⟩ | ⟨h1, h⟩
  ·obtain ⟨h2, h⟩ := ck h
   obtain ⟨⟨⟨a4, a5, a6, a7, a8⟩, a9⟩, h3, h⟩ := sm h
   rcases fk h with ⟨h4, h⟩ | ⟨h4, h⟩
   ·cases h
    exact loop_out (path (ob_v (len_ts GMany.ts_map (l := a1)) (ob_b h1 (ob_n h2 (ob_t (look_ts GMany.ts_map h3) (ob_b h4 ob))))) (by kernel_rfl)) (fun h => by cases h)
   ·exact loop_more (path (ob_v (len_ts GMany.ts_map (l := a1)) (ob_b h1 (ob_n h2 (ob_t (look_ts GMany.ts_map h3) (ob_b h4 ob))))) (by kernel_rfl)) (ref16_Size_l1.okL ht n k _ _ _ _ h)
  ·cases h
   exact loop_out (path (ob_v (len_ts GMany.ts_map (l := a1)) (ob_b h1 ob)) (by kernel_rfl)) (fun h => by cases h)
theorem ref16_Size_l3.okL (ht : TabOk t call) (n : Nat) : ∀ (k : Nat) (a1 : List GMany) (a2 a3 : Int) (r : _), ref16_Size_l3 t n k a1 a2 a3 = some r → loopN (exec (env Try.prog 21 Try.f21 call) n (sub [1, 1, 1, 0, 1, 0, 0] (bodyOf Try.f21))) k (mkSt 42 42 [(0, (Sl 6 (GMany.ts a1))), (4, (I6 a2)), (6, (I6 a3))] []) = some (ref16_Size_l3.to r)
 | 0, a1, a2, a3, r, h => by rw [ref16_Size_l3] at h; cases h
 | k + 1, a1, a2, a3, r, h => by
  rw [ref16_Size_l3] at h
  rcases fk h with ⟨h1, h⟩ | ⟨h1, h⟩
  ·obtain ⟨h2, h⟩ := ck h
   obtain ⟨⟨⟨a4, a5, a6, a7, a8⟩, a9⟩, h3, h⟩ := sm h
   obtain ⟨⟨a10, a11⟩, h4, h⟩ := sm h
   rcases fk h with ⟨h5, h⟩ | ⟨h5, h⟩
   ·cases h
    exact loop_out (path (ob_v (len_ts GMany.ts_map (l := a1)) (ob_b h1 (ob_n h2 (ob_t (look_ts GMany.ts_map h3) (ob_c (ht.ref01_Add _ _ h4) (ob_b h5 ob)))))) (by kernel_rfl)) (fun h => by cases h)
   ·exact loop_more (path (ob_v (len_ts GMany.ts_map (l := a1)) (ob_b h1 (ob_n h2 (ob_t (look_ts GMany.ts_map h3) (ob_c (ht.ref01_Add _ _ h4) (ob_b h5 ob)))))) (by kernel_rfl)) (ref16_Size_l3.okL ht n k _ _ _ _ h)
  ·cases h
   exact loop_out (path (ob_v (len_ts GMany.ts_map (l := a1)) (ob_b h1 ob)) (by kernel_rfl)) (fun h => by cases h)
theorem ref16_Size_j2.ok (ht : TabOk t call) (n : Nat) (a1 : List GMany) (a2 : Int) (r : _) (h : ref16_Size_j2 t n a1 a2 = some r) : exec (env Try.prog 21 Try.f21 call) n (sub [1, 1, 1] (bodyOf Try.f21)) (mkSt 42 42 [(0, (Sl 6 (GMany.ts a1))), (4, (I6 a2))] []) = some (ref16_Size_j2.to r) := by
 rw [ref16_Size_j2] at h
 obtain ⟨⟨a3, a4⟩ | ⟨a5, a6, a7, a8⟩, h1, h⟩ := sm h
 ·cases h
  exact path (ob_k (lk (sub [1, 1, 1, 0, 1, 0] (bodyOf Try.f21)) (by kernel_rfl) (ref16_Size_l3.okL ht n n _ _ _ _ h1)) ob) (by kernel_rfl)
 ·cases h
  exact path (ob_k (lk (sub [1, 1, 1, 0, 1, 0] (bodyOf Try.f21)) (by kernel_rfl) (ref16_Size_l3.okL ht n n _ _ _ _ h1)) ob) (by kernel_rfl)
theorem ref16_Size.ok {n : Nat} {t : Tab} (ht : TabOk t (run Try.prog own kp X n)) : ∀ (p1 : List GMany) r, ref16_Size t n p1 = some r → run Try.prog own kp X (n + 1) 21 [(Sl 6 (GMany.ts p1))] [] = some ((.tup [(.v (.int .i64 r.1)), (.v (.int .i64 r.2))]), []) := by
 intro p1 r h
 obtain ⟨a1, rfl⟩ : ∃ z_, z_ = p1 := ⟨_, rfl⟩
 rw [ref16_Size] at h
 obtain ⟨⟨a2, a3⟩ | ⟨a4, a5, a6, a7⟩, h1, h⟩ := sm h
 ·cases h
  exact run_path Try.func21 (ob_k (lk (sub [1, 1, 0, 1, 0] (bodyOf Try.f21)) (by kernel_rfl) (ref16_Size_l1.okL ht n n _ _ _ _ h1)) ob) (by kernel_rfl)
 ·obtain ⟨a8, a9⟩ := r
  have h2 := h
  exact run_path Try.func21 (ob_k (lk (sub [1, 1, 0, 1, 0] (bodyOf Try.f21)) (by kernel_rfl) (ref16_Size_l1.okL ht n n _ _ _ _ h1)) (ob_j (ref16_Size_j2.ok ht n _ _ _ h2) ob)) (by kernel_rfl)
theorem ref01_Of_j2.ok (ht : TabOk t call) (n : Nat) (a1 : Int) (a2 : List Int) (a3 a4 : Int) (a5 : Bool) (a6 : List Int) (r : _) (h : ref01_Of_j2 t n a1 a2 a3 a4 a5 a6 = some r) : exec (env Try.prog 29 Try.f29 call) n (sub [1, 1, 1, 0, 0, 0, 1, 0, 1, 1] (bodyOf Try.f29)) (mkSt 25 25 [(0, (I6 a1)), (2, (.ptr 2 0 [] 0)), (3, (.t (.sl true 1 (ints_i64 a2)))), (4, (I6 a3)), (5, (I6 a4))] [(2, (.t (.st [(.v (.bool a5)), (.sl false 1 (ints_i64 a6))])))]) = some (ref01_Of_j2.to r) := by
 rw [ref01_Of_j2] at h
 obtain ⟨h1, h⟩ := cl h
 obtain ⟨a7, h2, h⟩ := sm h
 cases h
 exact path (ob_le (room_ts ints_i64_map h1) (ob_l (app_ts ints_i64_map (a := a2) (b := ([a4] : List Int))) (ob_v (quo_ok (P := Try.prog) (t := 3) (x := (.tmp 19)) (y := (.const (.int .i64 10))) h2) ob))) (by kernel_rfl)
theorem ref01_Of_l1.okL (ht : TabOk t call) (n : Nat) : ∀ (k : Nat) (a1 : Int) (a2 : List Int) (a3 : Int) (a4 : Bool) (a5 : List Int) (r : _), ref01_Of_l1 t n k a1 a2 a3 a4 a5 = some r → loopN (exec (env Try.prog 29 Try.f29 call) n (sub [1, 1, 1, 0, 0, 0] (bodyOf Try.f29))) k (mkSt 25 25 [(0, (I6 a1)), (2, (.ptr 2 0 [] 0)), (3, (.t (.sl true 1 (ints_i64 a2)))), (4, (I6 a3))] [(2, (.t (.st [(.v (.bool a4)), (.sl false 1 (ints_i64 a5))])))]) = some (ref01_Of_l1.to r)
 | 0, a1, a2, a3, a4, a5, r, h => by rw [ref01_Of_l1] at h; cases h
 | k + 1, a1, a2, a3, a4, a5, r, h => by
  rw [ref01_Of_l1] at h
  rcases fk h with ⟨h1, h⟩ | ⟨h1, h⟩
  ·obtain ⟨a6, h2, h⟩ := sm h
   rcases fk h with ⟨h3, h⟩ | ⟨h3, h⟩
   ·obtain ⟨⟨a7, a8, a9, a10, a11⟩, h4, h⟩ := sm h
    exact loop_more (path (ob_b h1 (ob_v (rem_ok (P := Try.prog) (t := 3) (x := (.tmp 9)) (y := (.const (.int .i64 10))) h2) (ob_b h3 (ob_j (ref01_Of_j2.ok ht n _ _ _ _ _ _ _ h4) ob)))) (by kernel_rfl)) (ref01_Of_l1.okL ht n k _ _ _ _ _ _ h)
   ·obtain ⟨⟨a12, a13, a14, a15, a16⟩, h5, h⟩ := sm h
    exact loop_more (path (ob_b h1 (ob_v (rem_ok (P := Try.prog) (t := 3) (x := (.tmp 9)) (y := (.const (.int .i64 10))) h2) (ob_b h3 (ob_j (ref01_Of_j2.ok ht n _ _ _ _ _ _ _ h5) ob)))) (by kernel_rfl)) (ref01_Of_l1.okL ht n k _ _ _ _ _ _ h)
  ·cases h
   exact loop_out (path (ob_b h1 ob) (by kernel_rfl)) (fun h => by cases h)
theorem ref01_Of_j3.ok (ht : TabOk t call) (n : Nat) (a1 : Int) (a2 : List Int) (a3 : Bool) (a4 : List Int) (r : _) (h : ref01_Of_j3 t n a1 a2 a3 a4 = some r) : exec (env Try.prog 29 Try.f29 call) n (sub [1, 1, 1, 1] (bodyOf Try.f29)) (mkSt 25 25 [(0, (I6 a1)), (2, (.ptr 2 0 [] 0)), (3, (.t (.sl true 1 (ints_i64 a2))))] [(2, (.t (.st [(.v (.bool a3)), (.sl false 1 (ints_i64 a4))])))]) = some (ref01_Of_j3.to r) := by
 rw [ref01_Of_j3] at h
 obtain ⟨⟨a5, a6⟩, h1, h⟩ := sm h
 cases h
 exact path (ob_c (ht.ref01_trim _ _ _ h1) ob) (by kernel_rfl)
theorem ref01_Of.ok {n : Nat} {t : Tab} (ht : TabOk t (run Try.prog own kp X n)) : ∀ (p1 : Int) r, ref01_Of t n p1 = some r → run Try.prog own kp X (n + 1) 29 [(I6 p1)] [] = some ((.t (GNum.t r)), []) := by
 intro p1 r h
 obtain ⟨a1, rfl⟩ : ∃ z_, z_ = p1 := ⟨_, rfl⟩
 rw [ref01_Of] at h
 obtain ⟨⟨a2, a3, a4, a5, a6, a7⟩, h1, h⟩ := sm h
 obtain ⟨⟨a8, a9⟩, h2, h⟩ := sm h
 cases h
 exact run_path Try.func29 (ob_k (lk (sub [1, 1, 1, 0, 0] (bodyOf Try.f29)) (by kernel_rfl) (ref01_Of_l1.okL ht n n _ _ _ _ _ _ h1)) (ob_j (ref01_Of_j3.ok ht n _ _ _ _ _ h2) ob)) (by kernel_rfl)
theorem ref01_Num_Times_j3.ok (ht : TabOk t call) (n : Nat) (a1 : List Int) (a2 a3 a4 : Int) (a5 : Bool) (a6 : List Int) (a7 : Bool) (a8 : List Int) (a9 : Bool) (a10 : List Int) (r : _) (h : ref01_Num_Times_j3 t n a1 a2 a3 a4 a5 a6 a7 a8 a9 a10 = some r) : exec (env Try.prog 30 Try.f30 call) n (sub [1, 1, 0, 1, 0, 0, 1, 0, 0, 1, 1, 0, 0, 1] (bodyOf Try.f30)) (mkSt 72 72 [(2, (.ptr 2 0 [] 0)), (3, (.ptr 3 0 [] 0)), (4, (.ptr 4 0 [] 0)), (5, (.t (.xl 1 (ints_i64 a1)))), (6, (I6 a2)), (7, (I6 a3)), (8, (I6 a4))] [(2, (.t (.st [(.v (.bool a5)), (.sl false 1 (ints_i64 a6))]))), (3, (.t (.st [(.v (.bool a7)), (.sl false 1 (ints_i64 a8))]))), (4, (.t (.st [(.v (.bool a9)), (.xl 1 (ints_i64 a10))])))]) = some (ref01_Num_Times_j3.to r) := by
 rw [ref01_Num_Times_j3] at h
 obtain ⟨h1, h⟩ := ck h
 obtain ⟨a11, h2, h⟩ := sm h
 obtain ⟨h3, h⟩ := ck h
 obtain ⟨a12, h4, h⟩ := sm h
 obtain ⟨a13, h5, h⟩ := sm h
 obtain ⟨a14, h6, h⟩ := sm h
 obtain ⟨a15, h7, h⟩ := sm h
 cases h
 exact path (ob_t (get_nil (.xl 1 (ints_i64 a1))) (ob_n h1 (ob_t (look_ts ints_i64_map h2) (ob_t (get_xl 1 (look_ts ints_i64_map h2) (get_nil _)) (ob_n h3 (ob_t (look_ts ints_i64_map h4) (ob_c (ht.ref01_digit _ _ _ h5) (ob_v (rem_ok (P := Try.prog) (t := 3) (x := (.tmp 60)) (y := (.const (.int .i64 10))) h6) (ob_t (get_nil (.xl 1 (ints_i64 a1))) (ob_n h1 (ob_t (look_ts ints_i64_map h2) (ob_t (get_xl 1 (look_ts ints_i64_map h2) (get_nil _)) (ob_t (rep_xl 1 ints_i64_map a14 h2 (rep_nil _ (.v (.int .i64 a14)))) (ob_v (quo_ok (P := Try.prog) (t := 3) (x := (.tmp 63)) (y := (.const (.int .i64 10))) h7) ob)))))))))))))) (by kernel_rfl)
theorem ref01_Num_Times_l2.okL (ht : TabOk t call) (n : Nat) : ∀ (k : Nat) (a1 : List Int) (a2 a3 a4 : Int) (a5 : Bool) (a6 : List Int) (a7 : Bool) (a8 : List Int) (a9 : Bool) (a10 : List Int) (r : _), ref01_Num_Times_l2 t n k a1 a2 a3 a4 a5 a6 a7 a8 a9 a10 = some r → loopN (exec (env Try.prog 30 Try.f30 call) n (sub [1, 1, 0, 1, 0, 0, 1, 0, 0, 1, 1, 0, 0] (bodyOf Try.f30))) k (mkSt 72 72 [(2, (.ptr 2 0 [] 0)), (3, (.ptr 3 0 [] 0)), (4, (.ptr 4 0 [] 0)), (5, (.t (.xl 1 (ints_i64 a1)))), (6, (I6 a2)), (7, (I6 a3)), (8, (I6 a4))] [(2, (.t (.st [(.v (.bool a5)), (.sl false 1 (ints_i64 a6))]))), (3, (.t (.st [(.v (.bool a7)), (.sl false 1 (ints_i64 a8))]))), (4, (.t (.st [(.v (.bool a9)), (.xl 1 (ints_i64 a10))])))]) = some (ref01_Num_Times_l2.to r)
 | 0, a1, a2, a3, a4, a5, a6, a7, a8, a9, a10, r, h => by rw [ref01_Num_Times_l2] at h; cases h
 | k + 1, a1, a2, a3, a4, a5, a6, a7, a8, a9, a10, r, h => by
  rw [ref01_Num_Times_l2] at h
  rcases fk h with ⟨h1, h⟩ | ⟨h1, h⟩
  ·obtain ⟨⟨a11, a12, a13, a14, a15, a16, a17, a18, a19, a20⟩, h2, h⟩ := sm h
   exact loop_more (path (ob_v (len_ts ints_i64_map (l := a8)) (ob_b3 h1 (ob_b (rfl : true = true) (ob_j (ref01_Num_Times_j3.ok ht n _ _ _ _ _ _ _ _ _ _ _ h2) ob)))) (by kernel_rfl)) (ref01_Num_Times_l2.okL ht n k _ _ _ _ _ _ _ _ _ _ _ h)
  ·rcases fk h with ⟨h3, h⟩ | ⟨h3, h⟩
   ·obtain ⟨⟨a21, a22, a23, a24, a25, a26, a27, a28, a29, a30⟩, h4, h⟩ := sm h
    exact loop_more (path (ob_v (len_ts ints_i64_map (l := a8)) (ob_b3 h1 (ob_b h3 (ob_j (ref01_Num_Times_j3.ok ht n _ _ _ _ _ _ _ _ _ _ _ h4) ob)))) (by kernel_rfl)) (ref01_Num_Times_l2.okL ht n k _ _ _ _ _ _ _ _ _ _ _ h)
   ·cases h
    exact loop_out (path (ob_v (len_ts ints_i64_map (l := a8)) (ob_b3 h1 (ob_b h3 ob))) (by kernel_rfl)) (fun h => by cases h)
theorem ref01_Num_Times_l1.okL (ht : TabOk t call) (n : Nat) : ∀ (k : Nat) (a1 : List Int) (a2 : Int) (a3 : Bool) (a4 : List Int) (a5 : Bool) (a6 : List Int) (a7 : Bool) (a8 : List Int) (r : _), ref01_Num_Times_l1 t n k a1 a2 a3 a4 a5 a6 a7 a8 = some r → loopN (exec (env Try.prog 30 Try.f30 call) n (sub [1, 1, 0, 1, 0, 0] (bodyOf Try.f30))) k (mkSt 72 72 [(2, (.ptr 2 0 [] 0)), (3, (.ptr 3 0 [] 0)), (4, (.ptr 4 0 [] 0)), (5, (.t (.xl 1 (ints_i64 a1)))), (6, (I6 a2))] [(2, (.t (.st [(.v (.bool a3)), (.sl false 1 (ints_i64 a4))]))), (3, (.t (.st [(.v (.bool a5)), (.sl false 1 (ints_i64 a6))]))), (4, (.t (.st [(.v (.bool a7)), (.xl 1 (ints_i64 a8))])))]) = some (ref01_Num_Times_l1.to r)
 | 0, a1, a2, a3, a4, a5, a6, a7, a8, r, h => by rw [ref01_Num_Times_l1] at h; cases h
 | k + 1, a1, a2, a3, a4, a5, a6, a7, a8, r, h => by
  rw [ref01_Num_Times_l1] at h
  rcases fk h with ⟨h1, h⟩ | ⟨h1, h⟩
  ·obtain ⟨⟨a9, a10, a11, a12, a13, a14, a15, a16, a17, a18, a19⟩, h2, h⟩ := sm h
   exact loop_more (path (ob_v (len_ts ints_i64_map (l := a4)) (ob_b h1 (ob_k (lk (sub [1, 1, 0, 1, 0, 0, 1, 0, 0, 1, 1, 0] (bodyOf Try.f30)) (by kernel_rfl) (ref01_Num_Times_l2.okL ht n n _ _ _ _ _ _ _ _ _ _ _ h2)) ob))) (by kernel_rfl)) (ref01_Num_Times_l1.okL ht n k _ _ _ _ _ _ _ _ _ h)
  ·cases h
   exact loop_out (path (ob_v (len_ts ints_i64_map (l := a4)) (ob_b h1 ob)) (by kernel_rfl)) (fun h => by cases h)
theorem ref01_Num_Times_j4.ok (ht : TabOk t call) (n : Nat) (a1 : List Int) (a2 : Bool) (a3 : List Int) (a4 : Bool) (a5 : List Int) (a6 : Bool) (a7 : List Int) (r : _) (h : ref01_Num_Times_j4 t n a1 a2 a3 a4 a5 a6 a7 = some r) : exec (env Try.prog 30 Try.f30 call) n (sub [1, 1, 1] (bodyOf Try.f30)) (mkSt 72 72 [(2, (.ptr 2 0 [] 0)), (3, (.ptr 3 0 [] 0)), (4, (.ptr 4 0 [] 0)), (5, (Sl 1 (ints_i64 a1)))] [(2, (.t (.st [(.v (.bool a2)), (.sl false 1 (ints_i64 a3))]))), (3, (.t (.st [(.v (.bool a4)), (.sl false 1 (ints_i64 a5))]))), (4, (.t (.st [(.v (.bool a6)), (.xl 1 (ints_i64 a7))])))]) = some (ref01_Num_Times_j4.to r) := by
 rw [ref01_Num_Times_j4] at h
 obtain ⟨⟨a8, a9⟩, h1, h⟩ := sm h
 cases h
 exact path (ob_c (ht.ref01_trim _ _ _ h1) ob) (by kernel_rfl)
theorem ref01_Num_Times.ok {n : Nat} {t : Tab} (ht : TabOk t (run Try.prog own kp X n)) : ∀ (p1 : GNum) (p2 : GNum) r, ref01_Num_Times t n p1 p2 = some r → run Try.prog own kp X (n + 1) 30 [(.t (GNum.t p1)), (.t (GNum.t p2))] [] = some ((.t (GNum.t r)), []) := by
 intro p1 p2 r h
 obtain ⟨a1, a2⟩ := p1
 obtain ⟨a3, a4⟩ := p2
 rw [ref01_Num_Times] at h
 obtain ⟨h1, h⟩ := ck h
 obtain ⟨⟨a5, a6, a7, a8, a9, a10, a11, a12, a13⟩, h2, h⟩ := sm h
 obtain ⟨⟨a14, a15⟩, h3, h⟩ := sm h
 cases h
 exact run_path Try.func30 (ob_v (len_ts ints_i64_map (l := a2)) (ob_v (len_ts ints_i64_map (l := a4)) (ob_n h1 (ob_l (rpl_ts ints_i64_map (n := ((IntKind.wrap .i64 ((IntKind.wrap .i64 ((a2.length : Int) + (a4.length : Int))) + 1)) : Int).toNat) (a := 0)) (ob_k (lk (sub [1, 1, 0, 1, 0] (bodyOf Try.f30)) (by kernel_rfl) (ref01_Num_Times_l1.okL ht n n _ _ _ _ _ _ _ _ _ h2)) (ob_l (ints_i64_pub (l := a5)) (ob_j (ref01_Num_Times_j4.ok ht n _ _ _ _ _ _ _ _ h3) ob))))))) (by kernel_rfl)
theorem ref01_Num_Plus_j2.ok (ht : TabOk t call) (n : Nat) (a1 : List Int) (a2 a3 : Int) (a4 : Bool) (a5 : List Int) (a6 : Bool) (a7 : List Int) (a8 : Bool) (a9 : List Int) (r : _) (h : ref01_Num_Plus_j2 t n a1 a2 a3 a4 a5 a6 a7 a8 a9 = some r) : exec (env Try.prog 28 Try.f28 call) n (sub [1, 1, 1, 0, 1, 0, 0, 1, 0, 0, 1] (bodyOf Try.f28)) (mkSt 99 99 [(2, (.ptr 2 0 [] 0)), (3, (.ptr 3 0 [] 0)), (4, (.ptr 4 0 [] 0)), (5, (.t (.sl true 1 (ints_i64 a1)))), (6, (I6 a2)), (7, (I6 a3))] [(2, (.t (.st [(.v (.bool a4)), (.sl false 1 (ints_i64 a5))]))), (3, (.t (.st [(.v (.bool a6)), (.sl false 1 (ints_i64 a7))]))), (4, (.t (.st [(.v (.bool a8)), (.sl false 1 (ints_i64 a9))])))]) = some (ref01_Num_Plus_j2.to r) := by
 rw [ref01_Num_Plus_j2] at h
 obtain ⟨a10, h1, h⟩ := sm h
 obtain ⟨a11, h2, h⟩ := sm h
 obtain ⟨a12, h3, h⟩ := sm h
 obtain ⟨h4, h⟩ := cl h
 obtain ⟨a13, h5, h⟩ := sm h
 cases h
 exact path (ob_c (ht.ref01_digit _ _ _ h1) (ob_c (ht.ref01_digit _ _ _ h2) (ob_v (rem_ok (P := Try.prog) (t := 3) (x := (.tmp 48)) (y := (.const (.int .i64 10))) h3) (ob_le (room_ts ints_i64_map h4) (ob_l (app_ts ints_i64_map (a := a1) (b := ([a12] : List Int))) (ob_v (quo_ok (P := Try.prog) (t := 3) (x := (.tmp 52)) (y := (.const (.int .i64 10))) h5) ob)))))) (by kernel_rfl)
theorem ref01_Num_Plus_l1.okL (ht : TabOk t call) (n : Nat) : ∀ (k : Nat) (a1 : List Int) (a2 a3 : Int) (a4 : Bool) (a5 : List Int) (a6 : Bool) (a7 : List Int) (a8 : Bool) (a9 : List Int) (r : _), ref01_Num_Plus_l1 t n k a1 a2 a3 a4 a5 a6 a7 a8 a9 = some r → loopN (exec (env Try.prog 28 Try.f28 call) n (sub [1, 1, 1, 0, 1, 0, 0, 1, 0, 0] (bodyOf Try.f28))) k (mkSt 99 99 [(2, (.ptr 2 0 [] 0)), (3, (.ptr 3 0 [] 0)), (4, (.ptr 4 0 [] 0)), (5, (.t (.sl true 1 (ints_i64 a1)))), (6, (I6 a2)), (7, (I6 a3))] [(2, (.t (.st [(.v (.bool a4)), (.sl false 1 (ints_i64 a5))]))), (3, (.t (.st [(.v (.bool a6)), (.sl false 1 (ints_i64 a7))]))), (4, (.t (.st [(.v (.bool a8)), (.sl false 1 (ints_i64 a9))])))]) = some (ref01_Num_Plus_l1.to r)
 | 0, a1, a2, a3, a4, a5, a6, a7, a8, a9, r, h => by rw [ref01_Num_Plus_l1] at h; cases h
 | k + 1, a1, a2, a3, a4, a5, a6, a7, a8, a9, r, h => by
  rw [ref01_Num_Plus_l1] at h
  rcases fk h with ⟨h1, h⟩ | ⟨h1, h⟩
  ·obtain ⟨⟨a10, a11, a12, a13, a14, a15, a16, a17, a18⟩, h2, h⟩ := sm h
   exact loop_more (path (ob_v (len_ts ints_i64_map (l := a5)) (ob_b4 h1 (ob_b2 h1 (ob_b4 (rfl : true = true) (ob_j (ref01_Num_Plus_j2.ok ht n _ _ _ _ _ _ _ _ _ _ h2) ob))))) (by kernel_rfl)) (ref01_Num_Plus_l1.okL ht n k _ _ _ _ _ _ _ _ _ _ h)
  ·have o8 {os} (x : Obls (env Try.prog 28 Try.f28 call) n os) := ob_v (len_ts ints_i64_map (l := a5)) (ob_b4 h1 (ob_v (len_ts ints_i64_map (l := a7)) (ob_b2 h1 x)))
   rcases fk h with ⟨h3, h⟩ | ⟨h3, h⟩
   ·obtain ⟨⟨a19, a20, a21, a22, a23, a24, a25, a26, a27⟩, h4, h⟩ := sm h
    exact loop_more (path (o8 (ob_b3 h3 (ob_b (rfl : true = true) (ob_j (ref01_Num_Plus_j2.ok ht n _ _ _ _ _ _ _ _ _ _ h4) ob)))) (by kernel_rfl)) (ref01_Num_Plus_l1.okL ht n k _ _ _ _ _ _ _ _ _ _ h)
   ·rcases fk h with ⟨h5, h⟩ | ⟨h5, h⟩
    ·obtain ⟨⟨a28, a29, a30, a31, a32, a33, a34, a35, a36⟩, h6, h⟩ := sm h
     exact loop_more (path (o8 (ob_b3 h3 (ob_b h5 (ob_j (ref01_Num_Plus_j2.ok ht n _ _ _ _ _ _ _ _ _ _ h6) ob)))) (by kernel_rfl)) (ref01_Num_Plus_l1.okL ht n k _ _ _ _ _ _ _ _ _ _ h)
    ·cases h
     exact loop_out (path (o8 (ob_b3 h3 (ob_b h5 ob))) (by kernel_rfl)) (fun h => by cases h)
theorem ref01_Num_Plus_j3.ok (ht : TabOk t call) (n : Nat) (a1 : List Int) (a2 : Bool) (a3 : List Int) (a4 : Bool) (a5 : List Int) (r : _) (h : ref01_Num_Plus_j3 t n a1 a2 a3 a4 a5 = some r) : exec (env Try.prog 28 Try.f28 call) n (sub [1, 1, 1, 0, 1, 0, 1] (bodyOf Try.f28)) (mkSt 99 99 [(2, (.ptr 2 0 [] 0)), (4, (.ptr 4 0 [] 0)), (5, (.t (.sl true 1 (ints_i64 a1))))] [(2, (.t (.st [(.v (.bool a2)), (.sl false 1 (ints_i64 a3))]))), (4, (.t (.st [(.v (.bool a4)), (.sl false 1 (ints_i64 a5))])))]) = some (ref01_Num_Plus_j3.to r) := by
 rw [ref01_Num_Plus_j3] at h
 obtain ⟨⟨a6, a7⟩, h1, h⟩ := sm h
 cases h
 exact path (ob_c (ht.ref01_trim _ _ _ h1) ob) (by kernel_rfl)
theorem ref01_Num_Plus_j6.ok (ht : TabOk t call) (n : Nat) (a1 : List Int) (a2 a3 a4 : Int) (a5 : Bool) (a6 : List Int) (a7 : Bool) (a8 : List Int) (a9 : Bool) (a10 : List Int) (r : _) (h : ref01_Num_Plus_j6 t n a1 a2 a3 a4 a5 a6 a7 a8 a9 a10 = some r) : exec (env Try.prog 28 Try.f28 call) n (sub [1, 1, 1, 1, 1, 1, 1, 0, 1, 0, 0, 1, 0, 0, 1, 1, 1] (bodyOf Try.f28)) (mkSt 99 99 [(4, (.ptr 4 0 [] 0)), (5, (.t (.sl true 1 (ints_i64 a1)))), (6, (I6 a2)), (9, (.ptr 9 0 [] 0)), (10, (.ptr 10 0 [] 0)), (11, (I6 a3)), (12, (I6 a4))] [(4, (.t (.st [(.v (.bool a5)), (.sl false 1 (ints_i64 a6))]))), (9, (.t (.st [(.v (.bool a7)), (.sl false 1 (ints_i64 a8))]))), (10, (.t (.st [(.v (.bool a9)), (.sl false 1 (ints_i64 a10))])))]) = some (ref01_Num_Plus_j6.to r) := by
 rw [ref01_Num_Plus_j6] at h
 obtain ⟨h1, h⟩ := cl h
 cases h
 exact path (ob_le (room_ts ints_i64_map h1) (ob_l (app_ts ints_i64_map (a := a1) (b := ([a4] : List Int))) ob)) (by kernel_rfl)
theorem ref01_Num_Plus_l5.okL (ht : TabOk t call) (n : Nat) : ∀ (k : Nat) (a1 : List Int) (a2 a3 : Int) (a4 : Bool) (a5 : List Int) (a6 : Bool) (a7 : List Int) (a8 : Bool) (a9 : List Int) (r : _), ref01_Num_Plus_l5 t n k a1 a2 a3 a4 a5 a6 a7 a8 a9 = some r → loopN (exec (env Try.prog 28 Try.f28 call) n (sub [1, 1, 1, 1, 1, 1, 1, 0, 1, 0, 0] (bodyOf Try.f28))) k (mkSt 99 99 [(4, (.ptr 4 0 [] 0)), (5, (.t (.sl true 1 (ints_i64 a1)))), (6, (I6 a2)), (9, (.ptr 9 0 [] 0)), (10, (.ptr 10 0 [] 0)), (11, (I6 a3))] [(4, (.t (.st [(.v (.bool a4)), (.sl false 1 (ints_i64 a5))]))), (9, (.t (.st [(.v (.bool a6)), (.sl false 1 (ints_i64 a7))]))), (10, (.t (.st [(.v (.bool a8)), (.sl false 1 (ints_i64 a9))])))]) = some (ref01_Num_Plus_l5.to r)
 | 0, a1, a2, a3, a4, a5, a6, a7, a8, a9, r, h => by rw [ref01_Num_Plus_l5] at h; cases h
 | k + 1, a1, a2, a3, a4, a5, a6, a7, a8, a9, r, h => by
  rw [ref01_Num_Plus_l5] at h
  rcases fk h with ⟨h1, h⟩ | ⟨h1, h⟩
  ·obtain ⟨h2, h⟩ := ck h
   obtain ⟨a10, h3, h⟩ := sm h
   obtain ⟨a11, h4, h⟩ := sm h
   rcases fk h with ⟨h5, h⟩ | ⟨h5, h⟩
   ·obtain ⟨⟨a12, a13, a14, a15, a16, a17, a18, a19, a20⟩, h6, h⟩ := sm h
    exact loop_more (path (ob_v (len_ts ints_i64_map (l := a7)) (ob_b h1 (ob_n h2 (ob_t (look_ts ints_i64_map h3) (ob_c (ht.ref01_digit _ _ _ h4) (ob_b h5 (ob_j (ref01_Num_Plus_j6.ok ht n _ _ _ _ _ _ _ _ _ _ _ h6) ob))))))) (by kernel_rfl)) (ref01_Num_Plus_l5.okL ht n k _ _ _ _ _ _ _ _ _ _ h)
   ·obtain ⟨⟨a21, a22, a23, a24, a25, a26, a27, a28, a29⟩, h7, h⟩ := sm h
    exact loop_more (path (ob_v (len_ts ints_i64_map (l := a7)) (ob_b h1 (ob_n h2 (ob_t (look_ts ints_i64_map h3) (ob_c (ht.ref01_digit _ _ _ h4) (ob_b h5 (ob_j (ref01_Num_Plus_j6.ok ht n _ _ _ _ _ _ _ _ _ _ _ h7) ob))))))) (by kernel_rfl)) (ref01_Num_Plus_l5.okL ht n k _ _ _ _ _ _ _ _ _ _ h)
  ·cases h
   exact loop_out (path (ob_v (len_ts ints_i64_map (l := a7)) (ob_b h1 ob)) (by kernel_rfl)) (fun h => by cases h)
theorem ref01_Num_Plus_j7.ok (ht : TabOk t call) (n : Nat) (a1 : List Int) (a2 : Bool) (a3 : List Int) (a4 : Bool) (a5 : List Int) (r : _) (h : ref01_Num_Plus_j7 t n a1 a2 a3 a4 a5 = some r) : exec (env Try.prog 28 Try.f28 call) n (sub [1, 1, 1, 1, 1, 1, 1, 1] (bodyOf Try.f28)) (mkSt 99 99 [(4, (.ptr 4 0 [] 0)), (5, (.t (.sl true 1 (ints_i64 a1)))), (9, (.ptr 9 0 [] 0))] [(4, (.t (.st [(.v (.bool a2)), (.sl false 1 (ints_i64 a3))]))), (9, (.t (.st [(.v (.bool a4)), (.sl false 1 (ints_i64 a5))])))]) = some (ref01_Num_Plus_j7.to r) := by
 rw [ref01_Num_Plus_j7] at h
 obtain ⟨⟨a6, a7⟩, h1, h⟩ := sm h
 cases h
 exact path (ob_c (ht.ref01_trim _ _ _ h1) ob) (by kernel_rfl)
theorem ref01_Num_Plus_j4.ok (ht : TabOk t call) (n : Nat) (a1 : List Int) (a2 : Int) (a3 : Bool) (a4 : List Int) (a5 : Bool) (a6 : List Int) (a7 : Bool) (a8 : List Int) (r : _) (h : ref01_Num_Plus_j4 t n a1 a2 a3 a4 a5 a6 a7 a8 = some r) : exec (env Try.prog 28 Try.f28 call) n (sub [1, 1, 1, 1, 1, 1, 1] (bodyOf Try.f28)) (mkSt 99 99 [(4, (.ptr 4 0 [] 0)), (5, (.t (.sl true 1 (ints_i64 a1)))), (6, (I6 a2)), (9, (.ptr 9 0 [] 0)), (10, (.ptr 10 0 [] 0))] [(4, (.t (.st [(.v (.bool a3)), (.sl false 1 (ints_i64 a4))]))), (9, (.t (.st [(.v (.bool a5)), (.sl false 1 (ints_i64 a6))]))), (10, (.t (.st [(.v (.bool a7)), (.sl false 1 (ints_i64 a8))])))]) = some (ref01_Num_Plus_j4.to r) := by
 rw [ref01_Num_Plus_j4] at h
 obtain ⟨⟨a9, a10, a11, a12, a13, a14, a15, a16, a17, a18⟩, h1, h⟩ := sm h
 obtain ⟨a19, a20⟩ := r
 have h2 := h
 exact path (ob_k (lk (sub [1, 1, 1, 1, 1, 1, 1, 0, 1, 0] (bodyOf Try.f28)) (by kernel_rfl) (ref01_Num_Plus_l5.okL ht n n _ _ _ _ _ _ _ _ _ _ h1)) (ob_j (ref01_Num_Plus_j7.ok ht n _ _ _ _ _ _ h2) ob)) (by kernel_rfl)
theorem ref01_Num_Plus.ok {n : Nat} {t : Tab} (ht : TabOk t (run Try.prog own kp X n)) : ∀ (p1 : GNum) (p2 : GNum) r, ref01_Num_Plus t n p1 p2 = some r → run Try.prog own kp X (n + 1) 28 [(.t (GNum.t p1)), (.t (GNum.t p2))] [] = some ((.t (GNum.t r)), []) := by
 intro p1 p2 r h
 obtain ⟨a1, a2⟩ := p1
 obtain ⟨a3, a4⟩ := p2
 rw [ref01_Num_Plus] at h
 rcases fk h with ⟨h1, h⟩ | ⟨h1, h⟩
 ·obtain ⟨⟨a5, a6, a7, a8, a9, a10, a11, a12, a13, a14⟩, h2, h⟩ := sm h
  obtain ⟨⟨a15, a16⟩, h3, h⟩ := sm h
  cases h
  exact run_path Try.func28 (ob_b h1 (ob_k (lk (sub [1, 1, 1, 0, 1, 0, 0, 1, 0] (bodyOf Try.f28)) (by kernel_rfl) (ref01_Num_Plus_l1.okL ht n n _ _ _ _ _ _ _ _ _ _ h2)) (ob_j (ref01_Num_Plus_j3.ok ht n _ _ _ _ _ _ h3) ob))) (by kernel_rfl)
 ·obtain ⟨a17, h4, h⟩ := sm h
  rcases fk h with ⟨h5, h⟩ | ⟨h5, h⟩
  ·obtain ⟨⟨a18, a19⟩, h6, h⟩ := sm h
   cases h
   exact run_path Try.func28 (ob_b h1 (ob_c (ht.ref01_size _ _ _ h4) (ob_b h5 (ob_j (ref01_Num_Plus_j4.ok ht n _ _ _ _ _ _ _ _ _ h6) ob)))) (by kernel_rfl)
  ·obtain ⟨⟨a20, a21⟩, h7, h⟩ := sm h
   cases h
   exact run_path Try.func28 (ob_b h1 (ob_c (ht.ref01_size _ _ _ h4) (ob_b h5 (ob_j (ref01_Num_Plus_j4.ok ht n _ _ _ _ _ _ _ _ _ h7) ob)))) (by kernel_rfl)
theorem ref01_Num_Int_j2.ok (ht : TabOk t call) (n : Nat) (a1 a2 : Int) (a3 : Bool) (a4 : List Int) (r : _) (h : ref01_Num_Int_j2 t n a1 a2 a3 a4 = some r) : exec (env Try.prog 31 Try.f31 call) n (sub [1, 1, 0, 1, 0, 0, 1, 0, 0, 1] (bodyOf Try.f31)) (mkSt 43 43 [(1, (.ptr 1 0 [] 0)), (4, (I6 a1)), (5, (I6 a2))] [(1, (.t (.st [(.v (.bool a3)), (.sl false 1 (ints_i64 a4))])))]) = some (ref01_Num_Int_j2.to r) := by
 rw [ref01_Num_Int_j2] at h
 obtain ⟨h1, h⟩ := ck h
 obtain ⟨a5, h2, h⟩ := sm h
 cases h
 exact path (ob_n h1 (ob_t (look_ts ints_i64_map h2) ob)) (by kernel_rfl)
theorem ref01_Num_Int_l1.okL (ht : TabOk t call) (n : Nat) : ∀ (k : Nat) (a1 a2 : Int) (a3 : Bool) (a4 : List Int) (r : _), ref01_Num_Int_l1 t n k a1 a2 a3 a4 = some r → loopN (exec (env Try.prog 31 Try.f31 call) n (sub [1, 1, 0, 1, 0, 0] (bodyOf Try.f31))) k (mkSt 43 43 [(1, (.ptr 1 0 [] 0)), (4, (I6 a1)), (5, (I6 a2))] [(1, (.t (.st [(.v (.bool a3)), (.sl false 1 (ints_i64 a4))])))]) = some (ref01_Num_Int_l1.to r)
 | 0, a1, a2, a3, a4, r, h => by rw [ref01_Num_Int_l1] at h; cases h
 | k + 1, a1, a2, a3, a4, r, h => by
  rw [ref01_Num_Int_l1] at h
  rcases fk h with ⟨h1, h⟩ | ⟨h1, h⟩
  ·rcases fk h with ⟨h2, h⟩ | ⟨h2, h⟩
   ·cases h
    exact loop_out (path (ob_b h1 (ob_b4 h2 (ob_b h2 (ob_b (rfl : true = true) ob)))) (by kernel_rfl)) (fun h => by cases h)
   ·rcases fk h with ⟨h3, h⟩ | ⟨h3, h⟩
    ·obtain ⟨h4, h⟩ := ck h
     obtain ⟨a5, h5, h⟩ := sm h
     have o15 {os} (x : Obls (env Try.prog 31 Try.f31 call) n os) := ob_b h1 (ob_b3 h2 (ob_b4 h3 (ob_n h4 (ob_t (look_ts ints_i64_map h5) (ob_b2 h3 (ob_b h2 (ob_b h3 (ob_b h2 x))))))))
     rcases fk h with ⟨h6, h⟩ | ⟨h6, h⟩
     ·cases h
      exact loop_out (path (o15 (ob_b h6 ob)) (by kernel_rfl)) (fun h => by cases h)
     ·obtain ⟨⟨a6, a7, a8, a9⟩, h7, h⟩ := sm h
      exact loop_more (path (o15 (ob_b h6 (ob_j (ref01_Num_Int_j2.ok ht n _ _ _ _ _ h7) ob))) (by kernel_rfl)) (ref01_Num_Int_l1.okL ht n k _ _ _ _ _ h)
    ·obtain ⟨⟨a10, a11, a12, a13⟩, h8, h⟩ := sm h
     exact loop_more (path (ob_b h1 (ob_b3 h2 (ob_b4 h3 (ob_b2 h3 (ob_b h2 (ob_b h3 (ob_b h2 (ob_b (rfl : false = false) (ob_j (ref01_Num_Int_j2.ok ht n _ _ _ _ _ h8) ob))))))))) (by kernel_rfl)) (ref01_Num_Int_l1.okL ht n k _ _ _ _ _ h)
  ·cases h
   exact loop_out (path (ob_b h1 ob) (by kernel_rfl)) (fun h => by cases h)
theorem ref01_Num_Int_j3.ok (ht : TabOk t call) (n : Nat) (a1 : Int) (a2 : Bool) (a3 : List Int) (r : _) (h : ref01_Num_Int_j3 t n a1 a2 a3 = some r) : exec (env Try.prog 31 Try.f31 call) n (sub [1, 1, 1] (bodyOf Try.f31)) (mkSt 43 43 [(1, (.ptr 1 0 [] 0)), (4, (I6 a1))] [(1, (.t (.st [(.v (.bool a2)), (.sl false 1 (ints_i64 a3))])))]) = some (ref01_Num_Int_j3.to r) := by
 rw [ref01_Num_Int_j3] at h
 rcases fk h with ⟨h1, h⟩ | ⟨h1, h⟩
 ·cases h
  exact path (ob_b h1 ob) (by kernel_rfl)
 ·rcases fk h with ⟨h2, h⟩ | ⟨h2, h⟩
  ·cases h
   exact path (ob_b h1 (ob_b h2 ob)) (by kernel_rfl)
  ·cases h
   exact path (ob_b h1 (ob_b h2 ob)) (by kernel_rfl)
theorem ref01_Num_Int.ok {n : Nat} {t : Tab} (ht : TabOk t (run Try.prog own kp X n)) : ∀ (p1 : GNum) r, ref01_Num_Int t n p1 = some r → run Try.prog own kp X (n + 1) 31 [(.t (GNum.t p1))] [] = some ((.tup [(.v (.int .i64 r.1)), (.v (.bool r.2))]), []) := by
 intro p1 r h
 obtain ⟨a1, a2⟩ := p1
 rw [ref01_Num_Int] at h
 obtain ⟨⟨a3, a4⟩ | ⟨a5, a6, a7, a8, a9⟩, h1, h⟩ := sm h
 ·cases h
  exact run_path Try.func31 (ob_v (len_ts ints_i64_map (l := a2)) (ob_k (lk (sub [1, 1, 0, 1, 0] (bodyOf Try.f31)) (by kernel_rfl) (ref01_Num_Int_l1.okL ht n n _ _ _ _ _ h1)) ob)) (by kernel_rfl)
 ·obtain ⟨a10, a11⟩ := r
  have h2 := h
  exact run_path Try.func31 (ob_v (len_ts ints_i64_map (l := a2)) (ob_k (lk (sub [1, 1, 0, 1, 0] (bodyOf Try.f31)) (by kernel_rfl) (ref01_Num_Int_l1.okL ht n n _ _ _ _ _ h1)) (ob_j (ref01_Num_Int_j3.ok ht n _ _ _ _ h2) ob))) (by kernel_rfl)
theorem slices_MinFunc_gather_Ends_1_l2.okL (ht : TabOk t call) (n : Nat) : ∀ (k : Nat) (a1 : List GMany) (a2 a3 a4 : Int) (a5 : ByteArray) (a6 a7 : List GValue) (a8 a9 a10 : Int) (a11 : ByteArray) (a12 a13 : List GValue) (a14 : Int) (r : _), slices_MinFunc_gather_Ends_1_l2 t n k a1 a2 a3 a4 a5 a6 a7 a8 a9 a10 a11 a12 a13 a14 = some r → loopN (exec (env Try.prog 35 Try.f35 call) n (sub [1, 1, 1, 0, 1, 0, 0] (bodyOf Try.f35))) k (mkSt 33 33 [(0, (Sl 6 (GMany.ts a1))), (1, (.fn 32 [])), (4, (.ptr 4 0 [] 0)), (5, (.ptr 5 0 [] 0)), (6, (I6 a2))] [(4, (.t (.st [(.st [(.v (.int .i64 a3)), (.v (.int .i64 a4)), (.v (.string a5)), (.sl false 5 (GValue.ts a6)), (.sl false 5 (GValue.ts a7))]), (.v (.int .i64 a8))]))), (5, (.t (.st [(.st [(.v (.int .i64 a9)), (.v (.int .i64 a10)), (.v (.string a11)), (.sl false 5 (GValue.ts a12)), (.sl false 5 (GValue.ts a13))]), (.v (.int .i64 a14))])))]) = some (slices_MinFunc_gather_Ends_1_l2.to r)
 | 0, a1, a2, a3, a4, a5, a6, a7, a8, a9, a10, a11, a12, a13, a14, r, h => by rw [slices_MinFunc_gather_Ends_1_l2] at h; cases h
 | k + 1, a1, a2, a3, a4, a5, a6, a7, a8, a9, a10, a11, a12, a13, a14, r, h => by
  rw [slices_MinFunc_gather_Ends_1_l2] at h
  rcases fk h with ⟨h1, h⟩ | ⟨h1, h⟩
  ·obtain ⟨h2, h⟩ := ck h
   obtain ⟨⟨⟨a15, a16, a17, a18, a19⟩, a20⟩, h3, h⟩ := sm h
   obtain ⟨a21, h4, h⟩ := sm h
   rcases fk h with ⟨h5, h⟩ | ⟨h5, h⟩
   ·exact loop_more (path (ob_v (len_ts GMany.ts_map (l := a1)) (ob_b h1 (ob_n h2 (ob_t (look_ts GMany.ts_map h3) (ob_c (ht.gather_Ends_1 _ _ _ h4) (ob_b h5 (ob_n h2 (ob_t (look_ts GMany.ts_map h3) ob)))))))) (by kernel_rfl)) (slices_MinFunc_gather_Ends_1_l2.okL ht n k _ _ _ _ _ _ _ _ _ _ _ _ _ _ _ h)
   ·exact loop_more (path (ob_v (len_ts GMany.ts_map (l := a1)) (ob_b h1 (ob_n h2 (ob_t (look_ts GMany.ts_map h3) (ob_c (ht.gather_Ends_1 _ _ _ h4) (ob_b h5 ob)))))) (by kernel_rfl)) (slices_MinFunc_gather_Ends_1_l2.okL ht n k _ _ _ _ _ _ _ _ _ _ _ _ _ _ _ h)
  ·cases h
   exact loop_out (path (ob_v (len_ts GMany.ts_map (l := a1)) (ob_b h1 ob)) (by kernel_rfl)) (fun h => by cases h)
theorem slices_MinFunc_gather_Ends_1_j1.ok (ht : TabOk t call) (n : Nat) (a1 : List GMany) (a2 a3 : Int) (a4 : ByteArray) (a5 a6 : List GValue) (a7 : Int) (r : _) (h : slices_MinFunc_gather_Ends_1_j1 t n a1 a2 a3 a4 a5 a6 a7 = some r) : exec (env Try.prog 35 Try.f35 call) n (sub [1, 1] (bodyOf Try.f35)) (mkSt 33 33 [(0, (Sl 6 (GMany.ts a1))), (1, (.fn 32 [])), (4, (.ptr 4 0 [] 0))] [(4, (.t (.st [(.st [(.v (.int .i64 a2)), (.v (.int .i64 a3)), (.v (.string a4)), (.sl false 5 (GValue.ts a5)), (.sl false 5 (GValue.ts a6))]), (.v (.int .i64 a7))])))]) = some (slices_MinFunc_gather_Ends_1_j1.to r) := by
 rw [slices_MinFunc_gather_Ends_1_j1] at h
 obtain ⟨h1, h⟩ := ck h
 obtain ⟨⟨⟨a8, a9, a10, a11, a12⟩, a13⟩, h2, h⟩ := sm h
 obtain ⟨⟨a14, a15, a16, a17, a18, a19, a20, a21, a22, a23, a24, a25, a26, a27, a28⟩, h3, h⟩ := sm h
 cases h
 exact path (ob_n h1 (ob_t (look_ts GMany.ts_map h2) (ob_k (lk (sub [1, 1, 1, 0, 1, 0] (bodyOf Try.f35)) (by kernel_rfl) (slices_MinFunc_gather_Ends_1_l2.okL ht n n _ _ _ _ _ _ _ _ _ _ _ _ _ _ _ h3)) ob))) (by kernel_rfl)
theorem slices_MinFunc_gather_Ends_1.ok {n : Nat} {t : Tab} (ht : TabOk t (run Try.prog own kp X n)) : ∀ (p1 : List GMany) r, slices_MinFunc_gather_Ends_1 t n p1 = some r → run Try.prog own kp X (n + 1) 35 [(Sl 6 (GMany.ts p1)), (.fn 32 [])] [] = some ((.t (GMany.t r)), []) := by
 intro p1 r h
 obtain ⟨a1, rfl⟩ : ∃ z_, z_ = p1 := ⟨_, rfl⟩
 rw [slices_MinFunc_gather_Ends_1] at h
 rcases fk h with ⟨h1, h⟩ | ⟨h1, h⟩
 ·cases h
 ·obtain ⟨⟨a2, a3, a4, a5, a6, a7⟩, h2, h⟩ := sm h
  cases h
  exact run_path Try.func35 (ob_v (len_ts GMany.ts_map (l := a1)) (ob_b h1 (ob_j (slices_MinFunc_gather_Ends_1_j1.ok ht n _ _ _ _ _ _ _ _ h2) ob))) (by kernel_rfl)
theorem value_Copy.ok {n : Nat} {t : Tab} (ht : TabOk t (run Try.prog own kp X n)) : ∀ (p1 : GValue) r, value_Copy t n p1 = some r → run Try.prog own kp X (n + 1) 34 [(.t (GValue.t p1))] [] = some ((.t (GValue.t r)), []) := by
 intro p1 r h
 obtain ⟨a1, a2, a3, a4, a5⟩ := p1
 rw [value_Copy] at h
 obtain ⟨a6, a7, a8, a9, a10⟩ := r
 have h1 := h
 exact run_path Try.func34 (ob_c (ht.value_part _ _ _ h1) ob) (by kernel_rfl)
theorem slices_MaxFunc_gather_Ends_1_l2.okL (ht : TabOk t call) (n : Nat) : ∀ (k : Nat) (a1 : List GMany) (a2 a3 a4 : Int) (a5 : ByteArray) (a6 a7 : List GValue) (a8 a9 a10 : Int) (a11 : ByteArray) (a12 a13 : List GValue) (a14 : Int) (r : _), slices_MaxFunc_gather_Ends_1_l2 t n k a1 a2 a3 a4 a5 a6 a7 a8 a9 a10 a11 a12 a13 a14 = some r → loopN (exec (env Try.prog 36 Try.f36 call) n (sub [1, 1, 1, 0, 1, 0, 0] (bodyOf Try.f36))) k (mkSt 33 33 [(0, (Sl 6 (GMany.ts a1))), (1, (.fn 32 [])), (4, (.ptr 4 0 [] 0)), (5, (.ptr 5 0 [] 0)), (6, (I6 a2))] [(4, (.t (.st [(.st [(.v (.int .i64 a3)), (.v (.int .i64 a4)), (.v (.string a5)), (.sl false 5 (GValue.ts a6)), (.sl false 5 (GValue.ts a7))]), (.v (.int .i64 a8))]))), (5, (.t (.st [(.st [(.v (.int .i64 a9)), (.v (.int .i64 a10)), (.v (.string a11)), (.sl false 5 (GValue.ts a12)), (.sl false 5 (GValue.ts a13))]), (.v (.int .i64 a14))])))]) = some (slices_MaxFunc_gather_Ends_1_l2.to r)
 | 0, a1, a2, a3, a4, a5, a6, a7, a8, a9, a10, a11, a12, a13, a14, r, h => by rw [slices_MaxFunc_gather_Ends_1_l2] at h; cases h
 | k + 1, a1, a2, a3, a4, a5, a6, a7, a8, a9, a10, a11, a12, a13, a14, r, h => by
  rw [slices_MaxFunc_gather_Ends_1_l2] at h
  rcases fk h with ⟨h1, h⟩ | ⟨h1, h⟩
  ·obtain ⟨h2, h⟩ := ck h
   obtain ⟨⟨⟨a15, a16, a17, a18, a19⟩, a20⟩, h3, h⟩ := sm h
   obtain ⟨a21, h4, h⟩ := sm h
   rcases fk h with ⟨h5, h⟩ | ⟨h5, h⟩
   ·exact loop_more (path (ob_v (len_ts GMany.ts_map (l := a1)) (ob_b h1 (ob_n h2 (ob_t (look_ts GMany.ts_map h3) (ob_c (ht.gather_Ends_1 _ _ _ h4) (ob_b h5 (ob_n h2 (ob_t (look_ts GMany.ts_map h3) ob)))))))) (by kernel_rfl)) (slices_MaxFunc_gather_Ends_1_l2.okL ht n k _ _ _ _ _ _ _ _ _ _ _ _ _ _ _ h)
   ·exact loop_more (path (ob_v (len_ts GMany.ts_map (l := a1)) (ob_b h1 (ob_n h2 (ob_t (look_ts GMany.ts_map h3) (ob_c (ht.gather_Ends_1 _ _ _ h4) (ob_b h5 ob)))))) (by kernel_rfl)) (slices_MaxFunc_gather_Ends_1_l2.okL ht n k _ _ _ _ _ _ _ _ _ _ _ _ _ _ _ h)
  ·cases h
   exact loop_out (path (ob_v (len_ts GMany.ts_map (l := a1)) (ob_b h1 ob)) (by kernel_rfl)) (fun h => by cases h)
theorem slices_MaxFunc_gather_Ends_1_j1.ok (ht : TabOk t call) (n : Nat) (a1 : List GMany) (a2 a3 : Int) (a4 : ByteArray) (a5 a6 : List GValue) (a7 : Int) (r : _) (h : slices_MaxFunc_gather_Ends_1_j1 t n a1 a2 a3 a4 a5 a6 a7 = some r) : exec (env Try.prog 36 Try.f36 call) n (sub [1, 1] (bodyOf Try.f36)) (mkSt 33 33 [(0, (Sl 6 (GMany.ts a1))), (1, (.fn 32 [])), (4, (.ptr 4 0 [] 0))] [(4, (.t (.st [(.st [(.v (.int .i64 a2)), (.v (.int .i64 a3)), (.v (.string a4)), (.sl false 5 (GValue.ts a5)), (.sl false 5 (GValue.ts a6))]), (.v (.int .i64 a7))])))]) = some (slices_MaxFunc_gather_Ends_1_j1.to r) := by
 rw [slices_MaxFunc_gather_Ends_1_j1] at h
 obtain ⟨h1, h⟩ := ck h
 obtain ⟨⟨⟨a8, a9, a10, a11, a12⟩, a13⟩, h2, h⟩ := sm h
 obtain ⟨⟨a14, a15, a16, a17, a18, a19, a20, a21, a22, a23, a24, a25, a26, a27, a28⟩, h3, h⟩ := sm h
 cases h
 exact path (ob_n h1 (ob_t (look_ts GMany.ts_map h2) (ob_k (lk (sub [1, 1, 1, 0, 1, 0] (bodyOf Try.f36)) (by kernel_rfl) (slices_MaxFunc_gather_Ends_1_l2.okL ht n n _ _ _ _ _ _ _ _ _ _ _ _ _ _ _ h3)) ob))) (by kernel_rfl)
theorem slices_MaxFunc_gather_Ends_1.ok {n : Nat} {t : Tab} (ht : TabOk t (run Try.prog own kp X n)) : ∀ (p1 : List GMany) r, slices_MaxFunc_gather_Ends_1 t n p1 = some r → run Try.prog own kp X (n + 1) 36 [(Sl 6 (GMany.ts p1)), (.fn 32 [])] [] = some ((.t (GMany.t r)), []) := by
 intro p1 r h
 obtain ⟨a1, rfl⟩ : ∃ z_, z_ = p1 := ⟨_, rfl⟩
 rw [slices_MaxFunc_gather_Ends_1] at h
 rcases fk h with ⟨h1, h⟩ | ⟨h1, h⟩
 ·cases h
 ·obtain ⟨⟨a2, a3, a4, a5, a6, a7⟩, h2, h⟩ := sm h
  cases h
  exact run_path Try.func36 (ob_v (len_ts GMany.ts_map (l := a1)) (ob_b h1 (ob_j (slices_MaxFunc_gather_Ends_1_j1.ok ht n _ _ _ _ _ _ _ _ h2) ob))) (by kernel_rfl)
theorem ref02_Cmp.ok {n : Nat} {t : Tab} (ht : TabOk t (run Try.prog own kp X n)) : ∀ (p1 : GValue) (p2 : GValue) r, ref02_Cmp t n p1 p2 = some r → run Try.prog own kp X (n + 1) 37 [(.t (GValue.t p1)), (.t (GValue.t p2))] [] = some ((I6 r), []) := by
 intro p1 p2 r h
 obtain ⟨a1, a2, a3, a4, a5⟩ := p1
 obtain ⟨a6, a7, a8, a9, a10⟩ := p2
 rw [ref02_Cmp] at h
 obtain ⟨a11, rfl⟩ : ∃ z_, z_ = r := ⟨_, rfl⟩
 have h1 := h
 exact run_path Try.func37 (ob_c (ht.ref02_compare _ _ _ _ h1) ob) (by kernel_rfl)
theorem ref02_compare_j3.ok (ht : TabOk t call) (n : Nat) (a1 a2 : Int) (a3 : Bool) (a4 a5 : Int) (a6 : ByteArray) (a7 a8 : List GValue) (a9 a10 : Int) (a11 : ByteArray) (a12 a13 : List GValue) (r : _) (h : ref02_compare_j3 t n a1 a2 a3 a4 a5 a6 a7 a8 a9 a10 a11 a12 a13 = some r) : exec (env Try.prog 38 Try.f38 call) n (sub [1, 1, 1, 1, 0, 1] (bodyOf Try.f38)) (mkSt 54 54 [(2, (I6 a1)), (3, (.ptr 3 0 [] 0)), (4, (.ptr 4 0 [] 0)), (7, (I6 a2)), (32, (Bo a3))] [(3, (.t (.st [(.v (.int .i64 a4)), (.v (.int .i64 a5)), (.v (.string a6)), (.sl false 5 (GValue.ts a7)), (.sl false 5 (GValue.ts a8))]))), (4, (.t (.st [(.v (.int .i64 a9)), (.v (.int .i64 a10)), (.v (.string a11)), (.sl false 5 (GValue.ts a12)), (.sl false 5 (GValue.ts a13))])))]) = some (ref02_compare_j3.to r) := by
 rw [ref02_compare_j3] at h
 rcases fk h with ⟨h1, h⟩ | ⟨h1, h⟩
 ·obtain ⟨a14, h2, h⟩ := sm h
  cases h
  exact path (ob_b h1 (ob_c (ht.ref02_rows _ _ _ _ h2) ob)) (by kernel_rfl)
 ·cases h
  exact path (ob_b h1 ob) (by kernel_rfl)
theorem ref02_compare_j5.ok (ht : TabOk t call) (n : Nat) (a1 a2 : Int) (a3 : Bool) (a4 a5 : Int) (a6 : ByteArray) (a7 a8 : List GValue) (a9 a10 : Int) (a11 : ByteArray) (a12 a13 : List GValue) (r : _) (h : ref02_compare_j5 t n a1 a2 a3 a4 a5 a6 a7 a8 a9 a10 a11 a12 a13 = some r) : exec (env Try.prog 38 Try.f38 call) n (sub [1, 1, 1, 1, 1, 0, 1] (bodyOf Try.f38)) (mkSt 54 54 [(2, (I6 a1)), (3, (.ptr 3 0 [] 0)), (4, (.ptr 4 0 [] 0)), (7, (I6 a2)), (45, (Bo a3))] [(3, (.t (.st [(.v (.int .i64 a4)), (.v (.int .i64 a5)), (.v (.string a6)), (.sl false 5 (GValue.ts a7)), (.sl false 5 (GValue.ts a8))]))), (4, (.t (.st [(.v (.int .i64 a9)), (.v (.int .i64 a10)), (.v (.string a11)), (.sl false 5 (GValue.ts a12)), (.sl false 5 (GValue.ts a13))])))]) = some (ref02_compare_j5.to r) := by
 rw [ref02_compare_j5] at h
 rcases fk h with ⟨h1, h⟩ | ⟨h1, h⟩
 ·obtain ⟨a14, rfl⟩ : ∃ z_, z_ = r := ⟨_, rfl⟩
  have h2 := h
  exact path (ob_b h1 (ob_c (ht.ref02_rows _ _ _ _ h2) ob)) (by kernel_rfl)
 ·cases h
  exact path (ob_b h1 ob) (by kernel_rfl)
theorem ref02_compare_j4.ok (ht : TabOk t call) (n : Nat) (a1 a2 a3 a4 : Int) (a5 : ByteArray) (a6 a7 : List GValue) (a8 a9 : Int) (a10 : ByteArray) (a11 a12 : List GValue) (r : _) (h : ref02_compare_j4 t n a1 a2 a3 a4 a5 a6 a7 a8 a9 a10 a11 a12 = some r) : exec (env Try.prog 38 Try.f38 call) n (sub [1, 1, 1, 1, 1] (bodyOf Try.f38)) (mkSt 54 54 [(2, (I6 a1)), (3, (.ptr 3 0 [] 0)), (4, (.ptr 4 0 [] 0)), (7, (I6 a2))] [(3, (.t (.st [(.v (.int .i64 a3)), (.v (.int .i64 a4)), (.v (.string a5)), (.sl false 5 (GValue.ts a6)), (.sl false 5 (GValue.ts a7))]))), (4, (.t (.st [(.v (.int .i64 a8)), (.v (.int .i64 a9)), (.v (.string a10)), (.sl false 5 (GValue.ts a11)), (.sl false 5 (GValue.ts a12))])))]) = some (ref02_compare_j4.to r) := by
 rw [ref02_compare_j4] at h
 rcases fk h with ⟨h1, h⟩ | ⟨h1, h⟩
 ·obtain ⟨a13, rfl⟩ : ∃ z_, z_ = r := ⟨_, rfl⟩
  have h2 := h
  exact path (ob_b3 h1 (ob_j (ref02_compare_j5.ok ht n _ _ _ _ _ _ _ _ _ _ _ _ _ _ h2) ob)) (by kernel_rfl)
 ·obtain ⟨a14, rfl⟩ : ∃ z_, z_ = r := ⟨_, rfl⟩
  have h3 := h
  exact path (ob_b3 h1 (ob_j (ref02_compare_j5.ok ht n _ _ _ _ _ _ _ _ _ _ _ _ _ _ h3) ob)) (by kernel_rfl)
theorem ref02_compare_j2.ok (ht : TabOk t call) (n : Nat) (a1 a2 a3 a4 : Int) (a5 : ByteArray) (a6 a7 : List GValue) (a8 a9 : Int) (a10 : ByteArray) (a11 a12 : List GValue) (r : _) (h : ref02_compare_j2 t n a1 a2 a3 a4 a5 a6 a7 a8 a9 a10 a11 a12 = some r) : exec (env Try.prog 38 Try.f38 call) n (sub [1, 1, 1, 1] (bodyOf Try.f38)) (mkSt 54 54 [(2, (I6 a1)), (3, (.ptr 3 0 [] 0)), (4, (.ptr 4 0 [] 0)), (7, (I6 a2))] [(3, (.t (.st [(.v (.int .i64 a3)), (.v (.int .i64 a4)), (.v (.string a5)), (.sl false 5 (GValue.ts a6)), (.sl false 5 (GValue.ts a7))]))), (4, (.t (.st [(.v (.int .i64 a8)), (.v (.int .i64 a9)), (.v (.string a10)), (.sl false 5 (GValue.ts a11)), (.sl false 5 (GValue.ts a12))])))]) = some (ref02_compare_j2.to r) := by
 rw [ref02_compare_j2] at h
 rcases fk h with ⟨h1, h⟩ | ⟨h1, h⟩
 ·obtain ⟨⟨a13, a14, a15, a16, a17, a18, a19, a20, a21, a22, a23, a24⟩, h2, h⟩ := sm h
  obtain ⟨a25, rfl⟩ : ∃ z_, z_ = r := ⟨_, rfl⟩
  have h3 := h
  exact path (ob_b3 h1 (ob_j (ref02_compare_j3.ok ht n _ _ _ _ _ _ _ _ _ _ _ _ _ _ h2) (ob_j (ref02_compare_j4.ok ht n _ _ _ _ _ _ _ _ _ _ _ _ _ h3) ob))) (by kernel_rfl)
 ·obtain ⟨⟨a26, a27, a28, a29, a30, a31, a32, a33, a34, a35, a36, a37⟩, h4, h⟩ := sm h
  obtain ⟨a38, rfl⟩ : ∃ z_, z_ = r := ⟨_, rfl⟩
  have h5 := h
  exact path (ob_b3 h1 (ob_j (ref02_compare_j3.ok ht n _ _ _ _ _ _ _ _ _ _ _ _ _ _ h4) (ob_j (ref02_compare_j4.ok ht n _ _ _ _ _ _ _ _ _ _ _ _ _ h5) ob))) (by kernel_rfl)
theorem ref02_compare_j1.ok (ht : TabOk t call) (n : Nat) (a1 a2 a3 a4 : Int) (a5 : ByteArray) (a6 a7 : List GValue) (a8 a9 : Int) (a10 : ByteArray) (a11 a12 : List GValue) (r : _) (h : ref02_compare_j1 t n a1 a2 a3 a4 a5 a6 a7 a8 a9 a10 a11 a12 = some r) : exec (env Try.prog 38 Try.f38 call) n (sub [1, 1, 1] (bodyOf Try.f38)) (mkSt 54 54 [(2, (I6 a1)), (3, (.ptr 3 0 [] 0)), (4, (.ptr 4 0 [] 0)), (7, (I6 a2))] [(3, (.t (.st [(.v (.int .i64 a3)), (.v (.int .i64 a4)), (.v (.string a5)), (.sl false 5 (GValue.ts a6)), (.sl false 5 (GValue.ts a7))]))), (4, (.t (.st [(.v (.int .i64 a8)), (.v (.int .i64 a9)), (.v (.string a10)), (.sl false 5 (GValue.ts a11)), (.sl false 5 (GValue.ts a12))])))]) = some (ref02_compare_j1.to r) := by
 rw [ref02_compare_j1] at h
 rcases fk h with ⟨h1, h⟩ | ⟨h1, h⟩
 ·obtain ⟨a13, h2, h⟩ := sm h
  obtain ⟨a14, rfl⟩ : ∃ z_, z_ = r := ⟨_, rfl⟩
  have h3 := h
  exact path (ob_b h1 (ob_c (ht.ref02_texts _ _ _ h2) (ob_j (ref02_compare_j2.ok ht n _ _ _ _ _ _ _ _ _ _ _ _ _ h3) ob))) (by kernel_rfl)
 ·obtain ⟨a15, rfl⟩ : ∃ z_, z_ = r := ⟨_, rfl⟩
  have h4 := h
  exact path (ob_b h1 (ob_j (ref02_compare_j2.ok ht n _ _ _ _ _ _ _ _ _ _ _ _ _ h4) ob)) (by kernel_rfl)
theorem ref02_compare.ok {n : Nat} {t : Tab} (ht : TabOk t (run Try.prog own kp X n)) : ∀ (p1 : GValue) (p2 : GValue) (p3 : Int) r, ref02_compare t n p1 p2 p3 = some r → run Try.prog own kp X (n + 1) 38 [(.t (GValue.t p1)), (.t (GValue.t p2)), (I6 p3)] [] = some ((I6 r), []) := by
 intro p1 p2 p3 r h
 obtain ⟨a1, a2, a3, a4, a5⟩ := p1
 obtain ⟨a6, a7, a8, a9, a10⟩ := p2
 obtain ⟨a11, rfl⟩ : ∃ z_, z_ = p3 := ⟨_, rfl⟩
 rw [ref02_compare] at h
 obtain ⟨a12, h1, h⟩ := sm h
 rcases fk h with ⟨h2, h⟩ | ⟨h2, h⟩
 ·obtain ⟨a13, h3, h⟩ := sm h
  obtain ⟨a14, rfl⟩ : ∃ z_, z_ = r := ⟨_, rfl⟩
  have h4 := h
  exact run_path Try.func38 (ob_c (ht.ref02_sign _ _ _ h1) (ob_b h2 (ob_c (ht.ref02_sign _ _ _ h3) (ob_j (ref02_compare_j1.ok ht n _ _ _ _ _ _ _ _ _ _ _ _ _ h4) ob)))) (by kernel_rfl)
 ·obtain ⟨a15, rfl⟩ : ∃ z_, z_ = r := ⟨_, rfl⟩
  have h5 := h
  exact run_path Try.func38 (ob_c (ht.ref02_sign _ _ _ h1) (ob_b h2 (ob_j (ref02_compare_j1.ok ht n _ _ _ _ _ _ _ _ _ _ _ _ _ h5) ob))) (by kernel_rfl)
theorem ints_Add_l1.okL (ht : TabOk t call) (n : Nat) : ∀ (k : Nat) (a1 : Int) (a2 : List Int) (a3 a4 : Int) (r : _), ints_Add_l1 t n k a1 a2 a3 a4 = some r → loopN (exec (env Try.prog 44 Try.f44 call) n (sub [1, 1, 0, 1, 0, 0] (bodyOf Try.f44))) k (mkSt 26 26 [(4, (I6 a1)), (9, (Sl 1 (ints_i64 a2))), (10, (I6 a3)), (11, (I6 a4))] []) = some (ints_Add_l1.to r)
 | 0, a1, a2, a3, a4, r, h => by rw [ints_Add_l1] at h; cases h
 | k + 1, a1, a2, a3, a4, r, h => by
  rw [ints_Add_l1] at h
  rcases fk h with ⟨h1, h⟩ | ⟨h1, h⟩
  ·obtain ⟨h2, h⟩ := ck h
   obtain ⟨a5, h3, h⟩ := sm h
   obtain ⟨⟨a6, a7⟩, h4, h⟩ := sm h
   rcases fk h with ⟨h5, h⟩ | ⟨h5, h⟩
   ·exact loop_more (path (ob_b h1 (ob_n h2 (ob_t (look_ts ints_i64_map h3) (ob_c (ht.ints_add _ _ _ h4) (ob_b (congrArg (!·) h5) ob))))) (by kernel_rfl)) (ints_Add_l1.okL ht n k _ _ _ _ _ h)
   ·cases h
    exact loop_out (path (ob_b h1 (ob_n h2 (ob_t (look_ts ints_i64_map h3) (ob_c (ht.ints_add _ _ _ h4) (ob_b (congrArg (!·) h5) ob))))) (by kernel_rfl)) (fun h => by cases h)
  ·cases h
   exact loop_out (path (ob_b h1 ob) (by kernel_rfl)) (fun h => by cases h)
theorem ints_Add.ok {n : Nat} {t : Tab} (ht : TabOk t (run Try.prog own kp X n)) : ∀ (p1 : List Int) r, ints_Add t n p1 = some r → run Try.prog own kp X (n + 1) 44 [(Sl 1 (ints_i64 p1))] [] = some ((.tup [(.v (.int .i64 r.1)), (.v (.int .i64 r.2))]), []) := by
 intro p1 r h
 obtain ⟨a1, rfl⟩ : ∃ z_, z_ = p1 := ⟨_, rfl⟩
 rw [ints_Add] at h
 obtain ⟨⟨a2, a3⟩ | ⟨a4, a5, a6, a7, a8⟩, h1, h⟩ := sm h
 ·cases h
  exact run_path Try.func44 (ob_v (len_ts ints_i64_map (l := a1)) (ob_k (lk (sub [1, 1, 0, 1, 0] (bodyOf Try.f44)) (by kernel_rfl) (ints_Add_l1.okL ht n n _ _ _ _ _ h1)) ob)) (by kernel_rfl)
 ·cases h
  exact run_path Try.func44 (ob_v (len_ts ints_i64_map (l := a1)) (ob_k (lk (sub [1, 1, 0, 1, 0] (bodyOf Try.f44)) (by kernel_rfl) (ints_Add_l1.okL ht n n _ _ _ _ _ h1)) ob)) (by kernel_rfl)
theorem math_bits_Mul64.ok {n : Nat} {t : Tab} (ht : TabOk t (run Try.prog own kp X n)) : ∀ (p1 : Int) (p2 : Int) r, math_bits_Mul64 t n p1 p2 = some r → run Try.prog own kp X (n + 1) 45 [(.t (.v (.int .u64 p1))), (.t (.v (.int .u64 p2)))] [] = some ((.tup [(.v (.int .u64 r.1)), (.v (.int .u64 r.2))]), []) := by
 intro p1 p2 r h
 obtain ⟨a1, rfl⟩ : ∃ z_, z_ = p1 := ⟨_, rfl⟩
 obtain ⟨a2, rfl⟩ : ∃ z_, z_ = p2 := ⟨_, rfl⟩
 rw [math_bits_Mul64] at h
 obtain ⟨a3, h1, h⟩ := sm h
 obtain ⟨a4, h2, h⟩ := sm h
 obtain ⟨a5, h3, h⟩ := sm h
 obtain ⟨a6, h4, h⟩ := sm h
 obtain ⟨a7, h5, h⟩ := sm h
 cases h
 exact run_path Try.func45 (ob_v (shr_ok (P := Try.prog) (t := 58) (x := (.tmp 16)) (y := (.const (.int .u64 32))) (k' := .u64) h1) (ob_v (shr_ok (P := Try.prog) (t := 58) (x := (.tmp 20)) (y := (.const (.int .u64 32))) (k' := .u64) h2) (ob_v (shr_ok (P := Try.prog) (t := 58) (x := (.tmp 28)) (y := (.const (.int .u64 32))) (k' := .u64) h3) (ob_v (shr_ok (P := Try.prog) (t := 58) (x := (.tmp 33)) (y := (.const (.int .u64 32))) (k' := .u64) h4) (ob_v (shr_ok (P := Try.prog) (t := 58) (x := (.tmp 45)) (y := (.const (.int .u64 32))) (k' := .u64) h5) ob))))) (by kernel_rfl)
theorem ref01_Add_l1.okL (ht : TabOk t call) (n : Nat) : ∀ (k : Nat) (a1 : List Int) (a2 : Int) (a3 : Bool) (a4 : List Int) (r : _), ref01_Add_l1 t n k a1 a2 a3 a4 = some r → loopN (exec (env Try.prog 40 Try.f40 call) n (sub [1, 1, 0, 1, 0, 0] (bodyOf Try.f40))) k (mkSt 33 33 [(0, (Sl 1 (ints_i64 a1))), (4, (.ptr 4 0 [] 0)), (5, (I6 a2))] [(4, (.t (.st [(.v (.bool a3)), (.sl false 1 (ints_i64 a4))])))]) = some (ref01_Add_l1.to r)
 | 0, a1, a2, a3, a4, r, h => by rw [ref01_Add_l1] at h; cases h
 | k + 1, a1, a2, a3, a4, r, h => by
  rw [ref01_Add_l1] at h
  rcases fk h with ⟨h1, h⟩ | ⟨h1, h⟩
  ·obtain ⟨h2, h⟩ := ck h
   obtain ⟨a5, h3, h⟩ := sm h
   obtain ⟨⟨a6, a7⟩, h4, h⟩ := sm h
   obtain ⟨⟨a8, a9⟩, h5, h⟩ := sm h
   obtain ⟨⟨a10, a11⟩, h6, h⟩ := sm h
   have o7 {os} (x : Obls (env Try.prog 40 Try.f40 call) n os) := ob_v (len_ts ints_i64_map (l := a1)) (ob_b h1 (ob_n h2 (ob_t (look_ts ints_i64_map h3) (ob_c (ht.ref01_Of _ _ h4) (ob_c (ht.ref01_Num_Plus _ _ _ h5) (ob_c (ht.ref01_Num_Int _ _ h6) x))))))
   rcases fk h with ⟨h7, h⟩ | ⟨h7, h⟩
   ·exact loop_more (path (o7 (ob_b (congrArg (!·) h7) ob)) (by kernel_rfl)) (ref01_Add_l1.okL ht n k _ _ _ _ _ h)
   ·cases h
    exact loop_out (path (o7 (ob_b (congrArg (!·) h7) ob)) (by kernel_rfl)) (fun h => by cases h)
  ·cases h
   exact loop_out (path (ob_v (len_ts ints_i64_map (l := a1)) (ob_b h1 ob)) (by kernel_rfl)) (fun h => by cases h)
theorem ref01_Add_j2.ok (ht : TabOk t call) (n : Nat) (a1 : Bool) (a2 : List Int) (r : _) (h : ref01_Add_j2 t n a1 a2 = some r) : exec (env Try.prog 40 Try.f40 call) n (sub [1, 1, 1] (bodyOf Try.f40)) (mkSt 33 33 [(4, (.ptr 4 0 [] 0))] [(4, (.t (.st [(.v (.bool a1)), (.sl false 1 (ints_i64 a2))])))]) = some (ref01_Add_j2.to r) := by
 rw [ref01_Add_j2] at h
 obtain ⟨a3, a4⟩ := r
 have h1 := h
 exact path (ob_c (ht.ref01_told _ _ h1) ob) (by kernel_rfl)
theorem ref01_Add.ok {n : Nat} {t : Tab} (ht : TabOk t (run Try.prog own kp X n)) : ∀ (p1 : List Int) r, ref01_Add t n p1 = some r → run Try.prog own kp X (n + 1) 40 [(Sl 1 (ints_i64 p1))] [] = some ((.tup [(.v (.int .i64 r.1)), (.v (.int .i64 r.2))]), []) := by
 intro p1 r h
 obtain ⟨a1, rfl⟩ : ∃ z_, z_ = p1 := ⟨_, rfl⟩
 rw [ref01_Add] at h
 obtain ⟨⟨a2, a3⟩ | ⟨a4, a5, a6, a7, a8⟩, h1, h⟩ := sm h
 ·cases h
  exact run_path Try.func40 (ob_k (lk (sub [1, 1, 0, 1, 0] (bodyOf Try.f40)) (by kernel_rfl) (ref01_Add_l1.okL ht n n _ _ _ _ _ h1)) ob) (by kernel_rfl)
 ·obtain ⟨a9, a10⟩ := r
  have h2 := h
  exact run_path Try.func40 (ob_k (lk (sub [1, 1, 0, 1, 0] (bodyOf Try.f40)) (by kernel_rfl) (ref01_Add_l1.okL ht n n _ _ _ _ _ h1)) (ob_j (ref01_Add_j2.ok ht n _ _ _ h2) ob)) (by kernel_rfl)
theorem ref01_trim_l1.okL (ht : TabOk t call) (n : Nat) : ∀ (k : Nat) (a1 : Bool) (a2 : List Int) (a3 : Int) (a4 : Bool) (a5 : List Int) (r : _), ref01_trim_l1 t n k a1 a2 a3 a4 a5 = some r → loopN (exec (env Try.prog 48 Try.f48 call) n (sub [1, 1, 0, 0, 0] (bodyOf Try.f48))) k (mkSt 29 29 [(0, (Bo a1)), (1, (Sl 1 (ints_i64 a2))), (4, (.ptr 4 0 [] 0)), (5, (I6 a3))] [(4, (.t (.st [(.v (.bool a4)), (.sl false 1 (ints_i64 a5))])))]) = some (ref01_trim_l1.to r)
 | 0, a1, a2, a3, a4, a5, r, h => by rw [ref01_trim_l1] at h; cases h
 | k + 1, a1, a2, a3, a4, a5, r, h => by
  rw [ref01_trim_l1] at h
  rcases fk h with ⟨h1, h⟩ | ⟨h1, h⟩
  ·obtain ⟨h2, h⟩ := ck h
   obtain ⟨a6, h3, h⟩ := sm h
   rcases fk h with ⟨h4, h⟩ | ⟨h4, h⟩
   ·exact loop_more (path (ob_b4 h1 (ob_n h2 (ob_t (look_ts ints_i64_map h3) (ob_b3 h1 (ob_b h4 ob))))) (by kernel_rfl)) (ref01_trim_l1.okL ht n k _ _ _ _ _ _ h)
   ·cases h
    exact loop_out (path (ob_b4 h1 (ob_n h2 (ob_t (look_ts ints_i64_map h3) (ob_b3 h1 (ob_b h4 ob))))) (by kernel_rfl)) (fun h => by cases h)
  ·cases h
   exact loop_out (path (ob_b4 h1 (ob_b3 h1 (ob_b (rfl : false = false) ob))) (by kernel_rfl)) (fun h => by cases h)
theorem ref01_trim_j2.ok (ht : TabOk t call) (n : Nat) (a1 : Bool) (a2 : List Int) (a3 : Int) (a4 : Bool) (a5 : List Int) (r : _) (h : ref01_trim_j2 t n a1 a2 a3 a4 a5 = some r) : exec (env Try.prog 48 Try.f48 call) n (sub [1, 1, 1] (bodyOf Try.f48)) (mkSt 29 29 [(0, (Bo a1)), (1, (Sl 1 (ints_i64 a2))), (4, (.ptr 4 0 [] 0)), (5, (I6 a3))] [(4, (.t (.st [(.v (.bool a4)), (.sl false 1 (ints_i64 a5))])))]) = some (ref01_trim_j2.to r) := by
 rw [ref01_trim_j2] at h
 rcases fk h with ⟨h1, h⟩ | ⟨h1, h⟩
 ·obtain ⟨h2, h⟩ := ck h
  cases h
  exact path (ob_b3 h1 (ob_n (within_ts ints_i64_map h2) (ob_l (cut_ts ints_i64_map (l := a2) (h := (a3 : Int).toNat) (i := (0 : Int).toNat)) ob))) (by kernel_rfl)
 ·obtain ⟨h3, h⟩ := ck h
  cases h
  exact path (ob_b3 h1 (ob_n (within_ts ints_i64_map h3) (ob_l (cut_ts ints_i64_map (l := a2) (h := (a3 : Int).toNat) (i := (0 : Int).toNat)) ob))) (by kernel_rfl)
theorem ref01_trim.ok {n : Nat} {t : Tab} (ht : TabOk t (run Try.prog own kp X n)) : ∀ (p1 : Bool) (p2 : List Int) r, ref01_trim t n p1 p2 = some r → run Try.prog own kp X (n + 1) 48 [(Bo p1), (Sl 1 (ints_i64 p2))] [] = some ((.t (GNum.t r)), []) := by
 intro p1 p2 r h
 obtain ⟨a1, rfl⟩ : ∃ z_, z_ = p1 := ⟨_, rfl⟩
 obtain ⟨a2, rfl⟩ : ∃ z_, z_ = p2 := ⟨_, rfl⟩
 rw [ref01_trim] at h
 obtain ⟨⟨a3, a4, a5, a6, a7, a8⟩, h1, h⟩ := sm h
 obtain ⟨⟨a9, a10⟩, h2, h⟩ := sm h
 cases h
 exact run_path Try.func48 (ob_v (len_ts ints_i64_map (l := a2)) (ob_k (lk (sub [1, 1, 0, 0] (bodyOf Try.f48)) (by kernel_rfl) (ref01_trim_l1.okL ht n n _ _ _ _ _ _ h1)) (ob_j (ref01_trim_j2.ok ht n _ _ _ _ _ _ h2) ob))) (by kernel_rfl)
theorem ref01_digit.ok {n : Nat} {t : Tab} (ht : TabOk t (run Try.prog own kp X n)) : ∀ (p1 : List Int) (p2 : Int) r, ref01_digit t n p1 p2 = some r → run Try.prog own kp X (n + 1) 47 [(Sl 1 (ints_i64 p1)), (I6 p2)] [] = some ((I6 r), []) := by
 intro p1 p2 r h
 obtain ⟨a1, rfl⟩ : ∃ z_, z_ = p1 := ⟨_, rfl⟩
 obtain ⟨a2, rfl⟩ : ∃ z_, z_ = p2 := ⟨_, rfl⟩
 rw [ref01_digit] at h
 rcases fk h with ⟨h1, h⟩ | ⟨h1, h⟩
 ·obtain ⟨h2, h⟩ := ck h
  obtain ⟨a3, h3, h⟩ := sm h
  cases h
  exact run_path Try.func47 (ob_v (len_ts ints_i64_map (l := a1)) (ob_b h1 (ob_n h2 (ob_t (look_ts ints_i64_map h3) ob)))) (by kernel_rfl)
 ·cases h
  exact run_path Try.func47 (ob_v (len_ts ints_i64_map (l := a1)) (ob_b h1 ob)) (by kernel_rfl)
theorem ref01_size_l1.okL (ht : TabOk t call) (n : Nat) : ∀ (k : Nat) (a1 a2 : List Int) (a3 : Int) (r : _), ref01_size_l1 t n k a1 a2 a3 = some r → loopN (exec (env Try.prog 49 Try.f49 call) n (sub [1, 1, 0, 1, 0, 0] (bodyOf Try.f49))) k (mkSt 41 41 [(0, (Sl 1 (ints_i64 a1))), (1, (Sl 1 (ints_i64 a2))), (5, (I6 a3))] []) = some (ref01_size_l1.to r)
 | 0, a1, a2, a3, r, h => by rw [ref01_size_l1] at h; cases h
 | k + 1, a1, a2, a3, r, h => by
  rw [ref01_size_l1] at h
  rcases fk h with ⟨h1, h⟩ | ⟨h1, h⟩
  ·obtain ⟨h2, h⟩ := ck h
   obtain ⟨a4, h3, h⟩ := sm h
   obtain ⟨a5, h4, h⟩ := sm h
   rcases fk h with ⟨h5, h⟩ | ⟨h5, h⟩
   ·cases h
    exact loop_out (path (ob_b h1 (ob_n h2 (ob_t (look_ts ints_i64_map h3) (ob_n h2 (ob_t (look_ts ints_i64_map h4) (ob_b h5 (ob_n h2 (ob_t (look_ts ints_i64_map h3) (ob_n h2 (ob_t (look_ts ints_i64_map h4) ob)))))))))) (by kernel_rfl)) (fun h => by cases h)
   ·exact loop_more (path (ob_b h1 (ob_n h2 (ob_t (look_ts ints_i64_map h3) (ob_n h2 (ob_t (look_ts ints_i64_map h4) (ob_b h5 ob)))))) (by kernel_rfl)) (ref01_size_l1.okL ht n k _ _ _ _ h)
  ·cases h
   exact loop_out (path (ob_b h1 ob) (by kernel_rfl)) (fun h => by cases h)
theorem ref01_size.ok {n : Nat} {t : Tab} (ht : TabOk t (run Try.prog own kp X n)) : ∀ (p1 : List Int) (p2 : List Int) r, ref01_size t n p1 p2 = some r → run Try.prog own kp X (n + 1) 49 [(Sl 1 (ints_i64 p1)), (Sl 1 (ints_i64 p2))] [] = some ((I6 r), []) := by
 intro p1 p2 r h
 obtain ⟨a1, rfl⟩ : ∃ z_, z_ = p1 := ⟨_, rfl⟩
 obtain ⟨a2, rfl⟩ : ∃ z_, z_ = p2 := ⟨_, rfl⟩
 rw [ref01_size] at h
 rcases fk h with ⟨h1, h⟩ | ⟨h1, h⟩
 ·cases h
  exact run_path Try.func49 (ob_v (len_ts ints_i64_map (l := a1)) (ob_v (len_ts ints_i64_map (l := a2)) (ob_b h1 (ob_v (len_ts ints_i64_map (l := a1)) (ob_v (len_ts ints_i64_map (l := a2)) ob))))) (by kernel_rfl)
 ·obtain ⟨a3 | ⟨a4, a5, a6, a7⟩, h2, h⟩ := sm h
  ·cases h
   exact run_path Try.func49 (ob_v (len_ts ints_i64_map (l := a1)) (ob_v (len_ts ints_i64_map (l := a2)) (ob_b h1 (ob_v (len_ts ints_i64_map (l := a1)) (ob_k (lk (sub [1, 1, 0, 1, 0] (bodyOf Try.f49)) (by kernel_rfl) (ref01_size_l1.okL ht n n _ _ _ _ h2)) ob))))) (by kernel_rfl)
  ·cases h
   exact run_path Try.func49 (ob_v (len_ts ints_i64_map (l := a1)) (ob_v (len_ts ints_i64_map (l := a2)) (ob_b h1 (ob_v (len_ts ints_i64_map (l := a1)) (ob_k (lk (sub [1, 1, 0, 1, 0] (bodyOf Try.f49)) (by kernel_rfl) (ref01_size_l1.okL ht n n _ _ _ _ h2)) ob))))) (by kernel_rfl)
theorem gather_Ends_1.ok {n : Nat} {t : Tab} (ht : TabOk t (run Try.prog own kp X n)) : ∀ (p1 : GMany) (p2 : GMany) r, gather_Ends_1 t n p1 p2 = some r → run Try.prog own kp X (n + 1) 32 [(.t (GMany.t p1)), (.t (GMany.t p2))] [] = some ((I6 r), []) := by
 intro p1 p2 r h
 obtain ⟨⟨a1, a2, a3, a4, a5⟩, a6⟩ := p1
 obtain ⟨⟨a7, a8, a9, a10, a11⟩, a12⟩ := p2
 rw [gather_Ends_1] at h
 obtain ⟨a13, rfl⟩ : ∃ z_, z_ = r := ⟨_, rfl⟩
 have h1 := h
 exact run_path Try.func32 (ob_c (ht.value_Cmp _ _ _ h1) ob) (by kernel_rfl)
theorem value_part.ok {n : Nat} {t : Tab} (ht : TabOk t (run Try.prog own kp X n)) : ∀ (p1 : GValue) (p2 : Int) r, value_part t n p1 p2 = some r → run Try.prog own kp X (n + 1) 51 [(.t (GValue.t p1)), (I6 p2)] [] = some ((.t (GValue.t r)), []) := by
 intro p1 p2 r h
 obtain ⟨a1, a2, a3, a4, a5⟩ := p1
 obtain ⟨a6, rfl⟩ : ∃ z_, z_ = p2 := ⟨_, rfl⟩
 rw [value_part] at h
 rcases fk h with ⟨h1, h⟩ | ⟨h1, h⟩
 ·cases h
  exact run_path Try.func51 (ob_b h1 ob) (by kernel_rfl)
 ·obtain ⟨a7, h2, h⟩ := sm h
  obtain ⟨a8, h3, h⟩ := sm h
  cases h
  exact run_path Try.func51 (ob_b h1 (ob_c (ht.value_copied _ _ _ h2) (ob_c (ht.value_copied _ _ _ h3) ob))) (by kernel_rfl)
theorem ref02_sign.ok {n : Nat} {t : Tab} (ht : TabOk t (run Try.prog own kp X n)) : ∀ (p1 : Int) (p2 : Int) r, ref02_sign t n p1 p2 = some r → run Try.prog own kp X (n + 1) 52 [(I6 p1), (I6 p2)] [] = some ((I6 r), []) := by
 intro p1 p2 r h
 obtain ⟨a1, rfl⟩ : ∃ z_, z_ = p1 := ⟨_, rfl⟩
 obtain ⟨a2, rfl⟩ : ∃ z_, z_ = p2 := ⟨_, rfl⟩
 rw [ref02_sign] at h
 rcases fk h with ⟨h1, h⟩ | ⟨h1, h⟩
 ·cases h
  exact run_path Try.func52 (ob_b h1 ob) (by kernel_rfl)
 ·rcases fk h with ⟨h2, h⟩ | ⟨h2, h⟩
  ·cases h
   exact run_path Try.func52 (ob_b h1 (ob_b h2 ob)) (by kernel_rfl)
  ·cases h
   exact run_path Try.func52 (ob_b h1 (ob_b h2 ob)) (by kernel_rfl)
theorem ref02_texts_j2.ok (ht : TabOk t call) (n : Nat) (a1 a2 : ByteArray) (a3 : Int) (r : _) (h : ref02_texts_j2 t n a1 a2 a3 = some r) : exec (env Try.prog 53 Try.f53 call) n (sub [1, 0, 1, 0, 0, 1] (bodyOf Try.f53)) (mkSt 39 39 [(0, (Sr a1)), (1, (Sr a2)), (5, (I6 a3))] []) = some (ref02_texts_j2.to r) := by
 rw [ref02_texts_j2] at h
 obtain ⟨a4, h1, h⟩ := sm h
 obtain ⟨a5, h2, h⟩ := sm h
 rcases fk h with ⟨h3, h⟩ | ⟨h3, h⟩
 ·obtain ⟨a6, h4, h⟩ := sm h
  cases h
  exact path (ob_v (at_ok (P := Try.prog) (t := 9) (k := .i64) (by kernel_rfl) h1) (ob_v (at_ok (P := Try.prog) (t := 9) (k := .i64) (by kernel_rfl) h2) (ob_b h3 (ob_v (at_ok (P := Try.prog) (t := 9) (k := .i64) (by kernel_rfl) h1) (ob_v (at_ok (P := Try.prog) (t := 9) (k := .i64) (by kernel_rfl) h2) (ob_c (ht.ref02_sign _ _ _ h4) ob)))))) (by kernel_rfl)
 ·cases h
  exact path (ob_v (at_ok (P := Try.prog) (t := 9) (k := .i64) (by kernel_rfl) h1) (ob_v (at_ok (P := Try.prog) (t := 9) (k := .i64) (by kernel_rfl) h2) (ob_b h3 ob))) (by kernel_rfl)
theorem ref02_texts_l1.okL (ht : TabOk t call) (n : Nat) : ∀ (k : Nat) (a1 a2 : ByteArray) (a3 : Int) (r : _), ref02_texts_l1 t n k a1 a2 a3 = some r → loopN (exec (env Try.prog 53 Try.f53 call) n (sub [1, 0, 1, 0, 0] (bodyOf Try.f53))) k (mkSt 39 39 [(0, (Sr a1)), (1, (Sr a2)), (5, (I6 a3))] []) = some (ref02_texts_l1.to r)
 | 0, a1, a2, a3, r, h => by rw [ref02_texts_l1] at h; cases h
 | k + 1, a1, a2, a3, r, h => by
  rw [ref02_texts_l1] at h
  rcases fk h with ⟨h1, h⟩ | ⟨h1, h⟩
  ·rcases fk h with ⟨h2, h⟩ | ⟨h2, h⟩
   ·obtain ⟨a4 | ⟨a5, a6, a7⟩, h3, h⟩ := sm h
    ·cases h
     exact loop_out (path (ob_b4 h1 (ob_b h1 (ob_b h2 (ob_j (ref02_texts_j2.ok ht n _ _ _ _ h3) ob)))) (by kernel_rfl)) (fun h => by cases h)
    ·exact loop_more (path (ob_b4 h1 (ob_b h1 (ob_b h2 (ob_j (ref02_texts_j2.ok ht n _ _ _ _ h3) ob)))) (by kernel_rfl)) (ref02_texts_l1.okL ht n k _ _ _ _ h)
   ·cases h
    exact loop_out (path (ob_b4 h1 (ob_b h1 (ob_b h2 ob))) (by kernel_rfl)) (fun h => by cases h)
  ·cases h
   exact loop_out (path (ob_b4 h1 (ob_b h1 (ob_b (rfl : false = false) ob))) (by kernel_rfl)) (fun h => by cases h)
theorem ref02_texts_j3.ok (ht : TabOk t call) (n : Nat) (a1 a2 : ByteArray) (r : _) (h : ref02_texts_j3 t n a1 a2 = some r) : exec (env Try.prog 53 Try.f53 call) n (sub [1, 1] (bodyOf Try.f53)) (mkSt 39 39 [(0, (Sr a1)), (1, (Sr a2))] []) = some (ref02_texts_j3.to r) := by
 rw [ref02_texts_j3] at h
 obtain ⟨a3, rfl⟩ : ∃ z_, z_ = r := ⟨_, rfl⟩
 have h1 := h
 exact path (ob_c (ht.ref02_sign _ _ _ h1) ob) (by kernel_rfl)
theorem ref02_texts.ok {n : Nat} {t : Tab} (ht : TabOk t (run Try.prog own kp X n)) : ∀ (p1 : ByteArray) (p2 : ByteArray) r, ref02_texts t n p1 p2 = some r → run Try.prog own kp X (n + 1) 53 [(Sr p1), (Sr p2)] [] = some ((I6 r), []) := by
 intro p1 p2 r h
 obtain ⟨a1, rfl⟩ : ∃ z_, z_ = p1 := ⟨_, rfl⟩
 obtain ⟨a2, rfl⟩ : ∃ z_, z_ = p2 := ⟨_, rfl⟩
 rw [ref02_texts] at h
 obtain ⟨a3 | ⟨a4, a5, a6, a7⟩, h1, h⟩ := sm h
 ·cases h
  exact run_path Try.func53 (ob_k (lk (sub [1, 0, 1, 0] (bodyOf Try.f53)) (by kernel_rfl) (ref02_texts_l1.okL ht n n _ _ _ _ h1)) ob) (by kernel_rfl)
 ·obtain ⟨a8, rfl⟩ : ∃ z_, z_ = r := ⟨_, rfl⟩
  have h2 := h
  exact run_path Try.func53 (ob_k (lk (sub [1, 0, 1, 0] (bodyOf Try.f53)) (by kernel_rfl) (ref02_texts_l1.okL ht n n _ _ _ _ h1)) (ob_j (ref02_texts_j3.ok ht n _ _ _ h2) ob)) (by kernel_rfl)
theorem ref02_rows_j2.ok (ht : TabOk t call) (n : Nat) (a1 a2 : List GValue) (a3 a4 : Int) (r : _) (h : ref02_rows_j2 t n a1 a2 a3 a4 = some r) : exec (env Try.prog 54 Try.f54 call) n (sub [1, 0, 1, 0, 0, 1] (bodyOf Try.f54)) (mkSt 39 39 [(0, (Sl 5 (GValue.ts a1))), (1, (Sl 5 (GValue.ts a2))), (2, (I6 a3)), (7, (I6 a4))] []) = some (ref02_rows_j2.to r) := by
 rw [ref02_rows_j2] at h
 obtain ⟨h1, h⟩ := ck h
 obtain ⟨⟨a5, a6, a7, a8, a9⟩, h2, h⟩ := sm h
 obtain ⟨⟨a10, a11, a12, a13, a14⟩, h3, h⟩ := sm h
 obtain ⟨a15, h4, h⟩ := sm h
 rcases fk h with ⟨h5, h⟩ | ⟨h5, h⟩
 ·cases h
  exact path (ob_n h1 (ob_t (look_ts GValue.ts_map h2) (ob_n h1 (ob_t (look_ts GValue.ts_map h3) (ob_c (ht.ref02_compare _ _ _ _ h4) (ob_b h5 ob)))))) (by kernel_rfl)
 ·cases h
  exact path (ob_n h1 (ob_t (look_ts GValue.ts_map h2) (ob_n h1 (ob_t (look_ts GValue.ts_map h3) (ob_c (ht.ref02_compare _ _ _ _ h4) (ob_b h5 ob)))))) (by kernel_rfl)
theorem ref02_rows_l1.okL (ht : TabOk t call) (n : Nat) : ∀ (k : Nat) (a1 a2 : List GValue) (a3 a4 : Int) (r : _), ref02_rows_l1 t n k a1 a2 a3 a4 = some r → loopN (exec (env Try.prog 54 Try.f54 call) n (sub [1, 0, 1, 0, 0] (bodyOf Try.f54))) k (mkSt 39 39 [(0, (Sl 5 (GValue.ts a1))), (1, (Sl 5 (GValue.ts a2))), (2, (I6 a3)), (7, (I6 a4))] []) = some (ref02_rows_l1.to r)
 | 0, a1, a2, a3, a4, r, h => by rw [ref02_rows_l1] at h; cases h
 | k + 1, a1, a2, a3, a4, r, h => by
  rw [ref02_rows_l1] at h
  rcases fk h with ⟨h1, h⟩ | ⟨h1, h⟩
  ·have o7 {os} (x : Obls (env Try.prog 54 Try.f54 call) n os) := ob_v (len_ts GValue.ts_map (l := a1)) (ob_b3 h1 (ob_v (len_ts GValue.ts_map (l := a2)) (ob_b2 h1 x)))
   rcases fk h with ⟨h2, h⟩ | ⟨h2, h⟩
   ·obtain ⟨a5 | ⟨a6, a7, a8, a9⟩, h3, h⟩ := sm h
    ·cases h
     exact loop_out (path (o7 (ob_b h2 (ob_j (ref02_rows_j2.ok ht n _ _ _ _ _ h3) ob))) (by kernel_rfl)) (fun h => by cases h)
    ·exact loop_more (path (o7 (ob_b h2 (ob_j (ref02_rows_j2.ok ht n _ _ _ _ _ h3) ob))) (by kernel_rfl)) (ref02_rows_l1.okL ht n k _ _ _ _ _ h)
   ·cases h
    exact loop_out (path (o7 (ob_b h2 ob)) (by kernel_rfl)) (fun h => by cases h)
  ·cases h
   exact loop_out (path (ob_v (len_ts GValue.ts_map (l := a1)) (ob_b4 h1 (ob_b h1 (ob_b (rfl : false = false) ob)))) (by kernel_rfl)) (fun h => by cases h)
theorem ref02_rows_j3.ok (ht : TabOk t call) (n : Nat) (a1 a2 : List GValue) (r : _) (h : ref02_rows_j3 t n a1 a2 = some r) : exec (env Try.prog 54 Try.f54 call) n (sub [1, 1] (bodyOf Try.f54)) (mkSt 39 39 [(0, (Sl 5 (GValue.ts a1))), (1, (Sl 5 (GValue.ts a2)))] []) = some (ref02_rows_j3.to r) := by
 rw [ref02_rows_j3] at h
 obtain ⟨a3, rfl⟩ : ∃ z_, z_ = r := ⟨_, rfl⟩
 have h1 := h
 exact path (ob_v (len_ts GValue.ts_map (l := a1)) (ob_v (len_ts GValue.ts_map (l := a2)) (ob_c (ht.ref02_sign _ _ _ h1) ob))) (by kernel_rfl)
theorem ref02_rows.ok {n : Nat} {t : Tab} (ht : TabOk t (run Try.prog own kp X n)) : ∀ (p1 : List GValue) (p2 : List GValue) (p3 : Int) r, ref02_rows t n p1 p2 p3 = some r → run Try.prog own kp X (n + 1) 54 [(Sl 5 (GValue.ts p1)), (Sl 5 (GValue.ts p2)), (I6 p3)] [] = some ((I6 r), []) := by
 intro p1 p2 p3 r h
 obtain ⟨a1, rfl⟩ : ∃ z_, z_ = p1 := ⟨_, rfl⟩
 obtain ⟨a2, rfl⟩ : ∃ z_, z_ = p2 := ⟨_, rfl⟩
 obtain ⟨a3, rfl⟩ : ∃ z_, z_ = p3 := ⟨_, rfl⟩
 rw [ref02_rows] at h
 obtain ⟨a4 | ⟨a5, a6, a7, a8, a9⟩, h1, h⟩ := sm h
 ·cases h
  exact run_path Try.func54 (ob_k (lk (sub [1, 0, 1, 0] (bodyOf Try.f54)) (by kernel_rfl) (ref02_rows_l1.okL ht n n _ _ _ _ _ h1)) ob) (by kernel_rfl)
 ·obtain ⟨a10, rfl⟩ : ∃ z_, z_ = r := ⟨_, rfl⟩
  have h2 := h
  exact run_path Try.func54 (ob_k (lk (sub [1, 0, 1, 0] (bodyOf Try.f54)) (by kernel_rfl) (ref02_rows_l1.okL ht n n _ _ _ _ _ h1)) (ob_j (ref02_rows_j3.ok ht n _ _ _ h2) ob)) (by kernel_rfl)
theorem ints_add.ok {n : Nat} {t : Tab} (ht : TabOk t (run Try.prog own kp X n)) : ∀ (p1 : Int) (p2 : Int) r, ints_add t n p1 p2 = some r → run Try.prog own kp X (n + 1) 58 [(I6 p1), (I6 p2)] [] = some ((.tup [(.v (.int .i64 r.1)), (.v (.bool r.2))]), []) := by
 intro p1 p2 r h
 obtain ⟨a1, rfl⟩ : ∃ z_, z_ = p1 := ⟨_, rfl⟩
 obtain ⟨a2, rfl⟩ : ∃ z_, z_ = p2 := ⟨_, rfl⟩
 rw [ints_add] at h
 cases h
 exact run_path Try.func58 ob (by kernel_rfl)
theorem ref01_told.ok {n : Nat} {t : Tab} (ht : TabOk t (run Try.prog own kp X n)) : ∀ (p1 : GNum) r, ref01_told t n p1 = some r → run Try.prog own kp X (n + 1) 55 [(.t (GNum.t p1))] [] = some ((.tup [(.v (.int .i64 r.1)), (.v (.int .i64 r.2))]), []) := by
 intro p1 r h
 obtain ⟨a1, a2⟩ := p1
 rw [ref01_told] at h
 obtain ⟨⟨a3, a4⟩, h1, h⟩ := sm h
 rcases fk h with ⟨h2, h⟩ | ⟨h2, h⟩
 ·cases h
  exact run_path Try.func55 (ob_c (ht.ref01_Num_Int _ _ h1) (ob_b (congrArg (!·) h2) ob)) (by kernel_rfl)
 ·cases h
  exact run_path Try.func55 (ob_c (ht.ref01_Num_Int _ _ h1) (ob_b (congrArg (!·) h2) ob)) (by kernel_rfl)
theorem value_Cmp.ok {n : Nat} {t : Tab} (ht : TabOk t (run Try.prog own kp X n)) : ∀ (p1 : GValue) (p2 : GValue) r, value_Cmp t n p1 p2 = some r → run Try.prog own kp X (n + 1) 33 [(.t (GValue.t p1)), (.t (GValue.t p2))] [] = some ((I6 r), []) := by
 intro p1 p2 r h
 obtain ⟨a1, a2, a3, a4, a5⟩ := p1
 obtain ⟨a6, a7, a8, a9, a10⟩ := p2
 rw [value_Cmp] at h
 obtain ⟨a11, rfl⟩ : ∃ z_, z_ = r := ⟨_, rfl⟩
 have h1 := h
 exact run_path Try.func33 (ob_c (ht.value_compare _ _ _ _ h1) ob) (by kernel_rfl)
theorem value_copied_l1.okL (ht : TabOk t call) (n : Nat) : ∀ (k : Nat) (a1 : Int) (a2 a3 : List GValue) (a4 a5 : Int) (r : _), value_copied_l1 t n k a1 a2 a3 a4 a5 = some r → loopN (exec (env Try.prog 64 Try.f64 call) n (sub [1, 1, 0, 1, 0, 0] (bodyOf Try.f64))) k (mkSt 22 22 [(1, (I6 a1)), (5, (.t (.sl true 5 (GValue.ts a2)))), (8, (Sl 5 (GValue.ts a3))), (9, (I6 a4)), (10, (I6 a5))] []) = some (value_copied_l1.to r)
 | 0, a1, a2, a3, a4, a5, r, h => by rw [value_copied_l1] at h; cases h
 | k + 1, a1, a2, a3, a4, a5, r, h => by
  rw [value_copied_l1] at h
  rcases fk h with ⟨h1, h⟩ | ⟨h1, h⟩
  ·obtain ⟨h2, h⟩ := ck h
   obtain ⟨⟨a6, a7, a8, a9, a10⟩, h3, h⟩ := sm h
   obtain ⟨⟨a11, a12, a13, a14, a15⟩, h4, h⟩ := sm h
   obtain ⟨h5, h⟩ := cl h
   exact loop_more (path (ob_b h1 (ob_n h2 (ob_t (look_ts GValue.ts_map h3) (ob_c (ht.value_part _ _ _ h4) (ob_le (room_ts GValue.ts_map h5) (ob_l (app_ts GValue.ts_map (a := a2) (b := ([(GValue.mk a11 a12 a13 a14 a15)] : List GValue))) ob)))))) (by kernel_rfl)) (value_copied_l1.okL ht n k _ _ _ _ _ _ h)
  ·cases h
   exact loop_out (path (ob_b h1 ob) (by kernel_rfl)) (fun h => by cases h)
theorem value_copied.ok {n : Nat} {t : Tab} (ht : TabOk t (run Try.prog own kp X n)) : ∀ (p1 : List GValue) (p2 : Int) r, value_copied t n p1 p2 = some r → run Try.prog own kp X (n + 1) 64 [(Sl 5 (GValue.ts p1)), (I6 p2)] [] = some ((Sl 5 (GValue.ts r)), []) := by
 intro p1 p2 r h
 obtain ⟨a1, rfl⟩ : ∃ z_, z_ = p1 := ⟨_, rfl⟩
 obtain ⟨a2, rfl⟩ : ∃ z_, z_ = p2 := ⟨_, rfl⟩
 rw [value_copied] at h
 obtain ⟨⟨a3, a4, a5, a6, a7, a8⟩, h1, h⟩ := sm h
 cases h
 exact run_path Try.func64 (ob_v (len_ts GValue.ts_map (l := a1)) (ob_k (lk (sub [1, 1, 0, 1, 0] (bodyOf Try.f64)) (by kernel_rfl) (value_copied_l1.okL ht n n _ _ _ _ _ _ h1)) ob)) (by kernel_rfl)
theorem value_compare_j1.ok (ht : TabOk t call) (n : Nat) (a1 a2 : Int) (a3 : ByteArray) (a4 a5 : List GValue) (a6 a7 : Int) (a8 : ByteArray) (a9 a10 : List GValue) (a11 : Int) (r : _) (h : value_compare_j1 t n a1 a2 a3 a4 a5 a6 a7 a8 a9 a10 a11 = some r) : exec (env Try.prog 50 Try.f50 call) n (sub [1, 1] (bodyOf Try.f50)) (mkSt 48 48 [(3, (.ptr 3 0 [] 0)), (4, (.ptr 4 0 [] 0)), (5, (.ptr 5 0 [] 0))] [(3, (.t (.st [(.v (.int .i64 a1)), (.v (.int .i64 a2)), (.v (.string a3)), (.sl false 5 (GValue.ts a4)), (.sl false 5 (GValue.ts a5))]))), (4, (.t (.st [(.v (.int .i64 a6)), (.v (.int .i64 a7)), (.v (.string a8)), (.sl false 5 (GValue.ts a9)), (.sl false 5 (GValue.ts a10))]))), (5, (I6 a11))]) = some (value_compare_j1.to r) := by
 rw [value_compare_j1] at h
 obtain ⟨a12, h1, h⟩ := sm h
 obtain ⟨a13, h2, h⟩ := sm h
 obtain ⟨a14, rfl⟩ : ∃ z_, z_ = r := ⟨_, rfl⟩
 have h3 := h
 exact path (ob_c (ht.slices_CompareFunc_value_compare_1 _ _ _ _ h1) (ob_c (ht.slices_CompareFunc_value_compare_1 _ _ _ _ h2) (ob_c (ht.cmp_Or_int _ _ h3) ob))) (by kernel_rfl)
end Go.Proofs.Ytokfeoifkpedgaa.W
