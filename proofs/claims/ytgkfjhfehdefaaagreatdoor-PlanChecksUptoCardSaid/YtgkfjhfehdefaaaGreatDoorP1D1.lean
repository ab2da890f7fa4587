/- The proofs of it, part 1. -/
import Derived.Test.YtgkfjhfehdefaaaGreatDoorP1D0
namespace Go.Proofs.YtgkfjhfehdefaaaGreatDoor.W
open Go.Proofs.YtgkfjhfehdefaaaGreatDoor.Flat
set_option linter.unusedVariables false
set_option linter.unusedSimpArgs false
set_option smartUnfolding false
attribute [local irreducible] graph_sign_j1 graph_sign_j2 plan_inner_j2 plan_numbers_j1 plan_step_j1 plan_steps_j3 pred_arity_j1 quoI ref02_Count_j2 ref02_Count_j5 ref02_Many_j2 ref02_compare_j3 ref02_fields_j1 ref02_rows_j2 ref02_texts_j2 ref05_Name_j2 ref09_Count_j2 ref09_right_j1 ref12_Inner_j2 ref12_Much_j2 ref12_Much_j4 ref12_Uses_j3 ref12_nest_j2 ref12_own_j1 ref12_right_j2 ref12_steps_j2 ref12_steps_j4 strAt value_plain_j5
variable {t : Tab} {call : FuncId → List AV → List AV → Option (AV × List AV)}
theorem ref09_Same_j1.ok (ht : TabOk t call) (n : Nat) (a1 : Int) (a2 : List GValue) (a3 : List GPred) (a4 : Int) (a5 : List GValue) (a6 : List GPred) (r : _) (h : ref09_Same_j1 t n a1 a2 a3 a4 a5 a6 = some r) : exec (env Tryz.prog 45 Tryz.f45 call) n (sub [1, 1] (bodyOf Tryz.f45)) (mkSt 47 47 [(2, (.ptr 2 0 [] 0)), (3, (.ptr 3 0 [] 0))] [(2, (.t (.st [(.v (.int .i64 a1)), (.sl false 5 (GValue.ts a2)), (.sl false 3 (GPred.ts a3))]))), (3, (.t (.st [(.v (.int .i64 a4)), (.sl false 5 (GValue.ts a5)), (.sl false 3 (GPred.ts a6))])))]) = some (ref09_Same_j1.to r) := by
 rw [ref09_Same_j1] at h
 obtain ⟨a7 | ⟨a8, a9, a10, a11, a12, a13, a14, a15⟩, h1, h⟩ := sm h
 ·cases h
  exact path (ob_k (lk (sub [1, 1, 0, 1, 0] (bodyOf Tryz.f45)) (by kernel_rfl) (ref09_Same_l2.okL ht n n _ _ _ _ _ _ _ _ h1)) ob) (by kernel_rfl)
 ·cases h
  exact path (ob_k (lk (sub [1, 1, 0, 1, 0] (bodyOf Tryz.f45)) (by kernel_rfl) (ref09_Same_l2.okL ht n n _ _ _ _ _ _ _ _ h1)) ob) (by kernel_rfl)
theorem ref09_Same.ok {n : Nat} {t : Tab} (ht : TabOk t (run Tryz.prog own kp X n)) : ∀ (p1 : GPred) (p2 : GPred) r, ref09_Same t n p1 p2 = some r → run Tryz.prog own kp X (n + 1) 45 [(.t (GPred.t p1)), (.t (GPred.t p2))] [] = some ((Bo r), []) := by
 intro p1 p2 r h
 obtain ⟨a1, a2, a3⟩ := p1
 obtain ⟨a4, a5, a6⟩ := p2
 rw [ref09_Same] at h
 rcases fk h with ⟨h1, h⟩ | ⟨h1, h⟩
 ·cases h
  exact run_path Tryz.func45 (ob_b4 h1 (ob_b3 h1 (ob_b4 (rfl : true = true) (ob_b4 (rfl : true = true) (ob_b (rfl : true = true) ob))))) (by kernel_rfl)
 ·obtain ⟨a7, h2, h⟩ := sm h
  have o8 {os} (x : Obls (env Tryz.prog 45 Tryz.f45 (run Tryz.prog own kp X n)) n os) := ob_b4 h1 (ob_b h1 (ob_c (ht.ref02_SameRows _ _ _ h2) (ob_b2 h1 x)))
  rcases fk h with ⟨h3, h⟩ | ⟨h3, h⟩
  ·have o18 {os} (x : Obls (env Tryz.prog 45 Tryz.f45 (run Tryz.prog own kp X n)) n os) := o8 (ob_b3 (congrArg (!·) h3) (ob_v (len_ts GPred.ts_map (l := a3)) (ob_b3 (congrArg (!·) h3) (ob_v (len_ts GPred.ts_map (l := a6)) (ob_b2 (congrArg (!·) h3) x)))))
   rcases fk h with ⟨h4, h⟩ | ⟨h4, h⟩
   ·cases h
    exact run_path Tryz.func45 (o18 (ob_b h4 ob)) (by kernel_rfl)
   ·obtain ⟨a8, rfl⟩ : ∃ z_, z_ = r := ⟨_, rfl⟩
    have h5 := h
    exact run_path Tryz.func45 (o18 (ob_b h4 (ob_j (ref09_Same_j1.ok ht n _ _ _ _ _ _ _ h5) ob))) (by kernel_rfl)
  ·cases h
   exact run_path Tryz.func45 (o8 (ob_b4 (congrArg (!·) h3) (ob_b4 (congrArg (!·) h3) (ob_b (rfl : true = true) ob)))) (by kernel_rfl)
theorem ref02_Same.ok {n : Nat} {t : Tab} (ht : TabOk t (run Tryz.prog own kp X n)) : ∀ (p1 : GValue) (p2 : GValue) r, ref02_Same t n p1 p2 = some r → run Tryz.prog own kp X (n + 1) 44 [(.t (GValue.t p1)), (.t (GValue.t p2))] [] = some ((Bo r), []) := by
 intro p1 p2 r h
 obtain ⟨a1, a2, a3, a4, a5⟩ := p1
 obtain ⟨a6, a7, a8, a9, a10⟩ := p2
 rw [ref02_Same] at h
 obtain ⟨a11, h1, h⟩ := sm h
 cases h
 exact run_path Tryz.func44 (ob_c (ht.ref02_compare _ _ _ _ h1) ob) (by kernel_rfl)
theorem plan_inner_j2.ok (ht : TabOk t call) (n : Nat) (a1 : List (List GStep)) (a2 : List GBy) (a3 a4 : Int) (a5 : Bool) (a6 : Int) (a7 : ByteArray) (a8 : List GStep) (a9 : Bool) (r : _) (h : plan_inner_j2 t n a1 a2 a3 a4 a5 a6 a7 a8 a9 = some r) : exec (env Tryz.prog 59 Tryz.f59 call) n (sub [1, 1, 0, 1, 0, 0, 1, 1, 0, 0, 1, 1] (bodyOf Tryz.f59)) (mkSt 32 32 [(3, (.t (.sl true 1 (rows_GStep_ts a1)))), (5, (.ptr 5 0 [] 0)), (10, (Sl 4 (GBy.ts a2))), (11, (I6 a3)), (12, (I6 a4)), (24, (Bo a5))] [(5, (.t (.st [(.v (.int .i64 a6)), (.v (.string a7)), (.sl false 14 (GStep.ts a8)), (.v (.bool a9))])))]) = some (plan_inner_j2.to r) := by
 rw [plan_inner_j2] at h
 rcases fk h with ⟨h1, h⟩ | ⟨h1, h⟩
 ·obtain ⟨h2, h⟩ := cl h
  cases h
  exact path (ob_b h1 (ob_le (room_ts rows_GStep_ts_map h2) (ob_l (app_ts rows_GStep_ts_map (a := a1) (b := ([a8] : List (List GStep)))) ob))) (by kernel_rfl)
 ·cases h
  exact path (ob_b h1 ob) (by kernel_rfl)
theorem plan_inner_l1.okL (ht : TabOk t call) (n : Nat) : ∀ (k : Nat) (a1 : List (List GStep)) (a2 : List GBy) (a3 a4 : Int) (r : _), plan_inner_l1 t n k a1 a2 a3 a4 = some r → loopN (exec (env Tryz.prog 59 Tryz.f59 call) n (sub [1, 1, 0, 1, 0, 0] (bodyOf Tryz.f59))) k (mkSt 32 32 [(3, (.t (.sl true 1 (rows_GStep_ts a1)))), (10, (Sl 4 (GBy.ts a2))), (11, (I6 a3)), (12, (I6 a4))] []) = some (plan_inner_l1.to r)
 | 0, a1, a2, a3, a4, r, h => by rw [plan_inner_l1] at h; cases h
 | k + 1, a1, a2, a3, a4, r, h => by
  rw [plan_inner_l1] at h
  rcases fk h with ⟨h1, h⟩ | ⟨h1, h⟩
  ·obtain ⟨h2, h⟩ := ck h
   obtain ⟨⟨a5, a6, a7, a8⟩, h3, h⟩ := sm h
   rcases fk h with ⟨h4, h⟩ | ⟨h4, h⟩
   ·obtain ⟨⟨a9, a10, a11, a12⟩, h5, h⟩ := sm h
    exact loop_more (path (ob_b h1 (ob_n h2 (ob_t (look_ts GBy.ts_map h3) (ob_b4 h4 (ob_b h4 (ob_j (plan_inner_j2.ok ht n _ _ _ _ _ _ _ _ _ _ h5) ob)))))) (by kernel_rfl)) (plan_inner_l1.okL ht n k _ _ _ _ _ h)
   ·obtain ⟨⟨a13, a14, a15, a16⟩, h6, h⟩ := sm h
    exact loop_more (path (ob_b h1 (ob_n h2 (ob_t (look_ts GBy.ts_map h3) (ob_b3 h4 (ob_v (len_ts GStep.ts_map (l := a7)) (ob_b2 h4 (ob_j (plan_inner_j2.ok ht n _ _ _ _ _ _ _ _ _ _ h6) ob))))))) (by kernel_rfl)) (plan_inner_l1.okL ht n k _ _ _ _ _ h)
  ·cases h
   exact loop_out (path (ob_b h1 ob) (by kernel_rfl)) (fun h => by cases h)
theorem plan_inner.ok {n : Nat} {t : Tab} (ht : TabOk t (run Tryz.prog own kp X n)) : ∀ (p1 : GStep) r, plan_inner t n p1 = some r → run Tryz.prog own kp X (n + 1) 59 [(.t (GStep.t p1))] [] = some ((Sl 1 (rows_GStep_ts r)), []) := by
 intro p1 r h
 obtain ⟨a1, a2, a3, ⟨a4, a5, a6, a7, a8⟩, ⟨a9, a10, a11⟩, a12, a13, a14⟩ := p1
 rw [plan_inner] at h
 obtain ⟨a15, h1, h⟩ := sm h
 obtain ⟨⟨a16, a17, a18, a19, a20⟩, h2, h⟩ := sm h
 cases h
 exact run_path Tryz.func59 (ob_c (ht.slices_Clone_Step _ _ h1) (ob_v (len_ts GBy.ts_map (l := a13)) (ob_k (lk (sub [1, 1, 0, 1, 0] (bodyOf Tryz.f59)) (by kernel_rfl) (plan_inner_l1.okL ht n n _ _ _ _ _ h2)) ob))) (by kernel_rfl)
theorem plan_plan_Uses_1.ok {n : Nat} {t : Tab} (ht : TabOk t (run Tryz.prog own kp X n)) : ∀ (p1 : List GStep) (p2 : List Int) r, plan_plan_Uses_1 t n p1 p2 = some r → run Tryz.prog own kp X (n + 1) 28 [(Sl 14 (GStep.ts p1)), (.fn 49 [(.ref (.sl false 1 (ints_i64 p2)))])] [] = some ((Bo r), []) := by
 intro p1 p2 r h
 obtain ⟨a1, rfl⟩ : ∃ z_, z_ = p1 := ⟨_, rfl⟩
 obtain ⟨a2, rfl⟩ : ∃ z_, z_ = p2 := ⟨_, rfl⟩
 rw [plan_plan_Uses_1] at h
 obtain ⟨a3, rfl⟩ : ∃ z_, z_ = r := ⟨_, rfl⟩
 have h1 := h
 exact run_path Tryz.func28 (ob_c (ht.slices_ContainsFunc_plan_some_1_i2 _ _ _ h1) ob) (by kernel_rfl)
theorem slices_ContainsFunc_plan_some_1.ok {n : Nat} {t : Tab} (ht : TabOk t (run Tryz.prog own kp X n)) : ∀ (p1 : List GStep) r, slices_ContainsFunc_plan_some_1 t n p1 = some r → run Tryz.prog own kp X (n + 1) 51 [(Sl 14 (GStep.ts p1)), (.fn 60 [(.fref 29 [])])] [] = some ((Bo r), []) := by
 intro p1 r h
 obtain ⟨a1, rfl⟩ : ∃ z_, z_ = p1 := ⟨_, rfl⟩
 rw [slices_ContainsFunc_plan_some_1] at h
 obtain ⟨a2, h1, h⟩ := sm h
 cases h
 exact run_path Tryz.func51 (ob_c (ht.slices_IndexFunc_plan_some_1 _ _ h1) ob) (by kernel_rfl)
theorem ref02_Many_j2.ok (ht : TabOk t call) (n : Nat) (a1 : List GValue) (a2 a3 a4 : Int) (r : _) (h : ref02_Many_j2 t n a1 a2 a3 a4 = some r) : exec (env Tryz.prog 73 Tryz.f73 call) n (sub [1, 1, 0, 1, 0, 0, 1] (bodyOf Tryz.f73)) (mkSt 29 29 [(0, (Sl 5 (GValue.ts a1))), (1, (I6 a2)), (5, (I6 a3)), (6, (I6 a4))] []) = some (ref02_Many_j2.to r) := by
 rw [ref02_Many_j2] at h
 obtain ⟨h1, h⟩ := ck h
 obtain ⟨⟨a5, a6, a7, a8, a9⟩, h2, h⟩ := sm h
 obtain ⟨a10, h3, h⟩ := sm h
 cases h
 exact path (ob_n h1 (ob_t (look_ts GValue.ts_map h2) (ob_c (ht.ref02_Count _ _ _ h3) ob))) (by kernel_rfl)
theorem ref02_Many_l1.okL (ht : TabOk t call) (n : Nat) : ∀ (k : Nat) (a1 : List GValue) (a2 a3 a4 : Int) (r : _), ref02_Many_l1 t n k a1 a2 a3 a4 = some r → loopN (exec (env Tryz.prog 73 Tryz.f73 call) n (sub [1, 1, 0, 1, 0, 0] (bodyOf Tryz.f73))) k (mkSt 29 29 [(0, (Sl 5 (GValue.ts a1))), (1, (I6 a2)), (5, (I6 a3)), (6, (I6 a4))] []) = some (ref02_Many_l1.to r)
 | 0, a1, a2, a3, a4, r, h => by rw [ref02_Many_l1] at h; cases h
 | k + 1, a1, a2, a3, a4, r, h => by
  rw [ref02_Many_l1] at h
  rcases fk h with ⟨h1, h⟩ | ⟨h1, h⟩
  ·rcases fk h with ⟨h2, h⟩ | ⟨h2, h⟩
   ·obtain ⟨⟨a5, a6, a7, a8⟩, h3, h⟩ := sm h
    exact loop_more (path (ob_v (len_ts GValue.ts_map (l := a1)) (ob_b4 h1 (ob_b h2 (ob_j (ref02_Many_j2.ok ht n _ _ _ _ _ h3) ob)))) (by kernel_rfl)) (ref02_Many_l1.okL ht n k _ _ _ _ _ h)
   ·cases h
    exact loop_out (path (ob_v (len_ts GValue.ts_map (l := a1)) (ob_b4 h1 (ob_b h2 ob))) (by kernel_rfl)) (fun h => by cases h)
  ·cases h
   exact loop_out (path (ob_v (len_ts GValue.ts_map (l := a1)) (ob_b4 h1 (ob_b (rfl : false = false) ob))) (by kernel_rfl)) (fun h => by cases h)
theorem ref02_Many.ok {n : Nat} {t : Tab} (ht : TabOk t (run Tryz.prog own kp X n)) : ∀ (p1 : List GValue) (p2 : Int) r, ref02_Many t n p1 p2 = some r → run Tryz.prog own kp X (n + 1) 73 [(Sl 5 (GValue.ts p1)), (I6 p2)] [] = some ((I6 r), []) := by
 intro p1 p2 r h
 obtain ⟨a1, rfl⟩ : ∃ z_, z_ = p1 := ⟨_, rfl⟩
 obtain ⟨a2, rfl⟩ : ∃ z_, z_ = p2 := ⟨_, rfl⟩
 rw [ref02_Many] at h
 obtain ⟨⟨a3, a4, a5, a6, a7⟩, h1, h⟩ := sm h
 cases h
 exact run_path Tryz.func73 (ob_k (lk (sub [1, 1, 0, 1, 0] (bodyOf Tryz.f73)) (by kernel_rfl) (ref02_Many_l1.okL ht n n _ _ _ _ _ h1)) ob) (by kernel_rfl)
theorem slices_IndexFunc_plan_right_1_l1.okL (ht : TabOk t call) (n : Nat) : ∀ (k : Nat) (a1 : List GStep) (a2 a3 a4 : Int) (r : _), slices_IndexFunc_plan_right_1_l1 t n k a1 a2 a3 a4 = some r → loopN (exec (env Tryz.prog 75 Tryz.f75 call) n (sub [1, 0, 1, 0, 0] (bodyOf Tryz.f75))) k (mkSt 19 19 [(0, (Sl 14 (GStep.ts a1))), (1, (.fn 52 [(.ref (.v (.int .i64 a2)))])), (7, (I6 a3)), (8, (I6 a4))] []) = some (slices_IndexFunc_plan_right_1_l1.to r)
 | 0, a1, a2, a3, a4, r, h => by rw [slices_IndexFunc_plan_right_1_l1] at h; cases h
 | k + 1, a1, a2, a3, a4, r, h => by
  rw [slices_IndexFunc_plan_right_1_l1] at h
  rcases fk h with ⟨h1, h⟩ | ⟨h1, h⟩
  ·obtain ⟨h2, h⟩ := ck h
   obtain ⟨⟨a5, a6, a7, ⟨a8, a9, a10, a11, a12⟩, ⟨a13, a14, a15⟩, a16, a17, a18⟩, h3, h⟩ := sm h
   obtain ⟨a19, h4, h⟩ := sm h
   rcases fk h with ⟨h5, h⟩ | ⟨h5, h⟩
   ·cases h
    exact loop_out (path (ob_b h1 (ob_n h2 (ob_t (look_ts GStep.ts_map h3) (ob_c (ht.plan_right_1 _ _ _ h4) (ob_b h5 ob))))) (by kernel_rfl)) (fun h => by cases h)
   ·exact loop_more (path (ob_b h1 (ob_n h2 (ob_t (look_ts GStep.ts_map h3) (ob_c (ht.plan_right_1 _ _ _ h4) (ob_b h5 ob))))) (by kernel_rfl)) (slices_IndexFunc_plan_right_1_l1.okL ht n k _ _ _ _ _ h)
  ·cases h
   exact loop_out (path (ob_b h1 ob) (by kernel_rfl)) (fun h => by cases h)
theorem slices_IndexFunc_plan_right_1.ok {n : Nat} {t : Tab} (ht : TabOk t (run Tryz.prog own kp X n)) : ∀ (p1 : List GStep) (p2 : Int) r, slices_IndexFunc_plan_right_1 t n p1 p2 = some r → run Tryz.prog own kp X (n + 1) 75 [(Sl 14 (GStep.ts p1)), (.fn 52 [(.ref (.v (.int .i64 p2)))])] [] = some ((I6 r), []) := by
 intro p1 p2 r h
 obtain ⟨a1, rfl⟩ : ∃ z_, z_ = p1 := ⟨_, rfl⟩
 obtain ⟨a2, rfl⟩ : ∃ z_, z_ = p2 := ⟨_, rfl⟩
 rw [slices_IndexFunc_plan_right_1] at h
 obtain ⟨a3 | ⟨a4, a5, a6, a7, a8⟩, h1, h⟩ := sm h
 ·cases h
  exact run_path Tryz.func75 (ob_v (len_ts GStep.ts_map (l := a1)) (ob_k (lk (sub [1, 0, 1, 0] (bodyOf Tryz.f75)) (by kernel_rfl) (slices_IndexFunc_plan_right_1_l1.okL ht n n _ _ _ _ _ h1)) ob)) (by kernel_rfl)
 ·cases h
  exact run_path Tryz.func75 (ob_v (len_ts GStep.ts_map (l := a1)) (ob_k (lk (sub [1, 0, 1, 0] (bodyOf Tryz.f75)) (by kernel_rfl) (slices_IndexFunc_plan_right_1_l1.okL ht n n _ _ _ _ _ h1)) ob)) (by kernel_rfl)
theorem ref12_low_l1.okL (ht : TabOk t call) (n : Nat) : ∀ (k : Nat) (a1 : List Int) (a2 : Int) (r : _), ref12_low_l1 t n k a1 a2 = some r → loopN (exec (env Tryz.prog 87 Tryz.f87 call) n (sub [1, 0, 1, 0, 0] (bodyOf Tryz.f87))) k (mkSt 15 15 [(0, (Sl 1 (ints_i64 a1))), (3, (I6 a2))] []) = some (ref12_low_l1.to r)
 | 0, a1, a2, r, h => by rw [ref12_low_l1] at h; cases h
 | k + 1, a1, a2, r, h => by
  rw [ref12_low_l1] at h
  rcases fk h with ⟨h1, h⟩ | ⟨h1, h⟩
  ·obtain ⟨h2, h⟩ := ck h
   obtain ⟨a3, h3, h⟩ := sm h
   rcases fk h with ⟨h4, h⟩ | ⟨h4, h⟩
   ·cases h
    exact loop_out (path (ob_v (len_ts ints_i64_map (l := a1)) (ob_b h1 (ob_n h2 (ob_t (look_ts ints_i64_map h3) (ob_b h4 ob))))) (by kernel_rfl)) (fun h => by cases h)
   ·exact loop_more (path (ob_v (len_ts ints_i64_map (l := a1)) (ob_b h1 (ob_n h2 (ob_t (look_ts ints_i64_map h3) (ob_b h4 ob))))) (by kernel_rfl)) (ref12_low_l1.okL ht n k _ _ _ h)
  ·cases h
   exact loop_out (path (ob_v (len_ts ints_i64_map (l := a1)) (ob_b h1 ob)) (by kernel_rfl)) (fun h => by cases h)
theorem ref12_low.ok {n : Nat} {t : Tab} (ht : TabOk t (run Tryz.prog own kp X n)) : ∀ (p1 : List Int) r, ref12_low t n p1 = some r → run Tryz.prog own kp X (n + 1) 87 [(Sl 1 (ints_i64 p1))] [] = some ((Bo r), []) := by
 intro p1 r h
 obtain ⟨a1, rfl⟩ : ∃ z_, z_ = p1 := ⟨_, rfl⟩
 rw [ref12_low] at h
 obtain ⟨a2 | ⟨a3, a4, a5⟩, h1, h⟩ := sm h
 ·cases h
  exact run_path Tryz.func87 (ob_k (lk (sub [1, 0, 1, 0] (bodyOf Tryz.f87)) (by kernel_rfl) (ref12_low_l1.okL ht n n _ _ _ h1)) ob) (by kernel_rfl)
 ·cases h
  exact run_path Tryz.func87 (ob_k (lk (sub [1, 0, 1, 0] (bodyOf Tryz.f87)) (by kernel_rfl) (ref12_low_l1.okL ht n n _ _ _ h1)) ob) (by kernel_rfl)
theorem ref12_once_l2.okL (ht : TabOk t call) (n : Nat) : ∀ (k : Nat) (a1 : List ByteArray) (a2 a3 : Int) (r : _), ref12_once_l2 t n k a1 a2 a3 = some r → loopN (exec (env Tryz.prog 88 Tryz.f88 call) n (sub [1, 0, 1, 0, 0, 1, 0, 0, 1, 0, 0] (bodyOf Tryz.f88))) k (mkSt 25 25 [(0, (Sl 1 (texts a1))), (3, (I6 a2)), (4, (I6 a3))] []) = some (ref12_once_l2.to r)
 | 0, a1, a2, a3, r, h => by rw [ref12_once_l2] at h; cases h
 | k + 1, a1, a2, a3, r, h => by
  rw [ref12_once_l2] at h
  rcases fk h with ⟨h1, h⟩ | ⟨h1, h⟩
  ·obtain ⟨h2, h⟩ := ck h
   obtain ⟨a4, h3, h⟩ := sm h
   obtain ⟨h4, h⟩ := ck h
   obtain ⟨a5, h5, h⟩ := sm h
   rcases fk h with ⟨h6, h⟩ | ⟨h6, h⟩
   ·cases h
    exact loop_out (path (ob_b h1 (ob_n h2 (ob_t (look_ts texts_map h3) (ob_n h4 (ob_t (look_ts texts_map h5) (ob_b h6 ob)))))) (by kernel_rfl)) (fun h => by cases h)
   ·exact loop_more (path (ob_b h1 (ob_n h2 (ob_t (look_ts texts_map h3) (ob_n h4 (ob_t (look_ts texts_map h5) (ob_b h6 ob)))))) (by kernel_rfl)) (ref12_once_l2.okL ht n k _ _ _ _ h)
  ·cases h
   exact loop_out (path (ob_b h1 ob) (by kernel_rfl)) (fun h => by cases h)
theorem ref12_once_l1.okL (ht : TabOk t call) (n : Nat) : ∀ (k : Nat) (a1 : List ByteArray) (a2 : Int) (r : _), ref12_once_l1 t n k a1 a2 = some r → loopN (exec (env Tryz.prog 88 Tryz.f88 call) n (sub [1, 0, 1, 0, 0] (bodyOf Tryz.f88))) k (mkSt 25 25 [(0, (Sl 1 (texts a1))), (3, (I6 a2))] []) = some (ref12_once_l1.to r)
 | 0, a1, a2, r, h => by rw [ref12_once_l1] at h; cases h
 | k + 1, a1, a2, r, h => by
  rw [ref12_once_l1] at h
  rcases fk h with ⟨h1, h⟩ | ⟨h1, h⟩
  ·obtain ⟨a3 | ⟨a4, a5, a6, a7⟩, h2, h⟩ := sm h
   ·cases h
    exact loop_out (path (ob_v (len_ts texts_map (l := a1)) (ob_b h1 (ob_k (lk (sub [1, 0, 1, 0, 0, 1, 0, 0, 1, 0] (bodyOf Tryz.f88)) (by kernel_rfl) (ref12_once_l2.okL ht n n _ _ _ _ h2)) ob))) (by kernel_rfl)) (fun h => by cases h)
   ·exact loop_more (path (ob_v (len_ts texts_map (l := a1)) (ob_b h1 (ob_k (lk (sub [1, 0, 1, 0, 0, 1, 0, 0, 1, 0] (bodyOf Tryz.f88)) (by kernel_rfl) (ref12_once_l2.okL ht n n _ _ _ _ h2)) ob))) (by kernel_rfl)) (ref12_once_l1.okL ht n k _ _ _ h)
  ·cases h
   exact loop_out (path (ob_v (len_ts texts_map (l := a1)) (ob_b h1 ob)) (by kernel_rfl)) (fun h => by cases h)
theorem ref12_once.ok {n : Nat} {t : Tab} (ht : TabOk t (run Tryz.prog own kp X n)) : ∀ (p1 : List ByteArray) r, ref12_once t n p1 = some r → run Tryz.prog own kp X (n + 1) 88 [(Sl 1 (texts p1))] [] = some ((Bo r), []) := by
 intro p1 r h
 obtain ⟨a1, rfl⟩ : ∃ z_, z_ = p1 := ⟨_, rfl⟩
 rw [ref12_once] at h
 obtain ⟨a2 | ⟨a3, a4, a5⟩, h1, h⟩ := sm h
 ·cases h
  exact run_path Tryz.func88 (ob_k (lk (sub [1, 0, 1, 0] (bodyOf Tryz.f88)) (by kernel_rfl) (ref12_once_l1.okL ht n n _ _ _ h1)) ob) (by kernel_rfl)
 ·cases h
  exact run_path Tryz.func88 (ob_k (lk (sub [1, 0, 1, 0] (bodyOf Tryz.f88)) (by kernel_rfl) (ref12_once_l1.okL ht n n _ _ _ h1)) ob) (by kernel_rfl)
theorem ref05_Name_j2.ok (ht : TabOk t call) (n : Nat) (a1 : ByteArray) (a2 a3 : Int) (a4 : Bool) (r : _) (h : ref05_Name_j2 t n a1 a2 a3 a4 = some r) : exec (env Tryz.prog 89 Tryz.f89 call) n (sub [1, 0, 1, 0, 0, 1, 0, 0, 1, 1] (bodyOf Tryz.f89)) (mkSt 55 55 [(0, (Sr a1)), (3, (I6 a2)), (4, (.t (.v (.int .u8 a3)))), (5, (Bo a4))] []) = some (ref05_Name_j2.to r) := by
 rw [ref05_Name_j2] at h
 rcases fk h with ⟨h1, h⟩ | ⟨h1, h⟩
 ·cases h
  exact path (ob_b4 (congrArg (!·) h1) (ob_b3 (congrArg (!·) h1) (ob_b (rfl : false = false) ob))) (by kernel_rfl)
 ·have o3 {os} (x : Obls (env Tryz.prog 89 Tryz.f89 call) n os) := ob_b3 (congrArg (!·) h1) x
  rcases fk h with ⟨h2, h⟩ | ⟨h2, h⟩
  ·cases h
   exact path (o3 (ob_b2 h2 (ob_b (congrArg (!·) h1) (ob_b h2 (ob_b (congrArg (!·) h1) (ob_b2 (rfl : true = true) (ob_b (congrArg (!·) h1) (ob_b (rfl : true = true) (ob_b (congrArg (!·) h1) (ob_b (rfl : true = true) ob)))))))))) (by kernel_rfl)
  ·have o8 {os} (x : Obls (env Tryz.prog 89 Tryz.f89 call) n os) := o3 (ob_b2 h2 (ob_b (congrArg (!·) h1) (ob_b h2 (ob_b (congrArg (!·) h1) x))))
   rcases fk h with ⟨h3, h⟩ | ⟨h3, h⟩
   ·cases h
    exact path (o8 (ob_b2 h3 (ob_b (congrArg (!·) h1) (ob_b h3 (ob_b (congrArg (!·) h1) (ob_b (rfl : true = true) ob)))))) (by kernel_rfl)
   ·rcases fk h with ⟨h4, h⟩ | ⟨h4, h⟩
    ·cases h
     exact path (o8 (ob_b2 h3 (ob_b (congrArg (!·) h1) (ob_b h3 (ob_b (congrArg (!·) h1) (ob_b h4 ob)))))) (by kernel_rfl)
    ·cases h
     exact path (o8 (ob_b2 h3 (ob_b (congrArg (!·) h1) (ob_b h3 (ob_b (congrArg (!·) h1) (ob_b h4 ob)))))) (by kernel_rfl)
theorem ref05_Name_l1.okL (ht : TabOk t call) (n : Nat) : ∀ (k : Nat) (a1 : ByteArray) (a2 : Int) (r : _), ref05_Name_l1 t n k a1 a2 = some r → loopN (exec (env Tryz.prog 89 Tryz.f89 call) n (sub [1, 0, 1, 0, 0] (bodyOf Tryz.f89))) k (mkSt 55 55 [(0, (Sr a1)), (3, (I6 a2))] []) = some (ref05_Name_l1.to r)
 | 0, a1, a2, r, h => by rw [ref05_Name_l1] at h; cases h
 | k + 1, a1, a2, r, h => by
  rw [ref05_Name_l1] at h
  rcases fk h with ⟨h1, h⟩ | ⟨h1, h⟩
  ·obtain ⟨a3, h2, h⟩ := sm h
   have o2 {os} (x : Obls (env Tryz.prog 89 Tryz.f89 call) n os) := ob_b h1 (ob_v (at_ok (P := Tryz.prog) (t := 9) (k := .i64) (by kernel_rfl) h2) x)
   rcases fk h with ⟨h3, h⟩ | ⟨h3, h⟩
   ·have o5 {os} (x : Obls (env Tryz.prog 89 Tryz.f89 call) n os) := o2 (ob_b3 h3 x)
    rcases fk h with ⟨h4, h⟩ | ⟨h4, h⟩
    ·obtain ⟨⟨a4, a5⟩ | a6, h5, h⟩ := sm h
     ·exact loop_more (path (o5 (ob_b4 h4 (ob_b h4 (ob_b3 (rfl : true = true) (ob_j (ref05_Name_j2.ok ht n _ _ _ _ _ h5) ob))))) (by kernel_rfl)) (ref05_Name_l1.okL ht n k _ _ _ h)
     ·cases h
      exact loop_out (path (o5 (ob_b4 h4 (ob_b h4 (ob_b3 (rfl : true = true) (ob_j (ref05_Name_j2.ok ht n _ _ _ _ _ h5) ob))))) (by kernel_rfl)) (fun h => by cases h)
    ·rcases fk h with ⟨h6, h⟩ | ⟨h6, h⟩
     ·have o13 {os} (x : Obls (env Tryz.prog 89 Tryz.f89 call) n os) := o5 (ob_b3 h4 (ob_b2 h6 (ob_b h4 (ob_b h6 (ob_b h4 x)))))
      rcases fk h with ⟨h7, h⟩ | ⟨h7, h⟩
      ·obtain ⟨⟨a7, a8⟩ | a9, h8, h⟩ := sm h
       ·exact loop_more (path (o13 (ob_b3 h7 (ob_j (ref05_Name_j2.ok ht n _ _ _ _ _ h8) ob))) (by kernel_rfl)) (ref05_Name_l1.okL ht n k _ _ _ h)
       ·cases h
        exact loop_out (path (o13 (ob_b3 h7 (ob_j (ref05_Name_j2.ok ht n _ _ _ _ _ h8) ob))) (by kernel_rfl)) (fun h => by cases h)
      ·obtain ⟨⟨a10, a11⟩ | a12, h9, h⟩ := sm h
       ·exact loop_more (path (o13 (ob_b3 h7 (ob_j (ref05_Name_j2.ok ht n _ _ _ _ _ h9) ob))) (by kernel_rfl)) (ref05_Name_l1.okL ht n k _ _ _ h)
       ·cases h
        exact loop_out (path (o13 (ob_b3 h7 (ob_j (ref05_Name_j2.ok ht n _ _ _ _ _ h9) ob))) (by kernel_rfl)) (fun h => by cases h)
     ·have o16 {os} (x : Obls (env Tryz.prog 89 Tryz.f89 call) n os) := o5 (ob_b3 h4 (ob_b2 h6 (ob_b h4 (ob_b h6 (ob_b h4 (ob_b3 (rfl : false = false) x))))))
      obtain ⟨⟨a13, a14⟩ | a15, h10, h⟩ := sm h
      ·exact loop_more (path (o16 (ob_j (ref05_Name_j2.ok ht n _ _ _ _ _ h10) ob)) (by kernel_rfl)) (ref05_Name_l1.okL ht n k _ _ _ h)
      ·cases h
       exact loop_out (path (o16 (ob_j (ref05_Name_j2.ok ht n _ _ _ _ _ h10) ob)) (by kernel_rfl)) (fun h => by cases h)
   ·have o8 {os} (x : Obls (env Tryz.prog 89 Tryz.f89 call) n os) := o2 (ob_b3 h3 (ob_b3 (rfl : false = false) x))
    rcases fk h with ⟨h11, h⟩ | ⟨h11, h⟩
    ·have o13 {os} (x : Obls (env Tryz.prog 89 Tryz.f89 call) n os) := o8 (ob_b2 h11 (ob_b (rfl : false = false) (ob_b h11 (ob_b (rfl : false = false) x))))
     rcases fk h with ⟨h12, h⟩ | ⟨h12, h⟩
     ·obtain ⟨⟨a16, a17⟩ | a18, h13, h⟩ := sm h
      ·exact loop_more (path (o13 (ob_b3 h12 (ob_j (ref05_Name_j2.ok ht n _ _ _ _ _ h13) ob))) (by kernel_rfl)) (ref05_Name_l1.okL ht n k _ _ _ h)
      ·cases h
       exact loop_out (path (o13 (ob_b3 h12 (ob_j (ref05_Name_j2.ok ht n _ _ _ _ _ h13) ob))) (by kernel_rfl)) (fun h => by cases h)
     ·obtain ⟨⟨a19, a20⟩ | a21, h14, h⟩ := sm h
      ·exact loop_more (path (o13 (ob_b3 h12 (ob_j (ref05_Name_j2.ok ht n _ _ _ _ _ h14) ob))) (by kernel_rfl)) (ref05_Name_l1.okL ht n k _ _ _ h)
      ·cases h
       exact loop_out (path (o13 (ob_b3 h12 (ob_j (ref05_Name_j2.ok ht n _ _ _ _ _ h14) ob))) (by kernel_rfl)) (fun h => by cases h)
    ·have o16 {os} (x : Obls (env Tryz.prog 89 Tryz.f89 call) n os) := o8 (ob_b2 h11 (ob_b (rfl : false = false) (ob_b h11 (ob_b4 (rfl : false = false) x))))
     obtain ⟨⟨a22, a23⟩ | a24, h15, h⟩ := sm h
     ·exact loop_more (path (o16 (ob_j (ref05_Name_j2.ok ht n _ _ _ _ _ h15) ob)) (by kernel_rfl)) (ref05_Name_l1.okL ht n k _ _ _ h)
     ·cases h
      exact loop_out (path (o16 (ob_j (ref05_Name_j2.ok ht n _ _ _ _ _ h15) ob)) (by kernel_rfl)) (fun h => by cases h)
  ·cases h
   exact loop_out (path (ob_b h1 ob) (by kernel_rfl)) (fun h => by cases h)
theorem ref05_Name_j3.ok (ht : TabOk t call) (n : Nat) (a1 : ByteArray) (r : _) (h : ref05_Name_j3 t n a1 = some r) : exec (env Tryz.prog 89 Tryz.f89 call) n (sub [1, 1] (bodyOf Tryz.f89)) (mkSt 55 55 [(0, (Sr a1))] []) = some (ref05_Name_j3.to r) := by
 rw [ref05_Name_j3] at h
 rcases fk h with ⟨h1, h⟩ | ⟨h1, h⟩
 ·cases h
  exact path (ob_b4 h1 ob) (by kernel_rfl)
 ·cases h
  exact path (ob_b4 h1 ob) (by kernel_rfl)
theorem ref05_Name.ok {n : Nat} {t : Tab} (ht : TabOk t (run Tryz.prog own kp X n)) : ∀ (p1 : ByteArray) r, ref05_Name t n p1 = some r → run Tryz.prog own kp X (n + 1) 89 [(Sr p1)] [] = some ((Bo r), []) := by
 intro p1 r h
 obtain ⟨a1, rfl⟩ : ∃ z_, z_ = p1 := ⟨_, rfl⟩
 rw [ref05_Name] at h
 obtain ⟨a2 | ⟨a3, a4, a5⟩, h1, h⟩ := sm h
 ·cases h
  exact run_path Tryz.func89 (ob_k (lk (sub [1, 0, 1, 0] (bodyOf Tryz.f89)) (by kernel_rfl) (ref05_Name_l1.okL ht n n _ _ _ h1)) ob) (by kernel_rfl)
 ·obtain ⟨a6, rfl⟩ : ∃ z_, z_ = r := ⟨_, rfl⟩
  have h2 := h
  exact run_path Tryz.func89 (ob_k (lk (sub [1, 0, 1, 0] (bodyOf Tryz.f89)) (by kernel_rfl) (ref05_Name_l1.okL ht n n _ _ _ h1)) (ob_j (ref05_Name_j3.ok ht n _ _ h2) ob)) (by kernel_rfl)
theorem ref02_right_l2.okL (ht : TabOk t call) (n : Nat) : ∀ (k : Nat) (a1 a2 a3 a4 : Int) (a5 : ByteArray) (a6 a7 : List GValue) (r : _), ref02_right_l2 t n k a1 a2 a3 a4 a5 a6 a7 = some r → loopN (exec (env Tryz.prog 90 Tryz.f90 call) n (sub [1, 1, 0, 1, 0, 0] (bodyOf Tryz.f90))) k (mkSt 68 68 [(1, (I6 a1)), (2, (.ptr 2 0 [] 0)), (5, (I6 a2))] [(2, (.t (.st [(.v (.int .i64 a3)), (.v (.int .i64 a4)), (.v (.string a5)), (.sl false 5 (GValue.ts a6)), (.sl false 5 (GValue.ts a7))])))]) = some (ref02_right_l2.to r)
 | 0, a1, a2, a3, a4, a5, a6, a7, r, h => by rw [ref02_right_l2] at h; cases h
 | k + 1, a1, a2, a3, a4, a5, a6, a7, r, h => by
  rw [ref02_right_l2] at h
  rcases fk h with ⟨h1, h⟩ | ⟨h1, h⟩
  ·obtain ⟨h2, h⟩ := ck h
   obtain ⟨⟨a8, a9, a10, a11, a12⟩, h3, h⟩ := sm h
   obtain ⟨a13, h4, h⟩ := sm h
   have o5 {os} (x : Obls (env Tryz.prog 90 Tryz.f90 call) n os) := ob_v (len_ts GValue.ts_map (l := a6)) (ob_b h1 (ob_n h2 (ob_t (look_ts GValue.ts_map h3) (ob_c (ht.ref02_right _ _ _ h4) x))))
   rcases fk h with ⟨h5, h⟩ | ⟨h5, h⟩
   ·rcases fk h with ⟨h6, h⟩ | ⟨h6, h⟩
    ·rcases fk h with ⟨h7, h⟩ | ⟨h7, h⟩
     ·obtain ⟨h8, h⟩ := ck h
      obtain ⟨⟨a14, a15, a16, a17, a18⟩, h9, h⟩ := sm h
      obtain ⟨a19, h10, h⟩ := sm h
      have o28 {os} (x : Obls (env Tryz.prog 90 Tryz.f90 call) n os) := o5 (ob_b (congrArg (!·) h5) (ob_b3 h6 (ob_b4 h7 (ob_b h7 (ob_n h8 (ob_t (look_ts GValue.ts_map h9) (ob_b4 h7 (ob_b h7 (ob_n h2 (ob_t (look_ts GValue.ts_map h3) (ob_b2 h7 (ob_c (ht.ref02_Cmp _ _ _ h10) (ob_b2 h7 x)))))))))))))
      rcases fk h with ⟨h11, h⟩ | ⟨h11, h⟩
      ·cases h
       exact loop_out (path (o28 (ob_b h11 ob)) (by kernel_rfl)) (fun h => by cases h)
      ·exact loop_more (path (o28 (ob_b h11 ob)) (by kernel_rfl)) (ref02_right_l2.okL ht n k _ _ _ _ _ _ _ _ h)
     ·exact loop_more (path (o5 (ob_b (congrArg (!·) h5) (ob_b3 h6 (ob_b4 h7 (ob_b4 h7 (ob_b4 h7 (ob_b2 h7 (ob_b (rfl : false = false) ob)))))))) (by kernel_rfl)) (ref02_right_l2.okL ht n k _ _ _ _ _ _ _ _ h)
    ·exact loop_more (path (o5 (ob_b (congrArg (!·) h5) (ob_b3 h6 (ob_b4 (rfl : false = false) (ob_b4 (rfl : false = false) (ob_b4 (rfl : false = false) (ob_b3 (rfl : false = false) ob))))))) (by kernel_rfl)) (ref02_right_l2.okL ht n k _ _ _ _ _ _ _ _ h)
   ·cases h
    exact loop_out (path (o5 (ob_b (congrArg (!·) h5) ob)) (by kernel_rfl)) (fun h => by cases h)
  ·cases h
   exact loop_out (path (ob_v (len_ts GValue.ts_map (l := a6)) (ob_b h1 ob)) (by kernel_rfl)) (fun h => by cases h)
theorem ref02_right_l4.okL (ht : TabOk t call) (n : Nat) : ∀ (k : Nat) (a1 a2 a3 a4 : Int) (a5 : ByteArray) (a6 a7 : List GValue) (r : _), ref02_right_l4 t n k a1 a2 a3 a4 a5 a6 a7 = some r → loopN (exec (env Tryz.prog 90 Tryz.f90 call) n (sub [1, 1, 1, 0, 1, 0, 0] (bodyOf Tryz.f90))) k (mkSt 68 68 [(1, (I6 a1)), (2, (.ptr 2 0 [] 0)), (6, (I6 a2))] [(2, (.t (.st [(.v (.int .i64 a3)), (.v (.int .i64 a4)), (.v (.string a5)), (.sl false 5 (GValue.ts a6)), (.sl false 5 (GValue.ts a7))])))]) = some (ref02_right_l4.to r)
 | 0, a1, a2, a3, a4, a5, a6, a7, r, h => by rw [ref02_right_l4] at h; cases h
 | k + 1, a1, a2, a3, a4, a5, a6, a7, r, h => by
  rw [ref02_right_l4] at h
  rcases fk h with ⟨h1, h⟩ | ⟨h1, h⟩
  ·obtain ⟨h2, h⟩ := ck h
   obtain ⟨⟨a8, a9, a10, a11, a12⟩, h3, h⟩ := sm h
   obtain ⟨a13, h4, h⟩ := sm h
   rcases fk h with ⟨h5, h⟩ | ⟨h5, h⟩
   ·exact loop_more (path (ob_v (len_ts GValue.ts_map (l := a7)) (ob_b h1 (ob_n h2 (ob_t (look_ts GValue.ts_map h3) (ob_c (ht.ref02_right _ _ _ h4) (ob_b (congrArg (!·) h5) ob)))))) (by kernel_rfl)) (ref02_right_l4.okL ht n k _ _ _ _ _ _ _ _ h)
   ·cases h
    exact loop_out (path (ob_v (len_ts GValue.ts_map (l := a7)) (ob_b h1 (ob_n h2 (ob_t (look_ts GValue.ts_map h3) (ob_c (ht.ref02_right _ _ _ h4) (ob_b (congrArg (!·) h5) ob)))))) (by kernel_rfl)) (fun h => by cases h)
  ·cases h
   exact loop_out (path (ob_v (len_ts GValue.ts_map (l := a7)) (ob_b h1 ob)) (by kernel_rfl)) (fun h => by cases h)
theorem ref02_right_j3.ok (ht : TabOk t call) (n : Nat) (a1 a2 a3 : Int) (a4 : ByteArray) (a5 a6 : List GValue) (r : _) (h : ref02_right_j3 t n a1 a2 a3 a4 a5 a6 = some r) : exec (env Tryz.prog 90 Tryz.f90 call) n (sub [1, 1, 1] (bodyOf Tryz.f90)) (mkSt 68 68 [(1, (I6 a1)), (2, (.ptr 2 0 [] 0))] [(2, (.t (.st [(.v (.int .i64 a2)), (.v (.int .i64 a3)), (.v (.string a4)), (.sl false 5 (GValue.ts a5)), (.sl false 5 (GValue.ts a6))])))]) = some (ref02_right_j3.to r) := by
 rw [ref02_right_j3] at h
 obtain ⟨a7 | ⟨a8, a9, a10, a11, a12, a13, a14, a15⟩, h1, h⟩ := sm h
 ·cases h
  exact path (ob_k (lk (sub [1, 1, 1, 0, 1, 0] (bodyOf Tryz.f90)) (by kernel_rfl) (ref02_right_l4.okL ht n n _ _ _ _ _ _ _ _ h1)) ob) (by kernel_rfl)
 ·cases h
  exact path (ob_k (lk (sub [1, 1, 1, 0, 1, 0] (bodyOf Tryz.f90)) (by kernel_rfl) (ref02_right_l4.okL ht n n _ _ _ _ _ _ _ _ h1)) ob) (by kernel_rfl)
theorem ref02_right_j1.ok (ht : TabOk t call) (n : Nat) (a1 a2 a3 : Int) (a4 : ByteArray) (a5 a6 : List GValue) (r : _) (h : ref02_right_j1 t n a1 a2 a3 a4 a5 a6 = some r) : exec (env Tryz.prog 90 Tryz.f90 call) n (sub [1, 1] (bodyOf Tryz.f90)) (mkSt 68 68 [(1, (I6 a1)), (2, (.ptr 2 0 [] 0))] [(2, (.t (.st [(.v (.int .i64 a2)), (.v (.int .i64 a3)), (.v (.string a4)), (.sl false 5 (GValue.ts a5)), (.sl false 5 (GValue.ts a6))])))]) = some (ref02_right_j1.to r) := by
 rw [ref02_right_j1] at h
 obtain ⟨a7 | ⟨a8, a9, a10, a11, a12, a13, a14, a15⟩, h1, h⟩ := sm h
 ·cases h
  exact path (ob_k (lk (sub [1, 1, 0, 1, 0] (bodyOf Tryz.f90)) (by kernel_rfl) (ref02_right_l2.okL ht n n _ _ _ _ _ _ _ _ h1)) ob) (by kernel_rfl)
 ·obtain ⟨a16, rfl⟩ : ∃ z_, z_ = r := ⟨_, rfl⟩
  have h2 := h
  exact path (ob_k (lk (sub [1, 1, 0, 1, 0] (bodyOf Tryz.f90)) (by kernel_rfl) (ref02_right_l2.okL ht n n _ _ _ _ _ _ _ _ h1)) (ob_j (ref02_right_j3.ok ht n _ _ _ _ _ _ _ h2) ob)) (by kernel_rfl)
theorem ref02_right.ok {n : Nat} {t : Tab} (ht : TabOk t (run Tryz.prog own kp X n)) : ∀ (p1 : GValue) (p2 : Int) r, ref02_right t n p1 p2 = some r → run Tryz.prog own kp X (n + 1) 90 [(.t (GValue.t p1)), (I6 p2)] [] = some ((Bo r), []) := by
 intro p1 p2 r h
 obtain ⟨a1, a2, a3, a4, a5⟩ := p1
 obtain ⟨a6, rfl⟩ : ∃ z_, z_ = p2 := ⟨_, rfl⟩
 rw [ref02_right] at h
 rcases fk h with ⟨h1, h⟩ | ⟨h1, h⟩
 ·cases h
  exact run_path Tryz.func90 (ob_b4 h1 (ob_b (rfl : true = true) ob)) (by kernel_rfl)
 ·obtain ⟨a7, h2, h⟩ := sm h
  rcases fk h with ⟨h3, h⟩ | ⟨h3, h⟩
  ·obtain ⟨a8, rfl⟩ : ∃ z_, z_ = r := ⟨_, rfl⟩
   have h4 := h
   exact run_path Tryz.func90 (ob_b2 h1 (ob_c (ht.ref02_fields _ _ h2) (ob_b2 h1 (ob_b (congrArg (!·) h3) (ob_j (ref02_right_j1.ok ht n _ _ _ _ _ _ _ h4) ob))))) (by kernel_rfl)
  ·cases h
   exact run_path Tryz.func90 (ob_b2 h1 (ob_c (ht.ref02_fields _ _ h2) (ob_b2 h1 (ob_b (congrArg (!·) h3) ob)))) (by kernel_rfl)
theorem ref09_right_j4.ok (ht : TabOk t call) (n : Nat) (a1 a2 a3 : Int) (a4 a5 : Bool) (a6 : Int) (a7 : List GValue) (a8 : List GPred) (r : _) (h : ref09_right_j4 t n a1 a2 a3 a4 a5 a6 a7 a8 = some r) : exec (env Tryz.prog 91 Tryz.f91 call) n (sub [1, 1, 1, 1, 0, 1, 0, 1, 1, 1, 1, 1, 1, 1, 1, 1] (bodyOf Tryz.f91)) (mkSt 105 105 [(1, (I6 a1)), (2, (.ptr 2 0 [] 0)), (5, (I6 a2)), (6, (I6 a3)), (7, (Bo a4)), (59, (Bo a5))] [(2, (.t (.st [(.v (.int .i64 a6)), (.sl false 5 (GValue.ts a7)), (.sl false 3 (GPred.ts a8))])))]) = some (ref09_right_j4.to r) := by
 rw [ref09_right_j4] at h
 rcases fk h with ⟨h1, h⟩ | ⟨h1, h⟩
 ·rcases fk h with ⟨h2, h⟩ | ⟨h2, h⟩
  ·rcases fk h with ⟨h3, h⟩ | ⟨h3, h⟩
   ·cases h
    exact path (ob_b h1 (ob_b3 h2 (ob_b3 h3 ob))) (by kernel_rfl)
   ·cases h
    exact path (ob_b h1 (ob_b3 h2 (ob_b3 h3 ob))) (by kernel_rfl)
  ·cases h
   exact path (ob_b h1 (ob_b3 h2 (ob_b3 (rfl : false = false) ob))) (by kernel_rfl)
 ·cases h
  exact path (ob_b h1 ob) (by kernel_rfl)
theorem ref09_right_j3.ok (ht : TabOk t call) (n : Nat) (a1 a2 a3 : Int) (a4 : Bool) (a5 : Int) (a6 : Bool) (a7 : Int) (a8 : List GValue) (a9 : List GPred) (r : _) (h : ref09_right_j3 t n a1 a2 a3 a4 a5 a6 a7 a8 a9 = some r) : exec (env Tryz.prog 91 Tryz.f91 call) n (sub [1, 1, 1, 1, 0, 1, 0, 1, 1, 1, 1, 1] (bodyOf Tryz.f91)) (mkSt 105 105 [(1, (I6 a1)), (2, (.ptr 2 0 [] 0)), (5, (I6 a2)), (6, (I6 a3)), (7, (Bo a4)), (18, (I6 a5)), (42, (Bo a6))] [(2, (.t (.st [(.v (.int .i64 a7)), (.sl false 5 (GValue.ts a8)), (.sl false 3 (GPred.ts a9))])))]) = some (ref09_right_j3.to r) := by
 rw [ref09_right_j3] at h
 rcases fk h with ⟨h1, h⟩ | ⟨h1, h⟩
 ·rcases fk h with ⟨h2, h⟩ | ⟨h2, h⟩
  ·cases h
   exact path (ob_b h1 (ob_b3 h2 ob)) (by kernel_rfl)
  ·cases h
   exact path (ob_b h1 (ob_b3 h2 ob)) (by kernel_rfl)
 ·rcases fk h with ⟨h3, h⟩ | ⟨h3, h⟩
  ·rcases fk h with ⟨h4, h⟩ | ⟨h4, h⟩
   ·cases h
    exact path (ob_b h1 (ob_b h3 (ob_b3 h4 ob))) (by kernel_rfl)
   ·cases h
    exact path (ob_b h1 (ob_b h3 (ob_b3 h4 ob))) (by kernel_rfl)
  ·rcases fk h with ⟨h5, h⟩ | ⟨h5, h⟩
   ·obtain ⟨a10, a11, a12, a13, a14, a15, a16⟩ := r
    have h6 := h
    exact path (ob_b h1 (ob_b h3 (ob_b h5 (ob_j (ref09_right_j4.ok ht n _ _ _ _ _ _ _ _ _ h6) ob)))) (by kernel_rfl)
   ·obtain ⟨a17, a18, a19, a20, a21, a22, a23⟩ := r
    have h7 := h
    exact path (ob_b h1 (ob_b h3 (ob_b h5 (ob_j (ref09_right_j4.ok ht n _ _ _ _ _ _ _ _ _ h7) ob)))) (by kernel_rfl)
theorem ref09_right_j2.ok (ht : TabOk t call) (n : Nat) (a1 a2 a3 : Int) (a4 : Bool) (a5 : Int) (a6 : Bool) (a7 : Int) (a8 : List GValue) (a9 : List GPred) (r : _) (h : ref09_right_j2 t n a1 a2 a3 a4 a5 a6 a7 a8 a9 = some r) : exec (env Tryz.prog 91 Tryz.f91 call) n (sub [1, 1, 1, 1, 0, 1, 0, 1, 1, 1] (bodyOf Tryz.f91)) (mkSt 105 105 [(1, (I6 a1)), (2, (.ptr 2 0 [] 0)), (5, (I6 a2)), (6, (I6 a3)), (7, (Bo a4)), (18, (I6 a5)), (32, (Bo a6))] [(2, (.t (.st [(.v (.int .i64 a7)), (.sl false 5 (GValue.ts a8)), (.sl false 3 (GPred.ts a9))])))]) = some (ref09_right_j2.to r) := by
 rw [ref09_right_j2] at h
 rcases fk h with ⟨h1, h⟩ | ⟨h1, h⟩
 ·rcases fk h with ⟨h2, h⟩ | ⟨h2, h⟩
  ·cases h
   exact path (ob_b h1 (ob_b3 h2 ob)) (by kernel_rfl)
  ·cases h
   exact path (ob_b h1 (ob_b3 h2 ob)) (by kernel_rfl)
 ·rcases fk h with ⟨h3, h⟩ | ⟨h3, h⟩
  ·obtain ⟨a10, a11, a12, a13, a14, a15, a16⟩ := r
   have h4 := h
   exact path (ob_b h1 (ob_b h3 (ob_j (ref09_right_j3.ok ht n _ _ _ _ _ _ _ _ _ _ h4) ob))) (by kernel_rfl)
  ·obtain ⟨a17, a18, a19, a20, a21, a22, a23⟩ := r
   have h5 := h
   exact path (ob_b h1 (ob_b h3 (ob_j (ref09_right_j3.ok ht n _ _ _ _ _ _ _ _ _ _ h5) ob))) (by kernel_rfl)
theorem ref09_right_j1.ok (ht : TabOk t call) (n : Nat) (a1 a2 a3 : Int) (a4 : Bool) (a5 : Int) (a6 : Bool) (a7 : Int) (a8 : List GValue) (a9 : List GPred) (r : _) (h : ref09_right_j1 t n a1 a2 a3 a4 a5 a6 a7 a8 a9 = some r) : exec (env Tryz.prog 91 Tryz.f91 call) n (sub [1, 1, 1, 1, 0, 1, 0, 1] (bodyOf Tryz.f91)) (mkSt 105 105 [(1, (I6 a1)), (2, (.ptr 2 0 [] 0)), (5, (I6 a2)), (6, (I6 a3)), (7, (Bo a4)), (18, (I6 a5)), (19, (Bo a6))] [(2, (.t (.st [(.v (.int .i64 a7)), (.sl false 5 (GValue.ts a8)), (.sl false 3 (GPred.ts a9))])))]) = some (ref09_right_j1.to r) := by
 rw [ref09_right_j1] at h
 rcases fk h with ⟨h1, h⟩ | ⟨h1, h⟩
 ·rcases fk h with ⟨h2, h⟩ | ⟨h2, h⟩
  ·cases h
   exact path (ob_b h1 (ob_b3 h2 ob)) (by kernel_rfl)
  ·cases h
   exact path (ob_b h1 (ob_b3 h2 ob)) (by kernel_rfl)
 ·rcases fk h with ⟨h3, h⟩ | ⟨h3, h⟩
  ·obtain ⟨a10, a11, a12, a13, a14, a15, a16⟩ := r
   have h4 := h
   exact path (ob_b h1 (ob_b h3 (ob_j (ref09_right_j2.ok ht n _ _ _ _ _ _ _ _ _ _ h4) ob))) (by kernel_rfl)
  ·rcases fk h with ⟨h5, h⟩ | ⟨h5, h⟩
   ·obtain ⟨a17, a18, a19, a20, a21, a22, a23⟩ := r
    have h6 := h
    exact path (ob_b h1 (ob_b h3 (ob_b h5 (ob_j (ref09_right_j2.ok ht n _ _ _ _ _ _ _ _ _ _ h6) ob)))) (by kernel_rfl)
   ·obtain ⟨a24, a25, a26, a27, a28, a29, a30⟩ := r
    have h7 := h
    exact path (ob_b h1 (ob_b h3 (ob_b h5 (ob_j (ref09_right_j2.ok ht n _ _ _ _ _ _ _ _ _ _ h7) ob)))) (by kernel_rfl)
theorem ref09_right_l7.okL (ht : TabOk t call) (n : Nat) : ∀ (k : Nat) (a1 a2 a3 a4 a5 : Int) (a6 : List GValue) (a7 : List GPred) (r : _), ref09_right_l7 t n k a1 a2 a3 a4 a5 a6 a7 = some r → loopN (exec (env Tryz.prog 91 Tryz.f91 call) n (sub [1, 1, 1, 1, 1, 1, 0, 1, 0, 0] (bodyOf Tryz.f91))) k (mkSt 105 105 [(1, (I6 a1)), (2, (.ptr 2 0 [] 0)), (5, (I6 a2)), (6, (I6 a3)), (8, (I6 a4))] [(2, (.t (.st [(.v (.int .i64 a5)), (.sl false 5 (GValue.ts a6)), (.sl false 3 (GPred.ts a7))])))]) = some (ref09_right_l7.to r)
 | 0, a1, a2, a3, a4, a5, a6, a7, r, h => by rw [ref09_right_l7] at h; cases h
 | k + 1, a1, a2, a3, a4, a5, a6, a7, r, h => by
  rw [ref09_right_l7] at h
  rcases fk h with ⟨h1, h⟩ | ⟨h1, h⟩
  ·obtain ⟨h2, h⟩ := ck h
   obtain ⟨⟨a8, a9, a10, a11, a12⟩, h3, h⟩ := sm h
   obtain ⟨a13, h4, h⟩ := sm h
   rcases fk h with ⟨h5, h⟩ | ⟨h5, h⟩
   ·cases h
    exact loop_out (path (ob_b h1 (ob_n h2 (ob_t (look_ts GValue.ts_map h3) (ob_c (ht.ref02_Check _ _ h4) (ob_b h5 ob))))) (by kernel_rfl)) (fun h => by cases h)
   ·exact loop_more (path (ob_b h1 (ob_n h2 (ob_t (look_ts GValue.ts_map h3) (ob_c (ht.ref02_Check _ _ h4) (ob_b h5 ob))))) (by kernel_rfl)) (ref09_right_l7.okL ht n k _ _ _ _ _ _ _ _ h)
  ·cases h
   exact loop_out (path (ob_b h1 ob) (by kernel_rfl)) (fun h => by cases h)
theorem ref09_right_l9.okL (ht : TabOk t call) (n : Nat) : ∀ (k : Nat) (a1 a2 a3 a4 : Int) (a5 : List GValue) (a6 : List GPred) (r : _), ref09_right_l9 t n k a1 a2 a3 a4 a5 a6 = some r → loopN (exec (env Tryz.prog 91 Tryz.f91 call) n (sub [1, 1, 1, 1, 1, 1, 1, 0, 1, 0, 0] (bodyOf Tryz.f91))) k (mkSt 105 105 [(1, (I6 a1)), (2, (.ptr 2 0 [] 0)), (6, (I6 a2)), (10, (I6 a3))] [(2, (.t (.st [(.v (.int .i64 a4)), (.sl false 5 (GValue.ts a5)), (.sl false 3 (GPred.ts a6))])))]) = some (ref09_right_l9.to r)
 | 0, a1, a2, a3, a4, a5, a6, r, h => by rw [ref09_right_l9] at h; cases h
 | k + 1, a1, a2, a3, a4, a5, a6, r, h => by
  rw [ref09_right_l9] at h
  rcases fk h with ⟨h1, h⟩ | ⟨h1, h⟩
  ·obtain ⟨h2, h⟩ := ck h
   obtain ⟨⟨a7, a8, a9⟩, h3, h⟩ := sm h
   obtain ⟨a10, h4, h⟩ := sm h
   rcases fk h with ⟨h5, h⟩ | ⟨h5, h⟩
   ·exact loop_more (path (ob_b h1 (ob_n h2 (ob_t (look_ts GPred.ts_map h3) (ob_c (ht.ref09_right _ _ _ h4) (ob_b (congrArg (!·) h5) ob))))) (by kernel_rfl)) (ref09_right_l9.okL ht n k _ _ _ _ _ _ _ h)
   ·cases h
    exact loop_out (path (ob_b h1 (ob_n h2 (ob_t (look_ts GPred.ts_map h3) (ob_c (ht.ref09_right _ _ _ h4) (ob_b (congrArg (!·) h5) ob))))) (by kernel_rfl)) (fun h => by cases h)
  ·cases h
   exact loop_out (path (ob_b h1 ob) (by kernel_rfl)) (fun h => by cases h)
theorem ref09_right_j8.ok (ht : TabOk t call) (n : Nat) (a1 a2 a3 : Int) (a4 : List GValue) (a5 : List GPred) (r : _) (h : ref09_right_j8 t n a1 a2 a3 a4 a5 = some r) : exec (env Tryz.prog 91 Tryz.f91 call) n (sub [1, 1, 1, 1, 1, 1, 1] (bodyOf Tryz.f91)) (mkSt 105 105 [(1, (I6 a1)), (2, (.ptr 2 0 [] 0)), (6, (I6 a2))] [(2, (.t (.st [(.v (.int .i64 a3)), (.sl false 5 (GValue.ts a4)), (.sl false 3 (GPred.ts a5))])))]) = some (ref09_right_j8.to r) := by
 rw [ref09_right_j8] at h
 obtain ⟨a6 | ⟨a7, a8, a9, a10, a11, a12, a13⟩, h1, h⟩ := sm h
 ·cases h
  exact path (ob_k (lk (sub [1, 1, 1, 1, 1, 1, 1, 0, 1, 0] (bodyOf Tryz.f91)) (by kernel_rfl) (ref09_right_l9.okL ht n n _ _ _ _ _ _ _ h1)) ob) (by kernel_rfl)
 ·cases h
  exact path (ob_k (lk (sub [1, 1, 1, 1, 1, 1, 1, 0, 1, 0] (bodyOf Tryz.f91)) (by kernel_rfl) (ref09_right_l9.okL ht n n _ _ _ _ _ _ _ h1)) ob) (by kernel_rfl)
theorem ref09_right_j6.ok (ht : TabOk t call) (n : Nat) (a1 a2 a3 a4 : Int) (a5 : List GValue) (a6 : List GPred) (r : _) (h : ref09_right_j6 t n a1 a2 a3 a4 a5 a6 = some r) : exec (env Tryz.prog 91 Tryz.f91 call) n (sub [1, 1, 1, 1, 1, 1] (bodyOf Tryz.f91)) (mkSt 105 105 [(1, (I6 a1)), (2, (.ptr 2 0 [] 0)), (5, (I6 a2)), (6, (I6 a3))] [(2, (.t (.st [(.v (.int .i64 a4)), (.sl false 5 (GValue.ts a5)), (.sl false 3 (GPred.ts a6))])))]) = some (ref09_right_j6.to r) := by
 rw [ref09_right_j6] at h
 obtain ⟨a7 | ⟨a8, a9, a10, a11, a12, a13, a14, a15⟩, h1, h⟩ := sm h
 ·cases h
  exact path (ob_k (lk (sub [1, 1, 1, 1, 1, 1, 0, 1, 0] (bodyOf Tryz.f91)) (by kernel_rfl) (ref09_right_l7.okL ht n n _ _ _ _ _ _ _ _ h1)) ob) (by kernel_rfl)
 ·obtain ⟨a16, rfl⟩ : ∃ z_, z_ = r := ⟨_, rfl⟩
  have h2 := h
  exact path (ob_k (lk (sub [1, 1, 1, 1, 1, 1, 0, 1, 0] (bodyOf Tryz.f91)) (by kernel_rfl) (ref09_right_l7.okL ht n n _ _ _ _ _ _ _ _ h1)) (ob_j (ref09_right_j8.ok ht n _ _ _ _ _ _ h2) ob)) (by kernel_rfl)
theorem ref09_right_j5.ok (ht : TabOk t call) (n : Nat) (a1 a2 a3 : Int) (a4 : Bool) (a5 : Int) (a6 : List GValue) (a7 : List GPred) (r : _) (h : ref09_right_j5 t n a1 a2 a3 a4 a5 a6 a7 = some r) : exec (env Tryz.prog 91 Tryz.f91 call) n (sub [1, 1, 1, 1, 1] (bodyOf Tryz.f91)) (mkSt 105 105 [(1, (I6 a1)), (2, (.ptr 2 0 [] 0)), (5, (I6 a2)), (6, (I6 a3)), (7, (Bo a4))] [(2, (.t (.st [(.v (.int .i64 a5)), (.sl false 5 (GValue.ts a6)), (.sl false 3 (GPred.ts a7))])))]) = some (ref09_right_j5.to r) := by
 rw [ref09_right_j5] at h
 rcases fk h with ⟨h1, h⟩ | ⟨h1, h⟩
 ·rcases fk h with ⟨h2, h⟩ | ⟨h2, h⟩
  ·cases h
   exact path (ob_b3 (congrArg (!·) h1) (ob_b h2 ob)) (by kernel_rfl)
  ·obtain ⟨a8, rfl⟩ : ∃ z_, z_ = r := ⟨_, rfl⟩
   have h3 := h
   exact path (ob_b3 (congrArg (!·) h1) (ob_b h2 (ob_j (ref09_right_j6.ok ht n _ _ _ _ _ _ _ h3) ob))) (by kernel_rfl)
 ·cases h
  exact path (ob_b3 (congrArg (!·) h1) (ob_b (rfl : true = true) ob)) (by kernel_rfl)
theorem ref09_right.ok {n : Nat} {t : Tab} (ht : TabOk t (run Tryz.prog own kp X n)) : ∀ (p1 : GPred) (p2 : Int) r, ref09_right t n p1 p2 = some r → run Tryz.prog own kp X (n + 1) 91 [(.t (GPred.t p1)), (I6 p2)] [] = some ((Bo r), []) := by
 intro p1 p2 r h
 obtain ⟨a1, a2, a3⟩ := p1
 obtain ⟨a4, rfl⟩ : ∃ z_, z_ = p2 := ⟨_, rfl⟩
 rw [ref09_right] at h
 have o2 {os} (x : Obls (env Tryz.prog 91 Tryz.f91 (run Tryz.prog own kp X n)) n os) := ob_v (len_ts GValue.ts_map (l := a2)) (ob_v (len_ts GPred.ts_map (l := a3)) x)
 rcases fk h with ⟨h1, h⟩ | ⟨h1, h⟩
 ·obtain ⟨⟨a5, a6, a7, a8, a9, a10, a11⟩, h2, h⟩ := sm h
  obtain ⟨a12, rfl⟩ : ∃ z_, z_ = r := ⟨_, rfl⟩
  have h3 := h
  exact run_path Tryz.func91 (o2 (ob_b h1 (ob_j (ref09_right_j1.ok ht n _ _ _ _ _ _ _ _ _ _ h2) (ob_j (ref09_right_j5.ok ht n _ _ _ _ _ _ _ _ h3) ob)))) (by kernel_rfl)
 ·rcases fk h with ⟨h4, h⟩ | ⟨h4, h⟩
  ·obtain ⟨⟨a13, a14, a15, a16, a17, a18, a19⟩, h5, h⟩ := sm h
   obtain ⟨a20, rfl⟩ : ∃ z_, z_ = r := ⟨_, rfl⟩
   have h6 := h
   exact run_path Tryz.func91 (o2 (ob_b h1 (ob_b h4 (ob_j (ref09_right_j1.ok ht n _ _ _ _ _ _ _ _ _ _ h5) (ob_j (ref09_right_j5.ok ht n _ _ _ _ _ _ _ _ h6) ob))))) (by kernel_rfl)
  ·rcases fk h with ⟨h7, h⟩ | ⟨h7, h⟩
   ·obtain ⟨⟨a21, a22, a23, a24, a25, a26, a27⟩, h8, h⟩ := sm h
    obtain ⟨a28, rfl⟩ : ∃ z_, z_ = r := ⟨_, rfl⟩
    have h9 := h
    exact run_path Tryz.func91 (o2 (ob_b h1 (ob_b h4 (ob_b h7 (ob_j (ref09_right_j1.ok ht n _ _ _ _ _ _ _ _ _ _ h8) (ob_j (ref09_right_j5.ok ht n _ _ _ _ _ _ _ _ h9) ob)))))) (by kernel_rfl)
   ·rcases fk h with ⟨h10, h⟩ | ⟨h10, h⟩
    ·obtain ⟨⟨a29, a30, a31, a32, a33, a34, a35⟩, h11, h⟩ := sm h
     obtain ⟨a36, rfl⟩ : ∃ z_, z_ = r := ⟨_, rfl⟩
     have h12 := h
     exact run_path Tryz.func91 (o2 (ob_b h1 (ob_b h4 (ob_b h7 (ob_b h10 (ob_j (ref09_right_j1.ok ht n _ _ _ _ _ _ _ _ _ _ h11) (ob_j (ref09_right_j5.ok ht n _ _ _ _ _ _ _ _ h12) ob))))))) (by kernel_rfl)
    ·rcases fk h with ⟨h13, h⟩ | ⟨h13, h⟩
     ·obtain ⟨⟨a37, a38, a39, a40, a41, a42, a43⟩, h14, h⟩ := sm h
      obtain ⟨a44, rfl⟩ : ∃ z_, z_ = r := ⟨_, rfl⟩
      have h15 := h
      exact run_path Tryz.func91 (o2 (ob_b h1 (ob_b h4 (ob_b h7 (ob_b h10 (ob_b h13 (ob_j (ref09_right_j1.ok ht n _ _ _ _ _ _ _ _ _ _ h14) (ob_j (ref09_right_j5.ok ht n _ _ _ _ _ _ _ _ h15) ob)))))))) (by kernel_rfl)
     ·obtain ⟨⟨a45, a46, a47, a48, a49, a50, a51⟩, h16, h⟩ := sm h
      obtain ⟨a52, rfl⟩ : ∃ z_, z_ = r := ⟨_, rfl⟩
      have h17 := h
      exact run_path Tryz.func91 (o2 (ob_b h1 (ob_b h4 (ob_b h7 (ob_b h10 (ob_b h13 (ob_j (ref09_right_j1.ok ht n _ _ _ _ _ _ _ _ _ _ h16) (ob_j (ref09_right_j5.ok ht n _ _ _ _ _ _ _ _ h17) ob)))))))) (by kernel_rfl)
theorem ref02_SameRows_l1.okL (ht : TabOk t call) (n : Nat) : ∀ (k : Nat) (a1 a2 : List GValue) (a3 : Int) (r : _), ref02_SameRows_l1 t n k a1 a2 a3 = some r → loopN (exec (env Tryz.prog 72 Tryz.f72 call) n (sub [1, 1, 0, 1, 0, 0] (bodyOf Tryz.f72))) k (mkSt 27 27 [(0, (Sl 5 (GValue.ts a1))), (1, (Sl 5 (GValue.ts a2))), (5, (I6 a3))] []) = some (ref02_SameRows_l1.to r)
 | 0, a1, a2, a3, r, h => by rw [ref02_SameRows_l1] at h; cases h
 | k + 1, a1, a2, a3, r, h => by
  rw [ref02_SameRows_l1] at h
  rcases fk h with ⟨h1, h⟩ | ⟨h1, h⟩
  ·obtain ⟨h2, h⟩ := ck h
   obtain ⟨⟨a4, a5, a6, a7, a8⟩, h3, h⟩ := sm h
   obtain ⟨⟨a9, a10, a11, a12, a13⟩, h4, h⟩ := sm h
   obtain ⟨a14, h5, h⟩ := sm h
   have o7 {os} (x : Obls (env Tryz.prog 72 Tryz.f72 call) n os) := ob_v (len_ts GValue.ts_map (l := a1)) (ob_b h1 (ob_n h2 (ob_t (look_ts GValue.ts_map h3) (ob_n h2 (ob_t (look_ts GValue.ts_map h4) (ob_c (ht.ref02_Same _ _ _ h5) x))))))
   rcases fk h with ⟨h6, h⟩ | ⟨h6, h⟩
   ·exact loop_more (path (o7 (ob_b (congrArg (!·) h6) ob)) (by kernel_rfl)) (ref02_SameRows_l1.okL ht n k _ _ _ _ h)
   ·cases h
    exact loop_out (path (o7 (ob_b (congrArg (!·) h6) ob)) (by kernel_rfl)) (fun h => by cases h)
  ·cases h
   exact loop_out (path (ob_v (len_ts GValue.ts_map (l := a1)) (ob_b h1 ob)) (by kernel_rfl)) (fun h => by cases h)
theorem ref02_SameRows.ok {n : Nat} {t : Tab} (ht : TabOk t (run Tryz.prog own kp X n)) : ∀ (p1 : List GValue) (p2 : List GValue) r, ref02_SameRows t n p1 p2 = some r → run Tryz.prog own kp X (n + 1) 72 [(Sl 5 (GValue.ts p1)), (Sl 5 (GValue.ts p2))] [] = some ((Bo r), []) := by
 intro p1 p2 r h
 obtain ⟨a1, rfl⟩ : ∃ z_, z_ = p1 := ⟨_, rfl⟩
 obtain ⟨a2, rfl⟩ : ∃ z_, z_ = p2 := ⟨_, rfl⟩
 rw [ref02_SameRows] at h
 have o2 {os} (x : Obls (env Tryz.prog 72 Tryz.f72 (run Tryz.prog own kp X n)) n os) := ob_v (len_ts GValue.ts_map (l := a1)) (ob_v (len_ts GValue.ts_map (l := a2)) x)
 rcases fk h with ⟨h1, h⟩ | ⟨h1, h⟩
 ·cases h
  exact run_path Tryz.func72 (o2 (ob_b h1 ob)) (by kernel_rfl)
 ·obtain ⟨a3 | ⟨a4, a5, a6, a7⟩, h2, h⟩ := sm h
  ·cases h
   exact run_path Tryz.func72 (o2 (ob_b h1 (ob_k (lk (sub [1, 1, 0, 1, 0] (bodyOf Tryz.f72)) (by kernel_rfl) (ref02_SameRows_l1.okL ht n n _ _ _ _ h2)) ob))) (by kernel_rfl)
  ·cases h
   exact run_path Tryz.func72 (o2 (ob_b h1 (ob_k (lk (sub [1, 1, 0, 1, 0] (bodyOf Tryz.f72)) (by kernel_rfl) (ref02_SameRows_l1.okL ht n n _ _ _ _ h2)) ob))) (by kernel_rfl)
theorem ref02_compare_j3.ok (ht : TabOk t call) (n : Nat) (a1 a2 : Int) (a3 : Bool) (a4 a5 : Int) (a6 : ByteArray) (a7 a8 : List GValue) (a9 a10 : Int) (a11 : ByteArray) (a12 a13 : List GValue) (r : _) (h : ref02_compare_j3 t n a1 a2 a3 a4 a5 a6 a7 a8 a9 a10 a11 a12 a13 = some r) : exec (env Tryz.prog 71 Tryz.f71 call) n (sub [1, 1, 1, 1, 0, 1] (bodyOf Tryz.f71)) (mkSt 54 54 [(2, (I6 a1)), (3, (.ptr 3 0 [] 0)), (4, (.ptr 4 0 [] 0)), (7, (I6 a2)), (32, (Bo a3))] [(3, (.t (.st [(.v (.int .i64 a4)), (.v (.int .i64 a5)), (.v (.string a6)), (.sl false 5 (GValue.ts a7)), (.sl false 5 (GValue.ts a8))]))), (4, (.t (.st [(.v (.int .i64 a9)), (.v (.int .i64 a10)), (.v (.string a11)), (.sl false 5 (GValue.ts a12)), (.sl false 5 (GValue.ts a13))])))]) = some (ref02_compare_j3.to r) := by
 rw [ref02_compare_j3] at h
 rcases fk h with ⟨h1, h⟩ | ⟨h1, h⟩
 ·obtain ⟨a14, h2, h⟩ := sm h
  cases h
  exact path (ob_b h1 (ob_c (ht.ref02_rows _ _ _ _ h2) ob)) (by kernel_rfl)
 ·cases h
  exact path (ob_b h1 ob) (by kernel_rfl)
theorem ref02_compare_j5.ok (ht : TabOk t call) (n : Nat) (a1 a2 : Int) (a3 : Bool) (a4 a5 : Int) (a6 : ByteArray) (a7 a8 : List GValue) (a9 a10 : Int) (a11 : ByteArray) (a12 a13 : List GValue) (r : _) (h : ref02_compare_j5 t n a1 a2 a3 a4 a5 a6 a7 a8 a9 a10 a11 a12 a13 = some r) : exec (env Tryz.prog 71 Tryz.f71 call) n (sub [1, 1, 1, 1, 1, 0, 1] (bodyOf Tryz.f71)) (mkSt 54 54 [(2, (I6 a1)), (3, (.ptr 3 0 [] 0)), (4, (.ptr 4 0 [] 0)), (7, (I6 a2)), (45, (Bo a3))] [(3, (.t (.st [(.v (.int .i64 a4)), (.v (.int .i64 a5)), (.v (.string a6)), (.sl false 5 (GValue.ts a7)), (.sl false 5 (GValue.ts a8))]))), (4, (.t (.st [(.v (.int .i64 a9)), (.v (.int .i64 a10)), (.v (.string a11)), (.sl false 5 (GValue.ts a12)), (.sl false 5 (GValue.ts a13))])))]) = some (ref02_compare_j5.to r) := by
 rw [ref02_compare_j5] at h
 rcases fk h with ⟨h1, h⟩ | ⟨h1, h⟩
 ·obtain ⟨a14, rfl⟩ : ∃ z_, z_ = r := ⟨_, rfl⟩
  have h2 := h
  exact path (ob_b h1 (ob_c (ht.ref02_rows _ _ _ _ h2) ob)) (by kernel_rfl)
 ·cases h
  exact path (ob_b h1 ob) (by kernel_rfl)
theorem ref02_compare_j4.ok (ht : TabOk t call) (n : Nat) (a1 a2 a3 a4 : Int) (a5 : ByteArray) (a6 a7 : List GValue) (a8 a9 : Int) (a10 : ByteArray) (a11 a12 : List GValue) (r : _) (h : ref02_compare_j4 t n a1 a2 a3 a4 a5 a6 a7 a8 a9 a10 a11 a12 = some r) : exec (env Tryz.prog 71 Tryz.f71 call) n (sub [1, 1, 1, 1, 1] (bodyOf Tryz.f71)) (mkSt 54 54 [(2, (I6 a1)), (3, (.ptr 3 0 [] 0)), (4, (.ptr 4 0 [] 0)), (7, (I6 a2))] [(3, (.t (.st [(.v (.int .i64 a3)), (.v (.int .i64 a4)), (.v (.string a5)), (.sl false 5 (GValue.ts a6)), (.sl false 5 (GValue.ts a7))]))), (4, (.t (.st [(.v (.int .i64 a8)), (.v (.int .i64 a9)), (.v (.string a10)), (.sl false 5 (GValue.ts a11)), (.sl false 5 (GValue.ts a12))])))]) = some (ref02_compare_j4.to r) := by
 rw [ref02_compare_j4] at h
 rcases fk h with ⟨h1, h⟩ | ⟨h1, h⟩
 ·obtain ⟨a13, rfl⟩ : ∃ z_, z_ = r := ⟨_, rfl⟩
  have h2 := h
  exact path (ob_b3 h1 (ob_j (ref02_compare_j5.ok ht n _ _ _ _ _ _ _ _ _ _ _ _ _ _ h2) ob)) (by kernel_rfl)
 ·obtain ⟨a14, rfl⟩ : ∃ z_, z_ = r := ⟨_, rfl⟩
  have h3 := h
  exact path (ob_b3 h1 (ob_j (ref02_compare_j5.ok ht n _ _ _ _ _ _ _ _ _ _ _ _ _ _ h3) ob)) (by kernel_rfl)
theorem ref02_compare_j2.ok (ht : TabOk t call) (n : Nat) (a1 a2 a3 a4 : Int) (a5 : ByteArray) (a6 a7 : List GValue) (a8 a9 : Int) (a10 : ByteArray) (a11 a12 : List GValue) (r : _) (h : ref02_compare_j2 t n a1 a2 a3 a4 a5 a6 a7 a8 a9 a10 a11 a12 = some r) : exec (env Tryz.prog 71 Tryz.f71 call) n (sub [1, 1, 1, 1] (bodyOf Tryz.f71)) (mkSt 54 54 [(2, (I6 a1)), (3, (.ptr 3 0 [] 0)), (4, (.ptr 4 0 [] 0)), (7, (I6 a2))] [(3, (.t (.st [(.v (.int .i64 a3)), (.v (.int .i64 a4)), (.v (.string a5)), (.sl false 5 (GValue.ts a6)), (.sl false 5 (GValue.ts a7))]))), (4, (.t (.st [(.v (.int .i64 a8)), (.v (.int .i64 a9)), (.v (.string a10)), (.sl false 5 (GValue.ts a11)), (.sl false 5 (GValue.ts a12))])))]) = some (ref02_compare_j2.to r) := by
 rw [ref02_compare_j2] at h
 rcases fk h with ⟨h1, h⟩ | ⟨h1, h⟩
 ·obtain ⟨⟨a13, a14, a15, a16, a17, a18, a19, a20, a21, a22, a23, a24⟩, h2, h⟩ := sm h
  obtain ⟨a25, rfl⟩ : ∃ z_, z_ = r := ⟨_, rfl⟩
  have h3 := h
  exact path (ob_b3 h1 (ob_j (ref02_compare_j3.ok ht n _ _ _ _ _ _ _ _ _ _ _ _ _ _ h2) (ob_j (ref02_compare_j4.ok ht n _ _ _ _ _ _ _ _ _ _ _ _ _ h3) ob))) (by kernel_rfl)
 ·obtain ⟨⟨a26, a27, a28, a29, a30, a31, a32, a33, a34, a35, a36, a37⟩, h4, h⟩ := sm h
  obtain ⟨a38, rfl⟩ : ∃ z_, z_ = r := ⟨_, rfl⟩
  have h5 := h
  exact path (ob_b3 h1 (ob_j (ref02_compare_j3.ok ht n _ _ _ _ _ _ _ _ _ _ _ _ _ _ h4) (ob_j (ref02_compare_j4.ok ht n _ _ _ _ _ _ _ _ _ _ _ _ _ h5) ob))) (by kernel_rfl)
theorem ref02_compare_j1.ok (ht : TabOk t call) (n : Nat) (a1 a2 a3 a4 : Int) (a5 : ByteArray) (a6 a7 : List GValue) (a8 a9 : Int) (a10 : ByteArray) (a11 a12 : List GValue) (r : _) (h : ref02_compare_j1 t n a1 a2 a3 a4 a5 a6 a7 a8 a9 a10 a11 a12 = some r) : exec (env Tryz.prog 71 Tryz.f71 call) n (sub [1, 1, 1] (bodyOf Tryz.f71)) (mkSt 54 54 [(2, (I6 a1)), (3, (.ptr 3 0 [] 0)), (4, (.ptr 4 0 [] 0)), (7, (I6 a2))] [(3, (.t (.st [(.v (.int .i64 a3)), (.v (.int .i64 a4)), (.v (.string a5)), (.sl false 5 (GValue.ts a6)), (.sl false 5 (GValue.ts a7))]))), (4, (.t (.st [(.v (.int .i64 a8)), (.v (.int .i64 a9)), (.v (.string a10)), (.sl false 5 (GValue.ts a11)), (.sl false 5 (GValue.ts a12))])))]) = some (ref02_compare_j1.to r) := by
 rw [ref02_compare_j1] at h
 rcases fk h with ⟨h1, h⟩ | ⟨h1, h⟩
 ·obtain ⟨a13, h2, h⟩ := sm h
  obtain ⟨a14, rfl⟩ : ∃ z_, z_ = r := ⟨_, rfl⟩
  have h3 := h
  exact path (ob_b h1 (ob_c (ht.ref02_texts _ _ _ h2) (ob_j (ref02_compare_j2.ok ht n _ _ _ _ _ _ _ _ _ _ _ _ _ h3) ob))) (by kernel_rfl)
 ·obtain ⟨a15, rfl⟩ : ∃ z_, z_ = r := ⟨_, rfl⟩
  have h4 := h
  exact path (ob_b h1 (ob_j (ref02_compare_j2.ok ht n _ _ _ _ _ _ _ _ _ _ _ _ _ h4) ob)) (by kernel_rfl)
theorem ref02_compare.ok {n : Nat} {t : Tab} (ht : TabOk t (run Tryz.prog own kp X n)) : ∀ (p1 : GValue) (p2 : GValue) (p3 : Int) r, ref02_compare t n p1 p2 p3 = some r → run Tryz.prog own kp X (n + 1) 71 [(.t (GValue.t p1)), (.t (GValue.t p2)), (I6 p3)] [] = some ((I6 r), []) := by
 intro p1 p2 p3 r h
 obtain ⟨a1, a2, a3, a4, a5⟩ := p1
 obtain ⟨a6, a7, a8, a9, a10⟩ := p2
 obtain ⟨a11, rfl⟩ : ∃ z_, z_ = p3 := ⟨_, rfl⟩
 rw [ref02_compare] at h
 obtain ⟨a12, h1, h⟩ := sm h
 rcases fk h with ⟨h2, h⟩ | ⟨h2, h⟩
 ·obtain ⟨a13, h3, h⟩ := sm h
  obtain ⟨a14, rfl⟩ : ∃ z_, z_ = r := ⟨_, rfl⟩
  have h4 := h
  exact run_path Tryz.func71 (ob_c (ht.ref02_sign _ _ _ h1) (ob_b h2 (ob_c (ht.ref02_sign _ _ _ h3) (ob_j (ref02_compare_j1.ok ht n _ _ _ _ _ _ _ _ _ _ _ _ _ h4) ob)))) (by kernel_rfl)
 ·obtain ⟨a15, rfl⟩ : ∃ z_, z_ = r := ⟨_, rfl⟩
  have h5 := h
  exact run_path Tryz.func71 (ob_c (ht.ref02_sign _ _ _ h1) (ob_b h2 (ob_j (ref02_compare_j1.ok ht n _ _ _ _ _ _ _ _ _ _ _ _ _ h5) ob))) (by kernel_rfl)
theorem slices_ContainsFunc_plan_some_1_i2.ok {n : Nat} {t : Tab} (ht : TabOk t (run Tryz.prog own kp X n)) : ∀ (p1 : List GStep) (p2 : List Int) r, slices_ContainsFunc_plan_some_1_i2 t n p1 p2 = some r → run Tryz.prog own kp X (n + 1) 51 [(Sl 14 (GStep.ts p1)), (.fn 60 [(.fref 49 [(.ref (.sl false 1 (ints_i64 p2)))])])] [] = some ((Bo r), []) := by
 intro p1 p2 r h
 obtain ⟨a1, rfl⟩ : ∃ z_, z_ = p1 := ⟨_, rfl⟩
 obtain ⟨a2, rfl⟩ : ∃ z_, z_ = p2 := ⟨_, rfl⟩
 rw [slices_ContainsFunc_plan_some_1_i2] at h
 obtain ⟨a3, h1, h⟩ := sm h
 cases h
 exact run_path Tryz.func51 (ob_c (ht.slices_IndexFunc_plan_some_1_i2 _ _ _ h1) ob) (by kernel_rfl)
theorem slices_IndexFunc_plan_some_1_l1.okL (ht : TabOk t call) (n : Nat) : ∀ (k : Nat) (a1 : List GStep) (a2 a3 : Int) (r : _), slices_IndexFunc_plan_some_1_l1 t n k a1 a2 a3 = some r → loopN (exec (env Tryz.prog 75 Tryz.f75 call) n (sub [1, 0, 1, 0, 0] (bodyOf Tryz.f75))) k (mkSt 19 19 [(0, (Sl 14 (GStep.ts a1))), (1, (.fn 60 [(.fref 29 [])])), (7, (I6 a2)), (8, (I6 a3))] []) = some (slices_IndexFunc_plan_some_1_l1.to r)
 | 0, a1, a2, a3, r, h => by rw [slices_IndexFunc_plan_some_1_l1] at h; cases h
 | k + 1, a1, a2, a3, r, h => by
  rw [slices_IndexFunc_plan_some_1_l1] at h
  rcases fk h with ⟨h1, h⟩ | ⟨h1, h⟩
  ·obtain ⟨h2, h⟩ := ck h
   obtain ⟨⟨a4, a5, a6, ⟨a7, a8, a9, a10, a11⟩, ⟨a12, a13, a14⟩, a15, a16, a17⟩, h3, h⟩ := sm h
   obtain ⟨a18, h4, h⟩ := sm h
   rcases fk h with ⟨h5, h⟩ | ⟨h5, h⟩
   ·cases h
    exact loop_out (path (ob_b h1 (ob_n h2 (ob_t (look_ts GStep.ts_map h3) (ob_c (ht.plan_some_1_plan_Free_1 _ _ h4) (ob_b h5 ob))))) (by kernel_rfl)) (fun h => by cases h)
   ·exact loop_more (path (ob_b h1 (ob_n h2 (ob_t (look_ts GStep.ts_map h3) (ob_c (ht.plan_some_1_plan_Free_1 _ _ h4) (ob_b h5 ob))))) (by kernel_rfl)) (slices_IndexFunc_plan_some_1_l1.okL ht n k _ _ _ _ h)
  ·cases h
   exact loop_out (path (ob_b h1 ob) (by kernel_rfl)) (fun h => by cases h)
theorem slices_IndexFunc_plan_some_1.ok {n : Nat} {t : Tab} (ht : TabOk t (run Tryz.prog own kp X n)) : ∀ (p1 : List GStep) r, slices_IndexFunc_plan_some_1 t n p1 = some r → run Tryz.prog own kp X (n + 1) 75 [(Sl 14 (GStep.ts p1)), (.fn 60 [(.fref 29 [])])] [] = some ((I6 r), []) := by
 intro p1 r h
 obtain ⟨a1, rfl⟩ : ∃ z_, z_ = p1 := ⟨_, rfl⟩
 rw [slices_IndexFunc_plan_some_1] at h
 obtain ⟨a2 | ⟨a3, a4, a5, a6⟩, h1, h⟩ := sm h
 ·cases h
  exact run_path Tryz.func75 (ob_v (len_ts GStep.ts_map (l := a1)) (ob_k (lk (sub [1, 0, 1, 0] (bodyOf Tryz.f75)) (by kernel_rfl) (slices_IndexFunc_plan_some_1_l1.okL ht n n _ _ _ _ h1)) ob)) (by kernel_rfl)
 ·cases h
  exact run_path Tryz.func75 (ob_v (len_ts GStep.ts_map (l := a1)) (ob_k (lk (sub [1, 0, 1, 0] (bodyOf Tryz.f75)) (by kernel_rfl) (slices_IndexFunc_plan_some_1_l1.okL ht n n _ _ _ _ h1)) ob)) (by kernel_rfl)
theorem plan_right_1.ok {n : Nat} {t : Tab} (ht : TabOk t (run Tryz.prog own kp X n)) : ∀ (p1 : GStep) (p2 : Int) r, plan_right_1 t n p1 p2 = some r → run Tryz.prog own kp X (n + 1) 52 [(.t (GStep.t p1)), (.ref (.v (.int .i64 p2)))] [] = some ((Bo r), []) := by
 intro p1 p2 r h
 obtain ⟨a1, a2, a3, ⟨a4, a5, a6, a7, a8⟩, ⟨a9, a10, a11⟩, a12, a13, a14⟩ := p1
 obtain ⟨a15, rfl⟩ : ∃ z_, z_ = p2 := ⟨_, rfl⟩
 rw [plan_right_1] at h
 obtain ⟨a16, h1, h⟩ := sm h
 cases h
 exact run_path Tryz.func52 (ob_c (ht.plan_step _ _ _ h1) ob) (by kernel_rfl)
theorem ref02_fields_j2.ok (ht : TabOk t call) (n : Nat) (a1 : Int) (a2 : Bool) (a3 a4 : Int) (a5 : ByteArray) (a6 a7 : List GValue) (r : _) (h : ref02_fields_j2 t n a1 a2 a3 a4 a5 a6 a7 = some r) : exec (env Tryz.prog 107 Tryz.f107 call) n (sub [1, 0, 1, 0, 1, 1, 1, 1, 1, 1, 1, 1, 1] (bodyOf Tryz.f107)) (mkSt 143 143 [(1, (.ptr 1 0 [] 0)), (4, (I6 a1)), (95, (Bo a2))] [(1, (.t (.st [(.v (.int .i64 a3)), (.v (.int .i64 a4)), (.v (.string a5)), (.sl false 5 (GValue.ts a6)), (.sl false 5 (GValue.ts a7))])))]) = some (ref02_fields_j2.to r) := by
 rw [ref02_fields_j2] at h
 rcases fk h with ⟨h1, h⟩ | ⟨h1, h⟩
 ·rcases fk h with ⟨h2, h⟩ | ⟨h2, h⟩
  ·rcases fk h with ⟨h3, h⟩ | ⟨h3, h⟩
   ·rcases fk h with ⟨h4, h⟩ | ⟨h4, h⟩
    ·cases h
     exact path (ob_b h1 (ob_b4 h2 (ob_b3 h3 (ob_v (len_ts GValue.ts_map (l := a6)) (ob_b2 h3 (ob_b3 h4 (ob_v (len_ts GValue.ts_map (l := a7)) (ob_b2 h4 ob)))))))) (by kernel_rfl)
    ·cases h
     exact path (ob_b h1 (ob_b4 h2 (ob_b3 h3 (ob_v (len_ts GValue.ts_map (l := a6)) (ob_b2 h3 (ob_b4 h4 (ob_b h4 ob))))))) (by kernel_rfl)
   ·cases h
    exact path (ob_b h1 (ob_b4 h2 (ob_b4 h3 (ob_b h3 (ob_b4 (rfl : false = false) (ob_b (rfl : false = false) ob)))))) (by kernel_rfl)
  ·cases h
   exact path (ob_b h1 (ob_b4 h2 (ob_b4 (rfl : false = false) (ob_b4 (rfl : false = false) (ob_b2 (rfl : false = false) ob))))) (by kernel_rfl)
 ·rcases fk h with ⟨h5, h⟩ | ⟨h5, h⟩
  ·rcases fk h with ⟨h6, h⟩ | ⟨h6, h⟩
   ·rcases fk h with ⟨h7, h⟩ | ⟨h7, h⟩
    ·rcases fk h with ⟨h8, h⟩ | ⟨h8, h⟩
     ·cases h
      exact path (ob_b h1 (ob_b h5 (ob_b4 h6 (ob_b3 h7 (ob_v (len_ts GValue.ts_map (l := a6)) (ob_b2 h7 (ob_b3 h8 (ob_v (len_ts GValue.ts_map (l := a7)) (ob_b3 h8 (ob_v (len_ts GValue.ts_map (l := a6)) (ob_b2 h8 ob))))))))))) (by kernel_rfl)
     ·cases h
      exact path (ob_b h1 (ob_b h5 (ob_b4 h6 (ob_b3 h7 (ob_v (len_ts GValue.ts_map (l := a6)) (ob_b2 h7 (ob_b4 h8 (ob_b4 h8 ob)))))))) (by kernel_rfl)
    ·cases h
     exact path (ob_b h1 (ob_b h5 (ob_b4 h6 (ob_b4 h7 (ob_b h7 (ob_b4 (rfl : false = false) (ob_b4 (rfl : false = false) ob))))))) (by kernel_rfl)
   ·cases h
    exact path (ob_b h1 (ob_b h5 (ob_b4 h6 (ob_b4 (rfl : false = false) (ob_b4 (rfl : false = false) (ob_b4 (rfl : false = false) (ob_b (rfl : false = false) ob))))))) (by kernel_rfl)
  ·cases h
   exact path (ob_b h1 (ob_b h5 ob)) (by kernel_rfl)
theorem ref02_fields_j1.ok (ht : TabOk t call) (n : Nat) (a1 : Int) (a2 : Bool) (a3 a4 : Int) (a5 : ByteArray) (a6 a7 : List GValue) (r : _) (h : ref02_fields_j1 t n a1 a2 a3 a4 a5 a6 a7 = some r) : exec (env Tryz.prog 107 Tryz.f107 call) n (sub [1, 0, 1, 0, 1, 1, 1, 1, 1, 1, 1] (bodyOf Tryz.f107)) (mkSt 143 143 [(1, (.ptr 1 0 [] 0)), (4, (I6 a1)), (72, (Bo a2))] [(1, (.t (.st [(.v (.int .i64 a3)), (.v (.int .i64 a4)), (.v (.string a5)), (.sl false 5 (GValue.ts a6)), (.sl false 5 (GValue.ts a7))])))]) = some (ref02_fields_j1.to r) := by
 rw [ref02_fields_j1] at h
 rcases fk h with ⟨h1, h⟩ | ⟨h1, h⟩
 ·rcases fk h with ⟨h2, h⟩ | ⟨h2, h⟩
  ·rcases fk h with ⟨h3, h⟩ | ⟨h3, h⟩
   ·rcases fk h with ⟨h4, h⟩ | ⟨h4, h⟩
    ·cases h
     exact path (ob_b h1 (ob_b4 h2 (ob_b3 h3 (ob_v (len_ts GValue.ts_map (l := a6)) (ob_b2 h3 (ob_b3 h4 (ob_v (len_ts GValue.ts_map (l := a7)) (ob_b2 h4 ob)))))))) (by kernel_rfl)
    ·cases h
     exact path (ob_b h1 (ob_b4 h2 (ob_b3 h3 (ob_v (len_ts GValue.ts_map (l := a6)) (ob_b2 h3 (ob_b4 h4 (ob_b h4 ob))))))) (by kernel_rfl)
   ·cases h
    exact path (ob_b h1 (ob_b4 h2 (ob_b4 h3 (ob_b h3 (ob_b4 (rfl : false = false) (ob_b (rfl : false = false) ob)))))) (by kernel_rfl)
  ·cases h
   exact path (ob_b h1 (ob_b4 h2 (ob_b4 (rfl : false = false) (ob_b4 (rfl : false = false) (ob_b2 (rfl : false = false) ob))))) (by kernel_rfl)
 ·rcases fk h with ⟨h5, h⟩ | ⟨h5, h⟩
  ·have h6 := h
   rcases r with a8 | _
   ·exact path (ob_b h1 (ob_b h5 (ob_j (ref02_fields_j2.ok ht n _ _ _ _ _ _ _ _ h6) ob))) (by kernel_rfl)
   ·exact path (ob_b h1 (ob_b h5 (ob_j (ref02_fields_j2.ok ht n _ _ _ _ _ _ _ _ h6) ob))) (by kernel_rfl)
  ·have h7 := h
   rcases r with a9 | _
   ·exact path (ob_b h1 (ob_b h5 (ob_j (ref02_fields_j2.ok ht n _ _ _ _ _ _ _ _ h7) ob))) (by kernel_rfl)
   ·exact path (ob_b h1 (ob_b h5 (ob_j (ref02_fields_j2.ok ht n _ _ _ _ _ _ _ _ h7) ob))) (by kernel_rfl)
theorem ref02_fields.ok {n : Nat} {t : Tab} (ht : TabOk t (run Tryz.prog own kp X n)) : ∀ (p1 : GValue) r, ref02_fields t n p1 = some r → run Tryz.prog own kp X (n + 1) 107 [(.t (GValue.t p1))] [] = some ((Bo r), []) := by
 intro p1 r h
 obtain ⟨a1, a2, a3, a4, a5⟩ := p1
 rw [ref02_fields] at h
 rcases fk h with ⟨h1, h⟩ | ⟨h1, h⟩
 ·rcases fk h with ⟨h2, h⟩ | ⟨h2, h⟩
  ·have o9 {os} (x : Obls (env Tryz.prog 107 Tryz.f107 (run Tryz.prog own kp X n)) n os) := ob_b h1 (ob_b4 h2 (ob_b4 (rfl : true = true) x))
   rcases fk h with ⟨h3, h⟩ | ⟨h3, h⟩
   ·rcases fk h with ⟨h4, h⟩ | ⟨h4, h⟩
    ·cases h
     exact run_path Tryz.func107 (o9 (ob_b3 h3 (ob_v (len_ts GValue.ts_map (l := a4)) (ob_b2 h3 (ob_b3 h4 (ob_v (len_ts GValue.ts_map (l := a5)) (ob_b2 h4 ob))))))) (by kernel_rfl)
    ·cases h
     exact run_path Tryz.func107 (o9 (ob_b3 h3 (ob_v (len_ts GValue.ts_map (l := a4)) (ob_b2 h3 (ob_b4 h4 (ob_b h4 ob)))))) (by kernel_rfl)
   ·cases h
    exact run_path Tryz.func107 (o9 (ob_b4 h3 (ob_b h3 (ob_b4 (rfl : false = false) (ob_b (rfl : false = false) ob))))) (by kernel_rfl)
  ·rcases fk h with ⟨h5, h⟩ | ⟨h5, h⟩
   ·have o9 {os} (x : Obls (env Tryz.prog 107 Tryz.f107 (run Tryz.prog own kp X n)) n os) := ob_b h1 (ob_b4 h2 (ob_b4 h5 x))
    rcases fk h with ⟨h6, h⟩ | ⟨h6, h⟩
    ·rcases fk h with ⟨h7, h⟩ | ⟨h7, h⟩
     ·cases h
      exact run_path Tryz.func107 (o9 (ob_b3 h6 (ob_v (len_ts GValue.ts_map (l := a4)) (ob_b2 h6 (ob_b3 h7 (ob_v (len_ts GValue.ts_map (l := a5)) (ob_b2 h7 ob))))))) (by kernel_rfl)
     ·cases h
      exact run_path Tryz.func107 (o9 (ob_b3 h6 (ob_v (len_ts GValue.ts_map (l := a4)) (ob_b2 h6 (ob_b4 h7 (ob_b h7 ob)))))) (by kernel_rfl)
    ·cases h
     exact run_path Tryz.func107 (o9 (ob_b4 h6 (ob_b h6 (ob_b4 (rfl : false = false) (ob_b (rfl : false = false) ob))))) (by kernel_rfl)
   ·cases h
    exact run_path Tryz.func107 (ob_b h1 (ob_b4 h2 (ob_b4 h5 (ob_b4 (rfl : false = false) (ob_b4 (rfl : false = false) (ob_b2 (rfl : false = false) ob)))))) (by kernel_rfl)
 ·rcases fk h with ⟨h8, h⟩ | ⟨h8, h⟩
  ·rcases fk h with ⟨h9, h⟩ | ⟨h9, h⟩
   ·rcases fk h with ⟨h10, h⟩ | ⟨h10, h⟩
    ·cases h
     exact run_path Tryz.func107 (ob_b h1 (ob_b h8 (ob_b3 h9 (ob_v (len_ts GValue.ts_map (l := a4)) (ob_b2 h9 (ob_b3 h10 (ob_v (len_ts GValue.ts_map (l := a5)) (ob_b2 h10 ob)))))))) (by kernel_rfl)
    ·cases h
     exact run_path Tryz.func107 (ob_b h1 (ob_b h8 (ob_b3 h9 (ob_v (len_ts GValue.ts_map (l := a4)) (ob_b2 h9 (ob_b4 h10 (ob_b h10 ob))))))) (by kernel_rfl)
   ·cases h
    exact run_path Tryz.func107 (ob_b h1 (ob_b h8 (ob_b4 h9 (ob_b h9 (ob_b4 (rfl : false = false) (ob_b (rfl : false = false) ob)))))) (by kernel_rfl)
  ·rcases fk h with ⟨h11, h⟩ | ⟨h11, h⟩
   ·rcases fk h with ⟨h12, h⟩ | ⟨h12, h⟩
    ·have o8 {os} (x : Obls (env Tryz.prog 107 Tryz.f107 (run Tryz.prog own kp X n)) n os) := ob_b h1 (ob_b h8 (ob_b h11 (ob_b4 h12 (ob_b h12 x))))
     rcases fk h with ⟨h13, h⟩ | ⟨h13, h⟩
     ·rcases fk h with ⟨h14, h⟩ | ⟨h14, h⟩
      ·cases h
       exact run_path Tryz.func107 (o8 (ob_b3 h13 (ob_v (len_ts GValue.ts_map (l := a4)) (ob_b2 h13 (ob_b3 h14 (ob_v (len_ts GValue.ts_map (l := a5)) (ob_b2 h14 ob))))))) (by kernel_rfl)
      ·cases h
       exact run_path Tryz.func107 (o8 (ob_b3 h13 (ob_v (len_ts GValue.ts_map (l := a4)) (ob_b2 h13 (ob_b4 h14 (ob_b h14 ob)))))) (by kernel_rfl)
     ·cases h
      exact run_path Tryz.func107 (o8 (ob_b4 h13 (ob_b h13 (ob_b4 (rfl : false = false) (ob_b (rfl : false = false) ob))))) (by kernel_rfl)
    ·cases h
     exact run_path Tryz.func107 (ob_b h1 (ob_b h8 (ob_b h11 (ob_b4 h12 (ob_b h12 (ob_b4 (rfl : false = false) (ob_b4 (rfl : false = false) (ob_b2 (rfl : false = false) ob)))))))) (by kernel_rfl)
   ·rcases fk h with ⟨h15, h⟩ | ⟨h15, h⟩
    ·obtain ⟨a6 | _, h16, h⟩ := sm h
     ·cases h
      exact run_path Tryz.func107 (ob_b h1 (ob_b h8 (ob_b h11 (ob_b h15 (ob_j (ref02_fields_j1.ok ht n _ _ _ _ _ _ _ _ h16) ob))))) (by kernel_rfl)
     ·cases h
      exact run_path Tryz.func107 (ob_b h1 (ob_b h8 (ob_b h11 (ob_b h15 (ob_j (ref02_fields_j1.ok ht n _ _ _ _ _ _ _ _ h16) ob))))) (by kernel_rfl)
    ·obtain ⟨a7 | _, h17, h⟩ := sm h
     ·cases h
      exact run_path Tryz.func107 (ob_b h1 (ob_b h8 (ob_b h11 (ob_b h15 (ob_j (ref02_fields_j1.ok ht n _ _ _ _ _ _ _ _ h17) ob))))) (by kernel_rfl)
     ·cases h
      exact run_path Tryz.func107 (ob_b h1 (ob_b h8 (ob_b h11 (ob_b h15 (ob_j (ref02_fields_j1.ok ht n _ _ _ _ _ _ _ _ h17) ob))))) (by kernel_rfl)
theorem ref02_Cmp.ok {n : Nat} {t : Tab} (ht : TabOk t (run Tryz.prog own kp X n)) : ∀ (p1 : GValue) (p2 : GValue) r, ref02_Cmp t n p1 p2 = some r → run Tryz.prog own kp X (n + 1) 108 [(.t (GValue.t p1)), (.t (GValue.t p2))] [] = some ((I6 r), []) := by
 intro p1 p2 r h
 obtain ⟨a1, a2, a3, a4, a5⟩ := p1
 obtain ⟨a6, a7, a8, a9, a10⟩ := p2
 rw [ref02_Cmp] at h
 obtain ⟨a11, rfl⟩ : ∃ z_, z_ = r := ⟨_, rfl⟩
 have h1 := h
 exact run_path Tryz.func108 (ob_c (ht.ref02_compare _ _ _ _ h1) ob) (by kernel_rfl)
theorem ref02_sign.ok {n : Nat} {t : Tab} (ht : TabOk t (run Tryz.prog own kp X n)) : ∀ (p1 : Int) (p2 : Int) r, ref02_sign t n p1 p2 = some r → run Tryz.prog own kp X (n + 1) 97 [(I6 p1), (I6 p2)] [] = some ((I6 r), []) := by
 intro p1 p2 r h
 obtain ⟨a1, rfl⟩ : ∃ z_, z_ = p1 := ⟨_, rfl⟩
 obtain ⟨a2, rfl⟩ : ∃ z_, z_ = p2 := ⟨_, rfl⟩
 rw [ref02_sign] at h
 rcases fk h with ⟨h1, h⟩ | ⟨h1, h⟩
 ·cases h
  exact run_path Tryz.func97 (ob_b h1 ob) (by kernel_rfl)
 ·rcases fk h with ⟨h2, h⟩ | ⟨h2, h⟩
  ·cases h
   exact run_path Tryz.func97 (ob_b h1 (ob_b h2 ob)) (by kernel_rfl)
  ·cases h
   exact run_path Tryz.func97 (ob_b h1 (ob_b h2 ob)) (by kernel_rfl)
theorem ref02_texts_j2.ok (ht : TabOk t call) (n : Nat) (a1 a2 : ByteArray) (a3 : Int) (r : _) (h : ref02_texts_j2 t n a1 a2 a3 = some r) : exec (env Tryz.prog 98 Tryz.f98 call) n (sub [1, 0, 1, 0, 0, 1] (bodyOf Tryz.f98)) (mkSt 39 39 [(0, (Sr a1)), (1, (Sr a2)), (5, (I6 a3))] []) = some (ref02_texts_j2.to r) := by
 rw [ref02_texts_j2] at h
 obtain ⟨a4, h1, h⟩ := sm h
 obtain ⟨a5, h2, h⟩ := sm h
 rcases fk h with ⟨h3, h⟩ | ⟨h3, h⟩
 ·obtain ⟨a6, h4, h⟩ := sm h
  cases h
  exact path (ob_v (at_ok (P := Tryz.prog) (t := 9) (k := .i64) (by kernel_rfl) h1) (ob_v (at_ok (P := Tryz.prog) (t := 9) (k := .i64) (by kernel_rfl) h2) (ob_b h3 (ob_v (at_ok (P := Tryz.prog) (t := 9) (k := .i64) (by kernel_rfl) h1) (ob_v (at_ok (P := Tryz.prog) (t := 9) (k := .i64) (by kernel_rfl) h2) (ob_c (ht.ref02_sign _ _ _ h4) ob)))))) (by kernel_rfl)
 ·cases h
  exact path (ob_v (at_ok (P := Tryz.prog) (t := 9) (k := .i64) (by kernel_rfl) h1) (ob_v (at_ok (P := Tryz.prog) (t := 9) (k := .i64) (by kernel_rfl) h2) (ob_b h3 ob))) (by kernel_rfl)
theorem ref02_texts_l1.okL (ht : TabOk t call) (n : Nat) : ∀ (k : Nat) (a1 a2 : ByteArray) (a3 : Int) (r : _), ref02_texts_l1 t n k a1 a2 a3 = some r → loopN (exec (env Tryz.prog 98 Tryz.f98 call) n (sub [1, 0, 1, 0, 0] (bodyOf Tryz.f98))) k (mkSt 39 39 [(0, (Sr a1)), (1, (Sr a2)), (5, (I6 a3))] []) = some (ref02_texts_l1.to r)
 | 0, a1, a2, a3, r, h => by rw [ref02_texts_l1] at h; cases h
 | k + 1, a1, a2, a3, r, h => by
  rw [ref02_texts_l1] at h
  rcases fk h with ⟨h1, h⟩ | ⟨h1, h⟩
  ·rcases fk h with ⟨h2, h⟩ | ⟨h2, h⟩
   ·obtain ⟨a4 | ⟨a5, a6, a7⟩, h3, h⟩ := sm h
    ·cases h
     exact loop_out (path (ob_b4 h1 (ob_b h1 (ob_b h2 (ob_j (ref02_texts_j2.ok ht n _ _ _ _ h3) ob)))) (by kernel_rfl)) (fun h => by cases h)
    ·exact loop_more (path (ob_b4 h1 (ob_b h1 (ob_b h2 (ob_j (ref02_texts_j2.ok ht n _ _ _ _ h3) ob)))) (by kernel_rfl)) (ref02_texts_l1.okL ht n k _ _ _ _ h)
   ·cases h
    exact loop_out (path (ob_b4 h1 (ob_b h1 (ob_b h2 ob))) (by kernel_rfl)) (fun h => by cases h)
  ·cases h
   exact loop_out (path (ob_b4 h1 (ob_b h1 (ob_b (rfl : false = false) ob))) (by kernel_rfl)) (fun h => by cases h)
theorem ref02_texts_j3.ok (ht : TabOk t call) (n : Nat) (a1 a2 : ByteArray) (r : _) (h : ref02_texts_j3 t n a1 a2 = some r) : exec (env Tryz.prog 98 Tryz.f98 call) n (sub [1, 1] (bodyOf Tryz.f98)) (mkSt 39 39 [(0, (Sr a1)), (1, (Sr a2))] []) = some (ref02_texts_j3.to r) := by
 rw [ref02_texts_j3] at h
 obtain ⟨a3, rfl⟩ : ∃ z_, z_ = r := ⟨_, rfl⟩
 have h1 := h
 exact path (ob_c (ht.ref02_sign _ _ _ h1) ob) (by kernel_rfl)
theorem ref02_texts.ok {n : Nat} {t : Tab} (ht : TabOk t (run Tryz.prog own kp X n)) : ∀ (p1 : ByteArray) (p2 : ByteArray) r, ref02_texts t n p1 p2 = some r → run Tryz.prog own kp X (n + 1) 98 [(Sr p1), (Sr p2)] [] = some ((I6 r), []) := by
 intro p1 p2 r h
 obtain ⟨a1, rfl⟩ : ∃ z_, z_ = p1 := ⟨_, rfl⟩
 obtain ⟨a2, rfl⟩ : ∃ z_, z_ = p2 := ⟨_, rfl⟩
 rw [ref02_texts] at h
 obtain ⟨a3 | ⟨a4, a5, a6, a7⟩, h1, h⟩ := sm h
 ·cases h
  exact run_path Tryz.func98 (ob_k (lk (sub [1, 0, 1, 0] (bodyOf Tryz.f98)) (by kernel_rfl) (ref02_texts_l1.okL ht n n _ _ _ _ h1)) ob) (by kernel_rfl)
 ·obtain ⟨a8, rfl⟩ : ∃ z_, z_ = r := ⟨_, rfl⟩
  have h2 := h
  exact run_path Tryz.func98 (ob_k (lk (sub [1, 0, 1, 0] (bodyOf Tryz.f98)) (by kernel_rfl) (ref02_texts_l1.okL ht n n _ _ _ _ h1)) (ob_j (ref02_texts_j3.ok ht n _ _ _ h2) ob)) (by kernel_rfl)
theorem ref02_rows_j2.ok (ht : TabOk t call) (n : Nat) (a1 a2 : List GValue) (a3 a4 : Int) (r : _) (h : ref02_rows_j2 t n a1 a2 a3 a4 = some r) : exec (env Tryz.prog 99 Tryz.f99 call) n (sub [1, 0, 1, 0, 0, 1] (bodyOf Tryz.f99)) (mkSt 39 39 [(0, (Sl 5 (GValue.ts a1))), (1, (Sl 5 (GValue.ts a2))), (2, (I6 a3)), (7, (I6 a4))] []) = some (ref02_rows_j2.to r) := by
 rw [ref02_rows_j2] at h
 obtain ⟨h1, h⟩ := ck h
 obtain ⟨⟨a5, a6, a7, a8, a9⟩, h2, h⟩ := sm h
 obtain ⟨⟨a10, a11, a12, a13, a14⟩, h3, h⟩ := sm h
 obtain ⟨a15, h4, h⟩ := sm h
 rcases fk h with ⟨h5, h⟩ | ⟨h5, h⟩
 ·cases h
  exact path (ob_n h1 (ob_t (look_ts GValue.ts_map h2) (ob_n h1 (ob_t (look_ts GValue.ts_map h3) (ob_c (ht.ref02_compare _ _ _ _ h4) (ob_b h5 ob)))))) (by kernel_rfl)
 ·cases h
  exact path (ob_n h1 (ob_t (look_ts GValue.ts_map h2) (ob_n h1 (ob_t (look_ts GValue.ts_map h3) (ob_c (ht.ref02_compare _ _ _ _ h4) (ob_b h5 ob)))))) (by kernel_rfl)
theorem ref02_rows_l1.okL (ht : TabOk t call) (n : Nat) : ∀ (k : Nat) (a1 a2 : List GValue) (a3 a4 : Int) (r : _), ref02_rows_l1 t n k a1 a2 a3 a4 = some r → loopN (exec (env Tryz.prog 99 Tryz.f99 call) n (sub [1, 0, 1, 0, 0] (bodyOf Tryz.f99))) k (mkSt 39 39 [(0, (Sl 5 (GValue.ts a1))), (1, (Sl 5 (GValue.ts a2))), (2, (I6 a3)), (7, (I6 a4))] []) = some (ref02_rows_l1.to r)
 | 0, a1, a2, a3, a4, r, h => by rw [ref02_rows_l1] at h; cases h
 | k + 1, a1, a2, a3, a4, r, h => by
  rw [ref02_rows_l1] at h
  rcases fk h with ⟨h1, h⟩ | ⟨h1, h⟩
  ·have o7 {os} (x : Obls (env Tryz.prog 99 Tryz.f99 call) n os) := ob_v (len_ts GValue.ts_map (l := a1)) (ob_b3 h1 (ob_v (len_ts GValue.ts_map (l := a2)) (ob_b2 h1 x)))
   rcases fk h with ⟨h2, h⟩ | ⟨h2, h⟩
   ·obtain ⟨a5 | ⟨a6, a7, a8, a9⟩, h3, h⟩ := sm h
    ·cases h
     exact loop_out (path (o7 (ob_b h2 (ob_j (ref02_rows_j2.ok ht n _ _ _ _ _ h3) ob))) (by kernel_rfl)) (fun h => by cases h)
    ·exact loop_more (path (o7 (ob_b h2 (ob_j (ref02_rows_j2.ok ht n _ _ _ _ _ h3) ob))) (by kernel_rfl)) (ref02_rows_l1.okL ht n k _ _ _ _ _ h)
   ·cases h
    exact loop_out (path (o7 (ob_b h2 ob)) (by kernel_rfl)) (fun h => by cases h)
  ·cases h
   exact loop_out (path (ob_v (len_ts GValue.ts_map (l := a1)) (ob_b4 h1 (ob_b h1 (ob_b (rfl : false = false) ob)))) (by kernel_rfl)) (fun h => by cases h)
theorem ref02_rows_j3.ok (ht : TabOk t call) (n : Nat) (a1 a2 : List GValue) (r : _) (h : ref02_rows_j3 t n a1 a2 = some r) : exec (env Tryz.prog 99 Tryz.f99 call) n (sub [1, 1] (bodyOf Tryz.f99)) (mkSt 39 39 [(0, (Sl 5 (GValue.ts a1))), (1, (Sl 5 (GValue.ts a2)))] []) = some (ref02_rows_j3.to r) := by
 rw [ref02_rows_j3] at h
 obtain ⟨a3, rfl⟩ : ∃ z_, z_ = r := ⟨_, rfl⟩
 have h1 := h
 exact path (ob_v (len_ts GValue.ts_map (l := a1)) (ob_v (len_ts GValue.ts_map (l := a2)) (ob_c (ht.ref02_sign _ _ _ h1) ob))) (by kernel_rfl)
theorem ref02_rows.ok {n : Nat} {t : Tab} (ht : TabOk t (run Tryz.prog own kp X n)) : ∀ (p1 : List GValue) (p2 : List GValue) (p3 : Int) r, ref02_rows t n p1 p2 p3 = some r → run Tryz.prog own kp X (n + 1) 99 [(Sl 5 (GValue.ts p1)), (Sl 5 (GValue.ts p2)), (I6 p3)] [] = some ((I6 r), []) := by
 intro p1 p2 p3 r h
 obtain ⟨a1, rfl⟩ : ∃ z_, z_ = p1 := ⟨_, rfl⟩
 obtain ⟨a2, rfl⟩ : ∃ z_, z_ = p2 := ⟨_, rfl⟩
 obtain ⟨a3, rfl⟩ : ∃ z_, z_ = p3 := ⟨_, rfl⟩
 rw [ref02_rows] at h
 obtain ⟨a4 | ⟨a5, a6, a7, a8, a9⟩, h1, h⟩ := sm h
 ·cases h
  exact run_path Tryz.func99 (ob_k (lk (sub [1, 0, 1, 0] (bodyOf Tryz.f99)) (by kernel_rfl) (ref02_rows_l1.okL ht n n _ _ _ _ _ h1)) ob) (by kernel_rfl)
 ·obtain ⟨a10, rfl⟩ : ∃ z_, z_ = r := ⟨_, rfl⟩
  have h2 := h
  exact run_path Tryz.func99 (ob_k (lk (sub [1, 0, 1, 0] (bodyOf Tryz.f99)) (by kernel_rfl) (ref02_rows_l1.okL ht n n _ _ _ _ _ h1)) (ob_j (ref02_rows_j3.ok ht n _ _ _ h2) ob)) (by kernel_rfl)
theorem slices_IndexFunc_plan_some_1_i2_l1.okL (ht : TabOk t call) (n : Nat) : ∀ (k : Nat) (a1 : List GStep) (a2 : List Int) (a3 a4 : Int) (r : _), slices_IndexFunc_plan_some_1_i2_l1 t n k a1 a2 a3 a4 = some r → loopN (exec (env Tryz.prog 75 Tryz.f75 call) n (sub [1, 0, 1, 0, 0] (bodyOf Tryz.f75))) k (mkSt 19 19 [(0, (Sl 14 (GStep.ts a1))), (1, (.fn 60 [(.fref 49 [(.ref (.sl false 1 (ints_i64 a2)))])])), (7, (I6 a3)), (8, (I6 a4))] []) = some (slices_IndexFunc_plan_some_1_i2_l1.to r)
 | 0, a1, a2, a3, a4, r, h => by rw [slices_IndexFunc_plan_some_1_i2_l1] at h; cases h
 | k + 1, a1, a2, a3, a4, r, h => by
  rw [slices_IndexFunc_plan_some_1_i2_l1] at h
  rcases fk h with ⟨h1, h⟩ | ⟨h1, h⟩
  ·obtain ⟨h2, h⟩ := ck h
   obtain ⟨⟨a5, a6, a7, ⟨a8, a9, a10, a11, a12⟩, ⟨a13, a14, a15⟩, a16, a17, a18⟩, h3, h⟩ := sm h
   obtain ⟨a19, h4, h⟩ := sm h
   rcases fk h with ⟨h5, h⟩ | ⟨h5, h⟩
   ·cases h
    exact loop_out (path (ob_b h1 (ob_n h2 (ob_t (look_ts GStep.ts_map h3) (ob_c (ht.plan_some_1_plan_Uses_1 _ _ _ h4) (ob_b h5 ob))))) (by kernel_rfl)) (fun h => by cases h)
   ·exact loop_more (path (ob_b h1 (ob_n h2 (ob_t (look_ts GStep.ts_map h3) (ob_c (ht.plan_some_1_plan_Uses_1 _ _ _ h4) (ob_b h5 ob))))) (by kernel_rfl)) (slices_IndexFunc_plan_some_1_i2_l1.okL ht n k _ _ _ _ _ h)
  ·cases h
   exact loop_out (path (ob_b h1 ob) (by kernel_rfl)) (fun h => by cases h)
theorem slices_IndexFunc_plan_some_1_i2.ok {n : Nat} {t : Tab} (ht : TabOk t (run Tryz.prog own kp X n)) : ∀ (p1 : List GStep) (p2 : List Int) r, slices_IndexFunc_plan_some_1_i2 t n p1 p2 = some r → run Tryz.prog own kp X (n + 1) 75 [(Sl 14 (GStep.ts p1)), (.fn 60 [(.fref 49 [(.ref (.sl false 1 (ints_i64 p2)))])])] [] = some ((I6 r), []) := by
 intro p1 p2 r h
 obtain ⟨a1, rfl⟩ : ∃ z_, z_ = p1 := ⟨_, rfl⟩
 obtain ⟨a2, rfl⟩ : ∃ z_, z_ = p2 := ⟨_, rfl⟩
 rw [slices_IndexFunc_plan_some_1_i2] at h
 obtain ⟨a3 | ⟨a4, a5, a6, a7, a8⟩, h1, h⟩ := sm h
 ·cases h
  exact run_path Tryz.func75 (ob_v (len_ts GStep.ts_map (l := a1)) (ob_k (lk (sub [1, 0, 1, 0] (bodyOf Tryz.f75)) (by kernel_rfl) (slices_IndexFunc_plan_some_1_i2_l1.okL ht n n _ _ _ _ _ h1)) ob)) (by kernel_rfl)
 ·cases h
  exact run_path Tryz.func75 (ob_v (len_ts GStep.ts_map (l := a1)) (ob_k (lk (sub [1, 0, 1, 0] (bodyOf Tryz.f75)) (by kernel_rfl) (slices_IndexFunc_plan_some_1_i2_l1.okL ht n n _ _ _ _ _ h1)) ob)) (by kernel_rfl)
theorem plan_some_1_plan_Free_1.ok {n : Nat} {t : Tab} (ht : TabOk t (run Tryz.prog own kp X n)) : ∀ (p1 : GStep) r, plan_some_1_plan_Free_1 t n p1 = some r → run Tryz.prog own kp X (n + 1) 60 [(.t (GStep.t p1)), (.fref 29 [])] [] = some ((Bo r), []) := by
 intro p1 r h
 obtain ⟨a1, a2, a3, ⟨a4, a5, a6, a7, a8⟩, ⟨a9, a10, a11⟩, a12, a13, a14⟩ := p1
 rw [plan_some_1_plan_Free_1] at h
 obtain ⟨a15, h1, h⟩ := sm h
 rcases fk h with ⟨h2, h⟩ | ⟨h2, h⟩
 ·cases h
  exact run_path Tryz.func60 (ob_c (ht.plan_Free_1 _ _ h1) (ob_b4 h2 (ob_b h2 ob))) (by kernel_rfl)
 ·obtain ⟨a16, h3, h⟩ := sm h
  obtain ⟨a17, rfl⟩ : ∃ z_, z_ = r := ⟨_, rfl⟩
  have h4 := h
  exact run_path Tryz.func60 (ob_c (ht.plan_Free_1 _ _ h1) (ob_b2 h2 (ob_c (ht.plan_inner _ _ h3) (ob_b2 h2 (ob_c (ht.slices_ContainsFunc_plan_some_1_1 _ _ h4) (ob_b h2 ob)))))) (by kernel_rfl)
theorem plan_step_j4.ok (ht : TabOk t call) (n : Nat) (a1 : Int) (a2 : Bool) (a3 : Int) (a4 : List ByteArray) (a5 : List Int) (a6 a7 : Int) (a8 : ByteArray) (a9 a10 : List GValue) (a11 : Int) (a12 : List GValue) (a13 : List GPred) (a14 : List (List GStep)) (a15 : List GBy) (a16 : List ByteArray) (r : _) (h : plan_step_j4 t n a1 a2 a3 a4 a5 a6 a7 a8 a9 a10 a11 a12 a13 a14 a15 a16 = some r) : exec (env Tryz.prog 53 Tryz.f53 call) n (sub [1, 1, 1, 1, 0, 0, 1, 1, 1, 1, 1, 1, 1] (bodyOf Tryz.f53)) (mkSt 163 163 [(1, (I6 a1)), (2, (.ptr 2 0 [] 0)), (97, (Bo a2))] [(2, (.t (.st [(.v (.int .i64 a3)), (.sl false 1 (texts a4)), (.sl false 1 (ints_i64 a5)), (.st [(.v (.int .i64 a6)), (.v (.int .i64 a7)), (.v (.string a8)), (.sl false 5 (GValue.ts a9)), (.sl false 5 (GValue.ts a10))]), (.st [(.v (.int .i64 a11)), (.sl false 5 (GValue.ts a12)), (.sl false 3 (GPred.ts a13))]), (.sl false 1 (rows_GStep_ts a14)), (.sl false 4 (GBy.ts a15)), (.sl false 1 (texts a16))])))]) = some (plan_step_j4.to r) := by
 rw [plan_step_j4] at h
 rcases fk h with ⟨h1, h⟩ | ⟨h1, h⟩
 ·cases h
  exact path (ob_b h1 ob) (by kernel_rfl)
 ·rcases fk h with ⟨h2, h⟩ | ⟨h2, h⟩
  ·obtain ⟨a17, h3, h⟩ := sm h
   have o6 {os} (x : Obls (env Tryz.prog 53 Tryz.f53 call) n os) := ob_b h1 (ob_b3 h2 (ob_c (ht.plan_twice _ _ h3) (ob_b h2 x)))
   rcases fk h with ⟨h4, h⟩ | ⟨h4, h⟩
   ·cases h
    exact path (o6 (ob_b4 h4 (ob_b3 h4 (ob_b h2 (ob_b h4 (ob_b h2 (ob_b (rfl : true = true) ob))))))) (by kernel_rfl)
   ·have o18 {os} (x : Obls (env Tryz.prog 53 Tryz.f53 call) n os) := o6 (ob_b3 h4 (ob_v (len_ts GBy.ts_map (l := a15)) (ob_b3 h4 (ob_v (len_ts texts_map (l := a4)) (ob_b h4 (ob_b h2 (ob_b h4 (ob_b h2 x))))))))
    rcases fk h with ⟨h5, h⟩ | ⟨h5, h⟩
    ·cases h
     exact path (o18 (ob_b h5 ob)) (by kernel_rfl)
    ·cases h
     exact path (o18 (ob_b h5 ob)) (by kernel_rfl)
  ·cases h
   exact path (ob_b h1 (ob_b4 h2 (ob_b2 h2 (ob_b (rfl : false = false) ob)))) (by kernel_rfl)
theorem plan_step_j3.ok (ht : TabOk t call) (n : Nat) (a1 : Int) (a2 : Bool) (a3 : Int) (a4 : List ByteArray) (a5 : List Int) (a6 a7 : Int) (a8 : ByteArray) (a9 a10 : List GValue) (a11 : Int) (a12 : List GValue) (a13 : List GPred) (a14 : List (List GStep)) (a15 : List GBy) (a16 : List ByteArray) (a17 a18 a19 a20 a21 a22 a23 a24 : Int) (a25 a26 : Bool) (r : _) (h : plan_step_j3 t n a1 a2 a3 a4 a5 a6 a7 a8 a9 a10 a11 a12 a13 a14 a15 a16 a17 a18 a19 a20 a21 a22 a23 a24 a25 a26 = some r) : exec (env Tryz.prog 53 Tryz.f53 call) n (sub [1, 1, 1, 1, 0, 0, 1, 1, 1, 1, 1] (bodyOf Tryz.f53)) (mkSt 163 163 [(1, (I6 a1)), (2, (.ptr 2 0 [] 0)), (5, (.ptr 5 0 [] 0)), (76, (Bo a2))] [(2, (.t (.st [(.v (.int .i64 a3)), (.sl false 1 (texts a4)), (.sl false 1 (ints_i64 a5)), (.st [(.v (.int .i64 a6)), (.v (.int .i64 a7)), (.v (.string a8)), (.sl false 5 (GValue.ts a9)), (.sl false 5 (GValue.ts a10))]), (.st [(.v (.int .i64 a11)), (.sl false 5 (GValue.ts a12)), (.sl false 3 (GPred.ts a13))]), (.sl false 1 (rows_GStep_ts a14)), (.sl false 4 (GBy.ts a15)), (.sl false 1 (texts a16))]))), (5, (.t (.st [(.st [(.v (.int .i64 a17)), (.v (.int .i64 a18))]), (.st [(.v (.int .i64 a19)), (.v (.int .i64 a20))]), (.st [(.v (.int .i64 a21)), (.v (.int .i64 a22))]), (.st [(.v (.int .i64 a23)), (.v (.int .i64 a24))]), (.v (.bool a25)), (.v (.bool a26))])))]) = some (plan_step_j3.to r) := by
 rw [plan_step_j3] at h
 rcases fk h with ⟨h1, h⟩ | ⟨h1, h⟩
 ·cases h
  exact path (ob_b h1 ob) (by kernel_rfl)
 ·rcases fk h with ⟨h2, h⟩ | ⟨h2, h⟩
  ·obtain ⟨a27, h3, h⟩ := sm h
   have o7 {os} (x : Obls (env Tryz.prog 53 Tryz.f53 call) n os) := ob_b h1 (ob_b3 h2 (ob_c (ht.pred_Check _ _ h3) (ob_b2 h2 x)))
   rcases fk h with ⟨h4, h⟩ | ⟨h4, h⟩
   ·have h5 := h
    rcases r with a28 | ⟨a29, a30, a31, a32, a33, a34, a35, a36, a37, a38, a39, a40, a41, a42, a43⟩
    ·exact path (o7 (ob_b4 h4 (ob_b2 h4 (ob_j (plan_step_j4.ok ht n _ _ _ _ _ _ _ _ _ _ _ _ _ _ _ _ _ h5) ob)))) (by kernel_rfl)
    ·exact path (o7 (ob_b4 h4 (ob_b2 h4 (ob_j (plan_step_j4.ok ht n _ _ _ _ _ _ _ _ _ _ _ _ _ _ _ _ _ h5) ob)))) (by kernel_rfl)
   ·have h6 := h
    have o18 {os} (x : Obls (env Tryz.prog 53 Tryz.f53 call) n os) := o7 (ob_b4 h4 (ob_b4 (congrArg (!·) h2) (ob_b h4 (ob_b (congrArg (!·) h2) (ob_b h4 x)))))
    rcases r with a44 | ⟨a45, a46, a47, a48, a49, a50, a51, a52, a53, a54, a55, a56, a57, a58, a59⟩
    ·exact path (o18 (ob_j (plan_step_j4.ok ht n _ _ _ _ _ _ _ _ _ _ _ _ _ _ _ _ _ h6) ob)) (by kernel_rfl)
    ·exact path (o18 (ob_j (plan_step_j4.ok ht n _ _ _ _ _ _ _ _ _ _ _ _ _ _ _ _ _ h6) ob)) (by kernel_rfl)
  ·obtain ⟨a60, h7, h⟩ := sm h
   have h8 := h
   have o18 {os} (x : Obls (env Tryz.prog 53 Tryz.f53 call) n os) := ob_b h1 (ob_b4 h2 (ob_b h2 (ob_b4 (rfl : false = false) (ob_b3 (congrArg (!·) h2) (ob_c (ht.plan_empty _ _ h7) (ob_b (congrArg (!·) h2) (ob_b (rfl : false = false) (ob_b (congrArg (!·) h2) (ob_b (rfl : false = false) x)))))))))
   rcases r with a61 | ⟨a62, a63, a64, a65, a66, a67, a68, a69, a70, a71, a72, a73, a74, a75, a76⟩
   ·exact path (o18 (ob_j (plan_step_j4.ok ht n _ _ _ _ _ _ _ _ _ _ _ _ _ _ _ _ _ h8) ob)) (by kernel_rfl)
   ·exact path (o18 (ob_j (plan_step_j4.ok ht n _ _ _ _ _ _ _ _ _ _ _ _ _ _ _ _ _ h8) ob)) (by kernel_rfl)
theorem plan_step_j2.ok (ht : TabOk t call) (n : Nat) (a1 : Int) (a2 : Bool) (a3 : Int) (a4 : List ByteArray) (a5 : List Int) (a6 a7 : Int) (a8 : ByteArray) (a9 a10 : List GValue) (a11 : Int) (a12 : List GValue) (a13 : List GPred) (a14 : List (List GStep)) (a15 : List GBy) (a16 : List ByteArray) (a17 a18 a19 a20 a21 a22 a23 a24 : Int) (a25 a26 : Bool) (r : _) (h : plan_step_j2 t n a1 a2 a3 a4 a5 a6 a7 a8 a9 a10 a11 a12 a13 a14 a15 a16 a17 a18 a19 a20 a21 a22 a23 a24 a25 a26 = some r) : exec (env Tryz.prog 53 Tryz.f53 call) n (sub [1, 1, 1, 1, 0, 0, 1, 1, 1] (bodyOf Tryz.f53)) (mkSt 163 163 [(1, (I6 a1)), (2, (.ptr 2 0 [] 0)), (5, (.ptr 5 0 [] 0)), (60, (Bo a2))] [(2, (.t (.st [(.v (.int .i64 a3)), (.sl false 1 (texts a4)), (.sl false 1 (ints_i64 a5)), (.st [(.v (.int .i64 a6)), (.v (.int .i64 a7)), (.v (.string a8)), (.sl false 5 (GValue.ts a9)), (.sl false 5 (GValue.ts a10))]), (.st [(.v (.int .i64 a11)), (.sl false 5 (GValue.ts a12)), (.sl false 3 (GPred.ts a13))]), (.sl false 1 (rows_GStep_ts a14)), (.sl false 4 (GBy.ts a15)), (.sl false 1 (texts a16))]))), (5, (.t (.st [(.st [(.v (.int .i64 a17)), (.v (.int .i64 a18))]), (.st [(.v (.int .i64 a19)), (.v (.int .i64 a20))]), (.st [(.v (.int .i64 a21)), (.v (.int .i64 a22))]), (.st [(.v (.int .i64 a23)), (.v (.int .i64 a24))]), (.v (.bool a25)), (.v (.bool a26))])))]) = some (plan_step_j2.to r) := by
 rw [plan_step_j2] at h
 rcases fk h with ⟨h1, h⟩ | ⟨h1, h⟩
 ·cases h
  exact path (ob_b h1 ob) (by kernel_rfl)
 ·rcases fk h with ⟨h2, h⟩ | ⟨h2, h⟩
  ·obtain ⟨a27, h3, h⟩ := sm h
   have o7 {os} (x : Obls (env Tryz.prog 53 Tryz.f53 call) n os) := ob_b h1 (ob_b3 h2 (ob_c (ht.value_Check _ _ h3) (ob_b2 h2 x)))
   rcases fk h with ⟨h4, h⟩ | ⟨h4, h⟩
   ·have h5 := h
    rcases r with a28 | ⟨a29, a30, a31, a32, a33, a34, a35, a36, a37, a38, a39, a40, a41, a42, a43⟩
    ·exact path (o7 (ob_b4 h4 (ob_b2 h4 (ob_j (plan_step_j3.ok ht n _ _ _ _ _ _ _ _ _ _ _ _ _ _ _ _ _ _ _ _ _ _ _ _ _ _ _ h5) ob)))) (by kernel_rfl)
    ·exact path (o7 (ob_b4 h4 (ob_b2 h4 (ob_j (plan_step_j3.ok ht n _ _ _ _ _ _ _ _ _ _ _ _ _ _ _ _ _ _ _ _ _ _ _ _ _ _ _ h5) ob)))) (by kernel_rfl)
   ·have h6 := h
    have o19 {os} (x : Obls (env Tryz.prog 53 Tryz.f53 call) n os) := o7 (ob_b4 h4 (ob_b4 (congrArg (!·) h2) (ob_b (congrArg (!·) h2) (ob_b h4 (ob_b (congrArg (!·) h2) (ob_b h4 x))))))
    rcases r with a44 | ⟨a45, a46, a47, a48, a49, a50, a51, a52, a53, a54, a55, a56, a57, a58, a59⟩
    ·exact path (o19 (ob_j (plan_step_j3.ok ht n _ _ _ _ _ _ _ _ _ _ _ _ _ _ _ _ _ _ _ _ _ _ _ _ _ _ _ h6) ob)) (by kernel_rfl)
    ·exact path (o19 (ob_j (plan_step_j3.ok ht n _ _ _ _ _ _ _ _ _ _ _ _ _ _ _ _ _ _ _ _ _ _ _ _ _ _ _ h6) ob)) (by kernel_rfl)
  ·obtain ⟨a60, h7, h⟩ := sm h
   have h8 := h
   have o19 {os} (x : Obls (env Tryz.prog 53 Tryz.f53 call) n os) := ob_b h1 (ob_b4 h2 (ob_b h2 (ob_b4 (rfl : false = false) (ob_b4 (congrArg (!·) h2) (ob_c (ht.value_Same _ _ _ h7) (ob_b (congrArg (!·) h2) (ob_b (rfl : false = false) (ob_b (congrArg (!·) h2) (ob_b (rfl : false = false) x)))))))))
   rcases r with a61 | ⟨a62, a63, a64, a65, a66, a67, a68, a69, a70, a71, a72, a73, a74, a75, a76⟩
   ·exact path (o19 (ob_j (plan_step_j3.ok ht n _ _ _ _ _ _ _ _ _ _ _ _ _ _ _ _ _ _ _ _ _ _ _ _ _ _ _ h8) ob)) (by kernel_rfl)
   ·exact path (o19 (ob_j (plan_step_j3.ok ht n _ _ _ _ _ _ _ _ _ _ _ _ _ _ _ _ _ _ _ _ _ _ _ _ _ _ _ h8) ob)) (by kernel_rfl)
theorem plan_step_j1.ok (ht : TabOk t call) (n : Nat) (a1 : Int) (a2 : Bool) (a3 : Int) (a4 : List ByteArray) (a5 : List Int) (a6 a7 : Int) (a8 : ByteArray) (a9 a10 : List GValue) (a11 : Int) (a12 : List GValue) (a13 : List GPred) (a14 : List (List GStep)) (a15 : List GBy) (a16 : List ByteArray) (a17 a18 a19 a20 a21 a22 a23 a24 : Int) (a25 a26 : Bool) (r : _) (h : plan_step_j1 t n a1 a2 a3 a4 a5 a6 a7 a8 a9 a10 a11 a12 a13 a14 a15 a16 a17 a18 a19 a20 a21 a22 a23 a24 a25 a26 = some r) : exec (env Tryz.prog 53 Tryz.f53 call) n (sub [1, 1, 1, 1, 0, 0, 1] (bodyOf Tryz.f53)) (mkSt 163 163 [(1, (I6 a1)), (2, (.ptr 2 0 [] 0)), (5, (.ptr 5 0 [] 0)), (6, (.fn 77 [])), (19, (Bo a2))] [(2, (.t (.st [(.v (.int .i64 a3)), (.sl false 1 (texts a4)), (.sl false 1 (ints_i64 a5)), (.st [(.v (.int .i64 a6)), (.v (.int .i64 a7)), (.v (.string a8)), (.sl false 5 (GValue.ts a9)), (.sl false 5 (GValue.ts a10))]), (.st [(.v (.int .i64 a11)), (.sl false 5 (GValue.ts a12)), (.sl false 3 (GPred.ts a13))]), (.sl false 1 (rows_GStep_ts a14)), (.sl false 4 (GBy.ts a15)), (.sl false 1 (texts a16))]))), (5, (.t (.st [(.st [(.v (.int .i64 a17)), (.v (.int .i64 a18))]), (.st [(.v (.int .i64 a19)), (.v (.int .i64 a20))]), (.st [(.v (.int .i64 a21)), (.v (.int .i64 a22))]), (.st [(.v (.int .i64 a23)), (.v (.int .i64 a24))]), (.v (.bool a25)), (.v (.bool a26))])))]) = some (plan_step_j1.to r) := by
 rw [plan_step_j1] at h
 rcases fk h with ⟨h1, h⟩ | ⟨h1, h⟩
 ·cases h
  exact path (ob_b h1 ob) (by kernel_rfl)
 ·obtain ⟨a27, h2, h⟩ := sm h
  have o2 {os} (x : Obls (env Tryz.prog 53 Tryz.f53 call) n os) := ob_b h1 (ob_c (ht.slices_ContainsFunc_plan_step_1 _ _ h2) x)
  rcases fk h with ⟨h3, h⟩ | ⟨h3, h⟩
  ·have h4 := h
   rcases r with a28 | ⟨a29, a30, a31, a32, a33, a34, a35, a36, a37, a38, a39, a40, a41, a42, a43⟩
   ·exact path (o2 (ob_b4 h3 (ob_b h3 (ob_b4 (rfl : true = true) (ob_j (plan_step_j2.ok ht n _ _ _ _ _ _ _ _ _ _ _ _ _ _ _ _ _ _ _ _ _ _ _ _ _ _ _ h4) ob))))) (by kernel_rfl)
   ·exact path (o2 (ob_b4 h3 (ob_b h3 (ob_b4 (rfl : true = true) (ob_j (plan_step_j2.ok ht n _ _ _ _ _ _ _ _ _ _ _ _ _ _ _ _ _ _ _ _ _ _ _ _ _ _ _ h4) ob))))) (by kernel_rfl)
  ·obtain ⟨a44, h5, h⟩ := sm h
   have o8 {os} (x : Obls (env Tryz.prog 53 Tryz.f53 call) n os) := o2 (ob_b4 h3 (ob_c (ht.slices_ContainsFunc_plan_step_1 _ _ h5) (ob_b h3 x)))
   rcases fk h with ⟨h6, h⟩ | ⟨h6, h⟩
   ·have h7 := h
    rcases r with a45 | ⟨a46, a47, a48, a49, a50, a51, a52, a53, a54, a55, a56, a57, a58, a59, a60⟩
    ·exact path (o8 (ob_b4 h6 (ob_j (plan_step_j2.ok ht n _ _ _ _ _ _ _ _ _ _ _ _ _ _ _ _ _ _ _ _ _ _ _ _ _ _ _ h7) ob))) (by kernel_rfl)
    ·exact path (o8 (ob_b4 h6 (ob_j (plan_step_j2.ok ht n _ _ _ _ _ _ _ _ _ _ _ _ _ _ _ _ _ _ _ _ _ _ _ _ _ _ _ h7) ob))) (by kernel_rfl)
   ·obtain ⟨a61, h8, h⟩ := sm h
    have h9 := h
    rcases r with a62 | ⟨a63, a64, a65, a66, a67, a68, a69, a70, a71, a72, a73, a74, a75, a76, a77⟩
    ·exact path (o8 (ob_b2 h6 (ob_c (ht.plan_numbers _ _ h8) (ob_b2 h6 (ob_j (plan_step_j2.ok ht n _ _ _ _ _ _ _ _ _ _ _ _ _ _ _ _ _ _ _ _ _ _ _ _ _ _ _ h9) ob))))) (by kernel_rfl)
    ·exact path (o8 (ob_b2 h6 (ob_c (ht.plan_numbers _ _ h8) (ob_b2 h6 (ob_j (plan_step_j2.ok ht n _ _ _ _ _ _ _ _ _ _ _ _ _ _ _ _ _ _ _ _ _ _ _ _ _ _ _ h9) ob))))) (by kernel_rfl)
theorem plan_step_l6.okL (ht : TabOk t call) (n : Nat) : ∀ (k : Nat) (a1 : Int) (a2 : List (List GStep)) (a3 a4 a5 : Int) (a6 : List ByteArray) (a7 : List Int) (a8 a9 : Int) (a10 : ByteArray) (a11 a12 : List GValue) (a13 : Int) (a14 : List GValue) (a15 : List GPred) (a16 : List (List GStep)) (a17 : List GBy) (a18 : List ByteArray) (r : _), plan_step_l6 t n k a1 a2 a3 a4 a5 a6 a7 a8 a9 a10 a11 a12 a13 a14 a15 a16 a17 a18 = some r → loopN (exec (env Tryz.prog 53 Tryz.f53 call) n (sub [1, 1, 1, 1, 1, 0, 1, 0, 0] (bodyOf Tryz.f53))) k (mkSt 163 163 [(1, (I6 a1)), (2, (.ptr 2 0 [] 0)), (136, (Sl 1 (rows_GStep_ts a2))), (137, (I6 a3)), (138, (I6 a4))] [(2, (.t (.st [(.v (.int .i64 a5)), (.sl false 1 (texts a6)), (.sl false 1 (ints_i64 a7)), (.st [(.v (.int .i64 a8)), (.v (.int .i64 a9)), (.v (.string a10)), (.sl false 5 (GValue.ts a11)), (.sl false 5 (GValue.ts a12))]), (.st [(.v (.int .i64 a13)), (.sl false 5 (GValue.ts a14)), (.sl false 3 (GPred.ts a15))]), (.sl false 1 (rows_GStep_ts a16)), (.sl false 4 (GBy.ts a17)), (.sl false 1 (texts a18))])))]) = some (plan_step_l6.to r)
 | 0, a1, a2, a3, a4, a5, a6, a7, a8, a9, a10, a11, a12, a13, a14, a15, a16, a17, a18, r, h => by rw [plan_step_l6] at h; cases h
 | k + 1, a1, a2, a3, a4, a5, a6, a7, a8, a9, a10, a11, a12, a13, a14, a15, a16, a17, a18, r, h => by
  rw [plan_step_l6] at h
  rcases fk h with ⟨h1, h⟩ | ⟨h1, h⟩
  ·obtain ⟨h2, h⟩ := ck h
   obtain ⟨a19, h3, h⟩ := sm h
   obtain ⟨a20, h4, h⟩ := sm h
   rcases fk h with ⟨h5, h⟩ | ⟨h5, h⟩
   ·exact loop_more (path (ob_b h1 (ob_n h2 (ob_t (look_ts rows_GStep_ts_map h3) (ob_c (ht.plan_right _ _ _ h4) (ob_b (congrArg (!·) h5) ob))))) (by kernel_rfl)) (plan_step_l6.okL ht n k _ _ _ _ _ _ _ _ _ _ _ _ _ _ _ _ _ _ _ h)
   ·cases h
    exact loop_out (path (ob_b h1 (ob_n h2 (ob_t (look_ts rows_GStep_ts_map h3) (ob_c (ht.plan_right _ _ _ h4) (ob_b (congrArg (!·) h5) ob))))) (by kernel_rfl)) (fun h => by cases h)
  ·cases h
   exact loop_out (path (ob_b h1 ob) (by kernel_rfl)) (fun h => by cases h)
theorem plan_step_l8.okL (ht : TabOk t call) (n : Nat) : ∀ (k : Nat) (a1 : Int) (a2 : List GBy) (a3 a4 a5 : Int) (a6 : List ByteArray) (a7 : List Int) (a8 a9 : Int) (a10 : ByteArray) (a11 a12 : List GValue) (a13 : Int) (a14 : List GValue) (a15 : List GPred) (a16 : List (List GStep)) (a17 : List GBy) (a18 : List ByteArray) (r : _), plan_step_l8 t n k a1 a2 a3 a4 a5 a6 a7 a8 a9 a10 a11 a12 a13 a14 a15 a16 a17 a18 = some r → loopN (exec (env Tryz.prog 53 Tryz.f53 call) n (sub [1, 1, 1, 1, 1, 1, 0, 1, 0, 0] (bodyOf Tryz.f53))) k (mkSt 163 163 [(1, (I6 a1)), (2, (.ptr 2 0 [] 0)), (149, (Sl 4 (GBy.ts a2))), (150, (I6 a3)), (151, (I6 a4))] [(2, (.t (.st [(.v (.int .i64 a5)), (.sl false 1 (texts a6)), (.sl false 1 (ints_i64 a7)), (.st [(.v (.int .i64 a8)), (.v (.int .i64 a9)), (.v (.string a10)), (.sl false 5 (GValue.ts a11)), (.sl false 5 (GValue.ts a12))]), (.st [(.v (.int .i64 a13)), (.sl false 5 (GValue.ts a14)), (.sl false 3 (GPred.ts a15))]), (.sl false 1 (rows_GStep_ts a16)), (.sl false 4 (GBy.ts a17)), (.sl false 1 (texts a18))])))]) = some (plan_step_l8.to r)
 | 0, a1, a2, a3, a4, a5, a6, a7, a8, a9, a10, a11, a12, a13, a14, a15, a16, a17, a18, r, h => by rw [plan_step_l8] at h; cases h
 | k + 1, a1, a2, a3, a4, a5, a6, a7, a8, a9, a10, a11, a12, a13, a14, a15, a16, a17, a18, r, h => by
  rw [plan_step_l8] at h
  rcases fk h with ⟨h1, h⟩ | ⟨h1, h⟩
  ·obtain ⟨h2, h⟩ := ck h
   obtain ⟨⟨a19, a20, a21, a22⟩, h3, h⟩ := sm h
   obtain ⟨a23, h4, h⟩ := sm h
   rcases fk h with ⟨h5, h⟩ | ⟨h5, h⟩
   ·exact loop_more (path (ob_b h1 (ob_n h2 (ob_t (look_ts GBy.ts_map h3) (ob_c (ht.plan_by _ _ _ _ h4) (ob_b (congrArg (!·) h5) ob))))) (by kernel_rfl)) (plan_step_l8.okL ht n k _ _ _ _ _ _ _ _ _ _ _ _ _ _ _ _ _ _ _ h)
   ·cases h
    exact loop_out (path (ob_b h1 (ob_n h2 (ob_t (look_ts GBy.ts_map h3) (ob_c (ht.plan_by _ _ _ _ h4) (ob_b (congrArg (!·) h5) ob))))) (by kernel_rfl)) (fun h => by cases h)
  ·cases h
   exact loop_out (path (ob_b h1 ob) (by kernel_rfl)) (fun h => by cases h)
theorem plan_step_j7.ok (ht : TabOk t call) (n : Nat) (a1 a2 : Int) (a3 : List ByteArray) (a4 : List Int) (a5 a6 : Int) (a7 : ByteArray) (a8 a9 : List GValue) (a10 : Int) (a11 : List GValue) (a12 : List GPred) (a13 : List (List GStep)) (a14 : List GBy) (a15 : List ByteArray) (r : _) (h : plan_step_j7 t n a1 a2 a3 a4 a5 a6 a7 a8 a9 a10 a11 a12 a13 a14 a15 = some r) : exec (env Tryz.prog 53 Tryz.f53 call) n (sub [1, 1, 1, 1, 1, 1] (bodyOf Tryz.f53)) (mkSt 163 163 [(1, (I6 a1)), (2, (.ptr 2 0 [] 0))] [(2, (.t (.st [(.v (.int .i64 a2)), (.sl false 1 (texts a3)), (.sl false 1 (ints_i64 a4)), (.st [(.v (.int .i64 a5)), (.v (.int .i64 a6)), (.v (.string a7)), (.sl false 5 (GValue.ts a8)), (.sl false 5 (GValue.ts a9))]), (.st [(.v (.int .i64 a10)), (.sl false 5 (GValue.ts a11)), (.sl false 3 (GPred.ts a12))]), (.sl false 1 (rows_GStep_ts a13)), (.sl false 4 (GBy.ts a14)), (.sl false 1 (texts a15))])))]) = some (plan_step_j7.to r) := by
 rw [plan_step_j7] at h
 obtain ⟨a16 | ⟨a17, a18, a19, a20, a21, a22, a23, a24, a25, a26, a27, a28, a29, a30, a31, a32, a33, a34, a35⟩, h1, h⟩ := sm h
 ·cases h
  exact path (ob_v (len_ts GBy.ts_map (l := a14)) (ob_k (lk (sub [1, 1, 1, 1, 1, 1, 0, 1, 0] (bodyOf Tryz.f53)) (by kernel_rfl) (plan_step_l8.okL ht n n _ _ _ _ _ _ _ _ _ _ _ _ _ _ _ _ _ _ _ h1)) ob)) (by kernel_rfl)
 ·cases h
  exact path (ob_v (len_ts GBy.ts_map (l := a14)) (ob_k (lk (sub [1, 1, 1, 1, 1, 1, 0, 1, 0] (bodyOf Tryz.f53)) (by kernel_rfl) (plan_step_l8.okL ht n n _ _ _ _ _ _ _ _ _ _ _ _ _ _ _ _ _ _ _ h1)) ob)) (by kernel_rfl)
theorem plan_step_j5.ok (ht : TabOk t call) (n : Nat) (a1 a2 : Int) (a3 : List ByteArray) (a4 : List Int) (a5 a6 : Int) (a7 : ByteArray) (a8 a9 : List GValue) (a10 : Int) (a11 : List GValue) (a12 : List GPred) (a13 : List (List GStep)) (a14 : List GBy) (a15 : List ByteArray) (r : _) (h : plan_step_j5 t n a1 a2 a3 a4 a5 a6 a7 a8 a9 a10 a11 a12 a13 a14 a15 = some r) : exec (env Tryz.prog 53 Tryz.f53 call) n (sub [1, 1, 1, 1, 1] (bodyOf Tryz.f53)) (mkSt 163 163 [(1, (I6 a1)), (2, (.ptr 2 0 [] 0))] [(2, (.t (.st [(.v (.int .i64 a2)), (.sl false 1 (texts a3)), (.sl false 1 (ints_i64 a4)), (.st [(.v (.int .i64 a5)), (.v (.int .i64 a6)), (.v (.string a7)), (.sl false 5 (GValue.ts a8)), (.sl false 5 (GValue.ts a9))]), (.st [(.v (.int .i64 a10)), (.sl false 5 (GValue.ts a11)), (.sl false 3 (GPred.ts a12))]), (.sl false 1 (rows_GStep_ts a13)), (.sl false 4 (GBy.ts a14)), (.sl false 1 (texts a15))])))]) = some (plan_step_j5.to r) := by
 rw [plan_step_j5] at h
 obtain ⟨a16 | ⟨a17, a18, a19, a20, a21, a22, a23, a24, a25, a26, a27, a28, a29, a30, a31, a32, a33, a34, a35⟩, h1, h⟩ := sm h
 ·cases h
  exact path (ob_v (len_ts rows_GStep_ts_map (l := a13)) (ob_k (lk (sub [1, 1, 1, 1, 1, 0, 1, 0] (bodyOf Tryz.f53)) (by kernel_rfl) (plan_step_l6.okL ht n n _ _ _ _ _ _ _ _ _ _ _ _ _ _ _ _ _ _ _ h1)) ob)) (by kernel_rfl)
 ·obtain ⟨a36, rfl⟩ : ∃ z_, z_ = r := ⟨_, rfl⟩
  have h2 := h
  exact path (ob_v (len_ts rows_GStep_ts_map (l := a13)) (ob_k (lk (sub [1, 1, 1, 1, 1, 0, 1, 0] (bodyOf Tryz.f53)) (by kernel_rfl) (plan_step_l6.okL ht n n _ _ _ _ _ _ _ _ _ _ _ _ _ _ _ _ _ _ _ h1)) (ob_j (plan_step_j7.ok ht n _ _ _ _ _ _ _ _ _ _ _ _ _ _ _ _ h2) ob))) (by kernel_rfl)
theorem plan_step.ok {n : Nat} {t : Tab} (ht : TabOk t (run Tryz.prog own kp X n)) : ∀ (p1 : GStep) (p2 : Int) r, plan_step t n p1 p2 = some r → run Tryz.prog own kp X (n + 1) 53 [(.t (GStep.t p1)), (I6 p2)] [] = some ((Bo r), []) := by
 intro p1 p2 r h
 obtain ⟨a1, a2, a3, ⟨a4, a5, a6, a7, a8⟩, ⟨a9, a10, a11⟩, a12, a13, a14⟩ := p1
 obtain ⟨a15, rfl⟩ : ∃ z_, z_ = p2 := ⟨_, rfl⟩
 rw [plan_step] at h
 obtain ⟨a16, h1, h⟩ := sm h
 rcases fk h with ⟨h2, h⟩ | ⟨h2, h⟩
 ·cases h
  exact run_path Tryz.func53 (ob_c (ht.plan_Name _ _ h1) (ob_b h2 ob)) (by kernel_rfl)
 ·obtain ⟨⟨⟨⟨a17, a18⟩, ⟨a19, a20⟩, ⟨a21, a22⟩, ⟨a23, a24⟩, a25, a26⟩, ⟨⟨a27, a28⟩, ⟨a29, a30⟩, ⟨a31, a32⟩, ⟨a33, a34⟩, a35, a36⟩, ⟨⟨a37, a38⟩, ⟨a39, a40⟩, ⟨a41, a42⟩, ⟨a43, a44⟩, a45, a46⟩, ⟨⟨a47, a48⟩, ⟨a49, a50⟩, ⟨a51, a52⟩, ⟨a53, a54⟩, a55, a56⟩, ⟨⟨a57, a58⟩, ⟨a59, a60⟩, ⟨a61, a62⟩, ⟨a63, a64⟩, a65, a66⟩, ⟨⟨a67, a68⟩, ⟨a69, a70⟩, ⟨a71, a72⟩, ⟨a73, a74⟩, a75, a76⟩, ⟨⟨a77, a78⟩, ⟨a79, a80⟩, ⟨a81, a82⟩, ⟨a83, a84⟩, a85, a86⟩, ⟨⟨a87, a88⟩, ⟨a89, a90⟩, ⟨a91, a92⟩, ⟨a93, a94⟩, a95, a96⟩, ⟨⟨a97, a98⟩, ⟨a99, a100⟩, ⟨a101, a102⟩, ⟨a103, a104⟩, a105, a106⟩, ⟨⟨a107, a108⟩, ⟨a109, a110⟩, ⟨a111, a112⟩, ⟨a113, a114⟩, a115, a116⟩, ⟨⟨a117, a118⟩, ⟨a119, a120⟩, ⟨a121, a122⟩, ⟨a123, a124⟩, a125, a126⟩, ⟨⟨a127, a128⟩, ⟨a129, a130⟩, ⟨a131, a132⟩, ⟨a133, a134⟩, a135, a136⟩, ⟨⟨a137, a138⟩, ⟨a139, a140⟩, ⟨a141, a142⟩, ⟨a143, a144⟩, a145, a146⟩, ⟨⟨a147, a148⟩, ⟨a149, a150⟩, ⟨a151, a152⟩, ⟨a153, a154⟩, a155, a156⟩, ⟨⟨a157, a158⟩, ⟨a159, a160⟩, ⟨a161, a162⟩, ⟨a163, a164⟩, a165, a166⟩, ⟨⟨a167, a168⟩, ⟨a169, a170⟩, ⟨a171, a172⟩, ⟨a173, a174⟩, a175, a176⟩, ⟨⟨a177, a178⟩, ⟨a179, a180⟩, ⟨a181, a182⟩, ⟨a183, a184⟩, a185, a186⟩, ⟨⟨a187, a188⟩, ⟨a189, a190⟩, ⟨a191, a192⟩, ⟨a193, a194⟩, a195, a196⟩, ⟨⟨a197, a198⟩, ⟨a199, a200⟩, ⟨a201, a202⟩, ⟨a203, a204⟩, a205, a206⟩, ⟨⟨a207, a208⟩, ⟨a209, a210⟩, ⟨a211, a212⟩, ⟨a213, a214⟩, a215, a216⟩, ⟨⟨a217, a218⟩, ⟨a219, a220⟩, ⟨a221, a222⟩, ⟨a223, a224⟩, a225, a226⟩, ⟨⟨a227, a228⟩, ⟨a229, a230⟩, ⟨a231, a232⟩, ⟨a233, a234⟩, a235, a236⟩, ⟨⟨a237, a238⟩, ⟨a239, a240⟩, ⟨a241, a242⟩, ⟨a243, a244⟩, a245, a246⟩, ⟨⟨a247, a248⟩, ⟨a249, a250⟩, ⟨a251, a252⟩, ⟨a253, a254⟩, a255, a256⟩, ⟨⟨a257, a258⟩, ⟨a259, a260⟩, ⟨a261, a262⟩, ⟨a263, a264⟩, a265, a266⟩, ⟨⟨a267, a268⟩, ⟨a269, a270⟩, ⟨a271, a272⟩, ⟨a273, a274⟩, a275, a276⟩, ⟨⟨a277, a278⟩, ⟨a279, a280⟩, ⟨a281, a282⟩, ⟨a283, a284⟩, a285, a286⟩, ⟨⟨a287, a288⟩, ⟨a289, a290⟩, ⟨a291, a292⟩, ⟨a293, a294⟩, a295, a296⟩, ⟨⟨a297, a298⟩, ⟨a299, a300⟩, ⟨a301, a302⟩, ⟨a303, a304⟩, a305, a306⟩, ⟨⟨a307, a308⟩, ⟨a309, a310⟩, ⟨a311, a312⟩, ⟨a313, a314⟩, a315, a316⟩, ⟨⟨a317, a318⟩, ⟨a319, a320⟩, ⟨a321, a322⟩, ⟨a323, a324⟩, a325, a326⟩, ⟨⟨a327, a328⟩, ⟨a329, a330⟩, ⟨a331, a332⟩, ⟨a333, a334⟩, a335, a336⟩, ⟨⟨a337, a338⟩, ⟨a339, a340⟩, ⟨a341, a342⟩, ⟨a343, a344⟩, a345, a346⟩, ⟨⟨a347, a348⟩, ⟨a349, a350⟩, ⟨a351, a352⟩, ⟨a353, a354⟩, a355, a356⟩, ⟨⟨a357, a358⟩, ⟨a359, a360⟩, ⟨a361, a362⟩, ⟨a363, a364⟩, a365, a366⟩, ⟨⟨a367, a368⟩, ⟨a369, a370⟩, ⟨a371, a372⟩, ⟨a373, a374⟩, a375, a376⟩, ⟨⟨a377, a378⟩, ⟨a379, a380⟩, ⟨a381, a382⟩, ⟨a383, a384⟩, a385, a386⟩, ⟨⟨a387, a388⟩, ⟨a389, a390⟩, ⟨a391, a392⟩, ⟨a393, a394⟩, a395, a396⟩, ⟨⟨a397, a398⟩, ⟨a399, a400⟩, ⟨a401, a402⟩, ⟨a403, a404⟩, a405, a406⟩, ⟨⟨a407, a408⟩, ⟨a409, a410⟩, ⟨a411, a412⟩, ⟨a413, a414⟩, a415, a416⟩, ⟨⟨a417, a418⟩, ⟨a419, a420⟩, ⟨a421, a422⟩, ⟨a423, a424⟩, a425, a426⟩, ⟨⟨a427, a428⟩, ⟨a429, a430⟩, ⟨a431, a432⟩, ⟨a433, a434⟩, a435, a436⟩, ⟨⟨a437, a438⟩, ⟨a439, a440⟩, ⟨a441, a442⟩, ⟨a443, a444⟩, a445, a446⟩, ⟨⟨a447, a448⟩, ⟨a449, a450⟩, ⟨a451, a452⟩, ⟨a453, a454⟩, a455, a456⟩, ⟨⟨a457, a458⟩, ⟨a459, a460⟩, ⟨a461, a462⟩, ⟨a463, a464⟩, a465, a466⟩, ⟨⟨a467, a468⟩, ⟨a469, a470⟩, ⟨a471, a472⟩, ⟨a473, a474⟩, a475, a476⟩, ⟨⟨a477, a478⟩, ⟨a479, a480⟩, ⟨a481, a482⟩, ⟨a483, a484⟩, a485, a486⟩, ⟨⟨a487, a488⟩, ⟨a489, a490⟩, ⟨a491, a492⟩, ⟨a493, a494⟩, a495, a496⟩, ⟨⟨a497, a498⟩, ⟨a499, a500⟩, ⟨a501, a502⟩, ⟨a503, a504⟩, a505, a506⟩, ⟨⟨a507, a508⟩, ⟨a509, a510⟩, ⟨a511, a512⟩, ⟨a513, a514⟩, a515, a516⟩, ⟨⟨a517, a518⟩, ⟨a519, a520⟩, ⟨a521, a522⟩, ⟨a523, a524⟩, a525, a526⟩, ⟨⟨a527, a528⟩, ⟨a529, a530⟩, ⟨a531, a532⟩, ⟨a533, a534⟩, a535, a536⟩⟩, h3, h⟩ := sm h
  obtain ⟨h4, h⟩ := ck h
  rcases h5 : ([(Gshape.mk (GT86.mk a17 a18) (GT86.mk a19 a20) (GT86.mk a21 a22) (GT86.mk a23 a24) a25 a26), (Gshape.mk (GT86.mk a27 a28) (GT86.mk a29 a30) (GT86.mk a31 a32) (GT86.mk a33 a34) a35 a36), (Gshape.mk (GT86.mk a37 a38) (GT86.mk a39 a40) (GT86.mk a41 a42) (GT86.mk a43 a44) a45 a46), (Gshape.mk (GT86.mk a47 a48) (GT86.mk a49 a50) (GT86.mk a51 a52) (GT86.mk a53 a54) a55 a56), (Gshape.mk (GT86.mk a57 a58) (GT86.mk a59 a60) (GT86.mk a61 a62) (GT86.mk a63 a64) a65 a66), (Gshape.mk (GT86.mk a67 a68) (GT86.mk a69 a70) (GT86.mk a71 a72) (GT86.mk a73 a74) a75 a76), (Gshape.mk (GT86.mk a77 a78) (GT86.mk a79 a80) (GT86.mk a81 a82) (GT86.mk a83 a84) a85 a86), (Gshape.mk (GT86.mk a87 a88) (GT86.mk a89 a90) (GT86.mk a91 a92) (GT86.mk a93 a94) a95 a96), (Gshape.mk (GT86.mk a97 a98) (GT86.mk a99 a100) (GT86.mk a101 a102) (GT86.mk a103 a104) a105 a106), (Gshape.mk (GT86.mk a107 a108) (GT86.mk a109 a110) (GT86.mk a111 a112) (GT86.mk a113 a114) a115 a116), (Gshape.mk (GT86.mk a117 a118) (GT86.mk a119 a120) (GT86.mk a121 a122) (GT86.mk a123 a124) a125 a126), (Gshape.mk (GT86.mk a127 a128) (GT86.mk a129 a130) (GT86.mk a131 a132) (GT86.mk a133 a134) a135 a136), (Gshape.mk (GT86.mk a137 a138) (GT86.mk a139 a140) (GT86.mk a141 a142) (GT86.mk a143 a144) a145 a146), (Gshape.mk (GT86.mk a147 a148) (GT86.mk a149 a150) (GT86.mk a151 a152) (GT86.mk a153 a154) a155 a156), (Gshape.mk (GT86.mk a157 a158) (GT86.mk a159 a160) (GT86.mk a161 a162) (GT86.mk a163 a164) a165 a166), (Gshape.mk (GT86.mk a167 a168) (GT86.mk a169 a170) (GT86.mk a171 a172) (GT86.mk a173 a174) a175 a176), (Gshape.mk (GT86.mk a177 a178) (GT86.mk a179 a180) (GT86.mk a181 a182) (GT86.mk a183 a184) a185 a186), (Gshape.mk (GT86.mk a187 a188) (GT86.mk a189 a190) (GT86.mk a191 a192) (GT86.mk a193 a194) a195 a196), (Gshape.mk (GT86.mk a197 a198) (GT86.mk a199 a200) (GT86.mk a201 a202) (GT86.mk a203 a204) a205 a206), (Gshape.mk (GT86.mk a207 a208) (GT86.mk a209 a210) (GT86.mk a211 a212) (GT86.mk a213 a214) a215 a216), (Gshape.mk (GT86.mk a217 a218) (GT86.mk a219 a220) (GT86.mk a221 a222) (GT86.mk a223 a224) a225 a226), (Gshape.mk (GT86.mk a227 a228) (GT86.mk a229 a230) (GT86.mk a231 a232) (GT86.mk a233 a234) a235 a236), (Gshape.mk (GT86.mk a237 a238) (GT86.mk a239 a240) (GT86.mk a241 a242) (GT86.mk a243 a244) a245 a246), (Gshape.mk (GT86.mk a247 a248) (GT86.mk a249 a250) (GT86.mk a251 a252) (GT86.mk a253 a254) a255 a256), (Gshape.mk (GT86.mk a257 a258) (GT86.mk a259 a260) (GT86.mk a261 a262) (GT86.mk a263 a264) a265 a266), (Gshape.mk (GT86.mk a267 a268) (GT86.mk a269 a270) (GT86.mk a271 a272) (GT86.mk a273 a274) a275 a276), (Gshape.mk (GT86.mk a277 a278) (GT86.mk a279 a280) (GT86.mk a281 a282) (GT86.mk a283 a284) a285 a286), (Gshape.mk (GT86.mk a287 a288) (GT86.mk a289 a290) (GT86.mk a291 a292) (GT86.mk a293 a294) a295 a296), (Gshape.mk (GT86.mk a297 a298) (GT86.mk a299 a300) (GT86.mk a301 a302) (GT86.mk a303 a304) a305 a306), (Gshape.mk (GT86.mk a307 a308) (GT86.mk a309 a310) (GT86.mk a311 a312) (GT86.mk a313 a314) a315 a316), (Gshape.mk (GT86.mk a317 a318) (GT86.mk a319 a320) (GT86.mk a321 a322) (GT86.mk a323 a324) a325 a326), (Gshape.mk (GT86.mk a327 a328) (GT86.mk a329 a330) (GT86.mk a331 a332) (GT86.mk a333 a334) a335 a336), (Gshape.mk (GT86.mk a337 a338) (GT86.mk a339 a340) (GT86.mk a341 a342) (GT86.mk a343 a344) a345 a346), (Gshape.mk (GT86.mk a347 a348) (GT86.mk a349 a350) (GT86.mk a351 a352) (GT86.mk a353 a354) a355 a356), (Gshape.mk (GT86.mk a357 a358) (GT86.mk a359 a360) (GT86.mk a361 a362) (GT86.mk a363 a364) a365 a366), (Gshape.mk (GT86.mk a367 a368) (GT86.mk a369 a370) (GT86.mk a371 a372) (GT86.mk a373 a374) a375 a376), (Gshape.mk (GT86.mk a377 a378) (GT86.mk a379 a380) (GT86.mk a381 a382) (GT86.mk a383 a384) a385 a386), (Gshape.mk (GT86.mk a387 a388) (GT86.mk a389 a390) (GT86.mk a391 a392) (GT86.mk a393 a394) a395 a396), (Gshape.mk (GT86.mk a397 a398) (GT86.mk a399 a400) (GT86.mk a401 a402) (GT86.mk a403 a404) a405 a406), (Gshape.mk (GT86.mk a407 a408) (GT86.mk a409 a410) (GT86.mk a411 a412) (GT86.mk a413 a414) a415 a416), (Gshape.mk (GT86.mk a417 a418) (GT86.mk a419 a420) (GT86.mk a421 a422) (GT86.mk a423 a424) a425 a426), (Gshape.mk (GT86.mk a427 a428) (GT86.mk a429 a430) (GT86.mk a431 a432) (GT86.mk a433 a434) a435 a436), (Gshape.mk (GT86.mk a437 a438) (GT86.mk a439 a440) (GT86.mk a441 a442) (GT86.mk a443 a444) a445 a446), (Gshape.mk (GT86.mk a447 a448) (GT86.mk a449 a450) (GT86.mk a451 a452) (GT86.mk a453 a454) a455 a456), (Gshape.mk (GT86.mk a457 a458) (GT86.mk a459 a460) (GT86.mk a461 a462) (GT86.mk a463 a464) a465 a466), (Gshape.mk (GT86.mk a467 a468) (GT86.mk a469 a470) (GT86.mk a471 a472) (GT86.mk a473 a474) a475 a476), (Gshape.mk (GT86.mk a477 a478) (GT86.mk a479 a480) (GT86.mk a481 a482) (GT86.mk a483 a484) a485 a486), (Gshape.mk (GT86.mk a487 a488) (GT86.mk a489 a490) (GT86.mk a491 a492) (GT86.mk a493 a494) a495 a496), (Gshape.mk (GT86.mk a497 a498) (GT86.mk a499 a500) (GT86.mk a501 a502) (GT86.mk a503 a504) a505 a506), (Gshape.mk (GT86.mk a507 a508) (GT86.mk a509 a510) (GT86.mk a511 a512) (GT86.mk a513 a514) a515 a516), (Gshape.mk (GT86.mk a517 a518) (GT86.mk a519 a520) (GT86.mk a521 a522) (GT86.mk a523 a524) a525 a526), (Gshape.mk (GT86.mk a527 a528) (GT86.mk a529 a530) (GT86.mk a531 a532) (GT86.mk a533 a534) a535 a536)] : List Gshape)[(a1 : Int).toNat]? with _ | ⟨⟨a537, a538⟩, ⟨a539, a540⟩, ⟨a541, a542⟩, ⟨a543, a544⟩, a545, a546⟩
  ·rw [h5] at h; cases h
  rw [h5] at h
  dsimp only at h
  obtain ⟨a547, h6, h⟩ := sm h
  have o7 {os} (x : Obls (env Tryz.prog 53 Tryz.f53 (run Tryz.prog own kp X n)) n os) := ob_c (ht.plan_Name _ _ h1) (ob_b h2 (ob_c (ht.plan_shapes _ h3) (ob_n h4 (ob_t (look_ts Gshape.ts_map h5) (ob_v (len_ts texts_map (l := a2)) (ob_c (ht.plan_in _ _ _ h6) x))))))
  rcases fk h with ⟨h7, h⟩ | ⟨h7, h⟩
  ·obtain ⟨a548, h8, h⟩ := sm h
   have o17 {os} (x : Obls (env Tryz.prog 53 Tryz.f53 (run Tryz.prog own kp X n)) n os) := o7 (ob_b3 (congrArg (!·) h7) (ob_v (len_ts ints_i64_map (l := a3)) (ob_b3 (congrArg (!·) h7) (ob_c (ht.plan_in _ _ _ h8) (ob_b2 (congrArg (!·) h7) x)))))
   rcases fk h with ⟨h9, h⟩ | ⟨h9, h⟩
   ·obtain ⟨a549, h10, h⟩ := sm h
    have o27 {os} (x : Obls (env Tryz.prog 53 Tryz.f53 (run Tryz.prog own kp X n)) n os) := o17 (ob_b3 (congrArg (!·) h9) (ob_v (len_ts rows_GStep_ts_map (l := a12)) (ob_b3 (congrArg (!·) h9) (ob_c (ht.plan_in _ _ _ h10) (ob_b2 (congrArg (!·) h9) x)))))
    rcases fk h with ⟨h11, h⟩ | ⟨h11, h⟩
    ·obtain ⟨a550, h12, h⟩ := sm h
     have o37 {os} (x : Obls (env Tryz.prog 53 Tryz.f53 (run Tryz.prog own kp X n)) n os) := o27 (ob_b3 (congrArg (!·) h11) (ob_v (len_ts GBy.ts_map (l := a13)) (ob_b3 (congrArg (!·) h11) (ob_c (ht.plan_in _ _ _ h12) (ob_b2 (congrArg (!·) h11) x)))))
     rcases fk h with ⟨h13, h⟩ | ⟨h13, h⟩
     ·have o43 {os} (x : Obls (env Tryz.prog 53 Tryz.f53 (run Tryz.prog own kp X n)) n os) := o37 (ob_b3 (congrArg (!·) h13) (ob_v (len_ts texts_map (l := a14)) (ob_b2 (congrArg (!·) h13) x)))
      obtain ⟨a551 | ⟨a552, a553, a554, a555, a556, a557, a558, a559, a560, a561, a562, a563, a564, a565, a566⟩, h14, h⟩ := sm h
      ·cases h
       exact run_path Tryz.func53 (o43 (ob_j (plan_step_j1.ok ht n _ _ _ _ _ _ _ _ _ _ _ _ _ _ _ _ _ _ _ _ _ _ _ _ _ _ _ h14) ob)) (by kernel_rfl)
      ·obtain ⟨a567, rfl⟩ : ∃ z_, z_ = r := ⟨_, rfl⟩
       have h15 := h
       exact run_path Tryz.func53 (o43 (ob_j (plan_step_j1.ok ht n _ _ _ _ _ _ _ _ _ _ _ _ _ _ _ _ _ _ _ _ _ _ _ _ _ _ _ h14) (ob_j (plan_step_j5.ok ht n _ _ _ _ _ _ _ _ _ _ _ _ _ _ _ _ h15) ob))) (by kernel_rfl)
     ·obtain ⟨a568 | ⟨a569, a570, a571, a572, a573, a574, a575, a576, a577, a578, a579, a580, a581, a582, a583⟩, h16, h⟩ := sm h
      ·cases h
       exact run_path Tryz.func53 (o37 (ob_b4 (congrArg (!·) h13) (ob_b (congrArg (!·) h13) (ob_j (plan_step_j1.ok ht n _ _ _ _ _ _ _ _ _ _ _ _ _ _ _ _ _ _ _ _ _ _ _ _ _ _ _ h16) ob)))) (by kernel_rfl)
      ·obtain ⟨a584, rfl⟩ : ∃ z_, z_ = r := ⟨_, rfl⟩
       have h17 := h
       exact run_path Tryz.func53 (o37 (ob_b4 (congrArg (!·) h13) (ob_b (congrArg (!·) h13) (ob_j (plan_step_j1.ok ht n _ _ _ _ _ _ _ _ _ _ _ _ _ _ _ _ _ _ _ _ _ _ _ _ _ _ _ h16) (ob_j (plan_step_j5.ok ht n _ _ _ _ _ _ _ _ _ _ _ _ _ _ _ _ h17) ob))))) (by kernel_rfl)
    ·have o40 {os} (x : Obls (env Tryz.prog 53 Tryz.f53 (run Tryz.prog own kp X n)) n os) := o27 (ob_b4 (congrArg (!·) h11) (ob_b4 (congrArg (!·) h11) (ob_b4 (rfl : true = true) (ob_b (rfl : true = true) x))))
     obtain ⟨a585 | ⟨a586, a587, a588, a589, a590, a591, a592, a593, a594, a595, a596, a597, a598, a599, a600⟩, h18, h⟩ := sm h
     ·cases h
      exact run_path Tryz.func53 (o40 (ob_j (plan_step_j1.ok ht n _ _ _ _ _ _ _ _ _ _ _ _ _ _ _ _ _ _ _ _ _ _ _ _ _ _ _ h18) ob)) (by kernel_rfl)
     ·obtain ⟨a601, rfl⟩ : ∃ z_, z_ = r := ⟨_, rfl⟩
      have h19 := h
      exact run_path Tryz.func53 (o40 (ob_j (plan_step_j1.ok ht n _ _ _ _ _ _ _ _ _ _ _ _ _ _ _ _ _ _ _ _ _ _ _ _ _ _ _ h18) (ob_j (plan_step_j5.ok ht n _ _ _ _ _ _ _ _ _ _ _ _ _ _ _ _ h19) ob))) (by kernel_rfl)
   ·have o38 {os} (x : Obls (env Tryz.prog 53 Tryz.f53 (run Tryz.prog own kp X n)) n os) := o17 (ob_b4 (congrArg (!·) h9) (ob_b4 (congrArg (!·) h9) (ob_b4 (rfl : true = true) (ob_b4 (rfl : true = true) (ob_b4 (rfl : true = true) (ob_b (rfl : true = true) x))))))
    obtain ⟨a602 | ⟨a603, a604, a605, a606, a607, a608, a609, a610, a611, a612, a613, a614, a615, a616, a617⟩, h20, h⟩ := sm h
    ·cases h
     exact run_path Tryz.func53 (o38 (ob_j (plan_step_j1.ok ht n _ _ _ _ _ _ _ _ _ _ _ _ _ _ _ _ _ _ _ _ _ _ _ _ _ _ _ h20) ob)) (by kernel_rfl)
    ·obtain ⟨a618, rfl⟩ : ∃ z_, z_ = r := ⟨_, rfl⟩
     have h21 := h
     exact run_path Tryz.func53 (o38 (ob_j (plan_step_j1.ok ht n _ _ _ _ _ _ _ _ _ _ _ _ _ _ _ _ _ _ _ _ _ _ _ _ _ _ _ h20) (ob_j (plan_step_j5.ok ht n _ _ _ _ _ _ _ _ _ _ _ _ _ _ _ _ h21) ob))) (by kernel_rfl)
  ·have o36 {os} (x : Obls (env Tryz.prog 53 Tryz.f53 (run Tryz.prog own kp X n)) n os) := o7 (ob_b4 (congrArg (!·) h7) (ob_b4 (congrArg (!·) h7) (ob_b4 (rfl : true = true) (ob_b4 (rfl : true = true) (ob_b4 (rfl : true = true) (ob_b4 (rfl : true = true) (ob_b4 (rfl : true = true) (ob_b (rfl : true = true) x))))))))
   obtain ⟨a619 | ⟨a620, a621, a622, a623, a624, a625, a626, a627, a628, a629, a630, a631, a632, a633, a634⟩, h22, h⟩ := sm h
   ·cases h
    exact run_path Tryz.func53 (o36 (ob_j (plan_step_j1.ok ht n _ _ _ _ _ _ _ _ _ _ _ _ _ _ _ _ _ _ _ _ _ _ _ _ _ _ _ h22) ob)) (by kernel_rfl)
   ·obtain ⟨a635, rfl⟩ : ∃ z_, z_ = r := ⟨_, rfl⟩
    have h23 := h
    exact run_path Tryz.func53 (o36 (ob_j (plan_step_j1.ok ht n _ _ _ _ _ _ _ _ _ _ _ _ _ _ _ _ _ _ _ _ _ _ _ _ _ _ _ h22) (ob_j (plan_step_j5.ok ht n _ _ _ _ _ _ _ _ _ _ _ _ _ _ _ _ h23) ob))) (by kernel_rfl)
theorem plan_some_1_plan_Uses_1.ok {n : Nat} {t : Tab} (ht : TabOk t (run Tryz.prog own kp X n)) : ∀ (p1 : GStep) (p2 : List Int) r, plan_some_1_plan_Uses_1 t n p1 p2 = some r → run Tryz.prog own kp X (n + 1) 60 [(.t (GStep.t p1)), (.fref 49 [(.ref (.sl false 1 (ints_i64 p2)))])] [] = some ((Bo r), []) := by
 intro p1 p2 r h
 obtain ⟨a1, a2, a3, ⟨a4, a5, a6, a7, a8⟩, ⟨a9, a10, a11⟩, a12, a13, a14⟩ := p1
 obtain ⟨a15, rfl⟩ : ∃ z_, z_ = p2 := ⟨_, rfl⟩
 rw [plan_some_1_plan_Uses_1] at h
 obtain ⟨a16, h1, h⟩ := sm h
 rcases fk h with ⟨h2, h⟩ | ⟨h2, h⟩
 ·cases h
  exact run_path Tryz.func60 (ob_c (ht.plan_Uses_1 _ _ _ h1) (ob_b4 h2 (ob_b h2 ob))) (by kernel_rfl)
 ·obtain ⟨a17, h3, h⟩ := sm h
  obtain ⟨a18, rfl⟩ : ∃ z_, z_ = r := ⟨_, rfl⟩
  have h4 := h
  exact run_path Tryz.func60 (ob_c (ht.plan_Uses_1 _ _ _ h1) (ob_b2 h2 (ob_c (ht.plan_inner _ _ h3) (ob_b2 h2 (ob_c (ht.slices_ContainsFunc_plan_some_1_1_i2 _ _ _ h4) (ob_b h2 ob)))))) (by kernel_rfl)
theorem plan_Free_1.ok {n : Nat} {t : Tab} (ht : TabOk t (run Tryz.prog own kp X n)) : ∀ (p1 : GStep) r, plan_Free_1 t n p1 = some r → run Tryz.prog own kp X (n + 1) 29 [(.t (GStep.t p1))] [] = some ((Bo r), []) := by
 intro p1 r h
 obtain ⟨a1, a2, a3, ⟨a4, a5, a6, a7, a8⟩, ⟨a9, a10, a11⟩, a12, a13, a14⟩ := p1
 rw [plan_Free_1] at h
 cases h
 exact run_path Tryz.func29 (ob_v (len_ts texts_map (l := a14)) ob) (by kernel_rfl)
theorem slices_ContainsFunc_plan_some_1_1.ok {n : Nat} {t : Tab} (ht : TabOk t (run Tryz.prog own kp X n)) : ∀ (p1 : List (List GStep)) r, slices_ContainsFunc_plan_some_1_1 t n p1 = some r → run Tryz.prog own kp X (n + 1) 61 [(Sl 1 (rows_GStep_ts p1)), (.fn 62 [(.fref 29 [])])] [] = some ((Bo r), []) := by
 intro p1 r h
 obtain ⟨a1, rfl⟩ : ∃ z_, z_ = p1 := ⟨_, rfl⟩
 rw [slices_ContainsFunc_plan_some_1_1] at h
 obtain ⟨a2, h1, h⟩ := sm h
 cases h
 exact run_path Tryz.func61 (ob_c (ht.slices_IndexFunc_plan_some_1_1 _ _ h1) ob) (by kernel_rfl)
theorem plan_shapes.ok {n : Nat} {t : Tab} (ht : TabOk t (run Tryz.prog own kp X n)) : ∀ r, plan_shapes t n = some r → run Tryz.prog own kp X (n + 1) 76 [] [] = some ((.t (GT89.t r)), []) := by
 intro r h
 rw [plan_shapes] at h
 cases h
 exact run_path Tryz.func76 ob (by kernel_rfl)
end Go.Proofs.YtgkfjhfehdefaaaGreatDoor.W
