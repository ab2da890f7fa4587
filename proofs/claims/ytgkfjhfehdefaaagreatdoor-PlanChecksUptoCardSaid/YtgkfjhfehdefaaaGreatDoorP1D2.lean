/- The proofs of it, part 2. -/
import Derived.Test.YtgkfjhfehdefaaaGreatDoorP1D1
namespace Go.Proofs.YtgkfjhfehdefaaaGreatDoor.W
open Go.Proofs.YtgkfjhfehdefaaaGreatDoor.Flat
set_option linter.unusedVariables false
set_option linter.unusedSimpArgs false
set_option smartUnfolding false
attribute [local irreducible] graph_sign_j1 graph_sign_j2 plan_inner_j2 plan_numbers_j1 plan_step_j1 plan_steps_j3 pred_arity_j1 quoI ref02_Count_j2 ref02_Count_j5 ref02_Many_j2 ref02_compare_j3 ref02_fields_j1 ref02_rows_j2 ref02_texts_j2 ref05_Name_j2 ref09_Count_j2 ref09_right_j1 ref12_Inner_j2 ref12_Much_j2 ref12_Much_j4 ref12_Uses_j3 ref12_nest_j2 ref12_own_j1 ref12_right_j2 ref12_steps_j2 ref12_steps_j4 strAt value_plain_j5
variable {t : Tab} {call : FuncId → List AV → List AV → Option (AV × List AV)}
theorem plan_in.ok {n : Nat} {t : Tab} (ht : TabOk t (run Tryz.prog own kp X n)) : ∀ (p1 : Int) (p2 : GT86) r, plan_in t n p1 p2 = some r → run Tryz.prog own kp X (n + 1) 79 [(I6 p1), (.t (GT86.t p2))] [] = some ((Bo r), []) := by
 intro p1 p2 r h
 obtain ⟨a1, rfl⟩ : ∃ z_, z_ = p1 := ⟨_, rfl⟩
 obtain ⟨a2, a3⟩ := p2
 rw [plan_in] at h
 rcases fk h with ⟨h1, h⟩ | ⟨h1, h⟩
 ·cases h
  exact run_path Tryz.func79 (ob_b4 h1 (ob_b h1 ob)) (by kernel_rfl)
 ·cases h
  exact run_path Tryz.func79 (ob_b4 h1 (ob_b h1 ob)) (by kernel_rfl)
theorem slices_ContainsFunc_plan_step_1.ok {n : Nat} {t : Tab} (ht : TabOk t (run Tryz.prog own kp X n)) : ∀ (p1 : List ByteArray) r, slices_ContainsFunc_plan_step_1 t n p1 = some r → run Tryz.prog own kp X (n + 1) 80 [(Sl 1 (texts p1)), (.fn 77 [])] [] = some ((Bo r), []) := by
 intro p1 r h
 obtain ⟨a1, rfl⟩ : ∃ z_, z_ = p1 := ⟨_, rfl⟩
 rw [slices_ContainsFunc_plan_step_1] at h
 obtain ⟨a2, h1, h⟩ := sm h
 cases h
 exact run_path Tryz.func80 (ob_c (ht.slices_IndexFunc_plan_step_1 _ _ h1) ob) (by kernel_rfl)
theorem value_Check.ok {n : Nat} {t : Tab} (ht : TabOk t (run Tryz.prog own kp X n)) : ∀ (p1 : GValue) r, value_Check t n p1 = some r → run Tryz.prog own kp X (n + 1) 82 [(.t (GValue.t p1))] [] = some ((I6 r), []) := by
 intro p1 r h
 obtain ⟨a1, a2, a3, a4, a5⟩ := p1
 rw [value_Check] at h
 obtain ⟨a6, h1, h⟩ := sm h
 rcases fk h with ⟨h2, h⟩ | ⟨h2, h⟩
 ·cases h
  exact run_path Tryz.func82 (ob_c (ht.value_plain _ _ _ h1) (ob_b (congrArg (!·) h2) ob)) (by kernel_rfl)
 ·cases h
  exact run_path Tryz.func82 (ob_c (ht.value_plain _ _ _ h1) (ob_b (congrArg (!·) h2) ob)) (by kernel_rfl)
theorem pred_Check.ok {n : Nat} {t : Tab} (ht : TabOk t (run Tryz.prog own kp X n)) : ∀ (p1 : GPred) r, pred_Check t n p1 = some r → run Tryz.prog own kp X (n + 1) 83 [(.t (GPred.t p1))] [] = some ((I6 r), []) := by
 intro p1 r h
 obtain ⟨a1, a2, a3⟩ := p1
 rw [pred_Check] at h
 obtain ⟨a4, h1, h⟩ := sm h
 rcases fk h with ⟨h2, h⟩ | ⟨h2, h⟩
 ·cases h
  exact run_path Tryz.func83 (ob_c (ht.pred_right _ _ _ h1) (ob_b (congrArg (!·) h2) ob)) (by kernel_rfl)
 ·cases h
  exact run_path Tryz.func83 (ob_c (ht.pred_right _ _ _ h1) (ob_b (congrArg (!·) h2) ob)) (by kernel_rfl)
theorem plan_twice_l1.okL (ht : TabOk t call) (n : Nat) : ∀ (k : Nat) (a1 a2 : List ByteArray) (a3 a4 : Int) (r : _), plan_twice_l1 t n k a1 a2 a3 a4 = some r → loopN (exec (env Tryz.prog 85 Tryz.f85 call) n (sub [1, 0, 1, 0, 0] (bodyOf Tryz.f85))) k (mkSt 18 18 [(0, (Sl 1 (texts a1))), (5, (Sl 1 (texts a2))), (6, (I6 a3)), (7, (I6 a4))] []) = some (plan_twice_l1.to r)
 | 0, a1, a2, a3, a4, r, h => by rw [plan_twice_l1] at h; cases h
 | k + 1, a1, a2, a3, a4, r, h => by
  rw [plan_twice_l1] at h
  rcases fk h with ⟨h1, h⟩ | ⟨h1, h⟩
  ·obtain ⟨h2, h⟩ := ck h
   obtain ⟨a5, h3, h⟩ := sm h
   obtain ⟨h4, h⟩ := ck h
   obtain ⟨a6, h5, h⟩ := sm h
   have o6 {os} (x : Obls (env Tryz.prog 85 Tryz.f85 call) n os) := ob_b h1 (ob_n h2 (ob_t (look_ts texts_map h3) (ob_n (within_ts texts_map h4) (ob_l (cut_ts texts_map (l := a1) (h := (a4 : Int).toNat) (i := (0 : Int).toNat)) (ob_c (ht.slices_Contains_string _ _ _ h5) x)))))
   rcases fk h with ⟨h6, h⟩ | ⟨h6, h⟩
   ·cases h
    exact loop_out (path (o6 (ob_b h6 ob)) (by kernel_rfl)) (fun h => by cases h)
   ·exact loop_more (path (o6 (ob_b h6 ob)) (by kernel_rfl)) (plan_twice_l1.okL ht n k _ _ _ _ _ h)
  ·cases h
   exact loop_out (path (ob_b h1 ob) (by kernel_rfl)) (fun h => by cases h)
theorem plan_twice.ok {n : Nat} {t : Tab} (ht : TabOk t (run Tryz.prog own kp X n)) : ∀ (p1 : List ByteArray) r, plan_twice t n p1 = some r → run Tryz.prog own kp X (n + 1) 85 [(Sl 1 (texts p1))] [] = some ((Bo r), []) := by
 intro p1 r h
 obtain ⟨a1, rfl⟩ : ∃ z_, z_ = p1 := ⟨_, rfl⟩
 rw [plan_twice] at h
 obtain ⟨a2 | ⟨a3, a4, a5, a6, a7⟩, h1, h⟩ := sm h
 ·cases h
  exact run_path Tryz.func85 (ob_v (len_ts texts_map (l := a1)) (ob_k (lk (sub [1, 0, 1, 0] (bodyOf Tryz.f85)) (by kernel_rfl) (plan_twice_l1.okL ht n n _ _ _ _ _ h1)) ob)) (by kernel_rfl)
 ·cases h
  exact run_path Tryz.func85 (ob_v (len_ts texts_map (l := a1)) (ob_k (lk (sub [1, 0, 1, 0] (bodyOf Tryz.f85)) (by kernel_rfl) (plan_twice_l1.okL ht n n _ _ _ _ _ h1)) ob)) (by kernel_rfl)
theorem plan_empty.ok {n : Nat} {t : Tab} (ht : TabOk t (run Tryz.prog own kp X n)) : ∀ (p1 : GPred) r, plan_empty t n p1 = some r → run Tryz.prog own kp X (n + 1) 84 [(.t (GPred.t p1))] [] = some ((Bo r), []) := by
 intro p1 r h
 obtain ⟨a1, a2, a3⟩ := p1
 rw [plan_empty] at h
 rcases fk h with ⟨h1, h⟩ | ⟨h1, h⟩
 ·cases h
  exact run_path Tryz.func84 (ob_b3 h1 (ob_v (len_ts GValue.ts_map (l := a2)) (ob_b3 h1 (ob_v (len_ts GPred.ts_map (l := a3)) (ob_b3 h1 ob))))) (by kernel_rfl)
 ·cases h
  exact run_path Tryz.func84 (ob_b4 h1 (ob_b4 h1 (ob_b h1 ob))) (by kernel_rfl)
theorem value_Same.ok {n : Nat} {t : Tab} (ht : TabOk t (run Tryz.prog own kp X n)) : ∀ (p1 : GValue) (p2 : GValue) r, value_Same t n p1 p2 = some r → run Tryz.prog own kp X (n + 1) 36 [(.t (GValue.t p1)), (.t (GValue.t p2))] [] = some ((Bo r), []) := by
 intro p1 p2 r h
 obtain ⟨a1, a2, a3, a4, a5⟩ := p1
 obtain ⟨a6, a7, a8, a9, a10⟩ := p2
 rw [value_Same] at h
 obtain ⟨a11, h1, h⟩ := sm h
 cases h
 exact run_path Tryz.func36 (ob_c (ht.value_Cmp _ _ _ h1) ob) (by kernel_rfl)
theorem plan_numbers_j1.ok (ht : TabOk t call) (n : Nat) (a1 : Bool) (a2 : Int) (a3 : List ByteArray) (a4 : List Int) (a5 a6 : Int) (a7 : ByteArray) (a8 a9 : List GValue) (a10 : Int) (a11 : List GValue) (a12 : List GPred) (a13 : List (List GStep)) (a14 : List GBy) (a15 : List ByteArray) (r : _) (h : plan_numbers_j1 t n a1 a2 a3 a4 a5 a6 a7 a8 a9 a10 a11 a12 a13 a14 a15 = some r) : exec (env Tryz.prog 81 Tryz.f81 call) n (sub [1, 0, 1, 0, 1, 1, 1, 1, 1] (bodyOf Tryz.f81)) (mkSt 78 78 [(1, (.ptr 1 0 [] 0)), (64, (Bo a1))] [(1, (.t (.st [(.v (.int .i64 a2)), (.sl false 1 (texts a3)), (.sl false 1 (ints_i64 a4)), (.st [(.v (.int .i64 a5)), (.v (.int .i64 a6)), (.v (.string a7)), (.sl false 5 (GValue.ts a8)), (.sl false 5 (GValue.ts a9))]), (.st [(.v (.int .i64 a10)), (.sl false 5 (GValue.ts a11)), (.sl false 3 (GPred.ts a12))]), (.sl false 1 (rows_GStep_ts a13)), (.sl false 4 (GBy.ts a14)), (.sl false 1 (texts a15))])))]) = some (plan_numbers_j1.to r) := by
 rw [plan_numbers_j1] at h
 rcases fk h with ⟨h1, h⟩ | ⟨h1, h⟩
 ·rcases fk h with ⟨h2, h⟩ | ⟨h2, h⟩
  ·cases h
   exact path (ob_b h1 (ob_b4 h2 (ob_b h2 ob))) (by kernel_rfl)
  ·obtain ⟨a16, h3, h⟩ := sm h
   cases h
   exact path (ob_b h1 (ob_b3 h2 (ob_c (ht.slices_ContainsFunc_plan_numbers_1 _ _ h3) (ob_b2 h2 ob)))) (by kernel_rfl)
 ·cases h
  exact path (ob_b h1 ob) (by kernel_rfl)
theorem plan_numbers.ok {n : Nat} {t : Tab} (ht : TabOk t (run Tryz.prog own kp X n)) : ∀ (p1 : GStep) r, plan_numbers t n p1 = some r → run Tryz.prog own kp X (n + 1) 81 [(.t (GStep.t p1))] [] = some ((Bo r), []) := by
 intro p1 r h
 obtain ⟨a1, a2, a3, ⟨a4, a5, a6, a7, a8⟩, ⟨a9, a10, a11⟩, a12, a13, a14⟩ := p1
 rw [plan_numbers] at h
 rcases fk h with ⟨h1, h⟩ | ⟨h1, h⟩
 ·obtain ⟨h2, h⟩ := ck h
  obtain ⟨a15, h3, h⟩ := sm h
  rcases fk h with ⟨h4, h⟩ | ⟨h4, h⟩
  ·obtain ⟨h5, h⟩ := ck h
   obtain ⟨a16, h6, h⟩ := sm h
   rcases fk h with ⟨h7, h⟩ | ⟨h7, h⟩
   ·cases h
    exact run_path Tryz.func81 (ob_b h1 (ob_n h2 (ob_t (look_ts ints_i64_map h3) (ob_b3 h4 (ob_n h5 (ob_t (look_ts ints_i64_map h6) (ob_b3 h4 (ob_b4 h7 (ob_b4 h7 (ob_b h7 (ob_b h4 (ob_b h7 (ob_b h4 ob))))))))))))) (by kernel_rfl)
   ·cases h
    exact run_path Tryz.func81 (ob_b h1 (ob_n h2 (ob_t (look_ts ints_i64_map h3) (ob_b3 h4 (ob_n h5 (ob_t (look_ts ints_i64_map h6) (ob_b3 h4 (ob_b3 h7 (ob_n h5 (ob_t (look_ts ints_i64_map h6) (ob_b4 h7 (ob_n h2 (ob_t (look_ts ints_i64_map h3) (ob_b2 h7 (ob_b h4 (ob_b h7 (ob_b h4 ob))))))))))))))))) (by kernel_rfl)
  ·cases h
   exact run_path Tryz.func81 (ob_b h1 (ob_n h2 (ob_t (look_ts ints_i64_map h3) (ob_b4 h4 (ob_b4 h4 ob))))) (by kernel_rfl)
 ·rcases fk h with ⟨h8, h⟩ | ⟨h8, h⟩
  ·obtain ⟨h9, h⟩ := ck h
   obtain ⟨a17, h10, h⟩ := sm h
   have o4 {os} (x : Obls (env Tryz.prog 81 Tryz.f81 (run Tryz.prog own kp X n)) n os) := ob_b h1 (ob_b h8 (ob_n h9 (ob_t (look_ts ints_i64_map h10) x)))
   rcases fk h with ⟨h11, h⟩ | ⟨h11, h⟩
   ·obtain ⟨h12, h⟩ := ck h
    obtain ⟨a18, h13, h⟩ := sm h
    have o12 {os} (x : Obls (env Tryz.prog 81 Tryz.f81 (run Tryz.prog own kp X n)) n os) := o4 (ob_b3 h11 (ob_n h12 (ob_t (look_ts ints_i64_map h13) (ob_b3 h11 x))))
    rcases fk h with ⟨h14, h⟩ | ⟨h14, h⟩
    ·have o20 {os} (x : Obls (env Tryz.prog 81 Tryz.f81 (run Tryz.prog own kp X n)) n os) := o12 (ob_b3 h14 (ob_n h12 (ob_t (look_ts ints_i64_map h13) (ob_b3 h14 x))))
     rcases fk h with ⟨h15, h⟩ | ⟨h15, h⟩
     ·rcases fk h with ⟨h16, h⟩ | ⟨h16, h⟩
      ·cases h
       exact run_path Tryz.func81 (o20 (ob_b3 h15 (ob_v (len_ts rows_GStep_ts_map (l := a12)) (ob_b2 h15 (ob_b4 h16 (ob_b h16 (ob_b h15 (ob_b h16 (ob_b h15 ob))))))))) (by kernel_rfl)
      ·cases h
       exact run_path Tryz.func81 (o20 (ob_b3 h15 (ob_v (len_ts rows_GStep_ts_map (l := a12)) (ob_b2 h15 (ob_b3 h16 (ob_n h9 (ob_t (look_ts ints_i64_map h10) (ob_b2 h16 (ob_b h15 (ob_b h16 (ob_b h15 ob))))))))))) (by kernel_rfl)
     ·cases h
      exact run_path Tryz.func81 (o20 (ob_b4 h15 (ob_b3 h15 ob))) (by kernel_rfl)
    ·cases h
     exact run_path Tryz.func81 (o12 (ob_b4 h14 (ob_b2 h14 (ob_b4 (rfl : false = false) (ob_b3 (rfl : false = false) ob))))) (by kernel_rfl)
   ·cases h
    exact run_path Tryz.func81 (o4 (ob_b4 h11 (ob_b2 h11 (ob_b4 (rfl : false = false) (ob_b4 (rfl : false = false) (ob_b4 (rfl : false = false) (ob_b (rfl : false = false) ob))))))) (by kernel_rfl)
  ·rcases fk h with ⟨h17, h⟩ | ⟨h17, h⟩
   ·obtain ⟨a19 | _, h18, h⟩ := sm h
    ·cases h
     exact run_path Tryz.func81 (ob_b h1 (ob_b h8 (ob_b h17 (ob_j (plan_numbers_j1.ok ht n _ _ _ _ _ _ _ _ _ _ _ _ _ _ _ _ h18) ob)))) (by kernel_rfl)
    ·cases h
     exact run_path Tryz.func81 (ob_b h1 (ob_b h8 (ob_b h17 (ob_j (plan_numbers_j1.ok ht n _ _ _ _ _ _ _ _ _ _ _ _ _ _ _ _ h18) ob)))) (by kernel_rfl)
   ·rcases fk h with ⟨h19, h⟩ | ⟨h19, h⟩
    ·obtain ⟨a20 | _, h20, h⟩ := sm h
     ·cases h
      exact run_path Tryz.func81 (ob_b h1 (ob_b h8 (ob_b h17 (ob_b h19 (ob_j (plan_numbers_j1.ok ht n _ _ _ _ _ _ _ _ _ _ _ _ _ _ _ _ h20) ob))))) (by kernel_rfl)
     ·cases h
      exact run_path Tryz.func81 (ob_b h1 (ob_b h8 (ob_b h17 (ob_b h19 (ob_j (plan_numbers_j1.ok ht n _ _ _ _ _ _ _ _ _ _ _ _ _ _ _ _ h20) ob))))) (by kernel_rfl)
    ·rcases fk h with ⟨h21, h⟩ | ⟨h21, h⟩
     ·obtain ⟨a21 | _, h22, h⟩ := sm h
      ·cases h
       exact run_path Tryz.func81 (ob_b h1 (ob_b h8 (ob_b h17 (ob_b h19 (ob_b h21 (ob_j (plan_numbers_j1.ok ht n _ _ _ _ _ _ _ _ _ _ _ _ _ _ _ _ h22) ob)))))) (by kernel_rfl)
      ·cases h
       exact run_path Tryz.func81 (ob_b h1 (ob_b h8 (ob_b h17 (ob_b h19 (ob_b h21 (ob_j (plan_numbers_j1.ok ht n _ _ _ _ _ _ _ _ _ _ _ _ _ _ _ _ h22) ob)))))) (by kernel_rfl)
     ·obtain ⟨a22 | _, h23, h⟩ := sm h
      ·cases h
       exact run_path Tryz.func81 (ob_b h1 (ob_b h8 (ob_b h17 (ob_b h19 (ob_b h21 (ob_j (plan_numbers_j1.ok ht n _ _ _ _ _ _ _ _ _ _ _ _ _ _ _ _ h23) ob)))))) (by kernel_rfl)
      ·cases h
       exact run_path Tryz.func81 (ob_b h1 (ob_b h8 (ob_b h17 (ob_b h19 (ob_b h21 (ob_j (plan_numbers_j1.ok ht n _ _ _ _ _ _ _ _ _ _ _ _ _ _ _ _ h23) ob)))))) (by kernel_rfl)
theorem plan_by_j1.ok (ht : TabOk t call) (n : Nat) (a1 a2 : Int) (a3 : ByteArray) (a4 : List GStep) (a5 : Bool) (r : _) (h : plan_by_j1 t n a1 a2 a3 a4 a5 = some r) : exec (env Tryz.prog 86 Tryz.f86 call) n (sub [1, 1] (bodyOf Tryz.f86)) (mkSt 50 50 [(2, (I6 a1)), (3, (.ptr 3 0 [] 0))] [(3, (.t (.st [(.v (.int .i64 a2)), (.v (.string a3)), (.sl false 14 (GStep.ts a4)), (.v (.bool a5))])))]) = some (plan_by_j1.to r) := by
 rw [plan_by_j1] at h
 rcases fk h with ⟨h1, h⟩ | ⟨h1, h⟩
 ·cases h
  exact path (ob_b h1 ob) (by kernel_rfl)
 ·rcases fk h with ⟨h2, h⟩ | ⟨h2, h⟩
  ·obtain ⟨a6, rfl⟩ : ∃ z_, z_ = r := ⟨_, rfl⟩
   have h3 := h
   exact path (ob_b h1 (ob_b h2 (ob_c (ht.graph_Name _ _ h3) ob))) (by kernel_rfl)
  ·rcases fk h with ⟨h4, h⟩ | ⟨h4, h⟩
   ·obtain ⟨a7, rfl⟩ : ∃ z_, z_ = r := ⟨_, rfl⟩
    have h5 := h
    exact path (ob_b h1 (ob_b h2 (ob_b h4 (ob_c (ht.plan_right _ _ _ h5) ob)))) (by kernel_rfl)
   ·cases h
    exact path (ob_b h1 (ob_b h2 (ob_b h4 ob))) (by kernel_rfl)
theorem plan_by.ok {n : Nat} {t : Tab} (ht : TabOk t (run Tryz.prog own kp X n)) : ∀ (p1 : GBy) (p2 : Bool) (p3 : Int) r, plan_by t n p1 p2 p3 = some r → run Tryz.prog own kp X (n + 1) 86 [(.t (GBy.t p1)), (Bo p2), (I6 p3)] [] = some ((Bo r), []) := by
 intro p1 p2 p3 r h
 obtain ⟨a1, a2, a3, a4⟩ := p1
 obtain ⟨a5, rfl⟩ : ∃ z_, z_ = p2 := ⟨_, rfl⟩
 obtain ⟨a6, rfl⟩ : ∃ z_, z_ = p3 := ⟨_, rfl⟩
 rw [plan_by] at h
 rcases fk h with ⟨h1, h⟩ | ⟨h1, h⟩
 ·have o3 {os} (x : Obls (env Tryz.prog 86 Tryz.f86 (run Tryz.prog own kp X n)) n os) := ob_b3 h1 x
  rcases fk h with ⟨h2, h⟩ | ⟨h2, h⟩
  ·have o7 {os} (x : Obls (env Tryz.prog 86 Tryz.f86 (run Tryz.prog own kp X n)) n os) := o3 (ob_b4 (congrArg (!·) h2) x)
   rcases fk h with ⟨h3, h⟩ | ⟨h3, h⟩
   ·have o13 {os} (x : Obls (env Tryz.prog 86 Tryz.f86 (run Tryz.prog own kp X n)) n os) := o7 (ob_b3 h3 (ob_b (congrArg (!·) h2) (ob_b h3 (ob_b (congrArg (!·) h2) x))))
    rcases fk h with ⟨h4, h⟩ | ⟨h4, h⟩
    ·have o17 {os} (x : Obls (env Tryz.prog 86 Tryz.f86 (run Tryz.prog own kp X n)) n os) := o13 (ob_b4 (congrArg (!·) h4) x)
     rcases fk h with ⟨h5, h⟩ | ⟨h5, h⟩
     ·rcases fk h with ⟨h6, h⟩ | ⟨h6, h⟩
      ·cases h
       exact run_path Tryz.func86 (o17 (ob_b3 h5 (ob_v (len_ts GStep.ts_map (l := a3)) (ob_b h5 (ob_b (congrArg (!·) h4) (ob_b h5 (ob_b (congrArg (!·) h4) (ob_b h6 ob)))))))) (by kernel_rfl)
      ·obtain ⟨a7, rfl⟩ : ∃ z_, z_ = r := ⟨_, rfl⟩
       have h7 := h
       exact run_path Tryz.func86 (o17 (ob_b3 h5 (ob_v (len_ts GStep.ts_map (l := a3)) (ob_b h5 (ob_b (congrArg (!·) h4) (ob_b h5 (ob_b (congrArg (!·) h4) (ob_b h6 (ob_j (plan_by_j1.ok ht n _ _ _ _ _ _ h7) ob))))))))) (by kernel_rfl)
     ·obtain ⟨a8, rfl⟩ : ∃ z_, z_ = r := ⟨_, rfl⟩
      have h8 := h
      exact run_path Tryz.func86 (o17 (ob_b4 h5 (ob_b (congrArg (!·) h4) (ob_b h5 (ob_b (congrArg (!·) h4) (ob_b (rfl : false = false) (ob_j (plan_by_j1.ok ht n _ _ _ _ _ _ h8) ob))))))) (by kernel_rfl)
    ·cases h
     exact run_path Tryz.func86 (o13 (ob_b4 (congrArg (!·) h4) (ob_b2 (congrArg (!·) h4) (ob_b (rfl : true = true) ob)))) (by kernel_rfl)
   ·have o17 {os} (x : Obls (env Tryz.prog 86 Tryz.f86 (run Tryz.prog own kp X n)) n os) := o7 (ob_b3 h3 (ob_b (congrArg (!·) h2) (ob_b h3 (ob_b (congrArg (!·) h2) (ob_b4 (rfl : false = false) x)))))
    rcases fk h with ⟨h9, h⟩ | ⟨h9, h⟩
    ·rcases fk h with ⟨h10, h⟩ | ⟨h10, h⟩
     ·cases h
      exact run_path Tryz.func86 (o17 (ob_b3 h9 (ob_v (len_ts GStep.ts_map (l := a3)) (ob_b h9 (ob_b (rfl : false = false) (ob_b h9 (ob_b (rfl : false = false) (ob_b h10 ob)))))))) (by kernel_rfl)
     ·obtain ⟨a9, rfl⟩ : ∃ z_, z_ = r := ⟨_, rfl⟩
      have h11 := h
      exact run_path Tryz.func86 (o17 (ob_b3 h9 (ob_v (len_ts GStep.ts_map (l := a3)) (ob_b h9 (ob_b (rfl : false = false) (ob_b h9 (ob_b (rfl : false = false) (ob_b h10 (ob_j (plan_by_j1.ok ht n _ _ _ _ _ _ h11) ob))))))))) (by kernel_rfl)
    ·obtain ⟨a10, rfl⟩ : ∃ z_, z_ = r := ⟨_, rfl⟩
     have h12 := h
     exact run_path Tryz.func86 (o17 (ob_b4 h9 (ob_b (rfl : false = false) (ob_b h9 (ob_b2 (rfl : false = false) (ob_j (plan_by_j1.ok ht n _ _ _ _ _ _ h12) ob)))))) (by kernel_rfl)
  ·cases h
   exact run_path Tryz.func86 (o3 (ob_b4 (congrArg (!·) h2) (ob_b2 (congrArg (!·) h2) (ob_b4 (rfl : true = true) (ob_b3 (rfl : true = true) ob))))) (by kernel_rfl)
 ·have o7 {os} (x : Obls (env Tryz.prog 86 Tryz.f86 (run Tryz.prog own kp X n)) n os) := ob_b3 h1 (ob_b4 (rfl : false = false) x)
  rcases fk h with ⟨h13, h⟩ | ⟨h13, h⟩
  ·have o13 {os} (x : Obls (env Tryz.prog 86 Tryz.f86 (run Tryz.prog own kp X n)) n os) := o7 (ob_b3 h13 (ob_b (rfl : false = false) (ob_b h13 (ob_b (rfl : false = false) x))))
   rcases fk h with ⟨h14, h⟩ | ⟨h14, h⟩
   ·have o17 {os} (x : Obls (env Tryz.prog 86 Tryz.f86 (run Tryz.prog own kp X n)) n os) := o13 (ob_b4 (congrArg (!·) h14) x)
    rcases fk h with ⟨h15, h⟩ | ⟨h15, h⟩
    ·rcases fk h with ⟨h16, h⟩ | ⟨h16, h⟩
     ·cases h
      exact run_path Tryz.func86 (o17 (ob_b3 h15 (ob_v (len_ts GStep.ts_map (l := a3)) (ob_b h15 (ob_b (congrArg (!·) h14) (ob_b h15 (ob_b (congrArg (!·) h14) (ob_b h16 ob)))))))) (by kernel_rfl)
     ·obtain ⟨a11, rfl⟩ : ∃ z_, z_ = r := ⟨_, rfl⟩
      have h17 := h
      exact run_path Tryz.func86 (o17 (ob_b3 h15 (ob_v (len_ts GStep.ts_map (l := a3)) (ob_b h15 (ob_b (congrArg (!·) h14) (ob_b h15 (ob_b (congrArg (!·) h14) (ob_b h16 (ob_j (plan_by_j1.ok ht n _ _ _ _ _ _ h17) ob))))))))) (by kernel_rfl)
    ·obtain ⟨a12, rfl⟩ : ∃ z_, z_ = r := ⟨_, rfl⟩
     have h18 := h
     exact run_path Tryz.func86 (o17 (ob_b4 h15 (ob_b (congrArg (!·) h14) (ob_b h15 (ob_b (congrArg (!·) h14) (ob_b (rfl : false = false) (ob_j (plan_by_j1.ok ht n _ _ _ _ _ _ h18) ob))))))) (by kernel_rfl)
   ·cases h
    exact run_path Tryz.func86 (o13 (ob_b4 (congrArg (!·) h14) (ob_b2 (congrArg (!·) h14) (ob_b (rfl : true = true) ob)))) (by kernel_rfl)
  ·have o17 {os} (x : Obls (env Tryz.prog 86 Tryz.f86 (run Tryz.prog own kp X n)) n os) := o7 (ob_b3 h13 (ob_b (rfl : false = false) (ob_b h13 (ob_b4 (rfl : false = false) (ob_b (rfl : false = false) x)))))
   rcases fk h with ⟨h19, h⟩ | ⟨h19, h⟩
   ·rcases fk h with ⟨h20, h⟩ | ⟨h20, h⟩
    ·cases h
     exact run_path Tryz.func86 (o17 (ob_b3 h19 (ob_v (len_ts GStep.ts_map (l := a3)) (ob_b h19 (ob_b (rfl : false = false) (ob_b h19 (ob_b (rfl : false = false) (ob_b h20 ob)))))))) (by kernel_rfl)
    ·obtain ⟨a13, rfl⟩ : ∃ z_, z_ = r := ⟨_, rfl⟩
     have h21 := h
     exact run_path Tryz.func86 (o17 (ob_b3 h19 (ob_v (len_ts GStep.ts_map (l := a3)) (ob_b h19 (ob_b (rfl : false = false) (ob_b h19 (ob_b (rfl : false = false) (ob_b h20 (ob_j (plan_by_j1.ok ht n _ _ _ _ _ _ h21) ob))))))))) (by kernel_rfl)
   ·obtain ⟨a14, rfl⟩ : ∃ z_, z_ = r := ⟨_, rfl⟩
    have h22 := h
    exact run_path Tryz.func86 (o17 (ob_b4 h19 (ob_b (rfl : false = false) (ob_b h19 (ob_b2 (rfl : false = false) (ob_j (plan_by_j1.ok ht n _ _ _ _ _ _ h22) ob)))))) (by kernel_rfl)
theorem plan_Uses_1.ok {n : Nat} {t : Tab} (ht : TabOk t (run Tryz.prog own kp X n)) : ∀ (p1 : GStep) (p2 : List Int) r, plan_Uses_1 t n p1 p2 = some r → run Tryz.prog own kp X (n + 1) 49 [(.t (GStep.t p1)), (.ref (.sl false 1 (ints_i64 p2)))] [] = some ((Bo r), []) := by
 intro p1 p2 r h
 obtain ⟨a1, a2, a3, ⟨a4, a5, a6, a7, a8⟩, ⟨a9, a10, a11⟩, a12, a13, a14⟩ := p1
 obtain ⟨a15, rfl⟩ : ∃ z_, z_ = p2 := ⟨_, rfl⟩
 rw [plan_Uses_1] at h
 obtain ⟨a16, rfl⟩ : ∃ z_, z_ = r := ⟨_, rfl⟩
 have h1 := h
 exact run_path Tryz.func49 (ob_c (ht.slices_Contains_int _ _ _ h1) ob) (by kernel_rfl)
theorem slices_ContainsFunc_plan_some_1_1_i2.ok {n : Nat} {t : Tab} (ht : TabOk t (run Tryz.prog own kp X n)) : ∀ (p1 : List (List GStep)) (p2 : List Int) r, slices_ContainsFunc_plan_some_1_1_i2 t n p1 p2 = some r → run Tryz.prog own kp X (n + 1) 61 [(Sl 1 (rows_GStep_ts p1)), (.fn 62 [(.fref 49 [(.ref (.sl false 1 (ints_i64 p2)))])])] [] = some ((Bo r), []) := by
 intro p1 p2 r h
 obtain ⟨a1, rfl⟩ : ∃ z_, z_ = p1 := ⟨_, rfl⟩
 obtain ⟨a2, rfl⟩ : ∃ z_, z_ = p2 := ⟨_, rfl⟩
 rw [slices_ContainsFunc_plan_some_1_1_i2] at h
 obtain ⟨a3, h1, h⟩ := sm h
 cases h
 exact run_path Tryz.func61 (ob_c (ht.slices_IndexFunc_plan_some_1_1_i2 _ _ _ h1) ob) (by kernel_rfl)
theorem slices_IndexFunc_plan_some_1_1_l1.okL (ht : TabOk t call) (n : Nat) : ∀ (k : Nat) (a1 : List (List GStep)) (a2 a3 : Int) (r : _), slices_IndexFunc_plan_some_1_1_l1 t n k a1 a2 a3 = some r → loopN (exec (env Tryz.prog 93 Tryz.f93 call) n (sub [1, 0, 1, 0, 0] (bodyOf Tryz.f93))) k (mkSt 19 19 [(0, (Sl 1 (rows_GStep_ts a1))), (1, (.fn 62 [(.fref 29 [])])), (7, (I6 a2)), (8, (I6 a3))] []) = some (slices_IndexFunc_plan_some_1_1_l1.to r)
 | 0, a1, a2, a3, r, h => by rw [slices_IndexFunc_plan_some_1_1_l1] at h; cases h
 | k + 1, a1, a2, a3, r, h => by
  rw [slices_IndexFunc_plan_some_1_1_l1] at h
  rcases fk h with ⟨h1, h⟩ | ⟨h1, h⟩
  ·obtain ⟨h2, h⟩ := ck h
   obtain ⟨a4, h3, h⟩ := sm h
   obtain ⟨a5, h4, h⟩ := sm h
   rcases fk h with ⟨h5, h⟩ | ⟨h5, h⟩
   ·cases h
    exact loop_out (path (ob_b h1 (ob_n h2 (ob_t (look_ts rows_GStep_ts_map h3) (ob_c (ht.plan_some_1_1_plan_Free_1 _ _ h4) (ob_b h5 ob))))) (by kernel_rfl)) (fun h => by cases h)
   ·exact loop_more (path (ob_b h1 (ob_n h2 (ob_t (look_ts rows_GStep_ts_map h3) (ob_c (ht.plan_some_1_1_plan_Free_1 _ _ h4) (ob_b h5 ob))))) (by kernel_rfl)) (slices_IndexFunc_plan_some_1_1_l1.okL ht n k _ _ _ _ h)
  ·cases h
   exact loop_out (path (ob_b h1 ob) (by kernel_rfl)) (fun h => by cases h)
theorem slices_IndexFunc_plan_some_1_1.ok {n : Nat} {t : Tab} (ht : TabOk t (run Tryz.prog own kp X n)) : ∀ (p1 : List (List GStep)) r, slices_IndexFunc_plan_some_1_1 t n p1 = some r → run Tryz.prog own kp X (n + 1) 93 [(Sl 1 (rows_GStep_ts p1)), (.fn 62 [(.fref 29 [])])] [] = some ((I6 r), []) := by
 intro p1 r h
 obtain ⟨a1, rfl⟩ : ∃ z_, z_ = p1 := ⟨_, rfl⟩
 rw [slices_IndexFunc_plan_some_1_1] at h
 obtain ⟨a2 | ⟨a3, a4, a5, a6⟩, h1, h⟩ := sm h
 ·cases h
  exact run_path Tryz.func93 (ob_v (len_ts rows_GStep_ts_map (l := a1)) (ob_k (lk (sub [1, 0, 1, 0] (bodyOf Tryz.f93)) (by kernel_rfl) (slices_IndexFunc_plan_some_1_1_l1.okL ht n n _ _ _ _ h1)) ob)) (by kernel_rfl)
 ·cases h
  exact run_path Tryz.func93 (ob_v (len_ts rows_GStep_ts_map (l := a1)) (ob_k (lk (sub [1, 0, 1, 0] (bodyOf Tryz.f93)) (by kernel_rfl) (slices_IndexFunc_plan_some_1_1_l1.okL ht n n _ _ _ _ h1)) ob)) (by kernel_rfl)
theorem slices_IndexFunc_plan_step_1_l1.okL (ht : TabOk t call) (n : Nat) : ∀ (k : Nat) (a1 : List ByteArray) (a2 a3 : Int) (r : _), slices_IndexFunc_plan_step_1_l1 t n k a1 a2 a3 = some r → loopN (exec (env Tryz.prog 101 Tryz.f101 call) n (sub [1, 0, 1, 0, 0] (bodyOf Tryz.f101))) k (mkSt 19 19 [(0, (Sl 1 (texts a1))), (1, (.fn 77 [])), (7, (I6 a2)), (8, (I6 a3))] []) = some (slices_IndexFunc_plan_step_1_l1.to r)
 | 0, a1, a2, a3, r, h => by rw [slices_IndexFunc_plan_step_1_l1] at h; cases h
 | k + 1, a1, a2, a3, r, h => by
  rw [slices_IndexFunc_plan_step_1_l1] at h
  rcases fk h with ⟨h1, h⟩ | ⟨h1, h⟩
  ·obtain ⟨h2, h⟩ := ck h
   obtain ⟨a4, h3, h⟩ := sm h
   obtain ⟨a5, h4, h⟩ := sm h
   rcases fk h with ⟨h5, h⟩ | ⟨h5, h⟩
   ·cases h
    exact loop_out (path (ob_b h1 (ob_n h2 (ob_t (look_ts texts_map h3) (ob_c (ht.plan_step_1 _ _ h4) (ob_b h5 ob))))) (by kernel_rfl)) (fun h => by cases h)
   ·exact loop_more (path (ob_b h1 (ob_n h2 (ob_t (look_ts texts_map h3) (ob_c (ht.plan_step_1 _ _ h4) (ob_b h5 ob))))) (by kernel_rfl)) (slices_IndexFunc_plan_step_1_l1.okL ht n k _ _ _ _ h)
  ·cases h
   exact loop_out (path (ob_b h1 ob) (by kernel_rfl)) (fun h => by cases h)
theorem slices_IndexFunc_plan_step_1.ok {n : Nat} {t : Tab} (ht : TabOk t (run Tryz.prog own kp X n)) : ∀ (p1 : List ByteArray) r, slices_IndexFunc_plan_step_1 t n p1 = some r → run Tryz.prog own kp X (n + 1) 101 [(Sl 1 (texts p1)), (.fn 77 [])] [] = some ((I6 r), []) := by
 intro p1 r h
 obtain ⟨a1, rfl⟩ : ∃ z_, z_ = p1 := ⟨_, rfl⟩
 rw [slices_IndexFunc_plan_step_1] at h
 obtain ⟨a2 | ⟨a3, a4, a5, a6⟩, h1, h⟩ := sm h
 ·cases h
  exact run_path Tryz.func101 (ob_v (len_ts texts_map (l := a1)) (ob_k (lk (sub [1, 0, 1, 0] (bodyOf Tryz.f101)) (by kernel_rfl) (slices_IndexFunc_plan_step_1_l1.okL ht n n _ _ _ _ h1)) ob)) (by kernel_rfl)
 ·cases h
  exact run_path Tryz.func101 (ob_v (len_ts texts_map (l := a1)) (ob_k (lk (sub [1, 0, 1, 0] (bodyOf Tryz.f101)) (by kernel_rfl) (slices_IndexFunc_plan_step_1_l1.okL ht n n _ _ _ _ h1)) ob)) (by kernel_rfl)
theorem value_plain_l4.okL (ht : TabOk t call) (n : Nat) : ∀ (k : Nat) (a1 : Int) (a2 : List GValue) (a3 a4 a5 a6 : Int) (a7 : ByteArray) (a8 a9 : List GValue) (r : _), value_plain_l4 t n k a1 a2 a3 a4 a5 a6 a7 a8 a9 = some r → loopN (exec (env Tryz.prog 104 Tryz.f104 call) n (sub [1, 1, 1, 1, 1, 1, 0, 1, 0, 0] (bodyOf Tryz.f104))) k (mkSt 147 147 [(1, (I6 a1)), (2, (.ptr 2 0 [] 0)), (109, (Sl 5 (GValue.ts a2))), (110, (I6 a3)), (111, (I6 a4))] [(2, (.t (.st [(.v (.int .i64 a5)), (.v (.int .i64 a6)), (.v (.string a7)), (.sl false 5 (GValue.ts a8)), (.sl false 5 (GValue.ts a9))])))]) = some (value_plain_l4.to r)
 | 0, a1, a2, a3, a4, a5, a6, a7, a8, a9, r, h => by rw [value_plain_l4] at h; cases h
 | k + 1, a1, a2, a3, a4, a5, a6, a7, a8, a9, r, h => by
  rw [value_plain_l4] at h
  rcases fk h with ⟨h1, h⟩ | ⟨h1, h⟩
  ·obtain ⟨h2, h⟩ := ck h
   obtain ⟨⟨a10, a11, a12, a13, a14⟩, h3, h⟩ := sm h
   obtain ⟨a15, h4, h⟩ := sm h
   have o4 {os} (x : Obls (env Tryz.prog 104 Tryz.f104 call) n os) := ob_b h1 (ob_n h2 (ob_t (look_ts GValue.ts_map h3) (ob_c (ht.value_plain _ _ _ h4) x)))
   rcases fk h with ⟨h5, h⟩ | ⟨h5, h⟩
   ·rcases fk h with ⟨h6, h⟩ | ⟨h6, h⟩
    ·have o8 {os} (x : Obls (env Tryz.prog 104 Tryz.f104 call) n os) := o4 (ob_b (congrArg (!·) h5) (ob_b3 h6 x))
     rcases fk h with ⟨h7, h⟩ | ⟨h7, h⟩
     ·have o15 {os} (x : Obls (env Tryz.prog 104 Tryz.f104 call) n os) := o8 (ob_b4 h7 (ob_v (len_ts GValue.ts_map (l := a8)) (ob_b2 h7 x)))
      rcases fk h with ⟨h8, h⟩ | ⟨h8, h⟩
      ·obtain ⟨h9, h⟩ := ck h
       obtain ⟨⟨a16, a17, a18, a19, a20⟩, h10, h⟩ := sm h
       obtain ⟨a21, h11, h⟩ := sm h
       have o28 {os} (x : Obls (env Tryz.prog 104 Tryz.f104 call) n os) := o15 (ob_b4 h8 (ob_b h8 (ob_n h9 (ob_t (look_ts GValue.ts_map h10) (ob_b3 h8 (ob_c (ht.value_Cmp _ _ _ h11) (ob_b2 h8 x)))))))
       rcases fk h with ⟨h12, h⟩ | ⟨h12, h⟩
       ·cases h
        exact loop_out (path (o28 (ob_b h12 ob)) (by kernel_rfl)) (fun h => by cases h)
       ·exact loop_more (path (o28 (ob_b h12 ob)) (by kernel_rfl)) (value_plain_l4.okL ht n k _ _ _ _ _ _ _ _ _ _ h)
      ·exact loop_more (path (o15 (ob_b4 h8 (ob_b4 h8 (ob_b2 h8 (ob_b (rfl : false = false) ob))))) (by kernel_rfl)) (value_plain_l4.okL ht n k _ _ _ _ _ _ _ _ _ _ h)
     ·exact loop_more (path (o8 (ob_b4 h7 (ob_b2 h7 (ob_b4 (rfl : false = false) (ob_b4 (rfl : false = false) (ob_b3 (rfl : false = false) ob)))))) (by kernel_rfl)) (value_plain_l4.okL ht n k _ _ _ _ _ _ _ _ _ _ h)
    ·exact loop_more (path (o4 (ob_b (congrArg (!·) h5) (ob_b3 h6 (ob_b4 (rfl : false = false) (ob_b4 (rfl : false = false) (ob_b4 (rfl : false = false) (ob_b4 (rfl : false = false) (ob_b (rfl : false = false) ob)))))))) (by kernel_rfl)) (value_plain_l4.okL ht n k _ _ _ _ _ _ _ _ _ _ h)
   ·cases h
    exact loop_out (path (o4 (ob_b (congrArg (!·) h5) ob)) (by kernel_rfl)) (fun h => by cases h)
  ·cases h
   exact loop_out (path (ob_b h1 ob) (by kernel_rfl)) (fun h => by cases h)
theorem value_plain_j3.ok (ht : TabOk t call) (n : Nat) (a1 a2 a3 : Int) (a4 : ByteArray) (a5 a6 : List GValue) (r : _) (h : value_plain_j3 t n a1 a2 a3 a4 a5 a6 = some r) : exec (env Tryz.prog 104 Tryz.f104 call) n (sub [1, 1, 1, 1, 1, 1] (bodyOf Tryz.f104)) (mkSt 147 147 [(1, (I6 a1)), (2, (.ptr 2 0 [] 0))] [(2, (.t (.st [(.v (.int .i64 a2)), (.v (.int .i64 a3)), (.v (.string a4)), (.sl false 5 (GValue.ts a5)), (.sl false 5 (GValue.ts a6))])))]) = some (value_plain_j3.to r) := by
 rw [value_plain_j3] at h
 obtain ⟨a7, h1, h⟩ := sm h
 obtain ⟨a8 | ⟨a9, a10, a11, a12, a13, a14, a15, a16, a17, a18⟩, h2, h⟩ := sm h
 ·cases h
  exact path (ob_c (ht.slices_Concat_Value _ _ h1) (ob_v (len_ts GValue.ts_map (l := a7)) (ob_k (lk (sub [1, 1, 1, 1, 1, 1, 0, 1, 0] (bodyOf Tryz.f104)) (by kernel_rfl) (value_plain_l4.okL ht n n _ _ _ _ _ _ _ _ _ _ h2)) ob))) (by kernel_rfl)
 ·cases h
  exact path (ob_c (ht.slices_Concat_Value _ _ h1) (ob_v (len_ts GValue.ts_map (l := a7)) (ob_k (lk (sub [1, 1, 1, 1, 1, 1, 0, 1, 0] (bodyOf Tryz.f104)) (by kernel_rfl) (value_plain_l4.okL ht n n _ _ _ _ _ _ _ _ _ _ h2)) ob))) (by kernel_rfl)
theorem value_plain_j2.ok (ht : TabOk t call) (n : Nat) (a1 a2 a3 : Int) (a4 : ByteArray) (a5 a6 : List GValue) (r : _) (h : value_plain_j2 t n a1 a2 a3 a4 a5 a6 = some r) : exec (env Tryz.prog 104 Tryz.f104 call) n (sub [1, 1, 1, 1, 1] (bodyOf Tryz.f104)) (mkSt 147 147 [(1, (I6 a1)), (2, (.ptr 2 0 [] 0))] [(2, (.t (.st [(.v (.int .i64 a2)), (.v (.int .i64 a3)), (.v (.string a4)), (.sl false 5 (GValue.ts a5)), (.sl false 5 (GValue.ts a6))])))]) = some (value_plain_j2.to r) := by
 rw [value_plain_j2] at h
 rcases fk h with ⟨h1, h⟩ | ⟨h1, h⟩
 ·cases h
  exact path (ob_v (len_ts GValue.ts_map (l := a5)) (ob_b4 h1 (ob_b2 h1 (ob_b4 (rfl : true = true) (ob_b3 (rfl : true = true) ob))))) (by kernel_rfl)
 ·have o5 {os} (x : Obls (env Tryz.prog 104 Tryz.f104 call) n os) := ob_v (len_ts GValue.ts_map (l := a5)) (ob_b4 h1 x)
  rcases fk h with ⟨h2, h⟩ | ⟨h2, h⟩
  ·have o17 {os} (x : Obls (env Tryz.prog 104 Tryz.f104 call) n os) := o5 (ob_b3 h2 (ob_v (len_ts GValue.ts_map (l := a6)) (ob_b3 h2 (ob_v (len_ts GValue.ts_map (l := a5)) (ob_b h2 (ob_b h1 (ob_b h2 (ob_b h1 x))))))))
   rcases fk h with ⟨h3, h⟩ | ⟨h3, h⟩
   ·cases h
    exact path (o17 (ob_b4 h3 (ob_b2 h3 (ob_b (rfl : true = true) ob)))) (by kernel_rfl)
   ·rcases fk h with ⟨h4, h⟩ | ⟨h4, h⟩
    ·rcases fk h with ⟨h5, h⟩ | ⟨h5, h⟩
     ·cases h
      exact path (o17 (ob_b4 h3 (ob_b3 h4 (ob_v (len_ts GValue.ts_map (l := a6)) (ob_b h4 (ob_b h3 (ob_b h4 (ob_b h3 (ob_b h5 ob))))))))) (by kernel_rfl)
     ·obtain ⟨a7, rfl⟩ : ∃ z_, z_ = r := ⟨_, rfl⟩
      have h6 := h
      exact path (o17 (ob_b4 h3 (ob_b3 h4 (ob_v (len_ts GValue.ts_map (l := a6)) (ob_b h4 (ob_b h3 (ob_b h4 (ob_b h3 (ob_b h5 (ob_j (value_plain_j3.ok ht n _ _ _ _ _ _ _ h6) ob)))))))))) (by kernel_rfl)
    ·obtain ⟨a8, rfl⟩ : ∃ z_, z_ = r := ⟨_, rfl⟩
     have h7 := h
     exact path (o17 (ob_b4 h3 (ob_b4 h4 (ob_b h3 (ob_b h4 (ob_b h3 (ob_b (rfl : false = false) (ob_j (value_plain_j3.ok ht n _ _ _ _ _ _ _ h7) ob)))))))) (by kernel_rfl)
  ·have o19 {os} (x : Obls (env Tryz.prog 104 Tryz.f104 call) n os) := o5 (ob_b4 h2 (ob_b3 h2 (ob_b h1 (ob_b h2 (ob_b h1 (ob_b4 (rfl : false = false) x))))))
   rcases fk h with ⟨h8, h⟩ | ⟨h8, h⟩
   ·rcases fk h with ⟨h9, h⟩ | ⟨h9, h⟩
    ·cases h
     exact path (o19 (ob_b3 h8 (ob_v (len_ts GValue.ts_map (l := a6)) (ob_b h8 (ob_b (rfl : false = false) (ob_b h8 (ob_b (rfl : false = false) (ob_b h9 ob)))))))) (by kernel_rfl)
    ·obtain ⟨a9, rfl⟩ : ∃ z_, z_ = r := ⟨_, rfl⟩
     have h10 := h
     exact path (o19 (ob_b3 h8 (ob_v (len_ts GValue.ts_map (l := a6)) (ob_b h8 (ob_b (rfl : false = false) (ob_b h8 (ob_b (rfl : false = false) (ob_b h9 (ob_j (value_plain_j3.ok ht n _ _ _ _ _ _ _ h10) ob))))))))) (by kernel_rfl)
   ·obtain ⟨a10, rfl⟩ : ∃ z_, z_ = r := ⟨_, rfl⟩
    have h11 := h
    exact path (o19 (ob_b4 h8 (ob_b (rfl : false = false) (ob_b h8 (ob_b2 (rfl : false = false) (ob_j (value_plain_j3.ok ht n _ _ _ _ _ _ _ h11) ob)))))) (by kernel_rfl)
theorem value_plain_j1.ok (ht : TabOk t call) (n : Nat) (a1 : Int) (a2 a3 : Bool) (a4 a5 : Int) (a6 : ByteArray) (a7 a8 : List GValue) (r : _) (h : value_plain_j1 t n a1 a2 a3 a4 a5 a6 a7 a8 = some r) : exec (env Tryz.prog 104 Tryz.f104 call) n (sub [1, 1, 1, 1] (bodyOf Tryz.f104)) (mkSt 147 147 [(1, (I6 a1)), (2, (.ptr 2 0 [] 0)), (5, (Bo a2)), (6, (Bo a3))] [(2, (.t (.st [(.v (.int .i64 a4)), (.v (.int .i64 a5)), (.v (.string a6)), (.sl false 5 (GValue.ts a7)), (.sl false 5 (GValue.ts a8))])))]) = some (value_plain_j1.to r) := by
 rw [value_plain_j1] at h
 rcases fk h with ⟨h1, h⟩ | ⟨h1, h⟩
 ·have o9 {os} (x : Obls (env Tryz.prog 104 Tryz.f104 call) n os) := ob_b4 (congrArg (!·) h1) (ob_b4 (rfl : false = false) (ob_b (rfl : false = false) x))
  rcases fk h with ⟨h2, h⟩ | ⟨h2, h⟩
  ·cases h
   exact path (o9 (ob_b4 h2 (ob_b2 h2 (ob_b4 (rfl : true = true) (ob_b2 (rfl : true = true) ob))))) (by kernel_rfl)
  ·have o21 {os} (x : Obls (env Tryz.prog 104 Tryz.f104 call) n os) := o9 (ob_b2 h2 (ob_b h1 (ob_b h2 (ob_b h1 (ob_b h2 (ob_b3 (rfl : true = true) (ob_b h2 (ob_b (rfl : true = true) (ob_b h2 x)))))))))
   rcases fk h with ⟨h3, h⟩ | ⟨h3, h⟩
   ·cases h
    exact path (o21 (ob_b4 h3 (ob_b h3 (ob_b (rfl : true = true) ob)))) (by kernel_rfl)
   ·rcases fk h with ⟨h4, h⟩ | ⟨h4, h⟩
    ·obtain ⟨a9, rfl⟩ : ∃ z_, z_ = r := ⟨_, rfl⟩
     have h5 := h
     exact path (o21 (ob_b3 h3 (ob_b4 (congrArg (!·) h4) (ob_b4 (congrArg (!·) h4) (ob_b h3 (ob_b (congrArg (!·) h4) (ob_b h3 (ob_b (rfl : false = false) (ob_j (value_plain_j2.ok ht n _ _ _ _ _ _ _ h5) ob))))))))) (by kernel_rfl)
    ·have o37 {os} (x : Obls (env Tryz.prog 104 Tryz.f104 call) n os) := o21 (ob_b3 h3 (ob_b3 (congrArg (!·) h4) (ob_v (len_ts GValue.ts_map (l := a7)) (ob_b3 (congrArg (!·) h4) (ob_v (len_ts GValue.ts_map (l := a8)) (ob_b2 (congrArg (!·) h4) (ob_b h3 (ob_b (congrArg (!·) h4) (ob_b h3 x)))))))))
     rcases fk h with ⟨h6, h⟩ | ⟨h6, h⟩
     ·cases h
      exact path (o37 (ob_b h6 ob)) (by kernel_rfl)
     ·obtain ⟨a10, rfl⟩ : ∃ z_, z_ = r := ⟨_, rfl⟩
      have h7 := h
      exact path (o37 (ob_b h6 (ob_j (value_plain_j2.ok ht n _ _ _ _ _ _ _ h7) ob))) (by kernel_rfl)
 ·have o4 {os} (x : Obls (env Tryz.prog 104 Tryz.f104 call) n os) := ob_b4 (congrArg (!·) h1) x
  rcases fk h with ⟨h8, h⟩ | ⟨h8, h⟩
  ·have o9 {os} (x : Obls (env Tryz.prog 104 Tryz.f104 call) n os) := o4 (ob_b4 (congrArg (!·) h8) (ob_b (congrArg (!·) h8) x))
   rcases fk h with ⟨h9, h⟩ | ⟨h9, h⟩
   ·cases h
    exact path (o9 (ob_b4 h9 (ob_b2 h9 (ob_b4 (rfl : true = true) (ob_b2 (rfl : true = true) ob))))) (by kernel_rfl)
   ·have o15 {os} (x : Obls (env Tryz.prog 104 Tryz.f104 call) n os) := o9 (ob_b2 h9 (ob_b h1 (ob_b h9 (ob_b h1 (ob_b h9 x)))))
    rcases fk h with ⟨h10, h⟩ | ⟨h10, h⟩
    ·rcases fk h with ⟨h11, h⟩ | ⟨h11, h⟩
     ·cases h
      exact path (o15 (ob_b3 h10 (ob_b h9 (ob_b h10 (ob_b h9 (ob_b4 h11 (ob_b h11 (ob_b (rfl : true = true) ob)))))))) (by kernel_rfl)
     ·obtain ⟨a11, rfl⟩ : ∃ z_, z_ = r := ⟨_, rfl⟩
      have h12 := h
      exact path (o15 (ob_b3 h10 (ob_b h9 (ob_b h10 (ob_b h9 (ob_b3 h11 (ob_b4 (congrArg (!·) h10) (ob_b4 (congrArg (!·) h10) (ob_b h11 (ob_b (congrArg (!·) h10) (ob_b h11 (ob_b (rfl : false = false) (ob_j (value_plain_j2.ok ht n _ _ _ _ _ _ _ h12) ob))))))))))))) (by kernel_rfl)
    ·have o37 {os} (x : Obls (env Tryz.prog 104 Tryz.f104 call) n os) := o15 (ob_b3 h10 (ob_b h9 (ob_b h10 (ob_b h9 (ob_b3 (rfl : false = false) (ob_b3 (congrArg (!·) h10) (ob_v (len_ts GValue.ts_map (l := a7)) (ob_b3 (congrArg (!·) h10) (ob_v (len_ts GValue.ts_map (l := a8)) (ob_b2 (congrArg (!·) h10) (ob_b (rfl : false = false) (ob_b (congrArg (!·) h10) (ob_b (rfl : false = false) x)))))))))))))
     rcases fk h with ⟨h13, h⟩ | ⟨h13, h⟩
     ·cases h
      exact path (o37 (ob_b h13 ob)) (by kernel_rfl)
     ·obtain ⟨a12, rfl⟩ : ∃ z_, z_ = r := ⟨_, rfl⟩
      have h14 := h
      exact path (o37 (ob_b h13 (ob_j (value_plain_j2.ok ht n _ _ _ _ _ _ _ h14) ob))) (by kernel_rfl)
  ·cases h
   exact path (o4 (ob_b4 (congrArg (!·) h8) (ob_b (congrArg (!·) h8) (ob_b4 (rfl : true = true) (ob_b4 (rfl : true = true) (ob_b4 (rfl : true = true) ob)))))) (by kernel_rfl)
theorem value_plain_j5.ok (ht : TabOk t call) (n : Nat) (a1 : Int) (a2 a3 : Bool) (a4 : Int) (a5 : Bool) (a6 a7 : Int) (a8 : ByteArray) (a9 a10 : List GValue) (r : _) (h : value_plain_j5 t n a1 a2 a3 a4 a5 a6 a7 a8 a9 a10 = some r) : exec (env Tryz.prog 104 Tryz.f104 call) n (sub [1, 1, 1, 0, 1, 0, 1, 1, 1, 1, 1] (bodyOf Tryz.f104)) (mkSt 147 147 [(1, (I6 a1)), (2, (.ptr 2 0 [] 0)), (5, (Bo a2)), (6, (Bo a3)), (12, (I6 a4)), (25, (Bo a5))] [(2, (.t (.st [(.v (.int .i64 a6)), (.v (.int .i64 a7)), (.v (.string a8)), (.sl false 5 (GValue.ts a9)), (.sl false 5 (GValue.ts a10))])))]) = some (value_plain_j5.to r) := by
 rw [value_plain_j5] at h
 rcases fk h with ⟨h1, h⟩ | ⟨h1, h⟩
 ·rcases fk h with ⟨h2, h⟩ | ⟨h2, h⟩
  ·cases h
   exact path (ob_b h1 (ob_b h2 ob)) (by kernel_rfl)
  ·cases h
   exact path (ob_b h1 (ob_b h2 ob)) (by kernel_rfl)
 ·rcases fk h with ⟨h3, h⟩ | ⟨h3, h⟩
  ·cases h
   exact path (ob_b h1 (ob_b h3 ob)) (by kernel_rfl)
  ·rcases fk h with ⟨h4, h⟩ | ⟨h4, h⟩
   ·cases h
    exact path (ob_b h1 (ob_b h3 (ob_b2 h4 ob))) (by kernel_rfl)
   ·rcases fk h with ⟨h5, h⟩ | ⟨h5, h⟩
    ·cases h
     exact path (ob_b h1 (ob_b h3 (ob_b h4 (ob_b2 h5 ob)))) (by kernel_rfl)
    ·rcases fk h with ⟨h6, h⟩ | ⟨h6, h⟩
     ·cases h
      exact path (ob_b h1 (ob_b h3 (ob_b h4 (ob_b h5 (ob_b h6 ob))))) (by kernel_rfl)
     ·cases h
      exact path (ob_b h1 (ob_b h3 (ob_b h4 (ob_b h5 (ob_b h6 ob))))) (by kernel_rfl)
theorem value_plain.ok {n : Nat} {t : Tab} (ht : TabOk t (run Tryz.prog own kp X n)) : ∀ (p1 : GValue) (p2 : Int) r, value_plain t n p1 p2 = some r → run Tryz.prog own kp X (n + 1) 104 [(.t (GValue.t p1)), (I6 p2)] [] = some ((Bo r), []) := by
 intro p1 p2 r h
 obtain ⟨a1, a2, a3, a4, a5⟩ := p1
 obtain ⟨a6, rfl⟩ : ∃ z_, z_ = p2 := ⟨_, rfl⟩
 rw [value_plain] at h
 rcases fk h with ⟨h1, h⟩ | ⟨h1, h⟩
 ·cases h
  exact run_path Tryz.func104 (ob_b h1 ob) (by kernel_rfl)
 ·rcases fk h with ⟨h2, h⟩ | ⟨h2, h⟩
  ·rcases fk h with ⟨h3, h⟩ | ⟨h3, h⟩
   ·cases h
    exact run_path Tryz.func104 (ob_b h1 (ob_b h2 (ob_b4 h3 (ob_b (rfl : true = true) ob)))) (by kernel_rfl)
   ·rcases fk h with ⟨h4, h⟩ | ⟨h4, h⟩
    ·cases h
     exact run_path Tryz.func104 (ob_b h1 (ob_b h2 (ob_b4 h3 (ob_b h4 ob)))) (by kernel_rfl)
    ·obtain ⟨a7, rfl⟩ : ∃ z_, z_ = r := ⟨_, rfl⟩
     have h5 := h
     exact run_path Tryz.func104 (ob_b h1 (ob_b h2 (ob_b4 h3 (ob_b h4 (ob_j (value_plain_j1.ok ht n _ _ _ _ _ _ _ _ _ h5) ob))))) (by kernel_rfl)
  ·rcases fk h with ⟨h6, h⟩ | ⟨h6, h⟩
   ·obtain ⟨a8, rfl⟩ : ∃ z_, z_ = r := ⟨_, rfl⟩
    have h7 := h
    exact run_path Tryz.func104 (ob_b h1 (ob_b h2 (ob_b h6 (ob_j (value_plain_j1.ok ht n _ _ _ _ _ _ _ _ _ h7) ob)))) (by kernel_rfl)
   ·rcases fk h with ⟨h8, h⟩ | ⟨h8, h⟩
    ·obtain ⟨a9 | ⟨a10, a11, a12, a13, a14, a15, a16, a17⟩, h9, h⟩ := sm h
     ·cases h
      exact run_path Tryz.func104 (ob_b h1 (ob_b h2 (ob_b h6 (ob_b h8 (ob_j (value_plain_j5.ok ht n _ _ _ _ _ _ _ _ _ _ _ h9) ob))))) (by kernel_rfl)
     ·obtain ⟨a18, rfl⟩ : ∃ z_, z_ = r := ⟨_, rfl⟩
      have h10 := h
      exact run_path Tryz.func104 (ob_b h1 (ob_b h2 (ob_b h6 (ob_b h8 (ob_j (value_plain_j5.ok ht n _ _ _ _ _ _ _ _ _ _ _ h9) (ob_j (value_plain_j1.ok ht n _ _ _ _ _ _ _ _ _ h10) ob)))))) (by kernel_rfl)
    ·obtain ⟨a19 | ⟨a20, a21, a22, a23, a24, a25, a26, a27⟩, h11, h⟩ := sm h
     ·cases h
      exact run_path Tryz.func104 (ob_b h1 (ob_b h2 (ob_b h6 (ob_b h8 (ob_j (value_plain_j5.ok ht n _ _ _ _ _ _ _ _ _ _ _ h11) ob))))) (by kernel_rfl)
     ·obtain ⟨a28, rfl⟩ : ∃ z_, z_ = r := ⟨_, rfl⟩
      have h12 := h
      exact run_path Tryz.func104 (ob_b h1 (ob_b h2 (ob_b h6 (ob_b h8 (ob_j (value_plain_j5.ok ht n _ _ _ _ _ _ _ _ _ _ _ h11) (ob_j (value_plain_j1.ok ht n _ _ _ _ _ _ _ _ _ h12) ob)))))) (by kernel_rfl)
theorem pred_right_j1.ok (ht : TabOk t call) (n : Nat) (a1 : Int) (a2 : List GValue) (a3 : List GPred) (a4 : Int) (r : _) (h : pred_right_j1 t n a1 a2 a3 a4 = some r) : exec (env Tryz.prog 105 Tryz.f105 call) n (sub [1, 1, 1] (bodyOf Tryz.f105)) (mkSt 62 62 [(2, (.ptr 2 0 [] 0)), (3, (.ptr 3 0 [] 0))] [(2, (.t (.st [(.v (.int .i64 a1)), (.sl false 5 (GValue.ts a2)), (.sl false 3 (GPred.ts a3))]))), (3, (I6 a4))]) = some (pred_right_j1.to r) := by
 rw [pred_right_j1] at h
 obtain ⟨a5, h1, h⟩ := sm h
 rcases fk h with ⟨h2, h⟩ | ⟨h2, h⟩
 ·cases h
  exact path (ob_c (ht.slices_ContainsFunc_pred_right_1 _ _ _ h1) (ob_b4 (congrArg (!·) h2) (ob_b2 (congrArg (!·) h2) ob))) (by kernel_rfl)
 ·obtain ⟨a6, h3, h⟩ := sm h
  cases h
  exact path (ob_c (ht.slices_ContainsFunc_pred_right_1 _ _ _ h1) (ob_b4 (congrArg (!·) h2) (ob_c (ht.slices_ContainsFunc_pred_right_2 _ _ h3) (ob_b2 (congrArg (!·) h2) ob)))) (by kernel_rfl)
theorem pred_right.ok {n : Nat} {t : Tab} (ht : TabOk t (run Tryz.prog own kp X n)) : ∀ (p1 : GPred) (p2 : Int) r, pred_right t n p1 p2 = some r → run Tryz.prog own kp X (n + 1) 105 [(.t (GPred.t p1)), (I6 p2)] [] = some ((Bo r), []) := by
 intro p1 p2 r h
 obtain ⟨a1, a2, a3⟩ := p1
 obtain ⟨a4, rfl⟩ : ∃ z_, z_ = p2 := ⟨_, rfl⟩
 rw [pred_right] at h
 obtain ⟨⟨a5, a6, a7, a8⟩, h1, h⟩ := sm h
 rcases fk h with ⟨h2, h⟩ | ⟨h2, h⟩
 ·cases h
  exact run_path Tryz.func105 (ob_c (ht.pred_arity _ _ h1) (ob_b4 h2 (ob_b2 h2 (ob_b4 (rfl : true = true) (ob_b4 (rfl : true = true) (ob_b4 (rfl : true = true) (ob_b4 (rfl : true = true) (ob_b3 (rfl : true = true) ob)))))))) (by kernel_rfl)
 ·have o8 {os} (x : Obls (env Tryz.prog 105 Tryz.f105 (run Tryz.prog own kp X n)) n os) := ob_c (ht.pred_arity _ _ h1) (ob_b3 h2 (ob_v (len_ts GValue.ts_map (l := a2)) (ob_b3 h2 x)))
  rcases fk h with ⟨h3, h⟩ | ⟨h3, h⟩
  ·cases h
   exact run_path Tryz.func105 (o8 (ob_b4 h3 (ob_b2 h3 (ob_b4 (rfl : true = true) (ob_b4 (rfl : true = true) (ob_b4 (rfl : true = true) (ob_b (rfl : true = true) ob))))))) (by kernel_rfl)
  ·have o15 {os} (x : Obls (env Tryz.prog 105 Tryz.f105 (run Tryz.prog own kp X n)) n os) := o8 (ob_b3 h3 (ob_v (len_ts GValue.ts_map (l := a2)) (ob_b3 h3 x)))
   rcases fk h with ⟨h4, h⟩ | ⟨h4, h⟩
   ·cases h
    exact run_path Tryz.func105 (o15 (ob_b4 h4 (ob_b2 h4 (ob_b4 (rfl : true = true) (ob_b3 (rfl : true = true) ob))))) (by kernel_rfl)
   ·have o22 {os} (x : Obls (env Tryz.prog 105 Tryz.f105 (run Tryz.prog own kp X n)) n os) := o15 (ob_b3 h4 (ob_v (len_ts GPred.ts_map (l := a3)) (ob_b3 h4 x)))
    rcases fk h with ⟨h5, h⟩ | ⟨h5, h⟩
    ·cases h
     exact run_path Tryz.func105 (o22 (ob_b4 h5 (ob_b2 h5 (ob_b (rfl : true = true) ob)))) (by kernel_rfl)
    ·rcases fk h with ⟨h6, h⟩ | ⟨h6, h⟩
     ·cases h
      exact run_path Tryz.func105 (o22 (ob_b3 h5 (ob_v (len_ts GPred.ts_map (l := a3)) (ob_b3 h5 (ob_b h6 ob))))) (by kernel_rfl)
     ·obtain ⟨a9, rfl⟩ : ∃ z_, z_ = r := ⟨_, rfl⟩
      have h7 := h
      exact run_path Tryz.func105 (o22 (ob_b3 h5 (ob_v (len_ts GPred.ts_map (l := a3)) (ob_b3 h5 (ob_b h6 (ob_j (pred_right_j1.ok ht n _ _ _ _ _ h7) ob)))))) (by kernel_rfl)
theorem slices_Contains_string.ok {n : Nat} {t : Tab} (ht : TabOk t (run Tryz.prog own kp X n)) : ∀ (p1 : List ByteArray) (p2 : ByteArray) r, slices_Contains_string t n p1 p2 = some r → run Tryz.prog own kp X (n + 1) 106 [(Sl 1 (texts p1)), (Sr p2)] [] = some ((Bo r), []) := by
 intro p1 p2 r h
 obtain ⟨a1, rfl⟩ : ∃ z_, z_ = p1 := ⟨_, rfl⟩
 obtain ⟨a2, rfl⟩ : ∃ z_, z_ = p2 := ⟨_, rfl⟩
 rw [slices_Contains_string] at h
 obtain ⟨a3, h1, h⟩ := sm h
 cases h
 exact run_path Tryz.func106 (ob_c (ht.slices_Index_string _ _ _ h1) ob) (by kernel_rfl)
theorem value_Cmp.ok {n : Nat} {t : Tab} (ht : TabOk t (run Tryz.prog own kp X n)) : ∀ (p1 : GValue) (p2 : GValue) r, value_Cmp t n p1 p2 = some r → run Tryz.prog own kp X (n + 1) 63 [(.t (GValue.t p1)), (.t (GValue.t p2))] [] = some ((I6 r), []) := by
 intro p1 p2 r h
 obtain ⟨a1, a2, a3, a4, a5⟩ := p1
 obtain ⟨a6, a7, a8, a9, a10⟩ := p2
 rw [value_Cmp] at h
 obtain ⟨a11, rfl⟩ : ∃ z_, z_ = r := ⟨_, rfl⟩
 have h1 := h
 exact run_path Tryz.func63 (ob_c (ht.value_compare _ _ _ _ h1) ob) (by kernel_rfl)
theorem slices_ContainsFunc_plan_numbers_1.ok {n : Nat} {t : Tab} (ht : TabOk t (run Tryz.prog own kp X n)) : ∀ (p1 : List Int) r, slices_ContainsFunc_plan_numbers_1 t n p1 = some r → run Tryz.prog own kp X (n + 1) 102 [(Sl 1 (ints_i64 p1)), (.fn 103 [])] [] = some ((Bo r), []) := by
 intro p1 r h
 obtain ⟨a1, rfl⟩ : ∃ z_, z_ = p1 := ⟨_, rfl⟩
 rw [slices_ContainsFunc_plan_numbers_1] at h
 obtain ⟨a2, h1, h⟩ := sm h
 cases h
 exact run_path Tryz.func102 (ob_c (ht.slices_IndexFunc_plan_numbers_1 _ _ h1) ob) (by kernel_rfl)
theorem graph_Name_l1.okL (ht : TabOk t call) (n : Nat) : ∀ (k : Nat) (a1 : ByteArray) (a2 a3 : Int) (r : _), graph_Name_l1 t n k a1 a2 a3 = some r → loopN (exec (env Tryz.prog 78 Tryz.f78 call) n (sub [1, 0, 1, 0, 0] (bodyOf Tryz.f78))) k (mkSt 24 24 [(0, (Sr a1)), (5, (I6 a2)), (6, (I6 a3))] []) = some (graph_Name_l1.to r)
 | 0, a1, a2, a3, r, h => by rw [graph_Name_l1] at h; cases h
 | k + 1, a1, a2, a3, r, h => by
  rw [graph_Name_l1] at h
  rcases fk h with ⟨h1, h⟩ | ⟨h1, h⟩
  ·obtain ⟨a4, h2, h⟩ := sm h
   obtain ⟨a5, h3, h⟩ := sm h
   rcases fk h with ⟨h4, h⟩ | ⟨h4, h⟩
   ·exact loop_more (path (ob_b h1 (ob_v (at_ok (P := Tryz.prog) (t := 9) (k := .i64) (by kernel_rfl) h2) (ob_c (ht.graph_sign _ _ _ h3) (ob_b (congrArg (!·) h4) ob)))) (by kernel_rfl)) (graph_Name_l1.okL ht n k _ _ _ _ h)
   ·cases h
    exact loop_out (path (ob_b h1 (ob_v (at_ok (P := Tryz.prog) (t := 9) (k := .i64) (by kernel_rfl) h2) (ob_c (ht.graph_sign _ _ _ h3) (ob_b (congrArg (!·) h4) ob)))) (by kernel_rfl)) (fun h => by cases h)
  ·cases h
   exact loop_out (path (ob_b h1 ob) (by kernel_rfl)) (fun h => by cases h)
theorem graph_Name_j2.ok (ht : TabOk t call) (n : Nat) (a1 : ByteArray) (r : _) (h : graph_Name_j2 t n a1 = some r) : exec (env Tryz.prog 78 Tryz.f78 call) n (sub [1, 1] (bodyOf Tryz.f78)) (mkSt 24 24 [(0, (Sr a1))] []) = some (graph_Name_j2.to r) := by
 rw [graph_Name_j2] at h
 rcases fk h with ⟨h1, h⟩ | ⟨h1, h⟩
 ·cases h
  exact path (ob_b4 (congrArg (!·) h1) ob) (by kernel_rfl)
 ·cases h
  exact path (ob_b4 (congrArg (!·) h1) ob) (by kernel_rfl)
theorem graph_Name.ok {n : Nat} {t : Tab} (ht : TabOk t (run Tryz.prog own kp X n)) : ∀ (p1 : ByteArray) r, graph_Name t n p1 = some r → run Tryz.prog own kp X (n + 1) 78 [(Sr p1)] [] = some ((Bo r), []) := by
 intro p1 r h
 obtain ⟨a1, rfl⟩ : ∃ z_, z_ = p1 := ⟨_, rfl⟩
 rw [graph_Name] at h
 obtain ⟨a2 | ⟨a3, a4, a5, a6⟩, h1, h⟩ := sm h
 ·cases h
  exact run_path Tryz.func78 (ob_k (lk (sub [1, 0, 1, 0] (bodyOf Tryz.f78)) (by kernel_rfl) (graph_Name_l1.okL ht n n _ _ _ _ h1)) ob) (by kernel_rfl)
 ·obtain ⟨a7, rfl⟩ : ∃ z_, z_ = r := ⟨_, rfl⟩
  have h2 := h
  exact run_path Tryz.func78 (ob_k (lk (sub [1, 0, 1, 0] (bodyOf Tryz.f78)) (by kernel_rfl) (graph_Name_l1.okL ht n n _ _ _ _ h1)) (ob_j (graph_Name_j2.ok ht n _ _ h2) ob)) (by kernel_rfl)
theorem slices_Contains_int.ok {n : Nat} {t : Tab} (ht : TabOk t (run Tryz.prog own kp X n)) : ∀ (p1 : List Int) (p2 : Int) r, slices_Contains_int t n p1 p2 = some r → run Tryz.prog own kp X (n + 1) 50 [(Sl 1 (ints_i64 p1)), (I6 p2)] [] = some ((Bo r), []) := by
 intro p1 p2 r h
 obtain ⟨a1, rfl⟩ : ∃ z_, z_ = p1 := ⟨_, rfl⟩
 obtain ⟨a2, rfl⟩ : ∃ z_, z_ = p2 := ⟨_, rfl⟩
 rw [slices_Contains_int] at h
 obtain ⟨a3, h1, h⟩ := sm h
 cases h
 exact run_path Tryz.func50 (ob_c (ht.slices_Index_int _ _ _ h1) ob) (by kernel_rfl)
theorem slices_IndexFunc_plan_some_1_1_i2_l1.okL (ht : TabOk t call) (n : Nat) : ∀ (k : Nat) (a1 : List (List GStep)) (a2 : List Int) (a3 a4 : Int) (r : _), slices_IndexFunc_plan_some_1_1_i2_l1 t n k a1 a2 a3 a4 = some r → loopN (exec (env Tryz.prog 93 Tryz.f93 call) n (sub [1, 0, 1, 0, 0] (bodyOf Tryz.f93))) k (mkSt 19 19 [(0, (Sl 1 (rows_GStep_ts a1))), (1, (.fn 62 [(.fref 49 [(.ref (.sl false 1 (ints_i64 a2)))])])), (7, (I6 a3)), (8, (I6 a4))] []) = some (slices_IndexFunc_plan_some_1_1_i2_l1.to r)
 | 0, a1, a2, a3, a4, r, h => by rw [slices_IndexFunc_plan_some_1_1_i2_l1] at h; cases h
 | k + 1, a1, a2, a3, a4, r, h => by
  rw [slices_IndexFunc_plan_some_1_1_i2_l1] at h
  rcases fk h with ⟨h1, h⟩ | ⟨h1, h⟩
  ·obtain ⟨h2, h⟩ := ck h
   obtain ⟨a5, h3, h⟩ := sm h
   obtain ⟨a6, h4, h⟩ := sm h
   rcases fk h with ⟨h5, h⟩ | ⟨h5, h⟩
   ·cases h
    exact loop_out (path (ob_b h1 (ob_n h2 (ob_t (look_ts rows_GStep_ts_map h3) (ob_c (ht.plan_some_1_1_plan_Uses_1 _ _ _ h4) (ob_b h5 ob))))) (by kernel_rfl)) (fun h => by cases h)
   ·exact loop_more (path (ob_b h1 (ob_n h2 (ob_t (look_ts rows_GStep_ts_map h3) (ob_c (ht.plan_some_1_1_plan_Uses_1 _ _ _ h4) (ob_b h5 ob))))) (by kernel_rfl)) (slices_IndexFunc_plan_some_1_1_i2_l1.okL ht n k _ _ _ _ _ h)
  ·cases h
   exact loop_out (path (ob_b h1 ob) (by kernel_rfl)) (fun h => by cases h)
theorem slices_IndexFunc_plan_some_1_1_i2.ok {n : Nat} {t : Tab} (ht : TabOk t (run Tryz.prog own kp X n)) : ∀ (p1 : List (List GStep)) (p2 : List Int) r, slices_IndexFunc_plan_some_1_1_i2 t n p1 p2 = some r → run Tryz.prog own kp X (n + 1) 93 [(Sl 1 (rows_GStep_ts p1)), (.fn 62 [(.fref 49 [(.ref (.sl false 1 (ints_i64 p2)))])])] [] = some ((I6 r), []) := by
 intro p1 p2 r h
 obtain ⟨a1, rfl⟩ : ∃ z_, z_ = p1 := ⟨_, rfl⟩
 obtain ⟨a2, rfl⟩ : ∃ z_, z_ = p2 := ⟨_, rfl⟩
 rw [slices_IndexFunc_plan_some_1_1_i2] at h
 obtain ⟨a3 | ⟨a4, a5, a6, a7, a8⟩, h1, h⟩ := sm h
 ·cases h
  exact run_path Tryz.func93 (ob_v (len_ts rows_GStep_ts_map (l := a1)) (ob_k (lk (sub [1, 0, 1, 0] (bodyOf Tryz.f93)) (by kernel_rfl) (slices_IndexFunc_plan_some_1_1_i2_l1.okL ht n n _ _ _ _ _ h1)) ob)) (by kernel_rfl)
 ·cases h
  exact run_path Tryz.func93 (ob_v (len_ts rows_GStep_ts_map (l := a1)) (ob_k (lk (sub [1, 0, 1, 0] (bodyOf Tryz.f93)) (by kernel_rfl) (slices_IndexFunc_plan_some_1_1_i2_l1.okL ht n n _ _ _ _ _ h1)) ob)) (by kernel_rfl)
theorem plan_some_1_1_plan_Free_1.ok {n : Nat} {t : Tab} (ht : TabOk t (run Tryz.prog own kp X n)) : ∀ (p1 : List GStep) r, plan_some_1_1_plan_Free_1 t n p1 = some r → run Tryz.prog own kp X (n + 1) 62 [(Sl 14 (GStep.ts p1)), (.fref 29 [])] [] = some ((Bo r), []) := by
 intro p1 r h
 obtain ⟨a1, rfl⟩ : ∃ z_, z_ = p1 := ⟨_, rfl⟩
 rw [plan_some_1_1_plan_Free_1] at h
 obtain ⟨a2, rfl⟩ : ∃ z_, z_ = r := ⟨_, rfl⟩
 have h1 := h
 exact run_path Tryz.func62 (ob_c (ht.plan_plan_Free_1 _ _ h1) ob) (by kernel_rfl)
theorem plan_step_1.ok {n : Nat} {t : Tab} (ht : TabOk t (run Tryz.prog own kp X n)) : ∀ (p1 : ByteArray) r, plan_step_1 t n p1 = some r → run Tryz.prog own kp X (n + 1) 77 [(Sr p1)] [] = some ((Bo r), []) := by
 intro p1 r h
 obtain ⟨a1, rfl⟩ : ∃ z_, z_ = p1 := ⟨_, rfl⟩
 rw [plan_step_1] at h
 obtain ⟨a2, h1, h⟩ := sm h
 cases h
 exact run_path Tryz.func77 (ob_c (ht.graph_Name _ _ h1) ob) (by kernel_rfl)
theorem slices_Concat_Value_l1.okL (ht : TabOk t call) (n : Nat) : ∀ (k : Nat) (a1 : List (List GValue)) (a2 : Int) (a3 : List (List GValue)) (a4 a5 : Int) (r : _), slices_Concat_Value_l1 t n k a1 a2 a3 a4 a5 = some r → loopN (exec (env Tryz.prog 116 Tryz.f116 call) n (sub [1, 1, 0, 1, 0, 0] (bodyOf Tryz.f116))) k (mkSt 36 36 [(0, (Sl 1 (rows_GValue_ts a1))), (3, (I6 a2)), (9, (Sl 1 (rows_GValue_ts a3))), (10, (I6 a4)), (11, (I6 a5))] []) = some (slices_Concat_Value_l1.to r)
 | 0, a1, a2, a3, a4, a5, r, h => by rw [slices_Concat_Value_l1] at h; cases h
 | k + 1, a1, a2, a3, a4, a5, r, h => by
  rw [slices_Concat_Value_l1] at h
  rcases fk h with ⟨h1, h⟩ | ⟨h1, h⟩
  ·obtain ⟨h2, h⟩ := ck h
   obtain ⟨a6, h3, h⟩ := sm h
   rcases fk h with ⟨h4, h⟩ | ⟨h4, h⟩
   ·cases h
   ·exact loop_more (path (ob_b h1 (ob_n h2 (ob_t (look_ts rows_GValue_ts_map h3) (ob_v (len_ts GValue.ts_map (l := a6)) (ob_b h4 ob))))) (by kernel_rfl)) (slices_Concat_Value_l1.okL ht n k _ _ _ _ _ _ h)
  ·cases h
   exact loop_out (path (ob_b h1 ob) (by kernel_rfl)) (fun h => by cases h)
theorem slices_Concat_Value_l3.okL (ht : TabOk t call) (n : Nat) : ∀ (k : Nat) (a1 : List GValue) (a2 : List (List GValue)) (a3 a4 : Int) (r : _), slices_Concat_Value_l3 t n k a1 a2 a3 a4 = some r → loopN (exec (env Tryz.prog 116 Tryz.f116 call) n (sub [1, 1, 1, 1, 0, 1, 0, 0] (bodyOf Tryz.f116))) k (mkSt 36 36 [(6, (.t (.sl true 5 (GValue.ts a1)))), (25, (Sl 1 (rows_GValue_ts a2))), (26, (I6 a3)), (27, (I6 a4))] []) = some (slices_Concat_Value_l3.to r)
 | 0, a1, a2, a3, a4, r, h => by rw [slices_Concat_Value_l3] at h; cases h
 | k + 1, a1, a2, a3, a4, r, h => by
  rw [slices_Concat_Value_l3] at h
  rcases fk h with ⟨h1, h⟩ | ⟨h1, h⟩
  ·obtain ⟨h2, h⟩ := ck h
   obtain ⟨a5, h3, h⟩ := sm h
   obtain ⟨h4, h⟩ := cl h
   exact loop_more (path (ob_b h1 (ob_n h2 (ob_t (look_ts rows_GValue_ts_map h3) (ob_le (room_ts GValue.ts_map h4) (ob_l (app_ts GValue.ts_map (a := a1) (b := a5)) ob))))) (by kernel_rfl)) (slices_Concat_Value_l3.okL ht n k _ _ _ _ _ h)
  ·cases h
   exact loop_out (path (ob_b h1 ob) (by kernel_rfl)) (fun h => by cases h)
theorem slices_Concat_Value_j2.ok (ht : TabOk t call) (n : Nat) (a1 : List (List GValue)) (a2 : Int) (r : _) (h : slices_Concat_Value_j2 t n a1 a2 = some r) : exec (env Tryz.prog 116 Tryz.f116 call) n (sub [1, 1, 1] (bodyOf Tryz.f116)) (mkSt 36 36 [(0, (Sl 1 (rows_GValue_ts a1))), (3, (I6 a2))] []) = some (slices_Concat_Value_j2.to r) := by
 rw [slices_Concat_Value_j2] at h
 obtain ⟨a3, h1, h⟩ := sm h
 obtain ⟨⟨a4, a5, a6, a7, a8⟩, h2, h⟩ := sm h
 cases h
 exact path (ob_c (ht.slices_Grow_Value _ _ _ h1) (ob_v (len_ts rows_GValue_ts_map (l := a1)) (ob_k (lk (sub [1, 1, 1, 1, 0, 1, 0] (bodyOf Tryz.f116)) (by kernel_rfl) (slices_Concat_Value_l3.okL ht n n _ _ _ _ _ h2)) ob))) (by kernel_rfl)
theorem slices_Concat_Value.ok {n : Nat} {t : Tab} (ht : TabOk t (run Tryz.prog own kp X n)) : ∀ (p1 : List (List GValue)) r, slices_Concat_Value t n p1 = some r → run Tryz.prog own kp X (n + 1) 116 [(Sl 1 (rows_GValue_ts p1))] [] = some ((Sl 5 (GValue.ts r)), []) := by
 intro p1 r h
 obtain ⟨a1, rfl⟩ : ∃ z_, z_ = p1 := ⟨_, rfl⟩
 rw [slices_Concat_Value] at h
 obtain ⟨⟨a2, a3, a4, a5, a6, a7⟩, h1, h⟩ := sm h
 obtain ⟨a8, rfl⟩ : ∃ z_, z_ = r := ⟨_, rfl⟩
 have h2 := h
 exact run_path Tryz.func116 (ob_v (len_ts rows_GValue_ts_map (l := a1)) (ob_k (lk (sub [1, 1, 0, 1, 0] (bodyOf Tryz.f116)) (by kernel_rfl) (slices_Concat_Value_l1.okL ht n n _ _ _ _ _ _ h1)) (ob_j (slices_Concat_Value_j2.ok ht n _ _ _ h2) ob))) (by kernel_rfl)
theorem pred_arity_j3.ok (ht : TabOk t call) (n : Nat) (a1 : Int) (a2 : Bool) (r : _) (h : pred_arity_j3 t n a1 a2 = some r) : exec (env Tryz.prog 117 Tryz.f117 call) n (sub [1, 0, 0, 1, 1, 1, 1, 1] (bodyOf Tryz.f117)) (mkSt 37 37 [(0, (I6 a1)), (20, (Bo a2))] []) = some (pred_arity_j3.to r) := by
 rw [pred_arity_j3] at h
 rcases fk h with ⟨h1, h⟩ | ⟨h1, h⟩
 ·cases h
  exact path (ob_b h1 ob) (by kernel_rfl)
 ·rcases fk h with ⟨h2, h⟩ | ⟨h2, h⟩
  ·cases h
   exact path (ob_b h1 (ob_b h2 ob)) (by kernel_rfl)
  ·rcases fk h with ⟨h3, h⟩ | ⟨h3, h⟩
   ·cases h
    exact path (ob_b h1 (ob_b h2 (ob_b3 h3 (ob_b (rfl : true = true) ob)))) (by kernel_rfl)
   ·rcases fk h with ⟨h4, h⟩ | ⟨h4, h⟩
    ·cases h
     exact path (ob_b h1 (ob_b h2 (ob_b3 h3 (ob_b h4 ob)))) (by kernel_rfl)
    ·cases h
     exact path (ob_b h1 (ob_b h2 (ob_b3 h3 (ob_b h4 ob)))) (by kernel_rfl)
theorem pred_arity_j2.ok (ht : TabOk t call) (n : Nat) (a1 : Int) (a2 : Bool) (r : _) (h : pred_arity_j2 t n a1 a2 = some r) : exec (env Tryz.prog 117 Tryz.f117 call) n (sub [1, 0, 0, 1, 1, 1] (bodyOf Tryz.f117)) (mkSt 37 37 [(0, (I6 a1)), (13, (Bo a2))] []) = some (pred_arity_j2.to r) := by
 rw [pred_arity_j2] at h
 rcases fk h with ⟨h1, h⟩ | ⟨h1, h⟩
 ·cases h
  exact path (ob_b h1 ob) (by kernel_rfl)
 ·rcases fk h with ⟨h2, h⟩ | ⟨h2, h⟩
  ·have h3 := h
   rcases r with ⟨a3, a4, a5, a6⟩ | _
   ·exact path (ob_b h1 (ob_b3 h2 (ob_j (pred_arity_j3.ok ht n _ _ _ h3) ob))) (by kernel_rfl)
   ·exact path (ob_b h1 (ob_b3 h2 (ob_j (pred_arity_j3.ok ht n _ _ _ h3) ob))) (by kernel_rfl)
  ·have h4 := h
   rcases r with ⟨a7, a8, a9, a10⟩ | _
   ·exact path (ob_b h1 (ob_b3 h2 (ob_j (pred_arity_j3.ok ht n _ _ _ h4) ob))) (by kernel_rfl)
   ·exact path (ob_b h1 (ob_b3 h2 (ob_j (pred_arity_j3.ok ht n _ _ _ h4) ob))) (by kernel_rfl)
theorem pred_arity_j1.ok (ht : TabOk t call) (n : Nat) (a1 : Int) (a2 : Bool) (r : _) (h : pred_arity_j1 t n a1 a2 = some r) : exec (env Tryz.prog 117 Tryz.f117 call) n (sub [1, 0, 0, 1] (bodyOf Tryz.f117)) (mkSt 37 37 [(0, (I6 a1)), (6, (Bo a2))] []) = some (pred_arity_j1.to r) := by
 rw [pred_arity_j1] at h
 rcases fk h with ⟨h1, h⟩ | ⟨h1, h⟩
 ·cases h
  exact path (ob_b h1 ob) (by kernel_rfl)
 ·rcases fk h with ⟨h2, h⟩ | ⟨h2, h⟩
  ·have h3 := h
   rcases r with ⟨a3, a4, a5, a6⟩ | _
   ·exact path (ob_b h1 (ob_b3 h2 (ob_j (pred_arity_j2.ok ht n _ _ _ h3) ob))) (by kernel_rfl)
   ·exact path (ob_b h1 (ob_b3 h2 (ob_j (pred_arity_j2.ok ht n _ _ _ h3) ob))) (by kernel_rfl)
  ·have h4 := h
   rcases r with ⟨a7, a8, a9, a10⟩ | _
   ·exact path (ob_b h1 (ob_b3 h2 (ob_j (pred_arity_j2.ok ht n _ _ _ h4) ob))) (by kernel_rfl)
   ·exact path (ob_b h1 (ob_b3 h2 (ob_j (pred_arity_j2.ok ht n _ _ _ h4) ob))) (by kernel_rfl)
theorem pred_arity.ok {n : Nat} {t : Tab} (ht : TabOk t (run Tryz.prog own kp X n)) : ∀ (p1 : Int) r, pred_arity t n p1 = some r → run Tryz.prog own kp X (n + 1) 117 [(I6 p1)] [] = some ((.tup [(.v (.int .i64 r.1)), (.v (.int .i64 r.2.1)), (.v (.int .i64 r.2.2.1)), (.v (.int .i64 r.2.2.2))]), []) := by
 intro p1 r h
 obtain ⟨a1, rfl⟩ : ∃ z_, z_ = p1 := ⟨_, rfl⟩
 rw [pred_arity] at h
 rcases fk h with ⟨h1, h⟩ | ⟨h1, h⟩
 ·obtain ⟨⟨a2, a3, a4, a5⟩ | _, h2, h⟩ := sm h
  ·cases h
   exact run_path Tryz.func117 (ob_b3 h1 (ob_j (pred_arity_j1.ok ht n _ _ _ h2) ob)) (by kernel_rfl)
  ·cases h
   exact run_path Tryz.func117 (ob_b3 h1 (ob_j (pred_arity_j1.ok ht n _ _ _ h2) ob)) (by kernel_rfl)
 ·obtain ⟨⟨a6, a7, a8, a9⟩ | _, h3, h⟩ := sm h
  ·cases h
   exact run_path Tryz.func117 (ob_b3 h1 (ob_j (pred_arity_j1.ok ht n _ _ _ h3) ob)) (by kernel_rfl)
  ·cases h
   exact run_path Tryz.func117 (ob_b3 h1 (ob_j (pred_arity_j1.ok ht n _ _ _ h3) ob)) (by kernel_rfl)
theorem slices_ContainsFunc_pred_right_1.ok {n : Nat} {t : Tab} (ht : TabOk t (run Tryz.prog own kp X n)) : ∀ (p1 : List GPred) (p2 : Int) r, slices_ContainsFunc_pred_right_1 t n p1 p2 = some r → run Tryz.prog own kp X (n + 1) 120 [(Sl 3 (GPred.ts p1)), (.fn 118 [(.ref (.v (.int .i64 p2)))])] [] = some ((Bo r), []) := by
 intro p1 p2 r h
 obtain ⟨a1, rfl⟩ : ∃ z_, z_ = p1 := ⟨_, rfl⟩
 obtain ⟨a2, rfl⟩ : ∃ z_, z_ = p2 := ⟨_, rfl⟩
 rw [slices_ContainsFunc_pred_right_1] at h
 obtain ⟨a3, h1, h⟩ := sm h
 cases h
 exact run_path Tryz.func120 (ob_c (ht.slices_IndexFunc_pred_right_1 _ _ _ h1) ob) (by kernel_rfl)
theorem slices_ContainsFunc_pred_right_2.ok {n : Nat} {t : Tab} (ht : TabOk t (run Tryz.prog own kp X n)) : ∀ (p1 : List GValue) r, slices_ContainsFunc_pred_right_2 t n p1 = some r → run Tryz.prog own kp X (n + 1) 121 [(Sl 5 (GValue.ts p1)), (.fn 119 [])] [] = some ((Bo r), []) := by
 intro p1 r h
 obtain ⟨a1, rfl⟩ : ∃ z_, z_ = p1 := ⟨_, rfl⟩
 rw [slices_ContainsFunc_pred_right_2] at h
 obtain ⟨a2, h1, h⟩ := sm h
 cases h
 exact run_path Tryz.func121 (ob_c (ht.slices_IndexFunc_pred_right_2 _ _ h1) ob) (by kernel_rfl)
theorem slices_Index_string_l1.okL (ht : TabOk t call) (n : Nat) : ∀ (k : Nat) (a1 : List ByteArray) (a2 : ByteArray) (a3 a4 : Int) (r : _), slices_Index_string_l1 t n k a1 a2 a3 a4 = some r → loopN (exec (env Tryz.prog 122 Tryz.f122 call) n (sub [1, 0, 1, 0, 0] (bodyOf Tryz.f122))) k (mkSt 19 19 [(0, (Sl 1 (texts a1))), (1, (Sr a2)), (7, (I6 a3)), (8, (I6 a4))] []) = some (slices_Index_string_l1.to r)
 | 0, a1, a2, a3, a4, r, h => by rw [slices_Index_string_l1] at h; cases h
 | k + 1, a1, a2, a3, a4, r, h => by
  rw [slices_Index_string_l1] at h
  rcases fk h with ⟨h1, h⟩ | ⟨h1, h⟩
  ·obtain ⟨h2, h⟩ := ck h
   obtain ⟨a5, h3, h⟩ := sm h
   rcases fk h with ⟨h4, h⟩ | ⟨h4, h⟩
   ·cases h
    exact loop_out (path (ob_b h1 (ob_n h2 (ob_t (look_ts texts_map h3) (ob_b h4 ob)))) (by kernel_rfl)) (fun h => by cases h)
   ·exact loop_more (path (ob_b h1 (ob_n h2 (ob_t (look_ts texts_map h3) (ob_b h4 ob)))) (by kernel_rfl)) (slices_Index_string_l1.okL ht n k _ _ _ _ _ h)
  ·cases h
   exact loop_out (path (ob_b h1 ob) (by kernel_rfl)) (fun h => by cases h)
theorem slices_Index_string.ok {n : Nat} {t : Tab} (ht : TabOk t (run Tryz.prog own kp X n)) : ∀ (p1 : List ByteArray) (p2 : ByteArray) r, slices_Index_string t n p1 p2 = some r → run Tryz.prog own kp X (n + 1) 122 [(Sl 1 (texts p1)), (Sr p2)] [] = some ((I6 r), []) := by
 intro p1 p2 r h
 obtain ⟨a1, rfl⟩ : ∃ z_, z_ = p1 := ⟨_, rfl⟩
 obtain ⟨a2, rfl⟩ : ∃ z_, z_ = p2 := ⟨_, rfl⟩
 rw [slices_Index_string] at h
 obtain ⟨a3 | ⟨a4, a5, a6, a7, a8⟩, h1, h⟩ := sm h
 ·cases h
  exact run_path Tryz.func122 (ob_v (len_ts texts_map (l := a1)) (ob_k (lk (sub [1, 0, 1, 0] (bodyOf Tryz.f122)) (by kernel_rfl) (slices_Index_string_l1.okL ht n n _ _ _ _ _ h1)) ob)) (by kernel_rfl)
 ·cases h
  exact run_path Tryz.func122 (ob_v (len_ts texts_map (l := a1)) (ob_k (lk (sub [1, 0, 1, 0] (bodyOf Tryz.f122)) (by kernel_rfl) (slices_Index_string_l1.okL ht n n _ _ _ _ _ h1)) ob)) (by kernel_rfl)
theorem value_compare_j1.ok (ht : TabOk t call) (n : Nat) (a1 a2 : Int) (a3 : ByteArray) (a4 a5 : List GValue) (a6 a7 : Int) (a8 : ByteArray) (a9 a10 : List GValue) (a11 : Int) (r : _) (h : value_compare_j1 t n a1 a2 a3 a4 a5 a6 a7 a8 a9 a10 a11 = some r) : exec (env Tryz.prog 94 Tryz.f94 call) n (sub [1, 1] (bodyOf Tryz.f94)) (mkSt 48 48 [(3, (.ptr 3 0 [] 0)), (4, (.ptr 4 0 [] 0)), (5, (.ptr 5 0 [] 0))] [(3, (.t (.st [(.v (.int .i64 a1)), (.v (.int .i64 a2)), (.v (.string a3)), (.sl false 5 (GValue.ts a4)), (.sl false 5 (GValue.ts a5))]))), (4, (.t (.st [(.v (.int .i64 a6)), (.v (.int .i64 a7)), (.v (.string a8)), (.sl false 5 (GValue.ts a9)), (.sl false 5 (GValue.ts a10))]))), (5, (I6 a11))]) = some (value_compare_j1.to r) := by
 rw [value_compare_j1] at h
 obtain ⟨a12, h1, h⟩ := sm h
 obtain ⟨a13, h2, h⟩ := sm h
 obtain ⟨a14, rfl⟩ : ∃ z_, z_ = r := ⟨_, rfl⟩
 have h3 := h
 exact path (ob_c (ht.slices_CompareFunc_value_compare_1 _ _ _ _ h1) (ob_c (ht.slices_CompareFunc_value_compare_1 _ _ _ _ h2) (ob_c (ht.cmp_Or_int _ _ h3) ob))) (by kernel_rfl)
theorem value_compare.ok {n : Nat} {t : Tab} (ht : TabOk t (run Tryz.prog own kp X n)) : ∀ (p1 : GValue) (p2 : GValue) (p3 : Int) r, value_compare t n p1 p2 p3 = some r → run Tryz.prog own kp X (n + 1) 94 [(.t (GValue.t p1)), (.t (GValue.t p2)), (I6 p3)] [] = some ((I6 r), []) := by
 intro p1 p2 p3 r h
 obtain ⟨a1, a2, a3, a4, a5⟩ := p1
 obtain ⟨a6, a7, a8, a9, a10⟩ := p2
 obtain ⟨a11, rfl⟩ : ∃ z_, z_ = p3 := ⟨_, rfl⟩
 rw [value_compare] at h
 obtain ⟨a12, h1, h⟩ := sm h
 obtain ⟨a13, h2, h⟩ := sm h
 obtain ⟨a14, h3, h⟩ := sm h
 obtain ⟨a15, h4, h⟩ := sm h
 have o4 {os} (x : Obls (env Tryz.prog 94 Tryz.f94 (run Tryz.prog own kp X n)) n os) := ob_c (ht.cmp_Compare_int _ _ _ h1) (ob_c (ht.cmp_Compare_int _ _ _ h2) (ob_c (ht.strings_Compare _ _ _ h3) (ob_c (ht.cmp_Or_int _ _ h4) x)))
 rcases fk h with ⟨h5, h⟩ | ⟨h5, h⟩
 ·cases h
  exact run_path Tryz.func94 (o4 (ob_b3 h5 (ob_b (rfl : true = true) ob))) (by kernel_rfl)
 ·rcases fk h with ⟨h6, h⟩ | ⟨h6, h⟩
  ·cases h
   exact run_path Tryz.func94 (o4 (ob_b3 h5 (ob_b h6 ob))) (by kernel_rfl)
  ·obtain ⟨a16, rfl⟩ : ∃ z_, z_ = r := ⟨_, rfl⟩
   have h7 := h
   exact run_path Tryz.func94 (o4 (ob_b3 h5 (ob_b h6 (ob_j (value_compare_j1.ok ht n _ _ _ _ _ _ _ _ _ _ _ _ h7) ob)))) (by kernel_rfl)
theorem slices_IndexFunc_plan_numbers_1_l1.okL (ht : TabOk t call) (n : Nat) : ∀ (k : Nat) (a1 : List Int) (a2 a3 : Int) (r : _), slices_IndexFunc_plan_numbers_1_l1 t n k a1 a2 a3 = some r → loopN (exec (env Tryz.prog 115 Tryz.f115 call) n (sub [1, 0, 1, 0, 0] (bodyOf Tryz.f115))) k (mkSt 19 19 [(0, (Sl 1 (ints_i64 a1))), (1, (.fn 103 [])), (7, (I6 a2)), (8, (I6 a3))] []) = some (slices_IndexFunc_plan_numbers_1_l1.to r)
 | 0, a1, a2, a3, r, h => by rw [slices_IndexFunc_plan_numbers_1_l1] at h; cases h
 | k + 1, a1, a2, a3, r, h => by
  rw [slices_IndexFunc_plan_numbers_1_l1] at h
  rcases fk h with ⟨h1, h⟩ | ⟨h1, h⟩
  ·obtain ⟨h2, h⟩ := ck h
   obtain ⟨a4, h3, h⟩ := sm h
   obtain ⟨a5, h4, h⟩ := sm h
   rcases fk h with ⟨h5, h⟩ | ⟨h5, h⟩
   ·cases h
    exact loop_out (path (ob_b h1 (ob_n h2 (ob_t (look_ts ints_i64_map h3) (ob_c (ht.plan_numbers_1 _ _ h4) (ob_b h5 ob))))) (by kernel_rfl)) (fun h => by cases h)
   ·exact loop_more (path (ob_b h1 (ob_n h2 (ob_t (look_ts ints_i64_map h3) (ob_c (ht.plan_numbers_1 _ _ h4) (ob_b h5 ob))))) (by kernel_rfl)) (slices_IndexFunc_plan_numbers_1_l1.okL ht n k _ _ _ _ h)
  ·cases h
   exact loop_out (path (ob_b h1 ob) (by kernel_rfl)) (fun h => by cases h)
theorem slices_IndexFunc_plan_numbers_1.ok {n : Nat} {t : Tab} (ht : TabOk t (run Tryz.prog own kp X n)) : ∀ (p1 : List Int) r, slices_IndexFunc_plan_numbers_1 t n p1 = some r → run Tryz.prog own kp X (n + 1) 115 [(Sl 1 (ints_i64 p1)), (.fn 103 [])] [] = some ((I6 r), []) := by
 intro p1 r h
 obtain ⟨a1, rfl⟩ : ∃ z_, z_ = p1 := ⟨_, rfl⟩
 rw [slices_IndexFunc_plan_numbers_1] at h
 obtain ⟨a2 | ⟨a3, a4, a5, a6⟩, h1, h⟩ := sm h
 ·cases h
  exact run_path Tryz.func115 (ob_v (len_ts ints_i64_map (l := a1)) (ob_k (lk (sub [1, 0, 1, 0] (bodyOf Tryz.f115)) (by kernel_rfl) (slices_IndexFunc_plan_numbers_1_l1.okL ht n n _ _ _ _ h1)) ob)) (by kernel_rfl)
 ·cases h
  exact run_path Tryz.func115 (ob_v (len_ts ints_i64_map (l := a1)) (ob_k (lk (sub [1, 0, 1, 0] (bodyOf Tryz.f115)) (by kernel_rfl) (slices_IndexFunc_plan_numbers_1_l1.okL ht n n _ _ _ _ h1)) ob)) (by kernel_rfl)
theorem graph_sign_j1.ok (ht : TabOk t call) (n : Nat) (a1 : Int) (a2 a3 : Bool) (r : _) (h : graph_sign_j1 t n a1 a2 a3 = some r) : exec (env Tryz.prog 100 Tryz.f100 call) n (sub [1, 0, 0, 0, 1] (bodyOf Tryz.f100)) (mkSt 29 29 [(0, (.t (.v (.int .u8 a1)))), (1, (Bo a2)), (5, (Bo a3))] []) = some (graph_sign_j1.to r) := by
 rw [graph_sign_j1] at h
 rcases fk h with ⟨h1, h⟩ | ⟨h1, h⟩
 ·cases h
  exact path (ob_b h1 ob) (by kernel_rfl)
 ·rcases fk h with ⟨h2, h⟩ | ⟨h2, h⟩
  ·rcases fk h with ⟨h3, h⟩ | ⟨h3, h⟩
   ·cases h
    exact path (ob_b h1 (ob_b3 h2 (ob_b h3 ob))) (by kernel_rfl)
   ·cases h
    exact path (ob_b h1 (ob_b3 h2 (ob_b h3 ob))) (by kernel_rfl)
  ·cases h
   exact path (ob_b h1 (ob_b3 h2 (ob_b (rfl : false = false) ob))) (by kernel_rfl)
theorem graph_sign_j2.ok (ht : TabOk t call) (n : Nat) (a1 : Int) (a2 a3 : Bool) (r : _) (h : graph_sign_j2 t n a1 a2 a3 = some r) : exec (env Tryz.prog 100 Tryz.f100 call) n (sub [1, 0, 0, 1] (bodyOf Tryz.f100)) (mkSt 29 29 [(0, (.t (.v (.int .u8 a1)))), (1, (Bo a2)), (5, (Bo a3))] []) = some (graph_sign_j2.to r) := by
 rw [graph_sign_j2] at h
 rcases fk h with ⟨h1, h⟩ | ⟨h1, h⟩
 ·cases h
  exact path (ob_b h1 ob) (by kernel_rfl)
 ·rcases fk h with ⟨h2, h⟩ | ⟨h2, h⟩
  ·rcases fk h with ⟨h3, h⟩ | ⟨h3, h⟩
   ·cases h
    exact path (ob_b h1 (ob_b3 h2 (ob_b h3 ob))) (by kernel_rfl)
   ·cases h
    exact path (ob_b h1 (ob_b3 h2 (ob_b h3 ob))) (by kernel_rfl)
  ·cases h
   exact path (ob_b h1 (ob_b3 h2 (ob_b (rfl : false = false) ob))) (by kernel_rfl)
theorem graph_sign.ok {n : Nat} {t : Tab} (ht : TabOk t (run Tryz.prog own kp X n)) : ∀ (p1 : Int) (p2 : Bool) r, graph_sign t n p1 p2 = some r → run Tryz.prog own kp X (n + 1) 100 [(.t (.v (.int .u8 p1))), (Bo p2)] [] = some ((Bo r), []) := by
 intro p1 p2 r h
 obtain ⟨a1, rfl⟩ : ∃ z_, z_ = p1 := ⟨_, rfl⟩
 obtain ⟨a2, rfl⟩ : ∃ z_, z_ = p2 := ⟨_, rfl⟩
 rw [graph_sign] at h
 rcases fk h with ⟨h1, h⟩ | ⟨h1, h⟩
 ·obtain ⟨⟨a3, a4, a5⟩, h2, h⟩ := sm h
  obtain ⟨a6 | _, h3, h⟩ := sm h
  ·cases h
   exact run_path Tryz.func100 (ob_b3 h1 (ob_j (graph_sign_j1.ok ht n _ _ _ _ h2) (ob_j (graph_sign_j2.ok ht n _ _ _ _ h3) ob))) (by kernel_rfl)
  ·cases h
   exact run_path Tryz.func100 (ob_b3 h1 (ob_j (graph_sign_j1.ok ht n _ _ _ _ h2) (ob_j (graph_sign_j2.ok ht n _ _ _ _ h3) ob))) (by kernel_rfl)
 ·obtain ⟨⟨a7, a8, a9⟩, h4, h⟩ := sm h
  obtain ⟨a10 | _, h5, h⟩ := sm h
  ·cases h
   exact run_path Tryz.func100 (ob_b3 h1 (ob_j (graph_sign_j1.ok ht n _ _ _ _ h4) (ob_j (graph_sign_j2.ok ht n _ _ _ _ h5) ob))) (by kernel_rfl)
  ·cases h
   exact run_path Tryz.func100 (ob_b3 h1 (ob_j (graph_sign_j1.ok ht n _ _ _ _ h4) (ob_j (graph_sign_j2.ok ht n _ _ _ _ h5) ob))) (by kernel_rfl)
theorem slices_Index_int_l1.okL (ht : TabOk t call) (n : Nat) : ∀ (k : Nat) (a1 : List Int) (a2 a3 a4 : Int) (r : _), slices_Index_int_l1 t n k a1 a2 a3 a4 = some r → loopN (exec (env Tryz.prog 74 Tryz.f74 call) n (sub [1, 0, 1, 0, 0] (bodyOf Tryz.f74))) k (mkSt 19 19 [(0, (Sl 1 (ints_i64 a1))), (1, (I6 a2)), (7, (I6 a3)), (8, (I6 a4))] []) = some (slices_Index_int_l1.to r)
 | 0, a1, a2, a3, a4, r, h => by rw [slices_Index_int_l1] at h; cases h
 | k + 1, a1, a2, a3, a4, r, h => by
  rw [slices_Index_int_l1] at h
  rcases fk h with ⟨h1, h⟩ | ⟨h1, h⟩
  ·obtain ⟨h2, h⟩ := ck h
   obtain ⟨a5, h3, h⟩ := sm h
   rcases fk h with ⟨h4, h⟩ | ⟨h4, h⟩
   ·cases h
    exact loop_out (path (ob_b h1 (ob_n h2 (ob_t (look_ts ints_i64_map h3) (ob_b h4 ob)))) (by kernel_rfl)) (fun h => by cases h)
   ·exact loop_more (path (ob_b h1 (ob_n h2 (ob_t (look_ts ints_i64_map h3) (ob_b h4 ob)))) (by kernel_rfl)) (slices_Index_int_l1.okL ht n k _ _ _ _ _ h)
  ·cases h
   exact loop_out (path (ob_b h1 ob) (by kernel_rfl)) (fun h => by cases h)
theorem slices_Index_int.ok {n : Nat} {t : Tab} (ht : TabOk t (run Tryz.prog own kp X n)) : ∀ (p1 : List Int) (p2 : Int) r, slices_Index_int t n p1 p2 = some r → run Tryz.prog own kp X (n + 1) 74 [(Sl 1 (ints_i64 p1)), (I6 p2)] [] = some ((I6 r), []) := by
 intro p1 p2 r h
 obtain ⟨a1, rfl⟩ : ∃ z_, z_ = p1 := ⟨_, rfl⟩
 obtain ⟨a2, rfl⟩ : ∃ z_, z_ = p2 := ⟨_, rfl⟩
 rw [slices_Index_int] at h
 obtain ⟨a3 | ⟨a4, a5, a6, a7, a8⟩, h1, h⟩ := sm h
 ·cases h
  exact run_path Tryz.func74 (ob_v (len_ts ints_i64_map (l := a1)) (ob_k (lk (sub [1, 0, 1, 0] (bodyOf Tryz.f74)) (by kernel_rfl) (slices_Index_int_l1.okL ht n n _ _ _ _ _ h1)) ob)) (by kernel_rfl)
 ·cases h
  exact run_path Tryz.func74 (ob_v (len_ts ints_i64_map (l := a1)) (ob_k (lk (sub [1, 0, 1, 0] (bodyOf Tryz.f74)) (by kernel_rfl) (slices_Index_int_l1.okL ht n n _ _ _ _ _ h1)) ob)) (by kernel_rfl)
theorem plan_some_1_1_plan_Uses_1.ok {n : Nat} {t : Tab} (ht : TabOk t (run Tryz.prog own kp X n)) : ∀ (p1 : List GStep) (p2 : List Int) r, plan_some_1_1_plan_Uses_1 t n p1 p2 = some r → run Tryz.prog own kp X (n + 1) 62 [(Sl 14 (GStep.ts p1)), (.fref 49 [(.ref (.sl false 1 (ints_i64 p2)))])] [] = some ((Bo r), []) := by
 intro p1 p2 r h
 obtain ⟨a1, rfl⟩ : ∃ z_, z_ = p1 := ⟨_, rfl⟩
 obtain ⟨a2, rfl⟩ : ∃ z_, z_ = p2 := ⟨_, rfl⟩
 rw [plan_some_1_1_plan_Uses_1] at h
 obtain ⟨a3, rfl⟩ : ∃ z_, z_ = r := ⟨_, rfl⟩
 have h1 := h
 exact run_path Tryz.func62 (ob_c (ht.plan_plan_Uses_1 _ _ _ h1) ob) (by kernel_rfl)
theorem slices_IndexFunc_pred_right_1_l1.okL (ht : TabOk t call) (n : Nat) : ∀ (k : Nat) (a1 : List GPred) (a2 a3 a4 : Int) (r : _), slices_IndexFunc_pred_right_1_l1 t n k a1 a2 a3 a4 = some r → loopN (exec (env Tryz.prog 126 Tryz.f126 call) n (sub [1, 0, 1, 0, 0] (bodyOf Tryz.f126))) k (mkSt 19 19 [(0, (Sl 3 (GPred.ts a1))), (1, (.fn 118 [(.ref (.v (.int .i64 a2)))])), (7, (I6 a3)), (8, (I6 a4))] []) = some (slices_IndexFunc_pred_right_1_l1.to r)
 | 0, a1, a2, a3, a4, r, h => by rw [slices_IndexFunc_pred_right_1_l1] at h; cases h
 | k + 1, a1, a2, a3, a4, r, h => by
  rw [slices_IndexFunc_pred_right_1_l1] at h
  rcases fk h with ⟨h1, h⟩ | ⟨h1, h⟩
  ·obtain ⟨h2, h⟩ := ck h
   obtain ⟨⟨a5, a6, a7⟩, h3, h⟩ := sm h
   obtain ⟨a8, h4, h⟩ := sm h
   rcases fk h with ⟨h5, h⟩ | ⟨h5, h⟩
   ·cases h
    exact loop_out (path (ob_b h1 (ob_n h2 (ob_t (look_ts GPred.ts_map h3) (ob_c (ht.pred_right_1 _ _ _ h4) (ob_b h5 ob))))) (by kernel_rfl)) (fun h => by cases h)
   ·exact loop_more (path (ob_b h1 (ob_n h2 (ob_t (look_ts GPred.ts_map h3) (ob_c (ht.pred_right_1 _ _ _ h4) (ob_b h5 ob))))) (by kernel_rfl)) (slices_IndexFunc_pred_right_1_l1.okL ht n k _ _ _ _ _ h)
  ·cases h
   exact loop_out (path (ob_b h1 ob) (by kernel_rfl)) (fun h => by cases h)
theorem slices_IndexFunc_pred_right_1.ok {n : Nat} {t : Tab} (ht : TabOk t (run Tryz.prog own kp X n)) : ∀ (p1 : List GPred) (p2 : Int) r, slices_IndexFunc_pred_right_1 t n p1 p2 = some r → run Tryz.prog own kp X (n + 1) 126 [(Sl 3 (GPred.ts p1)), (.fn 118 [(.ref (.v (.int .i64 p2)))])] [] = some ((I6 r), []) := by
 intro p1 p2 r h
 obtain ⟨a1, rfl⟩ : ∃ z_, z_ = p1 := ⟨_, rfl⟩
 obtain ⟨a2, rfl⟩ : ∃ z_, z_ = p2 := ⟨_, rfl⟩
 rw [slices_IndexFunc_pred_right_1] at h
 obtain ⟨a3 | ⟨a4, a5, a6, a7, a8⟩, h1, h⟩ := sm h
 ·cases h
  exact run_path Tryz.func126 (ob_v (len_ts GPred.ts_map (l := a1)) (ob_k (lk (sub [1, 0, 1, 0] (bodyOf Tryz.f126)) (by kernel_rfl) (slices_IndexFunc_pred_right_1_l1.okL ht n n _ _ _ _ _ h1)) ob)) (by kernel_rfl)
 ·cases h
  exact run_path Tryz.func126 (ob_v (len_ts GPred.ts_map (l := a1)) (ob_k (lk (sub [1, 0, 1, 0] (bodyOf Tryz.f126)) (by kernel_rfl) (slices_IndexFunc_pred_right_1_l1.okL ht n n _ _ _ _ _ h1)) ob)) (by kernel_rfl)
theorem slices_IndexFunc_pred_right_2_l1.okL (ht : TabOk t call) (n : Nat) : ∀ (k : Nat) (a1 : List GValue) (a2 a3 : Int) (r : _), slices_IndexFunc_pred_right_2_l1 t n k a1 a2 a3 = some r → loopN (exec (env Tryz.prog 127 Tryz.f127 call) n (sub [1, 0, 1, 0, 0] (bodyOf Tryz.f127))) k (mkSt 19 19 [(0, (Sl 5 (GValue.ts a1))), (1, (.fn 119 [])), (7, (I6 a2)), (8, (I6 a3))] []) = some (slices_IndexFunc_pred_right_2_l1.to r)
 | 0, a1, a2, a3, r, h => by rw [slices_IndexFunc_pred_right_2_l1] at h; cases h
 | k + 1, a1, a2, a3, r, h => by
  rw [slices_IndexFunc_pred_right_2_l1] at h
  rcases fk h with ⟨h1, h⟩ | ⟨h1, h⟩
  ·obtain ⟨h2, h⟩ := ck h
   obtain ⟨⟨a4, a5, a6, a7, a8⟩, h3, h⟩ := sm h
   obtain ⟨a9, h4, h⟩ := sm h
   rcases fk h with ⟨h5, h⟩ | ⟨h5, h⟩
   ·cases h
    exact loop_out (path (ob_b h1 (ob_n h2 (ob_t (look_ts GValue.ts_map h3) (ob_c (ht.pred_right_2 _ _ h4) (ob_b h5 ob))))) (by kernel_rfl)) (fun h => by cases h)
   ·exact loop_more (path (ob_b h1 (ob_n h2 (ob_t (look_ts GValue.ts_map h3) (ob_c (ht.pred_right_2 _ _ h4) (ob_b h5 ob))))) (by kernel_rfl)) (slices_IndexFunc_pred_right_2_l1.okL ht n k _ _ _ _ h)
  ·cases h
   exact loop_out (path (ob_b h1 ob) (by kernel_rfl)) (fun h => by cases h)
theorem slices_IndexFunc_pred_right_2.ok {n : Nat} {t : Tab} (ht : TabOk t (run Tryz.prog own kp X n)) : ∀ (p1 : List GValue) r, slices_IndexFunc_pred_right_2 t n p1 = some r → run Tryz.prog own kp X (n + 1) 127 [(Sl 5 (GValue.ts p1)), (.fn 119 [])] [] = some ((I6 r), []) := by
 intro p1 r h
 obtain ⟨a1, rfl⟩ : ∃ z_, z_ = p1 := ⟨_, rfl⟩
 rw [slices_IndexFunc_pred_right_2] at h
 obtain ⟨a2 | ⟨a3, a4, a5, a6⟩, h1, h⟩ := sm h
 ·cases h
  exact run_path Tryz.func127 (ob_v (len_ts GValue.ts_map (l := a1)) (ob_k (lk (sub [1, 0, 1, 0] (bodyOf Tryz.f127)) (by kernel_rfl) (slices_IndexFunc_pred_right_2_l1.okL ht n n _ _ _ _ h1)) ob)) (by kernel_rfl)
 ·cases h
  exact run_path Tryz.func127 (ob_v (len_ts GValue.ts_map (l := a1)) (ob_k (lk (sub [1, 0, 1, 0] (bodyOf Tryz.f127)) (by kernel_rfl) (slices_IndexFunc_pred_right_2_l1.okL ht n n _ _ _ _ h1)) ob)) (by kernel_rfl)
theorem cmp_Compare_int.ok {n : Nat} {t : Tab} (ht : TabOk t (run Tryz.prog own kp X n)) : ∀ (p1 : Int) (p2 : Int) r, cmp_Compare_int t n p1 p2 = some r → run Tryz.prog own kp X (n + 1) 110 [(I6 p1), (I6 p2)] [] = some ((I6 r), []) := by
 intro p1 p2 r h
 obtain ⟨a1, rfl⟩ : ∃ z_, z_ = p1 := ⟨_, rfl⟩
 obtain ⟨a2, rfl⟩ : ∃ z_, z_ = p2 := ⟨_, rfl⟩
 rw [cmp_Compare_int] at h
 obtain ⟨a3, h1, h⟩ := sm h
 obtain ⟨a4, h2, h⟩ := sm h
 have o2 {os} (x : Obls (env Tryz.prog 110 Tryz.f110 (run Tryz.prog own kp X n)) n os) := ob_c (ht.cmp_isNaN_int _ _ h1) (ob_c (ht.cmp_isNaN_int _ _ h2) x)
 rcases fk h with ⟨h3, h⟩ | ⟨h3, h⟩
 ·rcases fk h with ⟨h4, h⟩ | ⟨h4, h⟩
  ·cases h
   exact run_path Tryz.func110 (o2 (ob_b h3 (ob_b h4 ob))) (by kernel_rfl)
  ·cases h
   exact run_path Tryz.func110 (o2 (ob_b h3 (ob_b h4 ob))) (by kernel_rfl)
 ·rcases fk h with ⟨h5, h⟩ | ⟨h5, h⟩
  ·cases h
   exact run_path Tryz.func110 (o2 (ob_b h3 (ob_b h5 ob))) (by kernel_rfl)
  ·rcases fk h with ⟨h6, h⟩ | ⟨h6, h⟩
   ·cases h
    exact run_path Tryz.func110 (o2 (ob_b h3 (ob_b h5 (ob_b h6 ob)))) (by kernel_rfl)
   ·rcases fk h with ⟨h7, h⟩ | ⟨h7, h⟩
    ·cases h
     exact run_path Tryz.func110 (o2 (ob_b h3 (ob_b h5 (ob_b h6 (ob_b h7 ob))))) (by kernel_rfl)
    ·cases h
     exact run_path Tryz.func110 (o2 (ob_b h3 (ob_b h5 (ob_b h6 (ob_b h7 ob))))) (by kernel_rfl)
theorem strings_Compare.ok {n : Nat} {t : Tab} (ht : TabOk t (run Tryz.prog own kp X n)) : ∀ (p1 : ByteArray) (p2 : ByteArray) r, strings_Compare t n p1 p2 = some r → run Tryz.prog own kp X (n + 1) 111 [(Sr p1), (Sr p2)] [] = some ((I6 r), []) := by
 intro p1 p2 r h
 obtain ⟨a1, rfl⟩ : ∃ z_, z_ = p1 := ⟨_, rfl⟩
 obtain ⟨a2, rfl⟩ : ∃ z_, z_ = p2 := ⟨_, rfl⟩
 rw [strings_Compare] at h
 obtain ⟨a3, rfl⟩ : ∃ z_, z_ = r := ⟨_, rfl⟩
 have h1 := h
 exact run_path Tryz.func111 (ob_c (ht.bytealg_CompareString _ _ _ h1) ob) (by kernel_rfl)
theorem cmp_Or_int_l1.okL (ht : TabOk t call) (n : Nat) : ∀ (k : Nat) (a1 : Int) (a2 : List Int) (a3 a4 : Int) (r : _), cmp_Or_int_l1 t n k a1 a2 a3 a4 = some r → loopN (exec (env Tryz.prog 109 Tryz.f109 call) n (sub [1, 1, 0, 1, 0, 0] (bodyOf Tryz.f109))) k (mkSt 18 18 [(3, (I6 a1)), (6, (Sl 1 (ints_i64 a2))), (7, (I6 a3)), (8, (I6 a4))] []) = some (cmp_Or_int_l1.to r)
 | 0, a1, a2, a3, a4, r, h => by rw [cmp_Or_int_l1] at h; cases h
 | k + 1, a1, a2, a3, a4, r, h => by
  rw [cmp_Or_int_l1] at h
  rcases fk h with ⟨h1, h⟩ | ⟨h1, h⟩
  ·obtain ⟨h2, h⟩ := ck h
   obtain ⟨a5, h3, h⟩ := sm h
   rcases fk h with ⟨h4, h⟩ | ⟨h4, h⟩
   ·cases h
    exact loop_out (path (ob_b h1 (ob_n h2 (ob_t (look_ts ints_i64_map h3) (ob_b h4 ob)))) (by kernel_rfl)) (fun h => by cases h)
   ·exact loop_more (path (ob_b h1 (ob_n h2 (ob_t (look_ts ints_i64_map h3) (ob_b h4 ob)))) (by kernel_rfl)) (cmp_Or_int_l1.okL ht n k _ _ _ _ _ h)
  ·cases h
   exact loop_out (path (ob_b h1 ob) (by kernel_rfl)) (fun h => by cases h)
theorem cmp_Or_int.ok {n : Nat} {t : Tab} (ht : TabOk t (run Tryz.prog own kp X n)) : ∀ (p1 : List Int) r, cmp_Or_int t n p1 = some r → run Tryz.prog own kp X (n + 1) 109 [(Sl 1 (ints_i64 p1))] [] = some ((I6 r), []) := by
 intro p1 r h
 obtain ⟨a1, rfl⟩ : ∃ z_, z_ = p1 := ⟨_, rfl⟩
 rw [cmp_Or_int] at h
 obtain ⟨a2 | ⟨a3, a4, a5, a6, a7⟩, h1, h⟩ := sm h
 ·cases h
  exact run_path Tryz.func109 (ob_v (len_ts ints_i64_map (l := a1)) (ob_k (lk (sub [1, 1, 0, 1, 0] (bodyOf Tryz.f109)) (by kernel_rfl) (cmp_Or_int_l1.okL ht n n _ _ _ _ _ h1)) ob)) (by kernel_rfl)
 ·cases h
  exact run_path Tryz.func109 (ob_v (len_ts ints_i64_map (l := a1)) (ob_k (lk (sub [1, 1, 0, 1, 0] (bodyOf Tryz.f109)) (by kernel_rfl) (cmp_Or_int_l1.okL ht n n _ _ _ _ _ h1)) ob)) (by kernel_rfl)
theorem slices_CompareFunc_value_compare_1_l1.okL (ht : TabOk t call) (n : Nat) : ∀ (k : Nat) (a1 a2 : List GValue) (a3 : Int) (a4 : List GValue) (a5 a6 : Int) (r : _), slices_CompareFunc_value_compare_1_l1 t n k a1 a2 a3 a4 a5 a6 = some r → loopN (exec (env Tryz.prog 113 Tryz.f113 call) n (sub [1, 0, 1, 0, 0] (bodyOf Tryz.f113))) k (mkSt 39 39 [(0, (Sl 5 (GValue.ts a1))), (1, (Sl 5 (GValue.ts a2))), (2, (.fn 112 [(.ref (.v (.int .i64 a3)))])), (11, (Sl 5 (GValue.ts a4))), (12, (I6 a5)), (13, (I6 a6))] []) = some (slices_CompareFunc_value_compare_1_l1.to r)
 | 0, a1, a2, a3, a4, a5, a6, r, h => by rw [slices_CompareFunc_value_compare_1_l1] at h; cases h
 | k + 1, a1, a2, a3, a4, a5, a6, r, h => by
  rw [slices_CompareFunc_value_compare_1_l1] at h
  rcases fk h with ⟨h1, h⟩ | ⟨h1, h⟩
  ·obtain ⟨h2, h⟩ := ck h
   obtain ⟨⟨a7, a8, a9, a10, a11⟩, h3, h⟩ := sm h
   have o4 {os} (x : Obls (env Tryz.prog 113 Tryz.f113 call) n os) := ob_b h1 (ob_n h2 (ob_t (look_ts GValue.ts_map h3) (ob_v (len_ts GValue.ts_map (l := a2)) x)))
   rcases fk h with ⟨h4, h⟩ | ⟨h4, h⟩
   ·cases h
    exact loop_out (path (o4 (ob_b h4 ob)) (by kernel_rfl)) (fun h => by cases h)
   ·obtain ⟨⟨a12, a13, a14, a15, a16⟩, h5, h⟩ := sm h
    obtain ⟨a17, h6, h⟩ := sm h
    rcases fk h with ⟨h7, h⟩ | ⟨h7, h⟩
    ·cases h
     exact loop_out (path (o4 (ob_b h4 (ob_n h2 (ob_t (look_ts GValue.ts_map h5) (ob_c (ht.value_compare_1 _ _ _ _ h6) (ob_b h7 ob)))))) (by kernel_rfl)) (fun h => by cases h)
    ·exact loop_more (path (o4 (ob_b h4 (ob_n h2 (ob_t (look_ts GValue.ts_map h5) (ob_c (ht.value_compare_1 _ _ _ _ h6) (ob_b h7 ob)))))) (by kernel_rfl)) (slices_CompareFunc_value_compare_1_l1.okL ht n k _ _ _ _ _ _ _ h)
  ·cases h
   exact loop_out (path (ob_b h1 ob) (by kernel_rfl)) (fun h => by cases h)
theorem slices_CompareFunc_value_compare_1_j2.ok (ht : TabOk t call) (n : Nat) (a1 a2 : List GValue) (r : _) (h : slices_CompareFunc_value_compare_1_j2 t n a1 a2 = some r) : exec (env Tryz.prog 113 Tryz.f113 call) n (sub [1, 1] (bodyOf Tryz.f113)) (mkSt 39 39 [(0, (Sl 5 (GValue.ts a1))), (1, (Sl 5 (GValue.ts a2)))] []) = some (slices_CompareFunc_value_compare_1_j2.to r) := by
 rw [slices_CompareFunc_value_compare_1_j2] at h
 rcases fk h with ⟨h1, h⟩ | ⟨h1, h⟩
 ·cases h
  exact path (ob_v (len_ts GValue.ts_map (l := a1)) (ob_v (len_ts GValue.ts_map (l := a2)) (ob_b h1 ob))) (by kernel_rfl)
 ·cases h
  exact path (ob_v (len_ts GValue.ts_map (l := a1)) (ob_v (len_ts GValue.ts_map (l := a2)) (ob_b h1 ob))) (by kernel_rfl)
theorem slices_CompareFunc_value_compare_1.ok {n : Nat} {t : Tab} (ht : TabOk t (run Tryz.prog own kp X n)) : ∀ (p1 : List GValue) (p2 : List GValue) (p3 : Int) r, slices_CompareFunc_value_compare_1 t n p1 p2 p3 = some r → run Tryz.prog own kp X (n + 1) 113 [(Sl 5 (GValue.ts p1)), (Sl 5 (GValue.ts p2)), (.fn 112 [(.ref (.v (.int .i64 p3)))])] [] = some ((I6 r), []) := by
 intro p1 p2 p3 r h
 obtain ⟨a1, rfl⟩ : ∃ z_, z_ = p1 := ⟨_, rfl⟩
 obtain ⟨a2, rfl⟩ : ∃ z_, z_ = p2 := ⟨_, rfl⟩
 obtain ⟨a3, rfl⟩ : ∃ z_, z_ = p3 := ⟨_, rfl⟩
 rw [slices_CompareFunc_value_compare_1] at h
 obtain ⟨a4 | ⟨a5, a6, a7, a8, a9, a10, a11⟩, h1, h⟩ := sm h
 ·cases h
  exact run_path Tryz.func113 (ob_v (len_ts GValue.ts_map (l := a1)) (ob_k (lk (sub [1, 0, 1, 0] (bodyOf Tryz.f113)) (by kernel_rfl) (slices_CompareFunc_value_compare_1_l1.okL ht n n _ _ _ _ _ _ _ h1)) ob)) (by kernel_rfl)
 ·obtain ⟨a12, rfl⟩ : ∃ z_, z_ = r := ⟨_, rfl⟩
  have h2 := h
  exact run_path Tryz.func113 (ob_v (len_ts GValue.ts_map (l := a1)) (ob_k (lk (sub [1, 0, 1, 0] (bodyOf Tryz.f113)) (by kernel_rfl) (slices_CompareFunc_value_compare_1_l1.okL ht n n _ _ _ _ _ _ _ h1)) (ob_j (slices_CompareFunc_value_compare_1_j2.ok ht n _ _ _ h2) ob))) (by kernel_rfl)
theorem plan_numbers_1.ok {n : Nat} {t : Tab} (ht : TabOk t (run Tryz.prog own kp X n)) : ∀ (p1 : Int) r, plan_numbers_1 t n p1 = some r → run Tryz.prog own kp X (n + 1) 103 [(I6 p1)] [] = some ((Bo r), []) := by
 intro p1 r h
 obtain ⟨a1, rfl⟩ : ∃ z_, z_ = p1 := ⟨_, rfl⟩
 rw [plan_numbers_1] at h
 cases h
 exact run_path Tryz.func103 ob (by kernel_rfl)
theorem pred_right_1.ok {n : Nat} {t : Tab} (ht : TabOk t (run Tryz.prog own kp X n)) : ∀ (p1 : GPred) (p2 : Int) r, pred_right_1 t n p1 p2 = some r → run Tryz.prog own kp X (n + 1) 118 [(.t (GPred.t p1)), (.ref (.v (.int .i64 p2)))] [] = some ((Bo r), []) := by
 intro p1 p2 r h
 obtain ⟨a1, a2, a3⟩ := p1
 obtain ⟨a4, rfl⟩ : ∃ z_, z_ = p2 := ⟨_, rfl⟩
 rw [pred_right_1] at h
 obtain ⟨a5, h1, h⟩ := sm h
 cases h
 exact run_path Tryz.func118 (ob_c (ht.pred_right _ _ _ h1) ob) (by kernel_rfl)
theorem pred_right_2.ok {n : Nat} {t : Tab} (ht : TabOk t (run Tryz.prog own kp X n)) : ∀ (p1 : GValue) r, pred_right_2 t n p1 = some r → run Tryz.prog own kp X (n + 1) 119 [(.t (GValue.t p1))] [] = some ((Bo r), []) := by
 intro p1 r h
 obtain ⟨a1, a2, a3, a4, a5⟩ := p1
 rw [pred_right_2] at h
 obtain ⟨a6, h1, h⟩ := sm h
 cases h
 exact run_path Tryz.func119 (ob_c (ht.value_Check _ _ h1) ob) (by kernel_rfl)
theorem cmp_isNaN_int.ok {n : Nat} {t : Tab} (ht : TabOk t (run Tryz.prog own kp X n)) : ∀ (p1 : Int) r, cmp_isNaN_int t n p1 = some r → run Tryz.prog own kp X (n + 1) 123 [(I6 p1)] [] = some ((Bo r), []) := by
 intro p1 r h
 obtain ⟨a1, rfl⟩ : ∃ z_, z_ = p1 := ⟨_, rfl⟩
 rw [cmp_isNaN_int] at h
 cases h
 exact run_path Tryz.func123 ob (by kernel_rfl)
theorem value_compare_1.ok {n : Nat} {t : Tab} (ht : TabOk t (run Tryz.prog own kp X n)) : ∀ (p1 : GValue) (p2 : GValue) (p3 : Int) r, value_compare_1 t n p1 p2 p3 = some r → run Tryz.prog own kp X (n + 1) 112 [(.t (GValue.t p1)), (.t (GValue.t p2)), (.ref (.v (.int .i64 p3)))] [] = some ((I6 r), []) := by
 intro p1 p2 p3 r h
 obtain ⟨a1, a2, a3, a4, a5⟩ := p1
 obtain ⟨a6, a7, a8, a9, a10⟩ := p2
 obtain ⟨a11, rfl⟩ : ∃ z_, z_ = p3 := ⟨_, rfl⟩
 rw [value_compare_1] at h
 obtain ⟨a12, rfl⟩ : ∃ z_, z_ = r := ⟨_, rfl⟩
 have h1 := h
 exact run_path Tryz.func112 (ob_c (ht.value_compare _ _ _ _ h1) ob) (by kernel_rfl)
end Go.Proofs.YtgkfjhfehdefaaaGreatDoor.W
