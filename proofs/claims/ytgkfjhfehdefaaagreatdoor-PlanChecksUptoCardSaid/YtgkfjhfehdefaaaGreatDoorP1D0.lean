/- The proofs of it, part 0. -/
import Derived.Test.YtgkfjhfehdefaaaGreatDoorP1C
namespace Go.Proofs.YtgkfjhfehdefaaaGreatDoor.W
open Go.Proofs.YtgkfjhfehdefaaaGreatDoor.Flat
set_option linter.unusedVariables false
set_option linter.unusedSimpArgs false
set_option smartUnfolding false
attribute [local irreducible] graph_sign_j1 graph_sign_j2 plan_inner_j2 plan_numbers_j1 plan_step_j1 plan_steps_j3 pred_arity_j1 quoI ref02_Count_j2 ref02_Count_j5 ref02_Many_j2 ref02_compare_j3 ref02_fields_j1 ref02_rows_j2 ref02_texts_j2 ref05_Name_j2 ref09_Count_j2 ref09_right_j1 ref12_Inner_j2 ref12_Much_j2 ref12_Much_j4 ref12_Uses_j3 ref12_nest_j2 ref12_own_j1 ref12_right_j2 ref12_steps_j2 ref12_steps_j4 strAt value_plain_j5
variable {t : Tab} {call : FuncId → List AV → List AV → Option (AV × List AV)}
theorem law12_PlanChecks.ok {n : Nat} {t : Tab} (ht : TabOk t (run Tryz.prog own kp X n)) : ∀ (p1 : List GStep) (p2 : Int) r, law12_PlanChecks t n p1 p2 = some r → run Tryz.prog own kp X (n + 1) 3 [(Sl 14 (GStep.ts p1)), (I6 p2)] [] = some ((Bo r), []) := by
 intro p1 p2 r h
 obtain ⟨a1, rfl⟩ : ∃ z_, z_ = p1 := ⟨_, rfl⟩
 obtain ⟨a2, rfl⟩ : ∃ z_, z_ = p2 := ⟨_, rfl⟩
 rw [law12_PlanChecks] at h
 obtain ⟨a3, h1, h⟩ := sm h
 rcases fk h with ⟨h2, h⟩ | ⟨h2, h⟩
 ·obtain ⟨a4, rfl⟩ : ∃ z_, z_ = r := ⟨_, rfl⟩
  have h3 := h
  exact run_path Tryz.func3 (ob_c (ht.law12_much _ _ h1) (ob_b h2 (ob_c (ht.law12_known _ h3) ob))) (by kernel_rfl)
 ·obtain ⟨a5, h4, h⟩ := sm h
  obtain ⟨a6, h5, h⟩ := sm h
  have o4 {os} (x : Obls (env Tryz.prog 3 Tryz.f3 (run Tryz.prog own kp X n)) n os) := ob_c (ht.law12_much _ _ h1) (ob_b h2 (ob_c (ht.plan_Check _ _ h4) (ob_c (ht.ref12_Check _ _ h5) x)))
  rcases fk h with ⟨h6, h⟩ | ⟨h6, h⟩
  ·obtain ⟨a7, h7, h⟩ := sm h
   obtain ⟨a8, h8, h⟩ := sm h
   have o12 {os} (x : Obls (env Tryz.prog 3 Tryz.f3 (run Tryz.prog own kp X n)) n os) := o4 (ob_b2 h6 (ob_c (ht.plan_Steps _ _ h7) (ob_b2 h6 (ob_c (ht.ref12_Steps _ _ h8) (ob_b2 h6 x)))))
   rcases fk h with ⟨h9, h⟩ | ⟨h9, h⟩
   ·obtain ⟨a9, h10, h⟩ := sm h
    obtain ⟨a10, h11, h⟩ := sm h
    have o20 {os} (x : Obls (env Tryz.prog 3 Tryz.f3 (run Tryz.prog own kp X n)) n os) := o12 (ob_b2 h9 (ob_c (ht.plan_Nest _ _ h10) (ob_b2 h9 (ob_c (ht.ref12_Nest _ _ h11) (ob_b2 h9 x)))))
    rcases fk h with ⟨h12, h⟩ | ⟨h12, h⟩
    ·obtain ⟨a11, h13, h⟩ := sm h
     obtain ⟨a12, h14, h⟩ := sm h
     have o28 {os} (x : Obls (env Tryz.prog 3 Tryz.f3 (run Tryz.prog own kp X n)) n os) := o20 (ob_b2 h12 (ob_c (ht.plan_Free _ _ h13) (ob_b2 h12 (ob_c (ht.ref12_Free _ _ h14) (ob_b2 h12 x)))))
     rcases fk h with ⟨h15, h⟩ | ⟨h15, h⟩
     ·obtain ⟨a13, h16, h⟩ := sm h
      obtain ⟨a14, h17, h⟩ := sm h
      rcases fk h with ⟨h18, h⟩ | ⟨h18, h⟩
      ·obtain ⟨a15, rfl⟩ : ∃ z_, z_ = r := ⟨_, rfl⟩
       have h19 := h
       exact run_path Tryz.func3 (o28 (ob_b2 h15 (ob_c (ht.plan_Name _ _ h16) (ob_b2 h15 (ob_c (ht.ref12_Name _ _ h17) (ob_b2 h15 (ob_b h18 (ob_c (ht.law12_known _ h19) (ob_b h18 ob))))))))) (by kernel_rfl)
      ·cases h
       exact run_path Tryz.func3 (o28 (ob_b2 h15 (ob_c (ht.plan_Name _ _ h16) (ob_b2 h15 (ob_c (ht.ref12_Name _ _ h17) (ob_b2 h15 (ob_b2 h18 ob))))))) (by kernel_rfl)
     ·cases h
      exact run_path Tryz.func3 (o28 (ob_b4 h15 (ob_b2 h15 (ob_b2 (rfl : false = false) ob)))) (by kernel_rfl)
    ·cases h
     exact run_path Tryz.func3 (o20 (ob_b4 h12 (ob_b2 h12 (ob_b4 (rfl : false = false) (ob_b4 (rfl : false = false) ob))))) (by kernel_rfl)
   ·cases h
    exact run_path Tryz.func3 (o12 (ob_b4 h9 (ob_b2 h9 (ob_b4 (rfl : false = false) (ob_b4 (rfl : false = false) (ob_b4 (rfl : false = false) (ob_b2 (rfl : false = false) ob))))))) (by kernel_rfl)
  ·cases h
   exact run_path Tryz.func3 (o4 (ob_b4 h6 (ob_b2 h6 (ob_b4 (rfl : false = false) (ob_b4 (rfl : false = false) (ob_b4 (rfl : false = false) (ob_b4 (rfl : false = false) (ob_b4 (rfl : false = false) ob)))))))) (by kernel_rfl)
theorem law12_much.ok {n : Nat} {t : Tab} (ht : TabOk t (run Tryz.prog own kp X n)) : ∀ (p1 : List GStep) r, law12_much t n p1 = some r → run Tryz.prog own kp X (n + 1) 5 [(Sl 14 (GStep.ts p1))] [] = some ((Bo r), []) := by
 intro p1 r h
 obtain ⟨a1, rfl⟩ : ∃ z_, z_ = p1 := ⟨_, rfl⟩
 rw [law12_much] at h
 obtain ⟨a2, h1, h⟩ := sm h
 cases h
 exact run_path Tryz.func5 (ob_c (ht.ref12_Much _ _ _ _ h1) ob) (by kernel_rfl)
theorem plan_Check.ok {n : Nat} {t : Tab} (ht : TabOk t (run Tryz.prog own kp X n)) : ∀ (p1 : List GStep) r, plan_Check t n p1 = some r → run Tryz.prog own kp X (n + 1) 7 [(Sl 14 (GStep.ts p1))] [] = some ((I6 r), []) := by
 intro p1 r h
 obtain ⟨a1, rfl⟩ : ∃ z_, z_ = p1 := ⟨_, rfl⟩
 rw [plan_Check] at h
 obtain ⟨a2, h1, h⟩ := sm h
 rcases fk h with ⟨h2, h⟩ | ⟨h2, h⟩
 ·cases h
  exact run_path Tryz.func7 (ob_c (ht.plan_Steps _ _ h1) (ob_b4 h2 (ob_b (rfl : true = true) ob))) (by kernel_rfl)
 ·obtain ⟨a3, h3, h⟩ := sm h
  rcases fk h with ⟨h4, h⟩ | ⟨h4, h⟩
  ·cases h
   exact run_path Tryz.func7 (ob_c (ht.plan_Steps _ _ h1) (ob_b2 h2 (ob_c (ht.plan_right _ _ _ h3) (ob_b2 h2 (ob_b (congrArg (!·) h4) ob))))) (by kernel_rfl)
  ·cases h
   exact run_path Tryz.func7 (ob_c (ht.plan_Steps _ _ h1) (ob_b2 h2 (ob_c (ht.plan_right _ _ _ h3) (ob_b2 h2 (ob_b (congrArg (!·) h4) ob))))) (by kernel_rfl)
theorem ref12_Check.ok {n : Nat} {t : Tab} (ht : TabOk t (run Tryz.prog own kp X n)) : ∀ (p1 : List GStep) r, ref12_Check t n p1 = some r → run Tryz.prog own kp X (n + 1) 8 [(Sl 14 (GStep.ts p1))] [] = some ((I6 r), []) := by
 intro p1 r h
 obtain ⟨a1, rfl⟩ : ∃ z_, z_ = p1 := ⟨_, rfl⟩
 rw [ref12_Check] at h
 obtain ⟨a2, h1, h⟩ := sm h
 rcases fk h with ⟨h2, h⟩ | ⟨h2, h⟩
 ·cases h
  exact run_path Tryz.func8 (ob_c (ht.ref12_Steps _ _ h1) (ob_b4 h2 (ob_b (rfl : true = true) ob))) (by kernel_rfl)
 ·obtain ⟨a3, h3, h⟩ := sm h
  rcases fk h with ⟨h4, h⟩ | ⟨h4, h⟩
  ·cases h
   exact run_path Tryz.func8 (ob_c (ht.ref12_Steps _ _ h1) (ob_b2 h2 (ob_c (ht.ref12_right _ _ _ h3) (ob_b2 h2 (ob_b (congrArg (!·) h4) ob))))) (by kernel_rfl)
  ·cases h
   exact run_path Tryz.func8 (ob_c (ht.ref12_Steps _ _ h1) (ob_b2 h2 (ob_c (ht.ref12_right _ _ _ h3) (ob_b2 h2 (ob_b (congrArg (!·) h4) ob))))) (by kernel_rfl)
theorem plan_Steps.ok {n : Nat} {t : Tab} (ht : TabOk t (run Tryz.prog own kp X n)) : ∀ (p1 : List GStep) r, plan_Steps t n p1 = some r → run Tryz.prog own kp X (n + 1) 9 [(Sl 14 (GStep.ts p1))] [] = some ((I6 r), []) := by
 intro p1 r h
 obtain ⟨a1, rfl⟩ : ∃ z_, z_ = p1 := ⟨_, rfl⟩
 rw [plan_Steps] at h
 obtain ⟨a2, rfl⟩ : ∃ z_, z_ = r := ⟨_, rfl⟩
 have h1 := h
 exact run_path Tryz.func9 (ob_c (ht.plan_steps _ _ _ _ h1) ob) (by kernel_rfl)
theorem ref12_Steps.ok {n : Nat} {t : Tab} (ht : TabOk t (run Tryz.prog own kp X n)) : ∀ (p1 : List GStep) r, ref12_Steps t n p1 = some r → run Tryz.prog own kp X (n + 1) 10 [(Sl 14 (GStep.ts p1))] [] = some ((I6 r), []) := by
 intro p1 r h
 obtain ⟨a1, rfl⟩ : ∃ z_, z_ = p1 := ⟨_, rfl⟩
 rw [ref12_Steps] at h
 obtain ⟨a2, h1, h⟩ := sm h
 cases h
 exact run_path Tryz.func10 (ob_c (ht.ref12_steps _ _ _ _ h1) ob) (by kernel_rfl)
theorem plan_Nest.ok {n : Nat} {t : Tab} (ht : TabOk t (run Tryz.prog own kp X n)) : ∀ (p1 : List GStep) r, plan_Nest t n p1 = some r → run Tryz.prog own kp X (n + 1) 11 [(Sl 14 (GStep.ts p1))] [] = some ((I6 r), []) := by
 intro p1 r h
 obtain ⟨a1, rfl⟩ : ∃ z_, z_ = p1 := ⟨_, rfl⟩
 rw [plan_Nest] at h
 obtain ⟨a2, rfl⟩ : ∃ z_, z_ = r := ⟨_, rfl⟩
 have h1 := h
 exact run_path Tryz.func11 (ob_c (ht.plan_nest _ _ _ h1) ob) (by kernel_rfl)
theorem ref12_Nest.ok {n : Nat} {t : Tab} (ht : TabOk t (run Tryz.prog own kp X n)) : ∀ (p1 : List GStep) r, ref12_Nest t n p1 = some r → run Tryz.prog own kp X (n + 1) 12 [(Sl 14 (GStep.ts p1))] [] = some ((I6 r), []) := by
 intro p1 r h
 obtain ⟨a1, rfl⟩ : ∃ z_, z_ = p1 := ⟨_, rfl⟩
 rw [ref12_Nest] at h
 obtain ⟨a2, rfl⟩ : ∃ z_, z_ = r := ⟨_, rfl⟩
 have h1 := h
 exact run_path Tryz.func12 (ob_c (ht.ref12_nest _ _ _ h1) ob) (by kernel_rfl)
theorem plan_Free.ok {n : Nat} {t : Tab} (ht : TabOk t (run Tryz.prog own kp X n)) : ∀ (p1 : List GStep) r, plan_Free t n p1 = some r → run Tryz.prog own kp X (n + 1) 13 [(Sl 14 (GStep.ts p1))] [] = some ((Bo r), []) := by
 intro p1 r h
 obtain ⟨a1, rfl⟩ : ∃ z_, z_ = p1 := ⟨_, rfl⟩
 rw [plan_Free] at h
 obtain ⟨a2, h1, h⟩ := sm h
 rcases fk h with ⟨h2, h⟩ | ⟨h2, h⟩
 ·cases h
  exact run_path Tryz.func13 (ob_c (ht.plan_Uses _ _ _ h1) (ob_b4 (congrArg (!·) h2) ob)) (by kernel_rfl)
 ·obtain ⟨a3, h3, h⟩ := sm h
  cases h
  exact run_path Tryz.func13 (ob_c (ht.plan_Uses _ _ _ h1) (ob_b2 (congrArg (!·) h2) (ob_c (ht.plan_plan_Free_1 _ _ h3) (ob_b2 (congrArg (!·) h2) ob)))) (by kernel_rfl)
theorem ref12_Free.ok {n : Nat} {t : Tab} (ht : TabOk t (run Tryz.prog own kp X n)) : ∀ (p1 : List GStep) r, ref12_Free t n p1 = some r → run Tryz.prog own kp X (n + 1) 14 [(Sl 14 (GStep.ts p1))] [] = some ((Bo r), []) := by
 intro p1 r h
 obtain ⟨a1, rfl⟩ : ∃ z_, z_ = p1 := ⟨_, rfl⟩
 rw [ref12_Free] at h
 obtain ⟨a2, h1, h⟩ := sm h
 rcases fk h with ⟨h2, h⟩ | ⟨h2, h⟩
 ·cases h
  exact run_path Tryz.func14 (ob_c (ht.ref12_Uses _ _ _ h1) (ob_b4 (congrArg (!·) h2) ob)) (by kernel_rfl)
 ·obtain ⟨a3, h3, h⟩ := sm h
  cases h
  exact run_path Tryz.func14 (ob_c (ht.ref12_Uses _ _ _ h1) (ob_b2 (congrArg (!·) h2) (ob_c (ht.ref12_Named _ _ h3) (ob_b2 (congrArg (!·) h2) ob)))) (by kernel_rfl)
theorem plan_Name.ok {n : Nat} {t : Tab} (ht : TabOk t (run Tryz.prog own kp X n)) : ∀ (p1 : Int) r, plan_Name t n p1 = some r → run Tryz.prog own kp X (n + 1) 15 [(I6 p1)] [] = some ((Sr r), []) := by
 intro p1 r h
 obtain ⟨a1, rfl⟩ : ∃ z_, z_ = p1 := ⟨_, rfl⟩
 rw [plan_Name] at h
 rcases fk h with ⟨h1, h⟩ | ⟨h1, h⟩
 ·cases h
  exact run_path Tryz.func15 (ob_b3 h1 (ob_b (rfl : true = true) ob)) (by kernel_rfl)
 ·rcases fk h with ⟨h2, h⟩ | ⟨h2, h⟩
  ·cases h
   exact run_path Tryz.func15 (ob_b3 h1 (ob_b h2 ob)) (by kernel_rfl)
  ·obtain ⟨h3, h⟩ := ck h
   rcases h4 : gl0[(a1 : Int).toNat]? with _ | a2
   ·rw [h4] at h; cases h
   rw [h4] at h
   dsimp only at h
   cases h
   exact run_path Tryz.func15 (ob_b3 h1 (ob_b h2 (ob_n h3 (ob_t (look_ts texts_map h4) ob)))) (by kernel_rfl)
theorem ref12_Name_j2.ok (ht : TabOk t call) (n : Nat) (a1 : Int) (a2 : List ByteArray) (r : _) (h : ref12_Name_j2 t n a1 a2 = some r) : exec (env Tryz.prog 16 Tryz.f16 call) n (sub [1, 1, 1] (bodyOf Tryz.f16)) (mkSt 18 18 [(0, (I6 a1)), (3, (Sl 1 (texts a2)))] []) = some (ref12_Name_j2.to r) := by
 rw [ref12_Name_j2] at h
 obtain ⟨h1, h⟩ := ck h
 obtain ⟨a3, h2, h⟩ := sm h
 cases h
 exact path (ob_n h1 (ob_t (look_ts texts_map h2) ob)) (by kernel_rfl)
theorem ref12_Name_j1.ok (ht : TabOk t call) (n : Nat) (a1 : Int) (a2 : List ByteArray) (r : _) (h : ref12_Name_j1 t n a1 a2 = some r) : exec (env Tryz.prog 16 Tryz.f16 call) n (sub [1, 1] (bodyOf Tryz.f16)) (mkSt 18 18 [(0, (I6 a1)), (3, (Sl 1 (texts a2)))] []) = some (ref12_Name_j1.to r) := by
 rw [ref12_Name_j1] at h
 rcases fk h with ⟨h1, h⟩ | ⟨h1, h⟩
 ·cases h
  exact path (ob_b4 h1 (ob_b h1 (ob_b (rfl : true = true) ob))) (by kernel_rfl)
 ·rcases fk h with ⟨h2, h⟩ | ⟨h2, h⟩
  ·cases h
   exact path (ob_b3 h1 (ob_v (len_ts texts_map (l := a2)) (ob_b2 h1 (ob_b h2 ob)))) (by kernel_rfl)
  ·obtain ⟨a3, rfl⟩ : ∃ z_, z_ = r := ⟨_, rfl⟩
   have h3 := h
   exact path (ob_b3 h1 (ob_v (len_ts texts_map (l := a2)) (ob_b2 h1 (ob_b h2 (ob_j (ref12_Name_j2.ok ht n _ _ _ h3) ob))))) (by kernel_rfl)
theorem ref12_Name.ok {n : Nat} {t : Tab} (ht : TabOk t (run Tryz.prog own kp X n)) : ∀ (p1 : Int) r, ref12_Name t n p1 = some r → run Tryz.prog own kp X (n + 1) 16 [(I6 p1)] [] = some ((Sr r), []) := by
 intro p1 r h
 obtain ⟨a1, rfl⟩ : ∃ z_, z_ = p1 := ⟨_, rfl⟩
 rw [ref12_Name] at h
 obtain ⟨a2, rfl⟩ : ∃ z_, z_ = r := ⟨_, rfl⟩
 have h1 := h
 exact run_path Tryz.func16 (ob_j (ref12_Name_j1.ok ht n _ _ _ h1) ob) (by kernel_rfl)
theorem ref12_Much_j4.ok (ht : TabOk t call) (n : Nat) (a1 : List GStep) (a2 a3 a4 a5 : Int) (a6 : List (List GStep)) (a7 : Int) (r : _) (h : ref12_Much_j4 t n a1 a2 a3 a4 a5 a6 a7 = some r) : exec (env Tryz.prog 20 Tryz.f20 call) n (sub [1, 1, 0, 1, 0, 0, 1, 0, 0, 1, 1, 1, 1, 0, 0, 1] (bodyOf Tryz.f20)) (mkSt 80 80 [(0, (Sl 14 (GStep.ts a1))), (1, (I6 a2)), (2, (I6 a3)), (7, (I6 a4)), (8, (I6 a5)), (10, (Sl 1 (rows_GStep_ts a6))), (11, (I6 a7))] []) = some (ref12_Much_j4.to r) := by
 rw [ref12_Much_j4] at h
 rcases fk h with ⟨h1, h⟩ | ⟨h1, h⟩
 ·cases h
  exact path (ob_b h1 ob) (by kernel_rfl)
 ·obtain ⟨h2, h⟩ := ck h
  obtain ⟨a8, h3, h⟩ := sm h
  obtain ⟨a9, h4, h⟩ := sm h
  cases h
  exact path (ob_b h1 (ob_n h2 (ob_t (look_ts rows_GStep_ts_map h3) (ob_c (ht.ref12_Much _ _ _ _ h4) ob)))) (by kernel_rfl)
theorem ref12_Much_l3.okL (ht : TabOk t call) (n : Nat) : ∀ (k : Nat) (a1 : List GStep) (a2 a3 a4 a5 : Int) (a6 : List (List GStep)) (a7 : Int) (r : _), ref12_Much_l3 t n k a1 a2 a3 a4 a5 a6 a7 = some r → loopN (exec (env Tryz.prog 20 Tryz.f20 call) n (sub [1, 1, 0, 1, 0, 0, 1, 0, 0, 1, 1, 1, 1, 0, 0] (bodyOf Tryz.f20))) k (mkSt 80 80 [(0, (Sl 14 (GStep.ts a1))), (1, (I6 a2)), (2, (I6 a3)), (7, (I6 a4)), (8, (I6 a5)), (10, (Sl 1 (rows_GStep_ts a6))), (11, (I6 a7))] []) = some (ref12_Much_l3.to r)
 | 0, a1, a2, a3, a4, a5, a6, a7, r, h => by rw [ref12_Much_l3] at h; cases h
 | k + 1, a1, a2, a3, a4, a5, a6, a7, r, h => by
  rw [ref12_Much_l3] at h
  rcases fk h with ⟨h1, h⟩ | ⟨h1, h⟩
  ·have o5 {os} (x : Obls (env Tryz.prog 20 Tryz.f20 call) n os) := ob_v (len_ts rows_GStep_ts_map (l := a6)) (ob_b4 h1 x)
   rcases fk h with ⟨h2, h⟩ | ⟨h2, h⟩
   ·obtain ⟨a8 | ⟨a9, a10, a11, a12, a13, a14, a15⟩, h3, h⟩ := sm h
    ·cases h
     exact loop_out (path (o5 (ob_b h2 (ob_j (ref12_Much_j4.ok ht n _ _ _ _ _ _ _ _ h3) ob))) (by kernel_rfl)) (fun h => by cases h)
    ·exact loop_more (path (o5 (ob_b h2 (ob_j (ref12_Much_j4.ok ht n _ _ _ _ _ _ _ _ h3) ob))) (by kernel_rfl)) (ref12_Much_l3.okL ht n k _ _ _ _ _ _ _ _ h)
   ·cases h
    exact loop_out (path (o5 (ob_b h2 ob)) (by kernel_rfl)) (fun h => by cases h)
  ·cases h
   exact loop_out (path (ob_v (len_ts rows_GStep_ts_map (l := a6)) (ob_b4 h1 (ob_b (rfl : false = false) ob))) (by kernel_rfl)) (fun h => by cases h)
theorem ref12_Much_j2.ok (ht : TabOk t call) (n : Nat) (a1 : List GStep) (a2 a3 a4 a5 : Int) (r : _) (h : ref12_Much_j2 t n a1 a2 a3 a4 a5 = some r) : exec (env Tryz.prog 20 Tryz.f20 call) n (sub [1, 1, 0, 1, 0, 0, 1] (bodyOf Tryz.f20)) (mkSt 80 80 [(0, (Sl 14 (GStep.ts a1))), (1, (I6 a2)), (2, (I6 a3)), (7, (I6 a4)), (8, (I6 a5))] []) = some (ref12_Much_j2.to r) := by
 rw [ref12_Much_j2] at h
 obtain ⟨h1, h⟩ := ck h
 obtain ⟨⟨a6, a7, a8, ⟨a9, a10, a11, a12, a13⟩, ⟨a14, a15, a16⟩, a17, a18, a19⟩, h2, h⟩ := sm h
 obtain ⟨a20, h3, h⟩ := sm h
 obtain ⟨a21, h4, h⟩ := sm h
 obtain ⟨a22, h5, h⟩ := sm h
 have o8 {os} (x : Obls (env Tryz.prog 20 Tryz.f20 call) n os) := ob_n h1 (ob_t (look_ts GStep.ts_map h2) (ob_v (len_ts texts_map (l := a7)) (ob_v (len_ts ints_i64_map (l := a8)) (ob_v (len_ts texts_map (l := a19)) (ob_c (ht.ref02_Count _ _ _ h3) (ob_c (ht.ref09_Count _ _ _ h4) (ob_c (ht.ref12_Inner _ _ h5) x)))))))
 obtain ⟨a23 | ⟨a24, a25, a26, a27, a28, a29, a30, a31⟩, h6, h⟩ := sm h
 ·cases h
  exact path (o8 (ob_k (lk (sub [1, 1, 0, 1, 0, 0, 1, 0, 0, 1, 1, 1, 1, 0] (bodyOf Tryz.f20)) (by kernel_rfl) (ref12_Much_l3.okL ht n n _ _ _ _ _ _ _ _ h6)) ob)) (by kernel_rfl)
 ·cases h
  exact path (o8 (ob_k (lk (sub [1, 1, 0, 1, 0, 0, 1, 0, 0, 1, 1, 1, 1, 0] (bodyOf Tryz.f20)) (by kernel_rfl) (ref12_Much_l3.okL ht n n _ _ _ _ _ _ _ _ h6)) ob)) (by kernel_rfl)
theorem ref12_Much_l1.okL (ht : TabOk t call) (n : Nat) : ∀ (k : Nat) (a1 : List GStep) (a2 a3 a4 a5 : Int) (r : _), ref12_Much_l1 t n k a1 a2 a3 a4 a5 = some r → loopN (exec (env Tryz.prog 20 Tryz.f20 call) n (sub [1, 1, 0, 1, 0, 0] (bodyOf Tryz.f20))) k (mkSt 80 80 [(0, (Sl 14 (GStep.ts a1))), (1, (I6 a2)), (2, (I6 a3)), (7, (I6 a4)), (8, (I6 a5))] []) = some (ref12_Much_l1.to r)
 | 0, a1, a2, a3, a4, a5, r, h => by rw [ref12_Much_l1] at h; cases h
 | k + 1, a1, a2, a3, a4, a5, r, h => by
  rw [ref12_Much_l1] at h
  rcases fk h with ⟨h1, h⟩ | ⟨h1, h⟩
  ·rcases fk h with ⟨h2, h⟩ | ⟨h2, h⟩
   ·obtain ⟨a6 | ⟨a7, a8, a9, a10, a11⟩, h3, h⟩ := sm h
    ·cases h
     exact loop_out (path (ob_v (len_ts GStep.ts_map (l := a1)) (ob_b4 h1 (ob_b h2 (ob_j (ref12_Much_j2.ok ht n _ _ _ _ _ _ h3) ob)))) (by kernel_rfl)) (fun h => by cases h)
    ·exact loop_more (path (ob_v (len_ts GStep.ts_map (l := a1)) (ob_b4 h1 (ob_b h2 (ob_j (ref12_Much_j2.ok ht n _ _ _ _ _ _ h3) ob)))) (by kernel_rfl)) (ref12_Much_l1.okL ht n k _ _ _ _ _ _ h)
   ·cases h
    exact loop_out (path (ob_v (len_ts GStep.ts_map (l := a1)) (ob_b4 h1 (ob_b h2 ob))) (by kernel_rfl)) (fun h => by cases h)
  ·cases h
   exact loop_out (path (ob_v (len_ts GStep.ts_map (l := a1)) (ob_b4 h1 (ob_b (rfl : false = false) ob))) (by kernel_rfl)) (fun h => by cases h)
theorem ref12_Much.ok {n : Nat} {t : Tab} (ht : TabOk t (run Tryz.prog own kp X n)) : ∀ (p1 : List GStep) (p2 : Int) (p3 : Int) r, ref12_Much t n p1 p2 p3 = some r → run Tryz.prog own kp X (n + 1) 20 [(Sl 14 (GStep.ts p1)), (I6 p2), (I6 p3)] [] = some ((I6 r), []) := by
 intro p1 p2 p3 r h
 obtain ⟨a1, rfl⟩ : ∃ z_, z_ = p1 := ⟨_, rfl⟩
 obtain ⟨a2, rfl⟩ : ∃ z_, z_ = p2 := ⟨_, rfl⟩
 obtain ⟨a3, rfl⟩ : ∃ z_, z_ = p3 := ⟨_, rfl⟩
 rw [ref12_Much] at h
 obtain ⟨a4 | ⟨a5, a6, a7, a8, a9, a10⟩, h1, h⟩ := sm h
 ·cases h
  exact run_path Tryz.func20 (ob_k (lk (sub [1, 1, 0, 1, 0] (bodyOf Tryz.f20)) (by kernel_rfl) (ref12_Much_l1.okL ht n n _ _ _ _ _ _ h1)) ob) (by kernel_rfl)
 ·cases h
  exact run_path Tryz.func20 (ob_k (lk (sub [1, 1, 0, 1, 0] (bodyOf Tryz.f20)) (by kernel_rfl) (ref12_Much_l1.okL ht n n _ _ _ _ _ _ h1)) ob) (by kernel_rfl)
theorem plan_right.ok {n : Nat} {t : Tab} (ht : TabOk t (run Tryz.prog own kp X n)) : ∀ (p1 : List GStep) (p2 : Int) r, plan_right t n p1 p2 = some r → run Tryz.prog own kp X (n + 1) 22 [(Sl 14 (GStep.ts p1)), (I6 p2)] [] = some ((Bo r), []) := by
 intro p1 p2 r h
 obtain ⟨a1, rfl⟩ : ∃ z_, z_ = p1 := ⟨_, rfl⟩
 obtain ⟨a2, rfl⟩ : ∃ z_, z_ = p2 := ⟨_, rfl⟩
 rw [plan_right] at h
 rcases fk h with ⟨h1, h⟩ | ⟨h1, h⟩
 ·obtain ⟨a3, h2, h⟩ := sm h
  cases h
  exact run_path Tryz.func22 (ob_b3 h1 (ob_c (ht.slices_ContainsFunc_plan_right_1 _ _ _ h2) (ob_b2 h1 ob))) (by kernel_rfl)
 ·cases h
  exact run_path Tryz.func22 (ob_b4 h1 (ob_b h1 ob)) (by kernel_rfl)
theorem ref12_right_l5.okL (ht : TabOk t call) (n : Nat) : ∀ (k : Nat) (a1 : List GStep) (a2 a3 a4 a5 : Int) (a6 : List ByteArray) (a7 : List Int) (a8 a9 : Int) (a10 : ByteArray) (a11 a12 : List GValue) (a13 : Int) (a14 : List GValue) (a15 : List GPred) (a16 : List (List GStep)) (a17 : List GBy) (a18 : List ByteArray) (r : _), ref12_right_l5 t n k a1 a2 a3 a4 a5 a6 a7 a8 a9 a10 a11 a12 a13 a14 a15 a16 a17 a18 = some r → loopN (exec (env Tryz.prog 23 Tryz.f23 call) n (sub [1, 1, 0, 1, 0, 0, 1, 0, 0, 1, 1, 1, 1, 1, 1, 1, 0, 1, 0, 0] (bodyOf Tryz.f23))) k (mkSt 129 129 [(0, (Sl 14 (GStep.ts a1))), (1, (I6 a2)), (5, (I6 a3)), (6, (.ptr 6 0 [] 0)), (11, (I6 a4))] [(6, (.t (.st [(.v (.int .i64 a5)), (.sl false 1 (texts a6)), (.sl false 1 (ints_i64 a7)), (.st [(.v (.int .i64 a8)), (.v (.int .i64 a9)), (.v (.string a10)), (.sl false 5 (GValue.ts a11)), (.sl false 5 (GValue.ts a12))]), (.st [(.v (.int .i64 a13)), (.sl false 5 (GValue.ts a14)), (.sl false 3 (GPred.ts a15))]), (.sl false 1 (rows_GStep_ts a16)), (.sl false 4 (GBy.ts a17)), (.sl false 1 (texts a18))])))]) = some (ref12_right_l5.to r)
 | 0, a1, a2, a3, a4, a5, a6, a7, a8, a9, a10, a11, a12, a13, a14, a15, a16, a17, a18, r, h => by rw [ref12_right_l5] at h; cases h
 | k + 1, a1, a2, a3, a4, a5, a6, a7, a8, a9, a10, a11, a12, a13, a14, a15, a16, a17, a18, r, h => by
  rw [ref12_right_l5] at h
  rcases fk h with ⟨h1, h⟩ | ⟨h1, h⟩
  ·obtain ⟨h2, h⟩ := ck h
   obtain ⟨a19, h3, h⟩ := sm h
   obtain ⟨a20, h4, h⟩ := sm h
   rcases fk h with ⟨h5, h⟩ | ⟨h5, h⟩
   ·exact loop_more (path (ob_v (len_ts rows_GStep_ts_map (l := a16)) (ob_b h1 (ob_n h2 (ob_t (look_ts rows_GStep_ts_map h3) (ob_c (ht.ref12_right _ _ _ h4) (ob_b (congrArg (!·) h5) ob)))))) (by kernel_rfl)) (ref12_right_l5.okL ht n k _ _ _ _ _ _ _ _ _ _ _ _ _ _ _ _ _ _ _ h)
   ·cases h
    exact loop_out (path (ob_v (len_ts rows_GStep_ts_map (l := a16)) (ob_b h1 (ob_n h2 (ob_t (look_ts rows_GStep_ts_map h3) (ob_c (ht.ref12_right _ _ _ h4) (ob_b (congrArg (!·) h5) ob)))))) (by kernel_rfl)) (fun h => by cases h)
  ·cases h
   exact loop_out (path (ob_v (len_ts rows_GStep_ts_map (l := a16)) (ob_b h1 ob)) (by kernel_rfl)) (fun h => by cases h)
theorem ref12_right_l7.okL (ht : TabOk t call) (n : Nat) : ∀ (k : Nat) (a1 : List GStep) (a2 a3 a4 a5 : Int) (a6 : List ByteArray) (a7 : List Int) (a8 a9 : Int) (a10 : ByteArray) (a11 a12 : List GValue) (a13 : Int) (a14 : List GValue) (a15 : List GPred) (a16 : List (List GStep)) (a17 : List GBy) (a18 : List ByteArray) (r : _), ref12_right_l7 t n k a1 a2 a3 a4 a5 a6 a7 a8 a9 a10 a11 a12 a13 a14 a15 a16 a17 a18 = some r → loopN (exec (env Tryz.prog 23 Tryz.f23 call) n (sub [1, 1, 0, 1, 0, 0, 1, 0, 0, 1, 1, 1, 1, 1, 1, 1, 1, 1, 0, 0] (bodyOf Tryz.f23))) k (mkSt 129 129 [(0, (Sl 14 (GStep.ts a1))), (1, (I6 a2)), (5, (I6 a3)), (6, (.ptr 6 0 [] 0)), (12, (I6 a4))] [(6, (.t (.st [(.v (.int .i64 a5)), (.sl false 1 (texts a6)), (.sl false 1 (ints_i64 a7)), (.st [(.v (.int .i64 a8)), (.v (.int .i64 a9)), (.v (.string a10)), (.sl false 5 (GValue.ts a11)), (.sl false 5 (GValue.ts a12))]), (.st [(.v (.int .i64 a13)), (.sl false 5 (GValue.ts a14)), (.sl false 3 (GPred.ts a15))]), (.sl false 1 (rows_GStep_ts a16)), (.sl false 4 (GBy.ts a17)), (.sl false 1 (texts a18))])))]) = some (ref12_right_l7.to r)
 | 0, a1, a2, a3, a4, a5, a6, a7, a8, a9, a10, a11, a12, a13, a14, a15, a16, a17, a18, r, h => by rw [ref12_right_l7] at h; cases h
 | k + 1, a1, a2, a3, a4, a5, a6, a7, a8, a9, a10, a11, a12, a13, a14, a15, a16, a17, a18, r, h => by
  rw [ref12_right_l7] at h
  rcases fk h with ⟨h1, h⟩ | ⟨h1, h⟩
  ·obtain ⟨h2, h⟩ := ck h
   obtain ⟨⟨a19, a20, a21, a22⟩, h3, h⟩ := sm h
   obtain ⟨a23, h4, h⟩ := sm h
   obtain ⟨a24, h5, h⟩ := sm h
   rcases fk h with ⟨h6, h⟩ | ⟨h6, h⟩
   ·exact loop_more (path (ob_v (len_ts GBy.ts_map (l := a17)) (ob_b h1 (ob_n h2 (ob_t (look_ts GBy.ts_map h3) (ob_c (ht.ref12_Name _ _ h4) (ob_c (ht.ref12_by _ _ _ _ h5) (ob_b (congrArg (!·) h6) ob))))))) (by kernel_rfl)) (ref12_right_l7.okL ht n k _ _ _ _ _ _ _ _ _ _ _ _ _ _ _ _ _ _ _ h)
   ·cases h
    exact loop_out (path (ob_v (len_ts GBy.ts_map (l := a17)) (ob_b h1 (ob_n h2 (ob_t (look_ts GBy.ts_map h3) (ob_c (ht.ref12_Name _ _ h4) (ob_c (ht.ref12_by _ _ _ _ h5) (ob_b (congrArg (!·) h6) ob))))))) (by kernel_rfl)) (fun h => by cases h)
  ·cases h
   exact loop_out (path (ob_v (len_ts GBy.ts_map (l := a17)) (ob_b h1 ob)) (by kernel_rfl)) (fun h => by cases h)
theorem ref12_right_j6.ok (ht : TabOk t call) (n : Nat) (a1 : List GStep) (a2 a3 a4 : Int) (a5 : List ByteArray) (a6 : List Int) (a7 a8 : Int) (a9 : ByteArray) (a10 a11 : List GValue) (a12 : Int) (a13 : List GValue) (a14 : List GPred) (a15 : List (List GStep)) (a16 : List GBy) (a17 : List ByteArray) (r : _) (h : ref12_right_j6 t n a1 a2 a3 a4 a5 a6 a7 a8 a9 a10 a11 a12 a13 a14 a15 a16 a17 = some r) : exec (env Tryz.prog 23 Tryz.f23 call) n (sub [1, 1, 0, 1, 0, 0, 1, 0, 0, 1, 1, 1, 1, 1, 1, 1, 1] (bodyOf Tryz.f23)) (mkSt 129 129 [(0, (Sl 14 (GStep.ts a1))), (1, (I6 a2)), (5, (I6 a3)), (6, (.ptr 6 0 [] 0))] [(6, (.t (.st [(.v (.int .i64 a4)), (.sl false 1 (texts a5)), (.sl false 1 (ints_i64 a6)), (.st [(.v (.int .i64 a7)), (.v (.int .i64 a8)), (.v (.string a9)), (.sl false 5 (GValue.ts a10)), (.sl false 5 (GValue.ts a11))]), (.st [(.v (.int .i64 a12)), (.sl false 5 (GValue.ts a13)), (.sl false 3 (GPred.ts a14))]), (.sl false 1 (rows_GStep_ts a15)), (.sl false 4 (GBy.ts a16)), (.sl false 1 (texts a17))])))]) = some (ref12_right_j6.to r) := by
 rw [ref12_right_j6] at h
 obtain ⟨a18 | ⟨a19, a20, a21, a22, a23, a24, a25, a26, a27, a28, a29, a30, a31, a32, a33, a34, a35, a36, a37⟩, h1, h⟩ := sm h
 ·cases h
  exact path (ob_k (lk (sub [1, 1, 0, 1, 0, 0, 1, 0, 0, 1, 1, 1, 1, 1, 1, 1, 1, 1, 0] (bodyOf Tryz.f23)) (by kernel_rfl) (ref12_right_l7.okL ht n n _ _ _ _ _ _ _ _ _ _ _ _ _ _ _ _ _ _ _ h1)) ob) (by kernel_rfl)
 ·cases h
  exact path (ob_k (lk (sub [1, 1, 0, 1, 0, 0, 1, 0, 0, 1, 1, 1, 1, 1, 1, 1, 1, 1, 0] (bodyOf Tryz.f23)) (by kernel_rfl) (ref12_right_l7.okL ht n n _ _ _ _ _ _ _ _ _ _ _ _ _ _ _ _ _ _ _ h1)) ob) (by kernel_rfl)
theorem ref12_right_j4.ok (ht : TabOk t call) (n : Nat) (a1 : List GStep) (a2 a3 a4 : Int) (a5 : List ByteArray) (a6 : List Int) (a7 a8 : Int) (a9 : ByteArray) (a10 a11 : List GValue) (a12 : Int) (a13 : List GValue) (a14 : List GPred) (a15 : List (List GStep)) (a16 : List GBy) (a17 : List ByteArray) (r : _) (h : ref12_right_j4 t n a1 a2 a3 a4 a5 a6 a7 a8 a9 a10 a11 a12 a13 a14 a15 a16 a17 = some r) : exec (env Tryz.prog 23 Tryz.f23 call) n (sub [1, 1, 0, 1, 0, 0, 1, 0, 0, 1, 1, 1, 1, 1, 1, 1] (bodyOf Tryz.f23)) (mkSt 129 129 [(0, (Sl 14 (GStep.ts a1))), (1, (I6 a2)), (5, (I6 a3)), (6, (.ptr 6 0 [] 0))] [(6, (.t (.st [(.v (.int .i64 a4)), (.sl false 1 (texts a5)), (.sl false 1 (ints_i64 a6)), (.st [(.v (.int .i64 a7)), (.v (.int .i64 a8)), (.v (.string a9)), (.sl false 5 (GValue.ts a10)), (.sl false 5 (GValue.ts a11))]), (.st [(.v (.int .i64 a12)), (.sl false 5 (GValue.ts a13)), (.sl false 3 (GPred.ts a14))]), (.sl false 1 (rows_GStep_ts a15)), (.sl false 4 (GBy.ts a16)), (.sl false 1 (texts a17))])))]) = some (ref12_right_j4.to r) := by
 rw [ref12_right_j4] at h
 obtain ⟨a18 | ⟨a19, a20, a21, a22, a23, a24, a25, a26, a27, a28, a29, a30, a31, a32, a33, a34, a35, a36, a37⟩, h1, h⟩ := sm h
 ·cases h
  exact path (ob_k (lk (sub [1, 1, 0, 1, 0, 0, 1, 0, 0, 1, 1, 1, 1, 1, 1, 1, 0, 1, 0] (bodyOf Tryz.f23)) (by kernel_rfl) (ref12_right_l5.okL ht n n _ _ _ _ _ _ _ _ _ _ _ _ _ _ _ _ _ _ _ h1)) ob) (by kernel_rfl)
 ·have h2 := h
  rcases r with a38 | ⟨a39, a40, a41⟩
  ·exact path (ob_k (lk (sub [1, 1, 0, 1, 0, 0, 1, 0, 0, 1, 1, 1, 1, 1, 1, 1, 0, 1, 0] (bodyOf Tryz.f23)) (by kernel_rfl) (ref12_right_l5.okL ht n n _ _ _ _ _ _ _ _ _ _ _ _ _ _ _ _ _ _ _ h1)) (ob_j (ref12_right_j6.ok ht n _ _ _ _ _ _ _ _ _ _ _ _ _ _ _ _ _ _ h2) ob)) (by kernel_rfl)
  ·exact path (ob_k (lk (sub [1, 1, 0, 1, 0, 0, 1, 0, 0, 1, 1, 1, 1, 1, 1, 1, 0, 1, 0] (bodyOf Tryz.f23)) (by kernel_rfl) (ref12_right_l5.okL ht n n _ _ _ _ _ _ _ _ _ _ _ _ _ _ _ _ _ _ _ h1)) (ob_j (ref12_right_j6.ok ht n _ _ _ _ _ _ _ _ _ _ _ _ _ _ _ _ _ _ h2) ob)) (by kernel_rfl)
theorem ref12_right_j3.ok (ht : TabOk t call) (n : Nat) (a1 : List GStep) (a2 a3 a4 a5 : Int) (a6 a7 : Bool) (a8 : Int) (a9 : List ByteArray) (a10 : List Int) (a11 a12 : Int) (a13 : ByteArray) (a14 a15 : List GValue) (a16 : Int) (a17 : List GValue) (a18 : List GPred) (a19 : List (List GStep)) (a20 : List GBy) (a21 : List ByteArray) (r : _) (h : ref12_right_j3 t n a1 a2 a3 a4 a5 a6 a7 a8 a9 a10 a11 a12 a13 a14 a15 a16 a17 a18 a19 a20 a21 = some r) : exec (env Tryz.prog 23 Tryz.f23 call) n (sub [1, 1, 0, 1, 0, 0, 1, 0, 0, 1, 1, 1, 1, 1, 1] (bodyOf Tryz.f23)) (mkSt 129 129 [(0, (Sl 14 (GStep.ts a1))), (1, (I6 a2)), (5, (I6 a3)), (6, (.ptr 6 0 [] 0)), (7, (I6 a4)), (8, (I6 a5)), (9, (Bo a6)), (10, (Bo a7))] [(6, (.t (.st [(.v (.int .i64 a8)), (.sl false 1 (texts a9)), (.sl false 1 (ints_i64 a10)), (.st [(.v (.int .i64 a11)), (.v (.int .i64 a12)), (.v (.string a13)), (.sl false 5 (GValue.ts a14)), (.sl false 5 (GValue.ts a15))]), (.st [(.v (.int .i64 a16)), (.sl false 5 (GValue.ts a17)), (.sl false 3 (GPred.ts a18))]), (.sl false 1 (rows_GStep_ts a19)), (.sl false 4 (GBy.ts a20)), (.sl false 1 (texts a21))])))]) = some (ref12_right_j3.to r) := by
 rw [ref12_right_j3] at h
 rcases fk h with ⟨h1, h⟩ | ⟨h1, h⟩
 ·have o3 {os} (x : Obls (env Tryz.prog 23 Tryz.f23 call) n os) := ob_b3 h1 x
  rcases fk h with ⟨h2, h⟩ | ⟨h2, h⟩
  ·cases h
   exact path (o3 (ob_b4 h2 (ob_b h2 (ob_b4 (rfl : true = true) (ob_b4 (rfl : true = true) (ob_b2 (rfl : true = true) ob)))))) (by kernel_rfl)
  ·have o16 {os} (x : Obls (env Tryz.prog 23 Tryz.f23 call) n os) := o3 (ob_b3 h2 (ob_b4 (congrArg (!·) h1) (ob_b (congrArg (!·) h1) (ob_b h2 (ob_b (congrArg (!·) h1) (ob_b h2 (ob_b2 (rfl : false = false) x)))))))
   rcases fk h with ⟨h3, h⟩ | ⟨h3, h⟩
   ·have o21 {os} (x : Obls (env Tryz.prog 23 Tryz.f23 call) n os) := o16 (ob_b2 h3 (ob_b (rfl : false = false) (ob_b h3 (ob_b (rfl : false = false) x))))
    rcases fk h with ⟨h4, h⟩ | ⟨h4, h⟩
    ·cases h
     exact path (o21 (ob_b4 h4 (ob_b h4 (ob_b (rfl : true = true) ob)))) (by kernel_rfl)
    ·have h5 := h
     have o33 {os} (x : Obls (env Tryz.prog 23 Tryz.f23 call) n os) := o21 (ob_b3 h4 (ob_b4 (congrArg (!·) h3) (ob_b (congrArg (!·) h3) (ob_b h4 (ob_b (congrArg (!·) h3) (ob_b h4 (ob_b (rfl : false = false) x)))))))
     rcases r with a22 | ⟨a23, a24, a25⟩
     ·exact path (o33 (ob_j (ref12_right_j4.ok ht n _ _ _ _ _ _ _ _ _ _ _ _ _ _ _ _ _ _ h5) ob)) (by kernel_rfl)
     ·exact path (o33 (ob_j (ref12_right_j4.ok ht n _ _ _ _ _ _ _ _ _ _ _ _ _ _ _ _ _ _ h5) ob)) (by kernel_rfl)
   ·obtain ⟨a26, h6, h⟩ := sm h
    have o33 {os} (x : Obls (env Tryz.prog 23 Tryz.f23 call) n os) := o16 (ob_b2 h3 (ob_b (rfl : false = false) (ob_b h3 (ob_b4 (rfl : false = false) (ob_b4 (congrArg (!·) h3) (ob_c (ht.ref09_Same _ _ _ h6) (ob_b (congrArg (!·) h3) (ob_b (rfl : false = false) (ob_b (congrArg (!·) h3) (ob_b (rfl : false = false) x))))))))))
    rcases fk h with ⟨h7, h⟩ | ⟨h7, h⟩
    ·have h8 := h
     rcases r with a27 | ⟨a28, a29, a30⟩
     ·exact path (o33 (ob_b (congrArg (!·) h7) (ob_j (ref12_right_j4.ok ht n _ _ _ _ _ _ _ _ _ _ _ _ _ _ _ _ _ _ h8) ob))) (by kernel_rfl)
     ·exact path (o33 (ob_b (congrArg (!·) h7) (ob_j (ref12_right_j4.ok ht n _ _ _ _ _ _ _ _ _ _ _ _ _ _ _ _ _ _ h8) ob))) (by kernel_rfl)
    ·cases h
     exact path (o33 (ob_b (congrArg (!·) h7) ob)) (by kernel_rfl)
 ·obtain ⟨a31, h9, h⟩ := sm h
  have o15 {os} (x : Obls (env Tryz.prog 23 Tryz.f23 call) n os) := ob_b3 h1 (ob_b3 (rfl : false = false) (ob_b4 (congrArg (!·) h1) (ob_c (ht.ref02_Same _ _ _ h9) (ob_b (congrArg (!·) h1) (ob_b (rfl : false = false) (ob_b (congrArg (!·) h1) (ob_b (rfl : false = false) x)))))))
  rcases fk h with ⟨h10, h⟩ | ⟨h10, h⟩
  ·have o17 {os} (x : Obls (env Tryz.prog 23 Tryz.f23 call) n os) := o15 (ob_b2 (congrArg (!·) h10) x)
   rcases fk h with ⟨h11, h⟩ | ⟨h11, h⟩
   ·have o22 {os} (x : Obls (env Tryz.prog 23 Tryz.f23 call) n os) := o17 (ob_b2 h11 (ob_b (congrArg (!·) h10) (ob_b h11 (ob_b (congrArg (!·) h10) x))))
    rcases fk h with ⟨h12, h⟩ | ⟨h12, h⟩
    ·cases h
     exact path (o22 (ob_b4 h12 (ob_b h12 (ob_b (rfl : true = true) ob)))) (by kernel_rfl)
    ·have h13 := h
     have o34 {os} (x : Obls (env Tryz.prog 23 Tryz.f23 call) n os) := o22 (ob_b3 h12 (ob_b4 (congrArg (!·) h11) (ob_b (congrArg (!·) h11) (ob_b h12 (ob_b (congrArg (!·) h11) (ob_b h12 (ob_b (rfl : false = false) x)))))))
     rcases r with a32 | ⟨a33, a34, a35⟩
     ·exact path (o34 (ob_j (ref12_right_j4.ok ht n _ _ _ _ _ _ _ _ _ _ _ _ _ _ _ _ _ _ h13) ob)) (by kernel_rfl)
     ·exact path (o34 (ob_j (ref12_right_j4.ok ht n _ _ _ _ _ _ _ _ _ _ _ _ _ _ _ _ _ _ h13) ob)) (by kernel_rfl)
   ·obtain ⟨a36, h14, h⟩ := sm h
    have o34 {os} (x : Obls (env Tryz.prog 23 Tryz.f23 call) n os) := o17 (ob_b2 h11 (ob_b (congrArg (!·) h10) (ob_b h11 (ob_b (congrArg (!·) h10) (ob_b3 (rfl : false = false) (ob_b4 (congrArg (!·) h11) (ob_c (ht.ref09_Same _ _ _ h14) (ob_b (congrArg (!·) h11) (ob_b (rfl : false = false) (ob_b (congrArg (!·) h11) (ob_b (rfl : false = false) x)))))))))))
    rcases fk h with ⟨h15, h⟩ | ⟨h15, h⟩
    ·have h16 := h
     rcases r with a37 | ⟨a38, a39, a40⟩
     ·exact path (o34 (ob_b (congrArg (!·) h15) (ob_j (ref12_right_j4.ok ht n _ _ _ _ _ _ _ _ _ _ _ _ _ _ _ _ _ _ h16) ob))) (by kernel_rfl)
     ·exact path (o34 (ob_b (congrArg (!·) h15) (ob_j (ref12_right_j4.ok ht n _ _ _ _ _ _ _ _ _ _ _ _ _ _ _ _ _ _ h16) ob))) (by kernel_rfl)
    ·cases h
     exact path (o34 (ob_b (congrArg (!·) h15) ob)) (by kernel_rfl)
  ·cases h
   exact path (o15 (ob_b4 (congrArg (!·) h10) (ob_b4 (rfl : true = true) (ob_b2 (rfl : true = true) ob)))) (by kernel_rfl)
theorem ref12_right_j2.ok (ht : TabOk t call) (n : Nat) (a1 : List GStep) (a2 a3 a4 : Int) (a5 : List ByteArray) (a6 : List Int) (a7 a8 : Int) (a9 : ByteArray) (a10 a11 : List GValue) (a12 : Int) (a13 : List GValue) (a14 : List GPred) (a15 : List (List GStep)) (a16 : List GBy) (a17 : List ByteArray) (r : _) (h : ref12_right_j2 t n a1 a2 a3 a4 a5 a6 a7 a8 a9 a10 a11 a12 a13 a14 a15 a16 a17 = some r) : exec (env Tryz.prog 23 Tryz.f23 call) n (sub [1, 1, 0, 1, 0, 0, 1, 0, 0, 1, 1] (bodyOf Tryz.f23)) (mkSt 129 129 [(0, (Sl 14 (GStep.ts a1))), (1, (I6 a2)), (5, (I6 a3)), (6, (.ptr 6 0 [] 0))] [(6, (.t (.st [(.v (.int .i64 a4)), (.sl false 1 (texts a5)), (.sl false 1 (ints_i64 a6)), (.st [(.v (.int .i64 a7)), (.v (.int .i64 a8)), (.v (.string a9)), (.sl false 5 (GValue.ts a10)), (.sl false 5 (GValue.ts a11))]), (.st [(.v (.int .i64 a12)), (.sl false 5 (GValue.ts a13)), (.sl false 3 (GPred.ts a14))]), (.sl false 1 (rows_GStep_ts a15)), (.sl false 4 (GBy.ts a16)), (.sl false 1 (texts a17))])))]) = some (ref12_right_j2.to r) := by
 rw [ref12_right_j2] at h
 obtain ⟨a18, h1, h⟩ := sm h
 obtain ⟨a19, h2, h⟩ := sm h
 obtain ⟨a20, h3, h⟩ := sm h
 have o4 {os} (x : Obls (env Tryz.prog 23 Tryz.f23 call) n os) := ob_c (ht.ref02_Check _ _ h1) (ob_c (ht.ref09_Check _ _ h2) (ob_c (ht.ref12_Name _ _ h3) (ob_c (ht.ref12_Name _ _ h3) x)))
 rcases fk h with ⟨h4, h⟩ | ⟨h4, h⟩
 ·have h5 := h
  rcases r with a21 | ⟨a22, a23, a24⟩
  ·exact path (o4 (ob_b4 h4 (ob_b h4 (ob_j (ref12_right_j3.ok ht n _ _ _ _ _ _ _ _ _ _ _ _ _ _ _ _ _ _ _ _ _ _ h5) ob)))) (by kernel_rfl)
  ·exact path (o4 (ob_b4 h4 (ob_b h4 (ob_j (ref12_right_j3.ok ht n _ _ _ _ _ _ _ _ _ _ _ _ _ _ _ _ _ _ _ _ _ _ h5) ob)))) (by kernel_rfl)
 ·have h6 := h
  rcases r with a25 | ⟨a26, a27, a28⟩
  ·exact path (o4 (ob_b3 h4 (ob_c (ht.ref12_Name _ _ h3) (ob_b2 h4 (ob_j (ref12_right_j3.ok ht n _ _ _ _ _ _ _ _ _ _ _ _ _ _ _ _ _ _ _ _ _ _ h6) ob))))) (by kernel_rfl)
  ·exact path (o4 (ob_b3 h4 (ob_c (ht.ref12_Name _ _ h3) (ob_b2 h4 (ob_j (ref12_right_j3.ok ht n _ _ _ _ _ _ _ _ _ _ _ _ _ _ _ _ _ _ _ _ _ _ h6) ob))))) (by kernel_rfl)
theorem ref12_right_l1.okL (ht : TabOk t call) (n : Nat) : ∀ (k : Nat) (a1 : List GStep) (a2 a3 : Int) (r : _), ref12_right_l1 t n k a1 a2 a3 = some r → loopN (exec (env Tryz.prog 23 Tryz.f23 call) n (sub [1, 1, 0, 1, 0, 0] (bodyOf Tryz.f23))) k (mkSt 129 129 [(0, (Sl 14 (GStep.ts a1))), (1, (I6 a2)), (5, (I6 a3))] []) = some (ref12_right_l1.to r)
 | 0, a1, a2, a3, r, h => by rw [ref12_right_l1] at h; cases h
 | k + 1, a1, a2, a3, r, h => by
  rw [ref12_right_l1] at h
  rcases fk h with ⟨h1, h⟩ | ⟨h1, h⟩
  ·obtain ⟨h2, h⟩ := ck h
   obtain ⟨⟨a4, a5, a6, ⟨a7, a8, a9, a10, a11⟩, ⟨a12, a13, a14⟩, a15, a16, a17⟩, h3, h⟩ := sm h
   obtain ⟨a18, h4, h⟩ := sm h
   have o5 {os} (x : Obls (env Tryz.prog 23 Tryz.f23 call) n os) := ob_v (len_ts GStep.ts_map (l := a1)) (ob_b h1 (ob_n h2 (ob_t (look_ts GStep.ts_map h3) (ob_c (ht.ref12_own _ _ h4) x))))
   rcases fk h with ⟨h5, h⟩ | ⟨h5, h⟩
   ·obtain ⟨a19, h6, h⟩ := sm h
    have o11 {os} (x : Obls (env Tryz.prog 23 Tryz.f23 call) n os) := o5 (ob_b3 (congrArg (!·) h5) (ob_c (ht.ref12_named _ _ h6) (ob_b2 (congrArg (!·) h5) x)))
    rcases fk h with ⟨h7, h⟩ | ⟨h7, h⟩
    ·obtain ⟨a20, h8, h⟩ := sm h
     have o17 {os} (x : Obls (env Tryz.prog 23 Tryz.f23 call) n os) := o11 (ob_b3 (congrArg (!·) h7) (ob_c (ht.ref12_named _ _ h8) (ob_b2 (congrArg (!·) h7) x)))
     rcases fk h with ⟨h9, h⟩ | ⟨h9, h⟩
     ·obtain ⟨a21 | ⟨a22, a23, a24⟩, h10, h⟩ := sm h
      ·cases h
       exact loop_out (path (o17 (ob_b (congrArg (!·) h9) (ob_j (ref12_right_j2.ok ht n _ _ _ _ _ _ _ _ _ _ _ _ _ _ _ _ _ _ h10) ob))) (by kernel_rfl)) (fun h => by cases h)
      ·exact loop_more (path (o17 (ob_b (congrArg (!·) h9) (ob_j (ref12_right_j2.ok ht n _ _ _ _ _ _ _ _ _ _ _ _ _ _ _ _ _ _ h10) ob))) (by kernel_rfl)) (ref12_right_l1.okL ht n k _ _ _ _ h)
     ·cases h
      exact loop_out (path (o17 (ob_b (congrArg (!·) h9) ob)) (by kernel_rfl)) (fun h => by cases h)
    ·cases h
     exact loop_out (path (o11 (ob_b4 (congrArg (!·) h7) (ob_b (congrArg (!·) h7) (ob_b (rfl : true = true) ob)))) (by kernel_rfl)) (fun h => by cases h)
   ·cases h
    exact loop_out (path (o5 (ob_b4 (congrArg (!·) h5) (ob_b (congrArg (!·) h5) (ob_b4 (rfl : true = true) (ob_b2 (rfl : true = true) ob))))) (by kernel_rfl)) (fun h => by cases h)
  ·cases h
   exact loop_out (path (ob_v (len_ts GStep.ts_map (l := a1)) (ob_b h1 ob)) (by kernel_rfl)) (fun h => by cases h)
theorem ref12_right.ok {n : Nat} {t : Tab} (ht : TabOk t (run Tryz.prog own kp X n)) : ∀ (p1 : List GStep) (p2 : Int) r, ref12_right t n p1 p2 = some r → run Tryz.prog own kp X (n + 1) 23 [(Sl 14 (GStep.ts p1)), (I6 p2)] [] = some ((Bo r), []) := by
 intro p1 p2 r h
 obtain ⟨a1, rfl⟩ : ∃ z_, z_ = p1 := ⟨_, rfl⟩
 obtain ⟨a2, rfl⟩ : ∃ z_, z_ = p2 := ⟨_, rfl⟩
 rw [ref12_right] at h
 rcases fk h with ⟨h1, h⟩ | ⟨h1, h⟩
 ·cases h
  exact run_path Tryz.func23 (ob_b h1 ob) (by kernel_rfl)
 ·obtain ⟨a3 | ⟨a4, a5, a6, a7⟩, h2, h⟩ := sm h
  ·cases h
   exact run_path Tryz.func23 (ob_b h1 (ob_k (lk (sub [1, 1, 0, 1, 0] (bodyOf Tryz.f23)) (by kernel_rfl) (ref12_right_l1.okL ht n n _ _ _ _ h2)) ob)) (by kernel_rfl)
  ·cases h
   exact run_path Tryz.func23 (ob_b h1 (ob_k (lk (sub [1, 1, 0, 1, 0] (bodyOf Tryz.f23)) (by kernel_rfl) (ref12_right_l1.okL ht n n _ _ _ _ h2)) ob)) (by kernel_rfl)
theorem plan_steps_j3.ok (ht : TabOk t call) (n : Nat) (a1 a2 a3 : Int) (a4 a5 : List GStep) (a6 a7 : Int) (a8 : List (List GStep)) (a9 a10 : Int) (a11 : Bool) (r : _) (h : plan_steps_j3 t n a1 a2 a3 a4 a5 a6 a7 a8 a9 a10 a11 = some r) : exec (env Tryz.prog 24 Tryz.f24 call) n (sub [1, 1, 0, 1, 0, 0, 1, 1, 0, 0, 1, 1, 1, 0, 0, 1, 1, 0, 0, 1, 1] (bodyOf Tryz.f24)) (mkSt 50 50 [(1, (I6 a1)), (2, (I6 a2)), (7, (I6 a3)), (11, (Sl 14 (GStep.ts a4))), (12, (Sl 14 (GStep.ts a5))), (13, (I6 a6)), (14, (I6 a7)), (25, (Sl 1 (rows_GStep_ts a8))), (26, (I6 a9)), (27, (I6 a10)), (37, (Bo a11))] []) = some (plan_steps_j3.to r) := by
 rw [plan_steps_j3] at h
 rcases fk h with ⟨h1, h⟩ | ⟨h1, h⟩
 ·obtain ⟨a12, h2, h⟩ := sm h
  cases h
  exact path (ob_b h1 (ob_c (ht.plan_steps _ _ _ _ h2) ob)) (by kernel_rfl)
 ·cases h
  exact path (ob_b h1 ob) (by kernel_rfl)
theorem plan_steps_l2.okL (ht : TabOk t call) (n : Nat) : ∀ (k : Nat) (a1 a2 a3 : Int) (a4 : List GStep) (a5 a6 : Int) (a7 : List (List GStep)) (a8 a9 : Int) (r : _), plan_steps_l2 t n k a1 a2 a3 a4 a5 a6 a7 a8 a9 = some r → loopN (exec (env Tryz.prog 24 Tryz.f24 call) n (sub [1, 1, 0, 1, 0, 0, 1, 1, 0, 0, 1, 1, 1, 0, 0] (bodyOf Tryz.f24))) k (mkSt 50 50 [(1, (I6 a1)), (2, (I6 a2)), (7, (I6 a3)), (12, (Sl 14 (GStep.ts a4))), (13, (I6 a5)), (14, (I6 a6)), (25, (Sl 1 (rows_GStep_ts a7))), (26, (I6 a8)), (27, (I6 a9))] []) = some (plan_steps_l2.to r)
 | 0, a1, a2, a3, a4, a5, a6, a7, a8, a9, r, h => by rw [plan_steps_l2] at h; cases h
 | k + 1, a1, a2, a3, a4, a5, a6, a7, a8, a9, r, h => by
  rw [plan_steps_l2] at h
  rcases fk h with ⟨h1, h⟩ | ⟨h1, h⟩
  ·obtain ⟨h2, h⟩ := ck h
   obtain ⟨a10, h3, h⟩ := sm h
   rcases fk h with ⟨h4, h⟩ | ⟨h4, h⟩
   ·obtain ⟨⟨a11, a12, a13, a14, a15, a16, a17, a18, a19⟩, h5, h⟩ := sm h
    exact loop_more (path (ob_b h1 (ob_n h2 (ob_t (look_ts rows_GStep_ts_map h3) (ob_b4 h4 (ob_j (plan_steps_j3.ok ht n _ _ _ _ _ _ _ _ _ _ _ _ h5) ob))))) (by kernel_rfl)) (plan_steps_l2.okL ht n k _ _ _ _ _ _ _ _ _ _ h)
   ·obtain ⟨⟨a20, a21, a22, a23, a24, a25, a26, a27, a28⟩, h6, h⟩ := sm h
    exact loop_more (path (ob_b h1 (ob_n h2 (ob_t (look_ts rows_GStep_ts_map h3) (ob_b4 h4 (ob_j (plan_steps_j3.ok ht n _ _ _ _ _ _ _ _ _ _ _ _ h6) ob))))) (by kernel_rfl)) (plan_steps_l2.okL ht n k _ _ _ _ _ _ _ _ _ _ h)
  ·cases h
   exact loop_out (path (ob_b h1 ob) (by kernel_rfl)) (fun h => by cases h)
theorem plan_steps_l1.okL (ht : TabOk t call) (n : Nat) : ∀ (k : Nat) (a1 a2 a3 : Int) (a4 : List GStep) (a5 a6 : Int) (r : _), plan_steps_l1 t n k a1 a2 a3 a4 a5 a6 = some r → loopN (exec (env Tryz.prog 24 Tryz.f24 call) n (sub [1, 1, 0, 1, 0, 0] (bodyOf Tryz.f24))) k (mkSt 50 50 [(1, (I6 a1)), (2, (I6 a2)), (7, (I6 a3)), (12, (Sl 14 (GStep.ts a4))), (13, (I6 a5)), (14, (I6 a6))] []) = some (plan_steps_l1.to r)
 | 0, a1, a2, a3, a4, a5, a6, r, h => by rw [plan_steps_l1] at h; cases h
 | k + 1, a1, a2, a3, a4, a5, a6, r, h => by
  rw [plan_steps_l1] at h
  rcases fk h with ⟨h1, h⟩ | ⟨h1, h⟩
  ·obtain ⟨h2, h⟩ := ck h
   obtain ⟨⟨a7, a8, a9, ⟨a10, a11, a12, a13, a14⟩, ⟨a15, a16, a17⟩, a18, a19, a20⟩, h3, h⟩ := sm h
   rcases fk h with ⟨h4, h⟩ | ⟨h4, h⟩
   ·cases h
    exact loop_out (path (ob_b h1 (ob_n h2 (ob_t (look_ts GStep.ts_map h3) (ob_b h4 ob)))) (by kernel_rfl)) (fun h => by cases h)
   ·obtain ⟨a21, h5, h⟩ := sm h
    obtain ⟨⟨a22, a23, a24, a25, a26, a27, a28, a29, a30, a31⟩, h6, h⟩ := sm h
    exact loop_more (path (ob_b h1 (ob_n h2 (ob_t (look_ts GStep.ts_map h3) (ob_b h4 (ob_c (ht.plan_inner _ _ h5) (ob_v (len_ts rows_GStep_ts_map (l := a21)) (ob_k (lk (sub [1, 1, 0, 1, 0, 0, 1, 1, 0, 0, 1, 1, 1, 0] (bodyOf Tryz.f24)) (by kernel_rfl) (plan_steps_l2.okL ht n n _ _ _ _ _ _ _ _ _ _ h6)) ob))))))) (by kernel_rfl)) (plan_steps_l1.okL ht n k _ _ _ _ _ _ _ h)
  ·cases h
   exact loop_out (path (ob_b h1 ob) (by kernel_rfl)) (fun h => by cases h)
theorem plan_steps.ok {n : Nat} {t : Tab} (ht : TabOk t (run Tryz.prog own kp X n)) : ∀ (p1 : List GStep) (p2 : Int) (p3 : Int) r, plan_steps t n p1 p2 p3 = some r → run Tryz.prog own kp X (n + 1) 24 [(Sl 14 (GStep.ts p1)), (I6 p2), (I6 p3)] [] = some ((I6 r), []) := by
 intro p1 p2 p3 r h
 obtain ⟨a1, rfl⟩ : ∃ z_, z_ = p1 := ⟨_, rfl⟩
 obtain ⟨a2, rfl⟩ : ∃ z_, z_ = p2 := ⟨_, rfl⟩
 obtain ⟨a3, rfl⟩ : ∃ z_, z_ = p3 := ⟨_, rfl⟩
 rw [plan_steps] at h
 obtain ⟨a4 | ⟨a5, a6, a7, a8, a9, a10, a11⟩, h1, h⟩ := sm h
 ·cases h
  exact run_path Tryz.func24 (ob_v (len_ts GStep.ts_map (l := a1)) (ob_k (lk (sub [1, 1, 0, 1, 0] (bodyOf Tryz.f24)) (by kernel_rfl) (plan_steps_l1.okL ht n n _ _ _ _ _ _ _ h1)) ob)) (by kernel_rfl)
 ·cases h
  exact run_path Tryz.func24 (ob_v (len_ts GStep.ts_map (l := a1)) (ob_k (lk (sub [1, 1, 0, 1, 0] (bodyOf Tryz.f24)) (by kernel_rfl) (plan_steps_l1.okL ht n n _ _ _ _ _ _ _ h1)) ob)) (by kernel_rfl)
theorem ref12_steps_j4.ok (ht : TabOk t call) (n : Nat) (a1 : List GStep) (a2 a3 a4 a5 : Int) (a6 : List (List GStep)) (a7 : Int) (r : _) (h : ref12_steps_j4 t n a1 a2 a3 a4 a5 a6 a7 = some r) : exec (env Tryz.prog 25 Tryz.f25 call) n (sub [1, 1, 0, 1, 0, 0, 1, 0, 0, 1, 1, 1, 0, 0, 1] (bodyOf Tryz.f25)) (mkSt 57 57 [(0, (Sl 14 (GStep.ts a1))), (1, (I6 a2)), (2, (I6 a3)), (7, (I6 a4)), (8, (I6 a5)), (9, (Sl 1 (rows_GStep_ts a6))), (10, (I6 a7))] []) = some (ref12_steps_j4.to r) := by
 rw [ref12_steps_j4] at h
 obtain ⟨h1, h⟩ := ck h
 obtain ⟨a8, h2, h⟩ := sm h
 obtain ⟨a9, h3, h⟩ := sm h
 cases h
 exact path (ob_n h1 (ob_t (look_ts rows_GStep_ts_map h2) (ob_c (ht.ref12_steps _ _ _ _ h3) ob))) (by kernel_rfl)
theorem ref12_steps_l3.okL (ht : TabOk t call) (n : Nat) : ∀ (k : Nat) (a1 : List GStep) (a2 a3 a4 a5 : Int) (a6 : List (List GStep)) (a7 : Int) (r : _), ref12_steps_l3 t n k a1 a2 a3 a4 a5 a6 a7 = some r → loopN (exec (env Tryz.prog 25 Tryz.f25 call) n (sub [1, 1, 0, 1, 0, 0, 1, 0, 0, 1, 1, 1, 0, 0] (bodyOf Tryz.f25))) k (mkSt 57 57 [(0, (Sl 14 (GStep.ts a1))), (1, (I6 a2)), (2, (I6 a3)), (7, (I6 a4)), (8, (I6 a5)), (9, (Sl 1 (rows_GStep_ts a6))), (10, (I6 a7))] []) = some (ref12_steps_l3.to r)
 | 0, a1, a2, a3, a4, a5, a6, a7, r, h => by rw [ref12_steps_l3] at h; cases h
 | k + 1, a1, a2, a3, a4, a5, a6, a7, r, h => by
  rw [ref12_steps_l3] at h
  rcases fk h with ⟨h1, h⟩ | ⟨h1, h⟩
  ·rcases fk h with ⟨h2, h⟩ | ⟨h2, h⟩
   ·rcases fk h with ⟨h3, h⟩ | ⟨h3, h⟩
    ·obtain ⟨⟨a8, a9, a10, a11, a12, a13, a14⟩, h4, h⟩ := sm h
     exact loop_more (path (ob_v (len_ts rows_GStep_ts_map (l := a6)) (ob_b3 h1 (ob_b4 h2 (ob_b h3 (ob_j (ref12_steps_j4.ok ht n _ _ _ _ _ _ _ _ h4) ob))))) (by kernel_rfl)) (ref12_steps_l3.okL ht n k _ _ _ _ _ _ _ _ h)
    ·cases h
     exact loop_out (path (ob_v (len_ts rows_GStep_ts_map (l := a6)) (ob_b3 h1 (ob_b4 h2 (ob_b h3 ob)))) (by kernel_rfl)) (fun h => by cases h)
   ·cases h
    exact loop_out (path (ob_v (len_ts rows_GStep_ts_map (l := a6)) (ob_b3 h1 (ob_b4 h2 (ob_b (rfl : false = false) ob)))) (by kernel_rfl)) (fun h => by cases h)
  ·cases h
   exact loop_out (path (ob_v (len_ts rows_GStep_ts_map (l := a6)) (ob_b3 h1 (ob_b4 (rfl : false = false) (ob_b (rfl : false = false) ob)))) (by kernel_rfl)) (fun h => by cases h)
theorem ref12_steps_j2.ok (ht : TabOk t call) (n : Nat) (a1 : List GStep) (a2 a3 a4 a5 : Int) (r : _) (h : ref12_steps_j2 t n a1 a2 a3 a4 a5 = some r) : exec (env Tryz.prog 25 Tryz.f25 call) n (sub [1, 1, 0, 1, 0, 0, 1] (bodyOf Tryz.f25)) (mkSt 57 57 [(0, (Sl 14 (GStep.ts a1))), (1, (I6 a2)), (2, (I6 a3)), (7, (I6 a4)), (8, (I6 a5))] []) = some (ref12_steps_j2.to r) := by
 rw [ref12_steps_j2] at h
 obtain ⟨h1, h⟩ := ck h
 obtain ⟨⟨a6, a7, a8, ⟨a9, a10, a11, a12, a13⟩, ⟨a14, a15, a16⟩, a17, a18, a19⟩, h2, h⟩ := sm h
 obtain ⟨a20, h3, h⟩ := sm h
 obtain ⟨⟨a21, a22, a23, a24, a25, a26, a27, a28⟩, h4, h⟩ := sm h
 cases h
 exact path (ob_n h1 (ob_t (look_ts GStep.ts_map h2) (ob_c (ht.ref12_Inner _ _ h3) (ob_k (lk (sub [1, 1, 0, 1, 0, 0, 1, 0, 0, 1, 1, 1, 0] (bodyOf Tryz.f25)) (by kernel_rfl) (ref12_steps_l3.okL ht n n _ _ _ _ _ _ _ _ h4)) ob)))) (by kernel_rfl)
theorem ref12_steps_l1.okL (ht : TabOk t call) (n : Nat) : ∀ (k : Nat) (a1 : List GStep) (a2 a3 a4 a5 : Int) (r : _), ref12_steps_l1 t n k a1 a2 a3 a4 a5 = some r → loopN (exec (env Tryz.prog 25 Tryz.f25 call) n (sub [1, 1, 0, 1, 0, 0] (bodyOf Tryz.f25))) k (mkSt 57 57 [(0, (Sl 14 (GStep.ts a1))), (1, (I6 a2)), (2, (I6 a3)), (7, (I6 a4)), (8, (I6 a5))] []) = some (ref12_steps_l1.to r)
 | 0, a1, a2, a3, a4, a5, r, h => by rw [ref12_steps_l1] at h; cases h
 | k + 1, a1, a2, a3, a4, a5, r, h => by
  rw [ref12_steps_l1] at h
  rcases fk h with ⟨h1, h⟩ | ⟨h1, h⟩
  ·rcases fk h with ⟨h2, h⟩ | ⟨h2, h⟩
   ·obtain ⟨⟨a6, a7, a8, a9, a10⟩, h3, h⟩ := sm h
    exact loop_more (path (ob_v (len_ts GStep.ts_map (l := a1)) (ob_b4 h1 (ob_b h2 (ob_j (ref12_steps_j2.ok ht n _ _ _ _ _ _ h3) ob)))) (by kernel_rfl)) (ref12_steps_l1.okL ht n k _ _ _ _ _ _ h)
   ·cases h
    exact loop_out (path (ob_v (len_ts GStep.ts_map (l := a1)) (ob_b4 h1 (ob_b h2 ob))) (by kernel_rfl)) (fun h => by cases h)
  ·cases h
   exact loop_out (path (ob_v (len_ts GStep.ts_map (l := a1)) (ob_b4 h1 (ob_b (rfl : false = false) ob))) (by kernel_rfl)) (fun h => by cases h)
theorem ref12_steps.ok {n : Nat} {t : Tab} (ht : TabOk t (run Tryz.prog own kp X n)) : ∀ (p1 : List GStep) (p2 : Int) (p3 : Int) r, ref12_steps t n p1 p2 p3 = some r → run Tryz.prog own kp X (n + 1) 25 [(Sl 14 (GStep.ts p1)), (I6 p2), (I6 p3)] [] = some ((I6 r), []) := by
 intro p1 p2 p3 r h
 obtain ⟨a1, rfl⟩ : ∃ z_, z_ = p1 := ⟨_, rfl⟩
 obtain ⟨a2, rfl⟩ : ∃ z_, z_ = p2 := ⟨_, rfl⟩
 obtain ⟨a3, rfl⟩ : ∃ z_, z_ = p3 := ⟨_, rfl⟩
 rw [ref12_steps] at h
 obtain ⟨⟨a4, a5, a6, a7, a8, a9⟩, h1, h⟩ := sm h
 cases h
 exact run_path Tryz.func25 (ob_k (lk (sub [1, 1, 0, 1, 0] (bodyOf Tryz.f25)) (by kernel_rfl) (ref12_steps_l1.okL ht n n _ _ _ _ _ _ h1)) ob) (by kernel_rfl)
theorem plan_nest_l2.okL (ht : TabOk t call) (n : Nat) : ∀ (k : Nat) (a1 a2 : Int) (a3 : List GStep) (a4 a5 : Int) (a6 : List (List GStep)) (a7 a8 : Int) (r : _), plan_nest_l2 t n k a1 a2 a3 a4 a5 a6 a7 a8 = some r → loopN (exec (env Tryz.prog 26 Tryz.f26 call) n (sub [1, 1, 0, 1, 0, 0, 1, 1, 0, 0, 1, 1, 0, 0] (bodyOf Tryz.f26))) k (mkSt 35 35 [(1, (I6 a1)), (5, (I6 a2)), (10, (Sl 14 (GStep.ts a3))), (11, (I6 a4)), (12, (I6 a5)), (17, (Sl 1 (rows_GStep_ts a6))), (18, (I6 a7)), (19, (I6 a8))] []) = some (plan_nest_l2.to r)
 | 0, a1, a2, a3, a4, a5, a6, a7, a8, r, h => by rw [plan_nest_l2] at h; cases h
 | k + 1, a1, a2, a3, a4, a5, a6, a7, a8, r, h => by
  rw [plan_nest_l2] at h
  rcases fk h with ⟨h1, h⟩ | ⟨h1, h⟩
  ·obtain ⟨h2, h⟩ := ck h
   obtain ⟨a9, h3, h⟩ := sm h
   rcases fk h with ⟨h4, h⟩ | ⟨h4, h⟩
   ·obtain ⟨a10, h5, h⟩ := sm h
    exact loop_more (path (ob_b h1 (ob_n h2 (ob_t (look_ts rows_GStep_ts_map h3) (ob_b h4 (ob_c (ht.plan_nest _ _ _ h5) ob))))) (by kernel_rfl)) (plan_nest_l2.okL ht n k _ _ _ _ _ _ _ _ _ h)
   ·exact loop_more (path (ob_b h1 (ob_n h2 (ob_t (look_ts rows_GStep_ts_map h3) (ob_b h4 ob)))) (by kernel_rfl)) (plan_nest_l2.okL ht n k _ _ _ _ _ _ _ _ _ h)
  ·cases h
   exact loop_out (path (ob_b h1 ob) (by kernel_rfl)) (fun h => by cases h)
theorem plan_nest_l1.okL (ht : TabOk t call) (n : Nat) : ∀ (k : Nat) (a1 a2 : Int) (a3 : List GStep) (a4 a5 : Int) (r : _), plan_nest_l1 t n k a1 a2 a3 a4 a5 = some r → loopN (exec (env Tryz.prog 26 Tryz.f26 call) n (sub [1, 1, 0, 1, 0, 0] (bodyOf Tryz.f26))) k (mkSt 35 35 [(1, (I6 a1)), (5, (I6 a2)), (10, (Sl 14 (GStep.ts a3))), (11, (I6 a4)), (12, (I6 a5))] []) = some (plan_nest_l1.to r)
 | 0, a1, a2, a3, a4, a5, r, h => by rw [plan_nest_l1] at h; cases h
 | k + 1, a1, a2, a3, a4, a5, r, h => by
  rw [plan_nest_l1] at h
  rcases fk h with ⟨h1, h⟩ | ⟨h1, h⟩
  ·obtain ⟨h2, h⟩ := ck h
   obtain ⟨⟨a6, a7, a8, ⟨a9, a10, a11, a12, a13⟩, ⟨a14, a15, a16⟩, a17, a18, a19⟩, h3, h⟩ := sm h
   obtain ⟨a20, h4, h⟩ := sm h
   obtain ⟨⟨a21, a22, a23, a24, a25, a26, a27, a28, a29⟩, h5, h⟩ := sm h
   exact loop_more (path (ob_b h1 (ob_n h2 (ob_t (look_ts GStep.ts_map h3) (ob_c (ht.plan_inner _ _ h4) (ob_v (len_ts rows_GStep_ts_map (l := a20)) (ob_k (lk (sub [1, 1, 0, 1, 0, 0, 1, 1, 0, 0, 1, 1, 0] (bodyOf Tryz.f26)) (by kernel_rfl) (plan_nest_l2.okL ht n n _ _ _ _ _ _ _ _ _ h5)) ob)))))) (by kernel_rfl)) (plan_nest_l1.okL ht n k _ _ _ _ _ _ h)
  ·cases h
   exact loop_out (path (ob_b h1 ob) (by kernel_rfl)) (fun h => by cases h)
theorem plan_nest.ok {n : Nat} {t : Tab} (ht : TabOk t (run Tryz.prog own kp X n)) : ∀ (p1 : List GStep) (p2 : Int) r, plan_nest t n p1 p2 = some r → run Tryz.prog own kp X (n + 1) 26 [(Sl 14 (GStep.ts p1)), (I6 p2)] [] = some ((I6 r), []) := by
 intro p1 p2 r h
 obtain ⟨a1, rfl⟩ : ∃ z_, z_ = p1 := ⟨_, rfl⟩
 obtain ⟨a2, rfl⟩ : ∃ z_, z_ = p2 := ⟨_, rfl⟩
 rw [plan_nest] at h
 obtain ⟨⟨a3, a4, a5, a6, a7, a8⟩, h1, h⟩ := sm h
 cases h
 exact run_path Tryz.func26 (ob_v (len_ts GStep.ts_map (l := a1)) (ob_k (lk (sub [1, 1, 0, 1, 0] (bodyOf Tryz.f26)) (by kernel_rfl) (plan_nest_l1.okL ht n n _ _ _ _ _ _ h1)) ob)) (by kernel_rfl)
theorem ref12_nest_l3.okL (ht : TabOk t call) (n : Nat) : ∀ (k : Nat) (a1 : List GStep) (a2 a3 a4 : Int) (a5 : List (List GStep)) (a6 : Int) (r : _), ref12_nest_l3 t n k a1 a2 a3 a4 a5 a6 = some r → loopN (exec (env Tryz.prog 27 Tryz.f27 call) n (sub [1, 1, 0, 1, 0, 0, 1, 0, 0, 1, 1, 0, 0] (bodyOf Tryz.f27))) k (mkSt 41 41 [(0, (Sl 14 (GStep.ts a1))), (1, (I6 a2)), (5, (I6 a3)), (6, (I6 a4)), (7, (Sl 1 (rows_GStep_ts a5))), (8, (I6 a6))] []) = some (ref12_nest_l3.to r)
 | 0, a1, a2, a3, a4, a5, a6, r, h => by rw [ref12_nest_l3] at h; cases h
 | k + 1, a1, a2, a3, a4, a5, a6, r, h => by
  rw [ref12_nest_l3] at h
  rcases fk h with ⟨h1, h⟩ | ⟨h1, h⟩
  ·obtain ⟨h2, h⟩ := ck h
   obtain ⟨a7, h3, h⟩ := sm h
   obtain ⟨a8, h4, h⟩ := sm h
   exact loop_more (path (ob_v (len_ts rows_GStep_ts_map (l := a5)) (ob_b h1 (ob_n h2 (ob_t (look_ts rows_GStep_ts_map h3) (ob_c (ht.ref12_nest _ _ _ h4) ob))))) (by kernel_rfl)) (ref12_nest_l3.okL ht n k _ _ _ _ _ _ _ h)
  ·cases h
   exact loop_out (path (ob_v (len_ts rows_GStep_ts_map (l := a5)) (ob_b h1 ob)) (by kernel_rfl)) (fun h => by cases h)
theorem ref12_nest_j2.ok (ht : TabOk t call) (n : Nat) (a1 : List GStep) (a2 a3 a4 : Int) (r : _) (h : ref12_nest_j2 t n a1 a2 a3 a4 = some r) : exec (env Tryz.prog 27 Tryz.f27 call) n (sub [1, 1, 0, 1, 0, 0, 1] (bodyOf Tryz.f27)) (mkSt 41 41 [(0, (Sl 14 (GStep.ts a1))), (1, (I6 a2)), (5, (I6 a3)), (6, (I6 a4))] []) = some (ref12_nest_j2.to r) := by
 rw [ref12_nest_j2] at h
 obtain ⟨h1, h⟩ := ck h
 obtain ⟨⟨a5, a6, a7, ⟨a8, a9, a10, a11, a12⟩, ⟨a13, a14, a15⟩, a16, a17, a18⟩, h2, h⟩ := sm h
 obtain ⟨a19, h3, h⟩ := sm h
 obtain ⟨⟨a20, a21, a22, a23, a24, a25, a26⟩, h4, h⟩ := sm h
 cases h
 exact path (ob_n h1 (ob_t (look_ts GStep.ts_map h2) (ob_c (ht.ref12_Inner _ _ h3) (ob_k (lk (sub [1, 1, 0, 1, 0, 0, 1, 0, 0, 1, 1, 0] (bodyOf Tryz.f27)) (by kernel_rfl) (ref12_nest_l3.okL ht n n _ _ _ _ _ _ _ h4)) ob)))) (by kernel_rfl)
theorem ref12_nest_l1.okL (ht : TabOk t call) (n : Nat) : ∀ (k : Nat) (a1 : List GStep) (a2 a3 a4 : Int) (r : _), ref12_nest_l1 t n k a1 a2 a3 a4 = some r → loopN (exec (env Tryz.prog 27 Tryz.f27 call) n (sub [1, 1, 0, 1, 0, 0] (bodyOf Tryz.f27))) k (mkSt 41 41 [(0, (Sl 14 (GStep.ts a1))), (1, (I6 a2)), (5, (I6 a3)), (6, (I6 a4))] []) = some (ref12_nest_l1.to r)
 | 0, a1, a2, a3, a4, r, h => by rw [ref12_nest_l1] at h; cases h
 | k + 1, a1, a2, a3, a4, r, h => by
  rw [ref12_nest_l1] at h
  rcases fk h with ⟨h1, h⟩ | ⟨h1, h⟩
  ·rcases fk h with ⟨h2, h⟩ | ⟨h2, h⟩
   ·obtain ⟨⟨a5, a6, a7, a8⟩, h3, h⟩ := sm h
    exact loop_more (path (ob_v (len_ts GStep.ts_map (l := a1)) (ob_b3 h1 (ob_b h2 (ob_j (ref12_nest_j2.ok ht n _ _ _ _ _ h3) ob)))) (by kernel_rfl)) (ref12_nest_l1.okL ht n k _ _ _ _ _ h)
   ·cases h
    exact loop_out (path (ob_v (len_ts GStep.ts_map (l := a1)) (ob_b3 h1 (ob_b h2 ob))) (by kernel_rfl)) (fun h => by cases h)
  ·cases h
   exact loop_out (path (ob_v (len_ts GStep.ts_map (l := a1)) (ob_b3 h1 (ob_b (rfl : false = false) ob))) (by kernel_rfl)) (fun h => by cases h)
theorem ref12_nest.ok {n : Nat} {t : Tab} (ht : TabOk t (run Tryz.prog own kp X n)) : ∀ (p1 : List GStep) (p2 : Int) r, ref12_nest t n p1 p2 = some r → run Tryz.prog own kp X (n + 1) 27 [(Sl 14 (GStep.ts p1)), (I6 p2)] [] = some ((I6 r), []) := by
 intro p1 p2 r h
 obtain ⟨a1, rfl⟩ : ∃ z_, z_ = p1 := ⟨_, rfl⟩
 obtain ⟨a2, rfl⟩ : ∃ z_, z_ = p2 := ⟨_, rfl⟩
 rw [ref12_nest] at h
 obtain ⟨⟨a3, a4, a5, a6, a7⟩, h1, h⟩ := sm h
 cases h
 exact run_path Tryz.func27 (ob_k (lk (sub [1, 1, 0, 1, 0] (bodyOf Tryz.f27)) (by kernel_rfl) (ref12_nest_l1.okL ht n n _ _ _ _ _ h1)) ob) (by kernel_rfl)
theorem plan_Uses.ok {n : Nat} {t : Tab} (ht : TabOk t (run Tryz.prog own kp X n)) : ∀ (p1 : List GStep) (p2 : List Int) r, plan_Uses t n p1 p2 = some r → run Tryz.prog own kp X (n + 1) 21 [(Sl 14 (GStep.ts p1)), (Sl 1 (ints_i64 p2))] [] = some ((Bo r), []) := by
 intro p1 p2 r h
 obtain ⟨a1, rfl⟩ : ∃ z_, z_ = p1 := ⟨_, rfl⟩
 obtain ⟨a2, rfl⟩ : ∃ z_, z_ = p2 := ⟨_, rfl⟩
 rw [plan_Uses] at h
 obtain ⟨a3, rfl⟩ : ∃ z_, z_ = r := ⟨_, rfl⟩
 have h1 := h
 exact run_path Tryz.func21 (ob_c (ht.plan_plan_Uses_1 _ _ _ h1) ob) (by kernel_rfl)
theorem plan_plan_Free_1.ok {n : Nat} {t : Tab} (ht : TabOk t (run Tryz.prog own kp X n)) : ∀ (p1 : List GStep) r, plan_plan_Free_1 t n p1 = some r → run Tryz.prog own kp X (n + 1) 28 [(Sl 14 (GStep.ts p1)), (.fn 29 [])] [] = some ((Bo r), []) := by
 intro p1 r h
 obtain ⟨a1, rfl⟩ : ∃ z_, z_ = p1 := ⟨_, rfl⟩
 rw [plan_plan_Free_1] at h
 obtain ⟨a2, rfl⟩ : ∃ z_, z_ = r := ⟨_, rfl⟩
 have h1 := h
 exact run_path Tryz.func28 (ob_c (ht.slices_ContainsFunc_plan_some_1 _ _ h1) ob) (by kernel_rfl)
theorem ref12_Uses_l2.okL (ht : TabOk t call) (n : Nat) : ∀ (k : Nat) (a1 : List GStep) (a2 : List Int) (a3 a4 : Int) (r : _), ref12_Uses_l2 t n k a1 a2 a3 a4 = some r → loopN (exec (env Tryz.prog 30 Tryz.f30 call) n (sub [1, 0, 1, 0, 0, 1, 0, 0, 0, 1, 0, 0] (bodyOf Tryz.f30))) k (mkSt 48 48 [(0, (Sl 14 (GStep.ts a1))), (1, (Sl 1 (ints_i64 a2))), (5, (I6 a3)), (6, (I6 a4))] []) = some (ref12_Uses_l2.to r)
 | 0, a1, a2, a3, a4, r, h => by rw [ref12_Uses_l2] at h; cases h
 | k + 1, a1, a2, a3, a4, r, h => by
  rw [ref12_Uses_l2] at h
  rcases fk h with ⟨h1, h⟩ | ⟨h1, h⟩
  ·obtain ⟨h2, h⟩ := ck h
   obtain ⟨⟨a5, a6, a7, ⟨a8, a9, a10, a11, a12⟩, ⟨a13, a14, a15⟩, a16, a17, a18⟩, h3, h⟩ := sm h
   obtain ⟨h4, h⟩ := ck h
   obtain ⟨a19, h5, h⟩ := sm h
   rcases fk h with ⟨h6, h⟩ | ⟨h6, h⟩
   ·cases h
    exact loop_out (path (ob_v (len_ts ints_i64_map (l := a2)) (ob_b h1 (ob_n h2 (ob_t (look_ts GStep.ts_map h3) (ob_n h4 (ob_t (look_ts ints_i64_map h5) (ob_b h6 ob))))))) (by kernel_rfl)) (fun h => by cases h)
   ·exact loop_more (path (ob_v (len_ts ints_i64_map (l := a2)) (ob_b h1 (ob_n h2 (ob_t (look_ts GStep.ts_map h3) (ob_n h4 (ob_t (look_ts ints_i64_map h5) (ob_b h6 ob))))))) (by kernel_rfl)) (ref12_Uses_l2.okL ht n k _ _ _ _ _ h)
  ·cases h
   exact loop_out (path (ob_v (len_ts ints_i64_map (l := a2)) (ob_b h1 ob)) (by kernel_rfl)) (fun h => by cases h)
theorem ref12_Uses_l4.okL (ht : TabOk t call) (n : Nat) : ∀ (k : Nat) (a1 : List GStep) (a2 : List Int) (a3 : Int) (a4 : List (List GStep)) (a5 : Int) (r : _), ref12_Uses_l4 t n k a1 a2 a3 a4 a5 = some r → loopN (exec (env Tryz.prog 30 Tryz.f30 call) n (sub [1, 0, 1, 0, 0, 1, 0, 0, 1, 1, 1, 0, 0] (bodyOf Tryz.f30))) k (mkSt 48 48 [(0, (Sl 14 (GStep.ts a1))), (1, (Sl 1 (ints_i64 a2))), (5, (I6 a3)), (7, (Sl 1 (rows_GStep_ts a4))), (8, (I6 a5))] []) = some (ref12_Uses_l4.to r)
 | 0, a1, a2, a3, a4, a5, r, h => by rw [ref12_Uses_l4] at h; cases h
 | k + 1, a1, a2, a3, a4, a5, r, h => by
  rw [ref12_Uses_l4] at h
  rcases fk h with ⟨h1, h⟩ | ⟨h1, h⟩
  ·obtain ⟨h2, h⟩ := ck h
   obtain ⟨a6, h3, h⟩ := sm h
   obtain ⟨a7, h4, h⟩ := sm h
   rcases fk h with ⟨h5, h⟩ | ⟨h5, h⟩
   ·cases h
    exact loop_out (path (ob_v (len_ts rows_GStep_ts_map (l := a4)) (ob_b h1 (ob_n h2 (ob_t (look_ts rows_GStep_ts_map h3) (ob_c (ht.ref12_Uses _ _ _ h4) (ob_b h5 ob)))))) (by kernel_rfl)) (fun h => by cases h)
   ·exact loop_more (path (ob_v (len_ts rows_GStep_ts_map (l := a4)) (ob_b h1 (ob_n h2 (ob_t (look_ts rows_GStep_ts_map h3) (ob_c (ht.ref12_Uses _ _ _ h4) (ob_b h5 ob)))))) (by kernel_rfl)) (ref12_Uses_l4.okL ht n k _ _ _ _ _ _ h)
  ·cases h
   exact loop_out (path (ob_v (len_ts rows_GStep_ts_map (l := a4)) (ob_b h1 ob)) (by kernel_rfl)) (fun h => by cases h)
theorem ref12_Uses_j3.ok (ht : TabOk t call) (n : Nat) (a1 : List GStep) (a2 : List Int) (a3 : Int) (r : _) (h : ref12_Uses_j3 t n a1 a2 a3 = some r) : exec (env Tryz.prog 30 Tryz.f30 call) n (sub [1, 0, 1, 0, 0, 1, 0, 0, 1] (bodyOf Tryz.f30)) (mkSt 48 48 [(0, (Sl 14 (GStep.ts a1))), (1, (Sl 1 (ints_i64 a2))), (5, (I6 a3))] []) = some (ref12_Uses_j3.to r) := by
 rw [ref12_Uses_j3] at h
 obtain ⟨h1, h⟩ := ck h
 obtain ⟨⟨a4, a5, a6, ⟨a7, a8, a9, a10, a11⟩, ⟨a12, a13, a14⟩, a15, a16, a17⟩, h2, h⟩ := sm h
 obtain ⟨a18, h3, h⟩ := sm h
 obtain ⟨a19 | ⟨a20, a21, a22, a23, a24, a25⟩, h4, h⟩ := sm h
 ·cases h
  exact path (ob_n h1 (ob_t (look_ts GStep.ts_map h2) (ob_c (ht.ref12_Inner _ _ h3) (ob_k (lk (sub [1, 0, 1, 0, 0, 1, 0, 0, 1, 1, 1, 0] (bodyOf Tryz.f30)) (by kernel_rfl) (ref12_Uses_l4.okL ht n n _ _ _ _ _ _ h4)) ob)))) (by kernel_rfl)
 ·cases h
  exact path (ob_n h1 (ob_t (look_ts GStep.ts_map h2) (ob_c (ht.ref12_Inner _ _ h3) (ob_k (lk (sub [1, 0, 1, 0, 0, 1, 0, 0, 1, 1, 1, 0] (bodyOf Tryz.f30)) (by kernel_rfl) (ref12_Uses_l4.okL ht n n _ _ _ _ _ _ h4)) ob)))) (by kernel_rfl)
theorem ref12_Uses_l1.okL (ht : TabOk t call) (n : Nat) : ∀ (k : Nat) (a1 : List GStep) (a2 : List Int) (a3 : Int) (r : _), ref12_Uses_l1 t n k a1 a2 a3 = some r → loopN (exec (env Tryz.prog 30 Tryz.f30 call) n (sub [1, 0, 1, 0, 0] (bodyOf Tryz.f30))) k (mkSt 48 48 [(0, (Sl 14 (GStep.ts a1))), (1, (Sl 1 (ints_i64 a2))), (5, (I6 a3))] []) = some (ref12_Uses_l1.to r)
 | 0, a1, a2, a3, r, h => by rw [ref12_Uses_l1] at h; cases h
 | k + 1, a1, a2, a3, r, h => by
  rw [ref12_Uses_l1] at h
  rcases fk h with ⟨h1, h⟩ | ⟨h1, h⟩
  ·obtain ⟨a4 | ⟨a5, a6, a7, a8, a9⟩, h2, h⟩ := sm h
   ·cases h
    exact loop_out (path (ob_v (len_ts GStep.ts_map (l := a1)) (ob_b h1 (ob_k (lk (sub [1, 0, 1, 0, 0, 1, 0, 0, 0, 1, 0] (bodyOf Tryz.f30)) (by kernel_rfl) (ref12_Uses_l2.okL ht n n _ _ _ _ _ h2)) ob))) (by kernel_rfl)) (fun h => by cases h)
   ·have o3 {os} (x : Obls (env Tryz.prog 30 Tryz.f30 call) n os) := ob_v (len_ts GStep.ts_map (l := a1)) (ob_b h1 (ob_k (lk (sub [1, 0, 1, 0, 0, 1, 0, 0, 0, 1, 0] (bodyOf Tryz.f30)) (by kernel_rfl) (ref12_Uses_l2.okL ht n n _ _ _ _ _ h2)) x))
    obtain ⟨a10 | ⟨a11, a12, a13⟩, h3, h⟩ := sm h
    ·cases h
     exact loop_out (path (o3 (ob_j (ref12_Uses_j3.ok ht n _ _ _ _ h3) ob)) (by kernel_rfl)) (fun h => by cases h)
    ·exact loop_more (path (o3 (ob_j (ref12_Uses_j3.ok ht n _ _ _ _ h3) ob)) (by kernel_rfl)) (ref12_Uses_l1.okL ht n k _ _ _ _ h)
  ·cases h
   exact loop_out (path (ob_v (len_ts GStep.ts_map (l := a1)) (ob_b h1 ob)) (by kernel_rfl)) (fun h => by cases h)
theorem ref12_Uses.ok {n : Nat} {t : Tab} (ht : TabOk t (run Tryz.prog own kp X n)) : ∀ (p1 : List GStep) (p2 : List Int) r, ref12_Uses t n p1 p2 = some r → run Tryz.prog own kp X (n + 1) 30 [(Sl 14 (GStep.ts p1)), (Sl 1 (ints_i64 p2))] [] = some ((Bo r), []) := by
 intro p1 p2 r h
 obtain ⟨a1, rfl⟩ : ∃ z_, z_ = p1 := ⟨_, rfl⟩
 obtain ⟨a2, rfl⟩ : ∃ z_, z_ = p2 := ⟨_, rfl⟩
 rw [ref12_Uses] at h
 obtain ⟨a3 | ⟨a4, a5, a6, a7⟩, h1, h⟩ := sm h
 ·cases h
  exact run_path Tryz.func30 (ob_k (lk (sub [1, 0, 1, 0] (bodyOf Tryz.f30)) (by kernel_rfl) (ref12_Uses_l1.okL ht n n _ _ _ _ h1)) ob) (by kernel_rfl)
 ·cases h
  exact run_path Tryz.func30 (ob_k (lk (sub [1, 0, 1, 0] (bodyOf Tryz.f30)) (by kernel_rfl) (ref12_Uses_l1.okL ht n n _ _ _ _ h1)) ob) (by kernel_rfl)
theorem ref12_Named_l2.okL (ht : TabOk t call) (n : Nat) : ∀ (k : Nat) (a1 : List GStep) (a2 : Int) (a3 : List (List GStep)) (a4 : Int) (r : _), ref12_Named_l2 t n k a1 a2 a3 a4 = some r → loopN (exec (env Tryz.prog 31 Tryz.f31 call) n (sub [1, 0, 1, 0, 0, 1, 0, 0, 1, 1, 1, 0, 0] (bodyOf Tryz.f31))) k (mkSt 35 35 [(0, (Sl 14 (GStep.ts a1))), (3, (I6 a2)), (4, (Sl 1 (rows_GStep_ts a3))), (5, (I6 a4))] []) = some (ref12_Named_l2.to r)
 | 0, a1, a2, a3, a4, r, h => by rw [ref12_Named_l2] at h; cases h
 | k + 1, a1, a2, a3, a4, r, h => by
  rw [ref12_Named_l2] at h
  rcases fk h with ⟨h1, h⟩ | ⟨h1, h⟩
  ·obtain ⟨h2, h⟩ := ck h
   obtain ⟨a5, h3, h⟩ := sm h
   obtain ⟨a6, h4, h⟩ := sm h
   rcases fk h with ⟨h5, h⟩ | ⟨h5, h⟩
   ·cases h
    exact loop_out (path (ob_v (len_ts rows_GStep_ts_map (l := a3)) (ob_b h1 (ob_n h2 (ob_t (look_ts rows_GStep_ts_map h3) (ob_c (ht.ref12_Named _ _ h4) (ob_b h5 ob)))))) (by kernel_rfl)) (fun h => by cases h)
   ·exact loop_more (path (ob_v (len_ts rows_GStep_ts_map (l := a3)) (ob_b h1 (ob_n h2 (ob_t (look_ts rows_GStep_ts_map h3) (ob_c (ht.ref12_Named _ _ h4) (ob_b h5 ob)))))) (by kernel_rfl)) (ref12_Named_l2.okL ht n k _ _ _ _ _ h)
  ·cases h
   exact loop_out (path (ob_v (len_ts rows_GStep_ts_map (l := a3)) (ob_b h1 ob)) (by kernel_rfl)) (fun h => by cases h)
theorem ref12_Named_l1.okL (ht : TabOk t call) (n : Nat) : ∀ (k : Nat) (a1 : List GStep) (a2 : Int) (r : _), ref12_Named_l1 t n k a1 a2 = some r → loopN (exec (env Tryz.prog 31 Tryz.f31 call) n (sub [1, 0, 1, 0, 0] (bodyOf Tryz.f31))) k (mkSt 35 35 [(0, (Sl 14 (GStep.ts a1))), (3, (I6 a2))] []) = some (ref12_Named_l1.to r)
 | 0, a1, a2, r, h => by rw [ref12_Named_l1] at h; cases h
 | k + 1, a1, a2, r, h => by
  rw [ref12_Named_l1] at h
  rcases fk h with ⟨h1, h⟩ | ⟨h1, h⟩
  ·obtain ⟨h2, h⟩ := ck h
   obtain ⟨⟨a3, a4, a5, ⟨a6, a7, a8, a9, a10⟩, ⟨a11, a12, a13⟩, a14, a15, a16⟩, h3, h⟩ := sm h
   have o5 {os} (x : Obls (env Tryz.prog 31 Tryz.f31 call) n os) := ob_v (len_ts GStep.ts_map (l := a1)) (ob_b h1 (ob_n h2 (ob_t (look_ts GStep.ts_map h3) (ob_v (len_ts texts_map (l := a16)) x))))
   rcases fk h with ⟨h4, h⟩ | ⟨h4, h⟩
   ·cases h
    exact loop_out (path (o5 (ob_b h4 ob)) (by kernel_rfl)) (fun h => by cases h)
   ·obtain ⟨a17, h5, h⟩ := sm h
    obtain ⟨a18 | ⟨a19, a20, a21, a22, a23⟩, h6, h⟩ := sm h
    ·cases h
     exact loop_out (path (o5 (ob_b h4 (ob_n h2 (ob_t (look_ts GStep.ts_map h3) (ob_c (ht.ref12_Inner _ _ h5) (ob_k (lk (sub [1, 0, 1, 0, 0, 1, 0, 0, 1, 1, 1, 0] (bodyOf Tryz.f31)) (by kernel_rfl) (ref12_Named_l2.okL ht n n _ _ _ _ _ h6)) ob)))))) (by kernel_rfl)) (fun h => by cases h)
    ·exact loop_more (path (o5 (ob_b h4 (ob_n h2 (ob_t (look_ts GStep.ts_map h3) (ob_c (ht.ref12_Inner _ _ h5) (ob_k (lk (sub [1, 0, 1, 0, 0, 1, 0, 0, 1, 1, 1, 0] (bodyOf Tryz.f31)) (by kernel_rfl) (ref12_Named_l2.okL ht n n _ _ _ _ _ h6)) ob)))))) (by kernel_rfl)) (ref12_Named_l1.okL ht n k _ _ _ h)
  ·cases h
   exact loop_out (path (ob_v (len_ts GStep.ts_map (l := a1)) (ob_b h1 ob)) (by kernel_rfl)) (fun h => by cases h)
theorem ref12_Named.ok {n : Nat} {t : Tab} (ht : TabOk t (run Tryz.prog own kp X n)) : ∀ (p1 : List GStep) r, ref12_Named t n p1 = some r → run Tryz.prog own kp X (n + 1) 31 [(Sl 14 (GStep.ts p1))] [] = some ((Bo r), []) := by
 intro p1 r h
 obtain ⟨a1, rfl⟩ : ∃ z_, z_ = p1 := ⟨_, rfl⟩
 rw [ref12_Named] at h
 obtain ⟨a2 | ⟨a3, a4, a5⟩, h1, h⟩ := sm h
 ·cases h
  exact run_path Tryz.func31 (ob_k (lk (sub [1, 0, 1, 0] (bodyOf Tryz.f31)) (by kernel_rfl) (ref12_Named_l1.okL ht n n _ _ _ h1)) ob) (by kernel_rfl)
 ·cases h
  exact run_path Tryz.func31 (ob_k (lk (sub [1, 0, 1, 0] (bodyOf Tryz.f31)) (by kernel_rfl) (ref12_Named_l1.okL ht n n _ _ _ h1)) ob) (by kernel_rfl)
theorem ref02_Count_j2.ok (ht : TabOk t call) (n : Nat) (a1 a2 a3 a4 a5 : Int) (a6 : ByteArray) (a7 a8 : List GValue) (r : _) (h : ref02_Count_j2 t n a1 a2 a3 a4 a5 a6 a7 a8 = some r) : exec (env Tryz.prog 46 Tryz.f46 call) n (sub [1, 1, 0, 1, 0, 0, 1] (bodyOf Tryz.f46)) (mkSt 60 60 [(1, (I6 a1)), (2, (.ptr 2 0 [] 0)), (5, (I6 a2)), (6, (I6 a3))] [(2, (.t (.st [(.v (.int .i64 a4)), (.v (.int .i64 a5)), (.v (.string a6)), (.sl false 5 (GValue.ts a7)), (.sl false 5 (GValue.ts a8))])))]) = some (ref02_Count_j2.to r) := by
 rw [ref02_Count_j2] at h
 obtain ⟨h1, h⟩ := ck h
 obtain ⟨⟨a9, a10, a11, a12, a13⟩, h2, h⟩ := sm h
 obtain ⟨a14, h3, h⟩ := sm h
 cases h
 exact path (ob_n h1 (ob_t (look_ts GValue.ts_map h2) (ob_c (ht.ref02_Count _ _ _ h3) ob))) (by kernel_rfl)
theorem ref02_Count_l1.okL (ht : TabOk t call) (n : Nat) : ∀ (k : Nat) (a1 a2 a3 a4 a5 : Int) (a6 : ByteArray) (a7 a8 : List GValue) (r : _), ref02_Count_l1 t n k a1 a2 a3 a4 a5 a6 a7 a8 = some r → loopN (exec (env Tryz.prog 46 Tryz.f46 call) n (sub [1, 1, 0, 1, 0, 0] (bodyOf Tryz.f46))) k (mkSt 60 60 [(1, (I6 a1)), (2, (.ptr 2 0 [] 0)), (5, (I6 a2)), (6, (I6 a3))] [(2, (.t (.st [(.v (.int .i64 a4)), (.v (.int .i64 a5)), (.v (.string a6)), (.sl false 5 (GValue.ts a7)), (.sl false 5 (GValue.ts a8))])))]) = some (ref02_Count_l1.to r)
 | 0, a1, a2, a3, a4, a5, a6, a7, a8, r, h => by rw [ref02_Count_l1] at h; cases h
 | k + 1, a1, a2, a3, a4, a5, a6, a7, a8, r, h => by
  rw [ref02_Count_l1] at h
  rcases fk h with ⟨h1, h⟩ | ⟨h1, h⟩
  ·rcases fk h with ⟨h2, h⟩ | ⟨h2, h⟩
   ·obtain ⟨⟨a9, a10, a11, a12, a13, a14, a15, a16⟩, h3, h⟩ := sm h
    exact loop_more (path (ob_v (len_ts GValue.ts_map (l := a7)) (ob_b4 h1 (ob_b h2 (ob_j (ref02_Count_j2.ok ht n _ _ _ _ _ _ _ _ _ h3) ob)))) (by kernel_rfl)) (ref02_Count_l1.okL ht n k _ _ _ _ _ _ _ _ _ h)
   ·cases h
    exact loop_out (path (ob_v (len_ts GValue.ts_map (l := a7)) (ob_b4 h1 (ob_b h2 ob))) (by kernel_rfl)) (fun h => by cases h)
  ·cases h
   exact loop_out (path (ob_v (len_ts GValue.ts_map (l := a7)) (ob_b4 h1 (ob_b (rfl : false = false) ob))) (by kernel_rfl)) (fun h => by cases h)
theorem ref02_Count_j5.ok (ht : TabOk t call) (n : Nat) (a1 a2 a3 a4 a5 : Int) (a6 : ByteArray) (a7 a8 : List GValue) (r : _) (h : ref02_Count_j5 t n a1 a2 a3 a4 a5 a6 a7 a8 = some r) : exec (env Tryz.prog 46 Tryz.f46 call) n (sub [1, 1, 1, 0, 1, 0, 0, 1] (bodyOf Tryz.f46)) (mkSt 60 60 [(1, (I6 a1)), (2, (.ptr 2 0 [] 0)), (5, (I6 a2)), (7, (I6 a3))] [(2, (.t (.st [(.v (.int .i64 a4)), (.v (.int .i64 a5)), (.v (.string a6)), (.sl false 5 (GValue.ts a7)), (.sl false 5 (GValue.ts a8))])))]) = some (ref02_Count_j5.to r) := by
 rw [ref02_Count_j5] at h
 obtain ⟨h1, h⟩ := ck h
 obtain ⟨⟨a9, a10, a11, a12, a13⟩, h2, h⟩ := sm h
 obtain ⟨a14, h3, h⟩ := sm h
 cases h
 exact path (ob_n h1 (ob_t (look_ts GValue.ts_map h2) (ob_c (ht.ref02_Count _ _ _ h3) ob))) (by kernel_rfl)
theorem ref02_Count_l4.okL (ht : TabOk t call) (n : Nat) : ∀ (k : Nat) (a1 a2 a3 a4 a5 : Int) (a6 : ByteArray) (a7 a8 : List GValue) (r : _), ref02_Count_l4 t n k a1 a2 a3 a4 a5 a6 a7 a8 = some r → loopN (exec (env Tryz.prog 46 Tryz.f46 call) n (sub [1, 1, 1, 0, 1, 0, 0] (bodyOf Tryz.f46))) k (mkSt 60 60 [(1, (I6 a1)), (2, (.ptr 2 0 [] 0)), (5, (I6 a2)), (7, (I6 a3))] [(2, (.t (.st [(.v (.int .i64 a4)), (.v (.int .i64 a5)), (.v (.string a6)), (.sl false 5 (GValue.ts a7)), (.sl false 5 (GValue.ts a8))])))]) = some (ref02_Count_l4.to r)
 | 0, a1, a2, a3, a4, a5, a6, a7, a8, r, h => by rw [ref02_Count_l4] at h; cases h
 | k + 1, a1, a2, a3, a4, a5, a6, a7, a8, r, h => by
  rw [ref02_Count_l4] at h
  rcases fk h with ⟨h1, h⟩ | ⟨h1, h⟩
  ·rcases fk h with ⟨h2, h⟩ | ⟨h2, h⟩
   ·obtain ⟨⟨a9, a10, a11, a12, a13, a14, a15, a16⟩, h3, h⟩ := sm h
    exact loop_more (path (ob_v (len_ts GValue.ts_map (l := a8)) (ob_b4 h1 (ob_b h2 (ob_j (ref02_Count_j5.ok ht n _ _ _ _ _ _ _ _ _ h3) ob)))) (by kernel_rfl)) (ref02_Count_l4.okL ht n k _ _ _ _ _ _ _ _ _ h)
   ·cases h
    exact loop_out (path (ob_v (len_ts GValue.ts_map (l := a8)) (ob_b4 h1 (ob_b h2 ob))) (by kernel_rfl)) (fun h => by cases h)
  ·cases h
   exact loop_out (path (ob_v (len_ts GValue.ts_map (l := a8)) (ob_b4 h1 (ob_b (rfl : false = false) ob))) (by kernel_rfl)) (fun h => by cases h)
theorem ref02_Count_j6.ok (ht : TabOk t call) (n : Nat) (a1 a2 a3 : Int) (a4 : ByteArray) (a5 a6 : List GValue) (r : _) (h : ref02_Count_j6 t n a1 a2 a3 a4 a5 a6 = some r) : exec (env Tryz.prog 46 Tryz.f46 call) n (sub [1, 1, 1, 1] (bodyOf Tryz.f46)) (mkSt 60 60 [(2, (.ptr 2 0 [] 0)), (5, (I6 a1))] [(2, (.t (.st [(.v (.int .i64 a2)), (.v (.int .i64 a3)), (.v (.string a4)), (.sl false 5 (GValue.ts a5)), (.sl false 5 (GValue.ts a6))])))]) = some (ref02_Count_j6.to r) := by
 rw [ref02_Count_j6] at h
 obtain ⟨a7, h1, h⟩ := sm h
 cases h
 exact path (ob_v (quo_ok (P := Tryz.prog) (t := 3) (x := (.tmp 57)) (y := (.const (.int .i64 20))) h1) ob) (by kernel_rfl)
theorem ref02_Count_j3.ok (ht : TabOk t call) (n : Nat) (a1 a2 a3 a4 : Int) (a5 : ByteArray) (a6 a7 : List GValue) (r : _) (h : ref02_Count_j3 t n a1 a2 a3 a4 a5 a6 a7 = some r) : exec (env Tryz.prog 46 Tryz.f46 call) n (sub [1, 1, 1] (bodyOf Tryz.f46)) (mkSt 60 60 [(1, (I6 a1)), (2, (.ptr 2 0 [] 0)), (5, (I6 a2))] [(2, (.t (.st [(.v (.int .i64 a3)), (.v (.int .i64 a4)), (.v (.string a5)), (.sl false 5 (GValue.ts a6)), (.sl false 5 (GValue.ts a7))])))]) = some (ref02_Count_j3.to r) := by
 rw [ref02_Count_j3] at h
 obtain ⟨⟨a8, a9, a10, a11, a12, a13, a14, a15, a16⟩, h1, h⟩ := sm h
 obtain ⟨a17, rfl⟩ : ∃ z_, z_ = r := ⟨_, rfl⟩
 have h2 := h
 exact path (ob_k (lk (sub [1, 1, 1, 0, 1, 0] (bodyOf Tryz.f46)) (by kernel_rfl) (ref02_Count_l4.okL ht n n _ _ _ _ _ _ _ _ _ h1)) (ob_j (ref02_Count_j6.ok ht n _ _ _ _ _ _ _ h2) ob)) (by kernel_rfl)
theorem ref02_Count.ok {n : Nat} {t : Tab} (ht : TabOk t (run Tryz.prog own kp X n)) : ∀ (p1 : GValue) (p2 : Int) r, ref02_Count t n p1 p2 = some r → run Tryz.prog own kp X (n + 1) 46 [(.t (GValue.t p1)), (I6 p2)] [] = some ((I6 r), []) := by
 intro p1 p2 r h
 obtain ⟨a1, a2, a3, a4, a5⟩ := p1
 obtain ⟨a6, rfl⟩ : ∃ z_, z_ = p2 := ⟨_, rfl⟩
 rw [ref02_Count] at h
 obtain ⟨⟨a7, a8, a9, a10, a11, a12, a13, a14, a15⟩, h1, h⟩ := sm h
 obtain ⟨a16, rfl⟩ : ∃ z_, z_ = r := ⟨_, rfl⟩
 have h2 := h
 exact run_path Tryz.func46 (ob_k (lk (sub [1, 1, 0, 1, 0] (bodyOf Tryz.f46)) (by kernel_rfl) (ref02_Count_l1.okL ht n n _ _ _ _ _ _ _ _ _ h1)) (ob_j (ref02_Count_j3.ok ht n _ _ _ _ _ _ _ _ h2) ob)) (by kernel_rfl)
theorem ref09_Count_j2.ok (ht : TabOk t call) (n : Nat) (a1 a2 a3 a4 : Int) (a5 : List GValue) (a6 : List GPred) (r : _) (h : ref09_Count_j2 t n a1 a2 a3 a4 a5 a6 = some r) : exec (env Tryz.prog 47 Tryz.f47 call) n (sub [1, 1, 0, 1, 0, 0, 1] (bodyOf Tryz.f47)) (mkSt 36 36 [(1, (I6 a1)), (2, (.ptr 2 0 [] 0)), (5, (I6 a2)), (6, (I6 a3))] [(2, (.t (.st [(.v (.int .i64 a4)), (.sl false 5 (GValue.ts a5)), (.sl false 3 (GPred.ts a6))])))]) = some (ref09_Count_j2.to r) := by
 rw [ref09_Count_j2] at h
 obtain ⟨h1, h⟩ := ck h
 obtain ⟨⟨a7, a8, a9⟩, h2, h⟩ := sm h
 obtain ⟨a10, h3, h⟩ := sm h
 cases h
 exact path (ob_n h1 (ob_t (look_ts GPred.ts_map h2) (ob_c (ht.ref09_Count _ _ _ h3) ob))) (by kernel_rfl)
theorem ref09_Count_l1.okL (ht : TabOk t call) (n : Nat) : ∀ (k : Nat) (a1 a2 a3 a4 : Int) (a5 : List GValue) (a6 : List GPred) (r : _), ref09_Count_l1 t n k a1 a2 a3 a4 a5 a6 = some r → loopN (exec (env Tryz.prog 47 Tryz.f47 call) n (sub [1, 1, 0, 1, 0, 0] (bodyOf Tryz.f47))) k (mkSt 36 36 [(1, (I6 a1)), (2, (.ptr 2 0 [] 0)), (5, (I6 a2)), (6, (I6 a3))] [(2, (.t (.st [(.v (.int .i64 a4)), (.sl false 5 (GValue.ts a5)), (.sl false 3 (GPred.ts a6))])))]) = some (ref09_Count_l1.to r)
 | 0, a1, a2, a3, a4, a5, a6, r, h => by rw [ref09_Count_l1] at h; cases h
 | k + 1, a1, a2, a3, a4, a5, a6, r, h => by
  rw [ref09_Count_l1] at h
  rcases fk h with ⟨h1, h⟩ | ⟨h1, h⟩
  ·rcases fk h with ⟨h2, h⟩ | ⟨h2, h⟩
   ·obtain ⟨⟨a7, a8, a9, a10, a11, a12⟩, h3, h⟩ := sm h
    exact loop_more (path (ob_v (len_ts GPred.ts_map (l := a6)) (ob_b4 h1 (ob_b h2 (ob_j (ref09_Count_j2.ok ht n _ _ _ _ _ _ _ h3) ob)))) (by kernel_rfl)) (ref09_Count_l1.okL ht n k _ _ _ _ _ _ _ h)
   ·cases h
    exact loop_out (path (ob_v (len_ts GPred.ts_map (l := a6)) (ob_b4 h1 (ob_b h2 ob))) (by kernel_rfl)) (fun h => by cases h)
  ·cases h
   exact loop_out (path (ob_v (len_ts GPred.ts_map (l := a6)) (ob_b4 h1 (ob_b (rfl : false = false) ob))) (by kernel_rfl)) (fun h => by cases h)
theorem ref09_Count.ok {n : Nat} {t : Tab} (ht : TabOk t (run Tryz.prog own kp X n)) : ∀ (p1 : GPred) (p2 : Int) r, ref09_Count t n p1 p2 = some r → run Tryz.prog own kp X (n + 1) 47 [(.t (GPred.t p1)), (I6 p2)] [] = some ((I6 r), []) := by
 intro p1 p2 r h
 obtain ⟨a1, a2, a3⟩ := p1
 obtain ⟨a4, rfl⟩ : ∃ z_, z_ = p2 := ⟨_, rfl⟩
 rw [ref09_Count] at h
 obtain ⟨a5, h1, h⟩ := sm h
 obtain ⟨⟨a6, a7, a8, a9, a10, a11, a12⟩, h2, h⟩ := sm h
 cases h
 exact run_path Tryz.func47 (ob_c (ht.ref02_Many _ _ _ h1) (ob_k (lk (sub [1, 1, 0, 1, 0] (bodyOf Tryz.f47)) (by kernel_rfl) (ref09_Count_l1.okL ht n n _ _ _ _ _ _ _ h2)) ob)) (by kernel_rfl)
theorem ref12_Inner_j2.ok (ht : TabOk t call) (n : Nat) (a1 : List (List GStep)) (a2 : Int) (a3 : Bool) (a4 : Int) (a5 : List ByteArray) (a6 : List Int) (a7 a8 : Int) (a9 : ByteArray) (a10 a11 : List GValue) (a12 : Int) (a13 : List GValue) (a14 : List GPred) (a15 : List (List GStep)) (a16 : List GBy) (a17 : List ByteArray) (r : _) (h : ref12_Inner_j2 t n a1 a2 a3 a4 a5 a6 a7 a8 a9 a10 a11 a12 a13 a14 a15 a16 a17 = some r) : exec (env Tryz.prog 48 Tryz.f48 call) n (sub [1, 1, 1, 0, 1, 0, 0, 1, 0, 0, 1] (bodyOf Tryz.f48)) (mkSt 43 43 [(1, (.ptr 1 0 [] 0)), (3, (.t (.sl true 1 (rows_GStep_ts a1)))), (4, (I6 a2)), (32, (Bo a3))] [(1, (.t (.st [(.v (.int .i64 a4)), (.sl false 1 (texts a5)), (.sl false 1 (ints_i64 a6)), (.st [(.v (.int .i64 a7)), (.v (.int .i64 a8)), (.v (.string a9)), (.sl false 5 (GValue.ts a10)), (.sl false 5 (GValue.ts a11))]), (.st [(.v (.int .i64 a12)), (.sl false 5 (GValue.ts a13)), (.sl false 3 (GPred.ts a14))]), (.sl false 1 (rows_GStep_ts a15)), (.sl false 4 (GBy.ts a16)), (.sl false 1 (texts a17))])))]) = some (ref12_Inner_j2.to r) := by
 rw [ref12_Inner_j2] at h
 rcases fk h with ⟨h1, h⟩ | ⟨h1, h⟩
 ·obtain ⟨h2, h⟩ := ck h
  obtain ⟨⟨a18, a19, a20, a21⟩, h3, h⟩ := sm h
  obtain ⟨h4, h⟩ := cl h
  cases h
  exact path (ob_b h1 (ob_n h2 (ob_t (look_ts GBy.ts_map h3) (ob_le (room_ts rows_GStep_ts_map h4) (ob_l (app_ts rows_GStep_ts_map (a := a1) (b := ([a20] : List (List GStep)))) ob))))) (by kernel_rfl)
 ·cases h
  exact path (ob_b h1 ob) (by kernel_rfl)
theorem ref12_Inner_l1.okL (ht : TabOk t call) (n : Nat) : ∀ (k : Nat) (a1 : List (List GStep)) (a2 a3 : Int) (a4 : List ByteArray) (a5 : List Int) (a6 a7 : Int) (a8 : ByteArray) (a9 a10 : List GValue) (a11 : Int) (a12 : List GValue) (a13 : List GPred) (a14 : List (List GStep)) (a15 : List GBy) (a16 : List ByteArray) (r : _), ref12_Inner_l1 t n k a1 a2 a3 a4 a5 a6 a7 a8 a9 a10 a11 a12 a13 a14 a15 a16 = some r → loopN (exec (env Tryz.prog 48 Tryz.f48 call) n (sub [1, 1, 1, 0, 1, 0, 0] (bodyOf Tryz.f48))) k (mkSt 43 43 [(1, (.ptr 1 0 [] 0)), (3, (.t (.sl true 1 (rows_GStep_ts a1)))), (4, (I6 a2))] [(1, (.t (.st [(.v (.int .i64 a3)), (.sl false 1 (texts a4)), (.sl false 1 (ints_i64 a5)), (.st [(.v (.int .i64 a6)), (.v (.int .i64 a7)), (.v (.string a8)), (.sl false 5 (GValue.ts a9)), (.sl false 5 (GValue.ts a10))]), (.st [(.v (.int .i64 a11)), (.sl false 5 (GValue.ts a12)), (.sl false 3 (GPred.ts a13))]), (.sl false 1 (rows_GStep_ts a14)), (.sl false 4 (GBy.ts a15)), (.sl false 1 (texts a16))])))]) = some (ref12_Inner_l1.to r)
 | 0, a1, a2, a3, a4, a5, a6, a7, a8, a9, a10, a11, a12, a13, a14, a15, a16, r, h => by rw [ref12_Inner_l1] at h; cases h
 | k + 1, a1, a2, a3, a4, a5, a6, a7, a8, a9, a10, a11, a12, a13, a14, a15, a16, r, h => by
  rw [ref12_Inner_l1] at h
  rcases fk h with ⟨h1, h⟩ | ⟨h1, h⟩
  ·obtain ⟨h2, h⟩ := ck h
   obtain ⟨⟨a17, a18, a19, a20⟩, h3, h⟩ := sm h
   rcases fk h with ⟨h4, h⟩ | ⟨h4, h⟩
   ·obtain ⟨⟨a21, a22, a23, a24, a25, a26, a27, a28, a29, a30, a31, a32, a33, a34, a35, a36⟩, h5, h⟩ := sm h
    exact loop_more (path (ob_v (len_ts GBy.ts_map (l := a15)) (ob_b h1 (ob_n h2 (ob_t (look_ts GBy.ts_map h3) (ob_b4 h4 (ob_b4 h4 (ob_b h4 (ob_j (ref12_Inner_j2.ok ht n _ _ _ _ _ _ _ _ _ _ _ _ _ _ _ _ _ _ h5) ob)))))))) (by kernel_rfl)) (ref12_Inner_l1.okL ht n k _ _ _ _ _ _ _ _ _ _ _ _ _ _ _ _ _ h)
   ·obtain ⟨⟨a37, a38, a39, a40, a41, a42, a43, a44, a45, a46, a47, a48, a49, a50, a51, a52⟩, h6, h⟩ := sm h
    exact loop_more (path (ob_v (len_ts GBy.ts_map (l := a15)) (ob_b h1 (ob_n h2 (ob_t (look_ts GBy.ts_map h3) (ob_b4 h4 (ob_n h2 (ob_t (look_ts GBy.ts_map h3) (ob_b3 h4 (ob_v (len_ts GStep.ts_map (l := a19)) (ob_b2 h4 (ob_j (ref12_Inner_j2.ok ht n _ _ _ _ _ _ _ _ _ _ _ _ _ _ _ _ _ _ h6) ob))))))))))) (by kernel_rfl)) (ref12_Inner_l1.okL ht n k _ _ _ _ _ _ _ _ _ _ _ _ _ _ _ _ _ h)
  ·cases h
   exact loop_out (path (ob_v (len_ts GBy.ts_map (l := a15)) (ob_b h1 ob)) (by kernel_rfl)) (fun h => by cases h)
theorem ref12_Inner.ok {n : Nat} {t : Tab} (ht : TabOk t (run Tryz.prog own kp X n)) : ∀ (p1 : GStep) r, ref12_Inner t n p1 = some r → run Tryz.prog own kp X (n + 1) 48 [(.t (GStep.t p1))] [] = some ((Sl 1 (rows_GStep_ts r)), []) := by
 intro p1 r h
 obtain ⟨a1, a2, a3, ⟨a4, a5, a6, a7, a8⟩, ⟨a9, a10, a11⟩, a12, a13, a14⟩ := p1
 rw [ref12_Inner] at h
 obtain ⟨h1, h⟩ := cl h
 obtain ⟨⟨a15, a16, a17, a18, a19, a20, a21, a22, a23, a24, a25, a26, a27, a28, a29, a30, a31⟩, h2, h⟩ := sm h
 cases h
 exact run_path Tryz.func48 (ob_le (room_ts rows_GStep_ts_map h1) (ob_l (app_ts rows_GStep_ts_map (a := ([] : List (List GStep))) (b := a12)) (ob_k (lk (sub [1, 1, 1, 0, 1, 0] (bodyOf Tryz.f48)) (by kernel_rfl) (ref12_Inner_l1.okL ht n n _ _ _ _ _ _ _ _ _ _ _ _ _ _ _ _ _ h2)) ob))) (by kernel_rfl)
theorem slices_ContainsFunc_plan_right_1.ok {n : Nat} {t : Tab} (ht : TabOk t (run Tryz.prog own kp X n)) : ∀ (p1 : List GStep) (p2 : Int) r, slices_ContainsFunc_plan_right_1 t n p1 p2 = some r → run Tryz.prog own kp X (n + 1) 51 [(Sl 14 (GStep.ts p1)), (.fn 52 [(.ref (.v (.int .i64 p2)))])] [] = some ((Bo r), []) := by
 intro p1 p2 r h
 obtain ⟨a1, rfl⟩ : ∃ z_, z_ = p1 := ⟨_, rfl⟩
 obtain ⟨a2, rfl⟩ : ∃ z_, z_ = p2 := ⟨_, rfl⟩
 rw [slices_ContainsFunc_plan_right_1] at h
 obtain ⟨a3, h1, h⟩ := sm h
 cases h
 exact run_path Tryz.func51 (ob_c (ht.slices_IndexFunc_plan_right_1 _ _ _ h1) ob) (by kernel_rfl)
theorem ref12_own_j6.ok (ht : TabOk t call) (n : Nat) (a1 a2 a3 a4 : Int) (a5 : Bool) (a6 : ByteArray) (a7 : Bool) (a8 : Int) (a9 : List ByteArray) (a10 : List Int) (a11 a12 : Int) (a13 : ByteArray) (a14 a15 : List GValue) (a16 : Int) (a17 : List GValue) (a18 : List GPred) (a19 : List (List GStep)) (a20 : List GBy) (a21 : List ByteArray) (r : _) (h : ref12_own_j6 t n a1 a2 a3 a4 a5 a6 a7 a8 a9 a10 a11 a12 a13 a14 a15 a16 a17 a18 a19 a20 a21 = some r) : exec (env Tryz.prog 54 Tryz.f54 call) n (sub [1, 1, 1, 1, 1, 1, 0, 1, 0, 1, 1, 1, 1, 1, 1, 1, 1, 1, 1, 1, 1, 1, 1, 1, 1, 1, 1, 1] (bodyOf Tryz.f54)) (mkSt 312 312 [(1, (.ptr 1 0 [] 0)), (3, (I6 a1)), (4, (I6 a2)), (5, (I6 a3)), (6, (I6 a4)), (7, (Bo a5)), (30, (Sr a6)), (178, (Bo a7))] [(1, (.t (.st [(.v (.int .i64 a8)), (.sl false 1 (texts a9)), (.sl false 1 (ints_i64 a10)), (.st [(.v (.int .i64 a11)), (.v (.int .i64 a12)), (.v (.string a13)), (.sl false 5 (GValue.ts a14)), (.sl false 5 (GValue.ts a15))]), (.st [(.v (.int .i64 a16)), (.sl false 5 (GValue.ts a17)), (.sl false 3 (GPred.ts a18))]), (.sl false 1 (rows_GStep_ts a19)), (.sl false 4 (GBy.ts a20)), (.sl false 1 (texts a21))])))]) = some (ref12_own_j6.to r) := by
 rw [ref12_own_j6] at h
 rcases fk h with ⟨h1, h⟩ | ⟨h1, h⟩
 ·rcases fk h with ⟨h2, h⟩ | ⟨h2, h⟩
  ·rcases fk h with ⟨h3, h⟩ | ⟨h3, h⟩
   ·cases h
    exact path (ob_b h1 (ob_b3 h2 (ob_b4 h3 (ob_b3 h3 ob)))) (by kernel_rfl)
   ·cases h
    exact path (ob_b h1 (ob_b3 h2 (ob_b4 h3 (ob_b3 h3 ob)))) (by kernel_rfl)
  ·cases h
   exact path (ob_b h1 (ob_b3 h2 (ob_b4 (rfl : false = false) (ob_b3 (rfl : false = false) ob)))) (by kernel_rfl)
 ·rcases fk h with ⟨h4, h⟩ | ⟨h4, h⟩
  ·rcases fk h with ⟨h5, h⟩ | ⟨h5, h⟩
   ·cases h
    exact path (ob_b h1 (ob_b h4 (ob_b4 h5 (ob_b3 h5 ob)))) (by kernel_rfl)
   ·cases h
    exact path (ob_b h1 (ob_b h4 (ob_b4 h5 (ob_b3 h5 ob)))) (by kernel_rfl)
  ·have o2 {os} (x : Obls (env Tryz.prog 54 Tryz.f54 call) n os) := ob_b h1 (ob_b h4 x)
   rcases fk h with ⟨h6, h⟩ | ⟨h6, h⟩
   ·rcases fk h with ⟨h7, h⟩ | ⟨h7, h⟩
    ·have o6 {os} (x : Obls (env Tryz.prog 54 Tryz.f54 call) n os) := o2 (ob_b h6 (ob_b3 h7 x))
     rcases fk h with ⟨h8, h⟩ | ⟨h8, h⟩
     ·obtain ⟨h9, h⟩ := ck h
      obtain ⟨a22, h10, h⟩ := sm h
      have o14 {os} (x : Obls (env Tryz.prog 54 Tryz.f54 call) n os) := o6 (ob_b3 h8 (ob_n h9 (ob_t (look_ts ints_i64_map h10) (ob_b3 h8 x))))
      rcases fk h with ⟨h11, h⟩ | ⟨h11, h⟩
      ·obtain ⟨h12, h⟩ := ck h
       obtain ⟨a23, h13, h⟩ := sm h
       have o22 {os} (x : Obls (env Tryz.prog 54 Tryz.f54 call) n os) := o14 (ob_b3 h11 (ob_n h12 (ob_t (look_ts ints_i64_map h13) (ob_b3 h11 x))))
       rcases fk h with ⟨h14, h⟩ | ⟨h14, h⟩
       ·have o33 {os} (x : Obls (env Tryz.prog 54 Tryz.f54 call) n os) := o22 (ob_b4 h14 (ob_b h14 (ob_b h11 (ob_b h14 (ob_b h11 (ob_b3 (rfl : true = true) x))))))
        rcases fk h with ⟨h15, h⟩ | ⟨h15, h⟩
        ·cases h
         exact path (o33 (ob_b4 h15 (ob_b (rfl : true = true) (ob_b h15 (ob_b (rfl : true = true) ob))))) (by kernel_rfl)
        ·rcases fk h with ⟨h16, h⟩ | ⟨h16, h⟩
         ·cases h
          exact path (o33 (ob_b3 h15 (ob_b3 h16 (ob_n h9 (ob_t (look_ts ints_i64_map h10) (ob_b2 h16 (ob_b h15 (ob_b h16 (ob_b (rfl : true = true) (ob_b h15 (ob_b (rfl : true = true) ob))))))))))) (by kernel_rfl)
         ·cases h
          exact path (o33 (ob_b3 h15 (ob_b4 h16 (ob_b h16 (ob_b h15 (ob_b h16 (ob_b (rfl : true = true) (ob_b h15 (ob_b (rfl : true = true) ob))))))))) (by kernel_rfl)
       ·have o32 {os} (x : Obls (env Tryz.prog 54 Tryz.f54 call) n os) := o22 (ob_b3 h14 (ob_n h12 (ob_t (look_ts ints_i64_map h13) (ob_b2 h14 (ob_b h11 (ob_b h14 (ob_b h11 x)))))))
        rcases fk h with ⟨h17, h⟩ | ⟨h17, h⟩
        ·rcases fk h with ⟨h18, h⟩ | ⟨h18, h⟩
         ·cases h
          exact path (o32 (ob_b3 h17 (ob_b4 h18 (ob_b h17 (ob_b h18 (ob_b h17 ob)))))) (by kernel_rfl)
         ·rcases fk h with ⟨h19, h⟩ | ⟨h19, h⟩
          ·cases h
           exact path (o32 (ob_b3 h17 (ob_b3 h18 (ob_b3 h19 (ob_n h9 (ob_t (look_ts ints_i64_map h10) (ob_b2 h19 (ob_b h18 (ob_b h19 (ob_b h17 (ob_b h18 (ob_b h17 ob)))))))))))) (by kernel_rfl)
          ·cases h
           exact path (o32 (ob_b3 h17 (ob_b3 h18 (ob_b4 h19 (ob_b h19 (ob_b h18 (ob_b h19 (ob_b h17 (ob_b h18 (ob_b h17 ob)))))))))) (by kernel_rfl)
        ·cases h
         exact path (o32 (ob_b4 h17 (ob_b h17 ob))) (by kernel_rfl)
      ·cases h
       exact path (o14 (ob_b4 h11 (ob_b4 h11 (ob_b4 (rfl : false = false) (ob_b (rfl : false = false) ob))))) (by kernel_rfl)
     ·cases h
      exact path (o6 (ob_b4 h8 (ob_b2 h8 (ob_b4 (rfl : false = false) (ob_b4 (rfl : false = false) (ob_b4 (rfl : false = false) (ob_b (rfl : false = false) ob))))))) (by kernel_rfl)
    ·cases h
     exact path (o2 (ob_b h6 (ob_b3 h7 (ob_b4 (rfl : false = false) (ob_b4 (rfl : false = false) (ob_b4 (rfl : false = false) (ob_b4 (rfl : false = false) (ob_b3 (rfl : false = false) ob)))))))) (by kernel_rfl)
   ·rcases fk h with ⟨h20, h⟩ | ⟨h20, h⟩
    ·rcases fk h with ⟨h21, h⟩ | ⟨h21, h⟩
     ·cases h
      exact path (o2 (ob_b h6 (ob_b h20 (ob_b3 h21 ob)))) (by kernel_rfl)
     ·cases h
      exact path (o2 (ob_b h6 (ob_b h20 (ob_b3 h21 ob)))) (by kernel_rfl)
    ·have o4 {os} (x : Obls (env Tryz.prog 54 Tryz.f54 call) n os) := o2 (ob_b h6 (ob_b h20 x))
     rcases fk h with ⟨h22, h⟩ | ⟨h22, h⟩
     ·rcases fk h with ⟨h23, h⟩ | ⟨h23, h⟩
      ·cases h
       exact path (o4 (ob_b h22 (ob_b3 h23 ob))) (by kernel_rfl)
      ·cases h
       exact path (o4 (ob_b h22 (ob_b3 h23 ob))) (by kernel_rfl)
     ·rcases fk h with ⟨h24, h⟩ | ⟨h24, h⟩
      ·rcases fk h with ⟨h25, h⟩ | ⟨h25, h⟩
       ·cases h
        exact path (o4 (ob_b h22 (ob_b h24 (ob_b3 h25 ob)))) (by kernel_rfl)
       ·cases h
        exact path (o4 (ob_b h22 (ob_b h24 (ob_b3 h25 ob)))) (by kernel_rfl)
      ·rcases fk h with ⟨h26, h⟩ | ⟨h26, h⟩
       ·rcases fk h with ⟨h27, h⟩ | ⟨h27, h⟩
        ·have o12 {os} (x : Obls (env Tryz.prog 54 Tryz.f54 call) n os) := o4 (ob_b h22 (ob_b h24 (ob_b h26 (ob_b4 h27 (ob_b h27 x)))))
         rcases fk h with ⟨h28, h⟩ | ⟨h28, h⟩
         ·rcases fk h with ⟨h29, h⟩ | ⟨h29, h⟩
          ·obtain ⟨a24, h30, h⟩ := sm h
           cases h
           exact path (o12 (ob_b4 h28 (ob_b3 h29 (ob_c (ht.ref12_once _ _ h30) (ob_b h29 ob))))) (by kernel_rfl)
          ·cases h
           exact path (o12 (ob_b4 h28 (ob_b4 h29 ob))) (by kernel_rfl)
         ·cases h
          exact path (o12 (ob_b4 h28 (ob_b4 (rfl : false = false) ob))) (by kernel_rfl)
        ·cases h
         exact path (o4 (ob_b h22 (ob_b h24 (ob_b h26 (ob_b4 h27 (ob_b h27 (ob_b4 (rfl : false = false) (ob_b4 (rfl : false = false) ob)))))))) (by kernel_rfl)
       ·cases h
        exact path (o4 (ob_b h22 (ob_b h24 (ob_b h26 ob)))) (by kernel_rfl)
theorem ref12_own_j5.ok (ht : TabOk t call) (n : Nat) (a1 a2 a3 a4 : Int) (a5 : Bool) (a6 : ByteArray) (a7 : Bool) (a8 : Int) (a9 : List ByteArray) (a10 : List Int) (a11 a12 : Int) (a13 : ByteArray) (a14 a15 : List GValue) (a16 : Int) (a17 : List GValue) (a18 : List GPred) (a19 : List (List GStep)) (a20 : List GBy) (a21 : List ByteArray) (r : _) (h : ref12_own_j5 t n a1 a2 a3 a4 a5 a6 a7 a8 a9 a10 a11 a12 a13 a14 a15 a16 a17 a18 a19 a20 a21 = some r) : exec (env Tryz.prog 54 Tryz.f54 call) n (sub [1, 1, 1, 1, 1, 1, 0, 1, 0, 1, 1, 1, 1, 1, 1, 1, 1, 1, 1, 1, 1, 1, 1, 1, 1, 1] (bodyOf Tryz.f54)) (mkSt 312 312 [(1, (.ptr 1 0 [] 0)), (3, (I6 a1)), (4, (I6 a2)), (5, (I6 a3)), (6, (I6 a4)), (7, (Bo a5)), (30, (Sr a6)), (164, (Bo a7))] [(1, (.t (.st [(.v (.int .i64 a8)), (.sl false 1 (texts a9)), (.sl false 1 (ints_i64 a10)), (.st [(.v (.int .i64 a11)), (.v (.int .i64 a12)), (.v (.string a13)), (.sl false 5 (GValue.ts a14)), (.sl false 5 (GValue.ts a15))]), (.st [(.v (.int .i64 a16)), (.sl false 5 (GValue.ts a17)), (.sl false 3 (GPred.ts a18))]), (.sl false 1 (rows_GStep_ts a19)), (.sl false 4 (GBy.ts a20)), (.sl false 1 (texts a21))])))]) = some (ref12_own_j5.to r) := by
 rw [ref12_own_j5] at h
 rcases fk h with ⟨h1, h⟩ | ⟨h1, h⟩
 ·rcases fk h with ⟨h2, h⟩ | ⟨h2, h⟩
  ·cases h
   exact path (ob_b h1 (ob_b4 h2 (ob_b3 h2 ob))) (by kernel_rfl)
  ·cases h
   exact path (ob_b h1 (ob_b4 h2 (ob_b3 h2 ob))) (by kernel_rfl)
 ·rcases fk h with ⟨h3, h⟩ | ⟨h3, h⟩
  ·have h4 := h
   rcases r with a22 | a23
   ·exact path (ob_b h1 (ob_b h3 (ob_j (ref12_own_j6.ok ht n _ _ _ _ _ _ _ _ _ _ _ _ _ _ _ _ _ _ _ _ _ _ h4) ob))) (by kernel_rfl)
   ·exact path (ob_b h1 (ob_b h3 (ob_j (ref12_own_j6.ok ht n _ _ _ _ _ _ _ _ _ _ _ _ _ _ _ _ _ _ _ _ _ _ h4) ob))) (by kernel_rfl)
  ·rcases fk h with ⟨h5, h⟩ | ⟨h5, h⟩
   ·have h6 := h
    rcases r with a24 | a25
    ·exact path (ob_b h1 (ob_b h3 (ob_b h5 (ob_j (ref12_own_j6.ok ht n _ _ _ _ _ _ _ _ _ _ _ _ _ _ _ _ _ _ _ _ _ _ h6) ob)))) (by kernel_rfl)
    ·exact path (ob_b h1 (ob_b h3 (ob_b h5 (ob_j (ref12_own_j6.ok ht n _ _ _ _ _ _ _ _ _ _ _ _ _ _ _ _ _ _ _ _ _ _ h6) ob)))) (by kernel_rfl)
   ·rcases fk h with ⟨h7, h⟩ | ⟨h7, h⟩
    ·have h8 := h
     rcases r with a26 | a27
     ·exact path (ob_b h1 (ob_b h3 (ob_b h5 (ob_b h7 (ob_j (ref12_own_j6.ok ht n _ _ _ _ _ _ _ _ _ _ _ _ _ _ _ _ _ _ _ _ _ _ h8) ob))))) (by kernel_rfl)
     ·exact path (ob_b h1 (ob_b h3 (ob_b h5 (ob_b h7 (ob_j (ref12_own_j6.ok ht n _ _ _ _ _ _ _ _ _ _ _ _ _ _ _ _ _ _ _ _ _ _ h8) ob))))) (by kernel_rfl)
    ·have h9 := h
     rcases r with a28 | a29
     ·exact path (ob_b h1 (ob_b h3 (ob_b h5 (ob_b h7 (ob_j (ref12_own_j6.ok ht n _ _ _ _ _ _ _ _ _ _ _ _ _ _ _ _ _ _ _ _ _ _ h9) ob))))) (by kernel_rfl)
     ·exact path (ob_b h1 (ob_b h3 (ob_b h5 (ob_b h7 (ob_j (ref12_own_j6.ok ht n _ _ _ _ _ _ _ _ _ _ _ _ _ _ _ _ _ _ _ _ _ _ h9) ob))))) (by kernel_rfl)
theorem ref12_own_j4.ok (ht : TabOk t call) (n : Nat) (a1 a2 a3 a4 : Int) (a5 : Bool) (a6 : ByteArray) (a7 : Bool) (a8 : Int) (a9 : List ByteArray) (a10 : List Int) (a11 a12 : Int) (a13 : ByteArray) (a14 a15 : List GValue) (a16 : Int) (a17 : List GValue) (a18 : List GPred) (a19 : List (List GStep)) (a20 : List GBy) (a21 : List ByteArray) (r : _) (h : ref12_own_j4 t n a1 a2 a3 a4 a5 a6 a7 a8 a9 a10 a11 a12 a13 a14 a15 a16 a17 a18 a19 a20 a21 = some r) : exec (env Tryz.prog 54 Tryz.f54 call) n (sub [1, 1, 1, 1, 1, 1, 0, 1, 0, 1, 1, 1, 1, 1, 1, 1, 1, 1] (bodyOf Tryz.f54)) (mkSt 312 312 [(1, (.ptr 1 0 [] 0)), (3, (I6 a1)), (4, (I6 a2)), (5, (I6 a3)), (6, (I6 a4)), (7, (Bo a5)), (30, (Sr a6)), (78, (Bo a7))] [(1, (.t (.st [(.v (.int .i64 a8)), (.sl false 1 (texts a9)), (.sl false 1 (ints_i64 a10)), (.st [(.v (.int .i64 a11)), (.v (.int .i64 a12)), (.v (.string a13)), (.sl false 5 (GValue.ts a14)), (.sl false 5 (GValue.ts a15))]), (.st [(.v (.int .i64 a16)), (.sl false 5 (GValue.ts a17)), (.sl false 3 (GPred.ts a18))]), (.sl false 1 (rows_GStep_ts a19)), (.sl false 4 (GBy.ts a20)), (.sl false 1 (texts a21))])))]) = some (ref12_own_j4.to r) := by
 rw [ref12_own_j4] at h
 rcases fk h with ⟨h1, h⟩ | ⟨h1, h⟩
 ·rcases fk h with ⟨h2, h⟩ | ⟨h2, h⟩
  ·cases h
   exact path (ob_b h1 (ob_b4 h2 (ob_b3 h2 ob))) (by kernel_rfl)
  ·cases h
   exact path (ob_b h1 (ob_b4 h2 (ob_b3 h2 ob))) (by kernel_rfl)
 ·rcases fk h with ⟨h3, h⟩ | ⟨h3, h⟩
  ·rcases fk h with ⟨h4, h⟩ | ⟨h4, h⟩
   ·rcases fk h with ⟨h5, h⟩ | ⟨h5, h⟩
    ·cases h
     exact path (ob_b h1 (ob_b h3 (ob_b3 h4 (ob_b4 h5 (ob_b3 h5 ob))))) (by kernel_rfl)
    ·cases h
     exact path (ob_b h1 (ob_b h3 (ob_b3 h4 (ob_b4 h5 (ob_b3 h5 ob))))) (by kernel_rfl)
   ·cases h
    exact path (ob_b h1 (ob_b h3 (ob_b3 h4 (ob_b4 (rfl : false = false) (ob_b3 (rfl : false = false) ob))))) (by kernel_rfl)
  ·have o2 {os} (x : Obls (env Tryz.prog 54 Tryz.f54 call) n os) := ob_b h1 (ob_b h3 x)
   rcases fk h with ⟨h6, h⟩ | ⟨h6, h⟩
   ·rcases fk h with ⟨h7, h⟩ | ⟨h7, h⟩
    ·have o10 {os} (x : Obls (env Tryz.prog 54 Tryz.f54 call) n os) := o2 (ob_b h6 (ob_b4 h7 (ob_b3 h7 x)))
     rcases fk h with ⟨h8, h⟩ | ⟨h8, h⟩
     ·obtain ⟨h9, h⟩ := ck h
      obtain ⟨a22, h10, h⟩ := sm h
      have o18 {os} (x : Obls (env Tryz.prog 54 Tryz.f54 call) n os) := o10 (ob_b3 h8 (ob_n h9 (ob_t (look_ts ints_i64_map h10) (ob_b3 h8 x))))
      rcases fk h with ⟨h11, h⟩ | ⟨h11, h⟩
      ·obtain ⟨h12, h⟩ := ck h
       obtain ⟨a23, h13, h⟩ := sm h
       rcases fk h with ⟨h14, h⟩ | ⟨h14, h⟩
       ·cases h
        exact path (o18 (ob_b3 h11 (ob_n h12 (ob_t (look_ts ints_i64_map h13) (ob_b3 h11 (ob_b4 h14 (ob_b4 h14 (ob_b h14 (ob_b h11 (ob_b h14 (ob_b h11 ob))))))))))) (by kernel_rfl)
       ·cases h
        exact path (o18 (ob_b3 h11 (ob_n h12 (ob_t (look_ts ints_i64_map h13) (ob_b3 h11 (ob_b3 h14 (ob_n h9 (ob_t (look_ts ints_i64_map h10) (ob_b4 h14 (ob_n h12 (ob_t (look_ts ints_i64_map h13) (ob_b2 h14 (ob_b h11 (ob_b h14 (ob_b h11 ob))))))))))))))) (by kernel_rfl)
      ·cases h
       exact path (o18 (ob_b4 h11 (ob_b4 h11 ob))) (by kernel_rfl)
     ·cases h
      exact path (o10 (ob_b4 h8 (ob_b2 h8 (ob_b4 (rfl : false = false) (ob_b4 (rfl : false = false) ob))))) (by kernel_rfl)
    ·cases h
     exact path (o2 (ob_b h6 (ob_b4 h7 (ob_b3 h7 (ob_b4 (rfl : false = false) (ob_b4 (rfl : false = false) (ob_b4 (rfl : false = false) (ob_b2 (rfl : false = false) ob)))))))) (by kernel_rfl)
   ·rcases fk h with ⟨h15, h⟩ | ⟨h15, h⟩
    ·rcases fk h with ⟨h16, h⟩ | ⟨h16, h⟩
     ·rcases fk h with ⟨h17, h⟩ | ⟨h17, h⟩
      ·obtain ⟨a24, h18, h⟩ := sm h
       cases h
       exact path (o2 (ob_b h6 (ob_b h15 (ob_b4 h16 (ob_b3 h16 (ob_b3 h17 (ob_c (ht.ref12_low _ _ h18) (ob_b h17 ob)))))))) (by kernel_rfl)
      ·cases h
       exact path (o2 (ob_b h6 (ob_b h15 (ob_b4 h16 (ob_b3 h16 (ob_b4 h17 ob)))))) (by kernel_rfl)
     ·cases h
      exact path (o2 (ob_b h6 (ob_b h15 (ob_b4 h16 (ob_b3 h16 (ob_b4 (rfl : false = false) ob)))))) (by kernel_rfl)
    ·rcases fk h with ⟨h19, h⟩ | ⟨h19, h⟩
     ·have h20 := h
      rcases r with a25 | a26
      ·exact path (o2 (ob_b h6 (ob_b h15 (ob_b h19 (ob_j (ref12_own_j5.ok ht n _ _ _ _ _ _ _ _ _ _ _ _ _ _ _ _ _ _ _ _ _ _ h20) ob))))) (by kernel_rfl)
      ·exact path (o2 (ob_b h6 (ob_b h15 (ob_b h19 (ob_j (ref12_own_j5.ok ht n _ _ _ _ _ _ _ _ _ _ _ _ _ _ _ _ _ _ _ _ _ _ h20) ob))))) (by kernel_rfl)
     ·rcases fk h with ⟨h21, h⟩ | ⟨h21, h⟩
      ·have h22 := h
       rcases r with a27 | a28
       ·exact path (o2 (ob_b h6 (ob_b h15 (ob_b h19 (ob_b h21 (ob_j (ref12_own_j5.ok ht n _ _ _ _ _ _ _ _ _ _ _ _ _ _ _ _ _ _ _ _ _ _ h22) ob)))))) (by kernel_rfl)
       ·exact path (o2 (ob_b h6 (ob_b h15 (ob_b h19 (ob_b h21 (ob_j (ref12_own_j5.ok ht n _ _ _ _ _ _ _ _ _ _ _ _ _ _ _ _ _ _ _ _ _ _ h22) ob)))))) (by kernel_rfl)
      ·have h23 := h
       rcases r with a29 | a30
       ·exact path (o2 (ob_b h6 (ob_b h15 (ob_b h19 (ob_b h21 (ob_j (ref12_own_j5.ok ht n _ _ _ _ _ _ _ _ _ _ _ _ _ _ _ _ _ _ _ _ _ _ h23) ob)))))) (by kernel_rfl)
       ·exact path (o2 (ob_b h6 (ob_b h15 (ob_b h19 (ob_b h21 (ob_j (ref12_own_j5.ok ht n _ _ _ _ _ _ _ _ _ _ _ _ _ _ _ _ _ _ _ _ _ _ h23) ob)))))) (by kernel_rfl)
theorem ref12_own_j3.ok (ht : TabOk t call) (n : Nat) (a1 a2 a3 a4 : Int) (a5 : Bool) (a6 : ByteArray) (a7 : Bool) (a8 : Int) (a9 : List ByteArray) (a10 : List Int) (a11 a12 : Int) (a13 : ByteArray) (a14 a15 : List GValue) (a16 : Int) (a17 : List GValue) (a18 : List GPred) (a19 : List (List GStep)) (a20 : List GBy) (a21 : List ByteArray) (r : _) (h : ref12_own_j3 t n a1 a2 a3 a4 a5 a6 a7 a8 a9 a10 a11 a12 a13 a14 a15 a16 a17 a18 a19 a20 a21 = some r) : exec (env Tryz.prog 54 Tryz.f54 call) n (sub [1, 1, 1, 1, 1, 1, 0, 1, 0, 1, 1, 1, 1, 1, 1, 1] (bodyOf Tryz.f54)) (mkSt 312 312 [(1, (.ptr 1 0 [] 0)), (3, (I6 a1)), (4, (I6 a2)), (5, (I6 a3)), (6, (I6 a4)), (7, (Bo a5)), (30, (Sr a6)), (65, (Bo a7))] [(1, (.t (.st [(.v (.int .i64 a8)), (.sl false 1 (texts a9)), (.sl false 1 (ints_i64 a10)), (.st [(.v (.int .i64 a11)), (.v (.int .i64 a12)), (.v (.string a13)), (.sl false 5 (GValue.ts a14)), (.sl false 5 (GValue.ts a15))]), (.st [(.v (.int .i64 a16)), (.sl false 5 (GValue.ts a17)), (.sl false 3 (GPred.ts a18))]), (.sl false 1 (rows_GStep_ts a19)), (.sl false 4 (GBy.ts a20)), (.sl false 1 (texts a21))])))]) = some (ref12_own_j3.to r) := by
 rw [ref12_own_j3] at h
 rcases fk h with ⟨h1, h⟩ | ⟨h1, h⟩
 ·rcases fk h with ⟨h2, h⟩ | ⟨h2, h⟩
  ·cases h
   exact path (ob_b h1 (ob_b4 h2 (ob_b3 h2 ob))) (by kernel_rfl)
  ·cases h
   exact path (ob_b h1 (ob_b4 h2 (ob_b3 h2 ob))) (by kernel_rfl)
 ·rcases fk h with ⟨h3, h⟩ | ⟨h3, h⟩
  ·have h4 := h
   rcases r with a22 | a23
   ·exact path (ob_b h1 (ob_b h3 (ob_j (ref12_own_j4.ok ht n _ _ _ _ _ _ _ _ _ _ _ _ _ _ _ _ _ _ _ _ _ _ h4) ob))) (by kernel_rfl)
   ·exact path (ob_b h1 (ob_b h3 (ob_j (ref12_own_j4.ok ht n _ _ _ _ _ _ _ _ _ _ _ _ _ _ _ _ _ _ _ _ _ _ h4) ob))) (by kernel_rfl)
  ·rcases fk h with ⟨h5, h⟩ | ⟨h5, h⟩
   ·have h6 := h
    rcases r with a24 | a25
    ·exact path (ob_b h1 (ob_b h3 (ob_b h5 (ob_j (ref12_own_j4.ok ht n _ _ _ _ _ _ _ _ _ _ _ _ _ _ _ _ _ _ _ _ _ _ h6) ob)))) (by kernel_rfl)
    ·exact path (ob_b h1 (ob_b h3 (ob_b h5 (ob_j (ref12_own_j4.ok ht n _ _ _ _ _ _ _ _ _ _ _ _ _ _ _ _ _ _ _ _ _ _ h6) ob)))) (by kernel_rfl)
   ·rcases fk h with ⟨h7, h⟩ | ⟨h7, h⟩
    ·have h8 := h
     rcases r with a26 | a27
     ·exact path (ob_b h1 (ob_b h3 (ob_b h5 (ob_b h7 (ob_j (ref12_own_j4.ok ht n _ _ _ _ _ _ _ _ _ _ _ _ _ _ _ _ _ _ _ _ _ _ h8) ob))))) (by kernel_rfl)
     ·exact path (ob_b h1 (ob_b h3 (ob_b h5 (ob_b h7 (ob_j (ref12_own_j4.ok ht n _ _ _ _ _ _ _ _ _ _ _ _ _ _ _ _ _ _ _ _ _ _ h8) ob))))) (by kernel_rfl)
    ·rcases fk h with ⟨h9, h⟩ | ⟨h9, h⟩
     ·have h10 := h
      rcases r with a28 | a29
      ·exact path (ob_b h1 (ob_b h3 (ob_b h5 (ob_b h7 (ob_b h9 (ob_j (ref12_own_j4.ok ht n _ _ _ _ _ _ _ _ _ _ _ _ _ _ _ _ _ _ _ _ _ _ h10) ob)))))) (by kernel_rfl)
      ·exact path (ob_b h1 (ob_b h3 (ob_b h5 (ob_b h7 (ob_b h9 (ob_j (ref12_own_j4.ok ht n _ _ _ _ _ _ _ _ _ _ _ _ _ _ _ _ _ _ _ _ _ _ h10) ob)))))) (by kernel_rfl)
     ·have h11 := h
      rcases r with a30 | a31
      ·exact path (ob_b h1 (ob_b h3 (ob_b h5 (ob_b h7 (ob_b h9 (ob_j (ref12_own_j4.ok ht n _ _ _ _ _ _ _ _ _ _ _ _ _ _ _ _ _ _ _ _ _ _ h11) ob)))))) (by kernel_rfl)
      ·exact path (ob_b h1 (ob_b h3 (ob_b h5 (ob_b h7 (ob_b h9 (ob_j (ref12_own_j4.ok ht n _ _ _ _ _ _ _ _ _ _ _ _ _ _ _ _ _ _ _ _ _ _ h11) ob)))))) (by kernel_rfl)
theorem ref12_own_j2.ok (ht : TabOk t call) (n : Nat) (a1 a2 a3 a4 : Int) (a5 : Bool) (a6 : ByteArray) (a7 : Bool) (a8 : Int) (a9 : List ByteArray) (a10 : List Int) (a11 a12 : Int) (a13 : ByteArray) (a14 a15 : List GValue) (a16 : Int) (a17 : List GValue) (a18 : List GPred) (a19 : List (List GStep)) (a20 : List GBy) (a21 : List ByteArray) (r : _) (h : ref12_own_j2 t n a1 a2 a3 a4 a5 a6 a7 a8 a9 a10 a11 a12 a13 a14 a15 a16 a17 a18 a19 a20 a21 = some r) : exec (env Tryz.prog 54 Tryz.f54 call) n (sub [1, 1, 1, 1, 1, 1, 0, 1, 0, 1, 1, 1, 1, 1] (bodyOf Tryz.f54)) (mkSt 312 312 [(1, (.ptr 1 0 [] 0)), (3, (I6 a1)), (4, (I6 a2)), (5, (I6 a3)), (6, (I6 a4)), (7, (Bo a5)), (30, (Sr a6)), (51, (Bo a7))] [(1, (.t (.st [(.v (.int .i64 a8)), (.sl false 1 (texts a9)), (.sl false 1 (ints_i64 a10)), (.st [(.v (.int .i64 a11)), (.v (.int .i64 a12)), (.v (.string a13)), (.sl false 5 (GValue.ts a14)), (.sl false 5 (GValue.ts a15))]), (.st [(.v (.int .i64 a16)), (.sl false 5 (GValue.ts a17)), (.sl false 3 (GPred.ts a18))]), (.sl false 1 (rows_GStep_ts a19)), (.sl false 4 (GBy.ts a20)), (.sl false 1 (texts a21))])))]) = some (ref12_own_j2.to r) := by
 rw [ref12_own_j2] at h
 rcases fk h with ⟨h1, h⟩ | ⟨h1, h⟩
 ·cases h
  exact path (ob_b h1 ob) (by kernel_rfl)
 ·rcases fk h with ⟨h2, h⟩ | ⟨h2, h⟩
  ·have h3 := h
   rcases r with a22 | a23
   ·exact path (ob_b h1 (ob_b h2 (ob_j (ref12_own_j3.ok ht n _ _ _ _ _ _ _ _ _ _ _ _ _ _ _ _ _ _ _ _ _ _ h3) ob))) (by kernel_rfl)
   ·exact path (ob_b h1 (ob_b h2 (ob_j (ref12_own_j3.ok ht n _ _ _ _ _ _ _ _ _ _ _ _ _ _ _ _ _ _ _ _ _ _ h3) ob))) (by kernel_rfl)
  ·have h4 := h
   rcases r with a24 | a25
   ·exact path (ob_b h1 (ob_b h2 (ob_j (ref12_own_j3.ok ht n _ _ _ _ _ _ _ _ _ _ _ _ _ _ _ _ _ _ _ _ _ _ h4) ob))) (by kernel_rfl)
   ·exact path (ob_b h1 (ob_b h2 (ob_j (ref12_own_j3.ok ht n _ _ _ _ _ _ _ _ _ _ _ _ _ _ _ _ _ _ _ _ _ _ h4) ob))) (by kernel_rfl)
theorem ref12_own_j1.ok (ht : TabOk t call) (n : Nat) (a1 a2 a3 a4 : Int) (a5 : Bool) (a6 : ByteArray) (a7 : Bool) (a8 : Int) (a9 : List ByteArray) (a10 : List Int) (a11 a12 : Int) (a13 : ByteArray) (a14 a15 : List GValue) (a16 : Int) (a17 : List GValue) (a18 : List GPred) (a19 : List (List GStep)) (a20 : List GBy) (a21 : List ByteArray) (r : _) (h : ref12_own_j1 t n a1 a2 a3 a4 a5 a6 a7 a8 a9 a10 a11 a12 a13 a14 a15 a16 a17 a18 a19 a20 a21 = some r) : exec (env Tryz.prog 54 Tryz.f54 call) n (sub [1, 1, 1, 1, 1, 1, 0, 1, 0, 1, 1, 1] (bodyOf Tryz.f54)) (mkSt 312 312 [(1, (.ptr 1 0 [] 0)), (3, (I6 a1)), (4, (I6 a2)), (5, (I6 a3)), (6, (I6 a4)), (7, (Bo a5)), (30, (Sr a6)), (33, (Bo a7))] [(1, (.t (.st [(.v (.int .i64 a8)), (.sl false 1 (texts a9)), (.sl false 1 (ints_i64 a10)), (.st [(.v (.int .i64 a11)), (.v (.int .i64 a12)), (.v (.string a13)), (.sl false 5 (GValue.ts a14)), (.sl false 5 (GValue.ts a15))]), (.st [(.v (.int .i64 a16)), (.sl false 5 (GValue.ts a17)), (.sl false 3 (GPred.ts a18))]), (.sl false 1 (rows_GStep_ts a19)), (.sl false 4 (GBy.ts a20)), (.sl false 1 (texts a21))])))]) = some (ref12_own_j1.to r) := by
 rw [ref12_own_j1] at h
 rcases fk h with ⟨h1, h⟩ | ⟨h1, h⟩
 ·rcases fk h with ⟨h2, h⟩ | ⟨h2, h⟩
  ·rcases fk h with ⟨h3, h⟩ | ⟨h3, h⟩
   ·obtain ⟨a22, h4, h⟩ := sm h
    cases h
    exact path (ob_b h1 (ob_b3 h2 (ob_b3 h3 (ob_c (ht.ref12_low _ _ h4) (ob_b h3 ob))))) (by kernel_rfl)
   ·cases h
    exact path (ob_b h1 (ob_b3 h2 (ob_b4 h3 ob))) (by kernel_rfl)
  ·cases h
   exact path (ob_b h1 (ob_b3 h2 (ob_b4 (rfl : false = false) ob))) (by kernel_rfl)
 ·rcases fk h with ⟨h5, h⟩ | ⟨h5, h⟩
  ·have h6 := h
   rcases r with a23 | a24
   ·exact path (ob_b h1 (ob_b h5 (ob_j (ref12_own_j2.ok ht n _ _ _ _ _ _ _ _ _ _ _ _ _ _ _ _ _ _ _ _ _ _ h6) ob))) (by kernel_rfl)
   ·exact path (ob_b h1 (ob_b h5 (ob_j (ref12_own_j2.ok ht n _ _ _ _ _ _ _ _ _ _ _ _ _ _ _ _ _ _ _ _ _ _ h6) ob))) (by kernel_rfl)
  ·have o2 {os} (x : Obls (env Tryz.prog 54 Tryz.f54 call) n os) := ob_b h1 (ob_b h5 x)
   rcases fk h with ⟨h7, h⟩ | ⟨h7, h⟩
   ·have h8 := h
    rcases r with a25 | a26
    ·exact path (o2 (ob_b h7 (ob_j (ref12_own_j2.ok ht n _ _ _ _ _ _ _ _ _ _ _ _ _ _ _ _ _ _ _ _ _ _ h8) ob))) (by kernel_rfl)
    ·exact path (o2 (ob_b h7 (ob_j (ref12_own_j2.ok ht n _ _ _ _ _ _ _ _ _ _ _ _ _ _ _ _ _ _ _ _ _ _ h8) ob))) (by kernel_rfl)
   ·rcases fk h with ⟨h9, h⟩ | ⟨h9, h⟩
    ·have h10 := h
     rcases r with a27 | a28
     ·exact path (o2 (ob_b h7 (ob_b h9 (ob_j (ref12_own_j2.ok ht n _ _ _ _ _ _ _ _ _ _ _ _ _ _ _ _ _ _ _ _ _ _ h10) ob)))) (by kernel_rfl)
     ·exact path (o2 (ob_b h7 (ob_b h9 (ob_j (ref12_own_j2.ok ht n _ _ _ _ _ _ _ _ _ _ _ _ _ _ _ _ _ _ _ _ _ _ h10) ob)))) (by kernel_rfl)
    ·rcases fk h with ⟨h11, h⟩ | ⟨h11, h⟩
     ·have h12 := h
      rcases r with a29 | a30
      ·exact path (o2 (ob_b h7 (ob_b h9 (ob_b h11 (ob_j (ref12_own_j2.ok ht n _ _ _ _ _ _ _ _ _ _ _ _ _ _ _ _ _ _ _ _ _ _ h12) ob))))) (by kernel_rfl)
      ·exact path (o2 (ob_b h7 (ob_b h9 (ob_b h11 (ob_j (ref12_own_j2.ok ht n _ _ _ _ _ _ _ _ _ _ _ _ _ _ _ _ _ _ _ _ _ _ h12) ob))))) (by kernel_rfl)
     ·rcases fk h with ⟨h13, h⟩ | ⟨h13, h⟩
      ·have h14 := h
       rcases r with a31 | a32
       ·exact path (o2 (ob_b h7 (ob_b h9 (ob_b h11 (ob_b h13 (ob_j (ref12_own_j2.ok ht n _ _ _ _ _ _ _ _ _ _ _ _ _ _ _ _ _ _ _ _ _ _ h14) ob)))))) (by kernel_rfl)
       ·exact path (o2 (ob_b h7 (ob_b h9 (ob_b h11 (ob_b h13 (ob_j (ref12_own_j2.ok ht n _ _ _ _ _ _ _ _ _ _ _ _ _ _ _ _ _ _ _ _ _ _ h14) ob)))))) (by kernel_rfl)
      ·rcases fk h with ⟨h15, h⟩ | ⟨h15, h⟩
       ·have h16 := h
        rcases r with a33 | a34
        ·exact path (o2 (ob_b h7 (ob_b h9 (ob_b h11 (ob_b h13 (ob_b h15 (ob_j (ref12_own_j2.ok ht n _ _ _ _ _ _ _ _ _ _ _ _ _ _ _ _ _ _ _ _ _ _ h16) ob))))))) (by kernel_rfl)
        ·exact path (o2 (ob_b h7 (ob_b h9 (ob_b h11 (ob_b h13 (ob_b h15 (ob_j (ref12_own_j2.ok ht n _ _ _ _ _ _ _ _ _ _ _ _ _ _ _ _ _ _ _ _ _ _ h16) ob))))))) (by kernel_rfl)
       ·have h17 := h
        rcases r with a35 | a36
        ·exact path (o2 (ob_b h7 (ob_b h9 (ob_b h11 (ob_b h13 (ob_b h15 (ob_j (ref12_own_j2.ok ht n _ _ _ _ _ _ _ _ _ _ _ _ _ _ _ _ _ _ _ _ _ _ h17) ob))))))) (by kernel_rfl)
        ·exact path (o2 (ob_b h7 (ob_b h9 (ob_b h11 (ob_b h13 (ob_b h15 (ob_j (ref12_own_j2.ok ht n _ _ _ _ _ _ _ _ _ _ _ _ _ _ _ _ _ _ _ _ _ _ h17) ob))))))) (by kernel_rfl)
theorem ref12_own.ok {n : Nat} {t : Tab} (ht : TabOk t (run Tryz.prog own kp X n)) : ∀ (p1 : GStep) r, ref12_own t n p1 = some r → run Tryz.prog own kp X (n + 1) 54 [(.t (GStep.t p1))] [] = some ((Bo r), []) := by
 intro p1 r h
 obtain ⟨a1, a2, a3, ⟨a4, a5, a6, a7, a8⟩, ⟨a9, a10, a11⟩, a12, a13, a14⟩ := p1
 rw [ref12_own] at h
 obtain ⟨a15, h1, h⟩ := sm h
 have o5 {os} (x : Obls (env Tryz.prog 54 Tryz.f54 (run Tryz.prog own kp X n)) n os) := ob_v (len_ts texts_map (l := a2)) (ob_v (len_ts ints_i64_map (l := a3)) (ob_v (len_ts rows_GStep_ts_map (l := a12)) (ob_v (len_ts GBy.ts_map (l := a13)) (ob_c (ht.ref12_Name _ _ h1) x))))
 rcases fk h with ⟨h2, h⟩ | ⟨h2, h⟩
 ·cases h
  exact run_path Tryz.func54 (o5 (ob_b h2 ob)) (by kernel_rfl)
 ·rcases fk h with ⟨h3, h⟩ | ⟨h3, h⟩
  ·obtain ⟨a16 | a17, h4, h⟩ := sm h
   ·cases h
    exact run_path Tryz.func54 (o5 (ob_b h2 (ob_b h3 (ob_j (ref12_own_j1.ok ht n _ _ _ _ _ _ _ _ _ _ _ _ _ _ _ _ _ _ _ _ _ _ h4) ob)))) (by kernel_rfl)
   ·cases h
    exact run_path Tryz.func54 (o5 (ob_b h2 (ob_b h3 (ob_j (ref12_own_j1.ok ht n _ _ _ _ _ _ _ _ _ _ _ _ _ _ _ _ _ _ _ _ _ _ h4) ob)))) (by kernel_rfl)
  ·obtain ⟨a18 | a19, h5, h⟩ := sm h
   ·cases h
    exact run_path Tryz.func54 (o5 (ob_b h2 (ob_b h3 (ob_j (ref12_own_j1.ok ht n _ _ _ _ _ _ _ _ _ _ _ _ _ _ _ _ _ _ _ _ _ _ h5) ob)))) (by kernel_rfl)
   ·cases h
    exact run_path Tryz.func54 (o5 (ob_b h2 (ob_b h3 (ob_j (ref12_own_j1.ok ht n _ _ _ _ _ _ _ _ _ _ _ _ _ _ _ _ _ _ _ _ _ _ h5) ob)))) (by kernel_rfl)
theorem ref12_named_l1.okL (ht : TabOk t call) (n : Nat) : ∀ (k : Nat) (a1 : List ByteArray) (a2 : Int) (r : _), ref12_named_l1 t n k a1 a2 = some r → loopN (exec (env Tryz.prog 55 Tryz.f55 call) n (sub [1, 0, 1, 0, 0] (bodyOf Tryz.f55))) k (mkSt 19 19 [(0, (Sl 1 (texts a1))), (3, (I6 a2))] []) = some (ref12_named_l1.to r)
 | 0, a1, a2, r, h => by rw [ref12_named_l1] at h; cases h
 | k + 1, a1, a2, r, h => by
  rw [ref12_named_l1] at h
  rcases fk h with ⟨h1, h⟩ | ⟨h1, h⟩
  ·obtain ⟨h2, h⟩ := ck h
   obtain ⟨a3, h3, h⟩ := sm h
   obtain ⟨a4, h4, h⟩ := sm h
   rcases fk h with ⟨h5, h⟩ | ⟨h5, h⟩
   ·exact loop_more (path (ob_v (len_ts texts_map (l := a1)) (ob_b h1 (ob_n h2 (ob_t (look_ts texts_map h3) (ob_c (ht.ref05_Name _ _ h4) (ob_b (congrArg (!·) h5) ob)))))) (by kernel_rfl)) (ref12_named_l1.okL ht n k _ _ _ h)
   ·cases h
    exact loop_out (path (ob_v (len_ts texts_map (l := a1)) (ob_b h1 (ob_n h2 (ob_t (look_ts texts_map h3) (ob_c (ht.ref05_Name _ _ h4) (ob_b (congrArg (!·) h5) ob)))))) (by kernel_rfl)) (fun h => by cases h)
  ·cases h
   exact loop_out (path (ob_v (len_ts texts_map (l := a1)) (ob_b h1 ob)) (by kernel_rfl)) (fun h => by cases h)
theorem ref12_named.ok {n : Nat} {t : Tab} (ht : TabOk t (run Tryz.prog own kp X n)) : ∀ (p1 : List ByteArray) r, ref12_named t n p1 = some r → run Tryz.prog own kp X (n + 1) 55 [(Sl 1 (texts p1))] [] = some ((Bo r), []) := by
 intro p1 r h
 obtain ⟨a1, rfl⟩ : ∃ z_, z_ = p1 := ⟨_, rfl⟩
 rw [ref12_named] at h
 obtain ⟨a2 | ⟨a3, a4, a5⟩, h1, h⟩ := sm h
 ·cases h
  exact run_path Tryz.func55 (ob_k (lk (sub [1, 0, 1, 0] (bodyOf Tryz.f55)) (by kernel_rfl) (ref12_named_l1.okL ht n n _ _ _ h1)) ob) (by kernel_rfl)
 ·cases h
  exact run_path Tryz.func55 (ob_k (lk (sub [1, 0, 1, 0] (bodyOf Tryz.f55)) (by kernel_rfl) (ref12_named_l1.okL ht n n _ _ _ h1)) (ob_v (len_ts texts_map (l := a3)) ob)) (by kernel_rfl)
theorem ref02_Check.ok {n : Nat} {t : Tab} (ht : TabOk t (run Tryz.prog own kp X n)) : ∀ (p1 : GValue) r, ref02_Check t n p1 = some r → run Tryz.prog own kp X (n + 1) 56 [(.t (GValue.t p1))] [] = some ((I6 r), []) := by
 intro p1 r h
 obtain ⟨a1, a2, a3, a4, a5⟩ := p1
 rw [ref02_Check] at h
 obtain ⟨a6, h1, h⟩ := sm h
 rcases fk h with ⟨h2, h⟩ | ⟨h2, h⟩
 ·cases h
  exact run_path Tryz.func56 (ob_c (ht.ref02_right _ _ _ h1) (ob_b (congrArg (!·) h2) ob)) (by kernel_rfl)
 ·cases h
  exact run_path Tryz.func56 (ob_c (ht.ref02_right _ _ _ h1) (ob_b (congrArg (!·) h2) ob)) (by kernel_rfl)
theorem ref09_Check.ok {n : Nat} {t : Tab} (ht : TabOk t (run Tryz.prog own kp X n)) : ∀ (p1 : GPred) r, ref09_Check t n p1 = some r → run Tryz.prog own kp X (n + 1) 57 [(.t (GPred.t p1))] [] = some ((I6 r), []) := by
 intro p1 r h
 obtain ⟨a1, a2, a3⟩ := p1
 rw [ref09_Check] at h
 obtain ⟨a4, h1, h⟩ := sm h
 rcases fk h with ⟨h2, h⟩ | ⟨h2, h⟩
 ·cases h
  exact run_path Tryz.func57 (ob_c (ht.ref09_right _ _ _ h1) (ob_b (congrArg (!·) h2) ob)) (by kernel_rfl)
 ·cases h
  exact run_path Tryz.func57 (ob_c (ht.ref09_right _ _ _ h1) (ob_b (congrArg (!·) h2) ob)) (by kernel_rfl)
theorem ref12_by_j1.ok (ht : TabOk t call) (n : Nat) (a1 a2 : Int) (a3 : ByteArray) (a4 : List GStep) (a5 : Bool) (r : _) (h : ref12_by_j1 t n a1 a2 a3 a4 a5 = some r) : exec (env Tryz.prog 58 Tryz.f58 call) n (sub [1, 1] (bodyOf Tryz.f58)) (mkSt 49 49 [(2, (I6 a1)), (3, (.ptr 3 0 [] 0))] [(3, (.t (.st [(.v (.int .i64 a2)), (.v (.string a3)), (.sl false 14 (GStep.ts a4)), (.v (.bool a5))])))]) = some (ref12_by_j1.to r) := by
 rw [ref12_by_j1] at h
 rcases fk h with ⟨h1, h⟩ | ⟨h1, h⟩
 ·rcases fk h with ⟨h2, h⟩ | ⟨h2, h⟩
  ·cases h
   exact path (ob_b h1 (ob_b3 h2 (ob_v (len_ts GStep.ts_map (l := a4)) (ob_b2 h2 ob)))) (by kernel_rfl)
  ·cases h
   exact path (ob_b h1 (ob_b4 h2 (ob_b h2 ob))) (by kernel_rfl)
 ·rcases fk h with ⟨h3, h⟩ | ⟨h3, h⟩
  ·obtain ⟨a6, h4, h⟩ := sm h
   rcases fk h with ⟨h5, h⟩ | ⟨h5, h⟩
   ·cases h
    exact path (ob_b h1 (ob_b h3 (ob_c (ht.ref05_Name _ _ h4) (ob_b3 h5 (ob_v (len_ts GStep.ts_map (l := a4)) (ob_b2 h5 ob)))))) (by kernel_rfl)
   ·cases h
    exact path (ob_b h1 (ob_b h3 (ob_c (ht.ref05_Name _ _ h4) (ob_b4 h5 (ob_b h5 ob))))) (by kernel_rfl)
  ·rcases fk h with ⟨h6, h⟩ | ⟨h6, h⟩
   ·rcases fk h with ⟨h7, h⟩ | ⟨h7, h⟩
    ·obtain ⟨a7, rfl⟩ : ∃ z_, z_ = r := ⟨_, rfl⟩
     have h8 := h
     exact path (ob_b h1 (ob_b h3 (ob_b h6 (ob_b4 h7 (ob_b h7 (ob_c (ht.ref12_right _ _ _ h8) (ob_b h7 ob))))))) (by kernel_rfl)
    ·cases h
     exact path (ob_b h1 (ob_b h3 (ob_b h6 (ob_b4 h7 (ob_b2 h7 ob))))) (by kernel_rfl)
   ·cases h
    exact path (ob_b h1 (ob_b h3 (ob_b h6 ob))) (by kernel_rfl)
theorem ref12_by.ok {n : Nat} {t : Tab} (ht : TabOk t (run Tryz.prog own kp X n)) : ∀ (p1 : GBy) (p2 : Bool) (p3 : Int) r, ref12_by t n p1 p2 p3 = some r → run Tryz.prog own kp X (n + 1) 58 [(.t (GBy.t p1)), (Bo p2), (I6 p3)] [] = some ((Bo r), []) := by
 intro p1 p2 p3 r h
 obtain ⟨a1, a2, a3, a4⟩ := p1
 obtain ⟨a5, rfl⟩ : ∃ z_, z_ = p2 := ⟨_, rfl⟩
 obtain ⟨a6, rfl⟩ : ∃ z_, z_ = p3 := ⟨_, rfl⟩
 rw [ref12_by] at h
 rcases fk h with ⟨h1, h⟩ | ⟨h1, h⟩
 ·rcases fk h with ⟨h2, h⟩ | ⟨h2, h⟩
  ·obtain ⟨a7, rfl⟩ : ∃ z_, z_ = r := ⟨_, rfl⟩
   have h3 := h
   exact run_path Tryz.func58 (ob_b3 h1 (ob_b (congrArg (!·) h2) (ob_j (ref12_by_j1.ok ht n _ _ _ _ _ _ h3) ob))) (by kernel_rfl)
  ·cases h
   exact run_path Tryz.func58 (ob_b3 h1 (ob_b (congrArg (!·) h2) ob)) (by kernel_rfl)
 ·obtain ⟨a8, rfl⟩ : ∃ z_, z_ = r := ⟨_, rfl⟩
  have h4 := h
  exact run_path Tryz.func58 (ob_b3 h1 (ob_b (rfl : false = false) (ob_j (ref12_by_j1.ok ht n _ _ _ _ _ _ h4) ob))) (by kernel_rfl)
theorem ref09_Same_l2.okL (ht : TabOk t call) (n : Nat) : ∀ (k : Nat) (a1 a2 : Int) (a3 : List GValue) (a4 : List GPred) (a5 : Int) (a6 : List GValue) (a7 : List GPred) (r : _), ref09_Same_l2 t n k a1 a2 a3 a4 a5 a6 a7 = some r → loopN (exec (env Tryz.prog 45 Tryz.f45 call) n (sub [1, 1, 0, 1, 0, 0] (bodyOf Tryz.f45))) k (mkSt 47 47 [(2, (.ptr 2 0 [] 0)), (3, (.ptr 3 0 [] 0)), (5, (I6 a1))] [(2, (.t (.st [(.v (.int .i64 a2)), (.sl false 5 (GValue.ts a3)), (.sl false 3 (GPred.ts a4))]))), (3, (.t (.st [(.v (.int .i64 a5)), (.sl false 5 (GValue.ts a6)), (.sl false 3 (GPred.ts a7))])))]) = some (ref09_Same_l2.to r)
 | 0, a1, a2, a3, a4, a5, a6, a7, r, h => by rw [ref09_Same_l2] at h; cases h
 | k + 1, a1, a2, a3, a4, a5, a6, a7, r, h => by
  rw [ref09_Same_l2] at h
  rcases fk h with ⟨h1, h⟩ | ⟨h1, h⟩
  ·obtain ⟨h2, h⟩ := ck h
   obtain ⟨⟨a8, a9, a10⟩, h3, h⟩ := sm h
   obtain ⟨⟨a11, a12, a13⟩, h4, h⟩ := sm h
   obtain ⟨a14, h5, h⟩ := sm h
   have o7 {os} (x : Obls (env Tryz.prog 45 Tryz.f45 call) n os) := ob_v (len_ts GPred.ts_map (l := a4)) (ob_b h1 (ob_n h2 (ob_t (look_ts GPred.ts_map h3) (ob_n h2 (ob_t (look_ts GPred.ts_map h4) (ob_c (ht.ref09_Same _ _ _ h5) x))))))
   rcases fk h with ⟨h6, h⟩ | ⟨h6, h⟩
   ·exact loop_more (path (o7 (ob_b (congrArg (!·) h6) ob)) (by kernel_rfl)) (ref09_Same_l2.okL ht n k _ _ _ _ _ _ _ _ h)
   ·cases h
    exact loop_out (path (o7 (ob_b (congrArg (!·) h6) ob)) (by kernel_rfl)) (fun h => by cases h)
  ·cases h
   exact loop_out (path (ob_v (len_ts GPred.ts_map (l := a4)) (ob_b h1 ob)) (by kernel_rfl)) (fun h => by cases h)
end Go.Proofs.YtgkfjhfehdefaaaGreatDoor.W
