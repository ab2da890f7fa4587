/- The proofs of it, part 2. -/
import Derived.Test.YtgkfjhfehdefaaaGreatDoorP8D1
namespace Go.Proofs.YtgkfjhfehdefaaaGreatDoor.W
open Go.Proofs.YtgkfjhfehdefaaaGreatDoor.Flat
set_option linter.unusedVariables false
set_option linter.unusedSimpArgs false
set_option smartUnfolding false
attribute [local irreducible] law12_PlanSame_j5 plan_copied_j3 pred_part_j2 quoI ref02_Count_j2 ref02_Count_j5 ref02_Many_j2 ref02_compare_j3 ref02_fields_j1 ref02_rows_j2 ref02_texts_j2 ref05_Name_j2 ref09_Count_j2 ref09_right_j1 ref12_Inner_j2 ref12_Much_j2 ref12_Much_j4 ref12_Same_j2 ref12_own_j1 ref12_right_j2 ref12_steps_j2 ref12_steps_j4 strAt
variable {t : Tab} {call : FuncId → List AV → List AV → Option (AV × List AV)}
theorem plan_sameBy.ok {n : Nat} {t : Tab} (ht : TabOk t (run Tryz.prog own kp X n)) : ∀ (p1 : GBy) (p2 : GBy) r, plan_sameBy t n p1 p2 = some r → run Tryz.prog own kp X (n + 1) 40 [(.t (GBy.t p1)), (.t (GBy.t p2))] [] = some ((Bo r), []) := by
 intro p1 p2 r h
 obtain ⟨a1, a2, a3, a4⟩ := p1
 obtain ⟨a5, a6, a7, a8⟩ := p2
 rw [plan_sameBy] at h
 rcases fk h with ⟨h1, h⟩ | ⟨h1, h⟩
 ·rcases fk h with ⟨h2, h⟩ | ⟨h2, h⟩
  ·rcases fk h with ⟨h3, h⟩ | ⟨h3, h⟩
   ·obtain ⟨a9, rfl⟩ : ∃ z_, z_ = r := ⟨_, rfl⟩
    have h4 := h
    exact run_path Tryz.func40 (ob_b4 h1 (ob_b2 h1 (ob_b4 h2 (ob_b2 h2 (ob_b4 h3 (ob_b h3 (ob_c (ht.plan_Same _ _ _ h4) (ob_b h3 ob)))))))) (by kernel_rfl)
   ·cases h
    exact run_path Tryz.func40 (ob_b4 h1 (ob_b2 h1 (ob_b4 h2 (ob_b2 h2 (ob_b4 h3 (ob_b2 h3 ob)))))) (by kernel_rfl)
  ·cases h
   exact run_path Tryz.func40 (ob_b4 h1 (ob_b2 h1 (ob_b4 h2 (ob_b2 h2 (ob_b4 (rfl : false = false) (ob_b2 (rfl : false = false) ob)))))) (by kernel_rfl)
 ·cases h
  exact run_path Tryz.func40 (ob_b4 h1 (ob_b2 h1 (ob_b4 (rfl : false = false) (ob_b4 (rfl : false = false) (ob_b4 (rfl : false = false) ob))))) (by kernel_rfl)
theorem value_copied_l1.okL (ht : TabOk t call) (n : Nat) : ∀ (k : Nat) (a1 : Int) (a2 a3 : List GValue) (a4 a5 : Int) (r : _), value_copied_l1 t n k a1 a2 a3 a4 a5 = some r → loopN (exec (env Tryz.prog 114 Tryz.f114 call) n (sub [1, 1, 0, 1, 0, 0] (bodyOf Tryz.f114))) k (mkSt 22 22 [(1, (I6 a1)), (5, (.t (.xl 5 (GValue.xs a2)))), (8, (Sl 5 (GValue.ts a3))), (9, (I6 a4)), (10, (I6 a5))] []) = some (value_copied_l1.to r)
 | 0, a1, a2, a3, a4, a5, r, h => by rw [value_copied_l1] at h; cases h
 | k + 1, a1, a2, a3, a4, a5, r, h => by
  rw [value_copied_l1] at h
  rcases fk h with ⟨h1, h⟩ | ⟨h1, h⟩
  ·obtain ⟨h2, h⟩ := ck h
   obtain ⟨⟨a6, a7, a8, a9, a10⟩, h3, h⟩ := sm h
   obtain ⟨⟨a11, a12, a13, a14, a15⟩, h4, h⟩ := sm h
   obtain ⟨h5, h⟩ := cl h
   exact loop_more (path (ob_b h1 (ob_n h2 (ob_t (look_ts GValue.ts_map h3) (ob_c (ht.value_part _ _ _ h4) (ob_le (room_ts GValue.xs_map h5) (ob_l (app_ts GValue.xs_map (a := a2) (b := ([(GValue.mk a11 a12 a13 a14 a15)] : List GValue))) ob)))))) (by kernel_rfl)) (value_copied_l1.okL ht n k _ _ _ _ _ _ h)
  ·cases h
   exact loop_out (path (ob_b h1 ob) (by kernel_rfl)) (fun h => by cases h)
theorem value_copied.ok {n : Nat} {t : Tab} (ht : TabOk t (run Tryz.prog own kp X n)) : ∀ (p1 : List GValue) (p2 : Int) r, value_copied t n p1 p2 = some r → run Tryz.prog own kp X (n + 1) 114 [(Sl 5 (GValue.ts p1)), (I6 p2)] [] = some ((.t (.xl 5 (GValue.xs r))), []) := by
 intro p1 p2 r h
 obtain ⟨a1, rfl⟩ : ∃ z_, z_ = p1 := ⟨_, rfl⟩
 obtain ⟨a2, rfl⟩ : ∃ z_, z_ = p2 := ⟨_, rfl⟩
 rw [value_copied] at h
 obtain ⟨⟨a3, a4, a5, a6, a7, a8⟩, h1, h⟩ := sm h
 cases h
 exact run_path Tryz.func114 (ob_v (len_ts GValue.ts_map (l := a1)) (ob_k (lk (sub [1, 1, 0, 1, 0] (bodyOf Tryz.f114)) (by kernel_rfl) (value_copied_l1.okL ht n n _ _ _ _ _ _ h1)) ob)) (by kernel_rfl)
theorem ref02_fields_j2.ok (ht : TabOk t call) (n : Nat) (a1 : Int) (a2 : Bool) (a3 a4 : Int) (a5 : ByteArray) (a6 a7 : List GValue) (r : _) (h : ref02_fields_j2 t n a1 a2 a3 a4 a5 a6 a7 = some r) : exec (env Tryz.prog 107 Tryz.f107 call) n (sub [1, 0, 1, 0, 1, 1, 1, 1, 1, 1, 1, 1, 1] (bodyOf Tryz.f107)) (mkSt 143 143 [(1, (.ptr 1 0 [] 0)), (4, (I6 a1)), (95, (Bo a2))] [(1, (.t (.st [(.v (.int .i64 a3)), (.v (.int .i64 a4)), (.v (.string a5)), (.sl false 5 (GValue.ts a6)), (.sl false 5 (GValue.ts a7))])))]) = some (ref02_fields_j2.to r) := by
 rw [ref02_fields_j2] at h
 rcases fk h with ⟨h1, h⟩ | ⟨h1, h⟩
 ·rcases fk h with ⟨h2, h⟩ | ⟨h2, h⟩
  ·rcases fk h with ⟨h3, h⟩ | ⟨h3, h⟩
   ·rcases fk h with ⟨h4, h⟩ | ⟨h4, h⟩
    ·cases h
     exact path (ob_b h1 (ob_b4 h2 (ob_b3 h3 (ob_v (len_ts GValue.ts_map (l := a6)) (ob_b2 h3 (ob_b3 h4 (ob_v (len_ts GValue.ts_map (l := a7)) (ob_b2 h4 ob)))))))) (by kernel_rfl)
    ·cases h
     exact path (ob_b h1 (ob_b4 h2 (ob_b3 h3 (ob_v (len_ts GValue.ts_map (l := a6)) (ob_b2 h3 (ob_b4 h4 (ob_b h4 ob))))))) (by kernel_rfl)
   ·cases h
    exact path (ob_b h1 (ob_b4 h2 (ob_b4 h3 (ob_b h3 (ob_b4 (rfl : false = false) (ob_b (rfl : false = false) ob)))))) (by kernel_rfl)
  ·cases h
   exact path (ob_b h1 (ob_b4 h2 (ob_b4 (rfl : false = false) (ob_b4 (rfl : false = false) (ob_b2 (rfl : false = false) ob))))) (by kernel_rfl)
 ·rcases fk h with ⟨h5, h⟩ | ⟨h5, h⟩
  ·rcases fk h with ⟨h6, h⟩ | ⟨h6, h⟩
   ·rcases fk h with ⟨h7, h⟩ | ⟨h7, h⟩
    ·rcases fk h with ⟨h8, h⟩ | ⟨h8, h⟩
     ·cases h
      exact path (ob_b h1 (ob_b h5 (ob_b4 h6 (ob_b3 h7 (ob_v (len_ts GValue.ts_map (l := a6)) (ob_b2 h7 (ob_b3 h8 (ob_v (len_ts GValue.ts_map (l := a7)) (ob_b3 h8 (ob_v (len_ts GValue.ts_map (l := a6)) (ob_b2 h8 ob))))))))))) (by kernel_rfl)
     ·cases h
      exact path (ob_b h1 (ob_b h5 (ob_b4 h6 (ob_b3 h7 (ob_v (len_ts GValue.ts_map (l := a6)) (ob_b2 h7 (ob_b4 h8 (ob_b4 h8 ob)))))))) (by kernel_rfl)
    ·cases h
     exact path (ob_b h1 (ob_b h5 (ob_b4 h6 (ob_b4 h7 (ob_b h7 (ob_b4 (rfl : false = false) (ob_b4 (rfl : false = false) ob))))))) (by kernel_rfl)
   ·cases h
    exact path (ob_b h1 (ob_b h5 (ob_b4 h6 (ob_b4 (rfl : false = false) (ob_b4 (rfl : false = false) (ob_b4 (rfl : false = false) (ob_b (rfl : false = false) ob))))))) (by kernel_rfl)
  ·cases h
   exact path (ob_b h1 (ob_b h5 ob)) (by kernel_rfl)
theorem ref02_fields_j1.ok (ht : TabOk t call) (n : Nat) (a1 : Int) (a2 : Bool) (a3 a4 : Int) (a5 : ByteArray) (a6 a7 : List GValue) (r : _) (h : ref02_fields_j1 t n a1 a2 a3 a4 a5 a6 a7 = some r) : exec (env Tryz.prog 107 Tryz.f107 call) n (sub [1, 0, 1, 0, 1, 1, 1, 1, 1, 1, 1] (bodyOf Tryz.f107)) (mkSt 143 143 [(1, (.ptr 1 0 [] 0)), (4, (I6 a1)), (72, (Bo a2))] [(1, (.t (.st [(.v (.int .i64 a3)), (.v (.int .i64 a4)), (.v (.string a5)), (.sl false 5 (GValue.ts a6)), (.sl false 5 (GValue.ts a7))])))]) = some (ref02_fields_j1.to r) := by
 rw [ref02_fields_j1] at h
 rcases fk h with ⟨h1, h⟩ | ⟨h1, h⟩
 ·rcases fk h with ⟨h2, h⟩ | ⟨h2, h⟩
  ·rcases fk h with ⟨h3, h⟩ | ⟨h3, h⟩
   ·rcases fk h with ⟨h4, h⟩ | ⟨h4, h⟩
    ·cases h
     exact path (ob_b h1 (ob_b4 h2 (ob_b3 h3 (ob_v (len_ts GValue.ts_map (l := a6)) (ob_b2 h3 (ob_b3 h4 (ob_v (len_ts GValue.ts_map (l := a7)) (ob_b2 h4 ob)))))))) (by kernel_rfl)
    ·cases h
     exact path (ob_b h1 (ob_b4 h2 (ob_b3 h3 (ob_v (len_ts GValue.ts_map (l := a6)) (ob_b2 h3 (ob_b4 h4 (ob_b h4 ob))))))) (by kernel_rfl)
   ·cases h
    exact path (ob_b h1 (ob_b4 h2 (ob_b4 h3 (ob_b h3 (ob_b4 (rfl : false = false) (ob_b (rfl : false = false) ob)))))) (by kernel_rfl)
  ·cases h
   exact path (ob_b h1 (ob_b4 h2 (ob_b4 (rfl : false = false) (ob_b4 (rfl : false = false) (ob_b2 (rfl : false = false) ob))))) (by kernel_rfl)
 ·rcases fk h with ⟨h5, h⟩ | ⟨h5, h⟩
  ·have h6 := h
   rcases r with a8 | _
   ·exact path (ob_b h1 (ob_b h5 (ob_j (ref02_fields_j2.ok ht n _ _ _ _ _ _ _ _ h6) ob))) (by kernel_rfl)
   ·exact path (ob_b h1 (ob_b h5 (ob_j (ref02_fields_j2.ok ht n _ _ _ _ _ _ _ _ h6) ob))) (by kernel_rfl)
  ·have h7 := h
   rcases r with a9 | _
   ·exact path (ob_b h1 (ob_b h5 (ob_j (ref02_fields_j2.ok ht n _ _ _ _ _ _ _ _ h7) ob))) (by kernel_rfl)
   ·exact path (ob_b h1 (ob_b h5 (ob_j (ref02_fields_j2.ok ht n _ _ _ _ _ _ _ _ h7) ob))) (by kernel_rfl)
theorem ref02_fields.ok {n : Nat} {t : Tab} (ht : TabOk t (run Tryz.prog own kp X n)) : ∀ (p1 : GValue) r, ref02_fields t n p1 = some r → run Tryz.prog own kp X (n + 1) 107 [(.t (GValue.t p1))] [] = some ((Bo r), []) := by
 intro p1 r h
 obtain ⟨a1, a2, a3, a4, a5⟩ := p1
 rw [ref02_fields] at h
 rcases fk h with ⟨h1, h⟩ | ⟨h1, h⟩
 ·rcases fk h with ⟨h2, h⟩ | ⟨h2, h⟩
  ·have o9 {os} (x : Obls (env Tryz.prog 107 Tryz.f107 (run Tryz.prog own kp X n)) n os) := ob_b h1 (ob_b4 h2 (ob_b4 (rfl : true = true) x))
   rcases fk h with ⟨h3, h⟩ | ⟨h3, h⟩
   ·rcases fk h with ⟨h4, h⟩ | ⟨h4, h⟩
    ·cases h
     exact run_path Tryz.func107 (o9 (ob_b3 h3 (ob_v (len_ts GValue.ts_map (l := a4)) (ob_b2 h3 (ob_b3 h4 (ob_v (len_ts GValue.ts_map (l := a5)) (ob_b2 h4 ob))))))) (by kernel_rfl)
    ·cases h
     exact run_path Tryz.func107 (o9 (ob_b3 h3 (ob_v (len_ts GValue.ts_map (l := a4)) (ob_b2 h3 (ob_b4 h4 (ob_b h4 ob)))))) (by kernel_rfl)
   ·cases h
    exact run_path Tryz.func107 (o9 (ob_b4 h3 (ob_b h3 (ob_b4 (rfl : false = false) (ob_b (rfl : false = false) ob))))) (by kernel_rfl)
  ·rcases fk h with ⟨h5, h⟩ | ⟨h5, h⟩
   ·have o9 {os} (x : Obls (env Tryz.prog 107 Tryz.f107 (run Tryz.prog own kp X n)) n os) := ob_b h1 (ob_b4 h2 (ob_b4 h5 x))
    rcases fk h with ⟨h6, h⟩ | ⟨h6, h⟩
    ·rcases fk h with ⟨h7, h⟩ | ⟨h7, h⟩
     ·cases h
      exact run_path Tryz.func107 (o9 (ob_b3 h6 (ob_v (len_ts GValue.ts_map (l := a4)) (ob_b2 h6 (ob_b3 h7 (ob_v (len_ts GValue.ts_map (l := a5)) (ob_b2 h7 ob))))))) (by kernel_rfl)
     ·cases h
      exact run_path Tryz.func107 (o9 (ob_b3 h6 (ob_v (len_ts GValue.ts_map (l := a4)) (ob_b2 h6 (ob_b4 h7 (ob_b h7 ob)))))) (by kernel_rfl)
    ·cases h
     exact run_path Tryz.func107 (o9 (ob_b4 h6 (ob_b h6 (ob_b4 (rfl : false = false) (ob_b (rfl : false = false) ob))))) (by kernel_rfl)
   ·cases h
    exact run_path Tryz.func107 (ob_b h1 (ob_b4 h2 (ob_b4 h5 (ob_b4 (rfl : false = false) (ob_b4 (rfl : false = false) (ob_b2 (rfl : false = false) ob)))))) (by kernel_rfl)
 ·rcases fk h with ⟨h8, h⟩ | ⟨h8, h⟩
  ·rcases fk h with ⟨h9, h⟩ | ⟨h9, h⟩
   ·rcases fk h with ⟨h10, h⟩ | ⟨h10, h⟩
    ·cases h
     exact run_path Tryz.func107 (ob_b h1 (ob_b h8 (ob_b3 h9 (ob_v (len_ts GValue.ts_map (l := a4)) (ob_b2 h9 (ob_b3 h10 (ob_v (len_ts GValue.ts_map (l := a5)) (ob_b2 h10 ob)))))))) (by kernel_rfl)
    ·cases h
     exact run_path Tryz.func107 (ob_b h1 (ob_b h8 (ob_b3 h9 (ob_v (len_ts GValue.ts_map (l := a4)) (ob_b2 h9 (ob_b4 h10 (ob_b h10 ob))))))) (by kernel_rfl)
   ·cases h
    exact run_path Tryz.func107 (ob_b h1 (ob_b h8 (ob_b4 h9 (ob_b h9 (ob_b4 (rfl : false = false) (ob_b (rfl : false = false) ob)))))) (by kernel_rfl)
  ·rcases fk h with ⟨h11, h⟩ | ⟨h11, h⟩
   ·rcases fk h with ⟨h12, h⟩ | ⟨h12, h⟩
    ·have o8 {os} (x : Obls (env Tryz.prog 107 Tryz.f107 (run Tryz.prog own kp X n)) n os) := ob_b h1 (ob_b h8 (ob_b h11 (ob_b4 h12 (ob_b h12 x))))
     rcases fk h with ⟨h13, h⟩ | ⟨h13, h⟩
     ·rcases fk h with ⟨h14, h⟩ | ⟨h14, h⟩
      ·cases h
       exact run_path Tryz.func107 (o8 (ob_b3 h13 (ob_v (len_ts GValue.ts_map (l := a4)) (ob_b2 h13 (ob_b3 h14 (ob_v (len_ts GValue.ts_map (l := a5)) (ob_b2 h14 ob))))))) (by kernel_rfl)
      ·cases h
       exact run_path Tryz.func107 (o8 (ob_b3 h13 (ob_v (len_ts GValue.ts_map (l := a4)) (ob_b2 h13 (ob_b4 h14 (ob_b h14 ob)))))) (by kernel_rfl)
     ·cases h
      exact run_path Tryz.func107 (o8 (ob_b4 h13 (ob_b h13 (ob_b4 (rfl : false = false) (ob_b (rfl : false = false) ob))))) (by kernel_rfl)
    ·cases h
     exact run_path Tryz.func107 (ob_b h1 (ob_b h8 (ob_b h11 (ob_b4 h12 (ob_b h12 (ob_b4 (rfl : false = false) (ob_b4 (rfl : false = false) (ob_b2 (rfl : false = false) ob)))))))) (by kernel_rfl)
   ·rcases fk h with ⟨h15, h⟩ | ⟨h15, h⟩
    ·obtain ⟨a6 | _, h16, h⟩ := sm h
     ·cases h
      exact run_path Tryz.func107 (ob_b h1 (ob_b h8 (ob_b h11 (ob_b h15 (ob_j (ref02_fields_j1.ok ht n _ _ _ _ _ _ _ _ h16) ob))))) (by kernel_rfl)
     ·cases h
      exact run_path Tryz.func107 (ob_b h1 (ob_b h8 (ob_b h11 (ob_b h15 (ob_j (ref02_fields_j1.ok ht n _ _ _ _ _ _ _ _ h16) ob))))) (by kernel_rfl)
    ·obtain ⟨a7 | _, h17, h⟩ := sm h
     ·cases h
      exact run_path Tryz.func107 (ob_b h1 (ob_b h8 (ob_b h11 (ob_b h15 (ob_j (ref02_fields_j1.ok ht n _ _ _ _ _ _ _ _ h17) ob))))) (by kernel_rfl)
     ·cases h
      exact run_path Tryz.func107 (ob_b h1 (ob_b h8 (ob_b h11 (ob_b h15 (ob_j (ref02_fields_j1.ok ht n _ _ _ _ _ _ _ _ h17) ob))))) (by kernel_rfl)
theorem ref02_Cmp.ok {n : Nat} {t : Tab} (ht : TabOk t (run Tryz.prog own kp X n)) : ∀ (p1 : GValue) (p2 : GValue) r, ref02_Cmp t n p1 p2 = some r → run Tryz.prog own kp X (n + 1) 108 [(.t (GValue.t p1)), (.t (GValue.t p2))] [] = some ((I6 r), []) := by
 intro p1 p2 r h
 obtain ⟨a1, a2, a3, a4, a5⟩ := p1
 obtain ⟨a6, a7, a8, a9, a10⟩ := p2
 rw [ref02_Cmp] at h
 obtain ⟨a11, rfl⟩ : ∃ z_, z_ = r := ⟨_, rfl⟩
 have h1 := h
 exact run_path Tryz.func108 (ob_c (ht.ref02_compare _ _ _ _ h1) ob) (by kernel_rfl)
theorem value_compare_j1.ok (ht : TabOk t call) (n : Nat) (a1 a2 : Int) (a3 : ByteArray) (a4 a5 : List GValue) (a6 a7 : Int) (a8 : ByteArray) (a9 a10 : List GValue) (a11 : Int) (r : _) (h : value_compare_j1 t n a1 a2 a3 a4 a5 a6 a7 a8 a9 a10 a11 = some r) : exec (env Tryz.prog 94 Tryz.f94 call) n (sub [1, 1] (bodyOf Tryz.f94)) (mkSt 48 48 [(3, (.ptr 3 0 [] 0)), (4, (.ptr 4 0 [] 0)), (5, (.ptr 5 0 [] 0))] [(3, (.t (.st [(.v (.int .i64 a1)), (.v (.int .i64 a2)), (.v (.string a3)), (.sl false 5 (GValue.ts a4)), (.sl false 5 (GValue.ts a5))]))), (4, (.t (.st [(.v (.int .i64 a6)), (.v (.int .i64 a7)), (.v (.string a8)), (.sl false 5 (GValue.ts a9)), (.sl false 5 (GValue.ts a10))]))), (5, (I6 a11))]) = some (value_compare_j1.to r) := by
 rw [value_compare_j1] at h
 obtain ⟨a12, h1, h⟩ := sm h
 obtain ⟨a13, h2, h⟩ := sm h
 obtain ⟨a14, rfl⟩ : ∃ z_, z_ = r := ⟨_, rfl⟩
 have h3 := h
 exact path (ob_c (ht.slices_CompareFunc_value_compare_1 _ _ _ _ h1) (ob_c (ht.slices_CompareFunc_value_compare_1 _ _ _ _ h2) (ob_c (ht.cmp_Or_int _ _ h3) ob))) (by kernel_rfl)
theorem value_compare.ok {n : Nat} {t : Tab} (ht : TabOk t (run Tryz.prog own kp X n)) : ∀ (p1 : GValue) (p2 : GValue) (p3 : Int) r, value_compare t n p1 p2 p3 = some r → run Tryz.prog own kp X (n + 1) 94 [(.t (GValue.t p1)), (.t (GValue.t p2)), (I6 p3)] [] = some ((I6 r), []) := by
 intro p1 p2 p3 r h
 obtain ⟨a1, a2, a3, a4, a5⟩ := p1
 obtain ⟨a6, a7, a8, a9, a10⟩ := p2
 obtain ⟨a11, rfl⟩ : ∃ z_, z_ = p3 := ⟨_, rfl⟩
 rw [value_compare] at h
 obtain ⟨a12, h1, h⟩ := sm h
 obtain ⟨a13, h2, h⟩ := sm h
 obtain ⟨a14, h3, h⟩ := sm h
 obtain ⟨a15, h4, h⟩ := sm h
 have o4 {os} (x : Obls (env Tryz.prog 94 Tryz.f94 (run Tryz.prog own kp X n)) n os) := ob_c (ht.cmp_Compare_int _ _ _ h1) (ob_c (ht.cmp_Compare_int _ _ _ h2) (ob_c (ht.strings_Compare _ _ _ h3) (ob_c (ht.cmp_Or_int _ _ h4) x)))
 rcases fk h with ⟨h5, h⟩ | ⟨h5, h⟩
 ·cases h
  exact run_path Tryz.func94 (o4 (ob_b3 h5 (ob_b (rfl : true = true) ob))) (by kernel_rfl)
 ·rcases fk h with ⟨h6, h⟩ | ⟨h6, h⟩
  ·cases h
   exact run_path Tryz.func94 (o4 (ob_b3 h5 (ob_b h6 ob))) (by kernel_rfl)
  ·obtain ⟨a16, rfl⟩ : ∃ z_, z_ = r := ⟨_, rfl⟩
   have h7 := h
   exact run_path Tryz.func94 (o4 (ob_b3 h5 (ob_b h6 (ob_j (value_compare_j1.ok ht n _ _ _ _ _ _ _ _ _ _ _ _ h7) ob)))) (by kernel_rfl)
theorem cmp_Compare_int.ok {n : Nat} {t : Tab} (ht : TabOk t (run Tryz.prog own kp X n)) : ∀ (p1 : Int) (p2 : Int) r, cmp_Compare_int t n p1 p2 = some r → run Tryz.prog own kp X (n + 1) 110 [(I6 p1), (I6 p2)] [] = some ((I6 r), []) := by
 intro p1 p2 r h
 obtain ⟨a1, rfl⟩ : ∃ z_, z_ = p1 := ⟨_, rfl⟩
 obtain ⟨a2, rfl⟩ : ∃ z_, z_ = p2 := ⟨_, rfl⟩
 rw [cmp_Compare_int] at h
 obtain ⟨a3, h1, h⟩ := sm h
 obtain ⟨a4, h2, h⟩ := sm h
 have o2 {os} (x : Obls (env Tryz.prog 110 Tryz.f110 (run Tryz.prog own kp X n)) n os) := ob_c (ht.cmp_isNaN_int _ _ h1) (ob_c (ht.cmp_isNaN_int _ _ h2) x)
 rcases fk h with ⟨h3, h⟩ | ⟨h3, h⟩
 ·rcases fk h with ⟨h4, h⟩ | ⟨h4, h⟩
  ·cases h
   exact run_path Tryz.func110 (o2 (ob_b h3 (ob_b h4 ob))) (by kernel_rfl)
  ·cases h
   exact run_path Tryz.func110 (o2 (ob_b h3 (ob_b h4 ob))) (by kernel_rfl)
 ·rcases fk h with ⟨h5, h⟩ | ⟨h5, h⟩
  ·cases h
   exact run_path Tryz.func110 (o2 (ob_b h3 (ob_b h5 ob))) (by kernel_rfl)
  ·rcases fk h with ⟨h6, h⟩ | ⟨h6, h⟩
   ·cases h
    exact run_path Tryz.func110 (o2 (ob_b h3 (ob_b h5 (ob_b h6 ob)))) (by kernel_rfl)
   ·rcases fk h with ⟨h7, h⟩ | ⟨h7, h⟩
    ·cases h
     exact run_path Tryz.func110 (o2 (ob_b h3 (ob_b h5 (ob_b h6 (ob_b h7 ob))))) (by kernel_rfl)
    ·cases h
     exact run_path Tryz.func110 (o2 (ob_b h3 (ob_b h5 (ob_b h6 (ob_b h7 ob))))) (by kernel_rfl)
theorem strings_Compare.ok {n : Nat} {t : Tab} (ht : TabOk t (run Tryz.prog own kp X n)) : ∀ (p1 : ByteArray) (p2 : ByteArray) r, strings_Compare t n p1 p2 = some r → run Tryz.prog own kp X (n + 1) 111 [(Sr p1), (Sr p2)] [] = some ((I6 r), []) := by
 intro p1 p2 r h
 obtain ⟨a1, rfl⟩ : ∃ z_, z_ = p1 := ⟨_, rfl⟩
 obtain ⟨a2, rfl⟩ : ∃ z_, z_ = p2 := ⟨_, rfl⟩
 rw [strings_Compare] at h
 obtain ⟨a3, rfl⟩ : ∃ z_, z_ = r := ⟨_, rfl⟩
 have h1 := h
 exact run_path Tryz.func111 (ob_c (ht.bytealg_CompareString _ _ _ h1) ob) (by kernel_rfl)
theorem cmp_Or_int_l1.okL (ht : TabOk t call) (n : Nat) : ∀ (k : Nat) (a1 : Int) (a2 : List Int) (a3 a4 : Int) (r : _), cmp_Or_int_l1 t n k a1 a2 a3 a4 = some r → loopN (exec (env Tryz.prog 109 Tryz.f109 call) n (sub [1, 1, 0, 1, 0, 0] (bodyOf Tryz.f109))) k (mkSt 18 18 [(3, (I6 a1)), (6, (Sl 1 (ints_i64 a2))), (7, (I6 a3)), (8, (I6 a4))] []) = some (cmp_Or_int_l1.to r)
 | 0, a1, a2, a3, a4, r, h => by rw [cmp_Or_int_l1] at h; cases h
 | k + 1, a1, a2, a3, a4, r, h => by
  rw [cmp_Or_int_l1] at h
  rcases fk h with ⟨h1, h⟩ | ⟨h1, h⟩
  ·obtain ⟨h2, h⟩ := ck h
   obtain ⟨a5, h3, h⟩ := sm h
   rcases fk h with ⟨h4, h⟩ | ⟨h4, h⟩
   ·cases h
    exact loop_out (path (ob_b h1 (ob_n h2 (ob_t (look_ts ints_i64_map h3) (ob_b h4 ob)))) (by kernel_rfl)) (fun h => by cases h)
   ·exact loop_more (path (ob_b h1 (ob_n h2 (ob_t (look_ts ints_i64_map h3) (ob_b h4 ob)))) (by kernel_rfl)) (cmp_Or_int_l1.okL ht n k _ _ _ _ _ h)
  ·cases h
   exact loop_out (path (ob_b h1 ob) (by kernel_rfl)) (fun h => by cases h)
theorem cmp_Or_int.ok {n : Nat} {t : Tab} (ht : TabOk t (run Tryz.prog own kp X n)) : ∀ (p1 : List Int) r, cmp_Or_int t n p1 = some r → run Tryz.prog own kp X (n + 1) 109 [(Sl 1 (ints_i64 p1))] [] = some ((I6 r), []) := by
 intro p1 r h
 obtain ⟨a1, rfl⟩ : ∃ z_, z_ = p1 := ⟨_, rfl⟩
 rw [cmp_Or_int] at h
 obtain ⟨a2 | ⟨a3, a4, a5, a6, a7⟩, h1, h⟩ := sm h
 ·cases h
  exact run_path Tryz.func109 (ob_v (len_ts ints_i64_map (l := a1)) (ob_k (lk (sub [1, 1, 0, 1, 0] (bodyOf Tryz.f109)) (by kernel_rfl) (cmp_Or_int_l1.okL ht n n _ _ _ _ _ h1)) ob)) (by kernel_rfl)
 ·cases h
  exact run_path Tryz.func109 (ob_v (len_ts ints_i64_map (l := a1)) (ob_k (lk (sub [1, 1, 0, 1, 0] (bodyOf Tryz.f109)) (by kernel_rfl) (cmp_Or_int_l1.okL ht n n _ _ _ _ _ h1)) ob)) (by kernel_rfl)
theorem slices_CompareFunc_value_compare_1_l1.okL (ht : TabOk t call) (n : Nat) : ∀ (k : Nat) (a1 a2 : List GValue) (a3 : Int) (a4 : List GValue) (a5 a6 : Int) (r : _), slices_CompareFunc_value_compare_1_l1 t n k a1 a2 a3 a4 a5 a6 = some r → loopN (exec (env Tryz.prog 113 Tryz.f113 call) n (sub [1, 0, 1, 0, 0] (bodyOf Tryz.f113))) k (mkSt 39 39 [(0, (Sl 5 (GValue.ts a1))), (1, (Sl 5 (GValue.ts a2))), (2, (.fn 112 [(.ref (.v (.int .i64 a3)))])), (11, (Sl 5 (GValue.ts a4))), (12, (I6 a5)), (13, (I6 a6))] []) = some (slices_CompareFunc_value_compare_1_l1.to r)
 | 0, a1, a2, a3, a4, a5, a6, r, h => by rw [slices_CompareFunc_value_compare_1_l1] at h; cases h
 | k + 1, a1, a2, a3, a4, a5, a6, r, h => by
  rw [slices_CompareFunc_value_compare_1_l1] at h
  rcases fk h with ⟨h1, h⟩ | ⟨h1, h⟩
  ·obtain ⟨h2, h⟩ := ck h
   obtain ⟨⟨a7, a8, a9, a10, a11⟩, h3, h⟩ := sm h
   have o4 {os} (x : Obls (env Tryz.prog 113 Tryz.f113 call) n os) := ob_b h1 (ob_n h2 (ob_t (look_ts GValue.ts_map h3) (ob_v (len_ts GValue.ts_map (l := a2)) x)))
   rcases fk h with ⟨h4, h⟩ | ⟨h4, h⟩
   ·cases h
    exact loop_out (path (o4 (ob_b h4 ob)) (by kernel_rfl)) (fun h => by cases h)
   ·obtain ⟨⟨a12, a13, a14, a15, a16⟩, h5, h⟩ := sm h
    obtain ⟨a17, h6, h⟩ := sm h
    rcases fk h with ⟨h7, h⟩ | ⟨h7, h⟩
    ·cases h
     exact loop_out (path (o4 (ob_b h4 (ob_n h2 (ob_t (look_ts GValue.ts_map h5) (ob_c (ht.value_compare_1 _ _ _ _ h6) (ob_b h7 ob)))))) (by kernel_rfl)) (fun h => by cases h)
    ·exact loop_more (path (o4 (ob_b h4 (ob_n h2 (ob_t (look_ts GValue.ts_map h5) (ob_c (ht.value_compare_1 _ _ _ _ h6) (ob_b h7 ob)))))) (by kernel_rfl)) (slices_CompareFunc_value_compare_1_l1.okL ht n k _ _ _ _ _ _ _ h)
  ·cases h
   exact loop_out (path (ob_b h1 ob) (by kernel_rfl)) (fun h => by cases h)
theorem slices_CompareFunc_value_compare_1_j2.ok (ht : TabOk t call) (n : Nat) (a1 a2 : List GValue) (r : _) (h : slices_CompareFunc_value_compare_1_j2 t n a1 a2 = some r) : exec (env Tryz.prog 113 Tryz.f113 call) n (sub [1, 1] (bodyOf Tryz.f113)) (mkSt 39 39 [(0, (Sl 5 (GValue.ts a1))), (1, (Sl 5 (GValue.ts a2)))] []) = some (slices_CompareFunc_value_compare_1_j2.to r) := by
 rw [slices_CompareFunc_value_compare_1_j2] at h
 rcases fk h with ⟨h1, h⟩ | ⟨h1, h⟩
 ·cases h
  exact path (ob_v (len_ts GValue.ts_map (l := a1)) (ob_v (len_ts GValue.ts_map (l := a2)) (ob_b h1 ob))) (by kernel_rfl)
 ·cases h
  exact path (ob_v (len_ts GValue.ts_map (l := a1)) (ob_v (len_ts GValue.ts_map (l := a2)) (ob_b h1 ob))) (by kernel_rfl)
theorem slices_CompareFunc_value_compare_1.ok {n : Nat} {t : Tab} (ht : TabOk t (run Tryz.prog own kp X n)) : ∀ (p1 : List GValue) (p2 : List GValue) (p3 : Int) r, slices_CompareFunc_value_compare_1 t n p1 p2 p3 = some r → run Tryz.prog own kp X (n + 1) 113 [(Sl 5 (GValue.ts p1)), (Sl 5 (GValue.ts p2)), (.fn 112 [(.ref (.v (.int .i64 p3)))])] [] = some ((I6 r), []) := by
 intro p1 p2 p3 r h
 obtain ⟨a1, rfl⟩ : ∃ z_, z_ = p1 := ⟨_, rfl⟩
 obtain ⟨a2, rfl⟩ : ∃ z_, z_ = p2 := ⟨_, rfl⟩
 obtain ⟨a3, rfl⟩ : ∃ z_, z_ = p3 := ⟨_, rfl⟩
 rw [slices_CompareFunc_value_compare_1] at h
 obtain ⟨a4 | ⟨a5, a6, a7, a8, a9, a10, a11⟩, h1, h⟩ := sm h
 ·cases h
  exact run_path Tryz.func113 (ob_v (len_ts GValue.ts_map (l := a1)) (ob_k (lk (sub [1, 0, 1, 0] (bodyOf Tryz.f113)) (by kernel_rfl) (slices_CompareFunc_value_compare_1_l1.okL ht n n _ _ _ _ _ _ _ h1)) ob)) (by kernel_rfl)
 ·obtain ⟨a12, rfl⟩ : ∃ z_, z_ = r := ⟨_, rfl⟩
  have h2 := h
  exact run_path Tryz.func113 (ob_v (len_ts GValue.ts_map (l := a1)) (ob_k (lk (sub [1, 0, 1, 0] (bodyOf Tryz.f113)) (by kernel_rfl) (slices_CompareFunc_value_compare_1_l1.okL ht n n _ _ _ _ _ _ _ h1)) (ob_j (slices_CompareFunc_value_compare_1_j2.ok ht n _ _ _ h2) ob))) (by kernel_rfl)
theorem cmp_isNaN_int.ok {n : Nat} {t : Tab} (ht : TabOk t (run Tryz.prog own kp X n)) : ∀ (p1 : Int) r, cmp_isNaN_int t n p1 = some r → run Tryz.prog own kp X (n + 1) 123 [(I6 p1)] [] = some ((Bo r), []) := by
 intro p1 r h
 obtain ⟨a1, rfl⟩ : ∃ z_, z_ = p1 := ⟨_, rfl⟩
 rw [cmp_isNaN_int] at h
 cases h
 exact run_path Tryz.func123 ob (by kernel_rfl)
theorem value_compare_1.ok {n : Nat} {t : Tab} (ht : TabOk t (run Tryz.prog own kp X n)) : ∀ (p1 : GValue) (p2 : GValue) (p3 : Int) r, value_compare_1 t n p1 p2 p3 = some r → run Tryz.prog own kp X (n + 1) 112 [(.t (GValue.t p1)), (.t (GValue.t p2)), (.ref (.v (.int .i64 p3)))] [] = some ((I6 r), []) := by
 intro p1 p2 p3 r h
 obtain ⟨a1, a2, a3, a4, a5⟩ := p1
 obtain ⟨a6, a7, a8, a9, a10⟩ := p2
 obtain ⟨a11, rfl⟩ : ∃ z_, z_ = p3 := ⟨_, rfl⟩
 rw [value_compare_1] at h
 obtain ⟨a12, rfl⟩ : ∃ z_, z_ = r := ⟨_, rfl⟩
 have h1 := h
 exact run_path Tryz.func112 (ob_c (ht.value_compare _ _ _ _ h1) ob) (by kernel_rfl)
end Go.Proofs.YtgkfjhfehdefaaaGreatDoor.W
