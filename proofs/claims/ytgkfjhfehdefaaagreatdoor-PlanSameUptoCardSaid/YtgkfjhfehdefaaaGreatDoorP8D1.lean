/- The proofs of it, part 1. -/
import Derived.Test.YtgkfjhfehdefaaaGreatDoorP8D0
namespace Go.Proofs.YtgkfjhfehdefaaaGreatDoor.W
open Go.Proofs.YtgkfjhfehdefaaaGreatDoor.Flat
set_option linter.unusedVariables false
set_option linter.unusedSimpArgs false
set_option smartUnfolding false
attribute [local irreducible] law12_PlanSame_j5 plan_copied_j3 pred_part_j2 quoI ref02_Count_j2 ref02_Count_j5 ref02_Many_j2 ref02_compare_j3 ref02_fields_j1 ref02_rows_j2 ref02_texts_j2 ref05_Name_j2 ref09_Count_j2 ref09_right_j1 ref12_Inner_j2 ref12_Much_j2 ref12_Much_j4 ref12_Same_j2 ref12_own_j1 ref12_right_j2 ref12_steps_j2 ref12_steps_j4 strAt
variable {t : Tab} {call : FuncId → List AV → List AV → Option (AV × List AV)}
theorem ref12_steps_l3.okL (ht : TabOk t call) (n : Nat) : ∀ (k : Nat) (a1 : List GStep) (a2 a3 a4 a5 : Int) (a6 : List (List GStep)) (a7 : Int) (r : _), ref12_steps_l3 t n k a1 a2 a3 a4 a5 a6 a7 = some r → loopN (exec (env Tryz.prog 25 Tryz.f25 call) n (sub [1, 1, 0, 1, 0, 0, 1, 0, 0, 1, 1, 1, 0, 0] (bodyOf Tryz.f25))) k (mkSt 57 57 [(0, (Sl 14 (GStep.ts a1))), (1, (I6 a2)), (2, (I6 a3)), (7, (I6 a4)), (8, (I6 a5)), (9, (Sl 1 (rows_GStep_ts a6))), (10, (I6 a7))] []) = some (ref12_steps_l3.to r)
 | 0, a1, a2, a3, a4, a5, a6, a7, r, h => by rw [ref12_steps_l3] at h; cases h
 | k + 1, a1, a2, a3, a4, a5, a6, a7, r, h => by
  rw [ref12_steps_l3] at h
  rcases fk h with ⟨h1, h⟩ | ⟨h1, h⟩
  ·rcases fk h with ⟨h2, h⟩ | ⟨h2, h⟩
   ·rcases fk h with ⟨h3, h⟩ | ⟨h3, h⟩
    ·obtain ⟨⟨a8, a9, a10, a11, a12, a13, a14⟩, h4, h⟩ := sm h
     exact loop_more (path (ob_v (len_ts rows_GStep_ts_map (l := a6)) (ob_b3 h1 (ob_b4 h2 (ob_b h3 (ob_j (ref12_steps_j4.ok ht n _ _ _ _ _ _ _ _ h4) ob))))) (by kernel_rfl)) (ref12_steps_l3.okL ht n k _ _ _ _ _ _ _ _ h)
    ·cases h
     exact loop_out (path (ob_v (len_ts rows_GStep_ts_map (l := a6)) (ob_b3 h1 (ob_b4 h2 (ob_b h3 ob)))) (by kernel_rfl)) (fun h => by cases h)
   ·cases h
    exact loop_out (path (ob_v (len_ts rows_GStep_ts_map (l := a6)) (ob_b3 h1 (ob_b4 h2 (ob_b (rfl : false = false) ob)))) (by kernel_rfl)) (fun h => by cases h)
  ·cases h
   exact loop_out (path (ob_v (len_ts rows_GStep_ts_map (l := a6)) (ob_b3 h1 (ob_b4 (rfl : false = false) (ob_b (rfl : false = false) ob)))) (by kernel_rfl)) (fun h => by cases h)
theorem ref12_steps_j2.ok (ht : TabOk t call) (n : Nat) (a1 : List GStep) (a2 a3 a4 a5 : Int) (r : _) (h : ref12_steps_j2 t n a1 a2 a3 a4 a5 = some r) : exec (env Tryz.prog 25 Tryz.f25 call) n (sub [1, 1, 0, 1, 0, 0, 1] (bodyOf Tryz.f25)) (mkSt 57 57 [(0, (Sl 14 (GStep.ts a1))), (1, (I6 a2)), (2, (I6 a3)), (7, (I6 a4)), (8, (I6 a5))] []) = some (ref12_steps_j2.to r) := by
 rw [ref12_steps_j2] at h
 obtain ⟨h1, h⟩ := ck h
 obtain ⟨⟨a6, a7, a8, ⟨a9, a10, a11, a12, a13⟩, ⟨a14, a15, a16⟩, a17, a18, a19⟩, h2, h⟩ := sm h
 obtain ⟨a20, h3, h⟩ := sm h
 obtain ⟨⟨a21, a22, a23, a24, a25, a26, a27, a28⟩, h4, h⟩ := sm h
 cases h
 exact path (ob_n h1 (ob_t (look_ts GStep.ts_map h2) (ob_c (ht.ref12_Inner _ _ h3) (ob_k (lk (sub [1, 1, 0, 1, 0, 0, 1, 0, 0, 1, 1, 1, 0] (bodyOf Tryz.f25)) (by kernel_rfl) (ref12_steps_l3.okL ht n n _ _ _ _ _ _ _ _ h4)) ob)))) (by kernel_rfl)
theorem ref12_steps_l1.okL (ht : TabOk t call) (n : Nat) : ∀ (k : Nat) (a1 : List GStep) (a2 a3 a4 a5 : Int) (r : _), ref12_steps_l1 t n k a1 a2 a3 a4 a5 = some r → loopN (exec (env Tryz.prog 25 Tryz.f25 call) n (sub [1, 1, 0, 1, 0, 0] (bodyOf Tryz.f25))) k (mkSt 57 57 [(0, (Sl 14 (GStep.ts a1))), (1, (I6 a2)), (2, (I6 a3)), (7, (I6 a4)), (8, (I6 a5))] []) = some (ref12_steps_l1.to r)
 | 0, a1, a2, a3, a4, a5, r, h => by rw [ref12_steps_l1] at h; cases h
 | k + 1, a1, a2, a3, a4, a5, r, h => by
  rw [ref12_steps_l1] at h
  rcases fk h with ⟨h1, h⟩ | ⟨h1, h⟩
  ·rcases fk h with ⟨h2, h⟩ | ⟨h2, h⟩
   ·obtain ⟨⟨a6, a7, a8, a9, a10⟩, h3, h⟩ := sm h
    exact loop_more (path (ob_v (len_ts GStep.ts_map (l := a1)) (ob_b4 h1 (ob_b h2 (ob_j (ref12_steps_j2.ok ht n _ _ _ _ _ _ h3) ob)))) (by kernel_rfl)) (ref12_steps_l1.okL ht n k _ _ _ _ _ _ h)
   ·cases h
    exact loop_out (path (ob_v (len_ts GStep.ts_map (l := a1)) (ob_b4 h1 (ob_b h2 ob))) (by kernel_rfl)) (fun h => by cases h)
  ·cases h
   exact loop_out (path (ob_v (len_ts GStep.ts_map (l := a1)) (ob_b4 h1 (ob_b (rfl : false = false) ob))) (by kernel_rfl)) (fun h => by cases h)
theorem ref12_steps.ok {n : Nat} {t : Tab} (ht : TabOk t (run Tryz.prog own kp X n)) : ∀ (p1 : List GStep) (p2 : Int) (p3 : Int) r, ref12_steps t n p1 p2 p3 = some r → run Tryz.prog own kp X (n + 1) 25 [(Sl 14 (GStep.ts p1)), (I6 p2), (I6 p3)] [] = some ((I6 r), []) := by
 intro p1 p2 p3 r h
 obtain ⟨a1, rfl⟩ : ∃ z_, z_ = p1 := ⟨_, rfl⟩
 obtain ⟨a2, rfl⟩ : ∃ z_, z_ = p2 := ⟨_, rfl⟩
 obtain ⟨a3, rfl⟩ : ∃ z_, z_ = p3 := ⟨_, rfl⟩
 rw [ref12_steps] at h
 obtain ⟨⟨a4, a5, a6, a7, a8, a9⟩, h1, h⟩ := sm h
 cases h
 exact run_path Tryz.func25 (ob_k (lk (sub [1, 1, 0, 1, 0] (bodyOf Tryz.f25)) (by kernel_rfl) (ref12_steps_l1.okL ht n n _ _ _ _ _ _ h1)) ob) (by kernel_rfl)
theorem ref12_own_j6.ok (ht : TabOk t call) (n : Nat) (a1 a2 a3 a4 : Int) (a5 : Bool) (a6 : ByteArray) (a7 : Bool) (a8 : Int) (a9 : List ByteArray) (a10 : List Int) (a11 a12 : Int) (a13 : ByteArray) (a14 a15 : List GValue) (a16 : Int) (a17 : List GValue) (a18 : List GPred) (a19 : List (List GStep)) (a20 : List GBy) (a21 : List ByteArray) (r : _) (h : ref12_own_j6 t n a1 a2 a3 a4 a5 a6 a7 a8 a9 a10 a11 a12 a13 a14 a15 a16 a17 a18 a19 a20 a21 = some r) : exec (env Tryz.prog 54 Tryz.f54 call) n (sub [1, 1, 1, 1, 1, 1, 0, 1, 0, 1, 1, 1, 1, 1, 1, 1, 1, 1, 1, 1, 1, 1, 1, 1, 1, 1, 1, 1] (bodyOf Tryz.f54)) (mkSt 312 312 [(1, (.ptr 1 0 [] 0)), (3, (I6 a1)), (4, (I6 a2)), (5, (I6 a3)), (6, (I6 a4)), (7, (Bo a5)), (30, (Sr a6)), (178, (Bo a7))] [(1, (.t (.st [(.v (.int .i64 a8)), (.sl false 1 (texts a9)), (.sl false 1 (ints_i64 a10)), (.st [(.v (.int .i64 a11)), (.v (.int .i64 a12)), (.v (.string a13)), (.sl false 5 (GValue.ts a14)), (.sl false 5 (GValue.ts a15))]), (.st [(.v (.int .i64 a16)), (.sl false 5 (GValue.ts a17)), (.sl false 3 (GPred.ts a18))]), (.sl false 1 (rows_GStep_ts a19)), (.sl false 4 (GBy.ts a20)), (.sl false 1 (texts a21))])))]) = some (ref12_own_j6.to r) := by
 rw [ref12_own_j6] at h
 rcases fk h with ⟨h1, h⟩ | ⟨h1, h⟩
 ·rcases fk h with ⟨h2, h⟩ | ⟨h2, h⟩
  ·rcases fk h with ⟨h3, h⟩ | ⟨h3, h⟩
   ·cases h
    exact path (ob_b h1 (ob_b3 h2 (ob_b4 h3 (ob_b3 h3 ob)))) (by kernel_rfl)
   ·cases h
    exact path (ob_b h1 (ob_b3 h2 (ob_b4 h3 (ob_b3 h3 ob)))) (by kernel_rfl)
  ·cases h
   exact path (ob_b h1 (ob_b3 h2 (ob_b4 (rfl : false = false) (ob_b3 (rfl : false = false) ob)))) (by kernel_rfl)
 ·rcases fk h with ⟨h4, h⟩ | ⟨h4, h⟩
  ·rcases fk h with ⟨h5, h⟩ | ⟨h5, h⟩
   ·cases h
    exact path (ob_b h1 (ob_b h4 (ob_b4 h5 (ob_b3 h5 ob)))) (by kernel_rfl)
   ·cases h
    exact path (ob_b h1 (ob_b h4 (ob_b4 h5 (ob_b3 h5 ob)))) (by kernel_rfl)
  ·have o2 {os} (x : Obls (env Tryz.prog 54 Tryz.f54 call) n os) := ob_b h1 (ob_b h4 x)
   rcases fk h with ⟨h6, h⟩ | ⟨h6, h⟩
   ·rcases fk h with ⟨h7, h⟩ | ⟨h7, h⟩
    ·have o6 {os} (x : Obls (env Tryz.prog 54 Tryz.f54 call) n os) := o2 (ob_b h6 (ob_b3 h7 x))
     rcases fk h with ⟨h8, h⟩ | ⟨h8, h⟩
     ·obtain ⟨h9, h⟩ := ck h
      obtain ⟨a22, h10, h⟩ := sm h
      have o14 {os} (x : Obls (env Tryz.prog 54 Tryz.f54 call) n os) := o6 (ob_b3 h8 (ob_n h9 (ob_t (look_ts ints_i64_map h10) (ob_b3 h8 x))))
      rcases fk h with ⟨h11, h⟩ | ⟨h11, h⟩
      ·obtain ⟨h12, h⟩ := ck h
       obtain ⟨a23, h13, h⟩ := sm h
       have o22 {os} (x : Obls (env Tryz.prog 54 Tryz.f54 call) n os) := o14 (ob_b3 h11 (ob_n h12 (ob_t (look_ts ints_i64_map h13) (ob_b3 h11 x))))
       rcases fk h with ⟨h14, h⟩ | ⟨h14, h⟩
       ·have o33 {os} (x : Obls (env Tryz.prog 54 Tryz.f54 call) n os) := o22 (ob_b4 h14 (ob_b h14 (ob_b h11 (ob_b h14 (ob_b h11 (ob_b3 (rfl : true = true) x))))))
        rcases fk h with ⟨h15, h⟩ | ⟨h15, h⟩
        ·cases h
         exact path (o33 (ob_b4 h15 (ob_b (rfl : true = true) (ob_b h15 (ob_b (rfl : true = true) ob))))) (by kernel_rfl)
        ·rcases fk h with ⟨h16, h⟩ | ⟨h16, h⟩
         ·cases h
          exact path (o33 (ob_b3 h15 (ob_b3 h16 (ob_n h9 (ob_t (look_ts ints_i64_map h10) (ob_b2 h16 (ob_b h15 (ob_b h16 (ob_b (rfl : true = true) (ob_b h15 (ob_b (rfl : true = true) ob))))))))))) (by kernel_rfl)
         ·cases h
          exact path (o33 (ob_b3 h15 (ob_b4 h16 (ob_b h16 (ob_b h15 (ob_b h16 (ob_b (rfl : true = true) (ob_b h15 (ob_b (rfl : true = true) ob))))))))) (by kernel_rfl)
       ·have o32 {os} (x : Obls (env Tryz.prog 54 Tryz.f54 call) n os) := o22 (ob_b3 h14 (ob_n h12 (ob_t (look_ts ints_i64_map h13) (ob_b2 h14 (ob_b h11 (ob_b h14 (ob_b h11 x)))))))
        rcases fk h with ⟨h17, h⟩ | ⟨h17, h⟩
        ·rcases fk h with ⟨h18, h⟩ | ⟨h18, h⟩
         ·cases h
          exact path (o32 (ob_b3 h17 (ob_b4 h18 (ob_b h17 (ob_b h18 (ob_b h17 ob)))))) (by kernel_rfl)
         ·rcases fk h with ⟨h19, h⟩ | ⟨h19, h⟩
          ·cases h
           exact path (o32 (ob_b3 h17 (ob_b3 h18 (ob_b3 h19 (ob_n h9 (ob_t (look_ts ints_i64_map h10) (ob_b2 h19 (ob_b h18 (ob_b h19 (ob_b h17 (ob_b h18 (ob_b h17 ob)))))))))))) (by kernel_rfl)
          ·cases h
           exact path (o32 (ob_b3 h17 (ob_b3 h18 (ob_b4 h19 (ob_b h19 (ob_b h18 (ob_b h19 (ob_b h17 (ob_b h18 (ob_b h17 ob)))))))))) (by kernel_rfl)
        ·cases h
         exact path (o32 (ob_b4 h17 (ob_b h17 ob))) (by kernel_rfl)
      ·cases h
       exact path (o14 (ob_b4 h11 (ob_b4 h11 (ob_b4 (rfl : false = false) (ob_b (rfl : false = false) ob))))) (by kernel_rfl)
     ·cases h
      exact path (o6 (ob_b4 h8 (ob_b2 h8 (ob_b4 (rfl : false = false) (ob_b4 (rfl : false = false) (ob_b4 (rfl : false = false) (ob_b (rfl : false = false) ob))))))) (by kernel_rfl)
    ·cases h
     exact path (o2 (ob_b h6 (ob_b3 h7 (ob_b4 (rfl : false = false) (ob_b4 (rfl : false = false) (ob_b4 (rfl : false = false) (ob_b4 (rfl : false = false) (ob_b3 (rfl : false = false) ob)))))))) (by kernel_rfl)
   ·rcases fk h with ⟨h20, h⟩ | ⟨h20, h⟩
    ·rcases fk h with ⟨h21, h⟩ | ⟨h21, h⟩
     ·cases h
      exact path (o2 (ob_b h6 (ob_b h20 (ob_b3 h21 ob)))) (by kernel_rfl)
     ·cases h
      exact path (o2 (ob_b h6 (ob_b h20 (ob_b3 h21 ob)))) (by kernel_rfl)
    ·have o4 {os} (x : Obls (env Tryz.prog 54 Tryz.f54 call) n os) := o2 (ob_b h6 (ob_b h20 x))
     rcases fk h with ⟨h22, h⟩ | ⟨h22, h⟩
     ·rcases fk h with ⟨h23, h⟩ | ⟨h23, h⟩
      ·cases h
       exact path (o4 (ob_b h22 (ob_b3 h23 ob))) (by kernel_rfl)
      ·cases h
       exact path (o4 (ob_b h22 (ob_b3 h23 ob))) (by kernel_rfl)
     ·rcases fk h with ⟨h24, h⟩ | ⟨h24, h⟩
      ·rcases fk h with ⟨h25, h⟩ | ⟨h25, h⟩
       ·cases h
        exact path (o4 (ob_b h22 (ob_b h24 (ob_b3 h25 ob)))) (by kernel_rfl)
       ·cases h
        exact path (o4 (ob_b h22 (ob_b h24 (ob_b3 h25 ob)))) (by kernel_rfl)
      ·rcases fk h with ⟨h26, h⟩ | ⟨h26, h⟩
       ·rcases fk h with ⟨h27, h⟩ | ⟨h27, h⟩
        ·have o12 {os} (x : Obls (env Tryz.prog 54 Tryz.f54 call) n os) := o4 (ob_b h22 (ob_b h24 (ob_b h26 (ob_b4 h27 (ob_b h27 x)))))
         rcases fk h with ⟨h28, h⟩ | ⟨h28, h⟩
         ·rcases fk h with ⟨h29, h⟩ | ⟨h29, h⟩
          ·obtain ⟨a24, h30, h⟩ := sm h
           cases h
           exact path (o12 (ob_b4 h28 (ob_b3 h29 (ob_c (ht.ref12_once _ _ h30) (ob_b h29 ob))))) (by kernel_rfl)
          ·cases h
           exact path (o12 (ob_b4 h28 (ob_b4 h29 ob))) (by kernel_rfl)
         ·cases h
          exact path (o12 (ob_b4 h28 (ob_b4 (rfl : false = false) ob))) (by kernel_rfl)
        ·cases h
         exact path (o4 (ob_b h22 (ob_b h24 (ob_b h26 (ob_b4 h27 (ob_b h27 (ob_b4 (rfl : false = false) (ob_b4 (rfl : false = false) ob)))))))) (by kernel_rfl)
       ·cases h
        exact path (o4 (ob_b h22 (ob_b h24 (ob_b h26 ob)))) (by kernel_rfl)
theorem ref12_own_j5.ok (ht : TabOk t call) (n : Nat) (a1 a2 a3 a4 : Int) (a5 : Bool) (a6 : ByteArray) (a7 : Bool) (a8 : Int) (a9 : List ByteArray) (a10 : List Int) (a11 a12 : Int) (a13 : ByteArray) (a14 a15 : List GValue) (a16 : Int) (a17 : List GValue) (a18 : List GPred) (a19 : List (List GStep)) (a20 : List GBy) (a21 : List ByteArray) (r : _) (h : ref12_own_j5 t n a1 a2 a3 a4 a5 a6 a7 a8 a9 a10 a11 a12 a13 a14 a15 a16 a17 a18 a19 a20 a21 = some r) : exec (env Tryz.prog 54 Tryz.f54 call) n (sub [1, 1, 1, 1, 1, 1, 0, 1, 0, 1, 1, 1, 1, 1, 1, 1, 1, 1, 1, 1, 1, 1, 1, 1, 1, 1] (bodyOf Tryz.f54)) (mkSt 312 312 [(1, (.ptr 1 0 [] 0)), (3, (I6 a1)), (4, (I6 a2)), (5, (I6 a3)), (6, (I6 a4)), (7, (Bo a5)), (30, (Sr a6)), (164, (Bo a7))] [(1, (.t (.st [(.v (.int .i64 a8)), (.sl false 1 (texts a9)), (.sl false 1 (ints_i64 a10)), (.st [(.v (.int .i64 a11)), (.v (.int .i64 a12)), (.v (.string a13)), (.sl false 5 (GValue.ts a14)), (.sl false 5 (GValue.ts a15))]), (.st [(.v (.int .i64 a16)), (.sl false 5 (GValue.ts a17)), (.sl false 3 (GPred.ts a18))]), (.sl false 1 (rows_GStep_ts a19)), (.sl false 4 (GBy.ts a20)), (.sl false 1 (texts a21))])))]) = some (ref12_own_j5.to r) := by
 rw [ref12_own_j5] at h
 rcases fk h with ⟨h1, h⟩ | ⟨h1, h⟩
 ·rcases fk h with ⟨h2, h⟩ | ⟨h2, h⟩
  ·cases h
   exact path (ob_b h1 (ob_b4 h2 (ob_b3 h2 ob))) (by kernel_rfl)
  ·cases h
   exact path (ob_b h1 (ob_b4 h2 (ob_b3 h2 ob))) (by kernel_rfl)
 ·rcases fk h with ⟨h3, h⟩ | ⟨h3, h⟩
  ·have h4 := h
   rcases r with a22 | a23
   ·exact path (ob_b h1 (ob_b h3 (ob_j (ref12_own_j6.ok ht n _ _ _ _ _ _ _ _ _ _ _ _ _ _ _ _ _ _ _ _ _ _ h4) ob))) (by kernel_rfl)
   ·exact path (ob_b h1 (ob_b h3 (ob_j (ref12_own_j6.ok ht n _ _ _ _ _ _ _ _ _ _ _ _ _ _ _ _ _ _ _ _ _ _ h4) ob))) (by kernel_rfl)
  ·rcases fk h with ⟨h5, h⟩ | ⟨h5, h⟩
   ·have h6 := h
    rcases r with a24 | a25
    ·exact path (ob_b h1 (ob_b h3 (ob_b h5 (ob_j (ref12_own_j6.ok ht n _ _ _ _ _ _ _ _ _ _ _ _ _ _ _ _ _ _ _ _ _ _ h6) ob)))) (by kernel_rfl)
    ·exact path (ob_b h1 (ob_b h3 (ob_b h5 (ob_j (ref12_own_j6.ok ht n _ _ _ _ _ _ _ _ _ _ _ _ _ _ _ _ _ _ _ _ _ _ h6) ob)))) (by kernel_rfl)
   ·rcases fk h with ⟨h7, h⟩ | ⟨h7, h⟩
    ·have h8 := h
     rcases r with a26 | a27
     ·exact path (ob_b h1 (ob_b h3 (ob_b h5 (ob_b h7 (ob_j (ref12_own_j6.ok ht n _ _ _ _ _ _ _ _ _ _ _ _ _ _ _ _ _ _ _ _ _ _ h8) ob))))) (by kernel_rfl)
     ·exact path (ob_b h1 (ob_b h3 (ob_b h5 (ob_b h7 (ob_j (ref12_own_j6.ok ht n _ _ _ _ _ _ _ _ _ _ _ _ _ _ _ _ _ _ _ _ _ _ h8) ob))))) (by kernel_rfl)
    ·have h9 := h
     rcases r with a28 | a29
     ·exact path (ob_b h1 (ob_b h3 (ob_b h5 (ob_b h7 (ob_j (ref12_own_j6.ok ht n _ _ _ _ _ _ _ _ _ _ _ _ _ _ _ _ _ _ _ _ _ _ h9) ob))))) (by kernel_rfl)
     ·exact path (ob_b h1 (ob_b h3 (ob_b h5 (ob_b h7 (ob_j (ref12_own_j6.ok ht n _ _ _ _ _ _ _ _ _ _ _ _ _ _ _ _ _ _ _ _ _ _ h9) ob))))) (by kernel_rfl)
theorem ref12_own_j4.ok (ht : TabOk t call) (n : Nat) (a1 a2 a3 a4 : Int) (a5 : Bool) (a6 : ByteArray) (a7 : Bool) (a8 : Int) (a9 : List ByteArray) (a10 : List Int) (a11 a12 : Int) (a13 : ByteArray) (a14 a15 : List GValue) (a16 : Int) (a17 : List GValue) (a18 : List GPred) (a19 : List (List GStep)) (a20 : List GBy) (a21 : List ByteArray) (r : _) (h : ref12_own_j4 t n a1 a2 a3 a4 a5 a6 a7 a8 a9 a10 a11 a12 a13 a14 a15 a16 a17 a18 a19 a20 a21 = some r) : exec (env Tryz.prog 54 Tryz.f54 call) n (sub [1, 1, 1, 1, 1, 1, 0, 1, 0, 1, 1, 1, 1, 1, 1, 1, 1, 1] (bodyOf Tryz.f54)) (mkSt 312 312 [(1, (.ptr 1 0 [] 0)), (3, (I6 a1)), (4, (I6 a2)), (5, (I6 a3)), (6, (I6 a4)), (7, (Bo a5)), (30, (Sr a6)), (78, (Bo a7))] [(1, (.t (.st [(.v (.int .i64 a8)), (.sl false 1 (texts a9)), (.sl false 1 (ints_i64 a10)), (.st [(.v (.int .i64 a11)), (.v (.int .i64 a12)), (.v (.string a13)), (.sl false 5 (GValue.ts a14)), (.sl false 5 (GValue.ts a15))]), (.st [(.v (.int .i64 a16)), (.sl false 5 (GValue.ts a17)), (.sl false 3 (GPred.ts a18))]), (.sl false 1 (rows_GStep_ts a19)), (.sl false 4 (GBy.ts a20)), (.sl false 1 (texts a21))])))]) = some (ref12_own_j4.to r) := by
 rw [ref12_own_j4] at h
 rcases fk h with ⟨h1, h⟩ | ⟨h1, h⟩
 ·rcases fk h with ⟨h2, h⟩ | ⟨h2, h⟩
  ·cases h
   exact path (ob_b h1 (ob_b4 h2 (ob_b3 h2 ob))) (by kernel_rfl)
  ·cases h
   exact path (ob_b h1 (ob_b4 h2 (ob_b3 h2 ob))) (by kernel_rfl)
 ·rcases fk h with ⟨h3, h⟩ | ⟨h3, h⟩
  ·rcases fk h with ⟨h4, h⟩ | ⟨h4, h⟩
   ·rcases fk h with ⟨h5, h⟩ | ⟨h5, h⟩
    ·cases h
     exact path (ob_b h1 (ob_b h3 (ob_b3 h4 (ob_b4 h5 (ob_b3 h5 ob))))) (by kernel_rfl)
    ·cases h
     exact path (ob_b h1 (ob_b h3 (ob_b3 h4 (ob_b4 h5 (ob_b3 h5 ob))))) (by kernel_rfl)
   ·cases h
    exact path (ob_b h1 (ob_b h3 (ob_b3 h4 (ob_b4 (rfl : false = false) (ob_b3 (rfl : false = false) ob))))) (by kernel_rfl)
  ·have o2 {os} (x : Obls (env Tryz.prog 54 Tryz.f54 call) n os) := ob_b h1 (ob_b h3 x)
   rcases fk h with ⟨h6, h⟩ | ⟨h6, h⟩
   ·rcases fk h with ⟨h7, h⟩ | ⟨h7, h⟩
    ·have o10 {os} (x : Obls (env Tryz.prog 54 Tryz.f54 call) n os) := o2 (ob_b h6 (ob_b4 h7 (ob_b3 h7 x)))
     rcases fk h with ⟨h8, h⟩ | ⟨h8, h⟩
     ·obtain ⟨h9, h⟩ := ck h
      obtain ⟨a22, h10, h⟩ := sm h
      have o18 {os} (x : Obls (env Tryz.prog 54 Tryz.f54 call) n os) := o10 (ob_b3 h8 (ob_n h9 (ob_t (look_ts ints_i64_map h10) (ob_b3 h8 x))))
      rcases fk h with ⟨h11, h⟩ | ⟨h11, h⟩
      ·obtain ⟨h12, h⟩ := ck h
       obtain ⟨a23, h13, h⟩ := sm h
       rcases fk h with ⟨h14, h⟩ | ⟨h14, h⟩
       ·cases h
        exact path (o18 (ob_b3 h11 (ob_n h12 (ob_t (look_ts ints_i64_map h13) (ob_b3 h11 (ob_b4 h14 (ob_b4 h14 (ob_b h14 (ob_b h11 (ob_b h14 (ob_b h11 ob))))))))))) (by kernel_rfl)
       ·cases h
        exact path (o18 (ob_b3 h11 (ob_n h12 (ob_t (look_ts ints_i64_map h13) (ob_b3 h11 (ob_b3 h14 (ob_n h9 (ob_t (look_ts ints_i64_map h10) (ob_b4 h14 (ob_n h12 (ob_t (look_ts ints_i64_map h13) (ob_b2 h14 (ob_b h11 (ob_b h14 (ob_b h11 ob))))))))))))))) (by kernel_rfl)
      ·cases h
       exact path (o18 (ob_b4 h11 (ob_b4 h11 ob))) (by kernel_rfl)
     ·cases h
      exact path (o10 (ob_b4 h8 (ob_b2 h8 (ob_b4 (rfl : false = false) (ob_b4 (rfl : false = false) ob))))) (by kernel_rfl)
    ·cases h
     exact path (o2 (ob_b h6 (ob_b4 h7 (ob_b3 h7 (ob_b4 (rfl : false = false) (ob_b4 (rfl : false = false) (ob_b4 (rfl : false = false) (ob_b2 (rfl : false = false) ob)))))))) (by kernel_rfl)
   ·rcases fk h with ⟨h15, h⟩ | ⟨h15, h⟩
    ·rcases fk h with ⟨h16, h⟩ | ⟨h16, h⟩
     ·rcases fk h with ⟨h17, h⟩ | ⟨h17, h⟩
      ·obtain ⟨a24, h18, h⟩ := sm h
       cases h
       exact path (o2 (ob_b h6 (ob_b h15 (ob_b4 h16 (ob_b3 h16 (ob_b3 h17 (ob_c (ht.ref12_low _ _ h18) (ob_b h17 ob)))))))) (by kernel_rfl)
      ·cases h
       exact path (o2 (ob_b h6 (ob_b h15 (ob_b4 h16 (ob_b3 h16 (ob_b4 h17 ob)))))) (by kernel_rfl)
     ·cases h
      exact path (o2 (ob_b h6 (ob_b h15 (ob_b4 h16 (ob_b3 h16 (ob_b4 (rfl : false = false) ob)))))) (by kernel_rfl)
    ·rcases fk h with ⟨h19, h⟩ | ⟨h19, h⟩
     ·have h20 := h
      rcases r with a25 | a26
      ·exact path (o2 (ob_b h6 (ob_b h15 (ob_b h19 (ob_j (ref12_own_j5.ok ht n _ _ _ _ _ _ _ _ _ _ _ _ _ _ _ _ _ _ _ _ _ _ h20) ob))))) (by kernel_rfl)
      ·exact path (o2 (ob_b h6 (ob_b h15 (ob_b h19 (ob_j (ref12_own_j5.ok ht n _ _ _ _ _ _ _ _ _ _ _ _ _ _ _ _ _ _ _ _ _ _ h20) ob))))) (by kernel_rfl)
     ·rcases fk h with ⟨h21, h⟩ | ⟨h21, h⟩
      ·have h22 := h
       rcases r with a27 | a28
       ·exact path (o2 (ob_b h6 (ob_b h15 (ob_b h19 (ob_b h21 (ob_j (ref12_own_j5.ok ht n _ _ _ _ _ _ _ _ _ _ _ _ _ _ _ _ _ _ _ _ _ _ h22) ob)))))) (by kernel_rfl)
       ·exact path (o2 (ob_b h6 (ob_b h15 (ob_b h19 (ob_b h21 (ob_j (ref12_own_j5.ok ht n _ _ _ _ _ _ _ _ _ _ _ _ _ _ _ _ _ _ _ _ _ _ h22) ob)))))) (by kernel_rfl)
      ·have h23 := h
       rcases r with a29 | a30
       ·exact path (o2 (ob_b h6 (ob_b h15 (ob_b h19 (ob_b h21 (ob_j (ref12_own_j5.ok ht n _ _ _ _ _ _ _ _ _ _ _ _ _ _ _ _ _ _ _ _ _ _ h23) ob)))))) (by kernel_rfl)
       ·exact path (o2 (ob_b h6 (ob_b h15 (ob_b h19 (ob_b h21 (ob_j (ref12_own_j5.ok ht n _ _ _ _ _ _ _ _ _ _ _ _ _ _ _ _ _ _ _ _ _ _ h23) ob)))))) (by kernel_rfl)
theorem ref12_own_j3.ok (ht : TabOk t call) (n : Nat) (a1 a2 a3 a4 : Int) (a5 : Bool) (a6 : ByteArray) (a7 : Bool) (a8 : Int) (a9 : List ByteArray) (a10 : List Int) (a11 a12 : Int) (a13 : ByteArray) (a14 a15 : List GValue) (a16 : Int) (a17 : List GValue) (a18 : List GPred) (a19 : List (List GStep)) (a20 : List GBy) (a21 : List ByteArray) (r : _) (h : ref12_own_j3 t n a1 a2 a3 a4 a5 a6 a7 a8 a9 a10 a11 a12 a13 a14 a15 a16 a17 a18 a19 a20 a21 = some r) : exec (env Tryz.prog 54 Tryz.f54 call) n (sub [1, 1, 1, 1, 1, 1, 0, 1, 0, 1, 1, 1, 1, 1, 1, 1] (bodyOf Tryz.f54)) (mkSt 312 312 [(1, (.ptr 1 0 [] 0)), (3, (I6 a1)), (4, (I6 a2)), (5, (I6 a3)), (6, (I6 a4)), (7, (Bo a5)), (30, (Sr a6)), (65, (Bo a7))] [(1, (.t (.st [(.v (.int .i64 a8)), (.sl false 1 (texts a9)), (.sl false 1 (ints_i64 a10)), (.st [(.v (.int .i64 a11)), (.v (.int .i64 a12)), (.v (.string a13)), (.sl false 5 (GValue.ts a14)), (.sl false 5 (GValue.ts a15))]), (.st [(.v (.int .i64 a16)), (.sl false 5 (GValue.ts a17)), (.sl false 3 (GPred.ts a18))]), (.sl false 1 (rows_GStep_ts a19)), (.sl false 4 (GBy.ts a20)), (.sl false 1 (texts a21))])))]) = some (ref12_own_j3.to r) := by
 rw [ref12_own_j3] at h
 rcases fk h with ⟨h1, h⟩ | ⟨h1, h⟩
 ·rcases fk h with ⟨h2, h⟩ | ⟨h2, h⟩
  ·cases h
   exact path (ob_b h1 (ob_b4 h2 (ob_b3 h2 ob))) (by kernel_rfl)
  ·cases h
   exact path (ob_b h1 (ob_b4 h2 (ob_b3 h2 ob))) (by kernel_rfl)
 ·rcases fk h with ⟨h3, h⟩ | ⟨h3, h⟩
  ·have h4 := h
   rcases r with a22 | a23
   ·exact path (ob_b h1 (ob_b h3 (ob_j (ref12_own_j4.ok ht n _ _ _ _ _ _ _ _ _ _ _ _ _ _ _ _ _ _ _ _ _ _ h4) ob))) (by kernel_rfl)
   ·exact path (ob_b h1 (ob_b h3 (ob_j (ref12_own_j4.ok ht n _ _ _ _ _ _ _ _ _ _ _ _ _ _ _ _ _ _ _ _ _ _ h4) ob))) (by kernel_rfl)
  ·rcases fk h with ⟨h5, h⟩ | ⟨h5, h⟩
   ·have h6 := h
    rcases r with a24 | a25
    ·exact path (ob_b h1 (ob_b h3 (ob_b h5 (ob_j (ref12_own_j4.ok ht n _ _ _ _ _ _ _ _ _ _ _ _ _ _ _ _ _ _ _ _ _ _ h6) ob)))) (by kernel_rfl)
    ·exact path (ob_b h1 (ob_b h3 (ob_b h5 (ob_j (ref12_own_j4.ok ht n _ _ _ _ _ _ _ _ _ _ _ _ _ _ _ _ _ _ _ _ _ _ h6) ob)))) (by kernel_rfl)
   ·rcases fk h with ⟨h7, h⟩ | ⟨h7, h⟩
    ·have h8 := h
     rcases r with a26 | a27
     ·exact path (ob_b h1 (ob_b h3 (ob_b h5 (ob_b h7 (ob_j (ref12_own_j4.ok ht n _ _ _ _ _ _ _ _ _ _ _ _ _ _ _ _ _ _ _ _ _ _ h8) ob))))) (by kernel_rfl)
     ·exact path (ob_b h1 (ob_b h3 (ob_b h5 (ob_b h7 (ob_j (ref12_own_j4.ok ht n _ _ _ _ _ _ _ _ _ _ _ _ _ _ _ _ _ _ _ _ _ _ h8) ob))))) (by kernel_rfl)
    ·rcases fk h with ⟨h9, h⟩ | ⟨h9, h⟩
     ·have h10 := h
      rcases r with a28 | a29
      ·exact path (ob_b h1 (ob_b h3 (ob_b h5 (ob_b h7 (ob_b h9 (ob_j (ref12_own_j4.ok ht n _ _ _ _ _ _ _ _ _ _ _ _ _ _ _ _ _ _ _ _ _ _ h10) ob)))))) (by kernel_rfl)
      ·exact path (ob_b h1 (ob_b h3 (ob_b h5 (ob_b h7 (ob_b h9 (ob_j (ref12_own_j4.ok ht n _ _ _ _ _ _ _ _ _ _ _ _ _ _ _ _ _ _ _ _ _ _ h10) ob)))))) (by kernel_rfl)
     ·have h11 := h
      rcases r with a30 | a31
      ·exact path (ob_b h1 (ob_b h3 (ob_b h5 (ob_b h7 (ob_b h9 (ob_j (ref12_own_j4.ok ht n _ _ _ _ _ _ _ _ _ _ _ _ _ _ _ _ _ _ _ _ _ _ h11) ob)))))) (by kernel_rfl)
      ·exact path (ob_b h1 (ob_b h3 (ob_b h5 (ob_b h7 (ob_b h9 (ob_j (ref12_own_j4.ok ht n _ _ _ _ _ _ _ _ _ _ _ _ _ _ _ _ _ _ _ _ _ _ h11) ob)))))) (by kernel_rfl)
theorem ref12_own_j2.ok (ht : TabOk t call) (n : Nat) (a1 a2 a3 a4 : Int) (a5 : Bool) (a6 : ByteArray) (a7 : Bool) (a8 : Int) (a9 : List ByteArray) (a10 : List Int) (a11 a12 : Int) (a13 : ByteArray) (a14 a15 : List GValue) (a16 : Int) (a17 : List GValue) (a18 : List GPred) (a19 : List (List GStep)) (a20 : List GBy) (a21 : List ByteArray) (r : _) (h : ref12_own_j2 t n a1 a2 a3 a4 a5 a6 a7 a8 a9 a10 a11 a12 a13 a14 a15 a16 a17 a18 a19 a20 a21 = some r) : exec (env Tryz.prog 54 Tryz.f54 call) n (sub [1, 1, 1, 1, 1, 1, 0, 1, 0, 1, 1, 1, 1, 1] (bodyOf Tryz.f54)) (mkSt 312 312 [(1, (.ptr 1 0 [] 0)), (3, (I6 a1)), (4, (I6 a2)), (5, (I6 a3)), (6, (I6 a4)), (7, (Bo a5)), (30, (Sr a6)), (51, (Bo a7))] [(1, (.t (.st [(.v (.int .i64 a8)), (.sl false 1 (texts a9)), (.sl false 1 (ints_i64 a10)), (.st [(.v (.int .i64 a11)), (.v (.int .i64 a12)), (.v (.string a13)), (.sl false 5 (GValue.ts a14)), (.sl false 5 (GValue.ts a15))]), (.st [(.v (.int .i64 a16)), (.sl false 5 (GValue.ts a17)), (.sl false 3 (GPred.ts a18))]), (.sl false 1 (rows_GStep_ts a19)), (.sl false 4 (GBy.ts a20)), (.sl false 1 (texts a21))])))]) = some (ref12_own_j2.to r) := by
 rw [ref12_own_j2] at h
 rcases fk h with ⟨h1, h⟩ | ⟨h1, h⟩
 ·cases h
  exact path (ob_b h1 ob) (by kernel_rfl)
 ·rcases fk h with ⟨h2, h⟩ | ⟨h2, h⟩
  ·have h3 := h
   rcases r with a22 | a23
   ·exact path (ob_b h1 (ob_b h2 (ob_j (ref12_own_j3.ok ht n _ _ _ _ _ _ _ _ _ _ _ _ _ _ _ _ _ _ _ _ _ _ h3) ob))) (by kernel_rfl)
   ·exact path (ob_b h1 (ob_b h2 (ob_j (ref12_own_j3.ok ht n _ _ _ _ _ _ _ _ _ _ _ _ _ _ _ _ _ _ _ _ _ _ h3) ob))) (by kernel_rfl)
  ·have h4 := h
   rcases r with a24 | a25
   ·exact path (ob_b h1 (ob_b h2 (ob_j (ref12_own_j3.ok ht n _ _ _ _ _ _ _ _ _ _ _ _ _ _ _ _ _ _ _ _ _ _ h4) ob))) (by kernel_rfl)
   ·exact path (ob_b h1 (ob_b h2 (ob_j (ref12_own_j3.ok ht n _ _ _ _ _ _ _ _ _ _ _ _ _ _ _ _ _ _ _ _ _ _ h4) ob))) (by kernel_rfl)
theorem ref12_own_j1.ok (ht : TabOk t call) (n : Nat) (a1 a2 a3 a4 : Int) (a5 : Bool) (a6 : ByteArray) (a7 : Bool) (a8 : Int) (a9 : List ByteArray) (a10 : List Int) (a11 a12 : Int) (a13 : ByteArray) (a14 a15 : List GValue) (a16 : Int) (a17 : List GValue) (a18 : List GPred) (a19 : List (List GStep)) (a20 : List GBy) (a21 : List ByteArray) (r : _) (h : ref12_own_j1 t n a1 a2 a3 a4 a5 a6 a7 a8 a9 a10 a11 a12 a13 a14 a15 a16 a17 a18 a19 a20 a21 = some r) : exec (env Tryz.prog 54 Tryz.f54 call) n (sub [1, 1, 1, 1, 1, 1, 0, 1, 0, 1, 1, 1] (bodyOf Tryz.f54)) (mkSt 312 312 [(1, (.ptr 1 0 [] 0)), (3, (I6 a1)), (4, (I6 a2)), (5, (I6 a3)), (6, (I6 a4)), (7, (Bo a5)), (30, (Sr a6)), (33, (Bo a7))] [(1, (.t (.st [(.v (.int .i64 a8)), (.sl false 1 (texts a9)), (.sl false 1 (ints_i64 a10)), (.st [(.v (.int .i64 a11)), (.v (.int .i64 a12)), (.v (.string a13)), (.sl false 5 (GValue.ts a14)), (.sl false 5 (GValue.ts a15))]), (.st [(.v (.int .i64 a16)), (.sl false 5 (GValue.ts a17)), (.sl false 3 (GPred.ts a18))]), (.sl false 1 (rows_GStep_ts a19)), (.sl false 4 (GBy.ts a20)), (.sl false 1 (texts a21))])))]) = some (ref12_own_j1.to r) := by
 rw [ref12_own_j1] at h
 rcases fk h with ⟨h1, h⟩ | ⟨h1, h⟩
 ·rcases fk h with ⟨h2, h⟩ | ⟨h2, h⟩
  ·rcases fk h with ⟨h3, h⟩ | ⟨h3, h⟩
   ·obtain ⟨a22, h4, h⟩ := sm h
    cases h
    exact path (ob_b h1 (ob_b3 h2 (ob_b3 h3 (ob_c (ht.ref12_low _ _ h4) (ob_b h3 ob))))) (by kernel_rfl)
   ·cases h
    exact path (ob_b h1 (ob_b3 h2 (ob_b4 h3 ob))) (by kernel_rfl)
  ·cases h
   exact path (ob_b h1 (ob_b3 h2 (ob_b4 (rfl : false = false) ob))) (by kernel_rfl)
 ·rcases fk h with ⟨h5, h⟩ | ⟨h5, h⟩
  ·have h6 := h
   rcases r with a23 | a24
   ·exact path (ob_b h1 (ob_b h5 (ob_j (ref12_own_j2.ok ht n _ _ _ _ _ _ _ _ _ _ _ _ _ _ _ _ _ _ _ _ _ _ h6) ob))) (by kernel_rfl)
   ·exact path (ob_b h1 (ob_b h5 (ob_j (ref12_own_j2.ok ht n _ _ _ _ _ _ _ _ _ _ _ _ _ _ _ _ _ _ _ _ _ _ h6) ob))) (by kernel_rfl)
  ·have o2 {os} (x : Obls (env Tryz.prog 54 Tryz.f54 call) n os) := ob_b h1 (ob_b h5 x)
   rcases fk h with ⟨h7, h⟩ | ⟨h7, h⟩
   ·have h8 := h
    rcases r with a25 | a26
    ·exact path (o2 (ob_b h7 (ob_j (ref12_own_j2.ok ht n _ _ _ _ _ _ _ _ _ _ _ _ _ _ _ _ _ _ _ _ _ _ h8) ob))) (by kernel_rfl)
    ·exact path (o2 (ob_b h7 (ob_j (ref12_own_j2.ok ht n _ _ _ _ _ _ _ _ _ _ _ _ _ _ _ _ _ _ _ _ _ _ h8) ob))) (by kernel_rfl)
   ·rcases fk h with ⟨h9, h⟩ | ⟨h9, h⟩
    ·have h10 := h
     rcases r with a27 | a28
     ·exact path (o2 (ob_b h7 (ob_b h9 (ob_j (ref12_own_j2.ok ht n _ _ _ _ _ _ _ _ _ _ _ _ _ _ _ _ _ _ _ _ _ _ h10) ob)))) (by kernel_rfl)
     ·exact path (o2 (ob_b h7 (ob_b h9 (ob_j (ref12_own_j2.ok ht n _ _ _ _ _ _ _ _ _ _ _ _ _ _ _ _ _ _ _ _ _ _ h10) ob)))) (by kernel_rfl)
    ·rcases fk h with ⟨h11, h⟩ | ⟨h11, h⟩
     ·have h12 := h
      rcases r with a29 | a30
      ·exact path (o2 (ob_b h7 (ob_b h9 (ob_b h11 (ob_j (ref12_own_j2.ok ht n _ _ _ _ _ _ _ _ _ _ _ _ _ _ _ _ _ _ _ _ _ _ h12) ob))))) (by kernel_rfl)
      ·exact path (o2 (ob_b h7 (ob_b h9 (ob_b h11 (ob_j (ref12_own_j2.ok ht n _ _ _ _ _ _ _ _ _ _ _ _ _ _ _ _ _ _ _ _ _ _ h12) ob))))) (by kernel_rfl)
     ·rcases fk h with ⟨h13, h⟩ | ⟨h13, h⟩
      ·have h14 := h
       rcases r with a31 | a32
       ·exact path (o2 (ob_b h7 (ob_b h9 (ob_b h11 (ob_b h13 (ob_j (ref12_own_j2.ok ht n _ _ _ _ _ _ _ _ _ _ _ _ _ _ _ _ _ _ _ _ _ _ h14) ob)))))) (by kernel_rfl)
       ·exact path (o2 (ob_b h7 (ob_b h9 (ob_b h11 (ob_b h13 (ob_j (ref12_own_j2.ok ht n _ _ _ _ _ _ _ _ _ _ _ _ _ _ _ _ _ _ _ _ _ _ h14) ob)))))) (by kernel_rfl)
      ·rcases fk h with ⟨h15, h⟩ | ⟨h15, h⟩
       ·have h16 := h
        rcases r with a33 | a34
        ·exact path (o2 (ob_b h7 (ob_b h9 (ob_b h11 (ob_b h13 (ob_b h15 (ob_j (ref12_own_j2.ok ht n _ _ _ _ _ _ _ _ _ _ _ _ _ _ _ _ _ _ _ _ _ _ h16) ob))))))) (by kernel_rfl)
        ·exact path (o2 (ob_b h7 (ob_b h9 (ob_b h11 (ob_b h13 (ob_b h15 (ob_j (ref12_own_j2.ok ht n _ _ _ _ _ _ _ _ _ _ _ _ _ _ _ _ _ _ _ _ _ _ h16) ob))))))) (by kernel_rfl)
       ·have h17 := h
        rcases r with a35 | a36
        ·exact path (o2 (ob_b h7 (ob_b h9 (ob_b h11 (ob_b h13 (ob_b h15 (ob_j (ref12_own_j2.ok ht n _ _ _ _ _ _ _ _ _ _ _ _ _ _ _ _ _ _ _ _ _ _ h17) ob))))))) (by kernel_rfl)
        ·exact path (o2 (ob_b h7 (ob_b h9 (ob_b h11 (ob_b h13 (ob_b h15 (ob_j (ref12_own_j2.ok ht n _ _ _ _ _ _ _ _ _ _ _ _ _ _ _ _ _ _ _ _ _ _ h17) ob))))))) (by kernel_rfl)
theorem ref12_own.ok {n : Nat} {t : Tab} (ht : TabOk t (run Tryz.prog own kp X n)) : ∀ (p1 : GStep) r, ref12_own t n p1 = some r → run Tryz.prog own kp X (n + 1) 54 [(.t (GStep.t p1))] [] = some ((Bo r), []) := by
 intro p1 r h
 obtain ⟨a1, a2, a3, ⟨a4, a5, a6, a7, a8⟩, ⟨a9, a10, a11⟩, a12, a13, a14⟩ := p1
 rw [ref12_own] at h
 obtain ⟨a15, h1, h⟩ := sm h
 have o5 {os} (x : Obls (env Tryz.prog 54 Tryz.f54 (run Tryz.prog own kp X n)) n os) := ob_v (len_ts texts_map (l := a2)) (ob_v (len_ts ints_i64_map (l := a3)) (ob_v (len_ts rows_GStep_ts_map (l := a12)) (ob_v (len_ts GBy.ts_map (l := a13)) (ob_c (ht.ref12_Name _ _ h1) x))))
 rcases fk h with ⟨h2, h⟩ | ⟨h2, h⟩
 ·cases h
  exact run_path Tryz.func54 (o5 (ob_b h2 ob)) (by kernel_rfl)
 ·rcases fk h with ⟨h3, h⟩ | ⟨h3, h⟩
  ·obtain ⟨a16 | a17, h4, h⟩ := sm h
   ·cases h
    exact run_path Tryz.func54 (o5 (ob_b h2 (ob_b h3 (ob_j (ref12_own_j1.ok ht n _ _ _ _ _ _ _ _ _ _ _ _ _ _ _ _ _ _ _ _ _ _ h4) ob)))) (by kernel_rfl)
   ·cases h
    exact run_path Tryz.func54 (o5 (ob_b h2 (ob_b h3 (ob_j (ref12_own_j1.ok ht n _ _ _ _ _ _ _ _ _ _ _ _ _ _ _ _ _ _ _ _ _ _ h4) ob)))) (by kernel_rfl)
  ·obtain ⟨a18 | a19, h5, h⟩ := sm h
   ·cases h
    exact run_path Tryz.func54 (o5 (ob_b h2 (ob_b h3 (ob_j (ref12_own_j1.ok ht n _ _ _ _ _ _ _ _ _ _ _ _ _ _ _ _ _ _ _ _ _ _ h5) ob)))) (by kernel_rfl)
   ·cases h
    exact run_path Tryz.func54 (o5 (ob_b h2 (ob_b h3 (ob_j (ref12_own_j1.ok ht n _ _ _ _ _ _ _ _ _ _ _ _ _ _ _ _ _ _ _ _ _ _ h5) ob)))) (by kernel_rfl)
theorem ref12_named_l1.okL (ht : TabOk t call) (n : Nat) : ∀ (k : Nat) (a1 : List ByteArray) (a2 : Int) (r : _), ref12_named_l1 t n k a1 a2 = some r → loopN (exec (env Tryz.prog 55 Tryz.f55 call) n (sub [1, 0, 1, 0, 0] (bodyOf Tryz.f55))) k (mkSt 19 19 [(0, (Sl 1 (texts a1))), (3, (I6 a2))] []) = some (ref12_named_l1.to r)
 | 0, a1, a2, r, h => by rw [ref12_named_l1] at h; cases h
 | k + 1, a1, a2, r, h => by
  rw [ref12_named_l1] at h
  rcases fk h with ⟨h1, h⟩ | ⟨h1, h⟩
  ·obtain ⟨h2, h⟩ := ck h
   obtain ⟨a3, h3, h⟩ := sm h
   obtain ⟨a4, h4, h⟩ := sm h
   rcases fk h with ⟨h5, h⟩ | ⟨h5, h⟩
   ·exact loop_more (path (ob_v (len_ts texts_map (l := a1)) (ob_b h1 (ob_n h2 (ob_t (look_ts texts_map h3) (ob_c (ht.ref05_Name _ _ h4) (ob_b (congrArg (!·) h5) ob)))))) (by kernel_rfl)) (ref12_named_l1.okL ht n k _ _ _ h)
   ·cases h
    exact loop_out (path (ob_v (len_ts texts_map (l := a1)) (ob_b h1 (ob_n h2 (ob_t (look_ts texts_map h3) (ob_c (ht.ref05_Name _ _ h4) (ob_b (congrArg (!·) h5) ob)))))) (by kernel_rfl)) (fun h => by cases h)
  ·cases h
   exact loop_out (path (ob_v (len_ts texts_map (l := a1)) (ob_b h1 ob)) (by kernel_rfl)) (fun h => by cases h)
theorem ref12_named.ok {n : Nat} {t : Tab} (ht : TabOk t (run Tryz.prog own kp X n)) : ∀ (p1 : List ByteArray) r, ref12_named t n p1 = some r → run Tryz.prog own kp X (n + 1) 55 [(Sl 1 (texts p1))] [] = some ((Bo r), []) := by
 intro p1 r h
 obtain ⟨a1, rfl⟩ : ∃ z_, z_ = p1 := ⟨_, rfl⟩
 rw [ref12_named] at h
 obtain ⟨a2 | ⟨a3, a4, a5⟩, h1, h⟩ := sm h
 ·cases h
  exact run_path Tryz.func55 (ob_k (lk (sub [1, 0, 1, 0] (bodyOf Tryz.f55)) (by kernel_rfl) (ref12_named_l1.okL ht n n _ _ _ h1)) ob) (by kernel_rfl)
 ·cases h
  exact run_path Tryz.func55 (ob_k (lk (sub [1, 0, 1, 0] (bodyOf Tryz.f55)) (by kernel_rfl) (ref12_named_l1.okL ht n n _ _ _ h1)) (ob_v (len_ts texts_map (l := a3)) ob)) (by kernel_rfl)
theorem ref02_Check.ok {n : Nat} {t : Tab} (ht : TabOk t (run Tryz.prog own kp X n)) : ∀ (p1 : GValue) r, ref02_Check t n p1 = some r → run Tryz.prog own kp X (n + 1) 56 [(.t (GValue.t p1))] [] = some ((I6 r), []) := by
 intro p1 r h
 obtain ⟨a1, a2, a3, a4, a5⟩ := p1
 rw [ref02_Check] at h
 obtain ⟨a6, h1, h⟩ := sm h
 rcases fk h with ⟨h2, h⟩ | ⟨h2, h⟩
 ·cases h
  exact run_path Tryz.func56 (ob_c (ht.ref02_right _ _ _ h1) (ob_b (congrArg (!·) h2) ob)) (by kernel_rfl)
 ·cases h
  exact run_path Tryz.func56 (ob_c (ht.ref02_right _ _ _ h1) (ob_b (congrArg (!·) h2) ob)) (by kernel_rfl)
theorem ref09_Check.ok {n : Nat} {t : Tab} (ht : TabOk t (run Tryz.prog own kp X n)) : ∀ (p1 : GPred) r, ref09_Check t n p1 = some r → run Tryz.prog own kp X (n + 1) 57 [(.t (GPred.t p1))] [] = some ((I6 r), []) := by
 intro p1 r h
 obtain ⟨a1, a2, a3⟩ := p1
 rw [ref09_Check] at h
 obtain ⟨a4, h1, h⟩ := sm h
 rcases fk h with ⟨h2, h⟩ | ⟨h2, h⟩
 ·cases h
  exact run_path Tryz.func57 (ob_c (ht.ref09_right _ _ _ h1) (ob_b (congrArg (!·) h2) ob)) (by kernel_rfl)
 ·cases h
  exact run_path Tryz.func57 (ob_c (ht.ref09_right _ _ _ h1) (ob_b (congrArg (!·) h2) ob)) (by kernel_rfl)
theorem ref12_Name_j2.ok (ht : TabOk t call) (n : Nat) (a1 : Int) (a2 : List ByteArray) (r : _) (h : ref12_Name_j2 t n a1 a2 = some r) : exec (env Tryz.prog 16 Tryz.f16 call) n (sub [1, 1, 1] (bodyOf Tryz.f16)) (mkSt 18 18 [(0, (I6 a1)), (3, (Sl 1 (texts a2)))] []) = some (ref12_Name_j2.to r) := by
 rw [ref12_Name_j2] at h
 obtain ⟨h1, h⟩ := ck h
 obtain ⟨a3, h2, h⟩ := sm h
 cases h
 exact path (ob_n h1 (ob_t (look_ts texts_map h2) ob)) (by kernel_rfl)
theorem ref12_Name_j1.ok (ht : TabOk t call) (n : Nat) (a1 : Int) (a2 : List ByteArray) (r : _) (h : ref12_Name_j1 t n a1 a2 = some r) : exec (env Tryz.prog 16 Tryz.f16 call) n (sub [1, 1] (bodyOf Tryz.f16)) (mkSt 18 18 [(0, (I6 a1)), (3, (Sl 1 (texts a2)))] []) = some (ref12_Name_j1.to r) := by
 rw [ref12_Name_j1] at h
 rcases fk h with ⟨h1, h⟩ | ⟨h1, h⟩
 ·cases h
  exact path (ob_b4 h1 (ob_b h1 (ob_b (rfl : true = true) ob))) (by kernel_rfl)
 ·rcases fk h with ⟨h2, h⟩ | ⟨h2, h⟩
  ·cases h
   exact path (ob_b3 h1 (ob_v (len_ts texts_map (l := a2)) (ob_b2 h1 (ob_b h2 ob)))) (by kernel_rfl)
  ·obtain ⟨a3, rfl⟩ : ∃ z_, z_ = r := ⟨_, rfl⟩
   have h3 := h
   exact path (ob_b3 h1 (ob_v (len_ts texts_map (l := a2)) (ob_b2 h1 (ob_b h2 (ob_j (ref12_Name_j2.ok ht n _ _ _ h3) ob))))) (by kernel_rfl)
theorem ref12_Name.ok {n : Nat} {t : Tab} (ht : TabOk t (run Tryz.prog own kp X n)) : ∀ (p1 : Int) r, ref12_Name t n p1 = some r → run Tryz.prog own kp X (n + 1) 16 [(I6 p1)] [] = some ((Sr r), []) := by
 intro p1 r h
 obtain ⟨a1, rfl⟩ : ∃ z_, z_ = p1 := ⟨_, rfl⟩
 rw [ref12_Name] at h
 obtain ⟨a2, rfl⟩ : ∃ z_, z_ = r := ⟨_, rfl⟩
 have h1 := h
 exact run_path Tryz.func16 (ob_j (ref12_Name_j1.ok ht n _ _ _ h1) ob) (by kernel_rfl)
theorem ref12_by_j1.ok (ht : TabOk t call) (n : Nat) (a1 a2 : Int) (a3 : ByteArray) (a4 : List GStep) (a5 : Bool) (r : _) (h : ref12_by_j1 t n a1 a2 a3 a4 a5 = some r) : exec (env Tryz.prog 58 Tryz.f58 call) n (sub [1, 1] (bodyOf Tryz.f58)) (mkSt 49 49 [(2, (I6 a1)), (3, (.ptr 3 0 [] 0))] [(3, (.t (.st [(.v (.int .i64 a2)), (.v (.string a3)), (.sl false 14 (GStep.ts a4)), (.v (.bool a5))])))]) = some (ref12_by_j1.to r) := by
 rw [ref12_by_j1] at h
 rcases fk h with ⟨h1, h⟩ | ⟨h1, h⟩
 ·rcases fk h with ⟨h2, h⟩ | ⟨h2, h⟩
  ·cases h
   exact path (ob_b h1 (ob_b3 h2 (ob_v (len_ts GStep.ts_map (l := a4)) (ob_b2 h2 ob)))) (by kernel_rfl)
  ·cases h
   exact path (ob_b h1 (ob_b4 h2 (ob_b h2 ob))) (by kernel_rfl)
 ·rcases fk h with ⟨h3, h⟩ | ⟨h3, h⟩
  ·obtain ⟨a6, h4, h⟩ := sm h
   rcases fk h with ⟨h5, h⟩ | ⟨h5, h⟩
   ·cases h
    exact path (ob_b h1 (ob_b h3 (ob_c (ht.ref05_Name _ _ h4) (ob_b3 h5 (ob_v (len_ts GStep.ts_map (l := a4)) (ob_b2 h5 ob)))))) (by kernel_rfl)
   ·cases h
    exact path (ob_b h1 (ob_b h3 (ob_c (ht.ref05_Name _ _ h4) (ob_b4 h5 (ob_b h5 ob))))) (by kernel_rfl)
  ·rcases fk h with ⟨h6, h⟩ | ⟨h6, h⟩
   ·rcases fk h with ⟨h7, h⟩ | ⟨h7, h⟩
    ·obtain ⟨a7, rfl⟩ : ∃ z_, z_ = r := ⟨_, rfl⟩
     have h8 := h
     exact path (ob_b h1 (ob_b h3 (ob_b h6 (ob_b4 h7 (ob_b h7 (ob_c (ht.ref12_right _ _ _ h8) (ob_b h7 ob))))))) (by kernel_rfl)
    ·cases h
     exact path (ob_b h1 (ob_b h3 (ob_b h6 (ob_b4 h7 (ob_b2 h7 ob))))) (by kernel_rfl)
   ·cases h
    exact path (ob_b h1 (ob_b h3 (ob_b h6 ob))) (by kernel_rfl)
theorem ref12_by.ok {n : Nat} {t : Tab} (ht : TabOk t (run Tryz.prog own kp X n)) : ∀ (p1 : GBy) (p2 : Bool) (p3 : Int) r, ref12_by t n p1 p2 p3 = some r → run Tryz.prog own kp X (n + 1) 58 [(.t (GBy.t p1)), (Bo p2), (I6 p3)] [] = some ((Bo r), []) := by
 intro p1 p2 p3 r h
 obtain ⟨a1, a2, a3, a4⟩ := p1
 obtain ⟨a5, rfl⟩ : ∃ z_, z_ = p2 := ⟨_, rfl⟩
 obtain ⟨a6, rfl⟩ : ∃ z_, z_ = p3 := ⟨_, rfl⟩
 rw [ref12_by] at h
 rcases fk h with ⟨h1, h⟩ | ⟨h1, h⟩
 ·rcases fk h with ⟨h2, h⟩ | ⟨h2, h⟩
  ·obtain ⟨a7, rfl⟩ : ∃ z_, z_ = r := ⟨_, rfl⟩
   have h3 := h
   exact run_path Tryz.func58 (ob_b3 h1 (ob_b (congrArg (!·) h2) (ob_j (ref12_by_j1.ok ht n _ _ _ _ _ _ h3) ob))) (by kernel_rfl)
  ·cases h
   exact run_path Tryz.func58 (ob_b3 h1 (ob_b (congrArg (!·) h2) ob)) (by kernel_rfl)
 ·obtain ⟨a8, rfl⟩ : ∃ z_, z_ = r := ⟨_, rfl⟩
  have h4 := h
  exact run_path Tryz.func58 (ob_b3 h1 (ob_b (rfl : false = false) (ob_j (ref12_by_j1.ok ht n _ _ _ _ _ _ h4) ob))) (by kernel_rfl)
theorem ref02_compare_j3.ok (ht : TabOk t call) (n : Nat) (a1 a2 : Int) (a3 : Bool) (a4 a5 : Int) (a6 : ByteArray) (a7 a8 : List GValue) (a9 a10 : Int) (a11 : ByteArray) (a12 a13 : List GValue) (r : _) (h : ref02_compare_j3 t n a1 a2 a3 a4 a5 a6 a7 a8 a9 a10 a11 a12 a13 = some r) : exec (env Tryz.prog 71 Tryz.f71 call) n (sub [1, 1, 1, 1, 0, 1] (bodyOf Tryz.f71)) (mkSt 54 54 [(2, (I6 a1)), (3, (.ptr 3 0 [] 0)), (4, (.ptr 4 0 [] 0)), (7, (I6 a2)), (32, (Bo a3))] [(3, (.t (.st [(.v (.int .i64 a4)), (.v (.int .i64 a5)), (.v (.string a6)), (.sl false 5 (GValue.ts a7)), (.sl false 5 (GValue.ts a8))]))), (4, (.t (.st [(.v (.int .i64 a9)), (.v (.int .i64 a10)), (.v (.string a11)), (.sl false 5 (GValue.ts a12)), (.sl false 5 (GValue.ts a13))])))]) = some (ref02_compare_j3.to r) := by
 rw [ref02_compare_j3] at h
 rcases fk h with ⟨h1, h⟩ | ⟨h1, h⟩
 ·obtain ⟨a14, h2, h⟩ := sm h
  cases h
  exact path (ob_b h1 (ob_c (ht.ref02_rows _ _ _ _ h2) ob)) (by kernel_rfl)
 ·cases h
  exact path (ob_b h1 ob) (by kernel_rfl)
theorem ref02_compare_j5.ok (ht : TabOk t call) (n : Nat) (a1 a2 : Int) (a3 : Bool) (a4 a5 : Int) (a6 : ByteArray) (a7 a8 : List GValue) (a9 a10 : Int) (a11 : ByteArray) (a12 a13 : List GValue) (r : _) (h : ref02_compare_j5 t n a1 a2 a3 a4 a5 a6 a7 a8 a9 a10 a11 a12 a13 = some r) : exec (env Tryz.prog 71 Tryz.f71 call) n (sub [1, 1, 1, 1, 1, 0, 1] (bodyOf Tryz.f71)) (mkSt 54 54 [(2, (I6 a1)), (3, (.ptr 3 0 [] 0)), (4, (.ptr 4 0 [] 0)), (7, (I6 a2)), (45, (Bo a3))] [(3, (.t (.st [(.v (.int .i64 a4)), (.v (.int .i64 a5)), (.v (.string a6)), (.sl false 5 (GValue.ts a7)), (.sl false 5 (GValue.ts a8))]))), (4, (.t (.st [(.v (.int .i64 a9)), (.v (.int .i64 a10)), (.v (.string a11)), (.sl false 5 (GValue.ts a12)), (.sl false 5 (GValue.ts a13))])))]) = some (ref02_compare_j5.to r) := by
 rw [ref02_compare_j5] at h
 rcases fk h with ⟨h1, h⟩ | ⟨h1, h⟩
 ·obtain ⟨a14, rfl⟩ : ∃ z_, z_ = r := ⟨_, rfl⟩
  have h2 := h
  exact path (ob_b h1 (ob_c (ht.ref02_rows _ _ _ _ h2) ob)) (by kernel_rfl)
 ·cases h
  exact path (ob_b h1 ob) (by kernel_rfl)
theorem ref02_compare_j4.ok (ht : TabOk t call) (n : Nat) (a1 a2 a3 a4 : Int) (a5 : ByteArray) (a6 a7 : List GValue) (a8 a9 : Int) (a10 : ByteArray) (a11 a12 : List GValue) (r : _) (h : ref02_compare_j4 t n a1 a2 a3 a4 a5 a6 a7 a8 a9 a10 a11 a12 = some r) : exec (env Tryz.prog 71 Tryz.f71 call) n (sub [1, 1, 1, 1, 1] (bodyOf Tryz.f71)) (mkSt 54 54 [(2, (I6 a1)), (3, (.ptr 3 0 [] 0)), (4, (.ptr 4 0 [] 0)), (7, (I6 a2))] [(3, (.t (.st [(.v (.int .i64 a3)), (.v (.int .i64 a4)), (.v (.string a5)), (.sl false 5 (GValue.ts a6)), (.sl false 5 (GValue.ts a7))]))), (4, (.t (.st [(.v (.int .i64 a8)), (.v (.int .i64 a9)), (.v (.string a10)), (.sl false 5 (GValue.ts a11)), (.sl false 5 (GValue.ts a12))])))]) = some (ref02_compare_j4.to r) := by
 rw [ref02_compare_j4] at h
 rcases fk h with ⟨h1, h⟩ | ⟨h1, h⟩
 ·obtain ⟨a13, rfl⟩ : ∃ z_, z_ = r := ⟨_, rfl⟩
  have h2 := h
  exact path (ob_b3 h1 (ob_j (ref02_compare_j5.ok ht n _ _ _ _ _ _ _ _ _ _ _ _ _ _ h2) ob)) (by kernel_rfl)
 ·obtain ⟨a14, rfl⟩ : ∃ z_, z_ = r := ⟨_, rfl⟩
  have h3 := h
  exact path (ob_b3 h1 (ob_j (ref02_compare_j5.ok ht n _ _ _ _ _ _ _ _ _ _ _ _ _ _ h3) ob)) (by kernel_rfl)
theorem ref02_compare_j2.ok (ht : TabOk t call) (n : Nat) (a1 a2 a3 a4 : Int) (a5 : ByteArray) (a6 a7 : List GValue) (a8 a9 : Int) (a10 : ByteArray) (a11 a12 : List GValue) (r : _) (h : ref02_compare_j2 t n a1 a2 a3 a4 a5 a6 a7 a8 a9 a10 a11 a12 = some r) : exec (env Tryz.prog 71 Tryz.f71 call) n (sub [1, 1, 1, 1] (bodyOf Tryz.f71)) (mkSt 54 54 [(2, (I6 a1)), (3, (.ptr 3 0 [] 0)), (4, (.ptr 4 0 [] 0)), (7, (I6 a2))] [(3, (.t (.st [(.v (.int .i64 a3)), (.v (.int .i64 a4)), (.v (.string a5)), (.sl false 5 (GValue.ts a6)), (.sl false 5 (GValue.ts a7))]))), (4, (.t (.st [(.v (.int .i64 a8)), (.v (.int .i64 a9)), (.v (.string a10)), (.sl false 5 (GValue.ts a11)), (.sl false 5 (GValue.ts a12))])))]) = some (ref02_compare_j2.to r) := by
 rw [ref02_compare_j2] at h
 rcases fk h with ⟨h1, h⟩ | ⟨h1, h⟩
 ·obtain ⟨⟨a13, a14, a15, a16, a17, a18, a19, a20, a21, a22, a23, a24⟩, h2, h⟩ := sm h
  obtain ⟨a25, rfl⟩ : ∃ z_, z_ = r := ⟨_, rfl⟩
  have h3 := h
  exact path (ob_b3 h1 (ob_j (ref02_compare_j3.ok ht n _ _ _ _ _ _ _ _ _ _ _ _ _ _ h2) (ob_j (ref02_compare_j4.ok ht n _ _ _ _ _ _ _ _ _ _ _ _ _ h3) ob))) (by kernel_rfl)
 ·obtain ⟨⟨a26, a27, a28, a29, a30, a31, a32, a33, a34, a35, a36, a37⟩, h4, h⟩ := sm h
  obtain ⟨a38, rfl⟩ : ∃ z_, z_ = r := ⟨_, rfl⟩
  have h5 := h
  exact path (ob_b3 h1 (ob_j (ref02_compare_j3.ok ht n _ _ _ _ _ _ _ _ _ _ _ _ _ _ h4) (ob_j (ref02_compare_j4.ok ht n _ _ _ _ _ _ _ _ _ _ _ _ _ h5) ob))) (by kernel_rfl)
theorem ref02_compare_j1.ok (ht : TabOk t call) (n : Nat) (a1 a2 a3 a4 : Int) (a5 : ByteArray) (a6 a7 : List GValue) (a8 a9 : Int) (a10 : ByteArray) (a11 a12 : List GValue) (r : _) (h : ref02_compare_j1 t n a1 a2 a3 a4 a5 a6 a7 a8 a9 a10 a11 a12 = some r) : exec (env Tryz.prog 71 Tryz.f71 call) n (sub [1, 1, 1] (bodyOf Tryz.f71)) (mkSt 54 54 [(2, (I6 a1)), (3, (.ptr 3 0 [] 0)), (4, (.ptr 4 0 [] 0)), (7, (I6 a2))] [(3, (.t (.st [(.v (.int .i64 a3)), (.v (.int .i64 a4)), (.v (.string a5)), (.sl false 5 (GValue.ts a6)), (.sl false 5 (GValue.ts a7))]))), (4, (.t (.st [(.v (.int .i64 a8)), (.v (.int .i64 a9)), (.v (.string a10)), (.sl false 5 (GValue.ts a11)), (.sl false 5 (GValue.ts a12))])))]) = some (ref02_compare_j1.to r) := by
 rw [ref02_compare_j1] at h
 rcases fk h with ⟨h1, h⟩ | ⟨h1, h⟩
 ·obtain ⟨a13, h2, h⟩ := sm h
  obtain ⟨a14, rfl⟩ : ∃ z_, z_ = r := ⟨_, rfl⟩
  have h3 := h
  exact path (ob_b h1 (ob_c (ht.ref02_texts _ _ _ h2) (ob_j (ref02_compare_j2.ok ht n _ _ _ _ _ _ _ _ _ _ _ _ _ h3) ob))) (by kernel_rfl)
 ·obtain ⟨a15, rfl⟩ : ∃ z_, z_ = r := ⟨_, rfl⟩
  have h4 := h
  exact path (ob_b h1 (ob_j (ref02_compare_j2.ok ht n _ _ _ _ _ _ _ _ _ _ _ _ _ h4) ob)) (by kernel_rfl)
theorem ref02_compare.ok {n : Nat} {t : Tab} (ht : TabOk t (run Tryz.prog own kp X n)) : ∀ (p1 : GValue) (p2 : GValue) (p3 : Int) r, ref02_compare t n p1 p2 p3 = some r → run Tryz.prog own kp X (n + 1) 71 [(.t (GValue.t p1)), (.t (GValue.t p2)), (I6 p3)] [] = some ((I6 r), []) := by
 intro p1 p2 p3 r h
 obtain ⟨a1, a2, a3, a4, a5⟩ := p1
 obtain ⟨a6, a7, a8, a9, a10⟩ := p2
 obtain ⟨a11, rfl⟩ : ∃ z_, z_ = p3 := ⟨_, rfl⟩
 rw [ref02_compare] at h
 obtain ⟨a12, h1, h⟩ := sm h
 rcases fk h with ⟨h2, h⟩ | ⟨h2, h⟩
 ·obtain ⟨a13, h3, h⟩ := sm h
  obtain ⟨a14, rfl⟩ : ∃ z_, z_ = r := ⟨_, rfl⟩
  have h4 := h
  exact run_path Tryz.func71 (ob_c (ht.ref02_sign _ _ _ h1) (ob_b h2 (ob_c (ht.ref02_sign _ _ _ h3) (ob_j (ref02_compare_j1.ok ht n _ _ _ _ _ _ _ _ _ _ _ _ _ h4) ob)))) (by kernel_rfl)
 ·obtain ⟨a15, rfl⟩ : ∃ z_, z_ = r := ⟨_, rfl⟩
  have h5 := h
  exact run_path Tryz.func71 (ob_c (ht.ref02_sign _ _ _ h1) (ob_b h2 (ob_j (ref02_compare_j1.ok ht n _ _ _ _ _ _ _ _ _ _ _ _ _ h5) ob))) (by kernel_rfl)
theorem ref02_SameRows_l1.okL (ht : TabOk t call) (n : Nat) : ∀ (k : Nat) (a1 a2 : List GValue) (a3 : Int) (r : _), ref02_SameRows_l1 t n k a1 a2 a3 = some r → loopN (exec (env Tryz.prog 72 Tryz.f72 call) n (sub [1, 1, 0, 1, 0, 0] (bodyOf Tryz.f72))) k (mkSt 27 27 [(0, (Sl 5 (GValue.ts a1))), (1, (Sl 5 (GValue.ts a2))), (5, (I6 a3))] []) = some (ref02_SameRows_l1.to r)
 | 0, a1, a2, a3, r, h => by rw [ref02_SameRows_l1] at h; cases h
 | k + 1, a1, a2, a3, r, h => by
  rw [ref02_SameRows_l1] at h
  rcases fk h with ⟨h1, h⟩ | ⟨h1, h⟩
  ·obtain ⟨h2, h⟩ := ck h
   obtain ⟨⟨a4, a5, a6, a7, a8⟩, h3, h⟩ := sm h
   obtain ⟨⟨a9, a10, a11, a12, a13⟩, h4, h⟩ := sm h
   obtain ⟨a14, h5, h⟩ := sm h
   have o7 {os} (x : Obls (env Tryz.prog 72 Tryz.f72 call) n os) := ob_v (len_ts GValue.ts_map (l := a1)) (ob_b h1 (ob_n h2 (ob_t (look_ts GValue.ts_map h3) (ob_n h2 (ob_t (look_ts GValue.ts_map h4) (ob_c (ht.ref02_Same _ _ _ h5) x))))))
   rcases fk h with ⟨h6, h⟩ | ⟨h6, h⟩
   ·exact loop_more (path (o7 (ob_b (congrArg (!·) h6) ob)) (by kernel_rfl)) (ref02_SameRows_l1.okL ht n k _ _ _ _ h)
   ·cases h
    exact loop_out (path (o7 (ob_b (congrArg (!·) h6) ob)) (by kernel_rfl)) (fun h => by cases h)
  ·cases h
   exact loop_out (path (ob_v (len_ts GValue.ts_map (l := a1)) (ob_b h1 ob)) (by kernel_rfl)) (fun h => by cases h)
theorem ref02_SameRows.ok {n : Nat} {t : Tab} (ht : TabOk t (run Tryz.prog own kp X n)) : ∀ (p1 : List GValue) (p2 : List GValue) r, ref02_SameRows t n p1 p2 = some r → run Tryz.prog own kp X (n + 1) 72 [(Sl 5 (GValue.ts p1)), (Sl 5 (GValue.ts p2))] [] = some ((Bo r), []) := by
 intro p1 p2 r h
 obtain ⟨a1, rfl⟩ : ∃ z_, z_ = p1 := ⟨_, rfl⟩
 obtain ⟨a2, rfl⟩ : ∃ z_, z_ = p2 := ⟨_, rfl⟩
 rw [ref02_SameRows] at h
 have o2 {os} (x : Obls (env Tryz.prog 72 Tryz.f72 (run Tryz.prog own kp X n)) n os) := ob_v (len_ts GValue.ts_map (l := a1)) (ob_v (len_ts GValue.ts_map (l := a2)) x)
 rcases fk h with ⟨h1, h⟩ | ⟨h1, h⟩
 ·cases h
  exact run_path Tryz.func72 (o2 (ob_b h1 ob)) (by kernel_rfl)
 ·obtain ⟨a3 | ⟨a4, a5, a6, a7⟩, h2, h⟩ := sm h
  ·cases h
   exact run_path Tryz.func72 (o2 (ob_b h1 (ob_k (lk (sub [1, 1, 0, 1, 0] (bodyOf Tryz.f72)) (by kernel_rfl) (ref02_SameRows_l1.okL ht n n _ _ _ _ h2)) ob))) (by kernel_rfl)
  ·cases h
   exact run_path Tryz.func72 (o2 (ob_b h1 (ob_k (lk (sub [1, 1, 0, 1, 0] (bodyOf Tryz.f72)) (by kernel_rfl) (ref02_SameRows_l1.okL ht n n _ _ _ _ h2)) ob))) (by kernel_rfl)
theorem ref02_Many_j2.ok (ht : TabOk t call) (n : Nat) (a1 : List GValue) (a2 a3 a4 : Int) (r : _) (h : ref02_Many_j2 t n a1 a2 a3 a4 = some r) : exec (env Tryz.prog 73 Tryz.f73 call) n (sub [1, 1, 0, 1, 0, 0, 1] (bodyOf Tryz.f73)) (mkSt 29 29 [(0, (Sl 5 (GValue.ts a1))), (1, (I6 a2)), (5, (I6 a3)), (6, (I6 a4))] []) = some (ref02_Many_j2.to r) := by
 rw [ref02_Many_j2] at h
 obtain ⟨h1, h⟩ := ck h
 obtain ⟨⟨a5, a6, a7, a8, a9⟩, h2, h⟩ := sm h
 obtain ⟨a10, h3, h⟩ := sm h
 cases h
 exact path (ob_n h1 (ob_t (look_ts GValue.ts_map h2) (ob_c (ht.ref02_Count _ _ _ h3) ob))) (by kernel_rfl)
theorem ref02_Many_l1.okL (ht : TabOk t call) (n : Nat) : ∀ (k : Nat) (a1 : List GValue) (a2 a3 a4 : Int) (r : _), ref02_Many_l1 t n k a1 a2 a3 a4 = some r → loopN (exec (env Tryz.prog 73 Tryz.f73 call) n (sub [1, 1, 0, 1, 0, 0] (bodyOf Tryz.f73))) k (mkSt 29 29 [(0, (Sl 5 (GValue.ts a1))), (1, (I6 a2)), (5, (I6 a3)), (6, (I6 a4))] []) = some (ref02_Many_l1.to r)
 | 0, a1, a2, a3, a4, r, h => by rw [ref02_Many_l1] at h; cases h
 | k + 1, a1, a2, a3, a4, r, h => by
  rw [ref02_Many_l1] at h
  rcases fk h with ⟨h1, h⟩ | ⟨h1, h⟩
  ·rcases fk h with ⟨h2, h⟩ | ⟨h2, h⟩
   ·obtain ⟨⟨a5, a6, a7, a8⟩, h3, h⟩ := sm h
    exact loop_more (path (ob_v (len_ts GValue.ts_map (l := a1)) (ob_b4 h1 (ob_b h2 (ob_j (ref02_Many_j2.ok ht n _ _ _ _ _ h3) ob)))) (by kernel_rfl)) (ref02_Many_l1.okL ht n k _ _ _ _ _ h)
   ·cases h
    exact loop_out (path (ob_v (len_ts GValue.ts_map (l := a1)) (ob_b4 h1 (ob_b h2 ob))) (by kernel_rfl)) (fun h => by cases h)
  ·cases h
   exact loop_out (path (ob_v (len_ts GValue.ts_map (l := a1)) (ob_b4 h1 (ob_b (rfl : false = false) ob))) (by kernel_rfl)) (fun h => by cases h)
theorem ref02_Many.ok {n : Nat} {t : Tab} (ht : TabOk t (run Tryz.prog own kp X n)) : ∀ (p1 : List GValue) (p2 : Int) r, ref02_Many t n p1 p2 = some r → run Tryz.prog own kp X (n + 1) 73 [(Sl 5 (GValue.ts p1)), (I6 p2)] [] = some ((I6 r), []) := by
 intro p1 p2 r h
 obtain ⟨a1, rfl⟩ : ∃ z_, z_ = p1 := ⟨_, rfl⟩
 obtain ⟨a2, rfl⟩ : ∃ z_, z_ = p2 := ⟨_, rfl⟩
 rw [ref02_Many] at h
 obtain ⟨⟨a3, a4, a5, a6, a7⟩, h1, h⟩ := sm h
 cases h
 exact run_path Tryz.func73 (ob_k (lk (sub [1, 1, 0, 1, 0] (bodyOf Tryz.f73)) (by kernel_rfl) (ref02_Many_l1.okL ht n n _ _ _ _ _ h1)) ob) (by kernel_rfl)
theorem slices_Equal_string_l1.okL (ht : TabOk t call) (n : Nat) : ∀ (k : Nat) (a1 a2 : List ByteArray) (a3 a4 : Int) (r : _), slices_Equal_string_l1 t n k a1 a2 a3 a4 = some r → loopN (exec (env Tryz.prog 34 Tryz.f34 call) n (sub [1, 1, 0, 1, 0, 0] (bodyOf Tryz.f34))) k (mkSt 26 26 [(0, (Sl 1 (texts a1))), (1, (Sl 1 (texts a2))), (12, (I6 a3)), (13, (I6 a4))] []) = some (slices_Equal_string_l1.to r)
 | 0, a1, a2, a3, a4, r, h => by rw [slices_Equal_string_l1] at h; cases h
 | k + 1, a1, a2, a3, a4, r, h => by
  rw [slices_Equal_string_l1] at h
  rcases fk h with ⟨h1, h⟩ | ⟨h1, h⟩
  ·obtain ⟨h2, h⟩ := ck h
   obtain ⟨a5, h3, h⟩ := sm h
   obtain ⟨a6, h4, h⟩ := sm h
   rcases fk h with ⟨h5, h⟩ | ⟨h5, h⟩
   ·exact loop_more (path (ob_b h1 (ob_n h2 (ob_t (look_ts texts_map h3) (ob_n h2 (ob_t (look_ts texts_map h4) (ob_b (congrArg (!·) h5) ob)))))) (by kernel_rfl)) (slices_Equal_string_l1.okL ht n k _ _ _ _ _ h)
   ·cases h
    exact loop_out (path (ob_b h1 (ob_n h2 (ob_t (look_ts texts_map h3) (ob_n h2 (ob_t (look_ts texts_map h4) (ob_b (congrArg (!·) h5) ob)))))) (by kernel_rfl)) (fun h => by cases h)
  ·cases h
   exact loop_out (path (ob_b h1 ob) (by kernel_rfl)) (fun h => by cases h)
theorem slices_Equal_string.ok {n : Nat} {t : Tab} (ht : TabOk t (run Tryz.prog own kp X n)) : ∀ (p1 : List ByteArray) (p2 : List ByteArray) r, slices_Equal_string t n p1 p2 = some r → run Tryz.prog own kp X (n + 1) 34 [(Sl 1 (texts p1)), (Sl 1 (texts p2))] [] = some ((Bo r), []) := by
 intro p1 p2 r h
 obtain ⟨a1, rfl⟩ : ∃ z_, z_ = p1 := ⟨_, rfl⟩
 obtain ⟨a2, rfl⟩ : ∃ z_, z_ = p2 := ⟨_, rfl⟩
 rw [slices_Equal_string] at h
 rcases fk h with ⟨h1, h⟩ | ⟨h1, h⟩
 ·cases h
  exact run_path Tryz.func34 (ob_v (len_ts texts_map (l := a1)) (ob_v (len_ts texts_map (l := a2)) (ob_b h1 ob))) (by kernel_rfl)
 ·obtain ⟨a3 | ⟨a4, a5, a6, a7, a8⟩, h2, h⟩ := sm h
  ·cases h
   exact run_path Tryz.func34 (ob_v (len_ts texts_map (l := a1)) (ob_v (len_ts texts_map (l := a2)) (ob_b h1 (ob_v (len_ts texts_map (l := a1)) (ob_k (lk (sub [1, 1, 0, 1, 0] (bodyOf Tryz.f34)) (by kernel_rfl) (slices_Equal_string_l1.okL ht n n _ _ _ _ _ h2)) ob))))) (by kernel_rfl)
  ·cases h
   exact run_path Tryz.func34 (ob_v (len_ts texts_map (l := a1)) (ob_v (len_ts texts_map (l := a2)) (ob_b h1 (ob_v (len_ts texts_map (l := a1)) (ob_k (lk (sub [1, 1, 0, 1, 0] (bodyOf Tryz.f34)) (by kernel_rfl) (slices_Equal_string_l1.okL ht n n _ _ _ _ _ h2)) ob))))) (by kernel_rfl)
theorem slices_Equal_int_l1.okL (ht : TabOk t call) (n : Nat) : ∀ (k : Nat) (a1 a2 : List Int) (a3 a4 : Int) (r : _), slices_Equal_int_l1 t n k a1 a2 a3 a4 = some r → loopN (exec (env Tryz.prog 35 Tryz.f35 call) n (sub [1, 1, 0, 1, 0, 0] (bodyOf Tryz.f35))) k (mkSt 26 26 [(0, (Sl 1 (ints_i64 a1))), (1, (Sl 1 (ints_i64 a2))), (12, (I6 a3)), (13, (I6 a4))] []) = some (slices_Equal_int_l1.to r)
 | 0, a1, a2, a3, a4, r, h => by rw [slices_Equal_int_l1] at h; cases h
 | k + 1, a1, a2, a3, a4, r, h => by
  rw [slices_Equal_int_l1] at h
  rcases fk h with ⟨h1, h⟩ | ⟨h1, h⟩
  ·obtain ⟨h2, h⟩ := ck h
   obtain ⟨a5, h3, h⟩ := sm h
   obtain ⟨a6, h4, h⟩ := sm h
   rcases fk h with ⟨h5, h⟩ | ⟨h5, h⟩
   ·cases h
    exact loop_out (path (ob_b h1 (ob_n h2 (ob_t (look_ts ints_i64_map h3) (ob_n h2 (ob_t (look_ts ints_i64_map h4) (ob_b h5 ob)))))) (by kernel_rfl)) (fun h => by cases h)
   ·exact loop_more (path (ob_b h1 (ob_n h2 (ob_t (look_ts ints_i64_map h3) (ob_n h2 (ob_t (look_ts ints_i64_map h4) (ob_b h5 ob)))))) (by kernel_rfl)) (slices_Equal_int_l1.okL ht n k _ _ _ _ _ h)
  ·cases h
   exact loop_out (path (ob_b h1 ob) (by kernel_rfl)) (fun h => by cases h)
theorem slices_Equal_int.ok {n : Nat} {t : Tab} (ht : TabOk t (run Tryz.prog own kp X n)) : ∀ (p1 : List Int) (p2 : List Int) r, slices_Equal_int t n p1 p2 = some r → run Tryz.prog own kp X (n + 1) 35 [(Sl 1 (ints_i64 p1)), (Sl 1 (ints_i64 p2))] [] = some ((Bo r), []) := by
 intro p1 p2 r h
 obtain ⟨a1, rfl⟩ : ∃ z_, z_ = p1 := ⟨_, rfl⟩
 obtain ⟨a2, rfl⟩ : ∃ z_, z_ = p2 := ⟨_, rfl⟩
 rw [slices_Equal_int] at h
 rcases fk h with ⟨h1, h⟩ | ⟨h1, h⟩
 ·cases h
  exact run_path Tryz.func35 (ob_v (len_ts ints_i64_map (l := a1)) (ob_v (len_ts ints_i64_map (l := a2)) (ob_b h1 ob))) (by kernel_rfl)
 ·obtain ⟨a3 | ⟨a4, a5, a6, a7, a8⟩, h2, h⟩ := sm h
  ·cases h
   exact run_path Tryz.func35 (ob_v (len_ts ints_i64_map (l := a1)) (ob_v (len_ts ints_i64_map (l := a2)) (ob_b h1 (ob_v (len_ts ints_i64_map (l := a1)) (ob_k (lk (sub [1, 1, 0, 1, 0] (bodyOf Tryz.f35)) (by kernel_rfl) (slices_Equal_int_l1.okL ht n n _ _ _ _ _ h2)) ob))))) (by kernel_rfl)
  ·cases h
   exact run_path Tryz.func35 (ob_v (len_ts ints_i64_map (l := a1)) (ob_v (len_ts ints_i64_map (l := a2)) (ob_b h1 (ob_v (len_ts ints_i64_map (l := a1)) (ob_k (lk (sub [1, 1, 0, 1, 0] (bodyOf Tryz.f35)) (by kernel_rfl) (slices_Equal_int_l1.okL ht n n _ _ _ _ _ h2)) ob))))) (by kernel_rfl)
theorem value_Same.ok {n : Nat} {t : Tab} (ht : TabOk t (run Tryz.prog own kp X n)) : ∀ (p1 : GValue) (p2 : GValue) r, value_Same t n p1 p2 = some r → run Tryz.prog own kp X (n + 1) 36 [(.t (GValue.t p1)), (.t (GValue.t p2))] [] = some ((Bo r), []) := by
 intro p1 p2 r h
 obtain ⟨a1, a2, a3, a4, a5⟩ := p1
 obtain ⟨a6, a7, a8, a9, a10⟩ := p2
 rw [value_Same] at h
 obtain ⟨a11, h1, h⟩ := sm h
 cases h
 exact run_path Tryz.func36 (ob_c (ht.value_Cmp _ _ _ h1) ob) (by kernel_rfl)
theorem plan_samePred.ok {n : Nat} {t : Tab} (ht : TabOk t (run Tryz.prog own kp X n)) : ∀ (p1 : GPred) (p2 : GPred) r, plan_samePred t n p1 p2 = some r → run Tryz.prog own kp X (n + 1) 37 [(.t (GPred.t p1)), (.t (GPred.t p2))] [] = some ((Bo r), []) := by
 intro p1 p2 r h
 obtain ⟨a1, a2, a3⟩ := p1
 obtain ⟨a4, a5, a6⟩ := p2
 rw [plan_samePred] at h
 rcases fk h with ⟨h1, h⟩ | ⟨h1, h⟩
 ·obtain ⟨a7, h2, h⟩ := sm h
  rcases fk h with ⟨h3, h⟩ | ⟨h3, h⟩
  ·obtain ⟨a8, rfl⟩ : ∃ z_, z_ = r := ⟨_, rfl⟩
   have h4 := h
   exact run_path Tryz.func37 (ob_b4 h1 (ob_b h1 (ob_c (ht.slices_EqualFunc_value_Same _ _ _ h2) (ob_b h1 (ob_b4 h3 (ob_b h3 (ob_c (ht.slices_EqualFunc_plan_samePred _ _ _ h4) (ob_b h3 ob)))))))) (by kernel_rfl)
  ·cases h
   exact run_path Tryz.func37 (ob_b4 h1 (ob_b h1 (ob_c (ht.slices_EqualFunc_value_Same _ _ _ h2) (ob_b h1 (ob_b4 h3 (ob_b2 h3 ob)))))) (by kernel_rfl)
 ·cases h
  exact run_path Tryz.func37 (ob_b4 h1 (ob_b2 h1 (ob_b4 (rfl : false = false) (ob_b2 (rfl : false = false) ob)))) (by kernel_rfl)
theorem slices_EqualFunc_plan_Same_l1.okL (ht : TabOk t call) (n : Nat) : ∀ (k : Nat) (a1 a2 : List (List GStep)) (a3 a4 : Int) (r : _), slices_EqualFunc_plan_Same_l1 t n k a1 a2 a3 a4 = some r → loopN (exec (env Tryz.prog 38 Tryz.f38 call) n (sub [1, 1, 0, 1, 0, 0] (bodyOf Tryz.f38))) k (mkSt 32 32 [(1, (Sl 1 (rows_GStep_ts a1))), (2, (.fn 17 [])), (15, (Sl 1 (rows_GStep_ts a2))), (16, (I6 a3)), (17, (I6 a4))] []) = some (slices_EqualFunc_plan_Same_l1.to r)
 | 0, a1, a2, a3, a4, r, h => by rw [slices_EqualFunc_plan_Same_l1] at h; cases h
 | k + 1, a1, a2, a3, a4, r, h => by
  rw [slices_EqualFunc_plan_Same_l1] at h
  rcases fk h with ⟨h1, h⟩ | ⟨h1, h⟩
  ·obtain ⟨h2, h⟩ := ck h
   obtain ⟨a5, h3, h⟩ := sm h
   obtain ⟨a6, h4, h⟩ := sm h
   obtain ⟨a7, h5, h⟩ := sm h
   rcases fk h with ⟨h6, h⟩ | ⟨h6, h⟩
   ·exact loop_more (path (ob_b h1 (ob_n h2 (ob_t (look_ts rows_GStep_ts_map h3) (ob_n h2 (ob_t (look_ts rows_GStep_ts_map h4) (ob_c (ht.plan_Same _ _ _ h5) (ob_b (congrArg (!·) h6) ob))))))) (by kernel_rfl)) (slices_EqualFunc_plan_Same_l1.okL ht n k _ _ _ _ _ h)
   ·cases h
    exact loop_out (path (ob_b h1 (ob_n h2 (ob_t (look_ts rows_GStep_ts_map h3) (ob_n h2 (ob_t (look_ts rows_GStep_ts_map h4) (ob_c (ht.plan_Same _ _ _ h5) (ob_b (congrArg (!·) h6) ob))))))) (by kernel_rfl)) (fun h => by cases h)
  ·cases h
   exact loop_out (path (ob_b h1 ob) (by kernel_rfl)) (fun h => by cases h)
theorem slices_EqualFunc_plan_Same.ok {n : Nat} {t : Tab} (ht : TabOk t (run Tryz.prog own kp X n)) : ∀ (p1 : List (List GStep)) (p2 : List (List GStep)) r, slices_EqualFunc_plan_Same t n p1 p2 = some r → run Tryz.prog own kp X (n + 1) 38 [(Sl 1 (rows_GStep_ts p1)), (Sl 1 (rows_GStep_ts p2)), (.fn 17 [])] [] = some ((Bo r), []) := by
 intro p1 p2 r h
 obtain ⟨a1, rfl⟩ : ∃ z_, z_ = p1 := ⟨_, rfl⟩
 obtain ⟨a2, rfl⟩ : ∃ z_, z_ = p2 := ⟨_, rfl⟩
 rw [slices_EqualFunc_plan_Same] at h
 have o2 {os} (x : Obls (env Tryz.prog 38 Tryz.f38 (run Tryz.prog own kp X n)) n os) := ob_v (len_ts rows_GStep_ts_map (l := a1)) (ob_v (len_ts rows_GStep_ts_map (l := a2)) x)
 rcases fk h with ⟨h1, h⟩ | ⟨h1, h⟩
 ·cases h
  exact run_path Tryz.func38 (o2 (ob_b h1 ob)) (by kernel_rfl)
 ·obtain ⟨a3 | ⟨a4, a5, a6, a7, a8⟩, h2, h⟩ := sm h
  ·cases h
   exact run_path Tryz.func38 (o2 (ob_b h1 (ob_v (len_ts rows_GStep_ts_map (l := a1)) (ob_k (lk (sub [1, 1, 0, 1, 0] (bodyOf Tryz.f38)) (by kernel_rfl) (slices_EqualFunc_plan_Same_l1.okL ht n n _ _ _ _ _ h2)) ob)))) (by kernel_rfl)
  ·cases h
   exact run_path Tryz.func38 (o2 (ob_b h1 (ob_v (len_ts rows_GStep_ts_map (l := a1)) (ob_k (lk (sub [1, 1, 0, 1, 0] (bodyOf Tryz.f38)) (by kernel_rfl) (slices_EqualFunc_plan_Same_l1.okL ht n n _ _ _ _ _ h2)) ob)))) (by kernel_rfl)
theorem slices_EqualFunc_plan_sameBy_l1.okL (ht : TabOk t call) (n : Nat) : ∀ (k : Nat) (a1 a2 : List GBy) (a3 a4 : Int) (r : _), slices_EqualFunc_plan_sameBy_l1 t n k a1 a2 a3 a4 = some r → loopN (exec (env Tryz.prog 39 Tryz.f39 call) n (sub [1, 1, 0, 1, 0, 0] (bodyOf Tryz.f39))) k (mkSt 32 32 [(1, (Sl 4 (GBy.ts a1))), (2, (.fn 40 [])), (15, (Sl 4 (GBy.ts a2))), (16, (I6 a3)), (17, (I6 a4))] []) = some (slices_EqualFunc_plan_sameBy_l1.to r)
 | 0, a1, a2, a3, a4, r, h => by rw [slices_EqualFunc_plan_sameBy_l1] at h; cases h
 | k + 1, a1, a2, a3, a4, r, h => by
  rw [slices_EqualFunc_plan_sameBy_l1] at h
  rcases fk h with ⟨h1, h⟩ | ⟨h1, h⟩
  ·obtain ⟨h2, h⟩ := ck h
   obtain ⟨⟨a5, a6, a7, a8⟩, h3, h⟩ := sm h
   obtain ⟨⟨a9, a10, a11, a12⟩, h4, h⟩ := sm h
   obtain ⟨a13, h5, h⟩ := sm h
   rcases fk h with ⟨h6, h⟩ | ⟨h6, h⟩
   ·exact loop_more (path (ob_b h1 (ob_n h2 (ob_t (look_ts GBy.ts_map h3) (ob_n h2 (ob_t (look_ts GBy.ts_map h4) (ob_c (ht.plan_sameBy _ _ _ h5) (ob_b (congrArg (!·) h6) ob))))))) (by kernel_rfl)) (slices_EqualFunc_plan_sameBy_l1.okL ht n k _ _ _ _ _ h)
   ·cases h
    exact loop_out (path (ob_b h1 (ob_n h2 (ob_t (look_ts GBy.ts_map h3) (ob_n h2 (ob_t (look_ts GBy.ts_map h4) (ob_c (ht.plan_sameBy _ _ _ h5) (ob_b (congrArg (!·) h6) ob))))))) (by kernel_rfl)) (fun h => by cases h)
  ·cases h
   exact loop_out (path (ob_b h1 ob) (by kernel_rfl)) (fun h => by cases h)
theorem slices_EqualFunc_plan_sameBy.ok {n : Nat} {t : Tab} (ht : TabOk t (run Tryz.prog own kp X n)) : ∀ (p1 : List GBy) (p2 : List GBy) r, slices_EqualFunc_plan_sameBy t n p1 p2 = some r → run Tryz.prog own kp X (n + 1) 39 [(Sl 4 (GBy.ts p1)), (Sl 4 (GBy.ts p2)), (.fn 40 [])] [] = some ((Bo r), []) := by
 intro p1 p2 r h
 obtain ⟨a1, rfl⟩ : ∃ z_, z_ = p1 := ⟨_, rfl⟩
 obtain ⟨a2, rfl⟩ : ∃ z_, z_ = p2 := ⟨_, rfl⟩
 rw [slices_EqualFunc_plan_sameBy] at h
 rcases fk h with ⟨h1, h⟩ | ⟨h1, h⟩
 ·cases h
  exact run_path Tryz.func39 (ob_v (len_ts GBy.ts_map (l := a1)) (ob_v (len_ts GBy.ts_map (l := a2)) (ob_b h1 ob))) (by kernel_rfl)
 ·obtain ⟨a3 | ⟨a4, a5, a6, a7, a8⟩, h2, h⟩ := sm h
  ·cases h
   exact run_path Tryz.func39 (ob_v (len_ts GBy.ts_map (l := a1)) (ob_v (len_ts GBy.ts_map (l := a2)) (ob_b h1 (ob_v (len_ts GBy.ts_map (l := a1)) (ob_k (lk (sub [1, 1, 0, 1, 0] (bodyOf Tryz.f39)) (by kernel_rfl) (slices_EqualFunc_plan_sameBy_l1.okL ht n n _ _ _ _ _ h2)) ob))))) (by kernel_rfl)
  ·cases h
   exact run_path Tryz.func39 (ob_v (len_ts GBy.ts_map (l := a1)) (ob_v (len_ts GBy.ts_map (l := a2)) (ob_b h1 (ob_v (len_ts GBy.ts_map (l := a1)) (ob_k (lk (sub [1, 1, 0, 1, 0] (bodyOf Tryz.f39)) (by kernel_rfl) (slices_EqualFunc_plan_sameBy_l1.okL ht n n _ _ _ _ _ h2)) ob))))) (by kernel_rfl)
theorem value_part.ok {n : Nat} {t : Tab} (ht : TabOk t (run Tryz.prog own kp X n)) : ∀ (p1 : GValue) (p2 : Int) r, value_part t n p1 p2 = some r → run Tryz.prog own kp X (n + 1) 95 [(.t (GValue.t p1)), (I6 p2)] [] = some ((.t (GValue.x r)), []) := by
 intro p1 p2 r h
 obtain ⟨a1, a2, a3, a4, a5⟩ := p1
 obtain ⟨a6, rfl⟩ : ∃ z_, z_ = p2 := ⟨_, rfl⟩
 rw [value_part] at h
 rcases fk h with ⟨h1, h⟩ | ⟨h1, h⟩
 ·cases h
  exact run_path Tryz.func95 (ob_b h1 ob) (by kernel_rfl)
 ·obtain ⟨a7, h2, h⟩ := sm h
  obtain ⟨a8, h3, h⟩ := sm h
  cases h
  exact run_path Tryz.func95 (ob_b h1 (ob_c (ht.value_copied _ _ _ h2) (ob_c (ht.value_copied _ _ _ h3) ob))) (by kernel_rfl)
theorem pred_part_l1.okL (ht : TabOk t call) (n : Nat) : ∀ (k : Nat) (a1 : Int) (a2 : List GValue) (a3 a4 a5 : Int) (a6 : List GValue) (a7 : List GPred) (a8 : Int) (a9 : List GValue) (a10 : List GPred) (a11 : Int) (a12 : List GValue) (a13 : List GPred) (r : _), pred_part_l1 t n k a1 a2 a3 a4 a5 a6 a7 a8 a9 a10 a11 a12 a13 = some r → loopN (exec (env Tryz.prog 96 Tryz.f96 call) n (sub [1, 1, 1, 0, 1, 0, 0] (bodyOf Tryz.f96))) k (mkSt 49 49 [(1, (I6 a1)), (2, (.ptr 2 0 [] 0)), (4, (.ptr 4 0 [] 0)), (5, (.ptr 5 0 [] 0)), (17, (Sl 5 (GValue.ts a2))), (18, (I6 a3)), (19, (I6 a4))] [(2, (.t (.st [(.v (.int .i64 a5)), (.sl false 5 (GValue.ts a6)), (.sl false 3 (GPred.ts a7))]))), (4, (.t (.st [(.v (.int .i64 a8)), (.xl 5 (GValue.xs a9)), (.xl 3 (GPred.xs a10))]))), (5, (.t (.st [(.v (.int .i64 a11)), (.xl 5 (GValue.xs a12)), (.xl 3 (GPred.xs a13))])))]) = some (pred_part_l1.to r)
 | 0, a1, a2, a3, a4, a5, a6, a7, a8, a9, a10, a11, a12, a13, r, h => by rw [pred_part_l1] at h; cases h
 | k + 1, a1, a2, a3, a4, a5, a6, a7, a8, a9, a10, a11, a12, a13, r, h => by
  rw [pred_part_l1] at h
  rcases fk h with ⟨h1, h⟩ | ⟨h1, h⟩
  ·obtain ⟨h2, h⟩ := ck h
   obtain ⟨⟨a14, a15, a16, a17, a18⟩, h3, h⟩ := sm h
   obtain ⟨⟨a19, a20, a21, a22, a23⟩, h4, h⟩ := sm h
   obtain ⟨h5, h⟩ := cl h
   exact loop_more (path (ob_b h1 (ob_n h2 (ob_t (look_ts GValue.ts_map h3) (ob_c (ht.value_Copy _ _ h4) (ob_le (room_ts GValue.xs_map h5) (ob_l (app_ts GValue.xs_map (a := a12) (b := ([(GValue.mk a19 a20 a21 a22 a23)] : List GValue))) ob)))))) (by kernel_rfl)) (pred_part_l1.okL ht n k _ _ _ _ _ _ _ _ _ _ _ _ _ _ h)
  ·cases h
   exact loop_out (path (ob_b h1 ob) (by kernel_rfl)) (fun h => by cases h)
theorem pred_part_l3.okL (ht : TabOk t call) (n : Nat) : ∀ (k : Nat) (a1 : Int) (a2 : List GPred) (a3 a4 a5 : Int) (a6 : List GValue) (a7 : List GPred) (a8 : Int) (a9 : List GValue) (a10 : List GPred) (r : _), pred_part_l3 t n k a1 a2 a3 a4 a5 a6 a7 a8 a9 a10 = some r → loopN (exec (env Tryz.prog 96 Tryz.f96 call) n (sub [1, 1, 1, 1, 0, 1, 0, 0] (bodyOf Tryz.f96))) k (mkSt 49 49 [(1, (I6 a1)), (4, (.ptr 4 0 [] 0)), (5, (.ptr 5 0 [] 0)), (32, (Sl 3 (GPred.ts a2))), (33, (I6 a3)), (34, (I6 a4))] [(4, (.t (.st [(.v (.int .i64 a5)), (.xl 5 (GValue.xs a6)), (.xl 3 (GPred.xs a7))]))), (5, (.t (.st [(.v (.int .i64 a8)), (.xl 5 (GValue.xs a9)), (.xl 3 (GPred.xs a10))])))]) = some (pred_part_l3.to r)
 | 0, a1, a2, a3, a4, a5, a6, a7, a8, a9, a10, r, h => by rw [pred_part_l3] at h; cases h
 | k + 1, a1, a2, a3, a4, a5, a6, a7, a8, a9, a10, r, h => by
  rw [pred_part_l3] at h
  rcases fk h with ⟨h1, h⟩ | ⟨h1, h⟩
  ·obtain ⟨h2, h⟩ := ck h
   obtain ⟨⟨a11, a12, a13⟩, h3, h⟩ := sm h
   obtain ⟨⟨a14, a15, a16⟩, h4, h⟩ := sm h
   obtain ⟨h5, h⟩ := cl h
   exact loop_more (path (ob_b h1 (ob_n h2 (ob_t (look_ts GPred.ts_map h3) (ob_c (ht.pred_part _ _ _ h4) (ob_le (room_ts GPred.xs_map h5) (ob_l (app_ts GPred.xs_map (a := a10) (b := ([(GPred.mk a14 a15 a16)] : List GPred))) ob)))))) (by kernel_rfl)) (pred_part_l3.okL ht n k _ _ _ _ _ _ _ _ _ _ _ h)
  ·cases h
   exact loop_out (path (ob_b h1 ob) (by kernel_rfl)) (fun h => by cases h)
theorem pred_part_j2.ok (ht : TabOk t call) (n : Nat) (a1 a2 : Int) (a3 : List GValue) (a4 : List GPred) (a5 : Int) (a6 : List GValue) (a7 : List GPred) (a8 : Int) (a9 : List GValue) (a10 : List GPred) (r : _) (h : pred_part_j2 t n a1 a2 a3 a4 a5 a6 a7 a8 a9 a10 = some r) : exec (env Tryz.prog 96 Tryz.f96 call) n (sub [1, 1, 1, 1] (bodyOf Tryz.f96)) (mkSt 49 49 [(1, (I6 a1)), (2, (.ptr 2 0 [] 0)), (4, (.ptr 4 0 [] 0)), (5, (.ptr 5 0 [] 0))] [(2, (.t (.st [(.v (.int .i64 a2)), (.sl false 5 (GValue.ts a3)), (.sl false 3 (GPred.ts a4))]))), (4, (.t (.st [(.v (.int .i64 a5)), (.xl 5 (GValue.xs a6)), (.xl 3 (GPred.xs a7))]))), (5, (.t (.st [(.v (.int .i64 a8)), (.xl 5 (GValue.xs a9)), (.xl 3 (GPred.xs a10))])))]) = some (pred_part_j2.to r) := by
 rw [pred_part_j2] at h
 obtain ⟨⟨a11, a12, a13, a14, a15, a16, a17, a18, a19, a20, a21⟩, h1, h⟩ := sm h
 cases h
 exact path (ob_v (len_ts GPred.ts_map (l := a4)) (ob_k (lk (sub [1, 1, 1, 1, 0, 1, 0] (bodyOf Tryz.f96)) (by kernel_rfl) (pred_part_l3.okL ht n n _ _ _ _ _ _ _ _ _ _ _ h1)) ob)) (by kernel_rfl)
theorem pred_part.ok {n : Nat} {t : Tab} (ht : TabOk t (run Tryz.prog own kp X n)) : ∀ (p1 : GPred) (p2 : Int) r, pred_part t n p1 p2 = some r → run Tryz.prog own kp X (n + 1) 96 [(.t (GPred.t p1)), (I6 p2)] [] = some ((.t (GPred.x r)), []) := by
 intro p1 p2 r h
 obtain ⟨a1, a2, a3⟩ := p1
 obtain ⟨a4, rfl⟩ : ∃ z_, z_ = p2 := ⟨_, rfl⟩
 rw [pred_part] at h
 rcases fk h with ⟨h1, h⟩ | ⟨h1, h⟩
 ·cases h
  exact run_path Tryz.func96 (ob_b h1 ob) (by kernel_rfl)
 ·obtain ⟨⟨a5, a6, a7, a8, a9, a10, a11, a12, a13, a14, a15, a16, a17, a18⟩, h2, h⟩ := sm h
  obtain ⟨⟨a19, a20, a21⟩, h3, h⟩ := sm h
  cases h
  exact run_path Tryz.func96 (ob_b h1 (ob_v (len_ts GValue.ts_map (l := a2)) (ob_k (lk (sub [1, 1, 1, 0, 1, 0] (bodyOf Tryz.f96)) (by kernel_rfl) (pred_part_l1.okL ht n n _ _ _ _ _ _ _ _ _ _ _ _ _ _ h2)) (ob_j (pred_part_j2.ok ht n _ _ _ _ _ _ _ _ _ _ _ h3) ob)))) (by kernel_rfl)
theorem ref12_low_l1.okL (ht : TabOk t call) (n : Nat) : ∀ (k : Nat) (a1 : List Int) (a2 : Int) (r : _), ref12_low_l1 t n k a1 a2 = some r → loopN (exec (env Tryz.prog 87 Tryz.f87 call) n (sub [1, 0, 1, 0, 0] (bodyOf Tryz.f87))) k (mkSt 15 15 [(0, (Sl 1 (ints_i64 a1))), (3, (I6 a2))] []) = some (ref12_low_l1.to r)
 | 0, a1, a2, r, h => by rw [ref12_low_l1] at h; cases h
 | k + 1, a1, a2, r, h => by
  rw [ref12_low_l1] at h
  rcases fk h with ⟨h1, h⟩ | ⟨h1, h⟩
  ·obtain ⟨h2, h⟩ := ck h
   obtain ⟨a3, h3, h⟩ := sm h
   rcases fk h with ⟨h4, h⟩ | ⟨h4, h⟩
   ·cases h
    exact loop_out (path (ob_v (len_ts ints_i64_map (l := a1)) (ob_b h1 (ob_n h2 (ob_t (look_ts ints_i64_map h3) (ob_b h4 ob))))) (by kernel_rfl)) (fun h => by cases h)
   ·exact loop_more (path (ob_v (len_ts ints_i64_map (l := a1)) (ob_b h1 (ob_n h2 (ob_t (look_ts ints_i64_map h3) (ob_b h4 ob))))) (by kernel_rfl)) (ref12_low_l1.okL ht n k _ _ _ h)
  ·cases h
   exact loop_out (path (ob_v (len_ts ints_i64_map (l := a1)) (ob_b h1 ob)) (by kernel_rfl)) (fun h => by cases h)
theorem ref12_low.ok {n : Nat} {t : Tab} (ht : TabOk t (run Tryz.prog own kp X n)) : ∀ (p1 : List Int) r, ref12_low t n p1 = some r → run Tryz.prog own kp X (n + 1) 87 [(Sl 1 (ints_i64 p1))] [] = some ((Bo r), []) := by
 intro p1 r h
 obtain ⟨a1, rfl⟩ : ∃ z_, z_ = p1 := ⟨_, rfl⟩
 rw [ref12_low] at h
 obtain ⟨a2 | ⟨a3, a4, a5⟩, h1, h⟩ := sm h
 ·cases h
  exact run_path Tryz.func87 (ob_k (lk (sub [1, 0, 1, 0] (bodyOf Tryz.f87)) (by kernel_rfl) (ref12_low_l1.okL ht n n _ _ _ h1)) ob) (by kernel_rfl)
 ·cases h
  exact run_path Tryz.func87 (ob_k (lk (sub [1, 0, 1, 0] (bodyOf Tryz.f87)) (by kernel_rfl) (ref12_low_l1.okL ht n n _ _ _ h1)) ob) (by kernel_rfl)
theorem ref12_once_l2.okL (ht : TabOk t call) (n : Nat) : ∀ (k : Nat) (a1 : List ByteArray) (a2 a3 : Int) (r : _), ref12_once_l2 t n k a1 a2 a3 = some r → loopN (exec (env Tryz.prog 88 Tryz.f88 call) n (sub [1, 0, 1, 0, 0, 1, 0, 0, 1, 0, 0] (bodyOf Tryz.f88))) k (mkSt 25 25 [(0, (Sl 1 (texts a1))), (3, (I6 a2)), (4, (I6 a3))] []) = some (ref12_once_l2.to r)
 | 0, a1, a2, a3, r, h => by rw [ref12_once_l2] at h; cases h
 | k + 1, a1, a2, a3, r, h => by
  rw [ref12_once_l2] at h
  rcases fk h with ⟨h1, h⟩ | ⟨h1, h⟩
  ·obtain ⟨h2, h⟩ := ck h
   obtain ⟨a4, h3, h⟩ := sm h
   obtain ⟨h4, h⟩ := ck h
   obtain ⟨a5, h5, h⟩ := sm h
   rcases fk h with ⟨h6, h⟩ | ⟨h6, h⟩
   ·cases h
    exact loop_out (path (ob_b h1 (ob_n h2 (ob_t (look_ts texts_map h3) (ob_n h4 (ob_t (look_ts texts_map h5) (ob_b h6 ob)))))) (by kernel_rfl)) (fun h => by cases h)
   ·exact loop_more (path (ob_b h1 (ob_n h2 (ob_t (look_ts texts_map h3) (ob_n h4 (ob_t (look_ts texts_map h5) (ob_b h6 ob)))))) (by kernel_rfl)) (ref12_once_l2.okL ht n k _ _ _ _ h)
  ·cases h
   exact loop_out (path (ob_b h1 ob) (by kernel_rfl)) (fun h => by cases h)
theorem ref12_once_l1.okL (ht : TabOk t call) (n : Nat) : ∀ (k : Nat) (a1 : List ByteArray) (a2 : Int) (r : _), ref12_once_l1 t n k a1 a2 = some r → loopN (exec (env Tryz.prog 88 Tryz.f88 call) n (sub [1, 0, 1, 0, 0] (bodyOf Tryz.f88))) k (mkSt 25 25 [(0, (Sl 1 (texts a1))), (3, (I6 a2))] []) = some (ref12_once_l1.to r)
 | 0, a1, a2, r, h => by rw [ref12_once_l1] at h; cases h
 | k + 1, a1, a2, r, h => by
  rw [ref12_once_l1] at h
  rcases fk h with ⟨h1, h⟩ | ⟨h1, h⟩
  ·obtain ⟨a3 | ⟨a4, a5, a6, a7⟩, h2, h⟩ := sm h
   ·cases h
    exact loop_out (path (ob_v (len_ts texts_map (l := a1)) (ob_b h1 (ob_k (lk (sub [1, 0, 1, 0, 0, 1, 0, 0, 1, 0] (bodyOf Tryz.f88)) (by kernel_rfl) (ref12_once_l2.okL ht n n _ _ _ _ h2)) ob))) (by kernel_rfl)) (fun h => by cases h)
   ·exact loop_more (path (ob_v (len_ts texts_map (l := a1)) (ob_b h1 (ob_k (lk (sub [1, 0, 1, 0, 0, 1, 0, 0, 1, 0] (bodyOf Tryz.f88)) (by kernel_rfl) (ref12_once_l2.okL ht n n _ _ _ _ h2)) ob))) (by kernel_rfl)) (ref12_once_l1.okL ht n k _ _ _ h)
  ·cases h
   exact loop_out (path (ob_v (len_ts texts_map (l := a1)) (ob_b h1 ob)) (by kernel_rfl)) (fun h => by cases h)
theorem ref12_once.ok {n : Nat} {t : Tab} (ht : TabOk t (run Tryz.prog own kp X n)) : ∀ (p1 : List ByteArray) r, ref12_once t n p1 = some r → run Tryz.prog own kp X (n + 1) 88 [(Sl 1 (texts p1))] [] = some ((Bo r), []) := by
 intro p1 r h
 obtain ⟨a1, rfl⟩ : ∃ z_, z_ = p1 := ⟨_, rfl⟩
 rw [ref12_once] at h
 obtain ⟨a2 | ⟨a3, a4, a5⟩, h1, h⟩ := sm h
 ·cases h
  exact run_path Tryz.func88 (ob_k (lk (sub [1, 0, 1, 0] (bodyOf Tryz.f88)) (by kernel_rfl) (ref12_once_l1.okL ht n n _ _ _ h1)) ob) (by kernel_rfl)
 ·cases h
  exact run_path Tryz.func88 (ob_k (lk (sub [1, 0, 1, 0] (bodyOf Tryz.f88)) (by kernel_rfl) (ref12_once_l1.okL ht n n _ _ _ h1)) ob) (by kernel_rfl)
theorem ref05_Name_j2.ok (ht : TabOk t call) (n : Nat) (a1 : ByteArray) (a2 a3 : Int) (a4 : Bool) (r : _) (h : ref05_Name_j2 t n a1 a2 a3 a4 = some r) : exec (env Tryz.prog 89 Tryz.f89 call) n (sub [1, 0, 1, 0, 0, 1, 0, 0, 1, 1] (bodyOf Tryz.f89)) (mkSt 55 55 [(0, (Sr a1)), (3, (I6 a2)), (4, (.t (.v (.int .u8 a3)))), (5, (Bo a4))] []) = some (ref05_Name_j2.to r) := by
 rw [ref05_Name_j2] at h
 rcases fk h with ⟨h1, h⟩ | ⟨h1, h⟩
 ·cases h
  exact path (ob_b4 (congrArg (!·) h1) (ob_b3 (congrArg (!·) h1) (ob_b (rfl : false = false) ob))) (by kernel_rfl)
 ·have o3 {os} (x : Obls (env Tryz.prog 89 Tryz.f89 call) n os) := ob_b3 (congrArg (!·) h1) x
  rcases fk h with ⟨h2, h⟩ | ⟨h2, h⟩
  ·cases h
   exact path (o3 (ob_b2 h2 (ob_b (congrArg (!·) h1) (ob_b h2 (ob_b (congrArg (!·) h1) (ob_b2 (rfl : true = true) (ob_b (congrArg (!·) h1) (ob_b (rfl : true = true) (ob_b (congrArg (!·) h1) (ob_b (rfl : true = true) ob)))))))))) (by kernel_rfl)
  ·have o8 {os} (x : Obls (env Tryz.prog 89 Tryz.f89 call) n os) := o3 (ob_b2 h2 (ob_b (congrArg (!·) h1) (ob_b h2 (ob_b (congrArg (!·) h1) x))))
   rcases fk h with ⟨h3, h⟩ | ⟨h3, h⟩
   ·cases h
    exact path (o8 (ob_b2 h3 (ob_b (congrArg (!·) h1) (ob_b h3 (ob_b (congrArg (!·) h1) (ob_b (rfl : true = true) ob)))))) (by kernel_rfl)
   ·rcases fk h with ⟨h4, h⟩ | ⟨h4, h⟩
    ·cases h
     exact path (o8 (ob_b2 h3 (ob_b (congrArg (!·) h1) (ob_b h3 (ob_b (congrArg (!·) h1) (ob_b h4 ob)))))) (by kernel_rfl)
    ·cases h
     exact path (o8 (ob_b2 h3 (ob_b (congrArg (!·) h1) (ob_b h3 (ob_b (congrArg (!·) h1) (ob_b h4 ob)))))) (by kernel_rfl)
theorem ref05_Name_l1.okL (ht : TabOk t call) (n : Nat) : ∀ (k : Nat) (a1 : ByteArray) (a2 : Int) (r : _), ref05_Name_l1 t n k a1 a2 = some r → loopN (exec (env Tryz.prog 89 Tryz.f89 call) n (sub [1, 0, 1, 0, 0] (bodyOf Tryz.f89))) k (mkSt 55 55 [(0, (Sr a1)), (3, (I6 a2))] []) = some (ref05_Name_l1.to r)
 | 0, a1, a2, r, h => by rw [ref05_Name_l1] at h; cases h
 | k + 1, a1, a2, r, h => by
  rw [ref05_Name_l1] at h
  rcases fk h with ⟨h1, h⟩ | ⟨h1, h⟩
  ·obtain ⟨a3, h2, h⟩ := sm h
   have o2 {os} (x : Obls (env Tryz.prog 89 Tryz.f89 call) n os) := ob_b h1 (ob_v (at_ok (P := Tryz.prog) (t := 9) (k := .i64) (by kernel_rfl) h2) x)
   rcases fk h with ⟨h3, h⟩ | ⟨h3, h⟩
   ·have o5 {os} (x : Obls (env Tryz.prog 89 Tryz.f89 call) n os) := o2 (ob_b3 h3 x)
    rcases fk h with ⟨h4, h⟩ | ⟨h4, h⟩
    ·obtain ⟨⟨a4, a5⟩ | a6, h5, h⟩ := sm h
     ·exact loop_more (path (o5 (ob_b4 h4 (ob_b h4 (ob_b3 (rfl : true = true) (ob_j (ref05_Name_j2.ok ht n _ _ _ _ _ h5) ob))))) (by kernel_rfl)) (ref05_Name_l1.okL ht n k _ _ _ h)
     ·cases h
      exact loop_out (path (o5 (ob_b4 h4 (ob_b h4 (ob_b3 (rfl : true = true) (ob_j (ref05_Name_j2.ok ht n _ _ _ _ _ h5) ob))))) (by kernel_rfl)) (fun h => by cases h)
    ·rcases fk h with ⟨h6, h⟩ | ⟨h6, h⟩
     ·have o13 {os} (x : Obls (env Tryz.prog 89 Tryz.f89 call) n os) := o5 (ob_b3 h4 (ob_b2 h6 (ob_b h4 (ob_b h6 (ob_b h4 x)))))
      rcases fk h with ⟨h7, h⟩ | ⟨h7, h⟩
      ·obtain ⟨⟨a7, a8⟩ | a9, h8, h⟩ := sm h
       ·exact loop_more (path (o13 (ob_b3 h7 (ob_j (ref05_Name_j2.ok ht n _ _ _ _ _ h8) ob))) (by kernel_rfl)) (ref05_Name_l1.okL ht n k _ _ _ h)
       ·cases h
        exact loop_out (path (o13 (ob_b3 h7 (ob_j (ref05_Name_j2.ok ht n _ _ _ _ _ h8) ob))) (by kernel_rfl)) (fun h => by cases h)
      ·obtain ⟨⟨a10, a11⟩ | a12, h9, h⟩ := sm h
       ·exact loop_more (path (o13 (ob_b3 h7 (ob_j (ref05_Name_j2.ok ht n _ _ _ _ _ h9) ob))) (by kernel_rfl)) (ref05_Name_l1.okL ht n k _ _ _ h)
       ·cases h
        exact loop_out (path (o13 (ob_b3 h7 (ob_j (ref05_Name_j2.ok ht n _ _ _ _ _ h9) ob))) (by kernel_rfl)) (fun h => by cases h)
     ·have o16 {os} (x : Obls (env Tryz.prog 89 Tryz.f89 call) n os) := o5 (ob_b3 h4 (ob_b2 h6 (ob_b h4 (ob_b h6 (ob_b h4 (ob_b3 (rfl : false = false) x))))))
      obtain ⟨⟨a13, a14⟩ | a15, h10, h⟩ := sm h
      ·exact loop_more (path (o16 (ob_j (ref05_Name_j2.ok ht n _ _ _ _ _ h10) ob)) (by kernel_rfl)) (ref05_Name_l1.okL ht n k _ _ _ h)
      ·cases h
       exact loop_out (path (o16 (ob_j (ref05_Name_j2.ok ht n _ _ _ _ _ h10) ob)) (by kernel_rfl)) (fun h => by cases h)
   ·have o8 {os} (x : Obls (env Tryz.prog 89 Tryz.f89 call) n os) := o2 (ob_b3 h3 (ob_b3 (rfl : false = false) x))
    rcases fk h with ⟨h11, h⟩ | ⟨h11, h⟩
    ·have o13 {os} (x : Obls (env Tryz.prog 89 Tryz.f89 call) n os) := o8 (ob_b2 h11 (ob_b (rfl : false = false) (ob_b h11 (ob_b (rfl : false = false) x))))
     rcases fk h with ⟨h12, h⟩ | ⟨h12, h⟩
     ·obtain ⟨⟨a16, a17⟩ | a18, h13, h⟩ := sm h
      ·exact loop_more (path (o13 (ob_b3 h12 (ob_j (ref05_Name_j2.ok ht n _ _ _ _ _ h13) ob))) (by kernel_rfl)) (ref05_Name_l1.okL ht n k _ _ _ h)
      ·cases h
       exact loop_out (path (o13 (ob_b3 h12 (ob_j (ref05_Name_j2.ok ht n _ _ _ _ _ h13) ob))) (by kernel_rfl)) (fun h => by cases h)
     ·obtain ⟨⟨a19, a20⟩ | a21, h14, h⟩ := sm h
      ·exact loop_more (path (o13 (ob_b3 h12 (ob_j (ref05_Name_j2.ok ht n _ _ _ _ _ h14) ob))) (by kernel_rfl)) (ref05_Name_l1.okL ht n k _ _ _ h)
      ·cases h
       exact loop_out (path (o13 (ob_b3 h12 (ob_j (ref05_Name_j2.ok ht n _ _ _ _ _ h14) ob))) (by kernel_rfl)) (fun h => by cases h)
    ·have o16 {os} (x : Obls (env Tryz.prog 89 Tryz.f89 call) n os) := o8 (ob_b2 h11 (ob_b (rfl : false = false) (ob_b h11 (ob_b4 (rfl : false = false) x))))
     obtain ⟨⟨a22, a23⟩ | a24, h15, h⟩ := sm h
     ·exact loop_more (path (o16 (ob_j (ref05_Name_j2.ok ht n _ _ _ _ _ h15) ob)) (by kernel_rfl)) (ref05_Name_l1.okL ht n k _ _ _ h)
     ·cases h
      exact loop_out (path (o16 (ob_j (ref05_Name_j2.ok ht n _ _ _ _ _ h15) ob)) (by kernel_rfl)) (fun h => by cases h)
  ·cases h
   exact loop_out (path (ob_b h1 ob) (by kernel_rfl)) (fun h => by cases h)
theorem ref05_Name_j3.ok (ht : TabOk t call) (n : Nat) (a1 : ByteArray) (r : _) (h : ref05_Name_j3 t n a1 = some r) : exec (env Tryz.prog 89 Tryz.f89 call) n (sub [1, 1] (bodyOf Tryz.f89)) (mkSt 55 55 [(0, (Sr a1))] []) = some (ref05_Name_j3.to r) := by
 rw [ref05_Name_j3] at h
 rcases fk h with ⟨h1, h⟩ | ⟨h1, h⟩
 ·cases h
  exact path (ob_b4 h1 ob) (by kernel_rfl)
 ·cases h
  exact path (ob_b4 h1 ob) (by kernel_rfl)
theorem ref05_Name.ok {n : Nat} {t : Tab} (ht : TabOk t (run Tryz.prog own kp X n)) : ∀ (p1 : ByteArray) r, ref05_Name t n p1 = some r → run Tryz.prog own kp X (n + 1) 89 [(Sr p1)] [] = some ((Bo r), []) := by
 intro p1 r h
 obtain ⟨a1, rfl⟩ : ∃ z_, z_ = p1 := ⟨_, rfl⟩
 rw [ref05_Name] at h
 obtain ⟨a2 | ⟨a3, a4, a5⟩, h1, h⟩ := sm h
 ·cases h
  exact run_path Tryz.func89 (ob_k (lk (sub [1, 0, 1, 0] (bodyOf Tryz.f89)) (by kernel_rfl) (ref05_Name_l1.okL ht n n _ _ _ h1)) ob) (by kernel_rfl)
 ·obtain ⟨a6, rfl⟩ : ∃ z_, z_ = r := ⟨_, rfl⟩
  have h2 := h
  exact run_path Tryz.func89 (ob_k (lk (sub [1, 0, 1, 0] (bodyOf Tryz.f89)) (by kernel_rfl) (ref05_Name_l1.okL ht n n _ _ _ h1)) (ob_j (ref05_Name_j3.ok ht n _ _ h2) ob)) (by kernel_rfl)
theorem ref02_right_l2.okL (ht : TabOk t call) (n : Nat) : ∀ (k : Nat) (a1 a2 a3 a4 : Int) (a5 : ByteArray) (a6 a7 : List GValue) (r : _), ref02_right_l2 t n k a1 a2 a3 a4 a5 a6 a7 = some r → loopN (exec (env Tryz.prog 90 Tryz.f90 call) n (sub [1, 1, 0, 1, 0, 0] (bodyOf Tryz.f90))) k (mkSt 68 68 [(1, (I6 a1)), (2, (.ptr 2 0 [] 0)), (5, (I6 a2))] [(2, (.t (.st [(.v (.int .i64 a3)), (.v (.int .i64 a4)), (.v (.string a5)), (.sl false 5 (GValue.ts a6)), (.sl false 5 (GValue.ts a7))])))]) = some (ref02_right_l2.to r)
 | 0, a1, a2, a3, a4, a5, a6, a7, r, h => by rw [ref02_right_l2] at h; cases h
 | k + 1, a1, a2, a3, a4, a5, a6, a7, r, h => by
  rw [ref02_right_l2] at h
  rcases fk h with ⟨h1, h⟩ | ⟨h1, h⟩
  ·obtain ⟨h2, h⟩ := ck h
   obtain ⟨⟨a8, a9, a10, a11, a12⟩, h3, h⟩ := sm h
   obtain ⟨a13, h4, h⟩ := sm h
   have o5 {os} (x : Obls (env Tryz.prog 90 Tryz.f90 call) n os) := ob_v (len_ts GValue.ts_map (l := a6)) (ob_b h1 (ob_n h2 (ob_t (look_ts GValue.ts_map h3) (ob_c (ht.ref02_right _ _ _ h4) x))))
   rcases fk h with ⟨h5, h⟩ | ⟨h5, h⟩
   ·rcases fk h with ⟨h6, h⟩ | ⟨h6, h⟩
    ·rcases fk h with ⟨h7, h⟩ | ⟨h7, h⟩
     ·obtain ⟨h8, h⟩ := ck h
      obtain ⟨⟨a14, a15, a16, a17, a18⟩, h9, h⟩ := sm h
      obtain ⟨a19, h10, h⟩ := sm h
      have o28 {os} (x : Obls (env Tryz.prog 90 Tryz.f90 call) n os) := o5 (ob_b (congrArg (!·) h5) (ob_b3 h6 (ob_b4 h7 (ob_b h7 (ob_n h8 (ob_t (look_ts GValue.ts_map h9) (ob_b4 h7 (ob_b h7 (ob_n h2 (ob_t (look_ts GValue.ts_map h3) (ob_b2 h7 (ob_c (ht.ref02_Cmp _ _ _ h10) (ob_b2 h7 x)))))))))))))
      rcases fk h with ⟨h11, h⟩ | ⟨h11, h⟩
      ·cases h
       exact loop_out (path (o28 (ob_b h11 ob)) (by kernel_rfl)) (fun h => by cases h)
      ·exact loop_more (path (o28 (ob_b h11 ob)) (by kernel_rfl)) (ref02_right_l2.okL ht n k _ _ _ _ _ _ _ _ h)
     ·exact loop_more (path (o5 (ob_b (congrArg (!·) h5) (ob_b3 h6 (ob_b4 h7 (ob_b4 h7 (ob_b4 h7 (ob_b2 h7 (ob_b (rfl : false = false) ob)))))))) (by kernel_rfl)) (ref02_right_l2.okL ht n k _ _ _ _ _ _ _ _ h)
    ·exact loop_more (path (o5 (ob_b (congrArg (!·) h5) (ob_b3 h6 (ob_b4 (rfl : false = false) (ob_b4 (rfl : false = false) (ob_b4 (rfl : false = false) (ob_b3 (rfl : false = false) ob))))))) (by kernel_rfl)) (ref02_right_l2.okL ht n k _ _ _ _ _ _ _ _ h)
   ·cases h
    exact loop_out (path (o5 (ob_b (congrArg (!·) h5) ob)) (by kernel_rfl)) (fun h => by cases h)
  ·cases h
   exact loop_out (path (ob_v (len_ts GValue.ts_map (l := a6)) (ob_b h1 ob)) (by kernel_rfl)) (fun h => by cases h)
theorem ref02_right_l4.okL (ht : TabOk t call) (n : Nat) : ∀ (k : Nat) (a1 a2 a3 a4 : Int) (a5 : ByteArray) (a6 a7 : List GValue) (r : _), ref02_right_l4 t n k a1 a2 a3 a4 a5 a6 a7 = some r → loopN (exec (env Tryz.prog 90 Tryz.f90 call) n (sub [1, 1, 1, 0, 1, 0, 0] (bodyOf Tryz.f90))) k (mkSt 68 68 [(1, (I6 a1)), (2, (.ptr 2 0 [] 0)), (6, (I6 a2))] [(2, (.t (.st [(.v (.int .i64 a3)), (.v (.int .i64 a4)), (.v (.string a5)), (.sl false 5 (GValue.ts a6)), (.sl false 5 (GValue.ts a7))])))]) = some (ref02_right_l4.to r)
 | 0, a1, a2, a3, a4, a5, a6, a7, r, h => by rw [ref02_right_l4] at h; cases h
 | k + 1, a1, a2, a3, a4, a5, a6, a7, r, h => by
  rw [ref02_right_l4] at h
  rcases fk h with ⟨h1, h⟩ | ⟨h1, h⟩
  ·obtain ⟨h2, h⟩ := ck h
   obtain ⟨⟨a8, a9, a10, a11, a12⟩, h3, h⟩ := sm h
   obtain ⟨a13, h4, h⟩ := sm h
   rcases fk h with ⟨h5, h⟩ | ⟨h5, h⟩
   ·exact loop_more (path (ob_v (len_ts GValue.ts_map (l := a7)) (ob_b h1 (ob_n h2 (ob_t (look_ts GValue.ts_map h3) (ob_c (ht.ref02_right _ _ _ h4) (ob_b (congrArg (!·) h5) ob)))))) (by kernel_rfl)) (ref02_right_l4.okL ht n k _ _ _ _ _ _ _ _ h)
   ·cases h
    exact loop_out (path (ob_v (len_ts GValue.ts_map (l := a7)) (ob_b h1 (ob_n h2 (ob_t (look_ts GValue.ts_map h3) (ob_c (ht.ref02_right _ _ _ h4) (ob_b (congrArg (!·) h5) ob)))))) (by kernel_rfl)) (fun h => by cases h)
  ·cases h
   exact loop_out (path (ob_v (len_ts GValue.ts_map (l := a7)) (ob_b h1 ob)) (by kernel_rfl)) (fun h => by cases h)
theorem ref02_right_j3.ok (ht : TabOk t call) (n : Nat) (a1 a2 a3 : Int) (a4 : ByteArray) (a5 a6 : List GValue) (r : _) (h : ref02_right_j3 t n a1 a2 a3 a4 a5 a6 = some r) : exec (env Tryz.prog 90 Tryz.f90 call) n (sub [1, 1, 1] (bodyOf Tryz.f90)) (mkSt 68 68 [(1, (I6 a1)), (2, (.ptr 2 0 [] 0))] [(2, (.t (.st [(.v (.int .i64 a2)), (.v (.int .i64 a3)), (.v (.string a4)), (.sl false 5 (GValue.ts a5)), (.sl false 5 (GValue.ts a6))])))]) = some (ref02_right_j3.to r) := by
 rw [ref02_right_j3] at h
 obtain ⟨a7 | ⟨a8, a9, a10, a11, a12, a13, a14, a15⟩, h1, h⟩ := sm h
 ·cases h
  exact path (ob_k (lk (sub [1, 1, 1, 0, 1, 0] (bodyOf Tryz.f90)) (by kernel_rfl) (ref02_right_l4.okL ht n n _ _ _ _ _ _ _ _ h1)) ob) (by kernel_rfl)
 ·cases h
  exact path (ob_k (lk (sub [1, 1, 1, 0, 1, 0] (bodyOf Tryz.f90)) (by kernel_rfl) (ref02_right_l4.okL ht n n _ _ _ _ _ _ _ _ h1)) ob) (by kernel_rfl)
theorem ref02_right_j1.ok (ht : TabOk t call) (n : Nat) (a1 a2 a3 : Int) (a4 : ByteArray) (a5 a6 : List GValue) (r : _) (h : ref02_right_j1 t n a1 a2 a3 a4 a5 a6 = some r) : exec (env Tryz.prog 90 Tryz.f90 call) n (sub [1, 1] (bodyOf Tryz.f90)) (mkSt 68 68 [(1, (I6 a1)), (2, (.ptr 2 0 [] 0))] [(2, (.t (.st [(.v (.int .i64 a2)), (.v (.int .i64 a3)), (.v (.string a4)), (.sl false 5 (GValue.ts a5)), (.sl false 5 (GValue.ts a6))])))]) = some (ref02_right_j1.to r) := by
 rw [ref02_right_j1] at h
 obtain ⟨a7 | ⟨a8, a9, a10, a11, a12, a13, a14, a15⟩, h1, h⟩ := sm h
 ·cases h
  exact path (ob_k (lk (sub [1, 1, 0, 1, 0] (bodyOf Tryz.f90)) (by kernel_rfl) (ref02_right_l2.okL ht n n _ _ _ _ _ _ _ _ h1)) ob) (by kernel_rfl)
 ·obtain ⟨a16, rfl⟩ : ∃ z_, z_ = r := ⟨_, rfl⟩
  have h2 := h
  exact path (ob_k (lk (sub [1, 1, 0, 1, 0] (bodyOf Tryz.f90)) (by kernel_rfl) (ref02_right_l2.okL ht n n _ _ _ _ _ _ _ _ h1)) (ob_j (ref02_right_j3.ok ht n _ _ _ _ _ _ _ h2) ob)) (by kernel_rfl)
theorem ref02_right.ok {n : Nat} {t : Tab} (ht : TabOk t (run Tryz.prog own kp X n)) : ∀ (p1 : GValue) (p2 : Int) r, ref02_right t n p1 p2 = some r → run Tryz.prog own kp X (n + 1) 90 [(.t (GValue.t p1)), (I6 p2)] [] = some ((Bo r), []) := by
 intro p1 p2 r h
 obtain ⟨a1, a2, a3, a4, a5⟩ := p1
 obtain ⟨a6, rfl⟩ : ∃ z_, z_ = p2 := ⟨_, rfl⟩
 rw [ref02_right] at h
 rcases fk h with ⟨h1, h⟩ | ⟨h1, h⟩
 ·cases h
  exact run_path Tryz.func90 (ob_b4 h1 (ob_b (rfl : true = true) ob)) (by kernel_rfl)
 ·obtain ⟨a7, h2, h⟩ := sm h
  rcases fk h with ⟨h3, h⟩ | ⟨h3, h⟩
  ·obtain ⟨a8, rfl⟩ : ∃ z_, z_ = r := ⟨_, rfl⟩
   have h4 := h
   exact run_path Tryz.func90 (ob_b2 h1 (ob_c (ht.ref02_fields _ _ h2) (ob_b2 h1 (ob_b (congrArg (!·) h3) (ob_j (ref02_right_j1.ok ht n _ _ _ _ _ _ _ h4) ob))))) (by kernel_rfl)
  ·cases h
   exact run_path Tryz.func90 (ob_b2 h1 (ob_c (ht.ref02_fields _ _ h2) (ob_b2 h1 (ob_b (congrArg (!·) h3) ob)))) (by kernel_rfl)
theorem ref09_right_j4.ok (ht : TabOk t call) (n : Nat) (a1 a2 a3 : Int) (a4 a5 : Bool) (a6 : Int) (a7 : List GValue) (a8 : List GPred) (r : _) (h : ref09_right_j4 t n a1 a2 a3 a4 a5 a6 a7 a8 = some r) : exec (env Tryz.prog 91 Tryz.f91 call) n (sub [1, 1, 1, 1, 0, 1, 0, 1, 1, 1, 1, 1, 1, 1, 1, 1] (bodyOf Tryz.f91)) (mkSt 105 105 [(1, (I6 a1)), (2, (.ptr 2 0 [] 0)), (5, (I6 a2)), (6, (I6 a3)), (7, (Bo a4)), (59, (Bo a5))] [(2, (.t (.st [(.v (.int .i64 a6)), (.sl false 5 (GValue.ts a7)), (.sl false 3 (GPred.ts a8))])))]) = some (ref09_right_j4.to r) := by
 rw [ref09_right_j4] at h
 rcases fk h with ⟨h1, h⟩ | ⟨h1, h⟩
 ·rcases fk h with ⟨h2, h⟩ | ⟨h2, h⟩
  ·rcases fk h with ⟨h3, h⟩ | ⟨h3, h⟩
   ·cases h
    exact path (ob_b h1 (ob_b3 h2 (ob_b3 h3 ob))) (by kernel_rfl)
   ·cases h
    exact path (ob_b h1 (ob_b3 h2 (ob_b3 h3 ob))) (by kernel_rfl)
  ·cases h
   exact path (ob_b h1 (ob_b3 h2 (ob_b3 (rfl : false = false) ob))) (by kernel_rfl)
 ·cases h
  exact path (ob_b h1 ob) (by kernel_rfl)
theorem ref09_right_j3.ok (ht : TabOk t call) (n : Nat) (a1 a2 a3 : Int) (a4 : Bool) (a5 : Int) (a6 : Bool) (a7 : Int) (a8 : List GValue) (a9 : List GPred) (r : _) (h : ref09_right_j3 t n a1 a2 a3 a4 a5 a6 a7 a8 a9 = some r) : exec (env Tryz.prog 91 Tryz.f91 call) n (sub [1, 1, 1, 1, 0, 1, 0, 1, 1, 1, 1, 1] (bodyOf Tryz.f91)) (mkSt 105 105 [(1, (I6 a1)), (2, (.ptr 2 0 [] 0)), (5, (I6 a2)), (6, (I6 a3)), (7, (Bo a4)), (18, (I6 a5)), (42, (Bo a6))] [(2, (.t (.st [(.v (.int .i64 a7)), (.sl false 5 (GValue.ts a8)), (.sl false 3 (GPred.ts a9))])))]) = some (ref09_right_j3.to r) := by
 rw [ref09_right_j3] at h
 rcases fk h with ⟨h1, h⟩ | ⟨h1, h⟩
 ·rcases fk h with ⟨h2, h⟩ | ⟨h2, h⟩
  ·cases h
   exact path (ob_b h1 (ob_b3 h2 ob)) (by kernel_rfl)
  ·cases h
   exact path (ob_b h1 (ob_b3 h2 ob)) (by kernel_rfl)
 ·rcases fk h with ⟨h3, h⟩ | ⟨h3, h⟩
  ·rcases fk h with ⟨h4, h⟩ | ⟨h4, h⟩
   ·cases h
    exact path (ob_b h1 (ob_b h3 (ob_b3 h4 ob))) (by kernel_rfl)
   ·cases h
    exact path (ob_b h1 (ob_b h3 (ob_b3 h4 ob))) (by kernel_rfl)
  ·rcases fk h with ⟨h5, h⟩ | ⟨h5, h⟩
   ·obtain ⟨a10, a11, a12, a13, a14, a15, a16⟩ := r
    have h6 := h
    exact path (ob_b h1 (ob_b h3 (ob_b h5 (ob_j (ref09_right_j4.ok ht n _ _ _ _ _ _ _ _ _ h6) ob)))) (by kernel_rfl)
   ·obtain ⟨a17, a18, a19, a20, a21, a22, a23⟩ := r
    have h7 := h
    exact path (ob_b h1 (ob_b h3 (ob_b h5 (ob_j (ref09_right_j4.ok ht n _ _ _ _ _ _ _ _ _ h7) ob)))) (by kernel_rfl)
theorem ref09_right_j2.ok (ht : TabOk t call) (n : Nat) (a1 a2 a3 : Int) (a4 : Bool) (a5 : Int) (a6 : Bool) (a7 : Int) (a8 : List GValue) (a9 : List GPred) (r : _) (h : ref09_right_j2 t n a1 a2 a3 a4 a5 a6 a7 a8 a9 = some r) : exec (env Tryz.prog 91 Tryz.f91 call) n (sub [1, 1, 1, 1, 0, 1, 0, 1, 1, 1] (bodyOf Tryz.f91)) (mkSt 105 105 [(1, (I6 a1)), (2, (.ptr 2 0 [] 0)), (5, (I6 a2)), (6, (I6 a3)), (7, (Bo a4)), (18, (I6 a5)), (32, (Bo a6))] [(2, (.t (.st [(.v (.int .i64 a7)), (.sl false 5 (GValue.ts a8)), (.sl false 3 (GPred.ts a9))])))]) = some (ref09_right_j2.to r) := by
 rw [ref09_right_j2] at h
 rcases fk h with ⟨h1, h⟩ | ⟨h1, h⟩
 ·rcases fk h with ⟨h2, h⟩ | ⟨h2, h⟩
  ·cases h
   exact path (ob_b h1 (ob_b3 h2 ob)) (by kernel_rfl)
  ·cases h
   exact path (ob_b h1 (ob_b3 h2 ob)) (by kernel_rfl)
 ·rcases fk h with ⟨h3, h⟩ | ⟨h3, h⟩
  ·obtain ⟨a10, a11, a12, a13, a14, a15, a16⟩ := r
   have h4 := h
   exact path (ob_b h1 (ob_b h3 (ob_j (ref09_right_j3.ok ht n _ _ _ _ _ _ _ _ _ _ h4) ob))) (by kernel_rfl)
  ·obtain ⟨a17, a18, a19, a20, a21, a22, a23⟩ := r
   have h5 := h
   exact path (ob_b h1 (ob_b h3 (ob_j (ref09_right_j3.ok ht n _ _ _ _ _ _ _ _ _ _ h5) ob))) (by kernel_rfl)
theorem ref09_right_j1.ok (ht : TabOk t call) (n : Nat) (a1 a2 a3 : Int) (a4 : Bool) (a5 : Int) (a6 : Bool) (a7 : Int) (a8 : List GValue) (a9 : List GPred) (r : _) (h : ref09_right_j1 t n a1 a2 a3 a4 a5 a6 a7 a8 a9 = some r) : exec (env Tryz.prog 91 Tryz.f91 call) n (sub [1, 1, 1, 1, 0, 1, 0, 1] (bodyOf Tryz.f91)) (mkSt 105 105 [(1, (I6 a1)), (2, (.ptr 2 0 [] 0)), (5, (I6 a2)), (6, (I6 a3)), (7, (Bo a4)), (18, (I6 a5)), (19, (Bo a6))] [(2, (.t (.st [(.v (.int .i64 a7)), (.sl false 5 (GValue.ts a8)), (.sl false 3 (GPred.ts a9))])))]) = some (ref09_right_j1.to r) := by
 rw [ref09_right_j1] at h
 rcases fk h with ⟨h1, h⟩ | ⟨h1, h⟩
 ·rcases fk h with ⟨h2, h⟩ | ⟨h2, h⟩
  ·cases h
   exact path (ob_b h1 (ob_b3 h2 ob)) (by kernel_rfl)
  ·cases h
   exact path (ob_b h1 (ob_b3 h2 ob)) (by kernel_rfl)
 ·rcases fk h with ⟨h3, h⟩ | ⟨h3, h⟩
  ·obtain ⟨a10, a11, a12, a13, a14, a15, a16⟩ := r
   have h4 := h
   exact path (ob_b h1 (ob_b h3 (ob_j (ref09_right_j2.ok ht n _ _ _ _ _ _ _ _ _ _ h4) ob))) (by kernel_rfl)
  ·rcases fk h with ⟨h5, h⟩ | ⟨h5, h⟩
   ·obtain ⟨a17, a18, a19, a20, a21, a22, a23⟩ := r
    have h6 := h
    exact path (ob_b h1 (ob_b h3 (ob_b h5 (ob_j (ref09_right_j2.ok ht n _ _ _ _ _ _ _ _ _ _ h6) ob)))) (by kernel_rfl)
   ·obtain ⟨a24, a25, a26, a27, a28, a29, a30⟩ := r
    have h7 := h
    exact path (ob_b h1 (ob_b h3 (ob_b h5 (ob_j (ref09_right_j2.ok ht n _ _ _ _ _ _ _ _ _ _ h7) ob)))) (by kernel_rfl)
theorem ref09_right_l7.okL (ht : TabOk t call) (n : Nat) : ∀ (k : Nat) (a1 a2 a3 a4 a5 : Int) (a6 : List GValue) (a7 : List GPred) (r : _), ref09_right_l7 t n k a1 a2 a3 a4 a5 a6 a7 = some r → loopN (exec (env Tryz.prog 91 Tryz.f91 call) n (sub [1, 1, 1, 1, 1, 1, 0, 1, 0, 0] (bodyOf Tryz.f91))) k (mkSt 105 105 [(1, (I6 a1)), (2, (.ptr 2 0 [] 0)), (5, (I6 a2)), (6, (I6 a3)), (8, (I6 a4))] [(2, (.t (.st [(.v (.int .i64 a5)), (.sl false 5 (GValue.ts a6)), (.sl false 3 (GPred.ts a7))])))]) = some (ref09_right_l7.to r)
 | 0, a1, a2, a3, a4, a5, a6, a7, r, h => by rw [ref09_right_l7] at h; cases h
 | k + 1, a1, a2, a3, a4, a5, a6, a7, r, h => by
  rw [ref09_right_l7] at h
  rcases fk h with ⟨h1, h⟩ | ⟨h1, h⟩
  ·obtain ⟨h2, h⟩ := ck h
   obtain ⟨⟨a8, a9, a10, a11, a12⟩, h3, h⟩ := sm h
   obtain ⟨a13, h4, h⟩ := sm h
   rcases fk h with ⟨h5, h⟩ | ⟨h5, h⟩
   ·cases h
    exact loop_out (path (ob_b h1 (ob_n h2 (ob_t (look_ts GValue.ts_map h3) (ob_c (ht.ref02_Check _ _ h4) (ob_b h5 ob))))) (by kernel_rfl)) (fun h => by cases h)
   ·exact loop_more (path (ob_b h1 (ob_n h2 (ob_t (look_ts GValue.ts_map h3) (ob_c (ht.ref02_Check _ _ h4) (ob_b h5 ob))))) (by kernel_rfl)) (ref09_right_l7.okL ht n k _ _ _ _ _ _ _ _ h)
  ·cases h
   exact loop_out (path (ob_b h1 ob) (by kernel_rfl)) (fun h => by cases h)
theorem ref09_right_l9.okL (ht : TabOk t call) (n : Nat) : ∀ (k : Nat) (a1 a2 a3 a4 : Int) (a5 : List GValue) (a6 : List GPred) (r : _), ref09_right_l9 t n k a1 a2 a3 a4 a5 a6 = some r → loopN (exec (env Tryz.prog 91 Tryz.f91 call) n (sub [1, 1, 1, 1, 1, 1, 1, 0, 1, 0, 0] (bodyOf Tryz.f91))) k (mkSt 105 105 [(1, (I6 a1)), (2, (.ptr 2 0 [] 0)), (6, (I6 a2)), (10, (I6 a3))] [(2, (.t (.st [(.v (.int .i64 a4)), (.sl false 5 (GValue.ts a5)), (.sl false 3 (GPred.ts a6))])))]) = some (ref09_right_l9.to r)
 | 0, a1, a2, a3, a4, a5, a6, r, h => by rw [ref09_right_l9] at h; cases h
 | k + 1, a1, a2, a3, a4, a5, a6, r, h => by
  rw [ref09_right_l9] at h
  rcases fk h with ⟨h1, h⟩ | ⟨h1, h⟩
  ·obtain ⟨h2, h⟩ := ck h
   obtain ⟨⟨a7, a8, a9⟩, h3, h⟩ := sm h
   obtain ⟨a10, h4, h⟩ := sm h
   rcases fk h with ⟨h5, h⟩ | ⟨h5, h⟩
   ·exact loop_more (path (ob_b h1 (ob_n h2 (ob_t (look_ts GPred.ts_map h3) (ob_c (ht.ref09_right _ _ _ h4) (ob_b (congrArg (!·) h5) ob))))) (by kernel_rfl)) (ref09_right_l9.okL ht n k _ _ _ _ _ _ _ h)
   ·cases h
    exact loop_out (path (ob_b h1 (ob_n h2 (ob_t (look_ts GPred.ts_map h3) (ob_c (ht.ref09_right _ _ _ h4) (ob_b (congrArg (!·) h5) ob))))) (by kernel_rfl)) (fun h => by cases h)
  ·cases h
   exact loop_out (path (ob_b h1 ob) (by kernel_rfl)) (fun h => by cases h)
theorem ref09_right_j8.ok (ht : TabOk t call) (n : Nat) (a1 a2 a3 : Int) (a4 : List GValue) (a5 : List GPred) (r : _) (h : ref09_right_j8 t n a1 a2 a3 a4 a5 = some r) : exec (env Tryz.prog 91 Tryz.f91 call) n (sub [1, 1, 1, 1, 1, 1, 1] (bodyOf Tryz.f91)) (mkSt 105 105 [(1, (I6 a1)), (2, (.ptr 2 0 [] 0)), (6, (I6 a2))] [(2, (.t (.st [(.v (.int .i64 a3)), (.sl false 5 (GValue.ts a4)), (.sl false 3 (GPred.ts a5))])))]) = some (ref09_right_j8.to r) := by
 rw [ref09_right_j8] at h
 obtain ⟨a6 | ⟨a7, a8, a9, a10, a11, a12, a13⟩, h1, h⟩ := sm h
 ·cases h
  exact path (ob_k (lk (sub [1, 1, 1, 1, 1, 1, 1, 0, 1, 0] (bodyOf Tryz.f91)) (by kernel_rfl) (ref09_right_l9.okL ht n n _ _ _ _ _ _ _ h1)) ob) (by kernel_rfl)
 ·cases h
  exact path (ob_k (lk (sub [1, 1, 1, 1, 1, 1, 1, 0, 1, 0] (bodyOf Tryz.f91)) (by kernel_rfl) (ref09_right_l9.okL ht n n _ _ _ _ _ _ _ h1)) ob) (by kernel_rfl)
theorem ref09_right_j6.ok (ht : TabOk t call) (n : Nat) (a1 a2 a3 a4 : Int) (a5 : List GValue) (a6 : List GPred) (r : _) (h : ref09_right_j6 t n a1 a2 a3 a4 a5 a6 = some r) : exec (env Tryz.prog 91 Tryz.f91 call) n (sub [1, 1, 1, 1, 1, 1] (bodyOf Tryz.f91)) (mkSt 105 105 [(1, (I6 a1)), (2, (.ptr 2 0 [] 0)), (5, (I6 a2)), (6, (I6 a3))] [(2, (.t (.st [(.v (.int .i64 a4)), (.sl false 5 (GValue.ts a5)), (.sl false 3 (GPred.ts a6))])))]) = some (ref09_right_j6.to r) := by
 rw [ref09_right_j6] at h
 obtain ⟨a7 | ⟨a8, a9, a10, a11, a12, a13, a14, a15⟩, h1, h⟩ := sm h
 ·cases h
  exact path (ob_k (lk (sub [1, 1, 1, 1, 1, 1, 0, 1, 0] (bodyOf Tryz.f91)) (by kernel_rfl) (ref09_right_l7.okL ht n n _ _ _ _ _ _ _ _ h1)) ob) (by kernel_rfl)
 ·obtain ⟨a16, rfl⟩ : ∃ z_, z_ = r := ⟨_, rfl⟩
  have h2 := h
  exact path (ob_k (lk (sub [1, 1, 1, 1, 1, 1, 0, 1, 0] (bodyOf Tryz.f91)) (by kernel_rfl) (ref09_right_l7.okL ht n n _ _ _ _ _ _ _ _ h1)) (ob_j (ref09_right_j8.ok ht n _ _ _ _ _ _ h2) ob)) (by kernel_rfl)
theorem ref09_right_j5.ok (ht : TabOk t call) (n : Nat) (a1 a2 a3 : Int) (a4 : Bool) (a5 : Int) (a6 : List GValue) (a7 : List GPred) (r : _) (h : ref09_right_j5 t n a1 a2 a3 a4 a5 a6 a7 = some r) : exec (env Tryz.prog 91 Tryz.f91 call) n (sub [1, 1, 1, 1, 1] (bodyOf Tryz.f91)) (mkSt 105 105 [(1, (I6 a1)), (2, (.ptr 2 0 [] 0)), (5, (I6 a2)), (6, (I6 a3)), (7, (Bo a4))] [(2, (.t (.st [(.v (.int .i64 a5)), (.sl false 5 (GValue.ts a6)), (.sl false 3 (GPred.ts a7))])))]) = some (ref09_right_j5.to r) := by
 rw [ref09_right_j5] at h
 rcases fk h with ⟨h1, h⟩ | ⟨h1, h⟩
 ·rcases fk h with ⟨h2, h⟩ | ⟨h2, h⟩
  ·cases h
   exact path (ob_b3 (congrArg (!·) h1) (ob_b h2 ob)) (by kernel_rfl)
  ·obtain ⟨a8, rfl⟩ : ∃ z_, z_ = r := ⟨_, rfl⟩
   have h3 := h
   exact path (ob_b3 (congrArg (!·) h1) (ob_b h2 (ob_j (ref09_right_j6.ok ht n _ _ _ _ _ _ _ h3) ob))) (by kernel_rfl)
 ·cases h
  exact path (ob_b3 (congrArg (!·) h1) (ob_b (rfl : true = true) ob)) (by kernel_rfl)
theorem ref09_right.ok {n : Nat} {t : Tab} (ht : TabOk t (run Tryz.prog own kp X n)) : ∀ (p1 : GPred) (p2 : Int) r, ref09_right t n p1 p2 = some r → run Tryz.prog own kp X (n + 1) 91 [(.t (GPred.t p1)), (I6 p2)] [] = some ((Bo r), []) := by
 intro p1 p2 r h
 obtain ⟨a1, a2, a3⟩ := p1
 obtain ⟨a4, rfl⟩ : ∃ z_, z_ = p2 := ⟨_, rfl⟩
 rw [ref09_right] at h
 have o2 {os} (x : Obls (env Tryz.prog 91 Tryz.f91 (run Tryz.prog own kp X n)) n os) := ob_v (len_ts GValue.ts_map (l := a2)) (ob_v (len_ts GPred.ts_map (l := a3)) x)
 rcases fk h with ⟨h1, h⟩ | ⟨h1, h⟩
 ·obtain ⟨⟨a5, a6, a7, a8, a9, a10, a11⟩, h2, h⟩ := sm h
  obtain ⟨a12, rfl⟩ : ∃ z_, z_ = r := ⟨_, rfl⟩
  have h3 := h
  exact run_path Tryz.func91 (o2 (ob_b h1 (ob_j (ref09_right_j1.ok ht n _ _ _ _ _ _ _ _ _ _ h2) (ob_j (ref09_right_j5.ok ht n _ _ _ _ _ _ _ _ h3) ob)))) (by kernel_rfl)
 ·rcases fk h with ⟨h4, h⟩ | ⟨h4, h⟩
  ·obtain ⟨⟨a13, a14, a15, a16, a17, a18, a19⟩, h5, h⟩ := sm h
   obtain ⟨a20, rfl⟩ : ∃ z_, z_ = r := ⟨_, rfl⟩
   have h6 := h
   exact run_path Tryz.func91 (o2 (ob_b h1 (ob_b h4 (ob_j (ref09_right_j1.ok ht n _ _ _ _ _ _ _ _ _ _ h5) (ob_j (ref09_right_j5.ok ht n _ _ _ _ _ _ _ _ h6) ob))))) (by kernel_rfl)
  ·rcases fk h with ⟨h7, h⟩ | ⟨h7, h⟩
   ·obtain ⟨⟨a21, a22, a23, a24, a25, a26, a27⟩, h8, h⟩ := sm h
    obtain ⟨a28, rfl⟩ : ∃ z_, z_ = r := ⟨_, rfl⟩
    have h9 := h
    exact run_path Tryz.func91 (o2 (ob_b h1 (ob_b h4 (ob_b h7 (ob_j (ref09_right_j1.ok ht n _ _ _ _ _ _ _ _ _ _ h8) (ob_j (ref09_right_j5.ok ht n _ _ _ _ _ _ _ _ h9) ob)))))) (by kernel_rfl)
   ·rcases fk h with ⟨h10, h⟩ | ⟨h10, h⟩
    ·obtain ⟨⟨a29, a30, a31, a32, a33, a34, a35⟩, h11, h⟩ := sm h
     obtain ⟨a36, rfl⟩ : ∃ z_, z_ = r := ⟨_, rfl⟩
     have h12 := h
     exact run_path Tryz.func91 (o2 (ob_b h1 (ob_b h4 (ob_b h7 (ob_b h10 (ob_j (ref09_right_j1.ok ht n _ _ _ _ _ _ _ _ _ _ h11) (ob_j (ref09_right_j5.ok ht n _ _ _ _ _ _ _ _ h12) ob))))))) (by kernel_rfl)
    ·rcases fk h with ⟨h13, h⟩ | ⟨h13, h⟩
     ·obtain ⟨⟨a37, a38, a39, a40, a41, a42, a43⟩, h14, h⟩ := sm h
      obtain ⟨a44, rfl⟩ : ∃ z_, z_ = r := ⟨_, rfl⟩
      have h15 := h
      exact run_path Tryz.func91 (o2 (ob_b h1 (ob_b h4 (ob_b h7 (ob_b h10 (ob_b h13 (ob_j (ref09_right_j1.ok ht n _ _ _ _ _ _ _ _ _ _ h14) (ob_j (ref09_right_j5.ok ht n _ _ _ _ _ _ _ _ h15) ob)))))))) (by kernel_rfl)
     ·obtain ⟨⟨a45, a46, a47, a48, a49, a50, a51⟩, h16, h⟩ := sm h
      obtain ⟨a52, rfl⟩ : ∃ z_, z_ = r := ⟨_, rfl⟩
      have h17 := h
      exact run_path Tryz.func91 (o2 (ob_b h1 (ob_b h4 (ob_b h7 (ob_b h10 (ob_b h13 (ob_j (ref09_right_j1.ok ht n _ _ _ _ _ _ _ _ _ _ h16) (ob_j (ref09_right_j5.ok ht n _ _ _ _ _ _ _ _ h17) ob)))))))) (by kernel_rfl)
theorem ref02_sign.ok {n : Nat} {t : Tab} (ht : TabOk t (run Tryz.prog own kp X n)) : ∀ (p1 : Int) (p2 : Int) r, ref02_sign t n p1 p2 = some r → run Tryz.prog own kp X (n + 1) 97 [(I6 p1), (I6 p2)] [] = some ((I6 r), []) := by
 intro p1 p2 r h
 obtain ⟨a1, rfl⟩ : ∃ z_, z_ = p1 := ⟨_, rfl⟩
 obtain ⟨a2, rfl⟩ : ∃ z_, z_ = p2 := ⟨_, rfl⟩
 rw [ref02_sign] at h
 rcases fk h with ⟨h1, h⟩ | ⟨h1, h⟩
 ·cases h
  exact run_path Tryz.func97 (ob_b h1 ob) (by kernel_rfl)
 ·rcases fk h with ⟨h2, h⟩ | ⟨h2, h⟩
  ·cases h
   exact run_path Tryz.func97 (ob_b h1 (ob_b h2 ob)) (by kernel_rfl)
  ·cases h
   exact run_path Tryz.func97 (ob_b h1 (ob_b h2 ob)) (by kernel_rfl)
theorem ref02_texts_j2.ok (ht : TabOk t call) (n : Nat) (a1 a2 : ByteArray) (a3 : Int) (r : _) (h : ref02_texts_j2 t n a1 a2 a3 = some r) : exec (env Tryz.prog 98 Tryz.f98 call) n (sub [1, 0, 1, 0, 0, 1] (bodyOf Tryz.f98)) (mkSt 39 39 [(0, (Sr a1)), (1, (Sr a2)), (5, (I6 a3))] []) = some (ref02_texts_j2.to r) := by
 rw [ref02_texts_j2] at h
 obtain ⟨a4, h1, h⟩ := sm h
 obtain ⟨a5, h2, h⟩ := sm h
 rcases fk h with ⟨h3, h⟩ | ⟨h3, h⟩
 ·obtain ⟨a6, h4, h⟩ := sm h
  cases h
  exact path (ob_v (at_ok (P := Tryz.prog) (t := 9) (k := .i64) (by kernel_rfl) h1) (ob_v (at_ok (P := Tryz.prog) (t := 9) (k := .i64) (by kernel_rfl) h2) (ob_b h3 (ob_v (at_ok (P := Tryz.prog) (t := 9) (k := .i64) (by kernel_rfl) h1) (ob_v (at_ok (P := Tryz.prog) (t := 9) (k := .i64) (by kernel_rfl) h2) (ob_c (ht.ref02_sign _ _ _ h4) ob)))))) (by kernel_rfl)
 ·cases h
  exact path (ob_v (at_ok (P := Tryz.prog) (t := 9) (k := .i64) (by kernel_rfl) h1) (ob_v (at_ok (P := Tryz.prog) (t := 9) (k := .i64) (by kernel_rfl) h2) (ob_b h3 ob))) (by kernel_rfl)
theorem ref02_texts_l1.okL (ht : TabOk t call) (n : Nat) : ∀ (k : Nat) (a1 a2 : ByteArray) (a3 : Int) (r : _), ref02_texts_l1 t n k a1 a2 a3 = some r → loopN (exec (env Tryz.prog 98 Tryz.f98 call) n (sub [1, 0, 1, 0, 0] (bodyOf Tryz.f98))) k (mkSt 39 39 [(0, (Sr a1)), (1, (Sr a2)), (5, (I6 a3))] []) = some (ref02_texts_l1.to r)
 | 0, a1, a2, a3, r, h => by rw [ref02_texts_l1] at h; cases h
 | k + 1, a1, a2, a3, r, h => by
  rw [ref02_texts_l1] at h
  rcases fk h with ⟨h1, h⟩ | ⟨h1, h⟩
  ·rcases fk h with ⟨h2, h⟩ | ⟨h2, h⟩
   ·obtain ⟨a4 | ⟨a5, a6, a7⟩, h3, h⟩ := sm h
    ·cases h
     exact loop_out (path (ob_b4 h1 (ob_b h1 (ob_b h2 (ob_j (ref02_texts_j2.ok ht n _ _ _ _ h3) ob)))) (by kernel_rfl)) (fun h => by cases h)
    ·exact loop_more (path (ob_b4 h1 (ob_b h1 (ob_b h2 (ob_j (ref02_texts_j2.ok ht n _ _ _ _ h3) ob)))) (by kernel_rfl)) (ref02_texts_l1.okL ht n k _ _ _ _ h)
   ·cases h
    exact loop_out (path (ob_b4 h1 (ob_b h1 (ob_b h2 ob))) (by kernel_rfl)) (fun h => by cases h)
  ·cases h
   exact loop_out (path (ob_b4 h1 (ob_b h1 (ob_b (rfl : false = false) ob))) (by kernel_rfl)) (fun h => by cases h)
theorem ref02_texts_j3.ok (ht : TabOk t call) (n : Nat) (a1 a2 : ByteArray) (r : _) (h : ref02_texts_j3 t n a1 a2 = some r) : exec (env Tryz.prog 98 Tryz.f98 call) n (sub [1, 1] (bodyOf Tryz.f98)) (mkSt 39 39 [(0, (Sr a1)), (1, (Sr a2))] []) = some (ref02_texts_j3.to r) := by
 rw [ref02_texts_j3] at h
 obtain ⟨a3, rfl⟩ : ∃ z_, z_ = r := ⟨_, rfl⟩
 have h1 := h
 exact path (ob_c (ht.ref02_sign _ _ _ h1) ob) (by kernel_rfl)
theorem ref02_texts.ok {n : Nat} {t : Tab} (ht : TabOk t (run Tryz.prog own kp X n)) : ∀ (p1 : ByteArray) (p2 : ByteArray) r, ref02_texts t n p1 p2 = some r → run Tryz.prog own kp X (n + 1) 98 [(Sr p1), (Sr p2)] [] = some ((I6 r), []) := by
 intro p1 p2 r h
 obtain ⟨a1, rfl⟩ : ∃ z_, z_ = p1 := ⟨_, rfl⟩
 obtain ⟨a2, rfl⟩ : ∃ z_, z_ = p2 := ⟨_, rfl⟩
 rw [ref02_texts] at h
 obtain ⟨a3 | ⟨a4, a5, a6, a7⟩, h1, h⟩ := sm h
 ·cases h
  exact run_path Tryz.func98 (ob_k (lk (sub [1, 0, 1, 0] (bodyOf Tryz.f98)) (by kernel_rfl) (ref02_texts_l1.okL ht n n _ _ _ _ h1)) ob) (by kernel_rfl)
 ·obtain ⟨a8, rfl⟩ : ∃ z_, z_ = r := ⟨_, rfl⟩
  have h2 := h
  exact run_path Tryz.func98 (ob_k (lk (sub [1, 0, 1, 0] (bodyOf Tryz.f98)) (by kernel_rfl) (ref02_texts_l1.okL ht n n _ _ _ _ h1)) (ob_j (ref02_texts_j3.ok ht n _ _ _ h2) ob)) (by kernel_rfl)
theorem ref02_rows_j2.ok (ht : TabOk t call) (n : Nat) (a1 a2 : List GValue) (a3 a4 : Int) (r : _) (h : ref02_rows_j2 t n a1 a2 a3 a4 = some r) : exec (env Tryz.prog 99 Tryz.f99 call) n (sub [1, 0, 1, 0, 0, 1] (bodyOf Tryz.f99)) (mkSt 39 39 [(0, (Sl 5 (GValue.ts a1))), (1, (Sl 5 (GValue.ts a2))), (2, (I6 a3)), (7, (I6 a4))] []) = some (ref02_rows_j2.to r) := by
 rw [ref02_rows_j2] at h
 obtain ⟨h1, h⟩ := ck h
 obtain ⟨⟨a5, a6, a7, a8, a9⟩, h2, h⟩ := sm h
 obtain ⟨⟨a10, a11, a12, a13, a14⟩, h3, h⟩ := sm h
 obtain ⟨a15, h4, h⟩ := sm h
 rcases fk h with ⟨h5, h⟩ | ⟨h5, h⟩
 ·cases h
  exact path (ob_n h1 (ob_t (look_ts GValue.ts_map h2) (ob_n h1 (ob_t (look_ts GValue.ts_map h3) (ob_c (ht.ref02_compare _ _ _ _ h4) (ob_b h5 ob)))))) (by kernel_rfl)
 ·cases h
  exact path (ob_n h1 (ob_t (look_ts GValue.ts_map h2) (ob_n h1 (ob_t (look_ts GValue.ts_map h3) (ob_c (ht.ref02_compare _ _ _ _ h4) (ob_b h5 ob)))))) (by kernel_rfl)
theorem ref02_rows_l1.okL (ht : TabOk t call) (n : Nat) : ∀ (k : Nat) (a1 a2 : List GValue) (a3 a4 : Int) (r : _), ref02_rows_l1 t n k a1 a2 a3 a4 = some r → loopN (exec (env Tryz.prog 99 Tryz.f99 call) n (sub [1, 0, 1, 0, 0] (bodyOf Tryz.f99))) k (mkSt 39 39 [(0, (Sl 5 (GValue.ts a1))), (1, (Sl 5 (GValue.ts a2))), (2, (I6 a3)), (7, (I6 a4))] []) = some (ref02_rows_l1.to r)
 | 0, a1, a2, a3, a4, r, h => by rw [ref02_rows_l1] at h; cases h
 | k + 1, a1, a2, a3, a4, r, h => by
  rw [ref02_rows_l1] at h
  rcases fk h with ⟨h1, h⟩ | ⟨h1, h⟩
  ·have o7 {os} (x : Obls (env Tryz.prog 99 Tryz.f99 call) n os) := ob_v (len_ts GValue.ts_map (l := a1)) (ob_b3 h1 (ob_v (len_ts GValue.ts_map (l := a2)) (ob_b2 h1 x)))
   rcases fk h with ⟨h2, h⟩ | ⟨h2, h⟩
   ·obtain ⟨a5 | ⟨a6, a7, a8, a9⟩, h3, h⟩ := sm h
    ·cases h
     exact loop_out (path (o7 (ob_b h2 (ob_j (ref02_rows_j2.ok ht n _ _ _ _ _ h3) ob))) (by kernel_rfl)) (fun h => by cases h)
    ·exact loop_more (path (o7 (ob_b h2 (ob_j (ref02_rows_j2.ok ht n _ _ _ _ _ h3) ob))) (by kernel_rfl)) (ref02_rows_l1.okL ht n k _ _ _ _ _ h)
   ·cases h
    exact loop_out (path (o7 (ob_b h2 ob)) (by kernel_rfl)) (fun h => by cases h)
  ·cases h
   exact loop_out (path (ob_v (len_ts GValue.ts_map (l := a1)) (ob_b4 h1 (ob_b h1 (ob_b (rfl : false = false) ob)))) (by kernel_rfl)) (fun h => by cases h)
theorem ref02_rows_j3.ok (ht : TabOk t call) (n : Nat) (a1 a2 : List GValue) (r : _) (h : ref02_rows_j3 t n a1 a2 = some r) : exec (env Tryz.prog 99 Tryz.f99 call) n (sub [1, 1] (bodyOf Tryz.f99)) (mkSt 39 39 [(0, (Sl 5 (GValue.ts a1))), (1, (Sl 5 (GValue.ts a2)))] []) = some (ref02_rows_j3.to r) := by
 rw [ref02_rows_j3] at h
 obtain ⟨a3, rfl⟩ : ∃ z_, z_ = r := ⟨_, rfl⟩
 have h1 := h
 exact path (ob_v (len_ts GValue.ts_map (l := a1)) (ob_v (len_ts GValue.ts_map (l := a2)) (ob_c (ht.ref02_sign _ _ _ h1) ob))) (by kernel_rfl)
theorem ref02_rows.ok {n : Nat} {t : Tab} (ht : TabOk t (run Tryz.prog own kp X n)) : ∀ (p1 : List GValue) (p2 : List GValue) (p3 : Int) r, ref02_rows t n p1 p2 p3 = some r → run Tryz.prog own kp X (n + 1) 99 [(Sl 5 (GValue.ts p1)), (Sl 5 (GValue.ts p2)), (I6 p3)] [] = some ((I6 r), []) := by
 intro p1 p2 p3 r h
 obtain ⟨a1, rfl⟩ : ∃ z_, z_ = p1 := ⟨_, rfl⟩
 obtain ⟨a2, rfl⟩ : ∃ z_, z_ = p2 := ⟨_, rfl⟩
 obtain ⟨a3, rfl⟩ : ∃ z_, z_ = p3 := ⟨_, rfl⟩
 rw [ref02_rows] at h
 obtain ⟨a4 | ⟨a5, a6, a7, a8, a9⟩, h1, h⟩ := sm h
 ·cases h
  exact run_path Tryz.func99 (ob_k (lk (sub [1, 0, 1, 0] (bodyOf Tryz.f99)) (by kernel_rfl) (ref02_rows_l1.okL ht n n _ _ _ _ _ h1)) ob) (by kernel_rfl)
 ·obtain ⟨a10, rfl⟩ : ∃ z_, z_ = r := ⟨_, rfl⟩
  have h2 := h
  exact run_path Tryz.func99 (ob_k (lk (sub [1, 0, 1, 0] (bodyOf Tryz.f99)) (by kernel_rfl) (ref02_rows_l1.okL ht n n _ _ _ _ _ h1)) (ob_j (ref02_rows_j3.ok ht n _ _ _ h2) ob)) (by kernel_rfl)
theorem value_Cmp.ok {n : Nat} {t : Tab} (ht : TabOk t (run Tryz.prog own kp X n)) : ∀ (p1 : GValue) (p2 : GValue) r, value_Cmp t n p1 p2 = some r → run Tryz.prog own kp X (n + 1) 63 [(.t (GValue.t p1)), (.t (GValue.t p2))] [] = some ((I6 r), []) := by
 intro p1 p2 r h
 obtain ⟨a1, a2, a3, a4, a5⟩ := p1
 obtain ⟨a6, a7, a8, a9, a10⟩ := p2
 rw [value_Cmp] at h
 obtain ⟨a11, rfl⟩ : ∃ z_, z_ = r := ⟨_, rfl⟩
 have h1 := h
 exact run_path Tryz.func63 (ob_c (ht.value_compare _ _ _ _ h1) ob) (by kernel_rfl)
theorem slices_EqualFunc_value_Same_l1.okL (ht : TabOk t call) (n : Nat) : ∀ (k : Nat) (a1 a2 : List GValue) (a3 a4 : Int) (r : _), slices_EqualFunc_value_Same_l1 t n k a1 a2 a3 a4 = some r → loopN (exec (env Tryz.prog 64 Tryz.f64 call) n (sub [1, 1, 0, 1, 0, 0] (bodyOf Tryz.f64))) k (mkSt 32 32 [(1, (Sl 5 (GValue.ts a1))), (2, (.fn 36 [])), (15, (Sl 5 (GValue.ts a2))), (16, (I6 a3)), (17, (I6 a4))] []) = some (slices_EqualFunc_value_Same_l1.to r)
 | 0, a1, a2, a3, a4, r, h => by rw [slices_EqualFunc_value_Same_l1] at h; cases h
 | k + 1, a1, a2, a3, a4, r, h => by
  rw [slices_EqualFunc_value_Same_l1] at h
  rcases fk h with ⟨h1, h⟩ | ⟨h1, h⟩
  ·obtain ⟨h2, h⟩ := ck h
   obtain ⟨⟨a5, a6, a7, a8, a9⟩, h3, h⟩ := sm h
   obtain ⟨⟨a10, a11, a12, a13, a14⟩, h4, h⟩ := sm h
   obtain ⟨a15, h5, h⟩ := sm h
   rcases fk h with ⟨h6, h⟩ | ⟨h6, h⟩
   ·exact loop_more (path (ob_b h1 (ob_n h2 (ob_t (look_ts GValue.ts_map h3) (ob_n h2 (ob_t (look_ts GValue.ts_map h4) (ob_c (ht.value_Same _ _ _ h5) (ob_b (congrArg (!·) h6) ob))))))) (by kernel_rfl)) (slices_EqualFunc_value_Same_l1.okL ht n k _ _ _ _ _ h)
   ·cases h
    exact loop_out (path (ob_b h1 (ob_n h2 (ob_t (look_ts GValue.ts_map h3) (ob_n h2 (ob_t (look_ts GValue.ts_map h4) (ob_c (ht.value_Same _ _ _ h5) (ob_b (congrArg (!·) h6) ob))))))) (by kernel_rfl)) (fun h => by cases h)
  ·cases h
   exact loop_out (path (ob_b h1 ob) (by kernel_rfl)) (fun h => by cases h)
theorem slices_EqualFunc_value_Same.ok {n : Nat} {t : Tab} (ht : TabOk t (run Tryz.prog own kp X n)) : ∀ (p1 : List GValue) (p2 : List GValue) r, slices_EqualFunc_value_Same t n p1 p2 = some r → run Tryz.prog own kp X (n + 1) 64 [(Sl 5 (GValue.ts p1)), (Sl 5 (GValue.ts p2)), (.fn 36 [])] [] = some ((Bo r), []) := by
 intro p1 p2 r h
 obtain ⟨a1, rfl⟩ : ∃ z_, z_ = p1 := ⟨_, rfl⟩
 obtain ⟨a2, rfl⟩ : ∃ z_, z_ = p2 := ⟨_, rfl⟩
 rw [slices_EqualFunc_value_Same] at h
 have o2 {os} (x : Obls (env Tryz.prog 64 Tryz.f64 (run Tryz.prog own kp X n)) n os) := ob_v (len_ts GValue.ts_map (l := a1)) (ob_v (len_ts GValue.ts_map (l := a2)) x)
 rcases fk h with ⟨h1, h⟩ | ⟨h1, h⟩
 ·cases h
  exact run_path Tryz.func64 (o2 (ob_b h1 ob)) (by kernel_rfl)
 ·obtain ⟨a3 | ⟨a4, a5, a6, a7, a8⟩, h2, h⟩ := sm h
  ·cases h
   exact run_path Tryz.func64 (o2 (ob_b h1 (ob_v (len_ts GValue.ts_map (l := a1)) (ob_k (lk (sub [1, 1, 0, 1, 0] (bodyOf Tryz.f64)) (by kernel_rfl) (slices_EqualFunc_value_Same_l1.okL ht n n _ _ _ _ _ h2)) ob)))) (by kernel_rfl)
  ·cases h
   exact run_path Tryz.func64 (o2 (ob_b h1 (ob_v (len_ts GValue.ts_map (l := a1)) (ob_k (lk (sub [1, 1, 0, 1, 0] (bodyOf Tryz.f64)) (by kernel_rfl) (slices_EqualFunc_value_Same_l1.okL ht n n _ _ _ _ _ h2)) ob)))) (by kernel_rfl)
theorem slices_EqualFunc_plan_samePred_l1.okL (ht : TabOk t call) (n : Nat) : ∀ (k : Nat) (a1 a2 : List GPred) (a3 a4 : Int) (r : _), slices_EqualFunc_plan_samePred_l1 t n k a1 a2 a3 a4 = some r → loopN (exec (env Tryz.prog 65 Tryz.f65 call) n (sub [1, 1, 0, 1, 0, 0] (bodyOf Tryz.f65))) k (mkSt 32 32 [(1, (Sl 3 (GPred.ts a1))), (2, (.fn 37 [])), (15, (Sl 3 (GPred.ts a2))), (16, (I6 a3)), (17, (I6 a4))] []) = some (slices_EqualFunc_plan_samePred_l1.to r)
 | 0, a1, a2, a3, a4, r, h => by rw [slices_EqualFunc_plan_samePred_l1] at h; cases h
 | k + 1, a1, a2, a3, a4, r, h => by
  rw [slices_EqualFunc_plan_samePred_l1] at h
  rcases fk h with ⟨h1, h⟩ | ⟨h1, h⟩
  ·obtain ⟨h2, h⟩ := ck h
   obtain ⟨⟨a5, a6, a7⟩, h3, h⟩ := sm h
   obtain ⟨⟨a8, a9, a10⟩, h4, h⟩ := sm h
   obtain ⟨a11, h5, h⟩ := sm h
   rcases fk h with ⟨h6, h⟩ | ⟨h6, h⟩
   ·exact loop_more (path (ob_b h1 (ob_n h2 (ob_t (look_ts GPred.ts_map h3) (ob_n h2 (ob_t (look_ts GPred.ts_map h4) (ob_c (ht.plan_samePred _ _ _ h5) (ob_b (congrArg (!·) h6) ob))))))) (by kernel_rfl)) (slices_EqualFunc_plan_samePred_l1.okL ht n k _ _ _ _ _ h)
   ·cases h
    exact loop_out (path (ob_b h1 (ob_n h2 (ob_t (look_ts GPred.ts_map h3) (ob_n h2 (ob_t (look_ts GPred.ts_map h4) (ob_c (ht.plan_samePred _ _ _ h5) (ob_b (congrArg (!·) h6) ob))))))) (by kernel_rfl)) (fun h => by cases h)
  ·cases h
   exact loop_out (path (ob_b h1 ob) (by kernel_rfl)) (fun h => by cases h)
theorem slices_EqualFunc_plan_samePred.ok {n : Nat} {t : Tab} (ht : TabOk t (run Tryz.prog own kp X n)) : ∀ (p1 : List GPred) (p2 : List GPred) r, slices_EqualFunc_plan_samePred t n p1 p2 = some r → run Tryz.prog own kp X (n + 1) 65 [(Sl 3 (GPred.ts p1)), (Sl 3 (GPred.ts p2)), (.fn 37 [])] [] = some ((Bo r), []) := by
 intro p1 p2 r h
 obtain ⟨a1, rfl⟩ : ∃ z_, z_ = p1 := ⟨_, rfl⟩
 obtain ⟨a2, rfl⟩ : ∃ z_, z_ = p2 := ⟨_, rfl⟩
 rw [slices_EqualFunc_plan_samePred] at h
 rcases fk h with ⟨h1, h⟩ | ⟨h1, h⟩
 ·cases h
  exact run_path Tryz.func65 (ob_v (len_ts GPred.ts_map (l := a1)) (ob_v (len_ts GPred.ts_map (l := a2)) (ob_b h1 ob))) (by kernel_rfl)
 ·obtain ⟨a3 | ⟨a4, a5, a6, a7, a8⟩, h2, h⟩ := sm h
  ·cases h
   exact run_path Tryz.func65 (ob_v (len_ts GPred.ts_map (l := a1)) (ob_v (len_ts GPred.ts_map (l := a2)) (ob_b h1 (ob_v (len_ts GPred.ts_map (l := a1)) (ob_k (lk (sub [1, 1, 0, 1, 0] (bodyOf Tryz.f65)) (by kernel_rfl) (slices_EqualFunc_plan_samePred_l1.okL ht n n _ _ _ _ _ h2)) ob))))) (by kernel_rfl)
  ·cases h
   exact run_path Tryz.func65 (ob_v (len_ts GPred.ts_map (l := a1)) (ob_v (len_ts GPred.ts_map (l := a2)) (ob_b h1 (ob_v (len_ts GPred.ts_map (l := a1)) (ob_k (lk (sub [1, 1, 0, 1, 0] (bodyOf Tryz.f65)) (by kernel_rfl) (slices_EqualFunc_plan_samePred_l1.okL ht n n _ _ _ _ _ h2)) ob))))) (by kernel_rfl)
end Go.Proofs.YtgkfjhfehdefaaaGreatDoor.W
