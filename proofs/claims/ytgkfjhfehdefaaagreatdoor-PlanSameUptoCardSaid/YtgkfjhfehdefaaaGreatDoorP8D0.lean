/- The proofs of it, part 0. -/
import Derived.Test.YtgkfjhfehdefaaaGreatDoorP8C
namespace Go.Proofs.YtgkfjhfehdefaaaGreatDoor.W
open Go.Proofs.YtgkfjhfehdefaaaGreatDoor.Flat
set_option linter.unusedVariables false
set_option linter.unusedSimpArgs false
set_option smartUnfolding false
attribute [local irreducible] law12_PlanSame_j5 plan_copied_j3 pred_part_j2 quoI ref02_Count_j2 ref02_Count_j5 ref02_Many_j2 ref02_compare_j3 ref02_fields_j1 ref02_rows_j2 ref02_texts_j2 ref05_Name_j2 ref09_Count_j2 ref09_right_j1 ref12_Inner_j2 ref12_Much_j2 ref12_Much_j4 ref12_Same_j2 ref12_own_j1 ref12_right_j2 ref12_steps_j2 ref12_steps_j4 strAt
variable {t : Tab} {call : FuncId → List AV → List AV → Option (AV × List AV)}
theorem law12_PlanSame_l4.okL (ht : TabOk t call) (n : Nat) : ∀ (k : Nat) (a1 a2 a3 : List GStep) (a4 : Bool) (a5 a6 : Int) (r : _), law12_PlanSame_l4 t n k a1 a2 a3 a4 a5 a6 = some r → loopN (exec (env Tryz.prog 4 Tryz.f4 call) n (sub [1, 1, 1, 1, 1, 1, 1, 0, 1, 0, 0, 1, 0, 0, 0, 1, 0, 0] (bodyOf Tryz.f4))) k (mkSt 134 134 [(0, (Sl 14 (GStep.ts a1))), (6, (.t (.xl 14 (GStep.xs a2)))), (7, (.t (.xl 14 (GStep.xs a3)))), (8, (Bo a4)), (9, (I6 a5)), (10, (I6 a6))] []) = some (law12_PlanSame_l4.to r)
 | 0, a1, a2, a3, a4, a5, a6, r, h => by rw [law12_PlanSame_l4] at h; cases h
 | k + 1, a1, a2, a3, a4, a5, a6, r, h => by
  rw [law12_PlanSame_l4] at h
  obtain ⟨h1, h⟩ := ck h
  obtain ⟨⟨a7, a8, a9, ⟨a10, a11, a12, a13, a14⟩, ⟨a15, a16, a17⟩, a18, a19, a20⟩, h2, h⟩ := sm h
  have o7 {os} (x : Obls (env Tryz.prog 4 Tryz.f4 call) n os) := ob_t (get_nil (.xl 14 (GStep.xs a2))) (ob_n h1 (ob_t (look_ts GStep.xs_map h2) (ob_t (get_xl 14 (look_ts GStep.xs_map h2) (get_nil _)) (ob_t (get_xl 14 (look_ts GStep.xs_map h2) (get_st (fs := [(.v (.int .i64 a7)), (.xl 1 (texts a8)), (.xl 1 (ints_i64 a9)), (.st [(.v (.int .i64 a10)), (.v (.int .i64 a11)), (.v (.string a12)), (.xl 5 (GValue.xs a13)), (.xl 5 (GValue.xs a14))]), (.st [(.v (.int .i64 a15)), (.xl 5 (GValue.xs a16)), (.xl 3 (GPred.xs a17))]), (.xl 1 (xrows_GStep_xs a18)), (.xl 4 (GBy.xs a19)), (.xl 1 (texts a20))]) (i := 1) rfl (get_nil _))) (ob_t (get_xl 14 (look_ts GStep.xs_map h2) (get_st (fs := [(.v (.int .i64 a7)), (.xl 1 (texts a8)), (.xl 1 (ints_i64 a9)), (.st [(.v (.int .i64 a10)), (.v (.int .i64 a11)), (.v (.string a12)), (.xl 5 (GValue.xs a13)), (.xl 5 (GValue.xs a14))]), (.st [(.v (.int .i64 a15)), (.xl 5 (GValue.xs a16)), (.xl 3 (GPred.xs a17))]), (.xl 1 (xrows_GStep_xs a18)), (.xl 4 (GBy.xs a19)), (.xl 1 (texts a20))]) (i := 1) rfl (get_nil _))) (ob_v (len_ts texts_map (l := a8)) x))))))
  rcases fk h with ⟨h3, h⟩ | ⟨h3, h⟩
  ·obtain ⟨h4, h⟩ := ck h
   obtain ⟨a21, h5, h⟩ := sm h
   exact loop_more (path (o7 (ob_b h3 (ob_t (get_nil (.xl 14 (GStep.xs a2))) (ob_n h1 (ob_t (look_ts GStep.xs_map h2) (ob_t (get_xl 14 (look_ts GStep.xs_map h2) (get_nil _)) (ob_t (get_xl 14 (look_ts GStep.xs_map h2) (get_st (fs := [(.v (.int .i64 a7)), (.xl 1 (texts a8)), (.xl 1 (ints_i64 a9)), (.st [(.v (.int .i64 a10)), (.v (.int .i64 a11)), (.v (.string a12)), (.xl 5 (GValue.xs a13)), (.xl 5 (GValue.xs a14))]), (.st [(.v (.int .i64 a15)), (.xl 5 (GValue.xs a16)), (.xl 3 (GPred.xs a17))]), (.xl 1 (xrows_GStep_xs a18)), (.xl 4 (GBy.xs a19)), (.xl 1 (texts a20))]) (i := 1) rfl (get_nil _))) (ob_t (get_xl 14 (look_ts GStep.xs_map h2) (get_st (fs := [(.v (.int .i64 a7)), (.xl 1 (texts a8)), (.xl 1 (ints_i64 a9)), (.st [(.v (.int .i64 a10)), (.v (.int .i64 a11)), (.v (.string a12)), (.xl 5 (GValue.xs a13)), (.xl 5 (GValue.xs a14))]), (.st [(.v (.int .i64 a15)), (.xl 5 (GValue.xs a16)), (.xl 3 (GPred.xs a17))]), (.xl 1 (xrows_GStep_xs a18)), (.xl 4 (GBy.xs a19)), (.xl 1 (texts a20))]) (i := 1) rfl (get_nil _))) (ob_n h4 (ob_t (look_ts texts_map h5) (ob_t (get_xl 14 (look_ts GStep.xs_map h2) (get_st (fs := [(.v (.int .i64 a7)), (.xl 1 (texts a8)), (.xl 1 (ints_i64 a9)), (.st [(.v (.int .i64 a10)), (.v (.int .i64 a11)), (.v (.string a12)), (.xl 5 (GValue.xs a13)), (.xl 5 (GValue.xs a14))]), (.st [(.v (.int .i64 a15)), (.xl 5 (GValue.xs a16)), (.xl 3 (GPred.xs a17))]), (.xl 1 (xrows_GStep_xs a18)), (.xl 4 (GBy.xs a19)), (.xl 1 (texts a20))]) (i := 1) rfl (get_xl 1 (look_ts texts_map h5) (get_nil _)))) (ob_t (rep_xl 14 GStep.xs_map (GStep.mk a7 (a8.set (a6 : Int).toNat (ByteArray.mk #[115, 112, 111, 105, 108, 116])) a9 (GValue.mk a10 a11 a12 a13 a14) (GPred.mk a15 a16 a17) a18 a19 a20) h2 (rep_st (fs := [(.v (.int .i64 a7)), (.xl 1 (texts a8)), (.xl 1 (ints_i64 a9)), (.st [(.v (.int .i64 a10)), (.v (.int .i64 a11)), (.v (.string a12)), (.xl 5 (GValue.xs a13)), (.xl 5 (GValue.xs a14))]), (.st [(.v (.int .i64 a15)), (.xl 5 (GValue.xs a16)), (.xl 3 (GPred.xs a17))]), (.xl 1 (xrows_GStep_xs a18)), (.xl 4 (GBy.xs a19)), (.xl 1 (texts a20))]) (i := 1) rfl (rep_xl 1 texts_map (ByteArray.mk #[115, 112, 111, 105, 108, 116]) h5 (rep_nil _ (.v (.string (ByteArray.mk #[115, 112, 111, 105, 108, 116]))))))) ob)))))))))))) (by kernel_rfl)) (law12_PlanSame_l4.okL ht n k _ _ _ _ _ _ _ h)
  ·cases h
   exact loop_out (path (o7 (ob_b h3 ob)) (by kernel_rfl)) (fun h => by cases h)
theorem law12_PlanSame_l7.okL (ht : TabOk t call) (n : Nat) : ∀ (k : Nat) (a1 a2 a3 : List GStep) (a4 : Bool) (a5 a6 a7 : Int) (r : _), law12_PlanSame_l7 t n k a1 a2 a3 a4 a5 a6 a7 = some r → loopN (exec (env Tryz.prog 4 Tryz.f4 call) n (sub [1, 1, 1, 1, 1, 1, 1, 0, 1, 0, 0, 1, 0, 0, 1, 0, 1, 0, 0, 1, 0, 0, 1, 0, 0] (bodyOf Tryz.f4))) k (mkSt 134 134 [(0, (Sl 14 (GStep.ts a1))), (6, (.t (.xl 14 (GStep.xs a2)))), (7, (.t (.xl 14 (GStep.xs a3)))), (8, (Bo a4)), (9, (I6 a5)), (11, (I6 a6)), (12, (I6 a7))] []) = some (law12_PlanSame_l7.to r)
 | 0, a1, a2, a3, a4, a5, a6, a7, r, h => by rw [law12_PlanSame_l7] at h; cases h
 | k + 1, a1, a2, a3, a4, a5, a6, a7, r, h => by
  rw [law12_PlanSame_l7] at h
  obtain ⟨h1, h⟩ := ck h
  obtain ⟨⟨a8, a9, a10, ⟨a11, a12, a13, a14, a15⟩, ⟨a16, a17, a18⟩, a19, a20, a21⟩, h2, h⟩ := sm h
  obtain ⟨h3, h⟩ := ck h
  obtain ⟨a22, h4, h⟩ := sm h
  have o11 {os} (x : Obls (env Tryz.prog 4 Tryz.f4 call) n os) := ob_t (get_nil (.xl 14 (GStep.xs a2))) (ob_n h1 (ob_t (look_ts GStep.xs_map h2) (ob_t (get_xl 14 (look_ts GStep.xs_map h2) (get_nil _)) (ob_t (get_xl 14 (look_ts GStep.xs_map h2) (get_st (fs := [(.v (.int .i64 a8)), (.xl 1 (texts a9)), (.xl 1 (ints_i64 a10)), (.st [(.v (.int .i64 a11)), (.v (.int .i64 a12)), (.v (.string a13)), (.xl 5 (GValue.xs a14)), (.xl 5 (GValue.xs a15))]), (.st [(.v (.int .i64 a16)), (.xl 5 (GValue.xs a17)), (.xl 3 (GPred.xs a18))]), (.xl 1 (xrows_GStep_xs a19)), (.xl 4 (GBy.xs a20)), (.xl 1 (texts a21))]) (i := 5) rfl (get_nil _))) (ob_t (get_xl 14 (look_ts GStep.xs_map h2) (get_st (fs := [(.v (.int .i64 a8)), (.xl 1 (texts a9)), (.xl 1 (ints_i64 a10)), (.st [(.v (.int .i64 a11)), (.v (.int .i64 a12)), (.v (.string a13)), (.xl 5 (GValue.xs a14)), (.xl 5 (GValue.xs a15))]), (.st [(.v (.int .i64 a16)), (.xl 5 (GValue.xs a17)), (.xl 3 (GPred.xs a18))]), (.xl 1 (xrows_GStep_xs a19)), (.xl 4 (GBy.xs a20)), (.xl 1 (texts a21))]) (i := 5) rfl (get_nil _))) (ob_n h3 (ob_t (look_ts xrows_GStep_xs_map h4) (ob_t (get_xl 14 (look_ts GStep.xs_map h2) (get_st (fs := [(.v (.int .i64 a8)), (.xl 1 (texts a9)), (.xl 1 (ints_i64 a10)), (.st [(.v (.int .i64 a11)), (.v (.int .i64 a12)), (.v (.string a13)), (.xl 5 (GValue.xs a14)), (.xl 5 (GValue.xs a15))]), (.st [(.v (.int .i64 a16)), (.xl 5 (GValue.xs a17)), (.xl 3 (GPred.xs a18))]), (.xl 1 (xrows_GStep_xs a19)), (.xl 4 (GBy.xs a20)), (.xl 1 (texts a21))]) (i := 5) rfl (get_xl 1 (look_ts xrows_GStep_xs_map h4) (get_nil _)))) (ob_t (get_xl 14 (look_ts GStep.xs_map h2) (get_st (fs := [(.v (.int .i64 a8)), (.xl 1 (texts a9)), (.xl 1 (ints_i64 a10)), (.st [(.v (.int .i64 a11)), (.v (.int .i64 a12)), (.v (.string a13)), (.xl 5 (GValue.xs a14)), (.xl 5 (GValue.xs a15))]), (.st [(.v (.int .i64 a16)), (.xl 5 (GValue.xs a17)), (.xl 3 (GPred.xs a18))]), (.xl 1 (xrows_GStep_xs a19)), (.xl 4 (GBy.xs a20)), (.xl 1 (texts a21))]) (i := 5) rfl (get_xl 1 (look_ts xrows_GStep_xs_map h4) (get_nil _)))) (ob_v (len_ts GStep.xs_map (l := a22)) x))))))))))
  rcases fk h with ⟨h5, h⟩ | ⟨h5, h⟩
  ·obtain ⟨h6, h⟩ := ck h
   obtain ⟨⟨a23, a24, a25, ⟨a26, a27, a28, a29, a30⟩, ⟨a31, a32, a33⟩, a34, a35, a36⟩, h7, h⟩ := sm h
   exact loop_more (path (o11 (ob_b h5 (ob_t (get_nil (.xl 14 (GStep.xs a2))) (ob_n h1 (ob_t (look_ts GStep.xs_map h2) (ob_t (get_xl 14 (look_ts GStep.xs_map h2) (get_nil _)) (ob_t (get_xl 14 (look_ts GStep.xs_map h2) (get_st (fs := [(.v (.int .i64 a8)), (.xl 1 (texts a9)), (.xl 1 (ints_i64 a10)), (.st [(.v (.int .i64 a11)), (.v (.int .i64 a12)), (.v (.string a13)), (.xl 5 (GValue.xs a14)), (.xl 5 (GValue.xs a15))]), (.st [(.v (.int .i64 a16)), (.xl 5 (GValue.xs a17)), (.xl 3 (GPred.xs a18))]), (.xl 1 (xrows_GStep_xs a19)), (.xl 4 (GBy.xs a20)), (.xl 1 (texts a21))]) (i := 5) rfl (get_nil _))) (ob_t (get_xl 14 (look_ts GStep.xs_map h2) (get_st (fs := [(.v (.int .i64 a8)), (.xl 1 (texts a9)), (.xl 1 (ints_i64 a10)), (.st [(.v (.int .i64 a11)), (.v (.int .i64 a12)), (.v (.string a13)), (.xl 5 (GValue.xs a14)), (.xl 5 (GValue.xs a15))]), (.st [(.v (.int .i64 a16)), (.xl 5 (GValue.xs a17)), (.xl 3 (GPred.xs a18))]), (.xl 1 (xrows_GStep_xs a19)), (.xl 4 (GBy.xs a20)), (.xl 1 (texts a21))]) (i := 5) rfl (get_nil _))) (ob_n h3 (ob_t (look_ts xrows_GStep_xs_map h4) (ob_t (get_xl 14 (look_ts GStep.xs_map h2) (get_st (fs := [(.v (.int .i64 a8)), (.xl 1 (texts a9)), (.xl 1 (ints_i64 a10)), (.st [(.v (.int .i64 a11)), (.v (.int .i64 a12)), (.v (.string a13)), (.xl 5 (GValue.xs a14)), (.xl 5 (GValue.xs a15))]), (.st [(.v (.int .i64 a16)), (.xl 5 (GValue.xs a17)), (.xl 3 (GPred.xs a18))]), (.xl 1 (xrows_GStep_xs a19)), (.xl 4 (GBy.xs a20)), (.xl 1 (texts a21))]) (i := 5) rfl (get_xl 1 (look_ts xrows_GStep_xs_map h4) (get_nil _)))) (ob_t (get_xl 14 (look_ts GStep.xs_map h2) (get_st (fs := [(.v (.int .i64 a8)), (.xl 1 (texts a9)), (.xl 1 (ints_i64 a10)), (.st [(.v (.int .i64 a11)), (.v (.int .i64 a12)), (.v (.string a13)), (.xl 5 (GValue.xs a14)), (.xl 5 (GValue.xs a15))]), (.st [(.v (.int .i64 a16)), (.xl 5 (GValue.xs a17)), (.xl 3 (GPred.xs a18))]), (.xl 1 (xrows_GStep_xs a19)), (.xl 4 (GBy.xs a20)), (.xl 1 (texts a21))]) (i := 5) rfl (get_xl 1 (look_ts xrows_GStep_xs_map h4) (get_nil _)))) (ob_n h6 (ob_t (look_ts GStep.xs_map h7) (ob_t (get_xl 14 (look_ts GStep.xs_map h2) (get_st (fs := [(.v (.int .i64 a8)), (.xl 1 (texts a9)), (.xl 1 (ints_i64 a10)), (.st [(.v (.int .i64 a11)), (.v (.int .i64 a12)), (.v (.string a13)), (.xl 5 (GValue.xs a14)), (.xl 5 (GValue.xs a15))]), (.st [(.v (.int .i64 a16)), (.xl 5 (GValue.xs a17)), (.xl 3 (GPred.xs a18))]), (.xl 1 (xrows_GStep_xs a19)), (.xl 4 (GBy.xs a20)), (.xl 1 (texts a21))]) (i := 5) rfl (get_xl 1 (look_ts xrows_GStep_xs_map h4) (get_xl 14 (look_ts GStep.xs_map h7) (get_nil _))))) (ob_t (get_xl 14 (look_ts GStep.xs_map h2) (get_st (fs := [(.v (.int .i64 a8)), (.xl 1 (texts a9)), (.xl 1 (ints_i64 a10)), (.st [(.v (.int .i64 a11)), (.v (.int .i64 a12)), (.v (.string a13)), (.xl 5 (GValue.xs a14)), (.xl 5 (GValue.xs a15))]), (.st [(.v (.int .i64 a16)), (.xl 5 (GValue.xs a17)), (.xl 3 (GPred.xs a18))]), (.xl 1 (xrows_GStep_xs a19)), (.xl 4 (GBy.xs a20)), (.xl 1 (texts a21))]) (i := 5) rfl (get_xl 1 (look_ts xrows_GStep_xs_map h4) (get_xl 14 (look_ts GStep.xs_map h7) (get_st (fs := [(.v (.int .i64 a23)), (.xl 1 (texts a24)), (.xl 1 (ints_i64 a25)), (.st [(.v (.int .i64 a26)), (.v (.int .i64 a27)), (.v (.string a28)), (.xl 5 (GValue.xs a29)), (.xl 5 (GValue.xs a30))]), (.st [(.v (.int .i64 a31)), (.xl 5 (GValue.xs a32)), (.xl 3 (GPred.xs a33))]), (.xl 1 (xrows_GStep_xs a34)), (.xl 4 (GBy.xs a35)), (.xl 1 (texts a36))]) (i := 0) rfl (get_nil _)))))) (ob_t (rep_xl 14 GStep.xs_map (GStep.mk a8 a9 a10 (GValue.mk a11 a12 a13 a14 a15) (GPred.mk a16 a17 a18) (a19.set (a6 : Int).toNat (a22.set (a7 : Int).toNat (GStep.mk (-7) a24 a25 (GValue.mk a26 a27 a28 a29 a30) (GPred.mk a31 a32 a33) a34 a35 a36))) a20 a21) h2 (rep_st (fs := [(.v (.int .i64 a8)), (.xl 1 (texts a9)), (.xl 1 (ints_i64 a10)), (.st [(.v (.int .i64 a11)), (.v (.int .i64 a12)), (.v (.string a13)), (.xl 5 (GValue.xs a14)), (.xl 5 (GValue.xs a15))]), (.st [(.v (.int .i64 a16)), (.xl 5 (GValue.xs a17)), (.xl 3 (GPred.xs a18))]), (.xl 1 (xrows_GStep_xs a19)), (.xl 4 (GBy.xs a20)), (.xl 1 (texts a21))]) (i := 5) rfl (rep_xl 1 xrows_GStep_xs_map (a22.set (a7 : Int).toNat (GStep.mk (-7) a24 a25 (GValue.mk a26 a27 a28 a29 a30) (GPred.mk a31 a32 a33) a34 a35 a36)) h4 (rep_xl 14 GStep.xs_map (GStep.mk (-7) a24 a25 (GValue.mk a26 a27 a28 a29 a30) (GPred.mk a31 a32 a33) a34 a35 a36) h7 (rep_st (fs := [(.v (.int .i64 a23)), (.xl 1 (texts a24)), (.xl 1 (ints_i64 a25)), (.st [(.v (.int .i64 a26)), (.v (.int .i64 a27)), (.v (.string a28)), (.xl 5 (GValue.xs a29)), (.xl 5 (GValue.xs a30))]), (.st [(.v (.int .i64 a31)), (.xl 5 (GValue.xs a32)), (.xl 3 (GPred.xs a33))]), (.xl 1 (xrows_GStep_xs a34)), (.xl 4 (GBy.xs a35)), (.xl 1 (texts a36))]) (i := 0) rfl (rep_nil _ (.v (.int .i64 (-7))))))))) ob))))))))))))))))) (by kernel_rfl)) (law12_PlanSame_l7.okL ht n k _ _ _ _ _ _ _ _ h)
  ·cases h
   exact loop_out (path (o11 (ob_b h5 ob)) (by kernel_rfl)) (fun h => by cases h)
theorem law12_PlanSame_l6.okL (ht : TabOk t call) (n : Nat) : ∀ (k : Nat) (a1 a2 a3 : List GStep) (a4 : Bool) (a5 a6 : Int) (r : _), law12_PlanSame_l6 t n k a1 a2 a3 a4 a5 a6 = some r → loopN (exec (env Tryz.prog 4 Tryz.f4 call) n (sub [1, 1, 1, 1, 1, 1, 1, 0, 1, 0, 0, 1, 0, 0, 1, 0, 1, 0, 0] (bodyOf Tryz.f4))) k (mkSt 134 134 [(0, (Sl 14 (GStep.ts a1))), (6, (.t (.xl 14 (GStep.xs a2)))), (7, (.t (.xl 14 (GStep.xs a3)))), (8, (Bo a4)), (9, (I6 a5)), (11, (I6 a6))] []) = some (law12_PlanSame_l6.to r)
 | 0, a1, a2, a3, a4, a5, a6, r, h => by rw [law12_PlanSame_l6] at h; cases h
 | k + 1, a1, a2, a3, a4, a5, a6, r, h => by
  rw [law12_PlanSame_l6] at h
  obtain ⟨h1, h⟩ := ck h
  obtain ⟨⟨a7, a8, a9, ⟨a10, a11, a12, a13, a14⟩, ⟨a15, a16, a17⟩, a18, a19, a20⟩, h2, h⟩ := sm h
  have o7 {os} (x : Obls (env Tryz.prog 4 Tryz.f4 call) n os) := ob_t (get_nil (.xl 14 (GStep.xs a2))) (ob_n h1 (ob_t (look_ts GStep.xs_map h2) (ob_t (get_xl 14 (look_ts GStep.xs_map h2) (get_nil _)) (ob_t (get_xl 14 (look_ts GStep.xs_map h2) (get_st (fs := [(.v (.int .i64 a7)), (.xl 1 (texts a8)), (.xl 1 (ints_i64 a9)), (.st [(.v (.int .i64 a10)), (.v (.int .i64 a11)), (.v (.string a12)), (.xl 5 (GValue.xs a13)), (.xl 5 (GValue.xs a14))]), (.st [(.v (.int .i64 a15)), (.xl 5 (GValue.xs a16)), (.xl 3 (GPred.xs a17))]), (.xl 1 (xrows_GStep_xs a18)), (.xl 4 (GBy.xs a19)), (.xl 1 (texts a20))]) (i := 5) rfl (get_nil _))) (ob_t (get_xl 14 (look_ts GStep.xs_map h2) (get_st (fs := [(.v (.int .i64 a7)), (.xl 1 (texts a8)), (.xl 1 (ints_i64 a9)), (.st [(.v (.int .i64 a10)), (.v (.int .i64 a11)), (.v (.string a12)), (.xl 5 (GValue.xs a13)), (.xl 5 (GValue.xs a14))]), (.st [(.v (.int .i64 a15)), (.xl 5 (GValue.xs a16)), (.xl 3 (GPred.xs a17))]), (.xl 1 (xrows_GStep_xs a18)), (.xl 4 (GBy.xs a19)), (.xl 1 (texts a20))]) (i := 5) rfl (get_nil _))) (ob_v (len_ts xrows_GStep_xs_map (l := a18)) x))))))
  rcases fk h with ⟨h3, h⟩ | ⟨h3, h⟩
  ·obtain ⟨⟨a21, a22, a23, a24, a25, a26, a27, a28⟩, h4, h⟩ := sm h
   exact loop_more (path (o7 (ob_b h3 (ob_k (lk (sub [1, 1, 1, 1, 1, 1, 1, 0, 1, 0, 0, 1, 0, 0, 1, 0, 1, 0, 0, 1, 0, 0, 1, 0] (bodyOf Tryz.f4)) (by kernel_rfl) (law12_PlanSame_l7.okL ht n n _ _ _ _ _ _ _ _ h4)) ob))) (by kernel_rfl)) (law12_PlanSame_l6.okL ht n k _ _ _ _ _ _ _ h)
  ·cases h
   exact loop_out (path (o7 (ob_b h3 ob)) (by kernel_rfl)) (fun h => by cases h)
theorem law12_PlanSame_j8.ok (ht : TabOk t call) (n : Nat) (a1 a2 a3 : List GStep) (a4 : Bool) (a5 : Int) (r : _) (h : law12_PlanSame_j8 t n a1 a2 a3 a4 a5 = some r) : exec (env Tryz.prog 4 Tryz.f4 call) n (sub [1, 1, 1, 1, 1, 1, 1, 0, 1, 0, 0, 1, 0, 0, 1, 1] (bodyOf Tryz.f4)) (mkSt 134 134 [(0, (Sl 14 (GStep.ts a1))), (6, (.t (.xl 14 (GStep.xs a2)))), (7, (.t (.xl 14 (GStep.xs a3)))), (8, (Bo a4)), (9, (I6 a5))] []) = some (law12_PlanSame_j8.to r) := by
 rw [law12_PlanSame_j8] at h
 obtain ⟨h1, h⟩ := ck h
 obtain ⟨⟨a6, a7, a8, ⟨a9, a10, a11, a12, a13⟩, ⟨a14, a15, a16⟩, a17, a18, a19⟩, h2, h⟩ := sm h
 cases h
 exact path (ob_t (get_nil (.xl 14 (GStep.xs a2))) (ob_n h1 (ob_t (look_ts GStep.xs_map h2) (ob_t (get_xl 14 (look_ts GStep.xs_map h2) (get_nil _)) (ob_t (get_xl 14 (look_ts GStep.xs_map h2) (get_st (fs := [(.v (.int .i64 a6)), (.xl 1 (texts a7)), (.xl 1 (ints_i64 a8)), (.st [(.v (.int .i64 a9)), (.v (.int .i64 a10)), (.v (.string a11)), (.xl 5 (GValue.xs a12)), (.xl 5 (GValue.xs a13))]), (.st [(.v (.int .i64 a14)), (.xl 5 (GValue.xs a15)), (.xl 3 (GPred.xs a16))]), (.xl 1 (xrows_GStep_xs a17)), (.xl 4 (GBy.xs a18)), (.xl 1 (texts a19))]) (i := 0) rfl (get_nil _))) (ob_t (rep_xl 14 GStep.xs_map (GStep.mk (-7) a7 a8 (GValue.mk a9 a10 a11 a12 a13) (GPred.mk a14 a15 a16) a17 a18 a19) h2 (rep_st (fs := [(.v (.int .i64 a6)), (.xl 1 (texts a7)), (.xl 1 (ints_i64 a8)), (.st [(.v (.int .i64 a9)), (.v (.int .i64 a10)), (.v (.string a11)), (.xl 5 (GValue.xs a12)), (.xl 5 (GValue.xs a13))]), (.st [(.v (.int .i64 a14)), (.xl 5 (GValue.xs a15)), (.xl 3 (GPred.xs a16))]), (.xl 1 (xrows_GStep_xs a17)), (.xl 4 (GBy.xs a18)), (.xl 1 (texts a19))]) (i := 0) rfl (rep_nil _ (.v (.int .i64 (-7)))))) ob)))))) (by kernel_rfl)
theorem law12_PlanSame_j5.ok (ht : TabOk t call) (n : Nat) (a1 a2 a3 : List GStep) (a4 : Bool) (a5 : Int) (r : _) (h : law12_PlanSame_j5 t n a1 a2 a3 a4 a5 = some r) : exec (env Tryz.prog 4 Tryz.f4 call) n (sub [1, 1, 1, 1, 1, 1, 1, 0, 1, 0, 0, 1, 0, 0, 1] (bodyOf Tryz.f4)) (mkSt 134 134 [(0, (Sl 14 (GStep.ts a1))), (6, (.t (.xl 14 (GStep.xs a2)))), (7, (.t (.xl 14 (GStep.xs a3)))), (8, (Bo a4)), (9, (I6 a5))] []) = some (law12_PlanSame_j5.to r) := by
 rw [law12_PlanSame_j5] at h
 obtain ⟨⟨a6, a7, a8, a9, a10, a11, a12⟩, h1, h⟩ := sm h
 obtain ⟨a13, a14, a15, a16, a17⟩ := r
 have h2 := h
 exact path (ob_k (lk (sub [1, 1, 1, 1, 1, 1, 1, 0, 1, 0, 0, 1, 0, 0, 1, 0, 1, 0] (bodyOf Tryz.f4)) (by kernel_rfl) (law12_PlanSame_l6.okL ht n n _ _ _ _ _ _ _ h1)) (ob_j (law12_PlanSame_j8.ok ht n _ _ _ _ _ _ h2) ob)) (by kernel_rfl)
theorem law12_PlanSame_l3.okL (ht : TabOk t call) (n : Nat) : ∀ (k : Nat) (a1 a2 a3 : List GStep) (a4 : Bool) (a5 : Int) (r : _), law12_PlanSame_l3 t n k a1 a2 a3 a4 a5 = some r → loopN (exec (env Tryz.prog 4 Tryz.f4 call) n (sub [1, 1, 1, 1, 1, 1, 1, 0, 1, 0, 0] (bodyOf Tryz.f4))) k (mkSt 134 134 [(0, (Sl 14 (GStep.ts a1))), (6, (.t (.xl 14 (GStep.xs a2)))), (7, (.t (.xl 14 (GStep.xs a3)))), (8, (Bo a4)), (9, (I6 a5))] []) = some (law12_PlanSame_l3.to r)
 | 0, a1, a2, a3, a4, a5, r, h => by rw [law12_PlanSame_l3] at h; cases h
 | k + 1, a1, a2, a3, a4, a5, r, h => by
  rw [law12_PlanSame_l3] at h
  rcases fk h with ⟨h1, h⟩ | ⟨h1, h⟩
  ·obtain ⟨⟨a6, a7, a8, a9, a10, a11, a12⟩, h2, h⟩ := sm h
   obtain ⟨⟨a13, a14, a15, a16, a17⟩, h3, h⟩ := sm h
   exact loop_more (path (ob_t (get_nil (.xl 14 (GStep.xs a2))) (ob_v (len_ts GStep.xs_map (l := a2)) (ob_b h1 (ob_k (lk (sub [1, 1, 1, 1, 1, 1, 1, 0, 1, 0, 0, 1, 0, 0, 0, 1, 0] (bodyOf Tryz.f4)) (by kernel_rfl) (law12_PlanSame_l4.okL ht n n _ _ _ _ _ _ _ h2)) (ob_j (law12_PlanSame_j5.ok ht n _ _ _ _ _ _ h3) ob))))) (by kernel_rfl)) (law12_PlanSame_l3.okL ht n k _ _ _ _ _ _ h)
  ·cases h
   exact loop_out (path (ob_t (get_nil (.xl 14 (GStep.xs a2))) (ob_v (len_ts GStep.xs_map (l := a2)) (ob_b h1 ob))) (by kernel_rfl)) (fun h => by cases h)
theorem law12_PlanSame_j9.ok (ht : TabOk t call) (n : Nat) (a1 a2 : List GStep) (a3 : Bool) (r : _) (h : law12_PlanSame_j9 t n a1 a2 a3 = some r) : exec (env Tryz.prog 4 Tryz.f4 call) n (sub [1, 1, 1, 1, 1, 1, 1, 1] (bodyOf Tryz.f4)) (mkSt 134 134 [(0, (Sl 14 (GStep.ts a1))), (7, (.t (.xl 14 (GStep.xs a2)))), (8, (Bo a3))] []) = some (law12_PlanSame_j9.to r) := by
 rw [law12_PlanSame_j9] at h
 rcases fk h with ⟨h1, h⟩ | ⟨h1, h⟩
 ·obtain ⟨a4, h2, h⟩ := sm h
  have o7 {os} (x : Obls (env Tryz.prog 4 Tryz.f4 call) n os) := ob_b3 (congrArg (!·) h1) (ob_t (get_nil (.xl 14 (GStep.xs a2))) (ob_l (GStep.xs_pub (l := a2)) (ob_c (ht.ref12_Same _ _ _ h2) (ob_b (congrArg (!·) h1) x))))
  rcases fk h with ⟨h3, h⟩ | ⟨h3, h⟩
  ·obtain ⟨a5, rfl⟩ : ∃ z_, z_ = r := ⟨_, rfl⟩
   have h4 := h
   exact path (o7 (ob_b h3 (ob_c (ht.law12_known _ h4) (ob_b h3 ob)))) (by kernel_rfl)
  ·cases h
   exact path (o7 (ob_b2 h3 ob)) (by kernel_rfl)
 ·obtain ⟨a6, rfl⟩ : ∃ z_, z_ = r := ⟨_, rfl⟩
  have h5 := h
  exact path (ob_b4 (congrArg (!·) h1) (ob_b (rfl : true = true) (ob_c (ht.law12_known _ h5) (ob_b (rfl : true = true) ob)))) (by kernel_rfl)
theorem law12_PlanSame_j2.ok (ht : TabOk t call) (n : Nat) (a1 a2 a3 : List GStep) (a4 : Bool) (r : _) (h : law12_PlanSame_j2 t n a1 a2 a3 a4 = some r) : exec (env Tryz.prog 4 Tryz.f4 call) n (sub [1, 1, 1, 1, 1, 1, 1] (bodyOf Tryz.f4)) (mkSt 134 134 [(0, (Sl 14 (GStep.ts a1))), (6, (.t (.xl 14 (GStep.xs a2)))), (7, (.t (.xl 14 (GStep.xs a3)))), (8, (Bo a4))] []) = some (law12_PlanSame_j2.to r) := by
 rw [law12_PlanSame_j2] at h
 obtain ⟨⟨a5, a6, a7, a8, a9, a10⟩, h1, h⟩ := sm h
 obtain ⟨a11, rfl⟩ : ∃ z_, z_ = r := ⟨_, rfl⟩
 have h2 := h
 exact path (ob_k (lk (sub [1, 1, 1, 1, 1, 1, 1, 0, 1, 0] (bodyOf Tryz.f4)) (by kernel_rfl) (law12_PlanSame_l3.okL ht n n _ _ _ _ _ _ h1)) (ob_j (law12_PlanSame_j9.ok ht n _ _ _ _ h2) ob)) (by kernel_rfl)
theorem law12_PlanSame_j1.ok (ht : TabOk t call) (n : Nat) (a1 a2 : List GStep) (r : _) (h : law12_PlanSame_j1 t n a1 a2 = some r) : exec (env Tryz.prog 4 Tryz.f4 call) n (sub [1, 1] (bodyOf Tryz.f4)) (mkSt 134 134 [(0, (Sl 14 (GStep.ts a1))), (1, (Sl 14 (GStep.ts a2)))] []) = some (law12_PlanSame_j1.to r) := by
 rw [law12_PlanSame_j1] at h
 obtain ⟨a3, h1, h⟩ := sm h
 obtain ⟨a4, h2, h⟩ := sm h
 obtain ⟨a5, h3, h⟩ := sm h
 obtain ⟨a6, h4, h⟩ := sm h
 have o5 {os} (x : Obls (env Tryz.prog 4 Tryz.f4 call) n os) := ob_c (ht.plan_Same _ _ _ h1) (ob_c (ht.plan_Copy _ _ h2) (ob_c (ht.plan_Copy _ _ h2) (ob_c (ht.ref12_Check _ _ h3) (ob_c (ht.ref12_Same _ _ _ h4) x))))
 rcases fk h with ⟨h5, h⟩ | ⟨h5, h⟩
 ·obtain ⟨a7, h6, h⟩ := sm h
  have o12 {os} (x : Obls (env Tryz.prog 4 Tryz.f4 call) n os) := o5 (ob_b3 (congrArg (!·) h5) (ob_c (ht.plan_Same _ _ _ h6) (ob_b3 (congrArg (!·) h5) x)))
  rcases fk h with ⟨h7, h⟩ | ⟨h7, h⟩
  ·obtain ⟨a8, h8, h⟩ := sm h
   have o18 {os} (x : Obls (env Tryz.prog 4 Tryz.f4 call) n os) := o12 (ob_b3 (congrArg (!·) h7) (ob_c (ht.plan_Same _ _ _ h8) (ob_b2 (congrArg (!·) h7) x)))
   rcases fk h with ⟨h9, h⟩ | ⟨h9, h⟩
   ·rcases fk h with ⟨h10, h⟩ | ⟨h10, h⟩
    ·obtain ⟨a9, h11, h⟩ := sm h
     have o28 {os} (x : Obls (env Tryz.prog 4 Tryz.f4 call) n os) := o18 (ob_b2 (congrArg (!·) h9) (ob_b3 h10 (ob_t (get_nil (.xl 14 (GStep.xs a4))) (ob_l (GStep.xs_pub (l := a4)) (ob_c (ht.plan_Same _ _ _ h11) (ob_b2 h10 x))))))
     rcases fk h with ⟨h12, h⟩ | ⟨h12, h⟩
     ·obtain ⟨a10, h13, h⟩ := sm h
      have o40 {os} (x : Obls (env Tryz.prog 4 Tryz.f4 call) n os) := o28 (ob_b3 (congrArg (!·) h12) (ob_t (get_nil (.xl 14 (GStep.xs a4))) (ob_l (GStep.xs_pub (l := a4)) (ob_c (ht.ref12_Same _ _ _ h13) (ob_b (congrArg (!·) h12) (ob_b h10 (ob_b (congrArg (!·) h12) (ob_b (congrArg (!·) h9) (ob_b h10 (ob_b (congrArg (!·) h9) x))))))))))
      rcases fk h with ⟨h14, h⟩ | ⟨h14, h⟩
      ·obtain ⟨a11, rfl⟩ : ∃ z_, z_ = r := ⟨_, rfl⟩
       have h15 := h
       exact path (o40 (ob_b (congrArg (!·) h14) (ob_j (law12_PlanSame_j2.ok ht n _ _ _ _ _ h15) ob))) (by kernel_rfl)
      ·cases h
       exact path (o40 (ob_b (congrArg (!·) h14) ob)) (by kernel_rfl)
     ·cases h
      exact path (o28 (ob_b4 (congrArg (!·) h12) (ob_b h10 (ob_b (congrArg (!·) h12) (ob_b (congrArg (!·) h9) (ob_b h10 (ob_b (congrArg (!·) h9) (ob_b (rfl : true = true) ob)))))))) (by kernel_rfl)
    ·obtain ⟨a12, rfl⟩ : ∃ z_, z_ = r := ⟨_, rfl⟩
     have h16 := h
     exact path (o18 (ob_b2 (congrArg (!·) h9) (ob_b4 h10 (ob_b2 h10 (ob_b (congrArg (!·) h9) (ob_b h10 (ob_b (congrArg (!·) h9) (ob_b (rfl : false = false) (ob_j (law12_PlanSame_j2.ok ht n _ _ _ _ _ h16) ob))))))))) (by kernel_rfl)
   ·cases h
    exact path (o18 (ob_b4 (congrArg (!·) h9) (ob_b (rfl : true = true) ob))) (by kernel_rfl)
  ·cases h
   exact path (o12 (ob_b4 (congrArg (!·) h7) (ob_b (congrArg (!·) h7) (ob_b4 (rfl : true = true) (ob_b (rfl : true = true) ob))))) (by kernel_rfl)
 ·cases h
  exact path (o5 (ob_b4 (congrArg (!·) h5) (ob_b2 (congrArg (!·) h5) (ob_b4 (rfl : true = true) (ob_b4 (rfl : true = true) (ob_b2 (rfl : true = true) ob)))))) (by kernel_rfl)
theorem law12_PlanSame.ok {n : Nat} {t : Tab} (ht : TabOk t (run Tryz.prog own kp X n)) : ∀ (p1 : List GStep) (p2 : List GStep) r, law12_PlanSame t n p1 p2 = some r → run Tryz.prog own kp X (n + 1) 4 [(Sl 14 (GStep.ts p1)), (Sl 14 (GStep.ts p2))] [] = some ((Bo r), []) := by
 intro p1 p2 r h
 obtain ⟨a1, rfl⟩ : ∃ z_, z_ = p1 := ⟨_, rfl⟩
 obtain ⟨a2, rfl⟩ : ∃ z_, z_ = p2 := ⟨_, rfl⟩
 rw [law12_PlanSame] at h
 obtain ⟨a3, h1, h⟩ := sm h
 rcases fk h with ⟨h2, h⟩ | ⟨h2, h⟩
 ·obtain ⟨a4, rfl⟩ : ∃ z_, z_ = r := ⟨_, rfl⟩
  have h3 := h
  exact run_path Tryz.func4 (ob_c (ht.law12_much _ _ h1) (ob_b3 h2 (ob_b (rfl : true = true) (ob_c (ht.law12_known _ h3) ob)))) (by kernel_rfl)
 ·obtain ⟨a5, h4, h⟩ := sm h
  rcases fk h with ⟨h5, h⟩ | ⟨h5, h⟩
  ·obtain ⟨a6, rfl⟩ : ∃ z_, z_ = r := ⟨_, rfl⟩
   have h6 := h
   exact run_path Tryz.func4 (ob_c (ht.law12_much _ _ h1) (ob_b2 h2 (ob_c (ht.law12_much _ _ h4) (ob_b h2 (ob_b h5 (ob_c (ht.law12_known _ h6) ob)))))) (by kernel_rfl)
  ·obtain ⟨a7, rfl⟩ : ∃ z_, z_ = r := ⟨_, rfl⟩
   have h7 := h
   exact run_path Tryz.func4 (ob_c (ht.law12_much _ _ h1) (ob_b2 h2 (ob_c (ht.law12_much _ _ h4) (ob_b h2 (ob_b h5 (ob_j (law12_PlanSame_j1.ok ht n _ _ _ h7) ob)))))) (by kernel_rfl)
theorem law12_much.ok {n : Nat} {t : Tab} (ht : TabOk t (run Tryz.prog own kp X n)) : ∀ (p1 : List GStep) r, law12_much t n p1 = some r → run Tryz.prog own kp X (n + 1) 5 [(Sl 14 (GStep.ts p1))] [] = some ((Bo r), []) := by
 intro p1 r h
 obtain ⟨a1, rfl⟩ : ∃ z_, z_ = p1 := ⟨_, rfl⟩
 rw [law12_much] at h
 obtain ⟨a2, h1, h⟩ := sm h
 cases h
 exact run_path Tryz.func5 (ob_c (ht.ref12_Much _ _ _ _ h1) ob) (by kernel_rfl)
theorem plan_Same.ok {n : Nat} {t : Tab} (ht : TabOk t (run Tryz.prog own kp X n)) : ∀ (p1 : List GStep) (p2 : List GStep) r, plan_Same t n p1 p2 = some r → run Tryz.prog own kp X (n + 1) 17 [(Sl 14 (GStep.ts p1)), (Sl 14 (GStep.ts p2))] [] = some ((Bo r), []) := by
 intro p1 p2 r h
 obtain ⟨a1, rfl⟩ : ∃ z_, z_ = p1 := ⟨_, rfl⟩
 obtain ⟨a2, rfl⟩ : ∃ z_, z_ = p2 := ⟨_, rfl⟩
 rw [plan_Same] at h
 obtain ⟨a3, rfl⟩ : ∃ z_, z_ = r := ⟨_, rfl⟩
 have h1 := h
 exact run_path Tryz.func17 (ob_c (ht.slices_EqualFunc_plan_Same_1 _ _ _ h1) ob) (by kernel_rfl)
theorem plan_Copy.ok {n : Nat} {t : Tab} (ht : TabOk t (run Tryz.prog own kp X n)) : ∀ (p1 : List GStep) r, plan_Copy t n p1 = some r → run Tryz.prog own kp X (n + 1) 18 [(Sl 14 (GStep.ts p1))] [] = some ((.t (.xl 14 (GStep.xs r))), []) := by
 intro p1 r h
 obtain ⟨a1, rfl⟩ : ∃ z_, z_ = p1 := ⟨_, rfl⟩
 rw [plan_Copy] at h
 obtain ⟨a2, rfl⟩ : ∃ z_, z_ = r := ⟨_, rfl⟩
 have h1 := h
 exact run_path Tryz.func18 (ob_c (ht.plan_copied _ _ _ h1) ob) (by kernel_rfl)
theorem ref12_Check.ok {n : Nat} {t : Tab} (ht : TabOk t (run Tryz.prog own kp X n)) : ∀ (p1 : List GStep) r, ref12_Check t n p1 = some r → run Tryz.prog own kp X (n + 1) 8 [(Sl 14 (GStep.ts p1))] [] = some ((I6 r), []) := by
 intro p1 r h
 obtain ⟨a1, rfl⟩ : ∃ z_, z_ = p1 := ⟨_, rfl⟩
 rw [ref12_Check] at h
 obtain ⟨a2, h1, h⟩ := sm h
 rcases fk h with ⟨h2, h⟩ | ⟨h2, h⟩
 ·cases h
  exact run_path Tryz.func8 (ob_c (ht.ref12_Steps _ _ h1) (ob_b4 h2 (ob_b (rfl : true = true) ob))) (by kernel_rfl)
 ·obtain ⟨a3, h3, h⟩ := sm h
  rcases fk h with ⟨h4, h⟩ | ⟨h4, h⟩
  ·cases h
   exact run_path Tryz.func8 (ob_c (ht.ref12_Steps _ _ h1) (ob_b2 h2 (ob_c (ht.ref12_right _ _ _ h3) (ob_b2 h2 (ob_b (congrArg (!·) h4) ob))))) (by kernel_rfl)
  ·cases h
   exact run_path Tryz.func8 (ob_c (ht.ref12_Steps _ _ h1) (ob_b2 h2 (ob_c (ht.ref12_right _ _ _ h3) (ob_b2 h2 (ob_b (congrArg (!·) h4) ob))))) (by kernel_rfl)
theorem ref12_Same_l3.okL (ht : TabOk t call) (n : Nat) : ∀ (k : Nat) (a1 a2 : List GStep) (a3 a4 a5 : Int) (a6 : List ByteArray) (a7 : List Int) (a8 a9 : Int) (a10 : ByteArray) (a11 a12 : List GValue) (a13 : Int) (a14 : List GValue) (a15 : List GPred) (a16 : List (List GStep)) (a17 : List GBy) (a18 : List ByteArray) (a19 : Int) (a20 : List ByteArray) (a21 : List Int) (a22 a23 : Int) (a24 : ByteArray) (a25 a26 : List GValue) (a27 : Int) (a28 : List GValue) (a29 : List GPred) (a30 : List (List GStep)) (a31 : List GBy) (a32 : List ByteArray) (r : _), ref12_Same_l3 t n k a1 a2 a3 a4 a5 a6 a7 a8 a9 a10 a11 a12 a13 a14 a15 a16 a17 a18 a19 a20 a21 a22 a23 a24 a25 a26 a27 a28 a29 a30 a31 a32 = some r → loopN (exec (env Tryz.prog 19 Tryz.f19 call) n (sub [1, 1, 0, 1, 0, 0, 1, 0, 0, 1, 1, 1, 0, 1, 0, 0] (bodyOf Tryz.f19))) k (mkSt 177 177 [(0, (Sl 14 (GStep.ts a1))), (1, (Sl 14 (GStep.ts a2))), (5, (I6 a3)), (6, (.ptr 6 0 [] 0)), (7, (.ptr 7 0 [] 0)), (8, (I6 a4))] [(6, (.t (.st [(.v (.int .i64 a5)), (.sl false 1 (texts a6)), (.sl false 1 (ints_i64 a7)), (.st [(.v (.int .i64 a8)), (.v (.int .i64 a9)), (.v (.string a10)), (.sl false 5 (GValue.ts a11)), (.sl false 5 (GValue.ts a12))]), (.st [(.v (.int .i64 a13)), (.sl false 5 (GValue.ts a14)), (.sl false 3 (GPred.ts a15))]), (.sl false 1 (rows_GStep_ts a16)), (.sl false 4 (GBy.ts a17)), (.sl false 1 (texts a18))]))), (7, (.t (.st [(.v (.int .i64 a19)), (.sl false 1 (texts a20)), (.sl false 1 (ints_i64 a21)), (.st [(.v (.int .i64 a22)), (.v (.int .i64 a23)), (.v (.string a24)), (.sl false 5 (GValue.ts a25)), (.sl false 5 (GValue.ts a26))]), (.st [(.v (.int .i64 a27)), (.sl false 5 (GValue.ts a28)), (.sl false 3 (GPred.ts a29))]), (.sl false 1 (rows_GStep_ts a30)), (.sl false 4 (GBy.ts a31)), (.sl false 1 (texts a32))])))]) = some (ref12_Same_l3.to r)
 | 0, a1, a2, a3, a4, a5, a6, a7, a8, a9, a10, a11, a12, a13, a14, a15, a16, a17, a18, a19, a20, a21, a22, a23, a24, a25, a26, a27, a28, a29, a30, a31, a32, r, h => by rw [ref12_Same_l3] at h; cases h
 | k + 1, a1, a2, a3, a4, a5, a6, a7, a8, a9, a10, a11, a12, a13, a14, a15, a16, a17, a18, a19, a20, a21, a22, a23, a24, a25, a26, a27, a28, a29, a30, a31, a32, r, h => by
  rw [ref12_Same_l3] at h
  rcases fk h with ⟨h1, h⟩ | ⟨h1, h⟩
  ·obtain ⟨h2, h⟩ := ck h
   obtain ⟨a33, h3, h⟩ := sm h
   obtain ⟨a34, h4, h⟩ := sm h
   obtain ⟨a35, h5, h⟩ := sm h
   have o7 {os} (x : Obls (env Tryz.prog 19 Tryz.f19 call) n os) := ob_v (len_ts rows_GStep_ts_map (l := a16)) (ob_b h1 (ob_n h2 (ob_t (look_ts rows_GStep_ts_map h3) (ob_n h2 (ob_t (look_ts rows_GStep_ts_map h4) (ob_c (ht.ref12_Same _ _ _ h5) x))))))
   rcases fk h with ⟨h6, h⟩ | ⟨h6, h⟩
   ·exact loop_more (path (o7 (ob_b (congrArg (!·) h6) ob)) (by kernel_rfl)) (ref12_Same_l3.okL ht n k _ _ _ _ _ _ _ _ _ _ _ _ _ _ _ _ _ _ _ _ _ _ _ _ _ _ _ _ _ _ _ _ _ h)
   ·cases h
    exact loop_out (path (o7 (ob_b (congrArg (!·) h6) ob)) (by kernel_rfl)) (fun h => by cases h)
  ·cases h
   exact loop_out (path (ob_v (len_ts rows_GStep_ts_map (l := a16)) (ob_b h1 ob)) (by kernel_rfl)) (fun h => by cases h)
theorem ref12_Same_l5.okL (ht : TabOk t call) (n : Nat) : ∀ (k : Nat) (a1 a2 : List GStep) (a3 a4 a5 : Int) (a6 : List ByteArray) (a7 : List Int) (a8 a9 : Int) (a10 : ByteArray) (a11 a12 : List GValue) (a13 : Int) (a14 : List GValue) (a15 : List GPred) (a16 : List (List GStep)) (a17 : List GBy) (a18 : List ByteArray) (a19 : Int) (a20 : List ByteArray) (a21 : List Int) (a22 a23 : Int) (a24 : ByteArray) (a25 a26 : List GValue) (a27 : Int) (a28 : List GValue) (a29 : List GPred) (a30 : List (List GStep)) (a31 : List GBy) (a32 : List ByteArray) (r : _), ref12_Same_l5 t n k a1 a2 a3 a4 a5 a6 a7 a8 a9 a10 a11 a12 a13 a14 a15 a16 a17 a18 a19 a20 a21 a22 a23 a24 a25 a26 a27 a28 a29 a30 a31 a32 = some r → loopN (exec (env Tryz.prog 19 Tryz.f19 call) n (sub [1, 1, 0, 1, 0, 0, 1, 0, 0, 1, 1, 1, 1, 1, 0, 0] (bodyOf Tryz.f19))) k (mkSt 177 177 [(0, (Sl 14 (GStep.ts a1))), (1, (Sl 14 (GStep.ts a2))), (5, (I6 a3)), (6, (.ptr 6 0 [] 0)), (7, (.ptr 7 0 [] 0)), (9, (I6 a4))] [(6, (.t (.st [(.v (.int .i64 a5)), (.sl false 1 (texts a6)), (.sl false 1 (ints_i64 a7)), (.st [(.v (.int .i64 a8)), (.v (.int .i64 a9)), (.v (.string a10)), (.sl false 5 (GValue.ts a11)), (.sl false 5 (GValue.ts a12))]), (.st [(.v (.int .i64 a13)), (.sl false 5 (GValue.ts a14)), (.sl false 3 (GPred.ts a15))]), (.sl false 1 (rows_GStep_ts a16)), (.sl false 4 (GBy.ts a17)), (.sl false 1 (texts a18))]))), (7, (.t (.st [(.v (.int .i64 a19)), (.sl false 1 (texts a20)), (.sl false 1 (ints_i64 a21)), (.st [(.v (.int .i64 a22)), (.v (.int .i64 a23)), (.v (.string a24)), (.sl false 5 (GValue.ts a25)), (.sl false 5 (GValue.ts a26))]), (.st [(.v (.int .i64 a27)), (.sl false 5 (GValue.ts a28)), (.sl false 3 (GPred.ts a29))]), (.sl false 1 (rows_GStep_ts a30)), (.sl false 4 (GBy.ts a31)), (.sl false 1 (texts a32))])))]) = some (ref12_Same_l5.to r)
 | 0, a1, a2, a3, a4, a5, a6, a7, a8, a9, a10, a11, a12, a13, a14, a15, a16, a17, a18, a19, a20, a21, a22, a23, a24, a25, a26, a27, a28, a29, a30, a31, a32, r, h => by rw [ref12_Same_l5] at h; cases h
 | k + 1, a1, a2, a3, a4, a5, a6, a7, a8, a9, a10, a11, a12, a13, a14, a15, a16, a17, a18, a19, a20, a21, a22, a23, a24, a25, a26, a27, a28, a29, a30, a31, a32, r, h => by
  rw [ref12_Same_l5] at h
  rcases fk h with ⟨h1, h⟩ | ⟨h1, h⟩
  ·obtain ⟨h2, h⟩ := ck h
   obtain ⟨⟨a33, a34, a35, a36⟩, h3, h⟩ := sm h
   obtain ⟨⟨a37, a38, a39, a40⟩, h4, h⟩ := sm h
   have o6 {os} (x : Obls (env Tryz.prog 19 Tryz.f19 call) n os) := ob_v (len_ts GBy.ts_map (l := a17)) (ob_b h1 (ob_n h2 (ob_t (look_ts GBy.ts_map h3) (ob_n h2 (ob_t (look_ts GBy.ts_map h4) x)))))
   rcases fk h with ⟨h5, h⟩ | ⟨h5, h⟩
   ·cases h
    exact loop_out (path (o6 (ob_b4 h5 (ob_b4 h5 (ob_b4 h5 (ob_b2 h5 (ob_b4 (rfl : true = true) (ob_b4 (rfl : true = true) (ob_b4 (rfl : true = true) (ob_b4 (rfl : true = true) (ob_b4 (rfl : true = true) (ob_b4 (rfl : true = true) (ob_b4 (rfl : true = true) (ob_b2 (rfl : true = true) ob))))))))))))) (by kernel_rfl)) (fun h => by cases h)
   ·have o24 {os} (x : Obls (env Tryz.prog 19 Tryz.f19 call) n os) := o6 (ob_b4 h5 (ob_n h2 (ob_t (look_ts GBy.ts_map h3) (ob_b4 h5 (ob_b2 h5 (ob_n h2 (ob_t (look_ts GBy.ts_map h4) (ob_b4 h5 x))))))))
    rcases fk h with ⟨h6, h⟩ | ⟨h6, h⟩
    ·have o42 {os} (x : Obls (env Tryz.prog 19 Tryz.f19 call) n os) := o24 (ob_b4 (congrArg (!·) h6) (ob_n h2 (ob_t (look_ts GBy.ts_map h3) (ob_b4 (congrArg (!·) h6) (ob_b2 (congrArg (!·) h6) (ob_n h2 (ob_t (look_ts GBy.ts_map h4) (ob_b4 (congrArg (!·) h6) x))))))))
     rcases fk h with ⟨h7, h⟩ | ⟨h7, h⟩
     ·obtain ⟨a41, h8, h⟩ := sm h
      have o62 {os} (x : Obls (env Tryz.prog 19 Tryz.f19 call) n os) := o42 (ob_b4 (congrArg (!·) h7) (ob_n h2 (ob_t (look_ts GBy.ts_map h3) (ob_b4 (congrArg (!·) h7) (ob_b2 (congrArg (!·) h7) (ob_n h2 (ob_t (look_ts GBy.ts_map h4) (ob_b3 (congrArg (!·) h7) (ob_c (ht.ref12_Same _ _ _ h8) (ob_b2 (congrArg (!·) h7) x))))))))))
      rcases fk h with ⟨h9, h⟩ | ⟨h9, h⟩
      ·exact loop_more (path (o62 (ob_b (congrArg (!·) h9) ob)) (by kernel_rfl)) (ref12_Same_l5.okL ht n k _ _ _ _ _ _ _ _ _ _ _ _ _ _ _ _ _ _ _ _ _ _ _ _ _ _ _ _ _ _ _ _ _ h)
      ·cases h
       exact loop_out (path (o62 (ob_b (congrArg (!·) h9) ob)) (by kernel_rfl)) (fun h => by cases h)
     ·cases h
      exact loop_out (path (o42 (ob_b4 (congrArg (!·) h7) (ob_b4 (congrArg (!·) h7) (ob_b4 (congrArg (!·) h7) (ob_b3 (congrArg (!·) h7) (ob_b (rfl : true = true) ob)))))) (by kernel_rfl)) (fun h => by cases h)
    ·cases h
     exact loop_out (path (o24 (ob_b4 (congrArg (!·) h6) (ob_b4 (congrArg (!·) h6) (ob_b4 (congrArg (!·) h6) (ob_b2 (congrArg (!·) h6) (ob_b4 (rfl : true = true) (ob_b4 (rfl : true = true) (ob_b4 (rfl : true = true) (ob_b4 (rfl : true = true) ob))))))))) (by kernel_rfl)) (fun h => by cases h)
  ·cases h
   exact loop_out (path (ob_v (len_ts GBy.ts_map (l := a17)) (ob_b h1 ob)) (by kernel_rfl)) (fun h => by cases h)
theorem ref12_Same_j4.ok (ht : TabOk t call) (n : Nat) (a1 a2 : List GStep) (a3 a4 : Int) (a5 : List ByteArray) (a6 : List Int) (a7 a8 : Int) (a9 : ByteArray) (a10 a11 : List GValue) (a12 : Int) (a13 : List GValue) (a14 : List GPred) (a15 : List (List GStep)) (a16 : List GBy) (a17 : List ByteArray) (a18 : Int) (a19 : List ByteArray) (a20 : List Int) (a21 a22 : Int) (a23 : ByteArray) (a24 a25 : List GValue) (a26 : Int) (a27 : List GValue) (a28 : List GPred) (a29 : List (List GStep)) (a30 : List GBy) (a31 : List ByteArray) (r : _) (h : ref12_Same_j4 t n a1 a2 a3 a4 a5 a6 a7 a8 a9 a10 a11 a12 a13 a14 a15 a16 a17 a18 a19 a20 a21 a22 a23 a24 a25 a26 a27 a28 a29 a30 a31 = some r) : exec (env Tryz.prog 19 Tryz.f19 call) n (sub [1, 1, 0, 1, 0, 0, 1, 0, 0, 1, 1, 1, 1] (bodyOf Tryz.f19)) (mkSt 177 177 [(0, (Sl 14 (GStep.ts a1))), (1, (Sl 14 (GStep.ts a2))), (5, (I6 a3)), (6, (.ptr 6 0 [] 0)), (7, (.ptr 7 0 [] 0))] [(6, (.t (.st [(.v (.int .i64 a4)), (.sl false 1 (texts a5)), (.sl false 1 (ints_i64 a6)), (.st [(.v (.int .i64 a7)), (.v (.int .i64 a8)), (.v (.string a9)), (.sl false 5 (GValue.ts a10)), (.sl false 5 (GValue.ts a11))]), (.st [(.v (.int .i64 a12)), (.sl false 5 (GValue.ts a13)), (.sl false 3 (GPred.ts a14))]), (.sl false 1 (rows_GStep_ts a15)), (.sl false 4 (GBy.ts a16)), (.sl false 1 (texts a17))]))), (7, (.t (.st [(.v (.int .i64 a18)), (.sl false 1 (texts a19)), (.sl false 1 (ints_i64 a20)), (.st [(.v (.int .i64 a21)), (.v (.int .i64 a22)), (.v (.string a23)), (.sl false 5 (GValue.ts a24)), (.sl false 5 (GValue.ts a25))]), (.st [(.v (.int .i64 a26)), (.sl false 5 (GValue.ts a27)), (.sl false 3 (GPred.ts a28))]), (.sl false 1 (rows_GStep_ts a29)), (.sl false 4 (GBy.ts a30)), (.sl false 1 (texts a31))])))]) = some (ref12_Same_j4.to r) := by
 rw [ref12_Same_j4] at h
 obtain ⟨a32 | ⟨a33, a34, a35, a36, a37, a38, a39, a40, a41, a42, a43, a44, a45, a46, a47, a48, a49, a50, a51, a52, a53, a54, a55, a56, a57, a58, a59, a60, a61, a62, a63, a64, a65⟩, h1, h⟩ := sm h
 ·cases h
  exact path (ob_k (lk (sub [1, 1, 0, 1, 0, 0, 1, 0, 0, 1, 1, 1, 1, 1, 0] (bodyOf Tryz.f19)) (by kernel_rfl) (ref12_Same_l5.okL ht n n _ _ _ _ _ _ _ _ _ _ _ _ _ _ _ _ _ _ _ _ _ _ _ _ _ _ _ _ _ _ _ _ _ h1)) ob) (by kernel_rfl)
 ·cases h
  exact path (ob_k (lk (sub [1, 1, 0, 1, 0, 0, 1, 0, 0, 1, 1, 1, 1, 1, 0] (bodyOf Tryz.f19)) (by kernel_rfl) (ref12_Same_l5.okL ht n n _ _ _ _ _ _ _ _ _ _ _ _ _ _ _ _ _ _ _ _ _ _ _ _ _ _ _ _ _ _ _ _ _ h1)) ob) (by kernel_rfl)
theorem ref12_Same_j2.ok (ht : TabOk t call) (n : Nat) (a1 a2 : List GStep) (a3 a4 : Int) (a5 : List ByteArray) (a6 : List Int) (a7 a8 : Int) (a9 : ByteArray) (a10 a11 : List GValue) (a12 : Int) (a13 : List GValue) (a14 : List GPred) (a15 : List (List GStep)) (a16 : List GBy) (a17 : List ByteArray) (a18 : Int) (a19 : List ByteArray) (a20 : List Int) (a21 a22 : Int) (a23 : ByteArray) (a24 a25 : List GValue) (a26 : Int) (a27 : List GValue) (a28 : List GPred) (a29 : List (List GStep)) (a30 : List GBy) (a31 : List ByteArray) (r : _) (h : ref12_Same_j2 t n a1 a2 a3 a4 a5 a6 a7 a8 a9 a10 a11 a12 a13 a14 a15 a16 a17 a18 a19 a20 a21 a22 a23 a24 a25 a26 a27 a28 a29 a30 a31 = some r) : exec (env Tryz.prog 19 Tryz.f19 call) n (sub [1, 1, 0, 1, 0, 0, 1, 0, 0, 1, 1, 1] (bodyOf Tryz.f19)) (mkSt 177 177 [(0, (Sl 14 (GStep.ts a1))), (1, (Sl 14 (GStep.ts a2))), (5, (I6 a3)), (6, (.ptr 6 0 [] 0)), (7, (.ptr 7 0 [] 0))] [(6, (.t (.st [(.v (.int .i64 a4)), (.sl false 1 (texts a5)), (.sl false 1 (ints_i64 a6)), (.st [(.v (.int .i64 a7)), (.v (.int .i64 a8)), (.v (.string a9)), (.sl false 5 (GValue.ts a10)), (.sl false 5 (GValue.ts a11))]), (.st [(.v (.int .i64 a12)), (.sl false 5 (GValue.ts a13)), (.sl false 3 (GPred.ts a14))]), (.sl false 1 (rows_GStep_ts a15)), (.sl false 4 (GBy.ts a16)), (.sl false 1 (texts a17))]))), (7, (.t (.st [(.v (.int .i64 a18)), (.sl false 1 (texts a19)), (.sl false 1 (ints_i64 a20)), (.st [(.v (.int .i64 a21)), (.v (.int .i64 a22)), (.v (.string a23)), (.sl false 5 (GValue.ts a24)), (.sl false 5 (GValue.ts a25))]), (.st [(.v (.int .i64 a26)), (.sl false 5 (GValue.ts a27)), (.sl false 3 (GPred.ts a28))]), (.sl false 1 (rows_GStep_ts a29)), (.sl false 4 (GBy.ts a30)), (.sl false 1 (texts a31))])))]) = some (ref12_Same_j2.to r) := by
 rw [ref12_Same_j2] at h
 obtain ⟨a32 | ⟨a33, a34, a35, a36, a37, a38, a39, a40, a41, a42, a43, a44, a45, a46, a47, a48, a49, a50, a51, a52, a53, a54, a55, a56, a57, a58, a59, a60, a61, a62, a63, a64, a65⟩, h1, h⟩ := sm h
 ·cases h
  exact path (ob_k (lk (sub [1, 1, 0, 1, 0, 0, 1, 0, 0, 1, 1, 1, 0, 1, 0] (bodyOf Tryz.f19)) (by kernel_rfl) (ref12_Same_l3.okL ht n n _ _ _ _ _ _ _ _ _ _ _ _ _ _ _ _ _ _ _ _ _ _ _ _ _ _ _ _ _ _ _ _ _ h1)) ob) (by kernel_rfl)
 ·have h2 := h
  rcases r with a66 | ⟨a67, a68, a69⟩
  ·exact path (ob_k (lk (sub [1, 1, 0, 1, 0, 0, 1, 0, 0, 1, 1, 1, 0, 1, 0] (bodyOf Tryz.f19)) (by kernel_rfl) (ref12_Same_l3.okL ht n n _ _ _ _ _ _ _ _ _ _ _ _ _ _ _ _ _ _ _ _ _ _ _ _ _ _ _ _ _ _ _ _ _ h1)) (ob_j (ref12_Same_j4.ok ht n _ _ _ _ _ _ _ _ _ _ _ _ _ _ _ _ _ _ _ _ _ _ _ _ _ _ _ _ _ _ _ _ h2) ob)) (by kernel_rfl)
  ·exact path (ob_k (lk (sub [1, 1, 0, 1, 0, 0, 1, 0, 0, 1, 1, 1, 0, 1, 0] (bodyOf Tryz.f19)) (by kernel_rfl) (ref12_Same_l3.okL ht n n _ _ _ _ _ _ _ _ _ _ _ _ _ _ _ _ _ _ _ _ _ _ _ _ _ _ _ _ _ _ _ _ _ h1)) (ob_j (ref12_Same_j4.ok ht n _ _ _ _ _ _ _ _ _ _ _ _ _ _ _ _ _ _ _ _ _ _ _ _ _ _ _ _ _ _ _ _ h2) ob)) (by kernel_rfl)
theorem ref12_Same_l1.okL (ht : TabOk t call) (n : Nat) : ∀ (k : Nat) (a1 a2 : List GStep) (a3 : Int) (r : _), ref12_Same_l1 t n k a1 a2 a3 = some r → loopN (exec (env Tryz.prog 19 Tryz.f19 call) n (sub [1, 1, 0, 1, 0, 0] (bodyOf Tryz.f19))) k (mkSt 177 177 [(0, (Sl 14 (GStep.ts a1))), (1, (Sl 14 (GStep.ts a2))), (5, (I6 a3))] []) = some (ref12_Same_l1.to r)
 | 0, a1, a2, a3, r, h => by rw [ref12_Same_l1] at h; cases h
 | k + 1, a1, a2, a3, r, h => by
  rw [ref12_Same_l1] at h
  rcases fk h with ⟨h1, h⟩ | ⟨h1, h⟩
  ·obtain ⟨h2, h⟩ := ck h
   obtain ⟨⟨a4, a5, a6, ⟨a7, a8, a9, a10, a11⟩, ⟨a12, a13, a14⟩, a15, a16, a17⟩, h3, h⟩ := sm h
   obtain ⟨⟨a18, a19, a20, ⟨a21, a22, a23, a24, a25⟩, ⟨a26, a27, a28⟩, a29, a30, a31⟩, h4, h⟩ := sm h
   have o6 {os} (x : Obls (env Tryz.prog 19 Tryz.f19 call) n os) := ob_v (len_ts GStep.ts_map (l := a1)) (ob_b h1 (ob_n h2 (ob_t (look_ts GStep.ts_map h3) (ob_n h2 (ob_t (look_ts GStep.ts_map h4) x)))))
   rcases fk h with ⟨h5, h⟩ | ⟨h5, h⟩
   ·cases h
    exact loop_out (path (o6 (ob_b4 h5 (ob_b3 h5 (ob_b4 (rfl : true = true) (ob_b4 (rfl : true = true) (ob_b4 (rfl : true = true) (ob_b4 (rfl : true = true) (ob_b4 (rfl : true = true) (ob_b4 (rfl : true = true) (ob_b4 (rfl : true = true) (ob_b4 (rfl : true = true) (ob_b4 (rfl : true = true) (ob_b4 (rfl : true = true) (ob_b4 (rfl : true = true) (ob_b (rfl : true = true) ob))))))))))))))) (by kernel_rfl)) (fun h => by cases h)
   ·obtain ⟨a32, h6, h⟩ := sm h
    have o14 {os} (x : Obls (env Tryz.prog 19 Tryz.f19 call) n os) := o6 (ob_b4 h5 (ob_b h5 (ob_c (ht.ref12_sameTexts _ _ _ h6) (ob_b2 h5 x))))
    rcases fk h with ⟨h7, h⟩ | ⟨h7, h⟩
    ·obtain ⟨a33, h8, h⟩ := sm h
     have o22 {os} (x : Obls (env Tryz.prog 19 Tryz.f19 call) n os) := o14 (ob_b4 (congrArg (!·) h7) (ob_b (congrArg (!·) h7) (ob_c (ht.ref12_sameNumbers _ _ _ h8) (ob_b2 (congrArg (!·) h7) x))))
     rcases fk h with ⟨h9, h⟩ | ⟨h9, h⟩
     ·obtain ⟨a34, h10, h⟩ := sm h
      have o30 {os} (x : Obls (env Tryz.prog 19 Tryz.f19 call) n os) := o22 (ob_b4 (congrArg (!·) h9) (ob_b (congrArg (!·) h9) (ob_c (ht.ref12_sameTexts _ _ _ h10) (ob_b2 (congrArg (!·) h9) x))))
      rcases fk h with ⟨h11, h⟩ | ⟨h11, h⟩
      ·obtain ⟨a35, h12, h⟩ := sm h
       have o38 {os} (x : Obls (env Tryz.prog 19 Tryz.f19 call) n os) := o30 (ob_b4 (congrArg (!·) h11) (ob_b (congrArg (!·) h11) (ob_c (ht.ref02_Same _ _ _ h12) (ob_b2 (congrArg (!·) h11) x))))
       rcases fk h with ⟨h13, h⟩ | ⟨h13, h⟩
       ·obtain ⟨a36, h14, h⟩ := sm h
        have o46 {os} (x : Obls (env Tryz.prog 19 Tryz.f19 call) n os) := o38 (ob_b4 (congrArg (!·) h13) (ob_b (congrArg (!·) h13) (ob_c (ht.ref09_Same _ _ _ h14) (ob_b2 (congrArg (!·) h13) x))))
        rcases fk h with ⟨h15, h⟩ | ⟨h15, h⟩
        ·have o56 {os} (x : Obls (env Tryz.prog 19 Tryz.f19 call) n os) := o46 (ob_b3 (congrArg (!·) h15) (ob_v (len_ts rows_GStep_ts_map (l := a15)) (ob_b3 (congrArg (!·) h15) (ob_v (len_ts rows_GStep_ts_map (l := a29)) (ob_b2 (congrArg (!·) h15) x)))))
         rcases fk h with ⟨h16, h⟩ | ⟨h16, h⟩
         ·cases h
          exact loop_out (path (o56 (ob_b4 h16 (ob_b4 h16 (ob_b (rfl : true = true) ob)))) (by kernel_rfl)) (fun h => by cases h)
         ·have o66 {os} (x : Obls (env Tryz.prog 19 Tryz.f19 call) n os) := o56 (ob_b3 h16 (ob_v (len_ts GBy.ts_map (l := a16)) (ob_b3 h16 (ob_v (len_ts GBy.ts_map (l := a30)) (ob_b2 h16 x)))))
          rcases fk h with ⟨h17, h⟩ | ⟨h17, h⟩
          ·cases h
           exact loop_out (path (o66 (ob_b h17 ob)) (by kernel_rfl)) (fun h => by cases h)
          ·obtain ⟨a37 | ⟨a38, a39, a40⟩, h18, h⟩ := sm h
           ·cases h
            exact loop_out (path (o66 (ob_b h17 (ob_j (ref12_Same_j2.ok ht n _ _ _ _ _ _ _ _ _ _ _ _ _ _ _ _ _ _ _ _ _ _ _ _ _ _ _ _ _ _ _ _ h18) ob))) (by kernel_rfl)) (fun h => by cases h)
           ·exact loop_more (path (o66 (ob_b h17 (ob_j (ref12_Same_j2.ok ht n _ _ _ _ _ _ _ _ _ _ _ _ _ _ _ _ _ _ _ _ _ _ _ _ _ _ _ _ _ _ _ _ h18) ob))) (by kernel_rfl)) (ref12_Same_l1.okL ht n k _ _ _ _ h)
        ·cases h
         exact loop_out (path (o46 (ob_b4 (congrArg (!·) h15) (ob_b4 (congrArg (!·) h15) (ob_b4 (rfl : true = true) (ob_b4 (rfl : true = true) (ob_b (rfl : true = true) ob)))))) (by kernel_rfl)) (fun h => by cases h)
       ·cases h
        exact loop_out (path (o38 (ob_b4 (congrArg (!·) h13) (ob_b3 (congrArg (!·) h13) (ob_b4 (rfl : true = true) (ob_b4 (rfl : true = true) (ob_b4 (rfl : true = true) (ob_b4 (rfl : true = true) (ob_b (rfl : true = true) ob)))))))) (by kernel_rfl)) (fun h => by cases h)
      ·cases h
       exact loop_out (path (o30 (ob_b4 (congrArg (!·) h11) (ob_b3 (congrArg (!·) h11) (ob_b4 (rfl : true = true) (ob_b4 (rfl : true = true) (ob_b4 (rfl : true = true) (ob_b4 (rfl : true = true) (ob_b4 (rfl : true = true) (ob_b4 (rfl : true = true) ob))))))))) (by kernel_rfl)) (fun h => by cases h)
     ·cases h
      exact loop_out (path (o22 (ob_b4 (congrArg (!·) h9) (ob_b3 (congrArg (!·) h9) (ob_b4 (rfl : true = true) (ob_b4 (rfl : true = true) (ob_b4 (rfl : true = true) (ob_b4 (rfl : true = true) (ob_b4 (rfl : true = true) (ob_b4 (rfl : true = true) (ob_b4 (rfl : true = true) (ob_b3 (rfl : true = true) ob))))))))))) (by kernel_rfl)) (fun h => by cases h)
    ·cases h
     exact loop_out (path (o14 (ob_b4 (congrArg (!·) h7) (ob_b3 (congrArg (!·) h7) (ob_b4 (rfl : true = true) (ob_b4 (rfl : true = true) (ob_b4 (rfl : true = true) (ob_b4 (rfl : true = true) (ob_b4 (rfl : true = true) (ob_b4 (rfl : true = true) (ob_b4 (rfl : true = true) (ob_b4 (rfl : true = true) (ob_b4 (rfl : true = true) (ob_b2 (rfl : true = true) ob))))))))))))) (by kernel_rfl)) (fun h => by cases h)
  ·cases h
   exact loop_out (path (ob_v (len_ts GStep.ts_map (l := a1)) (ob_b h1 ob)) (by kernel_rfl)) (fun h => by cases h)
theorem ref12_Same.ok {n : Nat} {t : Tab} (ht : TabOk t (run Tryz.prog own kp X n)) : ∀ (p1 : List GStep) (p2 : List GStep) r, ref12_Same t n p1 p2 = some r → run Tryz.prog own kp X (n + 1) 19 [(Sl 14 (GStep.ts p1)), (Sl 14 (GStep.ts p2))] [] = some ((Bo r), []) := by
 intro p1 p2 r h
 obtain ⟨a1, rfl⟩ : ∃ z_, z_ = p1 := ⟨_, rfl⟩
 obtain ⟨a2, rfl⟩ : ∃ z_, z_ = p2 := ⟨_, rfl⟩
 rw [ref12_Same] at h
 rcases fk h with ⟨h1, h⟩ | ⟨h1, h⟩
 ·cases h
  exact run_path Tryz.func19 (ob_v (len_ts GStep.ts_map (l := a1)) (ob_v (len_ts GStep.ts_map (l := a2)) (ob_b h1 ob))) (by kernel_rfl)
 ·obtain ⟨a3 | ⟨a4, a5, a6, a7⟩, h2, h⟩ := sm h
  ·cases h
   exact run_path Tryz.func19 (ob_v (len_ts GStep.ts_map (l := a1)) (ob_v (len_ts GStep.ts_map (l := a2)) (ob_b h1 (ob_k (lk (sub [1, 1, 0, 1, 0] (bodyOf Tryz.f19)) (by kernel_rfl) (ref12_Same_l1.okL ht n n _ _ _ _ h2)) ob)))) (by kernel_rfl)
  ·cases h
   exact run_path Tryz.func19 (ob_v (len_ts GStep.ts_map (l := a1)) (ob_v (len_ts GStep.ts_map (l := a2)) (ob_b h1 (ob_k (lk (sub [1, 1, 0, 1, 0] (bodyOf Tryz.f19)) (by kernel_rfl) (ref12_Same_l1.okL ht n n _ _ _ _ h2)) ob)))) (by kernel_rfl)
theorem ref12_Much_j4.ok (ht : TabOk t call) (n : Nat) (a1 : List GStep) (a2 a3 a4 a5 : Int) (a6 : List (List GStep)) (a7 : Int) (r : _) (h : ref12_Much_j4 t n a1 a2 a3 a4 a5 a6 a7 = some r) : exec (env Tryz.prog 20 Tryz.f20 call) n (sub [1, 1, 0, 1, 0, 0, 1, 0, 0, 1, 1, 1, 1, 0, 0, 1] (bodyOf Tryz.f20)) (mkSt 80 80 [(0, (Sl 14 (GStep.ts a1))), (1, (I6 a2)), (2, (I6 a3)), (7, (I6 a4)), (8, (I6 a5)), (10, (Sl 1 (rows_GStep_ts a6))), (11, (I6 a7))] []) = some (ref12_Much_j4.to r) := by
 rw [ref12_Much_j4] at h
 rcases fk h with ⟨h1, h⟩ | ⟨h1, h⟩
 ·cases h
  exact path (ob_b h1 ob) (by kernel_rfl)
 ·obtain ⟨h2, h⟩ := ck h
  obtain ⟨a8, h3, h⟩ := sm h
  obtain ⟨a9, h4, h⟩ := sm h
  cases h
  exact path (ob_b h1 (ob_n h2 (ob_t (look_ts rows_GStep_ts_map h3) (ob_c (ht.ref12_Much _ _ _ _ h4) ob)))) (by kernel_rfl)
theorem ref12_Much_l3.okL (ht : TabOk t call) (n : Nat) : ∀ (k : Nat) (a1 : List GStep) (a2 a3 a4 a5 : Int) (a6 : List (List GStep)) (a7 : Int) (r : _), ref12_Much_l3 t n k a1 a2 a3 a4 a5 a6 a7 = some r → loopN (exec (env Tryz.prog 20 Tryz.f20 call) n (sub [1, 1, 0, 1, 0, 0, 1, 0, 0, 1, 1, 1, 1, 0, 0] (bodyOf Tryz.f20))) k (mkSt 80 80 [(0, (Sl 14 (GStep.ts a1))), (1, (I6 a2)), (2, (I6 a3)), (7, (I6 a4)), (8, (I6 a5)), (10, (Sl 1 (rows_GStep_ts a6))), (11, (I6 a7))] []) = some (ref12_Much_l3.to r)
 | 0, a1, a2, a3, a4, a5, a6, a7, r, h => by rw [ref12_Much_l3] at h; cases h
 | k + 1, a1, a2, a3, a4, a5, a6, a7, r, h => by
  rw [ref12_Much_l3] at h
  rcases fk h with ⟨h1, h⟩ | ⟨h1, h⟩
  ·have o5 {os} (x : Obls (env Tryz.prog 20 Tryz.f20 call) n os) := ob_v (len_ts rows_GStep_ts_map (l := a6)) (ob_b4 h1 x)
   rcases fk h with ⟨h2, h⟩ | ⟨h2, h⟩
   ·obtain ⟨a8 | ⟨a9, a10, a11, a12, a13, a14, a15⟩, h3, h⟩ := sm h
    ·cases h
     exact loop_out (path (o5 (ob_b h2 (ob_j (ref12_Much_j4.ok ht n _ _ _ _ _ _ _ _ h3) ob))) (by kernel_rfl)) (fun h => by cases h)
    ·exact loop_more (path (o5 (ob_b h2 (ob_j (ref12_Much_j4.ok ht n _ _ _ _ _ _ _ _ h3) ob))) (by kernel_rfl)) (ref12_Much_l3.okL ht n k _ _ _ _ _ _ _ _ h)
   ·cases h
    exact loop_out (path (o5 (ob_b h2 ob)) (by kernel_rfl)) (fun h => by cases h)
  ·cases h
   exact loop_out (path (ob_v (len_ts rows_GStep_ts_map (l := a6)) (ob_b4 h1 (ob_b (rfl : false = false) ob))) (by kernel_rfl)) (fun h => by cases h)
theorem ref12_Much_j2.ok (ht : TabOk t call) (n : Nat) (a1 : List GStep) (a2 a3 a4 a5 : Int) (r : _) (h : ref12_Much_j2 t n a1 a2 a3 a4 a5 = some r) : exec (env Tryz.prog 20 Tryz.f20 call) n (sub [1, 1, 0, 1, 0, 0, 1] (bodyOf Tryz.f20)) (mkSt 80 80 [(0, (Sl 14 (GStep.ts a1))), (1, (I6 a2)), (2, (I6 a3)), (7, (I6 a4)), (8, (I6 a5))] []) = some (ref12_Much_j2.to r) := by
 rw [ref12_Much_j2] at h
 obtain ⟨h1, h⟩ := ck h
 obtain ⟨⟨a6, a7, a8, ⟨a9, a10, a11, a12, a13⟩, ⟨a14, a15, a16⟩, a17, a18, a19⟩, h2, h⟩ := sm h
 obtain ⟨a20, h3, h⟩ := sm h
 obtain ⟨a21, h4, h⟩ := sm h
 obtain ⟨a22, h5, h⟩ := sm h
 have o8 {os} (x : Obls (env Tryz.prog 20 Tryz.f20 call) n os) := ob_n h1 (ob_t (look_ts GStep.ts_map h2) (ob_v (len_ts texts_map (l := a7)) (ob_v (len_ts ints_i64_map (l := a8)) (ob_v (len_ts texts_map (l := a19)) (ob_c (ht.ref02_Count _ _ _ h3) (ob_c (ht.ref09_Count _ _ _ h4) (ob_c (ht.ref12_Inner _ _ h5) x)))))))
 obtain ⟨a23 | ⟨a24, a25, a26, a27, a28, a29, a30, a31⟩, h6, h⟩ := sm h
 ·cases h
  exact path (o8 (ob_k (lk (sub [1, 1, 0, 1, 0, 0, 1, 0, 0, 1, 1, 1, 1, 0] (bodyOf Tryz.f20)) (by kernel_rfl) (ref12_Much_l3.okL ht n n _ _ _ _ _ _ _ _ h6)) ob)) (by kernel_rfl)
 ·cases h
  exact path (o8 (ob_k (lk (sub [1, 1, 0, 1, 0, 0, 1, 0, 0, 1, 1, 1, 1, 0] (bodyOf Tryz.f20)) (by kernel_rfl) (ref12_Much_l3.okL ht n n _ _ _ _ _ _ _ _ h6)) ob)) (by kernel_rfl)
theorem ref12_Much_l1.okL (ht : TabOk t call) (n : Nat) : ∀ (k : Nat) (a1 : List GStep) (a2 a3 a4 a5 : Int) (r : _), ref12_Much_l1 t n k a1 a2 a3 a4 a5 = some r → loopN (exec (env Tryz.prog 20 Tryz.f20 call) n (sub [1, 1, 0, 1, 0, 0] (bodyOf Tryz.f20))) k (mkSt 80 80 [(0, (Sl 14 (GStep.ts a1))), (1, (I6 a2)), (2, (I6 a3)), (7, (I6 a4)), (8, (I6 a5))] []) = some (ref12_Much_l1.to r)
 | 0, a1, a2, a3, a4, a5, r, h => by rw [ref12_Much_l1] at h; cases h
 | k + 1, a1, a2, a3, a4, a5, r, h => by
  rw [ref12_Much_l1] at h
  rcases fk h with ⟨h1, h⟩ | ⟨h1, h⟩
  ·rcases fk h with ⟨h2, h⟩ | ⟨h2, h⟩
   ·obtain ⟨a6 | ⟨a7, a8, a9, a10, a11⟩, h3, h⟩ := sm h
    ·cases h
     exact loop_out (path (ob_v (len_ts GStep.ts_map (l := a1)) (ob_b4 h1 (ob_b h2 (ob_j (ref12_Much_j2.ok ht n _ _ _ _ _ _ h3) ob)))) (by kernel_rfl)) (fun h => by cases h)
    ·exact loop_more (path (ob_v (len_ts GStep.ts_map (l := a1)) (ob_b4 h1 (ob_b h2 (ob_j (ref12_Much_j2.ok ht n _ _ _ _ _ _ h3) ob)))) (by kernel_rfl)) (ref12_Much_l1.okL ht n k _ _ _ _ _ _ h)
   ·cases h
    exact loop_out (path (ob_v (len_ts GStep.ts_map (l := a1)) (ob_b4 h1 (ob_b h2 ob))) (by kernel_rfl)) (fun h => by cases h)
  ·cases h
   exact loop_out (path (ob_v (len_ts GStep.ts_map (l := a1)) (ob_b4 h1 (ob_b (rfl : false = false) ob))) (by kernel_rfl)) (fun h => by cases h)
theorem ref12_Much.ok {n : Nat} {t : Tab} (ht : TabOk t (run Tryz.prog own kp X n)) : ∀ (p1 : List GStep) (p2 : Int) (p3 : Int) r, ref12_Much t n p1 p2 p3 = some r → run Tryz.prog own kp X (n + 1) 20 [(Sl 14 (GStep.ts p1)), (I6 p2), (I6 p3)] [] = some ((I6 r), []) := by
 intro p1 p2 p3 r h
 obtain ⟨a1, rfl⟩ : ∃ z_, z_ = p1 := ⟨_, rfl⟩
 obtain ⟨a2, rfl⟩ : ∃ z_, z_ = p2 := ⟨_, rfl⟩
 obtain ⟨a3, rfl⟩ : ∃ z_, z_ = p3 := ⟨_, rfl⟩
 rw [ref12_Much] at h
 obtain ⟨a4 | ⟨a5, a6, a7, a8, a9, a10⟩, h1, h⟩ := sm h
 ·cases h
  exact run_path Tryz.func20 (ob_k (lk (sub [1, 1, 0, 1, 0] (bodyOf Tryz.f20)) (by kernel_rfl) (ref12_Much_l1.okL ht n n _ _ _ _ _ _ h1)) ob) (by kernel_rfl)
 ·cases h
  exact run_path Tryz.func20 (ob_k (lk (sub [1, 1, 0, 1, 0] (bodyOf Tryz.f20)) (by kernel_rfl) (ref12_Much_l1.okL ht n n _ _ _ _ _ _ h1)) ob) (by kernel_rfl)
theorem slices_EqualFunc_plan_Same_1_l1.okL (ht : TabOk t call) (n : Nat) : ∀ (k : Nat) (a1 a2 : List GStep) (a3 a4 : Int) (r : _), slices_EqualFunc_plan_Same_1_l1 t n k a1 a2 a3 a4 = some r → loopN (exec (env Tryz.prog 32 Tryz.f32 call) n (sub [1, 1, 0, 1, 0, 0] (bodyOf Tryz.f32))) k (mkSt 32 32 [(1, (Sl 14 (GStep.ts a1))), (2, (.fn 33 [])), (15, (Sl 14 (GStep.ts a2))), (16, (I6 a3)), (17, (I6 a4))] []) = some (slices_EqualFunc_plan_Same_1_l1.to r)
 | 0, a1, a2, a3, a4, r, h => by rw [slices_EqualFunc_plan_Same_1_l1] at h; cases h
 | k + 1, a1, a2, a3, a4, r, h => by
  rw [slices_EqualFunc_plan_Same_1_l1] at h
  rcases fk h with ⟨h1, h⟩ | ⟨h1, h⟩
  ·obtain ⟨h2, h⟩ := ck h
   obtain ⟨⟨a5, a6, a7, ⟨a8, a9, a10, a11, a12⟩, ⟨a13, a14, a15⟩, a16, a17, a18⟩, h3, h⟩ := sm h
   obtain ⟨⟨a19, a20, a21, ⟨a22, a23, a24, a25, a26⟩, ⟨a27, a28, a29⟩, a30, a31, a32⟩, h4, h⟩ := sm h
   obtain ⟨a33, h5, h⟩ := sm h
   rcases fk h with ⟨h6, h⟩ | ⟨h6, h⟩
   ·exact loop_more (path (ob_b h1 (ob_n h2 (ob_t (look_ts GStep.ts_map h3) (ob_n h2 (ob_t (look_ts GStep.ts_map h4) (ob_c (ht.plan_Same_1 _ _ _ h5) (ob_b (congrArg (!·) h6) ob))))))) (by kernel_rfl)) (slices_EqualFunc_plan_Same_1_l1.okL ht n k _ _ _ _ _ h)
   ·cases h
    exact loop_out (path (ob_b h1 (ob_n h2 (ob_t (look_ts GStep.ts_map h3) (ob_n h2 (ob_t (look_ts GStep.ts_map h4) (ob_c (ht.plan_Same_1 _ _ _ h5) (ob_b (congrArg (!·) h6) ob))))))) (by kernel_rfl)) (fun h => by cases h)
  ·cases h
   exact loop_out (path (ob_b h1 ob) (by kernel_rfl)) (fun h => by cases h)
theorem slices_EqualFunc_plan_Same_1.ok {n : Nat} {t : Tab} (ht : TabOk t (run Tryz.prog own kp X n)) : ∀ (p1 : List GStep) (p2 : List GStep) r, slices_EqualFunc_plan_Same_1 t n p1 p2 = some r → run Tryz.prog own kp X (n + 1) 32 [(Sl 14 (GStep.ts p1)), (Sl 14 (GStep.ts p2)), (.fn 33 [])] [] = some ((Bo r), []) := by
 intro p1 p2 r h
 obtain ⟨a1, rfl⟩ : ∃ z_, z_ = p1 := ⟨_, rfl⟩
 obtain ⟨a2, rfl⟩ : ∃ z_, z_ = p2 := ⟨_, rfl⟩
 rw [slices_EqualFunc_plan_Same_1] at h
 rcases fk h with ⟨h1, h⟩ | ⟨h1, h⟩
 ·cases h
  exact run_path Tryz.func32 (ob_v (len_ts GStep.ts_map (l := a1)) (ob_v (len_ts GStep.ts_map (l := a2)) (ob_b h1 ob))) (by kernel_rfl)
 ·obtain ⟨a3 | ⟨a4, a5, a6, a7, a8⟩, h2, h⟩ := sm h
  ·cases h
   exact run_path Tryz.func32 (ob_v (len_ts GStep.ts_map (l := a1)) (ob_v (len_ts GStep.ts_map (l := a2)) (ob_b h1 (ob_v (len_ts GStep.ts_map (l := a1)) (ob_k (lk (sub [1, 1, 0, 1, 0] (bodyOf Tryz.f32)) (by kernel_rfl) (slices_EqualFunc_plan_Same_1_l1.okL ht n n _ _ _ _ _ h2)) ob))))) (by kernel_rfl)
  ·cases h
   exact run_path Tryz.func32 (ob_v (len_ts GStep.ts_map (l := a1)) (ob_v (len_ts GStep.ts_map (l := a2)) (ob_b h1 (ob_v (len_ts GStep.ts_map (l := a1)) (ob_k (lk (sub [1, 1, 0, 1, 0] (bodyOf Tryz.f32)) (by kernel_rfl) (slices_EqualFunc_plan_Same_1_l1.okL ht n n _ _ _ _ _ h2)) ob))))) (by kernel_rfl)
theorem plan_copied_l2.okL (ht : TabOk t call) (n : Nat) : ∀ (k : Nat) (a1 : Int) (a2 a3 : List GStep) (a4 a5 : Int) (a6 : List GBy) (a7 a8 a9 : Int) (a10 : List ByteArray) (a11 : List Int) (a12 a13 : Int) (a14 : ByteArray) (a15 a16 : List GValue) (a17 : Int) (a18 : List GValue) (a19 : List GPred) (a20 : List (List GStep)) (a21 : List GBy) (a22 : List ByteArray) (r : _), plan_copied_l2 t n k a1 a2 a3 a4 a5 a6 a7 a8 a9 a10 a11 a12 a13 a14 a15 a16 a17 a18 a19 a20 a21 a22 = some r → loopN (exec (env Tryz.prog 41 Tryz.f41 call) n (sub [1, 1, 1, 0, 1, 0, 0, 1, 1, 0, 0, 1, 1, 0, 1, 0, 0] (bodyOf Tryz.f41))) k (mkSt 73 73 [(1, (I6 a1)), (5, (.t (.xl 14 (GStep.xs a2)))), (8, (.ptr 8 0 [] 0)), (13, (Sl 14 (GStep.ts a3))), (14, (I6 a4)), (15, (I6 a5)), (43, (Sl 4 (GBy.ts a6))), (44, (I6 a7)), (45, (I6 a8))] [(8, (.t (.st [(.v (.int .i64 a9)), (.xl 1 (texts a10)), (.xl 1 (ints_i64 a11)), (.st [(.v (.int .i64 a12)), (.v (.int .i64 a13)), (.v (.string a14)), (.xl 5 (GValue.xs a15)), (.xl 5 (GValue.xs a16))]), (.st [(.v (.int .i64 a17)), (.xl 5 (GValue.xs a18)), (.xl 3 (GPred.xs a19))]), (.xl 1 (xrows_GStep_xs a20)), (.xl 4 (GBy.xs a21)), (.xl 1 (texts a22))])))]) = some (plan_copied_l2.to r)
 | 0, a1, a2, a3, a4, a5, a6, a7, a8, a9, a10, a11, a12, a13, a14, a15, a16, a17, a18, a19, a20, a21, a22, r, h => by rw [plan_copied_l2] at h; cases h
 | k + 1, a1, a2, a3, a4, a5, a6, a7, a8, a9, a10, a11, a12, a13, a14, a15, a16, a17, a18, a19, a20, a21, a22, r, h => by
  rw [plan_copied_l2] at h
  rcases fk h with ⟨h1, h⟩ | ⟨h1, h⟩
  ·obtain ⟨h2, h⟩ := ck h
   obtain ⟨⟨a23, a24, a25, a26⟩, h3, h⟩ := sm h
   obtain ⟨a27, h4, h⟩ := sm h
   obtain ⟨h5, h⟩ := cl h
   exact loop_more (path (ob_b h1 (ob_n h2 (ob_t (look_ts GBy.ts_map h3) (ob_c (ht.plan_copied _ _ _ h4) (ob_le (room_ts GBy.xs_map h5) (ob_l (app_ts GBy.xs_map (a := a21) (b := ([(GBy.mk a23 a24 a27 a26)] : List GBy))) ob)))))) (by kernel_rfl)) (plan_copied_l2.okL ht n k _ _ _ _ _ _ _ _ _ _ _ _ _ _ _ _ _ _ _ _ _ _ _ h)
  ·cases h
   exact loop_out (path (ob_b h1 ob) (by kernel_rfl)) (fun h => by cases h)
theorem plan_copied_j3.ok (ht : TabOk t call) (n : Nat) (a1 : Int) (a2 a3 : List GStep) (a4 a5 a6 : Int) (a7 : List ByteArray) (a8 : List Int) (a9 a10 : Int) (a11 : ByteArray) (a12 a13 : List GValue) (a14 : Int) (a15 : List GValue) (a16 : List GPred) (a17 : List (List GStep)) (a18 : List GBy) (a19 : List ByteArray) (r : _) (h : plan_copied_j3 t n a1 a2 a3 a4 a5 a6 a7 a8 a9 a10 a11 a12 a13 a14 a15 a16 a17 a18 a19 = some r) : exec (env Tryz.prog 41 Tryz.f41 call) n (sub [1, 1, 1, 0, 1, 0, 0, 1, 1, 0, 0, 1, 1, 1] (bodyOf Tryz.f41)) (mkSt 73 73 [(1, (I6 a1)), (5, (.t (.xl 14 (GStep.xs a2)))), (8, (.ptr 8 0 [] 0)), (13, (Sl 14 (GStep.ts a3))), (14, (I6 a4)), (15, (I6 a5))] [(8, (.t (.st [(.v (.int .i64 a6)), (.xl 1 (texts a7)), (.xl 1 (ints_i64 a8)), (.st [(.v (.int .i64 a9)), (.v (.int .i64 a10)), (.v (.string a11)), (.xl 5 (GValue.xs a12)), (.xl 5 (GValue.xs a13))]), (.st [(.v (.int .i64 a14)), (.xl 5 (GValue.xs a15)), (.xl 3 (GPred.xs a16))]), (.xl 1 (xrows_GStep_xs a17)), (.xl 4 (GBy.xs a18)), (.xl 1 (texts a19))])))]) = some (plan_copied_j3.to r) := by
 rw [plan_copied_j3] at h
 obtain ⟨h1, h⟩ := cl h
 cases h
 exact path (ob_le (room_ts GStep.xs_map h1) (ob_l (app_ts GStep.xs_map (a := a2) (b := ([(GStep.mk a6 a7 a8 (GValue.mk a9 a10 a11 a12 a13) (GPred.mk a14 a15 a16) a17 a18 a19)] : List GStep))) ob)) (by kernel_rfl)
theorem plan_copied_l1.okL (ht : TabOk t call) (n : Nat) : ∀ (k : Nat) (a1 : Int) (a2 a3 : List GStep) (a4 a5 : Int) (r : _), plan_copied_l1 t n k a1 a2 a3 a4 a5 = some r → loopN (exec (env Tryz.prog 41 Tryz.f41 call) n (sub [1, 1, 1, 0, 1, 0, 0] (bodyOf Tryz.f41))) k (mkSt 73 73 [(1, (I6 a1)), (5, (.t (.xl 14 (GStep.xs a2)))), (13, (Sl 14 (GStep.ts a3))), (14, (I6 a4)), (15, (I6 a5))] []) = some (plan_copied_l1.to r)
 | 0, a1, a2, a3, a4, a5, r, h => by rw [plan_copied_l1] at h; cases h
 | k + 1, a1, a2, a3, a4, a5, r, h => by
  rw [plan_copied_l1] at h
  rcases fk h with ⟨h1, h⟩ | ⟨h1, h⟩
  ·obtain ⟨h2, h⟩ := ck h
   obtain ⟨⟨a6, a7, a8, ⟨a9, a10, a11, a12, a13⟩, ⟨a14, a15, a16⟩, a17, a18, a19⟩, h3, h⟩ := sm h
   obtain ⟨a20, h4, h⟩ := sm h
   obtain ⟨a21, h5, h⟩ := sm h
   obtain ⟨⟨a22, a23, a24, a25, a26⟩, h6, h⟩ := sm h
   obtain ⟨⟨a27, a28, a29⟩, h7, h⟩ := sm h
   obtain ⟨a30, h8, h⟩ := sm h
   obtain ⟨a31, h9, h⟩ := sm h
   obtain ⟨⟨a32, a33, a34, a35, a36, a37, a38, a39, a40, a41, a42, a43, a44, a45, a46, a47, a48, a49, a50, a51, a52, a53, a54⟩, h10, h⟩ := sm h
   obtain ⟨⟨a55, a56, a57, a58, a59⟩, h11, h⟩ := sm h
   exact loop_more (path (ob_b h1 (ob_n h2 (ob_t (look_ts GStep.ts_map h3) (ob_c (ht.slices_Clone_string _ _ h4) (ob_c (ht.slices_Clone_int _ _ h5) (ob_c (ht.value_Copy _ _ h6) (ob_c (ht.pred_Copy _ _ h7) (ob_c (ht.slices_Clone_string _ _ h8) (ob_c (ht.plan_plans _ _ _ h9) (ob_v (len_ts GBy.ts_map (l := a18)) (ob_k (lk (sub [1, 1, 1, 0, 1, 0, 0, 1, 1, 0, 0, 1, 1, 0, 1, 0] (bodyOf Tryz.f41)) (by kernel_rfl) (plan_copied_l2.okL ht n n _ _ _ _ _ _ _ _ _ _ _ _ _ _ _ _ _ _ _ _ _ _ _ h10)) (ob_j (plan_copied_j3.ok ht n _ _ _ _ _ _ _ _ _ _ _ _ _ _ _ _ _ _ _ _ h11) ob)))))))))))) (by kernel_rfl)) (plan_copied_l1.okL ht n k _ _ _ _ _ _ h)
  ·cases h
   exact loop_out (path (ob_b h1 ob) (by kernel_rfl)) (fun h => by cases h)
theorem plan_copied.ok {n : Nat} {t : Tab} (ht : TabOk t (run Tryz.prog own kp X n)) : ∀ (p1 : List GStep) (p2 : Int) r, plan_copied t n p1 p2 = some r → run Tryz.prog own kp X (n + 1) 41 [(Sl 14 (GStep.ts p1)), (I6 p2)] [] = some ((.t (.xl 14 (GStep.xs r))), []) := by
 intro p1 p2 r h
 obtain ⟨a1, rfl⟩ : ∃ z_, z_ = p1 := ⟨_, rfl⟩
 obtain ⟨a2, rfl⟩ : ∃ z_, z_ = p2 := ⟨_, rfl⟩
 rw [plan_copied] at h
 rcases fk h with ⟨h1, h⟩ | ⟨h1, h⟩
 ·cases h
  exact run_path Tryz.func41 (ob_b h1 ob) (by kernel_rfl)
 ·obtain ⟨⟨a3, a4, a5, a6, a7, a8⟩, h2, h⟩ := sm h
  cases h
  exact run_path Tryz.func41 (ob_b h1 (ob_v (len_ts GStep.ts_map (l := a1)) (ob_k (lk (sub [1, 1, 1, 0, 1, 0] (bodyOf Tryz.f41)) (by kernel_rfl) (plan_copied_l1.okL ht n n _ _ _ _ _ _ h2)) ob))) (by kernel_rfl)
theorem ref12_Steps.ok {n : Nat} {t : Tab} (ht : TabOk t (run Tryz.prog own kp X n)) : ∀ (p1 : List GStep) r, ref12_Steps t n p1 = some r → run Tryz.prog own kp X (n + 1) 10 [(Sl 14 (GStep.ts p1))] [] = some ((I6 r), []) := by
 intro p1 r h
 obtain ⟨a1, rfl⟩ : ∃ z_, z_ = p1 := ⟨_, rfl⟩
 rw [ref12_Steps] at h
 obtain ⟨a2, h1, h⟩ := sm h
 cases h
 exact run_path Tryz.func10 (ob_c (ht.ref12_steps _ _ _ _ h1) ob) (by kernel_rfl)
theorem ref12_right_l5.okL (ht : TabOk t call) (n : Nat) : ∀ (k : Nat) (a1 : List GStep) (a2 a3 a4 a5 : Int) (a6 : List ByteArray) (a7 : List Int) (a8 a9 : Int) (a10 : ByteArray) (a11 a12 : List GValue) (a13 : Int) (a14 : List GValue) (a15 : List GPred) (a16 : List (List GStep)) (a17 : List GBy) (a18 : List ByteArray) (r : _), ref12_right_l5 t n k a1 a2 a3 a4 a5 a6 a7 a8 a9 a10 a11 a12 a13 a14 a15 a16 a17 a18 = some r → loopN (exec (env Tryz.prog 23 Tryz.f23 call) n (sub [1, 1, 0, 1, 0, 0, 1, 0, 0, 1, 1, 1, 1, 1, 1, 1, 0, 1, 0, 0] (bodyOf Tryz.f23))) k (mkSt 129 129 [(0, (Sl 14 (GStep.ts a1))), (1, (I6 a2)), (5, (I6 a3)), (6, (.ptr 6 0 [] 0)), (11, (I6 a4))] [(6, (.t (.st [(.v (.int .i64 a5)), (.sl false 1 (texts a6)), (.sl false 1 (ints_i64 a7)), (.st [(.v (.int .i64 a8)), (.v (.int .i64 a9)), (.v (.string a10)), (.sl false 5 (GValue.ts a11)), (.sl false 5 (GValue.ts a12))]), (.st [(.v (.int .i64 a13)), (.sl false 5 (GValue.ts a14)), (.sl false 3 (GPred.ts a15))]), (.sl false 1 (rows_GStep_ts a16)), (.sl false 4 (GBy.ts a17)), (.sl false 1 (texts a18))])))]) = some (ref12_right_l5.to r)
 | 0, a1, a2, a3, a4, a5, a6, a7, a8, a9, a10, a11, a12, a13, a14, a15, a16, a17, a18, r, h => by rw [ref12_right_l5] at h; cases h
 | k + 1, a1, a2, a3, a4, a5, a6, a7, a8, a9, a10, a11, a12, a13, a14, a15, a16, a17, a18, r, h => by
  rw [ref12_right_l5] at h
  rcases fk h with ⟨h1, h⟩ | ⟨h1, h⟩
  ·obtain ⟨h2, h⟩ := ck h
   obtain ⟨a19, h3, h⟩ := sm h
   obtain ⟨a20, h4, h⟩ := sm h
   rcases fk h with ⟨h5, h⟩ | ⟨h5, h⟩
   ·exact loop_more (path (ob_v (len_ts rows_GStep_ts_map (l := a16)) (ob_b h1 (ob_n h2 (ob_t (look_ts rows_GStep_ts_map h3) (ob_c (ht.ref12_right _ _ _ h4) (ob_b (congrArg (!·) h5) ob)))))) (by kernel_rfl)) (ref12_right_l5.okL ht n k _ _ _ _ _ _ _ _ _ _ _ _ _ _ _ _ _ _ _ h)
   ·cases h
    exact loop_out (path (ob_v (len_ts rows_GStep_ts_map (l := a16)) (ob_b h1 (ob_n h2 (ob_t (look_ts rows_GStep_ts_map h3) (ob_c (ht.ref12_right _ _ _ h4) (ob_b (congrArg (!·) h5) ob)))))) (by kernel_rfl)) (fun h => by cases h)
  ·cases h
   exact loop_out (path (ob_v (len_ts rows_GStep_ts_map (l := a16)) (ob_b h1 ob)) (by kernel_rfl)) (fun h => by cases h)
theorem ref12_right_l7.okL (ht : TabOk t call) (n : Nat) : ∀ (k : Nat) (a1 : List GStep) (a2 a3 a4 a5 : Int) (a6 : List ByteArray) (a7 : List Int) (a8 a9 : Int) (a10 : ByteArray) (a11 a12 : List GValue) (a13 : Int) (a14 : List GValue) (a15 : List GPred) (a16 : List (List GStep)) (a17 : List GBy) (a18 : List ByteArray) (r : _), ref12_right_l7 t n k a1 a2 a3 a4 a5 a6 a7 a8 a9 a10 a11 a12 a13 a14 a15 a16 a17 a18 = some r → loopN (exec (env Tryz.prog 23 Tryz.f23 call) n (sub [1, 1, 0, 1, 0, 0, 1, 0, 0, 1, 1, 1, 1, 1, 1, 1, 1, 1, 0, 0] (bodyOf Tryz.f23))) k (mkSt 129 129 [(0, (Sl 14 (GStep.ts a1))), (1, (I6 a2)), (5, (I6 a3)), (6, (.ptr 6 0 [] 0)), (12, (I6 a4))] [(6, (.t (.st [(.v (.int .i64 a5)), (.sl false 1 (texts a6)), (.sl false 1 (ints_i64 a7)), (.st [(.v (.int .i64 a8)), (.v (.int .i64 a9)), (.v (.string a10)), (.sl false 5 (GValue.ts a11)), (.sl false 5 (GValue.ts a12))]), (.st [(.v (.int .i64 a13)), (.sl false 5 (GValue.ts a14)), (.sl false 3 (GPred.ts a15))]), (.sl false 1 (rows_GStep_ts a16)), (.sl false 4 (GBy.ts a17)), (.sl false 1 (texts a18))])))]) = some (ref12_right_l7.to r)
 | 0, a1, a2, a3, a4, a5, a6, a7, a8, a9, a10, a11, a12, a13, a14, a15, a16, a17, a18, r, h => by rw [ref12_right_l7] at h; cases h
 | k + 1, a1, a2, a3, a4, a5, a6, a7, a8, a9, a10, a11, a12, a13, a14, a15, a16, a17, a18, r, h => by
  rw [ref12_right_l7] at h
  rcases fk h with ⟨h1, h⟩ | ⟨h1, h⟩
  ·obtain ⟨h2, h⟩ := ck h
   obtain ⟨⟨a19, a20, a21, a22⟩, h3, h⟩ := sm h
   obtain ⟨a23, h4, h⟩ := sm h
   obtain ⟨a24, h5, h⟩ := sm h
   rcases fk h with ⟨h6, h⟩ | ⟨h6, h⟩
   ·exact loop_more (path (ob_v (len_ts GBy.ts_map (l := a17)) (ob_b h1 (ob_n h2 (ob_t (look_ts GBy.ts_map h3) (ob_c (ht.ref12_Name _ _ h4) (ob_c (ht.ref12_by _ _ _ _ h5) (ob_b (congrArg (!·) h6) ob))))))) (by kernel_rfl)) (ref12_right_l7.okL ht n k _ _ _ _ _ _ _ _ _ _ _ _ _ _ _ _ _ _ _ h)
   ·cases h
    exact loop_out (path (ob_v (len_ts GBy.ts_map (l := a17)) (ob_b h1 (ob_n h2 (ob_t (look_ts GBy.ts_map h3) (ob_c (ht.ref12_Name _ _ h4) (ob_c (ht.ref12_by _ _ _ _ h5) (ob_b (congrArg (!·) h6) ob))))))) (by kernel_rfl)) (fun h => by cases h)
  ·cases h
   exact loop_out (path (ob_v (len_ts GBy.ts_map (l := a17)) (ob_b h1 ob)) (by kernel_rfl)) (fun h => by cases h)
theorem ref12_right_j6.ok (ht : TabOk t call) (n : Nat) (a1 : List GStep) (a2 a3 a4 : Int) (a5 : List ByteArray) (a6 : List Int) (a7 a8 : Int) (a9 : ByteArray) (a10 a11 : List GValue) (a12 : Int) (a13 : List GValue) (a14 : List GPred) (a15 : List (List GStep)) (a16 : List GBy) (a17 : List ByteArray) (r : _) (h : ref12_right_j6 t n a1 a2 a3 a4 a5 a6 a7 a8 a9 a10 a11 a12 a13 a14 a15 a16 a17 = some r) : exec (env Tryz.prog 23 Tryz.f23 call) n (sub [1, 1, 0, 1, 0, 0, 1, 0, 0, 1, 1, 1, 1, 1, 1, 1, 1] (bodyOf Tryz.f23)) (mkSt 129 129 [(0, (Sl 14 (GStep.ts a1))), (1, (I6 a2)), (5, (I6 a3)), (6, (.ptr 6 0 [] 0))] [(6, (.t (.st [(.v (.int .i64 a4)), (.sl false 1 (texts a5)), (.sl false 1 (ints_i64 a6)), (.st [(.v (.int .i64 a7)), (.v (.int .i64 a8)), (.v (.string a9)), (.sl false 5 (GValue.ts a10)), (.sl false 5 (GValue.ts a11))]), (.st [(.v (.int .i64 a12)), (.sl false 5 (GValue.ts a13)), (.sl false 3 (GPred.ts a14))]), (.sl false 1 (rows_GStep_ts a15)), (.sl false 4 (GBy.ts a16)), (.sl false 1 (texts a17))])))]) = some (ref12_right_j6.to r) := by
 rw [ref12_right_j6] at h
 obtain ⟨a18 | ⟨a19, a20, a21, a22, a23, a24, a25, a26, a27, a28, a29, a30, a31, a32, a33, a34, a35, a36, a37⟩, h1, h⟩ := sm h
 ·cases h
  exact path (ob_k (lk (sub [1, 1, 0, 1, 0, 0, 1, 0, 0, 1, 1, 1, 1, 1, 1, 1, 1, 1, 0] (bodyOf Tryz.f23)) (by kernel_rfl) (ref12_right_l7.okL ht n n _ _ _ _ _ _ _ _ _ _ _ _ _ _ _ _ _ _ _ h1)) ob) (by kernel_rfl)
 ·cases h
  exact path (ob_k (lk (sub [1, 1, 0, 1, 0, 0, 1, 0, 0, 1, 1, 1, 1, 1, 1, 1, 1, 1, 0] (bodyOf Tryz.f23)) (by kernel_rfl) (ref12_right_l7.okL ht n n _ _ _ _ _ _ _ _ _ _ _ _ _ _ _ _ _ _ _ h1)) ob) (by kernel_rfl)
theorem ref12_right_j4.ok (ht : TabOk t call) (n : Nat) (a1 : List GStep) (a2 a3 a4 : Int) (a5 : List ByteArray) (a6 : List Int) (a7 a8 : Int) (a9 : ByteArray) (a10 a11 : List GValue) (a12 : Int) (a13 : List GValue) (a14 : List GPred) (a15 : List (List GStep)) (a16 : List GBy) (a17 : List ByteArray) (r : _) (h : ref12_right_j4 t n a1 a2 a3 a4 a5 a6 a7 a8 a9 a10 a11 a12 a13 a14 a15 a16 a17 = some r) : exec (env Tryz.prog 23 Tryz.f23 call) n (sub [1, 1, 0, 1, 0, 0, 1, 0, 0, 1, 1, 1, 1, 1, 1, 1] (bodyOf Tryz.f23)) (mkSt 129 129 [(0, (Sl 14 (GStep.ts a1))), (1, (I6 a2)), (5, (I6 a3)), (6, (.ptr 6 0 [] 0))] [(6, (.t (.st [(.v (.int .i64 a4)), (.sl false 1 (texts a5)), (.sl false 1 (ints_i64 a6)), (.st [(.v (.int .i64 a7)), (.v (.int .i64 a8)), (.v (.string a9)), (.sl false 5 (GValue.ts a10)), (.sl false 5 (GValue.ts a11))]), (.st [(.v (.int .i64 a12)), (.sl false 5 (GValue.ts a13)), (.sl false 3 (GPred.ts a14))]), (.sl false 1 (rows_GStep_ts a15)), (.sl false 4 (GBy.ts a16)), (.sl false 1 (texts a17))])))]) = some (ref12_right_j4.to r) := by
 rw [ref12_right_j4] at h
 obtain ⟨a18 | ⟨a19, a20, a21, a22, a23, a24, a25, a26, a27, a28, a29, a30, a31, a32, a33, a34, a35, a36, a37⟩, h1, h⟩ := sm h
 ·cases h
  exact path (ob_k (lk (sub [1, 1, 0, 1, 0, 0, 1, 0, 0, 1, 1, 1, 1, 1, 1, 1, 0, 1, 0] (bodyOf Tryz.f23)) (by kernel_rfl) (ref12_right_l5.okL ht n n _ _ _ _ _ _ _ _ _ _ _ _ _ _ _ _ _ _ _ h1)) ob) (by kernel_rfl)
 ·have h2 := h
  rcases r with a38 | ⟨a39, a40, a41⟩
  ·exact path (ob_k (lk (sub [1, 1, 0, 1, 0, 0, 1, 0, 0, 1, 1, 1, 1, 1, 1, 1, 0, 1, 0] (bodyOf Tryz.f23)) (by kernel_rfl) (ref12_right_l5.okL ht n n _ _ _ _ _ _ _ _ _ _ _ _ _ _ _ _ _ _ _ h1)) (ob_j (ref12_right_j6.ok ht n _ _ _ _ _ _ _ _ _ _ _ _ _ _ _ _ _ _ h2) ob)) (by kernel_rfl)
  ·exact path (ob_k (lk (sub [1, 1, 0, 1, 0, 0, 1, 0, 0, 1, 1, 1, 1, 1, 1, 1, 0, 1, 0] (bodyOf Tryz.f23)) (by kernel_rfl) (ref12_right_l5.okL ht n n _ _ _ _ _ _ _ _ _ _ _ _ _ _ _ _ _ _ _ h1)) (ob_j (ref12_right_j6.ok ht n _ _ _ _ _ _ _ _ _ _ _ _ _ _ _ _ _ _ h2) ob)) (by kernel_rfl)
theorem ref12_right_j3.ok (ht : TabOk t call) (n : Nat) (a1 : List GStep) (a2 a3 a4 a5 : Int) (a6 a7 : Bool) (a8 : Int) (a9 : List ByteArray) (a10 : List Int) (a11 a12 : Int) (a13 : ByteArray) (a14 a15 : List GValue) (a16 : Int) (a17 : List GValue) (a18 : List GPred) (a19 : List (List GStep)) (a20 : List GBy) (a21 : List ByteArray) (r : _) (h : ref12_right_j3 t n a1 a2 a3 a4 a5 a6 a7 a8 a9 a10 a11 a12 a13 a14 a15 a16 a17 a18 a19 a20 a21 = some r) : exec (env Tryz.prog 23 Tryz.f23 call) n (sub [1, 1, 0, 1, 0, 0, 1, 0, 0, 1, 1, 1, 1, 1, 1] (bodyOf Tryz.f23)) (mkSt 129 129 [(0, (Sl 14 (GStep.ts a1))), (1, (I6 a2)), (5, (I6 a3)), (6, (.ptr 6 0 [] 0)), (7, (I6 a4)), (8, (I6 a5)), (9, (Bo a6)), (10, (Bo a7))] [(6, (.t (.st [(.v (.int .i64 a8)), (.sl false 1 (texts a9)), (.sl false 1 (ints_i64 a10)), (.st [(.v (.int .i64 a11)), (.v (.int .i64 a12)), (.v (.string a13)), (.sl false 5 (GValue.ts a14)), (.sl false 5 (GValue.ts a15))]), (.st [(.v (.int .i64 a16)), (.sl false 5 (GValue.ts a17)), (.sl false 3 (GPred.ts a18))]), (.sl false 1 (rows_GStep_ts a19)), (.sl false 4 (GBy.ts a20)), (.sl false 1 (texts a21))])))]) = some (ref12_right_j3.to r) := by
 rw [ref12_right_j3] at h
 rcases fk h with ⟨h1, h⟩ | ⟨h1, h⟩
 ·have o3 {os} (x : Obls (env Tryz.prog 23 Tryz.f23 call) n os) := ob_b3 h1 x
  rcases fk h with ⟨h2, h⟩ | ⟨h2, h⟩
  ·cases h
   exact path (o3 (ob_b4 h2 (ob_b h2 (ob_b4 (rfl : true = true) (ob_b4 (rfl : true = true) (ob_b2 (rfl : true = true) ob)))))) (by kernel_rfl)
  ·have o16 {os} (x : Obls (env Tryz.prog 23 Tryz.f23 call) n os) := o3 (ob_b3 h2 (ob_b4 (congrArg (!·) h1) (ob_b (congrArg (!·) h1) (ob_b h2 (ob_b (congrArg (!·) h1) (ob_b h2 (ob_b2 (rfl : false = false) x)))))))
   rcases fk h with ⟨h3, h⟩ | ⟨h3, h⟩
   ·have o21 {os} (x : Obls (env Tryz.prog 23 Tryz.f23 call) n os) := o16 (ob_b2 h3 (ob_b (rfl : false = false) (ob_b h3 (ob_b (rfl : false = false) x))))
    rcases fk h with ⟨h4, h⟩ | ⟨h4, h⟩
    ·cases h
     exact path (o21 (ob_b4 h4 (ob_b h4 (ob_b (rfl : true = true) ob)))) (by kernel_rfl)
    ·have h5 := h
     have o33 {os} (x : Obls (env Tryz.prog 23 Tryz.f23 call) n os) := o21 (ob_b3 h4 (ob_b4 (congrArg (!·) h3) (ob_b (congrArg (!·) h3) (ob_b h4 (ob_b (congrArg (!·) h3) (ob_b h4 (ob_b (rfl : false = false) x)))))))
     rcases r with a22 | ⟨a23, a24, a25⟩
     ·exact path (o33 (ob_j (ref12_right_j4.ok ht n _ _ _ _ _ _ _ _ _ _ _ _ _ _ _ _ _ _ h5) ob)) (by kernel_rfl)
     ·exact path (o33 (ob_j (ref12_right_j4.ok ht n _ _ _ _ _ _ _ _ _ _ _ _ _ _ _ _ _ _ h5) ob)) (by kernel_rfl)
   ·obtain ⟨a26, h6, h⟩ := sm h
    have o33 {os} (x : Obls (env Tryz.prog 23 Tryz.f23 call) n os) := o16 (ob_b2 h3 (ob_b (rfl : false = false) (ob_b h3 (ob_b4 (rfl : false = false) (ob_b4 (congrArg (!·) h3) (ob_c (ht.ref09_Same _ _ _ h6) (ob_b (congrArg (!·) h3) (ob_b (rfl : false = false) (ob_b (congrArg (!·) h3) (ob_b (rfl : false = false) x))))))))))
    rcases fk h with ⟨h7, h⟩ | ⟨h7, h⟩
    ·have h8 := h
     rcases r with a27 | ⟨a28, a29, a30⟩
     ·exact path (o33 (ob_b (congrArg (!·) h7) (ob_j (ref12_right_j4.ok ht n _ _ _ _ _ _ _ _ _ _ _ _ _ _ _ _ _ _ h8) ob))) (by kernel_rfl)
     ·exact path (o33 (ob_b (congrArg (!·) h7) (ob_j (ref12_right_j4.ok ht n _ _ _ _ _ _ _ _ _ _ _ _ _ _ _ _ _ _ h8) ob))) (by kernel_rfl)
    ·cases h
     exact path (o33 (ob_b (congrArg (!·) h7) ob)) (by kernel_rfl)
 ·obtain ⟨a31, h9, h⟩ := sm h
  have o15 {os} (x : Obls (env Tryz.prog 23 Tryz.f23 call) n os) := ob_b3 h1 (ob_b3 (rfl : false = false) (ob_b4 (congrArg (!·) h1) (ob_c (ht.ref02_Same _ _ _ h9) (ob_b (congrArg (!·) h1) (ob_b (rfl : false = false) (ob_b (congrArg (!·) h1) (ob_b (rfl : false = false) x)))))))
  rcases fk h with ⟨h10, h⟩ | ⟨h10, h⟩
  ·have o17 {os} (x : Obls (env Tryz.prog 23 Tryz.f23 call) n os) := o15 (ob_b2 (congrArg (!·) h10) x)
   rcases fk h with ⟨h11, h⟩ | ⟨h11, h⟩
   ·have o22 {os} (x : Obls (env Tryz.prog 23 Tryz.f23 call) n os) := o17 (ob_b2 h11 (ob_b (congrArg (!·) h10) (ob_b h11 (ob_b (congrArg (!·) h10) x))))
    rcases fk h with ⟨h12, h⟩ | ⟨h12, h⟩
    ·cases h
     exact path (o22 (ob_b4 h12 (ob_b h12 (ob_b (rfl : true = true) ob)))) (by kernel_rfl)
    ·have h13 := h
     have o34 {os} (x : Obls (env Tryz.prog 23 Tryz.f23 call) n os) := o22 (ob_b3 h12 (ob_b4 (congrArg (!·) h11) (ob_b (congrArg (!·) h11) (ob_b h12 (ob_b (congrArg (!·) h11) (ob_b h12 (ob_b (rfl : false = false) x)))))))
     rcases r with a32 | ⟨a33, a34, a35⟩
     ·exact path (o34 (ob_j (ref12_right_j4.ok ht n _ _ _ _ _ _ _ _ _ _ _ _ _ _ _ _ _ _ h13) ob)) (by kernel_rfl)
     ·exact path (o34 (ob_j (ref12_right_j4.ok ht n _ _ _ _ _ _ _ _ _ _ _ _ _ _ _ _ _ _ h13) ob)) (by kernel_rfl)
   ·obtain ⟨a36, h14, h⟩ := sm h
    have o34 {os} (x : Obls (env Tryz.prog 23 Tryz.f23 call) n os) := o17 (ob_b2 h11 (ob_b (congrArg (!·) h10) (ob_b h11 (ob_b (congrArg (!·) h10) (ob_b3 (rfl : false = false) (ob_b4 (congrArg (!·) h11) (ob_c (ht.ref09_Same _ _ _ h14) (ob_b (congrArg (!·) h11) (ob_b (rfl : false = false) (ob_b (congrArg (!·) h11) (ob_b (rfl : false = false) x)))))))))))
    rcases fk h with ⟨h15, h⟩ | ⟨h15, h⟩
    ·have h16 := h
     rcases r with a37 | ⟨a38, a39, a40⟩
     ·exact path (o34 (ob_b (congrArg (!·) h15) (ob_j (ref12_right_j4.ok ht n _ _ _ _ _ _ _ _ _ _ _ _ _ _ _ _ _ _ h16) ob))) (by kernel_rfl)
     ·exact path (o34 (ob_b (congrArg (!·) h15) (ob_j (ref12_right_j4.ok ht n _ _ _ _ _ _ _ _ _ _ _ _ _ _ _ _ _ _ h16) ob))) (by kernel_rfl)
    ·cases h
     exact path (o34 (ob_b (congrArg (!·) h15) ob)) (by kernel_rfl)
  ·cases h
   exact path (o15 (ob_b4 (congrArg (!·) h10) (ob_b4 (rfl : true = true) (ob_b2 (rfl : true = true) ob)))) (by kernel_rfl)
theorem ref12_right_j2.ok (ht : TabOk t call) (n : Nat) (a1 : List GStep) (a2 a3 a4 : Int) (a5 : List ByteArray) (a6 : List Int) (a7 a8 : Int) (a9 : ByteArray) (a10 a11 : List GValue) (a12 : Int) (a13 : List GValue) (a14 : List GPred) (a15 : List (List GStep)) (a16 : List GBy) (a17 : List ByteArray) (r : _) (h : ref12_right_j2 t n a1 a2 a3 a4 a5 a6 a7 a8 a9 a10 a11 a12 a13 a14 a15 a16 a17 = some r) : exec (env Tryz.prog 23 Tryz.f23 call) n (sub [1, 1, 0, 1, 0, 0, 1, 0, 0, 1, 1] (bodyOf Tryz.f23)) (mkSt 129 129 [(0, (Sl 14 (GStep.ts a1))), (1, (I6 a2)), (5, (I6 a3)), (6, (.ptr 6 0 [] 0))] [(6, (.t (.st [(.v (.int .i64 a4)), (.sl false 1 (texts a5)), (.sl false 1 (ints_i64 a6)), (.st [(.v (.int .i64 a7)), (.v (.int .i64 a8)), (.v (.string a9)), (.sl false 5 (GValue.ts a10)), (.sl false 5 (GValue.ts a11))]), (.st [(.v (.int .i64 a12)), (.sl false 5 (GValue.ts a13)), (.sl false 3 (GPred.ts a14))]), (.sl false 1 (rows_GStep_ts a15)), (.sl false 4 (GBy.ts a16)), (.sl false 1 (texts a17))])))]) = some (ref12_right_j2.to r) := by
 rw [ref12_right_j2] at h
 obtain ⟨a18, h1, h⟩ := sm h
 obtain ⟨a19, h2, h⟩ := sm h
 obtain ⟨a20, h3, h⟩ := sm h
 have o4 {os} (x : Obls (env Tryz.prog 23 Tryz.f23 call) n os) := ob_c (ht.ref02_Check _ _ h1) (ob_c (ht.ref09_Check _ _ h2) (ob_c (ht.ref12_Name _ _ h3) (ob_c (ht.ref12_Name _ _ h3) x)))
 rcases fk h with ⟨h4, h⟩ | ⟨h4, h⟩
 ·have h5 := h
  rcases r with a21 | ⟨a22, a23, a24⟩
  ·exact path (o4 (ob_b4 h4 (ob_b h4 (ob_j (ref12_right_j3.ok ht n _ _ _ _ _ _ _ _ _ _ _ _ _ _ _ _ _ _ _ _ _ _ h5) ob)))) (by kernel_rfl)
  ·exact path (o4 (ob_b4 h4 (ob_b h4 (ob_j (ref12_right_j3.ok ht n _ _ _ _ _ _ _ _ _ _ _ _ _ _ _ _ _ _ _ _ _ _ h5) ob)))) (by kernel_rfl)
 ·have h6 := h
  rcases r with a25 | ⟨a26, a27, a28⟩
  ·exact path (o4 (ob_b3 h4 (ob_c (ht.ref12_Name _ _ h3) (ob_b2 h4 (ob_j (ref12_right_j3.ok ht n _ _ _ _ _ _ _ _ _ _ _ _ _ _ _ _ _ _ _ _ _ _ h6) ob))))) (by kernel_rfl)
  ·exact path (o4 (ob_b3 h4 (ob_c (ht.ref12_Name _ _ h3) (ob_b2 h4 (ob_j (ref12_right_j3.ok ht n _ _ _ _ _ _ _ _ _ _ _ _ _ _ _ _ _ _ _ _ _ _ h6) ob))))) (by kernel_rfl)
theorem ref12_right_l1.okL (ht : TabOk t call) (n : Nat) : ∀ (k : Nat) (a1 : List GStep) (a2 a3 : Int) (r : _), ref12_right_l1 t n k a1 a2 a3 = some r → loopN (exec (env Tryz.prog 23 Tryz.f23 call) n (sub [1, 1, 0, 1, 0, 0] (bodyOf Tryz.f23))) k (mkSt 129 129 [(0, (Sl 14 (GStep.ts a1))), (1, (I6 a2)), (5, (I6 a3))] []) = some (ref12_right_l1.to r)
 | 0, a1, a2, a3, r, h => by rw [ref12_right_l1] at h; cases h
 | k + 1, a1, a2, a3, r, h => by
  rw [ref12_right_l1] at h
  rcases fk h with ⟨h1, h⟩ | ⟨h1, h⟩
  ·obtain ⟨h2, h⟩ := ck h
   obtain ⟨⟨a4, a5, a6, ⟨a7, a8, a9, a10, a11⟩, ⟨a12, a13, a14⟩, a15, a16, a17⟩, h3, h⟩ := sm h
   obtain ⟨a18, h4, h⟩ := sm h
   have o5 {os} (x : Obls (env Tryz.prog 23 Tryz.f23 call) n os) := ob_v (len_ts GStep.ts_map (l := a1)) (ob_b h1 (ob_n h2 (ob_t (look_ts GStep.ts_map h3) (ob_c (ht.ref12_own _ _ h4) x))))
   rcases fk h with ⟨h5, h⟩ | ⟨h5, h⟩
   ·obtain ⟨a19, h6, h⟩ := sm h
    have o11 {os} (x : Obls (env Tryz.prog 23 Tryz.f23 call) n os) := o5 (ob_b3 (congrArg (!·) h5) (ob_c (ht.ref12_named _ _ h6) (ob_b2 (congrArg (!·) h5) x)))
    rcases fk h with ⟨h7, h⟩ | ⟨h7, h⟩
    ·obtain ⟨a20, h8, h⟩ := sm h
     have o17 {os} (x : Obls (env Tryz.prog 23 Tryz.f23 call) n os) := o11 (ob_b3 (congrArg (!·) h7) (ob_c (ht.ref12_named _ _ h8) (ob_b2 (congrArg (!·) h7) x)))
     rcases fk h with ⟨h9, h⟩ | ⟨h9, h⟩
     ·obtain ⟨a21 | ⟨a22, a23, a24⟩, h10, h⟩ := sm h
      ·cases h
       exact loop_out (path (o17 (ob_b (congrArg (!·) h9) (ob_j (ref12_right_j2.ok ht n _ _ _ _ _ _ _ _ _ _ _ _ _ _ _ _ _ _ h10) ob))) (by kernel_rfl)) (fun h => by cases h)
      ·exact loop_more (path (o17 (ob_b (congrArg (!·) h9) (ob_j (ref12_right_j2.ok ht n _ _ _ _ _ _ _ _ _ _ _ _ _ _ _ _ _ _ h10) ob))) (by kernel_rfl)) (ref12_right_l1.okL ht n k _ _ _ _ h)
     ·cases h
      exact loop_out (path (o17 (ob_b (congrArg (!·) h9) ob)) (by kernel_rfl)) (fun h => by cases h)
    ·cases h
     exact loop_out (path (o11 (ob_b4 (congrArg (!·) h7) (ob_b (congrArg (!·) h7) (ob_b (rfl : true = true) ob)))) (by kernel_rfl)) (fun h => by cases h)
   ·cases h
    exact loop_out (path (o5 (ob_b4 (congrArg (!·) h5) (ob_b (congrArg (!·) h5) (ob_b4 (rfl : true = true) (ob_b2 (rfl : true = true) ob))))) (by kernel_rfl)) (fun h => by cases h)
  ·cases h
   exact loop_out (path (ob_v (len_ts GStep.ts_map (l := a1)) (ob_b h1 ob)) (by kernel_rfl)) (fun h => by cases h)
theorem ref12_right.ok {n : Nat} {t : Tab} (ht : TabOk t (run Tryz.prog own kp X n)) : ∀ (p1 : List GStep) (p2 : Int) r, ref12_right t n p1 p2 = some r → run Tryz.prog own kp X (n + 1) 23 [(Sl 14 (GStep.ts p1)), (I6 p2)] [] = some ((Bo r), []) := by
 intro p1 p2 r h
 obtain ⟨a1, rfl⟩ : ∃ z_, z_ = p1 := ⟨_, rfl⟩
 obtain ⟨a2, rfl⟩ : ∃ z_, z_ = p2 := ⟨_, rfl⟩
 rw [ref12_right] at h
 rcases fk h with ⟨h1, h⟩ | ⟨h1, h⟩
 ·cases h
  exact run_path Tryz.func23 (ob_b h1 ob) (by kernel_rfl)
 ·obtain ⟨a3 | ⟨a4, a5, a6, a7⟩, h2, h⟩ := sm h
  ·cases h
   exact run_path Tryz.func23 (ob_b h1 (ob_k (lk (sub [1, 1, 0, 1, 0] (bodyOf Tryz.f23)) (by kernel_rfl) (ref12_right_l1.okL ht n n _ _ _ _ h2)) ob)) (by kernel_rfl)
  ·cases h
   exact run_path Tryz.func23 (ob_b h1 (ob_k (lk (sub [1, 1, 0, 1, 0] (bodyOf Tryz.f23)) (by kernel_rfl) (ref12_right_l1.okL ht n n _ _ _ _ h2)) ob)) (by kernel_rfl)
theorem ref12_sameTexts_l1.okL (ht : TabOk t call) (n : Nat) : ∀ (k : Nat) (a1 a2 : List ByteArray) (a3 : Int) (r : _), ref12_sameTexts_l1 t n k a1 a2 a3 = some r → loopN (exec (env Tryz.prog 42 Tryz.f42 call) n (sub [1, 1, 0, 1, 0, 0] (bodyOf Tryz.f42))) k (mkSt 26 26 [(0, (Sl 1 (texts a1))), (1, (Sl 1 (texts a2))), (5, (I6 a3))] []) = some (ref12_sameTexts_l1.to r)
 | 0, a1, a2, a3, r, h => by rw [ref12_sameTexts_l1] at h; cases h
 | k + 1, a1, a2, a3, r, h => by
  rw [ref12_sameTexts_l1] at h
  rcases fk h with ⟨h1, h⟩ | ⟨h1, h⟩
  ·obtain ⟨h2, h⟩ := ck h
   obtain ⟨a4, h3, h⟩ := sm h
   obtain ⟨a5, h4, h⟩ := sm h
   rcases fk h with ⟨h5, h⟩ | ⟨h5, h⟩
   ·exact loop_more (path (ob_v (len_ts texts_map (l := a1)) (ob_b h1 (ob_n h2 (ob_t (look_ts texts_map h3) (ob_n h2 (ob_t (look_ts texts_map h4) (ob_b (congrArg (!·) h5) ob))))))) (by kernel_rfl)) (ref12_sameTexts_l1.okL ht n k _ _ _ _ h)
   ·cases h
    exact loop_out (path (ob_v (len_ts texts_map (l := a1)) (ob_b h1 (ob_n h2 (ob_t (look_ts texts_map h3) (ob_n h2 (ob_t (look_ts texts_map h4) (ob_b (congrArg (!·) h5) ob))))))) (by kernel_rfl)) (fun h => by cases h)
  ·cases h
   exact loop_out (path (ob_v (len_ts texts_map (l := a1)) (ob_b h1 ob)) (by kernel_rfl)) (fun h => by cases h)
theorem ref12_sameTexts.ok {n : Nat} {t : Tab} (ht : TabOk t (run Tryz.prog own kp X n)) : ∀ (p1 : List ByteArray) (p2 : List ByteArray) r, ref12_sameTexts t n p1 p2 = some r → run Tryz.prog own kp X (n + 1) 42 [(Sl 1 (texts p1)), (Sl 1 (texts p2))] [] = some ((Bo r), []) := by
 intro p1 p2 r h
 obtain ⟨a1, rfl⟩ : ∃ z_, z_ = p1 := ⟨_, rfl⟩
 obtain ⟨a2, rfl⟩ : ∃ z_, z_ = p2 := ⟨_, rfl⟩
 rw [ref12_sameTexts] at h
 rcases fk h with ⟨h1, h⟩ | ⟨h1, h⟩
 ·cases h
  exact run_path Tryz.func42 (ob_v (len_ts texts_map (l := a1)) (ob_v (len_ts texts_map (l := a2)) (ob_b h1 ob))) (by kernel_rfl)
 ·obtain ⟨a3 | ⟨a4, a5, a6, a7⟩, h2, h⟩ := sm h
  ·cases h
   exact run_path Tryz.func42 (ob_v (len_ts texts_map (l := a1)) (ob_v (len_ts texts_map (l := a2)) (ob_b h1 (ob_k (lk (sub [1, 1, 0, 1, 0] (bodyOf Tryz.f42)) (by kernel_rfl) (ref12_sameTexts_l1.okL ht n n _ _ _ _ h2)) ob)))) (by kernel_rfl)
  ·cases h
   exact run_path Tryz.func42 (ob_v (len_ts texts_map (l := a1)) (ob_v (len_ts texts_map (l := a2)) (ob_b h1 (ob_k (lk (sub [1, 1, 0, 1, 0] (bodyOf Tryz.f42)) (by kernel_rfl) (ref12_sameTexts_l1.okL ht n n _ _ _ _ h2)) ob)))) (by kernel_rfl)
theorem ref12_sameNumbers_l1.okL (ht : TabOk t call) (n : Nat) : ∀ (k : Nat) (a1 a2 : List Int) (a3 : Int) (r : _), ref12_sameNumbers_l1 t n k a1 a2 a3 = some r → loopN (exec (env Tryz.prog 43 Tryz.f43 call) n (sub [1, 1, 0, 1, 0, 0] (bodyOf Tryz.f43))) k (mkSt 26 26 [(0, (Sl 1 (ints_i64 a1))), (1, (Sl 1 (ints_i64 a2))), (5, (I6 a3))] []) = some (ref12_sameNumbers_l1.to r)
 | 0, a1, a2, a3, r, h => by rw [ref12_sameNumbers_l1] at h; cases h
 | k + 1, a1, a2, a3, r, h => by
  rw [ref12_sameNumbers_l1] at h
  rcases fk h with ⟨h1, h⟩ | ⟨h1, h⟩
  ·obtain ⟨h2, h⟩ := ck h
   obtain ⟨a4, h3, h⟩ := sm h
   obtain ⟨a5, h4, h⟩ := sm h
   rcases fk h with ⟨h5, h⟩ | ⟨h5, h⟩
   ·cases h
    exact loop_out (path (ob_v (len_ts ints_i64_map (l := a1)) (ob_b h1 (ob_n h2 (ob_t (look_ts ints_i64_map h3) (ob_n h2 (ob_t (look_ts ints_i64_map h4) (ob_b h5 ob))))))) (by kernel_rfl)) (fun h => by cases h)
   ·exact loop_more (path (ob_v (len_ts ints_i64_map (l := a1)) (ob_b h1 (ob_n h2 (ob_t (look_ts ints_i64_map h3) (ob_n h2 (ob_t (look_ts ints_i64_map h4) (ob_b h5 ob))))))) (by kernel_rfl)) (ref12_sameNumbers_l1.okL ht n k _ _ _ _ h)
  ·cases h
   exact loop_out (path (ob_v (len_ts ints_i64_map (l := a1)) (ob_b h1 ob)) (by kernel_rfl)) (fun h => by cases h)
theorem ref12_sameNumbers.ok {n : Nat} {t : Tab} (ht : TabOk t (run Tryz.prog own kp X n)) : ∀ (p1 : List Int) (p2 : List Int) r, ref12_sameNumbers t n p1 p2 = some r → run Tryz.prog own kp X (n + 1) 43 [(Sl 1 (ints_i64 p1)), (Sl 1 (ints_i64 p2))] [] = some ((Bo r), []) := by
 intro p1 p2 r h
 obtain ⟨a1, rfl⟩ : ∃ z_, z_ = p1 := ⟨_, rfl⟩
 obtain ⟨a2, rfl⟩ : ∃ z_, z_ = p2 := ⟨_, rfl⟩
 rw [ref12_sameNumbers] at h
 rcases fk h with ⟨h1, h⟩ | ⟨h1, h⟩
 ·cases h
  exact run_path Tryz.func43 (ob_v (len_ts ints_i64_map (l := a1)) (ob_v (len_ts ints_i64_map (l := a2)) (ob_b h1 ob))) (by kernel_rfl)
 ·obtain ⟨a3 | ⟨a4, a5, a6, a7⟩, h2, h⟩ := sm h
  ·cases h
   exact run_path Tryz.func43 (ob_v (len_ts ints_i64_map (l := a1)) (ob_v (len_ts ints_i64_map (l := a2)) (ob_b h1 (ob_k (lk (sub [1, 1, 0, 1, 0] (bodyOf Tryz.f43)) (by kernel_rfl) (ref12_sameNumbers_l1.okL ht n n _ _ _ _ h2)) ob)))) (by kernel_rfl)
  ·cases h
   exact run_path Tryz.func43 (ob_v (len_ts ints_i64_map (l := a1)) (ob_v (len_ts ints_i64_map (l := a2)) (ob_b h1 (ob_k (lk (sub [1, 1, 0, 1, 0] (bodyOf Tryz.f43)) (by kernel_rfl) (ref12_sameNumbers_l1.okL ht n n _ _ _ _ h2)) ob)))) (by kernel_rfl)
theorem ref02_Same.ok {n : Nat} {t : Tab} (ht : TabOk t (run Tryz.prog own kp X n)) : ∀ (p1 : GValue) (p2 : GValue) r, ref02_Same t n p1 p2 = some r → run Tryz.prog own kp X (n + 1) 44 [(.t (GValue.t p1)), (.t (GValue.t p2))] [] = some ((Bo r), []) := by
 intro p1 p2 r h
 obtain ⟨a1, a2, a3, a4, a5⟩ := p1
 obtain ⟨a6, a7, a8, a9, a10⟩ := p2
 rw [ref02_Same] at h
 obtain ⟨a11, h1, h⟩ := sm h
 cases h
 exact run_path Tryz.func44 (ob_c (ht.ref02_compare _ _ _ _ h1) ob) (by kernel_rfl)
theorem ref09_Same_l2.okL (ht : TabOk t call) (n : Nat) : ∀ (k : Nat) (a1 a2 : Int) (a3 : List GValue) (a4 : List GPred) (a5 : Int) (a6 : List GValue) (a7 : List GPred) (r : _), ref09_Same_l2 t n k a1 a2 a3 a4 a5 a6 a7 = some r → loopN (exec (env Tryz.prog 45 Tryz.f45 call) n (sub [1, 1, 0, 1, 0, 0] (bodyOf Tryz.f45))) k (mkSt 47 47 [(2, (.ptr 2 0 [] 0)), (3, (.ptr 3 0 [] 0)), (5, (I6 a1))] [(2, (.t (.st [(.v (.int .i64 a2)), (.sl false 5 (GValue.ts a3)), (.sl false 3 (GPred.ts a4))]))), (3, (.t (.st [(.v (.int .i64 a5)), (.sl false 5 (GValue.ts a6)), (.sl false 3 (GPred.ts a7))])))]) = some (ref09_Same_l2.to r)
 | 0, a1, a2, a3, a4, a5, a6, a7, r, h => by rw [ref09_Same_l2] at h; cases h
 | k + 1, a1, a2, a3, a4, a5, a6, a7, r, h => by
  rw [ref09_Same_l2] at h
  rcases fk h with ⟨h1, h⟩ | ⟨h1, h⟩
  ·obtain ⟨h2, h⟩ := ck h
   obtain ⟨⟨a8, a9, a10⟩, h3, h⟩ := sm h
   obtain ⟨⟨a11, a12, a13⟩, h4, h⟩ := sm h
   obtain ⟨a14, h5, h⟩ := sm h
   have o7 {os} (x : Obls (env Tryz.prog 45 Tryz.f45 call) n os) := ob_v (len_ts GPred.ts_map (l := a4)) (ob_b h1 (ob_n h2 (ob_t (look_ts GPred.ts_map h3) (ob_n h2 (ob_t (look_ts GPred.ts_map h4) (ob_c (ht.ref09_Same _ _ _ h5) x))))))
   rcases fk h with ⟨h6, h⟩ | ⟨h6, h⟩
   ·exact loop_more (path (o7 (ob_b (congrArg (!·) h6) ob)) (by kernel_rfl)) (ref09_Same_l2.okL ht n k _ _ _ _ _ _ _ _ h)
   ·cases h
    exact loop_out (path (o7 (ob_b (congrArg (!·) h6) ob)) (by kernel_rfl)) (fun h => by cases h)
  ·cases h
   exact loop_out (path (ob_v (len_ts GPred.ts_map (l := a4)) (ob_b h1 ob)) (by kernel_rfl)) (fun h => by cases h)
theorem ref09_Same_j1.ok (ht : TabOk t call) (n : Nat) (a1 : Int) (a2 : List GValue) (a3 : List GPred) (a4 : Int) (a5 : List GValue) (a6 : List GPred) (r : _) (h : ref09_Same_j1 t n a1 a2 a3 a4 a5 a6 = some r) : exec (env Tryz.prog 45 Tryz.f45 call) n (sub [1, 1] (bodyOf Tryz.f45)) (mkSt 47 47 [(2, (.ptr 2 0 [] 0)), (3, (.ptr 3 0 [] 0))] [(2, (.t (.st [(.v (.int .i64 a1)), (.sl false 5 (GValue.ts a2)), (.sl false 3 (GPred.ts a3))]))), (3, (.t (.st [(.v (.int .i64 a4)), (.sl false 5 (GValue.ts a5)), (.sl false 3 (GPred.ts a6))])))]) = some (ref09_Same_j1.to r) := by
 rw [ref09_Same_j1] at h
 obtain ⟨a7 | ⟨a8, a9, a10, a11, a12, a13, a14, a15⟩, h1, h⟩ := sm h
 ·cases h
  exact path (ob_k (lk (sub [1, 1, 0, 1, 0] (bodyOf Tryz.f45)) (by kernel_rfl) (ref09_Same_l2.okL ht n n _ _ _ _ _ _ _ _ h1)) ob) (by kernel_rfl)
 ·cases h
  exact path (ob_k (lk (sub [1, 1, 0, 1, 0] (bodyOf Tryz.f45)) (by kernel_rfl) (ref09_Same_l2.okL ht n n _ _ _ _ _ _ _ _ h1)) ob) (by kernel_rfl)
theorem ref09_Same.ok {n : Nat} {t : Tab} (ht : TabOk t (run Tryz.prog own kp X n)) : ∀ (p1 : GPred) (p2 : GPred) r, ref09_Same t n p1 p2 = some r → run Tryz.prog own kp X (n + 1) 45 [(.t (GPred.t p1)), (.t (GPred.t p2))] [] = some ((Bo r), []) := by
 intro p1 p2 r h
 obtain ⟨a1, a2, a3⟩ := p1
 obtain ⟨a4, a5, a6⟩ := p2
 rw [ref09_Same] at h
 rcases fk h with ⟨h1, h⟩ | ⟨h1, h⟩
 ·cases h
  exact run_path Tryz.func45 (ob_b4 h1 (ob_b3 h1 (ob_b4 (rfl : true = true) (ob_b4 (rfl : true = true) (ob_b (rfl : true = true) ob))))) (by kernel_rfl)
 ·obtain ⟨a7, h2, h⟩ := sm h
  have o8 {os} (x : Obls (env Tryz.prog 45 Tryz.f45 (run Tryz.prog own kp X n)) n os) := ob_b4 h1 (ob_b h1 (ob_c (ht.ref02_SameRows _ _ _ h2) (ob_b2 h1 x)))
  rcases fk h with ⟨h3, h⟩ | ⟨h3, h⟩
  ·have o18 {os} (x : Obls (env Tryz.prog 45 Tryz.f45 (run Tryz.prog own kp X n)) n os) := o8 (ob_b3 (congrArg (!·) h3) (ob_v (len_ts GPred.ts_map (l := a3)) (ob_b3 (congrArg (!·) h3) (ob_v (len_ts GPred.ts_map (l := a6)) (ob_b2 (congrArg (!·) h3) x)))))
   rcases fk h with ⟨h4, h⟩ | ⟨h4, h⟩
   ·cases h
    exact run_path Tryz.func45 (o18 (ob_b h4 ob)) (by kernel_rfl)
   ·obtain ⟨a8, rfl⟩ : ∃ z_, z_ = r := ⟨_, rfl⟩
    have h5 := h
    exact run_path Tryz.func45 (o18 (ob_b h4 (ob_j (ref09_Same_j1.ok ht n _ _ _ _ _ _ _ h5) ob))) (by kernel_rfl)
  ·cases h
   exact run_path Tryz.func45 (o8 (ob_b4 (congrArg (!·) h3) (ob_b4 (congrArg (!·) h3) (ob_b (rfl : true = true) ob)))) (by kernel_rfl)
theorem ref02_Count_j2.ok (ht : TabOk t call) (n : Nat) (a1 a2 a3 a4 a5 : Int) (a6 : ByteArray) (a7 a8 : List GValue) (r : _) (h : ref02_Count_j2 t n a1 a2 a3 a4 a5 a6 a7 a8 = some r) : exec (env Tryz.prog 46 Tryz.f46 call) n (sub [1, 1, 0, 1, 0, 0, 1] (bodyOf Tryz.f46)) (mkSt 60 60 [(1, (I6 a1)), (2, (.ptr 2 0 [] 0)), (5, (I6 a2)), (6, (I6 a3))] [(2, (.t (.st [(.v (.int .i64 a4)), (.v (.int .i64 a5)), (.v (.string a6)), (.sl false 5 (GValue.ts a7)), (.sl false 5 (GValue.ts a8))])))]) = some (ref02_Count_j2.to r) := by
 rw [ref02_Count_j2] at h
 obtain ⟨h1, h⟩ := ck h
 obtain ⟨⟨a9, a10, a11, a12, a13⟩, h2, h⟩ := sm h
 obtain ⟨a14, h3, h⟩ := sm h
 cases h
 exact path (ob_n h1 (ob_t (look_ts GValue.ts_map h2) (ob_c (ht.ref02_Count _ _ _ h3) ob))) (by kernel_rfl)
theorem ref02_Count_l1.okL (ht : TabOk t call) (n : Nat) : ∀ (k : Nat) (a1 a2 a3 a4 a5 : Int) (a6 : ByteArray) (a7 a8 : List GValue) (r : _), ref02_Count_l1 t n k a1 a2 a3 a4 a5 a6 a7 a8 = some r → loopN (exec (env Tryz.prog 46 Tryz.f46 call) n (sub [1, 1, 0, 1, 0, 0] (bodyOf Tryz.f46))) k (mkSt 60 60 [(1, (I6 a1)), (2, (.ptr 2 0 [] 0)), (5, (I6 a2)), (6, (I6 a3))] [(2, (.t (.st [(.v (.int .i64 a4)), (.v (.int .i64 a5)), (.v (.string a6)), (.sl false 5 (GValue.ts a7)), (.sl false 5 (GValue.ts a8))])))]) = some (ref02_Count_l1.to r)
 | 0, a1, a2, a3, a4, a5, a6, a7, a8, r, h => by rw [ref02_Count_l1] at h; cases h
 | k + 1, a1, a2, a3, a4, a5, a6, a7, a8, r, h => by
  rw [ref02_Count_l1] at h
  rcases fk h with ⟨h1, h⟩ | ⟨h1, h⟩
  ·rcases fk h with ⟨h2, h⟩ | ⟨h2, h⟩
   ·obtain ⟨⟨a9, a10, a11, a12, a13, a14, a15, a16⟩, h3, h⟩ := sm h
    exact loop_more (path (ob_v (len_ts GValue.ts_map (l := a7)) (ob_b4 h1 (ob_b h2 (ob_j (ref02_Count_j2.ok ht n _ _ _ _ _ _ _ _ _ h3) ob)))) (by kernel_rfl)) (ref02_Count_l1.okL ht n k _ _ _ _ _ _ _ _ _ h)
   ·cases h
    exact loop_out (path (ob_v (len_ts GValue.ts_map (l := a7)) (ob_b4 h1 (ob_b h2 ob))) (by kernel_rfl)) (fun h => by cases h)
  ·cases h
   exact loop_out (path (ob_v (len_ts GValue.ts_map (l := a7)) (ob_b4 h1 (ob_b (rfl : false = false) ob))) (by kernel_rfl)) (fun h => by cases h)
theorem ref02_Count_j5.ok (ht : TabOk t call) (n : Nat) (a1 a2 a3 a4 a5 : Int) (a6 : ByteArray) (a7 a8 : List GValue) (r : _) (h : ref02_Count_j5 t n a1 a2 a3 a4 a5 a6 a7 a8 = some r) : exec (env Tryz.prog 46 Tryz.f46 call) n (sub [1, 1, 1, 0, 1, 0, 0, 1] (bodyOf Tryz.f46)) (mkSt 60 60 [(1, (I6 a1)), (2, (.ptr 2 0 [] 0)), (5, (I6 a2)), (7, (I6 a3))] [(2, (.t (.st [(.v (.int .i64 a4)), (.v (.int .i64 a5)), (.v (.string a6)), (.sl false 5 (GValue.ts a7)), (.sl false 5 (GValue.ts a8))])))]) = some (ref02_Count_j5.to r) := by
 rw [ref02_Count_j5] at h
 obtain ⟨h1, h⟩ := ck h
 obtain ⟨⟨a9, a10, a11, a12, a13⟩, h2, h⟩ := sm h
 obtain ⟨a14, h3, h⟩ := sm h
 cases h
 exact path (ob_n h1 (ob_t (look_ts GValue.ts_map h2) (ob_c (ht.ref02_Count _ _ _ h3) ob))) (by kernel_rfl)
theorem ref02_Count_l4.okL (ht : TabOk t call) (n : Nat) : ∀ (k : Nat) (a1 a2 a3 a4 a5 : Int) (a6 : ByteArray) (a7 a8 : List GValue) (r : _), ref02_Count_l4 t n k a1 a2 a3 a4 a5 a6 a7 a8 = some r → loopN (exec (env Tryz.prog 46 Tryz.f46 call) n (sub [1, 1, 1, 0, 1, 0, 0] (bodyOf Tryz.f46))) k (mkSt 60 60 [(1, (I6 a1)), (2, (.ptr 2 0 [] 0)), (5, (I6 a2)), (7, (I6 a3))] [(2, (.t (.st [(.v (.int .i64 a4)), (.v (.int .i64 a5)), (.v (.string a6)), (.sl false 5 (GValue.ts a7)), (.sl false 5 (GValue.ts a8))])))]) = some (ref02_Count_l4.to r)
 | 0, a1, a2, a3, a4, a5, a6, a7, a8, r, h => by rw [ref02_Count_l4] at h; cases h
 | k + 1, a1, a2, a3, a4, a5, a6, a7, a8, r, h => by
  rw [ref02_Count_l4] at h
  rcases fk h with ⟨h1, h⟩ | ⟨h1, h⟩
  ·rcases fk h with ⟨h2, h⟩ | ⟨h2, h⟩
   ·obtain ⟨⟨a9, a10, a11, a12, a13, a14, a15, a16⟩, h3, h⟩ := sm h
    exact loop_more (path (ob_v (len_ts GValue.ts_map (l := a8)) (ob_b4 h1 (ob_b h2 (ob_j (ref02_Count_j5.ok ht n _ _ _ _ _ _ _ _ _ h3) ob)))) (by kernel_rfl)) (ref02_Count_l4.okL ht n k _ _ _ _ _ _ _ _ _ h)
   ·cases h
    exact loop_out (path (ob_v (len_ts GValue.ts_map (l := a8)) (ob_b4 h1 (ob_b h2 ob))) (by kernel_rfl)) (fun h => by cases h)
  ·cases h
   exact loop_out (path (ob_v (len_ts GValue.ts_map (l := a8)) (ob_b4 h1 (ob_b (rfl : false = false) ob))) (by kernel_rfl)) (fun h => by cases h)
theorem ref02_Count_j6.ok (ht : TabOk t call) (n : Nat) (a1 a2 a3 : Int) (a4 : ByteArray) (a5 a6 : List GValue) (r : _) (h : ref02_Count_j6 t n a1 a2 a3 a4 a5 a6 = some r) : exec (env Tryz.prog 46 Tryz.f46 call) n (sub [1, 1, 1, 1] (bodyOf Tryz.f46)) (mkSt 60 60 [(2, (.ptr 2 0 [] 0)), (5, (I6 a1))] [(2, (.t (.st [(.v (.int .i64 a2)), (.v (.int .i64 a3)), (.v (.string a4)), (.sl false 5 (GValue.ts a5)), (.sl false 5 (GValue.ts a6))])))]) = some (ref02_Count_j6.to r) := by
 rw [ref02_Count_j6] at h
 obtain ⟨a7, h1, h⟩ := sm h
 cases h
 exact path (ob_v (quo_ok (P := Tryz.prog) (t := 3) (x := (.tmp 57)) (y := (.const (.int .i64 20))) h1) ob) (by kernel_rfl)
theorem ref02_Count_j3.ok (ht : TabOk t call) (n : Nat) (a1 a2 a3 a4 : Int) (a5 : ByteArray) (a6 a7 : List GValue) (r : _) (h : ref02_Count_j3 t n a1 a2 a3 a4 a5 a6 a7 = some r) : exec (env Tryz.prog 46 Tryz.f46 call) n (sub [1, 1, 1] (bodyOf Tryz.f46)) (mkSt 60 60 [(1, (I6 a1)), (2, (.ptr 2 0 [] 0)), (5, (I6 a2))] [(2, (.t (.st [(.v (.int .i64 a3)), (.v (.int .i64 a4)), (.v (.string a5)), (.sl false 5 (GValue.ts a6)), (.sl false 5 (GValue.ts a7))])))]) = some (ref02_Count_j3.to r) := by
 rw [ref02_Count_j3] at h
 obtain ⟨⟨a8, a9, a10, a11, a12, a13, a14, a15, a16⟩, h1, h⟩ := sm h
 obtain ⟨a17, rfl⟩ : ∃ z_, z_ = r := ⟨_, rfl⟩
 have h2 := h
 exact path (ob_k (lk (sub [1, 1, 1, 0, 1, 0] (bodyOf Tryz.f46)) (by kernel_rfl) (ref02_Count_l4.okL ht n n _ _ _ _ _ _ _ _ _ h1)) (ob_j (ref02_Count_j6.ok ht n _ _ _ _ _ _ _ h2) ob)) (by kernel_rfl)
theorem ref02_Count.ok {n : Nat} {t : Tab} (ht : TabOk t (run Tryz.prog own kp X n)) : ∀ (p1 : GValue) (p2 : Int) r, ref02_Count t n p1 p2 = some r → run Tryz.prog own kp X (n + 1) 46 [(.t (GValue.t p1)), (I6 p2)] [] = some ((I6 r), []) := by
 intro p1 p2 r h
 obtain ⟨a1, a2, a3, a4, a5⟩ := p1
 obtain ⟨a6, rfl⟩ : ∃ z_, z_ = p2 := ⟨_, rfl⟩
 rw [ref02_Count] at h
 obtain ⟨⟨a7, a8, a9, a10, a11, a12, a13, a14, a15⟩, h1, h⟩ := sm h
 obtain ⟨a16, rfl⟩ : ∃ z_, z_ = r := ⟨_, rfl⟩
 have h2 := h
 exact run_path Tryz.func46 (ob_k (lk (sub [1, 1, 0, 1, 0] (bodyOf Tryz.f46)) (by kernel_rfl) (ref02_Count_l1.okL ht n n _ _ _ _ _ _ _ _ _ h1)) (ob_j (ref02_Count_j3.ok ht n _ _ _ _ _ _ _ _ h2) ob)) (by kernel_rfl)
theorem ref09_Count_j2.ok (ht : TabOk t call) (n : Nat) (a1 a2 a3 a4 : Int) (a5 : List GValue) (a6 : List GPred) (r : _) (h : ref09_Count_j2 t n a1 a2 a3 a4 a5 a6 = some r) : exec (env Tryz.prog 47 Tryz.f47 call) n (sub [1, 1, 0, 1, 0, 0, 1] (bodyOf Tryz.f47)) (mkSt 36 36 [(1, (I6 a1)), (2, (.ptr 2 0 [] 0)), (5, (I6 a2)), (6, (I6 a3))] [(2, (.t (.st [(.v (.int .i64 a4)), (.sl false 5 (GValue.ts a5)), (.sl false 3 (GPred.ts a6))])))]) = some (ref09_Count_j2.to r) := by
 rw [ref09_Count_j2] at h
 obtain ⟨h1, h⟩ := ck h
 obtain ⟨⟨a7, a8, a9⟩, h2, h⟩ := sm h
 obtain ⟨a10, h3, h⟩ := sm h
 cases h
 exact path (ob_n h1 (ob_t (look_ts GPred.ts_map h2) (ob_c (ht.ref09_Count _ _ _ h3) ob))) (by kernel_rfl)
theorem ref09_Count_l1.okL (ht : TabOk t call) (n : Nat) : ∀ (k : Nat) (a1 a2 a3 a4 : Int) (a5 : List GValue) (a6 : List GPred) (r : _), ref09_Count_l1 t n k a1 a2 a3 a4 a5 a6 = some r → loopN (exec (env Tryz.prog 47 Tryz.f47 call) n (sub [1, 1, 0, 1, 0, 0] (bodyOf Tryz.f47))) k (mkSt 36 36 [(1, (I6 a1)), (2, (.ptr 2 0 [] 0)), (5, (I6 a2)), (6, (I6 a3))] [(2, (.t (.st [(.v (.int .i64 a4)), (.sl false 5 (GValue.ts a5)), (.sl false 3 (GPred.ts a6))])))]) = some (ref09_Count_l1.to r)
 | 0, a1, a2, a3, a4, a5, a6, r, h => by rw [ref09_Count_l1] at h; cases h
 | k + 1, a1, a2, a3, a4, a5, a6, r, h => by
  rw [ref09_Count_l1] at h
  rcases fk h with ⟨h1, h⟩ | ⟨h1, h⟩
  ·rcases fk h with ⟨h2, h⟩ | ⟨h2, h⟩
   ·obtain ⟨⟨a7, a8, a9, a10, a11, a12⟩, h3, h⟩ := sm h
    exact loop_more (path (ob_v (len_ts GPred.ts_map (l := a6)) (ob_b4 h1 (ob_b h2 (ob_j (ref09_Count_j2.ok ht n _ _ _ _ _ _ _ h3) ob)))) (by kernel_rfl)) (ref09_Count_l1.okL ht n k _ _ _ _ _ _ _ h)
   ·cases h
    exact loop_out (path (ob_v (len_ts GPred.ts_map (l := a6)) (ob_b4 h1 (ob_b h2 ob))) (by kernel_rfl)) (fun h => by cases h)
  ·cases h
   exact loop_out (path (ob_v (len_ts GPred.ts_map (l := a6)) (ob_b4 h1 (ob_b (rfl : false = false) ob))) (by kernel_rfl)) (fun h => by cases h)
theorem ref09_Count.ok {n : Nat} {t : Tab} (ht : TabOk t (run Tryz.prog own kp X n)) : ∀ (p1 : GPred) (p2 : Int) r, ref09_Count t n p1 p2 = some r → run Tryz.prog own kp X (n + 1) 47 [(.t (GPred.t p1)), (I6 p2)] [] = some ((I6 r), []) := by
 intro p1 p2 r h
 obtain ⟨a1, a2, a3⟩ := p1
 obtain ⟨a4, rfl⟩ : ∃ z_, z_ = p2 := ⟨_, rfl⟩
 rw [ref09_Count] at h
 obtain ⟨a5, h1, h⟩ := sm h
 obtain ⟨⟨a6, a7, a8, a9, a10, a11, a12⟩, h2, h⟩ := sm h
 cases h
 exact run_path Tryz.func47 (ob_c (ht.ref02_Many _ _ _ h1) (ob_k (lk (sub [1, 1, 0, 1, 0] (bodyOf Tryz.f47)) (by kernel_rfl) (ref09_Count_l1.okL ht n n _ _ _ _ _ _ _ h2)) ob)) (by kernel_rfl)
theorem ref12_Inner_j2.ok (ht : TabOk t call) (n : Nat) (a1 : List (List GStep)) (a2 : Int) (a3 : Bool) (a4 : Int) (a5 : List ByteArray) (a6 : List Int) (a7 a8 : Int) (a9 : ByteArray) (a10 a11 : List GValue) (a12 : Int) (a13 : List GValue) (a14 : List GPred) (a15 : List (List GStep)) (a16 : List GBy) (a17 : List ByteArray) (r : _) (h : ref12_Inner_j2 t n a1 a2 a3 a4 a5 a6 a7 a8 a9 a10 a11 a12 a13 a14 a15 a16 a17 = some r) : exec (env Tryz.prog 48 Tryz.f48 call) n (sub [1, 1, 1, 0, 1, 0, 0, 1, 0, 0, 1] (bodyOf Tryz.f48)) (mkSt 43 43 [(1, (.ptr 1 0 [] 0)), (3, (.t (.sl true 1 (rows_GStep_ts a1)))), (4, (I6 a2)), (32, (Bo a3))] [(1, (.t (.st [(.v (.int .i64 a4)), (.sl false 1 (texts a5)), (.sl false 1 (ints_i64 a6)), (.st [(.v (.int .i64 a7)), (.v (.int .i64 a8)), (.v (.string a9)), (.sl false 5 (GValue.ts a10)), (.sl false 5 (GValue.ts a11))]), (.st [(.v (.int .i64 a12)), (.sl false 5 (GValue.ts a13)), (.sl false 3 (GPred.ts a14))]), (.sl false 1 (rows_GStep_ts a15)), (.sl false 4 (GBy.ts a16)), (.sl false 1 (texts a17))])))]) = some (ref12_Inner_j2.to r) := by
 rw [ref12_Inner_j2] at h
 rcases fk h with ⟨h1, h⟩ | ⟨h1, h⟩
 ·obtain ⟨h2, h⟩ := ck h
  obtain ⟨⟨a18, a19, a20, a21⟩, h3, h⟩ := sm h
  obtain ⟨h4, h⟩ := cl h
  cases h
  exact path (ob_b h1 (ob_n h2 (ob_t (look_ts GBy.ts_map h3) (ob_le (room_ts rows_GStep_ts_map h4) (ob_l (app_ts rows_GStep_ts_map (a := a1) (b := ([a20] : List (List GStep)))) ob))))) (by kernel_rfl)
 ·cases h
  exact path (ob_b h1 ob) (by kernel_rfl)
theorem ref12_Inner_l1.okL (ht : TabOk t call) (n : Nat) : ∀ (k : Nat) (a1 : List (List GStep)) (a2 a3 : Int) (a4 : List ByteArray) (a5 : List Int) (a6 a7 : Int) (a8 : ByteArray) (a9 a10 : List GValue) (a11 : Int) (a12 : List GValue) (a13 : List GPred) (a14 : List (List GStep)) (a15 : List GBy) (a16 : List ByteArray) (r : _), ref12_Inner_l1 t n k a1 a2 a3 a4 a5 a6 a7 a8 a9 a10 a11 a12 a13 a14 a15 a16 = some r → loopN (exec (env Tryz.prog 48 Tryz.f48 call) n (sub [1, 1, 1, 0, 1, 0, 0] (bodyOf Tryz.f48))) k (mkSt 43 43 [(1, (.ptr 1 0 [] 0)), (3, (.t (.sl true 1 (rows_GStep_ts a1)))), (4, (I6 a2))] [(1, (.t (.st [(.v (.int .i64 a3)), (.sl false 1 (texts a4)), (.sl false 1 (ints_i64 a5)), (.st [(.v (.int .i64 a6)), (.v (.int .i64 a7)), (.v (.string a8)), (.sl false 5 (GValue.ts a9)), (.sl false 5 (GValue.ts a10))]), (.st [(.v (.int .i64 a11)), (.sl false 5 (GValue.ts a12)), (.sl false 3 (GPred.ts a13))]), (.sl false 1 (rows_GStep_ts a14)), (.sl false 4 (GBy.ts a15)), (.sl false 1 (texts a16))])))]) = some (ref12_Inner_l1.to r)
 | 0, a1, a2, a3, a4, a5, a6, a7, a8, a9, a10, a11, a12, a13, a14, a15, a16, r, h => by rw [ref12_Inner_l1] at h; cases h
 | k + 1, a1, a2, a3, a4, a5, a6, a7, a8, a9, a10, a11, a12, a13, a14, a15, a16, r, h => by
  rw [ref12_Inner_l1] at h
  rcases fk h with ⟨h1, h⟩ | ⟨h1, h⟩
  ·obtain ⟨h2, h⟩ := ck h
   obtain ⟨⟨a17, a18, a19, a20⟩, h3, h⟩ := sm h
   rcases fk h with ⟨h4, h⟩ | ⟨h4, h⟩
   ·obtain ⟨⟨a21, a22, a23, a24, a25, a26, a27, a28, a29, a30, a31, a32, a33, a34, a35, a36⟩, h5, h⟩ := sm h
    exact loop_more (path (ob_v (len_ts GBy.ts_map (l := a15)) (ob_b h1 (ob_n h2 (ob_t (look_ts GBy.ts_map h3) (ob_b4 h4 (ob_b4 h4 (ob_b h4 (ob_j (ref12_Inner_j2.ok ht n _ _ _ _ _ _ _ _ _ _ _ _ _ _ _ _ _ _ h5) ob)))))))) (by kernel_rfl)) (ref12_Inner_l1.okL ht n k _ _ _ _ _ _ _ _ _ _ _ _ _ _ _ _ _ h)
   ·obtain ⟨⟨a37, a38, a39, a40, a41, a42, a43, a44, a45, a46, a47, a48, a49, a50, a51, a52⟩, h6, h⟩ := sm h
    exact loop_more (path (ob_v (len_ts GBy.ts_map (l := a15)) (ob_b h1 (ob_n h2 (ob_t (look_ts GBy.ts_map h3) (ob_b4 h4 (ob_n h2 (ob_t (look_ts GBy.ts_map h3) (ob_b3 h4 (ob_v (len_ts GStep.ts_map (l := a19)) (ob_b2 h4 (ob_j (ref12_Inner_j2.ok ht n _ _ _ _ _ _ _ _ _ _ _ _ _ _ _ _ _ _ h6) ob))))))))))) (by kernel_rfl)) (ref12_Inner_l1.okL ht n k _ _ _ _ _ _ _ _ _ _ _ _ _ _ _ _ _ h)
  ·cases h
   exact loop_out (path (ob_v (len_ts GBy.ts_map (l := a15)) (ob_b h1 ob)) (by kernel_rfl)) (fun h => by cases h)
theorem ref12_Inner.ok {n : Nat} {t : Tab} (ht : TabOk t (run Tryz.prog own kp X n)) : ∀ (p1 : GStep) r, ref12_Inner t n p1 = some r → run Tryz.prog own kp X (n + 1) 48 [(.t (GStep.t p1))] [] = some ((Sl 1 (rows_GStep_ts r)), []) := by
 intro p1 r h
 obtain ⟨a1, a2, a3, ⟨a4, a5, a6, a7, a8⟩, ⟨a9, a10, a11⟩, a12, a13, a14⟩ := p1
 rw [ref12_Inner] at h
 obtain ⟨h1, h⟩ := cl h
 obtain ⟨⟨a15, a16, a17, a18, a19, a20, a21, a22, a23, a24, a25, a26, a27, a28, a29, a30, a31⟩, h2, h⟩ := sm h
 cases h
 exact run_path Tryz.func48 (ob_le (room_ts rows_GStep_ts_map h1) (ob_l (app_ts rows_GStep_ts_map (a := ([] : List (List GStep))) (b := a12)) (ob_k (lk (sub [1, 1, 1, 0, 1, 0] (bodyOf Tryz.f48)) (by kernel_rfl) (ref12_Inner_l1.okL ht n n _ _ _ _ _ _ _ _ _ _ _ _ _ _ _ _ _ h2)) ob))) (by kernel_rfl)
theorem plan_Same_1_j1.ok (ht : TabOk t call) (n : Nat) (a1 : Bool) (a2 : Int) (a3 : List ByteArray) (a4 : List Int) (a5 a6 : Int) (a7 : ByteArray) (a8 a9 : List GValue) (a10 : Int) (a11 : List GValue) (a12 : List GPred) (a13 : List (List GStep)) (a14 : List GBy) (a15 : List ByteArray) (a16 : Int) (a17 : List ByteArray) (a18 : List Int) (a19 a20 : Int) (a21 : ByteArray) (a22 a23 : List GValue) (a24 : Int) (a25 : List GValue) (a26 : List GPred) (a27 : List (List GStep)) (a28 : List GBy) (a29 : List ByteArray) (r : _) (h : plan_Same_1_j1 t n a1 a2 a3 a4 a5 a6 a7 a8 a9 a10 a11 a12 a13 a14 a15 a16 a17 a18 a19 a20 a21 a22 a23 a24 a25 a26 a27 a28 a29 = some r) : exec (env Tryz.prog 33 Tryz.f33 call) n (sub [1, 1] (bodyOf Tryz.f33)) (mkSt 61 61 [(2, (.ptr 2 0 [] 0)), (3, (.ptr 3 0 [] 0)), (5, (Bo a1))] [(2, (.t (.st [(.v (.int .i64 a2)), (.sl false 1 (texts a3)), (.sl false 1 (ints_i64 a4)), (.st [(.v (.int .i64 a5)), (.v (.int .i64 a6)), (.v (.string a7)), (.sl false 5 (GValue.ts a8)), (.sl false 5 (GValue.ts a9))]), (.st [(.v (.int .i64 a10)), (.sl false 5 (GValue.ts a11)), (.sl false 3 (GPred.ts a12))]), (.sl false 1 (rows_GStep_ts a13)), (.sl false 4 (GBy.ts a14)), (.sl false 1 (texts a15))]))), (3, (.t (.st [(.v (.int .i64 a16)), (.sl false 1 (texts a17)), (.sl false 1 (ints_i64 a18)), (.st [(.v (.int .i64 a19)), (.v (.int .i64 a20)), (.v (.string a21)), (.sl false 5 (GValue.ts a22)), (.sl false 5 (GValue.ts a23))]), (.st [(.v (.int .i64 a24)), (.sl false 5 (GValue.ts a25)), (.sl false 3 (GPred.ts a26))]), (.sl false 1 (rows_GStep_ts a27)), (.sl false 4 (GBy.ts a28)), (.sl false 1 (texts a29))])))]) = some (plan_Same_1_j1.to r) := by
 rw [plan_Same_1_j1] at h
 rcases fk h with ⟨h1, h⟩ | ⟨h1, h⟩
 ·obtain ⟨a30, h2, h⟩ := sm h
  have o7 {os} (x : Obls (env Tryz.prog 33 Tryz.f33 call) n os) := ob_b4 h1 (ob_b h1 (ob_c (ht.value_Same _ _ _ h2) (ob_b h1 x)))
  rcases fk h with ⟨h3, h⟩ | ⟨h3, h⟩
  ·obtain ⟨a31, h4, h⟩ := sm h
   have o14 {os} (x : Obls (env Tryz.prog 33 Tryz.f33 call) n os) := o7 (ob_b4 h3 (ob_b h3 (ob_c (ht.plan_samePred _ _ _ h4) (ob_b h3 x))))
   rcases fk h with ⟨h5, h⟩ | ⟨h5, h⟩
   ·obtain ⟨a32, h6, h⟩ := sm h
    rcases fk h with ⟨h7, h⟩ | ⟨h7, h⟩
    ·obtain ⟨a33, rfl⟩ : ∃ z_, z_ = r := ⟨_, rfl⟩
     have h8 := h
     exact path (o14 (ob_b4 h5 (ob_b h5 (ob_c (ht.slices_EqualFunc_plan_Same _ _ _ h6) (ob_b h5 (ob_b4 h7 (ob_b h7 (ob_c (ht.slices_EqualFunc_plan_sameBy _ _ _ h8) (ob_b h7 ob))))))))) (by kernel_rfl)
    ·cases h
     exact path (o14 (ob_b4 h5 (ob_b h5 (ob_c (ht.slices_EqualFunc_plan_Same _ _ _ h6) (ob_b h5 (ob_b4 h7 (ob_b2 h7 ob))))))) (by kernel_rfl)
   ·cases h
    exact path (o14 (ob_b4 h5 (ob_b2 h5 (ob_b4 (rfl : false = false) (ob_b2 (rfl : false = false) ob))))) (by kernel_rfl)
  ·cases h
   exact path (o7 (ob_b4 h3 (ob_b2 h3 (ob_b4 (rfl : false = false) (ob_b4 (rfl : false = false) (ob_b4 (rfl : false = false) ob)))))) (by kernel_rfl)
 ·cases h
  exact path (ob_b4 h1 (ob_b2 h1 (ob_b4 (rfl : false = false) (ob_b4 (rfl : false = false) (ob_b4 (rfl : false = false) (ob_b4 (rfl : false = false) (ob_b2 (rfl : false = false) ob))))))) (by kernel_rfl)
theorem plan_Same_1.ok {n : Nat} {t : Tab} (ht : TabOk t (run Tryz.prog own kp X n)) : ∀ (p1 : GStep) (p2 : GStep) r, plan_Same_1 t n p1 p2 = some r → run Tryz.prog own kp X (n + 1) 33 [(.t (GStep.t p1)), (.t (GStep.t p2))] [] = some ((Bo r), []) := by
 intro p1 p2 r h
 obtain ⟨a1, a2, a3, ⟨a4, a5, a6, a7, a8⟩, ⟨a9, a10, a11⟩, a12, a13, a14⟩ := p1
 obtain ⟨a15, a16, a17, ⟨a18, a19, a20, a21, a22⟩, ⟨a23, a24, a25⟩, a26, a27, a28⟩ := p2
 rw [plan_Same_1] at h
 rcases fk h with ⟨h1, h⟩ | ⟨h1, h⟩
 ·obtain ⟨a29, h2, h⟩ := sm h
  have o7 {os} (x : Obls (env Tryz.prog 33 Tryz.f33 (run Tryz.prog own kp X n)) n os) := ob_b4 h1 (ob_b h1 (ob_c (ht.slices_Equal_string _ _ _ h2) (ob_b h1 x)))
  rcases fk h with ⟨h3, h⟩ | ⟨h3, h⟩
  ·obtain ⟨a30, h4, h⟩ := sm h
   rcases fk h with ⟨h5, h⟩ | ⟨h5, h⟩
   ·obtain ⟨a31, h6, h⟩ := sm h
    obtain ⟨a32, rfl⟩ : ∃ z_, z_ = r := ⟨_, rfl⟩
    have h7 := h
    exact run_path Tryz.func33 (o7 (ob_b4 h3 (ob_b h3 (ob_c (ht.slices_Equal_int _ _ _ h4) (ob_b h3 (ob_b4 h5 (ob_b h5 (ob_c (ht.slices_Equal_string _ _ _ h6) (ob_b h5 (ob_j (plan_Same_1_j1.ok ht n _ _ _ _ _ _ _ _ _ _ _ _ _ _ _ _ _ _ _ _ _ _ _ _ _ _ _ _ _ _ h7) ob)))))))))) (by kernel_rfl)
   ·obtain ⟨a33, rfl⟩ : ∃ z_, z_ = r := ⟨_, rfl⟩
    have h8 := h
    exact run_path Tryz.func33 (o7 (ob_b4 h3 (ob_b h3 (ob_c (ht.slices_Equal_int _ _ _ h4) (ob_b h3 (ob_b4 h5 (ob_b2 h5 (ob_j (plan_Same_1_j1.ok ht n _ _ _ _ _ _ _ _ _ _ _ _ _ _ _ _ _ _ _ _ _ _ _ _ _ _ _ _ _ _ h8) ob)))))))) (by kernel_rfl)
  ·obtain ⟨a34, rfl⟩ : ∃ z_, z_ = r := ⟨_, rfl⟩
   have h9 := h
   exact run_path Tryz.func33 (o7 (ob_b4 h3 (ob_b2 h3 (ob_b4 (rfl : false = false) (ob_b2 (rfl : false = false) (ob_j (plan_Same_1_j1.ok ht n _ _ _ _ _ _ _ _ _ _ _ _ _ _ _ _ _ _ _ _ _ _ _ _ _ _ _ _ _ _ h9) ob)))))) (by kernel_rfl)
 ·obtain ⟨a35, rfl⟩ : ∃ z_, z_ = r := ⟨_, rfl⟩
  have h10 := h
  exact run_path Tryz.func33 (ob_b4 h1 (ob_b2 h1 (ob_b4 (rfl : false = false) (ob_b4 (rfl : false = false) (ob_b4 (rfl : false = false) (ob_j (plan_Same_1_j1.ok ht n _ _ _ _ _ _ _ _ _ _ _ _ _ _ _ _ _ _ _ _ _ _ _ _ _ _ _ _ _ _ h10) ob)))))) (by kernel_rfl)
theorem value_Copy.ok {n : Nat} {t : Tab} (ht : TabOk t (run Tryz.prog own kp X n)) : ∀ (p1 : GValue) r, value_Copy t n p1 = some r → run Tryz.prog own kp X (n + 1) 68 [(.t (GValue.t p1))] [] = some ((.t (GValue.x r)), []) := by
 intro p1 r h
 obtain ⟨a1, a2, a3, a4, a5⟩ := p1
 rw [value_Copy] at h
 obtain ⟨a6, a7, a8, a9, a10⟩ := r
 have h1 := h
 exact run_path Tryz.func68 (ob_c (ht.value_part _ _ _ h1) ob) (by kernel_rfl)
theorem pred_Copy.ok {n : Nat} {t : Tab} (ht : TabOk t (run Tryz.prog own kp X n)) : ∀ (p1 : GPred) r, pred_Copy t n p1 = some r → run Tryz.prog own kp X (n + 1) 69 [(.t (GPred.t p1))] [] = some ((.t (GPred.x r)), []) := by
 intro p1 r h
 obtain ⟨a1, a2, a3⟩ := p1
 rw [pred_Copy] at h
 obtain ⟨a4, a5, a6⟩ := r
 have h1 := h
 exact run_path Tryz.func69 (ob_c (ht.pred_part _ _ _ h1) ob) (by kernel_rfl)
theorem plan_plans_l1.okL (ht : TabOk t call) (n : Nat) : ∀ (k : Nat) (a1 : Int) (a2 a3 : List (List GStep)) (a4 a5 : Int) (r : _), plan_plans_l1 t n k a1 a2 a3 a4 a5 = some r → loopN (exec (env Tryz.prog 70 Tryz.f70 call) n (sub [1, 1, 0, 1, 0, 0] (bodyOf Tryz.f70))) k (mkSt 22 22 [(1, (I6 a1)), (5, (.t (.xl 1 (xrows_GStep_xs a2)))), (8, (Sl 1 (rows_GStep_ts a3))), (9, (I6 a4)), (10, (I6 a5))] []) = some (plan_plans_l1.to r)
 | 0, a1, a2, a3, a4, a5, r, h => by rw [plan_plans_l1] at h; cases h
 | k + 1, a1, a2, a3, a4, a5, r, h => by
  rw [plan_plans_l1] at h
  rcases fk h with ⟨h1, h⟩ | ⟨h1, h⟩
  ·obtain ⟨h2, h⟩ := ck h
   obtain ⟨a6, h3, h⟩ := sm h
   obtain ⟨a7, h4, h⟩ := sm h
   obtain ⟨h5, h⟩ := cl h
   exact loop_more (path (ob_b h1 (ob_n h2 (ob_t (look_ts rows_GStep_ts_map h3) (ob_c (ht.plan_copied _ _ _ h4) (ob_le (room_ts xrows_GStep_xs_map h5) (ob_l (app_ts xrows_GStep_xs_map (a := a2) (b := ([a7] : List (List GStep)))) ob)))))) (by kernel_rfl)) (plan_plans_l1.okL ht n k _ _ _ _ _ _ h)
  ·cases h
   exact loop_out (path (ob_b h1 ob) (by kernel_rfl)) (fun h => by cases h)
theorem plan_plans.ok {n : Nat} {t : Tab} (ht : TabOk t (run Tryz.prog own kp X n)) : ∀ (p1 : List (List GStep)) (p2 : Int) r, plan_plans t n p1 p2 = some r → run Tryz.prog own kp X (n + 1) 70 [(Sl 1 (rows_GStep_ts p1)), (I6 p2)] [] = some ((.t (.xl 1 (xrows_GStep_xs r))), []) := by
 intro p1 p2 r h
 obtain ⟨a1, rfl⟩ : ∃ z_, z_ = p1 := ⟨_, rfl⟩
 obtain ⟨a2, rfl⟩ : ∃ z_, z_ = p2 := ⟨_, rfl⟩
 rw [plan_plans] at h
 obtain ⟨⟨a3, a4, a5, a6, a7, a8⟩, h1, h⟩ := sm h
 cases h
 exact run_path Tryz.func70 (ob_v (len_ts rows_GStep_ts_map (l := a1)) (ob_k (lk (sub [1, 1, 0, 1, 0] (bodyOf Tryz.f70)) (by kernel_rfl) (plan_plans_l1.okL ht n n _ _ _ _ _ _ h1)) ob)) (by kernel_rfl)
theorem ref12_steps_j4.ok (ht : TabOk t call) (n : Nat) (a1 : List GStep) (a2 a3 a4 a5 : Int) (a6 : List (List GStep)) (a7 : Int) (r : _) (h : ref12_steps_j4 t n a1 a2 a3 a4 a5 a6 a7 = some r) : exec (env Tryz.prog 25 Tryz.f25 call) n (sub [1, 1, 0, 1, 0, 0, 1, 0, 0, 1, 1, 1, 0, 0, 1] (bodyOf Tryz.f25)) (mkSt 57 57 [(0, (Sl 14 (GStep.ts a1))), (1, (I6 a2)), (2, (I6 a3)), (7, (I6 a4)), (8, (I6 a5)), (9, (Sl 1 (rows_GStep_ts a6))), (10, (I6 a7))] []) = some (ref12_steps_j4.to r) := by
 rw [ref12_steps_j4] at h
 obtain ⟨h1, h⟩ := ck h
 obtain ⟨a8, h2, h⟩ := sm h
 obtain ⟨a9, h3, h⟩ := sm h
 cases h
 exact path (ob_n h1 (ob_t (look_ts rows_GStep_ts_map h2) (ob_c (ht.ref12_steps _ _ _ _ h3) ob))) (by kernel_rfl)
end Go.Proofs.YtgkfjhfehdefaaaGreatDoor.W
