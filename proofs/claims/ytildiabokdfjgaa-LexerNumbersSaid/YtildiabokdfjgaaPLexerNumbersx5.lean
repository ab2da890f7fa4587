/- Contracts of Go functions of this claim, and the Lean functions that they come to. -/
import Derived.Test.YtildiabokdfjgaaPLexerNumbersx0
import Derived.Test.YtildiabokdfjgaaPLexerNumbersx4
namespace Go.Proofs.Ytildiabokdfjgaa.PLexerNumbers
open Go.RowKit Go.Proofs.YtildiabokdfjgaaW.PrintWords Go.Proofs.YtildiabokdfjgaaW.PrintLast Go.Proofs.YtildiabokdfjgaaW.PrintMore
attribute [local go_sem] max2_int min2_int max_two min_two max_three min_three max_four min_four   -- for this text's walks alone
set_option linter.unusedVariables false
set_option linter.unusedSimpArgs false

/-! ### wayfarerlaw08_LexerNumbers: function 7 -/
def wayfarerlaw08_LexerNumbers.j0 : Nat → Int → ByteArray → Bool → Option (Bool)
 | 0, _, _, _ => none
 | k + 1, x1, x5, x54 => if x54 = true then (none) else ((some (([(97 + (Int.tmod x1 26)) % 256] : List Int) : List Int)).bind fun y156 => (if 2 + x5.size ≤ 9223372036854775807 then (if ((⟨#[40, 32]⟩ : ByteArray) ++ x5).size + (strOfNums y156).size ≤ 9223372036854775807 then (if (((⟨#[40, 32]⟩ : ByteArray) ++ x5) ++ (strOfNums y156)).size ≤ 9223372036854775807 then ((lexer_All.f k (bytesOf (((⟨#[40, 32]⟩ : ByteArray) ++ x5) ++ (strOfNums y156)))).bind fun bt163 => (if (strOfNums y156).size + 1 ≤ 9223372036854775807 then (if ((strOfNums y156) ++ (⟨#[55]⟩ : ByteArray)).size ≤ 9223372036854775807 then ((lexer_All.f k (bytesOf ((strOfNums y156) ++ (⟨#[55]⟩ : ByteArray)))).bind fun bt172 => (if bt163.2.1 = 2 then (if bt163.2.2 = 30 then (if bt172.2.2 = 0 then (if (bt172.1.length : Int) = 1 then (if 0 < (bt172.1.length : Int) then (if ((rd_T32 bt172.1 0).f0) = 1 then (if ((rd_T32 bt172.1 0).f2).toList = ((strOfNums y156) ++ (⟨#[55]⟩ : ByteArray)).toList then ((wayfarerlaw08_known.f k).bind fun t179 => (some t179)) else (none)) else (none)) else (none)) else (none)) else (none)) else (none)) else (none))) else (none)) else (none))) else (none)) else (none)) else (none)))
def wayfarerlaw08_LexerNumbers.f (k : Nat) (a0 : Int) (a1 : Int) : Option (Bool) := (wayfarerlaw08_digits.f k a0).bind fun t143 => (if t143.size + 1 ≤ 9223372036854775807 then (if (t143 ++ (⟨#[41]⟩ : ByteArray)).size ≤ 9223372036854775807 then ((lexer_All.f k (bytesOf (t143 ++ (⟨#[41]⟩ : ByteArray)))).bind fun bt148 => (if bt148.2.2 = 0 then (if (bt148.1.length : Int) = 2 then (if 0 < (bt148.1.length : Int) then (if ((rd_T32 bt148.1 0).f0) = 2 then (if ((rd_T32 bt148.1 0).f3) = a0 then (if 1 < (bt148.1.length : Int) then (wayfarerlaw08_LexerNumbers.j0 k a1 t143 (((rd_T32 bt148.1 1).f2).toList != ([41] : List UInt8))) else (none)) else (wayfarerlaw08_LexerNumbers.j0 k a1 t143 true)) else (wayfarerlaw08_LexerNumbers.j0 k a1 t143 true)) else (none)) else (wayfarerlaw08_LexerNumbers.j0 k a1 t143 true)) else (wayfarerlaw08_LexerNumbers.j0 k a1 t143 true))) else (none)) else (none))
theorem wayfarerlaw08_LexerNumbers.mono_l : ∀ k, (∀ y0 y1 y2, LeO (wayfarerlaw08_LexerNumbers.j0 k y0 y1 y2) (wayfarerlaw08_LexerNumbers.j0 (k + 1) y0 y1 y2))
 | 0 => fun _ _ _ r h => by simp [wayfarerlaw08_LexerNumbers.j0] at h
 | k + 1 => by
  have ih0 := wayfarerlaw08_LexerNumbers.mono_l k
  ·intro y0 y1 y2
   unfold wayfarerlaw08_LexerNumbers.j0
   repeat' first
   | (with_reducible exact ih0 _ _ _)
   | (with_reducible exact lexer_All.mono _ _)
   | (with_reducible exact wayfarerlaw08_digits.mono _ _)
   | (with_reducible exact wayfarerlaw08_known.mono _)
   | (with_reducible exact LeO.refl _)
   | (with_reducible exact LeO.none _)
   | (with_reducible refine LeO.ite ?_ ?_)
   | (with_reducible refine LeO.bind ?_ (fun _ => ?_))
   | exact ih0 _ _ _
   | exact lexer_All.mono _ _
   | exact wayfarerlaw08_digits.mono _ _
   | exact wayfarerlaw08_known.mono _
   | exact LeO.none _
   | refine LeO.ite ?_ ?_
   | refine LeO.bind ?_ (fun _ => ?_)
theorem wayfarerlaw08_LexerNumbers.mono : ∀ a0 a1 k, LeO (wayfarerlaw08_LexerNumbers.f k a0 a1) (wayfarerlaw08_LexerNumbers.f (k + 1) a0 a1) := by
 intro a0 a1 k
 have ih0 := wayfarerlaw08_LexerNumbers.mono_l k
 unfold wayfarerlaw08_LexerNumbers.f
 repeat' first
   | (with_reducible exact ih0 _ _ _)
   | (with_reducible exact lexer_All.mono _ _)
   | (with_reducible exact wayfarerlaw08_digits.mono _ _)
   | (with_reducible exact wayfarerlaw08_known.mono _)
   | (with_reducible exact LeO.refl _)
   | (with_reducible exact LeO.none _)
   | (with_reducible refine LeO.ite ?_ ?_)
   | (with_reducible refine LeO.bind ?_ (fun _ => ?_))
   | exact ih0 _ _ _
   | exact lexer_All.mono _ _
   | exact wayfarerlaw08_digits.mono _ _
   | exact wayfarerlaw08_known.mono _
   | exact LeO.none _
   | refine LeO.ite ?_ ?_
   | refine LeO.bind ?_ (fun _ => ?_)
set_option maxHeartbeats 8000000 in
set_option maxRecDepth 100000 in
theorem wayfarerlaw08_LexerNumbers.calls (k : Nat) (a0 : Int) (a1 : Int) (r : Bool) (w : World) (h : wayfarerlaw08_LexerNumbers.f k a0 a1 = some r) :
  Calls Try.prog 7 #[.int .i64 a0, .int .u8 a1] w fun e w' => e = .returned (.bool r) ∧ Below w.heap.size w w' := by
 have HB := Aside0.mk (Below.refl w.heap.size w)
 have H : ((wayfarerlaw08_digits.f k a0).bind fun t143 => (if t143.size + 1 ≤ 9223372036854775807 then (if (t143 ++ (⟨#[41]⟩ : ByteArray)).size ≤ 9223372036854775807 then ((lexer_All.f k (bytesOf (t143 ++ (⟨#[41]⟩ : ByteArray)))).bind fun bt148 => (if bt148.2.2 = 0 then (if (bt148.1.length : Int) = 2 then (if 0 < (bt148.1.length : Int) then (if ((rd_T32 bt148.1 0).f0) = 2 then (if ((rd_T32 bt148.1 0).f3) = a0 then (if 1 < (bt148.1.length : Int) then (wayfarerlaw08_LexerNumbers.j0 k a1 t143 (((rd_T32 bt148.1 1).f2).toList != ([41] : List UInt8))) else (none)) else (wayfarerlaw08_LexerNumbers.j0 k a1 t143 true)) else (wayfarerlaw08_LexerNumbers.j0 k a1 t143 true)) else (none)) else (wayfarerlaw08_LexerNumbers.j0 k a1 t143 true)) else (wayfarerlaw08_LexerNumbers.j0 k a1 t143 true))) else (none)) else (none))) = some r := h
 clear h
 replace H := Option.bind_eq_some_iff.mp H
 obtain ⟨t143, A30, H⟩ := H
 replace H : (if t143.size + 1 ≤ 9223372036854775807 then (if (t143 ++ (⟨#[41]⟩ : ByteArray)).size ≤ 9223372036854775807 then ((lexer_All.f k (bytesOf (t143 ++ (⟨#[41]⟩ : ByteArray)))).bind fun bt148 => (if bt148.2.2 = 0 then (if (bt148.1.length : Int) = 2 then (if 0 < (bt148.1.length : Int) then (if ((rd_T32 bt148.1 0).f0) = 2 then (if ((rd_T32 bt148.1 0).f3) = a0 then (if 1 < (bt148.1.length : Int) then (wayfarerlaw08_LexerNumbers.j0 k a1 t143 (((rd_T32 bt148.1 1).f2).toList != ([41] : List UInt8))) else (none)) else (wayfarerlaw08_LexerNumbers.j0 k a1 t143 true)) else (wayfarerlaw08_LexerNumbers.j0 k a1 t143 true)) else (none)) else (wayfarerlaw08_LexerNumbers.j0 k a1 t143 true)) else (wayfarerlaw08_LexerNumbers.j0 k a1 t143 true))) else (none)) else (none)) = some r := H
 have A3 := Aside0.mk A30
 clear A30
 by_cases c4 : t143.size + 1 ≤ 9223372036854775807
 ·rw [if_pos c4] at H
  have c4b0 := eq_true c4
  have c4b1 : decide (t143.size + 1 ≤ 9223372036854775807) = true := decide_eq_true c4
  try have c4b2 : (9223372036854775807 < t143.size + 1) = False := eq_false (Nat.not_lt.2 c4)
  by_cases c5 : (t143 ++ (⟨#[41]⟩ : ByteArray)).size ≤ 9223372036854775807
  ·rw [if_pos c5] at H
   have LMc5 := Aside0.mk c5
   clear c5
   obtain ⟨y144, hy144⟩ : ∃ y_ : List Int, y_ = (bytesOf (t143 ++ (⟨#[41]⟩ : ByteArray))) := ⟨_, rfl⟩
   replace H : ((lexer_All.f k y144).bind fun bt148 => (if bt148.2.2 = 0 then (if (bt148.1.length : Int) = 2 then (if 0 < (bt148.1.length : Int) then (if ((rd_T32 bt148.1 0).f0) = 2 then (if ((rd_T32 bt148.1 0).f3) = a0 then (if 1 < (bt148.1.length : Int) then (wayfarerlaw08_LexerNumbers.j0 k a1 t143 (((rd_T32 bt148.1 1).f2).toList != ([41] : List UInt8))) else (none)) else (wayfarerlaw08_LexerNumbers.j0 k a1 t143 true)) else (wayfarerlaw08_LexerNumbers.j0 k a1 t143 true)) else (none)) else (wayfarerlaw08_LexerNumbers.j0 k a1 t143 true)) else (wayfarerlaw08_LexerNumbers.j0 k a1 t143 true))) = some r := by first | (rw [hy144]; with_reducible exact H) | (have H2_ := (Option.bind_some _ _).symm.trans H; rw [hy144]; with_reducible exact H2_) | (have H2_ := (Option.bind_some _ _).symm.trans H; with_reducible exact H2_) | with_reducible exact H | (rw [hy144]; exact H) | exact H
   have Ny144 := Aside0.mk hy144
   clear hy144
   replace H := Option.bind_eq_some_iff.mp H
   obtain ⟨⟨t148, t149, t150⟩, A60, H⟩ := H
   replace H : (if t150 = 0 then (if (t148.length : Int) = 2 then (if 0 < (t148.length : Int) then (if ((rd_T32 t148 0).f0) = 2 then (if ((rd_T32 t148 0).f3) = a0 then (if 1 < (t148.length : Int) then (wayfarerlaw08_LexerNumbers.j0 k a1 t143 (((rd_T32 t148 1).f2).toList != ([41] : List UInt8))) else (none)) else (wayfarerlaw08_LexerNumbers.j0 k a1 t143 true)) else (wayfarerlaw08_LexerNumbers.j0 k a1 t143 true)) else (none)) else (wayfarerlaw08_LexerNumbers.j0 k a1 t143 true)) else (wayfarerlaw08_LexerNumbers.j0 k a1 t143 true)) = some r := H
   have A6 := Aside0.mk A60
   clear A60
   have HC7 := Aside0.mk H
   clear H
   go_enter Try.func7, Try.ntmps7
   go_upto_region 3 with (first | ((with_reducible refine gate_callee (f := 15) rfl ?_); refine goesL_ (some 17) rfl rfl Try.func15 (by kernel_rfl) rfl #[.int .i64 a0] rfl (by (try simp only [List.map_toArray, List.map_cons, List.map_nil]); first | done | rfl | (simp only [List.length_drop, List.length_take]; rfl)) ?_; (with_reducible refine (wayfarerlaw08_digits.calls k a0 t143 _ A3.out).mono ?_); rintro e w8 ⟨rfl, hb⟩; refine ⟨_, rfl, ?_⟩; have n0_ := Aside0.mk (below_step (by repeat (first | (with_reducible first | exact HB.out | apply below_alloc | apply pw_below_drewN | apply below_drew1) | exact HB.out)) hb); clear HB; have HB := n0_; clear n0_; (try clear hb); (try clear hb2); (try clear hk); (try clear hi)) | ((with_reducible refine gate_dst (N := 21) rfl ?_); (try (refine gate_guard (by rfl) ?_; dsimp only)); refine bytes_event (xs := y144) (s := (t143 ++ (⟨#[41]⟩ : ByteArray))) 9 22 5 rfl rfl Try.underlying9 Try.underlying22 Try.underlying5 (by have := LMc5.out; omega) Ny144.out ?hx ?_; (case hx => first | (go_simp; done) | (go_simp; rfl)); intro gy144 cy144 w9 hc_ hC hb; have n0_ := Aside0.mk (below_step (by repeat (first | (with_reducible first | exact HB.out | apply below_alloc | apply pw_below_drewN | apply below_drew1) | exact HB.out)) hb); have n1_ := Aside0.mk (hC); have n2_ := Aside0.mk (hc_); clear HB; have HB := n0_; have HR147 := n1_; have HC147 := n2_; clear n0_ n1_ n2_; clear hb hC hc_) | ((with_reducible refine gate_callee (f := 13) rfl ?_); refine goesL_ (some 22) rfl rfl Try.func13 (by kernel_rfl) rfl #[.slice (some ⟨gy144, 0, none⟩) y144.length cy144] rfl (by (try simp only [List.map_toArray, List.map_cons, List.map_nil]); first | done | rfl | (simp only [List.length_drop, List.length_take]; rfl)) ?_; (with_reducible refine (lexer_All.calls k _ _ y144 t148 t149 t150 _ ?side1 ?side2 A6.out).mono ?_); (case side1 => repeat (first | exact (by repeat (first | (with_reducible exact HR147.out) | (with_reducible refine Kd.C_alloc ?_ _) | (with_reducible refine Kd.C_drewN ?_ _) | (with_reducible refine Kd.C_drew ?_) | exact HR147.out)) | (with_reducible refine Kd.C_alloc ?_ _) | (with_reducible refine Kd.C_drewN ?_ _) | (with_reducible refine Kd.C_drew ?_))); (case side2 => exact HC147.out); rintro e w10 ⟨v151, rfl, ho0, hb⟩; refine ⟨_, rfl, ?_⟩; have n0_ := Aside0.mk (Kd.R_lower ho0 (below_size (by repeat (first | (with_reducible first | exact HB.out | apply below_alloc | apply pw_below_drewN | apply below_drew1) | exact HB.out)))); have n1_ := Aside0.mk (Kd.C_below (by repeat (first | (with_reducible exact HR147.out) | (with_reducible refine Kd.C_alloc ?_ _) | (with_reducible refine Kd.C_drewN ?_ _) | (with_reducible refine Kd.C_drew ?_) | exact HR147.out)) hb); have n2_ := Aside0.mk (below_step (by repeat (first | (with_reducible first | exact HB.out | apply below_alloc | apply pw_below_drewN | apply below_drew1) | exact HB.out)) hb); clear HR147; clear HB; have HO152 := n0_; have HR147 := n1_; have HB := n2_; clear n0_ n1_ n2_; (try clear hb); (try clear hb2); (try clear hk); (try clear hi); (try clear ho0)))
   (try simp only [Act.put, List.setIfInBounds_toArray, List.set_cons_zero, List.set_cons_succ])
   go_cut [54] (fun v54 wc => ∃ (kq : Nat) (x54_6 : Bool), v54 = .bool x54_6 ∧ Aside0 (wayfarerlaw08_LexerNumbers.j0 kq a1 t143 x54_6 = some r) ∧ Aside0 (kq ≤ k) ∧ Aside0 (Kd.C (Kd.int .u8) wc (some ⟨gy144, 0, none⟩) y144.length y144) ∧ Aside0 (Below w.heap.size w wc))
   case first =>
    have H := HC7.out
    clear HC7
    by_cases c11 : t150 = 0
    ·rw [if_pos c11] at H
     have c11b0 : (t150 == 0) = true := beq_iff_eq.mpr c11
     have c11b1 : (t150 != 0) = false := bne_eq_false_iff_eq.mpr c11
     clear c11
     (first | rw [c11b0] | (simp only [i64_w, i32_w]; rw [c11b0]) | skip)
     by_cases c12 : (t148.length : Int) = 2
     ·rw [if_pos c12] at H
      have c12b0 : ((t148.length : Int) == 2) = true := beq_iff_eq.mpr c12
      have c12b1 : ((t148.length : Int) != 2) = false := bne_eq_false_iff_eq.mpr c12
      clear c12
      by_cases c13 : 0 < (t148.length : Int)
      ·rw [if_pos c13] at H
       have c13b0 : decide (0 < (t148.length : Int)) = true := decide_eq_true c13
       have c13b1 : decide (0 < t148.length) = true := decide_eq_true (by omega)
       clear c13
       by_cases c14 : ((rd_T32 t148 0).f0) = 2
       ·rw [if_pos c14] at H
        have c14b0 : (((rd_T32 t148 0).f0) == 2) = true := beq_iff_eq.mpr c14
        have c14b1 : (((rd_T32 t148 0).f0) != 2) = false := bne_eq_false_iff_eq.mpr c14
        clear c14
        by_cases c15 : ((rd_T32 t148 0).f3) = a0
        ·rw [if_pos c15] at H
         have c15b0 : (((rd_T32 t148 0).f3) == a0) = true := beq_iff_eq.mpr c15
         have c15b1 : (((rd_T32 t148 0).f3) != a0) = false := bne_eq_false_iff_eq.mpr c15
         clear c15
         by_cases c16 : 1 < (t148.length : Int)
         ·rw [if_pos c16] at H
          have c16b0 : decide (1 < (t148.length : Int)) = true := decide_eq_true c16
          have c16b1 : decide (1 < t148.length) = true := decide_eq_true (by omega)
          clear c16
          have H' := Aside0.mk H
          clear H
          obtain ⟨Ao17, co17, eo17⟩ := Kd.R_slice HO152.out
          subst eo17
          have p153 : 0 ≤ (0 : Int) := (by omega)
          have q153 : 0 < (t148.length : Int) := of_decide_eq_true (by first | (with_reducible assumption) | assumption)
          obtain ⟨ad153, e153, hx153_0, hx153_1, hx153_2, hx153_3⟩ := at_T32 (Kd.R_reads' HO152.out).2.2 0 p153 q153
          cases e153
          have qi153 : (0 < t148.length) = True := eq_true (by omega)
          (try rw [show ((0 : Int)).toNat = 0 from rfl] at hx153_0)
          (try rw [show 0 * 4 = 0 from rfl] at hx153_0)
          (try rw [Addr.add_zero'] at hx153_0)
          (try rw [show ((0 : Int)).toNat = 0 from rfl] at hx153_1)
          (try rw [show 0 * 4 = 0 from rfl] at hx153_1)
          (try rw [Addr.add_zero'] at hx153_1)
          (try rw [show ((0 : Int)).toNat = 0 from rfl] at hx153_2)
          (try rw [show 0 * 4 = 0 from rfl] at hx153_2)
          (try rw [Addr.add_zero'] at hx153_2)
          (try rw [show ((0 : Int)).toNat = 0 from rfl] at hx153_3)
          (try rw [show 0 * 4 = 0 from rfl] at hx153_3)
          (try rw [Addr.add_zero'] at hx153_3)
          replace p153 := eq_true p153
          replace q153 := eq_true q153
          have p154 : 0 ≤ (0 : Int) := (by omega)
          have q154 : 0 < (t148.length : Int) := of_decide_eq_true (by first | (with_reducible assumption) | assumption)
          obtain ⟨ad154, e154, hx154_0, hx154_1, hx154_2, hx154_3⟩ := at_T32 (Kd.R_reads' HO152.out).2.2 0 p154 q154
          obtain rfl : ad153 = ad154 := (by injection e154)
          have qi154 : (0 < t148.length) = True := eq_true (by omega)
          (try rw [show ((0 : Int)).toNat = 0 from rfl] at hx154_0)
          (try rw [show 0 * 4 = 0 from rfl] at hx154_0)
          (try rw [Addr.add_zero'] at hx154_0)
          (try rw [show ((0 : Int)).toNat = 0 from rfl] at hx154_1)
          (try rw [show 0 * 4 = 0 from rfl] at hx154_1)
          (try rw [Addr.add_zero'] at hx154_1)
          (try rw [show ((0 : Int)).toNat = 0 from rfl] at hx154_2)
          (try rw [show 0 * 4 = 0 from rfl] at hx154_2)
          (try rw [Addr.add_zero'] at hx154_2)
          (try rw [show ((0 : Int)).toNat = 0 from rfl] at hx154_3)
          (try rw [show 0 * 4 = 0 from rfl] at hx154_3)
          (try rw [Addr.add_zero'] at hx154_3)
          replace p154 := eq_true p154
          replace q154 := eq_true q154
          have p155 : 0 ≤ (1 : Int) := (by omega)
          have q155 : 1 < (t148.length : Int) := of_decide_eq_true (by first | (with_reducible assumption) | assumption)
          obtain ⟨ad155, e155, hx155_0, hx155_1, hx155_2, hx155_3⟩ := at_T32 (Kd.R_reads' HO152.out).2.2 1 p155 q155
          obtain rfl : ad153 = ad155 := (by injection e155)
          (try simp only [show (1 : Int).toNat = 1 from rfl, Nat.reduceMul, Nat.reduceEqDiff, Go.Addr.add, ↓reduceIte] at hx155_0)
          (try simp only [show (1 : Int).toNat = 1 from rfl, Nat.reduceMul, Nat.reduceEqDiff, Go.Addr.add, ↓reduceIte] at hx155_1)
          (try simp only [show (1 : Int).toNat = 1 from rfl, Nat.reduceMul, Nat.reduceEqDiff, Go.Addr.add, ↓reduceIte] at hx155_2)
          (try simp only [show (1 : Int).toNat = 1 from rfl, Nat.reduceMul, Nat.reduceEqDiff, Go.Addr.add, ↓reduceIte] at hx155_3)
          have qi155 : (1 < t148.length) = True := eq_true (by omega)
          (try rw [show ((1 : Int)).toNat = 1 from rfl] at hx155_0)
          (try rw [show 1 * 4 = 4 from rfl] at hx155_0)
          (try rw [show ((1 : Int)).toNat = 1 from rfl] at hx155_1)
          (try rw [show 1 * 4 = 4 from rfl] at hx155_1)
          (try rw [show ((1 : Int)).toNat = 1 from rfl] at hx155_2)
          (try rw [show 1 * 4 = 4 from rfl] at hx155_2)
          (try rw [show ((1 : Int)).toNat = 1 from rfl] at hx155_3)
          (try rw [show 1 * 4 = 4 from rfl] at hx155_3)
          replace p155 := eq_true p155
          replace q155 := eq_true q155
          go_wp2
          go_meet
          case rel => exact ⟨_, ((((rd_T32 t148 1).f2).toList != ([41] : List UInt8))), (by first | rfl | (simp; done) | (simp [*]; done)), H', ⟨by first | omega | exact Nat.le_refl _⟩, ⟨by repeat (first | (with_reducible exact HR147.out) | (with_reducible refine Kd.C_alloc ?_ _) | (with_reducible refine Kd.C_drewN ?_ _) | (with_reducible refine Kd.C_drew ?_) | exact HR147.out)⟩, ⟨by repeat (first | (with_reducible first | exact HB.out | apply below_alloc | apply pw_below_drewN | apply below_drew1) | exact HB.out)⟩⟩
         ·rw [if_neg c16] at H
          exact absurd H (by simp)
        ·rw [if_neg c15] at H
         have c15b0 : (((rd_T32 t148 0).f3) == a0) = false := beq_eq_false_iff_ne.mpr c15
         have c15b1 : (((rd_T32 t148 0).f3) != a0) = true := bne_iff_ne.mpr c15
         have H' := Aside0.mk H
         clear H
         obtain ⟨Ao18, co18, eo18⟩ := Kd.R_slice HO152.out
         subst eo18
         have p153 : 0 ≤ (0 : Int) := (by omega)
         have q153 : 0 < (t148.length : Int) := of_decide_eq_true (by first | (with_reducible assumption) | assumption)
         obtain ⟨ad153, e153, hx153_0, hx153_1, hx153_2, hx153_3⟩ := at_T32 (Kd.R_reads' HO152.out).2.2 0 p153 q153
         cases e153
         have qi153 : (0 < t148.length) = True := eq_true (by omega)
         (try rw [show ((0 : Int)).toNat = 0 from rfl] at hx153_0)
         (try rw [show 0 * 4 = 0 from rfl] at hx153_0)
         (try rw [Addr.add_zero'] at hx153_0)
         (try rw [show ((0 : Int)).toNat = 0 from rfl] at hx153_1)
         (try rw [show 0 * 4 = 0 from rfl] at hx153_1)
         (try rw [Addr.add_zero'] at hx153_1)
         (try rw [show ((0 : Int)).toNat = 0 from rfl] at hx153_2)
         (try rw [show 0 * 4 = 0 from rfl] at hx153_2)
         (try rw [Addr.add_zero'] at hx153_2)
         (try rw [show ((0 : Int)).toNat = 0 from rfl] at hx153_3)
         (try rw [show 0 * 4 = 0 from rfl] at hx153_3)
         (try rw [Addr.add_zero'] at hx153_3)
         replace p153 := eq_true p153
         replace q153 := eq_true q153
         have p154 : 0 ≤ (0 : Int) := (by omega)
         have q154 : 0 < (t148.length : Int) := of_decide_eq_true (by first | (with_reducible assumption) | assumption)
         obtain ⟨ad154, e154, hx154_0, hx154_1, hx154_2, hx154_3⟩ := at_T32 (Kd.R_reads' HO152.out).2.2 0 p154 q154
         obtain rfl : ad153 = ad154 := (by injection e154)
         have qi154 : (0 < t148.length) = True := eq_true (by omega)
         (try rw [show ((0 : Int)).toNat = 0 from rfl] at hx154_0)
         (try rw [show 0 * 4 = 0 from rfl] at hx154_0)
         (try rw [Addr.add_zero'] at hx154_0)
         (try rw [show ((0 : Int)).toNat = 0 from rfl] at hx154_1)
         (try rw [show 0 * 4 = 0 from rfl] at hx154_1)
         (try rw [Addr.add_zero'] at hx154_1)
         (try rw [show ((0 : Int)).toNat = 0 from rfl] at hx154_2)
         (try rw [show 0 * 4 = 0 from rfl] at hx154_2)
         (try rw [Addr.add_zero'] at hx154_2)
         (try rw [show ((0 : Int)).toNat = 0 from rfl] at hx154_3)
         (try rw [show 0 * 4 = 0 from rfl] at hx154_3)
         (try rw [Addr.add_zero'] at hx154_3)
         replace p154 := eq_true p154
         replace q154 := eq_true q154
         go_wp2
         go_meet
         case rel => exact ⟨_, (true), (by first | rfl | (simp; done) | (simp [*]; done)), H', ⟨by first | omega | exact Nat.le_refl _⟩, ⟨by repeat (first | (with_reducible exact HR147.out) | (with_reducible refine Kd.C_alloc ?_ _) | (with_reducible refine Kd.C_drewN ?_ _) | (with_reducible refine Kd.C_drew ?_) | exact HR147.out)⟩, ⟨by repeat (first | (with_reducible first | exact HB.out | apply below_alloc | apply pw_below_drewN | apply below_drew1) | exact HB.out)⟩⟩
       ·rw [if_neg c14] at H
        have c14b0 : (((rd_T32 t148 0).f0) == 2) = false := beq_eq_false_iff_ne.mpr c14
        have c14b1 : (((rd_T32 t148 0).f0) != 2) = true := bne_iff_ne.mpr c14
        have H' := Aside0.mk H
        clear H
        obtain ⟨Ao19, co19, eo19⟩ := Kd.R_slice HO152.out
        subst eo19
        have p153 : 0 ≤ (0 : Int) := (by omega)
        have q153 : 0 < (t148.length : Int) := of_decide_eq_true (by first | (with_reducible assumption) | assumption)
        obtain ⟨ad153, e153, hx153_0, hx153_1, hx153_2, hx153_3⟩ := at_T32 (Kd.R_reads' HO152.out).2.2 0 p153 q153
        cases e153
        have qi153 : (0 < t148.length) = True := eq_true (by omega)
        (try rw [show ((0 : Int)).toNat = 0 from rfl] at hx153_0)
        (try rw [show 0 * 4 = 0 from rfl] at hx153_0)
        (try rw [Addr.add_zero'] at hx153_0)
        (try rw [show ((0 : Int)).toNat = 0 from rfl] at hx153_1)
        (try rw [show 0 * 4 = 0 from rfl] at hx153_1)
        (try rw [Addr.add_zero'] at hx153_1)
        (try rw [show ((0 : Int)).toNat = 0 from rfl] at hx153_2)
        (try rw [show 0 * 4 = 0 from rfl] at hx153_2)
        (try rw [Addr.add_zero'] at hx153_2)
        (try rw [show ((0 : Int)).toNat = 0 from rfl] at hx153_3)
        (try rw [show 0 * 4 = 0 from rfl] at hx153_3)
        (try rw [Addr.add_zero'] at hx153_3)
        replace p153 := eq_true p153
        replace q153 := eq_true q153
        go_wp2
        go_meet
        case rel => exact ⟨_, (true), (by first | rfl | (simp; done) | (simp [*]; done)), H', ⟨by first | omega | exact Nat.le_refl _⟩, ⟨by repeat (first | (with_reducible exact HR147.out) | (with_reducible refine Kd.C_alloc ?_ _) | (with_reducible refine Kd.C_drewN ?_ _) | (with_reducible refine Kd.C_drew ?_) | exact HR147.out)⟩, ⟨by repeat (first | (with_reducible first | exact HB.out | apply below_alloc | apply pw_below_drewN | apply below_drew1) | exact HB.out)⟩⟩
      ·rw [if_neg c13] at H
       exact absurd H (by simp)
     ·rw [if_neg c12] at H
      have c12b0 : ((t148.length : Int) == 2) = false := beq_eq_false_iff_ne.mpr c12
      have c12b1 : ((t148.length : Int) != 2) = true := bne_iff_ne.mpr c12
      have H' := Aside0.mk H
      clear H
      obtain ⟨Ao20, co20, eo20⟩ := Kd.R_slice HO152.out
      subst eo20
      go_wp2
      go_meet
      case rel => exact ⟨_, (true), (by first | rfl | (simp; done) | (simp [*]; done)), H', ⟨by first | omega | exact Nat.le_refl _⟩, ⟨by repeat (first | (with_reducible exact HR147.out) | (with_reducible refine Kd.C_alloc ?_ _) | (with_reducible refine Kd.C_drewN ?_ _) | (with_reducible refine Kd.C_drew ?_) | exact HR147.out)⟩, ⟨by repeat (first | (with_reducible first | exact HB.out | apply below_alloc | apply pw_below_drewN | apply below_drew1) | exact HB.out)⟩⟩
    ·rw [if_neg c11] at H
     have c11b0 : (t150 == 0) = false := beq_eq_false_iff_ne.mpr c11
     have c11b1 : (t150 != 0) = true := bne_iff_ne.mpr c11
     (first | rw [c11b0] | (simp only [i64_w, i32_w]; rw [c11b0]) | skip)
     have H' := Aside0.mk H
     clear H
     go_wp2
     go_meet
     case rel => exact ⟨_, (true), (by first | rfl | (simp; done) | (simp [*]; done)), H', ⟨by first | omega | exact Nat.le_refl _⟩, ⟨by repeat (first | (with_reducible exact HR147.out) | (with_reducible refine Kd.C_alloc ?_ _) | (with_reducible refine Kd.C_drewN ?_ _) | (with_reducible refine Kd.C_drew ?_) | exact HR147.out)⟩, ⟨by repeat (first | (with_reducible first | exact HB.out | apply below_alloc | apply pw_below_drewN | apply below_drew1) | exact HB.out)⟩⟩
   case rest =>
    clear HC7
    try clear c1
    try clear p1
    try clear q1
    try clear hx1
    try clear qi1
    try clear p2
    try clear c4
    try clear c4b0
    try clear c4b1
    try clear c4b2
    try clear c5
    try clear c7
    try clear c11
    try clear c11b0
    try clear c11b1
    try clear c12
    try clear c12b0
    try clear c12b1
    try clear c13
    try clear c13b0
    try clear c13b1
    try clear c14
    try clear c14b0
    try clear c14b1
    try clear c15
    try clear c15b0
    try clear c15b1
    try clear p15
    try clear q15
    try clear hx15
    try clear qi15
    try clear c16
    try clear c16b0
    try clear c16b1
    try clear hx153_0
    try clear hx153_1
    try clear hx153_2
    try clear hx153_3
    try clear hx154_0
    try clear hx154_1
    try clear hx154_2
    try clear hx154_3
    try clear hx155_0
    try clear hx155_1
    try clear hx155_2
    try clear hx155_3
    try clear p153
    try clear p154
    try clear p155
    try clear q153
    try clear q154
    try clear q155
    obtain ⟨kq, x54_6, rfl, HA, HJ6, HR147, HB⟩ := hcut
    cases kq with
    | zero => exact absurd HA.out (by simp [wayfarerlaw08_LexerNumbers.j0])
    | succ kj6 =>
     have H := HA.out
     clear HA
     simp only [wayfarerlaw08_LexerNumbers.j0] at H
     by_cases c21 : x54_6 = true
     ·subst c21
      have H1 : (none) = some r := by rw [if_pos rfl] at H; exact H
      clear H
      have H := H1
      clear H1
      exact absurd H (by simp)
     ·replace c21 := Bool.eq_false_iff.mpr c21
      subst c21
      have H1 : ((some (([(97 + (Int.tmod a1 26)) % 256] : List Int) : List Int)).bind fun y156 => (if 2 + t143.size ≤ 9223372036854775807 then (if ((⟨#[40, 32]⟩ : ByteArray) ++ t143).size + (strOfNums y156).size ≤ 9223372036854775807 then (if (((⟨#[40, 32]⟩ : ByteArray) ++ t143) ++ (strOfNums y156)).size ≤ 9223372036854775807 then ((lexer_All.f kj6 (bytesOf (((⟨#[40, 32]⟩ : ByteArray) ++ t143) ++ (strOfNums y156)))).bind fun bt163 => (if (strOfNums y156).size + 1 ≤ 9223372036854775807 then (if ((strOfNums y156) ++ (⟨#[55]⟩ : ByteArray)).size ≤ 9223372036854775807 then ((lexer_All.f kj6 (bytesOf ((strOfNums y156) ++ (⟨#[55]⟩ : ByteArray)))).bind fun bt172 => (if bt163.2.1 = 2 then (if bt163.2.2 = 30 then (if bt172.2.2 = 0 then (if (bt172.1.length : Int) = 1 then (if 0 < (bt172.1.length : Int) then (if ((rd_T32 bt172.1 0).f0) = 1 then (if ((rd_T32 bt172.1 0).f2).toList = ((strOfNums y156) ++ (⟨#[55]⟩ : ByteArray)).toList then ((wayfarerlaw08_known.f kj6).bind fun t179 => (some t179)) else (none)) else (none)) else (none)) else (none)) else (none)) else (none)) else (none))) else (none)) else (none))) else (none)) else (none)) else (none))) = some r := by rw [if_neg (show ¬ (false = true) by decide)] at H; exact H
      clear H
      have H := H1
      clear H1
      obtain ⟨y156, hy156⟩ : ∃ y_ : List Int, y_ = (([(97 + (Int.tmod a1 26)) % 256] : List Int)) := ⟨_, rfl⟩
      replace H : (if 2 + t143.size ≤ 9223372036854775807 then (if ((⟨#[40, 32]⟩ : ByteArray) ++ t143).size + (strOfNums y156).size ≤ 9223372036854775807 then (if (((⟨#[40, 32]⟩ : ByteArray) ++ t143) ++ (strOfNums y156)).size ≤ 9223372036854775807 then ((lexer_All.f kj6 (bytesOf (((⟨#[40, 32]⟩ : ByteArray) ++ t143) ++ (strOfNums y156)))).bind fun bt163 => (if (strOfNums y156).size + 1 ≤ 9223372036854775807 then (if ((strOfNums y156) ++ (⟨#[55]⟩ : ByteArray)).size ≤ 9223372036854775807 then ((lexer_All.f kj6 (bytesOf ((strOfNums y156) ++ (⟨#[55]⟩ : ByteArray)))).bind fun bt172 => (if bt163.2.1 = 2 then (if bt163.2.2 = 30 then (if bt172.2.2 = 0 then (if (bt172.1.length : Int) = 1 then (if 0 < (bt172.1.length : Int) then (if ((rd_T32 bt172.1 0).f0) = 1 then (if ((rd_T32 bt172.1 0).f2).toList = ((strOfNums y156) ++ (⟨#[55]⟩ : ByteArray)).toList then ((wayfarerlaw08_known.f kj6).bind fun t179 => (some t179)) else (none)) else (none)) else (none)) else (none)) else (none)) else (none)) else (none))) else (none)) else (none))) else (none)) else (none)) else (none)) = some r := by first | (rw [hy156]; with_reducible exact H) | (have H2_ := (Option.bind_some _ _).symm.trans H; rw [hy156]; with_reducible exact H2_) | (have H2_ := (Option.bind_some _ _).symm.trans H; with_reducible exact H2_) | with_reducible exact H | (rw [hy156]; exact H) | exact H
      have Ny156 := Aside0.mk hy156
      clear hy156
      by_cases c22 : 2 + t143.size ≤ 9223372036854775807
      ·rw [if_pos c22] at H
       have c22b0 := eq_true c22
       have c22b1 : decide (2 + t143.size ≤ 9223372036854775807) = true := decide_eq_true c22
       try have c22b2 : (9223372036854775807 < 2 + t143.size) = False := eq_false (Nat.not_lt.2 c22)
       by_cases c23 : ((⟨#[40, 32]⟩ : ByteArray) ++ t143).size + (strOfNums y156).size ≤ 9223372036854775807
       ·rw [if_pos c23] at H
        have c23b0 := eq_true c23
        have c23b1 : decide (((⟨#[40, 32]⟩ : ByteArray) ++ t143).size + (strOfNums y156).size ≤ 9223372036854775807) = true := decide_eq_true c23
        try have c23b2 : (9223372036854775807 < ((⟨#[40, 32]⟩ : ByteArray) ++ t143).size + (strOfNums y156).size) = False := eq_false (Nat.not_lt.2 c23)
        by_cases c24 : (((⟨#[40, 32]⟩ : ByteArray) ++ t143) ++ (strOfNums y156)).size ≤ 9223372036854775807
        ·rw [if_pos c24] at H
         have LMc24 := Aside0.mk c24
         clear c24
         obtain ⟨y159, hy159⟩ : ∃ y_ : List Int, y_ = (bytesOf (((⟨#[40, 32]⟩ : ByteArray) ++ t143) ++ (strOfNums y156))) := ⟨_, rfl⟩
         replace H : ((lexer_All.f kj6 y159).bind fun bt163 => (if (strOfNums y156).size + 1 ≤ 9223372036854775807 then (if ((strOfNums y156) ++ (⟨#[55]⟩ : ByteArray)).size ≤ 9223372036854775807 then ((lexer_All.f kj6 (bytesOf ((strOfNums y156) ++ (⟨#[55]⟩ : ByteArray)))).bind fun bt172 => (if bt163.2.1 = 2 then (if bt163.2.2 = 30 then (if bt172.2.2 = 0 then (if (bt172.1.length : Int) = 1 then (if 0 < (bt172.1.length : Int) then (if ((rd_T32 bt172.1 0).f0) = 1 then (if ((rd_T32 bt172.1 0).f2).toList = ((strOfNums y156) ++ (⟨#[55]⟩ : ByteArray)).toList then ((wayfarerlaw08_known.f kj6).bind fun t179 => (some t179)) else (none)) else (none)) else (none)) else (none)) else (none)) else (none)) else (none))) else (none)) else (none))) = some r := by first | (rw [hy159]; with_reducible exact H) | (have H2_ := (Option.bind_some _ _).symm.trans H; rw [hy159]; with_reducible exact H2_) | (have H2_ := (Option.bind_some _ _).symm.trans H; with_reducible exact H2_) | with_reducible exact H | (rw [hy159]; exact H) | exact H
         have Ny159 := Aside0.mk hy159
         clear hy159
         replace H := Option.bind_eq_some_iff.mp H
         obtain ⟨⟨t163, t164, t165⟩, A250, H⟩ := H
         replace H : (if (strOfNums y156).size + 1 ≤ 9223372036854775807 then (if ((strOfNums y156) ++ (⟨#[55]⟩ : ByteArray)).size ≤ 9223372036854775807 then ((lexer_All.f kj6 (bytesOf ((strOfNums y156) ++ (⟨#[55]⟩ : ByteArray)))).bind fun bt172 => (if t164 = 2 then (if t165 = 30 then (if bt172.2.2 = 0 then (if (bt172.1.length : Int) = 1 then (if 0 < (bt172.1.length : Int) then (if ((rd_T32 bt172.1 0).f0) = 1 then (if ((rd_T32 bt172.1 0).f2).toList = ((strOfNums y156) ++ (⟨#[55]⟩ : ByteArray)).toList then ((wayfarerlaw08_known.f kj6).bind fun t179 => (some t179)) else (none)) else (none)) else (none)) else (none)) else (none)) else (none)) else (none))) else (none)) else (none)) = some r := H
         have A25 := Aside0.mk A250
         clear A250
         by_cases c26 : (strOfNums y156).size + 1 ≤ 9223372036854775807
         ·rw [if_pos c26] at H
          have c26b0 := eq_true c26
          have c26b1 : decide ((strOfNums y156).size + 1 ≤ 9223372036854775807) = true := decide_eq_true c26
          try have c26b2 : (9223372036854775807 < (strOfNums y156).size + 1) = False := eq_false (Nat.not_lt.2 c26)
          by_cases c27 : ((strOfNums y156) ++ (⟨#[55]⟩ : ByteArray)).size ≤ 9223372036854775807
          ·rw [if_pos c27] at H
           have LMc27 := Aside0.mk c27
           clear c27
           obtain ⟨y168, hy168⟩ : ∃ y_ : List Int, y_ = (bytesOf ((strOfNums y156) ++ (⟨#[55]⟩ : ByteArray))) := ⟨_, rfl⟩
           replace H : ((lexer_All.f kj6 y168).bind fun bt172 => (if t164 = 2 then (if t165 = 30 then (if bt172.2.2 = 0 then (if (bt172.1.length : Int) = 1 then (if 0 < (bt172.1.length : Int) then (if ((rd_T32 bt172.1 0).f0) = 1 then (if ((rd_T32 bt172.1 0).f2).toList = ((strOfNums y156) ++ (⟨#[55]⟩ : ByteArray)).toList then ((wayfarerlaw08_known.f kj6).bind fun t179 => (some t179)) else (none)) else (none)) else (none)) else (none)) else (none)) else (none)) else (none))) = some r := by first | (rw [hy168]; with_reducible exact H) | (have H2_ := (Option.bind_some _ _).symm.trans H; rw [hy168]; with_reducible exact H2_) | (have H2_ := (Option.bind_some _ _).symm.trans H; with_reducible exact H2_) | with_reducible exact H | (rw [hy168]; exact H) | exact H
           have Ny168 := Aside0.mk hy168
           clear hy168
           replace H := Option.bind_eq_some_iff.mp H
           obtain ⟨⟨t172, t173, t174⟩, A280, H⟩ := H
           replace H : (if t164 = 2 then (if t165 = 30 then (if t174 = 0 then (if (t172.length : Int) = 1 then (if 0 < (t172.length : Int) then (if ((rd_T32 t172 0).f0) = 1 then (if ((rd_T32 t172 0).f2).toList = ((strOfNums y156) ++ (⟨#[55]⟩ : ByteArray)).toList then ((wayfarerlaw08_known.f kj6).bind fun t179 => (some t179)) else (none)) else (none)) else (none)) else (none)) else (none)) else (none)) else (none)) = some r := H
           have A28 := Aside0.mk A280
           clear A280
           by_cases c29 : t164 = 2
           ·rw [if_pos c29] at H
            have c29b0 : (t164 == 2) = true := beq_iff_eq.mpr c29
            have c29b1 : (t164 != 2) = false := bne_eq_false_iff_eq.mpr c29
            clear c29
            by_cases c30 : t165 = 30
            ·rw [if_pos c30] at H
             have c30b0 : (t165 == 30) = true := beq_iff_eq.mpr c30
             have c30b1 : (t165 != 30) = false := bne_eq_false_iff_eq.mpr c30
             clear c30
             by_cases c31 : t174 = 0
             ·rw [if_pos c31] at H
              have c31b0 : (t174 == 0) = true := beq_iff_eq.mpr c31
              have c31b1 : (t174 != 0) = false := bne_eq_false_iff_eq.mpr c31
              clear c31
              by_cases c32 : (t172.length : Int) = 1
              ·rw [if_pos c32] at H
               have c32b0 : ((t172.length : Int) == 1) = true := beq_iff_eq.mpr c32
               have c32b1 : ((t172.length : Int) != 1) = false := bne_eq_false_iff_eq.mpr c32
               clear c32
               by_cases c33 : 0 < (t172.length : Int)
               ·rw [if_pos c33] at H
                have c33b0 : decide (0 < (t172.length : Int)) = true := decide_eq_true c33
                have c33b1 : decide (0 < t172.length) = true := decide_eq_true (by omega)
                clear c33
                by_cases c34 : ((rd_T32 t172 0).f0) = 1
                ·rw [if_pos c34] at H
                 have c34b0 : (((rd_T32 t172 0).f0) == 1) = true := beq_iff_eq.mpr c34
                 have c34b1 : (((rd_T32 t172 0).f0) != 1) = false := bne_eq_false_iff_eq.mpr c34
                 clear c34
                 by_cases c35 : ((rd_T32 t172 0).f2).toList = ((strOfNums y156) ++ (⟨#[55]⟩ : ByteArray)).toList
                 ·rw [if_pos c35] at H
                  have c35b0 : (((rd_T32 t172 0).f2).toList == ((strOfNums y156) ++ (⟨#[55]⟩ : ByteArray)).toList) = true := beq_iff_eq.mpr c35
                  have c35b1 : (((rd_T32 t172 0).f2).toList != ((strOfNums y156) ++ (⟨#[55]⟩ : ByteArray)).toList) = false := bne_eq_false_iff_eq.mpr c35
                  clear c35
                  replace H := Option.bind_eq_some_iff.mp H
                  obtain ⟨t179, A360, H⟩ := H
                  replace H : (some t179) = some r := H
                  have A36 := Aside0.mk A360
                  clear A360
                  obtain rfl := Option.some.inj H
                  go_wp2_with (first | ((with_reducible refine gate_dst (N := 58) rfl ?_); (try (refine gate_guard (by rfl) ?_; dsimp only)); refine Kd.R_lit (Kd.int .u8) _ 5 ?hg (N := 58) ?hd (xs := ([(97 + (Int.tmod a1 26)) % 256] : List Int)) (inner := [.int .u8 ((97 + (Int.tmod a1 26)) % 256)]) (ok := fun _ => True) (okp := fun _ => True) ?hr ?hp (fun _ hk => hk) trivial (Below.refl _ _) (Nat.le_refl _) (by simp) ?_; (case hd => rfl); (case hg => rfl); (case hr => first | (go_simp; done) | (go_simp; rfl)); (case hp => exact (Reps.one (show Kd.M (Kd.int .u8) _ _ _ ((97 + (Int.tmod a1 26)) % 256) [.int .u8 ((97 + (Int.tmod a1 26)) % 256)] from rfl) (Reps.none _ _))); intro v157 w37 ho38 hb hg_ hnew_; clear hg_ hnew_; (first | rw [← Ny156.out] at ho38 | (simp only [Int.reduceToNat] at ho38; rw [← Ny156.out] at ho38)); have n0_ := Aside0.mk (Kd.R_lower ho38 (below_size (by repeat (first | (with_reducible first | exact HB.out | apply below_alloc | apply pw_below_drewN | apply below_drew1) | exact HB.out)))); have n1_ := Aside0.mk (below_step (by repeat (first | (with_reducible first | exact HB.out | apply below_alloc | apply pw_below_drewN | apply below_drew1) | exact HB.out)) hb); clear HB; have HO158 := n0_; have HB := n1_; clear n0_ n1_; clear hb ho38; have hcv39 := own_string (P := Try.prog) Try.underlying22 Try.underlying5 Try.underlying9 (Kd.own_of_R HO158.out)) | ((with_reducible refine gate_dst (N := 65) rfl ?_); (try (refine gate_guard (by rfl) ?_; dsimp only)); refine bytes_event (xs := y159) (s := (((⟨#[40, 32]⟩ : ByteArray) ++ t143) ++ (strOfNums y156))) 9 22 5 rfl rfl Try.underlying9 Try.underlying22 Try.underlying5 (by have := LMc24.out; omega) Ny159.out ?hx ?_; (case hx => first | (go_simp; done) | (go_simp; rfl)); intro gy159 cy159 w40 hc_ hC hb; have n0_ := Aside0.mk (below_step (by repeat (first | (with_reducible first | exact HB.out | apply below_alloc | apply pw_below_drewN | apply below_drew1) | exact HB.out)) hb); have n1_ := Aside0.mk (hC); have n2_ := Aside0.mk (hc_); clear HB; have HB := n0_; have HR162 := n1_; have HC162 := n2_; clear n0_ n1_ n2_; clear hb hC hc_) | ((with_reducible refine gate_callee (f := 13) rfl ?_); refine goesL_ (some 66) rfl rfl Try.func13 (by kernel_rfl) rfl #[.slice (some ⟨gy159, 0, none⟩) y159.length cy159] rfl (by (try simp only [List.map_toArray, List.map_cons, List.map_nil]); first | done | rfl | (simp only [List.length_drop, List.length_take]; rfl)) ?_; (with_reducible refine (lexer_All.calls kj6 _ _ y159 t163 t164 t165 _ ?side1 ?side2 A25.out).mono ?_); (case side1 => repeat (first | exact (by repeat (first | (with_reducible exact HR162.out) | (with_reducible refine Kd.C_alloc ?_ _) | (with_reducible refine Kd.C_drewN ?_ _) | (with_reducible refine Kd.C_drew ?_) | exact HR162.out)) | (with_reducible refine Kd.C_alloc ?_ _) | (with_reducible refine Kd.C_drewN ?_ _) | (with_reducible refine Kd.C_drew ?_))); (case side2 => exact HC162.out); rintro e w41 ⟨v166, rfl, ho0, hb⟩; refine ⟨_, rfl, ?_⟩; have n0_ := Aside0.mk (Kd.R_lower ho0 (below_size (by repeat (first | (with_reducible first | exact HB.out | apply below_alloc | apply pw_below_drewN | apply below_drew1) | exact HB.out)))); have n1_ := Aside0.mk (Kd.C_below (by repeat (first | (with_reducible exact HR162.out) | (with_reducible refine Kd.C_alloc ?_ _) | (with_reducible refine Kd.C_drewN ?_ _) | (with_reducible refine Kd.C_drew ?_) | exact HR162.out)) hb); have n2_ := Aside0.mk (below_step (by repeat (first | (with_reducible first | exact HB.out | apply below_alloc | apply pw_below_drewN | apply below_drew1) | exact HB.out)) hb); clear HR162; clear HB; have HO167 := n0_; have HR162 := n1_; have HB := n2_; clear n0_ n1_ n2_; (try clear hb); (try clear hb2); (try clear hk); (try clear hi); (try clear ho0)) | ((with_reducible refine gate_dst (N := 73) rfl ?_); (try (refine gate_guard (by rfl) ?_; dsimp only)); refine bytes_event (xs := y168) (s := ((strOfNums y156) ++ (⟨#[55]⟩ : ByteArray))) 9 22 5 rfl rfl Try.underlying9 Try.underlying22 Try.underlying5 (by have := LMc27.out; omega) Ny168.out ?hx ?_; (case hx => first | (go_simp; done) | (go_simp; rfl)); intro gy168 cy168 w42 hc_ hC hb; have n0_ := Aside0.mk (below_step (by repeat (first | (with_reducible first | exact HB.out | apply below_alloc | apply pw_below_drewN | apply below_drew1) | exact HB.out)) hb); have n1_ := Aside0.mk (hC); have n2_ := Aside0.mk (hc_); clear HB; have HB := n0_; have HR171 := n1_; have HC171 := n2_; clear n0_ n1_ n2_; clear hb hC hc_) | ((with_reducible refine gate_callee (f := 13) rfl ?_); refine goesL_ (some 74) rfl rfl Try.func13 (by kernel_rfl) rfl #[.slice (some ⟨gy168, 0, none⟩) y168.length cy168] rfl (by (try simp only [List.map_toArray, List.map_cons, List.map_nil]); first | done | rfl | (simp only [List.length_drop, List.length_take]; rfl)) ?_; (with_reducible refine (lexer_All.calls kj6 _ _ y168 t172 t173 t174 _ ?side1 ?side2 A28.out).mono ?_); (case side1 => repeat (first | exact (by repeat (first | (with_reducible exact HR171.out) | (with_reducible refine Kd.C_alloc ?_ _) | (with_reducible refine Kd.C_drewN ?_ _) | (with_reducible refine Kd.C_drew ?_) | exact HR171.out)) | (with_reducible refine Kd.C_alloc ?_ _) | (with_reducible refine Kd.C_drewN ?_ _) | (with_reducible refine Kd.C_drew ?_))); (case side2 => exact HC171.out); rintro e w43 ⟨v175, rfl, ho0, hb⟩; refine ⟨_, rfl, ?_⟩; have n0_ := Aside0.mk (Kd.R_lower ho0 (below_size (by repeat (first | (with_reducible first | exact HB.out | apply below_alloc | apply pw_below_drewN | apply below_drew1) | exact HB.out)))); have n1_ := Aside0.mk (Kd.C_below (by repeat (first | (with_reducible exact HR171.out) | (with_reducible refine Kd.C_alloc ?_ _) | (with_reducible refine Kd.C_drewN ?_ _) | (with_reducible refine Kd.C_drew ?_) | exact HR171.out)) hb); have n2_ := Aside0.mk (below_step (by repeat (first | (with_reducible first | exact HB.out | apply below_alloc | apply pw_below_drewN | apply below_drew1) | exact HB.out)) hb); clear HR171; clear HB; have HO176 := n0_; have HR171 := n1_; have HB := n2_; clear n0_ n1_ n2_; (try clear hb); (try clear hb2); (try clear hk); (try clear hi); (try clear ho0); obtain ⟨Ao44, co44, eo44⟩ := Kd.R_slice HO176.out; subst eo44; have p177 : 0 ≤ (0 : Int) := (by omega); have q177 : 0 < (t172.length : Int) := of_decide_eq_true (by first | (with_reducible assumption) | assumption); obtain ⟨ad177, e177, hx177_0, hx177_1, hx177_2, hx177_3⟩ := at_T32 (Kd.R_reads' HO176.out).2.2 0 p177 q177; cases e177; have qi177 : (0 < t172.length) = True := eq_true (by omega); (try rw [show ((0 : Int)).toNat = 0 from rfl] at hx177_0); (try rw [show 0 * 4 = 0 from rfl] at hx177_0); (try rw [Addr.add_zero'] at hx177_0); (try rw [show ((0 : Int)).toNat = 0 from rfl] at hx177_1); (try rw [show 0 * 4 = 0 from rfl] at hx177_1); (try rw [Addr.add_zero'] at hx177_1); (try rw [show ((0 : Int)).toNat = 0 from rfl] at hx177_2); (try rw [show 0 * 4 = 0 from rfl] at hx177_2); (try rw [Addr.add_zero'] at hx177_2); (try rw [show ((0 : Int)).toNat = 0 from rfl] at hx177_3); (try rw [show 0 * 4 = 0 from rfl] at hx177_3); (try rw [Addr.add_zero'] at hx177_3); replace p177 := eq_true p177; replace q177 := eq_true q177; have p178 : 0 ≤ (0 : Int) := (by omega); have q178 : 0 < (t172.length : Int) := of_decide_eq_true (by first | (with_reducible assumption) | assumption); obtain ⟨ad178, e178, hx178_0, hx178_1, hx178_2, hx178_3⟩ := at_T32 (Kd.R_reads' HO176.out).2.2 0 p178 q178; obtain rfl : ad177 = ad178 := (by injection e178); have qi178 : (0 < t172.length) = True := eq_true (by omega); (try rw [show ((0 : Int)).toNat = 0 from rfl] at hx178_0); (try rw [show 0 * 4 = 0 from rfl] at hx178_0); (try rw [Addr.add_zero'] at hx178_0); (try rw [show ((0 : Int)).toNat = 0 from rfl] at hx178_1); (try rw [show 0 * 4 = 0 from rfl] at hx178_1); (try rw [Addr.add_zero'] at hx178_1); (try rw [show ((0 : Int)).toNat = 0 from rfl] at hx178_2); (try rw [show 0 * 4 = 0 from rfl] at hx178_2); (try rw [Addr.add_zero'] at hx178_2); (try rw [show ((0 : Int)).toNat = 0 from rfl] at hx178_3); (try rw [show 0 * 4 = 0 from rfl] at hx178_3); (try rw [Addr.add_zero'] at hx178_3); replace p178 := eq_true p178; replace q178 := eq_true q178) | (go_at_call 9; (with_reducible refine (wayfarerlaw08_known.calls kj6  t179 _ A36.out).mono ?_); rintro e w45 ⟨rfl, hb⟩; have n0_ := Aside0.mk (below_step (by repeat (first | (with_reducible first | exact HB.out | apply below_alloc | apply pw_below_drewN | apply below_drew1) | exact HB.out)) hb); clear HB; have HB := n0_; clear n0_; (try clear hb); (try clear hb2); (try clear hk); (try clear hi)))
                  go_ret
                  exact ⟨by first | rfl | (simp [errW_none, errW_some] <;> rfl) | (simp [*, errW_none, errW_some] <;> rfl), by repeat (first | (with_reducible first | exact HB.out | apply below_alloc | apply pw_below_drewN | apply below_drew1) | exact HB.out)⟩
                 ·rw [if_neg c35] at H
                  exact absurd H (by simp)
                ·rw [if_neg c34] at H
                 exact absurd H (by simp)
               ·rw [if_neg c33] at H
                exact absurd H (by simp)
              ·rw [if_neg c32] at H
               exact absurd H (by simp)
             ·rw [if_neg c31] at H
              exact absurd H (by simp)
            ·rw [if_neg c30] at H
             exact absurd H (by simp)
           ·rw [if_neg c29] at H
            exact absurd H (by simp)
          ·rw [if_neg c27] at H
           exact absurd H (by simp)
         ·rw [if_neg c26] at H
          exact absurd H (by simp)
        ·rw [if_neg c24] at H
         exact absurd H (by simp)
       ·rw [if_neg c23] at H
        exact absurd H (by simp)
      ·rw [if_neg c22] at H
       exact absurd H (by simp)
  ·rw [if_neg c5] at H
   exact absurd H (by simp)
 ·rw [if_neg c4] at H
  exact absurd H (by simp)

/-- THE ONE PURE STATEMENT of wayfarerlaw08_LexerNumbers: yours. -/
def wayfarerlaw08_LexerNumbers.Pure : Prop := ∀ (a0 : Int) (a1 : Int), (Lit.int .i64 a0).wf = true → (Lit.int .u8 a1).wf = true → ∃ k, wayfarerlaw08_LexerNumbers.f k a0 a1 = some true
theorem wayfarerlaw08_LexerNumbers.walk (P : wayfarerlaw08_LexerNumbers.Pure) (a0 : Int) (a1 : Int) (w : World) (w0 : (Lit.int .i64 a0).wf = true) (w1 : (Lit.int .u8 a1).wf = true) :
  Calls Try.prog 7 #[.int .i64 a0, .int .u8 a1] w fun e w' => e = .returned (.bool true) ∧ Below w.heap.size w w' := by
 obtain ⟨k, h⟩ := P a0 a1 w0 w1
 refine (wayfarerlaw08_LexerNumbers.calls k a0 a1 true w h).mono ?_
 rintro e w' ⟨rfl, hd⟩
 exact ⟨rfl, hd⟩

end Go.Proofs.Ytildiabokdfjgaa.PLexerNumbers
