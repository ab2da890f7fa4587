/- Contracts of Go functions of this claim, and the Lean functions that they come to. -/
import Derived.Test.YtildiabokdfjgaaPLexerWholex0
import Derived.Test.YtildiabokdfjgaaPLexerWholex4
namespace Go.Proofs.Ytildiabokdfjgaa.PLexerWhole
open Go.RowKit Go.Proofs.YtildiabokdfjgaaW.PrintWords Go.Proofs.YtildiabokdfjgaaW.PrintLast Go.Proofs.YtildiabokdfjgaaW.PrintMore
attribute [local go_sem] max2_int min2_int max_two min_two max_three min_three max_four min_four   -- for this text's walks alone
set_option linter.unusedVariables false
set_option linter.unusedSimpArgs false

/-! ### wayfarerlaw08_LexerWhole: function 4 -/
mutual
def wayfarerlaw08_LexerWhole.l0 : Nat → List Int → List (S32) → Int → Int → Option (Bool)
  | 0, _, _, _, _ => none
  | k + 1, x0, x3, x6, x7 => if x7 < (x3.length : Int) then (if 0 ≤ x7 then (if ((rd_T32 x3 x7).f1) < x6 then (wayfarerlaw08_LexerWhole.j1 k x0 x3 x6 x7 true) else (if ((rd_T32 x3 x7).f1) ≥ (x0.length : Int) then (wayfarerlaw08_LexerWhole.j1 k x0 x3 x6 x7 true) else (if ((rd_T32 x3 x7).f0) < 1 then (wayfarerlaw08_LexerWhole.j1 k x0 x3 x6 x7 true) else (wayfarerlaw08_LexerWhole.j1 k x0 x3 x6 x7 (decide (((rd_T32 x3 x7).f0) > 4)))))) else (none)) else (wayfarerlaw08_LexerWhole.l3 k x0 x6)
def wayfarerlaw08_LexerWhole.j1 : Nat → List Int → List (S32) → Int → Int → Bool → Option (Bool)
  | 0, _, _, _, _, _ => none
  | k + 1, x0, x3, x6, x7, x65 => if x65 = true then (some false) else (wayfarerlaw08_LexerWhole.l1 k x0 x3 x6 x7)
def wayfarerlaw08_LexerWhole.l1 : Nat → List Int → List (S32) → Int → Int → Option (Bool)
  | 0, _, _, _, _ => none
  | k + 1, x0, x3, x6, x7 => if 0 ≤ x7 then (if x7 < (x3.length : Int) then (if x6 < ((rd_T32 x3 x7).f1) then (if 0 ≤ x6 then (if x6 < (x0.length : Int) then ((wayfarerlaw08_blank.f k (rd x0 x6)).bind fun t155 => (if t155 = true then (wayfarerlaw08_LexerWhole.l1 k x0 x3 (wrap64 (x6 + 1)) x7) else (some false))) else (none)) else (none)) else (if ((rd_T32 x3 x7).f0) = 3 then (wayfarerlaw08_LexerWhole.l2 k x0 x3 (wrap64 (x6 + 1)) x7) else (if (((rd_T32 x3 x7).f2).size : Int) = 0 then (some false) else (if (wrap64 (x6 + (((rd_T32 x3 x7).f2).size : Int))) > (x0.length : Int) then (some false) else (if 0 ≤ x6 then (if x6 ≤ (wrap64 (x6 + (((rd_T32 x3 x7).f2).size : Int))) then (if (wrap64 (x6 + (((rd_T32 x3 x7).f2).size : Int))) ≤ (x0.length : Int) then (if (strOfNums ((x0.take ((wrap64 (x6 + (((rd_T32 x3 x7).f2).size : Int))) : Int).toNat).drop (x6 : Int).toNat)).toList = ((rd_T32 x3 x7).f2).toList then (wayfarerlaw08_LexerWhole.l0 k x0 x3 (wrap64 (x6 + (((rd_T32 x3 x7).f2).size : Int))) (wrap64 (x7 + 1))) else (some false)) else (none)) else (none)) else (none)))))) else (none)) else (none)
def wayfarerlaw08_LexerWhole.l2 : Nat → List Int → List (S32) → Int → Int → Option (Bool)
  | 0, _, _, _, _ => none
  | k + 1, x0, x3, x6, x7 => if x6 < (x0.length : Int) then (if 0 ≤ x6 then (wayfarerlaw08_LexerWhole.j4 k x0 x3 x6 x7 ((rd x0 x6) != 39)) else (none)) else (wayfarerlaw08_LexerWhole.j4 k x0 x3 x6 x7 false)
def wayfarerlaw08_LexerWhole.j4 : Nat → List Int → List (S32) → Int → Int → Bool → Option (Bool)
  | 0, _, _, _, _, _ => none
  | k + 1, x0, x3, x6, x7, x133 => if x133 = true then (if 0 ≤ x6 then (if x6 < (x0.length : Int) then (if (rd x0 x6) = 92 then (wayfarerlaw08_LexerWhole.l2 k x0 x3 (wrap64 ((wrap64 (x6 + 1)) + 1)) x7) else (wayfarerlaw08_LexerWhole.l2 k x0 x3 (wrap64 (x6 + 1)) x7)) else (none)) else (none)) else (wayfarerlaw08_LexerWhole.l0 k x0 x3 (wrap64 (x6 + 1)) (wrap64 (x7 + 1)))
def wayfarerlaw08_LexerWhole.l3 : Nat → List Int → Int → Option (Bool)
  | 0, _, _ => none
  | k + 1, x0, x6 => if x6 < (x0.length : Int) then (if 0 ≤ x6 then ((wayfarerlaw08_blank.f k (rd x0 x6)).bind fun t163 => (if t163 = true then (wayfarerlaw08_LexerWhole.l3 k x0 (wrap64 (x6 + 1))) else (some false))) else (none)) else ((wayfarerlaw08_known.f k).bind fun t164 => (some t164))
end
def wayfarerlaw08_LexerWhole.f (k : Nat) (l0 : List Int) : Option (Bool) := if (l0.length : Int) > 4000 then ((wayfarerlaw08_known.f k).bind fun t142 => (some t142)) else ((lexer_All.f k l0).bind fun bt143 => (if bt143.2.2 = 0 then (wayfarerlaw08_LexerWhole.l0 k l0 bt143.1 0 0) else (if (bt143.1.length : Int) = 0 then ((wayfarerlaw08_known.f k).bind fun t148 => (some t148)) else (some false))))
theorem wayfarerlaw08_LexerWhole.mono_l : ∀ k, (∀ y0 y1 y2 y3, LeO (wayfarerlaw08_LexerWhole.l0 k y0 y1 y2 y3) (wayfarerlaw08_LexerWhole.l0 (k + 1) y0 y1 y2 y3)) ∧ (∀ y0 y1 y2 y3 y4, LeO (wayfarerlaw08_LexerWhole.j1 k y0 y1 y2 y3 y4) (wayfarerlaw08_LexerWhole.j1 (k + 1) y0 y1 y2 y3 y4)) ∧ (∀ y0 y1 y2 y3, LeO (wayfarerlaw08_LexerWhole.l1 k y0 y1 y2 y3) (wayfarerlaw08_LexerWhole.l1 (k + 1) y0 y1 y2 y3)) ∧ (∀ y0 y1 y2 y3, LeO (wayfarerlaw08_LexerWhole.l2 k y0 y1 y2 y3) (wayfarerlaw08_LexerWhole.l2 (k + 1) y0 y1 y2 y3)) ∧ (∀ y0 y1 y2 y3 y4, LeO (wayfarerlaw08_LexerWhole.j4 k y0 y1 y2 y3 y4) (wayfarerlaw08_LexerWhole.j4 (k + 1) y0 y1 y2 y3 y4)) ∧ (∀ y0 y1, LeO (wayfarerlaw08_LexerWhole.l3 k y0 y1) (wayfarerlaw08_LexerWhole.l3 (k + 1) y0 y1))
  | 0 => ⟨fun _ _ _ _ r h => by simp [wayfarerlaw08_LexerWhole.l0] at h, fun _ _ _ _ _ r h => by simp [wayfarerlaw08_LexerWhole.j1] at h, fun _ _ _ _ r h => by simp [wayfarerlaw08_LexerWhole.l1] at h, fun _ _ _ _ r h => by simp [wayfarerlaw08_LexerWhole.l2] at h, fun _ _ _ _ _ r h => by simp [wayfarerlaw08_LexerWhole.j4] at h, fun _ _ r h => by simp [wayfarerlaw08_LexerWhole.l3] at h⟩
  | k + 1 => by
    obtain ⟨ih0, ih1, ih2, ih3, ih4, ih5⟩ := wayfarerlaw08_LexerWhole.mono_l k
    refine ⟨?_, ?_, ?_, ?_, ?_, ?_⟩
    · intro y0 y1 y2 y3
      unfold wayfarerlaw08_LexerWhole.l0
      repeat' first
      | (with_reducible exact ih0 _ _ _ _)
      | (with_reducible exact ih1 _ _ _ _ _)
      | (with_reducible exact ih2 _ _ _ _)
      | (with_reducible exact ih3 _ _ _ _)
      | (with_reducible exact ih4 _ _ _ _ _)
      | (with_reducible exact ih5 _ _)
      | (with_reducible exact lexer_All.mono _ _)
      | (with_reducible exact wayfarerlaw08_blank.mono _ _)
      | (with_reducible exact wayfarerlaw08_known.mono _)
      | (with_reducible exact LeO.refl _)
      | (with_reducible exact LeO.none _)
      | (with_reducible refine LeO.ite ?_ ?_)
      | (with_reducible refine LeO.bind ?_ (fun _ => ?_))
      | exact ih0 _ _ _ _
      | exact ih1 _ _ _ _ _
      | exact ih2 _ _ _ _
      | exact ih3 _ _ _ _
      | exact ih4 _ _ _ _ _
      | exact ih5 _ _
      | exact lexer_All.mono _ _
      | exact wayfarerlaw08_blank.mono _ _
      | exact wayfarerlaw08_known.mono _
      | exact LeO.none _
      | refine LeO.ite ?_ ?_
      | refine LeO.bind ?_ (fun _ => ?_)
    · intro y0 y1 y2 y3 y4
      unfold wayfarerlaw08_LexerWhole.j1
      repeat' first
      | (with_reducible exact ih0 _ _ _ _)
      | (with_reducible exact ih1 _ _ _ _ _)
      | (with_reducible exact ih2 _ _ _ _)
      | (with_reducible exact ih3 _ _ _ _)
      | (with_reducible exact ih4 _ _ _ _ _)
      | (with_reducible exact ih5 _ _)
      | (with_reducible exact lexer_All.mono _ _)
      | (with_reducible exact wayfarerlaw08_blank.mono _ _)
      | (with_reducible exact wayfarerlaw08_known.mono _)
      | (with_reducible exact LeO.refl _)
      | (with_reducible exact LeO.none _)
      | (with_reducible refine LeO.ite ?_ ?_)
      | (with_reducible refine LeO.bind ?_ (fun _ => ?_))
      | exact ih0 _ _ _ _
      | exact ih1 _ _ _ _ _
      | exact ih2 _ _ _ _
      | exact ih3 _ _ _ _
      | exact ih4 _ _ _ _ _
      | exact ih5 _ _
      | exact lexer_All.mono _ _
      | exact wayfarerlaw08_blank.mono _ _
      | exact wayfarerlaw08_known.mono _
      | exact LeO.none _
      | refine LeO.ite ?_ ?_
      | refine LeO.bind ?_ (fun _ => ?_)
    · intro y0 y1 y2 y3
      unfold wayfarerlaw08_LexerWhole.l1
      repeat' first
      | (with_reducible exact ih0 _ _ _ _)
      | (with_reducible exact ih1 _ _ _ _ _)
      | (with_reducible exact ih2 _ _ _ _)
      | (with_reducible exact ih3 _ _ _ _)
      | (with_reducible exact ih4 _ _ _ _ _)
      | (with_reducible exact ih5 _ _)
      | (with_reducible exact lexer_All.mono _ _)
      | (with_reducible exact wayfarerlaw08_blank.mono _ _)
      | (with_reducible exact wayfarerlaw08_known.mono _)
      | (with_reducible exact LeO.refl _)
      | (with_reducible exact LeO.none _)
      | (with_reducible refine LeO.ite ?_ ?_)
      | (with_reducible refine LeO.bind ?_ (fun _ => ?_))
      | exact ih0 _ _ _ _
      | exact ih1 _ _ _ _ _
      | exact ih2 _ _ _ _
      | exact ih3 _ _ _ _
      | exact ih4 _ _ _ _ _
      | exact ih5 _ _
      | exact lexer_All.mono _ _
      | exact wayfarerlaw08_blank.mono _ _
      | exact wayfarerlaw08_known.mono _
      | exact LeO.none _
      | refine LeO.ite ?_ ?_
      | refine LeO.bind ?_ (fun _ => ?_)
    · intro y0 y1 y2 y3
      unfold wayfarerlaw08_LexerWhole.l2
      repeat' first
      | (with_reducible exact ih0 _ _ _ _)
      | (with_reducible exact ih1 _ _ _ _ _)
      | (with_reducible exact ih2 _ _ _ _)
      | (with_reducible exact ih3 _ _ _ _)
      | (with_reducible exact ih4 _ _ _ _ _)
      | (with_reducible exact ih5 _ _)
      | (with_reducible exact lexer_All.mono _ _)
      | (with_reducible exact wayfarerlaw08_blank.mono _ _)
      | (with_reducible exact wayfarerlaw08_known.mono _)
      | (with_reducible exact LeO.refl _)
      | (with_reducible exact LeO.none _)
      | (with_reducible refine LeO.ite ?_ ?_)
      | (with_reducible refine LeO.bind ?_ (fun _ => ?_))
      | exact ih0 _ _ _ _
      | exact ih1 _ _ _ _ _
      | exact ih2 _ _ _ _
      | exact ih3 _ _ _ _
      | exact ih4 _ _ _ _ _
      | exact ih5 _ _
      | exact lexer_All.mono _ _
      | exact wayfarerlaw08_blank.mono _ _
      | exact wayfarerlaw08_known.mono _
      | exact LeO.none _
      | refine LeO.ite ?_ ?_
      | refine LeO.bind ?_ (fun _ => ?_)
    · intro y0 y1 y2 y3 y4
      unfold wayfarerlaw08_LexerWhole.j4
      repeat' first
      | (with_reducible exact ih0 _ _ _ _)
      | (with_reducible exact ih1 _ _ _ _ _)
      | (with_reducible exact ih2 _ _ _ _)
      | (with_reducible exact ih3 _ _ _ _)
      | (with_reducible exact ih4 _ _ _ _ _)
      | (with_reducible exact ih5 _ _)
      | (with_reducible exact lexer_All.mono _ _)
      | (with_reducible exact wayfarerlaw08_blank.mono _ _)
      | (with_reducible exact wayfarerlaw08_known.mono _)
      | (with_reducible exact LeO.refl _)
      | (with_reducible exact LeO.none _)
      | (with_reducible refine LeO.ite ?_ ?_)
      | (with_reducible refine LeO.bind ?_ (fun _ => ?_))
      | exact ih0 _ _ _ _
      | exact ih1 _ _ _ _ _
      | exact ih2 _ _ _ _
      | exact ih3 _ _ _ _
      | exact ih4 _ _ _ _ _
      | exact ih5 _ _
      | exact lexer_All.mono _ _
      | exact wayfarerlaw08_blank.mono _ _
      | exact wayfarerlaw08_known.mono _
      | exact LeO.none _
      | refine LeO.ite ?_ ?_
      | refine LeO.bind ?_ (fun _ => ?_)
    · intro y0 y1
      unfold wayfarerlaw08_LexerWhole.l3
      repeat' first
      | (with_reducible exact ih0 _ _ _ _)
      | (with_reducible exact ih1 _ _ _ _ _)
      | (with_reducible exact ih2 _ _ _ _)
      | (with_reducible exact ih3 _ _ _ _)
      | (with_reducible exact ih4 _ _ _ _ _)
      | (with_reducible exact ih5 _ _)
      | (with_reducible exact lexer_All.mono _ _)
      | (with_reducible exact wayfarerlaw08_blank.mono _ _)
      | (with_reducible exact wayfarerlaw08_known.mono _)
      | (with_reducible exact LeO.refl _)
      | (with_reducible exact LeO.none _)
      | (with_reducible refine LeO.ite ?_ ?_)
      | (with_reducible refine LeO.bind ?_ (fun _ => ?_))
      | exact ih0 _ _ _ _
      | exact ih1 _ _ _ _ _
      | exact ih2 _ _ _ _
      | exact ih3 _ _ _ _
      | exact ih4 _ _ _ _ _
      | exact ih5 _ _
      | exact lexer_All.mono _ _
      | exact wayfarerlaw08_blank.mono _ _
      | exact wayfarerlaw08_known.mono _
      | exact LeO.none _
      | refine LeO.ite ?_ ?_
      | refine LeO.bind ?_ (fun _ => ?_)
theorem wayfarerlaw08_LexerWhole.mono : ∀ a0 k, LeO (wayfarerlaw08_LexerWhole.f k a0) (wayfarerlaw08_LexerWhole.f (k + 1) a0) := by
  intro a0 k
  obtain ⟨ih0, ih1, ih2, ih3, ih4, ih5⟩ := wayfarerlaw08_LexerWhole.mono_l k
  unfold wayfarerlaw08_LexerWhole.f
  repeat' first
      | (with_reducible exact ih0 _ _ _ _)
      | (with_reducible exact ih1 _ _ _ _ _)
      | (with_reducible exact ih2 _ _ _ _)
      | (with_reducible exact ih3 _ _ _ _)
      | (with_reducible exact ih4 _ _ _ _ _)
      | (with_reducible exact ih5 _ _)
      | (with_reducible exact lexer_All.mono _ _)
      | (with_reducible exact wayfarerlaw08_blank.mono _ _)
      | (with_reducible exact wayfarerlaw08_known.mono _)
      | (with_reducible exact LeO.refl _)
      | (with_reducible exact LeO.none _)
      | (with_reducible refine LeO.ite ?_ ?_)
      | (with_reducible refine LeO.bind ?_ (fun _ => ?_))
      | exact ih0 _ _ _ _
      | exact ih1 _ _ _ _ _
      | exact ih2 _ _ _ _
      | exact ih3 _ _ _ _
      | exact ih4 _ _ _ _ _
      | exact ih5 _ _
      | exact lexer_All.mono _ _
      | exact wayfarerlaw08_blank.mono _ _
      | exact wayfarerlaw08_known.mono _
      | exact LeO.none _
      | refine LeO.ite ?_ ?_
      | refine LeO.bind ?_ (fun _ => ?_)
set_option maxHeartbeats 8000000 in
set_option maxRecDepth 100000 in
theorem wayfarerlaw08_LexerWhole.calls (k : Nat) (A0 : Option Addr) (c0 : Nat) (l0 : List Int) (r : Bool) (w : World) (hr0 : Kd.C (Kd.int .u8) w A0 l0.length l0) (hc0 : l0.length ≤ c0) (h : wayfarerlaw08_LexerWhole.f k l0 = some r) :
    Calls Try.prog 4 #[.slice A0 l0.length c0] w fun e w' => e = .returned (.bool r) ∧ Below w.heap.size w w' := by
  have HR0 := Aside0.mk hr0
  have HC0 := Aside0.mk hc0
  clear hr0 hc0
  have HB := Aside0.mk (Below.refl w.heap.size w)
  have H : (if (l0.length : Int) > 4000 then ((wayfarerlaw08_known.f k).bind fun t142 => (some t142)) else ((lexer_All.f k l0).bind fun bt143 => (if bt143.2.2 = 0 then (wayfarerlaw08_LexerWhole.l0 k l0 bt143.1 0 0) else (if (bt143.1.length : Int) = 0 then ((wayfarerlaw08_known.f k).bind fun t148 => (some t148)) else (some false))))) = some r := h
  clear h
  by_cases c2 : (l0.length : Int) > 4000
  · rw [if_pos c2] at H
    have c2b0 : decide (4000 < (l0.length : Int)) = true := decide_eq_true c2
    have c2b1 : decide (4000 < l0.length) = true := decide_eq_true (by omega)
    clear c2
    replace H := Option.bind_eq_some_iff.mp H
    obtain ⟨t142, A30, H⟩ := H
    replace H : (some t142) = some r := H
    have A3 := Aside0.mk A30
    clear A30
    obtain rfl := Option.some.inj H
    go_enter Try.func4, Try.ntmps4
    go_wp2_with (first | (go_at_call 9; (with_reducible refine (wayfarerlaw08_known.calls k  t142 _ A3.out).mono ?_); rintro e w4 ⟨rfl, hb⟩; have n0_ := Aside0.mk (below_step (by repeat (first | (with_reducible first | exact HB.out | apply below_alloc | apply pw_below_drewN | apply below_drew1) | exact HB.out)) hb); clear HB; have HB := n0_; clear n0_; (try clear hb); (try clear hb2); (try clear hk); (try clear hi)))
    repeat (go_quiet (first | (go_at_call 9; (with_reducible refine (wayfarerlaw08_known.calls k  t142 _ A3.out).mono ?_); rintro e w4 ⟨rfl, hb⟩; have n0_ := Aside0.mk (below_step (by repeat (first | (with_reducible first | exact HB.out | apply below_alloc | apply pw_below_drewN | apply below_drew1) | exact HB.out)) hb); clear HB; have HB := n0_; clear n0_; (try clear hb); (try clear hb2); (try clear hk); (try clear hi))); try go_wp2_with (first | (go_at_call 9; (with_reducible refine (wayfarerlaw08_known.calls k  t142 _ A3.out).mono ?_); rintro e w4 ⟨rfl, hb⟩; have n0_ := Aside0.mk (below_step (by repeat (first | (with_reducible first | exact HB.out | apply below_alloc | apply pw_below_drewN | apply below_drew1) | exact HB.out)) hb); clear HB; have HB := n0_; clear n0_; (try clear hb); (try clear hb2); (try clear hk); (try clear hi))))
    go_ret
    exact ⟨by first | rfl | (simp [errW_none, errW_some] <;> rfl) | (simp [*, errW_none, errW_some] <;> rfl), by repeat (first | (with_reducible first | exact HB.out | apply below_alloc | apply pw_below_drewN | apply below_drew1) | exact HB.out)⟩
  · rw [if_neg c2] at H
    have c2b0 : decide (4000 < (l0.length : Int)) = false := decide_eq_false c2
    have c2b1 : decide (4000 < l0.length) = false := decide_eq_false (by omega)
    clear c2
    replace H := Option.bind_eq_some_iff.mp H
    obtain ⟨⟨t143, t144, t145⟩, A50, H⟩ := H
    replace H : (if t145 = 0 then (wayfarerlaw08_LexerWhole.l0 k l0 t143 0 0) else (if (t143.length : Int) = 0 then ((wayfarerlaw08_known.f k).bind fun t148 => (some t148)) else (some false))) = some r := H
    have A5 := Aside0.mk A50
    clear A50
    by_cases c6 : t145 = 0
    · rw [if_pos c6] at H
      have c6b0 : (t145 == 0) = true := beq_iff_eq.mpr c6
      have c6b1 : (t145 != 0) = false := bne_eq_false_iff_eq.mpr c6
      clear c6
      have H' := Aside0.mk H
      clear H
      go_enter Try.func4, Try.ntmps4
      go_wp2_with (first | (go_at_call 13; (with_reducible refine (lexer_All.calls k _ _ l0 t143 t144 t145 _ ?side1 ?side2 A5.out).mono ?_); (case side1 => repeat (first | exact HR0.out | (with_reducible refine Kd.C_alloc ?_ _) | (with_reducible refine Kd.C_drewN ?_ _) | (with_reducible refine Kd.C_drew ?_))); (case side2 => exact HC0.out); rintro e w7 ⟨v146, rfl, ho0, hb⟩; have n0_ := Aside0.mk (Kd.R_lower ho0 (below_size (by repeat (first | (with_reducible first | exact HB.out | apply below_alloc | apply pw_below_drewN | apply below_drew1) | exact HB.out)))); have n1_ := Aside0.mk (below_step (by repeat (first | (with_reducible first | exact HB.out | apply below_alloc | apply pw_below_drewN | apply below_drew1) | exact HB.out)) hb); clear HB; have HO147 := n0_; have HB := n1_; clear n0_ n1_; (try clear hb); (try clear hb2); (try clear hk); (try clear hi); (try clear ho0)))
      repeat (go_quiet (first | (go_at_call 13; (with_reducible refine (lexer_All.calls k _ _ l0 t143 t144 t145 _ ?side1 ?side2 A5.out).mono ?_); (case side1 => repeat (first | exact HR0.out | (with_reducible refine Kd.C_alloc ?_ _) | (with_reducible refine Kd.C_drewN ?_ _) | (with_reducible refine Kd.C_drew ?_))); (case side2 => exact HC0.out); rintro e w7 ⟨v146, rfl, ho0, hb⟩; have n0_ := Aside0.mk (Kd.R_lower ho0 (below_size (by repeat (first | (with_reducible first | exact HB.out | apply below_alloc | apply pw_below_drewN | apply below_drew1) | exact HB.out)))); have n1_ := Aside0.mk (below_step (by repeat (first | (with_reducible first | exact HB.out | apply below_alloc | apply pw_below_drewN | apply below_drew1) | exact HB.out)) hb); clear HB; have HO147 := n0_; have HB := n1_; clear n0_ n1_; (try clear hb); (try clear hb2); (try clear hk); (try clear hi); (try clear ho0))); try go_wp2_with (first | (go_at_call 13; (with_reducible refine (lexer_All.calls k _ _ l0 t143 t144 t145 _ ?side1 ?side2 A5.out).mono ?_); (case side1 => repeat (first | exact HR0.out | (with_reducible refine Kd.C_alloc ?_ _) | (with_reducible refine Kd.C_drewN ?_ _) | (with_reducible refine Kd.C_drew ?_))); (case side2 => exact HC0.out); rintro e w7 ⟨v146, rfl, ho0, hb⟩; have n0_ := Aside0.mk (Kd.R_lower ho0 (below_size (by repeat (first | (with_reducible first | exact HB.out | apply below_alloc | apply pw_below_drewN | apply below_drew1) | exact HB.out)))); have n1_ := Aside0.mk (below_step (by repeat (first | (with_reducible first | exact HB.out | apply below_alloc | apply pw_below_drewN | apply below_drew1) | exact HB.out)) hb); clear HB; have HO147 := n0_; have HB := n1_; clear n0_ n1_; (try clear hb); (try clear hb2); (try clear hk); (try clear hi); (try clear ho0))))
      go_loopg [6, 7] k (fun kq v6 v7 w' => ∃ (x6_1 : Int) (x7_1 : Int), v6 = .int .i64 x6_1 ∧ v7 = .int .i64 x7_1 ∧ Aside0 (wayfarerlaw08_LexerWhole.l0 kq l0 t143 x6_1 x7_1 = some r) ∧ Aside0 (kq ≤ k) ∧ Aside0 (Kd.R k32 32 w' w.heap.size (fun _ => True) v146 t143) ∧ Aside0 (Below w.heap.size w w'))
      case atStart => exact ⟨(0), (0), (by first | rfl | (simp; done) | (simp [*]; done)), (by first | rfl | (simp; done) | (simp [*]; done)), H', ⟨Nat.le_refl _⟩, ⟨by (with_reducible repeat (first | apply Kd.R_alloc | apply Kd.R_drewN | apply Kd.R_drew)); exact HO147.out⟩, ⟨by repeat (first | (with_reducible first | exact HB.out | apply below_alloc | apply pw_below_drewN | apply below_drew1) | exact HB.out)⟩⟩
      case round =>
        clear H'
        try clear c2
        try clear c2b0
        try clear c2b1
        try clear p2
        try clear c4
        try clear c6
        try clear c6b0
        try clear c6b1
        obtain ⟨x6_1, x7_1, rfl, rfl, HA, HK1, HO_3, HB⟩ := hrel
        cases gk with
        | zero => exact absurd HA.out (by simp [wayfarerlaw08_LexerWhole.l0])
        | succ k1 =>
          have H := HA.out
          clear HA
          simp only [wayfarerlaw08_LexerWhole.l0] at H
          by_cases c8 : x7_1 < (t143.length : Int)
          · rw [if_pos c8] at H
            have c8b0 : decide (x7_1 < (t143.length : Int)) = true := decide_eq_true c8
            clear c8
            have HC9 := Aside0.mk H
            clear H
            obtain ⟨Ao10, co10, eo10⟩ := Kd.R_slice HO_3.out
            subst eo10
            go_upto_region 10 with (fail)
            repeat (go_quiet (fail); go_upto_region 10 with (fail))
            go_cut [65] (fun v65 wc => ∃ (kq : Nat) (x65_8 : Bool), v65 = .bool x65_8 ∧ Aside0 (wayfarerlaw08_LexerWhole.j1 kq l0 t143 x6_1 x7_1 x65_8 = some r) ∧ Aside0 (kq ≤ k1) ∧ Aside0 (Kd.R k32 32 wc w.heap.size (fun _ => True) (.slice Ao10 t143.length co10) t143) ∧ Aside0 (Below w.heap.size w wc))
            case first =>
              have H := HC9.out
              clear HC9
              by_cases c11 : 0 ≤ x7_1
              · rw [if_pos c11] at H
                have c11b0 : decide (0 ≤ x7_1) = true := decide_eq_true c11
                clear c11
                (first | rw [c11b0] | (simp only [i64_w, i32_w]; rw [c11b0]) | skip)
                by_cases c12 : ((rd_T32 t143 x7_1).f1) < x6_1
                · rw [if_pos c12] at H
                  have c12b0 : decide (((rd_T32 t143 x7_1).f1) < x6_1) = true := decide_eq_true c12
                  clear c12
                  have H' := Aside0.mk H
                  clear H
                  have p149 : 0 ≤ (x7_1 : Int) := of_decide_eq_true (by first | (with_reducible assumption) | assumption)
                  have q149 : x7_1 < (t143.length : Int) := of_decide_eq_true (by first | (with_reducible assumption) | assumption)
                  obtain ⟨ad149, e149, hx149_0, hx149_1, hx149_2, hx149_3⟩ := at_T32 (Kd.R_reads' HO_3.out).2.2 x7_1 p149 q149
                  cases e149
                  replace p149 := eq_true p149
                  replace q149 := eq_true q149
                  go_wp2
                  repeat (go_quiet (fail); try go_wp2)
                  go_meet
                  case rel => exact ⟨_, (true), (by first | rfl | (simp; done) | (simp [*]; done)), H', ⟨by have := HK1.out; first | omega | exact Nat.le_refl _⟩, ⟨by (with_reducible repeat (first | apply Kd.R_alloc | apply Kd.R_drewN | apply Kd.R_drew)); exact HO_3.out⟩, ⟨by repeat (first | (with_reducible first | exact HB.out | apply below_alloc | apply pw_below_drewN | apply below_drew1) | exact HB.out)⟩⟩
                · rw [if_neg c12] at H
                  have c12b0 : decide (((rd_T32 t143 x7_1).f1) < x6_1) = false := decide_eq_false c12
                  clear c12
                  by_cases c13 : ((rd_T32 t143 x7_1).f1) ≥ (l0.length : Int)
                  · rw [if_pos c13] at H
                    have c13b0 : decide ((l0.length : Int) ≤ ((rd_T32 t143 x7_1).f1)) = true := decide_eq_true c13
                    clear c13
                    have H' := Aside0.mk H
                    clear H
                    have p149 : 0 ≤ (x7_1 : Int) := of_decide_eq_true (by first | (with_reducible assumption) | assumption)
                    have q149 : x7_1 < (t143.length : Int) := of_decide_eq_true (by first | (with_reducible assumption) | assumption)
                    obtain ⟨ad149, e149, hx149_0, hx149_1, hx149_2, hx149_3⟩ := at_T32 (Kd.R_reads' HO_3.out).2.2 x7_1 p149 q149
                    cases e149
                    replace p149 := eq_true p149
                    replace q149 := eq_true q149
                    have p150 : 0 ≤ (x7_1 : Int) := of_decide_eq_true (by first | (with_reducible assumption) | assumption)
                    have q150 : x7_1 < (t143.length : Int) := of_decide_eq_true (by first | (with_reducible assumption) | assumption)
                    obtain ⟨ad150, e150, hx150_0, hx150_1, hx150_2, hx150_3⟩ := at_T32 (Kd.R_reads' HO_3.out).2.2 x7_1 p150 q150
                    obtain rfl : ad149 = ad150 := (by injection e150)
                    replace p150 := eq_true p150
                    replace q150 := eq_true q150
                    go_wp2
                    repeat (go_quiet (fail); try go_wp2)
                    go_meet
                    case rel => exact ⟨_, (true), (by first | rfl | (simp; done) | (simp [*]; done)), H', ⟨by have := HK1.out; first | omega | exact Nat.le_refl _⟩, ⟨by (with_reducible repeat (first | apply Kd.R_alloc | apply Kd.R_drewN | apply Kd.R_drew)); exact HO_3.out⟩, ⟨by repeat (first | (with_reducible first | exact HB.out | apply below_alloc | apply pw_below_drewN | apply below_drew1) | exact HB.out)⟩⟩
                  · rw [if_neg c13] at H
                    have c13b0 : decide ((l0.length : Int) ≤ ((rd_T32 t143 x7_1).f1)) = false := decide_eq_false c13
                    clear c13
                    by_cases c14 : ((rd_T32 t143 x7_1).f0) < 1
                    · rw [if_pos c14] at H
                      have c14b0 : decide (((rd_T32 t143 x7_1).f0) < 1) = true := decide_eq_true c14
                      clear c14
                      have H' := Aside0.mk H
                      clear H
                      have p149 : 0 ≤ (x7_1 : Int) := of_decide_eq_true (by first | (with_reducible assumption) | assumption)
                      have q149 : x7_1 < (t143.length : Int) := of_decide_eq_true (by first | (with_reducible assumption) | assumption)
                      obtain ⟨ad149, e149, hx149_0, hx149_1, hx149_2, hx149_3⟩ := at_T32 (Kd.R_reads' HO_3.out).2.2 x7_1 p149 q149
                      cases e149
                      replace p149 := eq_true p149
                      replace q149 := eq_true q149
                      have p150 : 0 ≤ (x7_1 : Int) := of_decide_eq_true (by first | (with_reducible assumption) | assumption)
                      have q150 : x7_1 < (t143.length : Int) := of_decide_eq_true (by first | (with_reducible assumption) | assumption)
                      obtain ⟨ad150, e150, hx150_0, hx150_1, hx150_2, hx150_3⟩ := at_T32 (Kd.R_reads' HO_3.out).2.2 x7_1 p150 q150
                      obtain rfl : ad149 = ad150 := (by injection e150)
                      replace p150 := eq_true p150
                      replace q150 := eq_true q150
                      have p151 : 0 ≤ (x7_1 : Int) := of_decide_eq_true (by first | (with_reducible assumption) | assumption)
                      have q151 : x7_1 < (t143.length : Int) := of_decide_eq_true (by first | (with_reducible assumption) | assumption)
                      obtain ⟨ad151, e151, hx151_0, hx151_1, hx151_2, hx151_3⟩ := at_T32 (Kd.R_reads' HO_3.out).2.2 x7_1 p151 q151
                      obtain rfl : ad149 = ad151 := (by injection e151)
                      replace p151 := eq_true p151
                      replace q151 := eq_true q151
                      go_wp2
                      repeat (go_quiet (fail); try go_wp2)
                      go_meet
                      case rel => exact ⟨_, (true), (by first | rfl | (simp; done) | (simp [*]; done)), H', ⟨by have := HK1.out; first | omega | exact Nat.le_refl _⟩, ⟨by (with_reducible repeat (first | apply Kd.R_alloc | apply Kd.R_drewN | apply Kd.R_drew)); exact HO_3.out⟩, ⟨by repeat (first | (with_reducible first | exact HB.out | apply below_alloc | apply pw_below_drewN | apply below_drew1) | exact HB.out)⟩⟩
                    · rw [if_neg c14] at H
                      have c14b0 : decide (((rd_T32 t143 x7_1).f0) < 1) = false := decide_eq_false c14
                      clear c14
                      have H' := Aside0.mk H
                      clear H
                      have p149 : 0 ≤ (x7_1 : Int) := of_decide_eq_true (by first | (with_reducible assumption) | assumption)
                      have q149 : x7_1 < (t143.length : Int) := of_decide_eq_true (by first | (with_reducible assumption) | assumption)
                      obtain ⟨ad149, e149, hx149_0, hx149_1, hx149_2, hx149_3⟩ := at_T32 (Kd.R_reads' HO_3.out).2.2 x7_1 p149 q149
                      cases e149
                      replace p149 := eq_true p149
                      replace q149 := eq_true q149
                      have p150 : 0 ≤ (x7_1 : Int) := of_decide_eq_true (by first | (with_reducible assumption) | assumption)
                      have q150 : x7_1 < (t143.length : Int) := of_decide_eq_true (by first | (with_reducible assumption) | assumption)
                      obtain ⟨ad150, e150, hx150_0, hx150_1, hx150_2, hx150_3⟩ := at_T32 (Kd.R_reads' HO_3.out).2.2 x7_1 p150 q150
                      obtain rfl : ad149 = ad150 := (by injection e150)
                      replace p150 := eq_true p150
                      replace q150 := eq_true q150
                      have p151 : 0 ≤ (x7_1 : Int) := of_decide_eq_true (by first | (with_reducible assumption) | assumption)
                      have q151 : x7_1 < (t143.length : Int) := of_decide_eq_true (by first | (with_reducible assumption) | assumption)
                      obtain ⟨ad151, e151, hx151_0, hx151_1, hx151_2, hx151_3⟩ := at_T32 (Kd.R_reads' HO_3.out).2.2 x7_1 p151 q151
                      obtain rfl : ad149 = ad151 := (by injection e151)
                      replace p151 := eq_true p151
                      replace q151 := eq_true q151
                      have p152 : 0 ≤ (x7_1 : Int) := of_decide_eq_true (by first | (with_reducible assumption) | assumption)
                      have q152 : x7_1 < (t143.length : Int) := of_decide_eq_true (by first | (with_reducible assumption) | assumption)
                      obtain ⟨ad152, e152, hx152_0, hx152_1, hx152_2, hx152_3⟩ := at_T32 (Kd.R_reads' HO_3.out).2.2 x7_1 p152 q152
                      obtain rfl : ad149 = ad152 := (by injection e152)
                      replace p152 := eq_true p152
                      replace q152 := eq_true q152
                      go_wp2
                      repeat (go_quiet (fail); try go_wp2)
                      go_meet
                      case rel => exact ⟨_, (decide (((rd_T32 t143 x7_1).f0) > 4)), (by first | rfl | (simp; done) | (simp [*]; done)), H', ⟨by have := HK1.out; first | omega | exact Nat.le_refl _⟩, ⟨by (with_reducible repeat (first | apply Kd.R_alloc | apply Kd.R_drewN | apply Kd.R_drew)); exact HO_3.out⟩, ⟨by repeat (first | (with_reducible first | exact HB.out | apply below_alloc | apply pw_below_drewN | apply below_drew1) | exact HB.out)⟩⟩
              · rw [if_neg c11] at H
                exact absurd H (by simp)
            case rest =>
              clear HC9
              try clear c1
              try clear p1
              try clear q1
              try clear hx1
              try clear c2
              try clear c2b0
              try clear c2b1
              try clear p2
              try clear c4
              try clear c6
              try clear c6b0
              try clear c6b1
              try clear c8
              try clear c8b0
              try clear c11
              try clear c11b0
              try clear c12
              try clear c12b0
              try clear c13
              try clear c13b0
              try clear c14
              try clear c14b0
              try clear p14
              try clear q14
              try clear hx14
              try clear hx149_0
              try clear hx149_1
              try clear hx149_2
              try clear hx149_3
              try clear hx150_0
              try clear hx150_1
              try clear hx150_2
              try clear hx150_3
              try clear hx151_0
              try clear hx151_1
              try clear hx151_2
              try clear hx151_3
              try clear hx152_0
              try clear hx152_1
              try clear hx152_2
              try clear hx152_3
              try clear p149
              try clear p150
              try clear p151
              try clear p152
              try clear p2
              try clear q149
              try clear q150
              try clear q151
              try clear q152
              obtain ⟨kq, x65_8, rfl, HA, HJ8, HO_3, HB⟩ := hcut
              cases kq with
              | zero => exact absurd HA.out (by simp [wayfarerlaw08_LexerWhole.j1])
              | succ kj8 =>
                have H := HA.out
                clear HA
                simp only [wayfarerlaw08_LexerWhole.j1] at H
                by_cases c15 : x65_8 = true
                · subst c15
                  have H1 : (some false) = some r := by rw [if_pos rfl] at H; exact H
                  clear H
                  have H := H1
                  clear H1
                  obtain rfl := Option.some.inj H
                  go_wp2
                  repeat (go_quiet (fail); try go_wp2)
                  go_ret
                  exact ⟨by first | rfl | (simp [errW_none, errW_some] <;> rfl) | (simp [*, errW_none, errW_some] <;> rfl), by repeat (first | (with_reducible first | exact HB.out | apply below_alloc | apply pw_below_drewN | apply below_drew1) | exact HB.out)⟩
                · replace c15 := Bool.eq_false_iff.mpr c15
                  subst c15
                  have H1 : (wayfarerlaw08_LexerWhole.l1 kj8 l0 t143 x6_1 x7_1) = some r := by rw [if_neg (show ¬ (false = true) by decide)] at H; exact H
                  clear H
                  have H := H1
                  clear H1
                  have H' := Aside0.mk H
                  clear H
                  go_wp2
                  repeat (go_quiet (fail); try go_wp2)
                  go_loopg [6] kj8 (fun kq v6 w' => ∃ (x6_3 : Int), v6 = .int .i64 x6_3 ∧ Aside0 (wayfarerlaw08_LexerWhole.l1 kq l0 t143 x6_3 x7_1 = some r) ∧ Aside0 (kq ≤ kj8) ∧ Aside0 (Kd.R k32 32 w' w.heap.size (fun _ => True) (.slice Ao10 t143.length co10) t143) ∧ Aside0 (Below w.heap.size w w'))
                  case atStart => exact ⟨(x6_1), (by first | rfl | (simp; done) | (simp [*]; done)), H', ⟨Nat.le_refl _⟩, ⟨by (with_reducible repeat (first | apply Kd.R_alloc | apply Kd.R_drewN | apply Kd.R_drew)); exact HO_3.out⟩, ⟨by repeat (first | (with_reducible first | exact HB.out | apply below_alloc | apply pw_below_drewN | apply below_drew1) | exact HB.out)⟩⟩
                  case round =>
                    clear H'
                    try clear c1
                    try clear p1
                    try clear q1
                    try clear hx1
                    try clear c2
                    try clear c2b0
                    try clear c2b1
                    try clear p2
                    try clear c4
                    try clear c6
                    try clear c6b0
                    try clear c6b1
                    try clear c8
                    try clear c8b0
                    try clear c11
                    try clear c11b0
                    try clear c12
                    try clear c12b0
                    try clear c13
                    try clear c13b0
                    try clear c14
                    try clear c14b0
                    try clear p14
                    try clear q14
                    try clear hx14
                    try clear c15
                    try clear p15
                    try clear q15
                    try clear hx15
                    try clear hx149_0
                    try clear hx149_1
                    try clear hx149_2
                    try clear hx149_3
                    try clear hx150_0
                    try clear hx150_1
                    try clear hx150_2
                    try clear hx150_3
                    try clear hx151_0
                    try clear hx151_1
                    try clear hx151_2
                    try clear hx151_3
                    try clear hx152_0
                    try clear hx152_1
                    try clear hx152_2
                    try clear hx152_3
                    try clear p1
                    try clear p14
                    try clear p149
                    try clear p150
                    try clear p151
                    try clear p152
                    try clear p2
                    try clear q1
                    try clear q14
                    try clear q149
                    try clear q150
                    try clear q151
                    try clear q152
                    obtain ⟨x6_3, rfl, HA, HK3, HO_3, HB⟩ := hrel
                    cases gk with
                    | zero => exact absurd HA.out (by simp [wayfarerlaw08_LexerWhole.l1])
                    | succ k3 =>
                      have H := HA.out
                      clear HA
                      simp only [wayfarerlaw08_LexerWhole.l1] at H
                      by_cases c16 : 0 ≤ x7_1
                      · rw [if_pos c16] at H
                        have c16b0 : decide (0 ≤ x7_1) = true := decide_eq_true c16
                        clear c16
                        by_cases c17 : x7_1 < (t143.length : Int)
                        · rw [if_pos c17] at H
                          have c17b0 : decide (x7_1 < (t143.length : Int)) = true := decide_eq_true c17
                          clear c17
                          by_cases c18 : x6_3 < ((rd_T32 t143 x7_1).f1)
                          · rw [if_pos c18] at H
                            have c18b0 : decide (x6_3 < ((rd_T32 t143 x7_1).f1)) = true := decide_eq_true c18
                            clear c18
                            by_cases c19 : 0 ≤ x6_3
                            · rw [if_pos c19] at H
                              have c19b0 : decide (0 ≤ x6_3) = true := decide_eq_true c19
                              clear c19
                              by_cases c20 : x6_3 < (l0.length : Int)
                              · rw [if_pos c20] at H
                                have c20b0 : decide (x6_3 < (l0.length : Int)) = true := decide_eq_true c20
                                clear c20
                                replace H := Option.bind_eq_some_iff.mp H
                                obtain ⟨t155, A210, H⟩ := H
                                replace H : (if t155 = true then (wayfarerlaw08_LexerWhole.l1 k3 l0 t143 (wrap64 (x6_3 + 1)) x7_1) else (some false)) = some r := H
                                have A21 := Aside0.mk A210
                                clear A210
                                by_cases c22 : t155 = true
                                · subst c22
                                  have H1 : (wayfarerlaw08_LexerWhole.l1 k3 l0 t143 (wrap64 (x6_3 + 1)) x7_1) = some r := by rw [if_pos rfl] at H; exact H
                                  clear H
                                  have H := H1
                                  clear H1
                                  have H' := Aside0.mk H
                                  clear H
                                  have p153 : 0 ≤ (x7_1 : Int) := of_decide_eq_true (by first | (with_reducible assumption) | assumption)
                                  have q153 : x7_1 < (t143.length : Int) := of_decide_eq_true (by first | (with_reducible assumption) | assumption)
                                  obtain ⟨ad153, e153, hx153_0, hx153_1, hx153_2, hx153_3⟩ := at_T32 (Kd.R_reads' HO_3.out).2.2 x7_1 p153 q153
                                  cases e153
                                  replace p153 := eq_true p153
                                  replace q153 := eq_true q153
                                  have p154 : 0 ≤ (x6_3 : Int) := of_decide_eq_true (by first | (with_reducible assumption) | assumption)
                                  have q154 : x6_3 < (l0.length : Int) := of_decide_eq_true (by first | (with_reducible assumption) | assumption)
                                  obtain ⟨ad154, e154, hx154_0⟩ := Kd.at_int HR0.out x6_3 p154 q154
                                  cases e154
                                  replace hx154_0 := (HB.out.cell (World.block_lt_of_cell? w _ hx154_0)).trans hx154_0
                                  replace p154 := eq_true p154
                                  replace q154 := eq_true q154
                                  go_wp2_with (first | (go_at_call 14; (with_reducible refine (wayfarerlaw08_blank.calls k3 (rd l0 x6_3) true _ A21.out).mono ?_); rintro e w23 ⟨rfl, hb⟩; have n0_ := Aside0.mk (Kd.R_below (by (with_reducible repeat (first | apply Kd.R_alloc | apply Kd.R_drewN | apply Kd.R_drew)); exact HO_3.out) hb); have n1_ := Aside0.mk (below_step (by repeat (first | (with_reducible first | exact HB.out | apply below_alloc | apply pw_below_drewN | apply below_drew1) | exact HB.out)) hb); clear HO_3; clear HB; have HO_3 := n0_; have HB := n1_; clear n0_ n1_; (try clear hb); (try clear hb2); (try clear hk); (try clear hi)))
                                  repeat (go_quiet (first | (go_at_call 14; (with_reducible refine (wayfarerlaw08_blank.calls k3 (rd l0 x6_3) true _ A21.out).mono ?_); rintro e w23 ⟨rfl, hb⟩; have n0_ := Aside0.mk (Kd.R_below (by (with_reducible repeat (first | apply Kd.R_alloc | apply Kd.R_drewN | apply Kd.R_drew)); exact HO_3.out) hb); have n1_ := Aside0.mk (below_step (by repeat (first | (with_reducible first | exact HB.out | apply below_alloc | apply pw_below_drewN | apply below_drew1) | exact HB.out)) hb); clear HO_3; clear HB; have HO_3 := n0_; have HB := n1_; clear n0_ n1_; (try clear hb); (try clear hb2); (try clear hk); (try clear hi))); try go_wp2_with (first | (go_at_call 14; (with_reducible refine (wayfarerlaw08_blank.calls k3 (rd l0 x6_3) true _ A21.out).mono ?_); rintro e w23 ⟨rfl, hb⟩; have n0_ := Aside0.mk (Kd.R_below (by (with_reducible repeat (first | apply Kd.R_alloc | apply Kd.R_drewN | apply Kd.R_drew)); exact HO_3.out) hb); have n1_ := Aside0.mk (below_step (by repeat (first | (with_reducible first | exact HB.out | apply below_alloc | apply pw_below_drewN | apply below_drew1) | exact HB.out)) hb); clear HO_3; clear HB; have HO_3 := n0_; have HB := n1_; clear n0_ n1_; (try clear hb); (try clear hb2); (try clear hk); (try clear hi))))
                                  go_roundg k3
                                  case measure => have := HK1.out; have := HJ8.out; have := HK3.out; omega
                                  case rel => exact ⟨(wrap64 (x6_3 + 1)), (by first | rfl | (simp; done) | (simp [*]; done)), H', ⟨by have := HK1.out; have := HJ8.out; have := HK3.out; omega⟩, ⟨by (with_reducible repeat (first | apply Kd.R_alloc | apply Kd.R_drewN | apply Kd.R_drew)); exact HO_3.out⟩, ⟨by repeat (first | (with_reducible first | exact HB.out | apply below_alloc | apply pw_below_drewN | apply below_drew1) | exact HB.out)⟩⟩
                                · replace c22 := Bool.eq_false_iff.mpr c22
                                  subst c22
                                  have H1 : (some false) = some r := by rw [if_neg (show ¬ (false = true) by decide)] at H; exact H
                                  clear H
                                  have H := H1
                                  clear H1
                                  obtain rfl := Option.some.inj H
                                  have p153 : 0 ≤ (x7_1 : Int) := of_decide_eq_true (by first | (with_reducible assumption) | assumption)
                                  have q153 : x7_1 < (t143.length : Int) := of_decide_eq_true (by first | (with_reducible assumption) | assumption)
                                  obtain ⟨ad153, e153, hx153_0, hx153_1, hx153_2, hx153_3⟩ := at_T32 (Kd.R_reads' HO_3.out).2.2 x7_1 p153 q153
                                  cases e153
                                  replace p153 := eq_true p153
                                  replace q153 := eq_true q153
                                  have p154 : 0 ≤ (x6_3 : Int) := of_decide_eq_true (by first | (with_reducible assumption) | assumption)
                                  have q154 : x6_3 < (l0.length : Int) := of_decide_eq_true (by first | (with_reducible assumption) | assumption)
                                  obtain ⟨ad154, e154, hx154_0⟩ := Kd.at_int HR0.out x6_3 p154 q154
                                  cases e154
                                  replace hx154_0 := (HB.out.cell (World.block_lt_of_cell? w _ hx154_0)).trans hx154_0
                                  replace p154 := eq_true p154
                                  replace q154 := eq_true q154
                                  go_wp2_with (first | (go_at_call 14; (with_reducible refine (wayfarerlaw08_blank.calls k3 (rd l0 x6_3) false _ A21.out).mono ?_); rintro e w24 ⟨rfl, hb⟩; have n0_ := Aside0.mk (Kd.R_below (by (with_reducible repeat (first | apply Kd.R_alloc | apply Kd.R_drewN | apply Kd.R_drew)); exact HO_3.out) hb); have n1_ := Aside0.mk (below_step (by repeat (first | (with_reducible first | exact HB.out | apply below_alloc | apply pw_below_drewN | apply below_drew1) | exact HB.out)) hb); clear HO_3; clear HB; have HO_3 := n0_; have HB := n1_; clear n0_ n1_; (try clear hb); (try clear hb2); (try clear hk); (try clear hi)))
                                  repeat (go_quiet (first | (go_at_call 14; (with_reducible refine (wayfarerlaw08_blank.calls k3 (rd l0 x6_3) false _ A21.out).mono ?_); rintro e w24 ⟨rfl, hb⟩; have n0_ := Aside0.mk (Kd.R_below (by (with_reducible repeat (first | apply Kd.R_alloc | apply Kd.R_drewN | apply Kd.R_drew)); exact HO_3.out) hb); have n1_ := Aside0.mk (below_step (by repeat (first | (with_reducible first | exact HB.out | apply below_alloc | apply pw_below_drewN | apply below_drew1) | exact HB.out)) hb); clear HO_3; clear HB; have HO_3 := n0_; have HB := n1_; clear n0_ n1_; (try clear hb); (try clear hb2); (try clear hk); (try clear hi))); try go_wp2_with (first | (go_at_call 14; (with_reducible refine (wayfarerlaw08_blank.calls k3 (rd l0 x6_3) false _ A21.out).mono ?_); rintro e w24 ⟨rfl, hb⟩; have n0_ := Aside0.mk (Kd.R_below (by (with_reducible repeat (first | apply Kd.R_alloc | apply Kd.R_drewN | apply Kd.R_drew)); exact HO_3.out) hb); have n1_ := Aside0.mk (below_step (by repeat (first | (with_reducible first | exact HB.out | apply below_alloc | apply pw_below_drewN | apply below_drew1) | exact HB.out)) hb); clear HO_3; clear HB; have HO_3 := n0_; have HB := n1_; clear n0_ n1_; (try clear hb); (try clear hb2); (try clear hk); (try clear hi))))
                                  go_ret
                                  exact ⟨by first | rfl | (simp [errW_none, errW_some] <;> rfl) | (simp [*, errW_none, errW_some] <;> rfl), by repeat (first | (with_reducible first | exact HB.out | apply below_alloc | apply pw_below_drewN | apply below_drew1) | exact HB.out)⟩
                              · rw [if_neg c20] at H
                                exact absurd H (by simp)
                            · rw [if_neg c19] at H
                              exact absurd H (by simp)
                          · rw [if_neg c18] at H
                            have c18b0 : decide (x6_3 < ((rd_T32 t143 x7_1).f1)) = false := decide_eq_false c18
                            clear c18
                            by_cases c25 : ((rd_T32 t143 x7_1).f0) = 3
                            · rw [if_pos c25] at H
                              have c25b0 : (((rd_T32 t143 x7_1).f0) == 3) = true := beq_iff_eq.mpr c25
                              have c25b1 : (((rd_T32 t143 x7_1).f0) != 3) = false := bne_eq_false_iff_eq.mpr c25
                              clear c25
                              have H' := Aside0.mk H
                              clear H
                              have p153 : 0 ≤ (x7_1 : Int) := of_decide_eq_true (by first | (with_reducible assumption) | assumption)
                              have q153 : x7_1 < (t143.length : Int) := of_decide_eq_true (by first | (with_reducible assumption) | assumption)
                              obtain ⟨ad153, e153, hx153_0, hx153_1, hx153_2, hx153_3⟩ := at_T32 (Kd.R_reads' HO_3.out).2.2 x7_1 p153 q153
                              cases e153
                              replace p153 := eq_true p153
                              replace q153 := eq_true q153
                              have p156 : 0 ≤ (x7_1 : Int) := of_decide_eq_true (by first | (with_reducible assumption) | assumption)
                              have q156 : x7_1 < (t143.length : Int) := of_decide_eq_true (by first | (with_reducible assumption) | assumption)
                              obtain ⟨ad156, e156, hx156_0, hx156_1, hx156_2, hx156_3⟩ := at_T32 (Kd.R_reads' HO_3.out).2.2 x7_1 p156 q156
                              obtain rfl : ad153 = ad156 := (by injection e156)
                              replace p156 := eq_true p156
                              replace q156 := eq_true q156
                              go_wp2
                              repeat (go_quiet (fail); try go_wp2)
                              go_loopg [6] k3 (fun kq v6 w' => ∃ (x6_4 : Int), v6 = .int .i64 x6_4 ∧ Aside0 (wayfarerlaw08_LexerWhole.l2 kq l0 t143 x6_4 x7_1 = some r) ∧ Aside0 (kq ≤ k3) ∧ Aside0 (Kd.R k32 32 w' w.heap.size (fun _ => True) (.slice (some ad153) t143.length co10) t143) ∧ Aside0 (Below w.heap.size w w'))
                              case atStart => exact ⟨(wrap64 (x6_3 + 1)), (by first | rfl | (simp; done) | (simp [*]; done)), H', ⟨Nat.le_refl _⟩, ⟨by (with_reducible repeat (first | apply Kd.R_alloc | apply Kd.R_drewN | apply Kd.R_drew)); exact HO_3.out⟩, ⟨by repeat (first | (with_reducible first | exact HB.out | apply below_alloc | apply pw_below_drewN | apply below_drew1) | exact HB.out)⟩⟩
                              case round =>
                                clear H'
                                try clear c1
                                try clear p1
                                try clear q1
                                try clear hx1
                                try clear c2
                                try clear c2b0
                                try clear c2b1
                                try clear p2
                                try clear c4
                                try clear c6
                                try clear c6b0
                                try clear c6b1
                                try clear p6
                                try clear c8
                                try clear c8b0
                                try clear c11
                                try clear c11b0
                                try clear c12
                                try clear c12b0
                                try clear c13
                                try clear c13b0
                                try clear c14
                                try clear c14b0
                                try clear p14
                                try clear q14
                                try clear hx14
                                try clear c15
                                try clear p15
                                try clear q15
                                try clear hx15
                                try clear c16
                                try clear c16b0
                                try clear c17
                                try clear c17b0
                                try clear c18
                                try clear c18b0
                                try clear c19
                                try clear c19b0
                                try clear c20
                                try clear c20b0
                                try clear c22
                                try clear c25
                                try clear c25b0
                                try clear c25b1
                                try clear hx149_0
                                try clear hx149_1
                                try clear hx149_2
                                try clear hx149_3
                                try clear hx150_0
                                try clear hx150_1
                                try clear hx150_2
                                try clear hx150_3
                                try clear hx151_0
                                try clear hx151_1
                                try clear hx151_2
                                try clear hx151_3
                                try clear hx152_0
                                try clear hx152_1
                                try clear hx152_2
                                try clear hx152_3
                                try clear hx153_0
                                try clear hx153_1
                                try clear hx153_2
                                try clear hx153_3
                                try clear hx154_0
                                try clear hx156_0
                                try clear hx156_1
                                try clear hx156_2
                                try clear hx156_3
                                try clear p1
                                try clear p14
                                try clear p149
                                try clear p15
                                try clear p150
                                try clear p151
                                try clear p152
                                try clear p153
                                try clear p154
                                try clear p156
                                try clear p2
                                try clear q1
                                try clear q14
                                try clear q149
                                try clear q15
                                try clear q150
                                try clear q151
                                try clear q152
                                try clear q153
                                try clear q154
                                try clear q156
                                obtain ⟨x6_4, rfl, HA, HK4, HO_3, HB⟩ := hrel
                                cases gk with
                                | zero => exact absurd HA.out (by simp [wayfarerlaw08_LexerWhole.l2])
                                | succ k4 =>
                                  have H := HA.out
                                  clear HA
                                  simp only [wayfarerlaw08_LexerWhole.l2] at H
                                  have HC26 := Aside0.mk H
                                  clear H
                                  go_upto_region 22 with (fail)
                                  repeat (go_quiet (fail); go_upto_region 22 with (fail))
                                  go_cut [133] (fun v133 wc => ∃ (kq : Nat) (x133_25 : Bool), v133 = .bool x133_25 ∧ Aside0 (wayfarerlaw08_LexerWhole.j4 kq l0 t143 x6_4 x7_1 x133_25 = some r) ∧ Aside0 (kq ≤ k4) ∧ Aside0 (Kd.R k32 32 wc w.heap.size (fun _ => True) (.slice (some ad153) t143.length co10) t143) ∧ Aside0 (Below w.heap.size w wc))
                                  case first =>
                                    have H := HC26.out
                                    clear HC26
                                    by_cases c27 : x6_4 < (l0.length : Int)
                                    · rw [if_pos c27] at H
                                      have c27b0 : decide (x6_4 < (l0.length : Int)) = true := decide_eq_true c27
                                      clear c27
                                      (first | rw [c27b0] | (simp only [i64_w, i32_w]; rw [c27b0]) | skip)
                                      by_cases c28 : 0 ≤ x6_4
                                      · rw [if_pos c28] at H
                                        have c28b0 : decide (0 ≤ x6_4) = true := decide_eq_true c28
                                        clear c28
                                        have H' := Aside0.mk H
                                        clear H
                                        have p160 : 0 ≤ (x6_4 : Int) := of_decide_eq_true (by first | (with_reducible assumption) | assumption)
                                        have q160 : x6_4 < (l0.length : Int) := of_decide_eq_true (by first | (with_reducible assumption) | assumption)
                                        obtain ⟨ad160, e160, hx160_0⟩ := Kd.at_int HR0.out x6_4 p160 q160
                                        cases e160
                                        replace hx160_0 := (HB.out.cell (World.block_lt_of_cell? w _ hx160_0)).trans hx160_0
                                        replace p160 := eq_true p160
                                        replace q160 := eq_true q160
                                        go_wp2
                                        repeat (go_quiet (fail); try go_wp2)
                                        go_meet
                                        case rel => exact ⟨_, (((rd l0 x6_4) != 39)), (by first | rfl | (simp; done) | (simp [*]; done)), H', ⟨by have := HK1.out; have := HJ8.out; have := HK3.out; have := HK4.out; first | omega | exact Nat.le_refl _⟩, ⟨by (with_reducible repeat (first | apply Kd.R_alloc | apply Kd.R_drewN | apply Kd.R_drew)); exact HO_3.out⟩, ⟨by repeat (first | (with_reducible first | exact HB.out | apply below_alloc | apply pw_below_drewN | apply below_drew1) | exact HB.out)⟩⟩
                                      · rw [if_neg c28] at H
                                        exact absurd H (by simp)
                                    · rw [if_neg c27] at H
                                      have c27b0 : decide (x6_4 < (l0.length : Int)) = false := decide_eq_false c27
                                      clear c27
                                      (first | rw [c27b0] | (simp only [i64_w, i32_w]; rw [c27b0]) | skip)
                                      have H' := Aside0.mk H
                                      clear H
                                      go_wp2
                                      repeat (go_quiet (fail); try go_wp2)
                                      go_meet
                                      case rel => exact ⟨_, (false), (by first | rfl | (simp; done) | (simp [*]; done)), H', ⟨by have := HK1.out; have := HJ8.out; have := HK3.out; have := HK4.out; first | omega | exact Nat.le_refl _⟩, ⟨by (with_reducible repeat (first | apply Kd.R_alloc | apply Kd.R_drewN | apply Kd.R_drew)); exact HO_3.out⟩, ⟨by repeat (first | (with_reducible first | exact HB.out | apply below_alloc | apply pw_below_drewN | apply below_drew1) | exact HB.out)⟩⟩
                                  case rest =>
                                    clear HC26
                                    try clear c1
                                    try clear p1
                                    try clear q1
                                    try clear hx1
                                    try clear c2
                                    try clear c2b0
                                    try clear c2b1
                                    try clear p2
                                    try clear c4
                                    try clear c6
                                    try clear c6b0
                                    try clear c6b1
                                    try clear p6
                                    try clear c8
                                    try clear c8b0
                                    try clear c11
                                    try clear c11b0
                                    try clear c12
                                    try clear c12b0
                                    try clear c13
                                    try clear c13b0
                                    try clear c14
                                    try clear c14b0
                                    try clear p14
                                    try clear q14
                                    try clear hx14
                                    try clear c15
                                    try clear p15
                                    try clear q15
                                    try clear hx15
                                    try clear c16
                                    try clear c16b0
                                    try clear p16
                                    try clear q16
                                    try clear hx16
                                    try clear c17
                                    try clear c17b0
                                    try clear c18
                                    try clear c18b0
                                    try clear c19
                                    try clear c19b0
                                    try clear c20
                                    try clear c20b0
                                    try clear c22
                                    try clear c25
                                    try clear c25b0
                                    try clear c25b1
                                    try clear c27
                                    try clear c27b0
                                    try clear c28
                                    try clear c28b0
                                    try clear hx149_0
                                    try clear hx149_1
                                    try clear hx149_2
                                    try clear hx149_3
                                    try clear hx150_0
                                    try clear hx150_1
                                    try clear hx150_2
                                    try clear hx150_3
                                    try clear hx151_0
                                    try clear hx151_1
                                    try clear hx151_2
                                    try clear hx151_3
                                    try clear hx152_0
                                    try clear hx152_1
                                    try clear hx152_2
                                    try clear hx152_3
                                    try clear hx153_0
                                    try clear hx153_1
                                    try clear hx153_2
                                    try clear hx153_3
                                    try clear hx154_0
                                    try clear hx156_0
                                    try clear hx156_1
                                    try clear hx156_2
                                    try clear hx156_3
                                    try clear hx160_0
                                    try clear p1
                                    try clear p14
                                    try clear p149
                                    try clear p15
                                    try clear p150
                                    try clear p151
                                    try clear p152
                                    try clear p153
                                    try clear p154
                                    try clear p156
                                    try clear p160
                                    try clear p2
                                    try clear p6
                                    try clear q1
                                    try clear q14
                                    try clear q149
                                    try clear q15
                                    try clear q150
                                    try clear q151
                                    try clear q152
                                    try clear q153
                                    try clear q154
                                    try clear q156
                                    try clear q160
                                    obtain ⟨kq, x133_25, rfl, HA, HJ25, HO_3, HB⟩ := hcut
                                    cases kq with
                                    | zero => exact absurd HA.out (by simp [wayfarerlaw08_LexerWhole.j4])
                                    | succ kj25 =>
                                      have H := HA.out
                                      clear HA
                                      simp only [wayfarerlaw08_LexerWhole.j4] at H
                                      by_cases c29 : x133_25 = true
                                      · subst c29
                                        have H1 : (if 0 ≤ x6_4 then (if x6_4 < (l0.length : Int) then (if (rd l0 x6_4) = 92 then (wayfarerlaw08_LexerWhole.l2 kj25 l0 t143 (wrap64 ((wrap64 (x6_4 + 1)) + 1)) x7_1) else (wayfarerlaw08_LexerWhole.l2 kj25 l0 t143 (wrap64 (x6_4 + 1)) x7_1)) else (none)) else (none)) = some r := by rw [if_pos rfl] at H; exact H
                                        clear H
                                        have H := H1
                                        clear H1
                                        by_cases c30 : 0 ≤ x6_4
                                        · rw [if_pos c30] at H
                                          have c30b0 : decide (0 ≤ x6_4) = true := decide_eq_true c30
                                          clear c30
                                          by_cases c31 : x6_4 < (l0.length : Int)
                                          · rw [if_pos c31] at H
                                            have c31b0 : decide (x6_4 < (l0.length : Int)) = true := decide_eq_true c31
                                            clear c31
                                            by_cases c32 : (rd l0 x6_4) = 92
                                            · rw [if_pos c32] at H
                                              have c32b0 : ((rd l0 x6_4) == 92) = true := beq_iff_eq.mpr c32
                                              have c32b1 : ((rd l0 x6_4) != 92) = false := bne_eq_false_iff_eq.mpr c32
                                              clear c32
                                              have H' := Aside0.mk H
                                              clear H
                                              have p161 : 0 ≤ (x6_4 : Int) := of_decide_eq_true (by first | (with_reducible assumption) | assumption)
                                              have q161 : x6_4 < (l0.length : Int) := of_decide_eq_true (by first | (with_reducible assumption) | assumption)
                                              obtain ⟨ad161, e161, hx161_0⟩ := Kd.at_int HR0.out x6_4 p161 q161
                                              cases e161
                                              replace hx161_0 := (HB.out.cell (World.block_lt_of_cell? w _ hx161_0)).trans hx161_0
                                              replace p161 := eq_true p161
                                              replace q161 := eq_true q161
                                              go_wp2
                                              repeat (go_quiet (fail); try go_wp2)
                                              go_roundg kj25
                                              case measure => have := HK1.out; have := HJ8.out; have := HK3.out; have := HK4.out; have := HJ25.out; omega
                                              case rel => exact ⟨(wrap64 ((wrap64 (x6_4 + 1)) + 1)), (by first | rfl | (simp; done) | (simp [*]; done)), H', ⟨by have := HK1.out; have := HJ8.out; have := HK3.out; have := HK4.out; have := HJ25.out; omega⟩, ⟨by (with_reducible repeat (first | apply Kd.R_alloc | apply Kd.R_drewN | apply Kd.R_drew)); exact HO_3.out⟩, ⟨by repeat (first | (with_reducible first | exact HB.out | apply below_alloc | apply pw_below_drewN | apply below_drew1) | exact HB.out)⟩⟩
                                            · rw [if_neg c32] at H
                                              have c32b0 : ((rd l0 x6_4) == 92) = false := beq_eq_false_iff_ne.mpr c32
                                              have c32b1 : ((rd l0 x6_4) != 92) = true := bne_iff_ne.mpr c32
                                              have H' := Aside0.mk H
                                              clear H
                                              have p161 : 0 ≤ (x6_4 : Int) := of_decide_eq_true (by first | (with_reducible assumption) | assumption)
                                              have q161 : x6_4 < (l0.length : Int) := of_decide_eq_true (by first | (with_reducible assumption) | assumption)
                                              obtain ⟨ad161, e161, hx161_0⟩ := Kd.at_int HR0.out x6_4 p161 q161
                                              cases e161
                                              replace hx161_0 := (HB.out.cell (World.block_lt_of_cell? w _ hx161_0)).trans hx161_0
                                              replace p161 := eq_true p161
                                              replace q161 := eq_true q161
                                              go_wp2
                                              repeat (go_quiet (fail); try go_wp2)
                                              go_roundg kj25
                                              case measure => have := HK1.out; have := HJ8.out; have := HK3.out; have := HK4.out; have := HJ25.out; omega
                                              case rel => exact ⟨(wrap64 (x6_4 + 1)), (by first | rfl | (simp; done) | (simp [*]; done)), H', ⟨by have := HK1.out; have := HJ8.out; have := HK3.out; have := HK4.out; have := HJ25.out; omega⟩, ⟨by (with_reducible repeat (first | apply Kd.R_alloc | apply Kd.R_drewN | apply Kd.R_drew)); exact HO_3.out⟩, ⟨by repeat (first | (with_reducible first | exact HB.out | apply below_alloc | apply pw_below_drewN | apply below_drew1) | exact HB.out)⟩⟩
                                          · rw [if_neg c31] at H
                                            exact absurd H (by simp)
                                        · rw [if_neg c30] at H
                                          exact absurd H (by simp)
                                      · replace c29 := Bool.eq_false_iff.mpr c29
                                        subst c29
                                        have H1 : (wayfarerlaw08_LexerWhole.l0 kj25 l0 t143 (wrap64 (x6_4 + 1)) (wrap64 (x7_1 + 1))) = some r := by rw [if_neg (show ¬ (false = true) by decide)] at H; exact H
                                        clear H
                                        have H := H1
                                        clear H1
                                        have H' := Aside0.mk H
                                        clear H
                                        go_wp2
                                        repeat (go_quiet (fail); try go_wp2)
                                        go_roundg kj25
                                        case measure => have := HK1.out; have := HJ8.out; have := HK3.out; have := HK4.out; have := HJ25.out; omega
                                        case rel => exact ⟨(wrap64 (x6_4 + 1)), (wrap64 (x7_1 + 1)), (by first | rfl | (simp; done) | (simp [*]; done)), (by first | rfl | (simp; done) | (simp [*]; done)), H', ⟨by have := HK1.out; have := HJ8.out; have := HK3.out; have := HK4.out; have := HJ25.out; omega⟩, ⟨by (with_reducible repeat (first | apply Kd.R_alloc | apply Kd.R_drewN | apply Kd.R_drew)); exact HO_3.out⟩, ⟨by repeat (first | (with_reducible first | exact HB.out | apply below_alloc | apply pw_below_drewN | apply below_drew1) | exact HB.out)⟩⟩
                            · rw [if_neg c25] at H
                              have c25b0 : (((rd_T32 t143 x7_1).f0) == 3) = false := beq_eq_false_iff_ne.mpr c25
                              have c25b1 : (((rd_T32 t143 x7_1).f0) != 3) = true := bne_iff_ne.mpr c25
                              by_cases c33 : (((rd_T32 t143 x7_1).f2).size : Int) = 0
                              · rw [if_pos c33] at H
                                have c33b0 : ((((rd_T32 t143 x7_1).f2).size : Int) == 0) = true := beq_iff_eq.mpr c33
                                have c33b1 : ((((rd_T32 t143 x7_1).f2).size : Int) != 0) = false := bne_eq_false_iff_eq.mpr c33
                                clear c33
                                obtain rfl := Option.some.inj H
                                have p153 : 0 ≤ (x7_1 : Int) := of_decide_eq_true (by first | (with_reducible assumption) | assumption)
                                have q153 : x7_1 < (t143.length : Int) := of_decide_eq_true (by first | (with_reducible assumption) | assumption)
                                obtain ⟨ad153, e153, hx153_0, hx153_1, hx153_2, hx153_3⟩ := at_T32 (Kd.R_reads' HO_3.out).2.2 x7_1 p153 q153
                                cases e153
                                replace p153 := eq_true p153
                                replace q153 := eq_true q153
                                have p156 : 0 ≤ (x7_1 : Int) := of_decide_eq_true (by first | (with_reducible assumption) | assumption)
                                have q156 : x7_1 < (t143.length : Int) := of_decide_eq_true (by first | (with_reducible assumption) | assumption)
                                obtain ⟨ad156, e156, hx156_0, hx156_1, hx156_2, hx156_3⟩ := at_T32 (Kd.R_reads' HO_3.out).2.2 x7_1 p156 q156
                                obtain rfl : ad153 = ad156 := (by injection e156)
                                replace p156 := eq_true p156
                                replace q156 := eq_true q156
                                have p157 : 0 ≤ (x7_1 : Int) := of_decide_eq_true (by first | (with_reducible assumption) | assumption)
                                have q157 : x7_1 < (t143.length : Int) := of_decide_eq_true (by first | (with_reducible assumption) | assumption)
                                obtain ⟨ad157, e157, hx157_0, hx157_1, hx157_2, hx157_3⟩ := at_T32 (Kd.R_reads' HO_3.out).2.2 x7_1 p157 q157
                                obtain rfl : ad153 = ad157 := (by injection e157)
                                replace p157 := eq_true p157
                                replace q157 := eq_true q157
                                go_wp2
                                repeat (go_quiet (fail); try go_wp2)
                                go_ret
                                exact ⟨by first | rfl | (simp [errW_none, errW_some] <;> rfl) | (simp [*, errW_none, errW_some] <;> rfl), by repeat (first | (with_reducible first | exact HB.out | apply below_alloc | apply pw_below_drewN | apply below_drew1) | exact HB.out)⟩
                              · rw [if_neg c33] at H
                                have c33b0 : ((((rd_T32 t143 x7_1).f2).size : Int) == 0) = false := beq_eq_false_iff_ne.mpr c33
                                have c33b1 : ((((rd_T32 t143 x7_1).f2).size : Int) != 0) = true := bne_iff_ne.mpr c33
                                by_cases c34 : (wrap64 (x6_3 + (((rd_T32 t143 x7_1).f2).size : Int))) > (l0.length : Int)
                                · rw [if_pos c34] at H
                                  have c34b0 : decide ((l0.length : Int) < (wrap64 (x6_3 + (((rd_T32 t143 x7_1).f2).size : Int)))) = true := decide_eq_true c34
                                  clear c34
                                  obtain rfl := Option.some.inj H
                                  have p153 : 0 ≤ (x7_1 : Int) := of_decide_eq_true (by first | (with_reducible assumption) | assumption)
                                  have q153 : x7_1 < (t143.length : Int) := of_decide_eq_true (by first | (with_reducible assumption) | assumption)
                                  obtain ⟨ad153, e153, hx153_0, hx153_1, hx153_2, hx153_3⟩ := at_T32 (Kd.R_reads' HO_3.out).2.2 x7_1 p153 q153
                                  cases e153
                                  replace p153 := eq_true p153
                                  replace q153 := eq_true q153
                                  have p156 : 0 ≤ (x7_1 : Int) := of_decide_eq_true (by first | (with_reducible assumption) | assumption)
                                  have q156 : x7_1 < (t143.length : Int) := of_decide_eq_true (by first | (with_reducible assumption) | assumption)
                                  obtain ⟨ad156, e156, hx156_0, hx156_1, hx156_2, hx156_3⟩ := at_T32 (Kd.R_reads' HO_3.out).2.2 x7_1 p156 q156
                                  obtain rfl : ad153 = ad156 := (by injection e156)
                                  replace p156 := eq_true p156
                                  replace q156 := eq_true q156
                                  have p157 : 0 ≤ (x7_1 : Int) := of_decide_eq_true (by first | (with_reducible assumption) | assumption)
                                  have q157 : x7_1 < (t143.length : Int) := of_decide_eq_true (by first | (with_reducible assumption) | assumption)
                                  obtain ⟨ad157, e157, hx157_0, hx157_1, hx157_2, hx157_3⟩ := at_T32 (Kd.R_reads' HO_3.out).2.2 x7_1 p157 q157
                                  obtain rfl : ad153 = ad157 := (by injection e157)
                                  replace p157 := eq_true p157
                                  replace q157 := eq_true q157
                                  go_wp2
                                  repeat (go_quiet (fail); try go_wp2)
                                  go_ret
                                  exact ⟨by first | rfl | (simp [errW_none, errW_some] <;> rfl) | (simp [*, errW_none, errW_some] <;> rfl), by repeat (first | (with_reducible first | exact HB.out | apply below_alloc | apply pw_below_drewN | apply below_drew1) | exact HB.out)⟩
                                · rw [if_neg c34] at H
                                  have c34b0 : decide ((l0.length : Int) < (wrap64 (x6_3 + (((rd_T32 t143 x7_1).f2).size : Int)))) = false := decide_eq_false c34
                                  clear c34
                                  by_cases c35 : 0 ≤ x6_3
                                  · rw [if_pos c35] at H
                                    have c35b0 := eq_true c35
                                    have c35b1 : decide (0 ≤ x6_3) = true := decide_eq_true c35
                                    clear c35
                                    by_cases c36 : x6_3 ≤ (wrap64 (x6_3 + (((rd_T32 t143 x7_1).f2).size : Int)))
                                    · rw [if_pos c36] at H
                                      have c36b0 := eq_true c36
                                      have c36b1 : decide (x6_3 ≤ (wrap64 (x6_3 + (((rd_T32 t143 x7_1).f2).size : Int)))) = true := decide_eq_true c36
                                      by_cases c37 : (wrap64 (x6_3 + (((rd_T32 t143 x7_1).f2).size : Int))) ≤ (l0.length : Int)
                                      · rw [if_pos c37] at H
                                        have c37b0 := eq_true c37
                                        have c37b1 : decide ((wrap64 (x6_3 + (((rd_T32 t143 x7_1).f2).size : Int))) ≤ (l0.length : Int)) = true := decide_eq_true c37
                                        by_cases c38 : (strOfNums ((l0.take ((wrap64 (x6_3 + (((rd_T32 t143 x7_1).f2).size : Int))) : Int).toNat).drop (x6_3 : Int).toNat)).toList = ((rd_T32 t143 x7_1).f2).toList
                                        · rw [if_pos c38] at H
                                          have c38b0 : ((strOfNums ((l0.take ((wrap64 (x6_3 + (((rd_T32 t143 x7_1).f2).size : Int))) : Int).toNat).drop (x6_3 : Int).toNat)).toList == ((rd_T32 t143 x7_1).f2).toList) = true := beq_iff_eq.mpr c38
                                          have c38b1 : ((strOfNums ((l0.take ((wrap64 (x6_3 + (((rd_T32 t143 x7_1).f2).size : Int))) : Int).toNat).drop (x6_3 : Int).toNat)).toList != ((rd_T32 t143 x7_1).f2).toList) = false := bne_eq_false_iff_eq.mpr c38
                                          clear c38
                                          have H' := Aside0.mk H
                                          clear H
                                          have p153 : 0 ≤ (x7_1 : Int) := of_decide_eq_true (by first | (with_reducible assumption) | assumption)
                                          have q153 : x7_1 < (t143.length : Int) := of_decide_eq_true (by first | (with_reducible assumption) | assumption)
                                          obtain ⟨ad153, e153, hx153_0, hx153_1, hx153_2, hx153_3⟩ := at_T32 (Kd.R_reads' HO_3.out).2.2 x7_1 p153 q153
                                          cases e153
                                          replace p153 := eq_true p153
                                          replace q153 := eq_true q153
                                          have p156 : 0 ≤ (x7_1 : Int) := of_decide_eq_true (by first | (with_reducible assumption) | assumption)
                                          have q156 : x7_1 < (t143.length : Int) := of_decide_eq_true (by first | (with_reducible assumption) | assumption)
                                          obtain ⟨ad156, e156, hx156_0, hx156_1, hx156_2, hx156_3⟩ := at_T32 (Kd.R_reads' HO_3.out).2.2 x7_1 p156 q156
                                          obtain rfl : ad153 = ad156 := (by injection e156)
                                          replace p156 := eq_true p156
                                          replace q156 := eq_true q156
                                          have p157 : 0 ≤ (x7_1 : Int) := of_decide_eq_true (by first | (with_reducible assumption) | assumption)
                                          have q157 : x7_1 < (t143.length : Int) := of_decide_eq_true (by first | (with_reducible assumption) | assumption)
                                          obtain ⟨ad157, e157, hx157_0, hx157_1, hx157_2, hx157_3⟩ := at_T32 (Kd.R_reads' HO_3.out).2.2 x7_1 p157 q157
                                          obtain rfl : ad153 = ad157 := (by injection e157)
                                          replace p157 := eq_true p157
                                          replace q157 := eq_true q157
                                          obtain ⟨i039, hi039, _, hsz39, _⟩ := info_parts info5
                                          obtain ⟨A39, hcut39, hA39, hC39⟩ := print_mid_of (P := Try.prog) (Value.int .u8) 0 22 5 .i64 .i64 Try.underlying22 hi039 hsz39 A0 c0 l0 x6_3 (wrap64 (x6_3 + (((rd_T32 t143 x7_1).f2).size : Int))) (of_decide_eq_true (by first | (with_reducible assumption) | assumption)) (by first | omega | exact of_decide_eq_true (by first | (with_reducible assumption) | assumption)) (of_decide_eq_true (by first | (with_reducible assumption) | assumption)) HC0.out
                                          have HR158 := Aside0.mk (Kd.C_of_reads (h1 := fun _ => rfl) (hA39 _ (Kd.reads_of_C HR0.out)))
                                          have HC158 := Aside0.mk hC39
                                          clear hA39 hC39 hi039 hsz39
                                          (have hcv40 := Kd.C_string (P := Try.prog) (A := A39) (c := (c0 - x6_3.toNat)) Try.underlying22 Try.underlying5 Try.underlying9 (Kd.C_below HR158.out HB.out); rw [show ((l0.take ((wrap64 (x6_3 + (((rd_T32 t143 x7_1).f2).size : Int))) : Int).toNat).drop (x6_3 : Int).toNat).length = ((wrap64 (x6_3 + (((rd_T32 t143 x7_1).f2).size : Int))) : Int).toNat - (x6_3 : Int).toNat from by (have hm_ : (wrap64 (x6_3 + (((rd_T32 t143 x7_1).f2).size : Int))) ≤ (l0.length : Int) := of_decide_eq_true (by first | (with_reducible assumption) | assumption)); rw [List.length_drop, List.length_take, Nat.min_eq_left (by omega)]] at hcv40)
                                          (try (have hcw40 := fun (n_ : Nat) => Kd.C_string (P := Try.prog) (A := A39) (c := (c0 - x6_3.toNat)) Try.underlying22 Try.underlying5 Try.underlying9 (Kd.C_below HR158.out (pw_below_drewN HB.out n_)); rw [show ((l0.take ((wrap64 (x6_3 + (((rd_T32 t143 x7_1).f2).size : Int))) : Int).toNat).drop (x6_3 : Int).toNat).length = ((wrap64 (x6_3 + (((rd_T32 t143 x7_1).f2).size : Int))) : Int).toNat - (x6_3 : Int).toNat from by (have hm_ : (wrap64 (x6_3 + (((rd_T32 t143 x7_1).f2).size : Int))) ≤ (l0.length : Int) := of_decide_eq_true (by first | (with_reducible assumption) | assumption)); rw [List.length_drop, List.length_take, Nat.min_eq_left (by omega)]] at hcw40))
                                          have p159 : 0 ≤ (x7_1 : Int) := of_decide_eq_true (by first | (with_reducible assumption) | assumption)
                                          have q159 : x7_1 < (t143.length : Int) := of_decide_eq_true (by first | (with_reducible assumption) | assumption)
                                          obtain ⟨ad159, e159, hx159_0, hx159_1, hx159_2, hx159_3⟩ := at_T32 (Kd.R_reads' HO_3.out).2.2 x7_1 p159 q159
                                          obtain rfl : ad153 = ad159 := (by injection e159)
                                          replace p159 := eq_true p159
                                          replace q159 := eq_true q159
                                          go_wp2
                                          repeat (go_quiet (fail); try go_wp2)
                                          go_roundg k3
                                          case measure => have := HK1.out; have := HJ8.out; have := HK3.out; omega
                                          case rel => exact ⟨(wrap64 (x6_3 + (((rd_T32 t143 x7_1).f2).size : Int))), (wrap64 (x7_1 + 1)), (by first | rfl | (simp; done) | (simp [*]; done)), (by first | rfl | (simp; done) | (simp [*]; done)), H', ⟨by have := HK1.out; have := HJ8.out; have := HK3.out; omega⟩, ⟨by (with_reducible repeat (first | apply Kd.R_alloc | apply Kd.R_drewN | apply Kd.R_drew)); exact HO_3.out⟩, ⟨by repeat (first | (with_reducible first | exact HB.out | apply below_alloc | apply pw_below_drewN | apply below_drew1) | exact HB.out)⟩⟩
                                        · rw [if_neg c38] at H
                                          have c38b0 : ((strOfNums ((l0.take ((wrap64 (x6_3 + (((rd_T32 t143 x7_1).f2).size : Int))) : Int).toNat).drop (x6_3 : Int).toNat)).toList == ((rd_T32 t143 x7_1).f2).toList) = false := beq_eq_false_iff_ne.mpr c38
                                          have c38b1 : ((strOfNums ((l0.take ((wrap64 (x6_3 + (((rd_T32 t143 x7_1).f2).size : Int))) : Int).toNat).drop (x6_3 : Int).toNat)).toList != ((rd_T32 t143 x7_1).f2).toList) = true := bne_iff_ne.mpr c38
                                          obtain rfl := Option.some.inj H
                                          have p153 : 0 ≤ (x7_1 : Int) := of_decide_eq_true (by first | (with_reducible assumption) | assumption)
                                          have q153 : x7_1 < (t143.length : Int) := of_decide_eq_true (by first | (with_reducible assumption) | assumption)
                                          obtain ⟨ad153, e153, hx153_0, hx153_1, hx153_2, hx153_3⟩ := at_T32 (Kd.R_reads' HO_3.out).2.2 x7_1 p153 q153
                                          cases e153
                                          replace p153 := eq_true p153
                                          replace q153 := eq_true q153
                                          have p156 : 0 ≤ (x7_1 : Int) := of_decide_eq_true (by first | (with_reducible assumption) | assumption)
                                          have q156 : x7_1 < (t143.length : Int) := of_decide_eq_true (by first | (with_reducible assumption) | assumption)
                                          obtain ⟨ad156, e156, hx156_0, hx156_1, hx156_2, hx156_3⟩ := at_T32 (Kd.R_reads' HO_3.out).2.2 x7_1 p156 q156
                                          obtain rfl : ad153 = ad156 := (by injection e156)
                                          replace p156 := eq_true p156
                                          replace q156 := eq_true q156
                                          have p157 : 0 ≤ (x7_1 : Int) := of_decide_eq_true (by first | (with_reducible assumption) | assumption)
                                          have q157 : x7_1 < (t143.length : Int) := of_decide_eq_true (by first | (with_reducible assumption) | assumption)
                                          obtain ⟨ad157, e157, hx157_0, hx157_1, hx157_2, hx157_3⟩ := at_T32 (Kd.R_reads' HO_3.out).2.2 x7_1 p157 q157
                                          obtain rfl : ad153 = ad157 := (by injection e157)
                                          replace p157 := eq_true p157
                                          replace q157 := eq_true q157
                                          obtain ⟨i041, hi041, _, hsz41, _⟩ := info_parts info5
                                          obtain ⟨A41, hcut41, hA41, hC41⟩ := print_mid_of (P := Try.prog) (Value.int .u8) 0 22 5 .i64 .i64 Try.underlying22 hi041 hsz41 A0 c0 l0 x6_3 (wrap64 (x6_3 + (((rd_T32 t143 x7_1).f2).size : Int))) (of_decide_eq_true (by first | (with_reducible assumption) | assumption)) (by first | omega | exact of_decide_eq_true (by first | (with_reducible assumption) | assumption)) (of_decide_eq_true (by first | (with_reducible assumption) | assumption)) HC0.out
                                          (try (have ea_ := (hcut41 w).symm.trans (hcut39 w); injection ea_ with ea_ _; injection ea_ with ea_ _ _; subst ea_))
                                          have HR158 := Aside0.mk (Kd.C_of_reads (h1 := fun _ => rfl) (hA41 _ (Kd.reads_of_C HR0.out)))
                                          have HC158 := Aside0.mk hC41
                                          clear hA41 hC41 hi041 hsz41
                                          (have hcv42 := Kd.C_string (P := Try.prog) (A := A41) (c := (c0 - x6_3.toNat)) Try.underlying22 Try.underlying5 Try.underlying9 (Kd.C_below HR158.out HB.out); rw [show ((l0.take ((wrap64 (x6_3 + (((rd_T32 t143 x7_1).f2).size : Int))) : Int).toNat).drop (x6_3 : Int).toNat).length = ((wrap64 (x6_3 + (((rd_T32 t143 x7_1).f2).size : Int))) : Int).toNat - (x6_3 : Int).toNat from by (have hm_ : (wrap64 (x6_3 + (((rd_T32 t143 x7_1).f2).size : Int))) ≤ (l0.length : Int) := of_decide_eq_true (by first | (with_reducible assumption) | assumption)); rw [List.length_drop, List.length_take, Nat.min_eq_left (by omega)]] at hcv42)
                                          (try (have hcw42 := fun (n_ : Nat) => Kd.C_string (P := Try.prog) (A := A41) (c := (c0 - x6_3.toNat)) Try.underlying22 Try.underlying5 Try.underlying9 (Kd.C_below HR158.out (pw_below_drewN HB.out n_)); rw [show ((l0.take ((wrap64 (x6_3 + (((rd_T32 t143 x7_1).f2).size : Int))) : Int).toNat).drop (x6_3 : Int).toNat).length = ((wrap64 (x6_3 + (((rd_T32 t143 x7_1).f2).size : Int))) : Int).toNat - (x6_3 : Int).toNat from by (have hm_ : (wrap64 (x6_3 + (((rd_T32 t143 x7_1).f2).size : Int))) ≤ (l0.length : Int) := of_decide_eq_true (by first | (with_reducible assumption) | assumption)); rw [List.length_drop, List.length_take, Nat.min_eq_left (by omega)]] at hcw42))
                                          have p159 : 0 ≤ (x7_1 : Int) := of_decide_eq_true (by first | (with_reducible assumption) | assumption)
                                          have q159 : x7_1 < (t143.length : Int) := of_decide_eq_true (by first | (with_reducible assumption) | assumption)
                                          obtain ⟨ad159, e159, hx159_0, hx159_1, hx159_2, hx159_3⟩ := at_T32 (Kd.R_reads' HO_3.out).2.2 x7_1 p159 q159
                                          obtain rfl : ad153 = ad159 := (by injection e159)
                                          replace p159 := eq_true p159
                                          replace q159 := eq_true q159
                                          go_wp2
                                          repeat (go_quiet (fail); try go_wp2)
                                          go_ret
                                          exact ⟨by first | rfl | (simp [errW_none, errW_some] <;> rfl) | (simp [*, errW_none, errW_some] <;> rfl), by repeat (first | (with_reducible first | exact HB.out | apply below_alloc | apply pw_below_drewN | apply below_drew1) | exact HB.out)⟩
                                      · rw [if_neg c37] at H
                                        exact absurd H (by simp)
                                    · rw [if_neg c36] at H
                                      exact absurd H (by simp)
                                  · rw [if_neg c35] at H
                                    exact absurd H (by simp)
                        · rw [if_neg c17] at H
                          exact absurd H (by simp)
                      · rw [if_neg c16] at H
                        exact absurd H (by simp)
          · rw [if_neg c8] at H
            have c8b0 : decide (x7_1 < (t143.length : Int)) = false := decide_eq_false c8
            clear c8
            have H' := Aside0.mk H
            clear H
            obtain ⟨Ao43, co43, eo43⟩ := Kd.R_slice HO_3.out
            subst eo43
            go_wp2
            repeat (go_quiet (fail); try go_wp2)
            go_loopg [6] k1 (fun kq v6 w' => ∃ (x6_2 : Int), v6 = .int .i64 x6_2 ∧ Aside0 (wayfarerlaw08_LexerWhole.l3 kq l0 x6_2 = some r) ∧ Aside0 (kq ≤ k1) ∧ Aside0 (Below w.heap.size w w'))
            case atStart => exact ⟨(x6_1), (by first | rfl | (simp; done) | (simp [*]; done)), H', ⟨Nat.le_refl _⟩, ⟨by repeat (first | (with_reducible first | exact HB.out | apply below_alloc | apply pw_below_drewN | apply below_drew1) | exact HB.out)⟩⟩
            case round =>
              clear H'
              try clear c1
              try clear p1
              try clear q1
              try clear hx1
              try clear c2
              try clear c2b0
              try clear c2b1
              try clear p2
              try clear c3
              try clear c4
              try clear hcv4
              try clear c6
              try clear c6b0
              try clear c6b1
              try clear p6
              try clear c8
              try clear c8b0
              try clear c11
              try clear c11b0
              try clear c12
              try clear c12b0
              try clear c13
              try clear c13b0
              try clear c14
              try clear c14b0
              try clear p14
              try clear q14
              try clear hx14
              try clear c15
              try clear p15
              try clear q15
              try clear hx15
              try clear c16
              try clear c16b0
              try clear p16
              try clear q16
              try clear hx16
              try clear c17
              try clear c17b0
              try clear c18
              try clear c18b0
              try clear c19
              try clear c19b0
              try clear c20
              try clear c20b0
              try clear c22
              try clear c25
              try clear c25b0
              try clear c25b1
              try clear c27
              try clear c27b0
              try clear c28
              try clear c28b0
              try clear c29
              try clear c30
              try clear c30b0
              try clear c31
              try clear c31b0
              try clear c32
              try clear c32b0
              try clear c32b1
              try clear c33
              try clear c33b0
              try clear c33b1
              try clear c34
              try clear c34b0
              try clear c35
              try clear c35b0
              try clear c35b1
              try clear c36
              try clear c36b0
              try clear c36b1
              try clear c37
              try clear c37b0
              try clear c37b1
              try clear c38
              try clear c38b0
              try clear c38b1
              try clear hcv40
              try clear hcv42
              try clear hx149_0
              try clear hx149_1
              try clear hx149_2
              try clear hx149_3
              try clear hx150_0
              try clear hx150_1
              try clear hx150_2
              try clear hx150_3
              try clear hx151_0
              try clear hx151_1
              try clear hx151_2
              try clear hx151_3
              try clear hx152_0
              try clear hx152_1
              try clear hx152_2
              try clear hx152_3
              try clear hx153_0
              try clear hx153_1
              try clear hx153_2
              try clear hx153_3
              try clear hx154_0
              try clear hx156_0
              try clear hx156_1
              try clear hx156_2
              try clear hx156_3
              try clear hx157_0
              try clear hx157_1
              try clear hx157_2
              try clear hx157_3
              try clear hx159_0
              try clear hx159_1
              try clear hx159_2
              try clear hx159_3
              try clear hx160_0
              try clear hx161_0
              try clear p1
              try clear p14
              try clear p149
              try clear p15
              try clear p150
              try clear p151
              try clear p152
              try clear p153
              try clear p154
              try clear p156
              try clear p157
              try clear p159
              try clear p16
              try clear p160
              try clear p161
              try clear p2
              try clear p6
              try clear q1
              try clear q14
              try clear q149
              try clear q15
              try clear q150
              try clear q151
              try clear q152
              try clear q153
              try clear q154
              try clear q156
              try clear q157
              try clear q159
              try clear q16
              try clear q160
              try clear q161
              obtain ⟨x6_2, rfl, HA, HK2, HB⟩ := hrel
              cases gk with
              | zero => exact absurd HA.out (by simp [wayfarerlaw08_LexerWhole.l3])
              | succ k2 =>
                have H := HA.out
                clear HA
                simp only [wayfarerlaw08_LexerWhole.l3] at H
                by_cases c44 : x6_2 < (l0.length : Int)
                · rw [if_pos c44] at H
                  have c44b0 : decide (x6_2 < (l0.length : Int)) = true := decide_eq_true c44
                  clear c44
                  by_cases c45 : 0 ≤ x6_2
                  · rw [if_pos c45] at H
                    have c45b0 : decide (0 ≤ x6_2) = true := decide_eq_true c45
                    clear c45
                    replace H := Option.bind_eq_some_iff.mp H
                    obtain ⟨t163, A460, H⟩ := H
                    replace H : (if t163 = true then (wayfarerlaw08_LexerWhole.l3 k2 l0 (wrap64 (x6_2 + 1))) else (some false)) = some r := H
                    have A46 := Aside0.mk A460
                    clear A460
                    by_cases c47 : t163 = true
                    · subst c47
                      have H1 : (wayfarerlaw08_LexerWhole.l3 k2 l0 (wrap64 (x6_2 + 1))) = some r := by rw [if_pos rfl] at H; exact H
                      clear H
                      have H := H1
                      clear H1
                      have H' := Aside0.mk H
                      clear H
                      have p162 : 0 ≤ (x6_2 : Int) := of_decide_eq_true (by first | (with_reducible assumption) | assumption)
                      have q162 : x6_2 < (l0.length : Int) := of_decide_eq_true (by first | (with_reducible assumption) | assumption)
                      obtain ⟨ad162, e162, hx162_0⟩ := Kd.at_int HR0.out x6_2 p162 q162
                      cases e162
                      replace hx162_0 := (HB.out.cell (World.block_lt_of_cell? w _ hx162_0)).trans hx162_0
                      replace p162 := eq_true p162
                      replace q162 := eq_true q162
                      go_wp2_with (first | (go_at_call 14; (with_reducible refine (wayfarerlaw08_blank.calls k2 (rd l0 x6_2) true _ A46.out).mono ?_); rintro e w48 ⟨rfl, hb⟩; have n0_ := Aside0.mk (below_step (by repeat (first | (with_reducible first | exact HB.out | apply below_alloc | apply pw_below_drewN | apply below_drew1) | exact HB.out)) hb); clear HB; have HB := n0_; clear n0_; (try clear hb); (try clear hb2); (try clear hk); (try clear hi)))
                      repeat (go_quiet (first | (go_at_call 14; (with_reducible refine (wayfarerlaw08_blank.calls k2 (rd l0 x6_2) true _ A46.out).mono ?_); rintro e w48 ⟨rfl, hb⟩; have n0_ := Aside0.mk (below_step (by repeat (first | (with_reducible first | exact HB.out | apply below_alloc | apply pw_below_drewN | apply below_drew1) | exact HB.out)) hb); clear HB; have HB := n0_; clear n0_; (try clear hb); (try clear hb2); (try clear hk); (try clear hi))); try go_wp2_with (first | (go_at_call 14; (with_reducible refine (wayfarerlaw08_blank.calls k2 (rd l0 x6_2) true _ A46.out).mono ?_); rintro e w48 ⟨rfl, hb⟩; have n0_ := Aside0.mk (below_step (by repeat (first | (with_reducible first | exact HB.out | apply below_alloc | apply pw_below_drewN | apply below_drew1) | exact HB.out)) hb); clear HB; have HB := n0_; clear n0_; (try clear hb); (try clear hb2); (try clear hk); (try clear hi))))
                      go_roundg k2
                      case measure => have := HK1.out; have := HK2.out; omega
                      case rel => exact ⟨(wrap64 (x6_2 + 1)), (by first | rfl | (simp; done) | (simp [*]; done)), H', ⟨by have := HK1.out; have := HK2.out; omega⟩, ⟨by repeat (first | (with_reducible first | exact HB.out | apply below_alloc | apply pw_below_drewN | apply below_drew1) | exact HB.out)⟩⟩
                    · replace c47 := Bool.eq_false_iff.mpr c47
                      subst c47
                      have H1 : (some false) = some r := by rw [if_neg (show ¬ (false = true) by decide)] at H; exact H
                      clear H
                      have H := H1
                      clear H1
                      obtain rfl := Option.some.inj H
                      have p162 : 0 ≤ (x6_2 : Int) := of_decide_eq_true (by first | (with_reducible assumption) | assumption)
                      have q162 : x6_2 < (l0.length : Int) := of_decide_eq_true (by first | (with_reducible assumption) | assumption)
                      obtain ⟨ad162, e162, hx162_0⟩ := Kd.at_int HR0.out x6_2 p162 q162
                      cases e162
                      replace hx162_0 := (HB.out.cell (World.block_lt_of_cell? w _ hx162_0)).trans hx162_0
                      replace p162 := eq_true p162
                      replace q162 := eq_true q162
                      go_wp2_with (first | (go_at_call 14; (with_reducible refine (wayfarerlaw08_blank.calls k2 (rd l0 x6_2) false _ A46.out).mono ?_); rintro e w49 ⟨rfl, hb⟩; have n0_ := Aside0.mk (below_step (by repeat (first | (with_reducible first | exact HB.out | apply below_alloc | apply pw_below_drewN | apply below_drew1) | exact HB.out)) hb); clear HB; have HB := n0_; clear n0_; (try clear hb); (try clear hb2); (try clear hk); (try clear hi)))
                      repeat (go_quiet (first | (go_at_call 14; (with_reducible refine (wayfarerlaw08_blank.calls k2 (rd l0 x6_2) false _ A46.out).mono ?_); rintro e w49 ⟨rfl, hb⟩; have n0_ := Aside0.mk (below_step (by repeat (first | (with_reducible first | exact HB.out | apply below_alloc | apply pw_below_drewN | apply below_drew1) | exact HB.out)) hb); clear HB; have HB := n0_; clear n0_; (try clear hb); (try clear hb2); (try clear hk); (try clear hi))); try go_wp2_with (first | (go_at_call 14; (with_reducible refine (wayfarerlaw08_blank.calls k2 (rd l0 x6_2) false _ A46.out).mono ?_); rintro e w49 ⟨rfl, hb⟩; have n0_ := Aside0.mk (below_step (by repeat (first | (with_reducible first | exact HB.out | apply below_alloc | apply pw_below_drewN | apply below_drew1) | exact HB.out)) hb); clear HB; have HB := n0_; clear n0_; (try clear hb); (try clear hb2); (try clear hk); (try clear hi))))
                      go_ret
                      exact ⟨by first | rfl | (simp [errW_none, errW_some] <;> rfl) | (simp [*, errW_none, errW_some] <;> rfl), by repeat (first | (with_reducible first | exact HB.out | apply below_alloc | apply pw_below_drewN | apply below_drew1) | exact HB.out)⟩
                  · rw [if_neg c45] at H
                    exact absurd H (by simp)
                · rw [if_neg c44] at H
                  have c44b0 : decide (x6_2 < (l0.length : Int)) = false := decide_eq_false c44
                  clear c44
                  replace H := Option.bind_eq_some_iff.mp H
                  obtain ⟨t164, A500, H⟩ := H
                  replace H : (some t164) = some r := H
                  have A50 := Aside0.mk A500
                  clear A500
                  obtain rfl := Option.some.inj H
                  go_wp2_with (first | (go_at_call 9; (with_reducible refine (wayfarerlaw08_known.calls k2  t164 _ A50.out).mono ?_); rintro e w51 ⟨rfl, hb⟩; have n0_ := Aside0.mk (below_step (by repeat (first | (with_reducible first | exact HB.out | apply below_alloc | apply pw_below_drewN | apply below_drew1) | exact HB.out)) hb); clear HB; have HB := n0_; clear n0_; (try clear hb); (try clear hb2); (try clear hk); (try clear hi)))
                  repeat (go_quiet (first | (go_at_call 9; (with_reducible refine (wayfarerlaw08_known.calls k2  t164 _ A50.out).mono ?_); rintro e w51 ⟨rfl, hb⟩; have n0_ := Aside0.mk (below_step (by repeat (first | (with_reducible first | exact HB.out | apply below_alloc | apply pw_below_drewN | apply below_drew1) | exact HB.out)) hb); clear HB; have HB := n0_; clear n0_; (try clear hb); (try clear hb2); (try clear hk); (try clear hi))); try go_wp2_with (first | (go_at_call 9; (with_reducible refine (wayfarerlaw08_known.calls k2  t164 _ A50.out).mono ?_); rintro e w51 ⟨rfl, hb⟩; have n0_ := Aside0.mk (below_step (by repeat (first | (with_reducible first | exact HB.out | apply below_alloc | apply pw_below_drewN | apply below_drew1) | exact HB.out)) hb); clear HB; have HB := n0_; clear n0_; (try clear hb); (try clear hb2); (try clear hk); (try clear hi))))
                  go_ret
                  exact ⟨by first | rfl | (simp [errW_none, errW_some] <;> rfl) | (simp [*, errW_none, errW_some] <;> rfl), by repeat (first | (with_reducible first | exact HB.out | apply below_alloc | apply pw_below_drewN | apply below_drew1) | exact HB.out)⟩
    · rw [if_neg c6] at H
      have c6b0 : (t145 == 0) = false := beq_eq_false_iff_ne.mpr c6
      have c6b1 : (t145 != 0) = true := bne_iff_ne.mpr c6
      by_cases c52 : (t143.length : Int) = 0
      · rw [if_pos c52] at H
        have c52b0 : ((t143.length : Int) == 0) = true := beq_iff_eq.mpr c52
        have c52b1 : ((t143.length : Int) != 0) = false := bne_eq_false_iff_eq.mpr c52
        clear c52
        replace H := Option.bind_eq_some_iff.mp H
        obtain ⟨t148, A530, H⟩ := H
        replace H : (some t148) = some r := H
        have A53 := Aside0.mk A530
        clear A530
        obtain rfl := Option.some.inj H
        go_enter Try.func4, Try.ntmps4
        go_wp2_with (first | (go_at_call 13; (with_reducible refine (lexer_All.calls k _ _ l0 t143 t144 t145 _ ?side1 ?side2 A5.out).mono ?_); (case side1 => repeat (first | exact HR0.out | (with_reducible refine Kd.C_alloc ?_ _) | (with_reducible refine Kd.C_drewN ?_ _) | (with_reducible refine Kd.C_drew ?_))); (case side2 => exact HC0.out); rintro e w54 ⟨v146, rfl, ho0, hb⟩; have n0_ := Aside0.mk (Kd.R_lower ho0 (below_size (by repeat (first | (with_reducible first | exact HB.out | apply below_alloc | apply pw_below_drewN | apply below_drew1) | exact HB.out)))); have n1_ := Aside0.mk (below_step (by repeat (first | (with_reducible first | exact HB.out | apply below_alloc | apply pw_below_drewN | apply below_drew1) | exact HB.out)) hb); clear HB; have HO147 := n0_; have HB := n1_; clear n0_ n1_; (try clear hb); (try clear hb2); (try clear hk); (try clear hi); (try clear ho0); obtain ⟨Ao55, co55, eo55⟩ := Kd.R_slice HO147.out; subst eo55) | (go_at_call 9; (with_reducible refine (wayfarerlaw08_known.calls k  t148 _ A53.out).mono ?_); rintro e w56 ⟨rfl, hb⟩; have n0_ := Aside0.mk (Kd.R_below (by (with_reducible repeat (first | apply Kd.R_alloc | apply Kd.R_drewN | apply Kd.R_drew)); exact HO147.out) hb); have n1_ := Aside0.mk (below_step (by repeat (first | (with_reducible first | exact HB.out | apply below_alloc | apply pw_below_drewN | apply below_drew1) | exact HB.out)) hb); clear HO147; clear HB; have HO147 := n0_; have HB := n1_; clear n0_ n1_; (try clear hb); (try clear hb2); (try clear hk); (try clear hi)))
        repeat (go_quiet (first | (go_at_call 13; (with_reducible refine (lexer_All.calls k _ _ l0 t143 t144 t145 _ ?side1 ?side2 A5.out).mono ?_); (case side1 => repeat (first | exact HR0.out | (with_reducible refine Kd.C_alloc ?_ _) | (with_reducible refine Kd.C_drewN ?_ _) | (with_reducible refine Kd.C_drew ?_))); (case side2 => exact HC0.out); rintro e w54 ⟨v146, rfl, ho0, hb⟩; have n0_ := Aside0.mk (Kd.R_lower ho0 (below_size (by repeat (first | (with_reducible first | exact HB.out | apply below_alloc | apply pw_below_drewN | apply below_drew1) | exact HB.out)))); have n1_ := Aside0.mk (below_step (by repeat (first | (with_reducible first | exact HB.out | apply below_alloc | apply pw_below_drewN | apply below_drew1) | exact HB.out)) hb); clear HB; have HO147 := n0_; have HB := n1_; clear n0_ n1_; (try clear hb); (try clear hb2); (try clear hk); (try clear hi); (try clear ho0); obtain ⟨Ao55, co55, eo55⟩ := Kd.R_slice HO147.out; subst eo55) | (go_at_call 9; (with_reducible refine (wayfarerlaw08_known.calls k  t148 _ A53.out).mono ?_); rintro e w56 ⟨rfl, hb⟩; have n0_ := Aside0.mk (Kd.R_below (by (with_reducible repeat (first | apply Kd.R_alloc | apply Kd.R_drewN | apply Kd.R_drew)); exact HO147.out) hb); have n1_ := Aside0.mk (below_step (by repeat (first | (with_reducible first | exact HB.out | apply below_alloc | apply pw_below_drewN | apply below_drew1) | exact HB.out)) hb); clear HO147; clear HB; have HO147 := n0_; have HB := n1_; clear n0_ n1_; (try clear hb); (try clear hb2); (try clear hk); (try clear hi))); try go_wp2_with (first | (go_at_call 13; (with_reducible refine (lexer_All.calls k _ _ l0 t143 t144 t145 _ ?side1 ?side2 A5.out).mono ?_); (case side1 => repeat (first | exact HR0.out | (with_reducible refine Kd.C_alloc ?_ _) | (with_reducible refine Kd.C_drewN ?_ _) | (with_reducible refine Kd.C_drew ?_))); (case side2 => exact HC0.out); rintro e w54 ⟨v146, rfl, ho0, hb⟩; have n0_ := Aside0.mk (Kd.R_lower ho0 (below_size (by repeat (first | (with_reducible first | exact HB.out | apply below_alloc | apply pw_below_drewN | apply below_drew1) | exact HB.out)))); have n1_ := Aside0.mk (below_step (by repeat (first | (with_reducible first | exact HB.out | apply below_alloc | apply pw_below_drewN | apply below_drew1) | exact HB.out)) hb); clear HB; have HO147 := n0_; have HB := n1_; clear n0_ n1_; (try clear hb); (try clear hb2); (try clear hk); (try clear hi); (try clear ho0); obtain ⟨Ao55, co55, eo55⟩ := Kd.R_slice HO147.out; subst eo55) | (go_at_call 9; (with_reducible refine (wayfarerlaw08_known.calls k  t148 _ A53.out).mono ?_); rintro e w56 ⟨rfl, hb⟩; have n0_ := Aside0.mk (Kd.R_below (by (with_reducible repeat (first | apply Kd.R_alloc | apply Kd.R_drewN | apply Kd.R_drew)); exact HO147.out) hb); have n1_ := Aside0.mk (below_step (by repeat (first | (with_reducible first | exact HB.out | apply below_alloc | apply pw_below_drewN | apply below_drew1) | exact HB.out)) hb); clear HO147; clear HB; have HO147 := n0_; have HB := n1_; clear n0_ n1_; (try clear hb); (try clear hb2); (try clear hk); (try clear hi))))
        go_ret
        exact ⟨by first | rfl | (simp [errW_none, errW_some] <;> rfl) | (simp [*, errW_none, errW_some] <;> rfl), by repeat (first | (with_reducible first | exact HB.out | apply below_alloc | apply pw_below_drewN | apply below_drew1) | exact HB.out)⟩
      · rw [if_neg c52] at H
        have c52b0 : ((t143.length : Int) == 0) = false := beq_eq_false_iff_ne.mpr c52
        have c52b1 : ((t143.length : Int) != 0) = true := bne_iff_ne.mpr c52
        have c52b2 : ¬ (t143 = []) := fun h_ => c52 (by rw [h_]; rfl)
        obtain rfl := Option.some.inj H
        go_enter Try.func4, Try.ntmps4
        go_wp2_with (first | (go_at_call 13; (with_reducible refine (lexer_All.calls k _ _ l0 t143 t144 t145 _ ?side1 ?side2 A5.out).mono ?_); (case side1 => repeat (first | exact HR0.out | (with_reducible refine Kd.C_alloc ?_ _) | (with_reducible refine Kd.C_drewN ?_ _) | (with_reducible refine Kd.C_drew ?_))); (case side2 => exact HC0.out); rintro e w57 ⟨v146, rfl, ho0, hb⟩; have n0_ := Aside0.mk (Kd.R_lower ho0 (below_size (by repeat (first | (with_reducible first | exact HB.out | apply below_alloc | apply pw_below_drewN | apply below_drew1) | exact HB.out)))); have n1_ := Aside0.mk (below_step (by repeat (first | (with_reducible first | exact HB.out | apply below_alloc | apply pw_below_drewN | apply below_drew1) | exact HB.out)) hb); clear HB; have HO147 := n0_; have HB := n1_; clear n0_ n1_; (try clear hb); (try clear hb2); (try clear hk); (try clear hi); (try clear ho0); obtain ⟨Ao58, co58, eo58⟩ := Kd.R_slice HO147.out; subst eo58))
        repeat (go_quiet (first | (go_at_call 13; (with_reducible refine (lexer_All.calls k _ _ l0 t143 t144 t145 _ ?side1 ?side2 A5.out).mono ?_); (case side1 => repeat (first | exact HR0.out | (with_reducible refine Kd.C_alloc ?_ _) | (with_reducible refine Kd.C_drewN ?_ _) | (with_reducible refine Kd.C_drew ?_))); (case side2 => exact HC0.out); rintro e w57 ⟨v146, rfl, ho0, hb⟩; have n0_ := Aside0.mk (Kd.R_lower ho0 (below_size (by repeat (first | (with_reducible first | exact HB.out | apply below_alloc | apply pw_below_drewN | apply below_drew1) | exact HB.out)))); have n1_ := Aside0.mk (below_step (by repeat (first | (with_reducible first | exact HB.out | apply below_alloc | apply pw_below_drewN | apply below_drew1) | exact HB.out)) hb); clear HB; have HO147 := n0_; have HB := n1_; clear n0_ n1_; (try clear hb); (try clear hb2); (try clear hk); (try clear hi); (try clear ho0); obtain ⟨Ao58, co58, eo58⟩ := Kd.R_slice HO147.out; subst eo58)); try go_wp2_with (first | (go_at_call 13; (with_reducible refine (lexer_All.calls k _ _ l0 t143 t144 t145 _ ?side1 ?side2 A5.out).mono ?_); (case side1 => repeat (first | exact HR0.out | (with_reducible refine Kd.C_alloc ?_ _) | (with_reducible refine Kd.C_drewN ?_ _) | (with_reducible refine Kd.C_drew ?_))); (case side2 => exact HC0.out); rintro e w57 ⟨v146, rfl, ho0, hb⟩; have n0_ := Aside0.mk (Kd.R_lower ho0 (below_size (by repeat (first | (with_reducible first | exact HB.out | apply below_alloc | apply pw_below_drewN | apply below_drew1) | exact HB.out)))); have n1_ := Aside0.mk (below_step (by repeat (first | (with_reducible first | exact HB.out | apply below_alloc | apply pw_below_drewN | apply below_drew1) | exact HB.out)) hb); clear HB; have HO147 := n0_; have HB := n1_; clear n0_ n1_; (try clear hb); (try clear hb2); (try clear hk); (try clear hi); (try clear ho0); obtain ⟨Ao58, co58, eo58⟩ := Kd.R_slice HO147.out; subst eo58)))
        go_ret
        exact ⟨by first | rfl | (simp [errW_none, errW_some] <;> rfl) | (simp [*, errW_none, errW_some] <;> rfl), by repeat (first | (with_reducible first | exact HB.out | apply below_alloc | apply pw_below_drewN | apply below_drew1) | exact HB.out)⟩

/-- THE ONE PURE STATEMENT of wayfarerlaw08_LexerWhole: yours. -/
def wayfarerlaw08_LexerWhole.Pure : Prop := ∀ (l0 : List Int), l0.length ≤ maxLen → l0.length * 1 ≤ 140737488351232 → (∀ x ∈ l0, (Lit.int .u8 x).wf = true) → ∃ k, wayfarerlaw08_LexerWhole.f k l0 = some true
theorem wayfarerlaw08_LexerWhole.walk (P : wayfarerlaw08_LexerWhole.Pure) (a0 : Option Addr) (len0 cap0 : Nat) (z0 : List Int) (w : World) (w0 : (a0 = none ∧ len0 = 0 ∧ cap0 = 0 ∧ z0 = []) ∨ ∃ x, a0 = some x ∧ len0 ≤ cap0 ∧ cap0 ≤ maxLen ∧ z0.length = cap0 ∧ (∀ i, i < z0.length → w.cell? (x.add i) = some (.int .u8 (z0.getD i 0))) ∧ ∀ n ∈ z0, (Lit.int .u8 n).wf = true) (y0 : len0 * 1 ≤ 140737488351232) :
    Calls Try.prog 4 #[.slice a0 len0 cap0] w fun e w' => e = .returned (.bool true) ∧ Below w.heap.size w w' := by
  obtain ⟨l0, rfl, hr0, hm0, hw0, hc0⟩ := ReadsInt.ofRowC w0
  obtain ⟨k, h⟩ := P l0 hm0 y0 hw0
  refine (wayfarerlaw08_LexerWhole.calls k _ _ l0 true w (Kd.C_of_reads (d := (0 : Int)) (h1 := fun _ => rfl) hr0) hc0 h).mono ?_
  rintro e w' ⟨rfl, hd⟩
  exact ⟨rfl, hd⟩

end Go.Proofs.Ytildiabokdfjgaa.PLexerWhole
