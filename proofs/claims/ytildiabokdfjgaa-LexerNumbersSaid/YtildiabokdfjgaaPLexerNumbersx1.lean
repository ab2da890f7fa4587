/- Contracts of Go functions of this claim, and the Lean functions that they come to. -/
import Derived.Test.YtildiabokdfjgaaPLexerNumbersx0
namespace Go.Proofs.Ytildiabokdfjgaa.PLexerNumbers
open Go.RowKit Go.Proofs.YtildiabokdfjgaaW.PrintWords Go.Proofs.YtildiabokdfjgaaW.PrintLast Go.Proofs.YtildiabokdfjgaaW.PrintMore
attribute [local go_sem] max2_int min2_int max_two min_two max_three min_three max_four min_four   -- for this text's walks alone
set_option linter.unusedVariables false
set_option linter.unusedSimpArgs false

-- NOT PRINTED: function 11 (lexer_Tokens)

/-! ### lexer_blank: function 24 -/
def lexer_blank.f (a0 : Int) : Option (Bool) := if a0 = 32 then (some true) else (if a0 = 9 then (some true) else (if a0 = 10 then (some true) else (some (a0 == 13))))
set_option maxHeartbeats 8000000 in
set_option maxRecDepth 100000 in
theorem lexer_blank.calls (a0 : Int) (r : Bool) (w : World) (h : lexer_blank.f a0 = some r) :
  Calls Try.prog 24 #[.int .u8 a0] w fun e w' => e = .returned (.bool r) ∧ Drawn0 w w' := by
 have H : (if a0 = 32 then (some true) else (if a0 = 9 then (some true) else (if a0 = 10 then (some true) else (some (a0 == 13))))) = some r := h
 clear h
 by_cases c2 : a0 = 32
 ·rw [if_pos c2] at H
  have c2b0 : (a0 == 32) = true := beq_iff_eq.mpr c2
  have c2b1 : (a0 != 32) = false := bne_eq_false_iff_eq.mpr c2
  clear c2
  obtain rfl := Option.some.inj H
  go_enter Try.func24, Try.ntmps24
  go_wp2
  go_ret
  exact ⟨by first | rfl | (simp; done) | (simp [*]; done), by repeat (first | exact Drawn0.refl _ | apply Drawn0.step)⟩
 ·rw [if_neg c2] at H
  have c2b0 : (a0 == 32) = false := beq_eq_false_iff_ne.mpr c2
  have c2b1 : (a0 != 32) = true := bne_iff_ne.mpr c2
  by_cases c3 : a0 = 9
  ·rw [if_pos c3] at H
   have c3b0 : (a0 == 9) = true := beq_iff_eq.mpr c3
   have c3b1 : (a0 != 9) = false := bne_eq_false_iff_eq.mpr c3
   clear c3
   obtain rfl := Option.some.inj H
   go_enter Try.func24, Try.ntmps24
   go_wp2
   go_ret
   exact ⟨by first | rfl | (simp; done) | (simp [*]; done), by repeat (first | exact Drawn0.refl _ | apply Drawn0.step)⟩
  ·rw [if_neg c3] at H
   have c3b0 : (a0 == 9) = false := beq_eq_false_iff_ne.mpr c3
   have c3b1 : (a0 != 9) = true := bne_iff_ne.mpr c3
   by_cases c4 : a0 = 10
   ·rw [if_pos c4] at H
    have c4b0 : (a0 == 10) = true := beq_iff_eq.mpr c4
    have c4b1 : (a0 != 10) = false := bne_eq_false_iff_eq.mpr c4
    clear c4
    obtain rfl := Option.some.inj H
    go_enter Try.func24, Try.ntmps24
    go_wp2
    go_ret
    exact ⟨by first | rfl | (simp; done) | (simp [*]; done), by repeat (first | exact Drawn0.refl _ | apply Drawn0.step)⟩
   ·rw [if_neg c4] at H
    have c4b0 : (a0 == 10) = false := beq_eq_false_iff_ne.mpr c4
    have c4b1 : (a0 != 10) = true := bne_iff_ne.mpr c4
    obtain rfl := Option.some.inj H
    go_enter Try.func24, Try.ntmps24
    go_wp2
    go_ret
    exact ⟨by first | rfl | (simp; done) | (simp [*]; done), by repeat (first | exact Drawn0.refl _ | apply Drawn0.step)⟩

/-! ### lexer_start: function 20 -/
def lexer_start.l0 : Nat → List Int → Int → Option (Int)
 | 0, _, _ => none
 | k + 1, x0, x1 => if x1 < (x0.length : Int) then (if 0 ≤ x1 then ((lexer_blank.f (rd x0 x1)).bind fun t102 => (if t102 = true then (lexer_start.l0 k x0 (wrap64 (x1 + 1))) else (some x1))) else (none)) else (some x1)
def lexer_start.f (k : Nat) (l0 : List Int) (a1 : Int) : Option (Int) := lexer_start.l0 k l0 a1
theorem lexer_start.mono_l : ∀ k, (∀ y0 y1, LeO (lexer_start.l0 k y0 y1) (lexer_start.l0 (k + 1) y0 y1))
 | 0 => fun _ _ r h => by simp [lexer_start.l0] at h
 | k + 1 => by
  have ih0 := lexer_start.mono_l k
  ·intro y0 y1
   unfold lexer_start.l0
   repeat' first
   | (with_reducible exact ih0 _ _)
   | (with_reducible exact LeO.refl _)
   | (with_reducible exact LeO.none _)
   | (with_reducible refine LeO.ite ?_ ?_)
   | (with_reducible refine LeO.bind ?_ (fun _ => ?_))
   | exact ih0 _ _
   | exact LeO.none _
   | refine LeO.ite ?_ ?_
   | refine LeO.bind ?_ (fun _ => ?_)
theorem lexer_start.mono : ∀ a0 a1 k, LeO (lexer_start.f k a0 a1) (lexer_start.f (k + 1) a0 a1) := by
 intro a0 a1 k
 have ih0 := lexer_start.mono_l k
 unfold lexer_start.f
 repeat' first
   | (with_reducible exact ih0 _ _)
   | (with_reducible exact LeO.refl _)
   | (with_reducible exact LeO.none _)
   | (with_reducible refine LeO.ite ?_ ?_)
   | (with_reducible refine LeO.bind ?_ (fun _ => ?_))
   | exact ih0 _ _
   | exact LeO.none _
   | refine LeO.ite ?_ ?_
   | refine LeO.bind ?_ (fun _ => ?_)
set_option maxHeartbeats 8000000 in
set_option maxRecDepth 100000 in
theorem lexer_start.calls (k : Nat) (A0 : Option Addr) (c0 : Nat) (l0 : List Int) (a1 : Int) (r : Int) (w : World) (hr0 : Kd.C (Kd.int .u8) w A0 l0.length l0) (hc0 : l0.length ≤ c0) (h : lexer_start.f k l0 a1 = some r) :
  Calls Try.prog 20 #[.slice A0 l0.length c0, .int .i64 a1] w fun e w' => e = .returned (.int .i64 r) ∧ Drawn0 w w' := by
 have HR0 := Aside0.mk hr0
 have HC0 := Aside0.mk hc0
 clear hr0 hc0
 have H : (lexer_start.l0 k l0 a1) = some r := h
 clear h
 have H' := Aside0.mk H
 clear H
 go_enter Try.func20, Try.ntmps20
 go_wp2
 go_loopg [1] k (fun kq v1 w' => ∃ (x1_1 : Int), v1 = .int .i64 x1_1 ∧ Aside0 (lexer_start.l0 kq l0 x1_1 = some r) ∧ Aside0 (kq ≤ k) ∧ Drawn0 w w')
 case atStart => exact ⟨(a1), (by first | rfl | (simp; done) | (simp [*]; done)), H', ⟨Nat.le_refl _⟩, by repeat (first | exact Drawn0.refl _ | apply Drawn0.step)⟩
 case round =>
  clear H'
  try clear c2
  try clear p2
  obtain ⟨x1_1, rfl, HA, HK1, ⟨m1, rfl⟩⟩ := hrel
  cases gk with
  | zero => exact absurd HA.out (by simp [lexer_start.l0])
  | succ k1 =>
   have H := HA.out
   clear HA
   simp only [lexer_start.l0] at H
   by_cases c3 : x1_1 < (l0.length : Int)
   ·rw [if_pos c3] at H
    have c3b0 : decide (x1_1 < (l0.length : Int)) = true := decide_eq_true c3
    clear c3
    by_cases c4 : 0 ≤ x1_1
    ·rw [if_pos c4] at H
     have c4b0 : decide (0 ≤ x1_1) = true := decide_eq_true c4
     clear c4
     replace H := Option.bind_eq_some_iff.mp H
     obtain ⟨t102, A50, H⟩ := H
     replace H : (if t102 = true then (lexer_start.l0 k1 l0 (wrap64 (x1_1 + 1))) else (some x1_1)) = some r := H
     have A5 := Aside0.mk A50
     clear A50
     by_cases c6 : t102 = true
     ·subst c6
      have H1 : (lexer_start.l0 k1 l0 (wrap64 (x1_1 + 1))) = some r := by rw [if_pos rfl] at H; exact H
      clear H
      have H := H1
      clear H1
      have H' := Aside0.mk H
      clear H
      have p101 : 0 ≤ (x1_1 : Int) := of_decide_eq_true (by first | (with_reducible assumption) | assumption)
      have q101 : x1_1 < (l0.length : Int) := of_decide_eq_true (by first | (with_reducible assumption) | assumption)
      obtain ⟨ad101, e101, hx101_0⟩ := Kd.at_int HR0.out x1_1 p101 q101
      cases e101
      replace p101 := eq_true p101
      replace q101 := eq_true q101
      go_wp2_with (first | (go_at_call 24; (with_reducible refine (lexer_blank.calls (rd l0 x1_1) true _ A5.out).mono ?_); rintro e w' ⟨rfl, ⟨nd, rfl⟩⟩))
      go_roundg k1
      case measure => have := HK1.out; omega
      case rel => exact ⟨(wrap64 (x1_1 + 1)), (by first | rfl | (simp; done) | (simp [*]; done)), H', ⟨by have := HK1.out; omega⟩, by repeat (first | exact Drawn0.refl _ | apply Drawn0.step)⟩
     ·replace c6 := Bool.eq_false_iff.mpr c6
      subst c6
      have H1 : (some x1_1) = some r := by rw [if_neg (show ¬ (false = true) by decide)] at H; exact H
      clear H
      have H := H1
      clear H1
      obtain rfl := Option.some.inj H
      have p101 : 0 ≤ (x1_1 : Int) := of_decide_eq_true (by first | (with_reducible assumption) | assumption)
      have q101 : x1_1 < (l0.length : Int) := of_decide_eq_true (by first | (with_reducible assumption) | assumption)
      obtain ⟨ad101, e101, hx101_0⟩ := Kd.at_int HR0.out x1_1 p101 q101
      cases e101
      replace p101 := eq_true p101
      replace q101 := eq_true q101
      go_wp2_with (first | (go_at_call 24; (with_reducible refine (lexer_blank.calls (rd l0 x1_1) false _ A5.out).mono ?_); rintro e w' ⟨rfl, ⟨nd, rfl⟩⟩))
      go_ret
      exact ⟨by first | rfl | (simp; done) | (simp [*]; done), by repeat (first | exact Drawn0.refl _ | apply Drawn0.step)⟩
    ·rw [if_neg c4] at H
     exact absurd H (by simp)
   ·rw [if_neg c3] at H
    have c3b0 : decide (x1_1 < (l0.length : Int)) = false := decide_eq_false c3
    clear c3
    obtain rfl := Option.some.inj H
    go_wp2
    go_ret
    exact ⟨by first | rfl | (simp; done) | (simp [*]; done), by repeat (first | exact Drawn0.refl _ | apply Drawn0.step)⟩

/-! ### lexer_Sign: function 16 -/
def lexer_Sign.f (a0 : Int) : Option (Bool) := if a0 = 46 then (some true) else (if a0 = 40 then (some true) else (if a0 = 41 then (some true) else (if a0 = 44 then (some true) else (if a0 = 91 then (some true) else (if a0 = 93 then (some true) else (some false))))))
set_option maxHeartbeats 8000000 in
set_option maxRecDepth 100000 in
theorem lexer_Sign.calls (a0 : Int) (r : Bool) (w : World) (h : lexer_Sign.f a0 = some r) :
  Calls Try.prog 16 #[.int .u8 a0] w fun e w' => e = .returned (.bool r) ∧ Drawn0 w w' := by
 have H : (if a0 = 46 then (some true) else (if a0 = 40 then (some true) else (if a0 = 41 then (some true) else (if a0 = 44 then (some true) else (if a0 = 91 then (some true) else (if a0 = 93 then (some true) else (some false))))))) = some r := h
 clear h
 by_cases c2 : a0 = 46
 ·rw [if_pos c2] at H
  have c2b0 : (a0 == 46) = true := beq_iff_eq.mpr c2
  have c2b1 : (a0 != 46) = false := bne_eq_false_iff_eq.mpr c2
  clear c2
  obtain rfl := Option.some.inj H
  go_enter Try.func16, Try.ntmps16
  go_wp2
  go_ret
  exact ⟨by first | rfl | (simp; done) | (simp [*]; done), by repeat (first | exact Drawn0.refl _ | apply Drawn0.step)⟩
 ·rw [if_neg c2] at H
  have c2b0 : (a0 == 46) = false := beq_eq_false_iff_ne.mpr c2
  have c2b1 : (a0 != 46) = true := bne_iff_ne.mpr c2
  by_cases c3 : a0 = 40
  ·rw [if_pos c3] at H
   have c3b0 : (a0 == 40) = true := beq_iff_eq.mpr c3
   have c3b1 : (a0 != 40) = false := bne_eq_false_iff_eq.mpr c3
   clear c3
   obtain rfl := Option.some.inj H
   go_enter Try.func16, Try.ntmps16
   go_wp2
   go_ret
   exact ⟨by first | rfl | (simp; done) | (simp [*]; done), by repeat (first | exact Drawn0.refl _ | apply Drawn0.step)⟩
  ·rw [if_neg c3] at H
   have c3b0 : (a0 == 40) = false := beq_eq_false_iff_ne.mpr c3
   have c3b1 : (a0 != 40) = true := bne_iff_ne.mpr c3
   by_cases c4 : a0 = 41
   ·rw [if_pos c4] at H
    have c4b0 : (a0 == 41) = true := beq_iff_eq.mpr c4
    have c4b1 : (a0 != 41) = false := bne_eq_false_iff_eq.mpr c4
    clear c4
    obtain rfl := Option.some.inj H
    go_enter Try.func16, Try.ntmps16
    go_wp2
    go_ret
    exact ⟨by first | rfl | (simp; done) | (simp [*]; done), by repeat (first | exact Drawn0.refl _ | apply Drawn0.step)⟩
   ·rw [if_neg c4] at H
    have c4b0 : (a0 == 41) = false := beq_eq_false_iff_ne.mpr c4
    have c4b1 : (a0 != 41) = true := bne_iff_ne.mpr c4
    by_cases c5 : a0 = 44
    ·rw [if_pos c5] at H
     have c5b0 : (a0 == 44) = true := beq_iff_eq.mpr c5
     have c5b1 : (a0 != 44) = false := bne_eq_false_iff_eq.mpr c5
     clear c5
     obtain rfl := Option.some.inj H
     go_enter Try.func16, Try.ntmps16
     go_wp2
     go_ret
     exact ⟨by first | rfl | (simp; done) | (simp [*]; done), by repeat (first | exact Drawn0.refl _ | apply Drawn0.step)⟩
    ·rw [if_neg c5] at H
     have c5b0 : (a0 == 44) = false := beq_eq_false_iff_ne.mpr c5
     have c5b1 : (a0 != 44) = true := bne_iff_ne.mpr c5
     by_cases c6 : a0 = 91
     ·rw [if_pos c6] at H
      have c6b0 : (a0 == 91) = true := beq_iff_eq.mpr c6
      have c6b1 : (a0 != 91) = false := bne_eq_false_iff_eq.mpr c6
      clear c6
      obtain rfl := Option.some.inj H
      go_enter Try.func16, Try.ntmps16
      go_wp2
      go_ret
      exact ⟨by first | rfl | (simp; done) | (simp [*]; done), by repeat (first | exact Drawn0.refl _ | apply Drawn0.step)⟩
     ·rw [if_neg c6] at H
      have c6b0 : (a0 == 91) = false := beq_eq_false_iff_ne.mpr c6
      have c6b1 : (a0 != 91) = true := bne_iff_ne.mpr c6
      by_cases c7 : a0 = 93
      ·rw [if_pos c7] at H
       have c7b0 : (a0 == 93) = true := beq_iff_eq.mpr c7
       have c7b1 : (a0 != 93) = false := bne_eq_false_iff_eq.mpr c7
       clear c7
       obtain rfl := Option.some.inj H
       go_enter Try.func16, Try.ntmps16
       go_wp2
       go_ret
       exact ⟨by first | rfl | (simp; done) | (simp [*]; done), by repeat (first | exact Drawn0.refl _ | apply Drawn0.step)⟩
      ·rw [if_neg c7] at H
       have c7b0 : (a0 == 93) = false := beq_eq_false_iff_ne.mpr c7
       have c7b1 : (a0 != 93) = true := bne_iff_ne.mpr c7
       obtain rfl := Option.some.inj H
       go_enter Try.func16, Try.ntmps16
       go_wp2
       go_ret
       exact ⟨by first | rfl | (simp; done) | (simp [*]; done), by repeat (first | exact Drawn0.refl _ | apply Drawn0.step)⟩

/-! ### lexer_letter: function 25 -/
def lexer_letter.f (a0 : Int) : Option (Bool) := if a0 ≥ 97 then (if a0 ≤ 122 then (some true) else (if a0 ≥ 65 then (if a0 ≤ 90 then (some true) else (some (a0 == 95))) else (some (a0 == 95)))) else (if a0 ≥ 65 then (if a0 ≤ 90 then (some true) else (some (a0 == 95))) else (some (a0 == 95)))
set_option maxHeartbeats 8000000 in
set_option maxRecDepth 100000 in
theorem lexer_letter.calls (a0 : Int) (r : Bool) (w : World) (h : lexer_letter.f a0 = some r) :
  Calls Try.prog 25 #[.int .u8 a0] w fun e w' => e = .returned (.bool r) ∧ Drawn0 w w' := by
 have H : (if a0 ≥ 97 then (if a0 ≤ 122 then (some true) else (if a0 ≥ 65 then (if a0 ≤ 90 then (some true) else (some (a0 == 95))) else (some (a0 == 95)))) else (if a0 ≥ 65 then (if a0 ≤ 90 then (some true) else (some (a0 == 95))) else (some (a0 == 95)))) = some r := h
 clear h
 by_cases c2 : a0 ≥ 97
 ·rw [if_pos c2] at H
  have c2b0 : decide (97 ≤ a0) = true := decide_eq_true c2
  clear c2
  by_cases c3 : a0 ≤ 122
  ·rw [if_pos c3] at H
   have c3b0 : decide (a0 ≤ 122) = true := decide_eq_true c3
   clear c3
   obtain rfl := Option.some.inj H
   go_enter Try.func25, Try.ntmps25
   go_wp2
   go_ret
   exact ⟨by first | rfl | (simp; done) | (simp [*]; done), by repeat (first | exact Drawn0.refl _ | apply Drawn0.step)⟩
  ·rw [if_neg c3] at H
   have c3b0 : decide (a0 ≤ 122) = false := decide_eq_false c3
   clear c3
   by_cases c4 : a0 ≥ 65
   ·rw [if_pos c4] at H
    have c4b0 : decide (65 ≤ a0) = true := decide_eq_true c4
    clear c4
    by_cases c5 : a0 ≤ 90
    ·rw [if_pos c5] at H
     have c5b0 : decide (a0 ≤ 90) = true := decide_eq_true c5
     clear c5
     obtain rfl := Option.some.inj H
     go_enter Try.func25, Try.ntmps25
     go_wp2
     go_ret
     exact ⟨by first | rfl | (simp; done) | (simp [*]; done), by repeat (first | exact Drawn0.refl _ | apply Drawn0.step)⟩
    ·rw [if_neg c5] at H
     have c5b0 : decide (a0 ≤ 90) = false := decide_eq_false c5
     clear c5
     obtain rfl := Option.some.inj H
     go_enter Try.func25, Try.ntmps25
     go_wp2
     go_ret
     exact ⟨by first | rfl | (simp; done) | (simp [*]; done), by repeat (first | exact Drawn0.refl _ | apply Drawn0.step)⟩
   ·rw [if_neg c4] at H
    have c4b0 : decide (65 ≤ a0) = false := decide_eq_false c4
    clear c4
    obtain rfl := Option.some.inj H
    go_enter Try.func25, Try.ntmps25
    go_wp2
    go_ret
    exact ⟨by first | rfl | (simp; done) | (simp [*]; done), by repeat (first | exact Drawn0.refl _ | apply Drawn0.step)⟩
 ·rw [if_neg c2] at H
  have c2b0 : decide (97 ≤ a0) = false := decide_eq_false c2
  clear c2
  by_cases c6 : a0 ≥ 65
  ·rw [if_pos c6] at H
   have c6b0 : decide (65 ≤ a0) = true := decide_eq_true c6
   clear c6
   by_cases c7 : a0 ≤ 90
   ·rw [if_pos c7] at H
    have c7b0 : decide (a0 ≤ 90) = true := decide_eq_true c7
    clear c7
    obtain rfl := Option.some.inj H
    go_enter Try.func25, Try.ntmps25
    go_wp2
    go_ret
    exact ⟨by first | rfl | (simp; done) | (simp [*]; done), by repeat (first | exact Drawn0.refl _ | apply Drawn0.step)⟩
   ·rw [if_neg c7] at H
    have c7b0 : decide (a0 ≤ 90) = false := decide_eq_false c7
    clear c7
    obtain rfl := Option.some.inj H
    go_enter Try.func25, Try.ntmps25
    go_wp2
    go_ret
    exact ⟨by first | rfl | (simp; done) | (simp [*]; done), by repeat (first | exact Drawn0.refl _ | apply Drawn0.step)⟩
  ·rw [if_neg c6] at H
   have c6b0 : decide (65 ≤ a0) = false := decide_eq_false c6
   clear c6
   obtain rfl := Option.some.inj H
   go_enter Try.func25, Try.ntmps25
   go_wp2
   go_ret
   exact ⟨by first | rfl | (simp; done) | (simp [*]; done), by repeat (first | exact Drawn0.refl _ | apply Drawn0.step)⟩

/-! ### lexer_digit: function 27 -/
def lexer_digit.f (a0 : Int) : Option (Bool) := if a0 ≥ 48 then (some (decide (a0 ≤ 57))) else (some false)
set_option maxHeartbeats 8000000 in
set_option maxRecDepth 100000 in
theorem lexer_digit.calls (a0 : Int) (r : Bool) (w : World) (h : lexer_digit.f a0 = some r) :
  Calls Try.prog 27 #[.int .u8 a0] w fun e w' => e = .returned (.bool r) ∧ Drawn0 w w' := by
 have H : (if a0 ≥ 48 then (some (decide (a0 ≤ 57))) else (some false)) = some r := h
 clear h
 by_cases c2 : a0 ≥ 48
 ·rw [if_pos c2] at H
  have c2b0 : decide (48 ≤ a0) = true := decide_eq_true c2
  clear c2
  obtain rfl := Option.some.inj H
  go_enter Try.func27, Try.ntmps27
  go_wp2
  go_ret
  exact ⟨by first | rfl | (simp; done) | (simp [*]; done), by repeat (first | exact Drawn0.refl _ | apply Drawn0.step)⟩
 ·rw [if_neg c2] at H
  have c2b0 : decide (48 ≤ a0) = false := decide_eq_false c2
  clear c2
  obtain rfl := Option.some.inj H
  go_enter Try.func27, Try.ntmps27
  go_wp2
  go_ret
  exact ⟨by first | rfl | (simp; done) | (simp [*]; done), by repeat (first | exact Drawn0.refl _ | apply Drawn0.step)⟩

/-! ### lexer_run: function 26 -/
def lexer_run.l0 : Nat → List Int → Int → Option (Int)
 | 0, _, _ => none
 | k + 1, x0, x1 => if x1 < (x0.length : Int) then (if 0 ≤ x1 then ((lexer_letter.f (rd x0 x1)).bind fun t104 => (if t104 = true then (lexer_run.l0 k x0 (wrap64 (x1 + 1))) else ((lexer_digit.f (rd x0 x1)).bind fun t106 => (if t106 = true then (lexer_run.l0 k x0 (wrap64 (x1 + 1))) else (some x1))))) else (none)) else (some x1)
def lexer_run.f (k : Nat) (l0 : List Int) (a1 : Int) : Option (Int) := lexer_run.l0 k l0 a1
theorem lexer_run.mono_l : ∀ k, (∀ y0 y1, LeO (lexer_run.l0 k y0 y1) (lexer_run.l0 (k + 1) y0 y1))
 | 0 => fun _ _ r h => by simp [lexer_run.l0] at h
 | k + 1 => by
  have ih0 := lexer_run.mono_l k
  ·intro y0 y1
   unfold lexer_run.l0
   repeat' first
   | (with_reducible exact ih0 _ _)
   | (with_reducible exact LeO.refl _)
   | (with_reducible exact LeO.none _)
   | (with_reducible refine LeO.ite ?_ ?_)
   | (with_reducible refine LeO.bind ?_ (fun _ => ?_))
   | exact ih0 _ _
   | exact LeO.none _
   | refine LeO.ite ?_ ?_
   | refine LeO.bind ?_ (fun _ => ?_)
theorem lexer_run.mono : ∀ a0 a1 k, LeO (lexer_run.f k a0 a1) (lexer_run.f (k + 1) a0 a1) := by
 intro a0 a1 k
 have ih0 := lexer_run.mono_l k
 unfold lexer_run.f
 repeat' first
   | (with_reducible exact ih0 _ _)
   | (with_reducible exact LeO.refl _)
   | (with_reducible exact LeO.none _)
   | (with_reducible refine LeO.ite ?_ ?_)
   | (with_reducible refine LeO.bind ?_ (fun _ => ?_))
   | exact ih0 _ _
   | exact LeO.none _
   | refine LeO.ite ?_ ?_
   | refine LeO.bind ?_ (fun _ => ?_)
set_option maxHeartbeats 8000000 in
set_option maxRecDepth 100000 in
theorem lexer_run.calls (k : Nat) (A0 : Option Addr) (c0 : Nat) (l0 : List Int) (a1 : Int) (r : Int) (w : World) (hr0 : Kd.C (Kd.int .u8) w A0 l0.length l0) (hc0 : l0.length ≤ c0) (h : lexer_run.f k l0 a1 = some r) :
  Calls Try.prog 26 #[.slice A0 l0.length c0, .int .i64 a1] w fun e w' => e = .returned (.int .i64 r) ∧ Drawn0 w w' := by
 have HR0 := Aside0.mk hr0
 have HC0 := Aside0.mk hc0
 clear hr0 hc0
 have H : (lexer_run.l0 k l0 a1) = some r := h
 clear h
 have H' := Aside0.mk H
 clear H
 go_enter Try.func26, Try.ntmps26
 go_wp2
 go_loopg [1] k (fun kq v1 w' => ∃ (x1_1 : Int), v1 = .int .i64 x1_1 ∧ Aside0 (lexer_run.l0 kq l0 x1_1 = some r) ∧ Aside0 (kq ≤ k) ∧ Drawn0 w w')
 case atStart => exact ⟨(a1), (by first | rfl | (simp; done) | (simp [*]; done)), H', ⟨Nat.le_refl _⟩, by repeat (first | exact Drawn0.refl _ | apply Drawn0.step)⟩
 case round =>
  clear H'
  try clear c2
  try clear p2
  obtain ⟨x1_1, rfl, HA, HK1, ⟨m1, rfl⟩⟩ := hrel
  cases gk with
  | zero => exact absurd HA.out (by simp [lexer_run.l0])
  | succ k1 =>
   have H := HA.out
   clear HA
   simp only [lexer_run.l0] at H
   by_cases c3 : x1_1 < (l0.length : Int)
   ·rw [if_pos c3] at H
    have c3b0 : decide (x1_1 < (l0.length : Int)) = true := decide_eq_true c3
    clear c3
    by_cases c4 : 0 ≤ x1_1
    ·rw [if_pos c4] at H
     have c4b0 : decide (0 ≤ x1_1) = true := decide_eq_true c4
     clear c4
     replace H := Option.bind_eq_some_iff.mp H
     obtain ⟨t104, A50, H⟩ := H
     replace H : (if t104 = true then (lexer_run.l0 k1 l0 (wrap64 (x1_1 + 1))) else ((lexer_digit.f (rd l0 x1_1)).bind fun t106 => (if t106 = true then (lexer_run.l0 k1 l0 (wrap64 (x1_1 + 1))) else (some x1_1)))) = some r := H
     have A5 := Aside0.mk A50
     clear A50
     by_cases c6 : t104 = true
     ·subst c6
      have H1 : (lexer_run.l0 k1 l0 (wrap64 (x1_1 + 1))) = some r := by rw [if_pos rfl] at H; exact H
      clear H
      have H := H1
      clear H1
      have H' := Aside0.mk H
      clear H
      have p103 : 0 ≤ (x1_1 : Int) := of_decide_eq_true (by first | (with_reducible assumption) | assumption)
      have q103 : x1_1 < (l0.length : Int) := of_decide_eq_true (by first | (with_reducible assumption) | assumption)
      obtain ⟨ad103, e103, hx103_0⟩ := Kd.at_int HR0.out x1_1 p103 q103
      cases e103
      replace p103 := eq_true p103
      replace q103 := eq_true q103
      go_wp2_with (first | (go_at_call 25; (with_reducible refine (lexer_letter.calls (rd l0 x1_1) true _ A5.out).mono ?_); rintro e w' ⟨rfl, ⟨nd, rfl⟩⟩))
      go_roundg k1
      case measure => have := HK1.out; omega
      case rel => exact ⟨(wrap64 (x1_1 + 1)), (by first | rfl | (simp; done) | (simp [*]; done)), H', ⟨by have := HK1.out; omega⟩, by repeat (first | exact Drawn0.refl _ | apply Drawn0.step)⟩
     ·replace c6 := Bool.eq_false_iff.mpr c6
      subst c6
      have H1 : ((lexer_digit.f (rd l0 x1_1)).bind fun t106 => (if t106 = true then (lexer_run.l0 k1 l0 (wrap64 (x1_1 + 1))) else (some x1_1))) = some r := by rw [if_neg (show ¬ (false = true) by decide)] at H; exact H
      clear H
      have H := H1
      clear H1
      replace H := Option.bind_eq_some_iff.mp H
      obtain ⟨t106, A70, H⟩ := H
      replace H : (if t106 = true then (lexer_run.l0 k1 l0 (wrap64 (x1_1 + 1))) else (some x1_1)) = some r := H
      have A7 := Aside0.mk A70
      clear A70
      by_cases c8 : t106 = true
      ·subst c8
       have H1 : (lexer_run.l0 k1 l0 (wrap64 (x1_1 + 1))) = some r := by rw [if_pos rfl] at H; exact H
       clear H
       have H := H1
       clear H1
       have H' := Aside0.mk H
       clear H
       have p103 : 0 ≤ (x1_1 : Int) := of_decide_eq_true (by first | (with_reducible assumption) | assumption)
       have q103 : x1_1 < (l0.length : Int) := of_decide_eq_true (by first | (with_reducible assumption) | assumption)
       obtain ⟨ad103, e103, hx103_0⟩ := Kd.at_int HR0.out x1_1 p103 q103
       cases e103
       replace p103 := eq_true p103
       replace q103 := eq_true q103
       go_wp2_with (first | (go_at_call 25; (with_reducible refine (lexer_letter.calls (rd l0 x1_1) false _ A5.out).mono ?_); rintro e w' ⟨rfl, ⟨nd, rfl⟩⟩; have p105 : 0 ≤ (x1_1 : Int) := of_decide_eq_true (by first | (with_reducible assumption) | assumption); have q105 : x1_1 < (l0.length : Int) := of_decide_eq_true (by first | (with_reducible assumption) | assumption); obtain ⟨ad105, e105, hx105_0⟩ := Kd.at_int HR0.out x1_1 p105 q105; obtain rfl : ad103 = ad105 := (by injection e105); replace p105 := eq_true p105; replace q105 := eq_true q105) | (go_at_call 27; (with_reducible refine (lexer_digit.calls (rd l0 x1_1) true _ A7.out).mono ?_); rintro e w' ⟨rfl, ⟨nd, rfl⟩⟩))
       go_roundg k1
       case measure => have := HK1.out; omega
       case rel => exact ⟨(wrap64 (x1_1 + 1)), (by first | rfl | (simp; done) | (simp [*]; done)), H', ⟨by have := HK1.out; omega⟩, by repeat (first | exact Drawn0.refl _ | apply Drawn0.step)⟩
      ·replace c8 := Bool.eq_false_iff.mpr c8
       subst c8
       have H1 : (some x1_1) = some r := by rw [if_neg (show ¬ (false = true) by decide)] at H; exact H
       clear H
       have H := H1
       clear H1
       obtain rfl := Option.some.inj H
       have p103 : 0 ≤ (x1_1 : Int) := of_decide_eq_true (by first | (with_reducible assumption) | assumption)
       have q103 : x1_1 < (l0.length : Int) := of_decide_eq_true (by first | (with_reducible assumption) | assumption)
       obtain ⟨ad103, e103, hx103_0⟩ := Kd.at_int HR0.out x1_1 p103 q103
       cases e103
       replace p103 := eq_true p103
       replace q103 := eq_true q103
       go_wp2_with (first | (go_at_call 25; (with_reducible refine (lexer_letter.calls (rd l0 x1_1) false _ A5.out).mono ?_); rintro e w' ⟨rfl, ⟨nd, rfl⟩⟩; have p105 : 0 ≤ (x1_1 : Int) := of_decide_eq_true (by first | (with_reducible assumption) | assumption); have q105 : x1_1 < (l0.length : Int) := of_decide_eq_true (by first | (with_reducible assumption) | assumption); obtain ⟨ad105, e105, hx105_0⟩ := Kd.at_int HR0.out x1_1 p105 q105; obtain rfl : ad103 = ad105 := (by injection e105); replace p105 := eq_true p105; replace q105 := eq_true q105) | (go_at_call 27; (with_reducible refine (lexer_digit.calls (rd l0 x1_1) false _ A7.out).mono ?_); rintro e w' ⟨rfl, ⟨nd, rfl⟩⟩))
       go_ret
       exact ⟨by first | rfl | (simp; done) | (simp [*]; done), by repeat (first | exact Drawn0.refl _ | apply Drawn0.step)⟩
    ·rw [if_neg c4] at H
     exact absurd H (by simp)
   ·rw [if_neg c3] at H
    have c3b0 : decide (x1_1 < (l0.length : Int)) = false := decide_eq_false c3
    clear c3
    obtain rfl := Option.some.inj H
    go_wp2
    go_ret
    exact ⟨by first | rfl | (simp; done) | (simp [*]; done), by repeat (first | exact Drawn0.refl _ | apply Drawn0.step)⟩

/-! ### bits_Mul64: function 36 -/
def U64 (x : Int) : Prop := 0 ≤ x ∧ x ≤ 18446744073709551615
instance (x : Int) : Decidable (U64 x) := by unfold U64; infer_instance
def bits_Mul64.f (a0 : Int) (a1 : Int) : Option (Int × Int) := if U64 a0 ∧ U64 a1 then some (a0 * a1 / 18446744073709551616, a0 * a1 % 18446744073709551616) else none
namespace Mul64w
theorem maskN (a : Nat) (ha : a < 18446744073709551616) : bits .and .u64 (a : Int) 4294967295 = ((a % 4294967296 : Nat) : Int) := by
  rw [and_low32 _ (by omega) (by omega)]; omega
theorem divN (a : Nat) : (a : Int) / 4294967296 = ((a / 4294967296 : Nat) : Int) := by omega
theorem mulN (a b : Nat) : (a : Int) * (b : Int) = ((a * b : Nat) : Int) := (Int.natCast_mul a b).symm
theorem addN (a b : Nat) : (a : Int) + (b : Int) = ((a + b : Nat) : Int) := (Int.natCast_add a b).symm
theorem wrapN (a : Nat) (ha : a < 18446744073709551616) : IntKind.u64.wrap (a : Int) = (a : Int) := by rw [IntKind.wrap_u64]; omega
theorem wrapM (a : Nat) : IntKind.u64.wrap (a : Int) = ((a % 18446744073709551616 : Nat) : Int) := by rw [IntKind.wrap_u64]; omega
end Mul64w
set_option maxHeartbeats 8000000 in
set_option maxRecDepth 100000 in
theorem bits_Mul64.calls (a0 : Int) (a1 : Int) (r1 : Int) (r2 : Int) (w : World) (h : bits_Mul64.f a0 a1 = some (r1, r2)) :
    Calls Try.prog 36 #[.int .u64 a0, .int .u64 a1] w fun e w' => e = .returned (.tuple #[.int .u64 r1, .int .u64 r2]) ∧ Drawn0 w w' := by
  unfold bits_Mul64.f at h
  split at h
  · rename_i hu
    unfold U64 at hu
    obtain ⟨⟨u1, u2⟩, u3, u4⟩ := hu
    simp only [Option.some.injEq, Prod.mk.injEq] at h
    obtain ⟨rfl, rfl⟩ := h
    obtain ⟨x, rfl⟩ := Int.eq_ofNat_of_zero_le u1
    obtain ⟨y, rfl⟩ := Int.eq_ofNat_of_zero_le u3
    have hx : x < 18446744073709551616 := by omega
    have hy : y < 18446744073709551616 := by omega
    clear u1 u2 u3 u4
    obtain ⟨bd, bt, bw, hhi⟩ := Lib.mul64_hi x y hx hy
    have ba := Lib.half_mul_le (a := x / 4294967296) (b := y / 4294967296) (by omega) (by omega)
    have bb := Lib.half_mul_le (a := x / 4294967296) (b := y % 4294967296) (by omega) (by omega)
    have bc := Lib.half_mul_le (a := x % 4294967296) (b := y / 4294967296) (by omega) (by omega)
    have ba' : x / 4294967296 * (y / 4294967296) < 18446744073709551616 := by omega
    have bb' : x / 4294967296 * (y % 4294967296) < 18446744073709551616 := by omega
    have bc' : x % 4294967296 * (y / 4294967296) < 18446744073709551616 := by omega
    have bh1 : x / 4294967296 * (y / 4294967296) + (x / 4294967296 * (y % 4294967296) + x % 4294967296 * (y % 4294967296) / 4294967296) / 4294967296 < 18446744073709551616 := by omega
    have bh : x / 4294967296 * (y / 4294967296) + (x / 4294967296 * (y % 4294967296) + x % 4294967296 * (y % 4294967296) / 4294967296) / 4294967296 + ((x / 4294967296 * (y % 4294967296) + x % 4294967296 * (y % 4294967296) / 4294967296) % 4294967296 + x % 4294967296 * (y / 4294967296)) / 4294967296 < 18446744073709551616 := by omega
    have e1 : ((x : Int) * (y : Int) / 18446744073709551616) = ((x * y / 18446744073709551616 : Nat) : Int) := by rw [← Int.natCast_mul]; omega
    have e2 : ((x : Int) * (y : Int) % 18446744073709551616) = ((x * y % 18446744073709551616 : Nat) : Int) := by rw [← Int.natCast_mul]; omega
    rw [e1, e2]
    clear e1 e2
    have HHI := Aside0.mk hhi
    clear hhi
    go_enter Try.func36, Try.ntmps36
    go_wp2
    simp only [Mul64w.maskN x hx, Mul64w.maskN y hy, Mul64w.divN, Mul64w.mulN, Mul64w.addN, Mul64w.wrapN _ bd, Mul64w.wrapN _ bb', Mul64w.wrapN _ bt, Mul64w.maskN _ bt, Mul64w.wrapN _ bc', Mul64w.wrapN _ bw, Mul64w.wrapN _ ba', Mul64w.wrapN _ bh1, Mul64w.wrapN _ bh, Mul64w.wrapM (x * y)]
    rw [HHI.out]
    go_ret2
    exact ⟨rfl, by repeat (first | exact Drawn0.refl _ | apply Drawn0.step)⟩
  · cases h

/-! ### ints_size: function 37 -/
def I64 (x : Int) : Prop := -9223372036854775808 ≤ x ∧ x ≤ 9223372036854775807
instance (x : Int) : Decidable (I64 x) := by unfold I64; infer_instance
def ints_size.f (a0 : Int) : Option (Int) := if I64 a0 then some (a0.natAbs : Int) else none
set_option maxHeartbeats 8000000 in
set_option maxRecDepth 100000 in
theorem ints_size.calls (a0 : Int) (r : Int) (w : World) (h : ints_size.f a0 = some r) :
    Calls Try.prog 37 #[.int .i64 a0] w fun e w' => e = .returned (.int .u64 r) ∧ Drawn0 w w' := by
  unfold ints_size.f at h
  split at h
  · rename_i hi
    unfold I64 at hi
    obtain ⟨hi1, hi2⟩ := hi
    obtain rfl := Option.some.inj h
    clear h
    by_cases c : a0 < 0
    · have c2b0 : decide (a0 < 0) = true := decide_eq_true c
      have e : IntKind.u64.wrap (-(IntKind.u64.wrap a0)) = (a0.natAbs : Int) := by simp only [IntKind.wrap_u64]; omega
      have E := Aside0.mk e
      clear e c
      go_enter Try.func37, Try.ntmps37
      go_wp2
      go_ret
      exact ⟨by first | rfl | (rw [E.out]; rfl), Drawn0.refl _⟩
    · have c2b0 : decide (a0 < 0) = false := decide_eq_false c
      have e : IntKind.u64.wrap a0 = (a0.natAbs : Int) := by simp only [IntKind.wrap_u64]; omega
      rw [← e]
      clear e
      go_enter Try.func37, Try.ntmps37
      go_wp2
      go_ret
      exact ⟨by first | rfl | exact congrArg (fun z => Ending.returned (Value.int IntKind.u64 z)) (by simp only [IntKind.wrap_u64]; omega), Drawn0.refl _⟩
  · cases h

/-! ### ints_mul: function 33 -/
def ints_mul.f (a0 : Int) (a1 : Int) : Option (Int × Bool) := if I64 a0 ∧ I64 a1 then some (if I64 (a0 * a1) then (a0 * a1, true) else (0, false)) else none
theorem ints_mul.abs (a b : Int) : ((a * b).natAbs : Int) = (a.natAbs : Int) * (b.natAbs : Int) := by rw [Int.natAbs_mul]; exact Int.natCast_mul _ _
theorem ints_mul.sign (a b : Int) : (decide (a < 0) != decide (b < 0)) = true → a * b ≤ 0 := by
  intro h
  by_cases ha : a < 0 <;> by_cases hb : b < 0 <;> simp [ha, hb] at h
  · exact Int.mul_nonpos_of_nonpos_of_nonneg (by omega) (by omega)
  · exact Int.mul_nonpos_of_nonneg_of_nonpos (by omega) (by omega)
theorem ints_mul.sign' (a b : Int) : (decide (a < 0) != decide (b < 0)) = false → 0 ≤ a * b := by
  intro h
  by_cases ha : a < 0 <;> by_cases hb : b < 0 <;> simp [ha, hb] at h
  · exact Int.mul_nonneg_of_nonpos_of_nonpos (by omega) (by omega)
  · exact Int.mul_nonneg (by omega) (by omega)
set_option maxHeartbeats 8000000 in
set_option maxRecDepth 100000 in
theorem ints_mul.calls (a0 : Int) (a1 : Int) (r1 : Int) (r2 : Bool) (w : World) (h : ints_mul.f a0 a1 = some (r1, r2)) :
    Calls Try.prog 33 #[.int .i64 a0, .int .i64 a1] w fun e w' => e = .returned (.tuple #[.int .i64 r1, .bool r2]) ∧ Drawn0 w w' := by
  unfold ints_mul.f at h
  split at h
  · rename_i hi
    have hab := ints_mul.abs a0 a1
    have hs := ints_mul.sign a0 a1
    have hs' := ints_mul.sign' a0 a1
    have A1 : Aside0 (ints_size.f a0 = some (a0.natAbs : Int)) := ⟨if_pos hi.1⟩
    have A2 : Aside0 (ints_size.f a1 = some (a1.natAbs : Int)) := ⟨if_pos hi.2⟩
    have A3 : Aside0 (bits_Mul64.f (a0.natAbs : Int) (a1.natAbs : Int) = some (((a0 * a1).natAbs : Int) / 18446744073709551616, ((a0 * a1).natAbs : Int) % 18446744073709551616)) := ⟨by
      rw [hab]; exact if_pos (by unfold U64; unfold I64 at hi; omega)⟩
    clear hi hab
    have H := Option.some.inj h
    clear h
    generalize a0 * a1 = p at H hs hs' A3
    generalize hq1 : ((p.natAbs : Int) / 18446744073709551616) = q1 at A3
    generalize hq2 : ((p.natAbs : Int) % 18446744073709551616) = q2 at A3
    have hp1 : 0 ≤ q1 := by omega
    have hq20 : 0 ≤ q2 := by omega
    have hq2l : q2 < 18446744073709551616 := by omega
    have hpq : (p.natAbs : Int) = q1 * 18446744073709551616 + q2 := by omega
    clear hq1 hq2
    have w1 : q2 ≤ 9223372036854775808 → wrap64 (IntKind.u64.wrap (-q2)) = -q2 := fun h => by simp only [IntKind.wrap_u64]; unfold wrap64; omega
    have w2 : q2 < 9223372036854775808 → wrap64 q2 = q2 := fun h => by unfold wrap64; omega
    by_cases c1 : q1 = 0
    · have c1b0 : (q1 == 0) = true := beq_iff_eq.mpr c1
      have c1b1 : (q1 != 0) = false := bne_eq_false_iff_eq.mpr c1
      have hpq2 : (p.natAbs : Int) = q2 := by omega
      clear hpq hp1 c1
      by_cases c2 : q2 > 9223372036854775808
      · have c2b0 : decide (9223372036854775808 < q2) = true := decide_eq_true c2
        have hr : (0, false) = (r1, r2) := by rw [if_neg (by unfold I64; omega)] at H; exact H
        cases hr
        clear H hs hs' hpq2 hq20 hq2l c2 w1 w2
        go_enter Try.func33, Try.ntmps33
        go_wp2_with (first | (go_at_call 37; first | ((with_reducible refine (ints_size.calls _ _ _ A1.out).mono ?_); rintro e w' ⟨rfl, ⟨nd, rfl⟩⟩) | ((with_reducible refine (ints_size.calls _ _ _ A2.out).mono ?_); rintro e w' ⟨rfl, ⟨nd, rfl⟩⟩)) | (go_at_call 36; (with_reducible refine (bits_Mul64.calls _ _ _ _ _ A3.out).mono ?_); rintro e w' ⟨rfl, ⟨nd, rfl⟩⟩))
        go_ret2
        exact ⟨by first | rfl | (simp; done), by repeat (first | exact Drawn0.refl _ | apply Drawn0.step)⟩
      · have c2b0 : decide (9223372036854775808 < q2) = false := decide_eq_false c2
        by_cases hm : (decide (a0 < 0) == decide (a1 < 0)) = true
        · have hm2 : (decide (a0 < 0) != decide (a1 < 0)) = false := by rw [bne, hm]; rfl
          have hpos := hs' hm2
          by_cases c3 : q2 = 9223372036854775808
          · have c3b0 : (q2 == 9223372036854775808) = true := beq_iff_eq.mpr c3
            have hr : (0, false) = (r1, r2) := by rw [if_neg (by unfold I64; omega)] at H; exact H
            cases hr
            clear H hs hs' hpq2 hq20 hq2l c2 c3 w1 w2 hpos
            go_enter Try.func33, Try.ntmps33
            go_wp2_with (first | (go_at_call 37; first | ((with_reducible refine (ints_size.calls _ _ _ A1.out).mono ?_); rintro e w' ⟨rfl, ⟨nd, rfl⟩⟩) | ((with_reducible refine (ints_size.calls _ _ _ A2.out).mono ?_); rintro e w' ⟨rfl, ⟨nd, rfl⟩⟩)) | (go_at_call 36; (with_reducible refine (bits_Mul64.calls _ _ _ _ _ A3.out).mono ?_); rintro e w' ⟨rfl, ⟨nd, rfl⟩⟩))
            go_ret2
            exact ⟨by first | rfl | (simp; done), by repeat (first | exact Drawn0.refl _ | apply Drawn0.step)⟩
          · have c3b0 : (q2 == 9223372036854775808) = false := beq_eq_false_iff_ne.mpr c3
            have hr : (q2, true) = (r1, r2) := by rw [if_pos (by unfold I64; omega)] at H; rw [← H, show p = q2 by omega]
            cases hr
            have HW := Aside0.mk (w2 (by omega))
            clear H hs hs' hpq2 hq20 hq2l c2 c3 w1 w2 hpos
            go_enter Try.func33, Try.ntmps33
            go_wp2_with (first | (go_at_call 37; first | ((with_reducible refine (ints_size.calls _ _ _ A1.out).mono ?_); rintro e w' ⟨rfl, ⟨nd, rfl⟩⟩) | ((with_reducible refine (ints_size.calls _ _ _ A2.out).mono ?_); rintro e w' ⟨rfl, ⟨nd, rfl⟩⟩)) | (go_at_call 36; (with_reducible refine (bits_Mul64.calls _ _ _ _ _ A3.out).mono ?_); rintro e w' ⟨rfl, ⟨nd, rfl⟩⟩))
            go_ret2
            exact ⟨by first | rfl | (rw [HW.out]; rfl) | exact congrArg (fun z => Ending.returned (.tuple #[Value.int IntKind.i64 z, .bool true])) HW.out, by repeat (first | exact Drawn0.refl _ | apply Drawn0.step)⟩
        · replace hm := Bool.eq_false_iff.mpr hm
          have hm2 : (decide (a0 < 0) != decide (a1 < 0)) = true := by rw [bne, hm]; rfl
          have hpos := hs hm2
          have hr : (-q2, true) = (r1, r2) := by rw [if_pos (by unfold I64; omega)] at H; rw [← H, show p = -q2 by omega]
          cases hr
          have HW : Aside0 (wrap64 (IntKind.u64.wrap (-q2)) = -q2) := ⟨w1 (by omega)⟩
          by_cases c3 : q2 = 9223372036854775808
          · have c3b0 : (q2 == 9223372036854775808) = true := beq_iff_eq.mpr c3
            clear H hs hs' hpq2 hq20 hq2l c2 c3 w1 w2 hpos
            go_enter Try.func33, Try.ntmps33
            go_wp2_with (first | (go_at_call 37; first | ((with_reducible refine (ints_size.calls _ _ _ A1.out).mono ?_); rintro e w' ⟨rfl, ⟨nd, rfl⟩⟩) | ((with_reducible refine (ints_size.calls _ _ _ A2.out).mono ?_); rintro e w' ⟨rfl, ⟨nd, rfl⟩⟩)) | (go_at_call 36; (with_reducible refine (bits_Mul64.calls _ _ _ _ _ A3.out).mono ?_); rintro e w' ⟨rfl, ⟨nd, rfl⟩⟩))
            go_ret2
            exact ⟨by first | rfl | (rw [HW.out]; rfl) | exact congrArg (fun z => Ending.returned (.tuple #[Value.int IntKind.i64 z, .bool true])) HW.out, by repeat (first | exact Drawn0.refl _ | apply Drawn0.step)⟩
          · have c3b0 : (q2 == 9223372036854775808) = false := beq_eq_false_iff_ne.mpr c3
            clear H hs hs' hpq2 hq20 hq2l c2 c3 w1 w2 hpos
            go_enter Try.func33, Try.ntmps33
            go_wp2_with (first | (go_at_call 37; first | ((with_reducible refine (ints_size.calls _ _ _ A1.out).mono ?_); rintro e w' ⟨rfl, ⟨nd, rfl⟩⟩) | ((with_reducible refine (ints_size.calls _ _ _ A2.out).mono ?_); rintro e w' ⟨rfl, ⟨nd, rfl⟩⟩)) | (go_at_call 36; (with_reducible refine (bits_Mul64.calls _ _ _ _ _ A3.out).mono ?_); rintro e w' ⟨rfl, ⟨nd, rfl⟩⟩))
            go_ret2
            exact ⟨by first | rfl | (rw [HW.out]; rfl) | exact congrArg (fun z => Ending.returned (.tuple #[Value.int IntKind.i64 z, .bool true])) HW.out, by repeat (first | exact Drawn0.refl _ | apply Drawn0.step)⟩
    · have c1b0 : (q1 == 0) = false := beq_eq_false_iff_ne.mpr c1
      have c1b1 : (q1 != 0) = true := bne_iff_ne.mpr c1
      have hr : (0, false) = (r1, r2) := by rw [if_neg (by unfold I64; omega)] at H; exact H
      cases hr
      clear H hs hs' hpq hq20 hq2l hp1 c1 w1 w2
      go_enter Try.func33, Try.ntmps33
      go_wp2_with (first | (go_at_call 37; first | ((with_reducible refine (ints_size.calls _ _ _ A1.out).mono ?_); rintro e w' ⟨rfl, ⟨nd, rfl⟩⟩) | ((with_reducible refine (ints_size.calls _ _ _ A2.out).mono ?_); rintro e w' ⟨rfl, ⟨nd, rfl⟩⟩)) | (go_at_call 36; (with_reducible refine (bits_Mul64.calls _ _ _ _ _ A3.out).mono ?_); rintro e w' ⟨rfl, ⟨nd, rfl⟩⟩))
      go_ret2
      exact ⟨by first | rfl | (simp; done), by repeat (first | exact Drawn0.refl _ | apply Drawn0.step)⟩
  · cases h

/-! ### ints_add: function 34 -/
def ints_add.f (a0 : Int) (a1 : Int) : Option (Int × Bool) := some (wrap64 (a0 + a1), ((decide ((wrap64 (a0 + a1)) > a0)) == (decide (a1 > 0))))
set_option maxHeartbeats 8000000 in
set_option maxRecDepth 100000 in
theorem ints_add.calls (a0 : Int) (a1 : Int) (r1 : Int) (r2 : Bool) (w : World) (h : ints_add.f a0 a1 = some (r1, r2)) :
  Calls Try.prog 34 #[.int .i64 a0, .int .i64 a1] w fun e w' => e = .returned (.tuple #[.int .i64 r1, .bool r2]) ∧ Drawn0 w w' := by
 have H : (some (wrap64 (a0 + a1), ((decide ((wrap64 (a0 + a1)) > a0)) == (decide (a1 > 0))))) = some (r1, r2) := h
 clear h
 simp only [Option.some.injEq, Prod.mk.injEq] at H
 obtain ⟨rfl, rfl⟩ := H
 go_enter Try.func34, Try.ntmps34
 go_wp2
 go_ret2
 exact ⟨by first | rfl | (simp; done) | (simp [*]; done), by repeat (first | exact Drawn0.refl _ | apply Drawn0.step)⟩

end Go.Proofs.Ytildiabokdfjgaa.PLexerNumbers
