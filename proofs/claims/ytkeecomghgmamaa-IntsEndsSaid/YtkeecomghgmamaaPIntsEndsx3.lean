/- Contracts of Go functions of this claim, and the Lean functions that they come to. -/
import Derived.Test.YtkeecomghgmamaaPIntsEndsx0
import Derived.Test.YtkeecomghgmamaaPIntsEndsx2
namespace Go.Proofs.Ytkeecomghgmamaa.PIntsEnds
open Go.RowKit Go.Proofs.YtkeecomghgmamaaW.PrintWords Go.Proofs.YtkeecomghgmamaaW.PrintLast Go.Proofs.YtkeecomghgmamaaW.PrintMore
attribute [local go_sem] max2_int min2_int max_two min_two max_three min_three max_four min_four   -- for this text's walks alone
set_option linter.unusedVariables false
set_option linter.unusedSimpArgs false

/-! ### wayfarerlaw01_IntsEnds: function 9 -/
def wayfarerlaw01_IntsEnds.l0 : Nat → List Int → Int → Bool → Int → Bool → Bool → Bool → Int → Option (Bool)
  | 0, _, _, _, _, _, _, _, _ => none
  | k + 1, x0, x3, x4, x5, x6, x7, x8, x9 => if x9 < (x0.length : Int) then (if 0 ≤ x9 then (if (rd x0 x9) < x3 then (some false) else (if (rd x0 x9) > x5 then (some false) else (if x7 = true then (if x8 = true then (wayfarerlaw01_IntsEnds.l0 k x0 x3 x4 x5 x6 true true (wrap64 (x9 + 1))) else (wayfarerlaw01_IntsEnds.l0 k x0 x3 x4 x5 x6 true ((rd x0 x9) == x5) (wrap64 (x9 + 1)))) else (if x8 = true then (wayfarerlaw01_IntsEnds.l0 k x0 x3 x4 x5 x6 ((rd x0 x9) == x3) true (wrap64 (x9 + 1))) else (wayfarerlaw01_IntsEnds.l0 k x0 x3 x4 x5 x6 ((rd x0 x9) == x3) ((rd x0 x9) == x5) (wrap64 (x9 + 1))))))) else (none)) else (if (x4 == (decide ((x0.length : Int) > 0))) = true then (if (x6 == (decide ((x0.length : Int) > 0))) = true then (if (x7 == (decide ((x0.length : Int) > 0))) = true then (if (x8 == (decide ((x0.length : Int) > 0))) = true then (if (x0.length : Int) > 0 then ((wayfarerlaw01_known.f k).bind fun t147 => (some t147)) else (if x3 = 0 then (if x5 = 0 then ((wayfarerlaw01_known.f k).bind fun t148 => (some t148)) else (some false)) else (some false))) else (some false)) else (some false)) else (some false)) else (some false))
def wayfarerlaw01_IntsEnds.f (k : Nat) (l0 : List Int) : Option (Bool) := if (l0.length : Int) > 1000 then ((wayfarerlaw01_known.f k).bind fun t137 => (some t137)) else ((ints_Least.f k l0).bind fun bt138 => ((ints_Greatest.f k l0).bind fun bt140 => (wayfarerlaw01_IntsEnds.l0 k l0 bt138.1 bt138.2 bt140.1 bt140.2 false false 0)))
theorem wayfarerlaw01_IntsEnds.mono_l : ∀ k, (∀ y0 y1 y2 y3 y4 y5 y6 y7, LeO (wayfarerlaw01_IntsEnds.l0 k y0 y1 y2 y3 y4 y5 y6 y7) (wayfarerlaw01_IntsEnds.l0 (k + 1) y0 y1 y2 y3 y4 y5 y6 y7))
  | 0 => fun _ _ _ _ _ _ _ _ r h => by simp [wayfarerlaw01_IntsEnds.l0] at h
  | k + 1 => by
    have ih0 := wayfarerlaw01_IntsEnds.mono_l k
    · intro y0 y1 y2 y3 y4 y5 y6 y7
      unfold wayfarerlaw01_IntsEnds.l0
      repeat' first
      | (with_reducible exact ih0 _ _ _ _ _ _ _ _)
      | (with_reducible exact ints_Greatest.mono _ _)
      | (with_reducible exact ints_Least.mono _ _)
      | (with_reducible exact wayfarerlaw01_known.mono _)
      | (with_reducible exact LeO.refl _)
      | (with_reducible exact LeO.none _)
      | (with_reducible refine LeO.ite ?_ ?_)
      | (with_reducible refine LeO.bind ?_ (fun _ => ?_))
      | exact ih0 _ _ _ _ _ _ _ _
      | exact ints_Greatest.mono _ _
      | exact ints_Least.mono _ _
      | exact wayfarerlaw01_known.mono _
      | exact LeO.none _
      | refine LeO.ite ?_ ?_
      | refine LeO.bind ?_ (fun _ => ?_)
theorem wayfarerlaw01_IntsEnds.mono : ∀ a0 k, LeO (wayfarerlaw01_IntsEnds.f k a0) (wayfarerlaw01_IntsEnds.f (k + 1) a0) := by
  intro a0 k
  have ih0 := wayfarerlaw01_IntsEnds.mono_l k
  unfold wayfarerlaw01_IntsEnds.f
  repeat' first
      | (with_reducible exact ih0 _ _ _ _ _ _ _ _)
      | (with_reducible exact ints_Greatest.mono _ _)
      | (with_reducible exact ints_Least.mono _ _)
      | (with_reducible exact wayfarerlaw01_known.mono _)
      | (with_reducible exact LeO.refl _)
      | (with_reducible exact LeO.none _)
      | (with_reducible refine LeO.ite ?_ ?_)
      | (with_reducible refine LeO.bind ?_ (fun _ => ?_))
      | exact ih0 _ _ _ _ _ _ _ _
      | exact ints_Greatest.mono _ _
      | exact ints_Least.mono _ _
      | exact wayfarerlaw01_known.mono _
      | exact LeO.none _
      | refine LeO.ite ?_ ?_
      | refine LeO.bind ?_ (fun _ => ?_)
set_option maxHeartbeats 8000000 in
set_option maxRecDepth 100000 in
theorem wayfarerlaw01_IntsEnds.calls (k : Nat) (A0 : Option Addr) (c0 : Nat) (l0 : List Int) (r : Bool) (w : World) (hr0 : Kd.C (Kd.int .i64) w A0 l0.length l0) (hc0 : l0.length ≤ c0) (h : wayfarerlaw01_IntsEnds.f k l0 = some r) :
    Calls Try.prog 9 #[.slice A0 l0.length c0] w fun e w' => e = .returned (.bool r) ∧ Below w.heap.size w w' := by
  have HR0 := Aside0.mk hr0
  have HC0 := Aside0.mk hc0
  clear hr0 hc0
  have HB := Aside0.mk (Below.refl w.heap.size w)
  have H : (if (l0.length : Int) > 1000 then ((wayfarerlaw01_known.f k).bind fun t137 => (some t137)) else ((ints_Least.f k l0).bind fun bt138 => ((ints_Greatest.f k l0).bind fun bt140 => (wayfarerlaw01_IntsEnds.l0 k l0 bt138.1 bt138.2 bt140.1 bt140.2 false false 0)))) = some r := h
  clear h
  by_cases c2 : (l0.length : Int) > 1000
  · rw [if_pos c2] at H
    have c2b0 : decide (1000 < (l0.length : Int)) = true := decide_eq_true c2
    have c2b1 : decide (1000 < l0.length) = true := decide_eq_true (by omega)
    clear c2
    replace H := Option.bind_eq_some_iff.mp H
    obtain ⟨t137, A30, H⟩ := H
    replace H : (some t137) = some r := H
    have A3 := Aside0.mk A30
    clear A30
    obtain rfl := Option.some.inj H
    go_enter Try.func9, Try.ntmps9
    go_wp2_with (first | ((with_reducible refine gate_callee (f := 10) rfl ?_); refine goesL_ (some 14) rfl rfl Try.func10 (by kernel_rfl) rfl #[] rfl (by (try simp only [List.map_toArray, List.map_cons, List.map_nil]); first | done | rfl | (simp only [List.length_drop, List.length_take]; rfl)) ?_; (with_reducible refine (wayfarerlaw01_known.calls k  t137 _ A3.out).mono ?_); rintro e w4 ⟨rfl, hb⟩; refine ⟨_, rfl, ?_⟩; have n0_ := Aside0.mk (below_step (by repeat (first | (with_reducible first | exact HB.out | apply below_alloc | apply pw_below_drewN | apply below_drew1) | exact HB.out)) hb); clear HB; have HB := n0_; clear n0_; (try clear hb); (try clear hb2); (try clear hk); (try clear hi)))
    go_ret
    exact ⟨by first | rfl | (simp [errW_none, errW_some] <;> rfl) | (simp [*, errW_none, errW_some] <;> rfl), by repeat (first | (with_reducible first | exact HB.out | apply below_alloc | apply pw_below_drewN | apply below_drew1) | exact HB.out)⟩
  · rw [if_neg c2] at H
    have c2b0 : decide (1000 < (l0.length : Int)) = false := decide_eq_false c2
    have c2b1 : decide (1000 < l0.length) = false := decide_eq_false (by omega)
    clear c2
    replace H := Option.bind_eq_some_iff.mp H
    obtain ⟨⟨t138, t139⟩, A50, H⟩ := H
    replace H : ((ints_Greatest.f k l0).bind fun bt140 => (wayfarerlaw01_IntsEnds.l0 k l0 t138 t139 bt140.1 bt140.2 false false 0)) = some r := H
    have A5 := Aside0.mk A50
    clear A50
    replace H := Option.bind_eq_some_iff.mp H
    obtain ⟨⟨t140, t141⟩, A60, H⟩ := H
    replace H : (wayfarerlaw01_IntsEnds.l0 k l0 t138 t139 t140 t141 false false 0) = some r := H
    have A6 := Aside0.mk A60
    clear A60
    have H' := Aside0.mk H
    clear H
    go_enter Try.func9, Try.ntmps9
    go_wp2_with (first | ((with_reducible refine gate_callee (f := 22) rfl ?_); refine goesL_ (some 17) rfl rfl Try.func22 (by kernel_rfl) rfl #[.slice A0 l0.length c0] rfl (by (try simp only [List.map_toArray, List.map_cons, List.map_nil]); first | done | rfl | (simp only [List.length_drop, List.length_take]; rfl)) ?_; (with_reducible refine (ints_Least.calls k _ _ l0 t138 t139 _ ?side1 ?side2 A5.out).mono ?_); (case side1 => repeat (first | exact HR0.out | (with_reducible refine Kd.C_alloc ?_ _) | (with_reducible refine Kd.C_drewN ?_ _) | (with_reducible refine Kd.C_drew ?_))); (case side2 => exact HC0.out); rintro e w' ⟨rfl, ⟨nd, rfl⟩⟩; refine ⟨_, rfl, ?_⟩) | ((with_reducible refine gate_callee (f := 23) rfl ?_); refine goesL_ (some 22) rfl rfl Try.func23 (by kernel_rfl) rfl #[.slice A0 l0.length c0] rfl (by (try simp only [List.map_toArray, List.map_cons, List.map_nil]); first | done | rfl | (simp only [List.length_drop, List.length_take]; rfl)) ?_; (with_reducible refine (ints_Greatest.calls k _ _ l0 t140 t141 _ ?side1 ?side2 A6.out).mono ?_); (case side1 => repeat (first | exact HR0.out | (with_reducible refine Kd.C_alloc ?_ _) | (with_reducible refine Kd.C_drewN ?_ _) | (with_reducible refine Kd.C_drew ?_))); (case side2 => exact HC0.out); rintro e w' ⟨rfl, ⟨nd, rfl⟩⟩; refine ⟨_, rfl, ?_⟩))
    go_loopg [7, 8, 9] k (fun kq v7 v8 v9 w' => ∃ (x7_1 : Bool) (x8_1 : Bool) (x9_1 : Int), v7 = .bool x7_1 ∧ v8 = .bool x8_1 ∧ v9 = .int .i64 x9_1 ∧ Aside0 (wayfarerlaw01_IntsEnds.l0 kq l0 t138 t139 t140 t141 x7_1 x8_1 x9_1 = some r) ∧ Aside0 (kq ≤ k) ∧ Aside0 (Below w.heap.size w w'))
    case atStart => exact ⟨(false), (false), (0), (by first | rfl | (simp; done) | (simp [*]; done)), (by first | rfl | (simp; done) | (simp [*]; done)), (by first | rfl | (simp; done) | (simp [*]; done)), H', ⟨Nat.le_refl _⟩, ⟨by repeat (first | (with_reducible first | exact HB.out | apply below_alloc | apply pw_below_drewN | apply below_drew1) | exact HB.out)⟩⟩
    case round =>
      clear H'
      try clear c1
      try clear c2
      try clear c2b0
      try clear c2b1
      try clear p2
      obtain ⟨x7_1, x8_1, x9_1, rfl, rfl, rfl, HA, HK1, HB⟩ := hrel
      cases gk with
      | zero => exact absurd HA.out (by simp [wayfarerlaw01_IntsEnds.l0])
      | succ k1 =>
        have H := HA.out
        clear HA
        simp only [wayfarerlaw01_IntsEnds.l0] at H
        by_cases c7 : x9_1 < (l0.length : Int)
        · rw [if_pos c7] at H
          have c7b0 : decide (x9_1 < (l0.length : Int)) = true := decide_eq_true c7
          clear c7
          by_cases c8 : 0 ≤ x9_1
          · rw [if_pos c8] at H
            have c8b0 : decide (0 ≤ x9_1) = true := decide_eq_true c8
            clear c8
            by_cases c9 : (rd l0 x9_1) < t138
            · rw [if_pos c9] at H
              have c9b0 : decide ((rd l0 x9_1) < t138) = true := decide_eq_true c9
              clear c9
              obtain rfl := Option.some.inj H
              have p142 : 0 ≤ (x9_1 : Int) := of_decide_eq_true (by first | (with_reducible assumption) | assumption)
              have q142 : x9_1 < (l0.length : Int) := of_decide_eq_true (by first | (with_reducible assumption) | assumption)
              obtain ⟨ad142, e142, hx142_0⟩ := Kd.at_int HR0.out x9_1 p142 q142
              cases e142
              replace hx142_0 := (HB.out.cell (World.block_lt_of_cell? w _ hx142_0)).trans hx142_0
              replace p142 := eq_true p142
              replace q142 := eq_true q142
              go_wp2
              go_ret
              exact ⟨by first | rfl | (simp [errW_none, errW_some] <;> rfl) | (simp [*, errW_none, errW_some] <;> rfl), by repeat (first | (with_reducible first | exact HB.out | apply below_alloc | apply pw_below_drewN | apply below_drew1) | exact HB.out)⟩
            · rw [if_neg c9] at H
              have c9b0 : decide ((rd l0 x9_1) < t138) = false := decide_eq_false c9
              clear c9
              by_cases c10 : (rd l0 x9_1) > t140
              · rw [if_pos c10] at H
                have c10b0 : decide (t140 < (rd l0 x9_1)) = true := decide_eq_true c10
                clear c10
                obtain rfl := Option.some.inj H
                have p142 : 0 ≤ (x9_1 : Int) := of_decide_eq_true (by first | (with_reducible assumption) | assumption)
                have q142 : x9_1 < (l0.length : Int) := of_decide_eq_true (by first | (with_reducible assumption) | assumption)
                obtain ⟨ad142, e142, hx142_0⟩ := Kd.at_int HR0.out x9_1 p142 q142
                cases e142
                replace hx142_0 := (HB.out.cell (World.block_lt_of_cell? w _ hx142_0)).trans hx142_0
                replace p142 := eq_true p142
                replace q142 := eq_true q142
                have p143 : 0 ≤ (x9_1 : Int) := of_decide_eq_true (by first | (with_reducible assumption) | assumption)
                have q143 : x9_1 < (l0.length : Int) := of_decide_eq_true (by first | (with_reducible assumption) | assumption)
                obtain ⟨ad143, e143, hx143_0⟩ := Kd.at_int HR0.out x9_1 p143 q143
                obtain rfl : ad142 = ad143 := (by injection e143)
                replace hx143_0 := (HB.out.cell (World.block_lt_of_cell? w _ hx143_0)).trans hx143_0
                replace p143 := eq_true p143
                replace q143 := eq_true q143
                go_wp2
                go_ret
                exact ⟨by first | rfl | (simp [errW_none, errW_some] <;> rfl) | (simp [*, errW_none, errW_some] <;> rfl), by repeat (first | (with_reducible first | exact HB.out | apply below_alloc | apply pw_below_drewN | apply below_drew1) | exact HB.out)⟩
              · rw [if_neg c10] at H
                have c10b0 : decide (t140 < (rd l0 x9_1)) = false := decide_eq_false c10
                clear c10
                by_cases c11 : x7_1 = true
                · subst c11
                  have H1 : (if x8_1 = true then (wayfarerlaw01_IntsEnds.l0 k1 l0 t138 t139 t140 t141 true true (wrap64 (x9_1 + 1))) else (wayfarerlaw01_IntsEnds.l0 k1 l0 t138 t139 t140 t141 true ((rd l0 x9_1) == t140) (wrap64 (x9_1 + 1)))) = some r := by rw [if_pos rfl] at H; exact H
                  clear H
                  have H := H1
                  clear H1
                  by_cases c12 : x8_1 = true
                  · subst c12
                    have H1 : (wayfarerlaw01_IntsEnds.l0 k1 l0 t138 t139 t140 t141 true true (wrap64 (x9_1 + 1))) = some r := by rw [if_pos rfl] at H; exact H
                    clear H
                    have H := H1
                    clear H1
                    have H' := Aside0.mk H
                    clear H
                    have p142 : 0 ≤ (x9_1 : Int) := of_decide_eq_true (by first | (with_reducible assumption) | assumption)
                    have q142 : x9_1 < (l0.length : Int) := of_decide_eq_true (by first | (with_reducible assumption) | assumption)
                    obtain ⟨ad142, e142, hx142_0⟩ := Kd.at_int HR0.out x9_1 p142 q142
                    cases e142
                    replace hx142_0 := (HB.out.cell (World.block_lt_of_cell? w _ hx142_0)).trans hx142_0
                    replace p142 := eq_true p142
                    replace q142 := eq_true q142
                    have p143 : 0 ≤ (x9_1 : Int) := of_decide_eq_true (by first | (with_reducible assumption) | assumption)
                    have q143 : x9_1 < (l0.length : Int) := of_decide_eq_true (by first | (with_reducible assumption) | assumption)
                    obtain ⟨ad143, e143, hx143_0⟩ := Kd.at_int HR0.out x9_1 p143 q143
                    obtain rfl : ad142 = ad143 := (by injection e143)
                    replace hx143_0 := (HB.out.cell (World.block_lt_of_cell? w _ hx143_0)).trans hx143_0
                    replace p143 := eq_true p143
                    replace q143 := eq_true q143
                    go_wp2
                    go_roundg k1
                    case measure => have := HK1.out; omega
                    case rel => exact ⟨(true), (true), (wrap64 (x9_1 + 1)), (by first | rfl | (simp; done) | (simp [*]; done)), (by first | rfl | (simp; done) | (simp [*]; done)), (by first | rfl | (simp; done) | (simp [*]; done)), H', ⟨by have := HK1.out; omega⟩, ⟨by repeat (first | (with_reducible first | exact HB.out | apply below_alloc | apply pw_below_drewN | apply below_drew1) | exact HB.out)⟩⟩
                  · replace c12 := Bool.eq_false_iff.mpr c12
                    subst c12
                    have H1 : (wayfarerlaw01_IntsEnds.l0 k1 l0 t138 t139 t140 t141 true ((rd l0 x9_1) == t140) (wrap64 (x9_1 + 1))) = some r := by rw [if_neg (show ¬ (false = true) by decide)] at H; exact H
                    clear H
                    have H := H1
                    clear H1
                    have H' := Aside0.mk H
                    clear H
                    have p142 : 0 ≤ (x9_1 : Int) := of_decide_eq_true (by first | (with_reducible assumption) | assumption)
                    have q142 : x9_1 < (l0.length : Int) := of_decide_eq_true (by first | (with_reducible assumption) | assumption)
                    obtain ⟨ad142, e142, hx142_0⟩ := Kd.at_int HR0.out x9_1 p142 q142
                    cases e142
                    replace hx142_0 := (HB.out.cell (World.block_lt_of_cell? w _ hx142_0)).trans hx142_0
                    replace p142 := eq_true p142
                    replace q142 := eq_true q142
                    have p143 : 0 ≤ (x9_1 : Int) := of_decide_eq_true (by first | (with_reducible assumption) | assumption)
                    have q143 : x9_1 < (l0.length : Int) := of_decide_eq_true (by first | (with_reducible assumption) | assumption)
                    obtain ⟨ad143, e143, hx143_0⟩ := Kd.at_int HR0.out x9_1 p143 q143
                    obtain rfl : ad142 = ad143 := (by injection e143)
                    replace hx143_0 := (HB.out.cell (World.block_lt_of_cell? w _ hx143_0)).trans hx143_0
                    replace p143 := eq_true p143
                    replace q143 := eq_true q143
                    have p144 : 0 ≤ (x9_1 : Int) := of_decide_eq_true (by first | (with_reducible assumption) | assumption)
                    have q144 : x9_1 < (l0.length : Int) := of_decide_eq_true (by first | (with_reducible assumption) | assumption)
                    obtain ⟨ad144, e144, hx144_0⟩ := Kd.at_int HR0.out x9_1 p144 q144
                    obtain rfl : ad142 = ad144 := (by injection e144)
                    replace hx144_0 := (HB.out.cell (World.block_lt_of_cell? w _ hx144_0)).trans hx144_0
                    replace p144 := eq_true p144
                    replace q144 := eq_true q144
                    go_wp2
                    go_roundg k1
                    case measure => have := HK1.out; omega
                    case rel => exact ⟨(true), (((rd l0 x9_1) == t140)), (wrap64 (x9_1 + 1)), (by first | rfl | (simp; done) | (simp [*]; done)), (by first | rfl | (simp; done) | (simp [*]; done)), (by first | rfl | (simp; done) | (simp [*]; done)), H', ⟨by have := HK1.out; omega⟩, ⟨by repeat (first | (with_reducible first | exact HB.out | apply below_alloc | apply pw_below_drewN | apply below_drew1) | exact HB.out)⟩⟩
                · replace c11 := Bool.eq_false_iff.mpr c11
                  subst c11
                  have H1 : (if x8_1 = true then (wayfarerlaw01_IntsEnds.l0 k1 l0 t138 t139 t140 t141 ((rd l0 x9_1) == t138) true (wrap64 (x9_1 + 1))) else (wayfarerlaw01_IntsEnds.l0 k1 l0 t138 t139 t140 t141 ((rd l0 x9_1) == t138) ((rd l0 x9_1) == t140) (wrap64 (x9_1 + 1)))) = some r := by rw [if_neg (show ¬ (false = true) by decide)] at H; exact H
                  clear H
                  have H := H1
                  clear H1
                  by_cases c13 : x8_1 = true
                  · subst c13
                    have H1 : (wayfarerlaw01_IntsEnds.l0 k1 l0 t138 t139 t140 t141 ((rd l0 x9_1) == t138) true (wrap64 (x9_1 + 1))) = some r := by rw [if_pos rfl] at H; exact H
                    clear H
                    have H := H1
                    clear H1
                    have H' := Aside0.mk H
                    clear H
                    have p142 : 0 ≤ (x9_1 : Int) := of_decide_eq_true (by first | (with_reducible assumption) | assumption)
                    have q142 : x9_1 < (l0.length : Int) := of_decide_eq_true (by first | (with_reducible assumption) | assumption)
                    obtain ⟨ad142, e142, hx142_0⟩ := Kd.at_int HR0.out x9_1 p142 q142
                    cases e142
                    replace hx142_0 := (HB.out.cell (World.block_lt_of_cell? w _ hx142_0)).trans hx142_0
                    replace p142 := eq_true p142
                    replace q142 := eq_true q142
                    have p143 : 0 ≤ (x9_1 : Int) := of_decide_eq_true (by first | (with_reducible assumption) | assumption)
                    have q143 : x9_1 < (l0.length : Int) := of_decide_eq_true (by first | (with_reducible assumption) | assumption)
                    obtain ⟨ad143, e143, hx143_0⟩ := Kd.at_int HR0.out x9_1 p143 q143
                    obtain rfl : ad142 = ad143 := (by injection e143)
                    replace hx143_0 := (HB.out.cell (World.block_lt_of_cell? w _ hx143_0)).trans hx143_0
                    replace p143 := eq_true p143
                    replace q143 := eq_true q143
                    have p145 : 0 ≤ (x9_1 : Int) := of_decide_eq_true (by first | (with_reducible assumption) | assumption)
                    have q145 : x9_1 < (l0.length : Int) := of_decide_eq_true (by first | (with_reducible assumption) | assumption)
                    obtain ⟨ad145, e145, hx145_0⟩ := Kd.at_int HR0.out x9_1 p145 q145
                    obtain rfl : ad142 = ad145 := (by injection e145)
                    replace hx145_0 := (HB.out.cell (World.block_lt_of_cell? w _ hx145_0)).trans hx145_0
                    replace p145 := eq_true p145
                    replace q145 := eq_true q145
                    go_wp2
                    go_roundg k1
                    case measure => have := HK1.out; omega
                    case rel => exact ⟨(((rd l0 x9_1) == t138)), (true), (wrap64 (x9_1 + 1)), (by first | rfl | (simp; done) | (simp [*]; done)), (by first | rfl | (simp; done) | (simp [*]; done)), (by first | rfl | (simp; done) | (simp [*]; done)), H', ⟨by have := HK1.out; omega⟩, ⟨by repeat (first | (with_reducible first | exact HB.out | apply below_alloc | apply pw_below_drewN | apply below_drew1) | exact HB.out)⟩⟩
                  · replace c13 := Bool.eq_false_iff.mpr c13
                    subst c13
                    have H1 : (wayfarerlaw01_IntsEnds.l0 k1 l0 t138 t139 t140 t141 ((rd l0 x9_1) == t138) ((rd l0 x9_1) == t140) (wrap64 (x9_1 + 1))) = some r := by rw [if_neg (show ¬ (false = true) by decide)] at H; exact H
                    clear H
                    have H := H1
                    clear H1
                    have H' := Aside0.mk H
                    clear H
                    have p142 : 0 ≤ (x9_1 : Int) := of_decide_eq_true (by first | (with_reducible assumption) | assumption)
                    have q142 : x9_1 < (l0.length : Int) := of_decide_eq_true (by first | (with_reducible assumption) | assumption)
                    obtain ⟨ad142, e142, hx142_0⟩ := Kd.at_int HR0.out x9_1 p142 q142
                    cases e142
                    replace hx142_0 := (HB.out.cell (World.block_lt_of_cell? w _ hx142_0)).trans hx142_0
                    replace p142 := eq_true p142
                    replace q142 := eq_true q142
                    have p143 : 0 ≤ (x9_1 : Int) := of_decide_eq_true (by first | (with_reducible assumption) | assumption)
                    have q143 : x9_1 < (l0.length : Int) := of_decide_eq_true (by first | (with_reducible assumption) | assumption)
                    obtain ⟨ad143, e143, hx143_0⟩ := Kd.at_int HR0.out x9_1 p143 q143
                    obtain rfl : ad142 = ad143 := (by injection e143)
                    replace hx143_0 := (HB.out.cell (World.block_lt_of_cell? w _ hx143_0)).trans hx143_0
                    replace p143 := eq_true p143
                    replace q143 := eq_true q143
                    have p145 : 0 ≤ (x9_1 : Int) := of_decide_eq_true (by first | (with_reducible assumption) | assumption)
                    have q145 : x9_1 < (l0.length : Int) := of_decide_eq_true (by first | (with_reducible assumption) | assumption)
                    obtain ⟨ad145, e145, hx145_0⟩ := Kd.at_int HR0.out x9_1 p145 q145
                    obtain rfl : ad142 = ad145 := (by injection e145)
                    replace hx145_0 := (HB.out.cell (World.block_lt_of_cell? w _ hx145_0)).trans hx145_0
                    replace p145 := eq_true p145
                    replace q145 := eq_true q145
                    have p146 : 0 ≤ (x9_1 : Int) := of_decide_eq_true (by first | (with_reducible assumption) | assumption)
                    have q146 : x9_1 < (l0.length : Int) := of_decide_eq_true (by first | (with_reducible assumption) | assumption)
                    obtain ⟨ad146, e146, hx146_0⟩ := Kd.at_int HR0.out x9_1 p146 q146
                    obtain rfl : ad142 = ad146 := (by injection e146)
                    replace hx146_0 := (HB.out.cell (World.block_lt_of_cell? w _ hx146_0)).trans hx146_0
                    replace p146 := eq_true p146
                    replace q146 := eq_true q146
                    go_wp2
                    go_roundg k1
                    case measure => have := HK1.out; omega
                    case rel => exact ⟨(((rd l0 x9_1) == t138)), (((rd l0 x9_1) == t140)), (wrap64 (x9_1 + 1)), (by first | rfl | (simp; done) | (simp [*]; done)), (by first | rfl | (simp; done) | (simp [*]; done)), (by first | rfl | (simp; done) | (simp [*]; done)), H', ⟨by have := HK1.out; omega⟩, ⟨by repeat (first | (with_reducible first | exact HB.out | apply below_alloc | apply pw_below_drewN | apply below_drew1) | exact HB.out)⟩⟩
          · rw [if_neg c8] at H
            exact absurd H (by simp)
        · rw [if_neg c7] at H
          have c7b0 : decide (x9_1 < (l0.length : Int)) = false := decide_eq_false c7
          clear c7
          by_cases c14 : (t139 == (decide ((l0.length : Int) > 0))) = true
          · rw [if_pos c14] at H
            have c14b0 : (t139 == (decide ((l0.length : Int) > 0))) = true := c14
            have c14n : (t139 == decide (0 < l0.length)) = true := by have h_ := c14b0; rw [show decide ((l0.length : Int) > 0) = decide (0 < l0.length) from decide_eq_decide.mpr (by omega)] at h_; exact h_
            (try (have c14b1 : decide (t139 = (decide ((l0.length : Int) > 0))) = true := by simpa using c14))
            (try (have c14b2 : (t139 == (decide ((l0.length : Int) > 0))) = true := by simpa using c14))
            clear c14
            by_cases c15 : (t141 == (decide ((l0.length : Int) > 0))) = true
            · rw [if_pos c15] at H
              have c15b0 : (t141 == (decide ((l0.length : Int) > 0))) = true := c15
              have c15n : (t141 == decide (0 < l0.length)) = true := by have h_ := c15b0; rw [show decide ((l0.length : Int) > 0) = decide (0 < l0.length) from decide_eq_decide.mpr (by omega)] at h_; exact h_
              (try (have c15b1 : decide (t141 = (decide ((l0.length : Int) > 0))) = true := by simpa using c15))
              (try (have c15b2 : (t141 == (decide ((l0.length : Int) > 0))) = true := by simpa using c15))
              clear c15
              by_cases c16 : (x7_1 == (decide ((l0.length : Int) > 0))) = true
              · rw [if_pos c16] at H
                have c16b0 : (x7_1 == (decide ((l0.length : Int) > 0))) = true := c16
                have c16n : (x7_1 == decide (0 < l0.length)) = true := by have h_ := c16b0; rw [show decide ((l0.length : Int) > 0) = decide (0 < l0.length) from decide_eq_decide.mpr (by omega)] at h_; exact h_
                (try (have c16b1 : decide (x7_1 = (decide ((l0.length : Int) > 0))) = true := by simpa using c16))
                (try (have c16b2 : (x7_1 == (decide ((l0.length : Int) > 0))) = true := by simpa using c16))
                clear c16
                by_cases c17 : (x8_1 == (decide ((l0.length : Int) > 0))) = true
                · rw [if_pos c17] at H
                  have c17b0 : (x8_1 == (decide ((l0.length : Int) > 0))) = true := c17
                  have c17n : (x8_1 == decide (0 < l0.length)) = true := by have h_ := c17b0; rw [show decide ((l0.length : Int) > 0) = decide (0 < l0.length) from decide_eq_decide.mpr (by omega)] at h_; exact h_
                  (try (have c17b1 : decide (x8_1 = (decide ((l0.length : Int) > 0))) = true := by simpa using c17))
                  (try (have c17b2 : (x8_1 == (decide ((l0.length : Int) > 0))) = true := by simpa using c17))
                  clear c17
                  by_cases c18 : (l0.length : Int) > 0
                  · rw [if_pos c18] at H
                    have c18b0 : decide (0 < (l0.length : Int)) = true := decide_eq_true c18
                    have c18b1 : decide (0 < l0.length) = true := decide_eq_true (by omega)
                    have g14_ : t139 = true := by have h_ := c14n; rw [c18b1] at h_; simpa using h_
                    have g15_ : t141 = true := by have h_ := c15n; rw [c18b1] at h_; simpa using h_
                    have g16_ : x7_1 = true := by have h_ := c16n; rw [c18b1] at h_; simpa using h_
                    have g17_ : x8_1 = true := by have h_ := c17n; rw [c18b1] at h_; simpa using h_
                    clear c18
                    replace H := Option.bind_eq_some_iff.mp H
                    obtain ⟨t147, A190, H⟩ := H
                    replace H : (some t147) = some r := H
                    have A19 := Aside0.mk A190
                    clear A190
                    obtain rfl := Option.some.inj H
                    go_wp2_with (first | (go_at_call 10; (with_reducible refine (wayfarerlaw01_known.calls k1  t147 _ A19.out).mono ?_); rintro e w20 ⟨rfl, hb⟩; have n0_ := Aside0.mk (below_step (by repeat (first | (with_reducible first | exact HB.out | apply below_alloc | apply pw_below_drewN | apply below_drew1) | exact HB.out)) hb); clear HB; have HB := n0_; clear n0_; (try clear hb); (try clear hb2); (try clear hk); (try clear hi)))
                    go_ret
                    exact ⟨by first | rfl | (simp [errW_none, errW_some] <;> rfl) | (simp [*, errW_none, errW_some] <;> rfl), by repeat (first | (with_reducible first | exact HB.out | apply below_alloc | apply pw_below_drewN | apply below_drew1) | exact HB.out)⟩
                  · rw [if_neg c18] at H
                    have c18b0 : decide (0 < (l0.length : Int)) = false := decide_eq_false c18
                    have c18b1 : decide (0 < l0.length) = false := decide_eq_false (by omega)
                    have g14_ : t139 = false := by have h_ := c14n; rw [c18b1] at h_; simpa using h_
                    have g15_ : t141 = false := by have h_ := c15n; rw [c18b1] at h_; simpa using h_
                    have g16_ : x7_1 = false := by have h_ := c16n; rw [c18b1] at h_; simpa using h_
                    have g17_ : x8_1 = false := by have h_ := c17n; rw [c18b1] at h_; simpa using h_
                    clear c18
                    by_cases c21 : t138 = 0
                    · rw [if_pos c21] at H
                      have c21b0 : (t138 == 0) = true := beq_iff_eq.mpr c21
                      have c21b1 : (t138 != 0) = false := bne_eq_false_iff_eq.mpr c21
                      clear c21
                      by_cases c22 : t140 = 0
                      · rw [if_pos c22] at H
                        have c22b0 : (t140 == 0) = true := beq_iff_eq.mpr c22
                        have c22b1 : (t140 != 0) = false := bne_eq_false_iff_eq.mpr c22
                        clear c22
                        replace H := Option.bind_eq_some_iff.mp H
                        obtain ⟨t148, A230, H⟩ := H
                        replace H : (some t148) = some r := H
                        have A23 := Aside0.mk A230
                        clear A230
                        obtain rfl := Option.some.inj H
                        go_wp2_with (first | (go_at_call 10; (with_reducible refine (wayfarerlaw01_known.calls k1  t148 _ A23.out).mono ?_); rintro e w24 ⟨rfl, hb⟩; have n0_ := Aside0.mk (below_step (by repeat (first | (with_reducible first | exact HB.out | apply below_alloc | apply pw_below_drewN | apply below_drew1) | exact HB.out)) hb); clear HB; have HB := n0_; clear n0_; (try clear hb); (try clear hb2); (try clear hk); (try clear hi)))
                        go_ret
                        exact ⟨by first | rfl | (simp [errW_none, errW_some] <;> rfl) | (simp [*, errW_none, errW_some] <;> rfl), by repeat (first | (with_reducible first | exact HB.out | apply below_alloc | apply pw_below_drewN | apply below_drew1) | exact HB.out)⟩
                      · rw [if_neg c22] at H
                        have c22b0 : (t140 == 0) = false := beq_eq_false_iff_ne.mpr c22
                        have c22b1 : (t140 != 0) = true := bne_iff_ne.mpr c22
                        obtain rfl := Option.some.inj H
                        go_wp2
                        go_ret
                        exact ⟨by first | rfl | (simp [errW_none, errW_some] <;> rfl) | (simp [*, errW_none, errW_some] <;> rfl), by repeat (first | (with_reducible first | exact HB.out | apply below_alloc | apply pw_below_drewN | apply below_drew1) | exact HB.out)⟩
                    · rw [if_neg c21] at H
                      have c21b0 : (t138 == 0) = false := beq_eq_false_iff_ne.mpr c21
                      have c21b1 : (t138 != 0) = true := bne_iff_ne.mpr c21
                      obtain rfl := Option.some.inj H
                      go_wp2
                      go_ret
                      exact ⟨by first | rfl | (simp [errW_none, errW_some] <;> rfl) | (simp [*, errW_none, errW_some] <;> rfl), by repeat (first | (with_reducible first | exact HB.out | apply below_alloc | apply pw_below_drewN | apply below_drew1) | exact HB.out)⟩
                · rw [if_neg c17] at H
                  have c17b0 : (x8_1 == (decide ((l0.length : Int) > 0))) = false := by simpa using c17
                  have c17n : (x8_1 == decide (0 < l0.length)) = false := by have h_ := c17b0; rw [show decide ((l0.length : Int) > 0) = decide (0 < l0.length) from decide_eq_decide.mpr (by omega)] at h_; exact h_
                  (try (have c17b1 : decide (x8_1 = (decide ((l0.length : Int) > 0))) = false := by simpa using c17))
                  (try (have c17b2 : (x8_1 == (decide ((l0.length : Int) > 0))) = false := by simpa using c17))
                  (try (have c17b3 : ¬ (x8_1 = (decide ((l0.length : Int) > 0))) := by simpa using c17))
                  clear c17
                  obtain rfl := Option.some.inj H
                  go_wp2
                  go_ret
                  exact ⟨by first | rfl | (simp [errW_none, errW_some] <;> rfl) | (simp [*, errW_none, errW_some] <;> rfl), by repeat (first | (with_reducible first | exact HB.out | apply below_alloc | apply pw_below_drewN | apply below_drew1) | exact HB.out)⟩
              · rw [if_neg c16] at H
                have c16b0 : (x7_1 == (decide ((l0.length : Int) > 0))) = false := by simpa using c16
                have c16n : (x7_1 == decide (0 < l0.length)) = false := by have h_ := c16b0; rw [show decide ((l0.length : Int) > 0) = decide (0 < l0.length) from decide_eq_decide.mpr (by omega)] at h_; exact h_
                (try (have c16b1 : decide (x7_1 = (decide ((l0.length : Int) > 0))) = false := by simpa using c16))
                (try (have c16b2 : (x7_1 == (decide ((l0.length : Int) > 0))) = false := by simpa using c16))
                (try (have c16b3 : ¬ (x7_1 = (decide ((l0.length : Int) > 0))) := by simpa using c16))
                clear c16
                obtain rfl := Option.some.inj H
                go_wp2
                go_ret
                exact ⟨by first | rfl | (simp [errW_none, errW_some] <;> rfl) | (simp [*, errW_none, errW_some] <;> rfl), by repeat (first | (with_reducible first | exact HB.out | apply below_alloc | apply pw_below_drewN | apply below_drew1) | exact HB.out)⟩
            · rw [if_neg c15] at H
              have c15b0 : (t141 == (decide ((l0.length : Int) > 0))) = false := by simpa using c15
              have c15n : (t141 == decide (0 < l0.length)) = false := by have h_ := c15b0; rw [show decide ((l0.length : Int) > 0) = decide (0 < l0.length) from decide_eq_decide.mpr (by omega)] at h_; exact h_
              (try (have c15b1 : decide (t141 = (decide ((l0.length : Int) > 0))) = false := by simpa using c15))
              (try (have c15b2 : (t141 == (decide ((l0.length : Int) > 0))) = false := by simpa using c15))
              (try (have c15b3 : ¬ (t141 = (decide ((l0.length : Int) > 0))) := by simpa using c15))
              clear c15
              obtain rfl := Option.some.inj H
              go_wp2
              go_ret
              exact ⟨by first | rfl | (simp [errW_none, errW_some] <;> rfl) | (simp [*, errW_none, errW_some] <;> rfl), by repeat (first | (with_reducible first | exact HB.out | apply below_alloc | apply pw_below_drewN | apply below_drew1) | exact HB.out)⟩
          · rw [if_neg c14] at H
            have c14b0 : (t139 == (decide ((l0.length : Int) > 0))) = false := by simpa using c14
            have c14n : (t139 == decide (0 < l0.length)) = false := by have h_ := c14b0; rw [show decide ((l0.length : Int) > 0) = decide (0 < l0.length) from decide_eq_decide.mpr (by omega)] at h_; exact h_
            (try (have c14b1 : decide (t139 = (decide ((l0.length : Int) > 0))) = false := by simpa using c14))
            (try (have c14b2 : (t139 == (decide ((l0.length : Int) > 0))) = false := by simpa using c14))
            (try (have c14b3 : ¬ (t139 = (decide ((l0.length : Int) > 0))) := by simpa using c14))
            clear c14
            obtain rfl := Option.some.inj H
            go_wp2
            go_ret
            exact ⟨by first | rfl | (simp [errW_none, errW_some] <;> rfl) | (simp [*, errW_none, errW_some] <;> rfl), by repeat (first | (with_reducible first | exact HB.out | apply below_alloc | apply pw_below_drewN | apply below_drew1) | exact HB.out)⟩

/-- THE ONE PURE STATEMENT of wayfarerlaw01_IntsEnds: yours. -/
def wayfarerlaw01_IntsEnds.Pure : Prop := ∀ (l0 : List Int), l0.length ≤ maxLen → l0.length * 8 ≤ 140737488351232 → (∀ x ∈ l0, (Lit.int .i64 x).wf = true) → ∃ k, wayfarerlaw01_IntsEnds.f k l0 = some true
theorem wayfarerlaw01_IntsEnds.walk (P : wayfarerlaw01_IntsEnds.Pure) (a0 : Option Addr) (len0 cap0 : Nat) (z0 : List Int) (w : World) (w0 : (a0 = none ∧ len0 = 0 ∧ cap0 = 0 ∧ z0 = []) ∨ ∃ x, a0 = some x ∧ len0 ≤ cap0 ∧ cap0 ≤ maxLen ∧ z0.length = cap0 ∧ (∀ i, i < z0.length → w.cell? (x.add i) = some (.int .i64 (z0.getD i 0))) ∧ ∀ n ∈ z0, (Lit.int .i64 n).wf = true) (y0 : len0 * 8 ≤ 140737488351232) :
    Calls Try.prog 9 #[.slice a0 len0 cap0] w fun e w' => e = .returned (.bool true) ∧ Below w.heap.size w w' := by
  obtain ⟨l0, rfl, hr0, hm0, hw0, hc0⟩ := ReadsInt.ofRowC w0
  obtain ⟨k, h⟩ := P l0 hm0 y0 hw0
  refine (wayfarerlaw01_IntsEnds.calls k _ _ l0 true w (Kd.C_of_reads (d := (0 : Int)) (h1 := fun _ => rfl) hr0) hc0 h).mono ?_
  rintro e w' ⟨rfl, hd⟩
  exact ⟨rfl, hd⟩

end Go.Proofs.Ytkeecomghgmamaa.PIntsEnds
