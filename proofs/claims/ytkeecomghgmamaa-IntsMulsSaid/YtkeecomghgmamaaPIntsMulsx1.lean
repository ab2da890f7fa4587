/- Contracts of Go functions of this claim, and the Lean functions that they come to. -/
import Derived.Test.YtkeecomghgmamaaPIntsMulsx0
namespace Go.Proofs.Ytkeecomghgmamaa.PIntsMuls
open Go.RowKit Go.Proofs.YtkeecomghgmamaaW.PrintWords Go.Proofs.YtkeecomghgmamaaW.PrintLast Go.Proofs.YtkeecomghgmamaaW.PrintMore
attribute [local go_sem] max2_int min2_int max_two min_two max_three min_three max_four min_four   -- for this text's walks alone
set_option linter.unusedVariables false
set_option linter.unusedSimpArgs false

/-! ### ints_add: function 24 -/
def ints_add.f (a0 : Int) (a1 : Int) : Option (Int × Bool) := some (wrap64 (a0 + a1), ((decide ((wrap64 (a0 + a1)) > a0)) == (decide (a1 > 0))))
set_option maxHeartbeats 8000000 in
set_option maxRecDepth 100000 in
theorem ints_add.calls (a0 : Int) (a1 : Int) (r1 : Int) (r2 : Bool) (w : World) (h : ints_add.f a0 a1 = some (r1, r2)) :
    Calls Try.prog 24 #[.int .i64 a0, .int .i64 a1] w fun e w' => e = .returned (.tuple #[.int .i64 r1, .bool r2]) ∧ Drawn0 w w' := by
  have H : (some (wrap64 (a0 + a1), ((decide ((wrap64 (a0 + a1)) > a0)) == (decide (a1 > 0))))) = some (r1, r2) := h
  clear h
  simp only [Option.some.injEq, Prod.mk.injEq] at H
  obtain ⟨rfl, rfl⟩ := H
  go_enter Try.func24, Try.ntmps24
  go_wp2
  go_ret2
  exact ⟨by first | rfl | (simp; done) | (simp [*]; done), by repeat (first | exact Drawn0.refl _ | apply Drawn0.step)⟩

/-! ### ints_Add: function 11 -/
def ints_Add.l0 : Nat → Int → List Int → Int → Int → Option (Int × Int)
  | 0, _, _, _, _ => none
  | k + 1, x4, x9, x10, x11 => if x11 < x10 then (if 0 ≤ x11 then (if x11 < (x9.length : Int) then ((ints_add.f x4 (rd x9 x11)).bind fun bt102 => (if bt102.2 = true then (ints_Add.l0 k bt102.1 x9 x10 (wrap64 (x11 + 1))) else (some (0, 10)))) else (none)) else (none)) else (some (x4, 0))
def ints_Add.f (k : Nat) (l0 : List Int) : Option (Int × Int) := ints_Add.l0 k 0 l0 (l0.length : Int) 0
theorem ints_Add.mono_l : ∀ k, (∀ y0 y1 y2 y3, LeO (ints_Add.l0 k y0 y1 y2 y3) (ints_Add.l0 (k + 1) y0 y1 y2 y3))
  | 0 => fun _ _ _ _ r h => by simp [ints_Add.l0] at h
  | k + 1 => by
    have ih0 := ints_Add.mono_l k
    · intro y0 y1 y2 y3
      unfold ints_Add.l0
      repeat' first
      | (with_reducible exact ih0 _ _ _ _)
      | (with_reducible exact LeO.refl _)
      | (with_reducible exact LeO.none _)
      | (with_reducible refine LeO.ite ?_ ?_)
      | (with_reducible refine LeO.bind ?_ (fun _ => ?_))
      | exact ih0 _ _ _ _
      | exact LeO.none _
      | refine LeO.ite ?_ ?_
      | refine LeO.bind ?_ (fun _ => ?_)
theorem ints_Add.mono : ∀ a0 k, LeO (ints_Add.f k a0) (ints_Add.f (k + 1) a0) := by
  intro a0 k
  have ih0 := ints_Add.mono_l k
  unfold ints_Add.f
  repeat' first
      | (with_reducible exact ih0 _ _ _ _)
      | (with_reducible exact LeO.refl _)
      | (with_reducible exact LeO.none _)
      | (with_reducible refine LeO.ite ?_ ?_)
      | (with_reducible refine LeO.bind ?_ (fun _ => ?_))
      | exact ih0 _ _ _ _
      | exact LeO.none _
      | refine LeO.ite ?_ ?_
      | refine LeO.bind ?_ (fun _ => ?_)
set_option maxHeartbeats 8000000 in
set_option maxRecDepth 100000 in
theorem ints_Add.calls (k : Nat) (A0 : Option Addr) (c0 : Nat) (l0 : List Int) (r1 : Int) (r2 : Int) (w : World) (hr0 : Kd.C (Kd.int .i64) w A0 l0.length l0) (hc0 : l0.length ≤ c0) (h : ints_Add.f k l0 = some (r1, r2)) :
    Calls Try.prog 11 #[.slice A0 l0.length c0] w fun e w' => e = .returned (.tuple #[.int .i64 r1, .int .i64 r2]) ∧ Drawn0 w w' := by
  have HR0 := Aside0.mk hr0
  have HC0 := Aside0.mk hc0
  clear hr0 hc0
  have H : (ints_Add.l0 k 0 l0 (l0.length : Int) 0) = some (r1, r2) := h
  clear h
  have H' := Aside0.mk H
  clear H
  go_enter Try.func11, Try.ntmps11
  go_wp2
  go_loopg [4, 11] k (fun kq v4 v11 w' => ∃ (x4_1 : Int) (x11_1 : Int), v4 = .int .i64 x4_1 ∧ v11 = .int .i64 x11_1 ∧ Aside0 (ints_Add.l0 kq x4_1 l0 (l0.length : Int) x11_1 = some (r1, r2)) ∧ Aside0 (kq ≤ k) ∧ Drawn0 w w')
  case atStart => exact ⟨(0), (0), (by first | rfl | (simp; done) | (simp [*]; done)), (by first | rfl | (simp; done) | (simp [*]; done)), H', ⟨Nat.le_refl _⟩, by repeat (first | exact Drawn0.refl _ | apply Drawn0.step)⟩
  case round =>
    clear H'
    try clear c1
    obtain ⟨x4_1, x11_1, rfl, rfl, HA, HK1, ⟨m1, rfl⟩⟩ := hrel
    cases gk with
    | zero => exact absurd HA.out (by simp [ints_Add.l0])
    | succ k1 =>
      have H := HA.out
      clear HA
      simp only [ints_Add.l0] at H
      by_cases c2 : x11_1 < (l0.length : Int)
      · rw [if_pos c2] at H
        have c2b0 : decide (x11_1 < (l0.length : Int)) = true := decide_eq_true c2
        clear c2
        by_cases c3 : 0 ≤ x11_1
        · rw [if_pos c3] at H
          have c3b0 : decide (0 ≤ x11_1) = true := decide_eq_true c3
          clear c3
          by_cases c4 : x11_1 < (l0.length : Int)
          · rw [if_pos c4] at H
            have c4b0 : decide (x11_1 < (l0.length : Int)) = true := decide_eq_true c4
            clear c4
            replace H := Option.bind_eq_some_iff.mp H
            obtain ⟨⟨t102, t103⟩, A50, H⟩ := H
            replace H : (if t103 = true then (ints_Add.l0 k1 t102 l0 (l0.length : Int) (wrap64 (x11_1 + 1))) else (some (0, 10))) = some (r1, r2) := H
            have A5 := Aside0.mk A50
            clear A50
            by_cases c6 : t103 = true
            · subst c6
              have H1 : (ints_Add.l0 k1 t102 l0 (l0.length : Int) (wrap64 (x11_1 + 1))) = some (r1, r2) := by rw [if_pos rfl] at H; exact H
              clear H
              have H := H1
              clear H1
              have H' := Aside0.mk H
              clear H
              have p101 : 0 ≤ (x11_1 : Int) := of_decide_eq_true (by first | (with_reducible assumption) | assumption)
              have q101 : x11_1 < (l0.length : Int) := of_decide_eq_true (by first | (with_reducible assumption) | assumption)
              obtain ⟨ad101, e101, hx101_0⟩ := Kd.at_int HR0.out x11_1 p101 q101
              cases e101
              replace p101 := eq_true p101
              replace q101 := eq_true q101
              go_wp2_with (first | ((with_reducible refine gate_callee (f := 24) rfl ?_); refine goesL_ (some 18) rfl rfl Try.func24 (by kernel_rfl) rfl #[.int .i64 x4_1, .int .i64 (rd l0 x11_1)] rfl (by (try simp only [List.map_toArray, List.map_cons, List.map_nil]); first | done | rfl | (simp only [List.length_drop, List.length_take]; rfl)) ?_; (with_reducible refine (ints_add.calls x4_1 (rd l0 x11_1) t102 true _ A5.out).mono ?_); rintro e w' ⟨rfl, ⟨nd, rfl⟩⟩; refine ⟨_, rfl, ?_⟩))
              go_roundg k1
              case measure => have := HK1.out; omega
              case rel => exact ⟨(t102), (wrap64 (x11_1 + 1)), (by first | rfl | (simp; done) | (simp [*]; done)), (by first | rfl | (simp; done) | (simp [*]; done)), H', ⟨by have := HK1.out; omega⟩, by repeat (first | exact Drawn0.refl _ | apply Drawn0.step)⟩
            · replace c6 := Bool.eq_false_iff.mpr c6
              subst c6
              have H1 : (some (0, 10)) = some (r1, r2) := by rw [if_neg (show ¬ (false = true) by decide)] at H; exact H
              clear H
              have H := H1
              clear H1
              simp only [Option.some.injEq, Prod.mk.injEq] at H
              obtain ⟨rfl, rfl⟩ := H
              have p101 : 0 ≤ (x11_1 : Int) := of_decide_eq_true (by first | (with_reducible assumption) | assumption)
              have q101 : x11_1 < (l0.length : Int) := of_decide_eq_true (by first | (with_reducible assumption) | assumption)
              obtain ⟨ad101, e101, hx101_0⟩ := Kd.at_int HR0.out x11_1 p101 q101
              cases e101
              replace p101 := eq_true p101
              replace q101 := eq_true q101
              go_wp2_with (first | ((with_reducible refine gate_callee (f := 24) rfl ?_); refine goesL_ (some 18) rfl rfl Try.func24 (by kernel_rfl) rfl #[.int .i64 x4_1, .int .i64 (rd l0 x11_1)] rfl (by (try simp only [List.map_toArray, List.map_cons, List.map_nil]); first | done | rfl | (simp only [List.length_drop, List.length_take]; rfl)) ?_; (with_reducible refine (ints_add.calls x4_1 (rd l0 x11_1) t102 false _ A5.out).mono ?_); rintro e w' ⟨rfl, ⟨nd, rfl⟩⟩; refine ⟨_, rfl, ?_⟩))
              go_ret2
              exact ⟨by first | rfl | (simp; done) | (simp [*]; done), by repeat (first | exact Drawn0.refl _ | apply Drawn0.step)⟩
          · rw [if_neg c4] at H
            exact absurd H (by simp)
        · rw [if_neg c3] at H
          exact absurd H (by simp)
      · rw [if_neg c2] at H
        have c2b0 : decide (x11_1 < (l0.length : Int)) = false := decide_eq_false c2
        clear c2
        simp only [Option.some.injEq, Prod.mk.injEq] at H
        obtain ⟨rfl, rfl⟩ := H
        go_wp2
        go_ret2
        exact ⟨by first | rfl | (simp; done) | (simp [*]; done), by repeat (first | exact Drawn0.refl _ | apply Drawn0.step)⟩

/-! ### ints_size: function 32 -/
def I64 (x : Int) : Prop := -9223372036854775808 ≤ x ∧ x ≤ 9223372036854775807
instance (x : Int) : Decidable (I64 x) := by unfold I64; infer_instance
def ints_size.f (a0 : Int) : Option (Int) := if I64 a0 then some (a0.natAbs : Int) else none
set_option maxHeartbeats 8000000 in
set_option maxRecDepth 100000 in
theorem ints_size.calls (a0 : Int) (r : Int) (w : World) (h : ints_size.f a0 = some r) :
    Calls Try.prog 32 #[.int .i64 a0] w fun e w' => e = .returned (.int .u64 r) ∧ Drawn0 w w' := by
  unfold ints_size.f at h
  split at h
  · rename_i hi
    unfold I64 at hi
    obtain ⟨hi1, hi2⟩ := hi
    obtain rfl := Option.some.inj h
    clear h
    by_cases c : a0 < 0
    · have c2b0 : decide (a0 < 0) = true := decide_eq_true c
      have e : IntKind.u64.wrap (-(IntKind.u64.wrap a0)) = (a0.natAbs : Int) := by simp only [IntKind.wrap_u64]; omega
      have E := Aside0.mk e
      clear e c
      go_enter Try.func32, Try.ntmps32
      go_wp2
      go_ret
      exact ⟨by first | rfl | (rw [E.out]; rfl), Drawn0.refl _⟩
    · have c2b0 : decide (a0 < 0) = false := decide_eq_false c
      have e : IntKind.u64.wrap a0 = (a0.natAbs : Int) := by simp only [IntKind.wrap_u64]; omega
      rw [← e]
      clear e
      go_enter Try.func32, Try.ntmps32
      go_wp2
      go_ret
      exact ⟨by first | rfl | exact congrArg (fun z => Ending.returned (Value.int IntKind.u64 z)) (by simp only [IntKind.wrap_u64]; omega), Drawn0.refl _⟩
  · cases h

/-! ### bits_Mul64: function 36 -/
def U64 (x : Int) : Prop := 0 ≤ x ∧ x ≤ 18446744073709551615
instance (x : Int) : Decidable (U64 x) := by unfold U64; infer_instance
def bits_Mul64.f (a0 : Int) (a1 : Int) : Option (Int × Int) := if U64 a0 ∧ U64 a1 then some (a0 * a1 / 18446744073709551616, a0 * a1 % 18446744073709551616) else none
namespace Mul64w
theorem maskN (a : Nat) (ha : a < 18446744073709551616) : bits .and .u64 (a : Int) 4294967295 = ((a % 4294967296 : Nat) : Int) := by
  rw [and_low32 _ (by omega) (by omega)]; omega
theorem divN (a : Nat) : (a : Int) / 4294967296 = ((a / 4294967296 : Nat) : Int) := by omega
theorem mulN (a b : Nat) : (a : Int) * (b : Int) = ((a * b : Nat) : Int) := (Int.natCast_mul a b).symm
theorem addN (a b : Nat) : (a : Int) + (b : Int) = ((a + b : Nat) : Int) := (Int.natCast_add a b).symm
theorem wrapN (a : Nat) (ha : a < 18446744073709551616) : IntKind.u64.wrap (a : Int) = (a : Int) := by rw [IntKind.wrap_u64]; omega
theorem wrapM (a : Nat) : IntKind.u64.wrap (a : Int) = ((a % 18446744073709551616 : Nat) : Int) := by rw [IntKind.wrap_u64]; omega
end Mul64w
set_option maxHeartbeats 8000000 in
set_option maxRecDepth 100000 in
theorem bits_Mul64.calls (a0 : Int) (a1 : Int) (r1 : Int) (r2 : Int) (w : World) (h : bits_Mul64.f a0 a1 = some (r1, r2)) :
    Calls Try.prog 36 #[.int .u64 a0, .int .u64 a1] w fun e w' => e = .returned (.tuple #[.int .u64 r1, .int .u64 r2]) ∧ Drawn0 w w' := by
  unfold bits_Mul64.f at h
  split at h
  · rename_i hu
    unfold U64 at hu
    obtain ⟨⟨u1, u2⟩, u3, u4⟩ := hu
    simp only [Option.some.injEq, Prod.mk.injEq] at h
    obtain ⟨rfl, rfl⟩ := h
    obtain ⟨x, rfl⟩ := Int.eq_ofNat_of_zero_le u1
    obtain ⟨y, rfl⟩ := Int.eq_ofNat_of_zero_le u3
    have hx : x < 18446744073709551616 := by omega
    have hy : y < 18446744073709551616 := by omega
    clear u1 u2 u3 u4
    obtain ⟨bd, bt, bw, hhi⟩ := Lib.mul64_hi x y hx hy
    have ba := Lib.half_mul_le (a := x / 4294967296) (b := y / 4294967296) (by omega) (by omega)
    have bb := Lib.half_mul_le (a := x / 4294967296) (b := y % 4294967296) (by omega) (by omega)
    have bc := Lib.half_mul_le (a := x % 4294967296) (b := y / 4294967296) (by omega) (by omega)
    have ba' : x / 4294967296 * (y / 4294967296) < 18446744073709551616 := by omega
    have bb' : x / 4294967296 * (y % 4294967296) < 18446744073709551616 := by omega
    have bc' : x % 4294967296 * (y / 4294967296) < 18446744073709551616 := by omega
    have bh1 : x / 4294967296 * (y / 4294967296) + (x / 4294967296 * (y % 4294967296) + x % 4294967296 * (y % 4294967296) / 4294967296) / 4294967296 < 18446744073709551616 := by omega
    have bh : x / 4294967296 * (y / 4294967296) + (x / 4294967296 * (y % 4294967296) + x % 4294967296 * (y % 4294967296) / 4294967296) / 4294967296 + ((x / 4294967296 * (y % 4294967296) + x % 4294967296 * (y % 4294967296) / 4294967296) % 4294967296 + x % 4294967296 * (y / 4294967296)) / 4294967296 < 18446744073709551616 := by omega
    have e1 : ((x : Int) * (y : Int) / 18446744073709551616) = ((x * y / 18446744073709551616 : Nat) : Int) := by rw [← Int.natCast_mul]; omega
    have e2 : ((x : Int) * (y : Int) % 18446744073709551616) = ((x * y % 18446744073709551616 : Nat) : Int) := by rw [← Int.natCast_mul]; omega
    rw [e1, e2]
    clear e1 e2
    have HHI := Aside0.mk hhi
    clear hhi
    go_enter Try.func36, Try.ntmps36
    go_wp2
    simp only [Mul64w.maskN x hx, Mul64w.maskN y hy, Mul64w.divN, Mul64w.mulN, Mul64w.addN, Mul64w.wrapN _ bd, Mul64w.wrapN _ bb', Mul64w.wrapN _ bt, Mul64w.maskN _ bt, Mul64w.wrapN _ bc', Mul64w.wrapN _ bw, Mul64w.wrapN _ ba', Mul64w.wrapN _ bh1, Mul64w.wrapN _ bh, Mul64w.wrapM (x * y)]
    rw [HHI.out]
    go_ret2
    exact ⟨rfl, by repeat (first | exact Drawn0.refl _ | apply Drawn0.step)⟩
  · cases h

/-! ### ints_mul: function 29 -/
def ints_mul.f (a0 : Int) (a1 : Int) : Option (Int × Bool) := if I64 a0 ∧ I64 a1 then some (if I64 (a0 * a1) then (a0 * a1, true) else (0, false)) else none
theorem ints_mul.abs (a b : Int) : ((a * b).natAbs : Int) = (a.natAbs : Int) * (b.natAbs : Int) := by rw [Int.natAbs_mul]; exact Int.natCast_mul _ _
theorem ints_mul.sign (a b : Int) : (decide (a < 0) != decide (b < 0)) = true → a * b ≤ 0 := by
  intro h
  by_cases ha : a < 0 <;> by_cases hb : b < 0 <;> simp [ha, hb] at h
  · exact Int.mul_nonpos_of_nonpos_of_nonneg (by omega) (by omega)
  · exact Int.mul_nonpos_of_nonneg_of_nonpos (by omega) (by omega)
theorem ints_mul.sign' (a b : Int) : (decide (a < 0) != decide (b < 0)) = false → 0 ≤ a * b := by
  intro h
  by_cases ha : a < 0 <;> by_cases hb : b < 0 <;> simp [ha, hb] at h
  · exact Int.mul_nonneg_of_nonpos_of_nonpos (by omega) (by omega)
  · exact Int.mul_nonneg (by omega) (by omega)
set_option maxHeartbeats 8000000 in
set_option maxRecDepth 100000 in
theorem ints_mul.calls (a0 : Int) (a1 : Int) (r1 : Int) (r2 : Bool) (w : World) (h : ints_mul.f a0 a1 = some (r1, r2)) :
    Calls Try.prog 29 #[.int .i64 a0, .int .i64 a1] w fun e w' => e = .returned (.tuple #[.int .i64 r1, .bool r2]) ∧ Drawn0 w w' := by
  unfold ints_mul.f at h
  split at h
  · rename_i hi
    have hab := ints_mul.abs a0 a1
    have hs := ints_mul.sign a0 a1
    have hs' := ints_mul.sign' a0 a1
    have A1 : Aside0 (ints_size.f a0 = some (a0.natAbs : Int)) := ⟨if_pos hi.1⟩
    have A2 : Aside0 (ints_size.f a1 = some (a1.natAbs : Int)) := ⟨if_pos hi.2⟩
    have A3 : Aside0 (bits_Mul64.f (a0.natAbs : Int) (a1.natAbs : Int) = some (((a0 * a1).natAbs : Int) / 18446744073709551616, ((a0 * a1).natAbs : Int) % 18446744073709551616)) := ⟨by
      rw [hab]; exact if_pos (by unfold U64; unfold I64 at hi; omega)⟩
    clear hi hab
    have H := Option.some.inj h
    clear h
    generalize a0 * a1 = p at H hs hs' A3
    generalize hq1 : ((p.natAbs : Int) / 18446744073709551616) = q1 at A3
    generalize hq2 : ((p.natAbs : Int) % 18446744073709551616) = q2 at A3
    have hp1 : 0 ≤ q1 := by omega
    have hq20 : 0 ≤ q2 := by omega
    have hq2l : q2 < 18446744073709551616 := by omega
    have hpq : (p.natAbs : Int) = q1 * 18446744073709551616 + q2 := by omega
    clear hq1 hq2
    have w1 : q2 ≤ 9223372036854775808 → wrap64 (IntKind.u64.wrap (-q2)) = -q2 := fun h => by simp only [IntKind.wrap_u64]; unfold wrap64; omega
    have w2 : q2 < 9223372036854775808 → wrap64 q2 = q2 := fun h => by unfold wrap64; omega
    by_cases c1 : q1 = 0
    · have c1b0 : (q1 == 0) = true := beq_iff_eq.mpr c1
      have c1b1 : (q1 != 0) = false := bne_eq_false_iff_eq.mpr c1
      have hpq2 : (p.natAbs : Int) = q2 := by omega
      clear hpq hp1 c1
      by_cases c2 : q2 > 9223372036854775808
      · have c2b0 : decide (9223372036854775808 < q2) = true := decide_eq_true c2
        have hr : (0, false) = (r1, r2) := by rw [if_neg (by unfold I64; omega)] at H; exact H
        cases hr
        clear H hs hs' hpq2 hq20 hq2l c2 w1 w2
        go_enter Try.func29, Try.ntmps29
        go_wp2_with (first | (go_at_call 32; first | ((with_reducible refine (ints_size.calls _ _ _ A1.out).mono ?_); rintro e w' ⟨rfl, ⟨nd, rfl⟩⟩) | ((with_reducible refine (ints_size.calls _ _ _ A2.out).mono ?_); rintro e w' ⟨rfl, ⟨nd, rfl⟩⟩)) | (go_at_call 36; (with_reducible refine (bits_Mul64.calls _ _ _ _ _ A3.out).mono ?_); rintro e w' ⟨rfl, ⟨nd, rfl⟩⟩))
        go_ret2
        exact ⟨by first | rfl | (simp; done), by repeat (first | exact Drawn0.refl _ | apply Drawn0.step)⟩
      · have c2b0 : decide (9223372036854775808 < q2) = false := decide_eq_false c2
        by_cases hm : (decide (a0 < 0) == decide (a1 < 0)) = true
        · have hm2 : (decide (a0 < 0) != decide (a1 < 0)) = false := by rw [bne, hm]; rfl
          have hpos := hs' hm2
          by_cases c3 : q2 = 9223372036854775808
          · have c3b0 : (q2 == 9223372036854775808) = true := beq_iff_eq.mpr c3
            have hr : (0, false) = (r1, r2) := by rw [if_neg (by unfold I64; omega)] at H; exact H
            cases hr
            clear H hs hs' hpq2 hq20 hq2l c2 c3 w1 w2 hpos
            go_enter Try.func29, Try.ntmps29
            go_wp2_with (first | (go_at_call 32; first | ((with_reducible refine (ints_size.calls _ _ _ A1.out).mono ?_); rintro e w' ⟨rfl, ⟨nd, rfl⟩⟩) | ((with_reducible refine (ints_size.calls _ _ _ A2.out).mono ?_); rintro e w' ⟨rfl, ⟨nd, rfl⟩⟩)) | (go_at_call 36; (with_reducible refine (bits_Mul64.calls _ _ _ _ _ A3.out).mono ?_); rintro e w' ⟨rfl, ⟨nd, rfl⟩⟩))
            go_ret2
            exact ⟨by first | rfl | (simp; done), by repeat (first | exact Drawn0.refl _ | apply Drawn0.step)⟩
          · have c3b0 : (q2 == 9223372036854775808) = false := beq_eq_false_iff_ne.mpr c3
            have hr : (q2, true) = (r1, r2) := by rw [if_pos (by unfold I64; omega)] at H; rw [← H, show p = q2 by omega]
            cases hr
            have HW := Aside0.mk (w2 (by omega))
            clear H hs hs' hpq2 hq20 hq2l c2 c3 w1 w2 hpos
            go_enter Try.func29, Try.ntmps29
            go_wp2_with (first | (go_at_call 32; first | ((with_reducible refine (ints_size.calls _ _ _ A1.out).mono ?_); rintro e w' ⟨rfl, ⟨nd, rfl⟩⟩) | ((with_reducible refine (ints_size.calls _ _ _ A2.out).mono ?_); rintro e w' ⟨rfl, ⟨nd, rfl⟩⟩)) | (go_at_call 36; (with_reducible refine (bits_Mul64.calls _ _ _ _ _ A3.out).mono ?_); rintro e w' ⟨rfl, ⟨nd, rfl⟩⟩))
            go_ret2
            exact ⟨by first | rfl | (rw [HW.out]; rfl) | exact congrArg (fun z => Ending.returned (.tuple #[Value.int IntKind.i64 z, .bool true])) HW.out, by repeat (first | exact Drawn0.refl _ | apply Drawn0.step)⟩
        · replace hm := Bool.eq_false_iff.mpr hm
          have hm2 : (decide (a0 < 0) != decide (a1 < 0)) = true := by rw [bne, hm]; rfl
          have hpos := hs hm2
          have hr : (-q2, true) = (r1, r2) := by rw [if_pos (by unfold I64; omega)] at H; rw [← H, show p = -q2 by omega]
          cases hr
          have HW : Aside0 (wrap64 (IntKind.u64.wrap (-q2)) = -q2) := ⟨w1 (by omega)⟩
          by_cases c3 : q2 = 9223372036854775808
          · have c3b0 : (q2 == 9223372036854775808) = true := beq_iff_eq.mpr c3
            clear H hs hs' hpq2 hq20 hq2l c2 c3 w1 w2 hpos
            go_enter Try.func29, Try.ntmps29
            go_wp2_with (first | (go_at_call 32; first | ((with_reducible refine (ints_size.calls _ _ _ A1.out).mono ?_); rintro e w' ⟨rfl, ⟨nd, rfl⟩⟩) | ((with_reducible refine (ints_size.calls _ _ _ A2.out).mono ?_); rintro e w' ⟨rfl, ⟨nd, rfl⟩⟩)) | (go_at_call 36; (with_reducible refine (bits_Mul64.calls _ _ _ _ _ A3.out).mono ?_); rintro e w' ⟨rfl, ⟨nd, rfl⟩⟩))
            go_ret2
            exact ⟨by first | rfl | (rw [HW.out]; rfl) | exact congrArg (fun z => Ending.returned (.tuple #[Value.int IntKind.i64 z, .bool true])) HW.out, by repeat (first | exact Drawn0.refl _ | apply Drawn0.step)⟩
          · have c3b0 : (q2 == 9223372036854775808) = false := beq_eq_false_iff_ne.mpr c3
            clear H hs hs' hpq2 hq20 hq2l c2 c3 w1 w2 hpos
            go_enter Try.func29, Try.ntmps29
            go_wp2_with (first | (go_at_call 32; first | ((with_reducible refine (ints_size.calls _ _ _ A1.out).mono ?_); rintro e w' ⟨rfl, ⟨nd, rfl⟩⟩) | ((with_reducible refine (ints_size.calls _ _ _ A2.out).mono ?_); rintro e w' ⟨rfl, ⟨nd, rfl⟩⟩)) | (go_at_call 36; (with_reducible refine (bits_Mul64.calls _ _ _ _ _ A3.out).mono ?_); rintro e w' ⟨rfl, ⟨nd, rfl⟩⟩))
            go_ret2
            exact ⟨by first | rfl | (rw [HW.out]; rfl) | exact congrArg (fun z => Ending.returned (.tuple #[Value.int IntKind.i64 z, .bool true])) HW.out, by repeat (first | exact Drawn0.refl _ | apply Drawn0.step)⟩
    · have c1b0 : (q1 == 0) = false := beq_eq_false_iff_ne.mpr c1
      have c1b1 : (q1 != 0) = true := bne_iff_ne.mpr c1
      have hr : (0, false) = (r1, r2) := by rw [if_neg (by unfold I64; omega)] at H; exact H
      cases hr
      clear H hs hs' hpq hq20 hq2l hp1 c1 w1 w2
      go_enter Try.func29, Try.ntmps29
      go_wp2_with (first | (go_at_call 32; first | ((with_reducible refine (ints_size.calls _ _ _ A1.out).mono ?_); rintro e w' ⟨rfl, ⟨nd, rfl⟩⟩) | ((with_reducible refine (ints_size.calls _ _ _ A2.out).mono ?_); rintro e w' ⟨rfl, ⟨nd, rfl⟩⟩)) | (go_at_call 36; (with_reducible refine (bits_Mul64.calls _ _ _ _ _ A3.out).mono ?_); rintro e w' ⟨rfl, ⟨nd, rfl⟩⟩))
      go_ret2
      exact ⟨by first | rfl | (simp; done), by repeat (first | exact Drawn0.refl _ | apply Drawn0.step)⟩
  · cases h

/-! ### ints_Parse: function 13 -/
def ints_Parse.dig (c : UInt8) : Bool := decide (48 ≤ c.toNat ∧ c.toNat ≤ 57)
def ints_Parse.l1 (m : Bool) : List UInt8 → Int → Option (Int × Int)
  | [], n => some (n, 0)
  | c :: r, n => (ints_mul.f n 10).bind fun p => (ints_add.f p.1 (if m = true then -((c.toNat : Int) - 48) else (c.toNat : Int) - 48)).bind fun q => if p.2 = true then if q.2 = true then ints_Parse.l1 m r q.1 else some (0, 10) else some (0, 10)
def ints_Parse.loops (m : Bool) (d : ByteArray) : Option (Int × Int) := if d.data.toList.all ints_Parse.dig = true then ints_Parse.l1 m d.data.toList 0 else some (0, 2)
def ints_Parse.rest (m : Bool) (d s : ByteArray) : Option (Int × Int) :=
  if d.size = 0 then some (0, 2) else if bt d 0 = 48 ∧ ¬ s.toList = [48] then some (0, 2) else
  ints_Parse.loops m d
def ints_Parse.f (a0 : ByteArray) : Option (Int × Int) :=
  if 9223372036854775807 < a0.size then none else if a0.size = 0 then some (0, 2) else if bt a0 0 = 45 then ints_Parse.rest true (a0.extract 1 a0.size) a0 else ints_Parse.rest false a0 a0

theorem ints_Parse.pos {w : World} {k : Nat} {s : ByteArray} {p : Nat} (h : w.heap[k]? = some (.stringIter s p)) : w.iterPos k = p := by simp [World.iterPos, h]
theorem ints_Parse.drop (d : ByteArray) (pos : Nat) (h : pos < d.size) : d.data.toList.drop pos = d[pos] :: d.data.toList.drop (pos + 1) := by
  rw [List.drop_eq_getElem_cons (by simpa using h)]; rfl
theorem ints_Parse.all_no (d : ByteArray) (pos : Nat) (h : pos < d.size) (hd : ints_Parse.dig d[pos] = false) : d.data.toList.all ints_Parse.dig = false := by
  rw [List.all_eq_false]
  exact ⟨d[pos], by have : d[pos] = d.data.toList[pos]'(by simpa using h) := rfl
                    rw [this]; exact List.getElem_mem _, by rw [hd]; decide⟩
theorem ints_Parse.all_take (d : ByteArray) (pos : Nat) (h : pos < d.size) (ht : (d.data.toList.take pos).all ints_Parse.dig = true) (hd : ints_Parse.dig d[pos] = true) : (d.data.toList.take (pos + 1)).all ints_Parse.dig = true := by
  rw [List.take_succ_eq_append_getElem (by simpa using h), List.all_append, ht]
  have : d.data.toList[pos]'(by simpa using h) = d[pos] := rfl
  simp [this, hd]
theorem ints_Parse.at_dig (d : ByteArray) (pos : Nat) (h : pos < d.size) (hd : d.data.toList.all ints_Parse.dig = true) : ints_Parse.dig d[pos] = true := by
  have : d[pos] = d.data.toList[pos]'(by simpa using h) := rfl
  rw [this]
  exact List.all_eq_true.mp hd _ (List.getElem_mem _)

set_option maxHeartbeats 4000000 in
set_option maxRecDepth 100000 in
theorem ints_Parse.calls (a0 : ByteArray) (r1 : Int) (r2 : Int) (w : World) (h : ints_Parse.f a0 = some (r1, r2)) :
    Calls Try.prog 13 #[.string a0] w fun e w' => e = .returned (.tuple #[.int .i64 r1, .int .i64 r2]) ∧ Below w.heap.size w w' := by
  unfold ints_Parse.f at h
  split at h
  · cases h
  rename_i hbig
  have hmax : a0.size ≤ 9223372036854775807 := by omega
  clear hbig
  have H := Aside0.mk h
  clear h
  by_cases h0 : a0.size = 0
  · have hr : (0, 2) = (r1, r2) := by have := H.out; rw [if_pos h0] at this; exact Option.some.inj this
    cases hr
    have h1 : a0.toList = [] := by
      rw [ByteArray.toList_eq]
      have : a0.data.size = 0 := h0
      exact List.eq_nil_of_length_eq_zero (by simpa using this)
    have h00 : (a0.toList.isEmpty) = true := by rw [h1]; rfl
    clear H h0 hmax
    go_enter Try.func13, Try.ntmps13
    go_wp2
    go_ret2
    exact ⟨by first | rfl | (simp; done), by repeat (first | exact Below.refl _ _)⟩
  · have hlt : 0 < a0.size := by omega
    have h1 : ¬ a0.toList = [] := by
      intro h; apply h0
      rw [ByteArray.toList_eq] at h
      have := congrArg List.length h
      simpa using this
    have h00 : (a0.toList.isEmpty) = false := by simpa using h1
    have hb : (a0[0] : UInt8).toNat = bt a0 0 := by unfold bt; simp [hlt]
    obtain ⟨m, hm2⟩ : ∃ m : Bool, ((a0[0].toNat : Int) == 45) = m := ⟨_, rfl⟩
    obtain ⟨d, hd⟩ : ∃ d : ByteArray, d = if m = true then a0.extract 1 a0.size else a0 := ⟨_, rfl⟩
    have HD := Aside0.mk hd
    have H2 : Aside0 (ints_Parse.rest m d a0 = some (r1, r2)) := by
      refine ⟨?_⟩
      have h3 := H.out
      rw [if_neg h0] at h3
      by_cases hm : bt a0 0 = 45
      · have : m = true := by rw [← hm2, hb, hm]; rfl
        subst this
        rw [if_pos rfl] at hd
        rw [if_pos hm, ← hd] at h3
        exact h3
      · have : m = false := by rw [← hm2, hb]; exact beq_eq_false_iff_ne.mpr hm
        subst this
        rw [if_neg (by decide)] at hd
        rw [if_neg hm] at h3
        rw [hd]
        exact h3
    clear H h0 hb hd
    have hlt' : (1 : Int) ≤ (a0.size : Int) := by omega
    go_enter Try.func13, Try.ntmps13
    go_upto_if 24 with (fail)
    (try simp only [Act.put, List.setIfInBounds_toArray, List.set_cons_zero, List.set_cons_succ])
    go_cut [5] (fun v5 wc => v5 = .string d ∧ w = wc)
    case first =>
      cases m with
      | true =>
        go_wp2
        go_meet
        case rel => exact ⟨by rw [HD.out]; simp, rfl⟩
      | false =>
        go_wp2
        go_meet
        case rel => exact ⟨by rw [HD.out]; simp, rfl⟩
    case rest =>
      obtain ⟨rfl, rfl⟩ := hcut
      clear HD hm2 h1 h00 hlt hlt'
      go_upto_region 5 with (fail)
      (try simp only [Act.put, List.setIfInBounds_toArray, List.set_cons_zero, List.set_cons_succ])
      go_cut [37] (fun v37 wc => ∃ z : Bool, v37 = .bool z ∧ Aside0 ((if z = true then some (0, 2) else ints_Parse.loops m d) = some (r1, r2)) ∧ w = wc)
      case first =>
        by_cases e0 : d.size = 0
        · have h1 : d.toList = [] := by
            rw [ByteArray.toList_eq]
            have : d.data.size = 0 := e0
            exact List.eq_nil_of_length_eq_zero (by simpa using this)
          have h00 : (d.toList.isEmpty) = true := by rw [h1]; rfl
          have H3 : Aside0 ((if true = true then some (0, 2) else ints_Parse.loops m d) = some (r1, r2)) := ⟨by have := H2.out; unfold ints_Parse.rest at this; rw [if_pos e0] at this; exact this⟩
          clear H2 e0
          go_wp2
          go_meet
          case rel => exact ⟨true, by first | rfl | (simp; done), H3, rfl⟩
        · have hlt : 0 < d.size := by omega
          have h1 : ¬ d.toList = [] := by
            intro h; apply e0
            rw [ByteArray.toList_eq] at h
            have := congrArg List.length h
            simpa using this
          have h00 : (d.toList.isEmpty) = false := by simpa using h1
          have hb : (d[0] : UInt8).toNat = bt d 0 := by unfold bt; simp [hlt]
          have hlt' : (1 : Int) ≤ (d.size : Int) := by omega
          by_cases e1 : bt d 0 = 48
          · have hm2 : ((d[0].toNat : Int) == 48) = true := by rw [hb, e1]; rfl
            by_cases e2 : a0.toList = [48]
            · have e3 : (a0.toList == [48]) = true := by rw [e2]; rfl
              have H3 : Aside0 ((if false = true then some (0, 2) else ints_Parse.loops m d) = some (r1, r2)) := ⟨by have := H2.out; unfold ints_Parse.rest at this; rw [if_neg e0, if_neg (fun h => h.2 e2)] at this; exact this⟩
              clear H2 e0 hb e1
              go_wp2
              go_meet
              case rel => exact ⟨false, by first | rfl | (simp; done), H3, rfl⟩
            · have e3 : (a0.toList == [48]) = false := beq_eq_false_iff_ne.mpr e2
              have H3 : Aside0 ((if true = true then some (0, 2) else ints_Parse.loops m d) = some (r1, r2)) := ⟨by have := H2.out; unfold ints_Parse.rest at this; rw [if_neg e0, if_pos ⟨e1, e2⟩] at this; exact this⟩
              clear H2 e0 hb e1
              go_wp2
              go_meet
              case rel => exact ⟨true, by first | rfl | (simp; done), H3, rfl⟩
          · have hm2 : ((d[0].toNat : Int) == 48) = false := by rw [hb]; exact beq_eq_false_iff_ne.mpr e1
            have H3 : Aside0 ((if false = true then some (0, 2) else ints_Parse.loops m d) = some (r1, r2)) := ⟨by have := H2.out; unfold ints_Parse.rest at this; rw [if_neg e0, if_neg (fun h => e1 h.1)] at this; exact this⟩
            clear H2 e0 hb e1
            go_wp2
            go_meet
            case rel => exact ⟨false, by first | rfl | (simp; done), H3, rfl⟩
      case rest =>
        clear H2
        obtain ⟨z, rfl, H3, rfl⟩ := hcut
        cases z with
        | true =>
          have hr : (0, 2) = (r1, r2) := Option.some.inj (by have := H3.out; rw [if_pos rfl] at this; exact this)
          cases hr
          clear H3
          go_wp2
          go_ret2
          exact ⟨by first | rfl | (simp; done), Below.refl _ _⟩
        | false =>
          have H4 : Aside0 (ints_Parse.loops m d = some (r1, r2)) := ⟨by have := H3.out; rw [if_neg (by decide)] at this; exact this⟩
          clear H3
          go_wp2
          go_loopw [] (fun wr => ∃ pos : Nat, wr.heap[w.heap.size]? = some (.stringIter d pos) ∧ pos ≤ d.size ∧ Aside0 ((d.data.toList.take pos).all ints_Parse.dig = true) ∧ Below w.heap.size w wr) (fun wr => d.size - wr.iterPos w.heap.size)
          case atStart => exact ⟨0, World.iter_heap w d 0, Nat.zero_le _, ⟨rfl⟩, (Below.refl _ _).alloc (Nat.le_refl _) _⟩
          case round =>
            obtain ⟨pos, hit, hpd, HA, HB⟩ := hrel
            have hpos0 := ints_Parse.pos hit
            by_cases hp : pos < d.size
            · have hit2 := Lib.iterAt_heap wr w.heap.size d pos (pos + (Utf8.decode d pos).2) hit
              have hbw2 := Lib.below_iterAt HB (k := w.heap.size) (Nat.le_refl _) d (pos + (Utf8.decode d pos).2)
              by_cases hc : d[pos].toNat < 128
              · have hdec := decode_ascii d pos hp hc
                rw [hdec] at hit2 hbw2
                have hnx : ∀ ty, (Instr.next (.pointer (some ⟨w.heap.size, 0, none⟩)) true ty).run Try.prog wr = _ := fun ty => Lib.run_next_ascii_at wr w.heap.size d pos ty hit hp hc
                obtain ⟨W1, hW1⟩ : ∃ W1, W1 = wr.iterAt w.heap.size d (pos + 1) := ⟨_, rfl⟩
                simp only [← hW1] at hnx hit2 hbw2
                have HPOS := Aside0.mk hpos0
                have HIT := Aside0.mk hit2
                have HB2 := Aside0.mk hbw2
                have HDIG := Aside0.mk (rfl : ints_Parse.dig d[pos] = decide (48 ≤ d[pos].toNat ∧ d[pos].toNat ≤ 57))
                clear hW1 hdec hit hpos0 hit2 hbw2 HB
                by_cases h1 : (d[pos].toNat : Int) < 48
                · have c1 : decide ((d[pos].toNat : Int) < 48) = true := decide_eq_true h1
                  have hr : (0, 2) = (r1, r2) := Option.some.inj (by have := H4.out; unfold ints_Parse.loops at this; rw [ints_Parse.all_no d pos hp (by rw [HDIG.out]; exact decide_eq_false (by omega))] at this; exact this)
                  cases hr
                  clear H4 HA HPOS HIT
                  go_wp2
                  go_ret2
                  exact ⟨by first | rfl | (simp; done), HB2.out⟩
                · have c1 : decide ((d[pos].toNat : Int) < 48) = false := decide_eq_false h1
                  by_cases h2 : (57 : Int) < (d[pos].toNat : Int)
                  · have c2 : decide ((57 : Int) < (d[pos].toNat : Int)) = true := decide_eq_true h2
                    have hr : (0, 2) = (r1, r2) := Option.some.inj (by have := H4.out; unfold ints_Parse.loops at this; rw [ints_Parse.all_no d pos hp (by rw [HDIG.out]; exact decide_eq_false (by omega))] at this; exact this)
                    cases hr
                    clear H4 HA HPOS HIT
                    go_wp2
                    go_ret2
                    exact ⟨by first | rfl | (simp; done), HB2.out⟩
                  · have c2 : decide ((57 : Int) < (d[pos].toNat : Int)) = false := decide_eq_false h2
                    have HA2 := Aside0.mk (ints_Parse.all_take d pos hp HA.out (by rw [HDIG.out]; exact decide_eq_true (by omega)))
                    clear HA
                    go_wp2
                    go_roundw
                    case rel => exact ⟨pos + 1, HIT.out, by omega, HA2, HB2.out⟩
                    case measure => rw [ints_Parse.pos HIT.out, HPOS.out]; omega
              · have hdh := (decode_high d pos hp (by omega)).1
                have hdl := decode_le d pos
                have hnx : ∀ ty, (Instr.next (.pointer (some ⟨w.heap.size, 0, none⟩)) true ty).run Try.prog wr = _ := fun ty => Lib.run_next_any_at wr w.heap.size d pos ty hit hp
                obtain ⟨W1, hW1⟩ : ∃ W1, W1 = wr.iterAt w.heap.size d (pos + (Utf8.decode d pos).2) := ⟨_, rfl⟩
                simp only [← hW1] at hnx hit2 hbw2
                generalize (Utf8.decode d pos).1 = rune at *
                have c1 : decide ((rune : Int) < 48) = false := decide_eq_false (by omega)
                have c2 : decide ((57 : Int) < (rune : Int)) = true := decide_eq_true (by omega)
                have hr : (0, 2) = (r1, r2) := Option.some.inj (by have := H4.out; unfold ints_Parse.loops at this; rw [ints_Parse.all_no d pos hp (decide_eq_false (by omega))] at this; exact this)
                cases hr
                have HB2 := Aside0.mk hbw2
                clear H4 HA hpos0 hit hW1 hit2 hbw2 HB
                go_wp2
                go_ret2
                exact ⟨by first | rfl | (simp; done), HB2.out⟩
            · have hnx : ∀ ty, (Instr.next (.pointer (some ⟨w.heap.size, 0, none⟩)) true ty).run Try.prog wr = _ := fun ty => Lib.run_next_end_at wr w.heap.size d pos ty hit hp
              have hall : d.data.toList.all ints_Parse.dig = true := by
                have := HA.out
                rwa [List.take_of_length_le (by simp; omega)] at this
              have HALL := Aside0.mk hall
              have H5 : Aside0 (ints_Parse.l1 m d.data.toList 0 = some (r1, r2)) := ⟨by have := H4.out; unfold ints_Parse.loops at this; rw [if_pos hall] at this; exact this⟩
              have HB2 := Aside0.mk HB
              clear H4 HA hall hit hpos0 HB
              go_wp2
              obtain ⟨wo, rfl⟩ : ∃ wo : World, wo = wr := ⟨_, rfl⟩
              go_loopw [8] (fun v8 wr2 => ∃ (pos : Nat) (n : Int), v8 = .int .i64 n ∧ wr2.heap[wo.heap.size]? = some (.stringIter d pos) ∧ pos ≤ d.size ∧ Aside0 (ints_Parse.l1 m (d.data.toList.drop pos) n = some (r1, r2)) ∧ Aside0 (Below w.heap.size w wr2)) (fun _ wr2 => d.size - wr2.iterPos wo.heap.size)
              case atStart => exact ⟨0, 0, rfl, World.iter_heap wo d 0, Nat.zero_le _, H5, ⟨(HB2.out).alloc HB2.out.size _⟩⟩
              case round =>
                clear H5 hnx hp hpd
                obtain ⟨pos, n, rfl, hit, hpd, HA, HB⟩ := hrel
                have hpos0 := ints_Parse.pos hit
                by_cases hp : pos < d.size
                · have hdg := ints_Parse.at_dig d pos hp HALL.out
                  have hdg2 : 48 ≤ d[pos].toNat ∧ d[pos].toNat ≤ 57 := of_decide_eq_true hdg
                  have hc : d[pos].toNat < 128 := by omega
                  have hit2 := Lib.iterAt_heap wr wo.heap.size d pos (pos + 1) hit
                  have hbw2 := Lib.below_iterAt HB.out (k := wo.heap.size) HB2.out.size d (pos + 1)
                  have hnx : ∀ ty, (Instr.next (.pointer (some ⟨wo.heap.size, 0, none⟩)) true ty).run Try.prog wr = _ := fun ty => Lib.run_next_ascii_at wr wo.heap.size d pos ty hit hp hc
                  obtain ⟨W1, hW1⟩ : ∃ W1, W1 = wr.iterAt wo.heap.size d (pos + 1) := ⟨_, rfl⟩
                  simp only [← hW1] at hnx hit2 hbw2
                  have HPOS := Aside0.mk hpos0
                  have HIT := Aside0.mk hit2
                  have HBW := Aside0.mk hbw2
                  have hlo : (48 : Int) ≤ (d[pos].toNat : Int) := by omega
                  have hhi : (d[pos].toNat : Int) ≤ 57 := by omega
                  have HL := HA.out
                  rw [ints_Parse.drop d pos hp] at HL
                  unfold ints_Parse.l1 at HL
                  obtain ⟨⟨t1, t2⟩, M1, HL⟩ := Option.bind_eq_some_iff.mp HL
                  obtain ⟨⟨t3, t4⟩, M2, HL⟩ := Option.bind_eq_some_iff.mp HL
                  have M1' := Aside0.mk M1
                  have M2' := Aside0.mk M2
                  have HL' := Aside0.mk HL
                  clear M1 M2 HL HA hW1 hit hpos0 hit2 hbw2 HB hdg hdg2 hc
                  cases m with
                  | true =>
                    have M3 : Aside0 (ints_add.f t1 (-((d[pos].toNat : Int) - 48)) = some (t3, t4)) := ⟨by have := M2'.out; rw [if_pos rfl] at this; exact this⟩
                    clear M2'
                    cases t2 with
                    | false =>
                      have hr : (0, 10) = (r1, r2) := Option.some.inj (by have := HL'.out; rw [if_neg (fun h => Bool.false_ne_true h)] at this; exact this)
                      cases hr
                      clear HL'
                      go_wp2_with (first | (go_at_call 29; (with_reducible refine (ints_mul.calls _ _ _ _ _ M1'.out).mono ?_); rintro e w' ⟨rfl, ⟨nd, rfl⟩⟩) | (go_at_call 24; (with_reducible refine (ints_add.calls _ _ _ _ _ M3.out).mono ?_); rintro e w' ⟨rfl, ⟨nd, rfl⟩⟩))
                      go_ret2
                      exact ⟨by first | rfl | (simp; done), by repeat (first | exact HBW.out | apply pw_below_drewN)⟩
                    | true =>
                      cases t4 with
                      | false =>
                        have hr : (0, 10) = (r1, r2) := Option.some.inj (by have := HL'.out; rw [if_pos rfl, if_neg (fun h => Bool.false_ne_true h)] at this; exact this)
                        cases hr
                        clear HL'
                        go_wp2_with (first | (go_at_call 29; (with_reducible refine (ints_mul.calls _ _ _ _ _ M1'.out).mono ?_); rintro e w' ⟨rfl, ⟨nd, rfl⟩⟩) | (go_at_call 24; (with_reducible refine (ints_add.calls _ _ _ _ _ M3.out).mono ?_); rintro e w' ⟨rfl, ⟨nd, rfl⟩⟩))
                        go_ret2
                        exact ⟨by first | rfl | (simp; done), by repeat (first | exact HBW.out | apply pw_below_drewN)⟩
                      | true =>
                        have H6 : Aside0 (ints_Parse.l1 true (d.data.toList.drop (pos + 1)) t3 = some (r1, r2)) := ⟨by have := HL'.out; rw [if_pos rfl, if_pos rfl] at this; exact this⟩
                        clear HL'
                        go_wp2_with (first | (go_at_call 29; (with_reducible refine (ints_mul.calls _ _ _ _ _ M1'.out).mono ?_); rintro e w' ⟨rfl, ⟨nd, rfl⟩⟩) | (go_at_call 24; (with_reducible refine (ints_add.calls _ _ _ _ _ M3.out).mono ?_); rintro e w' ⟨rfl, ⟨nd2, rfl⟩⟩))
                        go_roundw
                        case rel => exact ⟨pos + 1, t3, by first | rfl | (simp; done), HIT.out, by omega, H6, ⟨by repeat (first | exact HBW.out | apply pw_below_drewN)⟩⟩
                        case measure => rw [HPOS.out]; have := ints_Parse.pos HIT.out; (first | (rw [this]; omega) | (simp only [World.iterPos] at this ⊢; simp at this ⊢; omega) | skip)
                  | false =>
                    have M3 : Aside0 (ints_add.f t1 ((d[pos].toNat : Int) - 48) = some (t3, t4)) := ⟨by have := M2'.out; rw [if_neg (by decide)] at this; exact this⟩
                    clear M2'
                    cases t2 with
                    | false =>
                      have hr : (0, 10) = (r1, r2) := Option.some.inj (by have := HL'.out; rw [if_neg (fun h => Bool.false_ne_true h)] at this; exact this)
                      cases hr
                      clear HL'
                      go_wp2_with (first | (go_at_call 29; (with_reducible refine (ints_mul.calls _ _ _ _ _ M1'.out).mono ?_); rintro e w' ⟨rfl, ⟨nd, rfl⟩⟩) | (go_at_call 24; (with_reducible refine (ints_add.calls _ _ _ _ _ M3.out).mono ?_); rintro e w' ⟨rfl, ⟨nd, rfl⟩⟩))
                      go_ret2
                      exact ⟨by first | rfl | (simp; done), by repeat (first | exact HBW.out | apply pw_below_drewN)⟩
                    | true =>
                      cases t4 with
                      | false =>
                        have hr : (0, 10) = (r1, r2) := Option.some.inj (by have := HL'.out; rw [if_pos rfl, if_neg (fun h => Bool.false_ne_true h)] at this; exact this)
                        cases hr
                        clear HL'
                        go_wp2_with (first | (go_at_call 29; (with_reducible refine (ints_mul.calls _ _ _ _ _ M1'.out).mono ?_); rintro e w' ⟨rfl, ⟨nd, rfl⟩⟩) | (go_at_call 24; (with_reducible refine (ints_add.calls _ _ _ _ _ M3.out).mono ?_); rintro e w' ⟨rfl, ⟨nd, rfl⟩⟩))
                        go_ret2
                        exact ⟨by first | rfl | (simp; done), by repeat (first | exact HBW.out | apply pw_below_drewN)⟩
                      | true =>
                        have H6 : Aside0 (ints_Parse.l1 false (d.data.toList.drop (pos + 1)) t3 = some (r1, r2)) := ⟨by have := HL'.out; rw [if_pos rfl, if_pos rfl] at this; exact this⟩
                        clear HL'
                        go_wp2_with (first | (go_at_call 29; (with_reducible refine (ints_mul.calls _ _ _ _ _ M1'.out).mono ?_); rintro e w' ⟨rfl, ⟨nd, rfl⟩⟩) | (go_at_call 24; (with_reducible refine (ints_add.calls _ _ _ _ _ M3.out).mono ?_); rintro e w' ⟨rfl, ⟨nd2, rfl⟩⟩))
                        go_roundw
                        case rel => exact ⟨pos + 1, t3, by first | rfl | (simp; done), HIT.out, by omega, H6, ⟨by repeat (first | exact HBW.out | apply pw_below_drewN)⟩⟩
                        case measure => rw [HPOS.out]; have := ints_Parse.pos HIT.out; (first | (rw [this]; omega) | (simp only [World.iterPos] at this ⊢; simp at this ⊢; omega) | skip)
                · have hnx : ∀ ty, (Instr.next (.pointer (some ⟨wo.heap.size, 0, none⟩)) true ty).run Try.prog wr = _ := fun ty => Lib.run_next_end_at wr wo.heap.size d pos ty hit hp
                  have hr : (n, 0) = (r1, r2) := Option.some.inj (by have := HA.out; rw [List.drop_eq_nil_of_le (by simp; omega)] at this; exact this)
                  cases hr
                  clear HA hit hpos0
                  go_wp2
                  go_ret2
                  exact ⟨by first | rfl | (simp; done), HB.out⟩

/-! ### ints_Digits: function 15 -/
def ints_Digits.l0 : Nat → Int → ByteArray → Int → Option (ByteArray)
  | 0, _, _, _ => none
  | k + 1, x0, x3, x4 => if x4 > 0 then (if (Utf8.encode (wrap32 (IntKind.u64.wrap (48 + (Int.tmod x4 10))))).size + x3.size ≤ 9223372036854775807 then (ints_Digits.l0 k x0 ((Utf8.encode (wrap32 (IntKind.u64.wrap (48 + (Int.tmod x4 10))))) ++ x3) (IntKind.u64.wrap (Int.tdiv x4 10))) else (none)) else (if x0 < 0 then (if 1 + x3.size ≤ 9223372036854775807 then (some ((⟨#[45]⟩ : ByteArray) ++ x3)) else (none)) else (some x3))
def ints_Digits.f (k : Nat) (a0 : Int) : Option (ByteArray) := if a0 = 0 then (some (⟨#[48]⟩ : ByteArray)) else ((ints_size.f a0).bind fun t104 => (ints_Digits.l0 k a0 (⟨#[]⟩ : ByteArray) t104))
theorem ints_Digits.mono_l : ∀ k, (∀ y0 y1 y2, LeO (ints_Digits.l0 k y0 y1 y2) (ints_Digits.l0 (k + 1) y0 y1 y2))
  | 0 => fun _ _ _ r h => by simp [ints_Digits.l0] at h
  | k + 1 => by
    have ih0 := ints_Digits.mono_l k
    · intro y0 y1 y2
      unfold ints_Digits.l0
      repeat' first
      | (with_reducible exact ih0 _ _ _)
      | (with_reducible exact LeO.refl _)
      | (with_reducible exact LeO.none _)
      | (with_reducible refine LeO.ite ?_ ?_)
      | (with_reducible refine LeO.bind ?_ (fun _ => ?_))
      | exact ih0 _ _ _
      | exact LeO.none _
      | refine LeO.ite ?_ ?_
      | refine LeO.bind ?_ (fun _ => ?_)
theorem ints_Digits.mono : ∀ a0 k, LeO (ints_Digits.f k a0) (ints_Digits.f (k + 1) a0) := by
  intro a0 k
  have ih0 := ints_Digits.mono_l k
  unfold ints_Digits.f
  repeat' first
      | (with_reducible exact ih0 _ _ _)
      | (with_reducible exact LeO.refl _)
      | (with_reducible exact LeO.none _)
      | (with_reducible refine LeO.ite ?_ ?_)
      | (with_reducible refine LeO.bind ?_ (fun _ => ?_))
      | exact ih0 _ _ _
      | exact LeO.none _
      | refine LeO.ite ?_ ?_
      | refine LeO.bind ?_ (fun _ => ?_)
set_option maxHeartbeats 8000000 in
set_option maxRecDepth 100000 in
theorem ints_Digits.calls (k : Nat) (a0 : Int) (r : ByteArray) (w : World) (h : ints_Digits.f k a0 = some r) :
    Calls Try.prog 15 #[.int .i64 a0] w fun e w' => e = .returned (.string r) ∧ Drawn0 w w' := by
  have H : (if a0 = 0 then (some (⟨#[48]⟩ : ByteArray)) else ((ints_size.f a0).bind fun t104 => (ints_Digits.l0 k a0 (⟨#[]⟩ : ByteArray) t104))) = some r := h
  clear h
  by_cases c2 : a0 = 0
  · rw [if_pos c2] at H
    have c2b0 : (a0 == 0) = true := beq_iff_eq.mpr c2
    have c2b1 : (a0 != 0) = false := bne_eq_false_iff_eq.mpr c2
    clear c2
    obtain rfl := Option.some.inj H
    go_enter Try.func15, Try.ntmps15
    go_wp2
    go_ret
    exact ⟨by first | rfl | (simp; done) | (simp [*]; done), by repeat (first | exact Drawn0.refl _ | apply Drawn0.step)⟩
  · rw [if_neg c2] at H
    have c2b0 : (a0 == 0) = false := beq_eq_false_iff_ne.mpr c2
    have c2b1 : (a0 != 0) = true := bne_iff_ne.mpr c2
    replace H := Option.bind_eq_some_iff.mp H
    obtain ⟨t104, A30, H⟩ := H
    replace H : (ints_Digits.l0 k a0 (⟨#[]⟩ : ByteArray) t104) = some r := H
    have A3 := Aside0.mk A30
    clear A30
    have H' := Aside0.mk H
    clear H
    go_enter Try.func15, Try.ntmps15
    go_wp2_with (first | ((with_reducible refine gate_callee (f := 32) rfl ?_); refine goesL_ (some 8) rfl rfl Try.func32 (by kernel_rfl) rfl #[.int .i64 a0] rfl (by (try simp only [List.map_toArray, List.map_cons, List.map_nil]); first | done | rfl | (simp only [List.length_drop, List.length_take]; rfl)) ?_; (with_reducible refine (ints_size.calls a0 t104 _ A3.out).mono ?_); rintro e w' ⟨rfl, ⟨nd, rfl⟩⟩; refine ⟨_, rfl, ?_⟩))
    go_loopg [3, 4] k (fun kq v3 v4 w' => ∃ (x3_1 : ByteArray) (x4_1 : Int), v3 = .string x3_1 ∧ v4 = .int .u64 x4_1 ∧ Aside0 (ints_Digits.l0 kq a0 x3_1 x4_1 = some r) ∧ Aside0 (kq ≤ k) ∧ Drawn0 w w')
    case atStart => exact ⟨((⟨#[]⟩ : ByteArray)), (t104), (by first | rfl | (simp; done) | (simp [*]; done)), (by first | rfl | (simp; done) | (simp [*]; done)), H', ⟨Nat.le_refl _⟩, by repeat (first | exact Drawn0.refl _ | apply Drawn0.step)⟩
    case round =>
      clear H'
      try clear c1
      try clear c2
      try clear c2b0
      try clear c2b1
      try clear p2
      try clear c3
      obtain ⟨x3_1, x4_1, rfl, rfl, HA, HK1, ⟨m1, rfl⟩⟩ := hrel
      cases gk with
      | zero => exact absurd HA.out (by simp [ints_Digits.l0])
      | succ k1 =>
        have H := HA.out
        clear HA
        simp only [ints_Digits.l0] at H
        by_cases c4 : x4_1 > 0
        · rw [if_pos c4] at H
          have c4b0 : decide (0 < x4_1) = true := decide_eq_true c4
          clear c4
          by_cases c5 : (Utf8.encode (wrap32 (IntKind.u64.wrap (48 + (Int.tmod x4_1 10))))).size + x3_1.size ≤ 9223372036854775807
          · rw [if_pos c5] at H
            have c5b0 := eq_true c5
            have c5b1 : decide ((Utf8.encode (wrap32 (IntKind.u64.wrap (48 + (Int.tmod x4_1 10))))).size + x3_1.size ≤ 9223372036854775807) = true := decide_eq_true c5
            try have c5b2 : (9223372036854775807 < (Utf8.encode (wrap32 (IntKind.u64.wrap (48 + (Int.tmod x4_1 10))))).size + x3_1.size) = False := eq_false (Nat.not_lt.2 c5)
            have H' := Aside0.mk H
            clear H
            go_wp2
            go_roundg k1
            case measure => have := HK1.out; omega
            case rel => exact ⟨((Utf8.encode (wrap32 (IntKind.u64.wrap (48 + (Int.tmod x4_1 10))))) ++ x3_1), (IntKind.u64.wrap (Int.tdiv x4_1 10)), (by first | rfl | (simp; done) | (simp [*]; done)), (by first | rfl | (simp; done) | (simp [*]; done)), H', ⟨by have := HK1.out; omega⟩, by repeat (first | exact Drawn0.refl _ | apply Drawn0.step)⟩
          · rw [if_neg c5] at H
            exact absurd H (by simp)
        · rw [if_neg c4] at H
          have c4b0 : decide (0 < x4_1) = false := decide_eq_false c4
          clear c4
          by_cases c6 : a0 < 0
          · rw [if_pos c6] at H
            have c6b0 : decide (a0 < 0) = true := decide_eq_true c6
            clear c6
            by_cases c7 : 1 + x3_1.size ≤ 9223372036854775807
            · rw [if_pos c7] at H
              have c7b0 := eq_true c7
              have c7b1 : decide (1 + x3_1.size ≤ 9223372036854775807) = true := decide_eq_true c7
              try have c7b2 : (9223372036854775807 < 1 + x3_1.size) = False := eq_false (Nat.not_lt.2 c7)
              obtain rfl := Option.some.inj H
              go_wp2
              go_ret
              exact ⟨by first | rfl | (simp; done) | (simp [*]; done), by repeat (first | exact Drawn0.refl _ | apply Drawn0.step)⟩
            · rw [if_neg c7] at H
              exact absurd H (by simp)
          · rw [if_neg c6] at H
            have c6b0 : decide (a0 < 0) = false := decide_eq_false c6
            clear c6
            obtain rfl := Option.some.inj H
            go_wp2
            go_ret
            exact ⟨by first | rfl | (simp; done) | (simp [*]; done), by repeat (first | exact Drawn0.refl _ | apply Drawn0.step)⟩

/-! ### ints_Mul: function 17 -/
def ints_Mul.l0 : Nat → Int → List Int → Int → Int → Option (Int × Int)
  | 0, _, _, _, _ => none
  | k + 1, x4, x9, x10, x11 => if x11 < x10 then (if 0 ≤ x11 then (if x11 < (x9.length : Int) then ((ints_mul.f x4 (rd x9 x11)).bind fun bt106 => (if bt106.2 = true then (ints_Mul.l0 k bt106.1 x9 x10 (wrap64 (x11 + 1))) else (some (0, 10)))) else (none)) else (none)) else (some (x4, 0))
def ints_Mul.f (k : Nat) (l0 : List Int) : Option (Int × Int) := ints_Mul.l0 k 1 l0 (l0.length : Int) 0
theorem ints_Mul.mono_l : ∀ k, (∀ y0 y1 y2 y3, LeO (ints_Mul.l0 k y0 y1 y2 y3) (ints_Mul.l0 (k + 1) y0 y1 y2 y3))
  | 0 => fun _ _ _ _ r h => by simp [ints_Mul.l0] at h
  | k + 1 => by
    have ih0 := ints_Mul.mono_l k
    · intro y0 y1 y2 y3
      unfold ints_Mul.l0
      repeat' first
      | (with_reducible exact ih0 _ _ _ _)
      | (with_reducible exact LeO.refl _)
      | (with_reducible exact LeO.none _)
      | (with_reducible refine LeO.ite ?_ ?_)
      | (with_reducible refine LeO.bind ?_ (fun _ => ?_))
      | exact ih0 _ _ _ _
      | exact LeO.none _
      | refine LeO.ite ?_ ?_
      | refine LeO.bind ?_ (fun _ => ?_)
theorem ints_Mul.mono : ∀ a0 k, LeO (ints_Mul.f k a0) (ints_Mul.f (k + 1) a0) := by
  intro a0 k
  have ih0 := ints_Mul.mono_l k
  unfold ints_Mul.f
  repeat' first
      | (with_reducible exact ih0 _ _ _ _)
      | (with_reducible exact LeO.refl _)
      | (with_reducible exact LeO.none _)
      | (with_reducible refine LeO.ite ?_ ?_)
      | (with_reducible refine LeO.bind ?_ (fun _ => ?_))
      | exact ih0 _ _ _ _
      | exact LeO.none _
      | refine LeO.ite ?_ ?_
      | refine LeO.bind ?_ (fun _ => ?_)
set_option maxHeartbeats 8000000 in
set_option maxRecDepth 100000 in
theorem ints_Mul.calls (k : Nat) (A0 : Option Addr) (c0 : Nat) (l0 : List Int) (r1 : Int) (r2 : Int) (w : World) (hr0 : Kd.C (Kd.int .i64) w A0 l0.length l0) (hc0 : l0.length ≤ c0) (h : ints_Mul.f k l0 = some (r1, r2)) :
    Calls Try.prog 17 #[.slice A0 l0.length c0] w fun e w' => e = .returned (.tuple #[.int .i64 r1, .int .i64 r2]) ∧ Drawn0 w w' := by
  have HR0 := Aside0.mk hr0
  have HC0 := Aside0.mk hc0
  clear hr0 hc0
  have H : (ints_Mul.l0 k 1 l0 (l0.length : Int) 0) = some (r1, r2) := h
  clear h
  have H' := Aside0.mk H
  clear H
  go_enter Try.func17, Try.ntmps17
  go_wp2
  go_loopg [4, 11] k (fun kq v4 v11 w' => ∃ (x4_1 : Int) (x11_1 : Int), v4 = .int .i64 x4_1 ∧ v11 = .int .i64 x11_1 ∧ Aside0 (ints_Mul.l0 kq x4_1 l0 (l0.length : Int) x11_1 = some (r1, r2)) ∧ Aside0 (kq ≤ k) ∧ Drawn0 w w')
  case atStart => exact ⟨(1), (0), (by first | rfl | (simp; done) | (simp [*]; done)), (by first | rfl | (simp; done) | (simp [*]; done)), H', ⟨Nat.le_refl _⟩, by repeat (first | exact Drawn0.refl _ | apply Drawn0.step)⟩
  case round =>
    clear H'
    try clear c1
    obtain ⟨x4_1, x11_1, rfl, rfl, HA, HK1, ⟨m1, rfl⟩⟩ := hrel
    cases gk with
    | zero => exact absurd HA.out (by simp [ints_Mul.l0])
    | succ k1 =>
      have H := HA.out
      clear HA
      simp only [ints_Mul.l0] at H
      by_cases c2 : x11_1 < (l0.length : Int)
      · rw [if_pos c2] at H
        have c2b0 : decide (x11_1 < (l0.length : Int)) = true := decide_eq_true c2
        clear c2
        by_cases c3 : 0 ≤ x11_1
        · rw [if_pos c3] at H
          have c3b0 : decide (0 ≤ x11_1) = true := decide_eq_true c3
          clear c3
          by_cases c4 : x11_1 < (l0.length : Int)
          · rw [if_pos c4] at H
            have c4b0 : decide (x11_1 < (l0.length : Int)) = true := decide_eq_true c4
            clear c4
            replace H := Option.bind_eq_some_iff.mp H
            obtain ⟨⟨t106, t107⟩, A50, H⟩ := H
            replace H : (if t107 = true then (ints_Mul.l0 k1 t106 l0 (l0.length : Int) (wrap64 (x11_1 + 1))) else (some (0, 10))) = some (r1, r2) := H
            have A5 := Aside0.mk A50
            clear A50
            by_cases c6 : t107 = true
            · subst c6
              have H1 : (ints_Mul.l0 k1 t106 l0 (l0.length : Int) (wrap64 (x11_1 + 1))) = some (r1, r2) := by rw [if_pos rfl] at H; exact H
              clear H
              have H := H1
              clear H1
              have H' := Aside0.mk H
              clear H
              have p105 : 0 ≤ (x11_1 : Int) := of_decide_eq_true (by first | (with_reducible assumption) | assumption)
              have q105 : x11_1 < (l0.length : Int) := of_decide_eq_true (by first | (with_reducible assumption) | assumption)
              obtain ⟨ad105, e105, hx105_0⟩ := Kd.at_int HR0.out x11_1 p105 q105
              cases e105
              replace p105 := eq_true p105
              replace q105 := eq_true q105
              go_wp2_with (first | ((with_reducible refine gate_callee (f := 29) rfl ?_); refine goesL_ (some 18) rfl rfl Try.func29 (by kernel_rfl) rfl #[.int .i64 x4_1, .int .i64 (rd l0 x11_1)] rfl (by (try simp only [List.map_toArray, List.map_cons, List.map_nil]); first | done | rfl | (simp only [List.length_drop, List.length_take]; rfl)) ?_; (with_reducible refine (ints_mul.calls x4_1 (rd l0 x11_1) t106 true _ A5.out).mono ?_); rintro e w' ⟨rfl, ⟨nd, rfl⟩⟩; refine ⟨_, rfl, ?_⟩))
              go_roundg k1
              case measure => have := HK1.out; omega
              case rel => exact ⟨(t106), (wrap64 (x11_1 + 1)), (by first | rfl | (simp; done) | (simp [*]; done)), (by first | rfl | (simp; done) | (simp [*]; done)), H', ⟨by have := HK1.out; omega⟩, by repeat (first | exact Drawn0.refl _ | apply Drawn0.step)⟩
            · replace c6 := Bool.eq_false_iff.mpr c6
              subst c6
              have H1 : (some (0, 10)) = some (r1, r2) := by rw [if_neg (show ¬ (false = true) by decide)] at H; exact H
              clear H
              have H := H1
              clear H1
              simp only [Option.some.injEq, Prod.mk.injEq] at H
              obtain ⟨rfl, rfl⟩ := H
              have p105 : 0 ≤ (x11_1 : Int) := of_decide_eq_true (by first | (with_reducible assumption) | assumption)
              have q105 : x11_1 < (l0.length : Int) := of_decide_eq_true (by first | (with_reducible assumption) | assumption)
              obtain ⟨ad105, e105, hx105_0⟩ := Kd.at_int HR0.out x11_1 p105 q105
              cases e105
              replace p105 := eq_true p105
              replace q105 := eq_true q105
              go_wp2_with (first | ((with_reducible refine gate_callee (f := 29) rfl ?_); refine goesL_ (some 18) rfl rfl Try.func29 (by kernel_rfl) rfl #[.int .i64 x4_1, .int .i64 (rd l0 x11_1)] rfl (by (try simp only [List.map_toArray, List.map_cons, List.map_nil]); first | done | rfl | (simp only [List.length_drop, List.length_take]; rfl)) ?_; (with_reducible refine (ints_mul.calls x4_1 (rd l0 x11_1) t106 false _ A5.out).mono ?_); rintro e w' ⟨rfl, ⟨nd, rfl⟩⟩; refine ⟨_, rfl, ?_⟩))
              go_ret2
              exact ⟨by first | rfl | (simp; done) | (simp [*]; done), by repeat (first | exact Drawn0.refl _ | apply Drawn0.step)⟩
          · rw [if_neg c4] at H
            exact absurd H (by simp)
        · rw [if_neg c3] at H
          exact absurd H (by simp)
      · rw [if_neg c2] at H
        have c2b0 : decide (x11_1 < (l0.length : Int)) = false := decide_eq_false c2
        clear c2
        simp only [Option.some.injEq, Prod.mk.injEq] at H
        obtain ⟨rfl, rfl⟩ := H
        go_wp2
        go_ret2
        exact ⟨by first | rfl | (simp; done) | (simp [*]; done), by repeat (first | exact Drawn0.refl _ | apply Drawn0.step)⟩

end Go.Proofs.Ytkeecomghgmamaa.PIntsMuls
