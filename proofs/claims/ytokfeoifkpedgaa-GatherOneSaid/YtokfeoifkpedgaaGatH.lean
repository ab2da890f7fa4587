/- A product of two numbers of 64 bits, by halves. -/
import Derived.Test.YtokfeoifkpedgaaGatF
namespace Go.Proofs.Ytokfeoifkpedgaa.W
open Go.Proofs.Ytokfeoifkpedgaa.Flat
set_option linter.unusedVariables false
set_option linter.unusedSimpArgs false
theorem mul_halves (x y : Int) (hx0 : 0 ≤ x) (hx : x < 18446744073709551616) (hy0 : 0 ≤ y) (hy : y < 18446744073709551616) :
    let x0 := x % 4294967296; let x1 := x / 4294967296; let y0 := y % 4294967296; let y1 := y / 4294967296
    let t := x1 * y0 + (x0 * y0) / 4294967296
    let w := t % 4294967296 + x0 * y1
    0 ≤ x0 * y0 ∧ x0 * y0 < 18446744073709551616 ∧ 0 ≤ x1 * y0 ∧ 0 ≤ t ∧ t < 18446744073709551616 ∧ 0 ≤ x0 * y1 ∧ 0 ≤ w ∧ w < 18446744073709551616 ∧ 0 ≤ x1 * y1 ∧
    x1 * y1 + t / 4294967296 + w / 4294967296 = (x * y) / 18446744073709551616 ∧ x1 * y1 + t / 4294967296 + w / 4294967296 < 18446744073709551616 := by
  intro x0 x1 y0 y1 t w
  have bx0 : 0 ≤ x0 ∧ x0 ≤ 4294967295 := by simp only [x0]; omega
  have bx1 : 0 ≤ x1 ∧ x1 ≤ 4294967295 := by simp only [x1]; omega
  have by0 : 0 ≤ y0 ∧ y0 ≤ 4294967295 := by simp only [y0]; omega
  have by1 : 0 ≤ y1 ∧ y1 ≤ 4294967295 := by simp only [y1]; omega
  have ex : x = x1 * 4294967296 + x0 := by simp only [x0, x1]; omega
  have ey : y = y1 * 4294967296 + y0 := by simp only [y0, y1]; omega
  have m : ∀ a b : Int, 0 ≤ a → a ≤ 4294967295 → 0 ≤ b → b ≤ 4294967295 → 0 ≤ a * b ∧ a * b ≤ 18446744065119617025 := fun a b h1 h2 h3 h4 => ⟨Int.mul_nonneg h1 h3, by
    have := Int.mul_le_mul h2 h4 h3 (show (0 : Int) ≤ 4294967295 by decide)
    omega⟩
  have p00 := m x0 y0 bx0.1 bx0.2 by0.1 by0.2
  have p10 := m x1 y0 bx1.1 bx1.2 by0.1 by0.2
  have p01 := m x0 y1 bx0.1 bx0.2 by1.1 by1.2
  have p11 := m x1 y1 bx1.1 bx1.2 by1.1 by1.2
  have e : x * y = (x1 * y1) * 18446744073709551616 + (x1 * y0) * 4294967296 + (x0 * y1) * 4294967296 + x0 * y0 := by
    rw [ex, ey]
    grind
  simp only [w, t]
  rw [e]
  generalize x0 * y0 = A at *
  generalize x1 * y0 = B at *
  generalize x0 * y1 = C at *
  generalize x1 * y1 = D at *
  clear ex ey e m w t
  omega
theorem mask {a : Int} (h0 : 0 ≤ a) (h1 : a < 18446744073709551616) : IntKind.wrap .u64 ((BitVec.ofInt 64 a &&& BitVec.ofInt 64 4294967295).toNat : Int) = a % 4294967296 := by
  have e : (BitVec.ofInt 64 a &&& BitVec.ofInt 64 4294967295).toNat = a.toNat % 4294967296 := by
    rw [BitVec.toNat_and, BitVec.toNat_ofInt, BitVec.toNat_ofInt]
    have e1 : (a % ((2 ^ 64 : Nat) : Int)).toNat = a.toNat := by
      have : ((2 ^ 64 : Nat) : Int) = 18446744073709551616 := by decide
      rw [this]
      omega
    have e2 : ((4294967295 : Int) % ((2 ^ 64 : Nat) : Int)).toNat = 2 ^ 32 - 1 := by decide
    rw [e1, e2, Nat.and_two_pow_sub_one_eq_mod]
  rw [e, IntKind.wrap_u64]
  omega
theorem shr32 {a : Int} (h0 : 0 ≤ a) : shrI .u64 a 32 = some (a / 4294967296) := by
  unfold shrI
  rw [if_neg (by omega)]
  have : (2 : Int) ^ min (32 : Int).toNat IntKind.u64.bits = 4294967296 := by decide
  rw [this, Int.fdiv_eq_ediv_of_nonneg _ (by decide)]
theorem wu {a : Int} (h0 : 0 ≤ a) (h1 : a < 18446744073709551616) : IntKind.wrap .u64 a = a := by
  rw [IntKind.wrap_u64]
  omega
theorem mul64_evs : Ev fun n => ∀ (x y : Int), 0 ≤ x → x < 18446744073709551616 → 0 ≤ y → y < 18446744073709551616 → (tab n).math_bits_Mul64 x y = some ((x * y) / 18446744073709551616, (x * y) % 18446744073709551616) :=
  Ev.step (Ev.pure fun n x y hx0 hx hy0 hy => by
    obtain ⟨a1, a2, a3, a4, a5, a6, a7, a8, a9, a10, a11⟩ := mul_halves x y hx0 hx hy0 hy
    rw [tab_math_bits_Mul64, math_bits_Mul64, shr32 hx0, shr32 hy0]
    dsimp only
    rw [mask hx0 hx, mask hy0 hy, wu (a := x % 4294967296 * (y % 4294967296)) a1 a2, shr32 a1]
    dsimp only
    have b1 : x / 4294967296 * (y % 4294967296) < 18446744073709551616 := by omega
    rw [wu (a := x / 4294967296 * (y % 4294967296)) a3 b1, wu a4 a5, shr32 a4]
    dsimp only
    have b2 : x % 4294967296 * (y / 4294967296) < 18446744073709551616 := by omega
    rw [mask a4 a5, wu (a := x % 4294967296 * (y / 4294967296)) a6 b2, wu a7 a8, shr32 a7]
    dsimp only
    have b3 : x / 4294967296 * (y / 4294967296) < 18446744073709551616 := by omega
    rw [wu a9 b3, wu (a := x / 4294967296 * (y / 4294967296) + _) (by omega) (by omega), wu (by omega) a11, a10, IntKind.wrap_u64])
/-- A number of two halves. -/
def wv (h l : Int) : Int := h * 18446744073709551616 + l
theorem add64_evs : Ev fun n => ∀ (x y c : Int), 0 ≤ x → 0 ≤ y → 0 ≤ c → c ≤ 1 → (tab n).math_bits_Add64 x y c = some ((x + y + c) % 18446744073709551616, (x + y + c) / 18446744073709551616) :=
  Ev.step (Ev.pure fun n x y c h1 h2 h3 h4 => by
    show (if decide (0 ≤ x ∧ 0 ≤ y ∧ 0 ≤ c ∧ c ≤ 1) = true then some ((x + y + c) % 18446744073709551616, (x + y + c) / 18446744073709551616) else none) = _
    rw [if_pos (by simp only [decide_eq_true_eq]; omega)])
end Go.Proofs.Ytokfeoifkpedgaa.W
