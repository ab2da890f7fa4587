import Derived.Test.YtkeecomghgmamaaPIntsMulsx4
namespace Go.Proofs.Ytkeecomghgmamaa.Pure
open Go.RowKit Go.Proofs.Ytkeecomghgmamaa.PIntsMuls Go.Proofs.YtkeecomghgmamaaW.PrintWords Go.Proofs.YtkeecomghgmamaaW.PrintLast
set_option linter.unusedVariables false
set_option linter.unusedSimpArgs false

theorem wf_i64 {a : Int} (h : (Lit.int .i64 a).wf = true) : I64 a := by
  have h2 : IntKind.i64.min ≤ a ∧ a ≤ IntKind.i64.max := by simpa [Lit.wf] using h
  have h3 : IntKind.i64.min = -9223372036854775808 := by decide +kernel
  have h4 : IntKind.i64.max = 9223372036854775807 := by decide +kernel
  unfold I64
  omega

theorem add_spec {a b : Int} (ha : I64 a) (hb : I64 b) : ints_add.f a b = some (wrap64 (a + b), decide (I64 (a + b))) := by
  unfold ints_add.f
  refine congrArg some (Prod.ext rfl ?_)
  show (decide (wrap64 (a + b) > a) == decide (b > 0)) = decide (I64 (a + b))
  unfold I64 at ha hb
  by_cases h0 : b > 0
  · by_cases h1 : a + b ≤ 9223372036854775807
    · have : wrap64 (a + b) = a + b := by unfold wrap64; omega
      rw [this, decide_eq_true (by omega : a + b > a), decide_eq_true h0, decide_eq_true (by unfold I64; omega : I64 (a + b))]; rfl
    · have : ¬ wrap64 (a + b) > a := by unfold wrap64; omega
      rw [decide_eq_false this, decide_eq_true h0, decide_eq_false (by unfold I64; omega : ¬ I64 (a + b))]; rfl
  · by_cases h1 : -9223372036854775808 ≤ a + b
    · have : wrap64 (a + b) = a + b := by unfold wrap64; omega
      rw [this, decide_eq_false (by omega : ¬ a + b > a), decide_eq_false h0, decide_eq_true (by unfold I64; omega : I64 (a + b))]; rfl
    · have : wrap64 (a + b) > a := by unfold wrap64; omega
      rw [decide_eq_true this, decide_eq_false h0, decide_eq_false (by unfold I64; omega : ¬ I64 (a + b))]; rfl
theorem wrap_in {a : Int} (h : I64 a) : wrap64 a = a := by unfold I64 at h; unfold wrap64; omega

/-- The sum, one added to the other. -/
def addAll : Int → List Int → Int × Int
  | acc, [] => (acc, 0)
  | acc, x :: l => if I64 (acc + x) then addAll (acc + x) l else (0, 10)
def mulAll : Int → List Int → Int × Int
  | acc, [] => (acc, 0)
  | acc, x :: l => if I64 (acc * x) then mulAll (acc * x) l else (0, 10)
theorem rd_nat (l : List Int) (i : Nat) (h : i < l.length) : rd l (i : Int) = l[i] := by
  unfold rd; simp [h]
theorem wrap_next {i n : Nat} (h : i < n) (hn : n ≤ 140737488351232) : wrap64 ((i : Int) + 1) = ((i + 1 : Nat) : Int) := by unfold wrap64; omega

theorem Add_l0 (l : List Int) (hw : ∀ x ∈ l, I64 x) (hl : l.length ≤ 140737488351232) (d : Nat) : ∀ (k i : Nat) (acc : Int), I64 acc → l.length - i = d → i ≤ l.length → d < k →
    ints_Add.l0 k acc l (l.length : Int) (i : Int) = some (addAll acc (l.drop i)) := by
  induction d with
  | zero =>
    intro k i acc ha hd hi hk
    obtain ⟨k, rfl⟩ : ∃ m, k = m + 1 := ⟨k - 1, by omega⟩
    simp only [ints_Add.l0]
    rw [if_neg (by omega), List.drop_eq_nil_of_le (by omega)]
    rfl
  | succ d ih =>
    intro k i acc ha hd hi hk
    obtain ⟨k, rfl⟩ : ∃ m, k = m + 1 := ⟨k - 1, by omega⟩
    have hlt : i < l.length := by omega
    simp only [ints_Add.l0]
    rw [if_pos (by omega), if_pos (by omega), if_pos (by omega), rd_nat l i hlt, add_spec ha (hw _ (List.getElem_mem hlt))]
    simp only [Option.bind_some]
    rw [List.drop_eq_getElem_cons hlt]
    unfold addAll
    by_cases hc : I64 (acc + l[i])
    · rw [if_pos (decide_eq_true hc), if_pos hc, wrap_in hc, wrap_next hlt hl]
      exact ih k (i + 1) _ hc (by omega) (by omega) (by omega)
    · rw [if_neg (by simpa using hc), if_neg hc]
theorem Add_spec (l : List Int) (hw : ∀ x ∈ l, I64 x) (hl : l.length ≤ 140737488351232) (k : Nat) (hk : l.length < k) : ints_Add.f k l = some (addAll 0 l) := by
  have := Add_l0 l hw hl l.length k 0 0 (by unfold I64; omega) (by omega) (by omega) hk
  simpa [ints_Add.f] using this

theorem mul_spec {a b : Int} (ha : I64 a) (hb : I64 b) : ints_mul.f a b = some (if I64 (a * b) then (a * b, true) else (0, false)) := by
  unfold ints_mul.f; rw [if_pos ⟨ha, hb⟩]
theorem Mul_l0 (l : List Int) (hw : ∀ x ∈ l, I64 x) (hl : l.length ≤ 140737488351232) (d : Nat) : ∀ (k i : Nat) (acc : Int), I64 acc → l.length - i = d → i ≤ l.length → d < k →
    ints_Mul.l0 k acc l (l.length : Int) (i : Int) = some (mulAll acc (l.drop i)) := by
  induction d with
  | zero =>
    intro k i acc ha hd hi hk
    obtain ⟨k, rfl⟩ : ∃ m, k = m + 1 := ⟨k - 1, by omega⟩
    simp only [ints_Mul.l0]
    rw [if_neg (by omega), List.drop_eq_nil_of_le (by omega)]
    rfl
  | succ d ih =>
    intro k i acc ha hd hi hk
    obtain ⟨k, rfl⟩ : ∃ m, k = m + 1 := ⟨k - 1, by omega⟩
    have hlt : i < l.length := by omega
    simp only [ints_Mul.l0]
    rw [if_pos (by omega), if_pos (by omega), if_pos (by omega), rd_nat l i hlt, mul_spec ha (hw _ (List.getElem_mem hlt))]
    simp only [Option.bind_some]
    rw [List.drop_eq_getElem_cons hlt]
    unfold mulAll
    by_cases hc : I64 (acc * l[i])
    · rw [if_pos hc, if_pos hc]
      simp only [if_true]
      rw [wrap_next hlt hl]
      exact ih k (i + 1) _ hc (by omega) (by omega) (by omega)
    · rw [if_neg hc, if_neg hc]
      simp
theorem Mul_spec (l : List Int) (hw : ∀ x ∈ l, I64 x) (hl : l.length ≤ 140737488351232) (k : Nat) (hk : l.length < k) : ints_Mul.f k l = some (mulAll 1 l) := by
  have := Mul_l0 l hw hl l.length k 0 1 (by unfold I64; omega) (by omega) (by omega) hk
  simpa [ints_Mul.f] using this

theorem add2 {a b : Int} (ha : I64 a) : addAll 0 [a, b] = if I64 (a + b) then (a + b, 0) else (0, 10) := by
  simp [addAll, ha]
theorem mul2 {a b : Int} (ha : I64 a) : mulAll 1 [a, b] = if I64 (a * b) then (a * b, 0) else (0, 10) := by
  simp [mulAll, ha]
theorem Add2 {a b : Int} (ha : I64 a) (hb : I64 b) (k : Nat) (hk : 2 < k) : ints_Add.f k [a, b] = some (if I64 (a + b) then (a + b, 0) else (0, 10)) := by
  rw [Add_spec [a, b] (by simp; exact ⟨ha, hb⟩) (by simp) k (by simpa using hk), add2 ha]
theorem Mul2 {a b : Int} (ha : I64 a) (hb : I64 b) (k : Nat) (hk : 2 < k) : ints_Mul.f k [a, b] = some (if I64 (a * b) then (a * b, 0) else (0, 10)) := by
  rw [Mul_spec [a, b] (by simp; exact ⟨ha, hb⟩) (by simp) k (by simpa using hk), mul2 ha]
theorem i64_nought : I64 0 := by unfold I64; omega
theorem known_at : wayfarerlaw01_known.f 11 = some true := by decide +kernel
theorem known_ev (k : Nat) (hk : 11 ≤ k) : wayfarerlaw01_known.f k = some true := at_rounds wayfarerlaw01_known.mono hk known_at
end Go.Proofs.Ytkeecomghgmamaa.Pure
