/- Plain facts on decimal digits, the lowest first: their value, noughts behind, and how many there are. -/
import Derived.Test.YtildiabokdfjgaaWWords
namespace Go.Proofs.Ytildiabokdfjgaa.Dec
open Go.RowKit Go.Proofs.YtildiabokdfjgaaW.PrintWords
set_option linter.unusedVariables false

/-- Small numbers do not wrap: apart, since omega over the great numerals is dear in a rich context. -/
theorem wrap_few {x : Int} (h0 : -1000000 ≤ x) (h1 : x ≤ 1000000) : wrap64 x = x := by unfold wrap64; omega
theorem wrap_nat {x : Int} {n : Nat} (h : x = (n : Int)) (h1 : n ≤ 1000000) : wrap64 x = (n : Int) := by rw [h]; exact wrap_few (by omega) (by omega)
theorem room_small {n : Nat} (h : n ≤ 1000000) : n < 17592186044416 := by omega
theorem tmod_ten {x : Int} (h : 0 ≤ x) : Int.tmod x 10 = x % 10 := Int.tmod_eq_emod_of_nonneg h
theorem tdiv_ten {x : Int} (h0 : 0 ≤ x) (h1 : x ≤ 1000000) : wrap64 (Int.tdiv x 10) = x / 10 := by rw [Int.tdiv_eq_ediv_of_nonneg h0]; exact wrap_few (by omega) (by omega)

def val : List Int → Int
  | [] => 0
  | d :: r => d + 10 * val r
def Dig (l : List Int) : Prop := ∀ d ∈ l, 0 ≤ d ∧ d ≤ 9
def num (m : Bool) (l : List Int) : Int := if m = true then -val l else val l
/-- No nought behind. -/
def Canon (l : List Int) : Prop := l = [] ∨ ¬ rd l ((l.length : Int) - 1) = 0
def IsNum (v : Int) (p : Bool × List Int) : Prop := Dig p.2 ∧ Canon p.2 ∧ (p.1 = true → ¬ p.2 = []) ∧ num p.1 p.2 = v

theorem Dig.nil : Dig [] := fun _ h => by cases h
theorem Dig.append {a b : List Int} (ha : Dig a) (hb : Dig b) : Dig (a ++ b) := fun d h => (List.mem_append.mp h).elim (ha d) (hb d)
theorem Dig.one {d : Int} (h0 : 0 ≤ d) (h9 : d ≤ 9) : Dig [d] := fun x h => by rw [List.mem_singleton.mp h]; exact ⟨h0, h9⟩
theorem Dig.take {a : List Int} (ha : Dig a) (n : Nat) : Dig (a.take n) := fun d h => ha d (List.mem_of_mem_take h)
theorem Dig.drop {a : List Int} (ha : Dig a) (n : Nat) : Dig (a.drop n) := fun d h => ha d (List.mem_of_mem_drop h)
theorem rd_at (l : List Int) (i : Nat) (h : i < l.length) : rd l (i : Int) = l[i] := by unfold rd; simp [h]
theorem rd_over (l : List Int) (i : Nat) (h : l.length ≤ i) : rd l (i : Int) = 0 := by unfold rd; simp [h]
theorem Dig.rd {l : List Int} (h : Dig l) (i : Nat) : 0 ≤ rd l (i : Int) ∧ rd l (i : Int) ≤ 9 := by
  by_cases hi : i < l.length
  · rw [rd_at l i hi]; exact h _ (List.getElem_mem hi)
  · rw [rd_over l i (by omega)]; omega

theorem pow_pos (n : Nat) : 0 < (10 : Int) ^ n := by
  induction n with
  | zero => decide
  | succ n ih => rw [Int.pow_succ]; omega
theorem pow_mono {n k : Nat} (h : n ≤ k) : (10 : Int) ^ n ≤ 10 ^ k := by
  obtain ⟨d, rfl⟩ : ∃ d, k = n + d := ⟨k - n, by omega⟩
  induction d with
  | zero => exact Int.le_refl _
  | succ d ih =>
    have := ih (by omega)
    have h0 := pow_pos (n + d)
    rw [show n + (d + 1) = (n + d) + 1 by omega, Int.pow_succ]
    omega
theorem val_nonneg {l : List Int} (h : Dig l) : 0 ≤ val l := by
  induction l with
  | nil => simp [val]
  | cons d r ih =>
    have := h d List.mem_cons_self
    have := ih (fun x hx => h x (List.mem_cons_of_mem _ hx))
    simp only [val]; omega
theorem val_append (a b : List Int) : val (a ++ b) = val a + 10 ^ a.length * val b := by
  induction a with
  | nil => simp [val]
  | cons d r ih =>
    simp only [List.cons_append, val, ih, List.length_cons, Int.pow_succ]
    rw [Int.mul_add, Int.add_assoc, Int.mul_comm (10 ^ r.length) 10, Int.mul_assoc]
theorem val_one (d : Int) : val [d] = d := by simp [val]
theorem val_lt {l : List Int} (h : Dig l) : val l < 10 ^ l.length := by
  induction l with
  | nil => simp [val]
  | cons d r ih =>
    have := h d List.mem_cons_self
    have := ih (fun x hx => h x (List.mem_cons_of_mem _ hx))
    simp only [val, List.length_cons, Int.pow_succ]; omega
theorem val_take_succ (l : List Int) (i : Nat) (h : i < l.length) : val (l.take (i + 1)) = val (l.take i) + 10 ^ i * rd l (i : Int) := by
  rw [List.take_succ_eq_append_getElem h, val_append, val_one, rd_at l i h, List.length_take, Nat.min_eq_left (by omega)]
theorem val_take_over (l : List Int) (i : Nat) (h : l.length ≤ i) : val (l.take (i + 1)) = val (l.take i) + 10 ^ i * rd l (i : Int) := by
  rw [rd_over l i h, List.take_of_length_le (by omega), List.take_of_length_le h]; omega
theorem val_next (l : List Int) (i : Nat) : val (l.take (i + 1)) = val (l.take i) + 10 ^ i * rd l (i : Int) := by
  by_cases h : i < l.length
  · exact val_take_succ l i h
  · exact val_take_over l i (by omega)
theorem val_drop (l : List Int) (i : Nat) (h : i < l.length) : val (l.drop i) = rd l (i : Int) + 10 * val (l.drop (i + 1)) := by
  rw [List.drop_eq_getElem_cons h, rd_at l i h]; rfl
theorem val_parts (l : List Int) (i : Nat) (h : i ≤ l.length) : val l = val (l.take i) + 10 ^ i * val (l.drop i) := by
  conv => lhs; rw [← List.take_append_drop i l]
  rw [val_append, List.length_take, Nat.min_eq_left h]

/-- How many there are, without noughts behind. -/
def tl (l : List Int) : Nat → Nat
  | 0 => 0
  | n + 1 => if rd l (n : Int) = 0 then tl l n else n + 1
theorem tl_le (l : List Int) : ∀ n, tl l n ≤ n
  | 0 => Nat.le_refl _
  | n + 1 => by
    simp only [tl]; split
    · exact Nat.le_succ_of_le (tl_le l n)
    · exact Nat.le_refl _
theorem tl_val (l : List Int) : ∀ n, val (l.take (tl l n)) = val (l.take n)
  | 0 => rfl
  | n + 1 => by
    simp only [tl]; split
    · rename_i h; rw [tl_val l n, val_next l n, h]; omega
    · rfl
theorem tl_last (l : List Int) : ∀ n, 0 < tl l n → ¬ rd l (((tl l n : Nat) : Int) - 1) = 0
  | 0 => fun h => absurd h (by simp [tl])
  | n + 1 => by
    simp only [tl]; split
    · exact tl_last l n
    · rename_i h; intro _; rw [show ((n + 1 : Nat) : Int) - 1 = (n : Int) by omega]; exact h
theorem rd_take (l : List Int) (n i : Nat) (h : i < n) : rd (l.take n) (i : Int) = rd l (i : Int) := by
  unfold rd; simp [h]
theorem tl_canon (l : List Int) (n : Nat) (hn : n ≤ l.length) : Canon (l.take (tl l n)) := by
  have hle := tl_le l n
  by_cases h : 0 < tl l n
  · right
    rw [List.length_take, Nat.min_eq_left (by omega), show (((tl l n : Nat) : Int) - 1) = ((tl l n - 1 : Nat) : Int) by omega, rd_take l _ _ (by omega), show ((tl l n - 1 : Nat) : Int) = ((tl l n : Nat) : Int) - 1 by omega]
    exact tl_last l n h
  · left; rw [show tl l n = 0 by omega]; rfl
theorem tl_num (m : Bool) (l : List Int) (h : Dig l) : IsNum (num m l) (m && decide (0 < tl l l.length), l.take (tl l l.length)) := by
  have hle := tl_le l l.length
  have hv := tl_val l l.length
  rw [List.take_length] at hv
  refine ⟨h.take _, tl_canon l _ (Nat.le_refl _), ?_, ?_⟩
  · intro hm hnil
    have h1 : 0 < tl l l.length := by simp at hm; exact hm.2
    have h2 := congrArg List.length hnil
    rw [List.length_take, List.length_nil, Nat.min_eq_left hle] at h2
    omega
  · unfold num
    show (if (m && decide (0 < tl l l.length)) = true then -val (l.take (tl l l.length)) else val (l.take (tl l l.length))) = _
    rw [hv]
    cases m with
    | false => simp
    | true =>
      by_cases h1 : 0 < tl l l.length
      · simp [h1]
      · have h0 : tl l l.length = 0 := by omega
        rw [h0] at hv
        simp [val] at hv
        simp [h1, ← hv]
theorem canon_len {l : List Int} (hd : Dig l) (hc : Canon l) {n : Nat} (hv : val l < 10 ^ n) : l.length ≤ n := by
  rcases hc with rfl | hc
  · simp
  · by_cases h0 : l.length = 0
    · omega
    · obtain ⟨k, hk⟩ : ∃ k, l.length = k + 1 := ⟨l.length - 1, by omega⟩
      rw [hk, show ((k + 1 : Nat) : Int) - 1 = (k : Int) by omega] at hc
      have h1 := val_next l k
      rw [← hk, List.take_length] at h1
      have h2 := val_nonneg (hd.take k)
      have h3 := hd.rd k
      have h4 : (10 : Int) ^ k ≤ val l := by
        rw [h1]
        have : (10 : Int) ^ k * 1 ≤ 10 ^ k * rd l (k : Int) := Int.mul_le_mul_of_nonneg_left (by omega) (Int.le_of_lt (pow_pos k))
        omega
      have h5 : (10 : Int) ^ k < 10 ^ n := by omega
      have h6 : k < n := by
        rcases Nat.lt_or_ge k n with h | h
        · exact h
        · have := pow_mono h
          omega
      omega
theorem IsNum.nought : IsNum 0 (false, []) := ⟨Dig.nil, .inl rfl, (fun h => nomatch h), rfl⟩
theorem IsNum.abs {v : Int} {p : Bool × List Int} (h : IsNum v p) : val p.2 = (v.natAbs : Int) := by
  have h1 := val_nonneg h.1
  have h2 := h.2.2.2
  unfold num at h2
  split at h2 <;> omega
theorem IsNum.sign {v : Int} {p : Bool × List Int} (h : IsNum v p) : p.1 = decide (v < 0) := by
  have h1 := val_nonneg h.1
  have h2 := h.2.2.2
  unfold num at h2
  by_cases hm : p.1 = true
  · rw [if_pos hm] at h2
    rw [hm]
    have hne := h.2.2.1 hm
    have hpos : 0 < val p.2 := by
      rcases Int.lt_or_le 0 (val p.2) with h3 | h3
      · exact h3
      · have := canon_len h.1 h.2.1 (n := 0) (by rw [Int.pow_zero]; omega)
        exact absurd (List.eq_nil_of_length_eq_zero (by omega)) hne
    exact (decide_eq_true (by omega)).symm
  · rw [if_neg hm] at h2
    rw [Bool.eq_false_iff.mpr hm]
    exact (decide_eq_false (by omega)).symm
theorem IsNum.len {v : Int} {p : Bool × List Int} (h : IsNum v p) {n : Nat} (hv : (v.natAbs : Int) < 10 ^ n) : p.2.length ≤ n := canon_len h.1 h.2.1 (by rw [h.abs]; exact hv)
end Go.Proofs.Ytildiabokdfjgaa.Dec
