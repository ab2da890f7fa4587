/- Signed numbers: digits without noughts behind, with a sign. -/
import Derived.Test.YtokfeoifkpedgaaGatB
namespace Go.Proofs.Ytokfeoifkpedgaa.W
open Go.Proofs.Ytokfeoifkpedgaa.Flat
set_option linter.unusedVariables false
set_option linter.unusedSimpArgs false
def num (m : Bool) (l : List Int) : Int := if m = true then -val l else val l
/-- No nought behind. -/
def Canon (l : List Int) : Prop := l = [] ∨ ¬ dg l (l.length - 1) = 0
def IsNum (v : Int) : GNum → Prop
  | .mk m l => Dig l ∧ Canon l ∧ num m l = v
theorem pow_pos (n : Nat) : 0 < (10 : Int) ^ n := by
  induction n with
  | zero => decide
  | succ n ih => rw [Int.pow_succ]; omega
theorem val_lt : ∀ {l : List Int}, Dig l → val l < 10 ^ l.length
  | [], _ => by simp [val]
  | d :: r, h => by
    have := h d List.mem_cons_self
    have := val_lt (l := r) (fun x hx => h x (List.mem_cons_of_mem _ hx))
    simp only [val, List.length_cons, Int.pow_succ]; omega
theorem val_parts (l : List Int) (i : Nat) (h : i ≤ l.length) : val l = val (l.take i) + 10 ^ i * val (l.drop i) := by
  conv => lhs; rw [← List.take_append_drop i l]
  rw [val_append, List.length_take, Nat.min_eq_left h]
theorem dg_take (l : List Int) (n i : Nat) (h : i < n) : dg (l.take n) i = dg l i := by
  unfold dg
  rw [List.getElem?_take, if_pos h]
theorem tl_last (l : List Int) : ∀ n, 0 < tl l n → ¬ dg l (tl l n - 1) = 0
  | 0 => fun h => absurd h (by simp [tl])
  | n + 1 => by
    rw [tl]
    split
    · exact tl_last l n
    · rename_i h; intro _; exact h
theorem trm_canon (l : List Int) : Canon (trm l) := by
  have hle := tl_le l l.length
  unfold trm
  by_cases h : 0 < tl l l.length
  · right
    rw [List.length_take, Nat.min_eq_left hle, dg_take l _ _ (by omega)]
    exact tl_last l _ h
  · left
    rw [show tl l l.length = 0 by omega]
    rfl
theorem canon_len {l : List Int} (hd : Dig l) (hc : Canon l) {n : Nat} (hv : val l < 10 ^ n) : l.length ≤ n := by
  rcases hc with rfl | hc
  · simp
  · by_cases h0 : l.length = 0
    · omega
    · obtain ⟨k, hk⟩ : ∃ k, l.length = k + 1 := ⟨l.length - 1, by omega⟩
      rw [hk, show k + 1 - 1 = k by omega] at hc
      have h1 := val_next l k
      rw [← hk, List.take_length] at h1
      have h2 := val_nonneg (hd.take k)
      have h3 := hd.dg k
      have h4 : (10 : Int) ^ k ≤ val l := by
        rw [h1]
        have : (10 : Int) ^ k * 1 ≤ 10 ^ k * dg l k := Int.mul_le_mul_of_nonneg_left (by omega) (Int.le_of_lt (pow_pos k))
        omega
      have h5 : ¬ n ≤ k := fun hn => by
        have : (10 : Int) ^ n ≤ 10 ^ k := by
          obtain ⟨d, rfl⟩ : ∃ d, k = n + d := ⟨k - n, by omega⟩
          rw [Int.pow_add]
          have := Int.mul_le_mul_of_nonneg_left (pow_pos d) (Int.le_of_lt (pow_pos n))
          omega
        omega
      omega
theorem canon_ge {l : List Int} (hd : Dig l) (hc : Canon l) {n : Nat} (hn : n < l.length) : (10 : Int) ^ n ≤ val l := by
  rcases Int.lt_or_le (val l) (10 ^ n) with h | h
  · exact absurd (canon_len hd hc h) (by omega)
  · exact h
/-- Trimmed, with a sign. -/
theorem trimS_evs : Ev fun n => ∀ (m : Bool) (l : List Int), Dig l → l.length ≤ 1000 → ∃ p, IsNum (num m l) p ∧ (tab n).ref01_trim m l = some p := by
  refine Ev.step ((Ev.ge 1001).mono fun n hn m l hd hl => ?_)
  have hj := tl_le l l.length
  have hv := trm_val l
  refine ⟨.mk (m && decide (0 < tl l l.length)) (trm l), ⟨trm_dig hd, trm_canon l, ?_⟩, ?_⟩
  · unfold num
    cases m with
    | false => simpa using hv
    | true =>
      by_cases h1 : 0 < tl l l.length
      · simp [h1, hv]
      · have h0 : tl l l.length = 0 := by omega
        have h2 : trm l = [] := by unfold trm; rw [h0]; rfl
        rw [h2] at hv ⊢
        rw [val] at hv
        simp [h1, ← hv, val]
  · obtain ⟨z, e⟩ := trim_l (t := tab n) (n := n) (m := m) (q := false) (q2 := []) (by omega) l.length n (Nat.le_refl _) (by omega)
    rw [tab_ref01_trim, ref01_trim, e]
    dsimp only
    rw [ref01_trim_j2]
    have hc : (decide (0 ≤ (0 : Int) ∧ (0 : Int) ≤ (tl l l.length : Int) ∧ (tl l l.length : Int) ≤ (l.length : Int))) = true := by
      rw [decide_eq_true_eq]
      omega
    rw [if_pos hc, if_pos hc]
    have ht : ((l.take ((tl l l.length : Nat) : Int).toNat).drop (0 : Int).toNat) = trm l := by
      rw [Int.toNat_natCast]
      rfl
    rw [ht]
    cases m with
    | false => simp
    | true =>
      have : decide (((tl l l.length : Nat) : Int) > 0) = decide (0 < tl l l.length) := by rw [Bool.eq_iff_iff, decide_eq_true_eq, decide_eq_true_eq]; omega
      simp [this]
/- The digits of any number. -/
theorem ofS_l {t : Tab} {n : Nat} {a : Int} {q : Bool} {q2 : List Int} : ∀ (j K : Nat) (acc : List Int) (x : Int), acc.length + j ≤ 1000 → (x.natAbs : Int) < 10 ^ j → -9223372036854775808 ≤ x → x ≤ 9223372036854775807 → j < K → ∃ z, ref01_Of_l1 t n K a acc x q q2 = some (a, acc ++ digs j x.natAbs, 0, z, q, q2)
  | 0, K, acc, x, hl, hx, h5, h6, hk => by
    obtain ⟨K, rfl⟩ : ∃ j, K = j + 1 := ⟨K - 1, by omega⟩
    have : x = 0 := by rw [Int.pow_zero] at hx; omega
    subst this
    exact ⟨((0 : Int) != 0), by rw [ref01_Of_l1, if_neg (by simp), digs, List.append_nil]⟩
  | j + 1, K, acc, x, hl, hx, h5, h6, hk => by
    obtain ⟨K, rfl⟩ : ∃ j, K = j + 1 := ⟨K - 1, by omega⟩
    by_cases hz : x = 0
    · subst hz
      exact ⟨((0 : Int) != 0), by rw [ref01_Of_l1, if_neg (by simp), digs, if_pos (by rfl), List.append_nil]⟩
    · have em : Int.tmod x 10 = if x < 0 then -((x.natAbs : Int) % 10) else (x.natAbs : Int) % 10 := by
        by_cases h : x < 0
        · rw [if_pos h]
          have h1 : x = -(x.natAbs : Int) := by omega
          conv => lhs; rw [h1, Int.neg_tmod]
          rw [Int.tmod_eq_emod_of_nonneg (by omega)]
        · rw [if_neg h]
          have h1 : x = (x.natAbs : Int) := by omega
          conv => lhs; rw [h1]
          rw [Int.tmod_eq_emod_of_nonneg (by omega)]
      have eq' : Int.tdiv x 10 = if x < 0 then -((x.natAbs : Int) / 10) else (x.natAbs : Int) / 10 := by
        by_cases h : x < 0
        · rw [if_pos h]
          have h1 : x = -(x.natAbs : Int) := by omega
          conv => lhs; rw [h1, Int.neg_tdiv]
          rw [Int.tdiv_eq_ediv_of_nonneg (by omega)]
        · rw [if_neg h]
          have h1 : x = (x.natAbs : Int) := by omega
          conv => lhs; rw [h1]
          rw [Int.tdiv_eq_ediv_of_nonneg (by omega)]
      have e1 : remI .i64 x 10 = some (Int.tmod x 10) := by
        unfold remI
        rw [if_neg (by omega)]
      have e2 : quoI .i64 x 10 = some (Int.tdiv x 10) := by
        unfold quoI
        rw [if_neg (by omega), wr (by rw [eq']; split <;> omega) (by rw [eq']; split <;> omega)]
      have hn : ((Int.tdiv x 10).natAbs : Int) = (x.natAbs : Int) / 10 := by rw [eq']; split <;> omega
      obtain ⟨z, e⟩ := ofS_l (t := t) (n := n) (a := a) (q := q) (q2 := q2) j K (acc ++ [(x.natAbs : Int) % 10]) (Int.tdiv x 10) (by simp; omega) (by rw [hn]; rw [Int.pow_succ] at hx; omega) (by rw [eq']; split <;> omega) (by rw [eq']; split <;> omega) (by omega)
      refine ⟨z, ?_⟩
      have hd : ¬ (x.natAbs : Int) = 0 := by omega
      have go : ref01_Of_j2 t n a acc x ((x.natAbs : Int) % 10) q q2 = some (a, acc ++ [(x.natAbs : Int) % 10], Int.tdiv x 10, q, q2) := by
        rw [ref01_Of_j2, if_pos (by simp; omega), e2]
      rw [digs, if_neg hd]
      have ea : acc ++ (x.natAbs : Int) % 10 :: digs j ((x.natAbs : Int) / 10) = acc ++ [(x.natAbs : Int) % 10] ++ digs j ((x.natAbs : Int) / 10) := by simp
      rw [ea, ← hn, ← e, ref01_Of_l1, if_pos (by simpa using hz), e1]
      dsimp only
      by_cases h : x < 0 ∧ ¬ (x.natAbs : Int) % 10 = 0
      · have hw : IntKind.wrap .i64 (0 - Int.tmod x 10) = (x.natAbs : Int) % 10 := by
          rw [em, if_pos h.1, wr (by omega) (by omega)]
          omega
        rw [if_pos (by rw [em, if_pos h.1, decide_eq_true_eq]; omega), hw, go]
      · have hw : Int.tmod x 10 = (x.natAbs : Int) % 10 := by
          rw [em]
          split <;> omega
        rw [if_neg (by rw [hw, decide_eq_true_eq]; omega), hw, go]
theorem ofS_evs : Ev fun n => ∀ x : Int, -9223372036854775808 ≤ x → x ≤ 9223372036854775807 → ∃ p, IsNum x p ∧ (tab n).ref01_Of x = some p := by
  refine Ev.step (((Ev.ge 20).and trimS_evs).mono fun n hh x h0 h1 => ?_)
  obtain ⟨d1, d2, d3⟩ := digs_ok 19 (x.natAbs : Int) (by omega) (by omega)
  obtain ⟨p, hp, e⟩ := hh.2 (decide (x < 0)) _ d1 (by omega)
  have e0 : num (decide (x < 0)) (digs 19 (x.natAbs : Int)) = x := by
    unfold num
    rw [d2]
    by_cases h : x < 0
    · rw [if_pos (by simpa using h)]; omega
    · rw [if_neg (by simpa using h)]; omega
  rw [e0] at hp
  refine ⟨p, hp, ?_⟩
  obtain ⟨z, e2⟩ := ofS_l (t := tab n) (n := n) (a := x) (q := false) (q2 := []) 19 n [] x (by simp) (by omega) h0 h1 (by omega)
  rw [tab_ref01_Of, ref01_Of, e2]
  cases p
  simp only [ref01_Of_j3, List.nil_append, e]
def lenN : GNum → Nat
  | .mk _ l => l.length
/-- So many digits a number has. -/
theorem num_len {x : Int} {j : Nat} : ∀ {p : GNum}, IsNum x p → -(10 ^ j) < x → x < 10 ^ j → lenN p ≤ j
  | .mk m l, ⟨h1, h2, h3⟩, g1, g2 => canon_len h1 h2 (by unfold num at h3; split at h3 <;> omega)
end Go.Proofs.Ytokfeoifkpedgaa.W
