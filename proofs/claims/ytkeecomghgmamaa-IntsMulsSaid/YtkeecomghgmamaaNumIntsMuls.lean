/- What the document's decimal numbers come to: digits of a number, without noughts behind, as one of 64 bits. -/
import Derived.Test.YtkeecomghgmamaaBaseIntsMuls
import Derived.Test.YtkeecomghgmamaaDec
namespace Go.Proofs.Ytkeecomghgmamaa.Pure
open Go.RowKit Go.Proofs.Ytkeecomghgmamaa.PIntsMuls Go.Proofs.Ytkeecomghgmamaa.Dec Go.Proofs.YtkeecomghgmamaaW.PrintWords Go.Proofs.YtkeecomghgmamaaW.PrintLast
set_option linter.unusedVariables false

theorem wrap_pred {i : Nat} (h : 0 < i) (hn : i ≤ 140737488351232) : wrap64 ((i : Int) - 1) = ((i - 1 : Nat) : Int) := by unfold wrap64; omega
theorem trim_l0 (m : Bool) (l : List Int) (hl : l.length ≤ 140737488351232) : ∀ (n k : Nat), n ≤ l.length → n < k → wayfarerref01_trim.l0 k m l (n : Int) = some (m && decide (0 < tl l n), l.take (tl l n)) := by
  intro n
  induction n with
  | zero =>
    intro k _ hk
    obtain ⟨k, rfl⟩ : ∃ j, k = j + 1 := ⟨k - 1, by omega⟩
    simp only [wayfarerref01_trim.l0]
    rw [if_neg (by omega)]
    cases m <;> simp [tl]
  | succ n ih =>
    intro k hn hk
    obtain ⟨k, rfl⟩ : ∃ j, k = j + 1 := ⟨k - 1, by omega⟩
    have e : wrap64 (((n + 1 : Nat) : Int) - 1) = (n : Int) := by rw [wrap_pred (by omega) (by omega)]; rfl
    simp only [wayfarerref01_trim.l0, e]
    rw [if_pos (by omega), if_pos (by omega), if_pos (by omega)]
    by_cases h : rd l (n : Int) = 0
    · have et : tl l (n + 1) = tl l n := by simp only [tl, if_pos h]
      rw [if_pos h, et]; exact ih k (by omega) (by omega)
    · have et : tl l (n + 1) = n + 1 := by simp only [tl, if_neg h]
      rw [if_neg h, et]
      have e2 : (((n + 1 : Nat) : Int) : Int).toNat = n + 1 := by omega
      cases m with
      | true => rw [if_pos rfl, if_pos (by omega), if_pos (by omega), e2]; simp
      | false => rw [if_neg (by decide), if_pos (by omega), if_pos (by omega), e2]; simp
theorem trim_spec (m : Bool) (l : List Int) (hl : l.length ≤ 140737488351232) (k : Nat) (hk : l.length < k) :
    wayfarerref01_trim.f k m l = some (m && decide (0 < tl l l.length), l.take (tl l l.length)) := trim_l0 m l hl l.length k (Nat.le_refl _) hk
theorem trim_num (m : Bool) (l : List Int) (hd : Dig l) (hl : l.length ≤ 140737488351232) (k : Nat) (hk : l.length < k) :
    ∃ p, wayfarerref01_trim.f k m l = some p ∧ IsNum (num m l) p := ⟨_, trim_spec m l hl k hk, tl_num m l hd⟩

theorem Of_l0 (n : Int) : ∀ (j k : Nat) (acc : List Int) (x : Int), Dig acc → acc.length + j ≤ 100 → (x.natAbs : Int) < 10 ^ j → (0 < x → 0 ≤ n) → (x < 0 → n < 0) → I64 x →
    val acc + 10 ^ acc.length * (x.natAbs : Int) = (n.natAbs : Int) → j + 110 < k → ∃ p, wayfarerref01_Of.l0 k n acc x = some p ∧ IsNum n p := by
  intro j
  induction j with
  | zero =>
    intro k acc x hd hl hx hp hn hi hv hk
    obtain ⟨k, rfl⟩ : ∃ j, k = j + 1 := ⟨k - 1, by omega⟩
    have hx0 : x = 0 := by rw [Int.pow_zero] at hx; omega
    subst hx0
    simp only [wayfarerref01_Of.l0, if_true]
    obtain ⟨p, hp1, hp2⟩ := trim_num (decide (n < 0)) acc hd (by omega) k (by omega)
    rw [hp1]
    refine ⟨p, rfl, ?_⟩
    have e : num (decide (n < 0)) acc = n := by
      have hv2 : val acc = (n.natAbs : Int) := by simpa using hv
      unfold num
      by_cases h : n < 0
      · rw [if_pos (decide_eq_true h), hv2]; omega
      · rw [if_neg (by simpa using h), hv2]; omega
    rwa [e] at hp2
  | succ j ih =>
    intro k acc x hd hl hx hp hn hi hv hk
    obtain ⟨k, rfl⟩ : ∃ j, k = j + 1 := ⟨k - 1, by omega⟩
    by_cases hx0 : x = 0
    · subst hx0
      exact ih (k + 1) acc 0 hd (by omega) (by have := Dec.pow_pos j; omega) hp hn hi hv (by omega)
    · simp only [wayfarerref01_Of.l0]
      rw [if_neg hx0]
      have hm : Int.tmod x 10 = if x < 0 then -((x.natAbs : Int) % 10) else (x.natAbs : Int) % 10 := by
        by_cases h : x < 0
        · rw [if_pos h]
          have h1 : x = -(x.natAbs : Int) := by omega
          conv => lhs; rw [h1, Int.neg_tmod]
          rw [Int.tmod_eq_emod_of_nonneg (by omega)]
        · rw [if_neg h]
          have h1 : x = (x.natAbs : Int) := by omega
          conv => lhs; rw [h1]
          rw [Int.tmod_eq_emod_of_nonneg (by omega)]
      have hq : Int.tdiv x 10 = if x < 0 then -((x.natAbs : Int) / 10) else (x.natAbs : Int) / 10 := by
        by_cases h : x < 0
        · rw [if_pos h]
          have h1 : x = -(x.natAbs : Int) := by omega
          conv => lhs; rw [h1, Int.neg_tdiv]
          rw [Int.tdiv_eq_ediv_of_nonneg (by omega)]
        · rw [if_neg h]
          have h1 : x = (x.natAbs : Int) := by omega
          conv => lhs; rw [h1]
          rw [Int.tdiv_eq_ediv_of_nonneg (by omega)]
      have hw : wrap64 (Int.tdiv x 10) = Int.tdiv x 10 := wrap_in (by unfold I64 at *; rw [hq]; split <;> omega)
      have hxj : ((Int.tdiv x 10).natAbs : Int) = (x.natAbs : Int) / 10 := by rw [hq]; split <;> omega
      have hnext : ∀ dg : Int, dg = (x.natAbs : Int) % 10 → ∃ p, wayfarerref01_Of.l0 k n (acc ++ [dg]) (wrap64 (Int.tdiv x 10)) = some p ∧ IsNum n p := by
        intro dg hdg
        refine ih k (acc ++ [dg]) _ (hd.append (Dig.one (by omega) (by omega))) (by simp; omega) ?_ ?_ ?_ ?_ ?_ (by omega)
        · rw [hw, hxj]; rw [Int.pow_succ] at hx; omega
        · rw [hw, hq]; intro h; split at h <;> first | omega | exact hp (by omega)
        · rw [hw, hq]; intro h; split at h <;> first | omega | exact hn (by assumption)
        · rw [hw]; unfold I64 at *; rw [hq]; split <;> omega
        · rw [hw, hxj, val_append, val_one, List.length_append, List.length_singleton, Int.pow_succ, hdg, ← hv]
          have h3 : (x.natAbs : Int) = (x.natAbs : Int) % 10 + 10 * ((x.natAbs : Int) / 10) := by omega
          conv => rhs; rw [h3]
          rw [Int.mul_add, Int.add_assoc, Int.mul_assoc]
      by_cases h : x < 0
      · rw [if_pos h] at hm
        by_cases h0 : (x.natAbs : Int) % 10 = 0
        · rw [hm, if_neg (by omega), if_pos (by omega)]
          exact hnext _ (by omega)
        · rw [hm, if_pos (by omega), if_pos (by omega)]
          exact hnext _ (by unfold wrap64; omega)
      · rw [if_neg h] at hm
        rw [hm, if_neg (by omega), if_pos (by omega)]
        exact hnext _ rfl
theorem Of_spec (n : Int) (hn : I64 n) (k : Nat) (hk : 140 < k) : ∃ p, wayfarerref01_Of.f k n = some p ∧ IsNum n p := by
  refine Of_l0 n 20 k [] n Dig.nil (by simp) (by unfold I64 at hn; omega) (by omega) (by omega) hn (by simp [val]) (by omega)

/-- From the highest digit down, below 0 all the way. -/
theorem Int_l0 (m : Bool) (l : List Int) (hd : Dig l) (hl : l.length ≤ 140737488351232) : ∀ (i k : Nat) (x : Int), i ≤ l.length → i < k → x = -val (l.drop i) → I64 x →
    wayfarerref01_Num_Int.l0 k x ((i : Int) - 1) m l = some (if I64 (num m l) then (num m l, true) else (0, false)) := by
  intro i
  induction i with
  | zero =>
    intro k x _ hk hx hi
    obtain ⟨k, rfl⟩ : ∃ j, k = j + 1 := ⟨k - 1, by omega⟩
    simp only [wayfarerref01_Num_Int.l0]
    rw [if_neg (by omega)]
    simp only [List.drop_zero] at hx
    have hv := val_nonneg hd
    unfold I64 at hi
    cases m with
    | true =>
      have en : num true l = -val l := rfl
      rw [if_pos rfl, en, if_pos (by unfold I64; omega), hx]
    | false =>
      have en : num false l = val l := rfl
      rw [if_neg (by decide), en]
      by_cases h : x = -9223372036854775808
      · rw [if_pos h, if_neg (by unfold I64; omega)]
      · rw [if_neg h, if_pos (by unfold I64; omega)]
        have : wrap64 (-x) = val l := by unfold wrap64; omega
        rw [this]
  | succ i ih =>
    intro k x hl1 hk hx hi
    obtain ⟨k, rfl⟩ : ∃ j, k = j + 1 := ⟨k - 1, by omega⟩
    have e1 : ((i + 1 : Nat) : Int) - 1 = (i : Int) := by omega
    have e2 : wrap64 ((i : Int) - 1) = (i : Int) - 1 := by unfold wrap64; omega
    simp only [wayfarerref01_Num_Int.l0, e1, e2]
    have hdg := hd.rd i
    have hv := val_drop l i (by omega)
    have hstep : -val (l.drop i) = x * 10 - rd l (i : Int) := by rw [hv, hx]; omega
    have hge : val (l.drop i) ≤ val l := by
      have h1 := val_parts l i (by omega)
      have h2 := val_nonneg (hd.take i)
      have h3 := val_nonneg (hd.drop i)
      have h4 : val (l.drop i) * 1 ≤ val (l.drop i) * 10 ^ i := Int.mul_le_mul_of_nonneg_left (by have := Dec.pow_pos i; omega) h3
      rw [Int.mul_comm _ ((10 : Int) ^ i)] at h4
      omega
    have hbig : x * 10 - rd l (i : Int) < -9223372036854775808 → ¬ I64 (num m l) := by
      intro h
      unfold I64 num
      split <;> omega
    have hgo : ¬ x * 10 - rd l (i : Int) < -9223372036854775808 → wayfarerref01_Num_Int.l0 k (wrap64 (wrap64 (x * 10) - rd l (i : Int))) ((i : Int) - 1) m l = some (if I64 (num m l) then (num m l, true) else (0, false)) := by
      intro h
      have hx0 : x ≤ 0 := by rw [hx]; have := val_nonneg (hd.drop (i + 1)); omega
      have e3 : wrap64 (wrap64 (x * 10) - rd l (i : Int)) = x * 10 - rd l (i : Int) := by unfold wrap64; omega
      rw [e3]
      exact ih k _ (by omega) (by omega) hstep.symm (by unfold I64; omega)
    rw [if_pos (by omega)]
    by_cases h1 : x < -922337203685477580
    · rw [if_pos h1, if_neg (hbig (by omega))]
    · rw [if_neg h1]
      by_cases h2 : x = -922337203685477580
      · rw [if_pos h2, if_pos (by omega), if_pos (by omega)]
        by_cases h3 : rd l (i : Int) > 8
        · rw [if_pos h3, if_neg (hbig (by omega))]
        · rw [if_neg h3]; exact hgo (by omega)
      · rw [if_neg h2, if_pos (by omega), if_pos (by omega)]
        exact hgo (by omega)
theorem Int_spec (m : Bool) (l : List Int) (hd : Dig l) (hl : l.length ≤ 140737488351232) (k : Nat) (hk : l.length < k) :
    wayfarerref01_Num_Int.f k m l = some (if I64 (num m l) then (num m l, true) else (0, false)) := by
  unfold wayfarerref01_Num_Int.f
  have e : wrap64 ((l.length : Int) - 1) = (l.length : Int) - 1 := by unfold wrap64; omega
  rw [e]
  exact Int_l0 m l hd hl l.length k 0 (Nat.le_refl _) hk (by simp [val]) i64_nought
theorem told_spec (m : Bool) (l : List Int) (hd : Dig l) (hl : l.length ≤ 140737488351232) (k : Nat) (hk : l.length < k) :
    wayfarerref01_told.f k m l = some (if I64 (num m l) then (num m l, 0) else (0, 10)) := by
  unfold wayfarerref01_told.f
  rw [Int_spec m l hd hl k hk]
  simp only [Option.bind_some]
  by_cases h : I64 (num m l)
  · simp only [if_pos h, if_true]
  · simp only [if_neg h]; rfl
end Go.Proofs.Ytkeecomghgmamaa.Pure
