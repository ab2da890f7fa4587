/- What the document's sum of two decimal numbers comes to. -/
import Derived.Test.YtkeecomghgmamaaNumIntsAdds
namespace Go.Proofs.Ytkeecomghgmamaa.Pure
open Go.RowKit Go.Proofs.Ytkeecomghgmamaa.PIntsAdds Go.Proofs.Ytkeecomghgmamaa.Dec Go.Proofs.YtkeecomghgmamaaW.PrintWords Go.Proofs.YtkeecomghgmamaaW.PrintLast
set_option linter.unusedVariables false

theorem digit_spec (l : List Int) (i : Nat) : wayfarerref01_digit.f l (i : Int) = some (rd l (i : Int)) := by
  unfold wayfarerref01_digit.f
  by_cases h : i < l.length
  · rw [if_pos (by omega), if_pos (by omega)]
  · rw [if_neg (by omega), rd_over l i (by omega)]
/-- Digit by digit from the highest on, two numbers of as many digits. -/
theorem size_l0 (a b : List Int) (ha : Dig a) (hb : Dig b) (hl : a.length = b.length) (hla : a.length ≤ 1000) : ∀ (i k : Nat), i ≤ a.length → i < k → val (a.drop i) = val (b.drop i) →
    ∃ t, wayfarerref01_size.l0 k a b ((i : Int) - 1) = some t ∧ (t < 0 ↔ val a < val b) := by
  intro i
  induction i with
  | zero =>
    intro k _ hk h
    obtain ⟨k, rfl⟩ : ∃ j, k = j + 1 := ⟨k - 1, by omega⟩
    simp only [wayfarerref01_size.l0]
    rw [if_neg (by omega)]
    simp only [List.drop_zero] at h
    exact ⟨0, rfl, by omega⟩
  | succ i ih =>
    intro k hi hk h
    obtain ⟨k, rfl⟩ : ∃ j, k = j + 1 := ⟨k - 1, by omega⟩
    have e1 : ((i + 1 : Nat) : Int) - 1 = (i : Int) := by omega
    have e2 : Aside0 (wrap64 ((i : Int) - 1) = (i : Int) - 1) := ⟨wrap_few (by omega) (by omega)⟩
    have da := ha.rd i
    have db := hb.rd i
    have va := val_drop a i (by omega)
    have vb := val_drop b i (by omega)
    simp only [wayfarerref01_size.l0, e1, e2.out]
    rw [if_pos (by omega), if_pos (by omega), if_pos (by omega), if_pos (by omega)]
    by_cases hd : rd a (i : Int) = rd b (i : Int)
    · rw [if_pos hd]
      exact ih k (by omega) (by omega) (by omega)
    · rw [if_neg hd]
      have pa := val_parts a i (by omega)
      have pb := val_parts b i (by omega)
      have la := val_lt (ha.take i)
      have lb := val_lt (hb.take i)
      rw [List.length_take, Nat.min_eq_left (by omega)] at la lb
      have na := val_nonneg (ha.take i)
      have nb := val_nonneg (hb.take i)
      have hp := Dec.pow_pos i
      have e3 : Aside0 (wrap64 (rd a (i : Int) - rd b (i : Int)) = rd a (i : Int) - rd b (i : Int)) := ⟨wrap_few (by omega) (by omega)⟩
      rw [e3.out]
      refine ⟨_, rfl, ?_⟩
      by_cases hlt : rd a (i : Int) < rd b (i : Int)
      · have h1 : val (a.drop i) + 1 ≤ val (b.drop i) := by omega
        have h2 := Int.mul_le_mul_of_nonneg_left h1 (Int.le_of_lt hp)
        rw [Int.mul_add] at h2
        constructor <;> intro _ <;> omega
      · have h1 : val (b.drop i) + 1 ≤ val (a.drop i) := by omega
        have h2 := Int.mul_le_mul_of_nonneg_left h1 (Int.le_of_lt hp)
        rw [Int.mul_add] at h2
        constructor <;> intro _ <;> omega
theorem canon_ge {l : List Int} (hd : Dig l) (hc : Canon l) {n : Nat} (hn : n < l.length) : (10 : Int) ^ n ≤ val l := by
  rcases Int.lt_or_le (val l) (10 ^ n) with h | h
  · exact absurd (canon_len hd hc h) (by omega)
  · exact h
theorem size_spec (a b : List Int) (ha : Dig a) (hb : Dig b) (ca : Canon a) (cb : Canon b) (hla : a.length ≤ 1000) (hlb : b.length ≤ 1000) (k : Nat) (hk : 1000 < k) :
    ∃ t, wayfarerref01_size.f k a b = some t ∧ (t < 0 ↔ val a < val b) := by
  unfold wayfarerref01_size.f
  by_cases h : a.length = b.length
  · rw [if_pos (by omega)]
    have e : Aside0 (wrap64 ((a.length : Int) - 1) = (a.length : Int) - 1) := ⟨wrap_few (by omega) (by omega)⟩
    rw [e.out]
    exact size_l0 a b ha hb h hla a.length k (by omega) (by omega) (by rw [List.drop_eq_nil_of_le (by omega), List.drop_eq_nil_of_le (by omega)])
  · rw [if_neg (by omega)]
    have e : Aside0 (wrap64 ((a.length : Int) - (b.length : Int)) = (a.length : Int) - (b.length : Int)) := ⟨wrap_few (by omega) (by omega)⟩
    rw [e.out]
    refine ⟨_, rfl, ?_⟩
    have la := val_lt ha
    have lb := val_lt hb
    by_cases hlt : a.length < b.length
    · have := canon_ge hb cb hlt
      constructor <;> intro _ <;> omega
    · have := canon_ge ha ca (show b.length < a.length by omega)
      constructor <;> intro _ <;> omega

/-- Digits of one sign, with a carry. -/
theorem Plus_l0 (m q : Bool) (a b : List Int) (ha : Dig a) (hb : Dig b) (hla : a.length ≤ 1000) (hlb : b.length ≤ 1000) :
    ∀ (d k i : Nat) (c : Int) (acc : List Int), Dig acc → acc.length = i → 0 ≤ c → c ≤ 1 → max a.length b.length + 1 - i = d → i ≤ max a.length b.length + 1 → (i = max a.length b.length + 1 → c = 0) →
    val acc + 10 ^ i * c = val (a.take i) + val (b.take i) → 2 * d + 1100 < k →
    ∃ r, wayfarerref01_Num_Plus.l0 k acc c (i : Int) m a q b = some r ∧ ∃ D, val D = val a + val b ∧ IsNum (num m D) r := by
  intro d
  have fin : ∀ (k i : Nat) (acc : List Int), Dig acc → acc.length = i → i ≤ 1001 → max a.length b.length ≤ i → val acc + 10 ^ i * 0 = val (a.take i) + val (b.take i) → 1100 < k →
      ∃ r, wayfarerref01_Num_Plus.l0 k acc 0 (i : Int) m a q b = some r ∧ ∃ D, val D = val a + val b ∧ IsNum (num m D) r := by
    intro k i acc hd hl hi hm hv hk
    obtain ⟨k, rfl⟩ : ∃ j, k = j + 2 := ⟨k - 2, by omega⟩
    obtain ⟨r, hr, hN⟩ := trim_num m acc hd (by omega) k (by omega)
    refine ⟨r, ?_, acc, ?_, hN⟩
    · simp only [wayfarerref01_Num_Plus.l0]
      rw [if_neg (by omega), if_neg (by omega)]
      simp only [wayfarerref01_Num_Plus.j1]
      rw [if_neg (by decide), hr]
      rfl
    · rw [List.take_of_length_le (by omega), List.take_of_length_le (by omega)] at hv
      omega
  induction d with
  | zero =>
    intro k i c acc hd hl h0 h1 hdm hi hc hv hk
    have hc0 := hc (by omega)
    subst hc0
    exact fin k i acc hd hl (by omega) (by omega) hv (by omega)
  | succ d ih =>
    intro k i c acc hd hl h0 h1 hdm hi hc hv hk
    by_cases hend : decide (max a.length b.length ≤ i ∧ c = 0) = true
    · obtain ⟨he, rfl⟩ := of_decide_eq_true hend
      exact fin k i acc hd hl (by omega) he hv (by omega)
    · have hend2 : ¬ i < max a.length b.length → 0 < c := fun h => by
        rcases Int.lt_or_le 0 c with h2 | h2
        · exact h2
        · exact absurd (decide_eq_true ⟨Nat.le_of_not_lt h, Int.le_antisymm h2 h0⟩) hend
      clear hend hc
      obtain ⟨k, rfl⟩ : ∃ j, k = j + 2 := ⟨k - 2, by omega⟩
      have da := ha.rd i
      have db := hb.rd i
      obtain ⟨x, hx⟩ : ∃ x, x = rd a (i : Int) + rd b (i : Int) + c := ⟨_, rfl⟩
      have ew : Aside0 (wrap64 (wrap64 (rd a (i : Int) + rd b (i : Int)) + c) = x) := ⟨by
        rw [wrap_few (x := rd a (i : Int) + rd b (i : Int)) (by omega) (by omega), hx]; exact wrap_few (by omega) (by omega)⟩
      have em : Aside0 (Int.tmod x 10 = x % 10) := ⟨tmod_ten (by omega)⟩
      have eq' : Aside0 (wrap64 (Int.tdiv x 10) = x / 10) := ⟨tdiv_ten (by omega) (by omega)⟩
      have ei : Aside0 (wrap64 ((i : Int) + 1) = ((i + 1 : Nat) : Int)) := ⟨wrap_nat (by omega) (by omega)⟩
      have hroom : acc.length < 17592186044416 := room_small (by omega)
      have hj1 : wayfarerref01_Num_Plus.j1 (k + 1) acc c (i : Int) true m a q b = wayfarerref01_Num_Plus.l0 k (acc ++ [x % 10]) (x / 10) ((i + 1 : Nat) : Int) m a q b := by
        simp only [wayfarerref01_Num_Plus.j1]
        rw [if_pos trivial, digit_spec, digit_spec]
        simp only [Option.bind_some]
        rw [if_pos hroom, ew.out, em.out, eq'.out, ei.out]
      have hl0 : wayfarerref01_Num_Plus.l0 (k + 2) acc c (i : Int) m a q b = wayfarerref01_Num_Plus.l0 k (acc ++ [x % 10]) (x / 10) ((i + 1 : Nat) : Int) m a q b := by
        rw [← hj1]
        conv => lhs; simp only [wayfarerref01_Num_Plus.l0]
        by_cases h2 : (i : Int) < (a.length : Int)
        · rw [if_pos h2]
        · rw [if_neg h2]
          by_cases h3 : (i : Int) < (b.length : Int)
          · rw [if_pos h3]
          · rw [if_neg h3, decide_eq_true (show c > 0 from hend2 (by omega))]
      rw [hl0]
      refine ih k (i + 1) (x / 10) _ (hd.append (Dig.one (by omega) (by omega))) (by simp; omega) (by omega) (by omega) (by omega) (by omega) ?_ ?_ (by omega)
      · intro hie
        have e1 : rd a (i : Int) = 0 := rd_over a i (by omega)
        have e2 : rd b (i : Int) = 0 := rd_over b i (by omega)
        omega
      · rw [val_append, val_one, hl, val_next a i, val_next b i, Int.pow_succ]
        have h3 : x % 10 = x - 10 * (x / 10) := by omega
        rw [h3]
        generalize x / 10 = y at *
        rw [hx]
        generalize (10 : Int) ^ i = P at *
        grind

/-- The greater one less the other one. -/
theorem Plus_l1 (m q : Bool) (a b : List Int) (ha : Dig a) (hb : Dig b) (hla : a.length ≤ 1000) (hlb : b.length ≤ a.length) (hge : val b ≤ val a) :
    ∀ (d k i : Nat) (c : Int) (acc : List Int), Dig acc → acc.length = i → 0 ≤ c → c ≤ 1 → a.length - i = d → i ≤ a.length → val acc - 10 ^ i * c = val (a.take i) - val (b.take i) → d + 1100 < k →
    ∃ r, wayfarerref01_Num_Plus.l1 k acc c (i : Int) m a q b = some r ∧ ∃ D, val D = val a - val b ∧ IsNum (num m D) r := by
  intro d
  induction d with
  | zero =>
    intro k i c acc hd hl h0 h1 hdm hi hv hk
    obtain ⟨k, rfl⟩ : ∃ j, k = j + 1 := ⟨k - 1, by omega⟩
    obtain rfl : i = a.length := by omega
    obtain ⟨r, hr, hN⟩ := trim_num m acc hd (by omega) k (by omega)
    refine ⟨r, ?_, acc, ?_, hN⟩
    · simp only [wayfarerref01_Num_Plus.l1]
      rw [if_neg (by omega), hr]
      rfl
    · rw [List.take_length, List.take_of_length_le hlb] at hv
      have hlt := val_lt hd
      rw [hl] at hlt
      have hc : c = 0 ∨ c = 1 := by omega
      rcases hc with rfl | rfl <;> omega
  | succ d ih =>
    intro k i c acc hd hl h0 h1 hdm hi hv hk
    obtain ⟨k, rfl⟩ : ∃ j, k = j + 1 := ⟨k - 1, by omega⟩
    have da := ha.rd i
    have db := hb.rd i
    have ei : Aside0 (wrap64 ((i : Int) + 1) = ((i + 1 : Nat) : Int)) := ⟨wrap_nat (by omega) (by omega)⟩
    have hroom : acc.length < 17592186044416 := room_small (by omega)
    obtain ⟨x, hx⟩ : ∃ x, x = rd a (i : Int) - rd b (i : Int) - c := ⟨_, rfl⟩
    have ew : Aside0 (wrap64 (wrap64 (rd a (i : Int) - rd b (i : Int)) - c) = x) := ⟨by
      rw [wrap_few (x := rd a (i : Int) - rd b (i : Int)) (by omega) (by omega), hx]; exact wrap_few (by omega) (by omega)⟩
    simp only [wayfarerref01_Num_Plus.l1]
    rw [if_pos (by omega), if_pos (by omega), digit_spec]
    simp only [Option.bind_some]
    rw [ew.out, ei.out]
    have nx : ∀ (y c' : Int), y - 10 * c' = x → 0 ≤ y → y ≤ 9 → 0 ≤ c' → c' ≤ 1 → ∃ r, wayfarerref01_Num_Plus.l1 k (acc ++ [y]) c' ((i + 1 : Nat) : Int) m a q b = some r ∧ ∃ D, val D = val a - val b ∧ IsNum (num m D) r := by
      intro y c' hy hy0 hy9 hc0 hc1
      refine ih k (i + 1) c' _ (hd.append (Dig.one hy0 hy9)) (by simp; omega) hc0 hc1 (by omega) (by omega) ?_ (by omega)
      rw [val_append, val_one, hl, val_next a i, val_next b i, Int.pow_succ]
      generalize (10 : Int) ^ i = P at *
      grind
    by_cases hneg : x < 0
    · rw [if_pos hneg, if_pos hroom]
      have e2 : Aside0 (wrap64 (x + 10) = x + 10) := ⟨wrap_few (by omega) (by omega)⟩
      rw [e2.out]
      exact nx (x + 10) 1 (by omega) (by omega) (by omega) (by omega) (by omega)
    · rw [if_neg hneg, if_pos hroom]
      exact nx x 0 (by omega) (by omega) (by omega) (by omega) (by omega)

/-- The greater one less the other one. -/
theorem Plus_l1001 (m q : Bool) (a b : List Int) (ha : Dig a) (hb : Dig b) (hla : a.length ≤ 1000) (hlb : b.length ≤ a.length) (hge : val b ≤ val a) :
    ∀ (d k i : Nat) (c : Int) (acc : List Int), Dig acc → acc.length = i → 0 ≤ c → c ≤ 1 → a.length - i = d → i ≤ a.length → val acc - 10 ^ i * c = val (a.take i) - val (b.take i) → d + 1100 < k →
    ∃ r, wayfarerref01_Num_Plus.l1001 k acc c (i : Int) m a q b = some r ∧ ∃ D, val D = val a - val b ∧ IsNum (num m D) r := by
  intro d
  induction d with
  | zero =>
    intro k i c acc hd hl h0 h1 hdm hi hv hk
    obtain ⟨k, rfl⟩ : ∃ j, k = j + 1 := ⟨k - 1, by omega⟩
    obtain rfl : i = a.length := by omega
    obtain ⟨r, hr, hN⟩ := trim_num m acc hd (by omega) k (by omega)
    refine ⟨r, ?_, acc, ?_, hN⟩
    · simp only [wayfarerref01_Num_Plus.l1001]
      rw [if_neg (by omega), hr]
      rfl
    · rw [List.take_length, List.take_of_length_le hlb] at hv
      have hlt := val_lt hd
      rw [hl] at hlt
      have hc : c = 0 ∨ c = 1 := by omega
      rcases hc with rfl | rfl <;> omega
  | succ d ih =>
    intro k i c acc hd hl h0 h1 hdm hi hv hk
    obtain ⟨k, rfl⟩ : ∃ j, k = j + 1 := ⟨k - 1, by omega⟩
    have da := ha.rd i
    have db := hb.rd i
    have ei : Aside0 (wrap64 ((i : Int) + 1) = ((i + 1 : Nat) : Int)) := ⟨wrap_nat (by omega) (by omega)⟩
    have hroom : acc.length < 17592186044416 := room_small (by omega)
    obtain ⟨x, hx⟩ : ∃ x, x = rd a (i : Int) - rd b (i : Int) - c := ⟨_, rfl⟩
    have ew : Aside0 (wrap64 (wrap64 (rd a (i : Int) - rd b (i : Int)) - c) = x) := ⟨by
      rw [wrap_few (x := rd a (i : Int) - rd b (i : Int)) (by omega) (by omega), hx]; exact wrap_few (by omega) (by omega)⟩
    simp only [wayfarerref01_Num_Plus.l1001]
    rw [if_pos (by omega), if_pos (by omega), digit_spec]
    simp only [Option.bind_some]
    rw [ew.out, ei.out]
    have nx : ∀ (y c' : Int), y - 10 * c' = x → 0 ≤ y → y ≤ 9 → 0 ≤ c' → c' ≤ 1 → ∃ r, wayfarerref01_Num_Plus.l1001 k (acc ++ [y]) c' ((i + 1 : Nat) : Int) m a q b = some r ∧ ∃ D, val D = val a - val b ∧ IsNum (num m D) r := by
      intro y c' hy hy0 hy9 hc0 hc1
      refine ih k (i + 1) c' _ (hd.append (Dig.one hy0 hy9)) (by simp; omega) hc0 hc1 (by omega) (by omega) ?_ (by omega)
      rw [val_append, val_one, hl, val_next a i, val_next b i, Int.pow_succ]
      generalize (10 : Int) ^ i = P at *
      grind
    by_cases hneg : x < 0
    · rw [if_pos hneg, if_pos hroom]
      have e2 : Aside0 (wrap64 (x + 10) = x + 10) := ⟨wrap_few (by omega) (by omega)⟩
      rw [e2.out]
      exact nx (x + 10) 1 (by omega) (by omega) (by omega) (by omega) (by omega)
    · rw [if_neg hneg, if_pos hroom]
      exact nx x 0 (by omega) (by omega) (by omega) (by omega) (by omega)

theorem canon_le {a b : List Int} (ha : Dig a) (hb : Dig b) (ca : Canon a) (h : val a ≤ val b) : a.length ≤ b.length := by
  have := val_lt hb
  exact canon_len ha ca (by omega)
theorem Plus_spec {x y : Int} {p q : Bool × List Int} (hp : IsNum x p) (hq : IsNum y q) (hlp : p.2.length ≤ 1000) (hlq : q.2.length ≤ 1000) (k : Nat) (hk : 4000 < k) :
    ∃ r, wayfarerref01_Num_Plus.f k p.1 p.2 q.1 q.2 = some r ∧ IsNum (x + y) r := by
  unfold wayfarerref01_Num_Plus.f
  have hx := hp.2.2.2
  have hy := hq.2.2.2
  by_cases hs : (p.1 == q.1) = true
  · have hs' : p.1 = q.1 := by simpa using hs
    rw [if_pos hs]
    obtain ⟨r, hr, D, hD, hN⟩ := Plus_l0 p.1 q.1 p.2 q.2 hp.1 hq.1 hlp hlq (max p.2.length q.2.length + 1) k 0 0 [] Dig.nil rfl (by omega) (by omega) (by omega) (by omega) (by omega) (by simp [val]) (by omega)
    refine ⟨r, hr, ?_⟩
    have e : num p.1 D = x + y := by
      rw [← hx, ← hy, ← hs']
      unfold num
      split <;> omega
    rwa [e] at hN
  · have hs' : ¬ p.1 = q.1 := by simpa using hs
    rw [if_neg hs]
    obtain ⟨t, ht, hlt⟩ := size_spec p.2 q.2 hp.1 hq.1 hp.2.1 hq.2.1 hlp hlq k (by omega)
    rw [ht]
    simp only [Option.bind_some]
    by_cases h : t < 0
    · have hv := hlt.mp h
      rw [if_pos h]
      obtain ⟨r, hr, D, hD, hN⟩ := Plus_l1 q.1 p.1 q.2 p.2 hq.1 hp.1 hlq (canon_le hp.1 hq.1 hp.2.1 (by omega)) (by omega) q.2.length k 0 0 [] Dig.nil rfl (by omega) (by omega) (by omega) (by omega) (by simp [val]) (by omega)
      refine ⟨r, hr, ?_⟩
      have e : num q.1 D = x + y := by
        rw [← hx, ← hy]
        unfold num
        cases h1 : p.1 <;> cases h2 : q.1 <;> simp_all <;> omega
      rwa [e] at hN
    · have hv : ¬ val p.2 < val q.2 := fun h2 => h (hlt.mpr h2)
      rw [if_neg h]
      obtain ⟨r, hr, D, hD, hN⟩ := Plus_l1001 p.1 q.1 p.2 q.2 hp.1 hq.1 hlp (canon_le hq.1 hp.1 hq.2.1 (by omega)) (by omega) p.2.length k 0 0 [] Dig.nil rfl (by omega) (by omega) (by omega) (by omega) (by simp [val]) (by omega)
      refine ⟨r, hr, ?_⟩
      have e : num p.1 D = x + y := by
        rw [← hx, ← hy]
        unfold num
        cases h1 : p.1 <;> cases h2 : q.1 <;> simp_all <;> omega
      rwa [e] at hN
end Go.Proofs.Ytkeecomghgmamaa.Pure
