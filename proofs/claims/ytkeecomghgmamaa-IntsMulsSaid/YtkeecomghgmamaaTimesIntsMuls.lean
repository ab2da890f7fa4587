/- What the document's product of two decimal numbers comes to. -/
import Derived.Test.YtkeecomghgmamaaNumIntsMuls
namespace Go.Proofs.Ytkeecomghgmamaa.Pure
open Go.RowKit Go.Proofs.Ytkeecomghgmamaa.PIntsMuls Go.Proofs.Ytkeecomghgmamaa.Dec Go.Proofs.YtkeecomghgmamaaW.PrintWords Go.Proofs.YtkeecomghgmamaaW.PrintLast
set_option linter.unusedVariables false

theorem rd_set_same (l : List Int) (i : Nat) (v : Int) (h : i < l.length) : rd (l.set i v) (i : Int) = v := by unfold rd; simp [h]
theorem val_set (l : List Int) (i : Nat) (v : Int) (h : i < l.length) : val (l.set i v) = val l + 10 ^ i * (v - rd l (i : Int)) := by
  have h1 := val_parts l i (by omega)
  have h2 := val_drop l i h
  have h3 := val_parts (l.set i v) i (by rw [List.length_set]; omega)
  have h4 := val_drop (l.set i v) i (by rw [List.length_set]; omega)
  rw [rd_set_same l i v h] at h4
  have e1 : (l.set i v).take i = l.take i := List.take_set_of_le (Nat.le_refl i)
  have e2 : (l.set i v).drop (i + 1) = l.drop (i + 1) := List.drop_set_of_lt (by omega)
  rw [e1, h4, e2] at h3
  rw [h2] at h1
  rw [h3, h1, Int.mul_add, Int.mul_add, Int.mul_sub]
  omega
theorem dig_set {l : List Int} (hd : Dig l) (i : Nat) {v : Int} (h0 : 0 ≤ v) (h9 : v ≤ 9) : Dig (l.set i v) := fun d h => by
  rcases List.mem_or_eq_of_mem_set h with h | h
  · exact hd d h
  · rw [h]; exact ⟨h0, h9⟩
theorem digit_spec (l : List Int) (i : Nat) : wayfarerref01_digit.f l (i : Int) = some (rd l (i : Int)) := by
  unfold wayfarerref01_digit.f
  by_cases h : i < l.length
  · rw [if_pos (by omega), if_pos (by omega)]
  · rw [if_neg (by omega), rd_over l i (by omega)]
theorem val_replicate (n : Nat) : val (List.replicate n 0) = 0 := by
  induction n with
  | zero => rfl
  | succ n ih => rw [List.replicate_succ]; simp [val, ih]

/-- One row of the product: the carry goes to place i + j. -/
theorem Times_l1 (m q : Bool) (a b : List Int) (ha : Dig a) (hb : Dig b) (hla : a.length ≤ 100) (hlb : b.length ≤ 100) (i : Nat) (hi : i < a.length) (W : Int) :
    ∀ (d k j : Nat) (c : Int) (D : List Int), Dig D → D.length = a.length + b.length + 1 → 0 ≤ c → c ≤ 9 → (j ≤ b.length ∨ c = 0) → b.length + 1 - j = d → j ≤ b.length + 1 → d + 1 < k →
    (∀ p : Nat, i + b.length + 1 ≤ p → rd D (p : Int) = 0) → (j ≤ b.length → rd D ((i + b.length : Nat) : Int) = 0) →
    val D + 10 ^ (i + j) * (c + rd a (i : Int) * val (b.drop j)) = W →
    ∃ D' k', wayfarerref01_Num_Times.l1 k D (i : Int) c (j : Int) m a q b = wayfarerref01_Num_Times.l0 k' D' ((i + 1 : Nat) : Int) m a q b ∧ k ≤ k' + d + 1 ∧ Dig D' ∧ D'.length = a.length + b.length + 1 ∧ (∀ p : Nat, i + b.length + 1 ≤ p → rd D' (p : Int) = 0) ∧ val D' = W := by
  intro d
  induction d with
  | zero =>
    intro k j c D hD hL hc0 hc9 hj hd hjm hk hz hzb hW
    obtain ⟨k, rfl⟩ : ∃ x, k = x + 1 := ⟨k - 1, by omega⟩
    have hc : c = 0 := by rcases hj with h | h <;> omega
    subst hc
    refine ⟨D, k, ?_, by omega, hD, hL, hz, ?_⟩
    · simp only [wayfarerref01_Num_Times.l1]
      rw [if_neg (by omega), if_neg (by omega)]
      have e : Aside0 (wrap64 ((i : Int) + 1) = ((i + 1 : Nat) : Int)) := ⟨wrap_nat (by omega) (by omega)⟩
      rw [e.out]
    · rw [List.drop_eq_nil_of_le (by omega)] at hW
      simpa [val] using hW
  | succ d ih =>
    intro k j c D hD hL hc0 hc9 hj hd hjm hk hz hzb hW
    clear hj
    obtain ⟨k, rfl⟩ : ∃ x, k = x + 1 := ⟨k - 1, by omega⟩
    have hai := ha.rd i
    have hbj := hb.rd j
    have hDx := hD.rd (i + j)
    have eij : Aside0 (wrap64 ((i : Int) + (j : Int)) = ((i + j : Nat) : Int)) := ⟨wrap_nat (by omega) (by omega)⟩
    have ej : Aside0 (wrap64 ((j : Int) + 1) = ((j + 1 : Nat) : Int)) := ⟨wrap_nat (by omega) (by omega)⟩
    have eet : (((i + j : Nat) : Int)).toNat = i + j := Int.toNat_natCast _
    have hprod : 0 ≤ rd a (i : Int) * rd b (j : Int) ∧ rd a (i : Int) * rd b (j : Int) ≤ 81 := by
      refine ⟨Int.mul_nonneg hai.1 hbj.1, ?_⟩
      have h1 := Int.mul_le_mul hai.2 hbj.2 hbj.1 (by decide : (0 : Int) ≤ 9)
      simpa using h1
    obtain ⟨x, hx⟩ : ∃ x, x = rd D ((i + j : Nat) : Int) + rd a (i : Int) * rd b (j : Int) + c := ⟨_, rfl⟩
    have ew : Aside0 (wrap64 (wrap64 (rd D ((i + j : Nat) : Int) + wrap64 (rd a (i : Int) * rd b (j : Int))) + c) = x) := ⟨by
      rw [wrap_few (x := rd a (i : Int) * rd b (j : Int)) (by omega) (by omega), wrap_few (x := rd D ((i + j : Nat) : Int) + rd a (i : Int) * rd b (j : Int)) (by omega) (by omega), hx]
      exact wrap_few (by omega) (by omega)⟩
    have em : Aside0 (Int.tmod x 10 = x % 10) := ⟨tmod_ten (by omega)⟩
    have eq' : Aside0 (wrap64 (Int.tdiv x 10) = x / 10) := ⟨tdiv_ten (by omega) (by omega)⟩
    have hvs := val_set D (i + j) (x % 10) (by omega)
    have hlen : (D.set (i + j) (x % 10)).length = a.length + b.length + 1 := by rw [List.length_set]; exact hL
    have hdg := dig_set hD (i + j) (v := x % 10) (by omega) (by omega)
    have hrdo : ∀ p : Nat, ¬ p = i + j → rd (D.set (i + j) (x % 10)) (p : Int) = rd D (p : Int) := by
      intro p hp; unfold rd
      simp only [Int.toNat_natCast, List.getD_eq_getElem?_getD, List.getElem?_set]
      rw [if_neg (by omega)]
    have hW' : val (D.set (i + j) (x % 10)) + 10 ^ (i + (j + 1)) * (x / 10 + rd a (i : Int) * val (b.drop (j + 1))) = W := by
      have hb2 : val (b.drop j) = rd b (j : Int) + 10 * val (b.drop (j + 1)) := by
        by_cases h : j < b.length
        · exact val_drop b j h
        · rw [List.drop_eq_nil_of_le (by omega), List.drop_eq_nil_of_le (by omega), rd_over b j (by omega)]; rfl
      rw [← hW, hvs, hb2, show i + (j + 1) = (i + j) + 1 by omega, Int.pow_succ]
      have h3 : x % 10 = x - 10 * (x / 10) := by omega
      rw [h3, hx]
      generalize (10 : Int) ^ (i + j) = P
      generalize rd D ((i + j : Nat) : Int) = r at *
      generalize val (List.drop (j + 1) b) = v
      generalize rd a (i : Int) = s
      generalize rd b (j : Int) = t
      generalize (r + s * t + c) / 10 = y
      grind
    have go : wayfarerref01_Num_Times.l1 k (D.set (i + j) (x % 10)) (i : Int) (x / 10) ((j + 1 : Nat) : Int) m a q b = wayfarerref01_Num_Times.l1 (k + 1) D (i : Int) c (j : Int) m a q b →
        (j < b.length ∨ j = b.length ∧ x / 10 = 0) →
        ∃ D' k', wayfarerref01_Num_Times.l1 (k + 1) D (i : Int) c (j : Int) m a q b = wayfarerref01_Num_Times.l0 k' D' ((i + 1 : Nat) : Int) m a q b ∧ k + 1 ≤ k' + (d + 1) + 1 ∧ Dig D' ∧ D'.length = a.length + b.length + 1 ∧ (∀ p : Nat, i + b.length + 1 ≤ p → rd D' (p : Int) = 0) ∧ val D' = W := by
      intro he hj2
      obtain ⟨D', k', h1, h2, h3⟩ := ih k (j + 1) (x / 10) (D.set (i + j) (x % 10)) hdg hlen (by omega) (by omega) (by omega) (by omega) (by omega) (by omega)
        (fun p hp => by rw [hrdo p (by omega)]; exact hz p hp) (fun hjb => by rw [hrdo _ (by omega)]; exact hzb (by omega)) hW'
      exact ⟨D', k', by rw [← he]; exact h1, by omega, h3⟩
    have step1 : (j : Int) < (b.length : Int) → wayfarerref01_Num_Times.l1 k (D.set (i + j) (x % 10)) (i : Int) (x / 10) ((j + 1 : Nat) : Int) m a q b = wayfarerref01_Num_Times.l1 (k + 1) D (i : Int) c (j : Int) m a q b := by
      intro h
      simp only [wayfarerref01_Num_Times.l1]
      rw [if_pos h, eij.out, if_pos (by omega), if_pos (by omega), if_pos (by omega), if_pos (by omega), digit_spec b j]
      simp only [Option.bind_some]
      rw [ew.out, em.out, eq'.out, ej.out, eet]
    by_cases hlt : j < b.length
    · exact go (step1 (by omega)) (.inl hlt)
    · have hje : j = b.length := by omega
      have hb0 : rd b (j : Int) = 0 := rd_over b j (by omega)
      have hD0 : rd D ((i + j : Nat) : Int) = 0 := by rw [hje]; exact hzb (by omega)
      have hxc : x = c := by rw [hx, hb0, hD0]; omega
      by_cases hc : c > 0
      · refine go ?_ (.inr ⟨hje, by omega⟩)
        have hjn : ¬ (j : Int) < (b.length : Int) := by omega
        conv => rhs; simp only [wayfarerref01_Num_Times.l1]
        rw [if_neg hjn, if_pos hc, eij.out, if_pos (by omega), if_pos (by omega), if_pos (by omega), if_pos (by omega), digit_spec b j]
        simp only [Option.bind_some]
        rw [ew.out, em.out, eq'.out, ej.out, eet]
      · have hc0' : c = 0 := by omega
        refine ⟨D, k, ?_, by omega, hD, hL, hz, ?_⟩
        · simp only [wayfarerref01_Num_Times.l1]
          rw [if_neg (by omega), if_neg hc]
          have e : Aside0 (wrap64 ((i : Int) + 1) = ((i + 1 : Nat) : Int)) := ⟨wrap_nat (by omega) (by omega)⟩
          rw [e.out]
        · rw [List.drop_eq_nil_of_le (by omega), hc0'] at hW
          simpa [val] using hW

theorem Times_l0 (m q : Bool) (a b : List Int) (ha : Dig a) (hb : Dig b) (hla : a.length ≤ 100) (hlb : b.length ≤ 100) :
    ∀ (e k i : Nat) (D : List Int), a.length - i = e → i ≤ a.length → Dig D → D.length = a.length + b.length + 1 → (∀ p : Nat, i + b.length ≤ p → rd D (p : Int) = 0) → val D = val (a.take i) * val b →
    e * (b.length + 4) + 300 < k → ∃ r, wayfarerref01_Num_Times.l0 k D (i : Int) m a q b = some r ∧ ∃ D', Dig D' ∧ val D' = val a * val b ∧ IsNum (num (!(m == q)) D') r := by
  intro e
  induction e with
  | zero =>
    intro k i D he hi hD hL hz hv hk
    obtain ⟨k, rfl⟩ : ∃ x, k = x + 1 := ⟨k - 1, by omega⟩
    obtain rfl : i = a.length := by omega
    rw [List.take_length] at hv
    obtain ⟨r, hr, hN⟩ := trim_num (!(m == q)) D hD (by omega) k (by omega)
    refine ⟨r, ?_, D, hD, hv, hN⟩
    simp only [wayfarerref01_Num_Times.l0]
    rw [if_neg (by omega), hr]
    rfl
  | succ e ih =>
    intro k i D he hi hD hL hz hv hk
    obtain ⟨k, rfl⟩ : ∃ x, k = x + 1 := ⟨k - 1, by omega⟩
    have hlt : i < a.length := by omega
    rw [Nat.succ_mul] at hk
    obtain ⟨D', k', h1, h2, h3, h4, h5, h6⟩ := Times_l1 m q a b ha hb hla hlb i hlt (val D + 10 ^ (i + 0) * (0 + rd a (i : Int) * val (b.drop 0))) (b.length + 1) k 0 0 D hD hL (by omega) (by omega) (by omega) (by omega) (by omega) (by omega)
      (fun p hp => hz p (by omega)) (fun _ => hz _ (by omega)) rfl
    have hstep : wayfarerref01_Num_Times.l0 (k + 1) D (i : Int) m a q b = wayfarerref01_Num_Times.l0 k' D' ((i + 1 : Nat) : Int) m a q b := by
      rw [← h1]
      simp only [wayfarerref01_Num_Times.l0]
      rw [if_pos (by omega)]
      rfl
    have hv' : val D' = val (a.take (i + 1)) * val b := by
      rw [h6, hv, val_take_succ a i hlt, List.drop_zero, Nat.add_zero, Int.zero_add, Int.add_mul, Int.mul_assoc]
    have := ih k' (i + 1) D' (by omega) (by omega) h3 h4 (fun p hp => h5 p (by omega)) hv' (by omega)
    rw [hstep]
    exact this
theorem num_mul (m q : Bool) (a b D : List Int) (h : val D = val a * val b) : num (!(m == q)) D = num m a * num q b := by
  unfold num
  cases m <;> cases q <;> simp [h, Int.neg_mul, Int.mul_neg]
theorem Times_spec {x y : Int} {p q : Bool × List Int} (hp : IsNum x p) (hq : IsNum y q) (hlp : p.2.length ≤ 100) (hlq : q.2.length ≤ 100) (k : Nat) (hk : 11000 < k) :
    ∃ r, wayfarerref01_Num_Times.f k p.1 p.2 q.1 q.2 = some r ∧ IsNum (x * y) r := by
  have e : wrap64 (wrap64 ((p.2.length : Int) + (q.2.length : Int)) + 1) = ((p.2.length + q.2.length + 1 : Nat) : Int) := by
    rw [wrap_nat (x := (p.2.length : Int) + (q.2.length : Int)) (n := p.2.length + q.2.length) (by omega) (by omega)]; exact wrap_nat (by omega) (by omega)
  have hmul : p.2.length * (q.2.length + 4) ≤ 100 * 104 := Nat.mul_le_mul hlp (by omega)
  obtain ⟨r, hr, D', hD', hv', hN⟩ := Times_l0 p.1 q.1 p.2 q.2 hp.1 hq.1 hlp hlq p.2.length k 0 (List.replicate (p.2.length + q.2.length + 1) 0) (by omega) (by omega)
    (fun d h => by rw [(List.mem_replicate.mp h).2]; omega) (by simp) (fun s hs => by
      unfold rd; simp only [Int.toNat_natCast, List.getD_eq_getElem?_getD, List.getElem?_replicate]; split <;> rfl) (by rw [val_replicate]; simp [val]) (by omega)
  rw [num_mul p.1 q.1 p.2 q.2 D' hv', hp.2.2.2, hq.2.2.2] at hN
  refine ⟨r, ?_, hN⟩
  unfold wayfarerref01_Num_Times.f
  have hlim : (((p.2.length + q.2.length + 1 : Nat) : Int)).toNat ≤ 35184372088832 := by rw [Int.toNat_natCast]; exact Nat.le_of_lt (Nat.lt_of_lt_of_le (room_small (by omega)) (by decide))
  rw [e, if_pos (by omega), if_pos hlim, Int.toNat_natCast]
  exact hr
end Go.Proofs.Ytkeecomghgmamaa.Pure
