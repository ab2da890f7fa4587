/- Signed sums. -/
import Derived.Test.YtokfeoifkpedgaaOneA
namespace Go.Proofs.Ytokfeoifkpedgaa.W
open Go.Proofs.Ytokfeoifkpedgaa.Flat
set_option linter.unusedVariables false
set_option linter.unusedSimpArgs false
theorem size_l {t : Tab} {n : Nat} {a b : List Int} (ha : Dig a) (hb : Dig b) (hl : a.length = b.length) (hla : a.length ≤ 1000000) : ∀ (i K : Nat), i ≤ a.length → i < K → val (a.drop i) = val (b.drop i) → ((∃ z, ref01_size_l1 t n K a b ((i : Int) - 1) = some (.inr z)) ∧ val a = val b) ∨ (∃ s, ref01_size_l1 t n K a b ((i : Int) - 1) = some (.inl s) ∧ (s < 0 ↔ val a < val b))
  | 0, K, hi, hk, h => by
    obtain ⟨K, rfl⟩ : ∃ j, K = j + 1 := ⟨K - 1, by omega⟩
    simp only [List.drop_zero] at h
    exact .inl ⟨⟨_, by rw [ref01_size_l1, if_neg (by simp)]⟩, h⟩
  | i + 1, K, hi, hk, h => by
    obtain ⟨K, rfl⟩ : ∃ j, K = j + 1 := ⟨K - 1, by omega⟩
    obtain ⟨x, x1, _, _⟩ := at_ (l := a) (i := i) (by omega)
    obtain ⟨y, y1, _, _⟩ := at_ (l := b) (i := i) (by omega)
    have ex : dg a i = x := by unfold dg; rw [x1]; rfl
    have ey : dg b i = y := by unfold dg; rw [y1]; rfl
    have da := ha.dg i
    have db := hb.dg i
    have va := val_drop' a i
    have vb := val_drop' b i
    rw [ex] at da va
    rw [ey] at db vb
    have e1 : ((i + 1 : Nat) : Int) - 1 = (i : Int) := by omega
    have e2 : IntKind.wrap .i64 ((i : Int) - 1) = (i : Int) - 1 := wr (by omega) (by omega)
    rw [e1, ref01_size_l1, if_pos (by simp), if_pos (by simp), Int.toNat_natCast, x1]
    dsimp only
    rw [y1]
    dsimp only
    by_cases hd : x = y
    · rw [if_neg (by simpa using hd), e2]
      exact size_l ha hb hl hla i K (by omega) (by omega) (by omega)
    · rw [if_pos (by simpa using hd), wr (by omega) (by omega)]
      have pa := val_parts a i (by omega)
      have pb := val_parts b i (by omega)
      have la := val_lt (ha.take i)
      have lb := val_lt (hb.take i)
      rw [List.length_take, Nat.min_eq_left (by omega)] at la lb
      have na := val_nonneg (ha.take i)
      have nb := val_nonneg (hb.take i)
      have hp := pow_pos i
      refine .inr ⟨_, rfl, ?_⟩
      by_cases hlt : x < y
      · have h1 : val (a.drop i) + 1 ≤ val (b.drop i) := by omega
        have h2 := Int.mul_le_mul_of_nonneg_left h1 (Int.le_of_lt hp)
        rw [Int.mul_add] at h2
        constructor <;> intro _ <;> omega
      · have h1 : val (b.drop i) + 1 ≤ val (a.drop i) := by omega
        have h2 := Int.mul_le_mul_of_nonneg_left h1 (Int.le_of_lt hp)
        rw [Int.mul_add] at h2
        constructor <;> intro _ <;> omega
theorem size_evs : Ev fun n => ∀ a b : List Int, Dig a → Dig b → Canon a → Canon b → a.length ≤ 500 → b.length ≤ 500 → ∃ s, (tab n).ref01_size a b = some s ∧ (s < 0 ↔ val a < val b) := by
  refine Ev.step ((Ev.ge 501).mono fun n hn a b ha hb ca cb hla hlb => ?_)
  rw [tab_ref01_size, ref01_size]
  by_cases h : a.length = b.length
  · have ew : IntKind.wrap .i64 ((a.length : Int) - 1) = (a.length : Int) - 1 := wr (by omega) (by omega)
    rw [if_neg (by simp; omega), ew]
    rcases size_l (t := tab n) (n := n) ha hb h (by omega) a.length n (by omega) (by omega) (by rw [List.drop_eq_nil_of_le (by omega), List.drop_eq_nil_of_le (by omega)]) with ⟨⟨⟨z1, z2, z3, z4⟩, e⟩, hv⟩ | ⟨s, e, hs⟩
    · rw [e]
      exact ⟨0, rfl, by omega⟩
    · rw [e]
      exact ⟨s, rfl, hs⟩
  · rw [if_pos (by simp; omega), wr (by omega) (by omega)]
    refine ⟨_, rfl, ?_⟩
    have la := val_lt ha
    have lb := val_lt hb
    by_cases hlt : a.length < b.length
    · have := canon_ge hb cb hlt
      constructor <;> intro _ <;> omega
    · have := canon_ge ha ca (show b.length < a.length by omega)
      constructor <;> intro _ <;> omega
/-- The greater one less the other one, digit by digit. -/
def miD (a b : List Int) : Nat → Nat → Int → List Int
  | 0, _, _ => []
  | d + 1, i, c => (if dg a i - dg b i - c < 0 then dg a i - dg b i - c + 10 else dg a i - dg b i - c) :: miD a b d (i + 1) (if dg a i - dg b i - c < 0 then 1 else 0)
theorem miD_ok {a b : List Int} (ha : Dig a) (hb : Dig b) : ∀ (d i : Nat) (c : Int), 0 ≤ c → c ≤ 1 → i + d = a.length → b.length ≤ a.length → 0 ≤ val (a.drop i) - val (b.drop i) - c → Dig (miD a b d i c) ∧ val (miD a b d i c) = val (a.drop i) - val (b.drop i) - c ∧ (miD a b d i c).length = d
  | 0, i, c, h0, h1, hi, hl, hv => by
    rw [List.drop_of_length_le (l := a) (by omega), List.drop_of_length_le (l := b) (by omega)] at hv ⊢
    rw [miD, val] at *
    exact ⟨fun x hx => (by cases hx), by omega, rfl⟩
  | d + 1, i, c, h0, h1, hi, hl, hv => by
    have da := ha.dg i
    have db := hb.dg i
    have va := val_drop' a i
    have vb := val_drop' b i
    rw [miD]
    obtain ⟨p1, p2, p3⟩ := miD_ok ha hb d (i + 1) (if dg a i - dg b i - c < 0 then 1 else 0) (by split <;> omega) (by split <;> omega) (by omega) hl (by split <;> omega)
    refine ⟨fun x hx => ?_, ?_, by simpa using p3⟩
    · rcases List.mem_cons.1 hx with rfl | hx
      · split <;> omega
      · exact p1 x hx
    · rw [val, p2, va, vb]
      split <;> omega
theorem minus_l {t : Tab} {n : Nat} {m1 m2 q : Bool} {a b q2 : List Int} (ha : Dig a) (hb : Dig b) (hl : a.length ≤ 1000000) (hD : ∀ (l : List Int) (i : Nat), t.ref01_digit l (i : Int) = some (dg l i)) : ∀ (d K i : Nat) (c : Int) (acc : List Int), acc.length = i → 0 ≤ c → c ≤ 1 → i + d = a.length → d < K → ∃ z1 z2 z3, ref01_Num_Plus_l5 t n K acc c (i : Int) q q2 m1 a m2 b = some (acc ++ miD a b d i c, z1, z2, z3, q, q2, m1, a, m2, b)
  | 0, K, i, c, acc, he, h0, h1, hi, hk => by
    obtain ⟨K, rfl⟩ : ∃ j, K = j + 1 := ⟨K - 1, by omega⟩
    exact ⟨_, _, _, by rw [ref01_Num_Plus_l5, if_neg (by simp only [decide_eq_true_eq]; omega), miD, List.append_nil]⟩
  | d + 1, K, i, c, acc, he, h0, h1, hi, hk => by
    obtain ⟨K, rfl⟩ : ∃ j, K = j + 1 := ⟨K - 1, by omega⟩
    have da := ha.dg i
    have db := hb.dg i
    obtain ⟨x, x1, _, _⟩ := at_ (l := a) (i := i) (by omega)
    have ex : dg a i = x := by unfold dg; rw [x1]; rfl
    have e1 : IntKind.wrap .i64 (IntKind.wrap .i64 (x - dg b i) - c) = dg a i - dg b i - c := by
      rw [← ex, wr (x := dg a i - dg b i) (by omega) (by omega), wr (by omega) (by omega)]
    have e4 : IntKind.wrap .i64 ((i : Int) + 1) = ((i + 1 : Nat) : Int) := wr1 (i := i) (L := i + 1) (by omega) (by omega)
    rw [ref01_Num_Plus_l5, if_pos (by simp only [decide_eq_true_eq]; omega), if_pos (by simp), Int.toNat_natCast, x1, hD]
    dsimp only
    rw [e1, miD]
    by_cases hn : dg a i - dg b i - c < 0
    · obtain ⟨z1, z2, z3, ih⟩ := minus_l (t := t) (n := n) (m1 := m1) (m2 := m2) (q := q) (q2 := q2) ha hb hl hD d K (i + 1) 1 (acc ++ [dg a i - dg b i - c + 10]) (by simp; omega) (by omega) (by omega) (by omega) (by omega)
      refine ⟨z1, z2, z3, ?_⟩
      rw [if_pos (by simpa using hn), ref01_Num_Plus_j6, wr (x := dg a i - dg b i - c + 10) (by omega) (by omega), if_pos (by simp; omega), if_pos hn, if_pos hn]
      dsimp only
      rw [e4, ih, List.append_assoc]
      rfl
    · obtain ⟨z1, z2, z3, ih⟩ := minus_l (t := t) (n := n) (m1 := m1) (m2 := m2) (q := q) (q2 := q2) ha hb hl hD d K (i + 1) 0 (acc ++ [dg a i - dg b i - c]) (by simp; omega) (by omega) (by omega) (by omega) (by omega)
      refine ⟨z1, z2, z3, ?_⟩
      rw [if_neg (by simpa using hn), ref01_Num_Plus_j6, if_pos (by simp; omega), if_neg hn, if_neg hn]
      dsimp only
      rw [e4, ih, List.append_assoc]
      rfl
theorem minus_at {n : Nat} {m1 m2 : Bool} {a b : List Int} (hD : ∀ (l : List Int) (i : Nat), (tab n).ref01_digit l (i : Int) = some (dg l i)) (hT : ∀ (m : Bool) (l : List Int), Dig l → l.length ≤ 1000 → ∃ p, IsNum (num m l) p ∧ (tab n).ref01_trim m l = some p) (hn : 501 ≤ n) (ha : Dig a) (hb : Dig b) (ca : Canon a) (cb : Canon b) (hla : a.length ≤ 500) (hle : val b ≤ val a) : ∃ p, IsNum (num m1 a - num m1 b) p ∧ (match ref01_Num_Plus_j4 (tab n) n ([] : List Int) 0 false ([] : List Int) m1 a m2 b with | some (a18, a19) => some (GNum.mk a18 a19) | none => none) = some p := by
  have hlb : b.length ≤ a.length := canon_len hb cb (by have := val_lt ha; omega)
  obtain ⟨h1, h2, h3⟩ := miD_ok ha hb a.length 0 0 (by omega) (by omega) (by omega) hlb (by rw [List.drop_zero, List.drop_zero]; omega)
  obtain ⟨p, hp, e⟩ := hT m1 _ h1 (by omega)
  have e0 : num m1 (miD a b a.length 0 0) = num m1 a - num m1 b := by
    rw [List.drop_zero, List.drop_zero] at h2
    unfold num
    split <;> omega
  rw [e0] at hp
  refine ⟨p, hp, ?_⟩
  obtain ⟨z1, z2, z3, e2⟩ := minus_l (t := tab n) (n := n) (m1 := m1) (m2 := m2) (q := false) (q2 := []) ha hb (by omega) hD a.length n 0 0 [] rfl (by omega) (by omega) (by omega) (by omega)
  rw [show ((0 : Nat) : Int) = 0 from rfl, List.nil_append] at e2
  rw [ref01_Num_Plus_j4, e2]
  cases p
  simp only [ref01_Num_Plus_j7, e]
theorem plusS_evs : Ev fun n => ∀ (x y : Int) (p q : GNum), IsNum x p → IsNum y q → lenN p ≤ 500 → lenN q ≤ 500 → ∃ r, IsNum (x + y) r ∧ (tab n).ref01_Num_Plus p q = some r := by
  refine Ev.step (((digit_evs.and trimS_evs).and (size_evs.and (Ev.ge 600))).mono fun n hh x y p q hp hq hla hlb => ?_)
  obtain ⟨⟨g1, g2⟩, g3, g4⟩ := hh
  obtain ⟨m1, a⟩ := p
  obtain ⟨m2, b⟩ := q
  obtain ⟨ha, ca, rfl⟩ := hp
  obtain ⟨hb, cb, rfl⟩ := hq
  simp only [lenN] at hla hlb
  rw [tab_ref01_Num_Plus, ref01_Num_Plus]
  by_cases hs : m1 = m2
  · subst hs
    obtain ⟨h1, h2, h3⟩ := plD_ok ha hb (max a.length b.length + 1) 0 0 (by omega) (by omega) (by omega) (by omega)
    obtain ⟨p, hp, e⟩ := g2 m1 _ h1 (by omega)
    have e0 : num m1 (plD a b (max a.length b.length + 1) 0 0) = num m1 a + num m1 b := by
      rw [List.drop_zero, List.drop_zero] at h2
      unfold num
      split <;> omega
    rw [e0] at hp
    refine ⟨p, hp, ?_⟩
    obtain ⟨z1, z2, z3, e2⟩ := plus_l (t := tab n) (n := n) (m1 := m1) (m2 := m1) (q := false) (q2 := []) ha hb (by omega) g1 (max a.length b.length + 1) n 0 0 [] rfl (by omega) (by omega) (by omega) (by omega) (by omega)
    rw [show ((0 : Nat) : Int) = 0 from rfl, List.nil_append] at e2
    rw [if_pos (by simp), e2]
    cases p
    simp only [ref01_Num_Plus_j3, e]
  · have hnm : ∀ l, num m2 l = - num m1 l := fun l => by
      unfold num
      cases m1 <;> cases m2 <;> simp_all
    have hnm' : ∀ l, num m1 l = - num m2 l := fun l => by rw [hnm]; omega
    obtain ⟨s, e1, e2⟩ := g3 a b ha hb ca cb hla hlb
    rw [if_neg (by simpa using hs), e1]
    dsimp only
    by_cases hv : val a < val b
    · obtain ⟨p, hp, e⟩ := minus_at (n := n) (m1 := m2) (m2 := m1) g1 g2 (by omega) hb ha cb ca hlb (by omega)
      have e0 : num m2 b - num m2 a = num m1 a + num m2 b := by rw [hnm' a]; omega
      rw [e0] at hp
      refine ⟨p, hp, ?_⟩
      rw [if_pos (by simpa using e2.2 hv)]
      exact e
    · obtain ⟨p, hp, e⟩ := minus_at (n := n) (m1 := m1) (m2 := m2) g1 g2 (by omega) ha hb ca cb hla (by omega)
      have e0 : num m1 a - num m1 b = num m1 a + num m2 b := by rw [hnm b]; omega
      rw [e0] at hp
      refine ⟨p, hp, ?_⟩
      rw [if_neg (by simp only [decide_eq_true_eq]; exact fun h => hv (e2.1 h))]
      exact e
end Go.Proofs.Ytokfeoifkpedgaa.W
