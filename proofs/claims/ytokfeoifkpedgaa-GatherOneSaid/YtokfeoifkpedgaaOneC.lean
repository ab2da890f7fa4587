/- Signed products. -/
import Derived.Test.YtokfeoifkpedgaaOneB
namespace Go.Proofs.Ytokfeoifkpedgaa.W
open Go.Proofs.Ytokfeoifkpedgaa.Flat
set_option linter.unusedVariables false
set_option linter.unusedSimpArgs false
theorem dg_set_same (l : List Int) (i : Nat) (v : Int) (h : i < l.length) : dg (l.set i v) i = v := by unfold dg; rw [List.getElem?_set_self h]; rfl
theorem dg_set_other (l : List Int) (i p : Nat) (v : Int) (h : ¬ p = i) : dg (l.set i v) p = dg l p := by unfold dg; rw [List.getElem?_set_ne (by omega)]
theorem val_set (l : List Int) (i : Nat) (v : Int) (h : i < l.length) : val (l.set i v) = val l + 10 ^ i * (v - dg l i) := by
  have h1 := val_parts l i (by omega)
  have h2 := val_drop l h
  have h3 := val_parts (l.set i v) i (by rw [List.length_set]; omega)
  have h4 := val_drop (l.set i v) (i := i) (by rw [List.length_set]; omega)
  rw [dg_set_same l i v h] at h4
  have e1 : (l.set i v).take i = l.take i := List.take_set_of_le (Nat.le_refl i)
  have e2 : (l.set i v).drop (i + 1) = l.drop (i + 1) := List.drop_set_of_lt (by omega)
  rw [e1, h4, e2] at h3
  rw [h2] at h1
  rw [h3, h1, Int.mul_add, Int.mul_add, Int.mul_sub]
  omega
theorem dig_set {l : List Int} (hd : Dig l) (i : Nat) {v : Int} (h0 : 0 ≤ v) (h9 : v ≤ 9) : Dig (l.set i v) := fun d h => by
  rcases List.mem_or_eq_of_mem_set h with h | h
  · exact hd d h
  · rw [h]; exact ⟨h0, h9⟩
theorem val_replicate (n : Nat) : val (List.replicate n 0) = 0 := by
  induction n with
  | zero => rfl
  | succ n ih => rw [List.replicate_succ]; simp [val, ih]
theorem times_j3 {t : Tab} {n : Nat} {m q r : Bool} {a b r2 D : List Int} {i j : Nat} {c : Int} (ha : Dig a) (hb : Dig b) (hD : Dig D) (hg : ∀ (l : List Int) (i : Nat), t.ref01_digit l (i : Int) = some (dg l i)) (hi : i < a.length) (hij : i + j < D.length) (hL : D.length ≤ 1000000) (h0 : 0 ≤ c) (h9 : c ≤ 9) :
    ref01_Num_Times_j3 t n D (i : Int) c (j : Int) m a q b r r2 = some (D.set (i + j) ((dg D (i + j) + dg a i * dg b j + c) % 10), (i : Int), (dg D (i + j) + dg a i * dg b j + c) / 10, ((j + 1 : Nat) : Int), m, a, q, b, r, r2) := by
  have hai := ha.dg i
  have hbj := hb.dg j
  have hDx := hD.dg (i + j)
  have hprod : 0 ≤ dg a i * dg b j ∧ dg a i * dg b j ≤ 81 := by
    refine ⟨Int.mul_nonneg hai.1 hbj.1, ?_⟩
    have h1 := Int.mul_le_mul hai.2 hbj.2 hbj.1 (by decide : (0 : Int) ≤ 9)
    simpa using h1
  obtain ⟨x, x1, _, _⟩ := at_ (l := D) (i := i + j) hij
  obtain ⟨y, y1, _, _⟩ := at_ (l := a) (i := i) hi
  have ex : dg D (i + j) = x := by unfold dg; rw [x1]; rfl
  have ey : dg a i = y := by unfold dg; rw [y1]; rfl
  have ew : IntKind.wrap .i64 ((i : Int) + (j : Int)) = ((i + j : Nat) : Int) := by rw [wr (by omega) (by omega)]; omega
  have e4 : IntKind.wrap .i64 ((j : Int) + 1) = ((j + 1 : Nat) : Int) := wr1 (i := j) (L := j + 1) (by omega) (by omega)
  rw [ref01_Num_Times_j3, ew, if_pos (by rw [decide_eq_true_eq]; omega), Int.toNat_natCast, x1]
  dsimp only
  rw [if_pos (by simp), Int.toNat_natCast, y1, hg]
  dsimp only
  rw [← ex, ← ey, e4]
  generalize dg a i * dg b j = P at hprod ⊢
  generalize dg D (i + j) = X at hDx ⊢
  rw [wr (x := P) (by omega) (by omega), wr (x := X + P) (by omega) (by omega), wr (x := X + P + c) (by omega) (by omega)]
  have e2 : remI .i64 (X + P + c) 10 = some ((X + P + c) % 10) := by
    unfold remI
    rw [if_neg (by omega), Int.tmod_eq_emod_of_nonneg (by omega)]
  have e3 : quoI .i64 (X + P + c) 10 = some ((X + P + c) / 10) := by
    unfold quoI
    rw [if_neg (by omega), Int.tdiv_eq_ediv_of_nonneg (by omega), wr (by omega) (by omega)]
  rw [e2, e3]
/-- One row of the product: the carry goes to place i + j. -/
theorem times_l2 {t : Tab} {n : Nat} {m q r : Bool} {a b r2 : List Int} (ha : Dig a) (hb : Dig b) (hla : a.length ≤ 100000) (hlb : b.length ≤ 100000) (hg : ∀ (l : List Int) (i : Nat), t.ref01_digit l (i : Int) = some (dg l i)) {i : Nat} (hi : i < a.length) (W : Int) :
    ∀ (d K j : Nat) (c : Int) (D : List Int), Dig D → D.length = a.length + b.length + 1 → 0 ≤ c → c ≤ 9 → (j ≤ b.length ∨ c = 0) → b.length + 1 - j = d → j ≤ b.length + 1 → d < K →
    (∀ p : Nat, i + b.length + 1 ≤ p → dg D p = 0) → (j ≤ b.length → dg D (i + b.length) = 0) → val D + 10 ^ (i + j) * (c + dg a i * val (b.drop j)) = W →
    ∃ D' z1 z2 z3, ref01_Num_Times_l2 t n K D (i : Int) c (j : Int) m a q b r r2 = some (D', (i : Int), z1, z2, z3, m, a, q, b, r, r2) ∧ Dig D' ∧ D'.length = a.length + b.length + 1 ∧ (∀ p : Nat, i + b.length + 1 ≤ p → dg D' p = 0) ∧ val D' = W := by
  intro d
  induction d with
  | zero =>
    intro K j c D hD hL hc0 hc9 hj hd hjm hk hz hzb hW
    obtain ⟨K, rfl⟩ : ∃ x, K = x + 1 := ⟨K - 1, by omega⟩
    have hc : c = 0 := by rcases hj with h | h <;> omega
    subst hc
    refine ⟨D, _, _, _, by rw [ref01_Num_Times_l2, if_neg (by simp only [decide_eq_true_eq]; omega), if_neg (by simp)], hD, hL, hz, ?_⟩
    rw [List.drop_eq_nil_of_le (by omega)] at hW
    simpa [val] using hW
  | succ d ih =>
    intro K j c D hD hL hc0 hc9 hj hd hjm hk hz hzb hW
    clear hj
    obtain ⟨K, rfl⟩ : ∃ x, K = x + 1 := ⟨K - 1, by omega⟩
    have hai := ha.dg i
    have hbj := hb.dg j
    have hDx := hD.dg (i + j)
    have hprod : 0 ≤ dg a i * dg b j ∧ dg a i * dg b j ≤ 81 := by
      refine ⟨Int.mul_nonneg hai.1 hbj.1, ?_⟩
      have h1 := Int.mul_le_mul hai.2 hbj.2 hbj.1 (by decide : (0 : Int) ≤ 9)
      simpa using h1
    obtain ⟨x, hx⟩ : ∃ x, x = dg D (i + j) + dg a i * dg b j + c := ⟨_, rfl⟩
    have hvs := val_set D (i + j) (x % 10) (by omega)
    have hlen : (D.set (i + j) (x % 10)).length = a.length + b.length + 1 := by rw [List.length_set]; exact hL
    have hdg := dig_set hD (i + j) (v := x % 10) (by omega) (by omega)
    have hrdo : ∀ p : Nat, ¬ p = i + j → dg (D.set (i + j) (x % 10)) p = dg D p := fun p hp => dg_set_other _ _ _ _ hp
    have hW' : val (D.set (i + j) (x % 10)) + 10 ^ (i + (j + 1)) * (x / 10 + dg a i * val (b.drop (j + 1))) = W := by
      have hb2 := val_drop' b j
      rw [← hW, hvs, hb2, show i + (j + 1) = (i + j) + 1 by omega, Int.pow_succ]
      have h3 : x % 10 = x - 10 * (x / 10) := by omega
      rw [h3, hx]
      generalize (10 : Int) ^ (i + j) = P
      generalize dg D (i + j) = r at *
      generalize val (List.drop (j + 1) b) = v
      generalize dg a i = s
      generalize dg b j = u
      generalize (r + s * u + c) / 10 = y
      grind
    have st := times_j3 (t := t) (n := n) (m := m) (q := q) (r := r) (r2 := r2) (j := j) ha hb hD hg hi (by omega) (by omega) hc0 hc9
    rw [← hx] at st
    have go : (j < b.length ∨ j = b.length ∧ x / 10 = 0) → ∃ D' z1 z2 z3, ref01_Num_Times_l2 t n K (D.set (i + j) (x % 10)) (i : Int) (x / 10) ((j + 1 : Nat) : Int) m a q b r r2 = some (D', (i : Int), z1, z2, z3, m, a, q, b, r, r2) ∧ Dig D' ∧ D'.length = a.length + b.length + 1 ∧ (∀ p : Nat, i + b.length + 1 ≤ p → dg D' p = 0) ∧ val D' = W := fun hj2 =>
      ih K (j + 1) (x / 10) (D.set (i + j) (x % 10)) hdg hlen (by omega) (by omega) (by omega) (by omega) (by omega) (by omega)
        (fun p hp => by rw [hrdo p (by omega)]; exact hz p hp) (fun hjb => by rw [hrdo _ (by omega)]; exact hzb (by omega)) hW'
    rw [ref01_Num_Times_l2]
    by_cases hlt : j < b.length
    · rw [if_pos (by simpa using hlt), st]
      exact go (.inl hlt)
    · have hje : j = b.length := by omega
      have hb0 : dg b j = 0 := dg_over b (by omega)
      have hD0 : dg D (i + j) = 0 := by rw [hje]; exact hzb (by omega)
      have hxc : x = c := by rw [hx, hb0, hD0]; omega
      rw [if_neg (by simpa using hlt)]
      by_cases hc : c > 0
      · rw [if_pos (by simpa using hc), st]
        exact go (.inr ⟨hje, by omega⟩)
      · have hc0' : c = 0 := by omega
        rw [if_neg (by simpa using hc)]
        refine ⟨D, _, _, _, rfl, hD, hL, hz, ?_⟩
        rw [List.drop_eq_nil_of_le (by omega), hc0'] at hW
        simpa [val] using hW
theorem times_l1 {t : Tab} {n : Nat} {m q r : Bool} {a b r2 : List Int} (ha : Dig a) (hb : Dig b) (hla : a.length ≤ 100000) (hlb : b.length ≤ 100000) (hn : b.length + 1 < n) (hg : ∀ (l : List Int) (i : Nat), t.ref01_digit l (i : Int) = some (dg l i)) :
    ∀ (e K i : Nat) (D : List Int), i + e = a.length → Dig D → D.length = a.length + b.length + 1 → (∀ p : Nat, i + b.length ≤ p → dg D p = 0) → val D = val (a.take i) * val b → e < K → ∃ D' z1 z2, ref01_Num_Times_l1 t n K D (i : Int) m a q b r r2 = some (D', z1, z2, m, a, q, b, r, r2) ∧ Dig D' ∧ D'.length = a.length + b.length + 1 ∧ val D' = val a * val b := by
  intro e
  induction e with
  | zero =>
    intro K i D he hD hL hz hv hk
    obtain ⟨K, rfl⟩ : ∃ x, K = x + 1 := ⟨K - 1, by omega⟩
    rw [List.take_of_length_le (by omega)] at hv
    exact ⟨D, _, _, by rw [ref01_Num_Times_l1, if_neg (by simp only [decide_eq_true_eq]; omega)], hD, hL, hv⟩
  | succ e ih =>
    intro K i D he hD hL hz hv hk
    obtain ⟨K, rfl⟩ : ∃ x, K = x + 1 := ⟨K - 1, by omega⟩
    have hlt : i < a.length := by omega
    obtain ⟨D', z1, z2, z3, h1, h3, h4, h5, h6⟩ := times_l2 (t := t) (n := n) (m := m) (q := q) (r := r) (r2 := r2) ha hb hla hlb hg hlt (val D + 10 ^ (i + 0) * (0 + dg a i * val (b.drop 0))) (b.length + 1) n 0 0 D hD hL (by omega) (by omega) (by omega) (by omega) (by omega) (by omega)
      (fun p hp => hz p (by omega)) (fun _ => hz _ (by omega)) rfl
    have hv' : val D' = val (a.take (i + 1)) * val b := by
      rw [h6, hv, val_next a i, List.drop_zero, Nat.add_zero, Int.zero_add, Int.add_mul, Int.mul_assoc]
    obtain ⟨D2, z4, z5, g1, g2⟩ := ih K (i + 1) D' (by omega) h3 h4 (fun p hp => h5 p (by omega)) hv' (by omega)
    refine ⟨D2, z4, z5, ?_, g2⟩
    rw [show ((0 : Nat) : Int) = 0 from rfl] at h1
    rw [ref01_Num_Times_l1, if_pos (by simpa using hlt), h1]
    dsimp only
    rw [wr1 (i := i) (L := a.length) (by omega) (by omega)]
    exact g1
theorem num_mul (m q : Bool) (a b D : List Int) (h : val D = val a * val b) : num (!(m == q)) D = num m a * num q b := by
  unfold num
  cases m <;> cases q <;> simp [h, Int.neg_mul, Int.mul_neg]
theorem timesS_evs : Ev fun n => ∀ (x y : Int) (p q : GNum), IsNum x p → IsNum y q → lenN p ≤ 400 → lenN q ≤ 400 → ∃ r, IsNum (x * y) r ∧ (tab n).ref01_Num_Times p q = some r := by
  refine Ev.step (((digit_evs.and trimS_evs).and (Ev.ge 900)).mono fun n hh x y p q hp hq hla hlb => ?_)
  obtain ⟨⟨g1, g2⟩, g4⟩ := hh
  obtain ⟨m, a⟩ := p
  obtain ⟨q, b⟩ := q
  obtain ⟨ha, ca, rfl⟩ := hp
  obtain ⟨hb, cb, rfl⟩ := hq
  simp only [lenN] at hla hlb
  have e : IntKind.wrap .i64 (IntKind.wrap .i64 ((a.length : Int) + (b.length : Int)) + 1) = ((a.length + b.length + 1 : Nat) : Int) := by
    rw [wr (x := (a.length : Int) + (b.length : Int)) (by omega) (by omega), wr (by omega) (by omega)]
    omega
  obtain ⟨D', z1, z2, h1, h2, h3, h4⟩ := times_l1 (t := tab n) (n := n) (m := m) (q := q) (r := false) (r2 := []) ha hb (by omega) (by omega) (by omega) g1 a.length n 0 (List.replicate (a.length + b.length + 1) (0 : Int)) (by omega) (fun d h => by rw [(List.mem_replicate.mp h).2]; omega) (by simp) (fun p hp => by unfold dg; rw [List.getElem?_replicate]; split <;> rfl) (by rw [val_replicate]; simp [val]) (by omega)
  obtain ⟨p, hp, e2⟩ := g2 (!(m == q)) D' h2 (by omega)
  rw [num_mul m q a b D' h4] at hp
  refine ⟨p, hp, ?_⟩
  rw [show ((0 : Nat) : Int) = 0 from rfl] at h1
  rw [tab_ref01_Num_Times, ref01_Num_Times, e, if_pos (by rw [decide_eq_true_eq]; omega), Int.toNat_natCast, h1]
  dsimp only
  rw [ref01_Num_Times_j4, e2]
end Go.Proofs.Ytokfeoifkpedgaa.W
