/- The document's sum of numbers that are not below 0. -/
import Derived.Test.YtokfeoifkpedgaaGatA
namespace Go.Proofs.Ytokfeoifkpedgaa.W
open Go.Proofs.Ytokfeoifkpedgaa.Flat
set_option linter.unusedVariables false
set_option linter.unusedSimpArgs false
theorem val_drop' (l : List Int) (i : Nat) : val (l.drop i) = dg l i + 10 * val (l.drop (i + 1)) := by
  by_cases h : i < l.length
  · exact val_drop l h
  · rw [List.drop_of_length_le (by omega), List.drop_of_length_le (by omega)]
    unfold dg
    rw [List.getElem?_eq_none (by omega)]
    rfl
theorem dg_over (l : List Int) {i : Nat} (h : l.length ≤ i) : dg l i = 0 := by
  unfold dg
  rw [List.getElem?_eq_none h]
  rfl
def plD (a b : List Int) : Nat → Nat → Int → List Int
  | 0, _, _ => []
  | d + 1, i, c => if i < a.length ∨ i < b.length ∨ 0 < c then (dg a i + dg b i + c) % 10 :: plD a b d (i + 1) ((dg a i + dg b i + c) / 10) else []
theorem plD_ok {a b : List Int} (ha : Dig a) (hb : Dig b) : ∀ (d i : Nat) (c : Int), 0 ≤ c → c ≤ 1 → i + d = max a.length b.length + 1 → (d = 0 → c = 0) → Dig (plD a b d i c) ∧ val (plD a b d i c) = val (a.drop i) + val (b.drop i) + c ∧ (plD a b d i c).length ≤ d
  | 0, i, c, h0, h1, hi, hc => by
    rw [plD, List.drop_of_length_le (l := a) (by omega), List.drop_of_length_le (l := b) (by omega), hc rfl]
    exact ⟨fun x hx => (by cases hx), rfl, Nat.le_refl _⟩
  | d + 1, i, c, h0, h1, hi, hc => by
    have da := ha.dg i
    have db := hb.dg i
    rw [plD]
    split
    · obtain ⟨p1, p2, p3⟩ := plD_ok ha hb d (i + 1) ((dg a i + dg b i + c) / 10) (by omega) (by omega) (by omega) (fun hd => by
        rw [dg_over a (by omega), dg_over b (by omega)]
        omega)
      refine ⟨fun x hx => ?_, ?_, by simpa using p3⟩
      · rcases List.mem_cons.1 hx with rfl | hx
        · omega
        · exact p1 x hx
      · rw [val, p2, val_drop' a i, val_drop' b i]
        omega
    · rename_i h
      rw [List.drop_of_length_le (l := a) (by omega), List.drop_of_length_le (l := b) (by omega)]
      exact ⟨fun x hx => (by cases hx), by simp [val]; omega, by simp⟩
theorem plus_l {t : Tab} {n : Nat} {m1 m2 q : Bool} {a b q2 : List Int} (ha : Dig a) (hb : Dig b) (hl : max a.length b.length ≤ 1000000) (hD : ∀ (l : List Int) (i : Nat), t.ref01_digit l (i : Int) = some (dg l i)) : ∀ (d K i : Nat) (c : Int) (acc : List Int), acc.length = i → 0 ≤ c → c ≤ 1 → i + d = max a.length b.length + 1 → (d = 0 → c = 0) → d < K → ∃ z1 z2 z3, ref01_Num_Plus_l1 t n K acc c (i : Int) m1 a m2 b q q2 = some (acc ++ plD a b d i c, z1, z2, z3, m1, a, m2, b, q, q2)
  | 0, K, i, c, acc, he, h0, h1, hi, hc, hk => by
    obtain ⟨K, rfl⟩ : ∃ j, K = j + 1 := ⟨K - 1, by omega⟩
    refine ⟨c, (i : Int), decide (c > 0), ?_⟩
    have := hc rfl
    rw [ref01_Num_Plus_l1, if_neg (by simp only [decide_eq_true_eq]; omega), if_neg (by simp only [decide_eq_true_eq]; omega), if_neg (by simp only [decide_eq_true_eq]; omega), plD, List.append_nil]
  | d + 1, K, i, c, acc, he, h0, h1, hi, hc, hk => by
    obtain ⟨K, rfl⟩ : ∃ j, K = j + 1 := ⟨K - 1, by omega⟩
    have da := ha.dg i
    have db := hb.dg i
    by_cases h : i < a.length ∨ i < b.length ∨ 0 < c
    · have hnext : (d = 0 → (dg a i + dg b i + c) / 10 = 0) := fun hd => by
        rw [dg_over a (by omega), dg_over b (by omega)]
        omega
      have e1 : IntKind.wrap .i64 (IntKind.wrap .i64 (dg a i + dg b i) + c) = dg a i + dg b i + c := by
        rw [wr (x := dg a i + dg b i) (by omega) (by omega), wr (by omega) (by omega)]
      have e2 : remI .i64 (dg a i + dg b i + c) 10 = some ((dg a i + dg b i + c) % 10) := by
        unfold remI
        rw [if_neg (by omega), Int.tmod_eq_emod_of_nonneg (by omega)]
      have e3 : quoI .i64 (dg a i + dg b i + c) 10 = some ((dg a i + dg b i + c) / 10) := by
        unfold quoI
        rw [if_neg (by omega), Int.tdiv_eq_ediv_of_nonneg (by omega), wr (by omega) (by omega)]
      have e4 : IntKind.wrap .i64 ((i : Int) + 1) = ((i + 1 : Nat) : Int) := wr1 (i := i) (L := i + 1) (by omega) (by omega)
      obtain ⟨z1, z2, z3, ih⟩ := plus_l (t := t) (n := n) (m1 := m1) (m2 := m2) (q := q) (q2 := q2) ha hb hl hD d K (i + 1) ((dg a i + dg b i + c) / 10) (acc ++ [(dg a i + dg b i + c) % 10]) (by simp; omega) (by omega) (by omega) (by omega) hnext (by omega)
      refine ⟨z1, z2, z3, ?_⟩
      have ej : ref01_Num_Plus_j2 t n acc c (i : Int) m1 a m2 b q q2 = some (acc ++ [(dg a i + dg b i + c) % 10], (dg a i + dg b i + c) / 10, ((i + 1 : Nat) : Int), m1, a, m2, b, q, q2) := by
        rw [ref01_Num_Plus_j2, hD, hD]
        dsimp only
        rw [e1, e2]
        dsimp only
        rw [if_pos (by simp; omega), e3, e4]
      rw [plD, if_pos h]
      have ea : acc ++ (dg a i + dg b i + c) % 10 :: plD a b d (i + 1) ((dg a i + dg b i + c) / 10) = (acc ++ [(dg a i + dg b i + c) % 10]) ++ plD a b d (i + 1) ((dg a i + dg b i + c) / 10) := by simp
      rw [ea, ← ih, ref01_Num_Plus_l1]
      by_cases c1 : i < a.length
      · rw [if_pos (by simpa using c1), ej]
      · rw [if_neg (by simpa using c1)]
        by_cases c2 : i < b.length
        · rw [if_pos (by simpa using c2), ej]
        · rw [if_neg (by simpa using c2), if_pos (by simp only [decide_eq_true_eq]; omega), ej]
    · refine ⟨c, (i : Int), decide (c > 0), ?_⟩
      rw [ref01_Num_Plus_l1, if_neg (by simp only [decide_eq_true_eq]; omega), if_neg (by simp only [decide_eq_true_eq]; omega), if_neg (by simp only [decide_eq_true_eq]; omega), plD, if_neg h, List.append_nil]
def plusL (a b : List Int) : List Int := trm (plD a b (max a.length b.length + 1) 0 0)
theorem plusL_ok {a b : List Int} (ha : Dig a) (hb : Dig b) : Dig (plusL a b) ∧ val (plusL a b) = val a + val b ∧ (plusL a b).length ≤ max a.length b.length + 1 := by
  obtain ⟨h1, h2, h3⟩ := plD_ok ha hb (max a.length b.length + 1) 0 0 (by omega) (by omega) (by omega) (by omega)
  refine ⟨trm_dig h1, by rw [plusL, trm_val, h2]; simp, ?_⟩
  have := trm_len (plD a b (max a.length b.length + 1) 0 0)
  unfold plusL
  omega
theorem plus_ev {a b : List Int} (ha : Dig a) (hb : Dig b) (hl : max a.length b.length ≤ 1000000) : Ev fun n => (tab n).ref01_Num_Plus (.mk false a) (.mk false b) = some (.mk false (plusL a b)) := by
  obtain ⟨h1, h2, h3⟩ := plD_ok ha hb (max a.length b.length + 1) 0 0 (by omega) (by omega) (by omega) (by omega)
  refine Ev.step ((digit_evs.and ((trim_ev (l := plD a b (max a.length b.length + 1) 0 0) (by omega)).and (Ev.ge (max a.length b.length + 2)))).mono fun n hh => ?_)
  obtain ⟨g1, g2, g3⟩ := hh
  obtain ⟨z1, z2, z3, e⟩ := plus_l (t := tab n) (n := n) (m1 := false) (m2 := false) (q := false) (q2 := []) ha hb hl g1 (max a.length b.length + 1) n 0 0 [] rfl (by omega) (by omega) (by omega) (by omega) (by omega)
  rw [show ((0 : Nat) : Int) = 0 from rfl, List.nil_append] at e
  rw [tab_ref01_Num_Plus, ref01_Num_Plus, if_pos (by rfl), e]
  simp only [ref01_Num_Plus_j3, g2, plusL]
theorem val_ge {l : List Int} (h : Dig l) : ∀ i, val (l.drop i) ≤ val l
  | 0 => by rw [List.drop_zero]; exact Int.le_refl _
  | i + 1 => by
    have h1 := val_ge h i
    have h2 := val_drop' l i
    have h3 := h.dg i
    have h4 := val_nonneg (h.drop (i + 1))
    omega
theorem int_l {t : Tab} {n : Nat} {l : List Int} (hd : Dig l) (hl : l.length ≤ 140737488355328) : ∀ (i K : Nat) (x : Int), i ≤ l.length → i < K → x = -val (l.drop i) → -9223372036854775808 ≤ x → (ref01_Num_Int_l1 t n K x ((i : Int) - 1) false l = some (.inl (0, false)) ∧ 9223372036854775808 < val l) ∨ (∃ z1 z2, ref01_Num_Int_l1 t n K x ((i : Int) - 1) false l = some (.inr (-val l, z1, z2, false, l)) ∧ val l ≤ 9223372036854775808)
  | 0, K, x, hi, hk, hx, h6 => by
    obtain ⟨K, rfl⟩ : ∃ j, K = j + 1 := ⟨K - 1, by omega⟩
    rw [List.drop_zero] at hx
    refine .inr ⟨((0 : Nat) : Int) - 1, decide (((0 : Nat) : Int) - 1 ≥ 0), ?_, by omega⟩
    rw [ref01_Num_Int_l1, if_neg (by simp), hx]
  | i + 1, K, x, hi, hk, hx, h6 => by
    obtain ⟨K, rfl⟩ : ∃ j, K = j + 1 := ⟨K - 1, by omega⟩
    obtain ⟨y, y1, y3, y2⟩ := at_ (l := l) (i := i) (by omega)
    have ey : dg l i = y := by unfold dg; rw [y1]; rfl
    have hv := val_drop' l i
    have hy := hd.dg i
    rw [ey] at hv hy
    have hg := val_ge hd i
    have hn := val_nonneg (hd.drop (i + 1))
    have e1 : ((i + 1 : Nat) : Int) - 1 = (i : Int) := by omega
    have e2 : IntKind.wrap .i64 ((i : Int) - 1) = (i : Int) - 1 := wr (by omega) (by omega)
    rw [e1, ref01_Num_Int_l1, if_pos (by simp only [decide_eq_true_eq]; omega)]
    by_cases h1 : x < -922337203685477580
    · rw [if_pos (by simpa using h1)]
      exact .inl ⟨rfl, by omega⟩
    · rw [if_neg (by simpa using h1)]
      have go : -9223372036854775808 ≤ x * 10 - y → ref01_Num_Int_j2 t n x (i : Int) false l = some (x * 10 - y, (i : Int), false, l) := fun h => by
        rw [ref01_Num_Int_j2, if_pos (by simp), Int.toNat_natCast, y1]
        dsimp only
        rw [wr (x := x * 10) (by omega) (by omega), wr (by omega) (by omega)]
      have ih := fun h => int_l (t := t) (n := n) hd hl i K (x * 10 - y) (by omega) (by omega) (by omega) h
      by_cases h2 : x = -922337203685477580
      · rw [if_pos (by simpa using h2), if_pos (by simp), Int.toNat_natCast, y1]
        dsimp only
        by_cases h3 : y > 8
        · rw [if_pos (by simpa using h3)]
          exact .inl ⟨rfl, by omega⟩
        · rw [if_neg (by simpa using h3), go (by omega)]
          dsimp only
          rw [e2]
          exact ih (by omega)
      · rw [if_neg (by simpa using h2), go (by omega)]
        dsimp only
        rw [e2]
        exact ih (by omega)
def fitI (v : Int) : Int × Bool := if v ≤ 9223372036854775807 then (v, true) else (0, false)
theorem int_ev {l : List Int} (hd : Dig l) (hl : l.length ≤ 140737488355328) : Ev fun n => (tab n).ref01_Num_Int (.mk false l) = some (fitI (val l)) := by
  refine Ev.step ((Ev.ge (l.length + 1)).mono fun n hn => ?_)
  have e := int_l (t := tab n) (n := n) hd hl l.length n 0 (Nat.le_refl _) (by omega) (by rw [List.drop_length]; rfl) (by omega)
  have ew : IntKind.wrap .i64 ((l.length : Int) - 1) = (l.length : Int) - 1 := wr (by omega) (by omega)
  rw [tab_ref01_Num_Int, ref01_Num_Int, ew]
  have h0 := val_nonneg hd
  rcases e with ⟨e, h⟩ | ⟨z1, z2, e, h⟩
  · rw [e, fitI, if_neg (by omega)]
  · rw [e]
    dsimp only
    rw [ref01_Num_Int_j3, if_neg (by simp)]
    by_cases h9 : val l = 9223372036854775808
    · rw [if_pos (by rw [h9]; rfl), fitI, if_neg (by omega)]
    · rw [if_neg (by simp only [beq_iff_eq]; omega), fitI, if_pos (by omega), wr (by omega) (by omega)]
      have : 0 - -val l = val l := by omega
      rw [this]
theorem told_ev {l : List Int} (hd : Dig l) (hl : l.length ≤ 140737488355328) : Ev fun n => (tab n).ref01_told (.mk false l) = some (if val l ≤ 9223372036854775807 then (val l, 0) else (0, 10)) :=
  Ev.step ((int_ev hd hl).mono fun n h => by
    rw [tab_ref01_told, ref01_told, h, fitI]
    by_cases hq : val l ≤ 9223372036854775807
    · rw [if_pos hq, if_pos hq]
      rfl
    · rw [if_neg hq, if_neg hq]
      rfl)
/-- The sum of two, or that it has no room. -/
theorem add2_ev {x y : Int} (hx : 0 ≤ x) (hx1 : x ≤ 9223372036854775807) (hy : 0 ≤ y) (hy1 : y ≤ 9223372036854775807) : Ev fun n => (tab n).ref01_Add [x, y] = some (if x + y ≤ 9223372036854775807 then (x + y, 0) else (0, 10)) := by
  obtain ⟨a1, a2, a3⟩ := ofN_ok hx hx1
  obtain ⟨b1, b2, b3⟩ := ofN_ok hy hy1
  have dn : Dig [] := fun d h => (by cases h)
  obtain ⟨c1, c2, c3⟩ := plusL_ok dn a1
  obtain ⟨d1, d2, d3⟩ := plusL_ok c1 b1
  simp only [List.length_nil] at c3
  have p1 := plus_ev dn a1 (by simp only [List.length_nil]; omega)
  have p2 := plus_ev c1 b1 (by omega)
  have i1 := int_ev c1 (by omega)
  have i2 := int_ev d1 (by omega)
  have i3 := told_ev d1 (by omega)
  refine Ev.step ((((of_ev hx hx1).and (of_ev hy hy1)).and ((p1.and p2).and ((i1.and i2).and (i3.and (Ev.ge 4))))).mono fun n hh => ?_)
  obtain ⟨⟨g1, g2⟩, ⟨g3, g4⟩, ⟨g5, g6⟩, g7, g8⟩ := hh
  obtain ⟨n, rfl⟩ : ∃ j, n = j + 4 := ⟨n - 4, by omega⟩
  rw [tab_ref01_Add, ref01_Add]
  have e0 : IntKind.wrap .i64 ((0 : Int) + 1) = 1 := wr (by omega) (by omega)
  have e1 : IntKind.wrap .i64 ((1 : Int) + 1) = 2 := wr (by omega) (by omega)
  have f1 : fitI (val (plusL [] (ofN x))) = (x, true) := by
    rw [c2, a2]
    have : val ([] : List Int) + x = x := by rw [val]; omega
    rw [this, fitI, if_pos hx1]
  have f2 : val (plusL (plusL [] (ofN x)) (ofN y)) = x + y := by
    rw [d2, c2, a2, b2, val]
    omega
  rw [f1] at g5
  rw [f2] at g6 g7
  rw [fitI] at g6
  have s1 : ref01_Add_l1 (tab (n + 4)) (n + 4) (n + 4) [x, y] 0 false [] = ref01_Add_l1 (tab (n + 4)) (n + 4) (n + 3) [x, y] 1 false (plusL [] (ofN x)) := by
    conv => lhs; rw [ref01_Add_l1]
    rw [if_pos (by simp), if_pos (by simp)]
    simp only [Int.toNat_zero, List.getElem?_cons_zero, g1, g3, g5, if_true, e0]
  rw [s1]
  by_cases h : x + y ≤ 9223372036854775807
  · rw [if_pos h] at g6 g7 ⊢
    have s2 : ref01_Add_l1 (tab (n + 4)) (n + 4) (n + 3) [x, y] 1 false (plusL [] (ofN x)) = some (.inr ([x, y], 2, false, false, plusL (plusL [] (ofN x)) (ofN y))) := by
      rw [ref01_Add_l1, if_pos (by simp), if_pos (by simp)]
      simp only [show (1 : Int).toNat = 1 from rfl, List.getElem?_cons_succ, List.getElem?_cons_zero, g2, g4, g6, if_true, e1]
      rw [ref01_Add_l1, if_neg (by simp)]
      simp
    rw [s2]
    simp only [ref01_Add_j2, g7]
  · rw [if_neg h] at g6 g7 ⊢
    have s2 : ref01_Add_l1 (tab (n + 4)) (n + 4) (n + 3) [x, y] 1 false (plusL [] (ofN x)) = some (.inl (0, 10)) := by
      rw [ref01_Add_l1, if_pos (by simp), if_pos (by simp)]
      simp only [show (1 : Int).toNat = 1 from rfl, List.getElem?_cons_succ, List.getElem?_cons_zero, g2, g4, g6]
      rfl
    rw [s2]
end Go.Proofs.Ytokfeoifkpedgaa.W
