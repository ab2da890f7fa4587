/- Two values compared, by the program. -/
import Derived.Test.YtokfeoifkpedgaaOneD
import Derived.Test.YtokfeoifkpedgaaGatD
namespace Go.Proofs.Ytokfeoifkpedgaa.W
open Go.Proofs.Ytokfeoifkpedgaa.Flat
set_option linter.unusedVariables false
set_option linter.unusedSimpArgs false
theorem or_l {t : Tab} {n : Nat} {l : List Int} (hl : l.length ≤ 1000) : ∀ (d i k : Nat), i + d = l.length → d < k → ∃ z, (cmp_Or_int_l1 t n k 0 l (l.length : Int) (i : Int) = some (.inr (0, z)) ∧ (l.drop i).foldr or2 0 = 0) ∨ cmp_Or_int_l1 t n k 0 l (l.length : Int) (i : Int) = some (.inl ((l.drop i).foldr or2 0))
  | 0, i, k, hi, hk => by
    obtain ⟨k, rfl⟩ : ∃ j, k = j + 1 := ⟨k - 1, by omega⟩
    refine ⟨_, .inl ⟨by rw [cmp_Or_int_l1, if_neg (by simp; omega)], ?_⟩⟩
    rw [List.drop_of_length_le (by omega)]
    rfl
  | d + 1, i, k, hi, hk => by
    obtain ⟨k, rfl⟩ : ∃ j, k = j + 1 := ⟨k - 1, by omega⟩
    obtain ⟨x, x1, x3, x2⟩ := at_ (l := l) (i := i) (by omega)
    obtain ⟨z, ih⟩ := or_l (t := t) (n := n) hl d (i + 1) k (by omega) (by omega)
    rw [cmp_Or_int_l1, if_pos (by simp; omega), if_pos (by simp), Int.toNat_natCast, x1]
    simp only
    rw [wr1 (i := i) (L := l.length) (by omega) (by omega), x2, List.foldr_cons, or2]
    by_cases h : x = 0
    · rw [if_neg (by simpa using h), if_neg (by simpa using h)]
      exact ⟨z, ih⟩
    · rw [if_pos (by simpa using h), if_pos (by simpa using h)]
      exact ⟨z, .inr rfl⟩
theorem or_at {t : Tab} {n : Nat} {l : List Int} (hl : l.length ≤ 1000) (hn : l.length < n) : cmp_Or_int t n l = some (l.foldr or2 0) := by
  unfold cmp_Or_int
  obtain ⟨z, h⟩ := or_l (t := t) (n := n) hl l.length 0 n (by omega) hn
  rw [show ((0 : Nat) : Int) = 0 from rfl, List.drop_zero] at h
  rcases h with ⟨h, g⟩ | h
  · simp only [h, g]
  · simp only [h]
theorem or_evs : Ev fun n => ∀ l : List Int, l.length ≤ 3 → (tab n).cmp_Or_int l = some (l.foldr or2 0) :=
  Ev.step ((Ev.ge 4).mono fun n hn l hl => or_at (by omega) (by omega))
theorem nan_evs : Ev fun n => ∀ a : Int, (tab n).cmp_isNaN_int a = some false :=
  Ev.step (Ev.pure fun n a => by show cmp_isNaN_int (tab n) n a = _; simp [cmp_isNaN_int])
theorem comp_evs : Ev fun n => ∀ a b : Int, (tab n).cmp_Compare_int a b = some (sg a b) :=
  Ev.step (nan_evs.mono fun n h a b => by
    show cmp_Compare_int (tab n) n a b = _
    simp only [cmp_Compare_int, h, sg]
    by_cases h1 : a < b
    · simp [h1]
    · by_cases h2 : a > b
      · simp [h1, h2]
      · simp [h1, h2])
theorem scomp_evs : Ev fun n => ∀ a b : ByteArray, (tab n).strings_Compare a b = some (cmpS a b) :=
  Ev.step (Ev.step (Ev.pure fun n a b => rfl))
theorem cf_l {t : Tab} {n : Nat} {a b : List GValue} {f : GValue → GValue → Int} {dp : Int} (H : ∀ x ∈ a, ∀ y ∈ b, t.value_compare_1 x y dp = some (f x y)) (ha : a.length ≤ 1759218604391) : ∀ (d i k : Nat), i + d = a.length → d < k → (slices_CompareFunc_value_compare_1_l1 t n k a b dp a (a.length : Int) (i : Int) = some (.inl (cmpL f (a.drop i) (b.drop i)))) ∨ (∃ z, slices_CompareFunc_value_compare_1_l1 t n k a b dp a (a.length : Int) (i : Int) = some (.inr (a, b, z)) ∧ cmpL f (a.drop i) (b.drop i) = if a.length < b.length then -1 else 0)
  | 0, i, k, hi, hk => by
    obtain ⟨k, rfl⟩ : ∃ j, k = j + 1 := ⟨k - 1, by omega⟩
    right
    refine ⟨_, by rw [slices_CompareFunc_value_compare_1_l1, if_neg (by simp; omega)], ?_⟩
    rw [List.drop_of_length_le (l := a) (by omega)]
    by_cases h2 : i < b.length
    · obtain ⟨x, _, _, e⟩ := at_ (l := b) (i := i) (by omega)
      rw [e, cmpL, if_pos (by omega)]
    · rw [List.drop_of_length_le (l := b) (by omega), cmpL, if_neg (by omega)]
  | d + 1, i, k, hi, hk => by
    obtain ⟨k, rfl⟩ : ∃ j, k = j + 1 := ⟨k - 1, by omega⟩
    obtain ⟨x, x1, x3, x2⟩ := at_ (l := a) (i := i) (by omega)
    have ih := cf_l (n := n) H ha d (i + 1) k (by omega) (by omega)
    rw [slices_CompareFunc_value_compare_1_l1, if_pos (by simp; omega), if_pos (by simp), Int.toNat_natCast, x1, x2]
    by_cases hb : i < b.length
    · obtain ⟨y, y1, y3, y2⟩ := at_ (l := b) (i := i) hb
      have hxy := H x x3 y y3
      rw [y1, y2, cmpL, or2]
      generalize f x y = q at hxy ⊢
      cases x
      cases y
      simp only [hxy]
      rw [if_neg (by simp; omega), wr1 (i := i) (L := a.length) (by omega) (by omega)]
      by_cases h : q = 0
      · rw [if_neg (by simpa using h), if_neg (by simpa using h)]
        exact ih
      · left
        rw [if_pos (by simpa using h), if_pos (by simpa using h)]
    · left
      rw [List.drop_of_length_le (l := b) (by omega), cmpL]
      cases x
      simp only
      rw [if_pos (by simp; omega)]
theorem cf_ev {a b : List GValue} {f : GValue → GValue → Int} {dp : Int} (H : ∀ x ∈ a, ∀ y ∈ b, Ev fun n => (tab n).value_compare_1 x y dp = some (f x y)) (ha : a.length ≤ 1759218604391) : Ev fun n => (tab n).slices_CompareFunc_value_compare_1 a b dp = some (cmpL f a b) := by
  refine Ev.step (((Ev.all2 a b H).and (Ev.ge (a.length + 1))).mono fun n hh => ?_)
  show slices_CompareFunc_value_compare_1 (tab n) n a b dp = _
  unfold slices_CompareFunc_value_compare_1
  rcases cf_l (n := n) hh.1 ha a.length 0 n (by omega) (by omega) with h | ⟨z, h, g⟩
  · rw [show ((0 : Nat) : Int) = 0 from rfl] at h
    simp only [h, List.drop_zero]
  · obtain ⟨z1, z2, z3, z4, z5⟩ := z
    rw [show ((0 : Nat) : Int) = 0 from rfl] at h
    simp only [List.drop_zero] at g
    simp only [h, slices_CompareFunc_value_compare_1_j2, g]
    by_cases hb : a.length < b.length
    · simp [hb]
    · simp [hb]
theorem valcmp_ev : ∀ (f : Nat), f ≤ 12 → ∀ a b, VIn a → VIn b → Ev fun n => (tab n).value_compare a b (13 - (f : Int)) = some (cmpV f a b)
  | 0, hf, .mk k1 n1 s1 l1 m1, .mk k2 n2 s2 l2 m2, .mk ha _ _ _ _, .mk _ _ _ _ _ => by
    refine Ev.step ((comp_evs.and (scomp_evs.and or_evs)).mono fun n hh => ?_)
    obtain ⟨h1, h2, h3⟩ := hh
    rw [tab_value_compare]
    simp only [value_compare, h1, h2, h3 [_, _, _] (by simp), cmpV, hd3, List.foldr_cons, List.foldr_nil]
    have e : or2 (cmpS s1 s2) 0 = cmpS s1 s2 := by unfold or2; split <;> omega
    rw [e]
    split
    · rfl
    · rw [if_pos (by simp)]
  | f + 1, hf, .mk k1 n1 s1 l1 m1, .mk k2 n2 s2 l2 m2, .mk ha hl hm al am, .mk _ _ _ bl bm => by
    have H : ∀ x y, VIn x → VIn y → Ev fun n => (tab n).value_compare_1 x y (13 - ((f + 1 : Nat) : Int)) = some (cmpV f x y) := by
      intro x y hx hy
      refine Ev.step ((valcmp_ev f (by omega) x y hx hy).mono fun n h => ?_)
      rw [tab_value_compare_1]
      cases x
      cases y
      have ed : IntKind.wrap .i64 ((13 - ((f + 1 : Nat) : Int)) + 1) = 13 - (f : Int) := by
        rw [wr (by omega) (by omega)]
        omega
      simp only [value_compare_1, ed, h]
    have r1 := cf_ev (a := l1) (b := l2) (f := cmpV f) (dp := 13 - ((f + 1 : Nat) : Int)) (fun x hx y hy => H x y (al x hx) (bl y hy)) hl
    have r2 := cf_ev (a := m1) (b := m2) (f := cmpV f) (dp := 13 - ((f + 1 : Nat) : Int)) (fun x hx y hy => H x y (am x hx) (bm y hy)) hm
    refine Ev.step (((comp_evs.and (scomp_evs.and or_evs)).and (r1.and r2)).mono fun n hh => ?_)
    obtain ⟨⟨h1, h2, h3⟩, h4, h5⟩ := hh
    have hd : ¬ (13 - ((f + 1 : Nat) : Int)) > 12 := by omega
    rw [tab_value_compare]
    have e : ∀ x, or2 x 0 = x := fun x => by unfold or2; split <;> omega
    simp only [value_compare, h1, h2, h3 [_, _, _] (by simp), h3 [_, _] (by simp), cmpV, hd3, List.foldr_cons, List.foldr_nil, e, value_compare_j1, h4, h5, hd]
    generalize or2 (sg k1 k2) (or2 (sg n1 n2) (cmpS s1 s2)) = q
    by_cases g : q = 0
    · subst g
      simp [or2]
    · rw [if_pos (by simpa using g), or2, if_pos g]
theorem valCmp_ev {a b : GValue} (ha : VIn a) (hb : VIn b) : Ev fun n => (tab n).value_Cmp a b = some (cmp a b) :=
  Ev.step ((valcmp_ev 12 (by omega) a b ha hb).mono fun n h => by
    show value_Cmp (tab n) n a b = _
    cases a
    cases b
    exact h)
end Go.Proofs.Ytokfeoifkpedgaa.W
