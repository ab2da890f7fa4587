/- The program's own sum; copies. -/
import Derived.Test.YtokfeoifkpedgaaGatD
namespace Go.Proofs.Ytokfeoifkpedgaa.W
open Go.Proofs.Ytokfeoifkpedgaa.Flat
set_option linter.unusedVariables false
set_option linter.unusedSimpArgs false
theorem nOf_pos {l : List GMany} (hb : bad l = false) {x : GMany} (h : x ∈ l) : 1 ≤ nOf x := by
  rw [bad, List.any_eq_false] at hb
  have := hb x h
  simp at this
  omega
theorem iadd_evs : Ev fun n => ∀ (x y : Int), 0 ≤ x → x ≤ 9223372036854775807 → 1 ≤ y → y ≤ 9223372036854775807 → ∃ z, (tab n).ints_add x y = some (z, decide (x + y ≤ 9223372036854775807)) ∧ (x + y ≤ 9223372036854775807 → z = x + y) :=
  Ev.step (Ev.pure fun n x y h1 h2 h3 h4 => by
    rw [tab_ints_add, ints_add]
    refine ⟨_, congrArg some (congrArg (Prod.mk _) ?_), fun h => wr (by omega) (by omega)⟩
    by_cases h : x + y ≤ 9223372036854775807
    · rw [wr (by omega) (by omega), decide_eq_true h, decide_eq_true (show x + y > x by omega), decide_eq_true (show y > 0 by omega)]
      rfl
    · have e : IntKind.wrap .i64 (x + y) = x + y - 18446744073709551616 := by
        rw [IntKind.wrap_i64]
        omega
      rw [e, decide_eq_false h, decide_eq_false (show ¬ x + y - 18446744073709551616 > x by omega), decide_eq_true (show y > 0 by omega)]
      rfl)
theorem iadd_l {t : Tab} {n : Nat} {l : List GMany} (hl : N64 l) (hb : bad l = false) (H : ∀ (x y : Int), 0 ≤ x → x ≤ 9223372036854775807 → 1 ≤ y → y ≤ 9223372036854775807 → ∃ z, t.ints_add x y = some (z, decide (x + y ≤ 9223372036854775807)) ∧ (x + y ≤ 9223372036854775807 → z = x + y)) : ∀ (d i K : Nat), i + d = l.length → d < K → pre l i ≤ 9223372036854775807 → (9223372036854775807 < sumN l ∧ ints_Add_l1 t n K (pre l i) (l.map nOf) (l.length : Int) (i : Int) = some (.inl (0, 10))) ∨ (sumN l ≤ 9223372036854775807 ∧ ∃ z, ints_Add_l1 t n K (pre l i) (l.map nOf) (l.length : Int) (i : Int) = some (.inr (sumN l, z)))
  | 0, i, K, hi, hk, hp => by
    obtain ⟨K, rfl⟩ : ∃ j, K = j + 1 := ⟨K - 1, by omega⟩
    have e : pre l i = sumN l := by
      unfold pre
      rw [List.drop_of_length_le (by omega), sumN]
      omega
    rw [e] at hp ⊢
    exact .inr ⟨hp, _, by rw [ints_Add_l1, if_neg (by simp only [decide_eq_true_eq]; omega)]⟩
  | d + 1, i, K, hi, hk, hp => by
    obtain ⟨K, rfl⟩ : ∃ j, K = j + 1 := ⟨K - 1, by omega⟩
    obtain ⟨x, x1, x3, x2⟩ := at_ (l := l) (i := i) (by omega)
    have es := sumN_take l x2
    have ep : pre l i + nOf x = pre l (i + 1) := by unfold pre; omega
    have hn := sumN_nonneg (bad_drop hb (i + 1))
    obtain ⟨z, hz, hz2⟩ := H (pre l i) (nOf x) (pre_nonneg hb i) hp (nOf_pos hb x3) (hl.2 x x3)
    rw [ep] at hz hz2
    have ih := iadd_l (n := n) hl hb H d (i + 1) K (by omega) (by omega)
    have xm : (l.map nOf)[i]? = some (nOf x) := by rw [List.getElem?_map, x1]; rfl
    rw [ints_Add_l1, if_pos (by simp only [decide_eq_true_eq]; omega), if_pos (by simp), Int.toNat_natCast, xm, wr1 (i := i) (L := l.length) (by omega) hl.1]
    simp only [hz]
    by_cases hm : pre l (i + 1) ≤ 9223372036854775807
    · rw [if_pos (decide_eq_true hm), hz2 hm]
      exact ih hm
    · rw [if_neg (by simpa using hm)]
      refine .inl ⟨?_, rfl⟩
      unfold pre at hm
      omega
theorem iAdd_ev {l : List GMany} (hl : N64 l) (hb : bad l = false) : Ev fun n => (tab n).ints_Add (l.map nOf) = some (if sumN l ≤ 9223372036854775807 then (sumN l, 0) else (0, 10)) := by
  refine Ev.step ((iadd_evs.and (Ev.ge (l.length + 1))).mono fun n hh => ?_)
  have hp0 : pre l 0 = 0 := by unfold pre; rw [List.drop_zero]; omega
  have c := iadd_l (n := n) hl hb hh.1 l.length 0 n (by omega) (by omega) (by rw [hp0]; omega)
  rw [show ((0 : Nat) : Int) = 0 from rfl, hp0] at c
  rw [tab_ints_Add, ints_Add, List.length_map]
  rcases c with ⟨c1, c2⟩ | ⟨c1, y, c2⟩
  · rw [c2, if_neg (by omega)]
  · obtain ⟨y1, y2, y3, y4⟩ := y
    rw [c2, if_pos c1]
theorem gsize_l {t : Tab} {n : Nat} {l : List GMany} (hl : l.length ≤ 1600000000000) : ∀ (d i K : Nat), i + d = l.length → d < K → (bad (l.drop i) = true ∧ gather_size_l1 t n K ((l.take i).map nOf) l (l.length : Int) (i : Int) = some (.inl (0, 2))) ∨ (bad (l.drop i) = false ∧ ∃ z, gather_size_l1 t n K ((l.take i).map nOf) l (l.length : Int) (i : Int) = some (.inr (l.map nOf, z)))
  | 0, i, K, hi, hk => by
    obtain ⟨K, rfl⟩ : ∃ j, K = j + 1 := ⟨K - 1, by omega⟩
    exact .inr ⟨by rw [List.drop_of_length_le (by omega)]; rfl, _, by rw [gather_size_l1, if_neg (by simp only [decide_eq_true_eq]; omega), List.take_of_length_le (by omega)]⟩
  | d + 1, i, K, hi, hk => by
    obtain ⟨K, rfl⟩ : ∃ j, K = j + 1 := ⟨K - 1, by omega⟩
    obtain ⟨x, x1, x3, x2⟩ := at_ (l := l) (i := i) (by omega)
    have ih := gsize_l (t := t) (n := n) hl d (i + 1) K (by omega) (by omega)
    have et : (l.take i).map nOf ++ [nOf x] = (l.take (i + 1)).map nOf := by rw [List.take_add_one, x1]; simp
    have el : ((l.take i).map nOf).length = i := by rw [List.length_map, List.length_take]; omega
    rw [gather_size_l1, if_pos (by simp only [decide_eq_true_eq]; omega), if_pos (by simp), Int.toNat_natCast, x1, x2, bad_cons, wr1 (i := i) (L := l.length) (by omega) (by omega)]
    obtain ⟨⟨v1, v2, v3, v4, v5⟩, m⟩ := x
    simp only [nOf] at et ⊢
    by_cases hm : m < 1
    · rw [if_pos (by simpa using hm)]
      exact .inl ⟨by simp [hm], rfl⟩
    · rw [if_neg (by simpa using hm), if_pos (by rw [el]; simp; omega), et]
      simpa [hm] using ih
theorem gsize_ev {l : List GMany} (hl : N64 l) (hl2 : l.length ≤ 1600000000000) : Ev fun n => (tab n).gather_size l = some (sizeS l) := by
  have H : Ev fun n => bad l = false → (tab n).ints_Add (l.map nOf) = some (if sumN l ≤ 9223372036854775807 then (sumN l, 0) else (0, 10)) := by
    cases hb : bad l with
    | true => exact Ev.pure fun n h => by cases h
    | false => exact (iAdd_ev hl hb).mono fun n h _ => h
  refine Ev.step ((H.and (Ev.ge (l.length + 1))).mono fun n hh => ?_)
  rw [tab_gather_size, gather_size]
  have a := gsize_l (t := tab n) (n := n) hl2 l.length 0 n (by omega) (by omega)
  rw [show ((0 : Nat) : Int) = 0 from rfl, List.drop_zero, List.take_zero, List.map_nil] at a
  rcases a with ⟨b1, b2⟩ | ⟨b1, z, b2⟩
  · rw [b2, sizeS, if_pos b1]
  · obtain ⟨z1, z2, z3, z4⟩ := z
    rw [b2, sizeS, if_neg (by simp [b1])]
    simp only [gather_size_j2, hh.1 b1]
    split <;> rfl
/-- A copy: so deep. -/
def cpF : Nat → GValue → GValue
  | 0, .mk k n s _ _ => .mk k n s [] []
  | f + 1, .mk k n s l m => .mk k n s (l.map (cpF f)) (m.map (cpF f))
def cp (v : GValue) : GValue := cpF 12 v
theorem cpF_vin : ∀ (f : Nat) (v : GValue), VIn v → VIn (cpF f v)
  | 0, .mk k n s l m, .mk hs hl hm al am => .mk hs (by simp) (by simp) (by simp) (by simp)
  | f + 1, .mk k n s l m, .mk hs hl hm al am => .mk hs (by rw [List.length_map]; exact hl) (by rw [List.length_map]; exact hm) (fun x hx => by obtain ⟨y, hy, rfl⟩ := List.mem_map.1 hx; exact cpF_vin f y (al y hy)) (fun x hx => by obtain ⟨y, hy, rfl⟩ := List.mem_map.1 hx; exact cpF_vin f y (am y hy))
theorem cmpL_map {f : GValue → GValue → Int} {g : GValue → GValue} (h : ∀ a b, f (g a) b = f a b) : ∀ a b, cmpL f (a.map g) b = cmpL f a b
  | [], [] => rfl
  | [], _ :: _ => rfl
  | _ :: _, [] => rfl
  | a :: xs, b :: ys => by rw [List.map_cons, cmpL, cmpL, h, cmpL_map h xs ys]
theorem cpF_cmp : ∀ (f : Nat) (a b : GValue), cmpV f (cpF f a) b = cmpV f a b
  | 0, .mk .., .mk .. => rfl
  | f + 1, .mk .., .mk .. => by
    rw [cpF, cmpV, cmpV, cmpL_map (cpF_cmp f), cmpL_map (cpF_cmp f)]
    rfl
theorem cp_cmp (a b : GValue) : cmp (cp a) b = cmp a b := cpF_cmp 12 a b
theorem cmp_cp (a b : GValue) : cmp a (cp b) = cmp a b := by
  have h1 := cmpV_neg 12 (cp b) a
  have h2 := cmpV_neg 12 b a
  have h3 := cp_cmp b a
  unfold cmp at *
  omega
theorem vcopied_l {t : Tab} {n : Nat} {dp : Int} {l : List GValue} {g : GValue → GValue} (H : ∀ x ∈ l, t.value_part x dp = some (g x)) (hl : l.length ≤ 1759218604391) : ∀ (d i K : Nat), i + d = l.length → d < K → ∃ z, value_copied_l1 t n K dp ((l.take i).map g) l (l.length : Int) (i : Int) = some (dp, l.map g, z)
  | 0, i, K, hi, hk => by
    obtain ⟨K, rfl⟩ : ∃ j, K = j + 1 := ⟨K - 1, by omega⟩
    exact ⟨_, by rw [value_copied_l1, if_neg (by simp only [decide_eq_true_eq]; omega), List.take_of_length_le (by omega)]⟩
  | d + 1, i, K, hi, hk => by
    obtain ⟨K, rfl⟩ : ∃ j, K = j + 1 := ⟨K - 1, by omega⟩
    obtain ⟨x, x1, x3, x2⟩ := at_ (l := l) (i := i) (by omega)
    have hx := H x x3
    obtain ⟨z, ih⟩ := vcopied_l (n := n) H hl d (i + 1) K (by omega) (by omega)
    refine ⟨z, ?_⟩
    have et : (l.take i).map g ++ [g x] = (l.take (i + 1)).map g := by rw [List.take_add_one, x1]; simp
    have el : ((l.take i).map g).length = i := by rw [List.length_map, List.length_take]; omega
    rw [value_copied_l1, if_pos (by simp only [decide_eq_true_eq]; omega), if_pos (by simp), Int.toNat_natCast, x1, wr1 (i := i) (L := l.length) (by omega) (by omega)]
    generalize g x = q at hx et
    cases x
    cases q
    simp only [hx, et]
    rw [if_pos (by rw [el]; simp; omega)]
    exact ih
theorem vpart_ev : ∀ (f : Nat), f ≤ 12 → ∀ a, VIn a → Ev fun n => (tab n).value_part a (13 - (f : Int)) = some (cpF f a)
  | 0, _, .mk k n s l m, _ => Ev.step (Ev.pure fun n => by rw [tab_value_part, value_part, if_pos (by simp)]; rfl)
  | f + 1, hf, .mk k nn s l m, .mk hs hl hm al am => by
    have ed : IntKind.wrap .i64 ((13 - ((f + 1 : Nat) : Int)) + 1) = 13 - (f : Int) := by
      rw [wr (by omega) (by omega)]
      omega
    have hd : ¬ (13 - ((f + 1 : Nat) : Int)) > 12 := by omega
    generalize (13 - ((f + 1 : Nat) : Int)) = dp at ed hd ⊢
    have r : ∀ l : List GValue, l.length ≤ 1759218604391 → (∀ x ∈ l, VIn x) → Ev fun n => (tab n).value_copied l (13 - (f : Int)) = some (l.map (cpF f)) := fun l hl al =>
      Ev.step (((Ev.all l fun x hx => vpart_ev f (by omega) x (al x hx)).and (Ev.ge (l.length + 1))).mono fun n hh => by
        obtain ⟨⟨z1, z2, z3, z4⟩, e⟩ := vcopied_l (n := n) hh.1 hl l.length 0 n (by omega) (by omega)
        rw [show ((0 : Nat) : Int) = 0 from rfl, List.take_zero, List.map_nil] at e
        rw [tab_value_copied]
        simp only [value_copied, e])
    refine Ev.step (((r l hl al).and (r m hm am)).mono fun n hh => ?_)
    rw [tab_value_part, value_part, if_neg (by simpa using hd), ed]
    simp only [hh.1, hh.2, cpF]
theorem copy_ev {a : GValue} (ha : VIn a) : Ev fun n => (tab n).value_Copy a = some (cp a) :=
  Ev.step ((vpart_ev 12 (by omega) a ha).mono fun n h => by
    rw [tab_value_Copy]
    cases a
    exact h)
end Go.Proofs.Ytokfeoifkpedgaa.W
