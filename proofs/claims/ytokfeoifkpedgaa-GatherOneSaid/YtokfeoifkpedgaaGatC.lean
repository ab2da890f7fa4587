/- How many there are in bulks. -/
import Derived.Test.YtokfeoifkpedgaaGatB
namespace Go.Proofs.Ytokfeoifkpedgaa.W
open Go.Proofs.Ytokfeoifkpedgaa.Flat
set_option linter.unusedVariables false
set_option linter.unusedSimpArgs false
def nOf : GMany → Int
  | .mk _ n => n
def sumN : List GMany → Int
  | [] => 0
  | x :: xs => nOf x + sumN xs
def bad (l : List GMany) : Bool := l.any fun x => decide (nOf x < 1)
def sizeS (l : List GMany) : Int × Int := if bad l = true then (0, 2) else if sumN l ≤ 9223372036854775807 then (sumN l, 0) else (0, 3)
/-- Numbers that fit. -/
def N64 (l : List GMany) : Prop := l.length ≤ 140737488355328 ∧ ∀ x ∈ l, nOf x ≤ 9223372036854775807
theorem bad_cons {x : GMany} {xs : List GMany} : bad (x :: xs) = (decide (nOf x < 1) || bad xs) := by rw [bad, List.any_cons]; rfl
theorem sumN_nonneg : ∀ {l : List GMany}, bad l = false → 0 ≤ sumN l
  | [], _ => by simp [sumN]
  | x :: xs, h => by
    rw [bad_cons, Bool.or_eq_false_iff, decide_eq_false_iff_not] at h
    have := sumN_nonneg h.2
    rw [sumN]
    omega
theorem bad_drop {l : List GMany} (h : bad l = false) (i : Nat) : bad (l.drop i) = false := by
  rw [bad, List.any_eq_false] at h ⊢
  exact fun x hx => h x (List.mem_of_mem_drop hx)
theorem size_l1 {t : Tab} {n : Nat} {l : List GMany} {s : Int} (hl : l.length ≤ 140737488355328) : ∀ (d i K : Nat), i + d = l.length → d < K → (bad (l.drop i) = true ∧ ref16_Size_l1 t n K l s (i : Int) = some (.inl (0, 2))) ∨ (bad (l.drop i) = false ∧ ∃ z, ref16_Size_l1 t n K l s (i : Int) = some (.inr (l, s, z)))
  | 0, i, K, hi, hk => by
    obtain ⟨K, rfl⟩ : ∃ j, K = j + 1 := ⟨K - 1, by omega⟩
    exact .inr ⟨by rw [List.drop_of_length_le (by omega)]; rfl, _, by rw [ref16_Size_l1, if_neg (by simp only [decide_eq_true_eq]; omega)]⟩
  | d + 1, i, K, hi, hk => by
    obtain ⟨K, rfl⟩ : ∃ j, K = j + 1 := ⟨K - 1, by omega⟩
    obtain ⟨x, x1, x3, x2⟩ := at_ (l := l) (i := i) (by omega)
    have ih := size_l1 (t := t) (n := n) (s := s) hl d (i + 1) K (by omega) (by omega)
    rw [ref16_Size_l1, if_pos (by simp only [decide_eq_true_eq]; omega), if_pos (by simp), Int.toNat_natCast, x1, x2, bad_cons, wr1 (i := i) (L := l.length) (by omega) hl]
    obtain ⟨⟨v1, v2, v3, v4, v5⟩, m⟩ := x
    simp only [nOf]
    by_cases hm : m < 1
    · rw [if_pos (by simpa using hm)]
      exact .inl ⟨by simp [hm], rfl⟩
    · rw [if_neg (by simpa using hm)]
      simpa [hm] using ih
theorem sumN_take (l : List GMany) {i : Nat} {x : GMany} (h : l.drop i = x :: l.drop (i + 1)) : sumN (l.drop i) = nOf x + sumN (l.drop (i + 1)) := by rw [h, sumN]
/-- What is summed up to a place. -/
def pre (l : List GMany) (i : Nat) : Int := sumN l - sumN (l.drop i)
def addS (x y : Int) : Int × Int := if x + y ≤ 9223372036854775807 then (x + y, 0) else (0, 10)
theorem size_l3 {t : Tab} {n : Nat} {l : List GMany} (hl : N64 l) (hb : bad l = false) (H : ∀ i ∈ List.range l.length, pre l i ≤ 9223372036854775807 → t.ref01_Add [pre l i, (l[i]?.map nOf).getD 0] = some (addS (pre l i) ((l[i]?.map nOf).getD 0))) : ∀ (d i K : Nat), i + d = l.length → d < K → pre l i ≤ 9223372036854775807 → (9223372036854775807 < sumN l ∧ ref16_Size_l3 t n K l (pre l i) (i : Int) = some (.inl (0, 3))) ∨ (sumN l ≤ 9223372036854775807 ∧ ∃ z, ref16_Size_l3 t n K l (pre l i) (i : Int) = some (.inr (l, sumN l, z)))
  | 0, i, K, hi, hk, hp => by
    obtain ⟨K, rfl⟩ : ∃ j, K = j + 1 := ⟨K - 1, by omega⟩
    have e : pre l i = sumN l := by
      unfold pre
      rw [List.drop_of_length_le (by omega), sumN]
      omega
    rw [e] at hp ⊢
    exact .inr ⟨hp, _, by rw [ref16_Size_l3, if_neg (by simp only [decide_eq_true_eq]; omega)]⟩
  | d + 1, i, K, hi, hk, hp => by
    obtain ⟨K, rfl⟩ : ∃ j, K = j + 1 := ⟨K - 1, by omega⟩
    obtain ⟨x, x1, x3, x2⟩ := at_ (l := l) (i := i) (by omega)
    have hx := H i (List.mem_range.2 (by omega)) hp
    have es := sumN_take l x2
    have ep : pre l i + nOf x = pre l (i + 1) := by unfold pre; omega
    have hn := sumN_nonneg (bad_drop hb (i + 1))
    rw [x1] at hx
    simp only [Option.map_some, Option.getD_some] at hx
    have ih := size_l3 (n := n) hl hb H d (i + 1) K (by omega) (by omega)
    rw [ref16_Size_l3, if_pos (by simp only [decide_eq_true_eq]; omega), if_pos (by simp), Int.toNat_natCast, x1, wr1 (i := i) (L := l.length) (by omega) hl.1]
    rw [addS, ep] at hx
    obtain ⟨⟨v1, v2, v3, v4, v5⟩, m⟩ := x
    simp only [nOf] at hx
    by_cases hm : pre l (i + 1) ≤ 9223372036854775807
    · rw [if_pos hm] at hx
      simp only [hx]
      exact ih hm
    · rw [if_neg hm] at hx
      simp only [hx]
      refine .inl ⟨?_, rfl⟩
      unfold pre at hm
      omega
theorem pre_nonneg {l : List GMany} (hb : bad l = false) : ∀ i, 0 ≤ pre l i
  | 0 => by unfold pre; rw [List.drop_zero]; omega
  | i + 1 => by
    have h := pre_nonneg hb i
    by_cases hi : i < l.length
    · obtain ⟨x, x1, x3, x2⟩ := at_ (l := l) hi
      have es := sumN_take l x2
      have hx : ¬ nOf x < 1 := by
        rw [bad, List.any_eq_false] at hb
        simpa using hb x x3
      unfold pre at *
      omega
    · unfold pre at *
      rw [List.drop_of_length_le (by omega)] at h ⊢
      exact h
theorem size16_ev {l : List GMany} (hl : N64 l) : Ev fun n => (tab n).ref16_Size l = some (sizeS l) := by
  have H : Ev fun n => bad l = false → ∀ i ∈ List.range l.length, pre l i ≤ 9223372036854775807 → (tab n).ref01_Add [pre l i, (l[i]?.map nOf).getD 0] = some (addS (pre l i) ((l[i]?.map nOf).getD 0)) := by
    cases hb : bad l with
    | true => exact Ev.pure fun n h => by cases h
    | false =>
      have := Ev.all (p := fun i n => pre l i ≤ 9223372036854775807 → (tab n).ref01_Add [pre l i, (l[i]?.map nOf).getD 0] = some (addS (pre l i) ((l[i]?.map nOf).getD 0))) (List.range l.length) (fun i hi => by
        obtain ⟨x, x1, x3, x2⟩ := at_ (l := l) (List.mem_range.1 hi)
        rw [x1]
        simp only [Option.map_some, Option.getD_some]
        have hx : ¬ nOf x < 1 := by
          rw [bad, List.any_eq_false] at hb
          simpa using hb x x3
        by_cases hp : pre l i ≤ 9223372036854775807
        · exact (add2_ev (pre_nonneg hb i) hp (by omega) (hl.2 x x3)).mono fun n h _ => h
        · exact Ev.pure fun n g => absurd g hp)
      exact this.mono fun n h _ => h
  refine Ev.step ((H.and (Ev.ge (l.length + 1))).mono fun n hh => ?_)
  obtain ⟨h1, h2⟩ := hh
  rw [tab_ref16_Size, ref16_Size]
  have a := size_l1 (t := tab n) (n := n) (s := 0) hl.1 l.length 0 n (by omega) (by omega)
  rw [show ((0 : Nat) : Int) = 0 from rfl, List.drop_zero] at a
  rcases a with ⟨b1, b2⟩ | ⟨b1, z, b2⟩
  · rw [b2, sizeS, if_pos b1]
  · rw [b2, sizeS, if_neg (by simp [b1])]
    obtain ⟨z1, z2⟩ := z
    have hp0 : pre l 0 = 0 := by unfold pre; rw [List.drop_zero]; omega
    have c := size_l3 (n := n) hl b1 (h1 b1) l.length 0 n (by omega) (by omega) (by rw [hp0]; omega)
    rw [show ((0 : Nat) : Int) = 0 from rfl, hp0] at c
    simp only [ref16_Size_j2]
    rcases c with ⟨c1, c2⟩ | ⟨c1, y, c2⟩
    · rw [c2, if_neg (by omega)]
    · obtain ⟨y1, y2⟩ := y
      rw [c2, if_pos c1]
end Go.Proofs.Ytokfeoifkpedgaa.W
