/- Rows looked through, rows compared. -/
import Derived.Test.YtgkfjhfehdefaaaGreatDoorPvA
namespace Go.Proofs.YtgkfjhfehdefaaaGreatDoor.W
open Go.Proofs.YtgkfjhfehdefaaaGreatDoor.Flat
set_option linter.unusedVariables false
set_option linter.unusedSimpArgs false
/-- The same, one by one? -/
def eqL {α : Type _} (f : α → α → Bool) : List α → List α → Bool
  | [], [] => true
  | x :: xs, y :: ys => f x y && eqL f xs ys
  | _, _ => false
theorem eqL_len {α : Type _} {f : α → α → Bool} : ∀ {a b : List α}, a.length ≠ b.length → eqL f a b = false
  | [], [], h => absurd rfl h
  | [], _ :: _, _ => rfl
  | _ :: _, [], _ => rfl
  | x :: xs, y :: ys, h => by
    rw [eqL, eqL_len (a := xs) (b := ys) (fun e => h (by simp [e])), Bool.and_false]
theorem plan_Same_1_el {t : Tab} {n : Nat} {a b : List GStep} {f : GStep → GStep → Bool} (H : ∀ x ∈ a, ∀ y ∈ b, t.plan_Same_1 x y = some (f x y)) (hq : a.length = b.length) (hl : a.length ≤ 140737488355328) : ∀ (d i K : Nat), i + d = a.length → d < K → (eqL f (a.drop i) (b.drop i) = true ∧ ∃ z, slices_EqualFunc_plan_Same_1_l1 t n K b a (a.length : Int) (i : Int) = some (.inr z)) ∨ (eqL f (a.drop i) (b.drop i) = false ∧ slices_EqualFunc_plan_Same_1_l1 t n K b a (a.length : Int) (i : Int) = some (.inl false))
  | 0, i, K, hi, hk => by
    obtain ⟨K, rfl⟩ : ∃ j, K = j + 1 := ⟨K - 1, by omega⟩
    exact .inl ⟨by rw [List.drop_of_length_le (by omega), List.drop_of_length_le (by omega)]; rfl, _, by rw [slices_EqualFunc_plan_Same_1_l1, if_neg (by simp; omega)]⟩
  | d + 1, i, K, hi, hk => by
    obtain ⟨K, rfl⟩ : ∃ j, K = j + 1 := ⟨K - 1, by omega⟩
    obtain ⟨x, x1, x3, x2⟩ := at_ (l := a) (i := i) (by omega)
    obtain ⟨y, y1, y3, y2⟩ := at_ (l := b) (i := i) (by omega)
    have hx := H x x3 y y3
    have ih := plan_Same_1_el (n := n) H hq hl d (i + 1) K (by omega) (by omega)
    rw [slices_EqualFunc_plan_Same_1_l1, if_pos (by simp; omega), if_pos (by simp), Int.toNat_natCast, x1, x2, y1, y2, wr1 (i := i) (L := a.length) (by omega) hl, eqL]
    generalize f x y = q at hx ⊢
    clear x1 x2 x3 y1 y2 y3
    obtain ⟨x1, x2, x3, ⟨x4, x5, x6, x7, x8⟩, ⟨x9, xa, xb⟩, xc, xd, xe⟩ := x
    obtain ⟨y1, y2, y3, ⟨y4, y5, y6, y7, y8⟩, ⟨y9, ya, yb⟩, yc, yd, ye⟩ := y
    simp only [hx]
    cases q
    · rw [if_neg (by simp), Bool.false_and]
      exact .inr ⟨rfl, rfl⟩
    · rw [if_pos rfl, Bool.true_and]
      exact ih
theorem plan_Same_1_e {a b : List GStep} {f : GStep → GStep → Bool} (H : ∀ x ∈ a, ∀ y ∈ b, Ev fun n => (tab n).plan_Same_1 x y = some (f x y)) (hl : a.length ≤ 140737488355328) : Ev fun n => (tab n).slices_EqualFunc_plan_Same_1 a b = some (eqL f a b) := by
  refine Ev.step (((Ev.all2 a b H).and (Ev.ge (a.length + 1))).mono fun n hh => ?_)
  rw [tab_slices_EqualFunc_plan_Same_1]
  simp only [slices_EqualFunc_plan_Same_1]
  by_cases hq : a.length = b.length
  · rw [if_neg (by simp [hq])]
    rcases plan_Same_1_el (n := n) hh.1 hq hl a.length 0 n (by omega) (by omega) with ⟨h, z, g⟩ | ⟨h, g⟩
    · rw [show ((0 : Nat) : Int) = 0 from rfl] at g
      rw [List.drop_zero, List.drop_zero] at h
      simp only [g, h]
    · rw [show ((0 : Nat) : Int) = 0 from rfl] at g
      rw [List.drop_zero, List.drop_zero] at h
      simp only [g, h]
  · rw [if_pos (by simp; omega), eqL_len hq]
theorem plan_Same_el {t : Tab} {n : Nat} {a b : List (List GStep)} {f : (List GStep) → (List GStep) → Bool} (H : ∀ x ∈ a, ∀ y ∈ b, t.plan_Same x y = some (f x y)) (hq : a.length = b.length) (hl : a.length ≤ 140737488355328) : ∀ (d i K : Nat), i + d = a.length → d < K → (eqL f (a.drop i) (b.drop i) = true ∧ ∃ z, slices_EqualFunc_plan_Same_l1 t n K b a (a.length : Int) (i : Int) = some (.inr z)) ∨ (eqL f (a.drop i) (b.drop i) = false ∧ slices_EqualFunc_plan_Same_l1 t n K b a (a.length : Int) (i : Int) = some (.inl false))
  | 0, i, K, hi, hk => by
    obtain ⟨K, rfl⟩ : ∃ j, K = j + 1 := ⟨K - 1, by omega⟩
    exact .inl ⟨by rw [List.drop_of_length_le (by omega), List.drop_of_length_le (by omega)]; rfl, _, by rw [slices_EqualFunc_plan_Same_l1, if_neg (by simp; omega)]⟩
  | d + 1, i, K, hi, hk => by
    obtain ⟨K, rfl⟩ : ∃ j, K = j + 1 := ⟨K - 1, by omega⟩
    obtain ⟨x, x1, x3, x2⟩ := at_ (l := a) (i := i) (by omega)
    obtain ⟨y, y1, y3, y2⟩ := at_ (l := b) (i := i) (by omega)
    have hx := H x x3 y y3
    have ih := plan_Same_el (n := n) H hq hl d (i + 1) K (by omega) (by omega)
    rw [slices_EqualFunc_plan_Same_l1, if_pos (by simp; omega), if_pos (by simp), Int.toNat_natCast, x1, x2, y1, y2, wr1 (i := i) (L := a.length) (by omega) hl, eqL]
    generalize f x y = q at hx ⊢
    clear x1 x2 x3 y1 y2 y3
    simp only [hx]
    cases q
    · rw [if_neg (by simp), Bool.false_and]
      exact .inr ⟨rfl, rfl⟩
    · rw [if_pos rfl, Bool.true_and]
      exact ih
theorem plan_Same_e {a b : List (List GStep)} {f : (List GStep) → (List GStep) → Bool} (H : ∀ x ∈ a, ∀ y ∈ b, Ev fun n => (tab n).plan_Same x y = some (f x y)) (hl : a.length ≤ 140737488355328) : Ev fun n => (tab n).slices_EqualFunc_plan_Same a b = some (eqL f a b) := by
  refine Ev.step (((Ev.all2 a b H).and (Ev.ge (a.length + 1))).mono fun n hh => ?_)
  rw [tab_slices_EqualFunc_plan_Same]
  simp only [slices_EqualFunc_plan_Same]
  by_cases hq : a.length = b.length
  · rw [if_neg (by simp [hq])]
    rcases plan_Same_el (n := n) hh.1 hq hl a.length 0 n (by omega) (by omega) with ⟨h, z, g⟩ | ⟨h, g⟩
    · rw [show ((0 : Nat) : Int) = 0 from rfl] at g
      rw [List.drop_zero, List.drop_zero] at h
      simp only [g, h]
    · rw [show ((0 : Nat) : Int) = 0 from rfl] at g
      rw [List.drop_zero, List.drop_zero] at h
      simp only [g, h]
  · rw [if_pos (by simp; omega), eqL_len hq]
theorem plan_sameBy_el {t : Tab} {n : Nat} {a b : List GBy} {f : GBy → GBy → Bool} (H : ∀ x ∈ a, ∀ y ∈ b, t.plan_sameBy x y = some (f x y)) (hq : a.length = b.length) (hl : a.length ≤ 140737488355328) : ∀ (d i K : Nat), i + d = a.length → d < K → (eqL f (a.drop i) (b.drop i) = true ∧ ∃ z, slices_EqualFunc_plan_sameBy_l1 t n K b a (a.length : Int) (i : Int) = some (.inr z)) ∨ (eqL f (a.drop i) (b.drop i) = false ∧ slices_EqualFunc_plan_sameBy_l1 t n K b a (a.length : Int) (i : Int) = some (.inl false))
  | 0, i, K, hi, hk => by
    obtain ⟨K, rfl⟩ : ∃ j, K = j + 1 := ⟨K - 1, by omega⟩
    exact .inl ⟨by rw [List.drop_of_length_le (by omega), List.drop_of_length_le (by omega)]; rfl, _, by rw [slices_EqualFunc_plan_sameBy_l1, if_neg (by simp; omega)]⟩
  | d + 1, i, K, hi, hk => by
    obtain ⟨K, rfl⟩ : ∃ j, K = j + 1 := ⟨K - 1, by omega⟩
    obtain ⟨x, x1, x3, x2⟩ := at_ (l := a) (i := i) (by omega)
    obtain ⟨y, y1, y3, y2⟩ := at_ (l := b) (i := i) (by omega)
    have hx := H x x3 y y3
    have ih := plan_sameBy_el (n := n) H hq hl d (i + 1) K (by omega) (by omega)
    rw [slices_EqualFunc_plan_sameBy_l1, if_pos (by simp; omega), if_pos (by simp), Int.toNat_natCast, x1, x2, y1, y2, wr1 (i := i) (L := a.length) (by omega) hl, eqL]
    generalize f x y = q at hx ⊢
    clear x1 x2 x3 y1 y2 y3
    cases x
    cases y
    simp only [hx]
    cases q
    · rw [if_neg (by simp), Bool.false_and]
      exact .inr ⟨rfl, rfl⟩
    · rw [if_pos rfl, Bool.true_and]
      exact ih
theorem plan_sameBy_e {a b : List GBy} {f : GBy → GBy → Bool} (H : ∀ x ∈ a, ∀ y ∈ b, Ev fun n => (tab n).plan_sameBy x y = some (f x y)) (hl : a.length ≤ 140737488355328) : Ev fun n => (tab n).slices_EqualFunc_plan_sameBy a b = some (eqL f a b) := by
  refine Ev.step (((Ev.all2 a b H).and (Ev.ge (a.length + 1))).mono fun n hh => ?_)
  rw [tab_slices_EqualFunc_plan_sameBy]
  simp only [slices_EqualFunc_plan_sameBy]
  by_cases hq : a.length = b.length
  · rw [if_neg (by simp [hq])]
    rcases plan_sameBy_el (n := n) hh.1 hq hl a.length 0 n (by omega) (by omega) with ⟨h, z, g⟩ | ⟨h, g⟩
    · rw [show ((0 : Nat) : Int) = 0 from rfl] at g
      rw [List.drop_zero, List.drop_zero] at h
      simp only [g, h]
    · rw [show ((0 : Nat) : Int) = 0 from rfl] at g
      rw [List.drop_zero, List.drop_zero] at h
      simp only [g, h]
  · rw [if_pos (by simp; omega), eqL_len hq]
theorem value_Same_el {t : Tab} {n : Nat} {a b : List GValue} {f : GValue → GValue → Bool} (H : ∀ x ∈ a, ∀ y ∈ b, t.value_Same x y = some (f x y)) (hq : a.length = b.length) (hl : a.length ≤ 140737488355328) : ∀ (d i K : Nat), i + d = a.length → d < K → (eqL f (a.drop i) (b.drop i) = true ∧ ∃ z, slices_EqualFunc_value_Same_l1 t n K b a (a.length : Int) (i : Int) = some (.inr z)) ∨ (eqL f (a.drop i) (b.drop i) = false ∧ slices_EqualFunc_value_Same_l1 t n K b a (a.length : Int) (i : Int) = some (.inl false))
  | 0, i, K, hi, hk => by
    obtain ⟨K, rfl⟩ : ∃ j, K = j + 1 := ⟨K - 1, by omega⟩
    exact .inl ⟨by rw [List.drop_of_length_le (by omega), List.drop_of_length_le (by omega)]; rfl, _, by rw [slices_EqualFunc_value_Same_l1, if_neg (by simp; omega)]⟩
  | d + 1, i, K, hi, hk => by
    obtain ⟨K, rfl⟩ : ∃ j, K = j + 1 := ⟨K - 1, by omega⟩
    obtain ⟨x, x1, x3, x2⟩ := at_ (l := a) (i := i) (by omega)
    obtain ⟨y, y1, y3, y2⟩ := at_ (l := b) (i := i) (by omega)
    have hx := H x x3 y y3
    have ih := value_Same_el (n := n) H hq hl d (i + 1) K (by omega) (by omega)
    rw [slices_EqualFunc_value_Same_l1, if_pos (by simp; omega), if_pos (by simp), Int.toNat_natCast, x1, x2, y1, y2, wr1 (i := i) (L := a.length) (by omega) hl, eqL]
    generalize f x y = q at hx ⊢
    clear x1 x2 x3 y1 y2 y3
    cases x
    cases y
    simp only [hx]
    cases q
    · rw [if_neg (by simp), Bool.false_and]
      exact .inr ⟨rfl, rfl⟩
    · rw [if_pos rfl, Bool.true_and]
      exact ih
theorem value_Same_e {a b : List GValue} {f : GValue → GValue → Bool} (H : ∀ x ∈ a, ∀ y ∈ b, Ev fun n => (tab n).value_Same x y = some (f x y)) (hl : a.length ≤ 140737488355328) : Ev fun n => (tab n).slices_EqualFunc_value_Same a b = some (eqL f a b) := by
  refine Ev.step (((Ev.all2 a b H).and (Ev.ge (a.length + 1))).mono fun n hh => ?_)
  rw [tab_slices_EqualFunc_value_Same]
  simp only [slices_EqualFunc_value_Same]
  by_cases hq : a.length = b.length
  · rw [if_neg (by simp [hq])]
    rcases value_Same_el (n := n) hh.1 hq hl a.length 0 n (by omega) (by omega) with ⟨h, z, g⟩ | ⟨h, g⟩
    · rw [show ((0 : Nat) : Int) = 0 from rfl] at g
      rw [List.drop_zero, List.drop_zero] at h
      simp only [g, h]
    · rw [show ((0 : Nat) : Int) = 0 from rfl] at g
      rw [List.drop_zero, List.drop_zero] at h
      simp only [g, h]
  · rw [if_pos (by simp; omega), eqL_len hq]
theorem plan_samePred_el {t : Tab} {n : Nat} {a b : List GPred} {f : GPred → GPred → Bool} (H : ∀ x ∈ a, ∀ y ∈ b, t.plan_samePred x y = some (f x y)) (hq : a.length = b.length) (hl : a.length ≤ 140737488355328) : ∀ (d i K : Nat), i + d = a.length → d < K → (eqL f (a.drop i) (b.drop i) = true ∧ ∃ z, slices_EqualFunc_plan_samePred_l1 t n K b a (a.length : Int) (i : Int) = some (.inr z)) ∨ (eqL f (a.drop i) (b.drop i) = false ∧ slices_EqualFunc_plan_samePred_l1 t n K b a (a.length : Int) (i : Int) = some (.inl false))
  | 0, i, K, hi, hk => by
    obtain ⟨K, rfl⟩ : ∃ j, K = j + 1 := ⟨K - 1, by omega⟩
    exact .inl ⟨by rw [List.drop_of_length_le (by omega), List.drop_of_length_le (by omega)]; rfl, _, by rw [slices_EqualFunc_plan_samePred_l1, if_neg (by simp; omega)]⟩
  | d + 1, i, K, hi, hk => by
    obtain ⟨K, rfl⟩ : ∃ j, K = j + 1 := ⟨K - 1, by omega⟩
    obtain ⟨x, x1, x3, x2⟩ := at_ (l := a) (i := i) (by omega)
    obtain ⟨y, y1, y3, y2⟩ := at_ (l := b) (i := i) (by omega)
    have hx := H x x3 y y3
    have ih := plan_samePred_el (n := n) H hq hl d (i + 1) K (by omega) (by omega)
    rw [slices_EqualFunc_plan_samePred_l1, if_pos (by simp; omega), if_pos (by simp), Int.toNat_natCast, x1, x2, y1, y2, wr1 (i := i) (L := a.length) (by omega) hl, eqL]
    generalize f x y = q at hx ⊢
    clear x1 x2 x3 y1 y2 y3
    cases x
    cases y
    simp only [hx]
    cases q
    · rw [if_neg (by simp), Bool.false_and]
      exact .inr ⟨rfl, rfl⟩
    · rw [if_pos rfl, Bool.true_and]
      exact ih
theorem plan_samePred_e {a b : List GPred} {f : GPred → GPred → Bool} (H : ∀ x ∈ a, ∀ y ∈ b, Ev fun n => (tab n).plan_samePred x y = some (f x y)) (hl : a.length ≤ 140737488355328) : Ev fun n => (tab n).slices_EqualFunc_plan_samePred a b = some (eqL f a b) := by
  refine Ev.step (((Ev.all2 a b H).and (Ev.ge (a.length + 1))).mono fun n hh => ?_)
  rw [tab_slices_EqualFunc_plan_samePred]
  simp only [slices_EqualFunc_plan_samePred]
  by_cases hq : a.length = b.length
  · rw [if_neg (by simp [hq])]
    rcases plan_samePred_el (n := n) hh.1 hq hl a.length 0 n (by omega) (by omega) with ⟨h, z, g⟩ | ⟨h, g⟩
    · rw [show ((0 : Nat) : Int) = 0 from rfl] at g
      rw [List.drop_zero, List.drop_zero] at h
      simp only [g, h]
    · rw [show ((0 : Nat) : Int) = 0 from rfl] at g
      rw [List.drop_zero, List.drop_zero] at h
      simp only [g, h]
  · rw [if_pos (by simp; omega), eqL_len hq]
theorem equal_string_l {t : Tab} {n : Nat} {a b : List ByteArray} (hq : a.length = b.length) (hl : a.length ≤ 140737488355328) : ∀ (d i K : Nat), i + d = a.length → d < K → (eqL (fun x y => x.toList == y.toList) (a.drop i) (b.drop i) = true ∧ ∃ z, slices_Equal_string_l1 t n K a b (a.length : Int) (i : Int) = some (.inr z)) ∨ (eqL (fun x y => x.toList == y.toList) (a.drop i) (b.drop i) = false ∧ slices_Equal_string_l1 t n K a b (a.length : Int) (i : Int) = some (.inl false))
  | 0, i, K, hi, hk => by
    obtain ⟨K, rfl⟩ : ∃ j, K = j + 1 := ⟨K - 1, by omega⟩
    exact .inl ⟨by rw [List.drop_of_length_le (by omega), List.drop_of_length_le (by omega)]; rfl, _, by rw [slices_Equal_string_l1, if_neg (by simp; omega)]⟩
  | d + 1, i, K, hi, hk => by
    obtain ⟨K, rfl⟩ : ∃ j, K = j + 1 := ⟨K - 1, by omega⟩
    obtain ⟨x, x1, x3, x2⟩ := at_ (l := a) (i := i) (by omega)
    obtain ⟨y, y1, y3, y2⟩ := at_ (l := b) (i := i) (by omega)
    have ih := equal_string_l (t := t) (n := n) hq hl d (i + 1) K (by omega) (by omega)
    rw [slices_Equal_string_l1, if_pos (by simp; omega), if_pos (by simp), Int.toNat_natCast, x1, x2, y1, y2, wr1 (i := i) (L := a.length) (by omega) hl, eqL]
    dsimp only
    skip
    generalize (x.toList == y.toList) = q
    cases q
    · rw [if_neg (by simp), Bool.false_and]
      exact .inr ⟨rfl, rfl⟩
    · rw [if_pos rfl, Bool.true_and]
      exact ih
theorem equal_string_e {a b : List ByteArray} (hl : a.length ≤ 140737488355328) : Ev fun n => (tab n).slices_Equal_string a b = some (eqL (fun x y => x.toList == y.toList) a b) := by
  refine Ev.step ((Ev.ge (a.length + 1)).mono fun n hh => ?_)
  rw [tab_slices_Equal_string]
  simp only [slices_Equal_string]
  by_cases hq : a.length = b.length
  · rw [if_neg (by simp [hq])]
    rcases equal_string_l (t := tab n) (n := n) hq hl a.length 0 n (by omega) (by omega) with ⟨h, z, g⟩ | ⟨h, g⟩
    · rw [show ((0 : Nat) : Int) = 0 from rfl] at g
      rw [List.drop_zero, List.drop_zero] at h
      simp only [g, h]
    · rw [show ((0 : Nat) : Int) = 0 from rfl] at g
      rw [List.drop_zero, List.drop_zero] at h
      simp only [g, h]
  · rw [if_pos (by simp; omega), eqL_len hq]
theorem equal_int_l {t : Tab} {n : Nat} {a b : List Int} (hq : a.length = b.length) (hl : a.length ≤ 140737488355328) : ∀ (d i K : Nat), i + d = a.length → d < K → (eqL (fun x y => x == y) (a.drop i) (b.drop i) = true ∧ ∃ z, slices_Equal_int_l1 t n K a b (a.length : Int) (i : Int) = some (.inr z)) ∨ (eqL (fun x y => x == y) (a.drop i) (b.drop i) = false ∧ slices_Equal_int_l1 t n K a b (a.length : Int) (i : Int) = some (.inl false))
  | 0, i, K, hi, hk => by
    obtain ⟨K, rfl⟩ : ∃ j, K = j + 1 := ⟨K - 1, by omega⟩
    exact .inl ⟨by rw [List.drop_of_length_le (by omega), List.drop_of_length_le (by omega)]; rfl, _, by rw [slices_Equal_int_l1, if_neg (by simp; omega)]⟩
  | d + 1, i, K, hi, hk => by
    obtain ⟨K, rfl⟩ : ∃ j, K = j + 1 := ⟨K - 1, by omega⟩
    obtain ⟨x, x1, x3, x2⟩ := at_ (l := a) (i := i) (by omega)
    obtain ⟨y, y1, y3, y2⟩ := at_ (l := b) (i := i) (by omega)
    have ih := equal_int_l (t := t) (n := n) hq hl d (i + 1) K (by omega) (by omega)
    rw [slices_Equal_int_l1, if_pos (by simp; omega), if_pos (by simp), Int.toNat_natCast, x1, x2, y1, y2, wr1 (i := i) (L := a.length) (by omega) hl, eqL]
    dsimp only
    rw [bne]
    generalize (x == y) = q
    cases q
    · rw [if_pos (by simp), Bool.false_and]
      exact .inr ⟨rfl, rfl⟩
    · rw [if_neg (by simp), Bool.true_and]
      exact ih
theorem equal_int_e {a b : List Int} (hl : a.length ≤ 140737488355328) : Ev fun n => (tab n).slices_Equal_int a b = some (eqL (fun x y => x == y) a b) := by
  refine Ev.step ((Ev.ge (a.length + 1)).mono fun n hh => ?_)
  rw [tab_slices_Equal_int]
  simp only [slices_Equal_int]
  by_cases hq : a.length = b.length
  · rw [if_neg (by simp [hq])]
    rcases equal_int_l (t := tab n) (n := n) hq hl a.length 0 n (by omega) (by omega) with ⟨h, z, g⟩ | ⟨h, g⟩
    · rw [show ((0 : Nat) : Int) = 0 from rfl] at g
      rw [List.drop_zero, List.drop_zero] at h
      simp only [g, h]
    · rw [show ((0 : Nat) : Int) = 0 from rfl] at g
      rw [List.drop_zero, List.drop_zero] at h
      simp only [g, h]
  · rw [if_pos (by simp; omega), eqL_len hq]
end Go.Proofs.YtgkfjhfehdefaaaGreatDoor.W
