/- Rows looked through, rows compared. -/
import Derived.Test.YtgkfjhfehdefaaaGreatDoorPvA
namespace Go.Proofs.YtgkfjhfehdefaaaGreatDoor.W
open Go.Proofs.YtgkfjhfehdefaaaGreatDoor.Flat
set_option linter.unusedVariables false
set_option linter.unusedSimpArgs false
theorem plan_right_1_l {t : Tab} {n : Nat} {l : List GStep} {e0 : Int} {g : GStep → Bool} (H : ∀ x ∈ l, t.plan_right_1 x e0 = some (g x)) (hl : l.length ≤ 140737488355328) : ∀ (d i K : Nat), i + d = l.length → d < K → ((l.drop i).any g = false ∧ ∃ z, slices_IndexFunc_plan_right_1_l1 t n K l e0 (l.length : Int) (i : Int) = some (.inr z)) ∨ ((l.drop i).any g = true ∧ ∃ j : Nat, slices_IndexFunc_plan_right_1_l1 t n K l e0 (l.length : Int) (i : Int) = some (.inl (j : Int)))
  | 0, i, K, hi, hk => by
    obtain ⟨K, rfl⟩ : ∃ j, K = j + 1 := ⟨K - 1, by omega⟩
    exact .inl ⟨by rw [List.drop_of_length_le (by omega)]; rfl, _, by rw [slices_IndexFunc_plan_right_1_l1, if_neg (by simp; omega)]⟩
  | d + 1, i, K, hi, hk => by
    obtain ⟨K, rfl⟩ : ∃ j, K = j + 1 := ⟨K - 1, by omega⟩
    obtain ⟨x, x1, x3, x2⟩ := at_ (l := l) (i := i) (by omega)
    have hx := H x x3
    have ih := plan_right_1_l (n := n) H hl d (i + 1) K (by omega) (by omega)
    rw [slices_IndexFunc_plan_right_1_l1, if_pos (by simp; omega), if_pos (by simp), Int.toNat_natCast, x1, x2, wr1 (i := i) (L := l.length) (by omega) hl, List.any_cons]
    generalize g x = q at hx ⊢
    clear x1 x2 x3
    obtain ⟨x1, x2, x3, ⟨x4, x5, x6, x7, x8⟩, ⟨x9, xa, xb⟩, xc, xd, xe⟩ := x
    simp only [hx]
    cases q
    · rw [if_neg (by simp), Bool.false_or]
      exact ih
    · rw [if_pos rfl, Bool.true_or]
      exact .inr ⟨rfl, i, rfl⟩
theorem plan_right_1_c {l : List GStep} {e0 : Int} {g : GStep → Bool} (H : ∀ x ∈ l, Ev fun n => (tab n).plan_right_1 x e0 = some (g x)) (hl : l.length ≤ 140737488355328) : Ev fun n => (tab n).slices_ContainsFunc_plan_right_1 l e0 = some (l.any g) := by
  refine Ev.step (Ev.step (((Ev.all l H).and (Ev.ge (l.length + 1))).mono fun n hh => ?_))
  rw [tab_slices_ContainsFunc_plan_right_1]
  simp only [slices_ContainsFunc_plan_right_1, tab_slices_IndexFunc_plan_right_1, slices_IndexFunc_plan_right_1]
  rcases plan_right_1_l (n := n) hh.1 hl l.length 0 n (by omega) (by omega) with ⟨h, z, g⟩ | ⟨h, j, g⟩
  · rw [show ((0 : Nat) : Int) = 0 from rfl] at g
    rw [List.drop_zero] at h
    simp only [g, h]
    rfl
  · rw [show ((0 : Nat) : Int) = 0 from rfl] at g
    rw [List.drop_zero] at h
    simp only [g, h]
    simp
theorem plan_some_1_l {t : Tab} {n : Nat} {l : List GStep} {g : GStep → Bool} (H : ∀ x ∈ l, t.plan_some_1_plan_Free_1 x = some (g x)) (hl : l.length ≤ 140737488355328) : ∀ (d i K : Nat), i + d = l.length → d < K → ((l.drop i).any g = false ∧ ∃ z, slices_IndexFunc_plan_some_1_l1 t n K l (l.length : Int) (i : Int) = some (.inr z)) ∨ ((l.drop i).any g = true ∧ ∃ j : Nat, slices_IndexFunc_plan_some_1_l1 t n K l (l.length : Int) (i : Int) = some (.inl (j : Int)))
  | 0, i, K, hi, hk => by
    obtain ⟨K, rfl⟩ : ∃ j, K = j + 1 := ⟨K - 1, by omega⟩
    exact .inl ⟨by rw [List.drop_of_length_le (by omega)]; rfl, _, by rw [slices_IndexFunc_plan_some_1_l1, if_neg (by simp; omega)]⟩
  | d + 1, i, K, hi, hk => by
    obtain ⟨K, rfl⟩ : ∃ j, K = j + 1 := ⟨K - 1, by omega⟩
    obtain ⟨x, x1, x3, x2⟩ := at_ (l := l) (i := i) (by omega)
    have hx := H x x3
    have ih := plan_some_1_l (n := n) H hl d (i + 1) K (by omega) (by omega)
    rw [slices_IndexFunc_plan_some_1_l1, if_pos (by simp; omega), if_pos (by simp), Int.toNat_natCast, x1, x2, wr1 (i := i) (L := l.length) (by omega) hl, List.any_cons]
    generalize g x = q at hx ⊢
    clear x1 x2 x3
    obtain ⟨x1, x2, x3, ⟨x4, x5, x6, x7, x8⟩, ⟨x9, xa, xb⟩, xc, xd, xe⟩ := x
    simp only [hx]
    cases q
    · rw [if_neg (by simp), Bool.false_or]
      exact ih
    · rw [if_pos rfl, Bool.true_or]
      exact .inr ⟨rfl, i, rfl⟩
theorem plan_some_1_c {l : List GStep} {g : GStep → Bool} (H : ∀ x ∈ l, Ev fun n => (tab n).plan_some_1_plan_Free_1 x = some (g x)) (hl : l.length ≤ 140737488355328) : Ev fun n => (tab n).slices_ContainsFunc_plan_some_1 l = some (l.any g) := by
  refine Ev.step (Ev.step (((Ev.all l H).and (Ev.ge (l.length + 1))).mono fun n hh => ?_))
  rw [tab_slices_ContainsFunc_plan_some_1]
  simp only [slices_ContainsFunc_plan_some_1, tab_slices_IndexFunc_plan_some_1, slices_IndexFunc_plan_some_1]
  rcases plan_some_1_l (n := n) hh.1 hl l.length 0 n (by omega) (by omega) with ⟨h, z, g⟩ | ⟨h, j, g⟩
  · rw [show ((0 : Nat) : Int) = 0 from rfl] at g
    rw [List.drop_zero] at h
    simp only [g, h]
    rfl
  · rw [show ((0 : Nat) : Int) = 0 from rfl] at g
    rw [List.drop_zero] at h
    simp only [g, h]
    simp
theorem plan_some_1_i2_l {t : Tab} {n : Nat} {l : List GStep} {e0 : List Int} {g : GStep → Bool} (H : ∀ x ∈ l, t.plan_some_1_plan_Uses_1 x e0 = some (g x)) (hl : l.length ≤ 140737488355328) : ∀ (d i K : Nat), i + d = l.length → d < K → ((l.drop i).any g = false ∧ ∃ z, slices_IndexFunc_plan_some_1_i2_l1 t n K l e0 (l.length : Int) (i : Int) = some (.inr z)) ∨ ((l.drop i).any g = true ∧ ∃ j : Nat, slices_IndexFunc_plan_some_1_i2_l1 t n K l e0 (l.length : Int) (i : Int) = some (.inl (j : Int)))
  | 0, i, K, hi, hk => by
    obtain ⟨K, rfl⟩ : ∃ j, K = j + 1 := ⟨K - 1, by omega⟩
    exact .inl ⟨by rw [List.drop_of_length_le (by omega)]; rfl, _, by rw [slices_IndexFunc_plan_some_1_i2_l1, if_neg (by simp; omega)]⟩
  | d + 1, i, K, hi, hk => by
    obtain ⟨K, rfl⟩ : ∃ j, K = j + 1 := ⟨K - 1, by omega⟩
    obtain ⟨x, x1, x3, x2⟩ := at_ (l := l) (i := i) (by omega)
    have hx := H x x3
    have ih := plan_some_1_i2_l (n := n) H hl d (i + 1) K (by omega) (by omega)
    rw [slices_IndexFunc_plan_some_1_i2_l1, if_pos (by simp; omega), if_pos (by simp), Int.toNat_natCast, x1, x2, wr1 (i := i) (L := l.length) (by omega) hl, List.any_cons]
    generalize g x = q at hx ⊢
    clear x1 x2 x3
    obtain ⟨x1, x2, x3, ⟨x4, x5, x6, x7, x8⟩, ⟨x9, xa, xb⟩, xc, xd, xe⟩ := x
    simp only [hx]
    cases q
    · rw [if_neg (by simp), Bool.false_or]
      exact ih
    · rw [if_pos rfl, Bool.true_or]
      exact .inr ⟨rfl, i, rfl⟩
theorem plan_some_1_i2_c {l : List GStep} {e0 : List Int} {g : GStep → Bool} (H : ∀ x ∈ l, Ev fun n => (tab n).plan_some_1_plan_Uses_1 x e0 = some (g x)) (hl : l.length ≤ 140737488355328) : Ev fun n => (tab n).slices_ContainsFunc_plan_some_1_i2 l e0 = some (l.any g) := by
  refine Ev.step (Ev.step (((Ev.all l H).and (Ev.ge (l.length + 1))).mono fun n hh => ?_))
  rw [tab_slices_ContainsFunc_plan_some_1_i2]
  simp only [slices_ContainsFunc_plan_some_1_i2, tab_slices_IndexFunc_plan_some_1_i2, slices_IndexFunc_plan_some_1_i2]
  rcases plan_some_1_i2_l (n := n) hh.1 hl l.length 0 n (by omega) (by omega) with ⟨h, z, g⟩ | ⟨h, j, g⟩
  · rw [show ((0 : Nat) : Int) = 0 from rfl] at g
    rw [List.drop_zero] at h
    simp only [g, h]
    rfl
  · rw [show ((0 : Nat) : Int) = 0 from rfl] at g
    rw [List.drop_zero] at h
    simp only [g, h]
    simp
theorem plan_some_1_1_l {t : Tab} {n : Nat} {l : List (List GStep)} {g : (List GStep) → Bool} (H : ∀ x ∈ l, t.plan_some_1_1_plan_Free_1 x = some (g x)) (hl : l.length ≤ 140737488355328) : ∀ (d i K : Nat), i + d = l.length → d < K → ((l.drop i).any g = false ∧ ∃ z, slices_IndexFunc_plan_some_1_1_l1 t n K l (l.length : Int) (i : Int) = some (.inr z)) ∨ ((l.drop i).any g = true ∧ ∃ j : Nat, slices_IndexFunc_plan_some_1_1_l1 t n K l (l.length : Int) (i : Int) = some (.inl (j : Int)))
  | 0, i, K, hi, hk => by
    obtain ⟨K, rfl⟩ : ∃ j, K = j + 1 := ⟨K - 1, by omega⟩
    exact .inl ⟨by rw [List.drop_of_length_le (by omega)]; rfl, _, by rw [slices_IndexFunc_plan_some_1_1_l1, if_neg (by simp; omega)]⟩
  | d + 1, i, K, hi, hk => by
    obtain ⟨K, rfl⟩ : ∃ j, K = j + 1 := ⟨K - 1, by omega⟩
    obtain ⟨x, x1, x3, x2⟩ := at_ (l := l) (i := i) (by omega)
    have hx := H x x3
    have ih := plan_some_1_1_l (n := n) H hl d (i + 1) K (by omega) (by omega)
    rw [slices_IndexFunc_plan_some_1_1_l1, if_pos (by simp; omega), if_pos (by simp), Int.toNat_natCast, x1, x2, wr1 (i := i) (L := l.length) (by omega) hl, List.any_cons]
    generalize g x = q at hx ⊢
    clear x1 x2 x3
    simp only [hx]
    cases q
    · rw [if_neg (by simp), Bool.false_or]
      exact ih
    · rw [if_pos rfl, Bool.true_or]
      exact .inr ⟨rfl, i, rfl⟩
theorem plan_some_1_1_c {l : List (List GStep)} {g : (List GStep) → Bool} (H : ∀ x ∈ l, Ev fun n => (tab n).plan_some_1_1_plan_Free_1 x = some (g x)) (hl : l.length ≤ 140737488355328) : Ev fun n => (tab n).slices_ContainsFunc_plan_some_1_1 l = some (l.any g) := by
  refine Ev.step (Ev.step (((Ev.all l H).and (Ev.ge (l.length + 1))).mono fun n hh => ?_))
  rw [tab_slices_ContainsFunc_plan_some_1_1]
  simp only [slices_ContainsFunc_plan_some_1_1, tab_slices_IndexFunc_plan_some_1_1, slices_IndexFunc_plan_some_1_1]
  rcases plan_some_1_1_l (n := n) hh.1 hl l.length 0 n (by omega) (by omega) with ⟨h, z, g⟩ | ⟨h, j, g⟩
  · rw [show ((0 : Nat) : Int) = 0 from rfl] at g
    rw [List.drop_zero] at h
    simp only [g, h]
    rfl
  · rw [show ((0 : Nat) : Int) = 0 from rfl] at g
    rw [List.drop_zero] at h
    simp only [g, h]
    simp
theorem plan_step_1_l {t : Tab} {n : Nat} {l : List ByteArray} {g : ByteArray → Bool} (H : ∀ x ∈ l, t.plan_step_1 x = some (g x)) (hl : l.length ≤ 140737488355328) : ∀ (d i K : Nat), i + d = l.length → d < K → ((l.drop i).any g = false ∧ ∃ z, slices_IndexFunc_plan_step_1_l1 t n K l (l.length : Int) (i : Int) = some (.inr z)) ∨ ((l.drop i).any g = true ∧ ∃ j : Nat, slices_IndexFunc_plan_step_1_l1 t n K l (l.length : Int) (i : Int) = some (.inl (j : Int)))
  | 0, i, K, hi, hk => by
    obtain ⟨K, rfl⟩ : ∃ j, K = j + 1 := ⟨K - 1, by omega⟩
    exact .inl ⟨by rw [List.drop_of_length_le (by omega)]; rfl, _, by rw [slices_IndexFunc_plan_step_1_l1, if_neg (by simp; omega)]⟩
  | d + 1, i, K, hi, hk => by
    obtain ⟨K, rfl⟩ : ∃ j, K = j + 1 := ⟨K - 1, by omega⟩
    obtain ⟨x, x1, x3, x2⟩ := at_ (l := l) (i := i) (by omega)
    have hx := H x x3
    have ih := plan_step_1_l (n := n) H hl d (i + 1) K (by omega) (by omega)
    rw [slices_IndexFunc_plan_step_1_l1, if_pos (by simp; omega), if_pos (by simp), Int.toNat_natCast, x1, x2, wr1 (i := i) (L := l.length) (by omega) hl, List.any_cons]
    generalize g x = q at hx ⊢
    clear x1 x2 x3
    simp only [hx]
    cases q
    · rw [if_neg (by simp), Bool.false_or]
      exact ih
    · rw [if_pos rfl, Bool.true_or]
      exact .inr ⟨rfl, i, rfl⟩
theorem plan_step_1_c {l : List ByteArray} {g : ByteArray → Bool} (H : ∀ x ∈ l, Ev fun n => (tab n).plan_step_1 x = some (g x)) (hl : l.length ≤ 140737488355328) : Ev fun n => (tab n).slices_ContainsFunc_plan_step_1 l = some (l.any g) := by
  refine Ev.step (Ev.step (((Ev.all l H).and (Ev.ge (l.length + 1))).mono fun n hh => ?_))
  rw [tab_slices_ContainsFunc_plan_step_1]
  simp only [slices_ContainsFunc_plan_step_1, tab_slices_IndexFunc_plan_step_1, slices_IndexFunc_plan_step_1]
  rcases plan_step_1_l (n := n) hh.1 hl l.length 0 n (by omega) (by omega) with ⟨h, z, g⟩ | ⟨h, j, g⟩
  · rw [show ((0 : Nat) : Int) = 0 from rfl] at g
    rw [List.drop_zero] at h
    simp only [g, h]
    rfl
  · rw [show ((0 : Nat) : Int) = 0 from rfl] at g
    rw [List.drop_zero] at h
    simp only [g, h]
    simp
theorem plan_some_1_1_i2_l {t : Tab} {n : Nat} {l : List (List GStep)} {e0 : List Int} {g : (List GStep) → Bool} (H : ∀ x ∈ l, t.plan_some_1_1_plan_Uses_1 x e0 = some (g x)) (hl : l.length ≤ 140737488355328) : ∀ (d i K : Nat), i + d = l.length → d < K → ((l.drop i).any g = false ∧ ∃ z, slices_IndexFunc_plan_some_1_1_i2_l1 t n K l e0 (l.length : Int) (i : Int) = some (.inr z)) ∨ ((l.drop i).any g = true ∧ ∃ j : Nat, slices_IndexFunc_plan_some_1_1_i2_l1 t n K l e0 (l.length : Int) (i : Int) = some (.inl (j : Int)))
  | 0, i, K, hi, hk => by
    obtain ⟨K, rfl⟩ : ∃ j, K = j + 1 := ⟨K - 1, by omega⟩
    exact .inl ⟨by rw [List.drop_of_length_le (by omega)]; rfl, _, by rw [slices_IndexFunc_plan_some_1_1_i2_l1, if_neg (by simp; omega)]⟩
  | d + 1, i, K, hi, hk => by
    obtain ⟨K, rfl⟩ : ∃ j, K = j + 1 := ⟨K - 1, by omega⟩
    obtain ⟨x, x1, x3, x2⟩ := at_ (l := l) (i := i) (by omega)
    have hx := H x x3
    have ih := plan_some_1_1_i2_l (n := n) H hl d (i + 1) K (by omega) (by omega)
    rw [slices_IndexFunc_plan_some_1_1_i2_l1, if_pos (by simp; omega), if_pos (by simp), Int.toNat_natCast, x1, x2, wr1 (i := i) (L := l.length) (by omega) hl, List.any_cons]
    generalize g x = q at hx ⊢
    clear x1 x2 x3
    simp only [hx]
    cases q
    · rw [if_neg (by simp), Bool.false_or]
      exact ih
    · rw [if_pos rfl, Bool.true_or]
      exact .inr ⟨rfl, i, rfl⟩
theorem plan_some_1_1_i2_c {l : List (List GStep)} {e0 : List Int} {g : (List GStep) → Bool} (H : ∀ x ∈ l, Ev fun n => (tab n).plan_some_1_1_plan_Uses_1 x e0 = some (g x)) (hl : l.length ≤ 140737488355328) : Ev fun n => (tab n).slices_ContainsFunc_plan_some_1_1_i2 l e0 = some (l.any g) := by
  refine Ev.step (Ev.step (((Ev.all l H).and (Ev.ge (l.length + 1))).mono fun n hh => ?_))
  rw [tab_slices_ContainsFunc_plan_some_1_1_i2]
  simp only [slices_ContainsFunc_plan_some_1_1_i2, tab_slices_IndexFunc_plan_some_1_1_i2, slices_IndexFunc_plan_some_1_1_i2]
  rcases plan_some_1_1_i2_l (n := n) hh.1 hl l.length 0 n (by omega) (by omega) with ⟨h, z, g⟩ | ⟨h, j, g⟩
  · rw [show ((0 : Nat) : Int) = 0 from rfl] at g
    rw [List.drop_zero] at h
    simp only [g, h]
    rfl
  · rw [show ((0 : Nat) : Int) = 0 from rfl] at g
    rw [List.drop_zero] at h
    simp only [g, h]
    simp
theorem plan_numbers_1_l {t : Tab} {n : Nat} {l : List Int} {g : Int → Bool} (H : ∀ x ∈ l, t.plan_numbers_1 x = some (g x)) (hl : l.length ≤ 140737488355328) : ∀ (d i K : Nat), i + d = l.length → d < K → ((l.drop i).any g = false ∧ ∃ z, slices_IndexFunc_plan_numbers_1_l1 t n K l (l.length : Int) (i : Int) = some (.inr z)) ∨ ((l.drop i).any g = true ∧ ∃ j : Nat, slices_IndexFunc_plan_numbers_1_l1 t n K l (l.length : Int) (i : Int) = some (.inl (j : Int)))
  | 0, i, K, hi, hk => by
    obtain ⟨K, rfl⟩ : ∃ j, K = j + 1 := ⟨K - 1, by omega⟩
    exact .inl ⟨by rw [List.drop_of_length_le (by omega)]; rfl, _, by rw [slices_IndexFunc_plan_numbers_1_l1, if_neg (by simp; omega)]⟩
  | d + 1, i, K, hi, hk => by
    obtain ⟨K, rfl⟩ : ∃ j, K = j + 1 := ⟨K - 1, by omega⟩
    obtain ⟨x, x1, x3, x2⟩ := at_ (l := l) (i := i) (by omega)
    have hx := H x x3
    have ih := plan_numbers_1_l (n := n) H hl d (i + 1) K (by omega) (by omega)
    rw [slices_IndexFunc_plan_numbers_1_l1, if_pos (by simp; omega), if_pos (by simp), Int.toNat_natCast, x1, x2, wr1 (i := i) (L := l.length) (by omega) hl, List.any_cons]
    generalize g x = q at hx ⊢
    clear x1 x2 x3
    simp only [hx]
    cases q
    · rw [if_neg (by simp), Bool.false_or]
      exact ih
    · rw [if_pos rfl, Bool.true_or]
      exact .inr ⟨rfl, i, rfl⟩
theorem plan_numbers_1_c {l : List Int} {g : Int → Bool} (H : ∀ x ∈ l, Ev fun n => (tab n).plan_numbers_1 x = some (g x)) (hl : l.length ≤ 140737488355328) : Ev fun n => (tab n).slices_ContainsFunc_plan_numbers_1 l = some (l.any g) := by
  refine Ev.step (Ev.step (((Ev.all l H).and (Ev.ge (l.length + 1))).mono fun n hh => ?_))
  rw [tab_slices_ContainsFunc_plan_numbers_1]
  simp only [slices_ContainsFunc_plan_numbers_1, tab_slices_IndexFunc_plan_numbers_1, slices_IndexFunc_plan_numbers_1]
  rcases plan_numbers_1_l (n := n) hh.1 hl l.length 0 n (by omega) (by omega) with ⟨h, z, g⟩ | ⟨h, j, g⟩
  · rw [show ((0 : Nat) : Int) = 0 from rfl] at g
    rw [List.drop_zero] at h
    simp only [g, h]
    rfl
  · rw [show ((0 : Nat) : Int) = 0 from rfl] at g
    rw [List.drop_zero] at h
    simp only [g, h]
    simp
/-- The same, one by one? -/
def eqL {α : Type _} (f : α → α → Bool) : List α → List α → Bool
  | [], [] => true
  | x :: xs, y :: ys => f x y && eqL f xs ys
  | _, _ => false
theorem eqL_len {α : Type _} {f : α → α → Bool} : ∀ {a b : List α}, a.length ≠ b.length → eqL f a b = false
  | [], [], h => absurd rfl h
  | [], _ :: _, _ => rfl
  | _ :: _, [], _ => rfl
  | x :: xs, y :: ys, h => by
    rw [eqL, eqL_len (a := xs) (b := ys) (fun e => h (by simp [e])), Bool.and_false]
theorem index_string_l {t : Tab} {n : Nat} {l : List ByteArray} {v : ByteArray} (hl : l.length ≤ 140737488355328) : ∀ (d i K : Nat), i + d = l.length → d < K → ((l.drop i).any (fun y => v.toList == y.toList) = false ∧ ∃ z, slices_Index_string_l1 t n K l v (l.length : Int) (i : Int) = some (.inr z)) ∨ ((l.drop i).any (fun y => v.toList == y.toList) = true ∧ ∃ j : Nat, slices_Index_string_l1 t n K l v (l.length : Int) (i : Int) = some (.inl (j : Int)))
  | 0, i, K, hi, hk => by
    obtain ⟨K, rfl⟩ : ∃ j, K = j + 1 := ⟨K - 1, by omega⟩
    exact .inl ⟨by rw [List.drop_of_length_le (by omega)]; rfl, _, by rw [slices_Index_string_l1, if_neg (by simp; omega)]⟩
  | d + 1, i, K, hi, hk => by
    obtain ⟨K, rfl⟩ : ∃ j, K = j + 1 := ⟨K - 1, by omega⟩
    obtain ⟨x, x1, x3, x2⟩ := at_ (l := l) (i := i) (by omega)
    have ih := index_string_l (t := t) (n := n) (v := v) hl d (i + 1) K (by omega) (by omega)
    rw [slices_Index_string_l1, if_pos (by simp; omega), if_pos (by simp), Int.toNat_natCast, x1, x2, wr1 (i := i) (L := l.length) (by omega) hl, List.any_cons]
    dsimp only
    generalize (v.toList == x.toList) = q
    cases q
    · rw [if_neg (by simp), Bool.false_or]
      exact ih
    · rw [if_pos rfl, Bool.true_or]
      exact .inr ⟨rfl, i, rfl⟩
theorem contains_string_c {l : List ByteArray} {v : ByteArray} (hl : l.length ≤ 140737488355328) : Ev fun n => (tab n).slices_Contains_string l v = some (l.any (fun y => v.toList == y.toList)) := by
  refine Ev.step (Ev.step ((Ev.ge (l.length + 1)).mono fun n hh => ?_))
  rw [tab_slices_Contains_string]
  simp only [slices_Contains_string, tab_slices_Index_string, slices_Index_string]
  rcases index_string_l (t := tab n) (n := n) (v := v) hl l.length 0 n (by omega) (by omega) with ⟨h, z, g⟩ | ⟨h, j, g⟩
  · rw [show ((0 : Nat) : Int) = 0 from rfl] at g
    rw [List.drop_zero] at h
    simp only [g, h]
    rfl
  · rw [show ((0 : Nat) : Int) = 0 from rfl] at g
    rw [List.drop_zero] at h
    simp only [g, h]
    simp
theorem index_int_l {t : Tab} {n : Nat} {l : List Int} {v : Int} (hl : l.length ≤ 140737488355328) : ∀ (d i K : Nat), i + d = l.length → d < K → ((l.drop i).any (fun y => v == y) = false ∧ ∃ z, slices_Index_int_l1 t n K l v (l.length : Int) (i : Int) = some (.inr z)) ∨ ((l.drop i).any (fun y => v == y) = true ∧ ∃ j : Nat, slices_Index_int_l1 t n K l v (l.length : Int) (i : Int) = some (.inl (j : Int)))
  | 0, i, K, hi, hk => by
    obtain ⟨K, rfl⟩ : ∃ j, K = j + 1 := ⟨K - 1, by omega⟩
    exact .inl ⟨by rw [List.drop_of_length_le (by omega)]; rfl, _, by rw [slices_Index_int_l1, if_neg (by simp; omega)]⟩
  | d + 1, i, K, hi, hk => by
    obtain ⟨K, rfl⟩ : ∃ j, K = j + 1 := ⟨K - 1, by omega⟩
    obtain ⟨x, x1, x3, x2⟩ := at_ (l := l) (i := i) (by omega)
    have ih := index_int_l (t := t) (n := n) (v := v) hl d (i + 1) K (by omega) (by omega)
    rw [slices_Index_int_l1, if_pos (by simp; omega), if_pos (by simp), Int.toNat_natCast, x1, x2, wr1 (i := i) (L := l.length) (by omega) hl, List.any_cons]
    dsimp only
    generalize (v == x) = q
    cases q
    · rw [if_neg (by simp), Bool.false_or]
      exact ih
    · rw [if_pos rfl, Bool.true_or]
      exact .inr ⟨rfl, i, rfl⟩
theorem contains_int_c {l : List Int} {v : Int} (hl : l.length ≤ 140737488355328) : Ev fun n => (tab n).slices_Contains_int l v = some (l.any (fun y => v == y)) := by
  refine Ev.step (Ev.step ((Ev.ge (l.length + 1)).mono fun n hh => ?_))
  rw [tab_slices_Contains_int]
  simp only [slices_Contains_int, tab_slices_Index_int, slices_Index_int]
  rcases index_int_l (t := tab n) (n := n) (v := v) hl l.length 0 n (by omega) (by omega) with ⟨h, z, g⟩ | ⟨h, j, g⟩
  · rw [show ((0 : Nat) : Int) = 0 from rfl] at g
    rw [List.drop_zero] at h
    simp only [g, h]
    rfl
  · rw [show ((0 : Nat) : Int) = 0 from rfl] at g
    rw [List.drop_zero] at h
    simp only [g, h]
    simp
end Go.Proofs.YtgkfjhfehdefaaaGreatDoor.W
