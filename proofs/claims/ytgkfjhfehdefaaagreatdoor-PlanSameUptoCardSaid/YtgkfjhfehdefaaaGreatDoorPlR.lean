/- Are two plans the same: the reference's. -/
import Derived.Test.YtgkfjhfehdefaaaGreatDoorPlS
namespace Go.Proofs.YtgkfjhfehdefaaaGreatDoor.W
open Go.Proofs.YtgkfjhfehdefaaaGreatDoor.Flat
set_option linter.unusedVariables false
set_option linter.unusedSimpArgs false
theorem ref12_sameTexts_rl {t : Tab} {n : Nat} {a b : List ByteArray} (hq : a.length = b.length) (hl : a.length ≤ 4194304) : ∀ (d i K : Nat), i + d = a.length → d < K → (eqL (fun x y => x.toList == y.toList) (a.drop i) (b.drop i) = true ∧ ∃ z, ref12_sameTexts_l1 t n K a b (i : Int) = some (.inr z)) ∨ (eqL (fun x y => x.toList == y.toList) (a.drop i) (b.drop i) = false ∧ ref12_sameTexts_l1 t n K a b (i : Int) = some (.inl false))
  | 0, i, K, hi, hk => by
    obtain ⟨K, rfl⟩ : ∃ j, K = j + 1 := ⟨K - 1, by omega⟩
    exact .inl ⟨by rw [List.drop_of_length_le (by omega), List.drop_of_length_le (by omega)]; rfl, _, by rw [ref12_sameTexts_l1, if_neg (by simp; omega)]⟩
  | d + 1, i, K, hi, hk => by
    obtain ⟨K, rfl⟩ : ∃ j, K = j + 1 := ⟨K - 1, by omega⟩
    obtain ⟨x, x1, x3, x2⟩ := at_ (l := a) (i := i) (by omega)
    obtain ⟨y, y1, y3, y2⟩ := at_ (l := b) (i := i) (by omega)
    have ih := ref12_sameTexts_rl (t := t) (n := n) hq hl d (i + 1) K (by omega) (by omega)
    rw [ref12_sameTexts_l1, if_pos (by simp; omega), if_pos (by simp), Int.toNat_natCast, x1, y1, x2, y2, wr1 (i := i) (L := a.length) (by omega) (by omega), eqL]
    dsimp only
    generalize (x.toList == y.toList) = q
    cases q
    · rw [if_neg (by simp), Bool.false_and]; exact .inr ⟨rfl, rfl⟩
    · rw [if_pos rfl, Bool.true_and]; exact ih
theorem ref12_sameTexts_re {a b : List ByteArray} (hl : a.length ≤ 4194304) : Ev fun n => (tab n).ref12_sameTexts a b = some (eqL (fun x y => x.toList == y.toList) a b) := by
  refine Ev.step (((Ev.ge (a.length + 1))).mono fun n hh => ?_)
  rw [tab_ref12_sameTexts, ref12_sameTexts]
  by_cases hq : a.length = b.length
  · rw [if_neg (by simp; omega)]
    rcases ref12_sameTexts_rl (t := tab n) (n := n) (a := a) (b := b) hq hl a.length 0 n (by omega) (by omega) with ⟨h, z, g⟩ | ⟨h, g⟩
    · rw [show ((0 : Nat) : Int) = 0 from rfl] at g
      rw [List.drop_zero, List.drop_zero] at h
      simp only [g, h]
    · rw [show ((0 : Nat) : Int) = 0 from rfl] at g
      rw [List.drop_zero, List.drop_zero] at h
      simp only [g, h]
  · rw [if_pos (by simp; omega), eqL_len hq]
theorem ref12_sameNumbers_rl {t : Tab} {n : Nat} {a b : List Int} (hq : a.length = b.length) (hl : a.length ≤ 4194304) : ∀ (d i K : Nat), i + d = a.length → d < K → (eqL (fun x y => x == y) (a.drop i) (b.drop i) = true ∧ ∃ z, ref12_sameNumbers_l1 t n K a b (i : Int) = some (.inr z)) ∨ (eqL (fun x y => x == y) (a.drop i) (b.drop i) = false ∧ ref12_sameNumbers_l1 t n K a b (i : Int) = some (.inl false))
  | 0, i, K, hi, hk => by
    obtain ⟨K, rfl⟩ : ∃ j, K = j + 1 := ⟨K - 1, by omega⟩
    exact .inl ⟨by rw [List.drop_of_length_le (by omega), List.drop_of_length_le (by omega)]; rfl, _, by rw [ref12_sameNumbers_l1, if_neg (by simp; omega)]⟩
  | d + 1, i, K, hi, hk => by
    obtain ⟨K, rfl⟩ : ∃ j, K = j + 1 := ⟨K - 1, by omega⟩
    obtain ⟨x, x1, x3, x2⟩ := at_ (l := a) (i := i) (by omega)
    obtain ⟨y, y1, y3, y2⟩ := at_ (l := b) (i := i) (by omega)
    have ih := ref12_sameNumbers_rl (t := t) (n := n) hq hl d (i + 1) K (by omega) (by omega)
    rw [ref12_sameNumbers_l1, if_pos (by simp; omega), if_pos (by simp), Int.toNat_natCast, x1, y1, x2, y2, wr1 (i := i) (L := a.length) (by omega) (by omega), eqL]
    dsimp only
    rw [bne]
    generalize (x == y) = q
    cases q
    · rw [if_pos (by simp), Bool.false_and]; exact .inr ⟨rfl, rfl⟩
    · rw [if_neg (by simp), Bool.true_and]; exact ih
theorem ref12_sameNumbers_re {a b : List Int} (hl : a.length ≤ 4194304) : Ev fun n => (tab n).ref12_sameNumbers a b = some (eqL (fun x y => x == y) a b) := by
  refine Ev.step (((Ev.ge (a.length + 1))).mono fun n hh => ?_)
  rw [tab_ref12_sameNumbers, ref12_sameNumbers]
  by_cases hq : a.length = b.length
  · rw [if_neg (by simp; omega)]
    rcases ref12_sameNumbers_rl (t := tab n) (n := n) (a := a) (b := b) hq hl a.length 0 n (by omega) (by omega) with ⟨h, z, g⟩ | ⟨h, g⟩
    · rw [show ((0 : Nat) : Int) = 0 from rfl] at g
      rw [List.drop_zero, List.drop_zero] at h
      simp only [g, h]
    · rw [show ((0 : Nat) : Int) = 0 from rfl] at g
      rw [List.drop_zero, List.drop_zero] at h
      simp only [g, h]
  · rw [if_pos (by simp; omega), eqL_len hq]
theorem ref02_SameRows_rl {t : Tab} {n : Nat} {a b : List GValue} (H : ∀ x ∈ a, ∀ y ∈ b, t.ref02_Same x y = some (cmp x y == 0)) (hq : a.length = b.length) (hl : a.length ≤ 4194304) : ∀ (d i K : Nat), i + d = a.length → d < K → (eqL (fun x y => cmp x y == 0) (a.drop i) (b.drop i) = true ∧ ∃ z, ref02_SameRows_l1 t n K a b (i : Int) = some (.inr z)) ∨ (eqL (fun x y => cmp x y == 0) (a.drop i) (b.drop i) = false ∧ ref02_SameRows_l1 t n K a b (i : Int) = some (.inl false))
  | 0, i, K, hi, hk => by
    obtain ⟨K, rfl⟩ : ∃ j, K = j + 1 := ⟨K - 1, by omega⟩
    exact .inl ⟨by rw [List.drop_of_length_le (by omega), List.drop_of_length_le (by omega)]; rfl, _, by rw [ref02_SameRows_l1, if_neg (by simp; omega)]⟩
  | d + 1, i, K, hi, hk => by
    obtain ⟨K, rfl⟩ : ∃ j, K = j + 1 := ⟨K - 1, by omega⟩
    obtain ⟨x, x1, x3, x2⟩ := at_ (l := a) (i := i) (by omega)
    obtain ⟨y, y1, y3, y2⟩ := at_ (l := b) (i := i) (by omega)
    have ih := ref02_SameRows_rl (t := t) (n := n) H hq hl d (i + 1) K (by omega) (by omega)
    rw [ref02_SameRows_l1, if_pos (by simp; omega), if_pos (by simp), Int.toNat_natCast, x1, y1, x2, y2, wr1 (i := i) (L := a.length) (by omega) (by omega), eqL]
    have hx := H x x3 y y3
    generalize (cmp x y == 0) = q at hx ⊢
    clear x1 x2 x3 y1 y2 y3
    cases x
    cases y
    simp only [hx]
    cases q
    · rw [if_neg (by simp), Bool.false_and]; exact .inr ⟨rfl, rfl⟩
    · rw [if_pos rfl, Bool.true_and]; exact ih
theorem ref02_SameRows_re {a b : List GValue} (H : ∀ x ∈ a, ∀ y ∈ b, Ev fun n => (tab n).ref02_Same x y = some (cmp x y == 0)) (hl : a.length ≤ 4194304) : Ev fun n => (tab n).ref02_SameRows a b = some (eqL (fun x y => cmp x y == 0) a b) := by
  refine Ev.step (((Ev.all2 a b H).and (Ev.ge (a.length + 1))).mono fun n hh => ?_)
  rw [tab_ref02_SameRows, ref02_SameRows]
  by_cases hq : a.length = b.length
  · rw [if_neg (by simp; omega)]
    rcases ref02_SameRows_rl (t := tab n) (n := n) (a := a) (b := b) hh.1 hq hl a.length 0 n (by omega) (by have := hh.2; omega) with ⟨h, z, g⟩ | ⟨h, g⟩
    · rw [show ((0 : Nat) : Int) = 0 from rfl] at g
      rw [List.drop_zero, List.drop_zero] at h
      simp only [g, h]
    · rw [show ((0 : Nat) : Int) = 0 from rfl] at g
      rw [List.drop_zero, List.drop_zero] at h
      simp only [g, h]
  · rw [if_pos (by simp; omega), eqL_len hq]
theorem r9Same_l {t : Tab} {n : Nat} {a b : List GPred} {k k' : Int} {v v' : List GValue} {f : GPred → GPred → Bool} (H : ∀ x ∈ a, ∀ y ∈ b, t.ref09_Same x y = some (f x y)) (hq : a.length = b.length) (hl : a.length ≤ 4194304) : ∀ (d i K : Nat), i + d = a.length → d < K → (eqL f (a.drop i) (b.drop i) = true ∧ ∃ z, ref09_Same_l2 t n K (i : Int) k v a k' v' b = some (.inr z)) ∨ (eqL f (a.drop i) (b.drop i) = false ∧ ref09_Same_l2 t n K (i : Int) k v a k' v' b = some (.inl false))
  | 0, i, K, hi, hk => by
    obtain ⟨K, rfl⟩ : ∃ j, K = j + 1 := ⟨K - 1, by omega⟩
    exact .inl ⟨by rw [List.drop_of_length_le (by omega), List.drop_of_length_le (by omega)]; rfl, _, by rw [ref09_Same_l2, if_neg (by simp; omega)]⟩
  | d + 1, i, K, hi, hk => by
    obtain ⟨K, rfl⟩ : ∃ j, K = j + 1 := ⟨K - 1, by omega⟩
    obtain ⟨x, x1, x3, x2⟩ := at_ (l := a) (i := i) (by omega)
    obtain ⟨y, y1, y3, y2⟩ := at_ (l := b) (i := i) (by omega)
    have ih := r9Same_l (n := n) (k := k) (k' := k') (v := v) (v' := v') H hq hl d (i + 1) K (by omega) (by omega)
    rw [ref09_Same_l2, if_pos (by simp; omega), if_pos (by simp), Int.toNat_natCast, x1, y1, x2, y2, wr1 (i := i) (L := a.length) (by omega) (by omega), eqL]
    have hx := H x x3 y y3
    generalize f x y = q at hx ⊢
    clear x1 x2 x3 y1 y2 y3
    cases x
    cases y
    simp only [hx]
    cases q
    · rw [if_neg (by simp), Bool.false_and]; exact .inr ⟨rfl, rfl⟩
    · rw [if_pos rfl, Bool.true_and]; exact ih
theorem r9Same_ev : ∀ (f : Nat) (a b : GPred), a.t.wt ≤ f → f ≤ 2097152 → PIn a → PIn b → Ev fun n => (tab n).ref09_Same a b = some (sameP f a b)
  | 0, a, b, h, _, _, _ => by have := wt_pos a.t; omega
  | f + 1, .mk k v p, .mk k' v' p', h, hf, ha, hb => by
    simp only [GPred.t, T.wt, wts, GValue.ts_map, GPred.ts_map] at h
    have l1 := wts_mlen (f := GValue.t) v
    have l2 := wts_mlen (f := GPred.t) p
    cases ha with
    | mk hv hp av ap =>
    cases hb with
    | mk hv' hp' av' ap' =>
    have e1 := ref02_SameRows_re (a := v) (b := v') (fun x hx y hy => refSame_ev (av x hx) (av' y hy)) (by omega)
    have e2 := Ev.all2 (p := fun x y n => (tab n).ref09_Same x y = some (sameP f x y)) p p' (fun x hx y hy => r9Same_ev f x y (by have := wts_map (f := GPred.t) hx; omega) (by omega) (ap x hx) (ap' y hy))
    refine Ev.step ((e1.and (e2.and (Ev.ge (p.length + 1)))).mono fun n hh => ?_)
    obtain ⟨h1, h2, h3⟩ := hh
    rw [tab_ref09_Same, ref09_Same, h1, sameP, bne]
    generalize (k == k') = q1
    generalize eqL (fun x y => cmp x y == 0) v v' = q2
    cases q1
    · rw [if_pos (by simp)]; simp
    rw [if_neg (by simp)]
    cases q2
    · simp
    dsimp only
    rw [if_pos rfl]
    by_cases hq : p.length = p'.length
    · rw [if_neg (by simp; omega), ref09_Same_j1]
      rcases r9Same_l (n := n) (k := k) (k' := k') (v := v) (v' := v') h2 hq (by omega) p.length 0 n (by omega) (by omega) with ⟨h, ⟨z1, z2, z3, z4, z5, z6, z7, z8⟩, g⟩ | ⟨h, g⟩
      · rw [show ((0 : Nat) : Int) = 0 from rfl] at g
        rw [List.drop_zero, List.drop_zero] at h
        simp only [g, h]
        rfl
      · rw [show ((0 : Nat) : Int) = 0 from rfl] at g
        rw [List.drop_zero, List.drop_zero] at h
        simp only [g, h]
        rfl
    · rw [if_pos (by simp; omega), eqL_len hq]
      simp
section
variable {t : Tab} {n : Nat} {a b : List GStep} {i0 op op' : Int} {S As S' As' : List ByteArray} {N N' : List Int} {v1 v2 w1 w2 : Int} {v3 w3 : ByteArray} {v4 v5 w4 w5 : List GValue} {p1 q1 : Int} {p2 q2 : List GValue} {p3 q3 : List GPred} {Ts Ts' : List (List GStep)} {By By' : List GBy} {R : List GStep → List GStep → Bool}
theorem rs_l3 (H : ∀ x ∈ Ts, ∀ y ∈ Ts', t.ref12_Same x y = some (R x y)) (hq : Ts.length = Ts'.length) (hl : Ts.length ≤ 4194304) : ∀ (d i K : Nat), i + d = Ts.length → d < K → (eqL R (Ts.drop i) (Ts'.drop i) = true ∧ ∃ z1 z2, ref12_Same_l3 t n K a b i0 (i : Int) op S N v1 v2 v3 v4 v5 p1 p2 p3 Ts By As op' S' N' w1 w2 w3 w4 w5 q1 q2 q3 Ts' By' As' = some (.inr (a, b, i0, z1, z2, op, S, N, v1, v2, v3, v4, v5, p1, p2, p3, Ts, By, As, op', S', N', w1, w2, w3, w4, w5, q1, q2, q3, Ts', By', As'))) ∨ (eqL R (Ts.drop i) (Ts'.drop i) = false ∧ ref12_Same_l3 t n K a b i0 (i : Int) op S N v1 v2 v3 v4 v5 p1 p2 p3 Ts By As op' S' N' w1 w2 w3 w4 w5 q1 q2 q3 Ts' By' As' = some (.inl false))
  | 0, i, K, hi, hk => by
    obtain ⟨K, rfl⟩ : ∃ j, K = j + 1 := ⟨K - 1, by omega⟩
    exact .inl ⟨by rw [List.drop_of_length_le (by omega), List.drop_of_length_le (by omega)]; rfl, _, _, by rw [ref12_Same_l3, if_neg (by simp; omega)]⟩
  | d + 1, i, K, hi, hk => by
    obtain ⟨K, rfl⟩ : ∃ j, K = j + 1 := ⟨K - 1, by omega⟩
    obtain ⟨x, x1, x3, x2⟩ := at_ (l := Ts) (i := i) (by omega)
    obtain ⟨y, y1, y3, y2⟩ := at_ (l := Ts') (i := i) (by omega)
    have ih := rs_l3 H hq hl d (i + 1) K (by omega) (by omega)
    rw [ref12_Same_l3, if_pos (by simp; omega), if_pos (by simp), Int.toNat_natCast, x1, y1, x2, y2, wr1 (i := i) (L := Ts.length) (by omega) (by omega), eqL]
    simp only [H x x3 y y3]
    cases R x y
    · rw [if_neg (by simp), Bool.false_and]; exact .inr ⟨rfl, rfl⟩
    · rw [if_pos rfl, Bool.true_and]; exact ih
theorem rs_l5 (H : ∀ x ∈ By, ∀ y ∈ By', t.ref12_Same (bT x) (bT y) = some (R (bT x) (bT y))) (hq : By.length = By'.length) (hl : By.length ≤ 4194304) : ∀ (d i K : Nat), i + d = By.length → d < K → (eqL (sameB R) (By.drop i) (By'.drop i) = true ∧ ∃ z1 z2, ref12_Same_l5 t n K a b i0 (i : Int) op S N v1 v2 v3 v4 v5 p1 p2 p3 Ts By As op' S' N' w1 w2 w3 w4 w5 q1 q2 q3 Ts' By' As' = some (.inr (a, b, i0, z1, z2, op, S, N, v1, v2, v3, v4, v5, p1, p2, p3, Ts, By, As, op', S', N', w1, w2, w3, w4, w5, q1, q2, q3, Ts', By', As'))) ∨ (eqL (sameB R) (By.drop i) (By'.drop i) = false ∧ ref12_Same_l5 t n K a b i0 (i : Int) op S N v1 v2 v3 v4 v5 p1 p2 p3 Ts By As op' S' N' w1 w2 w3 w4 w5 q1 q2 q3 Ts' By' As' = some (.inl false))
  | 0, i, K, hi, hk => by
    obtain ⟨K, rfl⟩ : ∃ j, K = j + 1 := ⟨K - 1, by omega⟩
    exact .inl ⟨by rw [List.drop_of_length_le (by omega), List.drop_of_length_le (by omega)]; rfl, _, _, by rw [ref12_Same_l5, if_neg (by simp; omega)]⟩
  | d + 1, i, K, hi, hk => by
    obtain ⟨K, rfl⟩ : ∃ j, K = j + 1 := ⟨K - 1, by omega⟩
    obtain ⟨x, x1, x3, x2⟩ := at_ (l := By) (i := i) (by omega)
    obtain ⟨y, y1, y3, y2⟩ := at_ (l := By') (i := i) (by omega)
    have ih := rs_l5 H hq hl d (i + 1) K (by omega) (by omega)
    rw [ref12_Same_l5, if_pos (by simp; omega), if_pos (by simp), Int.toNat_natCast, x1, y1, x2, y2, wr1 (i := i) (L := By.length) (by omega) (by omega), eqL]
    have hx := H x x3 y y3
    clear x1 x2 x3 y1 y2 y3
    obtain ⟨k1, s1, u1, d1⟩ := x
    obtain ⟨k2, s2, u2, d2⟩ := y
    simp only [bT] at hx
    simp only [hx, sameB, bne]
    generalize (k1 == k2) = c1
    generalize (s1.toList == s2.toList) = c2
    generalize (d1 == d2) = c3
    generalize R u1 u2 = c4
    cases c1
    · simp
    · cases c2
      · simp
      · cases c3
        · simp
        · cases c4
          · simp
          · simpa using ih
theorem rs_j2 (H : ∀ x ∈ Ts, ∀ y ∈ Ts', t.ref12_Same x y = some (R x y)) (hq : Ts.length = Ts'.length) (hl : Ts.length ≤ 4194304) (HB : ∀ x ∈ By, ∀ y ∈ By', t.ref12_Same (bT x) (bT y) = some (R (bT x) (bT y))) (hqB : By.length = By'.length) (hlB : By.length ≤ 4194304) (hn : Ts.length + By.length < n) : ref12_Same_j2 t n a b i0 op S N v1 v2 v3 v4 v5 p1 p2 p3 Ts By As op' S' N' w1 w2 w3 w4 w5 q1 q2 q3 Ts' By' As' = some (if (eqL R Ts Ts' && eqL (sameB R) By By') = true then .inr (a, b, i0) else .inl false) := by
  rw [ref12_Same_j2]
  rcases rs_l3 (n := n) (a := a) (b := b) (i0 := i0) (op := op) (op' := op') (S := S) (As := As) (S' := S') (As' := As') (N := N) (N' := N') (v1 := v1) (v2 := v2) (v3 := v3) (v4 := v4) (v5 := v5) (w1 := w1) (w2 := w2) (w3 := w3) (w4 := w4) (w5 := w5) (p1 := p1) (p2 := p2) (p3 := p3) (q1 := q1) (q2 := q2) (q3 := q3) (By := By) (By' := By') H hq hl Ts.length 0 n (by omega) (by omega) with ⟨h, z1, z2, g⟩ | ⟨h, g⟩
  · rw [show ((0 : Nat) : Int) = 0 from rfl] at g
    rw [List.drop_zero, List.drop_zero] at h
    simp only [g, h, Bool.true_and]
    rw [ref12_Same_j4]
    rcases rs_l5 (n := n) (a := a) (b := b) (i0 := i0) (op := op) (op' := op') (S := S) (As := As) (S' := S') (As' := As') (N := N) (N' := N') (v1 := v1) (v2 := v2) (v3 := v3) (v4 := v4) (v5 := v5) (w1 := w1) (w2 := w2) (w3 := w3) (w4 := w4) (w5 := w5) (p1 := p1) (p2 := p2) (p3 := p3) (q1 := q1) (q2 := q2) (q3 := q3) (Ts := Ts) (Ts' := Ts') HB hqB hlB By.length 0 n (by omega) (by omega) with ⟨h, z1, z2, g⟩ | ⟨h, g⟩
    · rw [show ((0 : Nat) : Int) = 0 from rfl] at g
      rw [List.drop_zero, List.drop_zero] at h
      simp only [g, h, if_true]
    · rw [show ((0 : Nat) : Int) = 0 from rfl] at g
      rw [List.drop_zero, List.drop_zero] at h
      simp [g, h]
  · rw [show ((0 : Nat) : Int) = 0 from rfl] at g
    rw [List.drop_zero, List.drop_zero] at h
    simp [g, h]
end
/-- What one round of the walk needs. -/
def RsAt (R : List GStep → List GStep → Bool) (n : Nat) (x y : GStep) : Prop :=
  (tab n).ref12_sameTexts (sOf x) (sOf y) = some (eqL (fun x y => x.toList == y.toList) (sOf x) (sOf y)) ∧ (tab n).ref12_sameNumbers (nOf x) (nOf y) = some (eqL (fun x y => x == y) (nOf x) (nOf y)) ∧ (tab n).ref12_sameTexts (asOf x) (asOf y) = some (eqL (fun x y => x.toList == y.toList) (asOf x) (asOf y)) ∧ (tab n).ref02_Same (vOf x) (vOf y) = some (cmp (vOf x) (vOf y) == 0) ∧ (tab n).ref09_Same (pOf x) (pOf y) = some (sameP 2097152 (pOf x) (pOf y)) ∧ (∀ u ∈ tOf x, ∀ v ∈ tOf y, (tab n).ref12_Same u v = some (R u v)) ∧ (∀ u ∈ byOf x, ∀ v ∈ byOf y, (tab n).ref12_Same (bT u) (bT v) = some (R (bT u) (bT v))) ∧ (tOf x).length + (byOf x).length < n ∧ (tOf x).length + (byOf x).length ≤ 4194304
theorem rs_l1 {n : Nat} {a b : List GStep} {R : List GStep → List GStep → Bool} (H : ∀ x ∈ a, ∀ y ∈ b, RsAt R n x y) (hq : a.length = b.length) (hl : a.length ≤ 4194304) : ∀ (d i K : Nat), i + d = a.length → d < K → (eqL (sameS R) (a.drop i) (b.drop i) = true ∧ ∃ z, ref12_Same_l1 (tab n) n K a b (i : Int) = some (.inr z)) ∨ (eqL (sameS R) (a.drop i) (b.drop i) = false ∧ ref12_Same_l1 (tab n) n K a b (i : Int) = some (.inl false))
  | 0, i, K, hi, hk => by
    obtain ⟨K, rfl⟩ : ∃ j, K = j + 1 := ⟨K - 1, by omega⟩
    exact .inl ⟨by rw [List.drop_of_length_le (by omega), List.drop_of_length_le (by omega)]; rfl, _, by rw [ref12_Same_l1, if_neg (by simp; omega)]⟩
  | d + 1, i, K, hi, hk => by
    obtain ⟨K, rfl⟩ : ∃ j, K = j + 1 := ⟨K - 1, by omega⟩
    obtain ⟨x, x1, x3, x2⟩ := at_ (l := a) (i := i) (by omega)
    obtain ⟨y, y1, y3, y2⟩ := at_ (l := b) (i := i) (by omega)
    have ih := rs_l1 H hq hl d (i + 1) K (by omega) (by omega)
    obtain ⟨h1, h2, h3, h4, h5, h6, h7, h8, h9⟩ := H x x3 y y3
    rw [ref12_Same_l1, if_pos (by simp; omega), if_pos (by simp), Int.toNat_natCast, x1, y1, x2, y2, eqL]
    have hw := wr1 (i := i) (L := a.length) (by omega) (by omega)
    clear x1 x2 x3 y1 y2 y3 H
    obtain ⟨op, S, N, ⟨v1, v2, v3, v4, v5⟩, ⟨p1, p2, p3⟩, Ts, By, As⟩ := x
    obtain ⟨op', S', N', ⟨w1, w2, w3, w4, w5⟩, ⟨q1, q2, q3⟩, Ts', By', As'⟩ := y
    simp only [sOf, nOf, asOf, vOf, pOf, tOf, byOf] at h1 h2 h3 h4 h5 h6 h7 h8 h9
    simp only [h1, h2, h3, h4, h5, sameS, bne]
    generalize (op == op') = c1
    generalize eqL (fun x y => x.toList == y.toList) S S' = c2
    generalize eqL (fun x y => x == y) N N' = c3
    generalize eqL (fun x y => x.toList == y.toList) As As' = c4
    generalize (cmp (GValue.mk v1 v2 v3 v4 v5) (GValue.mk w1 w2 w3 w4 w5) == 0) = c5
    generalize sameP 2097152 (GPred.mk p1 p2 p3) (GPred.mk q1 q2 q3) = c6
    cases c1
    · simp
    cases c2
    · simp
    cases c3
    · simp
    cases c4
    · simp
    cases c5
    · simp
    cases c6
    · simp
    simp only [Bool.not_true, Bool.false_eq_true, if_false, if_true, Bool.true_and]
    by_cases hT : Ts.length = Ts'.length
    · rw [if_neg (by simp; omega)]
      by_cases hB : By.length = By'.length
      · rw [if_neg (by simp; omega), rs_j2 h6 hT (by omega) h7 hB (by omega) (by omega)]
        generalize eqL R Ts Ts' = c7
        generalize eqL (sameB R) By By' = c8
        cases c7
        · simp
        cases c8
        · simp
        simp only [Bool.and_self, if_true, Bool.true_and, hw]
        exact ih
      · rw [if_pos (by simp; omega), eqL_len hB]
        simp
    · rw [if_pos (by simp; omega), eqL_len hT]
      simp
theorem rsL_ev : ∀ (f : Nat) (a b : List GStep), wL a ≤ f → f ≤ 2097152 → wL b ≤ 2097152 → Ev fun n => (tab n).ref12_Same a b = some (sameL f a b)
  | 0, a, b, h, _, hb => by
    have := wL_len a
    have : a = [] := List.eq_nil_of_length_eq_zero (by omega)
    subst this
    refine Ev.step ((Ev.ge 1).mono fun n hn => ?_)
    obtain ⟨n, rfl⟩ : ∃ j, n = j + 1 := ⟨n - 1, by omega⟩
    rw [tab_ref12_Same, ref12_Same, sameL]
    cases b with
    | nil => simp [ref12_Same_l1, eqL]
    | cons y ys =>
      rw [if_pos (by simp; omega)]
      rfl
  | f + 1, a, b, h, hf, hb => by
    have hin := lin_wt (l := a) (by omega)
    have hin' := lin_wt hb
    have hlen := wL_len a
    have H : Ev fun n => ∀ x ∈ a, ∀ y ∈ b, RsAt (sameL f) n x y := Ev.all2 a b fun x hx y hy => by
      have hsx := hin x hx
      have hsy := hin' y hy
      have wx := wL_mem hx
      have wy := wL_mem hy
      cases hsx with
      | @mk op S N V P Ts By As lS lN lA sS sA iV iP lT lB tl bl aT aB =>
      cases hsy with
      | @mk op' S' N' V' P' Ts' By' As' lS' lN' lA' sS' sA' iV' iP' lT' lB' tl' bl' aT' aB' =>
      simp only [GStep.t, T.wt, wts, rows_GStep_ts_map, GBy.ts_map] at wx wy
      have e1 := ref12_sameTexts_re (a := S) (b := S') (by omega)
      have e2 := ref12_sameNumbers_re (a := N) (b := N') (by omega)
      have e3 := ref12_sameTexts_re (a := As) (b := As') (by omega)
      have e4 := refSame_ev iV iV'
      have e5 := r9Same_ev 2097152 P P' (by omega) (Nat.le_refl _) iP iP'
      have wT : ∀ t ∈ Ts, wL t ≤ f := fun t ht => by
        have := wts_map (f := fun x => T.sl false 14 (GStep.ts x)) ht
        rw [T.wt, GStep.ts_map] at this
        unfold wL
        omega
      have wT' : ∀ t ∈ Ts', wL t ≤ 2097152 := fun t ht => by
        have := wts_map (f := fun x => T.sl false 14 (GStep.ts x)) ht
        rw [T.wt, GStep.ts_map] at this
        unfold wL
        omega
      have wB : ∀ u ∈ By, wL (bT u) ≤ f := fun u hu => by
        have := wts_map (f := GBy.t) hu
        cases u
        simp only [GBy.t, T.wt, wts, GStep.ts_map] at this
        simp only [bT]
        unfold wL
        omega
      have wB' : ∀ u ∈ By', wL (bT u) ≤ 2097152 := fun u hu => by
        have := wts_map (f := GBy.t) hu
        cases u
        simp only [GBy.t, T.wt, wts, GStep.ts_map] at this
        simp only [bT]
        unfold wL
        omega
      have e6 := Ev.all2 (p := fun u v n => (tab n).ref12_Same u v = some (sameL f u v)) Ts Ts' (fun t ht u hu => rsL_ev f t u (wT t ht) (by omega) (wT' u hu))
      have e7 := Ev.all2 (p := fun u v n => (tab n).ref12_Same (bT u) (bT v) = some (sameL f (bT u) (bT v))) By By' (fun u hu v hv => rsL_ev f (bT u) (bT v) (wB u hu) (by omega) (wB' v hv))
      refine (((e1.and (e2.and e3)).and ((e4.and e5).and (e6.and e7))).and (Ev.ge (Ts.length + By.length + 1))).mono fun n hh => ?_
      obtain ⟨⟨⟨h1, h2, h3⟩, ⟨h4, h5⟩, h6, h7⟩, h8⟩ := hh
      exact ⟨h1, h2, h3, h4, h5, h6, h7, by simp only [tOf, byOf]; omega, by simp only [tOf, byOf]; omega⟩
    refine Ev.step ((H.and (Ev.ge (a.length + 1))).mono fun n hh => ?_)
    rw [tab_ref12_Same, ref12_Same, sameL]
    by_cases hq : a.length = b.length
    · rw [if_neg (by simp; omega)]
      rcases rs_l1 hh.1 hq (by omega) a.length 0 n (by omega) (by have := hh.2; omega) with ⟨h, ⟨z1, z2, z3, z4⟩, g⟩ | ⟨h, g⟩
      · rw [show ((0 : Nat) : Int) = 0 from rfl] at g
        rw [List.drop_zero, List.drop_zero] at h
        simp only [g, h]
      · rw [show ((0 : Nat) : Int) = 0 from rfl] at g
        rw [List.drop_zero, List.drop_zero] at h
        simp only [g, h]
    · rw [if_pos (by simp; omega), eqL_len hq]
theorem rSamePl_ev {a b : List GStep} (ha : wL a ≤ 2097152) (hb : wL b ≤ 2097152) : Ev fun n => (tab n).ref12_Same a b = some (samePl a b) := rsL_ev 2097152 a b ha (Nat.le_refl _) hb
end Go.Proofs.YtgkfjhfehdefaaaGreatDoor.W
