/- The least and the greatest value. -/
import Derived.Test.YtokfeoifkpedgaaOneV
namespace Go.Proofs.Ytokfeoifkpedgaa.W
open Go.Proofs.Ytokfeoifkpedgaa.Flat
set_option linter.unusedVariables false
set_option linter.unusedSimpArgs false
def mnL (x : GMany) : List GMany → GMany
  | [] => x
  | y :: ys => mnL (if cmp (vOf y) (vOf x) < 0 then y else x) ys
def mxL (x : GMany) : List GMany → GMany
  | [] => x
  | y :: ys => mxL (if cmp (vOf y) (vOf x) > 0 then y else x) ys
theorem mnL_in : ∀ {l : List GMany} {x : GMany} {P : GMany → Prop}, P x → (∀ y ∈ l, P y) → P (mnL x l)
  | [], _, _, h, _ => h
  | y :: ys, x, P, h, g => by
    rw [mnL]
    refine mnL_in ?_ fun z hz => g z (List.mem_cons_of_mem _ hz)
    split
    · exact g y (List.mem_cons_self ..)
    · exact h
theorem mxL_in : ∀ {l : List GMany} {x : GMany} {P : GMany → Prop}, P x → (∀ y ∈ l, P y) → P (mxL x l)
  | [], _, _, h, _ => h
  | y :: ys, x, P, h, g => by
    rw [mxL]
    refine mxL_in ?_ fun z hz => g z (List.mem_cons_of_mem _ hz)
    split
    · exact g y (List.mem_cons_self ..)
    · exact h
theorem mnL_l {t : Tab} {n : Nat} {l : List GMany} {b1 b2 : Int} {b3 : ByteArray} {b4 b5 : List GValue} {b6 : Int} (hl : l.length ≤ 140737488355328) (H : ∀ x ∈ l, ∀ y ∈ l, t.gather_Ends_1 x y = some (cmp (vOf x) (vOf y))) : ∀ (d i K : Nat) (v1 v2 : Int) (v3 : ByteArray) (v4 v5 : List GValue) (v6 : Int), i + d = l.length → d < K → GMany.mk (GValue.mk v1 v2 v3 v4 v5) v6 ∈ l → ∃ z1 z2, ∃ w1 w2 w3 w4 w5 w6, slices_MinFunc_gather_Ends_1_l2 t n K l (i : Int) b1 b2 b3 b4 b5 b6 v1 v2 v3 v4 v5 v6 = some (l, z1, z2, b1, b2, b3, b4, b5, b6, w1, w2, w3, w4, w5, w6) ∧ GMany.mk (GValue.mk w1 w2 w3 w4 w5) w6 = mnL (GMany.mk (GValue.mk v1 v2 v3 v4 v5) v6) (l.drop i)
  | 0, i, K, v1, v2, v3, v4, v5, v6, hi, hk, hm => by
    obtain ⟨K, rfl⟩ : ∃ j, K = j + 1 := ⟨K - 1, by omega⟩
    refine ⟨_, _, _, _, _, _, _, _, by rw [slices_MinFunc_gather_Ends_1_l2, if_neg (by simp only [decide_eq_true_eq]; omega)], ?_⟩
    rw [List.drop_of_length_le (by omega), mnL]
  | d + 1, i, K, v1, v2, v3, v4, v5, v6, hi, hk, hm => by
    obtain ⟨K, rfl⟩ : ∃ j, K = j + 1 := ⟨K - 1, by omega⟩
    obtain ⟨x, x1, x3, x2⟩ := at_ (l := l) (i := i) (by omega)
    have hx := H x x3 _ hm
    have ei : IntKind.wrap .i64 ((i : Int) + 1) = ((i + 1 : Nat) : Int) := wr1 (i := i) (L := l.length) (by omega) hl
    rw [slices_MinFunc_gather_Ends_1_l2, if_pos (by simp only [decide_eq_true_eq]; omega), if_pos (by simp), Int.toNat_natCast, x1, x2, mnL]
    clear x1 x2
    obtain ⟨⟨w1, w2, w3, w4, w5⟩, w6⟩ := x
    simp only [hx, ei]
    by_cases hc : cmp (vOf (GMany.mk (GValue.mk w1 w2 w3 w4 w5) w6)) (vOf (GMany.mk (GValue.mk v1 v2 v3 v4 v5) v6)) < 0
    · rw [if_pos (by simpa using hc), if_pos hc]
      exact mnL_l hl H d (i + 1) K w1 w2 w3 w4 w5 w6 (by omega) (by omega) x3
    · rw [if_neg (by simpa using hc), if_neg hc]
      exact mnL_l hl H d (i + 1) K v1 v2 v3 v4 v5 v6 (by omega) (by omega) hm
theorem mnL_ev {x : GMany} {xs : List GMany} (hl : (x :: xs).length ≤ 140737488355328) (hv : ∀ y ∈ x :: xs, VIn (vOf y)) : Ev fun n => (tab n).slices_MinFunc_gather_Ends_1 (x :: xs) = some (mnL x xs) := by
  have H : Ev fun n => ∀ a ∈ x :: xs, ∀ b ∈ x :: xs, (tab n).gather_Ends_1 a b = some (cmp (vOf a) (vOf b)) := Ev.all2 _ _ fun a ha b hb => Ev.step ((valCmp_ev (hv a ha) (hv b hb)).mono fun n h => by
    rw [tab_gather_Ends_1]
    obtain ⟨⟨v1, v2, v3, v4, v5⟩, v6⟩ := a
    obtain ⟨⟨w1, w2, w3, w4, w5⟩, w6⟩ := b
    exact h)
  refine Ev.step ((H.and (Ev.ge ((x :: xs).length + 1))).mono fun n hh => ?_)
  obtain ⟨g1, g2⟩ := hh
  rw [tab_slices_MinFunc_gather_Ends_1, slices_MinFunc_gather_Ends_1, if_neg (by simp; omega)]
  obtain ⟨⟨v1, v2, v3, v4, v5⟩, v6⟩ := x
  have h2 := mnL_l (t := tab n) (n := n) (l := GMany.mk (GValue.mk v1 v2 v3 v4 v5) v6 :: xs) (b1 := 0) (b2 := 0) (b3 := ByteArray.empty) (b4 := []) (b5 := []) (b6 := 0) hl g1 xs.length 1 n v1 v2 v3 v4 v5 v6 (by simp; omega) (by simp at g2; omega) (by simp)
  obtain ⟨z1, z2, w1, w2, w3, w4, w5, w6, e1, e2⟩ := h2
  rw [show ((1 : Nat) : Int) = 1 from rfl] at e1
  have ed : (GMany.mk (GValue.mk v1 v2 v3 v4 v5) v6 :: xs).drop 1 = xs := rfl
  rw [ed] at e2
  rw [slices_MinFunc_gather_Ends_1_j1, if_pos (by rfl)]
  simp only [Int.toNat_zero, List.getElem?_cons_zero, e1]
  rw [e2]
theorem mxL_l {t : Tab} {n : Nat} {l : List GMany} {b1 b2 : Int} {b3 : ByteArray} {b4 b5 : List GValue} {b6 : Int} (hl : l.length ≤ 140737488355328) (H : ∀ x ∈ l, ∀ y ∈ l, t.gather_Ends_1 x y = some (cmp (vOf x) (vOf y))) : ∀ (d i K : Nat) (v1 v2 : Int) (v3 : ByteArray) (v4 v5 : List GValue) (v6 : Int), i + d = l.length → d < K → GMany.mk (GValue.mk v1 v2 v3 v4 v5) v6 ∈ l → ∃ z1 z2, ∃ w1 w2 w3 w4 w5 w6, slices_MaxFunc_gather_Ends_1_l2 t n K l (i : Int) b1 b2 b3 b4 b5 b6 v1 v2 v3 v4 v5 v6 = some (l, z1, z2, b1, b2, b3, b4, b5, b6, w1, w2, w3, w4, w5, w6) ∧ GMany.mk (GValue.mk w1 w2 w3 w4 w5) w6 = mxL (GMany.mk (GValue.mk v1 v2 v3 v4 v5) v6) (l.drop i)
  | 0, i, K, v1, v2, v3, v4, v5, v6, hi, hk, hm => by
    obtain ⟨K, rfl⟩ : ∃ j, K = j + 1 := ⟨K - 1, by omega⟩
    refine ⟨_, _, _, _, _, _, _, _, by rw [slices_MaxFunc_gather_Ends_1_l2, if_neg (by simp only [decide_eq_true_eq]; omega)], ?_⟩
    rw [List.drop_of_length_le (by omega), mxL]
  | d + 1, i, K, v1, v2, v3, v4, v5, v6, hi, hk, hm => by
    obtain ⟨K, rfl⟩ : ∃ j, K = j + 1 := ⟨K - 1, by omega⟩
    obtain ⟨x, x1, x3, x2⟩ := at_ (l := l) (i := i) (by omega)
    have hx := H x x3 _ hm
    have ei : IntKind.wrap .i64 ((i : Int) + 1) = ((i + 1 : Nat) : Int) := wr1 (i := i) (L := l.length) (by omega) hl
    rw [slices_MaxFunc_gather_Ends_1_l2, if_pos (by simp only [decide_eq_true_eq]; omega), if_pos (by simp), Int.toNat_natCast, x1, x2, mxL]
    clear x1 x2
    obtain ⟨⟨w1, w2, w3, w4, w5⟩, w6⟩ := x
    simp only [hx, ei]
    by_cases hc : cmp (vOf (GMany.mk (GValue.mk w1 w2 w3 w4 w5) w6)) (vOf (GMany.mk (GValue.mk v1 v2 v3 v4 v5) v6)) > 0
    · rw [if_pos (by simpa using hc), if_pos hc]
      exact mxL_l hl H d (i + 1) K w1 w2 w3 w4 w5 w6 (by omega) (by omega) x3
    · rw [if_neg (by simpa using hc), if_neg hc]
      exact mxL_l hl H d (i + 1) K v1 v2 v3 v4 v5 v6 (by omega) (by omega) hm
theorem mxL_ev {x : GMany} {xs : List GMany} (hl : (x :: xs).length ≤ 140737488355328) (hv : ∀ y ∈ x :: xs, VIn (vOf y)) : Ev fun n => (tab n).slices_MaxFunc_gather_Ends_1 (x :: xs) = some (mxL x xs) := by
  have H : Ev fun n => ∀ a ∈ x :: xs, ∀ b ∈ x :: xs, (tab n).gather_Ends_1 a b = some (cmp (vOf a) (vOf b)) := Ev.all2 _ _ fun a ha b hb => Ev.step ((valCmp_ev (hv a ha) (hv b hb)).mono fun n h => by
    rw [tab_gather_Ends_1]
    obtain ⟨⟨v1, v2, v3, v4, v5⟩, v6⟩ := a
    obtain ⟨⟨w1, w2, w3, w4, w5⟩, w6⟩ := b
    exact h)
  refine Ev.step ((H.and (Ev.ge ((x :: xs).length + 1))).mono fun n hh => ?_)
  obtain ⟨g1, g2⟩ := hh
  rw [tab_slices_MaxFunc_gather_Ends_1, slices_MaxFunc_gather_Ends_1, if_neg (by simp; omega)]
  obtain ⟨⟨v1, v2, v3, v4, v5⟩, v6⟩ := x
  have h2 := mxL_l (t := tab n) (n := n) (l := GMany.mk (GValue.mk v1 v2 v3 v4 v5) v6 :: xs) (b1 := 0) (b2 := 0) (b3 := ByteArray.empty) (b4 := []) (b5 := []) (b6 := 0) hl g1 xs.length 1 n v1 v2 v3 v4 v5 v6 (by simp; omega) (by simp at g2; omega) (by simp)
  obtain ⟨z1, z2, w1, w2, w3, w4, w5, w6, e1, e2⟩ := h2
  rw [show ((1 : Nat) : Int) = 1 from rfl] at e1
  have ed : (GMany.mk (GValue.mk v1 v2 v3 v4 v5) v6 :: xs).drop 1 = xs := rfl
  rw [ed] at e2
  rw [slices_MaxFunc_gather_Ends_1_j1, if_pos (by rfl)]
  simp only [Int.toNat_zero, List.getElem?_cons_zero, e1]
  rw [e2]
/- The reference's. -/
theorem rcmp_ev {a b : GValue} (ha : VIn a) (hb : VIn b) : Ev fun n => (tab n).ref02_Cmp a b = some (cmp a b) :=
  Ev.step ((refcmp_ev 12 (by omega) a b ha hb).mono fun n h => by
    rw [tab_ref02_Cmp]
    cases a
    cases b
    exact h)
theorem rends_l {t : Tab} {n : Nat} {l : List GMany} {c1 c2 : Int} {c3 : ByteArray} {c4 c5 : List GValue} {d1 d2 : Int} {d3 : ByteArray} {d4 d5 : List GValue} (hl : l.length ≤ 140737488355328) (H : ∀ x ∈ l, ∀ y ∈ l, t.ref02_Cmp (vOf x) (vOf y) = some (cmp (vOf x) (vOf y))) : ∀ (d i K : Nat) (p q : GMany) (v1 v2 : Int) (v3 : ByteArray) (v4 v5 : List GValue) (w1 w2 : Int) (w3 : ByteArray) (w4 w5 : List GValue), i + 1 + d = l.length → d < K → p ∈ l → q ∈ l → vOf p = GValue.mk v1 v2 v3 v4 v5 → vOf q = GValue.mk w1 w2 w3 w4 w5 →
    ∃ z1 z2 r1 r2 r3 r4 r5 s1 s2 s3 s4 s5, ref16_Ends_l1 t n K l ((i + 1 : Nat) : Int) c1 c2 c3 c4 c5 d1 d2 d3 d4 d5 v1 v2 v3 v4 v5 w1 w2 w3 w4 w5 = some (l, z1, z2, c1, c2, c3, c4, c5, d1, d2, d3, d4, d5, r1, r2, r3, r4, r5, s1, s2, s3, s4, s5) ∧ GValue.mk r1 r2 r3 r4 r5 = vOf (mnL p (l.drop (i + 1))) ∧ GValue.mk s1 s2 s3 s4 s5 = vOf (mxL q (l.drop (i + 1)))
  | 0, i, K, p, q, v1, v2, v3, v4, v5, w1, w2, w3, w4, w5, hi, hk, hp, hq, ep, eq' => by
    obtain ⟨K, rfl⟩ : ∃ j, K = j + 1 := ⟨K - 1, by omega⟩
    refine ⟨_, _, _, _, _, _, _, _, _, _, _, _, by rw [ref16_Ends_l1, if_neg (by simp only [decide_eq_true_eq]; omega)], ?_, ?_⟩
    · rw [List.drop_of_length_le (by omega), mnL, ep]
    · rw [List.drop_of_length_le (by omega), mxL, eq']
  | d + 1, i, K, p, q, v1, v2, v3, v4, v5, w1, w2, w3, w4, w5, hi, hk, hp, hq, ep, eq' => by
    obtain ⟨K, rfl⟩ : ∃ j, K = j + 1 := ⟨K - 1, by omega⟩
    obtain ⟨x, x1, x3, x2⟩ := at_ (l := l) (i := i + 1) (by omega)
    have h1 := H x x3 p hp
    have h2 := H x x3 q hq
    rw [ep] at h1
    rw [eq'] at h2
    have ei : IntKind.wrap .i64 (((i + 1 : Nat) : Int) + 1) = ((i + 1 + 1 : Nat) : Int) := wr1 (i := i + 1) (L := l.length) (by omega) hl
    have e0 : ((((i + 1 : Nat) : Int)) == 0) = false := by rw [beq_eq_false_iff_ne]; omega
    rw [ref16_Ends_l1, if_pos (by simp only [decide_eq_true_eq]; omega), if_neg (by rw [e0]; simp), if_pos (by simp only [decide_eq_true_eq]; omega), Int.toNat_natCast, x1, x2, mnL, mxL, ep, eq']
    obtain ⟨⟨u1, u2, u3, u4, u5⟩, u6⟩ := x
    have evx : vOf (GMany.mk (GValue.mk u1 u2 u3 u4 u5) u6) = GValue.mk u1 u2 u3 u4 u5 := rfl
    rw [evx] at h1 h2
    simp only [h1, evx]
    have j3 : ∀ r1 r2 r3 r4 r5, ref16_Ends_j3 t n l ((i + 1 : Nat) : Int) c1 c2 c3 c4 c5 d1 d2 d3 d4 d5 r1 r2 r3 r4 r5 w1 w2 w3 w4 w5 = ref16_Ends_j4 t n l ((i + 1 : Nat) : Int) (decide (cmp (GValue.mk u1 u2 u3 u4 u5) (GValue.mk w1 w2 w3 w4 w5) > 0)) c1 c2 c3 c4 c5 d1 d2 d3 d4 d5 r1 r2 r3 r4 r5 w1 w2 w3 w4 w5 := fun r1 r2 r3 r4 r5 => by
      rw [ref16_Ends_j3, if_neg (by rw [e0]; simp), if_pos (by simp only [decide_eq_true_eq]; omega), Int.toNat_natCast, x1]
      dsimp only
      rw [h2]
    have j4 : ∀ r1 r2 r3 r4 r5 (b : Bool), ref16_Ends_j4 t n l ((i + 1 : Nat) : Int) b c1 c2 c3 c4 c5 d1 d2 d3 d4 d5 r1 r2 r3 r4 r5 w1 w2 w3 w4 w5 = if b = true then some (l, ((i + 1 : Nat) : Int), c1, c2, c3, c4, c5, d1, d2, d3, d4, d5, r1, r2, r3, r4, r5, u1, u2, u3, u4, u5) else some (l, ((i + 1 : Nat) : Int), c1, c2, c3, c4, c5, d1, d2, d3, d4, d5, r1, r2, r3, r4, r5, w1, w2, w3, w4, w5) := fun r1 r2 r3 r4 r5 b => by
      rw [ref16_Ends_j4, if_pos (c := decide (0 ≤ ((i + 1 : Nat) : Int)) = true) (by simp only [decide_eq_true_eq]; omega), Int.toNat_natCast, x1]
    have j2 : ∀ b : Bool, ref16_Ends_j2 t n l ((i + 1 : Nat) : Int) b c1 c2 c3 c4 c5 d1 d2 d3 d4 d5 v1 v2 v3 v4 v5 w1 w2 w3 w4 w5 = if b = true then some (l, ((i + 1 : Nat) : Int), c1, c2, c3, c4, c5, d1, d2, d3, d4, d5, u1, u2, u3, u4, u5, w1, w2, w3, w4, w5) else some (l, ((i + 1 : Nat) : Int), c1, c2, c3, c4, c5, d1, d2, d3, d4, d5, v1, v2, v3, v4, v5, w1, w2, w3, w4, w5) := fun b => by
      rw [ref16_Ends_j2, if_pos (c := decide (0 ≤ ((i + 1 : Nat) : Int)) = true) (by simp only [decide_eq_true_eq]; omega), Int.toNat_natCast, x1]
    rw [j2]
    by_cases hc : cmp (GValue.mk u1 u2 u3 u4 u5) (GValue.mk v1 v2 v3 v4 v5) < 0
    · rw [if_pos (by simpa using hc), if_pos hc]
      dsimp only
      rw [j3, j4]
      by_cases hc2 : cmp (GValue.mk u1 u2 u3 u4 u5) (GValue.mk w1 w2 w3 w4 w5) > 0
      · rw [if_pos (by simpa using hc2), if_pos hc2]
        dsimp only
        rw [ei]
        exact rends_l hl H d (i + 1) K _ _ u1 u2 u3 u4 u5 u1 u2 u3 u4 u5 (by omega) (by omega) x3 x3 rfl rfl
      · rw [if_neg (by simpa using hc2), if_neg hc2]
        dsimp only
        rw [ei]
        exact rends_l hl H d (i + 1) K _ q u1 u2 u3 u4 u5 w1 w2 w3 w4 w5 (by omega) (by omega) x3 hq rfl eq'
    · rw [if_neg (by simpa using hc), if_neg hc]
      dsimp only
      rw [j3, j4]
      by_cases hc2 : cmp (GValue.mk u1 u2 u3 u4 u5) (GValue.mk w1 w2 w3 w4 w5) > 0
      · rw [if_pos (by simpa using hc2), if_pos hc2]
        dsimp only
        rw [ei]
        exact rends_l hl H d (i + 1) K p _ v1 v2 v3 v4 v5 u1 u2 u3 u4 u5 (by omega) (by omega) hp x3 ep rfl
      · rw [if_neg (by simpa using hc2), if_neg hc2]
        dsimp only
        rw [ei]
        exact rends_l hl H d (i + 1) K p q v1 v2 v3 v4 v5 w1 w2 w3 w4 w5 (by omega) (by omega) hp hq ep eq'
def zvv : GValue := .mk 0 0 ByteArray.empty [] []
theorem rends_ev {x : GMany} {xs : List GMany} (hl : (x :: xs).length ≤ 140737488355328) (hv : ∀ y ∈ x :: xs, VIn (vOf y)) : Ev fun n => (tab n).ref16_Ends (x :: xs) = some (vOf (mnL x xs), vOf (mxL x xs), true) := by
  have H : Ev fun n => ∀ a ∈ x :: xs, ∀ b ∈ x :: xs, (tab n).ref02_Cmp (vOf a) (vOf b) = some (cmp (vOf a) (vOf b)) := Ev.all2 _ _ fun a ha b hb => rcmp_ev (hv a ha) (hv b hb)
  refine Ev.step ((H.and (Ev.ge ((x :: xs).length + 1))).mono fun n hh => ?_)
  obtain ⟨g1, g2⟩ := hh
  simp only [List.length_cons] at g2
  rw [tab_ref16_Ends, ref16_Ends]
  obtain ⟨⟨v1, v2, v3, v4, v5⟩, v6⟩ := x
  obtain ⟨m, rfl⟩ : ∃ m, n = m + 1 := ⟨n - 1, by omega⟩
  have h2 := rends_l (t := tab (m + 1)) (n := m + 1) (l := GMany.mk (GValue.mk v1 v2 v3 v4 v5) v6 :: xs) (c1 := 0) (c2 := 0) (c3 := ByteArray.empty) (c4 := []) (c5 := []) (d1 := 0) (d2 := 0) (d3 := ByteArray.empty) (d4 := []) (d5 := []) hl g1 xs.length 0 m _ _ v1 v2 v3 v4 v5 v1 v2 v3 v4 v5 (by simp; omega) (by omega) (List.mem_cons_self ..) (List.mem_cons_self ..) rfl rfl
  obtain ⟨z1, z2, r1, r2, r3, r4, r5, s1, s2, s3, s4, s5, e1, e2, e3⟩ := h2
  have st : ref16_Ends_l1 (tab (m + 1)) (m + 1) (m + 1) (GMany.mk (GValue.mk v1 v2 v3 v4 v5) v6 :: xs) 0 0 0 ByteArray.empty [] [] 0 0 ByteArray.empty [] [] 0 0 ByteArray.empty [] [] 0 0 ByteArray.empty [] [] = ref16_Ends_l1 (tab (m + 1)) (m + 1) m (GMany.mk (GValue.mk v1 v2 v3 v4 v5) v6 :: xs) ((0 + 1 : Nat) : Int) 0 0 ByteArray.empty [] [] 0 0 ByteArray.empty [] [] v1 v2 v3 v4 v5 v1 v2 v3 v4 v5 := by
    have ei : IntKind.wrap .i64 ((0 : Int) + 1) = ((0 + 1 : Nat) : Int) := wr (by omega) (by omega)
    conv => lhs; rw [ref16_Ends_l1]
    rw [if_pos (by simp), if_pos (by rfl), ref16_Ends_j2, if_pos rfl, if_pos (by rfl)]
    simp only [Int.toNat_zero, List.getElem?_cons_zero]
    rw [ref16_Ends_j3, if_pos (by rfl), ref16_Ends_j4, if_pos rfl, if_pos (by rfl)]
    simp only [Int.toNat_zero, List.getElem?_cons_zero]
    rw [ei]
  rw [st, e1]
  dsimp only
  rw [ref16_Ends_j5]
  dsimp only
  rw [e2, e3]
  have ed : (GMany.mk (GValue.mk v1 v2 v3 v4 v5) v6 :: xs).drop (0 + 1) = xs := rfl
  rw [ed]
  simp
theorem rends0_ev : Ev fun n => (tab n).ref16_Ends [] = some (zvv, zvv, false) := by
  refine Ev.step ((Ev.ge 1).mono fun n hn => ?_)
  obtain ⟨n, rfl⟩ : ∃ j, n = j + 1 := ⟨n - 1, by omega⟩
  rw [tab_ref16_Ends]
  simp [ref16_Ends, ref16_Ends_l1, ref16_Ends_j5, zvv]
theorem ends0_ev : Ev fun n => (tab n).gather_Ends [] = some (zvv, zvv, false) :=
  Ev.step (Ev.pure fun n => by rw [tab_gather_Ends]; rfl)
theorem ends_ev {x : GMany} {xs : List GMany} (hl : (x :: xs).length ≤ 140737488355328) (hv : ∀ y ∈ x :: xs, VIn (vOf y)) : Ev fun n => (tab n).gather_Ends (x :: xs) = some (cp (vOf (mnL x xs)), cp (vOf (mxL x xs)), true) := by
  have hx := hv x (List.mem_cons_self ..)
  have hxs := fun y hy => hv y (List.mem_cons_of_mem _ hy)
  have e3 := copy_ev (mnL_in (P := fun y => VIn (vOf y)) hx hxs)
  have e4 := copy_ev (mxL_in (P := fun y => VIn (vOf y)) hx hxs)
  refine Ev.step ((((mnL_ev hl hv).and (mxL_ev hl hv)).and (e3.and e4)).mono fun n hh => ?_)
  obtain ⟨⟨g1, g2⟩, g3, g4⟩ := hh
  rw [tab_gather_Ends, gather_Ends, if_neg (by simp; omega), g1]
  generalize mnL x xs = p at g3 ⊢
  generalize mxL x xs = q at g2 g4 ⊢
  obtain ⟨⟨p1, p2, p3, p4, p5⟩, p6⟩ := p
  obtain ⟨⟨q1, q2, q3, q4, q5⟩, q6⟩ := q
  simp only [vOf] at g3 g4 ⊢
  generalize cp (GValue.mk p1 p2 p3 p4 p5) = P at g3 ⊢
  generalize cp (GValue.mk q1 q2 q3 q4 q5) = Q at g4 ⊢
  obtain ⟨r1, r2, r3, r4, r5⟩ := P
  obtain ⟨s1, s2, s3, s4, s5⟩ := Q
  simp only [g3, g2, g4]
end Go.Proofs.Ytokfeoifkpedgaa.W
