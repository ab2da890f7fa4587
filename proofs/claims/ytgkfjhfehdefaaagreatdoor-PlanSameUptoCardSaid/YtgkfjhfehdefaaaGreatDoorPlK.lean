/- Copies. -/
import Derived.Test.YtgkfjhfehdefaaaGreatDoorPlT
namespace Go.Proofs.YtgkfjhfehdefaaaGreatDoor.W
open Go.Proofs.YtgkfjhfehdefaaaGreatDoor.Flat
set_option linter.unusedVariables false
set_option linter.unusedSimpArgs false
/-- A copy: so deep. -/
def cpF : Nat → GValue → GValue
  | 0, .mk k n s _ _ => .mk k n s [] []
  | f + 1, .mk k n s l m => .mk k n s (l.map (cpF f)) (m.map (cpF f))
def cp (v : GValue) : GValue := cpF 12 v
theorem cpF_vin : ∀ (f : Nat) (v : GValue), VIn v → VIn (cpF f v)
  | 0, .mk k n s l m, .mk hs hl hm al am => .mk hs (by simp) (by simp) (by simp) (by simp)
  | f + 1, .mk k n s l m, .mk hs hl hm al am => .mk hs (by rw [List.length_map]; exact hl) (by rw [List.length_map]; exact hm) (fun x hx => by obtain ⟨y, hy, rfl⟩ := List.mem_map.1 hx; exact cpF_vin f y (al y hy)) (fun x hx => by obtain ⟨y, hy, rfl⟩ := List.mem_map.1 hx; exact cpF_vin f y (am y hy))
theorem cmpL_map {f : GValue → GValue → Int} {g : GValue → GValue} (h : ∀ a b, f (g a) b = f a b) : ∀ a b, cmpL f (a.map g) b = cmpL f a b
  | [], [] => rfl
  | [], _ :: _ => rfl
  | _ :: _, [] => rfl
  | a :: xs, b :: ys => by rw [List.map_cons, cmpL, cmpL, h, cmpL_map h xs ys]
theorem cpF_cmp : ∀ (f : Nat) (a b : GValue), cmpV f (cpF f a) b = cmpV f a b
  | 0, .mk .., .mk .. => rfl
  | f + 1, .mk .., .mk .. => by
    rw [cpF, cmpV, cmpV, cmpL_map (cpF_cmp f), cmpL_map (cpF_cmp f)]
    rfl
theorem cp_cmp (a b : GValue) : cmp (cp a) b = cmp a b := cpF_cmp 12 a b
theorem cmp_cp (a b : GValue) : cmp a (cp b) = cmp a b := by
  have h1 := cmpV_neg 12 (cp b) a
  have h2 := cmpV_neg 12 b a
  have h3 := cp_cmp b a
  unfold cmp at *
  omega
theorem vcopied_l {t : Tab} {n : Nat} {dp : Int} {l : List GValue} {g : GValue → GValue} (H : ∀ x ∈ l, t.value_part x dp = some (g x)) (hl : l.length ≤ 1759218604391) : ∀ (d i K : Nat), i + d = l.length → d < K → ∃ z, value_copied_l1 t n K dp ((l.take i).map g) l (l.length : Int) (i : Int) = some (dp, l.map g, z)
  | 0, i, K, hi, hk => by
    obtain ⟨K, rfl⟩ : ∃ j, K = j + 1 := ⟨K - 1, by omega⟩
    exact ⟨_, by rw [value_copied_l1, if_neg (by simp only [decide_eq_true_eq]; omega), List.take_of_length_le (by omega)]⟩
  | d + 1, i, K, hi, hk => by
    obtain ⟨K, rfl⟩ : ∃ j, K = j + 1 := ⟨K - 1, by omega⟩
    obtain ⟨x, x1, x3, x2⟩ := at_ (l := l) (i := i) (by omega)
    have hx := H x x3
    obtain ⟨z, ih⟩ := vcopied_l (n := n) H hl d (i + 1) K (by omega) (by omega)
    refine ⟨z, ?_⟩
    have et : (l.take i).map g ++ [g x] = (l.take (i + 1)).map g := by rw [List.take_add_one, x1]; simp
    have el : ((l.take i).map g).length = i := by rw [List.length_map, List.length_take]; omega
    rw [value_copied_l1, if_pos (by simp only [decide_eq_true_eq]; omega), if_pos (by simp), Int.toNat_natCast, x1, wr1 (i := i) (L := l.length) (by omega) (by omega)]
    generalize g x = q at hx et
    cases x
    cases q
    simp only [hx, et]
    rw [if_pos (by rw [el]; simp; omega)]
    exact ih
theorem vpart_ev : ∀ (f : Nat), f ≤ 12 → ∀ a, VIn a → Ev fun n => (tab n).value_part a (13 - (f : Int)) = some (cpF f a)
  | 0, _, .mk k n s l m, _ => Ev.step (Ev.pure fun n => by rw [tab_value_part, value_part, if_pos (by simp)]; rfl)
  | f + 1, hf, .mk k nn s l m, .mk hs hl hm al am => by
    have ed : IntKind.wrap .i64 ((13 - ((f + 1 : Nat) : Int)) + 1) = 13 - (f : Int) := by
      rw [wr (by omega) (by omega)]
      omega
    have hd : ¬ (13 - ((f + 1 : Nat) : Int)) > 12 := by omega
    generalize (13 - ((f + 1 : Nat) : Int)) = dp at ed hd ⊢
    have r : ∀ l : List GValue, l.length ≤ 1759218604391 → (∀ x ∈ l, VIn x) → Ev fun n => (tab n).value_copied l (13 - (f : Int)) = some (l.map (cpF f)) := fun l hl al =>
      Ev.step (((Ev.all l fun x hx => vpart_ev f (by omega) x (al x hx)).and (Ev.ge (l.length + 1))).mono fun n hh => by
        obtain ⟨⟨z1, z2, z3, z4⟩, e⟩ := vcopied_l (n := n) hh.1 hl l.length 0 n (by omega) (by omega)
        rw [show ((0 : Nat) : Int) = 0 from rfl, List.take_zero, List.map_nil] at e
        rw [tab_value_copied]
        simp only [value_copied, e])
    refine Ev.step (((r l hl al).and (r m hm am)).mono fun n hh => ?_)
    rw [tab_value_part, value_part, if_neg (by simpa using hd), ed]
    simp only [hh.1, hh.2, cpF]
theorem copy_ev {a : GValue} (ha : VIn a) : Ev fun n => (tab n).value_Copy a = some (cp a) :=
  Ev.step ((vpart_ev 12 (by omega) a ha).mono fun n h => by
    rw [tab_value_Copy]
    cases a
    exact h)
/- Predicates. -/
def cpP : Nat → GPred → GPred
  | 0, .mk k _ _ => .mk k [] []
  | f + 1, .mk k v p => .mk k (v.map cp) (p.map (cpP f))
theorem ppart_l1 {t : Tab} {n : Nat} {dp k : Int} {l : List GValue} {a5 : Int} {a6 : List GValue} {a7 : List GPred} {a8 : Int} {a9 : List GValue} {a10 a13 : List GPred} (H : ∀ x ∈ l, t.value_Copy x = some (cp x)) (hl : l.length ≤ 4194304) : ∀ (d i K : Nat), i + d = l.length → d < K → ∃ z1 z2, pred_part_l1 t n K dp l (l.length : Int) (i : Int) a5 a6 a7 a8 a9 a10 k ((l.take i).map cp) a13 = some (dp, l, (l.length : Int), z1, z2, a5, a6, a7, a8, a9, a10, k, l.map cp, a13)
  | 0, i, K, hi, hk => by
    obtain ⟨K, rfl⟩ : ∃ j, K = j + 1 := ⟨K - 1, by omega⟩
    exact ⟨_, _, by rw [pred_part_l1, if_neg (by simp only [decide_eq_true_eq]; omega), List.take_of_length_le (by omega)]⟩
  | d + 1, i, K, hi, hk => by
    obtain ⟨K, rfl⟩ : ∃ j, K = j + 1 := ⟨K - 1, by omega⟩
    obtain ⟨x, x1, x3, x2⟩ := at_ (l := l) (i := i) (by omega)
    have hx := H x x3
    obtain ⟨z1, z2, ih⟩ := ppart_l1 (n := n) (dp := dp) (k := k) (a5 := a5) (a6 := a6) (a7 := a7) (a8 := a8) (a9 := a9) (a10 := a10) (a13 := a13) H hl d (i + 1) K (by omega) (by omega)
    refine ⟨z1, z2, ?_⟩
    have et : (l.take i).map cp ++ [cp x] = (l.take (i + 1)).map cp := by rw [List.take_add_one, x1]; simp
    have el : ((l.take i).map cp).length = i := by rw [List.length_map, List.length_take]; omega
    rw [pred_part_l1, if_pos (by simp only [decide_eq_true_eq]; omega), if_pos (by simp), Int.toNat_natCast, x1, wr1 (i := i) (L := l.length) (by omega) (by omega)]
    generalize cp x = q at hx et
    cases x
    cases q
    simp only [hx, et]
    rw [if_pos (by rw [el]; simp; omega)]
    exact ih
theorem ppart_l3 {t : Tab} {n : Nat} {dp : Int} {l : List GPred} {a5 : Int} {a6 : List GValue} {a7 : List GPred} {a8 : Int} {a9 : List GValue} {g : GPred → GPred} (H : ∀ x ∈ l, t.pred_part x (IntKind.wrap .i64 (dp + 1)) = some (g x)) (hl : l.length ≤ 4194304) : ∀ (d i K : Nat), i + d = l.length → d < K → ∃ z1 z2, pred_part_l3 t n K dp l (l.length : Int) (i : Int) a5 a6 a7 a8 a9 ((l.take i).map g) = some (dp, l, (l.length : Int), z1, z2, a5, a6, a7, a8, a9, l.map g)
  | 0, i, K, hi, hk => by
    obtain ⟨K, rfl⟩ : ∃ j, K = j + 1 := ⟨K - 1, by omega⟩
    exact ⟨_, _, by rw [pred_part_l3, if_neg (by simp only [decide_eq_true_eq]; omega), List.take_of_length_le (by omega)]⟩
  | d + 1, i, K, hi, hk => by
    obtain ⟨K, rfl⟩ : ∃ j, K = j + 1 := ⟨K - 1, by omega⟩
    obtain ⟨x, x1, x3, x2⟩ := at_ (l := l) (i := i) (by omega)
    have hx := H x x3
    obtain ⟨z1, z2, ih⟩ := ppart_l3 (n := n) (dp := dp) (a5 := a5) (a6 := a6) (a7 := a7) (a8 := a8) (a9 := a9) H hl d (i + 1) K (by omega) (by omega)
    refine ⟨z1, z2, ?_⟩
    have et : (l.take i).map g ++ [g x] = (l.take (i + 1)).map g := by rw [List.take_add_one, x1]; simp
    have el : ((l.take i).map g).length = i := by rw [List.length_map, List.length_take]; omega
    rw [pred_part_l3, if_pos (by simp only [decide_eq_true_eq]; omega), if_pos (by simp), Int.toNat_natCast, x1, wr1 (i := i) (L := l.length) (by omega) (by omega)]
    generalize g x = q at hx et
    cases x
    cases q
    simp only [hx, et]
    rw [if_pos (by rw [el]; simp; omega)]
    exact ih
theorem ppart_ev : ∀ (f : Nat), f ≤ 12 → ∀ (a : GPred) (k : Nat), a.t.wt ≤ k → k ≤ 2097152 → PIn a → Ev fun n => (tab n).pred_part a (13 - (f : Int)) = some (cpP f a)
  | 0, _, .mk k v p, _, _, _, _ => Ev.step (Ev.pure fun n => by rw [tab_pred_part, pred_part, if_pos (by simp)]; rfl)
  | f + 1, hf, .mk k v p, w, hw, hk, .mk hv hp av ap => by
    have ed : IntKind.wrap .i64 ((13 - ((f + 1 : Nat) : Int)) + 1) = 13 - (f : Int) := by
      rw [wr (by omega) (by omega)]
      omega
    have hd : ¬ (13 - ((f + 1 : Nat) : Int)) > 12 := by omega
    generalize (13 - ((f + 1 : Nat) : Int)) = dp at ed hd ⊢
    simp only [GPred.t, T.wt, wts, GValue.ts_map, GPred.ts_map] at hw
    have l1 := wts_mlen (f := GValue.t) v
    have l2 := wts_mlen (f := GPred.t) p
    have e1 := Ev.all (p := fun x n => (tab n).value_Copy x = some (cp x)) v fun x hx => copy_ev (av x hx)
    have e2 := Ev.all (p := fun x n => (tab n).pred_part x (13 - (f : Int)) = some (cpP f x)) p fun x hx => ppart_ev f (by omega) x w (by have := wts_map (f := GPred.t) hx; omega) hk (ap x hx)
    refine Ev.step ((e1.and (e2.and (Ev.ge (v.length + p.length + 1)))).mono fun n hh => ?_)
    obtain ⟨h1, h2, h3⟩ := hh
    rw [← ed] at h2
    rw [tab_pred_part, pred_part, if_neg (by simpa using hd)]
    obtain ⟨y1, y2, g1⟩ := ppart_l1 (n := n) (dp := dp) (k := k) (a5 := k) (a6 := v) (a7 := p) (a8 := 0) (a9 := []) (a10 := []) (a13 := []) h1 (by omega) v.length 0 n (by omega) (by omega)
    obtain ⟨z1, z2, g2⟩ := ppart_l3 (n := n) (dp := dp) (a5 := 0) (a6 := []) (a7 := []) (a8 := k) (a9 := v.map cp) h2 (by omega) p.length 0 n (by omega) (by omega)
    rw [show ((0 : Nat) : Int) = 0 from rfl, List.take_zero, List.map_nil] at g1 g2
    simp only [g1, pred_part_j2, g2, cpP]
theorem pcopy_ev {a : GPred} (hw : a.t.wt ≤ 2097152) (ha : PIn a) : Ev fun n => (tab n).pred_Copy a = some (cpP 12 a) :=
  Ev.step ((ppart_ev 12 (by omega) a 2097152 hw (Nat.le_refl _) ha).mono fun n h => by
    rw [tab_pred_Copy]
    cases a
    exact h)
/- Plans. -/
def cpB (C : List GStep → List GStep) : GBy → GBy
  | .mk k s t d => .mk k s (C t) d
def cpS (C : List GStep → List GStep) : GStep → GStep
  | .mk op S N V P Ts By As => .mk op S N (cp V) (cpP 12 P) (Ts.map C) (By.map (cpB C)) As
def cpL : Nat → List GStep → List GStep
  | 0, _ => []
  | f + 1, l => l.map (cpS (cpL f))
theorem cp_l2 {t : Tab} {n : Nat} {dp : Int} {b1 b2 : List GStep} {b3 b4 : Int} {l : List GBy} {op : Int} {S As : List ByteArray} {N : List Int} {v1 v2 : Int} {v3 : ByteArray} {v4 v5 : List GValue} {p1 : Int} {p2 : List GValue} {p3 : List GPred} {Ts : List (List GStep)} {C : List GStep → List GStep} (H : ∀ x ∈ l, t.plan_copied (bT x) (IntKind.wrap .i64 (dp + 1)) = some (C (bT x))) (hl : l.length ≤ 4194304) : ∀ (d i K : Nat), i + d = l.length → d < K → ∃ z1 z2, plan_copied_l2 t n K dp b1 b2 b3 b4 l (l.length : Int) (i : Int) op S N v1 v2 v3 v4 v5 p1 p2 p3 Ts ((l.take i).map (cpB C)) As = some (dp, b1, b2, b3, b4, l, (l.length : Int), z1, z2, op, S, N, v1, v2, v3, v4, v5, p1, p2, p3, Ts, l.map (cpB C), As)
  | 0, i, K, hi, hk => by
    obtain ⟨K, rfl⟩ : ∃ j, K = j + 1 := ⟨K - 1, by omega⟩
    exact ⟨_, _, by rw [plan_copied_l2, if_neg (by simp only [decide_eq_true_eq]; omega), List.take_of_length_le (by omega)]⟩
  | d + 1, i, K, hi, hk => by
    obtain ⟨K, rfl⟩ : ∃ j, K = j + 1 := ⟨K - 1, by omega⟩
    obtain ⟨x, x1, x3, x2⟩ := at_ (l := l) (i := i) (by omega)
    have hx := H x x3
    obtain ⟨z1, z2, ih⟩ := cp_l2 (n := n) (dp := dp) (b1 := b1) (b2 := b2) (b3 := b3) (b4 := b4) (op := op) (S := S) (As := As) (N := N) (v1 := v1) (v2 := v2) (v3 := v3) (v4 := v4) (v5 := v5) (p1 := p1) (p2 := p2) (p3 := p3) (Ts := Ts) H hl d (i + 1) K (by omega) (by omega)
    refine ⟨z1, z2, ?_⟩
    have et : (l.take i).map (cpB C) ++ [cpB C x] = (l.take (i + 1)).map (cpB C) := by rw [List.take_add_one, x1]; simp
    have el : ((l.take i).map (cpB C)).length = i := by rw [List.length_map, List.length_take]; omega
    rw [plan_copied_l2, if_pos (by simp only [decide_eq_true_eq]; omega), if_pos (by simp), Int.toNat_natCast, x1, wr1 (i := i) (L := l.length) (by omega) (by omega)]
    clear x1 x2 x3 H
    obtain ⟨k, s, u, e⟩ := x
    simp only [bT] at hx
    simp only [cpB] at et
    simp only [hx, et]
    rw [if_pos (by rw [el]; simp; omega)]
    exact ih
theorem plans_l {t : Tab} {n : Nat} {dp : Int} {l : List (List GStep)} {C : List GStep → List GStep} (H : ∀ x ∈ l, t.plan_copied x dp = some (C x)) (hl : l.length ≤ 4194304) : ∀ (d i K : Nat), i + d = l.length → d < K → ∃ z, plan_plans_l1 t n K dp ((l.take i).map C) l (l.length : Int) (i : Int) = some (dp, l.map C, z)
  | 0, i, K, hi, hk => by
    obtain ⟨K, rfl⟩ : ∃ j, K = j + 1 := ⟨K - 1, by omega⟩
    exact ⟨_, by rw [plan_plans_l1, if_neg (by simp only [decide_eq_true_eq]; omega), List.take_of_length_le (by omega)]⟩
  | d + 1, i, K, hi, hk => by
    obtain ⟨K, rfl⟩ : ∃ j, K = j + 1 := ⟨K - 1, by omega⟩
    obtain ⟨x, x1, x3, x2⟩ := at_ (l := l) (i := i) (by omega)
    have hx := H x x3
    obtain ⟨z, ih⟩ := plans_l (n := n) H hl d (i + 1) K (by omega) (by omega)
    refine ⟨z, ?_⟩
    have et : (l.take i).map C ++ [C x] = (l.take (i + 1)).map C := by rw [List.take_add_one, x1]; simp
    have el : ((l.take i).map C).length = i := by rw [List.length_map, List.length_take]; omega
    rw [plan_plans_l1, if_pos (by simp only [decide_eq_true_eq]; omega), if_pos (by simp), Int.toNat_natCast, x1, wr1 (i := i) (L := l.length) (by omega) (by omega)]
    simp only [hx, et]
    rw [if_pos (by rw [el]; simp; omega)]
    exact ih
/-- What one round of the copy needs. -/
def CpAt (C : List GStep → List GStep) (n : Nat) (dp : Int) (x : GStep) : Prop :=
  (tab n).slices_Clone_string (sOf x) = some (sOf x) ∧ (tab n).slices_Clone_int (nOf x) = some (nOf x) ∧ (tab n).slices_Clone_string (asOf x) = some (asOf x) ∧ (tab n).value_Copy (vOf x) = some (cp (vOf x)) ∧ (tab n).pred_Copy (pOf x) = some (cpP 12 (pOf x)) ∧ (tab n).plan_plans (tOf x) (IntKind.wrap .i64 (dp + 1)) = some ((tOf x).map C) ∧ (∀ u ∈ byOf x, (tab n).plan_copied (bT u) (IntKind.wrap .i64 (dp + 1)) = some (C (bT u))) ∧ (byOf x).length < n ∧ (byOf x).length ≤ 4194304
theorem copied_l {n : Nat} {dp : Int} {l : List GStep} {C : List GStep → List GStep} (H : ∀ x ∈ l, CpAt C n dp x) (hl : l.length ≤ 4194304) : ∀ (d i K : Nat), i + d = l.length → d < K → ∃ z, plan_copied_l1 (tab n) n K dp ((l.take i).map (cpS C)) l (l.length : Int) (i : Int) = some (dp, l.map (cpS C), z)
  | 0, i, K, hi, hk => by
    obtain ⟨K, rfl⟩ : ∃ j, K = j + 1 := ⟨K - 1, by omega⟩
    exact ⟨_, by rw [plan_copied_l1, if_neg (by simp only [decide_eq_true_eq]; omega), List.take_of_length_le (by omega)]⟩
  | d + 1, i, K, hi, hk => by
    obtain ⟨K, rfl⟩ : ∃ j, K = j + 1 := ⟨K - 1, by omega⟩
    obtain ⟨x, x1, x3, x2⟩ := at_ (l := l) (i := i) (by omega)
    obtain ⟨h1, h2, h3, h4, h5, h6, h7, h8, h9⟩ := H x x3
    obtain ⟨z, ih⟩ := copied_l H hl d (i + 1) K (by omega) (by omega)
    refine ⟨z, ?_⟩
    have et : (l.take i).map (cpS C) ++ [cpS C x] = (l.take (i + 1)).map (cpS C) := by rw [List.take_add_one, x1]; simp
    have el : ((l.take i).map (cpS C)).length = i := by rw [List.length_map, List.length_take]; omega
    rw [plan_copied_l1, if_pos (by simp only [decide_eq_true_eq]; omega), if_pos (by simp), Int.toNat_natCast, x1]
    have hw := wr1 (i := i) (L := l.length) (by omega) (by omega)
    clear x1 x2 x3 H
    obtain ⟨op, S, N, ⟨v1, v2, v3, v4, v5⟩, ⟨p1, p2, p3⟩, Ts, By, As⟩ := x
    simp only [sOf, nOf, asOf, vOf, pOf, tOf, byOf] at h1 h2 h3 h4 h5 h6 h7 h8 h9
    simp only [cpS] at et
    generalize cp (GValue.mk v1 v2 v3 v4 v5) = V at h4 et
    generalize cpP 12 (GPred.mk p1 p2 p3) = P at h5 et
    obtain ⟨w1, w2, w3, w4, w5⟩ := V
    obtain ⟨q1, q2, q3⟩ := P
    simp only [h1, h2, h3, h4, h5, h6]
    obtain ⟨z1, z2, g⟩ := cp_l2 (n := n) (b1 := (l.take i).map (cpS C)) (b2 := l) (b3 := (l.length : Int)) (b4 := (i : Int)) (op := op) (S := S) (As := As) (N := N) (v1 := w1) (v2 := w2) (v3 := w3) (v4 := w4) (v5 := w5) (p1 := q1) (p2 := q2) (p3 := q3) (Ts := Ts.map C) h7 h9 By.length 0 n (by omega) h8
    rw [show ((0 : Nat) : Int) = 0 from rfl, List.take_zero, List.map_nil] at g
    simp only [g, plan_copied_j3]
    rw [if_pos (by rw [el]; simp; omega)]
    simp only [et, hw]
    exact ih
theorem clone_s {S : List ByteArray} (h : S.length ≤ 4194304) : Ev fun n => (tab n).slices_Clone_string S = some S :=
  Ev.step (Ev.pure fun n => by show (if decide (S.length * 16 ≤ 140737488355328) = true then some S else none) = _; rw [if_pos (by simp; omega)])
theorem clone_i {S : List Int} (h : S.length ≤ 4194304) : Ev fun n => (tab n).slices_Clone_int S = some S :=
  Ev.step (Ev.pure fun n => by show (if decide (S.length * 8 ≤ 140737488355328) = true then some S else none) = _; rw [if_pos (by simp; omega)])
theorem copied_ev : ∀ (f : Nat), f ≤ 12 → ∀ a, wL a ≤ 2097152 → Ev fun n => (tab n).plan_copied a (13 - (f : Int)) = some (cpL f a)
  | 0, _, a, _ => Ev.step (Ev.pure fun n => by rw [tab_plan_copied, plan_copied, if_pos (by simp)]; rfl)
  | f + 1, hf, a, hw => by
    have hin := lin_wt hw
    have hlen := wL_len a
    have ed : IntKind.wrap .i64 ((13 - ((f + 1 : Nat) : Int)) + 1) = 13 - (f : Int) := by
      rw [wr (by omega) (by omega)]
      omega
    have hd : ¬ (13 - ((f + 1 : Nat) : Int)) > 12 := by omega
    generalize (13 - ((f + 1 : Nat) : Int)) = dp at ed hd ⊢
    have H : Ev fun n => ∀ x ∈ a, CpAt (cpL f) n dp x := Ev.all _ fun x hx => by
      have hsx := hin x hx
      have wx := wL_mem hx
      cases hsx with
      | @mk op S N V P Ts By As lS lN lA sS sA iV iP lT lB tl bl aT aB =>
      simp only [GStep.t, T.wt, wts, rows_GStep_ts_map, GBy.ts_map] at wx
      have wT : ∀ t ∈ Ts, wL t ≤ 2097152 := fun t ht => by
        have := wts_map (f := fun x => T.sl false 14 (GStep.ts x)) ht
        rw [T.wt, GStep.ts_map] at this
        unfold wL
        omega
      have wB : ∀ u ∈ By, wL (bT u) ≤ 2097152 := fun u hu => by
        have := wts_map (f := GBy.t) hu
        cases u
        simp only [GBy.t, T.wt, wts, GStep.ts_map] at this
        simp only [bT]
        unfold wL
        omega
      have e1 := clone_s (S := S) (by omega)
      have e2 := clone_i (S := N) (by omega)
      have e3 := clone_s (S := As) (by omega)
      have e4 := copy_ev iV
      have e5 := pcopy_ev (a := P) (by omega) iP
      have e7 := Ev.all (p := fun u n => (tab n).plan_copied (bT u) (13 - (f : Int)) = some (cpL f (bT u))) By fun u hu => copied_ev f (by omega) (bT u) (wB u hu)
      have e6 : Ev fun n => (tab n).plan_plans Ts (13 - (f : Int)) = some (Ts.map (cpL f)) := by
        have q := Ev.all (p := fun u n => (tab n).plan_copied u (13 - (f : Int)) = some (cpL f u)) Ts fun u hu => copied_ev f (by omega) u (wT u hu)
        refine Ev.step ((q.and (Ev.ge (Ts.length + 1))).mono fun n hh => ?_)
        obtain ⟨⟨z1, z2, z3, z4⟩, g⟩ := plans_l (n := n) hh.1 (by omega) Ts.length 0 n (by omega) (by omega)
        rw [show ((0 : Nat) : Int) = 0 from rfl, List.take_zero, List.map_nil] at g
        rw [tab_plan_plans]
        simp only [plan_plans, g]
      refine (((e1.and (e2.and e3)).and ((e4.and e5).and (e6.and e7))).and (Ev.ge (By.length + 1))).mono fun n hh => ?_
      obtain ⟨⟨⟨h1, h2, h3⟩, ⟨h4, h5⟩, h6, h7⟩, h8⟩ := hh
      rw [← ed] at h6 h7
      exact ⟨h1, h2, h3, h4, h5, h6, h7, by simp only [byOf]; omega, by simp only [byOf]; omega⟩
    refine Ev.step ((H.and (Ev.ge (a.length + 1))).mono fun n hh => ?_)
    rw [tab_plan_copied, plan_copied, if_neg (by simpa using hd)]
    obtain ⟨⟨z1, z2, z3, z4⟩, g⟩ := copied_l hh.1 (by omega) a.length 0 n (by omega) (by have := hh.2; omega)
    rw [show ((0 : Nat) : Int) = 0 from rfl, List.take_zero, List.map_nil] at g
    simp only [g, cpL]
theorem Copy_ev {a : List GStep} (h : wL a ≤ 2097152) : Ev fun n => (tab n).plan_Copy a = some (cpL 12 a) :=
  Ev.step ((copied_ev 12 (by omega) a h).mono fun n h => by
    rw [tab_plan_Copy]
    exact h)
/- A copy weighs no more. -/
theorem wts_le {α : Type _} {f : α → T} {g : α → α} : ∀ {l : List α}, (∀ x ∈ l, (f (g x)).wt ≤ (f x).wt) → wts ((l.map g).map f) ≤ wts (l.map f)
  | [], _ => Nat.le_refl _
  | x :: xs, h => by
    have h1 := h x (List.mem_cons_self ..)
    have h2 := wts_le (l := xs) fun y hy => h y (List.mem_cons_of_mem _ hy)
    simp only [List.map_cons, wts]
    omega
theorem cpF_wt : ∀ (f : Nat) (v : GValue), (cpF f v).t.wt ≤ v.t.wt
  | 0, .mk k n s l m => by
    simp only [cpF, GValue.t, T.wt, wts, GValue.ts_map, List.map_nil]
    omega
  | f + 1, .mk k n s l m => by
    have h1 := wts_le (f := GValue.t) (l := l) fun x _ => cpF_wt f x
    have h2 := wts_le (f := GValue.t) (l := m) fun x _ => cpF_wt f x
    simp only [cpF, GValue.t, T.wt, wts, GValue.ts_map]
    omega
theorem cpP_wt : ∀ (f : Nat) (v : GPred), (cpP f v).t.wt ≤ v.t.wt
  | 0, .mk k v p => by
    simp only [cpP, GPred.t, T.wt, wts, GValue.ts_map, GPred.ts_map, List.map_nil]
    omega
  | f + 1, .mk k v p => by
    have h1 := wts_le (f := GValue.t) (g := cp) (l := v) fun x _ => cpF_wt 12 x
    have h2 := wts_le (f := GPred.t) (l := p) fun x _ => cpP_wt f x
    simp only [cpP, GPred.t, T.wt, wts, GValue.ts_map, GPred.ts_map]
    omega
theorem cpL_wt : ∀ (f : Nat) (l : List GStep), wL (cpL f l) ≤ wL l
  | 0, l => by simp [cpL, wL, wts]
  | f + 1, l => by
    rw [cpL]
    unfold wL
    refine wts_le fun x _ => ?_
    obtain ⟨op, S, N, V, P, Ts, By, As⟩ := x
    have h1 := cpF_wt 12 V
    have h2 := cpP_wt 12 P
    have h3 := wts_le (f := fun x => T.sl false 14 (GStep.ts x)) (g := cpL f) (l := Ts) fun x _ => by
      have := cpL_wt f x
      unfold wL at this
      simp only [T.wt, GStep.ts_map]
      omega
    have h4 := wts_le (f := GBy.t) (g := cpB (cpL f)) (l := By) fun x _ => by
      obtain ⟨k, s, u, d⟩ := x
      have := cpL_wt f u
      unfold wL at this
      simp only [cpB, GBy.t, T.wt, wts, GStep.ts_map]
      omega
    simp only [cpS, GStep.t, T.wt, wts, rows_GStep_ts_map, GBy.ts_map]
    unfold cp
    omega
/- A copy is the same. -/
theorem eqL_map {α : Type _} {f : α → α → Bool} {g : α → α} : ∀ {l : List α}, (∀ x ∈ l, f x (g x) = true) → eqL f l (l.map g) = true
  | [], _ => rfl
  | x :: xs, h => by
    rw [List.map_cons, eqL, h x (List.mem_cons_self ..), eqL_map fun y hy => h y (List.mem_cons_of_mem _ hy)]
    rfl
theorem cp_same (v : GValue) : (cmp v (cp v) == 0) = true := by
  rw [cmp_cp, cmp_self]
  rfl
theorem cpP_same : ∀ (f g : Nat) (p : GPred), rightF f p = true → sameP g p (cpP f p) = true
  | _, 0, _, _ => rfl
  | 0, _ + 1, p, h => by rw [rightF] at h; cases h
  | f + 1, g + 1, .mk k v p, h => by
    have h := rightF_mk h
    rw [cpP, sameP, eqL_map fun x _ => cp_same x, eqL_map fun x hx => cpP_same f g x (h.2.2 x hx)]
    simp
theorem empty_same (g : Nat) (p : GPred) (h : emptyF p = true) : sameP g p (cpP 12 p) = true := by
  obtain ⟨k, v, q⟩ := p
  simp only [emptyF, Bool.and_eq_true, beq_iff_eq] at h
  have e1 : v = [] := List.eq_nil_of_length_eq_zero (by have := h.2; omega)
  have e2 : q = [] := List.eq_nil_of_length_eq_zero (by have := h.2; omega)
  subst e1 e2
  exact sameP_self g _
theorem if_or {c x y : Bool} (h : (if c = true then x else y) = true) : x = true ∨ y = true := by cases c <;> simp_all
theorem cpL_same : ∀ (g f : Nat) (l : List GStep), rightL g l = true → sameL f l (cpL (g + 1) l) = true
  | 0, _, l, h => by rw [rightL] at h; cases h
  | g + 1, 0, l, h => by
    rw [sameL, cpL]
    exact eqL_map fun _ _ => rfl
  | g + 1, f + 1, l, h => by
    rw [rightL, List.all_eq_true] at h
    rw [sameL, cpL]
    refine eqL_map fun x hx => ?_
    have h := h x hx
    obtain ⟨op, S, N, V, P, Ts, By, As⟩ := x
    unfold stepF at h
    rw [Bool.and_eq_true] at h
    have h := h.2
    rw [Bool.and_eq_true, Bool.and_eq_true, Bool.and_eq_true] at h
    obtain ⟨⟨_, hP⟩, hT, hB⟩ := h
    simp only [opOf, tOf, byOf] at hT hB
    have eP : sameP 2097152 P (cpP 12 P) = true := by
      rcases if_or hP with hP | hP
      · exact cpP_same 12 _ P hP
      · exact empty_same _ P hP
    have eT : eqL (sameL f) Ts (Ts.map (cpL (g + 1))) = true := eqL_map fun t ht => cpL_same g f t (List.all_eq_true.1 hT t ht)
    have eB : eqL (sameB (sameL f)) By (By.map (cpB (cpL (g + 1)))) = true := eqL_map fun u hu => by
      have h := List.all_eq_true.1 hB u hu
      obtain ⟨k, s, t, d⟩ := u
      have e : sameL f t (cpL (g + 1) t) = true := by
        simp only [byF, bK, bT, bKey, bD, Bool.and_eq_true, Bool.or_eq_true, beq_iff_eq] at h
        by_cases h0 : t.length = 0
        · have : t = [] := List.eq_nil_of_length_eq_zero h0
          subst this
          rw [cpL, List.map_nil]
          exact sameL_self f []
        · have hk : k = 3 := by
            rcases h.1.2 with hk | hk
            · exact hk
            · exact absurd hk h0
          have hr : rightL g t = true := by
            rcases h.2 with (hk' | hk') | hk'
            · omega
            · omega
            · exact hk'.2
          exact cpL_same g f t hr
      rw [cpB, sameB, e]
      simp
    rw [cpS, sameS, cp_same, eP, eT, eB, eqL_self (fun x _ => by simp), eqL_self (fun x _ => by simp), eqL_self (fun x _ => by simp)]
    simp
theorem copy_same {a : List GStep} (h : rightL 11 a = true) : samePl a (cpL 12 a) = true := cpL_same 11 _ a h
end Go.Proofs.YtgkfjhfehdefaaaGreatDoor.W
