/- What the law spoils: only that it comes to an end, and keeps lengths. -/
import Derived.Test.YtgkfjhfehdefaaaGreatDoorPlK
namespace Go.Proofs.YtgkfjhfehdefaaaGreatDoor.W
open Go.Proofs.YtgkfjhfehdefaaaGreatDoor.Flat
set_option linter.unusedVariables false
set_option linter.unusedSimpArgs false
def sz1 (x : GStep) : Nat × List Nat := ((sOf x).length, (tOf x).map List.length)
def szL (l : List GStep) : List (Nat × List Nat) := l.map sz1
theorem map_set_same {α β : Type _} {f : α → β} : ∀ {l : List α} {i : Nat} {x y : α}, l[i]? = some x → f y = f x → (l.set i y).map f = l.map f
  | [], _, _, _, h, _ => by simp at h
  | z :: zs, 0, x, y, h, e => by
    simp only [List.getElem?_cons_zero, Option.some.injEq] at h
    rw [List.set_cons_zero, List.map_cons, List.map_cons, e, h]
  | z :: zs, i + 1, x, y, h, e => by
    rw [List.getElem?_cons_succ] at h
    rw [List.set_cons_succ, List.map_cons, List.map_cons, map_set_same h e]
theorem szL_len {a b : List GStep} (h : szL a = szL b) : a.length = b.length := by
  have := congrArg List.length h
  unfold szL at this
  rwa [List.length_map, List.length_map] at this
theorem szL_at {a b : List GStep} (h : szL a = szL b) {i : Nat} {x y : GStep} (hx : a[i]? = some x) (hy : b[i]? = some y) : sz1 x = sz1 y := by
  have := congrArg (fun l : List (Nat × List Nat) => l[i]?) h
  unfold szL at this
  simpa [hx, hy] using this
/-- Lengths are small, and there are rounds enough. -/
def Small (n : Nat) (l : List GStep) : Prop := l.length < n ∧ l.length ≤ 4194304 ∧ ∀ x ∈ l, (sOf x).length < n ∧ (sOf x).length ≤ 4194304 ∧ (tOf x).length < n ∧ (tOf x).length ≤ 4194304 ∧ ∀ u ∈ tOf x, u.length < n ∧ u.length ≤ 4194304
theorem Small.of {n : Nat} {a b : List GStep} (h : Small n a) (e : szL b = szL a) : Small n b := by
  refine ⟨by rw [szL_len e]; exact h.1, by rw [szL_len e]; exact h.2.1, fun x hx => ?_⟩
  obtain ⟨i, hi, rfl⟩ := List.getElem_of_mem hx
  have hi' : i < a.length := by rw [← szL_len e]; exact hi
  have q := szL_at e (i := i) (x := b[i]) (y := a[i]) (by simp [hi]) (by simp [hi'])
  have s := h.2.2 a[i] (by simp)
  unfold sz1 at q
  rw [Prod.mk.injEq] at q
  have ql := congrArg List.length q.2
  rw [List.length_map, List.length_map] at ql
  refine ⟨by rw [q.1]; exact s.1, by rw [q.1]; exact s.2.1, by rw [ql]; exact s.2.2.1, by rw [ql]; exact s.2.2.2.1, fun u hu => ?_⟩
  have : u.length ∈ (tOf a[i]).map List.length := by rw [← q.2]; exact List.mem_map.2 ⟨u, hu, rfl⟩
  obtain ⟨v, hv, ev⟩ := List.mem_map.1 this
  rw [← ev]
  exact s.2.2.2.2 v hv
section
variable {t : Tab} {n : Nat} {a d : List GStep} {r : Bool}
theorem sp_l4 {i : Nat} : ∀ (e j K : Nat) (c : List GStep) (x : GStep), c[i]? = some x → (sOf x).length ≤ 4194304 → j + e = (sOf x).length → e < K → ∃ c' z1 z2, law12_PlanSame_l4 t n K a c d r (i : Int) (j : Int) = some (a, c', d, r, (i : Int), z1, z2) ∧ szL c' = szL c
  | 0, j, K, c, x, hx, hs, he, hk => by
    obtain ⟨K, rfl⟩ : ∃ j, K = j + 1 := ⟨K - 1, by omega⟩
    rw [law12_PlanSame_l4, if_pos (by simp), Int.toNat_natCast, hx]
    obtain ⟨op, S, N, ⟨v1, v2, v3, v4, v5⟩, ⟨p1, p2, p3⟩, Ts, By, As⟩ := x
    simp only [sOf] at he
    dsimp only
    rw [if_neg (by simp; omega)]
    exact ⟨_, _, _, rfl, rfl⟩
  | e + 1, j, K, c, x, hx, hs, he, hk => by
    obtain ⟨K, rfl⟩ : ∃ j, K = j + 1 := ⟨K - 1, by omega⟩
    rw [law12_PlanSame_l4, if_pos (by simp), Int.toNat_natCast, hx]
    obtain ⟨op, S, N, ⟨v1, v2, v3, v4, v5⟩, ⟨p1, p2, p3⟩, Ts, By, As⟩ := x
    simp only [sOf] at he hs
    obtain ⟨y, y1, y3, y2⟩ := at_ (l := S) (i := j) (by omega)
    have hi : i < c.length := by
      rcases Nat.lt_or_ge i c.length with h | h
      · exact h
      · rw [List.getElem?_eq_none h] at hx; cases hx
    dsimp only
    rw [if_pos (by simp; omega), if_pos (by simp), Int.toNat_natCast, y1]
    dsimp only
    rw [wr1 (i := j) (L := S.length) (by omega) (by omega)]
    obtain ⟨c', z1, z2, g1, g2⟩ := sp_l4 e (j + 1) K (c.set i (GStep.mk op (S.set j (ByteArray.mk #[115, 112, 111, 105, 108, 116])) N (GValue.mk v1 v2 v3 v4 v5) (GPred.mk p1 p2 p3) Ts By As)) _ (by rw [List.getElem?_set_self hi]) (by simp only [sOf, List.length_set]; omega) (by simp only [sOf, List.length_set]; omega) (by omega)
    refine ⟨c', z1, z2, g1, g2.trans (map_set_same hx ?_)⟩
    simp only [sz1, sOf, tOf, List.length_set]
theorem sp_l7 {i j : Nat} : ∀ (e m K : Nat) (c : List GStep) (x : GStep) (u : List GStep), c[i]? = some x → (tOf x)[j]? = some u → u.length ≤ 4194304 → m + e = u.length → e < K → ∃ c' z1 z2, law12_PlanSame_l7 t n K a c d r (i : Int) (j : Int) (m : Int) = some (a, c', d, r, (i : Int), (j : Int), z1, z2) ∧ szL c' = szL c
  | 0, m, K, c, x, u, hx, hu, hs, he, hk => by
    obtain ⟨K, rfl⟩ : ∃ j, K = j + 1 := ⟨K - 1, by omega⟩
    rw [law12_PlanSame_l7, if_pos (by simp), Int.toNat_natCast, hx]
    obtain ⟨op, S, N, ⟨v1, v2, v3, v4, v5⟩, ⟨p1, p2, p3⟩, Ts, By, As⟩ := x
    simp only [tOf] at hu
    dsimp only
    rw [if_pos (by simp), Int.toNat_natCast, hu]
    dsimp only
    rw [if_neg (by simp; omega)]
    exact ⟨_, _, _, rfl, rfl⟩
  | e + 1, m, K, c, x, u, hx, hu, hs, he, hk => by
    obtain ⟨K, rfl⟩ : ∃ j, K = j + 1 := ⟨K - 1, by omega⟩
    rw [law12_PlanSame_l7, if_pos (by simp), Int.toNat_natCast, hx]
    obtain ⟨op, S, N, ⟨v1, v2, v3, v4, v5⟩, ⟨p1, p2, p3⟩, Ts, By, As⟩ := x
    simp only [tOf] at hu
    obtain ⟨y, y1, y3, y2⟩ := at_ (l := u) (i := m) (by omega)
    have hi : i < c.length := by
      rcases Nat.lt_or_ge i c.length with h | h
      · exact h
      · rw [List.getElem?_eq_none h] at hx; cases hx
    have hj : j < Ts.length := by
      rcases Nat.lt_or_ge j Ts.length with h | h
      · exact h
      · rw [List.getElem?_eq_none h] at hu; cases hu
    dsimp only
    rw [if_pos (by simp), Int.toNat_natCast, hu]
    dsimp only
    rw [if_pos (by simp; omega), if_pos (by simp), Int.toNat_natCast, y1]
    obtain ⟨b1, b2, b3, ⟨b4, b5, b6, b7, b8⟩, ⟨b9, b10, b11⟩, b12, b13, b14⟩ := y
    dsimp only
    rw [wr1 (i := m) (L := u.length) (by omega) (by omega)]
    obtain ⟨c', z1, z2, g1, g2⟩ := sp_l7 e (m + 1) K (c.set i (GStep.mk op S N (GValue.mk v1 v2 v3 v4 v5) (GPred.mk p1 p2 p3) (Ts.set j (u.set m (GStep.mk (-7) b2 b3 (GValue.mk b4 b5 b6 b7 b8) (GPred.mk b9 b10 b11) b12 b13 b14))) By As)) _ (u.set m (GStep.mk (-7) b2 b3 (GValue.mk b4 b5 b6 b7 b8) (GPred.mk b9 b10 b11) b12 b13 b14)) (by rw [List.getElem?_set_self hi]) (by simp only [tOf]; rw [List.getElem?_set_self hj]) (by simp only [List.length_set]; omega) (by simp only [List.length_set]; omega) (by omega)
    refine ⟨c', z1, z2, g1, g2.trans (map_set_same hx ?_)⟩
    simp only [sz1, sOf, tOf]
    rw [map_set_same hu (by rw [List.length_set])]
theorem sp_l6 {i : Nat} : ∀ (e j K : Nat) (c : List GStep) (x : GStep), Small n c → c[i]? = some x → j + e = (tOf x).length → e < K → ∃ c' z1 z2, law12_PlanSame_l6 t n K a c d r (i : Int) (j : Int) = some (a, c', d, r, (i : Int), z1, z2) ∧ szL c' = szL c
  | 0, j, K, c, x, hc, hx, he, hk => by
    obtain ⟨K, rfl⟩ : ∃ j, K = j + 1 := ⟨K - 1, by omega⟩
    rw [law12_PlanSame_l6, if_pos (by simp), Int.toNat_natCast, hx]
    obtain ⟨op, S, N, ⟨v1, v2, v3, v4, v5⟩, ⟨p1, p2, p3⟩, Ts, By, As⟩ := x
    simp only [tOf] at he
    dsimp only
    rw [if_neg (by simp; omega)]
    exact ⟨_, _, _, rfl, rfl⟩
  | e + 1, j, K, c, x, hc, hx, he, hk => by
    obtain ⟨K, rfl⟩ : ∃ j, K = j + 1 := ⟨K - 1, by omega⟩
    have hs := hc.2.2 x (List.mem_of_getElem? hx)
    obtain ⟨y, y1, y3, y2⟩ := at_ (l := tOf x) (i := j) (by omega)
    have hu := hs.2.2.2.2 y y3
    obtain ⟨c1, z1, z2, g1, g2⟩ := sp_l7 (t := t) (n := n) (a := a) (d := d) (r := r) (i := i) (j := j) y.length 0 n c x y hx y1 hu.2 (by omega) hu.1
    rw [show ((0 : Nat) : Int) = 0 from rfl] at g1
    obtain ⟨x', hx'⟩ : ∃ x', c1[i]? = some x' := by
      have hi : i < c.length := by
        rcases Nat.lt_or_ge i c.length with h | h
        · exact h
        · rw [List.getElem?_eq_none h] at hx; cases hx
      have := szL_len g2
      exact ⟨_, List.getElem?_eq_getElem (by omega)⟩
    have q := szL_at g2 hx' hx
    unfold sz1 at q
    rw [Prod.mk.injEq] at q
    have ql := congrArg List.length q.2
    rw [List.length_map, List.length_map] at ql
    obtain ⟨c', z3, z4, g3, g4⟩ := sp_l6 e (j + 1) K c1 x' (hc.of g2) hx' (by omega) (by omega)
    have hw := wr1 (i := j) (L := (tOf x).length) (by omega) (by omega)
    rw [law12_PlanSame_l6, if_pos (by simp), Int.toNat_natCast, hx]
    obtain ⟨op, S, N, ⟨v1, v2, v3, v4, v5⟩, ⟨p1, p2, p3⟩, Ts, By, As⟩ := x
    simp only [tOf] at he
    dsimp only
    rw [if_pos (by simp; omega), g1]
    dsimp only
    rw [hw]
    exact ⟨c', z3, z4, g3, g4.trans g2⟩
theorem sp_l3 : ∀ (e i K : Nat) (c : List GStep), Small n c → i + e = c.length → e < K → ∃ c' z1 z2, law12_PlanSame_l3 t n K a c d r (i : Int) = some (a, c', d, r, z1, z2)
  | 0, i, K, c, hc, he, hk => by
    obtain ⟨K, rfl⟩ : ∃ j, K = j + 1 := ⟨K - 1, by omega⟩
    rw [law12_PlanSame_l3, if_neg (by simp; omega)]
    exact ⟨_, _, _, rfl⟩
  | e + 1, i, K, c, hc, he, hk => by
    obtain ⟨K, rfl⟩ : ∃ j, K = j + 1 := ⟨K - 1, by omega⟩
    have ex : ∀ {c1 : List GStep}, szL c1 = szL c → ∃ x', c1[i]? = some x' := fun h => ⟨_, List.getElem?_eq_getElem (by have := szL_len h; omega)⟩
    obtain ⟨x, hx⟩ := ex rfl
    have hs := hc.2.2 x (List.mem_of_getElem? hx)
    obtain ⟨c1, z1, z2, g1, g2⟩ := sp_l4 (t := t) (n := n) (a := a) (d := d) (r := r) (i := i) (sOf x).length 0 n c x hx hs.2.1 (by omega) hs.1
    rw [show ((0 : Nat) : Int) = 0 from rfl] at g1
    obtain ⟨x1, hx1⟩ := ex g2
    have hc1 := hc.of g2
    have hs1 := hc1.2.2 x1 (List.mem_of_getElem? hx1)
    obtain ⟨c2, z3, z4, g3, g4⟩ := sp_l6 (t := t) (n := n) (a := a) (d := d) (r := r) (i := i) (tOf x1).length 0 n c1 x1 hc1 hx1 (by omega) hs1.2.2.1
    rw [show ((0 : Nat) : Int) = 0 from rfl] at g3
    obtain ⟨x2, hx2⟩ := ex (g4.trans g2)
    have hj : ∃ c3, law12_PlanSame_j8 t n a c2 d r (i : Int) = some (a, c3, d, r, (i : Int)) ∧ szL c3 = szL c := by
      rw [law12_PlanSame_j8, if_pos (by simp), Int.toNat_natCast, hx2]
      obtain ⟨op, S, N, ⟨v1, v2, v3, v4, v5⟩, ⟨p1, p2, p3⟩, Ts, By, As⟩ := x2
      refine ⟨_, rfl, ?_⟩
      have q := map_set_same (f := sz1) (y := GStep.mk (-7) S N (GValue.mk v1 v2 v3 v4 v5) (GPred.mk p1 p2 p3) Ts By As) hx2 rfl
      exact q.trans (g4.trans g2)
    obtain ⟨c3, j1, j2⟩ := hj
    obtain ⟨c', z5, z6, g5⟩ := sp_l3 e (i + 1) K c3 (hc.of j2) (by rw [szL_len j2]; omega) (by omega)
    rw [law12_PlanSame_l3, if_pos (by simp; omega), g1]
    dsimp only
    rw [law12_PlanSame_j5, g3]
    dsimp only
    rw [j1]
    dsimp only
    rw [wr1 (i := i) (L := c.length) (by omega) (by have := hc.2.1; omega)]
    exact ⟨c', z5, z6, g5⟩
end
theorem small_ev {l : List GStep} (h : wL l ≤ 2097152) : Ev fun n => Small n l := by
  refine (Ev.ge 2097153).mono fun n hn => ?_
  have hl := wL_len l
  refine ⟨by omega, by omega, fun x hx => ?_⟩
  have hw := wL_mem hx
  have hs := lin_wt h x hx
  cases hs with
  | @mk op S N V P Ts By As lS lN lA sS sA iV iP lT lB tl bl aT aB =>
    simp only [sOf, tOf]
    refine ⟨by omega, by omega, by omega, by omega, fun u hu => ?_⟩
    simp only [GStep.t, T.wt, wts, rows_GStep_ts_map, GBy.ts_map] at hw
    have := wts_map (f := fun x => T.sl false 14 (GStep.ts x)) hu
    rw [T.wt, GStep.ts_map] at this
    have := wL_len u
    unfold wL at this
    omega
end Go.Proofs.YtgkfjhfehdefaaaGreatDoor.W
