/- Are two plans the same? -/
import Derived.Test.YtgkfjhfehdefaaaGreatDoorPlY
namespace Go.Proofs.YtgkfjhfehdefaaaGreatDoor.W
open Go.Proofs.YtgkfjhfehdefaaaGreatDoor.Flat
set_option linter.unusedVariables false
set_option linter.unusedSimpArgs false
theorem cmp_self (a : GValue) : cmp a a = 0 := by
  have := cmpV_neg 12 a a
  unfold cmp
  omega
/-- Predicates, compared. -/
def sameP : Nat → GPred → GPred → Bool
  | 0, _, _ => true
  | f + 1, .mk k v p, .mk k' v' p' => k == k' && eqL (fun x y => cmp x y == 0) v v' && eqL (sameP f) p p'
theorem sameP_ev : ∀ (f : Nat) (a b : GPred), a.t.wt ≤ f → f ≤ 2097152 → PIn a → PIn b → Ev fun n => (tab n).plan_samePred a b = some (sameP f a b)
  | 0, a, b, h, _, _, _ => by have := wt_pos a.t; omega
  | f + 1, .mk k v p, .mk k' v' p', h, hf, ha, hb => by
    simp only [GPred.t, T.wt, wts, GValue.ts_map, GPred.ts_map] at h
    have l1 := wts_mlen (f := GValue.t) v
    have l2 := wts_mlen (f := GPred.t) p
    cases ha with
    | mk hv hp av ap =>
    cases hb with
    | mk hv' hp' av' ap' =>
    have e1 := value_Same_e (a := v) (b := v') (f := fun x y => cmp x y == 0) (fun x hx y hy => valSame_ev (av x hx) (av' y hy)) (by omega)
    have e2 := plan_samePred_e (a := p) (b := p') (f := sameP f) (fun x hx y hy => sameP_ev f x y (by have := wts_map (f := GPred.t) hx; omega) (by omega) (ap x hx) (ap' y hy)) (by omega)
    refine Ev.step ((e1.and e2).mono fun n hh => ?_)
    rw [tab_plan_samePred]
    simp only [plan_samePred, hh.1, hh.2, sameP]
    cases (k == k') <;> cases eqL (fun x y => cmp x y == 0) v v' <;> simp
def beqS (x y : ByteArray) : Bool := x.toList == y.toList
def beqI (x y : Int) : Bool := x == y
def sameB (R : List GStep → List GStep → Bool) : GBy → GBy → Bool
  | .mk k s t d, .mk k' s' t' d' => k == k' && s.toList == s'.toList && d == d' && R t t'
def sameS (R : List GStep → List GStep → Bool) : GStep → GStep → Bool
  | .mk op S N V P Ts By As, .mk op' S' N' V' P' Ts' By' As' => op == op' && eqL (fun x y => x.toList == y.toList) S S' && eqL (fun x y => x == y) N N' && eqL (fun x y => x.toList == y.toList) As As' && cmp V V' == 0 && sameP 2097152 P P' && eqL R Ts Ts' && eqL (sameB R) By By'
def sameL : Nat → List GStep → List GStep → Bool
  | 0, a, b => eqL (fun _ _ => true) a b
  | f + 1, a, b => eqL (sameS (sameL f)) a b
theorem eqL_congr {α : Type _} {f g : α → α → Bool} : ∀ {a b : List α}, (∀ x ∈ a, ∀ y ∈ b, f x y = g x y) → eqL f a b = eqL g a b
  | [], [], _ => rfl
  | [], _ :: _, _ => rfl
  | _ :: _, [], _ => rfl
  | x :: xs, y :: ys, h => by
    rw [eqL, eqL, h x (List.mem_cons_self ..) y (List.mem_cons_self ..), eqL_congr fun z hz w hw => h z (List.mem_cons_of_mem _ hz) w (List.mem_cons_of_mem _ hw)]
theorem sameP_up : ∀ (f : Nat) (a b : GPred), a.t.wt ≤ f → sameP (f + 1) a b = sameP f a b
  | 0, a, b, h => by have := wt_pos a.t; omega
  | f + 1, .mk k v p, .mk k' v' p', h => by
    simp only [GPred.t, T.wt, wts, GValue.ts_map, GPred.ts_map] at h
    rw [sameP, sameP]
    congr 1
    exact eqL_congr fun x hx y _ => sameP_up f x y (by have := wts_map (f := GPred.t) hx; omega)
theorem sameP_ge {a b : GPred} {f : Nat} (h : a.t.wt ≤ f) : ∀ j, sameP (f + j) a b = sameP f a b
  | 0 => rfl
  | j + 1 => by rw [← Nat.add_assoc, sameP_up (f + j) a b (by omega), sameP_ge h j]
theorem sameL_ev : ∀ (f : Nat) (a b : List GStep), wL a ≤ f → f ≤ 2097152 → wL b ≤ 2097152 → Ev fun n => (tab n).plan_Same a b = some (sameL f a b)
  | 0, a, b, h, _, hb => by
    have := wL_len a
    have : a = [] := List.eq_nil_of_length_eq_zero (by omega)
    subst this
    refine Ev.step ((plan_Same_1_e (a := []) (b := b) (f := fun _ _ => true) (fun x hx => by cases hx) (by simp)).mono fun n hn => ?_)
    rw [tab_plan_Same, plan_Same, hn, sameL]
  | f + 1, a, b, h, hf, hb => by
    have hin := lin_wt (l := a) (by omega)
    have hin' := lin_wt hb
    have hlen := wL_len a
    refine Ev.step ((plan_Same_1_e (a := a) (b := b) (f := sameS (sameL f)) (fun x hx y hy => ?_) (by omega)).mono fun n hn => by rw [tab_plan_Same, plan_Same, hn, sameL])
    have hsx := hin x hx
    have hsy := hin' y hy
    have wx := wL_mem hx
    have wy := wL_mem hy
    cases hsx with
    | @mk op S N V P Ts By As lS lN lA sS sA iV iP lT lB tl bl aT aB =>
    cases hsy with
    | @mk op' S' N' V' P' Ts' By' As' lS' lN' lA' sS' sA' iV' iP' lT' lB' tl' bl' aT' aB' =>
    simp only [GStep.t, T.wt, wts, rows_GStep_ts_map, GBy.ts_map] at wx wy
    have e1 := equal_string_e (a := S) (b := S') (by omega)
    have e2 := equal_int_e (a := N) (b := N') (by omega)
    have e3 := equal_string_e (a := As) (b := As') (by omega)
    have e4 := valSame_ev iV iV'
    have e5 := sameP_ev 2097152 P P' (by omega) (Nat.le_refl _) iP iP'
    have wT : ∀ t ∈ Ts, wL t ≤ f := fun t ht => by
      have := wts_map (f := fun x => T.sl false 14 (GStep.ts x)) ht
      rw [T.wt, GStep.ts_map] at this
      unfold wL
      omega
    have wT' : ∀ t ∈ Ts', wL t ≤ 2097152 := fun t ht => by
      have := wts_map (f := fun x => T.sl false 14 (GStep.ts x)) ht
      rw [T.wt, GStep.ts_map] at this
      unfold wL
      omega
    have wB : ∀ u ∈ By, wL (bT u) ≤ f := fun u hu => by
      have := wts_map (f := GBy.t) hu
      cases u
      simp only [GBy.t, T.wt, wts, GStep.ts_map] at this
      simp only [bT]
      unfold wL
      omega
    have wB' : ∀ u ∈ By', wL (bT u) ≤ 2097152 := fun u hu => by
      have := wts_map (f := GBy.t) hu
      cases u
      simp only [GBy.t, T.wt, wts, GStep.ts_map] at this
      simp only [bT]
      unfold wL
      omega
    have e6 := plan_Same_e (a := Ts) (b := Ts') (f := sameL f) (fun t ht u hu => sameL_ev f t u (wT t ht) (by omega) (wT' u hu)) (by omega)
    have e7 := plan_sameBy_e (a := By) (b := By') (f := sameB (sameL f)) (fun u hu v hv => by
      have q := sameL_ev f (bT u) (bT v) (wB u hu) (by omega) (wB' v hv)
      refine Ev.step (q.mono fun n hn => ?_)
      rw [tab_plan_sameBy]
      cases u
      cases v
      rename_i k s t d k' s' t' d'
      simp only [bT] at hn
      simp only [plan_sameBy, hn, sameB]
      cases (k == k') <;> cases (s.toList == s'.toList) <;> cases (d == d') <;> simp) (by omega)
    refine Ev.step (((e1.and (e2.and e3)).and ((e4.and e5).and (e6.and e7))).mono fun n hh => ?_)
    obtain ⟨⟨h1, h2, h3⟩, ⟨h4, h5⟩, h6, h7⟩ := hh
    rw [tab_plan_Same_1]
    obtain ⟨v1, v2, v3, v4, v5⟩ := V
    obtain ⟨p1, p2, p3⟩ := P
    obtain ⟨w1, w2, w3, w4, w5⟩ := V'
    obtain ⟨q1, q2, q3⟩ := P'
    simp only [plan_Same_1, plan_Same_1_j1, h1, h2, h3, h4, h5, h6, h7, sameS]
    generalize (op == op') = c1
    generalize eqL (fun x y => x.toList == y.toList) S S' = c2
    generalize eqL (fun x y => x == y) N N' = c3
    generalize eqL (fun x y => x.toList == y.toList) As As' = c4
    generalize (cmp (GValue.mk v1 v2 v3 v4 v5) (GValue.mk w1 w2 w3 w4 w5) == 0) = c5
    generalize sameP 2097152 (GPred.mk p1 p2 p3) (GPred.mk q1 q2 q3) = c6
    generalize eqL (sameL f) Ts Ts' = c7
    generalize eqL (sameB (sameL f)) By By' = c8
    cases c1 <;> cases c2 <;> cases c3 <;> cases c4 <;> cases c5 <;> cases c6 <;> cases c7 <;> cases c8 <;> rfl
def samePl (a b : List GStep) : Bool := sameL 2097152 a b
theorem Same_ev {a b : List GStep} (ha : wL a ≤ 2097152) (hb : wL b ≤ 2097152) : Ev fun n => (tab n).plan_Same a b = some (samePl a b) := sameL_ev 2097152 a b ha (Nat.le_refl _) hb
theorem eqL_self {α : Type _} {f : α → α → Bool} : ∀ {a : List α}, (∀ x ∈ a, f x x = true) → eqL f a a = true
  | [], _ => rfl
  | x :: xs, h => by rw [eqL, h x (List.mem_cons_self ..), eqL_self fun y hy => h y (List.mem_cons_of_mem _ hy)]; rfl
theorem sameP_self : ∀ (f : Nat) (a : GPred), sameP f a a = true
  | 0, _ => rfl
  | f + 1, .mk k v p => by
    rw [sameP, eqL_self (fun x _ => by rw [cmp_self]; rfl), eqL_self (fun x _ => sameP_self f x)]
    simp
theorem sameL_self : ∀ (f : Nat) (a : List GStep), sameL f a a = true
  | 0, a => eqL_self fun _ _ => rfl
  | f + 1, a => by
    rw [sameL]
    refine eqL_self fun x _ => ?_
    cases x
    rw [sameS, eqL_self (fun x _ => by simp), eqL_self (fun x _ => by simp), eqL_self (fun x _ => by simp), cmp_self, sameP_self, eqL_self (fun x _ => sameL_self f x), eqL_self (fun x _ => by cases x; rw [sameB, sameL_self f]; simp)]
    simp
theorem same_self (a : List GStep) : samePl a a = true := sameL_self _ a
end Go.Proofs.YtgkfjhfehdefaaaGreatDoor.W
