/- The reference's Check and Free. -/
import Derived.Test.YtgkfjhfehdefaaaGreatDoorPlX
import Derived.Test.YtgkfjhfehdefaaaGreatDoorPlI
namespace Go.Proofs.YtgkfjhfehdefaaaGreatDoor.W
open Go.Proofs.YtgkfjhfehdefaaaGreatDoor.Flat
set_option linter.unusedVariables false
set_option linter.unusedSimpArgs false
theorem ifab {α : Type _} (a b : Bool) (x y : α) : (if a = true then some (if b = true then x else y) else some y) = if (a && b) = true then some x else some y := by cases a <;> cases b <;> rfl
theorem refright_ev : ∀ (f : Nat), f ≤ 11 → ∀ l, wL l ≤ 2097152 → Ev fun n => (tab n).ref12_right l (12 - (f : Int)) = some (rightL f l)
  | 0, hf, l, h => Ev.step (Ev.pure fun n => by rw [tab_ref12_right]; simp [ref12_right, rightL])
  | f + 1, hf, l, h => by
    have hin := lin_wt h
    have hlen := wL_len l
    have e0 : IntKind.wrap .i64 ((12 - ((f + 1 : Nat) : Int)) + 1) = 12 - (f : Int) := by rw [wr (by omega) (by omega)]; omega
    have H : Ev fun n => ∀ x ∈ l, ∃ q c : Bool, (tab n).ref12_own x = some q ∧ (tab n).ref12_named (sOf x) = some (namedF (sOf x)) ∧ (tab n).ref12_named (asOf x) = some (namedF (asOf x)) ∧ (∀ (i : Int) (op : Int) S N v1 v2 v3 v4 v5 p1 p2 p3 Ts By As, x = .mk op S N (.mk v1 v2 v3 v4 v5) (.mk p1 p2 p3) Ts By As → ref12_right_j2 (tab n) n l (12 - ((f + 1 : Nat) : Int)) i op S N v1 v2 v3 v4 v5 p1 p2 p3 Ts By As = if c = true then some (.inr (l, 12 - ((f + 1 : Nat) : Int), i)) else some (.inl false)) ∧ (q && namedF (sOf x) && namedF (asOf x) && c) = stepF (rightL f) x := Ev.all _ fun x hx => by
      have hs := hin x hx
      have hw := wL_mem hx
      have gs : SIn x → ((sOf x).length ≤ 2097152 ∧ (asOf x).length ≤ 2097152 ∧ (∀ s ∈ sOf x, s.size ≤ 2097152) ∧ (∀ s ∈ asOf x, s.size ≤ 2097152) ∧ VIn (vOf x) ∧ PIn (pOf x) ∧ (∀ b ∈ byOf x, (bKey b).size ≤ 2097152) ∧ (tOf x).length ≤ 2097152 ∧ (byOf x).length ≤ 2097152) := fun h => by
        cases h with
        | @mk op S N V P Ts By As lS lN lA sS sA iV iP lT lB tl bl aT aB => exact ⟨lS, lA, sS, sA, iV, iP, fun b hb => (bl b hb).2, lT, lB⟩
      obtain ⟨q1, q2, q3, q4, q5, q6, q7, q8, q9⟩ := gs hs
      have hx2 : ∀ u ∈ tOf x, wL u < x.t.wt := fun u hu => inn_wt (List.mem_append_left _ hu)
      have g12 : Ev fun n => ∀ u ∈ tOf x, (tab n).ref12_right u (IntKind.wrap .i64 ((12 - ((f + 1 : Nat) : Int)) + 1)) = some (rightL f u) := Ev.all _ fun u hu => by
        rw [e0]
        exact refright_ev f (by omega) u (by have := hx2 u hu; omega)
      have g13 : Ev fun n => ∀ u ∈ byOf x, (tab n).ref12_by u (opOf x == 40) (12 - ((f + 1 : Nat) : Int)) = some (byF (rightL f) (opOf x == 40) u) := Ev.all _ fun b hb => by
        have hbw : wL (bT b) ≤ 2097152 := by
          have hb0 : wL (bT b) < x.t.wt ∨ (bT b).length = 0 := by
            by_cases h0 : (bT b).length = 0
            · exact .inr h0
            · exact .inl (inn_wt (List.mem_append_right _ (List.mem_map.2 ⟨b, List.mem_filter.2 ⟨hb, by simp [innB]; right; omega⟩, rfl⟩)))
          rcases hb0 with h0 | h0
          · omega
          · have : bT b = [] := List.eq_nil_of_length_eq_zero h0
            rw [this]
            simp [wL, wts]
        refine Ev.step (((rname_ev (s := bKey b) (by have := q7 b hb; omega)).and (refright_ev f (by omega) (bT b) hbw)).mono fun n hh => ?_)
        rw [tab_ref12_by]
        exact rby_at hh.1 (by rw [e0]; exact hh.2)
      have g8 : Ev fun n => (tab n).ref02_Same (vOf x) (.mk 0 0 ByteArray.empty [] []) = some (cmp (vOf x) zv == 0) := refSame_ev q5 (VIn.mk (by simp) (by simp) (by simp) (fun x hx => by cases hx) (fun x hx => by cases hx))
      refine ((((ownQ_ev hs).and ((named_ev q3 q1).and (named_ev q4 q2))).and ((refCheck_ev q5).and (ref9Check_ev q6))).and ((g8.and (rSame0_ev (pOf x))).and ((g12.and g13).and ((rName_ev (opOf x)).and (Ev.ge ((tOf x).length + (byOf x).length + 1)))))).mono fun n hh => ?_
      obtain ⟨⟨⟨o1, n1, n2⟩, c1, c2⟩, ⟨s1, s2⟩, ⟨r1, r2⟩, nm, hn⟩ := hh
      refine ⟨ownQ x, (((if (opOf x == 15) then okV (vOf x) else (cmp (vOf x) zv == 0)) && (if (opOf x == 18 || opOf x == 22) then okP (pOf x) else emptyF (pOf x))) && ((tOf x).all (rightL f) && (byOf x).all (byF (rightL f) (opOf x == 40)))), o1, n1, n2, ?_, rfl⟩
      rintro i op S N v1 v2 v3 v4 v5 p1 p2 p3 Ts By As rfl
      simp only [opOf, sOf, nOf, vOf, pOf, tOf, byOf, asOf] at *
      rw [rr_j2 nm c1 c2 s1 s2 (rr_j4 nm r1 (by omega) r2 (by omega) (by omega))]
      exact ifab _ _ _ _
    refine Ev.step ((H.and (Ev.ge (l.length + 1))).mono fun n hh => ?_)
    rw [tab_ref12_right, ref12_right, if_neg (by simp; omega), rightL]
    rcases rr_l1 (R := rightL f) hh.1 (by omega) l.length 0 n (by omega) (by omega) with ⟨g, ⟨z1, z2⟩, k⟩ | ⟨g, k⟩
    · rw [show ((0 : Nat) : Int) = 0 from rfl] at k
      rw [List.drop_zero] at g
      rw [k, g]
    · rw [show ((0 : Nat) : Int) = 0 from rfl] at k
      rw [List.drop_zero] at g
      rw [k, g]
theorem refPCheck_ev {l : List GStep} (h : wL l ≤ 2097152) : Ev fun n => (tab n).ref12_Check l = some (if okL2 l then 0 else 2) := by
  refine Ev.step (((refSteps_ev h).and (refright_ev 11 (by omega) l h)).mono fun n hh => ?_)
  obtain ⟨h1, h2⟩ := hh
  have h2 : (tab n).ref12_right l 1 = some (rightL 11 l) := h2
  rw [tab_ref12_Check]
  simp only [ref12_Check, h1, h2, okL2, stepsC]
  by_cases hc : cntN 12 l ≤ 400
  · rw [if_neg (by simp; omega)]
    by_cases hr : rightL 11 l = true
    · simp [hr, hc]
    · simp [hr, hc]
  · rw [if_pos (by simp; omega)]
    simp [hc]
end Go.Proofs.YtgkfjhfehdefaaaGreatDoor.W
