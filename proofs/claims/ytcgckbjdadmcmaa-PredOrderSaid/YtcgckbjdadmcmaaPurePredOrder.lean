/- Of two values of one kind. -/
import Derived.Test.YtcgckbjdadmcmaaPureH
namespace Go.Proofs.Ytcgckbjdadmcmaa.W
open Go.Proofs.Ytcgckbjdadmcmaa.Flat
set_option linter.unusedVariables false
set_option linter.unusedSimpArgs false
theorem Pure.PredOrder : ∀ (x0 : GValue) (x1 : GValue) (x2 : GValue), GValue.In x0 → GValue.In x1 → GValue.In x2 → ∃ n, (tab n).law09_PredOrder x0 x1 x2 = some true := by
  intro a v b ha hv hb
  have ha := GValue.vin a ha
  have hv := GValue.vin v hv
  have hb := GValue.vin b hb
  obtain ⟨r, e⟩ := much_all (x := .mk 0 [] []) (l := [a, v, b]) (pin0 0 [] (by simp) (by simp)) (by simp; exact ⟨ha, hv, hb⟩) (by simp)
  have t1 := fun k l (H : ∀ x ∈ l, VIn x) (hl : l.length ≤ 1759218604391) => predTest_ev (pin0 k l H hl) hv
  have ta := fun k => t1 k [a] (by simpa using ha) (by simp)
  have tb := fun k => t1 k [b] (by simpa using hb) (by simp)
  have tt := fun k => t1 k [a, b] (by simpa using ⟨ha, hb⟩) (by simp)
  refine Ev.out (Ev.step ((((e.and known_ev).and ((refCheck_ev ha).and (refCheck_ev hb))).and (one_evs.and (((ta 1).and ((ta 2).and ((ta 3).and ((ta 4).and ((ta 5).and (ta 6)))))).and (((tt 7).and ((tt 8).and (tt 9))).and ((tb 3).and (tb 5)))))).mono fun n hh => ?_))
  obtain ⟨⟨⟨h1, h2⟩, h3, h4⟩, h5, ⟨a1, a2, a3, a4, a5, a6⟩, ⟨t7, t8, t9⟩, b3, b5⟩ := hh
  rw [tab_law09_PredOrder]
  cases hoa : okV a with
  | false =>
    rw [hoa] at h3
    cases a
    cases v
    cases b
    simp only [law09_PredOrder, h1, h2, h3]
    split <;> rfl
  | true =>
    cases hob : okV b with
    | false =>
      rw [hoa] at h3
      rw [hob] at h4
      cases a
      cases v
      cases b
      simp only [law09_PredOrder, h1, h2, h3, h4]
      split <;> rfl
    | true =>
      rw [hoa] at h3
      rw [hob] at h4
      rw [test_one (by simp) hoa] at a3 a4 a5 a6
      rw [test_one (by simp) hob] at b3 b5
      rw [test_two (by simp) hoa hob] at t7 t8 t9
      rw [test_eq hoa] at a1
      rw [test_neq hoa] at a2
      have hk := cmp_kind (a := a) (v := v)
      rw [cmp_neg] at a1 a2 hk
      have s1 := cmp_sg v a
      have s2 := cmp_sg v b
      cases a with | mk k1 n1 s1' l1 m1
      cases v with | mk k2 n2 s2' l2 m2
      cases b with | mk k3 n3 s3' l3 m3
      generalize cmp _ _ = c at s1 hk a1 a2 a3 a4 a5 a6 t7 t8 t9
      generalize cmp _ _ = d at s2 b3 b5 t7 t8 t9
      simp only [kindOf] at hk a1 a2 a3 a4 a5 a6 t7 t8 t9 b3 b5
      simp only [law09_PredOrder, h1, h2, h3, h4]
      cases r with
      | true => rfl
      | false =>
        simp only [law09_PredOrder_j1, h5, a1, a2, a3, a4, a5, a6, t7, t8, t9, b3, b5, law09_PredOrder_j2, law09_PredOrder_j3, law09_PredOrder_j4, law09_PredOrder_j5, h2]
        have w1 : IntKind.wrap .i64 (0 + 1) = 1 := wr (by omega) (by omega)
        have w2 : IntKind.wrap .i64 (1 + 1) = 2 := wr (by omega) (by omega)
        have w3 : IntKind.wrap .i64 1 = 1 := wr (by omega) (by omega)
        by_cases hka : k1 = k2
        · by_cases hkb : k3 = k2
          · rcases s1 with rfl | rfl | rfl <;> rcases s2 with rfl | rfl | rfl <;> simp [hka, hkb, orderF, w1, w2, w3]
          · rcases s1 with rfl | rfl | rfl <;> simp [hka, hkb, orderF, w1, w2, w3]
        · have hc : c ≠ 0 := fun e => hka (hk (by omega))
          simp [hka, hc]
end Go.Proofs.Ytcgckbjdadmcmaa.W
