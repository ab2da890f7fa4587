/- Between two, inside two, outside two. -/
import Derived.Test.YtcgckbjdadmcmaaPureI
namespace Go.Proofs.Ytcgckbjdadmcmaa.W
open Go.Proofs.Ytcgckbjdadmcmaa.Flat
set_option linter.unusedVariables false
set_option linter.unusedSimpArgs false
theorem join2 {k k1 k2 : Int} {a b : GValue} (hk : k = 13 ∨ k = 14) (h1 : 1 ≤ k1 ∧ k1 ≤ 6) (h2 : 1 ≤ k2 ∧ k2 ≤ 6) (oa : okV a = true) (ob : okV b = true) : join k [.mk k1 [a] [], .mk k2 [b] []] = .mk k [] [.mk k1 [a] [], .mk k2 [b] []] ∧ okP (.mk k [] [.mk k1 [a] [], .mk k2 [b] []]) = true := by
  have e : okP (.mk k [] [.mk k1 [a] [], .mk k2 [b] []]) = true := by
    rcases hk with rfl | rfl <;> simp [okP, rightF, arOK, oa, ob, h1, h2]
  exact ⟨by rw [join, if_pos e], e⟩
theorem Pure.PredRanges : ∀ (x0 : GValue) (x1 : GValue) (x2 : GValue), GValue.In x0 → GValue.In x1 → GValue.In x2 → ∃ n, (tab n).law09_PredRanges x0 x1 x2 = some true := by
  intro a b v ha hb hv
  have ha := GValue.vin a ha
  have hv := GValue.vin v hv
  have hb := GValue.vin b hb
  obtain ⟨r, e⟩ := much_all (x := .mk 0 [] []) (l := [a, b, v]) (pin0 0 [] (by simp) (by simp)) (by simp; exact ⟨ha, hb, hv⟩) (by simp)
  have t1 := fun k l (H : ∀ x ∈ l, VIn x) (hl : l.length ≤ 1759218604391) => predTest_ev (pin0 k l H hl) hv
  have tt := fun k => t1 k [a, b] (by simpa using ⟨ha, hb⟩) (by simp)
  have pin2 : ∀ k1 k2 : Int, ∀ x ∈ [GPred.mk k1 [a] [], GPred.mk k2 [b] []], PIn x := by
    intro k1 k2 x hx
    simp only [List.mem_cons, List.not_mem_nil, or_false] at hx
    rcases hx with rfl | rfl
    · exact pin0 _ _ (by simpa using ha) (by simp)
    · exact pin0 _ _ (by simpa using hb) (by simp)
  have jj := fun k k1 k2 => join_ev (k := k) (pin2 k1 k2) (by simp)
  have tj := fun k k1 k2 => predTest_ev (pinJ k (pin2 k1 k2) (by simp)) hv
  refine Ev.out (Ev.step ((((e.and known_ev).and ((refCheck_ev ha).and (refCheck_ev hb))).and (one_evs.and (((tt 7).and ((tt 8).and (tt 9))).and (((jj 13 6 3).and ((jj 13 5 3).and (jj 14 3 5))).and ((tj 13 6 3).and ((tj 13 5 3).and (tj 14 3 5))))))).mono fun n hh => ?_))
  obtain ⟨⟨⟨h1, h2⟩, h3, h4⟩, h5, ⟨t7, t8, t9⟩, ⟨j1, j2, j3⟩, s1, s2, s3⟩ := hh
  rw [tab_law09_PredRanges]
  cases hoa : okV a with
  | false =>
    rw [hoa] at h3
    cases a
    cases v
    cases b
    simp only [law09_PredRanges, h1, h2, h3]
    split <;> rfl
  | true =>
    cases hob : okV b with
    | false =>
      rw [hoa] at h3
      rw [hob] at h4
      cases a
      cases v
      cases b
      simp only [law09_PredRanges, h1, h2, h3, h4]
      split <;> rfl
    | true =>
      rw [hoa] at h3
      rw [hob] at h4
      rw [test_two (by simp) hoa hob] at t7 t8 t9
      have q1 := join2 (k := 13) (k1 := 6) (k2 := 3) (a := a) (b := b) (by simp) (by simp) (by simp) hoa hob
      have q2 := join2 (k := 13) (k1 := 5) (k2 := 3) (a := a) (b := b) (by simp) (by simp) (by simp) hoa hob
      have q3 := join2 (k := 14) (k1 := 3) (k2 := 5) (a := a) (b := b) (by simp) (by simp) (by simp) hoa hob
      rw [q1.1] at j1
      rw [q2.1] at j2
      rw [q3.1] at j3
      have g1 : test (.mk 13 [] [.mk 6 [a] [], .mk 3 [b] []]) v = ((kindOf a == kindOf v && orderF 6 (cmp v a) (cmp v a)) && (kindOf b == kindOf v && orderF 3 (cmp v b) (cmp v b))) := by
        rw [test, q1.2]
        simp [testF, fin, allK, List.getD]
      have g2 : test (.mk 13 [] [.mk 5 [a] [], .mk 3 [b] []]) v = ((kindOf a == kindOf v && orderF 5 (cmp v a) (cmp v a)) && (kindOf b == kindOf v && orderF 3 (cmp v b) (cmp v b))) := by
        rw [test, q2.2]
        simp [testF, fin, allK, List.getD]
      have g3 : test (.mk 14 [] [.mk 3 [a] [], .mk 5 [b] []]) v = ((kindOf a == kindOf v && orderF 3 (cmp v a) (cmp v a)) || (kindOf b == kindOf v && orderF 5 (cmp v b) (cmp v b))) := by
        rw [test, q3.2]
        simp [testF, fin, allK, List.getD]
      rw [g1] at s1
      rw [g2] at s2
      rw [g3] at s3
      have c1 := cmp_sg v a
      have c2 := cmp_sg v b
      cases a with | mk k1 n1 s1' l1 m1
      cases v with | mk k2 n2 s2' l2 m2
      cases b with | mk k3 n3 s3' l3 m3
      generalize cmp _ _ = c at c1 t7 t8 t9 s1 s2 s3
      generalize cmp _ _ = d at c2 t7 t8 t9 s1 s2 s3
      simp only [kindOf] at t7 t8 t9 s1 s2 s3
      simp only [law09_PredRanges, h1, h2, h3, h4]
      cases r with
      | true => rfl
      | false =>
        simp only [law09_PredRanges_j1, h5, t7, t8, t9, j1, j2, j3, s1, s2, s3, h2]
        by_cases hka : k1 = k3
        · subst hka
          by_cases hkb : k1 = k2
          · rcases c1 with rfl | rfl | rfl <;> rcases c2 with rfl | rfl | rfl <;> simp [hkb, orderF]
          · have e : (k1 == k2) = false := by simpa using hkb
            simp [e]
        · have e0 : (k1 != k3) = true := by simpa using hka
          by_cases hkb : k1 = k2
          · have e : (k3 == k2) = false := by
              rw [beq_eq_false_iff_ne]
              omega
            simp [e0, e]
          · have e : (k1 == k2) = false := by simpa using hkb
            simp [e0, e]
end Go.Proofs.Ytcgckbjdadmcmaa.W
