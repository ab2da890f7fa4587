/- Negated. -/
import Derived.Test.YtcgckbjdadmcmaaPureI
namespace Go.Proofs.Ytcgckbjdadmcmaa.W
open Go.Proofs.Ytcgckbjdadmcmaa.Flat
set_option linter.unusedVariables false
set_option linter.unusedSimpArgs false
theorem all_cg {α : Type _} {f g : α → Bool} : ∀ {l : List α}, (∀ x ∈ l, f x = g x) → l.all f = l.all g
  | [], _ => rfl
  | x :: xs, h => by rw [List.all_cons, List.all_cons, h x (by simp), all_cg fun y hy => h y (by simp [hy])]
theorem any_cg {α : Type _} {f g : α → Bool} : ∀ {l : List α}, (∀ x ∈ l, f x = g x) → l.any f = l.any g
  | [], _ => rfl
  | x :: xs, h => by rw [List.any_cons, List.any_cons, h x (by simp), any_cg fun y hy => h y (by simp [hy])]
def negF : Nat → GPred → GPred
  | 0, a => a
  | f + 1, .mk k v p =>
    if k = 1 then .mk 2 v p else if k = 2 then .mk 1 v p else if k = 10 then .mk 11 v p else if k = 11 then .mk 10 v p
    else if k = 12 then p.headD p0
    else if k = 13 then .mk 14 [] (p.map (negF f)) else if k = 14 then .mk 13 [] (p.map (negF f))
    else .mk 12 [] [.mk k v p]
theorem negF_pin : ∀ (f : Nat) (a : GPred), PIn a → PIn (negF f a)
  | 0, a, h => h
  | f + 1, .mk k v p, .mk hv hp av ap => by
    have hm : ∀ x ∈ p.map (negF f), PIn x := by
      intro x hx
      obtain ⟨y, hy, rfl⟩ := List.mem_map.1 hx
      exact negF_pin f y (ap y hy)
    have hl : (p.map (negF f)).length ≤ 2513169434844 := by rw [List.length_map]; exact hp
    unfold negF
    split
    · exact .mk hv hp av ap
    split
    · exact .mk hv hp av ap
    split
    · exact .mk hv hp av ap
    split
    · exact .mk hv hp av ap
    split
    · cases p with
      | nil => exact pin0 0 [] (by simp) (by simp)
      | cons y ys => exact ap y (by simp)
    split
    · exact pinJ 14 hm hl
    split
    · exact pinJ 13 hm hl
    · refine pinJ 12 ?_ (by simp)
      intro x hx
      rw [List.mem_singleton] at hx
      rw [hx]
      exact .mk hv hp av ap
theorem testF_ind {x : GValue} : ∀ (f g : Nat) (a : GPred), rightF f a = true → rightF g a = true → testF f a x = testF g a x
  | 0, _, _, h, _ => by cases h
  | _ + 1, 0, _, _, h => by cases h
  | f + 1, g + 1, .mk k v p, h1, h2 => by
    have c1 := (rightF_mk h1).2.2
    have c2 := (rightF_mk h2).2.2
    have e : ∀ y ∈ p, testF f y x = testF g y x := fun y hy => testF_ind f g y (c1 y hy) (c2 y hy)
    simp only [testF, all_cg e, any_cg e]
theorem neg_test {x : GValue} : ∀ (f g : Nat) (a : GPred), rightF f a = true → rightF g (negF f a) = true → testF g (negF f a) x = !testF f a x
  | 0, _, _, h, _ => by cases h
  | _ + 1, 0, _, _, h => by cases h
  | f + 1, g + 1, .mk k v p, h1, h2 => by
    obtain ⟨c1, c2, c3⟩ := rightF_mk h1
    rcases arOK_cases c1 with ⟨hk, ha, hb⟩ | ⟨hk, ha, hb⟩ | ⟨hk, ha, hb⟩ | ⟨hk, ha, hb⟩ | ⟨hk, ha, hb⟩
    · rcases hk with rfl | rfl | hk
      · simp [negF, testF]
      · simp [negF, testF]
      · have e : negF (f + 1) (.mk k v p) = .mk 12 [] [.mk k v p] := by rcases hk with rfl | rfl | rfl | rfl <;> simp [negF]
        rw [e] at h2 ⊢
        have d := (rightF_mk h2).2.2 _ (List.mem_singleton.2 rfl)
        rw [testF_ind (f + 1) g _ h1 d]
        simp [testF]
    · have e : negF (f + 1) (.mk k v p) = .mk 12 [] [.mk k v p] := by rcases hk with rfl | rfl | rfl <;> simp [negF]
      rw [e] at h2 ⊢
      have d := (rightF_mk h2).2.2 _ (List.mem_singleton.2 rfl)
      rw [testF_ind (f + 1) g _ h1 d]
      simp [testF]
    · rcases hk with rfl | rfl <;> simp [negF, testF]
    · subst hk
      have hp1 : p.length = 1 := by omega
      obtain ⟨q, rfl⟩ := List.length_eq_one_iff.1 hp1
      have e : negF (f + 1) (.mk 12 v [q]) = q := by simp [negF]
      rw [e] at h2 ⊢
      rw [testF_ind (g + 1) f q h2 (c3 q (by simp))]
      simp [testF]
    · rcases hk with rfl | rfl
      · have e : negF (f + 1) (.mk 13 v p) = .mk 14 [] (p.map (negF f)) := by simp [negF]
        rw [e] at h2 ⊢
        have d := (rightF_mk h2).2.2
        have e2 : ∀ y ∈ p, testF g (negF f y) x = !testF f y x := fun y hy => neg_test f g y (c3 y hy) (d _ (List.mem_map.2 ⟨y, hy, rfl⟩))
        have e3 : (p.map (negF f)).any (fun y => testF g y x) = p.any fun y => !testF f y x := by
          rw [List.any_map]
          exact any_cg e2
        simp [testF, e3, List.not_all_eq_any_not]
      · have e : negF (f + 1) (.mk 14 v p) = .mk 13 [] (p.map (negF f)) := by simp [negF]
        rw [e] at h2 ⊢
        have d := (rightF_mk h2).2.2
        have e2 : ∀ y ∈ p, testF g (negF f y) x = !testF f y x := fun y hy => neg_test f g y (c3 y hy) (d _ (List.mem_map.2 ⟨y, hy, rfl⟩))
        have e3 : (p.map (negF f)).all (fun y => testF g y x) = p.all fun y => !testF f y x := by
          rw [List.all_map]
          exact all_cg e2
        simp [testF, e3, List.not_any_eq_all_not]
/- The walks. -/
theorem pn2 {t : Tab} {n : Nat} {l : List GPred} {g : GPred → GPred} {k4 k7 : Int} {v5 v8 : List GValue} {p6 : List GPred} (H : ∀ x ∈ l, t.pred_negate x = some (g x)) (hl : l.length ≤ 2513169434844) : ∀ (d i K : Nat), i + d = l.length → d < K → ∃ z1 z2 z3 z4 z5 z6 z7, pred_negate_l2 t n K l (l.length : Int) (i : Int) k4 v5 p6 k7 v8 ((l.take i).map g) = some (z1, z2, z3, z4, z5, z6, z7, k7, v8, l.map g)
  | 0, i, K, hi, hk => by
    obtain ⟨K, rfl⟩ : ∃ j, K = j + 1 := ⟨K - 1, by omega⟩
    exact ⟨_, _, _, _, _, _, _, by rw [pred_negate_l2, if_neg (by simp; omega), List.take_of_length_le (by omega)]⟩
  | d + 1, i, K, hi, hk => by
    obtain ⟨K, rfl⟩ : ∃ j, K = j + 1 := ⟨K - 1, by omega⟩
    obtain ⟨x, x1, x3, x2⟩ := at_ (l := l) (i := i) (by omega)
    have hx := H x x3
    obtain ⟨z1, z2, z3, z4, z5, z6, z7, ih⟩ := pn2 (n := n) (k4 := k4) (k7 := k7) (v5 := v5) (v8 := v8) (p6 := p6) H hl d (i + 1) K (by omega) (by omega)
    refine ⟨z1, z2, z3, z4, z5, z6, z7, ?_⟩
    have et : (l.take i).map g ++ [g x] = (l.take (i + 1)).map g := by rw [List.take_add_one, x1]; simp
    have el : ((l.take i).map g).length = i := by rw [List.length_map, List.length_take]; omega
    rw [pred_negate_l2, if_pos (by simp; omega), if_pos (by simp), Int.toNat_natCast, x1, wr1 (i := i) (L := l.length) (by omega) (by omega)]
    generalize hq : g x = q at hx et
    cases x
    cases q
    simp only [hx, et]
    rw [if_pos (by rw [el]; simp; omega)]
    exact ih
theorem other_evs : Ev fun n => ∀ k, (tab n).pred_other k = pred_other (tab n) n k := Ev.step (Ev.pure fun n k => rfl)
theorem pnegate_ev : ∀ (f : Nat) (a : GPred), PIn a → rightF f a = true → Ev fun n => (tab n).pred_negate a = some (negF f a)
  | 0, a, _, h => by cases h
  | f + 1, .mk k v p, .mk hv hp av ap, h => by
    obtain ⟨g1, g2, g3⟩ := rightF_mk h
    have ih := Ev.all p fun y hy => pnegate_ev f y (ap y hy) (g3 y hy)
    have ot : Ev fun n => (tab n).pred_other k = some (if k = 1 then (2, true) else if k = 2 then (1, true) else if k = 10 then (11, true) else if k = 11 then (10, true) else (0, false)) :=
      Ev.step (Ev.pure fun n => by
        rw [tab_pred_other]
        simp only [pred_other, beq_iff_eq]
        repeat' split
        all_goals rfl)
    refine Ev.step ((ih.and (ot.and (Ev.ge (p.length + 1)))).mono fun n hh => ?_)
    obtain ⟨h1, h2, h3⟩ := hh
    rw [tab_pred_negate]
    have w1 : IntKind.wrap .i64 14 = 14 := wr (by omega) (by omega)
    have w2 : IntKind.wrap .i64 13 = 13 := wr (by omega) (by omega)
    rcases arOK_cases g1 with ⟨hk, ha, hb⟩ | ⟨hk, ha, hb⟩ | ⟨hk, ha, hb⟩ | ⟨hk, ha, hb⟩ | ⟨hk, ha, hb⟩
    · rcases hk with rfl | rfl | rfl | rfl | rfl | rfl <;> simp [pred_negate, h2, negF, pred_negate_j1]
    · rcases hk with rfl | rfl | rfl <;> simp [pred_negate, h2, negF, pred_negate_j1]
    · rcases hk with rfl | rfl <;> simp [pred_negate, h2, negF, pred_negate_j1]
    · subst hk
      have hp1 : p.length = 1 := by omega
      obtain ⟨q, rfl⟩ := List.length_eq_one_iff.1 hp1
      cases q
      simp [pred_negate, h2, negF]
    · rcases hk with rfl | rfl
      · obtain ⟨z1, z2, z3, z4, z5, z6, z7, e⟩ := pn2 (n := n) (k4 := 0) (k7 := 14) (v5 := []) (v8 := []) (p6 := []) h1 hp p.length 0 n (by omega) (by omega)
        rw [show ((0 : Nat) : Int) = 0 from rfl, List.take_zero, List.map_nil] at e
        simp [pred_negate, h2, negF, pred_negate_j1, w1, e]
      · obtain ⟨z1, z2, z3, z4, z5, z6, z7, e⟩ := pn2 (n := n) (k4 := 0) (k7 := 13) (v5 := []) (v8 := []) (p6 := []) h1 hp p.length 0 n (by omega) (by omega)
        rw [show ((0 : Nat) : Int) = 0 from rfl, List.take_zero, List.map_nil] at e
        simp [pred_negate, h2, negF, pred_negate_j1, w2, e]
def neg (a : GPred) : GPred := if okP a then negF 12 a else p0
theorem neg_pin {a : GPred} (h : PIn a) : PIn (neg a) := by
  unfold neg
  split
  · exact negF_pin 12 a h
  · exact pin0 0 [] (by simp) (by simp)
theorem predNegate_ev {a : GPred} (ha : PIn a) : Ev fun n => (tab n).pred_Negate a = some (neg a) := by
  have r : Ev fun n => okP a = true → (tab n).pred_Copy a = some a ∧ (tab n).pred_negate a = some (negF 12 a) := by
    by_cases h : okP a = true
    · exact ((predCopy_ev ha h).and (pnegate_ev 12 a ha h)).mono fun n h _ => h
    · exact Ev.pure fun n g => absurd g h
  refine Ev.step ((r.and (pright_ev 12 (by omega) a ha)).mono fun n hh => ?_)
  obtain ⟨h1, h2⟩ := hh
  have h2 : (tab n).pred_right a 1 = some (okP a) := h2
  rw [tab_pred_Negate]
  cases ho : okP a
  · rw [ho] at h2
    cases a
    simp only [pred_Negate, h2, neg, ho]
    rfl
  · obtain ⟨g1, g2⟩ := h1 ho
    rw [ho] at h2
    cases a
    simp only [pred_Negate, h2, g1, g2, neg, ho, if_pos]
theorem same_rows {t : Tab} {n : Nat} {l : List GValue} (H : ∀ x ∈ l, t.ref02_Same x x = some true) (hl : l.length ≤ 1759218604391) : ∀ (d i K : Nat), i + d = l.length → d < K → ∃ z, ref02_SameRows_l1 t n K l l (i : Int) = some (.inr z)
  | 0, i, K, hi, hk => by
    obtain ⟨K, rfl⟩ : ∃ j, K = j + 1 := ⟨K - 1, by omega⟩
    exact ⟨_, by rw [ref02_SameRows_l1, if_neg (by simp; omega)]⟩
  | d + 1, i, K, hi, hk => by
    obtain ⟨K, rfl⟩ : ∃ j, K = j + 1 := ⟨K - 1, by omega⟩
    obtain ⟨x, x1, x3, x2⟩ := at_ (l := l) (i := i) (by omega)
    have hx := H x x3
    obtain ⟨z, ih⟩ := same_rows (n := n) H hl d (i + 1) K (by omega) (by omega)
    refine ⟨z, ?_⟩
    rw [ref02_SameRows_l1, if_pos (by simp; omega), if_pos (by simp), Int.toNat_natCast, x1, wr1 (i := i) (L := l.length) (by omega) (by omega)]
    cases x
    simp only [hx, if_true]
    exact ih
theorem same_l {t : Tab} {n : Nat} {k1 k2 : Int} {v1 v2 : List GValue} {l : List GPred} (H : ∀ x ∈ l, t.ref09_Same x x = some true) (hl : l.length ≤ 2513169434844) : ∀ (d i K : Nat), i + d = l.length → d < K → ∃ z, ref09_Same_l2 t n K (i : Int) k1 v1 l k2 v2 l = some (.inr z)
  | 0, i, K, hi, hk => by
    obtain ⟨K, rfl⟩ : ∃ j, K = j + 1 := ⟨K - 1, by omega⟩
    exact ⟨_, by rw [ref09_Same_l2, if_neg (by simp; omega)]⟩
  | d + 1, i, K, hi, hk => by
    obtain ⟨K, rfl⟩ : ∃ j, K = j + 1 := ⟨K - 1, by omega⟩
    obtain ⟨x, x1, x3, x2⟩ := at_ (l := l) (i := i) (by omega)
    have hx := H x x3
    obtain ⟨z, ih⟩ := same_l (n := n) (k1 := k1) (k2 := k2) (v1 := v1) (v2 := v2) H hl d (i + 1) K (by omega) (by omega)
    refine ⟨z, ?_⟩
    rw [ref09_Same_l2, if_pos (by simp; omega), if_pos (by simp), Int.toNat_natCast, x1, wr1 (i := i) (L := l.length) (by omega) (by omega)]
    cases x
    simp only [hx, if_true]
    exact ih
theorem cmp_self (a : GValue) : cmp a a = 0 := by
  have := cmp_neg a a
  omega
theorem same_ev {a : GPred} (ha : PIn a) : Ev fun n => (tab n).ref09_Same a a = some true := by
  induction ha with
  | @mk k v p hv hp av ap ih =>
    have r1 : Ev fun n => (tab n).ref02_SameRows v v = some true := by
      refine Ev.step (((Ev.all v fun x hx => refSame_ev (av x hx) (av x hx)).and (Ev.ge (v.length + 1))).mono fun n hh => ?_)
      rw [tab_ref02_SameRows]
      obtain ⟨⟨z1, z2, z3, z4⟩, e⟩ := same_rows (n := n) (fun x hx => by rw [hh.1 x hx, cmp_self]; rfl) hv v.length 0 n (by omega) (by omega)
      rw [show ((0 : Nat) : Int) = 0 from rfl] at e
      simp [ref02_SameRows, e]
    refine Ev.step ((r1.and ((Ev.all p ih).and (Ev.ge (p.length + 1)))).mono fun n hh => ?_)
    obtain ⟨h1, h2, h3⟩ := hh
    rw [tab_ref09_Same]
    obtain ⟨⟨z1, z2, z3, z4, z5, z6, z7, z8⟩, e⟩ := same_l (n := n) (k1 := k) (k2 := k) (v1 := v) (v2 := v) h2 hp p.length 0 n (by omega) (by omega)
    rw [show ((0 : Nat) : Int) = 0 from rfl] at e
    simp [ref09_Same, h1, ref09_Same_j1, e]
theorem Pure.PredOthers : ∀ (x0 : GPred) (x1 : GValue), GPred.In x0 → GValue.In x1 → ∃ n, (tab n).law09_PredOthers x0 x1 = some true := by
  intro a x ha hx
  have ha := GPred.pin a ha
  have hx := GValue.vin x hx
  obtain ⟨r, e⟩ := much_all (l := [x]) ha (by simp; exact hx) (by simp)
  have hA := neg_pin ha
  have hB := neg_pin hA
  have hN : PIn (.mk 12 [] [a]) := pinJ 12 (by simpa using ha) (by simp)
  refine Ev.out (Ev.step ((((e.and known_ev).and ((predCheck_ev ha).and ((predCheck_ev hA).and ((predCheck_ev hB).and (predCheck_ev hN))))).and ((((predTest_ev ha hx).and (predTest_ev hA hx)).and ((predTest_ev hB hx).and (predTest_ev hN hx))).and (((predNegate_ev ha).and ((predNegate_ev hA).and (predNegate_ev hN))).and (same_ev ha)))).mono fun n hh => ?_))
  obtain ⟨⟨⟨h1, h2⟩, c1, c2, c3, c4⟩, ⟨⟨t1, t2⟩, t3, t4⟩, ⟨n1, n2, n3⟩, s1⟩ := hh
  rw [tab_law09_PredOthers]
  have q1 : okP a = true → okP (neg a) = true → test (neg a) x = !test a x := by
    intro g1 g2
    have e : neg a = negF 12 a := by rw [neg, if_pos g1]
    rw [e] at g2 ⊢
    rw [test, test, g1, g2, Bool.true_and, Bool.true_and]
    exact neg_test 12 12 a g1 g2
  have q2 : okP (neg a) = true → okP (neg (neg a)) = true → test (neg (neg a)) x = !test (neg a) x := by
    intro g1 g2
    have e : neg (neg a) = negF 12 (neg a) := by rw [neg, if_pos g1]
    rw [e] at g2 ⊢
    rw [test, test, g1, g2, Bool.true_and, Bool.true_and]
    exact neg_test 12 12 _ g1 g2
  have q3 : okP a = true → okP (.mk 12 [] [a]) = true → test (.mk 12 [] [a]) x = (!test a x) ∧ neg (.mk 12 [] [a]) = a := by
    intro g1 g2
    have d := (rightF_mk (f := 11) g2).2.2 a (by simp)
    refine ⟨?_, by rw [neg, if_pos g2]; simp [negF]⟩
    rw [test, test, g1, g2, Bool.true_and, Bool.true_and, testF_ind 12 11 a g1 d]
    simp [testF]
  generalize hnA : neg a = A at *
  generalize hnB : neg A = B at *
  have j3 : okP a = true → (match (generalizing := false) a, x with | .mk a1 a2 a3, .mk a4 a5 a6 a7 a8 => law09_PredOthers_j3 (tab n) n a1 a2 a3 a4 a5 a6 a7 a8 = some true) := by
    intro g1
    cases g4 : okP (.mk 12 [] [a]) with
    | false =>
      rw [g4] at c4
      cases a
      cases x
      simp only [law09_PredOthers_j3, c4]
      exact h2
    | true =>
      obtain ⟨d1, d2⟩ := q3 g1 g4
      rw [g4] at c4
      rw [d2] at n3
      rw [d1] at t4
      generalize test a x = b at t1 t4
      cases a
      cases x
      simp only [law09_PredOthers_j3, c4, t4, t1, n3, s1, h2]
      cases b <;> rfl
  have j2 : okP a = true → (match (generalizing := false) a, x, A with | .mk a1 a2 a3, .mk a4 a5 a6 a7 a8, .mk a9 a10 a11 => law09_PredOthers_j2 (tab n) n a1 a2 a3 a4 a5 a6 a7 a8 a9 a10 a11 = some true) := by
    intro g1
    have j3 := j3 g1
    cases g2 : okP A with
    | false =>
      rw [g2] at c2
      cases a
      cases x
      cases A
      cases B
      simp only [law09_PredOthers_j2, n2, c2]
      exact j3
    | true =>
      rw [g2] at c2
      cases g3 : okP B with
      | false =>
        rw [g3] at c3
        cases a
        cases x
        cases A
        cases B
        simp only [law09_PredOthers_j2, n2, c2, c3]
        exact j3
      | true =>
        rw [g3] at c3
        rw [q2 g2 g3, q1 g1 g2] at t3
        generalize test a x = b at t1 t3
        cases a
        cases x
        cases A
        cases B
        simp only [law09_PredOthers_j2, n2, c2, c3, t3, t1]
        cases b <;> exact j3
  cases g1 : okP a with
  | false =>
    rw [g1] at c1
    cases a
    cases x
    simp only [law09_PredOthers, h1, c1, h2]
    cases r <;> rfl
  | true =>
    have j2 := j2 g1
    rw [g1] at c1
    cases g2 : okP A with
    | false =>
      rw [g2] at c2
      cases a
      cases x
      cases A
      simp only [law09_PredOthers, h1, c1, h2, law09_PredOthers_j1, n1, c2]
      cases r
      · exact j2
      · rfl
    | true =>
      rw [g2] at c2
      rw [q1 g1 g2] at t2
      generalize test a x = b at t1 t2
      cases a
      cases x
      cases A
      simp only [law09_PredOthers, h1, c1, h2, law09_PredOthers_j1, n1, c2, t1, t2]
      cases r
      · cases b <;> exact j2
      · rfl
end Go.Proofs.Ytcgckbjdadmcmaa.W
