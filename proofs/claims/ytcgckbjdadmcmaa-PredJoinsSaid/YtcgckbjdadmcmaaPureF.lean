/- Does a predicate hold? -/
import Derived.Test.YtcgckbjdadmcmaaPureE
namespace Go.Proofs.Ytcgckbjdadmcmaa.W
open Go.Proofs.Ytcgckbjdadmcmaa.Flat
set_option linter.unusedVariables false
set_option linter.unusedSimpArgs false
theorem arOK_cases {k a b : Int} (h : arOK k a b = true) : ((k = 1 ∨ k = 2 ∨ k = 3 ∨ k = 4 ∨ k = 5 ∨ k = 6) ∧ a = 1 ∧ b = 0) ∨ ((k = 7 ∨ k = 8 ∨ k = 9) ∧ a = 2 ∧ b = 0) ∨ ((k = 10 ∨ k = 11) ∧ a ≤ 1000 ∧ b = 0) ∨ (k = 12 ∧ a = 0 ∧ b = 1) ∨ ((k = 13 ∨ k = 14) ∧ a = 0 ∧ 2 ≤ b ∧ b ≤ 1000) := by
  unfold arOK at h
  repeat' split at h
  all_goals simp at h
  all_goals omega
theorem rightF_mk {f : Nat} {k : Int} {v : List GValue} {p : List GPred} (h : rightF (f + 1) (.mk k v p) = true) : arOK k v.length p.length = true ∧ (∀ x ∈ v, okV x = true) ∧ ∀ x ∈ p, rightF f x = true := by
  rw [rightF, Bool.and_eq_true, Bool.and_eq_true, List.all_eq_true, List.all_eq_true] at h
  exact h
def kindOf : GValue → Int
  | .mk k _ _ _ _ => k
def orderF (k a b : Int) : Bool :=
  if k = 3 then a == -1 else if k = 4 then a != 1 else if k = 5 then a == 1 else if k = 6 then a != -1 else if k = 7 then a != -1 && b == -1 else if k = 8 then a == 1 && b == -1 else a == -1 || b == 1
def anyS (v : List GValue) (x : GValue) : Bool := v.any fun y => cmp y x == 0
def allK (v : List GValue) (x : GValue) : Bool := v.all fun y => kindOf y == kindOf x
def fin (k : Int) (v : List GValue) (x : GValue) : Bool := allK v x && orderF k (cmp x (v.getD 0 dv)) (cmp x (v.getD (v.length - 1) dv))
def testF : Nat → GPred → GValue → Bool
  | 0, _, _ => false
  | f + 1, .mk k v p, x =>
    if k = 1 ∨ k = 10 then anyS v x
    else if k = 2 ∨ k = 11 then !anyS v x
    else if k = 12 then !p.all fun y => testF f y x
    else if k = 13 then p.all fun y => testF f y x
    else if k = 14 then p.any fun y => testF f y x
    else fin k v x
theorem order_at {t : Tab} {n : Nat} {k : Int} {v : List GValue} {x : GValue} (H : ∀ y ∈ v, t.value_Cmp x y = some (cmp x y)) (h0 : v.length ≠ 0) (hl : v.length ≤ 1759218604391) : pred_order t n k x v = some (orderF k (cmp x (v.getD 0 dv)) (cmp x (v.getD (v.length - 1) dv))) := by
  obtain ⟨y, y1, y3, _⟩ := at_ (l := v) (i := 0) (by omega)
  obtain ⟨z, z1, z3, _⟩ := at_ (l := v) (i := v.length - 1) (by omega)
  have hy := H y y3
  have hz := H z z3
  have e1 : IntKind.wrap .i64 ((v.length : Int) - 1) = ((v.length - 1 : Nat) : Int) := by rw [wr (by omega) (by omega)]; omega
  rw [getD_ y1, getD_ z1]
  have s1 := cmpV_sg 12 x y
  have s2 := cmpV_sg 12 x z
  have s1 : Sg (cmp x y) := s1
  have s2 : Sg (cmp x z) := s2
  cases x
  rw [pred_order, if_pos (by simp), show (0 : Int).toNat = 0 from rfl, y1, e1]
  cases y
  simp only [hy]
  rw [if_pos (by simp), Int.toNat_natCast, z1]
  cases z
  simp only [hz]
  generalize cmp _ _ = a at s1 ⊢
  generalize cmp _ _ = b at s2 ⊢
  unfold orderF
  by_cases c3 : k = 3
  · rw [if_pos (by simpa using c3), if_pos c3]
    rcases s1 with rfl | rfl | rfl <;> rfl
  rw [if_neg (by simpa using c3), if_neg c3]
  by_cases c4 : k = 4
  · rw [if_pos (by simpa using c4), if_pos c4]
    rcases s1 with rfl | rfl | rfl <;> rfl
  rw [if_neg (by simpa using c4), if_neg c4]
  by_cases c5 : k = 5
  · rw [if_pos (by simpa using c5), if_pos c5]
    rcases s1 with rfl | rfl | rfl <;> rfl
  rw [if_neg (by simpa using c5), if_neg c5]
  by_cases c6 : k = 6
  · rw [if_pos (by simpa using c6), if_pos c6]
    rcases s1 with rfl | rfl | rfl <;> rfl
  rw [if_neg (by simpa using c6), if_neg c6]
  by_cases c7 : k = 7
  · rw [if_pos (by simpa using c7), if_pos c7]
    rcases s1 with rfl | rfl | rfl <;> rcases s2 with rfl | rfl | rfl <;> rfl
  rw [if_neg (by simpa using c7), if_neg c7]
  by_cases c8 : k = 8
  · rw [if_pos (by simpa using c8), if_pos c8]
    rcases s1 with rfl | rfl | rfl <;> rcases s2 with rfl | rfl | rfl <;> rfl
  rw [if_neg (by simpa using c8), if_neg c8]
  rcases s1 with rfl | rfl | rfl <;> rcases s2 with rfl | rfl | rfl <;> rfl
theorem alike_ev {v : List GValue} {x : GValue} (hl : v.length ≤ 1759218604391) : Ev fun n => (tab n).pred_alike x v = some (allK v x) := by
  have r := pred_alike_1_c (l := v) (v := x) (g := fun y => kindOf y != kindOf x) (fun y hy => Ev.step (Ev.pure fun n => by
    rw [tab_pred_alike_1]
    cases y
    cases x
    rfl)) (by omega)
  refine Ev.step (r.mono fun n h => ?_)
  rw [tab_pred_alike]
  cases x
  simp only [pred_alike, h, allK]
  rw [List.not_any_eq_all_not]
  simp [bne]
theorem ptest_ev {x : GValue} (hx : VIn x) : ∀ (f : Nat) (a : GPred), PIn a → rightF f a = true → Ev fun n => (tab n).pred_test a x = some (testF f a x)
  | 0, a, _, h => by cases h
  | f + 1, .mk k v p, .mk hv hp av ap, h => by
    obtain ⟨g1, g2, g3⟩ := rightF_mk h
    have c3 := pred_test_3_c (l := v) (v := x) (g := fun y => cmp y x == 0) (fun y hy => Ev.step ((valSame_ev (av y hy) hx).mono fun n h => by
      rw [tab_pred_test_3]
      cases y
      cases x
      exact h)) (by omega)
    have ih : ∀ y ∈ p, Ev fun n => (tab n).pred_test y x = some (testF f y x) := fun y hy => ptest_ev hx f y (ap y hy) (g3 y hy)
    have c1 := pred_test_1_c (l := p) (v := x) (g := fun y => testF f y x) (fun y hy => Ev.step ((ih y hy).mono fun n h => by
      rw [tab_pred_test_1]
      cases y
      cases x
      exact h)) (by omega)
    have t2 : ∀ y ∈ p, Ev fun n => (tab n).pred_test_2 y x = some (!testF f y x) := fun y hy => Ev.step ((ih y hy).mono fun n h => by
      rw [tab_pred_test_2]
      cases y
      cases x
      simp only [pred_test_2, h])
    have c2 := pred_test_2_c (l := p) (v := x) (g := fun y => !testF f y x) t2 (by omega)
    have al := alike_ev (v := v) (x := x) hv
    have od : Ev fun n => v.length ≠ 0 → (tab n).pred_order k x v = some (orderF k (cmp x (v.getD 0 dv)) (cmp x (v.getD (v.length - 1) dv))) :=
      Ev.step ((Ev.all v fun y hy => valCmp_ev hx (av y hy)).mono fun n h h0 => by
        rw [tab_pred_order]
        exact order_at h h0 hv)
    refine Ev.step (((c3.and (c1.and c2)).and ((Ev.all p t2).and (al.and od))).mono fun n hh => ?_)
    obtain ⟨⟨h3, h1, h2⟩, h4, h5, h6⟩ := hh
    rw [tab_pred_test]
    have hj3 : v.length ≠ 0 → pred_test_j3 (tab n) n k v p (match x with | .mk k _ _ _ _ => k) (match x with | .mk _ k _ _ _ => k) (match x with | .mk _ _ k _ _ => k) (match x with | .mk _ _ _ k _ => k) (match x with | .mk _ _ _ _ k => k) = some (fin k v x) := by
      intro h0
      have h6 := h6 h0
      cases x
      simp only [pred_test_j3, h5, h6, fin]
      cases allK v _ <;> simp
    have e2 : (p.any fun y => !testF f y x) = !p.all fun y => testF f y x := by rw [List.not_all_eq_any_not]
    rw [e2] at h2
    cases x
    simp only at hj3
    rcases arOK_cases g1 with ⟨hk, ha, hb⟩ | ⟨hk, ha, hb⟩ | ⟨hk, ha, hb⟩ | ⟨hk, ha, hb⟩ | ⟨hk, ha, hb⟩
    · have h0 : v.length ≠ 0 := by omega
      rcases hk with rfl | rfl | rfl | rfl | rfl | rfl <;> simp [pred_test, pred_test_j1, pred_test_j2, h3, testF, anyS, hj3 h0]
    · have h0 : v.length ≠ 0 := by omega
      rcases hk with rfl | rfl | rfl <;> simp [pred_test, pred_test_j1, pred_test_j2, h3, testF, anyS, hj3 h0]
    · rcases hk with rfl | rfl <;> simp [pred_test, pred_test_j1, pred_test_j2, h3, testF, anyS]
    · subst hk
      have hp1 : p.length = 1 := by omega
      obtain ⟨y, rfl⟩ := List.length_eq_one_iff.1 hp1
      have h4 := h4 y (by simp)
      cases y
      simp [pred_test, pred_test_j1, pred_test_j2, h4, testF]
    · rcases hk with rfl | rfl <;> simp [pred_test, pred_test_j1, pred_test_j2, h1, h2, testF]
/- The other one. -/
theorem rt1 {t : Tab} {n : Nat} {k x1 x2 : Int} {x3 : ByteArray} {x4 x5 : List GValue} {v : List GValue} {p : List GPred} (H : ∀ y ∈ v, t.ref02_Same y (.mk x1 x2 x3 x4 x5) = some (cmp y (.mk x1 x2 x3 x4 x5) == 0)) (hl : v.length ≤ 1759218604391) : ∀ (d i K : Nat) (a b : Bool), i + d = v.length → d < K → ∃ z1 z2, ref09_test_l1 t n K a b (i : Int) k v p x1 x2 x3 x4 x5 = some (a || anyS (v.drop i) (.mk x1 x2 x3 x4 x5), b && allK (v.drop i) (.mk x1 x2 x3 x4 x5), z1, z2, k, v, p, x1, x2, x3, x4, x5)
  | 0, i, K, a, b, hi, hk => by
    obtain ⟨K, rfl⟩ : ∃ j, K = j + 1 := ⟨K - 1, by omega⟩
    rw [List.drop_of_length_le (by omega)]
    refine ⟨(i : Int), decide ((i : Int) < v.length), ?_⟩
    rw [ref09_test_l1, if_neg (by simp; omega)]
    simp [anyS, allK]
  | d + 1, i, K, a, b, hi, hk => by
    obtain ⟨K, rfl⟩ : ∃ j, K = j + 1 := ⟨K - 1, by omega⟩
    obtain ⟨y, y1, y3, y2⟩ := at_ (l := v) (i := i) (by omega)
    have hy := H y y3
    have ih := fun a b => rt1 (n := n) (k := k) (p := p) H hl d (i + 1) K a b (by omega) (by omega)
    have e1 : ∀ a, ref09_test_j2 t n a b (i : Int) k v p x1 x2 x3 x4 x5 = some (a, b && (kindOf y == x1), (i : Int), k, v, p, x1, x2, x3, x4, x5) := by
      intro a
      rw [ref09_test_j2]
      cases b
      · rfl
      · rw [if_pos rfl, if_pos (by simp), Int.toNat_natCast, y1]
        cases y
        rfl
    rw [ref09_test_l1, if_pos (by simp; omega), y2]
    have e2 : anyS (y :: v.drop (i + 1)) (.mk x1 x2 x3 x4 x5) = ((cmp y (.mk x1 x2 x3 x4 x5) == 0) || anyS (v.drop (i + 1)) (.mk x1 x2 x3 x4 x5)) := by rw [anyS, List.any_cons]; rfl
    have e3 : allK (y :: v.drop (i + 1)) (.mk x1 x2 x3 x4 x5) = ((kindOf y == x1) && allK (v.drop (i + 1)) (.mk x1 x2 x3 x4 x5)) := by rw [allK, List.all_cons]; rfl
    rw [e2, e3, ← Bool.or_assoc, ← Bool.and_assoc]
    cases a
    · rw [if_neg (by simp), if_pos (by simp), Int.toNat_natCast, y1]
      cases y
      simp only [hy, e1, Bool.false_or]
      rw [wr1 (i := i) (L := v.length) (by omega) (by omega)]
      exact ih _ _
    · rw [if_pos rfl]
      simp only [e1, Bool.true_or]
      rw [wr1 (i := i) (L := v.length) (by omega) (by omega)]
      have := ih true (b && (kindOf y == x1))
      simpa using this
theorem rt4 {t : Tab} {n : Nat} {k x1 x2 : Int} {x3 : ByteArray} {x4 x5 : List GValue} {v : List GValue} {p : List GPred} {a b : Bool} {T : GPred → Bool} (H : ∀ y ∈ p, t.ref09_test y (.mk x1 x2 x3 x4 x5) = some (T y)) (hl : p.length ≤ 2513169434844) : ∀ (d i K : Nat) (c e : Bool), i + d = p.length → d < K → ∃ z1 z2, ref09_test_l4 t n K a b c e (i : Int) k v p x1 x2 x3 x4 x5 = some (a, b, c || (p.drop i).any T, e && (p.drop i).all T, z1, z2, k, v, p, x1, x2, x3, x4, x5)
  | 0, i, K, c, e, hi, hk => by
    obtain ⟨K, rfl⟩ : ∃ j, K = j + 1 := ⟨K - 1, by omega⟩
    rw [List.drop_of_length_le (by omega)]
    refine ⟨(i : Int), decide ((i : Int) < p.length), ?_⟩
    rw [ref09_test_l4, if_neg (by simp; omega)]
    simp
  | d + 1, i, K, c, e, hi, hk => by
    obtain ⟨K, rfl⟩ : ∃ j, K = j + 1 := ⟨K - 1, by omega⟩
    obtain ⟨y, y1, y3, y2⟩ := at_ (l := p) (i := i) (by omega)
    have hy := H y y3
    have ih := fun c e => rt4 (n := n) (k := k) (v := v) (a := a) (b := b) H hl d (i + 1) K c e (by omega) (by omega)
    rw [ref09_test_l4, if_pos (by simp; omega), y2, if_pos (by simp), Int.toNat_natCast, y1, List.any_cons, List.all_cons, ← Bool.or_assoc, ← Bool.and_assoc]
    generalize T y = q at hy ⊢
    cases y
    simp only [hy]
    have := ih (c || q) (e && q)
    cases c <;> cases e
    all_goals
      simp only [ref09_test_j5, if_pos, Bool.false_eq_true, if_false, wr1 (i := i) (L := p.length) (by omega) (by omega)]
      simpa using this
theorem rtest_fin {t : Tab} {n : Nat} {k x1 x2 : Int} {x3 : ByteArray} {x4 x5 : List GValue} {v : List GValue} {p : List GPred} {b : Bool} (H : ∀ y ∈ v, t.ref02_Cmp (.mk x1 x2 x3 x4 x5) y = some (cmp (.mk x1 x2 x3 x4 x5) y)) (h0 : ((k = 3 ∨ k = 4 ∨ k = 5 ∨ k = 6) ∧ v.length = 1) ∨ ((k = 7 ∨ k = 8 ∨ k = 9) ∧ v.length = 2)) : ref09_test_j9 t n b k v p x1 x2 x3 x4 x5 = some (b && orderF k (cmp (.mk x1 x2 x3 x4 x5) (v.getD 0 dv)) (cmp (.mk x1 x2 x3 x4 x5) (v.getD (v.length - 1) dv))) := by
  cases b
  · rfl
  · have hv0 : 0 < v.length := by omega
    obtain ⟨y, y1, y3, _⟩ := at_ (l := v) (i := 0) hv0
    have hy := H y y3
    rw [getD_ y1, ref09_test_j9, if_pos rfl, if_pos (by simp), show (0 : Int).toNat = 0 from rfl, y1]
    cases y
    simp only [hy]
    rcases h0 with ⟨hk, h1⟩ | ⟨hk, h1⟩
    · rcases hk with rfl | rfl | rfl | rfl <;> rfl
    · rw [h1]
      obtain ⟨z, z1, z3, _⟩ := at_ (l := v) (i := 1) (by omega)
      have hz := H z z3
      rw [getD_ z1, if_neg (c := (k == 3) = true) (by simp; omega), if_neg (c := (k == 4) = true) (by simp; omega), if_neg (c := (k == 5) = true) (by simp; omega), if_neg (c := (k == 6) = true) (by simp; omega), if_pos (by simp), show (1 : Int).toNat = 1 from rfl, z1]
      cases z
      simp only [hz]
      generalize cmp _ _ = c
      generalize cmp _ _ = d
      rcases hk with rfl | rfl | rfl
      · by_cases e1 : c = -1 <;> simp [orderF, e1]
      · by_cases e1 : c = 1 <;> simp [orderF, e1]
      · by_cases e1 : c = -1 <;> simp [orderF, e1]
theorem rtest_ev {x : GValue} (hx : VIn x) : ∀ (f : Nat) (a : GPred), PIn a → rightF f a = true → Ev fun n => (tab n).ref09_test a x = some (testF f a x)
  | 0, a, _, h => by cases h
  | f + 1, .mk k v p, .mk hv hp av ap, h => by
    obtain ⟨g1, g2, g3⟩ := rightF_mk h
    have r1 := Ev.all p fun y hy => rtest_ev hx f y (ap y hy) (g3 y hy)
    have r2 := Ev.all v fun y hy => refSame_ev (av y hy) hx
    have r3 := Ev.all v fun y hy => refCmp_ev hx (av y hy)
    refine Ev.step (((r1.and r2).and (r3.and (Ev.ge (v.length + p.length + 1)))).mono fun n hh => ?_)
    obtain ⟨⟨h1, h2⟩, h3, h4⟩ := hh
    rw [tab_ref09_test]
    cases x with | mk x1 x2 x3 x4 x5
    obtain ⟨z1, z2, e1⟩ := rt1 (n := n) (k := k) (p := p) h2 hv v.length 0 n false true (by omega) (by omega)
    obtain ⟨z3, z4, e2⟩ := rt4 (n := n) (k := k) (v := v) (a := anyS v (.mk x1 x2 x3 x4 x5)) (b := allK v (.mk x1 x2 x3 x4 x5)) (T := fun y => testF f y (.mk x1 x2 x3 x4 x5)) h1 hp p.length 0 n false true (by omega) (by omega)
    rw [show ((0 : Nat) : Int) = 0 from rfl, List.drop_zero, Bool.false_or, Bool.true_and] at e1 e2
    simp only [ref09_test, e1, ref09_test_j3, e2]
    have hf : (((k = 3 ∨ k = 4 ∨ k = 5 ∨ k = 6) ∧ v.length = 1) ∨ ((k = 7 ∨ k = 8 ∨ k = 9) ∧ v.length = 2)) → ref09_test_j9 (tab n) n (allK v (.mk x1 x2 x3 x4 x5)) k v p x1 x2 x3 x4 x5 = some (fin k v (.mk x1 x2 x3 x4 x5)) := fun c => rtest_fin h3 c
    rcases arOK_cases g1 with ⟨hk, ha, hb⟩ | ⟨hk, ha, hb⟩ | ⟨hk, ha, hb⟩ | ⟨hk, ha, hb⟩ | ⟨hk, ha, hb⟩
    · have h0 : v.length = 1 := by omega
      rcases hk with rfl | rfl | rfl | rfl | rfl | rfl
      · simp [ref09_test_j6, ref09_test_j7, testF]
      · simp [ref09_test_j6, ref09_test_j7, ref09_test_j8, testF]
      all_goals
        simp [ref09_test_j6, ref09_test_j7, ref09_test_j8, testF, hf (.inl ⟨by simp, h0⟩)]
    · have h0 : v.length = 2 := by omega
      rcases hk with rfl | rfl | rfl
      all_goals
        simp [ref09_test_j6, ref09_test_j7, ref09_test_j8, testF, hf (.inr ⟨by simp, h0⟩)]
    · rcases hk with rfl | rfl <;> simp [ref09_test_j6, ref09_test_j7, ref09_test_j8, testF]
    · subst hk
      simp [ref09_test_j6, ref09_test_j7, ref09_test_j8, testF]
    · rcases hk with rfl | rfl <;> simp [ref09_test_j6, ref09_test_j7, ref09_test_j8, testF]
def test (a : GPred) (x : GValue) : Bool := okP a && testF 12 a x
theorem predTest_ev {a : GPred} {x : GValue} (ha : PIn a) (hx : VIn x) : Ev fun n => (tab n).pred_Test a x = some (test a x) := by
  have r : Ev fun n => okP a = true → (tab n).pred_test a x = some (testF 12 a x) := by
    by_cases h : okP a = true
    · exact (ptest_ev hx 12 a ha h).mono fun n h _ => h
    · exact Ev.pure fun n g => absurd g h
  refine Ev.step ((r.and (pright_ev 12 (by omega) a ha)).mono fun n hh => ?_)
  obtain ⟨h1, h2⟩ := hh
  rw [tab_pred_Test]
  have h2 : (tab n).pred_right a 1 = some (okP a) := h2
  cases a
  cases x
  simp only [pred_Test, h2, test]
  cases ho : okP _
  · simp
  · simp [h1 ho]
theorem ref9Test_ev {a : GPred} {x : GValue} (ha : PIn a) (hx : VIn x) : Ev fun n => (tab n).ref09_Test a x = some (test a x) := by
  have r : Ev fun n => okP a = true → (tab n).ref09_test a x = some (testF 12 a x) := by
    by_cases h : okP a = true
    · exact (rtest_ev hx 12 a ha h).mono fun n h _ => h
    · exact Ev.pure fun n g => absurd g h
  refine Ev.step ((r.and (rright_ev 12 (by omega) a ha)).mono fun n hh => ?_)
  obtain ⟨h1, h2⟩ := hh
  rw [tab_ref09_Test]
  have h2 : (tab n).ref09_right a 1 = some (okP a) := h2
  cases a
  cases x
  simp only [ref09_Test, h2, test]
  cases ho : okP _
  · simp
  · simp [h1 ho]
end Go.Proofs.Ytcgckbjdadmcmaa.W
