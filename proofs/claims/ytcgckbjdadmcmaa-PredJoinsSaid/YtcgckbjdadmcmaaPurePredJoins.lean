/- All of some, one of some. -/
import Derived.Test.YtcgckbjdadmcmaaPurePredOthers
namespace Go.Proofs.Ytcgckbjdadmcmaa.W
open Go.Proofs.Ytcgckbjdadmcmaa.Flat
set_option linter.unusedVariables false
set_option linter.unusedSimpArgs false
theorem cj_l {x1 x2 : Int} {x3 : ByteArray} {x4 x5 : List GValue} {l : List GPred} (H : ∀ x ∈ l, PIn x) (hl : l.length ≤ 2513169434844) : ∀ (d i : Nat) (st : Int), i + d = l.length → ∃ r z1 z2, (Ev fun n => ∀ K, d < K → law09_PredJoins_l1 (tab n) n K l st (i : Int) x1 x2 x3 x4 x5 = some (l, r, z1, z2, x1, x2, x3, x4, x5)) ∧ ((∀ x ∈ l, rightF 11 x = true) → 0 ≤ st → (i : Int) ≤ st → st ≤ 1401 → r < 400 → (l.length : Int) ≤ r)
  | 0, i, st, hi => by
    refine ⟨st, (i : Int), false, Ev.pure fun n K hk => ?_, fun _ _ h1 _ _ => by omega⟩
    obtain ⟨K, rfl⟩ : ∃ j, K = j + 1 := ⟨K - 1, by omega⟩
    rw [law09_PredJoins_l1, if_neg (by simp; omega)]
  | d + 1, i, st, hi => by
    by_cases hst : st < 400
    · obtain ⟨x, y1, y3, y2⟩ := at_ (l := l) (i := i) (by omega)
      obtain ⟨r1, e1, b1⟩ := cntp_all (H x y3) 400
      obtain ⟨r, z1, z2, e2, b2⟩ := cj_l (x1 := x1) (x2 := x2) (x3 := x3) (x4 := x4) (x5 := x5) H hl d (i + 1) (IntKind.wrap .i64 (st + r1)) (by omega)
      refine ⟨r, z1, z2, (e1.and e2).mono fun n hh K hk => ?_, fun g h1 h2 h3 h4 => ?_⟩
      · obtain ⟨g1, g2⟩ := hh
        obtain ⟨K, rfl⟩ : ∃ j, K = j + 1 := ⟨K - 1, by omega⟩
        rw [law09_PredJoins_l1, if_pos (by simp; omega), if_pos (by simpa using hst), law09_PredJoins_j2, if_pos (by simp), Int.toNat_natCast, y1]
        cases x
        simp only [g1]
        rw [wr1 (i := i) (L := l.length) (by omega) (by omega)]
        exact g2 K (by omega)
      · have b1 := b1 11 (g x y3) (by omega) (by omega)
        rw [wr (by omega) (by omega)] at b2
        exact b2 g (by omega) (by omega) (by omega) h4
    · refine ⟨st, (i : Int), false, Ev.pure fun n K hk => ?_, fun _ _ h1 _ h2 => absurd h2 hst⟩
      obtain ⟨K, rfl⟩ : ∃ j, K = j + 1 := ⟨K - 1, by omega⟩
      rw [law09_PredJoins_l1, if_pos (by simp; omega), if_neg (by simpa using hst)]
      simp [hst]
theorem jj_l {t : Tab} {n : Nat} {x1 x2 : Int} {x3 : ByteArray} {x4 x5 : List GValue} {l : List GPred} {T R : GPred → Bool} (H : ∀ y ∈ l, t.pred_Test y (.mk x1 x2 x3 x4 x5) = some (T y)) (C : ∀ y ∈ l, t.ref09_Check (.mk 12 [] [y]) = some (if R y then 0 else 2)) (hl : l.length ≤ 2513169434844) : ∀ (d i K : Nat) (a b c : Bool), i + d = l.length → d < K → ∃ z1 z2, law09_PredJoins_l5 t n K l a b c (l.reverse.take i) (i : Int) x1 x2 x3 x4 x5 = some (l, a && (l.drop i).all T, b || (l.drop i).any T, c && (l.drop i).all R, l.reverse, z1, z2, x1, x2, x3, x4, x5)
  | 0, i, K, a, b, c, hi, hk => by
    obtain ⟨K, rfl⟩ : ∃ j, K = j + 1 := ⟨K - 1, by omega⟩
    rw [List.drop_of_length_le (by omega), List.take_of_length_le (by rw [List.length_reverse]; omega)]
    refine ⟨(i : Int), decide ((i : Int) < l.length), ?_⟩
    rw [law09_PredJoins_l5, if_neg (by simp; omega)]
    simp
  | d + 1, i, K, a, b, c, hi, hk => by
    obtain ⟨K, rfl⟩ : ∃ j, K = j + 1 := ⟨K - 1, by omega⟩
    obtain ⟨y, y1, y3, y2⟩ := at_ (l := l) (i := i) (by omega)
    obtain ⟨w, w1, w3, w2⟩ := at_ (l := l) (i := l.length - 1 - i) (by omega)
    have hy := H y y3
    have cy := C y y3
    have ih := fun a b c => jj_l (n := n) H C hl d (i + 1) K a b c (by omega) (by omega)
    have et : l.reverse.take i ++ [w] = l.reverse.take (i + 1) := by
      rw [List.take_add_one, List.getElem?_reverse (by omega), w1]
      rfl
    have el : (l.reverse.take i).length = i := by rw [List.length_take, List.length_reverse]; omega
    have ei : IntKind.wrap .i64 (IntKind.wrap .i64 ((l.length : Int) - 1) - (i : Int)) = ((l.length - 1 - i : Nat) : Int) := by
      rw [wr (x := (l.length : Int) - 1) (by omega) (by omega), wr (by omega) (by omega)]
      omega
    have e8 : ∀ a b c, law09_PredJoins_j8 t n l a b c (l.reverse.take i) (i : Int) x1 x2 x3 x4 x5 = some (l, a, b, c, l.reverse.take (i + 1), (i : Int), x1, x2, x3, x4, x5) := by
      intro a b c
      rw [law09_PredJoins_j8, ei, if_pos (by simp), Int.toNat_natCast, w1]
      cases w
      simp only [et]
      rw [if_pos (by rw [el]; simp; omega)]
    have e7 : ∀ a b, law09_PredJoins_j7 t n l a b c (l.reverse.take i) (i : Int) x1 x2 x3 x4 x5 = some (l, a, b, c && R y, l.reverse.take (i + 1), (i : Int), x1, x2, x3, x4, x5) := by
      intro a b
      rw [law09_PredJoins_j7]
      cases c
      · rw [if_neg (by simp), e8]
        rfl
      · rw [if_pos rfl, if_pos (by simp), Int.toNat_natCast, y1]
        generalize R y = q at cy ⊢
        cases y
        simp only [cy, e8]
        cases q <;> rfl
    have e6 : ∀ a q, law09_PredJoins_j6 t n l a b c (l.reverse.take i) (i : Int) q x1 x2 x3 x4 x5 = some (l, a, b || q, c && R y, l.reverse.take (i + 1), (i : Int), x1, x2, x3, x4, x5) := by
      intro a q
      rw [law09_PredJoins_j6]
      cases b
      · rw [if_neg (by simp), e7]
        rfl
      · rw [if_pos rfl, e7]
        rfl
    rw [law09_PredJoins_l5, if_pos (by simp; omega), if_pos (by simp), Int.toNat_natCast, y1, y2, List.all_cons, List.any_cons, List.all_cons, ← Bool.and_assoc, ← Bool.or_assoc, ← Bool.and_assoc]
    have this := ih (a && T y) (b || T y) (c && R y)
    generalize T y = q at hy this ⊢
    generalize R y = r at e6 this ⊢
    cases y
    simp only [hy, e6]
    rw [wr1 (i := i) (L := l.length) (by omega) (by omega)]
    cases a
    · rw [if_neg (by simp)]
      simpa using this
    · rw [if_pos rfl]
      simpa using this
theorem rightF_up : ∀ (f : Nat) (a : GPred), rightF f a = true → rightF (f + 1) a = true
  | 0, _, h => by cases h
  | f + 1, .mk k v p, h => by
    rw [rightF, Bool.and_eq_true, Bool.and_eq_true, List.all_eq_true, List.all_eq_true] at h ⊢
    exact ⟨h.1, h.2.1, fun x hx => rightF_up f x (h.2.2 x hx)⟩
theorem okJ (k : Int) (l : List GPred) (hk : k = 13 ∨ k = 14) : okP (.mk k [] l) = (decide ((2 : Int) ≤ l.length) && decide ((l.length : Int) ≤ 1000) && l.all (rightF 11)) := by
  rw [okP, rightF]
  rcases hk with rfl | rfl <;> simp [arOK]
theorem Pure.PredJoins : ∀ (x0 : List GPred) (x1 : GValue), (∃ n, TyT Try.prog n 23 (.sl false 3 (GPred.ts x0))) → GValue.In x1 → ∃ n, (tab n).law09_PredJoins x0 x1 = some true := by
  intro l v hl hv
  obtain ⟨_, hl⟩ := hl
  have hl := inT_slice GPred.ts_map Try.underlying23 (show _ = 56 from by kernel_rfl) hl
  have hn : l.length ≤ 2513169434844 := by omega
  have hl : ∀ x ∈ l, PIn x := fun x hx => GPred.pin x (by obtain ⟨m, h⟩ := hl.2 x hx; exact ⟨m, h⟩)
  have hr : ∀ x ∈ l.reverse, PIn x := fun x hx => hl x (List.mem_reverse.1 hx)
  have hrn : l.reverse.length ≤ 2513169434844 := by rw [List.length_reverse]; exact hn
  have hv := GValue.vin v hv
  obtain ⟨r2, e2⟩ := much_all (x := .mk 0 [] []) (l := [v]) (pin0 0 [] (by simp) (by simp)) (by simp; exact hv) (by simp)
  obtain ⟨r, z1, z2, e, b⟩ := (match (generalizing := false) v with | .mk x1 x2 x3 x4 x5 => cj_l (x1 := x1) (x2 := x2) (x3 := x3) (x4 := x4) (x5 := x5) hl hn l.length 0 0 (by omega) : ∃ r z1 z2, (Ev fun n => ∀ K, l.length < K → (match (generalizing := false) v with | .mk x1 x2 x3 x4 x5 => law09_PredJoins_l1 (tab n) n K l 0 0 x1 x2 x3 x4 x5 = some (l, r, z1, z2, x1, x2, x3, x4, x5))) ∧ ((∀ x ∈ l, rightF 11 x = true) → (0 : Int) ≤ 0 → (0 : Int) ≤ 0 → (0 : Int) ≤ 1401 → r < 400 → (l.length : Int) ≤ r))
  have jl := fun k => join_ev (k := k) hl hn
  have jr := fun k => join_ev (k := k) hr hrn
  have tl := fun k => predTest_ev (pinJ k hl hn) hv
  have tr := fun k => predTest_ev (pinJ k hr hrn) hv
  refine Ev.out (Ev.step ((((e.and e2).and (known_ev.and (Ev.ge (l.length + 1)))).and (((Ev.all l fun y hy => predTest_ev (hl y hy) hv).and (Ev.all l fun y hy => ref9Check_ev (pinJ 12 (l := [y]) (by simpa using hl y hy) (by simp)))).and ((((jl 13).and (jl 14)).and ((jr 13).and (jr 14))).and (((tl 13).and (tl 14)).and ((tr 13).and (tr 14)))))).mono fun n hh => ?_))
  obtain ⟨⟨⟨h1, h2⟩, h3, h4⟩, ⟨h5, h6⟩, ⟨⟨j1, j2⟩, j3, j4⟩, ⟨t1, t2⟩, t3, t4⟩ := hh
  have h1 := h1 n (by omega)
  rw [tab_law09_PredJoins]
  cases v with | mk x1 x2 x3 x4 x5
  obtain ⟨z3, z4, eq⟩ := jj_l (n := n) (T := fun y => test y (.mk x1 x2 x3 x4 x5)) (R := fun y => okP (.mk 12 [] [y])) h5 h6 hn l.length 0 n true false (decide ((l.length : Int) ≥ 2)) (by omega) (by omega)
  rw [show ((0 : Nat) : Int) = 0 from rfl, List.drop_zero, Bool.false_or, Bool.true_and, List.take_zero] at eq
  simp only at h1
  simp only [law09_PredJoins, h1, law09_PredJoins_j3, h2, h3]
  split
  · rfl
  rename_i h400
  have h400 : r < 400 := by simp at h400; omega
  split
  · rfl
  simp only [law09_PredJoins_j4, eq, law09_PredJoins_j9, j1, j2, j3, j4]
  have eR : (l.all fun y => okP (.mk 12 [] [y])) = l.all (rightF 11) := all_cg fun y hy => by
    rw [okP, rightF]
    simp [arOK]
  rw [eR]
  have o1 := okJ 13 l (by simp)
  have o2 := okJ 14 l (by simp)
  have o3 := okJ 13 l.reverse (by simp)
  have o4 := okJ 14 l.reverse (by simp)
  rw [List.length_reverse, List.all_reverse] at o3 o4
  cases hri : (decide ((l.length : Int) ≥ 2) && l.all (rightF 11)) with
  | false =>
    have f1 : okP (.mk 13 [] l) = false := by
      rw [o1]
      have hri : (decide ((2 : Int) ≤ l.length) && l.all (rightF 11)) = false := hri
      cases h : l.all (rightF 11)
      · simp
      · rw [h, Bool.and_true] at hri
        rw [hri]
        simp
    have f2 : okP (.mk 14 [] l) = false := by
      rw [o2, ← o1, f1]
    simp only [join, f1, f2]
    generalize (if okP (.mk 13 [] l.reverse) = true then GPred.mk 13 [] l.reverse else p0) = c1
    generalize (if okP (.mk 14 [] l.reverse) = true then GPred.mk 14 [] l.reverse else p0) = c2
    cases c1
    cases c2
    simp [p0, h3]
  | true =>
    rw [Bool.and_eq_true, decide_eq_true_eq] at hri
    obtain ⟨g1, g2⟩ := hri
    have g3 : ∀ x ∈ l, rightF 11 x = true := List.all_eq_true.1 g2
    have g4 := b g3 (by omega) (by omega) (by omega) h400
    have f0 : (decide ((2 : Int) ≤ l.length) && decide ((l.length : Int) ≤ 1000) && l.all (rightF 11)) = true := by
      rw [g2, Bool.and_true, Bool.and_eq_true, decide_eq_true_eq, decide_eq_true_eq]
      omega
    rw [f0] at o1 o2 o3 o4
    have q : ∀ y ∈ l, test y (.mk x1 x2 x3 x4 x5) = testF 11 y (.mk x1 x2 x3 x4 x5) := fun y hy => by
      have u := rightF_up 11 y (g3 y hy)
      rw [test, okP, u, Bool.true_and]
      exact testF_ind 12 11 y u (g3 y hy)
    have qa : (l.all fun y => test y (.mk x1 x2 x3 x4 x5)) = l.all fun y => testF 11 y (.mk x1 x2 x3 x4 x5) := all_cg q
    have qb : (l.any fun y => test y (.mk x1 x2 x3 x4 x5)) = l.any fun y => testF 11 y (.mk x1 x2 x3 x4 x5) := any_cg q
    have s1 : test (.mk 13 [] l) (.mk x1 x2 x3 x4 x5) = l.all fun y => testF 11 y (.mk x1 x2 x3 x4 x5) := by
      rw [test, o1]
      simp [testF]
    have s2 : test (.mk 14 [] l) (.mk x1 x2 x3 x4 x5) = l.any fun y => testF 11 y (.mk x1 x2 x3 x4 x5) := by
      rw [test, o2]
      simp [testF]
    have s3 : test (.mk 13 [] l.reverse) (.mk x1 x2 x3 x4 x5) = l.all fun y => testF 11 y (.mk x1 x2 x3 x4 x5) := by
      rw [test, o3]
      simp [testF]
    have s4 : test (.mk 14 [] l.reverse) (.mk x1 x2 x3 x4 x5) = l.any fun y => testF 11 y (.mk x1 x2 x3 x4 x5) := by
      rw [test, o4]
      simp [testF]
    simp only [join, o1, o2, o3, o4, if_pos, t1, t2, t3, t4, s1, s2, s3, s4, qa, qb]
    simp [h3]
end Go.Proofs.Ytcgckbjdadmcmaa.W
