/- Parts of bulks. -/
import Derived.Test.YtokfeoifkpedgaaGatJ
namespace Go.Proofs.Ytokfeoifkpedgaa.W
open Go.Proofs.Ytokfeoifkpedgaa.Flat
set_option linter.unusedVariables false
set_option linter.unusedSimpArgs false
def Cnt (x : GValue) : Prop := ∀ m : Int, ∃ r, Ev fun n => (tab n).ref02_Count x m = some r
theorem cnt1 {most k nn : Int} {s : ByteArray} {l m : List GValue} (H : ∀ x ∈ l, Cnt x) (hl : l.length ≤ 1759218604391) : ∀ (d i : Nat) (st : Int), i + d = l.length → ∃ r z1 z2, Ev fun n => ∀ K, d < K → ref02_Count_l1 (tab n) n K most st (i : Int) k nn s l m = some (most, r, z1, z2, k, nn, s, l, m)
  | 0, i, st, hi => by
    refine ⟨st, (i : Int), false, Ev.pure fun n K hk => ?_⟩
    obtain ⟨K, rfl⟩ : ∃ j, K = j + 1 := ⟨K - 1, by omega⟩
    rw [ref02_Count_l1, if_neg (by simp; omega)]
  | d + 1, i, st, hi => by
    by_cases hst : st < most
    · obtain ⟨x, x1, x3, x2⟩ := at_ (l := l) (i := i) (by omega)
      obtain ⟨r1, e1⟩ := H x x3 (IntKind.wrap .i64 (most - st))
      obtain ⟨r, z1, z2, e2⟩ := cnt1 (most := most) (k := k) (nn := nn) (s := s) (m := m) H hl d (i + 1) (IntKind.wrap .i64 (st + r1)) (by omega)
      refine ⟨r, z1, z2, (e1.and e2).mono fun n hh K hk => ?_⟩
      obtain ⟨g1, g2⟩ := hh
      obtain ⟨K, rfl⟩ : ∃ j, K = j + 1 := ⟨K - 1, by omega⟩
      rw [ref02_Count_l1, if_pos (by simp; omega), if_pos (by simpa using hst), ref02_Count_j2, if_pos (by simp), Int.toNat_natCast, x1]
      cases x
      simp only [g1]
      rw [wr1 (i := i) (L := l.length) (by omega) (by omega)]
      exact g2 K (by omega)
    · refine ⟨st, (i : Int), false, Ev.pure fun n K hk => ?_⟩
      obtain ⟨K, rfl⟩ : ∃ j, K = j + 1 := ⟨K - 1, by omega⟩
      rw [ref02_Count_l1, if_pos (by simp; omega), if_neg (by simpa using hst)]
      simp [hst]
theorem cnt4 {most k nn : Int} {s : ByteArray} {l m : List GValue} (H : ∀ x ∈ m, Cnt x) (hl : m.length ≤ 1759218604391) : ∀ (d i : Nat) (st : Int), i + d = m.length → ∃ r z1 z2, Ev fun n => ∀ K, d < K → ref02_Count_l4 (tab n) n K most st (i : Int) k nn s l m = some (most, r, z1, z2, k, nn, s, l, m)
  | 0, i, st, hi => by
    refine ⟨st, (i : Int), false, Ev.pure fun n K hk => ?_⟩
    obtain ⟨K, rfl⟩ : ∃ j, K = j + 1 := ⟨K - 1, by omega⟩
    rw [ref02_Count_l4, if_neg (by simp; omega)]
  | d + 1, i, st, hi => by
    by_cases hst : st < most
    · obtain ⟨x, x1, x3, x2⟩ := at_ (l := m) (i := i) (by omega)
      obtain ⟨r1, e1⟩ := H x x3 (IntKind.wrap .i64 (most - st))
      obtain ⟨r, z1, z2, e2⟩ := cnt4 (most := most) (k := k) (nn := nn) (s := s) (l := l) H hl d (i + 1) (IntKind.wrap .i64 (st + r1)) (by omega)
      refine ⟨r, z1, z2, (e1.and e2).mono fun n hh K hk => ?_⟩
      obtain ⟨g1, g2⟩ := hh
      obtain ⟨K, rfl⟩ : ∃ j, K = j + 1 := ⟨K - 1, by omega⟩
      rw [ref02_Count_l4, if_pos (by simp; omega), if_pos (by simpa using hst), ref02_Count_j5, if_pos (by simp), Int.toNat_natCast, x1]
      cases x
      simp only [g1]
      rw [wr1 (i := i) (L := m.length) (by omega) (by omega)]
      exact g2 K (by omega)
    · refine ⟨st, (i : Int), false, Ev.pure fun n K hk => ?_⟩
      obtain ⟨K, rfl⟩ : ∃ j, K = j + 1 := ⟨K - 1, by omega⟩
      rw [ref02_Count_l4, if_pos (by simp; omega), if_neg (by simpa using hst)]
      simp [hst]
theorem cnt_all {x : GValue} (hx : VIn x) : Cnt x := by
  induction hx with
  | @mk k nn s l m hs hl hm al am ihl ihm =>
    intro most
    obtain ⟨r1, z1, z2, e1⟩ := cnt1 (most := most) (k := k) (nn := nn) (s := s) (m := m) ihl hl l.length 0 1 (by omega)
    obtain ⟨r2, z3, z4, e2⟩ := cnt4 (most := most) (k := k) (nn := nn) (s := s) (l := l) ihm hm m.length 0 r1 (by omega)
    refine ⟨IntKind.wrap .i64 (r2 + IntKind.wrap .i64 (Int.tdiv (s.size : Int) 20)), Ev.step ((e1.and (e2.and (Ev.ge (l.length + m.length + 1)))).mono fun n hh => ?_)⟩
    obtain ⟨g1, g2, g3⟩ := hh
    have g1 := g1 n (by omega)
    have g2 := g2 n (by omega)
    rw [show ((0 : Nat) : Int) = 0 from rfl] at g1 g2
    rw [tab_ref02_Count]
    simp only [ref02_Count, g1, ref02_Count_j3, g2, ref02_Count_j6, quoI]
    rfl
theorem many_l {l : List GMany} (H : ∀ x ∈ l, VIn (vOf x)) (hl : l.length ≤ 140737488355328) : ∀ (d i : Nat) (st : Int), i + d = l.length → ∃ r z1 z2, Ev fun n => ∀ K, d < K → law16_many_l1 (tab n) n K l st (i : Int) = some (l, r, z1, z2)
  | 0, i, st, hi => by
    refine ⟨st, (i : Int), false, Ev.pure fun n K hk => ?_⟩
    obtain ⟨K, rfl⟩ : ∃ j, K = j + 1 := ⟨K - 1, by omega⟩
    rw [law16_many_l1, if_neg (by simp; omega)]
  | d + 1, i, st, hi => by
    by_cases hst : st < 300
    · obtain ⟨x, x1, x3, x2⟩ := at_ (l := l) (i := i) (by omega)
      obtain ⟨r1, e1⟩ := cnt_all (H x x3) 300
      obtain ⟨r, z1, z2, e2⟩ := many_l H hl d (i + 1) (IntKind.wrap .i64 (st + r1)) (by omega)
      refine ⟨r, z1, z2, (e1.and e2).mono fun n hh K hk => ?_⟩
      obtain ⟨g1, g2⟩ := hh
      obtain ⟨K, rfl⟩ : ∃ j, K = j + 1 := ⟨K - 1, by omega⟩
      rw [law16_many_l1, if_pos (by simp; omega), if_pos (by simpa using hst), law16_many_j2, if_pos (by simp), Int.toNat_natCast, x1]
      obtain ⟨⟨v1, v2, v3, v4, v5⟩, m⟩ := x
      simp only [vOf] at g1
      simp only [g1]
      rw [wr1 (i := i) (L := l.length) (by omega) (by omega)]
      exact g2 K (by omega)
    · refine ⟨st, (i : Int), false, Ev.pure fun n K hk => ?_⟩
      obtain ⟨K, rfl⟩ : ∃ j, K = j + 1 := ⟨K - 1, by omega⟩
      rw [law16_many_l1, if_pos (by simp; omega), if_neg (by simpa using hst)]
      simp [hst]
theorem many_tot {l : List GMany} (H : ∀ x ∈ l, VIn (vOf x)) (hl : l.length ≤ 140737488355328) : ∃ r, Ev fun n => (tab n).law16_many l = some r := by
  obtain ⟨r, z1, z2, e⟩ := many_l H hl l.length 0 0 (by omega)
  refine ⟨decide (r ≥ 300), Ev.step ((e.and (Ev.ge (l.length + 1))).mono fun n hh => ?_)⟩
  have h := hh.1 n (by omega)
  rw [show ((0 : Nat) : Int) = 0 from rfl] at h
  rw [tab_law16_many]
  simp only [law16_many, h]
theorem rows_bad {l : List GMany} (hl : N64 l) (h : ¬ ((sizeS l).2 = 0 ∧ (sizeS l).1 ≤ 300)) : Ev fun n => (tab n).law16_rows l = some ([], false) :=
  Ev.step ((size16_ev hl).mono fun n e => by
    rw [tab_law16_rows, law16_rows, e]
    generalize sizeS l = q at h
    obtain ⟨q1, q2⟩ := q
    dsimp only at h ⊢
    by_cases h2 : q2 = 0
    · rw [if_neg (by simpa using h2), if_pos (by simp only [decide_eq_true_eq]; omega)]
    · rw [if_pos (by simpa using h2)])
theorem good {l : List GMany} (h : (sizeS l).2 = 0 ∧ (sizeS l).1 ≤ 300) : bad l = false ∧ sumN l ≤ 300 := by
  unfold sizeS at h
  cases hb : bad l with
  | true => rw [if_pos hb] at h; simp at h
  | false =>
    rw [if_neg (by simp [hb])] at h
    by_cases h2 : sumN l ≤ 9223372036854775807
    · rw [if_pos h2] at h
      exact ⟨rfl, h.2⟩
    · rw [if_neg h2] at h
      simp at h
theorem exM_vin : ∀ {l : List GMany}, (∀ x ∈ l, VIn (vOf x)) → ∀ x ∈ exM l, VIn (vOf x)
  | [], _, x, hx => by cases hx
  | y :: ys, h, x, hx => by
    rw [exM, List.mem_append] at hx
    rcases hx with hx | hx
    · rw [(List.mem_replicate.1 hx).2]
      exact h y (by simp)
    · exact exM_vin (fun z hz => h z (by simp [hz])) x hx
theorem known_ev : Ev fun n => (tab n).law16_known = some true := Ev.step (Ev.pure fun n => rfl)
def fitS (S : Int) (n : Nat) : Int × Bool × Int := if -9223372036854775808 ≤ S ∧ S ≤ 9223372036854775807 then (S, decide ((n : Int) > 0), 0) else (0, false, 10)
def sumS (l : List GMany) : Int × Bool × Int := if (sizeS l).2 = 0 then (if allI l = true then fitS (tot l) l.length else (0, false, 160)) else (0, false, (sizeS l).2)
theorem tot_b : ∀ {l : List GMany}, bad l = false → (∀ x ∈ l, I64' (nV x)) → -9223372036854775808 * sumN l ≤ tot l ∧ tot l ≤ 9223372036854775808 * sumN l
  | [], _, _ => by simp [tot, sumN]
  | x :: xs, hb, h => by
    rw [bad_cons, Bool.or_eq_false_iff, decide_eq_false_iff_not] at hb
    have ih := tot_b hb.2 fun y hy => h y (by simp [hy])
    have hx := h x (by simp)
    unfold I64' at hx
    have h1 := Int.mul_le_mul_of_nonneg_right hx.1 (show 0 ≤ nOf x by omega)
    have h2 := Int.mul_le_mul_of_nonneg_right (show nV x ≤ 9223372036854775808 by omega) (show 0 ≤ nOf x by omega)
    rw [tot, sumN]
    generalize nV x * nOf x = p at *
    omega
theorem sum_fin {t : Tab} {N : Nat} {l : List GMany} {S : Int} (h : -85070591730234615865843651857942052864 ≤ S ∧ S ≤ 85070591730234615865843651857942052864) : gather_Sum_j2 t N l (hi64 S) (lo64 S) = some (fitS S l.length) := by
  have es : ∀ n : Int, shrI .i64 n 63 = some (n / 9223372036854775808) := fun n => by
    unfold shrI
    rw [if_neg (by omega)]
    have : (2 : Int) ^ min (63 : Int).toNat IntKind.i64.bits = 9223372036854775808 := by decide
    rw [this, Int.fdiv_eq_ediv_of_nonneg _ (by decide)]
  rw [gather_Sum_j2, es]
  dsimp only
  rw [IntKind.wrap_i64, IntKind.wrap_u64]
  unfold hi64 lo64 fitS
  by_cases hf : -9223372036854775808 ≤ S ∧ S ≤ 9223372036854775807
  · rw [if_pos hf, if_pos (by simp only [beq_iff_eq]; omega)]
    have : (S % 18446744073709551616 + 9223372036854775808) % 18446744073709551616 - 9223372036854775808 = S := by omega
    rw [this]
  · have hc : ((S % 18446744073709551616 + 9223372036854775808) % 18446744073709551616 - 9223372036854775808) / 9223372036854775808 = -1 ∨ ((S % 18446744073709551616 + 9223372036854775808) % 18446744073709551616 - 9223372036854775808) / 9223372036854775808 = 0 := by omega
    rw [if_neg hf, if_neg (by simp only [beq_iff_eq]; rcases hc with hc | hc <;> rw [hc] <;> omega)]
def In2 (l : List GMany) : Prop := l.length ≤ 1600000000000 ∧ ∀ x ∈ l, I64' (nV x) ∧ I64' (nOf x)
theorem sum_ev {l : List GMany} (h : In2 l) : Ev fun n => (tab n).gather_Sum l = some (sumS l) := by
  have h64 : N64 l := ⟨by have := h.1; omega, fun x hx => (h.2 x hx).2.2⟩
  refine Ev.step ((((gsize_ev h64 h.1).and wadd_evs).and (Ev.ge (l.length + 1))).mono fun n hh => ?_)
  obtain ⟨⟨g1, g2⟩, g3⟩ := hh
  rw [tab_gather_Sum, gather_Sum, g1]
  dsimp only
  unfold sumS
  by_cases hz : (sizeS l).2 = 0
  · rw [if_neg (by simpa using hz), if_pos hz]
    have hb : bad l = false ∧ sumN l ≤ 9223372036854775807 := by
      unfold sizeS at hz
      cases hb : bad l with
      | true => rw [if_pos hb] at hz; simp at hz
      | false =>
        rw [if_neg (by simp [hb])] at hz
        by_cases h2 : sumN l ≤ 9223372036854775807
        · exact ⟨rfl, h2⟩
        · rw [if_neg h2] at hz
          simp at hz
    have a := sum_l (N := n) h64.1 hb.1 h.2 g2 l.length 0 n (by omega) (by omega)
    have p0 : preT l 0 = 0 := by unfold preT; rw [List.drop_zero]; omega
    rw [p0, List.drop_zero, show ((0 : Nat) : Int) = 0 from rfl, show hi64 0 = 0 from rfl, show lo64 0 = 0 from rfl] at a
    rcases a with ⟨a1, a2⟩ | ⟨a1, z1, z2, z3, z4, a2⟩
    · rw [a2, if_neg (by simp [a1])]
    · rw [a2, if_pos a1]
      dsimp only
      have tb := tot_b hb.1 fun x hx => (h.2 x hx).1
      have hn := sumN_nonneg hb.1
      exact sum_fin (by omega)
  · rw [if_pos (by simpa using hz), if_neg hz]
theorem sumN_append : ∀ a b, sumN (a ++ b) = sumN a + sumN b
  | [], b => by simp [sumN]
  | x :: xs, b => by rw [List.cons_append, sumN, sumN, sumN_append xs b]; omega
theorem tot_append : ∀ a b, tot (a ++ b) = tot a + tot b
  | [], b => by simp [tot]
  | x :: xs, b => by rw [List.cons_append, tot, tot, tot_append xs b]; omega
theorem bad_append (a b : List GMany) : bad (a ++ b) = (bad a || bad b) := List.any_append
theorem allI_append (a b : List GMany) : allI (a ++ b) = (allI a && allI b) := List.all_append
def rot (l : List GMany) (k : Nat) : List GMany := l.drop k ++ l.take k
theorem rot_len (l : List GMany) (k : Nat) : (rot l k).length = l.length := by
  rw [rot, List.length_append, List.length_drop, List.length_take]
  omega
theorem rot_all (l : List GMany) (k : Nat) : sumN (rot l k) = sumN l ∧ tot (rot l k) = tot l ∧ bad (rot l k) = bad l ∧ allI (rot l k) = allI l := by
  have e := List.take_append_drop k l
  have e1 := sumN_append (l.take k) (l.drop k)
  have e2 := tot_append (l.take k) (l.drop k)
  have e3 := bad_append (l.take k) (l.drop k)
  have e4 := allI_append (l.take k) (l.drop k)
  rw [e] at e1 e2 e3 e4
  rw [rot, sumN_append, tot_append, bad_append, allI_append, e1, e2, e3, e4, Bool.or_comm, Bool.and_comm]
  exact ⟨by omega, by omega, rfl, rfl⟩
theorem rot_at {l : List GMany} {k i : Nat} (hk : k < l.length) (hi : i < l.length) : (rot l k)[i]? = l[(i + k) % l.length]? := by
  unfold rot
  by_cases h : i + k < l.length
  · rw [List.getElem?_append_left (by rw [List.length_drop]; omega), List.getElem?_drop, Nat.mod_eq_of_lt h, Nat.add_comm]
  · have e : (i + k) % l.length = i + k - l.length := by
      rw [Nat.mod_eq_sub_mod (by omega), Nat.mod_eq_of_lt (by omega)]
    rw [List.getElem?_append_right (by rw [List.length_drop]; omega), List.length_drop, List.getElem?_take, if_pos (by omega), e]
    congr 1
    omega
theorem rot_l {t : Tab} {N : Nat} {l : List GMany} {k : Nat} {u v : Int} (hk : k < l.length ∨ l.length = 0) (hl : l.length ≤ 1599289640401) : ∀ (d i K : Nat), i + d = l.length → d < K → ∃ z, law16_GatherSums_l2 t N K l u v ((rot l k).take i) (k : Int) (i : Int) = some (l, u, v, rot l k, z)
  | 0, i, K, hi, hK => by
    obtain ⟨K, rfl⟩ : ∃ j, K = j + 1 := ⟨K - 1, by omega⟩
    exact ⟨_, by rw [law16_GatherSums_l2, if_neg (by simp only [decide_eq_true_eq]; omega), List.take_of_length_le (by rw [rot_len]; omega)]⟩
  | d + 1, i, K, hi, hK => by
    obtain ⟨K, rfl⟩ : ∃ j, K = j + 1 := ⟨K - 1, by omega⟩
    have hk : k < l.length := by omega
    have hm : (i + k) % l.length < l.length := Nat.mod_lt _ (by omega)
    obtain ⟨x, x1, x3, x2⟩ := at_ (l := l) (i := (i + k) % l.length) hm
    obtain ⟨z, ih⟩ := rot_l (t := t) (N := N) (u := u) (v := v) (.inl hk) hl d (i + 1) K (by omega) (by omega)
    refine ⟨z, ?_⟩
    have ew : IntKind.wrap .i64 ((i : Int) + (k : Int)) = ((i + k : Nat) : Int) := by rw [wr (by omega) (by omega)]; omega
    have er : remI .i64 ((i + k : Nat) : Int) (l.length : Int) = some (((i + k) % l.length : Nat) : Int) := by
      unfold remI
      rw [if_neg (by omega), Int.tmod_eq_emod_of_nonneg (by omega), Int.natCast_emod]
    have et : (rot l k).take i ++ [x] = (rot l k).take (i + 1) := by
      rw [List.take_add_one, rot_at hk (by omega), x1]
      rfl
    have el : ((rot l k).take i).length = i := by rw [List.length_take, rot_len]; omega
    have ei : IntKind.wrap .i64 ((i : Int) + 1) = ((i + 1 : Nat) : Int) := wr1 (i := i) (L := l.length) (by omega) (by omega)
    rw [law16_GatherSums_l2, if_pos (by simp only [decide_eq_true_eq]; omega), ew, er]
    dsimp only
    rw [if_pos (by simp only [decide_eq_true_eq]; omega), Int.toNat_natCast, x1]
    obtain ⟨⟨v1, v2, v3, v4, v5⟩, m⟩ := x
    dsimp only
    rw [et, ei, ih, if_pos (by rw [el]; simp; omega)]
theorem good' {l : List GMany} (h : (sizeS l).2 = 0 ∧ (sizeS l).1 ≤ 2305843009213693952) : bad l = false ∧ sumN l ≤ 2305843009213693952 := by
  unfold sizeS at h
  cases hb : bad l with
  | true => rw [if_pos hb] at h; simp at h
  | false =>
    rw [if_neg (by simp [hb])] at h
    by_cases h2 : sumN l ≤ 9223372036854775807
    · rw [if_pos h2] at h
      exact ⟨rfl, h.2⟩
    · rw [if_neg h2] at h
      simp at h
theorem sumS_rot (l : List GMany) (k : Nat) : sumS (rot l k) = sumS l := by
  obtain ⟨a, b, c, d⟩ := rot_all l k
  unfold sumS sizeS
  rw [a, b, c, d, rot_len]
def two (m often : Int) : List GMany := [.mk (.mk 2 m ByteArray.empty [] []) often, .mk (.mk 2 (-m) ByteArray.empty [] []) often]
theorem two_same {l : List GMany} {k : Nat} {m often : Int} (h1 : 1 ≤ often) (h2 : often ≤ 1099511627776) (hb : bad l = false) (hs : sumN l ≤ 2305843009213693952) : (sumS (rot l k ++ two m often)).1 = (sumS l).1 ∧ (sumS (rot l k ++ two m often)).2.2 = (sumS l).2.2 := by
  obtain ⟨a1, a2, a3, a4⟩ := rot_all l k
  have f1 : sizeS l = (sumN l, 0) := by
    rw [sizeS, if_neg (by simp [hb]), if_pos (by omega)]
  have b1 : bad (rot l k ++ two m often) = false := by
    rw [bad_append, a3, hb]
    have : ¬ often < 1 := by omega
    simp [bad, nOf, two, this]
    try omega
  have b2 : sumN (rot l k ++ two m often) = sumN l + often + often := by
    rw [sumN_append, a1]
    show sumN l + (often + (often + 0)) = _
    omega
  have f2 : sizeS (rot l k ++ two m often) = (sumN l + often + often, 0) := by
    rw [sizeS, if_neg (by simp [b1]), b2, if_pos (by omega)]
  have f3 : tot (rot l k ++ two m often) = tot l := by
    rw [tot_append, a2]
    simp only [tot, nV, nOf, two]
    rw [Int.neg_mul]
    generalize m * often = p
    omega
  have f4 : allI (rot l k ++ two m often) = allI l := by
    rw [allI_append, a4]
    simp [allI, kV, two]
  unfold sumS
  rw [f1, f2, f3, f4]
  simp only [if_true]
  by_cases y1 : allI l = true
  · rw [if_pos y1, if_pos y1]
    unfold fitS
    split <;> exact ⟨rfl, rfl⟩
  · rw [if_neg y1, if_neg y1]
    exact ⟨rfl, rfl⟩
theorem Pure.GatherSums : ∀ (x0 : List GMany) (x1 : Int) (x2 : Int) (x3 : Int), (∃ n, TyT Try.prog n 22 (.sl false 6 (GMany.ts x0))) → (Lit.int .i64 x1).wf = true → (Lit.int .i64 x2).wf = true → (Lit.int .i64 x3).wf = true → ∃ n, (tab n).law16_GatherSums x0 x1 x2 x3 = some true := by
  intro l turn m often hl _ hw _
  obtain ⟨_, hl⟩ := hl
  have hl := inT_slice GMany.ts_map Try.underlying22 (show _ = 88 from by kernel_rfl) hl
  have hn : l.length * 88 ≤ 140737488351232 := hl.1
  have hin : ∀ x ∈ l, GMany.In x := fun x hx => by obtain ⟨m, h⟩ := hl.2 x hx; exact ⟨m, h⟩
  have hv : ∀ x ∈ l, VIn (vOf x) := fun x hx => by
    have h := hin x hx
    cases x
    exact GValue.vin _ (GMany.in_mk h).1
  have h2 : ∀ x ∈ l, I64' (nV x) ∧ I64' (nOf x) := fun x hx => by
    have h := hin x hx
    obtain ⟨⟨v1, v2, v3, v4, v5⟩, q⟩ := x
    have g1 := (GMany.in_mk h).2
    have g2 := (GValue.in_mk (GMany.in_mk h).1).2.1
    simp [Lit.wf, IntKind.min, IntKind.max, IntKind.signed, IntKind.bits] at g1 g2
    unfold I64'
    simp only [nOf, nV]
    omega
  have hm : I64' m := by
    simp [Lit.wf, IntKind.min, IntKind.max, IntKind.signed, IntKind.bits] at hw
    unfold I64'
    omega
  obtain ⟨r, em⟩ := many_tot hv (by omega)
  by_cases hq : 1 ≤ often ∧ often ≤ 1099511627776 ∧ m ≠ -9223372036854775808
  · obtain ⟨q1, q2, q3⟩ := hq
    unfold I64' at hm
    obtain ⟨L, hL⟩ : ∃ L, L = (if (1 : Int) > (l.length : Int) then 1 else (l.length : Int)) := ⟨_, rfl⟩
    have hL1 : 1 ≤ L ∧ L ≤ 1600000000000 := by rw [hL]; split <;> omega
    have hu : 0 ≤ IntKind.wrap .u64 turn := by rw [IntKind.wrap_u64]; omega
    obtain ⟨k, hk⟩ : ∃ k : Nat, (k : Int) = (IntKind.wrap .u64 turn) % L := ⟨((IntKind.wrap .u64 turn) % L).toNat, Int.toNat_of_nonneg (Int.emod_nonneg _ (by omega))⟩
    have k1 : (k : Int) < L := by rw [hk]; exact Int.emod_lt_of_pos _ (by omega)
    have e2 : IntKind.wrap .u64 L = L := by rw [IntKind.wrap_u64]; omega
    have e3 : remI .u64 (IntKind.wrap .u64 turn) L = some (k : Int) := by
      unfold remI
      rw [if_neg (by omega), Int.tmod_eq_emod_of_nonneg hu, hk]
    have kl : k < l.length ∨ l.length = 0 := by rw [hL] at k1; split at k1 <;> omega
    have e4 : IntKind.wrap .i64 (k : Int) = (k : Int) := wr (by omega) (by omega)
    have e5 : IntKind.wrap .i64 (0 - m) = -m := by rw [wr (by omega) (by omega)]; omega
    have iL : In2 l := ⟨by omega, h2⟩
    have hr : ∀ x ∈ rot l k, x ∈ l := fun x hx => by
      rw [rot, List.mem_append] at hx
      rcases hx with hx | hx
      · exact List.mem_of_mem_drop hx
      · exact List.mem_of_mem_take hx
    have iR : In2 (rot l k) := ⟨by rw [rot_len]; omega, fun x hx => h2 x (hr x hx)⟩
    have iM : In2 (rot l k ++ two m often) := ⟨by rw [List.length_append, rot_len]; simp [two]; omega, fun x hx => by
      rcases List.mem_append.1 hx with hx | hx
      · exact iR.2 x hx
      · simp only [two, List.mem_cons, List.not_mem_nil, or_false] at hx
        unfold I64'
        rcases hx with rfl | rfl <;> simp only [nV, nOf] <;> omega⟩
    have s1 := sum_ev iL
    have s2 := sum_ev iR
    have s3 := sum_ev iM
    rw [sumS_rot] at s2
    have s4 := size16_ev (l := l) ⟨by omega, fun x hx => (h2 x hx).2.2⟩
    have nm : Ev fun n => ∀ q, (tab n).law16_number q = some (.mk 2 q ByteArray.empty [] []) := Ev.step (Ev.pure fun n q => rfl)
    refine Ev.out (Ev.step (((em.and known_ev).and ((s1.and s2).and ((s3.and s4).and (nm.and (Ev.ge (l.length + 1)))))).mono fun n hh => ?_))
    obtain ⟨⟨g1, g2⟩, ⟨t1, t2⟩, ⟨t3, t4⟩, t5, t6⟩ := hh
    obtain ⟨⟨z1, z2, z3⟩, ez⟩ := rot_l (t := tab n) (N := n) (u := m) (v := often) kl (by omega) l.length 0 n (by omega) (by omega)
    rw [List.take_zero, show ((0 : Nat) : Int) = 0 from rfl] at ez
    rw [tab_law16_GatherSums, law16_GatherSums, g1]
    dsimp only
    cases r with
    | true => exact g2
    | false =>
      rw [if_neg (by simp), if_neg (by simp only [decide_eq_true_eq]; omega), if_neg (by simp only [decide_eq_true_eq]; omega), if_neg (by simpa using q3), law16_GatherSums_j1, ← hL, e2, e3]
      dsimp only
      rw [e4, ez]
      dsimp only
      have hMe := two_same (l := l) (k := k) (m := m) (often := often) q1 q2
      have hg := fun h => good' (l := l) h
      rw [law16_GatherSums_j3, t1, t2]
      generalize sumS l = S at hMe ⊢
      obtain ⟨S1, S2, S3⟩ := S
      dsimp only
      rw [if_neg (by simp), if_pos (by simp), if_neg (by simp), law16_GatherSums_j4, t4]
      generalize sizeS l = Z at hg ⊢
      obtain ⟨Z1, Z2⟩ := Z
      dsimp only
      rw [t5, e5, t5]
      dsimp only
      have et : (rot l k ++ ([(GMany.mk (GValue.mk 2 m ByteArray.empty [] []) often), (GMany.mk (GValue.mk 2 (-m) ByteArray.empty [] []) often)] : List GMany)) = rot l k ++ two m often := rfl
      rw [et, if_pos (by rw [rot_len]; simp; omega), t3]
      generalize sumS (rot l k ++ two m often) = M at hMe ⊢
      obtain ⟨M1, M2, M3⟩ := M
      dsimp only at hMe hg ⊢
      by_cases c1 : Z2 = 0
      · rw [if_neg (by simpa using c1)]
        by_cases c2 : Z1 > 2305843009213693952
        · rw [if_pos (by simpa using c2)]
          exact g2
        · rw [if_neg (by simpa using c2)]
          obtain ⟨hb, hs⟩ := hg ⟨c1, by omega⟩
          obtain ⟨m1, m3⟩ := hMe hb hs
          rw [law16_GatherSums_j5, if_pos (by simp [m1]), if_pos (by simp [m3])]
          exact g2
      · rw [if_pos (by simpa using c1)]
        exact g2
  · refine Ev.out (Ev.step ((em.and known_ev).mono fun n hh => ?_))
    obtain ⟨g1, g2⟩ := hh
    rw [tab_law16_GatherSums, law16_GatherSums, g1]
    dsimp only
    cases r with
    | true => exact g2
    | false =>
      rw [if_neg (by simp)]
      by_cases n1 : often < 1
      · rw [if_pos (by simpa using n1)]
        exact g2
      rw [if_neg (by simpa using n1)]
      by_cases n2 : often > 1099511627776
      · rw [if_pos (by simpa using n2)]
        exact g2
      rw [if_neg (by simpa using n2), if_pos (by simp only [beq_iff_eq]; omega)]
      exact g2
end Go.Proofs.Ytokfeoifkpedgaa.W
