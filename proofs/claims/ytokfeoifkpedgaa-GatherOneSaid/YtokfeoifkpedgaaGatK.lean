/- Parts of bulks. -/
import Derived.Test.YtokfeoifkpedgaaGatJ
namespace Go.Proofs.Ytokfeoifkpedgaa.W
open Go.Proofs.Ytokfeoifkpedgaa.Flat
set_option linter.unusedVariables false
set_option linter.unusedSimpArgs false
def Cnt (x : GValue) : Prop := ∀ m : Int, ∃ r, Ev fun n => (tab n).ref02_Count x m = some r
theorem cnt1 {most k nn : Int} {s : ByteArray} {l m : List GValue} (H : ∀ x ∈ l, Cnt x) (hl : l.length ≤ 1759218604391) : ∀ (d i : Nat) (st : Int), i + d = l.length → ∃ r z1 z2, Ev fun n => ∀ K, d < K → ref02_Count_l1 (tab n) n K most st (i : Int) k nn s l m = some (most, r, z1, z2, k, nn, s, l, m)
  | 0, i, st, hi => by
    refine ⟨st, (i : Int), false, Ev.pure fun n K hk => ?_⟩
    obtain ⟨K, rfl⟩ : ∃ j, K = j + 1 := ⟨K - 1, by omega⟩
    rw [ref02_Count_l1, if_neg (by simp; omega)]
  | d + 1, i, st, hi => by
    by_cases hst : st < most
    · obtain ⟨x, x1, x3, x2⟩ := at_ (l := l) (i := i) (by omega)
      obtain ⟨r1, e1⟩ := H x x3 (IntKind.wrap .i64 (most - st))
      obtain ⟨r, z1, z2, e2⟩ := cnt1 (most := most) (k := k) (nn := nn) (s := s) (m := m) H hl d (i + 1) (IntKind.wrap .i64 (st + r1)) (by omega)
      refine ⟨r, z1, z2, (e1.and e2).mono fun n hh K hk => ?_⟩
      obtain ⟨g1, g2⟩ := hh
      obtain ⟨K, rfl⟩ : ∃ j, K = j + 1 := ⟨K - 1, by omega⟩
      rw [ref02_Count_l1, if_pos (by simp; omega), if_pos (by simpa using hst), ref02_Count_j2, if_pos (by simp), Int.toNat_natCast, x1]
      cases x
      simp only [g1]
      rw [wr1 (i := i) (L := l.length) (by omega) (by omega)]
      exact g2 K (by omega)
    · refine ⟨st, (i : Int), false, Ev.pure fun n K hk => ?_⟩
      obtain ⟨K, rfl⟩ : ∃ j, K = j + 1 := ⟨K - 1, by omega⟩
      rw [ref02_Count_l1, if_pos (by simp; omega), if_neg (by simpa using hst)]
      simp [hst]
theorem cnt4 {most k nn : Int} {s : ByteArray} {l m : List GValue} (H : ∀ x ∈ m, Cnt x) (hl : m.length ≤ 1759218604391) : ∀ (d i : Nat) (st : Int), i + d = m.length → ∃ r z1 z2, Ev fun n => ∀ K, d < K → ref02_Count_l4 (tab n) n K most st (i : Int) k nn s l m = some (most, r, z1, z2, k, nn, s, l, m)
  | 0, i, st, hi => by
    refine ⟨st, (i : Int), false, Ev.pure fun n K hk => ?_⟩
    obtain ⟨K, rfl⟩ : ∃ j, K = j + 1 := ⟨K - 1, by omega⟩
    rw [ref02_Count_l4, if_neg (by simp; omega)]
  | d + 1, i, st, hi => by
    by_cases hst : st < most
    · obtain ⟨x, x1, x3, x2⟩ := at_ (l := m) (i := i) (by omega)
      obtain ⟨r1, e1⟩ := H x x3 (IntKind.wrap .i64 (most - st))
      obtain ⟨r, z1, z2, e2⟩ := cnt4 (most := most) (k := k) (nn := nn) (s := s) (l := l) H hl d (i + 1) (IntKind.wrap .i64 (st + r1)) (by omega)
      refine ⟨r, z1, z2, (e1.and e2).mono fun n hh K hk => ?_⟩
      obtain ⟨g1, g2⟩ := hh
      obtain ⟨K, rfl⟩ : ∃ j, K = j + 1 := ⟨K - 1, by omega⟩
      rw [ref02_Count_l4, if_pos (by simp; omega), if_pos (by simpa using hst), ref02_Count_j5, if_pos (by simp), Int.toNat_natCast, x1]
      cases x
      simp only [g1]
      rw [wr1 (i := i) (L := m.length) (by omega) (by omega)]
      exact g2 K (by omega)
    · refine ⟨st, (i : Int), false, Ev.pure fun n K hk => ?_⟩
      obtain ⟨K, rfl⟩ : ∃ j, K = j + 1 := ⟨K - 1, by omega⟩
      rw [ref02_Count_l4, if_pos (by simp; omega), if_neg (by simpa using hst)]
      simp [hst]
theorem cnt_all {x : GValue} (hx : VIn x) : Cnt x := by
  induction hx with
  | @mk k nn s l m hs hl hm al am ihl ihm =>
    intro most
    obtain ⟨r1, z1, z2, e1⟩ := cnt1 (most := most) (k := k) (nn := nn) (s := s) (m := m) ihl hl l.length 0 1 (by omega)
    obtain ⟨r2, z3, z4, e2⟩ := cnt4 (most := most) (k := k) (nn := nn) (s := s) (l := l) ihm hm m.length 0 r1 (by omega)
    refine ⟨IntKind.wrap .i64 (r2 + IntKind.wrap .i64 (Int.tdiv (s.size : Int) 20)), Ev.step ((e1.and (e2.and (Ev.ge (l.length + m.length + 1)))).mono fun n hh => ?_)⟩
    obtain ⟨g1, g2, g3⟩ := hh
    have g1 := g1 n (by omega)
    have g2 := g2 n (by omega)
    rw [show ((0 : Nat) : Int) = 0 from rfl] at g1 g2
    rw [tab_ref02_Count]
    simp only [ref02_Count, g1, ref02_Count_j3, g2, ref02_Count_j6, quoI]
    rfl
theorem many_l {l : List GMany} (H : ∀ x ∈ l, VIn (vOf x)) (hl : l.length ≤ 140737488355328) : ∀ (d i : Nat) (st : Int), i + d = l.length → ∃ r z1 z2, Ev fun n => ∀ K, d < K → law16_many_l1 (tab n) n K l st (i : Int) = some (l, r, z1, z2)
  | 0, i, st, hi => by
    refine ⟨st, (i : Int), false, Ev.pure fun n K hk => ?_⟩
    obtain ⟨K, rfl⟩ : ∃ j, K = j + 1 := ⟨K - 1, by omega⟩
    rw [law16_many_l1, if_neg (by simp; omega)]
  | d + 1, i, st, hi => by
    by_cases hst : st < 300
    · obtain ⟨x, x1, x3, x2⟩ := at_ (l := l) (i := i) (by omega)
      obtain ⟨r1, e1⟩ := cnt_all (H x x3) 300
      obtain ⟨r, z1, z2, e2⟩ := many_l H hl d (i + 1) (IntKind.wrap .i64 (st + r1)) (by omega)
      refine ⟨r, z1, z2, (e1.and e2).mono fun n hh K hk => ?_⟩
      obtain ⟨g1, g2⟩ := hh
      obtain ⟨K, rfl⟩ : ∃ j, K = j + 1 := ⟨K - 1, by omega⟩
      rw [law16_many_l1, if_pos (by simp; omega), if_pos (by simpa using hst), law16_many_j2, if_pos (by simp), Int.toNat_natCast, x1]
      obtain ⟨⟨v1, v2, v3, v4, v5⟩, m⟩ := x
      simp only [vOf] at g1
      simp only [g1]
      rw [wr1 (i := i) (L := l.length) (by omega) (by omega)]
      exact g2 K (by omega)
    · refine ⟨st, (i : Int), false, Ev.pure fun n K hk => ?_⟩
      obtain ⟨K, rfl⟩ : ∃ j, K = j + 1 := ⟨K - 1, by omega⟩
      rw [law16_many_l1, if_pos (by simp; omega), if_neg (by simpa using hst)]
      simp [hst]
theorem many_tot {l : List GMany} (H : ∀ x ∈ l, VIn (vOf x)) (hl : l.length ≤ 140737488355328) : ∃ r, Ev fun n => (tab n).law16_many l = some r := by
  obtain ⟨r, z1, z2, e⟩ := many_l H hl l.length 0 0 (by omega)
  refine ⟨decide (r ≥ 300), Ev.step ((e.and (Ev.ge (l.length + 1))).mono fun n hh => ?_)⟩
  have h := hh.1 n (by omega)
  rw [show ((0 : Nat) : Int) = 0 from rfl] at h
  rw [tab_law16_many]
  simp only [law16_many, h]
theorem good {l : List GMany} (h : (sizeS l).2 = 0 ∧ (sizeS l).1 ≤ 300) : bad l = false ∧ sumN l ≤ 300 := by
  unfold sizeS at h
  cases hb : bad l with
  | true => rw [if_pos hb] at h; simp at h
  | false =>
    rw [if_neg (by simp [hb])] at h
    by_cases h2 : sumN l ≤ 9223372036854775807
    · rw [if_pos h2] at h
      exact ⟨rfl, h.2⟩
    · rw [if_neg h2] at h
      simp at h
theorem exM_vin : ∀ {l : List GMany}, (∀ x ∈ l, VIn (vOf x)) → ∀ x ∈ exM l, VIn (vOf x)
  | [], _, x, hx => by cases hx
  | y :: ys, h, x, hx => by
    rw [exM, List.mem_append] at hx
    rcases hx with hx | hx
    · rw [(List.mem_replicate.1 hx).2]
      exact h y (by simp)
    · exact exM_vin (fun z hz => h z (by simp [hz])) x hx
theorem known_ev : Ev fun n => (tab n).law16_known = some true := Ev.step (Ev.pure fun n => rfl)
def fitS (S : Int) (n : Nat) : Int × Bool × Int := if -9223372036854775808 ≤ S ∧ S ≤ 9223372036854775807 then (S, decide ((n : Int) > 0), 0) else (0, false, 10)
def sumS (l : List GMany) : Int × Bool × Int := if (sizeS l).2 = 0 then (if allI l = true then fitS (tot l) l.length else (0, false, 160)) else (0, false, (sizeS l).2)
theorem tot_b : ∀ {l : List GMany}, bad l = false → (∀ x ∈ l, I64' (nV x)) → -9223372036854775808 * sumN l ≤ tot l ∧ tot l ≤ 9223372036854775808 * sumN l
  | [], _, _ => by simp [tot, sumN]
  | x :: xs, hb, h => by
    rw [bad_cons, Bool.or_eq_false_iff, decide_eq_false_iff_not] at hb
    have ih := tot_b hb.2 fun y hy => h y (by simp [hy])
    have hx := h x (by simp)
    unfold I64' at hx
    have h1 := Int.mul_le_mul_of_nonneg_right hx.1 (show 0 ≤ nOf x by omega)
    have h2 := Int.mul_le_mul_of_nonneg_right (show nV x ≤ 9223372036854775808 by omega) (show 0 ≤ nOf x by omega)
    rw [tot, sumN]
    generalize nV x * nOf x = p at *
    omega
theorem sum_fin {t : Tab} {N : Nat} {l : List GMany} {S : Int} (h : -85070591730234615865843651857942052864 ≤ S ∧ S ≤ 85070591730234615865843651857942052864) : gather_Sum_j2 t N l (hi64 S) (lo64 S) = some (fitS S l.length) := by
  have es : ∀ n : Int, shrI .i64 n 63 = some (n / 9223372036854775808) := fun n => by
    unfold shrI
    rw [if_neg (by omega)]
    have : (2 : Int) ^ min (63 : Int).toNat IntKind.i64.bits = 9223372036854775808 := by decide
    rw [this, Int.fdiv_eq_ediv_of_nonneg _ (by decide)]
  rw [gather_Sum_j2, es]
  dsimp only
  rw [IntKind.wrap_i64, IntKind.wrap_u64]
  unfold hi64 lo64 fitS
  by_cases hf : -9223372036854775808 ≤ S ∧ S ≤ 9223372036854775807
  · rw [if_pos hf, if_pos (by simp only [beq_iff_eq]; omega)]
    have : (S % 18446744073709551616 + 9223372036854775808) % 18446744073709551616 - 9223372036854775808 = S := by omega
    rw [this]
  · have hc : ((S % 18446744073709551616 + 9223372036854775808) % 18446744073709551616 - 9223372036854775808) / 9223372036854775808 = -1 ∨ ((S % 18446744073709551616 + 9223372036854775808) % 18446744073709551616 - 9223372036854775808) / 9223372036854775808 = 0 := by omega
    rw [if_neg hf, if_neg (by simp only [beq_iff_eq]; rcases hc with hc | hc <;> rw [hc] <;> omega)]
def In2 (l : List GMany) : Prop := l.length ≤ 1600000000000 ∧ ∀ x ∈ l, I64' (nV x) ∧ I64' (nOf x)
theorem sum_ev {l : List GMany} (h : In2 l) : Ev fun n => (tab n).gather_Sum l = some (sumS l) := by
  have h64 : N64 l := ⟨by have := h.1; omega, fun x hx => (h.2 x hx).2.2⟩
  refine Ev.step ((((gsize_ev h64 h.1).and wadd_evs).and (Ev.ge (l.length + 1))).mono fun n hh => ?_)
  obtain ⟨⟨g1, g2⟩, g3⟩ := hh
  rw [tab_gather_Sum, gather_Sum, g1]
  dsimp only
  unfold sumS
  by_cases hz : (sizeS l).2 = 0
  · rw [if_neg (by simpa using hz), if_pos hz]
    have hb : bad l = false ∧ sumN l ≤ 9223372036854775807 := by
      unfold sizeS at hz
      cases hb : bad l with
      | true => rw [if_pos hb] at hz; simp at hz
      | false =>
        rw [if_neg (by simp [hb])] at hz
        by_cases h2 : sumN l ≤ 9223372036854775807
        · exact ⟨rfl, h2⟩
        · rw [if_neg h2] at hz
          simp at hz
    have a := sum_l (N := n) h64.1 hb.1 h.2 g2 l.length 0 n (by omega) (by omega)
    have p0 : preT l 0 = 0 := by unfold preT; rw [List.drop_zero]; omega
    rw [p0, List.drop_zero, show ((0 : Nat) : Int) = 0 from rfl, show hi64 0 = 0 from rfl, show lo64 0 = 0 from rfl] at a
    rcases a with ⟨a1, a2⟩ | ⟨a1, z1, z2, z3, z4, a2⟩
    · rw [a2, if_neg (by simp [a1])]
    · rw [a2, if_pos a1]
      dsimp only
      have tb := tot_b hb.1 fun x hx => (h.2 x hx).1
      have hn := sumN_nonneg hb.1
      exact sum_fin (by omega)
  · rw [if_pos (by simpa using hz), if_neg hz]
end Go.Proofs.Ytokfeoifkpedgaa.W
