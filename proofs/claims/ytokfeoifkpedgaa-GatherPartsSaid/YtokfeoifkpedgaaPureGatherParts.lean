/- Parts of bulks. -/
import Derived.Test.YtokfeoifkpedgaaGatG
namespace Go.Proofs.Ytokfeoifkpedgaa.W
open Go.Proofs.Ytokfeoifkpedgaa.Flat
set_option linter.unusedVariables false
set_option linter.unusedSimpArgs false
def Cnt (x : GValue) : Prop := ∀ m : Int, ∃ r, Ev fun n => (tab n).ref02_Count x m = some r
theorem cnt1 {most k nn : Int} {s : ByteArray} {l m : List GValue} (H : ∀ x ∈ l, Cnt x) (hl : l.length ≤ 1759218604391) : ∀ (d i : Nat) (st : Int), i + d = l.length → ∃ r z1 z2, Ev fun n => ∀ K, d < K → ref02_Count_l1 (tab n) n K most st (i : Int) k nn s l m = some (most, r, z1, z2, k, nn, s, l, m)
  | 0, i, st, hi => by
    refine ⟨st, (i : Int), false, Ev.pure fun n K hk => ?_⟩
    obtain ⟨K, rfl⟩ : ∃ j, K = j + 1 := ⟨K - 1, by omega⟩
    rw [ref02_Count_l1, if_neg (by simp; omega)]
  | d + 1, i, st, hi => by
    by_cases hst : st < most
    · obtain ⟨x, x1, x3, x2⟩ := at_ (l := l) (i := i) (by omega)
      obtain ⟨r1, e1⟩ := H x x3 (IntKind.wrap .i64 (most - st))
      obtain ⟨r, z1, z2, e2⟩ := cnt1 (most := most) (k := k) (nn := nn) (s := s) (m := m) H hl d (i + 1) (IntKind.wrap .i64 (st + r1)) (by omega)
      refine ⟨r, z1, z2, (e1.and e2).mono fun n hh K hk => ?_⟩
      obtain ⟨g1, g2⟩ := hh
      obtain ⟨K, rfl⟩ : ∃ j, K = j + 1 := ⟨K - 1, by omega⟩
      rw [ref02_Count_l1, if_pos (by simp; omega), if_pos (by simpa using hst), ref02_Count_j2, if_pos (by simp), Int.toNat_natCast, x1]
      cases x
      simp only [g1]
      rw [wr1 (i := i) (L := l.length) (by omega) (by omega)]
      exact g2 K (by omega)
    · refine ⟨st, (i : Int), false, Ev.pure fun n K hk => ?_⟩
      obtain ⟨K, rfl⟩ : ∃ j, K = j + 1 := ⟨K - 1, by omega⟩
      rw [ref02_Count_l1, if_pos (by simp; omega), if_neg (by simpa using hst)]
      simp [hst]
theorem cnt4 {most k nn : Int} {s : ByteArray} {l m : List GValue} (H : ∀ x ∈ m, Cnt x) (hl : m.length ≤ 1759218604391) : ∀ (d i : Nat) (st : Int), i + d = m.length → ∃ r z1 z2, Ev fun n => ∀ K, d < K → ref02_Count_l4 (tab n) n K most st (i : Int) k nn s l m = some (most, r, z1, z2, k, nn, s, l, m)
  | 0, i, st, hi => by
    refine ⟨st, (i : Int), false, Ev.pure fun n K hk => ?_⟩
    obtain ⟨K, rfl⟩ : ∃ j, K = j + 1 := ⟨K - 1, by omega⟩
    rw [ref02_Count_l4, if_neg (by simp; omega)]
  | d + 1, i, st, hi => by
    by_cases hst : st < most
    · obtain ⟨x, x1, x3, x2⟩ := at_ (l := m) (i := i) (by omega)
      obtain ⟨r1, e1⟩ := H x x3 (IntKind.wrap .i64 (most - st))
      obtain ⟨r, z1, z2, e2⟩ := cnt4 (most := most) (k := k) (nn := nn) (s := s) (l := l) H hl d (i + 1) (IntKind.wrap .i64 (st + r1)) (by omega)
      refine ⟨r, z1, z2, (e1.and e2).mono fun n hh K hk => ?_⟩
      obtain ⟨g1, g2⟩ := hh
      obtain ⟨K, rfl⟩ : ∃ j, K = j + 1 := ⟨K - 1, by omega⟩
      rw [ref02_Count_l4, if_pos (by simp; omega), if_pos (by simpa using hst), ref02_Count_j5, if_pos (by simp), Int.toNat_natCast, x1]
      cases x
      simp only [g1]
      rw [wr1 (i := i) (L := m.length) (by omega) (by omega)]
      exact g2 K (by omega)
    · refine ⟨st, (i : Int), false, Ev.pure fun n K hk => ?_⟩
      obtain ⟨K, rfl⟩ : ∃ j, K = j + 1 := ⟨K - 1, by omega⟩
      rw [ref02_Count_l4, if_pos (by simp; omega), if_neg (by simpa using hst)]
      simp [hst]
theorem cnt_all {x : GValue} (hx : VIn x) : Cnt x := by
  induction hx with
  | @mk k nn s l m hs hl hm al am ihl ihm =>
    intro most
    obtain ⟨r1, z1, z2, e1⟩ := cnt1 (most := most) (k := k) (nn := nn) (s := s) (m := m) ihl hl l.length 0 1 (by omega)
    obtain ⟨r2, z3, z4, e2⟩ := cnt4 (most := most) (k := k) (nn := nn) (s := s) (l := l) ihm hm m.length 0 r1 (by omega)
    refine ⟨IntKind.wrap .i64 (r2 + IntKind.wrap .i64 (Int.tdiv (s.size : Int) 20)), Ev.step ((e1.and (e2.and (Ev.ge (l.length + m.length + 1)))).mono fun n hh => ?_)⟩
    obtain ⟨g1, g2, g3⟩ := hh
    have g1 := g1 n (by omega)
    have g2 := g2 n (by omega)
    rw [show ((0 : Nat) : Int) = 0 from rfl] at g1 g2
    rw [tab_ref02_Count]
    simp only [ref02_Count, g1, ref02_Count_j3, g2, ref02_Count_j6, quoI]
    rfl
theorem many_l {l : List GMany} (H : ∀ x ∈ l, VIn (vOf x)) (hl : l.length ≤ 140737488355328) : ∀ (d i : Nat) (st : Int), i + d = l.length → ∃ r z1 z2, Ev fun n => ∀ K, d < K → law16_many_l1 (tab n) n K l st (i : Int) = some (l, r, z1, z2)
  | 0, i, st, hi => by
    refine ⟨st, (i : Int), false, Ev.pure fun n K hk => ?_⟩
    obtain ⟨K, rfl⟩ : ∃ j, K = j + 1 := ⟨K - 1, by omega⟩
    rw [law16_many_l1, if_neg (by simp; omega)]
  | d + 1, i, st, hi => by
    by_cases hst : st < 300
    · obtain ⟨x, x1, x3, x2⟩ := at_ (l := l) (i := i) (by omega)
      obtain ⟨r1, e1⟩ := cnt_all (H x x3) 300
      obtain ⟨r, z1, z2, e2⟩ := many_l H hl d (i + 1) (IntKind.wrap .i64 (st + r1)) (by omega)
      refine ⟨r, z1, z2, (e1.and e2).mono fun n hh K hk => ?_⟩
      obtain ⟨g1, g2⟩ := hh
      obtain ⟨K, rfl⟩ : ∃ j, K = j + 1 := ⟨K - 1, by omega⟩
      rw [law16_many_l1, if_pos (by simp; omega), if_pos (by simpa using hst), law16_many_j2, if_pos (by simp), Int.toNat_natCast, x1]
      obtain ⟨⟨v1, v2, v3, v4, v5⟩, m⟩ := x
      simp only [vOf] at g1
      simp only [g1]
      rw [wr1 (i := i) (L := l.length) (by omega) (by omega)]
      exact g2 K (by omega)
    · refine ⟨st, (i : Int), false, Ev.pure fun n K hk => ?_⟩
      obtain ⟨K, rfl⟩ : ∃ j, K = j + 1 := ⟨K - 1, by omega⟩
      rw [law16_many_l1, if_pos (by simp; omega), if_neg (by simpa using hst)]
      simp [hst]
theorem many_tot {l : List GMany} (H : ∀ x ∈ l, VIn (vOf x)) (hl : l.length ≤ 140737488355328) : ∃ r, Ev fun n => (tab n).law16_many l = some r := by
  obtain ⟨r, z1, z2, e⟩ := many_l H hl l.length 0 0 (by omega)
  refine ⟨decide (r ≥ 300), Ev.step ((e.and (Ev.ge (l.length + 1))).mono fun n hh => ?_)⟩
  have h := hh.1 n (by omega)
  rw [show ((0 : Nat) : Int) = 0 from rfl] at h
  rw [tab_law16_many]
  simp only [law16_many, h]
theorem rows_bad {l : List GMany} (hl : N64 l) (h : ¬ ((sizeS l).2 = 0 ∧ (sizeS l).1 ≤ 300)) : Ev fun n => (tab n).law16_rows l = some ([], false) :=
  Ev.step ((size16_ev hl).mono fun n e => by
    rw [tab_law16_rows, law16_rows, e]
    generalize sizeS l = q at h
    obtain ⟨q1, q2⟩ := q
    dsimp only at h ⊢
    by_cases h2 : q2 = 0
    · rw [if_neg (by simpa using h2), if_pos (by simp only [decide_eq_true_eq]; omega)]
    · rw [if_pos (by simpa using h2)])
theorem good {l : List GMany} (h : (sizeS l).2 = 0 ∧ (sizeS l).1 ≤ 300) : bad l = false ∧ sumN l ≤ 300 := by
  unfold sizeS at h
  cases hb : bad l with
  | true => rw [if_pos hb] at h; simp at h
  | false =>
    rw [if_neg (by simp [hb])] at h
    by_cases h2 : sumN l ≤ 9223372036854775807
    · rw [if_pos h2] at h
      exact ⟨rfl, h.2⟩
    · rw [if_neg h2] at h
      simp at h
theorem exM_vin : ∀ {l : List GMany}, (∀ x ∈ l, VIn (vOf x)) → ∀ x ∈ exM l, VIn (vOf x)
  | [], _, x, hx => by cases hx
  | y :: ys, h, x, hx => by
    rw [exM, List.mem_append] at hx
    rcases hx with hx | hx
    · rw [(List.mem_replicate.1 hx).2]
      exact h y (by simp)
    · exact exM_vin (fun z hz => h z (by simp [hz])) x hx
theorem known_ev : Ev fun n => (tab n).law16_known = some true := Ev.step (Ev.pure fun n => rfl)
theorem Pure.GatherParts : ∀ (x0 : List GMany) (x1 : Int) (x2 : Int) (x3 : Int), (∃ n, TyT Try.prog n 22 (.sl false 6 (GMany.ts x0))) → (Lit.int .i64 x1).wf = true → (Lit.int .i64 x2).wf = true → (Lit.int .i64 x3).wf = true → ∃ n, (tab n).law16_GatherParts x0 x1 x2 x3 = some true := by
  intro l a low more hl _ _ _
  obtain ⟨_, hl⟩ := hl
  have hl := inT_slice GMany.ts_map Try.underlying22 (show _ = 88 from by kernel_rfl) hl
  have hn : l.length ≤ 140737488355328 := by omega
  have hin : ∀ x ∈ l, GMany.In x := fun x hx => by obtain ⟨m, h⟩ := hl.2 x hx; exact ⟨m, h⟩
  have hv : ∀ x ∈ l, VIn (vOf x) := fun x hx => by
    have h := hin x hx
    cases x
    exact GValue.vin _ (GMany.in_mk h).1
  have hN : ∀ x ∈ l, nOf x ≤ 9223372036854775807 := fun x hx => by
    have h := hin x hx
    cases x
    have h := (GMany.in_mk h).2
    simp [Lit.wf, IntKind.min, IntKind.max, IntKind.signed, IntKind.bits] at h
    simp only [nOf]
    omega
  have h64 : N64 l := ⟨by omega, hN⟩
  obtain ⟨r, em⟩ := many_tot hv h64.1
  by_cases hg : (sizeS l).2 = 0 ∧ (sizeS l).1 ≤ 300
  · obtain ⟨hb, hs⟩ := good hg
    have hs0 := sumN_nonneg hb
    have hok : Ok l := ⟨by have := len_sum hb; omega, hb, by omega, hv⟩
    by_cases hq : 0 ≤ low ∧ low ≤ 400 ∧ 0 ≤ more ∧ more ≤ 400
    · obtain ⟨q1, q2, q3, q4⟩ := hq
      have hlen := exM_len hb
      obtain ⟨k, hk⟩ : ∃ k, k = (IntKind.wrap .u64 a) % (sumN l + 2) := ⟨_, rfl⟩
      have hu : 0 ≤ IntKind.wrap .u64 a := by rw [IntKind.wrap_u64]; omega
      have k0 : 0 ≤ k := by rw [hk]; exact Int.emod_nonneg _ (by omega)
      have k1 : k < sumN l + 2 := by rw [hk]; exact Int.emod_lt_of_pos _ (by omega)
      have e1 : IntKind.wrap .i64 (((exM l).length : Int) + 2) = sumN l + 2 := by rw [hlen]; exact wr (by omega) (by omega)
      have e2 : IntKind.wrap .u64 (sumN l + 2) = sumN l + 2 := by rw [IntKind.wrap_u64]; omega
      have e3 : remI .u64 (IntKind.wrap .u64 a) (sumN l + 2) = some k := by
        unfold remI
        rw [if_neg (by omega), Int.tmod_eq_emod_of_nonneg hu, hk]
      have e4 : IntKind.wrap .i64 k = k := wr (by omega) (by omega)
      have e5 : IntKind.wrap .i64 (((exM l).length : Int) - k) = sumN l - k := by rw [hlen]; exact wr (by omega) (by omega)
      have e6 : IntKind.wrap .i64 (more + k) = more + k := wr (by omega) (by omega)
      have e7 : IntKind.wrap .i64 (low + more) = low + more := wr (by omega) (by omega)
      have e8 : IntKind.wrap .i64 (low + more + k) = low + more + k := wr (by omega) (by omega)
      have o1 := hok.cut 0 k 0
      have o2 := hok.cut k (sumN l) 0
      have ox := hok.cut low (sumN l) 0
      have p1 := parts (k := k) (T := sumN l) hb (Int.le_refl 0) (by omega)
      have ob : bad (cutS 0 k 0 l ++ cutS k (sumN l) 0 l) = false := by
        have g1 := o1.2.1
        have g2 := o2.2.1
        rw [bad, List.any_eq_false] at g1 g2 ⊢
        intro x hx
        rcases List.mem_append.1 hx with hx | hx
        · exact g1 x hx
        · exact g2 x hx
      have os : sumN (cutS 0 k 0 l ++ cutS k (sumN l) 0 l) = sumN l := by
        have y1 := exM_len ob
        have y2 := (sameR_at p1).1
        omega
      have oo : Ok (cutS 0 k 0 l ++ cutS k (sumN l) 0 l) := ⟨by have := len_sum ob; omega, ob, by omega, fun x hx => by
        rcases List.mem_append.1 hx with hx | hx
        · exact o1.2.2.2 x hx
        · exact o2.2.2.2 x hx⟩
      have r1 := range_ev (lo := 0) (hi := k) hok (by omega) (by omega)
      have r2 := range_ev (lo := k) (hi := -1) hok (by omega) (by omega)
      have r3 := tail_ev (k := k) hok (by omega)
      have r4 := range_ev (lo := if (0 : Int) > sumN l - k then 0 else sumN l - k) (hi := -1) hok (by split <;> omega) (by omega)
      have r5 := range_ev (lo := low) (hi := -1) hok (by omega) (by omega)
      rw [if_pos rfl] at r2 r4 r5
      rw [if_neg (by omega)] at r1
      have r6 := range_ev (lo := more) (hi := more + k) ox (by omega) (by omega)
      have r7 := range_ev (lo := low + more) (hi := low + more + k) hok (by omega) (by omega)
      rw [if_neg (by omega)] at r6 r7
      have s1 := sameRows_ev (by have := exM_len ob; omega) p1 (exM_vin oo.2.2.2) (exM_vin hv)
      have ot := hok.cut (if (0 : Int) > sumN l - k then 0 else sumN l - k) (sumN l) 0
      have s2 := sameRows_ev ot.1 (sameR_refl (cutS (if (0 : Int) > sumN l - k then 0 else sumN l - k) (sumN l) 0 l)) ot.2.2.2 ot.2.2.2
      have cc := cut_cut (m := more) (h := more + k) (low := low) (T := sumN l) q3 (p := 0) (q := 0) hb (by omega) (by split <;> omega)
      rw [show low + (more + k) = low + more + k by omega] at cc
      have s3 := sameRows_ev (ox.cut more (more + k) 0).1 cc (ox.cut more (more + k) 0).2.2.2 (hok.cut (low + more) (low + more + k) 0).2.2.2
      refine Ev.out (Ev.step (((((rows_ok hok hs).and (rows_ok oo (by omega))).and (em.and known_ev)).and (((r1.and r2).and (r3.and r4)).and ((r5.and (r6.and r7)).and (s1.and (s2.and s3))))).mono fun n hh => ?_))
      obtain ⟨⟨⟨g1, g2⟩, g3, g4⟩, ⟨⟨t1, t2⟩, t3, t4⟩, ⟨t5, t6, t7⟩, u1, u2, u3⟩ := hh
      have n1 : ¬ low < 0 := by omega
      have n2 : ¬ low > 400 := by omega
      have n3 : ¬ more < 0 := by omega
      have n4 : ¬ more > 400 := by omega
      rw [tab_law16_GatherParts, law16_GatherParts, g1]
      simp only [g3, g4]
      cases r with
      | true => rfl
      | false =>
        rw [if_neg (by simp), if_pos trivial, if_neg (by simpa using n1), if_neg (by simpa using n2), if_neg (by simpa using n3), if_neg (by simpa using n4), law16_GatherParts_j1, e1, e2, e3]
        dsimp only
        rw [e4, e5]
        simp only [t1, t2, g2, t3, t4]
        rw [if_pos (by have h1 := o1.1; have h2 := o2.1; omega)]
        simp only [u1, u2]
        rw [law16_GatherParts_j2, e6, e7, e8]
        simp only [t5, t6, t7, u3, g4]
        simp
    · refine Ev.out (Ev.step (((rows_ok hok hs).and (em.and known_ev)).mono fun n hh => ?_))
      obtain ⟨g1, g3, g4⟩ := hh
      rw [tab_law16_GatherParts, law16_GatherParts, g1]
      simp only [g3, g4]
      cases r with
      | true => rfl
      | false =>
        rw [if_neg (by simp), if_pos trivial]
        by_cases n1 : low < 0
        · rw [if_pos (by simpa using n1)]
        rw [if_neg (by simpa using n1)]
        by_cases n2 : low > 400
        · rw [if_pos (by simpa using n2)]
        rw [if_neg (by simpa using n2)]
        by_cases n3 : more < 0
        · rw [if_pos (by simpa using n3)]
        rw [if_neg (by simpa using n3), if_pos (by simp only [decide_eq_true_eq]; omega)]
  · refine Ev.out (Ev.step (((rows_bad h64 hg).and (em.and known_ev)).mono fun n hh => ?_))
    obtain ⟨g1, g3, g4⟩ := hh
    rw [tab_law16_GatherParts, law16_GatherParts, g1]
    simp only [g3, g4]
    cases r <;> rfl
end Go.Proofs.Ytokfeoifkpedgaa.W
