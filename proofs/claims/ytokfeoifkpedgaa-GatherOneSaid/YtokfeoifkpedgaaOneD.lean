/- Signed numbers, told; the sum of bulks by the reference. -/
import Derived.Test.YtokfeoifkpedgaaOneC
import Derived.Test.YtokfeoifkpedgaaGatK
namespace Go.Proofs.Ytokfeoifkpedgaa.W
open Go.Proofs.Ytokfeoifkpedgaa.Flat
set_option linter.unusedVariables false
set_option linter.unusedSimpArgs false
theorem intS_l {t : Tab} {n : Nat} {m : Bool} {l : List Int} (hd : Dig l) (hl : l.length ≤ 140737488355328) : ∀ (i K : Nat) (x : Int), i ≤ l.length → i < K → x = -val (l.drop i) → -9223372036854775808 ≤ x → (ref01_Num_Int_l1 t n K x ((i : Int) - 1) m l = some (.inl (0, false)) ∧ 9223372036854775808 < val l) ∨ (∃ z1 z2, ref01_Num_Int_l1 t n K x ((i : Int) - 1) m l = some (.inr (-val l, z1, z2, m, l)) ∧ val l ≤ 9223372036854775808)
  | 0, K, x, hi, hk, hx, h6 => by
    obtain ⟨K, rfl⟩ : ∃ j, K = j + 1 := ⟨K - 1, by omega⟩
    rw [List.drop_zero] at hx
    refine .inr ⟨((0 : Nat) : Int) - 1, decide (((0 : Nat) : Int) - 1 ≥ 0), ?_, by omega⟩
    rw [ref01_Num_Int_l1, if_neg (by simp), hx]
  | i + 1, K, x, hi, hk, hx, h6 => by
    obtain ⟨K, rfl⟩ : ∃ j, K = j + 1 := ⟨K - 1, by omega⟩
    obtain ⟨y, y1, y3, y2⟩ := at_ (l := l) (i := i) (by omega)
    have ey : dg l i = y := by unfold dg; rw [y1]; rfl
    have hv := val_drop' l i
    have hy := hd.dg i
    rw [ey] at hv hy
    have hg := val_ge hd i
    have hn := val_nonneg (hd.drop (i + 1))
    have e1 : ((i + 1 : Nat) : Int) - 1 = (i : Int) := by omega
    have e2 : IntKind.wrap .i64 ((i : Int) - 1) = (i : Int) - 1 := wr (by omega) (by omega)
    rw [e1, ref01_Num_Int_l1, if_pos (by simp only [decide_eq_true_eq]; omega)]
    by_cases h1 : x < -922337203685477580
    · rw [if_pos (by simpa using h1)]
      exact .inl ⟨rfl, by omega⟩
    · rw [if_neg (by simpa using h1)]
      have go : -9223372036854775808 ≤ x * 10 - y → ref01_Num_Int_j2 t n x (i : Int) m l = some (x * 10 - y, (i : Int), m, l) := fun h => by
        rw [ref01_Num_Int_j2, if_pos (by simp), Int.toNat_natCast, y1]
        dsimp only
        rw [wr (x := x * 10) (by omega) (by omega), wr (by omega) (by omega)]
      have ih := fun h => intS_l (t := t) (n := n) (m := m) hd hl i K (x * 10 - y) (by omega) (by omega) (by omega) h
      by_cases h2 : x = -922337203685477580
      · rw [if_pos (by simpa using h2), if_pos (by simp), Int.toNat_natCast, y1]
        dsimp only
        by_cases h3 : y > 8
        · rw [if_pos (by simpa using h3)]
          exact .inl ⟨rfl, by omega⟩
        · rw [if_neg (by simpa using h3), go (by omega)]
          dsimp only
          rw [e2]
          exact ih (by omega)
      · rw [if_neg (by simpa using h2), go (by omega)]
        dsimp only
        rw [e2]
        exact ih (by omega)
def fitZ (v : Int) : Int × Bool := if -9223372036854775808 ≤ v ∧ v ≤ 9223372036854775807 then (v, true) else (0, false)
theorem intS_evs : Ev fun n => ∀ (v : Int) (p : GNum), IsNum v p → lenN p ≤ 500 → (tab n).ref01_Num_Int p = some (fitZ v) := by
  refine Ev.step ((Ev.ge 501).mono fun n hn v p hp hl => ?_)
  obtain ⟨m, l⟩ := p
  obtain ⟨hd, hc, rfl⟩ := hp
  simp only [lenN] at hl
  have e := intS_l (t := tab n) (n := n) (m := m) hd (by omega) l.length n 0 (Nat.le_refl _) (by omega) (by rw [List.drop_length]; rfl) (by omega)
  have ew : IntKind.wrap .i64 ((l.length : Int) - 1) = (l.length : Int) - 1 := wr (by omega) (by omega)
  rw [tab_ref01_Num_Int, ref01_Num_Int, ew]
  have h0 := val_nonneg hd
  rcases e with ⟨e, h⟩ | ⟨z1, z2, e, h⟩
  · rw [e]
    dsimp only
    rw [fitZ, if_neg (by unfold num; split <;> omega)]
  · rw [e]
    dsimp only
    rw [ref01_Num_Int_j3]
    cases m with
    | true =>
      have : num true l = -val l := rfl
      rw [if_pos rfl, this, fitZ, if_pos (by omega)]
    | false =>
      have : num false l = val l := rfl
      rw [if_neg (by simp), this]
      by_cases h9 : val l = 9223372036854775808
      · rw [if_pos (by rw [h9]; rfl), fitZ, if_neg (by omega)]
      · rw [if_neg (by simp only [beq_iff_eq]; omega), fitZ, if_pos (by omega), wr (by omega) (by omega)]
        have : 0 - -val l = val l := by omega
        rw [this]
theorem pre_b {l : List GMany} (hb : bad l = false) (hs : sumN l ≤ 9223372036854775807) (hN : ∀ x ∈ l, I64' (nV x)) (i : Nat) : -(10 ^ 40) < preT l i ∧ preT l i < 10 ^ 40 := by
  have t1 := tot_b hb hN
  have t2 := tot_b (bad_drop hb i) fun x hx => hN x (List.mem_of_mem_drop hx)
  have s1 := sumN_nonneg hb
  have s2 := sumN_nonneg (bad_drop hb i)
  have s3 := pre_nonneg hb i
  unfold pre at s3
  unfold preT
  omega
theorem rsum_l {n : Nat} {l : List GMany} (hl : l.length ≤ 140737488355328) (hb : bad l = false) (hs : sumN l ≤ 9223372036854775807) (hN : ∀ x ∈ l, I64' (nV x) ∧ I64' (nOf x))
    (HO : ∀ x : Int, -9223372036854775808 ≤ x → x ≤ 9223372036854775807 → ∃ p, IsNum x p ∧ (tab n).ref01_Of x = some p)
    (HT : ∀ (x y : Int) (p q : GNum), IsNum x p → IsNum y q → lenN p ≤ 400 → lenN q ≤ 400 → ∃ r, IsNum (x * y) r ∧ (tab n).ref01_Num_Times p q = some r)
    (HP : ∀ (x y : Int) (p q : GNum), IsNum x p → IsNum y q → lenN p ≤ 500 → lenN q ≤ 500 → ∃ r, IsNum (x + y) r ∧ (tab n).ref01_Num_Plus p q = some r) :
    ∀ (d i K : Nat) (m : Bool) (D : List Int), i + d = l.length → d < K → IsNum (preT l i) (.mk m D) → (allI (l.drop i) = false ∧ ref16_Sum_l1 (tab n) n K l (i : Int) m D = some (.inl (0, false, 160))) ∨ (allI (l.drop i) = true ∧ ∃ z1 z2 m' D', IsNum (tot l) (.mk m' D') ∧ ref16_Sum_l1 (tab n) n K l (i : Int) m D = some (.inr (l, z1, z2, m', D')))
  | 0, i, K, m, D, hi, hk, hI => by
    obtain ⟨K, rfl⟩ : ∃ j, K = j + 1 := ⟨K - 1, by omega⟩
    have e : preT l i = tot l := by
      unfold preT
      rw [List.drop_of_length_le (by omega), tot]
      omega
    rw [e] at hI
    exact .inr ⟨by rw [List.drop_of_length_le (by omega)]; rfl, _, _, _, _, hI, by rw [ref16_Sum_l1, if_neg (by simp only [decide_eq_true_eq]; omega)]⟩
  | d + 1, i, K, m, D, hi, hk, hI => by
    obtain ⟨K, rfl⟩ : ∃ j, K = j + 1 := ⟨K - 1, by omega⟩
    obtain ⟨x, x1, x3, x2⟩ := at_ (l := l) (i := i) (by omega)
    have hx := hN x x3
    have ep : preT l i + nV x * nOf x = preT l (i + 1) := by
      unfold preT
      rw [x2, tot]
      omega
    have hx1 := hx.1
    have hx2 := hx.2
    unfold I64' at hx1 hx2
    obtain ⟨p1, i1, o1⟩ := HO (nV x) hx1.1 hx1.2
    obtain ⟨p2, i2, o2⟩ := HO (nOf x) hx2.1 hx2.2
    obtain ⟨p3, i3, o3⟩ := HT _ _ p1 p2 i1 i2 (Nat.le_trans (num_len (j := 20) i1 (by omega) (by omega)) (by omega)) (Nat.le_trans (num_len (j := 20) i2 (by omega) (by omega)) (by omega))
    have b1 := pre_b hb hs (fun y hy => (hN y hy).1) i
    have b2 := pre_b hb hs (fun y hy => (hN y hy).1) (i + 1)
    obtain ⟨p4, i4, o4⟩ := HP _ _ (.mk m D) p3 hI i3 (Nat.le_trans (num_len (j := 40) hI b1.1 b1.2) (by omega)) (Nat.le_trans (num_len (j := 41) i3 (by rw [Int.pow_succ]; omega) (by rw [Int.pow_succ]; omega)) (by omega))
    rw [ep] at i4
    have ea : allI (l.drop i) = ((kV x == 2) && allI (l.drop (i + 1))) := by rw [x2, allI, List.all_cons]; rfl
    have ei : IntKind.wrap .i64 ((i : Int) + 1) = ((i + 1 : Nat) : Int) := wr1 (i := i) (L := l.length) (by omega) hl
    obtain ⟨m4, D4⟩ := p4
    have ih := rsum_l hl hb hs hN HO HT HP d (i + 1) K m4 D4 (by omega) (by omega) i4
    rw [ref16_Sum_l1, if_pos (by simp only [decide_eq_true_eq]; omega), if_pos (by simp), Int.toNat_natCast, x1, ea, ei]
    obtain ⟨⟨v1, v2, v3, v4, v5⟩, k⟩ := x
    obtain ⟨m1, D1⟩ := p1
    obtain ⟨m2, D2⟩ := p2
    obtain ⟨m3, D3⟩ := p3
    simp only [nV, nOf, kV] at o1 o2 ⊢
    by_cases hk2 : v1 = 2
    · rw [if_neg (by simpa using hk2)]
      simp only [o1, o2, o3, o4]
      simpa [hk2] using ih
    · rw [if_pos (by simpa using hk2)]
      exact .inl ⟨by simp [hk2], rfl⟩
theorem sizeOK {l : List GMany} (hz : (sizeS l).2 = 0) : bad l = false ∧ sumN l ≤ 9223372036854775807 ∧ sizeS l = (sumN l, 0) := by
  unfold sizeS at hz ⊢
  cases hb : bad l with
  | true => rw [if_pos hb] at hz; simp at hz
  | false =>
    rw [if_neg (by simp [hb])] at hz
    by_cases h2 : sumN l ≤ 9223372036854775807
    · exact ⟨rfl, h2, by rw [if_neg (by simp), if_pos h2]⟩
    · rw [if_neg h2] at hz
      simp at hz
theorem rsum_ev {l : List GMany} (h : In2 l) : Ev fun n => (tab n).ref16_Sum l = some (sumS l) := by
  have h64 : N64 l := ⟨by have := h.1; omega, fun x hx => (h.2 x hx).2.2⟩
  refine Ev.step ((((size16_ev h64).and (ofS_evs.and timesS_evs)).and ((plusS_evs.and intS_evs).and (Ev.ge (l.length + 1)))).mono fun n hh => ?_)
  obtain ⟨⟨g1, g2, g3⟩, ⟨g4, g5⟩, g6⟩ := hh
  rw [tab_ref16_Sum, ref16_Sum, g1]
  dsimp only
  unfold sumS
  by_cases hz : (sizeS l).2 = 0
  · rw [if_neg (by simpa using hz), if_pos hz]
    obtain ⟨hb, hs, _⟩ := sizeOK hz
    have p0 : preT l 0 = 0 := by unfold preT; rw [List.drop_zero]; omega
    have a := rsum_l h64.1 hb hs h.2 g2 g3 g4 l.length 0 n false [] (by omega) (by omega) (by rw [p0]; exact ⟨fun d hd => (by cases hd), .inl rfl, rfl⟩)
    rw [List.drop_zero, show ((0 : Nat) : Int) = 0 from rfl] at a
    rcases a with ⟨a1, a2⟩ | ⟨a1, z1, z2, m', D', a3, a2⟩
    · rw [a2, if_neg (by simp [a1])]
    · rw [a2, if_pos a1]
      dsimp only
      have tb := tot_b hb fun x hx => (h.2 x hx).1
      have hn := sumN_nonneg hb
      have e := g5 (tot l) (.mk m' D') a3 (Nat.le_trans (num_len (j := 40) a3 (by omega) (by omega)) (by omega))
      rw [ref16_Sum_j2, e]
      unfold fitZ fitS
      by_cases hf : -9223372036854775808 ≤ tot l ∧ tot l ≤ 9223372036854775807
      · rw [if_pos hf, if_pos hf]
        rfl
      · rw [if_neg hf, if_neg hf]
        rfl
  · rw [if_pos (by simpa using hz), if_neg hz]
end Go.Proofs.Ytokfeoifkpedgaa.W
