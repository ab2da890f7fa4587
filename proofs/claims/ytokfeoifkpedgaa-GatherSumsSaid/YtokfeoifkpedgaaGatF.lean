/- Parts of bulks, rows of bulks, and counts. -/
import Derived.Test.YtokfeoifkpedgaaGatE
namespace Go.Proofs.Ytokfeoifkpedgaa.W
open Go.Proofs.Ytokfeoifkpedgaa.Flat
set_option linter.unusedVariables false
set_option linter.unusedSimpArgs false
def vOf : GMany → GValue
  | .mk v _ => v
def lw (lo p : Int) : Int := if lo > p then lo else p
def hg (hi q : Int) : Int := if hi < q then hi else q
def cutS (lo hi : Int) : Int → List GMany → List GMany
  | _, [] => []
  | p, x :: xs => if lw lo p < hg hi (p + nOf x) then .mk (cp (vOf x)) (hg hi (p + nOf x) - lw lo p) :: cutS lo hi (p + nOf x) xs else cutS lo hi (p + nOf x) xs
theorem cut_l {t : Tab} {n : Nat} {l : List GMany} {lo hi : Int} (hl : l.length ≤ 1000000) (hb : bad l = false) (hs : sumN l ≤ 1000000) (b1 : -1000000 ≤ lo ∧ lo ≤ 1000000) (b2 : -1000000 ≤ hi ∧ hi ≤ 1000000) (H : ∀ x ∈ l, t.value_Copy (vOf x) = some (cp (vOf x))) : ∀ (d i K : Nat) (acc : List GMany), i + d = l.length → d < K → acc.length ≤ i → ∃ z, gather_cut_l1 t n K lo hi acc (pre l i) l (l.length : Int) (i : Int) = some (lo, hi, acc ++ cutS lo hi (pre l i) (l.drop i), z)
  | 0, i, K, acc, hi', hk, ha => by
    obtain ⟨K, rfl⟩ : ∃ j, K = j + 1 := ⟨K - 1, by omega⟩
    exact ⟨_, by rw [gather_cut_l1, if_neg (by simp only [decide_eq_true_eq]; omega), List.drop_of_length_le (by omega), cutS, List.append_nil]⟩
  | d + 1, i, K, acc, hi', hk, ha => by
    obtain ⟨K, rfl⟩ : ∃ j, K = j + 1 := ⟨K - 1, by omega⟩
    obtain ⟨x, x1, x3, x2⟩ := at_ (l := l) (i := i) (by omega)
    have hx := H x x3
    have es := sumN_take l x2
    have ep : pre l i + nOf x = pre l (i + 1) := by unfold pre; omega
    have hp := pre_nonneg hb i
    have hn := sumN_nonneg (bad_drop hb (i + 1))
    have hpos := nOf_pos hb x3
    have hle : pre l (i + 1) ≤ 1000000 := by unfold pre; omega
    have ew : IntKind.wrap .i64 (pre l i + nOf x) = pre l i + nOf x := wr (by omega) (by omega)
    have e2 : IntKind.wrap .i64 (hg hi (pre l i + nOf x) - lw lo (pre l i)) = hg hi (pre l i + nOf x) - lw lo (pre l i) := by
      unfold hg lw
      apply wr <;> split <;> split <;> omega
    have ih := fun acc h => cut_l (t := t) (n := n) hl hb hs b1 b2 H d (i + 1) K acc (by omega) (by omega) h
    rw [gather_cut_l1, if_pos (by simp only [decide_eq_true_eq]; omega), if_pos (by simp), Int.toNat_natCast, x1, x2, cutS]
    rw [← ep] at ih
    have ei : IntKind.wrap .i64 ((i : Int) + 1) = ((i + 1 : Nat) : Int) := wr1 (i := i) (L := l.length) (by omega) (by omega)
    obtain ⟨⟨v1, v2, v3, v4, v5⟩, m⟩ := x
    simp only [nOf, vOf] at hx ew e2 ih ⊢
    have f1 : (if lo > pre l i then lo else pre l i) = lw lo (pre l i) := rfl
    have f2 : (if hi < pre l i + m then hi else pre l i + m) = hg hi (pre l i + m) := rfl
    simp only [ew, gather_cut_j2, ei]
    rw [f1, f2, e2]
    by_cases hc : lw lo (pre l i) < hg hi (pre l i + m)
    · rw [if_pos (decide_eq_true hc)]
      simp only [hc, if_true]
      generalize cp (GValue.mk v1 v2 v3 v4 v5) = q at hx
      cases q
      simp only [hx]
      rw [if_pos (by simp; omega)]
      obtain ⟨z, e⟩ := ih (acc ++ [GMany.mk (GValue.mk _ _ _ _ _) (hg hi (pre l i + m) - lw lo (pre l i))]) (by simp; omega)
      exact ⟨z, by rw [e, List.append_assoc]; rfl⟩
    · rw [if_neg (by simpa using hc)]
      simp only [hc, if_false]
      exact ih acc (by omega)
/-- What bulks that come in keep to. -/
def Ok (l : List GMany) : Prop := l.length ≤ 1000000 ∧ bad l = false ∧ sumN l ≤ 1000000 ∧ ∀ x ∈ l, VIn (vOf x)
theorem sumN_mem {l : List GMany} (hb : bad l = false) : ∀ x ∈ l, nOf x ≤ sumN l := by
  induction l with
  | nil => intro x hx; cases hx
  | cons y ys ih =>
    rw [bad_cons, Bool.or_eq_false_iff, decide_eq_false_iff_not] at hb
    have h2 := sumN_nonneg hb.2
    intro x hx
    rw [sumN]
    rcases List.mem_cons.1 hx with rfl | hx
    · omega
    · have := ih hb.2 x hx
      omega
theorem Ok.n64 {l : List GMany} (h : Ok l) : N64 l := ⟨by have := h.1; omega, fun x hx => by have := sumN_mem h.2.1 x hx; have := h.2.2.1; omega⟩
theorem Ok.size {l : List GMany} (h : Ok l) : sizeS l = (sumN l, 0) := by
  have := h.2.2.1
  rw [sizeS, if_neg (by simp [h.2.1]), if_pos (by omega)]
theorem cut_ev {l : List GMany} {lo hi : Int} (h : Ok l) (b1 : -1000000 ≤ lo ∧ lo ≤ 1000000) (b2 : -1000000 ≤ hi ∧ hi ≤ 1000000) : Ev fun n => (tab n).gather_cut l lo hi = some (cutS lo hi 0 l) := by
  refine Ev.step (((Ev.all l fun x hx => copy_ev (h.2.2.2 x hx)).and (Ev.ge (l.length + 1))).mono fun n hh => ?_)
  obtain ⟨⟨z1, z2, z3, z4, z5⟩, e⟩ := cut_l (n := n) h.1 h.2.1 h.2.2.1 b1 b2 hh.1 l.length 0 n [] (by omega) (by omega) (by simp)
  have hp0 : pre l 0 = 0 := by unfold pre; rw [List.drop_zero]; omega
  rw [show ((0 : Nat) : Int) = 0 from rfl, hp0, List.drop_zero, List.nil_append] at e
  rw [tab_gather_cut]
  simp only [gather_cut, e]
theorem gsizeOk {l : List GMany} (h : Ok l) : Ev fun n => (tab n).gather_size l = some (sumN l, 0) := by
  have := gsize_ev h.n64 (by have := h.1; omega)
  rw [h.size] at this
  exact this
theorem range_ev {l : List GMany} {lo hi : Int} (h : Ok l) (b1 : 0 ≤ lo ∧ lo ≤ 1000000) (b2 : hi = -1 ∨ (lo ≤ hi ∧ hi ≤ 1000000)) : Ev fun n => (tab n).gather_Range l lo hi = some (cutS lo (if hi = -1 then sumN l else hi) 0 l, 0) := by
  have hs := sumN_nonneg h.2.1
  have h3 := h.2.2.1
  have c := cut_ev (lo := lo) (hi := if hi = -1 then sumN l else hi) h (by omega) (by split <;> omega)
  refine Ev.step (((gsizeOk h).and c).mono fun n hh => ?_)
  rw [tab_gather_Range, gather_Range, hh.1]
  dsimp only
  rw [if_neg (by simp only [decide_eq_true_eq]; omega)]
  by_cases hq : hi = -1
  · subst hq
    have h2 := hh.2
    rw [if_pos rfl] at h2 ⊢
    simp [gather_Range_j1, gather_Range_j2, h2]
  · have h2 := hh.2
    rw [if_neg hq] at h2 ⊢
    have hlt : ¬ hi < lo := by omega
    simp [gather_Range_j1, gather_Range_j2, h2, hq, hlt]
theorem tail_ev {l : List GMany} {k : Int} (h : Ok l) (b1 : 0 ≤ k ∧ k ≤ 1000000) : Ev fun n => (tab n).gather_Tail l k = some (cutS (if (0 : Int) > sumN l - k then 0 else sumN l - k) (sumN l) 0 l, 0) := by
  have hs := sumN_nonneg h.2.1
  have h3 := h.2.2.1
  have c := cut_ev (lo := if (0 : Int) > sumN l - k then 0 else sumN l - k) (hi := sumN l) h (by split <;> omega) (by omega)
  refine Ev.step (((gsizeOk h).and c).mono fun n hh => ?_)
  have ew : IntKind.wrap .i64 (sumN l - k) = sumN l - k := wr (by omega) (by omega)
  have hk : ¬ k < 0 := by omega
  rw [tab_gather_Tail, gather_Tail, hh.1]
  dsimp only
  rw [if_neg (by simpa using hk), if_neg (by simp), ew, hh.2]
def exM : List GMany → List GMany
  | [] => []
  | x :: xs => List.replicate (nOf x).toNat (.mk (vOf x) 1) ++ exM xs
theorem exM_len : ∀ {l : List GMany}, bad l = false → ((exM l).length : Int) = sumN l
  | [], _ => rfl
  | x :: xs, h => by
    rw [bad_cons, Bool.or_eq_false_iff, decide_eq_false_iff_not] at h
    have := exM_len h.2
    rw [exM, sumN, List.length_append, List.length_replicate]
    omega
theorem rows_l3 {t : Tab} {n : Nat} {l : List GMany} {i : Nat} {x : GMany} (hx : l[i]? = some x) : ∀ (d : Nat) (k : Nat) (K : Nat) (acc : List GMany), (k : Int) + d = nOf x → d < K → acc.length + d ≤ 1000000 → k + d ≤ 1000000 → ∃ z, law16_rows_l3 t n K l acc (i : Int) (k : Int) = some (l, acc ++ List.replicate d (.mk (vOf x) 1), (i : Int), z)
  | 0, k, K, acc, h1, hk, h2, h3 => by
    obtain ⟨K, rfl⟩ : ∃ j, K = j + 1 := ⟨K - 1, by omega⟩
    obtain ⟨⟨v1, v2, v3, v4, v5⟩, m⟩ := x
    simp only [nOf] at h1
    refine ⟨((k : Int), decide ((k : Int) < m)), ?_⟩
    rw [law16_rows_l3, if_pos (by simp), Int.toNat_natCast, hx]
    dsimp only
    rw [if_neg (by simp only [decide_eq_true_eq]; omega), List.replicate_zero, List.append_nil]
  | d + 1, k, K, acc, h1, hk, h2, h3 => by
    obtain ⟨K, rfl⟩ : ∃ j, K = j + 1 := ⟨K - 1, by omega⟩
    have e1 : IntKind.wrap .i64 ((k : Int) + 1) = ((k + 1 : Nat) : Int) := wr1 (i := k) (L := k + 1) (by omega) (by omega)
    obtain ⟨z, ih⟩ := rows_l3 (t := t) (n := n) hx d (k + 1) K (acc ++ [.mk (vOf x) 1]) (by omega) (by omega) (by simp; omega) (by omega)
    refine ⟨z, ?_⟩
    obtain ⟨⟨v1, v2, v3, v4, v5⟩, m⟩ := x
    simp only [nOf, vOf] at h1 ih ⊢
    rw [law16_rows_l3, if_pos (by simp), Int.toNat_natCast, hx]
    dsimp only
    rw [if_pos (by simp only [decide_eq_true_eq]; omega), if_pos (by simp; omega), e1, ih, List.replicate_succ, List.append_assoc]
    rfl
theorem rows_l2 {t : Tab} {n : Nat} {l : List GMany} (hl : l.length ≤ 1000000) (hb : bad l = false) (hs : sumN l ≤ 300000) (hn : 1000001 ≤ n) : ∀ (d i K : Nat) (acc : List GMany), i + d = l.length → d < K → (acc.length : Int) + sumN (l.drop i) ≤ 1000000 → ∃ z, law16_rows_l2 t n K l acc (i : Int) = some (l, acc ++ exM (l.drop i), z)
  | 0, i, K, acc, hi, hk, ha => by
    obtain ⟨K, rfl⟩ : ∃ j, K = j + 1 := ⟨K - 1, by omega⟩
    exact ⟨_, by rw [law16_rows_l2, if_neg (by simp only [decide_eq_true_eq]; omega), List.drop_of_length_le (by omega), exM, List.append_nil]⟩
  | d + 1, i, K, acc, hi, hk, ha => by
    obtain ⟨K, rfl⟩ : ∃ j, K = j + 1 := ⟨K - 1, by omega⟩
    obtain ⟨x, x1, x3, x2⟩ := at_ (l := l) (i := i) (by omega)
    have es := sumN_take l x2
    have hpos := nOf_pos hb x3
    have hle := sumN_mem hb x x3
    have hn0 := sumN_nonneg (bad_drop hb (i + 1))
    obtain ⟨⟨z1, z2⟩, e⟩ := rows_l3 (t := t) (n := n) x1 (nOf x).toNat 0 n acc (by omega) (by omega) (by omega) (by omega)
    obtain ⟨z, ih⟩ := rows_l2 (t := t) (n := n) hl hb hs hn d (i + 1) K (acc ++ List.replicate (nOf x).toNat (.mk (vOf x) 1)) (by omega) (by omega) (by rw [List.length_append, List.length_replicate]; omega)
    refine ⟨z, ?_⟩
    rw [show ((0 : Nat) : Int) = 0 from rfl] at e
    rw [law16_rows_l2, if_pos (by simp only [decide_eq_true_eq]; omega), e]
    dsimp only
    rw [wr1 (i := i) (L := l.length) (by omega) (by omega), ih, x2, exM, List.append_assoc]
theorem rows_ok {l : List GMany} (h : Ok l) (hs : sumN l ≤ 300) : Ev fun n => (tab n).law16_rows l = some (exM l, true) := by
  have s := size16_ev h.n64
  rw [h.size] at s
  refine Ev.step ((s.and (Ev.ge (l.length + 1000001))).mono fun n hh => ?_)
  obtain ⟨⟨z1, z2⟩, e⟩ := rows_l2 (t := tab n) (n := n) h.1 h.2.1 (by omega) (by omega) l.length 0 n [] (by omega) (by omega) (by simp; omega)
  rw [show ((0 : Nat) : Int) = 0 from rfl, List.drop_zero, List.nil_append] at e
  rw [tab_law16_rows, law16_rows, hh.1]
  dsimp only
  rw [if_neg (by simp), if_neg (by simp only [decide_eq_true_eq]; omega), law16_rows_j1, e]
end Go.Proofs.Ytokfeoifkpedgaa.W
