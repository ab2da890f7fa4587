/- Parts of bulks come to the whole. -/
import Derived.Test.YtokfeoifkpedgaaGatF
namespace Go.Proofs.Ytokfeoifkpedgaa.W
open Go.Proofs.Ytokfeoifkpedgaa.Flat
set_option linter.unusedVariables false
set_option linter.unusedSimpArgs false
def sameR : List GMany → List GMany → Bool
  | [], [] => true
  | x :: xs, y :: ys => (nOf x == nOf y) && (cmp (vOf x) (vOf y) == 0) && sameR xs ys
  | _, _ => false
theorem sameR_cons {x y : GMany} {xs ys : List GMany} (h1 : nOf x = nOf y) (h2 : cmp (vOf x) (vOf y) = 0) (h3 : sameR xs ys = true) : sameR (x :: xs) (y :: ys) = true := by
  rw [sameR, h1, h2, h3]
  simp
theorem sameR_at : ∀ {a b : List GMany}, sameR a b = true → a.length = b.length ∧ ∀ (i : Nat) x y, a[i]? = some x → b[i]? = some y → nOf x = nOf y ∧ cmp (vOf x) (vOf y) = 0
  | [], [], _ => ⟨rfl, fun i x y h => by cases h⟩
  | [], _ :: _, h => by cases h
  | _ :: _, [], h => by cases h
  | x :: xs, y :: ys, h => by
    rw [sameR, Bool.and_eq_true, Bool.and_eq_true, beq_iff_eq, beq_iff_eq] at h
    obtain ⟨l, r⟩ := sameR_at h.2
    refine ⟨by simp [l], fun i u w hu hw => ?_⟩
    cases i with
    | zero =>
      simp at hu hw
      rw [← hu, ← hw]
      exact h.1
    | succ i =>
      simp at hu hw
      exact r i u w hu hw
theorem sameR_append : ∀ {a b c d : List GMany}, sameR a c = true → sameR b d = true → sameR (a ++ b) (c ++ d) = true
  | [], _, [], _, _, h => h
  | [], _, _ :: _, _, h, _ => by cases h
  | _ :: _, _, [], _, h, _ => by cases h
  | x :: xs, b, y :: ys, d, h, g => by
    rw [sameR, Bool.and_eq_true] at h
    rw [List.cons_append, List.cons_append, sameR, h.1, sameR_append h.2 g]
    rfl
theorem sameR_rep {x y : GMany} (h1 : nOf x = nOf y) (h2 : cmp (vOf x) (vOf y) = 0) : ∀ n, sameR (List.replicate n x) (List.replicate n y) = true
  | 0 => rfl
  | n + 1 => by
    rw [List.replicate_succ, List.replicate_succ]
    exact sameR_cons h1 h2 (sameR_rep h1 h2 n)
theorem sameR_refl : ∀ a, sameR a a = true
  | [] => rfl
  | x :: xs => sameR_cons rfl (cmp_self _) (sameR_refl xs)
theorem exM_append : ∀ a b, exM (a ++ b) = exM a ++ exM b
  | [], b => rfl
  | x :: xs, b => by rw [List.cons_append, exM, exM, exM_append xs b, List.append_assoc]
theorem cut_none {lo hi : Int} : ∀ {l : List GMany} {p : Int}, bad l = false → hi ≤ p → cutS lo hi p l = []
  | [], p, _, _ => rfl
  | x :: xs, p, hb, h => by
    rw [bad_cons, Bool.or_eq_false_iff, decide_eq_false_iff_not] at hb
    rw [cutS, if_neg (by unfold lw hg; split <;> split <;> omega)]
    exact cut_none hb.2 (by omega)
theorem cut_full {lo hi : Int} : ∀ {l : List GMany} {p : Int}, bad l = false → lo ≤ p → p + sumN l ≤ hi → cutS lo hi p l = l.map fun x => .mk (cp (vOf x)) (nOf x)
  | [], p, _, _, _ => rfl
  | x :: xs, p, hb, h, h2 => by
    rw [bad_cons, Bool.or_eq_false_iff, decide_eq_false_iff_not] at hb
    have hn := sumN_nonneg hb.2
    rw [sumN] at h2
    have e1 : lw lo p = p := by unfold lw; rw [if_neg (by omega)]
    have e2 : hg hi (p + nOf x) = p + nOf x := by unfold hg; rw [if_neg (by omega)]
    rw [cutS, e1, e2, if_pos (by omega), cut_full hb.2 (by omega) (by omega), List.map_cons]
    have : p + nOf x - p = nOf x := by omega
    rw [this]
theorem ex_map : ∀ l : List GMany, sameR (exM (l.map fun x => .mk (cp (vOf x)) (nOf x))) (exM l) = true
  | [] => rfl
  | x :: xs => by
    rw [List.map_cons, exM, exM]
    have hc : cmp (cp (vOf x)) (vOf x) = 0 := by rw [cp_cmp, cmp_self]
    exact sameR_append (sameR_rep (x := .mk (cp (vOf x)) 1) (y := .mk (vOf x) 1) rfl hc _) (ex_map xs)
theorem parts {k T : Int} : ∀ {l : List GMany} {p : Int}, bad l = false → 0 ≤ p → p + sumN l ≤ T → sameR (exM (cutS 0 k p l ++ cutS k T p l)) (exM l) = true
  | [], p, _, _, _ => rfl
  | x :: xs, p, hb', h0, hT => by
    have hb := hb'
    rw [bad_cons, Bool.or_eq_false_iff, decide_eq_false_iff_not] at hb
    have hn := sumN_nonneg hb.2
    have hT' := hT
    rw [sumN] at hT'
    have e1 : lw 0 p = p := by unfold lw; split <;> omega
    have e2 : hg T (p + nOf x) = p + nOf x := by unfold hg; rw [if_neg (by omega)]
    have hc : cmp (cp (vOf x)) (vOf x) = 0 := by rw [cp_cmp, cmp_self]
    by_cases c1 : p + nOf x ≤ k
    · have e3 : hg k (p + nOf x) = p + nOf x := by unfold hg; rw [if_neg (by omega)]
      have e4 : ¬ lw k p < p + nOf x := by unfold lw; split <;> omega
      have e5 : p + nOf x - p = nOf x := by omega
      have ih := parts (k := k) (T := T) hb.2 (show 0 ≤ p + nOf x by omega) (by omega)
      rw [cutS, cutS, e1, e2, e3, if_pos (by omega), if_neg e4, e5, List.cons_append, exM, exM]
      exact sameR_append (sameR_rep (x := .mk (cp (vOf x)) 1) (y := .mk (vOf x) 1) rfl hc _) ih
    · by_cases c2 : k ≤ p
      · rw [cut_none hb' c2, cut_full hb' c2 hT, List.nil_append]
        exact ex_map _
      · have e3 : hg k (p + nOf x) = k := by unfold hg; rw [if_pos (by omega)]
        have e4 : lw k p = k := by unfold lw; rw [if_pos (by omega)]
        rw [cutS, cutS, e1, e2, e3, e4, if_pos (by omega), if_pos (by omega), cut_none hb.2 (by omega), cut_full hb.2 (by omega) (by omega), List.cons_append, List.nil_append, exM, exM, exM, ← List.append_assoc]
        refine sameR_append ?_ (ex_map xs)
        have er : (nOf x).toNat = (k - p).toNat + (p + nOf x - k).toNat := by omega
        rw [er, ← List.replicate_append_replicate]
        exact sameR_append (sameR_rep (x := .mk (cp (vOf x)) 1) (y := .mk (vOf x) 1) rfl hc _) (sameR_rep (x := .mk (cp (vOf x)) 1) (y := .mk (vOf x) 1) rfl hc _)
theorem cut_cut {m h low T : Int} (hm : 0 ≤ m) : ∀ {l : List GMany} {p q : Int}, bad l = false → p + sumN l ≤ T → q = (if low < p then p - low else 0) → sameR (cutS m h q (cutS low T p l)) (cutS (low + m) (low + h) p l) = true
  | [], p, q, _, _, _ => rfl
  | x :: xs, p, q, hb, hT, hq => by
    rw [bad_cons, Bool.or_eq_false_iff, decide_eq_false_iff_not] at hb
    have hn := sumN_nonneg hb.2
    rw [sumN] at hT
    have e2 : hg T (p + nOf x) = p + nOf x := by unfold hg; rw [if_neg (by omega)]
    by_cases c1 : p + nOf x ≤ low
    · have e1 : lw low p = low := by unfold lw; rw [if_pos (by omega)]
      have e3 : ¬ lw (low + m) p < hg (low + h) (p + nOf x) := by unfold lw hg; split <;> split <;> omega
      rw [if_neg (by omega)] at hq
      rw [cutS, cutS, e1, e2, if_neg (by omega), if_neg e3]
      exact cut_cut hm hb.2 (by omega) (by rw [if_neg (by omega)]; exact hq)
    · have e1' : lw low p < p + nOf x := by unfold lw; split <;> omega
      have eq' : q + (p + nOf x - lw low p) = p + nOf x - low := by
        unfold lw
        split at hq <;> split <;> omega
      have ih := cut_cut (m := m) (h := h) (low := low) (T := T) hm (p := p + nOf x) (q := p + nOf x - low) hb.2 (by omega) (by rw [if_pos (by omega)])
      have a1 : lw (low + m) p = lw m q + low := by
        unfold lw
        split at hq <;> split <;> split <;> omega
      have a2 : hg (low + h) (p + nOf x) = hg h (p + nOf x - low) + low := by unfold hg; split <;> split <;> omega
      rw [cutS, e2, if_pos e1', cutS, cutS, nOf, eq', a1, a2]
      by_cases c2 : lw m q < hg h (p + nOf x - low)
      · rw [if_pos c2, if_pos (by omega)]
        refine sameR_cons ?_ ?_ ih
        · simp only [nOf]
          omega
        · show cmp (cp (cp (vOf x))) (cp (vOf x)) = 0
          rw [cp_cmp, cmp_self]
      · rw [if_neg c2, if_neg (by omega)]
        exact ih
theorem cut_ok {lo hi : Int} : ∀ {l : List GMany} {p : Int}, bad l = false → (∀ x ∈ l, VIn (vOf x)) → bad (cutS lo hi p l) = false ∧ sumN (cutS lo hi p l) ≤ sumN l ∧ (cutS lo hi p l).length ≤ l.length ∧ ∀ x ∈ cutS lo hi p l, VIn (vOf x)
  | [], p, _, _ => ⟨rfl, Int.le_refl _, Nat.le_refl _, fun x hx => by cases hx⟩
  | x :: xs, p, hb, hv => by
    rw [bad_cons, Bool.or_eq_false_iff, decide_eq_false_iff_not] at hb
    obtain ⟨h1, h2, h3, h4⟩ := cut_ok (lo := lo) (hi := hi) (p := p + nOf x) hb.2 (fun y hy => hv y (by simp [hy]))
    rw [cutS]
    split
    · rename_i hc
      have e1 : hg hi (p + nOf x) - lw lo p ≤ nOf x := by unfold hg lw; split <;> split <;> omega
      refine ⟨by rw [bad_cons, h1, Bool.or_false]; exact decide_eq_false (show ¬ hg hi (p + nOf x) - lw lo p < 1 by omega), by rw [sumN, sumN]; show hg hi (p + nOf x) - lw lo p + _ ≤ _; omega, by simpa using h3, fun y hy => ?_⟩
      rcases List.mem_cons.1 hy with rfl | hy
      · exact cpF_vin 12 _ (hv x (by simp))
      · exact h4 y hy
    · exact ⟨h1, by rw [sumN]; omega, by simp; omega, h4⟩
theorem len_sum : ∀ {l : List GMany}, bad l = false → (l.length : Int) ≤ sumN l
  | [], _ => Int.le_refl _
  | x :: xs, hb => by
    rw [bad_cons, Bool.or_eq_false_iff, decide_eq_false_iff_not] at hb
    have := len_sum hb.2
    rw [sumN, List.length_cons]
    omega
theorem Ok.cut {l : List GMany} (h : Ok l) (lo hi p : Int) : Ok (cutS lo hi p l) := by
  obtain ⟨h1, h2, h3, h4⟩ := cut_ok (lo := lo) (hi := hi) (p := p) h.2.1 h.2.2.2
  exact ⟨by have := h.1; omega, h1, by have := h.2.2.1; omega, h4⟩
theorem same_l {t : Tab} {n : Nat} {a b : List GMany} (hl : a.length ≤ 1000000) (hs : sameR a b = true) (H : ∀ x ∈ a, ∀ y ∈ b, t.ref02_Same (vOf x) (vOf y) = some (cmp (vOf x) (vOf y) == 0)) : ∀ (d i K : Nat), i + d = a.length → d < K → ∃ z, ref04_SameRows_l1 t n K a b (i : Int) = some (.inr z)
  | 0, i, K, hi, hk => by
    obtain ⟨K, rfl⟩ : ∃ j, K = j + 1 := ⟨K - 1, by omega⟩
    exact ⟨_, by rw [ref04_SameRows_l1, if_neg (by simp only [decide_eq_true_eq]; omega)]⟩
  | d + 1, i, K, hi, hk => by
    obtain ⟨K, rfl⟩ : ∃ j, K = j + 1 := ⟨K - 1, by omega⟩
    obtain ⟨hlen, hat⟩ := sameR_at hs
    obtain ⟨x, x1, x3, _⟩ := at_ (l := a) (i := i) (by omega)
    obtain ⟨y, y1, y3, _⟩ := at_ (l := b) (i := i) (by omega)
    obtain ⟨e1, e2⟩ := hat i x y x1 y1
    have hxy := H x x3 y y3
    rw [e2] at hxy
    obtain ⟨z, ih⟩ := same_l (n := n) hl hs H d (i + 1) K (by omega) (by omega)
    refine ⟨z, ?_⟩
    have ei : IntKind.wrap .i64 ((i : Int) + 1) = ((i + 1 : Nat) : Int) := wr1 (i := i) (L := a.length) (by omega) (by omega)
    rw [ref04_SameRows_l1, if_pos (by simp only [decide_eq_true_eq]; omega), if_pos (by simp), Int.toNat_natCast, x1, y1]
    obtain ⟨⟨v1, v2, v3, v4, v5⟩, m⟩ := x
    obtain ⟨⟨w1, w2, w3, w4, w5⟩, m'⟩ := y
    simp only [nOf, vOf] at e1 hxy
    simp only [hxy, ei, ih, e1]
    simp
theorem sameRows_ev {a b : List GMany} (hl : a.length ≤ 1000000) (hs : sameR a b = true) (ha : ∀ x ∈ a, VIn (vOf x)) (hb : ∀ x ∈ b, VIn (vOf x)) : Ev fun n => (tab n).ref04_SameRows a b = some true := by
  refine Ev.step (((Ev.all2 a b fun x hx y hy => refSame_ev (ha x hx) (hb y hy)).and (Ev.ge (a.length + 1))).mono fun n hh => ?_)
  obtain ⟨⟨z1, z2, z3, z4⟩, e⟩ := same_l (n := n) hl hs hh.1 a.length 0 n (by omega) (by omega)
  rw [show ((0 : Nat) : Int) = 0 from rfl] at e
  rw [tab_ref04_SameRows, ref04_SameRows, if_neg (by simp [(sameR_at hs).1]), e]
end Go.Proofs.Ytokfeoifkpedgaa.W
