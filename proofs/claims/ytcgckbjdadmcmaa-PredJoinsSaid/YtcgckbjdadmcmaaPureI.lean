/- In new memory; joined; negated. -/
import Derived.Test.YtcgckbjdadmcmaaPureH
namespace Go.Proofs.Ytcgckbjdadmcmaa.W
open Go.Proofs.Ytcgckbjdadmcmaa.Flat
set_option linter.unusedVariables false
set_option linter.unusedSimpArgs false
theorem copied_l {t : Tab} {n : Nat} {dp : Int} {l : List GValue} (H : ∀ x ∈ l, t.value_part x dp = some x) (hl : l.length ≤ 1759218604391) : ∀ (d i K : Nat), i + d = l.length → d < K → ∃ z, value_copied_l1 t n K dp (l.take i) l (l.length : Int) (i : Int) = some (dp, l, z)
  | 0, i, K, hi, hk => by
    obtain ⟨K, rfl⟩ : ∃ j, K = j + 1 := ⟨K - 1, by omega⟩
    exact ⟨_, by rw [value_copied_l1, if_neg (by simp; omega), List.take_of_length_le (by omega)]⟩
  | d + 1, i, K, hi, hk => by
    obtain ⟨K, rfl⟩ : ∃ j, K = j + 1 := ⟨K - 1, by omega⟩
    obtain ⟨x, x1, x3, x2⟩ := at_ (l := l) (i := i) (by omega)
    have hx := H x x3
    obtain ⟨z, ih⟩ := copied_l (n := n) H hl d (i + 1) K (by omega) (by omega)
    refine ⟨z, ?_⟩
    have et : l.take i ++ [x] = l.take (i + 1) := by rw [List.take_add_one, x1]; rfl
    have el : (l.take i).length = i := by rw [List.length_take]; omega
    rw [value_copied_l1, if_pos (by simp; omega), if_pos (by simp), Int.toNat_natCast, x1, wr1 (i := i) (L := l.length) (by omega) (by omega)]
    cases x
    simp only [hx, et]
    rw [if_pos (by rw [el]; simp; omega)]
    exact ih
theorem copied_at {t : Tab} {n : Nat} {dp : Int} {l : List GValue} (H : ∀ x ∈ l, t.value_part x dp = some x) (hl : l.length ≤ 1759218604391) (hn : l.length < n) : value_copied t n l dp = some l := by
  obtain ⟨⟨z1, z2, z3, z4⟩, h⟩ := copied_l (n := n) H hl l.length 0 n (by omega) hn
  rw [show ((0 : Nat) : Int) = 0 from rfl, List.take_zero] at h
  simp only [value_copied, h]
theorem part_ev : ∀ (f : Nat), f ≤ 12 → ∀ a, VIn a → plainF f a = true → Ev fun n => (tab n).value_part a (13 - (f : Int)) = some a
  | 0, _, a, _, h => by cases h
  | f + 1, hf, .mk k nn s l m, .mk hs hl hm al am, h => by
    obtain ⟨_, c2, c3⟩ := plainF_mk h
    have ed : IntKind.wrap .i64 ((13 - ((f + 1 : Nat) : Int)) + 1) = 13 - (f : Int) := by
      rw [wr (by omega) (by omega)]
      omega
    have hd : ¬ (13 - ((f + 1 : Nat) : Int)) > 12 := by omega
    generalize (13 - ((f + 1 : Nat) : Int)) = dp at ed hd ⊢
    have r1 : Ev fun n => (tab n).value_copied l (13 - (f : Int)) = some l := Ev.step (((Ev.all l fun x hx => part_ev f (by omega) x (al x hx) (c2 x hx)).and (Ev.ge (l.length + 1))).mono fun n hh => by
      rw [tab_value_copied]
      exact copied_at hh.1 hl (by omega))
    have r2 : Ev fun n => (tab n).value_copied m (13 - (f : Int)) = some m := Ev.step (((Ev.all m fun x hx => part_ev f (by omega) x (am x hx) (c3 x hx)).and (Ev.ge (m.length + 1))).mono fun n hh => by
      rw [tab_value_copied]
      exact copied_at hh.1 hm (by omega))
    refine Ev.step ((r1.and r2).mono fun n hh => ?_)
    rw [tab_value_part, value_part, if_neg (by simpa using hd), ed]
    simp only [hh.1, hh.2]
theorem valCopy_ev {a : GValue} (ha : VIn a) (h : okV a = true) : Ev fun n => (tab n).value_Copy a = some a :=
  Ev.step ((part_ev 12 (by omega) a ha h).mono fun n h => by
    rw [tab_value_Copy]
    cases a
    exact h)
theorem pp1 {t : Tab} {n : Nat} {dp k : Int} {l : List GValue} {p : List GPred} {k1 k2 : Int} {v1 : List GValue} {p1 p2 : List GPred} (H : ∀ x ∈ l, t.value_Copy x = some x) (hl : l.length ≤ 1759218604391) : ∀ (d i K : Nat), i + d = l.length → d < K → ∃ z1 z2 z3, pred_part_l1 t n K dp l (l.length : Int) (i : Int) k l p k1 v1 p1 k2 (l.take i) p2 = some (dp, z1, z2, z3, decide (l.length < l.length), k, l, p, k1, v1, p1, k2, l, p2)
  | 0, i, K, hi, hk => by
    obtain ⟨K, rfl⟩ : ∃ j, K = j + 1 := ⟨K - 1, by omega⟩
    refine ⟨l, (l.length : Int), (i : Int), ?_⟩
    rw [pred_part_l1, if_neg (by simp; omega), List.take_of_length_le (by omega)]
    have : i = l.length := by omega
    simp [this]
  | d + 1, i, K, hi, hk => by
    obtain ⟨K, rfl⟩ : ∃ j, K = j + 1 := ⟨K - 1, by omega⟩
    obtain ⟨x, x1, x3, x2⟩ := at_ (l := l) (i := i) (by omega)
    have hx := H x x3
    obtain ⟨z1, z2, z3, ih⟩ := pp1 (n := n) (dp := dp) (k := k) (p := p) (k1 := k1) (k2 := k2) (v1 := v1) (p1 := p1) (p2 := p2) H hl d (i + 1) K (by omega) (by omega)
    refine ⟨z1, z2, z3, ?_⟩
    have et : l.take i ++ [x] = l.take (i + 1) := by rw [List.take_add_one, x1]; rfl
    have el : (l.take i).length = i := by rw [List.length_take]; omega
    rw [pred_part_l1, if_pos (by simp; omega), if_pos (by simp), Int.toNat_natCast, x1, wr1 (i := i) (L := l.length) (by omega) (by omega)]
    cases x
    simp only [hx, et]
    rw [if_pos (by rw [el]; simp; omega)]
    exact ih
theorem pp3 {t : Tab} {n : Nat} {dp k : Int} {v : List GValue} {l : List GPred} {q : List GPred} {k2 : Int} {v2 : List GValue} (H : ∀ x ∈ l, t.pred_part x (IntKind.wrap .i64 (dp + 1)) = some x) (hl : l.length ≤ 2513169434844) : ∀ (d i K : Nat), i + d = l.length → d < K → ∃ z1 z2 z3 z4 z5 z6 z7 z8, pred_part_l3 t n K dp l (l.length : Int) (i : Int) k v q k2 v2 (l.take i) = some (z1, z2, z3, z4, z5, z6, z7, z8, k2, v2, l)
  | 0, i, K, hi, hk => by
    obtain ⟨K, rfl⟩ : ∃ j, K = j + 1 := ⟨K - 1, by omega⟩
    exact ⟨_, _, _, _, _, _, _, _, by rw [pred_part_l3, if_neg (by simp; omega), List.take_of_length_le (by omega)]⟩
  | d + 1, i, K, hi, hk => by
    obtain ⟨K, rfl⟩ : ∃ j, K = j + 1 := ⟨K - 1, by omega⟩
    obtain ⟨x, x1, x3, x2⟩ := at_ (l := l) (i := i) (by omega)
    have hx := H x x3
    obtain ⟨z1, z2, z3, z4, z5, z6, z7, z8, ih⟩ := pp3 (n := n) (k := k) (v := v) (q := q) (k2 := k2) (v2 := v2) H hl d (i + 1) K (by omega) (by omega)
    refine ⟨z1, z2, z3, z4, z5, z6, z7, z8, ?_⟩
    have et : l.take i ++ [x] = l.take (i + 1) := by rw [List.take_add_one, x1]; rfl
    have el : (l.take i).length = i := by rw [List.length_take]; omega
    rw [pred_part_l3, if_pos (by simp; omega), if_pos (by simp), Int.toNat_natCast, x1, wr1 (i := i) (L := l.length) (by omega) (by omega)]
    cases x
    simp only [hx, et]
    rw [if_pos (by rw [el]; simp; omega)]
    exact ih
theorem ppart_ev : ∀ (f : Nat), f ≤ 12 → ∀ a, PIn a → rightF f a = true → Ev fun n => (tab n).pred_part a (13 - (f : Int)) = some a
  | 0, _, a, _, h => by cases h
  | f + 1, hf, .mk k v p, .mk hv hp av ap, h => by
    obtain ⟨_, c2, c3⟩ := rightF_mk h
    have ed : IntKind.wrap .i64 ((13 - ((f + 1 : Nat) : Int)) + 1) = 13 - (f : Int) := by
      rw [wr (by omega) (by omega)]
      omega
    have hd : ¬ (13 - ((f + 1 : Nat) : Int)) > 12 := by omega
    generalize (13 - ((f + 1 : Nat) : Int)) = dp at ed hd ⊢
    refine Ev.step ((((Ev.all v fun x hx => valCopy_ev (av x hx) (c2 x hx)).and (Ev.all p fun x hx => ppart_ev f (by omega) x (ap x hx) (c3 x hx))).and (Ev.ge (v.length + p.length + 1))).mono fun n hh => ?_)
    obtain ⟨⟨h1, h2⟩, h3⟩ := hh
    rw [← ed] at h2
    obtain ⟨z1, z2, z3, e1⟩ := pp1 (n := n) (dp := dp) (k := k) (p := p) (k1 := 0) (k2 := k) (v1 := []) (p1 := []) (p2 := []) h1 hv v.length 0 n (by omega) (by omega)
    obtain ⟨y1, y2, y3, y4, y5, y6, y7, y8, e2⟩ := pp3 (n := n) (k := 0) (v := []) (q := []) (k2 := k) (v2 := v) h2 hp p.length 0 n (by omega) (by omega)
    rw [show ((0 : Nat) : Int) = 0 from rfl, List.take_zero] at e1 e2
    rw [tab_pred_part, pred_part, if_neg (by simpa using hd)]
    simp only [e1, pred_part_j2, e2]
theorem predCopy_ev {a : GPred} (ha : PIn a) (h : okP a = true) : Ev fun n => (tab n).pred_Copy a = some a :=
  Ev.step ((ppart_ev 12 (by omega) a ha h).mono fun n h => by
    rw [tab_pred_Copy]
    cases a
    exact h)
def p0 : GPred := .mk 0 [] []
def join (k : Int) (l : List GPred) : GPred := if okP (.mk k [] l) then .mk k [] l else p0
theorem pinJ (k : Int) {l : List GPred} (H : ∀ x ∈ l, PIn x) (hl : l.length ≤ 2513169434844) : PIn (.mk k [] l) := .mk (by simp) hl (by simp) H
theorem join_ev {k : Int} {l : List GPred} (H : ∀ x ∈ l, PIn x) (hl : l.length ≤ 2513169434844) : Ev fun n => (tab n).pred_Join k l = some (join k l) := by
  have hp := pinJ k H hl
  have r : Ev fun n => okP (.mk k [] l) = true → (tab n).pred_Copy (.mk k [] l) = some (.mk k [] l) := by
    by_cases h : okP (.mk k [] l) = true
    · exact (predCopy_ev hp h).mono fun n h _ => h
    · exact Ev.pure fun n g => absurd g h
  refine Ev.step ((r.and (pright_ev 12 (by omega) _ hp)).mono fun n hh => ?_)
  obtain ⟨h1, h2⟩ := hh
  have h2 : (tab n).pred_right (.mk k [] l) 1 = some (okP (.mk k [] l)) := h2
  rw [tab_pred_Join]
  simp only [pred_Join, h2, join]
  cases ho : okP _
  · rfl
  · simp [h1 ho]
end Go.Proofs.Ytcgckbjdadmcmaa.W
