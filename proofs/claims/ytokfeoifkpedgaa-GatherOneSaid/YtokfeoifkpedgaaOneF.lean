/- Lists of bulks. -/
import Derived.Test.YtokfeoifkpedgaaOneE
namespace Go.Proofs.Ytokfeoifkpedgaa.W
open Go.Proofs.Ytokfeoifkpedgaa.Flat
set_option linter.unusedVariables false
set_option linter.unusedSimpArgs false
def exV (g : GValue → GValue) : List GMany → List GValue
  | [] => []
  | x :: xs => List.replicate (nOf x).toNat (g (vOf x)) ++ exV g xs
theorem exV_len {g : GValue → GValue} : ∀ {l : List GMany}, bad l = false → ((exV g l).length : Int) = sumN l
  | [], _ => rfl
  | x :: xs, h => by
    rw [bad_cons, Bool.or_eq_false_iff, decide_eq_false_iff_not] at h
    have := exV_len (g := g) h.2
    rw [exV, List.length_append, List.length_replicate, sumN]
    omega
theorem exV_map (g : GValue → GValue) : ∀ l : List GMany, exV g l = (exV id l).map g
  | [] => rfl
  | x :: xs => by rw [exV, exV, List.map_append, exV_map g xs, List.map_replicate]; rfl
theorem exV_in {P : GValue → Prop} {g : GValue → GValue} : ∀ {l : List GMany}, (∀ x ∈ l, P (g (vOf x))) → ∀ x ∈ exV g l, P x
  | [], _, x, hx => by cases hx
  | y :: ys, h, x, hx => by
    rw [exV, List.mem_append] at hx
    rcases hx with hx | hx
    · rw [(List.mem_replicate.1 hx).2]
      exact h y (List.mem_cons_self ..)
    · exact exV_in (fun z hz => h z (List.mem_cons_of_mem _ hz)) x hx
theorem cpF_cmp2 : ∀ (f g : Nat), f ≤ g → ∀ a b : GValue, cmpV f (cpF g a) b = cmpV f a b
  | 0, 0, _, .mk .., .mk .. => rfl
  | 0, g + 1, _, .mk .., .mk .. => rfl
  | f + 1, 0, h, _, _ => by omega
  | f + 1, g + 1, h, .mk k n s l m, .mk k' n' s' l' m' => by
    rw [cpF, cmpV, cmpV, cmpL_map (cpF_cmp2 f g (by omega)), cmpL_map (cpF_cmp2 f g (by omega))]
    rfl
theorem cmpV_self (f : Nat) (a : GValue) : cmpV f a a = 0 := by
  have := cmpV_neg f a a
  omega
theorem cmpL_zero {f : GValue → GValue → Int} {g : GValue → GValue} : ∀ {l : List GValue}, (∀ x ∈ l, f (g x) x = 0) → cmpL f (l.map g) l = 0
  | [], _ => rfl
  | x :: xs, h => by
    rw [List.map_cons, cmpL, h x (List.mem_cons_self ..), cmpL_zero fun y hy => h y (List.mem_cons_of_mem _ hy)]
    rfl
theorem fold_same (l : List GMany) : cmp (.mk 6 0 ByteArray.empty (exV cp l) []) (.mk 6 0 ByteArray.empty (exV id l) []) = 0 := by
  have e1 : hd3 (.mk 6 0 ByteArray.empty (exV cp l) []) (.mk 6 0 ByteArray.empty (exV id l) []) = 0 := by
    have h := hd3_neg (.mk 6 0 ByteArray.empty [] []) (.mk 6 0 ByteArray.empty [] [])
    have h2 : hd3 (.mk 6 0 ByteArray.empty [] []) (.mk 6 0 ByteArray.empty [] []) = 0 := by omega
    exact h2
  unfold cmp
  rw [cmpV, e1, exV_map cp, cmpL_zero (g := cp) fun x _ => (cpF_cmp2 11 12 (by omega) x x).trans (cmpV_self 11 x)]
  rfl
theorem gf_l3 {t : Tab} {n : Nat} {l : List GMany} {ln i N : Int} {c1 c2 : Int} {c3 : ByteArray} {c4 c5 : List GValue} {k nn : Int} {s : ByteArray} {M : List GValue} {v1 v2 : Int} {v3 : ByteArray} {v4 v5 : List GValue} {N2 : Int} {w : GValue} (H : t.value_Copy (.mk v1 v2 v3 v4 v5) = some w) (hN : N ≤ 100000) : ∀ (d j K : Nat) (L : List GValue), (j : Int) + d = N → d < K → L.length + d ≤ 1000000 → ∃ z1 z2, gather_Fold_l3 t n K l ln i N (j : Int) c1 c2 c3 c4 c5 k nn s L M v1 v2 v3 v4 v5 N2 = some (l, ln, i, N, z1, z2, c1, c2, c3, c4, c5, k, nn, s, L ++ List.replicate d w, M, v1, v2, v3, v4, v5, N2)
  | 0, j, K, L, hj, hk, hL => by
    obtain ⟨K, rfl⟩ : ∃ j, K = j + 1 := ⟨K - 1, by omega⟩
    exact ⟨_, _, by rw [gather_Fold_l3, if_neg (by simp only [decide_eq_true_eq]; omega), List.replicate_zero, List.append_nil]⟩
  | d + 1, j, K, L, hj, hk, hL => by
    obtain ⟨K, rfl⟩ : ∃ j, K = j + 1 := ⟨K - 1, by omega⟩
    obtain ⟨z1, z2, ih⟩ := gf_l3 (n := n) (l := l) (ln := ln) (i := i) (c1 := c1) (c2 := c2) (c3 := c3) (c4 := c4) (c5 := c5) (k := k) (nn := nn) (s := s) (M := M) (N2 := N2) H hN d (j + 1) K (L ++ [w]) (by omega) (by omega) (by simp; omega)
    refine ⟨z1, z2, ?_⟩
    rw [gather_Fold_l3, if_pos (by simp only [decide_eq_true_eq]; omega), H]
    obtain ⟨w1, w2, w3, w4, w5⟩ := w
    dsimp only
    rw [if_pos (by simp; omega), wr1 (i := j) (L := 1000000) (by omega) (by omega), ih, List.append_assoc, List.replicate_succ]
    rfl
theorem gf_l2 {t : Tab} {n : Nat} {l : List GMany} {c1 c2 : Int} {c3 : ByteArray} {c4 c5 : List GValue} {k nn : Int} {s : ByteArray} {M : List GValue} (H : ∀ x ∈ l, t.value_Copy (vOf x) = some (cp (vOf x))) (hl : l.length ≤ 140737488355328) (hb : bad l = false) (hs : sumN l ≤ 1000) (hn : 1002 ≤ n) : ∀ (d i K : Nat) (L : List GValue), i + d = l.length → d < K → (L.length : Int) + sumN (l.drop i) ≤ 1000 → ∃ z1 z2, gather_Fold_l2 t n K l (l.length : Int) (i : Int) c1 c2 c3 c4 c5 k nn s L M = some (l, (l.length : Int), z1, z2, c1, c2, c3, c4, c5, k, nn, s, L ++ exV cp (l.drop i), M)
  | 0, i, K, L, hi, hk, hL => by
    obtain ⟨K, rfl⟩ : ∃ j, K = j + 1 := ⟨K - 1, by omega⟩
    exact ⟨_, _, by rw [gather_Fold_l2, if_neg (by simp only [decide_eq_true_eq]; omega), List.drop_of_length_le (by omega), exV, List.append_nil]⟩
  | d + 1, i, K, L, hi, hk, hL => by
    obtain ⟨K, rfl⟩ : ∃ j, K = j + 1 := ⟨K - 1, by omega⟩
    obtain ⟨x, x1, x3, x2⟩ := at_ (l := l) (i := i) (by omega)
    have hx := H x x3
    have hp := nOf_pos hb x3
    have sd := sumN_nonneg (bad_drop hb (i + 1))
    rw [x2, sumN] at hL
    obtain ⟨z1, z2, ih⟩ := gf_l2 (n := n) (c1 := c1) (c2 := c2) (c3 := c3) (c4 := c4) (c5 := c5) (k := k) (nn := nn) (s := s) (M := M) H hl hb hs hn d (i + 1) K (L ++ List.replicate (nOf x).toNat (cp (vOf x))) (by omega) (by omega) (by rw [List.length_append, List.length_replicate]; omega)
    refine ⟨z1, z2, ?_⟩
    have ei : IntKind.wrap .i64 ((i : Int) + 1) = ((i + 1 : Nat) : Int) := wr1 (i := i) (L := l.length) (by omega) hl
    rw [gather_Fold_l2, if_pos (by simp only [decide_eq_true_eq]; omega), if_pos (by simp), Int.toNat_natCast, x1, x2, exV]
    obtain ⟨⟨v1, v2, v3, v4, v5⟩, q⟩ := x
    simp only [vOf, nOf] at hx hp hL ih ⊢
    obtain ⟨y1, y2, g⟩ := gf_l3 (t := t) (n := n) (l := l) (ln := (l.length : Int)) (i := (i : Int)) (N := q) (c1 := c1) (c2 := c2) (c3 := c3) (c4 := c4) (c5 := c5) (k := k) (nn := nn) (s := s) (M := M) (N2 := q) hx (by omega) q.toNat 0 n L (by omega) (by omega) (by omega)
    rw [show ((0 : Nat) : Int) = 0 from rfl] at g
    simp only [g]
    rw [ei, ih, List.append_assoc]
theorem rf_l2 {t : Tab} {n : Nat} {l : List GMany} {i : Nat} {c1 c2 : Int} {c3 : ByteArray} {c4 c5 : List GValue} {k nn : Int} {s : ByteArray} {M : List GValue} {x : GMany} (hx : l[i]? = some x) (hN : nOf x ≤ 100000) : ∀ (d j K : Nat) (L : List GValue), (j : Int) + d = nOf x → d < K → L.length + d ≤ 1000000 → ∃ z1 z2, ref16_Fold_l2 t n K l (i : Int) (j : Int) c1 c2 c3 c4 c5 k nn s L M = some (l, (i : Int), z1, z2, c1, c2, c3, c4, c5, k, nn, s, L ++ List.replicate d (vOf x), M)
  | 0, j, K, L, hj, hk, hL => by
    obtain ⟨K, rfl⟩ : ∃ j, K = j + 1 := ⟨K - 1, by omega⟩
    rw [ref16_Fold_l2, if_pos (by simp), Int.toNat_natCast, hx]
    obtain ⟨⟨v1, v2, v3, v4, v5⟩, q⟩ := x
    simp only [nOf] at hj
    dsimp only
    rw [if_neg (by simp only [decide_eq_true_eq]; omega), List.replicate_zero, List.append_nil]
    exact ⟨_, _, rfl⟩
  | d + 1, j, K, L, hj, hk, hL => by
    obtain ⟨K, rfl⟩ : ∃ j, K = j + 1 := ⟨K - 1, by omega⟩
    obtain ⟨z1, z2, ih⟩ := rf_l2 (t := t) (n := n) (c1 := c1) (c2 := c2) (c3 := c3) (c4 := c4) (c5 := c5) (k := k) (nn := nn) (s := s) (M := M) hx hN d (j + 1) K (L ++ [vOf x]) (by omega) (by omega) (by simp; omega)
    refine ⟨z1, z2, ?_⟩
    rw [ref16_Fold_l2, if_pos (by simp), Int.toNat_natCast, hx]
    obtain ⟨⟨v1, v2, v3, v4, v5⟩, q⟩ := x
    simp only [nOf, vOf] at hj ih hN ⊢
    rw [if_pos (by simp only [decide_eq_true_eq]; omega), if_pos (by simp; omega), wr1 (i := j) (L := 1000000) (by omega) (by omega), ih, List.append_assoc, List.replicate_succ]
    rfl
theorem rf_l1 {t : Tab} {n : Nat} {l : List GMany} {c1 c2 : Int} {c3 : ByteArray} {c4 c5 : List GValue} {k nn : Int} {s : ByteArray} {M : List GValue} (hl : l.length ≤ 140737488355328) (hb : bad l = false) (hs : sumN l ≤ 1000) (hn : 1002 ≤ n) : ∀ (d i K : Nat) (L : List GValue), i + d = l.length → d < K → (L.length : Int) + sumN (l.drop i) ≤ 1000 → ∃ z1 z2, ref16_Fold_l1 t n K l (i : Int) c1 c2 c3 c4 c5 k nn s L M = some (l, z1, z2, c1, c2, c3, c4, c5, k, nn, s, L ++ exV id (l.drop i), M)
  | 0, i, K, L, hi, hk, hL => by
    obtain ⟨K, rfl⟩ : ∃ j, K = j + 1 := ⟨K - 1, by omega⟩
    exact ⟨_, _, by rw [ref16_Fold_l1, if_neg (by simp only [decide_eq_true_eq]; omega), List.drop_of_length_le (by omega), exV, List.append_nil]⟩
  | d + 1, i, K, L, hi, hk, hL => by
    obtain ⟨K, rfl⟩ : ∃ j, K = j + 1 := ⟨K - 1, by omega⟩
    obtain ⟨x, x1, x3, x2⟩ := at_ (l := l) (i := i) (by omega)
    have hp := nOf_pos hb x3
    have sd := sumN_nonneg (bad_drop hb (i + 1))
    rw [x2, sumN] at hL
    obtain ⟨z1, z2, ih⟩ := rf_l1 (t := t) (n := n) (c1 := c1) (c2 := c2) (c3 := c3) (c4 := c4) (c5 := c5) (k := k) (nn := nn) (s := s) (M := M) hl hb hs hn d (i + 1) K (L ++ List.replicate (nOf x).toNat (vOf x)) (by omega) (by omega) (by rw [List.length_append, List.length_replicate]; omega)
    refine ⟨z1, z2, ?_⟩
    have ei : IntKind.wrap .i64 ((i : Int) + 1) = ((i + 1 : Nat) : Int) := wr1 (i := i) (L := l.length) (by omega) hl
    obtain ⟨y1, y2, g⟩ := rf_l2 (t := t) (n := n) (c1 := c1) (c2 := c2) (c3 := c3) (c4 := c4) (c5 := c5) (k := k) (nn := nn) (s := s) (M := M) x1 (by omega) (nOf x).toNat 0 n L (by omega) (by omega) (by omega)
    rw [show ((0 : Nat) : Int) = 0 from rfl] at g
    rw [ref16_Fold_l1, if_pos (by simp only [decide_eq_true_eq]; omega), g, x2, exV]
    dsimp only
    rw [ei, ih, List.append_assoc]
    rfl
def foldS (g : GValue → GValue) (l : List GMany) : GValue × Int := if (sizeS l).2 = 0 then (if sumN l > 1000 then (zvv, 3) else (.mk 6 0 ByteArray.empty (exV g l) [], 0)) else (zvv, (sizeS l).2)
theorem fold_ev {l : List GMany} (h : In2 l) (hv : ∀ x ∈ l, VIn (vOf x)) : Ev fun n => (tab n).gather_Fold l = some (foldS cp l) := by
  have h64 : N64 l := ⟨by have := h.1; omega, fun x hx => (h.2 x hx).2.2⟩
  have hc := Ev.all (p := fun x n => (tab n).value_Copy (vOf x) = some (cp (vOf x))) l fun x hx => copy_ev (hv x hx)
  refine Ev.step ((((gsize_ev h64 h.1).and hc).and (Ev.ge (l.length + 1002))).mono fun n hh => ?_)
  obtain ⟨⟨g1, g2⟩, g3⟩ := hh
  rw [tab_gather_Fold, gather_Fold, g1]
  dsimp only
  unfold foldS
  by_cases hz : (sizeS l).2 = 0
  · obtain ⟨hb, hs, e⟩ := sizeOK hz
    rw [if_pos (by simpa using hz), if_pos hz, e]
    dsimp only
    by_cases h1 : sumN l > 1000
    · rw [if_pos (by simpa using h1), if_pos h1, gather_Fold_j1, if_pos (by rfl)]
      rfl
    · obtain ⟨z1, z2, g⟩ := gf_l2 (t := tab n) (n := n) (c1 := 0) (c2 := 0) (c3 := ByteArray.empty) (c4 := []) (c5 := []) (k := 6) (nn := 0) (s := ByteArray.empty) (M := []) g2 (by have := h.1; omega) hb (by omega) (by omega) l.length 0 n [] (by omega) (by omega) (by rw [List.drop_zero]; simp; omega)
      rw [show ((0 : Nat) : Int) = 0 from rfl, List.drop_zero, List.nil_append] at g
      rw [if_neg (by simpa using h1), if_neg h1, gather_Fold_j1, if_neg (by simp), g]
  · rw [if_neg (by simpa using hz), if_neg hz, gather_Fold_j1, if_pos (by simpa using hz)]
    rfl
theorem rfold_ev {l : List GMany} (h : In2 l) : Ev fun n => (tab n).ref16_Fold l = some (foldS id l) := by
  have h64 : N64 l := ⟨by have := h.1; omega, fun x hx => (h.2 x hx).2.2⟩
  refine Ev.step (((size16_ev h64).and (Ev.ge (l.length + 1002))).mono fun n hh => ?_)
  obtain ⟨g1, g3⟩ := hh
  rw [tab_ref16_Fold, ref16_Fold, g1]
  dsimp only
  unfold foldS
  by_cases hz : (sizeS l).2 = 0
  · obtain ⟨hb, hs, e⟩ := sizeOK hz
    rw [if_neg (by simpa using hz), if_pos hz, e]
    dsimp only
    by_cases h1 : sumN l > 1000
    · rw [if_pos (by simpa using h1), if_pos h1]
      rfl
    · obtain ⟨z1, z2, g⟩ := rf_l1 (t := tab n) (n := n) (c1 := 0) (c2 := 0) (c3 := ByteArray.empty) (c4 := []) (c5 := []) (k := 6) (nn := 0) (s := ByteArray.empty) (M := []) (by have := h.1; omega) hb (by omega) (by omega) l.length 0 n [] (by omega) (by omega) (by rw [List.drop_zero]; simp; omega)
      rw [show ((0 : Nat) : Int) = 0 from rfl, List.drop_zero, List.nil_append] at g
      rw [if_neg (by simpa using h1), if_neg h1, g]
  · rw [if_pos (by simpa using hz), if_neg hz]
    rfl
end Go.Proofs.Ytokfeoifkpedgaa.W
