/- The reference's Uses. -/
import Derived.Test.YtgkfjhfehdefaaaGreatDoorPlC
import Derived.Test.YtgkfjhfehdefaaaGreatDoorPlQ
namespace Go.Proofs.YtgkfjhfehdefaaaGreatDoor.W
open Go.Proofs.YtgkfjhfehdefaaaGreatDoor.Flat
set_option linter.unusedVariables false
set_option linter.unusedSimpArgs false
/-- The reference's. -/
theorem refu_l2 {t : Tab} {n : Nat} {a : List GStep} {ops : List Int} {i : Nat} {x : GStep} (hx : a[i]? = some x) (hl : ops.length ≤ 4194304) : ∀ (d j K : Nat), j + d = ops.length → d < K → ((ops.drop j).any (fun y => opOf x == y) = true ∧ ref12_Uses_l2 t n K a ops (i : Int) (j : Int) = some (.inl true)) ∨ ((ops.drop j).any (fun y => opOf x == y) = false ∧ ∃ z, ref12_Uses_l2 t n K a ops (i : Int) (j : Int) = some (.inr (a, ops, (i : Int), z)))
  | 0, j, K, hi, hk => by
    obtain ⟨K, rfl⟩ : ∃ j, K = j + 1 := ⟨K - 1, by omega⟩
    exact .inr ⟨by rw [List.drop_of_length_le (by omega)]; rfl, _, by rw [ref12_Uses_l2, if_neg (by simp; omega)]⟩
  | d + 1, j, K, hi, hk => by
    obtain ⟨K, rfl⟩ : ∃ j, K = j + 1 := ⟨K - 1, by omega⟩
    obtain ⟨y, y1, y3, y2⟩ := at_ (l := ops) (i := j) (by omega)
    have ih := refu_l2 (t := t) (n := n) hx hl d (j + 1) K (by omega) (by omega)
    rw [ref12_Uses_l2, if_pos (by simp; omega), if_pos (by simp), Int.toNat_natCast, hx]
    obtain ⟨op, S, N, ⟨v1, v2, v3, v4, v5⟩, ⟨p1, p2, p3⟩, Ts, By, As⟩ := x
    dsimp only
    rw [if_pos (by simp), Int.toNat_natCast, y1, y2, wr1 (i := j) (L := ops.length) (by omega) (by omega), List.any_cons]
    dsimp only [opOf] at ih ⊢
    by_cases hq : (op == y) = true
    · rw [if_pos hq, hq, Bool.true_or]
      exact .inl ⟨rfl, rfl⟩
    · have hq' : (op == y) = false := by simpa using hq
      rw [if_neg hq, hq', Bool.false_or]
      exact ih
theorem refu_l4 {t : Tab} {n : Nat} {a : List GStep} {ops : List Int} {i : Int} {ts : List (List GStep)} {g : List GStep → Bool} (H : ∀ x ∈ ts, t.ref12_Uses x ops = some (g x)) (hl : ts.length ≤ 4194304) : ∀ (d j K : Nat), j + d = ts.length → d < K → ((ts.drop j).any g = true ∧ ref12_Uses_l4 t n K a ops i ts (j : Int) = some (.inl true)) ∨ ((ts.drop j).any g = false ∧ ∃ z, ref12_Uses_l4 t n K a ops i ts (j : Int) = some (.inr (a, ops, i, z)))
  | 0, j, K, hi, hk => by
    obtain ⟨K, rfl⟩ : ∃ j, K = j + 1 := ⟨K - 1, by omega⟩
    exact .inr ⟨by rw [List.drop_of_length_le (by omega)]; rfl, _, by rw [ref12_Uses_l4, if_neg (by simp; omega)]⟩
  | d + 1, j, K, hi, hk => by
    obtain ⟨K, rfl⟩ : ∃ j, K = j + 1 := ⟨K - 1, by omega⟩
    obtain ⟨y, y1, y3, y2⟩ := at_ (l := ts) (i := j) (by omega)
    have ih := refu_l4 (n := n) (a := a) (i := i) H hl d (j + 1) K (by omega) (by omega)
    have hy := H y y3
    rw [ref12_Uses_l4, if_pos (by simp; omega), if_pos (by simp), Int.toNat_natCast, y1, y2, wr1 (i := j) (L := ts.length) (by omega) (by omega), List.any_cons]
    simp only [hy]
    cases hg : g y with
    | true => rw [if_pos rfl, Bool.true_or]; exact .inl ⟨rfl, rfl⟩
    | false => rw [if_neg (by simp), Bool.false_or]; exact ih
theorem refu_l1 {t : Tab} {n : Nat} {a : List GStep} {ops : List Int} {g : List GStep → Bool} (hI : ∀ x ∈ a, t.ref12_Inner x = some (inn x) ∧ (inn x).length ≤ 4194304 ∧ (inn x).length < n ∧ ∀ y ∈ inn x, t.ref12_Uses y ops = some (g y)) (ho : ops.length ≤ 4194304) (hon : ops.length < n) (hl : a.length ≤ 4194304) : ∀ (d i K : Nat), i + d = a.length → d < K → ((a.drop i).any (fun x => usesQ ops x || (inn x).any g) = true ∧ ref12_Uses_l1 t n K a ops (i : Int) = some (.inl true)) ∨ ((a.drop i).any (fun x => usesQ ops x || (inn x).any g) = false ∧ ∃ z, ref12_Uses_l1 t n K a ops (i : Int) = some (.inr z))
  | 0, i, K, hi, hk => by
    obtain ⟨K, rfl⟩ : ∃ j, K = j + 1 := ⟨K - 1, by omega⟩
    exact .inr ⟨by rw [List.drop_of_length_le (by omega)]; rfl, _, by rw [ref12_Uses_l1, if_neg (by simp; omega)]⟩
  | d + 1, i, K, hi, hk => by
    obtain ⟨K, rfl⟩ : ∃ j, K = j + 1 := ⟨K - 1, by omega⟩
    obtain ⟨x, x1, x3, x2⟩ := at_ (l := a) (i := i) (by omega)
    have ih := refu_l1 (n := n) hI ho hon hl d (i + 1) K (by omega) (by omega)
    obtain ⟨q1, q2, q3, q4⟩ := hI x x3
    rw [ref12_Uses_l1, if_pos (by simp; omega), x2, List.any_cons]
    rcases refu_l2 (t := t) (n := n) x1 ho ops.length 0 n (by omega) hon with ⟨h1, h2⟩ | ⟨h1, z, h2⟩
    · rw [show ((0 : Nat) : Int) = 0 from rfl] at h2
      rw [List.drop_zero] at h1
      have e : usesQ ops x = true := h1
      simp only [h2, e, Bool.true_or]
      exact .inl (by simp)
    · rw [show ((0 : Nat) : Int) = 0 from rfl] at h2
      rw [List.drop_zero] at h1
      have e : usesQ ops x = false := h1
      obtain ⟨z1, z2⟩ := z
      simp only [h2, e, Bool.false_or]
      rw [ref12_Uses_j3, if_pos (by simp), Int.toNat_natCast, x1]
      have hw := wr1 (i := i) (L := a.length) (by omega) (by omega)
      rcases refu_l4 (t := t) (n := n) (a := a) (ops := ops) (i := (i : Int)) q4 q2 (inn x).length 0 n (by omega) q3 with ⟨k1, k2⟩ | ⟨k1, zz, k2⟩
      · rw [show ((0 : Nat) : Int) = 0 from rfl] at k2
        rw [List.drop_zero] at k1
        rw [k1, Bool.true_or]
        clear ih h1 h2 x1 x2 x3 hI e q4
        obtain ⟨op, S, N, ⟨v1, v2, v3, v4, v5⟩, ⟨p1, p2, p3⟩, Ts, By, As⟩ := x
        simp only [q1, k2]
        exact .inl (by simp)
      · rw [show ((0 : Nat) : Int) = 0 from rfl] at k2
        rw [List.drop_zero] at k1
        rw [k1, Bool.false_or]
        clear h1 h2 x1 x2 x3 hI e q4
        obtain ⟨op, S, N, ⟨v1, v2, v3, v4, v5⟩, ⟨p1, p2, p3⟩, Ts, By, As⟩ := x
        obtain ⟨zz1, zz2, zz3⟩ := zz
        simp only [q1, k2, hw]
        exact ih
theorem refUses_ev {ops : List Int} (ho : ops.length ≤ 4194304) : ∀ (k : Nat) (l : List GStep), wL l ≤ k → k ≤ 2097152 → Ev fun n => (tab n).ref12_Uses l ops = some (someF (usesQ ops) (k + 1) l) := by
  intro k
  induction k with
  | zero =>
    intro l h _
    have := wL_len l
    have : l = [] := List.eq_nil_of_length_eq_zero (by omega)
    subst this
    refine Ev.step ((Ev.ge 1).mono fun n hn => ?_)
    rw [tab_ref12_Uses]
    obtain ⟨n, rfl⟩ : ∃ j, n = j + 1 := ⟨n - 1, by omega⟩
    simp [ref12_Uses, ref12_Uses_l1, someF]
  | succ k ih =>
    intro l h hk
    have hin := lin_wt (l := l) (by omega)
    have hlen := wL_len l
    have H : Ev fun n => ∀ x ∈ l, (tab n).ref12_Inner x = some (inn x) ∧ (inn x).length ≤ 4194304 ∧ (inn x).length < n ∧ ∀ y ∈ inn x, (tab n).ref12_Uses y ops = some (someF (usesQ ops) (k + 1) y) :=
      Ev.all l fun x hx => by
        have hx1 := wL_mem hx
        have hs := hin x hx
        have e2 : Ev fun n => ∀ y ∈ inn x, (tab n).ref12_Uses y ops = some (someF (usesQ ops) (k + 1) y) := Ev.all _ fun t ht => ih t (by have := inn_wt ht; omega) (by omega)
        exact ((refInner_ev hs).and (e2.and (Ev.ge ((inn x).length + 1)))).mono fun n hn => ⟨hn.1, hs.inn_len, by omega, hn.2.1⟩
    refine Ev.step ((H.and (Ev.ge (l.length + ops.length + 1))).mono fun n hh => ?_)
    rw [tab_ref12_Uses, someF]
    rcases refu_l1 (n := n) hh.1 ho (by omega) (by omega) l.length 0 n (by omega) (by omega) with ⟨h1, h2⟩ | ⟨h1, z, h2⟩
    · rw [show ((0 : Nat) : Int) = 0 from rfl] at h2
      rw [List.drop_zero] at h1
      simp only [ref12_Uses, h2, h1]
    · rw [show ((0 : Nat) : Int) = 0 from rfl] at h2
      rw [List.drop_zero] at h1
      simp only [ref12_Uses, h2, h1]
end Go.Proofs.YtgkfjhfehdefaaaGreatDoor.W
