/- May a value be? -/
import Derived.Test.YtgkfjhfehdefaaaGreatDoorPvB
namespace Go.Proofs.YtgkfjhfehdefaaaGreatDoor.W
open Go.Proofs.YtgkfjhfehdefaaaGreatDoor.Flat
set_option linter.unusedVariables false
set_option linter.unusedSimpArgs false
theorem tl_loop (s : ByteArray) : ∀ (d i : Nat) (r : List UInt8), i + d = s.size → (ByteArray.toList.loop s i r).length = r.length + d
  | 0, i, r, h => by
    rw [ByteArray.toList.loop, if_neg (by omega)]
    simp
  | d + 1, i, r, h => by
    rw [ByteArray.toList.loop, if_pos (by omega), tl_loop s d (i + 1) _ (by omega), List.length_cons]
    omega
theorem tl_len (s : ByteArray) : s.toList.length = s.size := by
  have h := tl_loop s s.size 0 [] (by omega)
  rw [List.length_nil, Nat.zero_add] at h
  exact h
theorem tl_nil (s : ByteArray) : (s.toList == (ByteArray.mk #[]).toList) = decide (s.size = 0) := by
  have e : (ByteArray.mk #[]).toList = [] := List.eq_nil_of_length_eq_zero (tl_len _)
  rw [e, Bool.eq_iff_iff, beq_iff_eq, decide_eq_true_eq, ← tl_len, List.length_eq_zero_iff]
def flds (k n : Int) (z a b : Nat) : Bool :=
  if k = 1 then (n == 0 || n == 1) && z == 0 && a == 0 && b == 0
  else if k = 2 then z == 0 && a == 0 && b == 0
  else if k = 3 then n == 0 && decide (z ≤ 1000) && a == 0 && b == 0
  else if k = 4 ∨ k = 5 then decide (0 ≤ n) && z == 0 && a == 0 && b == 0
  else if k = 6 ∨ k = 8 then n == 0 && z == 0 && decide (a ≤ 1000) && b == 0
  else if k = 7 then n == 0 && z == 0 && decide (a ≤ 1000) && b == a
  else false
theorem flds_len {k n : Int} {z a b : Nat} (h : flds k n z a b = true) : a ≤ 1000 ∧ b ≤ 1000 := by
  unfold flds at h
  repeat' split at h
  all_goals simp at h
  all_goals omega
theorem nb0 (a : Nat) : (((a : Int)) == 0) = (a == 0) := by rw [Bool.eq_iff_iff, beq_iff_eq, beq_iff_eq]; omega
theorem nbb (a b : Nat) : (((a : Int)) == ((b : Int))) = (a == b) := by rw [Bool.eq_iff_iff, beq_iff_eq, beq_iff_eq]; omega
theorem nbn (a b : Nat) : (((a : Int)) != ((b : Int))) = (a != b) := by rw [bne, bne, nbb]
theorem nle (a : Nat) : (decide ((a : Int) ≤ 1000)) = decide (a ≤ 1000) := by rw [Bool.eq_iff_iff, decide_eq_true_eq, decide_eq_true_eq]; omega
theorem ngt (a : Nat) : (decide ((a : Int) > 1000)) = !decide (a ≤ 1000) := by rw [Bool.eq_iff_iff, Bool.not_eq_true', decide_eq_true_eq, decide_eq_false_iff_not]; omega
theorem ngz (a : Nat) : (decide ((a : Int) > 0)) = !decide (a = 0) := by rw [Bool.eq_iff_iff, Bool.not_eq_true', decide_eq_true_eq, decide_eq_false_iff_not]; omega
theorem ngs (a b : Nat) : (decide ((a : Int) + (b : Int) > 0)) = !decide (a + b = 0) := by rw [Bool.eq_iff_iff, Bool.not_eq_true', decide_eq_true_eq, decide_eq_false_iff_not]; omega
def dv : GValue := .mk 0 0 ⟨#[]⟩ [] []
def okL (k : Int) (P : GValue → Bool) (l : List GValue) (j : Nat) : Bool := P (l.getD j dv) && (k != 7 || j == 0 || cmp (l.getD (j - 1) dv) (l.getD j dv) == -1)
def plainF : Nat → GValue → Bool
  | 0, _ => false
  | f + 1, .mk k n s l m => flds k n s.size l.length m.length && allN (okL k (plainF f) l) l.length 0 && m.all (plainF f)
theorem getD_ {l : List GValue} {i : Nat} {x : GValue} (h : l[i]? = some x) : l.getD i dv = x := by rw [List.getD_eq_getElem?_getD, h]; rfl
def okC (k : Int) (P : GValue → Bool) (l m : List GValue) (j : Nat) : Bool := P ((l ++ m).getD j dv) && (k != 7 || j == 0 || decide (l.length ≤ j) || decide (cmp (l.getD (j - 1) dv) ((l ++ m).getD j dv) < 0))
theorem okC_all (k : Int) (P : GValue → Bool) (l m : List GValue) : allN (okC k P l m) (l ++ m).length 0 = (allN (okL k P l) l.length 0 && m.all P) := by
  rw [Bool.eq_iff_iff, Bool.and_eq_true, allN_iff, allN_iff, List.all_eq_true]
  have hlen : (l ++ m).length = l.length + m.length := List.length_append
  constructor
  · intro h
    constructor
    · intro j _ hj
      have := h j (by omega) (by omega)
      unfold okC at this
      unfold okL
      have e : (l ++ m).getD j dv = l.getD j dv := by rw [List.getD_eq_getElem?_getD, List.getD_eq_getElem?_getD, List.getElem?_append_left (by omega)]
      rw [e] at this
      have hs := cmpV_sg 12 (l.getD (j - 1) dv) (l.getD j dv)
      unfold Sg at hs
      simp only [Bool.and_eq_true, Bool.or_eq_true, bne_iff_ne, beq_iff_eq, decide_eq_true_eq, cmp] at this ⊢
      refine ⟨this.1, ?_⟩
      rcases this.2 with ((h1 | h1) | h1) | h1
      · exact .inl (.inl h1)
      · exact .inl (.inr h1)
      · omega
      · have h1 := of_decide_eq_true h1
        exact .inr (by omega)
    · intro x hx
      obtain ⟨j, hj, rfl⟩ := List.getElem_of_mem hx
      have := h (l.length + j) (by omega) (by omega)
      unfold okC at this
      have e : (l ++ m).getD (l.length + j) dv = m[j] := by rw [List.getD_eq_getElem?_getD, List.getElem?_append_right (by omega), Nat.add_sub_cancel_left]; simp [hj]
      rw [e, Bool.and_eq_true] at this
      exact this.1
  · intro ⟨h1, h2⟩ j _ hj
    unfold okC
    by_cases hjl : j < l.length
    · have := h1 j (by omega) (by omega)
      unfold okL at this
      have e : (l ++ m).getD j dv = l.getD j dv := by rw [List.getD_eq_getElem?_getD, List.getD_eq_getElem?_getD, List.getElem?_append_left (by omega)]
      rw [e]
      simp only [Bool.and_eq_true, Bool.or_eq_true, bne_iff_ne, beq_iff_eq, decide_eq_true_eq, cmp] at this ⊢
      refine ⟨this.1, ?_⟩
      rcases this.2 with (h1 | h1) | h1
      · exact .inl (.inl (.inl h1))
      · exact .inl (.inl (.inr h1))
      · exact .inr (decide_eq_true (by omega))
    · have e : (l ++ m).getD j dv = m[j - l.length]'(by omega) := by rw [List.getD_eq_getElem?_getD, List.getElem?_append_right (by omega)]; simp [show j - l.length < m.length by omega]
      rw [e, h2 _ (by simp)]
      simp
      omega
def c1 (row text : Bool) (k n : Int) (z a b : Nat) : Bool := (text || z == 0) && decide (z ≤ 1000) && (!(text || row) || n == 0) && (row || (a == 0 && b == 0)) && decide (a ≤ 1000) && (if k = 7 then b == a else b == 0)
theorem c1_1 (n : Int) (z a b : Nat) (h : n = 0 ∨ n = 1) : c1 false false 1 n z a b = flds 1 n z a b := by
  rw [Bool.eq_iff_iff]
  simp [c1, flds]
  omega
theorem c1_2 (n : Int) (z a b : Nat) : c1 false false 2 n z a b = flds 2 n z a b := by
  rw [Bool.eq_iff_iff]
  simp [c1, flds]
  omega
theorem c1_3 (n : Int) (z a b : Nat) : c1 false true 3 n z a b = flds 3 n z a b := by
  rw [Bool.eq_iff_iff]
  simp [c1, flds]
  omega
theorem c1_4 (k n : Int) (z a b : Nat) (h : k = 4 ∨ k = 5) (g : 0 ≤ n) : c1 false false k n z a b = flds k n z a b := by
  rw [Bool.eq_iff_iff]
  rcases h with rfl | rfl <;> simp [c1, flds] <;> omega
theorem c1_6 (k n : Int) (z a b : Nat) (h : k = 6 ∨ k = 8 ∨ k = 7) : c1 true false k n z a b = flds k n z a b := by
  rw [Bool.eq_iff_iff]
  rcases h with rfl | rfl | rfl <;> simp [c1, flds] <;> omega
def okV (a : GValue) : Bool := plainF 12 a
end Go.Proofs.YtgkfjhfehdefaaaGreatDoor.W
