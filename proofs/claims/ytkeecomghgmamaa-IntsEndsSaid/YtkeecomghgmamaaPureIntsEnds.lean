/- The statement IntsEnds: the least of some numbers is one of them and none is less, so with the greatest, and of none there is none; for every list of numbers of 64 bits. -/
import Derived.Test.YtkeecomghgmamaaBaseIntsEnds
namespace Go.Proofs.Ytkeecomghgmamaa.Pure
open Go.RowKit Go.Proofs.Ytkeecomghgmamaa.PIntsEnds Go.Proofs.YtkeecomghgmamaaW.PrintWords Go.Proofs.YtkeecomghgmamaaW.PrintLast
/-- What is told of the least of the first i. -/
def IsLeast (l : List Int) (i : Nat) (a : Int) : Prop := (i = 0 → a = 0) ∧ (0 < i → a ∈ l.take i ∧ ∀ x ∈ l.take i, a ≤ x)
def IsGreatest (l : List Int) (i : Nat) (a : Int) : Prop := (i = 0 → a = 0) ∧ (0 < i → a ∈ l.take i ∧ ∀ x ∈ l.take i, x ≤ a)
theorem take_next (l : List Int) (i : Nat) (h : i < l.length) : l.take (i + 1) = l.take i ++ [l[i]] := List.take_succ_eq_append_getElem h
theorem least_l0 (l : List Int) (hl : l.length ≤ 1000) (d : Nat) : ∀ (k i : Nat) (a : Int), IsLeast l i a → l.length - i = d → i ≤ l.length → d < k →
    ∃ r, ints_Least.l0 k l a l (l.length : Int) (i : Int) = some (r, decide ((l.length : Int) > 0)) ∧ IsLeast l l.length r := by
  induction d with
  | zero =>
    intro k i a ha hd hi hk
    obtain ⟨k, rfl⟩ : ∃ m, k = m + 1 := ⟨k - 1, by omega⟩
    obtain rfl : i = l.length := by omega
    refine ⟨a, ?_, ha⟩
    simp only [ints_Least.l0]
    rw [if_neg (by omega)]
  | succ d ih =>
    intro k i a ha hd hi hk
    obtain ⟨k, rfl⟩ : ∃ m, k = m + 1 := ⟨k - 1, by omega⟩
    have hlt : i < l.length := by omega
    have ht := take_next l i hlt
    simp only [ints_Least.l0]
    rw [if_pos (by omega), if_pos (by omega), if_pos (by omega), rd_nat l i hlt, wrap_next hlt (by omega)]
    by_cases h0 : (i : Int) = 0
    · rw [if_pos h0]
      obtain rfl : i = 0 := by omega
      refine ih k 1 _ ⟨fun h => by omega, fun _ => ?_⟩ (by omega) (by omega) (by omega)
      rw [ht]; simp
    · rw [if_neg h0]
      have hb := ha.2 (by omega)
      by_cases h1 : l[i] < a
      · rw [if_pos h1]
        refine ih k (i + 1) _ ⟨fun h => by omega, fun _ => ?_⟩ (by omega) (by omega) (by omega)
        rw [ht]
        refine ⟨List.mem_append_right _ (List.mem_singleton.mpr rfl), fun x hx => ?_⟩
        rcases List.mem_append.mp hx with h | h
        · have := hb.2 x h; omega
        · rw [List.mem_singleton.mp h]; omega
      · rw [if_neg h1]
        refine ih k (i + 1) _ ⟨fun h => by omega, fun _ => ?_⟩ (by omega) (by omega) (by omega)
        rw [ht]
        refine ⟨List.mem_append_left _ hb.1, fun x hx => ?_⟩
        rcases List.mem_append.mp hx with h | h
        · exact hb.2 x h
        · rw [List.mem_singleton.mp h]; omega
theorem greatest_l0 (l : List Int) (hl : l.length ≤ 1000) (d : Nat) : ∀ (k i : Nat) (a : Int), IsGreatest l i a → l.length - i = d → i ≤ l.length → d < k →
    ∃ r, ints_Greatest.l0 k l a l (l.length : Int) (i : Int) = some (r, decide ((l.length : Int) > 0)) ∧ IsGreatest l l.length r := by
  induction d with
  | zero =>
    intro k i a ha hd hi hk
    obtain ⟨k, rfl⟩ : ∃ m, k = m + 1 := ⟨k - 1, by omega⟩
    obtain rfl : i = l.length := by omega
    refine ⟨a, ?_, ha⟩
    simp only [ints_Greatest.l0]
    rw [if_neg (by omega)]
  | succ d ih =>
    intro k i a ha hd hi hk
    obtain ⟨k, rfl⟩ : ∃ m, k = m + 1 := ⟨k - 1, by omega⟩
    have hlt : i < l.length := by omega
    have ht := take_next l i hlt
    simp only [ints_Greatest.l0]
    rw [if_pos (by omega), if_pos (by omega), if_pos (by omega), rd_nat l i hlt, wrap_next hlt (by omega)]
    by_cases h0 : (i : Int) = 0
    · rw [if_pos h0]
      obtain rfl : i = 0 := by omega
      refine ih k 1 _ ⟨fun h => by omega, fun _ => ?_⟩ (by omega) (by omega) (by omega)
      rw [ht]; simp
    · rw [if_neg h0]
      have hb := ha.2 (by omega)
      by_cases h1 : l[i] > a
      · rw [if_pos h1]
        refine ih k (i + 1) _ ⟨fun h => by omega, fun _ => ?_⟩ (by omega) (by omega) (by omega)
        rw [ht]
        refine ⟨List.mem_append_right _ (List.mem_singleton.mpr rfl), fun x hx => ?_⟩
        rcases List.mem_append.mp hx with h | h
        · have := hb.2 x h; omega
        · rw [List.mem_singleton.mp h]; omega
      · rw [if_neg h1]
        refine ih k (i + 1) _ ⟨fun h => by omega, fun _ => ?_⟩ (by omega) (by omega) (by omega)
        rw [ht]
        refine ⟨List.mem_append_left _ hb.1, fun x hx => ?_⟩
        rcases List.mem_append.mp hx with h | h
        · exact hb.2 x h
        · rw [List.mem_singleton.mp h]; omega
/-- The law's own loop: it stays within the ends, and meets both. -/
theorem loop_ok (l : List Int) (hl : l.length ≤ 1000) (a b : Int) (ha : IsLeast l l.length a) (hb : IsGreatest l l.length b) (d : Nat) :
    ∀ (k i : Nat) (low high : Bool), low = decide (a ∈ l.take i) → high = decide (b ∈ l.take i) → l.length - i = d → i ≤ l.length → d + 20 < k →
    wayfarerlaw01_IntsEnds.l0 k l a (decide ((l.length : Int) > 0)) b (decide ((l.length : Int) > 0)) low high (i : Int) = some true := by
  induction d with
  | zero =>
    intro k i low high hlow hhigh hd hi hk
    obtain ⟨k, rfl⟩ : ∃ m, k = m + 1 := ⟨k - 1, by omega⟩
    have hkn := known_ev k (by omega)
    obtain rfl : i = l.length := by omega
    simp only [wayfarerlaw01_IntsEnds.l0]
    rw [if_neg (by omega), if_pos (by simp), if_pos (by simp)]
    rw [List.take_length] at hlow hhigh
    by_cases h0 : l.length = 0
    · have hnil : l = [] := List.eq_nil_of_length_eq_zero h0
      have e : decide ((l.length : Int) > 0) = false := decide_eq_false (by omega)
      have el : low = false := by rw [hlow, hnil]; simp
      have eh : high = false := by rw [hhigh, hnil]; simp
      rw [e, el, eh, if_pos (by decide), if_pos (by decide), if_neg (by omega), if_pos (ha.1 h0), if_pos (hb.1 h0), hkn]
      rfl
    · have e : decide ((l.length : Int) > 0) = true := decide_eq_true (by omega)
      have h1 := ha.2 (by omega)
      have h2 := hb.2 (by omega)
      rw [List.take_length] at h1 h2
      have el : low = true := by rw [hlow]; exact decide_eq_true h1.1
      have eh : high = true := by rw [hhigh]; exact decide_eq_true h2.1
      rw [e, el, eh, if_pos (by decide), if_pos (by decide), if_pos (by omega), hkn]
      rfl
  | succ d ih =>
    intro k i low high hlow hhigh hd hi hk
    obtain ⟨k, rfl⟩ : ∃ m, k = m + 1 := ⟨k - 1, by omega⟩
    have hlt : i < l.length := by omega
    have ht := take_next l i hlt
    have h1 := (ha.2 (by omega)).2 l[i] (by rw [List.take_length]; exact List.getElem_mem hlt)
    have h2 := (hb.2 (by omega)).2 l[i] (by rw [List.take_length]; exact List.getElem_mem hlt)
    simp only [wayfarerlaw01_IntsEnds.l0]
    rw [if_pos (by omega), if_pos (by omega), rd_nat l i hlt, if_neg (by omega), if_neg (by omega), wrap_next hlt (by omega)]
    have nl : low = true → true = decide (a ∈ l.take (i + 1)) := fun h => by
      have : a ∈ l.take i := of_decide_eq_true (by rw [← hlow]; exact h)
      rw [ht]; exact (decide_eq_true (List.mem_append_left _ this)).symm
    have nh : high = true → true = decide (b ∈ l.take (i + 1)) := fun h => by
      have : b ∈ l.take i := of_decide_eq_true (by rw [← hhigh]; exact h)
      rw [ht]; exact (decide_eq_true (List.mem_append_left _ this)).symm
    have nl2 : ¬ low = true → (l[i] == a) = decide (a ∈ l.take (i + 1)) := fun h => by
      have : ¬ a ∈ l.take i := fun hm => h (by rw [hlow]; exact decide_eq_true hm)
      rw [ht, Bool.eq_iff_iff, beq_iff_eq, decide_eq_true_iff, List.mem_append, List.mem_singleton]
      exact ⟨fun e => .inr e.symm, fun e => e.elim (fun e => absurd e this) Eq.symm⟩
    have nh2 : ¬ high = true → (l[i] == b) = decide (b ∈ l.take (i + 1)) := fun h => by
      have : ¬ b ∈ l.take i := fun hm => h (by rw [hhigh]; exact decide_eq_true hm)
      rw [ht, Bool.eq_iff_iff, beq_iff_eq, decide_eq_true_iff, List.mem_append, List.mem_singleton]
      exact ⟨fun e => .inr e.symm, fun e => e.elim (fun e => absurd e this) Eq.symm⟩
    by_cases hl1 : low = true
    · rw [if_pos hl1]
      by_cases hh1 : high = true
      · rw [if_pos hh1]; exact ih k (i + 1) _ _ (nl hl1) (nh hh1) (by omega) (by omega) (by omega)
      · rw [if_neg hh1]; exact ih k (i + 1) _ _ (nl hl1) (nh2 hh1) (by omega) (by omega) (by omega)
    · rw [if_neg hl1]
      by_cases hh1 : high = true
      · rw [if_pos hh1]; exact ih k (i + 1) _ _ (nl2 hl1) (nh hh1) (by omega) (by omega) (by omega)
      · rw [if_neg hh1]; exact ih k (i + 1) _ _ (nl2 hl1) (nh2 hh1) (by omega) (by omega) (by omega)
theorem IntsEnds : wayfarerlaw01_IntsEnds.Pure := by
  intro l _ _ _
  refine ⟨1100, ?_⟩
  unfold wayfarerlaw01_IntsEnds.f
  by_cases h : (l.length : Int) > 1000
  · rw [if_pos h, known_ev _ (by omega)]; rfl
  · rw [if_neg h]
    obtain ⟨a, ha, la⟩ := least_l0 l (by omega) l.length 1100 0 0 ⟨fun _ => rfl, fun h => by omega⟩ (by omega) (by omega) (by omega)
    obtain ⟨b, hb, lb⟩ := greatest_l0 l (by omega) l.length 1100 0 0 ⟨fun _ => rfl, fun h => by omega⟩ (by omega) (by omega) (by omega)
    have ea : ints_Least.f 1100 l = some (a, decide ((l.length : Int) > 0)) := ha
    have eb : ints_Greatest.f 1100 l = some (b, decide ((l.length : Int) > 0)) := hb
    rw [ea]
    simp only [Option.bind_some]
    rw [eb]
    simp only [Option.bind_some]
    exact loop_ok l (by omega) a b la lb l.length 1100 0 false false (by simp) (by simp) (by omega) (by omega) (by omega)
end Go.Proofs.Ytkeecomghgmamaa.Pure
