/- The statement IntsSteps: a sum is that of its first part and its others, as far as both have room, and a row of noughts and ones changes neither sum nor product; for every list of numbers of 64 bits and every place. -/
import Derived.Test.YtkeecomghgmamaaBaseIntsSteps
namespace Go.Proofs.Ytkeecomghgmamaa.Pure
open Go.RowKit Go.Proofs.Ytkeecomghgmamaa.PIntsSteps Go.Proofs.YtkeecomghgmamaaW.PrintWords Go.Proofs.YtkeecomghgmamaaW.PrintLast
theorem addAll_append (l m : List Int) : ∀ acc, addAll acc (l ++ m) = if (addAll acc l).2 = 0 then addAll (addAll acc l).1 m else (0, 10) := by
  induction l with
  | nil => intro acc; simp [addAll]
  | cons x l ih =>
    intro acc
    by_cases h : I64 (acc + x)
    · simp only [List.cons_append, addAll, if_pos h]; exact ih _
    · simp only [List.cons_append, addAll, if_neg h]; rfl
theorem addAll_range (l : List Int) : ∀ acc, I64 acc → I64 (addAll acc l).1 := by
  induction l with
  | nil => intro acc h; exact h
  | cons x l ih =>
    intro acc h
    simp only [addAll]
    by_cases h : I64 (acc + x)
    · rw [if_pos h]; exact ih _ h
    · rw [if_neg h]; exact i64_nought
theorem addAll_told (l : List Int) : ∀ acc, (addAll acc l).2 = 0 ∨ addAll acc l = (0, 10) := by
  induction l with
  | nil => intro acc; exact .inl rfl
  | cons x l ih =>
    intro acc
    simp only [addAll]
    by_cases h : I64 (acc + x)
    · rw [if_pos h]; exact ih _
    · rw [if_neg h]; exact .inr rfl
theorem mulAll_one (l : List Int) : ∀ acc, I64 acc → mulAll acc (l ++ [1]) = mulAll acc l := by
  induction l with
  | nil => intro acc h; simp [mulAll, h]
  | cons x l ih =>
    intro acc h
    simp only [List.cons_append, mulAll]
    by_cases h : I64 (acc * x)
    · rw [if_pos h, if_pos h]; exact ih _ h
    · rw [if_neg h, if_neg h]
theorem same_l0 (l : List Int) (hl : l.length ≤ 200) (d : Nat) : ∀ (k i : Nat), l.length - i = d → i ≤ l.length → d < k → wayfarerref00_SameInts.l0 k l l (i : Int) = some true := by
  induction d with
  | zero =>
    intro k i hd hi hk
    obtain ⟨k, rfl⟩ : ∃ m, k = m + 1 := ⟨k - 1, by omega⟩
    simp only [wayfarerref00_SameInts.l0]
    rw [if_neg (by omega)]
  | succ d ih =>
    intro k i hd hi hk
    obtain ⟨k, rfl⟩ : ∃ m, k = m + 1 := ⟨k - 1, by omega⟩
    have hlt : i < l.length := by omega
    simp only [wayfarerref00_SameInts.l0]
    rw [if_pos (by omega), if_pos (by omega), if_pos (by omega), if_pos trivial, wrap_next hlt (by omega)]
    exact ih k (i + 1) (by omega) (by omega) (by omega)
theorem same_ok (l : List Int) (hl : l.length ≤ 200) (k : Nat) (hk : l.length < k) : wayfarerref00_SameInts.f k l l = some true := by
  have := same_l0 l hl l.length k 0 (by omega) (by omega) hk
  unfold wayfarerref00_SameInts.f
  rw [if_pos rfl]
  exact this
theorem tail_ok (l : List Int) (hw : ∀ x ∈ l, I64 x) (hl : l.length ≤ 200) (k : Nat) (hk : 300 < k) : wayfarerlaw01_IntsSteps.j0 k l false = some true := by
  obtain ⟨k, rfl⟩ : ∃ m, k = m + 1 := ⟨k - 1, by omega⟩
  have hkn := known_ev k (by omega)
  have hw1 : ∀ x ∈ l ++ [1], I64 x := by
    intro x hx
    rcases List.mem_append.mp hx with h | h
    · exact hw x h
    · rw [List.mem_singleton.mp h]; unfold I64; omega
  have h1 : I64 1 := by unfold I64; omega
  simp only [wayfarerlaw01_IntsSteps.j0]
  rw [if_neg (by decide), if_pos (by simp; omega)]
  simp only [List.nil_append, Option.bind_some]
  rw [if_pos (by omega), Mul_spec l hw (by omega) k (by omega), Mul_spec (l ++ [1]) hw1 (by simp; omega) k (by simp; omega), mulAll_one l 1 h1]
  simp only [Option.bind_some, if_true]
  rw [if_pos (by omega), if_pos (by simp; omega), Int.toNat_natCast, List.take_left, same_ok l hl k (by omega), hkn]
  rfl
theorem IntsSteps : wayfarerlaw01_IntsSteps.Pure := by
  intro l a _ hl8 wl wa
  have hw : ∀ x ∈ l, I64 x := fun x hx => wf_i64 (wl x hx)
  refine ⟨400, ?_⟩
  unfold wayfarerlaw01_IntsSteps.f
  by_cases h200 : (l.length : Int) > 200
  · rw [if_pos h200, known_ev 400 (by omega)]; rfl
  · rw [if_neg h200]
    have hl : l.length ≤ 200 := by omega
    have e1 : IntKind.u64.wrap (wrap64 ((l.length : Int) + 1)) = (l.length : Int) + 1 := by rw [IntKind.wrap_u64]; unfold wrap64; omega
    have e2 : 0 ≤ IntKind.u64.wrap a ∧ IntKind.u64.wrap a < 18446744073709551616 := by rw [IntKind.wrap_u64]; omega
    generalize IntKind.u64.wrap a = u at *
    rw [e1, if_neg (by omega)]
    obtain ⟨n, hn⟩ : ∃ n : Nat, wrap64 (Int.tmod u ((l.length : Int) + 1)) = (n : Int) ∧ n ≤ l.length := by
      have h3 : Int.tmod u ((l.length : Int) + 1) = u % ((l.length : Int) + 1) := Int.tmod_eq_emod_of_nonneg e2.1
      have h4 := Int.emod_nonneg u (show (l.length : Int) + 1 ≠ 0 by omega)
      have h5 := Int.emod_lt_of_pos u (show 0 < (l.length : Int) + 1 by omega)
      refine ⟨(u % ((l.length : Int) + 1)).toNat, ?_, by omega⟩
      rw [h3]; unfold wrap64; omega
    obtain ⟨hn, hnl⟩ := hn
    rw [hn]
    rw [if_pos (by omega), if_pos (by omega), Int.toNat_natCast]
    have hwt : ∀ x ∈ l.take n, I64 x := fun x hx => hw x (List.mem_of_mem_take hx)
    have hwd : ∀ x ∈ l.drop n, I64 x := fun x hx => hw x (List.mem_of_mem_drop hx)
    rw [Add_spec (l.take n) hwt (by simp; omega) 400 (by simp; omega)]
    simp only [Option.bind_some, List.nil_append]
    rw [if_pos (by simp), if_pos (by simp; omega)]
    have hr := addAll_range (l.take n) 0 i64_nought
    have hw2 : ∀ x ∈ [(addAll 0 (l.take n)).1] ++ l.drop n, I64 x := by
      intro x hx
      rcases List.mem_append.mp hx with h | h
      · rw [List.mem_singleton.mp h]; exact hr
      · exact hwd x h
    rw [Add_spec _ hw2 (by simp; omega) 400 (by simp; omega), Add_spec l hw (by omega) 400 (by omega)]
    simp only [Option.bind_some]
    have tl := tail_ok l hw hl 400 (by omega)
    have ha : addAll 0 l = if (addAll 0 (l.take n)).2 = 0 then addAll (addAll 0 (l.take n)).1 (l.drop n) else (0, 10) := by
      rw [← addAll_append, List.take_append_drop]
    have hb : addAll 0 ([(addAll 0 (l.take n)).1] ++ l.drop n) = addAll (addAll 0 (l.take n)).1 (l.drop n) := by
      simp [addAll, hr]
    rw [hb]
    rcases addAll_told (l.take n) 0 with h | h
    · rw [if_pos h] at ha
      rw [if_pos h, ha, if_pos rfl, if_pos rfl]
      exact tl
    · rw [h] at ha ⊢
      rw [if_neg (by decide)] at ha
      rw [if_neg (by decide), ha]
      exact tl
end Go.Proofs.Ytkeecomghgmamaa.Pure
