/- More on tokens: where a query may be cut. -/
import Derived.Test.YtildiabokdfjgaaLexDLexerJoins
namespace Go.Proofs.Ytildiabokdfjgaa.Pure
open Go.RowKit Go.Proofs.Ytildiabokdfjgaa.PLexerJoins Go.Proofs.YtildiabokdfjgaaW.PrintWords Go.Proofs.YtildiabokdfjgaaW.PrintLast
set_option linter.unusedVariables false
set_option linter.unusedSimpArgs false
set_option maxHeartbeats 800000

theorem skip_blank : ∀ (s : List Int), ∀ c ∈ s.take (skip s), blankB c = true
  | [], c, h => by simp at h
  | x :: r, c, h => by
    by_cases hx : blankB x = true
    · rw [show skip (x :: r) = skip r + 1 from if_pos hx, List.take_succ_cons] at h
      rcases List.mem_cons.mp h with rfl | h
      · exact hx
      · exact skip_blank r c h
    · rw [show skip (x :: r) = 0 from if_neg hx] at h
      simp at h
/-- Where the k-th token begins; behind all: the end. -/
def placeOf (ts : List (S32 × Nat)) (k : Nat) (e : Int) : Int := match ts.drop k with | [] => e | p :: _ => p.1.f1
theorem cutAt : ∀ (f : Nat) (s : List Int) (off : Nat) (ts : List (S32 × Nat)), s.length < f → lex f s off = (ts, none) → ∀ k, k ≤ ts.length →
    ∃ u v, s = u ++ v ∧ ((off + u.length : Nat) : Int) = placeOf ts k ((off + s.length : Nat) : Int) ∧ Pre v (ts.take k) u off := by
  intro f
  induction f with
  | zero => intro s off ts h; omega
  | succ f ih =>
    intro s off ts hf hl k hk
    rw [lex_step] at hl
    have hs := skip_le s
    cases hd : s.drop (skip s) with
    | nil =>
      rw [hd] at hl
      cases hl
      obtain rfl : k = 0 := by simpa using hk
      refine ⟨s, [], by simp, rfl, ?_⟩
      intro c hc
      have hle : s.length ≤ skip s := by have := congrArg List.length hd; rw [List.length_drop] at this; simp at this; omega
      exact skip_blank s c (by rw [List.take_of_length_le hle]; exact hc)
    | cons c r =>
      rw [hd] at hl
      dsimp only at hl
      have hslt : skip s < s.length := by have := congrArg List.length hd; rw [List.length_drop] at this; simp at this; omega
      cases ht : tokS (c :: r) with
      | none => rw [ht] at hl; simp at hl
      | some t =>
        rw [ht] at hl
        dsimp only at hl
        obtain ⟨h1, h2⟩ := Prod.mk.inj hl
        have htl := tokS_len _ t ht
        have hcl : (c :: r).length = s.length - skip s := by rw [← hd, List.length_drop]
        cases k with
        | zero =>
          refine ⟨s.take (skip s), s.drop (skip s), (List.take_append_drop _ _).symm, ?_, fun x hx => skip_blank s x hx⟩
          rw [← h1]
          show ((off + (s.take (skip s)).length : Nat) : Int) = ((off + skip s : Nat) : Int)
          rw [List.length_take, Nat.min_eq_left (by omega)]
        | succ k =>
          have hdl : ((c :: r).drop t.2.2.2).length < f := by rw [List.length_drop]; omega
          have hk' : k ≤ (lex f ((c :: r).drop t.2.2.2) (off + skip s + t.2.2.2)).1.length := by rw [← h1] at hk; simpa using hk
          obtain ⟨u, v, e1, e2, e3⟩ := ih _ _ _ hdl (Prod.ext rfl h2) k hk'
          have hs2 : s = s.take (skip s + t.2.2.2) ++ u ++ v := by
            rw [List.append_assoc, ← e1, ← hd, List.drop_drop, List.take_append_drop]
          have htk : (s.take (skip s + t.2.2.2)).length = skip s + t.2.2.2 := by rw [List.length_take, Nat.min_eq_left (by omega)]
          refine ⟨s.take (skip s + t.2.2.2) ++ u, v, hs2, ?_, ?_⟩
          · rw [← h1]
            show _ = placeOf (lex f ((c :: r).drop t.2.2.2) (off + skip s + t.2.2.2)).1 k _
            rw [List.length_append, htk, show off + (skip s + t.2.2.2 + u.length) = off + skip s + t.2.2.2 + u.length by omega, e2]
            congr 1
            rw [List.length_drop, hcl]
            omega
          · rw [← h1, List.take_succ_cons]
            unfold Pre
            rw [← hs2]
            refine ⟨by rw [List.length_append, htk]; omega, t, ?_, by rw [List.length_append, htk]; omega, rfl, ?_⟩
            · have : (s.take (skip s + t.2.2.2) ++ u).drop (skip s) ++ v = s.drop (skip s) := by
                rw [← List.drop_append_of_le_length (by rw [List.length_append, htk]; omega), ← hs2]
              rw [this, hd]
              exact ht
            · have : (s.take (skip s + t.2.2.2) ++ u).drop (skip s + t.2.2.2) = u := by
                rw [List.drop_append_of_le_length (by omega), List.drop_of_length_le (by omega), List.nil_append]
              rw [this]
              exact e3
theorem rdT_at {T : List S32} (i : Nat) (h : i < T.length) : rd_T32 T (i : Int) = T[i] := by
  unfold rd_T32
  rw [Int.toNat_natCast, List.getD_eq_getElem?_getD, List.getElem?_eq_getElem h]
  rfl
/-- A token begins within the query. -/
theorem place_in : ∀ (f : Nat) (s : List Int) (off : Nat), s.length < f → ∀ p ∈ (lex f s off).1, 0 ≤ p.1.f1 ∧ p.1.f1 ≤ ((off + s.length : Nat) : Int) := by
  intro f
  induction f with
  | zero => intro s off h; omega
  | succ f ih =>
    intro s off h p hp
    rw [lex_step] at hp
    have hs := skip_le s
    cases hd : s.drop (skip s) with
    | nil => rw [hd] at hp; simp at hp
    | cons c r =>
      rw [hd] at hp
      dsimp only at hp
      cases ht : tokS (c :: r) with
      | none => rw [ht] at hp; simp at hp
      | some t =>
        rw [ht] at hp
        dsimp only at hp
        have htl := tokS_len _ t ht
        have hcl : (c :: r).length = s.length - skip s := by rw [← hd, List.length_drop]
        rcases List.mem_cons.mp hp with rfl | hp
        · dsimp only; omega
        · have := ih _ _ (by rw [List.length_drop]; omega) p hp
          rw [List.length_drop] at this
          omega
end Go.Proofs.Ytildiabokdfjgaa.Pure
