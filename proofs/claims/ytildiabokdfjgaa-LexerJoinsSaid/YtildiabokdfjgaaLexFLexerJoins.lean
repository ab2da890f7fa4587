/- Where a query is wrong, and something behind it. -/
import Derived.Test.YtildiabokdfjgaaLexELexerJoins
namespace Go.Proofs.Ytildiabokdfjgaa.Pure
open Go.RowKit Go.Proofs.Ytildiabokdfjgaa.PLexerJoins Go.Proofs.YtildiabokdfjgaaW.PrintWords Go.Proofs.YtildiabokdfjgaaW.PrintLast
set_option linter.unusedVariables false
set_option linter.unusedSimpArgs false
set_option maxHeartbeats 800000

theorem txt_none (b : List Int) : ∀ (r out : List Int), txt r out = none → txt (r ++ 10 :: b) out = none
  | [], out, _ => by
    cases b with
    | nil => rfl
    | cons d b => unfold txt; rfl
  | [c], out, h => by
    have e : [c] ++ 10 :: b = c :: 10 :: b := rfl
    rw [e]
    unfold txt at h ⊢
    by_cases h39 : c = 39
    · rw [if_pos h39] at h ⊢; exact h
    · rw [if_neg h39]
      by_cases h32 : c < 32
      · rw [if_pos h32]
      · rw [if_neg h32]
        by_cases h92 : c = 92
        · rw [if_pos h92, if_neg (by decide)]
        · rw [if_neg h92, show (10 : Int) :: b = [] ++ 10 :: b from rfl, txt_none b [] _ rfl]
          rfl
  | c :: d :: r, out, h => by
    have e : c :: d :: r ++ 10 :: b = c :: d :: (r ++ 10 :: b) := rfl
    rw [e]
    unfold txt at h ⊢
    by_cases h39 : c = 39
    · rw [if_pos h39] at h ⊢; exact h
    · rw [if_neg h39] at h ⊢
      by_cases h32 : c < 32
      · rw [if_pos h32]
      · rw [if_neg h32] at h ⊢
        by_cases h92 : c = 92
        · rw [if_pos h92] at h ⊢
          by_cases hd : d = 39 ∨ d = 92
          · rw [if_pos hd] at h ⊢
            rw [txt_none b r _ (Option.map_eq_none_iff.1 h)]
            rfl
          · rw [if_neg hd]
        · rw [if_neg h92] at h ⊢
          have := txt_none b (d :: r) _ (Option.map_eq_none_iff.1 h)
          rw [List.cons_append] at this
          rw [this]
          rfl
theorem off_ten (b : List Int) : Off (10 :: b) := Off.cons (by decide)
theorem tokS_none (b : List Int) (s : List Int) (hs : s ≠ []) (h : tokS s = none) : tokS (s ++ 10 :: b) = none := by
  cases s with
  | nil => exact absurd rfl hs
  | cons c r =>
    rw [List.cons_append]
    rw [tokS_cons] at h ⊢
    have hr := runN_le r
    have hrun : runN (r ++ 10 :: b) = runN r := by
      have := run_local (v := []) (off_ten b) r (by rw [List.append_nil]; exact hr)
      rw [List.append_nil] at this
      exact this
    have htk : (r ++ 10 :: b).take (runN r) = r.take (runN r) := List.take_append_of_le_length hr
    rw [hrun, htk]
    split at h
    · cases h
    · rename_i h1
      rw [if_neg h1]
      split at h
      · rename_i h2
        rw [if_pos h2]
        split at h
        · cases h
        · rename_i h3
          rw [if_neg h3]
      · rename_i h2
        rw [if_neg h2]
        split at h
        · rename_i h3
          rw [if_pos h3]
          have : txt r [] = none := by
            cases hx : txt r [] with
            | none => rfl
            | some p => rw [hx] at h; cases h
          rw [txt_none b r [] this]
        · rename_i h3
          rw [if_neg h3]
          split at h
          · cases h
          · rename_i h4
            rw [if_neg h4]
theorem Pre.grow {v w : List Int} (hw : Off w) : ∀ (ts : List (S32 × Nat)) (u : List Int) (off : Nat), Pre v ts u off → Pre (v ++ w) ts u off
  | [], _, _, h => h
  | p :: ts, u, off, ⟨h1, t, h2, h3, h4, h5⟩ => by
    have e := skip_local v (v ++ w) u h1
    have hl := tokS_len _ t h2
    unfold Pre
    rw [e]
    refine ⟨h1, t, ?_, h3, h4, Pre.grow hw ts _ _ h5⟩
    have := tokS_local (v := []) hw (u.drop (skip (u ++ v)) ++ v) t (by rw [List.append_nil]; exact h2) (by omega) (by omega)
    rw [List.append_assoc] at this
    exact this
theorem errAt : ∀ (f : Nat) (s : List Int) (off : Nat) (ts : List (S32 × Nat)) (p : Nat), s.length < f → lex f s off = (ts, some p) →
    ∃ u v, s = u ++ v ∧ Pre v ts u off ∧ off + u.length + skip v = p ∧ v.drop (skip v) ≠ [] ∧ tokS (v.drop (skip v)) = none := by
  intro f
  induction f with
  | zero => intro s off ts p h; omega
  | succ f ih =>
    intro s off ts p hf hl
    rw [lex_step] at hl
    have hs := skip_le s
    cases hd : s.drop (skip s) with
    | nil => rw [hd] at hl; simp at hl
    | cons c r =>
      rw [hd] at hl
      dsimp only at hl
      have hslt : skip s < s.length := by have := congrArg List.length hd; rw [List.length_drop] at this; simp at this; omega
      cases ht : tokS (c :: r) with
      | none =>
        rw [ht] at hl
        dsimp only at hl
        obtain ⟨h1, h2⟩ := Prod.mk.inj hl
        subst h1
        exact ⟨[], s, rfl, (fun c hc => by simp at hc), by simpa using h2, by rw [hd]; simp, by rw [hd]; exact ht⟩
      | some t =>
        rw [ht] at hl
        dsimp only at hl
        obtain ⟨h1, h2⟩ := Prod.mk.inj hl
        have htl := tokS_len _ t ht
        have hcl : (c :: r).length = s.length - skip s := by rw [← hd, List.length_drop]
        have hdl : ((c :: r).drop t.2.2.2).length < f := by rw [List.length_drop]; omega
        obtain ⟨u, v, e1, e2, e3, e4, e5⟩ := ih _ _ _ _ hdl (Prod.ext rfl h2)
        have hs2 : s = s.take (skip s + t.2.2.2) ++ u ++ v := by
          rw [List.append_assoc, ← e1, ← hd, List.drop_drop, List.take_append_drop]
        have htk : (s.take (skip s + t.2.2.2)).length = skip s + t.2.2.2 := by rw [List.length_take, Nat.min_eq_left (by omega)]
        refine ⟨s.take (skip s + t.2.2.2) ++ u, v, hs2, ?_, ?_, e4, e5⟩
        · rw [← h1]
          unfold Pre
          rw [← hs2]
          refine ⟨by rw [List.length_append, htk]; omega, t, ?_, by rw [List.length_append, htk]; omega, rfl, ?_⟩
          · have : (s.take (skip s + t.2.2.2) ++ u).drop (skip s) ++ v = s.drop (skip s) := by
              rw [← List.drop_append_of_le_length (by rw [List.length_append, htk]; omega), ← hs2]
            rw [this, hd]
            exact ht
          · have : (s.take (skip s + t.2.2.2) ++ u).drop (skip s + t.2.2.2) = u := by
              rw [List.drop_append_of_le_length (by omega), List.drop_of_length_le (by omega), List.nil_append]
            rw [this]
            exact e2
        · rw [List.length_append, htk]; omega
/-- Where the first is wrong the whole is, there. -/
theorem lex_wrong (a b : List Int) (ts : List (S32 × Nat)) (p : Nat) (h : lex (a.length + 1) a 0 = (ts, some p)) : lex ((a ++ 10 :: b).length + 1) (a ++ 10 :: b) 0 = (ts, some p) := by
  obtain ⟨u, v, e1, e2, e3, e4, e5⟩ := errAt _ a 0 ts p (by omega) h
  have hp := Pre.lex _ _ 0 ((a ++ 10 :: b).length + 1) (Pre.grow (off_ten b) _ _ _ e2) (by rw [e1]; simp)
  rw [← List.append_assoc, ← e1] at hp
  rw [hp, lex_step]
  have hlt : skip v < v.length := by
    have := skip_le v
    rcases Nat.lt_or_ge (skip v) v.length with hh | hh
    · exact hh
    · exact absurd (List.drop_of_length_le hh) e4
  have hsk : skip (v ++ 10 :: b) = skip v := by
    have := skip_local [] (10 :: b) v (by rw [List.append_nil]; exact hlt)
    rw [List.append_nil] at this
    exact this
  have hn := tokS_none b _ e4 e5
  rw [hsk, List.drop_append_of_le_length (by omega)]
  cases hd : v.drop (skip v) with
  | nil => exact absurd hd e4
  | cons c r =>
    rw [hd, List.cons_append] at hn
    rw [List.cons_append]
    dsimp only
    rw [hn]
    dsimp only
    rw [List.append_nil]
    exact Prod.ext rfl (congrArg some e3)
/-- Both, the others farther behind. -/
theorem lex_both (a b : List Int) (ts : List (S32 × Nat)) (h : lex (a.length + 1) a 0 = (ts, none)) :
    lex ((a ++ 10 :: b).length + 1) (a ++ 10 :: b) 0 = (ts ++ (moved (a.length + 1) (lex (b.length + 1) b 0)).1, (moved (a.length + 1) (lex (b.length + 1) b 0)).2) := by
  obtain ⟨u, v, e1, e2, e3⟩ := cutAt _ a 0 ts (by omega) h ts.length (Nat.le_refl _)
  have hu : u.length = a.length := by
    unfold placeOf at e2
    rw [List.drop_length] at e2
    dsimp only at e2
    omega
  have hv : v = [] := by
    have := congrArg List.length e1
    rw [List.length_append] at this
    exact List.eq_nil_of_length_eq_zero (by omega)
  subst hv
  rw [List.append_nil] at e1
  subst e1
  rw [List.take_length] at e3
  have hp := Pre.lex _ _ 0 ((a ++ 10 :: b).length + 1) (Pre.other (off_ten b) _ _ _ e3) (by omega)
  rw [hp, Nat.zero_add]
  have p3 : lex ((a ++ 10 :: b).length + 1) (10 :: b) a.length = moved (a.length + 1) (lex (b.length + 1) b 0) := by
    have hp : Pre b [] [10] a.length := by
      intro c hc
      rw [List.mem_singleton.mp hc]; decide
    have := Pre.lex [] [10] a.length ((a ++ 10 :: b).length + 1) hp (by simp; omega)
    rw [List.nil_append] at this
    have e : [10] ++ b = 10 :: b := rfl
    rw [e] at this
    rw [this]
    show lex _ b (a.length + 1) = _
    rw [← Nat.zero_add (a.length + 1), lex_moved, lex_more _ (b.length + 1) b 0 (by simp; omega) (by omega), Nat.zero_add]
  rw [p3]
end Go.Proofs.Ytildiabokdfjgaa.Pure
