/- What is ahead of a place does not hang on what stands behind it. -/
import Derived.Test.YtildiabokdfjgaaLexCLexerNumbers
namespace Go.Proofs.Ytildiabokdfjgaa.Pure
open Go.RowKit Go.Proofs.Ytildiabokdfjgaa.PLexerNumbers Go.Proofs.YtildiabokdfjgaaW.PrintWords Go.Proofs.YtildiabokdfjgaaW.PrintLast
set_option linter.unusedVariables false
set_option linter.unusedSimpArgs false

theorem lex_step (f : Nat) (s : List Int) (off : Nat) : lex (f + 1) s off = match s.drop (skip s) with
    | [] => ([], none)
    | c :: r => match tokS (c :: r) with
      | none => ([], some (off + skip s))
      | some t => ((⟨t.1, ((off + skip s : Nat) : Int), t.2.1, t.2.2.1⟩, off + skip s + t.2.2.2) :: (lex f ((c :: r).drop t.2.2.2) (off + skip s + t.2.2.2)).1, (lex f ((c :: r).drop t.2.2.2) (off + skip s + t.2.2.2)).2) := rfl
/-- More rounds than bytes tell the same. -/
theorem lex_more : ∀ (f f' : Nat) (s : List Int) (off : Nat), s.length < f → s.length < f' → lex f s off = lex f' s off := by
  intro f
  induction f with
  | zero => intro f' s off h; omega
  | succ f ih =>
    intro f' s off h h'
    obtain ⟨f', rfl⟩ : ∃ m, f' = m + 1 := ⟨f' - 1, by omega⟩
    rw [lex_step, lex_step]
    cases hs : s.drop (skip s) with
    | nil => rfl
    | cons c r =>
      dsimp only
      cases ht : tokS (c :: r) with
      | none => rfl
      | some t =>
        dsimp only
        have hl := tokS_len _ t ht
        have hc : (c :: r).length ≤ s.length := by rw [← hs, List.length_drop]; omega
        have hd : ((c :: r).drop t.2.2.2).length < s.length := by rw [List.length_drop]; omega
        rw [ih f' _ _ (by omega) (by omega)]
/-- The tokens d bytes farther behind. -/
def moved (d : Nat) (q : List (S32 × Nat) × Option Nat) : List (S32 × Nat) × Option Nat := (q.1.map (fun p => (⟨p.1.f0, p.1.f1 + (d : Int), p.1.f2, p.1.f3⟩, p.2 + d)), q.2.map (· + d))
theorem lex_moved (d : Nat) : ∀ (f : Nat) (s : List Int) (off : Nat), lex f s (off + d) = moved d (lex f s off) := by
  intro f
  induction f with
  | zero => intro s off; rfl
  | succ f ih =>
    intro s off
    rw [lex_step, lex_step]
    cases hs : s.drop (skip s) with
    | nil => rfl
    | cons c r =>
      dsimp only
      cases ht : tokS (c :: r) with
      | none => simp only [moved, List.map_nil, Option.map_some]; rw [show off + d + skip s = off + skip s + d by omega]
      | some t =>
        dsimp only
        rw [show off + d + skip s = off + skip s + d by omega, show off + skip s + d + t.2.2.2 = off + skip s + t.2.2.2 + d by omega, ih]
        simp only [moved, List.map_cons]
        rw [show ((off + skip s + d : Nat) : Int) = ((off + skip s : Nat) : Int) + (d : Int) by omega]
/-- No letter and no digit comes first. -/
def Off (v : List Int) : Prop := ∀ c r, v = c :: r → alnB c = false
theorem Off.nil : Off [] := fun _ _ h => by cases h
theorem Off.cons {c : Int} {r : List Int} (h : alnB c = false) : Off (c :: r) := fun _ _ e => by cases e; exact h
theorem run_off {v : List Int} (h : Off v) : runN v = 0 := by
  cases v with
  | nil => rfl
  | cons c r => show (if alnB c = true then runN r + 1 else 0) = 0; rw [h c r rfl]; rfl
theorem run_local {v v' : List Int} (h' : Off v') : ∀ (u : List Int), runN (u ++ v) ≤ u.length → runN (u ++ v') = runN (u ++ v)
  | [], h => by
    have : runN v = 0 := by simpa using h
    simp only [List.nil_append]
    rw [run_off h', this]
  | c :: u, h => by
    have e1 : ∀ w, runN (c :: w) = if alnB c = true then runN w + 1 else 0 := fun _ => rfl
    simp only [List.cons_append] at h ⊢
    rw [e1] at h
    rw [e1, e1]
    by_cases hc : alnB c = true
    · rw [if_pos hc] at h
      rw [if_pos hc, if_pos hc, run_local h' u (by simpa using h)]
    · rw [if_neg hc, if_neg hc]
theorem txt_local (v v' : List Int) : ∀ (u out : List Int) (p : List Int × Nat), txt (u ++ v) out = some p → p.2 ≤ u.length → txt (u ++ v') out = some p
  | [], out, p, h, hp => by
    have := (txt_len _ _ _ h).1
    simp at hp
    omega
  | [c], out, p, h, hp => by
    have h1 : p.2 = 1 := by have := (txt_len _ _ _ h).1; simp at hp; omega
    have hc : c = 39 := by
      simp only [List.singleton_append] at h
      cases v with
      | nil => unfold txt at h; split at h; assumption; cases h
      | cons d r =>
        unfold txt at h
        split at h
        · assumption
        · split at h
          · cases h
          · split at h
            · split at h
              · obtain ⟨q, hq, rfl⟩ := Option.map_eq_some_iff.mp h
                have := (txt_len _ _ _ hq).1
                dsimp only at h1; omega
              · cases h
            · obtain ⟨q, hq, rfl⟩ := Option.map_eq_some_iff.mp h
              have := (txt_len _ _ _ hq).1
              dsimp only at h1; omega
    subst hc
    simp only [List.singleton_append] at h ⊢
    have e : ∀ w, txt (39 :: w) out = if 1000 < out.length then none else some (out, 1) := by
      intro w
      cases w with
      | nil => unfold txt; rw [if_pos rfl]
      | cons d r => unfold txt; rw [if_pos rfl]
    rw [e] at h ⊢
    exact h
  | c :: d :: u, out, p, h, hp => by
    simp only [List.cons_append] at h ⊢
    unfold txt at h ⊢
    split at h
    · rename_i hc
      rw [if_pos hc]
      exact h
    · rename_i hc
      rw [if_neg hc]
      split at h
      · cases h
      · rename_i h32
        rw [if_neg h32]
        split at h
        · rename_i h92
          rw [if_pos h92]
          split at h
          · rename_i hd
            rw [if_pos hd]
            obtain ⟨q, hq, rfl⟩ := Option.map_eq_some_iff.mp h
            rw [txt_local v v' u _ q hq (by simp at hp; omega)]
            rfl
          · cases h
        · rename_i h92
          rw [if_neg h92]
          obtain ⟨q, hq, rfl⟩ := Option.map_eq_some_iff.mp h
          have := txt_local v v' (d :: u) _ q hq (by simp at hp ⊢; omega)
          simp only [List.cons_append] at this
          rw [this]
          rfl
theorem tokS_local {v v' : List Int} (h' : Off v') (u : List Int) (t : Int × ByteArray × Int × Nat) (h : tokS (u ++ v) = some t) (hu : 0 < u.length) (ht : t.2.2.2 ≤ u.length) : tokS (u ++ v') = some t := by
  cases u with
  | nil => simp at hu
  | cons c u =>
    simp only [List.cons_append] at h ⊢
    rw [tokS_cons] at h ⊢
    have key : runN (u ++ v) + 1 ≤ (c :: u).length → runN (u ++ v') = runN (u ++ v) ∧ (u ++ v').take (runN (u ++ v)) = (u ++ v).take (runN (u ++ v)) := by
      intro hk
      have hk' : runN (u ++ v) ≤ u.length := by simpa using hk
      exact ⟨run_local h' u hk', by rw [List.take_append_of_le_length hk', List.take_append_of_le_length hk']⟩
    by_cases h1 : letterB c = true
    · rw [if_pos h1] at h ⊢
      cases h
      obtain ⟨k1, k2⟩ := key ht
      rw [k1, k2]
    · rw [if_neg h1] at h ⊢
      by_cases h2 : (digitB c || c == 45) = true
      · rw [if_pos h2] at h ⊢
        by_cases h3 : (parsed (strOfNums (c :: (u ++ v).take (runN (u ++ v))))).2 = 0
        · rw [if_pos h3] at h
          cases h
          obtain ⟨k1, k2⟩ := key ht
          rw [k1, k2, if_pos h3]
        · rw [if_neg h3] at h
          cases h
      · rw [if_neg h2] at h ⊢
        by_cases h3 : c = 39
        · rw [if_pos h3] at h ⊢
          cases hx : txt (u ++ v) [] with
          | none => rw [hx] at h; cases h
          | some p =>
            rw [hx] at h
            cases h
            rw [txt_local v v' u [] p hx (by simpa using ht)]
        · rw [if_neg h3] at h ⊢
          exact h
theorem skip_local (v v' : List Int) : ∀ (u : List Int), skip (u ++ v) < u.length → skip (u ++ v') = skip (u ++ v)
  | [], h => by simp at h
  | c :: u, h => by
    have e1 : ∀ w, skip (c :: w) = if blankB c = true then skip w + 1 else 0 := fun _ => rfl
    simp only [List.cons_append] at h ⊢
    rw [e1] at h
    rw [e1, e1]
    by_cases hc : blankB c = true
    · rw [if_pos hc] at h
      rw [if_pos hc, if_pos hc, skip_local v v' u (by simpa using h)]
    · rw [if_neg hc, if_neg hc]
theorem skip_over (v : List Int) : ∀ (u : List Int), (∀ c ∈ u, blankB c = true) → skip (u ++ v) = u.length + skip v
  | [], _ => by simp
  | c :: u, h => by
    show (if blankB c = true then skip (u ++ v) + 1 else 0) = _
    rw [if_pos (h c List.mem_cons_self), skip_over v u (fun x hx => h x (List.mem_cons_of_mem _ hx)), List.length_cons]
    omega
/-- These tokens come first, and lie in u; what is left of u are blanks. -/
def Pre (v : List Int) : List (S32 × Nat) → List Int → Nat → Prop
  | [], u, _ => ∀ c ∈ u, blankB c = true
  | p :: ts, u, off => skip (u ++ v) < u.length ∧ ∃ t, tokS (u.drop (skip (u ++ v)) ++ v) = some t ∧ skip (u ++ v) + t.2.2.2 ≤ u.length ∧ p = (⟨t.1, ((off + skip (u ++ v) : Nat) : Int), t.2.1, t.2.2.1⟩, off + skip (u ++ v) + t.2.2.2) ∧ Pre v ts (u.drop (skip (u ++ v) + t.2.2.2)) (off + skip (u ++ v) + t.2.2.2)
theorem Pre.other {v v' : List Int} (h' : Off v') : ∀ (ts : List (S32 × Nat)) (u : List Int) (off : Nat), Pre v ts u off → Pre v' ts u off
  | [], _, _, h => h
  | p :: ts, u, off, ⟨h1, t, h2, h3, h4, h5⟩ => by
    have e := skip_local v v' u h1
    unfold Pre
    rw [e]
    refine ⟨h1, t, ?_, h3, h4, Pre.other h' ts _ _ h5⟩
    exact tokS_local h' _ t h2 (by rw [List.length_drop]; omega) (by rw [List.length_drop]; omega)
theorem Pre.lex {v : List Int} : ∀ (ts : List (S32 × Nat)) (u : List Int) (off f : Nat), Pre v ts u off → (u ++ v).length < f →
    Pure.lex f (u ++ v) off = (ts ++ (Pure.lex f v (off + u.length)).1, (Pure.lex f v (off + u.length)).2)
  | [], u, off, f, h, hf => by
    obtain ⟨f, rfl⟩ : ∃ m, f = m + 1 := ⟨f - 1, by omega⟩
    rw [lex_step, lex_step, skip_over v u h]
    have : (u ++ v).drop (u.length + skip v) = v.drop (skip v) := by rw [← List.drop_drop, List.drop_left]
    rw [this, List.nil_append, show off + (u.length + skip v) = off + u.length + skip v by omega]
  | p :: ts, u, off, f, ⟨h1, t, h2, h3, h4, h5⟩, hf => by
    obtain ⟨f, rfl⟩ : ∃ m, f = m + 1 := ⟨f - 1, by omega⟩
    have hlt := tokS_len _ t h2
    have hd : (u ++ v).drop (skip (u ++ v)) = u.drop (skip (u ++ v)) ++ v := List.drop_append_of_le_length (by omega)
    have hne : ∃ c r, u.drop (skip (u ++ v)) ++ v = c :: r := by
      cases hq : u.drop (skip (u ++ v)) ++ v with
      | nil => rw [hq] at hlt; simp at hlt; omega
      | cons c r => exact ⟨c, r, rfl⟩
    obtain ⟨c, r, hcr⟩ := hne
    have hd2 : (u.drop (skip (u ++ v)) ++ v).drop t.2.2.2 = u.drop (skip (u ++ v) + t.2.2.2) ++ v := by rw [List.drop_append_of_le_length (by rw [List.length_drop]; omega), List.drop_drop]
    have hu : (u.drop (skip (u ++ v) + t.2.2.2) ++ v).length < f := by rw [List.length_append, List.length_drop]; rw [List.length_append] at hf; omega
    have ih := Pre.lex ts _ _ f h5 hu
    have hlen : off + skip (u ++ v) + t.2.2.2 + (u.drop (skip (u ++ v) + t.2.2.2)).length = off + u.length := by rw [List.length_drop]; omega
    rw [hlen] at ih
    rw [lex_step, hd, hcr]
    dsimp only
    rw [← hcr, h2]
    dsimp only
    rw [hd2, ih, ← h4]
    rw [lex_more (f + 1) f v _ (by rw [List.length_append] at hu; omega) (by rw [List.length_append] at hu; omega)]
    rfl
end Go.Proofs.Ytildiabokdfjgaa.Pure
