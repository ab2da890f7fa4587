/- All tokens: what lexer.All comes to. -/
import Derived.Test.YtildiabokdfjgaaLexBLexerNumbers
namespace Go.Proofs.Ytildiabokdfjgaa.Pure
open Go.RowKit Go.Proofs.Ytildiabokdfjgaa.PLexerNumbers Go.Proofs.YtildiabokdfjgaaW.PrintWords Go.Proofs.YtildiabokdfjgaaW.PrintLast
set_option linter.unusedVariables false
set_option linter.unusedSimpArgs false

theorem txt_len : ∀ (s out : List Int) (p : List Int × Nat), txt s out = some p → 0 < p.2 ∧ p.2 ≤ s.length
  | [], out, p, h => by simp [txt] at h
  | [c], out, p, h => by
    unfold txt at h
    split at h
    · split at h
      · cases h
      · cases h; simp
    · cases h
  | c :: d :: r, out, p, h => by
    unfold txt at h
    split at h
    · split at h
      · cases h
      · cases h; simp
    · split at h
      · cases h
      · split at h
        · split at h
          · obtain ⟨q, hq, rfl⟩ := Option.map_eq_some_iff.mp h
            have := txt_len r _ q hq
            simp; omega
          · cases h
        · obtain ⟨q, hq, rfl⟩ := Option.map_eq_some_iff.mp h
          have := txt_len (d :: r) _ q hq
          simp at this ⊢; omega
theorem tokS_len (s : List Int) (t : Int × ByteArray × Int × Nat) (h : tokS s = some t) : 0 < t.2.2.2 ∧ t.2.2.2 ≤ s.length := by
  cases s with
  | nil => cases h
  | cons c r =>
    rw [tokS_cons] at h
    have hr := runN_le r
    split at h
    · cases h; simp; omega
    · split at h
      · split at h
        · cases h; simp; omega
        · cases h
      · split at h
        · cases hx : txt r [] with
          | none => rw [hx] at h; cases h
          | some p =>
            rw [hx] at h
            have := txt_len r [] p hx
            cases h
            simp; omega
        · split at h
          · cases h; simp
          · cases h
/-- The tokens of what is left, the number of whose first byte is off; each with the place behind it; and where there is none, if so. -/
def lex : Nat → List Int → Nat → List (S32 × Nat) × Option Nat
  | 0, _, _ => ([], none)
  | f + 1, s, off =>
    match s.drop (skip s) with
    | [] => ([], none)
    | c :: r => match tokS (c :: r) with
      | none => ([], some (off + skip s))
      | some t => ((⟨t.1, ((off + skip s : Nat) : Int), t.2.1, t.2.2.1⟩, off + skip s + t.2.2.2) :: (lex f ((c :: r).drop t.2.2.2) (off + skip s + t.2.2.2)).1, (lex f ((c :: r).drop t.2.2.2) (off + skip s + t.2.2.2)).2)
theorem lex_len : ∀ (f : Nat) (s : List Int) (off : Nat), (lex f s off).1.length ≤ s.length
  | 0, s, off => by simp [lex]
  | f + 1, s, off => by
    unfold lex
    split
    · simp
    · rename_i c r hcr
      split
      · simp
      · rename_i t ht
        have h1 := lex_len f ((c :: r).drop t.2.2.2) (off + skip s + t.2.2.2)
        have h2 := tokS_len _ t ht
        have h3 : (c :: r).length ≤ s.length := by rw [← hcr, List.length_drop]; omega
        rw [List.length_drop] at h1
        simp only [List.length_cons] at h1 h2 h3 ⊢
        omega
def pairs (ts : List (S32 × Nat)) : List (S32 × Int) := ts.map fun p => (p.1, (p.2 : Int))
theorem toks_spec (l : List Int) (hl : l.length ≤ 20000) : ∀ (f k i : Nat), i ≤ l.length → l.length - i < f → l.length + 2 + f < k →
    lexer_All.toks k l ((i + skip (l.drop i) : Nat) : Int) = some (pairs (lex f (l.drop i) i).1) := by
  intro f
  induction f with
  | zero => intro k i hi hf; omega
  | succ f ih =>
    intro k i hi hf hk
    obtain ⟨k, rfl⟩ : ∃ m, k = m + 1 := ⟨k - 1, by omega⟩
    have hs := skip_le (l.drop i)
    rw [List.length_drop] at hs
    unfold lex
    rw [List.drop_drop]
    obtain ⟨a, ha⟩ : ∃ a, i + skip (l.drop i) = a := ⟨_, rfl⟩
    rw [ha]
    simp only [lexer_All.toks]
    by_cases hlt : a < l.length
    · rw [if_pos (show (a : Int) < (l.length : Int) by omega)]
      have htok := token_spec l hl k a hlt (by omega)
      have hdr := List.drop_eq_getElem_cons hlt
      rw [hdr] at htok ⊢
      dsimp only
      cases ht : tokS (l[a] :: l.drop (a + 1)) with
      | none =>
        rw [ht] at htok
        obtain ⟨x1, x2, x3, x4, hx⟩ := htok
        rw [hx, Option.bind_some, if_pos (show (-1 : Int) < 0 by decide)]
        rfl
      | some t =>
        rw [ht] at htok
        dsimp only at htok
        have hlen := tokS_len _ t ht
        rw [← hdr, List.length_drop] at hlen
        rw [htok, Option.bind_some]
        dsimp only
        rw [if_neg (show ¬ ((a + t.2.2.2 : Nat) : Int) < 0 by omega), htok, Option.bind_some, start_spec l hl k (a + t.2.2.2) (by omega) (by omega), Option.bind_some, ih k (a + t.2.2.2) (by omega) (by omega) (by omega), Option.bind_some, ← hdr, List.drop_drop]
        rfl
    · rw [if_neg (show ¬ (a : Int) < (l.length : Int) by omega), List.drop_eq_nil_of_le (by omega)]
      rfl
def lastN (i : Nat) (ts : List (S32 × Nat)) : Nat := match ts.getLast? with | none => i | some p => p.2
theorem lastN_cons (i : Nat) (p : S32 × Nat) (ts : List (S32 × Nat)) : lastN i (p :: ts) = lastN p.2 ts := by
  unfold lastN
  cases ts with
  | nil => rfl
  | cons q r =>
    rw [List.getLast?_cons_cons]
    cases h : (q :: r).getLast? with
    | none => simp at h
    | some _ => rfl
theorem last_spec (l : List Int) : ∀ (f i : Nat), i ≤ l.length → l.length - i < f →
    lastN i (lex f (l.drop i) i).1 ≤ l.length ∧ (match (lex f (l.drop i) i).2 with
      | none => lastN i (lex f (l.drop i) i).1 + skip (l.drop (lastN i (lex f (l.drop i) i).1)) = l.length
      | some p => lastN i (lex f (l.drop i) i).1 + skip (l.drop (lastN i (lex f (l.drop i) i).1)) = p ∧ p < l.length) := by
  intro f
  induction f with
  | zero => intro i hi hf; omega
  | succ f ih =>
    intro i hi hf
    have hs := skip_le (l.drop i)
    rw [List.length_drop] at hs
    have e : lex (f + 1) (l.drop i) i = match l.drop (i + skip (l.drop i)) with
      | [] => ([], none)
      | c :: r => match tokS (c :: r) with
        | none => ([], some (i + skip (l.drop i)))
        | some t => ((⟨t.1, ((i + skip (l.drop i) : Nat) : Int), t.2.1, t.2.2.1⟩, i + skip (l.drop i) + t.2.2.2) :: (lex f ((c :: r).drop t.2.2.2) (i + skip (l.drop i) + t.2.2.2)).1, (lex f ((c :: r).drop t.2.2.2) (i + skip (l.drop i) + t.2.2.2)).2) := by
      rw [← List.drop_drop]; rfl
    rw [e]
    by_cases hlt : i + skip (l.drop i) < l.length
    · have hdr := List.drop_eq_getElem_cons hlt
      rw [hdr]
      dsimp only
      cases ht : tokS (l[i + skip (l.drop i)] :: l.drop (i + skip (l.drop i) + 1)) with
      | none => exact ⟨hi, rfl, hlt⟩
      | some t =>
        dsimp only
        have hlen := tokS_len _ t ht
        rw [← hdr, List.length_drop] at hlen
        rw [lastN_cons, ← hdr, List.drop_drop]
        exact ih _ (by omega) (by omega)
    · rw [List.drop_eq_nil_of_le (by omega)]
      exact ⟨hi, by show i + skip (l.drop i) = l.length; omega⟩
/-- What lexer.All says. -/
def said (q : List (S32 × Nat) × Option Nat) : List S32 × Int × Int := match q.2 with | none => (q.1.map (·.1), 0, 0) | some p => ([], (p : Int), 30)
theorem All_spec (l : List Int) (hl : l.length ≤ 20000) (k : Nat) (hk : 2 * l.length + 10 < k) : lexer_All.f k l = some (said (lex (l.length + 1) l 0)) := by
  unfold lexer_All.f
  rw [if_neg (by omega)]
  have h0 := start_spec l hl k 0 (by omega) (by omega)
  have h1 := toks_spec l hl (l.length + 1) k 0 (by omega) (by omega) (by omega)
  have h2 := last_spec l (l.length + 1) 0 (by omega) (by omega)
  have h3 := lex_len (l.length + 1) l 0
  rw [List.drop_zero] at h0 h1 h2
  rw [show ((0 : Nat) : Int) = 0 from rfl] at h0
  rw [h0, Option.bind_some, h1, Option.bind_some]
  have hle : lexer_All.lastEnd (pairs (lex (l.length + 1) l 0).1) = ((lastN 0 (lex (l.length + 1) l 0).1 : Nat) : Int) := by
    unfold lexer_All.lastEnd lastN pairs
    rw [List.getLast?_map]
    cases (lex (l.length + 1) l 0).1.getLast? <;> rfl
  have hpl : (pairs (lex (l.length + 1) l 0).1).length = (lex (l.length + 1) l 0).1.length := by unfold pairs; rw [List.length_map]
  rw [if_pos (by omega), hle]
  obtain ⟨h4, h5⟩ := h2
  rw [start_spec l hl k _ h4 (by omega), Option.bind_some]
  unfold said
  cases he : (lex (l.length + 1) l 0).2 with
  | none =>
    rw [he] at h5
    dsimp only at h5 ⊢
    rw [h5, if_neg (by omega)]
    unfold pairs
    rw [List.map_map]
    rfl
  | some p =>
    rw [he] at h5
    dsimp only at h5 ⊢
    rw [h5.1, if_pos (by omega)]
/-- lexer.All of what is too long. -/
theorem All_long (l : List Int) (hl : 20000 < l.length) (k : Nat) : lexer_All.f k l = some ([], 0, 3) := by
  unfold lexer_All.f
  rw [if_pos hl]
end Go.Proofs.Ytildiabokdfjgaa.Pure
