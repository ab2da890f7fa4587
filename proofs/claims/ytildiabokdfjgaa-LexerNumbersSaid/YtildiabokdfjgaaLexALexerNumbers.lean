/- What the lexer's functions come to, as functions of what is left of the query. -/
import Derived.Test.YtildiabokdfjgaaPLexerNumbersx5
import Derived.Test.YtildiabokdfjgaaDec
namespace Go.Proofs.Ytildiabokdfjgaa.Pure
open Go.RowKit Go.Proofs.Ytildiabokdfjgaa.PLexerNumbers Go.Proofs.YtildiabokdfjgaaW.PrintWords Go.Proofs.YtildiabokdfjgaaW.PrintLast
set_option linter.unusedVariables false
set_option linter.unusedSimpArgs false

theorem rd_nat (l : List Int) (i : Nat) (h : i < l.length) : rd l (i : Int) = l[i] := by
  unfold rd; simp [h]
theorem wrap_next {i n : Nat} (h : i ≤ n) (hn : n ≤ 1000000) : wrap64 ((i : Int) + 1) = ((i + 1 : Nat) : Int) := by unfold wrap64; omega
def letterB (c : Int) : Bool := decide (97 ≤ c ∧ c ≤ 122 ∨ 65 ≤ c ∧ c ≤ 90 ∨ c = 95)
def digitB (c : Int) : Bool := decide (48 ≤ c ∧ c ≤ 57)
def signB (c : Int) : Bool := decide (c = 46 ∨ c = 40 ∨ c = 41 ∨ c = 44 ∨ c = 91 ∨ c = 93)
def blankB (c : Int) : Bool := decide (c = 32 ∨ c = 9 ∨ c = 10 ∨ c = 13)
def alnB (c : Int) : Bool := letterB c || digitB c
theorem letter_spec (c : Int) : lexer_letter.f c = some (letterB c) := by
  unfold lexer_letter.f letterB
  repeat' split
  all_goals (refine congrArg some ?_; first | (symm; rw [decide_eq_true_eq]; omega) | (rw [Bool.eq_iff_iff]; simp; omega))
theorem digit_spec (c : Int) : lexer_digit.f c = some (digitB c) := by
  unfold lexer_digit.f digitB
  repeat' split
  all_goals (refine congrArg some ?_; rw [Bool.eq_iff_iff]; simp; omega)
theorem sign_spec (c : Int) : lexer_Sign.f c = some (signB c) := by
  unfold lexer_Sign.f signB
  repeat' split
  all_goals (refine congrArg some ?_; rw [Bool.eq_iff_iff]; simp; omega)
theorem blank_spec (c : Int) : lexer_blank.f c = some (blankB c) := by
  unfold lexer_blank.f blankB
  repeat' split
  all_goals (refine congrArg some ?_; rw [Bool.eq_iff_iff]; simp; omega)

/-- How many blanks come first; how many letters and digits. -/
def skip : List Int → Nat
  | [] => 0
  | c :: r => if blankB c = true then skip r + 1 else 0
def runN : List Int → Nat
  | [] => 0
  | c :: r => if alnB c = true then runN r + 1 else 0
theorem skip_le : ∀ s : List Int, skip s ≤ s.length
  | [] => Nat.le_refl _
  | c :: r => by
    unfold skip
    have := skip_le r
    split <;> simp <;> omega
theorem runN_le : ∀ s : List Int, runN s ≤ s.length
  | [] => Nat.le_refl _
  | c :: r => by
    unfold runN
    have := runN_le r
    split <;> simp <;> omega
theorem start_l0 (l : List Int) (hl : l.length ≤ 20000) (d : Nat) : ∀ (k i : Nat), l.length - i = d → i ≤ l.length → d < k → lexer_start.l0 k l (i : Int) = some ((i + skip (l.drop i) : Nat) : Int) := by
  induction d with
  | zero =>
    intro k i hd hi hk
    obtain ⟨k, rfl⟩ : ∃ m, k = m + 1 := ⟨k - 1, by omega⟩
    simp only [lexer_start.l0]
    rw [if_neg (by omega), List.drop_eq_nil_of_le (by omega)]
    rfl
  | succ d ih =>
    intro k i hd hi hk
    obtain ⟨k, rfl⟩ : ∃ m, k = m + 1 := ⟨k - 1, by omega⟩
    have hlt : i < l.length := by omega
    simp only [lexer_start.l0]
    rw [if_pos (by omega), if_pos (by omega), rd_nat l i hlt, blank_spec, Option.bind_some, List.drop_eq_getElem_cons hlt]
    unfold skip
    by_cases hc : blankB l[i] = true
    · rw [if_pos hc, if_pos hc, wrap_next (by omega : i ≤ 20000) (by omega), ih k (i + 1) (by omega) (by omega) (by omega)]
      exact congrArg some (by omega)
    · rw [if_neg hc, if_neg hc]
      rfl
theorem start_spec (l : List Int) (hl : l.length ≤ 20000) (k i : Nat) (hi : i ≤ l.length) (hk : l.length < k) : lexer_start.f k l (i : Int) = some ((i + skip (l.drop i) : Nat) : Int) :=
  start_l0 l hl (l.length - i) k i rfl hi (by omega)
theorem run_l0 (l : List Int) (hl : l.length ≤ 20000) (d : Nat) : ∀ (k i : Nat), l.length - i = d → i ≤ l.length → d < k → lexer_run.l0 k l (i : Int) = some ((i + runN (l.drop i) : Nat) : Int) := by
  induction d with
  | zero =>
    intro k i hd hi hk
    obtain ⟨k, rfl⟩ : ∃ m, k = m + 1 := ⟨k - 1, by omega⟩
    simp only [lexer_run.l0]
    rw [if_neg (by omega), List.drop_eq_nil_of_le (by omega)]
    rfl
  | succ d ih =>
    intro k i hd hi hk
    obtain ⟨k, rfl⟩ : ∃ m, k = m + 1 := ⟨k - 1, by omega⟩
    have hlt : i < l.length := by omega
    have hn := ih k (i + 1) (by omega) (by omega) (by omega)
    simp only [lexer_run.l0]
    rw [if_pos (by omega), if_pos (by omega), rd_nat l i hlt, letter_spec, digit_spec, List.drop_eq_getElem_cons hlt]
    simp only [Option.bind_some]
    unfold runN alnB
    rw [wrap_next (by omega : i ≤ 20000) (by omega), hn]
    cases letterB l[i] <;> cases digitB l[i] <;> simp <;> omega
theorem run_spec (l : List Int) (hl : l.length ≤ 20000) (k i : Nat) (hi : i ≤ l.length) (hk : l.length < k) : lexer_run.f k l (i : Int) = some ((i + runN (l.drop i) : Nat) : Int) :=
  run_l0 l hl (l.length - i) k i rfl hi (by omega)

/-- A text, behind its quote: what it means, and how many bytes it takes, its quote with them. -/
def txt : List Int → List Int → Option (List Int × Nat)
  | [], _ => none
  | [c], out => if c = 39 then (if 1000 < out.length then none else some (out, 1)) else none
  | c :: d :: r, out =>
    if c = 39 then (if 1000 < out.length then none else some (out, 1))
    else if c < 32 then none
    else if c = 92 then (if d = 39 ∨ d = 92 then (txt r (out ++ [d])).map (fun p => (p.1, p.2 + 2)) else none)
    else (txt (d :: r) (out ++ [c])).map (fun p => (p.1, p.2 + 1))
theorem text_l0 (l : List Int) (hl : l.length ≤ 20000) (d : Nat) : ∀ (k i : Nat) (out : List Int), l.length - i ≤ d → i ≤ l.length → d < k → out.length ≤ i →
    lexer_text.l0 k l out (i : Int) = some (match txt (l.drop i) out with | none => ((⟨#[]⟩ : ByteArray), -1) | some p => (strOfNums p.1, ((i + p.2 : Nat) : Int))) := by
  induction d with
  | zero =>
    intro k i out hd hi hk ho
    obtain ⟨k, rfl⟩ : ∃ m, k = m + 1 := ⟨k - 1, by omega⟩
    simp only [lexer_text.l0]
    rw [if_neg (by omega), List.drop_eq_nil_of_le (by omega)]
    rfl
  | succ d ih =>
    intro k i out hd hi hk ho
    obtain ⟨k, rfl⟩ : ∃ m, k = m + 1 := ⟨k - 1, by omega⟩
    simp only [lexer_text.l0]
    by_cases hlt : i < l.length
    case neg =>
      rw [if_neg (by omega), List.drop_eq_nil_of_le (by omega)]
      rfl
    rw [if_pos (by omega), if_pos (by omega), rd_nat l i hlt, List.drop_eq_getElem_cons hlt, wrap_next (by omega : i ≤ 20000) (by omega)]
    by_cases hn : i + 1 < l.length
    · rw [List.drop_eq_getElem_cons hn]
      unfold txt
      by_cases h39 : l[i] = 39
      · rw [if_pos h39, if_pos h39]
        by_cases h1 : 1000 < out.length
        · rw [if_pos (by omega), if_pos h1]
        · rw [if_neg (by omega), if_neg h1]
      · rw [if_neg h39, if_neg h39]
        by_cases h32 : l[i] < 32
        · rw [if_pos h32, if_pos h32]
        · rw [if_neg h32, if_neg h32]
          by_cases h92 : l[i] = 92
          · rw [if_pos h92, if_pos h92, if_neg (by omega), if_pos (by omega), if_pos (by omega), rd_nat l (i + 1) hn, wrap_next (by omega : i + 1 ≤ 20000) (by omega)]
            have hih := ih k (i + 1 + 1) (out ++ [l[i + 1]]) (by omega) (by omega) (by omega) (by simp; omega)
            by_cases ha : l[i + 1] = 39
            · rw [if_pos ha, if_pos (by omega), if_pos (Or.inl ha), hih]
              cases txt (List.drop (i + 1 + 1) l) (out ++ [l[i + 1]]) with
              | none => rfl
              | some p => exact congrArg some (Prod.ext rfl (by show ((i + 1 + 1 + p.2 : Nat) : Int) = ((i + (p.2 + 2) : Nat) : Int); omega))
            · rw [if_neg ha]
              by_cases hb : l[i + 1] = 92
              · rw [if_pos hb, if_pos (by omega), if_pos (Or.inr hb), hih]
                cases txt (List.drop (i + 1 + 1) l) (out ++ [l[i + 1]]) with
                | none => rfl
                | some p => exact congrArg some (Prod.ext rfl (by show ((i + 1 + 1 + p.2 : Nat) : Int) = ((i + (p.2 + 2) : Nat) : Int); omega))
              · rw [if_neg hb, if_neg (by omega)]
          · rw [if_neg h92, if_neg h92, if_pos (by omega)]
            have hih := ih k (i + 1) (out ++ [l[i]]) (by omega) (by omega) (by omega) (by simp; omega)
            rw [hih, List.drop_eq_getElem_cons hn]
            cases txt (l[i + 1] :: List.drop (i + 1 + 1) l) (out ++ [l[i]]) with
            | none => rfl
            | some p => exact congrArg some (Prod.ext rfl (by show ((i + 1 + p.2 : Nat) : Int) = ((i + (p.2 + 1) : Nat) : Int); omega))
    · have hnil : l.drop (i + 1) = [] := List.drop_eq_nil_of_le (by omega)
      rw [hnil]
      unfold txt
      by_cases h39 : l[i] = 39
      · rw [if_pos h39, if_pos h39]
        by_cases h1 : 1000 < out.length
        · rw [if_pos (by omega), if_pos h1]
        · rw [if_neg (by omega), if_neg h1]
      · rw [if_neg h39, if_neg h39]
        by_cases h32 : l[i] < 32
        · rw [if_pos h32]
        · rw [if_neg h32]
          by_cases h92 : l[i] = 92
          · rw [if_pos h92, if_pos (by omega)]
          · rw [if_neg h92, if_pos (by omega)]
            have hih := ih k (i + 1) (out ++ [l[i]]) (by omega) (by omega) (by omega) (by simp; omega)
            rw [hih, hnil]
            rfl
theorem text_spec (l : List Int) (hl : l.length ≤ 20000) (k i : Nat) (hi : i < l.length) (hk : l.length < k) :
    lexer_text.f k l (i : Int) = some (match txt (l.drop (i + 1)) [] with | none => ((⟨#[]⟩ : ByteArray), -1) | some p => (strOfNums p.1, ((i + 1 + p.2 : Nat) : Int))) := by
  unfold lexer_text.f
  rw [wrap_next (by omega : i ≤ 20000) (by omega)]
  exact text_l0 l hl (l.length - (i + 1)) k (i + 1) [] (by omega) (by omega) (by omega) (by simp)
end Go.Proofs.Ytildiabokdfjgaa.Pure
