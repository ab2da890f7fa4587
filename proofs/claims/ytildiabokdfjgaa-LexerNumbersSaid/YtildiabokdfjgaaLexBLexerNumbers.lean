/- One token, and all of them. -/
import Derived.Test.YtildiabokdfjgaaLexALexerNumbers
namespace Go.Proofs.Ytildiabokdfjgaa.Pure
open Go.RowKit Go.Proofs.Ytildiabokdfjgaa.PLexerNumbers Go.Proofs.YtildiabokdfjgaaW.PrintWords Go.Proofs.YtildiabokdfjgaaW.PrintLast
set_option linter.unusedVariables false
set_option linter.unusedSimpArgs false

theorem wrap_I64 (x : Int) : I64 (wrap64 x) := by unfold I64 wrap64; omega
theorem I64_ten : I64 10 := by unfold I64; omega
theorem parse_l1 (m : Bool) : ∀ (r : List UInt8) (n : Int), I64 n → ∃ v e, ints_Parse.l1 m r n = some (v, e) ∧ I64 v
  | [], n, hn => ⟨n, 0, rfl, hn⟩
  | c :: r, n, hn => by
    unfold ints_Parse.l1
    rw [show ints_mul.f n 10 = some (if I64 (n * 10) then (n * 10, true) else (0, false)) from by unfold ints_mul.f; rw [if_pos ⟨hn, I64_ten⟩], Option.bind_some]
    unfold ints_add.f
    rw [Option.bind_some]
    by_cases h : I64 (n * 10)
    · rw [if_pos h, if_pos rfl]
      dsimp only
      generalize (if m = true then -((c.toNat : Int) - 48) else (c.toNat : Int) - 48) = z
      split
      · exact parse_l1 m r _ (wrap_I64 _)
      · exact ⟨0, 10, rfl, by unfold I64; omega⟩
    · rw [if_neg h, if_neg (by decide)]
      exact ⟨0, 10, rfl, by unfold I64; omega⟩
theorem parse_rest (m : Bool) (d s : ByteArray) : ∃ v e, ints_Parse.rest m d s = some (v, e) ∧ I64 v := by
  have h0 : I64 0 := by unfold I64; omega
  unfold ints_Parse.rest
  split
  · exact ⟨0, 2, rfl, h0⟩
  · split
    · exact ⟨0, 2, rfl, h0⟩
    · unfold ints_Parse.loops
      split
      · exact parse_l1 m _ 0 h0
      · exact ⟨0, 2, rfl, h0⟩
def parsed (s : ByteArray) : Int × Int := (ints_Parse.f s).getD (0, 2)
theorem parse_spec (s : ByteArray) (hs : s.size ≤ 9223372036854775807) : ints_Parse.f s = some (parsed s) ∧ I64 (parsed s).1 := by
  have h : ∃ v e, ints_Parse.f s = some (v, e) ∧ I64 v := by
    unfold ints_Parse.f
    rw [if_neg (by omega)]
    split
    · exact ⟨0, 2, rfl, by unfold I64; omega⟩
    · split
      · exact parse_rest _ _ _
      · exact parse_rest _ _ _
  obtain ⟨v, e, h1, h2⟩ := h
  unfold parsed
  rw [h1]
  exact ⟨rfl, h2⟩

/-- The token that what is left begins with: its kind, its bytes, its number, and how many bytes it takes. -/
def tokS : List Int → Option (Int × ByteArray × Int × Nat)
  | [] => none
  | c :: r =>
    if letterB c = true then some (1, strOfNums (c :: r.take (runN r)), 0, runN r + 1)
    else if (digitB c || c == 45) = true then (if (parsed (strOfNums (c :: r.take (runN r)))).2 = 0 then some (2, strOfNums (c :: r.take (runN r)), (parsed (strOfNums (c :: r.take (runN r)))).1, runN r + 1) else none)
    else if c = 39 then (match txt r [] with | none => none | some p => some (3, strOfNums p.1, 0, p.2 + 1))
    else if signB c = true then some (4, strOfNums [c], 0, 1) else none
theorem tokS_cons (c : Int) (r : List Int) : tokS (c :: r) = if letterB c = true then some ((1 : Int), strOfNums (c :: r.take (runN r)), 0, runN r + 1)
    else if (digitB c || c == 45) = true then (if (parsed (strOfNums (c :: r.take (runN r)))).2 = 0 then some (2, strOfNums (c :: r.take (runN r)), (parsed (strOfNums (c :: r.take (runN r)))).1, runN r + 1) else none)
    else if c = 39 then (match txt r [] with | none => none | some p => some (3, strOfNums p.1, 0, p.2 + 1))
    else if signB c = true then some (4, strOfNums [c], 0, 1) else none := rfl
theorem cutN (l : List Int) (i n : Nat) (h : i < l.length) : (l.take ((i + (n + 1) : Nat) : Int).toNat).drop (i : Int).toNat = l[i] :: (l.drop (i + 1)).take n := by
  rw [Int.toNat_natCast, Int.toNat_natCast, List.drop_take, show i + (n + 1) - i = n + 1 by omega, List.drop_eq_getElem_cons h, List.take_succ_cons]
theorem size_few (l : List Int) (n : Nat) (c : Int) (hl : l.length ≤ 20000) : (strOfNums (c :: l.take n)).size ≤ 9223372036854775807 := by
  have h : (strOfNums (c :: l.take n)).size = (c :: l.take n).length := by simp [strOfNums, ByteArray.size]
  rw [h, List.length_cons, List.length_take]
  omega
/-- What lexer.token says where there is none. -/
def NoTok (o : Option (Int × Int × ByteArray × Int × Int)) : Prop := ∃ a b c d, o = some (a, b, c, d, -1)
theorem token_spec (l : List Int) (hl : l.length ≤ 20000) (k i : Nat) (hi : i < l.length) (hk : l.length + 1 < k) :
    match tokS (l.drop i) with
    | none => NoTok (lexer_token.f k l (i : Int))
    | some t => lexer_token.f k l (i : Int) = some (t.1, (i : Int), t.2.1, t.2.2.1, ((i + t.2.2.2 : Nat) : Int)) := by
  obtain ⟨k, rfl⟩ : ∃ m, k = m + 1 := ⟨k - 1, by omega⟩
  have hr : ∀ j, j ≤ l.length → runN (l.drop j) ≤ l.length - j := fun j hj => by have := runN_le (l.drop j); rwa [List.length_drop] at this
  have hri := hr (i + 1) (by omega)
  have hw : wrap64 ((i : Int) + 1) = ((i + 1 : Nat) : Int) := wrap_next (by omega : i ≤ 20000) (by omega)
  rw [List.drop_eq_getElem_cons hi, tokS_cons]
  unfold lexer_token.f
  rw [if_pos (show (0 : Int) ≤ (i : Int) by omega), if_pos (show (i : Int) < (l.length : Int) by omega), rd_nat l i hi, letter_spec, digit_spec, Option.bind_some]
  by_cases h1 : letterB l[i] = true
  · have e : runN (l.drop i) = runN (l.drop (i + 1)) + 1 := by
      rw [List.drop_eq_getElem_cons hi]
      show (if alnB l[i] = true then runN (l.drop (i + 1)) + 1 else 0) = _
      rw [if_pos (by unfold alnB; rw [h1]; rfl)]
    rw [if_pos h1, if_pos h1, run_spec l hl (k + 1) i (by omega) (by omega), Option.bind_some, e, if_pos (by omega), if_pos (by omega), cutN l i _ hi]
  · rw [if_neg h1, if_neg h1, Option.bind_some]
    have hj : (if digitB l[i] = true then lexer_token.j0 (k + 1) l i l[i] true 0 i (⟨#[]⟩ : ByteArray) 0 else lexer_token.j0 (k + 1) l i l[i] (l[i] == 45) 0 i (⟨#[]⟩ : ByteArray) 0) = lexer_token.j0 (k + 1) l i l[i] (digitB l[i] || l[i] == 45) 0 i (⟨#[]⟩ : ByteArray) 0 := by
      cases digitB l[i] <;> rfl
    rw [hj]
    simp only [lexer_token.j0]
    by_cases h2 : (digitB l[i] || l[i] == 45) = true
    · rw [if_pos h2, if_pos h2, hw, run_spec l hl k (i + 1) (by omega) (by omega), Option.bind_some, show i + 1 + runN (l.drop (i + 1)) = i + (runN (l.drop (i + 1)) + 1) by omega, if_pos (show (0 : Int) ≤ (i : Int) by omega), if_pos (show (i : Int) ≤ ((i + (runN (l.drop (i + 1)) + 1) : Nat) : Int) by omega), if_pos (show ((i + (runN (l.drop (i + 1)) + 1) : Nat) : Int) ≤ (l.length : Int) by omega), cutN l i _ hi,
        (parse_spec _ (size_few _ _ _ (by rw [List.length_drop]; omega))).1, Option.bind_some]
      by_cases h3 : (parsed (strOfNums (l[i] :: List.take (runN (l.drop (i + 1))) (l.drop (i + 1))))).2 = 0
      · rw [if_pos h3, if_pos h3]
      · rw [if_neg h3, if_neg h3]
        exact ⟨_, _, _, _, rfl⟩
    · rw [if_neg h2, if_neg h2]
      by_cases h3 : l[i] = 39
      · rw [if_pos h3, if_pos h3, text_spec l hl k i hi (by omega), Option.bind_some]
        cases txt (l.drop (i + 1)) [] with
        | none => exact ⟨_, _, _, _, rfl⟩
        | some p => exact congrArg (fun e : Int => some ((3 : Int), (i : Int), strOfNums p.1, (0 : Int), e)) (by show ((i + 1 + p.2 : Nat) : Int) = ((i + (p.2 + 1) : Nat) : Int); omega)
      · rw [if_neg h3, if_neg h3, sign_spec, Option.bind_some]
        by_cases h4 : signB l[i] = true
        · rw [if_pos h4, if_pos h4, hw, if_pos (by omega), if_pos (by omega), if_pos (by omega), show i + 1 = i + (0 + 1) by omega, cutN l i 0 hi, List.take_zero]
        · rw [if_neg h4, if_neg h4]
          exact ⟨_, _, _, _, rfl⟩
end Go.Proofs.Ytildiabokdfjgaa.Pure
