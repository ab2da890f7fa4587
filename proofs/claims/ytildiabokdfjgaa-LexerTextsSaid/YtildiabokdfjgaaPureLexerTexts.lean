/- Any bytes from 32 on, between quotes, with a backslash ahead of each quote and each backslash, are one text, and that: for whatever bytes the law is handed; the walk's functions are those of the program. -/
import Derived.Test.YtildiabokdfjgaaLexCLexerTexts
namespace Go.Proofs.Ytildiabokdfjgaa.Pure
open Go.RowKit Go.Proofs.Ytildiabokdfjgaa.PLexerTexts Go.Proofs.YtildiabokdfjgaaW.PrintWords Go.Proofs.YtildiabokdfjgaaW.PrintLast
set_option linter.unusedVariables false
set_option linter.unusedSimpArgs false
set_option maxHeartbeats 800000

theorem known_at : wayfarerlaw08_known.f 60 = some true := by decide +kernel
theorem known_ev (k : Nat) (hk : 60 ≤ k) : wayfarerlaw08_known.f k = some true := at_rounds wayfarerlaw08_known.mono hk known_at
def esc : List Int → List Int
  | [] => []
  | c :: r => if c = 39 ∨ c = 92 then 92 :: c :: esc r else c :: esc r
theorem esc_append (a b : List Int) : esc (a ++ b) = esc a ++ esc b := by
  induction a with
  | nil => rfl
  | cons c r ih =>
    show (if c = 39 ∨ c = 92 then 92 :: c :: esc (r ++ b) else c :: esc (r ++ b)) = (if c = 39 ∨ c = 92 then 92 :: c :: esc r else c :: esc r) ++ esc b
    rw [ih]
    split <;> rfl
theorem esc_len (s : List Int) : (esc s).length ≤ 2 * s.length := by
  induction s with
  | nil => simp [esc]
  | cons c r ih =>
    unfold esc
    split <;> simp <;> omega
/-- What a text is, of what is escaped, with something behind. -/
theorem txt_esc (v : List Int) (hv : v ≠ []) : ∀ (s out : List Int), txt (esc s ++ v) out = if (∀ c ∈ s, 32 ≤ c) then (txt v (out ++ s)).map (fun p => (p.1, p.2 + (esc s).length)) else none
  | [], out => by
    rw [if_pos (by simp)]
    simp [esc]
  | c :: r, out => by
    have hne : esc r ++ v ≠ [] := by simp [hv]
    by_cases h : c = 39 ∨ c = 92
    · have ih := txt_esc v hv r (out ++ [c])
      have e : esc (c :: r) ++ v = 92 :: c :: (esc r ++ v) := by simp only [esc]; rw [if_pos h]; rfl
      have el : (esc (c :: r)).length = (esc r).length + 2 := by simp only [esc]; rw [if_pos h]; simp
      rw [List.append_assoc, List.singleton_append] at ih
      rw [e, el]
      generalize txt v (out ++ c :: r) = q at ih ⊢
      unfold txt
      rw [if_neg (by decide), if_neg (by decide), if_pos rfl, if_pos h, ih]
      have hc : 32 ≤ c := by omega
      by_cases hr : ∀ x ∈ r, 32 ≤ x
      · rw [if_pos hr, if_pos (by intro x hx; rcases List.mem_cons.1 hx with rfl | hx; exact hc; exact hr x hx)]
        cases q with
        | none => rfl
        | some p => exact congrArg some (Prod.ext rfl (by show p.2 + (esc r).length + 2 = p.2 + ((esc r).length + 2); omega))
      · rw [if_neg hr, if_neg (fun h' => hr fun x hx => h' x (List.mem_cons_of_mem _ hx))]
        rfl
    · have ih := txt_esc v hv r (out ++ [c])
      have e : esc (c :: r) ++ v = c :: (esc r ++ v) := by simp only [esc]; rw [if_neg h]; rfl
      have el : (esc (c :: r)).length = (esc r).length + 1 := by simp only [esc]; rw [if_neg h]; simp
      rw [e, el]
      obtain ⟨d, t, hdt⟩ : ∃ d t, esc r ++ v = d :: t := by
        cases hh : esc r ++ v with
        | nil => exact absurd hh hne
        | cons d t => exact ⟨d, t, rfl⟩
      rw [hdt] at ih ⊢
      rw [List.append_assoc, List.singleton_append] at ih
      generalize txt v (out ++ c :: r) = q at ih ⊢
      unfold txt
      rw [if_neg (fun h' => h (.inl h'))]
      by_cases hc : c < 32
      · rw [if_pos hc, if_neg (fun h' => by have := h' c List.mem_cons_self; omega)]
      · rw [if_neg hc, if_neg (fun h' => h (.inr h')), ih]
        by_cases hr : ∀ x ∈ r, 32 ≤ x
        · rw [if_pos hr, if_pos (by intro x hx; rcases List.mem_cons.1 hx with rfl | hx; omega; exact hr x hx)]
          cases q with
          | none => rfl
          | some p => exact congrArg some (Prod.ext rfl (by show p.2 + (esc r).length + 1 = p.2 + ((esc r).length + 1); omega))
        · rw [if_neg hr, if_neg (fun h' => hr fun x hx => h' x (List.mem_cons_of_mem _ hx))]
          rfl
/-- Without its end: none. -/
theorem txt_open : ∀ (s out : List Int), txt (esc s) out = none
  | [], out => rfl
  | c :: r, out => by
    by_cases h : c = 39 ∨ c = 92
    · have e : esc (c :: r) = 92 :: c :: esc r := by simp only [esc]; rw [if_pos h]
      rw [e]
      unfold txt
      rw [if_neg (by decide), if_neg (by decide), if_pos rfl, if_pos h, txt_open r]
      rfl
    · have e : esc (c :: r) = c :: esc r := by simp only [esc]; rw [if_neg h]
      have ih := txt_open r (out ++ [c])
      rw [e]
      cases hr : esc r with
      | nil =>
        unfold txt
        rw [if_neg (fun h' => h (.inl h'))]
      | cons d t =>
        rw [hr] at ih
        unfold txt
        rw [if_neg (fun h' => h (.inl h')), ih]
        split
        · rfl
        · rw [if_neg (fun h' => h (.inr h'))]
          rfl
/-- What a query comes to that begins with a quote. -/
theorem said_quote (t : List Int) (f : Nat) (hf : t.length + 2 ≤ f) : said (lex f (39 :: t) 0) = match txt t [] with
    | none => ([], 0, 30)
    | some p => if (t.drop p.2) = [] then ([⟨3, 0, strOfNums p.1, 0⟩], 0, 0) else said (lex f (39 :: t) 0) := by
  obtain ⟨g, rfl⟩ : ∃ g, f = g + 2 := ⟨f - 2, by omega⟩
  have hs : skip (39 :: t) = 0 := by unfold skip; rw [if_neg (by decide)]
  have hl : letterB 39 = false := by decide
  have hd : (digitB 39 || (39 : Int) == 45) = false := by decide
  cases ht : txt t [] with
  | none =>
    have : lex (g + 2) (39 :: t) 0 = ([], some 0) := by
      simp only [lex]
      rw [hs, List.drop_zero]
      simp only
      rw [tokS_cons, hl, if_neg (by decide), hd, if_neg (by decide), if_pos rfl, ht]
    rw [this]
    rfl
  | some p =>
    dsimp only
    by_cases he : t.drop p.2 = []
    · rw [if_pos he]
      have : lex (g + 2) (39 :: t) 0 = ([(⟨3, 0, strOfNums p.1, 0⟩, p.2 + 1)], none) := by
        simp only [lex]
        rw [hs, List.drop_zero]
        simp only
        rw [tokS_cons, hl, if_neg (by decide), hd, if_neg (by decide), if_pos rfl, ht]
        simp [he, skip]
      rw [this]
      rfl
    · rw [if_neg he]
theorem l0_loop (l : List Int) (hl : l.length ≤ 1500) (a : Int) : ∀ (d K i : Nat) (rt : Bool), l.length - i = d → i ≤ l.length → 1 ≤ K →
    wayfarerlaw08_LexerTexts.l0 (K + d) l a (39 :: esc (l.take i)) rt (i : Int) = wayfarerlaw08_LexerTexts.l0 K l a (39 :: esc l) (rt && (l.drop i).all (fun c => decide (32 ≤ c))) (l.length : Int) := by
  intro d
  induction d with
  | zero =>
    intro K i rt hd hi hK
    have : i = l.length := by omega
    subst this
    rw [List.take_length, List.drop_length]
    simp
  | succ d ih =>
    intro K i rt hd hi hK
    have hlt : i < l.length := by omega
    have hn : ∀ rt', wayfarerlaw08_LexerTexts.l0 (K + d) l a (39 :: esc (l.take (i + 1))) rt' ((i + 1 : Nat) : Int) = _ := fun rt' => ih K (i + 1) rt' (by omega) (by omega) hK
    have et : l.take (i + 1) = l.take i ++ [l[i]] := (List.take_succ_eq_append_getElem hlt)
    have ee : 39 :: esc (l.take (i + 1)) = if l[i] = 39 ∨ l[i] = 92 then (39 :: esc (l.take i)) ++ [92] ++ [l[i]] else (39 :: esc (l.take i)) ++ [l[i]] := by
      rw [et, esc_append]
      simp only [esc]
      split <;> simp
    have hw : wrap64 ((i : Int) + 1) = ((i + 1 : Nat) : Int) := wrap_next (by omega : i ≤ 1500) (by omega)
    have hle : (esc (l.take i)).length ≤ 3000 := by have := esc_len (l.take i); rw [List.length_take] at this; omega
    have ed : l.drop i = l[i] :: l.drop (i + 1) := List.drop_eq_getElem_cons hlt
    have hr : (rt && (l.drop i).all (fun c => decide (32 ≤ c))) = ((if rt = true then decide (l[i] ≥ 32) else false) && (l.drop (i + 1)).all (fun c => decide (32 ≤ c))) := by
      rw [ed, List.all_cons]
      cases rt <;> simp
    rw [show K + (d + 1) = (K + d) + 1 by omega]
    simp only [wayfarerlaw08_LexerTexts.l0]
    rw [if_pos (by omega), if_pos (by omega), rd_nat l i hlt, hw, hr]
    by_cases h39 : l[i] = 39
    · rw [if_pos (Or.inl h39)] at ee
      rw [if_pos h39, if_pos (by simp; omega), Option.bind_some]
      cases rt with
      | true => rw [if_pos rfl, if_pos (by simp; omega), if_pos rfl, ← hn, ee]
      | false => rw [if_neg (by decide), if_pos (by simp; omega), if_neg (by decide), ← hn, ee]
    · by_cases h92 : l[i] = 92
      · rw [if_pos (Or.inr h92)] at ee
        rw [if_neg h39, if_pos h92, if_pos (by simp; omega), Option.bind_some]
        cases rt with
        | true => rw [if_pos rfl, if_pos (by simp; omega), if_pos rfl, ← hn, ee]
        | false => rw [if_neg (by decide), if_pos (by simp; omega), if_neg (by decide), ← hn, ee]
      · rw [if_neg (by omega)] at ee
        rw [if_neg h39, if_neg h92]
        cases rt with
        | true => rw [if_pos rfl, if_pos (by simp; omega), if_pos rfl, ← hn, ee]
        | false => rw [if_neg (by decide), if_pos (by simp; omega), if_neg (by decide), ← hn, ee]
theorem LexerTexts : wayfarerlaw08_LexerTexts.Pure := by
  intro l a _ _ hwl ha
  refine ⟨9000, ?_⟩
  unfold wayfarerlaw08_LexerTexts.f
  by_cases hl : l.length ≤ 1500
  case neg => rw [if_pos (by omega), known_ev _ (by omega)]; rfl
  rw [if_neg (by omega)]
  have h0 := l0_loop l hl a l.length (9000 - l.length) 0 (decide ((l.length : Int) ≤ 1000)) rfl (by omega) (by omega)
  rw [show 9000 - l.length + l.length = 9000 by omega, List.take_zero] at h0
  rw [show ([39] : List Int) = 39 :: esc [] from rfl, show (0 : Int) = ((0 : Nat) : Int) from rfl, h0]
  obtain ⟨k, hk⟩ : ∃ k, 9000 - l.length = k + 1 := ⟨9000 - l.length - 1, by omega⟩
  rw [hk]
  have hk2 : 7000 ≤ k := by omega
  clear hk h0
  have hle := esc_len l
  have s1 : said (lex ((39 :: esc l).length + 1) (39 :: esc l) 0) = ([], 0, 30) := by rw [said_quote _ _ (by simp), txt_open]
  have q1 : 39 :: esc l ++ [39] = 39 :: (esc l ++ [39]) := rfl
  simp only [wayfarerlaw08_LexerTexts.l0, List.drop_zero]
  rw [if_neg (by omega), All_spec _ (by simp; omega) k (by simp; omega), Option.bind_some, s1]
  dsimp only
  rw [if_pos (by simp; omega), Option.bind_some, q1, All_spec _ (by simp; omega) k (by simp; omega), Option.bind_some]
  by_cases hall : ∀ c ∈ l, 32 ≤ c
  · have hb : (l.all fun c => decide (32 ≤ c)) = true := by rw [List.all_eq_true]; intro c hc; exact decide_eq_true (hall c hc)
    have hte := txt_esc [39] (by simp) l []
    rw [if_pos hall, List.nil_append] at hte
    by_cases h1000 : l.length ≤ 1000
    · have e1 : txt [39] l = some (l, 1) := by unfold txt; rw [if_pos rfl, if_neg (by omega)]
      rw [e1] at hte
      have s2 : said (lex ((39 :: (esc l ++ [39])).length + 1) (39 :: (esc l ++ [39])) 0) = ([⟨3, 0, strOfNums l, 0⟩], 0, 0) := by
        rw [said_quote _ _ (by simp), hte]
        exact if_pos (show List.drop (1 + (esc l).length) (esc l ++ [39]) = [] by rw [List.drop_eq_nil_iff]; simp; omega)
      rw [s2, hb, decide_eq_true (show (l.length : Int) ≤ 1000 by omega)]
      dsimp only
      rw [show (true && true) = true from rfl, if_pos rfl]
      have ew : wrap64 (((39 :: (esc l ++ [39])).length : Int) - 1) = ((39 :: esc l).length : Int) := by
        rw [Dec.wrap_few (by simp; omega) (by simp; omega)]
        simp
      rw [ew, if_pos (by omega), if_pos (by simp; omega), Option.bind_some, Int.toNat_natCast]
      have etk : (39 :: (esc l ++ [39])).take (39 :: esc l).length = 39 :: esc l := by
        rw [← List.cons_append, List.take_left]
      rw [etk, if_pos (by simp; omega), Option.bind_some, Option.bind_some, List.nil_append, if_pos (by simp; omega)]
      have ha0 : 0 ≤ a := by
        have h2 : IntKind.u8.min ≤ a ∧ a ≤ IntKind.u8.max := by simpa [Lit.wf] using ha
        have h3 : IntKind.u8.min = 0 := by decide +kernel
        omega
      have hm : Int.tmod a 32 < 32 := Int.tmod_lt_of_pos a (by decide)
      have hm0 : 0 ≤ Int.tmod a 32 := Int.tmod_nonneg _ ha0
      generalize Int.tmod a 32 = m at hm hm0
      have s3 : said (lex ((39 :: (esc l ++ [m, 39])).length + 1) (39 :: (esc l ++ [m, 39])) 0) = ([], 0, 30) := by
        have e2 : txt [m, 39] ([] ++ l) = none := by unfold txt; rw [if_neg (by omega), if_pos (by omega)]
        rw [said_quote _ _ (by simp), txt_esc [m, 39] (by simp), if_pos hall, e2]
        rfl
      rw [show 39 :: esc l ++ [m, 39] = 39 :: (esc l ++ [m, 39]) from rfl, All_spec _ (by simp; omega) k (by simp; omega), Option.bind_some, s3]
      dsimp only
      have e3 : (rd_T32 [(⟨3, 0, strOfNums l, 0⟩ : S32)] 0) = ⟨3, 0, strOfNums l, 0⟩ := rfl
      rw [e3]
      rw [if_pos rfl, if_pos rfl, if_pos (by simp), if_pos (by simp), if_pos rfl, if_pos rfl, if_pos rfl, if_pos rfl, if_pos rfl, if_pos rfl, known_ev _ (by omega)]
      rfl
    · have e1 : txt [39] l = none := by unfold txt; rw [if_pos rfl, if_pos (by omega)]
      rw [e1] at hte
      have s2 : said (lex ((39 :: (esc l ++ [39])).length + 1) (39 :: (esc l ++ [39])) 0) = ([], 0, 30) := by
        rw [said_quote _ _ (by simp), hte]
        rfl
      rw [s2, decide_eq_false (show ¬ (l.length : Int) ≤ 1000 by omega)]
      rw [Bool.false_and]
      dsimp only
      rw [if_neg (by decide), if_pos rfl, if_pos rfl, known_ev _ (by omega)]
      rfl
  · have hb : (l.all fun c => decide (32 ≤ c)) = false := by
      rw [Bool.eq_false_iff]
      intro h
      rw [List.all_eq_true] at h
      exact hall fun c hc => of_decide_eq_true (h c hc)
    have s2 : said (lex ((39 :: (esc l ++ [39])).length + 1) (39 :: (esc l ++ [39])) 0) = ([], 0, 30) := by
      rw [said_quote _ _ (by simp), txt_esc [39] (by simp), if_neg hall]
    rw [s2, hb, Bool.and_false]
    dsimp only
    rw [if_neg (by decide), if_pos rfl, if_pos rfl, known_ev _ (by omega)]
    rfl
end Go.Proofs.Ytildiabokdfjgaa.Pure
