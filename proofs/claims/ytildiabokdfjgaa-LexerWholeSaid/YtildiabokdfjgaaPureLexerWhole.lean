import Derived.Test.YtildiabokdfjgaaLexCLexerWhole
namespace Go.Proofs.Ytildiabokdfjgaa.Pure
open Go.RowKit Go.Proofs.Ytildiabokdfjgaa.PLexerWhole Go.Proofs.YtildiabokdfjgaaW.PrintWords Go.Proofs.YtildiabokdfjgaaW.PrintLast
set_option linter.unusedVariables false
set_option linter.unusedSimpArgs false
set_option maxHeartbeats 800000

theorem known_at : wayfarerlaw08_known.f 60 = some true := by decide +kernel
theorem known_ev (k : Nat) (hk : 60 ≤ k) : wayfarerlaw08_known.f k = some true := at_rounds wayfarerlaw08_known.mono hk known_at
theorem blank_ref {c : Int} (h : blankB c = true) (k : Nat) (hk : 20 ≤ k) : wayfarerlaw08_blank.f k c = some true := by
  have h1 : c = 32 ∨ c = 9 ∨ c = 10 ∨ c = 13 := by simpa [blankB] using h
  refine at_rounds (wayfarerlaw08_blank.mono c) hk ?_
  rcases h1 with rfl | rfl | rfl | rfl <;> decide +kernel
theorem skip_blank : ∀ (s : List Int) (j : Nat) (h : j < s.length), j < skip s → blankB s[j] = true
  | [], j, h, _ => by simp at h
  | c :: r, j, h, hj => by
    unfold skip at hj
    split at hj
    · rename_i hc
      cases j with
      | zero => exact hc
      | succ j => exact skip_blank r j (by simpa using h) (by omega)
    · omega
theorem tokS_cases (c : Int) (r : List Int) (t : Int × ByteArray × Int × Nat) (h : tokS (c :: r) = some t) :
    (t.1 = 3 ∧ c = 39 ∧ ∃ p, txt r [] = some p ∧ t.2.2.2 = p.2 + 1) ∨ ((t.1 = 1 ∨ t.1 = 2 ∨ t.1 = 4) ∧ ∃ m, t.2.1 = strOfNums (c :: r.take m) ∧ t.2.2.2 = m + 1 ∧ m ≤ r.length) := by
  rw [tokS_cons] at h
  have hr := runN_le r
  split at h
  · cases h; exact .inr ⟨.inl rfl, _, rfl, rfl, hr⟩
  · split at h
    · split at h
      · cases h; exact .inr ⟨.inr (.inl rfl), _, rfl, rfl, hr⟩
      · cases h
    · split at h
      · cases hx : txt r [] with
        | none => rw [hx] at h; cases h
        | some p =>
          rw [hx] at h
          cases h
          exact .inl ⟨rfl, by assumption, p, rfl, rfl⟩
      · split at h
        · cases h; exact .inr ⟨.inr (.inr rfl), 0, by simp, rfl, by omega⟩
        · cases h
theorem tokS_kind (c : Int) (r : List Int) (t : Int × ByteArray × Int × Nat) (h : tokS (c :: r) = some t) : 1 ≤ t.1 ∧ t.1 ≤ 4 := by
  rcases tokS_cases c r t h with ⟨h, _⟩ | ⟨h, _⟩
  · omega
  · omega
theorem rdT_drop {T : List S32} {j : Nat} {p : S32} {r : List S32} (h : T.drop j = p :: r) : rd_T32 T (j : Int) = p ∧ j < T.length ∧ T.drop (j + 1) = r := by
  have hlt : j < T.length := by
    by_cases hj : j < T.length
    · exact hj
    · rw [List.drop_eq_nil_of_le (by omega)] at h; cases h
  rw [List.drop_eq_getElem_cons hlt] at h
  obtain ⟨h1, h2⟩ := List.cons.inj h
  refine ⟨?_, hlt, h2⟩
  unfold rd_T32
  rw [Int.toNat_natCast, List.getD_eq_getElem?_getD, List.getElem?_eq_getElem hlt]
  exact h1
/-- Over the blanks ahead of a token. -/
theorem l1_skip (l : List Int) (hl : l.length ≤ 4000) (T : List S32) (x7 : Int) (b : Nat) (hb : b < l.length) (h0 : 0 ≤ x7) (h1 : x7 < (T.length : Int)) (hT : (rd_T32 T x7).f1 = (b : Int)) : ∀ (d k i : Nat), b - i = d → i ≤ b → 20 ≤ k → (∀ j (h : j < l.length), i ≤ j → j < b → blankB l[j] = true) →
    wayfarerlaw08_LexerWhole.l1 (k + d) l T (i : Int) x7 = wayfarerlaw08_LexerWhole.l1 k l T (b : Int) x7 := by
  intro d
  induction d with
  | zero =>
    intro k i hd hi hk hbl
    obtain rfl : i = b := by omega
    rfl
  | succ d ih =>
    intro k i hd hi hk hbl
    conv => lhs; rw [show k + (d + 1) = (k + d) + 1 by omega]; simp only [wayfarerlaw08_LexerWhole.l1]
    rw [if_pos h0, if_pos h1, hT, if_pos (show (i : Int) < (b : Int) by omega), if_pos (show (0 : Int) ≤ (i : Int) by omega), if_pos (show (i : Int) < (l.length : Int) by omega), rd_nat l i (by omega), blank_ref (hbl i (by omega) (by omega) (by omega)) _ (by omega), Option.bind_some, if_pos rfl, wrap_next (by omega : i ≤ 4000) (by omega)]
    exact ih k (i + 1) (by omega) (by omega) hk (fun j h h2 h3 => hbl j h (by omega) h3)
/-- Over a text, to behind its quote. -/
theorem l2_txt (l : List Int) (hl : l.length ≤ 4000) (T : List S32) (x7 : Int) : ∀ (d i : Nat) (out : List Int) (p : List Int × Nat) (k : Nat), l.length - i ≤ d → txt (l.drop i) out = some p →
    ∃ m, m ≤ 2 * p.2 ∧ wayfarerlaw08_LexerWhole.l2 (k + m) l T (i : Int) x7 = wayfarerlaw08_LexerWhole.l0 k l T ((i + p.2 : Nat) : Int) (wrap64 (x7 + 1)) := by
  intro d
  induction d with
  | zero =>
    intro i out p k hd h
    rw [List.drop_eq_nil_of_le (by omega)] at h
    simp [txt] at h
  | succ d ih =>
    intro i out p k hd h
    by_cases hlt : i < l.length
    case neg => rw [List.drop_eq_nil_of_le (by omega)] at h; simp [txt] at h
    rw [List.drop_eq_getElem_cons hlt] at h
    have hw := wrap_next (by omega : i ≤ 4000) (by omega : 4000 ≤ 1000000)
    have step : ∀ k', wayfarerlaw08_LexerWhole.l2 (k' + 2) l T (i : Int) x7 = if l[i] = 39 then wayfarerlaw08_LexerWhole.l0 k' l T ((i + 1 : Nat) : Int) (wrap64 (x7 + 1)) else if l[i] = 92 then wayfarerlaw08_LexerWhole.l2 k' l T ((i + 2 : Nat) : Int) x7 else wayfarerlaw08_LexerWhole.l2 k' l T ((i + 1 : Nat) : Int) x7 := by
      intro k'
      conv => lhs; rw [show k' + 2 = (k' + 1) + 1 by omega]; simp only [wayfarerlaw08_LexerWhole.l2]
      rw [if_pos (show (i : Int) < (l.length : Int) by omega), if_pos (show (0 : Int) ≤ (i : Int) by omega), rd_nat l i hlt]
      simp only [wayfarerlaw08_LexerWhole.j4]
      by_cases h39 : l[i] = 39
      · rw [h39, if_neg (by decide), if_pos rfl, hw]
      · rw [if_pos (by simpa using h39), if_pos (show (0 : Int) ≤ (i : Int) by omega), if_pos (show (i : Int) < (l.length : Int) by omega), rd_nat l i hlt, if_neg h39, hw, wrap_next (by omega : i + 1 ≤ 4001) (by omega)]
    have close : ∀ q : List Int × Nat, l[i] = 39 → q = p → q.2 = 1 → ∃ m, m ≤ 2 * p.2 ∧ wayfarerlaw08_LexerWhole.l2 (k + m) l T (i : Int) x7 = wayfarerlaw08_LexerWhole.l0 k l T ((i + p.2 : Nat) : Int) (wrap64 (x7 + 1)) := by
      intro q h39 hq h1
      subst hq
      exact ⟨2, by omega, by rw [step k, if_pos h39, h1]⟩
    by_cases hn : i + 1 < l.length
    · rw [List.drop_eq_getElem_cons hn] at h
      unfold txt at h
      split at h
      · rename_i h39
        split at h
        · cases h
        · exact close _ h39 (Option.some.inj h) rfl
      · rename_i h39
        split at h
        · cases h
        · split at h
          · rename_i h92
            split at h
            · obtain ⟨q, hq, rfl⟩ := Option.map_eq_some_iff.mp h
              obtain ⟨m, hm, he⟩ := ih (i + 1 + 1) _ q k (by omega) hq
              refine ⟨m + 2, by dsimp only; omega, ?_⟩
              rw [show k + (m + 2) = (k + m) + 2 by omega, step (k + m), if_neg h39, if_pos h92, show i + 2 = i + 1 + 1 by omega, he]
              exact congrArg (fun n : Nat => wayfarerlaw08_LexerWhole.l0 k l T (n : Int) (wrap64 (x7 + 1))) (by dsimp only; omega)
            · cases h
          · rename_i h92
            obtain ⟨q, hq, rfl⟩ := Option.map_eq_some_iff.mp h
            rw [← List.drop_eq_getElem_cons hn] at hq
            obtain ⟨m, hm, he⟩ := ih (i + 1) _ q k (by omega) hq
            refine ⟨m + 2, by dsimp only; omega, ?_⟩
            rw [show k + (m + 2) = (k + m) + 2 by omega, step (k + m), if_neg h39, if_neg h92, he]
            exact congrArg (fun n : Nat => wayfarerlaw08_LexerWhole.l0 k l T (n : Int) (wrap64 (x7 + 1))) (by dsimp only; omega)
    · rw [show l.drop (i + 1) = [] from List.drop_eq_nil_of_le (by omega)] at h
      unfold txt at h
      split at h
      · rename_i h39
        split at h
        · cases h
        · exact close _ h39 (Option.some.inj h) rfl
      · cases h
/-- The blanks behind all. -/
theorem l3_skip (l : List Int) (hl : l.length ≤ 4000) : ∀ (d k i : Nat), l.length - i = d → i ≤ l.length → 60 ≤ k → (∀ j (h : j < l.length), i ≤ j → blankB l[j] = true) → wayfarerlaw08_LexerWhole.l3 (k + d + 1) l (i : Int) = some true := by
  intro d
  induction d with
  | zero =>
    intro k i hd hi hk hbl
    simp only [wayfarerlaw08_LexerWhole.l3]
    rw [if_neg (show ¬ (i : Int) < (l.length : Int) by omega), known_ev _ (by omega)]
    rfl
  | succ d ih =>
    intro k i hd hi hk hbl
    simp only [wayfarerlaw08_LexerWhole.l3]
    rw [if_pos (show (i : Int) < (l.length : Int) by omega), if_pos (show (0 : Int) ≤ (i : Int) by omega), rd_nat l i (by omega), blank_ref (hbl i (by omega) (by omega)) _ (by omega), Option.bind_some, if_pos rfl, wrap_next (by omega : i ≤ 4000) (by omega)]
    exact ih k (i + 1) (by omega) (by omega) hk (fun j h h2 => hbl j h (by omega))
theorem l0_all (l : List Int) (hl : l.length ≤ 4000) (T : List S32) : ∀ (f a j k : Nat), a ≤ l.length → l.length - a < f → j ≤ T.length → T.length ≤ 4000 → T.drop j = (lex f (l.drop a) a).1.map (·.1) → (lex f (l.drop a) a).2 = none → 4 * (l.length - a) + 100 ≤ k →
    wayfarerlaw08_LexerWhole.l0 k l T (a : Int) (j : Int) = some true := by
  intro f
  induction f with
  | zero => intro a j k ha hf; omega
  | succ f ih =>
    intro a j k ha hf hj hTl hT he hk
    have hs := skip_le (l.drop a)
    rw [List.length_drop] at hs
    obtain ⟨b, hb⟩ : ∃ b, a + skip (l.drop a) = b := ⟨_, rfl⟩
    have e : lex (f + 1) (l.drop a) a = match l.drop b with
      | [] => ([], none)
      | c :: r => match tokS (c :: r) with
        | none => ([], some b)
        | some t => ((⟨t.1, (b : Int), t.2.1, t.2.2.1⟩, b + t.2.2.2) :: (lex f ((c :: r).drop t.2.2.2) (b + t.2.2.2)).1, (lex f ((c :: r).drop t.2.2.2) (b + t.2.2.2)).2) := by
      rw [← hb, ← List.drop_drop]; rfl
    have hbl : ∀ i (h : i < l.length), a ≤ i → i < b → blankB l[i] = true := by
      intro i h h1 h2
      have := skip_blank (l.drop a) (i - a) (by rw [List.length_drop]; omega) (by omega)
      simp only [List.getElem_drop, show a + (i - a) = i by omega] at this
      exact this
    rw [e] at hT he
    obtain ⟨k, rfl⟩ : ∃ m, k = m + 1 := ⟨k - 1, by omega⟩
    simp only [wayfarerlaw08_LexerWhole.l0]
    by_cases hlt : b < l.length
    · rw [List.drop_eq_getElem_cons hlt] at hT he
      dsimp only at hT he
      cases ht : tokS (l[b] :: l.drop (b + 1)) with
      | none => rw [ht] at he; cases he
      | some t =>
        rw [ht] at hT he
        dsimp only at hT he
        have hlen := tokS_len _ t ht
        have hcs := Aside0.mk (tokS_cases _ _ t ht)
        have hkind := tokS_kind _ _ t ht
        rw [← List.drop_eq_getElem_cons hlt] at hT he hlen
        rw [List.drop_drop] at hT he
        rw [List.length_drop] at hlen
        rw [List.map_cons] at hT
        obtain ⟨hrd, hjl, hT'⟩ := rdT_drop hT
        have hwj := Aside0.mk (wrap_next (by omega : j ≤ 4000) (by omega : 4000 ≤ 1000000))
        have hih := fun k' hk' => ih (b + t.2.2.2) (j + 1) k' (by omega) (by omega) (by omega) hTl hT' he hk'
        rw [if_pos (show (j : Int) < (T.length : Int) by omega), if_pos (show (0 : Int) ≤ (j : Int) by omega), hrd]
        dsimp only
        rw [if_neg (show ¬ (b : Int) < (a : Int) by omega), if_neg (show ¬ (b : Int) ≥ (l.length : Int) by omega), if_neg (show ¬ t.1 < 1 by omega), decide_eq_false (show ¬ t.1 > 4 by omega)]
        obtain ⟨k, rfl⟩ : ∃ m, k = m + 1 := ⟨k - 1, by omega⟩
        simp only [wayfarerlaw08_LexerWhole.j1]
        rw [if_neg (by decide)]
        obtain ⟨k, rfl⟩ : ∃ m, k = m + (b - a) := ⟨k - (b - a), by omega⟩
        rw [l1_skip l hl T (j : Int) b hlt (by omega) (by omega) (by rw [hrd]) (b - a) k a rfl (by omega) (by omega) hbl]
        obtain ⟨k, rfl⟩ : ∃ m, k = m + 1 := ⟨k - 1, by omega⟩
        simp only [wayfarerlaw08_LexerWhole.l1]
        rw [if_pos (show (0 : Int) ≤ (j : Int) by omega), if_pos (show (j : Int) < (T.length : Int) by omega), hrd]
        dsimp only
        rw [if_neg (show ¬ (b : Int) < (b : Int) by omega)]
        rcases hcs.out with ⟨h3, h39, p, hp, hn⟩ | ⟨h3, m, hS, hn, hm⟩
        · clear hcs
          rw [if_pos h3, wrap_next (by omega : b ≤ 4000) (by omega)]
          have hpl := txt_len _ _ p hp
          rw [List.length_drop] at hpl
          obtain ⟨m, hm, he2⟩ := l2_txt l hl T (j : Int) (l.length - (b + 1)) (b + 1) [] p (k - 2 * p.2) (by omega) hp
          have he4 : wayfarerlaw08_LexerWhole.l0 (k - 2 * p.2) l T ((b + 1 + p.2 : Nat) : Int) (wrap64 ((j : Int) + 1)) = some true := by
            rw [hwj.out, show b + 1 + p.2 = b + t.2.2.2 by omega]
            exact hih _ (by omega)
          have he3 := he2.trans he4
          exact at_rounds (fun k' => (wayfarerlaw08_LexerWhole.mono_l k').2.2.2.1 _ _ _ _) (show k - 2 * p.2 + m ≤ k by omega) he3
        · clear hcs
          rw [List.length_drop] at hm
          have hsz : t.2.1.size = m + 1 := by
            rw [hS]
            have : (strOfNums (l[b] :: List.take m (List.drop (b + 1) l))).size = (l[b] :: List.take m (List.drop (b + 1) l)).length := by simp [strOfNums, ByteArray.size]
            rw [this, List.length_cons, List.length_take, List.length_drop]
            omega
          have hwz : wrap64 ((b : Int) + (t.2.1.size : Int)) = ((b + (m + 1) : Nat) : Int) := by rw [hsz]; exact Dec.wrap_nat (by omega) (by omega)
          rw [if_neg (show ¬ t.1 = 3 by clear hwz; omega), if_neg (show ¬ (t.2.1.size : Int) = 0 by clear hwz; omega), hwz]
          clear hwz
          rw [ if_neg (by omega), if_pos (by omega), if_pos (by omega), if_pos (by omega), cutN l b m hlt, if_pos (by rw [hS]), hwj.out, ← hn]
          exact hih _ (by omega)
    · have hnil : l.drop b = [] := List.drop_eq_nil_of_le (by omega)
      rw [hnil] at hT he
      have hjT : T.length ≤ j := by
        by_cases h : j < T.length
        · rw [List.drop_eq_getElem_cons h] at hT; cases hT
        · omega
      rw [if_neg (show ¬ (j : Int) < (T.length : Int) by omega)]
      obtain ⟨k, rfl⟩ : ∃ m, k = m + (l.length - a) + 1 := ⟨k - (l.length - a) - 1, by omega⟩
      exact l3_skip l hl (l.length - a) k a rfl ha (by omega) (fun i h h1 => hbl i h h1 (by omega))
theorem LexerWhole : wayfarerlaw08_LexerWhole.Pure := by
  intro l _ _ _
  refine ⟨20000, ?_⟩
  unfold wayfarerlaw08_LexerWhole.f
  by_cases hl : l.length ≤ 4000
  · rw [if_neg (by omega), All_spec l (by omega) 20000 (by omega), Option.bind_some]
    unfold said
    cases he : (lex (l.length + 1) l 0).2 with
    | none =>
      dsimp only
      rw [if_pos rfl]
      have hlen := lex_len (l.length + 1) l 0
      exact l0_all l hl _ (l.length + 1) 0 0 20000 (by omega) (by omega) (by omega) (by rw [List.length_map]; omega) (by rw [List.drop_zero, List.drop_zero]) (by rw [List.drop_zero]; exact he) (by omega)
    | some p =>
      dsimp only
      rw [if_neg (by decide), if_pos (by simp), known_ev _ (by omega)]
      rfl
  · rw [if_pos (by omega), known_ev _ (by omega)]
    rfl
end Go.Proofs.Ytildiabokdfjgaa.Pure
