import Derived.Test.YtildiabokdfjgaaLexELexerBlanks
namespace Go.Proofs.Ytildiabokdfjgaa.Pure
open Go.RowKit Go.Proofs.Ytildiabokdfjgaa.PLexerBlanks Go.Proofs.YtildiabokdfjgaaW.PrintWords Go.Proofs.YtildiabokdfjgaaW.PrintLast
set_option linter.unusedVariables false
set_option linter.unusedSimpArgs false
set_option maxHeartbeats 800000

theorem known_at : wayfarerlaw08_known.f 60 = some true := by decide +kernel
theorem known_ev (k : Nat) (hk : 60 ≤ k) : wayfarerlaw08_known.f k = some true := at_rounds wayfarerlaw08_known.mono hk known_at
/-- The tokens with two more blanks ahead of the k-th. -/
def moved2 (k : Nat) (ts : List (S32 × Nat)) : List S32 := (ts.take k).map (·.1) ++ (ts.drop k).map fun p => ⟨p.1.f0, p.1.f1 + 2, p.1.f2, p.1.f3⟩
theorem blanks_in (l : List Int) (ts : List (S32 × Nat)) (h : lex (l.length + 1) l 0 = (ts, none)) (k : Nat) (hk : k ≤ ts.length) (b : Int) (hb : blankB b = true) :
    ∃ u v, l = u ++ v ∧ ((u.length : Nat) : Int) = placeOf ts k (l.length : Int) ∧ said (lex ((u ++ b :: 32 :: v).length + 1) (u ++ b :: 32 :: v) 0) = (moved2 k ts, 0, 0) := by
  obtain ⟨u, v, e1, e2, e3⟩ := cutAt (l.length + 1) l 0 ts (by omega) h k hk
  rw [Nat.zero_add, Nat.zero_add] at e2
  refine ⟨u, v, e1, e2, ?_⟩
  have hoff : Off (b :: 32 :: v) := by
    refine Off.cons ?_
    have h1 : b = 32 ∨ b = 9 ∨ b = 10 ∨ b = 13 := by simpa [blankB] using hb
    rcases h1 with rfl | rfl | rfl | rfl <;> decide
  have p2 := Pre.lex _ _ 0 ((u ++ b :: 32 :: v).length + 1) (Pre.other hoff _ _ _ e3) (by omega)
  have p1 := Pre.lex _ _ 0 (l.length + 1) e3 (by rw [← e1]; omega)
  rw [← e1, h, Nat.zero_add] at p1
  rw [Nat.zero_add] at p2
  have p3 : lex ((u ++ b :: 32 :: v).length + 1) (b :: 32 :: v) u.length = moved 2 (lex (l.length + 1) v u.length) := by
    have hp : Pre v [] [b, 32] u.length := by
      intro c hc
      rcases List.mem_cons.mp hc with rfl | hc
      · exact hb
      · rw [List.mem_singleton.mp hc]; decide
    have := Pre.lex [] [b, 32] u.length ((u ++ b :: 32 :: v).length + 1) hp (by simp; omega)
    rw [List.nil_append] at this
    have e : [b, 32] ++ v = b :: 32 :: v := rfl
    rw [e] at this
    rw [this]
    show lex _ v (u.length + 2) = _
    rw [lex_moved, lex_more _ (l.length + 1) v u.length (by simp; omega) (by rw [e1]; simp; omega)]
  obtain ⟨q1, q2⟩ := Prod.mk.inj p1
  have q3 : (lex (l.length + 1) v u.length).1 = ts.drop k := by
    have hlen : (ts.take k).length = k := by rw [List.length_take, Nat.min_eq_left hk]
    have := congrArg (List.drop k) q1
    rw [List.drop_append_of_le_length (by omega), List.drop_of_length_le (l := ts.take k) (by omega), List.nil_append] at this
    exact this.symm
  rw [p2, p3]
  unfold said moved
  rw [← q2, q3]
  dsimp only [Option.map_none]
  unfold moved2
  rw [List.map_append, List.map_map]
  rfl
theorem l0_all (ts : List (S32 × Nat)) (k : Nat) (hk : k ≤ ts.length) (hts : ts.length ≤ 4000) (hw : ∀ p ∈ ts, wrap64 (p.1.f1 + 2) = p.1.f1 + 2) : ∀ (d K i : Nat), ts.length - i = d → i ≤ ts.length → 60 ≤ K →
    wayfarerlaw08_LexerBlanks.l0 (K + d + 1) (ts.map (·.1)) (k : Int) (moved2 k ts) (i : Int) = some true := by
  have hm : (moved2 k ts).length = ts.length := by unfold moved2; rw [List.length_append, List.length_map, List.length_map, List.length_take, List.length_drop]; omega
  intro d
  induction d with
  | zero =>
    intro K i hd hi hK
    simp only [wayfarerlaw08_LexerBlanks.l0]
    rw [if_neg (show ¬ (i : Int) < ((ts.map (·.1)).length : Int) by rw [List.length_map]; omega), known_ev _ (by omega)]
    rfl
  | succ d ih =>
    intro K i hd hi hK
    have hlt : i < ts.length := by omega
    have hnext := ih K (i + 1) (by omega) (by omega) hK
    have hwi : wrap64 ((i : Int) + 1) = ((i + 1 : Nat) : Int) := wrap_next (by omega : i ≤ 4000) (by omega)
    simp only [wayfarerlaw08_LexerBlanks.l0]
    rw [if_pos (show (i : Int) < ((ts.map (·.1)).length : Int) by rw [List.length_map]; omega), if_pos (show (0 : Int) ≤ (i : Int) by omega), rdT_at (T := ts.map (·.1)) i (by rw [List.length_map]; exact hlt), rdT_at (T := moved2 k ts) i (by omega), hwi]
    rw [List.getElem_map, hw ts[i] (List.getElem_mem hlt)]
    by_cases hik : i < k
    · have e : (moved2 k ts)[i]'(by omega) = ts[i].1 := by
        unfold moved2
        rw [List.getElem_append_left (by rw [List.length_map, List.length_take]; omega), List.getElem_map, List.getElem_take]
      rw [if_neg (show ¬ (i : Int) ≥ (k : Int) by omega), if_pos (show (i : Int) < ((moved2 k ts).length : Int) by omega), e, if_neg (by simp)]
      exact hnext
    · have e : (moved2 k ts)[i]'(by omega) = ⟨ts[i].1.f0, ts[i].1.f1 + 2, ts[i].1.f2, ts[i].1.f3⟩ := by
        unfold moved2
        rw [List.getElem_append_right (by rw [List.length_map, List.length_take]; omega), List.getElem_map]
        have : ∀ j (hj : j < (ts.drop k).length), j = i - k → (ts.drop k)[j] = ts[i] := by
          intro j hj e
          subst e
          rw [List.getElem_drop]
          congr 1
          omega
        rw [this _ _ (by rw [List.length_map, List.length_take]; omega)]
      rw [if_pos (show (i : Int) ≥ (k : Int) by omega), if_pos (show (i : Int) < ((moved2 k ts).length : Int) by omega), e, if_neg (by simp)]
      exact hnext
theorem LexerBlanks : wayfarerlaw08_LexerBlanks.Pure := by
  intro l a b _ _ _ _ hb
  refine ⟨20000, ?_⟩
  unfold wayfarerlaw08_LexerBlanks.f
  by_cases hl : l.length ≤ 4000
  case neg => rw [if_pos (by omega), known_ev _ (by omega)]; rfl
  rw [if_neg (by omega), All_spec l (by omega) 20000 (by omega), Option.bind_some]
  have hplace := place_in (l.length + 1) l 0 (by omega)
  have hcount := lex_len (l.length + 1) l 0
  unfold said
  cases he : lex (l.length + 1) l 0 with
  | mk ts er =>
  rw [he] at hplace hcount
  cases er with
  | some p =>
    dsimp only
    rw [if_neg (by decide), known_ev _ (by omega)]
    rfl
  | none =>
    dsimp only at hplace hcount ⊢
    rw [if_pos rfl, List.length_map]
    have e1 : IntKind.u64.wrap (wrap64 ((ts.length : Int) + 1)) = (ts.length : Int) + 1 := by rw [IntKind.wrap_u64]; unfold wrap64; omega
    have e2 : 0 ≤ IntKind.u64.wrap a := by rw [IntKind.wrap_u64]; omega
    generalize IntKind.u64.wrap a = u at *
    rw [e1, if_neg (by omega)]
    obtain ⟨k, hk, hkl⟩ : ∃ n : Nat, wrap64 (Int.tmod u ((ts.length : Int) + 1)) = (n : Int) ∧ n ≤ ts.length := by
      have h3 : Int.tmod u ((ts.length : Int) + 1) = u % ((ts.length : Int) + 1) := Int.tmod_eq_emod_of_nonneg e2
      have h4 := Int.emod_nonneg u (show (ts.length : Int) + 1 ≠ 0 by omega)
      have h5 := Int.emod_lt_of_pos u (show 0 < (ts.length : Int) + 1 by omega)
      refine ⟨(u % ((ts.length : Int) + 1)).toNat, ?_, by omega⟩
      rw [h3]; unfold wrap64; omega
    rw [hk]
    clear e1
    have hb4 : ∃ m : Nat, Int.tmod b 4 = (m : Int) ∧ m < 4 := by
      have hb0 : 0 ≤ b := by
        have h2 : IntKind.u8.min ≤ b ∧ b ≤ IntKind.u8.max := by simpa [Lit.wf] using hb
        have h3 : IntKind.u8.min = 0 := by decide +kernel
        omega
      have h3 : Int.tmod b 4 = b % 4 := Int.tmod_eq_emod_of_nonneg hb0
      exact ⟨(b % 4).toNat, by omega, by omega⟩
    obtain ⟨m, hm, hm4⟩ := hb4
    have hbl : blankB (rd [32, 9, 10, 13] (m : Int)) = true := by
      have : m = 0 ∨ m = 1 ∨ m = 2 ∨ m = 3 := by omega
      rcases this with rfl | rfl | rfl | rfl <;> decide
    obtain ⟨x, v, hx1, hx2, hx3⟩ := blanks_in l ts he k hkl _ hbl
    have hfin : wayfarerlaw08_LexerBlanks.j0 20000 l b (ts.map (·.1)) (k : Int) (x.length : Int) = some true := by
      have hxl : x.length + v.length = l.length := by rw [hx1, List.length_append]
      simp only [wayfarerlaw08_LexerBlanks.j0]
      rw [if_neg (by omega), decide_eq_false (by omega)]
      simp only [wayfarerlaw08_LexerBlanks.j1]
      rw [if_neg (by decide), if_pos (by omega), if_pos (by omega), Int.toNat_natCast]
      have et : l.take x.length = x := by rw [hx1, List.take_left]
      have ed : l.drop x.length = v := by rw [hx1, List.drop_left]
      rw [et, ed, if_pos (by simp; omega), Option.bind_some, Option.bind_some, hm, if_pos (by omega), if_pos (by simp; omega), Option.bind_some, List.nil_append, if_pos (by simp; omega), Option.bind_some, if_pos (by simp; omega)]
      rw [show x ++ [rd [32, 9, 10, 13] (m : Int), 32] ++ v = x ++ rd [32, 9, 10, 13] (m : Int) :: 32 :: v by simp]
      rw [All_spec _ (by simp; omega) _ (by simp; omega), Option.bind_some, hx3]
      dsimp only
      have hml : (moved2 k ts).length = ts.length := by unfold moved2; rw [List.length_append, List.length_map, List.length_map, List.length_take, List.length_drop]; omega
      rw [if_pos rfl, hml, List.length_map]
      simp only [wayfarerlaw08_LexerBlanks.j2]
      rw [if_neg (by simp)]
      have := l0_all ts k hkl (by omega) (fun p hp => Dec.wrap_few (by have := hplace p hp; omega) (by have := hplace p hp; omega)) ts.length (19997 - ts.length - 1) 0 (by omega) (by omega) (by omega)
      rw [show 19997 - ts.length - 1 + ts.length + 1 = 19997 by omega] at this
      exact this
    unfold placeOf at hx2
    by_cases hkt : k < ts.length
    · rw [List.drop_eq_getElem_cons hkt] at hx2
      dsimp only at hx2
      rw [if_pos (by omega), if_pos (by omega), rdT_at k (by rw [List.length_map]; exact hkt), List.getElem_map, ← hx2]
      exact hfin
    · rw [List.drop_eq_nil_of_le (by omega)] at hx2
      dsimp only at hx2
      rw [if_neg (by omega), ← hx2]
      exact hfin
end Go.Proofs.Ytildiabokdfjgaa.Pure
