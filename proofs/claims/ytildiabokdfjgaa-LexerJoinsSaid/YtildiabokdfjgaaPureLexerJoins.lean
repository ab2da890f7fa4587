/- The tokens of two queries with a blank between are those of both, the others farther behind; where the first is wrong the whole is, there: for whatever two queries the law is handed. -/
import Derived.Test.YtildiabokdfjgaaLexFLexerJoins
namespace Go.Proofs.Ytildiabokdfjgaa.Pure
open Go.RowKit Go.Proofs.Ytildiabokdfjgaa.PLexerJoins Go.Proofs.YtildiabokdfjgaaW.PrintWords Go.Proofs.YtildiabokdfjgaaW.PrintLast
set_option linter.unusedVariables false
set_option linter.unusedSimpArgs false
set_option maxHeartbeats 800000

theorem known_at : wayfarerlaw08_known.f 60 = some true := by decide +kernel
theorem known_ev (k : Nat) (hk : 60 ≤ k) : wayfarerlaw08_known.f k = some true := at_rounds wayfarerlaw08_known.mono hk known_at
theorem join_all (A L M : List S32) (n : List Int) (hn : n.length ≤ 2000) (hM : M.length ≤ 2000) (hL : L.length ≤ 2000) (hA : A = L ++ M.map (fun t => ⟨t.f0, t.f1 + ((n.length + 1 : Nat) : Int), t.f2, t.f3⟩)) (hw : ∀ t ∈ M, 0 ≤ t.f1 ∧ t.f1 ≤ 2000) : ∀ (d K i : Nat), A.length - i = d → i ≤ A.length → 60 ≤ K →
    wayfarerlaw08_LexerJoins.l0 (K + d + 1) n L M A (i : Int) = some true := by
  have hlen : A.length = L.length + M.length := by rw [hA, List.length_append, List.length_map]
  intro d
  induction d with
  | zero =>
    intro K i hd hi hK
    simp only [wayfarerlaw08_LexerJoins.l0]
    rw [if_neg (by omega), known_ev _ (by omega)]
    rfl
  | succ d ih =>
    intro K i hd hi hK
    have hlt : i < A.length := by omega
    have hnext := ih K (i + 1) (by omega) (by omega) hK
    have hwi : wrap64 ((i : Int) + 1) = ((i + 1 : Nat) : Int) := wrap_next (by omega : i ≤ 4000) (by omega)
    simp only [wayfarerlaw08_LexerJoins.l0]
    rw [if_pos (by omega), hwi, rdT_at (T := A) i hlt]
    by_cases hik : i < L.length
    · have e : A[i]'hlt = L[i] := by
        subst hA
        exact List.getElem_append_left hik
      rw [if_pos (by omega), if_pos (by omega), rdT_at (T := L) i hik, e, if_neg (by simp)]
      exact hnext
    · have hj : i - L.length < M.length := by omega
      have e : A[i]'hlt = ⟨M[i - L.length].f0, M[i - L.length].f1 + ((n.length + 1 : Nat) : Int), M[i - L.length].f2, M[i - L.length].f3⟩ := by
        subst hA
        rw [List.getElem_append_right (by omega), List.getElem_map]
      have hwj : wrap64 ((i : Int) - (L.length : Int)) = ((i - L.length : Nat) : Int) := by rw [Dec.wrap_few (by omega) (by omega)]; omega
      have hb := hw M[i - L.length] (List.getElem_mem hj)
      have hwf : wrap64 (wrap64 (M[i - L.length].f1 + (n.length : Int)) + 1) = M[i - L.length].f1 + ((n.length + 1 : Nat) : Int) := by
        rw [Dec.wrap_few (x := M[i - L.length].f1 + (n.length : Int)) (by omega) (by omega), Dec.wrap_few (by omega) (by omega)]
        omega
      rw [if_neg (by omega), hwj, if_pos (by omega), if_pos (by omega), if_pos (by omega), rdT_at (T := M) _ hj, hwf, e, if_neg (by simp)]
      exact hnext
theorem LexerJoins : wayfarerlaw08_LexerJoins.Pure := by
  intro a b _ _ _ _ _ _
  refine ⟨20000, ?_⟩
  unfold wayfarerlaw08_LexerJoins.f
  have hkn : ∀ x, wayfarerlaw08_LexerJoins.j0 20000 a b true = some x ↔ some true = some x := by
    intro x
    simp only [wayfarerlaw08_LexerJoins.j0]
    rw [if_pos trivial, known_ev _ (by omega)]
    exact Iff.rfl
  by_cases ha : (a.length : Int) > 2000
  · rw [if_pos ha]
    exact (hkn true).2 rfl
  rw [if_neg ha]
  by_cases hb : (b.length : Int) > 2000
  · rw [decide_eq_true hb]
    exact (hkn true).2 rfl
  rw [decide_eq_false hb]
  clear hkn
  simp only [wayfarerlaw08_LexerJoins.j0]
  rw [if_neg (by decide), All_spec a (by omega) _ (by omega), Option.bind_some, All_spec b (by omega) _ (by omega), Option.bind_some, if_pos (by simp; omega), Option.bind_some, if_pos (by simp; omega), Option.bind_some, if_pos (by simp; omega)]
  rw [show [] ++ a ++ [10] ++ b = a ++ 10 :: b by simp, All_spec _ (by simp; omega) _ (by simp; omega), Option.bind_some]
  have hcA := lex_len (a.length + 1) a 0
  have hcB := lex_len (b.length + 1) b 0
  have hpB := place_in (b.length + 1) b 0 (by omega)
  cases hA : lex (a.length + 1) a 0 with
  | mk ts er =>
  cases er with
  | some p =>
    rw [lex_wrong a b ts p hA]
    unfold said
    dsimp only
    rw [if_neg (by decide), if_pos rfl, if_pos rfl, known_ev _ (by omega)]
    rfl
  | none =>
    rw [lex_both a b ts hA]
    rw [hA] at hcA
    cases hB : lex (b.length + 1) b 0 with
    | mk us er =>
    rw [hB] at hcB hpB
    dsimp only at hcA hcB hpB
    cases er with
    | some p =>
      have hp : p ≤ b.length := by
        have := last_spec b (b.length + 1) 0 (by omega) (by omega)
        rw [List.drop_zero, hB] at this
        dsimp only at this
        omega
      unfold said moved
      dsimp only [Option.map_some]
      have hwp : wrap64 (wrap64 ((p : Int) + (a.length : Int)) + 1) = ((p + (a.length + 1) : Nat) : Int) := by
        rw [Dec.wrap_few (x := (p : Int) + (a.length : Int)) (by omega) (by omega), Dec.wrap_few (by omega) (by omega)]
        omega
      rw [if_pos rfl, if_neg (by decide), if_pos rfl, hwp, if_pos rfl, known_ev _ (by omega)]
      rfl
    | none =>
      unfold said moved
      dsimp only [Option.map_none]
      rw [if_pos rfl, if_pos rfl, if_pos rfl]
      have hl : ((List.map (fun x => x.1) (ts ++ List.map (fun p => ((⟨p.1.f0, p.1.f1 + ((a.length + 1 : Nat) : Int), p.1.f2, p.1.f3⟩ : S32), p.2 + (a.length + 1))) us)).length : Int) = ((ts.length + us.length : Nat) : Int) := by simp
      have hw : wrap64 (((List.map (fun x => x.1) ts).length : Int) + ((List.map (fun x => x.1) us).length : Int)) = ((ts.length + us.length : Nat) : Int) := by
        rw [List.length_map, List.length_map, Dec.wrap_few (by omega) (by omega)]
        omega
      rw [hl, hw, show (((ts.length + us.length : Nat) : Int) != ((ts.length + us.length : Nat) : Int)) = false by simp]
      simp only [wayfarerlaw08_LexerJoins.j1]
      rw [if_neg (by decide)]
      have := join_all (List.map (fun x => x.1) (ts ++ List.map (fun p => ((⟨p.1.f0, p.1.f1 + ((a.length + 1 : Nat) : Int), p.1.f2, p.1.f3⟩ : S32), p.2 + (a.length + 1))) us)) (ts.map (·.1)) (us.map (·.1)) a (by omega) (by rw [List.length_map]; omega) (by rw [List.length_map]; omega)
        (by rw [List.map_append, List.map_map, List.map_map]; rfl)
        (fun t ht => by
          obtain ⟨q, hq, rfl⟩ := List.mem_map.1 ht
          have := hpB q hq
          omega) (ts.length + us.length) (19998 - (ts.length + us.length) - 1) 0 (by simp) (by simp) (by omega)
      rw [show 19998 - (ts.length + us.length) - 1 + (ts.length + us.length) + 1 = 19998 by omega] at this
      exact this
end Go.Proofs.Ytildiabokdfjgaa.Pure
