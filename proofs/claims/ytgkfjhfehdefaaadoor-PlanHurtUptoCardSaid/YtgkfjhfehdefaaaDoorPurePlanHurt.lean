/- A plan, with a step in it that may not be. -/
import Derived.Test.YtgkfjhfehdefaaaDoorPlF
namespace Go.Proofs.YtgkfjhfehdefaaaDoor.W
open Go.Proofs.YtgkfjhfehdefaaaDoor.Flat
set_option linter.unusedVariables false
set_option linter.unusedSimpArgs false
def hurtL : List GStep := ([
  (.mk 52 [] [] (.mk 0 0 ByteArray.empty [] []) (.mk 0 [] []) [] [] []), 
  (.mk (-1) [] [] (.mk 0 0 ByteArray.empty [] []) (.mk 0 [] []) [] [] []), 
  (.mk 32 ([(ByteArray.mk #[97])] : List ByteArray) [] (.mk 0 0 ByteArray.empty [] []) (.mk 0 [] []) [] [] []), 
  (.mk 32 [] ([1] : List Int) (.mk 0 0 ByteArray.empty [] []) (.mk 0 [] []) [] [] []), 
  (.mk 32 [] [] (.mk 2 0 ByteArray.empty [] []) (.mk 0 [] []) [] [] []), 
  (.mk 22 [] [] (.mk 0 0 ByteArray.empty [] []) (.mk 0 [] []) [] [] []), 
  (.mk 18 ([(ByteArray.mk #[97])] : List ByteArray) [] (.mk 0 0 ByteArray.empty [] []) (.mk 0 [] []) [] [] []), 
  (.mk 3 ([(ByteArray.mk #[50])] : List ByteArray) [] (.mk 0 0 ByteArray.empty [] []) (.mk 0 [] []) [] [] []), 
  (.mk 3 [] [] (.mk 0 0 ByteArray.empty [] []) (.mk 0 [] []) [] [] ([(ByteArray.mk #[])] : List ByteArray)), 
  (.mk 24 [] ([3, 2] : List Int) (.mk 0 0 ByteArray.empty [] []) (.mk 0 [] []) [] [] []), 
  (.mk 24 [] ([3] : List Int) (.mk 0 0 ByteArray.empty [] []) (.mk 0 [] []) [] [] []), 
  (.mk 25 [] ([(-1)] : List Int) (.mk 0 0 ByteArray.empty [] []) (.mk 0 [] []) [] [] []), 
  (.mk 1 [] ([(-1)] : List Int) (.mk 0 0 ByteArray.empty [] []) (.mk 0 [] []) [] [] []), 
  (.mk 21 [] [] (.mk 0 0 ByteArray.empty [] []) (.mk 0 [] []) [] [] []), 
  (.mk 48 [] ([(-1), 0] : List Int) (.mk 0 0 ByteArray.empty [] []) (.mk 0 [] []) ([[]] : List (List GStep)) [] []), 
  (.mk 46 [] [] (.mk 0 0 ByteArray.empty [] []) (.mk 0 [] []) ([[], []] : List (List GStep)) [] []), 
  (.mk 42 [] [] (.mk 0 0 ByteArray.empty [] []) (.mk 0 [] []) [] ([(.mk 1 ByteArray.empty [] false), (.mk 1 ByteArray.empty [] false)] : List GBy) []), 
  (.mk 41 [] [] (.mk 0 0 ByteArray.empty [] []) (.mk 0 [] []) [] ([(.mk 1 ByteArray.empty [] true)] : List GBy) []), 
  (.mk 40 [] [] (.mk 0 0 ByteArray.empty [] []) (.mk 0 [] []) [] ([(.mk 2 ByteArray.empty [] false)] : List GBy) []), 
  (.mk 43 ([(ByteArray.mk #[97]), (ByteArray.mk #[97])] : List ByteArray) [] (.mk 0 0 ByteArray.empty [] []) (.mk 0 [] []) [] [] []), 
  (.mk 40 [] [] (.mk 0 0 ByteArray.empty [] []) (.mk 0 [] []) [] ([(.mk 1 (ByteArray.mk #[97]) [] false)] : List GBy) []), 
  (.mk 43 ([(ByteArray.mk #[97])] : List ByteArray) [] (.mk 0 0 ByteArray.empty [] []) (.mk 0 [] []) [] ([(.mk 1 ByteArray.empty [] false), (.mk 1 ByteArray.empty [] false)] : List GBy) []), 
  (.mk 15 [] [] (.mk 0 0 ByteArray.empty [] []) (.mk 0 [] []) [] [] []), 
  (.mk 28 [] [] (.mk 0 0 ByteArray.empty [] []) (.mk 0 [] []) [] [] [])] : List GStep)
theorem hurt_bad (R : List GStep → Bool) : (hurtL.all fun y => !stepF R y) = true := by kernel_rfl
theorem hurt_wt : (hurtL.all fun y => decide (wL [y] ≤ 1000)) = true := by kernel_rfl
theorem wL_ap (a b : List GStep) : wL (a ++ b) = wL a + wL b := by unfold wL; rw [List.map_append, wts_app]
theorem Pure.PlanHurt : ∀ (x0 : List GStep) (x1 : Int) (x2 : Int), wts [.sl false 14 (GStep.ts x0), .v (.int .i64 x1), .v (.int .u8 x2)] ≤ 1048576 → (Lit.int .i64 x1).wf = true → (Lit.int .u8 x2).wf = true → ∃ n, (tab n).law12_PlanHurt x0 x1 x2 = some true := by
  intro a turn how hw _ w2
  simp only [wts, T.wt, GStep.ts_map] at hw
  have hl : wL a ≤ 1048576 := by unfold wL; omega
  have hla := wL_len a
  have hhow : 0 ≤ how := by
    have h : (decide (0 ≤ how) && decide (how ≤ 255)) = true := w2
    rw [Bool.and_eq_true, decide_eq_true_eq] at h
    exact h.1
  obtain ⟨r1, e1⟩ := muchL_ev (l := a) (by omega)
  have c1 := Check_ev (l := a) (by omega)
  have hu : 0 ≤ IntKind.wrap .u64 turn := by rw [IntKind.wrap_u64]; omega
  obtain ⟨k, hk⟩ : ∃ k : Nat, IntKind.wrap .u64 turn % ((a.length : Int) + 1) = (k : Int) := ⟨_, (Int.toNat_of_nonneg (Int.emod_nonneg _ (by omega))).symm⟩
  have k1 : (k : Int) < (a.length : Int) + 1 := by rw [← hk]; exact Int.emod_lt_of_pos _ (by omega)
  have e2 : IntKind.wrap .u64 (IntKind.wrap .i64 ((a.length : Int) + 1)) = (a.length : Int) + 1 := by rw [wr (by omega) (by omega), IntKind.wrap_u64]; omega
  have e3 : remI .u64 (IntKind.wrap .u64 turn) (IntKind.wrap .u64 (IntKind.wrap .i64 ((a.length : Int) + 1))) = some (k : Int) := by
    rw [e2]
    unfold remI
    rw [if_neg (by omega), Int.tmod_eq_emod_of_nonneg hu, hk]
  obtain ⟨m, hm⟩ : ∃ m : Nat, IntKind.wrap .i64 how % 24 = (m : Int) := ⟨_, (Int.toNat_of_nonneg (Int.emod_nonneg _ (by omega))).symm⟩
  have m1 : (m : Int) < 24 := by rw [← hm]; exact Int.emod_lt_of_pos _ (by omega)
  have hh255 : how ≤ 255 := by
    have h : (decide (0 ≤ how) && decide (how ≤ 255)) = true := w2
    rw [Bool.and_eq_true, decide_eq_true_eq, decide_eq_true_eq] at h
    exact h.2
  have ehow : IntKind.wrap .i64 how = how := wr (by omega) (by omega)
  have e4 : remI .i64 (IntKind.wrap .i64 how) 24 = some (m : Int) := by
    unfold remI
    rw [if_neg (by omega), Int.tmod_eq_emod_of_nonneg (by omega), hm]
  have e5 : IntKind.wrap .i64 (k : Int) = (k : Int) := wr (by omega) (by omega)
  have hlen : hurtL.length = 24 := rfl
  obtain ⟨y, hy⟩ : ∃ y, hurtL[m]? = some y := ⟨_, List.getElem?_eq_getElem (by omega)⟩
  have hmem : y ∈ hurtL := List.mem_of_getElem? hy
  have hbad : stepF (rightL 10) y = false := by
    have := List.all_eq_true.1 (hurt_bad (rightL 10)) y hmem
    simpa using this
  have hwy : wL [y] ≤ 1000 := by
    have := List.all_eq_true.1 hurt_wt y hmem
    simpa using this
  have hsum : wL (a.take k) + wL (a.drop k) = wL a := by rw [← wL_ap, List.take_append_drop]
  have c2 := Check_ev (l := (a.take k ++ [y]) ++ a.drop k) (by rw [wL_ap, wL_ap]; omega)
  have hno : okL2 ((a.take k ++ [y]) ++ a.drop k) = false := by
    unfold okL2
    rw [right_app, right_app]
    have : rightL (10 + 1) [y] = false := by rw [rightL, List.all_cons, hbad, Bool.false_and]
    rw [this]
    simp
  rw [hno] at c2
  refine Ev.out (Ev.step ((e1.and (knownL_ev.and (c1.and c2))).mono fun n hh => ?_))
  obtain ⟨e1, hkn, c1, c2⟩ := hh
  rw [tab_law12_PlanHurt]
  simp only [law12_PlanHurt, e1, hkn, c1]
  have t1 : (List.take (k : Int).toNat a).drop (0 : Int).toNat = a.take k := by rw [Int.toNat_natCast, Int.toNat_zero, List.drop_zero]
  have t2 : (List.take (a.length : Int).toNat a).drop (k : Int).toNat = a.drop k := by rw [Int.toNat_natCast, Int.toNat_natCast, List.take_length]
  have g1 : (a.take k).length ≤ a.length := by rw [List.length_take]; omega
  have g2 : (a.drop k).length ≤ a.length := by rw [List.length_drop]; omega
  have j2 : ∀ L, L = hurtL → law12_PlanHurt_j2 (tab n) n a how (k : Int) L = some true := by
    rintro _ rfl
    rw [law12_PlanHurt_j2, t1, t2, if_pos (by simp; omega), if_pos (by simp; omega), e4]
    dsimp only
    rw [if_pos (by simp), Int.toNat_natCast, hy]
    obtain ⟨op, S, N, ⟨v1, v2, v3, v4, v5⟩, ⟨p1, p2, p3⟩, Ts, By, As⟩ := y
    dsimp only
    rw [List.nil_append, if_pos (by simp; omega), if_pos (by simp; omega), if_pos (by simp; omega), c2]
    dsimp only
    rw [if_pos (by simp), hkn]
  have j1 : law12_PlanHurt_j1 (tab n) n a turn how = some true := by
    rw [law12_PlanHurt_j1, e3]
    dsimp only
    rw [e5]
    exact j2 _ rfl
  cases r1 with
  | true => simp
  | false =>
    by_cases ha : okL2 a = true
    · simp [ha, j1]
    · simp [ha]
end Go.Proofs.YtgkfjhfehdefaaaDoor.W
