/- One step round a plan. -/
import Derived.Test.YtgkfjhfehdefaaaGreatDoorPlG
namespace Go.Proofs.YtgkfjhfehdefaaaGreatDoor.W
open Go.Proofs.YtgkfjhfehdefaaaGreatDoor.Flat
set_option linter.unusedVariables false
set_option linter.unusedSimpArgs false
theorem cmp_self (a : GValue) : cmp a a = 0 := by
  have := cmpV_neg 12 a a
  unfold cmp
  omega
theorem ifb (b : Bool) : ((if b = true then (0 : Int) else 2) == 0) = b := by cases b <;> rfl
theorem ifn (b : Bool) : ((if b = true then (0 : Int) else 2) != 0) = !b := by cases b <;> rfl
theorem if2 (b : Bool) : ((if b = true then (0 : Int) else 2) == 2) = !b := by cases b <;> rfl
/-- A step of that kind with a plan in it, and nothing else. -/
def wh (op : Int) (T : List (List GStep)) (B : List GBy) : GStep := .mk op [] [] (.mk 0 0 ByteArray.empty [] []) (.mk 0 [] []) T B []
theorem wh_wt (op : Int) (a : List GStep) : wL [wh op [a] []] ≤ wL a + 30 := by
  simp only [wh, wL, List.map_cons, List.map_nil, wts, GStep.t, GValue.t, GPred.t, T.wt, texts, ints_i64, GValue.ts, GPred.ts, GBy.ts, rows_GStep_ts, GStep.ts_map]
  show _ ≤ _
  have : ByteArray.empty.size = 0 := rfl
  omega
theorem wb_wt (op k : Int) (d : Bool) (a : List GStep) : wL [wh op [] [.mk k ByteArray.empty a d]] ≤ wL a + 30 := by
  simp only [wh, wL, List.map_cons, List.map_nil, wts, GStep.t, GValue.t, GPred.t, T.wt, texts, ints_i64, GValue.ts, GPred.ts, GBy.ts, GBy.t, rows_GStep_ts, GStep.ts_map]
  show _ ≤ _
  have : ByteArray.empty.size = 0 := rfl
  omega
theorem zero_same : (cmp (.mk 0 0 ByteArray.empty [] []) zv == 0) = true := by
  have : cmp (.mk 0 0 ByteArray.empty [] []) zv = 0 := cmp_self zv
  rw [this]
  rfl
theorem inn_wh (op : Int) (a : List GStep) : inn (wh op [a] []) = [a] := rfl
theorem inn_wb (op : Int) (d : Bool) (a : List GStep) : inn (wh op [] [.mk 3 ByteArray.empty a d]) = [a] := rfl
theorem step_wh {R : List GStep → Bool} (a : List GStep) : stepF R (wh 28 [a] []) = R a := by
  have e : shF 28 = .mk (.mk 0 0) (.mk 0 0) (.mk 1 1) (.mk 0 0) false false := rfl
  have h1 : fieldsF (wh 28 [a] []) (shF 28) = true := by rw [e]; rfl
  have h2 : restF R (wh 28 [a] []) (shF 28) = true := by
    rw [e]
    show ((((((true && true) && true) && (cmp (.mk 0 0 ByteArray.empty [] []) zv == 0)) && true) && true) = true)
    rw [zero_same]
    rfl
  show ((((decide ((1 : Int) ≤ 28 ∧ (28 : Int) ≤ 51) && fieldsF (wh 28 [a] []) (shF 28)) && restF R (wh 28 [a] []) (shF 28)) && [a].all R) && true) = R a
  rw [h1, h2]
  simp
theorem step_wb {R : List GStep → Bool} {op : Int} (ho : op = 40 ∨ op = 41) (d : Bool) (a : List GStep) : stepF R (wh op [] [.mk 3 ByteArray.empty a d]) = ((!d || op == 40) && R a) := by
  have hb : byF R (op == 40) (.mk 3 ByteArray.empty a d) = ((!d || op == 40) && R a) := by
    show (((((!d || (op == 40)) && ((3 : Int) == 2 || ByteArray.empty.size == 0)) && ((3 : Int) == 3 || a.length == 0)) && (((3 : Int) == 1 || ((3 : Int) == 2 && nameF ByteArray.empty)) || ((3 : Int) == 3 && R a))) = _)
    have e1 : (ByteArray.empty.size == 0) = true := rfl
    simp [e1]
  have h1 : fieldsF (wh op [] [.mk 3 ByteArray.empty a d]) (shF op) = true := by rcases ho with rfl | rfl <;> rfl
  have h2 : restF R (wh op [] [.mk 3 ByteArray.empty a d]) (shF op) = true := by
    rcases ho with rfl | rfl
    · show ((((((true && true) && true) && (cmp (.mk 0 0 ByteArray.empty [] []) zv == 0)) && true) && true) = true)
      rw [zero_same]
      rfl
    · show ((((((true && true) && true) && (cmp (.mk 0 0 ByteArray.empty [] []) zv == 0)) && true) && true) = true)
      rw [zero_same]
      rfl
  show ((((decide ((1 : Int) ≤ op ∧ op ≤ 51) && fieldsF (wh op [] [.mk 3 ByteArray.empty a d]) (shF op)) && restF R (wh op [] [.mk 3 ByteArray.empty a d]) (shF op)) && true) && (byF R (op == 40) (.mk 3 ByteArray.empty a d) && true)) = _
  rw [h1, h2, hb]
  have : (1 : Int) ≤ op ∧ op ≤ 51 := by omega
  simp [this]
theorem uses_one {op y : Int} {x : GStep} {a : List GStep} (hx : inn x = [a]) (ho : opOf x = y) (h : wL [x] ≤ 4194303) : someP (usesQ [op]) [x] = (y == op || someP (usesQ [op]) a) := by
  rw [someP_mk h, List.any_cons, List.any_nil, hx, List.any_cons, List.any_nil, Bool.or_false, Bool.or_false]
  unfold usesQ
  rw [List.any_cons, List.any_nil, ho, Bool.or_false]
theorem free_one {x : GStep} {a : List GStep} (hx : inn x = [a]) (ho : opOf x = 28 ∨ opOf x = 40 ∨ opOf x = 41) (hs : (asOf x).length = 0) (h : wL [x] ≤ 4194303) : freeF [x] = freeF a := by
  unfold freeF
  rw [someP_mk h, someP_mk h]
  simp only [List.any_cons, List.any_nil, hx, Bool.or_false]
  have e1 : usesQ [38, 26, 27, 39] x = false := by
    unfold usesQ
    rcases ho with h | h | h <;> rw [h] <;> rfl
  have e2 : freeQ x = false := by unfold freeQ; rw [hs]; rfl
  rw [e1, e2, Bool.false_or, Bool.false_or]
theorem cnt_one {x : GStep} {a : List GStep} (hx : inn x = [a]) (g : Nat) : cntN (g + 1) [x] = 1 + cntN g a := by
  rw [cntN]
  simp only [List.map_cons, List.map_nil, hx, List.sum_cons, List.sum_nil]
  omega
theorem nn_one {x : GStep} {a : List GStep} (hx : inn x = [a]) (g : Nat) : nn (g + 1) [x] = 1 + nn g a := by
  rw [nn]
  simp only [List.map_cons, List.map_nil, hx, sup]
  omega
/-- What a plan that may be keeps to. -/
theorem ok_facts {a : List GStep} (h : okL2 a = true) : cntN 12 a ≤ 400 ∧ rightL 11 a = true ∧ nn 12 a ≤ 11 ∧ cntN 11 a = cntN 12 a ∧ (rightL 10 a = true ↔ nn 12 a ≤ 10) ∧ stepsC a = (cntN 12 a : Int) ∧ (nn 12 a ≤ 10 → nn 11 a = nn 12 a) := by
  unfold okL2 at h
  rw [Bool.and_eq_true, decide_eq_true_eq] at h
  obtain ⟨h1, h2⟩ := h
  have h3 := right_deep 11 a h2 12
  have h4 := cnt_up 11 a h3
  refine ⟨h1, h2, h3, h4.symm, ?_, by unfold stepsC; omega, fun h => (nn_up 11 a (by omega)).symm⟩
  rw [right_down 10 a h2]
  constructor
  · intro h; exact right_deep 10 a ((right_down 10 a h2).2 h) 12
  · intro h; rw [← nn_up 11 a (by omega)]; exact h
theorem ok_app {a b : List GStep} (ha : okL2 a = true) (hb : okL2 b = true) : okL2 (a ++ b) = decide (cntN 12 a + cntN 12 b ≤ 400) := by
  obtain ⟨_, h1, _⟩ := ok_facts ha
  obtain ⟨_, h2, _⟩ := ok_facts hb
  unfold okL2
  rw [cnt_app, right_app, h1, h2]
  simp
theorem ok_one {a : List GStep} (ha : okL2 a = true) {x : GStep} (hx : inn x = [a]) {d : Bool} (hs : stepF (rightL 10) x = (d && rightL 10 a)) : okL2 [x] = (decide (1 + cntN 12 a ≤ 400) && d && decide (nn 12 a ≤ 10)) := by
  obtain ⟨h1, h2, h3, h4, h5, h6, h7⟩ := ok_facts ha
  unfold okL2
  rw [cnt_one hx, h4, rightL, List.all_cons, List.all_nil, hs, Bool.and_true]
  have : rightL 10 a = decide (nn 12 a ≤ 10) := by rw [Bool.eq_iff_iff, h5, decide_eq_true_eq]
  rw [this, Bool.and_assoc]
end Go.Proofs.YtgkfjhfehdefaaaGreatDoor.W
