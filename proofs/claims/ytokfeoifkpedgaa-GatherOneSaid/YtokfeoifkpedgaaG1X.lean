/- What is told of library functions in another way holds. -/
import Derived.Test.YtokfeoifkpedgaaG1C
import Derived.Test.YtokfeoifkpedgaaChecked
import Derived.WalkKit
import Derived.Lib.Bytealg
import Derived.Lib.Walk
import Derived.Lib.SliceRun
import Derived.Lib.AppendZerosOnto
import Derived.Laws.Externs
namespace Go.Proofs.Ytokfeoifkpedgaa.W
open Go.Proofs.Ytokfeoifkpedgaa.Flat Go.RowKit Go.Lib
set_option linter.unusedVariables false
set_option linter.unusedSimpArgs false
set_option maxRecDepth 100000
theorem x46_ok (x y c : Int) (h : 0 ≤ x ∧ 0 ≤ y ∧ 0 ≤ c ∧ c ≤ 1) : CallOk Try.prog 46 [.t (.v (.int .u64 x)), .t (.v (.int .u64 y)), .t (.v (.int .u64 c))] [] (.tup [.v (.int .u64 ((x + y + c) % 18446744073709551616)), .v (.int .u64 ((x + y + c) / 18446744073709551616))]) [] := by
  intro w E β τ Ba vs gok hargs hptr hfb hBa hinj hsim
  obtain ⟨hl, hat⟩ := args_at hsim
  have hl : vs.length = 3 := hl
  obtain ⟨v0, v1, v2, rfl⟩ : ∃ v0 v1 v2, vs = [v0, v1, v2] := by
    match vs, hl with
    | [a, b, c], _ => exact ⟨a, b, c, rfl⟩
  have h0 := hat 0 _ v0 rfl rfl
  have h1 := hat 1 _ v1 rfl rfl
  have h2 := hat 2 _ v2 rfl rfl
  rw [RepV] at h0 h1 h2
  obtain ⟨rfl, _, _⟩ := RepT_v h0
  obtain ⟨rfl, _, _⟩ := RepT_v h1
  obtain ⟨rfl, _, _⟩ := RepT_v h2
  refine .inr ⟨.tuple #[.int .u64 ((x + y + c) % 18446744073709551616), .int .u64 ((x + y + c) / 18446744073709551616)], w, ?_, E, [], [], after_plain ⟨⟨rfl, rfl, rfl⟩, Nat.le_refl _, fun _ _ => rfl⟩ hsim.z ?_⟩
  · have e := run_callFunc_extern (P := Try.prog) Try.func46 (by kernel_rfl) (by kernel_rfl) (by kernel_rfl) (e := add64Entry) (by kernel_rfl) #[.int .u64 x, .int .u64 y, .int .u64 c] w
    rw [run_add64 x y c h.1 h.2.1 h.2.2.1 h.2.2.2] at e
    exact e
  · rw [RepV]
    exact ⟨[_, _], rfl, _, _, [], [], rfl, rfl, RepT_ok rfl _ _, _, _, [], [], rfl, rfl, RepT_ok rfl _ _, rfl, rfl⟩
set_option maxHeartbeats 8000000 in
set_option maxRecDepth 100000 in
theorem compare67_calls (a0 : ByteArray) (a1 : ByteArray) (w : World) :
    Calls Try.prog 67 #[.string a0, .string a1] w fun e w' => ∃ v, e = .returned v ∧ v = .int .i64 (Lib.compareBytes a0.data.toList a1.data.toList) ∧ Quiet w w' := by
  go_enter Try.func67, Try.ntmps67
  go_wp2
  rw [run_callFunc_extern Try.func69 (by kernel_rfl) (by kernel_rfl) (by kernel_rfl) (e := Extern.BytealgCompare.compare) (by kernel_rfl), Lib.run_compareString]
  simp only [Result.andThen]
  rw [Oper.upon_value]
  go_wp2
  go_ret
  exact ⟨_, rfl, rfl, ⟨rfl, rfl, rfl⟩, Nat.le_refl _, fun _ _ => rfl⟩

theorem x67_ok (a b : ByteArray) : CallOk Try.prog 67 [.t (.v (.string a)), .t (.v (.string b))] [] (.t (.v (.int .i64 (Lib.compareBytes a.data.toList b.data.toList)))) [] := by
  intro w E β τ Ba vs gok hargs hptr hfb hBa hinj hsim
  obtain ⟨hl, hat⟩ := args_at hsim
  have hl : vs.length = 2 := hl
  obtain ⟨v0, v1, rfl⟩ : ∃ v0 v1, vs = [v0, v1] := by
    match vs, hl with
    | [a, b], _ => exact ⟨a, b, rfl⟩
  have h0 := hat 0 _ v0 rfl rfl
  have h1 := hat 1 _ v1 rfl rfl
  rw [RepV] at h0 h1
  obtain ⟨rfl, _, _⟩ := RepT_v h0
  obtain ⟨rfl, _, _⟩ := RepT_v h1
  refine sem_of Try.func67 (by kernel_rfl) (by kernel_rfl) ((compare67_calls a b w).mono ?_)
  rintro e w' ⟨v, he, rfl, hq⟩
  exact ⟨_, he, E, [], [], after_plain hq hsim.z (by rw [RepV]; exact RepT_ok rfl _ _)⟩
def X0 (f : FuncId) (args fb : List AV) : Option (AV × List AV) :=
  if f = 46 then (match fb with | [] => (match args with | [.t (.v (.int .u64 a)), .t (.v (.int .u64 b)), .t (.v (.int .u64 c))] => if decide (0 ≤ a ∧ 0 ≤ b ∧ 0 ≤ c ∧ c ≤ 1) = true then some (.tup [.v (.int .u64 ((a + b + c) % 18446744073709551616)), .v (.int .u64 ((a + b + c) / 18446744073709551616))], []) else none | _ => none) | _ => none) else
  if f = 67 then (match fb with | [] => (match args with | [.t (.v (.string a)), .t (.v (.string b))] => some (.t (.v (.int .i64 (Lib.compareBytes a.data.toList b.data.toList))), []) | _ => none) | _ => none) else
  none
theorem X0_ok : ∀ (f : FuncId) (args fb : List AV) (r : AV) (outs : List AV), X0 f args fb = some (r, outs) → CallOk Try.prog f args fb r outs := by
  intro f args fb r outs h
  unfold X0 at h
  by_cases h46 : f = 46
  · rw [if_pos h46] at h
    subst h46
    exact by
      split at h
      · split at h
        · rename_i a b c
          by_cases hq : decide (0 ≤ a ∧ 0 ≤ b ∧ 0 ≤ c ∧ c ≤ 1) = true
          · rw [if_pos hq] at h
            cases h
            exact x46_ok _ _ _ (of_decide_eq_true hq)
          · rw [if_neg hq] at h; cases h
        · cases h
      · cases h
  rw [if_neg h46] at h
  by_cases h67 : f = 67
  · rw [if_pos h67] at h
    subst h67
    exact by
      split at h
      · split at h
        · cases h; exact x67_ok _ _
        · cases h
      · cases h
  rw [if_neg h67] at h
  cases h
theorem known9 : run Try.prog own (fun _ _ => none) X0 200 9 [] [] = some (.t (.v (.bool true)), []) := by kernel_rfl
theorem X_ok : ∀ (f : FuncId) (args fb : List AV) (r : AV) (outs : List AV), X f args fb = some (r, outs) → CallOk Try.prog f args fb r outs := by
  intro f args fb r outs h
  unfold X at h
  by_cases h9 : f = 9
  · rw [if_pos h9] at h
    subst h9
    exact by
      split at h
      · split at h
        · cases h; exact run_ok (Checked.mixed Try.checked) X0_ok 200 _ _ _ _ _ known9
        · cases h
      · cases h
  rw [if_neg h9] at h
  by_cases h46 : f = 46
  · rw [if_pos h46] at h
    subst h46
    exact by
      split at h
      · split at h
        · rename_i a b c
          by_cases hq : decide (0 ≤ a ∧ 0 ≤ b ∧ 0 ≤ c ∧ c ≤ 1) = true
          · rw [if_pos hq] at h
            cases h
            exact x46_ok _ _ _ (of_decide_eq_true hq)
          · rw [if_neg hq] at h; cases h
        · cases h
      · cases h
  rw [if_neg h46] at h
  by_cases h67 : f = 67
  · rw [if_pos h67] at h
    subst h67
    exact by
      split at h
      · split at h
        · cases h; exact x67_ok _ _
        · cases h
      · cases h
  rw [if_neg h67] at h
  cases h
end Go.Proofs.Ytokfeoifkpedgaa.W
