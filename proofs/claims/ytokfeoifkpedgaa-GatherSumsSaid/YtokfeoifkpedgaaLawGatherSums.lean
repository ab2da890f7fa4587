/- The statement GatherSums, out of the plain statement over its function. -/
import Derived.Test.YtokfeoifkpedgaaRows
import Derived.Test.YtokfeoifkpedgaaG4E
import Derived.Test.YtokfeoifkpedgaaPureGatherSums
import Derived.Test.YtokfeoifkpedgaaG4X
import Derived.WalkKit
import Derived.ProofKit
import Derived.OpenShut
import Derived.ShutString
import Derived.ChangeOld
import Derived.Below
import Derived.SizedLaws
namespace Go.Proofs.Ytokfeoifkpedgaa.gatherSums
open Go.ChangeShapes Go.WideShapes Go.ChangeAt Go.RowKit Go.Proofs.Ytokfeoifkpedgaa.Flat Go.Proofs.Ytokfeoifkpedgaa.W
open Go.ChangeMaps (open_string shut_string)
set_option linter.unusedVariables false
theorem own_ : ownKnob Try.prog.godebug = none := by kernel_rfl
theorem laidOut : laidOutB Try.prog = true := by kernel_rfl
theorem tys : tysOk Try.prog [3, 9, 22, 30, 32, 49] = true := by kernel_rfl
set_option maxRecDepth 100000 in
theorem lifted (os : Os) (started : os.Started) (H : Type) (enc : TypeId × Value → H) :
    ReturnsInHanded {} Try.checked os 5 .any (Rows.gatherSumsSpec.pre6 enc Try.prog Try.f5 Rows.gatherSumsRow.domain false) (Rows.gatherSumsSpec.post enc Try.prog Try.f5 false true false false) := by
  refine returnsInHanded_of_change_sized (C := Try.checked) own_ started (by kernel_rfl) Try.func5
    (ChangeSpec.witness6 (enc := enc) (C := Try.checked) false ⟨#[], #[.slice none 0 0, .int .i64 0, .int .i64 0, .int .i64 0], []⟩ 12 (by kernel_rfl) (by kernel_rfl) (by kernel_rfl) (by kernel_rfl)) ?_
  intro W base args ds gs before hval0 hW hcnd hsz0 _
  have hsz : (DataW.weightsEach Try.prog (Try.f5.params.toList ++ Rows.gatherSumsSpec.plain.varTypes Try.prog) (ds ++ gs)).all (· ≤ reachBytes) = true := hsz0
  have hval : ∀ (j : Nat) t v, Try.f5.params[j]? = some t → args[j]? = some v → Value.okWide Try.prog W .any base t v := hval0
  have hW' := hW
  obtain ⟨p, q, hA0, hV, rfl, hfz, hnd⟩ := hW
  have hA : DataW.TrodAll enc Try.prog W 0 (fun _ => true) true Try.f5.params.toList args.toList ds p := hA0
  rw [Try.params5] at hA hval hsz
  obtain ⟨v0, vs0, d0, ds0, p0, q0, hargs, rfl, rfl, h0, r0⟩ := trodAll_cons hA
  obtain ⟨v1, vs1, d1, ds1, p1, q1, rfl, rfl, rfl, h1, r1⟩ := trodAll_cons r0
  obtain ⟨v2, vs2, d2, ds2, p2, q2, rfl, rfl, rfl, h2, r2⟩ := trodAll_cons r1
  obtain ⟨v3, vs3, d3, ds3, p3, q3, rfl, rfl, rfl, h3, r3⟩ := trodAll_cons r2
  obtain ⟨rfl, rfl, rfl⟩ := trodAll_nil r3
  obtain rfl : args = #[v0, v1, v2, v3] := by cases args; simp_all
  obtain ⟨rfl, rfl⟩ := trodVars_none hV
  have k0 := h0
  have lt0 : ∀ x ∈ p0, x.block < W.heap.size := by obtain ⟨m, hm⟩ := k0; exact DataW.trod_lt m _ _ _ hm
  have wt0 : ∀ z ∈ d0.weights Try.prog 22, z ≤ reachBytes := fun z hz => by
    have := List.all_eq_true.1 hsz z (DataW.weights_mem_each (j := 0) (t := 22) (d := d0) rfl rfl z hz)
    simpa using this
  obtain ⟨fu0, hf0⟩ := h0
  obtain ⟨y0, rp0, ty0⟩ := opens tys fu0 22 (by decide) _ _ hf0 wt0
  obtain ⟨a0, len0, cap0, rfl⟩ := okWide_slice Try.underlying22 (hval 0 22 v0 rfl rfl)
  have ty00 := ty0
  obtain ⟨x0, rfl, _, _⟩ := tyT_slice (Q := (fun _ => True)) GMany.ts_map Try.underlying22 (show _ = 6 from by kernel_rfl) (show _ = 88 from by kernel_rfl) (fun j hj y hy => by obtain ⟨a, e, _⟩ := GMany.of j y hy; exact ⟨a, e, trivial⟩) ty0
  have rt0 : RepT W (pubE W) (.sl false 6 (GMany.ts x0)) (.slice a0 len0 cap0) [] := ⟨_, rp0, rfl⟩
  have k1 := h1
  have lt1 : ∀ x ∈ p1, x.block < W.heap.size := by obtain ⟨m, hm⟩ := k1; exact DataW.trod_lt m _ _ _ hm
  have wt1 : ∀ z ∈ d1.weights Try.prog 3, z ≤ reachBytes := fun z hz => by
    have := List.all_eq_true.1 hsz z (DataW.weights_mem_each (j := 1) (t := 3) (d := d1) rfl rfl z hz)
    simpa using this
  obtain ⟨fu1, hf1⟩ := h1
  obtain ⟨y1, rp1, ty1⟩ := opens tys fu1 3 (by decide) _ _ hf1 wt1
  obtain ⟨x1, rfl, wf1⟩ := tyT_int Try.underlying3 ty1
  obtain ⟨o1, rfl, _⟩ : ∃ o, v1 = .int .i64 o ∧ True := by
    obtain ⟨o, h1, h2, h3, _⟩ := open_int Try.underlying3 (hval 1 3 v1 rfl rfl) k1
    first | exact ⟨o, h1, trivial⟩ | exact ⟨o, h2, trivial⟩ | exact ⟨o, h3, trivial⟩
  have rt1 : RepT W (pubE W) (.v (.int .i64 x1)) (.int .i64 o1) [] := by
    have rp := rp1
    rw [Rep] at rp
    obtain ⟨rp1, _, _⟩ := rp
    simp [Value.cells] at rp1
    subst rp1
    exact RepT_ok rfl _ _
  have k2 := h2
  have lt2 : ∀ x ∈ p2, x.block < W.heap.size := by obtain ⟨m, hm⟩ := k2; exact DataW.trod_lt m _ _ _ hm
  have wt2 : ∀ z ∈ d2.weights Try.prog 3, z ≤ reachBytes := fun z hz => by
    have := List.all_eq_true.1 hsz z (DataW.weights_mem_each (j := 2) (t := 3) (d := d2) rfl rfl z hz)
    simpa using this
  obtain ⟨fu2, hf2⟩ := h2
  obtain ⟨y2, rp2, ty2⟩ := opens tys fu2 3 (by decide) _ _ hf2 wt2
  obtain ⟨x2, rfl, wf2⟩ := tyT_int Try.underlying3 ty2
  obtain ⟨o2, rfl, _⟩ : ∃ o, v2 = .int .i64 o ∧ True := by
    obtain ⟨o, h1, h2, h3, _⟩ := open_int Try.underlying3 (hval 2 3 v2 rfl rfl) k2
    first | exact ⟨o, h1, trivial⟩ | exact ⟨o, h2, trivial⟩ | exact ⟨o, h3, trivial⟩
  have rt2 : RepT W (pubE W) (.v (.int .i64 x2)) (.int .i64 o2) [] := by
    have rp := rp2
    rw [Rep] at rp
    obtain ⟨rp1, _, _⟩ := rp
    simp [Value.cells] at rp1
    subst rp1
    exact RepT_ok rfl _ _
  have k3 := h3
  have lt3 : ∀ x ∈ p3, x.block < W.heap.size := by obtain ⟨m, hm⟩ := k3; exact DataW.trod_lt m _ _ _ hm
  have wt3 : ∀ z ∈ d3.weights Try.prog 3, z ≤ reachBytes := fun z hz => by
    have := List.all_eq_true.1 hsz z (DataW.weights_mem_each (j := 3) (t := 3) (d := d3) rfl rfl z hz)
    simpa using this
  obtain ⟨fu3, hf3⟩ := h3
  obtain ⟨y3, rp3, ty3⟩ := opens tys fu3 3 (by decide) _ _ hf3 wt3
  obtain ⟨x3, rfl, wf3⟩ := tyT_int Try.underlying3 ty3
  obtain ⟨o3, rfl, _⟩ : ∃ o, v3 = .int .i64 o ∧ True := by
    obtain ⟨o, h1, h2, h3, _⟩ := open_int Try.underlying3 (hval 3 3 v3 rfl rfl) k3
    first | exact ⟨o, h1, trivial⟩ | exact ⟨o, h2, trivial⟩ | exact ⟨o, h3, trivial⟩
  have rt3 : RepT W (pubE W) (.v (.int .i64 x3)) (.int .i64 o3) [] := by
    have rp := rp3
    rw [Rep] at rp
    obtain ⟨rp1, _, _⟩ := rp
    simp [Value.cells] at rp1
    subst rp1
    exact RepT_ok rfl _ _
  clear hA0 hval0 hsz0 hsz
  obtain ⟨n, hn⟩ := Pure.GatherSums x0 x1 x2 x3 ⟨fu0, ty00⟩ wf1 wf2 wf3
  have hrun := (tab_ok n).law16_GatherSums _ _ _ _ true hn
  have hok := run_ok ((Checked.mixed Try.checked)) X_ok n _ _ _ _ _ hrun
  refine (law_true (ys := [.sl false 6 (GMany.ts x0), .v (.int .i64 x1), .v (.int .i64 x2), .v (.int .i64 x3)]) Try.func5 (by kernel_rfl) (by kernel_rfl) ⟨_, _, rfl, rt0, ⟨_, _, rfl, rt1, ⟨_, _, rfl, rt2, ⟨_, _, rfl, rt3, rfl⟩⟩⟩⟩ hok).mono fun e W' ⟨he, bel⟩ => ?_
  subst he
  exact ⟨_, rfl, _, _, _, [], _, [], hW', trodAll_mk1 (shut_bool Try.underlying4 _), (trodAll_cons_mk (Below.trod laidOut (by kernel_rfl) (of_decide_eq_true (by kernel_rfl)) k0 bel lt0) (trodAll_cons_mk (Below.trod laidOut (by kernel_rfl) (of_decide_eq_true (by kernel_rfl)) k1 bel lt1) (trodAll_cons_mk (Below.trod laidOut (by kernel_rfl) (of_decide_eq_true (by kernel_rfl)) k2 bel lt2) (trodAll_cons_mk (Below.trod laidOut (by kernel_rfl) (of_decide_eq_true (by kernel_rfl)) k3 bel lt3) trodAll_mk0)))), rfl, bel.frame _, fun h => by cases h⟩
theorem over : Rows.gatherSumsRow.holds Try.pinned (OpenSpec.ofChange Rows.gatherSumsSpec) :=
  OpenClaim.holds_of_wide 5 Try.f5 rfl rfl rfl rfl rfl rfl rfl ⟨rfl, rfl, rfl, rfl, rfl⟩ rfl rfl rfl rfl rfl (by kernel_rfl) Try.func5 (by kernel_rfl)
    (of_decide_eq_true (by kernel_rfl)) (by unfold Func.isWrapper; first | (rw [if_pos (by decide +kernel)]; kernel_rfl) | (rw [if_neg (by decide +kernel)]; exact ⟨rfl, rfl⟩))
    (fun os started H enc _ => lifted os started H enc)
theorem proved : Rows.GatherSumsSaid := over
#print axioms proved
end Go.Proofs.Ytokfeoifkpedgaa.gatherSums
namespace Go.Proofs.Ytokfeoifkpedgaa
/-- The row, under a short name, for the claim. -/
theorem gatherSums_holds : Rows.GatherSumsSaid := gatherSums.proved
end Go.Proofs.Ytokfeoifkpedgaa
