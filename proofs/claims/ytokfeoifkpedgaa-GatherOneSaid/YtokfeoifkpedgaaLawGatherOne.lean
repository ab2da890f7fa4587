/- The statement GatherOne, out of the plain statement over its function. -/
import Derived.Test.YtokfeoifkpedgaaRows
import Derived.Test.YtokfeoifkpedgaaG1E
import Derived.Test.YtokfeoifkpedgaaPureGatherOne
import Derived.Test.YtokfeoifkpedgaaG1X
import Derived.WalkKit
import Derived.ProofKit
import Derived.OpenShut
import Derived.ShutString
import Derived.ChangeOld
import Derived.Below
import Derived.SizedLaws
namespace Go.Proofs.Ytokfeoifkpedgaa.gatherOne
open Go.ChangeShapes Go.WideShapes Go.ChangeAt Go.RowKit Go.Proofs.Ytokfeoifkpedgaa.Flat Go.Proofs.Ytokfeoifkpedgaa.W
open Go.ChangeMaps (open_string shut_string)
set_option linter.unusedVariables false
theorem own_ : ownKnob Try.prog.godebug = none := by kernel_rfl
theorem laidOut : laidOutB Try.prog = true := by kernel_rfl
theorem tys : tysOk Try.prog [3, 9, 22, 30, 32, 49] = true := by kernel_rfl
set_option maxRecDepth 100000 in
theorem lifted (os : Os) (started : os.Started) (H : Type) (enc : TypeId × Value → H) :
    ReturnsInHanded {} Try.checked os 3 .any (Rows.gatherOneSpec.pre6 enc Try.prog Try.f3 Rows.gatherOneRow.domain false) (Rows.gatherOneSpec.post enc Try.prog Try.f3 false true false false) := by
  refine returnsInHanded_of_change_sized (C := Try.checked) own_ started (by kernel_rfl) Try.func3
    (ChangeSpec.witness6 (enc := enc) (C := Try.checked) false ⟨#[], #[.slice none 0 0], []⟩ 12 (by kernel_rfl) (by kernel_rfl) (by kernel_rfl) (by kernel_rfl)) ?_
  intro W base args ds gs before hval0 hW hcnd hsz0 _
  have hsz : (DataW.weightsEach Try.prog (Try.f3.params.toList ++ Rows.gatherOneSpec.plain.varTypes Try.prog) (ds ++ gs)).all (· ≤ reachBytes) = true := hsz0
  have hval : ∀ (j : Nat) t v, Try.f3.params[j]? = some t → args[j]? = some v → Value.okWide Try.prog W .any base t v := hval0
  have hW' := hW
  obtain ⟨p, q, hA0, hV, rfl, hfz, hnd⟩ := hW
  have hA : DataW.TrodAll enc Try.prog W 0 (fun _ => true) true Try.f3.params.toList args.toList ds p := hA0
  rw [Try.params3] at hA hval hsz
  obtain ⟨v0, vs0, d0, ds0, p0, q0, hargs, rfl, rfl, h0, r0⟩ := trodAll_cons hA
  obtain ⟨rfl, rfl, rfl⟩ := trodAll_nil r0
  obtain rfl : args = #[v0] := by cases args; simp_all
  obtain ⟨rfl, rfl⟩ := trodVars_none hV
  have k0 := h0
  have lt0 : ∀ x ∈ p0, x.block < W.heap.size := by obtain ⟨m, hm⟩ := k0; exact DataW.trod_lt m _ _ _ hm
  have wt0 : ∀ z ∈ d0.weights Try.prog 22, z ≤ reachBytes := fun z hz => by
    have := List.all_eq_true.1 hsz z (DataW.weights_mem_each (j := 0) (t := 22) (d := d0) rfl rfl z hz)
    simpa using this
  obtain ⟨fu0, hf0⟩ := h0
  obtain ⟨y0, rp0, ty0⟩ := opens tys fu0 22 (by decide) _ _ hf0 wt0
  obtain ⟨a0, len0, cap0, rfl⟩ := okWide_slice Try.underlying22 (hval 0 22 v0 rfl rfl)
  have ty00 := ty0
  obtain ⟨x0, rfl, _, _⟩ := tyT_slice (Q := (fun _ => True)) GMany.ts_map Try.underlying22 (show _ = 6 from by kernel_rfl) (show _ = 88 from by kernel_rfl) (fun j hj y hy => by obtain ⟨a, e, _⟩ := GMany.of j y hy; exact ⟨a, e, trivial⟩) ty0
  have rt0 : RepT W (pubE W) (.sl false 6 (GMany.ts x0)) (.slice a0 len0 cap0) [] := ⟨_, rp0, rfl⟩
  clear hA0 hval0 hsz0 hsz
  obtain ⟨n, hn⟩ := Pure.GatherOne x0 ⟨fu0, ty00⟩
  have hrun := (tab_ok n).law16_GatherOne _ true hn
  have hok := run_ok ((Checked.mixed Try.checked)) X_ok n _ _ _ _ _ hrun
  refine (law_true (ys := [.sl false 6 (GMany.ts x0)]) Try.func3 (by kernel_rfl) (by kernel_rfl) (fun g x h => by cases h) ⟨_, _, rfl, rt0, rfl⟩ hok).mono fun e W' ⟨he, bel⟩ => ?_
  subst he
  exact ⟨_, rfl, _, _, _, [], _, [], hW', trodAll_mk1 (shut_bool Try.underlying4 _), (trodAll_cons_mk (Below.trod laidOut (by kernel_rfl) (of_decide_eq_true (by kernel_rfl)) k0 bel lt0) trodAll_mk0), rfl, bel.frame _, fun h => by cases h⟩
theorem over : Rows.gatherOneRow.holds Try.pinned (OpenSpec.ofChange Rows.gatherOneSpec) :=
  OpenClaim.holds_of_wide 3 Try.f3 rfl rfl rfl rfl rfl rfl rfl ⟨rfl, rfl, rfl, rfl, rfl⟩ rfl rfl rfl rfl rfl (by kernel_rfl) Try.func3 (by kernel_rfl)
    (of_decide_eq_true (by kernel_rfl)) (by unfold Func.isWrapper; first | (rw [if_pos (by decide +kernel)]; kernel_rfl) | (rw [if_neg (by decide +kernel)]; exact ⟨rfl, rfl⟩))
    (fun os started H enc _ => lifted os started H enc)
theorem proved : Rows.GatherOneSaid := over
#print axioms proved
end Go.Proofs.Ytokfeoifkpedgaa.gatherOne
namespace Go.Proofs.Ytokfeoifkpedgaa
/-- The row, under a short name, for the claim. -/
theorem gatherOne_holds : Rows.GatherOneSaid := gatherOne.proved
end Go.Proofs.Ytokfeoifkpedgaa
