/- The statement PredJoins, out of the plain statement over its function. -/
import Derived.Test.YtcgckbjdadmcmaaRows
import Derived.Test.YtcgckbjdadmcmaaQ4E
import Derived.Test.YtcgckbjdadmcmaaPurePredJoins
import Derived.Test.YtcgckbjdadmcmaaQ4X
import Derived.WalkKit
import Derived.ProofKit
import Derived.OpenShut
import Derived.ShutString
import Derived.ChangeOld
import Derived.Below
import Derived.SizedLaws
namespace Go.Proofs.Ytcgckbjdadmcmaa.predJoins
open Go.ChangeShapes Go.WideShapes Go.ChangeAt Go.RowKit Go.Proofs.Ytcgckbjdadmcmaa.Flat Go.Proofs.Ytcgckbjdadmcmaa.W
open Go.ChangeMaps (open_string shut_string)
set_option linter.unusedVariables false
theorem own_ : ownKnob Try.prog.godebug = none := by kernel_rfl
theorem laidOut : laidOutB Try.prog = true := by kernel_rfl
theorem tys : tysOk Try.prog [3, 9, 22, 23, 25, 27] = true := by kernel_rfl
set_option maxRecDepth 100000 in
theorem lifted (os : Os) (started : os.Started) (H : Type) (enc : TypeId × Value → H) :
    ReturnsInHanded {} Try.checked os 8 .any (Rows.predJoinsSpec.pre6 enc Try.prog Try.f8 Rows.predJoinsRow.domain false) (Rows.predJoinsSpec.post enc Try.prog Try.f8 false true false false) := by
  refine returnsInHanded_of_change_sized (C := Try.checked) own_ started (by kernel_rfl) Try.func8
    (ChangeSpec.witness6 (enc := enc) (C := Try.checked) false ⟨#[], #[.slice none 0 0, .agg #[.int .i64 0, .int .i64 0, .string ByteArray.empty, .slice none 0 0, .slice none 0 0]], []⟩ 12 (by kernel_rfl) (by kernel_rfl) (by kernel_rfl) (by kernel_rfl)) ?_
  intro W base args ds gs before hval0 hW hcnd hsz0 _
  have hsz : (DataW.weightsEach Try.prog (Try.f8.params.toList ++ Rows.predJoinsSpec.plain.varTypes Try.prog) (ds ++ gs)).all (· ≤ reachBytes) = true := hsz0
  have hval : ∀ (j : Nat) t v, Try.f8.params[j]? = some t → args[j]? = some v → Value.okWide Try.prog W .any base t v := hval0
  have hW' := hW
  obtain ⟨p, q, hA0, hV, rfl, hfz, hnd⟩ := hW
  have hA : DataW.TrodAll enc Try.prog W 0 (fun _ => true) true Try.f8.params.toList args.toList ds p := hA0
  rw [Try.params8] at hA hval hsz
  obtain ⟨v0, vs0, d0, ds0, p0, q0, hargs, rfl, rfl, h0, r0⟩ := trodAll_cons hA
  obtain ⟨v1, vs1, d1, ds1, p1, q1, rfl, rfl, rfl, h1, r1⟩ := trodAll_cons r0
  obtain ⟨rfl, rfl, rfl⟩ := trodAll_nil r1
  obtain rfl : args = #[v0, v1] := by cases args; simp_all
  obtain ⟨rfl, rfl⟩ := trodVars_none hV
  have k0 := h0
  have lt0 : ∀ x ∈ p0, x.block < W.heap.size := by obtain ⟨m, hm⟩ := k0; exact DataW.trod_lt m _ _ _ hm
  have wt0 : ∀ z ∈ d0.weights Try.prog 23, z ≤ reachBytes := fun z hz => by
    have := List.all_eq_true.1 hsz z (DataW.weights_mem_each (j := 0) (t := 23) (d := d0) rfl rfl z hz)
    simpa using this
  obtain ⟨fu0, hf0⟩ := h0
  obtain ⟨y0, rp0, ty0⟩ := opens tys fu0 23 (by decide) _ _ hf0 wt0
  obtain ⟨a0, len0, cap0, rfl⟩ := okWide_slice Try.underlying23 (hval 0 23 v0 rfl rfl)
  have ty00 := ty0
  obtain ⟨x0, rfl, _, _⟩ := tyT_slice (Q := (fun _ => True)) GPred.ts_map Try.underlying23 (show _ = 3 from by kernel_rfl) (show _ = 56 from by kernel_rfl) (fun j hj y hy => by obtain ⟨a, e, _⟩ := GPred.of j y hy; exact ⟨a, e, trivial⟩) ty0
  have rt0 : RepT W (pubE W) (.sl false 3 (GPred.ts x0)) (.slice a0 len0 cap0) [] := ⟨_, rp0, rfl⟩
  have k1 := h1
  have lt1 : ∀ x ∈ p1, x.block < W.heap.size := by obtain ⟨m, hm⟩ := k1; exact DataW.trod_lt m _ _ _ hm
  have wt1 : ∀ z ∈ d1.weights Try.prog 27, z ≤ reachBytes := fun z hz => by
    have := List.all_eq_true.1 hsz z (DataW.weights_mem_each (j := 1) (t := 27) (d := d1) rfl rfl z hz)
    simpa using this
  obtain ⟨fu1, hf1⟩ := h1
  obtain ⟨y1, rp1, ty1⟩ := opens tys fu1 27 (by decide) _ _ hf1 wt1
  obtain ⟨cs1, rfl, _⟩ := okWide_struct Try.underlying27 (hval 1 27 v1 rfl rfl)
  obtain ⟨x1, rfl, in1⟩ := GValue.of fu1 y1 ty1
  have rt1 : RepT W (pubE W) x1.t (.agg cs1) [] := ⟨_, rp1, by cases x1; simp only [GValue.t, Flat.valOf, Value.cells, Array.toArray_toList]⟩
  clear hA0 hval0 hsz0 hsz
  obtain ⟨n, hn⟩ := Pure.PredJoins x0 x1 ⟨fu0, ty00⟩ in1
  have hrun := (tab_ok n).law09_PredJoins _ _ true hn
  have hok := run_ok ((Checked.mixed Try.checked)) X_ok n _ _ _ _ _ hrun
  refine (law_true (ys := [.sl false 3 (GPred.ts x0), x1.t]) Try.func8 (by kernel_rfl) (by kernel_rfl) ⟨_, _, rfl, rt0, ⟨_, _, rfl, rt1, rfl⟩⟩ hok).mono fun e W' ⟨he, bel⟩ => ?_
  subst he
  exact ⟨_, rfl, _, _, _, [], _, [], hW', trodAll_mk1 (shut_bool Try.underlying4 _), (trodAll_cons_mk (Below.trod laidOut (by kernel_rfl) (of_decide_eq_true (by kernel_rfl)) k0 bel lt0) (trodAll_cons_mk (Below.trod laidOut (by kernel_rfl) (of_decide_eq_true (by kernel_rfl)) k1 bel lt1) trodAll_mk0)), rfl, bel.frame _, fun h => by cases h⟩
theorem over : Rows.predJoinsRow.holds Try.pinned (OpenSpec.ofChange Rows.predJoinsSpec) :=
  OpenClaim.holds_of_wide 8 Try.f8 rfl rfl rfl rfl rfl rfl rfl ⟨rfl, rfl, rfl, rfl, rfl⟩ rfl rfl rfl rfl rfl (by kernel_rfl) Try.func8 (by kernel_rfl)
    (of_decide_eq_true (by kernel_rfl)) (by unfold Func.isWrapper; first | (rw [if_pos (by decide +kernel)]; kernel_rfl) | (rw [if_neg (by decide +kernel)]; exact ⟨rfl, rfl⟩))
    (fun os started H enc _ => lifted os started H enc)
theorem proved : Rows.PredJoinsSaid := over
#print axioms proved
end Go.Proofs.Ytcgckbjdadmcmaa.predJoins
namespace Go.Proofs.Ytcgckbjdadmcmaa
/-- The row, under a short name, for the claim. -/
theorem predJoins_holds : Rows.PredJoinsSaid := predJoins.proved
end Go.Proofs.Ytcgckbjdadmcmaa
