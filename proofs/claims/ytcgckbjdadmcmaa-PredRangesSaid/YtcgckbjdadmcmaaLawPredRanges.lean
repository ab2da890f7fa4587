/- The statement PredRanges, out of the plain statement over its function. -/
import Derived.Test.YtcgckbjdadmcmaaRows
import Derived.Test.YtcgckbjdadmcmaaQ4E
import Derived.Test.YtcgckbjdadmcmaaPurePredRanges
import Derived.Test.YtcgckbjdadmcmaaQ4X
import Derived.WalkKit
import Derived.ProofKit
import Derived.OpenShut
import Derived.ShutString
import Derived.ChangeOld
import Derived.Below
import Derived.SizedLaws
namespace Go.Proofs.Ytcgckbjdadmcmaa.predRanges
open Go.ChangeShapes Go.WideShapes Go.ChangeAt Go.RowKit Go.Proofs.Ytcgckbjdadmcmaa.Flat Go.Proofs.Ytcgckbjdadmcmaa.W
open Go.ChangeMaps (open_string shut_string)
set_option linter.unusedVariables false
theorem own_ : ownKnob Try.prog.godebug = none := by kernel_rfl
theorem laidOut : laidOutB Try.prog = true := by kernel_rfl
theorem tys : tysOk Try.prog [3, 9, 22, 27] = true := by kernel_rfl
set_option maxRecDepth 100000 in
theorem lifted (os : Os) (started : os.Started) (H : Type) (enc : TypeId × Value → H) :
    ReturnsInHanded {} Try.checked os 9 .any (Rows.predRangesSpec.pre6 enc Try.prog Try.f9 Rows.predRangesRow.domain false) (Rows.predRangesSpec.post enc Try.prog Try.f9 false true false false) := by
  refine returnsInHanded_of_change_sized (C := Try.checked) own_ started (by kernel_rfl) Try.func9
    (ChangeSpec.witness6 (enc := enc) (C := Try.checked) false ⟨#[], #[.agg #[.int .i64 0, .int .i64 0, .string ByteArray.empty, .slice none 0 0, .slice none 0 0], .agg #[.int .i64 0, .int .i64 0, .string ByteArray.empty, .slice none 0 0, .slice none 0 0], .agg #[.int .i64 0, .int .i64 0, .string ByteArray.empty, .slice none 0 0, .slice none 0 0]], []⟩ 12 (by kernel_rfl) (by kernel_rfl) (by kernel_rfl) (by kernel_rfl)) ?_
  intro W base args ds gs before hval0 hW hcnd hsz0 _
  have hsz : (DataW.weightsEach Try.prog (Try.f9.params.toList ++ Rows.predRangesSpec.plain.varTypes Try.prog) (ds ++ gs)).all (· ≤ reachBytes) = true := hsz0
  have hval : ∀ (j : Nat) t v, Try.f9.params[j]? = some t → args[j]? = some v → Value.okWide Try.prog W .any base t v := hval0
  have hW' := hW
  obtain ⟨p, q, hA0, hV, rfl, hfz, hnd⟩ := hW
  have hA : DataW.TrodAll enc Try.prog W 0 (fun _ => true) true Try.f9.params.toList args.toList ds p := hA0
  rw [Try.params9] at hA hval hsz
  obtain ⟨v0, vs0, d0, ds0, p0, q0, hargs, rfl, rfl, h0, r0⟩ := trodAll_cons hA
  obtain ⟨v1, vs1, d1, ds1, p1, q1, rfl, rfl, rfl, h1, r1⟩ := trodAll_cons r0
  obtain ⟨v2, vs2, d2, ds2, p2, q2, rfl, rfl, rfl, h2, r2⟩ := trodAll_cons r1
  obtain ⟨rfl, rfl, rfl⟩ := trodAll_nil r2
  obtain rfl : args = #[v0, v1, v2] := by cases args; simp_all
  obtain ⟨rfl, rfl⟩ := trodVars_none hV
  have k0 := h0
  have lt0 : ∀ x ∈ p0, x.block < W.heap.size := by obtain ⟨m, hm⟩ := k0; exact DataW.trod_lt m _ _ _ hm
  have wt0 : ∀ z ∈ d0.weights Try.prog 27, z ≤ reachBytes := fun z hz => by
    have := List.all_eq_true.1 hsz z (DataW.weights_mem_each (j := 0) (t := 27) (d := d0) rfl rfl z hz)
    simpa using this
  obtain ⟨fu0, hf0⟩ := h0
  obtain ⟨y0, rp0, ty0⟩ := opens tys fu0 27 (by decide) _ _ hf0 wt0
  obtain ⟨cs0, rfl, _⟩ := okWide_struct Try.underlying27 (hval 0 27 v0 rfl rfl)
  obtain ⟨x0, rfl, in0⟩ := GValue.of fu0 y0 ty0
  have rt0 : RepT W (pubE W) x0.t (.agg cs0) [] := ⟨_, rp0, by cases x0; simp only [GValue.t, Flat.valOf, Value.cells, Array.toArray_toList]⟩
  have k1 := h1
  have lt1 : ∀ x ∈ p1, x.block < W.heap.size := by obtain ⟨m, hm⟩ := k1; exact DataW.trod_lt m _ _ _ hm
  have wt1 : ∀ z ∈ d1.weights Try.prog 27, z ≤ reachBytes := fun z hz => by
    have := List.all_eq_true.1 hsz z (DataW.weights_mem_each (j := 1) (t := 27) (d := d1) rfl rfl z hz)
    simpa using this
  obtain ⟨fu1, hf1⟩ := h1
  obtain ⟨y1, rp1, ty1⟩ := opens tys fu1 27 (by decide) _ _ hf1 wt1
  obtain ⟨cs1, rfl, _⟩ := okWide_struct Try.underlying27 (hval 1 27 v1 rfl rfl)
  obtain ⟨x1, rfl, in1⟩ := GValue.of fu1 y1 ty1
  have rt1 : RepT W (pubE W) x1.t (.agg cs1) [] := ⟨_, rp1, by cases x1; simp only [GValue.t, Flat.valOf, Value.cells, Array.toArray_toList]⟩
  have k2 := h2
  have lt2 : ∀ x ∈ p2, x.block < W.heap.size := by obtain ⟨m, hm⟩ := k2; exact DataW.trod_lt m _ _ _ hm
  have wt2 : ∀ z ∈ d2.weights Try.prog 27, z ≤ reachBytes := fun z hz => by
    have := List.all_eq_true.1 hsz z (DataW.weights_mem_each (j := 2) (t := 27) (d := d2) rfl rfl z hz)
    simpa using this
  obtain ⟨fu2, hf2⟩ := h2
  obtain ⟨y2, rp2, ty2⟩ := opens tys fu2 27 (by decide) _ _ hf2 wt2
  obtain ⟨cs2, rfl, _⟩ := okWide_struct Try.underlying27 (hval 2 27 v2 rfl rfl)
  obtain ⟨x2, rfl, in2⟩ := GValue.of fu2 y2 ty2
  have rt2 : RepT W (pubE W) x2.t (.agg cs2) [] := ⟨_, rp2, by cases x2; simp only [GValue.t, Flat.valOf, Value.cells, Array.toArray_toList]⟩
  clear hA0 hval0 hsz0 hsz
  obtain ⟨n, hn⟩ := Pure.PredRanges x0 x1 x2 in0 in1 in2
  have hrun := (tab_ok n).law09_PredRanges _ _ _ true hn
  have hok := run_ok ((Checked.mixed Try.checked)) X_ok n _ _ _ _ _ hrun
  refine (law_true (ys := [x0.t, x1.t, x2.t]) Try.func9 (by kernel_rfl) (by kernel_rfl) ⟨_, _, rfl, rt0, ⟨_, _, rfl, rt1, ⟨_, _, rfl, rt2, rfl⟩⟩⟩ hok).mono fun e W' ⟨he, bel⟩ => ?_
  subst he
  exact ⟨_, rfl, _, _, _, [], _, [], hW', trodAll_mk1 (shut_bool Try.underlying4 _), (trodAll_cons_mk (Below.trod laidOut (by kernel_rfl) (of_decide_eq_true (by kernel_rfl)) k0 bel lt0) (trodAll_cons_mk (Below.trod laidOut (by kernel_rfl) (of_decide_eq_true (by kernel_rfl)) k1 bel lt1) (trodAll_cons_mk (Below.trod laidOut (by kernel_rfl) (of_decide_eq_true (by kernel_rfl)) k2 bel lt2) trodAll_mk0))), rfl, bel.frame _, fun h => by cases h⟩
theorem over : Rows.predRangesRow.holds Try.pinned (OpenSpec.ofChange Rows.predRangesSpec) :=
  OpenClaim.holds_of_wide 9 Try.f9 rfl rfl rfl rfl rfl rfl rfl ⟨rfl, rfl, rfl, rfl, rfl⟩ rfl rfl rfl rfl rfl (by kernel_rfl) Try.func9 (by kernel_rfl)
    (of_decide_eq_true (by kernel_rfl)) (by unfold Func.isWrapper; first | (rw [if_pos (by decide +kernel)]; kernel_rfl) | (rw [if_neg (by decide +kernel)]; exact ⟨rfl, rfl⟩))
    (fun os started H enc _ => lifted os started H enc)
theorem proved : Rows.PredRangesSaid := over
#print axioms proved
end Go.Proofs.Ytcgckbjdadmcmaa.predRanges
namespace Go.Proofs.Ytcgckbjdadmcmaa
/-- The row, under a short name, for the claim. -/
theorem predRanges_holds : Rows.PredRangesSaid := predRanges.proved
end Go.Proofs.Ytcgckbjdadmcmaa
