/- Sums, ends and lists of bulks: the law. -/
import Derived.Test.YtokfeoifkpedgaaOneF
namespace Go.Proofs.Ytokfeoifkpedgaa.W
open Go.Proofs.Ytokfeoifkpedgaa.Flat
set_option linter.unusedVariables false
set_option linter.unusedSimpArgs false
theorem zvv_in : VIn zvv := VIn.mk (by simp) (by simp) (by simp) (fun x hx => by cases hx) (fun x hx => by cases hx)
theorem foldS_in {g : GValue → GValue} {l : List GMany} (hv : ∀ x ∈ l, VIn (g (vOf x))) : VIn (foldS g l).1 := by
  unfold foldS
  split
  · rename_i hz
    obtain ⟨hb, hs, e⟩ := sizeOK hz
    split
    · exact zvv_in
    · have hl := exV_len (g := g) hb
      exact VIn.mk (by simp) (by omega) (by simp) (exV_in (P := VIn) hv) (fun x hx => by cases hx)
  · exact zvv_in
theorem foldS_same (l : List GMany) : (cmp (foldS cp l).1 (foldS id l).1 == 0) = true ∧ (foldS cp l).2 = (foldS id l).2 := by
  unfold foldS
  split
  · split
    · exact ⟨by rw [cmp_self]; rfl, rfl⟩
    · exact ⟨by rw [fold_same]; rfl, rfl⟩
  · exact ⟨by rw [cmp_self]; rfl, rfl⟩
theorem ends_both {l : List GMany} (hl : l.length ≤ 140737488355328) (hv : ∀ x ∈ l, VIn (vOf x)) : ∃ a b c d z, (Ev fun n => (tab n).gather_Ends l = some (a, b, z)) ∧ (Ev fun n => (tab n).ref16_Ends l = some (c, d, z)) ∧ VIn a ∧ VIn b ∧ VIn c ∧ VIn d ∧ (cmp a c == 0) = true ∧ (cmp b d == 0) = true := by
  cases l with
  | nil => exact ⟨_, _, _, _, _, ends0_ev, rends0_ev, zvv_in, zvv_in, zvv_in, zvv_in, by rw [cmp_self]; rfl, by rw [cmp_self]; rfl⟩
  | cons x xs =>
    have hx := hv x (List.mem_cons_self ..)
    have hxs := fun y hy => hv y (List.mem_cons_of_mem _ hy)
    have h1 := mnL_in (P := fun y => VIn (vOf y)) hx hxs
    have h2 := mxL_in (P := fun y => VIn (vOf y)) hx hxs
    exact ⟨_, _, _, _, _, ends_ev hl hv, rends_ev hl hv, cpF_vin 12 _ h1, cpF_vin 12 _ h2, h1, h2, by rw [cp_cmp, cmp_self]; rfl, by rw [cp_cmp, cmp_self]; rfl⟩
theorem Pure.GatherOne : ∀ x0 : List GMany, (∃ n, TyT Try.prog n 22 (.sl false 6 (GMany.ts x0))) → ∃ n, (tab n).law16_GatherOne x0 = some true := by
  intro l hl
  obtain ⟨_, hl⟩ := hl
  have hl := inT_slice GMany.ts_map Try.underlying22 (show _ = 88 from by kernel_rfl) hl
  have hn : l.length * 88 ≤ 140737488351232 := hl.1
  have hin : ∀ x ∈ l, GMany.In x := fun x hx => by obtain ⟨m, h⟩ := hl.2 x hx; exact ⟨m, h⟩
  have hv : ∀ x ∈ l, VIn (vOf x) := fun x hx => by
    have h := hin x hx
    cases x
    exact GValue.vin _ (GMany.in_mk h).1
  have h2 : ∀ x ∈ l, I64' (nV x) ∧ I64' (nOf x) := fun x hx => by
    have h := hin x hx
    obtain ⟨⟨v1, v2, v3, v4, v5⟩, q⟩ := x
    have g1 := (GMany.in_mk h).2
    have g2 := (GValue.in_mk (GMany.in_mk h).1).2.1
    simp [Lit.wf, IntKind.min, IntKind.max, IntKind.signed, IntKind.bits] at g1 g2
    unfold I64'
    simp only [nOf, nV]
    omega
  have i2 : In2 l := ⟨by omega, h2⟩
  obtain ⟨r, em⟩ := many_tot hv (by omega)
  obtain ⟨a, b, c, d, z, e1, e2, va, vb, vc, vd, s1, s2⟩ := ends_both (l := l) (by omega) hv
  have f1 := foldS_in (g := cp) (l := l) fun x hx => cpF_vin 12 _ (hv x hx)
  have f2 := foldS_in (g := id) (l := l) hv
  have fs := foldS_same l
  refine Ev.out (Ev.step ((((em.and known_ev).and ((sum_ev i2).and (rsum_ev i2))).and (((e1.and e2).and ((fold_ev i2 hv).and (rfold_ev i2))).and ((refSame_ev va vc).and ((refSame_ev vb vd).and (refSame_ev f1 f2))))).mono fun n hh => ?_))
  obtain ⟨⟨⟨em, hk⟩, g1, g2⟩, ⟨⟨g3, g4⟩, g5, g6⟩, g7, g8, g9⟩ := hh
  rw [tab_law16_GatherOne]
  simp only [law16_GatherOne, em, hk]
  cases r with
  | true => simp
  | false =>
    rw [s1] at g7
    rw [s2] at g8
    rw [fs.1] at g9
    have e9 := fs.2
    rw [if_neg (by simp), g1, g2, g3, g4, g5, g6]
    generalize sumS l = S
    generalize foldS cp l = F at g9 e9 ⊢
    generalize foldS id l = G at g9 e9 ⊢
    obtain ⟨S1, S2, S3⟩ := S
    obtain ⟨⟨F1, F2, F3, F4, F5⟩, F6⟩ := F
    obtain ⟨⟨G1, G2, G3, G4, G5⟩, G6⟩ := G
    obtain ⟨a1, a2, a3, a4, a5⟩ := a
    obtain ⟨b1, b2, b3, b4, b5⟩ := b
    obtain ⟨c1, c2, c3, c4, c5⟩ := c
    obtain ⟨d1, d2, d3, d4, d5⟩ := d
    simp only at g9 e9
    simp only [beq_self_eq_true, if_true, g7, g8, g9, e9]
end Go.Proofs.Ytokfeoifkpedgaa.W
