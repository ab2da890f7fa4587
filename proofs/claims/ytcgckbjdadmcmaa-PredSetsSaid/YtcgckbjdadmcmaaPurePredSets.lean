/- Of some values. -/
import Derived.Test.YtcgckbjdadmcmaaPureH
namespace Go.Proofs.Ytcgckbjdadmcmaa.W
open Go.Proofs.Ytcgckbjdadmcmaa.Flat
set_option linter.unusedVariables false
set_option linter.unusedSimpArgs false
theorem sets_l {t : Tab} {n : Nat} {x1 x2 : Int} {x3 : ByteArray} {x4 x5 : List GValue} {v : List GValue} (H : ∀ y ∈ v, t.ref02_Same y (.mk x1 x2 x3 x4 x5) = some (cmp y (.mk x1 x2 x3 x4 x5) == 0)) (C : ∀ y ∈ v, t.ref02_Check y = some (if okV y then 0 else 2)) (hl : v.length ≤ 1759218604391) : ∀ (d i K : Nat) (a b : Bool), i + d = v.length → d < K → ∃ z1 z2, law09_PredSets_l2 t n K v a b (i : Int) x1 x2 x3 x4 x5 = some (v, a || anyS (v.drop i) (.mk x1 x2 x3 x4 x5), b && (v.drop i).all okV, z1, z2, x1, x2, x3, x4, x5)
  | 0, i, K, a, b, hi, hk => by
    obtain ⟨K, rfl⟩ : ∃ j, K = j + 1 := ⟨K - 1, by omega⟩
    rw [List.drop_of_length_le (by omega)]
    refine ⟨(i : Int), decide ((i : Int) < v.length), ?_⟩
    rw [law09_PredSets_l2, if_neg (by simp; omega)]
    simp [anyS]
  | d + 1, i, K, a, b, hi, hk => by
    obtain ⟨K, rfl⟩ : ∃ j, K = j + 1 := ⟨K - 1, by omega⟩
    obtain ⟨y, y1, y3, y2⟩ := at_ (l := v) (i := i) (by omega)
    have hy := H y y3
    have cy := C y y3
    have ih := fun a b => sets_l (n := n) H C hl d (i + 1) K a b (by omega) (by omega)
    have e1 : ∀ a, law09_PredSets_j3 t n v a b (i : Int) x1 x2 x3 x4 x5 = some (v, a, b && okV y, (i : Int), x1, x2, x3, x4, x5) := by
      intro a
      rw [law09_PredSets_j3]
      cases b
      · rfl
      · rw [if_pos rfl, if_pos (by simp), Int.toNat_natCast, y1]
        generalize okV y = q at cy ⊢
        cases y
        simp only [cy]
        cases q <;> rfl
    rw [law09_PredSets_l2, if_pos (by simp; omega), y2]
    have e2 : anyS (y :: v.drop (i + 1)) (.mk x1 x2 x3 x4 x5) = ((cmp y (.mk x1 x2 x3 x4 x5) == 0) || anyS (v.drop (i + 1)) (.mk x1 x2 x3 x4 x5)) := by rw [anyS, List.any_cons]; rfl
    rw [e2, List.all_cons, ← Bool.or_assoc, ← Bool.and_assoc]
    cases a
    · rw [if_neg (by simp), if_pos (by simp), Int.toNat_natCast, y1]
      cases y
      simp only [hy, e1, Bool.false_or]
      rw [wr1 (i := i) (L := v.length) (by omega) (by omega)]
      exact ih _ _
    · rw [if_pos rfl]
      simp only [e1, Bool.true_or]
      rw [wr1 (i := i) (L := v.length) (by omega) (by omega)]
      have := ih true (b && okV y)
      simpa using this
theorem Pure.PredSets : ∀ (x0 : List GValue) (x1 : GValue), (∃ n, TyT Try.prog n 22 (.sl false 5 (GValue.ts x0))) → GValue.In x1 → ∃ n, (tab n).law09_PredSets x0 x1 = some true := by
  intro l v hl hv
  obtain ⟨_, hl⟩ := hl
  have hl := inT_slice GValue.ts_map Try.underlying22 (show _ = 80 from by kernel_rfl) hl
  have hn : l.length ≤ 1759218604391 := by omega
  have hl : ∀ x ∈ l, VIn x := fun x hx => GValue.vin x (by obtain ⟨m, h⟩ := hl.2 x hx; exact ⟨m, h⟩)
  have hv := GValue.vin v hv
  obtain ⟨r, e, _⟩ := many_all hl hn 300
  obtain ⟨r2, e2⟩ := much_all (x := .mk 0 [] []) (l := [v]) (pin0 0 [] (by simp) (by simp)) (by simp; exact hv) (by simp)
  have t1 := fun k => predTest_ev (pin0 k l hl hn) hv
  have t0 := fun k => predTest_ev (pin0 k [] (by simp) (by simp)) hv
  refine Ev.out (Ev.step ((((e.and e2).and (known_ev.and ((t1 10).and (t1 11)))).and (((t0 10).and (t0 11)).and (((Ev.all l fun y hy => refSame_ev (hl y hy) hv).and (Ev.all l fun y hy => refCheck_ev (hl y hy))).and (Ev.ge (l.length + 1))))).mono fun n hh => ?_))
  obtain ⟨⟨⟨h1, h2⟩, h3, h4, h5⟩, ⟨h6, h7⟩, ⟨h8, h9⟩, h10⟩ := hh
  rw [tab_law09_PredSets]
  cases v with | mk x1 x2 x3 x4 x5
  obtain ⟨z1, z2, eq⟩ := sets_l (n := n) h8 h9 hn l.length 0 n false true (by omega) (by omega)
  rw [show ((0 : Nat) : Int) = 0 from rfl, List.drop_zero, Bool.false_or, Bool.true_and] at eq
  simp only [law09_PredSets, h1, h2, h3]
  split
  · rfl
  split
  · rfl
  split
  · rfl
  rename_i h60
  have h60 : ¬ (l.length : Int) > 60 := by simpa using h60
  simp only [law09_PredSets_j1, eq, law09_PredSets_j4, h4, h5, h6, h7, h3]
  have q1 : test (.mk 10 l []) (.mk x1 x2 x3 x4 x5) = (l.all okV && anyS l (.mk x1 x2 x3 x4 x5)) := by
    rw [test_mk]
    have : l.length ≤ 1000 := by omega
    have : (l.length : Int) ≤ 1000 := by omega
    simp [arOK, testF, this]
  have q2 : test (.mk 11 l []) (.mk x1 x2 x3 x4 x5) = (l.all okV && !anyS l (.mk x1 x2 x3 x4 x5)) := by
    rw [test_mk]
    have : l.length ≤ 1000 := by omega
    have : (l.length : Int) ≤ 1000 := by omega
    simp [arOK, testF, this]
  have q3 : test (.mk 10 [] []) (.mk x1 x2 x3 x4 x5) = false := by
    rw [test_mk]
    simp [arOK, testF, anyS]
  have q4 : test (.mk 11 [] []) (.mk x1 x2 x3 x4 x5) = true := by
    rw [test_mk]
    simp [arOK, testF, anyS]
  rw [q1, q2, q3, q4]
  cases l.all okV <;> cases anyS l _ <;> simp
end Go.Proofs.Ytcgckbjdadmcmaa.W
