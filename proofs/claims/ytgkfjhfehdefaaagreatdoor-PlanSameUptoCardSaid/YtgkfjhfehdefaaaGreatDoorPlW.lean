/- What the reference says of a step's own parts: it says something. -/
import Derived.Test.YtgkfjhfehdefaaaGreatDoorPlV
namespace Go.Proofs.YtgkfjhfehdefaaaGreatDoor.W
open Go.Proofs.YtgkfjhfehdefaaaGreatDoor.Flat
set_option linter.unusedVariables false
set_option linter.unusedSimpArgs false
section
variable {t : Tab} {n : Nat} {a1 a2 a3 a4 : Int} {a5 : Bool} {a6 : ByteArray} {a7 : Bool} {a8 : Int} {a9 : List ByteArray} {a10 : List Int} {a11 a12 : Int} {a13 : ByteArray} {a14 a15 : List GValue} {a16 : Int} {a17 : List GValue} {a18 : List GPred} {a19 : List (List GStep)} {a20 : List GBy} {a21 : List ByteArray}
theorem tot_ite {α : Type _} {c : Prop} [Decidable c] {x y : Option α} (hx : ∃ q, x = some q) (hy : ∃ q, y = some q) : ∃ q, (if c then x else y) = some q := by split <;> assumption
theorem tot_if0 {α : Type _} {x y : Option α} (hx : ∃ q, x = some q) : ∃ q, (if (decide ((0 : Int) ≤ (0 : Int))) = true then x else y) = some q := hx
theorem tot_if1 {α : Type _} {x y : Option α} (hx : ∃ q, x = some q) : ∃ q, (if (decide ((0 : Int) ≤ (1 : Int))) = true then x else y) = some q := hx
theorem at0 {l : List Int} (h : (l.length : Int) = 2) : ∃ x, l[(0 : Int).toNat]? = some x := ⟨l[0]'(by omega), by simp⟩
theorem at1 {l : List Int} (h : (l.length : Int) = 2) : ∃ x, l[(1 : Int).toNat]? = some x := ⟨l[1]'(by omega), by simp⟩
theorem own_j6 (h2 : a2 = (a10.length : Int)) (hw : ∃ q, t.ref12_once a9 = some q) : ∃ q, ref12_own_j6 t n a1 a2 a3 a4 a5 a6 a7 a8 a9 a10 a11 a12 a13 a14 a15 a16 a17 a18 a19 a20 a21 = some q := by
  obtain ⟨w, hw⟩ := hw
  unfold ref12_own_j6
  rw [hw]
  by_cases e : a2 = 2
  · obtain ⟨x, hx⟩ := at0 (h2.symm.trans e)
    obtain ⟨y, hy⟩ := at1 (h2.symm.trans e)
    rw [hx, hy]
    dsimp only
    with_reducible repeat' first
      | exact ⟨_, rfl⟩
      | apply tot_if0
      | apply tot_if1
      | apply tot_ite
  · have e' : (a2 == 2) = false := by simpa using e
    rw [e']
    dsimp only
    simp only [Bool.false_eq_true, if_false]
    with_reducible repeat' first
      | exact ⟨_, rfl⟩
      | apply tot_ite
theorem own_j5 (h2 : a2 = (a10.length : Int)) (hw : ∃ q, t.ref12_once a9 = some q) : ∃ q, ref12_own_j5 t n a1 a2 a3 a4 a5 a6 a7 a8 a9 a10 a11 a12 a13 a14 a15 a16 a17 a18 a19 a20 a21 = some q := by
  unfold ref12_own_j5
  with_reducible repeat' first
    | exact ⟨_, rfl⟩
    | exact own_j6 h2 hw
    | apply tot_ite
theorem own_j4 (h2 : a2 = (a10.length : Int)) (hw : ∃ q, t.ref12_once a9 = some q) (hl : ∃ q, t.ref12_low a10 = some q) : ∃ q, ref12_own_j4 t n a1 a2 a3 a4 a5 a6 a7 a8 a9 a10 a11 a12 a13 a14 a15 a16 a17 a18 a19 a20 a21 = some q := by
  obtain ⟨w, hl⟩ := hl
  unfold ref12_own_j4
  rw [hl]
  by_cases e : a2 = 2
  · obtain ⟨x, hx⟩ := at0 (h2.symm.trans e)
    obtain ⟨y, hy⟩ := at1 (h2.symm.trans e)
    rw [hx, hy]
    dsimp only
    with_reducible repeat' first
      | exact ⟨_, rfl⟩
      | exact own_j5 h2 hw
      | apply tot_if0
      | apply tot_if1
      | apply tot_ite
  · have e' : (a2 == 2) = false := by simpa using e
    rw [e']
    dsimp only
    simp only [Bool.false_eq_true, if_false]
    with_reducible repeat' first
      | exact ⟨_, rfl⟩
      | exact own_j5 h2 hw
      | apply tot_ite
theorem own_j3 (h2 : a2 = (a10.length : Int)) (hw : ∃ q, t.ref12_once a9 = some q) (hl : ∃ q, t.ref12_low a10 = some q) : ∃ q, ref12_own_j3 t n a1 a2 a3 a4 a5 a6 a7 a8 a9 a10 a11 a12 a13 a14 a15 a16 a17 a18 a19 a20 a21 = some q := by
  unfold ref12_own_j3
  with_reducible repeat' first
    | exact ⟨_, rfl⟩
    | exact own_j4 h2 hw hl
    | apply tot_ite
theorem own_j2 (h2 : a2 = (a10.length : Int)) (hw : ∃ q, t.ref12_once a9 = some q) (hl : ∃ q, t.ref12_low a10 = some q) : ∃ q, ref12_own_j2 t n a1 a2 a3 a4 a5 a6 a7 a8 a9 a10 a11 a12 a13 a14 a15 a16 a17 a18 a19 a20 a21 = some q := by
  unfold ref12_own_j2
  with_reducible repeat' first
    | exact ⟨_, rfl⟩
    | exact own_j3 h2 hw hl
    | apply tot_ite
theorem own_j1 (h2 : a2 = (a10.length : Int)) (hw : ∃ q, t.ref12_once a9 = some q) (hl : ∃ q, t.ref12_low a10 = some q) : ∃ q, ref12_own_j1 t n a1 a2 a3 a4 a5 a6 a7 a8 a9 a10 a11 a12 a13 a14 a15 a16 a17 a18 a19 a20 a21 = some q := by
  unfold ref12_own_j1
  obtain ⟨w, hw'⟩ := hl
  rw [hw']
  dsimp only
  with_reducible repeat' first
    | exact ⟨_, rfl⟩
    | exact own_j2 h2 hw ⟨_, hw'⟩
    | apply tot_ite
theorem tot_sum {x : Option (Bool ⊕ Bool)} (h : ∃ q, x = some q) : ∃ q, (match x with | some (.inl a) => some a | some (.inr a) => some a | none => none) = some q := by
  obtain ⟨q, rfl⟩ := h
  rcases q with q | q <;> exact ⟨_, rfl⟩
end
/- Nothing else of the table matters. -/
section
variable {t t' : Tab} {n n' : Nat} {a9 : List ByteArray} {a10 : List Int} (hw : t.ref12_once a9 = t'.ref12_once a9) (hl : t.ref12_low a10 = t'.ref12_low a10)
include hw
theorem own_c6 (a1 a2 a3 a4 : Int) (a5 : Bool) (a6 : ByteArray) (a7 : Bool) (a8 : Int) (a11 a12 : Int) (a13 : ByteArray) (a14 a15 : List GValue) (a16 : Int) (a17 : List GValue) (a18 : List GPred) (a19 : List (List GStep)) (a20 : List GBy) (a21 : List ByteArray) : ref12_own_j6 t n a1 a2 a3 a4 a5 a6 a7 a8 a9 a10 a11 a12 a13 a14 a15 a16 a17 a18 a19 a20 a21 = ref12_own_j6 t' n' a1 a2 a3 a4 a5 a6 a7 a8 a9 a10 a11 a12 a13 a14 a15 a16 a17 a18 a19 a20 a21 := by
  simp only [ref12_own_j6, hw]
theorem own_c5 (a1 a2 a3 a4 : Int) (a5 : Bool) (a6 : ByteArray) (a7 : Bool) (a8 : Int) (a11 a12 : Int) (a13 : ByteArray) (a14 a15 : List GValue) (a16 : Int) (a17 : List GValue) (a18 : List GPred) (a19 : List (List GStep)) (a20 : List GBy) (a21 : List ByteArray) : ref12_own_j5 t n a1 a2 a3 a4 a5 a6 a7 a8 a9 a10 a11 a12 a13 a14 a15 a16 a17 a18 a19 a20 a21 = ref12_own_j5 t' n' a1 a2 a3 a4 a5 a6 a7 a8 a9 a10 a11 a12 a13 a14 a15 a16 a17 a18 a19 a20 a21 := by
  simp only [ref12_own_j5, own_c6 (n := n) (n' := n') hw]
include hl
theorem own_c4 (a1 a2 a3 a4 : Int) (a5 : Bool) (a6 : ByteArray) (a7 : Bool) (a8 : Int) (a11 a12 : Int) (a13 : ByteArray) (a14 a15 : List GValue) (a16 : Int) (a17 : List GValue) (a18 : List GPred) (a19 : List (List GStep)) (a20 : List GBy) (a21 : List ByteArray) : ref12_own_j4 t n a1 a2 a3 a4 a5 a6 a7 a8 a9 a10 a11 a12 a13 a14 a15 a16 a17 a18 a19 a20 a21 = ref12_own_j4 t' n' a1 a2 a3 a4 a5 a6 a7 a8 a9 a10 a11 a12 a13 a14 a15 a16 a17 a18 a19 a20 a21 := by
  simp only [ref12_own_j4, hl, own_c5 (n := n) (n' := n') hw]
theorem own_c3 (a1 a2 a3 a4 : Int) (a5 : Bool) (a6 : ByteArray) (a7 : Bool) (a8 : Int) (a11 a12 : Int) (a13 : ByteArray) (a14 a15 : List GValue) (a16 : Int) (a17 : List GValue) (a18 : List GPred) (a19 : List (List GStep)) (a20 : List GBy) (a21 : List ByteArray) : ref12_own_j3 t n a1 a2 a3 a4 a5 a6 a7 a8 a9 a10 a11 a12 a13 a14 a15 a16 a17 a18 a19 a20 a21 = ref12_own_j3 t' n' a1 a2 a3 a4 a5 a6 a7 a8 a9 a10 a11 a12 a13 a14 a15 a16 a17 a18 a19 a20 a21 := by
  simp only [ref12_own_j3, own_c4 (n := n) (n' := n') hw hl]
theorem own_c2 (a1 a2 a3 a4 : Int) (a5 : Bool) (a6 : ByteArray) (a7 : Bool) (a8 : Int) (a11 a12 : Int) (a13 : ByteArray) (a14 a15 : List GValue) (a16 : Int) (a17 : List GValue) (a18 : List GPred) (a19 : List (List GStep)) (a20 : List GBy) (a21 : List ByteArray) : ref12_own_j2 t n a1 a2 a3 a4 a5 a6 a7 a8 a9 a10 a11 a12 a13 a14 a15 a16 a17 a18 a19 a20 a21 = ref12_own_j2 t' n' a1 a2 a3 a4 a5 a6 a7 a8 a9 a10 a11 a12 a13 a14 a15 a16 a17 a18 a19 a20 a21 := by
  simp only [ref12_own_j2, own_c3 (n := n) (n' := n') hw hl]
theorem own_c1 (a1 a2 a3 a4 : Int) (a5 : Bool) (a6 : ByteArray) (a7 : Bool) (a8 : Int) (a11 a12 : Int) (a13 : ByteArray) (a14 a15 : List GValue) (a16 : Int) (a17 : List GValue) (a18 : List GPred) (a19 : List (List GStep)) (a20 : List GBy) (a21 : List ByteArray) : ref12_own_j1 t n a1 a2 a3 a4 a5 a6 a7 a8 a9 a10 a11 a12 a13 a14 a15 a16 a17 a18 a19 a20 a21 = ref12_own_j1 t' n' a1 a2 a3 a4 a5 a6 a7 a8 a9 a10 a11 a12 a13 a14 a15 a16 a17 a18 a19 a20 a21 := by
  simp only [ref12_own_j1, hl, own_c2 (n := n) (n' := n') hw hl]
end
theorem own_cg {op : Int} {S As : List ByteArray} {N : List Int} {V : GValue} {P : GPred} {Ts : List (List GStep)} {By : List GBy} {t t' : Tab} {n n' : Nat} (hN : t.ref12_Name op = t'.ref12_Name op) (hw : t.ref12_once S = t'.ref12_once S) (hl : t.ref12_low N = t'.ref12_low N) : ref12_own t n (.mk op S N V P Ts By As) = ref12_own t' n' (.mk op S N V P Ts By As) := by
  obtain ⟨v1, v2, v3, v4, v5⟩ := V
  obtain ⟨p1, p2, p3⟩ := P
  simp only [ref12_own, hN, own_c1 (n := n) (n' := n') hw hl]
theorem own_ev {x : GStep} (hs : SIn x) : ∃ q, Ev fun n => (tab n).ref12_own x = some q := by
  cases hs with
  | @mk op S N V P Ts By As lS lN lA sS sA iV iP lT lB tl bl aT aB =>
    obtain ⟨M, h⟩ := (rName_ev op).and ((low_ev lN).and (once_ev lS))
    obtain ⟨h1, h2, h3⟩ := h M (Nat.le_refl _)
    obtain ⟨q, hq⟩ : ∃ q, ref12_own (tab M) M (.mk op S N V P Ts By As) = some q := by
      obtain ⟨v1, v2, v3, v4, v5⟩ := V
      obtain ⟨p1, p2, p3⟩ := P
      rw [ref12_own, h1]
      dsimp only
      refine tot_ite ⟨_, rfl⟩ (tot_ite ?_ ?_)
      · exact tot_sum (own_j1 rfl ⟨_, h3⟩ ⟨_, h2⟩)
      · exact tot_sum (own_j1 rfl ⟨_, h3⟩ ⟨_, h2⟩)
    refine ⟨q, M + 1, fun n hn => ?_⟩
    obtain ⟨n, rfl⟩ : ∃ j, n = j + 1 := ⟨n - 1, by omega⟩
    obtain ⟨g1, g2, g3⟩ := h n (by omega)
    rw [tab_ref12_own, own_cg (t' := tab M) (n' := M) (g1.trans h1.symm) (g3.trans h3.symm) (g2.trans h2.symm), hq]
open Classical in
theorem ownQ_ev {x : GStep} (hs : SIn x) : Ev fun n => (tab n).ref12_own x = some (ownQ x) := by
  obtain ⟨q, h⟩ := own_ev hs
  have e : ownQ x = q := by
    unfold ownQ
    cases q with
    | true => exact decide_eq_true h
    | false =>
      refine decide_eq_false fun g => ?_
      obtain ⟨n, h1, h2⟩ := (h.and g).out
      rw [h1] at h2
      cases h2
  rw [e]
  exact h
end Go.Proofs.YtgkfjhfehdefaaaGreatDoor.W
