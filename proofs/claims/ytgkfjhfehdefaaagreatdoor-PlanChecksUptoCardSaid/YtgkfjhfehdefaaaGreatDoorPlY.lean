/- The reference's Check and Free. -/
import Derived.Test.YtgkfjhfehdefaaaGreatDoorPlX
import Derived.Test.YtgkfjhfehdefaaaGreatDoorPlU
import Derived.Test.YtgkfjhfehdefaaaGreatDoorPlI
namespace Go.Proofs.YtgkfjhfehdefaaaGreatDoor.W
open Go.Proofs.YtgkfjhfehdefaaaGreatDoor.Flat
set_option linter.unusedVariables false
set_option linter.unusedSimpArgs false
def vSh : Gshape → Bool
  | .mk _ _ _ _ v _ => v
def pSh : Gshape → Bool
  | .mk _ _ _ _ _ p => p
theorem flags : ((List.range 52).all fun i => (vSh (shL.getD i (.mk (.mk 0 0) (.mk 0 0) (.mk 0 0) (.mk 0 0) false false)) == (i == 15)) && (pSh (shL.getD i (.mk (.mk 0 0) (.mk 0 0) (.mk 0 0) (.mk 0 0) false false)) == (i == 18 || i == 22))) = true := by kernel_rfl
theorem sh_flags {op : Int} (h : 1 ≤ op ∧ op ≤ 51) : vSh (shF op) = (op == 15) ∧ pSh (shF op) = (op == 18 || op == 22) := by
  have h1 := List.all_eq_true.1 flags op.toNat (List.mem_range.2 (by omega))
  rw [Bool.and_eq_true, beq_iff_eq, beq_iff_eq] at h1
  unfold shF
  rw [h1.1, h1.2]
  constructor
  · rw [Bool.eq_iff_iff, beq_iff_eq, beq_iff_eq]; omega
  · rw [Bool.eq_iff_iff, Bool.or_eq_true, Bool.or_eq_true, beq_iff_eq, beq_iff_eq, beq_iff_eq, beq_iff_eq]; omega
theorem step_eq {R : List GStep → Bool} {x : GStep} {q : Bool}
    (hq : (q && namedF (sOf x) && namedF (asOf x)) = (decide (1 ≤ opOf x ∧ opOf x ≤ 51) && (fieldsF x (shF (opOf x)) && !((sOf x).any fun s => !nameF s) && !((asOf x).any fun s => !nameF s) && numF x && !(opOf x == 43 && (twiceF (sOf x) || decide ((byOf x).length > (sOf x).length)))))) :
    (q && namedF (sOf x) && namedF (asOf x) && (((if (opOf x == 15) then okV (vOf x) else (cmp (vOf x) zv == 0)) && (if (opOf x == 18 || opOf x == 22) then okP (pOf x) else emptyF (pOf x))) && ((tOf x).all R && (byOf x).all (byF R (opOf x == 40))))) = stepF R x := by
  rw [hq]
  unfold stepF
  by_cases h : 1 ≤ opOf x ∧ opOf x ≤ 51
  · obtain ⟨f1, f2⟩ := sh_flags h
    rw [decide_eq_true h]
    generalize shF (opOf x) = sh at f1 f2 ⊢
    obtain ⟨a, b, c, d, v, p⟩ := sh
    simp only [vSh, pSh] at f1 f2
    subst f1 f2
    simp only [restF]
    generalize fieldsF x _ = F
    generalize (!(sOf x).any fun s => !nameF s) = A
    generalize (!(asOf x).any fun s => !nameF s) = B
    generalize numF x = M
    generalize (!(opOf x == 43 && (twiceF (sOf x) || decide ((byOf x).length > (sOf x).length)))) = W
    generalize (if (opOf x == 15) = true then okV (vOf x) else cmp (vOf x) zv == 0) = V
    generalize (if (opOf x == 18 || opOf x == 22) = true then okP (pOf x) else emptyF (pOf x)) = P
    generalize (tOf x).all R = T
    generalize (byOf x).all (byF R (opOf x == 40)) = Y
    cases F <;> cases A <;> cases B <;> cases M <;> cases W <;> cases V <;> cases P <;> rfl
  · rw [decide_eq_false h]
    simp only [Bool.false_and]
theorem own_all {t : Tab} {n : Nat} {op : Int} {S As : List ByteArray} {N : List Int} {v1 v2 : Int} {v3 : ByteArray} {v4 v5 : List GValue} {p1 : Int} {p2 : List GValue} {p3 : List GPred} {Ts : List (List GStep)} {By : List GBy} (hr : 1 ≤ op ∧ op ≤ 51)
    (hN : t.ref12_Name op = some (nmF op)) (hlow : t.ref12_low N = some (lowF N)) (honce : t.ref12_once S = some (!twiceF S)) (hs : S.length ≤ 2097152) (hn : N.length ≤ 2097152) (ht : Ts.length ≤ 2097152) (hb : By.length ≤ 2097152) : OwnEq op t n (.mk op S N (.mk v1 v2 v3 v4 v5) (.mk p1 p2 p3) Ts By As) := by
  have k : (op = 1 ∨ op = 2) ∨ (op = 3 ∨ op = 4 ∨ op = 5 ∨ op = 6 ∨ op = 7 ∨ op = 8 ∨ op = 14) ∨ (op = 17 ∨ op = 39) ∨ (op = 18 ∨ op = 19 ∨ op = 20 ∨ op = 49 ∨ op = 50) ∨ op = 21 ∨ op = 25 ∨ (op = 28 ∨ op = 29 ∨ op = 47) ∨ (op = 30 ∨ op = 31 ∨ op = 44 ∨ op = 45) ∨ op = 46 ∨ op = 40 ∨ op = 41 ∨ op = 42 ∨ op = 43 ∨ (op = 9 ∨ op = 10 ∨ op = 11 ∨ op = 12 ∨ op = 13 ∨ op = 15 ∨ op = 16 ∨ op = 22 ∨ op = 23 ∨ op = 26 ∨ op = 27 ∨ op = 32 ∨ op = 33 ∨ op = 34 ∨ op = 35 ∨ op = 36 ∨ op = 37 ∨ op = 38 ∨ op = 51) ∨ op = 24 ∨ op = 48 := by omega
  rcases k with h | h | h | h | h | h | h | h | h | h | h | h | h | h | h | h
  · exact og0 hN hlow honce hs hn ht hb h
  · exact og1 hN hlow honce hs hn ht hb h
  · exact og2 hN hlow honce hs hn ht hb h
  · exact og3 hN hlow honce hs hn ht hb h
  · exact og4 hN hlow honce hs hn ht hb h
  · exact og5 hN hlow honce hs hn ht hb h
  · exact og6 hN hlow honce hs hn ht hb h
  · exact og7 hN hlow honce hs hn ht hb h
  · exact og8 hN hlow honce hs hn ht hb h
  · exact og9 hN hlow honce hs hn ht hb h
  · exact og10 hN hlow honce hs hn ht hb h
  · exact og11 hN hlow honce hs hn ht hb h
  · exact og12 hN hlow honce hs hn ht hb h
  · exact og13 hN hlow honce hs hn ht hb h
  · exact og14 hN hlow honce hs hn ht hb h
  · exact og15 hN hlow honce hs hn ht hb h
theorem own_ev {x : GStep} (hs : SIn x) : Ev fun n => ∃ q, (tab n).ref12_own x = some q ∧ (q && namedF (sOf x) && namedF (asOf x)) = (decide (1 ≤ opOf x ∧ opOf x ≤ 51) && (fieldsF x (shF (opOf x)) && !((sOf x).any fun s => !nameF s) && !((asOf x).any fun s => !nameF s) && numF x && !(opOf x == 43 && (twiceF (sOf x) || decide ((byOf x).length > (sOf x).length))))) := by
  by_cases h : 1 ≤ opOf x ∧ opOf x ≤ 51
  · rw [decide_eq_true h]
    cases hs with
    | @mk op S N V P Ts By As lS lN lA sS sA iV iP lT lB tl bl aT aB =>
      obtain ⟨v1, v2, v3, v4, v5⟩ := V
      obtain ⟨p1, p2, p3⟩ := P
      refine Ev.step (((rName_ev op).and ((low_ev lN).and (once_ev lS))).mono fun n hh => ?_)
      obtain ⟨h1, h2, h3⟩ := hh
      rw [tab_ref12_own]
      obtain ⟨q, k1, k2⟩ := own_all (n := n) (op := op) (v1 := v1) (v2 := v2) (v3 := v3) (v4 := v4) (v5 := v5) (p1 := p1) (p2 := p2) (p3 := p3) (As := As) h h1 h2 h3 lS lN lT lB
      exact ⟨q, k1, k2.trans (Bool.true_and _).symm⟩
  · rw [decide_eq_false h]
    refine Ev.step ((rName_ev (opOf x)).mono fun n hh => ⟨false, ?_, by simp only [Bool.false_and]⟩)
    obtain ⟨op, S, N, ⟨v1, v2, v3, v4, v5⟩, ⟨p1, p2, p3⟩, Ts, By, As⟩ := x
    have e : nmF op = ByteArray.mk #[] := by unfold nmF; exact if_neg h
    have hh : (tab n).ref12_Name op = some (nmF op) := hh
    rw [tab_ref12_own, ref12_own, hh, e]
    dsimp only
    rw [if_pos (by rw [beq_self_eq_true])]
theorem ifab {α : Type _} (a b : Bool) (x y : α) : (if a = true then some (if b = true then x else y) else some y) = if (a && b) = true then some x else some y := by cases a <;> cases b <;> rfl
theorem refright_ev : ∀ (f : Nat), f ≤ 11 → ∀ l, wL l ≤ 2097152 → Ev fun n => (tab n).ref12_right l (12 - (f : Int)) = some (rightL f l)
  | 0, hf, l, h => Ev.step (Ev.pure fun n => by rw [tab_ref12_right]; simp [ref12_right, rightL])
  | f + 1, hf, l, h => by
    have hin := lin_wt h
    have hlen := wL_len l
    have e0 : IntKind.wrap .i64 ((12 - ((f + 1 : Nat) : Int)) + 1) = 12 - (f : Int) := by rw [wr (by omega) (by omega)]; omega
    have H : Ev fun n => ∀ x ∈ l, ∃ q c : Bool, (tab n).ref12_own x = some q ∧ (tab n).ref12_named (sOf x) = some (namedF (sOf x)) ∧ (tab n).ref12_named (asOf x) = some (namedF (asOf x)) ∧ (∀ (i : Int) (op : Int) S N v1 v2 v3 v4 v5 p1 p2 p3 Ts By As, x = .mk op S N (.mk v1 v2 v3 v4 v5) (.mk p1 p2 p3) Ts By As → ref12_right_j2 (tab n) n l (12 - ((f + 1 : Nat) : Int)) i op S N v1 v2 v3 v4 v5 p1 p2 p3 Ts By As = if c = true then some (.inr (l, 12 - ((f + 1 : Nat) : Int), i)) else some (.inl false)) ∧ (q && namedF (sOf x) && namedF (asOf x) && c) = stepF (rightL f) x := Ev.all _ fun x hx => by
      have hs := hin x hx
      have hw := wL_mem hx
      have gs : SIn x → ((sOf x).length ≤ 2097152 ∧ (asOf x).length ≤ 2097152 ∧ (∀ s ∈ sOf x, s.size ≤ 2097152) ∧ (∀ s ∈ asOf x, s.size ≤ 2097152) ∧ VIn (vOf x) ∧ PIn (pOf x) ∧ (∀ b ∈ byOf x, (bKey b).size ≤ 2097152) ∧ (tOf x).length ≤ 2097152 ∧ (byOf x).length ≤ 2097152) := fun h => by
        cases h with
        | @mk op S N V P Ts By As lS lN lA sS sA iV iP lT lB tl bl aT aB => exact ⟨lS, lA, sS, sA, iV, iP, fun b hb => (bl b hb).2, lT, lB⟩
      obtain ⟨q1, q2, q3, q4, q5, q6, q7, q8, q9⟩ := gs hs
      have hx2 : ∀ u ∈ tOf x, wL u < x.t.wt := fun u hu => inn_wt (List.mem_append_left _ hu)
      have g12 : Ev fun n => ∀ u ∈ tOf x, (tab n).ref12_right u (IntKind.wrap .i64 ((12 - ((f + 1 : Nat) : Int)) + 1)) = some (rightL f u) := Ev.all _ fun u hu => by
        rw [e0]
        exact refright_ev f (by omega) u (by have := hx2 u hu; omega)
      have g13 : Ev fun n => ∀ u ∈ byOf x, (tab n).ref12_by u (opOf x == 40) (12 - ((f + 1 : Nat) : Int)) = some (byF (rightL f) (opOf x == 40) u) := Ev.all _ fun b hb => by
        have hbw : wL (bT b) ≤ 2097152 := by
          have hb0 : wL (bT b) < x.t.wt ∨ (bT b).length = 0 := by
            by_cases h0 : (bT b).length = 0
            · exact .inr h0
            · exact .inl (inn_wt (List.mem_append_right _ (List.mem_map.2 ⟨b, List.mem_filter.2 ⟨hb, by simp [innB]; right; omega⟩, rfl⟩)))
          rcases hb0 with h0 | h0
          · omega
          · have : bT b = [] := List.eq_nil_of_length_eq_zero h0
            rw [this]
            simp [wL, wts]
        refine Ev.step (((rname_ev (s := bKey b) (by have := q7 b hb; omega)).and (refright_ev f (by omega) (bT b) hbw)).mono fun n hh => ?_)
        rw [tab_ref12_by]
        exact rby_at hh.1 (by rw [e0]; exact hh.2)
      have g8 : Ev fun n => (tab n).ref02_Same (vOf x) (.mk 0 0 ByteArray.empty [] []) = some (cmp (vOf x) zv == 0) := refSame_ev q5 (VIn.mk (by simp) (by simp) (by simp) (fun x hx => by cases hx) (fun x hx => by cases hx))
      refine ((((own_ev hs).and ((named_ev q3 q1).and (named_ev q4 q2))).and ((refCheck_ev q5).and (ref9Check_ev q6))).and ((g8.and (rSame0_ev (pOf x))).and ((g12.and g13).and ((rName_ev (opOf x)).and (Ev.ge ((tOf x).length + (byOf x).length + 1)))))).mono fun n hh => ?_
      obtain ⟨⟨⟨⟨q, o1, o2⟩, n1, n2⟩, c1, c2⟩, ⟨s1, s2⟩, ⟨r1, r2⟩, nm, hn⟩ := hh
      refine ⟨q, (((if (opOf x == 15) then okV (vOf x) else (cmp (vOf x) zv == 0)) && (if (opOf x == 18 || opOf x == 22) then okP (pOf x) else emptyF (pOf x))) && ((tOf x).all (rightL f) && (byOf x).all (byF (rightL f) (opOf x == 40)))), o1, n1, n2, ?_, step_eq o2⟩
      rintro i op S N v1 v2 v3 v4 v5 p1 p2 p3 Ts By As rfl
      simp only [opOf, sOf, nOf, vOf, pOf, tOf, byOf, asOf] at *
      rw [rr_j2 nm c1 c2 s1 s2 (rr_j4 nm r1 (by omega) r2 (by omega) (by omega))]
      exact ifab _ _ _ _
    refine Ev.step ((H.and (Ev.ge (l.length + 1))).mono fun n hh => ?_)
    rw [tab_ref12_right, ref12_right, if_neg (by simp; omega), rightL]
    rcases rr_l1 (R := rightL f) hh.1 (by omega) l.length 0 n (by omega) (by omega) with ⟨g, ⟨z1, z2⟩, k⟩ | ⟨g, k⟩
    · rw [show ((0 : Nat) : Int) = 0 from rfl] at k
      rw [List.drop_zero] at g
      rw [k, g]
    · rw [show ((0 : Nat) : Int) = 0 from rfl] at k
      rw [List.drop_zero] at g
      rw [k, g]
theorem refPCheck_ev {l : List GStep} (h : wL l ≤ 2097152) : Ev fun n => (tab n).ref12_Check l = some (if okL2 l then 0 else 2) := by
  refine Ev.step (((refSteps_ev h).and (refright_ev 11 (by omega) l h)).mono fun n hh => ?_)
  obtain ⟨h1, h2⟩ := hh
  have h2 : (tab n).ref12_right l 1 = some (rightL 11 l) := h2
  rw [tab_ref12_Check]
  simp only [ref12_Check, h1, h2, okL2, stepsC]
  by_cases hc : cntN 12 l ≤ 400
  · rw [if_neg (by simp; omega)]
    by_cases hr : rightL 11 l = true
    · simp [hr, hc]
    · simp [hr, hc]
  · rw [if_pos (by simp; omega)]
    simp [hc]
/-- Does anything hang on trails: the reference's. -/
theorem rnd_l2 {t : Tab} {n : Nat} {a : List GStep} {i : Int} {ts : List (List GStep)} {g : List GStep → Bool} (H : ∀ x ∈ ts, t.ref12_Named x = some (g x)) (hl : ts.length ≤ 4194304) : ∀ (d j K : Nat), j + d = ts.length → d < K → ((ts.drop j).any g = true ∧ ref12_Named_l2 t n K a i ts (j : Int) = some (.inl true)) ∨ ((ts.drop j).any g = false ∧ ∃ z, ref12_Named_l2 t n K a i ts (j : Int) = some (.inr (a, i, z)))
  | 0, j, K, hi, hk => by
    obtain ⟨K, rfl⟩ : ∃ j, K = j + 1 := ⟨K - 1, by omega⟩
    exact .inr ⟨by rw [List.drop_of_length_le (by omega)]; rfl, _, by rw [ref12_Named_l2, if_neg (by simp; omega)]⟩
  | d + 1, j, K, hi, hk => by
    obtain ⟨K, rfl⟩ : ∃ j, K = j + 1 := ⟨K - 1, by omega⟩
    obtain ⟨y, y1, y3, y2⟩ := at_ (l := ts) (i := j) (by omega)
    have ih := rnd_l2 (n := n) (a := a) (i := i) H hl d (j + 1) K (by omega) (by omega)
    have hy := H y y3
    rw [ref12_Named_l2, if_pos (by simp; omega), if_pos (by simp), Int.toNat_natCast, y1, y2, wr1 (i := j) (L := ts.length) (by omega) (by omega), List.any_cons]
    simp only [hy]
    cases hg : g y with
    | true => rw [if_pos rfl, Bool.true_or]; exact .inl ⟨rfl, rfl⟩
    | false => rw [if_neg (by simp), Bool.false_or]; exact ih
theorem rnd_l1 {t : Tab} {n : Nat} {a : List GStep} {g : List GStep → Bool} (hI : ∀ x ∈ a, t.ref12_Inner x = some (inn x) ∧ (inn x).length ≤ 4194304 ∧ (inn x).length < n ∧ ∀ y ∈ inn x, t.ref12_Named y = some (g y)) (hl : a.length ≤ 4194304) : ∀ (d i K : Nat), i + d = a.length → d < K → (((a.drop i).any fun x => freeQ x || (inn x).any g) = true ∧ ref12_Named_l1 t n K a (i : Int) = some (.inl true)) ∨ (((a.drop i).any fun x => freeQ x || (inn x).any g) = false ∧ ∃ z, ref12_Named_l1 t n K a (i : Int) = some (.inr (a, z)))
  | 0, i, K, hi, hk => by
    obtain ⟨K, rfl⟩ : ∃ j, K = j + 1 := ⟨K - 1, by omega⟩
    exact .inr ⟨by rw [List.drop_of_length_le (by omega)]; rfl, _, by rw [ref12_Named_l1, if_neg (by simp; omega)]⟩
  | d + 1, i, K, hi, hk => by
    obtain ⟨K, rfl⟩ : ∃ j, K = j + 1 := ⟨K - 1, by omega⟩
    obtain ⟨x, x1, x3, x2⟩ := at_ (l := a) (i := i) (by omega)
    have ih := rnd_l1 (n := n) hI hl d (i + 1) K (by omega) (by omega)
    obtain ⟨q1, q2, q3, q4⟩ := hI x x3
    have hw := wr1 (i := i) (L := a.length) (by omega) (by omega)
    rw [ref12_Named_l1, if_pos (by simp; omega), if_pos (by simp), Int.toNat_natCast, x1, x2, List.any_cons]
    have r := rnd_l2 (t := t) (n := n) (a := a) (i := (i : Int)) q4 q2 (inn x).length 0 n (by omega) q3
    clear hI x1 x2 x3 q4
    obtain ⟨op, S, N, ⟨v1, v2, v3, v4, v5⟩, ⟨p1, p2, p3⟩, Ts, By, As⟩ := x
    dsimp only
    have ef : freeQ (.mk op S N (.mk v1 v2 v3 v4 v5) (.mk p1 p2 p3) Ts By As) = (As.length != 0) := rfl
    rw [ngz2, ef]
    cases hq : (As.length != 0) with
    | true => simp
    | false =>
      rw [if_neg (by simp), Bool.false_or]
      rcases r with ⟨k1, k2⟩ | ⟨k1, zz, k2⟩
      · rw [show ((0 : Nat) : Int) = 0 from rfl] at k2
        rw [List.drop_zero] at k1
        rw [k1, Bool.true_or]
        simp only [q1, k2]
        exact .inl (by simp)
      · rw [show ((0 : Nat) : Int) = 0 from rfl] at k2
        rw [List.drop_zero] at k1
        rw [k1, Bool.false_or]
        obtain ⟨zz1, zz2, zz3⟩ := zz
        simp only [q1, k2, hw]
        exact ih
theorem refNamed_ev : ∀ (k : Nat) (l : List GStep), wL l ≤ k → k ≤ 2097152 → Ev fun n => (tab n).ref12_Named l = some (someF freeQ (k + 1) l) := by
  intro k
  induction k with
  | zero =>
    intro l h _
    have := wL_len l
    have : l = [] := List.eq_nil_of_length_eq_zero (by omega)
    subst this
    refine Ev.step ((Ev.ge 1).mono fun n hn => ?_)
    rw [tab_ref12_Named]
    obtain ⟨n, rfl⟩ : ∃ j, n = j + 1 := ⟨n - 1, by omega⟩
    simp [ref12_Named, ref12_Named_l1, someF]
  | succ k ih =>
    intro l h hk
    have hin := lin_wt (l := l) (by omega)
    have hlen := wL_len l
    have H : Ev fun n => ∀ x ∈ l, (tab n).ref12_Inner x = some (inn x) ∧ (inn x).length ≤ 4194304 ∧ (inn x).length < n ∧ ∀ y ∈ inn x, (tab n).ref12_Named y = some (someF freeQ (k + 1) y) :=
      Ev.all l fun x hx => by
        have hx1 := wL_mem hx
        have hs := hin x hx
        have e2 : Ev fun n => ∀ y ∈ inn x, (tab n).ref12_Named y = some (someF freeQ (k + 1) y) := Ev.all _ fun t ht => ih t (by have := inn_wt ht; omega) (by omega)
        exact ((refInner_ev hs).and (e2.and (Ev.ge ((inn x).length + 1)))).mono fun n hn => ⟨hn.1, hs.inn_len, by omega, hn.2.1⟩
    refine Ev.step ((H.and (Ev.ge (l.length + 1))).mono fun n hh => ?_)
    rw [tab_ref12_Named, someF]
    rcases rnd_l1 (n := n) hh.1 (by omega) l.length 0 n (by omega) (by omega) with ⟨h1, h2⟩ | ⟨h1, z, h2⟩
    · rw [show ((0 : Nat) : Int) = 0 from rfl] at h2
      rw [List.drop_zero] at h1
      simp only [ref12_Named, h2, h1]
    · rw [show ((0 : Nat) : Int) = 0 from rfl] at h2
      rw [List.drop_zero] at h1
      simp only [ref12_Named, h2, h1]
theorem refFree_ev {l : List GStep} (h : wL l ≤ 2097152) : Ev fun n => (tab n).ref12_Free l = some (freeF l) := by
  refine Ev.step (((refUses_ev (ops := [26, 27, 38, 39]) (by simp) 2097152 l h (Nat.le_refl _)).and (refNamed_ev 2097152 l h (Nat.le_refl _))).mono fun n hh => ?_)
  obtain ⟨h1, h2⟩ := hh
  have e : usesQ [26, 27, 38, 39] = usesQ [38, 26, 27, 39] := by
    funext x
    unfold usesQ
    simp only [List.any_cons, List.any_nil, Bool.or_false]
    cases (opOf x == 26) <;> cases (opOf x == 27) <;> cases (opOf x == 38) <;> rfl
  rw [someF_eq (by omega) (by omega), e] at h1
  rw [someF_eq (by omega) (by omega)] at h2
  rw [tab_ref12_Free]
  simp only [ref12_Free, h1, h2, freeF]
  cases someP (usesQ [38, 26, 27, 39]) l <;> simp
end Go.Proofs.YtgkfjhfehdefaaaGreatDoor.W
