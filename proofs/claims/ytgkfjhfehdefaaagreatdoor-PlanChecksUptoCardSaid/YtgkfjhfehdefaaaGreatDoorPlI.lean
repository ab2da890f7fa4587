/- How many, how deep: the reference's. -/
import Derived.Test.YtgkfjhfehdefaaaGreatDoorPlH
namespace Go.Proofs.YtgkfjhfehdefaaaGreatDoor.W
open Go.Proofs.YtgkfjhfehdefaaaGreatDoor.Flat
set_option linter.unusedVariables false
set_option linter.unusedSimpArgs false
theorem rsteps_l3 {most more : Int} {l : List GStep} {i : Int} {ts : List (List GStep)} {c : List GStep → Nat} (hm : 1 ≤ most ∧ most ≤ 401) (hd : 1 ≤ more ∧ more ≤ 11) (H : ∀ t ∈ ts, ∀ m : Int, 1 ≤ m → m ≤ 401 → Ev fun n => (tab n).ref12_steps t m (IntKind.wrap .i64 (more - 1)) = some (min m (c t))) (hl : ts.length ≤ 4194304) : ∀ (d j : Nat) (st : Int), j + d = ts.length → 0 ≤ st → st ≤ most →
    Ev fun n => ∀ K, d < K → ∃ z, ref12_steps_l3 (tab n) n K l most more st i ts (j : Int) = some (l, most, more, min most (st + (((ts.drop j).map c).sum : Nat)), i, z)
  | 0, j, st, hi, h0, h1 => by
    refine Ev.pure fun n K hk => ?_
    obtain ⟨K, rfl⟩ : ∃ j, K = j + 1 := ⟨K - 1, by omega⟩
    refine ⟨_, by rw [ref12_steps_l3, if_neg (by simp; omega), List.drop_of_length_le (by omega)]; simp only [List.map_nil, List.sum_nil]; rw [show min most (st + ((0 : Nat) : Int)) = st by omega]⟩
  | d + 1, j, st, hi, h0, h1 => by
    obtain ⟨y, y1, y3, y2⟩ := at_ (l := ts) (i := j) (by omega)
    have hw := wr1 (i := j) (L := ts.length) (by omega) (by omega)
    by_cases hst : st < most
    · have e1 := H y y3 (most - st) (by omega) (by omega)
      have ih := rsteps_l3 (l := l) (i := i) hm hd H hl d (j + 1) (min most (st + c y)) (by omega) (by omega) (by omega)
      refine (e1.and ih).mono fun n hh K hk => ?_
      obtain ⟨g1, g2⟩ := hh
      obtain ⟨K, rfl⟩ : ∃ j, K = j + 1 := ⟨K - 1, by omega⟩
      obtain ⟨z, hz⟩ := g2 K (by omega)
      refine ⟨z, ?_⟩
      rw [ref12_steps_l3, if_pos (by simp; omega), if_pos (by simp; omega), if_pos (by simpa using hst), ref12_steps_j4, if_pos (by simp), Int.toNat_natCast, y1]
      dsimp only
      rw [show IntKind.wrap .i64 (most - st) = most - st from wr (by omega) (by omega), g1]
      dsimp only
      rw [hw, show IntKind.wrap .i64 (st + min (most - st) (c y)) = min most (st + c y) by rw [wr (by omega) (by omega)]; omega, hz, y2, List.map_cons, List.sum_cons]
      congr 4
      push_cast
      rw [show min most (min most (st + (c y : Int)) + (((ts.drop (j + 1)).map c).sum : Nat)) = min most (st + ((c y : Int) + (((ts.drop (j + 1)).map c).sum : Nat))) by omega]
    · refine Ev.pure fun n K hk => ?_
      obtain ⟨K, rfl⟩ : ∃ j, K = j + 1 := ⟨K - 1, by omega⟩
      have e : min most (st + (((ts.drop j).map c).sum : Nat)) = st := by omega
      rw [e]
      exact ⟨_, by rw [ref12_steps_l3, if_pos (by simp; omega), if_pos (by simp; omega), if_neg (by simpa using hst)]⟩
theorem rsteps_l1 {most more : Int} {l : List GStep} {c : List GStep → Nat} (hm : 1 ≤ most ∧ most ≤ 401) (hl : l.length ≤ 4194304)
    (H : ∀ x ∈ l, (Ev fun n => (tab n).ref12_Inner x = some (inn x)) ∧ ∀ st : Int, 0 ≤ st → st ≤ most → ∀ i, Ev fun n => ∃ z, ref12_steps_l3 (tab n) n n l most more st i (inn x) 0 = some (l, most, more, min most (st + (((inn x).map c).sum : Nat)), i, z)) :
    ∀ (d j : Nat) (st : Int), j + d = l.length → 0 ≤ st → st ≤ most →
    Ev fun n => ∀ K, d < K → ∃ z, ref12_steps_l1 (tab n) n K l most more st (j : Int) = some (l, most, more, min most (st + (((l.drop j).map fun x => 1 + ((inn x).map c).sum).sum : Nat)), z)
  | 0, j, st, hi, h0, h1 => by
    refine Ev.pure fun n K hk => ?_
    obtain ⟨K, rfl⟩ : ∃ j, K = j + 1 := ⟨K - 1, by omega⟩
    refine ⟨_, by rw [ref12_steps_l1, if_neg (by simp; omega), List.drop_of_length_le (by omega)]; simp only [List.map_nil, List.sum_nil]; rw [show min most (st + ((0 : Nat) : Int)) = st by omega]⟩
  | d + 1, j, st, hi, h0, h1 => by
    obtain ⟨x, x1, x3, x2⟩ := at_ (l := l) (i := j) (by omega)
    have hw := wr1 (i := j) (L := l.length) (by omega) (by omega)
    have hw1 : IntKind.wrap .i64 (st + 1) = st + 1 := wr (by omega) (by omega)
    by_cases hst : st < most
    · obtain ⟨q1, q3⟩ := H x x3
      have q3 := q3 (st + 1) (by omega) (by omega) (j : Int)
      have ih := rsteps_l1 (more := more) hm hl H d (j + 1) (min most (st + 1 + (((inn x).map c).sum : Nat))) (by omega) (by omega) (by omega)
      refine ((q1.and q3).and ih).mono fun n hh K hk => ?_
      obtain ⟨⟨g1, ⟨z1, z2, z3⟩, g2⟩, g3⟩ := hh
      obtain ⟨K, rfl⟩ : ∃ j, K = j + 1 := ⟨K - 1, by omega⟩
      obtain ⟨z, hz⟩ := g3 K (by omega)
      refine ⟨z, ?_⟩
      rw [ref12_steps_l1, if_pos (by simp; omega), if_pos (by simpa using hst), ref12_steps_j2, if_pos (by simp), Int.toNat_natCast, x1, x2, List.map_cons, List.sum_cons]
      have e2 : ∀ s : Nat, min most (min most (st + 1 + (((inn x).map c).sum : Nat)) + (s : Int)) = min most (st + ((1 + ((inn x).map c).sum + s : Nat) : Int)) := fun s => by push_cast; omega
      rw [← e2]
      clear ih x1 x2 x3 q1 q3 H e2
      obtain ⟨op, S, N, ⟨v1, v2, v3, v4, v5⟩, ⟨p1, p2, p3⟩, Ts, By, As⟩ := x
      simp only [g1, hw1, g2, hw]
      exact hz
    · refine Ev.pure fun n K hk => ?_
      obtain ⟨K, rfl⟩ : ∃ j, K = j + 1 := ⟨K - 1, by omega⟩
      have e : min most (st + (((l.drop j).map fun x => 1 + ((inn x).map c).sum).sum : Nat)) = st := by omega
      rw [e]
      exact ⟨_, by rw [ref12_steps_l1, if_pos (by simp; omega), if_neg (by simpa using hst)]⟩
theorem rsteps_ev : ∀ (g : Nat), g ≤ 11 → ∀ l, wL l ≤ 2097152 → ∀ most : Int, 1 ≤ most → most ≤ 401 → Ev fun n => (tab n).ref12_steps l most (g : Int) = some (min most (cntN (g + 1) l)) := by
  intro g
  induction g with
  | zero =>
    intro _ l h most h1 h2
    have hin := lin_wt h
    have hlen := wL_len l
    rw [show ((0 : Nat) : Int) = 0 from rfl]
    have k := rsteps_l1 (most := most) (more := 0) (l := l) (c := cntN 0) ⟨h1, h2⟩ (by omega) (fun x hx => ⟨refInner_ev (hin x hx), fun st a b i => (Ev.ge 1).mono fun n hn => by
      rw [cnt0_sum, show min most (st + ((0 : Nat) : Int)) = st by omega]
      obtain ⟨n, rfl⟩ : ∃ j, n = j + 1 := ⟨n - 1, by omega⟩
      rw [ref12_steps_l3]
      by_cases h0 : (decide ((0 : Int) < ((inn x).length : Int))) = true
      · rw [if_pos h0, if_neg (by simp)]
        exact ⟨_, rfl⟩
      · rw [if_neg h0]
        exact ⟨_, rfl⟩⟩) l.length 0 0 (by omega) (by omega) (by omega)
    refine Ev.step ((k.and (Ev.ge (l.length + 1))).mono fun n hh => ?_)
    obtain ⟨⟨z1, z2⟩, k⟩ := hh.1 n (by omega)
    rw [show ((0 : Nat) : Int) = 0 from rfl, List.drop_zero] at k
    rw [tab_ref12_steps, cntN]
    simp only [ref12_steps, k, Int.zero_add]
  | succ g ih =>
    intro hg l h most h1 h2
    have hin := lin_wt h
    have hlen := wL_len l
    have e0 : IntKind.wrap .i64 (((g + 1 : Nat) : Int) - 1) = (g : Int) := by rw [wr (by omega) (by omega)]; omega
    have k := rsteps_l1 (most := most) (more := ((g + 1 : Nat) : Int)) (l := l) (c := cntN (g + 1)) ⟨h1, h2⟩ (by omega) (fun x hx => ⟨refInner_ev (hin x hx), fun st a b i => by
      have hx1 := wL_mem hx
      have q := rsteps_l3 (l := l) (i := i) (most := most) (more := ((g + 1 : Nat) : Int)) (ts := inn x) (c := cntN (g + 1)) ⟨h1, h2⟩ (by omega) (fun t ht m m1 m2 => by rw [e0]; exact ih (by omega) t (by have := inn_wt ht; omega) m m1 m2) (hin x hx).inn_len (inn x).length 0 st (by omega) a b
      exact (q.and (Ev.ge ((inn x).length + 1))).mono fun n hh => hh.1 n (by omega)⟩) l.length 0 0 (by omega) (by omega) (by omega)
    refine Ev.step ((k.and (Ev.ge (l.length + 1))).mono fun n hh => ?_)
    obtain ⟨⟨z1, z2⟩, k⟩ := hh.1 n (by omega)
    rw [show ((0 : Nat) : Int) = 0 from rfl, List.drop_zero] at k
    rw [tab_ref12_steps, cntN]
    simp only [ref12_steps, k, Int.zero_add]
theorem refSteps_ev {l : List GStep} (h : wL l ≤ 2097152) : Ev fun n => (tab n).ref12_Steps l = some (stepsC l) := by
  refine Ev.step ((rsteps_ev 11 (by omega) l h 401 (by omega) (by omega)).mono fun n hn => ?_)
  have hn : (tab n).ref12_steps l 401 11 = some (min 401 (cntN 12 l : Int)) := hn
  rw [tab_ref12_Steps]
  simp only [ref12_Steps, hn, stepsC]
  congr 1
  split <;> omega
theorem rnest_l3 {more : Int} {l : List GStep} {i : Int} {ts : List (List GStep)} {c : List GStep → Nat} (H : ∀ t ∈ ts, c t ≤ 12 ∧ Ev fun n => (tab n).ref12_nest t (IntKind.wrap .i64 (more - 1)) = some ((c t : Nat) : Int)) (hl : ts.length ≤ 4194304) : ∀ (d j : Nat) (st : Nat), j + d = ts.length → st ≤ 20 →
    Ev fun n => ∀ K, d < K → ∃ z, ref12_nest_l3 (tab n) n K l more (st : Int) i ts (j : Int) = some (l, more, ((max st (sup ((ts.drop j).map c)) : Nat) : Int), i, z)
  | 0, j, st, hi, h0 => by
    refine Ev.pure fun n K hk => ?_
    obtain ⟨K, rfl⟩ : ∃ j, K = j + 1 := ⟨K - 1, by omega⟩
    refine ⟨_, by rw [ref12_nest_l3, if_neg (by simp; omega), List.drop_of_length_le (by omega)]; simp only [List.map_nil, sup]; rw [show max st 0 = st by omega]⟩
  | d + 1, j, st, hi, h0 => by
    obtain ⟨y, y1, y3, y2⟩ := at_ (l := ts) (i := j) (by omega)
    have hw := wr1 (i := j) (L := ts.length) (by omega) (by omega)
    obtain ⟨hc, e1⟩ := H y y3
    have ih := rnest_l3 (l := l) (i := i) H hl d (j + 1) (max st (c y)) (by omega) (by omega)
    refine (e1.and ih).mono fun n hh K hk => ?_
    obtain ⟨g1, g2⟩ := hh
    obtain ⟨K, rfl⟩ : ∃ j, K = j + 1 := ⟨K - 1, by omega⟩
    obtain ⟨z, hz⟩ := g2 K (by omega)
    refine ⟨z, ?_⟩
    rw [ref12_nest_l3, if_pos (by simp; omega), if_pos (by simp), Int.toNat_natCast, y1]
    simp only [g1]
    have e3 : (if ((c y : Nat) : Int) > (st : Int) then ((c y : Nat) : Int) else (st : Int)) = ((max st (c y) : Nat) : Int) := by split <;> omega
    rw [hw, e3, hz, y2, List.map_cons, sup]
    congr 4
    congr 1
    omega
theorem rnest_l1 {more : Int} {l : List GStep} {c : List GStep → Nat} (hm : 0 < more) (hl : l.length ≤ 4194304) (hc : ∀ x ∈ l, ∀ t ∈ inn x, c t ≤ 12)
    (H : ∀ x ∈ l, (Ev fun n => (tab n).ref12_Inner x = some (inn x)) ∧ ∀ st : Nat, st ≤ 20 → ∀ i, Ev fun n => ∃ z, ref12_nest_l3 (tab n) n n l more (st : Int) i (inn x) 0 = some (l, more, ((max st (sup ((inn x).map c)) : Nat) : Int), i, z)) :
    ∀ (d j : Nat) (st : Nat), j + d = l.length → st ≤ 20 →
    Ev fun n => ∀ K, d < K → ∃ z, ref12_nest_l1 (tab n) n K l more (st : Int) (j : Int) = some (l, more, ((max st (sup ((l.drop j).map fun x => sup ((inn x).map c))) : Nat) : Int), z)
  | 0, j, st, hi, h0 => by
    refine Ev.pure fun n K hk => ?_
    obtain ⟨K, rfl⟩ : ∃ j, K = j + 1 := ⟨K - 1, by omega⟩
    refine ⟨_, by rw [ref12_nest_l1, if_neg (by simp; omega), List.drop_of_length_le (by omega)]; simp only [List.map_nil, sup]; rw [show max st 0 = st by omega]⟩
  | d + 1, j, st, hi, h0 => by
    obtain ⟨x, x1, x3, x2⟩ := at_ (l := l) (i := j) (by omega)
    have hw := wr1 (i := j) (L := l.length) (by omega) (by omega)
    obtain ⟨q1, q3⟩ := H x x3
    have q3 := q3 st h0 (j : Int)
    have hs : sup ((inn x).map c) ≤ 12 := sup_le.2 fun y hy => by
      obtain ⟨t, ht, rfl⟩ := List.mem_map.1 hy
      exact hc x x3 t ht
    have ih := rnest_l1 hm hl hc H d (j + 1) (max st (sup ((inn x).map c))) (by omega) (by omega)
    refine ((q1.and q3).and ih).mono fun n hh K hk => ?_
    obtain ⟨⟨g1, ⟨z1, z2, z3⟩, g2⟩, g3⟩ := hh
    obtain ⟨K, rfl⟩ : ∃ j, K = j + 1 := ⟨K - 1, by omega⟩
    obtain ⟨z, hz⟩ := g3 K (by omega)
    refine ⟨z, ?_⟩
    rw [ref12_nest_l1, if_pos (by simp; omega), if_pos (by simpa using hm), ref12_nest_j2, if_pos (by simp), Int.toNat_natCast, x1, x2, List.map_cons, sup]
    have e : ∀ s, max st (max (sup ((inn x).map c)) s) = max (max st (sup ((inn x).map c))) s := fun s => by omega
    rw [e]
    clear ih x1 x2 x3 q1 q3 H hs e hc
    obtain ⟨op, S, N, ⟨v1, v2, v3, v4, v5⟩, ⟨p1, p2, p3⟩, Ts, By, As⟩ := x
    simp only [g1, g2, hw]
    exact hz
theorem rnest_ev : ∀ (g : Nat), g ≤ 11 → ∀ l, wL l ≤ 2097152 → Ev fun n => (tab n).ref12_nest l (g : Int) = some ((nn (g + 1) l : Nat) : Int) := by
  intro g
  induction g with
  | zero =>
    intro _ l h
    refine Ev.step ((Ev.ge 1).mono fun n hn => ?_)
    obtain ⟨n, rfl⟩ : ∃ j, n = j + 1 := ⟨n - 1, by omega⟩
    have e : sup (l.map fun x => sup ((inn x).map (nn 0))) = 0 := by
      have : sup (l.map fun x => sup ((inn x).map (nn 0))) ≤ 0 := sup_le.2 fun y hy => by
        obtain ⟨x, _, rfl⟩ := List.mem_map.1 hy
        refine sup_le.2 fun z hz => ?_
        obtain ⟨t, _, rfl⟩ := List.mem_map.1 hz
        exact Nat.le_refl _
      omega
    rw [tab_ref12_nest, nn, e, show ((0 : Nat) : Int) = 0 from rfl]
    rw [ref12_nest, ref12_nest_l1]
    have w1 : IntKind.wrap .i64 (1 + 0) = 1 := by rw [wr (by omega) (by omega)]; rfl
    by_cases h0 : (decide ((0 : Int) < (l.length : Int))) = true
    · rw [if_pos h0, if_neg (by simp)]
      simp only [w1]
      rfl
    · rw [if_neg h0]
      simp only [w1]
      rfl
  | succ g ih =>
    intro hg l h
    have hin := lin_wt h
    have hlen := wL_len l
    have e0 : IntKind.wrap .i64 (((g + 1 : Nat) : Int) - 1) = (g : Int) := by rw [wr (by omega) (by omega)]; omega
    have hc : ∀ x ∈ l, ∀ t ∈ inn x, nn (g + 1) t ≤ 12 := fun x hx t ht => by have := nn_le (g + 1) t; omega
    have k := rnest_l1 (more := ((g + 1 : Nat) : Int)) (l := l) (c := nn (g + 1)) (by omega) (by omega) hc (fun x hx => ⟨refInner_ev (hin x hx), fun st a i => by
      have hx1 := wL_mem hx
      have q := rnest_l3 (l := l) (i := i) (more := ((g + 1 : Nat) : Int)) (ts := inn x) (c := nn (g + 1)) (fun t ht => ⟨hc x hx t ht, by rw [e0]; exact ih (by omega) t (by have := inn_wt ht; omega)⟩) (hin x hx).inn_len (inn x).length 0 st (by omega) a
      exact (q.and (Ev.ge ((inn x).length + 1))).mono fun n hh => hh.1 n (by omega)⟩) l.length 0 0 (by omega) (by omega)
    refine Ev.step ((k.and (Ev.ge (l.length + 1))).mono fun n hh => ?_)
    obtain ⟨⟨z1, z2⟩, k⟩ := hh.1 n (by omega)
    rw [show ((0 : Nat) : Int) = 0 from rfl, List.drop_zero] at k
    have hs : sup (l.map fun x => sup ((inn x).map (nn (g + 1)))) ≤ 12 := sup_le.2 fun y hy => by
      obtain ⟨x, hx, rfl⟩ := List.mem_map.1 hy
      refine sup_le.2 fun z hz => ?_
      obtain ⟨t, ht, rfl⟩ := List.mem_map.1 hz
      exact hc x hx t ht
    rw [tab_ref12_nest, nn]
    simp only [ref12_nest, k]
    rw [wr (by omega) (by omega)]
    congr 1
    all_goals (push_cast; omega)
theorem refNest_ev {l : List GStep} (h : wL l ≤ 2097152) : Ev fun n => (tab n).ref12_Nest l = some ((nn 12 l : Nat) : Int) :=
  Ev.step ((rnest_ev 11 (by omega) l h).mono fun n hn => by rw [tab_ref12_Nest, ref12_Nest]; exact hn)
end Go.Proofs.YtgkfjhfehdefaaaGreatDoor.W
