/- How deep: the program's. -/
import Derived.Test.YtgkfjhfehdefaaaGreatDoorPlF
namespace Go.Proofs.YtgkfjhfehdefaaaGreatDoor.W
open Go.Proofs.YtgkfjhfehdefaaaGreatDoor.Flat
set_option linter.unusedVariables false
set_option linter.unusedSimpArgs false
theorem nest_l2 {most : Int} {l : List GStep} {L i : Int} {ts : List (List GStep)} {c : List GStep → Nat} (hm : 1 < most ∧ most ≤ 12) (H : ∀ t ∈ ts, c t ≤ 12 ∧ Ev fun n => (tab n).plan_nest t (IntKind.wrap .i64 (most - 1)) = some ((c t : Nat) : Int)) (hl : ts.length ≤ 4194304) : ∀ (d j : Nat) (st : Nat), j + d = ts.length → st ≤ 20 → 1 ≤ st →
    Ev fun n => ∀ K, d < K → ∃ z, plan_nest_l2 (tab n) n K most (st : Int) l L i ts (ts.length : Int) (j : Int) = some (most, ((max st (1 + sup ((ts.drop j).map c)) : Nat) : Int), l, L, i, z)
  | 0, j, st, hi, h0, h1 => by
    refine Ev.pure fun n K hk => ?_
    obtain ⟨K, rfl⟩ : ∃ j, K = j + 1 := ⟨K - 1, by omega⟩
    refine ⟨_, by rw [plan_nest_l2, if_neg (by simp; omega), List.drop_of_length_le (by omega)]; simp only [List.map_nil, sup]; rw [show max st (1 + 0) = st by omega]⟩
  | d + 1, j, st, hi, h0, h1 => by
    obtain ⟨y, y1, y3, y2⟩ := at_ (l := ts) (i := j) (by omega)
    have hw := wr1 (i := j) (L := ts.length) (by omega) (by omega)
    obtain ⟨hc, e1⟩ := H y y3
    have ih := nest_l2 (l := l) (L := L) (i := i) hm H hl d (j + 1) (max st (1 + c y)) (by omega) (by omega) (by omega)
    refine (e1.and ih).mono fun n hh K hk => ?_
    obtain ⟨g1, g2⟩ := hh
    obtain ⟨K, rfl⟩ : ∃ j, K = j + 1 := ⟨K - 1, by omega⟩
    obtain ⟨z, hz⟩ := g2 K (by omega)
    refine ⟨z, ?_⟩
    rw [plan_nest_l2, if_pos (by simp; omega), if_pos (by simp), Int.toNat_natCast, y1]
    dsimp only
    rw [if_pos (by simpa using hm.1)]
    simp only [g1]
    have e2 : IntKind.wrap .i64 (1 + (c y : Int)) = ((1 + c y : Nat) : Int) := by rw [wr (by omega) (by omega)]; push_cast; rfl
    have e3 : (if ((1 + c y : Nat) : Int) > (st : Int) then ((1 + c y : Nat) : Int) else (st : Int)) = ((max st (1 + c y) : Nat) : Int) := by split <;> omega
    rw [hw, e2, e3, hz, y2, List.map_cons, sup]
    congr 3
    congr 1
    omega
theorem nest_l1 {most : Int} {l : List GStep} {c : List GStep → Nat} (hl : l.length ≤ 4194304) (hc : ∀ x ∈ l, ∀ t ∈ inn x, c t ≤ 12)
    (H : ∀ x ∈ l, (Ev fun n => (tab n).plan_inner x = some (inn x)) ∧ ∀ st : Nat, st ≤ 20 → 1 ≤ st → ∀ L i, Ev fun n => ∃ z, plan_nest_l2 (tab n) n n most (st : Int) l L i (inn x) ((inn x).length : Int) 0 = some (most, ((max st (1 + sup ((inn x).map c)) : Nat) : Int), l, L, i, z)) :
    ∀ (d j : Nat) (st : Nat), j + d = l.length → st ≤ 20 → 1 ≤ st →
    Ev fun n => ∀ K, d < K → ∃ z, plan_nest_l1 (tab n) n K most (st : Int) l (l.length : Int) (j : Int) = some (most, ((max st (1 + sup ((l.drop j).map fun x => sup ((inn x).map c))) : Nat) : Int), z)
  | 0, j, st, hi, h0, h1 => by
    refine Ev.pure fun n K hk => ?_
    obtain ⟨K, rfl⟩ : ∃ j, K = j + 1 := ⟨K - 1, by omega⟩
    refine ⟨_, by rw [plan_nest_l1, if_neg (by simp; omega), List.drop_of_length_le (by omega)]; simp only [List.map_nil, sup]; rw [show max st (1 + 0) = st by omega]⟩
  | d + 1, j, st, hi, h0, h1 => by
    obtain ⟨x, x1, x3, x2⟩ := at_ (l := l) (i := j) (by omega)
    have hw := wr1 (i := j) (L := l.length) (by omega) (by omega)
    obtain ⟨q1, q3⟩ := H x x3
    have q3 := q3 st h0 h1 (l.length : Int) (j : Int)
    have hs : sup ((inn x).map c) ≤ 12 := sup_le.2 fun y hy => by
      obtain ⟨t, ht, rfl⟩ := List.mem_map.1 hy
      exact hc x x3 t ht
    have ih := nest_l1 hl hc H d (j + 1) (max st (1 + sup ((inn x).map c))) (by omega) (by omega) (by omega)
    refine ((q1.and q3).and ih).mono fun n hh K hk => ?_
    obtain ⟨⟨g1, ⟨z1, z2, z3, z4⟩, g2⟩, g3⟩ := hh
    obtain ⟨K, rfl⟩ : ∃ j, K = j + 1 := ⟨K - 1, by omega⟩
    obtain ⟨z, hz⟩ := g3 K (by omega)
    refine ⟨z, ?_⟩
    rw [plan_nest_l1, if_pos (by simp; omega), if_pos (by simp), Int.toNat_natCast, x1, x2, List.map_cons, sup]
    have e : ∀ s, max st (1 + max (sup ((inn x).map c)) s) = max (max st (1 + sup ((inn x).map c))) (1 + s) := fun s => by omega
    rw [e]
    clear ih x1 x2 x3 q1 q3 H hs e hc
    obtain ⟨op, S, N, ⟨v1, v2, v3, v4, v5⟩, ⟨p1, p2, p3⟩, Ts, By, As⟩ := x
    simp only [g1, g2, hw]
    exact hz
theorem nest_l2z {l : List GStep} {L i st : Int} {ts : List (List GStep)} {t : Tab} {n : Nat} (hl : ts.length ≤ 4194304) : ∀ (d j K : Nat), j + d = ts.length → d < K → ∃ z, plan_nest_l2 t n K 1 st l L i ts (ts.length : Int) (j : Int) = some (1, st, l, L, i, z)
  | 0, j, K, hi, hk => by
    obtain ⟨K, rfl⟩ : ∃ j, K = j + 1 := ⟨K - 1, by omega⟩
    exact ⟨_, by rw [plan_nest_l2, if_neg (by simp; omega)]⟩
  | d + 1, j, K, hi, hk => by
    obtain ⟨y, y1, y3, y2⟩ := at_ (l := ts) (i := j) (by omega)
    have hw := wr1 (i := j) (L := ts.length) (by omega) (by omega)
    obtain ⟨K, rfl⟩ : ∃ j, K = j + 1 := ⟨K - 1, by omega⟩
    rw [plan_nest_l2, if_pos (by simp; omega), if_pos (by simp), Int.toNat_natCast, y1]
    dsimp only
    rw [if_neg (by simp), hw]
    exact nest_l2z hl d (j + 1) K (by omega) (by omega)
theorem nest_ev : ∀ (g : Nat), g ≤ 11 → ∀ l, wL l ≤ 2097152 → Ev fun n => (tab n).plan_nest l ((g : Int) + 1) = some ((nn (g + 1) l : Nat) : Int) := by
  intro g
  induction g with
  | zero =>
    intro _ l h
    have hin := lin_wt h
    have hlen := wL_len l
    have e : ∀ x : GStep, sup ((inn x).map (nn 0)) = 0 := fun x => by
      have : sup ((inn x).map (nn 0)) ≤ 0 := sup_le.2 fun y hy => by
        obtain ⟨t, _, rfl⟩ := List.mem_map.1 hy
        exact Nat.le_refl _
      omega
    have k := nest_l1 (most := ((0 : Nat) : Int) + 1) (l := l) (c := nn 0) (by omega) (fun x hx t ht => Nat.zero_le _) (fun x hx => ⟨inner_ev (hin x hx), fun st a b L i => (Ev.ge ((inn x).length + 1)).mono fun n hn => by
      rw [e, show max st (1 + 0) = st by omega]
      exact nest_l2z (hin x hx).inn_len (inn x).length 0 n (by omega) (by omega)⟩) l.length 0 1 (by omega) (by omega) (by omega)
    refine Ev.step ((k.and (Ev.ge (l.length + 1))).mono fun n hh => ?_)
    obtain ⟨⟨z1, z2, z3, z4⟩, k⟩ := hh.1 n (by omega)
    rw [show ((0 : Nat) : Int) = 0 from rfl, show ((1 : Nat) : Int) = 1 from rfl, List.drop_zero] at k
    rw [tab_plan_nest, nn]
    simp only [plan_nest, show ((0 : Nat) : Int) = 0 from rfl, k]
    congr 2
    omega
  | succ g ih =>
    intro hg l h
    have hin := lin_wt h
    have hlen := wL_len l
    have e0 : IntKind.wrap .i64 ((((g + 1 : Nat) : Int) + 1) - 1) = (g : Int) + 1 := by rw [wr (by omega) (by omega)]; omega
    have k := nest_l1 (most := ((g + 1 : Nat) : Int) + 1) (l := l) (c := nn (g + 1)) (by omega) (fun x hx t ht => by have := nn_le (g + 1) t; omega) (fun x hx => ⟨inner_ev (hin x hx), fun st a b L i => by
      have hx1 := wL_mem hx
      have q := nest_l2 (l := l) (L := L) (i := i) (most := ((g + 1 : Nat) : Int) + 1) (ts := inn x) (c := nn (g + 1)) (by omega) (fun t ht => ⟨by have := nn_le (g + 1) t; omega, by rw [e0]; exact ih (by omega) t (by have := inn_wt ht; omega)⟩) (hin x hx).inn_len (inn x).length 0 st (by omega) a b
      refine (q.and (Ev.ge ((inn x).length + 1))).mono fun n hh => hh.1 n (by omega)⟩) l.length 0 1 (by omega) (by omega) (by omega)
    refine Ev.step ((k.and (Ev.ge (l.length + 1))).mono fun n hh => ?_)
    obtain ⟨⟨z1, z2, z3, z4⟩, k⟩ := hh.1 n (by omega)
    rw [show ((0 : Nat) : Int) = 0 from rfl, show ((1 : Nat) : Int) = 1 from rfl, List.drop_zero] at k
    rw [tab_plan_nest, nn]
    simp only [plan_nest, k]
    congr 2
    omega
theorem Nest_ev {l : List GStep} (h : wL l ≤ 2097152) : Ev fun n => (tab n).plan_Nest l = some ((nn 12 l : Nat) : Int) :=
  Ev.step ((nest_ev 11 (by omega) l h).mono fun n hn => by rw [tab_plan_Nest, plan_Nest]; exact hn)
end Go.Proofs.YtgkfjhfehdefaaaGreatDoor.W
