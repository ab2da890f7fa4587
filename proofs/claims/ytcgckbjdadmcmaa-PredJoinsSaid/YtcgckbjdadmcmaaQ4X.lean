/- What is told of library functions in another way holds. -/
import Derived.Test.YtcgckbjdadmcmaaQ4C
import Derived.Test.YtcgckbjdadmcmaaChecked
import Derived.WalkKit
import Derived.Lib.Bytealg
import Derived.Lib.Walk
import Derived.Lib.SliceRun
import Derived.Lib.AppendZerosOnto
namespace Go.Proofs.Ytcgckbjdadmcmaa.W
open Go.Proofs.Ytcgckbjdadmcmaa.Flat Go.RowKit Go.Lib
set_option linter.unusedVariables false
set_option linter.unusedSimpArgs false
set_option maxHeartbeats 8000000 in
set_option maxRecDepth 100000 in
theorem compare73_calls (a0 : ByteArray) (a1 : ByteArray) (w : World) :
    Calls Try.prog 73 #[.string a0, .string a1] w fun e w' => ∃ v, e = .returned v ∧ v = .int .i64 (Lib.compareBytes a0.data.toList a1.data.toList) ∧ Quiet w w' := by
  go_enter Try.func73, Try.ntmps73
  go_wp2
  rw [run_callFunc_extern Try.func74 (by kernel_rfl) (by kernel_rfl) (by kernel_rfl) (e := Extern.BytealgCompare.compare) (by kernel_rfl), Lib.run_compareString]
  simp only [Result.andThen]
  rw [Oper.upon_value]
  go_wp2
  go_ret
  exact ⟨_, rfl, rfl, ⟨rfl, rfl, rfl⟩, Nat.le_refl _, fun _ _ => rfl⟩

theorem x73_ok (a b : ByteArray) : CallOk Try.prog 73 [.t (.v (.string a)), .t (.v (.string b))] [] (.t (.v (.int .i64 (Lib.compareBytes a.data.toList b.data.toList)))) [] := by
  intro w E β τ Ba vs hargs hptr hfb hBa hinj hsim
  obtain ⟨hl, hat⟩ := args_at hsim
  have hl : vs.length = 2 := hl
  obtain ⟨v0, v1, rfl⟩ : ∃ v0 v1, vs = [v0, v1] := by
    match vs, hl with
    | [a, b], _ => exact ⟨a, b, rfl⟩
  have h0 := hat 0 _ v0 rfl rfl
  have h1 := hat 1 _ v1 rfl rfl
  rw [RepV] at h0 h1
  obtain ⟨rfl, _, _⟩ := RepT_v h0
  obtain ⟨rfl, _, _⟩ := RepT_v h1
  refine sem_of Try.func73 (by kernel_rfl) (by kernel_rfl) ((compare73_calls a b w).mono ?_)
  rintro e w' ⟨v, he, rfl, hq⟩
  exact ⟨_, he, E, [], [], after_plain hq hsim.z (by rw [RepV]; exact RepT_ok rfl _ _)⟩
set_option maxHeartbeats 4000000 in
set_option maxRecDepth 100000 in
theorem grow66_room (base : Option Addr) (c n : Nat) (w : World) (hc63 : c ≤ 9223372036854775807) (hn63 : n ≤ 9223372036854775807) (hroom : n ≤ c) :
    Calls Try.prog 66 #[.slice base 0 c, .int .i64 n] w fun e w' => e = .returned (.slice base 0 c) ∧ w' = w := by
  have h1 : ¬ ((n : Int) < 0) := by omega
  have h2 : wrap64 ((c : Int) - ((0 : Nat) : Int)) = (c : Int) - ((0 : Nat) : Int) := by unfold wrap64; omega
  have h3 : wrap64 ((n : Int) - ((c : Int) - ((0 : Nat) : Int))) = (n : Int) - ((c : Int) - ((0 : Nat) : Int)) := by unfold wrap64; omega
  have h4 : ¬ ((n : Int) - ((c : Int) - ((0 : Nat) : Int)) > 0) := by omega
  go_enter Try.func66, Try.ntmps66
  go_wp2
  go_ret
  exact ⟨rfl, rfl⟩

set_option maxHeartbeats 4000000 in
set_option maxRecDepth 100000 in
theorem grow66_grow (i0 : TypeInfo) (z : Value) (hi0 : Try.prog.info? 27 = some i0) (hz0 : i0.zero = some z) (hs0 : 0 < i0.size) (hb0 : 0 < i0.bytes)
    (base : Option Addr) (c n : Nat) (cs : List Value) (w : World) (hroom : c < n) (hbig : n * i0.bytes ≤ 140737488355328)
    (hcl : cs.length = c * i0.size) (hnil : base = none → c = 0) (hcs : ∀ a, base = some a → ∀ (j : Nat) v, cs[j]? = some v → w.cell? (a.add j) = some v) :
    Calls Try.prog 66 #[.slice base 0 c, .int .i64 n] w fun e w' => ∃ c' cells, c' ≤ 9223372036854775807 ∧ e = .returned (.slice (some ⟨w.heap.size, 0, none⟩) 0 c') ∧ w' = w.drew.alloc (.cells cells 27) ∧ c' * i0.size ≤ cells.size := by
  have hn1 : n * 1 ≤ n * i0.bytes := Nat.mul_le_mul_left _ hb0
  have h1 : ¬ ((n : Int) < 0) := by omega
  have h2 : wrap64 ((c : Int) - ((0 : Nat) : Int)) = (c : Int) - ((0 : Nat) : Int) := by unfold wrap64; omega
  have h3 : wrap64 ((n : Int) - ((c : Int) - ((0 : Nat) : Int))) = (n : Int) - ((c : Int) - ((0 : Nat) : Int)) := by unfold wrap64; omega
  have h4 : (n : Int) - ((c : Int) - ((0 : Nat) : Int)) > 0 := by omega
  have zE : ∀ w, (Go.sizeOf 27).run Try.prog w = .ok i0.size w := fun w => by simp [Go.sizeOf, typeInfo, hi0]
  have hck : c + (n - c) = n := by omega
  have hold : (Builtin.firstCells i0.size c (.slice base c c)).run Try.prog w.drew = .ok cs.toArray w.drew := by
    cases base with
    | none =>
      have h0 := hnil rfl
      subst h0
      have hc0 : cs = [] := List.length_eq_zero_iff.1 (by simpa using hcl)
      rw [hc0]
      exact run_firstCells_none w.drew i0.size 0 0 0
    | some a => exact run_firstCells_some w.drew i0.size c a c c cs hcl (fun j v hj => hcs a rfl j v hj)
  have hrz : ∀ ty, (Builtin.append_ #[22, 3] ty #[.slice base c c, .int .i64 ((n : Int) - ((c : Int) - ((0 : Nat) : Int)))]).run Try.prog w =
      .ok (.slice (some ⟨w.heap.size, 0, none⟩) n (grownCap w n c 27)) (w.drew.alloc (.cells (cs.toArray ++ Builtin.zeroCells z.cells (n - c) ++ Builtin.zeroCells z.cells (grownCap w n c 27 - n)) 27)) := fun ty => by
    have h := Lib.run_append_grow_zeros w 22 3 ty 27 i0 z .i64 .i64 Try.underlying22 Try.underlying3 hi0 hz0 base c c cs hold (n - c) (by omega) hs0 (by omega) (by omega)
      (by have : (n - c) * i0.bytes ≤ n * i0.bytes := Nat.mul_le_mul_right _ (by omega)
          omega)
      (by rw [hck]; exact growslice_fits hroom hbig)
    rw [hck] at h
    rw [show (n : Int) - ((c : Int) - ((0 : Nat) : Int)) = ((n - c : Nat) : Int) by omega]
    exact h
  have hGn : n ≤ grownCap w n c 27 := grownCap_ge w _ _ _
  have hzs : z.cells.size = i0.size := by
    have hi : Try.prog.info? 27 = some i0 := hi0
    have h5 : (Try.prog.info? 27).map (fun i => (i.zero.map fun z => z.cells.size == i.size)) = some (some true) := by kernel_rfl
    rw [hi0] at h5
    simp [hz0] at h5
    exact h5
  have hsize : grownCap w n c 27 * i0.size ≤ (cs.toArray ++ Builtin.zeroCells z.cells (n - c) ++ Builtin.zeroCells z.cells (grownCap w n c 27 - n)).size := by
    have e1 : grownCap w n c 27 = c + (n - c) + (grownCap w n c 27 - n) := by omega
    rw [Array.size_append, Array.size_append, size_zeroCells, size_zeroCells, hzs, List.size_toArray, hcl]
    rw [← Nat.add_mul, ← Nat.add_mul, ← e1]
    exact Nat.le_refl _
  obtain ⟨G, hG⟩ : ∃ G, G = grownCap w n c 27 := ⟨_, rfl⟩
  rw [← hG] at hrz hGn hsize
  have hG63 : G ≤ 9223372036854775807 := by
    have := grownCap_le_maxLen w n c 27 (by unfold maxLen; omega)
    rw [← hG] at this
    unfold maxLen at this
    omega
  generalize hcells : (cs.toArray ++ Builtin.zeroCells z.cells (n - c) ++ Builtin.zeroCells z.cells (G - n)) = cells at hrz hsize
  clear hold hck hG hcs hcl hzs hcells
  go_enter Try.func66, Try.ntmps66
  cases base with
  | none =>
    have h0 := hnil rfl
    subst h0
    go_wp2_with (at_builtin; refine Lib.wpList_append_run _ rfl _ _ _ _ rfl _ _ rfl rfl _ _ (hrz _) ?_)
    all_goals (go_ret; first | exact ⟨G, cells, hG63, rfl, rfl, hsize⟩ | exact ⟨G, hG63, rfl, cells, rfl, hsize⟩)
  | some a =>
    obtain ⟨ab, ao, asp⟩ := a
    go_wp2_with (at_builtin; refine Lib.wpList_append_run _ rfl _ _ _ _ rfl _ _ rfl rfl _ _ (hrz _) ?_)
    all_goals (go_ret; first | exact ⟨G, cells, hG63, rfl, rfl, hsize⟩ | exact ⟨G, hG63, rfl, cells, rfl, hsize⟩)

theorem x66_ok {n : Int} (h0 : 0 ≤ n) (hb : n * 80 ≤ 140737488355328) : CallOk Try.prog 66 [.t (.sl true 5 []), .t (.v (.int .i64 n))] [] (.t (.sl true 5 [])) [] := by
  obtain ⟨ti, hti⟩ : ∃ ti, Try.prog.info? 27 = some ti := ⟨_, rfl⟩
  have e1 : (Try.prog.info? 27).map (fun i => (i.size, i.bytes, i.zero.isSome)) = some (5, 80, true) := by kernel_rfl
  rw [hti] at e1
  simp only [Option.map_some, Option.some.injEq, Prod.mk.injEq] at e1
  obtain ⟨e2, e3, e4⟩ := e1
  obtain ⟨z, hz⟩ := Option.isSome_iff_exists.1 e4
  have k := grow_ok (el := 27) (ti := ti) (z := z) (n := n) Try.func66 (by kernel_rfl) (by kernel_rfl) (by omega) (by omega) (fun base c n w h1 h2 h3 => grow66_room base c n w h1 h2 h3) (fun base c n cs w h1 h2 h3 h4 h5 => grow66_grow ti z hti hz (by omega) (by omega) base c n cs w h1 h2 h3 h4 h5) (fun _ _ _ _ _ => trivial) h0 (by rw [e3]; exact hb)
  rw [e2] at k
  exact k
def X0 (f : FuncId) (args fb : List AV) : Option (AV × List AV) :=
  if f = 73 then (match fb with | [] => (match args with | [.t (.v (.string a)), .t (.v (.string b))] => some (.t (.v (.int .i64 (Lib.compareBytes a.data.toList b.data.toList))), []) | _ => none) | _ => none) else
  if f = 66 then (match fb with | [] => (match args with | [.t (.sl true 5 []), .t (.v (.int .i64 n))] => if decide (0 ≤ n ∧ n * 80 ≤ 140737488355328) = true then some (.t (.sl true 5 []), []) else none | _ => none) | _ => none) else
  none
theorem X0_ok : ∀ (f : FuncId) (args fb : List AV) (r : AV) (outs : List AV), X0 f args fb = some (r, outs) → CallOk Try.prog f args fb r outs := by
  intro f args fb r outs h
  unfold X0 at h
  by_cases h73 : f = 73
  · rw [if_pos h73] at h
    subst h73
    exact by
      split at h
      · split at h
        · cases h; exact x73_ok _ _
        · cases h
      · cases h
  rw [if_neg h73] at h
  by_cases h66 : f = 66
  · rw [if_pos h66] at h
    subst h66
    exact by
      split at h
      · split at h
        · rename_i n
          by_cases hq : decide (0 ≤ n ∧ n * 80 ≤ 140737488355328) = true
          · rw [if_pos hq] at h
            cases h
            have hq := of_decide_eq_true hq
            exact x66_ok hq.1 hq.2
          · rw [if_neg hq] at h; cases h
        · cases h
      · cases h
  rw [if_neg h66] at h
  cases h
theorem known11 : run Try.prog own (fun _ _ => none) X0 200 11 [] [] = some (.t (.v (.bool true)), []) := by kernel_rfl
theorem X_ok : ∀ (f : FuncId) (args fb : List AV) (r : AV) (outs : List AV), X f args fb = some (r, outs) → CallOk Try.prog f args fb r outs := by
  intro f args fb r outs h
  unfold X at h
  by_cases h11 : f = 11
  · rw [if_pos h11] at h
    subst h11
    exact by
      split at h
      · split at h
        · cases h; exact run_ok (Checked.mixed Try.checked) X0_ok 200 _ _ _ _ _ known11
        · cases h
      · cases h
  rw [if_neg h11] at h
  by_cases h73 : f = 73
  · rw [if_pos h73] at h
    subst h73
    exact by
      split at h
      · split at h
        · cases h; exact x73_ok _ _
        · cases h
      · cases h
  rw [if_neg h73] at h
  by_cases h66 : f = 66
  · rw [if_pos h66] at h
    subst h66
    exact by
      split at h
      · split at h
        · rename_i n
          by_cases hq : decide (0 ≤ n ∧ n * 80 ≤ 140737488355328) = true
          · rw [if_pos hq] at h
            cases h
            have hq := of_decide_eq_true hq
            exact x66_ok hq.1 hq.2
          · rw [if_neg hq] at h; cases h
        · cases h
      · cases h
  rw [if_neg h66] at h
  cases h
end Go.Proofs.Ytcgckbjdadmcmaa.W
