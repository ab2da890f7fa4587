/- The data of this program as Lean has it, and as trees. -/
import Derived.Test.YtcgckbjdadmcmaaFlatM2
import Derived.Test.YtcgckbjdadmcmaaProg
namespace Go.Proofs.Ytcgckbjdadmcmaa.W
open Go.Proofs.Ytcgckbjdadmcmaa.Flat
set_option linter.unusedVariables false
set_option linter.unusedSimpArgs false
inductive GValue where
  | mk (Kind : Int) (N : Int) (S : ByteArray) (L : List GValue) (M : List GValue)
mutual
def GValue.t : GValue → T
  | .mk a0 a1 a2 a3 a4 => .st [(.v (.int .i64 a0)), (.v (.int .i64 a1)), (.v (.string a2)), (.sl false 5 (GValue.ts a3)), (.sl false 5 (GValue.ts a4))]
def GValue.ts : List GValue → List T
  | [] => []
  | x :: xs => x.t :: GValue.ts xs
end
theorem GValue.ts_map : ∀ l, GValue.ts l = l.map GValue.t
  | [] => by rw [GValue.ts]; rfl
  | x :: xs => by rw [GValue.ts, GValue.ts_map xs, List.map_cons]
inductive GPred where
  | mk (Kind : Int) (V : List GValue) (P : List GPred)
mutual
def GPred.t : GPred → T
  | .mk a0 a1 a2 => .st [(.v (.int .i64 a0)), (.sl false 5 (GValue.ts a1)), (.sl false 3 (GPred.ts a2))]
def GPred.ts : List GPred → List T
  | [] => []
  | x :: xs => x.t :: GPred.ts xs
end
theorem GPred.ts_map : ∀ l, GPred.ts l = l.map GPred.t
  | [] => by rw [GPred.ts]; rfl
  | x :: xs => by rw [GPred.ts, GPred.ts_map xs, List.map_cons]
def rows_GValue_ts : List (List GValue) → List T
  | [] => []
  | x :: xs => (.sl false 5 (GValue.ts x)) :: rows_GValue_ts xs
theorem rows_GValue_ts_map : ∀ l, rows_GValue_ts l = l.map fun x => (.sl false 5 (GValue.ts x))
  | [] => by rw [rows_GValue_ts]; rfl
  | x :: xs => by rw [rows_GValue_ts, rows_GValue_ts_map xs, List.map_cons]

/-- What is known of a GValue that was handed in: it is one, so deep. -/
def GValue.In (a : GValue) : Prop := ∃ n, TyT Try.prog n 27 a.t
theorem GValue.of : ∀ (n : Nat) (x : T), TyT Try.prog n 27 x → ∃ a : GValue, x = a.t ∧ GValue.In a
  | n, x, h => by
    have h0 := h
    obtain ⟨m, xs, hn, rfl, h1⟩ := tyT_struct Try.underlying27 h
    obtain ⟨b0, xs0, rfl, c0, h2⟩ := all2_cons h1
    obtain ⟨b1, xs1, rfl, c1, h3⟩ := all2_cons h2
    obtain ⟨b2, xs2, rfl, c2, h4⟩ := all2_cons h3
    obtain ⟨b3, xs3, rfl, c3, h5⟩ := all2_cons h4
    obtain ⟨b4, xs4, rfl, c4, h6⟩ := all2_cons h5
    obtain rfl := all2_nil h6
    obtain ⟨d0, rfl, _⟩ := tyT_int Try.underlying3 c0
    obtain ⟨d1, rfl, _⟩ := tyT_int Try.underlying3 c1
    obtain ⟨d2, rfl, _⟩ := tyT_string Try.underlying9 c2
    obtain ⟨d3, rfl, _, _⟩ := tyT_slice (Q := (fun _ => True)) GValue.ts_map Try.underlying22 (show _ = 5 from by kernel_rfl) (show _ = 80 from by kernel_rfl) (fun j hj y hy => by obtain ⟨a, e, _⟩ := GValue.of j y hy; exact ⟨a, e, trivial⟩) c3
    obtain ⟨d4, rfl, _, _⟩ := tyT_slice (Q := (fun _ => True)) GValue.ts_map Try.underlying22 (show _ = 5 from by kernel_rfl) (show _ = 80 from by kernel_rfl) (fun j hj y hy => by obtain ⟨a, e, _⟩ := GValue.of j y hy; exact ⟨a, e, trivial⟩) c4
    exact ⟨.mk d0 d1 d2 d3 d4, rfl, n, h0⟩
  termination_by n => n
  decreasing_by all_goals omega
theorem GValue.in_mk {a0 : Int} {a1 : Int} {a2 : ByteArray} {a3 : List GValue} {a4 : List GValue} (h : GValue.In (.mk a0 a1 a2 a3 a4)) : ((Lit.int .i64 a0).wf = true) ∧ ((Lit.int .i64 a1).wf = true) ∧ (a2.size ≤ 140737488351232) ∧ (a3.length * 80 ≤ 140737488351232 ∧ ∀ ay ∈ a3, GValue.In ay) ∧ (a4.length * 80 ≤ 140737488351232 ∧ ∀ ay ∈ a4, GValue.In ay) := by
  obtain ⟨n, h⟩ := h
  rw [GValue.t] at h
  obtain ⟨m, h1⟩ := inT_struct Try.underlying27 h
  obtain ⟨c0, c1, c2, c3, c4, _⟩ := h1
  exact ⟨(inT_int Try.underlying3 c0), (inT_int Try.underlying3 c1), (inT_string Try.underlying9 c2), ⟨(inT_slice GValue.ts_map Try.underlying22 (show _ = 80 from by kernel_rfl) c3).1, fun y hy => (by obtain ⟨m2, h2⟩ := (inT_slice GValue.ts_map Try.underlying22 (show _ = 80 from by kernel_rfl) c3).2 y hy; exact ⟨m2, h2⟩)⟩, ⟨(inT_slice GValue.ts_map Try.underlying22 (show _ = 80 from by kernel_rfl) c4).1, fun y hy => (by obtain ⟨m2, h2⟩ := (inT_slice GValue.ts_map Try.underlying22 (show _ = 80 from by kernel_rfl) c4).2 y hy; exact ⟨m2, h2⟩)⟩⟩
/-- What is known of a GPred that was handed in: it is one, so deep. -/
def GPred.In (a : GPred) : Prop := ∃ n, TyT Try.prog n 25 a.t
theorem GPred.of : ∀ (n : Nat) (x : T), TyT Try.prog n 25 x → ∃ a : GPred, x = a.t ∧ GPred.In a
  | n, x, h => by
    have h0 := h
    obtain ⟨m, xs, hn, rfl, h1⟩ := tyT_struct Try.underlying25 h
    obtain ⟨b0, xs0, rfl, c0, h2⟩ := all2_cons h1
    obtain ⟨b1, xs1, rfl, c1, h3⟩ := all2_cons h2
    obtain ⟨b2, xs2, rfl, c2, h4⟩ := all2_cons h3
    obtain rfl := all2_nil h4
    obtain ⟨d0, rfl, _⟩ := tyT_int Try.underlying3 c0
    obtain ⟨d1, rfl, _, _⟩ := tyT_slice (Q := (fun _ => True)) GValue.ts_map Try.underlying22 (show _ = 5 from by kernel_rfl) (show _ = 80 from by kernel_rfl) (fun j hj y hy => by obtain ⟨a, e, _⟩ := GValue.of j y hy; exact ⟨a, e, trivial⟩) c1
    obtain ⟨d2, rfl, _, _⟩ := tyT_slice (Q := (fun _ => True)) GPred.ts_map Try.underlying23 (show _ = 3 from by kernel_rfl) (show _ = 56 from by kernel_rfl) (fun j hj y hy => by obtain ⟨a, e, _⟩ := GPred.of j y hy; exact ⟨a, e, trivial⟩) c2
    exact ⟨.mk d0 d1 d2, rfl, n, h0⟩
  termination_by n => n
  decreasing_by all_goals omega
theorem GPred.in_mk {a0 : Int} {a1 : List GValue} {a2 : List GPred} (h : GPred.In (.mk a0 a1 a2)) : ((Lit.int .i64 a0).wf = true) ∧ (a1.length * 80 ≤ 140737488351232 ∧ ∀ ay ∈ a1, GValue.In ay) ∧ (a2.length * 56 ≤ 140737488351232 ∧ ∀ ay ∈ a2, GPred.In ay) := by
  obtain ⟨n, h⟩ := h
  rw [GPred.t] at h
  obtain ⟨m, h1⟩ := inT_struct Try.underlying25 h
  obtain ⟨c0, c1, c2, _⟩ := h1
  exact ⟨(inT_int Try.underlying3 c0), ⟨(inT_slice GValue.ts_map Try.underlying22 (show _ = 80 from by kernel_rfl) c1).1, fun y hy => (by obtain ⟨m2, h2⟩ := (inT_slice GValue.ts_map Try.underlying22 (show _ = 80 from by kernel_rfl) c1).2 y hy; exact ⟨m2, h2⟩)⟩, ⟨(inT_slice GPred.ts_map Try.underlying23 (show _ = 56 from by kernel_rfl) c2).1, fun y hy => (by obtain ⟨m2, h2⟩ := (inT_slice GPred.ts_map Try.underlying23 (show _ = 56 from by kernel_rfl) c2).2 y hy; exact ⟨m2, h2⟩)⟩⟩
end Go.Proofs.Ytcgckbjdadmcmaa.W
