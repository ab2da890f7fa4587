/- The data of this program as Lean has it, and as trees. -/
import Derived.Test.YtokfeoifkpedgaaFlatM3
import Derived.Test.YtokfeoifkpedgaaProg
namespace Go.Proofs.Ytokfeoifkpedgaa.W
open Go.Proofs.Ytokfeoifkpedgaa.Flat
set_option linter.unusedVariables false
set_option linter.unusedSimpArgs false
inductive GValue where
  | mk (Kind : Int) (N : Int) (S : ByteArray) (L : List GValue) (M : List GValue)
mutual
def GValue.t : GValue → T
  | .mk a0 a1 a2 a3 a4 => .st [(.v (.int .i64 a0)), (.v (.int .i64 a1)), (.v (.string a2)), (.sl false 5 (GValue.ts a3)), (.sl false 5 (GValue.ts a4))]
def GValue.ts : List GValue → List T
  | [] => []
  | x :: xs => x.t :: GValue.ts xs
end
theorem GValue.ts_map : ∀ l, GValue.ts l = l.map GValue.t
  | [] => by rw [GValue.ts]; rfl
  | x :: xs => by rw [GValue.ts, GValue.ts_map xs, List.map_cons]
inductive GMany where
  | mk (V : GValue) (N : Int)
def GMany.t : GMany → T
  | .mk a0 a1 => .st [(GValue.t a0), (.v (.int .i64 a1))]
def GMany.ts : List GMany → List T
  | [] => []
  | x :: xs => x.t :: GMany.ts xs
theorem GMany.ts_map : ∀ l, GMany.ts l = l.map GMany.t
  | [] => by rw [GMany.ts]; rfl
  | x :: xs => by rw [GMany.ts, GMany.ts_map xs, List.map_cons]
inductive Gwide where
  | mk (high : Int) (low : Int)
def Gwide.t : Gwide → T
  | .mk a0 a1 => .st [(.v (.int .u64 a0)), (.v (.int .u64 a1))]
def Gwide.ts : List Gwide → List T
  | [] => []
  | x :: xs => x.t :: Gwide.ts xs
theorem Gwide.ts_map : ∀ l, Gwide.ts l = l.map Gwide.t
  | [] => by rw [Gwide.ts]; rfl
  | x :: xs => by rw [Gwide.ts, Gwide.ts_map xs, List.map_cons]
inductive GNum where
  | mk (Minus : Bool) (D : List Int)
def GNum.t : GNum → T
  | .mk a0 a1 => .st [(.v (.bool a0)), (.sl false 1 (ints_i64 a1))]
def GNum.ts : List GNum → List T
  | [] => []
  | x :: xs => x.t :: GNum.ts xs
theorem GNum.ts_map : ∀ l, GNum.ts l = l.map GNum.t
  | [] => by rw [GNum.ts]; rfl
  | x :: xs => by rw [GNum.ts, GNum.ts_map xs, List.map_cons]

instance : Glob := ⟨fun g => none⟩

set_option maxRecDepth 100000
/-- What is known of a GValue that was handed in: it is one, so deep. -/
def GValue.In (a : GValue) : Prop := ∃ n, TyT Try.prog n 32 a.t
theorem GValue.of : ∀ (n : Nat) (x : T), TyT Try.prog n 32 x → ∃ a : GValue, x = a.t ∧ GValue.In a
  | n, x, h => by
    have h0 := h
    obtain ⟨m, xs, hn, rfl, h1⟩ := tyT_struct Try.underlying32 h
    obtain ⟨b0, xs0, rfl, c0, h2⟩ := all2_cons h1
    obtain ⟨b1, xs1, rfl, c1, h3⟩ := all2_cons h2
    obtain ⟨b2, xs2, rfl, c2, h4⟩ := all2_cons h3
    obtain ⟨b3, xs3, rfl, c3, h5⟩ := all2_cons h4
    obtain ⟨b4, xs4, rfl, c4, h6⟩ := all2_cons h5
    obtain rfl := all2_nil h6
    obtain ⟨d0, rfl, _⟩ := tyT_int Try.underlying3 c0
    obtain ⟨d1, rfl, _⟩ := tyT_int Try.underlying3 c1
    obtain ⟨d2, rfl, _⟩ := tyT_string Try.underlying9 c2
    obtain ⟨d3, rfl, _, _⟩ := tyT_slice (Q := (fun _ => True)) GValue.ts_map Try.underlying30 (show _ = 5 from by kernel_rfl) (show _ = 80 from by kernel_rfl) (fun j hj y hy => by obtain ⟨a, e, _⟩ := GValue.of j y hy; exact ⟨a, e, trivial⟩) c3
    obtain ⟨d4, rfl, _, _⟩ := tyT_slice (Q := (fun _ => True)) GValue.ts_map Try.underlying30 (show _ = 5 from by kernel_rfl) (show _ = 80 from by kernel_rfl) (fun j hj y hy => by obtain ⟨a, e, _⟩ := GValue.of j y hy; exact ⟨a, e, trivial⟩) c4
    exact ⟨.mk d0 d1 d2 d3 d4, rfl, n, h0⟩
  termination_by n => n
  decreasing_by all_goals omega
theorem GValue.in_mk {a0 : Int} {a1 : Int} {a2 : ByteArray} {a3 : List GValue} {a4 : List GValue} (h : GValue.In (.mk a0 a1 a2 a3 a4)) : ((Lit.int .i64 a0).wf = true) ∧ ((Lit.int .i64 a1).wf = true) ∧ (a2.size ≤ 140737488351232) ∧ (a3.length * 80 ≤ 140737488351232 ∧ ∀ w0 ∈ a3, GValue.In w0) ∧ (a4.length * 80 ≤ 140737488351232 ∧ ∀ w0 ∈ a4, GValue.In w0) := by
  obtain ⟨n, h⟩ := h
  rw [GValue.t] at h
  obtain ⟨m, h1⟩ := inT_struct Try.underlying32 h
  obtain ⟨c0, c1, c2, c3, c4, _⟩ := h1
  exact ⟨(inT_int Try.underlying3 c0), (inT_int Try.underlying3 c1), (inT_string Try.underlying9 c2), ⟨(inT_slice GValue.ts_map Try.underlying30 (show _ = 80 from by kernel_rfl) c3).1, fun y hy => (by obtain ⟨m2, h2⟩ := (inT_slice GValue.ts_map Try.underlying30 (show _ = 80 from by kernel_rfl) c3).2 y hy; exact ⟨m2, h2⟩)⟩, ⟨(inT_slice GValue.ts_map Try.underlying30 (show _ = 80 from by kernel_rfl) c4).1, fun y hy => (by obtain ⟨m2, h2⟩ := (inT_slice GValue.ts_map Try.underlying30 (show _ = 80 from by kernel_rfl) c4).2 y hy; exact ⟨m2, h2⟩)⟩⟩
/-- What is known of a GMany that was handed in: it is one, so deep. -/
def GMany.In (a : GMany) : Prop := ∃ n, TyT Try.prog n 49 a.t
theorem GMany.of : ∀ (n : Nat) (x : T), TyT Try.prog n 49 x → ∃ a : GMany, x = a.t ∧ GMany.In a
  | n, x, h => by
    have h0 := h
    obtain ⟨m, xs, hn, rfl, h1⟩ := tyT_struct Try.underlying49 h
    obtain ⟨b0, xs0, rfl, c0, h2⟩ := all2_cons h1
    obtain ⟨b1, xs1, rfl, c1, h3⟩ := all2_cons h2
    obtain rfl := all2_nil h3
    obtain ⟨d0, rfl, _⟩ := GValue.of m _ c0
    obtain ⟨d1, rfl, _⟩ := tyT_int Try.underlying3 c1
    exact ⟨.mk d0 d1, rfl, n, h0⟩
theorem GMany.in_mk {a0 : GValue} {a1 : Int} (h : GMany.In (.mk a0 a1)) : (GValue.In a0) ∧ ((Lit.int .i64 a1).wf = true) := by
  obtain ⟨n, h⟩ := h
  rw [GMany.t] at h
  obtain ⟨m, h1⟩ := inT_struct Try.underlying49 h
  obtain ⟨c0, c1, _⟩ := h1
  exact ⟨⟨m, c0⟩, (inT_int Try.underlying3 c1)⟩
end Go.Proofs.Ytokfeoifkpedgaa.W
