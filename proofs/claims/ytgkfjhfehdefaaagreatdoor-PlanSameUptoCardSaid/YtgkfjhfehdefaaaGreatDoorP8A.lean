/- The data of this program as Lean has it, and as trees. -/
import Derived.Test.YtgkfjhfehdefaaaGreatDoorFlatM3
import Derived.Test.YtgkfjhfehdefaaaGreatDoorProg
namespace Go.Proofs.YtgkfjhfehdefaaaGreatDoor.W
open Go.Proofs.YtgkfjhfehdefaaaGreatDoor.Flat
set_option linter.unusedVariables false
set_option linter.unusedSimpArgs false
inductive GValue where
  | mk (Kind : Int) (N : Int) (S : ByteArray) (L : List GValue) (M : List GValue)
mutual
def GValue.t : GValue → T
  | .mk a0 a1 a2 a3 a4 => .st [(.v (.int .i64 a0)), (.v (.int .i64 a1)), (.v (.string a2)), (.sl false 5 (GValue.ts a3)), (.sl false 5 (GValue.ts a4))]
def GValue.ts : List GValue → List T
  | [] => []
  | x :: xs => x.t :: GValue.ts xs
end
theorem GValue.ts_map : ∀ l, GValue.ts l = l.map GValue.t
  | [] => by rw [GValue.ts]; rfl
  | x :: xs => by rw [GValue.ts, GValue.ts_map xs, List.map_cons]
inductive GPred where
  | mk (Kind : Int) (V : List GValue) (P : List GPred)
mutual
def GPred.t : GPred → T
  | .mk a0 a1 a2 => .st [(.v (.int .i64 a0)), (.sl false 5 (GValue.ts a1)), (.sl false 3 (GPred.ts a2))]
def GPred.ts : List GPred → List T
  | [] => []
  | x :: xs => x.t :: GPred.ts xs
end
theorem GPred.ts_map : ∀ l, GPred.ts l = l.map GPred.t
  | [] => by rw [GPred.ts]; rfl
  | x :: xs => by rw [GPred.ts, GPred.ts_map xs, List.map_cons]
mutual
inductive GStep where
  | mk (Op : Int) (S : List ByteArray) (N : List Int) (V : GValue) (P : GPred) (T : List (List GStep)) (By : List GBy) (As : List ByteArray)
inductive GBy where
  | mk (Kind : Int) (Key : ByteArray) (T : List GStep) (Desc : Bool)
end
mutual
def GStep.t : GStep → T
  | .mk a0 a1 a2 a3 a4 a5 a6 a7 => .st [(.v (.int .i64 a0)), (.sl false 1 (texts a1)), (.sl false 1 (ints_i64 a2)), (GValue.t a3), (GPred.t a4), (.sl false 1 (rows_GStep_ts a5)), (.sl false 4 (GBy.ts a6)), (.sl false 1 (texts a7))]
def GStep.ts : List GStep → List T
  | [] => []
  | x :: xs => x.t :: GStep.ts xs
def GBy.t : GBy → T
  | .mk a0 a1 a2 a3 => .st [(.v (.int .i64 a0)), (.v (.string a1)), (.sl false 14 (GStep.ts a2)), (.v (.bool a3))]
def GBy.ts : List GBy → List T
  | [] => []
  | x :: xs => x.t :: GBy.ts xs
def rows_GStep_ts : List (List GStep) → List T
  | [] => []
  | x :: xs => (.sl false 14 (GStep.ts x)) :: rows_GStep_ts xs
end
theorem GStep.ts_map : ∀ l, GStep.ts l = l.map GStep.t
  | [] => by rw [GStep.ts]; rfl
  | x :: xs => by rw [GStep.ts, GStep.ts_map xs, List.map_cons]
theorem GBy.ts_map : ∀ l, GBy.ts l = l.map GBy.t
  | [] => by rw [GBy.ts]; rfl
  | x :: xs => by rw [GBy.ts, GBy.ts_map xs, List.map_cons]
theorem rows_GStep_ts_map : ∀ l, rows_GStep_ts l = l.map fun x => (.sl false 14 (GStep.ts x))
  | [] => by rw [rows_GStep_ts]; rfl
  | x :: xs => by rw [rows_GStep_ts, rows_GStep_ts_map xs, List.map_cons]
mutual
def GValue.x : GValue → T
  | .mk a0 a1 a2 a3 a4 => .st [(.v (.int .i64 a0)), (.v (.int .i64 a1)), (.v (.string a2)), (.xl 5 (GValue.xs a3)), (.xl 5 (GValue.xs a4))]
def GValue.xs : List GValue → List T
  | [] => []
  | x :: xs => x.x :: GValue.xs xs
end
theorem GValue.xs_map : ∀ l, GValue.xs l = l.map GValue.x
  | [] => by rw [GValue.xs]; rfl
  | x :: xs => by rw [GValue.xs, GValue.xs_map xs, List.map_cons]
mutual
theorem GValue.pub_x : ∀ a : GValue, a.x.pub = a.t
  | .mk a0 a1 a2 a3 a4 => by rw [GValue.x, GValue.t]; simp only [T.pub, pubs, GValue.xs_pub]
theorem GValue.xs_pub : ∀ {l : List GValue}, pubs (GValue.xs l) = GValue.ts l
  | [] => by rw [GValue.xs, GValue.ts, pubs]
  | x :: xs => by rw [GValue.xs, GValue.ts, pubs, GValue.pub_x x, GValue.xs_pub]
end
theorem GValue.pub_t (a : GValue) : a.t.pub = a.t := by
  obtain ⟨a0, a1, a2, a3, a4⟩ := a
  rw [GValue.t]; simp only [T.pub, pubs]
theorem GValue.ts_pub {l : List GValue} : pubs (GValue.ts l) = GValue.ts l := pub_ts GValue.ts_map GValue.ts_map GValue.pub_t
mutual
def GPred.x : GPred → T
  | .mk a0 a1 a2 => .st [(.v (.int .i64 a0)), (.xl 5 (GValue.xs a1)), (.xl 3 (GPred.xs a2))]
def GPred.xs : List GPred → List T
  | [] => []
  | x :: xs => x.x :: GPred.xs xs
end
theorem GPred.xs_map : ∀ l, GPred.xs l = l.map GPred.x
  | [] => by rw [GPred.xs]; rfl
  | x :: xs => by rw [GPred.xs, GPred.xs_map xs, List.map_cons]
mutual
theorem GPred.pub_x : ∀ a : GPred, a.x.pub = a.t
  | .mk a0 a1 a2 => by rw [GPred.x, GPred.t]; simp only [T.pub, pubs, GPred.xs_pub, GValue.xs_pub]
theorem GPred.xs_pub : ∀ {l : List GPred}, pubs (GPred.xs l) = GPred.ts l
  | [] => by rw [GPred.xs, GPred.ts, pubs]
  | x :: xs => by rw [GPred.xs, GPred.ts, pubs, GPred.pub_x x, GPred.xs_pub]
end
theorem GPred.pub_t (a : GPred) : a.t.pub = a.t := by
  obtain ⟨a0, a1, a2⟩ := a
  rw [GPred.t]; simp only [T.pub, pubs]
theorem GPred.ts_pub {l : List GPred} : pubs (GPred.ts l) = GPred.ts l := pub_ts GPred.ts_map GPred.ts_map GPred.pub_t
mutual
def GStep.x : GStep → T
  | .mk a0 a1 a2 a3 a4 a5 a6 a7 => .st [(.v (.int .i64 a0)), (.xl 1 (texts a1)), (.xl 1 (ints_i64 a2)), (GValue.x a3), (GPred.x a4), (.xl 1 (xrows_GStep_xs a5)), (.xl 4 (GBy.xs a6)), (.xl 1 (texts a7))]
def GStep.xs : List GStep → List T
  | [] => []
  | x :: xs => x.x :: GStep.xs xs
def GBy.x : GBy → T
  | .mk a0 a1 a2 a3 => .st [(.v (.int .i64 a0)), (.v (.string a1)), (.xl 14 (GStep.xs a2)), (.v (.bool a3))]
def GBy.xs : List GBy → List T
  | [] => []
  | x :: xs => x.x :: GBy.xs xs
def xrows_GStep_xs : List (List GStep) → List T
  | [] => []
  | x :: xs => (.xl 14 (GStep.xs x)) :: xrows_GStep_xs xs
end
theorem GStep.xs_map : ∀ l, GStep.xs l = l.map GStep.x
  | [] => by rw [GStep.xs]; rfl
  | x :: xs => by rw [GStep.xs, GStep.xs_map xs, List.map_cons]
theorem GBy.xs_map : ∀ l, GBy.xs l = l.map GBy.x
  | [] => by rw [GBy.xs]; rfl
  | x :: xs => by rw [GBy.xs, GBy.xs_map xs, List.map_cons]
theorem xrows_GStep_xs_map : ∀ l, xrows_GStep_xs l = l.map fun x => (.xl 14 (GStep.xs x))
  | [] => by rw [xrows_GStep_xs]; rfl
  | x :: xs => by rw [xrows_GStep_xs, xrows_GStep_xs_map xs, List.map_cons]
mutual
theorem GStep.pub_x : ∀ a : GStep, a.x.pub = a.t
  | .mk a0 a1 a2 a3 a4 a5 a6 a7 => by rw [GStep.x, GStep.t]; simp only [T.pub, pubs, GBy.xs_pub, GPred.pub_x, GValue.pub_x, ints_i64_pub, texts_pub, xrows_GStep_xs_pub]
theorem GStep.xs_pub : ∀ {l : List GStep}, pubs (GStep.xs l) = GStep.ts l
  | [] => by rw [GStep.xs, GStep.ts, pubs]
  | x :: xs => by rw [GStep.xs, GStep.ts, pubs, GStep.pub_x x, GStep.xs_pub]
theorem xrows_GStep_xs_pub : ∀ {l : List (List GStep)}, pubs (xrows_GStep_xs l) = rows_GStep_ts l
  | [] => by rw [xrows_GStep_xs, rows_GStep_ts, pubs]
  | x :: xs => by rw [xrows_GStep_xs, rows_GStep_ts, pubs, T.pub, GStep.xs_pub, xrows_GStep_xs_pub]
theorem GBy.pub_x : ∀ a : GBy, a.x.pub = a.t
  | .mk a0 a1 a2 a3 => by rw [GBy.x, GBy.t]; simp only [T.pub, pubs, GStep.xs_pub]
theorem GBy.xs_pub : ∀ {l : List GBy}, pubs (GBy.xs l) = GBy.ts l
  | [] => by rw [GBy.xs, GBy.ts, pubs]
  | x :: xs => by rw [GBy.xs, GBy.ts, pubs, GBy.pub_x x, GBy.xs_pub]
end
theorem GStep.pub_t (a : GStep) : a.t.pub = a.t := by
  obtain ⟨a0, a1, a2, a3, a4, a5, a6, a7⟩ := a
  rw [GStep.t]; simp only [T.pub, pubs, GPred.pub_t, GValue.pub_t]
theorem GStep.ts_pub {l : List GStep} : pubs (GStep.ts l) = GStep.ts l := pub_ts GStep.ts_map GStep.ts_map GStep.pub_t
theorem GBy.pub_t (a : GBy) : a.t.pub = a.t := by
  obtain ⟨a0, a1, a2, a3⟩ := a
  rw [GBy.t]; simp only [T.pub, pubs]
theorem GBy.ts_pub {l : List GBy} : pubs (GBy.ts l) = GBy.ts l := pub_ts GBy.ts_map GBy.ts_map GBy.pub_t
def gl0 : List ByteArray := [(ByteArray.mk #[]), (ByteArray.mk #[86]), (ByteArray.mk #[69]), (ByteArray.mk #[79, 117, 116]), (ByteArray.mk #[73, 110]), (ByteArray.mk #[66, 111, 116, 104]), (ByteArray.mk #[79, 117, 116, 69]), (ByteArray.mk #[73, 110, 69]), (ByteArray.mk #[66, 111, 116, 104, 69]), (ByteArray.mk #[79, 117, 116, 86]), (ByteArray.mk #[73, 110, 86]), (ByteArray.mk #[66, 111, 116, 104, 86]), (ByteArray.mk #[73, 68]), (ByteArray.mk #[76, 97, 98, 101, 108]), (ByteArray.mk #[86, 97, 108, 117, 101, 115]), (ByteArray.mk #[67, 111, 110, 115, 116, 97, 110, 116]), (ByteArray.mk #[73, 100, 101, 110, 116, 105, 116, 121]), (ByteArray.mk #[72, 97, 115, 76, 97, 98, 101, 108]), (ByteArray.mk #[72, 97, 115]), (ByteArray.mk #[72, 97, 115, 75, 101, 121]), (ByteArray.mk #[72, 97, 115, 78, 111, 116]), (ByteArray.mk #[72, 97, 115, 73, 68]), (ByteArray.mk #[73, 115]), (ByteArray.mk #[68, 101, 100, 117, 112]), (ByteArray.mk #[82, 97, 110, 103, 101]), (ByteArray.mk #[84, 97, 105, 108]), (ByteArray.mk #[83, 105, 109, 112, 108, 101]), (ByteArray.mk #[67, 121, 99, 108, 105, 99]), (ByteArray.mk #[87, 104, 101, 114, 101]), (ByteArray.mk #[78, 111, 116, 84, 104, 97, 116]), (ByteArray.mk #[65, 108, 108, 79, 102]), (ByteArray.mk #[65, 110, 121, 79, 102]), (ByteArray.mk #[67, 111, 117, 110, 116]), (ByteArray.mk #[83, 117, 109]), (ByteArray.mk #[77, 105, 110]), (ByteArray.mk #[77, 97, 120]), (ByteArray.mk #[70, 111, 108, 100]), (ByteArray.mk #[85, 110, 102, 111, 108, 100]), (ByteArray.mk #[84, 114, 97, 105, 108]), (ByteArray.mk #[83, 101, 108, 101, 99, 116]), (ByteArray.mk #[79, 114, 100, 101, 114]), (ByteArray.mk #[71, 114, 111, 117, 112]), (ByteArray.mk #[71, 114, 111, 117, 112, 67, 111, 117, 110, 116]), (ByteArray.mk #[80, 114, 111, 106, 101, 99, 116]), (ByteArray.mk #[85, 110, 105, 111, 110]), (ByteArray.mk #[67, 111, 97, 108, 101, 115, 99, 101]), (ByteArray.mk #[67, 104, 111, 111, 115, 101]), (ByteArray.mk #[79, 112, 116, 105, 111, 110, 97, 108]), (ByteArray.mk #[82, 101, 112, 101, 97, 116]), (ByteArray.mk #[65, 103, 103, 114, 101, 103, 97, 116, 101]), (ByteArray.mk #[67, 97, 112]), (ByteArray.mk #[66, 97, 114, 114, 105, 101, 114])]
instance : Glob := ⟨fun g => if g = 0 then some (.st (texts gl0)) else none⟩

set_option maxRecDepth 100000
/-- What is known of a GValue that was handed in: it is one, so deep. -/
def GValue.In (a : GValue) : Prop := ∃ n, TyT Tryz.prog n 36 a.t
theorem GValue.of : ∀ (n : Nat) (x : T), TyT Tryz.prog n 36 x → ∃ a : GValue, x = a.t ∧ GValue.In a
  | n, x, h => by
    have h0 := h
    obtain ⟨m, xs, hn, rfl, h1⟩ := tyT_struct Tryz.underlying36 h
    obtain ⟨b0, xs0, rfl, c0, h2⟩ := all2_cons h1
    obtain ⟨b1, xs1, rfl, c1, h3⟩ := all2_cons h2
    obtain ⟨b2, xs2, rfl, c2, h4⟩ := all2_cons h3
    obtain ⟨b3, xs3, rfl, c3, h5⟩ := all2_cons h4
    obtain ⟨b4, xs4, rfl, c4, h6⟩ := all2_cons h5
    obtain rfl := all2_nil h6
    obtain ⟨d0, rfl, _⟩ := tyT_int Tryz.underlying3 c0
    obtain ⟨d1, rfl, _⟩ := tyT_int Tryz.underlying3 c1
    obtain ⟨d2, rfl, _⟩ := tyT_string Tryz.underlying9 c2
    obtain ⟨d3, rfl, _, _⟩ := tyT_slice (Q := (fun _ => True)) GValue.ts_map Tryz.underlying34 (show _ = 5 from by kernel_rfl) (show _ = 80 from by kernel_rfl) (fun j hj y hy => by obtain ⟨a, e, _⟩ := GValue.of j y hy; exact ⟨a, e, trivial⟩) c3
    obtain ⟨d4, rfl, _, _⟩ := tyT_slice (Q := (fun _ => True)) GValue.ts_map Tryz.underlying34 (show _ = 5 from by kernel_rfl) (show _ = 80 from by kernel_rfl) (fun j hj y hy => by obtain ⟨a, e, _⟩ := GValue.of j y hy; exact ⟨a, e, trivial⟩) c4
    exact ⟨.mk d0 d1 d2 d3 d4, rfl, n, h0⟩
  termination_by n => n
  decreasing_by all_goals omega
theorem GValue.in_mk {a0 : Int} {a1 : Int} {a2 : ByteArray} {a3 : List GValue} {a4 : List GValue} (h : GValue.In (.mk a0 a1 a2 a3 a4)) : ((Lit.int .i64 a0).wf = true) ∧ ((Lit.int .i64 a1).wf = true) ∧ (a2.size ≤ 140737488351232) ∧ (a3.length * 80 ≤ 140737488351232 ∧ ∀ w0 ∈ a3, GValue.In w0) ∧ (a4.length * 80 ≤ 140737488351232 ∧ ∀ w0 ∈ a4, GValue.In w0) := by
  obtain ⟨n, h⟩ := h
  rw [GValue.t] at h
  obtain ⟨m, h1⟩ := inT_struct Tryz.underlying36 h
  obtain ⟨c0, c1, c2, c3, c4, _⟩ := h1
  exact ⟨(inT_int Tryz.underlying3 c0), (inT_int Tryz.underlying3 c1), (inT_string Tryz.underlying9 c2), ⟨(inT_slice GValue.ts_map Tryz.underlying34 (show _ = 80 from by kernel_rfl) c3).1, fun y hy => (by obtain ⟨m2, h2⟩ := (inT_slice GValue.ts_map Tryz.underlying34 (show _ = 80 from by kernel_rfl) c3).2 y hy; exact ⟨m2, h2⟩)⟩, ⟨(inT_slice GValue.ts_map Tryz.underlying34 (show _ = 80 from by kernel_rfl) c4).1, fun y hy => (by obtain ⟨m2, h2⟩ := (inT_slice GValue.ts_map Tryz.underlying34 (show _ = 80 from by kernel_rfl) c4).2 y hy; exact ⟨m2, h2⟩)⟩⟩
/-- What is known of a GPred that was handed in: it is one, so deep. -/
def GPred.In (a : GPred) : Prop := ∃ n, TyT Tryz.prog n 39 a.t
theorem GPred.of : ∀ (n : Nat) (x : T), TyT Tryz.prog n 39 x → ∃ a : GPred, x = a.t ∧ GPred.In a
  | n, x, h => by
    have h0 := h
    obtain ⟨m, xs, hn, rfl, h1⟩ := tyT_struct Tryz.underlying39 h
    obtain ⟨b0, xs0, rfl, c0, h2⟩ := all2_cons h1
    obtain ⟨b1, xs1, rfl, c1, h3⟩ := all2_cons h2
    obtain ⟨b2, xs2, rfl, c2, h4⟩ := all2_cons h3
    obtain rfl := all2_nil h4
    obtain ⟨d0, rfl, _⟩ := tyT_int Tryz.underlying3 c0
    obtain ⟨d1, rfl, _, _⟩ := tyT_slice (Q := (fun _ => True)) GValue.ts_map Tryz.underlying34 (show _ = 5 from by kernel_rfl) (show _ = 80 from by kernel_rfl) (fun j hj y hy => by obtain ⟨a, e, _⟩ := GValue.of j y hy; exact ⟨a, e, trivial⟩) c1
    obtain ⟨d2, rfl, _, _⟩ := tyT_slice (Q := (fun _ => True)) GPred.ts_map Tryz.underlying37 (show _ = 3 from by kernel_rfl) (show _ = 56 from by kernel_rfl) (fun j hj y hy => by obtain ⟨a, e, _⟩ := GPred.of j y hy; exact ⟨a, e, trivial⟩) c2
    exact ⟨.mk d0 d1 d2, rfl, n, h0⟩
  termination_by n => n
  decreasing_by all_goals omega
theorem GPred.in_mk {a0 : Int} {a1 : List GValue} {a2 : List GPred} (h : GPred.In (.mk a0 a1 a2)) : ((Lit.int .i64 a0).wf = true) ∧ (a1.length * 80 ≤ 140737488351232 ∧ ∀ w0 ∈ a1, GValue.In w0) ∧ (a2.length * 56 ≤ 140737488351232 ∧ ∀ w0 ∈ a2, GPred.In w0) := by
  obtain ⟨n, h⟩ := h
  rw [GPred.t] at h
  obtain ⟨m, h1⟩ := inT_struct Tryz.underlying39 h
  obtain ⟨c0, c1, c2, _⟩ := h1
  exact ⟨(inT_int Tryz.underlying3 c0), ⟨(inT_slice GValue.ts_map Tryz.underlying34 (show _ = 80 from by kernel_rfl) c1).1, fun y hy => (by obtain ⟨m2, h2⟩ := (inT_slice GValue.ts_map Tryz.underlying34 (show _ = 80 from by kernel_rfl) c1).2 y hy; exact ⟨m2, h2⟩)⟩, ⟨(inT_slice GPred.ts_map Tryz.underlying37 (show _ = 56 from by kernel_rfl) c2).1, fun y hy => (by obtain ⟨m2, h2⟩ := (inT_slice GPred.ts_map Tryz.underlying37 (show _ = 56 from by kernel_rfl) c2).2 y hy; exact ⟨m2, h2⟩)⟩⟩
/-- What is known of a GStep that was handed in: it is one, so deep. -/
def GStep.In (a : GStep) : Prop := ∃ n, TyT Tryz.prog n 43 a.t
/-- What is known of a GBy that was handed in: it is one, so deep. -/
def GBy.In (a : GBy) : Prop := ∃ n, TyT Tryz.prog n 59 a.t
mutual
theorem GStep.of : ∀ (n : Nat) (x : T), TyT Tryz.prog n 43 x → ∃ a : GStep, x = a.t ∧ GStep.In a
  | n, x, h => by
    have h0 := h
    obtain ⟨m, xs, hn, rfl, h1⟩ := tyT_struct Tryz.underlying43 h
    obtain ⟨b0, xs0, rfl, c0, h2⟩ := all2_cons h1
    obtain ⟨b1, xs1, rfl, c1, h3⟩ := all2_cons h2
    obtain ⟨b2, xs2, rfl, c2, h4⟩ := all2_cons h3
    obtain ⟨b3, xs3, rfl, c3, h5⟩ := all2_cons h4
    obtain ⟨b4, xs4, rfl, c4, h6⟩ := all2_cons h5
    obtain ⟨b5, xs5, rfl, c5, h7⟩ := all2_cons h6
    obtain ⟨b6, xs6, rfl, c6, h8⟩ := all2_cons h7
    obtain ⟨b7, xs7, rfl, c7, h9⟩ := all2_cons h8
    obtain rfl := all2_nil h9
    obtain ⟨d0, rfl, _⟩ := tyT_int Tryz.underlying3 c0
    obtain ⟨d1, rfl, _, _⟩ := tyT_slice (Q := (fun _ => True)) texts_map Tryz.underlying32 (show _ = 1 from by kernel_rfl) (show _ = 16 from by kernel_rfl) (fun j hj y hy => by obtain ⟨a, e, _⟩ := tyT_string Tryz.underlying9 hy; exact ⟨a, e, trivial⟩) c1
    obtain ⟨d2, rfl, _, _⟩ := tyT_slice (Q := (fun _ => True)) ints_i64_map Tryz.underlying33 (show _ = 1 from by kernel_rfl) (show _ = 8 from by kernel_rfl) (fun j hj y hy => by obtain ⟨a, e, _⟩ := tyT_int Tryz.underlying3 hy; exact ⟨a, e, trivial⟩) c2
    obtain ⟨d3, rfl, _⟩ := GValue.of m _ c3
    obtain ⟨d4, rfl, _⟩ := GPred.of m _ c4
    obtain ⟨d5, rfl, _, _⟩ := tyT_slice (Q := (fun _ => True)) rows_GStep_ts_map Tryz.underlying40 (show _ = 1 from by kernel_rfl) (show _ = 24 from by kernel_rfl) (fun j hj y hy => by obtain ⟨a, e, _, _⟩ := tyT_slice (Q := (fun _ => True)) GStep.ts_map Tryz.underlying22 (show _ = 14 from by kernel_rfl) (show _ = 264 from by kernel_rfl) (fun j hj y hy => by obtain ⟨a, e, _⟩ := GStep.of j y hy; exact ⟨a, e, trivial⟩) hy; exact ⟨a, e, trivial⟩) c5
    obtain ⟨d6, rfl, _, _⟩ := tyT_slice (Q := (fun _ => True)) GBy.ts_map Tryz.underlying41 (show _ = 4 from by kernel_rfl) (show _ = 56 from by kernel_rfl) (fun j hj y hy => by obtain ⟨a, e, _⟩ := GBy.of j y hy; exact ⟨a, e, trivial⟩) c6
    obtain ⟨d7, rfl, _, _⟩ := tyT_slice (Q := (fun _ => True)) texts_map Tryz.underlying32 (show _ = 1 from by kernel_rfl) (show _ = 16 from by kernel_rfl) (fun j hj y hy => by obtain ⟨a, e, _⟩ := tyT_string Tryz.underlying9 hy; exact ⟨a, e, trivial⟩) c7
    exact ⟨.mk d0 d1 d2 d3 d4 d5 d6 d7, rfl, n, h0⟩
  termination_by n => n
  decreasing_by all_goals omega
theorem GBy.of : ∀ (n : Nat) (x : T), TyT Tryz.prog n 59 x → ∃ a : GBy, x = a.t ∧ GBy.In a
  | n, x, h => by
    have h0 := h
    obtain ⟨m, xs, hn, rfl, h1⟩ := tyT_struct Tryz.underlying59 h
    obtain ⟨b0, xs0, rfl, c0, h2⟩ := all2_cons h1
    obtain ⟨b1, xs1, rfl, c1, h3⟩ := all2_cons h2
    obtain ⟨b2, xs2, rfl, c2, h4⟩ := all2_cons h3
    obtain ⟨b3, xs3, rfl, c3, h5⟩ := all2_cons h4
    obtain rfl := all2_nil h5
    obtain ⟨d0, rfl, _⟩ := tyT_int Tryz.underlying3 c0
    obtain ⟨d1, rfl, _⟩ := tyT_string Tryz.underlying9 c1
    obtain ⟨d2, rfl, _, _⟩ := tyT_slice (Q := (fun _ => True)) GStep.ts_map Tryz.underlying22 (show _ = 14 from by kernel_rfl) (show _ = 264 from by kernel_rfl) (fun j hj y hy => by obtain ⟨a, e, _⟩ := GStep.of j y hy; exact ⟨a, e, trivial⟩) c2
    obtain ⟨d3, rfl⟩ := tyT_bool Tryz.underlying4 c3
    exact ⟨.mk d0 d1 d2 d3, rfl, n, h0⟩
  termination_by n => n
  decreasing_by all_goals omega
end
theorem GStep.in_mk {a0 : Int} {a1 : List ByteArray} {a2 : List Int} {a3 : GValue} {a4 : GPred} {a5 : List (List GStep)} {a6 : List GBy} {a7 : List ByteArray} (h : GStep.In (.mk a0 a1 a2 a3 a4 a5 a6 a7)) : ((Lit.int .i64 a0).wf = true) ∧ (a1.length * 16 ≤ 140737488351232 ∧ ∀ w0 ∈ a1, w0.size ≤ 140737488351232) ∧ (a2.length * 8 ≤ 140737488351232 ∧ ∀ w0 ∈ a2, (Lit.int .i64 w0).wf = true) ∧ (GValue.In a3) ∧ (GPred.In a4) ∧ (a5.length * 24 ≤ 140737488351232 ∧ ∀ w0 ∈ a5, w0.length * 264 ≤ 140737488351232 ∧ ∀ w1 ∈ w0, GStep.In w1) ∧ (a6.length * 56 ≤ 140737488351232 ∧ ∀ w0 ∈ a6, GBy.In w0) ∧ (a7.length * 16 ≤ 140737488351232 ∧ ∀ w0 ∈ a7, w0.size ≤ 140737488351232) := by
  obtain ⟨n, h⟩ := h
  rw [GStep.t] at h
  obtain ⟨m, h1⟩ := inT_struct Tryz.underlying43 h
  obtain ⟨c0, c1, c2, c3, c4, c5, c6, c7, _⟩ := h1
  exact ⟨(inT_int Tryz.underlying3 c0), ⟨(inT_slice texts_map Tryz.underlying32 (show _ = 16 from by kernel_rfl) c1).1, fun y hy => (by obtain ⟨m2, h2⟩ := (inT_slice texts_map Tryz.underlying32 (show _ = 16 from by kernel_rfl) c1).2 y hy; exact (inT_string Tryz.underlying9 h2))⟩, ⟨(inT_slice ints_i64_map Tryz.underlying33 (show _ = 8 from by kernel_rfl) c2).1, fun y hy => (by obtain ⟨m2, h2⟩ := (inT_slice ints_i64_map Tryz.underlying33 (show _ = 8 from by kernel_rfl) c2).2 y hy; exact (inT_int Tryz.underlying3 h2))⟩, ⟨m, c3⟩, ⟨m, c4⟩, ⟨(inT_slice rows_GStep_ts_map Tryz.underlying40 (show _ = 24 from by kernel_rfl) c5).1, fun y hy => (by obtain ⟨m2, h2⟩ := (inT_slice rows_GStep_ts_map Tryz.underlying40 (show _ = 24 from by kernel_rfl) c5).2 y hy; exact ⟨(inT_slice GStep.ts_map Tryz.underlying22 (show _ = 264 from by kernel_rfl) h2).1, fun y hy => (by obtain ⟨m2, h2⟩ := (inT_slice GStep.ts_map Tryz.underlying22 (show _ = 264 from by kernel_rfl) h2).2 y hy; exact ⟨m2, h2⟩)⟩)⟩, ⟨(inT_slice GBy.ts_map Tryz.underlying41 (show _ = 56 from by kernel_rfl) c6).1, fun y hy => (by obtain ⟨m2, h2⟩ := (inT_slice GBy.ts_map Tryz.underlying41 (show _ = 56 from by kernel_rfl) c6).2 y hy; exact ⟨m2, h2⟩)⟩, ⟨(inT_slice texts_map Tryz.underlying32 (show _ = 16 from by kernel_rfl) c7).1, fun y hy => (by obtain ⟨m2, h2⟩ := (inT_slice texts_map Tryz.underlying32 (show _ = 16 from by kernel_rfl) c7).2 y hy; exact (inT_string Tryz.underlying9 h2))⟩⟩
theorem GBy.in_mk {a0 : Int} {a1 : ByteArray} {a2 : List GStep} {a3 : Bool} (h : GBy.In (.mk a0 a1 a2 a3)) : ((Lit.int .i64 a0).wf = true) ∧ (a1.size ≤ 140737488351232) ∧ (a2.length * 264 ≤ 140737488351232 ∧ ∀ w0 ∈ a2, GStep.In w0) := by
  obtain ⟨n, h⟩ := h
  rw [GBy.t] at h
  obtain ⟨m, h1⟩ := inT_struct Tryz.underlying59 h
  obtain ⟨c0, c1, c2, c3, _⟩ := h1
  exact ⟨(inT_int Tryz.underlying3 c0), (inT_string Tryz.underlying9 c1), ⟨(inT_slice GStep.ts_map Tryz.underlying22 (show _ = 264 from by kernel_rfl) c2).1, fun y hy => (by obtain ⟨m2, h2⟩ := (inT_slice GStep.ts_map Tryz.underlying22 (show _ = 264 from by kernel_rfl) c2).2 y hy; exact ⟨m2, h2⟩)⟩⟩
end Go.Proofs.YtgkfjhfehdefaaaGreatDoor.W
