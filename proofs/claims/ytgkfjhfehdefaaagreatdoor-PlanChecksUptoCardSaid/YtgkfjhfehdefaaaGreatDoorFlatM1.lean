/- The functions of a program over trees of data: the words, and what each kind of step does. -/
import Derived.Deep.AppendSrc
import Derived.Below
import Derived.WalkKit
import Derived.KernelRfl
import Derived.Great.BuildSlice
import Derived.Deep.Upon
namespace Go.Proofs.YtgkfjhfehdefaaaGreatDoor.Flat
set_option linter.unusedVariables false
set_option linter.unusedSimpArgs false
set_option linter.unusedSectionVars false

/-- A value as a tree: one cell that leads nowhere, a struct or an array, a row (own: the place holds its token; sz: an element's cells). -/
inductive T where
  | v (x : Value)
  | st (fs : List T)
  | sl (own : Bool) (sz : Nat) (xs : List T)
instance : Inhabited T := ⟨.st []⟩
/-- Variables of the whole program that are only read, as trees. -/
class Glob where
  gl : Nat → Option T
def okv : Value → Bool
  | .int _ _ | .bool _ | .string _ | .nilFunc => true
  | _ => false
mutual
def T.size : T → Nat
  | .v _ => 1
  | .st fs => sizes fs
  | .sl _ _ _ => 1
def sizes : List T → Nat
  | [] => 0
  | f :: fs => f.size + sizes fs
end
mutual
/-- Without tokens. -/
def T.sh : T → T
  | .v x => .v x
  | .st fs => .st (shs fs)
  | .sl _ sz xs => .sl false sz xs
def shs : List T → List T
  | [] => []
  | f :: fs => f.sh :: shs fs
end
mutual
theorem T.size_sh : ∀ x : T, x.sh.size = x.size
  | .v _ => rfl
  | .st fs => by simp only [T.sh, T.size]; exact sizes_shs fs
  | .sl _ _ _ => rfl
theorem sizes_shs : ∀ fs : List T, sizes (shs fs) = sizes fs
  | [] => rfl
  | f :: fs => by simp only [shs, sizes]; rw [T.size_sh f, sizes_shs fs]
end
mutual
/-- The cells cs tell the tree; B: the blocks of the rows whose token is held there. -/
def Rep (w : World) (E : Nat → Nat) : T → List Value → List Nat → Prop
  | .v x, cs, B => cs = [x] ∧ okv x = true ∧ B = []
  | .st fs, cs, B => RepS w E fs cs B
  | .sl own sz xs, cs, B => ∃ A c, cs = [.slice A xs.length c] ∧ xs.length ≤ c ∧ 0 < sz ∧
      match A with
      | none => xs = [] ∧ c = 0 ∧ B = []
      | some ad => RepA w E sz ad 0 xs ∧ ∃ tk : Bool, ((tk = true → own = true) ∧ (own = true → tk = false → c = xs.length)) ∧ B = (if tk = true then [ad.block] else []) ∧
          (tk = true → ad.spot = none ∧ E ad.block = ad.off + xs.length * sz ∧ ∃ cells ty, w.heap[ad.block]? = some (.cells cells ty (0, 0)) ∧ ad.off + c * sz ≤ cells.size ∧ c ≤ 9223372036854775807)
def RepS (w : World) (E : Nat → Nat) : List T → List Value → List Nat → Prop
  | [], cs, B => cs = [] ∧ B = []
  | f :: fs, cs, B => ∃ c1 c2 B1 B2, cs = c1 ++ c2 ∧ B = B1 ++ B2 ∧ Rep w E f c1 B1 ∧ RepS w E fs c2 B2
def RepA (w : World) (E : Nat → Nat) (sz : Nat) (ad : Addr) : Nat → List T → Prop
  | _, [] => True
  | o, x :: xs => (ad.off + o + sz ≤ E ad.block ∧ ∃ cs, cs.length = sz ∧ (∀ j u, cs[j]? = some u → w.cell? (ad.add (o + j)) = some u) ∧ Rep w E x cs []) ∧ RepA w E sz ad (o + sz) xs
end
mutual
theorem Rep.len {w : World} {E : Nat → Nat} : ∀ {x : T} {cs : List Value} {B : List Nat}, Rep w E x cs B → cs.length = x.size
  | .v _, cs, B, h => by rw [Rep] at h; rw [h.1]; rfl
  | .st fs, cs, B, h => by rw [Rep] at h; exact RepS.len h
  | .sl _ _ _, cs, B, h => by rw [Rep] at h; obtain ⟨A, c, e, _⟩ := h; rw [e]; rfl
theorem RepS.len {w : World} {E : Nat → Nat} : ∀ {fs : List T} {cs : List Value} {B : List Nat}, RepS w E fs cs B → cs.length = sizes fs
  | [], cs, B, h => by rw [RepS] at h; rw [h.1]; rfl
  | f :: fs, cs, B, h => by
    rw [RepS] at h
    obtain ⟨c1, c2, B1, B2, e, _, h1, h2⟩ := h
    rw [e, List.length_append, Rep.len h1, RepS.len h2]
    rfl
end
mutual
theorem Rep.one {w : World} {E : Nat → Nat} : ∀ {x : T} {cs : List Value} {B : List Nat}, Rep w E x cs B → ∀ u ∈ cs, u.oneCell' = true
  | .v x, cs, B, h => by
    rw [Rep] at h
    obtain ⟨rfl, h2, _⟩ := h
    intro u hu
    rw [List.mem_singleton.1 hu]
    cases x <;> first | rfl | cases h2
  | .st fs, cs, B, h => by rw [Rep] at h; exact RepS.one h
  | .sl _ _ _, cs, B, h => by
    rw [Rep] at h
    obtain ⟨A, c, rfl, _⟩ := h
    intro u hu
    rw [List.mem_singleton.1 hu]
    rfl
theorem RepS.one {w : World} {E : Nat → Nat} : ∀ {fs : List T} {cs : List Value} {B : List Nat}, RepS w E fs cs B → ∀ u ∈ cs, u.oneCell' = true
  | [], cs, B, h => by rw [RepS] at h; rw [h.1]; intro u hu; cases hu
  | f :: fs, cs, B, h => by
    rw [RepS] at h
    obtain ⟨c1, c2, B1, B2, rfl, _, h1, h2⟩ := h
    intro u hu
    rcases List.mem_append.1 hu with hu | hu
    · exact Rep.one h1 u hu
    · exact RepS.one h2 u hu
end
/-- From one world to another: what is published stays, the rows of tokens (B) stand as they stood. -/
structure Mv (w : World) (E : Nat → Nat) (w' : World) (E' : Nat → Nat) (B : List Nat) : Prop where
  pub : ∀ k i, i < E k → i < E' k ∧ w'.cell? ⟨k, i, none⟩ = w.cell? ⟨k, i, none⟩
  tok : ∀ k ∈ B, E' k = E k ∧ ∀ cells ty, w.heap[k]? = some (.cells cells ty (0, 0)) → ∃ cells', w'.heap[k]? = some (.cells cells' ty (0, 0)) ∧ cells'.size = cells.size
theorem Mv.sub {w : World} {E : Nat → Nat} {w' : World} {E' : Nat → Nat} {B B' : List Nat} (h : Mv w E w' E' B) (hs : ∀ k ∈ B', k ∈ B) : Mv w E w' E' B' :=
  ⟨h.pub, fun k hk => h.tok k (hs k hk)⟩
theorem Mv.refl (w : World) (E : Nat → Nat) (B : List Nat) : Mv w E w E B := ⟨fun _ _ h => ⟨h, rfl⟩, fun _ _ => ⟨rfl, fun cells ty h => ⟨cells, h, rfl⟩⟩⟩
theorem cell_spot {w : World} {a : Addr} {u : Value} (h : w.cell? a = some u) : a.spot = none := by
  unfold World.cell? at h
  cases hs : a.spot with
  | none => rfl
  | some s =>
    split at h
    · rw [hs] at h; simp at h
    · cases h
theorem Mv.cell {w : World} {E : Nat → Nat} {w' : World} {E' : Nat → Nat} {B : List Nat} (h : Mv w E w' E' B) {a : Addr} {u : Value} (hc : w.cell? a = some u) (hlt : a.off < E a.block) : w'.cell? a = some u := by
  have hs := cell_spot hc
  obtain ⟨k, i, s⟩ := a
  dsimp only at hs hlt
  subst hs
  rw [(h.pub k i hlt).2, hc]
theorem add_block (a : Addr) (n : Nat) : (a.add n).block = a.block := by unfold Addr.add; split <;> rfl
theorem add_off (a : Addr) (n : Nat) : (a.add n).off = a.off + n := by
  unfold Addr.add
  split
  · rename_i h; rw [h]; rfl
  · rfl
mutual
theorem Rep.mv {w : World} {E : Nat → Nat} {w' : World} {E' : Nat → Nat} : ∀ {x : T} {cs : List Value} {B : List Nat}, Mv w E w' E' B → Rep w E x cs B → Rep w' E' x cs B
  | .v x, cs, B, hm, h => by rw [Rep] at h ⊢; exact h
  | .st fs, cs, B, hm, h => by rw [Rep] at h ⊢; exact RepS.mv hm h
  | .sl own sz xs, cs, B, hm, h => by
    rw [Rep] at h ⊢
    obtain ⟨A, c, e, hl, hz, h⟩ := h
    refine ⟨A, c, e, hl, hz, ?_⟩
    cases A with
    | none => exact h
    | some ad =>
      obtain ⟨h1, tk, htk, h2, h3⟩ := h
      refine ⟨RepA.mv (hm.sub (B' := []) (by simp)) h1, tk, htk, h2, fun ho => ?_⟩
      obtain ⟨hs, he, cells, ty, hc, hsz⟩ := h3 ho
      have hb : ad.block ∈ B := by rw [h2, if_pos ho]; exact List.mem_singleton.2 rfl
      obtain ⟨t1, t2⟩ := hm.tok _ hb
      obtain ⟨cells', hc', hsz'⟩ := t2 cells ty hc
      exact ⟨hs, by rw [t1]; exact he, cells', ty, hc', by rw [hsz']; exact hsz.1, hsz.2⟩
theorem RepS.mv {w : World} {E : Nat → Nat} {w' : World} {E' : Nat → Nat} : ∀ {fs : List T} {cs : List Value} {B : List Nat}, Mv w E w' E' B → RepS w E fs cs B → RepS w' E' fs cs B
  | [], cs, B, hm, h => by rw [RepS] at h ⊢; exact h
  | f :: fs, cs, B, hm, h => by
    rw [RepS] at h ⊢
    obtain ⟨c1, c2, B1, B2, e, eb, h1, h2⟩ := h
    exact ⟨c1, c2, B1, B2, e, eb, Rep.mv (hm.sub (by rw [eb]; exact fun k hk => List.mem_append_left _ hk)) h1, RepS.mv (hm.sub (by rw [eb]; exact fun k hk => List.mem_append_right _ hk)) h2⟩
theorem RepA.mv {w : World} {E : Nat → Nat} {w' : World} {E' : Nat → Nat} {sz : Nat} {ad : Addr} : ∀ {xs : List T} {o : Nat}, Mv w E w' E' [] → RepA w E sz ad o xs → RepA w' E' sz ad o xs
  | [], o, hm, h => by rw [RepA]; trivial
  | x :: xs, o, hm, h => by
    rw [RepA] at h ⊢
    obtain ⟨⟨he, cs, hl, hc, hr⟩, h2⟩ := h
    refine ⟨⟨?_, cs, hl, fun j u hj => ?_, Rep.mv hm hr⟩, RepA.mv hm h2⟩
    · by_cases hz : sz = 0
      · subst hz
        by_cases ho : ad.off + o = 0
        · omega
        · have := (hm.pub ad.block (ad.off + o - 1) (by omega)).1; omega
      · have := (hm.pub ad.block (ad.off + o + sz - 1) (by omega)).1; omega
    · have hj2 := (List.getElem?_eq_some_iff.1 hj).1
      exact hm.cell (hc j u hj) (by rw [add_block, add_off]; omega)
end
mutual
theorem Rep.sh {w : World} {E : Nat → Nat} : ∀ {x : T} {cs : List Value} {B : List Nat}, Rep w E x cs B → Rep w E x.sh cs []
  | .v x, cs, B, h => by rw [Rep] at h; rw [T.sh, Rep]; exact ⟨h.1, h.2.1, rfl⟩
  | .st fs, cs, B, h => by rw [Rep] at h; rw [T.sh, Rep]; exact RepS.sh h
  | .sl own sz xs, cs, B, h => by
    rw [Rep] at h
    rw [T.sh, Rep]
    obtain ⟨A, c, e, hl, hz, h⟩ := h
    refine ⟨A, c, e, hl, hz, ?_⟩
    cases A with
    | none => exact ⟨h.1, h.2.1, rfl⟩
    | some ad => exact ⟨h.1, false, ⟨fun h => (by cases h), fun h => (by cases h)⟩, rfl, fun h => by cases h⟩
theorem RepS.sh {w : World} {E : Nat → Nat} : ∀ {fs : List T} {cs : List Value} {B : List Nat}, RepS w E fs cs B → RepS w E (shs fs) cs []
  | [], cs, B, h => by rw [RepS] at h; rw [shs, RepS]; exact ⟨h.1, rfl⟩
  | f :: fs, cs, B, h => by
    rw [RepS] at h
    rw [shs, RepS]
    obtain ⟨c1, c2, B1, B2, e, eb, h1, h2⟩ := h
    exact ⟨c1, c2, [], [], e, rfl, Rep.sh h1, RepS.sh h2⟩
end
/-- They lie where they lay, in blocks that no token and no variable leads to. -/
def GlOk [Glob] (w : World) (Ba M : List Nat) : Prop := ∀ g x, Glob.gl g = some x → (g < w.heap.size ∧ g ∉ Ba ∧ g ∉ M) ∧ ∃ cs, (∀ w' E', Rep w' E' x cs []) ∧ ∀ j u, cs[j]? = some u → w.cell? ⟨g, j, none⟩ = some u
end Go.Proofs.YtgkfjhfehdefaaaGreatDoor.Flat

namespace Go.Proofs.YtgkfjhfehdefaaaGreatDoor.Flat
set_option linter.unusedVariables false
set_option linter.unusedSimpArgs false
set_option linter.unusedSectionVars false
variable [Glob]

/-- A temporary's value: a tree, several, a place in a variable in memory (the temporary that it was made by, at which time; its path, its offset), a place that is only read (of a tree, of a function value), a function value with what it captures, a variable that is handed over; not known; none. -/
inductive AV where
  | t (x : T)
  | tup (xs : List T)
  | ptr (b g : Nat) (p : List Nat) (o : Nat)
  | ref (x : T)
  | fref (f : FuncId) (caps : List AV)
  | fn (f : FuncId) (caps : List AV)
  | io (x : AV)
  | un
  | nd
instance : Inhabited AV := ⟨.un⟩
inductive Loc where
  | tm (i : Nat)
  | bx (i : Nat)
deriving DecidableEq
/-- og: of what place the value is a copy, and which of its states; ver: the state; gen: how often the variable was made anew. -/
structure Cell where
  val : AV
  og : Option (Loc × List Nat × Nat)
  ver : Nat
  gen : Nat
instance : Inhabited Cell := ⟨⟨.un, none, 0, 0⟩⟩
structure St where
  tm : List Cell
  bx : List Cell
def St.get (s : St) : Loc → Option Cell
  | .tm i => s.tm[i]?
  | .bx i => s.bx[i]?
def St.put (s : St) : Loc → Cell → St
  | .tm i, c => { s with tm := s.tm.set i c }
  | .bx i, c => { s with bx := s.bx.set i c }
/-- What a call begins with: the world, what is published, the blocks of the tokens that are handed over, and of the variables; where the variables that were handed over lie, by their numbers. -/
structure Ent where
  w : World
  E : Nat → Nat
  Ba : List Nat
  M : List Nat
  fx : Nat → Option Nat
  gok : GlOk w Ba M
/-- Blocks that stay as they are. -/
def Ent.F (e : Ent) (k : Nat) : Prop := k < e.w.heap.size ∧ k ∉ e.Ba ∧ k ∉ e.M
/-- Where the variables lie: by the temporary that made them, and the time; the time that each was made last. -/
structure Bm where
  m : Nat → Nat → Nat
  G : Nat → Nat
instance : CoeFun Bm fun _ => Nat → Nat → Nat := ⟨Bm.m⟩
def valOf : T → List Value → Value
  | .st _, cs => .agg cs.toArray
  | _, cs => cs.headD undef
def RepT (w : World) (E : Nat → Nat) (x : T) (v : Value) (B : List Nat) : Prop := ∃ cs, Rep w E x cs B ∧ v = valOf x cs
def RepTs (w : World) (E : Nat → Nat) : List T → List Value → List Nat → Prop
  | [], vs, B => vs = [] ∧ B = []
  | x :: xs, vs, B => ∃ v vr B1 B2, vs = v :: vr ∧ B = B1 ++ B2 ∧ RepT w E x v B1 ∧ RepTs w E xs vr B2
/-- A place that is only read. -/
def Stable (E : Nat → Nat) (F : Nat → Prop) (ad : Addr) (n : Nat) : Prop := ad.off + n ≤ E ad.block ∨ F ad.block
def PlaceT (w : World) (E : Nat → Nat) (F : Nat → Prop) (x : T) (ad : Addr) : Prop :=
  ∃ cs, Rep w E x cs [] ∧ Stable E F ad cs.length ∧ ∀ j u, cs[j]? = some u → w.cell? (ad.add j) = some u
mutual
def RepV (w : World) (E : Nat → Nat) (F : Nat → Prop) (β : Bm) : AV → Value → List Nat → Prop
  | .t x, v, B => RepT w E x v B
  | .tup xs, v, B => ∃ vs, v = .tuple vs.toArray ∧ RepTs w E xs vs B
  | .ptr b g p o, v, B => v = .pointer (some ⟨β b g, o, none⟩) ∧ B = [] ∧ g ≤ β.G b
  | .ref x, v, B => B = [] ∧ ∃ ad, v = .pointer (some ad) ∧ PlaceT w E F x ad
  | .fref f caps, v, B => B = [] ∧ ∃ ad cv, v = .pointer (some ad) ∧ Stable E F ad 1 ∧ w.cell? ad = some (.func (.func f) #[] cv.toArray) ∧ RepVs w E F β caps cv
  | .fn f caps, v, B => B = [] ∧ ∃ cv, v = .func (.func f) #[] cv.toArray ∧ RepVs w E F β caps cv
  | .io _, v, B => False
  | .un, v, B => B = []
  | .nd, v, B => v = undef ∧ B = []
def RepVs (w : World) (E : Nat → Nat) (F : Nat → Prop) (β : Bm) : List AV → List Value → Prop
  | [], vs => vs = []
  | x :: xs, vs => ∃ v vr, vs = v :: vr ∧ RepV w E F β x v [] ∧ RepVs w E F β xs vr
end
/-- A variable's cells. -/
def RepC (w : World) (E : Nat → Nat) (F : Nat → Prop) (β : Bm) : AV → List Value → List Nat → Prop
  | .t x, cs, B => Rep w E x cs B
  | .fn f caps, cs, B => ∃ v, cs = [v] ∧ RepV w E F β (.fn f caps) v B
  | _, _, _ => False
/-- What a stretch of a run does to a world: Ba the tokens' blocks, M the variables'. -/
structure Fr (w : World) (E : Nat → Nat) (w' : World) (E' : Nat → Nat) (Ba M : List Nat) : Prop where
  size : w.heap.size ≤ w'.heap.size
  same : ∀ k, k < w.heap.size → k ∉ Ba → k ∉ M → w'.heap[k]? = w.heap[k]? ∧ E' k = E k
  ba : ∀ k ∈ Ba, k < w.heap.size → E k ≤ E' k ∧ (∀ i, i < E k → w'.cell? ⟨k, i, none⟩ = w.cell? ⟨k, i, none⟩) ∧ ∀ cells ty, w.heap[k]? = some (.cells cells ty (0, 0)) → ∃ cells', w'.heap[k]? = some (.cells cells' ty (0, 0)) ∧ cells'.size = cells.size
  m : ∀ k ∈ M, k < w.heap.size → k ∉ Ba → E k = 0 → E' k = 0 ∧ ∀ cells ty, w.heap[k]? = some (.cells cells ty (0, 0)) → ∃ cells', w'.heap[k]? = some (.cells cells' ty (0, 0)) ∧ cells'.size = cells.size
  ext : w'.os = w.os ∧ w'.tape = w.tape ∧ w'.output = w.output
theorem cell_heap {w w' : World} {k i : Nat} (h : w'.heap[k]? = w.heap[k]?) : w'.cell? ⟨k, i, none⟩ = w.cell? ⟨k, i, none⟩ := by
  unfold World.cell?
  dsimp only
  rw [h]
theorem Fr.refl (w : World) (E : Nat → Nat) (Ba M : List Nat) : Fr w E w E Ba M :=
  ⟨Nat.le_refl _, fun _ _ _ _ => ⟨rfl, rfl⟩, fun _ _ _ => ⟨Nat.le_refl _, fun _ _ => rfl, fun cells ty h => ⟨cells, h, rfl⟩⟩, fun _ _ _ _ h => ⟨h, fun cells ty h => ⟨cells, h, rfl⟩⟩, rfl, rfl, rfl⟩
/-- Published cells and tokens that are none of those that are touched. -/
theorem Fr.mv {w : World} {E : Nat → Nat} {w' : World} {E' : Nat → Nat} {Ba M B : List Nat} (h : Fr w E w' E' Ba M) (hz : ∀ k, w.heap.size ≤ k → E k = 0) (hM : ∀ k ∈ M, E k = 0) (hB : ∀ k ∈ B, k < w.heap.size ∧ k ∉ Ba ∧ k ∉ M) : Mv w E w' E' B := by
  refine ⟨fun k i hi => ?_, fun k hk => ?_⟩
  · have hk : k < w.heap.size := by
      apply Nat.lt_of_not_le
      intro hle
      have := hz k hle
      omega
    by_cases h1 : k ∈ Ba
    · obtain ⟨a, b, _⟩ := h.ba k h1 hk
      exact ⟨by omega, b i hi⟩
    · have h2 : k ∉ M := fun h2 => by have := hM k h2; omega
      obtain ⟨a, b⟩ := h.same k hk h1 h2
      exact ⟨by omega, cell_heap a⟩
  · obtain ⟨h1, h2, h3⟩ := hB k hk
    obtain ⟨a, b⟩ := h.same k h1 h2 h3
    exact ⟨b, fun cells ty hc => ⟨cells, by rw [a]; exact hc, rfl⟩⟩
structure Pres (w : World) (E : Nat → Nat) (w' : World) (E' : Nat → Nat) (F : Nat → Prop) (B : List Nat) : Prop extends Mv w E w' E' B where
  far : ∀ k, F k → w'.heap[k]? = w.heap[k]?
theorem Pres.sub {w : World} {E : Nat → Nat} {w' : World} {E' : Nat → Nat} {F : Nat → Prop} {B B' : List Nat} (h : Pres w E w' E' F B) (hs : ∀ k ∈ B', k ∈ B) : Pres w E w' E' F B' := ⟨h.toMv.sub hs, h.far⟩
theorem RepT.mv {w : World} {E : Nat → Nat} {w' : World} {E' : Nat → Nat} {x : T} {v : Value} {B : List Nat} (hm : Mv w E w' E' B) (h : RepT w E x v B) : RepT w' E' x v B := by
  obtain ⟨cs, h1, h2⟩ := h
  exact ⟨cs, Rep.mv hm h1, h2⟩
theorem RepTs.mv {w : World} {E : Nat → Nat} {w' : World} {E' : Nat → Nat} : ∀ {xs : List T} {vs : List Value} {B : List Nat}, Mv w E w' E' B → RepTs w E xs vs B → RepTs w' E' xs vs B
  | [], vs, B, hm, h => h
  | x :: xs, vs, B, hm, h => by
    obtain ⟨v, vr, B1, B2, e, eb, h1, h2⟩ := h
    exact ⟨v, vr, B1, B2, e, eb, RepT.mv (hm.sub (by rw [eb]; exact fun k hk => List.mem_append_left _ hk)) h1, RepTs.mv (hm.sub (by rw [eb]; exact fun k hk => List.mem_append_right _ hk)) h2⟩
theorem Stable.mv {w : World} {E : Nat → Nat} {w' : World} {E' : Nat → Nat} {F : Nat → Prop} {ad : Addr} {n : Nat} {B : List Nat} (hm : Mv w E w' E' B) (h : Stable E F ad n) : Stable E' F ad n := by
  rcases h with h | h
  · left
    by_cases hz : ad.off + n = 0
    · omega
    · have := (hm.pub ad.block (ad.off + n - 1) (by omega)).1
      omega
  · exact .inr h
theorem Stable.cell {w : World} {E : Nat → Nat} {w' : World} {E' : Nat → Nat} {F : Nat → Prop} {ad : Addr} {n j : Nat} {B : List Nat} {u : Value} (hm : Pres w E w' E' F B) (h : Stable E F ad n) (hj : j < n) (hc : w.cell? (ad.add j) = some u) : w'.cell? (ad.add j) = some u := by
  rcases h with h | h
  · exact hm.toMv.cell hc (by rw [add_block, add_off]; omega)
  · have hs := cell_spot hc
    have e : ad.add j = ⟨(ad.add j).block, (ad.add j).off, none⟩ := by cases hq : ad.add j; rw [hq] at hs; dsimp only at hs; rw [hs]
    rw [e] at hc ⊢
    rw [cell_heap (w := w) (hm.far _ (by rw [add_block]; exact h))]
    exact hc
theorem PlaceT.mv {w : World} {E : Nat → Nat} {w' : World} {E' : Nat → Nat} {F : Nat → Prop} {x : T} {ad : Addr} {B : List Nat} (hm : Pres w E w' E' F B) (h : PlaceT w E F x ad) : PlaceT w' E' F x ad := by
  obtain ⟨cs, h1, h2, h3⟩ := h
  exact ⟨cs, Rep.mv (hm.toMv.sub (by simp)) h1, h2.mv hm.toMv, fun j u hj => h2.cell hm (List.getElem?_eq_some_iff.1 hj).1 (h3 j u hj)⟩
mutual
theorem RepV.mv {w : World} {E : Nat → Nat} {w' : World} {E' : Nat → Nat} {F : Nat → Prop} {β : Bm} : ∀ {x : AV} {v : Value} {B : List Nat}, Pres w E w' E' F B → RepV w E F β x v B → RepV w' E' F β x v B
  | .t x, v, B, hm, h => by rw [RepV] at h ⊢; exact RepT.mv hm.toMv h
  | .tup xs, v, B, hm, h => by
    rw [RepV] at h ⊢
    obtain ⟨vs, e, h⟩ := h
    exact ⟨vs, e, RepTs.mv hm.toMv h⟩
  | .ptr b g p o, v, B, hm, h => by rw [RepV] at h ⊢; exact h
  | .ref x, v, B, hm, h => by
    rw [RepV] at h ⊢
    obtain ⟨hb, ad, e, h⟩ := h
    exact ⟨hb, ad, e, PlaceT.mv hm h⟩
  | .fref f caps, v, B, hm, h => by
    rw [RepV] at h ⊢
    obtain ⟨hb, ad, cv, e, hs, hc, h⟩ := h
    have hc' := hs.cell hm (j := 0) (by decide) (u := .func (.func f) #[] cv.toArray) hc
    exact ⟨hb, ad, cv, e, hs.mv hm.toMv, hc', RepVs.mv (hm.sub (B' := []) (by simp)) h⟩
  | .fn f caps, v, B, hm, h => by
    rw [RepV] at h ⊢
    obtain ⟨hb, cv, e, h⟩ := h
    exact ⟨hb, cv, e, RepVs.mv (hm.sub (B' := []) (by simp)) h⟩
  | .io _, v, B, hm, h => by rw [RepV] at h; exact h.elim
  | .un, v, B, hm, h => by rw [RepV] at h ⊢; exact h
  | .nd, v, B, hm, h => by rw [RepV] at h ⊢; exact h
theorem RepVs.mv {w : World} {E : Nat → Nat} {w' : World} {E' : Nat → Nat} {F : Nat → Prop} {β : Bm} : ∀ {xs : List AV} {vs : List Value}, Pres w E w' E' F [] → RepVs w E F β xs vs → RepVs w' E' F β xs vs
  | [], vs, hm, h => by rw [RepVs] at h ⊢; exact h
  | x :: xs, vs, hm, h => by
    rw [RepVs] at h ⊢
    obtain ⟨v, vr, e, h1, h2⟩ := h
    exact ⟨v, vr, e, RepV.mv hm h1, RepVs.mv hm h2⟩
end
theorem RepC.mv {w : World} {E : Nat → Nat} {w' : World} {E' : Nat → Nat} {F : Nat → Prop} {β : Bm} {x : AV} {cs : List Value} {B : List Nat} (hm : Pres w E w' E' F B) (h : RepC w E F β x cs B) : RepC w' E' F β x cs B := by
  cases x with
  | t x => exact Rep.mv hm.toMv h
  | fn f caps =>
    obtain ⟨v, e, h⟩ := h
    exact ⟨v, e, RepV.mv hm h⟩
  | _ => exact h
end Go.Proofs.YtgkfjhfehdefaaaGreatDoor.Flat

namespace Go.Proofs.YtgkfjhfehdefaaaGreatDoor.Flat
set_option linter.unusedVariables false
set_option linter.unusedSimpArgs false
set_option linter.unusedSectionVars false
variable [Glob]

mutual
/-- Where the part at a path begins. -/
def T.off : List Nat → T → Option Nat
  | [], _ => some 0
  | i :: p, .st fs => offs i p fs
  | _ :: _, _ => none
def offs : Nat → List Nat → List T → Option Nat
  | _, _, [] => none
  | 0, p, f :: _ => f.off p
  | i + 1, p, f :: fs => (offs i p fs).map (f.size + ·)
end
/-- The cells of a place. -/
def cellsAt (w : World) (β : Bm) (a : Act) (s : St) : Loc → List Value
  | .tm i => (a.tmps.getD i undef).cells.toList
  | .bx i => match s.bx[i]? with
    | some c => match w.heap[β i c.gen]? with
      | some (.cells cells _ _) => cells.toList
      | _ => []
    | none => []
def OgOk (w : World) (β : Bm) (a : Act) (s : St) (i : Nat) (l : Loc) (p : List Nat) (n : Nat) : Prop :=
  ∀ d, s.get l = some d → n ≤ d.ver ∧ ∀ x o, d.ver = n → d.val = .t x → x.off p = some o → (cellsAt w β a s l)[o]? = some (a.tmps.getD i undef)
structure Sim (e : Ent) (w : World) (E : Nat → Nat) (β : Bm) (τ : Loc → List Nat) (a : Act) (s : St) : Prop where
  dfr : a.defers = []
  len : a.tmps.size = s.tm.length
  tm : ∀ i c, s.tm[i]? = some c → RepV w E e.F β c.val (a.tmps.getD i undef) (τ (.tm i))
  bx : ∀ i c, s.bx[i]? = some c → c.val ≠ .un → ∃ cells ty, w.heap[β i c.gen]? = some (.cells cells ty (0, 0)) ∧ RepC w E e.F β c.val cells.toList (τ (.bx i)) ∧ E (β i c.gen) = 0 ∧ (e.w.heap.size ≤ β i c.gen ∨ β i c.gen ∈ e.M)
  tok : ∀ l k, k ∈ τ l → k < w.heap.size ∧ (e.w.heap.size ≤ k ∨ k ∈ e.Ba)
  one : ∀ l l' k, k ∈ τ l → k ∈ τ l' → l = l'
  nod : ∀ l, (τ l).Nodup
  tb : ∀ l k i c, k ∈ τ l → s.bx[i]? = some c → c.val ≠ .un → k ≠ β i c.gen
  bb : ∀ i j c d, s.bx[i]? = some c → s.bx[j]? = some d → c.val ≠ .un → d.val ≠ .un → β i c.gen = β j d.gen → i = j
  og : ∀ i c l p n, s.tm[i]? = some c → c.og = some (l, p, n) → OgOk w β a s i l p n
  z : ∀ k, w.heap.size ≤ k → E k = 0
  mz : ∀ k ∈ e.M, E k = 0
  mlt : ∀ k ∈ e.M, k < e.w.heap.size
  blt : ∀ k ∈ e.Ba, k < e.w.heap.size
  dis : ∀ k ∈ e.Ba, k ∉ e.M
  gn : ∀ b c, s.bx[b]? = some c → c.gen = β.G b
  fr : Fr e.w e.E w E e.Ba e.M
  fx : ∀ i k, e.fx i = some k → s.tm.length ≤ i ∧ β i (β.G i) = k
theorem Fr.trans {w0 : World} {E0 : Nat → Nat} {w : World} {E : Nat → Nat} {w' : World} {E' : Nat → Nat} {Ba0 M0 Ba M : List Nat} (h : Fr w0 E0 w E Ba0 M0) (h' : Fr w E w' E' Ba M)
    (hBa : ∀ k ∈ Ba, (w0.heap.size ≤ k ∨ k ∈ Ba0) ∧ k ∉ M0) (hM : ∀ k ∈ M, (w0.heap.size ≤ k ∨ k ∈ M0) ∧ k ∉ Ba0 ∧ E k = 0 ∧ k ∉ Ba) (hd : ∀ k ∈ Ba0, k ∉ M0) : Fr w0 E0 w' E' Ba0 M0 := by
  have lt : ∀ k, k < w0.heap.size → k < w.heap.size := fun k hk => Nat.lt_of_lt_of_le hk h.size
  refine ⟨Nat.le_trans h.size h'.size, fun k hk h1 h2 => ?_, fun k hk hkw => ?_, fun k hk hkw hnb he => ?_, h'.ext.1.trans h.ext.1, h'.ext.2.1.trans h.ext.2.1, h'.ext.2.2.trans h.ext.2.2⟩
  · obtain ⟨a, b⟩ := h.same k hk h1 h2
    obtain ⟨a', b'⟩ := h'.same k (lt k hk) (fun hb => by rcases (hBa k hb).1 with h3 | h3; omega; exact h1 h3) (fun hb => by rcases (hM k hb).1 with h3 | h3; omega; exact h2 h3)
    exact ⟨a'.trans a, b'.trans b⟩
  · obtain ⟨a, b, c⟩ := h.ba k hk hkw
    by_cases h1 : k ∈ Ba
    · obtain ⟨a', b', c'⟩ := h'.ba k h1 (lt k hkw)
      refine ⟨by omega, fun i hi => (b' i (by omega)).trans (b i hi), fun cells ty hc => ?_⟩
      obtain ⟨cells2, hc2, hs2⟩ := c cells ty hc
      obtain ⟨cells3, hc3, hs3⟩ := c' cells2 ty hc2
      exact ⟨cells3, hc3, hs3.trans hs2⟩
    · have h2 : k ∉ M := fun h2 => (hM k h2).2.1 hk
      obtain ⟨a', b'⟩ := h'.same k (lt k hkw) h1 h2
      refine ⟨by omega, fun i hi => (cell_heap a').trans (b i hi), fun cells ty hc => ?_⟩
      obtain ⟨cells2, hc2, hs2⟩ := c cells ty hc
      exact ⟨cells2, by rw [a']; exact hc2, hs2⟩
  · obtain ⟨a, b⟩ := h.m k hk hkw hnb he
    have h1 : k ∉ Ba := fun h1 => (hBa k h1).2 hk
    by_cases h2 : k ∈ M
    · obtain ⟨a', b'⟩ := h'.m k h2 (lt k hkw) h1 a
      refine ⟨a', fun cells ty hc => ?_⟩
      obtain ⟨cells2, hc2, hs2⟩ := b cells ty hc
      obtain ⟨cells3, hc3, hs3⟩ := b' cells2 ty hc2
      exact ⟨cells3, hc3, hs3.trans hs2⟩
    · obtain ⟨a', b'⟩ := h'.same k (lt k hkw) h1 h2
      refine ⟨by rw [b']; exact a, fun cells ty hc => ?_⟩
      obtain ⟨cells2, hc2, hs2⟩ := b cells ty hc
      exact ⟨cells2, by rw [a']; exact hc2, hs2⟩
/-- A variable of the whole program stands where it stood. -/
theorem Sim.glob {e : Ent} {w : World} {E : Nat → Nat} {β : Bm} {τ : Loc → List Nat} {a : Act} {s : St} (h : Sim e w E β τ a s) {g : Nat} {x : T} (hx : Glob.gl g = some x) : e.F g ∧ ∃ cs, (∀ w' E', Rep w' E' x cs []) ∧ ∀ j u, cs[j]? = some u → w.cell? ⟨g, j, none⟩ = some u := by
  obtain ⟨h1, cs, h2, h3⟩ := e.gok g x hx
  exact ⟨h1, cs, h2, fun j u hj => (cell_heap (h.fr.same g h1.1 h1.2.1 h1.2.2).1).trans (h3 j u hj)⟩
/-- The world moves on; tokens and variables that are held stay. -/
theorem Sim.move {e : Ent} {w : World} {E : Nat → Nat} {β : Bm} {τ : Loc → List Nat} {a : Act} {s : St} (h : Sim e w E β τ a s) {w' : World} {E' : Nat → Nat} {Ba M : List Nat} (hf : Fr w E w' E' Ba M) (hz : ∀ k, w'.heap.size ≤ k → E' k = 0)
    (hBa : ∀ k ∈ Ba, k < w.heap.size ∧ (e.w.heap.size ≤ k ∨ k ∈ e.Ba) ∧ k ∉ e.M ∧ (∀ l, k ∉ τ l) ∧ ∀ i c, s.bx[i]? = some c → c.val ≠ .un → k ≠ β i c.gen)
    (hM : ∀ k ∈ M, k < w.heap.size ∧ (e.w.heap.size ≤ k ∨ k ∈ e.M) ∧ k ∉ e.Ba ∧ E k = 0 ∧ k ∉ Ba ∧ (∀ l, k ∉ τ l) ∧ ∀ i c, s.bx[i]? = some c → c.val ≠ .un → k ≠ β i c.gen) : Sim e w' E' β τ a s := by
  have hM0 : ∀ k ∈ M, E k = 0 := fun k hk => (hM k hk).2.2.2.1
  have far : ∀ k, e.F k → w'.heap[k]? = w.heap[k]? := by
    rintro k ⟨h1, h2, h3⟩
    refine (hf.same k (Nat.lt_of_lt_of_le h1 h.fr.size) (fun hk => ?_) (fun hk => ?_)).1
    · rcases (hBa k hk).2.1 with h4 | h4
      · omega
      · exact h2 h4
    · rcases (hM k hk).2.1 with h4 | h4
      · omega
      · exact h3 h4
  have pres : ∀ l, Pres w E w' E' e.F (τ l) := fun l =>
    ⟨hf.mv h.z hM0 (fun k hk => ⟨(h.tok l k hk).1, fun hb => (hBa k hb).2.2.2.1 l hk, fun hb => (hM k hb).2.2.2.2.2.1 l hk⟩), far⟩
  have box : ∀ i c, s.bx[i]? = some c → c.val ≠ .un → w'.heap[β i c.gen]? = w.heap[β i c.gen]? ∧ E' (β i c.gen) = E (β i c.gen) := by
    intro i c hc hv
    obtain ⟨cells, ty, h1, _⟩ := h.bx i c hc hv
    exact hf.same _ (Array.getElem?_eq_some_iff.1 h1).1 (fun hb => (hBa _ hb).2.2.2.2 i c hc hv rfl) (fun hb => (hM _ hb).2.2.2.2.2.2 i c hc hv rfl)
  refine ⟨h.dfr, h.len, fun i c hc => RepV.mv (pres _) (h.tm i c hc), fun i c hc hv => ?_, fun l k hk => ⟨Nat.lt_of_lt_of_le (h.tok l k hk).1 hf.size, (h.tok l k hk).2⟩, h.one, h.nod, h.tb, h.bb, fun i c l p n hc ho => ?_, hz, fun k hk => ?_, h.mlt, h.blt, h.dis, h.gn, ?_, h.fx⟩
  · obtain ⟨cells, ty, h1, h2, h3, h4⟩ := h.bx i c hc hv
    obtain ⟨b1, b2⟩ := box i c hc hv
    exact ⟨cells, ty, by rw [b1]; exact h1, RepC.mv (pres _) h2, by rw [b2]; exact h3, h4⟩
  · intro d hd
    obtain ⟨hle, hq⟩ := h.og i c l p n hc ho d hd
    refine ⟨hle, fun x o hn hx hp => ?_⟩
    have := hq x o hn hx hp
    cases l with
    | tm j => exact this
    | bx j =>
      have hd' : s.bx[j]? = some d := hd
      obtain ⟨b1, _⟩ := box j d hd' (by rw [hx]; exact fun h => by cases h)
      simp only [cellsAt, hd', b1] at this ⊢
      exact this
  · have hkw : k < w.heap.size := Nat.lt_of_lt_of_le (h.mlt k hk) h.fr.size
    by_cases h1 : k ∈ Ba
    · exact absurd hk (hBa k h1).2.2.1
    · by_cases h2 : k ∈ M
      · exact (hf.m k h2 hkw h1 (h.mz k hk)).1
      · rw [(hf.same k hkw h1 h2).2]; exact h.mz k hk
  · exact h.fr.trans hf (fun k hk => ⟨(hBa k hk).2.1, (hBa k hk).2.2.1⟩) (fun k hk => ⟨(hM k hk).2.1, (hM k hk).2.2.1, (hM k hk).2.2.2.1, (hM k hk).2.2.2.2.1⟩) h.dis
theorem put_self (a : Act) (i : Nat) (v : Value) (h : i < a.tmps.size) : (a.put (some i) v).tmps.getD i undef = v := by
  simp [Act.put, h]
theorem put_other (a : Act) (i j : Nat) (v : Value) (h : j ≠ i) : (a.put (some i) v).tmps.getD j undef = a.tmps.getD j undef := by
  simp [Act.put, Array.getElem?_setIfInBounds, Ne.symm h]
theorem St.get_put_tm (s : St) (i : Nat) (c : Cell) (l : Loc) (h : l ≠ .tm i) : (s.put (.tm i) c).get l = s.get l := by
  cases l with
  | tm j =>
    have : i ≠ j := fun e => h (by rw [e])
    simp [St.put, St.get, List.getElem?_set, this]
  | bx j => rfl
theorem St.get_put_bx (s : St) (i : Nat) (c : Cell) (l : Loc) (h : l ≠ .bx i) : (s.put (.bx i) c).get l = s.get l := by
  cases l with
  | bx j =>
    have : i ≠ j := fun e => h (by rw [e])
    simp [St.put, St.get, List.getElem?_set, this]
  | tm j => rfl
theorem St.get_put (s : St) (l : Loc) (c d : Cell) (h : s.get l = some d) : (s.put l c).get l = some c := by
  cases l with
  | tm i =>
    have := (List.getElem?_eq_some_iff.1 h).1
    simp [St.put, St.get, this]
  | bx i =>
    have := (List.getElem?_eq_some_iff.1 h).1
    simp [St.put, St.get, this]
/-- Tokens with those of one place told anew. -/
def upT (τ : Loc → List Nat) (l0 : Loc) (B : List Nat) : Loc → List Nat := fun l => if l = l0 then B else τ l
theorem upT_self (τ : Loc → List Nat) (l0 : Loc) (B : List Nat) : upT τ l0 B l0 = B := if_pos rfl
theorem upT_other (τ : Loc → List Nat) {l0 l : Loc} (B : List Nat) (h : l ≠ l0) : upT τ l0 B l = τ l := if_neg h
/-- A temporary is set. -/
theorem Sim.setT {e : Ent} {w : World} {E : Nat → Nat} {β : Bm} {τ : Loc → List Nat} {a : Act} {s : St} (h : Sim e w E β τ a s) {i : Nat} {c0 : Cell} (hi : s.tm[i]? = some c0) {x : AV} {v : Value} {B : List Nat} (hr : RepV w E e.F β x v B)
    (hB : ∀ k ∈ B, k < w.heap.size ∧ (e.w.heap.size ≤ k ∨ k ∈ e.Ba) ∧ (∀ l, l ≠ .tm i → k ∉ τ l) ∧ ∀ j c, s.bx[j]? = some c → c.val ≠ .un → k ≠ β j c.gen) (hn : B.Nodup)
    (og : Option (Loc × List Nat × Nat)) (hog : ∀ l p n, og = some (l, p, n) → l ≠ .tm i ∧ ∀ d, s.get l = some d → n ≤ d.ver ∧ ∀ x o, d.ver = n → d.val = .t x → x.off p = some o → (cellsAt w β a s l)[o]? = some v) :
    Sim e w E β (upT τ (.tm i) B) (a.put (some i) v) (s.put (.tm i) ⟨x, og, c0.ver + 1, c0.gen⟩) := by
  have hlt : i < s.tm.length := (List.getElem?_eq_some_iff.1 hi).1
  have hla : i < a.tmps.size := by rw [h.len]; exact hlt
  have gt : ∀ j c, (s.put (.tm i) ⟨x, og, c0.ver + 1, c0.gen⟩).tm[j]? = some c → (j = i ∧ c = ⟨x, og, c0.ver + 1, c0.gen⟩) ∨ (j ≠ i ∧ s.tm[j]? = some c) := by
    intro j c hc
    by_cases hj : j = i
    · subst hj
      rw [show (s.put (.tm j) ⟨x, og, c0.ver + 1, c0.gen⟩).tm[j]? = some ⟨x, og, c0.ver + 1, c0.gen⟩ from St.get_put s (.tm j) _ c0 hi] at hc
      exact .inl ⟨rfl, (Option.some.inj hc).symm⟩
    · exact .inr ⟨hj, by rw [← hc]; exact (St.get_put_tm s i _ (.tm j) (fun e => hj (by injection e))).symm⟩
  have cells_other : ∀ l, l ≠ .tm i → cellsAt w β (a.put (some i) v) (s.put (.tm i) ⟨x, og, c0.ver + 1, c0.gen⟩) l = cellsAt w β a s l := by
    intro l hl
    cases l with
    | tm j =>
      show ((a.put (some i) v).tmps.getD j undef).cells.toList = _
      rw [put_other a i j v (fun e => hl (by rw [e]))]
      rfl
    | bx j => rfl
  refine ⟨h.dfr, ?_, fun j c hc => ?_, h.bx, fun l k hk => ?_, fun l l' k hk hk' => ?_, fun l => ?_, fun l k j c hk hc hv => ?_, h.bb, fun j c l p n hc ho => ?_, h.z, h.mz, h.mlt, h.blt, h.dis, h.gn, h.fr, fun i' k hk => by have := h.fx i' k hk; simpa [St.put] using this⟩
  · show (a.tmps.setIfInBounds i v).size = (s.tm.set i _).length
    rw [Array.size_setIfInBounds, List.length_set]
    exact h.len
  · rcases gt j c hc with ⟨rfl, rfl⟩ | ⟨hj, hc'⟩
    · rw [put_self a j v hla, upT_self]
      exact hr
    · rw [put_other a i j v hj, upT_other τ B (fun e => hj (by injection e))]
      exact h.tm j c hc'
  · by_cases hl : l = .tm i
    · subst hl
      rw [upT_self] at hk
      exact ⟨(hB k hk).1, (hB k hk).2.1⟩
    · rw [upT_other τ B hl] at hk
      exact h.tok l k hk
  · by_cases hl : l = .tm i <;> by_cases hl' : l' = .tm i
    · rw [hl, hl']
    · subst hl
      rw [upT_self] at hk
      rw [upT_other τ B hl'] at hk'
      exact absurd hk' ((hB k hk).2.2.1 l' hl')
    · subst hl'
      rw [upT_self] at hk'
      rw [upT_other τ B hl] at hk
      exact absurd hk ((hB k hk').2.2.1 l hl)
    · rw [upT_other τ B hl] at hk
      rw [upT_other τ B hl'] at hk'
      exact h.one l l' k hk hk'
  · by_cases hl : l = .tm i
    · rw [hl, upT_self]; exact hn
    · rw [upT_other τ B hl]; exact h.nod l
  · by_cases hl : l = .tm i
    · subst hl
      rw [upT_self] at hk
      exact (hB k hk).2.2.2 j c hc hv
    · rw [upT_other τ B hl] at hk
      exact h.tb l k j c hk hc hv
  · rcases gt j c hc with ⟨rfl, rfl⟩ | ⟨hj, hc'⟩
    · obtain ⟨h1, h2⟩ := hog l p n ho
      intro d hd
      rw [St.get_put_tm s j _ l h1] at hd
      rw [cells_other l h1, put_self a j v hla]
      exact h2 d hd
    · have hq := h.og j c l p n hc' ho
      intro d hd
      rw [put_other a i j v hj]
      by_cases hl : l = .tm i
      · subst hl
        rw [St.get_put s (.tm i) _ c0 hi] at hd
        have hd' := (Option.some.inj hd).symm
        subst hd'
        obtain ⟨h1, _⟩ := hq c0 hi
        exact ⟨by show n ≤ c0.ver + 1; omega, fun x o hv => by have : c0.ver + 1 = n := hv; omega⟩
      · rw [St.get_put_tm s i _ l hl] at hd
        rw [cells_other l hl]
        exact hq d hd
end Go.Proofs.YtgkfjhfehdefaaaGreatDoor.Flat

namespace Go.Proofs.YtgkfjhfehdefaaaGreatDoor.Flat
set_option linter.unusedVariables false
set_option linter.unusedSimpArgs false
set_option linter.unusedSectionVars false
variable [Glob]

/-- A run that asks nothing of the world. -/
def ev {α : Type} (P : Program) : Sem α → Option α
  | .pure a => some a
  | .program k => ev P (k P)
  | _ => none
theorem ev_run {α : Type} {P : Program} : ∀ {m : Sem α} {a : α}, ev P m = some a → ∀ w, m.run P w = .ok a w
  | .pure b, a, h, w => by rw [ev] at h; cases h; rfl
  | .program k, a, h, w => by rw [ev] at h; exact ev_run h w
  | .load .., _, h, _ => by simp [ev] at h
  | .store .., _, h, _ => by simp [ev] at h
  | .new .., _, h, _ => by simp [ev] at h
  | .shape .., _, h, _ => by simp [ev] at h
  | .freeze .., _, h, _ => by simp [ev] at h
  | .frozen .., _, h, _ => by simp [ev] at h
  | .getObj .., _, h, _ => by simp [ev] at h
  | .setObj .., _, h, _ => by simp [ev] at h
  | .choose .., _, h, _ => by simp [ev] at h
  | .sys .., _, h, _ => by simp [ev] at h
  | .mark .., _, h, _ => by simp [ev] at h
  | .halt .., _, h, _ => by simp [ev] at h
/-- What an operation does to a frame; what places it reads, and writes. -/
def M (α : Type) := St → Option (α × St × List Loc × List Loc)
namespace M
def pure {α : Type} (a : α) : M α := fun s => some (a, s, [], [])
def bind {α β : Type} (m : M α) (f : α → M β) : M β := fun s =>
  match m s with
  | none => none
  | some (a, s1, r, w) => match f a s1 with
    | none => none
    | some (b, s2, r', w') => some (b, s2, r ++ r', w ++ w')
def fail {α : Type} : M α := fun _ => none
def get (l : Loc) : M Cell := fun s => (s.get l).map (·, s, [l], [])
def put (l : Loc) (c : Cell) : M Unit := fun s => (s.get l).map fun _ => ((), s.put l c, [], [l])
def lift {α : Type} (o : Option α) : M α := fun s => o.map (·, s, [], [])
def when (b : Bool) : M Unit := fun s => if b = true then some ((), s, [], []) else none
end M
instance : Monad M where
  pure := M.pure
  bind := M.bind
mutual
def T.at : List Nat → T → Option T
  | [], x => some x
  | i :: p, .st fs => ats i p fs
  | _ :: _, _ => none
def ats : Nat → List Nat → List T → Option T
  | _, _, [] => none
  | 0, p, f :: _ => f.at p
  | i + 1, p, _ :: fs => ats i p fs
end
mutual
def T.put : List Nat → T → T → Option T
  | [], _, y => some y
  | i :: p, .st fs, y => (puts i p fs y).map .st
  | _ :: _, _, _ => none
def puts : Nat → List Nat → List T → T → Option (List T)
  | _, _, [], _ => none
  | 0, p, f :: fs, y => (f.put p y).map (· :: fs)
  | i + 1, p, f :: fs, y => (puts i p fs y).map (f :: ·)
end
mutual
/-- The cells of a tree without rows. -/
def T.flat : T → Option (List Value)
  | .v x => some [x]
  | .st fs => flats fs
  | .sl _ _ _ => none
def flats : List T → Option (List Value)
  | [] => some []
  | f :: fs => match f.flat, flats fs with
    | some a, some b => some (a ++ b)
    | _, _ => none
end
def AV.cp : AV → AV
  | .t x => .t x.sh
  | .tup xs => .tup (shs xs)
  | x => x
/-- A value of a type, out of its cells; what is left of them. -/
def ofVals (g : TypeId → List Value → Option (T × List Value)) : List TypeId → List Value → Option (List T × List Value)
  | [], cs => some ([], cs)
  | t :: ts, cs => match g t cs with
    | none => none
    | some (x, r) => match ofVals g ts r with
      | none => none
      | some (xs, r') => some (x :: xs, r')
def ofVal (P : Program) : Nat → TypeId → List Value → Option (T × List Value)
  | 0, _, _ => none
  | n + 1, t, cs => match P.underlying t with
    | some (.struct fields) => (ofVals (ofVal P n) (fields.toList.map (·.type)) cs).map fun p => (.st p.1, p.2)
    | some (.array len e) => (ofVals (ofVal P n) (List.replicate len e) cs).map fun p => (.st p.1, p.2)
    | some (.slice e) => match cs, P.info? e with
      | .slice none 0 0 :: r, some i => if 0 < i.size then some (.sl true i.size [], r) else none
      | _, _ => none
    | some _ => match cs with
      | x :: r => if okv x = true then some (.v x, r) else none
      | [] => none
    | none => none
def constT (P : Program) (t : TypeId) (v : Value) : Option T :=
  if okv v = true then some (.v v) else match ofVal P 9 t v.cells.toList with
    | some (x, []) => (match x, v with
      | .st _, .agg _ => some x
      | .sl .., .slice .. => some x
      | _, _ => none)
    | _ => none
def zeroT (P : Program) (t : TypeId) : Option T := match P.info? t with
  | some i => match i.zero with
    | some z => constT P t z
    | none => none
  | none => none
def sizeT (P : Program) (t : TypeId) : Option Nat := (P.info? t).map (·.size)
/-- Is a tree of a type's form, as far as a load sees it? -/
def fits (P : Program) (t : TypeId) (x : T) : Bool :=
  sizeT P t == some x.size && (match P.underlying t, x with
    | some (.struct _), .st _ | some (.array _ _), .st _ => true
    | some (.struct _), _ | some (.array _ _), _ => false
    | some _, .st _ => false
    | some _, _ => true
    | none, _ => false)
/-- Are all parts of such a form? -/
def fitsAll (P : Program) (el : TypeId) (fs : List T) : Bool := fs.all fun y => fits P el y
def arrOf (P : Program) (t : TypeId) : Option (Nat × TypeId) := match P.underlying t with
  | some (.array len el) => some (len, el)
  | _ => none
def fnT (P : Program) (t : TypeId) : Bool := match P.underlying t with
  | some (.func ..) => true
  | _ => false
mutual
/-- The variables that a value leads to, and their times. -/
def AV.ptrs : AV → List (Nat × Nat)
  | .ptr b g _ _ => [(b, g)]
  | .fref _ cs | .fn _ cs => ptrss cs
  | _ => []
def ptrss : List AV → List (Nat × Nat)
  | [] => []
  | x :: xs => x.ptrs ++ ptrss xs
end
mutual
/-- With its variables told by other numbers. -/
def AV.ren (ρ : Nat → Nat) : AV → AV
  | .ptr b _ p o => .ptr (ρ b) 0 p o
  | .fref f cs => .fref f (rens ρ cs)
  | .fn f cs => .fn f (rens ρ cs)
  | x => x
def rens (ρ : Nat → Nat) : List AV → List AV
  | [] => []
  | x :: xs => x.ren ρ :: rens ρ xs
end
def AV.handed : AV → Bool
  | .t _ | .ref _ | .fref _ _ | .fn _ _ | .ptr _ _ _ _ => true
  | _ => false
def AV.plain : AV → Bool
  | .t _ | .tup _ => true
  | _ => false
def uniq : List Nat → List Nat
  | [] => []
  | b :: bs => if b ∈ uniq bs then uniq bs else b :: uniq bs
def posOf : List Nat → Nat → Nat
  | [], _ => 0
  | c :: cs, b => if b = c then 0 else posOf cs b + 1
structure Env where
  P : Program
  call : FuncId → List AV → List AV → Option (AV × List AV)
  own : FuncId → Nat → Bool
  fin : List Loc
  keep : Nat → Option (List Nat × List Nat)
section
variable (e : Env)
/-- An operand's value, copied. -/
def rdO (t : TypeId) : Operand → M AV
  | .tmp i => do
    let c ← M.get (.tm i)
    match c.val with
    | .un | .nd => M.fail
    | x => M.pure x.cp
  | .const v => M.lift ((constT e.P t v).map .t)
  | .func f => M.pure (.fn f [])
  | .global _ => M.fail
def rdV (x : Operand) : M Value := do
  match x with
  | .const v => if okv v = true then M.pure v else M.fail
  | .tmp i => do
    let c ← M.get (.tm i)
    match c.val with
    | .t (.v u) => M.pure u
    | _ => M.fail
  | _ => M.fail
def rdI (x : Operand) : M Int := do
  match (← rdV x) with
  | .int _ n => M.pure n
  | _ => M.fail
/-- Of what place a temporary's value is a copy. -/
def ogOf (i : Nat) (c : Cell) : Option (Loc × List Nat × Nat) := match c.val with
  | .t (.sl true _ _) => some (.tm i, [], c.ver)
  | .t (.sl false _ _) => (match c.og with
    | some g => some g
    | none => some (.tm i, [], c.ver))
  | _ => none
/-- A row's token, out of the temporary itself or of the place that it is a copy of: that place is left without it. -/
def takeO (i : Nat) : M AV := do
  let c ← M.get (.tm i)
  match c.val with
  | .t (.sl true sz xs) => do
    M.put (.tm i) { c with val := .t (.sl false sz xs) }
    M.pure (.t (.sl true sz xs))
  | .t (.sl false sz xs) => match c.og with
    | some (l, p, n) => do
      let d ← M.get l
      if d.ver == n then
        match d.val with
        | .t y => match y.at p with
          | some (.sl true sz' ys) => match y.put p (.sl false sz' ys) with
            | some y' => if sz' == sz then (do
                M.put l { d with val := .t y' }
                M.pure (.t (.sl true sz xs))) else M.fail
            | none => M.fail
          | _ => M.fail
        | _ => M.fail
      else M.fail
    | none => M.fail
  | _ => M.fail
/-- An operand's value with its tokens, if it is a temporary's: they leave it. -/
def mvO (t : TypeId) : Operand → M AV
  | .tmp i => do
    let c ← M.get (.tm i)
    match c.val with
    | .un | .nd => M.fail
    | x => do
      M.put (.tm i) { c with val := x.cp }
      M.pure x
  | x => rdO e t x
/-- An operand's value; a tuple's tokens go with it. -/
def mvTup (t : TypeId) : Operand → M AV
  | .tmp i => do
    let c ← M.get (.tm i)
    match c.val with
    | .tup _ => mvO e t (.tmp i)
    | _ => rdO e t (.tmp i)
  | x => rdO e t x
/-- Where a result is set: the token that its home holds, too. -/
def mvFin (b : Bool) (t : TypeId) (x : Operand) : M AV :=
  match b, x with
  | true, .tmp i => do
    let c ← M.get (.tm i)
    match c.val, c.og with
    | .t (.sl false _ _), some (l, p, n) => do
      let d ← M.get l
      match d.val with
      | .t y => (match y.at p with
        | some (.sl true _ _) => if d.ver == n then takeO i else mvO e t x
        | _ => mvO e t x)
      | _ => mvO e t x
    | _, _ => mvO e t x
  | _, x => mvO e t x
/-- The destination is set. -/
def wr (dst : Option Nat) (x : AV) (og : Option (Loc × List Nat × Nat)) : M Unit := match dst with
  | none => M.pure ()
  | some d => do
    let c ← M.get (.tm d)
    M.put (.tm d) ⟨x, (match og with | some (.tm j, p, n) => if j == d then none else some (.tm j, p, n) | g => g), c.ver + 1, c.gen⟩
/-- A place: in a variable (its number, path, offset; its cell), or one that is only read. -/
inductive Pl where
  | vr (b : Nat) (p : List Nat) (o : Nat) (c : Cell)
  | rf (x : T)
  | ff (f : FuncId) (caps : List AV)
def rdP : Operand → M Pl
  | .tmp i => do
    let c ← M.get (.tm i)
    match c.val with
    | .ptr b g p o => do
      let d ← M.get (.bx b)
      if d.gen == g then M.pure (.vr b p o d) else M.fail
    | .ref x => M.pure (.rf x)
    | .fref f caps => M.pure (.ff f caps)
    | _ => M.fail
  | _ => M.fail
def fieldOf (t : TypeId) (f : Nat) : Option (TypeId × Nat) := match e.P.underlying t with
  | some (.struct fs) => (match fs[f]? with
    | some d => (match sizeT e.P d.type with
      | some n => if 0 < n then some (d.type, d.offset) else none
      | none => none)
    | none => none)
  | _ => none
def elemOf (t : TypeId) : Option (TypeId × Nat) := match e.P.underlying t with
  | some (.slice el) => (sizeT e.P el).map fun n => (el, n)
  | _ => none
/-- What a function value captures, as its callee sees it: a variable that the callee does not change becomes a place that is read; the variables that were made so. -/
def seal1 (wri : Bool) : AV → M (AV × List Nat)
  | .ptr b g p o => if wri = true then M.pure (.ptr b g p o, []) else do
    let d ← M.get (.bx b)
    if d.gen == g then
      match p, o, d.val with
      | [], 0, .t x => M.pure (.ref x.sh, [b])
      | [], 0, .fn f caps => M.pure (.fref f caps, [b])
      | _, _, _ => M.fail
    else M.fail
  | x => M.pure (x, [])
def seals (h : FuncId) : Nat → List AV → M (List AV × List Nat)
  | _, [] => M.pure ([], [])
  | i, x :: xs => do
    let (y, b1) ← seal1 (e.own h (1000 + i)) x
    let (ys, b2) ← seals h (i + 1) xs
    M.pure (y :: ys, b1 ++ b2)
/-- A call's argument; the variables that became places that are read. -/
def rdArg (f : FuncId) (i : Nat) (x : Operand) (t : TypeId) : M (AV × List Nat) := match x with
  | .tmp j => do
    let c ← M.get (.tm j)
    match c.val with
    | .fn h caps => do
      let (cs, b) ← seals e h 0 caps
      M.pure (AV.fn h cs, b)
    | _ => if e.own f i = true then (do
        let y ← takeO j
        M.pure (y, [])) else (do
        let y ← rdO e t x
        M.pure (y, []))
  | x => do
    let y ← rdO e t x
    M.pure (y, [])
def rdArgs (f : FuncId) : Nat → List (Operand × TypeId) → M (List AV × List Nat)
  | _, [] => M.pure ([], [])
  | i, (x, t) :: r => do
    let (y, b1) ← rdArg e f i x t
    let (ys, b2) ← rdArgs f (i + 1) r
    M.pure (y :: ys, b1 ++ b2)
/-- Variables are handed over: what they hold. -/
def handOver (ps : List (Nat × Nat)) : List Nat → M (List AV)
  | [] => M.pure []
  | b :: bs => do
    let d ← M.get (.bx b)
    M.when (ps.all fun q => q.1 != b || q.2 == d.gen)
    match d.val with
    | .t x => do
      M.put (.bx b) { d with val := .un }
      let ys ← handOver ps bs
      M.pure (AV.t x :: ys)
    | _ => M.fail
/-- What the variables that were handed over are now. -/
def wrBack : List Nat → List AV → M Unit
  | [], [] => M.pure ()
  | b :: bs, .t x :: xs => do
    let d ← M.get (.bx b)
    M.put (.bx b) { d with val := .t x, ver := d.ver + 1 }
    wrBack bs xs
  | _, _ => M.fail
/-- Variables that are still held. -/
def held : List Nat → M Unit
  | [] => M.pure ()
  | b :: bs => do
    let d ← M.get (.bx b)
    match d.val with
    | .un => M.fail
    | _ => held bs
def goCall (o : Oper) (f : FuncId) (xs : List (Operand × TypeId)) (more : List AV) (sb0 : List Nat) : M Unit := do
  let (ys, sb) ← rdArgs e f 0 xs
  let zs := ys ++ more
  M.when (zs.all AV.handed)
  let ps := ptrss zs
  let bs := uniq (ps.map (·.1))
  let fb ← handOver ps bs
  held (sb0 ++ sb)
  let (r, outs) ← M.lift (e.call f (rens (posOf bs) zs) fb)
  M.when r.plain
  wrBack bs outs
  wr o.dst r none
/-- A struct's parts, laid into its zero. -/
def buildParts (ts : List TypeId) : List (Nat × Operand) → List T → M (List T)
  | [], fs => M.pure fs
  | (i, x) :: r, fs => do
    let t ← M.lift ts[i]?
    let old ← M.lift fs[i]?
    let y ← mvO e t x
    match y with
    | .t y => do
      M.when (y.size == old.size)
      buildParts ts r (fs.set i y)
    | _ => M.fail
def buildElems (t : TypeId) : List (Nat × Operand) → List T → M (List T)
  | [], fs => M.pure fs
  | (i, x) :: r, fs => do
    let old ← M.lift fs[i]?
    let y ← rdO e t x
    match y with
    | .t y => do
      M.when (y.size == old.size)
      buildElems t r (fs.set i y.sh)
    | _ => M.fail
/-- Do a struct's fields lie as the tree's parts do? -/
def placesOk (P : Program) : List Field → List T → Nat → Bool
  | [], [], _ => true
  | f :: fs, z :: zs, o => f.offset == o && sizeT P f.type == some z.size && placesOk P fs zs (o + z.size)
  | _, _, _ => false
def rdVs : List Operand → M (List Value)
  | [] => M.pure []
  | x :: xs => do
    let v ← rdV x
    let vs ← rdVs xs
    M.pure (v :: vs)
/-- What a function value captures: places. -/
def rdCap : Operand → M AV
  | .tmp j => do
    let c ← M.get (.tm j)
    match c.val with
    | .ptr b g p q => M.pure (AV.ptr b g p q)
    | .ref x => M.pure (AV.ref x)
    | .fref f caps => M.pure (AV.fref f caps)
    | _ => M.fail
  | _ => M.fail
def rdCaps : List Operand → M (List AV)
  | [] => M.pure []
  | x :: xs => do
    let v ← rdCap x
    let vs ← rdCaps xs
    M.pure (v :: vs)
def isSl : T → Bool
  | .sl .. => true
  | _ => false
/-- An element of an array that is only read. -/
def idxRef (el : TypeId) (len : Nat) (dst : Option Nat) (fs : List T) (i : Int) : M Unit := do
  M.when (fitsAll e.P el fs && decide (0 ≤ i ∧ i < (len : Int)))
  let y ← M.lift fs[i.toNat]?
  wr dst (.ref y) none
/-- What one operation reads, and what it writes. -/
def fire (o : Oper) : M Unit := match o.op with
  | .move x => do
    let y ← mvTup e o.type x
    let og ← (match x with
      | .tmp j => do
        let c ← M.get (.tm j)
        M.pure (ogOf j c)
      | _ => M.pure none)
    wr o.dst y og
  | .assign x => do
    let y ← mvFin e (match o.dst with | some d => decide (Loc.tm d ∈ e.fin) | none => false) o.type x
    wr o.dst y none
  | .pick c a b => do
    match (← rdV c) with
    | .bool q => do
      let y ← rdO e o.type (if q = true then a else b)
      wr o.dst y none
    | _ => M.fail
  | .alloc t => do
    let z ← M.lift (zeroT e.P t)
    match o.dst with
    | some d => do
      let c ← M.get (.bx d)
      M.put (.bx d) ⟨.t z, none, c.ver + 1, c.gen + 1⟩
      wr o.dst (.ptr d (c.gen + 1) [] 0) none
    | none => M.fail
  | .box t x => do
    let y ← mvO e t x
    match o.dst, y with
    | some d, .t y => do
      M.when (fits e.P t y)
      let c ← M.get (.bx d)
      M.put (.bx d) ⟨.t y, none, c.ver + 1, c.gen + 1⟩
      wr o.dst (.ptr d (c.gen + 1) [] 0) none
    | some d, .fn f caps => do
      let c ← M.get (.bx d)
      M.put (.bx d) ⟨.fn f caps, none, c.ver + 1, c.gen + 1⟩
      wr o.dst (.ptr d (c.gen + 1) [] 0) none
    | _, _ => M.fail
  | .load t a => do
    match (← rdP a) with
    | .vr b p off c => (match c.val with
      | .t x => (match x.at p, x.off p with
        | some y, some q => do
          M.when (q == off && fits e.P t y)
          wr o.dst (.t y.sh) (if isSl y = true then some (.bx b, p, c.ver) else none)
        | _, _ => M.fail)
      | .fn f caps => (match p, off with
        | [], 0 => do
          M.when (fnT e.P t)
          wr o.dst (.fn f caps) none
        | _, _ => M.fail)
      | _ => M.fail)
    | .rf x => do
      M.when (fits e.P t x)
      wr o.dst (.t x.sh) none
    | .ff f caps => do
      M.when (fnT e.P t)
      wr o.dst (.fn f caps) none
  | .store t a x => do
    match (← rdP a) with
    | .vr b p off _ => do
      let y ← mvFin e (decide (Loc.bx b ∈ e.fin)) t x
      let c ← M.get (.bx b)
      match c.val, y with
      | .t old, .t y => (match old.at p, old.off p, old.put p y with
        | some y0, some q, some new => do
          M.when (q == off && fits e.P t y0 && y.size == y0.size)
          M.put (.bx b) { c with val := .t new, ver := c.ver + 1 }
          wr o.dst .nd none
        | _, _, _ => M.fail)
      | _, _ => M.fail
    | _ => M.fail
  | .fieldAddr t x f => do
    let (ft, q) ← M.lift (fieldOf e t f)
    match x with
    | .tmp i => do
      let c ← M.get (.tm i)
      match c.val with
      | .ptr b g p off => wr o.dst (.ptr b g (p ++ [f]) (off + q)) none
      | .ref (.st fs) => (match fs[f]? with
        | some y => do
          M.when (sizes (fs.take f) == q)
          wr o.dst (.ref y) none
        | none => M.fail)
      | _ => M.fail
    | _ => M.fail
  | .field t x f => do
    let (ft, q) ← M.lift (fieldOf e t f)
    match (← rdO e t x) with
    | .t (.st fs) => (match fs[f]? with
      | some y => do
        M.when (sizes (fs.take f) == q && fits e.P ft y)
        wr o.dst (.t y) none
      | none => M.fail)
    | _ => M.fail
  | .indexAddr t x ix => (match arrOf e.P t with
    | some (len, el) => do
      let i ← rdI ix
      let n ← M.lift (sizeT e.P el)
      match x with
      | .tmp j => do
        let c ← M.get (.tm j)
        match c.val with
        | .ptr b g p off => do
          M.when (decide (0 ≤ i ∧ i < (len : Int)))
          wr o.dst (.ptr b g (p ++ [i.toNat]) (off + i.toNat * n)) none
        | .ref (.st fs) => idxRef e el len o.dst fs i
        | _ => M.fail
      | .global g => (match Glob.gl g with
        | some (.st fs) => idxRef e el len o.dst fs i
        | _ => M.fail)
      | _ => M.fail
    | none => do
      let i ← rdI ix
      let (el, n) ← M.lift (elemOf e t)
      match (← rdO e t x) with
      | .t (.sl _ sz xs) => do
        M.when (sz == n && decide (0 ≤ i))
        let y ← M.lift xs[i.toNat]?
        wr o.dst (.ref y) none
      | _ => M.fail)
  | .index t x ix => (match arrOf e.P t with
    | some (len, el) => do
      let i ← rdI ix
      match (← rdO e t x) with
      | .t (.st fs) => do
        M.when (fitsAll e.P el fs && decide (0 ≤ i ∧ i < (len : Int)))
        let y ← M.lift fs[i.toNat]?
        wr o.dst (.t y) none
      | _ => M.fail
    | none => do
      let i ← rdV ix
      let s ← rdV x
      let v ← M.lift (ev e.P (Instr.index t s i))
      M.when (okv v)
      wr o.dst (.t (.v v)) none)
  | .binOp op t x y _ => do
    let a ← rdV x
    let b ← rdV y
    let v ← M.lift (ev e.P (do eqGuard op t x y a b; binOp op t a b))
    M.when (okv v)
    wr o.dst (.t (.v v)) none
  | .nilCheck x => (match x with
    | .tmp i => do
      let c ← M.get (.tm i)
      match c.val with
      | .ptr b g p q => wr o.dst (.ptr b g p q) none
      | .ref y => wr o.dst (.ref y) none
      | .fn f caps => wr o.dst (.fn f caps) none
      | _ => M.fail
    | _ => M.fail)
  | .unOp op _ x => do
    let a ← rdV x
    let v ← M.lift (ev e.P (Op.unary op a))
    M.when (okv v)
    wr o.dst (.t (.v v)) none
  | .convert src dst x => do
    let a ← rdV x
    let v ← M.lift (ev e.P (convert src dst a))
    M.when (okv v)
    wr o.dst (.t (.v v)) none
  | .build t parts => do
    match e.P.underlying t, zeroT e.P t with
    | some (.struct fs), some (.st zs) => do
      M.when (placesOk e.P fs.toList zs 0)
      let ys ← buildParts e (fs.toList.map (·.type)) parts.toList zs
      wr o.dst (.t (.st ys)) none
    | some (.array _ el), some (.st zs) => do
      let n ← M.lift (sizeT e.P el)
      M.when (zs.all fun z => z.size == n)
      let ys ← buildParts e (List.replicate zs.length el) parts.toList zs
      wr o.dst (.t (.st ys)) none
    | _, _ => M.fail
  | .buildSlice t len parts => do
    let (el, n) ← M.lift (elemOf e t)
    let z ← M.lift (zeroT e.P el)
    M.when (decide (0 < n) && decide (len * n ≤ 16777216) && z.size == n)
    let ys ← buildElems e el parts.toList (List.replicate len z.sh)
    wr o.dst (.t (.sl true n ys)) none
  | .slice t x lo hi none => do
    let y ← rdO e t x
    match y with
    | .t (.sl _ sz xs) => do
      let (el, n) ← M.lift (elemOf e t)
      let l ← (match lo with | some v => rdI v | none => M.pure 0)
      let h ← (match hi with | some v => rdI v | none => M.pure (xs.length : Int))
      M.when (sz == n && decide (0 ≤ l ∧ l ≤ h ∧ h ≤ (xs.length : Int)))
      wr o.dst (.t (.sl false sz ((xs.take h.toNat).drop l.toNat))) none
    | .t (.v s) => do
      let l ← (match lo with | some v => (rdV v) >>= fun u => M.pure (some u) | none => M.pure none)
      let h ← (match hi with | some v => (rdV v) >>= fun u => M.pure (some u) | none => M.pure none)
      let v ← M.lift (ev e.P (Instr.sliceAt t s l h none))
      M.when (okv v)
      wr o.dst (.t (.v v)) none
    | _ => M.fail
  | .slice t x lo (some hi) (some mx) => do
    match (← rdO e t x) with
    | .t (.sl _ sz xs) => do
      let (el, n) ← M.lift (elemOf e t)
      let l ← (match lo with | some v => rdI v | none => M.pure 0)
      let h ← rdI hi
      let m ← rdI mx
      M.when (sz == n && decide (l = 0 ∧ h = 0 ∧ m = 0))
      wr o.dst (.t (.sl true sz [])) none
    | _ => M.fail
  | .extract x i => (match x with
    | .tmp j => do
      let c ← M.get (.tm j)
      match c.val with
      | .tup xs => (match xs[i]? with
        | some y => do
          M.put (.tm j) { c with val := .tup (xs.set i y.sh) }
          wr o.dst (.t y) none
        | none => M.fail)
      | _ => M.fail
    | _ => M.fail)
  | .makeFunc fn first captured => (match fn, first.toList with
    | .func f, [] => do
      let caps ← rdCaps captured.toList
      wr o.dst (.fn f caps) none
    | _, _ => M.fail)
  | .call c => (match c.callee with
    | .builtin .len => (match c.args.toList, c.argTypes.toList with
      | [x], [t] => do
        match (← rdO e t x) with
        | .t (.sl _ _ xs) => do
          let _ ← M.lift (elemOf e t)
          wr o.dst (.t (.v (.int .i64 xs.length))) none
        | .t (.v s) => do
          let v ← M.lift (ev e.P (Builtin.len_ c.argTypes o.type #[s]))
          M.when (okv v)
          wr o.dst (.t (.v v)) none
        | _ => M.fail
      | _, _ => M.fail)
    | .builtin .append => (match c.args.toList, c.argTypes.toList with
      | [x, y], [t, u] => do
        let (el, n) ← M.lift (elemOf e t)
        let i ← M.lift (e.P.info? el)
        let a ← (match x with
          | .tmp j => takeO j
          | x => rdO e t x)
        match a with
        | .t (.sl true sz xs) => do
          let z ← M.lift (zeroT e.P el)
          M.when (sz == n && z.size == n && decide (0 < n) && decide (0 < i.bytes))
          let b ← rdO e u y
          match b with
          | .t (.sl _ sz' ys) => do
            let _ ← M.lift (elemOf e u)
            M.when (sz' == n && decide ((xs.length + ys.length) * i.bytes ≤ 140737488355328))
            wr o.dst (.t (.sl true sz (xs ++ ys))) none
          | .t (.v (.string b)) => do
            M.when ((match e.P.underlying u with | some .string => true | _ => false) && n == 1 && decide ((xs.length + b.size) * i.bytes ≤ 140737488355328))
            wr o.dst (.t (.sl true sz (xs ++ (byteCells b).map .v))) none
          | _ => M.fail
        | _ => M.fail
      | _, _ => M.fail)
    | .builtin .min => do
      let vs ← rdVs c.args.toList
      let v ← M.lift (ev e.P (Builtin.min_ c.argTypes o.type vs.toArray))
      M.when (okv v)
      wr o.dst (.t (.v v)) none
    | .builtin .max => do
      let vs ← rdVs c.args.toList
      let v ← M.lift (ev e.P (Builtin.max_ c.argTypes o.type vs.toArray))
      M.when (okv v)
      wr o.dst (.t (.v v)) none
    | .value (.func f) => do
      M.when (decide (c.args.size ≤ c.argTypes.size))
      goCall e o f (c.args.toList.zip c.argTypes.toList) [] []
    | .value (.tmp j) => do
      let d ← M.get (.tm j)
      match d.val with
      | .fn f caps => do
        let (more, sb) ← seals e f 0 caps
        M.when (decide (c.args.size ≤ c.argTypes.size))
        goCall e o f (c.args.toList.zip c.argTypes.toList) more sb
      | _ => M.fail
    | _ => M.fail)
  | _ => M.fail
end
end Go.Proofs.YtgkfjhfehdefaaaGreatDoor.Flat

namespace Go.Proofs.YtgkfjhfehdefaaaGreatDoor.Flat
set_option linter.unusedVariables false
set_option linter.unusedSimpArgs false
set_option linter.unusedSectionVars false
variable [Glob]

/-- Is an operation wanted, by its guard? -/
def wants (ops : Array Oper) (o : Oper) : M Bool := match o.guard with
  | none => M.pure true
  | some (j, want) => match (ops[j]?).bind (·.dst) with
    | some d => do
      let c ← M.get (.tm d)
      match c.val with
      | .t (.v (.bool b)) => M.pure (b == want)
      | .nd => M.pure false
      | _ => M.fail
    | none => M.fail
/-- One operation of a region: what it reads and writes. -/
def fire1 (e : Env) (ops : Array Oper) (o : Oper) : M Unit := do
  let b ← wants ops o
  match b with
  | true => fire e o
  | false => wr o.dst .nd none
/-- Operations in the text's order; what each reads and writes. -/
def runOps (e : Env) (ops : Array Oper) : List Oper → St → Option (St × List (List Loc × List Loc))
  | [], s => some (s, [])
  | o :: os, s => match fire1 e ops o s with
    | some (_, s', r, w) => (match runOps e ops os s' with
      | some (s2, fs) => some (s2, (r, w) :: fs)
      | none => none)
    | none => none
mutual
/-- Behind a region: no copies are remembered, places in variables that were made anew are forgotten. -/
def AV.norm (bx : List Cell) : AV → AV
  | .ptr b g p o => match bx[b]? with
    | some c => if c.gen == g then .ptr b 0 p o else .un
    | none => .un
  | .fn f caps => match norms bx caps with
    | some cs => .fn f cs
    | none => .un
  | .fref f caps => match norms bx caps with
    | some cs => .fref f cs
    | none => .un
  | x => x
def norms (bx : List Cell) : List AV → Option (List AV)
  | [] => some []
  | x :: xs => match x.norm bx, norms bx xs with
    | .un, _ => none
    | y, some ys => some (y :: ys)
    | _, none => none
end
def St.norm (s : St) : St := ⟨s.tm.map fun c => ⟨c.val.norm s.bx, none, 0, 0⟩, s.bx.map fun c => ⟨c.val.norm s.bx, none, 0, 0⟩⟩
def keeps (ks : List Nat) : Nat → List Cell → List Cell
  | _, [] => []
  | i, c :: cs => (if ks.contains i = true then c else ⟨.un, none, 0, 0⟩) :: keeps ks (i + 1) cs
/-- What is asked for no more is forgotten. -/
def St.forget (s : St) : Option (List Nat × List Nat) → St
  | none => s
  | some (a, b) => ⟨keeps a 0 s.tm, keeps b 0 s.bx⟩
/-- A place's tokens are given up. -/
def St.shed1 (s : St) (l : Loc) : St := match s.get l with
  | none => s
  | some c => match c.val with
    | .t x => s.put l { c with val := .t x.sh }
    | _ => s
def St.sheds (s : St) : List Loc → St
  | [] => s
  | l :: ls => (s.shed1 l).sheds ls
/-- What is asked for no more is forgotten; at places told with 100000 more the tokens are. -/
def St.keep (s : St) : Option (List Nat × List Nat) → St
  | none => s
  | some (a, b) => (s.forget (some (a, b))).sheds ((a.filterMap fun i => if 100000 ≤ i then some (Loc.tm (i - 100000)) else none) ++ (b.filterMap fun i => if 100000 ≤ i then some (Loc.bx (i - 100000)) else none))
inductive Ex where
  | normal
  | exit (id : Nat)
  | ret
/-- Where ways meet, what is asked for no more is forgotten. -/
def pruned (s : St) : Option (List Nat × List Nat) → St
  | none => s
  | ks => s.norm.keep ks
def prune (e : Env) (k : Nat) : Option (Ex × St) → Option (Ex × St)
  | some (.normal, s) => some (.normal, pruned s (e.keep k))
  | r => r
def _root_.Go.Code.rid : Code → Nat → Nat
  | .region id _ _, _ => id
  | .seq a b, d => a.rid (b.rid d)
  | .cond _ a b, d => a.rid (b.rid d)
  | .block _ c, d => c.rid d
  | .loop c, d => c.rid d
  | _, d => d
def loopN (f : St → Option (Ex × St)) : Nat → St → Option (Ex × St)
  | 0, _ => none
  | n + 1, s => match f s with
    | some (.normal, s') => loopN f n s'
    | r => r
def apart (f g : List Loc × List Loc) : Bool := (f.2.all fun l => decide (l ∉ g.1 ∧ l ∉ g.2)) && (g.2.all fun l => decide (l ∉ f.1))
/-- What stands ahead of an operation, over edges. -/
def isBefore (b : Array Nat) (i j : Nat) : Bool := (b.getD j 0).testBit i
def edgesOk : Nat → List Oper → Bool
  | _, [] => true
  | j, o :: os => (o.after.toList.all fun e => !Region.binds .any e || decide (e.on < j)) && edgesOk (j + 1) os
/-- Operations may come in any order that the edges let: those that no edge orders touch nothing in common. -/
def drawOk (ops : Array Oper) (fs : List (List Loc × List Loc)) : Bool :=
  let b := Region.before ops
  edgesOk 0 ops.toList &&
  ((List.range fs.length).all fun j => (List.range j).all fun i => isBefore b i j || apart (fs.getD i ([], [])) (fs.getD j ([], [])))
def exec (e : Env) (n : Nat) : Code → St → Option (Ex × St)
  | .skip, s => some (.normal, s)
  | .region id ops draw, s => match runOps e ops ops.toList s with
    | some (s', fs) => if (draw && !drawOk ops fs) = true then none else some (.normal, s'.norm.keep (e.keep id))
    | none => none
  | .seq a b, s => match exec e n a s with
    | some (.normal, s') => exec e n b s'
    | r => r
  | .cond c x y, s => match rdV c s with
    | some (.bool b, _, _, _) => prune e (20000 + x.rid (y.rid 0)) (if b = true then exec e n x s else exec e n y s)
    | _ => none
  | .block id c, s => prune e (5000 + id) (match exec e n c s with
    | some (.exit i, s') => if i = id then some (.normal, s') else some (.exit i, s')
    | r => r)
  | .loop c, s => loopN (exec e n c) n s
  | .exit id, s => some (.exit id, s)
  | .ret, s => some (.ret, s)
  | _, _ => none
/-- A call's frame: the values that are handed over, the variables that they lead to. -/
def entry (args fb : List AV) (k : Nat) : St :=
  ⟨(rens (k + ·) args).map (⟨·, none, 0, 0⟩) ++ List.replicate (k - args.length) ⟨.nd, none, 0, 0⟩,
   List.replicate k ⟨.un, none, 0, 0⟩ ++ fb.map (⟨·, none, 0, 0⟩)⟩
def result1 (P : Program) (s : St) : ResultVar → Option T
  | .tmp t => match s.tm[t]? with
    | some c => (match c.val with
      | .t x => some x
      | _ => none)
    | none => none
  | .cell d t => match s.tm[d]? with
    | some c => (match c.val with
      | .ptr b 0 [] 0 => if b = d then (match s.bx[b]? with
        | some c => (match c.val with
          | .t x => if fits P t x = true ∧ c.gen = 0 then some x else none
          | _ => none)
        | none => none) else none
      | _ => none)
    | none => none
def resultsOf (P : Program) (s : St) : List ResultVar → Option (List T)
  | [] => some []
  | r :: rs => match result1 P s r, resultsOf P s rs with
    | some x, some xs => some (x :: xs)
    | _, _ => none
def outsOf : List Cell → Option (List AV)
  | [] => some []
  | c :: cs => match c.val, outsOf cs with
    | .t x, some ys => some (.t x :: ys)
    | _, _ => none
def locOf : ResultVar → Loc
  | .tmp t => .tm t
  | .cell d _ => .bx d
def nodupRes (n : Nat) (rs : List ResultVar) : Bool := decide (rs.map locOf).Nodup && rs.all fun r => match r with
  | .cell d _ => decide (d < n)
  | _ => true
def asRes : List T → AV
  | [x] => .t x
  | xs => .tup xs
/-- A function's run. X: what is told of functions in another way. -/
def run (P : Program) (own : FuncId → Nat → Bool) (kp : FuncId → Nat → Option (List Nat × List Nat)) (X : FuncId → List AV → List AV → Option (AV × List AV)) : Nat → FuncId → List AV → List AV → Option (AV × List AV)
  | 0, _, _, _ => none
  | n + 1, f, args, fb => match X f args fb with
    | some r => some r
    | none => match P.funcs[f]? with
      | none => none
      | some fn => match fn.body with
        | none => none
        | some c =>
          if args.length = fn.params.size + fn.nfree ∧ args.length ≤ fn.ntmps ∧ nodupRes fn.ntmps fn.results.toList = true ∧ (fn.name == "runtime.NumGoroutine") = false then
            match exec ⟨P, run P own kp X n, own, fn.results.toList.map locOf, kp f⟩ n c (entry args fb fn.ntmps) with
            | some (.exit _, _) => none
            | some (_, s) => (match resultsOf P s fn.results.toList, outsOf (s.bx.drop fn.ntmps) with
              | some xs, some outs => if outs.length = fb.length then some (asRes (if own f 2000 = true then xs else shs xs), outs) else none
              | _, _ => none)
            | none => none
          else none
end Go.Proofs.YtgkfjhfehdefaaaGreatDoor.Flat

namespace Go.Proofs.YtgkfjhfehdefaaaGreatDoor.Flat
set_option linter.unusedVariables false
set_option linter.unusedSimpArgs false
set_option linter.unusedSectionVars false
variable [Glob]

theorem M.bind_some {α β : Type} {m : M α} {f : α → M β} {s s2 : St} {b : β} {r w : List Loc} (h : (m >>= f) s = some (b, s2, r, w)) : ∃ a s1 r1 w1 r2 w2, m s = some (a, s1, r1, w1) ∧ f a s1 = some (b, s2, r2, w2) := by
  have h' : M.bind m f s = some (b, s2, r, w) := h
  unfold M.bind at h'
  cases hm : m s with
  | none => rw [hm] at h'; cases h'
  | some p =>
    obtain ⟨a, s1, r1, w1⟩ := p
    rw [hm] at h'
    dsimp only at h'
    cases hf : f a s1 with
    | none => rw [hf] at h'; cases h'
    | some q =>
      obtain ⟨b', s2', r2, w2⟩ := q
      rw [hf] at h'
      dsimp only at h'
      cases h'
      exact ⟨a, s1, r1, w1, r2, w2, rfl, hf⟩
theorem M.pure_some {α : Type} {a b : α} {s s' : St} {r w : List Loc} (h : M.pure a s = some (b, s', r, w)) : b = a ∧ s = s' := by cases h; exact ⟨rfl, rfl⟩
theorem M.get_some {l : Loc} {s s' : St} {c : Cell} {r w : List Loc} (h : M.get l s = some (c, s', r, w)) : s.get l = some c ∧ s = s' := by
  unfold M.get at h
  cases hl : s.get l with
  | none => rw [hl] at h; cases h
  | some d => rw [hl] at h; cases h; exact ⟨rfl, rfl⟩
theorem M.put_some {l : Loc} {c : Cell} {s s' : St} {u : Unit} {r w : List Loc} (h : M.put l c s = some (u, s', r, w)) : (∃ d, s.get l = some d) ∧ s' = s.put l c := by
  unfold M.put at h
  cases hl : s.get l with
  | none => rw [hl] at h; cases h
  | some d => rw [hl] at h; cases h; exact ⟨⟨d, rfl⟩, rfl⟩
theorem M.lift_some {α : Type} {o : Option α} {s s' : St} {a : α} {r w : List Loc} (h : M.lift o s = some (a, s', r, w)) : o = some a ∧ s = s' := by
  unfold M.lift at h
  cases o with
  | none => cases h
  | some b => cases h; exact ⟨rfl, rfl⟩
theorem M.when_some {b : Bool} {s s' : St} {u : Unit} {r w : List Loc} (h : M.when b s = some (u, s', r, w)) : b = true ∧ s = s' := by
  unfold M.when at h
  split at h
  · rename_i hb; cases h; exact ⟨hb, rfl⟩
  · cases h
theorem M.fail_some {α : Type} {s : St} {p : α × St × List Loc × List Loc} (h : (M.fail : M α) s = some p) : False := by cases h
theorem RepT.sh {w : World} {E : Nat → Nat} {x : T} {v : Value} {B : List Nat} (h : RepT w E x v B) : RepT w E x.sh v [] := by
  obtain ⟨cs, h1, h2⟩ := h
  refine ⟨cs, Rep.sh h1, ?_⟩
  rw [h2]
  cases x <;> rfl
theorem RepTs.sh {w : World} {E : Nat → Nat} : ∀ {xs : List T} {vs : List Value} {B : List Nat}, RepTs w E xs vs B → RepTs w E (shs xs) vs []
  | [], vs, B, h => ⟨h.1, rfl⟩
  | x :: xs, vs, B, h => by
    obtain ⟨v, vr, B1, B2, e, eb, h1, h2⟩ := h
    exact ⟨v, vr, [], [], e, rfl, RepT.sh h1, RepTs.sh h2⟩
theorem RepV.cp {w : World} {E : Nat → Nat} {F : Nat → Prop} {β : Bm} {x : AV} {v : Value} {B : List Nat} (h : RepV w E F β x v B) : RepV w E F β x.cp v [] := by
  cases x with
  | t x => rw [RepV] at h; rw [AV.cp, RepV]; exact RepT.sh h
  | tup xs =>
    rw [RepV] at h
    obtain ⟨vs, e, h⟩ := h
    rw [AV.cp, RepV]
    exact ⟨vs, e, RepTs.sh h⟩
  | ptr b g p o => rw [RepV] at h; show RepV w E F β (.ptr b g p o) v []; rw [RepV]; exact ⟨h.1, rfl, h.2.2⟩
  | ref x => rw [RepV] at h; show RepV w E F β (.ref x) v []; rw [RepV]; exact ⟨rfl, h.2⟩
  | fref f caps => rw [RepV] at h; show RepV w E F β (.fref f caps) v []; rw [RepV]; exact ⟨rfl, h.2⟩
  | fn f caps => rw [RepV] at h; show RepV w E F β (.fn f caps) v []; rw [RepV]; exact ⟨rfl, h.2⟩
  | io x => rw [RepV] at h; exact h.elim
  | un => show RepV w E F β .un v []; rw [RepV]
  | nd => rw [RepV] at h; show RepV w E F β .nd v []; rw [RepV]; exact ⟨h.1, rfl⟩
theorem ofVals_sound {g : TypeId → List Value → Option (T × List Value)} (hg : ∀ t cs x r, g t cs = some (x, r) → ∃ c, cs = c ++ r ∧ ∀ w E, Rep w E x c []) : ∀ (ts : List TypeId) (cs : List Value) (xs : List T) (r : List Value), ofVals g ts cs = some (xs, r) → ∃ c, cs = c ++ r ∧ ∀ w E, RepS w E xs c []
  | [], cs, xs, r, h => by
    rw [ofVals] at h
    cases h
    exact ⟨[], rfl, fun w E => by rw [RepS]; exact ⟨rfl, rfl⟩⟩
  | t :: ts, cs, xs, r, h => by
    rw [ofVals] at h
    cases h1 : g t cs with
    | none => rw [h1] at h; cases h
    | some p =>
      obtain ⟨x, r1⟩ := p
      rw [h1] at h
      dsimp only at h
      cases h2 : ofVals g ts r1 with
      | none => rw [h2] at h; cases h
      | some q =>
        obtain ⟨ys, r2⟩ := q
        rw [h2] at h
        cases h
        obtain ⟨c1, e1, k1⟩ := hg t cs x r1 h1
        obtain ⟨c2, e2, k2⟩ := ofVals_sound hg ts r1 ys r h2
        refine ⟨c1 ++ c2, by rw [e1, e2, List.append_assoc], fun w E => ?_⟩
        rw [RepS]
        exact ⟨c1, c2, [], [], rfl, rfl, k1 w E, k2 w E⟩
def one1 : List Value → Option (T × List Value)
  | x :: r => if okv x = true then some (.v x, r) else none
  | [] => none
theorem one1_sound : ∀ {cs : List Value} {x : T} {r : List Value}, one1 cs = some (x, r) → ∃ c, cs = c ++ r ∧ ∀ w E, Rep w E x c []
  | [], x, r, h => by cases h
  | y :: r', x, r, h => by
    have h : (if okv y = true then some (T.v y, r') else none) = some (x, r) := h
    by_cases hy : okv y = true
    · rw [if_pos hy] at h
      cases h
      exact ⟨[y], rfl, fun w E => by rw [Rep]; exact ⟨rfl, hy, rfl⟩⟩
    · rw [if_neg hy] at h; cases h
theorem ofVal_sound (P : Program) : ∀ (n : Nat) (t : TypeId) (cs : List Value) (x : T) (r : List Value), ofVal P n t cs = some (x, r) → ∃ c, cs = c ++ r ∧ ∀ w E, Rep w E x c []
  | 0, t, cs, x, r, h => by unfold ofVal at h; cases h
  | n + 1, t, cs, x, r, h => by
    unfold ofVal at h
    split at h
    · rename_i fields hu
      cases h1 : ofVals (ofVal P n) (fields.toList.map (·.type)) cs with
      | none => rw [h1] at h; cases h
      | some p =>
        obtain ⟨ys, r1⟩ := p
        rw [h1] at h
        cases h
        obtain ⟨c, e, k⟩ := ofVals_sound (fun t cs x r h => ofVal_sound P n t cs x r h) _ _ _ _ h1
        exact ⟨c, e, fun w E => by rw [Rep]; exact k w E⟩
    · rename_i len el hu
      cases h1 : ofVals (ofVal P n) (List.replicate len el) cs with
      | none => rw [h1] at h; cases h
      | some p =>
        obtain ⟨ys, r1⟩ := p
        rw [h1] at h
        cases h
        obtain ⟨c, e, k⟩ := ofVals_sound (fun t cs x r h => ofVal_sound P n t cs x r h) _ _ _ _ h1
        exact ⟨c, e, fun w E => by rw [Rep]; exact k w E⟩
    · rename_i el hu
      split at h
      · rename_i r' i hpi
        by_cases hi : 0 < i.size
        · rw [if_pos hi] at h
          cases h
          exact ⟨[.slice none 0 0], rfl, fun w E => by rw [Rep]; exact ⟨none, 0, rfl, Nat.le_refl _, hi, rfl, rfl, rfl⟩⟩
        · rw [if_neg hi] at h; cases h
      · cases h
    · exact one1_sound (by cases cs <;> exact h)
    · cases h
theorem constT_sound {P : Program} {t : TypeId} {v : Value} {x : T} (h : constT P t v = some x) (w : World) (E : Nat → Nat) : RepT w E x v [] := by
  unfold constT at h
  by_cases hv : okv v = true
  · rw [if_pos hv] at h
    cases h
    exact ⟨[v], by rw [Rep]; exact ⟨rfl, hv, rfl⟩, rfl⟩
  · rw [if_neg hv] at h
    cases h1 : ofVal P 9 t v.cells.toList with
    | none => rw [h1] at h; cases h
    | some p =>
      obtain ⟨y, r⟩ := p
      rw [h1] at h
      obtain ⟨c, e, k⟩ := ofVal_sound P 9 t _ _ _ h1
      cases r with
      | cons a b => cases h
      | nil =>
        rw [List.append_nil] at e
        dsimp only at h
        split at h
        · cases h
          rename_i cells
          refine ⟨c, k w E, ?_⟩
          rw [← e]
          simp [valOf, Value.cells]
        · cases h
          rename_i a b c'
          refine ⟨c, k w E, ?_⟩
          rw [← e]
          rfl
        · cases h
section
variable {en : Env} {e : Ent} {w : World} {E : Nat → Nat} {β : Bm} {τ : Loc → List Nat} {a : Act} {s : St}
theorem rdO_sound (h : Sim e w E β τ a s) {t : TypeId} {x : Operand} {y : AV} {s' : St} {r q : List Loc} (hr : rdO en t x s = some (y, s', r, q)) : s = s' ∧ RepV w E e.F β y (a.eval x) [] := by
  cases x with
  | tmp i =>
    obtain ⟨c, s1, _, _, _, _, h1, h2⟩ := M.bind_some hr
    obtain ⟨g1, rfl⟩ := M.get_some h1
    have hc := (h.tm i c g1).cp
    have : y = c.val.cp ∧ s = s' := by
      revert h2
      cases c.val <;> intro h2 <;> first | exact (M.fail_some h2).elim | exact M.pure_some h2
    rw [this.1]
    exact ⟨this.2, hc⟩
  | const v =>
    obtain ⟨h1, rfl⟩ := M.lift_some (s := s) hr
    cases h2 : constT en.P t v with
    | none => rw [h2] at h1; cases h1
    | some z =>
      rw [h2] at h1
      cases h1
      refine ⟨rfl, ?_⟩
      rw [RepV]
      exact constT_sound h2 w E
  | func f =>
    obtain ⟨rfl, rfl⟩ := M.pure_some (s := s) hr
    refine ⟨rfl, ?_⟩
    rw [RepV]
    exact ⟨rfl, [], rfl, by rw [RepVs]⟩
  | global g => exact (M.fail_some (s := s) hr).elim
theorem RepT_v {w : World} {E : Nat → Nat} {u v : Value} {B : List Nat} (h : RepT w E (.v u) v B) : v = u ∧ okv u = true ∧ B = [] := by
  obtain ⟨cs, h1, h2⟩ := h
  rw [Rep] at h1
  obtain ⟨rfl, h3, h4⟩ := h1
  exact ⟨h2, h3, h4⟩
theorem rdV_sound (h : Sim e w E β τ a s) {x : Operand} {u : Value} {s' : St} {r q : List Loc} (hr : rdV x s = some (u, s', r, q)) : s = s' ∧ a.eval x = u ∧ okv u = true := by
  cases x with
  | tmp i =>
    obtain ⟨c, s1, _, _, _, _, h1, h2⟩ := M.bind_some hr
    obtain ⟨g1, rfl⟩ := M.get_some h1
    have hc := h.tm i c g1
    generalize c.val = q at h2 hc
    cases q with
    | t z =>
      cases z with
      | v u' =>
        obtain ⟨rfl, rfl⟩ := M.pure_some h2
        rw [RepV] at hc
        obtain ⟨k1, k2, _⟩ := RepT_v hc
        exact ⟨rfl, k1, k2⟩
      | _ => exact (M.fail_some h2).elim
    | _ => exact (M.fail_some h2).elim
  | const v =>
    have hr' : (if okv v = true then M.pure v else M.fail) s = some (u, s', r, q) := hr
    by_cases hv : okv v = true
    · rw [if_pos hv] at hr'
      obtain ⟨rfl, rfl⟩ := M.pure_some hr'
      exact ⟨rfl, rfl, hv⟩
    · rw [if_neg hv] at hr'
      exact (M.fail_some hr').elim
  | func f => exact (M.fail_some (s := s) hr).elim
  | global g => exact (M.fail_some (s := s) hr).elim
theorem rdI_sound (h : Sim e w E β τ a s) {x : Operand} {n : Int} {s' : St} {r q : List Loc} (hr : rdI x s = some (n, s', r, q)) : s = s' ∧ ∃ k, a.eval x = .int k n := by
  obtain ⟨u, s1, _, _, _, _, h1, h2⟩ := M.bind_some hr
  obtain ⟨rfl, k1, k2⟩ := rdV_sound h h1
  cases u with
  | int k n' =>
    obtain ⟨rfl, rfl⟩ := M.pure_some h2
    exact ⟨rfl, k, k1⟩
  | _ => exact (M.fail_some h2).elim
/-- The destination is set, with the tokens that were taken for it. -/
theorem Sim.wr (h : Sim e w E β τ a s) {dst : Option Nat} {x : AV} {og : Option (Loc × List Nat × Nat)} {s' : St} {u : Unit} {r q : List Loc} (hw : wr dst x og s = some (u, s', r, q)) {v : Value} {B : List Nat} (hv : RepV w E e.F β x v B)
    (hB : B.Nodup ∧ ∀ k ∈ B, k < w.heap.size ∧ (e.w.heap.size ≤ k ∨ k ∈ e.Ba) ∧ (∀ l, k ∉ τ l) ∧ ∀ j c, s.bx[j]? = some c → c.val ≠ .un → k ≠ β j c.gen)
    (hog : ∀ l p n, og = some (l, p, n) → ∀ d, s.get l = some d → n ≤ d.ver ∧ ∀ y o, d.ver = n → d.val = .t y → y.off p = some o → (cellsAt w β a s l)[o]? = some v) :
    ∃ τ', Sim e w E β τ' (a.put dst v) s' := by
  cases dst with
  | none =>
    obtain ⟨_, rfl⟩ := M.pure_some (s := s) hw
    exact ⟨τ, h⟩
  | some d =>
    obtain ⟨c, s1, _, _, _, _, h1, h2⟩ := M.bind_some hw
    obtain ⟨g1, rfl⟩ := M.get_some h1
    obtain ⟨_, rfl⟩ := M.put_some h2
    refine ⟨_, h.setT g1 hv (fun k hk => ?_) hB.1 _ ?_⟩
    · obtain ⟨k1, k2, k3, k4⟩ := hB.2 k hk
      exact ⟨k1, k2, fun l _ => k3 l, k4⟩
    intro l p n ho
    cases og with
    | none => cases ho
    | some g =>
      obtain ⟨l', p', n'⟩ := g
      cases l' with
      | tm j =>
        dsimp only at ho
        by_cases hj : (j == d) = true
        · rw [if_pos hj] at ho; cases ho
        · rw [if_neg hj] at ho
          cases ho
          exact ⟨(fun e => hj (by injection e with e; simp [e])), hog _ _ _ rfl⟩
      | bx j =>
        cases ho
        exact ⟨(fun e => by cases e), hog _ _ _ rfl⟩
end
end Go.Proofs.YtgkfjhfehdefaaaGreatDoor.Flat

namespace Go.Proofs.YtgkfjhfehdefaaaGreatDoor.Flat
set_option linter.unusedVariables false
set_option linter.unusedSimpArgs false
set_option linter.unusedSectionVars false
variable [Glob]

mutual
/-- A part of a tree, and the same with another part in its place. -/
theorem Rep.ctx {w : World} {E : Nat → Nat} : ∀ (p : List Nat) (x y : T) (cs : List Value) (B : List Nat), Rep w E x cs B → x.at p = some y →
    ∃ c1 c2 c3 B1 B2 B3, cs = c1 ++ c2 ++ c3 ∧ B = B1 ++ B2 ++ B3 ∧ x.off p = some c1.length ∧ Rep w E y c2 B2 ∧
      ∀ w' E' y' c2' B2', Mv w E w' E' (B1 ++ B3) → Rep w' E' y' c2' B2' → ∃ x', x.put p y' = some x' ∧ Rep w' E' x' (c1 ++ c2' ++ c3) (B1 ++ B2' ++ B3) ∧ (y'.size = y.size → x'.size = x.size)
  | [], x, y, cs, B, h, hy => by
    rw [T.at] at hy
    cases hy
    refine ⟨[], cs, [], [], B, [], by simp, by simp, by rw [T.off]; rfl, h, fun w' E' y' c2' B2' hm hr => ⟨y', by rw [T.put], by simpa using hr, fun h => h⟩⟩
  | i :: p, .st fs, y, cs, B, h, hy => by
    rw [Rep] at h
    rw [T.at] at hy
    obtain ⟨c1, c2, c3, B1, B2, B3, e1, e2, e3, e4, e5⟩ := RepS.ctx i p fs y cs B h hy
    refine ⟨c1, c2, c3, B1, B2, B3, e1, e2, by rw [T.off]; exact e3, e4, fun w' E' y' c2' B2' hm hr => ?_⟩
    obtain ⟨fs', k1, k2, k3⟩ := e5 w' E' y' c2' B2' hm hr
    exact ⟨.st fs', by rw [T.put, k1]; rfl, by rw [Rep]; exact k2, fun h => by simp only [T.size]; exact k3 h⟩
  | i :: p, .v _, y, cs, B, h, hy => by simp [T.at] at hy
  | i :: p, .sl _ _ _, y, cs, B, h, hy => by simp [T.at] at hy
theorem RepS.ctx {w : World} {E : Nat → Nat} : ∀ (i : Nat) (p : List Nat) (fs : List T) (y : T) (cs : List Value) (B : List Nat), RepS w E fs cs B → ats i p fs = some y →
    ∃ c1 c2 c3 B1 B2 B3, cs = c1 ++ c2 ++ c3 ∧ B = B1 ++ B2 ++ B3 ∧ offs i p fs = some c1.length ∧ Rep w E y c2 B2 ∧
      ∀ w' E' y' c2' B2', Mv w E w' E' (B1 ++ B3) → Rep w' E' y' c2' B2' → ∃ fs', puts i p fs y' = some fs' ∧ RepS w' E' fs' (c1 ++ c2' ++ c3) (B1 ++ B2' ++ B3) ∧ (y'.size = y.size → sizes fs' = sizes fs)
  | i, p, [], y, cs, B, h, hy => by simp [ats] at hy
  | 0, p, f :: fs, y, cs, B, h, hy => by
    rw [RepS] at h
    obtain ⟨d1, d2, C1, C2, f1, f2, f3, f4⟩ := h
    rw [ats] at hy
    obtain ⟨c1, c2, c3, B1, B2, B3, e1, e2, e3, e4, e5⟩ := Rep.ctx p f y d1 C1 f3 hy
    refine ⟨c1, c2, c3 ++ d2, B1, B2, B3 ++ C2, by rw [f1, e1]; simp, by rw [f2, e2]; simp, by rw [offs]; exact e3, e4, fun w' E' y' c2' B2' hm hr => ?_⟩
    obtain ⟨x', k1, k2, k3⟩ := e5 w' E' y' c2' B2' (hm.sub (fun k hk => by simp at hk ⊢; rcases hk with h | h <;> simp [h])) hr
    refine ⟨x' :: fs, by rw [puts, k1]; rfl, ?_, fun h => by simp only [sizes]; rw [k3 h]⟩
    rw [RepS]
    exact ⟨c1 ++ c2' ++ c3, d2, B1 ++ B2' ++ B3, C2, by simp, by simp, k2, RepS.mv (hm.sub (fun k hk => by simp [hk])) f4⟩
  | i + 1, p, f :: fs, y, cs, B, h, hy => by
    rw [RepS] at h
    obtain ⟨d1, d2, C1, C2, f1, f2, f3, f4⟩ := h
    rw [ats] at hy
    obtain ⟨c1, c2, c3, B1, B2, B3, e1, e2, e3, e4, e5⟩ := RepS.ctx i p fs y d2 C2 f4 hy
    refine ⟨d1 ++ c1, c2, c3, C1 ++ B1, B2, B3, by rw [f1, e1]; simp, by rw [f2, e2]; simp, by rw [offs, e3, List.length_append, Rep.len f3]; rfl, e4, fun w' E' y' c2' B2' hm hr => ?_⟩
    obtain ⟨fs', k1, k2, k3⟩ := e5 w' E' y' c2' B2' (hm.sub (fun k hk => by simp at hk ⊢; rcases hk with h | h <;> simp [h])) hr
    refine ⟨f :: fs', by rw [puts, k1]; rfl, ?_, fun h => by simp only [sizes]; rw [k3 h]⟩
    rw [RepS]
    exact ⟨d1, c1 ++ c2' ++ c3, C1, B1 ++ B2' ++ B3, by simp, by simp, Rep.mv (hm.sub (fun k hk => by simp [hk])) f3, k2⟩
end
mutual
/-- Where parts begin stays, where a row stands for a row. -/
theorem off_put : ∀ (p : List Nat) (x x' : T) (o1 o2 : Bool) (sz : Nat) (xs ys : List T), x.at p = some (.sl o1 sz xs) → x.put p (.sl o2 sz ys) = some x' → ∀ q o, x'.off q = some o → x.off q = some o
  | [], x, x', o1, o2, sz, xs, ys, h, hp, q, o, ho => by
    rw [T.at] at h
    rw [T.put] at hp
    cases h
    cases hp
    cases q with
    | nil => rw [T.off] at ho ⊢; exact ho
    | cons i q => simp [T.off] at ho
  | i :: p, .st fs, x', o1, o2, sz, xs, ys, h, hp, q, o, ho => by
    rw [T.at] at h
    rw [T.put] at hp
    cases h1 : puts i p fs (.sl o2 sz ys) with
    | none => rw [h1] at hp; cases hp
    | some fs' =>
      rw [h1] at hp
      cases hp
      cases q with
      | nil => rw [T.off] at ho ⊢; exact ho
      | cons j q =>
        rw [T.off] at ho ⊢
        exact (offs_put i p fs fs' o1 o2 sz xs ys h h1).2 j q o ho
  | i :: p, .v _, x', o1, o2, sz, xs, ys, h, hp, q, o, ho => by simp [T.at] at h
  | i :: p, .sl _ _ _, x', o1, o2, sz, xs, ys, h, hp, q, o, ho => by simp [T.at] at h
  termination_by structural _ x => x
theorem offs_put : ∀ (i : Nat) (p : List Nat) (fs fs' : List T) (o1 o2 : Bool) (sz : Nat) (xs ys : List T), ats i p fs = some (.sl o1 sz xs) → puts i p fs (.sl o2 sz ys) = some fs' →
    sizes fs' = sizes fs ∧ ∀ j q o, offs j q fs' = some o → offs j q fs = some o
  | i, p, [], fs', o1, o2, sz, xs, ys, h, hp => by simp [ats] at h
  | 0, p, f :: fs, fs', o1, o2, sz, xs, ys, h, hp => by
    rw [ats] at h
    rw [puts] at hp
    cases h1 : f.put p (.sl o2 sz ys) with
    | none => rw [h1] at hp; cases hp
    | some f' =>
      rw [h1] at hp
      cases hp
      have hs : f'.size = f.size := size_put p f f' _ _ h h1 rfl
      refine ⟨by simp only [sizes]; rw [hs], fun j q o ho => ?_⟩
      cases j with
      | zero => rw [offs] at ho ⊢; exact off_put p f f' o1 o2 sz xs ys h h1 q o ho
      | succ j => rw [offs] at ho ⊢; rw [hs] at ho; exact ho
  | i + 1, p, f :: fs, fs', o1, o2, sz, xs, ys, h, hp => by
    rw [ats] at h
    rw [puts] at hp
    cases h1 : puts i p fs (.sl o2 sz ys) with
    | none => rw [h1] at hp; cases hp
    | some fs2 =>
      rw [h1] at hp
      cases hp
      obtain ⟨k1, k2⟩ := offs_put i p fs fs2 o1 o2 sz xs ys h h1
      refine ⟨by simp only [sizes]; rw [k1], fun j q o ho => ?_⟩
      cases j with
      | zero => rw [offs] at ho ⊢; exact ho
      | succ j =>
        rw [offs] at ho ⊢
        cases h2 : offs j q fs2 with
        | none => rw [h2] at ho; cases ho
        | some o' => rw [h2] at ho; rw [k2 j q o' h2]; exact ho
  termination_by structural _ _ fs => fs
theorem size_put : ∀ (p : List Nat) (x x' y y' : T), x.at p = some y → x.put p y' = some x' → y'.size = y.size → x'.size = x.size
  | [], x, x', y, y', h, hp, hs => by
    rw [T.at] at h
    rw [T.put] at hp
    cases h
    cases hp
    exact hs
  | i :: p, .st fs, x', y, y', h, hp, hs => by
    rw [T.at] at h
    rw [T.put] at hp
    cases h1 : puts i p fs y' with
    | none => rw [h1] at hp; cases hp
    | some fs' =>
      rw [h1] at hp
      cases hp
      simp only [T.size]
      exact sizes_put i p fs fs' y y' h h1 hs
  | i :: p, .v _, x', y, y', h, hp, hs => by simp [T.at] at h
  | i :: p, .sl _ _ _, x', y, y', h, hp, hs => by simp [T.at] at h
theorem sizes_put : ∀ (i : Nat) (p : List Nat) (fs fs' : List T) (y y' : T), ats i p fs = some y → puts i p fs y' = some fs' → y'.size = y.size → sizes fs' = sizes fs
  | i, p, [], fs', y, y', h, hp, hs => by simp [ats] at h
  | 0, p, f :: fs, fs', y, y', h, hp, hs => by
    rw [ats] at h
    rw [puts] at hp
    cases h1 : f.put p y' with
    | none => rw [h1] at hp; cases hp
    | some f' =>
      rw [h1] at hp
      cases hp
      simp only [sizes]
      rw [size_put p f f' y y' h h1 hs]
  | i + 1, p, f :: fs, fs', y, y', h, hp, hs => by
    rw [ats] at h
    rw [puts] at hp
    cases h1 : puts i p fs y' with
    | none => rw [h1] at hp; cases hp
    | some fs2 =>
      rw [h1] at hp
      cases hp
      simp only [sizes]
      rw [sizes_put i p fs fs2 y y' h h1 hs]
end
end Go.Proofs.YtgkfjhfehdefaaaGreatDoor.Flat

namespace Go.Proofs.YtgkfjhfehdefaaaGreatDoor.Flat
set_option linter.unusedVariables false
set_option linter.unusedSimpArgs false
set_option linter.unusedSectionVars false
variable [Glob]

theorem cellsAt_val {w : World} {β : Bm} {a : Act} {s : St} {l : Loc} {c : Cell} (hc : s.get l = some c) (x' : AV) (l' : Loc) : cellsAt w β a (s.put l { c with val := x' }) l' = cellsAt w β a s l' := by
  cases l' with
  | tm j => rfl
  | bx j =>
    cases l with
    | tm i => rfl
    | bx i =>
      by_cases hj : j = i
      · subst hj
        have h1 : s.bx[j]? = some c := hc
        have h2 : (s.put (.bx j) { c with val := x' }).bx[j]? = some { c with val := x' } := St.get_put s (.bx j) _ c hc
        simp only [cellsAt, h1, h2]
      · have h2 : (s.put (.bx i) { c with val := x' }).bx[j]? = s.bx[j]? := St.get_put_bx s i _ (.bx j) (fun e => hj (by injection e))
        simp only [cellsAt, h2]
/-- A place told anew, over the same cells, with fewer tokens. -/
theorem Sim.val {e : Ent} {w : World} {E : Nat → Nat} {β : Bm} {τ : Loc → List Nat} {a : Act} {s : St} (h : Sim e w E β τ a s) {l : Loc} {c : Cell} (hc : s.get l = some c) {x' : AV} {B' : List Nat}
    (hT : ∀ i, l = .tm i → RepV w E e.F β x' (a.tmps.getD i undef) B')
    (hX : ∀ i, l = .bx i → c.val ≠ .un ∧ ∀ cells ty, w.heap[β i c.gen]? = some (.cells cells ty (0, 0)) → RepC w E e.F β x' cells.toList B')
    (hs : ∀ k ∈ B', k ∈ τ l) (hn : B'.Nodup) (ho : ∀ y' p o, x' = .t y' → y'.off p = some o → ∃ y, c.val = .t y ∧ y.off p = some o) :
    Sim e w E β (upT τ l B') a (s.put l { c with val := x' }) := by
  have sub : ∀ l' k, k ∈ upT τ l B' l' → k ∈ τ l' := by
    intro l' k hk
    by_cases hl : l' = l
    · rw [hl] at hk ⊢; rw [upT_self] at hk; exact hs k hk
    · rw [upT_other τ B' hl] at hk; exact hk
  have gtm : ∀ (i : Nat) (d : Cell), (s.put l { c with val := x' }).tm[i]? = some d → (l = .tm i ∧ d = { c with val := x' }) ∨ (l ≠ .tm i ∧ s.tm[i]? = some d) := by
    intro i d hd
    by_cases hl : l = .tm i
    · subst hl
      have : (s.put (.tm i) { c with val := x' }).tm[i]? = some { c with val := x' } := St.get_put s (.tm i) _ c hc
      rw [this] at hd
      exact .inl ⟨rfl, (Option.some.inj hd).symm⟩
    · refine .inr ⟨hl, ?_⟩
      cases l with
      | tm j => rw [← hd]; exact (St.get_put_tm s j _ (.tm i) (fun e => hl e.symm)).symm
      | bx j => exact hd
  have gbx : ∀ (i : Nat) (d : Cell), (s.put l { c with val := x' }).bx[i]? = some d → (l = .bx i ∧ d = { c with val := x' }) ∨ (l ≠ .bx i ∧ s.bx[i]? = some d) := by
    intro i d hd
    by_cases hl : l = .bx i
    · subst hl
      have : (s.put (.bx i) { c with val := x' }).bx[i]? = some { c with val := x' } := St.get_put s (.bx i) _ c hc
      rw [this] at hd
      exact .inl ⟨rfl, (Option.some.inj hd).symm⟩
    · refine .inr ⟨hl, ?_⟩
      cases l with
      | bx j => rw [← hd]; exact (St.get_put_bx s j _ (.bx i) (fun e => hl e.symm)).symm
      | tm j => exact hd
  have gbx2 : ∀ (i : Nat) (d : Cell), (s.put l { c with val := x' }).bx[i]? = some d → d.val ≠ .un → ∃ d0 : Cell, s.bx[i]? = some d0 ∧ d0.gen = d.gen ∧ d0.val ≠ .un := by
    intro i d hd hv
    rcases gbx i d hd with ⟨hl, rfl⟩ | ⟨hl, hd'⟩
    · subst hl
      exact ⟨c, hc, rfl, (hX i rfl).1⟩
    · exact ⟨d, hd', rfl, hv⟩
  refine ⟨h.dfr, ?_, fun i d hd => ?_, fun i d hd hv => ?_, fun l' k hk => h.tok l' k (sub l' k hk), fun l1 l2 k h1 h2 => h.one l1 l2 k (sub _ _ h1) (sub _ _ h2), fun l' => ?_, fun l' k i d hk hd hv => ?_, fun i j d d' hd hd' hv hv' he => ?_, fun i d l' p n hd hg => ?_, h.z, h.mz, h.mlt, h.blt, h.dis, fun b d hd => ?_, h.fr, fun i' k hk => by have := h.fx i' k hk; cases l <;> simpa [St.put] using this⟩
  · rw [h.len]; cases l <;> simp [St.put]
  · rcases gtm i d hd with ⟨hl, rfl⟩ | ⟨hl, hd'⟩
    · subst hl
      rw [upT_self]
      exact hT i rfl
    · rw [upT_other τ B' (fun e => hl e.symm)]
      exact h.tm i d hd'
  · rcases gbx i d hd with ⟨hl, rfl⟩ | ⟨hl, hd'⟩
    · subst hl
      obtain ⟨hu, hr⟩ := hX i rfl
      obtain ⟨cells, ty, k1, k2, k3⟩ := h.bx i c hc hu
      rw [upT_self]
      exact ⟨cells, ty, k1, hr cells ty k1, k3⟩
    · rw [upT_other τ B' (fun e => hl e.symm)]
      exact h.bx i d hd' hv
  · by_cases hl : l' = l
    · rw [hl, upT_self]; exact hn
    · rw [upT_other τ B' hl]; exact h.nod l'
  · obtain ⟨d0, k1, k2, k3⟩ := gbx2 i d hd hv
    rw [← k2]
    exact h.tb l' k i d0 (sub _ _ hk) k1 k3
  · obtain ⟨d0, k1, k2, k3⟩ := gbx2 i d hd hv
    obtain ⟨d1, m1, m2, m3⟩ := gbx2 j d' hd' hv'
    exact h.bb i j d0 d1 k1 m1 k3 m3 (by rw [k2, m2]; exact he)
  · obtain ⟨d0, k1, k2⟩ : ∃ d0, s.tm[i]? = some d0 ∧ d0.og = d.og := by
      rcases gtm i d hd with ⟨hl, rfl⟩ | ⟨hl, hd'⟩
      · subst hl; exact ⟨c, hc, rfl⟩
      · exact ⟨d, hd', rfl⟩
    have hq := h.og i d0 l' p n k1 (by rw [k2]; exact hg)
    intro d2 hd2
    rw [cellsAt_val hc]
    by_cases hl : l' = l
    · subst hl
      rw [St.get_put s l' _ c hc] at hd2
      cases hd2
      obtain ⟨q1, q2⟩ := hq c hc
      refine ⟨q1, fun y' o hv hy hof => ?_⟩
      obtain ⟨y, hy2, hof2⟩ := ho y' p o hy hof
      exact q2 y o hv hy2 hof2
    · have : (s.put l { c with val := x' }).get l' = s.get l' := by
        cases l with
        | tm j => exact St.get_put_tm s j _ l' hl
        | bx j => exact St.get_put_bx s j _ l' hl
      rw [this] at hd2
      exact hq d2 hd2
  · rcases gbx b d hd with ⟨hl, rfl⟩ | ⟨hl, hd'⟩
    · subst hl
      exact h.gn b c hc
    · exact h.gn b d hd'
mutual
theorem off_sh : ∀ (p : List Nat) (x : T) (o : Nat), x.sh.off p = some o → x.off p = some o
  | [], x, o, h => by rw [T.off] at h ⊢; exact h
  | i :: p, .st fs, o, h => by
    rw [T.sh, T.off] at h
    rw [T.off]
    exact offs_sh i p fs o h
  | i :: p, .v _, o, h => by rw [T.sh] at h; exact h
  | i :: p, .sl _ _ _, o, h => by simp [T.sh, T.off] at h
theorem offs_sh : ∀ (i : Nat) (p : List Nat) (fs : List T) (o : Nat), offs i p (shs fs) = some o → offs i p fs = some o
  | i, p, [], o, h => by rw [shs] at h; exact h
  | 0, p, f :: fs, o, h => by
    rw [shs, offs] at h
    rw [offs]
    exact off_sh p f o h
  | i + 1, p, f :: fs, o, h => by
    rw [shs, offs] at h
    rw [offs]
    cases h1 : offs i p (shs fs) with
    | none => rw [h1] at h; cases h
    | some q =>
      rw [h1] at h
      rw [offs_sh i p fs q h1, ← T.size_sh f]
      exact h
end
theorem off_cp {x : AV} {y' : T} {p : List Nat} {o : Nat} (h : x.cp = .t y') (ho : y'.off p = some o) : ∃ y, x = .t y ∧ y.off p = some o := by
  cases x with
  | t y =>
    have e : AV.t y.sh = .t y' := h
    cases e
    exact ⟨y, rfl, off_sh p y o ho⟩
  | tup xs => cases (show AV.tup (shs xs) = .t y' from h)
  | _ => cases h
/-- What was taken is nobody's. -/
def Free (e : Ent) (w : World) (β : Bm) (τ : Loc → List Nat) (s : St) (B : List Nat) : Prop :=
  B.Nodup ∧ ∀ k ∈ B, k < w.heap.size ∧ (e.w.heap.size ≤ k ∨ k ∈ e.Ba) ∧ (∀ l, k ∉ τ l) ∧ ∀ j c, s.bx[j]? = some c → c.val ≠ .un → k ≠ β j c.gen
section
variable {en : Env} {e : Ent} {w : World} {E : Nat → Nat} {β : Bm} {τ : Loc → List Nat} {a : Act} {s : St}
theorem Sim.free (h : Sim e w E β τ a s) {l : Loc} {c : Cell} {x' : AV} {B B' : List Nat} (hc : s.get l = some c) (hB : ∀ k ∈ B, k ∈ τ l ∧ k ∉ B') (hn : B.Nodup) (hx : ∀ i, l = .bx i → c.val ≠ .un) : Free e w β (upT τ l B') (s.put l { c with val := x' }) B := by
  refine ⟨hn, fun k hk => ?_⟩
  obtain ⟨h1, h2⟩ := hB k hk
  obtain ⟨k1, k2⟩ := h.tok l k h1
  refine ⟨k1, k2, fun l' hl' => ?_, fun j d hd hv => ?_⟩
  · by_cases hl : l' = l
    · rw [hl, upT_self] at hl'; exact h2 hl'
    · rw [upT_other τ B' hl] at hl'; exact hl (h.one l' l k hl' h1)
  · cases l with
    | tm i => exact h.tb _ k j d h1 hd hv
    | bx i =>
      by_cases hj : j = i
      · subst hj
        have e1 : (s.put (.bx j) { c with val := x' }).bx[j]? = some { c with val := x' } := St.get_put s (.bx j) _ c hc
        rw [e1] at hd
        cases hd
        exact h.tb _ k j c h1 hc (hx j rfl)
      · have e1 : (s.put (.bx i) { c with val := x' }).bx[j]? = s.bx[j]? := St.get_put_bx s i _ (.bx j) (fun e => hj (by injection e))
        rw [e1] at hd
        exact h.tb _ k j d h1 hd hv
end
end Go.Proofs.YtgkfjhfehdefaaaGreatDoor.Flat

namespace Go.Proofs.YtgkfjhfehdefaaaGreatDoor.Flat
set_option linter.unusedVariables false
set_option linter.unusedSimpArgs false
set_option linter.unusedSectionVars false
variable [Glob]

theorem valOf_cells {w : World} {E : Nat → Nat} {x : T} {cs : List Value} {B : List Nat} (h : Rep w E x cs B) : (valOf x cs).cells.toList = cs := by
  cases x with
  | st fs => simp [valOf, Value.cells]
  | v u =>
    rw [Rep] at h
    obtain ⟨rfl, hu, _⟩ := h
    cases u <;> first | rfl | cases hu
  | sl o sz xs =>
    rw [Rep] at h
    obtain ⟨A, c, rfl, _⟩ := h
    rfl
theorem valOf_put {p : List Nat} {x x' : T} {o1 o2 : Bool} {sz : Nat} {xs ys : List T} (h : x.at p = some (.sl o1 sz xs)) (hp : x.put p (.sl o2 sz ys) = some x') (cs : List Value) : valOf x' cs = valOf x cs := by
  cases p with
  | nil =>
    rw [T.at] at h
    rw [T.put] at hp
    cases h
    cases hp
    rfl
  | cons i p =>
    cases x with
    | st fs =>
      rw [T.put] at hp
      cases h1 : puts i p fs (.sl o2 sz ys) with
      | none => rw [h1] at hp; cases hp
      | some fs' => rw [h1] at hp; cases hp; rfl
    | v u => simp [T.at] at h
    | sl _ _ _ => simp [T.at] at h
/-- What an operand comes to, its tokens taken out of the frame; what was nobody's is nobody's still. -/
def Took (e : Ent) (w : World) (E : Nat → Nat) (β : Bm) (τ : Loc → List Nat) (a : Act) (s s' : St) (x : AV) (v : Value) : Prop :=
  ∃ τ' B, Sim e w E β τ' a s' ∧ RepV w E e.F β x v B ∧ Free e w β τ' s' B ∧ (∀ k ∈ B, ∃ l, k ∈ τ l) ∧ ∀ B0, Free e w β τ s B0 → Free e w β τ' s' B0
theorem mid_get {α : Type} (c1 c3 : List α) (u : α) : (c1 ++ [u] ++ c3)[c1.length]? = some u := by simp
section
variable {en : Env} {e : Ent} {w : World} {E : Nat → Nat} {β : Bm} {τ : Loc → List Nat} {a : Act} {s : St}
theorem own_slice {w : World} {E : Nat → Nat} {sz : Nat} {xs ys : List T} {v : Value} {B B2 : List Nat} (h1 : Rep w E (.sl false sz xs) [v] B) (h2 : Rep w E (.sl true sz ys) [v] B2) : Rep w E (.sl true sz xs) [v] B2 := by
  rw [Rep] at h1 h2 ⊢
  obtain ⟨A, c, e1, k1, k2, k3⟩ := h1
  obtain ⟨A2, c2, e2, m1, m2, m3⟩ := h2
  cases e1
  injection e2 with e2 _
  injection e2 with ea el ec
  subst ea
  subst ec
  refine ⟨A, c, rfl, k1, k2, ?_⟩
  cases A with
  | none => exact ⟨k3.1, k3.2.1, m3.2.2⟩
  | some ad =>
    obtain ⟨_, tk, htk, m4, m5⟩ := m3
    refine ⟨k3.1, tk, ⟨htk.1, fun h1 h2 => (htk.2 h1 h2).trans el.symm⟩, m4, fun ho => ?_⟩
    obtain ⟨n1, n2, n3⟩ := m5 ho
    exact ⟨n1, by rw [el]; exact n2, n3⟩
theorem Free.val {B0 : List Nat} (hB : Free e w β τ s B0) {l : Loc} {c : Cell} {x' : AV} {B' : List Nat} (hc : s.get l = some c) (hs : ∀ k ∈ B', k ∈ τ l) (hx : ∀ i, l = .bx i → c.val ≠ .un) : Free e w β (upT τ l B') (s.put l { c with val := x' }) B0 := by
  refine ⟨hB.1, fun k hk => ?_⟩
  obtain ⟨k1, k2, k3, k4⟩ := hB.2 k hk
  refine ⟨k1, k2, fun l' hl' => ?_, fun j d hd hv => ?_⟩
  · by_cases hl : l' = l
    · rw [hl, upT_self] at hl'; exact k3 l (hs k hl')
    · rw [upT_other τ B' hl] at hl'; exact k3 l' hl'
  · cases l with
    | tm i => exact k4 j d hd hv
    | bx i =>
      by_cases hj : j = i
      · subst hj
        have e1 : (s.put (.bx j) { c with val := x' }).bx[j]? = some { c with val := x' } := St.get_put s (.bx j) _ c hc
        rw [e1] at hd
        cases hd
        exact k4 j c hc (hx j rfl)
      · have e1 : (s.put (.bx i) { c with val := x' }).bx[j]? = s.bx[j]? := St.get_put_bx s i _ (.bx j) (fun e => hj (by injection e))
        rw [e1] at hd
        exact k4 j d hd hv
theorem mv_tmp (h : Sim e w E β τ a s) {i : Nat} {c : Cell} (hc : s.get (.tm i) = some c) : Took e w E β τ a s (s.put (.tm i) { c with val := c.val.cp }) c.val (a.tmps.getD i undef) := by
  have hv := h.tm i c hc
  refine ⟨_, _, h.val hc (x' := c.val.cp) (B' := []) (fun j hj => ?_) (fun j hj => by cases hj) (fun k hk => by cases hk) List.nodup_nil (fun y' p o hy ho => off_cp hy ho), hv, h.free hc (fun k hk => ⟨hk, by simp⟩) (h.nod _) (fun j hj => by cases hj), fun k hk => ⟨_, hk⟩, fun B0 hB0 => hB0.val hc (fun k hk => by cases hk) (fun j hj => by cases hj)⟩
  cases hj
  exact hv.cp
theorem takeO_sound (h : Sim e w E β τ a s) {i : Nat} {y : AV} {s' : St} {r q : List Loc} (ht : takeO i s = some (y, s', r, q)) : Took e w E β τ a s s' y (a.tmps.getD i undef) ∧ ∃ sz xs, y = .t (.sl true sz xs) := by
  obtain ⟨c, s1, _, _, _, _, h1, h2⟩ := M.bind_some ht
  obtain ⟨g1, rfl⟩ := M.get_some h1
  have hv := h.tm i c g1
  cases hcv : c.val with
  | t z =>
    cases z with
    | v u => simp only [hcv] at h2; exact (M.fail_some h2).elim
    | st fs => simp only [hcv] at h2; exact (M.fail_some h2).elim
    | sl o sz xs =>
      cases o with
      | true =>
        simp only [hcv] at h2
        obtain ⟨_, s2, _, _, _, _, h3, h4⟩ := M.bind_some h2
        obtain ⟨_, rfl⟩ := M.put_some h3
        obtain ⟨rfl, rfl⟩ := M.pure_some h4
        have k1 := mv_tmp h g1
        rw [hcv] at k1
        exact ⟨k1, sz, xs, rfl⟩
      | false =>
        simp only [hcv] at h2
        cases hog : c.og with
        | none => simp only [hog] at h2; exact (M.fail_some h2).elim
        | some g =>
          obtain ⟨l, p, n⟩ := g
          simp only [hog] at h2
          obtain ⟨d, s2, _, _, _, _, h4, h5⟩ := M.bind_some h2
          obtain ⟨g4, rfl⟩ := M.get_some h4
          by_cases hver : (d.ver == n) = true
          case neg => rw [if_neg hver] at h5; exact (M.fail_some h5).elim
          rw [if_pos hver] at h5
          have hver' : d.ver = n := by simpa using hver
          cases hdv : d.val with
          | t yy =>
            simp only [hdv] at h5
            cases hat : yy.at p with
            | none => simp only [hat] at h5; exact (M.fail_some h5).elim
            | some q =>
              simp only [hat] at h5
              cases q with
              | v u => exact (M.fail_some h5).elim
              | st fs => exact (M.fail_some h5).elim
              | sl o' sz' ys =>
                cases o' with
                | false => exact (M.fail_some h5).elim
                | true =>
                  dsimp only at h5
                  cases hput : yy.put p (.sl false sz' ys) with
                  | none => simp only [hput] at h5; exact (M.fail_some h5).elim
                  | some y' =>
                    simp only [hput] at h5
                    by_cases hsz : (sz' == sz) = true
                    case neg => rw [if_neg hsz] at h5; exact (M.fail_some h5).elim
                    rw [if_pos hsz] at h5
                    have hsz' : sz' = sz := by simpa using hsz
                    subst hsz'
                    obtain ⟨_, s3, _, _, _, _, h6, h7⟩ := M.bind_some h5
                    obtain ⟨_, rfl⟩ := M.put_some h6
                    obtain ⟨rfl, rfl⟩ := M.pure_some h7
                    clear h6 h7 h5
                    -- the place's cells
                    have place : ∃ cs, Rep w E yy cs (τ l) ∧ cellsAt w β a s l = cs ∧ (∀ j, l = .tm j → a.tmps.getD j undef = valOf yy cs) := by
                      cases l with
                      | tm j =>
                        have := h.tm j d g4
                        rw [hdv, RepV] at this
                        obtain ⟨cs, k1, k2⟩ := this
                        refine ⟨cs, k1, ?_, fun j' hj => by cases hj; exact k2⟩
                        show (a.tmps.getD j undef).cells.toList = cs
                        rw [k2, valOf_cells k1]
                      | bx j =>
                        obtain ⟨cells, ty, k1, k2, _⟩ := h.bx j d g4 (by rw [hdv]; exact fun h => (by cases h))
                        rw [hdv] at k2
                        refine ⟨cells.toList, k2, ?_, fun j' hj => by cases hj⟩
                        have h4' : s.bx[j]? = some d := g4
                        simp only [cellsAt, h4', k1]
                    obtain ⟨cs, k1, k2, k3⟩ := place
                    obtain ⟨c1, c2, c3, B1, B2, B3, e1, e2, e3, e4, e5⟩ := Rep.ctx p yy _ cs _ k1 hat
                    have hc2 : c2 = [a.tmps.getD i undef] := by
                      have hg := (h.og i c l p n g1 hog d g4).2 yy c1.length hver' hdv e3
                      rw [k2, e1] at hg
                      have e4' := e4
                      rw [Rep] at e4'
                      obtain ⟨A, cc, e6, _⟩ := e4'
                      rw [e6, mid_get] at hg
                      rw [e6, Option.some.inj hg]
                    have hvT := hv
                    rw [hcv, RepV] at hvT
                    obtain ⟨cv, m1, m2⟩ := hvT
                    have m3 : cv = [a.tmps.getD i undef] := by
                      have m1' := m1
                      rw [Rep] at m1'
                      obtain ⟨A, cc, e6, _⟩ := m1'
                      rw [m2, e6]
                      rfl
                    rw [m3] at m1
                    rw [hc2] at e4
                    have hown := own_slice m1 e4
                    have hnod := h.nod l
                    rw [e2] at hnod
                    -- the place without its token
                    have hsh : Rep w E (.sl false sz' ys) c2 [] := by rw [hc2]; exact Rep.sh e4
                    obtain ⟨y2, n1, n2, _⟩ := e5 w E (.sl false sz' ys) c2 [] (Mv.refl w E _) hsh
                    rw [hput] at n1
                    cases n1
                    rw [← e1] at n2
                    have nB : (B1 ++ [] ++ B3).Nodup := by
                      have q := hnod
                      simp only [List.append_nil]
                      rw [List.append_assoc, List.nodup_append] at q
                      rw [List.nodup_append]
                      obtain ⟨q1, q2, q3⟩ := q
                      rw [List.nodup_append] at q2
                      exact ⟨q1, q2.2.1, fun x hx y hy => q3 x hx y (List.mem_append_right _ hy)⟩
                    have sub : ∀ k ∈ B1 ++ [] ++ B3, k ∈ τ l := by
                      intro k hk
                      rw [e2]
                      simp at hk ⊢
                      rcases hk with hk | hk <;> simp [hk]
                    have hsim := h.val g4 (x' := .t y') (B' := B1 ++ [] ++ B3) (fun j hj => by
                        rw [RepV, k3 j hj]
                        exact ⟨cs, n2, (valOf_put hat hput cs).symm⟩)
                      (fun j hj => by
                        subst hj
                        refine ⟨(by rw [hdv]; exact fun h => (by cases h)), fun cells ty hc => ?_⟩
                        have h4' : s.bx[j]? = some d := g4
                        have : cells.toList = cs := by rw [← k2]; simp only [cellsAt, h4', hc]
                        show Rep w E y' cells.toList _
                        rw [this]
                        exact n2) sub nB (fun z q o hz hq => by
                        cases hz
                        exact ⟨yy, hdv, off_put p yy y' true false sz' ys ys hat hput q o hq⟩)
                    refine ⟨⟨_, B2, hsim, by rw [RepV]; exact ⟨_, hown, by rfl⟩, h.free g4 (fun k hk => ⟨(by rw [e2]; simp [hk]), fun hk' => ?_⟩) ?_ (fun j hj => by rw [hdv]; exact fun h => (by cases h)), fun k hk => ⟨l, by rw [e2]; simp [hk]⟩, fun B0 hB0 => hB0.val g4 sub (fun j hj => by rw [hdv]; exact fun h => (by cases h))⟩, _, _, rfl⟩
                    · rw [List.append_assoc, List.nodup_append] at hnod
                      obtain ⟨q1, q2, q3⟩ := hnod
                      rw [List.nodup_append] at q2
                      simp at hk'
                      rcases hk' with hk' | hk'
                      · exact q3 k hk' k (List.mem_append_left _ hk) rfl
                      · exact q2.2.2 k hk k hk' rfl
                    · rw [List.append_assoc, List.nodup_append] at hnod
                      obtain ⟨q1, q2, q3⟩ := hnod
                      rw [List.nodup_append] at q2
                      exact q2.1
          | _ => simp only [hdv] at h5; exact (M.fail_some h5).elim
  | _ => simp only [hcv] at h2; exact (M.fail_some h2).elim
theorem took_none (h : Sim e w E β τ a s) {x : AV} {v : Value} (hv : RepV w E e.F β x v []) : Took e w E β τ a s s x v := ⟨τ, [], h, hv, ⟨List.nodup_nil, fun k hk => by cases hk⟩, fun k hk => (by cases hk), fun _ h => h⟩
theorem mvO_sound (h : Sim e w E β τ a s) {t : TypeId} {x : Operand} {y : AV} {s' : St} {r q : List Loc} (ht : mvO en t x s = some (y, s', r, q)) : Took e w E β τ a s s' y (a.eval x) := by
  have other : rdO en t x s = some (y, s', r, q) → Took e w E β τ a s s' y (a.eval x) := by
    intro hx
    obtain ⟨rfl, k⟩ := rdO_sound h hx
    exact took_none h k
  cases x with
  | tmp i =>
    obtain ⟨c, s1, _, _, _, _, h1, h2⟩ := M.bind_some ht
    obtain ⟨g1, rfl⟩ := M.get_some h1
    have hp : y = c.val ∧ s' = s.put (.tm i) { c with val := c.val.cp } := by
      cases hcv : c.val with
      | un => simp only [hcv] at h2; exact (M.fail_some h2).elim
      | nd => simp only [hcv] at h2; exact (M.fail_some h2).elim
      | _ =>
        simp only [hcv] at h2
        obtain ⟨_, s2, _, _, _, _, h3, h4⟩ := M.bind_some h2
        obtain ⟨_, rfl⟩ := M.put_some h3
        obtain ⟨rfl, rfl⟩ := M.pure_some h4
        exact ⟨rfl, rfl⟩
    obtain ⟨rfl, rfl⟩ := hp
    exact mv_tmp h g1
  | const v => exact other ht
  | global g => exact other ht
  | func f => exact other ht
theorem mvFin_sound (h : Sim e w E β τ a s) {b : Bool} {t : TypeId} {x : Operand} {y : AV} {s' : St} {r q : List Loc} (ht : mvFin en b t x s = some (y, s', r, q)) : Took e w E β τ a s s' y (a.eval x) := by
  cases b with
  | false => cases x <;> exact mvO_sound (en := en) (t := t) h ht
  | true =>
    cases x with
    | tmp i =>
      obtain ⟨c, s1, _, _, _, _, h1, h2⟩ := M.bind_some ht
      obtain ⟨_, rfl⟩ := M.get_some h1
      have key : ∀ {r' q' : List Loc}, mvO en t (.tmp i) s = some (y, s', r', q') → Took e w E β τ a s s' y (a.eval (.tmp i)) := fun hq => mvO_sound h hq
      have key2 : ∀ {r' q' : List Loc}, takeO i s = some (y, s', r', q') → Took e w E β τ a s s' y (a.eval (.tmp i)) := fun hq => (takeO_sound h hq).1
      obtain ⟨val, og, ver, gen⟩ := c
      cases val with
      | t z =>
        cases z with
        | sl o sz xs =>
          cases o with
          | false =>
            cases og with
            | none => exact key h2
            | some g =>
              obtain ⟨l, p, n⟩ := g
              obtain ⟨d, s2, _, _, _, _, h4, h5⟩ := M.bind_some h2
              obtain ⟨_, rfl⟩ := M.get_some h4
              obtain ⟨dval, dog, dver, dgen⟩ := d
              cases dval with
              | t yy =>
                dsimp only at h5
                cases hat : yy.at p with
                | none => rw [hat] at h5; exact key h5
                | some q =>
                  rw [hat] at h5
                  cases q with
                  | sl o' sz' ys =>
                    cases o' with
                    | true =>
                      dsimp only at h5
                      by_cases hver : (dver == n) = true
                      · rw [if_pos hver] at h5; exact key2 h5
                      · rw [if_neg hver] at h5; exact key h5
                    | false => exact key h5
                  | _ => exact key h5
              | _ => exact key h5
          | true => exact key h2
        | _ => exact key h2
      | _ => exact key h2
    | const v => exact mvO_sound (en := en) (t := t) h ht
    | global g => exact mvO_sound (en := en) (t := t) h ht
    | func f => exact mvO_sound (en := en) (t := t) h ht
end
end Go.Proofs.YtgkfjhfehdefaaaGreatDoor.Flat

namespace Go.Proofs.YtgkfjhfehdefaaaGreatDoor.Flat
set_option linter.unusedVariables false
set_option linter.unusedSimpArgs false
set_option linter.unusedSectionVars false
variable [Glob]

/-- An operation has come to its end, and the frame with it. -/
def Done (en : Env) (o : Oper) (e : Ent) (w : World) (a : Act) (s' : St) : Prop :=
  ∃ n v w' E' β' τ', (execOp a.eval o).run en.P w = .ok n w' ∧ (n = .value v ∨ n = .skip ∧ v = undef) ∧ Sim e w' E' β' τ' (a.put o.dst v) s'
theorem ev_v {P : Program} {m : Sem Value} {v : Value} (h : ev P m = some v) (w : World) : (do pure (Next.value (← m)) : Sem Next).run P w = .ok (.value v) w := by
  rw [Sem.run_bind, ev_run h w]
  rfl
section
variable {en : Env} {e : Ent} {w : World} {E : Nat → Nat} {β : Bm} {τ : Loc → List Nat} {a : Act} {s s' : St} {o : Oper} {r q : List Loc} {u : Unit}
theorem ogOf_ok (h : Sim e w E β τ a s) {j : Nat} {c : Cell} (hc : s.get (.tm j) = some c) : ∀ l p n, ogOf j c = some (l, p, n) → ∀ d, s.get l = some d → n ≤ d.ver ∧ ∀ y k, d.ver = n → d.val = .t y → y.off p = some k → (cellsAt w β a s l)[k]? = some (a.tmps.getD j undef) := by
  intro l p n hg d hd
  have hv := h.tm j c hc
  have own : ∀ {o' : Bool} {sz : Nat} {xs : List T}, c.val = .t (.sl o' sz xs) → ogOf j c = some (.tm j, [], c.ver) → n ≤ d.ver ∧ ∀ y k, d.ver = n → d.val = .t y → y.off p = some k → (cellsAt w β a s l)[k]? = some (a.tmps.getD j undef) := by
    intro o' sz xs hcv hq
    rw [hq] at hg
    cases hg
    rw [hc] at hd
    cases hd
    refine ⟨Nat.le_refl _, fun y k _ hy hk => ?_⟩
    rw [T.off] at hk
    cases hk
    rw [hcv, RepV] at hv
    obtain ⟨cs, k1, k2⟩ := hv
    rw [Rep] at k1
    obtain ⟨A, cc, rfl, _⟩ := k1
    show (a.tmps.getD j undef).cells.toList[0]? = _
    rw [k2]
    rfl
  cases hcv : c.val with
  | t z =>
    cases z with
    | sl o' sz xs =>
      cases o' with
      | true => exact own hcv (by unfold ogOf; rw [hcv])
      | false =>
        cases hog : c.og with
        | none => exact own hcv (by unfold ogOf; rw [hcv, hog])
        | some g =>
          obtain ⟨l', p', n'⟩ := g
          have : ogOf j c = some (l', p', n') := by unfold ogOf; rw [hcv, hog]
          rw [this] at hg
          cases hg
          exact h.og j c l p n hc hog d hd
    | _ => unfold ogOf at hg; rw [hcv] at hg; cases hg
  | _ => unfold ogOf at hg; rw [hcv] at hg; cases hg
theorem no_tok : ([] : List Nat).Nodup ∧ ∀ k ∈ ([] : List Nat), k < w.heap.size ∧ (e.w.heap.size ≤ k ∨ k ∈ e.Ba) ∧ (∀ l, k ∉ τ l) ∧ ∀ j c, s.bx[j]? = some c → c.val ≠ .un → k ≠ β j c.gen := ⟨List.nodup_nil, fun k hk => by cases hk⟩
theorem no_og {v : Value} : ∀ l p n, (none : Option (Loc × List Nat × Nat)) = some (l, p, n) → ∀ d, s.get l = some d → n ≤ d.ver ∧ ∀ y o, d.ver = n → d.val = .t y → y.off p = some o → (cellsAt w β a s l)[o]? = some v := fun l p n h => by cases h
theorem RepT_ok {v : Value} (h : okv v = true) (w : World) (E : Nat → Nat) : RepT w E (.v v) v [] := ⟨[v], by rw [Rep]; exact ⟨rfl, h, rfl⟩, rfl⟩
/-- An operation that yields a value, and asks nothing of the world. -/
theorem done_v (h : Sim e w E β τ a s) {m : Sem Value} {v : Value} (hm : ev en.P m = some v) (hx : execOp a.eval o = (do pure (Next.value (← m)))) {x : AV} {B : List Nat} (hv : RepV w E e.F β x v B) (hB : Free e w β τ s B) (hw : wr o.dst x none s = some (u, s', r, q)) : Done en o e w a s' := by
  obtain ⟨τ', k⟩ := Sim.wr h hw hv hB no_og
  exact ⟨.value v, v, w, E, β, τ', by rw [hx]; exact ev_v hm w, .inl rfl, k⟩
theorem done_s (h : Sim e w E β τ a s) {m : Sem Value} {v : Value} (hm : ev en.P m = some v) (hx : execOp a.eval o = (do pure (Next.value (← m)))) (hok : okv v = true) (hw : wr o.dst (.t (.v v)) none s = some (u, s', r, q)) : Done en o e w a s' :=
  done_v h hm hx (by rw [RepV]; exact RepT_ok hok w E) no_tok hw
theorem mvTup_sound (h : Sim e w E β τ a s) {t : TypeId} {x : Operand} {y : AV} {s' : St} {r q : List Loc} (ht : mvTup en t x s = some (y, s', r, q)) : Took e w E β τ a s s' y (a.eval x) := by
  have other : ∀ {r q : List Loc}, rdO en t x s = some (y, s', r, q) → Took e w E β τ a s s' y (a.eval x) := by
    intro r q hx
    obtain ⟨rfl, k⟩ := rdO_sound h hx
    exact took_none h k
  cases x with
  | tmp i =>
    obtain ⟨c, s1, _, _, _, _, h1, h2⟩ := M.bind_some ht
    obtain ⟨_, rfl⟩ := M.get_some h1
    obtain ⟨val, og, ver, gen⟩ := c
    cases val with
    | tup xs => exact mvO_sound h h2
    | _ => exact other h2
  | _ => exact other ht
theorem fire_move (h : Sim e w E β τ a s) {x : Operand} (ho : o.op = .move x) (hf : fire en o s = some (u, s', r, q)) : Done en o e w a s' := by
  unfold fire at hf
  rw [ho] at hf
  obtain ⟨y, s1, _, _, _, _, h1, h2⟩ := M.bind_some hf
  obtain ⟨τ1, B, k1, k2, k3, _⟩ := mvTup_sound h h1
  obtain ⟨og, s2, _, _, _, _, h3, h4⟩ := M.bind_some h2
  have hx : (execOp a.eval o).run en.P w = .ok (.value (a.eval x)) w := by unfold execOp; rw [ho]; rfl
  cases x with
  | tmp j =>
    obtain ⟨c, s3, _, _, _, _, h5, h6⟩ := M.bind_some h3
    obtain ⟨g5, rfl⟩ := M.get_some h5
    obtain ⟨rfl, rfl⟩ := M.pure_some h6
    obtain ⟨τ', k⟩ := Sim.wr k1 h4 k2 k3 (ogOf_ok k1 g5)
    exact ⟨_, _, w, E, β, τ', hx, .inl rfl, k⟩
  | const v =>
    obtain ⟨rfl, rfl⟩ := M.pure_some (s := s1) h3
    obtain ⟨τ', k⟩ := Sim.wr k1 h4 k2 k3 no_og
    exact ⟨_, _, w, E, β, τ', hx, .inl rfl, k⟩
  | global g =>
    obtain ⟨rfl, rfl⟩ := M.pure_some (s := s1) h3
    obtain ⟨τ', k⟩ := Sim.wr k1 h4 k2 k3 no_og
    exact ⟨_, _, w, E, β, τ', hx, .inl rfl, k⟩
  | func g =>
    obtain ⟨rfl, rfl⟩ := M.pure_some (s := s1) h3
    obtain ⟨τ', k⟩ := Sim.wr k1 h4 k2 k3 no_og
    exact ⟨_, _, w, E, β, τ', hx, .inl rfl, k⟩
theorem fire_assign (h : Sim e w E β τ a s) {x : Operand} (ho : o.op = .assign x) (hf : fire en o s = some (u, s', r, q)) : Done en o e w a s' := by
  unfold fire at hf
  rw [ho] at hf
  obtain ⟨y, s1, _, _, _, _, h1, h2⟩ := M.bind_some hf
  obtain ⟨τ1, B, k1, k2, k3, _⟩ := mvFin_sound h h1
  obtain ⟨τ', k⟩ := Sim.wr k1 h2 k2 k3 no_og
  exact ⟨_, _, w, E, β, τ', by unfold execOp; rw [ho]; rfl, .inl rfl, k⟩
theorem fire_pick (h : Sim e w E β τ a s) {c x y : Operand} (ho : o.op = .pick c x y) (hf : fire en o s = some (u, s', r, q)) : Done en o e w a s' := by
  unfold fire at hf
  rw [ho] at hf
  obtain ⟨b, s1, _, _, _, _, h1, h2⟩ := M.bind_some hf
  obtain ⟨rfl, e1, _⟩ := rdV_sound h h1
  cases b with
  | bool b =>
    obtain ⟨z, s2, _, _, _, _, h3, h4⟩ := M.bind_some h2
    obtain ⟨rfl, hv⟩ := rdO_sound h h3
    obtain ⟨τ', k⟩ := Sim.wr h h4 hv no_tok no_og
    refine ⟨_, _, w, E, β, τ', ?_, .inl rfl, k⟩
    unfold execOp
    rw [ho]
    dsimp only
    rw [e1, Sem.run_bind]
    cases b <;> rfl
  | _ => exact (M.fail_some h2).elim
theorem fire_binOp (h : Sim e w E β τ a s) {op : BinOp} {t t' : TypeId} {x y : Operand} (ho : o.op = .binOp op t x y t') (hf : fire en o s = some (u, s', r, q)) : Done en o e w a s' := by
  unfold fire at hf
  rw [ho] at hf
  obtain ⟨x1, s1, _, _, _, _, h1, h2⟩ := M.bind_some hf
  obtain ⟨rfl, e1, _⟩ := rdV_sound h h1
  obtain ⟨y1, s2, _, _, _, _, h3, h4⟩ := M.bind_some h2
  obtain ⟨rfl, e2, _⟩ := rdV_sound h h3
  obtain ⟨v, s3, _, _, _, _, h5, h6⟩ := M.bind_some h4
  obtain ⟨g5, rfl⟩ := M.lift_some h5
  obtain ⟨_, s4, _, _, _, _, h7, h8⟩ := M.bind_some h6
  obtain ⟨g7, rfl⟩ := M.when_some h7
  exact done_s h g5 (by unfold execOp; rw [ho]; dsimp only; rw [e1, e2]) g7 h8
theorem fire_unOp (h : Sim e w E β τ a s) {op : UnOp} {t : TypeId} {x : Operand} (ho : o.op = .unOp op t x) (hf : fire en o s = some (u, s', r, q)) : Done en o e w a s' := by
  unfold fire at hf
  rw [ho] at hf
  obtain ⟨x1, s1, _, _, _, _, h1, h2⟩ := M.bind_some hf
  obtain ⟨rfl, e1, _⟩ := rdV_sound h h1
  obtain ⟨v, s3, _, _, _, _, h5, h6⟩ := M.bind_some h2
  obtain ⟨g5, rfl⟩ := M.lift_some h5
  obtain ⟨_, s4, _, _, _, _, h7, h8⟩ := M.bind_some h6
  obtain ⟨g7, rfl⟩ := M.when_some h7
  exact done_s h g5 (by unfold execOp; rw [ho]; dsimp only; rw [e1]) g7 h8
theorem fire_convert (h : Sim e w E β τ a s) {t t' : TypeId} {x : Operand} (ho : o.op = .convert t t' x) (hf : fire en o s = some (u, s', r, q)) : Done en o e w a s' := by
  unfold fire at hf
  rw [ho] at hf
  obtain ⟨x1, s1, _, _, _, _, h1, h2⟩ := M.bind_some hf
  obtain ⟨rfl, e1, _⟩ := rdV_sound h h1
  obtain ⟨v, s3, _, _, _, _, h5, h6⟩ := M.bind_some h2
  obtain ⟨g5, rfl⟩ := M.lift_some h5
  obtain ⟨_, s4, _, _, _, _, h7, h8⟩ := M.bind_some h6
  obtain ⟨g7, rfl⟩ := M.when_some h7
  exact done_s h g5 (by unfold execOp; rw [ho]; dsimp only; rw [e1]) g7 h8
theorem fire_index_s (h : Sim e w E β τ a s) {t : TypeId} {x ix : Operand} (ho : o.op = .index t x ix) (hn : arrOf en.P t = none) (hf : fire en o s = some (u, s', r, q)) : Done en o e w a s' := by
  unfold fire at hf
  rw [ho] at hf
  dsimp only at hf
  rw [hn] at hf
  obtain ⟨x1, s1, _, _, _, _, h1, h2⟩ := M.bind_some hf
  obtain ⟨rfl, e1, _⟩ := rdV_sound h h1
  obtain ⟨y1, s2, _, _, _, _, h3, h4⟩ := M.bind_some h2
  obtain ⟨rfl, e2, _⟩ := rdV_sound h h3
  obtain ⟨v, s3, _, _, _, _, h5, h6⟩ := M.bind_some h4
  obtain ⟨g5, rfl⟩ := M.lift_some h5
  obtain ⟨_, s4, _, _, _, _, h7, h8⟩ := M.bind_some h6
  obtain ⟨g7, rfl⟩ := M.when_some h7
  exact done_s h g5 (by unfold execOp; rw [ho]; dsimp only; rw [e1, e2]) g7 h8
end
end Go.Proofs.YtgkfjhfehdefaaaGreatDoor.Flat

namespace Go.Proofs.YtgkfjhfehdefaaaGreatDoor.Flat
set_option linter.unusedVariables false
set_option linter.unusedSimpArgs false
set_option linter.unusedSectionVars false
variable [Glob]

theorem RepS.at {w : World} {E : Nat → Nat} : ∀ {fs : List T} {f : Nat} {y : T} {cs : List Value} {B : List Nat}, RepS w E fs cs B → fs[f]? = some y → ∃ c1 c2 c3 B2, cs = c1 ++ c2 ++ c3 ∧ c1.length = sizes (fs.take f) ∧ Rep w E y c2 B2 ∧ ∀ k ∈ B2, k ∈ B
  | [], f, y, cs, B, h, hf => by cases hf
  | g :: fs, 0, y, cs, B, h, hf => by
    rw [RepS] at h
    obtain ⟨c1, c2, B1, B2, e1, e2, h1, h2⟩ := h
    cases hf
    exact ⟨[], c1, c2, B1, e1, rfl, h1, fun k hk => by rw [e2]; exact List.mem_append_left _ hk⟩
  | g :: fs, f + 1, y, cs, B, h, hf => by
    rw [RepS] at h
    obtain ⟨c1, c2, B1, B2, e1, e2, h1, h2⟩ := h
    obtain ⟨d1, d2, d3, B3, k1, k2, k3, k4⟩ := RepS.at h2 (show fs[f]? = some y from hf)
    refine ⟨c1 ++ d1, d2, d3, B3, by rw [e1, k1]; simp, ?_, k3, fun k hk => by rw [e2]; exact List.mem_append_right _ (k4 k hk)⟩
    rw [List.length_append, Rep.len h1, k2, List.take_succ_cons, sizes]
section
variable {P : Program} {w : World} {E : Nat → Nat}
theorem fits_size {t : TypeId} {y : T} (h : fits P t y = true) : ∃ i, P.info? t = some i ∧ i.size = y.size := by
  unfold fits sizeT at h
  rw [Bool.and_eq_true] at h
  obtain ⟨h1, _⟩ := h
  cases hi : P.info? t with
  | none => rw [hi] at h1; cases h1
  | some i =>
    rw [hi] at h1
    refine ⟨i, rfl, ?_⟩
    have : (some i.size == some y.size) = true := h1
    simpa using this
theorem fits_agg {t : TypeId} {y : T} (h : fits P t y = true) (w : World) : ∃ b, (isAgg t).run P w = .ok b w ∧ (b = true ↔ ∃ fs, y = .st fs) := by
  unfold fits at h
  rw [Bool.and_eq_true] at h
  obtain ⟨_, h2⟩ := h
  cases hu : P.underlying t with
  | none => rw [hu] at h2; cases y <;> cases h2
  | some d =>
    rw [hu] at h2
    refine ⟨match d with | .struct _ | .array _ _ => true | _ => false, ?_, ?_⟩
    · unfold isAgg
      rw [Sem.run_bind, run_underlying hu w]
      cases d <;> rfl
    · cases y with
      | st fs => cases d <;> first | exact ⟨fun _ => ⟨fs, rfl⟩, fun _ => rfl⟩ | cases h2
      | v x => cases d <;> first | (cases h2; done) | exact ⟨(fun h => by cases h), (fun h => by obtain ⟨_, h⟩ := h; cases h)⟩
      | sl o sz xs => cases d <;> first | (cases h2; done) | exact ⟨(fun h => by cases h), (fun h => by obtain ⟨_, h⟩ := h; cases h)⟩
theorem one_cell {y : T} {cs : List Value} {B : List Nat} (h : Rep w E y cs B) (hy : ∀ fs, y ≠ .st fs) : ∃ u, cs = [u] ∧ valOf y cs = u := by
  cases y with
  | st fs => exact absurd rfl (hy fs)
  | v x => rw [Rep] at h; exact ⟨x, h.1, by rw [h.1]; rfl⟩
  | sl o sz xs => rw [Rep] at h; obtain ⟨A, c, e, _⟩ := h; exact ⟨_, e, by rw [e]; rfl⟩
theorem run_loadVar {t : TypeId} {y : T} {cs : List Value} {B : List Nat} {ad : Addr} (hf : fits P t y = true) (hr : Rep w E y cs B) (hc : ∀ j u, cs[j]? = some u → w.cell? (ad.add j) = some u) : (loadVar t ad).run P w = .ok (valOf y cs) w := by
  obtain ⟨i, hi, hs⟩ := fits_size hf
  obtain ⟨b, hb, hbs⟩ := fits_agg hf w
  have hsz : (sizeOf t).run P w = .ok i.size w := by unfold sizeOf typeInfo; simp [hi]
  unfold loadVar
  rw [Sem.run_bind, hb]
  cases b with
  | true =>
    obtain ⟨fs, rfl⟩ := hbs.1 rfl
    have hl := run_loadCells_list (P := P) w ad cs hc
    have : i.size = cs.length := by rw [hs, Rep.len hr]
    simp [hsz, this, hl, valOf]
  | false =>
    obtain ⟨u, e1, e2⟩ := one_cell hr (fun fs hfs => by have := hbs.2 ⟨fs, hfs⟩; cases this)
    rw [e2]
    have h0 := hc 0 u (by rw [e1]; rfl)
    have : ad.add 0 = ad := by unfold Addr.add; rw [if_pos rfl]
    rw [this] at h0
    simp [h0]
theorem run_part {t : TypeId} {y : T} {c1 c2 c3 : List Value} {B : List Nat} (hf : fits P t y = true) (hr : Rep w E y c2 B) : (part t (c1 ++ c2 ++ c3).toArray c1.length).run P w = .ok (valOf y c2) w := by
  obtain ⟨i, hi, hs⟩ := fits_size hf
  obtain ⟨b, hb, hbs⟩ := fits_agg hf w
  have hsz : (sizeOf t).run P w = .ok i.size w := by unfold sizeOf typeInfo; simp [hi]
  unfold part
  rw [Sem.run_bind, hb]
  cases b with
  | true =>
    obtain ⟨fs, rfl⟩ := hbs.1 rfl
    have hl : i.size = c2.length := by rw [hs, Rep.len hr]
    have : (c1 ++ c2 ++ c3).toArray.extract c1.length (c1.length + c2.length) = c2.toArray := by
      apply Array.ext'
      simp [Array.toList_extract, List.extract]
    simp only [Result.andThen_ok, if_true, Sem.run_bind, hsz, hl, this]
    rfl
  | false =>
    obtain ⟨u, e1, e2⟩ := one_cell hr (fun fs hfs => by have := hbs.2 ⟨fs, hfs⟩; cases this)
    rw [e2, e1]
    have : (c1 ++ [u] ++ c3).toArray[c1.length]? = some u := by simp
    simp [this]
end
section
variable {en : Env} {e : Ent} {w : World} {E : Nat → Nat} {β : Bm} {τ : Loc → List Nat} {a : Act} {s s' : St} {o : Oper} {r q : List Loc} {u : Unit}
theorem fieldOf_some {t ft : TypeId} {f off : Nat} (h : fieldOf en t f = some (ft, off)) : ∃ (fs : Array Field) (d : Field) (i : TypeInfo), en.P.underlying t = some (.struct fs) ∧ fs[f]? = some d ∧ d.type = ft ∧ d.offset = off ∧ en.P.info? ft = some i ∧ 0 < i.size := by
  unfold fieldOf at h
  split at h
  · rename_i fs hu
    split at h
    · rename_i d hd
      split at h
      · rename_i n hn
        by_cases h0 : 0 < n
        · rw [if_pos h0] at h
          cases h
          unfold sizeT at hn
          cases hi : en.P.info? d.type with
          | none => rw [hi] at hn; cases hn
          | some i =>
            rw [hi] at hn
            cases hn
            exact ⟨fs, d, i, hu, hd, rfl, rfl, by first | exact hi | rfl, h0⟩
        · rw [if_neg h0] at h; cases h
      · cases h
    · cases h
  · cases h
theorem fire_field (h : Sim e w E β τ a s) {t : TypeId} {x : Operand} {f : Nat} (ho : o.op = .field t x f) (hf : fire en o s = some (u, s', r, q)) : Done en o e w a s' := by
  unfold fire at hf
  rw [ho] at hf
  obtain ⟨⟨ft, off⟩, s1, _, _, _, _, h1, h2⟩ := M.bind_some hf
  obtain ⟨g1, rfl⟩ := M.lift_some h1
  obtain ⟨y, s2, _, _, _, _, h3, h4⟩ := M.bind_some h2
  obtain ⟨rfl, hv⟩ := rdO_sound h h3
  obtain ⟨fs, d, i, k1, k2, k3, k4, _⟩ := fieldOf_some g1
  cases y with
  | t y =>
    cases y with
    | st ys =>
      dsimp only at h4
      cases hy : ys[f]? with
      | none => simp only [hy] at h4; exact (M.fail_some h4).elim
      | some z =>
        simp only [hy] at h4
        obtain ⟨_, s3, _, _, _, _, h5, h6⟩ := M.bind_some h4
        obtain ⟨g5, rfl⟩ := M.when_some h5
        rw [Bool.and_eq_true] at g5
        obtain ⟨g6, g7⟩ := g5
        rw [RepV] at hv
        obtain ⟨cs, m1, m2⟩ := hv
        rw [Rep] at m1
        obtain ⟨c1, c2, c3, B2, n1, n2, n3, n4⟩ := RepS.at m1 hy
        have hB2 : B2 = [] := List.eq_nil_iff_forall_not_mem.2 (fun k hk => by cases n4 k hk)
        subst hB2
        have hrun := run_part (P := en.P) (w := w) (c1 := c1) (c3 := c3) g7 n3
        obtain ⟨τ', k⟩ := Sim.wr h h6 (v := valOf z c2) (by rw [RepV]; exact ⟨c2, n3, rfl⟩) no_tok no_og
        refine ⟨_, _, w, E, β, τ', ?_, .inl rfl, k⟩
        have hoff : d.offset = c1.length := by rw [n2, k4]; exact (by simpa using g6 : sizes (ys.take f) = off).symm
        unfold execOp
        rw [ho]
        dsimp only
        rw [m2]
        unfold Instr.field
        simp only [Sem.run_bind, run_underlying k1 w, Result.andThen_ok, k2, valOf, asAgg, Sem.run_pure, k3, hoff, n1, hrun]
    | _ => exact (M.fail_some h4).elim
  | _ => exact (M.fail_some h4).elim
theorem sizes_take {sz : Nat} : ∀ {fs : List T} {k : Nat}, (∀ z ∈ fs, z.size = sz) → k ≤ fs.length → sizes (fs.take k) = k * sz
  | _, 0, _, _ => by rw [List.take_zero, sizes, Nat.zero_mul]
  | [], k + 1, _, h => absurd h (by simp)
  | f :: fs, k + 1, h, hl => by
    rw [List.take_succ_cons, sizes, h f (by simp), sizes_take (fun z hz => h z (by simp [hz])) (by simpa using hl), Nat.succ_mul]
    omega
theorem fire_index (h : Sim e w E β τ a s) {t : TypeId} {x ix : Operand} (ho : o.op = .index t x ix) (hf : fire en o s = some (u, s', r, q)) : Done en o e w a s' := by
  cases hn : arrOf en.P t with
  | none => exact fire_index_s h ho hn hf
  | some p =>
    obtain ⟨len, el⟩ := p
    unfold fire at hf
    rw [ho] at hf
    dsimp only at hf
    rw [hn] at hf
    have k1 : en.P.underlying t = some (.array len el) := by
      unfold arrOf at hn
      split at hn
      · rename_i l' e' hu
        cases hn
        exact hu
      · cases hn
    obtain ⟨i, s1, _, _, _, _, h1, h2⟩ := M.bind_some hf
    obtain ⟨rfl, ki, e1⟩ := rdI_sound h h1
    obtain ⟨y, s2, _, _, _, _, h3, h4⟩ := M.bind_some h2
    obtain ⟨rfl, hv⟩ := rdO_sound h h3
    cases y with
    | t y =>
      cases y with
      | st ys =>
        dsimp only at h4
        obtain ⟨_, s3, _, _, _, _, h5, h6⟩ := M.bind_some h4
        obtain ⟨g5, rfl⟩ := M.when_some h5
        rw [Bool.and_eq_true, decide_eq_true_eq] at g5
        obtain ⟨g6, g7⟩ := g5
        obtain ⟨z, s4, _, _, _, _, h7, h8⟩ := M.bind_some h6
        obtain ⟨hy, rfl⟩ := M.lift_some h7
        have hall : ∀ z ∈ ys, fits en.P el z = true := by
          unfold fitsAll at g6
          exact List.all_eq_true.1 g6
        have hz := hall z (List.mem_of_getElem? hy)
        obtain ⟨inf, hi, hs⟩ := fits_size hz
        have hsz : ∀ z' ∈ ys, z'.size = inf.size := fun z' hz' => by
          obtain ⟨inf', hi', hs'⟩ := fits_size (hall z' hz')
          rw [hi] at hi'
          cases hi'
          exact hs'.symm
        rw [RepV] at hv
        obtain ⟨cs, m1, m2⟩ := hv
        rw [Rep] at m1
        obtain ⟨c1, c2, c3, B2, n1, n2, n3, n4⟩ := RepS.at m1 hy
        have hB2 : B2 = [] := List.eq_nil_iff_forall_not_mem.2 (fun k hk => by cases n4 k hk)
        subst hB2
        have hrun := run_part (P := en.P) (w := w) (c1 := c1) (c3 := c3) hz n3
        obtain ⟨τ', k⟩ := Sim.wr h h8 (v := valOf z c2) (by rw [RepV]; exact ⟨c2, n3, rfl⟩) no_tok no_og
        refine ⟨_, _, w, E, β, τ', ?_, .inl rfl, k⟩
        have hlt : i.toNat < ys.length := by
          rcases Nat.lt_or_ge i.toNat ys.length with hl | hl
          · exact hl
          · rw [List.getElem?_eq_none hl] at hy
            cases hy
        have hoff : i.toNat * inf.size = c1.length := by rw [n2, sizes_take hsz (Nat.le_of_lt hlt)]
        have hsize : (sizeOf el).run en.P w = .ok inf.size w := by unfold sizeOf typeInfo; simp [hi]
        have hint : (asIntOf (.int ki i)).run en.P w = .ok (ki, i) w := rfl
        unfold execOp
        rw [ho]
        dsimp only
        rw [m2, e1]
        unfold Instr.index
        simp only [Sem.run_bind, hint, run_underlying k1 w, Result.andThen_ok, valOf]
        rw [if_pos g7]
        simp only [Sem.run_bind, hsize, Result.andThen_ok, hoff, n1, hrun]
        rfl
      | _ => exact (M.fail_some h4).elim
    | _ => exact (M.fail_some h4).elim
end
end Go.Proofs.YtgkfjhfehdefaaaGreatDoor.Flat

namespace Go.Proofs.YtgkfjhfehdefaaaGreatDoor.Flat
set_option linter.unusedVariables false
set_option linter.unusedSimpArgs false
set_option linter.unusedSectionVars false
variable [Glob]

omit [Glob] in
theorem add_add (a : Addr) (m n : Nat) : (a.add m).add n = a.add (m + n) := by
  unfold Addr.add
  by_cases h1 : m = 0 <;> by_cases h2 : n = 0 <;> simp [h1, h2, Nat.add_assoc]
omit [Glob] in
theorem add_plain' (k o n : Nat) : (⟨k, o, none⟩ : Addr).add n = ⟨k, o + n, none⟩ := by
  unfold Addr.add
  split
  · rename_i h; rw [h]; rfl
  · rfl
theorem add_none' {b o j : Nat} : (⟨b, o, none⟩ : Addr).add j = ⟨b, o + j, none⟩ := add_plain' b o j
theorem RepA.at {w : World} {E : Nat → Nat} {sz : Nat} {ad : Addr} : ∀ {xs : List T} {o i : Nat} {y : T}, RepA w E sz ad o xs → xs[i]? = some y → ad.off + (o + i * sz) + sz ≤ E ad.block ∧ ∃ cs, cs.length = sz ∧ (∀ j u, cs[j]? = some u → w.cell? (ad.add (o + i * sz + j)) = some u) ∧ Rep w E y cs []
  | [], o, i, y, h, hy => by cases hy
  | x :: xs, o, 0, y, h, hy => by
    rw [RepA] at h
    cases hy
    obtain ⟨⟨h1, cs, h2, h3, h4⟩, _⟩ := h
    exact ⟨by omega, cs, h2, fun j u hj => by rw [Nat.zero_mul, Nat.add_zero]; exact h3 j u hj, h4⟩
  | x :: xs, o, i + 1, y, h, hy => by
    rw [RepA] at h
    obtain ⟨k1, cs, k2, k3, k4⟩ := RepA.at h.2 (show xs[i]? = some y from hy)
    have e : o + sz + i * sz = o + (i + 1) * sz := by rw [Nat.add_mul]; omega
    rw [e] at k1 k3
    exact ⟨k1, cs, k2, k3, k4⟩
section
variable {en : Env} {e : Ent} {w : World} {E : Nat → Nat} {β : Bm} {τ : Loc → List Nat} {a : Act} {s s' : St} {o : Oper} {r q : List Loc} {u : Unit}
theorem run_fieldAt {t ft : TypeId} {f off : Nat} (h : fieldOf en t f = some (ft, off)) (ad : Addr) (w : World) : (Instr.fieldAt t (.pointer (some ad)) f).run en.P w = .ok (.pointer (some (ad.add off))) w := by
  obtain ⟨fs, d, i, k1, k2, k3, k4, k5, k6⟩ := fieldOf_some h
  have hsz : (sizeOf d.type).run en.P w = .ok i.size w := by unfold sizeOf typeInfo; rw [k3]; simp [k5]
  have hne : ¬ i.size = 0 := by omega
  unfold Instr.fieldAt
  simp only [Sem.run_bind, run_underlying k1 w, Result.andThen_ok, k2, Instr.sureAddr, Sem.run_pure, fieldPlace, hsz, hne, if_false, k4]
theorem fire_fieldAddr (h : Sim e w E β τ a s) {t : TypeId} {x : Operand} {f : Nat} (ho : o.op = .fieldAddr t x f) (hf : fire en o s = some (u, s', r, q)) : Done en o e w a s' := by
  unfold fire at hf
  rw [ho] at hf
  obtain ⟨⟨ft, off⟩, s1, _, _, _, _, h1, h2⟩ := M.bind_some hf
  obtain ⟨g1, rfl⟩ := M.lift_some h1
  cases x with
  | tmp i =>
    obtain ⟨c, s2, _, _, _, _, h3, h4⟩ := M.bind_some h2
    obtain ⟨g3, rfl⟩ := M.get_some h3
    have hv := h.tm i c g3
    have fin : ∀ {y : AV} {ad : Addr}, a.tmps.getD i undef = .pointer (some ad) → RepV w E e.F β y (.pointer (some (ad.add off))) [] → ∀ {r' q' : List Loc}, wr o.dst y none s = some (u, s', r', q') → Done en o e w a s' := by
      intro y ad hp hy r' q' hw
      obtain ⟨τ', k⟩ := Sim.wr h hw hy no_tok no_og
      refine ⟨_, _, w, E, β, τ', ?_, .inl rfl, k⟩
      unfold execOp
      rw [ho]
      dsimp only
      rw [Sem.run_bind, show a.eval (.tmp i) = a.tmps.getD i undef from rfl, hp, run_fieldAt g1 ad w]
      rfl
    cases hcv : c.val with
    | ptr b g p off0 =>
      simp only [hcv] at h4
      rw [hcv, RepV] at hv
      refine fin hv.1 ?_ h4
      rw [RepV, add_plain']
      exact ⟨rfl, rfl, hv.2.2⟩
    | ref z =>
      rw [hcv, RepV] at hv
      obtain ⟨_, ad, hp, cs, m1, m2, m3⟩ := hv
      cases z with
      | st fs =>
        simp only [hcv] at h4
        cases hy : fs[f]? with
        | none => simp only [hy] at h4; exact (M.fail_some h4).elim
        | some y =>
          simp only [hy] at h4
          obtain ⟨_, s3, _, _, _, _, h5, h6⟩ := M.bind_some h4
          obtain ⟨g5, rfl⟩ := M.when_some h5
          have g5' : sizes (fs.take f) = off := by simpa using g5
          rw [Rep] at m1
          obtain ⟨c1, c2, c3, B2, n1, n2, n3, n4⟩ := RepS.at m1 hy
          have hB2 : B2 = [] := List.eq_nil_iff_forall_not_mem.2 (fun k hk => by cases n4 k hk)
          subst hB2
          have hlen : cs.length = c1.length + c2.length + c3.length := by rw [n1]; simp [Nat.add_assoc]
          refine fin hp ?_ h6
          rw [RepV]
          refine ⟨rfl, _, rfl, c2, n3, ?_, fun j v hj => ?_⟩
          · rcases m2 with m2 | m2
            · left; rw [add_block, add_off]; omega
            · right; rw [add_block]; exact m2
          · rw [add_add]
            refine m3 (off + j) v ?_
            have hj2 := (List.getElem?_eq_some_iff.1 hj).1
            rw [n1, List.append_assoc, List.getElem?_append_right (by omega), List.getElem?_append_left (by omega), show off + j - c1.length = j by omega]
            exact hj
      | v _ => simp only [hcv] at h4; exact (M.fail_some h4).elim
      | sl _ _ _ => simp only [hcv] at h4; exact (M.fail_some h4).elim
    | _ => simp only [hcv] at h4; exact (M.fail_some h4).elim
  | const v => exact (M.fail_some (s := s) h2).elim
  | global g => exact (M.fail_some (s := s) h2).elim
  | func g => exact (M.fail_some (s := s) h2).elim
theorem elemOf_some {t el : TypeId} {n : Nat} (h : elemOf en t = some (el, n)) : ∃ i, en.P.underlying t = some (.slice el) ∧ en.P.info? el = some i ∧ i.size = n := by
  unfold elemOf at h
  split at h
  · rename_i el' hu
    unfold sizeT at h
    cases hi : en.P.info? el' with
    | none => rw [hi] at h; cases h
    | some i =>
      rw [hi] at h
      cases h
      exact ⟨i, hu, hi, rfl⟩
  · cases h
theorem fire_indexAddr_s (h : Sim e w E β τ a s) {t : TypeId} {x ix : Operand} (ho : o.op = .indexAddr t x ix) (hn : arrOf en.P t = none) (hf : fire en o s = some (u, s', r, q)) : Done en o e w a s' := by
  unfold fire at hf
  rw [ho] at hf
  dsimp only at hf
  rw [hn] at hf
  obtain ⟨i, s1, _, _, _, _, h1, h2⟩ := M.bind_some hf
  obtain ⟨rfl, k, e1⟩ := rdI_sound h h1
  obtain ⟨⟨el, n⟩, s2, _, _, _, _, h3, h4⟩ := M.bind_some h2
  obtain ⟨g3, rfl⟩ := M.lift_some h3
  obtain ⟨y, s3, _, _, _, _, h5, h6⟩ := M.bind_some h4
  obtain ⟨rfl, hv⟩ := rdO_sound h h5
  obtain ⟨ti, k1, k2, k3⟩ := elemOf_some g3
  cases y with
  | t z =>
    cases z with
    | sl ow sz xs =>
      dsimp only at h6
      obtain ⟨_, s4, _, _, _, _, h7, h8⟩ := M.bind_some h6
      obtain ⟨g7, rfl⟩ := M.when_some h7
      rw [Bool.and_eq_true] at g7
      obtain ⟨g7, g8⟩ := g7
      have hsz : sz = n := by simpa using g7
      have h0 : 0 ≤ i := of_decide_eq_true g8
      obtain ⟨y, s5, _, _, _, _, h9, h10⟩ := M.bind_some h8
      obtain ⟨g9, rfl⟩ := M.lift_some h9
      rw [RepV] at hv
      obtain ⟨cs, m1, m2⟩ := hv
      rw [Rep] at m1
      obtain ⟨A, c, rfl, m3, m4, m5⟩ := m1
      have hlt : i.toNat < xs.length := (List.getElem?_eq_some_iff.1 g9).1
      cases A with
      | none => rw [m5.1] at g9; cases g9
      | some ad =>
        obtain ⟨n1, ds, n2, n3, n4⟩ := RepA.at m5.1 g9
        have hx : a.eval x = .slice (some ad) xs.length c := m2
        obtain ⟨τ', kk⟩ := Sim.wr h h10 (v := .pointer (some (ad.add (i.toNat * sz)))) (by
          rw [RepV]
          refine ⟨rfl, _, rfl, ds, n4, ?_, fun j v hj => ?_⟩
          · left; rw [add_block, add_off, n2]; omega
          · rw [add_add]; have := n3 j v hj; rw [Nat.zero_add] at this; exact this) no_tok no_og
        refine ⟨_, _, w, E, β, τ', ?_, .inl rfl, kk⟩
        have hs : (sizeOf el).run en.P w = .ok sz w := by unfold sizeOf typeInfo; simp [k2, k3, hsz]
        unfold execOp
        rw [ho]
        dsimp only
        rw [Sem.run_bind, hx, e1]
        have hil : i < (xs.length : Int) := by omega
        have hrun : (Instr.indexAt t (.slice (some ad) xs.length c) (.int k i)).run en.P w = .ok (.pointer (some (ad.add (i.toNat * sz)))) w := by
          unfold Instr.indexAt
          simp [asIntOf, run_underlying k1, h0, hil, hs]
        rw [hrun]
        rfl
    | _ => exact (M.fail_some h6).elim
  | _ => exact (M.fail_some h6).elim
theorem fitsAll_size {P : Program} {el : TypeId} {fs : List T} {n : Nat} (h : fitsAll P el fs = true) (hs : sizeT P el = some n) : ∀ z ∈ fs, z.size = n := by
  intro z hz
  unfold fitsAll at h
  have h1 := List.all_eq_true.1 h z hz
  unfold fits at h1
  rw [Bool.and_eq_true] at h1
  have h2 := h1.1
  rw [hs] at h2
  have h3 : some n = some z.size := by simpa using h2
  exact (Option.some.inj h3).symm
theorem PlaceT.elem {F : Nat → Prop} {fs : List T} {ad : Addr} {n i : Nat} {y : T} (hm : PlaceT w E F (.st fs) ad) (hall : ∀ z ∈ fs, z.size = n) (hy : fs[i]? = some y) : PlaceT w E F y (ad.add (i * n)) := by
  obtain ⟨cs, m1, m2, m3⟩ := hm
  rw [Rep] at m1
  obtain ⟨c1, c2, c3, B2, n1, n2, n3, n4⟩ := RepS.at m1 hy
  have hB2 : B2 = [] := List.eq_nil_iff_forall_not_mem.2 (fun k hk => by cases n4 k hk)
  subst hB2
  have hlen : cs.length = c1.length + c2.length + c3.length := by rw [n1]; simp [Nat.add_assoc]
  have g5' : sizes (fs.take i) = i * n := sizes_take hall (Nat.le_of_lt (List.getElem?_eq_some_iff.1 hy).1)
  refine ⟨c2, n3, ?_, fun j v hj => ?_⟩
  · rcases m2 with m2 | m2
    · left; rw [add_block, add_off]; omega
    · right; rw [add_block]; exact m2
  · rw [add_add]
    refine m3 (i * n + j) v ?_
    have hj2 := (List.getElem?_eq_some_iff.1 hj).1
    rw [n1, List.append_assoc, List.getElem?_append_right (by omega), List.getElem?_append_left (by omega), show i * n + j - c1.length = j by omega]
    exact hj
theorem fire_indexAddr (h : Sim e w E β τ a s) {t : TypeId} {x ix : Operand} (ho : o.op = .indexAddr t x ix) (hf : fire en o s = some (u, s', r, q)) : Done en o e w a s' := by
  cases hn : arrOf en.P t with
  | none => exact fire_indexAddr_s h ho hn hf
  | some p =>
    obtain ⟨len, el⟩ := p
    unfold fire at hf
    rw [ho] at hf
    dsimp only at hf
    rw [hn] at hf
    have k1 : en.P.underlying t = some (.array len el) := by
      unfold arrOf at hn
      split at hn
      · rename_i l' e' hu
        cases hn
        exact hu
      · cases hn
    obtain ⟨i, s1, _, _, _, _, h1, h2⟩ := M.bind_some hf
    obtain ⟨rfl, ki, e1⟩ := rdI_sound h h1
    obtain ⟨n, s2, _, _, _, _, h3, h4⟩ := M.bind_some h2
    obtain ⟨g3, rfl⟩ := M.lift_some h3
    have key : ∀ {fs : List T} {ad : Addr} {r' q' : List Loc}, a.eval x = .pointer (some ad) → PlaceT w E e.F (.st fs) ad → idxRef en el len o.dst fs i s = some (u, s', r', q') → Done en o e w a s' := by
      intro fs ad r' q' hp hpl hw
      obtain ⟨_, s4, _, _, _, _, h7, h8⟩ := M.bind_some hw
      obtain ⟨g7, rfl⟩ := M.when_some h7
      rw [Bool.and_eq_true] at g7
      obtain ⟨g7, g8⟩ := g7
      have g8 := of_decide_eq_true g8
      obtain ⟨y, s5, _, _, _, _, h9, h10⟩ := M.bind_some h8
      obtain ⟨g9, rfl⟩ := M.lift_some h9
      obtain ⟨τ', k⟩ := Sim.wr h h10 (v := .pointer (some (ad.add (i.toNat * n)))) (by
        rw [RepV]
        exact ⟨rfl, _, rfl, hpl.elem (fitsAll_size g7 g3) g9⟩) no_tok no_og
      refine ⟨_, _, w, E, β, τ', ?_, .inl rfl, k⟩
      have hs : (sizeOf el).run en.P w = .ok n w := by
        unfold sizeT at g3
        cases hi : en.P.info? el with
        | none => rw [hi] at g3; cases g3
        | some inf =>
          rw [hi] at g3
          cases g3
          unfold sizeOf typeInfo
          simp [hi]
      unfold execOp
      rw [ho]
      dsimp only
      rw [Sem.run_bind, hp, e1]
      have hrun : (Instr.indexAt t (.pointer (some ad)) (.int ki i)).run en.P w = .ok (.pointer (some (ad.add (i.toNat * n)))) w := by
        unfold Instr.indexAt
        simp [asIntOf, run_underlying k1, g8.1, g8.2, hs, Instr.sureAddr]
      rw [hrun]
      rfl
    cases x with
    | tmp j =>
      obtain ⟨c, s3, _, _, _, _, h5, h6⟩ := M.bind_some h4
      obtain ⟨g5, rfl⟩ := M.get_some h5
      have hv := h.tm j c g5
      cases hcv : c.val with
      | ptr b g p off =>
        simp only [hcv] at h6
        rw [hcv, RepV] at hv
        obtain ⟨_, s4, _, _, _, _, h7, h8⟩ := M.bind_some h6
        obtain ⟨g7, rfl⟩ := M.when_some h7
        have g7 := of_decide_eq_true g7
        obtain ⟨τ', k⟩ := Sim.wr h h8 (v := .pointer (some ((⟨β b g, off, none⟩ : Addr).add (i.toNat * n)))) (by
          rw [RepV, add_plain']
          exact ⟨rfl, rfl, hv.2.2⟩) no_tok no_og
        refine ⟨_, _, w, E, β, τ', ?_, .inl rfl, k⟩
        have hs : (sizeOf el).run en.P w = .ok n w := by
          unfold sizeT at g3
          cases hi : en.P.info? el with
          | none => rw [hi] at g3; cases g3
          | some inf =>
            rw [hi] at g3
            cases g3
            unfold sizeOf typeInfo
            simp [hi]
        unfold execOp
        rw [ho]
        dsimp only
        rw [Sem.run_bind, show a.eval (.tmp j) = a.tmps.getD j undef from rfl, hv.1, e1]
        have hrun : (Instr.indexAt t (.pointer (some ⟨β b g, off, none⟩)) (.int ki i)).run en.P w = .ok (.pointer (some ((⟨β b g, off, none⟩ : Addr).add (i.toNat * n)))) w := by
          unfold Instr.indexAt
          simp [asIntOf, run_underlying k1, g7.1, g7.2, hs, Instr.sureAddr]
        rw [hrun]
        rfl
      | ref z =>
        cases z with
        | st fs =>
          simp only [hcv] at h6
          rw [hcv, RepV] at hv
          obtain ⟨_, ad, hp, hpl⟩ := hv
          exact key hp hpl h6
        | _ => simp only [hcv] at h6; exact (M.fail_some h6).elim
      | _ => simp only [hcv] at h6; exact (M.fail_some h6).elim
    | global g =>
      cases hgl : Glob.gl g with
      | none => simp only [hgl] at h4; exact (M.fail_some h4).elim
      | some z =>
        cases z with
        | st fs =>
          simp only [hgl] at h4
          obtain ⟨q1, cs, q2, q3⟩ := h.glob hgl
          refine key (ad := ⟨g, 0, none⟩) rfl ⟨cs, q2 w E, .inr q1, fun j v hj => ?_⟩ h4
          rw [add_none', Nat.zero_add]
          exact q3 j v hj
        | _ => simp only [hgl] at h4; exact (M.fail_some h4).elim
    | const v => exact (M.fail_some h4).elim
    | func f => exact (M.fail_some h4).elim
end
end Go.Proofs.YtgkfjhfehdefaaaGreatDoor.Flat

namespace Go.Proofs.YtgkfjhfehdefaaaGreatDoor.Flat
set_option linter.unusedVariables false
set_option linter.unusedSimpArgs false
set_option linter.unusedSectionVars false
variable [Glob]

/-- What an address operand leads to. -/
def PlOk (e : Ent) (w : World) (E : Nat → Nat) (β : Bm) (s : St) (v : Value) : Pl → Prop
  | .vr b p o c => s.get (.bx b) = some c ∧ v = .pointer (some ⟨β b c.gen, o, none⟩)
  | .rf x => ∃ ad, v = .pointer (some ad) ∧ PlaceT w E e.F x ad
  | .ff f caps => ∃ ad cv, v = .pointer (some ad) ∧ w.cell? ad = some (.func (.func f) #[] cv.toArray) ∧ RepVs w E e.F β caps cv
section
variable {en : Env} {e : Ent} {w : World} {E : Nat → Nat} {β : Bm} {τ : Loc → List Nat} {a : Act} {s s' : St} {o : Oper} {r q : List Loc} {u : Unit}
theorem rdP_sound (h : Sim e w E β τ a s) {x : Operand} {pl : Pl} (hr : rdP x s = some (pl, s', r, q)) : s = s' ∧ PlOk e w E β s (a.eval x) pl := by
  cases x with
  | tmp i =>
    obtain ⟨c, s1, _, _, _, _, h1, h2⟩ := M.bind_some hr
    obtain ⟨g1, rfl⟩ := M.get_some h1
    have hv := h.tm i c g1
    cases hcv : c.val with
    | ptr b g p off =>
      simp only [hcv] at h2
      rw [hcv, RepV] at hv
      obtain ⟨d, s2, _, _, _, _, h3, h4⟩ := M.bind_some h2
      obtain ⟨g3, rfl⟩ := M.get_some h3
      by_cases hg : (d.gen == g) = true
      · rw [if_pos hg] at h4
        obtain ⟨rfl, rfl⟩ := M.pure_some h4
        have : d.gen = g := by simpa using hg
        exact ⟨rfl, g3, by rw [this]; exact hv.1⟩
      · rw [if_neg hg] at h4; exact (M.fail_some h4).elim
    | ref z =>
      simp only [hcv] at h2
      rw [hcv, RepV] at hv
      obtain ⟨rfl, rfl⟩ := M.pure_some h2
      exact ⟨rfl, hv.2⟩
    | fref f caps =>
      simp only [hcv] at h2
      rw [hcv, RepV] at hv
      obtain ⟨rfl, rfl⟩ := M.pure_some h2
      obtain ⟨_, ad, cv, k1, _, k2, k3⟩ := hv
      exact ⟨rfl, ad, cv, k1, k2, k3⟩
    | _ => simp only [hcv] at h2; exact (M.fail_some h2).elim
  | const v => exact (M.fail_some (s := s) hr).elim
  | global g => exact (M.fail_some (s := s) hr).elim
  | func g => exact (M.fail_some (s := s) hr).elim
theorem run_load_fn {t : TypeId} {ad : Addr} {v : Value} {P : Program} (hf : fnT P t = true) (hc : w.cell? ad = some v) : (loadVar t ad).run P w = .ok v w := by
  unfold fnT at hf
  split at hf
  · rename_i hu
    unfold loadVar isAgg
    simp [run_underlying hu, hc]
  · cases hf
theorem run_loadAt {P : Program} {t : TypeId} {ad : Addr} {v : Value} (h : (loadVar t ad).run P w = .ok v w) : (do pure (Next.value (← Instr.loadAt t (.pointer (some ad)))) : Sem Next).run P w = .ok (.value v) w := by
  unfold Instr.loadAt Instr.sureAddr
  rw [Sem.run_bind]
  simp only [Sem.run_bind, Sem.run_pure, Result.andThen_ok, h]
theorem isSl_some {y : T} (h : isSl y = true) : ∃ o sz xs, y = .sl o sz xs := by
  cases y with
  | sl o sz xs => exact ⟨o, sz, xs, rfl⟩
  | _ => cases h
theorem fire_load (h : Sim e w E β τ a s) {t : TypeId} {x : Operand} (ho : o.op = .load t x) (hf : fire en o s = some (u, s', r, q)) : Done en o e w a s' := by
  unfold fire at hf
  rw [ho] at hf
  obtain ⟨pl, s1, _, _, _, _, h1, h2⟩ := M.bind_some hf
  obtain ⟨rfl, hp⟩ := rdP_sound h h1
  have fin : ∀ {y : AV} {ad : Addr} {v : Value} {og : Option (Loc × List Nat × Nat)}, a.eval x = .pointer (some ad) → (loadVar t ad).run en.P w = .ok v w → RepV w E e.F β y v [] →
      (∀ l p n, og = some (l, p, n) → ∀ d, s.get l = some d → n ≤ d.ver ∧ ∀ y o, d.ver = n → d.val = .t y → y.off p = some o → (cellsAt w β a s l)[o]? = some v) → ∀ {r' q' : List Loc}, wr o.dst y og s = some (u, s', r', q') → Done en o e w a s' := by
    intro y ad v og hpt hl hy hog r' q' hw
    obtain ⟨τ', k⟩ := Sim.wr h hw hy no_tok hog
    refine ⟨_, _, w, E, β, τ', ?_, .inl rfl, k⟩
    unfold execOp
    rw [ho]
    dsimp only
    rw [hpt]
    exact run_loadAt hl
  cases pl with
  | vr b p off c =>
    obtain ⟨hb, hpt⟩ := hp
    dsimp only at h2
    cases hcv : c.val with
    | t z =>
      simp only [hcv] at h2
      obtain ⟨cells, ty, k1, k2, _⟩ := h.bx b c hb (by rw [hcv]; exact fun h => (by cases h))
      rw [hcv] at k2
      cases hat : z.at p with
      | none => simp only [hat] at h2; exact (M.fail_some h2).elim
      | some y =>
        cases hoff : z.off p with
        | none => simp only [hat, hoff] at h2; exact (M.fail_some h2).elim
        | some q0 =>
          simp only [hat, hoff] at h2
          obtain ⟨_, s3, _, _, _, _, h5, h6⟩ := M.bind_some h2
          obtain ⟨g5, rfl⟩ := M.when_some h5
          rw [Bool.and_eq_true] at g5
          obtain ⟨g6, g7⟩ := g5
          have hq : q0 = off := by simpa using g6
          have k2' : Rep w E z cells.toList (τ (.bx b)) := k2
          obtain ⟨c1, c2, c3, B1, B2, B3, n1, n2, n3, n4, _⟩ := Rep.ctx p z y _ _ k2' hat
          have hc1 : c1.length = off := by rw [n3] at hoff; cases hoff; exact hq
          have hcell : ∀ j v, c2[j]? = some v → w.cell? ((⟨β b c.gen, off, none⟩ : Addr).add j) = some v := by
            intro j v hj
            have hj2 := (List.getElem?_eq_some_iff.1 hj).1
            rw [add_plain']
            unfold World.cell?
            rw [k1]
            dsimp only
            have : cells.toList[off + j]? = some v := by
              rw [n1, List.append_assoc, List.getElem?_append_right (by omega), List.getElem?_append_left (by omega), show off + j - c1.length = j by omega]
              exact hj
            simpa using this
          refine fin hpt (run_loadVar g7 n4 hcell) ?_ ?_ h6
          · rw [RepV]
            exact (show RepT w E y (valOf y c2) B2 from ⟨c2, n4, rfl⟩).sh
          · intro l p' n' hog
            by_cases hsl : isSl y = true
            · rw [if_pos hsl] at hog
              cases hog
              intro d hd
              rw [hb] at hd
              cases hd
              refine ⟨Nat.le_refl _, fun y' o' _ hy' ho' => ?_⟩
              rw [hcv] at hy'
              cases hy'
              rw [n3] at ho'
              cases ho'
              obtain ⟨o2, sz2, xs2, rfl⟩ := isSl_some hsl
              obtain ⟨uu, e1, e2⟩ := one_cell n4 (fun fs => by simp)
              have hb' : s.bx[b]? = some c := hb
              simp only [cellsAt, hb', k1]
              rw [n1, e1, mid_get, ← e1, e2]
            · rw [if_neg hsl] at hog; cases hog
    | fn f caps =>
      simp only [hcv] at h2
      obtain ⟨cells, ty, k1, k2, _⟩ := h.bx b c hb (by rw [hcv]; exact fun h => (by cases h))
      rw [hcv] at k2
      obtain ⟨v, m1, m2⟩ := k2
      cases p with
      | cons i p => exact (M.fail_some h2).elim
      | nil =>
        cases off with
        | succ n => exact (M.fail_some h2).elim
        | zero =>
          obtain ⟨_, s3, _, _, _, _, h5, h6⟩ := M.bind_some h2
          obtain ⟨g5, rfl⟩ := M.when_some h5
          refine fin hpt (run_load_fn (v := v) g5 ?_) m2.cp no_og h6
          unfold World.cell?
          rw [k1]
          dsimp only
          have : cells.toList[0]? = some v := by rw [m1]; rfl
          simpa using this
    | _ => simp only [hcv] at h2; exact (M.fail_some h2).elim
  | rf z =>
    obtain ⟨ad, hpt, cs, m1, m2, m3⟩ := hp
    dsimp only at h2
    obtain ⟨_, s3, _, _, _, _, h5, h6⟩ := M.bind_some h2
    obtain ⟨g5, rfl⟩ := M.when_some h5
    refine fin hpt (run_loadVar g5 m1 m3) ?_ no_og h6
    rw [RepV]
    exact (show RepT w E z (valOf z cs) [] from ⟨cs, m1, rfl⟩).sh
  | ff f caps =>
    obtain ⟨ad, cv, hpt, k1, k2⟩ := hp
    dsimp only at h2
    obtain ⟨_, s3, _, _, _, _, h5, h6⟩ := M.bind_some h2
    obtain ⟨g5, rfl⟩ := M.when_some h5
    refine fin hpt (run_load_fn g5 k1) ?_ no_og h6
    rw [RepV]
    exact ⟨rfl, cv, rfl, k2⟩
end
end Go.Proofs.YtgkfjhfehdefaaaGreatDoor.Flat

namespace Go.Proofs.YtgkfjhfehdefaaaGreatDoor.Flat
set_option linter.unusedVariables false
set_option linter.unusedSimpArgs false
set_option linter.unusedSectionVars false
variable [Glob]

theorem RepTs.ctx {w : World} {E : Nat → Nat} : ∀ {xs : List T} {i : Nat} {y : T} {vs : List Value} {B : List Nat}, RepTs w E xs vs B → xs[i]? = some y →
    ∃ v B1 B2 B3, vs[i]? = some v ∧ B = B1 ++ B2 ++ B3 ∧ RepT w E y v B2 ∧ RepTs w E (xs.set i y.sh) vs (B1 ++ B3)
  | [], i, y, vs, B, h, hy => by cases hy
  | x :: xs, 0, y, vs, B, h, hy => by
    obtain ⟨v, vr, B1, B2, e1, e2, h1, h2⟩ := h
    cases hy
    exact ⟨v, [], B1, B2, by rw [e1]; rfl, e2, h1, v, vr, [], B2, e1, rfl, h1.sh, h2⟩
  | x :: xs, i + 1, y, vs, B, h, hy => by
    obtain ⟨v, vr, B1, B2, e1, e2, h1, h2⟩ := h
    obtain ⟨v', C1, C2, C3, k1, k2, k3, k4⟩ := RepTs.ctx h2 (show xs[i]? = some y from hy)
    exact ⟨v', B1 ++ C1, C2, C3, by rw [e1]; exact k1, by rw [e2, k2]; simp, k3, v, vr, B1, C1 ++ C3, e1, by simp, h1, k4⟩
section
variable {en : Env} {e : Ent} {w : World} {E : Nat → Nat} {β : Bm} {τ : Loc → List Nat} {a : Act} {s s' : St} {o : Oper} {r q : List Loc} {u : Unit}
theorem fire_extract (h : Sim e w E β τ a s) {x : Operand} {i : Nat} (ho : o.op = .extract x i) (hf : fire en o s = some (u, s', r, q)) : Done en o e w a s' := by
  unfold fire at hf
  rw [ho] at hf
  cases x with
  | tmp j =>
    dsimp only at hf
    obtain ⟨c, s1, _, _, _, _, h1, h2⟩ := M.bind_some hf
    obtain ⟨g1, rfl⟩ := M.get_some h1
    have hv := h.tm j c g1
    cases hcv : c.val with
    | tup xs =>
      simp only [hcv] at h2
      cases hy : xs[i]? with
      | none => simp only [hy] at h2; exact (M.fail_some h2).elim
      | some y =>
        simp only [hy] at h2
        obtain ⟨_, s2, _, _, _, _, h3, h4⟩ := M.bind_some h2
        obtain ⟨_, rfl⟩ := M.put_some h3
        rw [hcv, RepV] at hv
        obtain ⟨vs, e1, e2⟩ := hv
        obtain ⟨v, B1, B2, B3, k1, k2, k3, k4⟩ := RepTs.ctx e2 hy
        have hn := h.nod (.tm j)
        rw [k2] at hn
        rw [List.append_assoc, List.nodup_append] at hn
        obtain ⟨n1, n2, n3⟩ := hn
        rw [List.nodup_append] at n2
        have hsim := h.val g1 (x' := .tup (xs.set i y.sh)) (B' := B1 ++ B3) (fun j' hj => by cases hj; rw [RepV]; exact ⟨vs, e1, k4⟩) (fun j' hj => by cases hj)
          (fun k hk => by rw [k2]; simp at hk ⊢; rcases hk with hk | hk <;> simp [hk]) (by rw [List.nodup_append]; exact ⟨n1, n2.2.1, fun x hx y hy => n3 x hx y (List.mem_append_right _ hy)⟩) (fun y' p o hy' => by cases hy')
        have hfree := h.free (B := B2) (B' := B1 ++ B3) (x' := .tup (xs.set i y.sh)) g1 (fun k hk => ⟨by rw [k2]; simp [hk], fun hk' => by
          rcases List.mem_append.1 hk' with hk' | hk'
          · exact n3 k hk' k (List.mem_append_left _ hk) rfl
          · exact n2.2.2 k hk k hk' rfl⟩) n2.1 (fun j' hj => by cases hj)
        obtain ⟨τ', kk⟩ := Sim.wr hsim h4 (v := v) (by rw [RepV]; exact k3) hfree no_og
        refine ⟨_, _, w, E, β, τ', ?_, .inl rfl, kk⟩
        unfold execOp
        rw [ho]
        dsimp only
        rw [show a.eval (.tmp j) = a.tmps.getD j undef from rfl, e1]
        have : vs.toArray[i]? = some v := by simpa using k1
        simp [Instr.extract, this]
    | _ => simp only [hcv] at h2; exact (M.fail_some h2).elim
  | _ => exact (M.fail_some (s := s) hf).elim
theorem len_T {w : World} {E : Nat → Nat} {ow : Bool} {sz : Nat} {xs : List T} {v : Value} {B : List Nat} (h : RepT w E (.sl ow sz xs) v B) : ∃ A c, v = .slice A xs.length c := by
  obtain ⟨cs, h1, h2⟩ := h
  rw [Rep] at h1
  obtain ⟨A, c, rfl, _⟩ := h1
  exact ⟨A, c, h2⟩
theorem exec_builtin {c : Call} {b : Builtin} (ho : o.op = .call c) (hc : c.callee = .builtin b) (w : World) : (execOp a.eval o).run en.P w = (builtin b c.argTypes o.type (c.args.map fun | .const _ => true | _ => false) (c.args.map a.eval)).run en.P w := by
  unfold execOp
  rw [ho]
  dsimp only
  unfold resolve
  rw [hc]
  rfl
theorem rdVs_sound (h : Sim e w E β τ a s) : ∀ {xs : List Operand} {vs : List Value} {s' : St} {r q : List Loc}, rdVs xs s = some (vs, s', r, q) → s = s' ∧ xs.map a.eval = vs
  | [], vs, s', r, q, hr => by
    obtain ⟨rfl, rfl⟩ := M.pure_some (s := s) hr
    exact ⟨rfl, rfl⟩
  | x :: xs, vs, s', r, q, hr => by
    obtain ⟨v, s1, _, _, _, _, h1, h2⟩ := M.bind_some hr
    obtain ⟨rfl, e1, _⟩ := rdV_sound h h1
    obtain ⟨vr, s2, _, _, _, _, h3, h4⟩ := M.bind_some h2
    obtain ⟨rfl, e2⟩ := rdVs_sound h h3
    obtain ⟨rfl, rfl⟩ := M.pure_some h4
    exact ⟨rfl, by rw [List.map_cons, e1, e2]⟩
theorem rdCap_sound (h : Sim e w E β τ a s) {x : Operand} {y : AV} {s' : St} {r q : List Loc} (hr : rdCap x s = some (y, s', r, q)) : s = s' ∧ RepV w E e.F β y (a.eval x) [] := by
  cases x with
  | tmp j =>
    obtain ⟨c, s1, _, _, _, _, h1, h2⟩ := M.bind_some hr
    obtain ⟨g1, rfl⟩ := M.get_some h1
    have hv := (h.tm j c g1).cp
    cases hcv : c.val with
    | ptr b g p o => simp only [hcv] at h2; obtain ⟨rfl, rfl⟩ := M.pure_some h2; rw [hcv] at hv; exact ⟨rfl, hv⟩
    | ref z => simp only [hcv] at h2; obtain ⟨rfl, rfl⟩ := M.pure_some h2; rw [hcv] at hv; exact ⟨rfl, hv⟩
    | fref f caps => simp only [hcv] at h2; obtain ⟨rfl, rfl⟩ := M.pure_some h2; rw [hcv] at hv; exact ⟨rfl, hv⟩
    | _ => simp only [hcv] at h2; exact (M.fail_some h2).elim
  | const v => exact (M.fail_some (s := s) hr).elim
  | global g => exact (M.fail_some (s := s) hr).elim
  | func g => exact (M.fail_some (s := s) hr).elim
theorem rdCaps_sound (h : Sim e w E β τ a s) : ∀ {xs : List Operand} {ys : List AV} {s' : St} {r q : List Loc}, rdCaps xs s = some (ys, s', r, q) → s = s' ∧ RepVs w E e.F β ys (xs.map a.eval)
  | [], ys, s', r, q, hr => by
    obtain ⟨rfl, rfl⟩ := M.pure_some (s := s) hr
    exact ⟨rfl, by rw [RepVs]; rfl⟩
  | x :: xs, ys, s', r, q, hr => by
    obtain ⟨y, s1, _, _, _, _, h1, h2⟩ := M.bind_some hr
    obtain ⟨rfl, e1⟩ := rdCap_sound h h1
    obtain ⟨yr, s2, _, _, _, _, h3, h4⟩ := M.bind_some h2
    obtain ⟨rfl, e2⟩ := rdCaps_sound h h3
    obtain ⟨rfl, rfl⟩ := M.pure_some h4
    exact ⟨rfl, by rw [RepVs]; exact ⟨_, _, rfl, e1, e2⟩⟩
theorem fire_makeFunc (h : Sim e w E β τ a s) {fn : Fn} {first captured : Array Operand} (ho : o.op = .makeFunc fn first captured) (hf : fire en o s = some (u, s', r, q)) : Done en o e w a s' := by
  unfold fire at hf
  rw [ho] at hf
  dsimp only at hf
  cases fn with
  | func f =>
    obtain ⟨fl⟩ := first
    cases fl with
    | cons x fl => exact (M.fail_some (s := s) hf).elim
    | nil =>
      obtain ⟨caps, s1, _, _, _, _, h1, h2⟩ := M.bind_some hf
      obtain ⟨rfl, e1⟩ := rdCaps_sound h h1
      obtain ⟨τ', k⟩ := Sim.wr h h2 (v := .func (.func f) #[] (captured.map a.eval)) (by rw [RepV]; exact ⟨rfl, captured.toList.map a.eval, by congr 1; apply Array.ext'; simp, e1⟩) no_tok no_og
      refine ⟨_, _, w, E, β, τ', ?_, .inl rfl, k⟩
      unfold execOp
      rw [ho]
      simp [Instr.makeFunc]
  | _ => exact (M.fail_some (s := s) hf).elim
theorem fire_len (h : Sim e w E β τ a s) {c : Call} (ho : o.op = .call c) (hc : c.callee = .builtin .len) (hf : fire en o s = some (u, s', r, q)) : Done en o e w a s' := by
  unfold fire at hf
  rw [ho] at hf
  dsimp only at hf
  rw [hc] at hf
  dsimp only at hf
  obtain ⟨cal, ⟨as⟩, ⟨ts⟩⟩ := c
  dsimp only at hc hf
  cases as with
  | nil => exact (M.fail_some (s := s) hf).elim
  | cons x as =>
    cases as with
    | cons _ _ => exact (M.fail_some (s := s) hf).elim
    | nil =>
      cases ts with
      | nil => exact (M.fail_some (s := s) hf).elim
      | cons t ts =>
        cases ts with
        | cons _ _ => exact (M.fail_some (s := s) hf).elim
        | nil =>
          dsimp only at hf
          obtain ⟨y, s1, _, _, _, _, h1, h2⟩ := M.bind_some hf
          obtain ⟨rfl, hv⟩ := rdO_sound h h1
          have hx := exec_builtin (en := en) (a := a) ho hc w
          cases y with
          | t z =>
            cases z with
            | sl ow sz xs =>
              dsimp only at h2
              obtain ⟨⟨el, n⟩, s2, _, _, _, _, h3, h4⟩ := M.bind_some h2
              obtain ⟨g3, rfl⟩ := M.lift_some h3
              obtain ⟨ti, k1, _⟩ := elemOf_some g3
              rw [RepV] at hv
              obtain ⟨A, cc, e1⟩ := len_T hv
              obtain ⟨τ', k⟩ := Sim.wr h h4 (v := .int .i64 xs.length) (by rw [RepV]; exact RepT_ok rfl w E) no_tok no_og
              refine ⟨_, _, w, E, β, τ', ?_, .inl rfl, k⟩
              rw [hx]
              simp [builtin, Builtin.len_, e1, run_underlying k1, goInt]
            | v z =>
              dsimp only at h2
              obtain ⟨v, s2, _, _, _, _, h3, h4⟩ := M.bind_some h2
              obtain ⟨g3, rfl⟩ := M.lift_some h3
              obtain ⟨_, s3, _, _, _, _, h5, h6⟩ := M.bind_some h4
              obtain ⟨g5, rfl⟩ := M.when_some h5
              rw [RepV] at hv
              obtain ⟨e1, _, _⟩ := RepT_v hv
              obtain ⟨τ', k⟩ := Sim.wr h h6 (v := v) (by rw [RepV]; exact RepT_ok g5 w E) no_tok no_og
              refine ⟨_, _, w, E, β, τ', ?_, .inl rfl, k⟩
              rw [hx]
              have := ev_v g3 w
              simpa [builtin, e1] using this
            | st _ => exact (M.fail_some h2).elim
          | _ => exact (M.fail_some h2).elim
theorem fire_minmax (h : Sim e w E β τ a s) {c : Call} {b : Builtin} (ho : o.op = .call c) (hc : c.callee = .builtin b) (hb : b = .min ∨ b = .max) (hf : fire en o s = some (u, s', r, q)) : Done en o e w a s' := by
  have hx := exec_builtin (en := en) (a := a) ho hc w
  unfold fire at hf
  rw [ho] at hf
  dsimp only at hf
  rw [hc] at hf
  rcases hb with rfl | rfl
  all_goals
    dsimp only at hf
    obtain ⟨vs, s1, _, _, _, _, h1, h2⟩ := M.bind_some hf
    obtain ⟨rfl, e1⟩ := rdVs_sound h h1
    obtain ⟨v, s2, _, _, _, _, h3, h4⟩ := M.bind_some h2
    obtain ⟨g3, rfl⟩ := M.lift_some h3
    obtain ⟨_, s3, _, _, _, _, h5, h6⟩ := M.bind_some h4
    obtain ⟨g5, rfl⟩ := M.when_some h5
    obtain ⟨τ', k⟩ := Sim.wr h h6 (v := v) (by rw [RepV]; exact RepT_ok g5 w E) no_tok no_og
    refine ⟨_, _, w, E, β, τ', ?_, .inl rfl, k⟩
    rw [hx]
    have e2 : c.args.map a.eval = vs.toArray := by apply Array.ext'; simpa using e1
    rw [e2]
    exact ev_v g3 w
end
end Go.Proofs.YtgkfjhfehdefaaaGreatDoor.Flat

namespace Go.Proofs.YtgkfjhfehdefaaaGreatDoor.Flat
set_option linter.unusedVariables false
set_option linter.unusedSimpArgs false
set_option linter.unusedSectionVars false
variable [Glob]

theorem RepA.take {w : World} {E : Nat → Nat} {sz : Nat} {ad : Addr} : ∀ {xs : List T} {o : Nat} (n : Nat), RepA w E sz ad o xs → RepA w E sz ad o (xs.take n)
  | [], o, n, h => by rw [List.take_nil]; exact h
  | x :: xs, o, 0, h => by rw [List.take_zero, RepA]; trivial
  | x :: xs, o, n + 1, h => by
    rw [RepA] at h
    rw [List.take_succ_cons, RepA]
    exact ⟨h.1, RepA.take n h.2⟩
theorem RepA.drop {w : World} {E : Nat → Nat} {sz : Nat} {ad : Addr} : ∀ {xs : List T} {o : Nat} (n : Nat), RepA w E sz ad o xs → RepA w E sz ad (o + n * sz) (xs.drop n)
  | [], o, n, h => by rw [List.drop_nil, RepA]; trivial
  | x :: xs, o, 0, h => by rw [Nat.zero_mul, Nat.add_zero]; exact h
  | x :: xs, o, n + 1, h => by
    rw [RepA] at h
    have := RepA.drop n h.2
    rw [show o + sz + n * sz = o + (n + 1) * sz by rw [Nat.add_mul]; omega] at this
    exact this
theorem RepA.shift {w : World} {E : Nat → Nat} {sz : Nat} {ad : Addr} {m : Nat} : ∀ {xs : List T} {o : Nat}, RepA w E sz ad (m + o) xs → RepA w E sz (ad.add m) o xs
  | [], o, h => by rw [RepA]; trivial
  | x :: xs, o, h => by
    rw [RepA] at h ⊢
    obtain ⟨⟨h1, cs, h2, h3, h4⟩, h5⟩ := h
    refine ⟨⟨by rw [add_block, add_off]; omega, cs, h2, fun j u hj => ?_, h4⟩, ?_⟩
    · rw [add_add]
      have := h3 j u hj
      rwa [Nat.add_assoc] at this
    · exact RepA.shift (by rw [← Nat.add_assoc]; exact h5)
section
variable {en : Env} {e : Ent} {w : World} {E : Nat → Nat} {β : Bm} {τ : Loc → List Nat} {a : Act} {s s' : St} {o : Oper} {r q : List Loc} {u : Unit}
theorem run_sliceBound {P : Program} {k : IntKind} {i : Int} {y : Nat} {code : BoundsCode} (h0 : 0 ≤ i) (h1 : i ≤ (y : Int)) (w : World) : (Instr.sliceBound (.int k i) y code).run P w = .ok i.toNat w := by
  unfold Instr.sliceBound
  simp [asIntOf, h0, h1]
theorem fire_slice (h : Sim e w E β τ a s) {t : TypeId} {x : Operand} {lo hi mx : Option Operand} (ho : o.op = .slice t x lo hi mx) (hf : fire en o s = some (u, s', r, q)) : Done en o e w a s' := by
  unfold fire at hf
  rw [ho] at hf
  cases mx with
  | some mv =>
    cases hi with
    | none => exact (M.fail_some (s := s) hf).elim
    | some hv =>
      dsimp only at hf
      obtain ⟨y, s1, _, _, _, _, h1, h2⟩ := M.bind_some hf
      obtain ⟨rfl, hvv⟩ := rdO_sound h h1
      cases y with
      | t z =>
        cases z with
        | sl ow sz xs =>
          dsimp only at h2
          obtain ⟨⟨el, n⟩, s2, _, _, _, _, h3, h4⟩ := M.bind_some h2
          obtain ⟨g3, rfl⟩ := M.lift_some h3
          obtain ⟨ti, k1, k2, k3⟩ := elemOf_some g3
          obtain ⟨l, s3, _, _, _, _, h5, h6⟩ := M.bind_some h4
          have hl : s = s3 ∧ ((lo = none ∧ l = 0) ∨ ∃ v k, lo = some v ∧ a.eval v = .int k l) := by
            cases lo with
            | none => obtain ⟨rfl, rfl⟩ := M.pure_some (s := s) h5; exact ⟨rfl, .inl ⟨rfl, rfl⟩⟩
            | some v => obtain ⟨rfl, k, hk⟩ := rdI_sound h h5; exact ⟨rfl, .inr ⟨v, k, rfl, hk⟩⟩
          obtain ⟨rfl, hl⟩ := hl
          obtain ⟨hh, s4, _, _, _, _, h7, h8⟩ := M.bind_some h6
          obtain ⟨rfl, kh, ehv⟩ := rdI_sound h h7
          obtain ⟨mm, s5, _, _, _, _, h9, h10⟩ := M.bind_some h8
          obtain ⟨rfl, km, emv⟩ := rdI_sound h h9
          obtain ⟨_, s6, _, _, _, _, h11, h12⟩ := M.bind_some h10
          obtain ⟨g9, rfl⟩ := M.when_some h11
          rw [Bool.and_eq_true] at g9
          obtain ⟨g9, g10⟩ := g9
          have hsz : sz = n := by simpa using g9
          obtain ⟨rfl, rfl, rfl⟩ := of_decide_eq_true g10
          rw [RepV] at hvv
          obtain ⟨cs, m1, m2⟩ := hvv
          rw [Rep] at m1
          obtain ⟨A, c, rfl, m3, m4, m5⟩ := m1
          have hx : a.eval x = .slice A xs.length c := m2
          have hs : (sizeOf el).run en.P w = .ok sz w := by unfold sizeOf typeInfo; simp [k2, k3, hsz]
          have bounds : (Instr.sliceBounds true xs.length c (lo.map a.eval) (some (.int kh 0)) (some (.int km 0))).run en.P w = .ok (0, 0, 0) w := by
            unfold Instr.sliceBounds
            have b1 := run_sliceBound (k := km) (code := .slice3Acap) (P := en.P) (i := 0) (y := c) (by omega) (by omega) w
            have b2 := run_sliceBound (k := kh) (code := .slice3B) (P := en.P) (i := 0) (y := 0) (by omega) (by omega) w
            rcases hl with ⟨rfl, _⟩ | ⟨v1, j1, rfl, e1⟩
            · simp [b1, b2]
            · have b3 := run_sliceBound (k := j1) (code := .slice3C) (P := en.P) (i := 0) (y := 0) (by omega) (by omega) w
              simp [b1, b2, e1, b3]
          obtain ⟨τ', kk⟩ := Sim.wr h h12 (v := .slice A 0 0) (by
            rw [RepV]
            refine ⟨[.slice A 0 0], ?_, rfl⟩
            rw [Rep]
            refine ⟨A, 0, rfl, Nat.le_refl _, m4, ?_⟩
            cases A with
            | none => exact ⟨rfl, rfl, rfl⟩
            | some ad => exact ⟨by rw [RepA]; trivial, false, ⟨fun h => (by cases h), fun _ _ => rfl⟩, rfl, fun h => by cases h⟩) no_tok no_og
          refine ⟨_, _, w, E, β, τ', ?_, .inl rfl, kk⟩
          unfold execOp
          rw [ho]
          dsimp only
          rw [Sem.run_bind, hx]
          have hrun : (Instr.sliceAt t (.slice A xs.length c) (lo.map a.eval) ((some hv).map a.eval) ((some mv).map a.eval)).run en.P w = .ok (.slice A 0 0) w := by
            unfold Instr.sliceAt Instr.slice
            simp only [Option.map_some, ehv, emv, Sem.run_bind, run_underlying k1 w, Result.andThen_ok, bounds, hs, Sem.run_pure]
            simp
          rw [hrun]
          rfl
        | _ => exact (M.fail_some h2).elim
      | _ => exact (M.fail_some h2).elim
  | none =>
  dsimp only at hf
  obtain ⟨y, s1, _, _, _, _, h1, h2⟩ := M.bind_some hf
  obtain ⟨rfl, hv⟩ := rdO_sound h h1
  cases y with
  | t z =>
    cases z with
    | sl ow sz xs =>
      dsimp only at h2
      obtain ⟨⟨el, n⟩, s2, _, _, _, _, h3, h4⟩ := M.bind_some h2
      obtain ⟨g3, rfl⟩ := M.lift_some h3
      obtain ⟨ti, k1, k2, k3⟩ := elemOf_some g3
      obtain ⟨l, s3, _, _, _, _, h5, h6⟩ := M.bind_some h4
      have hl : s = s3 ∧ ((lo = none ∧ l = 0) ∨ ∃ v k, lo = some v ∧ a.eval v = .int k l) := by
        cases lo with
        | none => obtain ⟨rfl, rfl⟩ := M.pure_some (s := s) h5; exact ⟨rfl, .inl ⟨rfl, rfl⟩⟩
        | some v => obtain ⟨rfl, k, hk⟩ := rdI_sound h h5; exact ⟨rfl, .inr ⟨v, k, rfl, hk⟩⟩
      obtain ⟨rfl, hl⟩ := hl
      obtain ⟨m, s4, _, _, _, _, h7, h8⟩ := M.bind_some h6
      have hh : s = s4 ∧ ((hi = none ∧ m = (xs.length : Int)) ∨ ∃ v k, hi = some v ∧ a.eval v = .int k m) := by
        cases hi with
        | none => obtain ⟨rfl, rfl⟩ := M.pure_some (s := s) h7; exact ⟨rfl, .inl ⟨rfl, rfl⟩⟩
        | some v => obtain ⟨rfl, k, hk⟩ := rdI_sound h h7; exact ⟨rfl, .inr ⟨v, k, rfl, hk⟩⟩
      obtain ⟨rfl, hh⟩ := hh
      obtain ⟨_, s5, _, _, _, _, h9, h10⟩ := M.bind_some h8
      obtain ⟨g9, rfl⟩ := M.when_some h9
      rw [Bool.and_eq_true] at g9
      obtain ⟨g9, g10⟩ := g9
      have hsz : sz = n := by simpa using g9
      obtain ⟨b0, b1, b2⟩ := of_decide_eq_true g10
      rw [RepV] at hv
      obtain ⟨cs, m1, m2⟩ := hv
      rw [Rep] at m1
      obtain ⟨A, c, rfl, m3, m4, m5⟩ := m1
      have hx : a.eval x = .slice A xs.length c := m2
      have hs : (sizeOf el).run en.P w = .ok sz w := by unfold sizeOf typeInfo; simp [k2, k3, hsz]
      have hlen : ((xs.take m.toNat).drop l.toNat).length = m.toNat - l.toNat := by rw [List.length_drop, List.length_take]; omega
      have bounds : (Instr.sliceBounds true xs.length c (lo.map a.eval) (hi.map a.eval) none).run en.P w = .ok (l.toNat, m.toNat, c) w := by
        unfold Instr.sliceBounds
        rcases hl with ⟨rfl, rfl⟩ | ⟨v1, j1, rfl, e1⟩ <;> rcases hh with ⟨rfl, rfl⟩ | ⟨v2, j2, rfl, e2⟩
        · simp
        · simp [e2, run_sliceBound (k := j2) (code := .sliceAcap) (P := en.P) (show 0 ≤ m by omega) (show m ≤ (c : Int) by omega) w]
        · simp [e1, run_sliceBound (k := j1) (code := .sliceB) (P := en.P) b0 (show l ≤ (xs.length : Int) by omega) w]
        · simp [e1, e2, run_sliceBound (k := j2) (code := .sliceAcap) (P := en.P) (show 0 ≤ m by omega) (show m ≤ (c : Int) by omega) w, run_sliceBound (k := j1) (code := .sliceB) (P := en.P) b0 (show l ≤ (m.toNat : Int) by omega) w]
      obtain ⟨τ', kk⟩ := Sim.wr h h10 (v := .slice (if c = l.toNat then A else A.map (·.add (l.toNat * sz))) (m.toNat - l.toNat) (c - l.toNat)) (by
        rw [RepV]
        refine ⟨[.slice (if c = l.toNat then A else A.map (·.add (l.toNat * sz))) (m.toNat - l.toNat) (c - l.toNat)], ?_, rfl⟩
        rw [Rep]
        refine ⟨(if c = l.toNat then A else A.map (·.add (l.toNat * sz))), c - l.toNat, by rw [hlen], by rw [hlen]; omega, m4, ?_⟩
        cases A with
        | none =>
          obtain ⟨e1, e2, _⟩ := m5
          subst e1
          have hnone : (if c = l.toNat then (none : Option Addr) else Option.map (fun x : Addr => x.add (l.toNat * sz)) none) = none := by split <;> rfl
          simp only [hnone]
          exact ⟨by simp, by omega, trivial⟩
        | some ad =>
          by_cases hc : c = l.toNat
          · rw [if_pos hc]
            have : (xs.take m.toNat).drop l.toNat = [] := List.eq_nil_of_length_eq_zero (by rw [hlen]; omega)
            rw [this]
            exact ⟨by rw [RepA]; trivial, false, ⟨fun h => (by cases h), fun h => (by cases h)⟩, rfl, fun h => by cases h⟩
          · rw [if_neg hc]
            refine ⟨RepA.shift ?_, false, ⟨fun h => (by cases h), fun h => (by cases h)⟩, rfl, fun h => by cases h⟩
            have := RepA.drop l.toNat (RepA.take m.toNat m5.1)
            rw [Nat.zero_add] at this
            exact this) no_tok no_og
      refine ⟨_, _, w, E, β, τ', ?_, .inl rfl, kk⟩
      unfold execOp
      rw [ho]
      dsimp only
      rw [Sem.run_bind, hx]
      have hrun : (Instr.sliceAt t (.slice A xs.length c) (lo.map a.eval) (hi.map a.eval) (Option.map a.eval none)).run en.P w = .ok (.slice (if c = l.toNat then A else A.map (·.add (l.toNat * sz))) (m.toNat - l.toNat) (c - l.toNat)) w := by
        unfold Instr.sliceAt Instr.slice
        simp only [Sem.run_bind, run_underlying k1 w, Result.andThen_ok, Option.map_none, bounds, hs, Sem.run_pure]
      rw [hrun]
      rfl
    | v z =>
      dsimp only at h2
      rw [RepV] at hv
      obtain ⟨e0, _, _⟩ := RepT_v hv
      obtain ⟨l, s3, _, _, _, _, h5, h6⟩ := M.bind_some h2
      have hl : s = s3 ∧ lo.map a.eval = l := by
        cases lo with
        | none => obtain ⟨rfl, rfl⟩ := M.pure_some (s := s) h5; exact ⟨rfl, rfl⟩
        | some v =>
          obtain ⟨w1, s4, _, _, _, _, h7, h8⟩ := M.bind_some h5
          obtain ⟨rfl, e1, _⟩ := rdV_sound h h7
          obtain ⟨rfl, rfl⟩ := M.pure_some h8
          exact ⟨rfl, by rw [← e1]; rfl⟩
      obtain ⟨rfl, hl⟩ := hl
      obtain ⟨m, s4, _, _, _, _, h7, h8⟩ := M.bind_some h6
      have hh : s = s4 ∧ hi.map a.eval = m := by
        cases hi with
        | none => obtain ⟨rfl, rfl⟩ := M.pure_some (s := s) h7; exact ⟨rfl, rfl⟩
        | some v =>
          obtain ⟨w1, s4, _, _, _, _, h9, h10⟩ := M.bind_some h7
          obtain ⟨rfl, e1, _⟩ := rdV_sound h h9
          obtain ⟨rfl, rfl⟩ := M.pure_some h10
          exact ⟨rfl, by rw [← e1]; rfl⟩
      obtain ⟨rfl, hh⟩ := hh
      obtain ⟨v, s5, _, _, _, _, h9, h10⟩ := M.bind_some h8
      obtain ⟨g9, rfl⟩ := M.lift_some h9
      obtain ⟨_, s6, _, _, _, _, h11, h12⟩ := M.bind_some h10
      obtain ⟨g11, rfl⟩ := M.when_some h11
      obtain ⟨g9, g12⟩ : ev en.P (Instr.sliceAt t z l m none) = some v ∧ True := ⟨g9, trivial⟩
      exact done_s h g9 (by unfold execOp; rw [ho]; dsimp only; rw [e0, hl, hh]; rfl) g11 h12
    | st _ => exact (M.fail_some h2).elim
  | _ => exact (M.fail_some h2).elim
end
end Go.Proofs.YtgkfjhfehdefaaaGreatDoor.Flat

namespace Go.Proofs.YtgkfjhfehdefaaaGreatDoor.Flat
set_option linter.unusedVariables false
set_option linter.unusedSimpArgs false
set_option linter.unusedSectionVars false
variable [Glob]

def BmLe (β β' : Bm) : Prop := ∀ b g, g ≤ β.G b → β' b g = β b g ∧ g ≤ β'.G b
mutual
theorem RepV.beta {w : World} {E : Nat → Nat} {F : Nat → Prop} {β β' : Bm} (hb : BmLe β β') : ∀ {x : AV} {v : Value} {B : List Nat}, RepV w E F β x v B → RepV w E F β' x v B
  | .t x, v, B, h => by rw [RepV] at h ⊢; exact h
  | .tup xs, v, B, h => by rw [RepV] at h ⊢; exact h
  | .ptr b g p o, v, B, h => by
    rw [RepV] at h ⊢
    obtain ⟨e1, e2⟩ := hb b g h.2.2
    exact ⟨by rw [e1]; exact h.1, h.2.1, e2⟩
  | .ref x, v, B, h => by rw [RepV] at h ⊢; exact h
  | .fref f caps, v, B, h => by
    rw [RepV] at h ⊢
    obtain ⟨k1, ad, cv, k2, k3, k4, k5⟩ := h
    exact ⟨k1, ad, cv, k2, k3, k4, RepVs.beta hb k5⟩
  | .fn f caps, v, B, h => by
    rw [RepV] at h ⊢
    obtain ⟨k1, cv, k2, k3⟩ := h
    exact ⟨k1, cv, k2, RepVs.beta hb k3⟩
  | .io _, v, B, h => by rw [RepV] at h; exact h.elim
  | .un, v, B, h => by rw [RepV] at h ⊢; exact h
  | .nd, v, B, h => by rw [RepV] at h ⊢; exact h
theorem RepVs.beta {w : World} {E : Nat → Nat} {F : Nat → Prop} {β β' : Bm} (hb : BmLe β β') : ∀ {xs : List AV} {vs : List Value}, RepVs w E F β xs vs → RepVs w E F β' xs vs
  | [], vs, h => by rw [RepVs] at h ⊢; exact h
  | x :: xs, vs, h => by
    rw [RepVs] at h ⊢
    obtain ⟨v, vr, e1, h1, h2⟩ := h
    exact ⟨v, vr, e1, RepV.beta hb h1, RepVs.beta hb h2⟩
end
theorem RepC.beta {w : World} {E : Nat → Nat} {F : Nat → Prop} {β β' : Bm} (hb : BmLe β β') {x : AV} {cs : List Value} {B : List Nat} (h : RepC w E F β x cs B) : RepC w E F β' x cs B := by
  cases x with
  | fn f caps => obtain ⟨v, e, h⟩ := h; exact ⟨v, e, RepV.beta hb h⟩
  | _ => exact h
theorem push_old {w : World} {ob : Obj} {k : Nat} (h : k < w.heap.size) : ({ w with heap := w.heap.push ob } : World).heap[k]? = w.heap[k]? := by
  show (w.heap.push ob)[k]? = _
  rw [Array.getElem?_push]
  rw [if_neg (by omega)]
theorem push_new {w : World} {ob : Obj} : ({ w with heap := w.heap.push ob } : World).heap[w.heap.size]? = some ob := by
  show (w.heap.push ob)[w.heap.size]? = _
  rw [Array.getElem?_push, if_pos rfl]
theorem push_size {w : World} {ob : Obj} : ({ w with heap := w.heap.push ob } : World).heap.size = w.heap.size + 1 := by
  show (w.heap.push ob).size = _
  rw [Array.size_push]
section
variable {en : Env} {e : Ent} {w : World} {E : Nat → Nat} {β : Bm} {τ : Loc → List Nat} {a : Act} {s s' : St} {o : Oper} {r q : List Loc} {u : Unit}
theorem Sim.push (h : Sim e w E β τ a s) (ob : Obj) : Sim e { w with heap := w.heap.push ob } E β τ a s := by
  refine h.move (Ba := []) (M := []) ⟨by rw [push_size]; omega, fun k hk _ _ => ⟨push_old hk, rfl⟩, fun k hk => (by cases hk), fun k hk => (by cases hk), rfl, rfl, rfl⟩ (fun k hk => h.z k (by rw [push_size] at hk; omega)) (fun k hk => by cases hk) (fun k hk => by cases hk)
def Bm.up (β : Bm) (d g k : Nat) : Bm := ⟨fun b g' => if b = d ∧ g' = g then k else β b g', fun b => if b = d then g else β.G b⟩
theorem Free.push {B : List Nat} (h : Free e w β τ s B) (ob : Obj) : Free e { w with heap := w.heap.push ob } β τ s B :=
  ⟨h.1, fun k hk => by obtain ⟨k1, k2⟩ := h.2 k hk; exact ⟨by rw [push_size]; omega, k2⟩⟩
theorem Sim.newBox (h : Sim e w E β τ a s) {d : Nat} {c0 : Cell} (hd : s.get (.bx d) = some c0) (hdt : d < s.tm.length) {y : AV} {cs : List Value} {B : List Nat} (hr : RepC w E e.F β y cs B) (hB : Free e w β τ s B) (ty : TypeId) :
    Sim e { w with heap := w.heap.push (.cells cs.toArray ty (0, 0)) } E (β.up d (c0.gen + 1) w.heap.size) (upT τ (.bx d) B) a (s.put (.bx d) ⟨y, none, c0.ver + 1, c0.gen + 1⟩) := by
  have hd' : s.bx[d]? = some c0 := hd
  have hG : c0.gen = β.G d := h.gn d c0 hd'
  have hle : BmLe β (β.up d (c0.gen + 1) w.heap.size) := by
    intro b g hg
    by_cases hb : b = d
    · subst hb
      refine ⟨if_neg (by omega), ?_⟩
      show g ≤ (if b = b then c0.gen + 1 else β.G b)
      rw [if_pos rfl]
      omega
    · refine ⟨if_neg (fun h => hb h.1), ?_⟩
      show g ≤ (if b = d then c0.gen + 1 else β.G b)
      rw [if_neg hb]
      exact hg
  have hm := h.push (.cells cs.toArray ty (0, 0))
  have pres : Pres w E { w with heap := w.heap.push (.cells cs.toArray ty (0, 0)) } E e.F B := by
    refine ⟨⟨fun k i hi => ⟨hi, ?_⟩, fun k hk => ⟨rfl, fun cells ty' hc => ⟨cells, ?_, rfl⟩⟩⟩, fun k hk => ?_⟩
    · refine cell_heap (push_old ?_)
      apply Nat.lt_of_not_le
      intro hle2
      have := h.z k hle2
      omega
    · rw [push_old (hB.2 k hk).1]; exact hc
    · exact push_old (Nat.lt_of_lt_of_le hk.1 h.fr.size)
  have old : ∀ j c, s.bx[j]? = some c → j ≠ d → (β.up d (c0.gen + 1) w.heap.size) j c.gen = β j c.gen := fun j c hj hjd => if_neg (fun h => hjd h.1)
  have new : (β.up d (c0.gen + 1) w.heap.size) d (c0.gen + 1) = w.heap.size := if_pos ⟨rfl, rfl⟩
  have gbx : ∀ (j : Nat) (c : Cell), (s.put (.bx d) ⟨y, none, c0.ver + 1, c0.gen + 1⟩).bx[j]? = some c → (j = d ∧ c = ⟨y, none, c0.ver + 1, c0.gen + 1⟩) ∨ (j ≠ d ∧ s.bx[j]? = some c) := by
    intro j c hc
    by_cases hj : j = d
    · subst hj
      rw [show (s.put (.bx j) ⟨y, none, c0.ver + 1, c0.gen + 1⟩).bx[j]? = some ⟨y, none, c0.ver + 1, c0.gen + 1⟩ from St.get_put s (.bx j) _ c0 hd] at hc
      exact .inl ⟨rfl, (Option.some.inj hc).symm⟩
    · exact .inr ⟨hj, by rw [← hc]; exact (St.get_put_bx s d _ (.bx j) (fun e => hj (by injection e))).symm⟩
  have ltb : ∀ j c, s.bx[j]? = some c → c.val ≠ .un → β j c.gen < w.heap.size := fun j c hj hv => by
    obtain ⟨cells, ty', k1, _⟩ := h.bx j c hj hv
    exact (Array.getElem?_eq_some_iff.1 k1).1
  refine ⟨hm.dfr, hm.len, fun i c hc => ?_, fun j c hc hv => ?_, fun l k hk => ?_, fun l l' k hk hk' => ?_, fun l => ?_, fun l k j c hk hc hv => ?_, fun i j c c' hc hc' hv hv' he => ?_, fun i c l p n hc ho => ?_, hm.z, hm.mz, hm.mlt, hm.blt, hm.dis, fun b c hc => ?_, hm.fr, fun i' k hk => ?_⟩
  · rw [upT_other τ B (by simp)]
    exact RepV.beta hle (hm.tm i c hc)
  · rcases gbx j c hc with ⟨rfl, rfl⟩ | ⟨hj, hc'⟩
    · rw [new, upT_self]
      refine ⟨cs.toArray, ty, push_new, ?_, h.z _ (Nat.le_refl _), .inl h.fr.size⟩
      exact RepC.beta hle (RepC.mv pres hr)
    · rw [old j c hc' hj, upT_other τ B (fun e => hj (by injection e))]
      obtain ⟨cells, ty', k1, k2, k3⟩ := hm.bx j c hc' hv
      exact ⟨cells, ty', k1, RepC.beta hle k2, k3⟩
  · by_cases hl : l = .bx d
    · subst hl
      rw [upT_self] at hk
      obtain ⟨k1, k2, _⟩ := hB.2 k hk
      exact ⟨by rw [push_size]; omega, k2⟩
    · rw [upT_other τ B hl] at hk
      exact hm.tok l k hk
  · by_cases hl : l = .bx d <;> by_cases hl' : l' = .bx d
    · rw [hl, hl']
    · subst hl
      rw [upT_self] at hk
      rw [upT_other τ B hl'] at hk'
      exact absurd hk' ((hB.2 k hk).2.2.1 l')
    · subst hl'
      rw [upT_self] at hk'
      rw [upT_other τ B hl] at hk
      exact absurd hk ((hB.2 k hk').2.2.1 l)
    · rw [upT_other τ B hl] at hk
      rw [upT_other τ B hl'] at hk'
      exact h.one l l' k hk hk'
  · by_cases hl : l = .bx d
    · rw [hl, upT_self]; exact hB.1
    · rw [upT_other τ B hl]; exact h.nod l
  · have hlt : k < w.heap.size := by
      by_cases hl : l = .bx d
      · subst hl
        rw [upT_self] at hk
        exact (hB.2 k hk).1
      · rw [upT_other τ B hl] at hk
        exact (h.tok l k hk).1
    rcases gbx j c hc with ⟨rfl, rfl⟩ | ⟨hj, hc'⟩
    · rw [new]; omega
    · rw [old j c hc' hj]
      by_cases hl : l = .bx d
      · subst hl
        rw [upT_self] at hk
        exact (hB.2 k hk).2.2.2 j c hc' hv
      · rw [upT_other τ B hl] at hk
        exact h.tb l k j c hk hc' hv
  · rcases gbx i c hc with ⟨rfl, rfl⟩ | ⟨hi, hci⟩ <;> rcases gbx j c' hc' with ⟨rfl, rfl⟩ | ⟨hj, hcj⟩
    · rfl
    · rw [new, old j c' hcj hj] at he
      have := ltb j c' hcj hv'
      omega
    · rw [new, old i c hci hi] at he
      have := ltb i c hci hv
      omega
    · rw [old i c hci hi, old j c' hcj hj] at he
      exact h.bb i j c c' hci hcj hv hv' he
  · have hq := hm.og i c l p n hc ho
    intro d2 hd2
    by_cases hl : l = .bx d
    · subst hl
      rw [St.get_put s (.bx d) _ c0 hd] at hd2
      cases hd2
      obtain ⟨q1, _⟩ := hq c0 hd
      exact ⟨by show n ≤ c0.ver + 1; omega, fun x k hv => by have : c0.ver + 1 = n := hv; omega⟩
    · rw [St.get_put_bx s d _ l hl] at hd2
      obtain ⟨q1, q2⟩ := hq d2 hd2
      refine ⟨q1, fun x k hv hx hk => ?_⟩
      have := q2 x k hv hx hk
      cases l with
      | tm j => exact this
      | bx j =>
        have hj : j ≠ d := fun e => hl (by rw [e])
        have hd2' : s.bx[j]? = some d2 := hd2
        have hd3 : (s.put (.bx d) ⟨y, none, c0.ver + 1, c0.gen + 1⟩).bx[j]? = some d2 := by rw [← hd2']; exact St.get_put_bx s d _ (.bx j) (fun e => hj (by injection e))
        simp only [cellsAt, hd2', hd3, old j d2 hd2' hj] at this ⊢
        exact this
  · rcases gbx b c hc with ⟨rfl, rfl⟩ | ⟨hb, hc'⟩
    · show c0.gen + 1 = (if b = b then c0.gen + 1 else β.G b)
      rw [if_pos rfl]
    · show c.gen = (if b = d then c0.gen + 1 else β.G b)
      rw [if_neg hb]
      exact h.gn b c hc'
  · obtain ⟨q1, q2⟩ := h.fx i' k hk
    have hne : i' ≠ d := by omega
    refine ⟨q1, ?_⟩
    show (if i' = d ∧ (if i' = d then c0.gen + 1 else β.G i') = c0.gen + 1 then w.heap.size else β i' (if i' = d then c0.gen + 1 else β.G i')) = k
    rw [if_neg (fun h => hne h.1), if_neg hne]
    exact q2
end
end Go.Proofs.YtgkfjhfehdefaaaGreatDoor.Flat

namespace Go.Proofs.YtgkfjhfehdefaaaGreatDoor.Flat
set_option linter.unusedVariables false
set_option linter.unusedSimpArgs false
set_option linter.unusedSectionVars false
variable [Glob]

theorem zeroT_some {P : Program} {t : TypeId} {z : T} (h : zeroT P t = some z) : ∃ i zv, P.info? t = some i ∧ i.zero = some zv ∧ ∀ w E, RepT w E z zv [] := by
  unfold zeroT at h
  cases hi : P.info? t with
  | none => rw [hi] at h; cases h
  | some i =>
    rw [hi] at h
    dsimp only at h
    cases hz : i.zero with
    | none => rw [hz] at h; cases h
    | some zv => rw [hz] at h; exact ⟨i, zv, rfl, hz, fun w E => constT_sound h w E⟩
theorem RepT.cells {w : World} {E : Nat → Nat} {z : T} {v : Value} {B : List Nat} (h : RepT w E z v B) : Rep w E z v.cells.toList B := by
  obtain ⟨cs, h1, h2⟩ := h
  rw [h2, valOf_cells h1]
  exact h1
section
variable {en : Env} {e : Ent} {w : World} {E : Nat → Nat} {β : Bm} {τ : Loc → List Nat} {a : Act} {s s' : St} {o : Oper} {r q : List Loc} {u : Unit}
/-- A new variable, and the place told in its temporary. -/
theorem done_new (h : Sim e w E β τ a s) {d : Nat} {c0 : Cell} (hd : s.get (.bx d) = some c0) (hod : o.dst = some d) {y : AV} {v : Value} {B : List Nat} (hr : RepC w E e.F β y v.cells.toList B) (hB : Free e w β τ s B) (ty : TypeId)
    (hrun : (execOp a.eval o).run en.P w = .ok (.value (.pointer (some ⟨w.heap.size, 0, none⟩))) { w with heap := w.heap.push (.cells v.cells ty (0, 0)) })
    (hw : wr o.dst (.ptr d (c0.gen + 1) [] 0) none (s.put (.bx d) ⟨y, none, c0.ver + 1, c0.gen + 1⟩) = some (u, s', r, q)) : Done en o e w a s' := by
  have hdt : d < s.tm.length := by
    rw [hod] at hw
    obtain ⟨c, s1, _, _, _, _, h1, h2⟩ := M.bind_some hw
    obtain ⟨g1, _⟩ := M.get_some h1
    exact (List.getElem?_eq_some_iff.1 (show s.tm[d]? = some c from g1)).1
  have hn := h.newBox hd hdt hr hB ty
  have e1 : v.cells.toList.toArray = v.cells := by simp
  rw [e1] at hn
  obtain ⟨τ', k⟩ := Sim.wr hn hw (v := .pointer (some ⟨w.heap.size, 0, none⟩)) (B := []) (by
    rw [RepV]
    refine ⟨?_, rfl, ?_⟩
    · show _ = Value.pointer (some ⟨(if d = d ∧ c0.gen + 1 = c0.gen + 1 then w.heap.size else β d (c0.gen + 1)), 0, none⟩)
      rw [if_pos ⟨rfl, rfl⟩]
    · show c0.gen + 1 ≤ (if d = d then c0.gen + 1 else β.G d)
      rw [if_pos rfl]
      exact Nat.le_refl _) no_tok no_og
  exact ⟨_, _, _, E, _, τ', hrun, .inl rfl, k⟩
theorem fire_alloc (h : Sim e w E β τ a s) {t : TypeId} (ho : o.op = .alloc t) (hf : fire en o s = some (u, s', r, q)) : Done en o e w a s' := by
  unfold fire at hf
  rw [ho] at hf
  obtain ⟨z, s1, _, _, _, _, h1, h2⟩ := M.bind_some hf
  obtain ⟨g1, rfl⟩ := M.lift_some h1
  obtain ⟨i, zv, k1, k2, k3⟩ := zeroT_some g1
  cases hd : o.dst with
  | none => rw [hd] at h2; exact (M.fail_some h2).elim
  | some d =>
    rw [hd] at h2
    obtain ⟨c, s2, _, _, _, _, h3, h4⟩ := M.bind_some h2
    obtain ⟨g3, rfl⟩ := M.get_some h3
    obtain ⟨_, s3, _, _, _, _, h5, h6⟩ := M.bind_some h4
    obtain ⟨_, rfl⟩ := M.put_some h5
    refine done_new h g3 hd (y := .t z) (v := zv) (B := []) (k3 w E).cells no_tok t ?_ (by rw [hd]; exact h6)
    unfold execOp
    rw [ho]
    simp [Instr.alloc, zeroValue, typeInfo, k1, k2, newVar, newRow]
theorem fire_box (h : Sim e w E β τ a s) {t : TypeId} {x : Operand} (ho : o.op = .box t x) (hf : fire en o s = some (u, s', r, q)) : Done en o e w a s' := by
  unfold fire at hf
  rw [ho] at hf
  obtain ⟨y, s1, _, _, _, _, h1, h2⟩ := M.bind_some hf
  obtain ⟨τ1, B, k1, k2, k3, _⟩ := mvO_sound h h1
  have hrun : ∀ w, (execOp a.eval o).run en.P w = .ok (.value (.pointer (some ⟨w.heap.size, 0, none⟩))) { w with heap := w.heap.push (.cells (a.eval x).cells t (0, 0)) } := by
    intro w
    unfold execOp
    rw [ho]
    simp [Instr.box, newVar, newRow]
  cases hd : o.dst with
  | none => rw [hd] at h2; cases y <;> exact (M.fail_some h2).elim
  | some d =>
    rw [hd] at h2
    cases y with
    | t z =>
      obtain ⟨_, s2, _, _, _, _, h3, h4⟩ := M.bind_some h2
      obtain ⟨_, rfl⟩ := M.when_some h3
      obtain ⟨c, s3, _, _, _, _, h5, h6⟩ := M.bind_some h4
      obtain ⟨g5, rfl⟩ := M.get_some h5
      obtain ⟨_, s4, _, _, _, _, h7, h8⟩ := M.bind_some h6
      obtain ⟨_, rfl⟩ := M.put_some h7
      rw [RepV] at k2
      exact done_new k1 g5 hd (y := .t z) (v := a.eval x) k2.cells k3 t (hrun w) (by rw [hd]; exact h8)
    | fn f caps =>
      obtain ⟨c, s3, _, _, _, _, h5, h6⟩ := M.bind_some h2
      obtain ⟨g5, rfl⟩ := M.get_some h5
      obtain ⟨_, s4, _, _, _, _, h7, h8⟩ := M.bind_some h6
      obtain ⟨_, rfl⟩ := M.put_some h7
      have k2' := k2
      rw [RepV] at k2'
      obtain ⟨_, cv, e1, _⟩ := k2'
      refine done_new k1 g5 hd (y := .fn f caps) (v := a.eval x) (B := B) ⟨a.eval x, by rw [e1]; rfl, k2⟩ k3 t (hrun w) (by rw [hd]; exact h8)
    | _ => exact (M.fail_some h2).elim
end
end Go.Proofs.YtgkfjhfehdefaaaGreatDoor.Flat

namespace Go.Proofs.YtgkfjhfehdefaaaGreatDoor.Flat
set_option linter.unusedVariables false
set_option linter.unusedSimpArgs false
set_option linter.unusedSectionVars false
variable [Glob]

section
variable {en : Env} {e : Ent} {w : World} {E : Nat → Nat} {β : Bm} {τ : Loc → List Nat} {a : Act} {s s' : St} {o : Oper} {r q : List Loc} {u : Unit}
theorem get_bx {b : Nat} {c c' : Cell} (hb : s.get (.bx b) = some c) : ∀ (j : Nat) (d : Cell), (s.put (.bx b) c').bx[j]? = some d → (j = b ∧ d = c') ∨ (j ≠ b ∧ s.bx[j]? = some d) := by
  intro j d hd
  by_cases hj : j = b
  · subst hj
    rw [show (s.put (.bx j) c').bx[j]? = some c' from St.get_put s (.bx j) _ c hb] at hd
    exact .inl ⟨rfl, (Option.some.inj hd).symm⟩
  · exact .inr ⟨hj, by rw [← hd]; exact (St.get_put_bx s b _ (.bx j) (fun e => hj (by injection e))).symm⟩
/-- The general case: a variable's cell set, over the block that it has. -/
theorem Sim.setB (h : Sim e w E β τ a s) {b : Nat} {c c' : Cell} (hb : s.get (.bx b) = some c) (hg : c'.gen = c.gen) (hv : c.ver ≤ c'.ver) {B : List Nat} (hB : Free e w β τ s B)
    (hc : c'.val ≠ .un → ∃ cells ty, w.heap[β b c.gen]? = some (.cells cells ty (0, 0)) ∧ RepC w E e.F β c'.val cells.toList B ∧ E (β b c.gen) = 0 ∧ (e.w.heap.size ≤ β b c.gen ∨ β b c.gen ∈ e.M) ∧ β b c.gen ∉ B ∧ (∀ l, β b c.gen ∉ τ l) ∧ ∀ j d, j ≠ b → s.bx[j]? = some d → d.val ≠ .un → β j d.gen ≠ β b c.gen)
    (ho : c'.ver = c.ver → ∀ y, c'.val ≠ .t y) : Sim e w E β (upT τ (.bx b) B) a (s.put (.bx b) c') := by
  have gbx := get_bx (c' := c') hb
  refine ⟨h.dfr, h.len, fun i d hd => ?_, fun j d hd hdv => ?_, fun l k hk => ?_, fun l l' k hk hk' => ?_, fun l => ?_, fun l k j d hk hd hdv => ?_, fun i j d d' hd hd' hdv hdv' he => ?_, fun i d l p n hd hog => ?_, h.z, h.mz, h.mlt, h.blt, h.dis, fun j d hd => ?_, h.fr, fun i' k hk => by have := h.fx i' k hk; simpa [St.put] using this⟩
  · rw [upT_other τ B (by simp)]
    exact h.tm i d hd
  · rcases gbx j d hd with ⟨rfl, rfl⟩ | ⟨hj, hd'⟩
    · obtain ⟨cells, ty, k1, k2, k3, k4, _⟩ := hc hdv
      rw [hg, upT_self]
      exact ⟨cells, ty, k1, k2, k3, k4⟩
    · rw [upT_other τ B (fun e => hj (by injection e))]
      exact h.bx j d hd' hdv
  · by_cases hl : l = .bx b
    · subst hl
      rw [upT_self] at hk
      obtain ⟨k1, k2, _⟩ := hB.2 k hk
      exact ⟨k1, k2⟩
    · rw [upT_other τ B hl] at hk
      exact h.tok l k hk
  · by_cases hl : l = .bx b <;> by_cases hl' : l' = .bx b
    · rw [hl, hl']
    · subst hl
      rw [upT_self] at hk
      rw [upT_other τ B hl'] at hk'
      exact absurd hk' ((hB.2 k hk).2.2.1 l')
    · subst hl'
      rw [upT_self] at hk'
      rw [upT_other τ B hl] at hk
      exact absurd hk ((hB.2 k hk').2.2.1 l)
    · rw [upT_other τ B hl] at hk
      rw [upT_other τ B hl'] at hk'
      exact h.one l l' k hk hk'
  · by_cases hl : l = .bx b
    · rw [hl, upT_self]; exact hB.1
    · rw [upT_other τ B hl]; exact h.nod l
  · rcases gbx j d hd with ⟨rfl, rfl⟩ | ⟨hj, hd'⟩
    · obtain ⟨cells, ty, _, _, _, _, k5, k6, _⟩ := hc hdv
      rw [hg]
      by_cases hl : l = .bx j
      · subst hl
        rw [upT_self] at hk
        exact fun e => k5 (e ▸ hk)
      · rw [upT_other τ B hl] at hk
        exact fun e => k6 l (e ▸ hk)
    · by_cases hl : l = .bx b
      · subst hl
        rw [upT_self] at hk
        exact (hB.2 k hk).2.2.2 j d hd' hdv
      · rw [upT_other τ B hl] at hk
        exact h.tb l k j d hk hd' hdv
  · rcases gbx i d hd with ⟨rfl, rfl⟩ | ⟨hi, hdi⟩ <;> rcases gbx j d' hd' with ⟨rfl, rfl⟩ | ⟨hj, hdj⟩
    · rfl
    · obtain ⟨cells, ty, _, _, _, _, _, _, k7⟩ := hc hdv
      rw [hg] at he
      exact absurd he.symm (k7 j d' hj hdj hdv')
    · obtain ⟨cells, ty, _, _, _, _, _, _, k7⟩ := hc hdv'
      rw [hg] at he
      exact absurd he (k7 i d hi hdi hdv)
    · exact h.bb i j d d' hdi hdj hdv hdv' he
  · have hq := h.og i d l p n hd hog
    intro d2 hd2
    by_cases hl : l = .bx b
    · subst hl
      rw [St.get_put s (.bx b) _ c hb] at hd2
      cases hd2
      obtain ⟨q1, q2⟩ := hq c hb
      refine ⟨by omega, fun y k hvv hy hk => ?_⟩
      exact absurd hy (ho (by omega) y)
    · rw [St.get_put_bx s b _ l hl] at hd2
      obtain ⟨q1, q2⟩ := hq d2 hd2
      refine ⟨q1, fun y k hvv hy hk => ?_⟩
      have := q2 y k hvv hy hk
      cases l with
      | tm j => exact this
      | bx j =>
        have hj : j ≠ b := fun e => hl (by rw [e])
        have hd2' : s.bx[j]? = some d2 := hd2
        have hd3 : (s.put (.bx b) c').bx[j]? = some d2 := by rw [← hd2']; exact St.get_put_bx s b _ (.bx j) (fun e => hj (by injection e))
        simp only [cellsAt, hd2', hd3] at this ⊢
        exact this
  · rcases gbx j d hd with ⟨rfl, rfl⟩ | ⟨hj, hd'⟩
    · rw [hg]; exact h.gn j c hb
    · exact h.gn j d hd'
/-- A variable taken out. -/
theorem Sim.unBox (h : Sim e w E β τ a s) {b : Nat} {c : Cell} (hb : s.get (.bx b) = some c) : Sim e w E β (upT τ (.bx b) []) a (s.put (.bx b) { c with val := .un }) :=
  h.setB (c' := { c with val := .un }) hb rfl (Nat.le_refl _) ⟨List.nodup_nil, fun k hk => (by cases hk)⟩ (fun h => absurd rfl h) (fun _ y h => by cases h)
end
end Go.Proofs.YtgkfjhfehdefaaaGreatDoor.Flat

namespace Go.Proofs.YtgkfjhfehdefaaaGreatDoor.Flat
set_option linter.unusedVariables false
set_option linter.unusedSimpArgs false
set_option linter.unusedSectionVars false
variable [Glob]

theorem setCell_at {w : World} {b o : Nat} {cs : Array Value} {ty : TypeId} {fr : Nat × Nat} {v : Value} (h : w.heap[b]? = some (.cells cs ty fr)) : (w.setCell ⟨b, o, none⟩ v).heap[b]? = some (.cells (cs.setIfInBounds o v) ty fr) := by
  unfold World.setCell
  simp [Array.getElem?_modify, h]
theorem setCell_far {w : World} {b o k : Nat} {v : Value} (h : k ≠ b) : (w.setCell ⟨b, o, none⟩ v).heap[k]? = w.heap[k]? := by
  unfold World.setCell
  simp [Array.getElem?_modify, Ne.symm h]
theorem setCell_size {w : World} {b o : Nat} {v : Value} : (w.setCell ⟨b, o, none⟩ v).heap.size = w.heap.size := by
  unfold World.setCell
  simp
theorem setCells_row {b : Nat} {ty : TypeId} {fr : Nat × Nat} : ∀ (vs c1 mid c3 : List Value) (w : World), w.heap[b]? = some (.cells (c1 ++ mid ++ c3).toArray ty fr) → mid.length = vs.length → (w.setCells b c1.length vs).heap[b]? = some (.cells (c1 ++ vs ++ c3).toArray ty fr)
  | [], c1, mid, c3, w, h, hl => by
    have : mid = [] := List.eq_nil_of_length_eq_zero hl
    subst this
    exact h
  | v :: r, c1, mid, c3, w, h, hl => by
    cases mid with
    | nil => cases hl
    | cons m mr =>
      have h1 := setCell_at (o := c1.length) (v := v) h
      have e : (c1 ++ (m :: mr) ++ c3).toArray.setIfInBounds c1.length v = (c1 ++ [v] ++ mr ++ c3).toArray := by
        apply Array.ext'
        simp
      rw [e] at h1
      have ih := setCells_row r (c1 ++ [v]) mr c3 _ h1 (by simpa using hl)
      have e2 : (c1 ++ [v]).length = c1.length + 1 := by simp
      rw [e2] at ih
      show ((w.setCell ⟨b, c1.length, none⟩ v).setCells b (c1.length + 1) r).heap[b]? = _
      rw [ih]
      simp
theorem setCells_far {b k : Nat} (hk : k ≠ b) : ∀ (vs : List Value) (o : Nat) (w : World), (w.setCells b o vs).heap[k]? = w.heap[k]?
  | [], o, w => rfl
  | v :: r, o, w => by
    show ((w.setCell ⟨b, o, none⟩ v).setCells b (o + 1) r).heap[k]? = _
    rw [setCells_far hk r (o + 1) _, setCell_far hk]
theorem setCells_size {b : Nat} : ∀ (vs : List Value) (o : Nat) (w : World), (w.setCells b o vs).heap.size = w.heap.size
  | [], o, w => rfl
  | v :: r, o, w => by
    show ((w.setCell ⟨b, o, none⟩ v).setCells b (o + 1) r).heap.size = _
    rw [setCells_size r (o + 1) _, setCell_size]
theorem setCells_ext {b : Nat} : ∀ (vs : List Value) (o : Nat) (w : World), (w.setCells b o vs).os = w.os ∧ (w.setCells b o vs).tape = w.tape ∧ (w.setCells b o vs).output = w.output
  | [], o, w => ⟨rfl, rfl, rfl⟩
  | v :: r, o, w => setCells_ext r (o + 1) (w.setCell ⟨b, o, none⟩ v)
section
variable {en : Env} {e : Ent} {w : World} {E : Nat → Nat} {β : Bm} {τ : Loc → List Nat} {a : Act} {s s' : St} {o : Oper} {r q : List Loc} {u : Unit}
theorem run_storeAt {P : Program} {t : TypeId} {b off : Nat} {v : Value} {c1 c2 c3 : List Value} {ty : TypeId} {i : TypeInfo} (hi : P.info? t = some i) (hs : v.cells.size = i.size) (hk : w.heap[b]? = some (.cells (c1 ++ c2 ++ c3).toArray ty (0, 0))) (ho : c1.length = off)
    (hl : c2.length = v.cells.size) (h1 : ∀ u ∈ v.cells.toList, u.oneCell' = true) : (Instr.storeAt t (.pointer (some ⟨b, off, none⟩)) v).run P w = .ok () (w.setCells b off v.cells.toList) := by
  have hsz : (sizeOf t).run P w = .ok i.size w := by unfold sizeOf typeInfo; simp [hi]
  have hst := run_storeCells_cells (P := P) b off v.cells.toList 0 w (fun j hj => by
      unfold World.cell?
      rw [hk]
      dsimp only
      have : off + 0 + j < (c1 ++ c2 ++ c3).length := by simp at hj ⊢; omega
      simp at this ⊢
      omega) (fun j hj => by
      unfold World.frozen?
      rw [hk]
      simp) h1
  unfold Instr.storeAt Instr.sureAddr storeVar
  simp only [Sem.run_bind, Sem.run_pure, Result.andThen_ok, hsz, hs, ne_eq, not_true_eq_false, if_false]
  simpa using hst
theorem fire_store (h : Sim e w E β τ a s) {t : TypeId} {ad x : Operand} (ho : o.op = .store t ad x) (hf : fire en o s = some (u, s', r, q)) : Done en o e w a s' := by
  unfold fire at hf
  rw [ho] at hf
  obtain ⟨pl, s1, _, _, _, _, h1, h2⟩ := M.bind_some hf
  obtain ⟨rfl, hp⟩ := rdP_sound h h1
  cases pl with
  | vr b p off cc =>
    obtain ⟨hb0, hpt⟩ := hp
    dsimp only at h2
    obtain ⟨y, s2, _, _, _, _, h3, h4⟩ := M.bind_some h2
    obtain ⟨τ1, B, k1, k2, k3, _⟩ := mvFin_sound h h3
    obtain ⟨c, s3, _, _, _, _, h5, h6⟩ := M.bind_some h4
    obtain ⟨g5, rfl⟩ := M.get_some h5
    cases hcv : c.val with
    | t old =>
      cases y with
      | t y =>
        simp only [hcv] at h6
        cases hat : old.at p with
        | none => simp only [hat] at h6; exact (M.fail_some h6).elim
        | some y0 =>
          cases hoff : old.off p with
          | none => simp only [hat, hoff] at h6; exact (M.fail_some h6).elim
          | some q0 =>
            cases hput : old.put p y with
            | none => simp only [hat, hoff, hput] at h6; exact (M.fail_some h6).elim
            | some new =>
              simp only [hat, hoff, hput] at h6
              obtain ⟨_, s4, _, _, _, _, h7, h8⟩ := M.bind_some h6
              obtain ⟨g7, rfl⟩ := M.when_some h7
              obtain ⟨_, s5, _, _, _, _, h9, h10⟩ := M.bind_some h8
              obtain ⟨_, rfl⟩ := M.put_some h9
              simp only [Bool.and_eq_true] at g7
              obtain ⟨⟨g8, g9⟩, g10⟩ := g7
              have hq : q0 = off := by simpa using g8
              have hys : y.size = y0.size := by simpa using g10
              obtain ⟨ti, t1, t2⟩ := fits_size g9
              have gb : s2.bx[b]? = some c := g5
              obtain ⟨cells, ty, m1, m2, m3, m4⟩ := k1.bx b c gb (by rw [hcv]; exact fun h => (by cases h))
              rw [hcv] at m2
              have m2' : Rep w E old cells.toList (τ1 (.bx b)) := m2
              obtain ⟨c1, c2, c3, B1, B2, B3, n1, n2, n3, n4, n5⟩ := Rep.ctx p old y0 _ _ m2' hat
              have hc1 : c1.length = off := by rw [n3] at hoff; cases hoff; exact hq
              -- the same time of the variable
              have hgen : c.gen = cc.gen := by rw [k1.gn b c gb, h.gn b cc hb0]
              rw [RepV] at k2
              have hvc := k2.cells
              have hm1 : w.heap[β b c.gen]? = some (.cells (c1 ++ c2 ++ c3).toArray ty (0, 0)) := by rw [m1, ← n1]
              have hl2 : c2.length = (a.eval x).cells.size := by
                have q1 := Rep.len n4
                have q2 := Rep.len hvc
                rw [Array.length_toList] at q2
                omega
              have hrun := run_storeAt (w := w) (P := en.P) (v := a.eval x) t1 (by have q2 := Rep.len hvc; rw [Array.length_toList] at q2; omega) hm1 hc1 hl2 (Rep.one hvc)
              generalize hvs : (a.eval x).cells.toList = vs at hvc hrun
              have hvl : c2.length = vs.length := by rw [← hvs, Array.length_toList]; exact hl2
              have hkk : β b c.gen < w.heap.size := (Array.getElem?_eq_some_iff.1 m1).1
              have hrow := setCells_row vs c1 c2 c3 w hm1 hvl
              rw [hc1] at hrow
              have hfar : ∀ k, k ≠ β b c.gen → (w.setCells (β b c.gen) off vs).heap[k]? = w.heap[k]? := fun k hk => setCells_far hk vs off w
              have hsz := setCells_size (b := β b c.gen) vs off w
              have hmv : ∀ B', (∀ k ∈ B', k ≠ β b c.gen) → Mv w E (w.setCells (β b c.gen) off vs) E B' := fun B' hB' =>
                ⟨fun k i hi => ⟨hi, cell_heap (hfar k (fun e => by rw [e, m3] at hi; omega))⟩, fun k hk => ⟨rfl, fun cells ty hc => ⟨cells, by rw [hfar k (hB' k hk)]; exact hc, rfl⟩⟩⟩
              have hne : ∀ l k, k ∈ τ1 l → k ≠ β b c.gen := fun l k hk => k1.tb l k b c hk gb (by rw [hcv]; exact fun h => (by cases h))
              have hun := k1.unBox g5
              have gb3 : ∀ (j : Nat) (d : Cell), (s2.put (.bx b) { c with val := .un }).bx[j]? = some d → d.val ≠ .un → j ≠ b ∧ s2.bx[j]? = some d := by
                intro j d hd hv
                rcases get_bx (c' := { c with val := .un }) g5 j d hd with ⟨_, rfl⟩ | h
                · exact absurd rfl hv
                · exact h
              have tsub : ∀ l k, k ∈ upT τ1 (.bx b) [] l → k ∈ τ1 l ∧ l ≠ .bx b := by
                intro l k hk
                by_cases hl : l = .bx b
                · rw [hl, upT_self] at hk; cases hk
                · rw [upT_other τ1 [] hl] at hk; exact ⟨hk, hl⟩
              have hmoved := hun.move (w' := w.setCells (β b c.gen) off vs) (E' := E) (Ba := []) (M := [β b c.gen])
                ⟨by rw [hsz]; exact Nat.le_refl _, fun k hk _ hkM => ⟨hfar k (fun e => hkM (by rw [e]; exact List.mem_singleton.2 rfl)), rfl⟩, fun k hk => (by cases hk), fun k hk hkw _ he => by
                  rw [List.mem_singleton.1 hk] at he ⊢
                  refine ⟨he, fun cells' ty' hc' => ?_⟩
                  rw [hm1] at hc'
                  cases hc'
                  exact ⟨_, hrow, by simp; omega⟩, setCells_ext _ _ _⟩ (fun k hk => k1.z k (by rw [hsz] at hk; exact hk)) (fun k hk => by cases hk)
                (fun k hk => by
                  rw [List.mem_singleton.1 hk]
                  refine ⟨hkk, m4, fun hb => ?_, m3, (by simp), fun l hl => hne l _ (tsub l _ hl).1 rfl, fun j d hd hv he => ?_⟩
                  · rcases m4 with m4 | m4
                    · have := k1.blt _ hb; omega
                    · exact k1.dis _ hb m4
                  · obtain ⟨q1, q2⟩ := gb3 j d hd hv
                    exact q1 (k1.bb j b d c q2 gb hv (by rw [hcv]; exact fun h => (by cases h)) he.symm))
              have hBne : ∀ k ∈ B, k ≠ β b c.gen := fun k hk => (k3.2 k hk).2.2.2 b c gb (by rw [hcv]; exact fun h => (by cases h))
              obtain ⟨x', p1, p2, _⟩ := n5 _ E y vs B (hmv _ (fun k hk => hne (.bx b) k (by rw [n2]; simp at hk ⊢; rcases hk with hk | hk <;> simp [hk]))) (Rep.mv (hmv B hBne) hvc)
              rw [hput] at p1
              cases p1
              have hnod := k1.nod (.bx b)
              rw [n2, List.append_assoc, List.nodup_append] at hnod
              obtain ⟨d1, d2, d3⟩ := hnod
              rw [List.nodup_append] at d2
              have inb : ∀ k, k ∈ B1 ∨ k ∈ B3 → k ∈ τ1 (.bx b) := fun k hk => by rw [n2]; simp; rcases hk with hk | hk <;> simp [hk]
              have hfree : Free e (w.setCells (β b c.gen) off vs) β (upT τ1 (.bx b) []) (s2.put (.bx b) { c with val := .un }) (B1 ++ B ++ B3) := by
                refine ⟨?_, fun k hk => ?_⟩
                · rw [List.append_assoc, List.nodup_append]
                  refine ⟨d1, ?_, fun x1 hx1 y1 hy1 => ?_⟩
                  · rw [List.nodup_append]
                    exact ⟨k3.1, d2.2.1, fun x1 hx1 y1 hy1 e1 => (k3.2 x1 hx1).2.2.1 (.bx b) (e1 ▸ inb y1 (.inr hy1))⟩
                  · rcases List.mem_append.1 hy1 with hy1 | hy1
                    · exact fun e1 => (k3.2 y1 hy1).2.2.1 (.bx b) (e1 ▸ inb x1 (.inl hx1))
                    · exact d3 x1 hx1 y1 (List.mem_append_right _ hy1)
                · have hk2 : k ∈ B ∨ k ∈ τ1 (.bx b) := by
                    simp at hk
                    rcases hk with hk | hk | hk
                    · exact .inr (inb k (.inl hk))
                    · exact .inl hk
                    · exact .inr (inb k (.inr hk))
                  rcases hk2 with hk2 | hk2
                  · obtain ⟨f1, f2, f3, f4⟩ := k3.2 k hk2
                    exact ⟨by rw [hsz]; exact f1, f2, fun l hl => f3 l (tsub l k hl).1, fun j d hd hv => f4 j d (gb3 j d hd hv).2 hv⟩
                  · obtain ⟨f1, f2⟩ := k1.tok _ k hk2
                    exact ⟨by rw [hsz]; exact f1, f2, fun l hl => (tsub l k hl).2 (k1.one l (.bx b) k (tsub l k hl).1 hk2), fun j d hd hv => k1.tb _ k j d hk2 (gb3 j d hd hv).2 hv⟩
              have hback := hmoved.setB (c := { c with val := .un }) (c' := { c with val := .t new, ver := c.ver + 1 }) (St.get_put s2 (.bx b) _ c g5) rfl (by show c.ver ≤ c.ver + 1; omega) hfree
                (fun _ => ⟨_, ty, hrow, p2, m3, m4, fun hb => by
                  simp at hb
                  rcases hb with hb | hb | hb
                  · exact hne _ _ (inb _ (.inl hb)) rfl
                  · exact hBne _ hb rfl
                  · exact hne _ _ (inb _ (.inr hb)) rfl, fun l hl => hne l _ (tsub l _ hl).1 rfl, fun j d hj hd hv he => by
                    obtain ⟨q1, q2⟩ := gb3 j d hd hv
                    exact q1 (k1.bb j b d c q2 gb hv (by rw [hcv]; exact fun h => (by cases h)) he)⟩) (fun hver => by have : c.ver + 1 = c.ver := hver; omega)
              have hput2 : (s2.put (.bx b) { c with val := .un }).put (.bx b) { c with val := .t new, ver := c.ver + 1 } = s2.put (.bx b) { c with val := .t new, ver := c.ver + 1 } := by simp [St.put]
              rw [hput2] at hback
              obtain ⟨τ', kk⟩ := Sim.wr hback h10 (v := undef) (B := []) (by rw [RepV]; exact ⟨rfl, rfl⟩) no_tok no_og
              refine ⟨.skip, undef, _, E, β, τ', ?_, .inr ⟨rfl, rfl⟩, kk⟩
              unfold execOp
              rw [ho]
              dsimp only
              rw [hpt, ← hgen, Sem.run_bind, hrun]
              rfl
      | _ => simp only [hcv] at h6; exact (M.fail_some h6).elim
    | _ => simp only [hcv] at h6; exact (M.fail_some h6).elim
  | rf z => exact (M.fail_some h2).elim
  | ff f caps => exact (M.fail_some h2).elim
end
end Go.Proofs.YtgkfjhfehdefaaaGreatDoor.Flat

namespace Go.Proofs.YtgkfjhfehdefaaaGreatDoor.Flat
set_option linter.unusedVariables false
set_option linter.unusedSimpArgs false
set_option linter.unusedSectionVars false
variable [Glob]

theorem sizes_map : ∀ {ys zs : List T}, ys.map T.size = zs.map T.size → sizes ys = sizes zs
  | [], [], _ => rfl
  | [], _ :: _, h => by cases h
  | _ :: _, [], h => by cases h
  | y :: ys, z :: zs, h => by
    rw [List.map_cons, List.map_cons] at h
    injection h with h1 h2
    rw [sizes, sizes, h1, sizes_map h2]
theorem RepS.set {w : World} {E : Nat → Nat} : ∀ {fs : List T} {f : Nat} {y : T} {cs : List Value} {B : List Nat}, RepS w E fs cs B → fs[f]? = some y →
    ∃ c1 c2 c3 B1 B2 B3, cs = c1 ++ c2 ++ c3 ∧ B = B1 ++ B2 ++ B3 ∧ c1.length = sizes (fs.take f) ∧ c2.length = y.size ∧ ∀ y' c2' B2', Rep w E y' c2' B2' → RepS w E (fs.set f y') (c1 ++ c2' ++ c3) (B1 ++ B2' ++ B3)
  | [], f, y, cs, B, h, hf => by cases hf
  | g :: fs, 0, y, cs, B, h, hf => by
    rw [RepS] at h
    obtain ⟨c1, c2, B1, B2, e1, e2, h1, h2⟩ := h
    cases hf
    refine ⟨[], c1, c2, [], B1, B2, e1, e2, rfl, Rep.len h1, fun y' c2' B2' hy => ?_⟩
    show RepS w E (y' :: fs) _ _
    rw [RepS]
    exact ⟨c2', c2, B2', B2, rfl, rfl, hy, h2⟩
  | g :: fs, f + 1, y, cs, B, h, hf => by
    rw [RepS] at h
    obtain ⟨c1, c2, B1, B2, e1, e2, h1, h2⟩ := h
    obtain ⟨d1, d2, d3, C1, C2, C3, k1, k2, k3, k4, k5⟩ := RepS.set h2 (show fs[f]? = some y from hf)
    refine ⟨c1 ++ d1, d2, d3, B1 ++ C1, C2, C3, by rw [e1, k1]; simp, by rw [e2, k2]; simp, ?_, k4, fun y' c2' B2' hy => ?_⟩
    · rw [List.length_append, Rep.len h1, k3, List.take_succ_cons, sizes]
    · show RepS w E (g :: fs.set f y') _ _
      rw [RepS]
      exact ⟨c1, d1 ++ c2' ++ d3, B1, C1 ++ B2' ++ C3, by simp, by simp, h1, k5 y' c2' B2' hy⟩
theorem foldl_set : ∀ (vs c1 mid c3 : List Value) (o k : Nat), mid.length = vs.length → c1.length = o + k → (vs.zipIdx k).foldl (fun (cs : Array Value) (p : Value × Nat) => cs.setIfInBounds (o + p.2) p.1) (c1 ++ mid ++ c3).toArray = (c1 ++ vs ++ c3).toArray
  | [], c1, mid, c3, o, k, hl, ho => by
    have : mid = [] := List.eq_nil_of_length_eq_zero hl
    subst this
    rfl
  | v :: r, c1, mid, c3, o, k, hl, ho => by
    cases mid with
    | nil => cases hl
    | cons m mr =>
      rw [List.zipIdx_cons, List.foldl_cons]
      have e : (c1 ++ (m :: mr) ++ c3).toArray.setIfInBounds (o + k) v = (c1 ++ [v] ++ mr ++ c3).toArray := by
        apply Array.ext'
        rw [← ho]
        simp
      dsimp only
      rw [e, foldl_set r (c1 ++ [v]) mr c3 o (k + 1) (by simpa using hl) (by simp; omega)]
      simp
theorem fill_cons {place : Nat → Option (Nat × Nat)} {i off : Nat} {v : Value} {c1 c2 c3 : List Value} (hp : place i = some (off, c2.length)) (hl : v.cells.toList.length = c2.length) (ho : c1.length = off) (rest : List (Nat × Value)) :
    Instr.fill place (c1 ++ c2 ++ c3).toArray ((i, v) :: rest) = Instr.fill place (c1 ++ v.cells.toList ++ c3).toArray rest := by
  have hs : v.cells.size = c2.length := by rw [← Array.length_toList]; exact hl
  rw [Instr.fill, hp]
  dsimp only
  rw [if_neg (by simp [hs]; omega)]
  congr 1
  rw [← Array.foldl_toList, Array.toList_zipIdx]
  exact foldl_set _ c1 c2 c3 off 0 hl.symm (by omega)
theorem places_of {P : Program} : ∀ {fs : List Field} {zs : List T} {o : Nat}, placesOk P fs zs o = true → ∃ places, fs.mapM (fun f => (P.info? f.type).map fun i => (f.offset, i.size)) = some places ∧ ∀ (i : Nat) (z : T), zs[i]? = some z → places[i]? = some (o + sizes (zs.take i), z.size)
  | [], [], o, h => ⟨[], rfl, fun i z hz => by cases hz⟩
  | [], _ :: _, o, h => by cases h
  | _ :: _, [], o, h => by cases h
  | f :: fs, z :: zs, o, h => by
    rw [placesOk, Bool.and_eq_true, Bool.and_eq_true] at h
    obtain ⟨⟨h1, h2⟩, h3⟩ := h
    obtain ⟨places, k1, k2⟩ := places_of h3
    have h1' : f.offset = o := by simpa using h1
    have h2' : sizeT P f.type = some z.size := by simpa using h2
    unfold sizeT at h2'
    cases hi : P.info? f.type with
    | none => rw [hi] at h2'; cases h2'
    | some ti =>
      rw [hi] at h2'
      have h4 : ti.size = z.size := by simpa using h2'
      refine ⟨(o, z.size) :: places, by simp [List.mapM_cons, hi, k1, h1', h4], fun i y hy => ?_⟩
      cases i with
      | zero => cases hy; rfl
      | succ i =>
        have := k2 i y hy
        show places[i]? = _
        rw [this, List.take_succ_cons, sizes]
        congr 2
        omega
section
variable {en : Env} {e : Ent} {w : World} {E : Nat → Nat} {β : Bm} {τ : Loc → List Nat} {a : Act} {s s' : St} {o : Oper} {r q : List Loc} {u : Unit}
theorem Free.join {B1 B2 B3 C : List Nat} (h : Free e w β τ s (B1 ++ B2 ++ B3)) (h' : Free e w β τ s C) (hd : ∀ k ∈ C, k ∉ B1 ++ B2 ++ B3) : Free e w β τ s (B1 ++ C ++ B3) := by
  obtain ⟨n1, n2⟩ := h
  obtain ⟨m1, m2⟩ := h'
  refine ⟨?_, fun k hk => ?_⟩
  · rw [List.append_assoc, List.nodup_append] at n1 ⊢
    obtain ⟨q1, q2, q3⟩ := n1
    rw [List.nodup_append] at q2 ⊢
    refine ⟨q1, ⟨m1, q2.2.1, fun x hx y hy e => hd x hx (by rw [e]; simp [hy])⟩, fun x hx y hy e => ?_⟩
    rcases List.mem_append.1 hy with hy | hy
    · exact hd y hy (by rw [← e]; simp [hx])
    · exact q3 x hx y (List.mem_append_right _ hy) e
  · simp at hk
    rcases hk with hk | hk | hk
    · exact n2 k (by simp [hk])
    · exact m2 k hk
    · exact n2 k (by simp [hk])
theorem buildParts_sound {place : Nat → Option (Nat × Nat)} {zs : List T} (hpl : ∀ (i : Nat) (z : T), zs[i]? = some z → place i = some (sizes (zs.take i), z.size)) {ts : List TypeId} : ∀ {parts : List (Nat × Operand)} {ys : List T} {τ : Loc → List Nat} {s : St} {cs : List Value} {B : List Nat} {ys' : List T} {s' : St} {r q : List Loc},
    Sim e w E β τ a s → Free e w β τ s B → RepS w E ys cs B → ys.map T.size = zs.map T.size → buildParts en ts parts ys s = some (ys', s', r, q) →
    ∃ τ' cs' B', Sim e w E β τ' a s' ∧ Free e w β τ' s' B' ∧ RepS w E ys' cs' B' ∧ Instr.fill place cs.toArray (parts.map fun p => (p.1, a.eval p.2)) = some cs'.toArray
  | [], ys, τ, s, cs, B, ys', s', r, q, h, hB, hr, hm, hb => by
    rw [buildParts] at hb
    obtain ⟨rfl, rfl⟩ := M.pure_some (s := s) hb
    exact ⟨τ, cs, B, h, hB, hr, rfl⟩
  | (i, x) :: rest, ys, τ, s, cs, B, ys', s', r, q, h, hB, hr, hm, hb => by
    rw [buildParts] at hb
    obtain ⟨t, s1, _, _, _, _, h1, h2⟩ := M.bind_some hb
    obtain ⟨g1, rfl⟩ := M.lift_some h1
    obtain ⟨old, s2, _, _, _, _, h3, h4⟩ := M.bind_some h2
    obtain ⟨g3, rfl⟩ := M.lift_some h3
    obtain ⟨y, s3, _, _, _, _, h5, h6⟩ := M.bind_some h4
    obtain ⟨τ1, C, k1, k2, k3, k4, k5⟩ := mvO_sound h h5
    cases y with
    | t y =>
      dsimp only at h6
      obtain ⟨_, s4, _, _, _, _, h7, h8⟩ := M.bind_some h6
      obtain ⟨g7, rfl⟩ := M.when_some h7
      have hys : y.size = old.size := by simpa using g7
      rw [RepV] at k2
      have hc := k2.cells
      obtain ⟨c1, c2, c3, B1, B2, B3, e1, e2, e3, e4, e5⟩ := RepS.set hr g3
      have hf1 := k5 B hB
      rw [e2] at hf1
      have hf := Free.join hf1 k3 (fun k hk => by
        rw [← e2]
        intro hkB
        obtain ⟨l, hl⟩ := k4 k hk
        exact (hB.2 k hkB).2.2.1 l hl)
      have hm' : (ys.set i y).map T.size = zs.map T.size := by
        rw [List.map_set, hys, ← hm]
        have : (ys.map T.size)[i]? = some old.size := by simp [g3]
        obtain ⟨hlt, hget⟩ := List.getElem?_eq_some_iff.1 this
        rw [← hget, List.set_getElem_self]
      obtain ⟨τ', cs', B', m1, m2, m3, m4⟩ := buildParts_sound hpl k1 hf (e5 y _ _ hc) hm' h8
      refine ⟨τ', cs', B', m1, m2, m3, ?_⟩
      rw [List.map_cons]
      dsimp only
      rw [e1]
      have hlen := Rep.len hc
      -- the place
      have hz : (zs.map T.size)[i]? = some old.size := by rw [← hm]; simp [g3]
      rw [List.getElem?_map] at hz
      cases hzi : zs[i]? with
      | none => rw [hzi] at hz; cases hz
      | some z =>
        rw [hzi] at hz
        have hz' : z.size = old.size := by simpa using hz
        have hp := hpl i z hzi
        have htake : sizes (zs.take i) = sizes (ys.take i) := sizes_map (by rw [List.map_take, List.map_take, hm])
        rw [fill_cons (off := sizes (ys.take i)) (by simp [hp, htake, hz', e4]) (by rw [hlen, hys, e4]) e3]
        exact m4
    | _ => exact (M.fail_some h6).elim
theorem fire_build (h : Sim e w E β τ a s) {t : TypeId} {parts : Array (Nat × Operand)} (ho : o.op = .build t parts) (hf : fire en o s = some (u, s', r, q)) : Done en o e w a s' := by
  unfold fire at hf
  rw [ho] at hf
  dsimp only at hf
  cases hu : en.P.underlying t with
  | none => rw [hu] at hf; exact (M.fail_some hf).elim
  | some d =>
    cases hz : zeroT en.P t with
    | none => rw [hu, hz] at hf; cases d <;> exact (M.fail_some hf).elim
    | some z =>
      rw [hu, hz] at hf
      cases d with
      | struct fs =>
        cases z with
        | st zs =>
          dsimp only at hf
          obtain ⟨_, s1, _, _, _, _, h1, h2⟩ := M.bind_some hf
          obtain ⟨g1, rfl⟩ := M.when_some h1
          obtain ⟨ys, s2, _, _, _, _, h3, h4⟩ := M.bind_some h2
          obtain ⟨places, p1, p2⟩ := places_of g1
          obtain ⟨it, zv, z1, z2, z3⟩ := zeroT_some hz
          have hzc := (z3 w E).cells
          rw [Rep] at hzc
          obtain ⟨τ', cs', B', m1, m2, m3, m4⟩ := buildParts_sound (place := (places.toArray[·]?)) (fun i z hz => by simpa using p2 i z hz) h ⟨List.nodup_nil, fun k hk => (by cases hk)⟩ hzc rfl h3
          have hb : en.P.built t (parts.map fun p => (p.1, a.eval p.2)).toList = some cs'.toArray := by
            unfold Program.built
            simp only [z1, hu, z2, p1]
            simpa using m4
          obtain ⟨τ2, k⟩ := Sim.wr m1 h4 (v := .agg cs'.toArray) (B := B') (by rw [RepV]; exact ⟨cs', by rw [Rep]; exact m3, rfl⟩) m2 no_og
          refine ⟨_, _, w, E, β, τ2, ?_, .inl rfl, k⟩
          unfold execOp
          rw [ho]
          dsimp only
          rw [Sem.run_bind, run_build w t _ _ hb]
          rfl
        | _ => exact (M.fail_some hf).elim
      | array len el =>
        cases z with
        | st zs =>
          dsimp only at hf
          obtain ⟨n, s0, _, _, _, _, h0, h01⟩ := M.bind_some hf
          obtain ⟨g0, rfl⟩ := M.lift_some h0
          obtain ⟨_, s1, _, _, _, _, h1, h2⟩ := M.bind_some h01
          obtain ⟨g1, rfl⟩ := M.when_some h1
          obtain ⟨ys, s2, _, _, _, _, h3, h4⟩ := M.bind_some h2
          obtain ⟨it, zv, z1, z2, z3⟩ := zeroT_some hz
          have hzc := (z3 w E).cells
          rw [Rep] at hzc
          have hall : ∀ z ∈ zs, z.size = n := fun z hz => by simpa using List.all_eq_true.1 g1 z hz
          have hst : ∀ (fs : List T) (i : Nat), (∀ z ∈ fs, z.size = n) → i ≤ fs.length → sizes (fs.take i) = i * n := by
            intro fs
            induction fs with
            | nil => intro i _ hi; simp at hi; subst hi; simp [sizes]
            | cons f fs ih =>
              intro i hf hi
              cases i with
              | zero => simp [sizes]
              | succ i =>
                rw [List.take_succ_cons, sizes, hf f (List.mem_cons_self ..), ih i (fun z hz => hf z (List.mem_cons_of_mem _ hz)) (by simpa using hi), Nat.succ_mul]
                omega
          obtain ⟨τ', cs', B', m1, m2, m3, m4⟩ := buildParts_sound (place := fun i => some (i * n, n)) (fun i z hz => by rw [hst zs i hall (Nat.le_of_lt (List.getElem?_eq_some_iff.1 hz).1), hall z (List.mem_of_getElem? hz)]) h ⟨List.nodup_nil, fun k hk => (by cases hk)⟩ hzc rfl h3
          obtain ⟨ie, hie, hin⟩ : ∃ ie, en.P.info? el = some ie ∧ ie.size = n := by
            unfold sizeT at g0
            cases hi : en.P.info? el with
            | none => rw [hi] at g0; cases g0
            | some ie => rw [hi] at g0; exact ⟨ie, rfl, by simpa using g0⟩
          have hb : en.P.built t (parts.map fun p => (p.1, a.eval p.2)).toList = some cs'.toArray := by
            unfold Program.built
            simp only [z1, hu, z2, hie, hin]
            simpa using m4
          obtain ⟨τ2, k⟩ := Sim.wr m1 h4 (v := .agg cs'.toArray) (B := B') (by rw [RepV]; exact ⟨cs', by rw [Rep]; exact m3, rfl⟩) m2 no_og
          refine ⟨_, _, w, E, β, τ2, ?_, .inl rfl, k⟩
          unfold execOp
          rw [ho]
          dsimp only
          rw [Sem.run_bind, run_build w t _ _ hb]
          rfl
        | _ => exact (M.fail_some hf).elim
      | _ => exact (M.fail_some hf).elim
end
end Go.Proofs.YtgkfjhfehdefaaaGreatDoor.Flat

namespace Go.Proofs.YtgkfjhfehdefaaaGreatDoor.Flat
set_option linter.unusedVariables false
set_option linter.unusedSimpArgs false
set_option linter.unusedSectionVars false
variable [Glob]

/-- Elements, one behind the other. -/
def RepL (w : World) (E : Nat → Nat) (sz : Nat) : List T → List Value → Prop
  | [], cs => cs = []
  | x :: xs, cs => ∃ c1 c2, cs = c1 ++ c2 ∧ c1.length = sz ∧ Rep w E x c1 [] ∧ RepL w E sz xs c2
theorem RepL.len {w : World} {E : Nat → Nat} {sz : Nat} : ∀ {xs : List T} {cs : List Value}, RepL w E sz xs cs → cs.length = xs.length * sz
  | [], cs, h => by rw [RepL] at h; rw [h]; simp
  | x :: xs, cs, h => by
    rw [RepL] at h
    obtain ⟨c1, c2, rfl, h1, h2, h3⟩ := h
    rw [List.length_append, h1, RepL.len h3, List.length_cons, Nat.succ_mul]
    omega
theorem RepL.mv {w : World} {E : Nat → Nat} {w' : World} {E' : Nat → Nat} {sz : Nat} (hm : Mv w E w' E' []) : ∀ {xs : List T} {cs : List Value}, RepL w E sz xs cs → RepL w' E' sz xs cs
  | [], cs, h => by rw [RepL] at h ⊢; exact h
  | x :: xs, cs, h => by
    rw [RepL] at h ⊢
    obtain ⟨c1, c2, e, h1, h2, h3⟩ := h
    exact ⟨c1, c2, e, h1, Rep.mv hm h2, RepL.mv hm h3⟩
theorem RepL.one {w : World} {E : Nat → Nat} {sz : Nat} : ∀ {xs : List T} {cs : List Value}, RepL w E sz xs cs → ∀ u ∈ cs, u.oneCell' = true
  | [], cs, h => by rw [RepL] at h; rw [h]; intro u hu; cases hu
  | x :: xs, cs, h => by
    rw [RepL] at h
    obtain ⟨c1, c2, rfl, h1, h2, h3⟩ := h
    intro u hu
    rcases List.mem_append.1 hu with hu | hu
    · exact Rep.one h2 u hu
    · exact RepL.one h3 u hu
theorem RepL.append {w : World} {E : Nat → Nat} {sz : Nat} : ∀ {xs ys : List T} {c1 c2 : List Value}, RepL w E sz xs c1 → RepL w E sz ys c2 → RepL w E sz (xs ++ ys) (c1 ++ c2)
  | [], ys, c1, c2, h, h' => by rw [RepL] at h; rw [h]; exact h'
  | x :: xs, ys, c1, c2, h, h' => by
    rw [RepL] at h
    obtain ⟨d1, d2, rfl, h1, h2, h3⟩ := h
    rw [List.cons_append, RepL]
    exact ⟨d1, d2 ++ c2, by simp, h1, h2, RepL.append h3 h'⟩
theorem RepA.ofL {w : World} {E : Nat → Nat} {sz : Nat} {ad : Addr} : ∀ {xs : List T} {cs : List Value} {o : Nat}, RepL w E sz xs cs → (∀ j u, cs[j]? = some u → w.cell? (ad.add (o + j)) = some u) → ad.off + o + xs.length * sz ≤ E ad.block → RepA w E sz ad o xs
  | [], cs, o, h, hc, he => by rw [RepA]; trivial
  | x :: xs, cs, o, h, hc, he => by
    rw [RepL] at h
    obtain ⟨c1, c2, rfl, h1, h2, h3⟩ := h
    rw [List.length_cons, Nat.succ_mul] at he
    rw [RepA]
    refine ⟨⟨by omega, c1, h1, fun j u hj => ?_, h2⟩, RepA.ofL h3 (fun j u hj => ?_) (by omega)⟩
    · have hlt := (List.getElem?_eq_some_iff.1 hj).1
      exact hc j u (by rw [List.getElem?_append_left hlt]; exact hj)
    · have := hc (sz + j) u (by rw [List.getElem?_append_right (by omega), h1]; simpa using hj)
      rw [Nat.add_assoc]
      exact this
theorem RepA.toL {w : World} {E : Nat → Nat} {sz : Nat} {ad : Addr} : ∀ {xs : List T} {o : Nat}, RepA w E sz ad o xs → ∃ cs, RepL w E sz xs cs ∧ ∀ j u, cs[j]? = some u → w.cell? (ad.add (o + j)) = some u
  | [], o, h => ⟨[], by rw [RepL], fun j u hj => by cases hj⟩
  | x :: xs, o, h => by
    rw [RepA] at h
    obtain ⟨⟨he, c1, h1, h2, h3⟩, h4⟩ := h
    obtain ⟨c2, k1, k2⟩ := RepA.toL h4
    refine ⟨c1 ++ c2, by rw [RepL]; exact ⟨c1, c2, rfl, h1, h3, k1⟩, fun j u hj => ?_⟩
    by_cases hlt : j < c1.length
    · rw [List.getElem?_append_left hlt] at hj
      exact h2 j u hj
    · rw [List.getElem?_append_right (by omega), h1] at hj
      have := k2 (j - sz) u hj
      rw [show o + j = o + sz + (j - sz) by omega]
      exact this
theorem cell_push {w : World} {cells : List Value} {ty : TypeId} {j : Nat} {u : Value} (h : cells[j]? = some u) : ({ w with heap := w.heap.push (.cells cells.toArray ty (0, 0)) } : World).cell? ((⟨w.heap.size, 0, none⟩ : Addr).add j) = some u := by
  have : (⟨w.heap.size, 0, none⟩ : Addr).add j = ⟨w.heap.size, j, none⟩ := by
    unfold Addr.add
    split
    · rename_i hj; rw [hj]
    · simp
  rw [this]
  unfold World.cell?
  dsimp only
  rw [push_new]
  simpa using h
section
variable {en : Env} {e : Ent} {w : World} {E : Nat → Nat} {β : Bm} {τ : Loc → List Nat} {a : Act} {s s' : St} {o : Oper} {r q : List Loc} {u : Unit}
/-- What is published, with so many cells of a new block. -/
def upE (E : Nat → Nat) (k n : Nat) : Nat → Nat := fun j => if j = k then n else E j
theorem Sim.newRow (h : Sim e w E β τ a s) {sz : Nat} {xs : List T} {cs zs : List Value} (hr : RepL w E sz xs cs) (hz : 0 < sz) {c : Nat} (hc : (cs ++ zs).length = c * sz) (hcb : c ≤ 9223372036854775807) (ty : TypeId) :
    Sim e { w with heap := w.heap.push (.cells (cs ++ zs).toArray ty (0, 0)) } (upE E w.heap.size (xs.length * sz)) β τ a s ∧
    RepT { w with heap := w.heap.push (.cells (cs ++ zs).toArray ty (0, 0)) } (upE E w.heap.size (xs.length * sz)) (.sl true sz xs) (.slice (some ⟨w.heap.size, 0, none⟩) xs.length c) [w.heap.size] ∧
    Free e { w with heap := w.heap.push (.cells (cs ++ zs).toArray ty (0, 0)) } β τ s [w.heap.size] := by
  have hE : ∀ k, k < w.heap.size → upE E w.heap.size (xs.length * sz) k = E k := fun k hk => if_neg (by omega)
  have hfr : Fr w E { w with heap := w.heap.push (.cells (cs ++ zs).toArray ty (0, 0)) } (upE E w.heap.size (xs.length * sz)) [] [] :=
    ⟨by rw [push_size]; omega, fun k hk _ _ => ⟨push_old hk, hE k hk⟩, fun k hk => (by cases hk), fun k hk => (by cases hk), rfl, rfl, rfl⟩
  have hm : Mv w E { w with heap := w.heap.push (.cells (cs ++ zs).toArray ty (0, 0)) } (upE E w.heap.size (xs.length * sz)) [] :=
    hfr.mv h.z (fun k hk => by cases hk) (fun k hk => by cases hk)
  have hl := hr.len
  refine ⟨h.move hfr (fun k hk => ?_) (fun k hk => by cases hk) (fun k hk => by cases hk), ?_, ?_⟩
  · rw [push_size] at hk
    show (if k = w.heap.size then _ else E k) = 0
    rw [if_neg (by omega)]
    exact h.z k (by omega)
  · refine ⟨[.slice (some ⟨w.heap.size, 0, none⟩) xs.length c], ?_, rfl⟩
    rw [Rep]
    have hself : upE E w.heap.size (xs.length * sz) w.heap.size = xs.length * sz := if_pos rfl
    refine ⟨some ⟨w.heap.size, 0, none⟩, c, rfl, ?_, hz, ?_, true, ⟨fun _ => rfl, fun _ h => (by cases h)⟩, rfl, fun _ => ⟨rfl, ?_, (cs ++ zs).toArray, ty, push_new, ?_, hcb⟩⟩
    · have : xs.length * sz ≤ c * sz := by rw [← hc, List.length_append]; omega
      exact Nat.le_of_mul_le_mul_right this hz
    · refine RepA.ofL (hr.mv hm) (fun j u hj => ?_) ?_
      · rw [Nat.zero_add]
        refine cell_push ?_
        rw [List.getElem?_append_left (List.getElem?_eq_some_iff.1 hj).1]
        exact hj
      · dsimp only
        rw [hself]
        omega
    · dsimp only
      rw [hself]
      omega
    · simp at hc ⊢
      omega
  · refine ⟨by simp, fun k hk => ?_⟩
    rw [List.mem_singleton.1 hk]
    refine ⟨by rw [push_size]; omega, .inl h.fr.size, fun l hl => ?_, fun j c hj hv he => ?_⟩
    · have := (h.tok l _ hl).1; omega
    · obtain ⟨cells, ty', k1, _⟩ := h.bx j c hj hv
      have := (Array.getElem?_eq_some_iff.1 k1).1
      omega
end
end Go.Proofs.YtgkfjhfehdefaaaGreatDoor.Flat

namespace Go.Proofs.YtgkfjhfehdefaaaGreatDoor.Flat
set_option linter.unusedVariables false
set_option linter.unusedSimpArgs false
set_option linter.unusedSectionVars false
variable [Glob]

theorem zeros_flat {zc : Array Value} {n : Nat} (hn : zc.size = n) (h0 : 0 < n) : ∀ len, (List.range (len * n)).map (fun j => zc[j % n]!) = (List.replicate len zc.toList).flatten
  | 0 => by simp
  | len + 1 => by
    rw [Nat.succ_mul, Nat.add_comm (len * n) n, List.range_add, List.map_append, List.map_map, List.replicate_succ, List.flatten_cons]
    congr 1
    · apply List.ext_getElem
      · simp [hn]
      · intro i h1 h2
        have h3 : i < n := by simpa using h1
        rw [List.getElem_map, List.getElem_range, Nat.mod_eq_of_lt h3]
        rw [getElem!_pos zc i (by omega)]
        simp
    · rw [← zeros_flat hn h0 len]
      apply List.map_congr_left
      intro j _
      simp
theorem RepS.reps {w : World} {E : Nat → Nat} {z : T} {cs : List Value} (h : Rep w E z cs []) : ∀ len, RepS w E (List.replicate len z) (List.replicate len cs).flatten []
  | 0 => by rw [List.replicate_zero, RepS]; exact ⟨rfl, rfl⟩
  | len + 1 => by
    rw [List.replicate_succ, RepS]
    exact ⟨cs, _, [], [], by rw [List.replicate_succ, List.flatten_cons], rfl, h, RepS.reps h len⟩
theorem RepS.toL {w : World} {E : Nat → Nat} {n : Nat} : ∀ {ys : List T} {cs : List Value}, RepS w E ys cs [] → (∀ y ∈ ys, y.size = n) → RepL w E n ys cs
  | [], cs, h, hy => by rw [RepS] at h; rw [RepL]; exact h.1
  | y :: ys, cs, h, hy => by
    rw [RepS] at h
    obtain ⟨c1, c2, B1, B2, e1, e2, h1, h2⟩ := h
    obtain ⟨rfl, rfl⟩ := List.append_eq_nil_iff.1 e2.symm
    rw [RepL]
    exact ⟨c1, c2, e1, (Rep.len h1).trans (hy y (List.mem_cons_self ..)), h1, RepS.toL h2 (fun z hz => hy z (List.mem_cons_of_mem _ hz))⟩
theorem sizes_all {n : Nat} : ∀ {ys : List T}, (∀ y ∈ ys, y.size = n) → sizes ys = ys.length * n
  | [], _ => by simp [sizes]
  | y :: ys, h => by
    rw [sizes, h y (List.mem_cons_self ..), sizes_all (fun z hz => h z (List.mem_cons_of_mem _ hz)), List.length_cons, Nat.succ_mul]
    omega
section
variable {en : Env} {e : Ent} {w : World} {E : Nat → Nat} {β : Bm} {τ : Loc → List Nat} {a : Act} {s s' : St} {o : Oper} {r q : List Loc} {u : Unit}
theorem buildElems_sound (h : Sim e w E β τ a s) {t : TypeId} {n : Nat} : ∀ {parts : List (Nat × Operand)} {ys : List T} {cs : List Value} {ys' : List T} {s' : St} {r q : List Loc},
    RepS w E ys cs [] → (∀ y ∈ ys, y.size = n) → buildElems en t parts ys s = some (ys', s', r, q) →
    s = s' ∧ ys'.length = ys.length ∧ (∀ y ∈ ys', y.size = n) ∧ ∃ cs', RepS w E ys' cs' [] ∧ Instr.fill (fun i => some (i * n, n)) cs.toArray (parts.map fun p => (p.1, a.eval p.2)) = some cs'.toArray
  | [], ys, cs, ys', s', r, q, hr, hm, hb => by
    rw [buildElems] at hb
    obtain ⟨rfl, rfl⟩ := M.pure_some (s := s) hb
    exact ⟨rfl, rfl, hm, cs, hr, rfl⟩
  | (i, x) :: rest, ys, cs, ys', s', r, q, hr, hm, hb => by
    rw [buildElems] at hb
    obtain ⟨old, s2, _, _, _, _, h3, h4⟩ := M.bind_some hb
    obtain ⟨g3, rfl⟩ := M.lift_some h3
    obtain ⟨y, s3, _, _, _, _, h5, h6⟩ := M.bind_some h4
    obtain ⟨rfl, k2⟩ := rdO_sound h h5
    cases y with
    | t y =>
      dsimp only at h6
      obtain ⟨_, s4, _, _, _, _, h7, h8⟩ := M.bind_some h6
      obtain ⟨g7, rfl⟩ := M.when_some h7
      have hold := hm old (List.mem_of_getElem? g3)
      have hys : y.sh.size = n := by rw [T.size_sh, ← hold]; simpa using g7
      rw [RepV] at k2
      have hc := k2.cells.sh
      obtain ⟨c1, c2, c3, B1, B2, B3, e1, e2, e3, e4, e5⟩ := RepS.set hr g3
      obtain ⟨e6, rfl⟩ := List.append_eq_nil_iff.1 e2.symm
      obtain ⟨rfl, rfl⟩ := List.append_eq_nil_iff.1 e6
      have hm' : ∀ z ∈ ys.set i y.sh, z.size = n := fun z hz => by
        rcases List.mem_or_eq_of_mem_set hz with hz | rfl
        · exact hm z hz
        · exact hys
      obtain ⟨m0, m1, m2, cs', m3, m4⟩ := buildElems_sound h (e5 y.sh _ _ hc) hm' h8
      refine ⟨m0, by rw [m1, List.length_set], m2, cs', m3, ?_⟩
      rw [List.map_cons]
      dsimp only
      rw [e1]
      have hlen := Rep.len hc
      have hlt := (List.getElem?_eq_some_iff.1 g3).1
      have htake : sizes (ys.take i) = i * n := by
        rw [sizes_all (n := n) (fun z hz => hm z (List.mem_of_mem_take hz)), List.length_take, Nat.min_eq_left (by omega)]
      rw [fill_cons (off := i * n) (by rw [e4, hold]) (by rw [hlen, hys, e4, hold]) (by rw [e3, htake])]
      exact m4
    | _ => exact (M.fail_some h6).elim
theorem run_buildSlice0 {P : Program} (w : World) (t e : TypeId) (parts : Array (Nat × Value)) (cells : Array Value) (ie : TypeInfo) (hu : P.underlying t = some (.slice e)) (hie : P.info? e = some ie) (h : Instr.fill (fun i => some (i * ie.size, ie.size)) #[] parts.toList = some cells) :
    (Instr.buildSlice t 0 parts).run P w = .ok (.slice (some ⟨w.heap.size, 0, none⟩) 0 0) (w.alloc (.cells cells e)) := by
  have e0 : Array.range 0 = #[] := rfl
  simp [Instr.buildSlice, run_underlying hu, sizeOf, typeInfo, hie, e0, h, newRow]
theorem fire_buildSlice (h : Sim e w E β τ a s) {t : TypeId} {len : Nat} {parts : Array (Nat × Operand)} (ho : o.op = .buildSlice t len parts) (hf : fire en o s = some (u, s', r, q)) : Done en o e w a s' := by
  unfold fire at hf
  rw [ho] at hf
  dsimp only at hf
  obtain ⟨⟨el, n⟩, s1, _, _, _, _, h1, h2⟩ := M.bind_some hf
  obtain ⟨g1, rfl⟩ := M.lift_some h1
  obtain ⟨z, s2, _, _, _, _, h3, h4⟩ := M.bind_some h2
  obtain ⟨g3, rfl⟩ := M.lift_some h3
  obtain ⟨_, s3, _, _, _, _, h5, h6⟩ := M.bind_some h4
  obtain ⟨g5, rfl⟩ := M.when_some h5
  obtain ⟨ys, s4, _, _, _, _, h7, h8⟩ := M.bind_some h6
  obtain ⟨ti, k1, k2, k3⟩ := elemOf_some g1
  obtain ⟨it, zv, z1, z2, z3⟩ := zeroT_some g3
  simp only [Bool.and_eq_true, decide_eq_true_eq] at g5
  obtain ⟨⟨g51, g53⟩, g54⟩ := g5
  have hzs : z.size = n := by simpa using g54
  have hzc := Rep.sh (z3 w E).cells
  have hzl : zv.cells.size = n := by have := Rep.len hzc; rw [T.size_sh, hzs] at this; simpa using this
  obtain ⟨m0, m1, m2, cs', m3, m4⟩ := buildElems_sound h (n := n) (RepS.reps hzc len) (fun y hy => by rw [(List.mem_replicate.1 hy).2, T.size_sh, hzs]) h7
  subst m0
  have hL := m3.toL m2
  have hlen : ys.length = len := by rw [m1, List.length_replicate]
  have hlc := hL.len
  obtain ⟨n1, n2, n3⟩ := h.newRow hL g51 (zs := []) (c := len) (by rw [List.append_nil, hlc, hlen]) (by have : len * 1 ≤ len * n := Nat.mul_le_mul_left _ g51; omega) el
  rw [List.append_nil, hlen] at n1 n2
  rw [List.append_nil] at n3
  obtain ⟨τ', k⟩ := Sim.wr n1 h8 (by rw [RepV]; exact n2) n3 no_og
  have hit : it = ti := Option.some.inj (z1.symm.trans k2)
  subst hit
  refine ⟨_, _, _, _, β, τ', ?_, .inl rfl, k⟩
  have hrun0 : ∀ g52 : 0 < len, (Instr.buildSlice t len (parts.map fun p => (p.1, a.eval p.2))).run en.P w = .ok (.slice (some ⟨w.heap.size, 0, none⟩) len len) (w.alloc (.cells cs'.toArray el)) := fun g52 => by
    have q := run_buildSlice (P := en.P) w t el len (parts.map fun p => (p.1, a.eval p.2)) cs'.toArray it zv k1 z1 z2 (by rw [k3]; omega) (by rw [k3]; have := Nat.mul_pos g52 g51; omega) (by
      rw [k3, hzl]
      have : (Array.range (len * n)).map (fun j => zv.cells[j % n]!) = (List.replicate len zv.cells.toList).flatten.toArray := by
        apply Array.ext'
        rw [← zeros_flat hzl g51 len]
        simp
      rw [this]
      simpa using m4)
    rw [q]
  have hrun : (Instr.buildSlice t len (parts.map fun p => (p.1, a.eval p.2))).run en.P w = .ok (.slice (some ⟨w.heap.size, 0, none⟩) len len) (w.alloc (.cells cs'.toArray el)) := by
    rcases Nat.eq_zero_or_pos len with e0 | g52
    · have q := run_buildSlice0 (P := en.P) w t el (parts.map fun p => (p.1, a.eval p.2)) cs'.toArray it k1 z1 (by
        rw [k3]
        rw [e0] at m4
        simpa using m4)
      rw [e0, q]
    · exact hrun0 g52
  unfold execOp
  rw [ho]
  dsimp only
  rw [Sem.run_bind, hrun]
  rfl
end
end Go.Proofs.YtgkfjhfehdefaaaGreatDoor.Flat

namespace Go.Proofs.YtgkfjhfehdefaaaGreatDoor.Flat
set_option linter.unusedVariables false
set_option linter.unusedSimpArgs false
set_option linter.unusedSectionVars false
variable [Glob]

theorem cell_row {w : World} {b : Nat} {cs : List Value} {ty : TypeId} {fr : Nat × Nat} (h : w.heap[b]? = some (.cells cs.toArray ty fr)) {j : Nat} {u : Value} (hj : cs[j]? = some u) : w.cell? ⟨b, j, none⟩ = some u := by
  unfold World.cell?
  dsimp only
  rw [h]
  simpa using hj
theorem add_none {b o j : Nat} : (⟨b, o, none⟩ : Addr).add j = ⟨b, o + j, none⟩ := by
  unfold Addr.add
  split
  · rename_i h; rw [h]; rfl
  · rfl
section
variable {en : Env} {e : Ent} {w : World} {E : Nat → Nat} {β : Bm} {τ : Loc → List Nat} {a : Act} {s s' : St} {o : Oper} {r q : List Loc} {u : Unit}
theorem Sim.drew (h : Sim e w E β τ a s) : Sim e w.drew E β τ a s :=
  h.move (w' := w.drew) (E' := E) (Ba := []) (M := []) ⟨Nat.le_refl _, fun k _ _ _ => ⟨rfl, rfl⟩, fun k hk => (by cases hk), fun k hk => (by cases hk), rfl, rfl, rfl⟩ h.z (fun k hk => by cases hk) (fun k hk => by cases hk)
theorem append_core {P : Program} (h : Sim e w E β τ a s) {t tx ty el : TypeId} {ti : TypeInfo} {z : Value} (ht : P.underlying t = some (.slice el)) (hi : P.info? el = some ti) (hz : ti.zero = some z) (hzs : z.cells.size = ti.size) (hsz : 0 < ti.size)
    {xs ys : List T} {vx vy : Value} {B : List Nat} (hx : RepT w E (.sl true ti.size xs) vx B) (hB : Free e w β τ s B) {news : List Value} (hn : RepL w E ti.size ys news) (hs : Src P ti.size tx vy ys.length news w)
    (hb : (xs.length + ys.length) * ti.bytes ≤ 140737488355328) (h0 : 0 < ti.bytes) :
    ∃ v w' E' B', (Builtin.append_ #[t, tx] ty #[vx, vy]).run P w = .ok v w' ∧ Sim e w' E' β τ a s ∧ RepT w' E' (.sl true ti.size (xs ++ ys)) v B' ∧ Free e w' β τ s B' := by
  obtain ⟨cs0, hr, rfl⟩ := hx
  have hr' := hr
  rw [Rep] at hr
  obtain ⟨A, c, rfl, hlc, _, hA⟩ := hr
  have h63 : ((xs.length + ys.length : Nat) : Int) ≤ 9223372036854775807 := by
    have : (xs.length + ys.length) * 1 ≤ (xs.length + ys.length) * ti.bytes := Nat.mul_le_mul_left _ h0
    omega
  have hnl := hn.len
  -- a new row
  have grow : ∀ (base : Option Addr) (olds : List Value), c < xs.length + ys.length → RepL w E ti.size xs olds → (Builtin.firstCells ti.size xs.length (.slice base xs.length c)).run P w.drew = .ok olds.toArray w.drew →
      ∃ v w' E' B', (Builtin.append_ #[t, tx] ty #[.slice base xs.length c, vy]).run P w = .ok v w' ∧ Sim e w' E' β τ a s ∧ RepT w' E' (.sl true ti.size (xs ++ ys)) v B' ∧ Free e w' β τ s B' := by
    intro base olds hg ho hold
    have hrun := run_append_grow_src (P := P) w t tx ty el ti z ht hi hz base xs.length c olds hold vy ys.length news hs hg h63 (growslice_fits hg hb)
    have hge := grownCap_ge w (xs.length + ys.length) c el
    have hap := ho.append hn
    have hal := hap.len
    have hmd : Mv w E w.drew E [] := ⟨fun k i hi => ⟨hi, rfl⟩, fun k hk => (by cases hk)⟩
    have hap' := hap.mv hmd
    have hzl : (Builtin.zeroCells z.cells (grownCap w (xs.length + ys.length) c el - (xs.length + ys.length))).toList.length = (grownCap w (xs.length + ys.length) c el - (xs.length + ys.length)) * ti.size := by rw [Array.length_toList, size_zeroCells, hzs]
    obtain ⟨n1, n2, n3⟩ := (h.drew).newRow (sz := ti.size) (xs := xs ++ ys) (cs := olds ++ news) (zs := (Builtin.zeroCells z.cells (grownCap w (xs.length + ys.length) c el - (xs.length + ys.length))).toList) hap' hsz
      (c := grownCap w (xs.length + ys.length) c el) (by
        rw [List.length_append, hal, hzl, List.length_append, ← Nat.add_mul]
        congr 1
        omega) (by have hq := grownCap_le_maxLen w (xs.length + ys.length) c el (by unfold maxLen; omega); unfold maxLen at hq; omega) el
    have e1 : ((olds ++ news) ++ (Builtin.zeroCells z.cells (grownCap w (xs.length + ys.length) c el - (xs.length + ys.length))).toList).toArray = (olds ++ news).toArray ++ Builtin.zeroCells z.cells (grownCap w (xs.length + ys.length) c el - (xs.length + ys.length)) := by
      apply Array.ext'
      simp
    rw [e1] at n1 n2 n3
    rw [List.length_append] at n1 n2
    try rw [List.length_append] at n3
    exact ⟨_, _, _, _, hrun, n1, n2, n3⟩
  cases A with
  | none =>
    obtain ⟨rfl, rfl, rfl⟩ := hA
    show ∃ v w' E' B', (Builtin.append_ #[t, tx] ty #[.slice none 0 0, vy]).run P w = .ok v w' ∧ _
    cases ys with
    | nil =>
      have e2 : news = [] := List.eq_nil_of_length_eq_zero (by rw [hnl]; simp)
      subst e2
      exact ⟨_, w, E, [], run_append_nothing (P := P) w t tx ty el ti ht hi none 0 0 (Nat.le_refl _) vy hs, h, ⟨_, hr', rfl⟩, hB⟩
    | cons y ys =>
      exact grow none [] (by simp) (by rw [RepL]) (run_firstCells_none w.drew ti.size 0 0 0)
  | some ad =>
    obtain ⟨hA1, tk, htk, rfl, hA3⟩ := hA
    cases tk with
    | false =>
      have hcx : c = xs.length := htk.2 rfl rfl
      show ∃ v w' E' B', (Builtin.append_ #[t, tx] ty #[.slice (some ad) xs.length c, vy]).run P w = .ok v w' ∧ _
      cases ys with
      | nil =>
        have e2 : news = [] := List.eq_nil_of_length_eq_zero (by rw [hnl]; simp)
        subst e2
        exact ⟨_, w, E, _, run_append_nothing (P := P) w t tx ty el ti ht hi (some ad) xs.length c hlc vy hs, h, ⟨_, by rw [List.append_nil]; exact hr', rfl⟩, hB⟩
      | cons y ys =>
        obtain ⟨olds, m1, m2⟩ := RepA.toL hA1
        refine grow (some ad) olds (by rw [hcx, List.length_cons]; omega) m1 ?_
        refine run_firstCells_some w.drew ti.size xs.length ad xs.length c olds m1.len (fun j u' hu => ?_)
        have := m2 j u' hu
        rw [Nat.zero_add] at this
        exact this
    | true =>
    rw [if_pos rfl] at hB
    obtain ⟨hspot, hE, cells, tyc, hc, hcz, hcb⟩ := hA3 rfl
    obtain ⟨b, off, sp⟩ := ad
    dsimp only at hspot hE hc hcz hA1 hB
    subst hspot
    show ∃ v w' E' B', (Builtin.append_ #[t, tx] ty #[.slice (some ⟨b, off, none⟩) xs.length c, vy]).run P w = .ok v w' ∧ _
    by_cases hfit : xs.length + ys.length ≤ c
    · have hmul : (xs.length + ys.length) * ti.size ≤ c * ti.size := Nat.mul_le_mul_right _ hfit
      rw [Nat.add_mul] at hmul
      -- the block in three parts
      have hsplit : cells.toList = cells.toList.take (off + xs.length * ti.size) ++ (cells.toList.drop (off + xs.length * ti.size)).take news.length ++ cells.toList.drop (off + xs.length * ti.size + news.length) := by
        have hd : cells.toList.drop (off + xs.length * ti.size + news.length) = (cells.toList.drop (off + xs.length * ti.size)).drop news.length := by rw [List.drop_drop]
        rw [hd, List.append_assoc, List.take_append_drop, List.take_append_drop]
      generalize hc1 : cells.toList.take (off + xs.length * ti.size) = c1 at hsplit
      generalize hc2 : (cells.toList.drop (off + xs.length * ti.size)).take news.length = c2 at hsplit
      generalize hc3 : cells.toList.drop (off + xs.length * ti.size + news.length) = c3 at hsplit
      have hcl : cells.toList.length = cells.size := by simp
      have hl1 : c1.length = off + xs.length * ti.size := by rw [← hc1, List.length_take, hcl]; omega
      have hl2 : c2.length = news.length := by rw [← hc2, List.length_take, List.length_drop, hcl]; omega
      have hrow0 : w.heap[b]? = some (.cells (c1 ++ c2 ++ c3).toArray tyc (0, 0)) := by rw [hc, ← hsplit]
      have hrow := setCells_row news c1 c2 c3 w hrow0 hl2
      rw [hl1] at hrow
      have hfar : ∀ k, k ≠ b → (w.setCells b (off + xs.length * ti.size) news).heap[k]? = w.heap[k]? := fun k hk => setCells_far hk news _ w
      have hsize := setCells_size (b := b) news (off + xs.length * ti.size) w
      have hbw : b < w.heap.size := (Array.getElem?_eq_some_iff.1 hc).1
      have hrun := run_append_room_src (P := P) w t tx ty el ti ht hi b off xs.length c vy ys.length news hs hfit (fun j hj => by
          have hlt : c1.length + j < (c1 ++ c2 ++ c3).length := by simp; omega
          rw [← hl1, cell_row hrow0 (List.getElem?_eq_getElem hlt)]
          rfl) (fun j hj => by
          unfold World.frozen?
          rw [hrow0]
          simp)
      obtain ⟨f1, f2, f3, f4⟩ := hB.2 b (List.mem_singleton.2 rfl)
      have hE' : ∀ k, k ≠ b → upE E b (off + xs.length * ti.size + news.length) k = E k := fun k hk => if_neg hk
      have hEb : upE E b (off + xs.length * ti.size + news.length) b = off + xs.length * ti.size + news.length := if_pos rfl
      have hbelow : ∀ i, i < E b → (w.setCells b (off + xs.length * ti.size) news).cell? ⟨b, i, none⟩ = w.cell? ⟨b, i, none⟩ := by
        intro i hi'
        have hi2 : i < c1.length := by omega
        rw [cell_row hrow (j := i) (u := c1[i]) (by rw [List.append_assoc, List.getElem?_append_left hi2]; exact List.getElem?_eq_getElem hi2), cell_row hrow0 (j := i) (u := c1[i]) (by rw [List.append_assoc, List.getElem?_append_left hi2]; exact List.getElem?_eq_getElem hi2)]
      have hfr : Fr w E (w.setCells b (off + xs.length * ti.size) news) (upE E b (off + xs.length * ti.size + news.length)) [b] [] := by
        refine ⟨by rw [hsize]; exact Nat.le_refl _, fun k hk hkB _ => ?_, fun k hk hkw => ?_, fun k hk => (by cases hk), setCells_ext _ _ _⟩
        · have : k ≠ b := fun e => hkB (by rw [e]; exact List.mem_singleton.2 rfl)
          exact ⟨hfar k this, hE' k this⟩
        · rw [List.mem_singleton.1 hk]
          refine ⟨by rw [hEb, hE]; omega, hbelow, fun cells' ty' hc' => ?_⟩
          rw [hrow0] at hc'
          cases hc'
          exact ⟨_, hrow, by simp; omega⟩
      have hmv : Mv w E (w.setCells b (off + xs.length * ti.size) news) (upE E b (off + xs.length * ti.size + news.length)) [] := hfr.mv h.z (fun k hk => by cases hk) (fun k hk => by cases hk)
      have hsim := h.move hfr (fun k hk => by
          rw [hsize] at hk
          rw [hE' k (by omega)]
          exact h.z k hk) (fun k hk => by
          rw [List.mem_singleton.1 hk]
          refine ⟨f1, f2, fun hM => ?_, f3, f4⟩
          rcases f2 with f2 | f2
          · have := h.mlt _ hM; omega
          · exact h.dis _ f2 hM) (fun k hk => by cases hk)
      refine ⟨_, _, _, [b], hrun, hsim, ⟨[.slice (some ⟨b, off, none⟩) (xs.length + ys.length) c], ?_, rfl⟩, ?_⟩
      · rw [Rep]
        refine ⟨some ⟨b, off, none⟩, c, by rw [List.length_append], by rw [List.length_append]; exact hfit, hsz, ?_, true, ⟨fun _ => rfl, fun _ h => (by cases h)⟩, rfl, fun _ => ⟨rfl, ?_, (c1 ++ news ++ c3).toArray, tyc, hrow, ?_, hcb⟩⟩
        · obtain ⟨ks, m1, m2⟩ := RepA.toL (RepA.mv hmv hA1)
          have hkl := m1.len
          refine RepA.ofL (m1.append (hn.mv hmv)) (fun j u' hj => ?_) ?_
          · by_cases hjk : j < ks.length
            · rw [List.getElem?_append_left hjk] at hj
              exact m2 j u' hj
            · rw [List.getElem?_append_right (by omega)] at hj
              rw [Nat.zero_add, add_none]
              refine cell_row hrow ?_
              have hlt := (List.getElem?_eq_some_iff.1 hj).1
              rw [List.append_assoc, List.getElem?_append_right (by omega), List.getElem?_append_left (by omega), ← hj]
              congr 1
              omega
          · dsimp only
            rw [hEb, List.length_append, Nat.add_mul]
            omega
        · dsimp only
          rw [hEb, List.length_append, Nat.add_mul]
          omega
        · have : (c1 ++ c2 ++ c3).length = cells.size := by rw [← hsplit, hcl]
          simp at this ⊢
          omega
      · refine ⟨by simp, fun k hk => ?_⟩
        rw [List.mem_singleton.1 hk]
        exact ⟨by rw [hsize]; exact f1, f2, f3, f4⟩
    · obtain ⟨olds, m1, m2⟩ := RepA.toL hA1
      refine grow (some ⟨b, off, none⟩) olds (by omega) m1 ?_
      refine run_firstCells_some w.drew ti.size xs.length ⟨b, off, none⟩ xs.length c olds m1.len (fun j u' hu => ?_)
      have := m2 j u' hu
      rw [Nat.zero_add] at this
      exact this
end
end Go.Proofs.YtgkfjhfehdefaaaGreatDoor.Flat
