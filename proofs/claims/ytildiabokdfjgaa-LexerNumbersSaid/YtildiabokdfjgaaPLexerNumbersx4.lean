/- Contracts of Go functions of this claim, and the Lean functions that they come to. -/
import Derived.Test.YtildiabokdfjgaaPLexerNumbersx0
import Derived.Test.YtildiabokdfjgaaPLexerNumbersx1
import Derived.Test.YtildiabokdfjgaaPLexerNumbersx3
namespace Go.Proofs.Ytildiabokdfjgaa.PLexerNumbers
open Go.RowKit Go.Proofs.YtildiabokdfjgaaW.PrintWords Go.Proofs.YtildiabokdfjgaaW.PrintLast Go.Proofs.YtildiabokdfjgaaW.PrintMore
attribute [local go_sem] max2_int min2_int max_two min_two max_three min_three max_four min_four   -- for this text's walks alone
set_option linter.unusedVariables false
set_option linter.unusedSimpArgs false

/-! ### lexer_All: function 13 -/
-- IMPORTS Derived.RangeFuncNested,Derived.RangeFuncBound,Derived.RangeFuncCalls,Derived.RangeFuncLeaves,Derived.RangeFuncBox,Derived.Shelf.Abstract,Derived.OwnWalkIn,Derived.TacticsInMore,Derived.LoopNIn,Derived.LoopIn,Derived.Maps.OwnIn
-- the numbers of functions and types are those of the seat of part 08
section
attribute [local go_sem] Oper.semAt_some
def lexer_All.toks : Nat → List Int → Int → Option (List (S32 × Int))
  | 0, _, _ => none
  | k + 1, x0, at_ => if at_ < (x0.length : Int) then (lexer_token.f k x0 at_).bind fun b => if b.2.2.2.2 < 0 then some [] else (lexer_token.f k x0 b.2.1).bind fun c => (lexer_start.f k x0 b.2.2.2.2).bind fun a' => (lexer_All.toks k x0 a').bind fun r => some (((⟨b.1, b.2.1, b.2.2.1, b.2.2.2.1⟩ : S32), c.2.2.2.2) :: r) else some []
def lexer_All.lastEnd (l : List (S32 × Int)) : Int := match l.getLast? with | none => 0 | some p => p.2
def lexer_All.f (k : Nat) (l0 : List Int) : Option (List S32 × Int × Int) :=
  if 20000 < l0.length then some ([], 0, 3) else (lexer_start.f k l0 0).bind fun a0 => (lexer_All.toks k l0 a0).bind fun ys => if ys.length ≤ 100000 then (lexer_start.f k l0 (lexer_All.lastEnd ys)).bind fun at_ => if at_ < (l0.length : Int) then some ([], at_, 30) else some (ys.map (·.1), 0, 0) else none
theorem lexer_All.mono_l : ∀ k x0 a, LeO (lexer_All.toks k x0 a) (lexer_All.toks (k + 1) x0 a)
  | 0 => fun _ _ r h => by simp [lexer_All.toks] at h
  | k + 1 => by
    have ih0 := lexer_All.mono_l k
    intro x0 a
    unfold lexer_All.toks
    split
    · refine LeO.bind (lexer_token.mono _ _ _) fun b => ?_
      split
      · exact LeO.refl _
      · refine LeO.bind (lexer_token.mono _ _ _) fun c => ?_
        refine LeO.bind (lexer_start.mono _ _ _) fun a' => ?_
        exact LeO.bind (ih0 _ _) fun r => LeO.refl _
    · exact LeO.refl _
theorem lexer_All.mono : ∀ l0 k, LeO (lexer_All.f k l0) (lexer_All.f (k + 1) l0) := by
  intro l0 k
  unfold lexer_All.f
  split
  · exact LeO.refl _
  · refine LeO.bind (lexer_start.mono _ _ _) fun b => ?_
    refine LeO.bind (lexer_All.mono_l _ _ _) fun ys => ?_
    split
    · refine LeO.bind (lexer_start.mono _ _ _) fun b => LeO.refl _
    · exact LeO.refl _

/-- What the body may be handed: a token, and where it is said to end. -/
structure lexer_All.El (l0 : List Int) where
  s : S32
  e : Int
  ok : ∃ k a b c d, lexer_token.f k l0 s.f1 = some (a, b, c, d, e)
def lexer_All.El.p {l0 : List Int} (x : lexer_All.El l0) : S32 × Int := (x.s, x.e)
def lexer_All.enc (s : S32) : Value := .agg #[.int .i64 s.f0, .int .i64 s.f1, .string s.f2, .int .i64 s.f3]
theorem lexer_All.toks_ok : ∀ (k : Nat) (l0 : List Int) (a : Int) (r : List (S32 × Int)), lexer_All.toks k l0 a = some r → ∃ xs : List (lexer_All.El l0), xs.map lexer_All.El.p = r
  | 0, _, _, _, h => by simp [lexer_All.toks] at h
  | k + 1, l0, a, r, h => by
    unfold lexer_All.toks at h
    split at h
    · obtain ⟨b, hb, h⟩ := Option.bind_eq_some_iff.mp h
      split at h
      · cases h; exact ⟨[], rfl⟩
      · obtain ⟨c, hc, h⟩ := Option.bind_eq_some_iff.mp h
        obtain ⟨a', ha, h⟩ := Option.bind_eq_some_iff.mp h
        obtain ⟨r', hr, h⟩ := Option.bind_eq_some_iff.mp h
        cases h
        obtain ⟨xs, hx⟩ := lexer_All.toks_ok k l0 a' r' hr
        exact ⟨⟨⟨b.1, b.2.1, b.2.2.1, b.2.2.2.1⟩, c.2.2.2.2, k, c.1, c.2.1, c.2.2.1, c.2.2.2.1, hc⟩ :: xs, by rw [List.map_cons, hx]; rfl⟩
    · cases h; exact ⟨[], rfl⟩
open Classical in
noncomputable def lexer_All.left (l0 : List Int) (v : Value) : Nat :=
  if h : ∃ q : Int × Nat × List (S32 × Int), v = .int .i64 q.1 ∧ lexer_All.toks q.2.1 l0 q.1 = some q.2.2 then (Classical.choose h).2.2.length else 0
theorem lexer_All.left_eq {l0 : List Int} {k : Nat} {a : Int} {r : List (S32 × Int)} (h : lexer_All.toks k l0 a = some r) : lexer_All.left l0 (.int .i64 a) = r.length := by
  have hex : ∃ q : Int × Nat × List (S32 × Int), Value.int .i64 a = .int .i64 q.1 ∧ lexer_All.toks q.2.1 l0 q.1 = some q.2.2 := ⟨(a, k, r), rfl, h⟩
  unfold lexer_All.left
  rw [dif_pos hex]
  obtain ⟨e, hl⟩ := Classical.choose_spec hex
  have e' : a = (Classical.choose hex).1 := by simpa using e
  rw [← e'] at hl
  obtain ⟨k', h1, h2⟩ := together (g := fun k => lexer_All.toks k l0 a) (f := fun k => lexer_All.toks k l0 a) (fun k => lexer_All.mono_l k _ _) (fun k => lexer_All.mono_l k _ _) ⟨_, h⟩ ⟨_, hl⟩
  have : r = (Classical.choose hex).2.2 := Option.some.inj (h1.symm.trans h2)
  rw [← this]

set_option maxRecDepth 100000 in
set_option maxHeartbeats 4000000 in
theorem lexer_All.steps_in (n : Nat) (hn : 1 ≤ n) (l Bq : Nat) (A0 : Option Addr) (c0 : Nat) (l0 : List Int) (w0 : World) (hr0 : Kd.C (Kd.int .u8) w0 A0 l0.length l0) (hc0 : l0.length ≤ c0) (hlen : l0.length ≤ 20000)
    (k : Nat) (a0 : Int) (hst : lexer_start.f k l0 0 = some a0) (xs : List (lexer_All.El l0)) (htk : lexer_All.toks k l0 a0 = some (xs.map lexer_All.El.p)) (J Jx : List (lexer_All.El l0) → World → Prop)
    (hJ : ∀ s W W', J s W → Below W.heap.size W W' → J s W')
    (hY : ∀ pre x W, J pre W → pre.length < xs.length → YieldAt Fence.wide (n - 1) Try.prog l #[lexer_All.enc x.s] W fun e W' =>
      (e = .returned (.bool true) ∧ J (pre ++ [x]) W' ∧ (Below w0.heap.size W W' ∧ ∀ o, Boxed W Bq 22 o → Boxed W' Bq 22 o)) ∨ (e = .returned (.bool false) ∧ Jx (pre ++ [x]) W'))
    (W : World) (hB : Below w0.heap.size w0 W) (hq : Boxed W Bq 22 (.slice A0 l0.length c0)) (h0 : J [] W) :
    CallsIn Fence.wide n Try.prog 19 #[.func (.yield l) #[] #[], .pointer (some ⟨Bq, 0, none⟩)] W fun e W' => (∃ v, e = .returned v) ∧
      ((∃ ys, ys = xs ∧ J ys W') ∨ (∃ pre, pre <+: xs ∧ Jx pre W')) := by
  refine callsIn_of_wp Try.func19 rfl trivial ?_ rfl
  simp only [Try.ntmps19, List.size_toArray, List.length_cons, List.length_nil, Nat.reduceAdd, Nat.reduceSub, Array.replicate_succ, Array.replicate_zero, List.push_toArray, List.append_toArray, List.nil_append, List.cons_append]
  have hcq := hq.cell
  have hno : ¬ 20000 < l0.length := by omega
  have hnd : decide (20000 < l0.length) = false := decide_eq_false hno
  gi_wp2_with (refine ⟨trivial, ?_⟩; gi_at_call 20; refine (callsIn_wide.2 (lexer_start.calls k A0 c0 l0 0 a0 _ (Kd.C_below hr0 hB) hc0 hst)).mono ?_; rintro e w' ⟨rfl, ⟨nd, rfl⟩⟩)
  have hBd : ∀ (X : World) (m : Nat), Below X.heap.size X (X.drewN m) := fun X m => ⟨rfl, rfl, rfl, Nat.le_refl _, fun _ _ => rfl⟩
  have htk' := Aside0.mk htk
  clear htk
  gi_loopw [3] (fun v wr => ∃ (kq : Nat) (at_ : Int) (pre rest : List (lexer_All.El l0)), v = .int .i64 at_ ∧ xs = pre ++ rest ∧ Aside0 (lexer_All.toks kq l0 at_ = some (rest.map lexer_All.El.p)) ∧ J pre wr ∧ Below w0.heap.size w0 wr ∧ Boxed wr Bq 22 (.slice A0 l0.length c0))
    (fun v wr => lexer_All.left l0 v)
  case atStart =>
    exact ⟨k, a0, [], xs, rfl, rfl, htk', hJ _ _ _ h0 (hBd _ _), hB.trans ((hBd W nd).mono hB.size), hq⟩
  case round =>
    obtain ⟨kq, at_, pre, rest, rfl, hx, hT, hJs, hBr, hqr⟩ := hrel
    clear hcq hq
    have hcq := hqr.cell
    cases kq with
    | zero => exact absurd hT.out (by simp [lexer_All.toks])
    | succ kq =>
    have hT' := hT.out
    clear htk'
    have hleft := lexer_All.left_eq hT.out
    unfold lexer_All.toks at hT'
    by_cases hlt : at_ < (l0.length : Int)
    · rw [if_pos hlt] at hT'
      obtain ⟨⟨b1, b2, b3, b4, b5⟩, hb, hT'⟩ := Option.bind_eq_some_iff.mp hT'
      dsimp only at hT'
      have hltb : decide (at_ < (l0.length : Int)) = true := decide_eq_true hlt
      by_cases hneg : b5 < 0
      · rw [if_pos hneg] at hT'
        have hnegb : decide (b5 < 0) = true := decide_eq_true hneg
        have hrest : rest = [] := by have := Option.some.inj hT'; cases rest with | nil => rfl | cons _ _ => simp at this
        clear hT'
        gi_wp2_with (refine ⟨trivial, ?_⟩; gi_at_call 21; refine (callsIn_wide.2 (lexer_token.calls kq A0 c0 l0 at_ b1 b2 b3 b4 b5 _ (Kd.C_below hr0 hBr) hc0 hb)).mono ?_; rintro e w' ⟨rfl, hbw⟩)
        refine ⟨fun _ h => (by cases h), ?_⟩
        gi_wp2
        refine bodyPost_ret (results_none rfl _ _ _) rfl ?_
        exact ⟨⟨_, rfl⟩, .inl ⟨pre, by rw [hx, hrest, List.append_nil], hJ _ _ _ hJs (hbw.alloc hbw.size _)⟩⟩
      · rw [if_neg hneg] at hT'
        have hnegb : decide (b5 < 0) = false := decide_eq_false hneg
        obtain ⟨⟨d1, d2, d3, d4, d5⟩, hd, hT'⟩ := Option.bind_eq_some_iff.mp hT'
        obtain ⟨a', ha', hT'⟩ := Option.bind_eq_some_iff.mp hT'
        obtain ⟨r', hr', hT'⟩ := Option.bind_eq_some_iff.mp hT'
        have hr'' := Option.some.inj hT'
        clear hT'
        cases rest with
        | nil => simp at hr''
        | cons x rest =>
        rw [List.map_cons] at hr'' hleft
        obtain ⟨h1, h2⟩ := List.cons.inj hr''
        clear hr''
        obtain ⟨hxs, hxe⟩ := Prod.mk.inj h1
        have hxs' : x.s = ⟨b1, b2, b3, b4⟩ := hxs.symm
        have henc : lexer_All.enc x.s = .agg #[.int .i64 b1, .int .i64 b2, .string b3, .int .i64 b4] := by rw [hxs']; rfl
        clear h1 hxs hxe hxs'
        subst h2
        have hr2 := Aside0.mk hr'
        clear hr'
        have hY1 : ∀ W', J pre W' → YieldAt Fence.wide (n - 1) Try.prog l #[.agg #[.int .i64 b1, .int .i64 b2, .string b3, .int .i64 b4]] W' fun e W2 =>
            (e = .returned (.bool true) ∧ J (pre ++ [x]) W2 ∧ (Below w0.heap.size W' W2 ∧ ∀ o, Boxed W' Bq 22 o → Boxed W2 Bq 22 o)) ∨ (e = .returned (.bool false) ∧ Jx (pre ++ [x]) W2) := fun W' hW' => by
          have := hY pre x W' hW' (by rw [hx]; simp)
          rw [henc] at this
          exact this
        gi_wp2_with (refine ⟨trivial, ?_⟩; gi_at_call 21; refine (callsIn_wide.2 (lexer_token.calls kq A0 c0 l0 at_ b1 b2 b3 b4 b5 _ (Kd.C_below hr0 hBr) hc0 hb)).mono ?_; rintro e w' ⟨rfl, hbw⟩; obtain ⟨fn, tmps, assign, body, hy, hR⟩ := hY1 (w'.alloc (.cells #[.int .i64 b1, .int .i64 b2, .string b3, .int .i64 b4] 32)) (hJ _ _ _ hJs (hbw.alloc hbw.size _)))
        refine hR.mono ?_
        rintro e W3 (⟨rfl, hJ3, hk3, hk3'⟩ | ⟨rfl, hJx3⟩)
        · have hB3 := (hBr.trans ((hbw.alloc hbw.size (.cells #[.int .i64 b1, .int .i64 b2, .string b3, .int .i64 b4] 32)).mono hBr.size)).trans hk3
          have hq3 := hk3' _ ((show Boxed w' Bq 22 (.slice A0 l0.length c0) from (hbw.block Bq hqr.lt).trans hqr).alloc _)
          clear hcq
          have hcq := hq3.cell
          gi_wp2_with (refine ⟨trivial, ?_⟩; gi_at_call 20; refine (callsIn_wide.2 (lexer_start.calls kq A0 c0 l0 b5 a' _ (Kd.C_below hr0 hB3) hc0 ha')).mono ?_; rintro e w' ⟨rfl, ⟨nd2, rfl⟩⟩)
          go_roundw
          case rel => exact ⟨kq, a', pre ++ [x], rest, rfl, by rw [hx, List.append_assoc]; rfl, hr2, hJ _ _ _ hJ3 (hBd _ _), hB3.trans ((hBd W3 nd2).mono hB3.size), hq3⟩
          case measure => rw [lexer_All.left_eq hr2.out, hleft]; simp
        · gi_wp2
          refine bodyPost_ret (results_none rfl _ _ _) rfl ?_
          exact ⟨⟨_, rfl⟩, .inr ⟨pre ++ [x], ⟨rest, by rw [hx, List.append_assoc]; rfl⟩, hJx3⟩⟩
    · rw [if_neg hlt] at hT'
      have hltb : decide (at_ < (l0.length : Int)) = false := decide_eq_false hlt
      have hrest : rest = [] := by have := Option.some.inj hT'; cases rest with | nil => rfl | cons _ _ => simp at this
      clear hT'
      gi_wp2
      go_end0
      refine ⟨⟨_, rfl⟩, .inl ?_⟩
      first | exact hJs | exact ⟨pre, by rw [hx, hrest, List.append_nil], hJs⟩

theorem lexer_All.stops (n : Nat) (hn : 1 ≤ n) (Bq : Nat) (A0 : Option Addr) (c0 : Nat) (l0 : List Int) (w0 w : World) (hr0 : Kd.C (Kd.int .u8) w0 A0 l0.length l0) (hc0 : l0.length ≤ c0) (hlen : l0.length ≤ 20000)
    (k : Nat) (a0 : Int) (hst : lexer_start.f k l0 0 = some a0) (xs : List (lexer_All.El l0)) (htk : lexer_All.toks k l0 a0 = some (xs.map lexer_All.El.p)) (hB : Below w0.heap.size w0 w) (hq : Boxed w Bq 22 (.slice A0 l0.length c0)) :
    SeqStopsK Fence.wide n Try.prog 19 #[.pointer (some ⟨Bq, 0, none⟩)] (fun x : lexer_All.El l0 => #[lexer_All.enc x.s]) (fun W W' => Below w0.heap.size W W' ∧ ∀ o, Boxed W Bq 22 o → Boxed W' Bq 22 o) (fun ys => ys = xs) (fun pre => pre <+: xs) xs.length w :=
  fun l J Jx W hW hJ _ hY h0 =>
    lexer_All.steps_in n hn l Bq A0 c0 l0 w0 hr0 hc0 hlen k a0 hst xs htk J Jx (fun s X X' hs hb => hJ s X X' none hs ⟨hb.os, hb.tape, hb.output, hb.size, fun i hi _ => hb.block i hi⟩ (fun r e => by cases e)) hY W
      (hB.trans (hW.mono hB.size)) ((hW.block Bq hq.lt).trans hq) h0

/-- lexer.Tokens(q): q is boxed; the function value captures the box. -/
theorem lexer_All.seq_in (n : Nat) (A0 : Option Addr) (m c0 : Nat) (w : World) :
    CallsIn Fence.wide n Try.prog 11 #[.slice A0 m c0] w fun e w' => e = .returned (.func (.func 19) #[] #[.pointer (some ⟨w.heap.size, 0, none⟩)]) ∧ w' = w.alloc (.cells #[.slice A0 m c0] 22) := by
  refine callsIn_of_wp Try.func11 rfl trivial ?_ rfl
  simp only [Try.ntmps11, List.size_toArray, List.length_cons, List.length_nil, Nat.reduceAdd, Nat.reduceSub, Array.replicate_succ, Array.replicate_zero, List.push_toArray, List.append_toArray, List.nil_append, List.cons_append]
  gi_wp2
  go_ret
  exact ⟨rfl, rfl⟩

/-- A row speaks of cells alone. -/
theorem lexer_All.row_own {α : Type} {d : Kd α} {e base : Nat} {v : Value} {xs : List α} {X Y : World} {row : Option Nat} (h : d.R e X base (fun _ => True) v xs) (hg : X.grownBy Y row) (hr : ∀ r, row = some r → ∃ o : Obj, X.heap[r]? = some o ∧ o.isCells = false) : d.R e Y base (fun _ => True) v xs :=
  Kd.R_mono (Kd.R_move (Kd.R_bound h) (fun k hk => hg.block k hk.2.2.1 (fun e' => by
    obtain ⟨_, _, _, q, _, cells, hc⟩ := hk
    obtain ⟨o, ho, hcells⟩ := hr k e'.symm
    rw [hc] at ho
    cases ho
    cases hcells))) (fun _ _ => trivial)
section
variable {P : Program} {ops : Array Oper} {rest : List Oper} {o : Oper} {a : Act} {Q : Exit → Act → World → Prop} {F : Fence} {n : Nat}
/-- The kit's append to a row of one's own, inside a fence. -/
theorem lexer_All.append_in {α : Type} (d : Kd α) {W : World} (base : Nat) (hgd : o.guard = none) (s x : Operand) (t e : TypeId) (z : Value) (bytes : Nat)
    (ho : o.op = .call { callee := .builtin .append, args := #[s, x], argTypes := #[t, t] })
    (ht : P.underlying t = some (.slice e)) (hinfo : (P.info? e).map (fun i => (i.zero, i.size, i.bytes)) = some (some z, d.sz, bytes)) (hz : z.cells.size = d.sz) (hs0 : 0 < d.sz) (hb0 : 0 < bytes)
    (v : Value) (xs : List α) (p : α) (cs : List Value) (hs : a.eval s = v) (hx : a.eval x = .slice (some ⟨W.heap.size, 0, none⟩) 1 1) (hp : d.M W base (fun _ => False) p cs)
    (HO : d.R e W base (fun _ => True) v xs) (hbase : base ≤ W.heap.size) (hl : (xs.length + 1) * bytes ≤ 140737488355328)
    (h : ∀ v1 w1, d.R e w1 base (fun _ => True) v1 (xs ++ [p]) → W.grownBy w1 v.ownBlock → wpListIn F n P ops Q rest (a.put o.dst v1) w1) :
    wpListIn F n P ops Q (o :: rest) a (W.alloc (.cells cs.toArray e)) := by
  obtain ⟨i0, hi, hzz⟩ := Option.map_eq_some_iff.1 hinfo
  simp only [Prod.mk.injEq] at hzz
  obtain ⟨hz0, hz1, hz2⟩ := hzz
  obtain ⟨h0, inner, hown, hr⟩ := HO
  have hys : cs.length = d.sz := d.K_len (d.K_of_M hp)
  have hlen : xs.length + 1 ≤ 140737488355328 := Nat.le_trans (Nat.le_mul_of_pos_right _ hb0) hl
  refine wpListIn_append_own_at (w := W.alloc (.cells cs.toArray e)) hgd s x t ho base e i0 z d.sz bytes ht hi hz0 hz1 hz2 hz hs0 v xs.length inner hs (hown.alloc _) ⟨W.heap.size, 0, none⟩ 1 1 cs hx (by rw [hys]; simp)
    (by simpa using World.news_of_block (cs := cs.toArray) (t := e) (fr := (0, 0)) (heap_alloc_new W (.cells cs.toArray e))) (d.K_one (d.K_of_M hp)) (by simp only [maxLen]; omega) hl (by simp; omega) ?_
  intro v1 w1 hown1 hg _ hat
  have hg1 := World.grownBy.trans (World.grownBy_alloc W _ _) hg
  have hat1 : v1.ownBlock = v.ownBlock ∨ ∃ b, v1.ownBlock = some b ∧ W.heap.size ≤ b := by
    rcases hat with hat | hat
    · exact .inl hat
    · exact .inr ⟨_, hat, by simp⟩
  exact h v1 w1 (Kd.R_appended h0 hr hp (fun _ hk => hk.elim) (fun _ _ => trivial) hown1 hg1 hat1) hg1
end

theorem lexer_All.info32 : (Try.prog.info? 32).map (fun i => (i.zero, i.size, i.bytes)) = some (some (.agg #[(.int .i64 0), (.int .i64 0), (.string ⟨#[]⟩), (.int .i64 0)]), 4, 40) := by kernel_rfl
set_option maxRecDepth 100000 in
set_option maxHeartbeats 8000000 in
theorem lexer_All.calls (k : Nat) (A0 : Option Addr) (c0 : Nat) (l0 : List Int) (r1 : List (S32)) (r2 : Int) (r3 : Int) (w : World) (hr0 : Kd.C (Kd.int .u8) w A0 l0.length l0) (hc0 : l0.length ≤ c0) (h : lexer_All.f k l0 = some (r1, r2, r3)) :
    Calls Try.prog 13 #[.slice A0 l0.length c0] w fun e w' => ∃ v0_ : Value, e = .returned (.tuple #[v0_, .int .i64 r2, .int .i64 r3]) ∧ Kd.R k32 32 w' w.heap.size (fun _ => True) v0_ r1 ∧ Below w.heap.size w w' := by
  unfold lexer_All.f at h
  by_cases hbig : 20000 < l0.length
  · rw [if_pos hbig] at h
    have hbb : decide (20000 < l0.length) = true := decide_eq_true hbig
    cases h
    go_enter Try.func13, Try.ntmps13
    go_wp2
    go_ret3
    exact ⟨_, rfl, Kd.R_nil _ _ _ _ _, (Below.refl _ w).alloc (Nat.le_refl _) _⟩
  · rw [if_neg hbig] at h
    have hbb : decide (20000 < l0.length) = false := decide_eq_false hbig
    obtain ⟨a0, ha0, h⟩ := Option.bind_eq_some_iff.mp h
    obtain ⟨ys, hys, h⟩ := Option.bind_eq_some_iff.mp h
    by_cases hfew : ys.length ≤ 100000
    case neg => rw [if_neg hfew] at h; cases h
    rw [if_pos hfew] at h
    obtain ⟨at_, hat, h⟩ := Option.bind_eq_some_iff.mp h
    obtain ⟨xs, rfl⟩ := lexer_All.toks_ok k l0 a0 ys hys
    have H := Aside0.mk h
    have Hst := Aside0.mk ha0
    have Htk := Aside0.mk hys
    have Hat := Aside0.mk hat
    clear h ha0 hys hat
    refine (callsIn_wide (n := 9)).1 ?_
    refine callsIn_of_wp_marks Try.func13 rfl trivial ?_ rfl
    simp only [Try.ntmps13, List.size_toArray, List.length_cons, List.length_nil, Nat.reduceAdd, Nat.reduceSub, Array.replicate_succ, Array.replicate_zero, List.push_toArray, List.append_toArray, List.nil_append, List.cons_append]
    gi_wp2_with (refine ⟨trivial, ?_⟩; gi_at_call 11; refine (lexer_All.seq_in _ A0 _ c0 _).mono ?_; rintro e w' ⟨rfl, rfl⟩)
    have hB0 : Below w.heap.size w ((((w.alloc (.cells #[.slice A0 l0.length c0] 22)).alloc (.cells #[.slice none 0 0] 24)).alloc (.cells #[.int .i64 0] 3)).alloc (.cells #[.slice A0 l0.length c0] 22)) :=
      ((((Below.refl _ w).alloc (Nat.le_refl _) _).alloc (by simp) _).alloc (by simp; omega) _).alloc (by simp; omega) _
    have bQ := (((Boxed.new w 22 (.slice A0 l0.length c0)).alloc (.cells #[.slice none 0 0] 24)).alloc (.cells #[.int .i64 0] 3)).alloc (.cells #[.slice A0 l0.length c0] 22)
    have bO := ((Boxed.new (w.alloc (.cells #[.slice A0 l0.length c0] 22)) 24 (.slice none 0 0)).alloc (.cells #[.int .i64 0] 3)).alloc (.cells #[.slice A0 l0.length c0] 22)
    have bE := (Boxed.new ((w.alloc (.cells #[.slice A0 l0.length c0] 22)).alloc (.cells #[.slice none 0 0] 24)) 3 (.int .i64 0)).alloc (.cells #[.slice A0 l0.length c0] 22)
    have bS := Boxed.new (((w.alloc (.cells #[.slice A0 l0.length c0] 22)).alloc (.cells #[.slice none 0 0] 24)).alloc (.cells #[.int .i64 0] 3)) 22 (.slice A0 l0.length c0)
    simp only [World.size_alloc] at bO bE bS
    have hsz : ((((w.alloc (.cells #[.slice A0 l0.length c0] 22)).alloc (.cells #[.slice none 0 0] 24)).alloc (.cells #[.int .i64 0] 3)).alloc (.cells #[.slice A0 l0.length c0] 22)).heap.size = w.heap.size + 4 := by simp
    obtain ⟨W0, hW0⟩ : ∃ W0, (((w.alloc (.cells #[.slice A0 l0.length c0] 22)).alloc (.cells #[.slice none 0 0] 24)).alloc (.cells #[.int .i64 0] 3)).alloc (.cells #[.slice A0 l0.length c0] 22) = W0 := ⟨_, rfl⟩
    rw [hW0] at hB0 bQ bO bE bS hsz ⊢
    clear hW0
    obtain ⟨s3, hs3⟩ : ∃ s3, w.heap.size + 1 + 1 + 1 = s3 := ⟨_, rfl⟩
    obtain ⟨s2, hs2⟩ : ∃ s2, w.heap.size + 1 + 1 = s2 := ⟨_, rfl⟩
    obtain ⟨s1, hs1⟩ : ∃ s1, w.heap.size + 1 = s1 := ⟨_, rfl⟩
    rw [hs3] at bS ⊢
    rw [hs2] at bE ⊢
    rw [hs1] at bO ⊢
    refine wpIn_rangeFunc_ownH rfl (by decide) (gf := 19) (lb := #[.pointer (some ⟨s3, 0, none⟩)]) rfl trivial (enters_of Try.func19 (by kernel_rfl) rfl)
      (lexer_All.stops (9 - 1) (by decide) s3 A0 c0 l0 w W0 hr0 hc0 (by omega) k a0 Hst.out xs Htk.out hB0 bS)
      (fun h1 h2 => ⟨h1.1.trans h2.1, fun o ho => h2.2 o (h1.2 o ho)⟩)
      (fun W l o o' hl hl' hc hw => ⟨belowK_b (by omega) W l o o' hl hl' hc hw, fun v hv => hv.kept (grownBy_putObj' W l o') (fun e' => by cases e'; omega)⟩)
      (Below.refl _ _) (fun _ => rfl)
      (fun pre W => ((∃ v, Boxed W s1 24 v ∧ Kd.R k32 32 W w.heap.size (fun _ => True) v (pre.map lexer_All.El.s)) ∧ (Boxed W s2 3 (.int .i64 (lexer_All.lastEnd (pre.map lexer_All.El.p))) ∧ Boxed W w.heap.size 22 (.slice A0 l0.length c0))) ∧ Below w.heap.size w W)
      (fun _ _ _ => False)
      (OwnFrom.and (OwnFrom.and (fun s X Y row hs hg hr => by
          obtain ⟨v, h1, h2⟩ := hs
          exact ⟨v, boxed_own s1 24 (fun (_ : Unit) => v) () X Y row h1 hg (fun r e => (hr r e).2), lexer_All.row_own h2 hg (fun r e => (hr r e).2)⟩)
        (OwnFrom.and (Own.from (boxed_own _ _ _) _) (Own.from (boxed_own _ _ _) _))) (ownFrom_below (Nat.le_refl _) (by omega)))
      (fun _ _ _ _ _ hs _ _ => hs)
      ⟨⟨⟨_, bO, Kd.R_nil _ _ _ _ _⟩, bE, bQ⟩, hB0⟩
      (fun x a' W => ∃ Bx v, s2 < Bx ∧ W.heap[Bx]? = some (.cells #[.int .i64 x.s.f0, .int .i64 x.s.f1, .string x.s.f2, .int .i64 x.s.f3] 32 (0, 0)) ∧ (Boxed W s1 24 v ∧ some Bx ≠ v.ownBlock) ∧
        a' = { tmps := #[.slice A0 l0.length c0, .pointer (some ⟨w.heap.size, 0, none⟩), .slice none 0 0, .int .i64 0, .int .i64 0, .pointer (some ⟨s1, 0, none⟩), .pointer (some ⟨s2, 0, none⟩), .pointer (some ⟨Bx, 0, none⟩), undef, .slice A0 l0.length c0, .int .i64 (l0.length : Int), .bool (decide (20000 < (l0.length : Int))), .slice A0 l0.length c0, .func (.func 19) #[] #[.pointer (some ⟨s3, 0, none⟩)], .agg #[.int .i64 x.s.f0, .int .i64 x.s.f1, .string x.s.f2, .int .i64 x.s.f3], undef, undef, undef, undef, undef, undef, undef, undef, undef, undef, undef, undef, undef, undef, undef, undef, undef, undef, undef, undef], defers := [] })
      (fun x a' _ X Y row hs hg hr => by
        obtain ⟨Bx, v, h1, h2, ⟨h3, h4⟩, h5⟩ := hs
        exact ⟨Bx, v, h1, (hg.block Bx (Array.getElem?_eq_some_iff.1 h2).1 (fun e' => by obtain ⟨o, ho, hc⟩ := (hr Bx e'.symm).2; rw [h2] at ho; cases ho; cases hc)).trans h2, ⟨boxed_own s1 24 (fun (_ : Unit) => v) () X Y row h3 hg (fun r e => (hr r e).2), h4⟩, h5⟩)
      ?assign ?body ?done ?stop
    case assign =>
      rintro l pre x W K ⟨⟨⟨v, hv, hR⟩, hE, hQ⟩, hBW⟩ hK
      dsimp only [lexer_All.enc]
      gi_wp2
      refine hK _ _ ((KeepsOthers.alloc _ _).from _) ⟨(Below.refl _ W).alloc hBW.size _, fun o ho => ho.alloc _⟩ ⟨⟨⟨v, hv.alloc _, lexer_All.row_own hR (World.grownBy_alloc W _ none) (fun r e => by cases e)⟩, hE.alloc _, hQ.alloc _⟩, hBW.alloc hBW.size _⟩ ⟨W.heap.size, v, ?_, World.alloc_heap_new W _, ⟨hv.alloc _, ?_⟩, rfl⟩
      · exact hE.lt
      · intro e'
        have := Kd.R_bound hR
        have := (this.1 _ e'.symm).2.2.1
        omega
    case body =>
      rintro l pre x a' W hl ⟨r, hr⟩ ⟨⟨⟨v, hv, hR⟩, hE, hQ⟩, hBW⟩ ⟨Bx, v', hBx, hX, ⟨hv', hne⟩, rfl⟩ hlt
      obtain rfl : v' = v := by have := Option.some.inj (hv'.symm.trans hv); injection this with h1 _; simpa using h1
      clear hv'
      have hpl : (pre.map lexer_All.El.s).length = pre.length := List.length_map _
      have hxl : xs.length ≤ 100000 := by simpa using hfew
      have cO := hv.cell
      have cQ := hQ.cell
      have cX0 : W.cell? ⟨Bx, 0, none⟩ = some (.int .i64 x.s.f0) := by simp [World.cell?, hX]
      have cX1 : W.cell? ⟨Bx, 1, none⟩ = some (.int .i64 x.s.f1) := by simp [World.cell?, hX]
      have cX2 : W.cell? ⟨Bx, 2, none⟩ = some (.string x.s.f2) := by simp [World.cell?, hX]
      have cX3 : W.cell? ⟨Bx, 3, none⟩ = some (.int .i64 x.s.f3) := by simp [World.cell?, hX]
      obtain ⟨kx, y1, y2, y3, y4, hok⟩ := x.ok
      gi_wp2_with (first | (gi_at_builtin; refine lexer_All.append_in k32 w.heap.size rfl (.tmp 15) (.tmp 17) 24 32 (.agg #[(.int .i64 0), (.int .i64 0), (.string ⟨#[]⟩), (.int .i64 0)]) 40 rfl Try.underlying24 lexer_All.info32 rfl (by decide) (by omega) v' (pre.map lexer_All.El.s) x.s [.int .i64 x.s.f0, .int .i64 x.s.f1, .string x.s.f2, .int .i64 x.s.f3] rfl (by first | rfl | (go_simp; done) | (go_simp; rfl)) (k32_mkM _ _ _ x.s) hR hBW.size (by rw [hpl]; omega) ?_; intro v1 w1 hR1 hg1; obtain ⟨A1, cc1, e1⟩ := Kd.R_slice hR1; rw [show (pre.map lexer_All.El.s ++ [x.s]).length = pre.length + 1 from by simp] at e1; subst e1; have hv1 : Boxed w1 s1 24 v' := hv.kept hg1 (Kd.R_ne hR hv (by decide)); have hE1 := hE.kept hg1 (Kd.R_ne hR hE (by decide)); have hQ1 := hQ.kept hg1 (Kd.R_ne hR hQ (by decide)); have hX1 := (hg1.block Bx (Array.getElem?_eq_some_iff.1 hX).1 hne).trans hX; have cO1 := hv1.cell; have fO1 := hv1.frozen; have hE2 := hE1.other (B' := s1) (by omega) (.slice A1 (pre.length + 1) cc1); have hQ2 := hQ1.other (B' := s1) (by omega) (.slice A1 (pre.length + 1) cc1); have cQ2 := hQ2.cell; have hX2 := (Below.heap_setCell w1 ⟨s1, 0, none⟩ (.slice A1 (pre.length + 1) cc1) Bx (by show Bx ≠ s1; omega)).trans hX1; have cX21 : (w1.setCell ⟨s1, 0, none⟩ (.slice A1 (pre.length + 1) cc1)).cell? ⟨Bx, 1, none⟩ = some (.int .i64 x.s.f1) := (by simp only [World.cell?, hX2]; rfl); have hv2 := hv1.set (.slice A1 (pre.length + 1) cc1); have hK2 : KeepsOthers W (w1.setCell ⟨s1, 0, none⟩ (.slice A1 (pre.length + 1) cc1)) := (KeepsOthers.of_grownBy hg1 (fun j o e ho => (by obtain ⟨_, inner, hown, _⟩ := hR; obtain ⟨cells, hc⟩ := own_typed hown j e; rw [hc] at ho; cases ho; rfl))).trans (KeepsOthers.setCell _ _ _); have hb2 : Below w.heap.size W (w1.setCell ⟨s1, 0, none⟩ (.slice A1 (pre.length + 1) cc1)) := ((Below.refl _ W).grown hg1 hBW.size (fun j e => ((Kd.R_bound hR).1 j e).2.1)).setCell (p := ⟨s1, 0, none⟩) (by show w.heap.size ≤ s1; omega) _; have hR2 := Kd.R_set hR1 hv1 (by decide) 0 (.slice A1 (pre.length + 1) cc1)) | (refine ⟨trivial, ?_⟩; gi_at_call 21; refine (CallsIn.inRound l (callsIn_wide.2 (lexer_token.calls kx A0 c0 l0 x.s.f1 y1 y2 y3 y4 x.e _ (Kd.C_below hr0 (hBW.trans hb2)) hc0 hok))).mono ?_; rintro e w3 ⟨rfl, hb3⟩; have hv3 : Boxed w3 s1 24 (.slice A1 (pre.length + 1) cc1) := (hb3.block s1 hv2.lt).trans hv2; have hE3 : Boxed w3 s2 3 _ := (hb3.block s2 hE2.lt).trans hE2; have hQ3 : Boxed w3 w.heap.size 22 _ := (hb3.block _ hQ2.lt).trans hQ2; have cE3 := hE3.cell; have fE3 := hE3.frozen; have hR3 := Kd.R_below hR2 hb3))
      have hKb : KeepsOthers (w1.setCell ⟨s1, 0, none⟩ (.slice A1 (pre.length + 1) cc1)) w3 := ⟨hb3.size, fun k o hk _ => (hb3.block k (Array.getElem?_eq_some_iff.1 hk).1).trans hk⟩
      have hb4 : Below w.heap.size W (w3.setCell ⟨s2, 0, none⟩ (.int .i64 x.e)) := (hb2.trans (hb3.mono (Nat.le_trans hBW.size hb2.size))).setCell (p := ⟨s2, 0, none⟩) (by show w.heap.size ≤ s2; omega) _
      refine ⟨((hK2.trans hKb).trans (KeepsOthers.setCell _ _ _)).from _, ⟨hb4, fun o ho => ?_⟩, ⟨⟨_, hv3.other (by omega) _, ?_⟩, ?_, hQ3.other (by omega) _⟩, hBW.trans hb4⟩
      · have ho1 := ho.kept hg1 (Kd.R_ne hR ho (by decide))
        have ho2 := ho1.other (B' := s1) (by omega) (.slice A1 (pre.length + 1) cc1)
        have ho3 : Boxed w3 s3 22 o := (hb3.block s3 ho2.lt).trans ho2
        exact ho3.other (by omega) _
      · have := Kd.R_set hR3 hE3 (by decide) 0 (.int .i64 x.e)
        rw [List.map_append]
        exact this
      · have hl : lexer_All.lastEnd ((pre ++ [x]).map lexer_All.El.p) = x.e := by simp [lexer_All.lastEnd, lexer_All.El.p]
        rw [hl]
        exact hE3.set _
    case done =>
      rintro D zs W hD rfl ⟨⟨⟨v, hv, hR⟩, hE, hQ⟩, hBW⟩ hK
      have cO := hv.cell
      have cE := hE.cell
      have cQ := hQ.cell
      have hat' := Hat.out
      have Hr := H.out
      obtain ⟨A1, cc1, e1⟩ := Kd.R_slice hR
      rw [show (zs.map lexer_All.El.s).length = zs.length from by simp] at e1
      subst e1
      by_cases hlt : at_ < (l0.length : Int)
      · have hltb : decide (at_ < (l0.length : Int)) = true := decide_eq_true hlt
        rw [if_pos hlt] at Hr
        cases Hr
        gi_wp2_with (refine ⟨trivial, ?_⟩; gi_at_call 20; refine (callsIn_wide.2 (lexer_start.calls k A0 c0 l0 _ _ _ (Kd.C_below hr0 hBW) hc0 hat')).mono ?_; rintro e w' ⟨rfl, ⟨nd2, rfl⟩⟩)
        refine ⟨by simp, .inl ⟨_, _, rfl, run_takeDeferred hK, ?_⟩⟩
        have hbd : Below w.heap.size w ((W.drewN nd2).putObj D (.deferred none)) := (hBW.trans (show Below w.heap.size W (W.drewN nd2) from ⟨rfl, rfl, rfl, Nat.le_refl _, fun _ _ => rfl⟩)).trans (belowK_b (w := W0) (by omega) (W.drewN nd2) D _ _ hD hK rfl rfl)
        refine ⟨_, results_tmp3 rfl _ _ _, _, rfl, Kd.R_nil _ _ _ _ _, hbd⟩
      · have hltb : decide (at_ < (l0.length : Int)) = false := decide_eq_false hlt
        rw [if_neg hlt] at Hr
        cases Hr
        gi_wp2_with (refine ⟨trivial, ?_⟩; gi_at_call 20; refine (callsIn_wide.2 (lexer_start.calls k A0 c0 l0 _ _ _ (Kd.C_below hr0 hBW) hc0 hat')).mono ?_; rintro e w' ⟨rfl, ⟨nd2, rfl⟩⟩)
        refine ⟨by simp, .inl ⟨_, _, rfl, run_takeDeferred hK, ?_⟩⟩
        have hbd : Below w.heap.size w ((W.drewN nd2).putObj D (.deferred none)) := (hBW.trans (show Below w.heap.size W (W.drewN nd2) from ⟨rfl, rfl, rfl, Nat.le_refl _, fun _ _ => rfl⟩)).trans (belowK_b (w := W0) (by omega) (W.drewN nd2) D _ _ hD hK rfl rfl)
        refine ⟨_, results_tmp3 rfl _ _ _, _, rfl, (by rw [List.map_map]; exact lexer_All.row_own (lexer_All.row_own hR (Y := W.drewN nd2) (row := none) ⟨rfl, rfl, rfl, Nat.le_refl _, fun _ _ _ => rfl⟩ (fun r e => by cases e)) (grownBy_putObj' _ D (.deferred none)) (fun r e => by cases e; exact ⟨_, hK, rfl⟩)), hbd⟩
    case stop =>
      rintro D c pre W _ _ h _
      exact h.elim
end

/-! ### wayfarerlaw08_known: function 9 -/
-- IMPORTS Derived.Lib.SlBytesConst,Derived.Lib.SmallJoins
-- the numbers of functions and types are those of the seat of part 08
deriving instance DecidableEq for S32
def wayfarerlaw08_known.c1 : List Int := [103, 46, 104, 97, 115, 40, 39, 97, 92, 39, 98, 39, 44, 32, 45, 49, 50, 41]
def wayfarerlaw08_known.c2 : List Int := [103, 32, 49, 50, 120]
def wayfarerlaw08_known.toks : List S32 := [⟨1, 0, ⟨#[103]⟩, 0⟩, ⟨4, 1, ⟨#[46]⟩, 0⟩, ⟨1, 2, ⟨#[104, 97, 115]⟩, 0⟩, ⟨4, 5, ⟨#[40]⟩, 0⟩, ⟨3, 6, ⟨#[97, 39, 98]⟩, 0⟩, ⟨4, 12, ⟨#[44]⟩, 0⟩, ⟨2, 14, ⟨#[45, 49, 50]⟩, -12⟩, ⟨4, 17, ⟨#[41]⟩, 0⟩]
/-- Told at the answer that it has: true. -/
def wayfarerlaw08_known.f (k : Nat) : Option Bool := if lexer_All.f k wayfarerlaw08_known.c1 = some (wayfarerlaw08_known.toks, 0, 0) ∧ lexer_All.f k wayfarerlaw08_known.c2 = some ([], 2, 30) then some true else none
theorem wayfarerlaw08_known.mono : ∀ k, LeO (wayfarerlaw08_known.f k) (wayfarerlaw08_known.f (k + 1)) := by
  intro k r h
  unfold wayfarerlaw08_known.f at h ⊢
  split at h
  · rename_i hc
    rw [if_pos ⟨lexer_All.mono _ _ _ hc.1, lexer_All.mono _ _ _ hc.2⟩]
    exact h
  · cases h
/-- The bytes of a constant, marked as such. -/
theorem wayfarerlaw08_known.marked (w : World) (xs : List Int) (fr : Nat × Nat) (h : xs.length ≤ 1000) : Kd.C (Kd.int .u8) (w.alloc (.cells (xs.map (Value.int .u8)).toArray 5 fr)) (some ⟨w.heap.size, 0, none⟩) xs.length xs := by
  refine ⟨rfl, by omega, fun _ => ⟨_, rfl, fun j p hj => ⟨[.int .u8 p], rfl, rfl, fun i u hu => ?_⟩⟩⟩
  cases i with
  | succ i => simp at hu
  | zero =>
    simp at hu
    subst hu
    rw [show (⟨w.heap.size, 0, none⟩ : Addr).add (j * (Kd.int .u8).sz + 0) = ⟨w.heap.size, j, none⟩ from by (have e : j * (Kd.int .u8).sz + 0 = j := (by rw [show (Kd.int .u8).sz = 1 from rfl]; omega); rw [e]; unfold Addr.add; split <;> simp_all), World.cell?_alloc_mark]
    simp [hj]

theorem wayfarerlaw08_known.cells {w : World} {g : Nat} (h : Kd.C k32 w (some ⟨g, 0, none⟩) wayfarerlaw08_known.toks.length wayfarerlaw08_known.toks) :
    w.cell? ⟨g, 10, none⟩ = some (.string ⟨#[104, 97, 115]⟩) ∧ w.cell? ⟨g, 16, none⟩ = some (.int .i64 3) ∧ w.cell? ⟨g, 18, none⟩ = some (.string ⟨#[97, 39, 98]⟩) ∧ w.cell? ⟨g, 17, none⟩ = some (.int .i64 6) ∧ w.cell? ⟨g, 27, none⟩ = some (.int .i64 (-12)) ∧ w.cell? ⟨g, 30, none⟩ = some (.string ⟨#[41]⟩) := by
  obtain ⟨a2, e2, _, _, h2, _⟩ := at_T32 h 2 (by decide) (by decide)
  obtain ⟨a4, e4, h40, h41, h42, _⟩ := at_T32 h 4 (by decide) (by decide)
  obtain ⟨a6, e6, _, _, _, h6⟩ := at_T32 h 6 (by decide) (by decide)
  obtain ⟨a7, e7, _, _, h7, _⟩ := at_T32 h 7 (by decide) (by decide)
  cases e2
  cases e4
  cases e6
  cases e7
  exact ⟨h2, h40, h42, h41, h6, h7⟩

set_option maxRecDepth 100000 in
set_option maxHeartbeats 8000000 in
theorem wayfarerlaw08_known.calls (k : Nat) (r : Bool) (w : World) (h : wayfarerlaw08_known.f k = some r) :
    Calls Try.prog 9 #[] w fun e w' => e = .returned (.bool r) ∧ Below w.heap.size w w' := by
  unfold wayfarerlaw08_known.f at h
  split at h
  case isFalse => cases h
  rename_i hc
  obtain ⟨hA1, hA2⟩ := hc
  cases h
  have kc := fun (w : World) (C : Array Value) (n c : Nat) => Lib.run_convert_bytes_const (P := Try.prog) w 22 5 C n c Try.underlying22 Try.underlying5
  have hm1 := wayfarerlaw08_known.marked w wayfarerlaw08_known.c1 (18, 19) (by decide)
  have hb1 : Below w.heap.size w (w.alloc (.cells (wayfarerlaw08_known.c1.map (Value.int .u8)).toArray 5 (18, 19))) := (Below.refl _ w).alloc (Nat.le_refl _) _
  have hcall1 := lexer_All.calls k (some ⟨w.heap.size, 0, none⟩) 18 wayfarerlaw08_known.c1 wayfarerlaw08_known.toks 0 0 (w.alloc (.cells (wayfarerlaw08_known.c1.map (Value.int .u8)).toArray 5 (18, 19))) hm1 (by decide) hA1
  have hcall2 := fun w' => lexer_All.calls k (some ⟨w'.heap.size, 0, none⟩) 5 wayfarerlaw08_known.c2 [] 2 30 (w'.alloc (.cells (wayfarerlaw08_known.c2.map (Value.int .u8)).toArray 5 (5, 6))) (wayfarerlaw08_known.marked w' wayfarerlaw08_known.c2 (5, 6) (by decide)) (by decide) hA2
  clear hA1 hA2 hm1
  have hS1 := lexer_Sign.calls 91 true
  have hS2 := lexer_Sign.calls 97 false
  have hT8 : wayfarerlaw08_known.toks.length = 8 := rfl
  dsimp only [wayfarerlaw08_known.c1, wayfarerlaw08_known.c2, List.length_cons, List.length_nil, List.map_cons, List.map_nil, Nat.reduceAdd] at hcall1 hcall2 hb1
  go_enter Try.func9, Try.ntmps9
  go_wp2_with (first
    | (go_at_call 13; refine hcall1.mono ?_; rintro e w1 ⟨v1, rfl, hR1, hbA⟩; clear hcall1; obtain ⟨inner, hown⟩ := Kd.R_own hR1; obtain ⟨g, cap, rfl⟩ := Joins.ownsRow_form hown (by decide))
    | (go_at_call 13; refine (hcall2 _).mono ?_; rintro e w2 ⟨v2, rfl, hR2, hbB⟩; clear hcall2; have hb12 : Below w1.heap.size w1 w2 := ((Below.refl _ w1).alloc (Nat.le_refl _) _).trans (hbB.mono (by simp)); have hC := (Kd.R_reads' (Kd.R_below hR1 hb12)).2.2; obtain ⟨e10, e16, e18, e17, e27, e30⟩ := wayfarerlaw08_known.cells hC; have HB := Aside0.mk (hb1.trans ((hbA.mono (by simp)).trans (hb12.mono (Nat.le_trans (by simp) hbA.size)))); clear hC hb12 hbB hbA hR2 hR1 hown hb1)
    | (go_at_call 16; refine (hS1 _ rfl).mono ?_; rintro e w3 ⟨rfl, ⟨nd, rfl⟩⟩; clear hS1)
    | (go_at_call 16; refine (hS2 _ rfl).mono ?_; rintro e w4 ⟨rfl, ⟨nd4, rfl⟩⟩; clear hS2))
  go_ret
  exact ⟨rfl, HB.out.trans ⟨rfl, rfl, rfl, Nat.le_refl _, fun _ _ => rfl⟩⟩

/-! ### wayfarerlaw08_digits: function 15 -/
def wayfarerlaw08_digits.l0 : Nat → Int → ByteArray → Int → Option (ByteArray)
 | 0, _, _, _ => none
 | k + 1, x0, x3, x4 => if x4 = 0 then (if x0 < 0 then (if 1 + x3.size ≤ 9223372036854775807 then (some ((⟨#[45]⟩ : ByteArray) ++ x3)) else (none)) else (some x3)) else (if (Int.tmod x4 10) < 0 then ((some (([(wrap64 (48 + (wrap64 (-(Int.tmod x4 10))))) % 256] : List Int) : List Int)).bind fun y137 => (if (strOfNums y137).size + x3.size ≤ 9223372036854775807 then (wayfarerlaw08_digits.l0 k x0 ((strOfNums y137) ++ x3) (wrap64 (Int.tdiv x4 10))) else (none))) else ((some (([(wrap64 (48 + (Int.tmod x4 10))) % 256] : List Int) : List Int)).bind fun y140 => (if (strOfNums y140).size + x3.size ≤ 9223372036854775807 then (wayfarerlaw08_digits.l0 k x0 ((strOfNums y140) ++ x3) (wrap64 (Int.tdiv x4 10))) else (none))))
def wayfarerlaw08_digits.f (k : Nat) (a0 : Int) : Option (ByteArray) := if a0 = 0 then (some (⟨#[48]⟩ : ByteArray)) else (wayfarerlaw08_digits.l0 k a0 (⟨#[]⟩ : ByteArray) a0)
theorem wayfarerlaw08_digits.mono_l : ∀ k, (∀ y0 y1 y2, LeO (wayfarerlaw08_digits.l0 k y0 y1 y2) (wayfarerlaw08_digits.l0 (k + 1) y0 y1 y2))
 | 0 => fun _ _ _ r h => by simp [wayfarerlaw08_digits.l0] at h
 | k + 1 => by
  have ih0 := wayfarerlaw08_digits.mono_l k
  ·intro y0 y1 y2
   unfold wayfarerlaw08_digits.l0
   repeat' first
   | (with_reducible exact ih0 _ _ _)
   | (with_reducible exact LeO.refl _)
   | (with_reducible exact LeO.none _)
   | (with_reducible refine LeO.ite ?_ ?_)
   | (with_reducible refine LeO.bind ?_ (fun _ => ?_))
   | exact ih0 _ _ _
   | exact LeO.none _
   | refine LeO.ite ?_ ?_
   | refine LeO.bind ?_ (fun _ => ?_)
theorem wayfarerlaw08_digits.mono : ∀ a0 k, LeO (wayfarerlaw08_digits.f k a0) (wayfarerlaw08_digits.f (k + 1) a0) := by
 intro a0 k
 have ih0 := wayfarerlaw08_digits.mono_l k
 unfold wayfarerlaw08_digits.f
 repeat' first
   | (with_reducible exact ih0 _ _ _)
   | (with_reducible exact LeO.refl _)
   | (with_reducible exact LeO.none _)
   | (with_reducible refine LeO.ite ?_ ?_)
   | (with_reducible refine LeO.bind ?_ (fun _ => ?_))
   | exact ih0 _ _ _
   | exact LeO.none _
   | refine LeO.ite ?_ ?_
   | refine LeO.bind ?_ (fun _ => ?_)
set_option maxHeartbeats 8000000 in
set_option maxRecDepth 100000 in
theorem wayfarerlaw08_digits.calls (k : Nat) (a0 : Int) (r : ByteArray) (w : World) (h : wayfarerlaw08_digits.f k a0 = some r) :
  Calls Try.prog 15 #[.int .i64 a0] w fun e w' => e = .returned (.string r) ∧ Below w.heap.size w w' := by
 have HB := Aside0.mk (Below.refl w.heap.size w)
 have H : (if a0 = 0 then (some (⟨#[48]⟩ : ByteArray)) else (wayfarerlaw08_digits.l0 k a0 (⟨#[]⟩ : ByteArray) a0)) = some r := h
 clear h
 by_cases c2 : a0 = 0
 ·rw [if_pos c2] at H
  have c2b0 : (a0 == 0) = true := beq_iff_eq.mpr c2
  have c2b1 : (a0 != 0) = false := bne_eq_false_iff_eq.mpr c2
  clear c2
  obtain rfl := Option.some.inj H
  go_enter Try.func15, Try.ntmps15
  go_wp2
  go_ret
  exact ⟨by first | rfl | (simp [errW_none, errW_some] <;> rfl) | (simp [*, errW_none, errW_some] <;> rfl), by repeat (first | (with_reducible first | exact HB.out | apply below_alloc | apply pw_below_drewN | apply below_drew1) | exact HB.out)⟩
 ·rw [if_neg c2] at H
  have c2b0 : (a0 == 0) = false := beq_eq_false_iff_ne.mpr c2
  have c2b1 : (a0 != 0) = true := bne_iff_ne.mpr c2
  have H' := Aside0.mk H
  clear H
  go_enter Try.func15, Try.ntmps15
  go_wp2
  go_loopg [3, 4] k (fun kq v3 v4 w' => ∃ (x3_1 : ByteArray) (x4_1 : Int), v3 = .string x3_1 ∧ v4 = .int .i64 x4_1 ∧ Aside0 (wayfarerlaw08_digits.l0 kq a0 x3_1 x4_1 = some r) ∧ Aside0 (kq ≤ k) ∧ Aside0 (Below w.heap.size w w'))
  case atStart => exact ⟨((⟨#[]⟩ : ByteArray)), (a0), (by first | rfl | (simp; done) | (simp [*]; done)), (by first | rfl | (simp; done) | (simp [*]; done)), H', ⟨Nat.le_refl _⟩, ⟨by repeat (first | (with_reducible first | exact HB.out | apply below_alloc | apply pw_below_drewN | apply below_drew1) | exact HB.out)⟩⟩
  case round =>
   clear H'
   try clear c1
   try clear c2
   try clear c2b0
   try clear c2b1
   try clear p2
   obtain ⟨x3_1, x4_1, rfl, rfl, HA, HK1, HB⟩ := hrel
   cases gk with
   | zero => exact absurd HA.out (by simp [wayfarerlaw08_digits.l0])
   | succ k1 =>
    have H := HA.out
    clear HA
    simp only [wayfarerlaw08_digits.l0] at H
    by_cases c3 : x4_1 = 0
    ·rw [if_pos c3] at H
     have c3b0 : (x4_1 == 0) = true := beq_iff_eq.mpr c3
     have c3b1 : (x4_1 != 0) = false := bne_eq_false_iff_eq.mpr c3
     clear c3
     by_cases c4 : a0 < 0
     ·rw [if_pos c4] at H
      have c4b0 : decide (a0 < 0) = true := decide_eq_true c4
      clear c4
      by_cases c5 : 1 + x3_1.size ≤ 9223372036854775807
      ·rw [if_pos c5] at H
       have c5b0 := eq_true c5
       have c5b1 : decide (1 + x3_1.size ≤ 9223372036854775807) = true := decide_eq_true c5
       try have c5b2 : (9223372036854775807 < 1 + x3_1.size) = False := eq_false (Nat.not_lt.2 c5)
       obtain rfl := Option.some.inj H
       go_wp2
       go_ret
       exact ⟨by first | rfl | (simp [errW_none, errW_some] <;> rfl) | (simp [*, errW_none, errW_some] <;> rfl), by repeat (first | (with_reducible first | exact HB.out | apply below_alloc | apply pw_below_drewN | apply below_drew1) | exact HB.out)⟩
      ·rw [if_neg c5] at H
       exact absurd H (by simp)
     ·rw [if_neg c4] at H
      have c4b0 : decide (a0 < 0) = false := decide_eq_false c4
      clear c4
      obtain rfl := Option.some.inj H
      go_wp2
      go_ret
      exact ⟨by first | rfl | (simp [errW_none, errW_some] <;> rfl) | (simp [*, errW_none, errW_some] <;> rfl), by repeat (first | (with_reducible first | exact HB.out | apply below_alloc | apply pw_below_drewN | apply below_drew1) | exact HB.out)⟩
    ·rw [if_neg c3] at H
     have c3b0 : (x4_1 == 0) = false := beq_eq_false_iff_ne.mpr c3
     have c3b1 : (x4_1 != 0) = true := bne_iff_ne.mpr c3
     by_cases c6 : (Int.tmod x4_1 10) < 0
     ·rw [if_pos c6] at H
      have c6b0 : decide ((Int.tmod x4_1 10) < 0) = true := decide_eq_true c6
      clear c6
      obtain ⟨y137, hy137⟩ : ∃ y_ : List Int, y_ = (([(wrap64 (48 + (wrap64 (-(Int.tmod x4_1 10))))) % 256] : List Int)) := ⟨_, rfl⟩
      replace H : (if (strOfNums y137).size + x3_1.size ≤ 9223372036854775807 then (wayfarerlaw08_digits.l0 k1 a0 ((strOfNums y137) ++ x3_1) (wrap64 (Int.tdiv x4_1 10))) else (none)) = some r := by first | (rw [hy137]; with_reducible exact H) | (have H2_ := (Option.bind_some _ _).symm.trans H; rw [hy137]; with_reducible exact H2_) | (have H2_ := (Option.bind_some _ _).symm.trans H; with_reducible exact H2_) | with_reducible exact H | (rw [hy137]; exact H) | exact H
      have Ny137 := Aside0.mk hy137
      clear hy137
      by_cases c7 : (strOfNums y137).size + x3_1.size ≤ 9223372036854775807
      ·rw [if_pos c7] at H
       have c7b0 := eq_true c7
       have c7b1 : decide ((strOfNums y137).size + x3_1.size ≤ 9223372036854775807) = true := decide_eq_true c7
       try have c7b2 : (9223372036854775807 < (strOfNums y137).size + x3_1.size) = False := eq_false (Nat.not_lt.2 c7)
       have H' := Aside0.mk H
       clear H
       go_wp2_with (first | ((with_reducible refine gate_dst (N := 20) rfl ?_); refine Kd.R_lit (Kd.int .u8) _ 5 ?hg (N := 20) ?hd (xs := ([(wrap64 (48 + (wrap64 (-(Int.tmod x4_1 10))))) % 256] : List Int)) (inner := [.int .u8 ((wrap64 (48 + (wrap64 (-(Int.tmod x4_1 10))))) % 256)]) (ok := fun _ => True) (okp := fun _ => True) ?hr ?hp (fun _ hk => hk) trivial (Below.refl _ _) (Nat.le_refl _) (by simp) ?_; (case hd => rfl); (case hg => rfl); (case hr => first | (go_simp; done) | (go_simp; rfl)); (case hp => exact (Reps.one (show Kd.M (Kd.int .u8) _ _ _ ((wrap64 (48 + (wrap64 (-(Int.tmod x4_1 10))))) % 256) [.int .u8 ((wrap64 (48 + (wrap64 (-(Int.tmod x4_1 10))))) % 256)] from rfl) (Reps.none _ _))); intro v138 w8 ho9 hb hg_ hnew_; clear hg_ hnew_; (first | rw [← Ny137.out] at ho9 | (simp only [Int.reduceToNat] at ho9; rw [← Ny137.out] at ho9)); have n0_ := Aside0.mk (Kd.R_lower ho9 (below_size (by repeat (first | (with_reducible first | exact HB.out | apply below_alloc | apply pw_below_drewN | apply below_drew1) | exact HB.out)))); have n1_ := Aside0.mk (below_step (by repeat (first | (with_reducible first | exact HB.out | apply below_alloc | apply pw_below_drewN | apply below_drew1) | exact HB.out)) hb); clear HB; have HO139 := n0_; have HB := n1_; clear n0_ n1_; clear hb ho9; have hcv10 := own_string (P := Try.prog) Try.underlying22 Try.underlying5 Try.underlying9 (Kd.own_of_R HO139.out)))
       go_roundg k1
       case measure => have := HK1.out; omega
       case rel => exact ⟨((strOfNums y137) ++ x3_1), (wrap64 (Int.tdiv x4_1 10)), (by first | rfl | (simp; done) | (simp [*]; done)), (by first | rfl | (simp; done) | (simp [*]; done)), H', ⟨by have := HK1.out; omega⟩, ⟨by repeat (first | (with_reducible first | exact HB.out | apply below_alloc | apply pw_below_drewN | apply below_drew1) | exact HB.out)⟩⟩
      ·rw [if_neg c7] at H
       exact absurd H (by simp)
     ·rw [if_neg c6] at H
      have c6b0 : decide ((Int.tmod x4_1 10) < 0) = false := decide_eq_false c6
      clear c6
      obtain ⟨y140, hy140⟩ : ∃ y_ : List Int, y_ = (([(wrap64 (48 + (Int.tmod x4_1 10))) % 256] : List Int)) := ⟨_, rfl⟩
      replace H : (if (strOfNums y140).size + x3_1.size ≤ 9223372036854775807 then (wayfarerlaw08_digits.l0 k1 a0 ((strOfNums y140) ++ x3_1) (wrap64 (Int.tdiv x4_1 10))) else (none)) = some r := by first | (rw [hy140]; with_reducible exact H) | (have H2_ := (Option.bind_some _ _).symm.trans H; rw [hy140]; with_reducible exact H2_) | (have H2_ := (Option.bind_some _ _).symm.trans H; with_reducible exact H2_) | with_reducible exact H | (rw [hy140]; exact H) | exact H
      have Ny140 := Aside0.mk hy140
      clear hy140
      by_cases c11 : (strOfNums y140).size + x3_1.size ≤ 9223372036854775807
      ·rw [if_pos c11] at H
       have c11b0 := eq_true c11
       have c11b1 : decide ((strOfNums y140).size + x3_1.size ≤ 9223372036854775807) = true := decide_eq_true c11
       try have c11b2 : (9223372036854775807 < (strOfNums y140).size + x3_1.size) = False := eq_false (Nat.not_lt.2 c11)
       have H' := Aside0.mk H
       clear H
       go_wp2_with (first | ((with_reducible refine gate_dst (N := 20) rfl ?_); refine Kd.R_lit (Kd.int .u8) _ 5 ?hg (N := 20) ?hd (xs := ([(wrap64 (48 + (Int.tmod x4_1 10))) % 256] : List Int)) (inner := [.int .u8 ((wrap64 (48 + (Int.tmod x4_1 10))) % 256)]) (ok := fun _ => True) (okp := fun _ => True) ?hr ?hp (fun _ hk => hk) trivial (Below.refl _ _) (Nat.le_refl _) (by simp) ?_; (case hd => rfl); (case hg => rfl); (case hr => first | (go_simp; done) | (go_simp; rfl)); (case hp => exact (Reps.one (show Kd.M (Kd.int .u8) _ _ _ ((wrap64 (48 + (Int.tmod x4_1 10))) % 256) [.int .u8 ((wrap64 (48 + (Int.tmod x4_1 10))) % 256)] from rfl) (Reps.none _ _))); intro v141 w12 ho13 hb hg_ hnew_; clear hg_ hnew_; (first | rw [← Ny140.out] at ho13 | (simp only [Int.reduceToNat] at ho13; rw [← Ny140.out] at ho13)); have n0_ := Aside0.mk (Kd.R_lower ho13 (below_size (by repeat (first | (with_reducible first | exact HB.out | apply below_alloc | apply pw_below_drewN | apply below_drew1) | exact HB.out)))); have n1_ := Aside0.mk (below_step (by repeat (first | (with_reducible first | exact HB.out | apply below_alloc | apply pw_below_drewN | apply below_drew1) | exact HB.out)) hb); clear HB; have HO142 := n0_; have HB := n1_; clear n0_ n1_; clear hb ho13; have hcv14 := own_string (P := Try.prog) Try.underlying22 Try.underlying5 Try.underlying9 (Kd.own_of_R HO142.out)))
       go_roundg k1
       case measure => have := HK1.out; omega
       case rel => exact ⟨((strOfNums y140) ++ x3_1), (wrap64 (Int.tdiv x4_1 10)), (by first | rfl | (simp; done) | (simp [*]; done)), (by first | rfl | (simp; done) | (simp [*]; done)), H', ⟨by have := HK1.out; omega⟩, ⟨by repeat (first | (with_reducible first | exact HB.out | apply below_alloc | apply pw_below_drewN | apply below_drew1) | exact HB.out)⟩⟩
      ·rw [if_neg c11] at H
       exact absurd H (by simp)

end Go.Proofs.Ytildiabokdfjgaa.PLexerNumbers
