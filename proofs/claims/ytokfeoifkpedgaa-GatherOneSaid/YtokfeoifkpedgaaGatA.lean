/- Digits of numbers that are not below 0, and their sum. -/
import Derived.Test.YtokfeoifkpedgaaPureA
namespace Go.Proofs.Ytokfeoifkpedgaa.W
open Go.Proofs.Ytokfeoifkpedgaa.Flat
set_option linter.unusedVariables false
set_option linter.unusedSimpArgs false
def val : List Int → Int
  | [] => 0
  | d :: l => d + 10 * val l
def Dig (l : List Int) : Prop := ∀ d ∈ l, 0 ≤ d ∧ d ≤ 9
def dg (l : List Int) (i : Nat) : Int := (l[i]?).getD 0
theorem val_append (a b : List Int) : val (a ++ b) = val a + 10 ^ a.length * val b := by
  induction a with
  | nil => simp [val]
  | cons d l ih => rw [List.cons_append, val, val, ih, List.length_cons, Int.pow_succ]; grind
theorem Dig.take {l : List Int} (h : Dig l) (n : Nat) : Dig (l.take n) := fun d hd => h d (List.mem_of_mem_take hd)
theorem Dig.drop {l : List Int} (h : Dig l) (n : Nat) : Dig (l.drop n) := fun d hd => h d (List.mem_of_mem_drop hd)
theorem Dig.dg {l : List Int} (h : Dig l) (i : Nat) : 0 ≤ dg l i ∧ dg l i ≤ 9 := by
  unfold W.dg
  cases hi : l[i]? with
  | none => simp
  | some d => exact h d (List.mem_of_getElem? hi)
theorem val_nonneg {l : List Int} (h : Dig l) : 0 ≤ val l := by
  induction l with
  | nil => simp [val]
  | cons d l ih =>
    have h1 := h d (by simp)
    have h2 := ih fun x hx => h x (by simp [hx])
    rw [val]
    omega
theorem val_next (l : List Int) (i : Nat) : val (l.take (i + 1)) = val (l.take i) + 10 ^ i * dg l i := by
  rw [List.take_add_one, val_append]
  unfold dg
  by_cases h : i < l.length
  · rw [List.getElem?_eq_getElem h]
    simp [val, List.length_take, Nat.min_eq_left (Nat.le_of_lt h)]
  · rw [List.getElem?_eq_none (by omega)]
    simp [val]
theorem val_drop (l : List Int) {i : Nat} (h : i < l.length) : val (l.drop i) = dg l i + 10 * val (l.drop (i + 1)) := by
  rw [List.drop_eq_getElem_cons h, val]
  unfold dg
  rw [List.getElem?_eq_getElem h]
  rfl
/-- How many are left without noughts behind. -/
def tl (l : List Int) : Nat → Nat
  | 0 => 0
  | i + 1 => if dg l i = 0 then tl l i else i + 1
theorem tl_le (l : List Int) : ∀ i, tl l i ≤ i
  | 0 => Nat.le_refl _
  | i + 1 => by
    rw [tl]
    have := tl_le l i
    split <;> omega
theorem tl_val (l : List Int) : ∀ i, val (l.take (tl l i)) = val (l.take i)
  | 0 => rfl
  | i + 1 => by
    rw [tl]
    split
    · rename_i h
      rw [tl_val l i, val_next, h]
      omega
    · rfl
theorem trim_l {t : Tab} {n : Nat} {m : Bool} {l : List Int} {q : Bool} {q2 : List Int} (hl : l.length ≤ 140737488355328) : ∀ (i K : Nat), i ≤ l.length → i < K → ∃ z, ref01_trim_l1 t n K m l (i : Int) q q2 = some (m, l, (tl l i : Int), z, q, q2)
  | 0, K, hi, hk => by
    obtain ⟨K, rfl⟩ : ∃ j, K = j + 1 := ⟨K - 1, by omega⟩
    exact ⟨false, by simp [ref01_trim_l1, tl]⟩
  | i + 1, K, hi, hk => by
    obtain ⟨K, rfl⟩ : ∃ j, K = j + 1 := ⟨K - 1, by omega⟩
    obtain ⟨x, x1, x3, x2⟩ := at_ (l := l) (i := i) (by omega)
    have ew : IntKind.wrap .i64 (((i + 1 : Nat) : Int) - 1) = (i : Int) := by rw [wr (by omega) (by omega)]; omega
    have hx : dg l i = x := by unfold dg; rw [x1]; rfl
    rw [ref01_trim_l1, if_pos (by simp only [decide_eq_true_eq]; omega), ew, if_pos (by simp), Int.toNat_natCast, x1, tl, hx]
    dsimp only
    by_cases h0 : x = 0
    · rw [if_pos (by simpa using h0), if_pos h0]
      exact trim_l hl i K (by omega) (by omega)
    · rw [if_neg (by simpa using h0), if_neg h0]
      exact ⟨(x == 0), rfl⟩
def trm (l : List Int) : List Int := l.take (tl l l.length)
theorem trm_val (l : List Int) : val (trm l) = val l := by rw [trm, tl_val, List.take_length]
theorem trm_len (l : List Int) : (trm l).length ≤ l.length := by rw [trm, List.length_take]; omega
theorem trm_dig {l : List Int} (h : Dig l) : Dig (trm l) := h.take _
theorem trim_ev {l : List Int} (hl : l.length ≤ 140737488355328) : Ev fun n => (tab n).ref01_trim false l = some (.mk false (trm l)) := by
  refine Ev.step ((Ev.ge (l.length + 1)).mono fun n hn => ?_)
  obtain ⟨z, e⟩ := trim_l (t := tab n) (n := n) (m := false) (q := false) (q2 := []) hl l.length n (Nat.le_refl _) (by omega)
  rw [tab_ref01_trim, ref01_trim, e]
  have h := tl_le l l.length
  have hj : (0 : Int) ≤ (tl l l.length : Int) ∧ (tl l l.length : Int) ≤ (l.length : Int) := by omega
  simp [ref01_trim_j2, trm, h]
theorem digit_evs : Ev fun n => ∀ (l : List Int) (i : Nat), (tab n).ref01_digit l (i : Int) = some (dg l i) :=
  Ev.step (Ev.pure fun n l i => by
    rw [tab_ref01_digit, ref01_digit]
    unfold dg
    by_cases h : i < l.length
    · rw [if_pos (by simpa using h), if_pos (by simp), Int.toNat_natCast, List.getElem?_eq_getElem h]
      rfl
    · rw [if_neg (by simpa using h), List.getElem?_eq_none (by omega)]
      rfl)
/-- The digits of a number, so many at most. -/
def digs : Nat → Int → List Int
  | 0, _ => []
  | j + 1, x => if x = 0 then [] else x % 10 :: digs j (x / 10)
theorem of_l {t : Tab} {n : Nat} {a : Int} {q : Bool} {q2 : List Int} : ∀ (j K : Nat) (acc : List Int) (x : Int), acc.length + j ≤ 1000 → 0 ≤ x → x < 10 ^ j → x ≤ 9223372036854775807 → j < K → ∃ z, ref01_Of_l1 t n K a acc x q q2 = some (a, acc ++ digs j x, 0, z, q, q2)
  | 0, K, acc, x, hl, h0, hx, h6, hk => by
    obtain ⟨K, rfl⟩ : ∃ j, K = j + 1 := ⟨K - 1, by omega⟩
    have : x = 0 := by rw [Int.pow_zero] at hx; omega
    subst this
    exact ⟨((0 : Int) != 0), by rw [ref01_Of_l1, if_neg (by simp), digs, List.append_nil]⟩
  | j + 1, K, acc, x, hl, h0, hx, h6, hk => by
    obtain ⟨K, rfl⟩ : ∃ j, K = j + 1 := ⟨K - 1, by omega⟩
    by_cases hz : x = 0
    · subst hz
      exact ⟨((0 : Int) != 0), by rw [ref01_Of_l1, if_neg (by simp), digs, if_pos rfl, List.append_nil]⟩
    · have em : Int.tmod x 10 = x % 10 := Int.tmod_eq_emod_of_nonneg h0
      have eq' : Int.tdiv x 10 = x / 10 := Int.tdiv_eq_ediv_of_nonneg h0
      have e1 : remI .i64 x 10 = some (x % 10) := by
        unfold remI
        rw [if_neg (by omega), em]
      have e2 : quoI .i64 x 10 = some (x / 10) := by
        unfold quoI
        rw [if_neg (by omega), eq', wr (by omega) (by omega)]
      obtain ⟨z, e⟩ := of_l (t := t) (n := n) (a := a) (q := q) (q2 := q2) j K (acc ++ [x % 10]) (x / 10) (by simp; omega) (by omega) (by rw [Int.pow_succ] at hx; omega) (by omega) (by omega)
      refine ⟨z, ?_⟩
      rw [ref01_Of_l1, if_pos (by simpa using hz), e1]
      dsimp only
      rw [if_neg (by simp; omega), ref01_Of_j2, if_pos (by simp; omega), e2]
      dsimp only
      rw [e, digs, if_neg hz, List.append_assoc]
      rfl
theorem digs_ok : ∀ (j : Nat) (x : Int), 0 ≤ x → x < 10 ^ j → Dig (digs j x) ∧ val (digs j x) = x ∧ (digs j x).length ≤ j
  | 0, x, h0, hx => by
    rw [Int.pow_zero] at hx
    exact ⟨fun d h => (by cases h), (by rw [digs, val]; omega), Nat.le_refl _⟩
  | j + 1, x, h0, hx => by
    rw [digs]
    split
    · rename_i h
      exact ⟨fun d h => (by cases h), (by rw [val]; omega), (by simp)⟩
    · obtain ⟨h1, h2, h3⟩ := digs_ok j (x / 10) (by omega) (by rw [Int.pow_succ] at hx; omega)
      refine ⟨fun d hd => ?_, (by rw [val, h2]; omega), (by simpa using h3)⟩
      rcases List.mem_cons.1 hd with rfl | hd
      · omega
      · exact h1 d hd
def ofN (x : Int) : List Int := trm (digs 19 x)
theorem of_ev {x : Int} (h0 : 0 ≤ x) (h1 : x ≤ 9223372036854775807) : Ev fun n => (tab n).ref01_Of x = some (.mk false (ofN x)) := by
  obtain ⟨d1, d2, d3⟩ := digs_ok 19 x h0 (by omega)
  refine Ev.step (((Ev.ge 20).and (trim_ev (l := digs 19 x) (by omega))).mono fun n hh => ?_)
  obtain ⟨z, e⟩ := of_l (t := tab n) (n := n) (a := x) (q := false) (q2 := []) 19 n [] x (by simp) h0 (by omega) h1 (by omega)
  have hn : decide (x < 0) = false := by simpa using h0
  rw [tab_ref01_Of, ref01_Of, e]
  simp only [ref01_Of_j3, hn, List.nil_append, hh.2, ofN]
theorem ofN_ok {x : Int} (h0 : 0 ≤ x) (h1 : x ≤ 9223372036854775807) : Dig (ofN x) ∧ val (ofN x) = x ∧ (ofN x).length ≤ 19 := by
  obtain ⟨d1, d2, d3⟩ := digs_ok 19 x h0 (by omega)
  exact ⟨trm_dig d1, (by rw [ofN, trm_val, d2]), by have := trm_len (digs 19 x); unfold ofN; omega⟩
end Go.Proofs.Ytokfeoifkpedgaa.W
