/- One value against another. -/
import Derived.Test.YtokfeoifkpedgaaGatC
namespace Go.Proofs.Ytokfeoifkpedgaa.W
open Go.Proofs.Ytokfeoifkpedgaa.Flat
set_option linter.unusedVariables false
set_option linter.unusedSimpArgs false
/-- What a value that came in keeps to. -/
inductive VIn : GValue → Prop
  | mk {k n : Int} {s : ByteArray} {l m : List GValue} (hs : s.size ≤ 140737488355328) (hl : l.length ≤ 1759218604391) (hm : m.length ≤ 1759218604391) (al : ∀ x, x ∈ l → VIn x) (am : ∀ x, x ∈ m → VIn x) : VIn (.mk k n s l m)
mutual
theorem GValue.vin : ∀ a : GValue, GValue.In a → VIn a
  | .mk k n s l m, h =>
    have h := GValue.in_mk h
    VIn.mk (by omega) (by omega) (by omega) (GValue.vins l h.2.2.2.1.2) (GValue.vins m h.2.2.2.2.2)
theorem GValue.vins : ∀ l : List GValue, (∀ x ∈ l, GValue.In x) → ∀ x, x ∈ l → VIn x
  | [], _, x, hx => absurd hx (by simp)
  | y :: ys, h, x, hx => by
    rcases List.mem_cons.1 hx with e | hx
    · rw [e]
      exact GValue.vin y (h y (by simp))
    · exact GValue.vins ys (fun z hz => h z (by simp [hz])) x hx
end
def sg (a b : Int) : Int := if a < b then -1 else if a > b then 1 else 0
def or2 (a b : Int) : Int := if a ≠ 0 then a else b
def cmpS (a b : ByteArray) : Int := Lib.compareBytes a.data.toList b.data.toList
def cmpL (f : GValue → GValue → Int) : List GValue → List GValue → Int
  | [], [] => 0
  | [], _ :: _ => -1
  | _ :: _, [] => 1
  | x :: xs, y :: ys => or2 (f x y) (cmpL f xs ys)
def hd3 : GValue → GValue → Int
  | .mk k n s _ _, .mk k' n' s' _ _ => or2 (sg k k') (or2 (sg n n') (cmpS s s'))
def cmpV : Nat → GValue → GValue → Int
  | 0, a, b => hd3 a b
  | f + 1, .mk k n s l m, .mk k' n' s' l' m' => or2 (hd3 (.mk k n s l m) (.mk k' n' s' l' m')) (or2 (cmpL (cmpV f) l l') (cmpL (cmpV f) m m'))
/-- One of three. -/
def Sg (a : Int) : Prop := a = -1 ∨ a = 0 ∨ a = 1
theorem sg_sg (a b : Int) : Sg (sg a b) := by unfold sg Sg; repeat' split <;> omega
theorem or2_sg {a b : Int} (h : Sg a) (g : Sg b) : Sg (or2 a b) := by unfold or2; split <;> assumption
theorem or2_zero {a b : Int} : or2 a b = 0 ↔ a = 0 ∧ b = 0 := by unfold or2; split <;> omega
theorem cb_sg : ∀ a b : List UInt8, Sg (Lib.compareBytes a b)
  | [], [] => by simp [Lib.compareBytes, Sg]
  | [], _ :: _ => by simp [Lib.compareBytes, Sg]
  | _ :: _, [] => by simp [Lib.compareBytes, Sg]
  | a :: xs, b :: ys => by
    rw [Lib.compareBytes]
    split
    · simp [Sg]
    · split
      · simp [Sg]
      · exact cb_sg xs ys
theorem cmpL_sg {f : GValue → GValue → Int} (hf : ∀ x y, Sg (f x y)) : ∀ a b, Sg (cmpL f a b)
  | [], [] => by simp [cmpL, Sg]
  | [], _ :: _ => by simp [cmpL, Sg]
  | _ :: _, [] => by simp [cmpL, Sg]
  | a :: xs, b :: ys => by
    rw [cmpL]
    exact or2_sg (hf a b) (cmpL_sg hf xs ys)
theorem hd3_sg (a b : GValue) : Sg (hd3 a b) := by
  cases a; cases b
  exact or2_sg (sg_sg _ _) (or2_sg (sg_sg _ _) (cb_sg _ _))
theorem cmpV_sg : ∀ f a b, Sg (cmpV f a b)
  | 0, a, b => hd3_sg a b
  | f + 1, .mk .., .mk .. => or2_sg (hd3_sg _ _) (or2_sg (cmpL_sg (cmpV_sg f) _ _) (cmpL_sg (cmpV_sg f) _ _))
/-- The other way round. -/
theorem sg_neg (a b : Int) : sg b a = - sg a b := by unfold sg; repeat' split <;> omega
theorem or2_neg {a b c d : Int} (h : c = -a) (g : d = -b) : or2 c d = - or2 a b := by unfold or2; repeat' split <;> omega
theorem cb_neg : ∀ a b : List UInt8, Lib.compareBytes b a = - Lib.compareBytes a b
  | [], [] => by simp [Lib.compareBytes]
  | [], _ :: _ => by simp [Lib.compareBytes]
  | _ :: _, [] => by simp [Lib.compareBytes]
  | a :: xs, b :: ys => by
    have h : ¬ (a < b ∧ b < a) := fun ⟨h, g⟩ => absurd (UInt8.lt_trans h g) (UInt8.lt_irrefl a)
    rw [Lib.compareBytes, Lib.compareBytes, cb_neg xs ys]
    by_cases h1 : a < b
    · have h2 : ¬ b < a := fun g => h ⟨h1, g⟩
      simp [h1, h2]
    · by_cases h2 : b < a
      · simp [h1, h2]
      · simp [h1, h2]
theorem cmpL_neg {f : GValue → GValue → Int} (hf : ∀ x y, f y x = - f x y) : ∀ a b, cmpL f b a = - cmpL f a b
  | [], [] => by simp [cmpL]
  | [], _ :: _ => by simp [cmpL]
  | _ :: _, [] => by simp [cmpL]
  | a :: xs, b :: ys => by
    rw [cmpL, cmpL]
    exact or2_neg (hf a b) (cmpL_neg hf xs ys)
theorem hd3_neg (a b : GValue) : hd3 b a = - hd3 a b := by
  cases a; cases b
  exact or2_neg (sg_neg _ _) (or2_neg (sg_neg _ _) (cb_neg _ _))
theorem cmpV_neg : ∀ f a b, cmpV f b a = - cmpV f a b
  | 0, a, b => hd3_neg a b
  | f + 1, .mk .., .mk .. => or2_neg (hd3_neg _ _) (or2_neg (cmpL_neg (cmpV_neg f) _ _) (cmpL_neg (cmpV_neg f) _ _))
/- The walks. -/
theorem sign_at (t : Tab) (n : Nat) (a b : Int) : ref02_sign t n a b = some (sg a b) := by
  unfold ref02_sign sg
  by_cases h : a < b
  · simp [h]
  · by_cases g : a > b
    · simp [h, g]
    · simp [h, g]
theorem sign_ev (a b : Int) : Ev fun n => (tab n).ref02_sign a b = some (sg a b) :=
  Ev.step (Ev.pure fun n => sign_at (tab n) n a b)
theorem strAt_nat (s : ByteArray) (i : Nat) : strAt s (i : Int) = (s.data.toList[i]?).map fun b => (b.toNat : Int) := by
  unfold strAt
  simp
  rfl
theorem texts_l {t : Tab} {n : Nat} {a b : ByteArray} (hs : ∀ x y, t.ref02_sign x y = some (sg x y)) (ha : a.size ≤ 140737488355328) : ∀ (d i k : Nat), i + d = min a.size b.size → d < k → (ref02_texts_l1 t n k a b (i : Int) = some (.inl (Lib.compareBytes (a.data.toList.drop i) (b.data.toList.drop i)))) ∨ (∃ x y, ref02_texts_l1 t n k a b (i : Int) = some (.inr (a, b, x, y)) ∧ Lib.compareBytes (a.data.toList.drop i) (b.data.toList.drop i) = sg a.size b.size)
  | 0, i, k, hi, hk => by
    obtain ⟨k, rfl⟩ : ∃ j, k = j + 1 := ⟨k - 1, by omega⟩
    right
    rw [ref02_texts_l1]
    have la : a.data.toList.length = a.size := by rw [Array.length_toList]; rfl
    have lb : b.data.toList.length = b.size := by rw [Array.length_toList]; rfl
    by_cases h1 : i < a.size
    · have h2 : ¬ i < b.size := by omega
      refine ⟨_, _, by rw [if_pos (by simpa using h1), if_neg (by simpa using h2)], ?_⟩
      obtain ⟨x, _, _, e⟩ := at_ (l := a.data.toList) (i := i) (by omega)
      rw [e, List.drop_of_length_le (l := b.data.toList) (by omega), Lib.compareBytes, sg, if_neg (by omega), if_pos (by omega)]
    · refine ⟨_, _, by rw [if_neg (by simpa using h1)], ?_⟩
      rw [List.drop_of_length_le (l := a.data.toList) (by omega)]
      by_cases h2 : i < b.size
      · obtain ⟨x, _, _, e⟩ := at_ (l := b.data.toList) (i := i) (by omega)
        rw [e, Lib.compareBytes, sg, if_pos (by omega)]
      · rw [List.drop_of_length_le (l := b.data.toList) (by omega), Lib.compareBytes, sg, if_neg (by omega), if_neg (by omega)]
  | d + 1, i, k, hi, hk => by
    obtain ⟨k, rfl⟩ : ∃ j, k = j + 1 := ⟨k - 1, by omega⟩
    have la : a.data.toList.length = a.size := by rw [Array.length_toList]; rfl
    have lb : b.data.toList.length = b.size := by rw [Array.length_toList]; rfl
    obtain ⟨x, x1, _, x2⟩ := at_ (l := a.data.toList) (i := i) (by omega)
    obtain ⟨y, y1, _, y2⟩ := at_ (l := b.data.toList) (i := i) (by omega)
    have ih := texts_l (n := n) (b := b) hs ha d (i + 1) k (by omega) (by omega)
    rw [ref02_texts_l1, if_pos (by simp; omega), if_pos (by simp; omega), ref02_texts_j2, strAt_nat, strAt_nat, x1, y1]
    simp only [Option.map_some]
    rw [wr1 (i := i) (L := a.size) (by omega) ha, x2, y2, Lib.compareBytes]
    have hx := x.toNat_lt
    have hy := y.toNat_lt
    by_cases h : x = y
    · subst h
      rw [if_neg (by simp), if_neg (UInt8.lt_irrefl x), if_neg (UInt8.lt_irrefl x)]
      exact ih
    · have hne : x.toNat ≠ y.toNat := fun e => h (UInt8.toNat_inj.1 e)
      rw [if_pos (by simp; omega), hs, wr (by omega) (by omega), wr (by omega) (by omega)]
      left
      simp only [sg, UInt8.lt_iff_toNat_lt, Option.some.injEq, Sum.inl.injEq]
      by_cases h1 : x.toNat < y.toNat
      · rw [if_pos (by omega), if_pos h1]
      · rw [if_neg (by omega), if_neg h1, if_pos (by omega), if_pos (by omega)]
theorem texts_ev {a b : ByteArray} (ha : a.size ≤ 140737488355328) : Ev fun n => (tab n).ref02_texts a b = some (cmpS a b) := by
  refine Ev.step (((Ev.ge (min a.size b.size + 2)).and (Ev.ge 1)).mono fun n hh => ?_)
  obtain ⟨h1, h2⟩ := hh
  obtain ⟨m, rfl⟩ : ∃ m, n = m + 1 := ⟨n - 1, by omega⟩
  have hs : ∀ x y, (tab (m + 1)).ref02_sign x y = some (sg x y) := fun x y => sign_at (tab m) m x y
  show ref02_texts (tab (m + 1)) (m + 1) a b = _
  unfold ref02_texts
  have e : cmpS a b = Lib.compareBytes (a.data.toList.drop 0) (b.data.toList.drop 0) := by simp [cmpS]
  rcases texts_l (n := m + 1) (b := b) hs ha (min a.size b.size) 0 (m + 1) (by omega) (by omega) with h | ⟨x, y, h, g⟩
  · rw [show ((0 : Nat) : Int) = 0 from rfl] at h
    simp only [h, e]
  · rw [show ((0 : Nat) : Int) = 0 from rfl] at h
    simp only [h, ref02_texts_j3, hs, e, g]
theorem rows_l {t : Tab} {n : Nat} {a b : List GValue} {f : GValue → GValue → Int} {dp : Int} (H : ∀ x ∈ a, ∀ y ∈ b, t.ref02_compare x y dp = some (f x y)) (ha : a.length ≤ 1759218604391) : ∀ (d i k : Nat), i + d = min a.length b.length → d < k → (ref02_rows_l1 t n k a b dp (i : Int) = some (.inl (cmpL f (a.drop i) (b.drop i)))) ∨ (∃ x y z, ref02_rows_l1 t n k a b dp (i : Int) = some (.inr (a, b, x, y, z)) ∧ cmpL f (a.drop i) (b.drop i) = sg a.length b.length)
  | 0, i, k, hi, hk => by
    obtain ⟨k, rfl⟩ : ∃ j, k = j + 1 := ⟨k - 1, by omega⟩
    right
    rw [ref02_rows_l1]
    by_cases h1 : i < a.length
    · have h2 : ¬ i < b.length := by omega
      refine ⟨_, _, _, by rw [if_pos (by simpa using h1), if_neg (by simpa using h2)], ?_⟩
      obtain ⟨x, _, _, e⟩ := at_ (l := a) (i := i) (by omega)
      rw [e, List.drop_of_length_le (l := b) (by omega), cmpL, sg, if_neg (by omega), if_pos (by omega)]
    · refine ⟨_, _, _, by rw [if_neg (by simpa using h1)], ?_⟩
      rw [List.drop_of_length_le (l := a) (by omega)]
      by_cases h2 : i < b.length
      · obtain ⟨x, _, _, e⟩ := at_ (l := b) (i := i) (by omega)
        rw [e, cmpL, sg, if_pos (by omega)]
      · rw [List.drop_of_length_le (l := b) (by omega), cmpL, sg, if_neg (by omega), if_neg (by omega)]
  | d + 1, i, k, hi, hk => by
    obtain ⟨k, rfl⟩ : ∃ j, k = j + 1 := ⟨k - 1, by omega⟩
    obtain ⟨x, x1, x3, x2⟩ := at_ (l := a) (i := i) (by omega)
    obtain ⟨y, y1, y3, y2⟩ := at_ (l := b) (i := i) (by omega)
    have ih := rows_l (n := n) H ha d (i + 1) k (by omega) (by omega)
    have hxy := H x x3 y y3
    rw [ref02_rows_l1, if_pos (by simp; omega), if_pos (by simp; omega), ref02_rows_j2, if_pos (by simp), Int.toNat_natCast, x1, y1, x2, y2, cmpL, or2]
    generalize f x y = q at hxy ⊢
    cases x
    cases y
    simp only [hxy]
    rw [wr1 (i := i) (L := a.length) (by omega) (by omega)]
    by_cases h : q = 0
    · rw [if_neg (by simpa using h), if_neg (by simpa using h)]
      exact ih
    · left
      rw [if_pos (by simpa using h), if_pos (by simpa using h)]
theorem rows_at {t : Tab} {n : Nat} {a b : List GValue} {f : GValue → GValue → Int} {dp : Int} (H : ∀ x ∈ a, ∀ y ∈ b, t.ref02_compare x y dp = some (f x y)) (hs : ∀ x y, t.ref02_sign x y = some (sg x y)) (ha : a.length ≤ 1759218604391) (hn : min a.length b.length < n) : ref02_rows t n a b dp = some (cmpL f a b) := by
  unfold ref02_rows
  rcases rows_l (n := n) H ha (min a.length b.length) 0 n (by omega) (by omega) with h | ⟨x, y, z, h, g⟩
  · rw [show ((0 : Nat) : Int) = 0 from rfl] at h
    simp only [h, List.drop_zero]
  · rw [show ((0 : Nat) : Int) = 0 from rfl] at h
    simp only [List.drop_zero] at g
    simp only [h, ref02_rows_j3, hs, g]
theorem sign_evs : Ev fun n => ∀ x y, (tab n).ref02_sign x y = some (sg x y) :=
  Ev.step (Ev.pure fun n x y => sign_at (tab n) n x y)
theorem rows_ev {a b : List GValue} {f : GValue → GValue → Int} {dp : Int} (H : ∀ x ∈ a, ∀ y ∈ b, Ev fun n => (tab n).ref02_compare x y dp = some (f x y)) (ha : a.length ≤ 1759218604391) : Ev fun n => (tab n).ref02_rows a b dp = some (cmpL f a b) :=
  Ev.step (((Ev.all2 a b H).and (sign_evs.and (Ev.ge (min a.length b.length + 1)))).mono fun n hh => rows_at hh.1 hh.2.1 ha (by omega))
theorem refcmp_ev : ∀ (f : Nat), f ≤ 12 → ∀ a b, VIn a → VIn b → Ev fun n => (tab n).ref02_compare a b (13 - (f : Int)) = some (cmpV f a b)
  | 0, hf, .mk k1 n1 s1 l1 m1, .mk k2 n2 s2 l2 m2, .mk ha _ _ _ _, .mk _ _ _ _ _ => by
    refine Ev.step ((sign_evs.and (texts_ev (b := s2) ha)).mono fun n hh => ?_)
    obtain ⟨h1, h2⟩ := hh
    rw [tab_ref02_compare]
    simp only [ref02_compare, h1, ref02_compare_j1, h2, ref02_compare_j2, ref02_compare_j3, ref02_compare_j4, ref02_compare_j5, cmpV, hd3, or2]
    by_cases e1 : sg k1 k2 = 0 <;> by_cases e2 : sg n1 n2 = 0 <;> by_cases e3 : cmpS s1 s2 = 0 <;> simp [e1, e2, e3]
  | f + 1, hf, .mk k1 n1 s1 l1 m1, .mk k2 n2 s2 l2 m2, .mk ha hl hm al am, .mk _ _ _ bl bm => by
    have ed : IntKind.wrap .i64 ((13 - ((f + 1 : Nat) : Int)) + 1) = 13 - (f : Int) := by
      rw [wr (by omega) (by omega)]
      omega
    have r1 := rows_ev (a := l1) (b := l2) (f := cmpV f) (dp := 13 - (f : Int)) (fun x hx y hy => refcmp_ev f (by omega) x y (al x hx) (bl y hy)) hl
    have r2 := rows_ev (a := m1) (b := m2) (f := cmpV f) (dp := 13 - (f : Int)) (fun x hx y hy => refcmp_ev f (by omega) x y (am x hx) (bm y hy)) hm
    refine Ev.step (((sign_evs.and (texts_ev (b := s2) ha)).and (r1.and r2)).mono fun n hh => ?_)
    obtain ⟨⟨h1, h2⟩, h3, h4⟩ := hh
    have hd : (13 - ((f + 1 : Nat) : Int)) ≤ 12 := by omega
    generalize (13 - ((f + 1 : Nat) : Int)) = dp at ed hd ⊢
    rw [tab_ref02_compare]
    simp only [ref02_compare, h1, ref02_compare_j1, h2, ref02_compare_j2, ref02_compare_j3, ref02_compare_j4, ref02_compare_j5, cmpV, hd3, or2, ed, h3, h4, hd]
    by_cases e1 : sg k1 k2 = 0 <;> by_cases e2 : sg n1 n2 = 0 <;> by_cases e3 : cmpS s1 s2 = 0 <;> by_cases e4 : cmpL (cmpV f) l1 l2 = 0 <;> simp [e1, e2, e3, e4, hd, ed, h4]
def cmp (a b : GValue) : Int := cmpV 12 a b
theorem refSame_ev {a b : GValue} (ha : VIn a) (hb : VIn b) : Ev fun n => (tab n).ref02_Same a b = some (cmp a b == 0) :=
  Ev.step ((refcmp_ev 12 (by omega) a b ha hb).mono fun n h => by
    show ref02_Same (tab n) n a b = _
    cases a
    cases b
    have h : (tab n).ref02_compare _ _ 1 = _ := h
    simp only [ref02_Same, h, cmp])
theorem cmp_self (a : GValue) : cmp a a = 0 := by
  have := cmpV_neg 12 a a
  unfold cmp
  omega
end Go.Proofs.Ytokfeoifkpedgaa.W
