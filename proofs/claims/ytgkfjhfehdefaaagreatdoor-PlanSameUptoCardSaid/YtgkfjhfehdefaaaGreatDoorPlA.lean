/- Steps of plans that came in small; the plans in a step. -/
import Derived.Test.YtgkfjhfehdefaaaGreatDoorPvG
import Derived.Test.YtgkfjhfehdefaaaGreatDoorPvS
namespace Go.Proofs.YtgkfjhfehdefaaaGreatDoor.W
open Go.Proofs.YtgkfjhfehdefaaaGreatDoor.Flat
set_option linter.unusedVariables false
set_option linter.unusedSimpArgs false
theorem wt_pos : ∀ x : T, 1 ≤ x.wt
  | .v v => by cases v <;> simp [T.wt]
  | .st _ => by rw [T.wt]; omega
  | .sl _ _ _ => by rw [T.wt]; omega
  | .xl _ _ => by rw [T.wt]; omega
  | .op => by rw [T.wt]; omega
theorem wts_len : ∀ l : List T, l.length ≤ wts l
  | [] => by rw [wts]; exact Nat.le_refl _
  | x :: xs => by rw [wts, List.length_cons]; have := wt_pos x; have := wts_len xs; omega
theorem wts_mem : ∀ {l : List T} {x : T}, x ∈ l → x.wt ≤ wts l
  | y :: ys, x, h => by
    rw [wts]
    rcases List.mem_cons.1 h with rfl | h
    · omega
    · have := wts_mem h; omega
theorem wts_map {α : Type _} {f : α → T} {l : List α} {x : α} (h : x ∈ l) : (f x).wt ≤ wts (l.map f) := wts_mem (List.mem_map.2 ⟨x, h, rfl⟩)
theorem wts_mlen {α : Type _} {f : α → T} (l : List α) : l.length ≤ wts (l.map f) := by have := wts_len (l.map f); rwa [List.length_map] at this
theorem wts_app : ∀ l m : List T, wts (l ++ m) = wts l + wts m
  | [], m => by rw [List.nil_append, wts]; omega
  | x :: xs, m => by rw [List.cons_append, wts, wts, wts_app xs m]; omega
theorem vin_wt : ∀ (k : Nat) (a : GValue), a.t.wt ≤ k → k ≤ 2097152 → VIn a
  | 0, a, h, _ => by have := wt_pos a.t; omega
  | k + 1, .mk a b s l m, h, hk => by
    simp only [GValue.t, T.wt, wts, GValue.ts_map] at h
    have h1 := wts_mlen (f := GValue.t) l
    have h2 := wts_mlen (f := GValue.t) m
    exact VIn.mk (by omega) (by omega) (by omega) (fun x hx => vin_wt k x (by have := wts_map (f := GValue.t) hx; omega) (by omega)) (fun x hx => vin_wt k x (by have := wts_map (f := GValue.t) hx; omega) (by omega))
theorem pin_wt : ∀ (k : Nat) (a : GPred), a.t.wt ≤ k → k ≤ 2097152 → PIn a
  | 0, a, h, _ => by have := wt_pos a.t; omega
  | k + 1, .mk a v p, h, hk => by
    simp only [GPred.t, T.wt, wts, GValue.ts_map, GPred.ts_map] at h
    have h1 := wts_mlen (f := GValue.t) v
    have h2 := wts_mlen (f := GPred.t) p
    exact PIn.mk (by omega) (by omega) (fun x hx => vin_wt k x (by have := wts_map (f := GValue.t) hx; omega) (by omega)) (fun x hx => pin_wt k x (by have := wts_map (f := GPred.t) hx; omega) (by omega))
def bK : GBy → Int
  | .mk k _ _ _ => k
def bKey : GBy → ByteArray
  | .mk _ s _ _ => s
def bT : GBy → List GStep
  | .mk _ _ t _ => t
def bD : GBy → Bool
  | .mk _ _ _ d => d
def innB (b : GBy) : Bool := bK b == 3 || decide (0 < (bT b).length)
def opOf : GStep → Int
  | .mk o _ _ _ _ _ _ _ => o
def sOf : GStep → List ByteArray
  | .mk _ s _ _ _ _ _ _ => s
def nOf : GStep → List Int
  | .mk _ _ n _ _ _ _ _ => n
def vOf : GStep → GValue
  | .mk _ _ _ v _ _ _ _ => v
def pOf : GStep → GPred
  | .mk _ _ _ _ p _ _ _ => p
def tOf : GStep → List (List GStep)
  | .mk _ _ _ _ _ t _ _ => t
def byOf : GStep → List GBy
  | .mk _ _ _ _ _ _ b _ => b
def asOf : GStep → List ByteArray
  | .mk _ _ _ _ _ _ _ a => a
/-- The plans in a step. -/
def inn (x : GStep) : List (List GStep) := tOf x ++ ((byOf x).filter innB).map bT
/-- What a step that came in keeps to. -/
inductive SIn : GStep → Prop
  | mk {op : Int} {S : List ByteArray} {N : List Int} {V : GValue} {P : GPred} {Ts : List (List GStep)} {By : List GBy} {As : List ByteArray}
    (hS : S.length ≤ 2097152) (hN : N.length ≤ 2097152) (hA : As.length ≤ 2097152) (sS : ∀ s ∈ S, s.size ≤ 2097152) (sA : ∀ s ∈ As, s.size ≤ 2097152) (hV : VIn V) (hP : PIn P) (hT : Ts.length ≤ 2097152) (hB : By.length ≤ 2097152)
    (tl : ∀ t ∈ Ts, t.length ≤ 2097152) (bl : ∀ b ∈ By, (bT b).length ≤ 2097152 ∧ (bKey b).size ≤ 2097152) (aT : ∀ t ∈ Ts, ∀ x ∈ t, SIn x) (aB : ∀ b ∈ By, ∀ x ∈ bT b, SIn x) : SIn (.mk op S N V P Ts By As)
/-- A plan's weight. -/
def wL (l : List GStep) : Nat := wts (l.map GStep.t)
theorem inn_wt {x : GStep} {t : List GStep} (h : t ∈ inn x) : wL t < x.t.wt := by
  cases x with
  | mk op S N V P Ts By As =>
    simp only [GStep.t, T.wt, wts, rows_GStep_ts_map, GBy.ts_map]
    rcases List.mem_append.1 h with h | h
    · have := wts_map (f := fun x => T.sl false 14 (GStep.ts x)) (show t ∈ Ts from h)
      rw [T.wt, GStep.ts_map] at this
      unfold wL
      omega
    · obtain ⟨b, hb, rfl⟩ := List.mem_map.1 h
      have := wts_map (f := GBy.t) (show b ∈ By from (List.mem_filter.1 hb).1)
      cases b
      simp only [GBy.t, T.wt, wts, GStep.ts_map] at this
      simp only [bT]
      unfold wL
      omega
theorem wL_mem {x : GStep} {l : List GStep} (h : x ∈ l) : x.t.wt ≤ wL l := wts_map h
theorem wL_len (l : List GStep) : l.length ≤ wL l := wts_mlen l
theorem sin_wt : ∀ (k : Nat) (a : GStep), a.t.wt ≤ k → k ≤ 2097152 → SIn a
  | 0, a, h, _ => by have := wt_pos a.t; omega
  | k + 1, .mk op S N V P Ts By As, h, hk => by
    simp only [GStep.t, T.wt, wts, rows_GStep_ts_map, GBy.ts_map, texts_map, ints_i64_map] at h
    have h1 := wts_mlen (f := fun x => T.v (.string x)) S
    have h2 := wts_mlen (f := fun x => T.v (.int .i64 x)) N
    have h3 := wts_mlen (f := fun x => T.v (.string x)) As
    have h4 := wts_mlen (f := fun x => T.sl false 14 (GStep.ts x)) Ts
    have h5 := wts_mlen (f := GBy.t) By
    have hv := wt_pos V.t
    have hp := wt_pos P.t
    refine SIn.mk (by omega) (by omega) (by omega) (fun s hs => ?_) (fun s hs => ?_) (vin_wt k V (by omega) (by omega)) (pin_wt k P (by omega) (by omega)) (by omega) (by omega) (fun t ht => ?_) (fun b hb => ?_) (fun t ht x hx => ?_) (fun b hb x hx => ?_)
    · have := wts_map (f := fun x => T.v (.string x)) hs
      rw [T.wt] at this
      omega
    · have := wts_map (f := fun x => T.v (.string x)) hs
      rw [T.wt] at this
      omega
    · have := wts_map (f := fun x => T.sl false 14 (GStep.ts x)) ht
      rw [T.wt, GStep.ts_map] at this
      have := wts_mlen (f := GStep.t) t
      omega
    · have := wts_map (f := GBy.t) hb
      cases b
      simp only [GBy.t, T.wt, wts, GStep.ts_map] at this
      simp only [bT, bKey]
      rename_i t _
      have := wts_mlen (f := GStep.t) t
      constructor <;> omega
    · have := wts_map (f := fun x => T.sl false 14 (GStep.ts x)) ht
      rw [T.wt, GStep.ts_map] at this
      have := wts_map (f := GStep.t) hx
      exact sin_wt k x (by omega) (by omega)
    · have := wts_map (f := GBy.t) hb
      cases b
      simp only [GBy.t, T.wt, wts, GStep.ts_map] at this
      have := wts_map (f := GStep.t) hx
      simp only [bT] at this
      exact sin_wt k x (by omega) (by omega)
theorem lin_wt {l : List GStep} (h : wL l ≤ 2097152) : ∀ x ∈ l, SIn x := fun x hx => sin_wt 2097152 x (Nat.le_trans (wL_mem hx) h) (Nat.le_refl _)
theorem SIn.inn_len {x : GStep} (h : SIn x) : (inn x).length ≤ 4194304 := by
  cases h with
  | @mk op S N V P Ts By As hS hN hA sS sA hV hP hT hB tl bl aT aB =>
    simp only [inn, tOf, byOf, List.length_append, List.length_map]
    have := List.length_filter_le innB By
    omega
theorem SIn.inn_in {x : GStep} (h : SIn x) : ∀ t ∈ inn x, t.length ≤ 2097152 ∧ ∀ y ∈ t, SIn y := by
  cases h with
  | @mk op S N V P Ts By As hS hN hA sS sA hV hP hT hB tl bl aT aB =>
    intro t ht
    rcases List.mem_append.1 ht with h | h
    · exact ⟨tl t h, aT t h⟩
    · obtain ⟨b, hb, rfl⟩ := List.mem_map.1 h
      have hb := (List.mem_filter.1 hb).1
      exact ⟨(bl b hb).1, aB b hb⟩
theorem ref_inner_loop {t : Tab} {n : Nat} {By : List GBy} {c1 : Int} {c2 : List ByteArray} {c3 : List Int} {c4 c5 : Int} {c6 : ByteArray} {c7 c8 : List GValue} {c9 : Int} {c10 : List GValue} {c11 : List GPred} {c12 : List (List GStep)} {c13 : List ByteArray} (hl : By.length ≤ 2097152) : ∀ (d i K : Nat) (acc : List (List GStep)), i + d = By.length → d < K → acc.length + d ≤ 4194304 → ∃ z, ref12_Inner_l1 t n K acc (i : Int) c1 c2 c3 c4 c5 c6 c7 c8 c9 c10 c11 c12 By c13 = some (acc ++ ((By.drop i).filter innB).map bT, z)
  | 0, i, K, acc, hi, hk, ha => by
    obtain ⟨K, rfl⟩ : ∃ j, K = j + 1 := ⟨K - 1, by omega⟩
    exact ⟨_, by rw [ref12_Inner_l1, if_neg (by simp; omega), List.drop_of_length_le (by omega)]; simp only [List.filter_nil, List.map_nil, List.append_nil]; rfl⟩
  | d + 1, i, K, acc, hi, hk, ha => by
    obtain ⟨K, rfl⟩ : ∃ j, K = j + 1 := ⟨K - 1, by omega⟩
    obtain ⟨b, x1, x3, x2⟩ := at_ (l := By) (i := i) (by omega)
    rw [ref12_Inner_l1, if_pos (by simp; omega), if_pos (by simp), Int.toNat_natCast, x1, x2, List.filter_cons]
    cases b with
    | mk k key t0 de =>
      have e1 := wr1 (i := i) (L := By.length) (by omega) (by omega)
      have hin : innB (.mk k key t0 de) = (k == 3 || decide (0 < t0.length)) := rfl
      have hb : bT (.mk k key t0 de) = t0 := rfl
      dsimp only
      by_cases h3 : (k == 3) = true
      · rw [if_pos h3, ref12_Inner_j2, if_pos rfl, if_pos (by simp), Int.toNat_natCast, x1]
        dsimp only
        rw [if_pos (by simp; omega)]
        rw [hin, h3, Bool.true_or, if_pos rfl, List.map_cons, hb]
        dsimp only
        rw [e1]
        obtain ⟨z, hz⟩ := ref_inner_loop (t := t) (n := n) (c1 := c1) (c2 := c2) (c3 := c3) (c4 := c4) (c5 := c5) (c6 := c6) (c7 := c7) (c8 := c8) (c9 := c9) (c10 := c10) (c11 := c11) (c12 := c12) (c13 := c13) hl d (i + 1) K (acc ++ [t0]) (by omega) (by omega) (by simp; omega)
        exact ⟨z, by rw [hz]; simp⟩
      · rw [if_neg h3]
        have h3' : (k == 3) = false := by simpa using h3
        rw [hin, h3', Bool.false_or]
        by_cases h0 : 0 < t0.length
        · rw [ref12_Inner_j2, if_pos (by simpa using h0), if_pos (by simp), Int.toNat_natCast, x1]
          dsimp only
          rw [if_pos (by simp; omega), if_pos (by simpa using h0), List.map_cons, hb]
          dsimp only
          rw [e1]
          obtain ⟨z, hz⟩ := ref_inner_loop (t := t) (n := n) (c1 := c1) (c2 := c2) (c3 := c3) (c4 := c4) (c5 := c5) (c6 := c6) (c7 := c7) (c8 := c8) (c9 := c9) (c10 := c10) (c11 := c11) (c12 := c12) (c13 := c13) hl d (i + 1) K (acc ++ [t0]) (by omega) (by omega) (by simp; omega)
          exact ⟨z, by rw [hz]; simp⟩
        · rw [ref12_Inner_j2, if_neg (by simpa using h0), if_neg (by simpa using h0)]
          dsimp only
          rw [e1]
          exact ref_inner_loop (t := t) (n := n) hl d (i + 1) K acc (by omega) (by omega) (by omega)
theorem refInner_ev {x : GStep} (h : SIn x) : Ev fun n => (tab n).ref12_Inner x = some (inn x) := by
  cases h with
  | @mk op S N V P Ts By As hS hN hA sS sA hV hP hT hB tl bl aT aB =>
    refine Ev.step ((Ev.ge (By.length + 1)).mono fun n hn => ?_)
    rw [tab_ref12_Inner]
    obtain ⟨k, nn, s, l, m⟩ := V
    obtain ⟨pk, pv, pp⟩ := P
    simp only [ref12_Inner]
    rw [if_pos (by simp; omega)]
    obtain ⟨z, hz⟩ := ref_inner_loop (t := tab n) (n := n) (c1 := op) (c2 := S) (c3 := N) (c4 := k) (c5 := nn) (c6 := s) (c7 := l) (c8 := m) (c9 := pk) (c10 := pv) (c11 := pp) (c12 := Ts) (c13 := As) hB By.length 0 n ([] ++ Ts) (by omega) (by omega) (by simp; omega)
    rw [show ((0 : Nat) : Int) = 0 from rfl] at hz
    rw [hz]
    obtain ⟨z1, z2, z3, z4, z5, z6, z7, z8, z9, za, zb, zc, zd, ze, zf, zg⟩ := z
    simp [inn, tOf, byOf]
end Go.Proofs.YtgkfjhfehdefaaaGreatDoor.W
