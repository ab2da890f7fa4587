/- The statement IntsDigits, first part: the digits of a number. -/
import Derived.Test.YtkeecomghgmamaaNumIntsDigits
namespace Go.Proofs.Ytkeecomghgmamaa.Pure
open Go.RowKit Go.Proofs.Ytkeecomghgmamaa.PIntsDigits Go.Proofs.Ytkeecomghgmamaa.Dec Go.Proofs.YtkeecomghgmamaaW.PrintWords Go.Proofs.YtkeecomghgmamaaW.PrintLast
set_option linter.unusedVariables false

/-- Digits, the lowest first, as bytes, the highest first. -/
def byte (d : Int) : UInt8 := UInt8.ofNat (48 + d.toNat)
def txt (l : List Int) : List UInt8 := (l.map byte).reverse
def sgn (m : Bool) : List UInt8 := if m = true then [45] else []
/-- The text of a number. -/
def text (p : Bool × List Int) : List UInt8 := if p.2 = [] then [48] else sgn p.1 ++ txt p.2
theorem byte_nat {d : Int} (h : 0 ≤ d ∧ d ≤ 9) : (byte d).toNat = 48 + d.toNat := by
  unfold byte; rw [UInt8.toNat_ofNat_of_lt' (by show _ < 256; omega)]
theorem ba_ext {a b : ByteArray} (h : a.data.toList = b.data.toList) : a = b := by
  cases a; cases b; simp at h; congr 1
theorem ba_eta (a : ByteArray) : (⟨a.data.toList.toArray⟩ : ByteArray) = a := by cases a; simp

theorem strOf_one (d : Int) (h : 0 ≤ d ∧ d ≤ 9) : strOfNums [(wrap64 (48 + d)) % 256] = ⟨#[byte d]⟩ := by
  obtain ⟨n, rfl⟩ := Int.eq_ofNat_of_zero_le h.1
  have : n ≤ 9 := by omega
  have e : (wrap64 (48 + (n : Int))) % 256 = ((48 + n : Nat) : Int) := by unfold wrap64; omega
  rw [e]
  have h2 : n = 0 ∨ n = 1 ∨ n = 2 ∨ n = 3 ∨ n = 4 ∨ n = 5 ∨ n = 6 ∨ n = 7 ∨ n = 8 ∨ n = 9 := by omega
  rcases h2 with rfl | rfl | rfl | rfl | rfl | rfl | rfl | rfl | rfl | rfl <;> decide +kernel
theorem enc_one (d : Int) (h : 0 ≤ d ∧ d ≤ 9) : Utf8.encode (wrap32 (IntKind.u64.wrap (48 + d))) = ⟨#[byte d]⟩ := by
  obtain ⟨n, rfl⟩ := Int.eq_ofNat_of_zero_le h.1
  have : n ≤ 9 := by omega
  have h2 : n = 0 ∨ n = 1 ∨ n = 2 ∨ n = 3 ∨ n = 4 ∨ n = 5 ∨ n = 6 ∨ n = 7 ∨ n = 8 ∨ n = 9 := by omega
  rcases h2 with rfl | rfl | rfl | rfl | rfl | rfl | rfl | rfl | rfl | rfl <;> decide +kernel

/-- The document's text of a number. -/
theorem Text_l0 (m : Bool) (l : List Int) (hd : Dig l) (hl : l.length ≤ 1000) : ∀ (j k i : Nat) (x : ByteArray), l.length - i = j → i ≤ l.length → x.data.toList = txt (l.take i) → j < k →
    ∃ r, wayfarerref01_Num_Text.l0 k x (i : Int) m l = some r ∧ r.data.toList = sgn m ++ txt l := by
  intro j
  induction j with
  | zero =>
    intro k i x hj hi hx hk
    obtain ⟨k, rfl⟩ : ∃ j, k = j + 1 := ⟨k - 1, by omega⟩
    have hxs : x.size = i := by
      have := congrArg List.length hx
      simpa [txt, Nat.min_eq_left hi] using this
    simp only [wayfarerref01_Num_Text.l0]
    rw [if_neg (by omega)]
    rw [List.take_of_length_le (by omega)] at hx
    cases m with
    | true =>
      rw [if_pos rfl, if_pos (by omega)]
      refine ⟨_, rfl, ?_⟩
      rw [ByteArray.data_append]
      simp [hx, sgn]
    | false =>
      rw [if_neg (by decide)]
      exact ⟨x, rfl, by simp [hx, sgn]⟩
  | succ j ih =>
    intro k i x hj hi hx hk
    obtain ⟨k, rfl⟩ : ∃ j, k = j + 1 := ⟨k - 1, by omega⟩
    have hlt : i < l.length := by omega
    have hxs : x.size = i := by
      have := congrArg List.length hx
      simpa [txt, Nat.min_eq_left hi] using this
    simp only [wayfarerref01_Num_Text.l0]
    rw [if_pos (by omega), if_pos (by omega)]
    simp only [Option.bind_some]
    rw [strOf_one _ (hd.rd i), if_pos (by rw [hxs]; show 1 + i ≤ _; omega), wrap_next hlt (by omega)]
    refine ih k (i + 1) _ (by omega) (by omega) ?_ (by omega)
    rw [ByteArray.data_append, List.take_succ_eq_append_getElem hlt]
    simp only [Array.toList_append, hx, txt, List.map_append, List.reverse_append, rd_at l i hlt]
    rfl
theorem Text_spec (p : Bool × List Int) (hd : Dig p.2) (hl : p.2.length ≤ 1000) (k : Nat) (hk : p.2.length < k) :
    ∃ r, wayfarerref01_Num_Text.f k p.1 p.2 = some r ∧ r.data.toList = text p := by
  unfold wayfarerref01_Num_Text.f text
  by_cases h : p.2 = []
  · rw [if_pos h, if_pos (by rw [h]; rfl)]
    exact ⟨_, rfl, rfl⟩
  · have h0 : ¬ p.2.length = 0 := fun h2 => h (List.eq_nil_of_length_eq_zero h2)
    rw [if_neg h, if_neg (by omega)]
    exact Text_l0 p.1 p.2 hd hl p.2.length k 0 ⟨#[]⟩ (by omega) (by omega) rfl hk

/-- Two numbers that are the same have the same digits. -/
theorem canon_eq : ∀ (a b : List Int), Dig a → Dig b → Canon a → Canon b → val a = val b → a = b := by
  have tailc : ∀ (d : Int) (r : List Int), Canon (d :: r) → Canon r := by
    intro d r h
    rcases h with h | h
    · cases h
    · by_cases hr : r = []
      · exact .inl hr
      · right
        have hl : 0 < r.length := List.length_pos_iff.mpr hr
        rw [show (((d :: r).length : Int) - 1) = ((r.length - 1 + 1 : Nat) : Int) by simp; omega] at h
        rw [show ((r.length : Int) - 1) = ((r.length - 1 : Nat) : Int) by omega]
        unfold rd at h ⊢
        simpa using h
  have zero : ∀ r : List Int, Dig r → Canon r → val r = 0 → r = [] := fun r hd hc hv => by
    have := canon_len hd hc (n := 0) (by rw [Int.pow_zero]; omega)
    exact List.eq_nil_of_length_eq_zero (by omega)
  intro a
  induction a with
  | nil => intro b _ hb _ cb hv; exact (zero b hb cb hv.symm).symm
  | cons d r ih =>
    intro b ha hb ca cb hv
    cases b with
    | nil => exact zero _ ha ca hv
    | cons e s =>
      have h1 := ha d List.mem_cons_self
      have h2 := hb e List.mem_cons_self
      have h3 : Dig r := fun x hx => ha x (List.mem_cons_of_mem _ hx)
      have h4 : Dig s := fun x hx => hb x (List.mem_cons_of_mem _ hx)
      simp only [val] at hv
      have hde : d = e := by omega
      rw [hde, ih s h3 h4 (tailc _ _ ca) (tailc _ _ cb) (by omega)]
theorem num_eq {v : Int} {p q : Bool × List Int} (hp : IsNum v p) (hq : IsNum v q) : p = q :=
  Prod.ext (by rw [hp.sign, hq.sign]) (canon_eq _ _ hp.1 hq.1 hp.2.1 hq.2.1 (by rw [hp.abs, hq.abs]))

/-- The program's digits are that text. -/
theorem Digits_l0 (n : Int) : ∀ (j k : Nat) (out : ByteArray) (x : Int) (l : List Int), Dig l → val l = (n.natAbs : Int) → 0 ≤ x → x ≤ 9223372036854775808 → x < 10 ^ j → out.size + j ≤ 100 → j < k →
    (∃ i, i ≤ l.length ∧ val (l.drop i) = x ∧ out.data.toList = txt (l.take i) ∧ (x = 0 → i = l.length)) → Canon l → ∃ r, ints_Digits.l0 k n out x = some r ∧ r.data.toList = sgn (decide (n < 0)) ++ txt l := by
  intro j
  induction j with
  | zero =>
    intro k out x l hd hv h0 hmax hx hs hk hi hc
    obtain ⟨k, rfl⟩ : ∃ j, k = j + 1 := ⟨k - 1, by omega⟩
    obtain ⟨i, hil, hvi, ho, hz⟩ := hi
    have hx0 : x = 0 := by rw [Int.pow_zero] at hx; omega
    have hie := hz hx0
    subst hx0
    rw [hie, List.take_length] at ho
    simp only [ints_Digits.l0]
    rw [if_neg (by omega)]
    by_cases hn : n < 0
    · rw [if_pos hn, if_pos (by omega)]
      refine ⟨_, rfl, ?_⟩
      rw [ByteArray.data_append]
      simp [ho, sgn, hn]
    · rw [if_neg hn]
      exact ⟨out, rfl, by simp [ho, sgn, hn]⟩
  | succ j ih =>
    intro k out x l hd hv h0 hmax hx hs hk hi hc
    by_cases hx0 : x = 0
    · exact ih k out x l hd hv h0 hmax (by rw [hx0]; exact Dec.pow_pos j) (by omega) (by omega) hi hc
    · obtain ⟨k, rfl⟩ : ∃ j, k = j + 1 := ⟨k - 1, by omega⟩
      obtain ⟨i, hil, hvi, ho, hz⟩ := hi
      have hlt : i < l.length := by
        rcases Nat.lt_or_ge i l.length with h | h
        · exact h
        · rw [List.drop_eq_nil_of_le h] at hvi; exact absurd hvi.symm hx0
      have hdr := hd.rd i
      have hstep := val_drop l i hlt
      have e1 : Int.tmod x 10 = rd l (i : Int) := by rw [Int.tmod_eq_emod_of_nonneg h0]; omega
      have e2 : IntKind.u64.wrap (Int.tdiv x 10) = val (l.drop (i + 1)) := by rw [Int.tdiv_eq_ediv_of_nonneg h0, IntKind.wrap_u64]; omega
      simp only [ints_Digits.l0]
      rw [if_pos (by omega), e1, enc_one _ hdr, e2, if_pos (by show 1 + out.size ≤ _; omega)]
      refine ih k _ _ l hd hv (val_nonneg (hd.drop _)) (by omega) ?_ ?_ (by omega) ⟨i + 1, hlt, rfl, ?_, ?_⟩ hc
      · rw [Int.pow_succ] at hx; omega
      · rw [ByteArray.size_append]; show 1 + out.size + j ≤ 100; omega
      · rw [ByteArray.data_append, List.take_succ_eq_append_getElem hlt]
        simp only [Array.toList_append, ho, txt, List.map_append, List.reverse_append, rd_at l i hlt]
        rfl
      · intro hz0
        by_cases hn : i + 1 = l.length
        · exact hn
        · have hcd : Canon (l.drop (i + 1)) := by
            rcases hc with h | h
            · rw [h] at hlt; cases hlt
            · right
              rw [List.length_drop, show (((l.length - (i + 1) : Nat) : Int) - 1) = ((l.length - (i + 1) - 1 : Nat) : Int) by omega]
              rw [show ((l.length : Int) - 1) = ((l.length - 1 : Nat) : Int) by omega] at h
              unfold rd at h ⊢
              simp only [Int.toNat_natCast, List.getD_eq_getElem?_getD, List.getElem?_drop] at h ⊢
              rwa [show i + 1 + (l.length - (i + 1) - 1) = l.length - 1 by omega]
          have := canon_len (hd.drop (i + 1)) hcd (n := 0) (by rw [Int.pow_zero]; omega)
          rw [List.length_drop] at this
          omega
theorem Digits_spec (n : Int) (hn : I64 n) (p : Bool × List Int) (hp : IsNum n p) (k : Nat) (hk : 40 < k) : ∃ r, ints_Digits.f k n = some r ∧ r.data.toList = text p := by
  unfold ints_Digits.f text
  have hlen : p.2.length ≤ 20 := hp.len (by unfold I64 at hn; omega)
  by_cases h : n = 0
  · have e : p = (false, []) := num_eq (v := n) hp (by rw [h]; exact IsNum.nought)
    rw [if_pos h, e]
    exact ⟨_, rfl, rfl⟩
  · have hne : ¬ p.2 = [] := fun h2 => by
      have := hp.abs
      rw [h2] at this
      simp [val] at this
      omega
    rw [if_neg h, if_neg hne, hp.sign]
    have hs : ints_size.f n = some (n.natAbs : Int) := if_pos hn
    rw [hs]
    simp only [Option.bind_some]
    unfold I64 at hn
    exact Digits_l0 n 20 k ⟨#[]⟩ _ p.2 hp.1 hp.abs (by omega) (by omega) (by omega) (by show 0 + 20 ≤ 100; omega) (by omega) ⟨0, by omega, by rw [List.drop_zero, hp.abs], rfl, fun h0 => by omega⟩ hp.2.1
end Go.Proofs.Ytkeecomghgmamaa.Pure
