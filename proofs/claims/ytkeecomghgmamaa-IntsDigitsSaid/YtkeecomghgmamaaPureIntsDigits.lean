/- The statement IntsDigits: of any number the digits, and of any text the number, or why there is none, are what the chapter says, and digits are read as their number; for every number of 64 bits and every text. -/
import Derived.Test.YtkeecomghgmamaaDigB
namespace Go.Proofs.Ytkeecomghgmamaa.Pure
open Go.RowKit Go.Proofs.Ytkeecomghgmamaa.PIntsDigits Go.Proofs.Ytkeecomghgmamaa.Dec Go.Proofs.YtkeecomghgmamaaW.PrintWords Go.Proofs.YtkeecomghgmamaaW.PrintLast
set_option linter.unusedVariables false

/-- A text whose digits are all digits is the text of its number, just if there is one, and no nought ahead of others. -/
theorem text_own (m : Bool) (ds : List UInt8) (hd : ∀ c ∈ ds, isd c) :
    text (m && decide (0 < tl (nums1 ds) (nums1 ds).length), (nums1 ds).take (tl (nums1 ds) (nums1 ds).length)) = sgn m ++ ds ↔ ¬ ds = [] ∧ ¬ ((ds.headD 0).toNat = 48 ∧ ¬ sgn m ++ ds = [48]) := by
  have hD := nums1_dig hd
  have hN := tl_num m (nums1 ds) hD
  generalize hp : (m && decide (0 < tl (nums1 ds) (nums1 ds).length), (nums1 ds).take (tl (nums1 ds) (nums1 ds).length)) = p at hN
  have hp1 : p.1 = (m && decide (0 < tl (nums1 ds) (nums1 ds).length)) := by rw [← hp]
  have hp2 : p.2 = (nums1 ds).take (tl (nums1 ds) (nums1 ds).length) := by rw [← hp]
  cases ds with
  | nil =>
    have e : p.2 = [] := by rw [hp2]; rfl
    unfold text
    rw [if_pos e]
    constructor
    · intro h; cases m <;> simp [sgn] at h
    · intro h; exact absurd rfl h.1
  | cons c r =>
    have hc := hd c List.mem_cons_self
    unfold isd at hc
    have hlast : nums1 (c :: r) = nums1 r ++ [(c.toNat : Int) - 48] := nums1_cons c r
    have hlen : (nums1 (c :: r)).length = r.length + 1 := by rw [nums1_len]; rfl
    have hrd : rd (nums1 (c :: r)) (r.length : Int) = (c.toNat : Int) - 48 := by
      rw [rd_at _ _ (by omega)]
      simp only [hlast]
      rw [List.getElem_append_right (by rw [nums1_len]; omega)]
      simp [nums1_len]
    by_cases h48 : c.toNat = 48
    · by_cases h1 : sgn m ++ c :: r = [48]
      · have e : text p = [48] := by
          cases m with
          | true => simp [sgn] at h1
          | false =>
            have h2 : c = 48 ∧ r = [] := by simpa [sgn] using h1
            obtain ⟨rfl, rfl⟩ := h2
            have e : p.2 = [] := by rw [hp2]; decide +kernel
            unfold text
            rw [if_pos e]
        rw [e, h1]
        exact ⟨fun _ => ⟨by simp, fun h => h.2 rfl⟩, fun _ => rfl⟩
      · constructor
        · intro h
          exfalso
          by_cases hn : p.2 = []
          · unfold text at h
            rw [if_pos hn] at h
            exact h1 h.symm
          · have hh := txt_head p.2 hN.1 hN.2.1 hn
            have hi := txt_isd p.2 hN.1
            obtain ⟨d, q, hdq⟩ : ∃ d q, txt p.2 = d :: q := by
              cases h2 : txt p.2 with
              | nil => have := congrArg List.length h2; simp [txt] at this; exact absurd this hn
              | cons d q => exact ⟨d, q, rfl⟩
            rw [hdq] at hh
            have hid := hi d (by rw [hdq]; exact List.mem_cons_self)
            unfold isd at hid
            unfold text at h
            rw [if_neg hn, hdq] at h
            have hne : ¬ d.toNat = 48 := hh
            cases hm1 : p.1 with
            | true =>
              rw [hm1] at h hp1
              have hm : m = true := by cases m <;> simp at hp1 ⊢
              subst hm
              have h3 : d = c := by simpa [sgn] using (List.cons.inj (List.append_cancel_left h)).1
              exact hne (by rw [h3]; exact h48)
            | false =>
              rw [hm1] at h
              cases m with
              | true =>
                have h3 : d = 45 := by simpa [sgn] using (List.cons.inj (show d :: q = 45 :: c :: r by simpa [sgn] using h)).1
                rw [h3] at hid
                exact absurd hid (by decide)
              | false =>
                have h3 : d = c := (List.cons.inj (show d :: q = c :: r by simpa [sgn] using h)).1
                exact hne (by rw [h3]; exact h48)
        · intro h
          exact absurd ⟨h48, h1⟩ h.2
    · have ht : tl (nums1 (c :: r)) (nums1 (c :: r)).length = r.length + 1 := by
        rw [hlen]
        simp only [tl]
        rw [if_neg (by rw [hrd]; omega)]
      have e1 : p.1 = m := by rw [hp1, ht]; simp
      have e2 : p.2 = nums1 (c :: r) := by rw [hp2, ht, ← hlen, List.take_length]
      have hn : ¬ p.2 = [] := by rw [e2, hlast]; simp
      have et : text p = sgn m ++ c :: r := by
        unfold text
        rw [if_neg hn, e1, e2, txt_nums1 _ hd]
      rw [et]
      exact ⟨fun _ => ⟨by simp, fun h => h48 h.1⟩, fun _ => rfl⟩

theorem j2_spec (s : ByteArray) (m : Bool) (ds : List UInt8) (hL : s.data.toList = sgn m ++ ds) (hs : s.size ≤ 300) (hd : ∀ c ∈ ds, isd c) (p : Bool × List Int)
    (hp : p = (m && decide (0 < tl (nums1 ds) (nums1 ds).length), (nums1 ds).take (tl (nums1 ds) (nums1 ds).length))) (k : Nat) (hk : 400 < k) :
    wayfarerref01_Parse.j2 k s p.1 p.2 = some (if ¬ ds = [] ∧ ¬ ((ds.headD 0).toNat = 48 ∧ ¬ sgn m ++ ds = [48]) then valued m ds else (0, 2)) := by
  obtain ⟨k, rfl⟩ : ∃ j, k = j + 1 := ⟨k - 1, by omega⟩
  have hN := tl_num m (nums1 ds) (nums1_dig hd)
  have hown := text_own m ds hd
  rw [← hp] at hN hown
  have hlen : p.2.length ≤ 300 := by
    have h1 := congrArg List.length hL
    have h2 : p.2.length ≤ ds.length := by rw [hp]; show ((nums1 ds).take _).length ≤ _; rw [List.length_take, nums1_len]; exact Nat.min_le_right _ _
    rw [List.length_append, ← size_list] at h1
    omega
  obtain ⟨t, ht, htx⟩ := Text_spec p hN.1 (by omega) k (by omega)
  simp only [wayfarerref01_Parse.j2]
  rw [ht]
  simp only [Option.bind_some]
  rw [ByteArray.toList_eq, ByteArray.toList_eq, htx, hL]
  by_cases h : text p = sgn m ++ ds
  · rw [if_pos h, if_pos (hown.mp h), told_spec p.1 p.2 hN.1 (by omega) k (by omega), hN.2.2.2]
    unfold valued
    by_cases h2 : I64 (num m (nums1 ds))
    · rw [if_pos h2]; rfl
    · rw [if_neg h2]; rfl
  · rw [if_neg h, if_neg (fun h2 => h (hown.mpr h2))]

theorem bt_nat (s : ByteArray) (i : Nat) (h : i < s.data.toList.length) : bt s (i : Int) = ((s.data.toList[i]).toNat : Int) := by
  unfold bt
  rw [dif_pos (by rw [size_list]; simpa using h)]
  rfl
theorem wrap_digit (x : Nat) (h0 : 48 ≤ x) (h1 : x ≤ 57) : wrap64 (wrap64 (x : Int) - 48) = (x : Int) - 48 := by
  have e : wrap64 (x : Int) = x := by unfold wrap64; omega
  rw [e]; unfold wrap64; omega
theorem room (x : Int) (ds : List UInt8) (i : Nat) (h : ds.length ≤ 300) : [x].length + (nums1 (ds.take i)).length < 17592186044416 := by
  rw [nums1_len, List.length_take, List.length_singleton]
  have : min i ds.length ≤ 300 := Nat.le_trans (Nat.min_le_right _ _) h
  omega
/-- The document's loop, behind the sign. -/
theorem ref_l0 (s : ByteArray) (m : Bool) (ds : List UInt8) (hL : s.data.toList = sgn m ++ ds) (hsp : m = true ∨ ¬ (ds.headD 0).toNat = 45) (hs : s.size ≤ 300) :
    ∀ (j k i : Nat), ds.length - i = j → i ≤ ds.length → (∀ c ∈ ds.take i, isd c) → 2 * j + 500 < k →
    wayfarerref01_Parse.l0 k s (((sgn m).length + i : Nat) : Int) false (nums1 (ds.take i)) = some (if ds.all ints_Parse.dig = true then (if ¬ ds = [] ∧ ¬ ((ds.headD 0).toNat = 48 ∧ ¬ sgn m ++ ds = [48]) then valued m ds else (0, 2)) else (0, 2)) := by
  have hsz : s.size = (sgn m).length + ds.length := by rw [size_list, hL, List.length_append]
  intro j
  induction j with
  | zero =>
    intro k i hj hi ha hk
    obtain ⟨k, rfl⟩ : ∃ j, k = j + 1 := ⟨k - 1, by omega⟩
    obtain rfl : i = ds.length := by omega
    rw [List.take_length] at ha ⊢
    have hall : ds.all ints_Parse.dig = true := List.all_eq_true.mpr fun c hc => (dig_iff c).mpr (ha c hc)
    simp only [wayfarerref01_Parse.l0]
    rw [if_neg (by omega), if_pos hall]
    have hdl : (nums1 ds).length ≤ 300 := by rw [nums1_len]; omega
    by_cases h0 : (s.size : Int) > 0
    · rw [if_pos h0, if_pos (by omega)]
      have hm : (bt s 0 == 45) = m := by
        rw [bt_head, hL]
        cases m with
        | true => rfl
        | false =>
          rcases hsp with h | h
          · cases h
          · have : ¬ ((ds.headD 0).toNat : Int) = 45 := by omega
            simpa [sgn] using this
      rw [hm, trim_spec m (nums1 ds) (by omega) k (by omega)]
      simp only [Option.bind_some]
      exact j2_spec s m ds hL hs ha _ rfl k (by omega)
    · rw [if_neg h0]
      have hm : m = false := by cases m with
        | true => simp [sgn] at hsz; omega
        | false => rfl
      subst hm
      rw [trim_spec false (nums1 ds) (by omega) k (by omega)]
      simp only [Option.bind_some]
      exact j2_spec s false ds hL hs ha _ rfl k (by omega)
  | succ j ih =>
    intro k i hj hi ha hk
    obtain ⟨k, rfl⟩ : ∃ j, k = j + 2 := ⟨k - 2, by omega⟩
    have hlt : i < ds.length := by omega
    have hbt : bt s (((sgn m).length + i : Nat) : Int) = ((ds[i]).toNat : Int) := by
      rw [bt_nat s _ (by rw [hL, List.length_append]; omega)]
      simp only [hL]
      rw [List.getElem_append_right (by omega)]
      simp
    have hw : wrap64 ((((sgn m).length + i : Nat) : Int) + 1) = (((sgn m).length + (i + 1) : Nat) : Int) := by unfold wrap64; omega
    have hno : ¬ isd ds[i] → ¬ ds.all ints_Parse.dig = true := fun h h2 => h ((dig_iff _).mp (List.all_eq_true.mp h2 _ (List.getElem_mem hlt)))
    simp only [wayfarerref01_Parse.l0]
    rw [if_pos (by omega), if_pos (by omega), hbt]
    have hj1 : wayfarerref01_Parse.j1 (k + 1) s (((sgn m).length + i : Nat) : Int) false false (nums1 (ds.take i)) = some (if ds.all ints_Parse.dig = true then (if ¬ ds = [] ∧ ¬ ((ds.headD 0).toNat = 48 ∧ ¬ sgn m ++ ds = [48]) then valued m ds else (0, 2)) else (0, 2)) := by
      simp only [wayfarerref01_Parse.j1]
      rw [if_neg (by decide), if_pos (by omega), if_pos (by omega), hbt]
      by_cases h1 : ((ds[i]).toNat : Int) < 48
      · rw [if_pos h1, if_neg (hno (by unfold isd; omega))]
      · rw [if_neg h1]
        by_cases h2 : ((ds[i]).toNat : Int) > 57
        · rw [if_pos h2, if_neg (hno (by unfold isd; omega))]
        · rw [if_neg h2]
          simp only [Option.bind_some]
          rw [wrap_digit _ (by omega) (by omega), if_pos (room _ _ _ (by omega)), hw]
          have hn : [((ds[i]).toNat : Int) - 48] ++ nums1 (ds.take i) = nums1 (ds.take (i + 1)) := by
            rw [List.take_succ_eq_append_getElem hlt]
            unfold nums1
            rw [List.map_append, List.reverse_append]
            rfl
          rw [hn]
          refine ih k (i + 1) (by omega) (by omega) ?_ (by omega)
          rw [List.take_succ_eq_append_getElem hlt]
          intro c hc
          rcases List.mem_append.mp hc with h | h
          · exact ha c h
          · rw [List.mem_singleton.mp h]; unfold isd; omega
    by_cases h45 : ((ds[i]).toNat : Int) = 45
    · rw [if_pos h45]
      have hz : ((((sgn m).length + i : Nat) : Int) == 0) = false := by
        apply beq_eq_false_iff_ne.mpr
        intro h
        have h0 : (sgn m).length = 0 ∧ i = 0 := by omega
        obtain ⟨h0, rfl⟩ := h0
        rcases hsp with h1 | h1
        · rw [h1] at h0; simp [sgn] at h0
        · apply h1
          cases ds with
          | nil => simp at hlt
          | cons c r => simp at h45 ⊢; omega
      rw [hz]; exact hj1
    · rw [if_neg h45]; exact hj1
theorem ref_Parse_spec (s : ByteArray) (hs : s.size ≤ 300) (k : Nat) (hk : 1300 < k) : wayfarerref01_Parse.f k s = some (parse s.data.toList) := by
  have fin : ∀ (m : Bool) (ds : List UInt8), sp s.data.toList = (m, ds) → (if ds.all ints_Parse.dig = true then (if ¬ ds = [] ∧ ¬ ((ds.headD 0).toNat = 48 ∧ ¬ sgn m ++ ds = [48]) then valued m ds else (0, 2)) else (0, 2)) = parse s.data.toList := by
    intro m ds h
    have hL := sgn_sp s.data.toList
    rw [h] at hL
    dsimp only at hL
    unfold parse
    rw [h]
    dsimp only
    rw [← hL]
    by_cases h1 : ds = []
    · rw [if_pos h1, if_pos (by rw [h1]; rfl), if_neg (fun h2 => h2.1 h1)]
    · rw [if_neg h1]
      by_cases h2 : (ds.headD 0).toNat = 48 ∧ ¬ s.data.toList = [48]
      · rw [if_pos h2]
        by_cases h3 : ds.all ints_Parse.dig = true
        · rw [if_pos h3, if_neg (fun h4 => h4.2 h2)]
        · rw [if_neg h3]
      · rw [if_neg h2]
        by_cases h3 : ds.all ints_Parse.dig = true
        · rw [if_pos h3, if_pos h3, if_pos ⟨h1, h2⟩]
        · rw [if_neg h3, if_neg h3]
  unfold wayfarerref01_Parse.f
  have hL := sgn_sp s.data.toList
  obtain ⟨m, ds, hsp⟩ : ∃ m ds, sp s.data.toList = (m, ds) := ⟨_, _, rfl⟩
  rw [hsp] at hL
  dsimp only at hL
  have hsz : s.size = (sgn m).length + ds.length := by rw [size_list, hL, List.length_append]
  cases m with
  | false =>
    have hh : ¬ (ds.headD 0).toNat = 45 := by
      unfold sp at hsp
      split at hsp
      · cases hsp; decide
      · split at hsp
        · cases hsp
        · cases hsp; assumption
    have := ref_l0 s false ds hL (.inr hh) hs ds.length k 0 (by omega) (by omega) (by simp) (by simp [sgn] at hsz; omega)
    rw [fin false ds hsp] at this
    exact this
  | true =>
    obtain ⟨k, rfl⟩ : ∃ j, k = j + 2 := ⟨k - 2, by omega⟩
    have hlt : 0 < s.size := by simp [sgn] at hsz; omega
    have hb : bt s 0 = 45 := by rw [bt_head, hL]; rfl
    simp only [wayfarerref01_Parse.l0]
    rw [if_pos (by omega), if_pos (by omega), hb, if_pos rfl]
    have e0 : ((0 : Int) == 0) = true := rfl
    rw [e0]
    simp only [wayfarerref01_Parse.j1]
    rw [if_pos trivial]
    have := ref_l0 s true ds hL (.inl rfl) hs ds.length k 0 (by omega) (by omega) (by simp) (by simp [sgn] at hsz; omega)
    rw [fin true ds hsp] at this
    have ew : wrap64 (0 + 1) = (((sgn true).length + 0 : Nat) : Int) := by decide +kernel
    rw [ew]
    exact this
theorem IntsDigits : wayfarerlaw01_IntsDigits.Pure := by
  intro n s wn hsz
  have hn := wf_i64 wn
  refine ⟨2000, ?_⟩
  have hkn := known_ev 2000 (by omega)
  unfold wayfarerlaw01_IntsDigits.f
  by_cases h : (s.size : Int) > 300
  · rw [if_pos h, hkn]; rfl
  · rw [if_neg h, Parse_spec s (by omega), ref_Parse_spec s (by omega) 2000 (by omega)]
    obtain ⟨p, hp, hN⟩ := Of_spec n hn 2000 (by omega)
    obtain ⟨r, hr, hrt⟩ := Digits_spec n hn p hN 2000 (by omega)
    have hlen : p.2.length ≤ 20 := hN.len (by unfold I64 at hn; omega)
    obtain ⟨t, ht, htt⟩ := Text_spec p hN.1 (by omega) 2000 (by omega)
    have hd : wayfarerref01_Digits.f 2000 n = some t := by
      unfold wayfarerref01_Digits.f
      rw [hp]
      simp only [Option.bind_some]
      rw [ht]
      rfl
    have hrs : r.size ≤ 140737488351232 := by
      rw [size_list, hrt]
      unfold text txt sgn
      split
      · simp
      · split <;> simp <;> omega
    rw [hr, hd]
    simp only [Option.bind_some]
    rw [Parse_spec r hrs, hrt, text_parse n hn p hN]
    simp only [Option.bind_some, if_true]
    rw [ByteArray.toList_eq, ByteArray.toList_eq, hrt, htt, if_pos rfl, hkn]
    rfl
end Go.Proofs.Ytkeecomghgmamaa.Pure
