/- A number's text, as bytes, and what it is read as: the same number. -/
import Derived.Test.YtildiabokdfjgaaLexCLexerNumbers
import Derived.Lib.Strings
namespace Go.Proofs.Ytildiabokdfjgaa.DigN
open Go.RowKit Go.Proofs.Ytildiabokdfjgaa.PLexerNumbers Go.Proofs.Ytildiabokdfjgaa.Dec Go.Proofs.YtildiabokdfjgaaW.PrintWords Go.Proofs.YtildiabokdfjgaaW.PrintLast
set_option linter.unusedVariables false
set_option linter.unusedSimpArgs false

theorem wf_i64 {a : Int} (h : (Lit.int .i64 a).wf = true) : I64 a := by
  have h2 : IntKind.i64.min ≤ a ∧ a ≤ IntKind.i64.max := by simpa [Lit.wf] using h
  have h3 : IntKind.i64.min = -9223372036854775808 := by decide +kernel
  have h4 : IntKind.i64.max = 9223372036854775807 := by decide +kernel
  unfold I64
  omega

theorem add_spec {a b : Int} (ha : I64 a) (hb : I64 b) : ints_add.f a b = some (wrap64 (a + b), decide (I64 (a + b))) := by
  unfold ints_add.f
  refine congrArg some (Prod.ext rfl ?_)
  show (decide (wrap64 (a + b) > a) == decide (b > 0)) = decide (I64 (a + b))
  unfold I64 at ha hb
  by_cases h0 : b > 0
  · by_cases h1 : a + b ≤ 9223372036854775807
    · have : wrap64 (a + b) = a + b := by unfold wrap64; omega
      rw [this, decide_eq_true (by omega : a + b > a), decide_eq_true h0, decide_eq_true (by unfold I64; omega : I64 (a + b))]; rfl
    · have : ¬ wrap64 (a + b) > a := by unfold wrap64; omega
      rw [decide_eq_false this, decide_eq_true h0, decide_eq_false (by unfold I64; omega : ¬ I64 (a + b))]; rfl
  · by_cases h1 : -9223372036854775808 ≤ a + b
    · have : wrap64 (a + b) = a + b := by unfold wrap64; omega
      rw [this, decide_eq_false (by omega : ¬ a + b > a), decide_eq_false h0, decide_eq_true (by unfold I64; omega : I64 (a + b))]; rfl
    · have : wrap64 (a + b) > a := by unfold wrap64; omega
      rw [decide_eq_true this, decide_eq_false h0, decide_eq_false (by unfold I64; omega : ¬ I64 (a + b))]; rfl
theorem wrap_in {a : Int} (h : I64 a) : wrap64 a = a := by unfold I64 at h; unfold wrap64; omega

theorem mul_spec {a b : Int} (ha : I64 a) (hb : I64 b) : ints_mul.f a b = some (if I64 (a * b) then (a * b, true) else (0, false)) := by
  unfold ints_mul.f; rw [if_pos ⟨ha, hb⟩]
theorem i64_nought : I64 0 := by unfold I64; omega
/-- Digits, the lowest first, as bytes, the highest first. -/
def byte (d : Int) : UInt8 := UInt8.ofNat (48 + d.toNat)
def txt (l : List Int) : List UInt8 := (l.map byte).reverse
def sgn (m : Bool) : List UInt8 := if m = true then [45] else []
/-- The text of a number. -/
def text (p : Bool × List Int) : List UInt8 := if p.2 = [] then [48] else sgn p.1 ++ txt p.2
theorem byte_nat {d : Int} (h : 0 ≤ d ∧ d ≤ 9) : (byte d).toNat = 48 + d.toNat := by
  unfold byte; rw [UInt8.toNat_ofNat_of_lt' (by show _ < 256; omega)]
theorem ba_ext {a b : ByteArray} (h : a.data.toList = b.data.toList) : a = b := by
  cases a; cases b; simp at h; congr 1
theorem ba_eta (a : ByteArray) : (⟨a.data.toList.toArray⟩ : ByteArray) = a := by cases a; simp

theorem strOf_one (d : Int) (h : 0 ≤ d ∧ d ≤ 9) : strOfNums [(wrap64 (48 + d)) % 256] = ⟨#[byte d]⟩ := by
  obtain ⟨n, rfl⟩ := Int.eq_ofNat_of_zero_le h.1
  have : n ≤ 9 := by omega
  have e : (wrap64 (48 + (n : Int))) % 256 = ((48 + n : Nat) : Int) := by unfold wrap64; omega
  rw [e]
  have h2 : n = 0 ∨ n = 1 ∨ n = 2 ∨ n = 3 ∨ n = 4 ∨ n = 5 ∨ n = 6 ∨ n = 7 ∨ n = 8 ∨ n = 9 := by omega
  rcases h2 with rfl | rfl | rfl | rfl | rfl | rfl | rfl | rfl | rfl | rfl <;> decide +kernel
/-- Two numbers that are the same have the same digits. -/
theorem canon_eq : ∀ (a b : List Int), Dig a → Dig b → Canon a → Canon b → val a = val b → a = b := by
  have tailc : ∀ (d : Int) (r : List Int), Canon (d :: r) → Canon r := by
    intro d r h
    rcases h with h | h
    · cases h
    · by_cases hr : r = []
      · exact .inl hr
      · right
        have hl : 0 < r.length := List.length_pos_iff.mpr hr
        rw [show (((d :: r).length : Int) - 1) = ((r.length - 1 + 1 : Nat) : Int) by simp; omega] at h
        rw [show ((r.length : Int) - 1) = ((r.length - 1 : Nat) : Int) by omega]
        unfold rd at h ⊢
        simpa using h
  have zero : ∀ r : List Int, Dig r → Canon r → val r = 0 → r = [] := fun r hd hc hv => by
    have := canon_len hd hc (n := 0) (by rw [Int.pow_zero]; omega)
    exact List.eq_nil_of_length_eq_zero (by omega)
  intro a
  induction a with
  | nil => intro b _ hb _ cb hv; exact (zero b hb cb hv.symm).symm
  | cons d r ih =>
    intro b ha hb ca cb hv
    cases b with
    | nil => exact zero _ ha ca hv
    | cons e s =>
      have h1 := ha d List.mem_cons_self
      have h2 := hb e List.mem_cons_self
      have h3 : Dig r := fun x hx => ha x (List.mem_cons_of_mem _ hx)
      have h4 : Dig s := fun x hx => hb x (List.mem_cons_of_mem _ hx)
      simp only [val] at hv
      have hde : d = e := by omega
      rw [hde, ih s h3 h4 (tailc _ _ ca) (tailc _ _ cb) (by omega)]
theorem num_eq {v : Int} {p q : Bool × List Int} (hp : IsNum v p) (hq : IsNum v q) : p = q :=
  Prod.ext (by rw [hp.sign, hq.sign]) (canon_eq _ _ hp.1 hq.1 hp.2.1 hq.2.1 (by rw [hp.abs, hq.abs]))

/-- The sign, and what stands behind it. -/
def sp (L : List UInt8) : Bool × List UInt8 := match L with
  | [] => (false, [])
  | c :: r => if c.toNat = 45 then (true, r) else (false, c :: r)
def nums1 (ds : List UInt8) : List Int := (ds.map fun c => (c.toNat : Int) - 48).reverse
def isd (c : UInt8) : Prop := 48 ≤ c.toNat ∧ c.toNat ≤ 57
def valued (m : Bool) (ds : List UInt8) : Int × Int := if I64 (num m (nums1 ds)) then (num m (nums1 ds), 0) else (0, 10)
/-- What a text is read as. -/
def parse (L : List UInt8) : Int × Int :=
  if (sp L).2 = [] then (0, 2) else if ((sp L).2.headD 0).toNat = 48 ∧ ¬ L = [48] then (0, 2) else
  if (sp L).2.all ints_Parse.dig = true then valued (sp L).1 (sp L).2 else (0, 2)

theorem dig_iff (c : UInt8) : ints_Parse.dig c = true ↔ isd c := by unfold ints_Parse.dig isd; simp
theorem nums1_cons (c : UInt8) (r : List UInt8) : nums1 (c :: r) = nums1 r ++ [(c.toNat : Int) - 48] := by simp [nums1]
theorem nums1_len (ds : List UInt8) : (nums1 ds).length = ds.length := by simp [nums1]
theorem nums1_dig {ds : List UInt8} (h : ∀ c ∈ ds, isd c) : Dig (nums1 ds) := by
  intro d hd
  simp only [nums1, List.mem_reverse, List.mem_map] at hd
  obtain ⟨c, hc, rfl⟩ := hd
  have := h c hc
  unfold isd at this
  omega
theorem sgn_sp (L : List UInt8) : L = sgn (sp L).1 ++ (sp L).2 := by
  unfold sp sgn
  cases L with
  | nil => simp
  | cons c r =>
    by_cases h : c.toNat = 45
    · have : c = 45 := UInt8.toNat_inj.mp h
      simp [this]
    · simp [h]

theorem l1_spec (m : Bool) : ∀ (ds : List UInt8) (n : Int), (∀ c ∈ ds, isd c) → I64 n → (m = true → n ≤ 0) → (m = false → 0 ≤ n) →
    ints_Parse.l1 m ds n = some (if I64 (n * 10 ^ ds.length + num m (nums1 ds)) then (n * 10 ^ ds.length + num m (nums1 ds), 0) else (0, 10)) := by
  intro ds
  induction ds with
  | nil =>
    intro n _ hn _ _
    have : n * 10 ^ ([] : List UInt8).length + num m (nums1 []) = n := by cases m <;> simp [nums1, num, val]
    rw [this, if_pos hn]; rfl
  | cons c r ih =>
    intro n hc hn hm0 hm1
    have hcd := hc c List.mem_cons_self
    have hr := fun x hx => hc x (List.mem_cons_of_mem _ hx)
    unfold isd at hcd
    have hvr := val_nonneg (nums1_dig hr)
    have hp := Dec.pow_pos r.length
    obtain ⟨e, he⟩ : ∃ e : Int, e = if m = true then -((c.toNat : Int) - 48) else (c.toNat : Int) - 48 := ⟨_, rfl⟩
    have hF : n * 10 ^ (c :: r).length + num m (nums1 (c :: r)) = (n * 10 + e) * 10 ^ r.length + num m (nums1 r) := by
      rw [nums1_cons, List.length_cons, Int.pow_succ, Int.add_mul, he]
      unfold num
      rw [val_append, val_one, nums1_len]
      cases m with
      | true =>
        simp only [if_true]
        rw [Int.neg_add, Int.neg_mul, Int.mul_comm ((c.toNat : Int) - 48), ← Int.mul_assoc n, Int.mul_comm (n * 10 ^ r.length) 10, Int.mul_assoc n 10, Int.mul_comm 10 (10 ^ r.length)]
        rw [← Int.mul_assoc n, Int.mul_comm (n * 10 ^ r.length) 10]
        omega
      | false =>
        simp only [Bool.false_eq_true, if_false]
        rw [Int.mul_comm ((c.toNat : Int) - 48), ← Int.mul_assoc n, Int.mul_assoc n 10, Int.mul_comm 10 (10 ^ r.length), ← Int.mul_assoc n]
        omega
    rw [hF]
    have he9 : (m = true → -9 ≤ e ∧ e ≤ 0) ∧ (m = false → 0 ≤ e ∧ e ≤ 9) := by
      constructor
      · intro h; rw [he, if_pos h]; omega
      · intro h; rw [he, h, if_neg (by decide)]; omega
    have hbig : ¬ I64 (n * 10 + e) → ¬ I64 ((n * 10 + e) * 10 ^ r.length + num m (nums1 r)) := by
      intro h
      unfold I64 at *
      unfold num
      cases m with
      | true =>
        have h1 := (he9.1 rfl)
        have h2 := hm0 rfl
        have h3 : (n * 10 + e) * 10 ^ r.length ≤ (n * 10 + e) * 1 := Int.mul_le_mul_of_nonpos_left (by omega) (by omega)
        simp only [if_true]
        omega
      | false =>
        have h1 := (he9.2 rfl)
        have h2 := hm1 rfl
        have h3 : (n * 10 + e) * 1 ≤ (n * 10 + e) * 10 ^ r.length := Int.mul_le_mul_of_nonneg_left (by omega) (by omega)
        simp only [Bool.false_eq_true, if_false]
        omega
    have hI10 : I64 10 := by unfold I64; omega
    have hIe : I64 e := by unfold I64; cases m with
      | true => have := he9.1 rfl; omega
      | false => have := he9.2 rfl; omega
    unfold ints_Parse.l1
    rw [mul_spec hn hI10, ← he]
    by_cases h1 : I64 (n * 10)
    · rw [if_pos h1]
      simp only [Option.bind_some]
      rw [add_spec h1 hIe]
      simp only [Option.bind_some, if_true]
      by_cases h2 : I64 (n * 10 + e)
      · rw [if_pos (decide_eq_true h2), wrap_in h2]
        refine ih _ hr h2 ?_ ?_
        · intro h; have := he9.1 h; have := hm0 h; omega
        · intro h; have := he9.2 h; have := hm1 h; omega
      · rw [if_neg (by simpa using h2), if_neg (hbig h2)]
    · rw [if_neg h1]
      simp only [Option.bind_some]
      rw [add_spec i64_nought hIe]
      simp only [Option.bind_some]
      rw [if_neg (by decide), if_neg (hbig ?_)]
      unfold I64 at *
      intro h
      cases m with
      | true => have := he9.1 rfl; have := hm0 rfl; omega
      | false => have := he9.2 rfl; have := hm1 rfl; omega

theorem loops_spec (m : Bool) (d : ByteArray) : ints_Parse.loops m d = some (if d.data.toList.all ints_Parse.dig = true then valued m d.data.toList else (0, 2)) := by
  unfold ints_Parse.loops
  by_cases h : d.data.toList.all ints_Parse.dig = true
  · rw [if_pos h, if_pos h, l1_spec m _ 0 (fun c hc => (dig_iff c).mp (List.all_eq_true.mp h c hc)) i64_nought (fun _ => Int.le_refl _) (fun _ => Int.le_refl _)]
    rw [Int.zero_mul, Int.zero_add]; rfl
  · rw [if_neg h, if_neg h]
theorem bt_head (s : ByteArray) : bt s 0 = ((s.data.toList.headD 0).toNat : Int) := by
  obtain ⟨⟨l⟩⟩ := s
  cases l with
  | nil => rfl
  | cons c r => rfl
theorem size_list (s : ByteArray) : s.size = s.data.toList.length := by simp
theorem Parse_spec (s : ByteArray) (hs : s.size ≤ 140737488351232) : ints_Parse.f s = some (parse s.data.toList) := by
  have rest : ∀ (m : Bool) (d : ByteArray), sp s.data.toList = (m, d.data.toList) → ints_Parse.rest m d s = some (parse s.data.toList) := by
    intro m d h
    unfold ints_Parse.rest parse
    rw [h, loops_spec, bt_head]
    dsimp only
    by_cases h1 : d.size = 0
    · rw [if_pos h1, if_pos (by rw [size_list] at h1; exact List.eq_nil_of_length_eq_zero h1)]
    · have hne : ¬ d.data.toList = [] := fun h2 => h1 (by rw [size_list, h2]; rfl)
      rw [if_neg h1, if_neg hne, ByteArray.toList_eq]
      by_cases h2 : ((d.data.toList.headD 0).toNat : Int) = 48 ∧ ¬ s.data.toList = [48]
      · rw [if_pos h2, if_pos ⟨by omega, h2.2⟩]
      · have h3 : ¬ ((d.data.toList.headD 0).toNat = 48 ∧ ¬ s.data.toList = [48]) := fun h3 => h2 ⟨by omega, h3.2⟩
        rw [if_neg h2, if_neg h3]
  unfold ints_Parse.f
  rw [if_neg (by omega)]
  by_cases h0 : s.size = 0
  · rw [if_pos h0]
    have : s.data.toList = [] := List.eq_nil_of_length_eq_zero (by rw [← size_list]; exact h0)
    rw [this]; rfl
  · rw [if_neg h0, bt_head]
    have hne : ∃ c r, s.data.toList = c :: r := by
      cases h : s.data.toList with
      | nil => exact absurd (by rw [size_list, h]; rfl) h0
      | cons c r => exact ⟨c, r, rfl⟩
    obtain ⟨c, r, hcr⟩ := hne
    by_cases h1 : ((s.data.toList.headD 0).toNat : Int) = 45
    · rw [if_pos h1]
      refine rest true _ ?_
      rw [Lib.extract_data, hcr]
      rw [hcr] at h1
      have hsz : s.size - 1 = r.length := by rw [size_list, hcr]; simp
      have hc : c.toNat = 45 := by have h2 : (c.toNat : Int) = 45 := h1; omega
      rw [hsz]
      simp [sp, hc]
    · rw [if_neg h1]
      refine rest false s ?_
      rw [hcr] at h1 ⊢
      have hc : ¬ c.toNat = 45 := fun h => h1 (by show (c.toNat : Int) = 45; omega)
      simp [sp, hc]

/-- Digits and what they are read from. -/
theorem nums1_txt (l : List Int) (hd : Dig l) : nums1 (txt l) = l := by
  unfold nums1 txt
  rw [List.map_reverse, List.reverse_reverse, List.map_map]
  conv => rhs; rw [← List.map_id l]
  apply List.map_congr_left
  intro d h
  have := hd d h
  show ((byte d).toNat : Int) - 48 = d
  rw [byte_nat this]; omega
theorem txt_nums1 (ds : List UInt8) (h : ∀ c ∈ ds, isd c) : txt (nums1 ds) = ds := by
  unfold nums1 txt
  rw [List.map_reverse, List.reverse_reverse, List.map_map]
  conv => rhs; rw [← List.map_id ds]
  apply List.map_congr_left
  intro c hc
  have := h c hc
  unfold isd at this
  apply UInt8.toNat_inj.mp
  show (byte ((c.toNat : Int) - 48)).toNat = c.toNat
  rw [byte_nat (by omega)]; omega
theorem txt_isd (l : List Int) (hd : Dig l) : ∀ c ∈ txt l, isd c := by
  intro c hc
  simp only [txt, List.mem_reverse, List.mem_map] at hc
  obtain ⟨d, h, rfl⟩ := hc
  have := hd d h
  unfold isd
  rw [byte_nat this]; omega
/-- The first byte is no nought, where none stands behind the digits. -/
theorem txt_head (l : List Int) (hd : Dig l) (hc : Canon l) (hne : ¬ l = []) : ¬ ((txt l).headD 0).toNat = 48 := by
  rcases hc with h | h
  · exact absurd h hne
  · obtain ⟨k, hk⟩ : ∃ k, l.length = k + 1 := ⟨l.length - 1, by have := List.length_pos_iff.mpr hne; omega⟩
    rw [hk, show (((k + 1 : Nat) : Int) - 1) = (k : Int) by omega] at h
    have e : txt l = byte (rd l (k : Int)) :: txt (l.take k) := by
      have h2 := List.take_succ_eq_append_getElem (l := l) (i := k) (by omega)
      rw [← hk, List.take_length] at h2
      conv => lhs; rw [h2]
      unfold txt
      rw [List.map_append, List.reverse_append, rd_at l k (by omega)]
      rfl
    rw [e]
    have := hd.rd k
    show ¬ (byte (rd l (k : Int))).toNat = 48
    rw [byte_nat this]; omega
theorem text_parse (n : Int) (hn : I64 n) (p : Bool × List Int) (hp : IsNum n p) : parse (text p) = (n, 0) := by
  by_cases h : p.2 = []
  · have hv := hp.abs
    rw [h] at hv
    simp [val] at hv
    have h0 : n = 0 := by omega
    unfold text
    rw [if_pos h, h0]
    decide +kernel
  · have hh := txt_head p.2 hp.1 hp.2.1 h
    have hi := txt_isd p.2 hp.1
    obtain ⟨c, r, hcr⟩ : ∃ c r, txt p.2 = c :: r := by
      cases h2 : txt p.2 with
      | nil => have := congrArg List.length h2; simp [txt] at this; exact absurd this h
      | cons c r => exact ⟨c, r, rfl⟩
    have hc := hi c (by rw [hcr]; exact List.mem_cons_self)
    unfold isd at hc
    have hsp : sp (text p) = (p.1, txt p.2) := by
      unfold text
      rw [if_neg h, hcr]
      cases hm : p.1 with
      | true => simp [sgn, sp]
      | false => have : ¬ c.toNat = 45 := by omega
                 simp [sgn, sp, this]
    unfold parse
    rw [hsp]
    show (if txt p.2 = [] then (0, 2) else if ((txt p.2).headD 0).toNat = 48 ∧ ¬ text p = [48] then (0, 2) else if (txt p.2).all ints_Parse.dig = true then valued p.1 (txt p.2) else (0, 2)) = _
    rw [if_neg (by rw [hcr]; simp), if_neg (fun h3 => hh h3.1), if_pos (List.all_eq_true.mpr fun c hc => (dig_iff c).mpr (hi c hc))]
    unfold valued
    rw [nums1_txt p.2 hp.1, hp.2.2.2, if_pos hn]
/-- A number's digits, the lowest first. -/
def digs (m : Nat) : List Int := if h : m = 0 then [] else (m % 10 : Nat) :: digs (m / 10)
theorem digs_zero : digs 0 = [] := by unfold digs; rw [dif_pos rfl]
theorem digs_pos {m : Nat} (h : ¬ m = 0) : digs m = ((m % 10 : Nat) : Int) :: digs (m / 10) := by rw [digs, dif_neg h]
theorem digs_all (m : Nat) : Dig (digs m) ∧ val (digs m) = (m : Int) ∧ Canon (digs m) ∧ (¬ m = 0 → ¬ digs m = []) := by
  induction m using Nat.strongRecOn with
  | _ m ih =>
    by_cases h : m = 0
    · subst h
      rw [digs_zero]
      exact ⟨Dig.nil, rfl, .inl rfl, fun h => absurd rfl h⟩
    · obtain ⟨h1, h2, h3, h4⟩ := ih (m / 10) (by omega)
      rw [digs_pos h]
      refine ⟨?_, ?_, ?_, fun _ => by simp⟩
      · intro d hd
        rcases List.mem_cons.1 hd with rfl | hd
        · omega
        · exact h1 d hd
      · simp only [val, h2]
        omega
      · right
        by_cases hm : m / 10 = 0
        · rw [hm, digs_zero]
          show ¬ rd [((m % 10 : Nat) : Int)] 0 = 0
          have : rd [((m % 10 : Nat) : Int)] 0 = ((m % 10 : Nat) : Int) := rfl
          rw [this]
          omega
        · have hl : 0 < (digs (m / 10)).length := List.length_pos_iff.mpr (h4 hm)
          rcases h3 with h3 | h3
          · exact absurd h3 (h4 hm)
          · rw [show ((((m % 10 : Nat) : Int) :: digs (m / 10)).length : Int) - 1 = (((digs (m / 10)).length - 1 + 1 : Nat) : Int) by simp; omega]
            rw [show ((digs (m / 10)).length : Int) - 1 = (((digs (m / 10)).length - 1 : Nat) : Int) by omega] at h3
            unfold rd at h3 ⊢
            simpa using h3
def numP (n : Int) : Bool × List Int := (decide (n < 0), digs n.natAbs)
theorem numP_is (n : Int) : IsNum n (numP n) := by
  obtain ⟨h1, h2, h3, h4⟩ := digs_all n.natAbs
  refine ⟨h1, h3, fun h => h4 (by have : n < 0 := of_decide_eq_true h; omega), ?_⟩
  unfold num numP
  by_cases hn : n < 0
  · rw [if_pos (decide_eq_true hn), h2]; omega
  · rw [if_neg (by simp [hn]), h2]; omega
theorem digs_len (m : Nat) (h : m < 10 ^ 20) : (digs m).length ≤ 20 := by
  obtain ⟨h1, h2, h3, _⟩ := digs_all m
  exact canon_len h1 h3 (by rw [h2]; exact_mod_cast h)
end Go.Proofs.Ytildiabokdfjgaa.DigN
