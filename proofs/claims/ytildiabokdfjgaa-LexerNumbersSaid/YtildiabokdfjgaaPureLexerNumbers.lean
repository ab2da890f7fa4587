/- A number's digits are one token, and that number; behind a name they are part of it; with a letter behind they are none: for every number of 64 bits and every letter; the walk's functions are those of the program. -/
import Derived.Test.YtildiabokdfjgaaLexGLexerNumbers
import Derived.Test.YtildiabokdfjgaaLexDLexerNumbers
namespace Go.Proofs.Ytildiabokdfjgaa.Pure
open Go.RowKit Go.Proofs.Ytildiabokdfjgaa.PLexerNumbers Go.Proofs.Ytildiabokdfjgaa.Dec Go.Proofs.YtildiabokdfjgaaW.PrintWords Go.Proofs.YtildiabokdfjgaaW.PrintLast
set_option linter.unusedVariables false
set_option linter.unusedSimpArgs false
set_option maxHeartbeats 800000

theorem bytes_append (a b : ByteArray) : bytesOf (a ++ b) = bytesOf a ++ bytesOf b := by simp [bytesOf]
theorem strOf_bytes (s : ByteArray) : strOfNums (bytesOf s) = s := by
  refine DigN.ba_ext ?_
  unfold strOfNums bytesOf
  simp [Function.comp_def]
theorem bytes_str1 (m : Int) (h0 : 0 ≤ m) (h1 : m ≤ 255) : bytesOf (strOfNums [m]) = [m] := by
  unfold strOfNums bytesOf
  simp
  omega
theorem run_all {v : List Int} (hv : Off v) : ∀ u : List Int, (∀ c ∈ u, alnB c = true) → runN (u ++ v) = u.length
  | [], _ => run_off hv
  | c :: u, h => by
    show (if alnB c = true then runN (u ++ v) + 1 else 0) = _
    rw [if_pos (h c List.mem_cons_self), run_all hv u (fun x hx => h x (List.mem_cons_of_mem _ hx)), List.length_cons]
theorem tok_num (t : ByteArray) (c : Int) (r v : List Int) (ht : bytesOf t = c :: r) (hc : (digitB c || c == 45) = true) (hl : letterB c = false) (hr : ∀ x ∈ r, alnB x = true) (hv : Off v) :
    tokS (c :: (r ++ v)) = if (parsed t).2 = 0 then some ((2 : Int), t, (parsed t).1, r.length + 1) else none := by
  rw [tokS_cons, hl, if_neg (by decide), hc, if_pos rfl, run_all hv r hr, List.take_left, ← ht, strOf_bytes]
theorem digit_aln {x : Int} (h0 : 48 ≤ x) (h1 : x ≤ 57) : alnB x = true := by
  unfold alnB digitB
  rw [decide_eq_true (show 48 ≤ x ∧ x ≤ 57 from ⟨h0, h1⟩), Bool.or_true]
theorem text_shape (n : Int) : ∃ c r, DigN.text (DigN.numP n) = c :: r ∧ (DigN.isd c ∨ c = 45) ∧ ∀ x ∈ r, DigN.isd x := by
  obtain ⟨h1, h2, h3, h4⟩ := DigN.digs_all n.natAbs
  unfold DigN.text DigN.numP
  by_cases h : DigN.digs n.natAbs = []
  · rw [if_pos h]
    exact ⟨48, [], rfl, .inl (by unfold DigN.isd; decide), by simp⟩
  · rw [if_neg h]
    have ha := DigN.txt_isd _ h1
    by_cases hn : n < 0
    · refine ⟨45, DigN.txt (DigN.digs n.natAbs), ?_, .inr rfl, ha⟩
      simp [DigN.sgn, hn]
    · have hne : DigN.txt (DigN.digs n.natAbs) ≠ [] := by
        unfold DigN.txt
        simpa using h
      obtain ⟨c, r, hcr⟩ := List.exists_cons_of_ne_nil hne
      refine ⟨c, r, ?_, .inl (ha c (by rw [hcr]; exact List.mem_cons_self)), fun x hx => ha x (by rw [hcr]; exact List.mem_cons_of_mem _ hx)⟩
      simp [DigN.sgn, hn, hcr]
theorem digits_done (n : Int) (k : Nat) (s : ByteArray) (hs : s.size ≤ 100) : ∃ r, wayfarerlaw08_digits.l0 (k + 1) n s 0 = some r ∧ r.data.toList = DigN.sgn (decide (n < 0)) ++ s.data.toList := by
  simp only [wayfarerlaw08_digits.l0]
  rw [if_pos trivial]
  by_cases hn : n < 0
  · rw [if_pos hn, if_pos (by omega)]
    exact ⟨_, rfl, by simp [DigN.sgn, hn]⟩
  · rw [if_neg hn]
    exact ⟨_, rfl, by simp [DigN.sgn, hn]⟩
theorem digits_l0 (n : Int) : ∀ (j k : Nat) (x : Int) (s : ByteArray), x.natAbs < 10 ^ j → I64 x → s.size + j ≤ 100 → j < k →
    ∃ r, wayfarerlaw08_digits.l0 k n s x = some r ∧ r.data.toList = DigN.sgn (decide (n < 0)) ++ (DigN.txt (DigN.digs x.natAbs) ++ s.data.toList) := by
  intro j
  induction j with
  | zero =>
    intro k x s hx _ hs hk
    have : x = 0 := by rw [Nat.pow_zero] at hx; omega
    subst this
    obtain ⟨k, rfl⟩ : ∃ m, k = m + 1 := ⟨k - 1, by omega⟩
    obtain ⟨r, h1, h2⟩ := digits_done n k s (by omega)
    exact ⟨r, h1, by rw [h2, Int.natAbs_zero, DigN.digs_zero]; rfl⟩
  | succ j ih =>
    intro k x s hx hI hs hk
    obtain ⟨k, rfl⟩ : ∃ m, k = m + 1 := ⟨k - 1, by omega⟩
    by_cases h0 : x = 0
    · subst h0
      obtain ⟨r, h1, h2⟩ := digits_done n k s (by omega)
      exact ⟨r, h1, by rw [h2, Int.natAbs_zero, DigN.digs_zero]; rfl⟩
    have hm : (Int.tmod x 10).natAbs = x.natAbs % 10 := Int.natAbs_tmod x 10
    have hq : (Int.tdiv x 10).natAbs = x.natAbs / 10 := Int.natAbs_tdiv x 10
    have hqI : wrap64 (Int.tdiv x 10) = Int.tdiv x 10 := by
      unfold I64 at hI
      unfold wrap64
      omega
    have hx2 : x.natAbs / 10 < 10 ^ j := by rw [Nat.pow_succ] at hx; omega
    have key : ∀ d : Int, 0 ≤ d → d.natAbs = x.natAbs % 10 → ∃ r, (if (strOfNums [(wrap64 (48 + d)) % 256]).size + s.size ≤ 9223372036854775807 then wayfarerlaw08_digits.l0 k n (strOfNums [(wrap64 (48 + d)) % 256] ++ s) (wrap64 (Int.tdiv x 10)) else none) = some r ∧ r.data.toList = DigN.sgn (decide (n < 0)) ++ (DigN.txt (DigN.digs x.natAbs) ++ s.data.toList) := by
      intro d hd0 hd
      have hd9 : d ≤ 9 := by omega
      have he := DigN.strOf_one d ⟨hd0, hd9⟩
      have hsz : (⟨#[DigN.byte d]⟩ : ByteArray).size = 1 := rfl
      rw [he, hsz, if_pos (by omega), hqI]
      have hsz2 : ((⟨#[DigN.byte d]⟩ : ByteArray) ++ s).size = 1 + s.size := by rw [ByteArray.size_append, hsz]
      obtain ⟨r, h1, h2⟩ := ih k (Int.tdiv x 10) (⟨#[DigN.byte d]⟩ ++ s) (by rw [hq]; exact hx2) (by unfold I64 at hI ⊢; omega) (by rw [hsz2]; omega) (by omega)
      refine ⟨r, h1, ?_⟩
      rw [h2, hq, DigN.digs_pos (m := x.natAbs) (by omega)]
      have hdd : ((x.natAbs % 10 : Nat) : Int) = d := by omega
      rw [hdd]
      simp [DigN.txt]
    simp only [wayfarerlaw08_digits.l0, Option.bind_some]
    rw [if_neg h0]
    by_cases hs0 : Int.tmod x 10 < 0
    · rw [if_pos hs0]
      have e : wrap64 (-(Int.tmod x 10)) = -(Int.tmod x 10) := by unfold wrap64; omega
      rw [e]
      exact key _ (by omega) (by omega)
    · rw [if_neg hs0]
      exact key _ (by omega) (by omega)
theorem digits_spec (n : Int) (hn : I64 n) (k : Nat) (hk : 30 < k) : ∃ r, wayfarerlaw08_digits.f k n = some r ∧ r.data.toList = DigN.text (DigN.numP n) := by
  unfold wayfarerlaw08_digits.f
  by_cases h : n = 0
  · rw [if_pos h]
    subst h
    refine ⟨_, rfl, ?_⟩
    unfold DigN.text DigN.numP
    rw [Int.natAbs_zero, DigN.digs_zero, if_pos rfl]
  · rw [if_neg h]
    obtain ⟨r, h1, h2⟩ := digits_l0 n 20 k n ⟨#[]⟩ (by unfold I64 at hn; rw [show (10 : Nat) ^ 20 = 100000000000000000000 by decide]; omega) hn (by decide) (by omega)
    refine ⟨r, h1, ?_⟩
    rw [h2]
    unfold DigN.text DigN.numP
    rw [if_neg ((DigN.digs_all n.natAbs).2.2.2 (by omega))]
    simp
theorem known_at : wayfarerlaw08_known.f 91 = some true := by decide +kernel
theorem known_ev (k : Nat) (hk : 91 ≤ k) : wayfarerlaw08_known.f k = some true := at_rounds wayfarerlaw08_known.mono hk known_at
theorem parse_wrong (L : List UInt8) (y : UInt8) (hy : ¬ DigN.isd y) (hmem : y ∈ (DigN.sp L).2) : (DigN.parse L).2 = 2 := by
  unfold DigN.parse
  have hne : ¬ (DigN.sp L).2 = [] := by intro h; rw [h] at hmem; simp at hmem
  rw [if_neg hne]
  split
  · rfl
  · have : ¬ (DigN.sp L).2.all ints_Parse.dig = true := by
      intro h
      exact hy ((DigN.dig_iff y).1 (List.all_eq_true.1 h y hmem))
    rw [if_neg this]
theorem sp_mem (c y : UInt8) (r : List UInt8) : y ∈ (DigN.sp (c :: (r ++ [y]))).2 := by
  unfold DigN.sp
  dsimp only
  split <;> simp
theorem sign_tok (c : Int) (r : List Int) (hl : letterB c = false) (hd : (digitB c || c == 45) = false) (h39 : ¬ c = 39) (hs : signB c = true) : tokS (c :: r) = some ((4 : Int), strOfNums [c], 0, 1) := by
  rw [tokS_cons, hl, if_neg (by decide), hd, if_neg (by decide), if_neg h39, if_pos hs]
theorem skip_none (c : Int) (r : List Int) (h : blankB c = false) : skip (c :: r) = 0 := by
  unfold skip
  rw [h, if_neg (by decide)]
theorem LexerNumbers : wayfarerlaw08_LexerNumbers.Pure := by
  intro n a wn wa
  have hn := DigN.wf_i64 wn
  refine ⟨9000, ?_⟩
  obtain ⟨t, ht, htt⟩ := digits_spec n hn 9000 (by omega)
  obtain ⟨c8, r8, hcr, hc8, hr8⟩ := text_shape n
  have htext := DigN.text_parse n hn (DigN.numP n) (DigN.numP_is n)
  have hlen : t.size ≤ 40 := by
    rw [DigN.size_list, htt]
    have := DigN.digs_len n.natAbs (by unfold I64 at hn; rw [show (10 : Nat) ^ 20 = 100000000000000000000 by decide]; omega)
    unfold DigN.text DigN.numP DigN.txt DigN.sgn
    dsimp only
    split
    · simp
    · split <;> simp <;> omega
  have hpt : parsed t = (n, 0) := by
    unfold parsed
    rw [DigN.Parse_spec t (by omega), htt, htext]
    rfl
  have hbt : bytesOf t = (c8.toNat : Int) :: r8.map (fun b => (b.toNat : Int)) := by
    unfold bytesOf
    rw [htt, hcr]
    rfl
  have hc : (digitB (c8.toNat : Int) || (c8.toNat : Int) == 45) = true := by
    rcases hc8 with h | h
    · unfold DigN.isd at h
      unfold digitB
      rw [decide_eq_true (show 48 ≤ (c8.toNat : Int) ∧ (c8.toNat : Int) ≤ 57 by omega), Bool.true_or]
    · subst h; decide
  have hl : letterB (c8.toNat : Int) = false := by
    rcases hc8 with h | h
    · unfold DigN.isd at h
      unfold letterB
      exact decide_eq_false (by omega)
    · subst h; decide
  have hb : blankB (c8.toNat : Int) = false := by
    rcases hc8 with h | h
    · unfold DigN.isd at h
      unfold blankB
      exact decide_eq_false (by omega)
    · subst h; decide
  have hr : ∀ x ∈ r8.map (fun b => (b.toNat : Int)), alnB x = true := by
    intro x hx
    obtain ⟨b, hb, rfl⟩ := List.mem_map.1 hx
    have := hr8 b hb
    unfold DigN.isd at this
    exact digit_aln (by omega) (by omega)
  have hrl : (r8.map (fun b => (b.toNat : Int))).length + 1 = t.size := by
    rw [DigN.size_list, htt, hcr]; simp
  generalize hrr : r8.map (fun b => (b.toNat : Int)) = r at hbt hr hrl
  generalize hcc : (c8.toNat : Int) = c at hbt hc hl hb
  -- the first query
  have q1 : lexer_All.f 9000 (bytesOf (t ++ (⟨#[41]⟩ : ByteArray))) = some ([⟨2, 0, t, n⟩, ⟨4, ((r.length + 1 : Nat) : Int), strOfNums [41], 0⟩], 0, 0) := by
    have e : bytesOf (t ++ (⟨#[41]⟩ : ByteArray)) = c :: (r ++ [41]) := by rw [bytes_append, hbt]; rfl
    rw [e, All_spec _ (by simp; omega) 9000 (by simp; omega)]
    have e1 : tokS (c :: (r ++ [41])) = some ((2 : Int), t, n, r.length + 1) := by
      rw [tok_num t c r [41] hbt hc hl hr (Off.cons (by decide)), hpt, if_pos rfl]
    have e2 : (c :: (r ++ [41])).drop (r.length + 1) = [41] := by simp
    obtain ⟨g, hg⟩ : ∃ g, (c :: (r ++ [41])).length + 1 = g + 3 := ⟨r.length, by simp⟩
    have e3 : lex (g + 3) (c :: (r ++ [41])) 0 = ([(⟨2, 0, t, n⟩, r.length + 1), (⟨4, ((r.length + 1 : Nat) : Int), strOfNums [41], 0⟩, r.length + 1 + 1)], none) := by
      rw [lex_step, skip_none c _ hb, List.drop_zero]
      dsimp only
      rw [e1]
      dsimp only
      rw [e2, Nat.zero_add, Nat.zero_add, lex_step, skip_none 41 [] (by decide), List.drop_zero]
      dsimp only
      rw [sign_tok 41 [] (by decide) (by decide) (by decide) (by decide)]
      dsimp only
      rw [show ([41] : List Int).drop 1 = [] from rfl, lex_step]
      rfl
    rw [hg, e3]
    rfl
  -- the letter
  have hm0 : 0 ≤ a ∧ a ≤ 255 := by
    have h2 : IntKind.u8.min ≤ a ∧ a ≤ IntKind.u8.max := by simpa [Lit.wf] using wa
    have h3 : IntKind.u8.min = 0 := by decide +kernel
    have h4 : IntKind.u8.max = 255 := by decide +kernel
    omega
  have hm : ∃ m : Int, (97 + Int.tmod a 26) % 256 = m ∧ 97 ≤ m ∧ m ≤ 122 := by
    rw [Int.tmod_eq_emod_of_nonneg hm0.1]
    exact ⟨_, rfl, by omega, by omega⟩
  obtain ⟨m, hme, hm1, hm2⟩ := hm
  have hY : bytesOf (strOfNums [m]) = [m] := bytes_str1 m (by omega) (by omega)
  have hYs : (strOfNums [m]).size = 1 := by rw [← bytesOf_length, hY]; rfl
  have hmaln : alnB m = true := by
    unfold alnB letterB
    rw [decide_eq_true (show 97 ≤ m ∧ m ≤ 122 ∨ 65 ≤ m ∧ m ≤ 90 ∨ m = 95 by omega), Bool.true_or]
  have hmlet : letterB m = true := by
    unfold letterB
    exact decide_eq_true (by omega)
  have hmb : blankB m = false := by
    unfold blankB
    exact decide_eq_false (by omega)
  obtain ⟨y, hy1, hy2⟩ : ∃ y : UInt8, (strOfNums [m]).data.toList = [y] ∧ (y.toNat : Int) = m := by
    have hq : (strOfNums [m]).data.toList.map (fun b => (b.toNat : Int)) = [m] := hY
    cases hL : (strOfNums [m]).data.toList with
    | nil => rw [hL] at hq; simp at hq
    | cons y l =>
      rw [hL] at hq
      cases l with
      | nil => exact ⟨y, rfl, by simpa using hq⟩
      | cons z l => simp at hq
  -- the second
  have hbig : (parsed (t ++ strOfNums [m])).2 = 2 := by
    unfold parsed
    rw [DigN.Parse_spec _ (by rw [ByteArray.size_append, hYs]; omega)]
    show (DigN.parse _).2 = 2
    have e : (t ++ strOfNums [m]).data.toList = c8 :: (r8 ++ [y]) := by
      rw [show (t ++ strOfNums [m]).data.toList = t.data.toList ++ (strOfNums [m]).data.toList by simp, htt, hcr, hy1]
      rfl
    rw [e]
    exact parse_wrong _ y (by unfold DigN.isd; omega) (sp_mem c8 y r8)
  have q2 : lexer_All.f 8999 (bytesOf (((⟨#[40, 32]⟩ : ByteArray) ++ t) ++ strOfNums [m])) = some ([], 2, 30) := by
    have e : bytesOf (((⟨#[40, 32]⟩ : ByteArray) ++ t) ++ strOfNums [m]) = 40 :: 32 :: c :: (r ++ [m]) := by
      rw [bytes_append, bytes_append, hbt, hY]; rfl
    rw [e, All_spec _ (by simp; omega) 8999 (by simp; omega)]
    have hb2 : bytesOf (t ++ strOfNums [m]) = c :: (r ++ [m]) := by rw [bytes_append, hbt, hY]; rfl
    have e1 : tokS (c :: (r ++ [m])) = none := by
      have := tok_num (t ++ strOfNums [m]) c (r ++ [m]) [] hb2 hc hl (fun x hx => by
        rcases List.mem_append.1 hx with h | h
        · exact hr x h
        · rw [List.mem_singleton.1 h]; exact hmaln) Off.nil
      rw [List.append_nil, hbig, if_neg (by decide)] at this
      exact this
    obtain ⟨g, hg⟩ : ∃ g, (40 :: 32 :: c :: (r ++ [m])).length + 1 = g + 2 := ⟨r.length + 3, by simp⟩
    have e3 : lex (g + 2) (40 :: 32 :: c :: (r ++ [m])) 0 = ([(⟨4, 0, strOfNums [40], 0⟩, 1)], some 2) := by
      rw [lex_step, skip_none 40 _ (by decide), List.drop_zero]
      dsimp only
      rw [sign_tok 40 _ (by decide) (by decide) (by decide) (by decide)]
      dsimp only
      rw [show (40 :: 32 :: c :: (r ++ [m])).drop 1 = 32 :: c :: (r ++ [m]) from rfl, lex_step]
      have hs : skip (32 :: c :: (r ++ [m])) = 1 := by
        show (if blankB 32 = true then skip (c :: (r ++ [m])) + 1 else 0) = 1
        rw [if_pos (by decide), skip_none c _ hb]
      rw [hs, show (32 :: c :: (r ++ [m])).drop 1 = c :: (r ++ [m]) from rfl]
      dsimp only
      rw [e1]
      rfl
    rw [hg, e3]
    rfl
  -- the third
  have hb3 : bytesOf (strOfNums [m] ++ (⟨#[55]⟩ : ByteArray)) = [m, 55] := by rw [bytes_append, hY]; rfl
  have q3 : lexer_All.f 8999 (bytesOf (strOfNums [m] ++ (⟨#[55]⟩ : ByteArray))) = some ([⟨1, 0, strOfNums [m] ++ (⟨#[55]⟩ : ByteArray), 0⟩], 0, 0) := by
    rw [hb3, All_spec _ (by simp) 8999 (by simp)]
    have e1 : tokS [m, 55] = some ((1 : Int), strOfNums [m] ++ (⟨#[55]⟩ : ByteArray), 0, 2) := by
      rw [tokS_cons, if_pos hmlet, show runN [55] = 1 by decide, show ([55] : List Int).take 1 = [55] from rfl, ← hb3, strOf_bytes]
    have e3 : lex ([m, 55].length + 1) [m, 55] 0 = ([(⟨1, 0, strOfNums [m] ++ (⟨#[55]⟩ : ByteArray), 0⟩, 2)], none) := by
      rw [lex_step, skip_none m _ hmb, List.drop_zero]
      dsimp only
      rw [e1]
      rfl
    rw [e3]
    rfl
  unfold wayfarerlaw08_LexerNumbers.f
  rw [ht, Option.bind_some, if_pos (by omega), if_pos (by rw [ByteArray.size_append]; show t.size + 1 ≤ _; omega), q1, Option.bind_some]
  dsimp only
  rw [if_pos rfl, if_pos (by simp), if_pos (by simp)]
  have g0 : rd_T32 [(⟨2, 0, t, n⟩ : S32), ⟨4, ((r.length + 1 : Nat) : Int), strOfNums [41], 0⟩] 0 = ⟨2, 0, t, n⟩ := rfl
  have g1 : rd_T32 [(⟨2, 0, t, n⟩ : S32), ⟨4, ((r.length + 1 : Nat) : Int), strOfNums [41], 0⟩] 1 = ⟨4, ((r.length + 1 : Nat) : Int), strOfNums [41], 0⟩ := rfl
  rw [g0, g1]
  dsimp only
  rw [if_pos rfl, if_pos rfl, if_pos (by simp), show ((strOfNums [41]).toList != ([41] : List UInt8)) = false by decide +kernel]
  simp only [wayfarerlaw08_LexerNumbers.j0]
  rw [if_neg (by decide), Option.bind_some, hme, if_pos (by omega), if_pos (by rw [ByteArray.size_append, hYs]; show 2 + t.size + 1 ≤ _; omega), if_pos (by rw [ByteArray.size_append, ByteArray.size_append, hYs]; show 2 + t.size + 1 ≤ _; omega), q2, Option.bind_some]
  dsimp only
  rw [if_pos (by omega), if_pos (by rw [ByteArray.size_append, hYs]; decide), q3, Option.bind_some]
  dsimp only
  have g2 : rd_T32 [(⟨1, 0, strOfNums [m] ++ (⟨#[55]⟩ : ByteArray), 0⟩ : S32)] 0 = ⟨1, 0, strOfNums [m] ++ (⟨#[55]⟩ : ByteArray), 0⟩ := rfl
  rw [g2]
  dsimp only
  rw [if_pos rfl, if_pos rfl, if_pos rfl, if_pos (by simp), if_pos (by simp), if_pos rfl, if_pos rfl, known_ev _ (by omega)]
  rfl
end Go.Proofs.Ytildiabokdfjgaa.Pure
