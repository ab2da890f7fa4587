/- Contracts of Go functions of this claim, and the Lean functions that they come to. -/
import Derived.Test.YtildiabokdfjgaaPLexerNumbersx0
import Derived.Test.YtildiabokdfjgaaPLexerNumbersx1
namespace Go.Proofs.Ytildiabokdfjgaa.PLexerNumbers
open Go.RowKit Go.Proofs.YtildiabokdfjgaaW.PrintWords Go.Proofs.YtildiabokdfjgaaW.PrintLast Go.Proofs.YtildiabokdfjgaaW.PrintMore
attribute [local go_sem] max2_int min2_int max_two min_two max_three min_three max_four min_four   -- for this text's walks alone
set_option linter.unusedVariables false
set_option linter.unusedSimpArgs false

/-! ### ints_Parse: function 28 -/
def ints_Parse.dig (c : UInt8) : Bool := decide (48 ≤ c.toNat ∧ c.toNat ≤ 57)
def ints_Parse.l1 (m : Bool) : List UInt8 → Int → Option (Int × Int)
  | [], n => some (n, 0)
  | c :: r, n => (ints_mul.f n 10).bind fun p => (ints_add.f p.1 (if m = true then -((c.toNat : Int) - 48) else (c.toNat : Int) - 48)).bind fun q => if p.2 = true then if q.2 = true then ints_Parse.l1 m r q.1 else some (0, 10) else some (0, 10)
def ints_Parse.loops (m : Bool) (d : ByteArray) : Option (Int × Int) := if d.data.toList.all ints_Parse.dig = true then ints_Parse.l1 m d.data.toList 0 else some (0, 2)
def ints_Parse.rest (m : Bool) (d s : ByteArray) : Option (Int × Int) :=
  if d.size = 0 then some (0, 2) else if bt d 0 = 48 ∧ ¬ s.toList = [48] then some (0, 2) else
  ints_Parse.loops m d
def ints_Parse.f (a0 : ByteArray) : Option (Int × Int) :=
  if 9223372036854775807 < a0.size then none else if a0.size = 0 then some (0, 2) else if bt a0 0 = 45 then ints_Parse.rest true (a0.extract 1 a0.size) a0 else ints_Parse.rest false a0 a0

theorem ints_Parse.pos {w : World} {k : Nat} {s : ByteArray} {p : Nat} (h : w.heap[k]? = some (.stringIter s p)) : w.iterPos k = p := by simp [World.iterPos, h]
theorem ints_Parse.drop (d : ByteArray) (pos : Nat) (h : pos < d.size) : d.data.toList.drop pos = d[pos] :: d.data.toList.drop (pos + 1) := by
  rw [List.drop_eq_getElem_cons (by simpa using h)]; rfl
theorem ints_Parse.all_no (d : ByteArray) (pos : Nat) (h : pos < d.size) (hd : ints_Parse.dig d[pos] = false) : d.data.toList.all ints_Parse.dig = false := by
  rw [List.all_eq_false]
  exact ⟨d[pos], by have : d[pos] = d.data.toList[pos]'(by simpa using h) := rfl
                    rw [this]; exact List.getElem_mem _, by rw [hd]; decide⟩
theorem ints_Parse.all_take (d : ByteArray) (pos : Nat) (h : pos < d.size) (ht : (d.data.toList.take pos).all ints_Parse.dig = true) (hd : ints_Parse.dig d[pos] = true) : (d.data.toList.take (pos + 1)).all ints_Parse.dig = true := by
  rw [List.take_succ_eq_append_getElem (by simpa using h), List.all_append, ht]
  have : d.data.toList[pos]'(by simpa using h) = d[pos] := rfl
  simp [this, hd]
theorem ints_Parse.at_dig (d : ByteArray) (pos : Nat) (h : pos < d.size) (hd : d.data.toList.all ints_Parse.dig = true) : ints_Parse.dig d[pos] = true := by
  have : d[pos] = d.data.toList[pos]'(by simpa using h) := rfl
  rw [this]
  exact List.all_eq_true.mp hd _ (List.getElem_mem _)

set_option maxHeartbeats 4000000 in
set_option maxRecDepth 100000 in
theorem ints_Parse.calls (a0 : ByteArray) (r1 : Int) (r2 : Int) (w : World) (h : ints_Parse.f a0 = some (r1, r2)) :
    Calls Try.prog 28 #[.string a0] w fun e w' => e = .returned (.tuple #[.int .i64 r1, .int .i64 r2]) ∧ Below w.heap.size w w' := by
  unfold ints_Parse.f at h
  split at h
  · cases h
  rename_i hbig
  have hmax : a0.size ≤ 9223372036854775807 := by omega
  clear hbig
  have H := Aside0.mk h
  clear h
  by_cases h0 : a0.size = 0
  · have hr : (0, 2) = (r1, r2) := by have := H.out; rw [if_pos h0] at this; exact Option.some.inj this
    cases hr
    have h1 : a0.toList = [] := by
      rw [ByteArray.toList_eq]
      have : a0.data.size = 0 := h0
      exact List.eq_nil_of_length_eq_zero (by simpa using this)
    have h00 : (a0.toList.isEmpty) = true := by rw [h1]; rfl
    clear H h0 hmax
    go_enter Try.func28, Try.ntmps28
    go_wp2
    go_ret2
    exact ⟨by first | rfl | (simp; done), by repeat (first | exact Below.refl _ _)⟩
  · have hlt : 0 < a0.size := by omega
    have h1 : ¬ a0.toList = [] := by
      intro h; apply h0
      rw [ByteArray.toList_eq] at h
      have := congrArg List.length h
      simpa using this
    have h00 : (a0.toList.isEmpty) = false := by simpa using h1
    have hb : (a0[0] : UInt8).toNat = bt a0 0 := by unfold bt; simp [hlt]
    obtain ⟨m, hm2⟩ : ∃ m : Bool, ((a0[0].toNat : Int) == 45) = m := ⟨_, rfl⟩
    obtain ⟨d, hd⟩ : ∃ d : ByteArray, d = if m = true then a0.extract 1 a0.size else a0 := ⟨_, rfl⟩
    have HD := Aside0.mk hd
    have H2 : Aside0 (ints_Parse.rest m d a0 = some (r1, r2)) := by
      refine ⟨?_⟩
      have h3 := H.out
      rw [if_neg h0] at h3
      by_cases hm : bt a0 0 = 45
      · have : m = true := by rw [← hm2, hb, hm]; rfl
        subst this
        rw [if_pos rfl] at hd
        rw [if_pos hm, ← hd] at h3
        exact h3
      · have : m = false := by rw [← hm2, hb]; exact beq_eq_false_iff_ne.mpr hm
        subst this
        rw [if_neg (by decide)] at hd
        rw [if_neg hm] at h3
        rw [hd]
        exact h3
    clear H h0 hb hd
    have hlt' : (1 : Int) ≤ (a0.size : Int) := by omega
    go_enter Try.func28, Try.ntmps28
    go_upto_if 24 with (fail)
    (try simp only [Act.put, List.setIfInBounds_toArray, List.set_cons_zero, List.set_cons_succ])
    go_cut [5] (fun v5 wc => v5 = .string d ∧ w = wc)
    case first =>
      cases m with
      | true =>
        go_wp2
        go_meet
        case rel => exact ⟨by rw [HD.out]; simp, rfl⟩
      | false =>
        go_wp2
        go_meet
        case rel => exact ⟨by rw [HD.out]; simp, rfl⟩
    case rest =>
      obtain ⟨rfl, rfl⟩ := hcut
      clear HD hm2 h1 h00 hlt hlt'
      go_upto_region 5 with (fail)
      (try simp only [Act.put, List.setIfInBounds_toArray, List.set_cons_zero, List.set_cons_succ])
      go_cut [37] (fun v37 wc => ∃ z : Bool, v37 = .bool z ∧ Aside0 ((if z = true then some (0, 2) else ints_Parse.loops m d) = some (r1, r2)) ∧ w = wc)
      case first =>
        by_cases e0 : d.size = 0
        · have h1 : d.toList = [] := by
            rw [ByteArray.toList_eq]
            have : d.data.size = 0 := e0
            exact List.eq_nil_of_length_eq_zero (by simpa using this)
          have h00 : (d.toList.isEmpty) = true := by rw [h1]; rfl
          have H3 : Aside0 ((if true = true then some (0, 2) else ints_Parse.loops m d) = some (r1, r2)) := ⟨by have := H2.out; unfold ints_Parse.rest at this; rw [if_pos e0] at this; exact this⟩
          clear H2 e0
          go_wp2
          go_meet
          case rel => exact ⟨true, by first | rfl | (simp; done), H3, rfl⟩
        · have hlt : 0 < d.size := by omega
          have h1 : ¬ d.toList = [] := by
            intro h; apply e0
            rw [ByteArray.toList_eq] at h
            have := congrArg List.length h
            simpa using this
          have h00 : (d.toList.isEmpty) = false := by simpa using h1
          have hb : (d[0] : UInt8).toNat = bt d 0 := by unfold bt; simp [hlt]
          have hlt' : (1 : Int) ≤ (d.size : Int) := by omega
          by_cases e1 : bt d 0 = 48
          · have hm2 : ((d[0].toNat : Int) == 48) = true := by rw [hb, e1]; rfl
            by_cases e2 : a0.toList = [48]
            · have e3 : (a0.toList == [48]) = true := by rw [e2]; rfl
              have H3 : Aside0 ((if false = true then some (0, 2) else ints_Parse.loops m d) = some (r1, r2)) := ⟨by have := H2.out; unfold ints_Parse.rest at this; rw [if_neg e0, if_neg (fun h => h.2 e2)] at this; exact this⟩
              clear H2 e0 hb e1
              go_wp2
              go_meet
              case rel => exact ⟨false, by first | rfl | (simp; done), H3, rfl⟩
            · have e3 : (a0.toList == [48]) = false := beq_eq_false_iff_ne.mpr e2
              have H3 : Aside0 ((if true = true then some (0, 2) else ints_Parse.loops m d) = some (r1, r2)) := ⟨by have := H2.out; unfold ints_Parse.rest at this; rw [if_neg e0, if_pos ⟨e1, e2⟩] at this; exact this⟩
              clear H2 e0 hb e1
              go_wp2
              go_meet
              case rel => exact ⟨true, by first | rfl | (simp; done), H3, rfl⟩
          · have hm2 : ((d[0].toNat : Int) == 48) = false := by rw [hb]; exact beq_eq_false_iff_ne.mpr e1
            have H3 : Aside0 ((if false = true then some (0, 2) else ints_Parse.loops m d) = some (r1, r2)) := ⟨by have := H2.out; unfold ints_Parse.rest at this; rw [if_neg e0, if_neg (fun h => e1 h.1)] at this; exact this⟩
            clear H2 e0 hb e1
            go_wp2
            go_meet
            case rel => exact ⟨false, by first | rfl | (simp; done), H3, rfl⟩
      case rest =>
        clear H2
        obtain ⟨z, rfl, H3, rfl⟩ := hcut
        cases z with
        | true =>
          have hr : (0, 2) = (r1, r2) := Option.some.inj (by have := H3.out; rw [if_pos rfl] at this; exact this)
          cases hr
          clear H3
          go_wp2
          go_ret2
          exact ⟨by first | rfl | (simp; done), Below.refl _ _⟩
        | false =>
          have H4 : Aside0 (ints_Parse.loops m d = some (r1, r2)) := ⟨by have := H3.out; rw [if_neg (by decide)] at this; exact this⟩
          clear H3
          go_wp2
          go_loopw [] (fun wr => ∃ pos : Nat, wr.heap[w.heap.size]? = some (.stringIter d pos) ∧ pos ≤ d.size ∧ Aside0 ((d.data.toList.take pos).all ints_Parse.dig = true) ∧ Below w.heap.size w wr) (fun wr => d.size - wr.iterPos w.heap.size)
          case atStart => exact ⟨0, World.iter_heap w d 0, Nat.zero_le _, ⟨rfl⟩, (Below.refl _ _).alloc (Nat.le_refl _) _⟩
          case round =>
            obtain ⟨pos, hit, hpd, HA, HB⟩ := hrel
            have hpos0 := ints_Parse.pos hit
            by_cases hp : pos < d.size
            · have hit2 := Lib.iterAt_heap wr w.heap.size d pos (pos + (Utf8.decode d pos).2) hit
              have hbw2 := Lib.below_iterAt HB (k := w.heap.size) (Nat.le_refl _) d (pos + (Utf8.decode d pos).2)
              by_cases hc : d[pos].toNat < 128
              · have hdec := decode_ascii d pos hp hc
                rw [hdec] at hit2 hbw2
                have hnx : ∀ ty, (Instr.next (.pointer (some ⟨w.heap.size, 0, none⟩)) true ty).run Try.prog wr = _ := fun ty => Lib.run_next_ascii_at wr w.heap.size d pos ty hit hp hc
                obtain ⟨W1, hW1⟩ : ∃ W1, W1 = wr.iterAt w.heap.size d (pos + 1) := ⟨_, rfl⟩
                simp only [← hW1] at hnx hit2 hbw2
                have HPOS := Aside0.mk hpos0
                have HIT := Aside0.mk hit2
                have HB2 := Aside0.mk hbw2
                have HDIG := Aside0.mk (rfl : ints_Parse.dig d[pos] = decide (48 ≤ d[pos].toNat ∧ d[pos].toNat ≤ 57))
                clear hW1 hdec hit hpos0 hit2 hbw2 HB
                by_cases h1 : (d[pos].toNat : Int) < 48
                · have c1 : decide ((d[pos].toNat : Int) < 48) = true := decide_eq_true h1
                  have hr : (0, 2) = (r1, r2) := Option.some.inj (by have := H4.out; unfold ints_Parse.loops at this; rw [ints_Parse.all_no d pos hp (by rw [HDIG.out]; exact decide_eq_false (by omega))] at this; exact this)
                  cases hr
                  clear H4 HA HPOS HIT
                  go_wp2
                  go_ret2
                  exact ⟨by first | rfl | (simp; done), HB2.out⟩
                · have c1 : decide ((d[pos].toNat : Int) < 48) = false := decide_eq_false h1
                  by_cases h2 : (57 : Int) < (d[pos].toNat : Int)
                  · have c2 : decide ((57 : Int) < (d[pos].toNat : Int)) = true := decide_eq_true h2
                    have hr : (0, 2) = (r1, r2) := Option.some.inj (by have := H4.out; unfold ints_Parse.loops at this; rw [ints_Parse.all_no d pos hp (by rw [HDIG.out]; exact decide_eq_false (by omega))] at this; exact this)
                    cases hr
                    clear H4 HA HPOS HIT
                    go_wp2
                    go_ret2
                    exact ⟨by first | rfl | (simp; done), HB2.out⟩
                  · have c2 : decide ((57 : Int) < (d[pos].toNat : Int)) = false := decide_eq_false h2
                    have HA2 := Aside0.mk (ints_Parse.all_take d pos hp HA.out (by rw [HDIG.out]; exact decide_eq_true (by omega)))
                    clear HA
                    go_wp2
                    go_roundw
                    case rel => exact ⟨pos + 1, HIT.out, by omega, HA2, HB2.out⟩
                    case measure => rw [ints_Parse.pos HIT.out, HPOS.out]; omega
              · have hdh := (decode_high d pos hp (by omega)).1
                have hdl := decode_le d pos
                have hnx : ∀ ty, (Instr.next (.pointer (some ⟨w.heap.size, 0, none⟩)) true ty).run Try.prog wr = _ := fun ty => Lib.run_next_any_at wr w.heap.size d pos ty hit hp
                obtain ⟨W1, hW1⟩ : ∃ W1, W1 = wr.iterAt w.heap.size d (pos + (Utf8.decode d pos).2) := ⟨_, rfl⟩
                simp only [← hW1] at hnx hit2 hbw2
                generalize (Utf8.decode d pos).1 = rune at *
                have c1 : decide ((rune : Int) < 48) = false := decide_eq_false (by omega)
                have c2 : decide ((57 : Int) < (rune : Int)) = true := decide_eq_true (by omega)
                have hr : (0, 2) = (r1, r2) := Option.some.inj (by have := H4.out; unfold ints_Parse.loops at this; rw [ints_Parse.all_no d pos hp (decide_eq_false (by omega))] at this; exact this)
                cases hr
                have HB2 := Aside0.mk hbw2
                clear H4 HA hpos0 hit hW1 hit2 hbw2 HB
                go_wp2
                go_ret2
                exact ⟨by first | rfl | (simp; done), HB2.out⟩
            · have hnx : ∀ ty, (Instr.next (.pointer (some ⟨w.heap.size, 0, none⟩)) true ty).run Try.prog wr = _ := fun ty => Lib.run_next_end_at wr w.heap.size d pos ty hit hp
              have hall : d.data.toList.all ints_Parse.dig = true := by
                have := HA.out
                rwa [List.take_of_length_le (by simp; omega)] at this
              have HALL := Aside0.mk hall
              have H5 : Aside0 (ints_Parse.l1 m d.data.toList 0 = some (r1, r2)) := ⟨by have := H4.out; unfold ints_Parse.loops at this; rw [if_pos hall] at this; exact this⟩
              have HB2 := Aside0.mk HB
              clear H4 HA hall hit hpos0 HB
              go_wp2
              obtain ⟨wo, rfl⟩ : ∃ wo : World, wo = wr := ⟨_, rfl⟩
              go_loopw [8] (fun v8 wr2 => ∃ (pos : Nat) (n : Int), v8 = .int .i64 n ∧ wr2.heap[wo.heap.size]? = some (.stringIter d pos) ∧ pos ≤ d.size ∧ Aside0 (ints_Parse.l1 m (d.data.toList.drop pos) n = some (r1, r2)) ∧ Aside0 (Below w.heap.size w wr2)) (fun _ wr2 => d.size - wr2.iterPos wo.heap.size)
              case atStart => exact ⟨0, 0, rfl, World.iter_heap wo d 0, Nat.zero_le _, H5, ⟨(HB2.out).alloc HB2.out.size _⟩⟩
              case round =>
                clear H5 hnx hp hpd
                obtain ⟨pos, n, rfl, hit, hpd, HA, HB⟩ := hrel
                have hpos0 := ints_Parse.pos hit
                by_cases hp : pos < d.size
                · have hdg := ints_Parse.at_dig d pos hp HALL.out
                  have hdg2 : 48 ≤ d[pos].toNat ∧ d[pos].toNat ≤ 57 := of_decide_eq_true hdg
                  have hc : d[pos].toNat < 128 := by omega
                  have hit2 := Lib.iterAt_heap wr wo.heap.size d pos (pos + 1) hit
                  have hbw2 := Lib.below_iterAt HB.out (k := wo.heap.size) HB2.out.size d (pos + 1)
                  have hnx : ∀ ty, (Instr.next (.pointer (some ⟨wo.heap.size, 0, none⟩)) true ty).run Try.prog wr = _ := fun ty => Lib.run_next_ascii_at wr wo.heap.size d pos ty hit hp hc
                  obtain ⟨W1, hW1⟩ : ∃ W1, W1 = wr.iterAt wo.heap.size d (pos + 1) := ⟨_, rfl⟩
                  simp only [← hW1] at hnx hit2 hbw2
                  have HPOS := Aside0.mk hpos0
                  have HIT := Aside0.mk hit2
                  have HBW := Aside0.mk hbw2
                  have hlo : (48 : Int) ≤ (d[pos].toNat : Int) := by omega
                  have hhi : (d[pos].toNat : Int) ≤ 57 := by omega
                  have HL := HA.out
                  rw [ints_Parse.drop d pos hp] at HL
                  unfold ints_Parse.l1 at HL
                  obtain ⟨⟨t1, t2⟩, M1, HL⟩ := Option.bind_eq_some_iff.mp HL
                  obtain ⟨⟨t3, t4⟩, M2, HL⟩ := Option.bind_eq_some_iff.mp HL
                  have M1' := Aside0.mk M1
                  have M2' := Aside0.mk M2
                  have HL' := Aside0.mk HL
                  clear M1 M2 HL HA hW1 hit hpos0 hit2 hbw2 HB hdg hdg2 hc
                  cases m with
                  | true =>
                    have M3 : Aside0 (ints_add.f t1 (-((d[pos].toNat : Int) - 48)) = some (t3, t4)) := ⟨by have := M2'.out; rw [if_pos rfl] at this; exact this⟩
                    clear M2'
                    cases t2 with
                    | false =>
                      have hr : (0, 10) = (r1, r2) := Option.some.inj (by have := HL'.out; rw [if_neg (fun h => Bool.false_ne_true h)] at this; exact this)
                      cases hr
                      clear HL'
                      go_wp2_with (first | (go_at_call 33; (with_reducible refine (ints_mul.calls _ _ _ _ _ M1'.out).mono ?_); rintro e w' ⟨rfl, ⟨nd, rfl⟩⟩) | (go_at_call 34; (with_reducible refine (ints_add.calls _ _ _ _ _ M3.out).mono ?_); rintro e w' ⟨rfl, ⟨nd, rfl⟩⟩))
                      go_ret2
                      exact ⟨by first | rfl | (simp; done), by repeat (first | exact HBW.out | apply pw_below_drewN)⟩
                    | true =>
                      cases t4 with
                      | false =>
                        have hr : (0, 10) = (r1, r2) := Option.some.inj (by have := HL'.out; rw [if_pos rfl, if_neg (fun h => Bool.false_ne_true h)] at this; exact this)
                        cases hr
                        clear HL'
                        go_wp2_with (first | (go_at_call 33; (with_reducible refine (ints_mul.calls _ _ _ _ _ M1'.out).mono ?_); rintro e w' ⟨rfl, ⟨nd, rfl⟩⟩) | (go_at_call 34; (with_reducible refine (ints_add.calls _ _ _ _ _ M3.out).mono ?_); rintro e w' ⟨rfl, ⟨nd, rfl⟩⟩))
                        go_ret2
                        exact ⟨by first | rfl | (simp; done), by repeat (first | exact HBW.out | apply pw_below_drewN)⟩
                      | true =>
                        have H6 : Aside0 (ints_Parse.l1 true (d.data.toList.drop (pos + 1)) t3 = some (r1, r2)) := ⟨by have := HL'.out; rw [if_pos rfl, if_pos rfl] at this; exact this⟩
                        clear HL'
                        go_wp2_with (first | (go_at_call 33; (with_reducible refine (ints_mul.calls _ _ _ _ _ M1'.out).mono ?_); rintro e w' ⟨rfl, ⟨nd, rfl⟩⟩) | (go_at_call 34; (with_reducible refine (ints_add.calls _ _ _ _ _ M3.out).mono ?_); rintro e w' ⟨rfl, ⟨nd2, rfl⟩⟩))
                        go_roundw
                        case rel => exact ⟨pos + 1, t3, by first | rfl | (simp; done), HIT.out, by omega, H6, ⟨by repeat (first | exact HBW.out | apply pw_below_drewN)⟩⟩
                        case measure => rw [HPOS.out]; have := ints_Parse.pos HIT.out; (first | (rw [this]; omega) | (simp only [World.iterPos] at this ⊢; simp at this ⊢; omega) | skip)
                  | false =>
                    have M3 : Aside0 (ints_add.f t1 ((d[pos].toNat : Int) - 48) = some (t3, t4)) := ⟨by have := M2'.out; rw [if_neg (by decide)] at this; exact this⟩
                    clear M2'
                    cases t2 with
                    | false =>
                      have hr : (0, 10) = (r1, r2) := Option.some.inj (by have := HL'.out; rw [if_neg (fun h => Bool.false_ne_true h)] at this; exact this)
                      cases hr
                      clear HL'
                      go_wp2_with (first | (go_at_call 33; (with_reducible refine (ints_mul.calls _ _ _ _ _ M1'.out).mono ?_); rintro e w' ⟨rfl, ⟨nd, rfl⟩⟩) | (go_at_call 34; (with_reducible refine (ints_add.calls _ _ _ _ _ M3.out).mono ?_); rintro e w' ⟨rfl, ⟨nd, rfl⟩⟩))
                      go_ret2
                      exact ⟨by first | rfl | (simp; done), by repeat (first | exact HBW.out | apply pw_below_drewN)⟩
                    | true =>
                      cases t4 with
                      | false =>
                        have hr : (0, 10) = (r1, r2) := Option.some.inj (by have := HL'.out; rw [if_pos rfl, if_neg (fun h => Bool.false_ne_true h)] at this; exact this)
                        cases hr
                        clear HL'
                        go_wp2_with (first | (go_at_call 33; (with_reducible refine (ints_mul.calls _ _ _ _ _ M1'.out).mono ?_); rintro e w' ⟨rfl, ⟨nd, rfl⟩⟩) | (go_at_call 34; (with_reducible refine (ints_add.calls _ _ _ _ _ M3.out).mono ?_); rintro e w' ⟨rfl, ⟨nd, rfl⟩⟩))
                        go_ret2
                        exact ⟨by first | rfl | (simp; done), by repeat (first | exact HBW.out | apply pw_below_drewN)⟩
                      | true =>
                        have H6 : Aside0 (ints_Parse.l1 false (d.data.toList.drop (pos + 1)) t3 = some (r1, r2)) := ⟨by have := HL'.out; rw [if_pos rfl, if_pos rfl] at this; exact this⟩
                        clear HL'
                        go_wp2_with (first | (go_at_call 33; (with_reducible refine (ints_mul.calls _ _ _ _ _ M1'.out).mono ?_); rintro e w' ⟨rfl, ⟨nd, rfl⟩⟩) | (go_at_call 34; (with_reducible refine (ints_add.calls _ _ _ _ _ M3.out).mono ?_); rintro e w' ⟨rfl, ⟨nd2, rfl⟩⟩))
                        go_roundw
                        case rel => exact ⟨pos + 1, t3, by first | rfl | (simp; done), HIT.out, by omega, H6, ⟨by repeat (first | exact HBW.out | apply pw_below_drewN)⟩⟩
                        case measure => rw [HPOS.out]; have := ints_Parse.pos HIT.out; (first | (rw [this]; omega) | (simp only [World.iterPos] at this ⊢; simp at this ⊢; omega) | skip)
                · have hnx : ∀ ty, (Instr.next (.pointer (some ⟨wo.heap.size, 0, none⟩)) true ty).run Try.prog wr = _ := fun ty => Lib.run_next_end_at wr wo.heap.size d pos ty hit hp
                  have hr : (n, 0) = (r1, r2) := Option.some.inj (by have := HA.out; rw [List.drop_eq_nil_of_le (by simp; omega)] at this; exact this)
                  cases hr
                  clear HA hit hpos0
                  go_wp2
                  go_ret2
                  exact ⟨by first | rfl | (simp; done), HB.out⟩

/-! ### lexer_text: function 29 -/
def lexer_text.l0 : Nat → List Int → List Int → Int → Option (ByteArray × Int)
 | 0, _, _, _ => none
 | k + 1, x0, x6, x7 => if x7 < (x0.length : Int) then (if 0 ≤ x7 then (if (rd x0 x7) = 39 then (if (x6.length : Int) > 1000 then (some ((⟨#[]⟩ : ByteArray), (-1))) else (some (strOfNums x6, wrap64 (x7 + 1)))) else (if (rd x0 x7) < 32 then (some ((⟨#[]⟩ : ByteArray), (-1))) else (if (rd x0 x7) = 92 then (if (wrap64 (x7 + 1)) = (x0.length : Int) then (some ((⟨#[]⟩ : ByteArray), (-1))) else (if 0 ≤ (wrap64 (x7 + 1)) then (if (wrap64 (x7 + 1)) < (x0.length : Int) then (if (rd x0 (wrap64 (x7 + 1))) = 39 then (if x6.length < 140737488355328 then (lexer_text.l0 k x0 (x6 ++ [rd x0 (wrap64 (x7 + 1))]) (wrap64 ((wrap64 (x7 + 1)) + 1))) else (none)) else (if (rd x0 (wrap64 (x7 + 1))) = 92 then (if x6.length < 140737488355328 then (lexer_text.l0 k x0 (x6 ++ [rd x0 (wrap64 (x7 + 1))]) (wrap64 ((wrap64 (x7 + 1)) + 1))) else (none)) else (some ((⟨#[]⟩ : ByteArray), (-1))))) else (none)) else (none))) else (if x6.length < 140737488355328 then (lexer_text.l0 k x0 (x6 ++ [rd x0 x7]) (wrap64 (x7 + 1))) else (none))))) else (none)) else (some ((⟨#[]⟩ : ByteArray), (-1)))
def lexer_text.f (k : Nat) (l0 : List Int) (a1 : Int) : Option (ByteArray × Int) := lexer_text.l0 k l0 ([] : List Int) (wrap64 (a1 + 1))
theorem lexer_text.mono_l : ∀ k, (∀ y0 y1 y2, LeO (lexer_text.l0 k y0 y1 y2) (lexer_text.l0 (k + 1) y0 y1 y2))
 | 0 => fun _ _ _ r h => by simp [lexer_text.l0] at h
 | k + 1 => by
  have ih0 := lexer_text.mono_l k
  ·intro y0 y1 y2
   unfold lexer_text.l0
   repeat' first
   | (with_reducible exact ih0 _ _ _)
   | (with_reducible exact LeO.refl _)
   | (with_reducible exact LeO.none _)
   | (with_reducible refine LeO.ite ?_ ?_)
   | (with_reducible refine LeO.bind ?_ (fun _ => ?_))
   | exact ih0 _ _ _
   | exact LeO.none _
   | refine LeO.ite ?_ ?_
   | refine LeO.bind ?_ (fun _ => ?_)
theorem lexer_text.mono : ∀ a0 a1 k, LeO (lexer_text.f k a0 a1) (lexer_text.f (k + 1) a0 a1) := by
 intro a0 a1 k
 have ih0 := lexer_text.mono_l k
 unfold lexer_text.f
 repeat' first
   | (with_reducible exact ih0 _ _ _)
   | (with_reducible exact LeO.refl _)
   | (with_reducible exact LeO.none _)
   | (with_reducible refine LeO.ite ?_ ?_)
   | (with_reducible refine LeO.bind ?_ (fun _ => ?_))
   | exact ih0 _ _ _
   | exact LeO.none _
   | refine LeO.ite ?_ ?_
   | refine LeO.bind ?_ (fun _ => ?_)
set_option maxHeartbeats 8000000 in
set_option maxRecDepth 100000 in
theorem lexer_text.calls (k : Nat) (A0 : Option Addr) (c0 : Nat) (l0 : List Int) (a1 : Int) (r1 : ByteArray) (r2 : Int) (w : World) (hr0 : Kd.C (Kd.int .u8) w A0 l0.length l0) (hc0 : l0.length ≤ c0) (h : lexer_text.f k l0 a1 = some (r1, r2)) :
  Calls Try.prog 29 #[.slice A0 l0.length c0, .int .i64 a1] w fun e w' => e = .returned (.tuple #[.string r1, .int .i64 r2]) ∧ Below w.heap.size w w' := by
 have HR0 := Aside0.mk hr0
 have HC0 := Aside0.mk hc0
 clear hr0 hc0
 have HB := Aside0.mk (Below.refl w.heap.size w)
 have H : (lexer_text.l0 k l0 ([] : List Int) (wrap64 (a1 + 1))) = some (r1, r2) := h
 clear h
 have H' := Aside0.mk H
 clear H
 go_enter Try.func29, Try.ntmps29
 go_wp2
 go_loopg [6, 7] k (fun kq v6 v7 w' => ∃ (x6_1 : List Int) (x7_1 : Int), v7 = .int .i64 x7_1 ∧ Aside0 (lexer_text.l0 kq l0 x6_1 x7_1 = some (r1, r2)) ∧ Aside0 (kq ≤ k) ∧ Aside0 (Kd.R (Kd.int .u8) 5 w' w.heap.size (fun _ => True) v6 x6_1) ∧ Aside0 (Below w.heap.size w w'))
 case atStart => exact ⟨(([] : List Int)), (wrap64 (a1 + 1)), (by first | rfl | (simp; done) | (simp [*]; done)), H', ⟨Nat.le_refl _⟩, ⟨by first | exact Kd.R_nil _ _ _ _ _ | exact Kd.N_nil _ _ _ _ _ | exact Kd.V_nil _ _ _ _ _ | exact Kd.Q_nil _ _ _ _ _ | exact Kd.S_nil _ _ _ _ _⟩, ⟨by repeat (first | (with_reducible first | exact HB.out | apply below_alloc | apply pw_below_drewN | apply below_drew1) | exact HB.out)⟩⟩
 case round =>
  clear H'
  try clear c2
  try clear p2
  obtain ⟨x6_1, x7_1, rfl, HA, HK1, HO_6, HB⟩ := hrel
  cases gk with
  | zero => exact absurd HA.out (by simp [lexer_text.l0])
  | succ k1 =>
   have H := HA.out
   clear HA
   simp only [lexer_text.l0] at H
   by_cases c3 : x7_1 < (l0.length : Int)
   ·rw [if_pos c3] at H
    have c3b0 : decide (x7_1 < (l0.length : Int)) = true := decide_eq_true c3
    clear c3
    by_cases c4 : 0 ≤ x7_1
    ·rw [if_pos c4] at H
     have c4b0 : decide (0 ≤ x7_1) = true := decide_eq_true c4
     clear c4
     by_cases c5 : (rd l0 x7_1) = 39
     ·rw [if_pos c5] at H
      have c5b0 : ((rd l0 x7_1) == 39) = true := beq_iff_eq.mpr c5
      have c5b1 : ((rd l0 x7_1) != 39) = false := bne_eq_false_iff_eq.mpr c5
      clear c5
      by_cases c6 : (x6_1.length : Int) > 1000
      ·rw [if_pos c6] at H
       have c6b0 : decide (1000 < (x6_1.length : Int)) = true := decide_eq_true c6
       have c6b1 : decide (1000 < x6_1.length) = true := decide_eq_true (by omega)
       clear c6
       simp only [Option.some.injEq, Prod.mk.injEq] at H
       obtain ⟨rfl, rfl⟩ := H
       have p107 : 0 ≤ (x7_1 : Int) := of_decide_eq_true (by first | (with_reducible assumption) | assumption)
       have q107 : x7_1 < (l0.length : Int) := of_decide_eq_true (by first | (with_reducible assumption) | assumption)
       obtain ⟨ad107, e107, hx107_0⟩ := Kd.at_int HR0.out x7_1 p107 q107
       cases e107
       replace hx107_0 := (HB.out.cell (World.block_lt_of_cell? w _ hx107_0)).trans hx107_0
       replace p107 := eq_true p107
       replace q107 := eq_true q107
       obtain ⟨Ao7, co7, eo7⟩ := Kd.R_slice HO_6.out
       subst eo7
       go_wp2
       go_ret2
       exact ⟨by first | rfl | (simp [errW_none, errW_some] <;> rfl) | (simp [*, errW_none, errW_some] <;> rfl), by repeat (first | (with_reducible first | exact HB.out | apply below_alloc | apply pw_below_drewN | apply below_drew1) | exact HB.out)⟩
      ·rw [if_neg c6] at H
       have c6b0 : decide (1000 < (x6_1.length : Int)) = false := decide_eq_false c6
       have c6b1 : decide (1000 < x6_1.length) = false := decide_eq_false (by omega)
       clear c6
       simp only [Option.some.injEq, Prod.mk.injEq] at H
       obtain ⟨rfl, rfl⟩ := H
       have p107 : 0 ≤ (x7_1 : Int) := of_decide_eq_true (by first | (with_reducible assumption) | assumption)
       have q107 : x7_1 < (l0.length : Int) := of_decide_eq_true (by first | (with_reducible assumption) | assumption)
       obtain ⟨ad107, e107, hx107_0⟩ := Kd.at_int HR0.out x7_1 p107 q107
       cases e107
       replace hx107_0 := (HB.out.cell (World.block_lt_of_cell? w _ hx107_0)).trans hx107_0
       replace p107 := eq_true p107
       replace q107 := eq_true q107
       obtain ⟨Ao8, co8, eo8⟩ := Kd.R_slice HO_6.out
       subst eo8
       have hcv9 := own_string (P := Try.prog) Try.underlying22 Try.underlying5 Try.underlying9 (Kd.own_of_R HO_6.out)
       go_wp2
       go_ret2
       exact ⟨by first | rfl | (simp [errW_none, errW_some] <;> rfl) | (simp [*, errW_none, errW_some] <;> rfl), by repeat (first | (with_reducible first | exact HB.out | apply below_alloc | apply pw_below_drewN | apply below_drew1) | exact HB.out)⟩
     ·rw [if_neg c5] at H
      have c5b0 : ((rd l0 x7_1) == 39) = false := beq_eq_false_iff_ne.mpr c5
      have c5b1 : ((rd l0 x7_1) != 39) = true := bne_iff_ne.mpr c5
      by_cases c10 : (rd l0 x7_1) < 32
      ·rw [if_pos c10] at H
       have c10b0 : decide ((rd l0 x7_1) < 32) = true := decide_eq_true c10
       clear c10
       simp only [Option.some.injEq, Prod.mk.injEq] at H
       obtain ⟨rfl, rfl⟩ := H
       have p107 : 0 ≤ (x7_1 : Int) := of_decide_eq_true (by first | (with_reducible assumption) | assumption)
       have q107 : x7_1 < (l0.length : Int) := of_decide_eq_true (by first | (with_reducible assumption) | assumption)
       obtain ⟨ad107, e107, hx107_0⟩ := Kd.at_int HR0.out x7_1 p107 q107
       cases e107
       replace hx107_0 := (HB.out.cell (World.block_lt_of_cell? w _ hx107_0)).trans hx107_0
       replace p107 := eq_true p107
       replace q107 := eq_true q107
       go_wp2
       go_ret2
       exact ⟨by first | rfl | (simp [errW_none, errW_some] <;> rfl) | (simp [*, errW_none, errW_some] <;> rfl), by repeat (first | (with_reducible first | exact HB.out | apply below_alloc | apply pw_below_drewN | apply below_drew1) | exact HB.out)⟩
      ·rw [if_neg c10] at H
       have c10b0 : decide ((rd l0 x7_1) < 32) = false := decide_eq_false c10
       clear c10
       by_cases c11 : (rd l0 x7_1) = 92
       ·rw [if_pos c11] at H
        have c11b0 : ((rd l0 x7_1) == 92) = true := beq_iff_eq.mpr c11
        have c11b1 : ((rd l0 x7_1) != 92) = false := bne_eq_false_iff_eq.mpr c11
        clear c11
        by_cases c12 : (wrap64 (x7_1 + 1)) = (l0.length : Int)
        ·rw [if_pos c12] at H
         have c12b0 : ((wrap64 (x7_1 + 1)) == (l0.length : Int)) = true := beq_iff_eq.mpr c12
         have c12b1 : ((wrap64 (x7_1 + 1)) != (l0.length : Int)) = false := bne_eq_false_iff_eq.mpr c12
         clear c12
         simp only [Option.some.injEq, Prod.mk.injEq] at H
         obtain ⟨rfl, rfl⟩ := H
         have p107 : 0 ≤ (x7_1 : Int) := of_decide_eq_true (by first | (with_reducible assumption) | assumption)
         have q107 : x7_1 < (l0.length : Int) := of_decide_eq_true (by first | (with_reducible assumption) | assumption)
         obtain ⟨ad107, e107, hx107_0⟩ := Kd.at_int HR0.out x7_1 p107 q107
         cases e107
         replace hx107_0 := (HB.out.cell (World.block_lt_of_cell? w _ hx107_0)).trans hx107_0
         replace p107 := eq_true p107
         replace q107 := eq_true q107
         go_wp2
         go_ret2
         exact ⟨by first | rfl | (simp [errW_none, errW_some] <;> rfl) | (simp [*, errW_none, errW_some] <;> rfl), by repeat (first | (with_reducible first | exact HB.out | apply below_alloc | apply pw_below_drewN | apply below_drew1) | exact HB.out)⟩
        ·rw [if_neg c12] at H
         have c12b0 : ((wrap64 (x7_1 + 1)) == (l0.length : Int)) = false := beq_eq_false_iff_ne.mpr c12
         have c12b1 : ((wrap64 (x7_1 + 1)) != (l0.length : Int)) = true := bne_iff_ne.mpr c12
         obtain ⟨ji13, hji13⟩ : ∃ j_ : Int, (wrap64 (x7_1 + 1)) = j_ := ⟨_, rfl⟩
         replace H : (if 0 ≤ (ji13) then (if (ji13) < (l0.length : Int) then (if (rd l0 (ji13)) = 39 then (if x6_1.length < 140737488355328 then (lexer_text.l0 k1 l0 (x6_1 ++ [rd l0 (ji13)]) (wrap64 ((ji13) + 1))) else (none)) else (if (rd l0 (ji13)) = 92 then (if x6_1.length < 140737488355328 then (lexer_text.l0 k1 l0 (x6_1 ++ [rd l0 (ji13)]) (wrap64 ((ji13) + 1))) else (none)) else (some ((⟨#[]⟩ : ByteArray), (-1))))) else (none)) else (none)) = some (r1, r2) := by first | (rw [hji13] at H; exact H) | (simp only [hji13] at H ⊢; exact H)
         (try rw [hji13] at c12b0)
         (try rw [hji13] at c12b1)
         have hji13w : (IntKind.i64.wrap (x7_1 + 1)) = ji13 := (i64_w _).trans hji13
         by_cases c14 : 0 ≤ (ji13)
         ·rw [if_pos c14] at H
          have c14b0 : decide (0 ≤ (ji13)) = true := decide_eq_true c14
          clear c14
          by_cases c15 : (ji13) < (l0.length : Int)
          ·rw [if_pos c15] at H
           have c15b0 : decide ((ji13) < (l0.length : Int)) = true := decide_eq_true c15
           clear c15
           by_cases c16 : (rd l0 (ji13)) = 39
           ·rw [if_pos c16] at H
            have c16b0 : ((rd l0 (ji13)) == 39) = true := beq_iff_eq.mpr c16
            have c16b1 : ((rd l0 (ji13)) != 39) = false := bne_eq_false_iff_eq.mpr c16
            clear c16
            by_cases c17 : x6_1.length < 140737488355328
            ·rw [if_pos c17] at H
             have LMc17 := Aside0.mk c17
             clear c17
             obtain ⟨y110, hy110⟩ : ∃ y_ : List Int, y_ = (x6_1 ++ [rd l0 (ji13)]) := ⟨_, rfl⟩
             replace H : (lexer_text.l0 k1 l0 y110 (wrap64 ((ji13) + 1))) = some (r1, r2) := by first | (rw [hy110]; with_reducible exact H) | (have H2_ := (Option.bind_some _ _).symm.trans H; rw [hy110]; with_reducible exact H2_) | (have H2_ := (Option.bind_some _ _).symm.trans H; with_reducible exact H2_) | with_reducible exact H | (rw [hy110]; exact H) | exact H
             have Ny110 := Aside0.mk hy110
             clear hy110
             have H' := Aside0.mk H
             clear H
             have p107 : 0 ≤ (x7_1 : Int) := of_decide_eq_true (by first | (with_reducible assumption) | assumption)
             have q107 : x7_1 < (l0.length : Int) := of_decide_eq_true (by first | (with_reducible assumption) | assumption)
             obtain ⟨ad107, e107, hx107_0⟩ := Kd.at_int HR0.out x7_1 p107 q107
             cases e107
             replace hx107_0 := (HB.out.cell (World.block_lt_of_cell? w _ hx107_0)).trans hx107_0
             replace p107 := eq_true p107
             replace q107 := eq_true q107
             have p108 : 0 ≤ ((ji13) : Int) := of_decide_eq_true (by first | (with_reducible assumption) | assumption)
             have q108 : (ji13) < (l0.length : Int) := of_decide_eq_true (by first | (with_reducible assumption) | assumption)
             obtain ⟨ad108, e108, hx108_0⟩ := Kd.at_int HR0.out (ji13) p108 q108
             obtain rfl : ad107 = ad108 := (by injection e108)
             replace hx108_0 := (HB.out.cell (World.block_lt_of_cell? w _ hx108_0)).trans hx108_0
             replace p108 := eq_true p108
             replace q108 := eq_true q108
             have p109 : 0 ≤ ((ji13) : Int) := of_decide_eq_true (by first | (with_reducible assumption) | assumption)
             have q109 : (ji13) < (l0.length : Int) := of_decide_eq_true (by first | (with_reducible assumption) | assumption)
             obtain ⟨ad109, e109, hx109_0⟩ := Kd.at_int HR0.out (ji13) p109 q109
             obtain rfl : ad107 = ad109 := (by injection e109)
             replace hx109_0 := (HB.out.cell (World.block_lt_of_cell? w _ hx109_0)).trans hx109_0
             replace p109 := eq_true p109
             replace q109 := eq_true q109
             go_wp2_with (first | ((with_reducible refine gate_builtin (b := .append) (xs := #[.tmp 61, .tmp 63]) rfl ?_); at_builtin; refine Kd.R_append (Kd.int .u8) (w0 := w) w.heap.size rfl (.tmp 61) (.tmp 63) 22 5 (.int .u8 0) 1 rfl Try.underlying22 info5 rfl (by decide) (by omega) u6 x6_1 (rd l0 (ji13)) [.int .u8 (rd l0 (ji13))] (fun _ => True) (fun _ => False) rfl rfl ?aP (fun _ hk => hk.elim) ?aF ?aO ?aB ?aS ?aL ?_; (case aP => exact rfl); (case aB => exact (by repeat (first | (with_reducible first | exact HB.out | apply below_alloc | apply pw_below_drewN | apply below_drew1) | exact HB.out))); (case aF => exact (fun _ _ => trivial)); (case aO => exact (by (with_reducible repeat (first | apply Kd.R_alloc | apply Kd.R_drewN | apply Kd.R_drew)); exact HO_6.out)); (case aS => exact (below_size (by repeat (first | (with_reducible first | exact HB.out | apply below_alloc | apply pw_below_drewN | apply below_drew1) | exact HB.out)))); (case aL => have := LMc17.out; omega); intro v111 w18 ho hb hg hat; rw [← Ny110.out] at ho; have n0_ := Aside0.mk (hb); have n1_ := Aside0.mk (ho); clear HB; clear HO_6; have HB := n0_; have HO112 := n1_; clear n0_ n1_; clear ho hb hg hat))
             go_roundg k1
             case measure => have := HK1.out; omega
             case rel => exact ⟨(y110), (wrap64 ((ji13) + 1)), (by first | rfl | (simp; done) | (simp only [← hji13] <;> (first | rfl | simp)) | (simp [*]; done)), H', ⟨by have := HK1.out; omega⟩, ⟨by (with_reducible repeat (first | apply Kd.R_alloc | apply Kd.R_drewN | apply Kd.R_drew)); exact HO112.out⟩, ⟨by repeat (first | (with_reducible first | exact HB.out | apply below_alloc | apply pw_below_drewN | apply below_drew1) | exact HB.out)⟩⟩
            ·rw [if_neg c17] at H
             exact absurd H (by simp)
           ·rw [if_neg c16] at H
            have c16b0 : ((rd l0 (ji13)) == 39) = false := beq_eq_false_iff_ne.mpr c16
            have c16b1 : ((rd l0 (ji13)) != 39) = true := bne_iff_ne.mpr c16
            by_cases c19 : (rd l0 (ji13)) = 92
            ·rw [if_pos c19] at H
             have c19b0 : ((rd l0 (ji13)) == 92) = true := beq_iff_eq.mpr c19
             have c19b1 : ((rd l0 (ji13)) != 92) = false := bne_eq_false_iff_eq.mpr c19
             clear c19
             by_cases c20 : x6_1.length < 140737488355328
             ·rw [if_pos c20] at H
              have LMc20 := Aside0.mk c20
              clear c20
              obtain ⟨y115, hy115⟩ : ∃ y_ : List Int, y_ = (x6_1 ++ [rd l0 (ji13)]) := ⟨_, rfl⟩
              replace H : (lexer_text.l0 k1 l0 y115 (wrap64 ((ji13) + 1))) = some (r1, r2) := by first | (rw [hy115]; with_reducible exact H) | (have H2_ := (Option.bind_some _ _).symm.trans H; rw [hy115]; with_reducible exact H2_) | (have H2_ := (Option.bind_some _ _).symm.trans H; with_reducible exact H2_) | with_reducible exact H | (rw [hy115]; exact H) | exact H
              have Ny115 := Aside0.mk hy115
              clear hy115
              have H' := Aside0.mk H
              clear H
              have p107 : 0 ≤ (x7_1 : Int) := of_decide_eq_true (by first | (with_reducible assumption) | assumption)
              have q107 : x7_1 < (l0.length : Int) := of_decide_eq_true (by first | (with_reducible assumption) | assumption)
              obtain ⟨ad107, e107, hx107_0⟩ := Kd.at_int HR0.out x7_1 p107 q107
              cases e107
              replace hx107_0 := (HB.out.cell (World.block_lt_of_cell? w _ hx107_0)).trans hx107_0
              replace p107 := eq_true p107
              replace q107 := eq_true q107
              have p108 : 0 ≤ ((ji13) : Int) := of_decide_eq_true (by first | (with_reducible assumption) | assumption)
              have q108 : (ji13) < (l0.length : Int) := of_decide_eq_true (by first | (with_reducible assumption) | assumption)
              obtain ⟨ad108, e108, hx108_0⟩ := Kd.at_int HR0.out (ji13) p108 q108
              obtain rfl : ad107 = ad108 := (by injection e108)
              replace hx108_0 := (HB.out.cell (World.block_lt_of_cell? w _ hx108_0)).trans hx108_0
              replace p108 := eq_true p108
              replace q108 := eq_true q108
              have p113 : 0 ≤ ((ji13) : Int) := of_decide_eq_true (by first | (with_reducible assumption) | assumption)
              have q113 : (ji13) < (l0.length : Int) := of_decide_eq_true (by first | (with_reducible assumption) | assumption)
              obtain ⟨ad113, e113, hx113_0⟩ := Kd.at_int HR0.out (ji13) p113 q113
              obtain rfl : ad107 = ad113 := (by injection e113)
              replace hx113_0 := (HB.out.cell (World.block_lt_of_cell? w _ hx113_0)).trans hx113_0
              replace p113 := eq_true p113
              replace q113 := eq_true q113
              have p114 : 0 ≤ ((ji13) : Int) := of_decide_eq_true (by first | (with_reducible assumption) | assumption)
              have q114 : (ji13) < (l0.length : Int) := of_decide_eq_true (by first | (with_reducible assumption) | assumption)
              obtain ⟨ad114, e114, hx114_0⟩ := Kd.at_int HR0.out (ji13) p114 q114
              obtain rfl : ad107 = ad114 := (by injection e114)
              replace hx114_0 := (HB.out.cell (World.block_lt_of_cell? w _ hx114_0)).trans hx114_0
              replace p114 := eq_true p114
              replace q114 := eq_true q114
              go_wp2_with (first | ((with_reducible refine gate_builtin (b := .append) (xs := #[.tmp 61, .tmp 63]) rfl ?_); at_builtin; refine Kd.R_append (Kd.int .u8) (w0 := w) w.heap.size rfl (.tmp 61) (.tmp 63) 22 5 (.int .u8 0) 1 rfl Try.underlying22 info5 rfl (by decide) (by omega) u6 x6_1 (rd l0 (ji13)) [.int .u8 (rd l0 (ji13))] (fun _ => True) (fun _ => False) rfl rfl ?aP (fun _ hk => hk.elim) ?aF ?aO ?aB ?aS ?aL ?_; (case aP => exact rfl); (case aB => exact (by repeat (first | (with_reducible first | exact HB.out | apply below_alloc | apply pw_below_drewN | apply below_drew1) | exact HB.out))); (case aF => exact (fun _ _ => trivial)); (case aO => exact (by (with_reducible repeat (first | apply Kd.R_alloc | apply Kd.R_drewN | apply Kd.R_drew)); exact HO_6.out)); (case aS => exact (below_size (by repeat (first | (with_reducible first | exact HB.out | apply below_alloc | apply pw_below_drewN | apply below_drew1) | exact HB.out)))); (case aL => have := LMc20.out; omega); intro v116 w21 ho hb hg hat; rw [← Ny115.out] at ho; have n0_ := Aside0.mk (hb); have n1_ := Aside0.mk (ho); clear HB; clear HO_6; have HB := n0_; have HO117 := n1_; clear n0_ n1_; clear ho hb hg hat))
              go_roundg k1
              case measure => have := HK1.out; omega
              case rel => exact ⟨(y115), (wrap64 ((ji13) + 1)), (by first | rfl | (simp; done) | (simp only [← hji13] <;> (first | rfl | simp)) | (simp [*]; done)), H', ⟨by have := HK1.out; omega⟩, ⟨by (with_reducible repeat (first | apply Kd.R_alloc | apply Kd.R_drewN | apply Kd.R_drew)); exact HO117.out⟩, ⟨by repeat (first | (with_reducible first | exact HB.out | apply below_alloc | apply pw_below_drewN | apply below_drew1) | exact HB.out)⟩⟩
             ·rw [if_neg c20] at H
              exact absurd H (by simp)
            ·rw [if_neg c19] at H
             have c19b0 : ((rd l0 (ji13)) == 92) = false := beq_eq_false_iff_ne.mpr c19
             have c19b1 : ((rd l0 (ji13)) != 92) = true := bne_iff_ne.mpr c19
             simp only [Option.some.injEq, Prod.mk.injEq] at H
             obtain ⟨rfl, rfl⟩ := H
             have p107 : 0 ≤ (x7_1 : Int) := of_decide_eq_true (by first | (with_reducible assumption) | assumption)
             have q107 : x7_1 < (l0.length : Int) := of_decide_eq_true (by first | (with_reducible assumption) | assumption)
             obtain ⟨ad107, e107, hx107_0⟩ := Kd.at_int HR0.out x7_1 p107 q107
             cases e107
             replace hx107_0 := (HB.out.cell (World.block_lt_of_cell? w _ hx107_0)).trans hx107_0
             replace p107 := eq_true p107
             replace q107 := eq_true q107
             have p108 : 0 ≤ ((ji13) : Int) := of_decide_eq_true (by first | (with_reducible assumption) | assumption)
             have q108 : (ji13) < (l0.length : Int) := of_decide_eq_true (by first | (with_reducible assumption) | assumption)
             obtain ⟨ad108, e108, hx108_0⟩ := Kd.at_int HR0.out (ji13) p108 q108
             obtain rfl : ad107 = ad108 := (by injection e108)
             replace hx108_0 := (HB.out.cell (World.block_lt_of_cell? w _ hx108_0)).trans hx108_0
             replace p108 := eq_true p108
             replace q108 := eq_true q108
             have p113 : 0 ≤ ((ji13) : Int) := of_decide_eq_true (by first | (with_reducible assumption) | assumption)
             have q113 : (ji13) < (l0.length : Int) := of_decide_eq_true (by first | (with_reducible assumption) | assumption)
             obtain ⟨ad113, e113, hx113_0⟩ := Kd.at_int HR0.out (ji13) p113 q113
             obtain rfl : ad107 = ad113 := (by injection e113)
             replace hx113_0 := (HB.out.cell (World.block_lt_of_cell? w _ hx113_0)).trans hx113_0
             replace p113 := eq_true p113
             replace q113 := eq_true q113
             go_wp2
             go_ret2
             exact ⟨by first | rfl | (simp [errW_none, errW_some] <;> rfl) | (simp only [← hji13]; first | rfl | (simp [errW_none, errW_some] <;> rfl)) | (simp [*, errW_none, errW_some] <;> rfl), by repeat (first | (with_reducible first | exact HB.out | apply below_alloc | apply pw_below_drewN | apply below_drew1) | exact HB.out)⟩
          ·rw [if_neg c15] at H
           exact absurd H (by simp)
         ·rw [if_neg c14] at H
          exact absurd H (by simp)
       ·rw [if_neg c11] at H
        have c11b0 : ((rd l0 x7_1) == 92) = false := beq_eq_false_iff_ne.mpr c11
        have c11b1 : ((rd l0 x7_1) != 92) = true := bne_iff_ne.mpr c11
        by_cases c22 : x6_1.length < 140737488355328
        ·rw [if_pos c22] at H
         have LMc22 := Aside0.mk c22
         clear c22
         obtain ⟨y118, hy118⟩ : ∃ y_ : List Int, y_ = (x6_1 ++ [rd l0 x7_1]) := ⟨_, rfl⟩
         replace H : (lexer_text.l0 k1 l0 y118 (wrap64 (x7_1 + 1))) = some (r1, r2) := by first | (rw [hy118]; with_reducible exact H) | (have H2_ := (Option.bind_some _ _).symm.trans H; rw [hy118]; with_reducible exact H2_) | (have H2_ := (Option.bind_some _ _).symm.trans H; with_reducible exact H2_) | with_reducible exact H | (rw [hy118]; exact H) | exact H
         have Ny118 := Aside0.mk hy118
         clear hy118
         have H' := Aside0.mk H
         clear H
         have p107 : 0 ≤ (x7_1 : Int) := of_decide_eq_true (by first | (with_reducible assumption) | assumption)
         have q107 : x7_1 < (l0.length : Int) := of_decide_eq_true (by first | (with_reducible assumption) | assumption)
         obtain ⟨ad107, e107, hx107_0⟩ := Kd.at_int HR0.out x7_1 p107 q107
         cases e107
         replace hx107_0 := (HB.out.cell (World.block_lt_of_cell? w _ hx107_0)).trans hx107_0
         replace p107 := eq_true p107
         replace q107 := eq_true q107
         go_wp2_with (first | ((with_reducible refine gate_builtin (b := .append) (xs := #[.tmp 61, .tmp 63]) rfl ?_); at_builtin; refine Kd.R_append (Kd.int .u8) (w0 := w) w.heap.size rfl (.tmp 61) (.tmp 63) 22 5 (.int .u8 0) 1 rfl Try.underlying22 info5 rfl (by decide) (by omega) u6 x6_1 (rd l0 x7_1) [.int .u8 (rd l0 x7_1)] (fun _ => True) (fun _ => False) rfl rfl ?aP (fun _ hk => hk.elim) ?aF ?aO ?aB ?aS ?aL ?_; (case aP => exact rfl); (case aB => exact (by repeat (first | (with_reducible first | exact HB.out | apply below_alloc | apply pw_below_drewN | apply below_drew1) | exact HB.out))); (case aF => exact (fun _ _ => trivial)); (case aO => exact (by (with_reducible repeat (first | apply Kd.R_alloc | apply Kd.R_drewN | apply Kd.R_drew)); exact HO_6.out)); (case aS => exact (below_size (by repeat (first | (with_reducible first | exact HB.out | apply below_alloc | apply pw_below_drewN | apply below_drew1) | exact HB.out)))); (case aL => have := LMc22.out; omega); intro v119 w23 ho hb hg hat; rw [← Ny118.out] at ho; have n0_ := Aside0.mk (hb); have n1_ := Aside0.mk (ho); clear HB; clear HO_6; have HB := n0_; have HO120 := n1_; clear n0_ n1_; clear ho hb hg hat))
         go_roundg k1
         case measure => have := HK1.out; omega
         case rel => exact ⟨(y118), (wrap64 (x7_1 + 1)), (by first | rfl | (simp; done) | (simp [*]; done)), H', ⟨by have := HK1.out; omega⟩, ⟨by (with_reducible repeat (first | apply Kd.R_alloc | apply Kd.R_drewN | apply Kd.R_drew)); exact HO120.out⟩, ⟨by repeat (first | (with_reducible first | exact HB.out | apply below_alloc | apply pw_below_drewN | apply below_drew1) | exact HB.out)⟩⟩
        ·rw [if_neg c22] at H
         exact absurd H (by simp)
    ·rw [if_neg c4] at H
     exact absurd H (by simp)
   ·rw [if_neg c3] at H
    have c3b0 : decide (x7_1 < (l0.length : Int)) = false := decide_eq_false c3
    clear c3
    simp only [Option.some.injEq, Prod.mk.injEq] at H
    obtain ⟨rfl, rfl⟩ := H
    go_wp2
    go_ret2
    exact ⟨by first | rfl | (simp [errW_none, errW_some] <;> rfl) | (simp [*, errW_none, errW_some] <;> rfl), by repeat (first | (with_reducible first | exact HB.out | apply below_alloc | apply pw_below_drewN | apply below_drew1) | exact HB.out)⟩

end Go.Proofs.Ytildiabokdfjgaa.PLexerNumbers
