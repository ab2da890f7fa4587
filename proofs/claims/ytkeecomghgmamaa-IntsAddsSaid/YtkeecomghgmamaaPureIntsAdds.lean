/- The statement IntsAdds: of any numbers the sum is what the chapter says, or is told to have no room; for every list of numbers of 64 bits. -/
import Derived.Test.YtkeecomghgmamaaPlusIntsAdds
namespace Go.Proofs.Ytkeecomghgmamaa.Pure
open Go.RowKit Go.Proofs.Ytkeecomghgmamaa.PIntsAdds Go.Proofs.Ytkeecomghgmamaa.Dec Go.Proofs.YtkeecomghgmamaaW.PrintWords Go.Proofs.YtkeecomghgmamaaW.PrintLast
set_option linter.unusedVariables false
theorem I64_len {x : Int} {p : Bool × List Int} (hp : IsNum x p) (hx : I64 x) : p.2.length ≤ 20 := hp.len (by unfold I64 at hx; omega)
theorem Add_ref (l : List Int) (hw : ∀ x ∈ l, I64 x) (hl : l.length ≤ 1000) (d : Nat) : ∀ (k i : Nat) (acc : Int) (p : Bool × List Int), I64 acc → IsNum acc p → l.length - i = d → i ≤ l.length → d + 5000 < k →
    wayfarerref01_Add.l0 k l (i : Int) p.1 p.2 = some (addAll acc (l.drop i)) := by
  induction d with
  | zero =>
    intro k i acc p ha hp hd hi hk
    obtain ⟨k, rfl⟩ : ∃ m, k = m + 1 := ⟨k - 1, by omega⟩
    have hlen := I64_len hp ha
    simp only [wayfarerref01_Add.l0]
    rw [if_neg (by omega), List.drop_eq_nil_of_le (by omega), told_spec p.1 p.2 hp.1 (by omega) k (by omega), hp.2.2.2, if_pos ha]
    rfl
  | succ d ih =>
    intro k i acc p ha hp hd hi hk
    obtain ⟨k, rfl⟩ : ∃ m, k = m + 1 := ⟨k - 1, by omega⟩
    have hlt : i < l.length := by omega
    have hlen := I64_len hp ha
    have hx := hw _ (List.getElem_mem hlt)
    obtain ⟨q, hq, hqn⟩ := Of_spec l[i] hx k (by omega)
    have hqlen := I64_len hqn hx
    obtain ⟨r, hr, hrn⟩ := Plus_spec hp hqn (by omega) (by omega) k (by omega)
    have hrlen : r.2.length ≤ 20 := hrn.len (by unfold I64 at ha hx; omega)
    simp only [wayfarerref01_Add.l0]
    rw [if_pos (by omega), if_pos (by omega), rd_nat l i hlt, hq]
    simp only [Option.bind_some]
    rw [hr]
    simp only [Option.bind_some]
    rw [Int_spec r.1 r.2 hrn.1 (by omega) k (by omega), hrn.2.2.2]
    simp only [Option.bind_some]
    rw [List.drop_eq_getElem_cons hlt]
    unfold addAll
    by_cases hc : I64 (acc + l[i])
    · simp only [if_pos hc, if_true]
      rw [wrap_next hlt (by omega)]
      exact ih k (i + 1) _ r hc hrn (by omega) (by omega) (by omega)
    · simp only [if_neg hc]
      rfl
theorem IntsAdds : wayfarerlaw01_IntsAdds.Pure := by
  intro l _ _ wl
  have hw : ∀ x ∈ l, I64 x := fun x hx => wf_i64 (wl x hx)
  refine ⟨6000, ?_⟩
  have hkn := known_ev 6000 (by omega)
  unfold wayfarerlaw01_IntsAdds.f
  by_cases h : (l.length : Int) > 300
  · rw [if_pos h, hkn]; rfl
  · rw [if_neg h, Add_spec l hw (by omega) 6000 (by omega)]
    have hr : wayfarerref01_Add.f 6000 l = some (addAll 0 l) := Add_ref l hw (by omega) l.length 6000 0 0 (false, []) i64_nought IsNum.nought (by omega) (by omega) (by omega)
    rw [hr]
    simp only [Option.bind_some, if_true]
    rw [hkn]
    rfl
end Go.Proofs.Ytkeecomghgmamaa.Pure
