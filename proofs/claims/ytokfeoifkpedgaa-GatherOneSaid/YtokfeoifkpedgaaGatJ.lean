/- The sum of bulks. -/
import Derived.Test.YtokfeoifkpedgaaGatI
namespace Go.Proofs.Ytokfeoifkpedgaa.W
open Go.Proofs.Ytokfeoifkpedgaa.Flat
set_option linter.unusedVariables false
set_option linter.unusedSimpArgs false
def nV : GMany → Int
  | .mk (.mk _ n _ _ _) _ => n
def kV : GMany → Int
  | .mk (.mk k _ _ _ _) _ => k
def tot : List GMany → Int
  | [] => 0
  | x :: xs => nV x * nOf x + tot xs
def allI (l : List GMany) : Bool := l.all fun x => kV x == 2
def hi64 (P : Int) : Int := (P / 18446744073709551616) % 18446744073709551616
def lo64 (P : Int) : Int := P % 18446744073709551616
theorem hl_ok (P : Int) : U64' (hi64 P) ∧ U64' (lo64 P) := by
  unfold U64' hi64 lo64
  omega
theorem hl_next (P v : Int) : ((wv (hi64 P) (lo64 P) + v) / 18446744073709551616) % 18446744073709551616 = hi64 (P + v) ∧ (wv (hi64 P) (lo64 P) + v) % 18446744073709551616 = lo64 (P + v) := by
  unfold wv hi64 lo64
  omega
def preT (l : List GMany) (i : Nat) : Int := tot l - tot (l.drop i)
theorem sum_l {t : Tab} {N : Nat} {l : List GMany} (hl : l.length ≤ 140737488355328) (hb : bad l = false) (hN : ∀ x ∈ l, I64' (nV x) ∧ I64' (nOf x)) (H : ∀ (h l n k : Int), U64' h → U64' l → I64' n → I64' k → 0 ≤ k → t.gather_wide_add n k (.mk h l) = some (.mk (((wv h l + n * k) / 18446744073709551616) % 18446744073709551616) ((wv h l + n * k) % 18446744073709551616))) : ∀ (d i K : Nat), i + d = l.length → d < K → (allI (l.drop i) = false ∧ gather_Sum_l1 t N K l l (l.length : Int) (i : Int) (hi64 (preT l i)) (lo64 (preT l i)) = some (.inl (0, false, 160))) ∨ (allI (l.drop i) = true ∧ ∃ z1 z2 z3 z4, gather_Sum_l1 t N K l l (l.length : Int) (i : Int) (hi64 (preT l i)) (lo64 (preT l i)) = some (.inr (l, z1, z2, z3, z4, hi64 (tot l), lo64 (tot l))))
  | 0, i, K, hi, hk => by
    obtain ⟨K, rfl⟩ : ∃ j, K = j + 1 := ⟨K - 1, by omega⟩
    have e : preT l i = tot l := by
      unfold preT
      rw [List.drop_of_length_le (by omega), tot]
      omega
    rw [e]
    exact .inr ⟨by rw [List.drop_of_length_le (by omega)]; rfl, _, _, _, _, by rw [gather_Sum_l1, if_neg (by simp only [decide_eq_true_eq]; omega)]⟩
  | d + 1, i, K, hi, hk => by
    obtain ⟨K, rfl⟩ : ∃ j, K = j + 1 := ⟨K - 1, by omega⟩
    obtain ⟨x, x1, x3, x2⟩ := at_ (l := l) (i := i) (by omega)
    have hx := hN x x3
    have hp := nOf_pos hb x3
    have ok := hl_ok (preT l i)
    have hw := H (hi64 (preT l i)) (lo64 (preT l i)) (nV x) (nOf x) ok.1 ok.2 hx.1 hx.2 (by omega)
    have nx := hl_next (preT l i) (nV x * nOf x)
    have ep : preT l i + nV x * nOf x = preT l (i + 1) := by
      unfold preT
      rw [x2, tot]
      omega
    rw [nx.1, nx.2, ep] at hw
    have ea : allI (l.drop i) = ((kV x == 2) && allI (l.drop (i + 1))) := by rw [x2, allI, List.all_cons]; rfl
    have ih := sum_l (t := t) (N := N) hl hb hN H d (i + 1) K (by omega) (by omega)
    have ei : IntKind.wrap .i64 ((i : Int) + 1) = ((i + 1 : Nat) : Int) := wr1 (i := i) (L := l.length) (by omega) hl
    rw [gather_Sum_l1, if_pos (by simp only [decide_eq_true_eq]; omega), if_pos (by simp), Int.toNat_natCast, x1, ea, ei]
    obtain ⟨⟨v1, v2, v3, v4, v5⟩, m⟩ := x
    simp only [nV, nOf, kV] at hw ⊢
    by_cases hk2 : v1 = 2
    · rw [if_neg (by simpa using hk2)]
      simp only [hw]
      simpa [hk2] using ih
    · rw [if_pos (by simpa using hk2)]
      exact .inl ⟨by simp [hk2], rfl⟩
end Go.Proofs.Ytokfeoifkpedgaa.W
