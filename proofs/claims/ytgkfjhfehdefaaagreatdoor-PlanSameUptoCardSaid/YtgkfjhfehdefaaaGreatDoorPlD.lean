/- May a step be? -/
import Derived.Test.YtgkfjhfehdefaaaGreatDoorPlC
namespace Go.Proofs.YtgkfjhfehdefaaaGreatDoor.W
open Go.Proofs.YtgkfjhfehdefaaaGreatDoor.Flat
set_option linter.unusedVariables false
set_option linter.unusedSimpArgs false
/-- A byte of a name. -/
def signF (a : Int) (first : Bool) : Bool := (decide (97 ≤ a) && decide (a ≤ 122)) || (decide (65 ≤ a) && decide (a ≤ 90)) || a == 95 || (decide (48 ≤ a) && decide (a ≤ 57) && !first)
def byteAt (s : ByteArray) (j : Nat) : Int := ((s.data.toList.getD j 0).toNat : Int)
def nameF (s : ByteArray) : Bool := allN (fun j => signF (byteAt s j) (j == 0)) s.size 0 && !(s.size == 0) && decide (s.size ≤ 40)
theorem byte_at {s : ByteArray} {i : Nat} (h : i < s.size) : strAt s (i : Int) = some (byteAt s i) := by
  rw [strAt_nat]
  have h2 : i < s.data.toList.length := by simpa using h
  unfold byteAt
  rw [List.getElem?_eq_getElem h2, List.getD_eq_getElem?_getD, List.getElem?_eq_getElem h2]
  rfl
def numF (x : GStep) : Bool :=
  if opOf x = 24 then decide (0 ≤ (nOf x).getD 0 0) && ((nOf x).getD 1 0 == -1 || decide ((nOf x).getD 0 0 ≤ (nOf x).getD 1 0))
  else if opOf x = 48 then decide (-1 ≤ (nOf x).getD 0 0) && decide (0 ≤ (nOf x).getD 1 0) && decide ((nOf x).getD 1 0 ≤ 1) && ((tOf x).length == 2 || decide (0 ≤ (nOf x).getD 0 0))
  else if opOf x = 1 ∨ opOf x = 2 ∨ opOf x = 25 then !((nOf x).any fun y => decide (y < 0))
  else true
def twiceF (l : List ByteArray) : Bool := !allN (fun j => !((l.take j).any fun y => (l.getD j ByteArray.empty).toList == y.toList)) l.length 0
def emptyF : GPred → Bool
  | .mk k v p => k == 0 && v.length + p.length == 0
end Go.Proofs.YtgkfjhfehdefaaaGreatDoor.W
