/-
  NARROWER THAN 'FOR EVERY INPUT', by the rows' own cells (each row's printed sentence says how): LowerLays: loops, laid · LowerRaises: loops, laid · LowerJoins: loops, laid.
  DERIVED. THE GIVEN ROWS OF THIS SEAT. 3 by the template 'for every input the law returns true; each argument reads behind the call as it read before'; 0 by the template 'total and deterministic' (their statements: YtgmidllbkjdnnaaGreatDoorTotals.lean).
  GIVEN WITH THE SEED: the statements are not yours to turn. If you find one false, say at which input.
  Laid BY PROGRAM, IN A SANDBOX (cutbox-rows.mjs): the forced cells as the released guide's own fill.sh prints them over the translation 9963b8a7f07dfdbd… (all of the seat's roots in one cut). By AI agents, Wed Nov 11 2026. No macro, syntax, notation, axiom, sorry.
-/
import Derived.Test.YtgmidllbkjdnnaaGreatDoorChecked
import GoSem.Claim
import GoSem.ClaimJoined
import GoSem.ClaimMapViews
import Derived.JoinedTies
import Derived.KernelRfl
namespace Go.Proofs.YtgmidllbkjdnnaaGreatDoor
/- THE CELL 'sum', in the pinned program and in every row, IS THE sha256 OF THE DUMP (.gsa) THAT YtgmidllbkjdnnaaGreatDoorProg.lean LOADS. Nothing in Lean hashes anything: it is a label: what it is worth is what the hold of that sum in a sandbox is worth. -/
noncomputable def Tryz.pinned : Pinned := { name := "ytgmidllbkjdnnaagreatdoor", sum := "9963b8a7f07dfdbd7b4b0c7144f74cfcb38ea0446faf93e151c7e8b5f350b788", checked := Tryz.checked }
namespace Rows
def none {H : Type} : Left H := { results := [], args := [] }

/- WHAT THE LISTED PACKAGE-LEVEL VARIABLES READ AS WHEN THE CALL BEGINS. Each datum BY PROGRAM (the guide's laid-datum.mjs) off the statement by which the dump's own 'gosem.cut.vars' lays the variable. In a bare row this is a premise. The card (YtgmidllbkjdnnaaGreatDoorCards.lean) ties it to the program's text. -/
def laid_wayfarer_plan_names {H : Type} : DataW H := .agg [.lit (.string []), .lit (.string [86]), .lit (.string [69]), .lit (.string [79, 117, 116]), .lit (.string [73, 110]), .lit (.string [66, 111, 116, 104]), .lit (.string [79, 117, 116, 69]), .lit (.string [73, 110, 69]), .lit (.string [66, 111, 116, 104, 69]), .lit (.string [79, 117, 116, 86]), .lit (.string [73, 110, 86]), .lit (.string [66, 111, 116, 104, 86]), .lit (.string [73, 68]), .lit (.string [76, 97, 98, 101, 108]), .lit (.string [86, 97, 108, 117, 101, 115]), .lit (.string [67, 111, 110, 115, 116, 97, 110, 116]), .lit (.string [73, 100, 101, 110, 116, 105, 116, 121]), .lit (.string [72, 97, 115, 76, 97, 98, 101, 108]), .lit (.string [72, 97, 115]), .lit (.string [72, 97, 115, 75, 101, 121]), .lit (.string [72, 97, 115, 78, 111, 116]), .lit (.string [72, 97, 115, 73, 68]), .lit (.string [73, 115]), .lit (.string [68, 101, 100, 117, 112]), .lit (.string [82, 97, 110, 103, 101]), .lit (.string [84, 97, 105, 108]), .lit (.string [83, 105, 109, 112, 108, 101]), .lit (.string [67, 121, 99, 108, 105, 99]), .lit (.string [87, 104, 101, 114, 101]), .lit (.string [78, 111, 116, 84, 104, 97, 116]), .lit (.string [65, 108, 108, 79, 102]), .lit (.string [65, 110, 121, 79, 102]), .lit (.string [67, 111, 117, 110, 116]), .lit (.string [83, 117, 109]), .lit (.string [77, 105, 110]), .lit (.string [77, 97, 120]), .lit (.string [70, 111, 108, 100]), .lit (.string [85, 110, 102, 111, 108, 100]), .lit (.string [84, 114, 97, 105, 108]), .lit (.string [83, 101, 108, 101, 99, 116]), .lit (.string [79, 114, 100, 101, 114]), .lit (.string [71, 114, 111, 117, 112]), .lit (.string [71, 114, 111, 117, 112, 67, 111, 117, 110, 116]), .lit (.string [80, 114, 111, 106, 101, 99, 116]), .lit (.string [85, 110, 105, 111, 110]), .lit (.string [67, 111, 97, 108, 101, 115, 99, 101]), .lit (.string [67, 104, 111, 111, 115, 101]), .lit (.string [79, 112, 116, 105, 111, 110, 97, 108]), .lit (.string [82, 101, 112, 101, 97, 116]), .lit (.string [65, 103, 103, 114, 101, 103, 97, 116, 101]), .lit (.string [67, 97, 112]), .lit (.string [66, 97, 114, 114, 105, 101, 114])]

/-- 'wayfarerlaw21.LowerLays': WHATEVER THE INPUT: true; the input reads as it did. -/
def lowerLaysSpec : ChangeSpec := { name := "lowerLays", fn := fun _ => fun
  | [d] => { results := [.lit (.bool true)], args := [d] }
  | _ => none }
def lowerLaysRow : OpenClaim := { program := "ytgmidllbkjdnnaagreatdoor", sum := "9963b8a7f07dfdbd7b4b0c7144f74cfcb38ea0446faf93e151c7e8b5f350b788", func := "wayfarer/wayfarerlaw21.LowerLays", spec := "lowerLays", inPlace := ["internal/bytealg.abigen_runtime_cmpstring"], unfollowed := true, recurses := true, named := ["wayfarer/plan.names"], loops := true, apart := false, laid := [("wayfarer/plan.names", laid_wayfarer_plan_names)] }
def LowerLaysSaid : Prop := lowerLaysRow.holds Tryz.pinned (OpenSpec.ofChange lowerLaysSpec)

/-- ITS FALSE NEIGHBOUR: 'it returns false'. Refute it at one input. -/
def lowerLaysWrong : ChangeSpec := { name := "lowerLays", fn := fun _ => fun
  | [d] => { results := [.lit (.bool false)], args := [d] }
  | _ => none }
def LowerLaysWrongFalsely : Prop := lowerLaysRow.holds Tryz.pinned (OpenSpec.ofChange lowerLaysWrong)

/-- 'wayfarerlaw21.LowerRaises': WHATEVER THE INPUT: true; the input reads as it did. -/
def lowerRaisesSpec : ChangeSpec := { name := "lowerRaises", fn := fun _ => fun
  | [d] => { results := [.lit (.bool true)], args := [d] }
  | _ => none }
def lowerRaisesRow : OpenClaim := { program := "ytgmidllbkjdnnaagreatdoor", sum := "9963b8a7f07dfdbd7b4b0c7144f74cfcb38ea0446faf93e151c7e8b5f350b788", func := "wayfarer/wayfarerlaw21.LowerRaises", spec := "lowerRaises", inPlace := ["internal/bytealg.abigen_runtime_cmpstring"], unfollowed := true, recurses := true, named := ["wayfarer/plan.names"], loops := true, apart := false, laid := [("wayfarer/plan.names", laid_wayfarer_plan_names)] }
def LowerRaisesSaid : Prop := lowerRaisesRow.holds Tryz.pinned (OpenSpec.ofChange lowerRaisesSpec)

/-- ITS FALSE NEIGHBOUR: 'it returns false'. Refute it at one input. -/
def lowerRaisesWrong : ChangeSpec := { name := "lowerRaises", fn := fun _ => fun
  | [d] => { results := [.lit (.bool false)], args := [d] }
  | _ => none }
def LowerRaisesWrongFalsely : Prop := lowerRaisesRow.holds Tryz.pinned (OpenSpec.ofChange lowerRaisesWrong)

/-- 'wayfarerlaw21.LowerJoins': WHATEVER THE INPUT: true; the input reads as it did. -/
def lowerJoinsSpec : ChangeSpec := { name := "lowerJoins", fn := fun _ => fun
  | [d1, d2] => { results := [.lit (.bool true)], args := [d1, d2] }
  | _ => none }
def lowerJoinsRow : OpenClaim := { program := "ytgmidllbkjdnnaagreatdoor", sum := "9963b8a7f07dfdbd7b4b0c7144f74cfcb38ea0446faf93e151c7e8b5f350b788", func := "wayfarer/wayfarerlaw21.LowerJoins", spec := "lowerJoins", inPlace := ["internal/bytealg.abigen_runtime_cmpstring"], unfollowed := true, recurses := true, named := ["wayfarer/plan.names"], loops := true, apart := false, laid := [("wayfarer/plan.names", laid_wayfarer_plan_names)] }
def LowerJoinsSaid : Prop := lowerJoinsRow.holds Tryz.pinned (OpenSpec.ofChange lowerJoinsSpec)

/-- ITS FALSE NEIGHBOUR: 'it returns false'. Refute it at one input. -/
def lowerJoinsWrong : ChangeSpec := { name := "lowerJoins", fn := fun _ => fun
  | [d1, d2] => { results := [.lit (.bool false)], args := [d1, d2] }
  | _ => none }
def LowerJoinsWrongFalsely : Prop := lowerJoinsRow.holds Tryz.pinned (OpenSpec.ofChange lowerJoinsWrong)

/- THE SECOND FORM. 'bulk': how many values and letters a reading holds, each counted each time it is reached (what is shared counts as often as it is met; a slice's spare places count too). A statement '..UptoSaid' is the law's where the arguments, and the package variables that the reading takes, are together of bulk at most 1048576: NARROWER than '..Said'. Prove '..Said' where nothing that the law and all that it calls make is longer than what came in: it says more and counts as full. Else prove '..UptoSaid'. A law counts once. -/
mutual
def uptoBulk {H : Type} : DataW H → Nat
  | .lit (.string bytes) => bytes.length + 1
  | .lit _ => 1
  | .nil => 1
  | .ptr d => uptoBulk d + 1
  | .slice elems spare => uptoBulkAll elems + uptoBulkAll spare + 1
  | .agg parts => uptoBulkAll parts + 1
  | .iface _ d => uptoBulk d + 1
  | .map entries => uptoBulkEntries entries + 1
  | .held _ => 1
def uptoBulkAll {H : Type} : List (DataW H) → Nat
  | [] => 0
  | d :: r => uptoBulk d + uptoBulkAll r
def uptoBulkEntries {H : Type} : List (Lit × DataW H) → Nat
  | [] => 0
  | x :: r => uptoBulkEntry x + uptoBulkEntries r
def uptoBulkEntry {H : Type} : Lit × DataW H → Nat
  | (.string bytes, d) => bytes.length + uptoBulk d + 1
  | (_, d) => uptoBulk d + 1
 end
def uptoSmall : (H : Type) → List (DataW H) → Bool := fun _ ds => decide (uptoBulkAll ds ≤ 1048576)
def OpenSpec.upto (s : _root_.Go.ChangeSpec) : _root_.Go.OpenSpec := { _root_.Go.OpenSpec.ofChange s with cond := some uptoSmall }

/-- 'wayfarerlaw21.LowerLays', WHERE WHAT IT READS IS OF BULK AT MOST 1048576: true; the input reads as it did. -/
def lowerLaysUptoRow : OpenClaim := { program := "ytgmidllbkjdnnaagreatdoor", sum := "9963b8a7f07dfdbd7b4b0c7144f74cfcb38ea0446faf93e151c7e8b5f350b788", func := "wayfarer/wayfarerlaw21.LowerLays", spec := "lowerLays", inPlace := ["internal/bytealg.abigen_runtime_cmpstring"], unfollowed := true, recurses := true, named := ["wayfarer/plan.names"], loops := true, apart := false, laid := [("wayfarer/plan.names", laid_wayfarer_plan_names)], narrowed := true }
def LowerLaysUptoSaid : Prop := lowerLaysUptoRow.holds Tryz.pinned (OpenSpec.upto lowerLaysSpec)

/-- 'wayfarerlaw21.LowerRaises', WHERE WHAT IT READS IS OF BULK AT MOST 1048576: true; the input reads as it did. -/
def lowerRaisesUptoRow : OpenClaim := { program := "ytgmidllbkjdnnaagreatdoor", sum := "9963b8a7f07dfdbd7b4b0c7144f74cfcb38ea0446faf93e151c7e8b5f350b788", func := "wayfarer/wayfarerlaw21.LowerRaises", spec := "lowerRaises", inPlace := ["internal/bytealg.abigen_runtime_cmpstring"], unfollowed := true, recurses := true, named := ["wayfarer/plan.names"], loops := true, apart := false, laid := [("wayfarer/plan.names", laid_wayfarer_plan_names)], narrowed := true }
def LowerRaisesUptoSaid : Prop := lowerRaisesUptoRow.holds Tryz.pinned (OpenSpec.upto lowerRaisesSpec)

/-- 'wayfarerlaw21.LowerJoins', WHERE WHAT IT READS IS OF BULK AT MOST 1048576: true; the input reads as it did. -/
def lowerJoinsUptoRow : OpenClaim := { program := "ytgmidllbkjdnnaagreatdoor", sum := "9963b8a7f07dfdbd7b4b0c7144f74cfcb38ea0446faf93e151c7e8b5f350b788", func := "wayfarer/wayfarerlaw21.LowerJoins", spec := "lowerJoins", inPlace := ["internal/bytealg.abigen_runtime_cmpstring"], unfollowed := true, recurses := true, named := ["wayfarer/plan.names"], loops := true, apart := false, laid := [("wayfarer/plan.names", laid_wayfarer_plan_names)], narrowed := true }
def LowerJoinsUptoSaid : Prop := lowerJoinsUptoRow.holds Tryz.pinned (OpenSpec.upto lowerJoinsSpec)

end Rows
end Go.Proofs.YtgmidllbkjdnnaaGreatDoor
