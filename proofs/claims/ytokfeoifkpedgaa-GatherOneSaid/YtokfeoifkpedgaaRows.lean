/-
  NARROWER THAN 'FOR EVERY INPUT', by the rows' own cells (each row's printed sentence says how): GatherOne: loops · GatherParts: loops · GatherSums: loops · GatherBulks: loops · GatherGlues: loops.
  DERIVED. THE GIVEN ROWS OF THIS SEAT. 5 by the template 'for every input the law returns true; each argument reads behind the call as it read before'; 0 by the template 'total and deterministic' (their statements: YtokfeoifkpedgaaTotals.lean).
  GIVEN WITH THE SEED: the statements are not yours to turn. If you find one false, say at which input.
  Laid BY PROGRAM, IN A SANDBOX (cutbox-rows.mjs): the forced cells as the released guide's own fill.sh prints them over the translation 34144d91c87dc39d… (all of the seat's roots in one cut). By AI agents, Wed Nov 11 2026. No macro, syntax, notation, axiom, sorry.
-/
import Derived.Test.YtokfeoifkpedgaaChecked
import GoSem.Claim
import GoSem.ClaimJoined
import GoSem.ClaimMapViews
import Derived.JoinedTies
import Derived.KernelRfl
namespace Go.Proofs.Ytokfeoifkpedgaa
/- THE CELL 'sum', in the pinned program and in every row, IS THE sha256 OF THE DUMP (.gsa) THAT YtokfeoifkpedgaaProg.lean LOADS. Nothing in Lean hashes anything: it is a label: what it is worth is what the hold of that sum in a sandbox is worth. -/
noncomputable def Try.pinned : Pinned := { name := "ytokfeoifkpedgaa", sum := "34144d91c87dc39d97712a5074aa7ab71646fe91e15280aa80aa4035c5441c3b", checked := Try.checked }
namespace Rows
def none {H : Type} : Left H := { results := [], args := [] }

/-- 'wayfarerlaw16.GatherOne': WHATEVER THE INPUT: true; the input reads as it did. -/
def gatherOneSpec : ChangeSpec := { name := "gatherOne", fn := fun _ => fun
  | [d] => { results := [.lit (.bool true)], args := [d] }
  | _ => none }
def gatherOneRow : OpenClaim := { program := "ytokfeoifkpedgaa", sum := "34144d91c87dc39d97712a5074aa7ab71646fe91e15280aa80aa4035c5441c3b", func := "wayfarer/wayfarerlaw16.GatherOne", spec := "gatherOne", inPlace := ["math/bits.Add64", "internal/bytealg.abigen_runtime_cmpstring"], unfollowed := true, recurses := true, loops := true, apart := false }
def GatherOneSaid : Prop := gatherOneRow.holds Try.pinned (OpenSpec.ofChange gatherOneSpec)

/-- ITS FALSE NEIGHBOUR: 'it returns false'. Refute it at one input. -/
def gatherOneWrong : ChangeSpec := { name := "gatherOne", fn := fun _ => fun
  | [d] => { results := [.lit (.bool false)], args := [d] }
  | _ => none }
def GatherOneWrongFalsely : Prop := gatherOneRow.holds Try.pinned (OpenSpec.ofChange gatherOneWrong)

/-- 'wayfarerlaw16.GatherParts': WHATEVER THE INPUT: true; the input reads as it did. -/
def gatherPartsSpec : ChangeSpec := { name := "gatherParts", fn := fun _ => fun
  | [d1, d2, d3, d4] => { results := [.lit (.bool true)], args := [d1, d2, d3, d4] }
  | _ => none }
def gatherPartsRow : OpenClaim := { program := "ytokfeoifkpedgaa", sum := "34144d91c87dc39d97712a5074aa7ab71646fe91e15280aa80aa4035c5441c3b", func := "wayfarer/wayfarerlaw16.GatherParts", spec := "gatherParts", inPlace := ["math/bits.Add64", "internal/bytealg.abigen_runtime_cmpstring"], unfollowed := true, recurses := true, loops := true, apart := false }
def GatherPartsSaid : Prop := gatherPartsRow.holds Try.pinned (OpenSpec.ofChange gatherPartsSpec)

/-- ITS FALSE NEIGHBOUR: 'it returns false'. Refute it at one input. -/
def gatherPartsWrong : ChangeSpec := { name := "gatherParts", fn := fun _ => fun
  | [d1, d2, d3, d4] => { results := [.lit (.bool false)], args := [d1, d2, d3, d4] }
  | _ => none }
def GatherPartsWrongFalsely : Prop := gatherPartsRow.holds Try.pinned (OpenSpec.ofChange gatherPartsWrong)

/-- 'wayfarerlaw16.GatherSums': WHATEVER THE INPUT: true; the input reads as it did. -/
def gatherSumsSpec : ChangeSpec := { name := "gatherSums", fn := fun _ => fun
  | [d1, d2, d3, d4] => { results := [.lit (.bool true)], args := [d1, d2, d3, d4] }
  | _ => none }
def gatherSumsRow : OpenClaim := { program := "ytokfeoifkpedgaa", sum := "34144d91c87dc39d97712a5074aa7ab71646fe91e15280aa80aa4035c5441c3b", func := "wayfarer/wayfarerlaw16.GatherSums", spec := "gatherSums", inPlace := ["math/bits.Add64", "internal/bytealg.abigen_runtime_cmpstring"], unfollowed := true, recurses := true, loops := true, apart := false }
def GatherSumsSaid : Prop := gatherSumsRow.holds Try.pinned (OpenSpec.ofChange gatherSumsSpec)

/-- ITS FALSE NEIGHBOUR: 'it returns false'. Refute it at one input. -/
def gatherSumsWrong : ChangeSpec := { name := "gatherSums", fn := fun _ => fun
  | [d1, d2, d3, d4] => { results := [.lit (.bool false)], args := [d1, d2, d3, d4] }
  | _ => none }
def GatherSumsWrongFalsely : Prop := gatherSumsRow.holds Try.pinned (OpenSpec.ofChange gatherSumsWrong)

/-- 'wayfarerlaw16.GatherBulks': WHATEVER THE INPUT: true; the input reads as it did. -/
def gatherBulksSpec : ChangeSpec := { name := "gatherBulks", fn := fun _ => fun
  | [d1, d2, d3, d4] => { results := [.lit (.bool true)], args := [d1, d2, d3, d4] }
  | _ => none }
def gatherBulksRow : OpenClaim := { program := "ytokfeoifkpedgaa", sum := "34144d91c87dc39d97712a5074aa7ab71646fe91e15280aa80aa4035c5441c3b", func := "wayfarer/wayfarerlaw16.GatherBulks", spec := "gatherBulks", inPlace := ["math/bits.Add64", "internal/bytealg.abigen_runtime_cmpstring", "slices.overlaps[wayfarer/api.Value]"], unfollowed := true, recurses := true, loops := true, apart := false }
def GatherBulksSaid : Prop := gatherBulksRow.holds Try.pinned (OpenSpec.ofChange gatherBulksSpec)

/-- ITS FALSE NEIGHBOUR: 'it returns false'. Refute it at one input. -/
def gatherBulksWrong : ChangeSpec := { name := "gatherBulks", fn := fun _ => fun
  | [d1, d2, d3, d4] => { results := [.lit (.bool false)], args := [d1, d2, d3, d4] }
  | _ => none }
def GatherBulksWrongFalsely : Prop := gatherBulksRow.holds Try.pinned (OpenSpec.ofChange gatherBulksWrong)

/-- 'wayfarerlaw16.GatherGlues': WHATEVER THE INPUT: true; the input reads as it did. -/
def gatherGluesSpec : ChangeSpec := { name := "gatherGlues", fn := fun _ => fun
  | [d] => { results := [.lit (.bool true)], args := [d] }
  | _ => none }
def gatherGluesRow : OpenClaim := { program := "ytokfeoifkpedgaa", sum := "34144d91c87dc39d97712a5074aa7ab71646fe91e15280aa80aa4035c5441c3b", func := "wayfarer/wayfarerlaw16.GatherGlues", spec := "gatherGlues", inPlace := ["math/bits.Add64", "internal/bytealg.abigen_runtime_cmpstring", "slices.overlaps[wayfarer/api.Value]"], unfollowed := true, recurses := true, loops := true, apart := false }
def GatherGluesSaid : Prop := gatherGluesRow.holds Try.pinned (OpenSpec.ofChange gatherGluesSpec)

/-- ITS FALSE NEIGHBOUR: 'it returns false'. Refute it at one input. -/
def gatherGluesWrong : ChangeSpec := { name := "gatherGlues", fn := fun _ => fun
  | [d] => { results := [.lit (.bool false)], args := [d] }
  | _ => none }
def GatherGluesWrongFalsely : Prop := gatherGluesRow.holds Try.pinned (OpenSpec.ofChange gatherGluesWrong)

/- THE SECOND FORM. 'bulk': how many values and letters a reading holds, each counted each time it is reached (what is shared counts as often as it is met; a slice's spare places count too). A statement '..UptoSaid' is the law's where the arguments, and the package variables that the reading takes, are together of bulk at most 1048576: NARROWER than '..Said'. Prove '..Said' where nothing that the law and all that it calls make is longer than what came in: it says more and counts as full. Else prove '..UptoSaid'. A law counts once. -/
mutual
def uptoBulk {H : Type} : DataW H → Nat
  | .lit (.string bytes) => bytes.length + 1
  | .lit _ => 1
  | .nil => 1
  | .ptr d => uptoBulk d + 1
  | .slice elems spare => uptoBulkAll elems + uptoBulkAll spare + 1
  | .agg parts => uptoBulkAll parts + 1
  | .iface _ d => uptoBulk d + 1
  | .map entries => uptoBulkEntries entries + 1
  | .held _ => 1
def uptoBulkAll {H : Type} : List (DataW H) → Nat
  | [] => 0
  | d :: r => uptoBulk d + uptoBulkAll r
def uptoBulkEntries {H : Type} : List (Lit × DataW H) → Nat
  | [] => 0
  | x :: r => uptoBulkEntry x + uptoBulkEntries r
def uptoBulkEntry {H : Type} : Lit × DataW H → Nat
  | (.string bytes, d) => bytes.length + uptoBulk d + 1
  | (_, d) => uptoBulk d + 1
 end
def uptoSmall : (H : Type) → List (DataW H) → Bool := fun _ ds => decide (uptoBulkAll ds ≤ 1048576)
def OpenSpec.upto (s : _root_.Go.ChangeSpec) : _root_.Go.OpenSpec := { _root_.Go.OpenSpec.ofChange s with cond := some uptoSmall }

/-- 'wayfarerlaw16.GatherOne', WHERE WHAT IT READS IS OF BULK AT MOST 1048576: true; the input reads as it did. -/
def gatherOneUptoRow : OpenClaim := { program := "ytokfeoifkpedgaa", sum := "34144d91c87dc39d97712a5074aa7ab71646fe91e15280aa80aa4035c5441c3b", func := "wayfarer/wayfarerlaw16.GatherOne", spec := "gatherOne", inPlace := ["math/bits.Add64", "internal/bytealg.abigen_runtime_cmpstring"], unfollowed := true, recurses := true, loops := true, apart := false, narrowed := true }
def GatherOneUptoSaid : Prop := gatherOneUptoRow.holds Try.pinned (OpenSpec.upto gatherOneSpec)

/-- 'wayfarerlaw16.GatherParts', WHERE WHAT IT READS IS OF BULK AT MOST 1048576: true; the input reads as it did. -/
def gatherPartsUptoRow : OpenClaim := { program := "ytokfeoifkpedgaa", sum := "34144d91c87dc39d97712a5074aa7ab71646fe91e15280aa80aa4035c5441c3b", func := "wayfarer/wayfarerlaw16.GatherParts", spec := "gatherParts", inPlace := ["math/bits.Add64", "internal/bytealg.abigen_runtime_cmpstring"], unfollowed := true, recurses := true, loops := true, apart := false, narrowed := true }
def GatherPartsUptoSaid : Prop := gatherPartsUptoRow.holds Try.pinned (OpenSpec.upto gatherPartsSpec)

/-- 'wayfarerlaw16.GatherSums', WHERE WHAT IT READS IS OF BULK AT MOST 1048576: true; the input reads as it did. -/
def gatherSumsUptoRow : OpenClaim := { program := "ytokfeoifkpedgaa", sum := "34144d91c87dc39d97712a5074aa7ab71646fe91e15280aa80aa4035c5441c3b", func := "wayfarer/wayfarerlaw16.GatherSums", spec := "gatherSums", inPlace := ["math/bits.Add64", "internal/bytealg.abigen_runtime_cmpstring"], unfollowed := true, recurses := true, loops := true, apart := false, narrowed := true }
def GatherSumsUptoSaid : Prop := gatherSumsUptoRow.holds Try.pinned (OpenSpec.upto gatherSumsSpec)

/-- 'wayfarerlaw16.GatherBulks', WHERE WHAT IT READS IS OF BULK AT MOST 1048576: true; the input reads as it did. -/
def gatherBulksUptoRow : OpenClaim := { program := "ytokfeoifkpedgaa", sum := "34144d91c87dc39d97712a5074aa7ab71646fe91e15280aa80aa4035c5441c3b", func := "wayfarer/wayfarerlaw16.GatherBulks", spec := "gatherBulks", inPlace := ["math/bits.Add64", "internal/bytealg.abigen_runtime_cmpstring", "slices.overlaps[wayfarer/api.Value]"], unfollowed := true, recurses := true, loops := true, apart := false, narrowed := true }
def GatherBulksUptoSaid : Prop := gatherBulksUptoRow.holds Try.pinned (OpenSpec.upto gatherBulksSpec)

/-- 'wayfarerlaw16.GatherGlues', WHERE WHAT IT READS IS OF BULK AT MOST 1048576: true; the input reads as it did. -/
def gatherGluesUptoRow : OpenClaim := { program := "ytokfeoifkpedgaa", sum := "34144d91c87dc39d97712a5074aa7ab71646fe91e15280aa80aa4035c5441c3b", func := "wayfarer/wayfarerlaw16.GatherGlues", spec := "gatherGlues", inPlace := ["math/bits.Add64", "internal/bytealg.abigen_runtime_cmpstring", "slices.overlaps[wayfarer/api.Value]"], unfollowed := true, recurses := true, loops := true, apart := false, narrowed := true }
def GatherGluesUptoSaid : Prop := gatherGluesUptoRow.holds Try.pinned (OpenSpec.upto gatherGluesSpec)

end Rows
end Go.Proofs.Ytokfeoifkpedgaa
