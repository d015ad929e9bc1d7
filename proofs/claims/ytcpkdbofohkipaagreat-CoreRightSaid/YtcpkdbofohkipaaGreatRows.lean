/-
  No cell of these rows narrows 'for every input' (looked for: loops, veiled, ifaces, maps, wideKeys, modest, calm, conditions, laid).
  DERIVED. THE GIVEN ROWS OF THIS SEAT. 5 by the template 'for every input the law returns true; each argument reads behind the call as it read before'; 0 by the template 'total and deterministic' (their statements: YtcpkdbofohkipaaGreatTotals.lean).
  GIVEN WITH THE SEED: the statements are not yours to turn. If you find one false, say at which input.
  Laid BY PROGRAM, IN A SANDBOX (cutbox-rows.mjs): the forced cells as the released guide's own fill.sh prints them over the translation cf3aa3dcb13b1da3… (all of the seat's roots in one cut). By AI agents, Wed Nov 11 2026. No macro, syntax, notation, axiom, sorry.
-/
import Derived.Test.YtcpkdbofohkipaaGreatChecked
import GoSem.Claim
import GoSem.ClaimJoined
import GoSem.ClaimMapViews
import Derived.JoinedTies
import Derived.KernelRfl
namespace Go.Proofs.YtcpkdbofohkipaaGreat
/- THE CELL 'sum', in the pinned program and in every row, IS THE sha256 OF THE DUMP (.gsa) THAT YtcpkdbofohkipaaGreatProg.lean LOADS. Nothing in Lean hashes anything: it is a label: what it is worth is what the hold of that sum in a sandbox is worth. -/
noncomputable def Tryz.pinned : Pinned := { name := "ytcpkdbofohkipaagreat", sum := "cf3aa3dcb13b1da30d2a7b61826b90a8195903fdf0bc8c2ff7ce137e5e4de8ab", checked := Tryz.checked }
namespace Rows
def none {H : Type} : Left H := { results := [], args := [] }

/-- 'fathomlaw12.CoreFlattens': WHATEVER THE INPUT: true; the input reads as it did. -/
def coreFlattensSpec : ChangeSpec := { name := "coreFlattens", fn := fun _ => fun
  | [d] => { results := [.lit (.bool true)], args := [d] }
  | _ => none }
def coreFlattensRow : OpenClaim := { program := "ytcpkdbofohkipaagreat", sum := "cf3aa3dcb13b1da30d2a7b61826b90a8195903fdf0bc8c2ff7ce137e5e4de8ab", func := "fathom/fathomlaw12.CoreFlattens", spec := "coreFlattens", inPlace := ["math.archTrunc", "math.Float64bits", "math.Float64frombits"], unfollowed := true, recurses := true, apart := false }
def CoreFlattensSaid : Prop := coreFlattensRow.holds Tryz.pinned (OpenSpec.ofChange coreFlattensSpec)

/-- ITS FALSE NEIGHBOUR: 'it returns false'. Refute it at one input. -/
def coreFlattensWrong : ChangeSpec := { name := "coreFlattens", fn := fun _ => fun
  | [d] => { results := [.lit (.bool false)], args := [d] }
  | _ => none }
def CoreFlattensWrongFalsely : Prop := coreFlattensRow.holds Tryz.pinned (OpenSpec.ofChange coreFlattensWrong)

/-- 'fathomlaw12.CoreChecks': WHATEVER THE INPUT: true; the input reads as it did. -/
def coreChecksSpec : ChangeSpec := { name := "coreChecks", fn := fun _ => fun
  | [d1, d2] => { results := [.lit (.bool true)], args := [d1, d2] }
  | _ => none }
def coreChecksRow : OpenClaim := { program := "ytcpkdbofohkipaagreat", sum := "cf3aa3dcb13b1da30d2a7b61826b90a8195903fdf0bc8c2ff7ce137e5e4de8ab", func := "fathom/fathomlaw12.CoreChecks", spec := "coreChecks", inPlace := ["math.archTrunc", "math.Float64bits", "math.Float64frombits"], unfollowed := true, recurses := true, apart := false }
def CoreChecksSaid : Prop := coreChecksRow.holds Tryz.pinned (OpenSpec.ofChange coreChecksSpec)

/-- ITS FALSE NEIGHBOUR: 'it returns false'. Refute it at one input. -/
def coreChecksWrong : ChangeSpec := { name := "coreChecks", fn := fun _ => fun
  | [d1, d2] => { results := [.lit (.bool false)], args := [d1, d2] }
  | _ => none }
def CoreChecksWrongFalsely : Prop := coreChecksRow.holds Tryz.pinned (OpenSpec.ofChange coreChecksWrong)

/-- 'fathomlaw12.CoreRight': WHATEVER THE INPUT: true; the input reads as it did. -/
def coreRightSpec : ChangeSpec := { name := "coreRight", fn := fun _ => fun
  | [d1, d2] => { results := [.lit (.bool true)], args := [d1, d2] }
  | _ => none }
def coreRightRow : OpenClaim := { program := "ytcpkdbofohkipaagreat", sum := "cf3aa3dcb13b1da30d2a7b61826b90a8195903fdf0bc8c2ff7ce137e5e4de8ab", func := "fathom/fathomlaw12.CoreRight", spec := "coreRight", inPlace := ["math.archTrunc", "math.Float64bits", "math.Float64frombits"], unfollowed := true, recurses := true, apart := false }
def CoreRightSaid : Prop := coreRightRow.holds Tryz.pinned (OpenSpec.ofChange coreRightSpec)

/-- ITS FALSE NEIGHBOUR: 'it returns false'. Refute it at one input. -/
def coreRightWrong : ChangeSpec := { name := "coreRight", fn := fun _ => fun
  | [d1, d2] => { results := [.lit (.bool false)], args := [d1, d2] }
  | _ => none }
def CoreRightWrongFalsely : Prop := coreRightRow.holds Tryz.pinned (OpenSpec.ofChange coreRightWrong)

/-- 'fathomlaw12.CoreNames': WHATEVER THE INPUT: true; the input reads as it did. -/
def coreNamesSpec : ChangeSpec := { name := "coreNames", fn := fun _ => fun
  | [d] => { results := [.lit (.bool true)], args := [d] }
  | _ => none }
def coreNamesRow : OpenClaim := { program := "ytcpkdbofohkipaagreat", sum := "cf3aa3dcb13b1da30d2a7b61826b90a8195903fdf0bc8c2ff7ce137e5e4de8ab", func := "fathom/fathomlaw12.CoreNames", spec := "coreNames", inPlace := ["math.archTrunc", "math.Float64bits", "math.Float64frombits"], unfollowed := true, recurses := true, apart := false }
def CoreNamesSaid : Prop := coreNamesRow.holds Tryz.pinned (OpenSpec.ofChange coreNamesSpec)

/-- ITS FALSE NEIGHBOUR: 'it returns false'. Refute it at one input. -/
def coreNamesWrong : ChangeSpec := { name := "coreNames", fn := fun _ => fun
  | [d] => { results := [.lit (.bool false)], args := [d] }
  | _ => none }
def CoreNamesWrongFalsely : Prop := coreNamesRow.holds Tryz.pinned (OpenSpec.ofChange coreNamesWrong)

/-- 'fathomlaw12.CoreKeep': WHATEVER THE INPUT: true; the input reads as it did. -/
def coreKeepSpec : ChangeSpec := { name := "coreKeep", fn := fun _ => fun
  | [d] => { results := [.lit (.bool true)], args := [d] }
  | _ => none }
def coreKeepRow : OpenClaim := { program := "ytcpkdbofohkipaagreat", sum := "cf3aa3dcb13b1da30d2a7b61826b90a8195903fdf0bc8c2ff7ce137e5e4de8ab", func := "fathom/fathomlaw12.CoreKeep", spec := "coreKeep", inPlace := ["math.archTrunc", "math.Float64bits", "math.Float64frombits"], unfollowed := true, recurses := true, apart := false }
def CoreKeepSaid : Prop := coreKeepRow.holds Tryz.pinned (OpenSpec.ofChange coreKeepSpec)

/-- ITS FALSE NEIGHBOUR: 'it returns false'. Refute it at one input. -/
def coreKeepWrong : ChangeSpec := { name := "coreKeep", fn := fun _ => fun
  | [d] => { results := [.lit (.bool false)], args := [d] }
  | _ => none }
def CoreKeepWrongFalsely : Prop := coreKeepRow.holds Tryz.pinned (OpenSpec.ofChange coreKeepWrong)

/- THE SECOND FORM. 'bulk': how many values and letters a reading holds, each counted each time it is reached (what is shared counts as often as it is met; a slice's spare places count too). A statement '..UptoSaid' is the law's where the arguments, and the package variables that the reading takes, are together of bulk at most 1048576: NARROWER than '..Said'. Prove '..Said' where nothing that the law and all that it calls make is longer than what came in: it says more and counts as full. Else prove '..UptoSaid'. A law counts once. -/
mutual
def uptoBulk {H : Type} : DataW H → Nat
  | .lit (.string bytes) => bytes.length + 1
  | .lit _ => 1
  | .nil => 1
  | .ptr d => uptoBulk d + 1
  | .slice elems spare => uptoBulkAll elems + uptoBulkAll spare + 1
  | .agg parts => uptoBulkAll parts + 1
  | .iface _ d => uptoBulk d + 1
  | .map entries => uptoBulkEntries entries + 1
  | .held _ => 1
def uptoBulkAll {H : Type} : List (DataW H) → Nat
  | [] => 0
  | d :: r => uptoBulk d + uptoBulkAll r
def uptoBulkEntries {H : Type} : List (Lit × DataW H) → Nat
  | [] => 0
  | x :: r => uptoBulkEntry x + uptoBulkEntries r
def uptoBulkEntry {H : Type} : Lit × DataW H → Nat
  | (.string bytes, d) => bytes.length + uptoBulk d + 1
  | (_, d) => uptoBulk d + 1
 end
def uptoSmall : (H : Type) → List (DataW H) → Bool := fun _ ds => decide (uptoBulkAll ds ≤ 1048576)
def OpenSpec.upto (s : _root_.Go.ChangeSpec) : _root_.Go.OpenSpec := { _root_.Go.OpenSpec.ofChange s with cond := some uptoSmall }

/-- 'fathomlaw12.CoreFlattens', WHERE WHAT IT READS IS OF BULK AT MOST 1048576: true; the input reads as it did. -/
def coreFlattensUptoRow : OpenClaim := { program := "ytcpkdbofohkipaagreat", sum := "cf3aa3dcb13b1da30d2a7b61826b90a8195903fdf0bc8c2ff7ce137e5e4de8ab", func := "fathom/fathomlaw12.CoreFlattens", spec := "coreFlattens", inPlace := ["math.archTrunc", "math.Float64bits", "math.Float64frombits"], unfollowed := true, recurses := true, apart := false, narrowed := true }
def CoreFlattensUptoSaid : Prop := coreFlattensUptoRow.holds Tryz.pinned (OpenSpec.upto coreFlattensSpec)

/-- 'fathomlaw12.CoreChecks', WHERE WHAT IT READS IS OF BULK AT MOST 1048576: true; the input reads as it did. -/
def coreChecksUptoRow : OpenClaim := { program := "ytcpkdbofohkipaagreat", sum := "cf3aa3dcb13b1da30d2a7b61826b90a8195903fdf0bc8c2ff7ce137e5e4de8ab", func := "fathom/fathomlaw12.CoreChecks", spec := "coreChecks", inPlace := ["math.archTrunc", "math.Float64bits", "math.Float64frombits"], unfollowed := true, recurses := true, apart := false, narrowed := true }
def CoreChecksUptoSaid : Prop := coreChecksUptoRow.holds Tryz.pinned (OpenSpec.upto coreChecksSpec)

/-- 'fathomlaw12.CoreRight', WHERE WHAT IT READS IS OF BULK AT MOST 1048576: true; the input reads as it did. -/
def coreRightUptoRow : OpenClaim := { program := "ytcpkdbofohkipaagreat", sum := "cf3aa3dcb13b1da30d2a7b61826b90a8195903fdf0bc8c2ff7ce137e5e4de8ab", func := "fathom/fathomlaw12.CoreRight", spec := "coreRight", inPlace := ["math.archTrunc", "math.Float64bits", "math.Float64frombits"], unfollowed := true, recurses := true, apart := false, narrowed := true }
def CoreRightUptoSaid : Prop := coreRightUptoRow.holds Tryz.pinned (OpenSpec.upto coreRightSpec)

/-- 'fathomlaw12.CoreNames', WHERE WHAT IT READS IS OF BULK AT MOST 1048576: true; the input reads as it did. -/
def coreNamesUptoRow : OpenClaim := { program := "ytcpkdbofohkipaagreat", sum := "cf3aa3dcb13b1da30d2a7b61826b90a8195903fdf0bc8c2ff7ce137e5e4de8ab", func := "fathom/fathomlaw12.CoreNames", spec := "coreNames", inPlace := ["math.archTrunc", "math.Float64bits", "math.Float64frombits"], unfollowed := true, recurses := true, apart := false, narrowed := true }
def CoreNamesUptoSaid : Prop := coreNamesUptoRow.holds Tryz.pinned (OpenSpec.upto coreNamesSpec)

/-- 'fathomlaw12.CoreKeep', WHERE WHAT IT READS IS OF BULK AT MOST 1048576: true; the input reads as it did. -/
def coreKeepUptoRow : OpenClaim := { program := "ytcpkdbofohkipaagreat", sum := "cf3aa3dcb13b1da30d2a7b61826b90a8195903fdf0bc8c2ff7ce137e5e4de8ab", func := "fathom/fathomlaw12.CoreKeep", spec := "coreKeep", inPlace := ["math.archTrunc", "math.Float64bits", "math.Float64frombits"], unfollowed := true, recurses := true, apart := false, narrowed := true }
def CoreKeepUptoSaid : Prop := coreKeepUptoRow.holds Tryz.pinned (OpenSpec.upto coreKeepSpec)

end Rows
end Go.Proofs.YtcpkdbofohkipaaGreat
