/-
  No cell of these rows narrows 'for every input' (looked for: loops, veiled, ifaces, maps, wideKeys, modest, calm, conditions, laid).
  DERIVED. THE GIVEN ROWS OF THIS SEAT. 3 by the template 'for every input the law returns true; each argument reads behind the call as it read before'; 0 by the template 'total and deterministic' (their statements: YtmfhmegkgpaemaaTotals.lean).
  GIVEN WITH THE SEED: the statements are not yours to turn. If you find one false, say at which input.
  Laid BY PROGRAM, IN A SANDBOX (cutbox-rows.mjs): the forced cells as the released guide's own fill.sh prints them over the translation 9c97e0aa72b1e58d… (all of the seat's roots in one cut). By AI agents, Wed Nov 11 2026. No macro, syntax, notation, axiom, sorry.
-/
import Derived.Test.YtmfhmegkgpaemaaChecked
import GoSem.Claim
import GoSem.ClaimJoined
import GoSem.ClaimMapViews
import Derived.JoinedTies
import Derived.KernelRfl
namespace Go.Proofs.Ytmfhmegkgpaemaa
/- THE CELL 'sum', in the pinned program and in every row, IS THE sha256 OF THE DUMP (.gsa) THAT YtmfhmegkgpaemaaProg.lean LOADS. Nothing in Lean hashes anything: it is a label: what it is worth is what the hold of that sum in a sandbox is worth. -/
noncomputable def Try.pinned : Pinned := { name := "ytmfhmegkgpaemaa", sum := "9c97e0aa72b1e58de20f9b87032d97af80ccd19026613c13148bd25e5df1301f", checked := Try.checked }
namespace Rows
def none {H : Type} : Left H := { results := [], args := [] }

/-- 'teasellaw25.KeepLast': WHATEVER THE INPUT: true; the input reads as it did. -/
def keepLastSpec : ChangeSpec := { name := "keepLast", fn := fun _ => fun
  | [d1, d2, d3] => { results := [.lit (.bool true)], args := [d1, d2, d3] }
  | _ => none }
def keepLastRow : OpenClaim := { program := "ytmfhmegkgpaemaa", sum := "9c97e0aa72b1e58de20f9b87032d97af80ccd19026613c13148bd25e5df1301f", func := "teasel/teasellaw25.KeepLast", spec := "keepLast", inPlace := ["slices.overlaps[teasel/keep.moment]"], unfollowed := true, recurses := true, apart := false }
def KeepLastSaid : Prop := keepLastRow.holds Try.pinned (OpenSpec.ofChange keepLastSpec)

/-- ITS FALSE NEIGHBOUR: 'it returns false'. Refute it at one input. -/
def keepLastWrong : ChangeSpec := { name := "keepLast", fn := fun _ => fun
  | [d1, d2, d3] => { results := [.lit (.bool false)], args := [d1, d2, d3] }
  | _ => none }
def KeepLastWrongFalsely : Prop := keepLastRow.holds Try.pinned (OpenSpec.ofChange keepLastWrong)

/-- 'teasellaw25.KeepOrder': WHATEVER THE INPUT: true; the input reads as it did. -/
def keepOrderSpec : ChangeSpec := { name := "keepOrder", fn := fun _ => fun
  | [d1, d2] => { results := [.lit (.bool true)], args := [d1, d2] }
  | _ => none }
def keepOrderRow : OpenClaim := { program := "ytmfhmegkgpaemaa", sum := "9c97e0aa72b1e58de20f9b87032d97af80ccd19026613c13148bd25e5df1301f", func := "teasel/teasellaw25.KeepOrder", spec := "keepOrder", inPlace := ["slices.overlaps[teasel/keep.moment]"], unfollowed := true, recurses := true, apart := false }
def KeepOrderSaid : Prop := keepOrderRow.holds Try.pinned (OpenSpec.ofChange keepOrderSpec)

/-- ITS FALSE NEIGHBOUR: 'it returns false'. Refute it at one input. -/
def keepOrderWrong : ChangeSpec := { name := "keepOrder", fn := fun _ => fun
  | [d1, d2] => { results := [.lit (.bool false)], args := [d1, d2] }
  | _ => none }
def KeepOrderWrongFalsely : Prop := keepOrderRow.holds Try.pinned (OpenSpec.ofChange keepOrderWrong)

/-- 'teasellaw25.KeepPlays': WHATEVER THE INPUT: true; the input reads as it did. -/
def keepPlaysSpec : ChangeSpec := { name := "keepPlays", fn := fun _ => fun
  | [d1, d2] => { results := [.lit (.bool true)], args := [d1, d2] }
  | _ => none }
def keepPlaysRow : OpenClaim := { program := "ytmfhmegkgpaemaa", sum := "9c97e0aa72b1e58de20f9b87032d97af80ccd19026613c13148bd25e5df1301f", func := "teasel/teasellaw25.KeepPlays", spec := "keepPlays", inPlace := ["slices.overlaps[teasel/keep.moment]"], unfollowed := true, recurses := true, apart := false }
def KeepPlaysSaid : Prop := keepPlaysRow.holds Try.pinned (OpenSpec.ofChange keepPlaysSpec)

/-- ITS FALSE NEIGHBOUR: 'it returns false'. Refute it at one input. -/
def keepPlaysWrong : ChangeSpec := { name := "keepPlays", fn := fun _ => fun
  | [d1, d2] => { results := [.lit (.bool false)], args := [d1, d2] }
  | _ => none }
def KeepPlaysWrongFalsely : Prop := keepPlaysRow.holds Try.pinned (OpenSpec.ofChange keepPlaysWrong)

/- THE SECOND FORM. 'bulk': how many values and letters a reading holds, each counted each time it is reached (what is shared counts as often as it is met; a slice's spare places count too). A statement '..UptoSaid' is the law's where the arguments, and the package variables that the reading takes, are together of bulk at most 1048576: NARROWER than '..Said'. Prove '..Said' where nothing that the law and all that it calls make is longer than what came in: it says more and counts as full. Else prove '..UptoSaid'. A law counts once. -/
mutual
def uptoBulk {H : Type} : DataW H → Nat
  | .lit (.string bytes) => bytes.length + 1
  | .lit _ => 1
  | .nil => 1
  | .ptr d => uptoBulk d + 1
  | .slice elems spare => uptoBulkAll elems + uptoBulkAll spare + 1
  | .agg parts => uptoBulkAll parts + 1
  | .iface _ d => uptoBulk d + 1
  | .map entries => uptoBulkEntries entries + 1
  | .held _ => 1
def uptoBulkAll {H : Type} : List (DataW H) → Nat
  | [] => 0
  | d :: r => uptoBulk d + uptoBulkAll r
def uptoBulkEntries {H : Type} : List (Lit × DataW H) → Nat
  | [] => 0
  | x :: r => uptoBulkEntry x + uptoBulkEntries r
def uptoBulkEntry {H : Type} : Lit × DataW H → Nat
  | (.string bytes, d) => bytes.length + uptoBulk d + 1
  | (_, d) => uptoBulk d + 1
 end
def uptoSmall : (H : Type) → List (DataW H) → Bool := fun _ ds => decide (uptoBulkAll ds ≤ 1048576)
def OpenSpec.upto (s : _root_.Go.ChangeSpec) : _root_.Go.OpenSpec := { _root_.Go.OpenSpec.ofChange s with cond := some uptoSmall }

/-- 'teasellaw25.KeepLast', WHERE WHAT IT READS IS OF BULK AT MOST 1048576: true; the input reads as it did. -/
def keepLastUptoRow : OpenClaim := { program := "ytmfhmegkgpaemaa", sum := "9c97e0aa72b1e58de20f9b87032d97af80ccd19026613c13148bd25e5df1301f", func := "teasel/teasellaw25.KeepLast", spec := "keepLast", inPlace := ["slices.overlaps[teasel/keep.moment]"], unfollowed := true, recurses := true, apart := false, narrowed := true }
def KeepLastUptoSaid : Prop := keepLastUptoRow.holds Try.pinned (OpenSpec.upto keepLastSpec)

/-- 'teasellaw25.KeepOrder', WHERE WHAT IT READS IS OF BULK AT MOST 1048576: true; the input reads as it did. -/
def keepOrderUptoRow : OpenClaim := { program := "ytmfhmegkgpaemaa", sum := "9c97e0aa72b1e58de20f9b87032d97af80ccd19026613c13148bd25e5df1301f", func := "teasel/teasellaw25.KeepOrder", spec := "keepOrder", inPlace := ["slices.overlaps[teasel/keep.moment]"], unfollowed := true, recurses := true, apart := false, narrowed := true }
def KeepOrderUptoSaid : Prop := keepOrderUptoRow.holds Try.pinned (OpenSpec.upto keepOrderSpec)

/-- 'teasellaw25.KeepPlays', WHERE WHAT IT READS IS OF BULK AT MOST 1048576: true; the input reads as it did. -/
def keepPlaysUptoRow : OpenClaim := { program := "ytmfhmegkgpaemaa", sum := "9c97e0aa72b1e58de20f9b87032d97af80ccd19026613c13148bd25e5df1301f", func := "teasel/teasellaw25.KeepPlays", spec := "keepPlays", inPlace := ["slices.overlaps[teasel/keep.moment]"], unfollowed := true, recurses := true, apart := false, narrowed := true }
def KeepPlaysUptoSaid : Prop := keepPlaysUptoRow.holds Try.pinned (OpenSpec.upto keepPlaysSpec)

end Rows
end Go.Proofs.Ytmfhmegkgpaemaa
