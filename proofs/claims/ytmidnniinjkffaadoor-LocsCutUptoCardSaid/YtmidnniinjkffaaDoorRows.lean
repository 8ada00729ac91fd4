/-
  NARROWER THAN 'FOR EVERY INPUT', by the rows' own cells (each row's printed sentence says how): LocsEncodes: laid · LocsDecodes: laid · LocsCut: laid.
  DERIVED. THE GIVEN ROWS OF THIS SEAT. 3 by the template 'for every input the law returns true; each argument reads behind the call as it read before'; 0 by the template 'total and deterministic' (their statements: YtmidnniinjkffaaDoorTotals.lean).
  GIVEN WITH THE SEED: the statements are not yours to turn. If you find one false, say at which input.
  Laid BY PROGRAM, IN A SANDBOX (cutbox-rows.mjs): the forced cells as the released guide's own fill.sh prints them over the translation 758e980447843d6f… (all of the seat's roots in one cut). By AI agents, Wed Nov 11 2026. No macro, syntax, notation, axiom, sorry.
-/
import Derived.Test.YtmidnniinjkffaaDoorChecked
import GoSem.Claim
import GoSem.ClaimJoined
import GoSem.ClaimMapViews
import Derived.JoinedTies
import Derived.KernelRfl
namespace Go.Proofs.YtmidnniinjkffaaDoor
/- THE CELL 'sum', in the pinned program and in every row, IS THE sha256 OF THE DUMP (.gsa) THAT YtmidnniinjkffaaDoorProg.lean LOADS. Nothing in Lean hashes anything: it is a label: what it is worth is what the hold of that sum in a sandbox is worth. -/
noncomputable def Tryd.pinned : Pinned := { name := "ytmidnniinjkffaadoor", sum := "758e980447843d6f2b51bc62de4e47c12735d9c0c6f23a4dddb54d92e457008d", checked := Tryd.checked }
namespace Rows
def none {H : Type} : Left H := { results := [], args := [] }

/- WHAT THE LISTED PACKAGE-LEVEL VARIABLES READ AS WHEN THE CALL BEGINS. Each datum BY PROGRAM (the guide's laid-datum.mjs) off the statement by which the dump's own 'gosem.cut.vars' lays the variable. In a bare row this is a premise. The card (YtmidnniinjkffaaDoorCards.lean) ties it to the program's text. -/
def laid_teasel_locs_errForm {H : Type} : DataW H := .iface "*errors.errorString" (.ptr (.agg [.lit (.string [110, 111, 32, 100, 101, 98, 117, 103, 32, 105, 110, 102, 111, 114, 109, 97, 116, 105, 111, 110])]))

/-- 'teasellaw21.LocsEncodes': WHATEVER THE INPUT: true; the input reads as it did. -/
def locsEncodesSpec : ChangeSpec := { name := "locsEncodes", fn := fun _ => fun
  | [d] => { results := [.lit (.bool true)], args := [d] }
  | _ => none }
def locsEncodesRow : OpenClaim := { program := "ytmidnniinjkffaadoor", sum := "758e980447843d6f2b51bc62de4e47c12735d9c0c6f23a4dddb54d92e457008d", func := "teasel/teasellaw21.LocsEncodes", spec := "locsEncodes", inPlace := ["internal/reflectlite.TypeOf"], unfollowed := true, recurses := true, named := ["teasel/locs.errForm"], plainKeys := false, apart := false, laid := [("teasel/locs.errForm", laid_teasel_locs_errForm)] }
def LocsEncodesSaid : Prop := locsEncodesRow.holds Tryd.pinned (OpenSpec.ofChange locsEncodesSpec)

/-- ITS FALSE NEIGHBOUR: 'it returns false'. Refute it at one input. -/
def locsEncodesWrong : ChangeSpec := { name := "locsEncodes", fn := fun _ => fun
  | [d] => { results := [.lit (.bool false)], args := [d] }
  | _ => none }
def LocsEncodesWrongFalsely : Prop := locsEncodesRow.holds Tryd.pinned (OpenSpec.ofChange locsEncodesWrong)

/-- 'teasellaw21.LocsDecodes': WHATEVER THE INPUT: true; the input reads as it did. -/
def locsDecodesSpec : ChangeSpec := { name := "locsDecodes", fn := fun _ => fun
  | [d] => { results := [.lit (.bool true)], args := [d] }
  | _ => none }
def locsDecodesRow : OpenClaim := { program := "ytmidnniinjkffaadoor", sum := "758e980447843d6f2b51bc62de4e47c12735d9c0c6f23a4dddb54d92e457008d", func := "teasel/teasellaw21.LocsDecodes", spec := "locsDecodes", inPlace := ["internal/reflectlite.TypeOf"], unfollowed := true, recurses := true, named := ["teasel/locs.errForm"], plainKeys := false, apart := false, laid := [("teasel/locs.errForm", laid_teasel_locs_errForm)] }
def LocsDecodesSaid : Prop := locsDecodesRow.holds Tryd.pinned (OpenSpec.ofChange locsDecodesSpec)

/-- ITS FALSE NEIGHBOUR: 'it returns false'. Refute it at one input. -/
def locsDecodesWrong : ChangeSpec := { name := "locsDecodes", fn := fun _ => fun
  | [d] => { results := [.lit (.bool false)], args := [d] }
  | _ => none }
def LocsDecodesWrongFalsely : Prop := locsDecodesRow.holds Tryd.pinned (OpenSpec.ofChange locsDecodesWrong)

/-- 'teasellaw21.LocsCut': WHATEVER THE INPUT: true; the input reads as it did. -/
def locsCutSpec : ChangeSpec := { name := "locsCut", fn := fun _ => fun
  | [d1, d2, d3, d4] => { results := [.lit (.bool true)], args := [d1, d2, d3, d4] }
  | _ => none }
def locsCutRow : OpenClaim := { program := "ytmidnniinjkffaadoor", sum := "758e980447843d6f2b51bc62de4e47c12735d9c0c6f23a4dddb54d92e457008d", func := "teasel/teasellaw21.LocsCut", spec := "locsCut", inPlace := ["internal/reflectlite.TypeOf"], unfollowed := true, recurses := true, named := ["teasel/locs.errForm"], plainKeys := false, apart := false, laid := [("teasel/locs.errForm", laid_teasel_locs_errForm)] }
def LocsCutSaid : Prop := locsCutRow.holds Tryd.pinned (OpenSpec.ofChange locsCutSpec)

/-- ITS FALSE NEIGHBOUR: 'it returns false'. Refute it at one input. -/
def locsCutWrong : ChangeSpec := { name := "locsCut", fn := fun _ => fun
  | [d1, d2, d3, d4] => { results := [.lit (.bool false)], args := [d1, d2, d3, d4] }
  | _ => none }
def LocsCutWrongFalsely : Prop := locsCutRow.holds Tryd.pinned (OpenSpec.ofChange locsCutWrong)

/- THE SECOND FORM. 'bulk': how many values and letters a reading holds, each counted each time it is reached (what is shared counts as often as it is met; a slice's spare places count too). A statement '..UptoSaid' is the law's where the arguments, and the package variables that the reading takes, are together of bulk at most 1048576: NARROWER than '..Said'. Prove '..Said' where nothing that the law and all that it calls make is longer than what came in: it says more and counts as full. Else prove '..UptoSaid'. A law counts once. -/
mutual
def uptoBulk {H : Type} : DataW H → Nat
  | .lit (.string bytes) => bytes.length + 1
  | .lit _ => 1
  | .nil => 1
  | .ptr d => uptoBulk d + 1
  | .slice elems spare => uptoBulkAll elems + uptoBulkAll spare + 1
  | .agg parts => uptoBulkAll parts + 1
  | .iface _ d => uptoBulk d + 1
  | .map entries => uptoBulkEntries entries + 1
  | .held _ => 1
def uptoBulkAll {H : Type} : List (DataW H) → Nat
  | [] => 0
  | d :: r => uptoBulk d + uptoBulkAll r
def uptoBulkEntries {H : Type} : List (Lit × DataW H) → Nat
  | [] => 0
  | x :: r => uptoBulkEntry x + uptoBulkEntries r
def uptoBulkEntry {H : Type} : Lit × DataW H → Nat
  | (.string bytes, d) => bytes.length + uptoBulk d + 1
  | (_, d) => uptoBulk d + 1
 end
def uptoSmall : (H : Type) → List (DataW H) → Bool := fun _ ds => decide (uptoBulkAll ds ≤ 1048576)
def OpenSpec.upto (s : _root_.Go.ChangeSpec) : _root_.Go.OpenSpec := { _root_.Go.OpenSpec.ofChange s with cond := some uptoSmall }

/-- 'teasellaw21.LocsEncodes', WHERE WHAT IT READS IS OF BULK AT MOST 1048576: true; the input reads as it did. -/
def locsEncodesUptoRow : OpenClaim := { program := "ytmidnniinjkffaadoor", sum := "758e980447843d6f2b51bc62de4e47c12735d9c0c6f23a4dddb54d92e457008d", func := "teasel/teasellaw21.LocsEncodes", spec := "locsEncodes", inPlace := ["internal/reflectlite.TypeOf"], unfollowed := true, recurses := true, named := ["teasel/locs.errForm"], plainKeys := false, apart := false, laid := [("teasel/locs.errForm", laid_teasel_locs_errForm)], narrowed := true }
def LocsEncodesUptoSaid : Prop := locsEncodesUptoRow.holds Tryd.pinned (OpenSpec.upto locsEncodesSpec)

/-- 'teasellaw21.LocsDecodes', WHERE WHAT IT READS IS OF BULK AT MOST 1048576: true; the input reads as it did. -/
def locsDecodesUptoRow : OpenClaim := { program := "ytmidnniinjkffaadoor", sum := "758e980447843d6f2b51bc62de4e47c12735d9c0c6f23a4dddb54d92e457008d", func := "teasel/teasellaw21.LocsDecodes", spec := "locsDecodes", inPlace := ["internal/reflectlite.TypeOf"], unfollowed := true, recurses := true, named := ["teasel/locs.errForm"], plainKeys := false, apart := false, laid := [("teasel/locs.errForm", laid_teasel_locs_errForm)], narrowed := true }
def LocsDecodesUptoSaid : Prop := locsDecodesUptoRow.holds Tryd.pinned (OpenSpec.upto locsDecodesSpec)

/-- 'teasellaw21.LocsCut', WHERE WHAT IT READS IS OF BULK AT MOST 1048576: true; the input reads as it did. -/
def locsCutUptoRow : OpenClaim := { program := "ytmidnniinjkffaadoor", sum := "758e980447843d6f2b51bc62de4e47c12735d9c0c6f23a4dddb54d92e457008d", func := "teasel/teasellaw21.LocsCut", spec := "locsCut", inPlace := ["internal/reflectlite.TypeOf"], unfollowed := true, recurses := true, named := ["teasel/locs.errForm"], plainKeys := false, apart := false, laid := [("teasel/locs.errForm", laid_teasel_locs_errForm)], narrowed := true }
def LocsCutUptoSaid : Prop := locsCutUptoRow.holds Tryd.pinned (OpenSpec.upto locsCutSpec)

end Rows
end Go.Proofs.YtmidnniinjkffaaDoor
