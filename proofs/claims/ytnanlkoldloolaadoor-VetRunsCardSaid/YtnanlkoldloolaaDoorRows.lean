/-
  NARROWER THAN 'FOR EVERY INPUT', by the rows' own cells (each row's printed sentence says how): VetChecks: laid · VetRuns: laid · VetLimits: laid · VetNames: laid.
  DERIVED. THE GIVEN ROWS OF THIS SEAT. 4 by the template 'for every input the law returns true; each argument reads behind the call as it read before'; 0 by the template 'total and deterministic' (their statements: YtnanlkoldloolaaDoorTotals.lean).
  GIVEN WITH THE SEED: the statements are not yours to turn. If you find one false, say at which input.
  Laid BY PROGRAM, IN A SANDBOX (cutbox-rows.mjs): the forced cells as the released guide's own fill.sh prints them over the translation 785fe4f5ec99337d… (all of the seat's roots in one cut). By AI agents, Wed Nov 11 2026. No macro, syntax, notation, axiom, sorry.
-/
import Derived.Test.YtnanlkoldloolaaDoorChecked
import GoSem.Claim
import GoSem.ClaimJoined
import GoSem.ClaimMapViews
import Derived.JoinedTies
import Derived.KernelRfl
namespace Go.Proofs.YtnanlkoldloolaaDoor
/- THE CELL 'sum', in the pinned program and in every row, IS THE sha256 OF THE DUMP (.gsa) THAT YtnanlkoldloolaaDoorProg.lean LOADS. Nothing in Lean hashes anything: it is a label: what it is worth is what the hold of that sum in a sandbox is worth. -/
noncomputable def Tryd.pinned : Pinned := { name := "ytnanlkoldloolaadoor", sum := "785fe4f5ec99337d499eeff9a35dae0df252d2c7a762c4aea57acef5165ccd82", checked := Tryd.checked }
namespace Rows
def none {H : Type} : Left H := { results := [], args := [] }

/- WHAT THE LISTED PACKAGE-LEVEL VARIABLES READ AS WHEN THE CALL BEGINS. Each datum BY PROGRAM (the guide's laid-datum.mjs) off the statement by which the dump's own 'gosem.cut.vars' lays the variable. In a bare row this is a premise. The card (YtnanlkoldloolaaDoorCards.lean) ties it to the program's text. -/
def laid_teasel_locs_errForm {H : Type} : DataW H := .iface "*errors.errorString" (.ptr (.agg [.lit (.string [110, 111, 32, 100, 101, 98, 117, 103, 32, 105, 110, 102, 111, 114, 109, 97, 116, 105, 111, 110])]))

/-- 'teasellaw23.VetChecks': WHATEVER THE INPUT: true; the input reads as it did. -/
def vetChecksSpec : ChangeSpec := { name := "vetChecks", fn := fun _ => fun
  | [d] => { results := [.lit (.bool true)], args := [d] }
  | _ => none }
def vetChecksRow : OpenClaim := { program := "ytnanlkoldloolaadoor", sum := "785fe4f5ec99337d499eeff9a35dae0df252d2c7a762c4aea57acef5165ccd82", func := "teasel/teasellaw23.VetChecks", spec := "vetChecks", inPlace := ["internal/reflectlite.TypeOf"], unfollowed := true, recurses := true, named := ["teasel/locs.errForm"], plainKeys := false, apart := false, laid := [("teasel/locs.errForm", laid_teasel_locs_errForm)] }
def VetChecksSaid : Prop := vetChecksRow.holds Tryd.pinned (OpenSpec.ofChange vetChecksSpec)

/-- ITS FALSE NEIGHBOUR: 'it returns false'. Refute it at one input. -/
def vetChecksWrong : ChangeSpec := { name := "vetChecks", fn := fun _ => fun
  | [d] => { results := [.lit (.bool false)], args := [d] }
  | _ => none }
def VetChecksWrongFalsely : Prop := vetChecksRow.holds Tryd.pinned (OpenSpec.ofChange vetChecksWrong)

/-- 'teasellaw23.VetRuns': WHATEVER THE INPUT: true; the input reads as it did. -/
def vetRunsSpec : ChangeSpec := { name := "vetRuns", fn := fun _ => fun
  | [d1, d2] => { results := [.lit (.bool true)], args := [d1, d2] }
  | _ => none }
def vetRunsRow : OpenClaim := { program := "ytnanlkoldloolaadoor", sum := "785fe4f5ec99337d499eeff9a35dae0df252d2c7a762c4aea57acef5165ccd82", func := "teasel/teasellaw23.VetRuns", spec := "vetRuns", inPlace := ["internal/reflectlite.TypeOf"], unfollowed := true, recurses := true, named := ["teasel/locs.errForm"], plainKeys := false, apart := false, laid := [("teasel/locs.errForm", laid_teasel_locs_errForm)] }
def VetRunsSaid : Prop := vetRunsRow.holds Tryd.pinned (OpenSpec.ofChange vetRunsSpec)

/-- ITS FALSE NEIGHBOUR: 'it returns false'. Refute it at one input. -/
def vetRunsWrong : ChangeSpec := { name := "vetRuns", fn := fun _ => fun
  | [d1, d2] => { results := [.lit (.bool false)], args := [d1, d2] }
  | _ => none }
def VetRunsWrongFalsely : Prop := vetRunsRow.holds Tryd.pinned (OpenSpec.ofChange vetRunsWrong)

/-- 'teasellaw23.VetLimits': WHATEVER THE INPUT: true; the input reads as it did. -/
def vetLimitsSpec : ChangeSpec := { name := "vetLimits", fn := fun _ => fun
  | [d] => { results := [.lit (.bool true)], args := [d] }
  | _ => none }
def vetLimitsRow : OpenClaim := { program := "ytnanlkoldloolaadoor", sum := "785fe4f5ec99337d499eeff9a35dae0df252d2c7a762c4aea57acef5165ccd82", func := "teasel/teasellaw23.VetLimits", spec := "vetLimits", inPlace := ["internal/reflectlite.TypeOf"], unfollowed := true, recurses := true, named := ["teasel/locs.errForm"], plainKeys := false, apart := false, laid := [("teasel/locs.errForm", laid_teasel_locs_errForm)] }
def VetLimitsSaid : Prop := vetLimitsRow.holds Tryd.pinned (OpenSpec.ofChange vetLimitsSpec)

/-- ITS FALSE NEIGHBOUR: 'it returns false'. Refute it at one input. -/
def vetLimitsWrong : ChangeSpec := { name := "vetLimits", fn := fun _ => fun
  | [d] => { results := [.lit (.bool false)], args := [d] }
  | _ => none }
def VetLimitsWrongFalsely : Prop := vetLimitsRow.holds Tryd.pinned (OpenSpec.ofChange vetLimitsWrong)

/-- 'teasellaw23.VetNames': WHATEVER THE INPUT: true; the input reads as it did. -/
def vetNamesSpec : ChangeSpec := { name := "vetNames", fn := fun _ => fun
  | [d1, d2, d3] => { results := [.lit (.bool true)], args := [d1, d2, d3] }
  | _ => none }
def vetNamesRow : OpenClaim := { program := "ytnanlkoldloolaadoor", sum := "785fe4f5ec99337d499eeff9a35dae0df252d2c7a762c4aea57acef5165ccd82", func := "teasel/teasellaw23.VetNames", spec := "vetNames", inPlace := ["internal/reflectlite.TypeOf"], unfollowed := true, recurses := true, named := ["teasel/locs.errForm"], plainKeys := false, apart := false, laid := [("teasel/locs.errForm", laid_teasel_locs_errForm)] }
def VetNamesSaid : Prop := vetNamesRow.holds Tryd.pinned (OpenSpec.ofChange vetNamesSpec)

/-- ITS FALSE NEIGHBOUR: 'it returns false'. Refute it at one input. -/
def vetNamesWrong : ChangeSpec := { name := "vetNames", fn := fun _ => fun
  | [d1, d2, d3] => { results := [.lit (.bool false)], args := [d1, d2, d3] }
  | _ => none }
def VetNamesWrongFalsely : Prop := vetNamesRow.holds Tryd.pinned (OpenSpec.ofChange vetNamesWrong)

/- THE SECOND FORM. 'bulk': how many values and letters a reading holds, each counted each time it is reached (what is shared counts as often as it is met; a slice's spare places count too). A statement '..UptoSaid' is the law's where the arguments, and the package variables that the reading takes, are together of bulk at most 1048576: NARROWER than '..Said'. Prove '..Said' where nothing that the law and all that it calls make is longer than what came in: it says more and counts as full. Else prove '..UptoSaid'. A law counts once. -/
mutual
def uptoBulk {H : Type} : DataW H → Nat
  | .lit (.string bytes) => bytes.length + 1
  | .lit _ => 1
  | .nil => 1
  | .ptr d => uptoBulk d + 1
  | .slice elems spare => uptoBulkAll elems + uptoBulkAll spare + 1
  | .agg parts => uptoBulkAll parts + 1
  | .iface _ d => uptoBulk d + 1
  | .map entries => uptoBulkEntries entries + 1
  | .held _ => 1
def uptoBulkAll {H : Type} : List (DataW H) → Nat
  | [] => 0
  | d :: r => uptoBulk d + uptoBulkAll r
def uptoBulkEntries {H : Type} : List (Lit × DataW H) → Nat
  | [] => 0
  | x :: r => uptoBulkEntry x + uptoBulkEntries r
def uptoBulkEntry {H : Type} : Lit × DataW H → Nat
  | (.string bytes, d) => bytes.length + uptoBulk d + 1
  | (_, d) => uptoBulk d + 1
 end
def uptoSmall : (H : Type) → List (DataW H) → Bool := fun _ ds => decide (uptoBulkAll ds ≤ 1048576)
def OpenSpec.upto (s : _root_.Go.ChangeSpec) : _root_.Go.OpenSpec := { _root_.Go.OpenSpec.ofChange s with cond := some uptoSmall }

/-- 'teasellaw23.VetChecks', WHERE WHAT IT READS IS OF BULK AT MOST 1048576: true; the input reads as it did. -/
def vetChecksUptoRow : OpenClaim := { program := "ytnanlkoldloolaadoor", sum := "785fe4f5ec99337d499eeff9a35dae0df252d2c7a762c4aea57acef5165ccd82", func := "teasel/teasellaw23.VetChecks", spec := "vetChecks", inPlace := ["internal/reflectlite.TypeOf"], unfollowed := true, recurses := true, named := ["teasel/locs.errForm"], plainKeys := false, apart := false, laid := [("teasel/locs.errForm", laid_teasel_locs_errForm)], narrowed := true }
def VetChecksUptoSaid : Prop := vetChecksUptoRow.holds Tryd.pinned (OpenSpec.upto vetChecksSpec)

/-- 'teasellaw23.VetRuns', WHERE WHAT IT READS IS OF BULK AT MOST 1048576: true; the input reads as it did. -/
def vetRunsUptoRow : OpenClaim := { program := "ytnanlkoldloolaadoor", sum := "785fe4f5ec99337d499eeff9a35dae0df252d2c7a762c4aea57acef5165ccd82", func := "teasel/teasellaw23.VetRuns", spec := "vetRuns", inPlace := ["internal/reflectlite.TypeOf"], unfollowed := true, recurses := true, named := ["teasel/locs.errForm"], plainKeys := false, apart := false, laid := [("teasel/locs.errForm", laid_teasel_locs_errForm)], narrowed := true }
def VetRunsUptoSaid : Prop := vetRunsUptoRow.holds Tryd.pinned (OpenSpec.upto vetRunsSpec)

/-- 'teasellaw23.VetLimits', WHERE WHAT IT READS IS OF BULK AT MOST 1048576: true; the input reads as it did. -/
def vetLimitsUptoRow : OpenClaim := { program := "ytnanlkoldloolaadoor", sum := "785fe4f5ec99337d499eeff9a35dae0df252d2c7a762c4aea57acef5165ccd82", func := "teasel/teasellaw23.VetLimits", spec := "vetLimits", inPlace := ["internal/reflectlite.TypeOf"], unfollowed := true, recurses := true, named := ["teasel/locs.errForm"], plainKeys := false, apart := false, laid := [("teasel/locs.errForm", laid_teasel_locs_errForm)], narrowed := true }
def VetLimitsUptoSaid : Prop := vetLimitsUptoRow.holds Tryd.pinned (OpenSpec.upto vetLimitsSpec)

/-- 'teasellaw23.VetNames', WHERE WHAT IT READS IS OF BULK AT MOST 1048576: true; the input reads as it did. -/
def vetNamesUptoRow : OpenClaim := { program := "ytnanlkoldloolaadoor", sum := "785fe4f5ec99337d499eeff9a35dae0df252d2c7a762c4aea57acef5165ccd82", func := "teasel/teasellaw23.VetNames", spec := "vetNames", inPlace := ["internal/reflectlite.TypeOf"], unfollowed := true, recurses := true, named := ["teasel/locs.errForm"], plainKeys := false, apart := false, laid := [("teasel/locs.errForm", laid_teasel_locs_errForm)], narrowed := true }
def VetNamesUptoSaid : Prop := vetNamesUptoRow.holds Tryd.pinned (OpenSpec.upto vetNamesSpec)

end Rows
end Go.Proofs.YtnanlkoldloolaaDoor
