/-
  No cell of these rows narrows 'for every input' (looked for: loops, veiled, ifaces, maps, wideKeys, modest, calm, conditions, laid).
  DERIVED. THE GIVEN ROWS OF THIS SEAT. 5 by the template 'for every input the law returns true; each argument reads behind the call as it read before'; 0 by the template 'total and deterministic' (their statements: YtlnaaoigggfefaaTotals.lean).
  GIVEN WITH THE SEED: the statements are not yours to turn. If you find one false, say at which input.
  Laid BY PROGRAM, IN A SANDBOX (cutbox-rows.mjs): the forced cells as the released guide's own fill.sh prints them over the translation 09e62e8b93c9d183… (all of the seat's roots in one cut). By AI agents, Wed Nov 11 2026. No macro, syntax, notation, axiom, sorry.
-/
import Derived.Test.YtlnaaoigggfefaaChecked
import GoSem.Claim
import GoSem.ClaimJoined
import GoSem.ClaimMapViews
import Derived.JoinedTies
import Derived.KernelRfl
namespace Go.Proofs.Ytlnaaoigggfefaa
/- THE CELL 'sum', in the pinned program and in every row, IS THE sha256 OF THE DUMP (.gsa) THAT YtlnaaoigggfefaaProg.lean LOADS. Nothing in Lean hashes anything: it is a label: what it is worth is what the hold of that sum in a sandbox is worth. -/
noncomputable def Try.pinned : Pinned := { name := "ytlnaaoigggfefaa", sum := "09e62e8b93c9d1839999a69b7e12974e3ed716eba5c085cd886f2ca73d3a39ec", checked := Try.checked }
namespace Rows
def none {H : Type} : Left H := { results := [], args := [] }

/-- 'teasellaw20.InstDecodes': WHATEVER THE INPUT: true; the input reads as it did. -/
def instDecodesSpec : ChangeSpec := { name := "instDecodes", fn := fun _ => fun
  | [d] => { results := [.lit (.bool true)], args := [d] }
  | _ => none }
def instDecodesRow : OpenClaim := { program := "ytlnaaoigggfefaa", sum := "09e62e8b93c9d1839999a69b7e12974e3ed716eba5c085cd886f2ca73d3a39ec", func := "teasel/teasellaw20.InstDecodes", spec := "instDecodes", apart := false }
def InstDecodesSaid : Prop := instDecodesRow.holds Try.pinned (OpenSpec.ofChange instDecodesSpec)

/-- ITS FALSE NEIGHBOUR: 'it returns false'. Refute it at one input. -/
def instDecodesWrong : ChangeSpec := { name := "instDecodes", fn := fun _ => fun
  | [d] => { results := [.lit (.bool false)], args := [d] }
  | _ => none }
def InstDecodesWrongFalsely : Prop := instDecodesRow.holds Try.pinned (OpenSpec.ofChange instDecodesWrong)

/-- 'teasellaw20.InstApart': WHATEVER THE INPUT: true; the input reads as it did. -/
def instApartSpec : ChangeSpec := { name := "instApart", fn := fun _ => fun
  | [d1, d2] => { results := [.lit (.bool true)], args := [d1, d2] }
  | _ => none }
def instApartRow : OpenClaim := { program := "ytlnaaoigggfefaa", sum := "09e62e8b93c9d1839999a69b7e12974e3ed716eba5c085cd886f2ca73d3a39ec", func := "teasel/teasellaw20.InstApart", spec := "instApart", apart := false }
def InstApartSaid : Prop := instApartRow.holds Try.pinned (OpenSpec.ofChange instApartSpec)

/-- ITS FALSE NEIGHBOUR: 'it returns false'. Refute it at one input. -/
def instApartWrong : ChangeSpec := { name := "instApart", fn := fun _ => fun
  | [d1, d2] => { results := [.lit (.bool false)], args := [d1, d2] }
  | _ => none }
def InstApartWrongFalsely : Prop := instApartRow.holds Try.pinned (OpenSpec.ofChange instApartWrong)

/-- 'teasellaw20.InstEncodes': WHATEVER THE INPUT: true; the input reads as it did. -/
def instEncodesSpec : ChangeSpec := { name := "instEncodes", fn := fun _ => fun
  | [d1, d2] => { results := [.lit (.bool true)], args := [d1, d2] }
  | _ => none }
def instEncodesRow : OpenClaim := { program := "ytlnaaoigggfefaa", sum := "09e62e8b93c9d1839999a69b7e12974e3ed716eba5c085cd886f2ca73d3a39ec", func := "teasel/teasellaw20.InstEncodes", spec := "instEncodes", apart := false }
def InstEncodesSaid : Prop := instEncodesRow.holds Try.pinned (OpenSpec.ofChange instEncodesSpec)

/-- ITS FALSE NEIGHBOUR: 'it returns false'. Refute it at one input. -/
def instEncodesWrong : ChangeSpec := { name := "instEncodes", fn := fun _ => fun
  | [d1, d2] => { results := [.lit (.bool false)], args := [d1, d2] }
  | _ => none }
def InstEncodesWrongFalsely : Prop := instEncodesRow.holds Try.pinned (OpenSpec.ofChange instEncodesWrong)

/-- 'teasellaw20.InstPacks': WHATEVER THE INPUT: true; the input reads as it did. -/
def instPacksSpec : ChangeSpec := { name := "instPacks", fn := fun _ => fun
  | [d1, d2] => { results := [.lit (.bool true)], args := [d1, d2] }
  | _ => none }
def instPacksRow : OpenClaim := { program := "ytlnaaoigggfefaa", sum := "09e62e8b93c9d1839999a69b7e12974e3ed716eba5c085cd886f2ca73d3a39ec", func := "teasel/teasellaw20.InstPacks", spec := "instPacks", apart := false }
def InstPacksSaid : Prop := instPacksRow.holds Try.pinned (OpenSpec.ofChange instPacksSpec)

/-- ITS FALSE NEIGHBOUR: 'it returns false'. Refute it at one input. -/
def instPacksWrong : ChangeSpec := { name := "instPacks", fn := fun _ => fun
  | [d1, d2] => { results := [.lit (.bool false)], args := [d1, d2] }
  | _ => none }
def InstPacksWrongFalsely : Prop := instPacksRow.holds Try.pinned (OpenSpec.ofChange instPacksWrong)

/-- 'teasellaw20.InstLimits': WHATEVER THE INPUT: true; the input reads as it did. -/
def instLimitsSpec : ChangeSpec := { name := "instLimits", fn := fun _ => fun
  | [d] => { results := [.lit (.bool true)], args := [d] }
  | _ => none }
def instLimitsRow : OpenClaim := { program := "ytlnaaoigggfefaa", sum := "09e62e8b93c9d1839999a69b7e12974e3ed716eba5c085cd886f2ca73d3a39ec", func := "teasel/teasellaw20.InstLimits", spec := "instLimits", apart := false }
def InstLimitsSaid : Prop := instLimitsRow.holds Try.pinned (OpenSpec.ofChange instLimitsSpec)

/-- ITS FALSE NEIGHBOUR: 'it returns false'. Refute it at one input. -/
def instLimitsWrong : ChangeSpec := { name := "instLimits", fn := fun _ => fun
  | [d] => { results := [.lit (.bool false)], args := [d] }
  | _ => none }
def InstLimitsWrongFalsely : Prop := instLimitsRow.holds Try.pinned (OpenSpec.ofChange instLimitsWrong)

/- THE SECOND FORM. 'bulk': how many values and letters a reading holds, each counted each time it is reached (what is shared counts as often as it is met; a slice's spare places count too). A statement '..UptoSaid' is the law's where the arguments, and the package variables that the reading takes, are together of bulk at most 1048576: NARROWER than '..Said'. Prove '..Said' where nothing that the law and all that it calls make is longer than what came in: it says more and counts as full. Else prove '..UptoSaid'. A law counts once. -/
mutual
def uptoBulk {H : Type} : DataW H → Nat
  | .lit (.string bytes) => bytes.length + 1
  | .lit _ => 1
  | .nil => 1
  | .ptr d => uptoBulk d + 1
  | .slice elems spare => uptoBulkAll elems + uptoBulkAll spare + 1
  | .agg parts => uptoBulkAll parts + 1
  | .iface _ d => uptoBulk d + 1
  | .map entries => uptoBulkEntries entries + 1
  | .held _ => 1
def uptoBulkAll {H : Type} : List (DataW H) → Nat
  | [] => 0
  | d :: r => uptoBulk d + uptoBulkAll r
def uptoBulkEntries {H : Type} : List (Lit × DataW H) → Nat
  | [] => 0
  | x :: r => uptoBulkEntry x + uptoBulkEntries r
def uptoBulkEntry {H : Type} : Lit × DataW H → Nat
  | (.string bytes, d) => bytes.length + uptoBulk d + 1
  | (_, d) => uptoBulk d + 1
 end
def uptoSmall : (H : Type) → List (DataW H) → Bool := fun _ ds => decide (uptoBulkAll ds ≤ 1048576)
def OpenSpec.upto (s : _root_.Go.ChangeSpec) : _root_.Go.OpenSpec := { _root_.Go.OpenSpec.ofChange s with cond := some uptoSmall }

/-- 'teasellaw20.InstDecodes', WHERE WHAT IT READS IS OF BULK AT MOST 1048576: true; the input reads as it did. -/
def instDecodesUptoRow : OpenClaim := { program := "ytlnaaoigggfefaa", sum := "09e62e8b93c9d1839999a69b7e12974e3ed716eba5c085cd886f2ca73d3a39ec", func := "teasel/teasellaw20.InstDecodes", spec := "instDecodes", apart := false, narrowed := true }
def InstDecodesUptoSaid : Prop := instDecodesUptoRow.holds Try.pinned (OpenSpec.upto instDecodesSpec)

/-- 'teasellaw20.InstApart', WHERE WHAT IT READS IS OF BULK AT MOST 1048576: true; the input reads as it did. -/
def instApartUptoRow : OpenClaim := { program := "ytlnaaoigggfefaa", sum := "09e62e8b93c9d1839999a69b7e12974e3ed716eba5c085cd886f2ca73d3a39ec", func := "teasel/teasellaw20.InstApart", spec := "instApart", apart := false, narrowed := true }
def InstApartUptoSaid : Prop := instApartUptoRow.holds Try.pinned (OpenSpec.upto instApartSpec)

/-- 'teasellaw20.InstEncodes', WHERE WHAT IT READS IS OF BULK AT MOST 1048576: true; the input reads as it did. -/
def instEncodesUptoRow : OpenClaim := { program := "ytlnaaoigggfefaa", sum := "09e62e8b93c9d1839999a69b7e12974e3ed716eba5c085cd886f2ca73d3a39ec", func := "teasel/teasellaw20.InstEncodes", spec := "instEncodes", apart := false, narrowed := true }
def InstEncodesUptoSaid : Prop := instEncodesUptoRow.holds Try.pinned (OpenSpec.upto instEncodesSpec)

/-- 'teasellaw20.InstPacks', WHERE WHAT IT READS IS OF BULK AT MOST 1048576: true; the input reads as it did. -/
def instPacksUptoRow : OpenClaim := { program := "ytlnaaoigggfefaa", sum := "09e62e8b93c9d1839999a69b7e12974e3ed716eba5c085cd886f2ca73d3a39ec", func := "teasel/teasellaw20.InstPacks", spec := "instPacks", apart := false, narrowed := true }
def InstPacksUptoSaid : Prop := instPacksUptoRow.holds Try.pinned (OpenSpec.upto instPacksSpec)

/-- 'teasellaw20.InstLimits', WHERE WHAT IT READS IS OF BULK AT MOST 1048576: true; the input reads as it did. -/
def instLimitsUptoRow : OpenClaim := { program := "ytlnaaoigggfefaa", sum := "09e62e8b93c9d1839999a69b7e12974e3ed716eba5c085cd886f2ca73d3a39ec", func := "teasel/teasellaw20.InstLimits", spec := "instLimits", apart := false, narrowed := true }
def InstLimitsUptoSaid : Prop := instLimitsUptoRow.holds Try.pinned (OpenSpec.upto instLimitsSpec)

end Rows
end Go.Proofs.Ytlnaaoigggfefaa
