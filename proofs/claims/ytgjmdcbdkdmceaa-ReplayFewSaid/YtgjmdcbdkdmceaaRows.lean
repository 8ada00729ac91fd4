/-
  No cell of these rows narrows 'for every input' (looked for: loops, veiled, ifaces, maps, wideKeys, modest, calm, conditions, laid).
  DERIVED. THE GIVEN ROWS OF THIS SEAT. 4 by the template 'for every input the law returns true; each argument reads behind the call as it read before'; 0 by the template 'total and deterministic' (their statements: YtgjmdcbdkdmceaaTotals.lean).
  GIVEN WITH THE SEED: the statements are not yours to turn. If you find one false, say at which input.
  Laid BY PROGRAM, IN A SANDBOX (cutbox-rows.mjs): the forced cells as the released guide's own fill.sh prints them over the translation bd799cadda4c653a… (all of the seat's roots in one cut). By AI agents, Wed Nov 11 2026. No macro, syntax, notation, axiom, sorry.
-/
import Derived.Test.YtgjmdcbdkdmceaaChecked
import GoSem.Claim
import GoSem.ClaimJoined
import GoSem.ClaimMapViews
import Derived.JoinedTies
import Derived.KernelRfl
namespace Go.Proofs.Ytgjmdcbdkdmceaa
/- THE CELL 'sum', in the pinned program and in every row, IS THE sha256 OF THE DUMP (.gsa) THAT YtgjmdcbdkdmceaaProg.lean LOADS. Nothing in Lean hashes anything: it is a label: what it is worth is what the hold of that sum in a sandbox is worth. -/
noncomputable def Try.pinned : Pinned := { name := "ytgjmdcbdkdmceaa", sum := "bd799cadda4c653acede999ef867dd1c939bc2989e68844d2d8629e87d916895", checked := Try.checked }
namespace Rows
def none {H : Type} : Left H := { results := [], args := [] }

/-- 'teasellaw26.ReplayExact': WHATEVER THE INPUT: true; the input reads as it did. -/
def replayExactSpec : ChangeSpec := { name := "replayExact", fn := fun _ => fun
  | [d1, d2, d3, d4, d5, d6, d7] => { results := [.lit (.bool true)], args := [d1, d2, d3, d4, d5, d6, d7] }
  | _ => none }
def replayExactRow : OpenClaim := { program := "ytgjmdcbdkdmceaa", sum := "bd799cadda4c653acede999ef867dd1c939bc2989e68844d2d8629e87d916895", func := "teasel/teasellaw26.ReplayExact", spec := "replayExact", inPlace := ["sync/atomic.LoadInt64", "sync/atomic.StoreInt64", "sync/atomic.AddInt64", "slices.overlaps[teasel/keep.moment]"], unfollowed := true, recurses := true, apart := false }
def ReplayExactSaid : Prop := replayExactRow.holds Try.pinned (OpenSpec.ofChange replayExactSpec)

/-- ITS FALSE NEIGHBOUR: 'it returns false'. Refute it at one input. -/
def replayExactWrong : ChangeSpec := { name := "replayExact", fn := fun _ => fun
  | [d1, d2, d3, d4, d5, d6, d7] => { results := [.lit (.bool false)], args := [d1, d2, d3, d4, d5, d6, d7] }
  | _ => none }
def ReplayExactWrongFalsely : Prop := replayExactRow.holds Try.pinned (OpenSpec.ofChange replayExactWrong)

/-- 'teasellaw26.ReplayNil': WHATEVER THE INPUT: true; the input reads as it did. -/
def replayNilSpec : ChangeSpec := { name := "replayNil", fn := fun _ => fun
  | [d] => { results := [.lit (.bool true)], args := [d] }
  | _ => none }
def replayNilRow : OpenClaim := { program := "ytgjmdcbdkdmceaa", sum := "bd799cadda4c653acede999ef867dd1c939bc2989e68844d2d8629e87d916895", func := "teasel/teasellaw26.ReplayNil", spec := "replayNil", inPlace := ["sync/atomic.LoadInt64", "sync/atomic.StoreInt64", "sync/atomic.AddInt64", "slices.overlaps[teasel/keep.moment]"], unfollowed := true, recurses := true, apart := false }
def ReplayNilSaid : Prop := replayNilRow.holds Try.pinned (OpenSpec.ofChange replayNilSpec)

/-- ITS FALSE NEIGHBOUR: 'it returns false'. Refute it at one input. -/
def replayNilWrong : ChangeSpec := { name := "replayNil", fn := fun _ => fun
  | [d] => { results := [.lit (.bool false)], args := [d] }
  | _ => none }
def ReplayNilWrongFalsely : Prop := replayNilRow.holds Try.pinned (OpenSpec.ofChange replayNilWrong)

/-- 'teasellaw26.ReplayFew': WHATEVER THE INPUT: true; the input reads as it did. -/
def replayFewSpec : ChangeSpec := { name := "replayFew", fn := fun _ => fun
  | [d1, d2, d3] => { results := [.lit (.bool true)], args := [d1, d2, d3] }
  | _ => none }
def replayFewRow : OpenClaim := { program := "ytgjmdcbdkdmceaa", sum := "bd799cadda4c653acede999ef867dd1c939bc2989e68844d2d8629e87d916895", func := "teasel/teasellaw26.ReplayFew", spec := "replayFew", inPlace := ["sync/atomic.LoadInt64", "sync/atomic.StoreInt64", "sync/atomic.AddInt64", "slices.overlaps[teasel/keep.moment]"], unfollowed := true, recurses := true, apart := false }
def ReplayFewSaid : Prop := replayFewRow.holds Try.pinned (OpenSpec.ofChange replayFewSpec)

/-- ITS FALSE NEIGHBOUR: 'it returns false'. Refute it at one input. -/
def replayFewWrong : ChangeSpec := { name := "replayFew", fn := fun _ => fun
  | [d1, d2, d3] => { results := [.lit (.bool false)], args := [d1, d2, d3] }
  | _ => none }
def ReplayFewWrongFalsely : Prop := replayFewRow.holds Try.pinned (OpenSpec.ofChange replayFewWrong)

/-- 'teasellaw26.ReplayHere': WHATEVER THE INPUT: true; the input reads as it did. -/
def replayHereSpec : ChangeSpec := { name := "replayHere", fn := fun _ => fun
  | [d1, d2, d3, d4] => { results := [.lit (.bool true)], args := [d1, d2, d3, d4] }
  | _ => none }
def replayHereRow : OpenClaim := { program := "ytgjmdcbdkdmceaa", sum := "bd799cadda4c653acede999ef867dd1c939bc2989e68844d2d8629e87d916895", func := "teasel/teasellaw26.ReplayHere", spec := "replayHere", inPlace := ["sync/atomic.LoadInt64", "sync/atomic.StoreInt64", "sync/atomic.AddInt64", "slices.overlaps[teasel/keep.moment]"], unfollowed := true, recurses := true, apart := false }
def ReplayHereSaid : Prop := replayHereRow.holds Try.pinned (OpenSpec.ofChange replayHereSpec)

/-- ITS FALSE NEIGHBOUR: 'it returns false'. Refute it at one input. -/
def replayHereWrong : ChangeSpec := { name := "replayHere", fn := fun _ => fun
  | [d1, d2, d3, d4] => { results := [.lit (.bool false)], args := [d1, d2, d3, d4] }
  | _ => none }
def ReplayHereWrongFalsely : Prop := replayHereRow.holds Try.pinned (OpenSpec.ofChange replayHereWrong)

/- THE SECOND FORM. 'bulk': how many values and letters a reading holds, each counted each time it is reached (what is shared counts as often as it is met; a slice's spare places count too). A statement '..UptoSaid' is the law's where the arguments, and the package variables that the reading takes, are together of bulk at most 1048576: NARROWER than '..Said'. Prove '..Said' where nothing that the law and all that it calls make is longer than what came in: it says more and counts as full. Else prove '..UptoSaid'. A law counts once. -/
mutual
def uptoBulk {H : Type} : DataW H → Nat
  | .lit (.string bytes) => bytes.length + 1
  | .lit _ => 1
  | .nil => 1
  | .ptr d => uptoBulk d + 1
  | .slice elems spare => uptoBulkAll elems + uptoBulkAll spare + 1
  | .agg parts => uptoBulkAll parts + 1
  | .iface _ d => uptoBulk d + 1
  | .map entries => uptoBulkEntries entries + 1
  | .held _ => 1
def uptoBulkAll {H : Type} : List (DataW H) → Nat
  | [] => 0
  | d :: r => uptoBulk d + uptoBulkAll r
def uptoBulkEntries {H : Type} : List (Lit × DataW H) → Nat
  | [] => 0
  | x :: r => uptoBulkEntry x + uptoBulkEntries r
def uptoBulkEntry {H : Type} : Lit × DataW H → Nat
  | (.string bytes, d) => bytes.length + uptoBulk d + 1
  | (_, d) => uptoBulk d + 1
 end
def uptoSmall : (H : Type) → List (DataW H) → Bool := fun _ ds => decide (uptoBulkAll ds ≤ 1048576)
def OpenSpec.upto (s : _root_.Go.ChangeSpec) : _root_.Go.OpenSpec := { _root_.Go.OpenSpec.ofChange s with cond := some uptoSmall }

/-- 'teasellaw26.ReplayExact', WHERE WHAT IT READS IS OF BULK AT MOST 1048576: true; the input reads as it did. -/
def replayExactUptoRow : OpenClaim := { program := "ytgjmdcbdkdmceaa", sum := "bd799cadda4c653acede999ef867dd1c939bc2989e68844d2d8629e87d916895", func := "teasel/teasellaw26.ReplayExact", spec := "replayExact", inPlace := ["sync/atomic.LoadInt64", "sync/atomic.StoreInt64", "sync/atomic.AddInt64", "slices.overlaps[teasel/keep.moment]"], unfollowed := true, recurses := true, apart := false, narrowed := true }
def ReplayExactUptoSaid : Prop := replayExactUptoRow.holds Try.pinned (OpenSpec.upto replayExactSpec)

/-- 'teasellaw26.ReplayNil', WHERE WHAT IT READS IS OF BULK AT MOST 1048576: true; the input reads as it did. -/
def replayNilUptoRow : OpenClaim := { program := "ytgjmdcbdkdmceaa", sum := "bd799cadda4c653acede999ef867dd1c939bc2989e68844d2d8629e87d916895", func := "teasel/teasellaw26.ReplayNil", spec := "replayNil", inPlace := ["sync/atomic.LoadInt64", "sync/atomic.StoreInt64", "sync/atomic.AddInt64", "slices.overlaps[teasel/keep.moment]"], unfollowed := true, recurses := true, apart := false, narrowed := true }
def ReplayNilUptoSaid : Prop := replayNilUptoRow.holds Try.pinned (OpenSpec.upto replayNilSpec)

/-- 'teasellaw26.ReplayFew', WHERE WHAT IT READS IS OF BULK AT MOST 1048576: true; the input reads as it did. -/
def replayFewUptoRow : OpenClaim := { program := "ytgjmdcbdkdmceaa", sum := "bd799cadda4c653acede999ef867dd1c939bc2989e68844d2d8629e87d916895", func := "teasel/teasellaw26.ReplayFew", spec := "replayFew", inPlace := ["sync/atomic.LoadInt64", "sync/atomic.StoreInt64", "sync/atomic.AddInt64", "slices.overlaps[teasel/keep.moment]"], unfollowed := true, recurses := true, apart := false, narrowed := true }
def ReplayFewUptoSaid : Prop := replayFewUptoRow.holds Try.pinned (OpenSpec.upto replayFewSpec)

/-- 'teasellaw26.ReplayHere', WHERE WHAT IT READS IS OF BULK AT MOST 1048576: true; the input reads as it did. -/
def replayHereUptoRow : OpenClaim := { program := "ytgjmdcbdkdmceaa", sum := "bd799cadda4c653acede999ef867dd1c939bc2989e68844d2d8629e87d916895", func := "teasel/teasellaw26.ReplayHere", spec := "replayHere", inPlace := ["sync/atomic.LoadInt64", "sync/atomic.StoreInt64", "sync/atomic.AddInt64", "slices.overlaps[teasel/keep.moment]"], unfollowed := true, recurses := true, apart := false, narrowed := true }
def ReplayHereUptoSaid : Prop := replayHereUptoRow.holds Try.pinned (OpenSpec.upto replayHereSpec)

end Rows
end Go.Proofs.Ytgjmdcbdkdmceaa
