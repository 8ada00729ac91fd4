/-
  No cell of these rows narrows 'for every input' (looked for: loops, veiled, ifaces, maps, wideKeys, modest, calm, conditions, laid).
  DERIVED. THE GIVEN ROWS OF THIS SEAT. 4 by the template 'for every input the law returns true; each argument reads behind the call as it read before'; 0 by the template 'total and deterministic' (their statements: YteeapfgjjankeaaTotals.lean).
  GIVEN WITH THE SEED: the statements are not yours to turn. If you find one false, say at which input.
  Laid BY PROGRAM, IN A SANDBOX (cutbox-rows.mjs): the forced cells as the released guide's own fill.sh prints them over the translation 535704f14565ca28… (all of the seat's roots in one cut). By AI agents, Wed Nov 11 2026. No macro, syntax, notation, axiom, sorry.
-/
import Derived.Test.YteeapfgjjankeaaChecked
import GoSem.Claim
import GoSem.ClaimJoined
import GoSem.ClaimMapViews
import Derived.JoinedTies
import Derived.KernelRfl
namespace Go.Proofs.Yteeapfgjjankeaa
/- THE CELL 'sum', in the pinned program and in every row, IS THE sha256 OF THE DUMP (.gsa) THAT YteeapfgjjankeaaProg.lean LOADS. Nothing in Lean hashes anything: it is a label: what it is worth is what the hold of that sum in a sandbox is worth. -/
noncomputable def Try.pinned : Pinned := { name := "yteeapfgjjankeaa", sum := "535704f14565ca286661cae91dc5a1612fb1befa151496ecc7440042151b9c86", checked := Try.checked }
namespace Rows
def none {H : Type} : Left H := { results := [], args := [] }

/-- 'teasellaw22.VmParts': WHATEVER THE INPUT: true; the input reads as it did. -/
def vmPartsSpec : ChangeSpec := { name := "vmParts", fn := fun _ => fun
  | [d1, d2, d3, d4] => { results := [.lit (.bool true)], args := [d1, d2, d3, d4] }
  | _ => none }
def vmPartsRow : OpenClaim := { program := "yteeapfgjjankeaa", sum := "535704f14565ca286661cae91dc5a1612fb1befa151496ecc7440042151b9c86", func := "teasel/teasellaw22.VmParts", spec := "vmParts", inPlace := ["sync/atomic.AddInt64", "sync/atomic.LoadInt64", "sync/atomic.StoreInt64"], apart := false }
def VmPartsSaid : Prop := vmPartsRow.holds Try.pinned (OpenSpec.ofChange vmPartsSpec)

/-- ITS FALSE NEIGHBOUR: 'it returns false'. Refute it at one input. -/
def vmPartsWrong : ChangeSpec := { name := "vmParts", fn := fun _ => fun
  | [d1, d2, d3, d4] => { results := [.lit (.bool false)], args := [d1, d2, d3, d4] }
  | _ => none }
def VmPartsWrongFalsely : Prop := vmPartsRow.holds Try.pinned (OpenSpec.ofChange vmPartsWrong)

/-- 'teasellaw22.VmLoads': WHATEVER THE INPUT: true; the input reads as it did. -/
def vmLoadsSpec : ChangeSpec := { name := "vmLoads", fn := fun _ => fun
  | [d1, d2, d3, d4, d5, d6] => { results := [.lit (.bool true)], args := [d1, d2, d3, d4, d5, d6] }
  | _ => none }
def vmLoadsRow : OpenClaim := { program := "yteeapfgjjankeaa", sum := "535704f14565ca286661cae91dc5a1612fb1befa151496ecc7440042151b9c86", func := "teasel/teasellaw22.VmLoads", spec := "vmLoads", inPlace := ["sync/atomic.AddInt64", "sync/atomic.LoadInt64", "sync/atomic.StoreInt64"], unfollowed := true, recurses := true, apart := false }
def VmLoadsSaid : Prop := vmLoadsRow.holds Try.pinned (OpenSpec.ofChange vmLoadsSpec)

/-- ITS FALSE NEIGHBOUR: 'it returns false'. Refute it at one input. -/
def vmLoadsWrong : ChangeSpec := { name := "vmLoads", fn := fun _ => fun
  | [d1, d2, d3, d4, d5, d6] => { results := [.lit (.bool false)], args := [d1, d2, d3, d4, d5, d6] }
  | _ => none }
def VmLoadsWrongFalsely : Prop := vmLoadsRow.holds Try.pinned (OpenSpec.ofChange vmLoadsWrong)

/-- 'teasellaw22.VmSaves': WHATEVER THE INPUT: true; the input reads as it did. -/
def vmSavesSpec : ChangeSpec := { name := "vmSaves", fn := fun _ => fun
  | [d1, d2, d3, d4, d5] => { results := [.lit (.bool true)], args := [d1, d2, d3, d4, d5] }
  | _ => none }
def vmSavesRow : OpenClaim := { program := "yteeapfgjjankeaa", sum := "535704f14565ca286661cae91dc5a1612fb1befa151496ecc7440042151b9c86", func := "teasel/teasellaw22.VmSaves", spec := "vmSaves", inPlace := ["sync/atomic.AddInt64", "sync/atomic.LoadInt64", "sync/atomic.StoreInt64"], unfollowed := true, recurses := true, apart := false }
def VmSavesSaid : Prop := vmSavesRow.holds Try.pinned (OpenSpec.ofChange vmSavesSpec)

/-- ITS FALSE NEIGHBOUR: 'it returns false'. Refute it at one input. -/
def vmSavesWrong : ChangeSpec := { name := "vmSaves", fn := fun _ => fun
  | [d1, d2, d3, d4, d5] => { results := [.lit (.bool false)], args := [d1, d2, d3, d4, d5] }
  | _ => none }
def VmSavesWrongFalsely : Prop := vmSavesRow.holds Try.pinned (OpenSpec.ofChange vmSavesWrong)

/-- 'teasellaw22.VmNil': WHATEVER THE INPUT: true; the input reads as it did. -/
def vmNilSpec : ChangeSpec := { name := "vmNil", fn := fun _ => fun
  | [d1, d2, d3] => { results := [.lit (.bool true)], args := [d1, d2, d3] }
  | _ => none }
def vmNilRow : OpenClaim := { program := "yteeapfgjjankeaa", sum := "535704f14565ca286661cae91dc5a1612fb1befa151496ecc7440042151b9c86", func := "teasel/teasellaw22.VmNil", spec := "vmNil", inPlace := ["sync/atomic.LoadInt64", "sync/atomic.StoreInt64", "sync/atomic.AddInt64"], unfollowed := true, recurses := true, apart := false }
def VmNilSaid : Prop := vmNilRow.holds Try.pinned (OpenSpec.ofChange vmNilSpec)

/-- ITS FALSE NEIGHBOUR: 'it returns false'. Refute it at one input. -/
def vmNilWrong : ChangeSpec := { name := "vmNil", fn := fun _ => fun
  | [d1, d2, d3] => { results := [.lit (.bool false)], args := [d1, d2, d3] }
  | _ => none }
def VmNilWrongFalsely : Prop := vmNilRow.holds Try.pinned (OpenSpec.ofChange vmNilWrong)

/- THE SECOND FORM. 'bulk': how many values and letters a reading holds, each counted each time it is reached (what is shared counts as often as it is met; a slice's spare places count too). A statement '..UptoSaid' is the law's where the arguments, and the package variables that the reading takes, are together of bulk at most 1048576: NARROWER than '..Said'. Prove '..Said' where nothing that the law and all that it calls make is longer than what came in: it says more and counts as full. Else prove '..UptoSaid'. A law counts once. -/
mutual
def uptoBulk {H : Type} : DataW H → Nat
  | .lit (.string bytes) => bytes.length + 1
  | .lit _ => 1
  | .nil => 1
  | .ptr d => uptoBulk d + 1
  | .slice elems spare => uptoBulkAll elems + uptoBulkAll spare + 1
  | .agg parts => uptoBulkAll parts + 1
  | .iface _ d => uptoBulk d + 1
  | .map entries => uptoBulkEntries entries + 1
  | .held _ => 1
def uptoBulkAll {H : Type} : List (DataW H) → Nat
  | [] => 0
  | d :: r => uptoBulk d + uptoBulkAll r
def uptoBulkEntries {H : Type} : List (Lit × DataW H) → Nat
  | [] => 0
  | x :: r => uptoBulkEntry x + uptoBulkEntries r
def uptoBulkEntry {H : Type} : Lit × DataW H → Nat
  | (.string bytes, d) => bytes.length + uptoBulk d + 1
  | (_, d) => uptoBulk d + 1
 end
def uptoSmall : (H : Type) → List (DataW H) → Bool := fun _ ds => decide (uptoBulkAll ds ≤ 1048576)
def OpenSpec.upto (s : _root_.Go.ChangeSpec) : _root_.Go.OpenSpec := { _root_.Go.OpenSpec.ofChange s with cond := some uptoSmall }

/-- 'teasellaw22.VmParts', WHERE WHAT IT READS IS OF BULK AT MOST 1048576: true; the input reads as it did. -/
def vmPartsUptoRow : OpenClaim := { program := "yteeapfgjjankeaa", sum := "535704f14565ca286661cae91dc5a1612fb1befa151496ecc7440042151b9c86", func := "teasel/teasellaw22.VmParts", spec := "vmParts", inPlace := ["sync/atomic.AddInt64", "sync/atomic.LoadInt64", "sync/atomic.StoreInt64"], apart := false, narrowed := true }
def VmPartsUptoSaid : Prop := vmPartsUptoRow.holds Try.pinned (OpenSpec.upto vmPartsSpec)

/-- 'teasellaw22.VmLoads', WHERE WHAT IT READS IS OF BULK AT MOST 1048576: true; the input reads as it did. -/
def vmLoadsUptoRow : OpenClaim := { program := "yteeapfgjjankeaa", sum := "535704f14565ca286661cae91dc5a1612fb1befa151496ecc7440042151b9c86", func := "teasel/teasellaw22.VmLoads", spec := "vmLoads", inPlace := ["sync/atomic.AddInt64", "sync/atomic.LoadInt64", "sync/atomic.StoreInt64"], unfollowed := true, recurses := true, apart := false, narrowed := true }
def VmLoadsUptoSaid : Prop := vmLoadsUptoRow.holds Try.pinned (OpenSpec.upto vmLoadsSpec)

/-- 'teasellaw22.VmSaves', WHERE WHAT IT READS IS OF BULK AT MOST 1048576: true; the input reads as it did. -/
def vmSavesUptoRow : OpenClaim := { program := "yteeapfgjjankeaa", sum := "535704f14565ca286661cae91dc5a1612fb1befa151496ecc7440042151b9c86", func := "teasel/teasellaw22.VmSaves", spec := "vmSaves", inPlace := ["sync/atomic.AddInt64", "sync/atomic.LoadInt64", "sync/atomic.StoreInt64"], unfollowed := true, recurses := true, apart := false, narrowed := true }
def VmSavesUptoSaid : Prop := vmSavesUptoRow.holds Try.pinned (OpenSpec.upto vmSavesSpec)

/-- 'teasellaw22.VmNil', WHERE WHAT IT READS IS OF BULK AT MOST 1048576: true; the input reads as it did. -/
def vmNilUptoRow : OpenClaim := { program := "yteeapfgjjankeaa", sum := "535704f14565ca286661cae91dc5a1612fb1befa151496ecc7440042151b9c86", func := "teasel/teasellaw22.VmNil", spec := "vmNil", inPlace := ["sync/atomic.LoadInt64", "sync/atomic.StoreInt64", "sync/atomic.AddInt64"], unfollowed := true, recurses := true, apart := false, narrowed := true }
def VmNilUptoSaid : Prop := vmNilUptoRow.holds Try.pinned (OpenSpec.upto vmNilSpec)

end Rows
end Go.Proofs.Yteeapfgjjankeaa
