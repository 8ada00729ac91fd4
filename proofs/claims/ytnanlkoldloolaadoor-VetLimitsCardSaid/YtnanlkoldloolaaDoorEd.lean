/- Locs: reading: a byte. -/
import Derived.Test.YtnanlkoldloolaaDoorU
import Derived.Test.YtnanlkoldloolaaDoorProg
import Derived.WalkKit
import Derived.WalkLawsBesides
import Derived.WalkSpells
import Derived.Lib.Hide
import Derived.Deep.Light
import Derived.BigQuiet
import Derived.Deep.QuietTactic
namespace Go.Proofs.YtnanlkoldloolaaDoor
open Go.RowKit

structure Turn (w w' : World) (k : Nat) (o : Obj) : Prop where
  at_ : w'.heap[k]? = some o
  os : w'.os = w.os
  tape : w'.tape = w.tape
  output : w'.output = w.output
  size : w.heap.size ≤ w'.heap.size
  block : ∀ j, j < w.heap.size → j ≠ k → w'.heap[j]? = w.heap[j]?
theorem Turn.later {w w' w'' : World} {k : Nat} {o : Obj} (h : Turn w w' k o) (hb : Below w'.heap.size w' w'') : Turn w w'' k o :=
  ⟨(hb.block k (Array.getElem?_eq_some_iff.1 h.at_).1).trans h.at_, hb.os.trans h.os, hb.tape.trans h.tape, hb.output.trans h.output, Nat.le_trans h.size hb.size, fun j hj hne => (hb.block j (Nat.lt_of_lt_of_le hj h.size)).trans (h.block j hj hne)⟩
theorem Turn.before {w w' w'' : World} {k : Nat} {o : Obj} (hb : Below w.heap.size w w') (h : Turn w' w'' k o) : Turn w w'' k o :=
  ⟨h.at_, h.os.trans hb.os, h.tape.trans hb.tape, h.output.trans hb.output, Nat.le_trans hb.size h.size, fun j hj hne => (h.block j (Nat.lt_of_lt_of_le hj hb.size) hne).trans (hb.block j hj)⟩
theorem turn_set {w : World} {k i : Nat} {c : Array Value} {t : TypeId} {f : Nat × Nat} (h : w.heap[k]? = some (.cells c t f)) (v : Value) : Turn w (w.setCell ⟨k, i, none⟩ v) k (.cells (c.setIfInBounds i v) t f) :=
  ⟨by simp [World.setCell, Array.getElem?_modify, h], rfl, rfl, rfl, by rw [World.size_setCell]; exact Nat.le_refl _, fun j _ hne => Below.heap_setCell _ _ _ _ hne⟩
theorem Turn.trans {w w' w'' : World} {k : Nat} {o o' : Obj} (h : Turn w w' k o) (h2 : Turn w' w'' k o') : Turn w w'' k o' :=
  ⟨h2.at_, h2.os.trans h.os, h2.tape.trans h.tape, h2.output.trans h.output, Nat.le_trans h.size h2.size, fun j hj hne => (h2.block j (Nat.lt_of_lt_of_le hj h.size) hne).trans (h.block j hj hne)⟩
theorem Turn.below {w0 w w' : World} {k base : Nat} {o : Obj} (hb : Below base w0 w) (h : Turn w w' k o) (hk : base ≤ k) (hs : base ≤ w.heap.size) : Below base w0 w' :=
  hb.trans ⟨h.os, h.tape, h.output, h.size, fun j hj => h.block j (by omega) (by omega)⟩

/-- The bytes' turner: what it reads, where it is, does it read. -/
abbrev TO (pv : Value) (n : Int) (rd : Bool) : Obj := .cells #[pv, .int .i64 n, .bool rd] 112 (0, 0)

theorem to_cells {w : World} {tb : Nat} {pv : Value} {n : Int} {rd : Bool} (h : w.heap[tb]? = some (TO pv n rd)) : w.cell? ⟨tb, 0, none⟩ = some pv ∧ w.cell? ⟨tb, 1, none⟩ = some (.int .i64 n) ∧ w.cell? ⟨tb, 2, none⟩ = some (.bool rd) ∧ w.frozen? ⟨tb, 0, none⟩ = false ∧ w.frozen? ⟨tb, 1, none⟩ = false := by
  simp [World.cell?, World.frozen?, h]

theorem turn_drewN {w w' : World} {k : Nat} {o : Obj} (h : Turn w w' k o) (n : Nat) : Turn w (w'.drewN n) k o := ⟨h.at_, h.os, h.tape, h.output, h.size, h.block⟩

set_option maxHeartbeats 1000000 in
theorem one_some (tb : Nat) (pv : Value) (l : List Int) (at' : Nat) (rd : Bool) (w : World) (hv : RdB w pv l) (hlt : at' < l.length) (ho : w.heap[tb]? = some (TO pv at' rd)) (hne : pv.ownBlock ≠ some tb) :
   Calls Tryd.prog 74 #[.pointer (some ⟨tb, 0, none⟩)] w fun e w' => e = .returned (.int .u8 (l.getD at' 0)) ∧ Turn w w' tb (TO pv ((at' + 1 : Nat) : Int) rd) := by
  rcases hv.split with ⟨a, c, rfl, rfl⟩ | ⟨b, off, c, rfl, hp, hlc, hc9, hb, hcell⟩
  · simp at hlt
  obtain ⟨k0, k1, k2, z0, hz⟩ := to_cells ho
  have hc := hcell at' hlt
  have hbt : b ≠ tb := fun h => hne (by simp [Value.ownBlock, h])
  have hge : decide (l.length ≤ at') = false := decide_eq_false (by omega)
  have hw1 : ((at' : Int) + 1) - 1 = at' := by omega
  have hlt2 : (at' : Int) + 1 ≤ 9223372036854775807 := by omega
  have HO := Lib.hid ho
  clear hv hcell hne ho
  go_enter Tryd.func74, Tryd.ntmps74
  go_wp2_with fail
  go_quiet (fail)
  go_wp2_with fail
  go_quiet (fail)
  go_wp2_with fail
  go_ret
  refine ⟨by simp [hlt], turn_drewN ?_ _⟩
  exact Turn.before (below_drewN (Below.refl _ _) _) (turn_set (w := w.drewN _) (k := tb) (i := 1) HO.out (.int .i64 ((at' : Int) + 1)))

/-- What a turn gives up with. -/
abbrev Gives (w : World) (gt : TypeId) (gv : Value) : Prop := w.cell? ⟨0, 0, none⟩ = some (.iface gt gv)

set_option maxHeartbeats 1000000 in
theorem one_none (tb : Nat) (pv : Value) (l : List Int) (at' : Nat) (rd : Bool) (w : World) (hv : RdB w pv l) (hlt : l.length ≤ at') (ho : w.heap[tb]? = some (TO pv at' rd)) (gt : TypeId) (gv : Value) (hg : Gives w gt gv) :
   Calls Tryd.prog 74 #[.pointer (some ⟨tb, 0, none⟩)] w fun e w' => e = .panicked [{ v := .iface gt gv, recovered := false }] ∧ Below w.heap.size w w' := by
  obtain ⟨k0, k1, k2, z0, hz⟩ := to_cells ho
  obtain ⟨a, c, rfl⟩ := Rd.shape hv
  have hge : decide (l.length ≤ at') = true := decide_eq_true (by omega)
  have HO := Lib.hid ho
  clear hv ho
  go_enter Tryd.func74, Tryd.ntmps74
  go_wp2_with fail
  go_quiet (fail)
  go_wp2_with fail
  exact ⟨rfl, rfl, below_drewN (Below.refl _ _) _⟩
end Go.Proofs.YtnanlkoldloolaaDoor
