/- Maps from numbers to numbers, and sets of numbers, as functions. -/
import Derived.Test.YtnanlkoldloolaaDoorProg
import Derived.Test.YtnanlkoldloolaaDoorT
import Derived.Maps.OwnSet
import Derived.KernelRfl
namespace Go.Proofs.YtnanlkoldloolaaDoor
open Go.RowKit Go.Maps

abbrev inR (x : Int) : Prop := -9223372036854775808 ≤ x ∧ x ≤ 9223372036854775807

theorem wfI {x : Int} (h : inR x) : (Lit.int .i64 x).wf = true := by
  simp [Lit.wf, IntKind.min, IntKind.max, IntKind.signed, IntKind.bits]; omega
theorem lawI : Keyed Tryd.prog 3 := int_keyed Tryd.underlying3
theorem zeroI (w : World) : (zeroValue 3).run Tryd.prog w = .ok (.int .i64 0) w := by kernel_rfl
theorem zeroU (w : World) : (zeroValue 76).run Tryd.prog w = .ok (.agg #[]) w := by kernel_rfl
theorem keyI {x : Int} (h : inR x) : keyOf Tryd.prog 3 (.int .i64 x) = some (.int .i64 x) := keyOf_int_mk Tryd.underlying3 (wfI h)
theorem isKeyI {x : Int} (h : inR x) : WideAt.IsKeyLit (.int .i64 x) := lawI.key (keyI h)

/-- Block b is a set of at most n numbers. -/
def SetAt (w : World) (b n : Nat) (s : Int → Bool) : Prop :=
  ∃ D : DataW Unit, w.ownsMap Tryd.prog 3 unitElem b n D ∧ ∀ x, inR x → Maps.has D (.int .i64 x) = s x

def upd {α : Type} (f : Int → α) (k : Int) (v : α) : Int → α := fun x => if x = k then v else f x
theorem upd_same {α : Type} (f : Int → α) (k : Int) (v : α) : upd f k v k = v := by simp [upd]
theorem upd_other {α : Type} (f : Int → α) {k x : Int} (v : α) (h : x ≠ k) : upd f k v x = f x := by simp [upd, h]

theorem SetAt.made (w : World) : SetAt (w.alloc (.map #[] 0)) w.heap.size 0 (fun _ => false) :=
  ⟨.map [], World.ownsMap_made _ _ _ _, fun x _ => rfl⟩
section
variable {w : World} {b n : Nat} {f : Int → Option Int} {s : Int → Bool}
theorem SetAt.lt (h : SetAt w b n s) : b < w.heap.size := by obtain ⟨D, h, _⟩ := h; exact h.lt
theorem SetAt.kept {w' : World} {row : Option Nat} (h : SetAt w b n s) (hg : w.grownBy w' row) (hne : some b ≠ row) : SetAt w' b n s := by
  obtain ⟨D, h, h2⟩ := h; exact ⟨D, h.kept hg hne, h2⟩
theorem SetAt.alloc (h : SetAt w b n s) (o : Obj) : SetAt (w.alloc o) b n s := by obtain ⟨D, h, h2⟩ := h; exact ⟨D, h.alloc o, h2⟩
theorem SetAt.setCell (h : SetAt w b n s) {a : Addr} (ha : b ≠ a.block) (u : Value) : SetAt (w.setCell a u) b n s := by obtain ⟨D, h, h2⟩ := h; exact ⟨D, h.setCell ha u, h2⟩
theorem SetAt.mono (h : SetAt w b n s) {n' : Nat} (hn : n ≤ n') : SetAt w b n' s := by obtain ⟨D, h, h2⟩ := h; exact ⟨D, h.mono hn, h2⟩
theorem SetAt.look_ok (h : SetAt w b n s) {x : Int} (hx : inR x) : (Instr.lookup 75 (.map (some b)) (.int .i64 x) true).run Tryd.prog w = .ok (.tuple #[.agg #[], .bool (s x)]) w := by
  obtain ⟨D, h, h2⟩ := h
  obtain ⟨v, ps, hrun, hv⟩ := h.look_ok lawI Tryd.underlying75 (zeroU w) (zd := .agg []) (zp := []) unitElem_mk (keyI hx)
  obtain ⟨rfl, _⟩ := unitElem_inv hv
  rw [hrun, h2 x hx]
theorem SetAt.add (h : SetAt w b n s) (hn : n < maxLen) {x : Int} (hx : inR x) : ∃ w', (Instr.mapUpdate 75 (.map (some b)) (.int .i64 x) (.agg #[])).run Tryd.prog w = .ok () w' ∧ SetAt w' b (n + 1) (upd s x true) ∧ w.grownBy w' (some b) := by
  obtain ⟨D, h, h2⟩ := h
  obtain ⟨w', hrun, h3, h4⟩ := h.store lawI Tryd.underlying75 hn (keyI hx) unitElem_mk
  refine ⟨w', hrun, ⟨_, h3, fun z hz => ?_⟩, h4.grown⟩
  by_cases e : z = x
  · subst e
    rw [upd_same]
    exact has_put_same h.isMap (isKeyI hx) _
  · rw [upd_other _ _ e]
    have hne : (Lit.int .i64 z) ≠ .int .i64 x := by simp [e]
    rw [has_put_other hne]
    exact h2 z hz
end
section
variable (w : World) {ops : Array Oper} {rest : List Oper} {o : Oper} {a : Act} {Q : Exit → Act → World → Prop}
theorem wp_seen (hg : o.guard = none) (m x : Operand) (hop : o.op = Op.lookup 75 m x true) (b n : Nat) (s : Int → Bool) (hm : a.eval m = .map (some b)) (h : SetAt w b n s) (key : Int) (hx : a.eval x = .int .i64 key) (hr : inR key) (ok : Bool) (hok : s key = ok)
    (hK : wpList Tryd.prog ops Q rest (a.put o.dst (.tuple #[.agg #[], .bool ok])) w) : wpList Tryd.prog ops Q (o :: rest) a w := by
  refine wpList_plain hg fun K' hK' => ?_
  have hrun := h.look_ok hr
  rw [hok] at hrun
  unfold Oper.wp
  simp [execOp, hop, hm, hx, hrun, Result.andThen]
  exact hK' _ _ hK
theorem wp_add (hg : o.guard = none) (m x v : Operand) (hop : o.op = Op.mapUpdate 75 m x v) (b n : Nat) (s : Int → Bool) (hm : a.eval m = .map (some b)) (h : SetAt w b n s) (hn : n < maxLen) (key : Int) (hx : a.eval x = .int .i64 key) (hv : a.eval v = .agg #[]) (hr : inR key)
    (hK : ∀ w', SetAt w' b (n + 1) (upd s key true) → w.grownBy w' (some b) → wpList Tryd.prog ops Q rest (a.put o.dst undef) w') : wpList Tryd.prog ops Q (o :: rest) a w := by
  refine wpList_plain hg fun K' hK' => ?_
  obtain ⟨w', hrun, h1, h2⟩ := h.add hn hr
  unfold Oper.wp
  simp [execOp, hop, hm, hx, hv, hrun, Result.andThen]
  exact hK' _ _ (hK w' h1 h2)
end
end Go.Proofs.YtnanlkoldloolaaDoor
