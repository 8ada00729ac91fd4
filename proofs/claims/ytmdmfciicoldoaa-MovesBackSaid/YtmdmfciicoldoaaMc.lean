/- Maps from numbers to numbers, and sets of numbers, as functions. -/
import Derived.Test.YtmdmfciicoldoaaProg
import Derived.Test.YtmdmfciicoldoaaT
import Derived.Maps.OwnSet
import Derived.KernelRfl
namespace Go.Proofs.Ytmdmfciicoldoaa
open Go.RowKit Go.Maps

abbrev inR (x : Int) : Prop := -9223372036854775808 ≤ x ∧ x ≤ 9223372036854775807

theorem wfI {x : Int} (h : inR x) : (Lit.int .i64 x).wf = true := by
  simp [Lit.wf, IntKind.min, IntKind.max, IntKind.signed, IntKind.bits]; omega
theorem lawI : Keyed Try.prog 3 := int_keyed Try.underlying3
theorem zeroI (w : World) : (zeroValue 3).run Try.prog w = .ok (.int .i64 0) w := by kernel_rfl
theorem zeroU (w : World) : (zeroValue 53).run Try.prog w = .ok (.agg #[]) w := by kernel_rfl
theorem keyI {x : Int} (h : inR x) : keyOf Try.prog 3 (.int .i64 x) = some (.int .i64 x) := keyOf_int_mk Try.underlying3 (wfI h)
theorem isKeyI {x : Int} (h : inR x) : WideAt.IsKeyLit (.int .i64 x) := lawI.key (keyI h)

/-- Block b is a map of at most n entries that holds just what f says. -/
def MapAt (w : World) (b n : Nat) (f : Int → Option Int) : Prop :=
  ∃ D : DataW Unit, w.ownsMap Try.prog 3 (plainElem Try.prog 3) b n D ∧ ∀ x, inR x → Maps.has D (.int .i64 x) = (f x).isSome ∧ D.atKey (.int .i64 x) (.lit (.int .i64 0)) = .lit (.int .i64 ((f x).getD 0))
/-- Block b is a set of at most n numbers. -/
def SetAt (w : World) (b n : Nat) (s : Int → Bool) : Prop :=
  ∃ D : DataW Unit, w.ownsMap Try.prog 3 unitElem b n D ∧ ∀ x, inR x → Maps.has D (.int .i64 x) = s x

def upd {α : Type} (f : Int → α) (k : Int) (v : α) : Int → α := fun x => if x = k then v else f x
theorem upd_same {α : Type} (f : Int → α) (k : Int) (v : α) : upd f k v k = v := by simp [upd]
theorem upd_other {α : Type} (f : Int → α) {k x : Int} (v : α) (h : x ≠ k) : upd f k v x = f x := by simp [upd, h]

theorem MapAt.made (w : World) : MapAt (w.alloc (.map #[] 0)) w.heap.size 0 (fun _ => none) :=
  ⟨.map [], World.ownsMap_made _ _ _ _, fun x _ => ⟨rfl, rfl⟩⟩
theorem SetAt.made (w : World) : SetAt (w.alloc (.map #[] 0)) w.heap.size 0 (fun _ => false) :=
  ⟨.map [], World.ownsMap_made _ _ _ _, fun x _ => rfl⟩
section
variable {w : World} {b n : Nat} {f : Int → Option Int} {s : Int → Bool}
theorem MapAt.lt (h : MapAt w b n f) : b < w.heap.size := by obtain ⟨D, h, _⟩ := h; exact h.lt
theorem MapAt.kept {w' : World} {row : Option Nat} (h : MapAt w b n f) (hg : w.grownBy w' row) (hne : some b ≠ row) : MapAt w' b n f := by
  obtain ⟨D, h, h2⟩ := h; exact ⟨D, h.kept hg hne, h2⟩
theorem SetAt.lt (h : SetAt w b n s) : b < w.heap.size := by obtain ⟨D, h, _⟩ := h; exact h.lt
theorem SetAt.kept {w' : World} {row : Option Nat} (h : SetAt w b n s) (hg : w.grownBy w' row) (hne : some b ≠ row) : SetAt w' b n s := by
  obtain ⟨D, h, h2⟩ := h; exact ⟨D, h.kept hg hne, h2⟩
theorem MapAt.alloc (h : MapAt w b n f) (o : Obj) : MapAt (w.alloc o) b n f := by obtain ⟨D, h, h2⟩ := h; exact ⟨D, h.alloc o, h2⟩
theorem SetAt.alloc (h : SetAt w b n s) (o : Obj) : SetAt (w.alloc o) b n s := by obtain ⟨D, h, h2⟩ := h; exact ⟨D, h.alloc o, h2⟩
theorem MapAt.setCell (h : MapAt w b n f) {a : Addr} (ha : b ≠ a.block) (u : Value) : MapAt (w.setCell a u) b n f := by obtain ⟨D, h, h2⟩ := h; exact ⟨D, h.setCell ha u, h2⟩
theorem SetAt.setCell (h : SetAt w b n s) {a : Addr} (ha : b ≠ a.block) (u : Value) : SetAt (w.setCell a u) b n s := by obtain ⟨D, h, h2⟩ := h; exact ⟨D, h.setCell ha u, h2⟩
theorem MapAt.drew (h : MapAt w b n f) : MapAt w.drew b n f := h
theorem MapAt.mono (h : MapAt w b n f) {n' : Nat} (hn : n ≤ n') : MapAt w b n' f := by obtain ⟨D, h, h2⟩ := h; exact ⟨D, h.mono hn, h2⟩
theorem SetAt.mono (h : SetAt w b n s) {n' : Nat} (hn : n ≤ n') : SetAt w b n' s := by obtain ⟨D, h, h2⟩ := h; exact ⟨D, h.mono hn, h2⟩
theorem MapAt.later {w' : World} (h : MapAt w b n f) (hb : Below w.heap.size w w') : MapAt w' b n f :=
  h.kept (row := none) ⟨hb.os, hb.tape, hb.output, hb.size, fun k hk _ => hb.block k hk⟩ (by simp)
theorem MapAt.congr (h : MapAt w b n f) {g : Int → Option Int} (e : ∀ x, inR x → f x = g x) : MapAt w b n g := by
  obtain ⟨D, h, h2⟩ := h; exact ⟨D, h, fun x hx => by rw [← e x hx]; exact h2 x hx⟩

theorem MapAt.look (h : MapAt w b n f) {x : Int} (hx : inR x) : (Instr.lookup 43 (.map (some b)) (.int .i64 x) false).run Try.prog w = .ok (.int .i64 ((f x).getD 0)) w := by
  obtain ⟨D, h, h2⟩ := h
  obtain ⟨c, hrun, hat, _⟩ := h.lookup_int lawI Try.underlying43 Try.underlying3 (zeroI w) (keyI hx)
  rw [(h2 x hx).2] at hat
  simp only [DataW.lit.injEq, Lit.int.injEq, true_and] at hat
  rw [hrun, hat]
theorem MapAt.look_ok (h : MapAt w b n f) {x : Int} (hx : inR x) : (Instr.lookup 43 (.map (some b)) (.int .i64 x) true).run Try.prog w = .ok (.tuple #[.int .i64 ((f x).getD 0), .bool (f x).isSome]) w := by
  obtain ⟨D, h, h2⟩ := h
  obtain ⟨v, ps, hrun, hv⟩ := h.look_ok lawI Try.underlying43 (zeroI w) (zd := .lit (.int .i64 0)) (zp := []) (plainElem_int Try.underlying3 (by decide)) (keyI hx)
  obtain ⟨c, rfl, hc, _⟩ := plainElem_int_inv Try.underlying3 hv
  have hat := congrArg Prod.fst hc
  simp only [(h2 x hx).2, DataW.lit.injEq, Lit.int.injEq, true_and] at hat
  rw [hrun, hat, (h2 x hx).1]
theorem SetAt.look_ok (h : SetAt w b n s) {x : Int} (hx : inR x) : (Instr.lookup 52 (.map (some b)) (.int .i64 x) true).run Try.prog w = .ok (.tuple #[.agg #[], .bool (s x)]) w := by
  obtain ⟨D, h, h2⟩ := h
  obtain ⟨v, ps, hrun, hv⟩ := h.look_ok lawI Try.underlying52 (zeroU w) (zd := .agg []) (zp := []) unitElem_mk (keyI hx)
  obtain ⟨rfl, _⟩ := unitElem_inv hv
  rw [hrun, h2 x hx]
theorem MapAt.store (h : MapAt w b n f) (hn : n < maxLen) {x y : Int} (hx : inR x) (hy : inR y) : ∃ w', (Instr.mapUpdate 43 (.map (some b)) (.int .i64 x) (.int .i64 y)).run Try.prog w = .ok () w' ∧ MapAt w' b (n + 1) (upd f x (some y)) ∧ w.grownBy w' (some b) := by
  obtain ⟨D, h, h2⟩ := h
  obtain ⟨w', hrun, h3, h4⟩ := h.store lawI Try.underlying43 hn (keyI hx) (plainElem_int Try.underlying3 (wfI hy))
  refine ⟨w', hrun, ⟨_, h3, fun z hz => ?_⟩, h4.grown⟩
  by_cases e : z = x
  · subst e
    rw [upd_same]
    exact ⟨has_put_same h.isMap (isKeyI hx) _, atKey_put_same h.isMap (isKeyI hx) _ _⟩
  · rw [upd_other _ _ e]
    have hne : (Lit.int .i64 z) ≠ .int .i64 x := by simp [e]
    rw [has_put_other hne, atKey_put_other hne]
    exact h2 z hz
theorem SetAt.add (h : SetAt w b n s) (hn : n < maxLen) {x : Int} (hx : inR x) : ∃ w', (Instr.mapUpdate 52 (.map (some b)) (.int .i64 x) (.agg #[])).run Try.prog w = .ok () w' ∧ SetAt w' b (n + 1) (upd s x true) ∧ w.grownBy w' (some b) := by
  obtain ⟨D, h, h2⟩ := h
  obtain ⟨w', hrun, h3, h4⟩ := h.store lawI Try.underlying52 hn (keyI hx) unitElem_mk
  refine ⟨w', hrun, ⟨_, h3, fun z hz => ?_⟩, h4.grown⟩
  by_cases e : z = x
  · subst e
    rw [upd_same]
    exact has_put_same h.isMap (isKeyI hx) _
  · rw [upd_other _ _ e]
    have hne : (Lit.int .i64 z) ≠ .int .i64 x := by simp [e]
    rw [has_put_other hne]
    exact h2 z hz
theorem MapAt.drop (h : MapAt w b n f) {x : Int} (hx : inR x) (ty : TypeId) : ∃ w', (Builtin.delete_ #[43, 3] ty #[.map (some b), .int .i64 x]).run Try.prog w = .ok (.tuple #[]) w' ∧ MapAt w' b n (upd f x none) ∧ w.grownBy w' (some b) := by
  obtain ⟨D, h, h2⟩ := h
  obtain ⟨w', hrun, h3, h4⟩ := h.drop lawI Try.underlying43 (keyI hx) ty
  refine ⟨w', hrun, ⟨_, h3, fun z hz => ?_⟩, h4.grown⟩
  by_cases e : z = x
  · subst e
    rw [upd_same]
    exact ⟨has_del_same, atKey_del_same _⟩
  · rw [upd_other _ _ e]
    have hne : (Lit.int .i64 z) ≠ .int .i64 x := by simp [e]
    rw [has_del_other hne, atKey_del_other hne]
    exact h2 z hz
end

section
variable (w : World) {ops : Array Oper} {rest : List Oper} {o : Oper} {a : Act} {Q : Exit → Act → World → Prop}
theorem wp_look_ok (hg : o.guard = none) (m x : Operand) (hop : o.op = Op.lookup 43 m x true) (b n : Nat) (f : Int → Option Int) (hm : a.eval m = .map (some b)) (h : MapAt w b n f) (key : Int) (hx : a.eval x = .int .i64 key) (hr : inR key) (y : Int) (ok : Bool) (hy : (f key).getD 0 = y) (hok : (f key).isSome = ok)
    (hK : wpList Try.prog ops Q rest (a.put o.dst (.tuple #[.int .i64 y, .bool ok])) w) : wpList Try.prog ops Q (o :: rest) a w := by
  refine wpList_plain hg fun K' hK' => ?_
  have hrun := h.look_ok hr
  rw [hy, hok] at hrun
  unfold Oper.wp
  simp [execOp, hop, hm, hx, hrun, Result.andThen]
  exact hK' _ _ hK
theorem wp_look (hg : o.guard = none) (m x : Operand) (hop : o.op = Op.lookup 43 m x false) (b n : Nat) (f : Int → Option Int) (hm : a.eval m = .map (some b)) (h : MapAt w b n f) (key : Int) (hx : a.eval x = .int .i64 key) (hr : inR key) (y : Int) (hy : (f key).getD 0 = y)
    (hK : wpList Try.prog ops Q rest (a.put o.dst (.int .i64 y)) w) : wpList Try.prog ops Q (o :: rest) a w := by
  refine wpList_plain hg fun K' hK' => ?_
  have hrun := h.look hr
  rw [hy] at hrun
  unfold Oper.wp
  simp [execOp, hop, hm, hx, hrun, Result.andThen]
  exact hK' _ _ hK
theorem wp_seen (hg : o.guard = none) (m x : Operand) (hop : o.op = Op.lookup 52 m x true) (b n : Nat) (s : Int → Bool) (hm : a.eval m = .map (some b)) (h : SetAt w b n s) (key : Int) (hx : a.eval x = .int .i64 key) (hr : inR key) (ok : Bool) (hok : s key = ok)
    (hK : wpList Try.prog ops Q rest (a.put o.dst (.tuple #[.agg #[], .bool ok])) w) : wpList Try.prog ops Q (o :: rest) a w := by
  refine wpList_plain hg fun K' hK' => ?_
  have hrun := h.look_ok hr
  rw [hok] at hrun
  unfold Oper.wp
  simp [execOp, hop, hm, hx, hrun, Result.andThen]
  exact hK' _ _ hK
theorem wp_store (hg : o.guard = none) (m x v : Operand) (hop : o.op = Op.mapUpdate 43 m x v) (b n : Nat) (f : Int → Option Int) (hm : a.eval m = .map (some b)) (h : MapAt w b n f) (hn : n < maxLen) (key val : Int) (hx : a.eval x = .int .i64 key) (hv : a.eval v = .int .i64 val) (hr : inR key) (hr2 : inR val)
    (hK : ∀ w', MapAt w' b (n + 1) (upd f key (some val)) → w.grownBy w' (some b) → wpList Try.prog ops Q rest (a.put o.dst undef) w') : wpList Try.prog ops Q (o :: rest) a w := by
  refine wpList_plain hg fun K' hK' => ?_
  obtain ⟨w', hrun, h1, h2⟩ := h.store hn hr hr2
  unfold Oper.wp
  simp [execOp, hop, hm, hx, hv, hrun, Result.andThen]
  exact hK' _ _ (hK w' h1 h2)
theorem wp_add (hg : o.guard = none) (m x v : Operand) (hop : o.op = Op.mapUpdate 52 m x v) (b n : Nat) (s : Int → Bool) (hm : a.eval m = .map (some b)) (h : SetAt w b n s) (hn : n < maxLen) (key : Int) (hx : a.eval x = .int .i64 key) (hv : a.eval v = .agg #[]) (hr : inR key)
    (hK : ∀ w', SetAt w' b (n + 1) (upd s key true) → w.grownBy w' (some b) → wpList Try.prog ops Q rest (a.put o.dst undef) w') : wpList Try.prog ops Q (o :: rest) a w := by
  refine wpList_plain hg fun K' hK' => ?_
  obtain ⟨w', hrun, h1, h2⟩ := h.add hn hr
  unfold Oper.wp
  simp [execOp, hop, hm, hx, hv, hrun, Result.andThen]
  exact hK' _ _ (hK w' h1 h2)
theorem wp_delete (hg : o.guard = none) (m x : Operand) (hop : o.op = Op.call { callee := Callee.builtin Builtin.delete, args := #[m, x], argTypes := #[43, 3] }) (b n : Nat) (f : Int → Option Int) (hm : a.eval m = .map (some b)) (h : MapAt w b n f) (key : Int) (hx : a.eval x = .int .i64 key) (hr : inR key)
    (hK : ∀ w', MapAt w' b n (upd f key none) → w.grownBy w' (some b) → wpList Try.prog ops Q rest (a.put o.dst (.tuple #[])) w') : wpList Try.prog ops Q (o :: rest) a w := by
  refine wpList_plain hg fun K' hK' => ?_
  obtain ⟨w', hrun, r1, r2⟩ := h.drop hr o.type
  unfold Oper.wp
  simp [execOp, hop, resolve, invoke, builtin, hm, hx, hrun, Result.andThen]
  exact hK' _ _ (hK w' r1 r2)
end
end Go.Proofs.Ytmdmfciicoldoaa
