/- Keep: the library's slices.Insert of one moment. -/
import Derived.Test.YtmfhmegkgpaemaaKc
import Derived.Laws.CopyRow
import Derived.Lib.AppendZerosOnto
import Derived.Lib.Overlaps
import Derived.Laws.Externs
namespace Go.Proofs.Ytmfhmegkgpaemaa
open Go.RowKit

/-- 'copy', elements of k cells. -/
theorem run_copy_rowK {P : Program} (w : World) (dT sT ty elem : TypeId) (k g o dLen dCap : Nat) (a : Addr) (sLen sCap : Nat) (cur : Array Value) (t : TypeId) (cs : List Value)
    (hu : P.underlying dT = some (.slice elem)) (hs : (P.info? elem).map (·.size) = some k)
    (hg : w.heap[g]? = some (.cells cur t (0, 0))) (hn : cs.length = Nat.min sLen dLen * k)
    (hsrc : ∀ j v, cs[j]? = some v → w.cell? (a.add j) = some v) (hfit : o + cs.length ≤ cur.size) (h1 : ∀ v ∈ cs, v.oneCell' = true) :
    (Builtin.copy_ #[dT, sT] ty #[.slice (some ⟨g, o, none⟩) dLen dCap, .slice (some a) sLen sCap]).run P w =
      .ok (goInt (Nat.min sLen dLen)) (w.setRow g (cur.toList.take o ++ cs ++ cur.toList.drop (o + cs.length)).toArray) := by
  have hl := run_loadCells_list (P := P) w a cs hsrc
  have hst := run_storeCells_at P g o t cs 0 cur w hg (by simpa using hfit) h1
  cases hq : P.info? elem with
  | none => simp [hq] at hs
  | some i =>
    have hi : i.size = k := by simpa [hq] using hs
    simp [Builtin.copy_, run_underlying hu, Builtin.lenOf, Builtin.firstCells, sizeOf, typeInfo, hq, hi, ← hn, hl, hst]

theorem wpList_copy_runK {P : Program} (w : World) {ops : Array Oper} {rest : List Oper} {o : Oper} {a : Act} {Q : Exit → Act → World → Prop} (hgd : o.guard = none) (d s : Operand) (t t' : TypeId)
    (ho : o.op = .call { callee := .builtin .copy, args := #[d, s], argTypes := #[t, t'] }) (v u : Value) (hd : a.eval d = v) (hs : a.eval s = u) {v' : Value} {w' : World}
    (hr : (Builtin.copy_ #[t, t'] o.type #[v, u]).run P w = .ok v' w') (h : wpList P ops Q rest (a.put o.dst v') w') : wpList P ops Q (o :: rest) a w :=
  wpList_plain hgd fun _ hK => by
    unfold Oper.wp execOp
    simp only [ho, resolve, invoke, builtin, Sem.run_bind, Sem.run_pure, Result.andThen_ok, List.map_toArray, List.map_cons, List.map_nil, hd, hs, hr]
    exact hK _ _ h
theorem step_copy_runK {P : Program} {ops : Array Oper} {o : Oper} {a : Act} {w : World} {K : Act → World → Prop} {Q : Exit → Act → World → Prop} {E : Prop}
    (hg : o.guard = none) (d x : Operand) (dT sT : TypeId) (hop : o.op = Op.call { callee := Callee.builtin Builtin.copy, args := #[d, x], argTypes := #[dT, sT] })
    (v u : Value) (hd : a.eval d = v) (hx : a.eval x = u) {v' : Value} {w' : World} (hr : (Builtin.copy_ #[dT, sT] o.type #[v, u]).run P w = .ok v' w') (hK : K (a.put o.dst v') w') :
    if Region.wanted o (yielded ops a.tmps) = true then Oper.wp P o a w K Q else E := by
  have hw : Region.wanted o (yielded ops a.tmps) = true := by simp [Region.wanted, hg]
  rw [if_pos hw]
  unfold Oper.wp
  simp [execOp, hop, resolve, invoke, builtin, hd, hx, hr, Result.andThen]
  exact hK
/-- 'append(s, make(..)...)' where its run is known. -/
theorem wpList_append_runK {P : Program} (w : World) {ops : Array Oper} {rest : List Oper} {o : Oper} {a : Act} {Q : Exit → Act → World → Prop} (hgd : o.guard = none) (d s : Operand) (t t' : TypeId)
    (ho : o.op = .call { callee := .builtin .append, args := #[d, s], argTypes := #[t, t'] }) (v u : Value) (hd : a.eval d = v) (hs : a.eval s = u) {v' : Value} {w' : World}
    (hr : (Builtin.append_ #[t, t'] o.type #[v, u]).run P w = .ok v' w') (h : wpList P ops Q rest (a.put o.dst v') w') : wpList P ops Q (o :: rest) a w :=
  wpList_plain hgd fun _ hK => by
    unfold Oper.wp execOp
    simp only [ho, resolve, invoke, builtin, Sem.run_bind, Sem.run_pure, Result.andThen_ok, List.map_toArray, List.map_cons, List.map_nil, hd, hs, hr]
    exact hK _ _ h

/-- In place: first what stands behind moves up, then the new one is laid. -/
theorem ins_up {α : Type} (L X : List α) (n i : Nat) (a b : α) (hX : L.take (n * 2) = X) (hXl : X.length = n * 2) (hi : i ≤ n) (hL : (n + 1) * 2 ≤ L.length) :
    (((L.take ((i + 1) * 2) ++ X.drop (i * 2) ++ L.drop ((i + 1) * 2 + (X.drop (i * 2)).length)).take (i * 2) ++ [a, b] ++ (L.take ((i + 1) * 2) ++ X.drop (i * 2) ++ L.drop ((i + 1) * 2 + (X.drop (i * 2)).length)).drop (i * 2 + 2)).take ((n + 1) * 2)) = X.take (i * 2) ++ a :: b :: X.drop (i * 2) := by
  have e1 : (L.take ((i + 1) * 2)).length = i * 2 + 2 := by rw [List.length_take]; omega
  have e2 : (X.drop (i * 2)).length = n * 2 - i * 2 := by rw [List.length_drop, hXl]
  have h1 : (L.take ((i + 1) * 2) ++ X.drop (i * 2) ++ L.drop ((i + 1) * 2 + (X.drop (i * 2)).length)).take (i * 2) = X.take (i * 2) := by
    rw [List.append_assoc, List.take_append_of_le_length (by omega), List.take_take, Nat.min_eq_left (by omega), ← hX, List.take_take, Nat.min_eq_left (by omega)]
  have h2 : (L.take ((i + 1) * 2) ++ X.drop (i * 2) ++ L.drop ((i + 1) * 2 + (X.drop (i * 2)).length)).drop (i * 2 + 2) = X.drop (i * 2) ++ L.drop ((i + 1) * 2 + (X.drop (i * 2)).length) := by
    rw [List.append_assoc]
    exact List.drop_left' e1
  rw [h1, h2, ← List.append_assoc]
  have e3 : (X.take (i * 2) ++ [a, b] ++ X.drop (i * 2)).length = (n + 1) * 2 := by simp [hXl]; omega
  rw [List.take_left' e3]
  simp
/-- In a new row: first the new one is laid, then what stood behind. -/
theorem ins_new {α : Type} (L X : List α) (n i : Nat) (a b : α) (hX : L.take (i * 2) = X.take (i * 2)) (hXl : X.length = n * 2) (hi : i ≤ n) (hL : (n + 1) * 2 ≤ L.length) :
    (((L.take (i * 2) ++ [a, b] ++ L.drop (i * 2 + 2)).take ((i + 1) * 2) ++ X.drop (i * 2) ++ (L.take (i * 2) ++ [a, b] ++ L.drop (i * 2 + 2)).drop ((i + 1) * 2 + (X.drop (i * 2)).length)).take ((n + 1) * 2)) = X.take (i * 2) ++ a :: b :: X.drop (i * 2) := by
  have e1 : (L.take (i * 2) ++ [a, b]).length = (i + 1) * 2 := by simp; omega
  rw [List.take_left' e1, hX]
  have e3 : (X.take (i * 2) ++ [a, b] ++ X.drop (i * 2)).length = (n + 1) * 2 := by simp [hXl]; omega
  rw [List.take_left' e3]
  simp
end Go.Proofs.Ytmfhmegkgpaemaa
