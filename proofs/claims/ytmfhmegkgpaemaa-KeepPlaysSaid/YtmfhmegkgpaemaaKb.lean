/- Keep: one moment less. -/
import Derived.Test.YtmfhmegkgpaemaaKa
import Derived.Laws.OwnMore
import Derived.Laws.IdiomCopy
namespace Go.Proofs.Ytmfhmegkgpaemaa
open Go.RowKit

theorem infoO : (Try.prog.info? 56).map (fun i => (i.zero, i.size, i.bytes)) = some (some (.agg #[.int .i64 0, .slice none 0 0]), 2, 32) := by kernel_rfl

/-- 's[l:h:m]'. -/
theorem run_slice_full {P : Program} (t e : TypeId) {i : TypeInfo} {size : Nat} (ht : P.underlying t = some (.slice e)) (hi : P.info? e = some i) (hs : i.size = size) (a : Option Addr) (len cap l h m : Nat) (li hj mk : Int) (hli : li = l) (hhj : hj = h) (hmk : mk = m) (hl : l ≤ h) (hh : h ≤ m) (hm : m ≤ cap) (w : World) :
    (Instr.slice t (.slice a len cap) (some (.int .i64 li)) (some (.int .i64 hj)) (some (.int .i64 mk))).run P w = .ok (.slice (if m = l then a else a.map (·.add (l * size))) (h - l) (m - l)) w := by
  subst hli hhj hmk
  have hb : (0 : Int) ≤ (l : Int) ∧ (l : Int) ≤ (h : Int) := by omega
  have hb2 : (0 : Int) ≤ (h : Int) ∧ (h : Int) ≤ (m : Int) := by omega
  have hb3 : (0 : Int) ≤ (m : Int) ∧ (m : Int) ≤ (cap : Int) := by omega
  have h0 : (Instr.sliceBound (.int .i64 (m : Int)) cap BoundsCode.slice3Acap).run P w = .ok m w := by
    simp [Instr.sliceBound, asIntOf, hb3.2]
  have h1 : (Instr.sliceBound (.int .i64 (h : Int)) m BoundsCode.slice3B).run P w = .ok h w := by
    simp [Instr.sliceBound, asIntOf, hb2.2]
  have h2 : (Instr.sliceBound (.int .i64 (l : Int)) h BoundsCode.slice3C).run P w = .ok l w := by
    simp [Instr.sliceBound, asIntOf, hb.2]
  simp [Instr.slice, run_underlying ht, Instr.sliceBounds, h0, h1, h2, sizeOf, typeInfo, hi, hs]

/-- The first elements of a row of one's own. -/
theorem own_take {w : World} {base g n c k : Nat} {e : TypeId} {size : Nat} {xs : List Value} (h : w.ownsRow base e size (.slice (some ⟨g, 0, none⟩) n c) n xs) (hk : k ≤ n) : w.ownsRow base e size (.slice (some ⟨g, 0, none⟩) k c) k (xs.take (k * size)) := by
  have hks : k * size ≤ n * size := Nat.mul_le_mul_right _ hk
  refine ⟨by rw [List.length_take, h.1]; omega, ?_⟩
  rcases h.2 with ⟨h1, _⟩ | ⟨g', cap, cur, h1, h2, h3, h4, h5, h6, h7⟩
  · cases h1
  · cases h1
    exact .inr ⟨g, c, cur, rfl, h2, h3, by omega, h5, h6, by rw [← h7, List.take_take, Nat.min_eq_left hks]⟩
/-- A store behind the elements. -/
theorem own_past {w : World} {base g n c o : Nat} {e : TypeId} {size : Nat} {xs : List Value} {v : Value} (h : w.ownsRow base e size (.slice (some ⟨g, 0, none⟩) n c) n xs) (ho : n * size ≤ o) : (w.setCell ⟨g, o, none⟩ v).ownsRow base e size (.slice (some ⟨g, 0, none⟩) n c) n xs := by
  refine ⟨h.1, ?_⟩
  rcases h.2 with ⟨h1, _⟩ | ⟨g', cap, cur, h1, h2, h3, h4, h5, h6, h7⟩
  · cases h1
  · cases h1
    refine .inr ⟨g, c, cur.setIfInBounds o v, rfl, h2, ?_, h4, h5, by simpa using h6, ?_⟩
    · simp [World.setCell, Array.getElem?_modify, h3]
    · rw [Array.toList_setIfInBounds, List.take_set_of_le ho]; exact h7
theorem own_cell {w : World} {base g n c o : Nat} {e : TypeId} {size : Nat} {xs : List Value} (h : w.ownsRow base e size (.slice (some ⟨g, 0, none⟩) n c) n xs) (ho : o < c * size) : (w.cell? ⟨g, o, none⟩).isSome = true ∧ w.frozen? ⟨g, o, none⟩ = false := by
  rcases h.2 with ⟨h1, _⟩ | ⟨g', cap, cur, h1, h2, h3, h4, h5, h6, h7⟩
  · cases h1
  · cases h1
    have : o < cur.size := by omega
    exact ⟨by simp [World.cell?, h3, this], by simp [World.frozen?, h3]⟩
theorem grown_setCell {w w' : World} {g o : Nat} {v : Value} (h : w.grownBy w' (some g)) : w.grownBy (w'.setCell ⟨g, o, none⟩ v) (some g) :=
  ⟨h.os, h.tape, h.output, by simpa using h.size, fun k hk hne => by
    rw [Below.heap_setCell _ _ _ _ (fun e => hne (by rw [e]))]; exact h.block k hk hne⟩

/-- THE OPERATION 'clear(s)' WHERE ITS RUN IS KNOWN. -/
theorem wpList_clear_run {P : Program} (w : World) {ops : Array Oper} {rest : List Oper} {o : Oper} {a : Act} {Q : Exit → Act → World → Prop} (hgd : o.guard = none) (s : Operand) (t : TypeId)
    (ho : o.op = .call { callee := .builtin .clear, args := #[s], argTypes := #[t] }) (u : Value) (hs : a.eval s = u) {v' : Value} {w' : World}
    (hr : (Builtin.clear_ #[t] o.type #[u]).run P w = .ok v' w') (h : wpList P ops Q rest (a.put o.dst v') w') : wpList P ops Q (o :: rest) a w :=
  wpList_plain hgd fun _ hK => by
    unfold Oper.wp execOp
    simp only [ho, resolve, invoke, builtin, Sem.run_bind, Sem.run_pure, Result.andThen_ok, List.map_toArray, List.map_cons, List.map_nil, hs, hr]
    exact hK _ _ h
/-- THE OPERATION 'append' IN A REGION THAT DRAWS, WHERE ITS RUN IS KNOWN. -/
theorem step_append_run {P : Program} {ops : Array Oper} {o : Oper} {a : Act} {w : World} {K : Act → World → Prop} {Q : Exit → Act → World → Prop} {E : Prop}
    (hg : o.guard = none) (s x : Operand) (t : TypeId) (hop : o.op = Op.call { callee := Callee.builtin Builtin.append, args := #[s, x], argTypes := #[t, t] })
    (v u : Value) (hs : a.eval s = v) (hx : a.eval x = u) {v' : Value} {w' : World} (hr : (Builtin.append_ #[t, t] o.type #[v, u]).run P w = .ok v' w') (hK : K (a.put o.dst v') w') :
    if Region.wanted o (yielded ops a.tmps) = true then Oper.wp P o a w K Q else E := by
  have hw : Region.wanted o (yielded ops a.tmps) = true := by simp [Region.wanted, hg]
  rw [if_pos hw]
  unfold Oper.wp
  simp [execOp, hop, resolve, invoke, builtin, hs, hx, hr, Result.andThen]
  exact hK

theorem eraseIdx_take_drop {α : Type} (l : List α) (i : Nat) : l.eraseIdx i = l.take i ++ l.drop (i + 1) := List.eraseIdx_eq_take_drop_succ ..

theorem run_clear_one (w : World) (g o c : Nat) (ty : TypeId) (hc : ∀ j, j < 2 → (w.cell? ⟨g, o + j, none⟩).isSome = true ∧ w.frozen? ⟨g, o + j, none⟩ = false) :
    (Builtin.clear_ #[49] ty #[.slice (some ⟨g, o, none⟩) 1 c]).run Try.prog w = .ok (.tuple #[]) ((w.setCell ⟨g, o, none⟩ (.int .i64 0)).setCell ⟨g, o + 1, none⟩ (.slice none 0 0)) := by
  obtain ⟨i, hi, hz, hs, hb⟩ := info_parts infoO
  have hst := run_storeCells_cells (P := Try.prog) g o [.int .i64 0, .slice none 0 0] 0 w (fun j hj => by rw [Nat.add_zero]; exact (hc j hj).1) (fun j hj => by rw [Nat.add_zero]; exact (hc j hj).2) (by intro v hv; simp at hv; rcases hv with rfl | rfl <;> rfl)
  simp only [Nat.add_zero] at hst
  have hzv : ∀ w, (zeroValue 56).run Try.prog w = .ok (.agg #[.int .i64 0, .slice none 0 0]) w := fun w => by
    simp [zeroValue, typeInfo, hi, hz]
  have hzc : (Builtin.zeroCells (Value.agg #[.int .i64 0, .slice none 0 0]).cells 1).toList = [.int .i64 0, .slice none 0 0] := by kernel_rfl
  simp [Builtin.clear_, run_underlying Try.underlying49, hzv, hzc, hst]
  rfl
end Go.Proofs.Ytmfhmegkgpaemaa
