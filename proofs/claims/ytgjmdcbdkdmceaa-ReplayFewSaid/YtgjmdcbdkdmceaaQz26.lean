/- Keep: lists of moments in memory; the search in them. -/
import Derived.Test.YtgjmdcbdkdmceaaQ13
import Derived.Test.YtgjmdcbdkdmceaaProg
import Derived.Maps.OwnSet
import Derived.Deep.LoopGhost
import Derived.BigQuiet
import Derived.Laws.OwnMore
import Derived.Laws.IdiomCopy
import Derived.Shelf.RegionOpenPlain
import Derived.Laws.CopyRow
import Derived.Lib.AppendZerosOnto
import Derived.Lib.Overlaps
import Derived.Laws.Externs
namespace Go.Proofs.Ytgjmdcbdkdmceaa
open Go.RowKit

/-- A moment: where, and its bytes' slice. -/
abbrev Mo := Int × Value
def SlV (v : Value) : Prop := ∃ a n c, v = .slice a n c

def cellsO : List Mo → List Value
  | [] => []
  | m :: r => .int .i64 m.1 :: m.2 :: cellsO r

theorem cellsO_length : ∀ l, (cellsO l).length = l.length * 2
  | [] => rfl
  | m :: r => by simp [cellsO, cellsO_length r]; omega
theorem cellsO_append : ∀ l r, cellsO (l ++ r) = cellsO l ++ cellsO r
  | [], r => rfl
  | m :: l, r => by simp [cellsO, cellsO_append l r]
theorem cellsO_at : ∀ (l : List Mo) (j : Nat) (h : j < l.length), (cellsO l)[j * 2]? = some (.int .i64 l[j].1) ∧ (cellsO l)[j * 2 + 1]? = some l[j].2
  | m :: r, 0, _ => by simp [cellsO]
  | m :: r, j + 1, h => by
    have ih := cellsO_at r j (by simpa using h)
    have e : (j + 1) * 2 = j * 2 + 1 + 1 := by omega
    rw [e]
    simpa [cellsO] using ih
theorem cellsO_one : ∀ (l : List Mo), (∀ m ∈ l, SlV m.2) → ∀ u ∈ cellsO l, u.oneCell' = true
  | [], _, u, h => by simp [cellsO] at h
  | m :: r, hs, u, h => by
    simp [cellsO] at h
    rcases h with rfl | rfl | h
    · rfl
    · obtain ⟨a, n, c, e⟩ := hs m (by simp)
      rw [e]; rfl
    · exact cellsO_one r (fun m hm => hs m (by simp [hm])) u h
theorem cellsO_take : ∀ (l : List Mo) (k : Nat), (cellsO l).take (k * 2) = cellsO (l.take k)
  | [], k => by simp [cellsO]
  | m :: r, 0 => by simp [cellsO]
  | m :: r, k + 1 => by
    have e : (k + 1) * 2 = k * 2 + 1 + 1 := by omega
    rw [e]
    simp [cellsO, cellsO_take r k]
theorem cellsO_drop : ∀ (l : List Mo) (k : Nat), (cellsO l).drop (k * 2) = cellsO (l.drop k)
  | [], k => by simp [cellsO]
  | m :: r, 0 => by simp [cellsO]
  | m :: r, k + 1 => by
    have e : (k + 1) * 2 = k * 2 + 1 + 1 := by omega
    rw [e]
    simp [cellsO, cellsO_drop r k]

def RdO (w : World) (v : Value) (l : List Mo) : Prop := Rd w 2 v l.length (cellsO l)

theorem RdO.split {w : World} {v : Value} {l : List Mo} (h : RdO w v l) :
    (∃ a c, v = .slice a 0 c ∧ l = []) ∨ ∃ b off c, v = .slice (some ⟨b, off, none⟩) l.length c ∧ 0 < l.length ∧ l.length ≤ c ∧ c ≤ 9223372036854775807 ∧ b < w.heap.size ∧
      ∀ j, (hj : j < l.length) → w.cell? ⟨b, off + j * 2, none⟩ = some (.int .i64 l[j].1) ∧ w.cell? ⟨b, off + j * 2 + 1, none⟩ = some l[j].2 := by
  rcases Rd.split h (by omega) with ⟨a, c, rfl, h0, _⟩ | ⟨b, off, c, rfl, h1, h2, h3, h4, h5⟩
  · exact .inl ⟨a, c, rfl, List.eq_nil_of_length_eq_zero h0⟩
  · refine .inr ⟨b, off, c, rfl, h1, h2, h3, h4, fun j hj => ?_⟩
    obtain ⟨e1, e2⟩ := cellsO_at l j hj
    have hl := cellsO_length l
    obtain ⟨i1, e1⟩ := List.getElem?_eq_some_iff.1 e1
    obtain ⟨i2, e2⟩ := List.getElem?_eq_some_iff.1 e2
    refine ⟨?_, ?_⟩
    · rw [h5 _ i1, e1]
    · rw [Nat.add_assoc, h5 _ i2, e2]

/-! ### the search -/
theorem isNaN_any (x : Int) (w : World) : Calls Try.prog 102 #[.int .i64 x] w fun e w' => e = .returned (.bool false) ∧ w' = w := by
  go_enter Try.func102, Try.ntmps102
  go_wp2_with fail
  go_ret
  exact ⟨rfl, rfl⟩
def cmpI (x y : Int) : Int := if x < y then -1 else if y < x then 1 else 0
set_option maxHeartbeats 2000000 in
theorem compare_any (x y : Int) (w : World) : Calls Try.prog 91 #[.int .i64 x, .int .i64 y] w fun e w' => e = .returned (.int .i64 (cmpI x y)) ∧ w' = w := by
  obtain ⟨r, hr⟩ : ∃ r, cmpI x y = r := ⟨_, rfl⟩
  have HR := Lib.hid hr
  rw [hr]
  clear hr
  go_enter Try.func91, Try.ntmps91
  go_wp2_with fail
  refine (isNaN_any _ _).mono ?_
  rintro e w1 ⟨rfl, rfl⟩
  go_wp2_with fail
  refine (isNaN_any _ _).mono ?_
  rintro e w1 ⟨rfl, rfl⟩
  by_cases h1 : x < y
  · have hr : r = -1 := by rw [← HR.out]; unfold cmpI; rw [if_pos h1]
    subst hr
    go_wp2_with fail
    go_ret
    exact ⟨rfl, rfl⟩
  · by_cases h2 : y < x
    · have hr : r = 1 := by rw [← HR.out]; unfold cmpI; rw [if_neg h1, if_pos h2]
      subst hr
      have b1 : decide (x < y) = false := decide_eq_false h1
      clear h1
      go_wp2_with fail
      go_ret
      exact ⟨rfl, rfl⟩
    · have hr : r = 0 := by rw [← HR.out]; unfold cmpI; rw [if_neg h1, if_neg h2]
      subst hr
      have b1 : decide (x < y) = false := decide_eq_false h1
      have b2 : decide (y < x) = false := decide_eq_false h2
      clear h1 h2
      go_wp2_with fail
      go_ret
      exact ⟨rfl, rfl⟩
theorem closure_any (x y : Int) (a : Option Addr) (n c : Nat) (w : World) : Calls Try.prog 90 #[.agg #[.int .i64 x, .slice a n c], .int .i64 y] w fun e w' => e = .returned (.int .i64 (cmpI x y)) ∧ Below w.heap.size w w' := by
  go_enter Try.func90, Try.ntmps90
  go_wp2_with fail
  refine (compare_any _ _ _).mono ?_
  rintro e w1 ⟨rfl, rfl⟩
  go_wp2_with fail
  go_ret
  exact ⟨rfl, (Below.refl _ _).alloc (Nat.le_refl _) _⟩

/-- Where a place is, or would be. -/
structure FindAt (l : List Mo) (x : Int) (i : Nat) : Prop where
  le : i ≤ l.length
  lo : ∀ k, (hk : k < l.length) → k < i → l[k].1 < x
  hi : ∀ k, (hk : k < l.length) → i ≤ k → x ≤ l[k].1
def Rising (l : List Mo) : Prop := ∀ i j, (hi : i < l.length) → (hj : j < l.length) → i < j → l[i].1 < l[j].1
def hasAt (l : List Mo) (i : Nat) (x : Int) : Bool := match l[i]? with
  | some m => m.1 == x
  | none => false

set_option maxHeartbeats 4000000 in
theorem search_any (v : Value) (l : List Mo) (x : Int) (w : World) (hv : RdO w v l) (hS : ∀ m ∈ l, SlV m.2) (hR : Rising l) (hl : l.length ≤ 1000) :
    Calls Try.prog 89 #[v, .int .i64 x, .func (.func 90) #[] #[]] w fun e w' => ∃ i : Nat, e = .returned (.tuple #[.int .i64 i, .bool (hasAt l i x)]) ∧ FindAt l x i ∧ Below w.heap.size w w' := by
  have HV := Lib.hid hv
  have HS := Lib.hid hS
  have HR := Lib.hid hR
  obtain ⟨va, vc, rfl⟩ := Rd.shape hv
  clear hv hS hR
  go_enter Try.func89, Try.ntmps89
  go_wp2_with fail
  go_loopw [9, 10] (fun s9 s10 wr => ∃ i j : Nat, i ≤ j ∧ j ≤ l.length ∧ s9 = .int .i64 i ∧ s10 = .int .i64 j ∧ Hid (∀ k, (hk : k < l.length) → k < i → l[k].1 < x) ∧ Hid (∀ k, (hk : k < l.length) → j ≤ k → x ≤ l[k].1) ∧ Hid (Below w.heap.size w wr)) (fun s9 s10 _ => (intOf s10).toNat - (intOf s9).toNat)
  case atStart => exact ⟨0, l.length, by omega, by omega, rfl, rfl, fun k _ h => by omega, fun k hk h => by omega, Below.refl _ _⟩
  case round =>
    obtain ⟨wa, rfl⟩ : ∃ wa : World, wa = wr := ⟨_, rfl⟩
    obtain ⟨i, j, hij, hj, rfl, rfl, HLo, HHi, HB⟩ := hrel
    by_cases hlt : i < j
    · obtain ⟨h, hh⟩ : ∃ h : Nat, h = (i + j) / 2 := ⟨_, rfl⟩
      have hih : i ≤ h := by omega
      have hhj : h < j := by omega
      rcases HV.out.split with ⟨a, c, h0, h1⟩ | ⟨b, off, c, h0, hp, hlc, hc9, hb, hcell⟩
      · subst h1; simp at hj; omega
      · simp only [Value.slice.injEq] at h0
        obtain ⟨rfl, -, rfl⟩ := h0
        have hhl : h < l.length := by omega
        obtain ⟨d1, d2⟩ := hcell h hhl
        rw [← HB.out.cell (p := ⟨b, off + h * 2, none⟩) hb] at d1
        rw [← HB.out.cell (p := ⟨b, off + h * 2 + 1, none⟩) hb] at d2
        have hbr : b < wa.heap.size := Nat.lt_of_lt_of_le hb HB.out.size
        obtain ⟨pa, pn, pc, hpp⟩ := HS.out _ (List.getElem_mem hhl)
        rw [hpp] at d2
        obtain ⟨y, hy⟩ : ∃ y, l[h].1 = y := ⟨_, rfl⟩
        rw [hy] at d1
        have HY := Lib.hid hy
        clear hy hpp hcell
        subst hh
        go_wp2_with fail
        refine (closure_any _ _ _ _ _ _).mono ?_
        rintro e w2 ⟨rfl, hb2⟩
        have HB2 := Lib.hid (HB.out.trans (hb2.mono HB.out.size))
        clear hb2 d1 d2
        by_cases hyx : y < x
        · have hc : cmpI y x = -1 := by unfold cmpI; rw [if_pos hyx]
          rw [hc]
          clear hc
          go_wp2_with fail
          exact ⟨⟨(i + j) / 2 + 1, j, by omega, hj, by go_num, rfl, fun k hk hkh => by
            by_cases e : k < (i + j) / 2
            · have h1 := HR.out k _ hk hhl e
              rw [HY.out] at h1
              omega
            · obtain rfl : k = (i + j) / 2 := by omega
              rw [HY.out]; exact hyx, HHi, HB2⟩, by simp [intOf]; omega⟩
        · have hc : decide (cmpI y x < 0) = false := by
            refine decide_eq_false ?_
            unfold cmpI
            rw [if_neg hyx]
            split <;> omega
          go_wp2_with fail
          exact ⟨⟨i, (i + j) / 2, by omega, by omega, rfl, by go_num, HLo, fun k hk hkh => by
            by_cases e : (i + j) / 2 < k
            · have h1 := HR.out _ k hhl hk e
              rw [HY.out] at h1
              omega
            · obtain rfl : k = (i + j) / 2 := by omega
              rw [HY.out]; omega, HB2⟩, by simp [intOf]; omega⟩
    · obtain rfl : i = j := by omega
      have HF : Hid (FindAt l x i) := ⟨hj, HLo.out, HHi.out⟩
      by_cases hil : i < l.length
      · rcases HV.out.split with ⟨a, c, h0, h1⟩ | ⟨b, off, c, h0, hp, hlc, hc9, hb, hcell⟩
        · subst h1; simp at hil
        · simp only [Value.slice.injEq] at h0
          obtain ⟨rfl, -, rfl⟩ := h0
          obtain ⟨d1, d2⟩ := hcell i hil
          rw [← HB.out.cell (p := ⟨b, off + i * 2, none⟩) hb] at d1
          rw [← HB.out.cell (p := ⟨b, off + i * 2 + 1, none⟩) hb] at d2
          have hbr : b < wa.heap.size := Nat.lt_of_lt_of_le hb HB.out.size
          obtain ⟨pa, pn, pc, hpp⟩ := HS.out _ (List.getElem_mem hil)
          rw [hpp] at d2
          obtain ⟨y, hy⟩ : ∃ y, l[i].1 = y := ⟨_, rfl⟩
          rw [hy] at d1
          have HH : Hid (hasAt l i x = (cmpI y x == 0)) := by
            show _ = _
            unfold hasAt cmpI
            rw [List.getElem?_eq_getElem hil]
            simp only [hy]
            by_cases e1 : y < x
            · rw [if_pos e1]; simp; omega
            · rw [if_neg e1]
              by_cases e2 : x < y
              · rw [if_pos e2]; simp; omega
              · rw [if_neg e2]; simp; omega
          clear hy hpp hcell
          go_wp2_with fail
          refine (closure_any _ _ _ _ _ _).mono ?_
          rintro e w2 ⟨rfl, hb2⟩
          have HB2 := Lib.hid (HB.out.trans (hb2.mono HB.out.size))
          clear hb2 d1 d2
          go_wp2_with fail
          go_ret2
          exact ⟨i, by rw [HH.out]; rfl, HF.out, HB2.out⟩
      · obtain rfl : i = l.length := by omega
        have HH : Hid (hasAt l l.length x = false) := by
          show _ = _
          unfold hasAt
          rw [List.getElem?_eq_none (Nat.le_refl _)]
        go_wp2_with fail
        go_ret2
        exact ⟨l.length, by rw [HH.out]; rfl, HF.out, HB.out⟩
end Go.Proofs.Ytgjmdcbdkdmceaa

/- Keep: one moment less. -/
namespace Go.Proofs.Ytgjmdcbdkdmceaa
open Go.RowKit

theorem infoO : (Try.prog.info? 132).map (fun i => (i.zero, i.size, i.bytes)) = some (some (.agg #[.int .i64 0, .slice none 0 0]), 2, 32) := by kernel_rfl

/-- 's[l:h:m]'. -/
theorem run_slice_full {P : Program} (t e : TypeId) {i : TypeInfo} {size : Nat} (ht : P.underlying t = some (.slice e)) (hi : P.info? e = some i) (hs : i.size = size) (a : Option Addr) (len cap l h m : Nat) (li hj mk : Int) (hli : li = l) (hhj : hj = h) (hmk : mk = m) (hl : l ≤ h) (hh : h ≤ m) (hm : m ≤ cap) (w : World) :
    (Instr.slice t (.slice a len cap) (some (.int .i64 li)) (some (.int .i64 hj)) (some (.int .i64 mk))).run P w = .ok (.slice (if m = l then a else a.map (·.add (l * size))) (h - l) (m - l)) w := by
  subst hli hhj hmk
  have hb : (0 : Int) ≤ (l : Int) ∧ (l : Int) ≤ (h : Int) := by omega
  have hb2 : (0 : Int) ≤ (h : Int) ∧ (h : Int) ≤ (m : Int) := by omega
  have hb3 : (0 : Int) ≤ (m : Int) ∧ (m : Int) ≤ (cap : Int) := by omega
  have h0 : (Instr.sliceBound (.int .i64 (m : Int)) cap BoundsCode.slice3Acap).run P w = .ok m w := by
    simp [Instr.sliceBound, asIntOf, hb3.2]
  have h1 : (Instr.sliceBound (.int .i64 (h : Int)) m BoundsCode.slice3B).run P w = .ok h w := by
    simp [Instr.sliceBound, asIntOf, hb2.2]
  have h2 : (Instr.sliceBound (.int .i64 (l : Int)) h BoundsCode.slice3C).run P w = .ok l w := by
    simp [Instr.sliceBound, asIntOf, hb.2]
  simp [Instr.slice, run_underlying ht, Instr.sliceBounds, h0, h1, h2, sizeOf, typeInfo, hi, hs]

/-- The first elements of a row of one's own. -/
theorem own_take {w : World} {base g n c k : Nat} {e : TypeId} {size : Nat} {xs : List Value} (h : w.ownsRow base e size (.slice (some ⟨g, 0, none⟩) n c) n xs) (hk : k ≤ n) : w.ownsRow base e size (.slice (some ⟨g, 0, none⟩) k c) k (xs.take (k * size)) := by
  have hks : k * size ≤ n * size := Nat.mul_le_mul_right _ hk
  refine ⟨by rw [List.length_take, h.1]; omega, ?_⟩
  rcases h.2 with ⟨h1, _⟩ | ⟨g', cap, cur, h1, h2, h3, h4, h5, h6, h7⟩
  · cases h1
  · cases h1
    exact .inr ⟨g, c, cur, rfl, h2, h3, by omega, h5, h6, by rw [← h7, List.take_take, Nat.min_eq_left hks]⟩
/-- A store behind the elements. -/
theorem own_past {w : World} {base g n c o : Nat} {e : TypeId} {size : Nat} {xs : List Value} {v : Value} (h : w.ownsRow base e size (.slice (some ⟨g, 0, none⟩) n c) n xs) (ho : n * size ≤ o) : (w.setCell ⟨g, o, none⟩ v).ownsRow base e size (.slice (some ⟨g, 0, none⟩) n c) n xs := by
  refine ⟨h.1, ?_⟩
  rcases h.2 with ⟨h1, _⟩ | ⟨g', cap, cur, h1, h2, h3, h4, h5, h6, h7⟩
  · cases h1
  · cases h1
    refine .inr ⟨g, c, cur.setIfInBounds o v, rfl, h2, ?_, h4, h5, by simpa using h6, ?_⟩
    · simp [World.setCell, Array.getElem?_modify, h3]
    · rw [Array.toList_setIfInBounds, List.take_set_of_le ho]; exact h7
theorem own_cell {w : World} {base g n c o : Nat} {e : TypeId} {size : Nat} {xs : List Value} (h : w.ownsRow base e size (.slice (some ⟨g, 0, none⟩) n c) n xs) (ho : o < c * size) : (w.cell? ⟨g, o, none⟩).isSome = true ∧ w.frozen? ⟨g, o, none⟩ = false := by
  rcases h.2 with ⟨h1, _⟩ | ⟨g', cap, cur, h1, h2, h3, h4, h5, h6, h7⟩
  · cases h1
  · cases h1
    have : o < cur.size := by omega
    exact ⟨by simp [World.cell?, h3, this], by simp [World.frozen?, h3]⟩
theorem grown_setCell {w w' : World} {g o : Nat} {v : Value} (h : w.grownBy w' (some g)) : w.grownBy (w'.setCell ⟨g, o, none⟩ v) (some g) :=
  ⟨h.os, h.tape, h.output, by simpa using h.size, fun k hk hne => by
    rw [Below.heap_setCell _ _ _ _ (fun e => hne (by rw [e]))]; exact h.block k hk hne⟩

/-- THE OPERATION 'clear(s)' WHERE ITS RUN IS KNOWN. -/
theorem wpList_clear_run {P : Program} (w : World) {ops : Array Oper} {rest : List Oper} {o : Oper} {a : Act} {Q : Exit → Act → World → Prop} (hgd : o.guard = none) (s : Operand) (t : TypeId)
    (ho : o.op = .call { callee := .builtin .clear, args := #[s], argTypes := #[t] }) (u : Value) (hs : a.eval s = u) {v' : Value} {w' : World}
    (hr : (Builtin.clear_ #[t] o.type #[u]).run P w = .ok v' w') (h : wpList P ops Q rest (a.put o.dst v') w') : wpList P ops Q (o :: rest) a w :=
  wpList_plain hgd fun _ hK => by
    unfold Oper.wp execOp
    simp only [ho, resolve, invoke, builtin, Sem.run_bind, Sem.run_pure, Result.andThen_ok, List.map_toArray, List.map_cons, List.map_nil, hs, hr]
    exact hK _ _ h
/-- THE OPERATION 'append' IN A REGION THAT DRAWS, WHERE ITS RUN IS KNOWN. -/
theorem step_append_run {P : Program} {ops : Array Oper} {o : Oper} {a : Act} {w : World} {K : Act → World → Prop} {Q : Exit → Act → World → Prop} {E : Prop}
    (hg : o.guard = none) (s x : Operand) (t : TypeId) (hop : o.op = Op.call { callee := Callee.builtin Builtin.append, args := #[s, x], argTypes := #[t, t] })
    (v u : Value) (hs : a.eval s = v) (hx : a.eval x = u) {v' : Value} {w' : World} (hr : (Builtin.append_ #[t, t] o.type #[v, u]).run P w = .ok v' w') (hK : K (a.put o.dst v') w') :
    if Region.wanted o (yielded ops a.tmps) = true then Oper.wp P o a w K Q else E := by
  have hw : Region.wanted o (yielded ops a.tmps) = true := by simp [Region.wanted, hg]
  rw [if_pos hw]
  unfold Oper.wp
  simp [execOp, hop, resolve, invoke, builtin, hs, hx, hr, Result.andThen]
  exact hK

theorem eraseIdx_take_drop {α : Type} (l : List α) (i : Nat) : l.eraseIdx i = l.take i ++ l.drop (i + 1) := List.eraseIdx_eq_take_drop_succ ..

theorem run_clear_one (w : World) (g o c : Nat) (ty : TypeId) (hc : ∀ j, j < 2 → (w.cell? ⟨g, o + j, none⟩).isSome = true ∧ w.frozen? ⟨g, o + j, none⟩ = false) :
    (Builtin.clear_ #[101] ty #[.slice (some ⟨g, o, none⟩) 1 c]).run Try.prog w = .ok (.tuple #[]) ((w.setCell ⟨g, o, none⟩ (.int .i64 0)).setCell ⟨g, o + 1, none⟩ (.slice none 0 0)) := by
  obtain ⟨i, hi, hz, hs, hb⟩ := info_parts infoO
  have hst := run_storeCells_cells (P := Try.prog) g o [.int .i64 0, .slice none 0 0] 0 w (fun j hj => by rw [Nat.add_zero]; exact (hc j hj).1) (fun j hj => by rw [Nat.add_zero]; exact (hc j hj).2) (by intro v hv; simp at hv; rcases hv with rfl | rfl <;> rfl)
  simp only [Nat.add_zero] at hst
  have hzv : ∀ w, (zeroValue 132).run Try.prog w = .ok (.agg #[.int .i64 0, .slice none 0 0]) w := fun w => by
    simp [zeroValue, typeInfo, hi, hz]
  have hzc : (Builtin.zeroCells (Value.agg #[.int .i64 0, .slice none 0 0]).cells 1).toList = [.int .i64 0, .slice none 0 0] := by kernel_rfl
  simp [Builtin.clear_, run_underlying Try.underlying101, hzv, hzc, hst]
  rfl
end Go.Proofs.Ytgjmdcbdkdmceaa

/- Keep: the library's slices.Delete of one moment; slices of bytes copied. -/
namespace Go.Proofs.Ytgjmdcbdkdmceaa
open Go.RowKit

abbrev ownO (w : World) (base : Nat) (v : Value) (l : List Mo) : Prop := w.ownsRow base 132 2 v l.length (cellsO l)

set_option maxHeartbeats 4000000 in
theorem delete_any (g c i base : Nat) (l : List Mo) (w : World) (h : ownO w base (.slice (some ⟨g, 0, none⟩) l.length c) l) (hi : i < l.length) (hl : l.length ≤ 1000) (hS : ∀ m ∈ l, SlV m.2) :
    Calls Try.prog 71 #[.slice (some ⟨g, 0, none⟩) l.length c, .int .i64 i, .int .i64 ((i : Int) + 1)] w fun e w' =>
      ∃ l', l' = l.eraseIdx i ∧ e = .returned (.slice (some ⟨g, 0, none⟩) l'.length c) ∧ ownO w' base (.slice (some ⟨g, 0, none⟩) l'.length c) l' ∧ w.grownBy w' (some g) := by
  obtain ⟨im, mi0, mz0, mz1, mz2⟩ := info_parts infoO
  obtain ⟨hlc, hcm⟩ : l.length ≤ c ∧ c ≤ maxLen := by
    rcases h.2 with ⟨h1, _⟩ | ⟨g', cap, cur, h1, _, _, h4, h5, _⟩
    · cases h1
    · cases h1; exact ⟨h4, h5⟩
  have hle : (l.eraseIdx i).length = l.length - 1 := by rw [List.length_eraseIdx, if_pos hi]
  -- the slices
  obtain ⟨va, hva⟩ : ∃ va, ∀ W, (Instr.slice 101 (.slice (some ⟨g, 0, none⟩) l.length c) (some (.int .i64 (i : Int))) (some (.int .i64 ((i : Int) + 1))) (some (.int .i64 (l.length : Int)))).run Try.prog W = .ok va W :=
    ⟨_, fun W => run_slice_full (P := Try.prog) 101 132 Try.underlying101 mi0 mz1 _ l.length c i (i + 1) l.length _ _ _ rfl (by omega) rfl (by omega) (by omega) hlc W⟩
  have hvb := fun W => run_slice_to (P := Try.prog) 101 132 Try.underlying101 mi0 mz1 (some ⟨g, 0, none⟩) l.length c i (i : Int) rfl (by omega) W
  obtain ⟨ad, hvc, hnews⟩ : ∃ ad, (∀ W, (Instr.slice 101 (.slice (some ⟨g, 0, none⟩) l.length c) (some (.int .i64 ((i : Int) + 1))) none none).run Try.prog W = .ok (.slice (some ad) (l.length - (i + 1)) (c - (i + 1))) W) ∧ ∀ j u, (cellsO (l.drop (i + 1)))[j]? = some u → w.cell? (ad.add j) = some u := by
    have hs := fun W => run_slice_from (P := Try.prog) 101 132 Try.underlying101 mi0 mz1 (some ⟨g, 0, none⟩) l.length c (i + 1) ((i : Int) + 1) (by omega) (by omega) W
    by_cases hc : c = i + 1
    · refine ⟨⟨g, 0, none⟩, fun W => by rw [hs W, if_pos hc], fun j u hu => ?_⟩
      rw [List.drop_of_length_le (by omega)] at hu
      simp [cellsO] at hu
    · refine ⟨_, fun W => by rw [hs W, if_neg hc]; rfl, fun j u hu => ?_⟩
      rw [← cellsO_drop, List.getElem?_drop] at hu
      have := h.cells rfl _ u hu
      rwa [Addr.add_add]
  have hvs1 : ∀ u ∈ cellsO (l.drop (i + 1)), u.oneCell' = true := cellsO_one _ fun m hm => hS m (List.mem_of_mem_drop hm)
  have htake : w.drew.ownsRow base 132 2 (.slice (some ⟨g, 0, none⟩) i c) i ((cellsO l).take (i * 2)) := own_take h (by omega)
  obtain ⟨w2, hrun, hown2, hgrow2⟩ := run_append_fits (P := Try.prog) (w := w.drew) base 101 101 132 im 2 Try.underlying101 mi0 mz1 g i c _ htake ad (l.length - (i + 1)) (c - (i + 1)) _ (by rw [cellsO_length, List.length_drop]) hnews hvs1 (by omega)
  obtain ⟨m, hm⟩ : ∃ m, m = l.length - 1 := ⟨_, rfl⟩
  have hn' : i + (l.length - (i + 1)) = m := by omega
  rw [hn'] at hrun hown2
  rw [cellsO_take, ← cellsO_append, ← eraseIdx_take_drop] at hown2
  have hvd : ∀ W, (Instr.slice 101 (.slice (some ⟨g, 0, none⟩) m c) (some (.int .i64 (m : Int))) (some (.int .i64 (l.length : Int))) none).run Try.prog W = .ok (.slice (some ⟨g, m * 2, none⟩) 1 (c - m)) W := fun W => by
    have h := run_slice_mid (P := Try.prog) 101 132 Try.underlying101 mi0 mz1 (some ⟨g, 0, none⟩) m c m l.length _ _ rfl rfl (by omega) hlc W
    rw [if_neg (by omega), show l.length - m = 1 by omega] at h
    simpa [add_plain] using h
  have hclr := fun ty => run_clear_one w2 g (m * 2) (c - m) ty (fun j hj => own_cell hown2 (show m * 2 + j < c * 2 by omega))
  have hown3 := own_past (v := .slice none 0 0) (own_past (v := .int .i64 0) hown2 (Nat.le_refl _)) (show m * 2 ≤ m * 2 + 1 by omega)
  have hgrow3 : w.grownBy ((w2.setCell ⟨g, m * 2, none⟩ (.int .i64 0)).setCell ⟨g, m * 2 + 1, none⟩ (.slice none 0 0)) (some g) := grown_setCell (grown_setCell ⟨hgrow2.os, hgrow2.tape, hgrow2.output, hgrow2.size, hgrow2.block⟩)
  have HE := Lib.hid (And.intro hown3 hgrow3)
  have hlen : m = (l.eraseIdx i).length := by omega
  have HLen := Lib.hid hlen
  clear hm hn'
  have hii : ((i : Int) == (i : Int) + 1) = false := by simp; omega
  have mixed : Try.prog.follows Departure.mixedOrders = true := by kernel_rfl
  clear h htake hown2 hgrow2 hown3 hgrow3 hnews hvs1 hS hlen hle
  go_enter Try.func71, Try.ntmps71
  go_wp2_with fail
  go_region_law_o (refine step_append_run rfl _ _ 101 rfl _ _ (by simp [Act.eval, Act.put]) (by simp [Act.eval, Act.put]) hrun ?_)
  simp (config := { failIfUnchanged := false }) only [Act.put, Exit.then]
  go_wp2_with (at_builtin; refine wpList_clear_run _ rfl _ 101 rfl _ rfl (hclr _) ?_)
  go_ret
  refine ⟨_, rfl, ?_, ?_, HE.out.2⟩
  · rw [← HLen.out]; rfl
  · show World.ownsRow _ _ _ _ _ _ _
    rw [← HLen.out]; exact HE.out.1
end Go.Proofs.Ytgjmdcbdkdmceaa

/- Keep: the library's slices.Insert of one moment. -/
namespace Go.Proofs.Ytgjmdcbdkdmceaa
open Go.RowKit

/-- 'copy', elements of k cells. -/
theorem run_copy_rowK {P : Program} (w : World) (dT sT ty elem : TypeId) (k g o dLen dCap : Nat) (a : Addr) (sLen sCap : Nat) (cur : Array Value) (t : TypeId) (cs : List Value)
    (hu : P.underlying dT = some (.slice elem)) (hs : (P.info? elem).map (·.size) = some k)
    (hg : w.heap[g]? = some (.cells cur t (0, 0))) (hn : cs.length = Nat.min sLen dLen * k)
    (hsrc : ∀ j v, cs[j]? = some v → w.cell? (a.add j) = some v) (hfit : o + cs.length ≤ cur.size) (h1 : ∀ v ∈ cs, v.oneCell' = true) :
    (Builtin.copy_ #[dT, sT] ty #[.slice (some ⟨g, o, none⟩) dLen dCap, .slice (some a) sLen sCap]).run P w =
      .ok (goInt (Nat.min sLen dLen)) (w.setRow g (cur.toList.take o ++ cs ++ cur.toList.drop (o + cs.length)).toArray) := by
  have hl := run_loadCells_list (P := P) w a cs hsrc
  have hst := run_storeCells_at P g o t cs 0 cur w hg (by simpa using hfit) h1
  cases hq : P.info? elem with
  | none => simp [hq] at hs
  | some i =>
    have hi : i.size = k := by simpa [hq] using hs
    simp [Builtin.copy_, run_underlying hu, Builtin.lenOf, Builtin.firstCells, sizeOf, typeInfo, hq, hi, ← hn, hl, hst]

theorem wpList_copy_runK {P : Program} (w : World) {ops : Array Oper} {rest : List Oper} {o : Oper} {a : Act} {Q : Exit → Act → World → Prop} (hgd : o.guard = none) (d s : Operand) (t t' : TypeId)
    (ho : o.op = .call { callee := .builtin .copy, args := #[d, s], argTypes := #[t, t'] }) (v u : Value) (hd : a.eval d = v) (hs : a.eval s = u) {v' : Value} {w' : World}
    (hr : (Builtin.copy_ #[t, t'] o.type #[v, u]).run P w = .ok v' w') (h : wpList P ops Q rest (a.put o.dst v') w') : wpList P ops Q (o :: rest) a w :=
  wpList_plain hgd fun _ hK => by
    unfold Oper.wp execOp
    simp only [ho, resolve, invoke, builtin, Sem.run_bind, Sem.run_pure, Result.andThen_ok, List.map_toArray, List.map_cons, List.map_nil, hd, hs, hr]
    exact hK _ _ h
theorem step_copy_runK {P : Program} {ops : Array Oper} {o : Oper} {a : Act} {w : World} {K : Act → World → Prop} {Q : Exit → Act → World → Prop} {E : Prop}
    (hg : o.guard = none) (d x : Operand) (dT sT : TypeId) (hop : o.op = Op.call { callee := Callee.builtin Builtin.copy, args := #[d, x], argTypes := #[dT, sT] })
    (v u : Value) (hd : a.eval d = v) (hx : a.eval x = u) {v' : Value} {w' : World} (hr : (Builtin.copy_ #[dT, sT] o.type #[v, u]).run P w = .ok v' w') (hK : K (a.put o.dst v') w') :
    if Region.wanted o (yielded ops a.tmps) = true then Oper.wp P o a w K Q else E := by
  have hw : Region.wanted o (yielded ops a.tmps) = true := by simp [Region.wanted, hg]
  rw [if_pos hw]
  unfold Oper.wp
  simp [execOp, hop, resolve, invoke, builtin, hd, hx, hr, Result.andThen]
  exact hK
/-- 'append(s, make(..)...)' where its run is known. -/
theorem wpList_append_runK {P : Program} (w : World) {ops : Array Oper} {rest : List Oper} {o : Oper} {a : Act} {Q : Exit → Act → World → Prop} (hgd : o.guard = none) (d s : Operand) (t t' : TypeId)
    (ho : o.op = .call { callee := .builtin .append, args := #[d, s], argTypes := #[t, t'] }) (v u : Value) (hd : a.eval d = v) (hs : a.eval s = u) {v' : Value} {w' : World}
    (hr : (Builtin.append_ #[t, t'] o.type #[v, u]).run P w = .ok v' w') (h : wpList P ops Q rest (a.put o.dst v') w') : wpList P ops Q (o :: rest) a w :=
  wpList_plain hgd fun _ hK => by
    unfold Oper.wp execOp
    simp only [ho, resolve, invoke, builtin, Sem.run_bind, Sem.run_pure, Result.andThen_ok, List.map_toArray, List.map_cons, List.map_nil, hd, hs, hr]
    exact hK _ _ h

/-- In place: first what stands behind moves up, then the new one is laid. -/
theorem ins_up {α : Type} (L X : List α) (n i : Nat) (a b : α) (hX : L.take (n * 2) = X) (hXl : X.length = n * 2) (hi : i ≤ n) (hL : (n + 1) * 2 ≤ L.length) :
    (((L.take ((i + 1) * 2) ++ X.drop (i * 2) ++ L.drop ((i + 1) * 2 + (X.drop (i * 2)).length)).take (i * 2) ++ [a, b] ++ (L.take ((i + 1) * 2) ++ X.drop (i * 2) ++ L.drop ((i + 1) * 2 + (X.drop (i * 2)).length)).drop (i * 2 + 2)).take ((n + 1) * 2)) = X.take (i * 2) ++ a :: b :: X.drop (i * 2) := by
  have e1 : (L.take ((i + 1) * 2)).length = i * 2 + 2 := by rw [List.length_take]; omega
  have e2 : (X.drop (i * 2)).length = n * 2 - i * 2 := by rw [List.length_drop, hXl]
  have h1 : (L.take ((i + 1) * 2) ++ X.drop (i * 2) ++ L.drop ((i + 1) * 2 + (X.drop (i * 2)).length)).take (i * 2) = X.take (i * 2) := by
    rw [List.append_assoc, List.take_append_of_le_length (by omega), List.take_take, Nat.min_eq_left (by omega), ← hX, List.take_take, Nat.min_eq_left (by omega)]
  have h2 : (L.take ((i + 1) * 2) ++ X.drop (i * 2) ++ L.drop ((i + 1) * 2 + (X.drop (i * 2)).length)).drop (i * 2 + 2) = X.drop (i * 2) ++ L.drop ((i + 1) * 2 + (X.drop (i * 2)).length) := by
    rw [List.append_assoc]
    exact List.drop_left' e1
  rw [h1, h2, ← List.append_assoc]
  have e3 : (X.take (i * 2) ++ [a, b] ++ X.drop (i * 2)).length = (n + 1) * 2 := by simp [hXl]; omega
  rw [List.take_left' e3]
  simp
/-- In a new row: first the new one is laid, then what stood behind. -/
theorem ins_new {α : Type} (L X : List α) (n i : Nat) (a b : α) (hX : L.take (i * 2) = X.take (i * 2)) (hXl : X.length = n * 2) (hi : i ≤ n) (hL : (n + 1) * 2 ≤ L.length) :
    (((L.take (i * 2) ++ [a, b] ++ L.drop (i * 2 + 2)).take ((i + 1) * 2) ++ X.drop (i * 2) ++ (L.take (i * 2) ++ [a, b] ++ L.drop (i * 2 + 2)).drop ((i + 1) * 2 + (X.drop (i * 2)).length)).take ((n + 1) * 2)) = X.take (i * 2) ++ a :: b :: X.drop (i * 2) := by
  have e1 : (L.take (i * 2) ++ [a, b]).length = (i + 1) * 2 := by simp; omega
  rw [List.take_left' e1, hX]
  have e3 : (X.take (i * 2) ++ [a, b] ++ X.drop (i * 2)).length = (n + 1) * 2 := by simp [hXl]; omega
  rw [List.take_left' e3]
  simp
end Go.Proofs.Ytgjmdcbdkdmceaa
