/- Tools over any program, on: append of whatever can be read, as a step of a region that draws its order. -/
import Derived.Test.YteeapfgjjankeaaT
import Derived.Deep.RegionLaw
import Derived.Deep.RegionHeld3
namespace Go.Proofs.Yteeapfgjjankeaa
open Go.RowKit

theorem run_append_own_rd {P : Program} (w : World) (base : Nat) (t ty e : TypeId) (i : TypeInfo) (z : Value) (size bytes : Nat) (ht : P.underlying t = some (.slice e)) (hi : P.info? e = some i) (hz : i.zero = some z)
    (hsize : i.size = size) (hby : i.bytes = bytes) (hzs : z.cells.size = size) (hsz : 0 < size)
    (v : Value) (n : Nat) (xs : List Value) (hown : w.ownsRow base e size v n xs)
    (vx : Value) (m : Nat) (news : List Value) (hr : Rd w size vx m news) (h1 : ∀ u ∈ news, u.oneCell' = true)
    (h63 : n + m ≤ maxLen) (hbytes : (n + m) * bytes ≤ 140737488355328) (hbase : base ≤ w.heap.size) :
    ∃ v' w', (Builtin.append_ #[t, t] ty #[v, vx]).run P w = .ok v' w' ∧ w'.ownsRow base e size v' (n + m) (xs ++ news) ∧ w.grownBy w' v.ownBlock := by
  rcases hr.2 with ⟨rfl, rfl⟩ | ⟨ad, c, rfl, _, _, hc⟩
  · have hnw : news = [] := List.eq_nil_of_length_eq_zero (by simpa using hr.1)
    subst hnw
    have hrun := run_append_owned_none (P := P) (w := w) base t ty e i size ht hi v n xs hown
    exact ⟨v, w, hrun, by simpa using hown, World.grownBy.refl _ _⟩
  · obtain ⟨v', w', hr', h2, h3, _⟩ := run_append_own (P := P) w base t ty e i z size bytes ht hi hz hsize hby hzs hsz v n xs hown ad m c news hr.1 hc h1 h63 hbytes hbase
    exact ⟨v', w', hr', h2, h3⟩

/-- Append, of whatever can be read, to a slice of the call's own: something is in it then, so its block is told. -/
theorem wpList_append_own_g {P : Program} (w : World) {ops : Array Oper} {rest : List Oper} {o : Oper} {a : Act} {Q : Exit → Act → World → Prop} (hgd : o.guard = none) (s x : Operand) (t : TypeId)
    (ho : o.op = .call { callee := .builtin .append, args := #[s, x], argTypes := #[t, t] })
    (base : Nat) (e : TypeId) (i : TypeInfo) (z : Value) (size bytes : Nat) (ht : P.underlying t = some (.slice e)) (hi : P.info? e = some i) (hz : i.zero = some z)
    (hsize : i.size = size) (hby : i.bytes = bytes) (hzs : z.cells.size = size) (hsz : 0 < size)
    (v : Value) (n : Nat) (xs : List Value) (hs : a.eval s = v) (hown : w.ownsRow base e size v n xs)
    (vx : Value) (m : Nat) (news : List Value) (hx : a.eval x = vx) (hr : Rd w size vx m news) (h1 : ∀ u ∈ news, u.oneCell' = true)
    (N : Nat) (hN : n + m = N) (hpos : 0 < N) (h63 : N ≤ maxLen) (hbytes : N * bytes ≤ 140737488355328) (hbase : base ≤ w.heap.size)
    (h : ∀ g cap w', w'.ownsRow base e size (.slice (some ⟨g, 0, none⟩) N cap) N (xs ++ news) → w.grownBy w' v.ownBlock → wpList P ops Q rest (a.put o.dst (.slice (some ⟨g, 0, none⟩) N cap)) w') : wpList P ops Q (o :: rest) a w := by
  subst hN
  refine wpList_append_own_rd w hgd s x t ho base e i z size bytes ht hi hz hsize hby hzs hsz v n xs hs hown vx m news hx hr h1 h63 hbytes hbase (fun v' w' h2 h3 => ?_)
  rcases h2.2 with ⟨_, h4⟩ | ⟨g, cap, cur, rfl, _⟩
  · omega
  · exact h g cap w' h2 h3

theorem step_append_own_rd {P : Program} {ops : Array Oper} {o : Oper} {a : Act} {w : World} {K : Act → World → Prop} {Q : Exit → Act → World → Prop} {E : Prop}
    (hg : o.guard = none) (s x : Operand) (t : TypeId) (hop : o.op = Op.call { callee := Callee.builtin Builtin.append, args := #[s, x], argTypes := #[t, t] })
    (base : Nat) (e : TypeId) (i : TypeInfo) (z : Value) (size bytes : Nat) (ht : P.underlying t = some (.slice e)) (hi : P.info? e = some i) (hz : i.zero = some z)
    (hsize : i.size = size) (hby : i.bytes = bytes) (hzs : z.cells.size = size) (hsz : 0 < size)
    (v : Value) (n : Nat) (xs : List Value) (hs : a.eval s = v) (hown : w.ownsRow base e size v n xs)
    (vx : Value) (m : Nat) (news : List Value) (hx : a.eval x = vx) (hr : Rd w size vx m news) (h1 : ∀ u ∈ news, u.oneCell' = true)
    (h63 : n + m ≤ maxLen) (hbytes : (n + m) * bytes ≤ 140737488355328) (hbase : base ≤ w.heap.size)
    (hK : ∀ v' w', w'.ownsRow base e size v' (n + m) (xs ++ news) → w.grownBy w' v.ownBlock → K (a.put o.dst v') w') :
    if Region.wanted o (yielded ops a.tmps) = true then Oper.wp P o a w K Q else E := by
  have hw : Region.wanted o (yielded ops a.tmps) = true := by simp [Region.wanted, hg]
  rw [if_pos hw]
  obtain ⟨v', w', hrun, h2, h3⟩ := run_append_own_rd (P := P) w base t o.type e i z size bytes ht hi hz hsize hby hzs hsz v n xs hown vx m news hr h1 h63 hbytes hbase
  unfold Oper.wp
  simp [execOp, hop, resolve, invoke, builtin, hs, hx, hrun, Result.andThen]
  exact hK v' w' h2 h3

/-- What stands behind the first k elements. -/
theorem Rd.drop {w : World} {size b off n c k : Nat} {xs : List Value} (h : Rd w size (.slice (some ⟨b, off, none⟩) n c) n xs) (hk : k ≤ n) (_hc : k ≠ c) : Rd w size (.slice (some ⟨b, off + k * size, none⟩) (n - k) (c - k)) (n - k) (xs.drop (k * size)) := by
  obtain ⟨hl, h⟩ := h
  refine ⟨by rw [List.length_drop, hl, Nat.sub_mul], ?_⟩
  rcases h with ⟨h1, _⟩ | ⟨a, cap, h1, h2, h3, h4⟩
  · cases h1
  · cases h1
    refine .inr ⟨_, _, rfl, by omega, by omega, fun j u hu => ?_⟩
    rw [List.getElem?_drop] at hu
    have := h4 _ u hu
    rw [add_plain] at this ⊢
    rw [Nat.add_assoc]; exact this
theorem Rd.drop_all {w : World} {size : Nat} {a : Option Addr} {n c : Nat} {xs : List Value} (h : Rd w size (.slice a n c) n xs) : Rd w size (.slice a 0 0) 0 (xs.drop (n * size)) := by
  refine ⟨by rw [List.length_drop, h.1]; simp, ?_⟩
  cases a with
  | none => exact .inl ⟨rfl, rfl⟩
  | some a => exact .inr ⟨a, 0, rfl, Nat.le_refl _, Nat.zero_le _, fun j u hu => by rw [List.drop_of_length_le (by rw [h.1]; exact Nat.le_refl _)] at hu; cases hu⟩

theorem RdB.dropTail {w : World} {b off c k n : Nat} {l : List Int} (h : RdB w (.slice (some ⟨b, off, none⟩) n c) l) (hn : n = l.length) (hk : k ≤ n) (hc : k ≠ c) : RdB w (.slice (some ⟨b, off + k, none⟩) (n - k) (c - k)) (l.drop k) := by
  subst hn
  have := Rd.drop h hk hc
  unfold RdB
  rw [List.length_drop, List.map_drop]
  simpa using this
theorem RdB.dropNone {w : World} {a : Option Addr} {c n : Nat} {l : List Int} (h : RdB w (.slice a n c) l) (hn : n = l.length) : RdB w (.slice a 0 0) (l.drop n) := by
  subst hn
  have := Rd.drop_all h
  unfold RdB
  rw [List.length_drop, List.map_drop, Nat.sub_self]
  simpa using this

/-- 's[l:]', wherever it begins. -/
theorem run_slice_from {P : Program} (t e : TypeId) {i : TypeInfo} {size : Nat} (ht : P.underlying t = some (.slice e)) (hi : P.info? e = some i) (hs : i.size = size) (a : Option Addr) (len cap l : Nat) (li : Int) (hli : li = l) (hl : l ≤ len) (w : World) :
    (Instr.slice t (.slice a len cap) (some (.int .i64 li)) none none).run P w = .ok (.slice (if cap = l then a else a.map (·.add (l * size))) (len - l) (cap - l)) w := by
  subst hli
  have hb : (0 : Int) ≤ (l : Int) ∧ (l : Int) ≤ (len : Int) := by omega
  have h2 : (Instr.sliceBound (.int .i64 (l : Int)) len BoundsCode.sliceB).run P w = .ok l w := by
    simp [Instr.sliceBound, asIntOf, hb.2]
  simp [Instr.slice, run_underlying ht, Instr.sliceBounds, h2, sizeOf, typeInfo, hi, hs]
/-- 's[l:h]'. -/
theorem run_slice_mid {P : Program} (t e : TypeId) {i : TypeInfo} {size : Nat} (ht : P.underlying t = some (.slice e)) (hi : P.info? e = some i) (hs : i.size = size) (a : Option Addr) (len cap l h : Nat) (li hj : Int) (hli : li = l) (hhj : hj = h) (hl : l ≤ h) (hh : h ≤ cap) (w : World) :
    (Instr.slice t (.slice a len cap) (some (.int .i64 li)) (some (.int .i64 hj)) none).run P w = .ok (.slice (if cap = l then a else a.map (·.add (l * size))) (h - l) (cap - l)) w := by
  subst hli hhj
  have hb : (0 : Int) ≤ (l : Int) ∧ (l : Int) ≤ (h : Int) := by omega
  have hb2 : (0 : Int) ≤ (h : Int) ∧ (h : Int) ≤ (cap : Int) := by omega
  have h1 : (Instr.sliceBound (.int .i64 (h : Int)) cap BoundsCode.sliceAcap).run P w = .ok h w := by
    simp [Instr.sliceBound, asIntOf, hb2.2]
  have h2 : (Instr.sliceBound (.int .i64 (l : Int)) h BoundsCode.sliceB).run P w = .ok l w := by
    simp [Instr.sliceBound, asIntOf, hb.2]
  simp [Instr.slice, run_underlying ht, Instr.sliceBounds, h1, h2, sizeOf, typeInfo, hi, hs]
/-- 's[:h]'. -/
theorem run_slice_to {P : Program} (t e : TypeId) {i : TypeInfo} {size : Nat} (ht : P.underlying t = some (.slice e)) (hi : P.info? e = some i) (_hs : i.size = size) (a : Option Addr) (len cap h : Nat) (hj : Int) (hhj : hj = h) (hh : h ≤ cap) (w : World) :
    (Instr.slice t (.slice a len cap) none (some (.int .i64 hj)) none).run P w = .ok (.slice a h cap) w := by
  subst hhj
  have hb2 : (0 : Int) ≤ (h : Int) ∧ (h : Int) ≤ (cap : Int) := by omega
  have h1 : (Instr.sliceBound (.int .i64 (h : Int)) cap BoundsCode.sliceAcap).run P w = .ok h w := by
    simp [Instr.sliceBound, asIntOf, hb2.2]
  cases a <;> simp [Instr.slice, run_underlying ht, Instr.sliceBounds, h1, sizeOf, typeInfo, hi, Addr.add]

/-- A slice of a slice of bytes, by the run's own value. -/
theorem rdB_mid {w : World} {a : Option Addr} {len cap l h : Nat} {xs : List Int} (hr : RdB w (.slice a len cap) xs) (hn : len = xs.length) (hl : l ≤ h) (hh : h ≤ len) :
    RdB w (.slice (if cap = l then a else a.map (·.add (l * 1))) (h - l) (cap - l)) ((xs.take h).drop l) := by
  subst hn
  have h1 := Rd.take (k := h) hr hh
  have e1 : ((xs.take h).drop l).length = h - l := by simp; omega
  unfold RdB
  rw [e1]
  by_cases hc : cap = l
  · rw [if_pos hc]
    have h0 : h = l := by
      rcases hr.2 with ⟨h2, h3⟩ | ⟨a', cap', h2, h3, _⟩
      · omega
      · simp only [Value.slice.injEq] at h2; omega
    subst h0
    have := Rd.drop_all h1
    rw [Nat.sub_self, show cap - h = 0 by omega]
    simpa using this
  · rw [if_neg hc]
    rcases h1.2 with ⟨h2, h3⟩ | ⟨a', cap', h2, h3, h4, h5⟩
    · simp only [Value.slice.injEq] at h2
      obtain ⟨rfl, rfl, rfl⟩ := h2
      omega
    · simp only [Value.slice.injEq] at h2
      obtain ⟨rfl, _, rfl⟩ := h2
      refine ⟨by simp; omega, .inr ⟨a'.add (l * 1), cap - l, rfl, by omega, by omega, fun j u hu => ?_⟩⟩
      rw [add_add']
      apply h5
      rw [← hu]
      simp only [Nat.mul_one, List.map_drop, List.map_take, List.getElem?_drop]

end Go.Proofs.Yteeapfgjjankeaa
