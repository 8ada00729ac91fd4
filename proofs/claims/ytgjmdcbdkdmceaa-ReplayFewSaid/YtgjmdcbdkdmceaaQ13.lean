/- Tools over any program: a slice that can be read (an argument's, the call's own, nil), and what may be done with it. -/
import Derived.WalkKit
import Derived.WalkLawsBesides
import Derived.WalkSpells
import Derived.Lib.Hide
import Derived.Deep.Light
import Derived.Laws.AppendOwnNone
import Derived.Deep.RegionLaw
import Derived.Deep.RegionHeld3
import Derived.Below
namespace Go.Proofs.Ytgjmdcbdkdmceaa
open Go.RowKit

theorem ret_bool {a b : Bool} (h : a = b) : Ending.returned (.bool a) = .returned (.bool b) := by rw [h]
theorem ret_int {k : IntKind} {a b : Int} (h : a = b) : Ending.returned (.int k a) = .returned (.int k b) := by rw [h]

theorem bcell {W w1 : World} (hb : Below W.heap.size W w1) : (∀ b o, b < W.heap.size → w1.cell? ⟨b, o, none⟩ = W.cell? ⟨b, o, none⟩) ∧ (∀ b o, b < W.heap.size → w1.frozen? ⟨b, o, none⟩ = W.frozen? ⟨b, o, none⟩) :=
  ⟨fun b o h => hb.cell (p := ⟨b, o, none⟩) h, fun b o h => hb.frozen (p := ⟨b, o, none⟩) h⟩

/-- The value leads to n elements of 'size' cells each, which hold xs. -/
def Rd (w : World) (size : Nat) (v : Value) (n : Nat) (xs : List Value) : Prop :=
  xs.length = n * size ∧ ((v = .slice none 0 0 ∧ n = 0) ∨ ∃ a cap, v = .slice (some a) n cap ∧ n ≤ cap ∧ cap ≤ maxLen ∧ ∀ j u, xs[j]? = some u → w.cell? (a.add j) = some u)

theorem add_plain (b off j : Nat) : (⟨b, off, none⟩ : Addr).add j = ⟨b, off + j, none⟩ := by unfold Addr.add; split <;> simp_all

theorem Rd.shape {w : World} {size : Nat} {v : Value} {n : Nat} {xs : List Value} (h : Rd w size v n xs) : ∃ a c, v = .slice a n c := by
  rcases h.2 with ⟨rfl, rfl⟩ | ⟨a, c, rfl, _⟩
  · exact ⟨_, _, rfl⟩
  · exact ⟨_, _, rfl⟩

theorem Rd.le {w : World} {size : Nat} {v : Value} {n : Nat} {xs : List Value} (h : Rd w size v n xs) : n ≤ 9223372036854775807 := by
  rcases h.2 with ⟨_, rfl⟩ | ⟨a, c, rfl, h1, h2, _⟩
  · omega
  · unfold maxLen at h2; omega

/-- Nothing in it; or an address of the plain kind. -/
theorem Rd.split {w : World} {size : Nat} {v : Value} {n : Nat} {xs : List Value} (h : Rd w size v n xs) (hs : 0 < size) :
    (∃ a c, v = .slice a 0 c ∧ n = 0 ∧ xs = []) ∨ ∃ b off c, v = .slice (some ⟨b, off, none⟩) n c ∧ 0 < n ∧ n ≤ c ∧ c ≤ 9223372036854775807 ∧ b < w.heap.size ∧ ∀ j (hj : j < xs.length), w.cell? ⟨b, off + j, none⟩ = some xs[j] := by
  obtain ⟨hl, h⟩ := h
  by_cases hn : n = 0
  · subst hn
    have hx : xs = [] := List.eq_nil_of_length_eq_zero (by simpa using hl)
    rcases h with ⟨rfl, _⟩ | ⟨a, c, rfl, _⟩
    · exact .inl ⟨_, _, rfl, rfl, hx⟩
    · exact .inl ⟨_, _, rfl, rfl, hx⟩
  · rcases h with ⟨rfl, h0⟩ | ⟨a, c, rfl, h1, h2, h3⟩
    · exact absurd h0 hn
    · obtain ⟨b, off, spot⟩ := a
      have h0 : 0 < xs.length := by rw [hl]; exact Nat.mul_pos (by omega) hs
      have hc0 := h3 0 xs[0] (by simp [h0])
      have hspot : spot = none := by simpa [Addr.add] using World.cell?_spot hc0
      subst hspot
      have hlt : b < w.heap.size := World.block_lt_of_cell? w _ (by simpa [Addr.add] using hc0)
      refine .inr ⟨b, off, c, rfl, by omega, h1, by unfold maxLen at h2; omega, hlt, fun j hj => ?_⟩
      have := h3 j xs[j] (by simp [hj])
      rwa [add_plain] at this

theorem Rd.mk {w : World} {size : Nat} {b off n c : Nat} {xs : List Value} (hl : xs.length = n * size) (h1 : n ≤ c) (h2 : c ≤ maxLen) (h : ∀ j (hj : j < xs.length), w.cell? ⟨b, off + j, none⟩ = some xs[j]) : Rd w size (.slice (some ⟨b, off, none⟩) n c) n xs := by
  refine ⟨hl, .inr ⟨_, _, rfl, h1, h2, fun j u hu => ?_⟩⟩
  obtain ⟨hj, rfl⟩ := List.getElem?_eq_some_iff.1 hu
  rw [add_plain]; exact h j hj

theorem Rd.nil (w : World) (size : Nat) : Rd w size (.slice none 0 0) 0 [] := ⟨by simp, .inl ⟨rfl, rfl⟩⟩

theorem Rd.of_own {w : World} {base : Nat} {e : TypeId} {size : Nat} {v : Value} {n : Nat} {xs : List Value} (h : w.ownsRow base e size v n xs) : Rd w size v n xs := by
  refine ⟨h.1, ?_⟩
  rcases h.2 with hn | ⟨g, cap, cur, rfl, _, hg, h1, h2, h3, h4⟩
  · exact .inl hn
  · refine .inr ⟨_, _, rfl, h1, h2, fun j u hu => ?_⟩
    have := h.cells (g := g) rfl j u hu
    exact this

theorem Rd.later {w w' : World} {size : Nat} {v : Value} {n : Nat} {xs : List Value} (h : Rd w size v n xs) (hb : Below w.heap.size w w') : Rd w' size v n xs := by
  refine ⟨h.1, ?_⟩
  rcases h.2 with hn | ⟨a, cap, rfl, h1, h2, h3⟩
  · exact .inl hn
  · refine .inr ⟨a, cap, rfl, h1, h2, fun j u hu => ?_⟩
    have hc := h3 j u hu
    rw [hb.cell (World.block_lt_of_cell? w _ hc)]; exact hc

theorem Rd.kept {w w' : World} {row : Option Nat} {size : Nat} {v : Value} {n : Nat} {xs : List Value} (h : Rd w size v n xs) (hg : w.grownBy w' row) (hne : v.ownBlock = none ∨ v.ownBlock ≠ row) : Rd w' size v n xs := by
  refine ⟨h.1, ?_⟩
  rcases h.2 with hn | ⟨a, cap, rfl, h1, h2, h3⟩
  · exact .inl hn
  · refine .inr ⟨a, cap, rfl, h1, h2, fun j u hu => ?_⟩
    have hc := h3 j u hu
    exact hg.cell hc (by have e : (a.add j).block = a.block := by unfold Addr.add; split <;> rfl
                         rw [e]; simpa [Value.ownBlock] using hne)

theorem Rd.same {w w' : World} {size : Nat} {v : Value} {n : Nat} {xs : List Value} (h : Rd w size v n xs) (hs : ∀ k, v.ownBlock = some k → w'.heap[k]? = w.heap[k]?) : Rd w' size v n xs := by
  refine ⟨h.1, ?_⟩
  rcases h.2 with hn | ⟨a, cap, rfl, h1, h2, h3⟩
  · exact .inl hn
  · refine .inr ⟨a, cap, rfl, h1, h2, fun j u hu => ?_⟩
    have hc := h3 j u hu
    have e : (a.add j).block = a.block := by unfold Addr.add; split <;> rfl
    rw [World.cell?_of_block (w := w) (by rw [e]; exact hs a.block rfl)]; exact hc

theorem Rd.alloc {w : World} {size : Nat} {v : Value} {n : Nat} {xs : List Value} (h : Rd w size v n xs) (o : Obj) : Rd (w.alloc o) size v n xs :=
  h.later ((Below.refl _ _).alloc (Nat.le_refl _) o)
theorem Rd.drew {w : World} {size : Nat} {v : Value} {n : Nat} {xs : List Value} (h : Rd w size v n xs) : Rd w.drew size v n xs := h

theorem add_block (a : Addr) (j : Nat) : (a.add j).block = a.block := by unfold Addr.add; split <;> rfl

theorem add_add' (a : Addr) (i j : Nat) : (a.add i).add j = a.add (i + j) := by
  unfold Addr.add; (repeat' split) <;> first | omega | (simp_all; done) | (simp_all; omega)

/-- The first k elements. -/
theorem Rd.take {w : World} {size : Nat} {a : Option Addr} {n c k : Nat} {xs : List Value} (h : Rd w size (.slice a n c) n xs) (hk : k ≤ n) : Rd w size (.slice a k c) k (xs.take (k * size)) := by
  refine ⟨by rw [List.length_take, h.1]; exact Nat.min_eq_left (Nat.mul_le_mul_right _ hk), ?_⟩
  rcases h.2 with ⟨hv, rfl⟩ | ⟨a', cap, hv, h1, h2, h3⟩
  · simp at hv; obtain ⟨rfl, rfl⟩ := hv
    obtain rfl : k = 0 := by omega
    exact .inl ⟨rfl, rfl⟩
  · simp at hv; obtain ⟨rfl, rfl⟩ := hv
    refine .inr ⟨a', _, rfl, by omega, h2, fun j u hu => h3 j u ?_⟩
    rw [List.getElem?_take] at hu
    split at hu
    · exact hu
    · cases hu

/-- Append, of whatever can be read, to a slice of the call's own. -/
theorem wpList_append_own_rd {P : Program} (w : World) {ops : Array Oper} {rest : List Oper} {o : Oper} {a : Act} {Q : Exit → Act → World → Prop} (hgd : o.guard = none) (s x : Operand) (t : TypeId)
    (ho : o.op = .call { callee := .builtin .append, args := #[s, x], argTypes := #[t, t] })
    (base : Nat) (e : TypeId) (i : TypeInfo) (z : Value) (size bytes : Nat) (ht : P.underlying t = some (.slice e)) (hi : P.info? e = some i) (hz : i.zero = some z)
    (hsize : i.size = size) (hby : i.bytes = bytes) (hzs : z.cells.size = size) (hsz : 0 < size)
    (v : Value) (n : Nat) (xs : List Value) (hs : a.eval s = v) (hown : w.ownsRow base e size v n xs)
    (vx : Value) (m : Nat) (news : List Value) (hx : a.eval x = vx) (hr : Rd w size vx m news) (h1 : ∀ u ∈ news, u.oneCell' = true)
    (h63 : n + m ≤ maxLen) (hbytes : (n + m) * bytes ≤ 140737488355328) (hbase : base ≤ w.heap.size)
    (h : ∀ v' w', w'.ownsRow base e size v' (n + m) (xs ++ news) → w.grownBy w' v.ownBlock → wpList P ops Q rest (a.put o.dst v') w') : wpList P ops Q (o :: rest) a w := by
  rcases hr.2 with ⟨rfl, rfl⟩ | ⟨ad, c, rfl, _, _, hc⟩
  · have hnw : news = [] := List.eq_nil_of_length_eq_zero (by simpa using hr.1)
    subst hnw
    refine wpList_append_own_none hgd s x t ho base e i size ht hi v n xs hs hown hx ?_
    exact h v w (by simpa using hown) (World.grownBy.refl _ _)
  · exact wpList_append_own w hgd s x t ho base e i z size bytes ht hi hz hsize hby hzs hsz v n xs hs hown ad m c news hx hr.1 hc h1 h63 hbytes hbase (fun v' w' h2 h3 _ => h v' w' h2 h3)

theorem oneInts (k : IntKind) (zs : List Int) : ∀ u ∈ zs.map (Value.int k), u.oneCell' = true := ints_oneCell k zs

/-! ### bytes -/
def isB (l : List Int) : Prop := ∀ x ∈ l, 0 ≤ x ∧ x ≤ 255

def RdB (w : World) (v : Value) (l : List Int) : Prop := Rd w 1 v l.length (l.map (Value.int .u8))

theorem RdB.split {w : World} {v : Value} {l : List Int} (h : RdB w v l) :
    (∃ a c, v = .slice a 0 c ∧ l = []) ∨ ∃ b off c, v = .slice (some ⟨b, off, none⟩) l.length c ∧ 0 < l.length ∧ l.length ≤ c ∧ c ≤ 9223372036854775807 ∧ b < w.heap.size ∧ ∀ j, j < l.length → w.cell? ⟨b, off + j, none⟩ = some (.int .u8 (l.getD j 0)) := by
  rcases Rd.split h (by omega) with ⟨a, c, rfl, h0, _⟩ | ⟨b, off, c, rfl, h1, h2, h3, h4, h5⟩
  · exact .inl ⟨a, c, rfl, List.eq_nil_of_length_eq_zero h0⟩
  · refine .inr ⟨b, off, c, rfl, h1, h2, h3, h4, fun j hj => ?_⟩
    rw [h5 j (by simpa using hj)]
    simp [hj]

theorem strOf_nil : strOfNums [] = ByteArray.empty := rfl

theorem run_convert_rdB {P : Program} {w : World} {v : Value} {l : List Int} (h : RdB w v l) {src dst e : TypeId} (hs : P.underlying src = some (.slice e)) (he : P.underlying e = some (.int .u8)) (hd : P.underlying dst = some .string) :
    (convert src dst v).run P w = .ok (.string (strOfNums l)) w := by
  rcases Rd.split h (by omega) with ⟨a, c, rfl, h0, _⟩ | ⟨b, off, c, rfl, h1, h2, h3, h4, h5⟩
  · have hl : l = [] := List.eq_nil_of_length_eq_zero h0
    subst hl
    cases a with
    | none => exact run_convert_bytes_nil w src e hs he 0 c dst hd
    | some a =>
      have hlc : (loadCells a 0).run P w = .ok #[] w := by
        have := run_loadCells_list (P := P) w a [] (fun j v hj => by simp at hj)
        simpa using this
      rw [run_convert_bytes_string w src dst e _ 0 c hs he hd, run_bytesToString w a 0 c [] (by simpa using hlc)]
      rfl
  · exact run_convert_bytes_arg w src e hs he b off l.length c l rfl (fun i hi => by
      rw [h5 i (by simpa using hi)]; simp [hi]) dst hd

theorem strOfNums_inj {l m : List Int} (hl : isB l) (hm : isB m) (h : strOfNums l = strOfNums m) : l = m := by
  have h2 : (strOfNums l).data.toList = (strOfNums m).data.toList := by rw [h]
  rw [strOfNums_data, strOfNums_data] at h2
  have hlen : l.length = m.length := by simpa using congrArg List.length h2
  apply List.ext_getElem hlen
  intro i h3 h4
  have h5 : (l.map fun n => UInt8.ofNat n.toNat)[i]'(by simpa using h3) = (m.map fun n => UInt8.ofNat n.toNat)[i]'(by simpa using h4) := by simp only [h2]
  simp only [List.getElem_map] at h5
  have b1 := hl _ (List.getElem_mem h3)
  have b2 := hm _ (List.getElem_mem h4)
  have h6 := congrArg UInt8.toNat h5
  simp only [UInt8.toNat_ofNat'] at h6
  omega

def eqL (l m : List Int) : Bool := decide (l = m)
theorem eqL_str {l m : List Int} (hl : isB l) (hm : isB m) : ((strOfNums l).toList == (strOfNums m).toList) = eqL l m := by
  unfold eqL
  by_cases h : l = m
  · subst h; simp
  · have : (strOfNums l).toList ≠ (strOfNums m).toList := fun hh => h (strOfNums_inj hl hm (by
      rw [ByteArray.toList_eq, ByteArray.toList_eq] at hh
      generalize strOfNums l = a at *
      generalize strOfNums m = b at *
      obtain ⟨⟨x⟩⟩ := a
      obtain ⟨⟨y⟩⟩ := b
      simp at hh
      rw [hh]))
    simp [h, this]

end Go.Proofs.Ytgjmdcbdkdmceaa

/- Tools over any program, on: append of whatever can be read, as a step of a region that draws its order. -/
namespace Go.Proofs.Ytgjmdcbdkdmceaa
open Go.RowKit

theorem run_append_own_rd {P : Program} (w : World) (base : Nat) (t ty e : TypeId) (i : TypeInfo) (z : Value) (size bytes : Nat) (ht : P.underlying t = some (.slice e)) (hi : P.info? e = some i) (hz : i.zero = some z)
    (hsize : i.size = size) (hby : i.bytes = bytes) (hzs : z.cells.size = size) (hsz : 0 < size)
    (v : Value) (n : Nat) (xs : List Value) (hown : w.ownsRow base e size v n xs)
    (vx : Value) (m : Nat) (news : List Value) (hr : Rd w size vx m news) (h1 : ∀ u ∈ news, u.oneCell' = true)
    (h63 : n + m ≤ maxLen) (hbytes : (n + m) * bytes ≤ 140737488355328) (hbase : base ≤ w.heap.size) :
    ∃ v' w', (Builtin.append_ #[t, t] ty #[v, vx]).run P w = .ok v' w' ∧ w'.ownsRow base e size v' (n + m) (xs ++ news) ∧ w.grownBy w' v.ownBlock := by
  rcases hr.2 with ⟨rfl, rfl⟩ | ⟨ad, c, rfl, _, _, hc⟩
  · have hnw : news = [] := List.eq_nil_of_length_eq_zero (by simpa using hr.1)
    subst hnw
    have hrun := run_append_owned_none (P := P) (w := w) base t ty e i size ht hi v n xs hown
    exact ⟨v, w, hrun, by simpa using hown, World.grownBy.refl _ _⟩
  · obtain ⟨v', w', hr', h2, h3, _⟩ := run_append_own (P := P) w base t ty e i z size bytes ht hi hz hsize hby hzs hsz v n xs hown ad m c news hr.1 hc h1 h63 hbytes hbase
    exact ⟨v', w', hr', h2, h3⟩

/-- Append, of whatever can be read, to a slice of the call's own: something is in it then, so its block is told. -/
theorem wpList_append_own_g {P : Program} (w : World) {ops : Array Oper} {rest : List Oper} {o : Oper} {a : Act} {Q : Exit → Act → World → Prop} (hgd : o.guard = none) (s x : Operand) (t : TypeId)
    (ho : o.op = .call { callee := .builtin .append, args := #[s, x], argTypes := #[t, t] })
    (base : Nat) (e : TypeId) (i : TypeInfo) (z : Value) (size bytes : Nat) (ht : P.underlying t = some (.slice e)) (hi : P.info? e = some i) (hz : i.zero = some z)
    (hsize : i.size = size) (hby : i.bytes = bytes) (hzs : z.cells.size = size) (hsz : 0 < size)
    (v : Value) (n : Nat) (xs : List Value) (hs : a.eval s = v) (hown : w.ownsRow base e size v n xs)
    (vx : Value) (m : Nat) (news : List Value) (hx : a.eval x = vx) (hr : Rd w size vx m news) (h1 : ∀ u ∈ news, u.oneCell' = true)
    (N : Nat) (hN : n + m = N) (hpos : 0 < N) (h63 : N ≤ maxLen) (hbytes : N * bytes ≤ 140737488355328) (hbase : base ≤ w.heap.size)
    (h : ∀ g cap w', w'.ownsRow base e size (.slice (some ⟨g, 0, none⟩) N cap) N (xs ++ news) → w.grownBy w' v.ownBlock → wpList P ops Q rest (a.put o.dst (.slice (some ⟨g, 0, none⟩) N cap)) w') : wpList P ops Q (o :: rest) a w := by
  subst hN
  refine wpList_append_own_rd w hgd s x t ho base e i z size bytes ht hi hz hsize hby hzs hsz v n xs hs hown vx m news hx hr h1 h63 hbytes hbase (fun v' w' h2 h3 => ?_)
  rcases h2.2 with ⟨_, h4⟩ | ⟨g, cap, cur, rfl, _⟩
  · omega
  · exact h g cap w' h2 h3

theorem step_append_own_rd {P : Program} {ops : Array Oper} {o : Oper} {a : Act} {w : World} {K : Act → World → Prop} {Q : Exit → Act → World → Prop} {E : Prop}
    (hg : o.guard = none) (s x : Operand) (t : TypeId) (hop : o.op = Op.call { callee := Callee.builtin Builtin.append, args := #[s, x], argTypes := #[t, t] })
    (base : Nat) (e : TypeId) (i : TypeInfo) (z : Value) (size bytes : Nat) (ht : P.underlying t = some (.slice e)) (hi : P.info? e = some i) (hz : i.zero = some z)
    (hsize : i.size = size) (hby : i.bytes = bytes) (hzs : z.cells.size = size) (hsz : 0 < size)
    (v : Value) (n : Nat) (xs : List Value) (hs : a.eval s = v) (hown : w.ownsRow base e size v n xs)
    (vx : Value) (m : Nat) (news : List Value) (hx : a.eval x = vx) (hr : Rd w size vx m news) (h1 : ∀ u ∈ news, u.oneCell' = true)
    (h63 : n + m ≤ maxLen) (hbytes : (n + m) * bytes ≤ 140737488355328) (hbase : base ≤ w.heap.size)
    (hK : ∀ v' w', w'.ownsRow base e size v' (n + m) (xs ++ news) → w.grownBy w' v.ownBlock → K (a.put o.dst v') w') :
    if Region.wanted o (yielded ops a.tmps) = true then Oper.wp P o a w K Q else E := by
  have hw : Region.wanted o (yielded ops a.tmps) = true := by simp [Region.wanted, hg]
  rw [if_pos hw]
  obtain ⟨v', w', hrun, h2, h3⟩ := run_append_own_rd (P := P) w base t o.type e i z size bytes ht hi hz hsize hby hzs hsz v n xs hown vx m news hr h1 h63 hbytes hbase
  unfold Oper.wp
  simp [execOp, hop, resolve, invoke, builtin, hs, hx, hrun, Result.andThen]
  exact hK v' w' h2 h3

/-- What stands behind the first k elements. -/
theorem Rd.drop {w : World} {size b off n c k : Nat} {xs : List Value} (h : Rd w size (.slice (some ⟨b, off, none⟩) n c) n xs) (hk : k ≤ n) (_hc : k ≠ c) : Rd w size (.slice (some ⟨b, off + k * size, none⟩) (n - k) (c - k)) (n - k) (xs.drop (k * size)) := by
  obtain ⟨hl, h⟩ := h
  refine ⟨by rw [List.length_drop, hl, Nat.sub_mul], ?_⟩
  rcases h with ⟨h1, _⟩ | ⟨a, cap, h1, h2, h3, h4⟩
  · cases h1
  · cases h1
    refine .inr ⟨_, _, rfl, by omega, by omega, fun j u hu => ?_⟩
    rw [List.getElem?_drop] at hu
    have := h4 _ u hu
    rw [add_plain] at this ⊢
    rw [Nat.add_assoc]; exact this
theorem Rd.drop_all {w : World} {size : Nat} {a : Option Addr} {n c : Nat} {xs : List Value} (h : Rd w size (.slice a n c) n xs) : Rd w size (.slice a 0 0) 0 (xs.drop (n * size)) := by
  refine ⟨by rw [List.length_drop, h.1]; simp, ?_⟩
  cases a with
  | none => exact .inl ⟨rfl, rfl⟩
  | some a => exact .inr ⟨a, 0, rfl, Nat.le_refl _, Nat.zero_le _, fun j u hu => by rw [List.drop_of_length_le (by rw [h.1]; exact Nat.le_refl _)] at hu; cases hu⟩

theorem RdB.dropTail {w : World} {b off c k n : Nat} {l : List Int} (h : RdB w (.slice (some ⟨b, off, none⟩) n c) l) (hn : n = l.length) (hk : k ≤ n) (hc : k ≠ c) : RdB w (.slice (some ⟨b, off + k, none⟩) (n - k) (c - k)) (l.drop k) := by
  subst hn
  have := Rd.drop h hk hc
  unfold RdB
  rw [List.length_drop, List.map_drop]
  simpa using this
theorem RdB.dropNone {w : World} {a : Option Addr} {c n : Nat} {l : List Int} (h : RdB w (.slice a n c) l) (hn : n = l.length) : RdB w (.slice a 0 0) (l.drop n) := by
  subst hn
  have := Rd.drop_all h
  unfold RdB
  rw [List.length_drop, List.map_drop, Nat.sub_self]
  simpa using this

/-- 's[l:]', wherever it begins. -/
theorem run_slice_from {P : Program} (t e : TypeId) {i : TypeInfo} {size : Nat} (ht : P.underlying t = some (.slice e)) (hi : P.info? e = some i) (hs : i.size = size) (a : Option Addr) (len cap l : Nat) (li : Int) (hli : li = l) (hl : l ≤ len) (w : World) :
    (Instr.slice t (.slice a len cap) (some (.int .i64 li)) none none).run P w = .ok (.slice (if cap = l then a else a.map (·.add (l * size))) (len - l) (cap - l)) w := by
  subst hli
  have hb : (0 : Int) ≤ (l : Int) ∧ (l : Int) ≤ (len : Int) := by omega
  have h2 : (Instr.sliceBound (.int .i64 (l : Int)) len BoundsCode.sliceB).run P w = .ok l w := by
    simp [Instr.sliceBound, asIntOf, hb.2]
  simp [Instr.slice, run_underlying ht, Instr.sliceBounds, h2, sizeOf, typeInfo, hi, hs]
/-- 's[l:h]'. -/
theorem run_slice_mid {P : Program} (t e : TypeId) {i : TypeInfo} {size : Nat} (ht : P.underlying t = some (.slice e)) (hi : P.info? e = some i) (hs : i.size = size) (a : Option Addr) (len cap l h : Nat) (li hj : Int) (hli : li = l) (hhj : hj = h) (hl : l ≤ h) (hh : h ≤ cap) (w : World) :
    (Instr.slice t (.slice a len cap) (some (.int .i64 li)) (some (.int .i64 hj)) none).run P w = .ok (.slice (if cap = l then a else a.map (·.add (l * size))) (h - l) (cap - l)) w := by
  subst hli hhj
  have hb : (0 : Int) ≤ (l : Int) ∧ (l : Int) ≤ (h : Int) := by omega
  have hb2 : (0 : Int) ≤ (h : Int) ∧ (h : Int) ≤ (cap : Int) := by omega
  have h1 : (Instr.sliceBound (.int .i64 (h : Int)) cap BoundsCode.sliceAcap).run P w = .ok h w := by
    simp [Instr.sliceBound, asIntOf, hb2.2]
  have h2 : (Instr.sliceBound (.int .i64 (l : Int)) h BoundsCode.sliceB).run P w = .ok l w := by
    simp [Instr.sliceBound, asIntOf, hb.2]
  simp [Instr.slice, run_underlying ht, Instr.sliceBounds, h1, h2, sizeOf, typeInfo, hi, hs]
/-- 's[:h]'. -/
theorem run_slice_to {P : Program} (t e : TypeId) {i : TypeInfo} {size : Nat} (ht : P.underlying t = some (.slice e)) (hi : P.info? e = some i) (_hs : i.size = size) (a : Option Addr) (len cap h : Nat) (hj : Int) (hhj : hj = h) (hh : h ≤ cap) (w : World) :
    (Instr.slice t (.slice a len cap) none (some (.int .i64 hj)) none).run P w = .ok (.slice a h cap) w := by
  subst hhj
  have hb2 : (0 : Int) ≤ (h : Int) ∧ (h : Int) ≤ (cap : Int) := by omega
  have h1 : (Instr.sliceBound (.int .i64 (h : Int)) cap BoundsCode.sliceAcap).run P w = .ok h w := by
    simp [Instr.sliceBound, asIntOf, hb2.2]
  cases a <;> simp [Instr.slice, run_underlying ht, Instr.sliceBounds, h1, sizeOf, typeInfo, hi, Addr.add]

/-- A slice of a slice of bytes, by the run's own value. -/
theorem rdB_mid {w : World} {a : Option Addr} {len cap l h : Nat} {xs : List Int} (hr : RdB w (.slice a len cap) xs) (hn : len = xs.length) (hl : l ≤ h) (hh : h ≤ len) :
    RdB w (.slice (if cap = l then a else a.map (·.add (l * 1))) (h - l) (cap - l)) ((xs.take h).drop l) := by
  subst hn
  have h1 := Rd.take (k := h) hr hh
  have e1 : ((xs.take h).drop l).length = h - l := by simp; omega
  unfold RdB
  rw [e1]
  by_cases hc : cap = l
  · rw [if_pos hc]
    have h0 : h = l := by
      rcases hr.2 with ⟨h2, h3⟩ | ⟨a', cap', h2, h3, _⟩
      · omega
      · simp only [Value.slice.injEq] at h2; omega
    subst h0
    have := Rd.drop_all h1
    rw [Nat.sub_self, show cap - h = 0 by omega]
    simpa using this
  · rw [if_neg hc]
    rcases h1.2 with ⟨h2, h3⟩ | ⟨a', cap', h2, h3, h4, h5⟩
    · simp only [Value.slice.injEq] at h2
      obtain ⟨rfl, rfl, rfl⟩ := h2
      omega
    · simp only [Value.slice.injEq] at h2
      obtain ⟨rfl, _, rfl⟩ := h2
      refine ⟨by simp; omega, .inr ⟨a'.add (l * 1), cap - l, rfl, by omega, by omega, fun j u hu => ?_⟩⟩
      rw [add_add']
      apply h5
      rw [← hu]
      simp only [Nat.mul_one, List.map_drop, List.map_take, List.getElem?_drop]

end Go.Proofs.Ytgjmdcbdkdmceaa

/- Memory told by tags: which block belongs to what; rows of the call's own, and what stays of them. -/
namespace Go.Proofs.Ytgjmdcbdkdmceaa.Mach
open Go.RowKit

section
variable {w w' w'' : World} {base K n : Nat} {e : TypeId} {v : Value} {xs : List Value}

theorem oblk (h : w.ownsRow base e K v n xs) : ∀ k, v.ownBlock = some k → base ≤ k ∧ ∃ cur, w.heap[k]? = some (.cells cur e (0, 0)) := by
  intro k hk
  rcases h.2 with ⟨rfl, _⟩ | ⟨g, cap, cur, rfl, h1, h2, _⟩
  · cases hk
  · simp [Value.ownBlock] at hk; subst hk; exact ⟨h1, cur, h2⟩
theorem olt (h : w.ownsRow base e K v n xs) : ∀ k, v.ownBlock = some k → k < w.heap.size := fun k hk => by
  obtain ⟨_, cur, hc⟩ := oblk h k hk
  exact (Array.getElem?_eq_some_iff.1 hc).1
theorem osame (h : w.ownsRow base e K v n xs) (hk : ∀ k, v.ownBlock = some k → w'.heap[k]? = w.heap[k]?) : w'.ownsRow base e K v n xs := by
  refine ⟨h.1, ?_⟩
  rcases h.2 with h1 | ⟨g, cap, cur, rfl, h1, h2, h3⟩
  · exact .inl h1
  · exact .inr ⟨g, cap, cur, rfl, h1, (hk g rfl).trans h2, h3⟩
theorem odown (h : w.ownsRow base e K v n xs) {b : Nat} (hb : b ≤ base) : w.ownsRow b e K v n xs := by
  refine ⟨h.1, ?_⟩
  rcases h.2 with h1 | ⟨g, cap, cur, rfl, h1, h2⟩
  · exact .inl h1
  · exact .inr ⟨g, cap, cur, rfl, Nat.le_trans hb h1, h2⟩
/-- A row's base may be told anew, from its block. -/
theorem obase (h : w.ownsRow base e K v n xs) {b : Nat} (hb : ∀ k, v.ownBlock = some k → b ≤ k) : w.ownsRow b e K v n xs := by
  refine ⟨h.1, ?_⟩
  rcases h.2 with h1 | ⟨g, cap, cur, rfl, h1, h2⟩
  · exact .inl h1
  · exact .inr ⟨g, cap, cur, rfl, hb g rfl, h2⟩
theorem oset {g c : Nat} (h : w.ownsRow base e K (.slice (some ⟨g, 0, none⟩) n c) n xs) (o : Nat) (u : Value) : (w.setCell ⟨g, o, none⟩ u).ownsRow base e K (.slice (some ⟨g, 0, none⟩) n c) n (xs.set o u) := by
  obtain ⟨hl, h2⟩ := h
  rcases h2 with ⟨h1, _⟩ | ⟨g', cap, cur, h1, hb, hg, h3, h4, h5, h6⟩
  · cases h1
  · cases h1
    refine ⟨by simpa using hl, .inr ⟨g, c, cur.setIfInBounds o u, rfl, hb, ?_, h3, h4, by simpa using h5, ?_⟩⟩
    · simp [World.setCell, Array.getElem?_modify, hg]
    · rw [← h6, Array.toList_setIfInBounds, List.take_set]
/-- The first k elements. -/
theorem ocut {a : Option Addr} {c k : Nat} (h : w.ownsRow base e K (.slice a n c) n xs) (hk : k ≤ n) : w.ownsRow base e K (.slice a k c) k (xs.take (k * K)) := by
  obtain ⟨hl, h2⟩ := h
  refine ⟨by rw [List.length_take, hl]; exact Nat.min_eq_left (Nat.mul_le_mul_right _ hk), ?_⟩
  rcases h2 with ⟨h1, h0⟩ | ⟨g', cap, cur, h1, hb, hg, h3, h4, h5, h6⟩
  · cases h1
    exact .inl ⟨by have : k = 0 := by omega
                   rw [this], by omega⟩
  · cases h1
    refine .inr ⟨g', c, cur, rfl, hb, hg, by omega, h4, h5, ?_⟩
    rw [← h6, List.take_take, Nat.min_eq_left (Nat.mul_le_mul_right _ hk)]
/-- Nothing in it; or a block. -/
theorem osplit (h : w.ownsRow base e K v n xs) (hn : 0 < n) : ∃ g c, v = .slice (some ⟨g, 0, none⟩) n c ∧ g < w.heap.size ∧ n ≤ c ∧ (∃ cur, w.heap[g]? = some (.cells cur e (0, 0))) ∧ ∀ j u, xs[j]? = some u → w.cell? ⟨g, j, none⟩ = some u := by
  have hc := fun g hg => h.cells (g := g) hg
  rcases h.2 with ⟨_, h1⟩ | ⟨g, cap, cur, rfl, h1, h2, h3, _⟩
  · omega
  · refine ⟨g, cap, rfl, (Array.getElem?_eq_some_iff.1 h2).1, h3, ⟨cur, h2⟩, fun j u hu => ?_⟩
    have := hc g rfl j u hu
    rwa [add_plain, Nat.zero_add] at this
theorem oshape (h : w.ownsRow base e K v n xs) : ∃ a c, v = .slice a n c ∧ n ≤ c ∧ c ≤ maxLen := by
  rcases h.2 with ⟨rfl, rfl⟩ | ⟨g, cap, cur, rfl, h1, h2, h3, h4, _⟩
  · exact ⟨none, 0, rfl, Nat.le_refl _, Nat.zero_le _⟩
  · exact ⟨_, cap, rfl, h3, h4⟩
theorem ofrz {g : Nat} {a : Nat} {c : Nat} (h : w.ownsRow base e K (.slice (some ⟨g, 0, none⟩) a c) n xs) (i : Nat) : w.frozen? ⟨g, i, none⟩ = false := by
  obtain ⟨_, cur, hc⟩ := oblk h g rfl
  simp [World.frozen?, hc]
end

/-- A value's block, if it has one, has the tag c. -/
def Tv (t : Nat → Nat) (v : Value) (c : Nat) : Prop := ∀ k, v.ownBlock = some k → t k = c
theorem Tv.none (t : Nat → Nat) (c : Nat) : Tv t (.slice none 0 0) c := fun _ h => by cases h
def upd (t : Nat → Nat) (g c : Nat) : Nat → Nat := fun k => if k = g then c else t k
def updV (t : Nat → Nat) (v : Value) (c : Nat) : Nat → Nat := match v.ownBlock with | some g => upd t g c | none => t
theorem upd_at (t : Nat → Nat) (g c : Nat) : upd t g c g = c := if_pos rfl
theorem upd_ne {t : Nat → Nat} {g c k : Nat} (h : k ≠ g) : upd t g c k = t k := if_neg h
theorem updV_self (t : Nat → Nat) (v : Value) (c : Nat) : Tv (updV t v c) v c := fun k hk => by simp [updV, hk, upd]

/-- A row that has its tag. -/
structure Row (w : World) (t : Nat → Nat) (base : Nat) (e : TypeId) (K : Nat) (v : Value) (n : Nat) (xs : List Value) (c : Nat) : Prop where
  own : w.ownsRow base e K v n xs
  tag : Tv t v c

/-- Only blocks of one tag turn. -/
structure Only (w w' : World) (t : Nat → Nat) (c : Nat) : Prop where
  os : w'.os = w.os
  tape : w'.tape = w.tape
  output : w'.output = w.output
  size : w.heap.size ≤ w'.heap.size
  stay : ∀ k, k < w.heap.size → t k ≠ c → w'.heap[k]? = w.heap[k]?

section
variable {w w' w'' : World} {t t' t'' : Nat → Nat} {base K n c d : Nat} {e : TypeId} {v : Value} {xs : List Value}
theorem Only.refl (w : World) (t : Nat → Nat) (c : Nat) : Only w w t c := ⟨rfl, rfl, rfl, Nat.le_refl _, fun _ _ _ => rfl⟩
theorem Only.trans (h : Only w w' t c) (k : Only w' w'' t c) : Only w w'' t c := ⟨k.os.trans h.os, k.tape.trans h.tape, k.output.trans h.output, Nat.le_trans h.size k.size, fun j hj hn => (k.stay j (Nat.lt_of_lt_of_le hj h.size) hn).trans (h.stay j hj hn)⟩
theorem Only.below (h : Below w.heap.size w w') : Only w w' t c := ⟨h.os, h.tape, h.output, h.size, fun k hk _ => h.block k hk⟩
theorem Only.grown {row : Option Nat} (h : w.grownBy w' row) (hr : ∀ k, row = some k → t k = c) : Only w w' t c := ⟨h.os, h.tape, h.output, h.size, fun k hk hn => h.block k hk fun e => hn (hr k e.symm)⟩
theorem Only.set {g i : Nat} (u : Value) (hg : t g = c) : Only w (w.setCell ⟨g, i, none⟩ u) t c := ⟨rfl, rfl, rfl, by rw [World.size_setCell]; exact Nat.le_refl _, fun k _ hn => Below.heap_setCell _ _ _ _ (fun e => hn (by rw [show k = g from e]; exact hg))⟩
theorem Row.lt (h : Row w t base e K v n xs c) : ∀ k, v.ownBlock = some k → k < w.heap.size ∧ t k = c := fun k hk => ⟨olt h.own k hk, h.tag k hk⟩
theorem Row.only (h : Row w t base e K v n xs d) (ho : Only w w' t c) (hd : d ≠ c) : Row w' t base e K v n xs d :=
  ⟨osame h.own fun k hk => ho.stay k (olt h.own k hk) (by rw [h.tag k hk]; exact hd), h.tag⟩
theorem Row.below (h : Row w t base e K v n xs d) (hb : Below w.heap.size w w') : Row w' t base e K v n xs d := ⟨osame h.own fun k hk => hb.block k (olt h.own k hk), h.tag⟩
/-- A block of the tag c, or a new one, is told anew. -/
theorem Row.upd (h : Row w t base e K v n xs d) {g : Nat} {c' : Nat} (hg : w.heap.size ≤ g ∨ t g = c) (hd : d ≠ c) : Row w (Mach.upd t g c') base e K v n xs d :=
  ⟨h.own, fun k hk => by
    have h1 := olt h.own k hk
    have h2 := h.tag k hk
    rw [upd_ne (by rintro rfl; rcases hg with h3 | h3 <;> omega)]; exact h2⟩
theorem Row.updV (h : Row w t base e K v n xs d) {u : Value} {c' : Nat} (hg : ∀ g, u.ownBlock = some g → w.heap.size ≤ g ∨ t g = c) (hd : d ≠ c) : Row w (Mach.updV t u c') base e K v n xs d := by
  unfold Mach.updV
  cases hu : u.ownBlock with
  | none => exact h
  | some g => exact h.upd (hg g hu) hd
theorem Row.nil (w : World) (t : Nat → Nat) (base : Nat) (e : TypeId) (K c : Nat) : Row w t base e K (.slice none 0 0) 0 [] c := ⟨World.ownsRow_nil _ _ _ _, Tv.none _ _⟩

/-- What a call leaves: blocks that aren't its own (tags 0), and what it reads (tags 1 and 2), stay; what is its own remains its own. -/
structure Fx (w w' : World) (t t' : Nat → Nat) : Prop where
  os : w'.os = w.os
  tape : w'.tape = w.tape
  output : w'.output = w.output
  size : w.heap.size ≤ w'.heap.size
  stay : ∀ k, k < w.heap.size → t k ≤ 2 → w'.heap[k]? = w.heap[k]?
  keep : ∀ k, k < w.heap.size → (t k ≤ 2 → t' k = t k) ∧ (2 < t k → 2 < t' k)
theorem Fx.refl (w : World) (t : Nat → Nat) : Fx w w t t := ⟨rfl, rfl, rfl, Nat.le_refl _, fun _ _ _ => rfl, fun _ _ => ⟨fun _ => rfl, fun h => h⟩⟩
theorem Fx.trans (h : Fx w w' t t') (k : Fx w' w'' t' t'') : Fx w w'' t t'' :=
  ⟨k.os.trans h.os, k.tape.trans h.tape, k.output.trans h.output, Nat.le_trans h.size k.size,
    fun j hj hn => (k.stay j (Nat.lt_of_lt_of_le hj h.size) (by rw [(h.keep j hj).1 hn]; exact hn)).trans (h.stay j hj hn),
    fun j hj => ⟨fun hn => ((k.keep j (Nat.lt_of_lt_of_le hj h.size)).1 (by rw [(h.keep j hj).1 hn]; exact hn)).trans ((h.keep j hj).1 hn), fun hn => (k.keep j (Nat.lt_of_lt_of_le hj h.size)).2 ((h.keep j hj).2 hn)⟩⟩
theorem Fx.only (h : Only w w' t c) (hc : 2 < c) : Fx w w' t t := ⟨h.os, h.tape, h.output, h.size, fun k hk hn => h.stay k hk (by omega), fun _ _ => ⟨fun _ => rfl, fun h => h⟩⟩
theorem Fx.below (h : Below w.heap.size w w') : Fx w w' t t := ⟨h.os, h.tape, h.output, h.size, fun k hk _ => h.block k hk, fun _ _ => ⟨fun _ => rfl, fun h => h⟩⟩
theorem Fx.upd (h : Fx w w' t t') {g c' : Nat} (hg : w'.heap.size ≤ g ∨ 2 < t' g) (hc : 2 < c') : Fx w w' t (Mach.upd t' g c') :=
  ⟨h.os, h.tape, h.output, h.size, h.stay, fun k hk => by
    have h1 := h.keep k hk
    by_cases hkg : k = g
    · subst hkg
      rw [upd_at]
      have h2 := h.size
      refine ⟨fun h3 => ?_, fun _ => hc⟩
      have := h1.1 h3
      rcases hg with h4 | h4 <;> omega
    · rw [upd_ne hkg]; exact h1⟩
theorem Fx.updV (h : Fx w w' t t') {u : Value} {c' : Nat} (hg : ∀ g, u.ownBlock = some g → w'.heap.size ≤ g ∨ 2 < t' g) (hc : 2 < c') : Fx w w' t (Mach.updV t' u c') := by
  unfold Mach.updV
  cases hu : u.ownBlock with
  | none => exact h
  | some g => exact h.upd (hg g hu) hc
theorem Fx.later (h : Fx w w' t t') (hb : Below w'.heap.size w' w'') : Fx w w'' t t' := h.trans (Fx.below hb)
theorem Fx.set (h : Fx w w' t t') {g i : Nat} (u : Value) (hg : 2 < t' g) : Fx w (w'.setCell ⟨g, i, none⟩ u) t t' := h.trans (Fx.only (Only.set u rfl) hg)
theorem Fx.drewN (h : Fx w w' t t') (n : Nat) : Fx w (w'.drewN n) t t' := h.later ⟨rfl, rfl, rfl, Nat.le_refl _, fun _ _ => rfl⟩
/-- As 'upd', the new block being there already. -/
theorem Fx.updN (h : Fx w w' t t') {g c' : Nat} (hg : w.heap.size ≤ g ∨ 2 < t' g) (hc : 2 < c') : Fx w w' t (Mach.upd t' g c') :=
  ⟨h.os, h.tape, h.output, h.size, h.stay, fun k hk => by
    have h1 := h.keep k hk
    by_cases hkg : k = g
    · subst hkg
      rw [upd_at]
      refine ⟨fun h3 => ?_, fun _ => hc⟩
      have := h1.1 h3
      rcases hg with h4 | h4 <;> omega
    · rw [upd_ne hkg]; exact h1⟩
end

/-- Append to a row of the call's own: the block is the old one, or a new one. -/
theorem run_append_f {P : Program} (w : World) (base : Nat) (t ty e : TypeId) (i : TypeInfo) (z : Value) (size bytes : Nat) (ht : P.underlying t = some (.slice e)) (hi : P.info? e = some i) (hz : i.zero = some z)
    (hsize : i.size = size) (hby : i.bytes = bytes) (hzs : z.cells.size = size) (hsz : 0 < size)
    (v : Value) (n : Nat) (xs : List Value) (hown : w.ownsRow base e size v n xs)
    (vx : Value) (m : Nat) (news : List Value) (hr : Rd w size vx m news) (h1 : ∀ u ∈ news, u.oneCell' = true)
    (h63 : n + m ≤ maxLen) (hbytes : (n + m) * bytes ≤ 140737488355328) (hbase : base ≤ w.heap.size) :
    ∃ v' w', (Builtin.append_ #[t, t] ty #[v, vx]).run P w = .ok v' w' ∧ w'.ownsRow base e size v' (n + m) (xs ++ news) ∧ w.grownBy w' v.ownBlock ∧ ∀ g, v'.ownBlock = some g → w.heap.size ≤ g ∨ v.ownBlock = some g := by
  obtain ⟨v', w', hrun, h2, h3⟩ := run_append_own_rd (P := P) w base t ty e i z size bytes ht hi hz hsize hby hzs hsz v n xs hown vx m news hr h1 h63 hbytes hbase
  refine ⟨v', w', hrun, h2, h3, fun g hg => ?_⟩
  rcases hown.2 with ⟨rfl, hn0⟩ | ⟨g0, cap, cur, rfl, hbg, hg0, hnc, hcm, hcs, htake⟩
  · have hown' : w.ownsRow w.heap.size e size (.slice none 0 0) n xs := ⟨hown.1, .inl ⟨rfl, hn0⟩⟩
    obtain ⟨v2, w2, hrun2, h4, _⟩ := run_append_own_rd (P := P) w w.heap.size t ty e i z size bytes ht hi hz hsize hby hzs hsz _ n xs hown' vx m news hr h1 h63 hbytes (Nat.le_refl _)
    rw [hrun] at hrun2
    cases hrun2
    exact .inl (oblk h4 g hg).1
  · rcases hr.2 with ⟨rfl, rfl⟩ | ⟨ad, c, rfl, _, _, hc⟩
    · have hr2 := run_append_owned_none (P := P) (w := w) base t ty e i size ht hi _ n xs hown
      rw [hr2] at hrun
      cases hrun
      exact .inr hg
    · by_cases hroom : n + m ≤ cap
      · subst hsize
        have hfit : n * i.size + news.length ≤ cur.size := by rw [hr.1, hcs, ← Nat.add_mul]; exact Nat.mul_le_mul_right _ hroom
        have hr2 := run_append_room (P := P) w t ty e i ht hi g0 n cap cur hg0 ad m c news hr.1 hc h1 hroom hfit
        rw [hr2] at hrun
        cases hrun
        exact .inr hg
      · subst hsize hby
        have holds : ∀ j u, xs[j]? = some u → w.cell? ((⟨g0, 0, none⟩ : Addr).add j) = some u := hown.cells (g := g0) rfl
        have hr2 := run_append_grow (P := P) w t ty e i z ht hi hz ⟨g0, 0, none⟩ n cap xs hown.1 holds ad m c news hr.1 hc (by omega) (by simp only [maxLen] at h63; omega) (growslice_fits (by omega) hbytes)
        rw [hr2] at hrun
        cases hrun
        simp [Value.ownBlock] at hg
        exact .inl (by omega)

theorem wpList_append_f {P : Program} (w : World) {ops : Array Oper} {rest : List Oper} {o : Oper} {a : Act} {Q : Exit → Act → World → Prop} (hgd : o.guard = none) (s x : Operand) (t : TypeId)
    (ho : o.op = .call { callee := .builtin .append, args := #[s, x], argTypes := #[t, t] })
    (base : Nat) (e : TypeId) (i : TypeInfo) (z : Value) (size bytes : Nat) (ht : P.underlying t = some (.slice e)) (hi : P.info? e = some i) (hz : i.zero = some z)
    (hsize : i.size = size) (hby : i.bytes = bytes) (hzs : z.cells.size = size) (hsz : 0 < size)
    (v : Value) (n : Nat) (xs : List Value) (hs : a.eval s = v) (hown : w.ownsRow base e size v n xs)
    (vx : Value) (m : Nat) (news : List Value) (hx : a.eval x = vx) (hr : Rd w size vx m news) (h1 : ∀ u ∈ news, u.oneCell' = true)
    (h63 : n + m ≤ maxLen) (hbytes : (n + m) * bytes ≤ 140737488355328) (hbase : base ≤ w.heap.size)
    (h : ∀ v' w', w'.ownsRow base e size v' (n + m) (xs ++ news) → w.grownBy w' v.ownBlock → (∀ g, v'.ownBlock = some g → w.heap.size ≤ g ∨ v.ownBlock = some g) → wpList P ops Q rest (a.put o.dst v') w') : wpList P ops Q (o :: rest) a w := by
  obtain ⟨v', w', hrun, h2, h3, h4⟩ := run_append_f (P := P) w base t o.type e i z size bytes ht hi hz hsize hby hzs hsz v n xs hown vx m news hr h1 h63 hbytes hbase
  refine wpList_plain hgd fun _ hK => ?_
  unfold Oper.wp execOp
  simp only [ho, resolve, invoke, builtin, Sem.run_bind, Sem.run_pure, Result.andThen_ok, List.map_toArray, List.map_cons, List.map_nil, hs, hx, hrun]
  exact hK _ _ (h v' w' h2 h3 h4)

theorem step_append_f {P : Program} {ops : Array Oper} {o : Oper} {a : Act} {w : World} {K : Act → World → Prop} {Q : Exit → Act → World → Prop} {E : Prop}
    (hg : o.guard = none) (s x : Operand) (t : TypeId) (hop : o.op = Op.call { callee := Callee.builtin Builtin.append, args := #[s, x], argTypes := #[t, t] })
    (base : Nat) (e : TypeId) (i : TypeInfo) (z : Value) (size bytes : Nat) (ht : P.underlying t = some (.slice e)) (hi : P.info? e = some i) (hz : i.zero = some z)
    (hsize : i.size = size) (hby : i.bytes = bytes) (hzs : z.cells.size = size) (hsz : 0 < size)
    (v : Value) (n : Nat) (xs : List Value) (hs : a.eval s = v) (hown : w.ownsRow base e size v n xs)
    (vx : Value) (m : Nat) (news : List Value) (hx : a.eval x = vx) (hr : Rd w size vx m news) (h1 : ∀ u ∈ news, u.oneCell' = true)
    (h63 : n + m ≤ maxLen) (hbytes : (n + m) * bytes ≤ 140737488355328) (hbase : base ≤ w.heap.size)
    (hK : ∀ v' w', w'.ownsRow base e size v' (n + m) (xs ++ news) → w.grownBy w' v.ownBlock → (∀ g, v'.ownBlock = some g → w.heap.size ≤ g ∨ v.ownBlock = some g) → K (a.put o.dst v') w') :
    if Region.wanted o (yielded ops a.tmps) = true then Oper.wp P o a w K Q else E := by
  have hw : Region.wanted o (yielded ops a.tmps) = true := by simp [Region.wanted, hg]
  rw [if_pos hw]
  obtain ⟨v', w', hrun, h2, h3, h4⟩ := run_append_f (P := P) w base t o.type e i z size bytes ht hi hz hsize hby hzs hsz v n xs hown vx m news hr h1 h63 hbytes hbase
  unfold Oper.wp
  simp [execOp, hop, resolve, invoke, builtin, hs, hx, hrun, Result.andThen]
  exact hK v' w' h2 h3 h4

end Go.Proofs.Ytgjmdcbdkdmceaa.Mach
