/- Tools over any program: a slice that can be read (an argument's, the call's own, nil), and what may be done with it. -/
import Derived.WalkKit
import Derived.WalkLawsBesides
import Derived.WalkSpells
import Derived.Lib.Hide
import Derived.Deep.Light
import Derived.Laws.AppendOwnNone
namespace Go.Proofs.Yteeapfgjjankeaa
open Go.RowKit

theorem ret_bool {a b : Bool} (h : a = b) : Ending.returned (.bool a) = .returned (.bool b) := by rw [h]
theorem ret_int {k : IntKind} {a b : Int} (h : a = b) : Ending.returned (.int k a) = .returned (.int k b) := by rw [h]

theorem bcell {W w1 : World} (hb : Below W.heap.size W w1) : (∀ b o, b < W.heap.size → w1.cell? ⟨b, o, none⟩ = W.cell? ⟨b, o, none⟩) ∧ (∀ b o, b < W.heap.size → w1.frozen? ⟨b, o, none⟩ = W.frozen? ⟨b, o, none⟩) :=
  ⟨fun b o h => hb.cell (p := ⟨b, o, none⟩) h, fun b o h => hb.frozen (p := ⟨b, o, none⟩) h⟩

/-- The value leads to n elements of 'size' cells each, which hold xs. -/
def Rd (w : World) (size : Nat) (v : Value) (n : Nat) (xs : List Value) : Prop :=
  xs.length = n * size ∧ ((v = .slice none 0 0 ∧ n = 0) ∨ ∃ a cap, v = .slice (some a) n cap ∧ n ≤ cap ∧ cap ≤ maxLen ∧ ∀ j u, xs[j]? = some u → w.cell? (a.add j) = some u)

theorem add_plain (b off j : Nat) : (⟨b, off, none⟩ : Addr).add j = ⟨b, off + j, none⟩ := by unfold Addr.add; split <;> simp_all

theorem Rd.shape {w : World} {size : Nat} {v : Value} {n : Nat} {xs : List Value} (h : Rd w size v n xs) : ∃ a c, v = .slice a n c := by
  rcases h.2 with ⟨rfl, rfl⟩ | ⟨a, c, rfl, _⟩
  · exact ⟨_, _, rfl⟩
  · exact ⟨_, _, rfl⟩

theorem Rd.le {w : World} {size : Nat} {v : Value} {n : Nat} {xs : List Value} (h : Rd w size v n xs) : n ≤ 9223372036854775807 := by
  rcases h.2 with ⟨_, rfl⟩ | ⟨a, c, rfl, h1, h2, _⟩
  · omega
  · unfold maxLen at h2; omega

/-- Nothing in it; or an address of the plain kind. -/
theorem Rd.split {w : World} {size : Nat} {v : Value} {n : Nat} {xs : List Value} (h : Rd w size v n xs) (hs : 0 < size) :
    (∃ a c, v = .slice a 0 c ∧ n = 0 ∧ xs = []) ∨ ∃ b off c, v = .slice (some ⟨b, off, none⟩) n c ∧ 0 < n ∧ n ≤ c ∧ c ≤ 9223372036854775807 ∧ b < w.heap.size ∧ ∀ j (hj : j < xs.length), w.cell? ⟨b, off + j, none⟩ = some xs[j] := by
  obtain ⟨hl, h⟩ := h
  by_cases hn : n = 0
  · subst hn
    have hx : xs = [] := List.eq_nil_of_length_eq_zero (by simpa using hl)
    rcases h with ⟨rfl, _⟩ | ⟨a, c, rfl, _⟩
    · exact .inl ⟨_, _, rfl, rfl, hx⟩
    · exact .inl ⟨_, _, rfl, rfl, hx⟩
  · rcases h with ⟨rfl, h0⟩ | ⟨a, c, rfl, h1, h2, h3⟩
    · exact absurd h0 hn
    · obtain ⟨b, off, spot⟩ := a
      have h0 : 0 < xs.length := by rw [hl]; exact Nat.mul_pos (by omega) hs
      have hc0 := h3 0 xs[0] (by simp [h0])
      have hspot : spot = none := by simpa [Addr.add] using World.cell?_spot hc0
      subst hspot
      have hlt : b < w.heap.size := World.block_lt_of_cell? w _ (by simpa [Addr.add] using hc0)
      refine .inr ⟨b, off, c, rfl, by omega, h1, by unfold maxLen at h2; omega, hlt, fun j hj => ?_⟩
      have := h3 j xs[j] (by simp [hj])
      rwa [add_plain] at this

theorem Rd.mk {w : World} {size : Nat} {b off n c : Nat} {xs : List Value} (hl : xs.length = n * size) (h1 : n ≤ c) (h2 : c ≤ maxLen) (h : ∀ j (hj : j < xs.length), w.cell? ⟨b, off + j, none⟩ = some xs[j]) : Rd w size (.slice (some ⟨b, off, none⟩) n c) n xs := by
  refine ⟨hl, .inr ⟨_, _, rfl, h1, h2, fun j u hu => ?_⟩⟩
  obtain ⟨hj, rfl⟩ := List.getElem?_eq_some_iff.1 hu
  rw [add_plain]; exact h j hj

theorem Rd.nil (w : World) (size : Nat) : Rd w size (.slice none 0 0) 0 [] := ⟨by simp, .inl ⟨rfl, rfl⟩⟩

theorem Rd.of_own {w : World} {base : Nat} {e : TypeId} {size : Nat} {v : Value} {n : Nat} {xs : List Value} (h : w.ownsRow base e size v n xs) : Rd w size v n xs := by
  refine ⟨h.1, ?_⟩
  rcases h.2 with hn | ⟨g, cap, cur, rfl, _, hg, h1, h2, h3, h4⟩
  · exact .inl hn
  · refine .inr ⟨_, _, rfl, h1, h2, fun j u hu => ?_⟩
    have := h.cells (g := g) rfl j u hu
    exact this

theorem Rd.later {w w' : World} {size : Nat} {v : Value} {n : Nat} {xs : List Value} (h : Rd w size v n xs) (hb : Below w.heap.size w w') : Rd w' size v n xs := by
  refine ⟨h.1, ?_⟩
  rcases h.2 with hn | ⟨a, cap, rfl, h1, h2, h3⟩
  · exact .inl hn
  · refine .inr ⟨a, cap, rfl, h1, h2, fun j u hu => ?_⟩
    have hc := h3 j u hu
    rw [hb.cell (World.block_lt_of_cell? w _ hc)]; exact hc

theorem Rd.kept {w w' : World} {row : Option Nat} {size : Nat} {v : Value} {n : Nat} {xs : List Value} (h : Rd w size v n xs) (hg : w.grownBy w' row) (hne : v.ownBlock = none ∨ v.ownBlock ≠ row) : Rd w' size v n xs := by
  refine ⟨h.1, ?_⟩
  rcases h.2 with hn | ⟨a, cap, rfl, h1, h2, h3⟩
  · exact .inl hn
  · refine .inr ⟨a, cap, rfl, h1, h2, fun j u hu => ?_⟩
    have hc := h3 j u hu
    exact hg.cell hc (by have e : (a.add j).block = a.block := by unfold Addr.add; split <;> rfl
                         rw [e]; simpa [Value.ownBlock] using hne)

theorem Rd.same {w w' : World} {size : Nat} {v : Value} {n : Nat} {xs : List Value} (h : Rd w size v n xs) (hs : ∀ k, v.ownBlock = some k → w'.heap[k]? = w.heap[k]?) : Rd w' size v n xs := by
  refine ⟨h.1, ?_⟩
  rcases h.2 with hn | ⟨a, cap, rfl, h1, h2, h3⟩
  · exact .inl hn
  · refine .inr ⟨a, cap, rfl, h1, h2, fun j u hu => ?_⟩
    have hc := h3 j u hu
    have e : (a.add j).block = a.block := by unfold Addr.add; split <;> rfl
    rw [World.cell?_of_block (w := w) (by rw [e]; exact hs a.block rfl)]; exact hc

theorem Rd.alloc {w : World} {size : Nat} {v : Value} {n : Nat} {xs : List Value} (h : Rd w size v n xs) (o : Obj) : Rd (w.alloc o) size v n xs :=
  h.later ((Below.refl _ _).alloc (Nat.le_refl _) o)
theorem Rd.drew {w : World} {size : Nat} {v : Value} {n : Nat} {xs : List Value} (h : Rd w size v n xs) : Rd w.drew size v n xs := h

theorem add_block (a : Addr) (j : Nat) : (a.add j).block = a.block := by unfold Addr.add; split <;> rfl

theorem add_add' (a : Addr) (i j : Nat) : (a.add i).add j = a.add (i + j) := by
  unfold Addr.add; (repeat' split) <;> first | omega | (simp_all; done) | (simp_all; omega)

/-- The first k elements. -/
theorem Rd.take {w : World} {size : Nat} {a : Option Addr} {n c k : Nat} {xs : List Value} (h : Rd w size (.slice a n c) n xs) (hk : k ≤ n) : Rd w size (.slice a k c) k (xs.take (k * size)) := by
  refine ⟨by rw [List.length_take, h.1]; exact Nat.min_eq_left (Nat.mul_le_mul_right _ hk), ?_⟩
  rcases h.2 with ⟨hv, rfl⟩ | ⟨a', cap, hv, h1, h2, h3⟩
  · simp at hv; obtain ⟨rfl, rfl⟩ := hv
    obtain rfl : k = 0 := by omega
    exact .inl ⟨rfl, rfl⟩
  · simp at hv; obtain ⟨rfl, rfl⟩ := hv
    refine .inr ⟨a', _, rfl, by omega, h2, fun j u hu => h3 j u ?_⟩
    rw [List.getElem?_take] at hu
    split at hu
    · exact hu
    · cases hu

/-- Append, of whatever can be read, to a slice of the call's own. -/
theorem wpList_append_own_rd {P : Program} (w : World) {ops : Array Oper} {rest : List Oper} {o : Oper} {a : Act} {Q : Exit → Act → World → Prop} (hgd : o.guard = none) (s x : Operand) (t : TypeId)
    (ho : o.op = .call { callee := .builtin .append, args := #[s, x], argTypes := #[t, t] })
    (base : Nat) (e : TypeId) (i : TypeInfo) (z : Value) (size bytes : Nat) (ht : P.underlying t = some (.slice e)) (hi : P.info? e = some i) (hz : i.zero = some z)
    (hsize : i.size = size) (hby : i.bytes = bytes) (hzs : z.cells.size = size) (hsz : 0 < size)
    (v : Value) (n : Nat) (xs : List Value) (hs : a.eval s = v) (hown : w.ownsRow base e size v n xs)
    (vx : Value) (m : Nat) (news : List Value) (hx : a.eval x = vx) (hr : Rd w size vx m news) (h1 : ∀ u ∈ news, u.oneCell' = true)
    (h63 : n + m ≤ maxLen) (hbytes : (n + m) * bytes ≤ 140737488355328) (hbase : base ≤ w.heap.size)
    (h : ∀ v' w', w'.ownsRow base e size v' (n + m) (xs ++ news) → w.grownBy w' v.ownBlock → wpList P ops Q rest (a.put o.dst v') w') : wpList P ops Q (o :: rest) a w := by
  rcases hr.2 with ⟨rfl, rfl⟩ | ⟨ad, c, rfl, _, _, hc⟩
  · have hnw : news = [] := List.eq_nil_of_length_eq_zero (by simpa using hr.1)
    subst hnw
    refine wpList_append_own_none hgd s x t ho base e i size ht hi v n xs hs hown hx ?_
    exact h v w (by simpa using hown) (World.grownBy.refl _ _)
  · exact wpList_append_own w hgd s x t ho base e i z size bytes ht hi hz hsize hby hzs hsz v n xs hs hown ad m c news hx hr.1 hc h1 h63 hbytes hbase (fun v' w' h2 h3 _ => h v' w' h2 h3)

theorem oneInts (k : IntKind) (zs : List Int) : ∀ u ∈ zs.map (Value.int k), u.oneCell' = true := ints_oneCell k zs

/-! ### bytes -/
def isB (l : List Int) : Prop := ∀ x ∈ l, 0 ≤ x ∧ x ≤ 255

def RdB (w : World) (v : Value) (l : List Int) : Prop := Rd w 1 v l.length (l.map (Value.int .u8))

theorem RdB.split {w : World} {v : Value} {l : List Int} (h : RdB w v l) :
    (∃ a c, v = .slice a 0 c ∧ l = []) ∨ ∃ b off c, v = .slice (some ⟨b, off, none⟩) l.length c ∧ 0 < l.length ∧ l.length ≤ c ∧ c ≤ 9223372036854775807 ∧ b < w.heap.size ∧ ∀ j, j < l.length → w.cell? ⟨b, off + j, none⟩ = some (.int .u8 (l.getD j 0)) := by
  rcases Rd.split h (by omega) with ⟨a, c, rfl, h0, _⟩ | ⟨b, off, c, rfl, h1, h2, h3, h4, h5⟩
  · exact .inl ⟨a, c, rfl, List.eq_nil_of_length_eq_zero h0⟩
  · refine .inr ⟨b, off, c, rfl, h1, h2, h3, h4, fun j hj => ?_⟩
    rw [h5 j (by simpa using hj)]
    simp [hj]

theorem strOf_nil : strOfNums [] = ByteArray.empty := rfl

theorem run_convert_rdB {P : Program} {w : World} {v : Value} {l : List Int} (h : RdB w v l) {src dst e : TypeId} (hs : P.underlying src = some (.slice e)) (he : P.underlying e = some (.int .u8)) (hd : P.underlying dst = some .string) :
    (convert src dst v).run P w = .ok (.string (strOfNums l)) w := by
  rcases Rd.split h (by omega) with ⟨a, c, rfl, h0, _⟩ | ⟨b, off, c, rfl, h1, h2, h3, h4, h5⟩
  · have hl : l = [] := List.eq_nil_of_length_eq_zero h0
    subst hl
    cases a with
    | none => exact run_convert_bytes_nil w src e hs he 0 c dst hd
    | some a =>
      have hlc : (loadCells a 0).run P w = .ok #[] w := by
        have := run_loadCells_list (P := P) w a [] (fun j v hj => by simp at hj)
        simpa using this
      rw [run_convert_bytes_string w src dst e _ 0 c hs he hd, run_bytesToString w a 0 c [] (by simpa using hlc)]
      rfl
  · exact run_convert_bytes_arg w src e hs he b off l.length c l rfl (fun i hi => by
      rw [h5 i (by simpa using hi)]; simp [hi]) dst hd

theorem strOfNums_inj {l m : List Int} (hl : isB l) (hm : isB m) (h : strOfNums l = strOfNums m) : l = m := by
  have h2 : (strOfNums l).data.toList = (strOfNums m).data.toList := by rw [h]
  rw [strOfNums_data, strOfNums_data] at h2
  have hlen : l.length = m.length := by simpa using congrArg List.length h2
  apply List.ext_getElem hlen
  intro i h3 h4
  have h5 : (l.map fun n => UInt8.ofNat n.toNat)[i]'(by simpa using h3) = (m.map fun n => UInt8.ofNat n.toNat)[i]'(by simpa using h4) := by simp only [h2]
  simp only [List.getElem_map] at h5
  have b1 := hl _ (List.getElem_mem h3)
  have b2 := hm _ (List.getElem_mem h4)
  have h6 := congrArg UInt8.toNat h5
  simp only [UInt8.toNat_ofNat'] at h6
  omega

def eqL (l m : List Int) : Bool := decide (l = m)
theorem eqL_str {l m : List Int} (hl : isB l) (hm : isB m) : ((strOfNums l).toList == (strOfNums m).toList) = eqL l m := by
  unfold eqL
  by_cases h : l = m
  · subst h; simp
  · have : (strOfNums l).toList ≠ (strOfNums m).toList := fun hh => h (strOfNums_inj hl hm (by
      rw [ByteArray.toList_eq, ByteArray.toList_eq] at hh
      generalize strOfNums l = a at *
      generalize strOfNums m = b at *
      obtain ⟨⟨x⟩⟩ := a
      obtain ⟨⟨y⟩⟩ := b
      simp at hh
      rw [hh]))
    simp [h, this]

end Go.Proofs.Yteeapfgjjankeaa
