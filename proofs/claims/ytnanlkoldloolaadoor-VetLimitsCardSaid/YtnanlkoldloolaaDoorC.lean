/- Tools over any program, on: blocks told by their types; rows that are kept. -/
import Derived.Test.YtnanlkoldloolaaDoorU
import Derived.ProofKit
import Derived.Below
namespace Go.Proofs.YtnanlkoldloolaaDoor
open Go.RowKit

theorem own_blk {w : World} {base : Nat} {e : TypeId} {size n : Nat} {v : Value} {xs : List Value} (h : w.ownsRow base e size v n xs) : ∀ k, v.ownBlock = some k → base ≤ k ∧ ∃ cur, w.heap[k]? = some (.cells cur e (0, 0)) := by
  intro k hk
  rcases h.2 with ⟨rfl, _⟩ | ⟨g, cap, cur, rfl, h1, h2, _⟩
  · cases hk
  · simp [Value.ownBlock] at hk; subst hk; exact ⟨h1, cur, h2⟩
theorem own_same {w w' : World} {base : Nat} {e : TypeId} {size n : Nat} {v : Value} {xs : List Value} (h : w.ownsRow base e size v n xs) (hk : ∀ k, v.ownBlock = some k → w'.heap[k]? = w.heap[k]?) : w'.ownsRow base e size v n xs := by
  refine ⟨h.1, ?_⟩
  rcases h.2 with h1 | ⟨g, cap, cur, rfl, h1, h2, h3⟩
  · exact .inl h1
  · exact .inr ⟨g, cap, cur, rfl, h1, (hk g rfl).trans h2, h3⟩
theorem own_later {w w' : World} {base : Nat} {e : TypeId} {size n : Nat} {v : Value} {xs : List Value} (h : w.ownsRow base e size v n xs) (hb : Below w.heap.size w w') : w'.ownsRow base e size v n xs :=
  own_same h fun k hk => by
    obtain ⟨_, cur, hc⟩ := own_blk h k hk
    exact hb.block k (Array.getElem?_eq_some_iff.1 hc).1
theorem cells_ne {c c' : Array Value} {t t' : TypeId} {f f' : Nat × Nat} (h : t ≠ t') : Obj.cells c t f ≠ Obj.cells c' t' f' := fun e => by cases e; exact h rfl
theorem blk_ne {w : World} {i j : Nat} {o o' : Obj} (h1 : w.heap[i]? = some o) (h2 : w.heap[j]? = some o') (h : o ≠ o') : i ≠ j := fun e => by subst e; rw [h1] at h2; exact h (Option.some.inj h2)
theorem own_apart {w : World} {base : Nat} {e e' : TypeId} {size n R : Nat} {v : Value} {xs : List Value} {c : Array Value} {f : Nat × Nat} (h : w.ownsRow base e size v n xs) (hR : w.heap[R]? = some (.cells c e' f)) (hne : e ≠ e') : v.ownBlock ≠ some R := by
  intro hk
  obtain ⟨_, cur, hc⟩ := own_blk h R hk
  rw [hR] at hc
  exact hne (by cases hc; rfl)
theorem heap_old (w : World) (o : Obj) {k : Nat} {ob : Obj} (h : w.heap[k]? = some ob) : (w.alloc o).heap[k]? = some ob :=
  (Below.heap_alloc w o k (Array.getElem?_eq_some_iff.1 h).1).trans h
theorem heap_new (w : World) (o : Obj) {n : Nat} (h : n = w.heap.size) : (w.alloc o).heap[n]? = some o := by subst h; exact Array.getElem?_push_size
theorem heap_lt {w : World} {k : Nat} {ob : Obj} (h : w.heap[k]? = some ob) : k < w.heap.size := (Array.getElem?_eq_some_iff.1 h).1
theorem grown_below {w w' : World} {row : Option Nat} (h : Below w.heap.size w w') : w.grownBy w' row := ⟨h.os, h.tape, h.output, h.size, fun k hk _ => h.block k hk⟩
theorem Rd.of_heap {w : World} {k n size : Nat} {c : Array Value} {t : TypeId} {f : Nat × Nat} {xs : List Value} (h : w.heap[k]? = some (.cells c t f)) (hc : c.toList = xs) (hl : xs.length = n * size) (hn : n ≤ maxLen) : Rd w size (.slice (some ⟨k, 0, none⟩) n n) n xs := by
  refine ⟨hl, .inr ⟨_, _, rfl, Nat.le_refl _, hn, fun j u hu => ?_⟩⟩
  rw [add_plain, Nat.zero_add]
  subst hc
  simpa [World.cell?, h] using hu
theorem heap_below {w w' : World} {B k : Nat} {ob : Obj} (hb : Below B w w') (hk : k < B) (h : w.heap[k]? = some ob) : w'.heap[k]? = some ob := (hb.block k hk).trans h
theorem heap_set {w : World} {k i : Nat} {c : Array Value} {t : TypeId} {f : Nat × Nat} {v : Value} (h : w.heap[k]? = some (.cells c t f)) : (w.setCell ⟨k, i, none⟩ v).heap[k]? = some (.cells (c.setIfInBounds i v) t f) := by
  simp [World.setCell, Array.getElem?_modify, h]
/-- A store of what is there is none. -/
theorem setCell_id {w : World} {b o : Nat} {v : Value} (h : w.cell? ⟨b, o, none⟩ = some v) : w.setCell ⟨b, o, none⟩ v = w := by
  have e : (w.setCell ⟨b, o, none⟩ v).heap = w.heap := by
    apply Array.ext_getElem?
    intro k
    by_cases hk : k = b
    · subst hk
      unfold World.cell? at h
      simp only [World.setCell, Array.getElem?_modify, if_true]
      cases hob : w.heap[k]? with
      | none => rfl
      | some ob =>
        rw [hob] at h
        cases ob with
        | cells c t f =>
          simp at h ⊢
          obtain ⟨hlt, rfl⟩ := Array.getElem?_eq_some_iff.1 h
          apply Array.ext (by simp)
          intro i h1 h2
          rw [Array.getElem_setIfInBounds (by simpa using h1)]
          split
          · subst_vars; rfl
          · rfl
        | _ => rfl
    · exact Below.heap_setCell _ _ _ _ hk
  have e2 : w.setCell ⟨b, o, none⟩ v = { w with heap := (w.setCell ⟨b, o, none⟩ v).heap } := rfl
  rw [e2, e]
/-! ### rows that the call made, a constant's too (its row bears a mark behind its last cell, and is full) -/
def ownG (w : World) (base : Nat) (e : TypeId) (size : Nat) (v : Value) (n : Nat) (xs : List Value) : Prop :=
  w.ownsRow base e size v n xs ∨ (xs.length = n * size ∧ ∃ g cur f, v = .slice (some ⟨g, 0, none⟩) n n ∧ base ≤ g ∧ w.heap[g]? = some (.cells cur e f) ∧ n ≤ maxLen ∧ cur.toList = xs)
theorem ownG_blk {w : World} {base : Nat} {e : TypeId} {size n : Nat} {v : Value} {xs : List Value} (h : ownG w base e size v n xs) : ∀ k, v.ownBlock = some k → base ≤ k ∧ ∃ cur f, w.heap[k]? = some (.cells cur e f) := by
  intro k hk
  rcases h with h | ⟨_, g, cur, f, rfl, h1, h2, _⟩
  · obtain ⟨h1, cur, h2⟩ := own_blk h k hk
    exact ⟨h1, cur, _, h2⟩
  · simp [Value.ownBlock] at hk; subst hk; exact ⟨h1, cur, f, h2⟩
theorem ownG_same {w w' : World} {base : Nat} {e : TypeId} {size n : Nat} {v : Value} {xs : List Value} (h : ownG w base e size v n xs) (hk : ∀ k, v.ownBlock = some k → w'.heap[k]? = w.heap[k]?) : ownG w' base e size v n xs := by
  rcases h with h | ⟨h0, g, cur, f, rfl, h1, h2, h3⟩
  · exact .inl (own_same h hk)
  · exact .inr ⟨h0, g, cur, f, rfl, h1, (hk g rfl).trans h2, h3⟩
theorem ownG_later {w w' : World} {base : Nat} {e : TypeId} {size n : Nat} {v : Value} {xs : List Value} (h : ownG w base e size v n xs) (hb : Below w.heap.size w w') : ownG w' base e size v n xs :=
  ownG_same h fun k hk => by
    obtain ⟨_, cur, f, hc⟩ := ownG_blk h k hk
    exact hb.block k (Array.getElem?_eq_some_iff.1 hc).1
theorem ownG_apart {w : World} {base : Nat} {e e' : TypeId} {size n R : Nat} {v : Value} {xs : List Value} {c : Array Value} {f : Nat × Nat} (h : ownG w base e size v n xs) (hR : w.heap[R]? = some (.cells c e' f)) (hne : e ≠ e') : v.ownBlock ≠ some R := by
  intro hk
  obtain ⟨_, cur, f', hc⟩ := ownG_blk h R hk
  rw [hR] at hc
  exact hne (by cases hc; rfl)
theorem ownG_rd {w : World} {base : Nat} {e : TypeId} {size n : Nat} {v : Value} {xs : List Value} (h : ownG w base e size v n xs) : Rd w size v n xs := by
  rcases h with h | ⟨h0, g, cur, f, rfl, h1, h2, h3, rfl⟩
  · exact Rd.of_own h
  · refine ⟨h0, .inr ⟨_, _, rfl, Nat.le_refl _, h3, fun j u hu => ?_⟩⟩
    rw [add_plain, Nat.zero_add]
    simpa [World.cell?, h2] using hu

theorem run_append_ownG_rd {P : Program} (w : World) (base : Nat) (t ty e : TypeId) (i : TypeInfo) (z : Value) (size bytes : Nat) (ht : P.underlying t = some (.slice e)) (hi : P.info? e = some i) (hz : i.zero = some z)
    (hsize : i.size = size) (hby : i.bytes = bytes) (hzs : z.cells.size = size) (hsz : 0 < size)
    (v : Value) (n : Nat) (xs : List Value) (hown : ownG w base e size v n xs)
    (vx : Value) (m : Nat) (news : List Value) (hr : Rd w size vx m news) (h1 : ∀ u ∈ news, u.oneCell' = true)
    (h63 : n + m ≤ maxLen) (hbytes : (n + m) * bytes ≤ 140737488355328) (hbase : base ≤ w.heap.size) :
    ∃ v' w', (Builtin.append_ #[t, t] ty #[v, vx]).run P w = .ok v' w' ∧ ownG w' base e size v' (n + m) (xs ++ news) ∧ w.grownBy w' v.ownBlock := by
  rcases hown with hown | ⟨h0, g, cur, f, rfl, hg1, hg2, hg3, rfl⟩
  · obtain ⟨v', w', h2, h3, h4⟩ := run_append_own_rd (P := P) w base t ty e i z size bytes ht hi hz hsize hby hzs hsz v n xs hown vx m news hr h1 h63 hbytes hbase
    exact ⟨v', w', h2, .inl h3, h4⟩
  · subst hsize
    subst hby
    have hmm : 9223372036854775807 ≥ n + m := by simp only [maxLen] at h63; omega
    have keep : news = [] → m = 0 → ownG w base e i.size (.slice (some ⟨g, 0, none⟩) n n) (n + m) (cur.toList ++ news) := fun a b => by
      subst a; subst b
      exact .inr ⟨by simpa using h0, g, cur, f, rfl, hg1, hg2, hg3, by simp⟩
    have holds : ∀ j u, cur.toList[j]? = some u → w.cell? ((⟨g, 0, none⟩ : Addr).add j) = some u := fun j u hu => by
      rw [add_plain, Nat.zero_add]
      simpa [World.cell?, hg2] using hu
    rcases hr.2 with ⟨rfl, rfl⟩ | ⟨ad, c, rfl, _, _, hc⟩
    · have hnw : news = [] := List.eq_nil_of_length_eq_zero (by simpa using hr.1)
      refine ⟨.slice (some ⟨g, 0, none⟩) n n, w, ?_, keep hnw rfl, World.grownBy.refl _ _⟩
      simp [Builtin.append_, run_underlying ht, sizeOf, typeInfo, hi, Builtin.lenOf, Builtin.firstCells, storeCells]
    · by_cases hm : m = 0
      · subst hm
        have hnw : news = [] := List.eq_nil_of_length_eq_zero (by simpa using hr.1)
        refine ⟨.slice (some ⟨g, 0, none⟩) n n, w, ?_, keep hnw rfl, World.grownBy.refl _ _⟩
        have hf := run_firstCells_some (P := P) w i.size 0 ad 0 c news hr.1 hc
        subst hnw
        simp [Builtin.append_, run_underlying ht, sizeOf, typeInfo, hi, Builtin.lenOf, hf, storeCells]
      · have hr2 := run_append_grow (P := P) w t ty e i z ht hi hz ⟨g, 0, none⟩ n n cur.toList h0 holds ad m c news hr.1 hc (by omega) (by omega) (growslice_fits (by omega) hbytes)
        have hge := grownCap_ge w (n + m) n e
        have hcm : grownCap w (n + m) n e ≤ maxLen := grownCap_le_maxLen w (n + m) n e h63
        have hlen : (cur.toList ++ news).length = (n + m) * i.size := by rw [List.length_append, h0, hr.1, Nat.add_mul]
        refine ⟨_, _, hr2, .inl ⟨hlen, .inr ⟨w.heap.size, _, _, rfl, hbase, heap_new w.drew _ rfl, hge, hcm, ?_, ?_⟩⟩, ⟨rfl, rfl, rfl, by simp, fun k hk _ => Below.heap_alloc w.drew _ k hk⟩⟩
        · simp only [Array.size_append, List.size_toArray, size_zeroCells, hzs, h0, hr.1, ← Nat.add_mul]
          congr 1
          omega
        · simp only [Array.toList_append, List.append_assoc]
          rw [← List.append_assoc, ← hlen]
          exact List.take_left

theorem step_append_ownG_rd {P : Program} {ops : Array Oper} {o : Oper} {a : Act} {w : World} {K : Act → World → Prop} {Q : Exit → Act → World → Prop} {E : Prop}
    (hg : o.guard = none) (s x : Operand) (t : TypeId) (hop : o.op = Op.call { callee := Callee.builtin Builtin.append, args := #[s, x], argTypes := #[t, t] })
    (base : Nat) (e : TypeId) (i : TypeInfo) (z : Value) (size bytes : Nat) (ht : P.underlying t = some (.slice e)) (hi : P.info? e = some i) (hz : i.zero = some z)
    (hsize : i.size = size) (hby : i.bytes = bytes) (hzs : z.cells.size = size) (hsz : 0 < size)
    (v : Value) (n : Nat) (xs : List Value) (hs : a.eval s = v) (hown : ownG w base e size v n xs)
    (vx : Value) (m : Nat) (news : List Value) (hx : a.eval x = vx) (hr : Rd w size vx m news) (h1 : ∀ u ∈ news, u.oneCell' = true)
    (h63 : n + m ≤ maxLen) (hbytes : (n + m) * bytes ≤ 140737488355328) (hbase : base ≤ w.heap.size)
    (hK : ∀ v' w', ownG w' base e size v' (n + m) (xs ++ news) → w.grownBy w' v.ownBlock → K (a.put o.dst v') w') :
    if Region.wanted o (yielded ops a.tmps) = true then Oper.wp P o a w K Q else E := by
  have hw : Region.wanted o (yielded ops a.tmps) = true := by simp [Region.wanted, hg]
  rw [if_pos hw]
  obtain ⟨v', w', hrun, h2, h3⟩ := run_append_ownG_rd (P := P) w base t o.type e i z size bytes ht hi hz hsize hby hzs hsz v n xs hown vx m news hr h1 h63 hbytes hbase
  unfold Oper.wp
  simp [execOp, hop, resolve, invoke, builtin, hs, hx, hrun, Result.andThen]
  exact hK v' w' h2 h3
theorem wpList_append_ownG_rd {P : Program} (w : World) {ops : Array Oper} {rest : List Oper} {o : Oper} {a : Act} {Q : Exit → Act → World → Prop} (hgd : o.guard = none) (s x : Operand) (t : TypeId)
    (hop : o.op = .call { callee := .builtin .append, args := #[s, x], argTypes := #[t, t] })
    (base : Nat) (e : TypeId) (i : TypeInfo) (z : Value) (size bytes : Nat) (ht : P.underlying t = some (.slice e)) (hi : P.info? e = some i) (hz : i.zero = some z)
    (hsize : i.size = size) (hby : i.bytes = bytes) (hzs : z.cells.size = size) (hsz : 0 < size)
    (v : Value) (n : Nat) (xs : List Value) (hs : a.eval s = v) (hown : ownG w base e size v n xs)
    (vx : Value) (m : Nat) (news : List Value) (hx : a.eval x = vx) (hr : Rd w size vx m news) (h1 : ∀ u ∈ news, u.oneCell' = true)
    (h63 : n + m ≤ maxLen) (hbytes : (n + m) * bytes ≤ 140737488355328) (hbase : base ≤ w.heap.size)
    (h : ∀ v' w', ownG w' base e size v' (n + m) (xs ++ news) → w.grownBy w' v.ownBlock → wpList P ops Q rest (a.put o.dst v') w') : wpList P ops Q (o :: rest) a w :=
  wpList_plain hgd fun K' hK' => by
    obtain ⟨v', w', hrun, h2, h3⟩ := run_append_ownG_rd (P := P) w base t o.type e i z size bytes ht hi hz hsize hby hzs hsz v n xs hown vx m news hr h1 h63 hbytes hbase
    unfold Oper.wp
    simp [execOp, hop, resolve, invoke, builtin, hs, hx, hrun, Result.andThen]
    exact hK' _ _ (h v' w' h2 h3)
end Go.Proofs.YtnanlkoldloolaaDoor
