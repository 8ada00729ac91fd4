/- Memory told by tags: which block belongs to what; rows of the call's own, and what stays of them. -/
import Derived.Test.YtnanlkoldloolaaDoorQ0
import Derived.Below
import Derived.Test.YtnanlkoldloolaaDoorQ13
import Derived.Test.YtnanlkoldloolaaDoorQ14
import Derived.Laws.Bits64
import Derived.WalkKit
import Derived.Test.YtnanlkoldloolaaDoorProg
import Derived.ProofKit
import Derived.KernelRfl
import Derived.Test.YtnanlkoldloolaaDoorQFk
import Derived.OpenShut
import Derived.BigQuiet
import Derived.Deep.QuietTactic
import Derived.Deep.DeepCutAuto
import Derived.Deep.RegionHeld3
import Derived.Deep.RegionLaw
import Derived.Shelf.RegionOpenPlain
import Derived.StillTailTactics
import Derived.Laws.MakeOwn
import Derived.Laws.OwnMore
import Derived.Deep.OwnRows
namespace Go.Proofs.YtnanlkoldloolaaDoor.Mach
open Go.RowKit

section
variable {w w' w'' : World} {base K n : Nat} {e : TypeId} {v : Value} {xs : List Value}

theorem oblk (h : w.ownsRow base e K v n xs) : ∀ k, v.ownBlock = some k → base ≤ k ∧ ∃ cur, w.heap[k]? = some (.cells cur e (0, 0)) := by
  intro k hk
  rcases h.2 with ⟨rfl, _⟩ | ⟨g, cap, cur, rfl, h1, h2, _⟩
  · cases hk
  · simp [Value.ownBlock] at hk; subst hk; exact ⟨h1, cur, h2⟩
theorem olt (h : w.ownsRow base e K v n xs) : ∀ k, v.ownBlock = some k → k < w.heap.size := fun k hk => by
  obtain ⟨_, cur, hc⟩ := oblk h k hk
  exact (Array.getElem?_eq_some_iff.1 hc).1
theorem osame (h : w.ownsRow base e K v n xs) (hk : ∀ k, v.ownBlock = some k → w'.heap[k]? = w.heap[k]?) : w'.ownsRow base e K v n xs := by
  refine ⟨h.1, ?_⟩
  rcases h.2 with h1 | ⟨g, cap, cur, rfl, h1, h2, h3⟩
  · exact .inl h1
  · exact .inr ⟨g, cap, cur, rfl, h1, (hk g rfl).trans h2, h3⟩
theorem odown (h : w.ownsRow base e K v n xs) {b : Nat} (hb : b ≤ base) : w.ownsRow b e K v n xs := by
  refine ⟨h.1, ?_⟩
  rcases h.2 with h1 | ⟨g, cap, cur, rfl, h1, h2⟩
  · exact .inl h1
  · exact .inr ⟨g, cap, cur, rfl, Nat.le_trans hb h1, h2⟩
/-- A row's base may be told anew, from its block. -/
theorem obase (h : w.ownsRow base e K v n xs) {b : Nat} (hb : ∀ k, v.ownBlock = some k → b ≤ k) : w.ownsRow b e K v n xs := by
  refine ⟨h.1, ?_⟩
  rcases h.2 with h1 | ⟨g, cap, cur, rfl, h1, h2⟩
  · exact .inl h1
  · exact .inr ⟨g, cap, cur, rfl, hb g rfl, h2⟩
theorem oset {g c : Nat} (h : w.ownsRow base e K (.slice (some ⟨g, 0, none⟩) n c) n xs) (o : Nat) (u : Value) : (w.setCell ⟨g, o, none⟩ u).ownsRow base e K (.slice (some ⟨g, 0, none⟩) n c) n (xs.set o u) := by
  obtain ⟨hl, h2⟩ := h
  rcases h2 with ⟨h1, _⟩ | ⟨g', cap, cur, h1, hb, hg, h3, h4, h5, h6⟩
  · cases h1
  · cases h1
    refine ⟨by simpa using hl, .inr ⟨g, c, cur.setIfInBounds o u, rfl, hb, ?_, h3, h4, by simpa using h5, ?_⟩⟩
    · simp [World.setCell, Array.getElem?_modify, hg]
    · rw [← h6, Array.toList_setIfInBounds, List.take_set]
/-- The first k elements. -/
theorem ocut {a : Option Addr} {c k : Nat} (h : w.ownsRow base e K (.slice a n c) n xs) (hk : k ≤ n) : w.ownsRow base e K (.slice a k c) k (xs.take (k * K)) := by
  obtain ⟨hl, h2⟩ := h
  refine ⟨by rw [List.length_take, hl]; exact Nat.min_eq_left (Nat.mul_le_mul_right _ hk), ?_⟩
  rcases h2 with ⟨h1, h0⟩ | ⟨g', cap, cur, h1, hb, hg, h3, h4, h5, h6⟩
  · cases h1
    exact .inl ⟨by have : k = 0 := by omega
                   rw [this], by omega⟩
  · cases h1
    refine .inr ⟨g', c, cur, rfl, hb, hg, by omega, h4, h5, ?_⟩
    rw [← h6, List.take_take, Nat.min_eq_left (Nat.mul_le_mul_right _ hk)]
/-- Nothing in it; or a block. -/
theorem osplit (h : w.ownsRow base e K v n xs) (hn : 0 < n) : ∃ g c, v = .slice (some ⟨g, 0, none⟩) n c ∧ g < w.heap.size ∧ n ≤ c ∧ (∃ cur, w.heap[g]? = some (.cells cur e (0, 0))) ∧ ∀ j u, xs[j]? = some u → w.cell? ⟨g, j, none⟩ = some u := by
  have hc := fun g hg => h.cells (g := g) hg
  rcases h.2 with ⟨_, h1⟩ | ⟨g, cap, cur, rfl, h1, h2, h3, _⟩
  · omega
  · refine ⟨g, cap, rfl, (Array.getElem?_eq_some_iff.1 h2).1, h3, ⟨cur, h2⟩, fun j u hu => ?_⟩
    have := hc g rfl j u hu
    rwa [add_plain, Nat.zero_add] at this
theorem oshape (h : w.ownsRow base e K v n xs) : ∃ a c, v = .slice a n c ∧ n ≤ c ∧ c ≤ maxLen := by
  rcases h.2 with ⟨rfl, rfl⟩ | ⟨g, cap, cur, rfl, h1, h2, h3, h4, _⟩
  · exact ⟨none, 0, rfl, Nat.le_refl _, Nat.zero_le _⟩
  · exact ⟨_, cap, rfl, h3, h4⟩
theorem ofrz {g : Nat} {a : Nat} {c : Nat} (h : w.ownsRow base e K (.slice (some ⟨g, 0, none⟩) a c) n xs) (i : Nat) : w.frozen? ⟨g, i, none⟩ = false := by
  obtain ⟨_, cur, hc⟩ := oblk h g rfl
  simp [World.frozen?, hc]
end

/-- A value's block, if it has one, has the tag c. -/
def Tv (t : Nat → Nat) (v : Value) (c : Nat) : Prop := ∀ k, v.ownBlock = some k → t k = c
theorem Tv.none (t : Nat → Nat) (c : Nat) : Tv t (.slice none 0 0) c := fun _ h => by cases h
def upd (t : Nat → Nat) (g c : Nat) : Nat → Nat := fun k => if k = g then c else t k
def updV (t : Nat → Nat) (v : Value) (c : Nat) : Nat → Nat := match v.ownBlock with | some g => upd t g c | none => t
theorem upd_at (t : Nat → Nat) (g c : Nat) : upd t g c g = c := if_pos rfl
theorem upd_ne {t : Nat → Nat} {g c k : Nat} (h : k ≠ g) : upd t g c k = t k := if_neg h
theorem updV_self (t : Nat → Nat) (v : Value) (c : Nat) : Tv (updV t v c) v c := fun k hk => by simp [updV, hk, upd]

/-- A row that has its tag. -/
structure Row (w : World) (t : Nat → Nat) (base : Nat) (e : TypeId) (K : Nat) (v : Value) (n : Nat) (xs : List Value) (c : Nat) : Prop where
  own : w.ownsRow base e K v n xs
  tag : Tv t v c

/-- Only blocks of one tag turn. -/
structure Only (w w' : World) (t : Nat → Nat) (c : Nat) : Prop where
  os : w'.os = w.os
  tape : w'.tape = w.tape
  output : w'.output = w.output
  size : w.heap.size ≤ w'.heap.size
  stay : ∀ k, k < w.heap.size → t k ≠ c → w'.heap[k]? = w.heap[k]?

section
variable {w w' w'' : World} {t t' t'' : Nat → Nat} {base K n c d : Nat} {e : TypeId} {v : Value} {xs : List Value}
theorem Only.refl (w : World) (t : Nat → Nat) (c : Nat) : Only w w t c := ⟨rfl, rfl, rfl, Nat.le_refl _, fun _ _ _ => rfl⟩
theorem Only.trans (h : Only w w' t c) (k : Only w' w'' t c) : Only w w'' t c := ⟨k.os.trans h.os, k.tape.trans h.tape, k.output.trans h.output, Nat.le_trans h.size k.size, fun j hj hn => (k.stay j (Nat.lt_of_lt_of_le hj h.size) hn).trans (h.stay j hj hn)⟩
theorem Only.below (h : Below w.heap.size w w') : Only w w' t c := ⟨h.os, h.tape, h.output, h.size, fun k hk _ => h.block k hk⟩
theorem Only.grown {row : Option Nat} (h : w.grownBy w' row) (hr : ∀ k, row = some k → t k = c) : Only w w' t c := ⟨h.os, h.tape, h.output, h.size, fun k hk hn => h.block k hk fun e => hn (hr k e.symm)⟩
theorem Only.set {g i : Nat} (u : Value) (hg : t g = c) : Only w (w.setCell ⟨g, i, none⟩ u) t c := ⟨rfl, rfl, rfl, by rw [World.size_setCell]; exact Nat.le_refl _, fun k _ hn => Below.heap_setCell _ _ _ _ (fun e => hn (by rw [show k = g from e]; exact hg))⟩
theorem Row.lt (h : Row w t base e K v n xs c) : ∀ k, v.ownBlock = some k → k < w.heap.size ∧ t k = c := fun k hk => ⟨olt h.own k hk, h.tag k hk⟩
theorem Row.only (h : Row w t base e K v n xs d) (ho : Only w w' t c) (hd : d ≠ c) : Row w' t base e K v n xs d :=
  ⟨osame h.own fun k hk => ho.stay k (olt h.own k hk) (by rw [h.tag k hk]; exact hd), h.tag⟩
theorem Row.below (h : Row w t base e K v n xs d) (hb : Below w.heap.size w w') : Row w' t base e K v n xs d := ⟨osame h.own fun k hk => hb.block k (olt h.own k hk), h.tag⟩
/-- A block of the tag c, or a new one, is told anew. -/
theorem Row.upd (h : Row w t base e K v n xs d) {g : Nat} {c' : Nat} (hg : w.heap.size ≤ g ∨ t g = c) (hd : d ≠ c) : Row w (Mach.upd t g c') base e K v n xs d :=
  ⟨h.own, fun k hk => by
    have h1 := olt h.own k hk
    have h2 := h.tag k hk
    rw [upd_ne (by rintro rfl; rcases hg with h3 | h3 <;> omega)]; exact h2⟩
theorem Row.updV (h : Row w t base e K v n xs d) {u : Value} {c' : Nat} (hg : ∀ g, u.ownBlock = some g → w.heap.size ≤ g ∨ t g = c) (hd : d ≠ c) : Row w (Mach.updV t u c') base e K v n xs d := by
  unfold Mach.updV
  cases hu : u.ownBlock with
  | none => exact h
  | some g => exact h.upd (hg g hu) hd
theorem Row.nil (w : World) (t : Nat → Nat) (base : Nat) (e : TypeId) (K c : Nat) : Row w t base e K (.slice none 0 0) 0 [] c := ⟨World.ownsRow_nil _ _ _ _, Tv.none _ _⟩

/-- What a call leaves: blocks that aren't its own (tags 0), and what it reads (tags 1 and 2), stay; what is its own remains its own. -/
structure Fx (w w' : World) (t t' : Nat → Nat) : Prop where
  os : w'.os = w.os
  tape : w'.tape = w.tape
  output : w'.output = w.output
  size : w.heap.size ≤ w'.heap.size
  stay : ∀ k, k < w.heap.size → t k ≤ 2 → w'.heap[k]? = w.heap[k]?
  keep : ∀ k, k < w.heap.size → (t k ≤ 2 → t' k = t k) ∧ (2 < t k → 2 < t' k)
theorem Fx.refl (w : World) (t : Nat → Nat) : Fx w w t t := ⟨rfl, rfl, rfl, Nat.le_refl _, fun _ _ _ => rfl, fun _ _ => ⟨fun _ => rfl, fun h => h⟩⟩
theorem Fx.trans (h : Fx w w' t t') (k : Fx w' w'' t' t'') : Fx w w'' t t'' :=
  ⟨k.os.trans h.os, k.tape.trans h.tape, k.output.trans h.output, Nat.le_trans h.size k.size,
    fun j hj hn => (k.stay j (Nat.lt_of_lt_of_le hj h.size) (by rw [(h.keep j hj).1 hn]; exact hn)).trans (h.stay j hj hn),
    fun j hj => ⟨fun hn => ((k.keep j (Nat.lt_of_lt_of_le hj h.size)).1 (by rw [(h.keep j hj).1 hn]; exact hn)).trans ((h.keep j hj).1 hn), fun hn => (k.keep j (Nat.lt_of_lt_of_le hj h.size)).2 ((h.keep j hj).2 hn)⟩⟩
theorem Fx.only (h : Only w w' t c) (hc : 2 < c) : Fx w w' t t := ⟨h.os, h.tape, h.output, h.size, fun k hk hn => h.stay k hk (by omega), fun _ _ => ⟨fun _ => rfl, fun h => h⟩⟩
theorem Fx.below (h : Below w.heap.size w w') : Fx w w' t t := ⟨h.os, h.tape, h.output, h.size, fun k hk _ => h.block k hk, fun _ _ => ⟨fun _ => rfl, fun h => h⟩⟩
theorem Fx.upd (h : Fx w w' t t') {g c' : Nat} (hg : w'.heap.size ≤ g ∨ 2 < t' g) (hc : 2 < c') : Fx w w' t (Mach.upd t' g c') :=
  ⟨h.os, h.tape, h.output, h.size, h.stay, fun k hk => by
    have h1 := h.keep k hk
    by_cases hkg : k = g
    · subst hkg
      rw [upd_at]
      have h2 := h.size
      refine ⟨fun h3 => ?_, fun _ => hc⟩
      have := h1.1 h3
      rcases hg with h4 | h4 <;> omega
    · rw [upd_ne hkg]; exact h1⟩
theorem Fx.updV (h : Fx w w' t t') {u : Value} {c' : Nat} (hg : ∀ g, u.ownBlock = some g → w'.heap.size ≤ g ∨ 2 < t' g) (hc : 2 < c') : Fx w w' t (Mach.updV t' u c') := by
  unfold Mach.updV
  cases hu : u.ownBlock with
  | none => exact h
  | some g => exact h.upd (hg g hu) hc
theorem Fx.later (h : Fx w w' t t') (hb : Below w'.heap.size w' w'') : Fx w w'' t t' := h.trans (Fx.below hb)
theorem Fx.set (h : Fx w w' t t') {g i : Nat} (u : Value) (hg : 2 < t' g) : Fx w (w'.setCell ⟨g, i, none⟩ u) t t' := h.trans (Fx.only (Only.set u rfl) hg)
theorem Fx.drewN (h : Fx w w' t t') (n : Nat) : Fx w (w'.drewN n) t t' := h.later ⟨rfl, rfl, rfl, Nat.le_refl _, fun _ _ => rfl⟩
/-- As 'upd', the new block being there already. -/
theorem Fx.updN (h : Fx w w' t t') {g c' : Nat} (hg : w.heap.size ≤ g ∨ 2 < t' g) (hc : 2 < c') : Fx w w' t (Mach.upd t' g c') :=
  ⟨h.os, h.tape, h.output, h.size, h.stay, fun k hk => by
    have h1 := h.keep k hk
    by_cases hkg : k = g
    · subst hkg
      rw [upd_at]
      refine ⟨fun h3 => ?_, fun _ => hc⟩
      have := h1.1 h3
      rcases hg with h4 | h4 <;> omega
    · rw [upd_ne hkg]; exact h1⟩
end

/-- Append to a row of the call's own: the block is the old one, or a new one. -/
theorem run_append_f {P : Program} (w : World) (base : Nat) (t ty e : TypeId) (i : TypeInfo) (z : Value) (size bytes : Nat) (ht : P.underlying t = some (.slice e)) (hi : P.info? e = some i) (hz : i.zero = some z)
    (hsize : i.size = size) (hby : i.bytes = bytes) (hzs : z.cells.size = size) (hsz : 0 < size)
    (v : Value) (n : Nat) (xs : List Value) (hown : w.ownsRow base e size v n xs)
    (vx : Value) (m : Nat) (news : List Value) (hr : Rd w size vx m news) (h1 : ∀ u ∈ news, u.oneCell' = true)
    (h63 : n + m ≤ maxLen) (hbytes : (n + m) * bytes ≤ 140737488355328) (hbase : base ≤ w.heap.size) :
    ∃ v' w', (Builtin.append_ #[t, t] ty #[v, vx]).run P w = .ok v' w' ∧ w'.ownsRow base e size v' (n + m) (xs ++ news) ∧ w.grownBy w' v.ownBlock ∧ ∀ g, v'.ownBlock = some g → w.heap.size ≤ g ∨ v.ownBlock = some g := by
  obtain ⟨v', w', hrun, h2, h3⟩ := run_append_own_rd (P := P) w base t ty e i z size bytes ht hi hz hsize hby hzs hsz v n xs hown vx m news hr h1 h63 hbytes hbase
  refine ⟨v', w', hrun, h2, h3, fun g hg => ?_⟩
  rcases hown.2 with ⟨rfl, hn0⟩ | ⟨g0, cap, cur, rfl, hbg, hg0, hnc, hcm, hcs, htake⟩
  · have hown' : w.ownsRow w.heap.size e size (.slice none 0 0) n xs := ⟨hown.1, .inl ⟨rfl, hn0⟩⟩
    obtain ⟨v2, w2, hrun2, h4, _⟩ := run_append_own_rd (P := P) w w.heap.size t ty e i z size bytes ht hi hz hsize hby hzs hsz _ n xs hown' vx m news hr h1 h63 hbytes (Nat.le_refl _)
    rw [hrun] at hrun2
    cases hrun2
    exact .inl (oblk h4 g hg).1
  · rcases hr.2 with ⟨rfl, rfl⟩ | ⟨ad, c, rfl, _, _, hc⟩
    · have hr2 := run_append_owned_none (P := P) (w := w) base t ty e i size ht hi _ n xs hown
      rw [hr2] at hrun
      cases hrun
      exact .inr hg
    · by_cases hroom : n + m ≤ cap
      · subst hsize
        have hfit : n * i.size + news.length ≤ cur.size := by rw [hr.1, hcs, ← Nat.add_mul]; exact Nat.mul_le_mul_right _ hroom
        have hr2 := run_append_room (P := P) w t ty e i ht hi g0 n cap cur hg0 ad m c news hr.1 hc h1 hroom hfit
        rw [hr2] at hrun
        cases hrun
        exact .inr hg
      · subst hsize hby
        have holds : ∀ j u, xs[j]? = some u → w.cell? ((⟨g0, 0, none⟩ : Addr).add j) = some u := hown.cells (g := g0) rfl
        have hr2 := run_append_grow (P := P) w t ty e i z ht hi hz ⟨g0, 0, none⟩ n cap xs hown.1 holds ad m c news hr.1 hc (by omega) (by simp only [maxLen] at h63; omega) (growslice_fits (by omega) hbytes)
        rw [hr2] at hrun
        cases hrun
        simp [Value.ownBlock] at hg
        exact .inl (by omega)

theorem wpList_append_f {P : Program} (w : World) {ops : Array Oper} {rest : List Oper} {o : Oper} {a : Act} {Q : Exit → Act → World → Prop} (hgd : o.guard = none) (s x : Operand) (t : TypeId)
    (ho : o.op = .call { callee := .builtin .append, args := #[s, x], argTypes := #[t, t] })
    (base : Nat) (e : TypeId) (i : TypeInfo) (z : Value) (size bytes : Nat) (ht : P.underlying t = some (.slice e)) (hi : P.info? e = some i) (hz : i.zero = some z)
    (hsize : i.size = size) (hby : i.bytes = bytes) (hzs : z.cells.size = size) (hsz : 0 < size)
    (v : Value) (n : Nat) (xs : List Value) (hs : a.eval s = v) (hown : w.ownsRow base e size v n xs)
    (vx : Value) (m : Nat) (news : List Value) (hx : a.eval x = vx) (hr : Rd w size vx m news) (h1 : ∀ u ∈ news, u.oneCell' = true)
    (h63 : n + m ≤ maxLen) (hbytes : (n + m) * bytes ≤ 140737488355328) (hbase : base ≤ w.heap.size)
    (h : ∀ v' w', w'.ownsRow base e size v' (n + m) (xs ++ news) → w.grownBy w' v.ownBlock → (∀ g, v'.ownBlock = some g → w.heap.size ≤ g ∨ v.ownBlock = some g) → wpList P ops Q rest (a.put o.dst v') w') : wpList P ops Q (o :: rest) a w := by
  obtain ⟨v', w', hrun, h2, h3, h4⟩ := run_append_f (P := P) w base t o.type e i z size bytes ht hi hz hsize hby hzs hsz v n xs hown vx m news hr h1 h63 hbytes hbase
  refine wpList_plain hgd fun _ hK => ?_
  unfold Oper.wp execOp
  simp only [ho, resolve, invoke, builtin, Sem.run_bind, Sem.run_pure, Result.andThen_ok, List.map_toArray, List.map_cons, List.map_nil, hs, hx, hrun]
  exact hK _ _ (h v' w' h2 h3 h4)

theorem step_append_f {P : Program} {ops : Array Oper} {o : Oper} {a : Act} {w : World} {K : Act → World → Prop} {Q : Exit → Act → World → Prop} {E : Prop}
    (hg : o.guard = none) (s x : Operand) (t : TypeId) (hop : o.op = Op.call { callee := Callee.builtin Builtin.append, args := #[s, x], argTypes := #[t, t] })
    (base : Nat) (e : TypeId) (i : TypeInfo) (z : Value) (size bytes : Nat) (ht : P.underlying t = some (.slice e)) (hi : P.info? e = some i) (hz : i.zero = some z)
    (hsize : i.size = size) (hby : i.bytes = bytes) (hzs : z.cells.size = size) (hsz : 0 < size)
    (v : Value) (n : Nat) (xs : List Value) (hs : a.eval s = v) (hown : w.ownsRow base e size v n xs)
    (vx : Value) (m : Nat) (news : List Value) (hx : a.eval x = vx) (hr : Rd w size vx m news) (h1 : ∀ u ∈ news, u.oneCell' = true)
    (h63 : n + m ≤ maxLen) (hbytes : (n + m) * bytes ≤ 140737488355328) (hbase : base ≤ w.heap.size)
    (hK : ∀ v' w', w'.ownsRow base e size v' (n + m) (xs ++ news) → w.grownBy w' v.ownBlock → (∀ g, v'.ownBlock = some g → w.heap.size ≤ g ∨ v.ownBlock = some g) → K (a.put o.dst v') w') :
    if Region.wanted o (yielded ops a.tmps) = true then Oper.wp P o a w K Q else E := by
  have hw : Region.wanted o (yielded ops a.tmps) = true := by simp [Region.wanted, hg]
  rw [if_pos hw]
  obtain ⟨v', w', hrun, h2, h3, h4⟩ := run_append_f (P := P) w base t o.type e i z size bytes ht hi hz hsize hby hzs hsz v n xs hown vx m news hr h1 h63 hbytes hbase
  unfold Oper.wp
  simp [execOp, hop, resolve, invoke, builtin, hs, hx, hrun, Result.andThen]
  exact hK v' w' h2 h3 h4

end Go.Proofs.YtnanlkoldloolaaDoor.Mach

/- The machine, plainly: its state, what a step does, what many do. No program in sight. -/
namespace Go.Proofs.YtnanlkoldloolaaDoor
open Go.RowKit

def b01 (p : Bool) : Int := if p then 1 else 0
/-- What an operation of two numbers gives, and its trap (0: none). -/
def valF (op a b : Int) : Int × Int :=
  if op == 1 then (wrap64 (a + b), 0) else if op == 2 then (wrap64 (a - b), 0) else if op == 3 then (wrap64 (a * b), 0)
  else if op == 4 then (if b == 0 then (0, 2) else if b == -1 then (wrap64 (-a), 0) else (wrap64 (a.tdiv b), 0))
  else if op == 5 then (if b == 0 then (0, 2) else if b == -1 then (0, 0) else (a.tmod b, 0))
  else if op == 6 then (bits .and .i64 a b, 0) else if op == 7 then (bits .or .i64 a b, 0) else if op == 8 then (bits .xor .i64 a b, 0)
  else if op == 9 then (wrap64 (a * 2 ^ (b % 64).toNat), 0) else if op == 10 then (a / 2 ^ (b % 64).toNat, 0)
  else if op == 19 then (wrap64 (-a), 0) else if op == 20 then (wrap64 (-1 - a), 0)
  else if op == 11 then (b01 (decide (a < b)), 0) else if op == 12 then (b01 (decide (a ≤ b)), 0) else if op == 13 then (b01 (decide (b < a)), 0)
  else if op == 14 then (b01 (decide (b ≤ a)), 0) else if op == 15 then (b01 (a == b), 0) else if op == 16 then (b01 (a != b), 0)
  else if op == 21 then (b01 (a == 0), 0) else (0, 8)

/-- An open call. -/
structure Fr where
  fn : Int
  next : Int
  regs : List Int
  slots : List Int
  args : List Int
  ready : List Int
  dst : Int
/-- A machine, but for its image and its input; the innermost call stands last. -/
structure St where
  steps : Int
  end_ : Int
  exit : Int
  outs : List Int
  read : Int
  marks : Int
  at_ : Int
  heap : List Int
  opn : List Fr
/-- What a machine runs on. -/
structure Env where
  ws : List W
  es : List (Int × Int)
  inp : List Int

def slotsOk (n : Int) : Bool := decide (0 ≤ n) && decide (n ≤ 60000)
def Env.ent (E : Env) (fn : Int) : Int × Int := E.es.getD fn.toNat (0, 0)
def slotsN (n : Int) : Nat := if slotsOk n then n.toNat else 0
def newFr (E : Env) (fn : Int) (args : List Int) (dst : Int) : Fr := ⟨fn, (E.ent fn).1, List.replicate 16 0, List.replicate (slotsN (E.ent fn).2) 0, args, [], dst⟩
def Fr.r (f : Fr) (i : Int) : Int := f.regs.getD i.toNat 0
def Fr.put (f : Fr) (i v : Int) : Fr := { f with regs := f.regs.set i.toNat v }

/-- A cell of the heap: why there is none, or 0 and its place. -/
def cellF (h : List Int) (a i : Int) : Int × Int :=
  if decide (a < 1) || decide ((h.length : Int) < a) then (8, 0)
  else if decide (i < 0) || decide (h.getD (a - 1).toNat 0 ≤ i) then (3, 0)
  else if decide ((h.length : Int) - a ≤ i) then (8, 0) else (0, a + i)

def St.top (s : St) (os : List Fr) (f : Fr) : St := { s with opn := os ++ [f] }
def St.ends (s : St) (e : Int) : St := { s with end_ := e }

/-- An instruction that is right, in the innermost call f; os: the calls around it. -/
def doF (E : Env) (s : St) (os : List Fr) (f : Fr) (x : W) : St :=
  if x.op == 30 then s.top os (f.put x.a x.imm)
  else if x.op == 31 then s.top os (f.put x.a (f.r x.b))
  else if x.op == 32 then (if decide ((f.slots.length : Int) ≤ x.imm) then (s.ends 8).top os f else s.top os (f.put x.a (f.slots.getD x.imm.toNat 0)))
  else if x.op == 33 then (if decide ((f.slots.length : Int) ≤ x.imm) then (s.ends 8).top os f else s.top os { f with slots := f.slots.set x.imm.toNat (f.r x.a) })
  else if x.op == 34 then (match cellF s.heap (f.r x.b) (f.r x.c) with
    | (e, p) => if e == 0 then s.top os (f.put x.a (s.heap.getD p.toNat 0)) else (s.ends e).top os f)
  else if x.op == 35 then (match cellF s.heap (f.r x.a) (f.r x.b) with
    | (e, p) => if e == 0 then { s with heap := s.heap.set p.toNat (f.r x.c) }.top os f else (s.ends e).top os f)
  else if x.op == 36 then (if decide (f.r x.b < 1) || decide ((s.heap.length : Int) < f.r x.b) then (s.ends 8).top os f else s.top os (f.put x.a (s.heap.getD (f.r x.b - 1).toNat 0)))
  else if x.op == 37 then (if decide (4096 < (s.heap.length : Int) + x.imm + 1) then (s.ends 7).top os f
    else { s with heap := s.heap ++ [x.imm] ++ List.replicate x.imm.toNat 0 }.top os (f.put x.a (s.heap.length + 1)))
  else if x.op == 38 then s.top os (f.put x.a s.heap.length)
  else if x.op == 39 then (if decide (f.r x.a < 0) || decide ((s.heap.length : Int) < f.r x.a) then (s.ends 8).top os f else { s with heap := s.heap.take (f.r x.a).toNat }.top os f)
  else if x.op == 40 then (if decide (6 ≤ f.ready.length) then (s.ends 8).top os f else s.top os { f with ready := f.ready ++ [f.r x.a] })
  else if x.op == 41 then (if decide ((E.es.length : Int) ≤ x.imm) then (s.ends 8).top os f
    else if !slotsOk (E.ent x.imm).2 then (s.ends 8).top os f
    else if decide (100 ≤ os.length + 1) then (s.ends 6).top os f
    else s.top (os ++ [{ f with ready := [] }]) (newFr E x.imm f.ready x.a))
  else if x.op == 42 then { s with outs := s.outs ++ [f.r x.a] }.top os f
  else if x.op == 43 then (if decide ((E.inp.length : Int) ≤ s.read) then (s.ends 4).top os f else { s with read := s.read + 1 }.top os (f.put x.a (E.inp.getD s.read.toNat 0)))
  else if x.op == 44 then { s with marks := wrap64 (s.marks + 1) }.top os f
  else if x.op == 45 then s.top os { f with next := x.imm }
  else if x.op == 46 then (if f.r x.a == 0 then s.top os { f with next := x.imm } else s.top os f)
  else if x.op == 47 then (match os.getLast? with
    | none => { s with opn := [], exit := f.r x.a, end_ := 1 }
    | some g => s.top os.dropLast (g.put f.dst (f.r x.a)))
  else if x.op == 48 then (if decide ((f.args.length : Int) ≤ x.imm) then (s.ends 8).top os f else s.top os (f.put x.a (f.args.getD x.imm.toNat 0)))
  else (match valF x.op (f.r x.b) (f.r x.c) with
    | (n, t) => if t != 0 then (s.ends t).top os f else s.top os (f.put x.a n))

/-- A step, and what it was (0: none). -/
def stepF (E : Env) (s : St) : St × Int :=
  match s.opn.getLast? with
  | none => (s, 0)
  | some f =>
    let s1 := { s with steps := wrap64 (s.steps + 1), at_ := f.next }
    if !slotsOk (E.ent f.fn).2 || decide (f.next < 0) || decide ((E.ws.length : Int) ≤ f.next) then (s1.ends 8, 0)
    else
      let x := E.ws.getD f.next.toNat W.zero
      let f' := { f with next := f.next + 1 }
      if formB x then (doF E s1 s.opn.dropLast f' x, x.op) else ((s1.ends 8).top s.opn.dropLast f', 0)

/-- So many steps; how many were done. -/
def runF (E : Env) : Nat → St → Nat × St
  | 0, s => (0, s)
  | n + 1, s => if s.end_ == 0 then ((runF E n (stepF E s).1).1 + 1, (runF E n (stepF E s).1).2) else (0, s)
/-- Steps till one was a mark. -/
def markF (E : Env) : Nat → St → Bool × St
  | 0, s => (false, s)
  | n + 1, s => if s.end_ == 0 then (if (stepF E s).2 == 44 then (true, (stepF E s).1) else markF E n (stepF E s).1) else (false, s)
/-- A machine at its beginning. -/
def newF (E : Env) (main : Int) : St := ⟨0, 0, 0, [], 0, 0, 0, [], [newFr E main [] 0]⟩

end Go.Proofs.YtnanlkoldloolaaDoor

/- Lists of numbers and of entries in memory; what a machine reads. -/
namespace Go.Proofs.YtnanlkoldloolaaDoor.Mach
open Go.RowKit

def intsV (l : List Int) : List Value := l.map (Value.int .i64)
theorem intsV_at {l : List Int} {j : Nat} (h : j < l.length) : (intsV l)[j]? = some (.int .i64 (l.getD j 0)) := by simp [intsV, h]
theorem intsV_set (l : List Int) (j : Nat) (x : Int) : (intsV l).set j (.int .i64 x) = intsV (l.set j x) := by simp [intsV, List.map_set]
theorem intsV_take (l : List Int) (k : Nat) : (intsV l).take k = intsV (l.take k) := by simp [intsV, List.map_take]
theorem intsV_app (l m : List Int) : intsV l ++ intsV m = intsV (l ++ m) := by simp [intsV]
theorem intsV_one (l : List Int) : ∀ u ∈ intsV l, u.oneCell' = true := ints_oneCell .i64 l

def entC : List (Int × Int) → List Value
  | [] => []
  | x :: r => .int .i64 x.1 :: .int .i64 x.2 :: entC r
theorem entC_length : ∀ l, (entC l).length = l.length * 2
  | [] => rfl
  | x :: r => by simp [entC, entC_length r]; omega
theorem entC_at : ∀ (l : List (Int × Int)) (j : Nat) (_ : j < l.length), (entC l)[j * 2]? = some (.int .i64 (l.getD j (0, 0)).1) ∧ (entC l)[j * 2 + 1]? = some (.int .i64 (l.getD j (0, 0)).2)
  | x :: r, 0, _ => by simp [entC]
  | x :: r, j + 1, h => by
    have ih := entC_at r j (by simpa using h)
    have e : (j + 1) * 2 = j * 2 + 1 + 1 := by omega
    rw [e]
    simpa [entC] using ih
theorem entC_one : ∀ (l : List (Int × Int)), ∀ u ∈ entC l, u.oneCell' = true
  | [], u, hu => by simp [entC] at hu
  | x :: r, u, hu => by
    simp only [entC, List.mem_cons] at hu
    rcases hu with rfl | rfl | hu
    · rfl
    · rfl
    · exact entC_one r u hu

theorem Rd.keepB {w w' : World} {size : Nat} {v : Value} {n : Nat} {xs : List Value} (h : Rd w size v n xs) (hs : 0 < n → ∀ k, k < w.heap.size → v.ownBlock = some k → w'.heap[k]? = w.heap[k]?) : Rd w' size v n xs := by
  refine ⟨h.1, ?_⟩
  rcases h.2 with hn | ⟨a, cap, rfl, h1, h2, h3⟩
  · exact .inl hn
  · refine .inr ⟨a, cap, rfl, h1, h2, fun j u hu => ?_⟩
    have hc := h3 j u hu
    have e : (a.add j).block = a.block := by unfold Addr.add; split <;> rfl
    have hn : 0 < n := by
      have h4 := (List.getElem?_eq_some_iff.1 hu).1
      rw [h.1] at h4
      exact Nat.pos_of_ne_zero fun e => by rw [e, Nat.zero_mul] at h4; omega
    rw [World.cell?_of_block (w := w) (by rw [e]; exact hs hn a.block (by have := World.block_lt_of_cell? w _ hc; rwa [e] at this) rfl)]; exact hc
theorem Rd.blk {w : World} {size : Nat} {v : Value} {n : Nat} {xs : List Value} (h : Rd w size v n xs) (hn : 0 < n) (hz : 0 < size) : ∀ k, v.ownBlock = some k → k < w.heap.size := fun k hk => by
  rcases Rd.split h hz with ⟨_, _, _, h2, _⟩ | ⟨b, off, c, rfl, _, _, _, hl, _⟩
  · omega
  · simp only [Value.ownBlock, Option.some.injEq] at hk; omega

/-- What a machine reads and never writes. -/
structure EnvAt (w : World) (t : Nat → Nat) (wv ev iv : Value) (E : Env) : Prop where
  hw : Rd w 5 wv E.ws.length (cW E.ws)
  tw : 0 < E.ws.length → ∀ k, wv.ownBlock = some k → t k ≤ 2
  he : Rd w 2 ev E.es.length (entC E.es)
  te : 0 < E.es.length → ∀ k, ev.ownBlock = some k → t k ≤ 2
  hi : Rd w 1 iv E.inp.length (intsV E.inp)
  ti : 0 < E.inp.length → ∀ k, iv.ownBlock = some k → t k ≤ 2
theorem EnvAt.fx {w w' : World} {t t' : Nat → Nat} {wv ev iv : Value} {E : Env} (h : EnvAt w t wv ev iv E) (hf : Fx w w' t t') : EnvAt w' t' wv ev iv E :=
  ⟨Rd.keepB h.hw fun hn k hl hb => hf.stay k hl (h.tw hn k hb), fun hn k hb => by rw [(hf.keep k (Rd.blk h.hw hn (by omega) k hb)).1 (h.tw hn k hb)]; exact h.tw hn k hb,
    Rd.keepB h.he fun hn k hl hb => hf.stay k hl (h.te hn k hb), fun hn k hb => by rw [(hf.keep k (Rd.blk h.he hn (by omega) k hb)).1 (h.te hn k hb)]; exact h.te hn k hb,
    Rd.keepB h.hi fun hn k hl hb => hf.stay k hl (h.ti hn k hb), fun hn k hb => by rw [(hf.keep k (Rd.blk h.hi hn (by omega) k hb)).1 (h.ti hn k hb)]; exact h.ti hn k hb⟩

theorem heap_set {w : World} {M : Nat} {c : Array Value} {T : TypeId} {f : Nat × Nat} (h : w.heap[M]? = some (.cells c T f)) (i : Nat) (v : Value) : (w.setCell ⟨M, i, none⟩ v).heap[M]? = some (.cells (c.setIfInBounds i v) T f) := by
  simp [World.setCell, Array.getElem?_modify, h]
theorem cellA {w : World} {p : Addr} {v : Value} (h : w.cell? p = some v) (n : Nat) (o : Obj) : ((w.drewN n).alloc o).cell? p = some v := by
  have hb : Below w.heap.size w (w.drewN n) := ⟨rfl, rfl, rfl, Nat.le_refl _, fun _ _ => rfl⟩
  exact ((hb.alloc (Nat.le_refl _) o).cell (p := p) (World.block_lt_of_cell? w p h)).trans h
theorem frzA {w : World} {p : Addr} {v : Value} (h : w.cell? p = some v) (hz : w.frozen? p = false) (n : Nat) (o : Obj) : ((w.drewN n).alloc o).frozen? p = false := by
  have hb : Below w.heap.size w (w.drewN n) := ⟨rfl, rfl, rfl, Nat.le_refl _, fun _ _ => rfl⟩
  exact ((hb.alloc (Nat.le_refl _) o).frozen (p := p) (World.block_lt_of_cell? w p h)).trans hz
theorem formB_37 {a b c : Int} {n : Nat} (h : formB ⟨37, a, b, c, (n : Int)⟩ = true) : n ≤ 256 := by
  simp [formB, shp, formP] at h; omega
theorem formB_imm {op a b c i : Int} (h : formB ⟨op, a, b, c, i⟩ = true) (ho : op = 32 ∨ op = 33 ∨ op = 37 ∨ op = 41 ∨ op = 44 ∨ op = 45 ∨ op = 46 ∨ op = 48) : 0 ≤ i := by
  rcases ho with rfl | rfl | rfl | rfl | rfl | rfl | rfl | rfl <;> simp [formB, shp, formP] at h <;> omega
theorem formB_regs {op a b c imm : Int} (h : formB ⟨op, a, b, c, imm⟩ = true) : a < 16 ∧ b < 16 ∧ c < 16 := by
  unfold formB at h
  rcases shp op with ⟨r, i, lo, hi, ok⟩
  simp only [formP, Bool.and_eq_true, decide_eq_true_eq] at h
  exact ⟨h.2.1.1.1.1.1.1, h.2.1.1.1.1.1.2, h.2.1.1.1.1.2⟩
theorem EnvAt.ent {w : World} {t : Nat → Nat} {wv ev iv : Value} {E : Env} (h : EnvAt w t wv ev iv E) {fn : Int} (h0 : 0 ≤ fn) (h1 : fn < E.es.length) :
    ∃ eb eo ec, ev = .slice (some ⟨eb, eo, none⟩) E.es.length ec ∧ w.cell? ⟨eb, eo + fn.toNat * 2, none⟩ = some (.int .i64 (E.ent fn).1) ∧ w.cell? ⟨eb, eo + fn.toNat * 2 + 1, none⟩ = some (.int .i64 (E.ent fn).2) ∧ eb < w.heap.size ∧ t eb ≤ 2 := by
  rcases Rd.split h.he (by omega) with ⟨_, _, _, h2, _⟩ | ⟨eb, eo, ec, he, _, _, _, hl, hc⟩
  · omega
  · have hj : fn.toNat < E.es.length := by omega
    have hlen := entC_length E.es
    obtain ⟨c1, c2⟩ := entC_at E.es fn.toNat hj
    obtain ⟨i1, c1⟩ := List.getElem?_eq_some_iff.1 c1
    obtain ⟨i2, c2⟩ := List.getElem?_eq_some_iff.1 c2
    refine ⟨eb, eo, ec, he, ?_, ?_, hl, h.te (by omega) eb (by rw [he]; rfl)⟩
    · rw [hc _ i1, c1]; rfl
    · rw [Nat.add_assoc, hc _ i2, c2]; rfl
theorem EnvAt.word {w : World} {t : Nat → Nat} {wv ev iv : Value} {E : Env} (h : EnvAt w t wv ev iv E) {n : Int} (h0 : 0 ≤ n) (h1 : n < E.ws.length) :
    ∃ b o c, wv = .slice (some ⟨b, o, none⟩) E.ws.length c ∧ w.cell? ⟨b, o + n.toNat * 5, none⟩ = some (.int .u8 (E.ws.getD n.toNat W.zero).op) ∧ w.cell? ⟨b, o + n.toNat * 5 + 1, none⟩ = some (.int .u8 (E.ws.getD n.toNat W.zero).a) ∧ w.cell? ⟨b, o + n.toNat * 5 + 2, none⟩ = some (.int .u8 (E.ws.getD n.toNat W.zero).b) ∧
      w.cell? ⟨b, o + n.toNat * 5 + 3, none⟩ = some (.int .u8 (E.ws.getD n.toNat W.zero).c) ∧ w.cell? ⟨b, o + n.toNat * 5 + 4, none⟩ = some (.int .i64 (E.ws.getD n.toNat W.zero).imm) ∧ b < w.heap.size ∧ t b ≤ 2 := by
  have hj : n.toNat < E.ws.length := by omega
  rcases RdW.split h.hw with ⟨_, _, _, h2⟩ | ⟨b, o, c, he, _, _, _, hl, hc⟩
  · rw [h2] at h1; simp at h1; omega
  · obtain ⟨c0, c1, c2, c3, c4⟩ := hc n.toNat hj
    rw [List.getD_eq_getElem?_getD, List.getElem?_eq_getElem hj]
    exact ⟨b, o, c, he, c0, c1, c2, c3, c4, hl, h.tw (by omega) b (by rw [he]; rfl)⟩
theorem top_top (s : St) (os os' : List Fr) (f f' : Fr) : (s.top os f).top os' f' = s.top os' f' := rfl
end Go.Proofs.YtnanlkoldloolaaDoor.Mach

/- The document's machine in memory: which block belongs to what, and what stays of it. -/
namespace Go.Proofs.YtnanlkoldloolaaDoor.Mach
open Go.RowKit

/-- Where a call's parts lie. -/
structure CV where
  at_ : Int
  rv : Value
  sv : Value
  av : Value
  yv : Value
def callC (p : Fr × CV) : List Value := [.int .i64 p.1.fn, .int .i64 p.2.at_, p.2.rv, p.2.sv, .int .i64 p.1.next, p.2.av, p.2.yv, .int .u8 p.1.dst]
def callsC (l : List (Fr × CV)) : List Value := l.flatMap callC
theorem callsC_length (l : List (Fr × CV)) : (callsC l).length = l.length * 8 := by
  induction l with
  | nil => rfl
  | cons x r ih => simp only [callsC, List.flatMap_cons, List.length_append, List.length_cons] at *; rw [ih]; simp [callC]; omega
theorem callsC_snoc (l : List (Fr × CV)) (p : Fr × CV) : callsC (l ++ [p]) = callsC l ++ callC p := by simp [callsC]
theorem callsC_at (l : List (Fr × CV)) (p : Fr × CV) (j : Nat) (hj : j < 8) : (callsC (l ++ [p]))[l.length * 8 + j]? = (callC p)[j]? := by
  rw [callsC_snoc, List.getElem?_append_right (by rw [callsC_length]; omega), callsC_length]
  congr 1; omega
theorem callsC_set (l : List (Fr × CV)) (p : Fr × CV) (j : Nat) (v : Value) : (callsC (l ++ [p])).set (l.length * 8 + j) v = callsC l ++ (callC p).set j v := by
  rw [callsC_snoc, List.set_append_right _ _ (by rw [callsC_length]; omega), callsC_length]
  congr 2; omega

structure CRep (w : World) (t : Nat → Nat) (base i : Nat) (p : Fr × CV) : Prop where
  rg : Row w t base 2 1 p.2.rv 16 (intsV p.1.regs) (7 + 4 * i)
  sl : Row w t base 2 1 p.2.sv p.1.slots.length (intsV p.1.slots) (8 + 4 * i)
  ar : Row w t base 2 1 p.2.av p.1.args.length (intsV p.1.args) (9 + 4 * i)
  rd : Row w t base 2 1 p.2.yv p.1.ready.length (intsV p.1.ready) (10 + 4 * i)
theorem CRep.regs {w : World} {t : Nat → Nat} {base i : Nat} {p : Fr × CV} (h : CRep w t base i p) : p.1.regs.length = 16 := by have := h.rg.own.1; simpa [intsV] using this

theorem CRep.only {w w' : World} {t : Nat → Nat} {base i c : Nat} {p : Fr × CV} (h : CRep w t base i p) (ho : Only w w' t c) (hc : c < 7 + 4 * i ∨ 11 + 4 * i ≤ c) : CRep w' t base i p :=
  ⟨h.rg.only ho (by omega), h.sl.only ho (by omega), h.ar.only ho (by omega), h.rd.only ho (by omega)⟩
theorem CRep.below {w w' : World} {t : Nat → Nat} {base i : Nat} {p : Fr × CV} (h : CRep w t base i p) (hb : Below w.heap.size w w') : CRep w' t base i p :=
  ⟨h.rg.below hb, h.sl.below hb, h.ar.below hb, h.rd.below hb⟩
theorem CRep.upd {w : World} {t : Nat → Nat} {base i c c' g : Nat} {p : Fr × CV} (h : CRep w t base i p) (hg : w.heap.size ≤ g ∨ t g = c) (hc : c < 7 + 4 * i ∨ 11 + 4 * i ≤ c) : CRep w (upd t g c') base i p :=
  ⟨h.rg.upd hg (by omega), h.sl.upd hg (by omega), h.ar.upd hg (by omega), h.rd.upd hg (by omega)⟩
theorem CRep.updV {w : World} {t : Nat → Nat} {base i c c' : Nat} {u : Value} {p : Fr × CV} (h : CRep w t base i p) (hg : ∀ g, u.ownBlock = some g → w.heap.size ≤ g ∨ t g = c) (hc : c < 7 + 4 * i ∨ 11 + 4 * i ≤ c) : CRep w (updV t u c') base i p :=
  ⟨h.rg.updV hg (by omega), h.sl.updV hg (by omega), h.ar.updV hg (by omega), h.rd.updV hg (by omega)⟩

def CAll (w : World) (t : Nat → Nat) (base : Nat) (l : List (Fr × CV)) : Prop := ∀ i p, l[i]? = some p → CRep w t base i p
theorem CAll.snoc {w : World} {t : Nat → Nat} {base : Nat} {l : List (Fr × CV)} {p : Fr × CV} (h : CAll w t base l) (hp : CRep w t base l.length p) : CAll w t base (l ++ [p]) := fun i q hq => by
  rcases Nat.lt_or_ge i l.length with hi | hi
  · rw [List.getElem?_append_left hi] at hq; exact h i q hq
  · rw [List.getElem?_append_right hi] at hq
    obtain ⟨h1, h2⟩ := List.getElem?_eq_some_iff.1 hq
    have : i = l.length := by simp at h1; omega
    subst this
    simp at h2
    exact h2 ▸ hp
theorem CAll.init {w : World} {t : Nat → Nat} {base : Nat} {l : List (Fr × CV)} {p : Fr × CV} (h : CAll w t base (l ++ [p])) : CAll w t base l := fun i q hq => h i q (by
  rw [List.getElem?_append_left (List.getElem?_eq_some_iff.1 hq).1]; exact hq)
theorem CAll.last {w : World} {t : Nat → Nat} {base : Nat} {l : List (Fr × CV)} {p : Fr × CV} (h : CAll w t base (l ++ [p])) : CRep w t base l.length p := h _ _ (by simp)
theorem CAll.only {w w' : World} {t : Nat → Nat} {base c : Nat} {l : List (Fr × CV)} (h : CAll w t base l) (ho : Only w w' t c) (hc : c < 7 ∨ 7 + 4 * l.length ≤ c) : CAll w' t base l := fun i p hp =>
  (h i p hp).only ho (by have := (List.getElem?_eq_some_iff.1 hp).1; omega)
theorem CAll.below {w w' : World} {t : Nat → Nat} {base : Nat} {l : List (Fr × CV)} (h : CAll w t base l) (hb : Below w.heap.size w w') : CAll w' t base l := fun i p hp => (h i p hp).below hb
theorem CAll.upd {w : World} {t : Nat → Nat} {base c c' g : Nat} {l : List (Fr × CV)} (h : CAll w t base l) (hg : w.heap.size ≤ g ∨ t g = c) (hc : c < 7 ∨ 7 + 4 * l.length ≤ c) : CAll w (Mach.upd t g c') base l := fun i p hp =>
  (h i p hp).upd hg (by have := (List.getElem?_eq_some_iff.1 hp).1; omega)
theorem CAll.updV {w : World} {t : Nat → Nat} {base c c' : Nat} {u : Value} {l : List (Fr × CV)} (h : CAll w t base l) (hg : ∀ g, u.ownBlock = some g → w.heap.size ≤ g ∨ t g = c) (hc : c < 7 ∨ 7 + 4 * l.length ≤ c) : CAll w (Mach.updV t u c') base l := fun i p hp =>
  (h i p hp).updV hg (by have := (List.getElem?_eq_some_iff.1 hp).1; omega)

/-- Where the document's machine has its parts. -/
structure RV where
  wv : Value
  ev : Value
  mn : Int
  dv : Value
  iv : Value
  hv : Value
  ov : Value
  xv : Value
def rC (V : RV) (s : St) (mk : Bool) : Array Value :=
  #[V.wv, V.ev, .int .i64 V.mn, V.dv, V.iv, V.hv, V.ov, .int .u8 s.end_, .int .i64 s.exit, V.xv, .int .i64 s.read, .int .i64 s.steps, .int .i64 s.marks, .int .i64 s.at_, .bool mk]
structure RRep (w : World) (t : Nat → Nat) (base M : Nat) (E : Env) (V : RV) (cl : List (Fr × CV)) (s : St) (mk : Bool) : Prop where
  hm : w.heap[M]? = some (.cells (rC V s mk) 45 (0, 0))
  tm : t M = 3
  env : EnvAt w t V.wv V.ev V.iv E
  opn : s.opn = cl.map Prod.fst
  ho : Row w t base 95 8 V.ov cl.length (callsC cl) 4
  hh : Row w t base 2 1 V.hv s.heap.length (intsV s.heap) 5
  hx : Row w t base 2 1 V.xv s.outs.length (intsV s.outs) 6
  fr : CAll w t base cl
  lt : ∀ k, t k ≠ 0 → k < w.heap.size
  ge : ∀ k, 2 < t k → base ≤ k ∧ base ≤ w.heap.size
theorem rC_end (V : RV) (s : St) (mk : Bool) (x : Int) : (rC V s mk).setIfInBounds 7 (.int .u8 x) = rC V { s with end_ := x } mk := by simp [rC]
theorem rC_exit (V : RV) (s : St) (mk : Bool) (x : Int) : (rC V s mk).setIfInBounds 8 (.int .i64 x) = rC V { s with exit := x } mk := by simp [rC]
theorem rC_read (V : RV) (s : St) (mk : Bool) (x : Int) : (rC V s mk).setIfInBounds 10 (.int .i64 x) = rC V { s with read := x } mk := by simp [rC]
theorem rC_steps (V : RV) (s : St) (mk : Bool) (x : Int) : (rC V s mk).setIfInBounds 11 (.int .i64 x) = rC V { s with steps := x } mk := by simp [rC]
theorem rC_marks (V : RV) (s : St) (mk : Bool) (x : Int) : (rC V s mk).setIfInBounds 12 (.int .i64 x) = rC V { s with marks := x } mk := by simp [rC]
theorem rC_at (V : RV) (s : St) (mk : Bool) (x : Int) : (rC V s mk).setIfInBounds 13 (.int .i64 x) = rC V { s with at_ := x } mk := by simp [rC]
theorem rC_mk (V : RV) (s : St) (mk mk' : Bool) : (rC V s mk).setIfInBounds 14 (.bool mk') = rC V s mk' := by simp [rC]
theorem RRep.setM {w w' : World} {t : Nat → Nat} {base M : Nat} {E : Env} {V : RV} {cl : List (Fr × CV)} {s s' : St} {mk mk' : Bool} (h : RRep w t base M E V cl s mk) (ho : Only w w' t 3) (hm : w'.heap[M]? = some (.cells (rC V s' mk') 45 (0, 0)))
    (e1 : s'.opn = s.opn) (e2 : s'.heap = s.heap) (e3 : s'.outs = s.outs) : RRep w' t base M E V cl s' mk' :=
  ⟨hm, h.tm, h.env.fx (Fx.only ho (by omega)), e1.trans h.opn, h.ho.only ho (by omega), by rw [e2]; exact h.hh.only ho (by omega), by rw [e3]; exact h.hx.only ho (by omega), h.fr.only ho (by omega),
    fun k hk => Nat.lt_of_lt_of_le (h.lt k hk) ho.size, fun k hk => ⟨(h.ge k hk).1, Nat.le_trans (h.ge k hk).2 ho.size⟩⟩
theorem RRep.end' {w : World} {t : Nat → Nat} {base M : Nat} {E : Env} {V : RV} {cl : List (Fr × CV)} {s : St} {mk : Bool} (h : RRep w t base M E V cl s mk) (x : Int) : RRep (w.setCell ⟨M, 7, none⟩ (.int .u8 x)) t base M E V cl (s.ends x) mk :=
  h.setM (Only.set _ h.tm) (by rw [heap_set h.hm, rC_end]; rfl) rfl rfl rfl
theorem RRep.exit' {w : World} {t : Nat → Nat} {base M : Nat} {E : Env} {V : RV} {cl : List (Fr × CV)} {s : St} {mk : Bool} (h : RRep w t base M E V cl s mk) (x : Int) : RRep (w.setCell ⟨M, 8, none⟩ (.int .i64 x)) t base M E V cl { s with exit := x } mk :=
  h.setM (Only.set _ h.tm) (by rw [heap_set h.hm, rC_exit]) rfl rfl rfl
theorem RRep.read' {w : World} {t : Nat → Nat} {base M : Nat} {E : Env} {V : RV} {cl : List (Fr × CV)} {s : St} {mk : Bool} (h : RRep w t base M E V cl s mk) (x : Int) : RRep (w.setCell ⟨M, 10, none⟩ (.int .i64 x)) t base M E V cl { s with read := x } mk :=
  h.setM (Only.set _ h.tm) (by rw [heap_set h.hm, rC_read]) rfl rfl rfl
theorem RRep.steps' {w : World} {t : Nat → Nat} {base M : Nat} {E : Env} {V : RV} {cl : List (Fr × CV)} {s : St} {mk : Bool} (h : RRep w t base M E V cl s mk) (x : Int) : RRep (w.setCell ⟨M, 11, none⟩ (.int .i64 x)) t base M E V cl { s with steps := x } mk :=
  h.setM (Only.set _ h.tm) (by rw [heap_set h.hm, rC_steps]) rfl rfl rfl
theorem RRep.marks' {w : World} {t : Nat → Nat} {base M : Nat} {E : Env} {V : RV} {cl : List (Fr × CV)} {s : St} {mk : Bool} (h : RRep w t base M E V cl s mk) (x : Int) : RRep (w.setCell ⟨M, 12, none⟩ (.int .i64 x)) t base M E V cl { s with marks := x } mk :=
  h.setM (Only.set _ h.tm) (by rw [heap_set h.hm, rC_marks]) rfl rfl rfl
theorem RRep.at' {w : World} {t : Nat → Nat} {base M : Nat} {E : Env} {V : RV} {cl : List (Fr × CV)} {s : St} {mk : Bool} (h : RRep w t base M E V cl s mk) (x : Int) : RRep (w.setCell ⟨M, 13, none⟩ (.int .i64 x)) t base M E V cl { s with at_ := x } mk :=
  h.setM (Only.set _ h.tm) (by rw [heap_set h.hm, rC_at]) rfl rfl rfl
theorem RRep.mk' {w : World} {t : Nat → Nat} {base M : Nat} {E : Env} {V : RV} {cl : List (Fr × CV)} {s : St} {mk : Bool} (h : RRep w t base M E V cl s mk) (x : Bool) : RRep (w.setCell ⟨M, 14, none⟩ (.bool x)) t base M E V cl s x :=
  h.setM (Only.set _ h.tm) (by rw [heap_set h.hm, rC_mk]) rfl rfl rfl
theorem RRep.below {w w' : World} {t : Nat → Nat} {base M : Nat} {E : Env} {V : RV} {cl : List (Fr × CV)} {s : St} {mk : Bool} (h : RRep w t base M E V cl s mk) (hb : Below w.heap.size w w') : RRep w' t base M E V cl s mk :=
  ⟨(hb.block M (Array.getElem?_eq_some_iff.1 h.hm).1).trans h.hm, h.tm, h.env.fx (Fx.below hb), h.opn, h.ho.below hb, h.hh.below hb, h.hx.below hb, h.fr.below hb,
    fun k hk => Nat.lt_of_lt_of_le (h.lt k hk) hb.size, fun k hk => ⟨(h.ge k hk).1, Nat.le_trans (h.ge k hk).2 hb.size⟩⟩
theorem RRep.drew {w : World} {t : Nat → Nat} {base M : Nat} {E : Env} {V : RV} {cl : List (Fr × CV)} {s : St} {mk : Bool} (h : RRep w t base M E V cl s mk) (n : Nat) : RRep (w.drewN n) t base M E V cl s mk := h.below ⟨rfl, rfl, rfl, Nat.le_refl _, fun _ _ => rfl⟩
/-- What the walk of a step wants of the innermost call and of the machine. -/
theorem RRep.topC {w : World} {t : Nat → Nat} {base M : Nat} {E : Env} {V : RV} {ol : List (Fr × CV)} {p : Fr × CV} {s : St} {mk : Bool} (h : RRep w t base M E V (ol ++ [p]) s mk) :
    ∃ ob oc, V.ov = .slice (some ⟨ob, 0, none⟩) (ol.length + 1) oc ∧ ol.length + 1 ≤ oc ∧ ob < w.heap.size ∧ t ob = 4 ∧ ob ≠ M ∧ (∀ i, w.frozen? ⟨ob, i, none⟩ = false) ∧ ∀ j, j < 8 → w.cell? ⟨ob, ol.length * 8 + j, none⟩ = (callC p)[j]? := by
  obtain ⟨ob, oc, hov, hob, hoc, ⟨cur, hocell⟩, hoj⟩ := osplit h.ho.own (by simp)
  have tob : t ob = 4 := h.ho.tag ob (by simp [hov, Value.ownBlock])
  simp only [List.length_append, List.length_singleton] at hov hoc
  refine ⟨ob, oc, hov, hoc, hob, tob, fun e => by have := h.tm; rw [← e, tob] at this; omega, fun i => by simp [World.frozen?, hocell], fun j hj => ?_⟩
  have h1 := callsC_at ol p j hj
  have h2 : (callC p)[j]? = some ((callC p)[j]'(by simp [callC]; omega)) := List.getElem?_eq_getElem _
  rw [h2] at h1 ⊢
  exact hoj _ _ h1
theorem rC_get (V : RV) (s : St) (mk : Bool) : (rC V s mk)[0]? = some V.wv ∧ (rC V s mk)[1]? = some V.ev ∧ (rC V s mk)[4]? = some V.iv ∧ (rC V s mk)[5]? = some V.hv ∧ (rC V s mk)[6]? = some V.ov ∧ (rC V s mk)[7]? = some (.int .u8 s.end_) ∧ (rC V s mk)[8]? = some (.int .i64 s.exit) ∧ (rC V s mk)[9]? = some V.xv ∧
    (rC V s mk)[10]? = some (.int .i64 s.read) ∧ (rC V s mk)[11]? = some (.int .i64 s.steps) ∧ (rC V s mk)[12]? = some (.int .i64 s.marks) ∧ (rC V s mk)[13]? = some (.int .i64 s.at_) ∧ (rC V s mk)[14]? = some (.bool mk) := by simp [rC]
theorem RRep.topJ {w : World} {t : Nat → Nat} {base M : Nat} {E : Env} {V : RV} {ol : List (Fr × CV)} {p : Fr × CV} {s : St} {mk : Bool} (h : RRep w t base M E V (ol ++ [p]) s mk) {ob oc : Nat} (hov : V.ov = .slice (some ⟨ob, 0, none⟩) (ol.length + 1) oc) (j : Nat) (hj : j < 8) : w.cell? ⟨ob, ol.length * 8 + j, none⟩ = (callC p)[j]? := by
  obtain ⟨ob', oc', hov', _, _, _, _, _, hoj⟩ := h.topC
  rw [hov] at hov'
  simp only [Value.slice.injEq, Option.some.injEq, Addr.mk.injEq, and_true, true_and] at hov'
  obtain ⟨rfl, rfl⟩ := hov'
  exact hoj j hj
theorem RRep.frzO {w : World} {t : Nat → Nat} {base M : Nat} {E : Env} {V : RV} {cl : List (Fr × CV)} {s : St} {mk : Bool} (h : RRep w t base M E V cl s mk) {ob on oc : Nat} (hov : V.ov = .slice (some ⟨ob, 0, none⟩) on oc) (j : Nat) : w.frozen? ⟨ob, j, none⟩ = false := ofrz (hov ▸ h.ho.own) j
theorem RRep.cellM {w : World} {t : Nat → Nat} {base M : Nat} {E : Env} {V : RV} {cl : List (Fr × CV)} {s : St} {mk : Bool} (h : RRep w t base M E V cl s mk) (i : Nat) : w.cell? ⟨M, i, none⟩ = (rC V s mk)[i]? := by simp [World.cell?, h.hm]
theorem RRep.frzM {w : World} {t : Nat → Nat} {base M : Nat} {E : Env} {V : RV} {cl : List (Fr × CV)} {s : St} {mk : Bool} (h : RRep w t base M E V cl s mk) (i : Nat) : w.frozen? ⟨M, i, none⟩ = false := by simp [World.frozen?, h.hm]
theorem RRep.setC {w : World} {t : Nat → Nat} {base M : Nat} {E : Env} {V : RV} {ol : List (Fr × CV)} {p p' : Fr × CV} {s : St} {mk : Bool} (h : RRep w t base M E V (ol ++ [p]) s mk) {ob oc : Nat} (hov : V.ov = .slice (some ⟨ob, 0, none⟩) (ol.length + 1) oc)
    (j : Nat) (v : Value) (hc : (callC p).set j v = callC p') (hp : CRep w t base ol.length p → CRep w t base ol.length p') : RRep (w.setCell ⟨ob, ol.length * 8 + j, none⟩ v) t base M E V (ol ++ [p']) (s.top (ol.map Prod.fst) p'.1) mk := by
  have tob : t ob = 4 := h.ho.tag ob (by simp [hov, Value.ownBlock])
  have ho : Only w (w.setCell ⟨ob, ol.length * 8 + j, none⟩ v) t 4 := Only.set v tob
  have nOM : M ≠ ob := fun e => by have := h.tm; rw [e, tob] at this; omega
  refine ⟨(Below.heap_setCell _ _ _ _ nOM).trans h.hm, h.tm, h.env.fx (Fx.only ho (by omega)), by simp [St.top], ⟨?_, h.ho.tag⟩, h.hh.only ho (by omega), h.hx.only ho (by omega), ?_, fun k hk => Nat.lt_of_lt_of_le (h.lt k hk) ho.size, fun k hk => ⟨(h.ge k hk).1, Nat.le_trans (h.ge k hk).2 ho.size⟩⟩
  · have h1 := h.ho.own
    have e1 : (ol ++ [p']).length = ol.length + 1 := by simp
    have e2 : (ol ++ [p]).length = ol.length + 1 := by simp
    rw [e2, hov] at h1
    rw [e1, hov]
    have h2 := oset h1 (ol.length * 8 + j) v
    rw [callsC_set, hc] at h2
    rw [callsC_snoc]; exact h2
  · refine CAll.only (CAll.snoc h.fr.init (hp h.fr.last)) ho (.inl (by omega))
theorem RRep.next' {w : World} {t : Nat → Nat} {base M : Nat} {E : Env} {V : RV} {ol : List (Fr × CV)} {f : Fr} {c : CV} {s : St} {mk : Bool} (h : RRep w t base M E V (ol ++ [(f, c)]) s mk) {ob oc : Nat} (hov : V.ov = .slice (some ⟨ob, 0, none⟩) (ol.length + 1) oc) (n : Int) :
    RRep (w.setCell ⟨ob, ol.length * 8 + 4, none⟩ (.int .i64 n)) t base M E V (ol ++ [({ f with next := n }, c)]) (s.top (ol.map Prod.fst) { f with next := n }) mk :=
  h.setC (p' := ({ f with next := n }, c)) hov 4 _ rfl fun q => ⟨q.rg, q.sl, q.ar, q.rd⟩
theorem RRep.atc' {w : World} {t : Nat → Nat} {base M : Nat} {E : Env} {V : RV} {ol : List (Fr × CV)} {f : Fr} {c : CV} {s : St} {mk : Bool} (h : RRep w t base M E V (ol ++ [(f, c)]) s mk) {ob oc : Nat} (hov : V.ov = .slice (some ⟨ob, 0, none⟩) (ol.length + 1) oc) (n : Int) :
    RRep (w.setCell ⟨ob, ol.length * 8 + 1, none⟩ (.int .i64 n)) t base M E V (ol ++ [(f, { c with at_ := n })]) (s.top (ol.map Prod.fst) f) mk :=
  h.setC (p' := (f, { c with at_ := n })) hov 1 _ rfl fun q => ⟨q.rg, q.sl, q.ar, q.rd⟩
theorem stepF_is {E : Env} {s : St} {ol : List (Fr × CV)} {f : Fr} {cv : CV} {x : W} (hopn : s.opn = (ol ++ [(f, cv)]).map Prod.fst) (hb1 : slotsOk (E.ent f.fn).2 = true) (hn0 : 0 ≤ f.next) (hn1 : f.next < E.ws.length) (hx : x = E.ws.getD f.next.toNat W.zero) (hform : formB x = true) :
    stepF E s = (doF E { s with steps := wrap64 (s.steps + 1), at_ := f.next } (ol.map Prod.fst) { f with next := f.next + 1 } x, x.op) := by
  have e0 : s.opn = ol.map Prod.fst ++ [f] := by rw [hopn]; simp
  have d0 : decide (f.next < 0) = false := decide_eq_false (by omega)
  have d1 : decide ((E.ws.length : Int) ≤ f.next) = false := decide_eq_false (by omega)
  unfold stepF
  rw [e0, List.getLast?_append]
  simp only [List.getLast?_singleton, Option.some_or, hb1, d0, d1, Bool.not_true, Bool.or_self, Bool.false_eq_true, if_false, List.dropLast_concat, ← hx, hform, if_true]
/-- What a step leaves of the document's machine. -/
def RPost (w : World) (t : Nat → Nat) (base M : Nat) (E : Env) (s' : St) (mk' : Bool) (w' : World) : Prop := ∃ t' V' cl', RRep w' t' base M E V' cl' s' mk' ∧ Fx w w' t t'
theorem RPost.before {w w0 w' : World} {t t0 : Nat → Nat} {base M : Nat} {E : Env} {s' : St} {mk' : Bool} (hf : Fx w w0 t t0) (h : RPost w0 t0 base M E s' mk' w') : RPost w t base M E s' mk' w' := by
  obtain ⟨t', V', cl', h1, h2⟩ := h
  exact ⟨t', V', cl', h1, hf.trans h2⟩
theorem CRep.regC {w : World} {t : Nat → Nat} {base i : Nat} {p : Fr × CV} (h : CRep w t base i p) : ∃ rb rc, p.2.rv = .slice (some ⟨rb, 0, none⟩) 16 rc ∧ rb < w.heap.size ∧ t rb = 7 + 4 * i ∧ (∀ j, w.frozen? ⟨rb, j, none⟩ = false) ∧ ∀ j, j < 16 → w.cell? ⟨rb, j, none⟩ = some (.int .i64 (p.1.regs.getD j 0)) := by
  obtain ⟨rb, rc, hv, hl, _, ⟨cur, hc⟩, hj⟩ := osplit h.rg.own (by omega)
  exact ⟨rb, rc, hv, hl, h.rg.tag rb (by rw [hv]; rfl), fun j => by simp [World.frozen?, hc], fun j hj' => hj _ _ (intsV_at (by rw [h.regs]; exact hj'))⟩
theorem RRep.last {w w' : World} {t : Nat → Nat} {base M c : Nat} {E : Env} {V : RV} {ol : List (Fr × CV)} {p p' : Fr × CV} {s : St} {mk : Bool} (h : RRep w t base M E V (ol ++ [p]) s mk) (ho : Only w w' t c) (hc : 7 + 4 * ol.length ≤ c) (hcc : callC p' = callC p)
    (hp : CRep w' t base ol.length p') : RRep w' t base M E V (ol ++ [p']) (s.top (ol.map Prod.fst) p'.1) mk := by
  refine ⟨?_, h.tm, h.env.fx (Fx.only ho (by omega)), by simp [St.top], ?_, h.hh.only ho (by omega), h.hx.only ho (by omega), CAll.snoc (h.fr.init.only ho (.inr hc)) hp, fun k hk => Nat.lt_of_lt_of_le (h.lt k hk) ho.size, fun k hk => ⟨(h.ge k hk).1, Nat.le_trans (h.ge k hk).2 ho.size⟩⟩
  · exact (ho.stay M (Array.getElem?_eq_some_iff.1 h.hm).1 (by rw [h.tm]; omega)).trans h.hm
  · have h1 := h.ho.only ho (by omega)
    rw [callsC_snoc] at h1
    rw [callsC_snoc, hcc]
    simp only [List.length_append, List.length_singleton] at h1 ⊢
    exact h1
theorem RRep.reg {w : World} {t : Nat → Nat} {base M : Nat} {E : Env} {V : RV} {ol : List (Fr × CV)} {f : Fr} {c : CV} {s : St} {mk : Bool} (h : RRep w t base M E V (ol ++ [(f, c)]) s mk) {rb rc : Nat} (hrv : c.rv = .slice (some ⟨rb, 0, none⟩) 16 rc) (j : Nat) (x : Int) :
    RRep (w.setCell ⟨rb, j, none⟩ (.int .i64 x)) t base M E V (ol ++ [({ f with regs := f.regs.set j x }, c)]) (s.top (ol.map Prod.fst) { f with regs := f.regs.set j x }) mk := by
  have hl := h.fr.last
  have tg : t rb = 7 + 4 * ol.length := hl.rg.tag rb (by show c.rv.ownBlock = _; rw [hrv]; rfl)
  have ho : Only w (w.setCell ⟨rb, j, none⟩ (.int .i64 x)) t (7 + 4 * ol.length) := Only.set _ tg
  refine h.last (p' := ({ f with regs := f.regs.set j x }, c)) ho (Nat.le_refl _) rfl ⟨⟨?_, hl.rg.tag⟩, hl.sl.only ho (by omega), hl.ar.only ho (by omega), hl.rd.only ho (by omega)⟩
  have h1 := hl.rg.own
  simp only [hrv] at h1 ⊢
  have h2 := oset h1 j (.int .i64 x)
  rwa [intsV_set] at h2
theorem RRep.slot {w : World} {t : Nat → Nat} {base M : Nat} {E : Env} {V : RV} {ol : List (Fr × CV)} {f : Fr} {c : CV} {s : St} {mk : Bool} (h : RRep w t base M E V (ol ++ [(f, c)]) s mk) {sb sn sc : Nat} (hsv : c.sv = .slice (some ⟨sb, 0, none⟩) sn sc) (j : Nat) (x : Int) :
    RRep (w.setCell ⟨sb, j, none⟩ (.int .i64 x)) t base M E V (ol ++ [({ f with slots := f.slots.set j x }, c)]) (s.top (ol.map Prod.fst) { f with slots := f.slots.set j x }) mk := by
  have hl := h.fr.last
  have tg : t sb = 8 + 4 * ol.length := hl.sl.tag sb (by show c.sv.ownBlock = _; rw [hsv]; rfl)
  have ho : Only w (w.setCell ⟨sb, j, none⟩ (.int .i64 x)) t (8 + 4 * ol.length) := Only.set _ tg
  have h1 := hl.sl.own
  obtain ⟨a, cc, hsh, _, _⟩ := oshape h1
  simp only [hsv, Value.slice.injEq] at hsh
  obtain ⟨rfl, rfl, rfl⟩ := hsh
  refine h.last (p' := ({ f with slots := f.slots.set j x }, c)) ho (by omega) rfl ⟨hl.rg.only ho (by omega), ⟨?_, hl.sl.tag⟩, hl.ar.only ho (by omega), hl.rd.only ho (by omega)⟩
  simp only [hsv, List.length_set] at h1 ⊢
  have h2 := oset h1 j (.int .i64 x)
  rwa [intsV_set] at h2
theorem RRep.cell {w : World} {t : Nat → Nat} {base M : Nat} {E : Env} {V : RV} {cl : List (Fr × CV)} {s : St} {mk : Bool} (h : RRep w t base M E V cl s mk) {hb hn hc : Nat} (hhv : V.hv = .slice (some ⟨hb, 0, none⟩) hn hc) (j : Nat) (x : Int) :
    RRep (w.setCell ⟨hb, j, none⟩ (.int .i64 x)) t base M E V cl { s with heap := s.heap.set j x } mk := by
  have tg : t hb = 5 := h.hh.tag hb (by rw [hhv]; rfl)
  have ho : Only w (w.setCell ⟨hb, j, none⟩ (.int .i64 x)) t 5 := Only.set _ tg
  have h1 := h.hh.own
  obtain ⟨a, cc, hsh, _, _⟩ := oshape h1
  simp only [hhv, Value.slice.injEq] at hsh
  obtain ⟨rfl, rfl, rfl⟩ := hsh
  refine ⟨(ho.stay M (Array.getElem?_eq_some_iff.1 h.hm).1 (by rw [h.tm]; omega)).trans h.hm, h.tm, h.env.fx (Fx.only ho (by omega)), h.opn, h.ho.only ho (by omega), ⟨?_, h.hh.tag⟩, h.hx.only ho (by omega), h.fr.only ho (.inl (by omega)), fun k hk => Nat.lt_of_lt_of_le (h.lt k hk) ho.size, fun k hk => ⟨(h.ge k hk).1, Nat.le_trans (h.ge k hk).2 ho.size⟩⟩
  simp only [hhv, List.length_set] at h1 ⊢
  have h2 := oset h1 j (.int .i64 x)
  rwa [intsV_set] at h2
theorem RRep.regJ {w : World} {t : Nat → Nat} {base M : Nat} {E : Env} {V : RV} {ol : List (Fr × CV)} {f : Fr} {c : CV} {s : St} {mk : Bool} (h : RRep w t base M E V (ol ++ [(f, c)]) s mk) {rb rc : Nat} (hrv : c.rv = .slice (some ⟨rb, 0, none⟩) 16 rc) (j : Nat) (hj : j < 16) :
    w.cell? ⟨rb, j, none⟩ = some (.int .i64 (f.regs.getD j 0)) ∧ w.frozen? ⟨rb, j, none⟩ = false ∧ rb < w.heap.size ∧ t rb = 7 + 4 * ol.length := by
  obtain ⟨rb', rc', hv, hl, ht, hz, hc⟩ := h.fr.last.regC
  simp only at hv hc
  rw [hrv] at hv
  simp only [Value.slice.injEq, Option.some.injEq, Addr.mk.injEq, and_true, true_and] at hv
  obtain ⟨rfl, _⟩ := hv
  exact ⟨hc j hj, hz j, hl, ht⟩
end Go.Proofs.YtnanlkoldloolaaDoor.Mach

/- Plain arithmetic of the operations' values. -/
namespace Go.Proofs.YtnanlkoldloolaaDoor
open Go.RowKit

theorem bits_mask6 (x : Int) : bits .and .i64 x 63 = x % 64 := by
  have e : BitVec.toNat (BitVec.ofInt IntKind.i64.bits 63) = 2 ^ 6 - 1 := by decide
  have e2 : BitVec.toNat (BitVec.ofInt IntKind.i64.bits x) = (x % 18446744073709551616).toNat := by
    rw [BitVec.toNat_ofInt]; rfl
  simp only [bits, BitVec.toNat_and, e, e2, Nat.and_two_pow_sub_one_eq_mod]
  rw [IntKind.wrap_i64]
  omega
theorem shiftN (b : Int) : min (IntKind.u64.wrap (bits .and .i64 b 63)).toNat 64 = (b % 64).toNat := by
  rw [bits_mask6, IntKind.wrap_u64]; omega
theorem wrap64_in {x : Int} (h : -9223372036854775808 ≤ x ∧ x ≤ 9223372036854775807) : wrap64 x = x := by unfold wrap64; omega
theorem tmod_sgn (a b : Int) : (0 ≤ a → 0 ≤ a.tmod b ∧ a.tmod b ≤ a) ∧ (a ≤ 0 → a ≤ a.tmod b ∧ a.tmod b ≤ 0) := by
  have hn : (a.tmod b).natAbs ≤ a.natAbs := by rw [Int.natAbs_tmod]; exact Nat.mod_le _ _
  refine ⟨fun h => ?_, fun h => ?_⟩
  · have := Int.tmod_nonneg b h
    omega
  · have h2 := Int.tmod_nonneg b (show 0 ≤ -a by omega)
    rw [Int.neg_tmod] at h2
    omega
theorem tdiv_in (a b : Int) (ha : -9223372036854775808 ≤ a ∧ a ≤ 9223372036854775807) (h1 : b ≠ -1) : -9223372036854775808 ≤ a.tdiv b ∧ a.tdiv b ≤ 9223372036854775807 := by
  by_cases h2 : b = 1
  · subst h2; rw [Int.tdiv_one]; exact ha
  have hd : (a.tdiv b).natAbs ≤ a.natAbs / 2 := by
    rw [Int.natAbs_tdiv]
    show a.natAbs / b.natAbs ≤ _
    by_cases h0 : b = 0
    · subst h0; simp
    · exact Nat.div_le_div_left (by omega) (by omega)
  omega
theorem tmod_eq (a b : Int) (ha : -9223372036854775808 ≤ a ∧ a ≤ 9223372036854775807) (h1 : b ≠ -1) : wrap64 (a - wrap64 (wrap64 (a.tdiv b) * b)) = a.tmod b := by
  have hs := tmod_sgn a b
  have hd := Int.tmod_def a b
  rw [wrap64_in (tdiv_in a b ha h1)]
  have e : a.tdiv b * b = a - a.tmod b := by rw [hd, Int.mul_comm]; omega
  rw [e, wrap64_in (x := a - a.tmod b) (by omega), wrap64_in (by omega)]
  omega

end Go.Proofs.YtnanlkoldloolaaDoor

/- The document's value of an operation (package teaselref04): what it computes. -/
namespace Go.Proofs.YtnanlkoldloolaaDoor
open Go.RowKit

set_option maxHeartbeats 1000000 in
theorem refValue_any (op a b : Int) (ha : -9223372036854775808 ≤ a ∧ a ≤ 9223372036854775807) (w : World) :
   Calls Tryd.prog 35 #[.int .u8 op, .int .i64 a, .int .i64 b] w fun e w' => e = .returned (.tuple #[.int .i64 (valF op a b).1, .int .u8 (valF op a b).2]) ∧ w' = w := by
  have HA := Lib.hid ha
  clear ha
  go_enter Tryd.func35, Tryd.ntmps35
  go_wp2
  all_goals first | (exfalso; simp_all; done) | refine bodyPost_ret (v := .tuple #[.int .i64 (valF op a b).1, .int .u8 (valF op a b).2]) ?_ rfl ⟨rfl, rfl⟩
  all_goals go_light
  all_goals try (simp [results, Tryd.results35, go_sem, valF, b01, shiftN, *]; done)
  all_goals
    have ht := tmod_eq a b HA.out (by intro hb; simp_all)
    simp [results, Tryd.results35, go_sem, valF, *]
end Go.Proofs.YtnanlkoldloolaaDoor

/- The machine, plainly: each operation's outcome by itself. -/
namespace Go.Proofs.YtnanlkoldloolaaDoor.Mach
open Go.RowKit

section
variable (E : Env) (s : St) (os : List Fr) (f : Fr) (a b c i : Int)
theorem doF_30 : doF E s os f ⟨30, a, b, c, i⟩ = s.top os (f.put a i) := rfl
theorem doF_31 : doF E s os f ⟨31, a, b, c, i⟩ = s.top os (f.put a (f.r b)) := rfl
theorem doF_32 : doF E s os f ⟨32, a, b, c, i⟩ = (if decide ((f.slots.length : Int) ≤ i) then (s.ends 8).top os f else s.top os (f.put a (f.slots.getD i.toNat 0))) := rfl
theorem doF_33 : doF E s os f ⟨33, a, b, c, i⟩ = (if decide ((f.slots.length : Int) ≤ i) then (s.ends 8).top os f else s.top os { f with slots := f.slots.set i.toNat (f.r a) }) := rfl
theorem doF_34 : doF E s os f ⟨34, a, b, c, i⟩ = (if (cellF s.heap (f.r b) (f.r c)).1 == 0 then s.top os (f.put a (s.heap.getD (cellF s.heap (f.r b) (f.r c)).2.toNat 0)) else (s.ends (cellF s.heap (f.r b) (f.r c)).1).top os f) := rfl
theorem doF_35 : doF E s os f ⟨35, a, b, c, i⟩ = (if (cellF s.heap (f.r a) (f.r b)).1 == 0 then { s with heap := s.heap.set (cellF s.heap (f.r a) (f.r b)).2.toNat (f.r c) }.top os f else (s.ends (cellF s.heap (f.r a) (f.r b)).1).top os f) := rfl
theorem doF_36 : doF E s os f ⟨36, a, b, c, i⟩ = (if decide (f.r b < 1) || decide ((s.heap.length : Int) < f.r b) then (s.ends 8).top os f else s.top os (f.put a (s.heap.getD (f.r b - 1).toNat 0))) := rfl
theorem doF_37 : doF E s os f ⟨37, a, b, c, i⟩ = (if decide (4096 < (s.heap.length : Int) + i + 1) then (s.ends 7).top os f else { s with heap := s.heap ++ [i] ++ List.replicate i.toNat 0 }.top os (f.put a (s.heap.length + 1))) := rfl
theorem doF_38 : doF E s os f ⟨38, a, b, c, i⟩ = s.top os (f.put a s.heap.length) := rfl
theorem doF_39 : doF E s os f ⟨39, a, b, c, i⟩ = (if decide (f.r a < 0) || decide ((s.heap.length : Int) < f.r a) then (s.ends 8).top os f else { s with heap := s.heap.take (f.r a).toNat }.top os f) := rfl
theorem doF_40 : doF E s os f ⟨40, a, b, c, i⟩ = (if decide (6 ≤ f.ready.length) then (s.ends 8).top os f else s.top os { f with ready := f.ready ++ [f.r a] }) := rfl
theorem doF_41 : doF E s os f ⟨41, a, b, c, i⟩ = (if decide ((E.es.length : Int) ≤ i) then (s.ends 8).top os f else if !slotsOk (E.ent i).2 then (s.ends 8).top os f else if decide (100 ≤ os.length + 1) then (s.ends 6).top os f
    else s.top (os ++ [{ f with ready := [] }]) (newFr E i f.ready a)) := rfl
theorem doF_42 : doF E s os f ⟨42, a, b, c, i⟩ = { s with outs := s.outs ++ [f.r a] }.top os f := rfl
theorem doF_43 : doF E s os f ⟨43, a, b, c, i⟩ = (if decide ((E.inp.length : Int) ≤ s.read) then (s.ends 4).top os f else { s with read := s.read + 1 }.top os (f.put a (E.inp.getD s.read.toNat 0))) := rfl
theorem doF_44 : doF E s os f ⟨44, a, b, c, i⟩ = { s with marks := wrap64 (s.marks + 1) }.top os f := rfl
theorem doF_45 : doF E s os f ⟨45, a, b, c, i⟩ = s.top os { f with next := i } := rfl
theorem doF_46 : doF E s os f ⟨46, a, b, c, i⟩ = (if f.r a == 0 then s.top os { f with next := i } else s.top os f) := rfl
theorem doF_47n : doF E s [] f ⟨47, a, b, c, i⟩ = { s with opn := [], exit := f.r a, end_ := 1 } := rfl
theorem doF_47 (g : Fr) : doF E s (os ++ [g]) f ⟨47, a, b, c, i⟩ = s.top os (g.put f.dst (f.r a)) := by
  show (match (os ++ [g]).getLast? with
    | none => _
    | some g => _) = _
  rw [List.getLast?_append]
  simp
theorem doF_48 : doF E s os f ⟨48, a, b, c, i⟩ = (if decide ((f.args.length : Int) ≤ i) then (s.ends 8).top os f else s.top os (f.put a (f.args.getD i.toNat 0))) := rfl
theorem doF_D (op : Int) (h : op ≤ 29 ∨ 49 ≤ op) : doF E s os f ⟨op, a, b, c, i⟩ = (if (valF op (f.r b) (f.r c)).2 != 0 then (s.ends (valF op (f.r b) (f.r c)).2).top os f else s.top os (f.put a (valF op (f.r b) (f.r c)).1)) := by
  have e : ∀ k : Int, 30 ≤ k → k ≤ 48 → (op == k) = false := fun k h1 h2 => by simp; omega
  unfold doF
  simp only [e 30 (by omega) (by omega), e 31 (by omega) (by omega), e 32 (by omega) (by omega), e 33 (by omega) (by omega), e 34 (by omega) (by omega), e 35 (by omega) (by omega), e 36 (by omega) (by omega), e 37 (by omega) (by omega), e 38 (by omega) (by omega), e 39 (by omega) (by omega),
    e 40 (by omega) (by omega), e 41 (by omega) (by omega), e 42 (by omega) (by omega), e 43 (by omega) (by omega), e 44 (by omega) (by omega), e 45 (by omega) (by omega), e 46 (by omega) (by omega), e 47 (by omega) (by omega), e 48 (by omega) (by omega), Bool.false_eq_true, if_false]
end
end Go.Proofs.YtnanlkoldloolaaDoor.Mach

/- The document's machine: what a step calls. -/
namespace Go.Proofs.YtnanlkoldloolaaDoor.Mach
open Go.RowKit

theorem rslots_any (M eb eo n c : Nat) (i : Nat) (s : Int) (w : World) (hc : w.cell? ⟨M, 1, none⟩ = some (.slice (some ⟨eb, eo, none⟩) n c)) (hi : i < n) (hs : w.cell? ⟨eb, eo + i * 2 + 1, none⟩ = some (.int .i64 s)) :
    Calls Tryd.prog 33 #[.pointer (some ⟨M, 0, none⟩), .int .i64 i] w fun e w' => e = .returned (.bool (slotsOk s)) ∧ w' = w := by
  go_enter Tryd.func33, Tryd.ntmps33
  go_wp2_with fail
  all_goals go_ret
  all_goals (simp_all [slotsOk] <;> omega)

end Go.Proofs.YtnanlkoldloolaaDoor.Mach

/- The document's machine: a cell of its heap. -/
namespace Go.Proofs.YtnanlkoldloolaaDoor.Mach
open Go.RowKit

theorem cellF_1 {h : List Int} {a i : Int} (h1 : a < 1) : cellF h a i = (8, 0) := by simp [cellF, h1]
theorem cellF_2 {h : List Int} {a i : Int} (h2 : (h.length : Int) < a) : cellF h a i = (8, 0) := by simp [cellF, h2]
theorem cellF_3 {h : List Int} {a i : Int} (h1 : ¬ a < 1) (h2 : ¬ (h.length : Int) < a) (h3 : i < 0 ∨ h.getD (a - 1).toNat 0 ≤ i) : cellF h a i = (3, 0) := by
  unfold cellF
  rw [if_neg (by simp [h1]; omega), if_pos (by simpa using h3)]
theorem cellF_4 {h : List Int} {a i : Int} (h1 : ¬ a < 1) (h2 : ¬ (h.length : Int) < a) (h3 : ¬ (i < 0 ∨ h.getD (a - 1).toNat 0 ≤ i)) (h4 : (h.length : Int) - a ≤ i) : cellF h a i = (8, 0) := by
  unfold cellF
  rw [if_neg (by simp [h1]; omega), if_neg (by simpa using h3), if_pos (by simpa using h4)]
theorem cellF_5 {h : List Int} {a i : Int} (h1 : ¬ a < 1) (h2 : ¬ (h.length : Int) < a) (h3 : ¬ (i < 0 ∨ h.getD (a - 1).toNat 0 ≤ i)) (h4 : ¬ (h.length : Int) - a ≤ i) : cellF h a i = (0, a + i) := by
  unfold cellF
  rw [if_neg (by simp [h1]; omega), if_neg (by simpa using h3), if_neg (by simpa using h4)]

theorem cellF_in {h : List Int} {a i p : Int} (hr : cellF h a i = (0, p)) : 0 ≤ p ∧ p < h.length := by
  unfold cellF at hr
  split at hr
  · cases hr
  · rename_i h1
    split at hr
    · cases hr
    · rename_i h2
      split at hr
      · cases hr
      · rename_i h3
        simp only [Prod.mk.injEq, true_and] at hr
        simp only [Bool.or_eq_true, decide_eq_true_eq, not_or] at h1 h2 h3
        omega
def CellP (w w' : World) (M : Nat) (r : Int × Int) (e : Ending) : Prop := (r.1 = 0 ∧ e = .returned (.int .i64 r.2) ∧ w' = w) ∨ (r.1 ≠ 0 ∧ e = .returned (.int .i64 (-1)) ∧ w' = w.setCell ⟨M, 7, none⟩ (.int .u8 r.1))

set_option maxHeartbeats 1000000 in
theorem rcell_any (w : World) (M base : Nat) (hv : Value) (h : List Int) (e0 a i : Int) (hc : w.cell? ⟨M, 5, none⟩ = some hv) (hrow : w.ownsRow base 2 1 hv h.length (intsV h)) (m7 : w.cell? ⟨M, 7, none⟩ = some (.int .u8 e0)) (z7 : w.frozen? ⟨M, 7, none⟩ = false) (hl : h.length ≤ 4096) :
    Calls Tryd.prog 34 #[.pointer (some ⟨M, 0, none⟩), .int .i64 a, .int .i64 i] w fun e w' => CellP w w' M (cellF h a i) e := by
  obtain ⟨ha, hcp, rfl, -, -⟩ := oshape hrow
  by_cases h1 : a < 1
  · have d1 : decide (a < 1) = true := decide_eq_true h1
    rw [cellF_1 h1]
    go_enter Tryd.func34, Tryd.ntmps34
    go_wp2_with fail
    go_ret
    exact .inr ⟨by decide, rfl, rfl⟩
  by_cases h2 : (h.length : Int) < a
  · have d1 : decide (a < 1) = false := decide_eq_false h1
    have d2 : decide ((h.length : Int) < a) = true := decide_eq_true h2
    rw [cellF_2 h2]
    go_enter Tryd.func34, Tryd.ntmps34
    go_wp2_with fail
    go_ret
    exact .inr ⟨by decide, rfl, rfl⟩
  have d1 : decide (a < 1) = false := decide_eq_false h1
  have d2 : decide ((h.length : Int) < a) = false := decide_eq_false h2
  obtain ⟨m, rfl⟩ : ∃ m : Nat, a = (m : Int) + 1 := ⟨(a - 1).toNat, by omega⟩
  obtain ⟨hb, hcp', hv', hlb, -, -, hj⟩ := osplit hrow (by omega)
  simp only [Value.slice.injEq, true_and] at hv'
  obtain ⟨rfl, rfl⟩ := hv'
  obtain ⟨g, hg⟩ : ∃ g, g = h.getD m 0 := ⟨_, rfl⟩
  have hm : w.cell? ⟨hb, m, none⟩ = some (.int .i64 g) := by rw [hg]; exact hj _ _ (intsV_at (by omega))
  have em : ((m : Int) + 1 - 1).toNat = m := by omega
  have em2 : (m : Int) + 1 - 1 = m := by omega
  have hml : (m : Int) < h.length := by omega
  have HG := Lib.hid hg
  clear hj hg
  by_cases h3 : i < 0
  · have d3 : decide (i < 0) = true := decide_eq_true h3
    rw [cellF_3 h1 h2 (.inl h3)]
    go_enter Tryd.func34, Tryd.ntmps34
    go_wp2_with fail
    go_ret
    exact .inr ⟨by decide, rfl, rfl⟩
  have d3 : decide (i < 0) = false := decide_eq_false h3
  by_cases h4 : g ≤ i
  · have d4 : decide (g ≤ i) = true := decide_eq_true h4
    rw [cellF_3 h1 h2 (.inr (by rw [em, ← HG.out]; exact h4))]
    go_enter Tryd.func34, Tryd.ntmps34
    go_wp2_with fail
    go_ret
    exact .inr ⟨by decide, rfl, rfl⟩
  have d4 : decide (g ≤ i) = false := decide_eq_false h4
  by_cases h5 : (h.length : Int) - (m + 1) ≤ i
  · have d5 : decide ((h.length : Int) - (m + 1) ≤ i) = true := decide_eq_true h5
    rw [cellF_4 h1 h2 (by rw [em, ← HG.out]; omega) h5]
    go_enter Tryd.func34, Tryd.ntmps34
    go_wp2_with fail
    go_ret
    exact .inr ⟨by decide, rfl, rfl⟩
  · have d5 : decide ((h.length : Int) - (m + 1) ≤ i) = false := decide_eq_false h5
    rw [cellF_5 h1 h2 (by rw [em, ← HG.out]; omega) h5]
    go_enter Tryd.func34, Tryd.ntmps34
    go_wp2_with fail
    go_ret
    exact .inl ⟨rfl, rfl, rfl⟩
end Go.Proofs.YtnanlkoldloolaaDoor.Mach

/- Memory told by tags: rows that grow; new rows; blocks told anew. -/
namespace Go.Proofs.YtnanlkoldloolaaDoor.Mach
open Go.RowKit

theorem info_i64' : (Tryd.prog.info? 2).map (fun i => (i.zero, i.size, i.bytes)) = some (some (.int .i64 0), 1, 8) := by kernel_rfl
theorem parts' {i : Option TypeInfo} {z : Value} {s b : Nat} (h : i.map (fun i => (i.zero, i.size, i.bytes)) = some (some z, s, b)) : ∃ x, i = some x ∧ x.zero = some z ∧ x.size = s ∧ x.bytes = b := by
  cases i with
  | none => cases h
  | some i =>
    simp only [Option.map_some, Option.some.injEq, Prod.mk.injEq] at h
    exact ⟨i, rfl, h.1, h.2.1, h.2.2⟩
theorem info_i64 : ∃ x, Tryd.prog.info? 2 = some x ∧ x.zero = some (.int .i64 0) ∧ x.size = 1 ∧ x.bytes = 8 := parts' info_i64'
theorem lit1_rd (w : World) (x : Value) (T : TypeId) : Rd (w.alloc (.cells #[x] T)) 1 (.slice (some ⟨w.heap.size, 0, none⟩) 1 1) 1 [x] := by
  refine Rd.mk rfl (Nat.le_refl _) (by unfold maxLen; omega) fun j hj => ?_
  have : j = 0 := by simp at hj; omega
  subst this
  have h2 := heap_alloc_new w (.cells #[x] T)
  simp only [World.cell?, Nat.zero_add, h2]
  rfl
/-- Blocks of the tag c turn (or are new); all else stays. -/
structure Trn (w w' : World) (t t' : Nat → Nat) (c base : Nat) : Prop where
  rows : ∀ {b : Nat} {e : TypeId} {K : Nat} {v : Value} {n : Nat} {xs : List Value} {d : Nat}, Row w t b e K v n xs d → d ≠ c → Row w' t' b e K v n xs d
  blks : ∀ k, k < w.heap.size → t k ≠ c → w'.heap[k]? = w.heap[k]? ∧ t' k = t k
  fx : Fx w w' t t'
  lt : (∀ k, t k ≠ 0 → k < w.heap.size) → ∀ k, t' k ≠ 0 → k < w'.heap.size
  ge : (∀ k, 2 < t k → base ≤ k ∧ base ≤ w.heap.size) → ∀ k, 2 < t' k → base ≤ k ∧ base ≤ w'.heap.size
section
variable {w w' w'' : World} {t t' t'' : Nat → Nat} {c base : Nat}
theorem Trn.refl (w : World) (t : Nat → Nat) (c base : Nat) : Trn w w t t c base := ⟨fun h _ => h, fun _ _ _ => ⟨rfl, rfl⟩, Fx.refl w t, fun h => h, fun h => h⟩
theorem Trn.only (h : Only w w' t c) (hc : 2 < c) : Trn w w' t t c base :=
  ⟨fun r hd => r.only h hd, fun k hk hn => ⟨h.stay k hk hn, rfl⟩, Fx.only h hc, fun hl k hk => Nat.lt_of_lt_of_le (hl k hk) h.size, fun hg k hk => ⟨(hg k hk).1, Nat.le_trans (hg k hk).2 h.size⟩⟩
theorem Trn.trans (h : Trn w w' t t' c base) (k : Trn w' w'' t' t'' c base) : Trn w w'' t t'' c base :=
  ⟨fun r hd => k.rows (h.rows r hd) hd, fun j hj hn => by
    obtain ⟨h1, h2⟩ := h.blks j hj hn
    obtain ⟨h3, h4⟩ := k.blks j (Nat.lt_of_lt_of_le hj h.fx.size) (by rw [h2]; exact hn)
    exact ⟨h3.trans h1, h4.trans h2⟩, h.fx.trans k.fx, fun hl => k.lt (h.lt hl), fun hg => k.ge (h.ge hg)⟩
theorem Trn.below (h : Below w.heap.size w w') : Trn w w' t t c base :=
  ⟨fun r _ => r.below h, fun k hk _ => ⟨h.block k hk, rfl⟩, Fx.below h, fun hl k hk => Nat.lt_of_lt_of_le (hl k hk) h.size, fun hg k hk => ⟨(hg k hk).1, Nat.le_trans (hg k hk).2 h.size⟩⟩
theorem Trn.drewN (w : World) (t : Nat → Nat) (c base n : Nat) : Trn w (w.drewN n) t t c base := Trn.below ⟨rfl, rfl, rfl, Nat.le_refl _, fun _ _ => rfl⟩
/-- A row of the tag c that has grown: its block is the old one, or a new one. -/
theorem Trn.grown {u v' : Value} {e : TypeId} {K n : Nat} {xs : List Value} (hg : w.grownBy w' u.ownBlock) (hu : Tv t u c) (hf : ∀ g, v'.ownBlock = some g → w.heap.size ≤ g ∨ u.ownBlock = some g) (ho : w'.ownsRow base e K v' n xs) (hc : 2 < c) (hb : base ≤ w.heap.size) : Trn w w' t (updV t v' c) c base := by
  have hO : Only w w' t c := Only.grown hg hu
  have hf' : ∀ g, v'.ownBlock = some g → w.heap.size ≤ g ∨ t g = c := fun g h => (hf g h).imp id fun h => hu g h
  have hk : ∀ k, k < w.heap.size → t k ≠ c → updV t v' c k = t k := fun k h1 h2 => by
    unfold updV
    cases hv : v'.ownBlock with
    | none => rfl
    | some g => exact upd_ne (by rintro rfl; rcases hf' k hv with h | h <;> omega)
  have hall : ∀ k, updV t v' c k ≠ t k → v'.ownBlock = some k ∧ updV t v' c k = c := fun k h => by
    unfold updV at h ⊢
    cases hv : v'.ownBlock with
    | none => rw [hv] at h; exact absurd rfl h
    | some g =>
      rw [hv] at h
      simp only [upd] at h ⊢
      by_cases e : k = g
      · rw [if_pos e, e]; exact ⟨rfl, rfl⟩
      · rw [if_neg e] at h; exact absurd rfl h
  refine ⟨fun r hd => ?_, fun k h1 h2 => ⟨hO.stay k h1 h2, hk k h1 h2⟩, ?_, fun hl k hk' => ?_, fun hg' k hk' => ?_⟩
  · have h1 := r.updV (c := c) (c' := c) hf' hd
    exact ⟨osame h1.own fun k hk' => hO.stay k (olt h1.own k hk') (by have := r.tag k hk'; omega), h1.tag⟩
  · refine ⟨hO.os, hO.tape, hO.output, hO.size, fun k h1 h2 => hO.stay k h1 (by omega), fun k h1 => ?_⟩
    by_cases e : updV t v' c k = t k
    · rw [e]; exact ⟨fun _ => rfl, fun h => h⟩
    · obtain ⟨h2, h3⟩ := hall k e
      refine ⟨fun h4 => ?_, fun _ => by omega⟩
      rcases hf' k h2 with h5 | h5 <;> omega
  · by_cases e : updV t v' c k = t k
    · rw [e] at hk'; exact Nat.lt_of_lt_of_le (hl k hk') hO.size
    · exact olt ho k (hall k e).1
  · by_cases e : updV t v' c k = t k
    · rw [e] at hk'; exact ⟨(hg' k hk').1, Nat.le_trans (hg' k hk').2 hO.size⟩
    · exact ⟨(oblk ho k (hall k e).1).1, Nat.le_trans hb hO.size⟩
/-- One value laid by, and appended. -/
theorem Trn.app {u v' : Value} {e : TypeId} {K n : Nat} {xs : List Value} (o : Obj) (hg : (w.alloc o).grownBy w' u.ownBlock) (hu : Tv t u c) (hf : ∀ g, v'.ownBlock = some g → (w.alloc o).heap.size ≤ g ∨ u.ownBlock = some g) (ho : w'.ownsRow base e K v' n xs) (hc : 2 < c) (hb : base ≤ w.heap.size) : Trn w w' t (updV t v' c) c base :=
  (Trn.below ((Below.refl _ _).alloc (Nat.le_refl _) o)).trans (Trn.grown hg hu hf ho hc (Nat.le_trans hb (by simp)))
theorem Trn.appD {u v' : Value} {e : TypeId} {K n : Nat} {xs : List Value} (o : Obj) (hg : (w.alloc o).drew.grownBy w' u.ownBlock) (hu : Tv t u c) (hf : ∀ g, v'.ownBlock = some g → (w.alloc o).drew.heap.size ≤ g ∨ u.ownBlock = some g) (ho : w'.ownsRow base e K v' n xs) (hc : 2 < c) (hb : base ≤ w.heap.size) : Trn w w' t (updV t v' c) c base :=
  (Trn.below (((Below.refl _ _).alloc (Nat.le_refl _) o).drew)).trans (Trn.grown hg hu hf ho hc (Nat.le_trans hb (by show _ ≤ (w.alloc o).heap.size; simp)))
theorem Trn.appN {u v' : Value} {e : TypeId} {K n : Nat} {xs : List Value} (q : Nat) (o : Obj) (hg : ((w.drewN q).alloc o).grownBy w' u.ownBlock) (hu : Tv t u c) (hf : ∀ g, v'.ownBlock = some g → ((w.drewN q).alloc o).heap.size ≤ g ∨ u.ownBlock = some g) (ho : w'.ownsRow base e K v' n xs) (hc : 2 < c) (hb : base ≤ w.heap.size) : Trn w w' t (updV t v' c) c base :=
  (Trn.drewN w t c base q).trans (Trn.app (w := w.drewN q) o hg hu hf ho hc hb)
end
section
variable {w w1 : World} {t t1 : Nat → Nat} {base : Nat}
theorem Row.claimT {e : TypeId} {K n d : Nat} {v : Value} {xs : List Value} (r : Row w t base e K v n xs d) (hb : Below w.heap.size w w1) (h1 : ∀ k, k < w.heap.size → t1 k = t k) : Row w1 t1 base e K v n xs d :=
  ⟨(r.below hb).own, fun k hk => by rw [h1 k (r.lt k hk).1]; exact r.tag k hk⟩
/-- A row's block is told to be of another tag. -/
theorem Trn.retag {u : Value} {c c' : Nat} (hu : Tv t u c) (hl : ∀ g, u.ownBlock = some g → g < w.heap.size) (hc : 2 < c) (hc' : 2 < c') (_hb : (∀ k, 2 < t k → base ≤ k ∧ base ≤ w.heap.size)) : Trn w w t (updV t u c') c base := by
  cases hv : u.ownBlock with
  | none =>
    have e0 : updV t u c' = t := by simp [updV, hv]
    rw [e0]; exact Trn.refl w t c base
  | some g =>
    have hg : t g = c := hu g hv
    have e0 : updV t u c' = upd t g c' := by simp [updV, hv]
    rw [e0]
    refine ⟨fun r hd => r.upd (.inr hg) hd, fun k _ h2 => ⟨rfl, upd_ne (by rintro rfl; exact h2 hg)⟩, (Fx.refl w t).updN (.inr (by omega)) hc', fun h k hk => ?_, fun h k hk => ?_⟩
    · by_cases e : k = g
      · rw [e]; exact hl g hv
      · rw [upd_ne e] at hk; exact h k hk
    · by_cases e : k = g
      · rw [e]; exact h g (by omega)
      · rw [upd_ne e] at hk; exact h k hk
end
theorem made_toList (n : Nat) : (madeCells #[Value.int .i64 0] n).toList = intsV (List.replicate n 0) := by
  refine List.ext_getElem? fun i => ?_
  simp only [madeCells, intsV, Array.toList_map, Array.toList_range, List.getElem?_map, List.map_replicate]
  by_cases h : i < n
  · simp [h, Nat.mod_one]
  · simp [h]
theorem made_row {base : Nat} (w : World) (n : Nat) (hb : base ≤ w.heap.size) (hn : n ≤ maxLen) : (w.alloc (.cells (madeCells #[.int .i64 0] n) 2)).ownsRow base 2 1 (.slice (some ⟨w.heap.size, 0, none⟩) n n) n (intsV (List.replicate n 0)) := by
  have := World.ownsRow_lit (base := base) (e := 2) (size := 1) w (madeCells #[.int .i64 0] n) n hb hn (by rw [size_madeCells]; omega)
  rwa [made_toList] at this
/-- A row of zeros that lies in a block of its own. -/
theorem row_of_made {base g : Nat} {w : World} {n : Nat} (h : w.heap[g]? = some (.cells (madeCells #[.int .i64 0] n) 2 (0, 0))) (hb : base ≤ g) (hn : n ≤ maxLen) : w.ownsRow base 2 1 (.slice (some ⟨g, 0, none⟩) n n) n (intsV (List.replicate n 0)) :=
  ⟨by simp [intsV], .inr ⟨g, n, _, rfl, hb, h, Nat.le_refl _, hn, by rw [size_madeCells]; omega, by rw [made_toList]; exact List.take_of_length_le (by simp [intsV])⟩⟩
theorem lit_rd (w : World) (cs : Array Value) (K : Nat) (T : TypeId) (hc : cs.size = K) : Rd (w.alloc (.cells cs T)) K (.slice (some ⟨w.heap.size, 0, none⟩) 1 1) 1 cs.toList :=
  Rd.of_own (base := 0) (e := T) (World.ownsRow_lit (base := 0) (e := T) (size := K) w cs 1 (Nat.zero_le _) (by unfold maxLen; omega) (by omega))
theorem two_alloc (w : World) (c1 c2 : Array Value) (T1 T2 : TypeId) : ((w.alloc (.cells c1 T1)).alloc (.cells c2 T2)).heap[w.heap.size]? = some (.cells c1 T1 (0, 0)) ∧ ((w.alloc (.cells c1 T1)).alloc (.cells c2 T2)).heap[w.heap.size + 1]? = some (.cells c2 T2 (0, 0)) ∧ Below w.heap.size w ((w.alloc (.cells c1 T1)).alloc (.cells c2 T2)) := by
  refine ⟨?_, ?_, ((Below.refl _ _).alloc (Nat.le_refl _) _).alloc (by simp) _⟩
  · rw [Below.heap_alloc _ _ _ (by simp)]; exact heap_alloc_new _ _
  · have := heap_alloc_new (w.alloc (.cells c1 T1)) (.cells c2 T2)
    simpa using this
end Go.Proofs.YtnanlkoldloolaaDoor.Mach

/- The document's machine in memory: rows that grow. -/
namespace Go.Proofs.YtnanlkoldloolaaDoor.Mach
open Go.RowKit

section
variable {w w' w'' : World} {t t' t'' : Nat → Nat} {c base : Nat}
theorem CRep.trn {i : Nat} {p : Fr × CV} (h : CRep w t base i p) (T : Trn w w' t t' c base) (hc : c < 7 + 4 * i ∨ 11 + 4 * i ≤ c) : CRep w' t' base i p :=
  ⟨T.rows h.rg (by omega), T.rows h.sl (by omega), T.rows h.ar (by omega), T.rows h.rd (by omega)⟩
theorem CAll.trn {l : List (Fr × CV)} (h : CAll w t base l) (T : Trn w w' t t' c base) (hc : c < 7 ∨ 7 + 4 * l.length ≤ c) : CAll w' t' base l := fun i p hp =>
  (h i p hp).trn T (by have := (List.getElem?_eq_some_iff.1 hp).1; omega)
end
section
variable {w w' w1 : World} {t t1 : Nat → Nat} {base M : Nat} {E : Env} {V : RV} {cl ol : List (Fr × CV)} {f : Fr} {cv : CV} {s : St} {mk : Bool} {v' : Value}
/-- The heap has a new row. -/
theorem RRep.newHeap (h : RRep w t base M E V cl s mk) (T : Trn w w1 t t1 5 base) {hp' : List Int} (hr : Row w1 t1 base 2 1 v' hp'.length (intsV hp') 5) :
    RRep (w1.setCell ⟨M, 5, none⟩ v') t1 base M E { V with hv := v' } cl { s with heap := hp' } mk ∧ Fx w (w1.setCell ⟨M, 5, none⟩ v') t t1 := by
  obtain ⟨b1, b2⟩ := T.blks M (Array.getElem?_eq_some_iff.1 h.hm).1 (by rw [h.tm]; omega)
  have hm1 := b1.trans h.hm
  have tm1 : t1 M = 3 := b2.trans h.tm
  have S : Trn w1 (w1.setCell ⟨M, 5, none⟩ v') t1 t1 3 base := Trn.only (Only.set v' tm1) (by omega)
  have F := T.fx.trans S.fx
  refine ⟨⟨?_, tm1, h.env.fx F, h.opn, S.rows (T.rows h.ho (by omega)) (by omega), S.rows hr (by omega), S.rows (T.rows h.hx (by omega)) (by omega), (h.fr.trn T (.inl (by omega))).trn S (.inl (by omega)), S.lt (T.lt h.lt), S.ge (T.ge h.ge)⟩, F⟩
  rw [heap_set hm1]
  simp [rC]
/-- What was printed has a new row. -/
theorem RRep.newOuts (h : RRep w t base M E V cl s mk) (T : Trn w w1 t t1 6 base) {x' : List Int} (hr : Row w1 t1 base 2 1 v' x'.length (intsV x') 6) :
    RRep (w1.setCell ⟨M, 9, none⟩ v') t1 base M E { V with xv := v' } cl { s with outs := x' } mk ∧ Fx w (w1.setCell ⟨M, 9, none⟩ v') t t1 := by
  obtain ⟨b1, b2⟩ := T.blks M (Array.getElem?_eq_some_iff.1 h.hm).1 (by rw [h.tm]; omega)
  have hm1 := b1.trans h.hm
  have tm1 : t1 M = 3 := b2.trans h.tm
  have S : Trn w1 (w1.setCell ⟨M, 9, none⟩ v') t1 t1 3 base := Trn.only (Only.set v' tm1) (by omega)
  have F := T.fx.trans S.fx
  refine ⟨⟨?_, tm1, h.env.fx F, h.opn, S.rows (T.rows h.ho (by omega)) (by omega), S.rows (T.rows h.hh (by omega)) (by omega), S.rows hr (by omega), (h.fr.trn T (.inl (by omega))).trn S (.inl (by omega)), S.lt (T.lt h.lt), S.ge (T.ge h.ge)⟩, F⟩
  rw [heap_set hm1]
  simp [rC]
/-- A change of the innermost call's row of the tag c. -/
theorem RRep.trnLast {c : Nat} {p p' : Fr × CV} (h : RRep w t base M E V (ol ++ [p]) s mk) (T : Trn w w1 t t1 c base) (hc : 7 + 4 * ol.length ≤ c) (hp : CRep w1 t1 base ol.length p') (hcc : callC p' = callC p) : RRep w1 t1 base M E V (ol ++ [p']) (s.top (ol.map Prod.fst) p'.1) mk := by
  obtain ⟨b1, b2⟩ := T.blks M (Array.getElem?_eq_some_iff.1 h.hm).1 (by rw [h.tm]; omega)
  refine ⟨b1.trans h.hm, b2.trans h.tm, h.env.fx T.fx, by simp [St.top], ?_, T.rows h.hh (by omega), T.rows h.hx (by omega), CAll.snoc (h.fr.init.trn T (.inr hc)) hp, T.lt h.lt, T.ge h.ge⟩
  have h1 := T.rows h.ho (by omega)
  rw [callsC_snoc] at h1
  rw [callsC_snoc, hcc]
  simpa using h1
/-- What is laid ready has a new row. -/
theorem RRep.newReady (h : RRep w t base M E V (ol ++ [(f, cv)]) s mk) {ob oc : Nat} (hov : V.ov = .slice (some ⟨ob, 0, none⟩) (ol.length + 1) oc) (T : Trn w w1 t t1 (10 + 4 * ol.length) base) {y' : List Int} (hr : Row w1 t1 base 2 1 v' y'.length (intsV y') (10 + 4 * ol.length)) :
    RRep (w1.setCell ⟨ob, ol.length * 8 + 6, none⟩ v') t1 base M E V (ol ++ [({ f with ready := y' }, { cv with yv := v' })]) (s.top (ol.map Prod.fst) { f with ready := y' }) mk ∧ Fx w (w1.setCell ⟨ob, ol.length * 8 + 6, none⟩ v') t t1 := by
  have hl := h.fr.last
  have tob : t ob = 4 := h.ho.tag ob (by simp [hov, Value.ownBlock])
  obtain ⟨_, _, hov', _, hlo, _⟩ := h.topC
  rw [hov] at hov'
  simp only [Value.slice.injEq, Option.some.injEq, Addr.mk.injEq, and_true, true_and] at hov'
  obtain ⟨rfl, _⟩ := hov'
  obtain ⟨_, b2⟩ := T.blks ob hlo (by rw [tob]; omega)
  have tob1 : t1 ob = 4 := b2.trans tob
  have S : Trn w1 (w1.setCell ⟨ob, ol.length * 8 + 6, none⟩ v') t1 t1 4 base := Trn.only (Only.set v' tob1) (by omega)
  have F := T.fx.trans S.fx
  obtain ⟨c1, c2⟩ := T.blks M (Array.getElem?_eq_some_iff.1 h.hm).1 (by rw [h.tm]; omega)
  obtain ⟨d1, d2⟩ := S.blks M (Nat.lt_of_lt_of_le (Array.getElem?_eq_some_iff.1 h.hm).1 T.fx.size) (by rw [c2, h.tm]; omega)
  refine ⟨⟨d1.trans (c1.trans h.hm), d2.trans (c2.trans h.tm), h.env.fx F, by simp [St.top], ⟨?_, fun k hk => ?_⟩, S.rows (T.rows h.hh (by omega)) (by omega), S.rows (T.rows h.hx (by omega)) (by omega), CAll.snoc ((h.fr.init.trn T (.inr (by omega))).trn S (.inl (by omega))) ?_, S.lt (T.lt h.lt), S.ge (T.ge h.ge)⟩, F⟩
  · have h1 := (T.rows h.ho (by omega)).own
    have e1 : (ol ++ [(f, cv)]).length = ol.length + 1 := by simp
    have e2 : (ol ++ [(({ f with ready := y' } : Fr), ({ cv with yv := v' } : CV))]).length = ol.length + 1 := by simp
    rw [e1, hov] at h1
    rw [e2, hov]
    have h2 := oset h1 (ol.length * 8 + 6) v'
    rw [callsC_set] at h2
    rw [callsC_snoc]; exact h2
  · rw [hov] at hk
    simp only [Value.ownBlock, Option.some.injEq] at hk
    subst hk; exact tob1
  · exact ⟨S.rows (T.rows hl.rg (by show _ ≠ _; omega)) (by omega), S.rows (T.rows hl.sl (by omega)) (by omega), S.rows (T.rows hl.ar (by omega)) (by omega), S.rows hr (by omega)⟩
/-- A new block is told to be the machine's. -/
theorem RRep.claim (h : RRep w t base M E V cl s mk) (hb : Below w.heap.size w w1) {g c' : Nat} (h1 : w.heap.size ≤ g) (h2 : g < w1.heap.size) (hc : 2 < c') : RRep w1 (upd t g c') base M E V cl s mk ∧ Fx w w1 t (upd t g c') := by
  have F : Fx w w1 t (upd t g c') := (Fx.below hb).updN (.inl h1) hc
  have hM : M < w.heap.size := (Array.getElem?_eq_some_iff.1 h.hm).1
  have h3 := h.below hb
  refine ⟨⟨h3.hm, by rw [upd_ne (by omega)]; exact h.tm, h.env.fx F, h.opn, (h.ho.upd (c := 0) (.inl h1) (by omega)).below hb, (h.hh.upd (c := 0) (.inl h1) (by omega)).below hb, (h.hx.upd (c := 0) (.inl h1) (by omega)).below hb, (h.fr.upd (c := 0) (.inl h1) (.inl (by omega))).below hb, fun k hk => ?_, fun k hk => ?_⟩, F⟩
  · by_cases e : k = g
    · rw [e]; exact h2
    · rw [upd_ne e] at hk; exact h3.lt k hk
  · have hB := (h.ge M (by rw [h.tm]; omega)).2
    have h4 := hb.size
    by_cases e : k = g
    · rw [e]; omega
    · rw [upd_ne e] at hk; exact h3.ge k hk
/-- New blocks are told to be the machine's. -/
theorem RRep.claimT (h : RRep w t base M E V cl s mk) (hb : Below w.heap.size w w1) (h1 : ∀ k, k < w.heap.size → t1 k = t k) (h2 : ∀ k, t1 k ≠ 0 → k < w1.heap.size) : RRep w1 t1 base M E V cl s mk ∧ Fx w w1 t t1 := by
  have F : Fx w w1 t t1 := ⟨hb.os, hb.tape, hb.output, hb.size, fun k hk _ => hb.block k hk, fun k hk => by rw [h1 k hk]; exact ⟨fun _ => rfl, fun h => h⟩⟩
  have hM : M < w.heap.size := (Array.getElem?_eq_some_iff.1 h.hm).1
  have hB := (h.ge M (by rw [h.tm]; omega)).2
  refine ⟨⟨(hb.block M hM).trans h.hm, by rw [h1 M hM]; exact h.tm, h.env.fx F, h.opn, Row.claimT h.ho hb h1, Row.claimT h.hh hb h1, Row.claimT h.hx hb h1, fun i p hp => ?_, h2, fun k hk => ⟨?_, Nat.le_trans hB hb.size⟩⟩, F⟩
  · have c := h.fr i p hp
    exact ⟨Row.claimT c.rg hb h1, Row.claimT c.sl hb h1, Row.claimT c.ar hb h1, Row.claimT c.rd hb h1⟩
  · by_cases e : k < w.heap.size
    · rw [h1 k e] at hk; exact (h.ge k hk).1
    · omega
/-- What was laid ready is taken. -/
theorem RRep.takeReady (h : RRep w t base M E V (ol ++ [(f, cv)]) s mk) {ob oc : Nat} (hov : V.ov = .slice (some ⟨ob, 0, none⟩) (ol.length + 1) oc) :
    (RRep (w.setCell ⟨ob, ol.length * 8 + 6, none⟩ (.slice none 0 0)) (updV t cv.yv (13 + 4 * ol.length)) base M E V (ol ++ [({ f with ready := [] }, { cv with yv := .slice none 0 0 })]) (s.top (ol.map Prod.fst) { f with ready := [] }) mk ∧ Fx w (w.setCell ⟨ob, ol.length * 8 + 6, none⟩ (.slice none 0 0)) t (updV t cv.yv (13 + 4 * ol.length))) ∧
    Row (w.setCell ⟨ob, ol.length * 8 + 6, none⟩ (.slice none 0 0)) (updV t cv.yv (13 + 4 * ol.length)) base 2 1 cv.yv f.ready.length (intsV f.ready) (13 + 4 * ol.length) := by
  have hl := h.fr.last
  have T : Trn w w t (updV t cv.yv (13 + 4 * ol.length)) (10 + 4 * ol.length) base := Trn.retag hl.rd.tag (fun g hg => (hl.rd.lt g hg).1) (by omega) (by omega) h.ge
  refine ⟨h.newReady hov T (y' := []) (Row.nil _ _ _ _ _ _), ?_⟩
  have r0 : Row w (updV t cv.yv (13 + 4 * ol.length)) base 2 1 cv.yv f.ready.length (intsV f.ready) (13 + 4 * ol.length) := ⟨hl.rd.own, updV_self _ _ _⟩
  have tob : t ob = 4 := h.ho.tag ob (by simp [hov, Value.ownBlock])
  have hob : ob < w.heap.size := (h.ho.lt ob (by simp [hov, Value.ownBlock])).1
  have tob1 : updV t cv.yv (13 + 4 * ol.length) ob = 4 := by rw [(T.blks ob hob (by omega)).2]; exact tob
  exact r0.only (Only.set _ tob1) (by omega)
/-- The innermost call is over. -/
theorem RRep.pop {p : Fr × CV} (h : RRep w t base M E V (ol ++ [p]) s mk) {ob oc : Nat} (hov : V.ov = .slice (some ⟨ob, 0, none⟩) (ol.length + 1) oc) :
    RRep (w.setCell ⟨M, 6, none⟩ (.slice (some ⟨ob, 0, none⟩) ol.length oc)) t base M E { V with ov := .slice (some ⟨ob, 0, none⟩) ol.length oc } ol { s with opn := ol.map Prod.fst } mk := by
  have S : Trn w (w.setCell ⟨M, 6, none⟩ (.slice (some ⟨ob, 0, none⟩) ol.length oc)) t t 3 base := Trn.only (Only.set _ h.tm) (by omega)
  have hr : Row w t base 95 8 (.slice (some ⟨ob, 0, none⟩) ol.length oc) ol.length (callsC ol) 4 := by
    have h1 := h.ho
    rw [hov] at h1
    have h3 := h1.own
    rw [List.length_append, List.length_singleton] at h3
    have h2 := ocut h3 (k := ol.length) (by omega)
    rw [callsC_snoc, ← callsC_length, List.take_left] at h2
    exact ⟨h2, fun k hk => h1.tag k hk⟩
  refine ⟨?_, h.tm, h.env.fx S.fx, rfl, S.rows hr (by omega), S.rows h.hh (by omega), S.rows h.hx (by omega), h.fr.init.trn S (.inl (by omega)), S.lt h.lt, S.ge h.ge⟩
  rw [heap_set h.hm]
  simp [rC]
/-- A call more. -/
theorem RRep.push (h : RRep w t base M E V cl s mk) (T : Trn w w1 t t1 4 base) {p : Fr × CV} (hr : Row w1 t1 base 95 8 v' (cl.length + 1) (callsC (cl ++ [p])) 4) (hp : CRep w1 t1 base cl.length p) :
    RRep (w1.setCell ⟨M, 6, none⟩ v') t1 base M E { V with ov := v' } (cl ++ [p]) { s with opn := s.opn ++ [p.1] } mk ∧ Fx w (w1.setCell ⟨M, 6, none⟩ v') t t1 := by
  obtain ⟨b1, b2⟩ := T.blks M (Array.getElem?_eq_some_iff.1 h.hm).1 (by rw [h.tm]; omega)
  have hm1 := b1.trans h.hm
  have tm1 : t1 M = 3 := b2.trans h.tm
  have S : Trn w1 (w1.setCell ⟨M, 6, none⟩ v') t1 t1 3 base := Trn.only (Only.set v' tm1) (by omega)
  have F := T.fx.trans S.fx
  refine ⟨⟨?_, tm1, h.env.fx F, by simp [h.opn], ?_, S.rows (T.rows h.hh (by omega)) (by omega), S.rows (T.rows h.hx (by omega)) (by omega), CAll.snoc ((h.fr.trn T (.inl (by omega))).trn S (.inl (by omega))) (hp.trn S (.inl (by omega))), S.lt (T.lt h.lt), S.ge (T.ge h.ge)⟩, F⟩
  · rw [heap_set hm1]
    simp [rC]
  · rw [List.length_append, List.length_singleton]
    exact S.rows hr (by omega)
end
end Go.Proofs.YtnanlkoldloolaaDoor.Mach

/- The document's machine: a call begins. -/
namespace Go.Proofs.YtnanlkoldloolaaDoor.Mach
open Go.RowKit

theorem info_C' : (Tryd.prog.info? 95).map (fun i => (i.zero, i.size, i.bytes)) = some (some (.agg #[.int .i64 0, .int .i64 0, .slice none 0 0, .slice none 0 0, .int .i64 0, .slice none 0 0, .slice none 0 0, .int .u8 0]), 8, 128) := by kernel_rfl
theorem info_C : ∃ x, Tryd.prog.info? 95 = some x ∧ x.zero = some (.agg #[.int .i64 0, .int .i64 0, .slice none 0 0, .slice none 0 0, .int .i64 0, .slice none 0 0, .slice none 0 0, .int .u8 0]) ∧ x.size = 8 ∧ x.bytes = 128 := parts' info_C'
theorem blk_ne' {w : World} {i j : Nat} {c c' : Array Value} {T T' : TypeId} {f f' : Nat × Nat} (h1 : w.heap[i]? = some (.cells c T f)) (h2 : w.heap[j]? = some (.cells c' T' f')) (h : T ≠ T') : i ≠ j := fun e => by subst e; rw [h1] at h2; cases h2; exact h rfl
/-- What a call's beginning leaves. -/
def BPost (w : World) (t : Nat → Nat) (base M : Nat) (E : Env) (cl : List (Fr × CV)) (g : Fr) (s : St) (mk : Bool) (w' : World) : Prop := ∃ t' V' cv, RRep w' t' base M E V' (cl ++ [(g, cv)]) { s with opn := s.opn ++ [g] } mk ∧ Fx w w' t t'

set_option maxRecDepth 100000 in
set_option maxHeartbeats 1000000 in
theorem rbegin_any (w : World) (t : Nat → Nat) (base M : Nat) (E : Env) (V : RV) (cl : List (Fr × CV)) (s : St) (mk : Bool) (h : RRep w t base M E V cl s mk) (hcl : cl.length ≤ 99) (fn : Nat) (hfn : fn < E.es.length) (args : List Int) (av : Value) (har : Row w t base 2 1 av args.length (intsV args) (9 + 4 * cl.length)) (dst : Int) :
    Calls Tryd.prog 23 #[.pointer (some ⟨M, 0, none⟩), .int .i64 fn, av, .int .u8 dst] w fun e w' => e = .returned (.tuple #[]) ∧ BPost w t base M E cl (newFr E fn args dst) s mk w' := by
  obtain ⟨eb, eo, ec, hev, he1, he2, hleb, -⟩ := h.env.ent (fn := (fn : Int)) (by omega) (by omega)
  rw [Int.toNat_natCast] at he1 he2
  have m1 : w.cell? ⟨M, 1, none⟩ = some (.slice (some ⟨eb, eo, none⟩) E.es.length ec) := (h.cellM 1).trans (by rw [(rC_get V s mk).2.1, hev])
  obtain ⟨oa, oc, hov, -, -⟩ := oshape h.ho.own
  have m6 : w.cell? ⟨M, 6, none⟩ = some (.slice oa cl.length oc) := (h.cellM 6).trans (by rw [(rC_get V s mk).2.2.2.2.1, hov])
  have z6 := h.frzM 6
  obtain ⟨aa, ac, hav, -, -⟩ := oshape har.own
  subst hav
  have hmk : ∀ W : World, (Instr.makeSlice 37 (.int .i64 16) (.int .i64 16)).run Tryd.prog W = .ok (.slice (some ⟨W.heap.size, 0, none⟩) 16 16) (W.alloc (.cells (madeCells #[.int .i64 0] 16) 2)) := fun W => run_make_row' (P := Tryd.prog) 37 2 (.int .i64 0) 8 Tryd.underlying37 info_i64' rfl .i64 .i64 16 (by omega) (by omega) W
  have hlM : M < w.heap.size := (Array.getElem?_eq_some_iff.1 h.hm).1
  have mixed : Tryd.prog.follows Departure.mixedOrders = true := by kernel_rfl
  have H := Lib.hid h
  have HA := Lib.hid har
  clear h har
  go_enter Tryd.func23, Tryd.ntmps23
  go_upto_region 0 with fail
  go_cut [8] (fun s8 wx => ∃ cb rb, s8 = .pointer (some ⟨cb, 0, none⟩) ∧ Hid (wx.heap[cb]? = some (.cells #[.int .i64 fn, .int .i64 0, .slice (some ⟨rb, 0, none⟩) 16 16, .slice none 0 0, .int .i64 (E.ent fn).1, .slice aa args.length ac, .slice none 0 0, .int .u8 dst] 95 (0, 0)) ∧
    wx.heap[rb]? = some (.cells (madeCells #[.int .i64 0] 16) 2 (0, 0)) ∧ w.heap.size ≤ cb ∧ w.heap.size ≤ rb ∧ Below w.heap.size w wx))
  case first =>
    go_region
    all_goals go_wp2_with fail
    all_goals go_meet
    · obtain ⟨x1, x2, x3⟩ := two_alloc w (madeCells #[.int .i64 0] 16) #[.int .i64 fn, .int .i64 0, .slice (some ⟨w.heap.size, 0, none⟩) 16 16, .slice none 0 0, .int .i64 (E.ent fn).1, .slice aa args.length ac, .slice none 0 0, .int .u8 dst] 2 95
      exact ⟨_, _, rfl, x2, x1, by omega, by omega, x3.drew⟩
    · obtain ⟨x1, x2, x3⟩ := two_alloc w #[.int .i64 fn, .int .i64 0, .slice (some ⟨w.heap.size + 1, 0, none⟩) 16 16, .slice none 0 0, .int .i64 (E.ent fn).1, .slice aa args.length ac, .slice none 0 0, .int .u8 dst] (madeCells #[.int .i64 0] 16) 95 2
      exact ⟨_, _, rfl, x1, x2, by omega, by omega, x3.drew⟩
  case rest =>
    obtain ⟨cb, rb, rfl, HC⟩ := hcut
    obtain ⟨w2, rfl⟩ : ∃ w2 : World, w2 = wc := ⟨_, rfl⟩
    obtain ⟨hcb, hrb, hcb0, hrb0, hb2⟩ := HC.out
    have hlcb : cb < w2.heap.size := (Array.getElem?_eq_some_iff.1 hcb).1
    have hlrb : rb < w2.heap.size := (Array.getElem?_eq_some_iff.1 hrb).1
    have m1' : w2.cell? ⟨M, 1, none⟩ = some (.slice (some ⟨eb, eo, none⟩) E.es.length ec) := (hb2.cell (p := ⟨M, 1, none⟩) hlM).trans m1
    have e2' : w2.cell? ⟨eb, eo + fn * 2 + 1, none⟩ = some (.int .i64 (E.ent fn).2) := (hb2.cell (p := ⟨eb, eo + fn * 2 + 1, none⟩) hleb).trans he2
    have HB2 := Lib.hid hb2
    have hlM2 : M < w2.heap.size := Nat.lt_of_lt_of_le hlM hb2.size
    have hleb2 : eb < w2.heap.size := Nat.lt_of_lt_of_le hleb hb2.size
    have nMC : ¬ M = cb := by omega
    have nCM : ¬ cb = M := by omega
    have HSL := Lib.hid (fun n => rslots_any M eb eo E.es.length ec fn (E.ent fn).2 (w2.drewN n) m1' hfn e2')
    have c3 : w2.cell? ⟨cb, 3, none⟩ = some (.slice none 0 0) := by simp [World.cell?, hcb]
    have zc3 : w2.frozen? ⟨cb, 3, none⟩ = false := by simp [World.frozen?, hcb]
    have HCB := Lib.hid hcb
    have HRB := Lib.hid hrb
    have hM0 := (H.out.cellM 6)
    clear hcb hrb hb2 HC m1 he1 he2 hmk m6 z6 hM0
    cases hb : slotsOk (E.ent fn).2
    case false =>
      simp only [hb] at HSL
      go_wp2_with fail
      refine (HSL.out 0).mono ?_
      rintro e w3 ⟨rfl, hw3⟩
      have hw3 := hw3.symm
      subst hw3
      have hn0 : slotsN (E.ent fn).2 = 0 := by simp [slotsN, hb]
      obtain ⟨H3', F3'⟩ := H.out.claim HB2.out hrb0 hlrb (c' := 7 + 4 * cl.length) (by omega)
      obtain ⟨t3, ht3⟩ : ∃ t3, t3 = upd t rb (7 + 4 * cl.length) := ⟨_, rfl⟩
      rw [← ht3] at H3' F3'
      have H3 := Lib.hid H3'
      have F3 := Lib.hid F3'
      obtain ⟨w3, rfl⟩ : ∃ w3 : World, w3 = w2 := ⟨_, rfl⟩
      have hbB : base ≤ w.heap.size := (H.out.ge M (by have := H.out.tm; omega)).2
      have HCR : Hid (CRep w3 t3 base cl.length (newFr E fn args dst, ⟨0, .slice (some ⟨rb, 0, none⟩) 16 16, .slice none 0 0, .slice aa args.length ac, .slice none 0 0⟩)) := by
        refine ⟨⟨row_of_made HRB.out (by omega) (by unfold maxLen; omega), fun k hk => ?_⟩, ?_, ?_, Row.nil _ _ _ _ _ _⟩
        · simp only [Value.ownBlock, Option.some.injEq] at hk
          rw [← hk, ht3, upd_at]
        · show Row w3 t3 base _ 1 (.slice none 0 0) (List.replicate (slotsN (E.ent fn).2) 0).length (intsV (List.replicate (slotsN (E.ent fn).2) 0)) _
          rw [hn0]
          exact Row.nil _ _ _ _ _ _
        · have := (HA.out.upd (c := 0) (c' := 7 + 4 * cl.length) (.inl hrb0) (by omega)).below HB2.out
          rw [ht3]; exact this
      have HC3 := HCB
      clear H3' F3'
      obtain ⟨cs, hcs⟩ : ∃ cs : Array Value, cs = #[.int .i64 fn, .int .i64 0, .slice (some ⟨rb, 0, none⟩) 16 16, .slice none 0 0, .int .i64 (E.ent fn).1, .slice aa args.length ac, .slice none 0 0, .int .u8 dst] := ⟨_, rfl⟩
      obtain ⟨iC, i1, i2, i3, i4⟩ := info_C
      have HI := Lib.hid (And.intro i1 (And.intro i2 (And.intro i3 i4)))
      have hho := H3.out.ho.own
      rw [hov] at hho
      have OA : Hid ((((w3.drewN 1).alloc (.cells #[.int .i64 fn, .int .i64 0, .slice (some ⟨rb, 0, none⟩) 16 16, .slice none 0 0, .int .i64 (E.ent fn).1, .slice aa args.length ac, .slice none 0 0, .int .u8 dst] 95))).ownsRow base 95 8 (.slice oa cl.length oc) cl.length (callsC cl)) := World.ownsRow.alloc (w := w3.drewN 1) hho _
      have RA : Hid (Rd (((w3.drewN 1).alloc (.cells #[.int .i64 fn, .int .i64 0, .slice (some ⟨rb, 0, none⟩) 16 16, .slice none 0 0, .int .i64 (E.ent fn).1, .slice aa args.length ac, .slice none 0 0, .int .u8 dst] 95))) 8 (.slice (some ⟨w3.heap.size, 0, none⟩) 1 1) 1 [.int .i64 fn, .int .i64 0, .slice (some ⟨rb, 0, none⟩) 16 16, .slice none 0 0, .int .i64 (E.ent fn).1, .slice aa args.length ac, .slice none 0 0, .int .u8 dst]) := lit_rd (w3.drewN 1) #[.int .i64 fn, .int .i64 0, .slice (some ⟨rb, 0, none⟩) 16 16, .slice none 0 0, .int .i64 (E.ent fn).1, .slice aa args.length ac, .slice none 0 0, .int .u8 dst] 8 _ rfl
      have hbs : base ≤ w3.heap.size := (H3.out.ge M (by have := H3.out.tm; omega)).2
      have BA : Hid (base ≤ (((w3.drewN 1).alloc (.cells #[.int .i64 fn, .int .i64 0, .slice (some ⟨rb, 0, none⟩) 16 16, .slice none 0 0, .int .i64 (E.ent fn).1, .slice aa args.length ac, .slice none 0 0, .int .u8 dst] 95))).heap.size) := by show _ ≤ ((w3.drewN 1).alloc _).heap.size; simp; exact Nat.le_succ_of_le hbs
      have y1 : cl.length + 1 ≤ maxLen := by unfold maxLen; omega
      have y2 : (cl.length + 1) * 128 ≤ 140737488355328 := by omega
      have ho1 : ∀ u ∈ [.int .i64 fn, .int .i64 0, .slice (some ⟨rb, 0, none⟩) 16 16, .slice none 0 0, .int .i64 (E.ent fn).1, .slice aa args.length ac, .slice none 0 0, .int .u8 dst], Value.oneCell' u = true := by
        intro u hu
        simp only [List.mem_cons, List.not_mem_nil, or_false] at hu
        rcases hu with rfl | rfl | rfl | rfl | rfl | rfl | rfl | rfl <;> rfl
      have HO1 := Lib.hid ho1
      have htg := H3.out.ho.tag
      rw [hov] at htg
      have HTG := Lib.hid htg
      have h2c : 2 < 4 := by omega
      have m63 : w3.cell? ⟨M, 6, none⟩ = some (.slice oa cl.length oc) := (H3.out.cellM 6).trans (by rw [(rC_get V s mk).2.2.2.2.1, hov])
      have z63 := H3.out.frzM 6
      have m6A := fun o => cellA m63 1 o
      have hlM3 : M < w3.heap.size := (Array.getElem?_eq_some_iff.1 H3.out.hm).1
      have k0 : w3.cell? ⟨cb, 0, none⟩ = some (.int .i64 fn) := by simp [World.cell?, HC3.out]
      have k1 : w3.cell? ⟨cb, 1, none⟩ = some (.int .i64 0) := by simp [World.cell?, HC3.out]
      have k2 : w3.cell? ⟨cb, 2, none⟩ = some (.slice (some ⟨rb, 0, none⟩) 16 16) := by simp [World.cell?, HC3.out]
      have k3 : w3.cell? ⟨cb, 3, none⟩ = some (.slice none 0 0) := by simp [World.cell?, HC3.out]
      have k4 : w3.cell? ⟨cb, 4, none⟩ = some (.int .i64 (E.ent fn).1) := by simp [World.cell?, HC3.out]
      have k5 : w3.cell? ⟨cb, 5, none⟩ = some (.slice aa args.length ac) := by simp [World.cell?, HC3.out]
      have k6 : w3.cell? ⟨cb, 6, none⟩ = some (.slice none 0 0) := by simp [World.cell?, HC3.out]
      have k7 : w3.cell? ⟨cb, 7, none⟩ = some (.int .u8 dst) := by simp [World.cell?, HC3.out]
      clear hho htg i1 i2 i3 i4 hcs ho1 c3 zc3
      go_wp2_with fail
      go_region_law_o (refine step_append_f rfl _ _ 43 rfl base 95 iC (.agg #[.int .i64 0, .int .i64 0, .slice none 0 0, .slice none 0 0, .int .i64 0, .slice none 0 0, .slice none 0 0, .int .u8 0]) 8 128 Tryd.underlying43 HI.out.1 HI.out.2.1 HI.out.2.2.1 HI.out.2.2.2 rfl (by decide) _ cl.length (callsC cl) rfl OA.out _ 1 [.int .i64 fn, .int .i64 0, .slice (some ⟨rb, 0, none⟩) 16 16, .slice none 0 0, .int .i64 (E.ent fn).1, .slice aa args.length ac, .slice none 0 0, .int .u8 dst] rfl RA.out HO1.out y1 y2 BA.out ?_; intro v' w7 hown7 hgrow7 hfr7; obtain ⟨va7, vc7, rfl, -, -⟩ := oshape hown7; have TR := Lib.hid (Trn.appN (t := t3) (c := 4) (base := base) 1 _ hgrow7 HTG.out hfr7 hown7 h2c hbs); have HNW := Lib.hid (H3.out.push TR.out (p := (newFr E fn args dst, ⟨0, .slice (some ⟨rb, 0, none⟩) 16 16, .slice none 0 0, .slice aa args.length ac, .slice none 0 0⟩)) ⟨by rw [callsC_snoc]; exact hown7, updV_self _ _ _⟩ (CRep.trn HCR.out TR.out (.inl (by omega)))); have hbO := (TR.out.blks M hlM3 (by have := H3.out.tm; omega)).1; have m6' := (World.cell?_of_block (a := ⟨M, 6, none⟩) hbO).trans m63; have z6' := (World.frozen?_of_block (a := ⟨M, 6, none⟩) hbO).trans z63; clear hbO hown7 hgrow7 hfr7)
      all_goals
        go_wp2_with fail
        refine bodyPost_end (results_none rfl _ _ _) rfl ⟨rfl, ?_⟩
        exact ⟨_, _, _, HNW.out.1, F3.out.trans HNW.out.2⟩
    case true =>
      simp only [hb] at HSL
      obtain ⟨nS, hnS⟩ : ∃ n : Nat, (E.ent fn).2 = n := ⟨(E.ent fn).2.toNat, by simp [slotsOk] at hb; omega⟩
      have hnSl : nS ≤ 60000 := by simp [slotsOk] at hb; omega
      have hn0 : slotsN (E.ent fn).2 = nS := by simp only [slotsN, hb, if_true]; rw [hnS, Int.toNat_natCast]
      have hmkS : ∀ W : World, (Instr.makeSlice 37 (.int .i64 nS) (.int .i64 nS)).run Tryd.prog W = .ok (.slice (some ⟨W.heap.size, 0, none⟩) nS nS) (W.alloc (.cells (madeCells #[.int .i64 0] nS) 2)) := fun W => run_make_row' (P := Tryd.prog) 37 2 (.int .i64 0) 8 Tryd.underlying37 info_i64' rfl .i64 .i64 nS (by omega) (by omega) W
      rw [hnS] at e2'
      have c3A := fun n o => cellA c3 n o
      have z3A := fun n o => frzA c3 zc3 n o
      go_wp2_with fail
      refine (HSL.out 0).mono ?_
      rintro e w2' ⟨rfl, hw3⟩
      have hw3 := hw3.symm
      subst hw3
      go_wp2_with fail
      obtain ⟨w3, hw3⟩ : ∃ w3, w3 = (((w2.drewN 0).alloc (.cells (madeCells #[.int .i64 0] nS) 2)).setCell ⟨cb, 3, none⟩ (.slice (some ⟨w2.heap.size, 0, none⟩) nS nS)) := ⟨_, rfl⟩
      rw [← hw3]
      have hq : Below w2.heap.size w2 ((w2.drewN 0).alloc (.cells (madeCells #[.int .i64 0] nS) 2)) := (show Below w2.heap.size w2 (w2.drewN 0) from ⟨rfl, rfl, rfl, Nat.le_refl _, fun _ _ => rfl⟩).alloc (Nat.le_refl _) _
      have HB3 : Hid (Below w.heap.size w w3) := by rw [hw3]; exact (HB2.out.trans (hq.mono HB2.out.size)).setCell hcb0 _
      have hsz3 : w3.heap.size = w2.heap.size + 1 := by
        rw [hw3, World.size_setCell]
        show ((w2.drewN 0).heap.push _).size = _
        simp
      have HC3 : Hid (w3.heap[cb]? = some (.cells #[.int .i64 fn, .int .i64 0, .slice (some ⟨rb, 0, none⟩) 16 16, .slice (some ⟨w2.heap.size, 0, none⟩) nS nS, .int .i64 (E.ent fn).1, .slice aa args.length ac, .slice none 0 0, .int .u8 dst] 95 (0, 0))) := by
        have h5 := (hq.block cb hlcb).trans HCB.out
        rw [hw3]
        exact (heap_set h5 3 _).trans (by simp)
      have HRB3 : w3.heap[rb]? = some (.cells (madeCells #[.int .i64 0] 16) 2 (0, 0)) := by
        rw [hw3, Below.heap_setCell _ _ _ _ (blk_ne' HRB.out HCB.out (by decide))]
        exact (hq.block rb hlrb).trans HRB.out
      have HSB3 : w3.heap[w2.heap.size]? = some (.cells (madeCells #[.int .i64 0] nS) 2 (0, 0)) := by
        rw [hw3, Below.heap_setCell _ _ _ _ (by show w2.heap.size ≠ cb; omega)]
        exact heap_alloc_new (w2.drewN 0) _
      have nsr : w2.heap.size ≠ rb := by omega
      obtain ⟨t3, ht3⟩ : ∃ t3, t3 = upd (upd t rb (7 + 4 * cl.length)) w2.heap.size (8 + 4 * cl.length) := ⟨_, rfl⟩
      have hsz2 := HB2.out.size
      have ht1 : ∀ k, k < w.heap.size → t3 k = t k := fun k hk => by rw [ht3, upd_ne (by omega), upd_ne (by omega)]
      obtain ⟨H3', F3'⟩ := H.out.claimT HB3.out ht1 (fun k hk => by
        by_cases e1 : k = w2.heap.size
        · omega
        · by_cases e2 : k = rb
          · omega
          · rw [ht3, upd_ne e1, upd_ne e2] at hk
            have := H.out.lt k hk
            omega)
      have H3 := Lib.hid H3'
      have F3 := Lib.hid F3'
      have hbB : base ≤ w.heap.size := (H.out.ge M (by have := H.out.tm; omega)).2
      have HCR : Hid (CRep w3 t3 base cl.length (newFr E fn args dst, ⟨0, .slice (some ⟨rb, 0, none⟩) 16 16, .slice (some ⟨w2.heap.size, 0, none⟩) nS nS, .slice aa args.length ac, .slice none 0 0⟩)) := by
        refine ⟨⟨row_of_made HRB3 (by omega) (by unfold maxLen; omega), fun k hk => ?_⟩, ?_, Row.claimT HA.out HB3.out ht1, Row.nil _ _ _ _ _ _⟩
        · simp only [Value.ownBlock, Option.some.injEq] at hk
          rw [← hk, ht3, upd_ne (Ne.symm nsr), upd_at]
        · show Row w3 t3 base _ 1 (.slice (some ⟨w2.heap.size, 0, none⟩) nS nS) (List.replicate (slotsN (E.ent fn).2) 0).length (intsV (List.replicate (slotsN (E.ent fn).2) 0)) _
          rw [hn0, List.length_replicate]
          exact ⟨row_of_made HSB3 (by omega) (by unfold maxLen; omega), fun k hk => by
            simp only [Value.ownBlock, Option.some.injEq] at hk
            rw [← hk, ht3, upd_at]⟩
      have nMC3 : ¬ M = cb := by omega
      clear H3' F3' HRB3 HSB3 hw3 hq c3A z3A ht3 ht1 e2' m1' hsz3
      obtain ⟨cs, hcs⟩ : ∃ cs : Array Value, cs = #[.int .i64 fn, .int .i64 0, .slice (some ⟨rb, 0, none⟩) 16 16, .slice (some ⟨w2.heap.size, 0, none⟩) nS nS, .int .i64 (E.ent fn).1, .slice aa args.length ac, .slice none 0 0, .int .u8 dst] := ⟨_, rfl⟩
      obtain ⟨iC, i1, i2, i3, i4⟩ := info_C
      have HI := Lib.hid (And.intro i1 (And.intro i2 (And.intro i3 i4)))
      have hho := H3.out.ho.own
      rw [hov] at hho
      have OA : Hid (((w3.alloc (.cells #[.int .i64 fn, .int .i64 0, .slice (some ⟨rb, 0, none⟩) 16 16, .slice (some ⟨w2.heap.size, 0, none⟩) nS nS, .int .i64 (E.ent fn).1, .slice aa args.length ac, .slice none 0 0, .int .u8 dst] 95)).drew).ownsRow base 95 8 (.slice oa cl.length oc) cl.length (callsC cl)) := hho.alloc _
      have RA : Hid (Rd ((w3.alloc (.cells #[.int .i64 fn, .int .i64 0, .slice (some ⟨rb, 0, none⟩) 16 16, .slice (some ⟨w2.heap.size, 0, none⟩) nS nS, .int .i64 (E.ent fn).1, .slice aa args.length ac, .slice none 0 0, .int .u8 dst] 95)).drew) 8 (.slice (some ⟨w3.heap.size, 0, none⟩) 1 1) 1 [.int .i64 fn, .int .i64 0, .slice (some ⟨rb, 0, none⟩) 16 16, .slice (some ⟨w2.heap.size, 0, none⟩) nS nS, .int .i64 (E.ent fn).1, .slice aa args.length ac, .slice none 0 0, .int .u8 dst]) := lit_rd w3 #[.int .i64 fn, .int .i64 0, .slice (some ⟨rb, 0, none⟩) 16 16, .slice (some ⟨w2.heap.size, 0, none⟩) nS nS, .int .i64 (E.ent fn).1, .slice aa args.length ac, .slice none 0 0, .int .u8 dst] 8 _ rfl
      have hbs : base ≤ w3.heap.size := (H3.out.ge M (by have := H3.out.tm; omega)).2
      have BA : Hid (base ≤ ((w3.alloc (.cells #[.int .i64 fn, .int .i64 0, .slice (some ⟨rb, 0, none⟩) 16 16, .slice (some ⟨w2.heap.size, 0, none⟩) nS nS, .int .i64 (E.ent fn).1, .slice aa args.length ac, .slice none 0 0, .int .u8 dst] 95)).drew).heap.size) := by show _ ≤ (w3.alloc _).heap.size; simp; exact Nat.le_succ_of_le hbs
      have y1 : cl.length + 1 ≤ maxLen := by unfold maxLen; omega
      have y2 : (cl.length + 1) * 128 ≤ 140737488355328 := by omega
      have ho1 : ∀ u ∈ [.int .i64 fn, .int .i64 0, .slice (some ⟨rb, 0, none⟩) 16 16, .slice (some ⟨w2.heap.size, 0, none⟩) nS nS, .int .i64 (E.ent fn).1, .slice aa args.length ac, .slice none 0 0, .int .u8 dst], Value.oneCell' u = true := by
        intro u hu
        simp only [List.mem_cons, List.not_mem_nil, or_false] at hu
        rcases hu with rfl | rfl | rfl | rfl | rfl | rfl | rfl | rfl <;> rfl
      have HO1 := Lib.hid ho1
      have htg := H3.out.ho.tag
      rw [hov] at htg
      have HTG := Lib.hid htg
      have h2c : 2 < 4 := by omega
      have m63 : w3.cell? ⟨M, 6, none⟩ = some (.slice oa cl.length oc) := (H3.out.cellM 6).trans (by rw [(rC_get V s mk).2.2.2.2.1, hov])
      have z63 := H3.out.frzM 6
      have m6A := fun o => cellA m63 0 o
      have hlM3 : M < w3.heap.size := (Array.getElem?_eq_some_iff.1 H3.out.hm).1
      have k0 : w3.cell? ⟨cb, 0, none⟩ = some (.int .i64 fn) := by simp [World.cell?, HC3.out]
      have k1 : w3.cell? ⟨cb, 1, none⟩ = some (.int .i64 0) := by simp [World.cell?, HC3.out]
      have k2 : w3.cell? ⟨cb, 2, none⟩ = some (.slice (some ⟨rb, 0, none⟩) 16 16) := by simp [World.cell?, HC3.out]
      have k3 : w3.cell? ⟨cb, 3, none⟩ = some (.slice (some ⟨w2.heap.size, 0, none⟩) nS nS) := by simp [World.cell?, HC3.out]
      have k4 : w3.cell? ⟨cb, 4, none⟩ = some (.int .i64 (E.ent fn).1) := by simp [World.cell?, HC3.out]
      have k5 : w3.cell? ⟨cb, 5, none⟩ = some (.slice aa args.length ac) := by simp [World.cell?, HC3.out]
      have k6 : w3.cell? ⟨cb, 6, none⟩ = some (.slice none 0 0) := by simp [World.cell?, HC3.out]
      have k7 : w3.cell? ⟨cb, 7, none⟩ = some (.int .u8 dst) := by simp [World.cell?, HC3.out]
      clear hho htg i1 i2 i3 i4 hcs ho1 c3 zc3
      go_wp2_with fail
      go_region_law_o (refine step_append_f rfl _ _ 43 rfl base 95 iC (.agg #[.int .i64 0, .int .i64 0, .slice none 0 0, .slice none 0 0, .int .i64 0, .slice none 0 0, .slice none 0 0, .int .u8 0]) 8 128 Tryd.underlying43 HI.out.1 HI.out.2.1 HI.out.2.2.1 HI.out.2.2.2 rfl (by decide) _ cl.length (callsC cl) rfl OA.out _ 1 [.int .i64 fn, .int .i64 0, .slice (some ⟨rb, 0, none⟩) 16 16, .slice (some ⟨w2.heap.size, 0, none⟩) nS nS, .int .i64 (E.ent fn).1, .slice aa args.length ac, .slice none 0 0, .int .u8 dst] rfl RA.out HO1.out y1 y2 BA.out ?_; intro v' w7 hown7 hgrow7 hfr7; obtain ⟨va7, vc7, rfl, -, -⟩ := oshape hown7; have TR := Lib.hid (Trn.appD (t := t3) (c := 4) (base := base) _ hgrow7 HTG.out hfr7 hown7 h2c hbs); have HNW := Lib.hid (H3.out.push TR.out (p := (newFr E fn args dst, ⟨0, .slice (some ⟨rb, 0, none⟩) 16 16, .slice (some ⟨w2.heap.size, 0, none⟩) nS nS, .slice aa args.length ac, .slice none 0 0⟩)) ⟨by rw [callsC_snoc]; exact hown7, updV_self _ _ _⟩ (CRep.trn HCR.out TR.out (.inl (by omega)))); have hbO := (TR.out.blks M hlM3 (by have := H3.out.tm; omega)).1; have m6' := (World.cell?_of_block (a := ⟨M, 6, none⟩) hbO).trans m63; have z6' := (World.frozen?_of_block (a := ⟨M, 6, none⟩) hbO).trans z63; clear hbO hown7 hgrow7 hfr7)
      all_goals
        go_wp2_with fail
        refine bodyPost_end (results_none rfl _ _ _) rfl ⟨rfl, ?_⟩
        exact ⟨_, _, _, HNW.out.1, F3.out.trans HNW.out.2⟩
end Go.Proofs.YtnanlkoldloolaaDoor.Mach
