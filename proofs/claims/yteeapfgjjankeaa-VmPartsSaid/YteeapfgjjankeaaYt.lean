/- Memory told by tags: which block belongs to what; rows of the call's own, and what stays of them. -/
import Derived.Test.YteeapfgjjankeaaU
import Derived.Below
namespace Go.Proofs.Yteeapfgjjankeaa.Mach
open Go.RowKit

section
variable {w w' w'' : World} {base K n : Nat} {e : TypeId} {v : Value} {xs : List Value}

theorem oblk (h : w.ownsRow base e K v n xs) : ∀ k, v.ownBlock = some k → base ≤ k ∧ ∃ cur, w.heap[k]? = some (.cells cur e (0, 0)) := by
  intro k hk
  rcases h.2 with ⟨rfl, _⟩ | ⟨g, cap, cur, rfl, h1, h2, _⟩
  · cases hk
  · simp [Value.ownBlock] at hk; subst hk; exact ⟨h1, cur, h2⟩
theorem olt (h : w.ownsRow base e K v n xs) : ∀ k, v.ownBlock = some k → k < w.heap.size := fun k hk => by
  obtain ⟨_, cur, hc⟩ := oblk h k hk
  exact (Array.getElem?_eq_some_iff.1 hc).1
theorem osame (h : w.ownsRow base e K v n xs) (hk : ∀ k, v.ownBlock = some k → w'.heap[k]? = w.heap[k]?) : w'.ownsRow base e K v n xs := by
  refine ⟨h.1, ?_⟩
  rcases h.2 with h1 | ⟨g, cap, cur, rfl, h1, h2, h3⟩
  · exact .inl h1
  · exact .inr ⟨g, cap, cur, rfl, h1, (hk g rfl).trans h2, h3⟩
theorem odown (h : w.ownsRow base e K v n xs) {b : Nat} (hb : b ≤ base) : w.ownsRow b e K v n xs := by
  refine ⟨h.1, ?_⟩
  rcases h.2 with h1 | ⟨g, cap, cur, rfl, h1, h2⟩
  · exact .inl h1
  · exact .inr ⟨g, cap, cur, rfl, Nat.le_trans hb h1, h2⟩
/-- A row's base may be told anew, from its block. -/
theorem obase (h : w.ownsRow base e K v n xs) {b : Nat} (hb : ∀ k, v.ownBlock = some k → b ≤ k) : w.ownsRow b e K v n xs := by
  refine ⟨h.1, ?_⟩
  rcases h.2 with h1 | ⟨g, cap, cur, rfl, h1, h2⟩
  · exact .inl h1
  · exact .inr ⟨g, cap, cur, rfl, hb g rfl, h2⟩
theorem oset {g c : Nat} (h : w.ownsRow base e K (.slice (some ⟨g, 0, none⟩) n c) n xs) (o : Nat) (u : Value) : (w.setCell ⟨g, o, none⟩ u).ownsRow base e K (.slice (some ⟨g, 0, none⟩) n c) n (xs.set o u) := by
  obtain ⟨hl, h2⟩ := h
  rcases h2 with ⟨h1, _⟩ | ⟨g', cap, cur, h1, hb, hg, h3, h4, h5, h6⟩
  · cases h1
  · cases h1
    refine ⟨by simpa using hl, .inr ⟨g, c, cur.setIfInBounds o u, rfl, hb, ?_, h3, h4, by simpa using h5, ?_⟩⟩
    · simp [World.setCell, Array.getElem?_modify, hg]
    · rw [← h6, Array.toList_setIfInBounds, List.take_set]
/-- The first k elements. -/
theorem ocut {a : Option Addr} {c k : Nat} (h : w.ownsRow base e K (.slice a n c) n xs) (hk : k ≤ n) : w.ownsRow base e K (.slice a k c) k (xs.take (k * K)) := by
  obtain ⟨hl, h2⟩ := h
  refine ⟨by rw [List.length_take, hl]; exact Nat.min_eq_left (Nat.mul_le_mul_right _ hk), ?_⟩
  rcases h2 with ⟨h1, h0⟩ | ⟨g', cap, cur, h1, hb, hg, h3, h4, h5, h6⟩
  · cases h1
    exact .inl ⟨by have : k = 0 := by omega
                   rw [this], by omega⟩
  · cases h1
    refine .inr ⟨g', c, cur, rfl, hb, hg, by omega, h4, h5, ?_⟩
    rw [← h6, List.take_take, Nat.min_eq_left (Nat.mul_le_mul_right _ hk)]
/-- Nothing in it; or a block. -/
theorem osplit (h : w.ownsRow base e K v n xs) (hn : 0 < n) : ∃ g c, v = .slice (some ⟨g, 0, none⟩) n c ∧ g < w.heap.size ∧ n ≤ c ∧ (∃ cur, w.heap[g]? = some (.cells cur e (0, 0))) ∧ ∀ j u, xs[j]? = some u → w.cell? ⟨g, j, none⟩ = some u := by
  have hc := fun g hg => h.cells (g := g) hg
  rcases h.2 with ⟨_, h1⟩ | ⟨g, cap, cur, rfl, h1, h2, h3, _⟩
  · omega
  · refine ⟨g, cap, rfl, (Array.getElem?_eq_some_iff.1 h2).1, h3, ⟨cur, h2⟩, fun j u hu => ?_⟩
    have := hc g rfl j u hu
    rwa [add_plain, Nat.zero_add] at this
theorem oshape (h : w.ownsRow base e K v n xs) : ∃ a c, v = .slice a n c ∧ n ≤ c ∧ c ≤ maxLen := by
  rcases h.2 with ⟨rfl, rfl⟩ | ⟨g, cap, cur, rfl, h1, h2, h3, h4, _⟩
  · exact ⟨none, 0, rfl, Nat.le_refl _, Nat.zero_le _⟩
  · exact ⟨_, cap, rfl, h3, h4⟩
theorem ofrz {g : Nat} {a : Nat} {c : Nat} (h : w.ownsRow base e K (.slice (some ⟨g, 0, none⟩) a c) n xs) (i : Nat) : w.frozen? ⟨g, i, none⟩ = false := by
  obtain ⟨_, cur, hc⟩ := oblk h g rfl
  simp [World.frozen?, hc]
end

/-- A value's block, if it has one, has the tag c. -/
def Tv (t : Nat → Nat) (v : Value) (c : Nat) : Prop := ∀ k, v.ownBlock = some k → t k = c
theorem Tv.none (t : Nat → Nat) (c : Nat) : Tv t (.slice none 0 0) c := fun _ h => by cases h
def upd (t : Nat → Nat) (g c : Nat) : Nat → Nat := fun k => if k = g then c else t k
def updV (t : Nat → Nat) (v : Value) (c : Nat) : Nat → Nat := match v.ownBlock with | some g => upd t g c | none => t
theorem upd_at (t : Nat → Nat) (g c : Nat) : upd t g c g = c := if_pos rfl
theorem upd_ne {t : Nat → Nat} {g c k : Nat} (h : k ≠ g) : upd t g c k = t k := if_neg h
theorem updV_self (t : Nat → Nat) (v : Value) (c : Nat) : Tv (updV t v c) v c := fun k hk => by simp [updV, hk, upd]

/-- A row that has its tag. -/
structure Row (w : World) (t : Nat → Nat) (base : Nat) (e : TypeId) (K : Nat) (v : Value) (n : Nat) (xs : List Value) (c : Nat) : Prop where
  own : w.ownsRow base e K v n xs
  tag : Tv t v c

/-- Only blocks of one tag turn. -/
structure Only (w w' : World) (t : Nat → Nat) (c : Nat) : Prop where
  os : w'.os = w.os
  tape : w'.tape = w.tape
  output : w'.output = w.output
  size : w.heap.size ≤ w'.heap.size
  stay : ∀ k, k < w.heap.size → t k ≠ c → w'.heap[k]? = w.heap[k]?

section
variable {w w' w'' : World} {t t' t'' : Nat → Nat} {base K n c d : Nat} {e : TypeId} {v : Value} {xs : List Value}
theorem Only.refl (w : World) (t : Nat → Nat) (c : Nat) : Only w w t c := ⟨rfl, rfl, rfl, Nat.le_refl _, fun _ _ _ => rfl⟩
theorem Only.trans (h : Only w w' t c) (k : Only w' w'' t c) : Only w w'' t c := ⟨k.os.trans h.os, k.tape.trans h.tape, k.output.trans h.output, Nat.le_trans h.size k.size, fun j hj hn => (k.stay j (Nat.lt_of_lt_of_le hj h.size) hn).trans (h.stay j hj hn)⟩
theorem Only.below (h : Below w.heap.size w w') : Only w w' t c := ⟨h.os, h.tape, h.output, h.size, fun k hk _ => h.block k hk⟩
theorem Only.grown {row : Option Nat} (h : w.grownBy w' row) (hr : ∀ k, row = some k → t k = c) : Only w w' t c := ⟨h.os, h.tape, h.output, h.size, fun k hk hn => h.block k hk fun e => hn (hr k e.symm)⟩
theorem Only.set {g i : Nat} (u : Value) (hg : t g = c) : Only w (w.setCell ⟨g, i, none⟩ u) t c := ⟨rfl, rfl, rfl, by rw [World.size_setCell]; exact Nat.le_refl _, fun k _ hn => Below.heap_setCell _ _ _ _ (fun e => hn (by rw [show k = g from e]; exact hg))⟩
theorem Row.lt (h : Row w t base e K v n xs c) : ∀ k, v.ownBlock = some k → k < w.heap.size ∧ t k = c := fun k hk => ⟨olt h.own k hk, h.tag k hk⟩
theorem Row.only (h : Row w t base e K v n xs d) (ho : Only w w' t c) (hd : d ≠ c) : Row w' t base e K v n xs d :=
  ⟨osame h.own fun k hk => ho.stay k (olt h.own k hk) (by rw [h.tag k hk]; exact hd), h.tag⟩
theorem Row.below (h : Row w t base e K v n xs d) (hb : Below w.heap.size w w') : Row w' t base e K v n xs d := ⟨osame h.own fun k hk => hb.block k (olt h.own k hk), h.tag⟩
/-- A block of the tag c, or a new one, is told anew. -/
theorem Row.upd (h : Row w t base e K v n xs d) {g : Nat} {c' : Nat} (hg : w.heap.size ≤ g ∨ t g = c) (hd : d ≠ c) : Row w (Mach.upd t g c') base e K v n xs d :=
  ⟨h.own, fun k hk => by
    have h1 := olt h.own k hk
    have h2 := h.tag k hk
    rw [upd_ne (by rintro rfl; rcases hg with h3 | h3 <;> omega)]; exact h2⟩
theorem Row.updV (h : Row w t base e K v n xs d) {u : Value} {c' : Nat} (hg : ∀ g, u.ownBlock = some g → w.heap.size ≤ g ∨ t g = c) (hd : d ≠ c) : Row w (Mach.updV t u c') base e K v n xs d := by
  unfold Mach.updV
  cases hu : u.ownBlock with
  | none => exact h
  | some g => exact h.upd (hg g hu) hd
theorem Row.nil (w : World) (t : Nat → Nat) (base : Nat) (e : TypeId) (K c : Nat) : Row w t base e K (.slice none 0 0) 0 [] c := ⟨World.ownsRow_nil _ _ _ _, Tv.none _ _⟩

/-- What a call leaves: blocks that aren't its own (tags 0), and what it reads (tags 1 and 2), stay; what is its own remains its own. -/
structure Fx (w w' : World) (t t' : Nat → Nat) : Prop where
  os : w'.os = w.os
  tape : w'.tape = w.tape
  output : w'.output = w.output
  size : w.heap.size ≤ w'.heap.size
  stay : ∀ k, k < w.heap.size → t k ≤ 2 → w'.heap[k]? = w.heap[k]?
  keep : ∀ k, k < w.heap.size → (t k ≤ 2 → t' k = t k) ∧ (2 < t k → 2 < t' k)
theorem Fx.refl (w : World) (t : Nat → Nat) : Fx w w t t := ⟨rfl, rfl, rfl, Nat.le_refl _, fun _ _ _ => rfl, fun _ _ => ⟨fun _ => rfl, fun h => h⟩⟩
theorem Fx.trans (h : Fx w w' t t') (k : Fx w' w'' t' t'') : Fx w w'' t t'' :=
  ⟨k.os.trans h.os, k.tape.trans h.tape, k.output.trans h.output, Nat.le_trans h.size k.size,
    fun j hj hn => (k.stay j (Nat.lt_of_lt_of_le hj h.size) (by rw [(h.keep j hj).1 hn]; exact hn)).trans (h.stay j hj hn),
    fun j hj => ⟨fun hn => ((k.keep j (Nat.lt_of_lt_of_le hj h.size)).1 (by rw [(h.keep j hj).1 hn]; exact hn)).trans ((h.keep j hj).1 hn), fun hn => (k.keep j (Nat.lt_of_lt_of_le hj h.size)).2 ((h.keep j hj).2 hn)⟩⟩
theorem Fx.only (h : Only w w' t c) (hc : 2 < c) : Fx w w' t t := ⟨h.os, h.tape, h.output, h.size, fun k hk hn => h.stay k hk (by omega), fun _ _ => ⟨fun _ => rfl, fun h => h⟩⟩
theorem Fx.below (h : Below w.heap.size w w') : Fx w w' t t := ⟨h.os, h.tape, h.output, h.size, fun k hk _ => h.block k hk, fun _ _ => ⟨fun _ => rfl, fun h => h⟩⟩
theorem Fx.upd (h : Fx w w' t t') {g c' : Nat} (hg : w'.heap.size ≤ g ∨ 2 < t' g) (hc : 2 < c') : Fx w w' t (Mach.upd t' g c') :=
  ⟨h.os, h.tape, h.output, h.size, h.stay, fun k hk => by
    have h1 := h.keep k hk
    by_cases hkg : k = g
    · subst hkg
      rw [upd_at]
      have h2 := h.size
      refine ⟨fun h3 => ?_, fun _ => hc⟩
      have := h1.1 h3
      rcases hg with h4 | h4 <;> omega
    · rw [upd_ne hkg]; exact h1⟩
theorem Fx.updV (h : Fx w w' t t') {u : Value} {c' : Nat} (hg : ∀ g, u.ownBlock = some g → w'.heap.size ≤ g ∨ 2 < t' g) (hc : 2 < c') : Fx w w' t (Mach.updV t' u c') := by
  unfold Mach.updV
  cases hu : u.ownBlock with
  | none => exact h
  | some g => exact h.upd (hg g hu) hc
theorem Fx.later (h : Fx w w' t t') (hb : Below w'.heap.size w' w'') : Fx w w'' t t' := h.trans (Fx.below hb)
theorem Fx.set (h : Fx w w' t t') {g i : Nat} (u : Value) (hg : 2 < t' g) : Fx w (w'.setCell ⟨g, i, none⟩ u) t t' := h.trans (Fx.only (Only.set u rfl) hg)
theorem Fx.drewN (h : Fx w w' t t') (n : Nat) : Fx w (w'.drewN n) t t' := h.later ⟨rfl, rfl, rfl, Nat.le_refl _, fun _ _ => rfl⟩
/-- As 'upd', the new block being there already. -/
theorem Fx.updN (h : Fx w w' t t') {g c' : Nat} (hg : w.heap.size ≤ g ∨ 2 < t' g) (hc : 2 < c') : Fx w w' t (Mach.upd t' g c') :=
  ⟨h.os, h.tape, h.output, h.size, h.stay, fun k hk => by
    have h1 := h.keep k hk
    by_cases hkg : k = g
    · subst hkg
      rw [upd_at]
      refine ⟨fun h3 => ?_, fun _ => hc⟩
      have := h1.1 h3
      rcases hg with h4 | h4 <;> omega
    · rw [upd_ne hkg]; exact h1⟩
end

/-- Append to a row of the call's own: the block is the old one, or a new one. -/
theorem run_append_f {P : Program} (w : World) (base : Nat) (t ty e : TypeId) (i : TypeInfo) (z : Value) (size bytes : Nat) (ht : P.underlying t = some (.slice e)) (hi : P.info? e = some i) (hz : i.zero = some z)
    (hsize : i.size = size) (hby : i.bytes = bytes) (hzs : z.cells.size = size) (hsz : 0 < size)
    (v : Value) (n : Nat) (xs : List Value) (hown : w.ownsRow base e size v n xs)
    (vx : Value) (m : Nat) (news : List Value) (hr : Rd w size vx m news) (h1 : ∀ u ∈ news, u.oneCell' = true)
    (h63 : n + m ≤ maxLen) (hbytes : (n + m) * bytes ≤ 140737488355328) (hbase : base ≤ w.heap.size) :
    ∃ v' w', (Builtin.append_ #[t, t] ty #[v, vx]).run P w = .ok v' w' ∧ w'.ownsRow base e size v' (n + m) (xs ++ news) ∧ w.grownBy w' v.ownBlock ∧ ∀ g, v'.ownBlock = some g → w.heap.size ≤ g ∨ v.ownBlock = some g := by
  obtain ⟨v', w', hrun, h2, h3⟩ := run_append_own_rd (P := P) w base t ty e i z size bytes ht hi hz hsize hby hzs hsz v n xs hown vx m news hr h1 h63 hbytes hbase
  refine ⟨v', w', hrun, h2, h3, fun g hg => ?_⟩
  rcases hown.2 with ⟨rfl, hn0⟩ | ⟨g0, cap, cur, rfl, hbg, hg0, hnc, hcm, hcs, htake⟩
  · have hown' : w.ownsRow w.heap.size e size (.slice none 0 0) n xs := ⟨hown.1, .inl ⟨rfl, hn0⟩⟩
    obtain ⟨v2, w2, hrun2, h4, _⟩ := run_append_own_rd (P := P) w w.heap.size t ty e i z size bytes ht hi hz hsize hby hzs hsz _ n xs hown' vx m news hr h1 h63 hbytes (Nat.le_refl _)
    rw [hrun] at hrun2
    cases hrun2
    exact .inl (oblk h4 g hg).1
  · rcases hr.2 with ⟨rfl, rfl⟩ | ⟨ad, c, rfl, _, _, hc⟩
    · have hr2 := run_append_owned_none (P := P) (w := w) base t ty e i size ht hi _ n xs hown
      rw [hr2] at hrun
      cases hrun
      exact .inr hg
    · by_cases hroom : n + m ≤ cap
      · subst hsize
        have hfit : n * i.size + news.length ≤ cur.size := by rw [hr.1, hcs, ← Nat.add_mul]; exact Nat.mul_le_mul_right _ hroom
        have hr2 := run_append_room (P := P) w t ty e i ht hi g0 n cap cur hg0 ad m c news hr.1 hc h1 hroom hfit
        rw [hr2] at hrun
        cases hrun
        exact .inr hg
      · subst hsize hby
        have holds : ∀ j u, xs[j]? = some u → w.cell? ((⟨g0, 0, none⟩ : Addr).add j) = some u := hown.cells (g := g0) rfl
        have hr2 := run_append_grow (P := P) w t ty e i z ht hi hz ⟨g0, 0, none⟩ n cap xs hown.1 holds ad m c news hr.1 hc (by omega) (by simp only [maxLen] at h63; omega) (growslice_fits (by omega) hbytes)
        rw [hr2] at hrun
        cases hrun
        simp [Value.ownBlock] at hg
        exact .inl (by omega)

theorem wpList_append_f {P : Program} (w : World) {ops : Array Oper} {rest : List Oper} {o : Oper} {a : Act} {Q : Exit → Act → World → Prop} (hgd : o.guard = none) (s x : Operand) (t : TypeId)
    (ho : o.op = .call { callee := .builtin .append, args := #[s, x], argTypes := #[t, t] })
    (base : Nat) (e : TypeId) (i : TypeInfo) (z : Value) (size bytes : Nat) (ht : P.underlying t = some (.slice e)) (hi : P.info? e = some i) (hz : i.zero = some z)
    (hsize : i.size = size) (hby : i.bytes = bytes) (hzs : z.cells.size = size) (hsz : 0 < size)
    (v : Value) (n : Nat) (xs : List Value) (hs : a.eval s = v) (hown : w.ownsRow base e size v n xs)
    (vx : Value) (m : Nat) (news : List Value) (hx : a.eval x = vx) (hr : Rd w size vx m news) (h1 : ∀ u ∈ news, u.oneCell' = true)
    (h63 : n + m ≤ maxLen) (hbytes : (n + m) * bytes ≤ 140737488355328) (hbase : base ≤ w.heap.size)
    (h : ∀ v' w', w'.ownsRow base e size v' (n + m) (xs ++ news) → w.grownBy w' v.ownBlock → (∀ g, v'.ownBlock = some g → w.heap.size ≤ g ∨ v.ownBlock = some g) → wpList P ops Q rest (a.put o.dst v') w') : wpList P ops Q (o :: rest) a w := by
  obtain ⟨v', w', hrun, h2, h3, h4⟩ := run_append_f (P := P) w base t o.type e i z size bytes ht hi hz hsize hby hzs hsz v n xs hown vx m news hr h1 h63 hbytes hbase
  refine wpList_plain hgd fun _ hK => ?_
  unfold Oper.wp execOp
  simp only [ho, resolve, invoke, builtin, Sem.run_bind, Sem.run_pure, Result.andThen_ok, List.map_toArray, List.map_cons, List.map_nil, hs, hx, hrun]
  exact hK _ _ (h v' w' h2 h3 h4)

theorem step_append_f {P : Program} {ops : Array Oper} {o : Oper} {a : Act} {w : World} {K : Act → World → Prop} {Q : Exit → Act → World → Prop} {E : Prop}
    (hg : o.guard = none) (s x : Operand) (t : TypeId) (hop : o.op = Op.call { callee := Callee.builtin Builtin.append, args := #[s, x], argTypes := #[t, t] })
    (base : Nat) (e : TypeId) (i : TypeInfo) (z : Value) (size bytes : Nat) (ht : P.underlying t = some (.slice e)) (hi : P.info? e = some i) (hz : i.zero = some z)
    (hsize : i.size = size) (hby : i.bytes = bytes) (hzs : z.cells.size = size) (hsz : 0 < size)
    (v : Value) (n : Nat) (xs : List Value) (hs : a.eval s = v) (hown : w.ownsRow base e size v n xs)
    (vx : Value) (m : Nat) (news : List Value) (hx : a.eval x = vx) (hr : Rd w size vx m news) (h1 : ∀ u ∈ news, u.oneCell' = true)
    (h63 : n + m ≤ maxLen) (hbytes : (n + m) * bytes ≤ 140737488355328) (hbase : base ≤ w.heap.size)
    (hK : ∀ v' w', w'.ownsRow base e size v' (n + m) (xs ++ news) → w.grownBy w' v.ownBlock → (∀ g, v'.ownBlock = some g → w.heap.size ≤ g ∨ v.ownBlock = some g) → K (a.put o.dst v') w') :
    if Region.wanted o (yielded ops a.tmps) = true then Oper.wp P o a w K Q else E := by
  have hw : Region.wanted o (yielded ops a.tmps) = true := by simp [Region.wanted, hg]
  rw [if_pos hw]
  obtain ⟨v', w', hrun, h2, h3, h4⟩ := run_append_f (P := P) w base t o.type e i z size bytes ht hi hz hsize hby hzs hsz v n xs hown vx m news hr h1 h63 hbytes hbase
  unfold Oper.wp
  simp [execOp, hop, resolve, invoke, builtin, hs, hx, hrun, Result.andThen]
  exact hK v' w' h2 h3 h4

end Go.Proofs.Yteeapfgjjankeaa.Mach
