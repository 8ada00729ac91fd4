/- Memory told by tags: rows that grow; new rows; blocks told anew. -/
import Derived.Test.YteeapfgjjankeaaYe
import Derived.Test.YteeapfgjjankeaaProg
import Derived.KernelRfl
import Derived.Laws.MakeOwn
import Derived.Laws.OwnMore
namespace Go.Proofs.Yteeapfgjjankeaa.Mach
open Go.RowKit

theorem info_i64' : (Try.prog.info? 2).map (fun i => (i.zero, i.size, i.bytes)) = some (some (.int .i64 0), 1, 8) := by kernel_rfl
theorem parts' {i : Option TypeInfo} {z : Value} {s b : Nat} (h : i.map (fun i => (i.zero, i.size, i.bytes)) = some (some z, s, b)) : ∃ x, i = some x ∧ x.zero = some z ∧ x.size = s ∧ x.bytes = b := by
  cases i with
  | none => cases h
  | some i =>
    simp only [Option.map_some, Option.some.injEq, Prod.mk.injEq] at h
    exact ⟨i, rfl, h.1, h.2.1, h.2.2⟩
theorem info_i64 : ∃ x, Try.prog.info? 2 = some x ∧ x.zero = some (.int .i64 0) ∧ x.size = 1 ∧ x.bytes = 8 := parts' info_i64'
theorem lit1_rd (w : World) (x : Value) (T : TypeId) : Rd (w.alloc (.cells #[x] T)) 1 (.slice (some ⟨w.heap.size, 0, none⟩) 1 1) 1 [x] := by
  refine Rd.mk rfl (Nat.le_refl _) (by unfold maxLen; omega) fun j hj => ?_
  have : j = 0 := by simp at hj; omega
  subst this
  have h2 := heap_alloc_new w (.cells #[x] T)
  simp only [World.cell?, Nat.zero_add, h2]
  rfl
/-- Blocks of the tag c turn (or are new); all else stays. -/
structure Trn (w w' : World) (t t' : Nat → Nat) (c base : Nat) : Prop where
  rows : ∀ {b : Nat} {e : TypeId} {K : Nat} {v : Value} {n : Nat} {xs : List Value} {d : Nat}, Row w t b e K v n xs d → d ≠ c → Row w' t' b e K v n xs d
  blks : ∀ k, k < w.heap.size → t k ≠ c → w'.heap[k]? = w.heap[k]? ∧ t' k = t k
  fx : Fx w w' t t'
  lt : (∀ k, t k ≠ 0 → k < w.heap.size) → ∀ k, t' k ≠ 0 → k < w'.heap.size
  ge : (∀ k, 2 < t k → base ≤ k ∧ base ≤ w.heap.size) → ∀ k, 2 < t' k → base ≤ k ∧ base ≤ w'.heap.size
section
variable {w w' w'' : World} {t t' t'' : Nat → Nat} {c base : Nat}
theorem Trn.refl (w : World) (t : Nat → Nat) (c base : Nat) : Trn w w t t c base := ⟨fun h _ => h, fun _ _ _ => ⟨rfl, rfl⟩, Fx.refl w t, fun h => h, fun h => h⟩
theorem Trn.only (h : Only w w' t c) (hc : 2 < c) : Trn w w' t t c base :=
  ⟨fun r hd => r.only h hd, fun k hk hn => ⟨h.stay k hk hn, rfl⟩, Fx.only h hc, fun hl k hk => Nat.lt_of_lt_of_le (hl k hk) h.size, fun hg k hk => ⟨(hg k hk).1, Nat.le_trans (hg k hk).2 h.size⟩⟩
theorem Trn.trans (h : Trn w w' t t' c base) (k : Trn w' w'' t' t'' c base) : Trn w w'' t t'' c base :=
  ⟨fun r hd => k.rows (h.rows r hd) hd, fun j hj hn => by
    obtain ⟨h1, h2⟩ := h.blks j hj hn
    obtain ⟨h3, h4⟩ := k.blks j (Nat.lt_of_lt_of_le hj h.fx.size) (by rw [h2]; exact hn)
    exact ⟨h3.trans h1, h4.trans h2⟩, h.fx.trans k.fx, fun hl => k.lt (h.lt hl), fun hg => k.ge (h.ge hg)⟩
theorem Trn.below (h : Below w.heap.size w w') : Trn w w' t t c base :=
  ⟨fun r _ => r.below h, fun k hk _ => ⟨h.block k hk, rfl⟩, Fx.below h, fun hl k hk => Nat.lt_of_lt_of_le (hl k hk) h.size, fun hg k hk => ⟨(hg k hk).1, Nat.le_trans (hg k hk).2 h.size⟩⟩
theorem Trn.drewN (w : World) (t : Nat → Nat) (c base n : Nat) : Trn w (w.drewN n) t t c base := Trn.below ⟨rfl, rfl, rfl, Nat.le_refl _, fun _ _ => rfl⟩
/-- A row of the tag c that has grown: its block is the old one, or a new one. -/
theorem Trn.grown {u v' : Value} {e : TypeId} {K n : Nat} {xs : List Value} (hg : w.grownBy w' u.ownBlock) (hu : Tv t u c) (hf : ∀ g, v'.ownBlock = some g → w.heap.size ≤ g ∨ u.ownBlock = some g) (ho : w'.ownsRow base e K v' n xs) (hc : 2 < c) (hb : base ≤ w.heap.size) : Trn w w' t (updV t v' c) c base := by
  have hO : Only w w' t c := Only.grown hg hu
  have hf' : ∀ g, v'.ownBlock = some g → w.heap.size ≤ g ∨ t g = c := fun g h => (hf g h).imp id fun h => hu g h
  have hk : ∀ k, k < w.heap.size → t k ≠ c → updV t v' c k = t k := fun k h1 h2 => by
    unfold updV
    cases hv : v'.ownBlock with
    | none => rfl
    | some g => exact upd_ne (by rintro rfl; rcases hf' k hv with h | h <;> omega)
  have hall : ∀ k, updV t v' c k ≠ t k → v'.ownBlock = some k ∧ updV t v' c k = c := fun k h => by
    unfold updV at h ⊢
    cases hv : v'.ownBlock with
    | none => rw [hv] at h; exact absurd rfl h
    | some g =>
      rw [hv] at h
      simp only [upd] at h ⊢
      by_cases e : k = g
      · rw [if_pos e, e]; exact ⟨rfl, rfl⟩
      · rw [if_neg e] at h; exact absurd rfl h
  refine ⟨fun r hd => ?_, fun k h1 h2 => ⟨hO.stay k h1 h2, hk k h1 h2⟩, ?_, fun hl k hk' => ?_, fun hg' k hk' => ?_⟩
  · have h1 := r.updV (c := c) (c' := c) hf' hd
    exact ⟨osame h1.own fun k hk' => hO.stay k (olt h1.own k hk') (by have := r.tag k hk'; omega), h1.tag⟩
  · refine ⟨hO.os, hO.tape, hO.output, hO.size, fun k h1 h2 => hO.stay k h1 (by omega), fun k h1 => ?_⟩
    by_cases e : updV t v' c k = t k
    · rw [e]; exact ⟨fun _ => rfl, fun h => h⟩
    · obtain ⟨h2, h3⟩ := hall k e
      refine ⟨fun h4 => ?_, fun _ => by omega⟩
      rcases hf' k h2 with h5 | h5 <;> omega
  · by_cases e : updV t v' c k = t k
    · rw [e] at hk'; exact Nat.lt_of_lt_of_le (hl k hk') hO.size
    · exact olt ho k (hall k e).1
  · by_cases e : updV t v' c k = t k
    · rw [e] at hk'; exact ⟨(hg' k hk').1, Nat.le_trans (hg' k hk').2 hO.size⟩
    · exact ⟨(oblk ho k (hall k e).1).1, Nat.le_trans hb hO.size⟩
/-- One value laid by, and appended. -/
theorem Trn.app {u v' : Value} {e : TypeId} {K n : Nat} {xs : List Value} (o : Obj) (hg : (w.alloc o).grownBy w' u.ownBlock) (hu : Tv t u c) (hf : ∀ g, v'.ownBlock = some g → (w.alloc o).heap.size ≤ g ∨ u.ownBlock = some g) (ho : w'.ownsRow base e K v' n xs) (hc : 2 < c) (hb : base ≤ w.heap.size) : Trn w w' t (updV t v' c) c base :=
  (Trn.below ((Below.refl _ _).alloc (Nat.le_refl _) o)).trans (Trn.grown hg hu hf ho hc (Nat.le_trans hb (by simp)))
theorem Trn.appD {u v' : Value} {e : TypeId} {K n : Nat} {xs : List Value} (o : Obj) (hg : (w.alloc o).drew.grownBy w' u.ownBlock) (hu : Tv t u c) (hf : ∀ g, v'.ownBlock = some g → (w.alloc o).drew.heap.size ≤ g ∨ u.ownBlock = some g) (ho : w'.ownsRow base e K v' n xs) (hc : 2 < c) (hb : base ≤ w.heap.size) : Trn w w' t (updV t v' c) c base :=
  (Trn.below (((Below.refl _ _).alloc (Nat.le_refl _) o).drew)).trans (Trn.grown hg hu hf ho hc (Nat.le_trans hb (by show _ ≤ (w.alloc o).heap.size; simp)))
theorem Trn.appN {u v' : Value} {e : TypeId} {K n : Nat} {xs : List Value} (q : Nat) (o : Obj) (hg : ((w.drewN q).alloc o).grownBy w' u.ownBlock) (hu : Tv t u c) (hf : ∀ g, v'.ownBlock = some g → ((w.drewN q).alloc o).heap.size ≤ g ∨ u.ownBlock = some g) (ho : w'.ownsRow base e K v' n xs) (hc : 2 < c) (hb : base ≤ w.heap.size) : Trn w w' t (updV t v' c) c base :=
  (Trn.drewN w t c base q).trans (Trn.app (w := w.drewN q) o hg hu hf ho hc hb)
end
section
variable {w w1 : World} {t t1 : Nat → Nat} {base : Nat}
theorem Row.claimT {e : TypeId} {K n d : Nat} {v : Value} {xs : List Value} (r : Row w t base e K v n xs d) (hb : Below w.heap.size w w1) (h1 : ∀ k, k < w.heap.size → t1 k = t k) : Row w1 t1 base e K v n xs d :=
  ⟨(r.below hb).own, fun k hk => by rw [h1 k (r.lt k hk).1]; exact r.tag k hk⟩
/-- A row's block is told to be of another tag. -/
theorem Trn.retag {u : Value} {c c' : Nat} (hu : Tv t u c) (hl : ∀ g, u.ownBlock = some g → g < w.heap.size) (hc : 2 < c) (hc' : 2 < c') (_hb : (∀ k, 2 < t k → base ≤ k ∧ base ≤ w.heap.size)) : Trn w w t (updV t u c') c base := by
  cases hv : u.ownBlock with
  | none =>
    have e0 : updV t u c' = t := by simp [updV, hv]
    rw [e0]; exact Trn.refl w t c base
  | some g =>
    have hg : t g = c := hu g hv
    have e0 : updV t u c' = upd t g c' := by simp [updV, hv]
    rw [e0]
    refine ⟨fun r hd => r.upd (.inr hg) hd, fun k _ h2 => ⟨rfl, upd_ne (by rintro rfl; exact h2 hg)⟩, (Fx.refl w t).updN (.inr (by omega)) hc', fun h k hk => ?_, fun h k hk => ?_⟩
    · by_cases e : k = g
      · rw [e]; exact hl g hv
      · rw [upd_ne e] at hk; exact h k hk
    · by_cases e : k = g
      · rw [e]; exact h g (by omega)
      · rw [upd_ne e] at hk; exact h k hk
end
theorem made_toList (n : Nat) : (madeCells #[Value.int .i64 0] n).toList = intsV (List.replicate n 0) := by
  refine List.ext_getElem? fun i => ?_
  simp only [madeCells, intsV, Array.toList_map, Array.toList_range, List.getElem?_map, List.map_replicate]
  by_cases h : i < n
  · simp [h, Nat.mod_one]
  · simp [h]
theorem made_row {base : Nat} (w : World) (n : Nat) (hb : base ≤ w.heap.size) (hn : n ≤ maxLen) : (w.alloc (.cells (madeCells #[.int .i64 0] n) 2)).ownsRow base 2 1 (.slice (some ⟨w.heap.size, 0, none⟩) n n) n (intsV (List.replicate n 0)) := by
  have := World.ownsRow_lit (base := base) (e := 2) (size := 1) w (madeCells #[.int .i64 0] n) n hb hn (by rw [size_madeCells]; omega)
  rwa [made_toList] at this
/-- A row of zeros that lies in a block of its own. -/
theorem row_of_made {base g : Nat} {w : World} {n : Nat} (h : w.heap[g]? = some (.cells (madeCells #[.int .i64 0] n) 2 (0, 0))) (hb : base ≤ g) (hn : n ≤ maxLen) : w.ownsRow base 2 1 (.slice (some ⟨g, 0, none⟩) n n) n (intsV (List.replicate n 0)) :=
  ⟨by simp [intsV], .inr ⟨g, n, _, rfl, hb, h, Nat.le_refl _, hn, by rw [size_madeCells]; omega, by rw [made_toList]; exact List.take_of_length_le (by simp [intsV])⟩⟩
theorem lit_rd (w : World) (cs : Array Value) (K : Nat) (T : TypeId) (hc : cs.size = K) : Rd (w.alloc (.cells cs T)) K (.slice (some ⟨w.heap.size, 0, none⟩) 1 1) 1 cs.toList :=
  Rd.of_own (base := 0) (e := T) (World.ownsRow_lit (base := 0) (e := T) (size := K) w cs 1 (Nat.zero_le _) (by unfold maxLen; omega) (by omega))
theorem two_alloc (w : World) (c1 c2 : Array Value) (T1 T2 : TypeId) : ((w.alloc (.cells c1 T1)).alloc (.cells c2 T2)).heap[w.heap.size]? = some (.cells c1 T1 (0, 0)) ∧ ((w.alloc (.cells c1 T1)).alloc (.cells c2 T2)).heap[w.heap.size + 1]? = some (.cells c2 T2 (0, 0)) ∧ Below w.heap.size w ((w.alloc (.cells c1 T1)).alloc (.cells c2 T2)) := by
  refine ⟨?_, ?_, ((Below.refl _ _).alloc (Nat.le_refl _) _).alloc (by simp) _⟩
  · rw [Below.heap_alloc _ _ _ (by simp)]; exact heap_alloc_new _ _
  · have := heap_alloc_new (w.alloc (.cells c1 T1)) (.cells c2 T2)
    simpa using this
end Go.Proofs.Yteeapfgjjankeaa.Mach
