/- Locs: reading: lists of nothing. -/
import Derived.Test.YtnanlkoldloolaaDoorEf
namespace Go.Proofs.YtnanlkoldloolaaDoor
open Go.RowKit

theorem turn_setNew {w w1 : World} {tb nb i : Nat} {o : Obj} (h : Turn w w1 tb o) (hn : w.heap.size ≤ nb) (hne : nb ≠ tb) (v : Value) : Turn w (w1.setCell ⟨nb, i, none⟩ v) tb o :=
  ⟨(Below.heap_setCell _ _ _ _ (Ne.symm hne)).trans h.at_, h.os, h.tape, h.output, by rw [World.size_setCell]; exact h.size, fun j hj hne2 => (Below.heap_setCell _ _ _ _ (by show j ≠ nb; omega)).trans (h.block j hj hne2)⟩

set_option maxHeartbeats 4000000 in
theorem list_zero_stops (tb : Nat) (pv : Value) (l : List Int) (at' a' : Nat) (lb lo : Nat) (fv : Value) (w : World) (hv : RdB w pv l) (hB : isB l) (ho : w.heap[tb]? = some (TO pv at' true)) (hne : pv.ownBlock ≠ some tb) (gt : TypeId) (gv : Value) (hg : Gives w gt gv) (htb : tb ≠ 0)
   (hc : w.cell? ⟨lb, lo, none⟩ = some (.slice none 0 0)) (h0 : plainR l at' = some (0, a')) :
   Calls Tryd.prog 51 #[.pointer (some ⟨tb, 0, none⟩), .pointer (some ⟨lb, lo, none⟩), fv] w fun e w' => e = .returned (.tuple #[]) ∧ Turn w w' tb (TO pv a' true) := by
  have htl : tb < w.heap.size := (Array.getElem?_eq_some_iff.1 ho).1
  have hP := plain_read tb pv l at' w.heap.size 0 0 (w.alloc (.cells #[.int .i64 0] 3)) (hv.alloc _) hB ((((Below.refl w.heap.size w).alloc (Nat.le_refl _) _).block tb htl).trans ho) hne gt gv (by unfold Gives; rw [World.cell?_alloc_lt _ _ _ (World.block_lt_of_cell? w _ hg)]; exact hg) htb (by simp) (by simp) (by omega)
  have HP := Lib.hid hP
  have H0 := Lib.hid h0
  clear hP hv ho hne h0
  go_enter Tryd.func51, Tryd.ntmps51
  go_wp2_with fail
  refine HP.out.mono ?_
  rintro e w1 (⟨n, a2, w2, hr, rfl, ht, rfl⟩ | ⟨hr, _⟩)
  · rw [H0.out] at hr
    simp only [Option.some.injEq, Prod.mk.injEq] at hr
    obtain ⟨rfl, rfl⟩ := hr
    have HT : Hid (Turn w (w2.setCell ⟨w.heap.size, 0, none⟩ (.int .i64 0)) tb (TO pv a' true)) := turn_setNew (Turn.before ((Below.refl _ _).alloc (Nat.le_refl _) _) ht) (Nat.le_refl _) (by omega) _
    have hk : (w2.setCell ⟨w.heap.size, 0, none⟩ (.int .i64 0)).cell? ⟨w.heap.size, 0, none⟩ = some (.int .i64 0) := by
      have : w2.heap[w.heap.size]? = (w.alloc (.cells #[.int .i64 0] 3)).heap[w.heap.size]? := ht.block _ (by simp) (by omega)
      have this := this.trans (Array.getElem?_push_size : (w.alloc (.cells #[.int .i64 0] 3)).heap[w.heap.size]? = some (.cells #[.int .i64 0] 3))
      simp [World.cell?, World.setCell, Array.getElem?_modify, this]
    obtain ⟨w3, hw3⟩ : ∃ w3, w2.setCell ⟨w.heap.size, 0, none⟩ (.int .i64 0) = w3 := ⟨_, rfl⟩
    rw [hw3] at HT hk ⊢
    clear ht hw3 HP
    go_wp2_with fail
    refine wp_loop_rounds 1 ?_
    rw [rounds_succ]
    go_wp2_with fail
    go_end0
    exact ⟨rfl, HT.out⟩
  · rw [H0.out] at hr; cases hr

set_option maxHeartbeats 4000000 in
theorem list_zero_marks (tb : Nat) (pv : Value) (l : List Int) (at' a' : Nat) (lb lo : Nat) (fv : Value) (w : World) (hv : RdB w pv l) (hB : isB l) (ho : w.heap[tb]? = some (TO pv at' true)) (hne : pv.ownBlock ≠ some tb) (gt : TypeId) (gv : Value) (hg : Gives w gt gv) (htb : tb ≠ 0)
   (hc : w.cell? ⟨lb, lo, none⟩ = some (.slice none 0 0)) (h0 : plainR l at' = some (0, a')) :
   Calls Tryd.prog 56 #[.pointer (some ⟨tb, 0, none⟩), .pointer (some ⟨lb, lo, none⟩), fv] w fun e w' => e = .returned (.tuple #[]) ∧ Turn w w' tb (TO pv a' true) := by
  have htl : tb < w.heap.size := (Array.getElem?_eq_some_iff.1 ho).1
  have hP := plain_read tb pv l at' w.heap.size 0 0 (w.alloc (.cells #[.int .i64 0] 3)) (hv.alloc _) hB ((((Below.refl w.heap.size w).alloc (Nat.le_refl _) _).block tb htl).trans ho) hne gt gv (by unfold Gives; rw [World.cell?_alloc_lt _ _ _ (World.block_lt_of_cell? w _ hg)]; exact hg) htb (by simp) (by simp) (by omega)
  have HP := Lib.hid hP
  have H0 := Lib.hid h0
  clear hP hv ho hne h0
  go_enter Tryd.func56, Tryd.ntmps56
  go_wp2_with fail
  refine HP.out.mono ?_
  rintro e w1 (⟨n, a2, w2, hr, rfl, ht, rfl⟩ | ⟨hr, _⟩)
  · rw [H0.out] at hr
    simp only [Option.some.injEq, Prod.mk.injEq] at hr
    obtain ⟨rfl, rfl⟩ := hr
    have HT : Hid (Turn w (w2.setCell ⟨w.heap.size, 0, none⟩ (.int .i64 0)) tb (TO pv a' true)) := turn_setNew (Turn.before ((Below.refl _ _).alloc (Nat.le_refl _) _) ht) (Nat.le_refl _) (by omega) _
    have hk : (w2.setCell ⟨w.heap.size, 0, none⟩ (.int .i64 0)).cell? ⟨w.heap.size, 0, none⟩ = some (.int .i64 0) := by
      have : w2.heap[w.heap.size]? = (w.alloc (.cells #[.int .i64 0] 3)).heap[w.heap.size]? := ht.block _ (by simp) (by omega)
      have this := this.trans (Array.getElem?_push_size : (w.alloc (.cells #[.int .i64 0] 3)).heap[w.heap.size]? = some (.cells #[.int .i64 0] 3))
      simp [World.cell?, World.setCell, Array.getElem?_modify, this]
    obtain ⟨w3, hw3⟩ : ∃ w3, w2.setCell ⟨w.heap.size, 0, none⟩ (.int .i64 0) = w3 := ⟨_, rfl⟩
    rw [hw3] at HT hk ⊢
    clear ht hw3 HP
    go_wp2_with fail
    refine wp_loop_rounds 1 ?_
    rw [rounds_succ]
    go_wp2_with fail
    go_end0
    exact ⟨rfl, HT.out⟩
  · rw [H0.out] at hr; cases hr

set_option maxHeartbeats 4000000 in
theorem list_zero_sites (tb : Nat) (pv : Value) (l : List Int) (at' a' : Nat) (lb lo : Nat) (fv : Value) (w : World) (hv : RdB w pv l) (hB : isB l) (ho : w.heap[tb]? = some (TO pv at' true)) (hne : pv.ownBlock ≠ some tb) (gt : TypeId) (gv : Value) (hg : Gives w gt gv) (htb : tb ≠ 0)
   (hc : w.cell? ⟨lb, lo, none⟩ = some (.slice none 0 0)) (h0 : plainR l at' = some (0, a')) :
   Calls Tryd.prog 60 #[.pointer (some ⟨tb, 0, none⟩), .pointer (some ⟨lb, lo, none⟩), fv] w fun e w' => e = .returned (.tuple #[]) ∧ Turn w w' tb (TO pv a' true) := by
  have htl : tb < w.heap.size := (Array.getElem?_eq_some_iff.1 ho).1
  have hP := plain_read tb pv l at' w.heap.size 0 0 (w.alloc (.cells #[.int .i64 0] 3)) (hv.alloc _) hB ((((Below.refl w.heap.size w).alloc (Nat.le_refl _) _).block tb htl).trans ho) hne gt gv (by unfold Gives; rw [World.cell?_alloc_lt _ _ _ (World.block_lt_of_cell? w _ hg)]; exact hg) htb (by simp) (by simp) (by omega)
  have HP := Lib.hid hP
  have H0 := Lib.hid h0
  clear hP hv ho hne h0
  go_enter Tryd.func60, Tryd.ntmps60
  go_wp2_with fail
  refine HP.out.mono ?_
  rintro e w1 (⟨n, a2, w2, hr, rfl, ht, rfl⟩ | ⟨hr, _⟩)
  · rw [H0.out] at hr
    simp only [Option.some.injEq, Prod.mk.injEq] at hr
    obtain ⟨rfl, rfl⟩ := hr
    have HT : Hid (Turn w (w2.setCell ⟨w.heap.size, 0, none⟩ (.int .i64 0)) tb (TO pv a' true)) := turn_setNew (Turn.before ((Below.refl _ _).alloc (Nat.le_refl _) _) ht) (Nat.le_refl _) (by omega) _
    have hk : (w2.setCell ⟨w.heap.size, 0, none⟩ (.int .i64 0)).cell? ⟨w.heap.size, 0, none⟩ = some (.int .i64 0) := by
      have : w2.heap[w.heap.size]? = (w.alloc (.cells #[.int .i64 0] 3)).heap[w.heap.size]? := ht.block _ (by simp) (by omega)
      have this := this.trans (Array.getElem?_push_size : (w.alloc (.cells #[.int .i64 0] 3)).heap[w.heap.size]? = some (.cells #[.int .i64 0] 3))
      simp [World.cell?, World.setCell, Array.getElem?_modify, this]
    obtain ⟨w3, hw3⟩ : ∃ w3, w2.setCell ⟨w.heap.size, 0, none⟩ (.int .i64 0) = w3 := ⟨_, rfl⟩
    rw [hw3] at HT hk ⊢
    clear ht hw3 HP
    go_wp2_with fail
    refine wp_loop_rounds 1 ?_
    rw [rounds_succ]
    go_wp2_with fail
    go_end0
    exact ⟨rfl, HT.out⟩
  · rw [H0.out] at hr; cases hr

end Go.Proofs.YtnanlkoldloolaaDoor
