/- Locs: Decode at the bytes of nothing. -/
import Derived.Test.YtnanlkoldloolaaDoorEk
namespace Go.Proofs.YtnanlkoldloolaaDoor
open Go.RowKit

abbrev nothL : List Int := [84, 83, 76, 49, 0, 0, 0]

theorem alloc_at (W : World) (o : Obj) (n : Nat) (h : n = W.heap.size) : (W.alloc o).heap[n]? = some o := by subst h; exact Array.getElem?_push_size

set_option maxHeartbeats 4000000 in
theorem decode_empty (pa : Option Addr) (pc : Nat) (w : World) (hv : RdB w (.slice pa 7 pc) nothL) (gt : TypeId) (gv : Value) (hg : Gives w gt gv) :
   Calls Tryd.prog 27 #[.slice pa 7 pc] w fun e w' => e = .returned (.tuple #[.agg #[.slice none 0 0, .slice none 0 0, .slice none 0 0], .int .i64 0]) ∧ Below w.heap.size w w' := by
  have hne : ∀ k, w.heap.size ≤ k → (Value.slice pa 7 pc).ownBlock ≠ some k := fun k hk h => by
    rcases hv.split with ⟨a, c, _, h2⟩ | ⟨b, off, c, h1, _, _, _, hb, _⟩
    · cases h2
    · rw [h1] at h
      simp [Value.ownBlock] at h
      omega
  have HNE := Lib.hid hne
  clear hne
  have HV := Lib.hid hv
  have HG := Lib.hid hg
  clear hv hg
  go_enter_defers Tryd.func27, Tryd.ntmps27
  go_wp2_with fail
  refine (magic_any _).mono ?_
  rintro e w1 ⟨rfl, rfl⟩
  have R1 : Hid (RdB (((w.alloc (.cells #[.slice none 0 0, .slice none 0 0, .slice none 0 0] 64)).alloc (.cells #[.int .i64 0] 30)).alloc (.cells #[.int .u8 84, .int .u8 83, .int .u8 76, .int .u8 49] 5)) (.slice (some ⟨w.heap.size + 1 + 1, 0, none⟩) 4 4) magicL) := by
    have := magic_rd ((w.alloc (.cells #[.slice none 0 0, .slice none 0 0, .slice none 0 0] 64)).alloc (.cells #[.int .i64 0] 30)) _ (Below.refl _ _)
    rw [World.size_alloc, World.size_alloc] at this
    exact this
  go_wp2_with fail
  refine (hasPrefix_any _ _ nothL magicL _ (((HV.out.alloc _).alloc _).alloc _) R1.out (by intro x hx; simp at hx; omega) (by intro x hx; simp [magicL] at hx; omega)).mono ?_
  rintro e w1 ⟨rfl, rfl⟩
  rw [show (decide (magicL.length ≤ nothL.length) && eqL (nothL.take magicL.length) magicL) = true from by decide]
  go_wp2_with fail
  refine (magic_any _).mono ?_
  rintro e w1 ⟨rfl, rfl⟩
  go_wp2_with fail
  refine (all_zero (w.heap.size + 1 + 1 + 1 + 1) w.heap.size (.slice pa 7 pc) nothL 4 5 6 7 _ (((((HV.out.alloc _).alloc _).alloc _).alloc _).alloc _) (by intro x hx; simp at hx; omega) ?_ (HNE.out _ (by omega)) gt gv ?_ (by omega) ?_ ?_ ?_ (by omega) (by decide) (by decide) (by decide)).mono ?_
  · exact alloc_at _ _ _ (by simp)
  · have hlt := World.block_lt_of_cell? w _ HG.out
    unfold Gives
    rw [World.cell?_alloc_lt _ _ _ (Nat.lt_of_lt_of_le hlt (by simp only [World.size_alloc]; omega)), World.cell?_alloc_lt _ _ _ (Nat.lt_of_lt_of_le hlt (by simp only [World.size_alloc]; omega)), World.cell?_alloc_lt _ _ _ (Nat.lt_of_lt_of_le hlt (by simp only [World.size_alloc]; omega)), World.cell?_alloc_lt _ _ _ (Nat.lt_of_lt_of_le hlt (by simp)), World.cell?_alloc_lt _ _ _ hlt]
    exact HG.out
  · simp [go_sem]
  · simp [go_sem]
  · simp [go_sem]
  rintro e w2 ⟨rfl, ht⟩
  obtain ⟨-, t1, -, -, -⟩ := to_cells ht.at_
  have d0 := turn_cell ht (b := w.heap.size) (i := 0) (v := .slice none 0 0) (by simp [go_sem]) (by omega)
  have d1 := turn_cell ht (b := w.heap.size) (i := 1) (v := .slice none 0 0) (by simp [go_sem]) (by omega)
  have d2 := turn_cell ht (b := w.heap.size) (i := 2) (v := .slice none 0 0) (by simp [go_sem]) (by omega)
  have e0 := turn_cell ht (b := w.heap.size + 1) (i := 0) (v := .int .i64 0) (by simp [go_sem]) (by omega)
  have hs2 : w.heap.size + 5 ≤ w2.heap.size := by have := ht.size; simp at this; omega
  have HB2 := Lib.hid (Turn.below (w0 := w) (base := w.heap.size) ((((((Below.refl _ _).alloc (Nat.le_refl _) _).alloc (by simp) _).alloc (by simp; omega) _).alloc (by simp; omega) _).alloc (by simp; omega) _) ht (by omega) (by simp; omega))
  have z0 : w2.frozen? ⟨w.heap.size, 0, none⟩ = false := by rw [World.frozen?_of_block (ht.block w.heap.size (by simp; omega) (by omega))]; simp [go_sem]
  have z1 : w2.frozen? ⟨w.heap.size, 1, none⟩ = false := by rw [World.frozen?_of_block (ht.block w.heap.size (by simp; omega) (by omega))]; simp [go_sem]
  have z2 : w2.frozen? ⟨w.heap.size, 2, none⟩ = false := by rw [World.frozen?_of_block (ht.block w.heap.size (by simp; omega) (by omega))]; simp [go_sem]
  have z3 : w2.frozen? ⟨w.heap.size + 1, 0, none⟩ = false := by rw [World.frozen?_of_block (ht.block (w.heap.size + 1) (by simp) (by omega))]; simp [go_sem]
  have T0 : w2.cell? ⟨w.heap.size + 1 + 1 + 1 + 1, 0, none⟩ = some (.slice pa 7 pc) := (to_cells ht.at_).1
  clear ht R1
  go_wp2_with fail
  refine (form_empty w2).mono ?_
  rintro e w3 ⟨rfl, hb3⟩
  obtain ⟨hc3, hf3⟩ := bcell hb3
  have y0 : w3.cell? ⟨w.heap.size, 0, none⟩ = some (.slice none 0 0) := (hc3 _ _ (by omega)).trans d0
  have y1 : w3.cell? ⟨w.heap.size, 1, none⟩ = some (.slice none 0 0) := (hc3 _ _ (by omega)).trans d1
  have y2 : w3.cell? ⟨w.heap.size, 2, none⟩ = some (.slice none 0 0) := (hc3 _ _ (by omega)).trans d2
  have y3 : w3.cell? ⟨w.heap.size + 1, 0, none⟩ = some (.int .i64 0) := (hc3 _ _ (by omega)).trans e0
  have y4 : w3.frozen? ⟨w.heap.size, 0, none⟩ = false := (hf3 _ _ (by omega)).trans z0
  have y5 : w3.frozen? ⟨w.heap.size + 1, 0, none⟩ = false := (hf3 _ _ (by omega)).trans z3
  have y6 : w3.frozen? ⟨w.heap.size, 1, none⟩ = false := (hf3 _ _ (by omega)).trans z1
  have y7 : w3.frozen? ⟨w.heap.size, 2, none⟩ = false := (hf3 _ _ (by omega)).trans z2
  have HB3 : Hid (Below w.heap.size w w3) := HB2.out.trans (hb3.mono (by omega))
  clear hc3 hf3 hb3 d0 d1 d2 e0 z0 z1 z2 z3 t1 T0
  go_wp2_with fail
  refine leaves_cons (f := 39) (args := #[.pointer (some ⟨w.heap.size, 0, none⟩), .pointer (some ⟨w.heap.size + 1, 0, none⟩)]) (by simp) (by simp [go_sem]) ?_
  refine (caught_idle _ _ _).mono ?_
  rintro e u' w'' ⟨rfl, rfl, rfl⟩
  simp [Leaves, settle, results, Tryd.results27, go_sem, y0, y1, y2, y3]
  exact (((HB3.out.setCell (Nat.le_refl _) _).setCell (Nat.le_refl _) _).setCell (Nat.le_refl _) _).setCell (by simp) _
end Go.Proofs.YtnanlkoldloolaaDoor
