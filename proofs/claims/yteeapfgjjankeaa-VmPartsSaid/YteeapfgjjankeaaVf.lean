/- Vm: a frame; a new machine. -/
import Derived.Test.YteeapfgjjankeaaVd
import Derived.Test.YteeapfgjjankeaaVe
namespace Go.Proofs.Yteeapfgjjankeaa
open Go.RowKit

set_option maxHeartbeats 4000000 in
set_option maxRecDepth 100000 in
theorem frame_ex (M eb ec : Nat) (w : World) (m1 : w.cell? ⟨M, 1, none⟩ = some (.slice (some ⟨eb, 0, none⟩) 1 ec)) (e0 : w.cell? ⟨eb, 0, none⟩ = some (.int .i64 0)) (e1 : w.cell? ⟨eb, 1, none⟩ = some (.int .i64 0)) (hM : M < w.heap.size) (he : eb < w.heap.size) :
    Calls Try.prog 28 #[.pointer (some ⟨M, 0, none⟩), .int .i64 0, .slice none 0 0, .int .u8 0] w fun e w' => e = .returned (.pointer (some ⟨w.heap.size, 0, none⟩)) ∧ ∃ sl, w'.heap[w.heap.size]? = some (.cells (fC 0 0 sl) 87 (0, 0)) ∧ Below w.heap.size w w' := by
  obtain ⟨im, mi0, mz0, mz1, mz2⟩ := info_partsV cinfoN
  obtain ⟨E, hE⟩ : ∃ E, E = madeCells (Value.int .i64 0).cells ((0 : Int).toNat * im.size) := ⟨_, rfl⟩
  have hmk : ∀ W, (Instr.makeSlice 27 (.int .i64 0) (.int .i64 0)).run Try.prog W = .ok (.slice (some ⟨W.heap.size, 0, none⟩) 0 0) (W.alloc (.cells E 2)) := fun W => by
    have h := Go.run_make (P := Try.prog) W 27 2 im _ Try.underlying27 mi0 mz0 .i64 .i64 0 0 (by omega) (by omega) (by omega) (by omega)
    rw [← hE] at h
    exact h
  clear hE
  go_enter Try.func28, Try.ntmps28
  go_wp2_with fail
  obtain ⟨w1, hw1⟩ : ∃ w1, w1 = w.alloc (.cells (fC 0 0 (.slice none 0 0)) 87) := ⟨_, rfl⟩
  have hw1' := hw1
  simp only [fC] at hw1'
  rw [← hw1']
  have hB : Below w.heap.size w w1 := by rw [hw1]; exact (Below.refl _ _).alloc (Nat.le_refl _) _
  have hf1 : w1.heap[w.heap.size]? = some (.cells (fC 0 0 (.slice none 0 0)) 87 (0, 0)) := by rw [hw1]; exact heap_alloc_new _ _
  have n1 : w1.cell? ⟨M, 1, none⟩ = some (.slice (some ⟨eb, 0, none⟩) 1 ec) := (hB.cell (p := ⟨M, 1, none⟩) hM).trans m1
  have n2 : w1.cell? ⟨eb, 0 + 0 * 2 + 1, none⟩ = some (.int .i64 0) := (hB.cell (p := ⟨eb, 1, none⟩) he).trans e1
  have hl1 : w.heap.size < w1.heap.size := (Array.getElem?_eq_some_iff.1 hf1).1
  have c18 : w1.cell? ⟨w.heap.size, 18, none⟩ = some (.slice none 0 0) := by simp [World.cell?, hf1, fC]
  have z18 : w1.frozen? ⟨w.heap.size, 18, none⟩ = false := by simp [World.frozen?, hf1]
  have HF := Lib.hid hf1
  have HB := Lib.hid hB
  clear hw1 hw1' hf1 hB e0 e1 m1
  refine (slots_any M eb 0 1 ec 0 0 w1 n1 (by omega) n2 (by omega) (by omega)).mono ?_
  rintro e w2 ⟨rfl, hw2⟩
  subst hw2
  go_wp2_with fail
  go_ret
  refine ⟨rfl, .slice (some ⟨w2.heap.size, 0, none⟩) 0 0, ?_, ?_⟩
  · exact ((turn_set HF.out (.slice (some ⟨w2.heap.size, 0, none⟩) 0 0) (i := 18)).later ((Below.refl _ _).alloc (Nat.le_refl _) (.cells E 2))).at_
  · exact (HB.out.setCell (Nat.le_refl _) _).alloc (by rw [World.size_setCell]; exact HB.out.size) _
end Go.Proofs.Yteeapfgjjankeaa
