/- Locs: the document's bytes of nothing. -/
import Derived.Test.YtnanlkoldloolaaDoorNb
import Derived.Lib.SlBytesConst
namespace Go.Proofs.YtnanlkoldloolaaDoor
open Go.RowKit

set_option maxRecDepth 100000 in
set_option maxHeartbeats 4000000 in
theorem encode_empty (w : World) :
   Calls Tryd.prog 25 #[.agg #[.slice none 0 0, .slice none 0 0, .slice none 0 0]] w fun e w' => (∃ v, e = .returned v ∧ ownY w' w.heap.size v [84, 83, 76, 49, 0, 0, 0]) ∧ Below w.heap.size w w' := by
  have kc := Lib.run_convert_bytes_const (P := Tryd.prog) (w.alloc (.cells #[.slice none 0 0, .slice none 0 0, .slice none 0 0] 64)) 24 5 #[.int .u8 84, .int .u8 83, .int .u8 76, .int .u8 49] 4 4 Tryd.underlying24 Tryd.underlying5
  rw [World.size_alloc] at kc
  obtain ⟨W, hW⟩ : ∃ W, W = (((w.alloc (.cells #[.slice none 0 0, .slice none 0 0, .slice none 0 0] 64)).alloc (.cells #[.int .u8 84, .int .u8 83, .int .u8 76, .int .u8 49] 5 (4, 5))).alloc (WO (.slice (some ⟨w.heap.size + 1, 0, none⟩) 4 4))) := ⟨_, rfl⟩
  have HW0 := Lib.hid hW
  have T0 : Hid (TW w.heap.size (w.heap.size + 1 + 1) w W (WO (.slice (some ⟨w.heap.size + 1, 0, none⟩) 4 4)) (.slice (some ⟨w.heap.size + 1, 0, none⟩) 4 4) [84, 83, 76, 49]) := by
    rw [hW]
    refine ⟨heap_new _ _ (by simp), ownG_later (ownY_const (w.alloc (.cells #[.slice none 0 0, .slice none 0 0, .slice none 0 0] 64)) w.heap.size [84, 83, 76, 49] (4, 5) (by simp) (by simp) (by simp)) ((Below.refl _ _).alloc (Nat.le_refl _) _), (((Below.refl _ _).alloc (Nat.le_refl _) _).alloc (by simp) _).alloc (by simp; omega) _, by simp; omega, fun j ob hj _ _ => heap_old _ _ (heap_old _ _ (heap_old _ _ hj))⟩
  have hd0 : W.heap[w.heap.size]? = some (.cells #[.slice none 0 0, .slice none 0 0, .slice none 0 0] 64) := by rw [hW]; exact heap_old _ _ (heap_old _ _ (heap_new _ _ rfl))
  have hsz : W.heap.size = w.heap.size + 1 + 1 + 1 := by rw [hW]; simp
  have C1 := Lib.hid (writer_lit _ _ W _ _ T0.out.at_ T0.out.own (by omega) (by omega) [0] (by simp) (by simp) (by simp))
  rw [hsz, hW] at C1
  clear hW
  go_enter Tryd.func25, Tryd.ntmps25
  go_wp2_with fail
  refine C1.out.mono ?_
  rintro e w1 ⟨rfl, pv1, ht1⟩
  rw [← HW0.out] at ht1
  have T1 := Lib.hid (T0.out.trans ht1)
  have e1 : w1.cell? ⟨w.heap.size, 0, none⟩ = some (.slice none 0 0) ∧ w1.cell? ⟨w.heap.size, 1, none⟩ = some (.slice none 0 0) ∧ w1.cell? ⟨w.heap.size, 2, none⟩ = some (.slice none 0 0) := by
    have h := ht1.oth _ _ hd0 (notY_cells (by decide)) (by omega)
    simp [World.cell?, h]
  obtain ⟨e10, e11, e12⟩ := e1
  have h1 := ht1.oth _ _ hd0 (notY_cells (by decide)) (by omega)
  have hs1 := T1.out.grew
  have C2 := Lib.hid (writer_lit _ _ w1 _ _ T1.out.at_ T1.out.own (by omega) (by omega) [0] (by simp) (by simp) (by simp [numsW, numW]))
  have hl1 := heap_lt h1
  clear C1 ht1 kc HW0
  go_wp2_with fail
  refine wp_loop_rounds 1 ?_
  rw [rounds_succ]
  go_wp2_with fail
  refine C2.out.mono ?_
  rintro e w2 ⟨rfl, pv2, ht2⟩
  have T2 := Lib.hid ht2
  have T2 := Lib.hid (T1.out.trans ht2)
  have h2 := ht2.oth _ _ h1 (notY_cells (by decide)) (by omega)
  have e2 : w2.cell? ⟨w.heap.size, 2, none⟩ = some (.slice none 0 0) := by simp [World.cell?, h2]
  have e21 : w2.cell? ⟨w.heap.size, 1, none⟩ = some (.slice none 0 0) := by simp [World.cell?, h2]
  have hs2 := T2.out.grew
  have hl2 := heap_lt h2
  have C3 := Lib.hid (writer_lit _ _ w2 _ _ T2.out.at_ T2.out.own (by omega) (by omega) [0] (by simp) (by simp) (by simp [numsW, numW]))
  clear C2 ht2 e10 e11 e12 h1
  go_wp2_with fail
  refine wp_loop_rounds 1 ?_
  rw [rounds_succ]
  go_wp2_with fail
  refine C3.out.mono ?_
  rintro e w3 ⟨rfl, pv3, ht3⟩
  have T3 := Lib.hid (T2.out.trans ht3)
  have h3 := ht3.oth _ _ h2 (notY_cells (by decide)) (by omega)
  have e3 : w3.cell? ⟨w.heap.size, 2, none⟩ = some (.slice none 0 0) := by simp [World.cell?, h3]
  have k3 := (wo_cells T3.out.at_).1
  clear C3 ht3 e2 e21
  go_wp2_with fail
  refine wp_loop_rounds 1 ?_
  rw [rounds_succ]
  go_wp2_with fail
  go_ret
  exact ⟨⟨_, rfl, by simpa [numsW, numW] using T3.out.own⟩, T3.out.bel⟩
end Go.Proofs.YtnanlkoldloolaaDoor
