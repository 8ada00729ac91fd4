/- ReplayNil, the walk. -/
import Derived.Test.YtgjmdcbdkdmceaaQz34
namespace Go.Proofs.Ytgjmdcbdkdmceaa.Mach
open Go.RowKit

set_option maxRecDepth 100000 in
set_option maxHeartbeats 4000000 in
theorem replayNil_walk (k : Int) (w : World) : Calls Try.prog 4 #[.int .i64 k] w fun e w' => e = .returned (.bool true) ∧ Below w.heap.size w w' := by
  go_enter Try.func4, Try.ntmps4
  go_wp2_with fail
  refine (pstatus_nil w).mono ?_
  rintro e w1 ⟨rfl, hb1⟩
  have HB1 := Lib.hid hb1
  clear hb1
  go_wp2_with fail
  obtain ⟨y0, y1, y2, y3, y4, y5, y6, yl⟩ := st_cells (heap_alloc_new w1 (.cells #[.int .u8 0, .int .i64 0, .slice none 0 0, .int .i64 0, .int .i64 0, .int .i64 0, .int .i64 0] 43 (0, 0)))
  obtain ⟨w2, hw2⟩ : ∃ w2, w2 = w1.alloc (.cells #[.int .u8 0, .int .i64 0, .slice none 0 0, .int .i64 0, .int .i64 0, .int .i64 0, .int .i64 0] 43) := ⟨_, rfl⟩
  rw [← hw2] at y0 y1 y2 y3 y4 y5 y6 yl ⊢
  have HB2 : Hid (Below w.heap.size w w2) := by rw [hw2]; exact HB1.out.alloc HB1.out.size _
  clear hw2
  refine (awake26_any w2).mono ?_
  rintro e w3 ⟨rfl, hb3⟩
  have z0 := (hb3.cell (p := ⟨w1.heap.size, 0, none⟩) yl).trans y0
  have z2 := (hb3.cell (p := ⟨w1.heap.size, 2, none⟩) yl).trans y2
  have z4 := (hb3.cell (p := ⟨w1.heap.size, 4, none⟩) yl).trans y4
  have zl := Nat.lt_of_lt_of_le yl hb3.size
  have HB3 : Hid (Below w.heap.size w w3) := HB2.out.trans (hb3.mono HB2.out.size)
  clear hb3 y0 y1 y2 y3 y4 y5 y6 yl HB2 HB1
  go_wp2_with fail
  refine (pgo_nil k w3).mono ?_
  rintro e w4 ⟨rfl, rfl⟩
  go_wp2_with fail
  refine (pat_nil w4).mono ?_
  rintro e w5 ⟨rfl, hb5⟩
  have x0 := (hb5.cell (p := ⟨w1.heap.size, 0, none⟩) zl).trans z0
  have x2 := (hb5.cell (p := ⟨w1.heap.size, 2, none⟩) zl).trans z2
  have x4 := (hb5.cell (p := ⟨w1.heap.size, 4, none⟩) zl).trans z4
  have HB5 : Hid (Below w.heap.size w w5) := HB3.out.trans (hb5.mono HB3.out.size)
  clear hb5 z0 z2 z4 zl HB3
  go_wp2_with fail
  refine (pover_nil w5).mono ?_
  rintro e w6 ⟨rfl, rfl⟩
  go_wp2_with fail
  refine (pwork_nil w6).mono ?_
  rintro e w7 ⟨rfl, rfl⟩
  go_wp2_with fail
  refine (pkept_nil w7).mono ?_
  rintro e w8 ⟨rfl, rfl⟩
  go_wp2_with fail
  refine (pdrop_nil k w8).mono ?_
  rintro e w9 ⟨rfl, rfl⟩
  go_wp2_with fail
  refine (pcalls_nil w9).mono ?_
  rintro e w10 ⟨rfl, rfl⟩
  go_wp2_with fail
  refine (pheap_nil w10).mono ?_
  rintro e w11 ⟨rfl, rfl⟩
  go_wp2_with fail
  refine (psave_nil w11).mono ?_
  rintro e w12 ⟨rfl, rfl⟩
  go_wp2_with fail
  go_ret
  exact ⟨rfl, HB5.out⟩
end Go.Proofs.Ytgjmdcbdkdmceaa.Mach
