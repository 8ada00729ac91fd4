/- Vm: the document's example. -/
import Derived.Test.YteeapfgjjankeaaQVg
import Derived.Test.YteeapfgjjankeaaQ20
namespace Go.Proofs.Yteeapfgjjankeaa
open Go.RowKit

theorem rd_cells {W : World} {b n size : Nat} {c : Array Value} {t : TypeId} {xs : List Value} (h : W.heap[b]? = some (.cells c t (0, 0))) (hc : c.toList = xs) (hl : xs.length = n * size) (hm : n ≤ maxLen) : Rd W size (.slice (some ⟨b, 0, none⟩) n n) n xs := by
  refine Rd.mk hl (Nat.le_refl _) hm fun j hj => ?_
  rw [Nat.zero_add, cell_of_row W b j c t (0, 0) h]
  subst hc
  simp at hj
  simp [hj]

theorem run_field_outs (a0 a1 a2 a3 a4 a5 a6 : Value) (h : ∃ a n c, a2 = .slice a n c) (W : World) : (Instr.field 41 (.agg #[a0, a1, a2, a3, a4, a5, a6]) 2).run Try.prog W = .ok a2 W := by
  obtain ⟨a, n, c, rfl⟩ := h
  simp [Instr.field, run_underlying Try.underlying41, part, asAgg, sizeOf, typeInfo]
theorem heap_two0 (w : World) (A B : Obj) : ((w.alloc A).alloc B).heap[w.heap.size + 1]? = some B := by
  have := heap_alloc_new (w.alloc A) B
  rw [World.size_alloc] at this
  exact this
set_option maxRecDepth 100000 in
set_option maxHeartbeats 4000000 in
theorem awake_any (w : World) : Calls Try.prog 7 #[] w fun e w' => e = .returned (.bool true) ∧ Below w.heap.size w w' := by
  go_enter Try.func7, Try.ntmps7
  go_wp2_with fail
  refine (new_ex _ _ _ (rd_cells (c := wcs.toArray) (t := 60) ((Below.heap_alloc _ _ _ (by simp <;> omega)).trans ((Below.heap_alloc _ _ _ (by simp)).trans (heap_alloc_new _ _))) (by simp) rfl (by decide)) (rd_cells (c := #[.int .i64 0, .int .i64 0]) (t := 62) ((Below.heap_alloc _ _ _ (by simp)).trans (heap_two0 _ _ _)) rfl rfl (by decide))).mono ?_
  rintro e w2 ⟨M, F, OB, wv, ev, dv, iv, sl, rfl, h2'⟩
  obtain ⟨w1, hbw, h2⟩ : ∃ w1, Below w.heap.size w w1 ∧ MS w1 w1.heap.size M F OB (mC wv ev dv iv (.slice none 0 0) OB 1 0 0 0 (.slice none 0 0) 0 0) (fC 0 0 sl) wv ev (.slice none 0 0) [] w2 :=
    ⟨_, (((Below.refl _ _).alloc (Nat.le_refl _) _).alloc (by simp) _).alloc (by simp; omega) _, h2'⟩
  have H2 := Lib.hid h2
  have HB1 := Lib.hid hbw
  clear h2 h2' hbw
  go_wp2_with fail
  refine (run2 H2.out).mono ?_
  rintro e w3 ⟨rfl, v3, h3⟩
  have H3 := Lib.hid h3
  clear h3
  go_wp2_with fail
  refine (status_any (h := H3.out) (hl := by simp)).mono ?_
  rintro e w4 ⟨v4, rfl, ho4, hb4⟩
  obtain ⟨g4, c4, rfl, hc4, hl4⟩ := own_row1 ho4
  have H4 := Lib.hid (H3.out.later hb4)
  clear ho4 hb4 H3
  have HS := Lib.hid (sameInts1 g4 w4.heap.size c4 1 7 (w4.alloc (.cells #[.int .i64 7] 2)) (by rw [World.cell?_alloc_past _ _ _ hl4]; exact hc4) (by rw [World.cell?_alloc_at _ _ _ _ rfl]; rfl))
  have hfd := run_field_outs (.int .u8 0) (.int .i64 0) (.slice (some ⟨g4, 0, none⟩) 1 c4) (.int .i64 0) (.int .i64 2) (.int .i64 0) (.int .i64 1) ⟨_, _, _, rfl⟩
  go_wp2_with fail
  refine HS.out.mono ?_
  rintro e w5 ⟨rfl, q5, hw5⟩
  have H5 := Lib.hid (H4.out.later (w' := w5) (by rw [hw5]; exact below_drewN ((Below.refl _ _).alloc (Nat.le_refl _) _) q5))
  clear hw5 HS hc4 hl4
  go_wp2_with fail
  refine (tomark9 H5.out).mono ?_
  rintro e w6 ⟨rfl, h6⟩
  have H6 := Lib.hid h6
  clear h6
  go_wp2_with fail
  refine (run9 H6.out).mono ?_
  rintro e w7 ⟨rfl, h7⟩
  have H7 := Lib.hid h7
  clear h7
  go_wp2_with fail
  refine (status_any (h := H7.out) (hl := by simp)).mono ?_
  rintro e w8 ⟨v8, rfl, ho8, hb8⟩
  obtain ⟨g8, c8, rfl, hc8, hl8⟩ := own_row1 ho8
  have H8 : Hid (Below w.heap.size w w8) := HB1.out.trans ((H7.out.later hb8).bel.mono HB1.out.size)
  clear ho8 hb8 hc8
  go_wp2_with fail
  go_ret
  exact ⟨rfl, H8.out.alloc H8.out.size _⟩
end Go.Proofs.Yteeapfgjjankeaa
