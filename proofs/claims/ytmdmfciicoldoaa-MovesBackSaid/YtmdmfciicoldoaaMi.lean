/- Walks: lists of moves copied from the document's to the program's, and back. -/
import Derived.Test.YtmdmfciicoldoaaMd
namespace Go.Proofs.Ytmdmfciicoldoaa
open Go.RowKit Go.Maps

theorem infoM : (Try.prog.info? 32).map (fun i => (i.zero, i.size, i.bytes)) = some (some (.agg #[.int .i64 0, .int .i64 0]), 2, 16) := by kernel_rfl
theorem infoR : (Try.prog.info? 31).map (fun i => (i.zero, i.size, i.bytes)) = some (some (.agg #[.int .i64 0, .int .i64 0]), 2, 16) := by kernel_rfl

abbrev ownM (w : World) (base : Nat) (e : TypeId) (v : Value) (l : List M) : Prop := w.ownsRow base e 2 v l.length (cellsM l)
theorem ownM_nil (w : World) (base : Nat) (e : TypeId) : ownM w base e (.slice none 0 0) [] := ⟨by simp [cellsM], .inl ⟨rfl, rfl⟩⟩
theorem ownM_shape {w : World} {base : Nat} {e : TypeId} {v : Value} {l : List M} (h : ownM w base e v l) : ∃ a c, v = .slice a l.length c := (Rd.of_own h).shape
theorem ownM.rd {w : World} {base : Nat} {e : TypeId} {v : Value} {l : List M} (h : ownM w base e v l) : RdM w v l := Rd.of_own h
theorem ownM_grow {w : World} {base n : Nat} {e : TypeId} {v : Value} {l r : List M} (h : w.ownsRow base e 2 v n (cellsM l ++ cellsM r)) (hn : n = l.length + r.length) : ownM w base e v (l ++ r) := by
  subst hn
  show w.ownsRow _ _ _ _ _ _
  rw [List.length_append, cellsM_append]; exact h
theorem ownM_later {w w' : World} {base : Nat} {e : TypeId} {v : Value} {l : List M} (h : ownM w base e v l) (hb : Below w.heap.size w w') : ownM w' base e v l :=
  h.kept (row := none) ⟨hb.os, hb.tape, hb.output, hb.size, fun k hk _ => hb.block k hk⟩ (by cases hv : Value.ownBlock _ <;> simp)
theorem rd_mone (w : World) (e : TypeId) (x y : Int) (k : Nat) (hk : k = w.heap.size) : Rd (w.alloc (.cells #[.int .i64 x, .int .i64 y] e)) 2 (.slice (some ⟨k, 0, none⟩) 1 1) 1 (cellsM [(x, y)]) := by
  subst hk
  exact Rd.mk rfl (by decide) (by decide) fun j hj => by
    rw [World.cell?_alloc_at _ _ _ _ rfl]
    simp only [Nat.zero_add]
    exact List.getElem?_eq_getElem hj ▸ (by simp [cellsM])
theorem own_capM {w : World} {base n g c : Nat} {e : TypeId} {size : Nat} {xs : List Value} (h : w.ownsRow base e size (.slice (some ⟨g, 0, none⟩) n c) n xs) : n ≤ c ∧ c ≤ maxLen := by
  rcases h.2 with ⟨h1, _⟩ | ⟨g', cap, cur, h1, _, _, h2, h3, _⟩
  · cases h1
  · cases h1; exact ⟨h2, h3⟩
theorem take_next {l : List M} {j : Nat} (hj : j < l.length) {x y : Int} (hx : l[j] = (x, y)) : l.take j ++ [(x, y)] = l.take (j + 1) := by
  rw [List.take_succ_eq_append_getElem hj, hx]

/-- A list, and one marked behind it. -/
structure SparedM (w : World) (v : Value) (l : List M) : Prop where
  shape : ∃ g c, v = .slice (some ⟨g, 0, none⟩) l.length c ∧ l.length + 1 ≤ c ∧ c ≤ maxLen ∧ ∀ j, (hj : j < (l ++ [(77, 77)]).length) → w.cell? ⟨g, j * 2, none⟩ = some (.int .i64 (l ++ [(77, 77)])[j].1) ∧ w.cell? ⟨g, j * 2 + 1, none⟩ = some (.int .i64 (l ++ [(77, 77)])[j].2)
theorem SparedM.later {w w' : World} {v : Value} {l : List M} (h : SparedM w v l) (hb : Below w.heap.size w w') : SparedM w' v l := by
  obtain ⟨g, c, rfl, h1, h2, h3⟩ := h.shape
  refine ⟨g, c, rfl, h1, h2, fun j hj => ?_⟩
  obtain ⟨e1, e2⟩ := h3 j hj
  exact ⟨by rw [hb.cell (World.block_lt_of_cell? w _ e1)]; exact e1, by rw [hb.cell (World.block_lt_of_cell? w _ e2)]; exact e2⟩
theorem RdM.of_cells {w : World} {g c : Nat} {l : List M} (h1 : l.length ≤ c) (h2 : c ≤ maxLen) (h : ∀ j, (hj : j < l.length) → w.cell? ⟨g, j * 2, none⟩ = some (.int .i64 l[j].1) ∧ w.cell? ⟨g, j * 2 + 1, none⟩ = some (.int .i64 l[j].2)) : RdM w (.slice (some ⟨g, 0, none⟩) l.length c) l := by
  refine Rd.mk (cellsM_length l) h1 h2 fun j hj => ?_
  have hl := cellsM_length l
  rw [Nat.zero_add]
  by_cases e : j % 2 = 0
  · obtain ⟨k, rfl⟩ : ∃ k, j = k * 2 := ⟨j / 2, by omega⟩
    have hk : k < l.length := by omega
    rw [(h k hk).1, ← List.getElem?_eq_getElem hj]
    exact ((cellsM_at l k hk).1).symm
  · obtain ⟨k, rfl⟩ : ∃ k, j = k * 2 + 1 := ⟨j / 2, by omega⟩
    have hk : k < l.length := by omega
    rw [(h k hk).2, ← List.getElem?_eq_getElem hj]
    exact ((cellsM_at l k hk).2).symm
theorem SparedM.rd {w : World} {v : Value} {l : List M} (h : SparedM w v l) : RdM w v l := by
  obtain ⟨g, c, rfl, h1, h2, h3⟩ := h.shape
  refine RdM.of_cells (by omega) h2 fun j hj => ?_
  have := h3 j (by simp; omega)
  rw [List.getElem_append_left hj] at this
  exact this

set_option maxHeartbeats 4000000 in
theorem list_any (v : Value) (l : List M) (w : World) (hv : RdM w v l) (hlen : l.length ≤ 1000) :
    Calls Try.prog 8 #[v] w fun e w' => ∃ u, e = .returned u ∧ SparedM w' u l ∧ Below w.heap.size w w' := by
  obtain ⟨im, mi0, mz0, mz1, mz2⟩ := info_parts infoM
  obtain ⟨va, vc, rfl⟩ := Rd.shape hv
  have hl9 : (l.length : Int) ≤ 1000 := by omega
  have HSP := Lib.hid (fun (out : Value) (W : World) (h : ownM W w.heap.size 32 out l) => h)
  go_enter Try.func8, Try.ntmps8
  go_wp2_with fail
  go_loopw [8, 3] (fun i out wr => ∃ j : Nat, j ≤ l.length ∧ i = .int .i64 j ∧ Hid (ownM wr w.heap.size 32 out (l.take j)) ∧ Hid (Below w.heap.size w wr)) (fun i _ _ => l.length - (intOf i).toNat)
  case atStart => exact ⟨0, by omega, rfl, ownM_nil _ _ _, Below.refl _ _⟩
  case round =>
    obtain ⟨j, hj, rfl, HO, HB⟩ := hrel
    obtain ⟨oa, oc, rfl⟩ := ownM_shape HO.out
    have hsz := HB.out.size
    by_cases hlt : j < l.length
    · rcases hv.split with ⟨a, c, h0, rfl⟩ | ⟨b, off, c, h0, hp, hlc, hc9, hb, hcell⟩
      · simp at hlt
      · simp only [Value.slice.injEq] at h0
        obtain ⟨rfl, _, rfl⟩ := h0
        obtain ⟨d1, d2⟩ := hcell j hlt
        rw [← HB.out.cell (p := ⟨b, off + j * 2, none⟩) hb] at d1
        rw [← HB.out.cell (p := ⟨b, off + j * 2 + 1, none⟩) hb] at d2
        have hbr : b < wr.heap.size := Nat.lt_of_lt_of_le hb hsz
        have htk : (l.take j).length = j := by rw [List.length_take]; omega
        have hb1 : (l.take j).length + 1 ≤ maxLen := by unfold maxLen; omega
        have hb2 : ((l.take j).length + 1) * 16 ≤ 140737488355328 := by omega
        have HTN := Lib.hid (fun x y h => take_next (x := x) (y := y) hlt h)
        obtain ⟨⟨x, y⟩, hx⟩ : ∃ x, l[j] = x := ⟨_, rfl⟩
        rw [hx] at d1 d2
        simp only at d1 d2
        have HX := Lib.hid (HTN.out x y hx)
        clear hx hcell hv HTN htk
        go_wp2_with (at_builtin; refine wpList_append_own_rd _ rfl _ _ 24 rfl w.heap.size 32 im (.agg #[.int .i64 0, .int .i64 0]) 2 16 Try.underlying24 mi0 mz0 mz1 mz2 rfl (by decide) _ _ _ rfl ((HO.out.alloc _).alloc _) (.slice (some ⟨wr.heap.size + 1, 0, none⟩) 1 1) 1 (cellsM [(x, y)]) rfl (rd_mone (wr.alloc _) _ x y _ (by simp)) (cellsM_one _) hb1 hb2 (by simp; omega) ?_; intro v' w4 hown4 hgrow4)
        refine ⟨⟨j + 1, by omega, by go_num, ?_, ((HB.out.alloc hsz _).alloc (by simp; omega) _).grown hgrow4 (by simp; omega) (fun k hk => (HO.out.lt k hk).1)⟩, by simp [intOf]; omega⟩
        have := ownM_grow hown4 rfl
        rw [HX.out] at this
        exact this
    · obtain rfl : j = l.length := by omega
      simp only [List.take_length] at HO ⊢
      have hc1 : l.length + 1 ≤ maxLen := by unfold maxLen; omega
      have hc2 : (l.length + 1) * 16 ≤ 140737488355328 := by omega
      have sl := fun g c hc W => run_slice_to (P := Try.prog) 24 32 Try.underlying24 mi0 mz1 (some ⟨g, 0, none⟩) (l.length + 1) c l.length (l.length : Int) rfl hc W
      have SL := Lib.hid sl
      clear sl hv
      go_wp2_with (at_builtin; refine wpList_append_own_g _ rfl _ _ 24 rfl w.heap.size 32 im (.agg #[.int .i64 0, .int .i64 0]) 2 16 Try.underlying24 mi0 mz0 mz1 mz2 rfl (by decide) _ _ _ rfl (HO.out.alloc _) (.slice (some ⟨wr.heap.size, 0, none⟩) 1 1) 1 (cellsM [(77, 77)]) rfl (rd_mone wr _ 77 77 _ rfl) (cellsM_one _) (l.length + 1) rfl (by omega) hc1 hc2 (by simp; omega) ?_; intro g c3 w3 hown3 hgrow3; have hc3 := (own_capM hown3).1; have sl3 := SL.out g c3 (by omega))
      go_ret
      refine ⟨_, rfl, ⟨g, c3, rfl, hc3, (own_capM hown3).2, fun j hj => ?_⟩, (HB.out.alloc hsz _).grown hgrow3 (by simp; omega) (fun k hk => (HO.out.lt k hk).1)⟩
      have hj2 : j < l.length + 1 := by simpa using hj
      obtain ⟨e1, e2⟩ := cellsM_at (l ++ [(77, 77)]) j hj
      rw [cellsM_append] at e1 e2
      have hcl : (cellsM l ++ cellsM [(77, 77)]).length = (l.length + 1) * 2 := by rw [List.length_append, cellsM_length, cellsM_length]; simp; omega
      refine ⟨?_, ?_⟩
      · rw [← e1]; exact hown3.cellAt (j * 2) (by omega)
      · rw [← e2]; exact hown3.cellAt (j * 2 + 1) (by omega)

set_option maxHeartbeats 4000000 in
theorem back_any (v : Value) (l : List M) (w : World) (hv : RdM w v l) (hlen : l.length ≤ 2000) :
    Calls Try.prog 10 #[v] w fun e w' => ∃ u, e = .returned u ∧ RdM w' u l ∧ Below w.heap.size w w' := by
  obtain ⟨im, mi0, mz0, mz1, mz2⟩ := info_parts infoR
  obtain ⟨va, vc, rfl⟩ := Rd.shape hv
  have hl9 : (l.length : Int) ≤ 2000 := by omega
  go_enter Try.func10, Try.ntmps10
  go_wp2_with fail
  go_loopw [8, 3] (fun i out wr => ∃ j : Nat, j ≤ l.length ∧ i = .int .i64 j ∧ Hid (ownM wr w.heap.size 31 out (l.take j)) ∧ Hid (Below w.heap.size w wr)) (fun i _ _ => l.length - (intOf i).toNat)
  case atStart => exact ⟨0, by omega, rfl, ownM_nil _ _ _, Below.refl _ _⟩
  case round =>
    obtain ⟨j, hj, rfl, HO, HB⟩ := hrel
    obtain ⟨oa, oc, rfl⟩ := ownM_shape HO.out
    have hsz := HB.out.size
    by_cases hlt : j < l.length
    · rcases hv.split with ⟨a, c, h0, rfl⟩ | ⟨b, off, c, h0, hp, hlc, hc9, hb, hcell⟩
      · simp at hlt
      · simp only [Value.slice.injEq] at h0
        obtain ⟨rfl, _, rfl⟩ := h0
        obtain ⟨d1, d2⟩ := hcell j hlt
        rw [← HB.out.cell (p := ⟨b, off + j * 2, none⟩) hb] at d1
        rw [← HB.out.cell (p := ⟨b, off + j * 2 + 1, none⟩) hb] at d2
        have hbr : b < wr.heap.size := Nat.lt_of_lt_of_le hb hsz
        have htk : (l.take j).length = j := by rw [List.length_take]; omega
        have hb1 : (l.take j).length + 1 ≤ maxLen := by unfold maxLen; omega
        have hb2 : ((l.take j).length + 1) * 16 ≤ 140737488355328 := by omega
        have HTN := Lib.hid (fun x y h => take_next (x := x) (y := y) hlt h)
        obtain ⟨⟨x, y⟩, hx⟩ : ∃ x, l[j] = x := ⟨_, rfl⟩
        rw [hx] at d1 d2
        simp only at d1 d2
        have HX := Lib.hid (HTN.out x y hx)
        clear hx hcell hv HTN htk
        go_wp2_with (at_builtin; refine wpList_append_own_rd _ rfl _ _ 22 rfl w.heap.size 31 im (.agg #[.int .i64 0, .int .i64 0]) 2 16 Try.underlying22 mi0 mz0 mz1 mz2 rfl (by decide) _ _ _ rfl ((HO.out.alloc _).alloc _) (.slice (some ⟨wr.heap.size + 1, 0, none⟩) 1 1) 1 (cellsM [(x, y)]) rfl (rd_mone (wr.alloc _) _ x y _ (by simp)) (cellsM_one _) hb1 hb2 (by simp; omega) ?_; intro v' w4 hown4 hgrow4)
        refine ⟨⟨j + 1, by omega, by go_num, ?_, ((HB.out.alloc hsz _).alloc (by simp; omega) _).grown hgrow4 (by simp; omega) (fun k hk => (HO.out.lt k hk).1)⟩, by simp [intOf]; omega⟩
        have := ownM_grow hown4 rfl
        rw [HX.out] at this
        exact this
    · obtain rfl : j = l.length := by omega
      simp only [List.take_length] at HO ⊢
      have HR := Lib.hid HO.out.rd
      clear hv
      go_wp2_with fail
      go_ret
      exact ⟨_, rfl, HR.out, HB.out⟩

/-- A list that gives a place two things: no circles are counted. -/
theorem circles_no (v : Value) (l : List M) (w : World) (hv : RdM w v l) (hR : ∀ m ∈ l, inR m.1 ∧ inR m.2) (hD : ¬ Dist l) :
    Calls Try.prog 13 #[v] w fun e w' => e = .returned (.int .i64 0) ∧ Below w.heap.size w w' := by
  have HS := Lib.hid (fun w h => sources_any v l w h hR)
  have HV := Lib.hid hv
  obtain ⟨va, vc, rfl⟩ := Rd.shape hv
  clear hv hR
  go_enter Try.func13, Try.ntmps13
  go_wp2_with fail
  refine (HS.out _ HV.out).mono ?_
  rintro e w1 ⟨⟨hd, _⟩ | ⟨hn, rfl⟩, hb1⟩
  · exact absurd hd hD
  · have HB1 := Lib.hid hb1
    clear hb1
    go_wp2_with fail
    go_ret
    exact ⟨rfl, HB1.out⟩
end Go.Proofs.Ytmdmfciicoldoaa
