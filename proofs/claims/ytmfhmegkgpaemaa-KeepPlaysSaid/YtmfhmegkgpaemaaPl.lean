/- Keep: one call of the script, played on both stores. -/
import Derived.Test.YtmfhmegkgpaemaaKz
import Derived.Deep.DeepCutAuto
import Derived.Deep.CutBlock
import Derived.Deep.RegionHeld3
namespace Go.Proofs.Ytmfhmegkgpaemaa
open Go.RowKit

def Live (w : World) (base : Nat) (sv xv : Value) (most : Int) : Prop := (sv = .pointer none ∧ xv = .pointer none) ∨ ∃ S, Good most S ∧ (∃ B v l, sv = .pointer (some ⟨B, 0, none⟩) ∧ StAt w base B most v l S) ∧ ∃ B v l, xv = .pointer (some ⟨B, 0, none⟩) ∧ RAt w base B most v l S
theorem live_fin {w w' : World} {base : Nat} {sv xv : Value} {most : Int} {g bx : Nat} {cg cb : Array Value} (h : Live w base sv xv most) (hb : Below w.heap.size w w') (hbase : base ≤ w.heap.size) (hgs : w.heap.size ≤ g) (hg : w'.heap[g]? = some (.cells cg 5 (0, 0))) (hx : w'.heap[bx]? = some (.cells cb 41 (0, 0))) : Fin w base sv xv most g bx cg cb w' := by
  refine ⟨?_, hg, hx, hb.mono hbase⟩
  rcases h with h | ⟨S, hG, ⟨B, v, l, h1, h2⟩, ⟨R, v2, l2, h3, h4⟩⟩
  · exact .inl h
  · refine .inr ⟨S, hG, ⟨B, v, l, h1, h2.later hb, fun m hm e => ?_⟩, ⟨R, v2, l2, h3, h4.later hb, fun m hm e => ?_⟩⟩
    · obtain ⟨i, hi, rfl⟩ := List.getElem_of_mem hm
      obtain ⟨_, cur, hc⟩ := own_blk (h2.ps i hi (by have := h2.len; omega)) g e
      have := (Array.getElem?_eq_some_iff.1 hc).1
      omega
    · obtain ⟨i, hi, rfl⟩ := List.getElem_of_mem hm
      obtain ⟨_, cur, hc⟩ := own_blk (h4.ps i hi (by have := h4.len; omega)) g e
      have := (Array.getElem?_eq_some_iff.1 hc).1
      omega

theorem keep1 {W w' : World} {row : Option Nat} {b o : Nat} {v : Value} (hg : W.grownBy w' row) (hb : b < W.heap.size) (hne : row ≠ some b) (h : W.cell? ⟨b, o, none⟩ = some v) : w'.cell? ⟨b, o, none⟩ = some v := by
  have e := hg.block b hb (fun e => hne e.symm)
  simp only [World.cell?, e] at h ⊢
  exact h
theorem rd_mark (W : World) (k : Nat) (hk : W.heap[k]? = some (.cells #[.int .u8 165] 5 (0, 0))) : Rd W 1 (.slice (some ⟨k, 0, none⟩) 1 1) 1 [.int .u8 165] := by
  refine Rd.mk (by simp) (Nat.le_refl _) (by unfold maxLen; omega) (fun j hj => ?_)
  simp at hj
  subst hj
  simp [World.cell?, hk]
theorem heap_at1 (w : World) (A B : Obj) : ((w.alloc A).alloc B).drew.heap[w.heap.size]? = some A := by
  show ((w.alloc A).alloc B).heap[w.heap.size]? = _
  rw [Below.heap_alloc _ _ _ (by simp)]; exact heap_alloc_new _ _
theorem heap_at2 (w : World) (A B : Obj) : ((w.alloc A).alloc B).drew.heap[w.heap.size + 1]? = some B := heap_two w A B
theorem keepA {w1 V w2 : World} {b o : Nat} {v : Value} {row : Option Nat} (hg : V.grownBy w2 row) (hV : Below w1.heap.size w1 V) (hz : b < w1.heap.size) (hr : ∀ k, row = some k → w1.heap.size ≤ k) (d : w1.cell? ⟨b, o, none⟩ = some v) : w2.cell? ⟨b, o, none⟩ = some v ∧ b < w2.heap.size ∧ Below w1.heap.size w1 w2 := by
  have h := hV.grown hg hV.size hr
  exact ⟨by rw [h.cell (p := ⟨b, o, none⟩) hz]; exact d, Nat.lt_of_lt_of_le hz h.size, h⟩
theorem row_ge {W : World} {base : Nat} {n : Nat} {v : Value} {xs : List Value} (h : W.ownsRow base 5 1 v n xs) : ∀ k, v.ownBlock = some k → base ≤ k := fun k hk => (own_blk h k hk).1
theorem markB {w1 w2 : World} {E M : Obj} (hg : ((w1.alloc M).alloc E).drew.grownBy w2 (some (w1.heap.size + 1))) : w2.heap[w1.heap.size]? = some M := by
  rw [hg.block _ (by show _ < ((w1.alloc M).alloc E).heap.size; simp <;> omega) (by simp)]; exact heap_at1 _ _ _
theorem markC {w1 w2 : World} {E M : Obj} (hg : ((w1.alloc E).alloc M).drew.grownBy w2 (some w1.heap.size)) : w2.heap[w1.heap.size + 1]? = some M := by
  rw [hg.block _ (by show _ < ((w1.alloc E).alloc M).heap.size; simp) (by simp)]; exact heap_at2 _ _ _
theorem own_pos {w : World} {base n N : Nat} {v : Value} {xs : List Value} (h : w.ownsRow base 5 1 v n xs) (hN : n = N) (hp : 0 < N) : ∃ g c cg, v = .slice (some ⟨g, 0, none⟩) N c ∧ base ≤ g ∧ w.heap[g]? = some (.cells cg 5 (0, 0)) ∧ N ≤ c ∧ c ≤ maxLen ∧ cg.size = c ∧ cg.toList.take N = xs := by
  subst hN
  rcases h.2 with ⟨rfl, h0⟩ | ⟨g, c, cur, rfl, h1, h2, h3, h4, h5, h6⟩
  · omega
  · exact ⟨g, c, cur, rfl, h1, h2, h3, h4, by simpa using h5, by simpa using h6⟩

theorem fin_live {w0 W V : World} {base : Nat} {sv xv : Value} {most : Int} {g bx : Nat} {cg cb : Array Value} (h : Fin w0 base sv xv most g bx cg cb W) (hV : ∀ k, k ≠ g → V.heap[k]? = W.heap[k]?) : Live V base sv xv most := by
  have hb : ∀ {k : Nat} {c : Array Value} {t : TypeId} {f : Nat × Nat}, W.heap[k]? = some (.cells c t f) → t ≠ 5 → V.heap[k]? = W.heap[k]? := fun {k c t f} h1 h2 => hV k (blk_ne h1 h.hg (cells_ne h2))
  rcases h.st with h1 | ⟨S, hG, ⟨B, v, l, h1, h2, h3⟩, ⟨R, v2, l2, r1, r2, r3⟩⟩
  · exact .inl h1
  · refine .inr ⟨S, hG, ⟨B, v, l, h1, StAt.mk' ((hb h2.at_ (by decide)).trans h2.at_) h2.lb (own_same h2.row fun k hk => ?_) (Prs.of h2.len fun i hi hi2 => ⟨h2.ats i hi hi2, own_same (h2.ps i hi hi2) fun k hk => hV k fun e => ?_⟩)⟩, ⟨R, v2, l2, r1, RAt.mk' ((hb r2.at_ (by decide)).trans r2.at_) r2.lb (own_same r2.row fun k hk => ?_) (Prs.of r2.len fun i hi hi2 => ⟨r2.ats i hi hi2, own_same (r2.ps i hi hi2) fun k hk => hV k fun e => ?_⟩)⟩⟩
    · obtain ⟨_, cur, hc⟩ := own_blk h2.row k hk
      exact hb hc (by decide)
    · subst e; exact h3 _ (List.getElem_mem hi) hk
    · obtain ⟨_, cur, hc⟩ := own_blk r2.row k hk
      exact hb hc (by decide)
    · subst e; exact r3 _ (List.getElem_mem hi) hk
theorem own_row {V : World} {base g c : Nat} {cg : Array Value} {pb : List Int} (hbg : base ≤ g) (hg : V.heap[g]? = some (.cells cg 5 (0, 0))) (hc : pb.length + 1 ≤ c) (hm : c ≤ maxLen) (hs : cg.size = c) (ht : cg.toList.take (pb.length + 1) = (pb ++ [165]).map (Value.int .u8)) : ownB V base (.slice (some ⟨g, 0, none⟩) pb.length c) pb := by
  refine ⟨by simp, .inr ⟨g, c, cg, rfl, hbg, hg, by omega, hm, by simpa using hs, ?_⟩⟩
  have : cg.toList.take (pb.length * 1) = (cg.toList.take (pb.length + 1)).take pb.length := by rw [List.take_take, Nat.mul_one, Nat.min_eq_left (by omega)]
  rw [this, ht, List.map_append, List.take_append_of_le_length (by simp), List.take_of_length_le (by simp)]
theorem ownB_set {W : World} {base h n c : Nat} {zs : List Int} (hl : zs.length = n) (ho : ownB W base (.slice (some ⟨h, 0, none⟩) n c) zs) (j : Nat) (z : Int) : ownB (W.setCell ⟨h, j, none⟩ (.int .u8 z)) base (.slice (some ⟨h, 0, none⟩) n c) (zs.set j z) := by
  subst hl
  have h2 := own_set ho j (.int .u8 z)
  show World.ownsRow _ _ _ _ _ _ _
  rw [List.length_set, List.map_set]
  exact h2
theorem rd_row {V : World} {g c : Nat} {cg : Array Value} {pb : List Int} (hg : V.heap[g]? = some (.cells cg 5 (0, 0))) (hc : pb.length + 1 ≤ c) (hm : c ≤ maxLen) (hs : cg.size = c) (ht : cg.toList.take (pb.length + 1) = (pb ++ [165]).map (Value.int .u8)) : RdB V (.slice (some ⟨g, 0, none⟩) pb.length c) pb := by
  refine Rd.mk (by simp) (by omega) hm fun j hj => ?_
  have hj2 : j < pb.length := by simpa using hj
  have e : cg.toList[j]? = some (.int .u8 pb[j]) := by
    have h1 : (cg.toList.take (pb.length + 1))[j]? = cg.toList[j]? := by rw [List.getElem?_take, if_pos (by omega)]
    rw [← h1, ht, List.getElem?_map, List.getElem?_append_left hj2, List.getElem?_eq_getElem hj2]; rfl
  rw [Nat.zero_add, cell_of_row V g j cg 5 (0, 0) hg]
  simpa using e
theorem box3 {V : World} {bx : Nat} {kind at_ choice : Int} {p : Value} (h : V.heap[bx]? = some (.cells #[.int .u8 kind, .int .i64 at_, p, .int .i64 choice] 41 (0, 0))) : V.cell? ⟨bx, 1, none⟩ = some (.int .i64 at_) ∧ V.cell? ⟨bx, 2, none⟩ = some p ∧ V.cell? ⟨bx, 3, none⟩ = some (.int .i64 choice) := by
  refine ⟨?_, ?_, ?_⟩ <;> simp [World.cell?, h]

set_option maxRecDepth 100000 in
set_option maxHeartbeats 4000000 in
theorem play_any (kind at_ choice : Int) (pv : Value) (pb : List Int) (w : World) (base : Nat) (sv xv : Value) (most : Int) (hst : Live w base sv xv most) (hbase : base ≤ w.heap.size) (hpv : ∀ V, Below base w V → RdB V pv pb) (hpl : pb.length ≤ 200) (hB : isB pb) (hch : -9223372036854775808 ≤ choice ∧ choice ≤ 9223372036854775807) :
    Calls Try.prog 13 #[sv, xv, .agg #[.int .u8 kind, .int .i64 at_, pv, .int .i64 choice]] w fun e w' =>
      e = .returned (.bool true) ∧ Live w' base sv xv most ∧ Below base w w' := by
  obtain ⟨i0, hi, hz0, hz1, hz2⟩ := info_parts infoB
  have HI : Hid _ := And.intro hi (And.intro hz0 (And.intro hz1 hz2))
  obtain ⟨pa, pc, rfl⟩ := Rd.shape (hpv w (Below.refl _ _))
  have HL := Lib.hid hst
  have HPV := Lib.hid hpv
  have HB := Lib.hid hB
  clear hi hz0 hz1 hz2 hst hpv hB
  go_enter Try.func13, Try.ntmps13
  go_upto_region 1 with fail
  obtain ⟨cb, hcb⟩ : ∃ cb, cb = #[Value.int .u8 kind, .int .i64 at_, .slice pa pb.length pc, .int .i64 choice] := ⟨_, rfl⟩
  obtain ⟨w1, hw1⟩ : ∃ w1, w1 = w.alloc (.cells #[Value.int .u8 kind, .int .i64 at_, .slice pa pb.length pc, .int .i64 choice] 41) := ⟨_, rfl⟩
  rw [← hw1]
  have hsz1 : w1.heap.size = w.heap.size + 1 := by rw [hw1]; simp
  have hx1 : w1.heap[w.heap.size]? = some (.cells cb 41 (0, 0)) := by rw [hw1, hcb]; exact heap_alloc_new _ _
  have hB1 : Below w.heap.size w w1 := by rw [hw1]; exact (Below.refl _ _).alloc (Nat.le_refl _) _
  have HX1 := Lib.hid hx1
  have HB1 := Lib.hid hB1
  have HCB := Lib.hid hcb
  have d2 : w1.cell? ⟨w.heap.size, 2, none⟩ = some (.slice pa pb.length pc) := by simp [World.cell?, hx1, hcb]
  have hz : w.heap.size < w1.heap.size := by omega
  have HSZ := Lib.hid hsz1
  clear hw1 hx1 hB1 hcb hsz1
  go_cut [7] (fun s7 wx => ∃ g c cg, s7 = .slice (some ⟨g, 0, none⟩) pb.length c ∧ pb.length + 1 ≤ c ∧ c ≤ maxLen ∧ w1.heap.size ≤ g ∧ Hid (wx.heap[g]? = some (.cells cg 5 (0, 0)) ∧ cg.size = c ∧ cg.toList.take (pb.length + 1) = (pb ++ [165]).map (Value.int .u8)) ∧ Hid (Below w1.heap.size w1 wx))
  case first =>
    have b1 : 0 + pb.length ≤ maxLen := by unfold maxLen; omega
    have b2 : (0 + pb.length) * 1 ≤ 140737488355328 := by omega
    have b3 : 0 + pb.length + 1 ≤ maxLen := by unfold maxLen; omega
    have b4 : (0 + pb.length + 1) * 1 ≤ 140737488355328 := by omega
    have RP : ∀ V, Below w1.heap.size w1 V → RdB V (.slice pa pb.length pc) pb := fun V hV => HPV.out V ((HB1.out.mono hbase).trans (hV.mono (by omega)))
    have OA : Hid (((w1.alloc (.cells #[] 5)).drew).ownsRow w1.heap.size 5 1 (.slice (some ⟨w1.heap.size, 0, none⟩) 0 0) 0 []) := own_emptyB w1
    have OB : Hid ((((w1.alloc (.cells #[.int .u8 165] 5)).alloc (.cells #[] 5)).drew).ownsRow w1.heap.size 5 1 (.slice (some ⟨w1.heap.size + 1, 0, none⟩) 0 0) 0 []) := by
      have h := own_emptyB (w1.alloc (.cells #[.int .u8 165] 5))
      rw [World.size_alloc] at h
      refine ⟨h.1, ?_⟩
      rcases h.2 with h | ⟨g', c', cur', e1, e2, e3⟩
      · exact .inl h
      · exact .inr ⟨g', c', cur', e1, by omega, e3⟩
    have OC : Hid ((((w1.alloc (.cells #[] 5)).alloc (.cells #[.int .u8 165] 5)).drew).ownsRow w1.heap.size 5 1 (.slice (some ⟨w1.heap.size, 0, none⟩) 0 0) 0 []) := (own_emptyB w1).alloc _
    have RA : Hid (RdB ((w1.alloc (.cells #[] 5)).drew) (.slice pa pb.length pc) pb) := RP _ (((Below.refl _ _).alloc (Nat.le_refl _) _).drew)
    have RB : Hid (RdB (((w1.alloc (.cells #[.int .u8 165] 5)).alloc (.cells #[] 5)).drew) (.slice pa pb.length pc) pb) := RP _ ((((Below.refl _ _).alloc (Nat.le_refl _) _).alloc (by simp) _).drew)
    have RC : Hid (RdB (((w1.alloc (.cells #[] 5)).alloc (.cells #[.int .u8 165] 5)).drew) (.slice pa pb.length pc) pb) := RP _ ((((Below.refl _ _).alloc (Nat.le_refl _) _).alloc (by simp) _).drew)
    have BA : Hid (Below w1.heap.size w1 ((w1.alloc (.cells #[] 5)).drew)) := ((Below.refl _ _).alloc (Nat.le_refl _) _).drew
    have BB : Hid (Below w1.heap.size w1 (((w1.alloc (.cells #[.int .u8 165] 5)).alloc (.cells #[] 5)).drew)) := (((Below.refl _ _).alloc (Nat.le_refl _) _).alloc (by simp) _).drew
    have BC : Hid (Below w1.heap.size w1 (((w1.alloc (.cells #[] 5)).alloc (.cells #[.int .u8 165] 5)).drew)) := (((Below.refl _ _).alloc (Nat.le_refl _) _).alloc (by simp) _).drew
    go_region_held3 (fun W => W.cell? ⟨w.heap.size, 2, none⟩ = some (.slice pa pb.length pc))
      (first | exact hk3 | exact hk2 | (simp [go_sem, World.cell?_alloc_past, hl2, hk2]; done) | (simp [go_sem, World.cell?_alloc_past, hz, d2]; done) | (trace_state; fail))
      (first
        | (refine step_append_own_rd rfl _ _ 29 rfl w1.heap.size 5 i0 (.int .u8 0) 1 1 Try.underlying29 HI.out.1 HI.out.2.1 HI.out.2.2.1 HI.out.2.2.2 rfl (by decide) _ 0 [] rfl OA.out _ pb.length (pb.map (Value.int .u8)) rfl RA.out (ints_oneCell .u8 _) b1 b2 BA.out.size ?_; intro v2 w2 hown2 hgrow2; obtain ⟨hk2, hl2, hb2⟩ := keepA hgrow2 BA.out hz (row_ge OA.out) d2)
        | (refine step_append_own_rd rfl _ _ 29 rfl w1.heap.size 5 i0 (.int .u8 0) 1 1 Try.underlying29 HI.out.1 HI.out.2.1 HI.out.2.2.1 HI.out.2.2.2 rfl (by decide) _ 0 [] rfl OB.out _ pb.length (pb.map (Value.int .u8)) rfl RB.out (ints_oneCell .u8 _) b1 b2 BB.out.size ?_; intro v2 w2 hown2 hgrow2; obtain ⟨hk2, hl2, hb2⟩ := keepA hgrow2 BB.out hz (row_ge OB.out) d2; have hmk := markB hgrow2)
        | (refine step_append_own_rd rfl _ _ 29 rfl w1.heap.size 5 i0 (.int .u8 0) 1 1 Try.underlying29 HI.out.1 HI.out.2.1 HI.out.2.2.1 HI.out.2.2.2 rfl (by decide) _ 0 [] rfl OC.out _ pb.length (pb.map (Value.int .u8)) rfl RC.out (ints_oneCell .u8 _) b1 b2 BC.out.size ?_; intro v2 w2 hown2 hgrow2; obtain ⟨hk2, hl2, hb2⟩ := keepA hgrow2 BC.out hz (row_ge OC.out) d2; have hmk := markC hgrow2)
        | (refine step_append_own_rd rfl _ _ 29 rfl w1.heap.size 5 i0 (.int .u8 0) 1 1 Try.underlying29 HI.out.1 HI.out.2.1 HI.out.2.2.1 HI.out.2.2.2 rfl (by decide) _ (0 + pb.length) ([] ++ pb.map (Value.int .u8)) rfl (hown2.alloc _) _ 1 [.int .u8 165] rfl (rd_mark _ _ (heap_alloc_new _ _)) (ints_oneCell .u8 [165]) b3 b4 (hb2.alloc hb2.size _).size ?_; intro v3 w3 hown3 hgrow3; obtain ⟨hk3, hl3, hb3⟩ := keepA hgrow3 (hb2.alloc hb2.size _) hz (row_ge hown2) d2; obtain ⟨g, c, cg, rfl, q1, q2, q3, q4, q5, q6⟩ := own_pos (N := pb.length + 1) hown3 (by omega) (by omega); have hsl := fun W => run_slice_to (P := Try.prog) 29 5 Try.underlying29 HI.out.1 HI.out.2.2.1 (some ⟨g, 0, none⟩) (pb.length + 1) c pb.length _ rfl (Nat.le_of_succ_le q3) W)
        | (refine step_append_own_rd rfl _ _ 29 rfl w1.heap.size 5 i0 (.int .u8 0) 1 1 Try.underlying29 HI.out.1 HI.out.2.1 HI.out.2.2.1 HI.out.2.2.2 rfl (by decide) _ (0 + pb.length) ([] ++ pb.map (Value.int .u8)) rfl hown2 _ 1 [.int .u8 165] rfl (rd_mark _ _ hmk) (ints_oneCell .u8 [165]) b3 b4 hb2.size ?_; intro v3 w3 hown3 hgrow3; obtain ⟨hk3, hl3, hb3⟩ := keepA hgrow3 hb2 hz (row_ge hown2) d2; obtain ⟨g, c, cg, rfl, q1, q2, q3, q4, q5, q6⟩ := own_pos (N := pb.length + 1) hown3 (by omega) (by omega); have hsl := fun W => run_slice_to (P := Try.prog) 29 5 Try.underlying29 HI.out.1 HI.out.2.2.1 (some ⟨g, 0, none⟩) (pb.length + 1) c pb.length _ rfl (Nat.le_of_succ_le q3) W)
        | (trace_state; fail))
    all_goals
      go_wp2_with fail
      go_meet
      refine ⟨g, c, cg, rfl, q3, q4, q1, ⟨q2, q5, by rw [q6]; simp⟩, hb3⟩
  case rest =>
    obtain ⟨g, c, cg, rfl, hgc, hcm, hgs, HG, HB2⟩ := hcut
    have hsz := HSZ.out
    have HF : Hid (Fin w base sv xv most g w.heap.size cg cb wc) := live_fin HL.out (HB1.out.trans (HB2.out.mono (by omega))) hbase (by omega) HG.out.1 (by rw [HB2.out.block _ (by omega)]; exact HX1.out)
    have hbg : base ≤ g := by omega
    clear hsz hz d2 HX1 HB1 HB2 HSZ HL
    have c0 : wc.cell? ⟨w.heap.size, 0, none⟩ = some (.int .u8 kind) := by simp [World.cell?, HF.out.hb, HCB.out]
    go_upto_block 0 with fail
    go_cut [8] (fun s8 wx => s8 = .bool true ∧ Hid (Fin w base sv xv most g w.heap.size cg cb wx))
    case first =>
      by_cases k0 : kind = 0
      · have e0 : (kind == 0) = true := by simp [k0]
        have HK := Lib.hid k0
        obtain ⟨P, cc, h1, h2, h3, h4, h5⟩ := two_put HF.out at_ choice (.slice pa pb.length pc) (.slice (some ⟨g, 0, none⟩) pb.length c) pb hbase HPV.out (fun V hV => rd_row hV hgc hcm HG.out.2.1 HG.out.2.2) (by omega) HB.out hch
        have CP := Lib.hid h1
        have CR := Lib.hid h2
        have hS0 := Lib.hid h3
        have CX := Lib.hid h4
        have CF := Lib.hid h5
        have hz0 := box3 (kind := kind) (at_ := at_) (choice := choice) (p := .slice pa pb.length pc) (by rw [CX.out _ _ _ hS0.out, HCB.out])
        clear k0 h1 h2 h3 h4 h5
        go_upto_region 5 with fail
        go_region_held3 (fun W => W.cell? ⟨w.heap.size, 1, none⟩ = some (.int .i64 at_) ∧ W.cell? ⟨w.heap.size, 2, none⟩ = some (.slice pa pb.length pc) ∧ W.cell? ⟨w.heap.size, 3, none⟩ = some (.int .i64 choice))
          (first | exact hz2 | exact hz1 | exact hz0 | (trace_state; fail))
          (first
            | (go_at_call 8; refine (CP.out _ _ hS1.out).mono ?_; rintro e w7 ⟨rfl, h⟩; have hS2 := Lib.hid h; have hz2 := box3 (kind := kind) (at_ := at_) (choice := choice) (p := .slice pa pb.length pc) ((CX.out _ _ _ hS2.out).trans (by rw [HCB.out])); clear h)
            | (go_at_call 8; refine (CP.out _ _ hS0.out).mono ?_; rintro e w6 ⟨rfl, h⟩; have hS1 := Lib.hid h; have hz1 := box3 (kind := kind) (at_ := at_) (choice := choice) (p := .slice pa pb.length pc) ((CX.out _ _ _ hS1.out).trans (by rw [HCB.out])); clear h)
            | (go_at_call 18; refine (CR.out _ _ hS1.out).mono ?_; rintro e w7 ⟨rfl, h⟩; have hS2 := Lib.hid h; have hz2 := box3 (kind := kind) (at_ := at_) (choice := choice) (p := .slice pa pb.length pc) ((CX.out _ _ _ hS2.out).trans (by rw [HCB.out])); clear h)
            | (go_at_call 18; refine (CR.out _ _ hS0.out).mono ?_; rintro e w6 ⟨rfl, h⟩; have hS1 := Lib.hid h; have hz1 := box3 (kind := kind) (at_ := at_) (choice := choice) (p := .slice pa pb.length pc) ((CX.out _ _ _ hS1.out).trans (by rw [HCB.out])); clear h))
        all_goals
          go_wp2_with fail
          go_meet
          exact ⟨rfl, CF.out _ hS2.out⟩
      · by_cases k1 : kind = 1
        · have e0 : (kind == 0) = false := by simp [k1]
          have e1 : (kind == 1) = true := by simp [k1]
          have HK := Lib.hid k1
          obtain ⟨P, cc, h1, h2, h3, h4, h5⟩ := two_drop HF.out at_ hbase
          have CP := Lib.hid h1
          have CR := Lib.hid h2
          have hS0 := Lib.hid h3
          have CX := Lib.hid h4
          have CF := Lib.hid h5
          have hz0 := box3 (kind := kind) (at_ := at_) (choice := choice) (p := .slice pa pb.length pc) (by rw [CX.out _ _ _ hS0.out, HCB.out])
          clear k0 k1 h1 h2 h3 h4 h5
          go_upto_region 7 with fail
          go_region_held3 (fun W => W.cell? ⟨w.heap.size, 1, none⟩ = some (.int .i64 at_) ∧ W.cell? ⟨w.heap.size, 2, none⟩ = some (.slice pa pb.length pc) ∧ W.cell? ⟨w.heap.size, 3, none⟩ = some (.int .i64 choice))
            (first | exact hz2 | exact hz1 | exact hz0 | (trace_state; fail))
            (first
              | (go_at_call 19; refine (CP.out _ _ hS1.out).mono ?_; rintro e w7 ⟨rfl, h⟩; have hS2 := Lib.hid h; have hz2 := box3 (kind := kind) (at_ := at_) (choice := choice) (p := .slice pa pb.length pc) ((CX.out _ _ _ hS2.out).trans (by rw [HCB.out])); clear h)
              | (go_at_call 19; refine (CP.out _ _ hS0.out).mono ?_; rintro e w6 ⟨rfl, h⟩; have hS1 := Lib.hid h; have hz1 := box3 (kind := kind) (at_ := at_) (choice := choice) (p := .slice pa pb.length pc) ((CX.out _ _ _ hS1.out).trans (by rw [HCB.out])); clear h)
              | (go_at_call 20; refine (CR.out _ _ hS1.out).mono ?_; rintro e w7 ⟨rfl, h⟩; have hS2 := Lib.hid h; have hz2 := box3 (kind := kind) (at_ := at_) (choice := choice) (p := .slice pa pb.length pc) ((CX.out _ _ _ hS2.out).trans (by rw [HCB.out])); clear h)
              | (go_at_call 20; refine (CR.out _ _ hS0.out).mono ?_; rintro e w6 ⟨rfl, h⟩; have hS1 := Lib.hid h; have hz1 := box3 (kind := kind) (at_ := at_) (choice := choice) (p := .slice pa pb.length pc) ((CX.out _ _ _ hS1.out).trans (by rw [HCB.out])); clear h))
          all_goals
            go_wp2_with fail
            go_meet
            exact ⟨rfl, CF.out _ hS2.out⟩
        · have e0 : (kind == 0) = false := by simp [k0]
          have e1 : (kind == 1) = false := by simp [k1]
          by_cases k2 : kind = 2
          · have e2 : (kind == 2) = true := by simp [k2]
            have HK := Lib.hid k2
            obtain ⟨y, qb, ok, hqB, hql, h1, h2⟩ := two_best HF.out at_
            have CQ := Lib.hid hqB
            have CP := Lib.hid h1
            have CR := Lib.hid h2
            have c1 : wc.cell? ⟨w.heap.size, 1, none⟩ = some (.int .i64 at_) := by simp [World.cell?, HF.out.hb, HCB.out]
            clear k0 k1 k2 h1 h2 hqB
            go_wp2_with fail
            refine (CP.out wc (Below.refl _ _)).mono ?_
            rintro e w5 ⟨q, rfl, hq, hb5⟩
            have HQ := Lib.hid hq
            have HB5 := Lib.hid hb5
            have d1 : w5.cell? ⟨w.heap.size, 1, none⟩ = some (.int .i64 at_) := by rw [hb5.cell (p := ⟨w.heap.size, 1, none⟩) (Array.getElem?_eq_some_iff.1 HF.out.hb).1]; exact c1
            obtain ⟨qa, qc, rfl⟩ := (Rd.of_own hq).shape
            clear hq hb5 c1
            go_wp2_with fail
            refine (CR.out w5 HB5.out).mono ?_
            rintro e w6 ⟨q2, rfl, hq2, hb6⟩
            obtain ⟨ra, rc, rfl⟩ := Rd.shape hq2
            have hb6' : Below w5.heap.size w5 (w6.alloc (.cells #[.int .i64 y, .slice ra qb.length rc] 47)) := hb6.alloc hb6.size _
            have HQ7 : Hid (ownB (w6.alloc (.cells #[.int .i64 y, .slice ra qb.length rc] 47)) wc.heap.size (.slice qa qb.length qc) qb) := own_same HQ.out fun k hk => by
              obtain ⟨_, cur, hc⟩ := own_blk HQ.out k hk
              exact hb6'.block k (Array.getElem?_eq_some_iff.1 hc).1
            have HR7 : Hid (RdB (w6.alloc (.cells #[.int .i64 y, .slice ra qb.length rc] 47)) (.slice ra qb.length rc) qb) := Rd.alloc hq2 _
            have HB7 : Hid (Below wc.heap.size wc (w6.alloc (.cells #[.int .i64 y, .slice ra qb.length rc] 47))) := HB5.out.trans (hb6'.mono HB5.out.size)
            have hqq : eqL qb qb = true := by simp [eqL]
            have HSB := Lib.hid (sameBytes_any _ _ _ _ _ (Rd.of_own HQ7.out) HR7.out CQ.out CQ.out)
            rw [hqq] at HSB
            clear hqq hq2 hb6 hb6' HQ HB5 d1 CP CR
            go_wp2_with fail
            refine HSB.out.mono ?_
            rintro e w7 ⟨rfl, rfl⟩
            clear HSB HR7
            go_wp2_with fail
            go_loopw [91] (fun i wr => ∃ j : Nat, j ≤ qb.length ∧ i = .int .i64 j ∧ Hid (∃ zs : List Int, zs.length = qb.length ∧ ownB wr wc.heap.size (.slice qa qb.length qc) zs) ∧ Hid (Below wc.heap.size wc wr)) (fun i _ => qb.length - (intOf i).toNat)
            case atStart => exact ⟨0, by omega, rfl, ⟨qb, rfl, HQ7.out⟩, HB7.out⟩
            case round =>
              clear HQ7 HB7
              obtain ⟨wa, rfl⟩ : ∃ wa : World, wa = wr := ⟨_, rfl⟩
              obtain ⟨j, hj, rfl, HZ, HB8⟩ := hrel
              by_cases hlt : j < qb.length
              · obtain ⟨zs, hzl, hzo⟩ := HZ.out
                rcases hzo.2 with ⟨h1, h2⟩ | ⟨h, cap, cur, h1, h2, h3, h4, h5, h6, h7⟩
                · omega
                · simp only [Value.slice.injEq] at h1
                  obtain ⟨rfl, hl1, rfl⟩ := h1
                  have hjz : j < zs.length := by omega
                  have d1 : wa.cell? ⟨h, j, none⟩ = some (.int .u8 zs[j]) := by
                    have := hzo.cells rfl j (.int .u8 zs[j]) (by rw [List.getElem?_map, List.getElem?_eq_getElem hjz]; rfl)
                    rw [add_plain, Nat.zero_add] at this
                    exact this
                  have d2 : wa.frozen? ⟨h, j, none⟩ = false := by simp [World.frozen?, h3]
                  have hhl : h < wa.heap.size := (Array.getElem?_eq_some_iff.1 h3).1
                  obtain ⟨z, hz⟩ : ∃ z, zs[j] = z := ⟨_, rfl⟩
                  rw [hz] at d1
                  have HZO := Lib.hid hzo
                  have HZL := Lib.hid hzl
                  clear h3 h4 h5 h6 h7 hzo hzl hl1 hz
                  go_wp2_with fail
                  refine ⟨⟨j + 1, by omega, by go_num, ?_, HB8.out.setCell h2 _⟩, by simp [intOf]; omega⟩
                  refine ⟨_, ?_, ownB_set HZL.out HZO.out j _⟩
                  rw [List.length_set]; exact HZL.out
              · go_wp2_with fail
                go_meet
                exact ⟨rfl, HF.out.later HB8.out hbase⟩
          · have e2 : (kind == 2) = false := by simp [k2]
            go_wp2_with fail
            go_meet
            exact ⟨rfl, HF.out⟩
    case rest =>
      obtain ⟨rfl, HF2⟩ := hcut
      obtain ⟨wd, rfl⟩ : ∃ wd : World, wd = wc := ⟨_, rfl⟩
      clear c0 HF
      have HR2 := Lib.hid (rd_row HF2.out.hg hgc hcm HG.out.2.1 HG.out.2.2)
      have HP2 := Lib.hid (HPV.out wd HF2.out.bel)
      have m2 : wd.cell? ⟨w.heap.size, 2, none⟩ = some (.slice pa pb.length pc) := by simp [World.cell?, HF2.out.hb, HCB.out]
      have hqq : eqL pb pb = true := by simp [eqL]
      have HSB := Lib.hid (sameBytes_any _ _ _ _ wd HR2.out HP2.out HB.out HB.out)
      rw [hqq] at HSB
      have hsl := fun W => run_slice_to (P := Try.prog) 29 5 Try.underlying29 HI.out.1 HI.out.2.2.1 (some ⟨g, 0, none⟩) pb.length c (pb.length + 1) ((pb.length : Int) + 1) (by simp) hgc W
      have m3 : wd.cell? ⟨g, pb.length, none⟩ = some (.int .u8 165) := by
        have h1 := HG.out.2.2
        have e : cg.toList[pb.length]? = some (.int .u8 165) := by
          have h2 : (cg.toList.take (pb.length + 1))[pb.length]? = cg.toList[pb.length]? := by rw [List.getElem?_take, if_pos (by omega)]
          rw [← h2, h1, List.getElem?_map, List.getElem?_append_right (Nat.le_refl _)]; simp
        rw [cell_of_row wd g pb.length cg 5 (0, 0) HF2.out.hg]
        simpa using e
      clear hqq
      have HO1 := Lib.hid (own_row hbg HF2.out.hg hgc hcm HG.out.2.1 HG.out.2.2)
      go_wp2_with fail
      refine HSB.out.mono ?_
      rintro e w7 ⟨rfl, rfl⟩
      clear HSB HR2 HP2
      go_wp2_with fail
      go_loopw [122] (fun i wr => ∃ j : Nat, j ≤ pb.length ∧ i = .int .i64 j ∧ Hid (∃ zs : List Int, zs.length = pb.length ∧ ownB wr base (.slice (some ⟨g, 0, none⟩) pb.length c) zs) ∧ Hid (∀ k, k ≠ g → wr.heap[k]? = wd.heap[k]?) ∧ Hid (Below base w wr)) (fun i _ => pb.length - (intOf i).toNat)
      case atStart => exact ⟨0, by omega, rfl, ⟨pb, rfl, HO1.out⟩, (fun _ _ => rfl), HF2.out.bel⟩
      case round =>
        clear m2 m3 HO1
        obtain ⟨wa, rfl⟩ : ∃ wa : World, wa = wr := ⟨_, rfl⟩
        obtain ⟨j, hj, rfl, HZ, HK8, HB8⟩ := hrel
        by_cases hlt : j < pb.length
        · obtain ⟨zs, hzl, hzo⟩ := HZ.out
          rcases hzo.2 with ⟨h1, h2⟩ | ⟨h, cap, cur, h1, h2, h3, h4, h5, h6, h7⟩
          · cases h1
          · simp only [Value.slice.injEq, Option.some.injEq, Addr.mk.injEq] at h1
            obtain ⟨⟨rfl, -⟩, hl1, rfl⟩ := h1
            have hjz : j < zs.length := by omega
            have d1 : wa.cell? ⟨g, j, none⟩ = some (.int .u8 zs[j]) := by
              have := hzo.cells rfl j (.int .u8 zs[j]) (by rw [List.getElem?_map, List.getElem?_eq_getElem hjz]; rfl)
              rw [add_plain, Nat.zero_add] at this
              exact this
            have d2 : wa.frozen? ⟨g, j, none⟩ = false := by simp [World.frozen?, h3]
            have hhl : g < wa.heap.size := (Array.getElem?_eq_some_iff.1 h3).1
            obtain ⟨z, hz⟩ : ∃ z, zs[j] = z := ⟨_, rfl⟩
            rw [hz] at d1
            have HZO := Lib.hid hzo
            have HZL := Lib.hid hzl
            clear h3 h4 h5 h6 h7 hzo hzl hl1 hz
            go_wp2_with fail
            refine ⟨⟨j + 1, by omega, by go_num, ?_, (fun k hk => ?_), HB8.out.setCell hbg _⟩, by simp [intOf]; omega⟩
            · refine ⟨_, ?_, ownB_set HZL.out HZO.out j _⟩
              rw [List.length_set]; exact HZL.out
            · rw [Below.heap_setCell _ _ _ _ hk]; exact HK8.out k hk
        · go_wp2_with fail
          go_ret
          exact ⟨rfl, fin_live HF2.out HK8.out, HB8.out⟩
end Go.Proofs.Ytmfhmegkgpaemaa
