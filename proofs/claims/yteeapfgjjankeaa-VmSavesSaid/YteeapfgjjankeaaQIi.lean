/- The program's machine: Status. (Turned from vm XVh.) -/
import Derived.Test.YteeapfgjjankeaaQHa
import Derived.Test.YteeapfgjjankeaaQVb
import Derived.Test.YteeapfgjjankeaaQVe
import Derived.Deep.DeepCutAuto
import Derived.Deep.RegionWith
namespace Go.Proofs.Yteeapfgjjankeaa.Mach
open Go.RowKit

/-- What Status answers. -/
def MStat (w : World) (s : St) (e : Ending) (w' : World) : Prop :=
  ∃ v', e = .returned (.agg #[.int .u8 s.end_, .int .i64 s.exit, v', .int .i64 s.read, .int .i64 s.steps, .int .i64 s.marks, .int .i64 s.at_]) ∧ w'.ownsRow w.heap.size 2 1 v' s.outs.length (intsV s.outs) ∧ Below w.heap.size w w'
set_option maxHeartbeats 4000000 in
theorem mstatus_any (w : World) (t : Nat → Nat) (base M : Nat) (E : Env) (V : MV) (cl : List (Fr × FV)) (s : St) (h : MRep w t base M E V cl s) (hl : s.outs.length ≤ 1000000) :
    Calls Try.prog 15 #[.pointer (some ⟨M, 0, none⟩)] w fun e w' => MStat w s e w' := by
  obtain ⟨oa, oc, hxv⟩ := (Rd.of_own h.hx.own).shape
  have HH := Lib.hid h
  have hlM : M < w.heap.size := h.ltM
  have m7 : w.cell? ⟨M, 7, none⟩ = some (.int .i64 s.steps) := (h.cellM 7).trans rfl
  have m8 : w.cell? ⟨M, 8, none⟩ = some (.int .u8 s.end_) := (h.cellM 8).trans rfl
  have m9 : w.cell? ⟨M, 9, none⟩ = some (.int .i64 s.exit) := (h.cellM 9).trans rfl
  have m10 : w.cell? ⟨M, 10, none⟩ = some (.slice oa s.outs.length oc) := by rw [← hxv]; exact (h.cellM 10).trans (mC_get V s).2.2.2.2.2.2.2.2.1
  have m11 : w.cell? ⟨M, 11, none⟩ = some (.int .i64 s.read) := (h.cellM 11).trans rfl
  have m12 : w.cell? ⟨M, 12, none⟩ = some (.int .i64 0) := (h.cellM 12).trans rfl
  have m13 : w.cell? ⟨M, 13, none⟩ = some (.int .i64 s.marks) := (h.cellM 13).trans rfl
  have m14 : w.cell? ⟨M, 14, none⟩ = some (.int .i64 s.at_) := (h.cellM 14).trans rfl
  clear h
  go_enter Try.func15, Try.ntmps15
  go_upto_region 4 with fail
  obtain ⟨w1, hw1⟩ : ∃ w1, w1 = (w.alloc (.cells #[.int .u8 0, .int .i64 0, .slice none 0 0, .int .i64 0, .int .i64 0, .int .i64 0, .int .i64 0] 41)).alloc (.cells #[.int .u8 s.end_, .int .i64 s.exit, .slice oa s.outs.length oc, .int .i64 s.read, .int .i64 0, .int .i64 s.marks, .int .i64 s.at_] 41) := ⟨_, rfl⟩
  rw [← hw1]
  have hB1 : Below w.heap.size w w1 := by rw [hw1]; exact ((Below.refl _ _).alloc (Nat.le_refl _) _).alloc (by simp) _
  have hx1 : w1.heap[w.heap.size + 1]? = some (.cells #[.int .u8 s.end_, .int .i64 s.exit, .slice oa s.outs.length oc, .int .i64 s.read, .int .i64 0, .int .i64 s.marks, .int .i64 s.at_] 41 (0, 0)) := by
    rw [hw1]
    have := heap_alloc_new (w.alloc (.cells #[.int .u8 0, .int .i64 0, .slice none 0 0, .int .i64 0, .int .i64 0, .int .i64 0, .int .i64 0] 41)) (.cells #[.int .u8 s.end_, .int .i64 s.exit, .slice oa s.outs.length oc, .int .i64 s.read, .int .i64 0, .int .i64 s.marks, .int .i64 s.at_] 41)
    rw [World.size_alloc] at this
    exact this
  have hx0 : w1.heap[w.heap.size]? = some (.cells #[.int .u8 0, .int .i64 0, .slice none 0 0, .int .i64 0, .int .i64 0, .int .i64 0, .int .i64 0] 41 (0, 0)) := by
    rw [hw1, Below.heap_alloc _ _ _ (by simp)]; exact heap_alloc_new _ _
  have H1 := Lib.hid (HH.out.below hB1)
  have HB1 := Lib.hid hB1
  have n7 : w1.cell? ⟨M, 7, none⟩ = some (.int .i64 s.steps) := (hB1.cell (p := ⟨M, 7, none⟩) hlM).trans m7
  have s2 : w1.cell? ⟨w.heap.size + 1, 2, none⟩ = some (.slice oa s.outs.length oc) := by simp [World.cell?, hx1]
  have s4 : w1.cell? ⟨w.heap.size + 1, 4, none⟩ = some (.int .i64 0) := by simp [World.cell?, hx1]
  have z2 : w1.frozen? ⟨w.heap.size + 1, 2, none⟩ = false := by simp [World.frozen?, hx1]
  have z4 : w1.frozen? ⟨w.heap.size + 1, 4, none⟩ = false := by simp [World.frozen?, hx1]
  have l1 : w.heap.size + 1 < w1.heap.size := (Array.getElem?_eq_some_iff.1 hx1).1
  have lM1 : M < w1.heap.size := Nat.lt_of_lt_of_le hlM hB1.size
  have HX1 := Lib.hid hx1
  have HX0 := Lib.hid hx0
  have CN := Lib.hid (cloneN (.slice oa s.outs.length oc) s.outs.length (intsV s.outs) w1.drew (by have := Rd.of_own H1.out.hx.own; rwa [hxv] at this) (intsV_one _) (by omega))
  clear hw1 hB1 hx1 hx0 m7 m8 m9 m10 m11 m12 m13 m14
  go_cut [] (fun wx => ∃ va vc, Hid (wx.heap[w.heap.size + 1]? = some (.cells #[.int .u8 s.end_, .int .i64 s.exit, .slice va s.outs.length vc, .int .i64 s.read, .int .i64 s.steps, .int .i64 s.marks, .int .i64 s.at_] 41 (0, 0))) ∧ Hid (wx.heap[w.heap.size]? = some (.cells #[.int .u8 0, .int .i64 0, .slice none 0 0, .int .i64 0, .int .i64 0, .int .i64 0, .int .i64 0] 41 (0, 0))) ∧ Hid (wx.ownsRow w.heap.size 2 1 (.slice va s.outs.length vc) s.outs.length (intsV s.outs)) ∧ Hid (Below w.heap.size w wx))
  case first =>
    go_region_with (first
      | (go_at_call 27; refine CN.out.mono ?_; rintro e w5 ⟨q5, rfl, h5, b5⟩; obtain ⟨va, vc, rfl⟩ := (Rd.of_own h5).shape; have HO5 := Lib.hid h5; have HB5 := Lib.hid b5; have n7' : w5.cell? ⟨M, 7, none⟩ = some (.int .i64 s.steps) := (b5.cell (p := ⟨M, 7, none⟩) lM1).trans n7; have s2' : w5.cell? ⟨w.heap.size + 1, 2, none⟩ = some (.slice oa s.outs.length oc) := (b5.cell (p := ⟨w.heap.size + 1, 2, none⟩) l1).trans s2; have s4' : w5.cell? ⟨w.heap.size + 1, 4, none⟩ = some (.int .i64 0) := (b5.cell (p := ⟨w.heap.size + 1, 4, none⟩) l1).trans s4; have z2' : w5.frozen? ⟨w.heap.size + 1, 2, none⟩ = false := (World.frozen?_of_block (a := ⟨w.heap.size + 1, 2, none⟩) (b5.block _ l1)).trans z2; have z4' : w5.frozen? ⟨w.heap.size + 1, 4, none⟩ = false := (World.frozen?_of_block (a := ⟨w.heap.size + 1, 4, none⟩) (b5.block _ l1)).trans z4; clear h5 b5)
      | (go_at_call 31; refine (load_any M 7 s.steps _ n7').mono ?_; rintro e w6 ⟨rfl, rfl⟩)
      | (go_at_call 31; refine (load_any M 7 s.steps _ ((World.cell?_setCell_other _ ⟨w.heap.size + 1, 2, none⟩ ⟨M, 7, none⟩ _ (by simp; omega)).trans n7')).mono ?_; rintro e w6 ⟨rfl, hw6⟩; have HW6 := Lib.hid hw6; clear hw6)
      | (go_at_call 31; trace_state; fail))
    all_goals
      go_wp2_with fail
      go_meet
      have hx6 := (HB5.out.block _ l1).trans HX1.out
      have hx60 := (HB5.out.block w.heap.size (Nat.lt_of_succ_lt l1)).trans HX0.out
      have t1 := turn_set hx6 (.slice va s.outs.length vc) (i := 2)
      have t2 := t1.trans (turn_set t1.at_ (.int .i64 s.steps) (i := 4))
      have hb6 : Below w.heap.size w w6 := HB1.out.trans (((Below.refl w1.heap.size w1).drew.trans HB5.out).mono HB1.out.size)
      refine ⟨va, vc, t2.at_, (t2.block _ (Array.getElem?_eq_some_iff.1 hx60).1 (by omega)).trans hx60, ?_, t2.below hb6 (by omega) hb6.size⟩
      have ho := odown HO5.out (show w.heap.size ≤ w1.drew.heap.size from HB1.out.size)
      refine osame ho fun k hk => ?_
      obtain ⟨_, cur, hc⟩ := oblk ho k hk
      exact t2.block k (Array.getElem?_eq_some_iff.1 hc).1 (blk_ne hc hx6 (cells_ne (by decide)))
  case rest =>
    obtain ⟨va, vc, HXa, HXb, HOw, HBw⟩ := hcut
    have g0 : wc.cell? ⟨w.heap.size + 1, 0, none⟩ = some (.int .u8 s.end_) := by simp [World.cell?, HXa.out]
    have g1 : wc.cell? ⟨w.heap.size + 1, 1, none⟩ = some (.int .i64 s.exit) := by simp [World.cell?, HXa.out]
    have g2 : wc.cell? ⟨w.heap.size + 1, 2, none⟩ = some (.slice va s.outs.length vc) := by simp [World.cell?, HXa.out]
    have g3 : wc.cell? ⟨w.heap.size + 1, 3, none⟩ = some (.int .i64 s.read) := by simp [World.cell?, HXa.out]
    have g4 : wc.cell? ⟨w.heap.size + 1, 4, none⟩ = some (.int .i64 s.steps) := by simp [World.cell?, HXa.out]
    have g5 : wc.cell? ⟨w.heap.size + 1, 5, none⟩ = some (.int .i64 s.marks) := by simp [World.cell?, HXa.out]
    have g6 : wc.cell? ⟨w.heap.size + 1, 6, none⟩ = some (.int .i64 s.at_) := by simp [World.cell?, HXa.out]
    have r0' : wc.cell? ⟨w.heap.size, 0, none⟩ = some (.int .u8 0) := by simp [World.cell?, HXb.out]
    have r1' : wc.cell? ⟨w.heap.size, 1, none⟩ = some (.int .i64 0) := by simp [World.cell?, HXb.out]
    have r2' : wc.cell? ⟨w.heap.size, 2, none⟩ = some (.slice none 0 0) := by simp [World.cell?, HXb.out]
    have r3' : wc.cell? ⟨w.heap.size, 3, none⟩ = some (.int .i64 0) := by simp [World.cell?, HXb.out]
    have r4' : wc.cell? ⟨w.heap.size, 4, none⟩ = some (.int .i64 0) := by simp [World.cell?, HXb.out]
    have r5' : wc.cell? ⟨w.heap.size, 5, none⟩ = some (.int .i64 0) := by simp [World.cell?, HXb.out]
    have r6' : wc.cell? ⟨w.heap.size, 6, none⟩ = some (.int .i64 0) := by simp [World.cell?, HXb.out]
    have f0 : wc.frozen? ⟨w.heap.size, 0, none⟩ = false := by simp [World.frozen?, HXb.out]
    have f1 : wc.frozen? ⟨w.heap.size, 1, none⟩ = false := by simp [World.frozen?, HXb.out]
    have f2 : wc.frozen? ⟨w.heap.size, 2, none⟩ = false := by simp [World.frozen?, HXb.out]
    have f3 : wc.frozen? ⟨w.heap.size, 3, none⟩ = false := by simp [World.frozen?, HXb.out]
    have f4 : wc.frozen? ⟨w.heap.size, 4, none⟩ = false := by simp [World.frozen?, HXb.out]
    have f5 : wc.frozen? ⟨w.heap.size, 5, none⟩ = false := by simp [World.frozen?, HXb.out]
    have f6 : wc.frozen? ⟨w.heap.size, 6, none⟩ = false := by simp [World.frozen?, HXb.out]
    have HRB := Lib.hid HXb.out
    clear n7 s2 s4 z2 z4 HXa CN HX0 HX1 H1 HB1
    go_wp2_with fail
    have t1 := turn_set HRB.out (.int .u8 s.end_) (i := 0)
    have t2 := t1.trans (turn_set t1.at_ (.int .i64 s.exit) (i := 1))
    have t3 := t2.trans (turn_set t2.at_ (.slice va s.outs.length vc) (i := 2))
    have t4 := t3.trans (turn_set t3.at_ (.int .i64 s.read) (i := 3))
    have t5 := t4.trans (turn_set t4.at_ (.int .i64 s.steps) (i := 4))
    have t6 := t5.trans (turn_set t5.at_ (.int .i64 s.marks) (i := 5))
    have t7 := t6.trans (turn_set t6.at_ (.int .i64 s.at_) (i := 6))
    clear t1 t2 t3 t4 t5 t6
    have hT : Turn wc _ w.heap.size (.cells #[.int .u8 s.end_, .int .i64 s.exit, .slice va s.outs.length vc, .int .i64 s.read, .int .i64 s.steps, .int .i64 s.marks, .int .i64 s.at_] 41 (0, 0)) := t7
    clear t7
    generalize ((((((wc.setCell ⟨w.heap.size, 0, none⟩ (.int .u8 s.end_)).setCell ⟨w.heap.size, 1, none⟩ (.int .i64 s.exit)).setCell ⟨w.heap.size, 2, none⟩ (.slice va s.outs.length vc)).setCell ⟨w.heap.size, 3, none⟩ (.int .i64 s.read)).setCell ⟨w.heap.size, 4, none⟩ (.int .i64 s.steps)).setCell ⟨w.heap.size, 5, none⟩ (.int .i64 s.marks)).setCell ⟨w.heap.size, 6, none⟩ (.int .i64 s.at_) = W at hT ⊢
    have q0 : W.cell? ⟨w.heap.size, 0, none⟩ = some (.int .u8 s.end_) := by simp [World.cell?, hT.at_]
    have q1 : W.cell? ⟨w.heap.size, 1, none⟩ = some (.int .i64 s.exit) := by simp [World.cell?, hT.at_]
    have q2 : W.cell? ⟨w.heap.size, 2, none⟩ = some (.slice va s.outs.length vc) := by simp [World.cell?, hT.at_]
    have q3 : W.cell? ⟨w.heap.size, 3, none⟩ = some (.int .i64 s.read) := by simp [World.cell?, hT.at_]
    have q4 : W.cell? ⟨w.heap.size, 4, none⟩ = some (.int .i64 s.steps) := by simp [World.cell?, hT.at_]
    have q5 : W.cell? ⟨w.heap.size, 5, none⟩ = some (.int .i64 s.marks) := by simp [World.cell?, hT.at_]
    have q6 : W.cell? ⟨w.heap.size, 6, none⟩ = some (.int .i64 s.at_) := by simp [World.cell?, hT.at_]
    refine bodyPost_ret (v := .agg #[.int .u8 s.end_, .int .i64 s.exit, .slice va s.outs.length vc, .int .i64 s.read, .int .i64 s.steps, .int .i64 s.marks, .int .i64 s.at_]) ?_ rfl ⟨_, rfl, ?_, hT.below HBw.out (Nat.le_refl _) HBw.out.size⟩
    · simp [results, Try.results15, go_sem, q0, q1, q2, q3, q4, q5, q6]
    · refine osame HOw.out fun k hk => ?_
      obtain ⟨_, cur, hc⟩ := oblk HOw.out k hk
      exact hT.block k (Array.getElem?_eq_some_iff.1 hc).1 (blk_ne hc HRB.out (cells_ne (by decide)))
end Go.Proofs.Yteeapfgjjankeaa.Mach
