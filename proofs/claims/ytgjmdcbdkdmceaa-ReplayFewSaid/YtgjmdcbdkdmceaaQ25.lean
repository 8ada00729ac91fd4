/- The program's machine: saved; run. -/
import Derived.Test.YtgjmdcbdkdmceaaQIg
import Derived.Test.YtgjmdcbdkdmceaaQHn
import Derived.Test.YtgjmdcbdkdmceaaQHa
import Derived.Test.YtgjmdcbdkdmceaaQ19
import Derived.Deep.DeepCutAuto
import Derived.Deep.RegionWith
import Derived.Test.YtgjmdcbdkdmceaaQ22
namespace Go.Proofs.Ytgjmdcbdkdmceaa.Mach
open Go.RowKit

/-- Bytes of the call's own. -/
def SaveP (w : World) (bs : List Int) (e : Ending) (w' : World) : Prop := ∃ pv, e = .returned pv ∧ Below w.heap.size w w' ∧ w'.ownsRow w.heap.size 5 1 pv bs.length (bytesV bs)
set_option maxRecDepth 100000 in
theorem msave_any (w : World) (t : Nat → Nat) (mb M : Nat) (E : Env) (V : MV) (cl : List (Fr × FV)) (s : St) (hm : MRep w t mb M E V cl s) (L : Nat) (hs : Sane E L s) (hL : L ≤ 1000000) (hE : EnvOk E) :
    Calls Try.prog 18 #[.pointer (some ⟨M, 0, none⟩)] w fun e w' => SaveP w (saveB s) e w' := by
  have HM := Lib.hid hm
  have HS := Lib.hid hs
  clear hm hs
  go_enter Try.func18, Try.ntmps18
  go_wp2_with fail
  obtain ⟨w1, hw1⟩ : ∃ w1, w1 = w.alloc (.cells #[.slice none 0 0, .bool false, .bool false] 96) := ⟨_, rfl⟩
  rw [← hw1]
  have hb1 : Below w.heap.size w w1 := by rw [hw1]; exact (Below.refl _ _).alloc (Nat.le_refl _) _
  have hc1 : w1.heap[w.heap.size]? = some (.cells #[.slice none 0 0, .bool false, .bool false] 96 (0, 0)) := by rw [hw1]; exact heap_alloc_new _ _
  have HT1 : Hid (TapW w w.heap.size w.heap.size [] w1) := ⟨⟨_, hc1, by simpa [bytesV] using World.ownsRow_nil _ _ _ _⟩, hb1, Nat.le_refl _⟩
  have HM1 := Lib.hid (HM.out.below hb1)
  clear hb1 hc1 hw1
  refine (tall_w w w1 w.heap.size w.heap.size HT1.out t mb M E V cl s HM1.out L HS.out hL hE).mono ?_
  rintro e w2 ⟨rfl, hT2, -⟩
  obtain ⟨pv, hp, ho⟩ := hT2.ht
  have c0 : w2.cell? ⟨w.heap.size, 0, none⟩ = some pv := by simp [World.cell?, hp]
  have HO := Lib.hid ho
  have HB := Lib.hid hT2.bel
  clear hT2 hp ho
  go_wp2_with fail
  refine bodyPost_ret (v := pv) ?_ rfl ⟨pv, rfl, HB.out, HO.out⟩
  simp [results, Try.results18, go_sem]
/-- Where a run of k steps is behind j of them. -/
def MRun (w : World) (t : Nat → Nat) (base M : Nat) (E : Env) (L k : Nat) (s : St) (j : Nat) (wr : World) : Prop :=
  ∃ sj t' V' cl', MRep wr t' base M E V' cl' sj ∧ Fx w wr t t' ∧ Sane E (L + j) sj ∧ runF E k s = (j + (runF E (k - j) sj).1, (runF E (k - j) sj).2)
def MRunP (w : World) (t : Nat → Nat) (base M : Nat) (E : Env) (L k : Nat) (s : St) (w' : World) : Prop :=
  ∃ t' V' cl', MRep w' t' base M E V' cl' (runF E k s).2 ∧ Fx w w' t t' ∧ Sane E (L + k) (runF E k s).2
theorem mrunF_step {E : Env} {k : Nat} {s : St} (h : s.end_ = 0) : runF E (k + 1) s = ((runF E k (stepF E s).1).1 + 1, (runF E k (stepF E s).1).2) := by
  have h1 : (s.end_ == 0) = true := by simp [h]
  show (if _ then _ else _) = _
  rw [h1, if_pos rfl]
theorem mrunF_stop {E : Env} {k : Nat} {s : St} (h : s.end_ ≠ 0) : runF E k s = (0, s) := by
  cases k with
  | zero => rfl
  | succ k =>
    have h1 : (s.end_ == 0) = false := by simpa using h
    show (if _ then _ else _) = _
    rw [h1]; rfl
set_option maxHeartbeats 1000000 in
theorem mrun_any (w : World) (t : Nat → Nat) (base M : Nat) (E : Env) (V : MV) (cl : List (Fr × FV)) (s : St) (h : MRep w t base M E V cl s) (hE : EnvOk E) (L : Nat) (hs : Sane E L s) (k : Nat) (hk : L + k ≤ 1000000) :
    Calls Try.prog 16 #[.pointer (some ⟨M, 0, none⟩), .int .i64 k] w fun e w' => e = .returned (.int .i64 (runF E k s).1) ∧ MRunP w t base M E L k s w' := by
  have HS : Hid (MRun w t base M E L k s 0 w) := ⟨s, t, V, cl, h, Fx.refl w t, hs, by simp⟩
  clear h hs
  go_enter Try.func16, Try.ntmps16
  go_wp2_with fail
  go_loopw [5] (fun n wr => ∃ j : Nat, j ≤ k ∧ n = .int .i64 j ∧ Hid (MRun w t base M E L k s j wr)) (fun n _ => k - (intOf n).toNat)
  case atStart => exact ⟨0, Nat.zero_le _, rfl, HS⟩
  case round =>
    obtain ⟨wa, rfl⟩ : ∃ wa : World, wa = wr := ⟨_, rfl⟩
    obtain ⟨j, hj, rfl, HJ⟩ := hrel
    obtain ⟨sj, tj, Vj, clj, R0, F0, S0, E0⟩ := HJ.out
    have RJ := Lib.hid R0
    have FJ := Lib.hid F0
    have SJ := Lib.hid S0
    have EJ := Lib.hid E0
    clear R0 F0 S0 E0 HJ HS
    have m8 : wa.cell? ⟨M, 8, none⟩ = some (.int .u8 sj.end_) := (RJ.out.cellM 8).trans (mC_get Vj sj).2.2.2.2.2.2.1
    by_cases hjk : j < k
    · have hjk' : (j : Int) < (k : Int) := by omega
      by_cases h0 : sj.end_ = 0
      · have hb : (sj.end_ == 0) = true := by rw [h0]; rfl
        have H0 := Lib.hid h0
        clear h0
        go_wp2_with fail
        refine (mstep_any wa tj base M E Vj clj sj RJ.out hE (L + j) SJ.out (by omega) H0.out).mono ?_
        rintro e w2 ⟨rfl, t2, V2, cl2, R2, F2⟩
        have HR2 := Lib.hid R2
        have HF2 := Lib.hid F2
        clear R2 F2
        go_wp2_with fail
        go_roundw
        case rel =>
          refine ⟨j + 1, by omega, by simp, (stepF E sj).1, t2, V2, cl2, HR2.out, FJ.out.trans HF2.out, stepF_good hE SJ.out H0.out, ?_⟩
          have e1 : k - j = (k - (j + 1)) + 1 := by omega
          rw [EJ.out, e1, mrunF_step H0.out]
          simp only [Prod.mk.injEq, and_true]
          omega
        case measure => simp [intOf]; omega
      · have hb : (sj.end_ == 0) = false := by simpa using h0
        have H0 := Lib.hid h0
        clear h0
        go_wp2_with fail
        go_ret
        refine ⟨?_, tj, Vj, clj, ?_, FJ.out, ?_⟩
        · rw [EJ.out, mrunF_stop H0.out]; rfl
        · rw [EJ.out, mrunF_stop H0.out]; exact RJ.out
        · rw [EJ.out, mrunF_stop H0.out]; exact SJ.out.more (by omega)
    · have hjk' : ¬ ((j : Int) < (k : Int)) := by omega
      have e0 : k - j = 0 := by omega
      have e1 : j = k := by omega
      have HE0 := Lib.hid e0
      have HE1 := Lib.hid e1
      clear e0 e1 hjk
      go_wp2_with fail
      go_ret
      refine ⟨?_, tj, Vj, clj, ?_, FJ.out, ?_⟩
      · rw [EJ.out, HE0.out]; rfl
      · rw [EJ.out, HE0.out]; exact RJ.out
      · rw [EJ.out, HE0.out]; exact SJ.out.more (by omega)
end Go.Proofs.Ytgjmdcbdkdmceaa.Mach

/- The program's machine: Status. (Turned from vm XVh.) -/
namespace Go.Proofs.Ytgjmdcbdkdmceaa.Mach
open Go.RowKit

/-- What Status answers. -/
def MStat (w : World) (s : St) (e : Ending) (w' : World) : Prop :=
  ∃ v', e = .returned (.agg #[.int .u8 s.end_, .int .i64 s.exit, v', .int .i64 s.read, .int .i64 s.steps, .int .i64 s.marks, .int .i64 s.at_]) ∧ w'.ownsRow w.heap.size 2 1 v' s.outs.length (intsV s.outs) ∧ Below w.heap.size w w'
set_option maxHeartbeats 4000000 in
theorem mstatus_any (w : World) (t : Nat → Nat) (base M : Nat) (E : Env) (V : MV) (cl : List (Fr × FV)) (s : St) (h : MRep w t base M E V cl s) (hl : s.outs.length ≤ 1000000) :
    Calls Try.prog 15 #[.pointer (some ⟨M, 0, none⟩)] w fun e w' => MStat w s e w' := by
  obtain ⟨oa, oc, hxv⟩ := (Rd.of_own h.hx.own).shape
  have HH := Lib.hid h
  have hlM : M < w.heap.size := h.ltM
  have m7 : w.cell? ⟨M, 7, none⟩ = some (.int .i64 s.steps) := (h.cellM 7).trans rfl
  have m8 : w.cell? ⟨M, 8, none⟩ = some (.int .u8 s.end_) := (h.cellM 8).trans rfl
  have m9 : w.cell? ⟨M, 9, none⟩ = some (.int .i64 s.exit) := (h.cellM 9).trans rfl
  have m10 : w.cell? ⟨M, 10, none⟩ = some (.slice oa s.outs.length oc) := by rw [← hxv]; exact (h.cellM 10).trans (mC_get V s).2.2.2.2.2.2.2.2.1
  have m11 : w.cell? ⟨M, 11, none⟩ = some (.int .i64 s.read) := (h.cellM 11).trans rfl
  have m12 : w.cell? ⟨M, 12, none⟩ = some (.int .i64 0) := (h.cellM 12).trans rfl
  have m13 : w.cell? ⟨M, 13, none⟩ = some (.int .i64 s.marks) := (h.cellM 13).trans rfl
  have m14 : w.cell? ⟨M, 14, none⟩ = some (.int .i64 s.at_) := (h.cellM 14).trans rfl
  clear h
  go_enter Try.func15, Try.ntmps15
  go_upto_region 4 with fail
  obtain ⟨w1, hw1⟩ : ∃ w1, w1 = (w.alloc (.cells #[.int .u8 0, .int .i64 0, .slice none 0 0, .int .i64 0, .int .i64 0, .int .i64 0, .int .i64 0] 43)).alloc (.cells #[.int .u8 s.end_, .int .i64 s.exit, .slice oa s.outs.length oc, .int .i64 s.read, .int .i64 0, .int .i64 s.marks, .int .i64 s.at_] 43) := ⟨_, rfl⟩
  rw [← hw1]
  have hB1 : Below w.heap.size w w1 := by rw [hw1]; exact ((Below.refl _ _).alloc (Nat.le_refl _) _).alloc (by simp) _
  have hx1 : w1.heap[w.heap.size + 1]? = some (.cells #[.int .u8 s.end_, .int .i64 s.exit, .slice oa s.outs.length oc, .int .i64 s.read, .int .i64 0, .int .i64 s.marks, .int .i64 s.at_] 43 (0, 0)) := by
    rw [hw1]
    have := heap_alloc_new (w.alloc (.cells #[.int .u8 0, .int .i64 0, .slice none 0 0, .int .i64 0, .int .i64 0, .int .i64 0, .int .i64 0] 43)) (.cells #[.int .u8 s.end_, .int .i64 s.exit, .slice oa s.outs.length oc, .int .i64 s.read, .int .i64 0, .int .i64 s.marks, .int .i64 s.at_] 43)
    rw [World.size_alloc] at this
    exact this
  have hx0 : w1.heap[w.heap.size]? = some (.cells #[.int .u8 0, .int .i64 0, .slice none 0 0, .int .i64 0, .int .i64 0, .int .i64 0, .int .i64 0] 43 (0, 0)) := by
    rw [hw1, Below.heap_alloc _ _ _ (by simp)]; exact heap_alloc_new _ _
  have H1 := Lib.hid (HH.out.below hB1)
  have HB1 := Lib.hid hB1
  have n7 : w1.cell? ⟨M, 7, none⟩ = some (.int .i64 s.steps) := (hB1.cell (p := ⟨M, 7, none⟩) hlM).trans m7
  have s2 : w1.cell? ⟨w.heap.size + 1, 2, none⟩ = some (.slice oa s.outs.length oc) := by simp [World.cell?, hx1]
  have s4 : w1.cell? ⟨w.heap.size + 1, 4, none⟩ = some (.int .i64 0) := by simp [World.cell?, hx1]
  have z2 : w1.frozen? ⟨w.heap.size + 1, 2, none⟩ = false := by simp [World.frozen?, hx1]
  have z4 : w1.frozen? ⟨w.heap.size + 1, 4, none⟩ = false := by simp [World.frozen?, hx1]
  have l1 : w.heap.size + 1 < w1.heap.size := (Array.getElem?_eq_some_iff.1 hx1).1
  have lM1 : M < w1.heap.size := Nat.lt_of_lt_of_le hlM hB1.size
  have HX1 := Lib.hid hx1
  have HX0 := Lib.hid hx0
  have CN := Lib.hid (cloneN (.slice oa s.outs.length oc) s.outs.length (intsV s.outs) w1.drew (by have := Rd.of_own H1.out.hx.own; rwa [hxv] at this) (intsV_one _) (by omega))
  clear hw1 hB1 hx1 hx0 m7 m8 m9 m10 m11 m12 m13 m14
  go_cut [] (fun wx => ∃ va vc, Hid (wx.heap[w.heap.size + 1]? = some (.cells #[.int .u8 s.end_, .int .i64 s.exit, .slice va s.outs.length vc, .int .i64 s.read, .int .i64 s.steps, .int .i64 s.marks, .int .i64 s.at_] 43 (0, 0))) ∧ Hid (wx.heap[w.heap.size]? = some (.cells #[.int .u8 0, .int .i64 0, .slice none 0 0, .int .i64 0, .int .i64 0, .int .i64 0, .int .i64 0] 43 (0, 0))) ∧ Hid (wx.ownsRow w.heap.size 2 1 (.slice va s.outs.length vc) s.outs.length (intsV s.outs)) ∧ Hid (Below w.heap.size w wx))
  case first =>
    go_region_with (first
      | (go_at_call 34; refine CN.out.mono ?_; rintro e w5 ⟨q5, rfl, h5, b5⟩; obtain ⟨va, vc, rfl⟩ := (Rd.of_own h5).shape; have HO5 := Lib.hid h5; have HB5 := Lib.hid b5; have n7' : w5.cell? ⟨M, 7, none⟩ = some (.int .i64 s.steps) := (b5.cell (p := ⟨M, 7, none⟩) lM1).trans n7; have s2' : w5.cell? ⟨w.heap.size + 1, 2, none⟩ = some (.slice oa s.outs.length oc) := (b5.cell (p := ⟨w.heap.size + 1, 2, none⟩) l1).trans s2; have s4' : w5.cell? ⟨w.heap.size + 1, 4, none⟩ = some (.int .i64 0) := (b5.cell (p := ⟨w.heap.size + 1, 4, none⟩) l1).trans s4; have z2' : w5.frozen? ⟨w.heap.size + 1, 2, none⟩ = false := (World.frozen?_of_block (a := ⟨w.heap.size + 1, 2, none⟩) (b5.block _ l1)).trans z2; have z4' : w5.frozen? ⟨w.heap.size + 1, 4, none⟩ = false := (World.frozen?_of_block (a := ⟨w.heap.size + 1, 4, none⟩) (b5.block _ l1)).trans z4; clear h5 b5)
      | (go_at_call 43; refine (load_any M 7 s.steps _ n7').mono ?_; rintro e w6 ⟨rfl, rfl⟩)
      | (go_at_call 43; refine (load_any M 7 s.steps _ ((World.cell?_setCell_other _ ⟨w.heap.size + 1, 2, none⟩ ⟨M, 7, none⟩ _ (by simp; omega)).trans n7')).mono ?_; rintro e w6 ⟨rfl, hw6⟩; have HW6 := Lib.hid hw6; clear hw6)
      | (go_at_call 43; trace_state; fail))
    all_goals
      go_wp2_with fail
      go_meet
      have hx6 := (HB5.out.block _ l1).trans HX1.out
      have hx60 := (HB5.out.block w.heap.size (Nat.lt_of_succ_lt l1)).trans HX0.out
      have t1 := turn_set hx6 (.slice va s.outs.length vc) (i := 2)
      have t2 := t1.trans (turn_set t1.at_ (.int .i64 s.steps) (i := 4))
      have hb6 : Below w.heap.size w w6 := HB1.out.trans (((Below.refl w1.heap.size w1).drew.trans HB5.out).mono HB1.out.size)
      refine ⟨va, vc, t2.at_, (t2.block _ (Array.getElem?_eq_some_iff.1 hx60).1 (by omega)).trans hx60, ?_, t2.below hb6 (by omega) hb6.size⟩
      have ho := odown HO5.out (show w.heap.size ≤ w1.drew.heap.size from HB1.out.size)
      refine osame ho fun k hk => ?_
      obtain ⟨_, cur, hc⟩ := oblk ho k hk
      exact t2.block k (Array.getElem?_eq_some_iff.1 hc).1 (blk_ne hc hx6 (cells_ne (by decide)))
  case rest =>
    obtain ⟨va, vc, HXa, HXb, HOw, HBw⟩ := hcut
    have g0 : wc.cell? ⟨w.heap.size + 1, 0, none⟩ = some (.int .u8 s.end_) := by simp [World.cell?, HXa.out]
    have g1 : wc.cell? ⟨w.heap.size + 1, 1, none⟩ = some (.int .i64 s.exit) := by simp [World.cell?, HXa.out]
    have g2 : wc.cell? ⟨w.heap.size + 1, 2, none⟩ = some (.slice va s.outs.length vc) := by simp [World.cell?, HXa.out]
    have g3 : wc.cell? ⟨w.heap.size + 1, 3, none⟩ = some (.int .i64 s.read) := by simp [World.cell?, HXa.out]
    have g4 : wc.cell? ⟨w.heap.size + 1, 4, none⟩ = some (.int .i64 s.steps) := by simp [World.cell?, HXa.out]
    have g5 : wc.cell? ⟨w.heap.size + 1, 5, none⟩ = some (.int .i64 s.marks) := by simp [World.cell?, HXa.out]
    have g6 : wc.cell? ⟨w.heap.size + 1, 6, none⟩ = some (.int .i64 s.at_) := by simp [World.cell?, HXa.out]
    have r0' : wc.cell? ⟨w.heap.size, 0, none⟩ = some (.int .u8 0) := by simp [World.cell?, HXb.out]
    have r1' : wc.cell? ⟨w.heap.size, 1, none⟩ = some (.int .i64 0) := by simp [World.cell?, HXb.out]
    have r2' : wc.cell? ⟨w.heap.size, 2, none⟩ = some (.slice none 0 0) := by simp [World.cell?, HXb.out]
    have r3' : wc.cell? ⟨w.heap.size, 3, none⟩ = some (.int .i64 0) := by simp [World.cell?, HXb.out]
    have r4' : wc.cell? ⟨w.heap.size, 4, none⟩ = some (.int .i64 0) := by simp [World.cell?, HXb.out]
    have r5' : wc.cell? ⟨w.heap.size, 5, none⟩ = some (.int .i64 0) := by simp [World.cell?, HXb.out]
    have r6' : wc.cell? ⟨w.heap.size, 6, none⟩ = some (.int .i64 0) := by simp [World.cell?, HXb.out]
    have f0 : wc.frozen? ⟨w.heap.size, 0, none⟩ = false := by simp [World.frozen?, HXb.out]
    have f1 : wc.frozen? ⟨w.heap.size, 1, none⟩ = false := by simp [World.frozen?, HXb.out]
    have f2 : wc.frozen? ⟨w.heap.size, 2, none⟩ = false := by simp [World.frozen?, HXb.out]
    have f3 : wc.frozen? ⟨w.heap.size, 3, none⟩ = false := by simp [World.frozen?, HXb.out]
    have f4 : wc.frozen? ⟨w.heap.size, 4, none⟩ = false := by simp [World.frozen?, HXb.out]
    have f5 : wc.frozen? ⟨w.heap.size, 5, none⟩ = false := by simp [World.frozen?, HXb.out]
    have f6 : wc.frozen? ⟨w.heap.size, 6, none⟩ = false := by simp [World.frozen?, HXb.out]
    have HRB := Lib.hid HXb.out
    clear n7 s2 s4 z2 z4 HXa CN HX0 HX1 H1 HB1
    go_wp2_with fail
    have t1 := turn_set HRB.out (.int .u8 s.end_) (i := 0)
    have t2 := t1.trans (turn_set t1.at_ (.int .i64 s.exit) (i := 1))
    have t3 := t2.trans (turn_set t2.at_ (.slice va s.outs.length vc) (i := 2))
    have t4 := t3.trans (turn_set t3.at_ (.int .i64 s.read) (i := 3))
    have t5 := t4.trans (turn_set t4.at_ (.int .i64 s.steps) (i := 4))
    have t6 := t5.trans (turn_set t5.at_ (.int .i64 s.marks) (i := 5))
    have t7 := t6.trans (turn_set t6.at_ (.int .i64 s.at_) (i := 6))
    clear t1 t2 t3 t4 t5 t6
    have hT : Turn wc _ w.heap.size (.cells #[.int .u8 s.end_, .int .i64 s.exit, .slice va s.outs.length vc, .int .i64 s.read, .int .i64 s.steps, .int .i64 s.marks, .int .i64 s.at_] 43 (0, 0)) := t7
    clear t7
    generalize ((((((wc.setCell ⟨w.heap.size, 0, none⟩ (.int .u8 s.end_)).setCell ⟨w.heap.size, 1, none⟩ (.int .i64 s.exit)).setCell ⟨w.heap.size, 2, none⟩ (.slice va s.outs.length vc)).setCell ⟨w.heap.size, 3, none⟩ (.int .i64 s.read)).setCell ⟨w.heap.size, 4, none⟩ (.int .i64 s.steps)).setCell ⟨w.heap.size, 5, none⟩ (.int .i64 s.marks)).setCell ⟨w.heap.size, 6, none⟩ (.int .i64 s.at_) = W at hT ⊢
    have q0 : W.cell? ⟨w.heap.size, 0, none⟩ = some (.int .u8 s.end_) := by simp [World.cell?, hT.at_]
    have q1 : W.cell? ⟨w.heap.size, 1, none⟩ = some (.int .i64 s.exit) := by simp [World.cell?, hT.at_]
    have q2 : W.cell? ⟨w.heap.size, 2, none⟩ = some (.slice va s.outs.length vc) := by simp [World.cell?, hT.at_]
    have q3 : W.cell? ⟨w.heap.size, 3, none⟩ = some (.int .i64 s.read) := by simp [World.cell?, hT.at_]
    have q4 : W.cell? ⟨w.heap.size, 4, none⟩ = some (.int .i64 s.steps) := by simp [World.cell?, hT.at_]
    have q5 : W.cell? ⟨w.heap.size, 5, none⟩ = some (.int .i64 s.marks) := by simp [World.cell?, hT.at_]
    have q6 : W.cell? ⟨w.heap.size, 6, none⟩ = some (.int .i64 s.at_) := by simp [World.cell?, hT.at_]
    refine bodyPost_ret (v := .agg #[.int .u8 s.end_, .int .i64 s.exit, .slice va s.outs.length vc, .int .i64 s.read, .int .i64 s.steps, .int .i64 s.marks, .int .i64 s.at_]) ?_ rfl ⟨_, rfl, ?_, hT.below HBw.out (Nat.le_refl _) HBw.out.size⟩
    · simp [results, Try.results15, go_sem, q0, q1, q2, q3, q4, q5, q6]
    · refine osame HOw.out fun k hk => ?_
      obtain ⟨_, cur, hc⟩ := oblk HOw.out k hk
      exact hT.block k (Array.getElem?_eq_some_iff.1 hc).1 (blk_ne hc HRB.out (cells_ne (by decide)))
end Go.Proofs.Ytgjmdcbdkdmceaa.Mach

/- The program's machine: to the next mark. -/
namespace Go.Proofs.Ytgjmdcbdkdmceaa.Mach
open Go.RowKit

/-- Where the way to a mark, of at most k steps, is behind j of them. -/
def MMk (w : World) (t : Nat → Nat) (base M : Nat) (E : Env) (L k : Nat) (s : St) (j : Nat) (wr : World) : Prop :=
  ∃ sj t' V' cl', MRep wr t' base M E V' cl' sj ∧ Fx w wr t t' ∧ Sane E (L + j) sj ∧ markF E k s = markF E (k - j) sj
def MMkP (w : World) (t : Nat → Nat) (base M : Nat) (E : Env) (L k : Nat) (s : St) (w' : World) : Prop :=
  ∃ t' V' cl', MRep w' t' base M E V' cl' (markF E k s).2 ∧ Fx w w' t t' ∧ Sane E (L + k) (markF E k s).2
theorem mmarkF_step {E : Env} {k : Nat} {s : St} (h : s.end_ = 0) : markF E (k + 1) s = if (stepF E s).2 == 44 then (true, (stepF E s).1) else markF E k (stepF E s).1 := by
  have h1 : (s.end_ == 0) = true := by simp [h]
  show (if _ then _ else _) = _
  rw [h1, if_pos rfl]
theorem mmarkF_stop {E : Env} {k : Nat} {s : St} (h : s.end_ ≠ 0) : markF E k s = (false, s) := by
  cases k with
  | zero => rfl
  | succ k =>
    have h1 : (s.end_ == 0) = false := by simpa using h
    show (if _ then _ else _) = _
    rw [h1]; rfl
set_option maxHeartbeats 1000000 in
theorem mtomark_any (w : World) (t : Nat → Nat) (base M : Nat) (E : Env) (V : MV) (cl : List (Fr × FV)) (s : St) (h : MRep w t base M E V cl s) (hE : EnvOk E) (L : Nat) (hs : Sane E L s) (k : Nat) (hk : L + k ≤ 1000000) :
    Calls Try.prog 14 #[.pointer (some ⟨M, 0, none⟩), .int .i64 k] w fun e w' => e = .returned (.bool (markF E k s).1) ∧ MMkP w t base M E L k s w' := by
  have HS : Hid (MMk w t base M E L k s 0 w) := ⟨s, t, V, cl, h, Fx.refl w t, hs, by simp⟩
  clear h hs
  go_enter Try.func14, Try.ntmps14
  go_wp2_with fail
  go_loopw [5] (fun n wr => ∃ j : Nat, j ≤ k ∧ n = .int .i64 j ∧ Hid (MMk w t base M E L k s j wr)) (fun n _ => k - (intOf n).toNat)
  case atStart => exact ⟨0, Nat.zero_le _, rfl, HS⟩
  case round =>
    obtain ⟨wa, rfl⟩ : ∃ wa : World, wa = wr := ⟨_, rfl⟩
    obtain ⟨j, hj, rfl, HJ⟩ := hrel
    obtain ⟨sj, tj, Vj, clj, R0, F0, S0, E0⟩ := HJ.out
    have RJ := Lib.hid R0
    have FJ := Lib.hid F0
    have SJ := Lib.hid S0
    have EJ := Lib.hid E0
    clear R0 F0 S0 E0 HJ HS
    have m8 : wa.cell? ⟨M, 8, none⟩ = some (.int .u8 sj.end_) := (RJ.out.cellM 8).trans (mC_get Vj sj).2.2.2.2.2.2.1
    by_cases hjk : j < k
    · have hjk' : (j : Int) < (k : Int) := by omega
      by_cases h0 : sj.end_ = 0
      · have hb : (sj.end_ == 0) = true := by rw [h0]; rfl
        have H0 := Lib.hid h0
        clear h0
        go_wp2_with fail
        refine (mstep_any wa tj base M E Vj clj sj RJ.out hE (L + j) SJ.out (by omega) H0.out).mono ?_
        rintro e w2 ⟨rfl, t2, V2, cl2, R2, F2⟩
        have HR2 := Lib.hid R2
        have HF2 := Lib.hid F2
        clear R2 F2
        have e1 : k - j = (k - (j + 1)) + 1 := by omega
        have HE1 := Lib.hid e1
        clear e1
        by_cases h44 : (stepF E sj).2 = 44
        · have hq : ((stepF E sj).2 == 44) = true := by rw [h44]; rfl
          have HQ := Lib.hid hq
          clear h44
          go_wp2_with fail
          go_ret
          refine ⟨?_, t2, V2, cl2, ?_, FJ.out.trans HF2.out, ?_⟩
          · rw [EJ.out, HE1.out, mmarkF_step H0.out, HQ.out]; rfl
          · rw [EJ.out, HE1.out, mmarkF_step H0.out, HQ.out]; exact HR2.out
          · rw [EJ.out, HE1.out, mmarkF_step H0.out, HQ.out]; exact (stepF_good hE SJ.out H0.out).more (by omega)
        · have hq : ((stepF E sj).2 == 44) = false := by simpa using h44
          have HQ := Lib.hid hq
          clear h44
          go_wp2_with fail
          go_roundw
          case rel =>
            refine ⟨j + 1, by omega, by simp, (stepF E sj).1, t2, V2, cl2, HR2.out, FJ.out.trans HF2.out, stepF_good hE SJ.out H0.out, ?_⟩
            rw [EJ.out, HE1.out, mmarkF_step H0.out, HQ.out]; rfl
          case measure => simp [intOf]; omega
      · have hb : (sj.end_ == 0) = false := by simpa using h0
        have H0 := Lib.hid h0
        clear h0
        go_wp2_with fail
        go_ret
        refine ⟨?_, tj, Vj, clj, ?_, FJ.out, ?_⟩
        · rw [EJ.out, mmarkF_stop H0.out]; rfl
        · rw [EJ.out, mmarkF_stop H0.out]; exact RJ.out
        · rw [EJ.out, mmarkF_stop H0.out]; exact SJ.out.more (by omega)
    · have hjk' : ¬ ((j : Int) < (k : Int)) := by omega
      have e0 : k - j = 0 := by omega
      have e1 : j = k := by omega
      have HE0 := Lib.hid e0
      have HE1 := Lib.hid e1
      clear e0 e1 hjk
      go_wp2_with fail
      go_ret
      refine ⟨?_, tj, Vj, clj, ?_, FJ.out, ?_⟩
      · rw [EJ.out, HE0.out]; rfl
      · rw [EJ.out, HE0.out]; exact RJ.out
      · rw [EJ.out, HE0.out]; exact SJ.out.more (by omega)
end Go.Proofs.Ytgjmdcbdkdmceaa.Mach

/- A machine, bundled: what holds of it, and what its calls leave. -/
namespace Go.Proofs.Ytgjmdcbdkdmceaa.Mach
open Go.RowKit

/-- A machine in memory. -/
def MAt (w : World) (t : Nat → Nat) (M : Nat) (E : Env) (L : Nat) (s : St) : Prop := ∃ base V cl, MRep w t base M E V cl s ∧ Sane E L s
theorem MAt.below {w w' : World} {t : Nat → Nat} {M : Nat} {E : Env} {L : Nat} {s : St} (h : MAt w t M E L s) (hb : Below w.heap.size w w') : MAt w' t M E L s := by
  obtain ⟨base, V, cl, h1, h2⟩ := h
  exact ⟨base, V, cl, h1.below hb, h2⟩
theorem MAt.other {w w' : World} {tm tm' t : Nat → Nat} {M : Nat} {E : Env} {L : Nat} {s : St} (h : MAt w t M E L s) (hf : Fx w w' tm tm') (hd : Apart t tm) : MAt w' t M E L s ∧ Apart t tm' := by
  obtain ⟨base, V, cl, h1, h2⟩ := h
  exact ⟨⟨base, V, cl, (h1.other hf hd).1, h2⟩, (h1.other hf hd).2⟩
/-- What a run leaves: the machine, its steps on; all else. -/
def MRan (w : World) (t : Nat → Nat) (M : Nat) (E : Env) (L : Nat) (s : St) (w' : World) : Prop := ∃ t', MAt w' t' M E L s ∧ Fx w w' t t'
theorem MAt.run {w : World} {t : Nat → Nat} {M : Nat} {E : Env} {L : Nat} {s : St} (h : MAt w t M E L s) (hE : EnvOk E) (k : Nat) (hk : L + k ≤ 1000000) :
    Calls Try.prog 16 #[.pointer (some ⟨M, 0, none⟩), .int .i64 k] w fun e w' => e = .returned (.int .i64 (runF E k s).1) ∧ MRan w t M E (L + k) (runF E k s).2 w' := by
  obtain ⟨base, V, cl, h1, h2⟩ := h
  refine (mrun_any w t base M E V cl s h1 hE L h2 k hk).mono ?_
  rintro e w' ⟨rfl, t', V', cl', h3, h4, h5⟩
  exact ⟨rfl, t', ⟨base, V', cl', h3, h5⟩, h4⟩
theorem MAt.toMark {w : World} {t : Nat → Nat} {M : Nat} {E : Env} {L : Nat} {s : St} (h : MAt w t M E L s) (hE : EnvOk E) (k : Nat) (hk : L + k ≤ 1000000) :
    Calls Try.prog 14 #[.pointer (some ⟨M, 0, none⟩), .int .i64 k] w fun e w' => e = .returned (.bool (markF E k s).1) ∧ MRan w t M E (L + k) (markF E k s).2 w' := by
  obtain ⟨base, V, cl, h1, h2⟩ := h
  refine (mtomark_any w t base M E V cl s h1 hE L h2 k hk).mono ?_
  rintro e w' ⟨rfl, t', V', cl', h3, h4, h5⟩
  exact ⟨rfl, t', ⟨base, V', cl', h3, h5⟩, h4⟩
theorem MAt.save {w : World} {t : Nat → Nat} {M : Nat} {E : Env} {L : Nat} {s : St} (h : MAt w t M E L s) (hE : EnvOk E) (hL : L ≤ 1000000) :
    Calls Try.prog 18 #[.pointer (some ⟨M, 0, none⟩)] w fun e w' => SaveP w (saveB s) e w' := by
  obtain ⟨base, V, cl, h1, h2⟩ := h
  exact msave_any w t base M E V cl s h1 L h2 hL hE
theorem MAt.status {w : World} {t : Nat → Nat} {M : Nat} {E : Env} {L : Nat} {s : St} (h : MAt w t M E L s) (hL : L ≤ 1000000) :
    Calls Try.prog 15 #[.pointer (some ⟨M, 0, none⟩)] w fun e w' => MStat w s e w' := by
  obtain ⟨base, V, cl, h1, h2⟩ := h
  exact mstatus_any w t base M E V cl s h1 (Nat.le_trans h2.xl hL)
/-- Below what there was at first, through a machine's run. -/
theorem Below.ran {w0 w w' : World} {t t' : Nat → Nat} {b : Nat} (h : Below b w0 w) (hf : Fx w w' t t') (hb : b ≤ w.heap.size) (ht : ∀ k, k < b → t k ≤ 2) : Below b w0 w' :=
  h.trans ⟨hf.os, hf.tape, hf.output, hf.size, fun k hk => hf.stay k (by omega) (ht k hk)⟩
theorem Fx.low {w w' : World} {t t' : Nat → Nat} {b : Nat} (hf : Fx w w' t t') (hb : b ≤ w.heap.size) (ht : ∀ k, k < b → t k = 0) : ∀ k, k < b → t' k = 0 := fun k hk => ((hf.keep k (by omega)).1 (by rw [ht k hk]; omega)).trans (ht k hk)
end Go.Proofs.Ytgjmdcbdkdmceaa.Mach
