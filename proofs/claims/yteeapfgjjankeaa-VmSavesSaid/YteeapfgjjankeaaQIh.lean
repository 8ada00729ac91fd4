/- The program's machine: saved; run. -/
import Derived.Test.YteeapfgjjankeaaQIg
import Derived.Test.YteeapfgjjankeaaQHn
namespace Go.Proofs.Yteeapfgjjankeaa.Mach
open Go.RowKit

/-- Bytes of the call's own. -/
def SaveP (w : World) (bs : List Int) (e : Ending) (w' : World) : Prop := ∃ pv, e = .returned pv ∧ Below w.heap.size w w' ∧ w'.ownsRow w.heap.size 5 1 pv bs.length (bytesV bs)
set_option maxRecDepth 100000 in
theorem msave_any (w : World) (t : Nat → Nat) (mb M : Nat) (E : Env) (V : MV) (cl : List (Fr × FV)) (s : St) (hm : MRep w t mb M E V cl s) (L : Nat) (hs : Sane E L s) (hL : L ≤ 1000000) (hE : EnvOk E) :
    Calls Try.prog 14 #[.pointer (some ⟨M, 0, none⟩)] w fun e w' => SaveP w (saveB s) e w' := by
  have HM := Lib.hid hm
  have HS := Lib.hid hs
  clear hm hs
  go_enter Try.func14, Try.ntmps14
  go_wp2_with fail
  obtain ⟨w1, hw1⟩ : ∃ w1, w1 = w.alloc (.cells #[.slice none 0 0, .bool false, .bool false] 79) := ⟨_, rfl⟩
  rw [← hw1]
  have hb1 : Below w.heap.size w w1 := by rw [hw1]; exact (Below.refl _ _).alloc (Nat.le_refl _) _
  have hc1 : w1.heap[w.heap.size]? = some (.cells #[.slice none 0 0, .bool false, .bool false] 79 (0, 0)) := by rw [hw1]; exact heap_alloc_new _ _
  have HT1 : Hid (TapW w w.heap.size w.heap.size [] w1) := ⟨⟨_, hc1, by simpa [bytesV] using World.ownsRow_nil _ _ _ _⟩, hb1, Nat.le_refl _⟩
  have HM1 := Lib.hid (HM.out.below hb1)
  clear hb1 hc1 hw1
  refine (tall_w w w1 w.heap.size w.heap.size HT1.out t mb M E V cl s HM1.out L HS.out hL hE).mono ?_
  rintro e w2 ⟨rfl, hT2, -⟩
  obtain ⟨pv, hp, ho⟩ := hT2.ht
  have c0 : w2.cell? ⟨w.heap.size, 0, none⟩ = some pv := by simp [World.cell?, hp]
  have HO := Lib.hid ho
  have HB := Lib.hid hT2.bel
  clear hT2 hp ho
  go_wp2_with fail
  refine bodyPost_ret (v := pv) ?_ rfl ⟨pv, rfl, HB.out, HO.out⟩
  simp [results, Try.results14, go_sem]
/-- Where a run of k steps is behind j of them. -/
def MRun (w : World) (t : Nat → Nat) (base M : Nat) (E : Env) (L k : Nat) (s : St) (j : Nat) (wr : World) : Prop :=
  ∃ sj t' V' cl', MRep wr t' base M E V' cl' sj ∧ Fx w wr t t' ∧ Sane E (L + j) sj ∧ runF E k s = (j + (runF E (k - j) sj).1, (runF E (k - j) sj).2)
def MRunP (w : World) (t : Nat → Nat) (base M : Nat) (E : Env) (L k : Nat) (s : St) (w' : World) : Prop :=
  ∃ t' V' cl', MRep w' t' base M E V' cl' (runF E k s).2 ∧ Fx w w' t t' ∧ Sane E (L + k) (runF E k s).2
theorem mrunF_step {E : Env} {k : Nat} {s : St} (h : s.end_ = 0) : runF E (k + 1) s = ((runF E k (stepF E s).1).1 + 1, (runF E k (stepF E s).1).2) := by
  have h1 : (s.end_ == 0) = true := by simp [h]
  show (if _ then _ else _) = _
  rw [h1, if_pos rfl]
theorem mrunF_stop {E : Env} {k : Nat} {s : St} (h : s.end_ ≠ 0) : runF E k s = (0, s) := by
  cases k with
  | zero => rfl
  | succ k =>
    have h1 : (s.end_ == 0) = false := by simpa using h
    show (if _ then _ else _) = _
    rw [h1]; rfl
set_option maxHeartbeats 1000000 in
theorem mrun_any (w : World) (t : Nat → Nat) (base M : Nat) (E : Env) (V : MV) (cl : List (Fr × FV)) (s : St) (h : MRep w t base M E V cl s) (hE : EnvOk E) (L : Nat) (hs : Sane E L s) (k : Nat) (hk : L + k ≤ 1000000) :
    Calls Try.prog 12 #[.pointer (some ⟨M, 0, none⟩), .int .i64 k] w fun e w' => e = .returned (.int .i64 (runF E k s).1) ∧ MRunP w t base M E L k s w' := by
  have HS : Hid (MRun w t base M E L k s 0 w) := ⟨s, t, V, cl, h, Fx.refl w t, hs, by simp⟩
  clear h hs
  go_enter Try.func12, Try.ntmps12
  go_wp2_with fail
  go_loopw [5] (fun n wr => ∃ j : Nat, j ≤ k ∧ n = .int .i64 j ∧ Hid (MRun w t base M E L k s j wr)) (fun n _ => k - (intOf n).toNat)
  case atStart => exact ⟨0, Nat.zero_le _, rfl, HS⟩
  case round =>
    obtain ⟨wa, rfl⟩ : ∃ wa : World, wa = wr := ⟨_, rfl⟩
    obtain ⟨j, hj, rfl, HJ⟩ := hrel
    obtain ⟨sj, tj, Vj, clj, R0, F0, S0, E0⟩ := HJ.out
    have RJ := Lib.hid R0
    have FJ := Lib.hid F0
    have SJ := Lib.hid S0
    have EJ := Lib.hid E0
    clear R0 F0 S0 E0 HJ HS
    have m8 : wa.cell? ⟨M, 8, none⟩ = some (.int .u8 sj.end_) := (RJ.out.cellM 8).trans (mC_get Vj sj).2.2.2.2.2.2.1
    by_cases hjk : j < k
    · have hjk' : (j : Int) < (k : Int) := by omega
      by_cases h0 : sj.end_ = 0
      · have hb : (sj.end_ == 0) = true := by rw [h0]; rfl
        have H0 := Lib.hid h0
        clear h0
        go_wp2_with fail
        refine (mstep_any wa tj base M E Vj clj sj RJ.out hE (L + j) SJ.out (by omega) H0.out).mono ?_
        rintro e w2 ⟨rfl, t2, V2, cl2, R2, F2⟩
        have HR2 := Lib.hid R2
        have HF2 := Lib.hid F2
        clear R2 F2
        go_wp2_with fail
        go_roundw
        case rel =>
          refine ⟨j + 1, by omega, by simp, (stepF E sj).1, t2, V2, cl2, HR2.out, FJ.out.trans HF2.out, stepF_good hE SJ.out H0.out, ?_⟩
          have e1 : k - j = (k - (j + 1)) + 1 := by omega
          rw [EJ.out, e1, mrunF_step H0.out]
          simp only [Prod.mk.injEq, and_true]
          omega
        case measure => simp [intOf]; omega
      · have hb : (sj.end_ == 0) = false := by simpa using h0
        have H0 := Lib.hid h0
        clear h0
        go_wp2_with fail
        go_ret
        refine ⟨?_, tj, Vj, clj, ?_, FJ.out, ?_⟩
        · rw [EJ.out, mrunF_stop H0.out]; rfl
        · rw [EJ.out, mrunF_stop H0.out]; exact RJ.out
        · rw [EJ.out, mrunF_stop H0.out]; exact SJ.out.more (by omega)
    · have hjk' : ¬ ((j : Int) < (k : Int)) := by omega
      have e0 : k - j = 0 := by omega
      have e1 : j = k := by omega
      have HE0 := Lib.hid e0
      have HE1 := Lib.hid e1
      clear e0 e1 hjk
      go_wp2_with fail
      go_ret
      refine ⟨?_, tj, Vj, clj, ?_, FJ.out, ?_⟩
      · rw [EJ.out, HE0.out]; rfl
      · rw [EJ.out, HE0.out]; exact RJ.out
      · rw [EJ.out, HE0.out]; exact SJ.out.more (by omega)
end Go.Proofs.Yteeapfgjjankeaa.Mach
