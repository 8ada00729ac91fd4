/- The program's machine: to the next mark. -/
import Derived.Test.YteeapfgjjankeaaQHn
namespace Go.Proofs.Yteeapfgjjankeaa.Mach
open Go.RowKit

/-- Where the way to a mark, of at most k steps, is behind j of them. -/
def MMk (w : World) (t : Nat → Nat) (base M : Nat) (E : Env) (L k : Nat) (s : St) (j : Nat) (wr : World) : Prop :=
  ∃ sj t' V' cl', MRep wr t' base M E V' cl' sj ∧ Fx w wr t t' ∧ Sane E (L + j) sj ∧ markF E k s = markF E (k - j) sj
def MMkP (w : World) (t : Nat → Nat) (base M : Nat) (E : Env) (L k : Nat) (s : St) (w' : World) : Prop :=
  ∃ t' V' cl', MRep w' t' base M E V' cl' (markF E k s).2 ∧ Fx w w' t t' ∧ Sane E (L + k) (markF E k s).2
theorem mmarkF_step {E : Env} {k : Nat} {s : St} (h : s.end_ = 0) : markF E (k + 1) s = if (stepF E s).2 == 44 then (true, (stepF E s).1) else markF E k (stepF E s).1 := by
  have h1 : (s.end_ == 0) = true := by simp [h]
  show (if _ then _ else _) = _
  rw [h1, if_pos rfl]
theorem mmarkF_stop {E : Env} {k : Nat} {s : St} (h : s.end_ ≠ 0) : markF E k s = (false, s) := by
  cases k with
  | zero => rfl
  | succ k =>
    have h1 : (s.end_ == 0) = false := by simpa using h
    show (if _ then _ else _) = _
    rw [h1]; rfl
set_option maxHeartbeats 1000000 in
theorem mtomark_any (w : World) (t : Nat → Nat) (base M : Nat) (E : Env) (V : MV) (cl : List (Fr × FV)) (s : St) (h : MRep w t base M E V cl s) (hE : EnvOk E) (L : Nat) (hs : Sane E L s) (k : Nat) (hk : L + k ≤ 1000000) :
    Calls Try.prog 16 #[.pointer (some ⟨M, 0, none⟩), .int .i64 k] w fun e w' => e = .returned (.bool (markF E k s).1) ∧ MMkP w t base M E L k s w' := by
  have HS : Hid (MMk w t base M E L k s 0 w) := ⟨s, t, V, cl, h, Fx.refl w t, hs, by simp⟩
  clear h hs
  go_enter Try.func16, Try.ntmps16
  go_wp2_with fail
  go_loopw [5] (fun n wr => ∃ j : Nat, j ≤ k ∧ n = .int .i64 j ∧ Hid (MMk w t base M E L k s j wr)) (fun n _ => k - (intOf n).toNat)
  case atStart => exact ⟨0, Nat.zero_le _, rfl, HS⟩
  case round =>
    obtain ⟨wa, rfl⟩ : ∃ wa : World, wa = wr := ⟨_, rfl⟩
    obtain ⟨j, hj, rfl, HJ⟩ := hrel
    obtain ⟨sj, tj, Vj, clj, R0, F0, S0, E0⟩ := HJ.out
    have RJ := Lib.hid R0
    have FJ := Lib.hid F0
    have SJ := Lib.hid S0
    have EJ := Lib.hid E0
    clear R0 F0 S0 E0 HJ HS
    have m8 : wa.cell? ⟨M, 8, none⟩ = some (.int .u8 sj.end_) := (RJ.out.cellM 8).trans (mC_get Vj sj).2.2.2.2.2.2.1
    by_cases hjk : j < k
    · have hjk' : (j : Int) < (k : Int) := by omega
      by_cases h0 : sj.end_ = 0
      · have hb : (sj.end_ == 0) = true := by rw [h0]; rfl
        have H0 := Lib.hid h0
        clear h0
        go_wp2_with fail
        refine (mstep_any wa tj base M E Vj clj sj RJ.out hE (L + j) SJ.out (by omega) H0.out).mono ?_
        rintro e w2 ⟨rfl, t2, V2, cl2, R2, F2⟩
        have HR2 := Lib.hid R2
        have HF2 := Lib.hid F2
        clear R2 F2
        have e1 : k - j = (k - (j + 1)) + 1 := by omega
        have HE1 := Lib.hid e1
        clear e1
        by_cases h44 : (stepF E sj).2 = 44
        · have hq : ((stepF E sj).2 == 44) = true := by rw [h44]; rfl
          have HQ := Lib.hid hq
          clear h44
          go_wp2_with fail
          go_ret
          refine ⟨?_, t2, V2, cl2, ?_, FJ.out.trans HF2.out, ?_⟩
          · rw [EJ.out, HE1.out, mmarkF_step H0.out, HQ.out]; rfl
          · rw [EJ.out, HE1.out, mmarkF_step H0.out, HQ.out]; exact HR2.out
          · rw [EJ.out, HE1.out, mmarkF_step H0.out, HQ.out]; exact (stepF_good hE SJ.out H0.out).more (by omega)
        · have hq : ((stepF E sj).2 == 44) = false := by simpa using h44
          have HQ := Lib.hid hq
          clear h44
          go_wp2_with fail
          go_roundw
          case rel =>
            refine ⟨j + 1, by omega, by simp, (stepF E sj).1, t2, V2, cl2, HR2.out, FJ.out.trans HF2.out, stepF_good hE SJ.out H0.out, ?_⟩
            rw [EJ.out, HE1.out, mmarkF_step H0.out, HQ.out]; rfl
          case measure => simp [intOf]; omega
      · have hb : (sj.end_ == 0) = false := by simpa using h0
        have H0 := Lib.hid h0
        clear h0
        go_wp2_with fail
        go_ret
        refine ⟨?_, tj, Vj, clj, ?_, FJ.out, ?_⟩
        · rw [EJ.out, mmarkF_stop H0.out]; rfl
        · rw [EJ.out, mmarkF_stop H0.out]; exact RJ.out
        · rw [EJ.out, mmarkF_stop H0.out]; exact SJ.out.more (by omega)
    · have hjk' : ¬ ((j : Int) < (k : Int)) := by omega
      have e0 : k - j = 0 := by omega
      have e1 : j = k := by omega
      have HE0 := Lib.hid e0
      have HE1 := Lib.hid e1
      clear e0 e1 hjk
      go_wp2_with fail
      go_ret
      refine ⟨?_, tj, Vj, clj, ?_, FJ.out, ?_⟩
      · rw [EJ.out, HE0.out]; rfl
      · rw [EJ.out, HE0.out]; exact RJ.out
      · rw [EJ.out, HE0.out]; exact SJ.out.more (by omega)
end Go.Proofs.Yteeapfgjjankeaa.Mach
