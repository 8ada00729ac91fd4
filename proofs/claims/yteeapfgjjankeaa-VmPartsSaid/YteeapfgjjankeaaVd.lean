/- Vm: the example's four steps. -/
import Derived.Test.YteeapfgjjankeaaVc
import Derived.Test.YteeapfgjjankeaaVp
namespace Go.Proofs.Yteeapfgjjankeaa
open Go.RowKit

section
variable {w0 w : World} {base M F OB : Nat} {wv ev dv iv hv outs sl : Value} {xs : List Int} {steps exit marks at_ r0 : Int}
theorem step0 (h : MS w0 base M F OB (mC wv ev dv iv hv OB 1 steps 0 exit outs marks at_) (fC 0 r0 sl) wv ev outs xs w) (h0 : 0 ≤ steps) (h1 : steps ≤ 1000) :
    Calls Try.prog 29 #[.pointer (some ⟨M, 0, none⟩)] w fun e w' => e = .returned (.int .u8 30) ∧ MS w0 base M F OB (mC wv ev dv iv hv OB 1 (steps + 1) 0 exit outs marks 0) (fC 1 7 sl) wv ev outs xs w' := by
  refine step_any w0 w base M F OB wv ev dv iv hv outs sl xs steps exit marks at_ r0 0 30 7 (fun w' => MS w0 base M F OB (mC wv ev dv iv hv OB 1 (steps + 1) 0 exit outs marks 0) (fC 1 7 sl) wv ev outs xs w') h (by omega) h0 h1 rfl rfl rfl rfl rfl (by decide) fun V hV => ?_
  refine (do_num M F _ r0 7 V hV.hf (by simp [World.cell?, hV.hf, fC])).mono ?_
  rintro e w' ⟨rfl, hT⟩
  exact ⟨rfl, hV.turnF hT, hT.kw hV.hf (by decide)⟩
theorem step1 (h : MS w0 base M F OB (mC wv ev dv iv hv OB 1 steps 0 exit outs marks at_) (fC 1 r0 sl) wv ev outs xs w) (h0 : 0 ≤ steps) (h1 : steps ≤ 1000) (hl : xs.length ≤ 100) :
    Calls Try.prog 29 #[.pointer (some ⟨M, 0, none⟩)] w fun e w' => e = .returned (.int .u8 42) ∧ ∃ v', MS w0 base M F OB (mC wv ev dv iv hv OB 1 (steps + 1) 0 exit v' marks 1) (fC 2 r0 sl) wv ev v' (xs ++ [r0]) w' := by
  refine step_any w0 w base M F OB wv ev dv iv hv outs sl xs steps exit marks at_ r0 1 42 0 (fun w' => ∃ v', MS w0 base M F OB (mC wv ev dv iv hv OB 1 (steps + 1) 0 exit v' marks 1) (fC 2 r0 sl) wv ev v' (xs ++ [r0]) w') h (by omega) h0 h1 rfl rfl rfl rfl rfl (by decide) fun V hV => ?_
  refine (do_print w0 V base M F OB _ _ wv ev outs xs r0 hV hl (by simp [World.cell?, hV.hm, mC]) (by simp [World.cell?, hV.hf, fC])).mono ?_
  rintro e w' ⟨rfl, v', hM, hK⟩
  exact ⟨rfl, ⟨v', hM⟩, hK⟩
theorem step2 (h : MS w0 base M F OB (mC wv ev dv iv hv OB 1 steps 0 exit outs marks at_) (fC 2 r0 sl) wv ev outs xs w) (h0 : 0 ≤ steps) (h1 : steps ≤ 1000) (m0 : 0 ≤ marks) (m1 : marks ≤ 1000) :
    Calls Try.prog 29 #[.pointer (some ⟨M, 0, none⟩)] w fun e w' => e = .returned (.int .u8 44) ∧ MS w0 base M F OB (mC wv ev dv iv hv OB 1 (steps + 1) 0 exit outs (marks + 1) 2) (fC 3 r0 sl) wv ev outs xs w' := by
  refine step_any w0 w base M F OB wv ev dv iv hv outs sl xs steps exit marks at_ r0 2 44 0 (fun w' => MS w0 base M F OB (mC wv ev dv iv hv OB 1 (steps + 1) 0 exit outs (marks + 1) 2) (fC 3 r0 sl) wv ev outs xs w') h (by omega) h0 h1 rfl rfl rfl rfl rfl (by decide) fun V hV => ?_
  refine (do_mark M F _ marks V hV.hm (by simp [World.cell?, hV.hm, mC]) m0 (by omega)).mono ?_
  rintro e w' ⟨rfl, hT⟩
  exact ⟨rfl, hV.turnM hT, hT.kw hV.hm (by decide)⟩
theorem step3 (h : MS w0 base M F OB (mC wv ev dv iv hv OB 1 steps 0 exit outs marks at_) (fC 3 r0 sl) wv ev outs xs w) (h0 : 0 ≤ steps) (h1 : steps ≤ 1000) :
    Calls Try.prog 29 #[.pointer (some ⟨M, 0, none⟩)] w fun e w' => e = .returned (.int .u8 47) ∧ MS w0 base M F OB (mC wv ev dv iv hv OB 0 (steps + 1) 1 r0 outs marks 3) (fC 4 r0 sl) wv ev outs xs w' := by
  refine step_any w0 w base M F OB wv ev dv iv hv outs sl xs steps exit marks at_ r0 3 47 0 (fun w' => MS w0 base M F OB (mC wv ev dv iv hv OB 0 (steps + 1) 1 r0 outs marks 3) (fC 4 r0 sl) wv ev outs xs w') h (by omega) h0 h1 rfl rfl rfl rfl rfl (by decide) fun V hV => ?_
  refine (do_ret M F OB _ _ r0 0 exit 0 V hV.hm hV.ho hV.hf (by simp [World.cell?, hV.hm, mC]) (by simp [World.cell?, hV.hm, mC]) (by simp [World.cell?, hV.hm, mC]) (by simp [World.cell?, hV.hf, fC]) (by simp [World.cell?, hV.hf, fC])).mono ?_
  rintro e w' ⟨rfl, hT⟩
  exact ⟨rfl, hV.turnM hT, hT.kw hV.hm (by decide)⟩

set_option maxHeartbeats 4000000 in
/-- Two steps of a machine that stands at its beginning. -/
theorem run2 (h : MS w0 base M F OB (mC wv ev dv iv hv OB 1 0 0 0 (.slice none 0 0) 0 0) (fC 0 0 sl) wv ev (.slice none 0 0) [] w) :
    Calls Try.prog 12 #[.pointer (some ⟨M, 0, none⟩), .int .i64 2] w fun e w' => e = .returned (.int .i64 2) ∧ ∃ v', MS w0 base M F OB (mC wv ev dv iv hv OB 1 2 0 0 v' 0 1) (fC 2 7 sl) wv ev v' [7] w' := by
  have HH := Lib.hid h
  have m8 : w.cell? ⟨M, 8, none⟩ = some (.int .u8 0) := by simp [World.cell?, h.hm, mC]
  clear h
  go_enter Try.func12, Try.ntmps12
  go_wp2_with fail
  go_loopw [5] (fun n wr => (n = .int .i64 0 ∧ Hid (MS w0 base M F OB (mC wv ev dv iv hv OB 1 0 0 0 (.slice none 0 0) 0 0) (fC 0 0 sl) wv ev (.slice none 0 0) [] wr)) ∨ (n = .int .i64 1 ∧ Hid (MS w0 base M F OB (mC wv ev dv iv hv OB 1 1 0 0 (.slice none 0 0) 0 0) (fC 1 7 sl) wv ev (.slice none 0 0) [] wr)) ∨ (n = .int .i64 2 ∧ Hid (∃ v', MS w0 base M F OB (mC wv ev dv iv hv OB 1 2 0 0 v' 0 1) (fC 2 7 sl) wv ev v' [7] wr))) (fun n _ => 3 - (intOf n).toNat)
  case atStart => exact .inl ⟨rfl, HH⟩
  case round =>
    obtain ⟨wa, rfl⟩ : ∃ wa : World, wa = wr := ⟨_, rfl⟩
    rcases hrel with ⟨rfl, H⟩ | ⟨rfl, H⟩ | ⟨rfl, H⟩
    · have m8 : wa.cell? ⟨M, 8, none⟩ = some (.int .u8 0) := by simp [World.cell?, H.out.hm, mC]
      go_wp2_with fail
      refine (step0 H.out (by omega) (by omega)).mono ?_
      rintro e w1 ⟨rfl, h1⟩
      have H1 := Lib.hid h1
      clear h1 m8
      go_wp2_with fail
      exact ⟨.inr (.inl ⟨rfl, H1⟩), by decide⟩
    · have m8 : wa.cell? ⟨M, 8, none⟩ = some (.int .u8 0) := by simp [World.cell?, H.out.hm, mC]
      go_wp2_with fail
      refine (step1 H.out (by omega) (by omega) (by simp)).mono ?_
      rintro e w1 ⟨rfl, h1⟩
      have H1 := Lib.hid h1
      clear h1 m8
      go_wp2_with fail
      exact ⟨.inr (.inr ⟨rfl, H1⟩), by decide⟩
    · go_wp2_with fail
      go_ret
      exact ⟨rfl, H.out⟩

set_option maxHeartbeats 4000000 in
theorem tomark9 (h : MS w0 base M F OB (mC wv ev dv iv hv OB 1 2 0 0 outs 0 1) (fC 2 7 sl) wv ev outs xs w) :
    Calls Try.prog 16 #[.pointer (some ⟨M, 0, none⟩), .int .i64 9] w fun e w' => e = .returned (.bool true) ∧ MS w0 base M F OB (mC wv ev dv iv hv OB 1 3 0 0 outs 1 2) (fC 3 7 sl) wv ev outs xs w' := by
  have HH := Lib.hid h
  clear h
  go_enter Try.func16, Try.ntmps16
  go_wp2_with fail
  go_loopw [5] (fun n wr => n = .int .i64 0 ∧ Hid (MS w0 base M F OB (mC wv ev dv iv hv OB 1 2 0 0 outs 0 1) (fC 2 7 sl) wv ev outs xs wr)) (fun _ _ => 0)
  case atStart => exact ⟨rfl, HH⟩
  case round =>
    obtain ⟨wa, rfl⟩ : ∃ wa : World, wa = wr := ⟨_, rfl⟩
    obtain ⟨rfl, H⟩ := hrel
    have m8 : wa.cell? ⟨M, 8, none⟩ = some (.int .u8 0) := by simp [World.cell?, H.out.hm, mC]
    go_wp2_with fail
    refine (step2 H.out (by omega) (by omega) (by omega) (by omega)).mono ?_
    rintro e w1 ⟨rfl, h1⟩
    have H1 := Lib.hid h1
    clear h1 m8
    go_wp2_with fail
    go_ret
    exact ⟨rfl, H1.out⟩
set_option maxHeartbeats 4000000 in
theorem run9 (h : MS w0 base M F OB (mC wv ev dv iv hv OB 1 3 0 0 outs 1 2) (fC 3 7 sl) wv ev outs xs w) :
    Calls Try.prog 12 #[.pointer (some ⟨M, 0, none⟩), .int .i64 9] w fun e w' => e = .returned (.int .i64 1) ∧ MS w0 base M F OB (mC wv ev dv iv hv OB 0 4 1 7 outs 1 3) (fC 4 7 sl) wv ev outs xs w' := by
  have HH := Lib.hid h
  have m8 : w.cell? ⟨M, 8, none⟩ = some (.int .u8 0) := by simp [World.cell?, h.hm, mC]
  clear h
  go_enter Try.func12, Try.ntmps12
  go_wp2_with fail
  go_loopw [5] (fun n wr => (n = .int .i64 0 ∧ Hid (MS w0 base M F OB (mC wv ev dv iv hv OB 1 3 0 0 outs 1 2) (fC 3 7 sl) wv ev outs xs wr)) ∨ (n = .int .i64 1 ∧ Hid (MS w0 base M F OB (mC wv ev dv iv hv OB 0 4 1 7 outs 1 3) (fC 4 7 sl) wv ev outs xs wr))) (fun n _ => 3 - (intOf n).toNat)
  case atStart => exact .inl ⟨rfl, HH⟩
  case round =>
    obtain ⟨wa, rfl⟩ : ∃ wa : World, wa = wr := ⟨_, rfl⟩
    rcases hrel with ⟨rfl, H⟩ | ⟨rfl, H⟩
    · have m8 : wa.cell? ⟨M, 8, none⟩ = some (.int .u8 0) := by simp [World.cell?, H.out.hm, mC]
      go_wp2_with fail
      refine (step3 H.out (by omega) (by omega)).mono ?_
      rintro e w1 ⟨rfl, h1⟩
      have H1 := Lib.hid h1
      clear h1 m8
      go_wp2_with fail
      exact ⟨.inr ⟨rfl, H1⟩, by decide⟩
    · have m8 : wa.cell? ⟨M, 8, none⟩ = some (.int .u8 1) := by simp [World.cell?, H.out.hm, mC]
      go_wp2_with fail
      go_ret
      exact ⟨rfl, H.out⟩
end
end Go.Proofs.Yteeapfgjjankeaa
