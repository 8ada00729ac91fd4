/- Walks: the reference's form of an instruction. -/
import Derived.Test.YtnanlkoldloolaaDoorQFj
namespace Go.Proofs.YtnanlkoldloolaaDoor
open Go.RowKit

theorem form_is {r lo hi op a b c imm : Int} {i : Bool} (h : Hid (formB ⟨op, a, b, c, imm⟩ = (true && formP r i lo hi ⟨op, a, b, c, imm⟩))) {v : Bool} (hv : (rgs r a b c 3 && (if i then decide (lo ≤ imm) && decide (imm ≤ hi) else imm == 0)) = v) :
    Ending.returned (.bool v) = .returned (.bool (formB ⟨op, a, b, c, imm⟩)) := by
  rw [h.out, formP_eq, ← hv]; simp

theorem dec2 {lo hi imm : Int} (h1 : lo ≤ imm) (h2 : imm ≤ hi) : (decide (lo ≤ imm) && decide (imm ≤ hi)) = true := by simp only [h1, h2, decide_true, Bool.and_self]

set_option maxHeartbeats 4000000 in
theorem refForm_any (op a b c imm : Int) (w : World) (h0 : 0 ≤ op) (h1 : op ≤ 255) (ha : 0 ≤ a) (hb : 0 ≤ b) (hc : 0 ≤ c) (hi2 : imm ≤ 9223372036854775807) (hi1 : -9223372036854775808 ≤ imm) :
   Calls Tryd.prog 20 #[.agg #[.int .u8 op, .int .u8 a, .int .u8 b, .int .u8 c, .int .i64 imm]] w fun e w' => e = .returned (.bool (formB ⟨op, a, b, c, imm⟩)) ∧ Below w.heap.size w w' := by
  obtain ⟨r, i, lo, hi, ok, hs⟩ : ∃ r i lo hi ok, shp op = (r, i, lo, hi, ok) := ⟨_, _, _, _, _, rfl⟩
  have HF : Hid (formB ⟨op, a, b, c, imm⟩ = (ok && formP r i lo hi ⟨op, a, b, c, imm⟩)) := by show _ = _; simp [formB, hs]
  obtain ⟨⟨r0, r3⟩, hok, hii⟩ := shp_facts h0 h1 hs
  have hn := fun w => names_any op w h0 h1
  have e1 : nmR op = if ok then r else -1 := by simp [nmR, hs]
  have e2 : nmI op = (ok && i) := by simp [nmI, hs]
  rw [e1, e2] at hn
  have HN := Lib.hid hn
  have HI := Lib.hid hii
  have hs2 : shp op = (r, i, lo, hi, ok) := hs
  have HS2 := Lib.hid hs2
  clear hn e1 e2 hs hok hii hs2
  go_enter Tryd.func20, Tryd.ntmps20
  go_wp2_with fail
  refine (HN.out _).mono ?_
  rintro e w1 ⟨rfl, hbl⟩
  obtain ⟨hcl, hfl⟩ := bcell hbl
  have hz : w.heap.size < w1.heap.size := by have := hbl.size; simp at this; omega
  have HB : Hid (Below w.heap.size w w1) := ((Below.refl _ _).alloc (Nat.le_refl _) _).trans (hbl.mono (by simp))
  clear hbl
  cases ok
  · simp only [Bool.false_eq_true, if_false, Bool.false_and]
    go_wp2
    go_ret
    exact ⟨by rw [HF.out]; rfl, HB.out⟩
  · simp only [if_true, Bool.true_and]
    have hr : r = 0 ∨ r = 1 ∨ r = 2 ∨ r = 3 := by omega
    clear r0 r3
    cases i
    · clear HI h0 h1 hi1 hi2
      rcases hr with rfl | rfl | rfl | rfl
      all_goals go_wp2
      all_goals go_ret
      all_goals refine ⟨?_, HB.out⟩
      all_goals go_light
      all_goals first
        | exact form_no HF (by clear HF HB; simp [rgs]; omega)
        | exact form_is HF (by clear HF HB; rw [show rgs _ a b c 3 = true from by simp [rgs]; omega]; simp)
    · have hi := HI.out rfl
      clear HI h0 h1
      rcases hi with ⟨rfl, rfl, rfl⟩ | ⟨rfl | rfl, rfl, rfl⟩ | ⟨rfl, rfl, rfl⟩ | ⟨rfl, rfl, rfl⟩ | ⟨rfl | rfl | rfl | rfl, rfl, rfl⟩
      all_goals (have hs2 := HS2.out; simp [shp] at hs2; obtain rfl := hs2; clear HS2)
      all_goals go_wp2
      all_goals go_ret
      all_goals refine ⟨?_, HB.out⟩
      all_goals go_light
      all_goals first
        | exact form_no HF (by clear HF HB; simp [rgs]; omega)
        | exact form_is HF (by clear HF HB; rw [show rgs _ a b c 3 = true from by simp [rgs]; omega]; first | (rw [if_pos rfl, Bool.true_and]; exact dec2 (by unfold minI; omega) (by unfold maxI; omega)) | (rw [if_pos rfl, Bool.true_and, show decide (imm ≤ maxI) = true from decide_eq_true (by unfold maxI; omega), Bool.and_true]; done) | (rw [if_pos rfl, Bool.true_and, show decide (imm ≤ maxI) = true from decide_eq_true (by unfold maxI; omega), Bool.and_true]; simp; done) | (rw [if_pos rfl, Bool.true_and, show decide (imm ≤ maxI) = true from decide_eq_true (by unfold maxI; omega), Bool.and_true]; simp; omega) | (simp; done) | (simp; omega) | (rw [Bool.eq_iff_iff]; simp; omega))
end Go.Proofs.YtnanlkoldloolaaDoor
