/- Walks of package inst: what each function computes. -/
import Derived.Test.YtgjmdcbdkdmceaaProg
import Derived.Test.YtgjmdcbdkdmceaaQ15
import Derived.Test.YtgjmdcbdkdmceaaQ13
import Derived.WalkKit
import Derived.WalkLawsBesides
import Derived.WalkSpells
import Derived.Lib.Hide
import Derived.Deep.Light
namespace Go.Proofs.Ytgjmdcbdkdmceaa
open Go.RowKit

set_option maxHeartbeats 1000000 in
theorem shape_any (n : Int) (w : World) :
   Calls Try.prog 78 #[.int .u8 n] w fun e w' => e = .returned (.tuple #[.agg #[.int .i64 (shp n).1, .bool (shp n).2.1, .int .i64 (shp n).2.2.1, .int .i64 (shp n).2.2.2.1], .bool (shp n).2.2.2.2]) ∧ Below w.heap.size w w' := by
  go_enter Try.func78, Try.ntmps78
  go_wp2
  all_goals refine bodyPost_ret (v := .tuple #[.agg #[.int .i64 (shp n).1, .bool (shp n).2.1, .int .i64 (shp n).2.2.1, .int .i64 (shp n).2.2.2.1], .bool (shp n).2.2.2.2]) ?_ rfl ⟨rfl, ?_⟩
  all_goals first | (exact (Below.refl _ _).alloc (Nat.le_refl _) _) | skip
  all_goals first | (go_light; simp [results, Try.results78, go_sem, shp, minI, maxI, *]; done) | (go_light; simp [results, Try.results78, go_sem, shp, *]; rw [if_neg (by omega)]; simp)

theorem shape_is {n r lo hi : Int} {i ok : Bool} (h : shp n = (r, i, lo, hi, ok)) (w : World) :
   Calls Try.prog 78 #[.int .u8 n] w fun e w' => e = .returned (.tuple #[.agg #[.int .i64 r, .bool i, .int .i64 lo, .int .i64 hi], .bool ok]) ∧ Below w.heap.size w w' := by
  have := shape_any n w
  rw [h] at this
  exact this

end Go.Proofs.Ytgjmdcbdkdmceaa

/- Walks of package inst, on: registers' places, the form. -/
namespace Go.Proofs.Ytgjmdcbdkdmceaa
open Go.RowKit

set_option maxHeartbeats 1000000 in
theorem regs_any (b off : Nat) (w : World) :
   Calls Try.prog 79 #[.pointer (some ⟨b, off, none⟩)] w fun e w' => e = .returned (.slice (some ⟨w.heap.size, 0, none⟩) 3 3) ∧ 
     (w.alloc (.cells #[.pointer (some ⟨b, off + 1, none⟩), .pointer (some ⟨b, off + 2, none⟩), .pointer (some ⟨b, off + 3, none⟩)] 125)).drew = w' := by
  go_enter Try.func79, Try.ntmps79
  go_wp2
  go_region
  all_goals go_wp2
  all_goals go_ret
  all_goals exact ⟨rfl, rfl⟩

/-- The first k registers are right. -/
def rgs (r a b c : Int) (k : Nat) : Bool :=
  (decide (k < 1) || (decide (a < 16) && (decide (1 ≤ r) || a == 0))) && (decide (k < 2) || (decide (b < 16) && (decide (2 ≤ r) || b == 0))) && (decide (k < 3) || (decide (c < 16) && (decide (3 ≤ r) || c == 0)))

theorem formP_eq (r lo hi op a b c imm : Int) (i : Bool) : formP r i lo hi ⟨op, a, b, c, imm⟩ = (rgs r a b c 3 && (if i then decide (lo ≤ imm) && decide (imm ≤ hi) else imm == 0)) := by
  cases i <;> simp [formP, rgs] <;> (rw [Bool.eq_iff_iff]; simp; omega)
theorem form_no {r lo hi op a b c imm : Int} {i : Bool} (h : Hid (formB ⟨op, a, b, c, imm⟩ = (true && formP r i lo hi ⟨op, a, b, c, imm⟩))) (hn : ¬ rgs r a b c 3 = true) :
    Ending.returned (.bool false) = .returned (.bool (formB ⟨op, a, b, c, imm⟩)) := by
  rw [h.out, formP_eq]; simp [hn]
theorem fin_below {w w1 : World} {o o1 o2 : Obj} (hb : Below (w.alloc o).heap.size (w.alloc o) w1) : Below w.heap.size w (((w1.alloc o1).alloc o2).drew) := by
  have hz : w.heap.size < w1.heap.size := by have := hb.size; simp at this; omega
  exact ((((Below.refl _ _).alloc (Nat.le_refl _) _).trans (hb.mono (by simp))).alloc (by omega) _ |>.alloc (by simp; omega) _).drew

def wordV (x : W) : Value := .agg #[.int .u8 x.op, .int .u8 x.a, .int .u8 x.b, .int .u8 x.c, .int .i64 x.imm]

set_option maxHeartbeats 2000000 in
theorem iform_any (op a b c imm : Int) (w : World) :
   Calls Try.prog 61 #[.agg #[.int .u8 op, .int .u8 a, .int .u8 b, .int .u8 c, .int .i64 imm]] w fun e w' => e = .returned (.bool (formB ⟨op, a, b, c, imm⟩)) ∧ Below w.heap.size w w' := by
  obtain ⟨r, i, lo, hi, ok, hs⟩ : ∃ r i lo hi ok, shp op = (r, i, lo, hi, ok) := ⟨_, _, _, _, _, rfl⟩
  have HF : Hid (formB ⟨op, a, b, c, imm⟩ = (ok && formP r i lo hi ⟨op, a, b, c, imm⟩)) := by show _ = _; simp [formB, hs]
  have hsh := fun w => shape_is hs w
  have HSH := Lib.hid hsh
  clear hsh hs
  go_enter Try.func61, Try.ntmps61
  go_wp2_with fail
  refine (HSH.out _).mono ?_
  rintro e w1 ⟨rfl, hb⟩
  obtain ⟨hc, hf⟩ := bcell hb
  have hz : w.heap.size < w1.heap.size := by have := hb.size; simp at this; omega
  cases ok
  · go_wp2_with fail
    go_ret
    exact ⟨by rw [HF.out]; rfl, ((Below.refl _ _).alloc (Nat.le_refl _) _).trans (hb.mono (by simp)) |>.alloc (by omega) _⟩
  · go_wp2_with fail
    refine (regs_any _ _ _).mono ?_
    rintro e w2 ⟨rfl, rfl⟩
    go_wp2_with fail
    go_loop [17] (fun v => ∃ k : Nat, k ≤ 3 ∧ v = .int .i64 k ∧ rgs r a b c k = true) (fun v => 3 - (intOf v).toNat)
    case atStart => exact ⟨0, by omega, rfl, rfl⟩
    case round =>
      obtain ⟨k, hk, rfl, hr⟩ := hrel
      have hk4 : k = 0 ∨ k = 1 ∨ k = 2 ∨ k = 3 := by omega
      have HR := Lib.hid hr
      clear hr hk
      rcases hk4 with rfl | rfl | rfl | rfl
      · go_wp2
        all_goals first
          | (refine ⟨⟨1, by omega, rfl, ?_⟩, by simp [intOf]⟩; go_light; simp [rgs] at *; omega)
          | (go_ret; exact ⟨form_no HF (by go_light; simp [rgs] at *; omega), fin_below hb⟩)
      · go_wp2
        all_goals first
          | (refine ⟨⟨2, by omega, rfl, ?_⟩, by simp [intOf]⟩; go_light; have := HR.out; simp [rgs] at *; omega)
          | (go_ret; exact ⟨form_no HF (by go_light; simp [rgs] at *; omega), fin_below hb⟩)
      · go_wp2
        all_goals first
          | (refine ⟨⟨3, by omega, rfl, ?_⟩, by simp [intOf]⟩; go_light; have := HR.out; simp [rgs] at *; omega)
          | (go_ret; exact ⟨form_no HF (by go_light; simp [rgs] at *; omega), fin_below hb⟩)
      · go_wp2
        all_goals (go_ret; refine ⟨ret_bool ?_, fin_below hb⟩; go_light; rw [HF.out, formP_eq, HR.out]; clear HF HR hb hc hf hz; cases i <;> first | (simp; done) | (simp; omega) | (rw [Bool.eq_iff_iff]; simp; omega) | (exfalso; simp at *; done))
end Go.Proofs.Ytgjmdcbdkdmceaa
