/- Keep: no store; equal bytes. -/
import Derived.Test.YtmfhmegkgpaemaaKx
namespace Go.Proofs.Ytmfhmegkgpaemaa
open Go.RowKit

theorem put_nil (x : Int) (pv : Value) (choice : Int) (w : World) (hp : ∃ a n c, pv = .slice a n c) :
    Calls Try.prog 8 #[.pointer none, .int .i64 x, pv, .int .i64 choice] w fun e w' => e = .returned (.int .i64 14) ∧ w' = w := by
  obtain ⟨pa, n, pc, rfl⟩ := hp
  go_enter Try.func8, Try.ntmps8
  go_wp2_with fail
  go_ret
  exact ⟨rfl, rfl⟩
theorem refPut_nil (x : Int) (pv : Value) (choice : Int) (w : World) (hp : ∃ a n c, pv = .slice a n c) :
    Calls Try.prog 18 #[.pointer none, .int .i64 x, pv, .int .i64 choice] w fun e w' => e = .returned (.int .i64 14) ∧ w' = w := by
  obtain ⟨pa, n, pc, rfl⟩ := hp
  go_enter Try.func18, Try.ntmps18
  go_wp2_with fail
  go_ret
  exact ⟨rfl, rfl⟩
theorem drop_nil (x : Int) (w : World) :
    Calls Try.prog 19 #[.pointer none, .int .i64 x] w fun e w' => e = .returned (.int .i64 14) ∧ w' = w := by
  go_enter Try.func19, Try.ntmps19
  go_wp2_with fail
  go_ret
  exact ⟨rfl, rfl⟩
theorem refDrop_nil (x : Int) (w : World) :
    Calls Try.prog 20 #[.pointer none, .int .i64 x] w fun e w' => e = .returned (.int .i64 14) ∧ w' = w := by
  go_enter Try.func20, Try.ntmps20
  go_wp2_with fail
  go_ret
  exact ⟨rfl, rfl⟩
theorem best_nil (x : Int) (w : World) :
    Calls Try.prog 9 #[.pointer none, .int .i64 x] w fun e w' => e = .returned (.tuple #[.int .i64 0, .slice none 0 0, .bool false]) ∧ w' = w := by
  go_enter Try.func9, Try.ntmps9
  go_wp2_with fail
  go_ret3
  exact ⟨rfl, rfl⟩
theorem refBest_nil (x : Int) (w : World) :
    Calls Try.prog 21 #[.pointer none, .int .i64 x] w fun e w' => e = .returned (.tuple #[.agg #[.int .i64 0, .slice none 0 0], .bool false]) ∧ Below w.heap.size w w' := by
  go_enter Try.func21, Try.ntmps21
  go_wp2_with fail
  refine bodyPost_ret (v := .tuple #[.agg #[.int .i64 0, .slice none 0 0], .bool false]) ?_ rfl ⟨rfl, ((Below.refl _ _).alloc (Nat.le_refl _) _).alloc (by simp) _⟩
  simp [results, Try.results21, go_sem]
theorem list_nil (w : World) :
    Calls Try.prog 10 #[.pointer none] w fun e w' => e = .returned (.slice none 0 0) ∧ w' = w := by
  go_enter Try.func10, Try.ntmps10
  go_wp2_with fail
  go_ret
  exact ⟨rfl, rfl⟩
theorem bytes_nil (w : World) :
    Calls Try.prog 11 #[.pointer none] w fun e w' => e = .returned (.int .i64 0) ∧ w' = w := by
  go_enter Try.func11, Try.ntmps11
  go_wp2_with fail
  go_ret
  exact ⟨rfl, rfl⟩

set_option maxHeartbeats 1000000 in
theorem sameBytes_any (v1 v2 : Value) (l m : List Int) (w : World) (h1 : RdB w v1 l) (h2 : RdB w v2 m) (b1 : isB l) (b2 : isB m) :
    Calls Try.prog 22 #[v1, v2] w fun e w' => e = .returned (.bool (eqL l m)) ∧ w = w' := by
  have k1 := run_convert_rdB (P := Try.prog) h1 Try.underlying29 Try.underlying5 (dst := 9) Try.underlying9
  have k2 := run_convert_rdB (P := Try.prog) h2 Try.underlying29 Try.underlying5 (dst := 9) Try.underlying9
  have HE : Hid _ := eqL_str b1 b2
  clear h1 h2 b1 b2
  go_enter Try.func22, Try.ntmps22
  go_wp2
  go_ret
  exact ⟨ret_bool HE.out, rfl⟩
end Go.Proofs.Ytmfhmegkgpaemaa
