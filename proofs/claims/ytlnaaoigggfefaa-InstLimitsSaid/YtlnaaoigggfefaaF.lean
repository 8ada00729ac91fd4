/- Walks of package inst: what each function computes. -/
import Derived.Test.YtlnaaoigggfefaaProg
import Derived.Test.YtlnaaoigggfefaaB
import Derived.Test.YtlnaaoigggfefaaT
import Derived.WalkKit
import Derived.WalkLawsBesides
import Derived.WalkSpells
import Derived.Lib.Hide
import Derived.Deep.Light
namespace Go.Proofs.Ytlnaaoigggfefaa
open Go.RowKit



set_option maxHeartbeats 1000000 in
theorem fits_any (n m : Int) (s : Bool) (w : World) (h0 : 0 ≤ m) (h8 : m ≤ 8) (hn1 : -9223372036854775808 ≤ n) (hn2 : n ≤ 9223372036854775807) :
    Calls Try.prog 31 #[.int .i64 n, .int .i64 m, .bool s] w fun e w' => e = .returned (.bool (fitsL n m.toNat s)) ∧ w = w' := by
  obtain ⟨k, rfl⟩ := Int.eq_ofNat_of_zero_le h0
  rw [Int.toNat_natCast]
  have hs := fun a b c => fits_s n k a b c hn1 hn2
  have hu := fun a b c => fits_u n k a b c hn1 hn2
  have HS := Lib.hid hs
  have HU := Lib.hid hu
  clear hs hu hn1 hn2
  go_enter Try.func31, Try.ntmps31
  go_wp2
  all_goals go_ret
  · exact ⟨ret_bool (by rename_i e1; simp at e1; simp [fitsL, show k = 8 by omega]), rfl⟩
  · exact ⟨ret_bool (by rename_i e1 e2; simp at e1 e2; simp [fitsL, show k = 0 by omega]), rfl⟩
  · exact ⟨ret_bool (by rename_i e1 e2 e3; rw [HS.out (by omega) (by simp at e1; omega) (by simp at e2; omega), e3]), rfl⟩
  · exact ⟨ret_bool (by rename_i e1 e2 e3; rw [HU.out (by omega) (by simp at e1; omega) (by simp at e2; omega), e3]), rfl⟩

set_option maxHeartbeats 1000000 in
theorem shape_any (n : Int) (w : World) :
   Calls Try.prog 25 #[.int .u8 n] w fun e w' => e = .returned (.tuple #[.agg #[.int .i64 (shp n).1, .bool (shp n).2.1, .int .i64 (shp n).2.2.1, .int .i64 (shp n).2.2.2.1], .bool (shp n).2.2.2.2]) ∧ Below w.heap.size w w' := by
  go_enter Try.func25, Try.ntmps25
  go_wp2
  all_goals refine bodyPost_ret (v := .tuple #[.agg #[.int .i64 (shp n).1, .bool (shp n).2.1, .int .i64 (shp n).2.2.1, .int .i64 (shp n).2.2.2.1], .bool (shp n).2.2.2.2]) ?_ rfl ⟨rfl, ?_⟩
  all_goals first | (exact (Below.refl _ _).alloc (Nat.le_refl _) _) | skip
  all_goals first | (go_light; simp [results, Try.results25, go_sem, shp, minI, maxI, *]; done) | (go_light; simp [results, Try.results25, go_sem, shp, *]; rw [if_neg (by omega)]; simp)

theorem shape_is {n r lo hi : Int} {i ok : Bool} (h : shp n = (r, i, lo, hi, ok)) (w : World) :
   Calls Try.prog 25 #[.int .u8 n] w fun e w' => e = .returned (.tuple #[.agg #[.int .i64 r, .bool i, .int .i64 lo, .int .i64 hi], .bool ok]) ∧ Below w.heap.size w w' := by
  have := shape_any n w
  rw [h] at this
  exact this

end Go.Proofs.Ytlnaaoigggfefaa
