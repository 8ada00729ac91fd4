/- Walks of package inst: what each function computes. -/
import Derived.Test.YteeapfgjjankeaaProg
import Derived.Test.YteeapfgjjankeaaQ13
import Derived.Test.YteeapfgjjankeaaQ0
import Derived.WalkKit
import Derived.WalkLawsBesides
import Derived.WalkSpells
import Derived.Lib.Hide
import Derived.Deep.Light
namespace Go.Proofs.Yteeapfgjjankeaa
open Go.RowKit

set_option maxHeartbeats 1000000 in
theorem shape_any (n : Int) (w : World) :
   Calls Try.prog 50 #[.int .u8 n] w fun e w' => e = .returned (.tuple #[.agg #[.int .i64 (shp n).1, .bool (shp n).2.1, .int .i64 (shp n).2.2.1, .int .i64 (shp n).2.2.2.1], .bool (shp n).2.2.2.2]) ∧ Below w.heap.size w w' := by
  go_enter Try.func50, Try.ntmps50
  go_wp2
  all_goals refine bodyPost_ret (v := .tuple #[.agg #[.int .i64 (shp n).1, .bool (shp n).2.1, .int .i64 (shp n).2.2.1, .int .i64 (shp n).2.2.2.1], .bool (shp n).2.2.2.2]) ?_ rfl ⟨rfl, ?_⟩
  all_goals first | (exact (Below.refl _ _).alloc (Nat.le_refl _) _) | skip
  all_goals first | (go_light; simp [results, Try.results50, go_sem, shp, minI, maxI, *]; done) | (go_light; simp [results, Try.results50, go_sem, shp, *]; rw [if_neg (by omega)]; simp)

theorem shape_is {n r lo hi : Int} {i ok : Bool} (h : shp n = (r, i, lo, hi, ok)) (w : World) :
   Calls Try.prog 50 #[.int .u8 n] w fun e w' => e = .returned (.tuple #[.agg #[.int .i64 r, .bool i, .int .i64 lo, .int .i64 hi], .bool ok]) ∧ Below w.heap.size w w' := by
  have := shape_any n w
  rw [h] at this
  exact this

end Go.Proofs.Yteeapfgjjankeaa
