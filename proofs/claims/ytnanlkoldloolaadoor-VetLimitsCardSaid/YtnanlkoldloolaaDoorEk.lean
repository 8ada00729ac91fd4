/- Locs: how a turn gives up, where none did. -/
import Derived.Test.YtnanlkoldloolaaDoorEj
namespace Go.Proofs.YtnanlkoldloolaaDoor
open Go.RowKit

theorem recover_idle {P : Program} {Q : Exit → Act → List Frame → World → Prop} {a : Act} {cs : List Frame} {w : World} {id d ty : Nat} {pos : String} (h : recoverD cs = none) (hq : Q .normal (a.put (some d) .nilIface) cs w) :
    (Code.region id #[{ dst := some d, op := Op.call { callee := .builtin .recover, args := #[], argTypes := #[] }, type := ty, pos := pos, after := #[], guard := none }] false).wpS P Q a cs w := by
  apply wpS_region
  simp [wpOpsS, go_sem, h]
  exact hq

set_option maxHeartbeats 4000000 in
theorem caught_idle (p q : Value) (w : World) :
    CallsD Tryd.prog 39 #[p, q] .returning w fun e u' w' => e = .returned (.tuple #[]) ∧ u' = .returning ∧ w' = w := by
  refine callsD_of_wpS Tryd.func39 rfl fun c₀ cs hu => ?_
  refine wpS_seq (recover_idle (by simp [recoverD, hu]) ?_)
  obtain ⟨A, hA⟩ : ∃ A, (({ tmps := #[p, q] ++ Array.replicate (Tryd.f39.ntmps - (#[p, q] : Array Value).size) undef, defers := [] } : Act).put (some 7) .nilIface) = A := ⟨_, rfl⟩
  show Code.wpS _ _ _ (({ tmps := #[p, q] ++ Array.replicate (Tryd.f39.ntmps - (#[p, q] : Array Value).size) undef, defers := [] } : Act).put (some 7) .nilIface) _ _
  rw [hA]
  refine wpS_of_wp ?_
  have hA2 : A = { tmps := #[p, q, undef, undef, undef, undef, undef, .nilIface, undef, undef, undef, undef, undef, undef, undef, undef, undef, undef, undef, undef, undef, undef, undef], defers := [] } := by rw [← hA, Tryd.ntmps39]; simp [Act.put, Array.replicate]
  clear hA
  subst hA2
  refine wp_mono (Q := fun e a' w' => e = .normal ∧ a'.defers = [] ∧ w' = w) ?_ ?_
  · go_wp2_with fail
  · rintro e a' w' ⟨rfl, hd, rfl⟩
    exact ⟨hd, .returning, by cases c₀; simp_all, _, results_none rfl _ _ _, rfl, rfl, rfl⟩
end Go.Proofs.YtnanlkoldloolaaDoor
