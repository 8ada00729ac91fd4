/- The listed variable: how a turn through bytes gives up: what the row's condition gives a walk. -/
import Derived.Test.YtnanlkoldloolaaDoorRows
import Derived.Test.YtnanlkoldloolaaDoorQ1
import Derived.ProofKit
import Derived.LaidMore
import Derived.Stop.Joined
import Derived.Stop.LaidErr
namespace Go.Proofs.YtnanlkoldloolaaDoor
open Go.RowKit Go.ChangeShapes

theorem gForm : Tryd.prog.globalNamed "teasel/locs.errForm" = some 0 := by kernel_rfl
theorem gFormType : (Tryd.prog.globals[0]?).map (·.type) = some 129 := by kernel_rfl
theorem starForm : "*" ++ "errors.errorString" = "*errors.errorString" := by decide
theorem rowForm (u : TypeId) (h : Tryd.prog.typeName? 3 u = some "*errors.errorString") : u = 182 :=
  typeName_ptr_named (nm := "errors.errorString") (by rw [starForm]; kernel_rfl) (by kernel_rfl) (by decide) u (by rw [starForm]; exact h)
theorem cellsErr : Tryd.prog.cellsOf 206 = 1 := by kernel_rfl
theorem cellsStr : Tryd.prog.cellsOf 9 = 1 := by kernel_rfl

theorem gives_of_laid {W : World} (h : laidMetH Tryd.prog [("teasel/locs.errForm", Rows.laid_teasel_locs_errForm)] W) : ∃ a s, Gives W 182 (.pointer (some a)) ∧ W.cell? a = some (.string s) := by
  rw [MakeChecks.laidMetH_plain _ _ _ (by kernel_rfl)] at h
  obtain ⟨a, s, h1, h2, _, _⟩ := laid_sentinel h gForm gFormType Tryd.underlying129 rowForm Tryd.underlying182 Tryd.underlying206 rfl rfl Tryd.underlying9 cellsErr cellsStr
  refine ⟨a, s, ?_, h2⟩
  have := World.var?_cell gForm h1 0
  simpa [Gives] using this

theorem door_met (os : Os) (args : Array Value) : laidMetH Tryd.prog [("teasel/locs.errForm", Rows.laid_teasel_locs_errForm)] ((World.doorLaid Tryd.prog 400 os).forCall (fun _ _ => 0) ⟨#[], args, []⟩).memory :=
  laidMetH_of_parts3 (fuel := 8) (laidMet_of_run' 8 (by kernel_rfl) (by kernel_rfl)) (by kernel_rfl) (by kernel_rfl)
end Go.Proofs.YtnanlkoldloolaaDoor
