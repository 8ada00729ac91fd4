/- A slice of bytes among the arguments, opened. -/
import Derived.Test.YtmidnniinjkffaaDoorQ0
import Derived.Test.YtmidnniinjkffaaDoorProg
import Derived.ProofKit
import Derived.OpenShut
import Derived.KernelRfl
import Derived.Test.YtmidnniinjkffaaDoorRows
import Derived.Test.YtmidnniinjkffaaDoorQ1
import Derived.LaidMore
import Derived.Stop.Joined
import Derived.Stop.LaidErr
namespace Go.Proofs.YtmidnniinjkffaaDoor
open Go.ChangeShapes Go.WideShapes Go.ChangeAt Go.RowKit

theorem rdB_in {w : World} {x : Addr} {l c : Nat} {zs : List Int} (hl : l ≤ c) (hm : c ≤ maxLen) (hz : zs.length = c) (hcell : ∀ i, i < zs.length → w.cell? (x.add i) = some (.int .u8 (zs.getD i 0))) : RdB w (.slice (some x) l c) (zs.take l) ∧ (zs.take l).length = l := by
  have hlen : (zs.take l).length = l := by rw [List.length_take]; omega
  refine ⟨?_, hlen⟩
  unfold RdB
  rw [hlen]
  refine ⟨by rw [List.length_map, hlen, Nat.mul_one], .inr ⟨x, c, rfl, hl, hm, fun j u hu => ?_⟩⟩
  rw [List.getElem?_map, List.getElem?_take] at hu
  split at hu
  · rename_i hjl
    rw [hcell j (by omega)]
    have hj : j < zs.length := by omega
    simp [hj] at hu ⊢
    exact hu
  · cases hu

theorem isB_in {zs : List Int} (h : ∀ n ∈ zs, (Lit.int .u8 n).wf = true) (l : Nat) : isB (zs.take l) := by
  intro x hx
  have := h x (List.mem_of_mem_take hx)
  simp [Lit.wf, IntKind.min, IntKind.max, IntKind.signed, IntKind.bits] at this
  omega

set_option maxRecDepth 100000 in
theorem bytes_in {H : Type} {enc : TypeId × Value → H} {W : World} {base : Nat} {r : Reach} {b0 : Nat} {v : Value} {d : DataW H} {p : List MemPlace}
    (hv : Value.okWide Tryd.prog W r b0 30 v) (h : DataW.Trod enc Tryd.prog W base (fun _ => true) true 30 v d p) : ∃ l, RdB W v l ∧ isB l := by
  obtain ⟨a0, len0, cap0, rfl⟩ := okWide_slice Tryd.underlying30 hv
  obtain ⟨fuel, hf⟩ := h
  rcases open_ints Tryd.underlying30 Tryd.underlying5 (by kernel_rfl) hf with ⟨hcs, _⟩ | ⟨x, l, c, zs, hcs, _, hl, hm, hz, hx, hcell, hwz⟩
  · simp [Value.cells] at hcs
    obtain ⟨rfl, rfl, rfl⟩ := hcs
    exact ⟨[], Rd.nil _ _, (fun x hx => nomatch hx)⟩
  · simp [Value.cells] at hcs
    obtain ⟨rfl, rfl, rfl⟩ := hcs
    simp only [if_true] at hz
    obtain ⟨h1, h2⟩ := rdB_in hl hm hz hcell
    exact ⟨_, h1, isB_in hwz _⟩
end Go.Proofs.YtmidnniinjkffaaDoor

/- The listed variable: how a turn through bytes gives up: what the row's condition gives a walk. -/
namespace Go.Proofs.YtmidnniinjkffaaDoor
open Go.RowKit Go.ChangeShapes

theorem gForm : Tryd.prog.globalNamed "teasel/locs.errForm" = some 0 := by kernel_rfl
theorem gFormType : (Tryd.prog.globals[0]?).map (·.type) = some 105 := by kernel_rfl
theorem starForm : "*" ++ "errors.errorString" = "*errors.errorString" := by decide
theorem rowForm (u : TypeId) (h : Tryd.prog.typeName? 3 u = some "*errors.errorString") : u = 133 :=
  typeName_ptr_named (nm := "errors.errorString") (by rw [starForm]; kernel_rfl) (by kernel_rfl) (by decide) u (by rw [starForm]; exact h)
theorem cellsErr : Tryd.prog.cellsOf 158 = 1 := by kernel_rfl
theorem cellsStr : Tryd.prog.cellsOf 9 = 1 := by kernel_rfl

theorem gives_of_laid {W : World} (h : laidMetH Tryd.prog [("teasel/locs.errForm", Rows.laid_teasel_locs_errForm)] W) : ∃ a s, Gives W 133 (.pointer (some a)) ∧ W.cell? a = some (.string s) := by
  rw [MakeChecks.laidMetH_plain _ _ _ (by kernel_rfl)] at h
  obtain ⟨a, s, h1, h2, _, _⟩ := laid_sentinel h gForm gFormType Tryd.underlying105 rowForm Tryd.underlying133 Tryd.underlying158 rfl rfl Tryd.underlying9 cellsErr cellsStr
  refine ⟨a, s, ?_, h2⟩
  have := World.var?_cell gForm h1 0
  simpa [Gives] using this

theorem door_met (os : Os) (args : Array Value) : laidMetH Tryd.prog [("teasel/locs.errForm", Rows.laid_teasel_locs_errForm)] ((World.doorLaid Tryd.prog 400 os).forCall (fun _ _ => 0) ⟨#[], args, []⟩).memory :=
  laidMetH_of_parts3 (fuel := 8) (laidMet_of_run' 8 (by kernel_rfl) (by kernel_rfl)) (by kernel_rfl) (by kernel_rfl)
end Go.Proofs.YtmidnniinjkffaaDoor
