/- A slice of bytes among the arguments, opened. -/
import Derived.Test.YtmdmfciicoldoaaU
import Derived.Test.YtmdmfciicoldoaaProg
import Derived.ProofKit
import Derived.OpenShut
import Derived.KernelRfl
namespace Go.Proofs.Ytmdmfciicoldoaa
open Go.ChangeShapes Go.WideShapes Go.ChangeAt Go.RowKit

theorem rdB_in {w : World} {x : Addr} {l c : Nat} {zs : List Int} (hl : l ≤ c) (hm : c ≤ maxLen) (hz : zs.length = c) (hcell : ∀ i, i < zs.length → w.cell? (x.add i) = some (.int .u8 (zs.getD i 0))) : RdB w (.slice (some x) l c) (zs.take l) ∧ (zs.take l).length = l := by
  have hlen : (zs.take l).length = l := by rw [List.length_take]; omega
  refine ⟨?_, hlen⟩
  unfold RdB
  rw [hlen]
  refine ⟨by rw [List.length_map, hlen, Nat.mul_one], .inr ⟨x, c, rfl, hl, hm, fun j u hu => ?_⟩⟩
  rw [List.getElem?_map, List.getElem?_take] at hu
  split at hu
  · rename_i hjl
    rw [hcell j (by omega)]
    have hj : j < zs.length := by omega
    simp [hj] at hu ⊢
    exact hu
  · cases hu

theorem isB_in {zs : List Int} (h : ∀ n ∈ zs, (Lit.int .u8 n).wf = true) (l : Nat) : isB (zs.take l) := by
  intro x hx
  have := h x (List.mem_of_mem_take hx)
  simp [Lit.wf, IntKind.min, IntKind.max, IntKind.signed, IntKind.bits] at this
  omega

theorem bytes_in {H : Type} {enc : TypeId × Value → H} {W : World} {base : Nat} {r : Reach} {b0 : Nat} {v : Value} {d : DataW H} {p : List MemPlace}
    (hv : Value.okWide Try.prog W r b0 39 v) (h : DataW.Trod enc Try.prog W base (fun _ => true) true 39 v d p) : ∃ l, RdB W v l ∧ isB l := by
  obtain ⟨a0, len0, cap0, rfl⟩ := okWide_slice Try.underlying39 hv
  obtain ⟨fuel, hf⟩ := h
  rcases open_ints Try.underlying39 Try.underlying5 (by kernel_rfl) hf with ⟨hcs, _⟩ | ⟨x, l, c, zs, hcs, _, hl, hm, hz, hx, hcell, hwz⟩
  · simp [Value.cells] at hcs
    obtain ⟨rfl, rfl, rfl⟩ := hcs
    exact ⟨[], Rd.nil _ _, (fun x hx => nomatch hx)⟩
  · simp [Value.cells] at hcs
    obtain ⟨rfl, rfl, rfl⟩ := hcs
    simp only [if_true] at hz
    obtain ⟨h1, h2⟩ := rdB_in hl hm hz hcell
    exact ⟨_, h1, isB_in hwz _⟩
end Go.Proofs.Ytmdmfciicoldoaa
