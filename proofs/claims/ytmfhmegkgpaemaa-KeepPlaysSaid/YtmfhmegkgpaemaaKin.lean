/- Slices of bytes and of ints among the arguments, opened. -/
import Derived.Test.YtmfhmegkgpaemaaU
import Derived.Test.YtmfhmegkgpaemaaProg
import Derived.ProofKit
import Derived.OpenShut
import Derived.KernelRfl
namespace Go.Proofs.Ytmfhmegkgpaemaa
open Go.ChangeShapes Go.WideShapes Go.ChangeAt Go.RowKit

def RdI (w : World) (v : Value) (l : List Int) : Prop := Rd w 1 v l.length (l.map (Value.int .i64))
theorem rd_in {w : World} {k : IntKind} {x : Addr} {l c : Nat} {zs : List Int} (hl : l ≤ c) (hm : c ≤ maxLen) (hz : zs.length = c) (hcell : ∀ i, i < zs.length → w.cell? (x.add i) = some (.int k (zs.getD i 0))) : Rd w 1 (.slice (some x) l c) (zs.take l).length ((zs.take l).map (Value.int k)) := by
  have hlen : (zs.take l).length = l := by rw [List.length_take]; omega
  rw [hlen]
  refine ⟨by rw [List.length_map, hlen, Nat.mul_one], .inr ⟨x, c, rfl, hl, hm, fun j u hu => ?_⟩⟩
  rw [List.getElem?_map, List.getElem?_take] at hu
  split at hu
  · rename_i hjl
    rw [hcell j (by omega)]
    have hj : j < zs.length := by omega
    simp [hj] at hu ⊢
    exact hu
  · cases hu
theorem is64_in {zs : List Int} (h : ∀ n ∈ zs, (Lit.int .i64 n).wf = true) (l : Nat) : ∀ x ∈ zs.take l, -9223372036854775808 ≤ x ∧ x ≤ 9223372036854775807 := by
  intro x hx
  have := h x (List.mem_of_mem_take hx)
  simp [Lit.wf, IntKind.min, IntKind.max, IntKind.signed, IntKind.bits] at this
  omega
theorem isB_in {zs : List Int} (h : ∀ n ∈ zs, (Lit.int .u8 n).wf = true) (l : Nat) : isB (zs.take l) := by
  intro x hx
  have := h x (List.mem_of_mem_take hx)
  simp [Lit.wf, IntKind.min, IntKind.max, IntKind.signed, IntKind.bits] at this
  omega
theorem bytes_in {H : Type} {enc : TypeId × Value → H} {W : World} {base : Nat} {r : Reach} {b0 : Nat} {v : Value} {d : DataW H} {p : List MemPlace}
    (hv : Value.okWide Try.prog W r b0 29 v) (h : DataW.Trod enc Try.prog W base (fun _ => true) true 29 v d p) : ∃ l, RdB W v l ∧ isB l := by
  obtain ⟨a0, len0, cap0, rfl⟩ := okWide_slice Try.underlying29 hv
  obtain ⟨fuel, hf⟩ := h
  rcases open_ints Try.underlying29 Try.underlying5 (by kernel_rfl) hf with ⟨hcs, _⟩ | ⟨x, l, c, zs, hcs, _, hl, hm, hz, hx, hcell, hwz⟩
  · simp [Value.cells] at hcs
    obtain ⟨rfl, rfl, rfl⟩ := hcs
    exact ⟨[], Rd.nil _ _, (fun x hx => nomatch hx)⟩
  · simp [Value.cells] at hcs
    obtain ⟨rfl, rfl, rfl⟩ := hcs
    simp only [if_true] at hz
    exact ⟨_, rd_in hl hm hz hcell, isB_in hwz _⟩
theorem ints_in {H : Type} {enc : TypeId × Value → H} {W : World} {base : Nat} {r : Reach} {b0 : Nat} {v : Value} {d : DataW H} {p : List MemPlace}
    (hv : Value.okWide Try.prog W r b0 22 v) (h : DataW.Trod enc Try.prog W base (fun _ => true) true 22 v d p) : ∃ l, RdI W v l ∧ ∀ x ∈ l, -9223372036854775808 ≤ x ∧ x ≤ 9223372036854775807 := by
  obtain ⟨a0, len0, cap0, rfl⟩ := okWide_slice Try.underlying22 hv
  obtain ⟨fuel, hf⟩ := h
  rcases open_ints Try.underlying22 Try.underlying3 (by kernel_rfl) hf with ⟨hcs, _⟩ | ⟨x, l, c, zs, hcs, _, hl, hm, hz, hx, hcell, hwz⟩
  · simp [Value.cells] at hcs
    obtain ⟨rfl, rfl, rfl⟩ := hcs
    exact ⟨[], Rd.nil _ _, (fun x hx => nomatch hx)⟩
  · simp [Value.cells] at hcs
    obtain ⟨rfl, rfl, rfl⟩ := hcs
    simp only [if_true] at hz
    exact ⟨_, rd_in hl hm hz hcell, is64_in hwz _⟩
end Go.Proofs.Ytmfhmegkgpaemaa
