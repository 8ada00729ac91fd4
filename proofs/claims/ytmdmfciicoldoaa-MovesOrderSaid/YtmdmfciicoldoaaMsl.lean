/- A slice of moves among the arguments, opened. -/
import Derived.Test.YtmdmfciicoldoaaMi
import Derived.Deep.Slices
import Derived.Deep.Fields
import Derived.ChangeSame
import Derived.Lib.SmallJoins
import Derived.ProofKit
import Derived.KernelRfl
namespace Go.Proofs.Ytmdmfciicoldoaa
open Go.Joins Go.ChangeShapes Go.WideShapes Go.RowKit Go.Deep

theorem cellsM_get : ∀ (l : List M) (j : Nat) (u : Value), (cellsM l)[j]? = some u → ∃ i, ∃ h : i < l.length, (j = i * 2 ∧ u = .int .i64 l[i].1) ∨ (j = i * 2 + 1 ∧ u = .int .i64 l[i].2)
  | [], j, u, h => by simp [cellsM] at h
  | x :: r, 0, u, h => ⟨0, by simp, .inl ⟨by simp, by simpa [cellsM] using h.symm⟩⟩
  | x :: r, 1, u, h => ⟨0, by simp, .inr ⟨by simp, by simpa [cellsM] using h.symm⟩⟩
  | x :: r, j + 2, u, h => by
    obtain ⟨i, hi, h2⟩ := cellsM_get r j u (by simpa [cellsM] using h)
    refine ⟨i + 1, by simpa using hi, ?_⟩
    rcases h2 with ⟨e, h⟩ | ⟨e, h⟩
    · exact .inl ⟨by omega, by simpa using h⟩
    · exact .inr ⟨by omega, by simpa using h⟩

abbrev MAt (w : World) (a : Addr) (i : Nat) (x : M) : Prop := w.cell? (a.add (i * 2)) = some (.int .i64 x.1) ∧ w.cell? (a.add (i * 2 + 1)) = some (.int .i64 x.2)

theorem rdM_of {w : World} {a : Addr} {len cap : Nat} (hl : len ≤ cap) (hm : cap ≤ maxLen) (f : Nat → M) (hf : ∀ i, i < len → MAt w a i (f i)) : RdM w (.slice (some a) len cap) ((List.range len).map f) := by
  have hlen : ((List.range len).map f).length = len := by simp
  unfold RdM
  rw [hlen]
  refine ⟨by rw [cellsM_length, hlen], .inr ⟨a, cap, rfl, hl, hm, fun j u hu => ?_⟩⟩
  obtain ⟨i, hi, h⟩ := cellsM_get _ j u hu
  rw [hlen] at hi
  have he : ((List.range len).map f)[i]'(by rw [hlen]; exact hi) = f i := by simp
  rw [he] at h
  obtain ⟨h0, h1⟩ := hf i hi
  rcases h with ⟨rfl, rfl⟩ | ⟨rfl, rfl⟩
  · exact h0
  · exact h1

theorem open_row2 {H : Type} {enc : TypeId × Value → H} {P : Program} {w : World} {base : Nat} {spare : Nat → Bool} {held : Bool} {t : TypeId} {f0 f1 : Field} {c0 c1 : Value} {fuel : Nat} {y : DataW H × List MemPlace} (hs : P.underlying t = some (.struct #[f0, f1])) (hone : oneCellFields P #[f0, f1] = true)
    (h : DataW.trod enc P w base spare held fuel t [c0, c1] = some y) :
    ∃ (y0 y1 : DataW H × List MemPlace) (n : Nat), DataW.trod enc P w base spare held n f0.type [c0] = some y0 ∧ DataW.trod enc P w base spare held n f1.type [c1] = some y1 := by
  obtain ⟨xs, n, _, hx, _, hlen, hg⟩ := DataW.trod_struct hs h
  obtain ⟨o0, k0⟩ := hone_of hone 0 f0 rfl
  obtain ⟨o1, k1⟩ := hone_of hone 1 f1 rfl
  match xs, hlen with
  | [y0, y1], _ => exact ⟨y0, y1, n, by simpa [o0, k0] using hg 0 f0 rfl, by simpa [o1, k1] using hg 1 f1 rfl⟩

theorem cellsR : Try.prog.cellsOf 31 = 2 := by kernel_rfl
theorem i64_in {n : Int} (h : (Lit.int .i64 n).wf = true) : inR n := by
  simp [Lit.wf, IntKind.min, IntKind.max, IntKind.signed, IntKind.bits] at h
  exact ⟨by omega, by omega⟩

theorem moves_in {H : Type} {enc : TypeId × Value → H} {w : World} {base : Nat} {r : Reach} {b0 : Nat} {v : Value} {d : DataW H} {p : List MemPlace}
    (hv : Value.okWide Try.prog w r b0 22 v) (h : DataW.Trod enc Try.prog w base (fun _ => true) true 22 v d p) :
    ∃ l, RdM w v l ∧ ∀ m ∈ l, inR m.1 ∧ inR m.2 := by
  obtain ⟨a0, len0, cap0, rfl⟩ := okWide_slice Try.underlying22 hv
  obtain ⟨fuel, hf⟩ := h
  rcases open_slice Try.underlying22 hf with ⟨hcs, _⟩ | ⟨a, len, cap, m, n, D, Pl, hcs, _, hl, hm, hmm, _, hi⟩
  · simp [Value.cells] at hcs
    obtain ⟨rfl, rfl, rfl⟩ := hcs
    exact ⟨[], Rd.nil _ _, fun x hx => nomatch hx⟩
  · simp [Value.cells] at hcs
    obtain ⟨rfl, rfl, rfl⟩ := hcs
    simp only [if_true] at hmm
    subst hmm
    have key : ∀ i, ∃ x : M, i < len0 → (inR x.1 ∧ inR x.2) ∧ MAt w a i x := fun i => by
      by_cases hil : i < len0
      · obtain ⟨cs', hc, ht'⟩ := hi i (by omega)
        rw [cellsR] at hc
        obtain ⟨_, hcl, hat⟩ := World.cells?_some hc
        match cs', hcl with
        | [c0, c1], _ =>
          have q0 := hat 0 (by decide)
          have q1 := hat 1 (by decide)
          rw [Go.Deep.add_add] at q0 q1
          obtain ⟨y0, y1, n', h0, h1⟩ := open_row2 Try.underlying31 (by kernel_rfl) ht'
          obtain ⟨a0, e0, -, w0⟩ := DataW.trod_int Try.underlying3 h0
          obtain ⟨a1, e1, -, w1⟩ := DataW.trod_int Try.underlying3 h1
          simp at e0 e1
          subst e0 e1
          exact ⟨(a0, a1), fun _ => ⟨⟨i64_in w0, i64_in w1⟩, q0, q1⟩⟩
      · exact ⟨(0, 0), fun h => absurd h hil⟩
    obtain ⟨f, hf2⟩ := Classical.axiomOfChoice key
    refine ⟨(List.range len0).map f, rdM_of hl hm f (fun i hi => (hf2 i hi).2), fun x hx => ?_⟩
    simp only [List.mem_map, List.mem_range] at hx
    obtain ⟨i, hi, rfl⟩ := hx
    exact (hf2 i hi).1
end Go.Proofs.Ytmdmfciicoldoaa
