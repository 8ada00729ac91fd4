/- Keep: a script among the arguments, opened. -/
import Derived.Test.YtmfhmegkgpaemaaPl
import Derived.Deep.Slices
import Derived.Deep.Fields
import Derived.ChangeSame
import Derived.Lib.SmallJoins
namespace Go.Proofs.Ytmfhmegkgpaemaa
open Go.Joins Go.ChangeShapes Go.WideShapes Go.RowKit Go.Deep

structure Ox where
  kind : Int
  at_ : Int
  p : Value
  pb : List Int
  ch : Int
def cellsX : List Ox → List Value
  | [] => []
  | o :: r => .int .u8 o.kind :: .int .i64 o.at_ :: o.p :: .int .i64 o.ch :: cellsX r
theorem cellsX_length : ∀ l, (cellsX l).length = l.length * 4
  | [] => rfl
  | o :: r => by simp [cellsX, cellsX_length r]; omega
def RdX (w : World) (v : Value) (l : List Ox) : Prop := Rd w 4 v l.length (cellsX l)
theorem cellsX_get : ∀ (l : List Ox) (j : Nat) (u : Value), (cellsX l)[j]? = some u → ∃ i, ∃ h : i < l.length, (j = i * 4 ∧ u = .int .u8 l[i].kind) ∨ (j = i * 4 + 1 ∧ u = .int .i64 l[i].at_) ∨ (j = i * 4 + 2 ∧ u = l[i].p) ∨ (j = i * 4 + 3 ∧ u = .int .i64 l[i].ch)
  | [], j, u, h => by simp [cellsX] at h
  | x :: r, 0, u, h => ⟨0, by simp, .inl ⟨by simp, by simpa [cellsX] using h.symm⟩⟩
  | x :: r, 1, u, h => ⟨0, by simp, .inr (.inl ⟨by simp, by simpa [cellsX] using h.symm⟩)⟩
  | x :: r, 2, u, h => ⟨0, by simp, .inr (.inr (.inl ⟨by simp, by simpa [cellsX] using h.symm⟩))⟩
  | x :: r, 3, u, h => ⟨0, by simp, .inr (.inr (.inr ⟨by simp, by simpa [cellsX] using h.symm⟩))⟩
  | x :: r, j + 4, u, h => by
    obtain ⟨i, hi, h2⟩ := cellsX_get r j u (by simpa [cellsX] using h)
    refine ⟨i + 1, by simpa using hi, ?_⟩
    rcases h2 with ⟨e, h⟩ | ⟨e, h⟩ | ⟨e, h⟩ | ⟨e, h⟩
    · exact .inl ⟨by omega, by simpa using h⟩
    · exact .inr (.inl ⟨by omega, by simpa using h⟩)
    · exact .inr (.inr (.inl ⟨by omega, by simpa using h⟩))
    · exact .inr (.inr (.inr ⟨by omega, by simpa using h⟩))
theorem cellsX_at : ∀ (l : List Ox) (i : Nat) (h : i < l.length), (cellsX l)[i * 4]? = some (.int .u8 l[i].kind) ∧ (cellsX l)[i * 4 + 1]? = some (.int .i64 l[i].at_) ∧ (cellsX l)[i * 4 + 2]? = some l[i].p ∧ (cellsX l)[i * 4 + 3]? = some (.int .i64 l[i].ch)
  | x :: r, 0, _ => by simp [cellsX]
  | x :: r, i + 1, h => by
    obtain ⟨h0, h1, h2, h3⟩ := cellsX_at r i (by simpa using h)
    have e : (i + 1) * 4 = i * 4 + 4 := by omega
    rw [e]
    refine ⟨by simpa [cellsX] using h0, ?_, ?_, ?_⟩
    · rw [show i * 4 + 4 + 1 = i * 4 + 1 + 4 from by omega]; simpa [cellsX] using h1
    · rw [show i * 4 + 4 + 2 = i * 4 + 2 + 4 from by omega]; simpa [cellsX] using h2
    · rw [show i * 4 + 4 + 3 = i * 4 + 3 + 4 from by omega]; simpa [cellsX] using h3
theorem RdX.split {w : World} {v : Value} {l : List Ox} (h : RdX w v l) {i : Nat} (hi : i < l.length) :
    ∃ b off c, v = .slice (some ⟨b, off, none⟩) l.length c ∧ b < w.heap.size ∧ w.cell? ⟨b, off + i * 4, none⟩ = some (.int .u8 l[i].kind) ∧ w.cell? ⟨b, off + i * 4 + 1, none⟩ = some (.int .i64 l[i].at_) ∧ w.cell? ⟨b, off + i * 4 + 2, none⟩ = some l[i].p ∧ w.cell? ⟨b, off + i * 4 + 3, none⟩ = some (.int .i64 l[i].ch) := by
  rcases Rd.split h (by omega) with ⟨a, c, rfl, h0, _⟩ | ⟨b, off, c, rfl, h1, h2, h3, h4, h5⟩
  · omega
  · obtain ⟨e0, e1, e2, e3⟩ := cellsX_at l i hi
    have g : ∀ {j : Nat} {u : Value}, (cellsX l)[j]? = some u → w.cell? ⟨b, off + j, none⟩ = some u := fun {j u} e => by
      obtain ⟨hj, e⟩ := List.getElem?_eq_some_iff.1 e
      rw [h5 j hj, e]
    exact ⟨b, off, c, rfl, h4, g e0, by rw [Nat.add_assoc]; exact g e1, by rw [Nat.add_assoc]; exact g e2, by rw [Nat.add_assoc]; exact g e3⟩
abbrev XAt (w : World) (a : Addr) (i : Nat) (x : Ox) : Prop := w.cell? (a.add (i * 4)) = some (.int .u8 x.kind) ∧ w.cell? (a.add (i * 4 + 1)) = some (.int .i64 x.at_) ∧ w.cell? (a.add (i * 4 + 2)) = some x.p ∧ w.cell? (a.add (i * 4 + 3)) = some (.int .i64 x.ch)
theorem rdX_of {w : World} {a : Addr} {len cap : Nat} (hl : len ≤ cap) (hm : cap ≤ maxLen) (f : Nat → Ox) (hf : ∀ i, i < len → XAt w a i (f i)) : RdX w (.slice (some a) len cap) ((List.range len).map f) := by
  have hlen : ((List.range len).map f).length = len := by simp
  unfold RdX
  rw [hlen]
  refine ⟨by rw [cellsX_length, hlen], .inr ⟨a, cap, rfl, hl, hm, fun j u hu => ?_⟩⟩
  obtain ⟨i, hi, h⟩ := cellsX_get _ j u hu
  rw [hlen] at hi
  have he : ((List.range len).map f)[i]'(by rw [hlen]; exact hi) = f i := by simp
  rw [he] at h
  obtain ⟨h0, h1, h2, h3⟩ := hf i hi
  rcases h with ⟨rfl, rfl⟩ | ⟨rfl, rfl⟩ | ⟨rfl, rfl⟩ | ⟨rfl, rfl⟩
  · exact h0
  · exact h1
  · exact h2
  · exact h3
theorem open_row4 {H : Type} {enc : TypeId × Value → H} {P : Program} {w : World} {base : Nat} {spare : Nat → Bool} {held : Bool} {t : TypeId} {f0 f1 f2 f3 : Field} {c0 c1 c2 c3 : Value} {fuel : Nat} {y : DataW H × List MemPlace} (hs : P.underlying t = some (.struct #[f0, f1, f2, f3])) (hone : oneCellFields P #[f0, f1, f2, f3] = true)
    (h : DataW.trod enc P w base spare held fuel t [c0, c1, c2, c3] = some y) :
    ∃ (y0 y1 y2 y3 : DataW H × List MemPlace) (n : Nat), DataW.trod enc P w base spare held n f0.type [c0] = some y0 ∧ DataW.trod enc P w base spare held n f1.type [c1] = some y1 ∧ DataW.trod enc P w base spare held n f2.type [c2] = some y2 ∧ DataW.trod enc P w base spare held n f3.type [c3] = some y3 := by
  obtain ⟨xs, n, _, hx, _, hlen, hg⟩ := DataW.trod_struct hs h
  obtain ⟨o0, k0⟩ := hone_of hone 0 f0 rfl
  obtain ⟨o1, k1⟩ := hone_of hone 1 f1 rfl
  obtain ⟨o2, k2⟩ := hone_of hone 2 f2 rfl
  obtain ⟨o3, k3⟩ := hone_of hone 3 f3 rfl
  match xs, hlen with
  | [y0, y1, y2, y3], _ => exact ⟨y0, y1, y2, y3, n, by simpa [o0, k0] using hg 0 f0 rfl, by simpa [o1, k1] using hg 1 f1 rfl, by simpa [o2, k2] using hg 2 f2 rfl, by simpa [o3, k3] using hg 3 f3 rfl⟩
theorem cellsOp : Try.prog.cellsOf 41 = 4 := by kernel_rfl
theorem bytes_cell {H : Type} {enc : TypeId × Value → H} {W : World} {base fuel : Nat} {v : Value} {y : DataW H × List MemPlace}
    (hf : DataW.trod enc Try.prog W base (fun _ => true) true fuel 29 [v] = some y) : ∃ l, RdB W v l ∧ isB l := by
  rcases open_ints Try.underlying29 Try.underlying5 (by kernel_rfl) hf with ⟨hcs, _⟩ | ⟨x, l, c, zs, hcs, _, hl, hm, hz, hx, hcell, hwz⟩
  · simp at hcs
    subst hcs
    exact ⟨[], Rd.nil _ _, (fun x hx => nomatch hx)⟩
  · simp at hcs
    subst hcs
    simp only [if_true] at hz
    exact ⟨_, rd_in hl hm hz hcell, isB_in hwz _⟩
theorem ops_in {H : Type} {enc : TypeId × Value → H} {w : World} {base : Nat} {r : Reach} {b0 : Nat} {v : Value} {d : DataW H} {p : List MemPlace}
    (hv : Value.okWide Try.prog w r b0 36 v) (h : DataW.Trod enc Try.prog w base (fun _ => true) true 36 v d p) :
    ∃ l, RdX w v l ∧ ∀ o ∈ l, RdB w o.p o.pb ∧ isB o.pb ∧ -9223372036854775808 ≤ o.ch ∧ o.ch ≤ 9223372036854775807 := by
  obtain ⟨a0, len0, cap0, rfl⟩ := okWide_slice Try.underlying36 hv
  obtain ⟨fuel, hf⟩ := h
  rcases open_slice Try.underlying36 hf with ⟨hcs, _⟩ | ⟨a, len, cap, m, n, D, Pl, hcs, _, hl, hm, hmm, _, hi⟩
  · simp [Value.cells] at hcs
    obtain ⟨rfl, rfl, rfl⟩ := hcs
    exact ⟨[], Rd.nil _ _, fun x hx => nomatch hx⟩
  · simp [Value.cells] at hcs
    obtain ⟨rfl, rfl, rfl⟩ := hcs
    simp only [if_true] at hmm
    subst hmm
    have key : ∀ i, ∃ x : Ox, i < len0 → (RdB w x.p x.pb ∧ isB x.pb ∧ -9223372036854775808 ≤ x.ch ∧ x.ch ≤ 9223372036854775807) ∧ XAt w a i x := fun i => by
      by_cases hil : i < len0
      · obtain ⟨cs', hc, ht'⟩ := hi i (by omega)
        rw [cellsOp] at hc
        obtain ⟨_, hcl, hat⟩ := World.cells?_some hc
        match cs', hcl with
        | [c0, c1, c2, c3], _ =>
          have q0 := hat 0 (by decide)
          have q1 := hat 1 (by decide)
          have q2 := hat 2 (by decide)
          have q3 := hat 3 (by decide)
          rw [Go.Deep.add_add] at q0 q1 q2 q3
          obtain ⟨y0, y1, y2, y3, n', h0, h1, h2, h3⟩ := open_row4 Try.underlying41 (by kernel_rfl) ht'
          obtain ⟨a0, e0, -, w0⟩ := DataW.trod_int Try.underlying5 h0
          obtain ⟨a1, e1, -, w1⟩ := DataW.trod_int Try.underlying3 h1
          obtain ⟨lb, hb, hB⟩ := bytes_cell h2
          obtain ⟨a3, e3, -, w3⟩ := DataW.trod_int Try.underlying3 h3
          simp at e0 e1 e3
          subst e0 e1 e3
          simp [Lit.wf, IntKind.min, IntKind.max, IntKind.signed, IntKind.bits] at w3
          exact ⟨⟨a0, a1, c2, lb, a3⟩, fun _ => ⟨⟨hb, hB, by show _ ≤ a3; omega, by show a3 ≤ _; omega⟩, q0, q1, q2, q3⟩⟩
      · exact ⟨⟨0, 0, .int .i64 0, [], 0⟩, fun h => absurd h hil⟩
    obtain ⟨f, hf2⟩ := Classical.axiomOfChoice key
    refine ⟨(List.range len0).map f, rdX_of hl hm f (fun i hi => (hf2 i hi).2), fun x hx => ?_⟩
    simp only [List.mem_map, List.mem_range] at hx
    obtain ⟨i, hi, rfl⟩ := hx
    exact (hf2 i hi).1
end Go.Proofs.Ytmfhmegkgpaemaa
