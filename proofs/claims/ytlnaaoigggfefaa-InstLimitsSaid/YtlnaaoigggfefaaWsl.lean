/- A slice of instructions among the arguments, opened. -/
import Derived.Test.YtlnaaoigggfefaaWin
import Derived.Test.YtlnaaoigggfefaaWs
import Derived.Deep.Slices
import Derived.ChangeSame
namespace Go.Proofs.Ytlnaaoigggfefaa
open Go.Joins Go.ChangeShapes Go.WideShapes Go.RowKit Go.Deep

theorem cW_get : ∀ (l : List W) (j : Nat) (u : Value), (cW l)[j]? = some u → ∃ i, ∃ h : i < l.length, (j = i * 5 ∧ u = .int .u8 l[i].op) ∨ (j = i * 5 + 1 ∧ u = .int .u8 l[i].a) ∨ (j = i * 5 + 2 ∧ u = .int .u8 l[i].b) ∨ (j = i * 5 + 3 ∧ u = .int .u8 l[i].c) ∨ (j = i * 5 + 4 ∧ u = .int .i64 l[i].imm)
  | [], j, u, h => by simp [cW] at h
  | x :: r, 0, u, h => ⟨0, by simp, .inl ⟨by simp, by simpa [cW] using h.symm⟩⟩
  | x :: r, 1, u, h => ⟨0, by simp, .inr (.inl ⟨by simp, by simpa [cW] using h.symm⟩)⟩
  | x :: r, 2, u, h => ⟨0, by simp, .inr (.inr (.inl ⟨by simp, by simpa [cW] using h.symm⟩))⟩
  | x :: r, 3, u, h => ⟨0, by simp, .inr (.inr (.inr (.inl ⟨by simp, by simpa [cW] using h.symm⟩)))⟩
  | x :: r, 4, u, h => ⟨0, by simp, .inr (.inr (.inr (.inr ⟨by simp, by simpa [cW] using h.symm⟩)))⟩
  | x :: r, j + 5, u, h => by
    obtain ⟨i, hi, h2⟩ := cW_get r j u (by simpa [cW] using h)
    refine ⟨i + 1, by simpa using hi, ?_⟩
    rcases h2 with ⟨e, h⟩ | ⟨e, h⟩ | ⟨e, h⟩ | ⟨e, h⟩ | ⟨e, h⟩
    · exact .inl ⟨by omega, by simpa using h⟩
    · exact .inr (.inl ⟨by omega, by simpa using h⟩)
    · exact .inr (.inr (.inl ⟨by omega, by simpa using h⟩))
    · exact .inr (.inr (.inr (.inl ⟨by omega, by simpa using h⟩)))
    · exact .inr (.inr (.inr (.inr ⟨by omega, by simpa using h⟩)))

/-- The five cells of an instruction, from a place on. -/
abbrev WAt (w : World) (a : Addr) (i : Nat) (x : W) : Prop :=
  w.cell? (a.add (i * 5)) = some (.int .u8 x.op) ∧ w.cell? (a.add (i * 5 + 1)) = some (.int .u8 x.a) ∧ w.cell? (a.add (i * 5 + 2)) = some (.int .u8 x.b) ∧ w.cell? (a.add (i * 5 + 3)) = some (.int .u8 x.c) ∧ w.cell? (a.add (i * 5 + 4)) = some (.int .i64 x.imm)

theorem rdW_of {w : World} {a : Addr} {len cap : Nat} (hl : len ≤ cap) (hm : cap ≤ maxLen) (f : Nat → W) (hf : ∀ i, i < len → WAt w a i (f i)) : RdW w (.slice (some a) len cap) ((List.range len).map f) := by
  have hlen : ((List.range len).map f).length = len := by simp
  unfold RdW
  rw [hlen]
  refine ⟨by rw [cW_length, hlen], .inr ⟨a, cap, rfl, hl, hm, fun j u hu => ?_⟩⟩
  obtain ⟨i, hi, h⟩ := cW_get _ j u hu
  rw [hlen] at hi
  have he : ((List.range len).map f)[i]'(by rw [hlen]; exact hi) = f i := by simp
  rw [he] at h
  obtain ⟨h0, h1, h2, h3, h4⟩ := hf i hi
  rcases h with ⟨rfl, rfl⟩ | ⟨rfl, rfl⟩ | ⟨rfl, rfl⟩ | ⟨rfl, rfl⟩ | ⟨rfl, rfl⟩
  · exact h0
  · exact h1
  · exact h2
  · exact h3
  · exact h4

theorem open_row5 {H : Type} {enc : TypeId × Value → H} {P : Program} {w : World} {base : Nat} {spare : Nat → Bool} {held : Bool} {t : TypeId} {f0 f1 f2 f3 f4 : Field} {c0 c1 c2 c3 c4 : Value} {fuel : Nat} {y : DataW H × List MemPlace} (hs : P.underlying t = some (.struct #[f0, f1, f2, f3, f4])) (hone : oneCellFields P #[f0, f1, f2, f3, f4] = true)
    (h : DataW.trod enc P w base spare held fuel t [c0, c1, c2, c3, c4] = some y) :
    ∃ (y0 y1 y2 y3 y4 : DataW H × List MemPlace) (n : Nat),
      DataW.trod enc P w base spare held n f0.type [c0] = some y0 ∧ DataW.trod enc P w base spare held n f1.type [c1] = some y1 ∧ DataW.trod enc P w base spare held n f2.type [c2] = some y2 ∧ DataW.trod enc P w base spare held n f3.type [c3] = some y3 ∧ DataW.trod enc P w base spare held n f4.type [c4] = some y4 := by
  obtain ⟨xs, n, _, hx, _, hlen, hg⟩ := DataW.trod_struct hs h
  obtain ⟨o0, k0⟩ := hone_of hone 0 f0 rfl
  obtain ⟨o1, k1⟩ := hone_of hone 1 f1 rfl
  obtain ⟨o2, k2⟩ := hone_of hone 2 f2 rfl
  obtain ⟨o3, k3⟩ := hone_of hone 3 f3 rfl
  obtain ⟨o4, k4⟩ := hone_of hone 4 f4 rfl
  match xs, hlen with
  | [y0, y1, y2, y3, y4], _ =>
    exact ⟨y0, y1, y2, y3, y4, n, by simpa [o0, k0] using hg 0 f0 rfl, by simpa [o1, k1] using hg 1 f1 rfl, by simpa [o2, k2] using hg 2 f2 rfl, by simpa [o3, k3] using hg 3 f3 rfl, by simpa [o4, k4] using hg 4 f4 rfl⟩

theorem words_in {H : Type} {enc : TypeId × Value → H} {w : World} {base : Nat} {r : Reach} {b0 : Nat} {v : Value} {d : DataW H} {p : List MemPlace}
    (hv : Value.okWide Try.prog w r b0 41 v) (h : DataW.Trod enc Try.prog w base (fun _ => true) true 41 v d p) :
    ∃ l, RdW w v l ∧ ∀ x ∈ l, x.ok := by
  obtain ⟨a0, len0, cap0, rfl⟩ := okWide_slice Try.underlying41 hv
  obtain ⟨fuel, hf⟩ := h
  rcases open_slice Try.underlying41 hf with ⟨hcs, _⟩ | ⟨a, len, cap, m, n, D, Pl, hcs, _, hl, hm, hmm, _, hi⟩
  · simp [Value.cells] at hcs
    obtain ⟨rfl, rfl, rfl⟩ := hcs
    exact ⟨[], Rd.nil _ _, fun x hx => nomatch hx⟩
  · simp [Value.cells] at hcs
    obtain ⟨rfl, rfl, rfl⟩ := hcs
    simp only [if_true] at hmm
    subst hmm
    have key : ∀ i, ∃ x : W, i < len0 → x.ok ∧ WAt w a i x := fun i => by
      by_cases hil : i < len0
      · obtain ⟨cs', hc, ht'⟩ := hi i (by omega)
        rw [cellsW] at hc
        obtain ⟨_, hcl, hat⟩ := World.cells?_some hc
        match cs', hcl with
        | [c0, c1, c2, c3, c4], _ =>
          have q0 := hat 0 (by decide)
          have q1 := hat 1 (by decide)
          have q2 := hat 2 (by decide)
          have q3 := hat 3 (by decide)
          have q4 := hat 4 (by decide)
          rw [Go.Deep.add_add] at q0 q1 q2 q3 q4
          obtain ⟨y0, y1, y2, y3, y4, n', h0, h1, h2, h3, h4⟩ := open_row5 Try.underlying26 (by kernel_rfl) ht'
          obtain ⟨a0, e0, -, w0⟩ := DataW.trod_int Try.underlying5 h0
          obtain ⟨a1, e1, -, w1⟩ := DataW.trod_int Try.underlying5 h1
          obtain ⟨a2, e2, -, w2⟩ := DataW.trod_int Try.underlying5 h2
          obtain ⟨a3, e3, -, w3⟩ := DataW.trod_int Try.underlying5 h3
          obtain ⟨a4, e4, -, w4⟩ := DataW.trod_int Try.underlying2 h4
          simp at e0 e1 e2 e3 e4
          subst e0 e1 e2 e3 e4
          exact ⟨⟨a0, a1, a2, a3, a4⟩, fun _ => ⟨⟨u8_bd w0, u8_bd w1, u8_bd w2, u8_bd w3, i64_bd w4⟩, q0, q1, q2, q3, q4⟩⟩
      · exact ⟨W.zero, fun h => absurd h hil⟩
    obtain ⟨f, hf2⟩ := Classical.axiomOfChoice key
    refine ⟨(List.range len0).map f, rdW_of hl hm f (fun i hi => (hf2 i hi).2), fun x hx => ?_⟩
    simp only [List.mem_map, List.mem_range] at hx
    obtain ⟨i, hi, rfl⟩ := hx
    exact (hf2 i hi).1
end Go.Proofs.Ytlnaaoigggfefaa
