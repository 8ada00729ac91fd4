/- Vm: an image among the arguments, opened. -/
import Derived.Test.YteeapfgjjankeaaVj
import Derived.Deep.Slices
import Derived.Deep.Fields
import Derived.ChangeSame
import Derived.Lib.SmallJoins
import Derived.SizedLaws
namespace Go.Proofs.Yteeapfgjjankeaa
open Go.Joins Go.ChangeShapes Go.WideShapes Go.RowKit Go.Deep

theorem flat_get {F : Nat → List Value} {k : Nat} : ∀ n, (∀ i, i < n → (F i).length = k) → ((List.range n).flatMap F).length = n * k ∧ ∀ j u, ((List.range n).flatMap F)[j]? = some u → ∃ i r, i < n ∧ j = i * k + r ∧ (F i)[r]? = some u
  | 0, _ => by simp
  | n + 1, h => by
    obtain ⟨h1, h2⟩ := flat_get n (fun i hi => h i (by omega))
    have hn := h n (by omega)
    have e : (List.range (n + 1)).flatMap F = (List.range n).flatMap F ++ F n := by rw [List.range_succ, List.flatMap_append]; simp
    rw [e]
    refine ⟨by rw [List.length_append, h1, hn, Nat.add_mul]; omega, fun j u hu => ?_⟩
    by_cases hj : j < n * k
    · rw [List.getElem?_append_left (by omega)] at hu
      obtain ⟨i, r, hi, e1, e2⟩ := h2 j u hu
      exact ⟨i, r, by omega, e1, e2⟩
    · rw [List.getElem?_append_right (by omega), h1] at hu
      exact ⟨n, j - n * k, by omega, by omega, hu⟩
theorem rows_in {H : Type} {enc : TypeId × Value → H} {P : Program} {w : World} {base fuel : Nat} {t e : TypeId} {v : Value} {y : DataW H × List MemPlace} {k : Nat} (hu : P.underlying t = some (.slice e)) (hk : P.cellsOf e = k)
    (hone : ∀ n cs' y, cs'.length = k → DataW.trod enc P w base (fun _ => true) true n e cs' = some y → ∀ u ∈ cs', u.oneCell' = true) (hf : DataW.trod enc P w base (fun _ => true) true fuel t [v] = some y) :
    ∃ n xs, Rd w k v n xs ∧ (∀ u ∈ xs, u.oneCell' = true) ∧ (n = 0 ∨ ∃ el sp, y.1 = .slice el sp ∧ n ≤ el.length + sp.length) := by
  rcases open_slice hu hf with ⟨hcs, _⟩ | ⟨a, len, cap, m, n, D, Pl, hcs, _, hl, hm, hmm, hy, hi⟩
  · simp at hcs
    subst hcs
    exact ⟨0, [], Rd.nil _ _, (fun u hu => nomatch hu), .inl rfl⟩
  · simp at hcs
    subst hcs
    simp only [if_true] at hmm
    subst hmm
    have key : ∀ i, ∃ cs : List Value, i < len → (cs.length = k ∧ (∀ u ∈ cs, u.oneCell' = true) ∧ ∀ r u, cs[r]? = some u → w.cell? (a.add (i * k + r)) = some u) := fun i => by
      by_cases hil : i < len
      · obtain ⟨cs', hc, ht'⟩ := hi i (by omega)
        rw [hk] at hc
        obtain ⟨_, hcl, hat⟩ := World.cells?_some hc
        refine ⟨cs', fun _ => ⟨hcl, hone _ _ _ hcl ht', fun r u hr => ?_⟩⟩
        obtain ⟨hr1, hr2⟩ := List.getElem?_eq_some_iff.1 hr
        have := hat r (by omega)
        rw [Go.Deep.add_add] at this
        rw [← hr2]
        first | exact this | (rw [this]; simp [hr1])
      · exact ⟨[], fun h => absurd h hil⟩
    obtain ⟨F, hF⟩ := Classical.axiomOfChoice key
    obtain ⟨g1, g2⟩ := flat_get (F := F) (k := k) len (fun i hi => (hF i hi).1)
    refine ⟨len, (List.range len).flatMap F, ⟨g1, .inr ⟨a, _, rfl, hl, hm, fun j u hu => ?_⟩⟩, fun u hu => ?_, .inr ⟨_, _, by rw [hy], by simp⟩⟩
    · obtain ⟨i, r, hi2, rfl, h3⟩ := g2 j u hu
      exact (hF i hi2).2.2 r u h3
    · obtain ⟨i, hi2, h3⟩ := List.mem_flatMap.1 hu
      exact (hF i (List.mem_range.1 hi2)).2.1 u h3

theorem row5 {H : Type} {enc : TypeId × Value → H} {P : Program} {w : World} {base : Nat} {t : TypeId} {f0 f1 f2 f3 f4 : Field} {c0 c1 c2 c3 c4 : Value} {fuel : Nat} {y : DataW H × List MemPlace} (hs : P.underlying t = some (.struct #[f0, f1, f2, f3, f4])) (hone : oneCellFields P #[f0, f1, f2, f3, f4] = true)
    (h : DataW.trod enc P w base (fun _ => true) true fuel t [c0, c1, c2, c3, c4] = some y) :
    ∃ (y0 y1 y2 y3 y4 : DataW H × List MemPlace) (n : Nat), y.1 = .agg [y0.1, y1.1, y2.1, y3.1, y4.1] ∧ DataW.trod enc P w base (fun _ => true) true n f0.type [c0] = some y0 ∧ DataW.trod enc P w base (fun _ => true) true n f1.type [c1] = some y1 ∧ DataW.trod enc P w base (fun _ => true) true n f2.type [c2] = some y2 ∧ DataW.trod enc P w base (fun _ => true) true n f3.type [c3] = some y3 ∧ DataW.trod enc P w base (fun _ => true) true n f4.type [c4] = some y4 := by
  obtain ⟨xs, n, _, hx, _, hlen, hg⟩ := DataW.trod_struct hs h
  obtain ⟨o0, k0⟩ := hone_of hone 0 f0 rfl
  obtain ⟨o1, k1⟩ := hone_of hone 1 f1 rfl
  obtain ⟨o2, k2⟩ := hone_of hone 2 f2 rfl
  obtain ⟨o3, k3⟩ := hone_of hone 3 f3 rfl
  obtain ⟨o4, k4⟩ := hone_of hone 4 f4 rfl
  match xs, hlen with
  | [y0, y1, y2, y3, y4], _ =>
    exact ⟨y0, y1, y2, y3, y4, n, by rw [hx]; rfl, by simpa [o0, k0] using hg 0 f0 rfl, by simpa [o1, k1] using hg 1 f1 rfl, by simpa [o2, k2] using hg 2 f2 rfl, by simpa [o3, k3] using hg 3 f3 rfl, by simpa [o4, k4] using hg 4 f4 rfl⟩

theorem row2 {H : Type} {enc : TypeId × Value → H} {P : Program} {w : World} {base : Nat} {t : TypeId} {f0 f1 : Field} {c0 c1 : Value} {fuel : Nat} {y : DataW H × List MemPlace} (hs : P.underlying t = some (.struct #[f0, f1])) (hone : oneCellFields P #[f0, f1] = true)
    (h : DataW.trod enc P w base (fun _ => true) true fuel t [c0, c1] = some y) :
    ∃ (y0 y1 : DataW H × List MemPlace) (n : Nat), y.1 = .agg [y0.1, y1.1] ∧ DataW.trod enc P w base (fun _ => true) true n f0.type [c0] = some y0 ∧ DataW.trod enc P w base (fun _ => true) true n f1.type [c1] = some y1 := by
  obtain ⟨xs, n, _, hx, _, hlen, hg⟩ := DataW.trod_struct hs h
  obtain ⟨o0, k0⟩ := hone_of hone 0 f0 rfl
  obtain ⟨o1, k1⟩ := hone_of hone 1 f1 rfl
  match xs, hlen with
  | [y0, y1], _ =>
    exact ⟨y0, y1, n, by rw [hx]; rfl, by simpa [o0, k0] using hg 0 f0 rfl, by simpa [o1, k1] using hg 1 f1 rfl⟩

theorem row4 {H : Type} {enc : TypeId × Value → H} {P : Program} {w : World} {base : Nat} {t : TypeId} {f0 f1 f2 f3 : Field} {c0 c1 c2 c3 : Value} {fuel : Nat} {y : DataW H × List MemPlace} (hs : P.underlying t = some (.struct #[f0, f1, f2, f3])) (hone : oneCellFields P #[f0, f1, f2, f3] = true)
    (h : DataW.trod enc P w base (fun _ => true) true fuel t [c0, c1, c2, c3] = some y) :
    ∃ (y0 y1 y2 y3 : DataW H × List MemPlace) (n : Nat), y.1 = .agg [y0.1, y1.1, y2.1, y3.1] ∧ DataW.trod enc P w base (fun _ => true) true n f0.type [c0] = some y0 ∧ DataW.trod enc P w base (fun _ => true) true n f1.type [c1] = some y1 ∧ DataW.trod enc P w base (fun _ => true) true n f2.type [c2] = some y2 ∧ DataW.trod enc P w base (fun _ => true) true n f3.type [c3] = some y3 := by
  obtain ⟨xs, n, _, hx, _, hlen, hg⟩ := DataW.trod_struct hs h
  obtain ⟨o0, k0⟩ := hone_of hone 0 f0 rfl
  obtain ⟨o1, k1⟩ := hone_of hone 1 f1 rfl
  obtain ⟨o2, k2⟩ := hone_of hone 2 f2 rfl
  obtain ⟨o3, k3⟩ := hone_of hone 3 f3 rfl
  match xs, hlen with
  | [y0, y1, y2, y3], _ =>
    exact ⟨y0, y1, y2, y3, n, by rw [hx]; rfl, by simpa [o0, k0] using hg 0 f0 rfl, by simpa [o1, k1] using hg 1 f1 rfl, by simpa [o2, k2] using hg 2 f2 rfl, by simpa [o3, k3] using hg 3 f3 rfl⟩

theorem one_intV {H : Type} {enc : TypeId × Value → H} {P : Program} {w : World} {base n : Nat} {t : TypeId} {k : IntKind} {c : Value} {y : DataW H × List MemPlace} (ht : P.underlying t = some (.int k)) (h : DataW.trod enc P w base (fun _ => true) true n t [c] = some y) : c.oneCell' = true := by
  obtain ⟨a, e, -, -⟩ := DataW.trod_int ht h
  simp at e
  subst e
  rfl

theorem cellsWord : Try.prog.cellsOf 60 = 5 := by kernel_rfl
theorem cellsEntry : Try.prog.cellsOf 62 = 2 := by kernel_rfl
theorem cellsU8 : Try.prog.cellsOf 5 = 1 := by kernel_rfl
theorem cellsImage : Try.prog.cellsOf 26 = 4 := by kernel_rfl
theorem bytesWord : Try.prog.bytesOf 60 = 16 := by kernel_rfl
theorem bytesEntry : Try.prog.bytesOf 62 = 16 := by kernel_rfl
theorem bytesU8 : Try.prog.bytesOf 5 = 1 := by kernel_rfl

section
variable {H : Type} {enc : TypeId × Value → H} {w : World} {base : Nat}

theorem hone_word (n : Nat) (cs : List Value) (y : DataW H × List MemPlace) (hl : cs.length = 5) (h : DataW.trod enc Try.prog w base (fun _ => true) true n 60 cs = some y) : ∀ u ∈ cs, u.oneCell' = true := by
  match cs, hl with
  | [c0, c1, c2, c3, c4], _ =>
    obtain ⟨y0, y1, y2, y3, y4, m, -, h0, h1, h2, h3, h4⟩ := row5 Try.underlying60 (by kernel_rfl) h
    have a0 := one_intV Try.underlying5 h0
    have a1 := one_intV Try.underlying5 h1
    have a2 := one_intV Try.underlying5 h2
    have a3 := one_intV Try.underlying5 h3
    have a4 := one_intV Try.underlying2 h4
    intro u hu
    simp only [List.mem_cons, List.not_mem_nil, or_false] at hu
    rcases hu with rfl | rfl | rfl | rfl | rfl <;> assumption
theorem hone_entry (n : Nat) (cs : List Value) (y : DataW H × List MemPlace) (hl : cs.length = 2) (h : DataW.trod enc Try.prog w base (fun _ => true) true n 62 cs = some y) : ∀ u ∈ cs, u.oneCell' = true := by
  match cs, hl with
  | [c0, c1], _ =>
    obtain ⟨y0, y1, m, -, h0, h1⟩ := row2 Try.underlying62 (by kernel_rfl) h
    have a0 := one_intV Try.underlying3 h0
    have a1 := one_intV Try.underlying3 h1
    intro u hu
    simp only [List.mem_cons, List.not_mem_nil, or_false] at hu
    rcases hu with rfl | rfl <;> assumption
theorem hone_u8 (n : Nat) (cs : List Value) (y : DataW H × List MemPlace) (hl : cs.length = 1) (h : DataW.trod enc Try.prog w base (fun _ => true) true n 5 cs = some y) : ∀ u ∈ cs, u.oneCell' = true := by
  match cs, hl with
  | [c0], _ =>
    have a0 := one_intV Try.underlying5 h
    intro u hu
    simp only [List.mem_cons, List.not_mem_nil, or_false] at hu
    subst hu
    exact a0

set_option maxRecDepth 100000 in
theorem image_in {r : Reach} {b0 : Nat} {v : Value} {d : DataW H} {p : List MemPlace} (hv : Value.okWide Try.prog w r b0 26 v) (h : DataW.Trod enc Try.prog w base (fun _ => true) true 26 v d p) :
    ∃ (wv ev dv : Value) (m : Int) (wn en dn : Nat) (wx ex dx : List Value) (a b c e : DataW H), v = .agg #[wv, ev, .int .i64 m, dv] ∧ d = .agg [a, b, c, e] ∧
      Rd w 5 wv wn wx ∧ (∀ u ∈ wx, u.oneCell' = true) ∧ (wn = 0 ∨ ∃ el sp, a = .slice el sp ∧ wn ≤ el.length + sp.length) ∧
      Rd w 2 ev en ex ∧ (∀ u ∈ ex, u.oneCell' = true) ∧ (en = 0 ∨ ∃ el sp, b = .slice el sp ∧ en ≤ el.length + sp.length) ∧
      Rd w 1 dv dn dx ∧ (∀ u ∈ dx, u.oneCell' = true) ∧ (dn = 0 ∨ ∃ el sp, e = .slice el sp ∧ dn ≤ el.length + sp.length) := by
  obtain ⟨cs, rfl, hsz⟩ := okWide_struct Try.underlying26 hv
  obtain ⟨l⟩ := cs
  match l, hsz.trans cellsImage with
  | [c0, c1, c2, c3], _ =>
    obtain ⟨fuel, hf⟩ := h
    obtain ⟨y0, y1, y2, y3, n, hd, h0, h1, h2, h3⟩ := row4 Try.underlying26 (by kernel_rfl) hf
    obtain ⟨wn, wx, a1, a2, a3⟩ := rows_in Try.underlying22 cellsWord hone_word h0
    obtain ⟨en, ex, b1, b2, b3⟩ := rows_in Try.underlying23 cellsEntry hone_entry h1
    obtain ⟨m, e2, -, -⟩ := DataW.trod_int Try.underlying3 h2
    obtain ⟨dn, dx, d1, d2, d3⟩ := rows_in Try.underlying24 cellsU8 hone_u8 h3
    simp at e2
    subst e2
    exact ⟨c0, c1, c3, m, wn, en, dn, wx, ex, dx, _, _, _, _, rfl, hd, a1, a2, a3, b1, b2, b3, d1, d2, d3⟩
set_option maxRecDepth 100000 in
theorem bytes_inV {v : Value} {d : DataW H} {p : List MemPlace} {r : Reach} {b0 : Nat} (hv : Value.okWide Try.prog w r b0 24 v) (h : DataW.Trod enc Try.prog w base (fun _ => true) true 24 v d p) : ∃ n xs, Rd w 1 v n xs := by
  obtain ⟨a0, len0, cap0, rfl⟩ := okWide_slice Try.underlying24 hv
  obtain ⟨fuel, hf⟩ := h
  obtain ⟨n, xs, h1, -, -⟩ := rows_in Try.underlying24 cellsU8 hone_u8 hf
  exact ⟨n, xs, h1⟩

theorem image_sized {a b c e : DataW H} {ts : List TypeId} {ds : List (DataW H)} {j : Nat} (hsz : (DataW.weightsEach Try.prog ts ds).all (· ≤ reachBytes) = true) (ht : ts[j]? = some 26) (hd : ds[j]? = some (.agg [a, b, c, e])) {wn en dn : Nat}
    (hw : wn = 0 ∨ ∃ el sp, a = .slice el sp ∧ wn ≤ el.length + sp.length) (he : en = 0 ∨ ∃ el sp, b = .slice el sp ∧ en ≤ el.length + sp.length) (hdd : dn = 0 ∨ ∃ el sp, e = .slice el sp ∧ dn ≤ el.length + sp.length) :
    wn * 16 ≤ 140737488355328 ∧ en * 16 ≤ 140737488355328 ∧ dn * 1 ≤ 140737488355328 := by
  have key : ∀ (i : Nat) (t e0 : TypeId) (el sp : List (DataW H)), ([22, 23, 3, 24] : List TypeId)[i]? = some t → [a, b, c, e][i]? = some (.slice el sp) → Try.prog.underlying t = some (.slice e0) → (el.length + sp.length) * Try.prog.bytesOf e0 ≤ reachBytes := by
    intro i t e0 el sp h1 h2 h3
    have hm : (el.length + sp.length) * Try.prog.bytesOf e0 ∈ DataW.weights Try.prog 26 (.agg [a, b, c, e]) := by
      simp only [DataW.weights, Try.underlying26]
      exact DataW.weights_mem_each h1 h2 _ (by simp [DataW.weights, h3])
    have := List.all_eq_true.1 hsz _ (DataW.weights_mem_each ht hd _ hm)
    simpa using this
  have hr : reachBytes = 140737488351232 := rfl
  refine ⟨?_, ?_, ?_⟩
  · rcases hw with rfl | ⟨el, sp, rfl, hh⟩
    · omega
    · have := key 0 _ _ el sp rfl rfl Try.underlying22
      rw [bytesWord] at this
      omega
  · rcases he with rfl | ⟨el, sp, rfl, hh⟩
    · omega
    · have := key 1 _ _ el sp rfl rfl Try.underlying23
      rw [bytesEntry] at this
      omega
  · rcases hdd with rfl | ⟨el, sp, rfl, hh⟩
    · omega
    · have := key 3 _ _ el sp rfl rfl Try.underlying24
      rw [bytesU8] at this
      omega
end
end Go.Proofs.Yteeapfgjjankeaa
