/- An image, numbers, bytes among the arguments, opened. (Turned from vet XFo.) -/
import Derived.Test.YteeapfgjjankeaaQ19
import Derived.Deep.Slices
import Derived.Deep.Fields
import Derived.ChangeSame
import Derived.ProofKit
import Derived.OpenShut
import Derived.Lib.SmallJoins
import Derived.SizedLaws
namespace Go.Proofs.Yteeapfgjjankeaa.Mach
open Go.Joins Go.ChangeShapes Go.WideShapes Go.RowKit Go.Deep

theorem flat_at22 {F : Nat → List Value} {k : Nat} : ∀ n, (∀ i, i < n → (F i).length = k) → ((List.range n).flatMap F).length = n * k ∧ ∀ i r, i < n → r < k → ((List.range n).flatMap F)[i * k + r]? = (F i)[r]?
  | 0, _ => by simp
  | n + 1, h => by
    obtain ⟨h1, h2⟩ := flat_at22 n (fun i hi => h i (by omega))
    have hn := h n (by omega)
    have e : (List.range (n + 1)).flatMap F = (List.range n).flatMap F ++ F n := by rw [List.range_succ, List.flatMap_append]; simp
    rw [e]
    refine ⟨by rw [List.length_append, h1, hn, Nat.add_mul]; omega, fun i r hi hr => ?_⟩
    by_cases hin : i < n
    · have : (i + 1) * k ≤ n * k := Nat.mul_le_mul_right _ hin
      rw [Nat.succ_mul] at this
      rw [List.getElem?_append_left (by omega)]
      exact h2 i r hin hr
    · obtain rfl : i = n := by omega
      rw [List.getElem?_append_right (by omega), h1, Nat.add_sub_cancel_left]

theorem slice_open22 {H : Type} {enc : TypeId × Value → H} {P : Program} {w : World} {base fuel : Nat} {t e : TypeId} {v : Value} {y : DataW H × List MemPlace} {α : Type} [Inhabited α] {k : Nat} (Pe : List Value → α → Prop) (hu : P.underlying t = some (.slice e)) (hk : P.cellsOf e = k)
    (hone : ∀ n cs' y, cs'.length = k → DataW.trod enc P w base (fun _ => true) true n e cs' = some y → ∃ x, Pe cs' x) (hf : DataW.trod enc P w base (fun _ => true) true fuel t [v] = some y) :
    ∃ (xs : List α) (cells : List Value), Rd w k v xs.length cells ∧ (∀ i (h : i < xs.length), ∃ cs, cs.length = k ∧ Pe cs xs[i] ∧ ∀ r, r < k → cells[i * k + r]? = cs[r]?) ∧ (xs.length = 0 ∨ ∃ el sp, y.1 = .slice el sp ∧ xs.length ≤ el.length + sp.length) := by
  rcases open_slice hu hf with ⟨hcs, rfl⟩ | ⟨a, len, cap, m, n, D, Pl, hcs, _, hl, hm, hmm, hy, hi⟩
  · simp at hcs
    subst hcs
    exact ⟨[], [], Rd.nil _ _, fun i h => absurd h (by simp), .inl rfl⟩
  · simp at hcs
    subst hcs
    simp only [if_true] at hmm
    subst hmm
    have key : ∀ i, ∃ x : List Value × α, i < len → (x.1.length = k ∧ Pe x.1 x.2 ∧ ∀ r u, x.1[r]? = some u → w.cell? (a.add (i * k + r)) = some u) := fun i => by
      by_cases hil : i < len
      · obtain ⟨cs', hc, ht'⟩ := hi i (by omega)
        rw [hk] at hc
        obtain ⟨_, hcl, hat⟩ := World.cells?_some hc
        obtain ⟨x, hx1⟩ := hone _ _ _ hcl ht'
        refine ⟨(cs', x), fun _ => ⟨hcl, hx1, fun r u hr => ?_⟩⟩
        obtain ⟨hr1, hr2⟩ := List.getElem?_eq_some_iff.1 hr
        have := hat r (by simp only at hr1; omega)
        rw [Go.Deep.add_add] at this
        rw [← hr2]
        first | exact this | (rw [this]; simp [hr1])
      · exact ⟨([], default), fun h => absurd h hil⟩
    obtain ⟨F, hF⟩ := Classical.axiomOfChoice key
    obtain ⟨g1, g2⟩ := flat_at22 (F := fun i => (F i).1) (k := k) len (fun i hi => (hF i hi).1)
    have hlen : ((List.range len).map fun i => (F i).2).length = len := by simp
    refine ⟨(List.range len).map fun i => (F i).2, (List.range len).flatMap fun i => (F i).1, ?_, fun i hi => ?_, .inr ⟨_, _, by rw [hy], by simp⟩⟩
    · rw [hlen]
      refine ⟨g1, .inr ⟨a, _, rfl, hl, hm, fun j u hu => ?_⟩⟩
      have hj : j < len * k := by rw [← g1]; exact (List.getElem?_eq_some_iff.1 hu).1
      have hk0 : 0 < k := Nat.pos_of_ne_zero (fun e => by subst e; simp at hj)
      have hdiv : j / k < len := (Nat.div_lt_iff_lt_mul hk0).2 hj
      have hmod := Nat.mod_lt j hk0
      have he : j / k * k + j % k = j := by rw [Nat.mul_comm]; exact Nat.div_add_mod j k
      have h3 := g2 (j / k) (j % k) hdiv hmod
      rw [he, hu] at h3
      have := (hF _ hdiv).2.2 _ _ h3.symm
      rwa [he] at this
    · rw [hlen] at hi
      have e : ((List.range len).map fun i => (F i).2)[i]'(by rw [hlen]; exact hi) = (F i).2 := by simp
      rw [e]
      exact ⟨(F i).1, (hF i hi).1, (hF i hi).2.1, fun r hr => g2 i r hi hr⟩
theorem open2_22 {H : Type} {enc : TypeId × Value → H} {P : Program} {w : World} {base : Nat} {t : TypeId} {f0 f1 : Field} {c0 c1 : Value} {fuel : Nat} {y : DataW H × List MemPlace} (hs : P.underlying t = some (.struct #[f0, f1])) (hone : oneCellFields P #[f0, f1] = true)
    (h : DataW.trod enc P w base (fun _ => true) true fuel t [c0, c1] = some y) :
    ∃ (y0 y1 : DataW H × List MemPlace) (n : Nat), DataW.trod enc P w base (fun _ => true) true n f0.type [c0] = some y0 ∧ DataW.trod enc P w base (fun _ => true) true n f1.type [c1] = some y1 := by
  obtain ⟨xs, n, _, hx, _, hlen, hg⟩ := DataW.trod_struct hs h
  obtain ⟨o0, k0⟩ := hone_of hone 0 f0 rfl
  obtain ⟨o1, k1⟩ := hone_of hone 1 f1 rfl
  match xs, hlen with
  | [y0, y1], _ =>
    exact ⟨y0, y1, n, by simpa [o0, k0] using hg 0 f0 rfl, by simpa [o1, k1] using hg 1 f1 rfl⟩
theorem open4_22 {H : Type} {enc : TypeId × Value → H} {P : Program} {w : World} {base : Nat} {t : TypeId} {f0 f1 f2 f3 : Field} {c0 c1 c2 c3 : Value} {fuel : Nat} {y : DataW H × List MemPlace} (hs : P.underlying t = some (.struct #[f0, f1, f2, f3])) (hone : oneCellFields P #[f0, f1, f2, f3] = true)
    (h : DataW.trod enc P w base (fun _ => true) true fuel t [c0, c1, c2, c3] = some y) :
    ∃ (y0 y1 y2 y3 : DataW H × List MemPlace) (n : Nat), DataW.trod enc P w base (fun _ => true) true n f0.type [c0] = some y0 ∧ DataW.trod enc P w base (fun _ => true) true n f1.type [c1] = some y1 ∧ DataW.trod enc P w base (fun _ => true) true n f2.type [c2] = some y2 ∧ DataW.trod enc P w base (fun _ => true) true n f3.type [c3] = some y3 := by
  obtain ⟨xs, n, _, hx, _, hlen, hg⟩ := DataW.trod_struct hs h
  obtain ⟨o0, k0⟩ := hone_of hone 0 f0 rfl
  obtain ⟨o1, k1⟩ := hone_of hone 1 f1 rfl
  obtain ⟨o2, k2⟩ := hone_of hone 2 f2 rfl
  obtain ⟨o3, k3⟩ := hone_of hone 3 f3 rfl
  match xs, hlen with
  | [y0, y1, y2, y3], _ =>
    exact ⟨y0, y1, y2, y3, n, by simpa [o0, k0] using hg 0 f0 rfl, by simpa [o1, k1] using hg 1 f1 rfl, by simpa [o2, k2] using hg 2 f2 rfl, by simpa [o3, k3] using hg 3 f3 rfl⟩
theorem open5_22 {H : Type} {enc : TypeId × Value → H} {P : Program} {w : World} {base : Nat} {t : TypeId} {f0 f1 f2 f3 f4 : Field} {c0 c1 c2 c3 c4 : Value} {fuel : Nat} {y : DataW H × List MemPlace} (hs : P.underlying t = some (.struct #[f0, f1, f2, f3, f4])) (hone : oneCellFields P #[f0, f1, f2, f3, f4] = true)
    (h : DataW.trod enc P w base (fun _ => true) true fuel t [c0, c1, c2, c3, c4] = some y) :
    ∃ (y0 y1 y2 y3 y4 : DataW H × List MemPlace) (n : Nat), DataW.trod enc P w base (fun _ => true) true n f0.type [c0] = some y0 ∧ DataW.trod enc P w base (fun _ => true) true n f1.type [c1] = some y1 ∧ DataW.trod enc P w base (fun _ => true) true n f2.type [c2] = some y2 ∧ DataW.trod enc P w base (fun _ => true) true n f3.type [c3] = some y3 ∧ DataW.trod enc P w base (fun _ => true) true n f4.type [c4] = some y4 := by
  obtain ⟨xs, n, _, hx, _, hlen, hg⟩ := DataW.trod_struct hs h
  obtain ⟨o0, k0⟩ := hone_of hone 0 f0 rfl
  obtain ⟨o1, k1⟩ := hone_of hone 1 f1 rfl
  obtain ⟨o2, k2⟩ := hone_of hone 2 f2 rfl
  obtain ⟨o3, k3⟩ := hone_of hone 3 f3 rfl
  obtain ⟨o4, k4⟩ := hone_of hone 4 f4 rfl
  match xs, hlen with
  | [y0, y1, y2, y3, y4], _ =>
    exact ⟨y0, y1, y2, y3, y4, n, by simpa [o0, k0] using hg 0 f0 rfl, by simpa [o1, k1] using hg 1 f1 rfl, by simpa [o2, k2] using hg 2 f2 rfl, by simpa [o3, k3] using hg 3 f3 rfl, by simpa [o4, k4] using hg 4 f4 rfl⟩
theorem int_cell22 {H : Type} {enc : TypeId × Value → H} {P : Program} {w : World} {base n : Nat} {t : TypeId} {k : IntKind} {c : Value} {y : DataW H × List MemPlace} (ht : P.underlying t = some (.int k)) (h : DataW.trod enc P w base (fun _ => true) true n t [c] = some y) : ∃ a : Int, c = .int k a ∧ (Lit.int k a).wf = true := by
  obtain ⟨a, e, -, hw⟩ := DataW.trod_int ht h
  simp at e
  subst e
  exact ⟨a, rfl, hw⟩
theorem i64_wf {a : Int} (h : (Lit.int .i64 a).wf = true) : i64 a := by
  simp [Lit.wf, IntKind.min, IntKind.max, IntKind.signed, IntKind.bits] at h
  exact h
theorem u16_wf {a : Int} (h : (Lit.int .u16 a).wf = true) : 0 ≤ a ∧ a < 65536 := by
  simp [Lit.wf, IntKind.min, IntKind.max, IntKind.signed, IntKind.bits] at h
  omega
theorem u8_wf {a : Int} (h : (Lit.int .u8 a).wf = true) : 0 ≤ a ∧ a ≤ 255 := by
  simp [Lit.wf, IntKind.min, IntKind.max, IntKind.signed, IntKind.bits] at h
  omega
theorem cellsWord22 : Try.prog.cellsOf 60 = 5 := by kernel_rfl
theorem cellsEntry22 : Try.prog.cellsOf 62 = 2 := by kernel_rfl
theorem cellsU822 : Try.prog.cellsOf 5 = 1 := by kernel_rfl
theorem cellsImage22 : Try.prog.cellsOf 26 = 4 := by kernel_rfl
instance : Inhabited W := ⟨⟨0, 0, 0, 0, 0⟩⟩

def ImgArg (w : World) (v : Value) (x : List W × List (Int × Int) × Int × List Int) : Prop := ∃ wv ev dv, v = .agg #[wv, ev, .int .i64 x.2.2.1, dv] ∧ RdW w wv x.1 ∧ (∀ y ∈ x.1, y.ok) ∧ RdE w ev x.2.1 ∧ (∀ y ∈ x.2.1, i64 y.1 ∧ i64 y.2) ∧ RdB w dv x.2.2.2 ∧ isB x.2.2.2

theorem cells_eq22 {α : Type} {k : Nat} (hk : 0 < k) (f : α → List Value) (hf : ∀ x, (f x).length = k) (F : List α → List Value) (hF0 : F [] = []) (hF : ∀ x r, F (x :: r) = f x ++ F r) : ∀ (xs : List α) (cells : List Value), cells.length = xs.length * k → (∀ i (h : i < xs.length), ∀ r, r < k → cells[i * k + r]? = (f xs[i])[r]?) → cells = F xs
  | [], cells, hl, _ => by rw [hF0]; exact List.eq_nil_of_length_eq_zero (by simpa using hl)
  | x :: xs, cells, hl, hc => by
    have hl2 : cells.length = xs.length * k + k := by rw [hl, List.length_cons, Nat.succ_mul]
    have e1 : cells.take k = f x := by
      apply List.ext_getElem?
      intro r
      by_cases hr : r < k
      · rw [List.getElem?_take_of_lt hr]
        have := hc 0 (by simp) r hr
        simpa using this
      · rw [List.getElem?_eq_none (by rw [List.length_take]; omega), List.getElem?_eq_none (by rw [hf]; omega)]
    have e2 : cells.drop k = F xs := cells_eq22 hk f hf F hF0 hF xs (cells.drop k) (by rw [List.length_drop]; omega) (fun i hi r hr => by
      rw [List.getElem?_drop]
      have := hc (i + 1) (by simpa using hi) r hr
      rw [Nat.succ_mul] at this
      rw [show k + (i * k + r) = i * k + k + r by omega, this]
      simp)
    rw [hF, ← e1, ← e2, List.take_append_drop]

set_option maxRecDepth 100000 in
theorem image_in {H : Type} {enc : TypeId × Value → H} {w : World} {base : Nat} {r : Reach} {b0 : Nat} {v : Value} {d : DataW H} {p : List MemPlace} (hv : Value.okWide Try.prog w r b0 26 v) (h : DataW.Trod enc Try.prog w base (fun _ => true) true 26 v d p) :
    ∃ x, ImgArg w v x := by
  obtain ⟨cs, rfl, hsz⟩ := okWide_struct Try.underlying26 hv
  obtain ⟨l⟩ := cs
  match l, hsz.trans cellsImage22 with
  | [c0, c1, c2, c3], _ =>
    obtain ⟨fuel, hf⟩ := h
    obtain ⟨y0, y1, y2, y3, n, h0, h1, h2, h3⟩ := open4_22 Try.underlying26 (by kernel_rfl) hf
    obtain ⟨xs, wc, a1, a2, -⟩ := slice_open22 (α := W) (fun cs x => cs = [.int .u8 x.op, .int .u8 x.a, .int .u8 x.b, .int .u8 x.c, .int .i64 x.imm] ∧ x.ok) Try.underlying22 cellsWord22 (fun n cs' y hl ht => by
      match cs', hl with
      | [e0, e1, e2, e3, e4], _ =>
        obtain ⟨z0, z1, z2, z3, z4, n', t0, t1, t2, t3, t4⟩ := open5_22 Try.underlying60 (by kernel_rfl) ht
        obtain ⟨q0, rfl, w0⟩ := int_cell22 Try.underlying5 t0
        obtain ⟨q1, rfl, w1⟩ := int_cell22 Try.underlying5 t1
        obtain ⟨q2, rfl, w2⟩ := int_cell22 Try.underlying5 t2
        obtain ⟨q3, rfl, w3⟩ := int_cell22 Try.underlying5 t3
        obtain ⟨q4, rfl, w4⟩ := int_cell22 Try.underlying2 t4
        simp [Lit.wf, IntKind.min, IntKind.max, IntKind.signed, IntKind.bits] at w0 w1 w2 w3 w4
        exact ⟨⟨q0, q1, q2, q3, q4⟩, rfl, by unfold W.ok; simp only; omega⟩) h0
    obtain ⟨es, ec, b1, b2, -⟩ := slice_open22 (α := Int × Int) (fun cs x => cs = [.int .i64 x.1, .int .i64 x.2] ∧ i64 x.1 ∧ i64 x.2) Try.underlying23 cellsEntry22 (fun n cs' y hl ht => by
      match cs', hl with
      | [e0, e1], _ =>
        obtain ⟨z0, z1, n', t0, t1⟩ := open2_22 Try.underlying62 (by kernel_rfl) ht
        obtain ⟨q0, rfl, w0⟩ := int_cell22 Try.underlying3 t0
        obtain ⟨q1, rfl, w1⟩ := int_cell22 Try.underlying3 t1
        exact ⟨(q0, q1), rfl, i64_wf w0, i64_wf w1⟩) h1
    obtain ⟨q2, rfl, -⟩ := int_cell22 Try.underlying3 h2
    obtain ⟨ds, dc, d1, d2, -⟩ := slice_open22 (α := Int) (fun cs x => cs = [.int .u8 x] ∧ (0 ≤ x ∧ x ≤ 255)) Try.underlying24 cellsU822 (fun n cs' y hl ht => by
      match cs', hl with
      | [e0], _ =>
        obtain ⟨q0, rfl, w0⟩ := int_cell22 Try.underlying5 ht
        simp [Lit.wf, IntKind.min, IntKind.max, IntKind.signed, IntKind.bits] at w0
        exact ⟨q0, rfl, by omega⟩) h3
    have ew : wc = cW xs := cells_eq22 (by decide) (fun x => [.int .u8 x.op, .int .u8 x.a, .int .u8 x.b, .int .u8 x.c, .int .i64 x.imm]) (fun _ => rfl) cW rfl (fun _ _ => rfl) xs wc a1.1 (fun i hi r hr => by obtain ⟨cs, -, hp, hc⟩ := a2 i hi; rw [hc r hr, hp.1])
    have ee : ec = entC es := cells_eq22 (by decide) (fun x => [.int .i64 x.1, .int .i64 x.2]) (fun _ => rfl) entC rfl (fun _ _ => rfl) es ec b1.1 (fun i hi r hr => by obtain ⟨cs, -, hp, hc⟩ := b2 i hi; rw [hc r hr, hp.1])
    have ed : dc = ds.map (Value.int .u8) := cells_eq22 (by decide) (fun x => [.int .u8 x]) (fun _ => rfl) (List.map (Value.int .u8)) rfl (fun _ _ => rfl) ds dc d1.1 (fun i hi r hr => by obtain ⟨cs, -, hp, hc⟩ := d2 i hi; rw [hc r hr, hp.1])
    subst ew ee ed
    refine ⟨(xs, es, q2, ds), c0, c1, c3, rfl, a1, fun y hy => ?_, b1, fun y hy => ?_, d1, fun y hy => ?_⟩
    · obtain ⟨i, hi, rfl⟩ := List.getElem_of_mem hy
      obtain ⟨_, _, hp, _⟩ := a2 i hi
      exact hp.2
    · obtain ⟨i, hi, rfl⟩ := List.getElem_of_mem hy
      obtain ⟨_, _, hp, _⟩ := b2 i hi
      exact hp.2
    · obtain ⟨i, hi, rfl⟩ := List.getElem_of_mem hy
      obtain ⟨_, _, hp, _⟩ := d2 i hi
      exact hp.2
theorem cellsI64 : Try.prog.cellsOf 2 = 1 := by kernel_rfl
theorem bytesI64 : Try.prog.bytesOf 2 = 8 := by kernel_rfl
theorem bytesU822 : Try.prog.bytesOf 5 = 1 := by kernel_rfl
set_option maxRecDepth 100000 in
theorem i64s_in {H : Type} {enc : TypeId × Value → H} {w : World} {base : Nat} {v : Value} {d : DataW H} {p : List MemPlace} {r : Reach} {b0 : Nat} (hv : Value.okWide Try.prog w r b0 27 v) (h : DataW.Trod enc Try.prog w base (fun _ => true) true 27 v d p) :
    ∃ l : List Int, Rd w 1 v l.length (intsV l) ∧ I64s l ∧ (l.length = 0 ∨ ∃ el sp, d = .slice el sp ∧ l.length ≤ el.length + sp.length) := by
  obtain ⟨a0, len0, cap0, rfl⟩ := okWide_slice Try.underlying27 hv
  obtain ⟨fuel, hf⟩ := h
  obtain ⟨ds, dc, d1, d2, d3⟩ := slice_open22 (α := Int) (fun cs x => cs = [.int .i64 x] ∧ i64 x) Try.underlying27 cellsI64 (fun n cs' y hl ht => by
      match cs', hl with
      | [e0], _ =>
        obtain ⟨q0, rfl, w0⟩ := int_cell22 Try.underlying2 ht
        exact ⟨q0, rfl, i64_wf w0⟩) hf
  have ed : dc = intsV ds := cells_eq22 (by decide) (fun x => [.int .i64 x]) (fun _ => rfl) intsV rfl (fun _ _ => rfl) ds dc d1.1 (fun i hi r hr => by obtain ⟨cs, -, hp, hc⟩ := d2 i hi; rw [hc r hr, hp.1])
  rw [ed] at d1
  refine ⟨ds, d1, fun y hy => ?_, d3⟩
  obtain ⟨i, hi, rfl⟩ := List.getElem_of_mem hy
  obtain ⟨_, _, hp, _⟩ := d2 i hi
  exact hp.2
set_option maxRecDepth 100000 in
theorem u8s_in {H : Type} {enc : TypeId × Value → H} {w : World} {base : Nat} {v : Value} {d : DataW H} {p : List MemPlace} {r : Reach} {b0 : Nat} (hv : Value.okWide Try.prog w r b0 24 v) (h : DataW.Trod enc Try.prog w base (fun _ => true) true 24 v d p) :
    ∃ l : List Int, RdB w v l ∧ isB l ∧ (l.length = 0 ∨ ∃ el sp, d = .slice el sp ∧ l.length ≤ el.length + sp.length) := by
  obtain ⟨a0, len0, cap0, rfl⟩ := okWide_slice Try.underlying24 hv
  obtain ⟨fuel, hf⟩ := h
  obtain ⟨ds, dc, d1, d2, d3⟩ := slice_open22 (α := Int) (fun cs x => cs = [.int .u8 x] ∧ (0 ≤ x ∧ x ≤ 255)) Try.underlying24 cellsU822 (fun n cs' y hl ht => by
      match cs', hl with
      | [e0], _ =>
        obtain ⟨q0, rfl, w0⟩ := int_cell22 Try.underlying5 ht
        exact ⟨q0, rfl, u8_wf w0⟩) hf
  have ed : dc = ds.map (Value.int .u8) := cells_eq22 (by decide) (fun x => [.int .u8 x]) (fun _ => rfl) (List.map (Value.int .u8)) rfl (fun _ _ => rfl) ds dc d1.1 (fun i hi r hr => by obtain ⟨cs, -, hp, hc⟩ := d2 i hi; rw [hc r hr, hp.1])
  rw [ed] at d1
  refine ⟨ds, d1, fun y hy => ?_, d3⟩
  obtain ⟨i, hi, rfl⟩ := List.getElem_of_mem hy
  obtain ⟨_, _, hp, _⟩ := d2 i hi
  exact hp.2
/-- No list among the arguments is longer than can be. -/
theorem list_sized {H : Type} {d : DataW H} {ts : List TypeId} {ds : List (DataW H)} {j : Nat} {t e0 : TypeId} {n : Nat} (hsz : (DataW.weightsEach Try.prog ts ds).all (· ≤ reachBytes) = true) (ht : ts[j]? = some t) (hd : ds[j]? = some d) (hu : Try.prog.underlying t = some (.slice e0)) (h : n = 0 ∨ ∃ el sp, d = .slice el sp ∧ n ≤ el.length + sp.length) :
    n * Try.prog.bytesOf e0 ≤ 140737488351232 := by
  rcases h with rfl | ⟨el, sp, rfl, hh⟩
  · omega
  · have hm : (el.length + sp.length) * Try.prog.bytesOf e0 ∈ DataW.weights Try.prog t (.slice el sp) := by simp [DataW.weights, hu]
    have := List.all_eq_true.1 hsz _ (DataW.weights_mem_each ht hd _ hm)
    have h2 : (el.length + sp.length) * Try.prog.bytesOf e0 ≤ reachBytes := by simpa using this
    have hr : reachBytes = 140737488351232 := rfl
    exact Nat.le_trans (Nat.mul_le_mul_right _ hh) (by omega)
end Go.Proofs.Yteeapfgjjankeaa.Mach
