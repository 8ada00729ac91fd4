/- Vet: an image among the arguments, opened. (Parts turned from locs XOd.) -/
import Derived.Test.YtnanlkoldloolaaDoorQ15
import Derived.Deep.Slices
import Derived.Deep.Fields
import Derived.ChangeSame
import Derived.ProofKit
import Derived.OpenShut
import Derived.Lib.SmallJoins
import Derived.Test.YtnanlkoldloolaaDoorQ7
import Derived.Test.YtnanlkoldloolaaDoorQFv
import Derived.Test.YtnanlkoldloolaaDoorQ16
import Derived.Test.YtnanlkoldloolaaDoorQ20
import Derived.Test.YtnanlkoldloolaaDoorQ18
namespace Go.Proofs.YtnanlkoldloolaaDoor
open Go.Joins Go.ChangeShapes Go.WideShapes Go.RowKit Go.Deep

theorem flat_at22 {F : Nat → List Value} {k : Nat} : ∀ n, (∀ i, i < n → (F i).length = k) → ((List.range n).flatMap F).length = n * k ∧ ∀ i r, i < n → r < k → ((List.range n).flatMap F)[i * k + r]? = (F i)[r]?
  | 0, _ => by simp
  | n + 1, h => by
    obtain ⟨h1, h2⟩ := flat_at22 n (fun i hi => h i (by omega))
    have hn := h n (by omega)
    have e : (List.range (n + 1)).flatMap F = (List.range n).flatMap F ++ F n := by rw [List.range_succ, List.flatMap_append]; simp
    rw [e]
    refine ⟨by rw [List.length_append, h1, hn, Nat.add_mul]; omega, fun i r hi hr => ?_⟩
    by_cases hin : i < n
    · have : (i + 1) * k ≤ n * k := Nat.mul_le_mul_right _ hin
      rw [Nat.succ_mul] at this
      rw [List.getElem?_append_left (by omega)]
      exact h2 i r hin hr
    · obtain rfl : i = n := by omega
      rw [List.getElem?_append_right (by omega), h1, Nat.add_sub_cancel_left]

theorem slice_open22 {H : Type} {enc : TypeId × Value → H} {P : Program} {w : World} {base fuel : Nat} {t e : TypeId} {v : Value} {y : DataW H × List MemPlace} {α : Type} [Inhabited α] {k : Nat} (Pe : List Value → α → Prop) (hu : P.underlying t = some (.slice e)) (hk : P.cellsOf e = k)
    (hone : ∀ n cs' y, cs'.length = k → DataW.trod enc P w base (fun _ => true) true n e cs' = some y → ∃ x, Pe cs' x) (hf : DataW.trod enc P w base (fun _ => true) true fuel t [v] = some y) :
    ∃ (xs : List α) (cells : List Value), Rd w k v xs.length cells ∧ (∀ i (h : i < xs.length), ∃ cs, cs.length = k ∧ Pe cs xs[i] ∧ ∀ r, r < k → cells[i * k + r]? = cs[r]?) := by
  rcases open_slice hu hf with ⟨hcs, rfl⟩ | ⟨a, len, cap, m, n, D, Pl, hcs, _, hl, hm, hmm, hy, hi⟩
  · simp at hcs
    subst hcs
    exact ⟨[], [], Rd.nil _ _, fun i h => absurd h (by simp)⟩
  · simp at hcs
    subst hcs
    simp only [if_true] at hmm
    subst hmm
    have key : ∀ i, ∃ x : List Value × α, i < len → (x.1.length = k ∧ Pe x.1 x.2 ∧ ∀ r u, x.1[r]? = some u → w.cell? (a.add (i * k + r)) = some u) := fun i => by
      by_cases hil : i < len
      · obtain ⟨cs', hc, ht'⟩ := hi i (by omega)
        rw [hk] at hc
        obtain ⟨_, hcl, hat⟩ := World.cells?_some hc
        obtain ⟨x, hx1⟩ := hone _ _ _ hcl ht'
        refine ⟨(cs', x), fun _ => ⟨hcl, hx1, fun r u hr => ?_⟩⟩
        obtain ⟨hr1, hr2⟩ := List.getElem?_eq_some_iff.1 hr
        have := hat r (by simp only at hr1; omega)
        rw [Go.Deep.add_add] at this
        rw [← hr2]
        first | exact this | (rw [this]; simp [hr1])
      · exact ⟨([], default), fun h => absurd h hil⟩
    obtain ⟨F, hF⟩ := Classical.axiomOfChoice key
    obtain ⟨g1, g2⟩ := flat_at22 (F := fun i => (F i).1) (k := k) len (fun i hi => (hF i hi).1)
    have hlen : ((List.range len).map fun i => (F i).2).length = len := by simp
    refine ⟨(List.range len).map fun i => (F i).2, (List.range len).flatMap fun i => (F i).1, ?_, fun i hi => ?_⟩
    · rw [hlen]
      refine ⟨g1, .inr ⟨a, _, rfl, hl, hm, fun j u hu => ?_⟩⟩
      have hj : j < len * k := by rw [← g1]; exact (List.getElem?_eq_some_iff.1 hu).1
      have hk0 : 0 < k := Nat.pos_of_ne_zero (fun e => by subst e; simp at hj)
      have hdiv : j / k < len := (Nat.div_lt_iff_lt_mul hk0).2 hj
      have hmod := Nat.mod_lt j hk0
      have he : j / k * k + j % k = j := by rw [Nat.mul_comm]; exact Nat.div_add_mod j k
      have h3 := g2 (j / k) (j % k) hdiv hmod
      rw [he, hu] at h3
      have := (hF _ hdiv).2.2 _ _ h3.symm
      rwa [he] at this
    · rw [hlen] at hi
      have e : ((List.range len).map fun i => (F i).2)[i]'(by rw [hlen]; exact hi) = (F i).2 := by simp
      rw [e]
      exact ⟨(F i).1, (hF i hi).1, (hF i hi).2.1, fun r hr => g2 i r hi hr⟩
theorem open2_22 {H : Type} {enc : TypeId × Value → H} {P : Program} {w : World} {base : Nat} {t : TypeId} {f0 f1 : Field} {c0 c1 : Value} {fuel : Nat} {y : DataW H × List MemPlace} (hs : P.underlying t = some (.struct #[f0, f1])) (hone : oneCellFields P #[f0, f1] = true)
    (h : DataW.trod enc P w base (fun _ => true) true fuel t [c0, c1] = some y) :
    ∃ (y0 y1 : DataW H × List MemPlace) (n : Nat), DataW.trod enc P w base (fun _ => true) true n f0.type [c0] = some y0 ∧ DataW.trod enc P w base (fun _ => true) true n f1.type [c1] = some y1 := by
  obtain ⟨xs, n, _, hx, _, hlen, hg⟩ := DataW.trod_struct hs h
  obtain ⟨o0, k0⟩ := hone_of hone 0 f0 rfl
  obtain ⟨o1, k1⟩ := hone_of hone 1 f1 rfl
  match xs, hlen with
  | [y0, y1], _ =>
    exact ⟨y0, y1, n, by simpa [o0, k0] using hg 0 f0 rfl, by simpa [o1, k1] using hg 1 f1 rfl⟩
theorem open4_22 {H : Type} {enc : TypeId × Value → H} {P : Program} {w : World} {base : Nat} {t : TypeId} {f0 f1 f2 f3 : Field} {c0 c1 c2 c3 : Value} {fuel : Nat} {y : DataW H × List MemPlace} (hs : P.underlying t = some (.struct #[f0, f1, f2, f3])) (hone : oneCellFields P #[f0, f1, f2, f3] = true)
    (h : DataW.trod enc P w base (fun _ => true) true fuel t [c0, c1, c2, c3] = some y) :
    ∃ (y0 y1 y2 y3 : DataW H × List MemPlace) (n : Nat), DataW.trod enc P w base (fun _ => true) true n f0.type [c0] = some y0 ∧ DataW.trod enc P w base (fun _ => true) true n f1.type [c1] = some y1 ∧ DataW.trod enc P w base (fun _ => true) true n f2.type [c2] = some y2 ∧ DataW.trod enc P w base (fun _ => true) true n f3.type [c3] = some y3 := by
  obtain ⟨xs, n, _, hx, _, hlen, hg⟩ := DataW.trod_struct hs h
  obtain ⟨o0, k0⟩ := hone_of hone 0 f0 rfl
  obtain ⟨o1, k1⟩ := hone_of hone 1 f1 rfl
  obtain ⟨o2, k2⟩ := hone_of hone 2 f2 rfl
  obtain ⟨o3, k3⟩ := hone_of hone 3 f3 rfl
  match xs, hlen with
  | [y0, y1, y2, y3], _ =>
    exact ⟨y0, y1, y2, y3, n, by simpa [o0, k0] using hg 0 f0 rfl, by simpa [o1, k1] using hg 1 f1 rfl, by simpa [o2, k2] using hg 2 f2 rfl, by simpa [o3, k3] using hg 3 f3 rfl⟩
theorem open5_22 {H : Type} {enc : TypeId × Value → H} {P : Program} {w : World} {base : Nat} {t : TypeId} {f0 f1 f2 f3 f4 : Field} {c0 c1 c2 c3 c4 : Value} {fuel : Nat} {y : DataW H × List MemPlace} (hs : P.underlying t = some (.struct #[f0, f1, f2, f3, f4])) (hone : oneCellFields P #[f0, f1, f2, f3, f4] = true)
    (h : DataW.trod enc P w base (fun _ => true) true fuel t [c0, c1, c2, c3, c4] = some y) :
    ∃ (y0 y1 y2 y3 y4 : DataW H × List MemPlace) (n : Nat), DataW.trod enc P w base (fun _ => true) true n f0.type [c0] = some y0 ∧ DataW.trod enc P w base (fun _ => true) true n f1.type [c1] = some y1 ∧ DataW.trod enc P w base (fun _ => true) true n f2.type [c2] = some y2 ∧ DataW.trod enc P w base (fun _ => true) true n f3.type [c3] = some y3 ∧ DataW.trod enc P w base (fun _ => true) true n f4.type [c4] = some y4 := by
  obtain ⟨xs, n, _, hx, _, hlen, hg⟩ := DataW.trod_struct hs h
  obtain ⟨o0, k0⟩ := hone_of hone 0 f0 rfl
  obtain ⟨o1, k1⟩ := hone_of hone 1 f1 rfl
  obtain ⟨o2, k2⟩ := hone_of hone 2 f2 rfl
  obtain ⟨o3, k3⟩ := hone_of hone 3 f3 rfl
  obtain ⟨o4, k4⟩ := hone_of hone 4 f4 rfl
  match xs, hlen with
  | [y0, y1, y2, y3, y4], _ =>
    exact ⟨y0, y1, y2, y3, y4, n, by simpa [o0, k0] using hg 0 f0 rfl, by simpa [o1, k1] using hg 1 f1 rfl, by simpa [o2, k2] using hg 2 f2 rfl, by simpa [o3, k3] using hg 3 f3 rfl, by simpa [o4, k4] using hg 4 f4 rfl⟩
theorem int_cell22 {H : Type} {enc : TypeId × Value → H} {P : Program} {w : World} {base n : Nat} {t : TypeId} {k : IntKind} {c : Value} {y : DataW H × List MemPlace} (ht : P.underlying t = some (.int k)) (h : DataW.trod enc P w base (fun _ => true) true n t [c] = some y) : ∃ a : Int, c = .int k a ∧ (Lit.int k a).wf = true := by
  obtain ⟨a, e, -, hw⟩ := DataW.trod_int ht h
  simp at e
  subst e
  exact ⟨a, rfl, hw⟩
theorem cellsWord22 : Tryd.prog.cellsOf 47 = 5 := by kernel_rfl
theorem cellsEntry22 : Tryd.prog.cellsOf 55 = 2 := by kernel_rfl
theorem cellsU822 : Tryd.prog.cellsOf 5 = 1 := by kernel_rfl
theorem cellsImage22 : Tryd.prog.cellsOf 26 = 4 := by kernel_rfl
instance : Inhabited W := ⟨⟨0, 0, 0, 0, 0⟩⟩

def ImgArg (w : World) (v : Value) (x : List W × List (Int × Int) × Int × List Int) : Prop := ∃ wv ev dv, v = .agg #[wv, ev, .int .i64 x.2.2.1, dv] ∧ RdW w wv x.1 ∧ (∀ y ∈ x.1, y.ok) ∧ RdE w ev x.2.1 ∧ RdB w dv x.2.2.2 ∧ isB x.2.2.2

theorem cells_eq22 {α : Type} {k : Nat} (hk : 0 < k) (f : α → List Value) (hf : ∀ x, (f x).length = k) (F : List α → List Value) (hF0 : F [] = []) (hF : ∀ x r, F (x :: r) = f x ++ F r) : ∀ (xs : List α) (cells : List Value), cells.length = xs.length * k → (∀ i (h : i < xs.length), ∀ r, r < k → cells[i * k + r]? = (f xs[i])[r]?) → cells = F xs
  | [], cells, hl, _ => by rw [hF0]; exact List.eq_nil_of_length_eq_zero (by simpa using hl)
  | x :: xs, cells, hl, hc => by
    have hl2 : cells.length = xs.length * k + k := by rw [hl, List.length_cons, Nat.succ_mul]
    have e1 : cells.take k = f x := by
      apply List.ext_getElem?
      intro r
      by_cases hr : r < k
      · rw [List.getElem?_take_of_lt hr]
        have := hc 0 (by simp) r hr
        simpa using this
      · rw [List.getElem?_eq_none (by rw [List.length_take]; omega), List.getElem?_eq_none (by rw [hf]; omega)]
    have e2 : cells.drop k = F xs := cells_eq22 hk f hf F hF0 hF xs (cells.drop k) (by rw [List.length_drop]; omega) (fun i hi r hr => by
      rw [List.getElem?_drop]
      have := hc (i + 1) (by simpa using hi) r hr
      rw [Nat.succ_mul] at this
      rw [show k + (i * k + r) = i * k + k + r by omega, this]
      simp)
    rw [hF, ← e1, ← e2, List.take_append_drop]

set_option maxRecDepth 100000 in
theorem image_in {H : Type} {enc : TypeId × Value → H} {w : World} {base : Nat} {r : Reach} {b0 : Nat} {v : Value} {d : DataW H} {p : List MemPlace} (hv : Value.okWide Tryd.prog w r b0 26 v) (h : DataW.Trod enc Tryd.prog w base (fun _ => true) true 26 v d p) :
    ∃ x, ImgArg w v x := by
  obtain ⟨cs, rfl, hsz⟩ := okWide_struct Tryd.underlying26 hv
  obtain ⟨l⟩ := cs
  match l, hsz.trans cellsImage22 with
  | [c0, c1, c2, c3], _ =>
    obtain ⟨fuel, hf⟩ := h
    obtain ⟨y0, y1, y2, y3, n, h0, h1, h2, h3⟩ := open4_22 Tryd.underlying26 (by kernel_rfl) hf
    obtain ⟨xs, wc, a1, a2⟩ := slice_open22 (α := W) (fun cs x => cs = [.int .u8 x.op, .int .u8 x.a, .int .u8 x.b, .int .u8 x.c, .int .i64 x.imm] ∧ x.ok) Tryd.underlying22 cellsWord22 (fun n cs' y hl ht => by
      match cs', hl with
      | [e0, e1, e2, e3, e4], _ =>
        obtain ⟨z0, z1, z2, z3, z4, n', t0, t1, t2, t3, t4⟩ := open5_22 Tryd.underlying47 (by kernel_rfl) ht
        obtain ⟨q0, rfl, w0⟩ := int_cell22 Tryd.underlying5 t0
        obtain ⟨q1, rfl, w1⟩ := int_cell22 Tryd.underlying5 t1
        obtain ⟨q2, rfl, w2⟩ := int_cell22 Tryd.underlying5 t2
        obtain ⟨q3, rfl, w3⟩ := int_cell22 Tryd.underlying5 t3
        obtain ⟨q4, rfl, w4⟩ := int_cell22 Tryd.underlying2 t4
        simp [Lit.wf, IntKind.min, IntKind.max, IntKind.signed, IntKind.bits] at w0 w1 w2 w3 w4
        exact ⟨⟨q0, q1, q2, q3, q4⟩, rfl, by unfold W.ok; simp only; omega⟩) h0
    obtain ⟨es, ec, b1, b2⟩ := slice_open22 (α := Int × Int) (fun cs x => cs = [.int .i64 x.1, .int .i64 x.2]) Tryd.underlying23 cellsEntry22 (fun n cs' y hl ht => by
      match cs', hl with
      | [e0, e1], _ =>
        obtain ⟨z0, z1, n', t0, t1⟩ := open2_22 Tryd.underlying55 (by kernel_rfl) ht
        obtain ⟨q0, rfl, w0⟩ := int_cell22 Tryd.underlying3 t0
        obtain ⟨q1, rfl, w1⟩ := int_cell22 Tryd.underlying3 t1
        exact ⟨(q0, q1), rfl⟩) h1
    obtain ⟨q2, rfl, -⟩ := int_cell22 Tryd.underlying3 h2
    obtain ⟨ds, dc, d1, d2⟩ := slice_open22 (α := Int) (fun cs x => cs = [.int .u8 x] ∧ (0 ≤ x ∧ x ≤ 255)) Tryd.underlying24 cellsU822 (fun n cs' y hl ht => by
      match cs', hl with
      | [e0], _ =>
        obtain ⟨q0, rfl, w0⟩ := int_cell22 Tryd.underlying5 ht
        simp [Lit.wf, IntKind.min, IntKind.max, IntKind.signed, IntKind.bits] at w0
        exact ⟨q0, rfl, by omega⟩) h3
    have ew : wc = cW xs := cells_eq22 (by decide) (fun x => [.int .u8 x.op, .int .u8 x.a, .int .u8 x.b, .int .u8 x.c, .int .i64 x.imm]) (fun _ => rfl) cW rfl (fun _ _ => rfl) xs wc a1.1 (fun i hi r hr => by obtain ⟨cs, -, hp, hc⟩ := a2 i hi; rw [hc r hr, hp.1])
    have ee : ec = cE es := cells_eq22 (by decide) (fun x => [.int .i64 x.1, .int .i64 x.2]) (fun _ => rfl) cE rfl (fun _ _ => rfl) es ec b1.1 (fun i hi r hr => by obtain ⟨cs, -, hp, hc⟩ := b2 i hi; rw [hc r hr, hp])
    have ed : dc = ds.map (Value.int .u8) := cells_eq22 (by decide) (fun x => [.int .u8 x]) (fun _ => rfl) (List.map (Value.int .u8)) rfl (fun _ _ => rfl) ds dc d1.1 (fun i hi r hr => by obtain ⟨cs, -, hp, hc⟩ := d2 i hi; rw [hc r hr, hp.1])
    subst ew ee ed
    refine ⟨(xs, es, q2, ds), c0, c1, c3, rfl, a1, fun y hy => ?_, b1, d1, fun y hy => ?_⟩
    · obtain ⟨i, hi, rfl⟩ := List.getElem_of_mem hy
      obtain ⟨_, _, hp, _⟩ := a2 i hi
      exact hp.2
    · obtain ⟨i, hi, rfl⟩ := List.getElem_of_mem hy
      obtain ⟨_, _, hp, _⟩ := d2 i hi
      exact hp.2
end Go.Proofs.YtnanlkoldloolaaDoor

/- Vet: what the readers of debug information give an image's check. -/
namespace Go.Proofs.YtnanlkoldloolaaDoor
open Go.RowKit

theorem rdE_of {w : World} {v : Value} {xs : List (Int × Int)} (h : RdP w v xs) : RdE w v xs := by
  obtain ⟨cells, h1, h2⟩ := h
  have hl : cells.length = xs.length * 2 := h1.1
  have e : cells = cE xs := by
    apply List.ext_getElem?
    intro i
    by_cases hi : i < xs.length * 2
    · have hq : i / 2 < xs.length := by omega
      obtain ⟨a1, a2⟩ := h2 (i / 2) hq
      obtain ⟨b1, b2⟩ := cE_at xs (i / 2) hq
      rcases (by omega : i = i / 2 * 2 ∨ i = i / 2 * 2 + 1) with e | e
      · rw [e, a1, b1]
      · rw [e, a2, b2]
    · rw [List.getElem?_eq_none (by omega), List.getElem?_eq_none (by rw [cE_length]; omega)]
  rw [e] at h1
  exact h1

def GoodD (dl : List Int) (er : Int) (mn : Nat) (sl : List (Int × Int)) : Prop := er = (if (decD dl).isSome then 0 else 3) ∧ mn = ((decD dl).getD noD).marks.length ∧ sl = ((decD dl).getD noD).sites
theorem goodD_one {dl : List Int} : ∀ a b c a' b' c', GoodD dl a b c → GoodD dl a' b' c' → a = a' ∧ (a = 0 → b = b' ∧ c = c') := fun _ _ _ _ _ _ h k =>
  ⟨h.1.trans k.1.symm, fun _ => ⟨h.2.1.trans k.2.1.symm, h.2.2.trans k.2.2.symm⟩⟩
theorem sitesB_ok (nm : Nat) : ∀ (l : List (Int × Int)) (last : Int), sitesB nm last l = true → ∀ s ∈ l, okN s.1 = true
  | [], _, _, s, hs => by cases hs
  | x :: r, last, h, s, hs => by
    simp only [sitesB, siteB, Bool.and_eq_true] at h
    rcases List.mem_cons.1 hs with rfl | hs
    · exact h.1.1.1.1
    · exact sitesB_ok nm r x.1 h.2 s hs
theorem decD_form {l : List Int} {d : DebD} (h : decD l = some d) : formD d = true := by
  unfold decD at h
  split at h
  · split at h
    · split at h
      · rename_i hc
        simp only [Option.some.injEq] at h
        rw [← h]; exact hc.2
      · cases h
    · cases h
  · cases h
theorem goodD_sites {dl : List Int} : ∀ mn sl, GoodD dl 0 mn sl → ∀ s ∈ sl, 0 ≤ s.1 ∧ s.1 ≤ 2147483647 := by
  rintro mn sl ⟨h1, rfl, rfl⟩ s hs
  cases hd : decD dl with
  | none => rw [hd] at hs; simp [noD] at hs
  | some d =>
    rw [hd] at hs
    have hf := decD_form hd
    simp only [formD, Bool.and_eq_true] at hf
    have := sitesB_ok _ _ _ hf.1.2 s hs
    simp [okN] at this
    exact this
theorem decode_good {w : World} {pa : Option Addr} {pn pc : Nat} {dl : List Int} (hp : RdB w (.slice pa pn pc) dl) (hB : isB dl) (hlen : dl.length ≤ 1000000000) {ga : Addr} (hg : Gives w 182 (.pointer (some ga))) :
   ∀ W : World, Below w.heap.size w W → Calls Tryd.prog 27 #[.slice pa pn pc] W fun e w' => (∃ sa sn sc ma mn mc tv sl er, e = .returned (.tuple #[.agg #[.slice sa sn sc, .slice ma mn mc, tv], .int .i64 er]) ∧ RdE w' tv sl ∧ GoodD dl er mn sl) ∧ Below W.heap.size W w' := by
  intro W hW
  refine (decode_any pa pn pc dl W (Rd.later hp hW) hB hlen ga (gives_of_below hg hW)).mono ?_
  rintro e w' ⟨vs, vm, vt, rfl, hd, hb⟩
  obtain ⟨sa, sc, rfl⟩ := hd.stops.shape
  obtain ⟨ma, mc, rfl⟩ := hd.marks.shape
  exact ⟨⟨_, _, _, _, _, _, _, _, _, rfl, rdE_of hd.sites, rfl, rfl, rfl⟩, hb⟩
end Go.Proofs.YtnanlkoldloolaaDoor

/- Vet: VetRuns, walked (what the check answers is given). -/
namespace Go.Proofs.YtnanlkoldloolaaDoor
open Go.RowKit

theorem cE_entC : ∀ l : List (Int × Int), cE l = Mach.entC l
  | [] => rfl
  | x :: r => by simp [cE, Mach.entC, cE_entC r]
theorem wordE_zero {nw ne s : Int} {x : W} (h : wordE nw ne s x = 0) : formB x = true ∧ (0 ≤ limE nw ne s x.op → x.imm < limE nw ne s x.op) := by
  unfold wordE at h
  by_cases hf : formB x = true
  · rw [if_pos hf] at h
    refine ⟨hf, fun h0 => ?_⟩
    by_cases hl : (decide (0 ≤ limE nw ne s x.op) && decide (limE nw ne s x.op ≤ x.imm)) = true
    · rw [if_pos hl] at h; omega
    · simp only [Bool.and_eq_true, decide_eq_true_eq, not_and] at hl
      have := hl h0; omega
  · rw [if_neg hf] at h; omega
theorem checkIs_sound {l : List W} {el : List (Int × Int)} {m : Int} {Good : Int → Nat → List (Int × Int) → Prop} {at' : Int} (inp : List Int) (h : CheckIs l el m Good at' 0) : (0 ≤ m ∧ m < el.length) ∧ Mach.Sound ⟨l, el, inp⟩ := by
  rcases h with ⟨_, _, h⟩ | ⟨⟨hl, _⟩, h⟩
  · omega
  rcases h with ⟨_, _, h⟩ | ⟨hm, most, a1, e1, hent, h⟩
  · omega
  refine ⟨hm, ?_⟩
  rcases h with ⟨h1, _, h2⟩ | ⟨he1, a2, e2, hw, h⟩
  · omega
  subst he1
  rcases h with ⟨h1, _, h2⟩ | ⟨he2, _⟩
  · omega
  subst he2
  rcases hent with ⟨_, _, _, _, _, _, h⟩ | ⟨hent, _, _, _⟩
  · omega
  rcases hw with ⟨j, hj, h1, _, _, h2⟩ | ⟨hw, hl2, hlast⟩
  · omega
  have hL : (l.getD (l.length - 1) W.zero).op = 45 ∨ (l.getD (l.length - 1) W.zero).op = 47 := by
    have e : l.getD (l.length - 1) W.zero = l[l.length - 1]'(by omega) := by rw [List.getD_eq_getElem?_getD, List.getElem?_eq_getElem (by omega)]; rfl
    rw [e]
    by_cases hc : (l[l.length - 1]'(by omega)).op = 45 ∨ (l[l.length - 1]'(by omega)).op = 47
    · exact hc
    · rw [if_neg hc] at hlast; omega
  refine ⟨fun x hx => ?_, fun x hx => (wordE_zero (hw x hx)).1, fun x hx ho => ?_, fun x hx ho => ?_, hl, hL⟩
  · have hb := hent x hx
    unfold entBad at hb
    simp only [Bool.or_eq_false_iff, decide_eq_false_iff_not] at hb
    refine ⟨?_, by omega, ?_⟩
    · unfold slotsOk
      rw [Bool.and_eq_true, decide_eq_true_eq, decide_eq_true_eq]
      omega
    · show x.1 < (l.length : Int)
      omega
  · have h1 := (wordE_zero (hw x hx)).2
    have e : limE l.length el.length most x.op = l.length := by
      rcases ho with ho | ho <;> rw [ho] <;> rfl
    rw [e] at h1
    exact h1 (by omega)
  · have h1 := (wordE_zero (hw x hx)).2
    have e : limE l.length el.length most x.op = el.length := by rw [ho]; rfl
    rw [e] at h1
    exact h1 (by omega)

set_option maxRecDepth 100000 in
set_option maxHeartbeats 8000000 in
theorem vetRuns_of (wv : Value) (l : List W) (ev : Value) (el : List (Int × Int)) (m : Int) (dv : Value) (dl : List Int) (iv : Value) (inp : List Int) (w : World) (hv : RdW w wv l) (hev : RdE w ev el) (hdv : RdB w dv dl) (hiv : Rd w 1 iv inp.length (Mach.intsV inp))
   (hok : ∀ x ∈ l, x.ok) (heok : ∀ x ∈ el, Mach.i64 x.1 ∧ Mach.i64 x.2) (hiok : Mach.I64s inp)
   (gt : TypeId) (gv : Value) (hg : Gives w gt gv)
   (Good : Int → Nat → List (Int × Int) → Prop)
   (HC : dl.length ≤ 20000 → ∀ (W : World) (a b : Value) (pa : Option Addr) (pc : Nat), Below w.heap.size w W → RdW W a l → RdE W b el → RdB W (.slice pa dl.length pc) dl → Calls Tryd.prog 10 #[.agg #[a, b, .int .i64 m, .slice pa dl.length pc]] W fun e w' => (∃ at' er, CheckIs l el m Good at' er ∧ e = .returned (.tuple #[.int .i64 at', .int .i64 er])) ∧ Below W.heap.size W w') :
   Calls Tryd.prog 4 #[.agg #[wv, ev, .int .i64 m, dv], iv] w fun e w' => e = .returned (.bool true) ∧ Below w.heap.size w w' := by
  have hl9 : l.length ≤ 9223372036854775807 := Rd.le hv
  have hd9 : dl.length ≤ 9223372036854775807 := Rd.le hdv
  have hi9 : inp.length ≤ 9223372036854775807 := Rd.le hiv
  obtain ⟨wa, wc, rfl⟩ := Rd.shape hv
  obtain ⟨ea, ec, rfl⟩ := Rd.shape hev
  obtain ⟨da, dc, rfl⟩ := Rd.shape hdv
  obtain ⟨ia, ic, rfl⟩ := Rd.shape hiv
  have HV := Lib.hid hv
  have HE := Lib.hid hev
  have HD := Lib.hid hdv
  have HI := Lib.hid hiv
  have HG := Lib.hid hg
  have HCC := Lib.hid HC
  have HOK := Lib.hid (And.intro hok (And.intro heok hiok))
  clear hv hev hdv hg HC hiv hok heok hiok
  go_enter Tryd.func4, Tryd.ntmps4
  go_wp2_with fail
  have HB0 : Hid (Below w.heap.size w (w.alloc (.cells #[.slice wa l.length wc, .slice ea el.length ec, .int .i64 m, .slice da dl.length dc] 26))) := (Below.refl _ _).alloc (Nat.le_refl _) _
  have KK : Hid (∀ W : World, Below (w.heap.size + 1) (w.alloc (.cells #[.slice wa l.length wc, .slice ea el.length ec, .int .i64 m, .slice da dl.length dc] 26)) W → (W.cell? ⟨w.heap.size, 0, none⟩ = some (.slice wa l.length wc) ∧ W.cell? ⟨w.heap.size, 1, none⟩ = some (.slice ea el.length ec)) ∧ (W.cell? ⟨w.heap.size, 2, none⟩ = some (.int .i64 m) ∧ W.cell? ⟨w.heap.size, 3, none⟩ = some (.slice da dl.length dc)) ∧ Below w.heap.size w W ∧ w.heap.size < W.heap.size) := fun W h =>
    ⟨⟨by rw [h.cell (by simp)]; simp, by rw [h.cell (by simp)]; simp⟩, ⟨by rw [h.cell (by simp)]; simp, by rw [h.cell (by simp)]; simp⟩, HB0.out.trans (h.mono (by omega)), by have := h.size; simp at this; omega⟩
  refine (awake_any _ gt gv (gives_below HG.out ((Below.refl _ _).alloc (Nat.le_refl _) _))).mono ?_
  rintro e w1 ⟨rfl, hb1⟩
  have hb1 : Below (w.heap.size + 1) (w.alloc (.cells #[.slice wa l.length wc, .slice ea el.length ec, .int .i64 m, .slice da dl.length dc] 26)) w1 := hb1.mono (by simp)
  obtain ⟨⟨a0, a1⟩, ⟨a2, a3⟩, hw1, hs1⟩ := KK.out w1 hb1
  have HB1 := Lib.hid hb1
  have HW1 := Lib.hid hw1
  clear hb1 hw1
  go_wp2_with fail
  refine (few22_any wa l.length wc _ el m da dl.length dc w1 (Rd.later HE.out HW1.out) hl9 hd9).mono ?_
  rintro e w2 ⟨⟨b, hfew, rfl⟩, hb2⟩
  have hb2 := HB1.out.trans (hb2.mono (by have := HB1.out.size; simpa using this))
  obtain ⟨⟨b0, b1⟩, ⟨b2, b3⟩, hw2, hs2⟩ := KK.out w2 hb2
  have HB2 := Lib.hid hb2
  have HW2 := Lib.hid hw2
  clear hb2 hw2 a0 a1 a2 a3
  cases b
  · clear hfew
    go_wp2_with fail
    go_ret
    exact ⟨rfl, HW2.out⟩
  obtain ⟨h15, h50, h20, -⟩ := hfew rfl
  clear hfew
  have HC1 := Lib.hid (HCC.out h20)
  go_wp2_with fail
  refine (twin22_any _ l _ el m _ dl w2 (Rd.later HV.out HW2.out) (Rd.later HE.out HW2.out) (Rd.later HD.out HW2.out) (by omega) (by omega) (by omega)).mono ?_
  rintro e w3 ⟨us, ue, ud, rfl, hu, hue, hud, hb3⟩
  have hb3 := HB2.out.trans (hb3.mono (by have := HB2.out.size; simpa using this))
  obtain ⟨⟨c0, c1⟩, ⟨c2, c3⟩, hw3, hs3⟩ := KK.out w3 hb3
  have HB3 := Lib.hid hb3
  have HW3 := Lib.hid hw3
  have hu := Rd.of_own hu
  have hue := Rd.of_own hue
  have hud := Rd.of_own hud
  obtain ⟨ua, uc, rfl⟩ := hu.shape
  obtain ⟨va, vc, rfl⟩ := hue.shape
  obtain ⟨xa, xc, rfl⟩ := hud.shape
  have HU : Hid (RdW w3 (.slice ua l.length uc) l) := hu
  have HUE : Hid (RdE w3 (.slice va el.length vc) el) := hue
  have HUD : Hid (RdB w3 (.slice xa dl.length xc) dl) := hud
  clear hb3 hw3 hu hue hud b0 b1 b2 b3
  go_wp2_with fail
  refine (HC1.out w3 _ _ xa xc HW3.out HU.out HUE.out HUD.out).mono ?_
  rintro e w5 ⟨⟨at1, e1, hc1, rfl⟩, hb5⟩
  have hb5 := HB3.out.trans (hb5.mono (by have := HB3.out.size; simpa using this))
  obtain ⟨⟨f0, f1⟩, ⟨f2, f3⟩, hw5, hs5⟩ := KK.out w5 hb5
  have HB5 := Lib.hid hb5
  have HW5 := Lib.hid hw5
  clear hb5 hw5 c0 c1 c2 c3
  by_cases he0 : e1 = 0
  · subst he0
    obtain ⟨hm, hS⟩ := checkIs_sound inp hc1
    obtain ⟨mn, rfl⟩ : ∃ n : Nat, m = n := ⟨m.toNat, by omega⟩
    have HS := Lib.hid hS
    have hmn : mn < el.length := by omega
    clear hc1 hS hm
    go_wp2_with fail
    have hE : Mach.EnvOk ⟨l, el, inp⟩ := ⟨HOK.out.1, HOK.out.2.1, HOK.out.2.2, by show l.length ≤ 1000000; omega, by show el.length ≤ 1000000; omega, hi9⟩
    have hrE : Rd w5 2 (.slice ea el.length ec) el.length (Mach.entC el) := by rw [← cE_entC]; exact Rd.later HE.out HW5.out
    refine (Mach.rnew_any w5 _ _ _ _ mn ⟨l, el, inp⟩ (Rd.later HV.out HW5.out) hrE (Rd.later HI.out HW5.out) ⟨_, _, _, rfl⟩ hmn).mono ?_
    clear hrE
    rintro e w6 ⟨M, t6, V6, cl6, rfl, R6, B6, T6⟩
    have HE6 := Lib.hid hE
    have HR6 := Lib.hid R6
    have HT6 := Lib.hid T6
    have hM6 : M < w6.heap.size := (Array.getElem?_eq_some_iff.1 R6.hm).1
    have hge : w5.heap.size ≤ M := (R6.ge M (by rw [R6.tm]; omega)).1
    have H56 := Lib.hid B6
    clear R6 B6 T6 hE
    have hge0 : w.heap.size < w5.heap.size := hs5
    have HRUN := Mach.rrun_any w6 t6 _ M ⟨l, el, inp⟩ V6 cl6 (newF ⟨l, el, inp⟩ mn) false HR6.out HE6.out 0 (Mach.newF_good HE6.out ⟨by omega, by show (mn : Int) < el.length; omega⟩) 500 (by omega)
    rw [show ((500 : Nat) : Int) = 500 from rfl] at HRUN
    have HRUN := Lib.hid HRUN
    have g0 : w6.cell? ⟨w.heap.size, 0, none⟩ = some (.slice wa l.length wc) := by rw [H56.out.cell (by show w.heap.size < _; omega)]; exact f0
    clear f0 f1 f2 f3
    go_wp2_with fail
    refine HRUN.out.mono ?_
    rintro e w7 ⟨rfl, mk7, t7, V7, cl7, R7, F7, S7⟩
    obtain ⟨sF, hsF⟩ : ∃ sF, sF = (runF ⟨l, el, inp⟩ 500 (newF ⟨l, el, inp⟩ mn)).2 := ⟨_, rfl⟩
    have hvet : Mach.VInv ⟨l, el, inp⟩ sF := by
      rw [hsF]
      exact Mach.runF_vet HE6.out HS.out 500 0 _ (Mach.newF_good HE6.out ⟨by omega, by show (mn : Int) < el.length; omega⟩) (Mach.newF_vet HS.out ⟨by omega, by show (mn : Int) < el.length; omega⟩)
    rw [← hsF] at R7
    have hst : Below w5.heap.size w6 w7 := ⟨F7.os, F7.tape, F7.output, F7.size, fun k hk => F7.stay k (by have := H56.out.size; omega) (by rw [HT6.out k hk]; omega)⟩
    have HB7 : Hid (Below w.heap.size w w7) := HW5.out.trans ((H56.out.mono (by omega)).trans (hst.mono (by omega)))
    have m7 : w7.cell? ⟨M, 7, none⟩ = some (.int .u8 sF.end_) := (R7.cellM 7).trans (Mach.rC_get V7 sF mk7).2.2.2.2.2.1
    have m13 : w7.cell? ⟨M, 13, none⟩ = some (.int .i64 sF.at_) := (R7.cellM 13).trans (Mach.rC_get V7 sF mk7).2.2.2.2.2.2.2.2.2.2.2.1
    have g0' : w7.cell? ⟨w.heap.size, 0, none⟩ = some (.slice wa l.length wc) := by rw [hst.cell (by show w.heap.size < _; omega)]; exact g0
    have HV7 : Hid (RdW w7 (.slice wa l.length wc) l) := Rd.later HV.out HB7.out
    have HVET := Lib.hid hvet
    have HST := Lib.hid hst
    clear HRUN hsF R7 F7 S7 hvet hst g0
    by_cases h8 : sF.end_ = 8
    · obtain ⟨⟨ha0, ha1⟩, hop⟩ := HVET.out.2 h8
      rw [h8] at m7
      obtain ⟨n, hn⟩ : ∃ n : Nat, sF.at_ = n := ⟨sF.at_.toNat, by omega⟩
      rw [hn] at m13 ha1 hop
      rw [Int.toNat_natCast] at hop
      have hnl : n < l.length := by have : (n : Int) < (l.length : Int) := ha1; omega
      have hnl' : (n : Int) < (l.length : Int) := by omega
      rcases HV7.out.split with ⟨_, _, _, h2⟩ | ⟨b, o, c, he, _, _, _, hlb, hcw⟩
      · rw [h2] at hnl; simp at hnl
      · simp only [Value.slice.injEq, true_and] at he
        obtain ⟨rfl, rfl⟩ := he
        obtain ⟨x0, -, -, -, -⟩ := hcw n hnl
        have e : l.getD n W.zero = l[n] := by rw [List.getD_eq_getElem?_getD, List.getElem?_eq_getElem hnl]; rfl
        have hop : Mach.DoesWrong (l[n]).op := by rw [← e]; exact hop
        obtain ⟨op, hope⟩ : ∃ op, op = (l[n]).op := ⟨_, rfl⟩
        rw [← hope] at x0 hop
        have H8 := Lib.hid h8
        have HN := Lib.hid hn
        have HP := Lib.hid hope
        clear h8 hn hope hcw e HVET ha0 ha1
        have d0 : decide ((n : Int) < 0) = false := decide_eq_false (by omega)
        have d1 : decide ((l.length : Int) ≤ (n : Int)) = false := decide_eq_false (by omega)
        go_wp2_with fail
        go_quiet (fail)
        go_wp2_with fail
        rcases hop with rfl | rfl | rfl | rfl | rfl | rfl | rfl | rfl
        all_goals
          go_quiet (fail)
          go_wp2_with fail
          go_ret
          exact ⟨rfl, ⟨HB7.out.os, HB7.out.tape, HB7.out.output, HB7.out.size, HB7.out.block⟩⟩
    · have hb : (sF.end_ != 8) = true := by simpa using h8
      clear h8
      go_wp2_with fail
      go_ret
      exact ⟨rfl, HB7.out⟩
  · have he1 : (e1 != 0) = true := by simpa using he0
    clear he0 hc1
    go_wp2_with fail
    go_ret
    exact ⟨rfl, HW5.out⟩
end Go.Proofs.YtnanlkoldloolaaDoor

/- Vet: an image and a list of numbers among the arguments, opened; VetRuns at them. -/
namespace Go.Proofs.YtnanlkoldloolaaDoor
open Go.Joins Go.ChangeShapes Go.WideShapes Go.RowKit Go.Deep

theorem i64_wf {a : Int} (h : (Lit.int .i64 a).wf = true) : Mach.i64 a := by
  simp [Lit.wf, IntKind.min, IntKind.max, IntKind.signed, IntKind.bits] at h
  exact h
set_option maxRecDepth 100000 in
/-- As image_in, the entries' numbers in their range. -/
theorem image_inE {H : Type} {enc : TypeId × Value → H} {w : World} {base : Nat} {r : Reach} {b0 : Nat} {v : Value} {d : DataW H} {p : List MemPlace} (hv : Value.okWide Tryd.prog w r b0 26 v) (h : DataW.Trod enc Tryd.prog w base (fun _ => true) true 26 v d p) :
    ∃ x, ImgArg w v x ∧ ∀ e ∈ x.2.1, Mach.i64 e.1 ∧ Mach.i64 e.2 := by
  obtain ⟨x, wv, ev, dv, rfl, h1, h2, h3, h4, h5⟩ := image_in hv h
  obtain ⟨cs, hcs, hsz⟩ := okWide_struct Tryd.underlying26 hv
  obtain ⟨fuel, hf⟩ := h
  obtain ⟨y0, y1, y2, y3, n, _, hh1, _, _⟩ := open4_22 Tryd.underlying26 (by kernel_rfl) hf
  obtain ⟨es, ec, b1, b2⟩ := slice_open22 (α := Int × Int) (fun cs x => cs = [.int .i64 x.1, .int .i64 x.2] ∧ Mach.i64 x.1 ∧ Mach.i64 x.2) Tryd.underlying23 cellsEntry22 (fun n cs' y hl ht => by
      match cs', hl with
      | [e0, e1], _ =>
        obtain ⟨z0, z1, n', t0, t1⟩ := open2_22 Tryd.underlying55 (by kernel_rfl) ht
        obtain ⟨q0, rfl, w0⟩ := int_cell22 Tryd.underlying3 t0
        obtain ⟨q1, rfl, w1⟩ := int_cell22 Tryd.underlying3 t1
        exact ⟨(q0, q1), rfl, i64_wf w0, i64_wf w1⟩) hh1
  refine ⟨x, ⟨wv, ev, dv, rfl, h1, h2, h3, h4, h5⟩, fun e he => ?_⟩
  obtain ⟨i, hi, rfl⟩ := List.getElem_of_mem he
  have hlen : es.length = x.2.1.length := by
    obtain ⟨a, c, e1⟩ := Rd.shape h3
    obtain ⟨a', c', e2⟩ := Rd.shape b1
    rw [e1] at e2
    simp only [Value.slice.injEq] at e2
    exact e2.2.1.symm
  have hie : i < es.length := by omega
  obtain ⟨cs', hl', ⟨hc1, hr1, hr2⟩, hc2⟩ := b2 i hie
  rcases Rd.split h3 (by omega) with ⟨_, _, _, h0, _⟩ | ⟨bb, off, c, e1, _, _, _, _, hcell⟩
  · omega
  rcases Rd.split b1 (by omega) with ⟨_, _, _, h0, _⟩ | ⟨bb', off', c', e2, _, _, _, _, hcell'⟩
  · omega
  rw [e1] at e2
  simp only [Value.slice.injEq, Option.some.injEq, Addr.mk.injEq, and_true] at e2
  obtain ⟨⟨rfl, rfl⟩, _, _⟩ := e2
  obtain ⟨c1, c2⟩ := cE_at x.2.1 i hi
  obtain ⟨i1, c1⟩ := List.getElem?_eq_some_iff.1 c1
  obtain ⟨i2, c2⟩ := List.getElem?_eq_some_iff.1 c2
  have k1 := hcell (i * 2) i1
  have k2 := hcell (i * 2 + 1) i2
  have hb := b1.1
  have g1 : ec[i * 2]? = some (.int .i64 es[i].1) := by have := hc2 0 (by omega); rw [hc1] at this; simpa using this
  have g2 : ec[i * 2 + 1]? = some (.int .i64 es[i].2) := by have := hc2 1 (by omega); rw [hc1] at this; simpa using this
  obtain ⟨j1, g1⟩ := List.getElem?_eq_some_iff.1 g1
  obtain ⟨j2, g2⟩ := List.getElem?_eq_some_iff.1 g2
  have m1 := hcell' (i * 2) j1
  have m2 := hcell' (i * 2 + 1) j2
  rw [c1] at k1; rw [c2] at k2; rw [g1, k1] at m1; rw [g2, k2] at m2
  simp only [Option.some.injEq, Value.int.injEq, true_and] at m1 m2
  rw [m1, m2]; exact ⟨hr1, hr2⟩
theorem cellsI64 : Tryd.prog.cellsOf 2 = 1 := by kernel_rfl
set_option maxRecDepth 100000 in
theorem i64s_in {H : Type} {enc : TypeId × Value → H} {w : World} {base : Nat} {v : Value} {d : DataW H} {p : List MemPlace} {r : Reach} {b0 : Nat} (hv : Value.okWide Tryd.prog w r b0 37 v) (h : DataW.Trod enc Tryd.prog w base (fun _ => true) true 37 v d p) :
    ∃ l : List Int, Rd w 1 v l.length (Mach.intsV l) ∧ Mach.I64s l := by
  obtain ⟨a0, len0, cap0, rfl⟩ := okWide_slice Tryd.underlying37 hv
  obtain ⟨fuel, hf⟩ := h
  obtain ⟨ds, dc, d1, d2⟩ := slice_open22 (α := Int) (fun cs x => cs = [.int .i64 x] ∧ Mach.i64 x) Tryd.underlying37 cellsI64 (fun n cs' y hl ht => by
      match cs', hl with
      | [e0], _ =>
        obtain ⟨q0, rfl, w0⟩ := int_cell22 Tryd.underlying2 ht
        exact ⟨q0, rfl, i64_wf w0⟩) hf
  have ed : dc = Mach.intsV ds := cells_eq22 (by decide) (fun x => [.int .i64 x]) (fun _ => rfl) Mach.intsV rfl (fun _ _ => rfl) ds dc d1.1 (fun i hi r hr => by obtain ⟨cs, -, hp, hc⟩ := d2 i hi; rw [hc r hr, hp.1])
  rw [ed] at d1
  refine ⟨ds, d1, fun y hy => ?_⟩
  obtain ⟨i, hi, rfl⟩ := List.getElem_of_mem hy
  obtain ⟨_, _, hp, _⟩ := d2 i hi
  exact hp.2
theorem vetRuns_arg (v iv : Value) (x : List W × List (Int × Int) × Int × List Int) (inp : List Int) (w : World) (h : ImgArg w v x) (hr : ∀ e ∈ x.2.1, Mach.i64 e.1 ∧ Mach.i64 e.2) (hi : Rd w 1 iv inp.length (Mach.intsV inp)) (hri : Mach.I64s inp) (ga : Addr) (hg : Gives w 182 (.pointer (some ga))) :
   Calls Tryd.prog 4 #[v, iv] w fun e w' => e = .returned (.bool true) ∧ Below w.heap.size w w' := by
  obtain ⟨wv, ev, dv, rfl, h1, h2, h3, h4, h5⟩ := h
  exact vetRuns_of wv x.1 ev x.2.1 x.2.2.1 dv x.2.2.2 iv inp w h1 h3 h4 hi h2 hr hri _ _ hg (GoodD x.2.2.2)
    (fun h W a b pa pc hW hA hb hp => check_any a x.1 b x.2.1 x.2.2.1 pa x.2.2.2.length pc W hA hb (GoodD x.2.2.2) goodD_sites (decode_good hp h5 (by omega) (gives_below hg hW)))
end Go.Proofs.YtnanlkoldloolaaDoor
