/- Locs: debug information among the arguments, opened; its bulk. -/
import Derived.Test.YtmidnniinjkffaaDoorRows
import Derived.Test.YtmidnniinjkffaaDoorQLc
import Derived.Deep.Slices
import Derived.Deep.Fields
import Derived.ChangeSame
import Derived.ProofKit
import Derived.OpenShut
import Derived.Lib.SmallJoins
namespace Go.Proofs.YtmidnniinjkffaaDoor
open Go.Joins Go.ChangeShapes Go.WideShapes Go.RowKit Go.Deep

/-! ### bulk -/
theorem bulk_one {H : Type} (d : DataW H) : 1 ≤ Rows.uptoBulk d := by
  cases d with
  | lit l => cases l <;> simp [Rows.uptoBulk]
  | nil => simp [Rows.uptoBulk]
  | ptr d => simp [Rows.uptoBulk]
  | slice elems spare => simp [Rows.uptoBulk]
  | agg parts => simp [Rows.uptoBulk]
  | iface t d => simp [Rows.uptoBulk]
  | map entries => simp [Rows.uptoBulk]
  | held h => simp [Rows.uptoBulk]
theorem bulk_append {H : Type} (l r : List (DataW H)) : Rows.uptoBulkAll (l ++ r) = Rows.uptoBulkAll l + Rows.uptoBulkAll r := by
  induction l with
  | nil => simp [Rows.uptoBulkAll]
  | cons x l ih => simp only [List.cons_append, Rows.uptoBulkAll, ih]; omega
theorem bulk_range {H : Type} (D : Nat → DataW H) (f : Nat → Nat) : ∀ n, (∀ i, i < n → f i ≤ Rows.uptoBulk (D i)) → ((List.range n).map f).sum ≤ Rows.uptoBulkAll ((List.range n).map D)
  | 0, _ => by simp
  | n + 1, h => by
    have ih := bulk_range D f n (fun i hi => h i (by omega))
    have := h n (by omega)
    rw [List.range_succ, List.map_append, List.map_append, List.sum_append, bulk_append]
    simp only [List.map_cons, List.map_nil, List.sum_cons, List.sum_nil, Rows.uptoBulkAll]
    omega
theorem flat_at {F : Nat → List Value} {k : Nat} : ∀ n, (∀ i, i < n → (F i).length = k) → ((List.range n).flatMap F).length = n * k ∧ ∀ i r, i < n → r < k → ((List.range n).flatMap F)[i * k + r]? = (F i)[r]?
  | 0, _ => by simp
  | n + 1, h => by
    obtain ⟨h1, h2⟩ := flat_at n (fun i hi => h i (by omega))
    have hn := h n (by omega)
    have e : (List.range (n + 1)).flatMap F = (List.range n).flatMap F ++ F n := by rw [List.range_succ, List.flatMap_append]; simp
    rw [e]
    refine ⟨by rw [List.length_append, h1, hn, Nat.add_mul]; omega, fun i r hi hr => ?_⟩
    by_cases hin : i < n
    · have : (i + 1) * k ≤ n * k := Nat.mul_le_mul_right _ hin
      rw [Nat.succ_mul] at this
      rw [List.getElem?_append_left (by omega)]
      exact h2 i r hin hr
    · obtain rfl : i = n := by omega
      rw [List.getElem?_append_right (by omega), h1, Nat.add_sub_cancel_left]

/-- A slice, opened: its things, what is told of each, and no more of them than its bulk. -/
theorem slice_open {H : Type} {enc : TypeId × Value → H} {P : Program} {w : World} {base fuel : Nat} {t e : TypeId} {v : Value} {y : DataW H × List MemPlace} {α : Type} [Inhabited α] {k : Nat} (Pe : List Value → α → Prop) (bk : α → Nat) (hu : P.underlying t = some (.slice e)) (hk : P.cellsOf e = k)
    (hone : ∀ n cs' y, cs'.length = k → DataW.trod enc P w base (fun _ => true) true n e cs' = some y → ∃ x, Pe cs' x ∧ bk x ≤ Rows.uptoBulk y.1) (hf : DataW.trod enc P w base (fun _ => true) true fuel t [v] = some y) :
    ∃ (xs : List α) (cells : List Value), Rd w k v xs.length cells ∧ (∀ i (h : i < xs.length), ∃ cs, cs.length = k ∧ Pe cs xs[i] ∧ ∀ r, r < k → cells[i * k + r]? = cs[r]?) ∧ (xs.map bk).sum + 1 ≤ Rows.uptoBulk y.1 := by
  rcases open_slice hu hf with ⟨hcs, rfl⟩ | ⟨a, len, cap, m, n, D, Pl, hcs, _, hl, hm, hmm, hy, hi⟩
  · simp at hcs
    subst hcs
    exact ⟨[], [], Rd.nil _ _, fun i h => absurd h (by simp), by simp [Rows.uptoBulk]⟩
  · simp at hcs
    subst hcs
    simp only [if_true] at hmm
    subst hmm
    have key : ∀ i, ∃ x : List Value × α, i < len → (x.1.length = k ∧ Pe x.1 x.2 ∧ bk x.2 ≤ Rows.uptoBulk (D i) ∧ ∀ r u, x.1[r]? = some u → w.cell? (a.add (i * k + r)) = some u) := fun i => by
      by_cases hil : i < len
      · obtain ⟨cs', hc, ht'⟩ := hi i (by omega)
        rw [hk] at hc
        obtain ⟨_, hcl, hat⟩ := World.cells?_some hc
        obtain ⟨x, hx1, hx2⟩ := hone _ _ _ hcl ht'
        refine ⟨(cs', x), fun _ => ⟨hcl, hx1, hx2, fun r u hr => ?_⟩⟩
        obtain ⟨hr1, hr2⟩ := List.getElem?_eq_some_iff.1 hr
        have := hat r (by simp only at hr1; omega)
        rw [Go.Deep.add_add] at this
        rw [← hr2]
        first | exact this | (rw [this]; simp [hr1])
      · exact ⟨([], default), fun h => absurd h hil⟩
    obtain ⟨F, hF⟩ := Classical.axiomOfChoice key
    obtain ⟨g1, g2⟩ := flat_at (F := fun i => (F i).1) (k := k) len (fun i hi => (hF i hi).1)
    have hlen : ((List.range len).map fun i => (F i).2).length = len := by simp
    refine ⟨(List.range len).map fun i => (F i).2, (List.range len).flatMap fun i => (F i).1, ?_, fun i hi => ?_, ?_⟩
    · rw [hlen]
      refine ⟨g1, .inr ⟨a, _, rfl, hl, hm, fun j u hu => ?_⟩⟩
      have hj : j < len * k := by rw [← g1]; exact (List.getElem?_eq_some_iff.1 hu).1
      have hk0 : 0 < k := Nat.pos_of_ne_zero (fun e => by subst e; simp at hj)
      have hdiv : j / k < len := (Nat.div_lt_iff_lt_mul hk0).2 hj
      have hmod := Nat.mod_lt j hk0
      have he : j / k * k + j % k = j := by rw [Nat.mul_comm]; exact Nat.div_add_mod j k
      have h3 := g2 (j / k) (j % k) hdiv hmod
      rw [he, hu] at h3
      have := (hF _ hdiv).2.2.2 _ _ h3.symm
      rwa [he] at this
    · rw [hlen] at hi
      have e : ((List.range len).map fun i => (F i).2)[i]'(by rw [hlen]; exact hi) = (F i).2 := by simp
      rw [e]
      exact ⟨(F i).1, (hF i hi).1, (hF i hi).2.1, fun r hr => g2 i r hi hr⟩
    · rw [hy]
      have := bulk_range D (fun i => bk (F i).2) len (fun i hi => (hF i hi).2.2.1)
      rw [List.map_map]
      simp only [Rows.uptoBulk]
      have e2 : (bk ∘ fun i => (F i).2) = fun i => bk (F i).2 := rfl
      rw [e2]
      omega

/-! ### structs -/
theorem open2 {H : Type} {enc : TypeId × Value → H} {P : Program} {w : World} {base : Nat} {t : TypeId} {f0 f1 : Field} {c0 c1 : Value} {fuel : Nat} {y : DataW H × List MemPlace} (hs : P.underlying t = some (.struct #[f0, f1])) (hone : oneCellFields P #[f0, f1] = true)
    (h : DataW.trod enc P w base (fun _ => true) true fuel t [c0, c1] = some y) :
    ∃ (y0 y1 : DataW H × List MemPlace) (n : Nat), y.1 = .agg [y0.1, y1.1] ∧ DataW.trod enc P w base (fun _ => true) true n f0.type [c0] = some y0 ∧ DataW.trod enc P w base (fun _ => true) true n f1.type [c1] = some y1 := by
  obtain ⟨xs, n, _, hx, _, hlen, hg⟩ := DataW.trod_struct hs h
  obtain ⟨o0, k0⟩ := hone_of hone 0 f0 rfl
  obtain ⟨o1, k1⟩ := hone_of hone 1 f1 rfl
  match xs, hlen with
  | [y0, y1], _ =>
    exact ⟨y0, y1, n, by rw [hx]; rfl, by simpa [o0, k0] using hg 0 f0 rfl, by simpa [o1, k1] using hg 1 f1 rfl⟩
theorem open3 {H : Type} {enc : TypeId × Value → H} {P : Program} {w : World} {base : Nat} {t : TypeId} {f0 f1 f2 : Field} {c0 c1 c2 : Value} {fuel : Nat} {y : DataW H × List MemPlace} (hs : P.underlying t = some (.struct #[f0, f1, f2])) (hone : oneCellFields P #[f0, f1, f2] = true)
    (h : DataW.trod enc P w base (fun _ => true) true fuel t [c0, c1, c2] = some y) :
    ∃ (y0 y1 y2 : DataW H × List MemPlace) (n : Nat), y.1 = .agg [y0.1, y1.1, y2.1] ∧ DataW.trod enc P w base (fun _ => true) true n f0.type [c0] = some y0 ∧ DataW.trod enc P w base (fun _ => true) true n f1.type [c1] = some y1 ∧ DataW.trod enc P w base (fun _ => true) true n f2.type [c2] = some y2 := by
  obtain ⟨xs, n, _, hx, _, hlen, hg⟩ := DataW.trod_struct hs h
  obtain ⟨o0, k0⟩ := hone_of hone 0 f0 rfl
  obtain ⟨o1, k1⟩ := hone_of hone 1 f1 rfl
  obtain ⟨o2, k2⟩ := hone_of hone 2 f2 rfl
  match xs, hlen with
  | [y0, y1, y2], _ =>
    exact ⟨y0, y1, y2, n, by rw [hx]; rfl, by simpa [o0, k0] using hg 0 f0 rfl, by simpa [o1, k1] using hg 1 f1 rfl, by simpa [o2, k2] using hg 2 f2 rfl⟩
theorem open6 {H : Type} {enc : TypeId × Value → H} {P : Program} {w : World} {base : Nat} {t : TypeId} {f0 f1 f2 f3 f4 f5 : Field} {c0 c1 c2 c3 c4 c5 : Value} {fuel : Nat} {y : DataW H × List MemPlace} (hs : P.underlying t = some (.struct #[f0, f1, f2, f3, f4, f5])) (hone : oneCellFields P #[f0, f1, f2, f3, f4, f5] = true)
    (h : DataW.trod enc P w base (fun _ => true) true fuel t [c0, c1, c2, c3, c4, c5] = some y) :
    ∃ (y0 y1 y2 y3 y4 y5 : DataW H × List MemPlace) (n : Nat), DataW.trod enc P w base (fun _ => true) true n f0.type [c0] = some y0 ∧ DataW.trod enc P w base (fun _ => true) true n f1.type [c1] = some y1 ∧ DataW.trod enc P w base (fun _ => true) true n f2.type [c2] = some y2 ∧ DataW.trod enc P w base (fun _ => true) true n f3.type [c3] = some y3 ∧ DataW.trod enc P w base (fun _ => true) true n f4.type [c4] = some y4 ∧ DataW.trod enc P w base (fun _ => true) true n f5.type [c5] = some y5 := by
  obtain ⟨xs, n, _, hx, _, hlen, hg⟩ := DataW.trod_struct hs h
  obtain ⟨o0, k0⟩ := hone_of hone 0 f0 rfl
  obtain ⟨o1, k1⟩ := hone_of hone 1 f1 rfl
  obtain ⟨o2, k2⟩ := hone_of hone 2 f2 rfl
  obtain ⟨o3, k3⟩ := hone_of hone 3 f3 rfl
  obtain ⟨o4, k4⟩ := hone_of hone 4 f4 rfl
  obtain ⟨o5, k5⟩ := hone_of hone 5 f5 rfl
  match xs, hlen with
  | [y0, y1, y2, y3, y4, y5], _ =>
    exact ⟨y0, y1, y2, y3, y4, y5, n, by simpa [o0, k0] using hg 0 f0 rfl, by simpa [o1, k1] using hg 1 f1 rfl, by simpa [o2, k2] using hg 2 f2 rfl, by simpa [o3, k3] using hg 3 f3 rfl, by simpa [o4, k4] using hg 4 f4 rfl, by simpa [o5, k5] using hg 5 f5 rfl⟩
theorem bulk_agg2 {H : Type} {d a b : DataW H} (h : d = .agg [a, b]) : Rows.uptoBulk a ≤ Rows.uptoBulk d ∧ Rows.uptoBulk b ≤ Rows.uptoBulk d := by
  subst h; simp only [Rows.uptoBulk, Rows.uptoBulkAll]; omega
theorem bulk_agg3 {H : Type} {d a b c : DataW H} (h : d = .agg [a, b, c]) : Rows.uptoBulk a + Rows.uptoBulk b + Rows.uptoBulk c ≤ Rows.uptoBulk d := by
  subst h; simp only [Rows.uptoBulk, Rows.uptoBulkAll]; omega

instance : Inhabited LocD := ⟨⟨0, 0, 0, 0, 0, 0⟩⟩
instance : Inhabited MarkD := ⟨⟨0, []⟩⟩
theorem cellsSpot : Tryd.prog.cellsOf 45 = 2 := by kernel_rfl
theorem cellsSite : Tryd.prog.cellsOf 53 = 2 := by kernel_rfl
theorem cellsLoc : Tryd.prog.cellsOf 48 = 6 := by kernel_rfl
theorem cellsMark : Tryd.prog.cellsOf 51 = 2 := by kernel_rfl
theorem cellsStop : Tryd.prog.cellsOf 46 = 1 := by kernel_rfl
theorem cellsDebug : Tryd.prog.cellsOf 26 = 3 := by kernel_rfl
theorem int_cell {H : Type} {enc : TypeId × Value → H} {P : Program} {w : World} {base n : Nat} {t : TypeId} {k : IntKind} {c : Value} {y : DataW H × List MemPlace} (ht : P.underlying t = some (.int k)) (h : DataW.trod enc P w base (fun _ => true) true n t [c] = some y) : ∃ a : Int, c = .int k a ∧ (Lit.int k a).wf = true := by
  obtain ⟨a, e, -, hw⟩ := DataW.trod_int ht h
  simp at e
  subst e
  exact ⟨a, rfl, hw⟩
theorem sum_ones (l : List (Int × Int)) : (l.map fun _ => 1).sum = l.length := by induction l with | nil => rfl | cons x r ih => simp [ih]; omega
theorem sum_onesL (l : List LocD) : (l.map fun _ => 1).sum = l.length := by induction l with | nil => rfl | cons x r ih => simp [ih]; omega
theorem sum_stops (l : List (List (Int × Int))) : (l.map fun s => s.length + 1).sum = lensS l + l.length := by
  induction l with
  | nil => rfl
  | cons x r ih => simp only [List.map_cons, List.sum_cons, List.length_cons, ih]; unfold lensS; simp only [List.map_cons, List.sum_cons]; omega
theorem sum_marks (l : List MarkD) : (l.map fun m => m.locs.length + 1).sum = lensM l + l.length := by
  induction l with
  | nil => rfl
  | cons x r ih => simp only [List.map_cons, List.sum_cons, List.length_cons, ih]; unfold lensM; simp only [List.map_cons, List.sum_cons]; omega

section
variable {H : Type} {enc : TypeId × Value → H} {w : World} {base : Nat}

theorem pairs_open {t e : TypeId} {f0 f1 : Field} (hu : Tryd.prog.underlying t = some (.slice e)) (hk : Tryd.prog.cellsOf e = 2) (hs : Tryd.prog.underlying e = some (.struct #[f0, f1])) (ho : oneCellFields Tryd.prog #[f0, f1] = true) (h0 : Tryd.prog.underlying f0.type = some (.int .i64)) (h1 : Tryd.prog.underlying f1.type = some (.int .i64))
    {fuel : Nat} {v : Value} {y : DataW H × List MemPlace} (hf : DataW.trod enc Tryd.prog w base (fun _ => true) true fuel t [v] = some y) : ∃ xs : List (Int × Int), RdP w v xs ∧ xs.length + 1 ≤ Rows.uptoBulk y.1 := by
  obtain ⟨xs, cells, hr, hc, hb⟩ := slice_open (α := Int × Int) (k := 2) (fun cs x => cs = [.int .i64 x.1, .int .i64 x.2]) (fun _ => 1) hu hk (fun n cs' y hl ht => by
    match cs', hl with
    | [c0, c1], _ =>
      obtain ⟨y0, y1, m, -, q0, q1⟩ := open2 hs ho ht
      obtain ⟨a, rfl, -⟩ := int_cell h0 q0
      obtain ⟨b, rfl, -⟩ := int_cell h1 q1
      exact ⟨(a, b), rfl, bulk_one _⟩) hf
  refine ⟨xs, ⟨cells, hr, fun i hi => ?_⟩, by rw [sum_ones] at hb; exact hb⟩
  obtain ⟨cs, -, rfl, h4⟩ := hc i hi
  exact ⟨h4 0 (by omega), h4 1 (by omega)⟩
theorem stops_open {fuel : Nat} {v : Value} {y : DataW H × List MemPlace} (hf : DataW.trod enc Tryd.prog w base (fun _ => true) true fuel 22 [v] = some y) : ∃ xs : List (List (Int × Int)), RdS w v xs ∧ lensS xs + xs.length + 1 ≤ Rows.uptoBulk y.1 := by
  obtain ⟨xs, cells, hr, hc, hb⟩ := slice_open (α := List (Int × Int)) (k := 1) (fun cs x => ∃ v, cs = [v] ∧ RdP w v x) (fun s => s.length + 1) Tryd.underlying22 cellsStop (fun n cs' y hl ht => by
    match cs', hl with
    | [c0], _ =>
      obtain ⟨xs, h1, h2⟩ := pairs_open Tryd.underlying46 cellsSpot Tryd.underlying45 (by kernel_rfl) Tryd.underlying3 Tryd.underlying3 ht
      exact ⟨xs, ⟨c0, rfl, h1⟩, h2⟩) hf
  refine ⟨xs, ⟨cells, hr, fun i hi => ?_⟩, by rw [sum_stops] at hb; exact hb⟩
  obtain ⟨cs, -, ⟨u, rfl, hu⟩, h4⟩ := hc i hi
  have := h4 0 (by omega)
  rw [Nat.mul_one, Nat.add_zero] at this
  exact ⟨u, this, hu⟩
theorem locs_open {fuel : Nat} {v : Value} {y : DataW H × List MemPlace} (hf : DataW.trod enc Tryd.prog w base (fun _ => true) true fuel 49 [v] = some y) : ∃ xs : List LocD, RdL w v xs ∧ (∀ x ∈ xs, isI64 x.a ∧ isI64 x.b) ∧ xs.length + 1 ≤ Rows.uptoBulk y.1 := by
  obtain ⟨xs, cells, hr, hc, hb⟩ := slice_open (α := LocD) (k := 6) (fun cs x => cs = [.int .i64 x.depth, .int .i64 x.var, .int .u8 x.kind, .int .i64 x.arg, .int .i64 x.a, .int .i64 x.b] ∧ isI64 x.a ∧ isI64 x.b) (fun _ => 1) Tryd.underlying49 cellsLoc (fun n cs' y hl ht => by
    match cs', hl with
    | [c0, c1, c2, c3, c4, c5], _ =>
      obtain ⟨y0, y1, y2, y3, y4, y5, m, q0, q1, q2, q3, q4, q5⟩ := open6 Tryd.underlying48 (by kernel_rfl) ht
      obtain ⟨a0, rfl, -⟩ := int_cell Tryd.underlying3 q0
      obtain ⟨a1, rfl, -⟩ := int_cell Tryd.underlying3 q1
      obtain ⟨a2, rfl, -⟩ := int_cell Tryd.underlying5 q2
      obtain ⟨a3, rfl, -⟩ := int_cell Tryd.underlying3 q3
      obtain ⟨a4, rfl, w4⟩ := int_cell Tryd.underlying2 q4
      obtain ⟨a5, rfl, w5⟩ := int_cell Tryd.underlying2 q5
      simp [Lit.wf, IntKind.min, IntKind.max, IntKind.signed, IntKind.bits] at w4 w5
      exact ⟨⟨a0, a1, a2, a3, a4, a5⟩, ⟨rfl, ⟨by show _ ≤ a4; omega, by show a4 ≤ _; omega⟩, by show _ ≤ a5; omega, by show a5 ≤ _; omega⟩, bulk_one _⟩) hf
  refine ⟨xs, ⟨cells, hr, fun i hi => ?_⟩, fun x hx => ?_, by rw [sum_onesL] at hb; exact hb⟩
  · obtain ⟨cs, -, ⟨rfl, -⟩, h4⟩ := hc i hi
    exact ⟨h4 0 (by omega), h4 1 (by omega), h4 2 (by omega), h4 3 (by omega), h4 4 (by omega), h4 5 (by omega)⟩
  · obtain ⟨i, hi, rfl⟩ := List.getElem_of_mem hx
    obtain ⟨cs, -, ⟨-, h⟩, -⟩ := hc i hi
    exact h
theorem marks_open {fuel : Nat} {v : Value} {y : DataW H × List MemPlace} (hf : DataW.trod enc Tryd.prog w base (fun _ => true) true fuel 23 [v] = some y) : ∃ xs : List MarkD, RdM w v xs ∧ (∀ m ∈ xs, ∀ x ∈ m.locs, isI64 x.a ∧ isI64 x.b) ∧ lensM xs + xs.length + 1 ≤ Rows.uptoBulk y.1 := by
  obtain ⟨xs, cells, hr, hc, hb⟩ := slice_open (α := MarkD) (k := 2) (fun cs m => ∃ v, cs = [.int .i64 m.stop, v] ∧ RdL w v m.locs ∧ ∀ x ∈ m.locs, isI64 x.a ∧ isI64 x.b) (fun m => m.locs.length + 1) Tryd.underlying23 cellsMark (fun n cs' y hl ht => by
    match cs', hl with
    | [c0, c1], _ =>
      obtain ⟨y0, y1, m, hy, q0, q1⟩ := open2 Tryd.underlying51 (by kernel_rfl) ht
      obtain ⟨a0, rfl, -⟩ := int_cell Tryd.underlying3 q0
      obtain ⟨ls, h1, h2, h3⟩ := locs_open q1
      exact ⟨⟨a0, ls⟩, ⟨c1, rfl, h1, h2⟩, Nat.le_trans h3 (bulk_agg2 hy).2⟩) hf
  refine ⟨xs, ⟨cells, hr, fun i hi => ?_⟩, fun m hm => ?_, by rw [sum_marks] at hb; exact hb⟩
  · obtain ⟨cs, -, ⟨u, rfl, hu, -⟩, h4⟩ := hc i hi
    exact ⟨h4 0 (by omega), u, h4 1 (by omega), hu⟩
  · obtain ⟨i, hi, rfl⟩ := List.getElem_of_mem hm
    obtain ⟨cs, -, ⟨-, -, -, h⟩, -⟩ := hc i hi
    exact h
set_option maxRecDepth 100000 in
theorem debug_in {r : Reach} {b0 : Nat} {v : Value} {d : DataW H} {p : List MemPlace} (hv : Value.okWide Tryd.prog w r b0 26 v) (h : DataW.Trod enc Tryd.prog w base (fun _ => true) true 26 v d p) :
    ∃ (vs vm vt : Value) (x : DebD), v = .agg #[vs, vm, vt] ∧ RdD w vs vm vt x ∧ sgD x ∧ fewN x ≤ Rows.uptoBulk d := by
  obtain ⟨cs, rfl, hsz⟩ := okWide_struct Tryd.underlying26 hv
  obtain ⟨l⟩ := cs
  match l, hsz.trans cellsDebug with
  | [c0, c1, c2], _ =>
    obtain ⟨fuel, hf⟩ := h
    obtain ⟨y0, y1, y2, n, hd, h0, h1, h2⟩ := open3 Tryd.underlying26 (by kernel_rfl) hf
    obtain ⟨st, a1, a2⟩ := stops_open h0
    obtain ⟨ms, b1, b2, b3⟩ := marks_open h1
    obtain ⟨ts, c1', c2'⟩ := pairs_open Tryd.underlying24 cellsSite Tryd.underlying53 (by kernel_rfl) Tryd.underlying3 Tryd.underlying3 h2
    have hb := bulk_agg3 hd
    simp only at hb
    exact ⟨c0, c1, c2, ⟨st, ms, ts⟩, rfl, ⟨a1, b1, c1'⟩, b2, by unfold fewN; simp only; omega⟩
end
end Go.Proofs.YtmidnniinjkffaaDoor
