/- Locs: is debug information not too long? -/
import Derived.Test.YtmidnniinjkffaaDoorQSa
import Derived.Test.YtmidnniinjkffaaDoorQ10
import Derived.Test.YtmidnniinjkffaaDoorQ8
import Derived.Test.YtmidnniinjkffaaDoorQLd
namespace Go.Proofs.YtmidnniinjkffaaDoor
open Go.RowKit

def lensS (l : List (List (Int × Int))) : Nat := (l.map List.length).sum
def lensM (l : List MarkD) : Nat := (l.map fun m => m.locs.length).sum
theorem lensS_succ (l : List (List (Int × Int))) {j : Nat} (h : j < l.length) : lensS (l.take (j + 1)) = lensS (l.take j) + l[j].length := by
  unfold lensS; rw [List.take_succ_eq_append_getElem h]; simp only [List.map_append, List.sum_append, List.map_cons, List.map_nil, List.sum_cons, List.sum_nil]; omega
theorem lensM_succ (l : List MarkD) {j : Nat} (h : j < l.length) : lensM (l.take (j + 1)) = lensM (l.take j) + l[j].locs.length := by
  unfold lensM; rw [List.take_succ_eq_append_getElem h]; simp only [List.map_append, List.sum_append, List.map_cons, List.map_nil, List.sum_cons, List.sum_nil]; omega
theorem sum_take_le (l : List Nat) : ∀ j, (l.take j).sum ≤ l.sum := fun j => by
  conv => rhs; rw [← List.take_append_drop j l, List.sum_append]
  omega
theorem lensS_le (l : List (List (Int × Int))) (j : Nat) : lensS (l.take j) ≤ lensS l := by
  unfold lensS; rw [List.map_take]; exact sum_take_le _ _
theorem lensM_le (l : List MarkD) (j : Nat) : lensM (l.take j) ≤ lensM l := by
  unfold lensM; rw [List.map_take]; exact sum_take_le _ _
def fewN (d : DebD) : Nat := d.stops.length + d.marks.length + d.sites.length + lensS d.stops + lensM d.marks

set_option maxRecDepth 100000 in
set_option maxHeartbeats 8000000 in
theorem few_any (vs vm vt : Value) (d : DebD) (w : World) (hd : RdD w vs vm vt d) (hbd : fewN d ≤ 9223372036854775807) :
   Calls Tryd.prog 7 #[.agg #[vs, vm, vt]] w fun e w' => e = .returned (.bool (decide (fewN d < 1500))) ∧ Below w.heap.size w w' := by
  have l1 := hd.stops.le
  have l2 := hd.marks.le
  have l3 := hd.sites.le
  obtain ⟨sa, sc, rfl⟩ := hd.stops.shape
  obtain ⟨ma, mc, rfl⟩ := hd.marks.shape
  obtain ⟨ta, tc, rfl⟩ := hd.sites.shape
  obtain ⟨N, hN⟩ : ∃ N, fewN d = N := ⟨_, rfl⟩
  have HN : Hid (N = d.stops.length + d.marks.length + d.sites.length + lensS d.stops + lensM d.marks) := hN.symm
  rw [hN] at hbd ⊢
  clear hN
  have HD := Lib.hid hd
  clear hd
  obtain ⟨W0, hW0⟩ : ∃ W0, W0 = w.alloc (.cells #[.slice sa d.stops.length sc, .slice ma d.marks.length mc, .slice ta d.sites.length tc] 26) := ⟨_, rfl⟩
  have HB0 : Hid (Below w.heap.size w W0) := by rw [hW0]; exact (Below.refl _ _).alloc (Nat.le_refl _) _
  have hq1 : W0.heap[w.heap.size]? = some (.cells #[.slice sa d.stops.length sc, .slice ma d.marks.length mc, .slice ta d.sites.length tc] 26 (0, 0)) := by rw [hW0]; exact heap_new _ _ rfl
  have x0 := cell_of hq1 (i := 0) rfl
  have x1 := cell_of hq1 (i := 1) rfl
  have x2 := cell_of hq1 (i := 2) rfl
  have HX1 := Lib.hid x1
  have HW0 := Lib.hid hW0
  have hs0 := HN.out
  have hw0 : w.heap.size < W0.heap.size := heap_lt hq1
  clear hW0 hq1 hs0
  have b0 : (d.stops.length : Int) + d.marks.length + d.sites.length ≤ 9223372036854775807 := by have := HN.out; omega
  obtain ⟨n0, hn0⟩ : ∃ n0 : Nat, n0 = d.stops.length + d.marks.length + d.sites.length := ⟨_, rfl⟩
  have hn0i : (d.stops.length : Int) + d.marks.length + d.sites.length = (n0 : Int) := by omega
  have HN0 := Lib.hid hn0
  have HNI := Lib.hid hn0i
  clear hn0i hn0
  go_enter Tryd.func7, Tryd.ntmps7
  go_upto_region 1 with fail
  rw [← HW0.out]
  go_wp2_with fail
  rw [HNI.out]
  clear b0
  go_loopw [3, 22] (fun n i wr => ∃ j : Nat, j ≤ d.stops.length ∧ i = .int .i64 j ∧ n = .int .i64 ((n0 + lensS (d.stops.take j) : Nat) : Int) ∧ W0 = wr) (fun _ i _ => d.stops.length - (intOf i).toNat)
  case atStart => exact ⟨0, by omega, rfl, by simp [lensS], rfl⟩
  case round =>
    obtain ⟨j, hj, rfl, rfl, rfl⟩ := hrel
    by_cases hlt : j < d.stops.length
    · obtain ⟨q1, o1, p1, pc1, rfl, -, u1, u2, d0, u3, -⟩ := (HD.out.stops.later HB0.out).get hlt
      have hle : n0 + lensS (d.stops.take j) + d.stops[j].length ≤ N := by
        have h1 := HN.out
        have h2 := HN0.out
        have h3 := lensS_le d.stops (j + 1)
        rw [lensS_succ _ hlt] at h3
        omega
      have HS := Lib.hid (lensS_succ d.stops hlt)
      obtain ⟨sl, hsl⟩ : ∃ sl, d.stops[j].length = sl := ⟨_, rfl⟩
      obtain ⟨ac, hac⟩ : ∃ ac, n0 + lensS (d.stops.take j) = ac := ⟨_, rfl⟩
      have HAC := Lib.hid hac
      rw [hsl] at d0 u3 hle HS
      rw [hac] at hle ⊢
      clear hsl hac
      go_wp2_with fail
      exact ⟨⟨j + 1, by omega, by go_num, by congr 1; have := HS.out; have := HAC.out; omega, by first | rfl | trivial⟩, by simp [intOf]; omega⟩
    · obtain rfl : j = d.stops.length := by omega
      have hac2 : n0 + lensS (d.stops.take d.stops.length) ≤ N := by
        have h1 := HN.out
        have h2 := HN0.out
        rw [List.take_length]; omega
      have HA : Hid (n0 + lensS (d.stops.take d.stops.length) = n0 + lensS d.stops) := by show _ = _; rw [List.take_length]
      obtain ⟨ac, hac⟩ : ∃ ac, n0 + lensS (d.stops.take d.stops.length) = ac := ⟨_, rfl⟩
      rw [hac] at hac2 HA ⊢
      clear hac hlt x0
      go_wp2_with fail
      go_loopw [3, 34] (fun n i wr => ∃ j : Nat, j ≤ d.marks.length ∧ i = .int .i64 j ∧ n = .int .i64 ((ac + lensM (d.marks.take j) : Nat) : Int) ∧ Below W0.heap.size W0 wr) (fun _ i _ => d.marks.length - (intOf i).toNat)
      case atStart => exact ⟨0, by omega, rfl, by simp [lensM], Below.refl _ _⟩
      case round =>
        clear x1 x2
        obtain ⟨j, hj, rfl, rfl, hbel⟩ := hrel
        have HBW := Lib.hid hbel
        have x1 := later_cell hbel HX1.out
        have hww := HB0.out.trans (hbel.mono HB0.out.size)
        have HWW := Lib.hid hww
        clear hbel hww
        by_cases hlt : j < d.marks.length
        · obtain ⟨q1, o1, p1, pc1, rfl, -, u1, u2, d0, d1, u3, -⟩ := (HD.out.marks.later HWW.out).get hlt
          have hle : ac + lensM (d.marks.take j) + d.marks[j].locs.length ≤ N := by
            have h1 := HN.out
            have h2 := HN0.out
            have h4 := HA.out
            have h3 := lensM_le d.marks (j + 1)
            rw [lensM_succ _ hlt] at h3
            omega
          have HS := Lib.hid (lensM_succ d.marks hlt)
          obtain ⟨sl, hsl⟩ : ∃ sl, d.marks[j].locs.length = sl := ⟨_, rfl⟩
          obtain ⟨st, hst⟩ : ∃ st, d.marks[j].stop = st := ⟨_, rfl⟩
          obtain ⟨bc, hbc⟩ : ∃ bc, ac + lensM (d.marks.take j) = bc := ⟨_, rfl⟩
          have HBC := Lib.hid hbc
          rw [hsl] at d1 u3 hle HS
          rw [hst] at d0
          rw [hbc] at hle ⊢
          clear hsl hbc hst
          go_wp2_with fail
          exact ⟨⟨j + 1, by omega, by go_num, by congr 1; have := HS.out; have := HBC.out; omega, HBW.out.alloc HBW.out.size _⟩, by simp [intOf]; omega⟩
        · obtain rfl : j = d.marks.length := by omega
          have HF : Hid (ac + lensM (d.marks.take d.marks.length) = N) := by
            show _ = _
            have h1 := HN.out
            have h2 := HN0.out
            have h4 := HA.out
            rw [List.take_length]; omega
          rw [HF.out]
          clear hlt x1
          go_wp2_with fail
          go_ret
          refine ⟨?_, HWW.out⟩
          congr 2
          simp
          omega
end Go.Proofs.YtmidnniinjkffaaDoor

/- Locs: debug information of its own. -/
namespace Go.Proofs.YtmidnniinjkffaaDoor
open Go.RowKit

theorem lit_nil (w : World) (T : TypeId) (K base : Nat) (hb : base ≤ w.heap.size) : (w.alloc (.cells #[] T)).ownsRow base T K (.slice (some ⟨w.heap.size, 0, none⟩) 0 0) 0 [] :=
  World.ownsRow_lit (e := T) (size := K) (base := base) w #[] 0 hb (by unfold maxLen; omega) (by simp)
theorem lit_nil2 (w : World) (T : TypeId) (K base : Nat) {g : Nat} (hg : g = w.heap.size) (hb : base ≤ w.heap.size) : (w.alloc (.cells #[] T)).ownsRow base T K (.slice (some ⟨g, 0, none⟩) 0 0) 0 [] := by subst hg; exact lit_nil w T K base hb
/-- What is told of its cells. -/
theorem els_of {α : Type} {E : Lies α} {K : Nat} {w : World} {base : Nat} {cells : List Value} {xs : List α} (f : α → List Value) (hf : ∀ x, (f x).length = K) (hl : cells.length = xs.length * K) (hc : ∀ i (h : i < xs.length), ∀ j, j < K → cells[i * K + j]? = (f xs[i])[j]?) (hE : ∀ p x, E p w base (f x) x) : Els E K w base cells xs := by
  refine ⟨hl, fun i hi => ?_⟩
  have e : (cells.drop (i * K)).take K = f xs[i] := by
    apply List.ext_getElem?
    intro j
    rw [List.getElem?_take]
    split
    · rename_i hj
      rw [List.getElem?_drop]
      exact hc i hi j hj
    · rename_i hj
      rw [List.getElem?_eq_none (by rw [hf]; omega)]
  rw [e]
  exact hE _ _
theorem els_spots {w : World} {base : Nat} {cells : List Value} {xs : List (Int × Int)} (hl : cells.length = xs.length * 2) (hc : ∀ i (h : i < xs.length), cells[i * 2]? = some (.int .i64 xs[i].1) ∧ cells[i * 2 + 1]? = some (.int .i64 xs[i].2)) : Els spotE 2 w base cells xs :=
  els_of (fun x => [.int .i64 x.1, .int .i64 x.2]) (fun _ => rfl) hl (fun i hi j hj => by
    obtain ⟨h1, h2⟩ := hc i hi
    rcases (by omega : j = 0 ∨ j = 1) with rfl | rfl
    · exact h1
    · exact h2) (fun _ _ => rfl)
theorem els_locs {w : World} {base : Nat} {cells : List Value} {xs : List LocD} (hl : cells.length = xs.length * 6) (hc : ∀ i (h : i < xs.length), cells[i * 6]? = some (.int .i64 xs[i].depth) ∧ cells[i * 6 + 1]? = some (.int .i64 xs[i].var) ∧ cells[i * 6 + 2]? = some (.int .u8 xs[i].kind) ∧ cells[i * 6 + 3]? = some (.int .i64 xs[i].arg) ∧ cells[i * 6 + 4]? = some (.int .i64 xs[i].a) ∧ cells[i * 6 + 5]? = some (.int .i64 xs[i].b)) : Els locE 6 w base cells xs :=
  els_of (fun x => [.int .i64 x.depth, .int .i64 x.var, .int .u8 x.kind, .int .i64 x.arg, .int .i64 x.a, .int .i64 x.b]) (fun _ => rfl) hl (fun i hi j hj => by
    obtain ⟨h1, h2, h3, h4, h5, h6⟩ := hc i hi
    rcases (by omega : j = 0 ∨ j = 1 ∨ j = 2 ∨ j = 3 ∨ j = 4 ∨ j = 5) with rfl | rfl | rfl | rfl | rfl | rfl
    · exact h1
    · exact h2
    · exact h3
    · exact h4
    · exact h5
    · exact h6) (fun _ _ => rfl)
theorem one_of {α : Type} {K : Nat} {cells : List Value} {xs : List α} (f : α → List Value) (hK : 0 < K) (hl : cells.length = xs.length * K) (hc : ∀ i (h : i < xs.length), ∀ j, j < K → cells[i * K + j]? = (f xs[i])[j]?) (hf : ∀ x, ∀ u ∈ f x, u.oneCell' = true) : ∀ u ∈ cells, u.oneCell' = true := fun u hu => by
  obtain ⟨k, hk⟩ := List.mem_iff_getElem?.1 hu
  have hkl : k < xs.length * K := by rw [← hl]; exact (List.getElem?_eq_some_iff.1 hk).1
  have hi : k / K < xs.length := (Nat.div_lt_iff_lt_mul hK).2 hkl
  have h2 := hc (k / K) hi (k % K) (Nat.mod_lt _ hK)
  rw [Nat.mul_comm, Nat.div_add_mod, hk] at h2
  exact hf _ u (List.mem_of_getElem? h2.symm)
theorem one_spots {cells : List Value} {xs : List (Int × Int)} (hl : cells.length = xs.length * 2) (hc : ∀ i (h : i < xs.length), cells[i * 2]? = some (.int .i64 xs[i].1) ∧ cells[i * 2 + 1]? = some (.int .i64 xs[i].2)) : ∀ u ∈ cells, u.oneCell' = true :=
  one_of (fun x => [.int .i64 x.1, .int .i64 x.2]) (by omega) hl (fun i hi j hj => by
    obtain ⟨h1, h2⟩ := hc i hi
    rcases (by omega : j = 0 ∨ j = 1) with rfl | rfl
    · exact h1
    · exact h2) (fun x u hu => by simp only [List.mem_cons, List.not_mem_nil, or_false] at hu; rcases hu with rfl | rfl <;> rfl)
theorem one_locs {cells : List Value} {xs : List LocD} (hl : cells.length = xs.length * 6) (hc : ∀ i (h : i < xs.length), cells[i * 6]? = some (.int .i64 xs[i].depth) ∧ cells[i * 6 + 1]? = some (.int .i64 xs[i].var) ∧ cells[i * 6 + 2]? = some (.int .u8 xs[i].kind) ∧ cells[i * 6 + 3]? = some (.int .i64 xs[i].arg) ∧ cells[i * 6 + 4]? = some (.int .i64 xs[i].a) ∧ cells[i * 6 + 5]? = some (.int .i64 xs[i].b)) : ∀ u ∈ cells, u.oneCell' = true :=
  one_of (fun x => [.int .i64 x.depth, .int .i64 x.var, .int .u8 x.kind, .int .i64 x.arg, .int .i64 x.a, .int .i64 x.b]) (by omega) hl (fun i hi j hj => by
    obtain ⟨h1, h2, h3, h4, h5, h6⟩ := hc i hi
    rcases (by omega : j = 0 ∨ j = 1 ∨ j = 2 ∨ j = 3 ∨ j = 4 ∨ j = 5) with rfl | rfl | rfl | rfl | rfl | rfl
    · exact h1
    · exact h2
    · exact h3
    · exact h4
    · exact h5
    · exact h6) (fun x u hu => by simp only [List.mem_cons, List.not_mem_nil, or_false] at hu; rcases hu with rfl | rfl | rfl | rfl | rfl | rfl <;> rfl)
/-- A row that was filled is told by its block. -/
theorem blk_le {w : World} {base K n : Nat} {e : TypeId} {v : Value} {xs : List Value} (h : w.ownsRow base e K v n xs) : ∀ k, v.ownBlock = some k → base ≤ k := fun k hk => (own_blk h k hk).1

theorem below_via2 {B : Nat} {w w1 w2 : World} (h : Below B w w1) (k : Below w1.heap.size w1 w2) (hB : B ≤ w1.heap.size) : Below B w w2 := h.trans (k.mono hB)
/-- Something that is made gets one more. -/
theorem out_push {α : Type} {TE TD : TypeId} {K : Nat} {E : Lies α} (hE : LiesOK TE E) {wb X w6 : World} {db B i : Nat} {c : Array Value} {v v2 : Value} {xs : List α} {x : α} {zs cells : List Value}
    (D : wb.heap[db]? = some (.cells c TD (0, 0))) (hown : wb.ownsRow B TE K v xs.length cells) (hels : Els E K wb B cells xs) (hX : Below wb.heap.size wb X) (hg : X.grownBy w6 v.ownBlock)
    (h6 : w6.ownsRow B TE K v2 (xs.length + 1) (cells ++ zs)) (hx : E xs wb B zs x) (hz : zs.length = K) (hB : db < B) :
    (∀ j u, c[j]? = some u → w6.cell? ⟨db, j, none⟩ = some u) ∧ (∀ j, w6.frozen? ⟨db, j, none⟩ = false) ∧ (w6.setCell ⟨db, i, none⟩ v2).heap[db]? = some (.cells (c.setIfInBounds i v2) TD (0, 0)) ∧ rowE TE K E (w6.setCell ⟨db, i, none⟩ v2) B v2 (xs ++ [x]) ∧ Stays TE B wb (w6.setCell ⟨db, i, none⟩ v2) := by
  have hr : ∀ k, v.ownBlock = some k → B ≤ k := fun k hk => (own_blk hown k hk).1
  have hp := rowE_push hE hown hels hX hg h6 hx hz
  have hd6 : w6.heap[db]? = some (.cells c TD (0, 0)) := grown_at hg (heap_below hX (heap_lt D) D) (fun e => by have := hr db e; omega)
  have hos : Oth w6 (w6.setCell ⟨db, i, none⟩ v2) db db := (Oth.refl w6 db db).set i v2
  refine ⟨fun j u hu => cell_of hd6 hu, fun j => unfrozen_of hd6, heap_set hd6, rowE_oth hE hp.1 hos (.inl hB) (.inl hB), fun k ob hk hb hn => ?_⟩
  exact (Below.heap_setCell _ _ _ _ (show k ≠ db by omega)).trans (hp.2 k ob hk hb hn)

set_option maxRecDepth 100000 in
set_option maxHeartbeats 16000000 in
theorem twin_any (vs vm vt : Value) (d : DebD) (w : World) (hd : RdD w vs vm vt d) (hfew : fewN d ≤ 1000000) :
   Calls Tryd.prog 8 #[.agg #[vs, vm, vt]] w fun e w' => ∃ us um ut, e = .returned (.agg #[us, um, ut]) ∧ OwnD w' w.heap.size us um ut d ∧ Below w.heap.size w w' := by
  have hst : d.stops.length ≤ 1000000 := by unfold fewN at hfew; omega
  have hmt : d.marks.length ≤ 1000000 := by unfold fewN at hfew; omega
  have htt : d.sites.length ≤ 1000000 := by unfold fewN at hfew; omega
  have HSL : Hid (∀ j (h : j < d.stops.length), d.stops[j].length ≤ 1000000) := fun j h => by
    have h1 := lensS_succ d.stops h
    have h2 := lensS_le d.stops (j + 1)
    unfold fewN at hfew; omega
  have HML : Hid (∀ j (h : j < d.marks.length), d.marks[j].locs.length ≤ 1000000) := fun j h => by
    have h1 := lensM_succ d.marks h
    have h2 := lensM_le d.marks (j + 1)
    unfold fewN at hfew; omega
  obtain ⟨sa, sc, rfl⟩ := hd.stops.shape
  obtain ⟨ma, mc, rfl⟩ := hd.marks.shape
  obtain ⟨ta, tc, rfl⟩ := hd.sites.shape
  have HD := Lib.hid hd
  clear hd hfew
  obtain ⟨W0, hW0⟩ : ∃ W0, W0 = ((w.alloc (.cells #[.slice sa d.stops.length sc, .slice ma d.marks.length mc, .slice ta d.sites.length tc] 26)).alloc (.cells #[.slice none 0 0, .slice none 0 0, .slice none 0 0] 26)).alloc (.cells #[.slice none 0 0, .slice none 0 0, .slice none 0 0] 26) := ⟨_, rfl⟩
  have HB0 : Hid (Below w.heap.size w W0) := by rw [hW0]; exact (((Below.refl _ _).alloc (Nat.le_refl _) _).alloc (by simp) _).alloc (by simp; omega) _
  have hsz : W0.heap.size = w.heap.size + 3 := by rw [hW0]; simp
  have hq0 : W0.heap[w.heap.size]? = some (.cells #[.slice sa d.stops.length sc, .slice ma d.marks.length mc, .slice ta d.sites.length tc] 26 (0, 0)) := by rw [hW0]; exact heap_old _ _ (heap_old _ _ (heap_new _ _ rfl))
  have hq1 : W0.heap[w.heap.size + 1]? = some (.cells #[.slice none 0 0, .slice none 0 0, .slice none 0 0] 26 (0, 0)) := by rw [hW0]; exact heap_old _ _ (heap_new _ _ (by simp))
  have hq2 : W0.heap[w.heap.size + 1 + 1]? = some (.cells #[.slice none 0 0, .slice none 0 0, .slice none 0 0] 26 (0, 0)) := by rw [hW0]; exact heap_new _ _ (by simp)
  have HQ0 := Lib.hid hq0
  have HQ1 := Lib.hid hq1
  have HQ2 := Lib.hid hq2
  have HW0 := Lib.hid hW0
  have HSZ := Lib.hid hsz
  have x0 := cell_of hq0 (i := 0) rfl
  -- all but the one that is made is as it was
  have HK : Hid (∀ W, Oth W0 W (w.heap.size + 1 + 1) (w.heap.size + 1 + 1) → Below w.heap.size w W ∧ W.cell? ⟨w.heap.size, 0, none⟩ = some (.slice sa d.stops.length sc) ∧ W.cell? ⟨w.heap.size, 1, none⟩ = some (.slice ma d.marks.length mc) ∧ W.cell? ⟨w.heap.size, 2, none⟩ = some (.slice ta d.sites.length tc)) := fun W o => by
    have h := o.at hq0 (by omega) (by omega)
    exact ⟨HB0.out.trans (o.below (by omega) (by omega) (by omega)), cell_of h rfl, cell_of h rfl, cell_of h rfl⟩
  clear hW0 hq0 hq1 hq2 hsz
  obtain ⟨i1, hi1, hz1, hs1, hb1⟩ := info_parts infoSpot
  have HIi1 : Hid _ := And.intro hi1 (And.intro hz1 (And.intro hs1 hb1))
  obtain ⟨i2, hi2, hz2, hs2, hb2⟩ := info_parts info_stops
  have HIi2 : Hid _ := And.intro hi2 (And.intro hz2 (And.intro hs2 hb2))
  obtain ⟨i3, hi3, hz3, hs3, hb3⟩ := info_parts info_marks
  have HIi3 : Hid _ := And.intro hi3 (And.intro hz3 (And.intro hs3 hb3))
  obtain ⟨i4, hi4, hz4, hs4, hb4⟩ := info_parts info_locs
  have HIi4 : Hid _ := And.intro hi4 (And.intro hz4 (And.intro hs4 hb4))
  obtain ⟨i5, hi5, hz5, hs5, hb5⟩ := info_parts info_sites
  have HIi5 : Hid _ := And.intro hi5 (And.intro hz5 (And.intro hs5 hb5))
  clear hi1 hz1 hs1 hb1 hi2 hz2 hs2 hb2 hi3 hz3 hs3 hb3 hi4 hz4 hs4 hb4 hi5 hz5 hs5 hb5
  have mixed : Tryd.prog.follows Departure.mixedOrders = true := by kernel_rfl
  go_enter Tryd.func8, Tryd.ntmps8
  go_upto_region 2 with fail
  rw [← HW0.out]
  go_wp2_with fail
  go_loopw [11] (fun i wr => ∃ (j : Nat) (vs : Value), j ≤ d.stops.length ∧ i = .int .i64 j ∧ wr.heap[w.heap.size + 1 + 1]? = some (.cells #[vs, .slice none 0 0, .slice none 0 0] 26 (0, 0)) ∧ rowE 46 1 stopE wr (w.heap.size + 1 + 1 + 1) vs (d.stops.take j) ∧ Oth W0 wr (w.heap.size + 1 + 1) (w.heap.size + 1 + 1)) (fun i _ => d.stops.length - (intOf i).toNat)
  case atStart => exact ⟨0, _, by omega, rfl, HQ2.out, rowE_nil _ _ _ _ _, Oth.refl _ _ _⟩
  case round =>
    clear x0
    obtain ⟨j, vs, hj, rfl, hdb, hrow, hoth⟩ := hrel
    obtain ⟨hww, x0, x1, x2⟩ := HK.out _ hoth
    have D := Lib.hid hdb
    have RW := Lib.hid hrow
    have O := Lib.hid hoth
    have HWW := Lib.hid hww
    have hsz1 := heap_lt hdb
    clear hdb hrow hoth hww
    by_cases hlt : j < d.stops.length
    · --<
      obtain ⟨q1, o1, p1, pc1, rfl, -, u1, u2, d0, u3, hs1⟩ := (HD.out.stops.later HWW.out).get hlt
      have hsl := HSL.out j hlt
      have HT : Hid (d.stops.take (j + 1) = d.stops.take j ++ [d.stops[j]]) := List.take_succ_eq_append_getElem hlt
      have hxl : (d.stops.take j).length = j := by rw [List.length_take]; omega
      obtain ⟨s, hs⟩ : ∃ s, d.stops[j] = s := ⟨_, rfl⟩
      rw [hs] at d0 u3 hs1 hsl HT
      obtain ⟨cells2, hrd2, hc2⟩ := hs1
      have HRD2 := Lib.hid hrd2
      have HC2 := Lib.hid hc2
      obtain ⟨xs, hxs⟩ : ∃ xs, d.stops.take j = xs := ⟨_, rfl⟩
      rw [hxs] at RW HT hxl
      obtain ⟨ua, uc, hua⟩ := rowE_shape RW.out
      subst hua
      have HXL := Lib.hid hxl
      have k0 := cell_of D.out (i := 0) rfl
      have HONE := Lib.hid (one_spots hrd2.1 hc2)
      clear hs hrd2 hc2 hxs hxl
      have hxj : xs.length = j := HXL.out
      have b1 : xs.length + 1 ≤ maxLen := by unfold maxLen; omega
      have b2 : (xs.length + 1) * 24 ≤ 140737488355328 := by omega
      have b3 : 0 + s.length ≤ maxLen := by unfold maxLen; omega
      have b4 : (0 + s.length) * 16 ≤ 140737488355328 := by omega
      clear hxj
      have D1 : Hid (∀ o, (wr.drew.alloc o).heap[w.heap.size + 1 + 1]? = some (.cells #[.slice ua xs.length uc, .slice none 0 0, .slice none 0 0] 26 (0, 0))) := fun o => heap_old wr.drew o D.out
      go_upto_region 5 with fail
      go_region_law (first
        | (refine step_append_own_rd rfl _ _ 46 rfl (w.heap.size + 1 + 1 + 1) 45 i1 (.agg #[.int .i64 0, .int .i64 0]) 2 16 Tryd.underlying46 HIi1.out.1 HIi1.out.2.1 HIi1.out.2.2.1 HIi1.out.2.2.2 rfl (by decide) _ 0 [] rfl (lit_nil wr.drew _ _ _ (by show _ ≤ wr.heap.size; omega)) (.slice p1 s.length pc1) s.length cells2 rfl (Rd.later HRD2.out ((Below.refl _ _).drew.alloc (by simp) _)) HONE.out b3 b4 (by simp; omega) ?_; intro v2 w2 hown2 hgrow2; rw [Nat.zero_add, List.nil_append] at hown2; have HB2 : Hid (Below wr.heap.size wr w2) := ((Below.refl _ _).drew.alloc (by simp) _).grown hgrow2 (by simp) (fun k hk => by cases hk; exact Nat.le_refl _); have D2 : Hid (w2.heap[w.heap.size + 1 + 1]? = some (.cells #[.slice ua xs.length uc, .slice none 0 0, .slice none 0 0] 26 (0, 0))) := heap_below HB2.out hsz1 D.out; have k2 := cell_of D2.out (i := 0) rfl; have kW2 : ∀ o, (w2.alloc o).cell? ⟨w.heap.size + 1 + 1, 0, none⟩ = some (.slice ua xs.length uc) := (fun o => cell_of (heap_old w2 o D2.out) rfl); have hsz2 : wr.heap.size ≤ w2.heap.size := HB2.out.size; have HR2 : Hid (rowE 45 2 spotE w2 (w.heap.size + 1 + 1 + 1) v2 s) := ⟨cells2, hown2, els_spots HRD2.out.1 HC2.out⟩; obtain ⟨va, vc, rfl⟩ := (Rd.of_own hown2).shape; have hrl : rowE 46 1 stopE w2 (w.heap.size + 1 + 1 + 1) (.slice ua xs.length uc) xs := rowE_later stopE_ok RW.out HB2.out; obtain ⟨cells, hown, hels⟩ := hrl; have HOWN := Lib.hid hown; have HELS := Lib.hid hels; clear hown2 hgrow2 hown hels)
        | (refine step_append_own_rd rfl _ _ 22 rfl (w.heap.size + 1 + 1 + 1) 46 i2 (.slice none 0 0) 1 24 Tryd.underlying22 HIi2.out.1 HIi2.out.2.1 HIi2.out.2.2.1 HIi2.out.2.2.2 rfl (by decide) _ xs.length cells rfl (own_later HOWN.out ((Below.refl _ _).alloc (Nat.le_refl _) _)) _ 1 [.slice va s.length vc] rfl (Rd.of_heap (heap_new _ _ rfl) rfl rfl (by decide)) (by simp [Value.oneCell']) b1 b2 (by simp; omega) ?_; intro v3 w3 hown3 hgrow3; obtain ⟨g3, c3, rfl⟩ := own_some hown3; have hp := Lib.hid (out_push (i := 0) (x := s) stopE_ok D2.out HOWN.out HELS.out ((Below.refl _ _).alloc (Nat.le_refl _) _) hgrow3 hown3 ⟨_, rfl, HR2.out⟩ rfl (by omega)); have O3 := Lib.hid ((((O.out.later HB2.out).later ((Below.refl _ _).alloc (Nat.le_refl _) (.cells #[.slice va s.length vc] 46))).grown hgrow3 (fun k hk => by have := (own_blk HOWN.out k hk).1; have := HSZ.out; omega)).set 0 (.slice (some ⟨g3, 0, none⟩) (xs.length + 1) c3)); have k3 := hp.out.1 0 _ rfl; have z3 := hp.out.2.1 0; clear hown3 hgrow3))
      all_goals
        go_wp2_with fail
        exact ⟨⟨j + 1, _, by omega, by go_num, hp.out.2.2.1, by rw [HT.out]; exact hp.out.2.2.2.1, O3.out⟩, by simp [intOf]; omega⟩
      -->
    · obtain rfl : j = d.stops.length := by omega
      rw [List.take_length] at RW
      clear hlt hj
      go_wp2_with fail
      go_loopw [27] (fun i wr => ∃ (j : Nat) (vm : Value), j ≤ d.marks.length ∧ i = .int .i64 j ∧ wr.heap[w.heap.size + 1 + 1]? = some (.cells #[vs, vm, .slice none 0 0] 26 (0, 0)) ∧ rowE 46 1 stopE wr (w.heap.size + 1 + 1 + 1) vs d.stops ∧ rowE 51 2 markE wr (w.heap.size + 1 + 1 + 1) vm (d.marks.take j) ∧ Oth W0 wr (w.heap.size + 1 + 1) (w.heap.size + 1 + 1)) (fun i _ => d.marks.length - (intOf i).toNat)
      case atStart => exact ⟨0, _, by omega, rfl, D.out, RW.out, rowE_nil _ _ _ _ _, O.out⟩
      case round =>
        clear x0 x1 x2 D RW O HWW hsz1
        obtain ⟨j, vm, hj, rfl, hdb, hrow, hrow2, hoth⟩ := hrel
        obtain ⟨hww, x0, x1, x2⟩ := HK.out _ hoth
        have D := Lib.hid hdb
        have RW := Lib.hid hrow
        have RWm := Lib.hid hrow2
        have O := Lib.hid hoth
        have HWW := Lib.hid hww
        have hsz1 := heap_lt hdb
        clear hdb hrow hrow2 hoth hww
        by_cases hlt : j < d.marks.length
        · obtain ⟨q1, o1, p1, pc1, rfl, -, u1, u2, d0, d1, u3, hs1⟩ := (HD.out.marks.later HWW.out).get hlt
          have hsl := HML.out j hlt
          have HT : Hid (d.marks.take (j + 1) = d.marks.take j ++ [d.marks[j]]) := List.take_succ_eq_append_getElem hlt
          have hxl : (d.marks.take j).length = j := by rw [List.length_take]; omega
          obtain ⟨⟨st, s⟩, hs⟩ : ∃ s, d.marks[j] = s := ⟨_, rfl⟩
          rw [hs] at d0 d1 u3 hs1 hsl HT
          simp only at d0 d1 u3 hs1 hsl
          obtain ⟨cells2, hrd2, hc2⟩ := hs1
          have HRD2 := Lib.hid hrd2
          have HC2 := Lib.hid hc2
          obtain ⟨xs, hxs⟩ : ∃ xs, d.marks.take j = xs := ⟨_, rfl⟩
          rw [hxs] at RWm HT hxl
          obtain ⟨ua, uc, hua⟩ := rowE_shape RWm.out
          subst hua
          have HXL := Lib.hid hxl
          have HONE := Lib.hid (one_locs hrd2.1 hc2)
          clear hs hrd2 hc2 hxs hxl
          have hxj : xs.length = j := HXL.out
          have b1 : xs.length + 1 ≤ maxLen := by unfold maxLen; omega
          have b2 : (xs.length + 1) * 32 ≤ 140737488355328 := by omega
          have b3 : 0 + s.length ≤ maxLen := by unfold maxLen; omega
          have b4 : (0 + s.length) * 48 ≤ 140737488355328 := by omega
          clear hxj
          go_upto_region 11 with (at_builtin; go_loud (refine wpList_append_own_rd ((wr.alloc (.cells #[.int .i64 st, .slice p1 s.length pc1] 51)).alloc (.cells #[] 48)) rfl _ _ 49 rfl (w.heap.size + 1 + 1 + 1) 48 i4 (.agg #[.int .i64 0, .int .i64 0, .int .u8 0, .int .i64 0, .int .i64 0, .int .i64 0]) 6 48 Tryd.underlying49 HIi4.out.1 HIi4.out.2.1 HIi4.out.2.2.1 HIi4.out.2.2.2 rfl (by decide) (.slice (some ⟨wr.heap.size + 1, 0, none⟩) 0 0) 0 [] rfl (lit_nil2 (wr.alloc (.cells #[.int .i64 st, .slice p1 s.length pc1] 51)) 48 6 (w.heap.size + 1 + 1 + 1) (World.size_alloc _ _).symm (by simp; omega)) (.slice p1 s.length pc1) s.length cells2 rfl (Rd.later HRD2.out (((Below.refl _ _).alloc (Nat.le_refl _) _).alloc (by simp) _)) HONE.out b3 b4 (by simp; omega) ?_; intro v2 w2 hown2 hgrow2; rw [Nat.zero_add, List.nil_append] at hown2; have HB2 : Hid (Below wr.heap.size wr w2) := (((Below.refl _ _).alloc (Nat.le_refl _) _).alloc (by simp) _).grown hgrow2 (by simp; omega) (fun k hk => by cases hk; simp); have M2 : Hid (w2.heap[wr.heap.size]? = some (.cells #[.int .i64 st, .slice p1 s.length pc1] 51 (0, 0))) := grown_at hgrow2 (heap_old _ _ (heap_new _ _ rfl)) (by simp [Value.ownBlock]); have m0 : w2.cell? ⟨wr.heap.size, 0, none⟩ = some (.int .i64 st) := cell_of M2.out rfl; have m1 : w2.cell? ⟨wr.heap.size, 1, none⟩ = some (.slice p1 s.length pc1) := cell_of M2.out rfl; have z1 := unfrozen_of (i := 1) M2.out; obtain ⟨va, vc, rfl⟩ := (Rd.of_own hown2).shape; have HOW2 := Lib.hid hown2; have hsz2 : wr.heap.size ≤ w2.heap.size := HB2.out.size; clear hown2 hgrow2))
          obtain ⟨W3, hW3⟩ : ∃ W3, W3 = w2.setCell ⟨wr.heap.size, 1, none⟩ (.slice va s.length vc) := ⟨_, rfl⟩
          have HB3 : Hid (Below wr.heap.size wr W3) := by show Below _ _ _; rw [hW3]; exact HB2.out.setCell (Nat.le_refl _) _
          have M3 : Hid (W3.heap[wr.heap.size]? = some (.cells #[.int .i64 st, .slice va s.length vc] 51 (0, 0))) := by show _ = _; rw [hW3, heap_set M2.out]; rfl
          have HR3 : Hid (rowE 48 6 locE W3 (w.heap.size + 1 + 1 + 1) (.slice va s.length vc) s) := by
            show rowE _ _ _ _ _ _ _
            refine ⟨cells2, own_same HOW2.out (fun k hk => ?_), els_locs HRD2.out.1 HC2.out⟩
            rw [hW3]
            refine Below.heap_setCell _ _ _ _ (fun e => ?_)
            exact own_apart HOW2.out M2.out (by decide) (hk.trans (congrArg some e))
          have D3 : Hid (W3.heap[w.heap.size + 1 + 1]? = some (.cells #[vs, .slice ua xs.length uc, .slice none 0 0] 26 (0, 0))) := heap_below HB3.out hsz1 D.out
          have RW3 := Lib.hid (rowE_later stopE_ok RW.out HB3.out)
          obtain ⟨cells, hown, hels⟩ := rowE_later markE_ok RWm.out HB3.out
          have HOWN := Lib.hid hown
          have HELS := Lib.hid hels
          have hsz3 : wr.heap.size ≤ W3.heap.size := HB3.out.size
          have HW3 := Lib.hid hW3
          clear hown hels hW3
          rw [← HW3.out]
          have k3 : W3.cell? ⟨w.heap.size + 1 + 1, 1, none⟩ = some (.slice ua xs.length uc) := cell_of D3.out rfl
          have n0 : W3.cell? ⟨wr.heap.size, 0, none⟩ = some (.int .i64 st) := cell_of M3.out rfl
          have n1 : W3.cell? ⟨wr.heap.size, 1, none⟩ = some (.slice va s.length vc) := cell_of M3.out rfl
          clear m0 m1 z1
          go_wp2_with (at_builtin; go_loud (refine wpList_append_own_g (W3.alloc (.cells #[.int .i64 st, .slice va s.length vc] 51)) rfl _ _ 23 rfl (w.heap.size + 1 + 1 + 1) 51 i3 (.agg #[.int .i64 0, .slice none 0 0]) 2 32 Tryd.underlying23 HIi3.out.1 HIi3.out.2.1 HIi3.out.2.2.1 HIi3.out.2.2.2 rfl (by decide) _ xs.length cells rfl (own_later HOWN.out ((Below.refl _ _).alloc (Nat.le_refl _) _)) _ 1 [.int .i64 st, .slice va s.length vc] rfl (Rd.of_heap (heap_new _ _ rfl) rfl rfl (by decide)) (by simp [Value.oneCell']) (xs.length + 1) rfl (by omega) b1 b2 (by simp; omega) ?_; intro g cap w8 hown5 hgrow5; have hp := Lib.hid (out_push (i := 1) (x := ⟨st, s⟩) markE_ok D3.out HOWN.out HELS.out ((Below.refl _ _).alloc (Nat.le_refl _) _) hgrow5 hown5 ⟨_, rfl, HR3.out⟩ rfl (by omega)); have O3 := Lib.hid ((((O.out.later HB3.out).later ((Below.refl _ _).alloc (Nat.le_refl _) (.cells #[.int .i64 st, .slice va s.length vc] 51))).grown hgrow5 (fun k hk => by have := (own_blk HOWN.out k hk).1; have := HSZ.out; omega)).set 1 (.slice (some ⟨g, 0, none⟩) (xs.length + 1) cap)); have k5 := hp.out.1 1 _ rfl; have z5 := hp.out.2.1 1; clear hown5 hgrow5))
          go_wp2_with fail
          exact ⟨⟨j + 1, _, by omega, by go_num, hp.out.2.2.1, rowE_stays (stopE_okT (by decide)) (by decide) RW3.out hp.out.2.2.2.2, by rw [HT.out]; exact hp.out.2.2.2.1, O3.out⟩, by simp [intOf]; omega⟩
        · obtain rfl : j = d.marks.length := by omega
          rw [List.take_length] at RWm
          obtain ⟨cells2, hrd2, hc2⟩ := HD.out.sites.later HWW.out
          have HRD2 := Lib.hid hrd2
          have HC2 := Lib.hid hc2
          have HONE := Lib.hid (one_spots hrd2.1 hc2)
          obtain ⟨va, vc, hvs⟩ := rowE_shape RW.out
          obtain ⟨ma2, mc2, hvm⟩ := rowE_shape RWm.out
          subst hvs
          subst hvm
          have k0 : wr.cell? ⟨w.heap.size + 1 + 1, 2, none⟩ = some (.slice none 0 0) := cell_of D.out rfl
          clear hlt hj hrd2 hc2
          go_upto_region 14 with (at_builtin; go_loud (refine wpList_append_own_rd wr rfl _ _ 24 rfl (w.heap.size + 1 + 1 + 1) 53 i5 (.agg #[.int .i64 0, .int .i64 0]) 2 16 Tryd.underlying24 HIi5.out.1 HIi5.out.2.1 HIi5.out.2.2.1 HIi5.out.2.2.2 rfl (by decide) (.slice none 0 0) 0 [] rfl (World.ownsRow_nil _ _ _ _) _ d.sites.length cells2 rfl HRD2.out HONE.out (by unfold maxLen; omega) (by omega) (by omega) ?_; intro v2 w2 hown2 hgrow2; rw [Nat.zero_add, List.nil_append] at hown2; have HB2 : Hid (Below wr.heap.size wr w2) := (Below.refl _ _).grown hgrow2 (Nat.le_refl _) (fun k hk => by cases hk); obtain ⟨ta2, tc2, rfl⟩ := (Rd.of_own hown2).shape; have HOW2 := Lib.hid hown2; have D2 := Lib.hid (heap_below HB2.out hsz1 D.out); have k2 : w2.cell? ⟨w.heap.size + 1 + 1, 0, none⟩ = some (.slice va d.stops.length vc) := cell_of D2.out rfl; have k3 : w2.cell? ⟨w.heap.size + 1 + 1, 1, none⟩ = some (.slice ma2 d.marks.length mc2) := cell_of D2.out rfl; have k4 : w2.cell? ⟨w.heap.size + 1 + 1, 2, none⟩ = some (.slice none 0 0) := cell_of D2.out rfl; have z2 := (fun i => unfrozen_of (i := i) D2.out); have hr2 := heap_below HB2.out (by omega) (O.out.at HQ1.out (by omega) (by omega)); have r0 : w2.cell? ⟨w.heap.size + 1, 0, none⟩ = some (.slice none 0 0) := cell_of hr2 rfl; have r1 : w2.cell? ⟨w.heap.size + 1, 1, none⟩ = some (.slice none 0 0) := cell_of hr2 rfl; have r2 : w2.cell? ⟨w.heap.size + 1, 2, none⟩ = some (.slice none 0 0) := cell_of hr2 rfl; have rz := (fun i => unfrozen_of (i := i) hr2); have HR2 := Lib.hid hr2; clear hown2 hgrow2 hr2))
          obtain ⟨W4, hW4⟩ : ∃ W4, W4 = w2.setCell ⟨w.heap.size + 1 + 1, 2, none⟩ (.slice ta2 d.sites.length tc2) := ⟨_, rfl⟩
          have D4 : W4.heap[w.heap.size + 1 + 1]? = some (.cells #[.slice va d.stops.length vc, .slice ma2 d.marks.length mc2, .slice ta2 d.sites.length tc2] 26 (0, 0)) := by rw [hW4, heap_set D2.out]; rfl
          have HW4 := Lib.hid hW4
          have k5 : W4.cell? ⟨w.heap.size + 1 + 1, 0, none⟩ = some (.slice va d.stops.length vc) := cell_of D4 rfl
          have k6 : W4.cell? ⟨w.heap.size + 1 + 1, 1, none⟩ = some (.slice ma2 d.marks.length mc2) := cell_of D4 rfl
          have k7 : W4.cell? ⟨w.heap.size + 1 + 1, 2, none⟩ = some (.slice ta2 d.sites.length tc2) := cell_of D4 rfl
          have hr4 : W4.heap[w.heap.size + 1]? = some (.cells #[.slice none 0 0, .slice none 0 0, .slice none 0 0] 26 (0, 0)) := by rw [hW4]; exact (Below.heap_setCell _ _ _ _ (show w.heap.size + 1 ≠ w.heap.size + 1 + 1 by omega)).trans HR2.out
          have s0 : W4.cell? ⟨w.heap.size + 1, 0, none⟩ = some (.slice none 0 0) := cell_of hr4 rfl
          have s1 : W4.cell? ⟨w.heap.size + 1, 1, none⟩ = some (.slice none 0 0) := cell_of hr4 rfl
          have s2 : W4.cell? ⟨w.heap.size + 1, 2, none⟩ = some (.slice none 0 0) := cell_of hr4 rfl
          have sz := (fun i => unfrozen_of (i := i) hr4)
          have HBF : Hid (Below w.heap.size w W4) := by
            show Below _ _ _
            rw [hW4]
            exact (below_via2 HWW.out HB2.out HWW.out.size).setCell (show w.heap.size ≤ w.heap.size + 1 + 1 by omega) _
          have OX : Hid (∀ u0 u1 u2, Oth w2 (((W4.setCell ⟨w.heap.size + 1, 0, none⟩ u0).setCell ⟨w.heap.size + 1, 1, none⟩ u1).setCell ⟨w.heap.size + 1, 2, none⟩ u2) (w.heap.size + 1 + 1) (w.heap.size + 1)) := fun u0 u1 u2 => by
            rw [hW4]
            exact ((((Oth.refl w2 (w.heap.size + 1) (w.heap.size + 1 + 1)).set 2 _).swap.set 0 u0).set 1 u1).set 2 u2
          clear hW4 D4 hr4 k2 k3 k4 z2 r0 r1 r2 rz k0
          rw [← HW4.out]
          go_wp2_with fail
          refine bodyPost_ret (v := .agg #[.slice va d.stops.length vc, .slice ma2 d.marks.length mc2, .slice ta2 d.sites.length tc2]) ?_ rfl ⟨_, _, _, rfl, ⟨?_, ?_, ?_⟩, ?_⟩
          · simp [results, Tryd.results8, go_sem, s0, s1, s2]
          · exact rowE_mono stopE_ok (rowE_oth stopE_ok (rowE_later stopE_ok RW.out HB2.out) (OX.out (.slice va d.stops.length vc) (.slice ma2 d.marks.length mc2) (.slice ta2 d.sites.length tc2)) (.inl (by omega)) (.inl (by omega))) (by omega)
          · exact rowE_mono markE_ok (rowE_oth markE_ok (rowE_later markE_ok RWm.out HB2.out) (OX.out (.slice va d.stops.length vc) (.slice ma2 d.marks.length mc2) (.slice ta2 d.sites.length tc2)) (.inl (by omega)) (.inl (by omega))) (by omega)
          · exact rowE_mono (spotE_ok 0) (rowE_oth (spotE_ok 0) (show rowE 53 2 spotE w2 (w.heap.size + 1 + 1 + 1) (.slice ta2 d.sites.length tc2) d.sites from ⟨cells2, HOW2.out, els_spots HRD2.out.1 HC2.out⟩) (OX.out (.slice va d.stops.length vc) (.slice ma2 d.marks.length mc2) (.slice ta2 d.sites.length tc2)) (.inl (by omega)) (.inl (by omega))) (by omega)
          · repeat (with_reducible (first | exact HBF.out | refine below_drewN ?_ _ | refine Below.drew ?_ | refine Below.setCell ?_ ?_ _ | exact Nat.le_succ _ | exact Nat.le_refl _))
end Go.Proofs.YtmidnniinjkffaaDoor

/- Locs: the law of encoding: the walk. -/
namespace Go.Proofs.YtmidnniinjkffaaDoor
open Go.RowKit

/-! ### How long the bytes are -/
theorem flat_bd {α : Type} {W : α → List Int} {c : Nat} : ∀ (xs : List α), (∀ x ∈ xs, (W x).length ≤ c) → (xs.flatMap W).length ≤ c * xs.length
  | [], _ => by simp
  | x :: r, h => by
    have ih := flat_bd r (fun y hy => h y (by simp [hy]))
    have h1 := h x (by simp)
    simp only [List.flatMap_cons, List.length_append, List.length_cons]
    rw [Nat.mul_succ]
    omega
theorem stops_len : ∀ (l : List (List (Int × Int))), (∀ s ∈ l, s.length < 18446744073709551616 ∧ ∀ x ∈ s, isN x.1 ∧ isN x.2) → (l.flatMap stopW).length ≤ 9 * l.length + 18 * lensS l
  | [], _ => by simp
  | s :: r, h => by
    have ih := stops_len r (fun y hy => h y (by simp [hy]))
    obtain ⟨h1, h2⟩ := h s (by simp)
    have h3 := numsW_len [(s.length : Int)] (by intro x hx; simp only [List.mem_singleton] at hx; subst hx; omega)
    have h4 : (s.flatMap spotW).length ≤ 18 * s.length := flat_bd s fun x hx => by
      have := h2 x hx
      unfold isN at this
      have := numsW_len [x.1, x.2] (by intro y hy; rcases List.mem_cons.1 hy with rfl | hy; omega; simp only [List.mem_singleton] at hy; subst hy; omega)
      simp only [List.length_cons, List.length_nil] at this
      exact this
    have h5 : lensS (s :: r) = s.length + lensS r := by simp [lensS]
    simp only [List.flatMap_cons, List.length_append, stopW, List.length_cons, List.length_nil] at h3 ⊢
    rw [h5]
    omega
theorem locs_len (x : LocD) (h : locWok x) : (locW x).length ≤ 54 := by
  obtain ⟨h1, h2, h3, h4, h5, h6, h7⟩ := h
  unfold isN at h1 h2 h3
  have a1 := numsW_len [x.depth, x.var, x.kind] (by intro y hy; simp only [List.mem_cons, List.not_mem_nil, or_false] at hy; omega)
  have a2 := numsW_len [x.arg] (by intro y hy; simp only [List.mem_cons, List.not_mem_nil, or_false] at hy; omega)
  have a3 := numW_len (zig x.a) (zig_lt h6)
  have a4 := numW_len (zig x.b) (zig_lt h7)
  unfold locW signW
  split
  all_goals
    simp only [List.length_append, List.length_cons, List.length_nil] at a1 a2 ⊢
    omega
theorem marks_len : ∀ (l : List MarkD), (∀ m ∈ l, isN m.stop ∧ m.locs.length ≤ 2147483647 ∧ ∀ x ∈ m.locs, locWok x) → (l.flatMap markW).length ≤ 18 * l.length + 54 * lensM l
  | [], _ => by simp
  | m :: r, h => by
    have ih := marks_len r (fun y hy => h y (by simp [hy]))
    obtain ⟨h1, h2, h3⟩ := h m (by simp)
    unfold isN at h1
    have h4 := numsW_len [m.stop, (m.locs.length : Int)] (by intro x hx; simp only [List.mem_cons, List.not_mem_nil, or_false] at hx; omega)
    have h5 : (m.locs.flatMap locW).length ≤ 54 * m.locs.length := flat_bd m.locs fun x hx => locs_len x (h3 x hx)
    have h6 : lensM (m :: r) = m.locs.length + lensM r := by simp [lensM]
    simp only [List.flatMap_cons, List.length_append, markW, List.length_cons, List.length_nil] at h4 ⊢
    rw [h6]
    omega
theorem enc_few {d : DebD} (hf : formD d = true) (hsg : sgD d) (hfew : fewN d ≤ 1000000) : (encD d).length ≤ 31 + 54 * fewN d := by
  have hr := formD_right hf
  have hl : ∀ s ∈ d.stops, s.length ≤ 1000000 := fun s hs => by
    obtain ⟨j, hj, rfl⟩ := List.getElem_of_mem hs
    have h1 := lensS_succ d.stops hj
    have h2 := lensS_le d.stops (j + 1)
    unfold fewN at hfew; omega
  have hm : ∀ m ∈ d.marks, m.locs.length ≤ 1000000 := fun m hm => by
    obtain ⟨j, hj, rfl⟩ := List.getElem_of_mem hm
    have h1 := lensM_succ d.marks hj
    have h2 := lensM_le d.marks (j + 1)
    unfold fewN at hfew; omega
  have a1 := stops_len d.stops (fun s hs => ⟨by have := hl s hs; omega, fun x hx => by obtain ⟨j, hj, rfl⟩ := List.getElem_of_mem hs; exact hr.spots j hj x hx⟩)
  have a2 := marks_len d.marks (fun m hm2 => ⟨by obtain ⟨j, hj, rfl⟩ := List.getElem_of_mem hm2; exact hr.marks j hj, by have := hm m hm2; omega, fun x hx => by
    have h4 := hsg m hm2 x hx
    obtain ⟨j, hj, rfl⟩ := List.getElem_of_mem hm2
    have h6 := hr.locs j hj x hx
    exact ⟨h6.1, h6.2.1, h6.2.2.1, h6.2.2.2.1, h6.2.2.2.2.1, h4⟩⟩)
  have a3 : (sitesW 0 d.sites).length ≤ 18 * d.sites.length := by
    have e : sitesW 0 d.sites = (diffs 0 d.sites).flatMap spotW := by
      conv => lhs; rw [← sitesOf_diffs d.sites 0]
      exact sitesW_of _ _
    have hs : sitesB d.marks.length (-1) d.sites = true := by
      unfold formD at hf
      simp only [Bool.and_eq_true] at hf
      exact hf.1.2
    rw [e, ← diffs_len d.sites 0]
    refine flat_bd _ fun x hx => ?_
    have := diffs_ok _ (by have := hr.lens.2.1; omega) _ 0 (-1) hs (by omega) (by omega) x hx
    unfold isN at this
    have := numsW_len [x.1, x.2] (by intro y hy; simp only [List.mem_cons, List.not_mem_nil, or_false] at hy; omega)
    simp only [List.length_cons, List.length_nil] at this
    exact this
  have b1 := numsW_len [(d.stops.length : Int)] (by intro y hy; simp only [List.mem_cons, List.not_mem_nil, or_false] at hy; have := hr.lens.1; omega)
  have b2 := numsW_len [(d.marks.length : Int)] (by intro y hy; simp only [List.mem_cons, List.not_mem_nil, or_false] at hy; have := hr.lens.2.1; omega)
  have b3 := numsW_len [(d.sites.length : Int)] (by intro y hy; simp only [List.mem_cons, List.not_mem_nil, or_false] at hy; have := hr.lens.2.2; omega)
  rw [encD_len]
  unfold bodyW
  simp only [List.length_append, List.length_cons, List.length_nil] at b1 b2 b3 ⊢
  unfold fewN
  omega

/-- The cells of two boxes of debug information, and that nothing older changed. -/
def TwoS (b1 b2 : Nat) (sa ma ta sa2 ma2 ta2 : Option Addr) (sc mc tc sc2 mc2 tc2 : Nat) (d : DebD) (w0 W : World) : Prop :=
  W.cell? ⟨b1, 0, none⟩ = some (.slice sa d.stops.length sc) ∧ W.cell? ⟨b1, 1, none⟩ = some (.slice ma d.marks.length mc) ∧ W.cell? ⟨b1, 2, none⟩ = some (.slice ta d.sites.length tc) ∧ W.cell? ⟨b2, 0, none⟩ = some (.slice sa2 d.stops.length sc2) ∧ W.cell? ⟨b2, 1, none⟩ = some (.slice ma2 d.marks.length mc2) ∧ W.cell? ⟨b2, 2, none⟩ = some (.slice ta2 d.sites.length tc2) ∧ Hid (Below w0.heap.size w0 W)
theorem twoS_of {b1 b2 : Nat} {sa ma ta sa2 ma2 ta2 : Option Addr} {sc mc tc sc2 mc2 tc2 : Nat} {d : DebD} {w0 W : World} {P Q : Prop}
    (h1 : W.cell? ⟨b1, 0, none⟩ = some (.slice sa d.stops.length sc) ∧ W.cell? ⟨b1, 1, none⟩ = some (.slice ma d.marks.length mc) ∧ W.cell? ⟨b1, 2, none⟩ = some (.slice ta d.sites.length tc) ∧ P)
    (h2 : W.cell? ⟨b2, 0, none⟩ = some (.slice sa2 d.stops.length sc2) ∧ W.cell? ⟨b2, 1, none⟩ = some (.slice ma2 d.marks.length mc2) ∧ W.cell? ⟨b2, 2, none⟩ = some (.slice ta2 d.sites.length tc2) ∧ Q) (h3 : Below w0.heap.size w0 W) :
    TwoS b1 b2 sa ma ta sa2 ma2 ta2 sc mc tc sc2 mc2 tc2 d w0 W := ⟨h1.1, h1.2.1, h1.2.2.1, h2.1, h2.2.1, h2.2.2.1, h3⟩

set_option maxRecDepth 100000 in
set_option maxHeartbeats 16000000 in
theorem locsEncodes_walk (vs vm vt : Value) (d : DebD) (w : World) (hd : RdD w vs vm vt d) (hsg : sgD d) (hbig : fewN d ≤ 9223372036854775807) (ga : Addr) (hg : Gives w 133 (.pointer (some ga))) :
    Calls Tryd.prog 3 #[.agg #[vs, vm, vt]] w fun e w' => e = .returned (.bool true) ∧ Below w.heap.size w w' := by
  obtain ⟨sa, sc, rfl⟩ := hd.stops.shape
  obtain ⟨ma, mc, rfl⟩ := hd.marks.shape
  obtain ⟨ta, tc, rfl⟩ := hd.sites.shape
  have HD := Lib.hid hd
  have HSG := Lib.hid hsg
  have HG := Lib.hid hg
  have HBIG := Lib.hid hbig
  have mixed : Tryd.prog.follows Departure.mixedOrders = true := by kernel_rfl
  clear hd hsg hg hbig
  obtain ⟨W0, hW0⟩ : ∃ W0, W0 = w.alloc (.cells #[.slice sa d.stops.length sc, .slice ma d.marks.length mc, .slice ta d.sites.length tc] 26) := ⟨_, rfl⟩
  have HB0 : Hid (Below w.heap.size w W0) := by rw [hW0]; exact (Below.refl _ _).alloc (Nat.le_refl _) _
  have hq0 : W0.heap[w.heap.size]? = some (.cells #[.slice sa d.stops.length sc, .slice ma d.marks.length mc, .slice ta d.sites.length tc] 26 (0, 0)) := by rw [hW0]; exact heap_new _ _ rfl
  have HK : Hid (∀ W, Below W0.heap.size W0 W → W.cell? ⟨w.heap.size, 0, none⟩ = some (.slice sa d.stops.length sc) ∧ W.cell? ⟨w.heap.size, 1, none⟩ = some (.slice ma d.marks.length mc) ∧ W.cell? ⟨w.heap.size, 2, none⟩ = some (.slice ta d.sites.length tc) ∧ Below w.heap.size w W ∧ RdD W (.slice sa d.stops.length sc) (.slice ma d.marks.length mc) (.slice ta d.sites.length tc) d ∧ w.heap.size < W.heap.size) := fun W h => by
    have hb := HB0.out.trans (h.mono HB0.out.size)
    exact ⟨later_cell h (cell_of hq0 rfl), later_cell h (cell_of hq0 rfl), later_cell h (cell_of hq0 rfl), hb, HD.out.later hb, Nat.lt_of_lt_of_le (heap_lt hq0) h.size⟩
  have HW0 := Lib.hid hW0
  clear hW0 hq0
  go_enter Tryd.func3, Tryd.ntmps3
  go_upto_region 1 with fail
  rw [← HW0.out]
  go_wp2_with fail
  refine (awake21 _).mono ?_
  rintro e w1 ⟨rfl, hb1⟩
  obtain ⟨x0, x1, x2, _, hr1, _⟩ := HK.out _ hb1
  have HB1 := Lib.hid hb1
  have CF := Lib.hid (few_any _ _ _ d w1 hr1 HBIG.out)
  clear hb1 hr1
  by_cases hfew : fewN d < 1500
  case neg =>
    have hdf : decide (fewN d < 1500) = false := decide_eq_false hfew
    rw [hdf] at CF
    clear hdf
    go_wp2_with fail
    refine CF.out.mono ?_
    rintro e w2 ⟨rfl, hb2⟩
    have HB2 := Lib.hid (below_via HB1.out hb2 HB1.out.size)
    clear hb2
    go_wp2_with fail
    go_ret
    exact ⟨rfl, HB0.out.trans (HB2.out.mono HB0.out.size)⟩
  have hdf : decide (fewN d < 1500) = true := decide_eq_true hfew
  rw [hdf] at CF
  have HFEW := Lib.hid hfew
  have HLEN : Hid (formD d = true → (encD d).length ≤ 1000000000) := fun hf => by
    have := enc_few hf HSG.out (by omega)
    omega
  have HLN : Hid ([(d.stops.length : Int), d.marks.length, d.sites.length].all okN = true) := by
    show _ = _
    simp only [List.all_cons, List.all_nil, okN, Bool.and_eq_true, decide_eq_true_eq, and_true]
    unfold fewN at hfew
    omega
  clear hdf hfew
  go_wp2_with fail
  refine CF.out.mono ?_
  rintro e w2 ⟨rfl, hb2⟩
  have HB2 := Lib.hid (below_via HB1.out hb2 HB1.out.size)
  clear hb2 CF x0 x1 x2 HB1
  obtain ⟨x0, x1, x2, _, hr2, _⟩ := HK.out _ HB2.out
  have CT := Lib.hid (twin_any _ _ _ d w2 hr2 (by have := HFEW.out; omega))
  clear hr2
  go_wp2_with fail
  refine CT.out.mono ?_
  rintro e w3 ⟨us, um, ut, rfl, ho3, hb3⟩
  obtain ⟨sa2, sc2, rfl⟩ := ho3.rd.stops.shape
  obtain ⟨ma2, mc2, rfl⟩ := ho3.rd.marks.shape
  obtain ⟨ta2, tc2, rfl⟩ := ho3.rd.sites.shape
  have HB3 := Lib.hid (below_via HB2.out hb3 HB2.out.size)
  -- the twin in its box
  obtain ⟨W4, hW4⟩ : ∃ W4, W4 = w3.alloc (.cells #[.slice sa2 d.stops.length sc2, .slice ma2 d.marks.length mc2, .slice ta2 d.sites.length tc2] 26) := ⟨_, rfl⟩
  have hb34 : Below w3.heap.size w3 W4 := by rw [hW4]; exact (Below.refl _ _).alloc (Nat.le_refl _) _
  have hq4 : W4.heap[w3.heap.size]? = some (.cells #[.slice sa2 d.stops.length sc2, .slice ma2 d.marks.length mc2, .slice ta2 d.sites.length tc2] 26 (0, 0)) := by rw [hW4]; exact heap_new _ _ rfl
  have HO4 : Hid (OwnD W4 w2.heap.size (.slice sa2 d.stops.length sc2) (.slice ma2 d.marks.length mc2) (.slice ta2 d.sites.length tc2) d) := ⟨rowE_later stopE_ok ho3.stops hb34, rowE_later markE_ok ho3.marks hb34, rowE_later (spotE_ok 0) ho3.sites hb34⟩
  have HB4 := Lib.hid (below_via HB3.out hb34 HB3.out.size)
  have HK4 : Hid (∀ W, Below W4.heap.size W4 W → W.cell? ⟨w3.heap.size, 0, none⟩ = some (.slice sa2 d.stops.length sc2) ∧ W.cell? ⟨w3.heap.size, 1, none⟩ = some (.slice ma2 d.marks.length mc2) ∧ W.cell? ⟨w3.heap.size, 2, none⟩ = some (.slice ta2 d.sites.length tc2) ∧ RdD W (.slice sa2 d.stops.length sc2) (.slice ma2 d.marks.length mc2) (.slice ta2 d.sites.length tc2) d ∧ Below W0.heap.size W0 W) := fun W h =>
    ⟨later_cell h (cell_of hq4 rfl), later_cell h (cell_of hq4 rfl), later_cell h (cell_of hq4 rfl), HO4.out.rd.later h, below_via HB4.out h HB4.out.size⟩
  have HW4 := Lib.hid hW4
  clear hW4 hq4 hb34 hb3 ho3 CT HB2 HB3 x0 x1 x2
  go_upto_region 6 with fail
  rw [← HW4.out]
  obtain ⟨y0, y1, y2, _, _⟩ := HK4.out W4 (Below.refl _ _)
  have CE := Lib.hid (lencode_any w2.heap.size _ _ _ d W4 HO4.out HSG.out HLEN.out)
  unfold EncIs at CE
  obtain ⟨ff, hff⟩ : ∃ ff, formD d = ff := ⟨_, rfl⟩
  have HFF := Lib.hid hff
  -- what is called behind it, in whatever later world
  have CF := Lib.hid (fun W (h : Hid (Below W4.heap.size W4 W)) => (form_any _ _ _ d W (HK4.out W h.out).2.2.2.1).mono fun e w' (q : _ ∧ _) => show e = .returned (.bool (formD d)) ∧ TwoS w.heap.size w3.heap.size sa ma ta sa2 ma2 ta2 sc mc tc sc2 mc2 tc2 d W4 w' from ⟨q.1, twoS_of (HK.out w' (HK4.out w' (below_via h.out q.2 h.out.size)).2.2.2.2) (HK4.out w' (below_via h.out q.2 h.out.size)) (below_via h.out q.2 h.out.size)⟩)
  have CR := Lib.hid (fun W (h : Hid (Below W4.heap.size W4 W)) => (formR_any _ _ _ d W (HK.out W (HK4.out W h.out).2.2.2.2).2.2.2.2.1 HLN.out).mono fun e w' (q : _ ∧ _) => show e = .returned (.bool (formD d)) ∧ TwoS w.heap.size w3.heap.size sa ma ta sa2 ma2 ta2 sc mc tc sc2 mc2 tc2 d W4 w' from ⟨q.1, twoS_of (HK.out w' (HK4.out w' (below_via h.out q.2 h.out.size)).2.2.2.2) (HK4.out w' (below_via h.out q.2 h.out.size)) (below_via h.out q.2 h.out.size)⟩)
  have CS := Lib.hid (fun W (h : Hid (Below W4.heap.size W4 W)) => (same21_any _ _ _ _ _ _ d d W (HK4.out W h.out).2.2.2.1 (HK.out W (HK4.out W h.out).2.2.2.2).2.2.2.2.1).mono fun e w' (q : _ ∧ _) => show e = .returned (.bool true) ∧ TwoS w.heap.size w3.heap.size sa ma ta sa2 ma2 ta2 sc mc tc sc2 mc2 tc2 d W4 w' from ⟨by rw [q.1]; simp, twoS_of (HK.out w' (HK4.out w' (below_via h.out q.2 h.out.size)).2.2.2.2) (HK4.out w' (below_via h.out q.2 h.out.size)) (below_via h.out q.2 h.out.size)⟩)
  rw [hff] at CF CR
  unfold TwoS at CF CR CS
  have HSZ4 : Hid (w.heap.size < W4.heap.size) := (HK.out W4 HB4.out).2.2.2.2.2
  clear hff
  go_wp2_with fail
  refine CE.out.mono ?_
  rintro e w5 ⟨hb5, hyes, hno⟩
  have HB5 : Hid (Below W4.heap.size W4 w5) := hb5
  obtain ⟨k0, k1, k2, -⟩ := HK.out w5 (HK4.out w5 hb5).2.2.2.2
  obtain ⟨m0, m1, m2, -⟩ := HK4.out w5 hb5
  have kB : Hid (Below W4.heap.size W4 w5.drew) := hb5.drew
  clear hb5 y0 y1 y2 CE
  cases ff with
  | false =>
    obtain rfl := hno HFF.out
    clear hyes hno
    go_upto_region 7 with fail
    go_cut [30] (fun sc wx => sc = .bool false ∧ Hid (Below W4.heap.size W4 wx))
    case first =>
      go_region_held3 (fun W => W.cell? ⟨w.heap.size, 0, none⟩ = some (.slice sa d.stops.length sc) ∧ W.cell? ⟨w.heap.size, 1, none⟩ = some (.slice ma d.marks.length mc) ∧ W.cell? ⟨w.heap.size, 2, none⟩ = some (.slice ta d.sites.length tc) ∧ W.cell? ⟨w3.heap.size, 0, none⟩ = some (.slice sa2 d.stops.length sc2) ∧ W.cell? ⟨w3.heap.size, 1, none⟩ = some (.slice ma2 d.marks.length mc2) ∧ W.cell? ⟨w3.heap.size, 2, none⟩ = some (.slice ta2 d.sites.length tc2) ∧ Hid (Below W4.heap.size W4 W))
        (first | assumption | (exact ⟨k0, k1, k2, m0, m1, m2, kB⟩))
        (first
          | (go_at_call 10; refine (CF.out _ (by assumption)).mono ?_; rintro e w6 ⟨rfl, k0, k1, k2, m0, m1, m2, kB⟩)
          | (go_at_call 11; refine (CR.out _ (by assumption)).mono ?_; rintro e w6 ⟨rfl, k0, k1, k2, m0, m1, m2, kB⟩)
          | (go_at_call 12; refine (CS.out _ (by assumption)).mono ?_; rintro e w6 ⟨rfl, k0, k1, k2, m0, m1, m2, kB⟩))
      all_goals (go_wp2_with fail; go_meet; exact ⟨rfl, by assumption⟩)
    case rest =>
      obtain ⟨rfl, hbx⟩ := hcut
      obtain ⟨wx, hwx⟩ : ∃ wx, wx = wc := ⟨_, rfl⟩
      subst hwx
      clear k0 k1 k2 m0 m1 m2 kB
      have HBX := Lib.hid hbx.out
      obtain ⟨k0, k1, k2, -⟩ := HK.out wx (HK4.out wx hbx.out).2.2.2.2
      clear hbx
      go_wp2_with fail
      refine (CR.out wx HBX.out).mono ?_
      rintro e w7 ⟨rfl, -, -, -, -, -, -, kB⟩
      have HBF := Lib.hid (HK.out w7 (HK4.out w7 kB.out).2.2.2.2).2.2.2.1
      clear k0 k1 k2 kB
      go_wp2_with fail
      go_ret
      exact ⟨rfl, HBF.out⟩
  | true =>
    obtain ⟨v, rfl, hy⟩ := hyes HFF.out
    clear hyes hno
    have HLB := Lib.hid (HLEN.out HFF.out)
    have HISB := Lib.hid (encD_isB HFF.out HSG.out (by have := HLB.out; omega))
    have HDE := Lib.hid (decD_enc HFF.out HSG.out HLB.out)
    have CEN := Lib.hid (fun W h => encode_any (.slice sa d.stops.length sc) (.slice ma d.marks.length mc) (.slice ta d.sites.length tc) d W h HFF.out HSG.out (by have := HLB.out; omega))
    obtain ⟨B, hB⟩ : ∃ B, encD d = B := ⟨_, rfl⟩
    rw [hB] at hy HLB HISB HDE CEN
    clear hB
    obtain ⟨va, vc, rfl⟩ := hy.rd.shape
    have HY5 := Lib.hid hy.rd
    clear hy
    go_upto_region 7 with fail
    go_cut [30] (fun sc wx => sc = .bool false ∧ Hid (Below W4.heap.size W4 wx) ∧ Hid (Below w5.heap.size w5 wx))
    case first =>
      have kC : Hid (Below w5.heap.size w5 w5.drew) := (Below.refl _ _).drew
      have CF := Lib.hid (fun W (h : Hid (Below W4.heap.size W4 W)) (h5 : Hid (Below w5.heap.size w5 W)) => (form_any _ _ _ d W (HK4.out W h.out).2.2.2.1).mono fun e w' (q : _ ∧ _) => show e = .returned (.bool true) ∧ TwoS w.heap.size w3.heap.size sa ma ta sa2 ma2 ta2 sc mc tc sc2 mc2 tc2 d W4 w' ∧ Hid (Below w5.heap.size w5 w') from ⟨by rw [q.1, HFF.out], twoS_of (HK.out w' (HK4.out w' (below_via h.out q.2 h.out.size)).2.2.2.2) (HK4.out w' (below_via h.out q.2 h.out.size)) (below_via h.out q.2 h.out.size), below_via h5.out q.2 h5.out.size⟩)
      have CR := Lib.hid (fun W (h : Hid (Below W4.heap.size W4 W)) (h5 : Hid (Below w5.heap.size w5 W)) => (formR_any _ _ _ d W (HK.out W (HK4.out W h.out).2.2.2.2).2.2.2.2.1 HLN.out).mono fun e w' (q : _ ∧ _) => show e = .returned (.bool true) ∧ TwoS w.heap.size w3.heap.size sa ma ta sa2 ma2 ta2 sc mc tc sc2 mc2 tc2 d W4 w' ∧ Hid (Below w5.heap.size w5 w') from ⟨by rw [q.1, HFF.out], twoS_of (HK.out w' (HK4.out w' (below_via h.out q.2 h.out.size)).2.2.2.2) (HK4.out w' (below_via h.out q.2 h.out.size)) (below_via h.out q.2 h.out.size), below_via h5.out q.2 h5.out.size⟩)
      have CS := Lib.hid (fun W (h : Hid (Below W4.heap.size W4 W)) (h5 : Hid (Below w5.heap.size w5 W)) => (same21_any _ _ _ _ _ _ d d W (HK4.out W h.out).2.2.2.1 (HK.out W (HK4.out W h.out).2.2.2.2).2.2.2.2.1).mono fun e w' (q : _ ∧ _) => show e = .returned (.bool true) ∧ TwoS w.heap.size w3.heap.size sa ma ta sa2 ma2 ta2 sc mc tc sc2 mc2 tc2 d W4 w' ∧ Hid (Below w5.heap.size w5 w') from ⟨by rw [q.1]; simp, twoS_of (HK.out w' (HK4.out w' (below_via h.out q.2 h.out.size)).2.2.2.2) (HK4.out w' (below_via h.out q.2 h.out.size)) (below_via h.out q.2 h.out.size), below_via h5.out q.2 h5.out.size⟩)
      unfold TwoS at CF CR CS
      go_region_held3 (fun W => W.cell? ⟨w.heap.size, 0, none⟩ = some (.slice sa d.stops.length sc) ∧ W.cell? ⟨w.heap.size, 1, none⟩ = some (.slice ma d.marks.length mc) ∧ W.cell? ⟨w.heap.size, 2, none⟩ = some (.slice ta d.sites.length tc) ∧ W.cell? ⟨w3.heap.size, 0, none⟩ = some (.slice sa2 d.stops.length sc2) ∧ W.cell? ⟨w3.heap.size, 1, none⟩ = some (.slice ma2 d.marks.length mc2) ∧ W.cell? ⟨w3.heap.size, 2, none⟩ = some (.slice ta2 d.sites.length tc2) ∧ Hid (Below W4.heap.size W4 W) ∧ Hid (Below w5.heap.size w5 W))
        (first | assumption | (exact ⟨k0, k1, k2, m0, m1, m2, kB, kC⟩))
        (first
          | (go_at_call 10; refine (CF.out _ (by assumption) (by assumption)).mono ?_; rintro e w6 ⟨rfl, ⟨k0, k1, k2, m0, m1, m2, kB⟩, kC⟩)
          | (go_at_call 11; refine (CR.out _ (by assumption) (by assumption)).mono ?_; rintro e w6 ⟨rfl, ⟨k0, k1, k2, m0, m1, m2, kB⟩, kC⟩)
          | (go_at_call 12; refine (CS.out _ (by assumption) (by assumption)).mono ?_; rintro e w6 ⟨rfl, ⟨k0, k1, k2, m0, m1, m2, kB⟩, kC⟩))
      all_goals (go_wp2_with fail; go_meet; exact ⟨rfl, by assumption, by assumption⟩)
    case rest =>
      obtain ⟨rfl, hbx, hbc⟩ := hcut
      obtain ⟨wx, hwx⟩ : ∃ wx, wx = wc := ⟨_, rfl⟩
      subst hwx
      clear k0 k1 k2 m0 m1 m2 kB
      have HBX := Lib.hid hbx.out
      have HYX := Lib.hid (Rd.later HY5.out hbc.out)
      obtain ⟨k0, k1, k2, -⟩ := HK.out wx (HK4.out wx hbx.out).2.2.2.2
      clear hbx hbc
      go_wp2_with fail
      refine ((formR_any _ _ _ d wx (HK.out wx (HK4.out wx HBX.out).2.2.2.2).2.2.2.2.1 HLN.out)).mono ?_
      rw [HFF.out]
      rintro e w7 ⟨rfl, hb7⟩
      have HB7 := Lib.hid (below_via HBX.out hb7 HBX.out.size)
      have HY7 := Lib.hid (Rd.later HYX.out hb7)
      have CD := Lib.hid (decode_any va B.length vc B w7 HY7.out HISB.out HLB.out ga (gives_of_below HG.out (HK.out w7 (HK4.out w7 HB7.out).2.2.2.2).2.2.2.1))
      unfold DecIs at CD
      rw [HDE.out] at CD
      simp only [Option.isSome_some, if_true, Option.getD_some] at CD
      clear hb7 k0 k1 k2
      go_wp2_with fail
      refine CD.out.mono ?_
      rintro e w8 ⟨ws, wm, wt, rfl, hrd, hb8⟩
      obtain ⟨sa3, sc3, rfl⟩ := hrd.stops.shape
      obtain ⟨ma3, mc3, rfl⟩ := hrd.marks.shape
      obtain ⟨ta3, tc3, rfl⟩ := hrd.sites.shape
      obtain ⟨W9, hW9⟩ : ∃ W9, W9 = w8.alloc (.cells #[.slice sa3 d.stops.length sc3, .slice ma3 d.marks.length mc3, .slice ta3 d.sites.length tc3] 26) := ⟨_, rfl⟩
      have hb89 : Below w8.heap.size w8 W9 := by rw [hW9]; exact (Below.refl _ _).alloc (Nat.le_refl _) _
      have hq9 : W9.heap[w8.heap.size]? = some (.cells #[.slice sa3 d.stops.length sc3, .slice ma3 d.marks.length mc3, .slice ta3 d.sites.length tc3] 26 (0, 0)) := by rw [hW9]; exact heap_new _ _ rfl
      have HB9 := Lib.hid (below_via (below_via HB7.out hb8 HB7.out.size) hb89 (Nat.le_trans HB7.out.size hb8.size))
      have HY9 := Lib.hid (Rd.later (Rd.later HY7.out hb8) hb89)
      have HX9 := Lib.hid (hrd.later hb89)
      have HW9 := Lib.hid hW9
      have HQ9 := Lib.hid hq9
      clear hrd hb8 hb89 hq9 hW9 CD
      go_upto_region 12 with fail
      rw [← HW9.out]
      obtain ⟨k0, k1, k2, -, hr9, -⟩ := HK.out W9 (HK4.out W9 HB9.out).2.2.2.2
      have C10 := Lib.hid (CEN.out W9 hr9)
      clear hr9
      go_wp2_with fail
      refine C10.out.mono ?_
      rintro e w10 ⟨⟨q, rfl, hqy⟩, hb10⟩
      obtain ⟨qa, qc, rfl⟩ := hqy.rd.shape
      have hee := eqL_refl B
      have HB10 := Lib.hid (below_via HB9.out hb10 HB9.out.size)
      have HX10 := Lib.hid (HX9.out.later hb10)
      have HY10 := Lib.hid (Rd.later HY9.out hb10)
      have HQY := Lib.hid hqy.rd
      have hq10 := heap_below hb10 (heap_lt HQ9.out) HQ9.out
      have n0 : w10.cell? ⟨w8.heap.size, 0, none⟩ = some (.slice sa3 d.stops.length sc3) := cell_of hq10 rfl
      have n1 : w10.cell? ⟨w8.heap.size, 1, none⟩ = some (.slice ma3 d.marks.length mc3) := cell_of hq10 rfl
      have n2 : w10.cell? ⟨w8.heap.size, 2, none⟩ = some (.slice ta3 d.sites.length tc3) := cell_of hq10 rfl
      clear k0 k1 k2 hqy hb10 hq10 C10
      obtain ⟨k0, k1, k2, -, hr10, -⟩ := HK.out w10 (HK4.out w10 HB10.out).2.2.2.2
      have C11 := Lib.hid (same21_any _ _ _ _ _ _ d d w10 HX10.out hr10)
      rw [show decide (d = d) = true by simp] at C11
      clear hr10
      go_wp2_with (go_at_call 14; refine (sameB_any _ _ B B _ HY10.out HQY.out HISB.out HISB.out).mono ?_; rw [hee]; rintro e w11 ⟨rfl, rfl⟩)
      refine C11.out.mono ?_
      rintro e w12 ⟨rfl, hb12⟩
      have HBF := Lib.hid (HK.out w12 (HK4.out w12 (below_via HB10.out hb12 HB10.out.size)).2.2.2.2).2.2.2.1
      clear hb12 k0 k1 k2 n0 n1 n2
      go_wp2_with fail
      go_ret
      exact ⟨rfl, HBF.out⟩
end Go.Proofs.YtmidnniinjkffaaDoor
