/- Locs: is debug information alike? -/
import Derived.Test.YtmidnniinjkffaaDoorQ5
import Derived.Test.YtmidnniinjkffaaDoorQRe
import Derived.Laws.StructEq
namespace Go.Proofs.YtmidnniinjkffaaDoor
open Go.RowKit

theorem spot_neq (x y : Int × Int) (w : World) : (binOp .neq 45 (.agg #[.int .i64 x.1, .int .i64 x.2]) (.agg #[.int .i64 y.1, .int .i64 y.2])).run Tryd.prog w = .ok (.bool (!decide (x = y))) w := by
  obtain ⟨a, b⟩ := x
  obtain ⟨a', b'⟩ := y
  go_simp
  (repeat' split) <;> simp_all
theorem site_neq (x y : Int × Int) (w : World) : (binOp .neq 53 (.agg #[.int .i64 x.1, .int .i64 x.2]) (.agg #[.int .i64 y.1, .int .i64 y.2])).run Tryd.prog w = .ok (.bool (!decide (x = y))) w := by
  obtain ⟨a, b⟩ := x
  obtain ⟨a', b'⟩ := y
  go_simp
  (repeat' split) <;> simp_all
theorem loc_neq (x y : LocD) (w : World) : (binOp .neq 48 (.agg #[.int .i64 x.depth, .int .i64 x.var, .int .u8 x.kind, .int .i64 x.arg, .int .i64 x.a, .int .i64 x.b]) (.agg #[.int .i64 y.depth, .int .i64 y.var, .int .u8 y.kind, .int .i64 y.arg, .int .i64 y.a, .int .i64 y.b])).run Tryd.prog w = .ok (.bool (!decide (x = y))) w := by
  obtain ⟨a, b, c, d, e, f⟩ := x
  obtain ⟨a', b', c', d', e', f'⟩ := y
  go_simp
  (repeat' split) <;> simp_all
theorem take_next {α : Type} {l m : List α} {j : Nat} (h1 : j < l.length) (h2 : j < m.length) (h : l.take j = m.take j) (he : l[j] = m[j]) : l.take (j + 1) = m.take (j + 1) := by
  rw [List.take_succ_eq_append_getElem h1, List.take_succ_eq_append_getElem h2, h, he]
theorem take_all {α : Type} {l m : List α} {j : Nat} (h : l.take j = m.take j) (h1 : j = l.length) (h2 : l.length = m.length) : l = m := by
  subst h1; rw [List.take_length, h2, List.take_length] at h; exact h

/-! ### Things of a list, by their place -/
theorem RdS.get {w : World} {a : Option Addr} {n c : Nat} {xs : List (List (Int × Int))} (h : RdS w (.slice a n c) xs) {j : Nat} (hj : j < xs.length) : ∃ b off p pc, a = some ⟨b, off, none⟩ ∧ n = xs.length ∧ n ≤ c ∧ c ≤ 9223372036854775807 ∧ w.cell? ⟨b, off + j, none⟩ = some (.slice p xs[j].length pc) ∧ xs[j].length ≤ 9223372036854775807 ∧ RdP w (.slice p xs[j].length pc) xs[j] := by
  obtain ⟨cells, hrd, hc⟩ := h
  obtain ⟨b, off, c0, hva, hlc, hc9, hbl⟩ := Rd.block hrd (by omega) (by omega)
  simp only [Value.slice.injEq] at hva
  obtain ⟨rfl, rfl, rfl⟩ := hva
  obtain ⟨sv, e0, hsp⟩ := hc j hj
  have d0 := rd_at hrd e0
  obtain ⟨p, pc, rfl⟩ := hsp.shape
  exact ⟨b, off, p, pc, rfl, rfl, hlc, hc9, d0, hsp.le, hsp⟩
theorem RdP.get {w : World} {a : Option Addr} {n c : Nat} {xs : List (Int × Int)} (h : RdP w (.slice a n c) xs) {j : Nat} (hj : j < xs.length) : ∃ b off, a = some ⟨b, off, none⟩ ∧ n = xs.length ∧ n ≤ c ∧ c ≤ 9223372036854775807 ∧ w.cell? ⟨b, off + j * 2, none⟩ = some (.int .i64 xs[j].1) ∧ w.cell? ⟨b, off + j * 2 + 1, none⟩ = some (.int .i64 xs[j].2) := by
  obtain ⟨cells, hrd, hc⟩ := h
  obtain ⟨b, off, c0, hva, hlc, hc9, hbl⟩ := Rd.block hrd (by omega) (by omega)
  simp only [Value.slice.injEq] at hva
  obtain ⟨rfl, rfl, rfl⟩ := hva
  obtain ⟨e0, e1⟩ := hc j hj
  exact ⟨b, off, rfl, rfl, hlc, hc9, rd_at hrd e0, rd_at hrd e1⟩
theorem RdM.get {w : World} {a : Option Addr} {n c : Nat} {xs : List MarkD} (h : RdM w (.slice a n c) xs) {j : Nat} (hj : j < xs.length) : ∃ b off p pc, a = some ⟨b, off, none⟩ ∧ n = xs.length ∧ n ≤ c ∧ c ≤ 9223372036854775807 ∧ w.cell? ⟨b, off + j * 2, none⟩ = some (.int .i64 xs[j].stop) ∧ w.cell? ⟨b, off + j * 2 + 1, none⟩ = some (.slice p xs[j].locs.length pc) ∧ xs[j].locs.length ≤ 9223372036854775807 ∧ RdL w (.slice p xs[j].locs.length pc) xs[j].locs := by
  obtain ⟨cells, hrd, hc⟩ := h
  obtain ⟨b, off, c0, hva, hlc, hc9, hbl⟩ := Rd.block hrd (by omega) (by omega)
  simp only [Value.slice.injEq] at hva
  obtain ⟨rfl, rfl, rfl⟩ := hva
  obtain ⟨e0, sv, e1, hsp⟩ := hc j hj
  have d0 := rd_at hrd e0
  have d1 := rd_at hrd e1
  obtain ⟨p, pc, rfl⟩ := hsp.shape
  exact ⟨b, off, p, pc, rfl, rfl, hlc, hc9, d0, d1, hsp.le, hsp⟩
theorem RdL.get {w : World} {a : Option Addr} {n c : Nat} {xs : List LocD} (h : RdL w (.slice a n c) xs) {j : Nat} (hj : j < xs.length) : ∃ b off, a = some ⟨b, off, none⟩ ∧ n = xs.length ∧ n ≤ c ∧ c ≤ 9223372036854775807 ∧ w.cell? ⟨b, off + j * 6, none⟩ = some (.int .i64 xs[j].depth) ∧ w.cell? ⟨b, off + j * 6 + 1, none⟩ = some (.int .i64 xs[j].var) ∧ w.cell? ⟨b, off + j * 6 + 2, none⟩ = some (.int .u8 xs[j].kind) ∧ w.cell? ⟨b, off + j * 6 + 3, none⟩ = some (.int .i64 xs[j].arg) ∧ w.cell? ⟨b, off + j * 6 + 4, none⟩ = some (.int .i64 xs[j].a) ∧ w.cell? ⟨b, off + j * 6 + 5, none⟩ = some (.int .i64 xs[j].b) := by
  obtain ⟨cells, hrd, hc⟩ := h
  obtain ⟨b, off, c0, hva, hlc, hc9, hbl⟩ := Rd.block hrd (by omega) (by omega)
  simp only [Value.slice.injEq] at hva
  obtain ⟨rfl, rfl, rfl⟩ := hva
  obtain ⟨e0, e1, e2, e3, e4, e5⟩ := hc j hj
  exact ⟨b, off, rfl, rfl, hlc, hc9, rd_at hrd e0, rd_at hrd e1, rd_at hrd e2, rd_at hrd e3, rd_at hrd e4, rd_at hrd e5⟩

/-! ### Unlike at a place -/
theorem ne_stop {a b : DebD} {j : Nat} (h1 : j < a.stops.length) (h2 : j < b.stops.length) (h : a.stops[j] ≠ b.stops[j]) : decide (a = b) = false := by
  simp only [decide_eq_false_iff_not]; intro e; subst e; exact h rfl
theorem ne_mark {a b : DebD} {j : Nat} (h1 : j < a.marks.length) (h2 : j < b.marks.length) (h : a.marks[j] ≠ b.marks[j]) : decide (a = b) = false := by
  simp only [decide_eq_false_iff_not]; intro e; subst e; exact h rfl
theorem ne_site {a b : DebD} {j : Nat} (h1 : j < a.sites.length) (h2 : j < b.sites.length) (h : a.sites[j] ≠ b.sites[j]) : decide (a = b) = false := by
  simp only [decide_eq_false_iff_not]; intro e; subst e; exact h rfl

set_option maxRecDepth 100000 in
set_option maxHeartbeats 16000000 in
theorem same21_any (va vb vc ua ub uc : Value) (a b : DebD) (w : World) (ha : RdD w va vb vc a) (hb : RdD w ua ub uc b) :
   Calls Tryd.prog 12 #[.agg #[va, vb, vc], .agg #[ua, ub, uc]] w fun e w' => e = .returned (.bool (decide (a = b))) ∧ Below w.heap.size w w' := by
  have l1 := ha.stops.le
  have l2 := ha.marks.le
  have l3 := ha.sites.le
  have l4 := hb.stops.le
  have l5 := hb.marks.le
  have l6 := hb.sites.le
  obtain ⟨sa, sc, rfl⟩ := ha.stops.shape
  obtain ⟨ma, mc, rfl⟩ := ha.marks.shape
  obtain ⟨ta, tc, rfl⟩ := ha.sites.shape
  obtain ⟨sa2, sc2, rfl⟩ := hb.stops.shape
  obtain ⟨ma2, mc2, rfl⟩ := hb.marks.shape
  obtain ⟨ta2, tc2, rfl⟩ := hb.sites.shape
  have HA := Lib.hid ha
  have HB := Lib.hid hb
  have mixed : Tryd.prog.follows Departure.mixedOrders = true := by kernel_rfl
  clear ha hb
  obtain ⟨W0, hW0⟩ : ∃ W0, W0 = (w.alloc (.cells #[.slice sa a.stops.length sc, .slice ma a.marks.length mc, .slice ta a.sites.length tc] 26)).alloc (.cells #[.slice sa2 b.stops.length sc2, .slice ma2 b.marks.length mc2, .slice ta2 b.sites.length tc2] 26) := ⟨_, rfl⟩
  have HB0 : Hid (Below w.heap.size w W0) := by rw [hW0]; exact ((Below.refl _ _).alloc (Nat.le_refl _) _).alloc (by simp) _
  have hq1 : W0.heap[w.heap.size]? = some (.cells #[.slice sa a.stops.length sc, .slice ma a.marks.length mc, .slice ta a.sites.length tc] 26 (0, 0)) := by rw [hW0]; exact heap_old _ _ (heap_new _ _ rfl)
  have hq2 : W0.heap[w.heap.size + 1]? = some (.cells #[.slice sa2 b.stops.length sc2, .slice ma2 b.marks.length mc2, .slice ta2 b.sites.length tc2] 26 (0, 0)) := by rw [hW0]; exact heap_new _ _ (by simp)
  have HY : Hid (∀ W, Below W0.heap.size W0 W → (W.cell? ⟨w.heap.size, 0, none⟩ = some (.slice sa a.stops.length sc) ∧ W.cell? ⟨w.heap.size, 1, none⟩ = some (.slice ma a.marks.length mc) ∧ W.cell? ⟨w.heap.size, 2, none⟩ = some (.slice ta a.sites.length tc)) ∧ (W.cell? ⟨w.heap.size + 1, 0, none⟩ = some (.slice sa2 b.stops.length sc2) ∧ W.cell? ⟨w.heap.size + 1, 1, none⟩ = some (.slice ma2 b.marks.length mc2) ∧ W.cell? ⟨w.heap.size + 1, 2, none⟩ = some (.slice ta2 b.sites.length tc2)) ∧ Below w.heap.size w W) := fun W h =>
    ⟨⟨later_cell h (cell_of hq1 rfl), later_cell h (cell_of hq1 rfl), later_cell h (cell_of hq1 rfl)⟩, ⟨later_cell h (cell_of hq2 rfl), later_cell h (cell_of hq2 rfl), later_cell h (cell_of hq2 rfl)⟩, HB0.out.trans (h.mono HB0.out.size)⟩
  obtain ⟨⟨x0, x1, x2⟩, ⟨y0, y1, y2⟩, _⟩ := HY.out W0 (Below.refl _ _)
  have HW0 := Lib.hid hW0
  clear hW0 hq1 hq2
  by_cases h1 : a.stops.length = b.stops.length
  case neg =>
    have hd : Hid (decide (a = b) = false) := by show _ = _; simp only [decide_eq_false_iff_not]; intro e; subst e; exact h1 rfl
    have g1 : ((a.stops.length : Int) == (b.stops.length : Int)) = false := by simpa using fun h => h1 (by omega)
    go_enter Tryd.func12, Tryd.ntmps12
    go_upto_region 1 with fail
    rw [← HW0.out]
    go_wp2_with fail
    go_ret
    exact ⟨by rw [hd.out]; rfl, HB0.out⟩
  have H1 := Lib.hid h1
  have g1 : ((a.stops.length : Int) == (b.stops.length : Int)) = true := by simp; omega
  have m1 : ((a.stops.length : Int) != (b.stops.length : Int)) = false := by simp; omega
  clear h1
  by_cases h2 : a.marks.length = b.marks.length
  case neg =>
    have hd : Hid (decide (a = b) = false) := by show _ = _; simp only [decide_eq_false_iff_not]; intro e; subst e; exact h2 rfl
    have g2 : ((a.marks.length : Int) == (b.marks.length : Int)) = false := by simpa using fun h => h2 (by omega)
    go_enter Tryd.func12, Tryd.ntmps12
    go_upto_region 1 with fail
    rw [← HW0.out]
    go_wp2_with fail
    go_ret
    exact ⟨by rw [hd.out]; rfl, HB0.out⟩
  have H2 := Lib.hid h2
  have g2 : ((a.marks.length : Int) == (b.marks.length : Int)) = true := by simp; omega
  have m2 : ((a.marks.length : Int) != (b.marks.length : Int)) = false := by simp; omega
  clear h2
  by_cases h3 : a.sites.length = b.sites.length
  case neg =>
    have hd : Hid (decide (a = b) = false) := by show _ = _; simp only [decide_eq_false_iff_not]; intro e; subst e; exact h3 rfl
    have g3 : ((a.sites.length : Int) == (b.sites.length : Int)) = false := by simpa using fun h => h3 (by omega)
    go_enter Tryd.func12, Tryd.ntmps12
    go_upto_region 1 with fail
    rw [← HW0.out]
    go_wp2_with fail
    go_ret
    exact ⟨by rw [hd.out]; rfl, HB0.out⟩
  have g3 : ((a.sites.length : Int) == (b.sites.length : Int)) = true := by simp; omega
  have m3 : ((a.sites.length : Int) != (b.sites.length : Int)) = false := by simp; omega
  have H3 := Lib.hid h3
  clear h3
  go_enter Tryd.func12, Tryd.ntmps12
  go_upto_region 1 with fail
  rw [← HW0.out]
  go_wp2_with fail
  clear g1 g2 g3 m1 m2 m3
  go_loopw [38] (fun i wr => ∃ j : Nat, j ≤ a.stops.length ∧ i = .int .i64 j ∧ a.stops.take j = b.stops.take j ∧ Below W0.heap.size W0 wr) (fun i _ => a.stops.length - (intOf i).toNat)
  case atStart => exact ⟨0, by omega, rfl, rfl, Below.refl _ _⟩
  case round =>
    clear x0 x1 x2 y0 y1 y2
    obtain ⟨j, hj, rfl, heq, hbel⟩ := hrel
    have HE := Lib.hid heq
    have HBW := Lib.hid hbel
    obtain ⟨⟨x0, x1, x2⟩, ⟨y0, y1, y2⟩, hww⟩ := HY.out wr hbel
    have HWW := Lib.hid hww
    clear heq hbel hww
    by_cases hlt : j < a.stops.length
    · --<
      have hlt2 : j < b.stops.length := by have := H1.out; omega
      obtain ⟨q1, o1, p1, pc1, rfl, -, u1, u2, dz, u3, hs1⟩ := (HA.out.stops.later HB0.out).get hlt
      obtain ⟨q2, o2, p2, pc2, rfl, -, v1, v2, ez, v3, hs2⟩ := (HB.out.stops.later HB0.out).get hlt2
      have HN := Lib.hid (fun he => take_next hlt hlt2 HE.out he)
      have HD := Lib.hid (fun h => ne_stop hlt hlt2 h)
      obtain ⟨s1, hx1⟩ : ∃ s1, a.stops[j] = s1 := ⟨_, rfl⟩
      obtain ⟨s2, hx2⟩ : ∃ s2, b.stops[j] = s2 := ⟨_, rfl⟩
      rw [hx1] at dz u3 hs1 HN HD
      rw [hx2] at ez v3 hs2 HN HD
      have HS1 := Lib.hid hs1
      have HS2 := Lib.hid hs2
      have DZ := Lib.hid dz
      have EZ := Lib.hid ez
      have d0 := later_cell HBW.out dz
      have e0 := later_cell HBW.out ez
      clear hx1 hx2 hs1 hs2 dz ez
      have hji : (j : Int) < (a.stops.length : Int) := by omega
      have hji2 : (j : Int) < (b.stops.length : Int) := by omega
      by_cases hl : s1.length = s2.length
      · have g1 : ((s1.length : Int) == (s2.length : Int)) = true := by simp; omega
        have m1 : ((s1.length : Int) != (s2.length : Int)) = false := by simp; omega
        have HL := Lib.hid hl
        clear hl
        go_wp2_with fail
        go_quiet (fail)
        have HBQ : Hid (Below W0.heap.size W0 (wr.drewN nq)) := below_drewN HBW.out _
        obtain ⟨w2, hw2⟩ : ∃ w2, w2 = wr.drewN nq := ⟨_, rfl⟩
        rw [← hw2] at HBQ ⊢
        clear hw2 x0 x1 x2 y0 y1 y2 d0 e0 g1 m1
        obtain ⟨⟨x0, x1, x2⟩, ⟨y0, y1, y2⟩, -⟩ := HY.out w2 HBQ.out
        have d0 := later_cell HBQ.out DZ.out
        have e0 := later_cell HBQ.out EZ.out
        go_wp2_with fail
        go_loopw [60] (fun i w3 => ∃ k : Nat, k ≤ s1.length ∧ i = .int .i64 k ∧ s1.take k = s2.take k ∧ Below W0.heap.size W0 w3) (fun i _ => s1.length - (intOf i).toNat)
        case atStart => exact ⟨0, by omega, rfl, rfl, HBQ.out⟩
        case round =>
          clear x0 x1 x2 y0 y1 y2 d0 e0
          obtain ⟨k, hk, rfl, heq2, hbel2⟩ := hrel
          have HE2 := Lib.hid heq2
          have HBW2 := Lib.hid hbel2
          obtain ⟨⟨x0, x1, x2⟩, ⟨y0, y1, y2⟩, hww⟩ := HY.out _ hbel2
          have HWW2 := Lib.hid hww
          have d0 := later_cell HBW2.out DZ.out
          have e0 := later_cell HBW2.out EZ.out
          clear heq2 hbel2 hww
          by_cases hlk : k < s1.length
          · have hlk2 : k < s2.length := by have := HL.out; omega
            obtain ⟨b1, f1, rfl, -, r1, r2, c0, c1⟩ := (HS1.out.later HBW2.out).get hlk
            obtain ⟨b2, f2, rfl, -, r3, r4, n0, n1⟩ := (HS2.out.later HBW2.out).get hlk2
            have HN2 := Lib.hid (fun he => take_next hlk hlk2 HE2.out he)
            have HD2 : Hid (s1[k] ≠ s2[k] → decide (a = b) = false) := fun h => HD.out (fun e => h (by subst e; rfl))
            obtain ⟨p, hp⟩ : ∃ p, s1[k] = p := ⟨_, rfl⟩
            obtain ⟨q, hq⟩ : ∃ q, s2[k] = q := ⟨_, rfl⟩
            rw [hp] at c0 c1 HN2 HD2
            rw [hq] at n0 n1 HN2 HD2
            clear hp hq
            have hki : (k : Int) < (s1.length : Int) := by omega
            have hki2 : (k : Int) < (s2.length : Int) := by omega
            by_cases hpq : p = q
            · have HNX := Lib.hid (HN2.out hpq)
              have wn : ∀ W, (binOp .neq 45 (.agg #[.int .i64 p.1, .int .i64 p.2]) (.agg #[.int .i64 q.1, .int .i64 q.2])).run Tryd.prog W = .ok (.bool false) W := fun W => by rw [spot_neq, decide_eq_true hpq]; rfl
              clear hpq
              go_wp2_with fail
              go_quiet (fail)
              go_wp2_with fail
              exact ⟨⟨k + 1, by omega, by go_num, HNX.out, below_drewN HBW2.out _⟩, by simp [intOf]; omega⟩
            · have HR := Lib.hid (HD2.out hpq)
              have wn : ∀ W, (binOp .neq 45 (.agg #[.int .i64 p.1, .int .i64 p.2]) (.agg #[.int .i64 q.1, .int .i64 q.2])).run Tryd.prog W = .ok (.bool true) W := fun W => by rw [spot_neq, decide_eq_false hpq]; rfl
              clear hpq
              go_wp2_with fail
              go_quiet (fail)
              go_wp2_with fail
              go_ret
              exact ⟨by rw [HR.out]; rfl, below_drewN HWW2.out _⟩
          · have HNX := Lib.hid (HN.out (take_all HE2.out (by omega) HL.out))
            go_wp2_with fail
            exact ⟨⟨j + 1, by omega, by go_num, HNX.out, HBW2.out⟩, by simp [intOf]; omega⟩
      · have g1 : ((s1.length : Int) == (s2.length : Int)) = false := by simpa using fun h => hl (by omega)
        have HR := Lib.hid (HD.out (fun e => hl (by rw [e])))
        clear hl
        go_wp2_with fail
        go_quiet (fail)
        go_wp2_with fail
        go_ret
        exact ⟨by rw [HR.out]; rfl, below_drewN HWW.out _⟩
      -->
    · have HST := Lib.hid (take_all HE.out (by omega) H1.out)
      clear HE
      go_wp2_with fail
      go_loopw [85] (fun i wr => ∃ j : Nat, j ≤ a.marks.length ∧ i = .int .i64 j ∧ a.marks.take j = b.marks.take j ∧ Below W0.heap.size W0 wr) (fun i _ => a.marks.length - (intOf i).toNat)
      case atStart => exact ⟨0, by omega, rfl, rfl, HBW.out⟩
      case round =>
        clear x0 x1 x2 y0 y1 y2 HBW HWW hlt hj
        obtain ⟨j, hj, rfl, heq, hbel⟩ := hrel
        have HE := Lib.hid heq
        have HBW := Lib.hid hbel
        obtain ⟨⟨x0, x1, x2⟩, ⟨y0, y1, y2⟩, hww⟩ := HY.out _ hbel
        have HWW := Lib.hid hww
        clear heq hbel hww
        by_cases hlt : j < a.marks.length
        · --<
          have hlt2 : j < b.marks.length := by have := H2.out; omega
          obtain ⟨q1, o1, p1, pc1, rfl, -, u1, u2, dz, dy, u3, hs1⟩ := (HA.out.marks.later HB0.out).get hlt
          obtain ⟨q2, o2, p2, pc2, rfl, -, v1, v2, ez, ey, v3, hs2⟩ := (HB.out.marks.later HB0.out).get hlt2
          have HN := Lib.hid (fun he => take_next hlt hlt2 HE.out he)
          have HD := Lib.hid (fun h => ne_mark hlt hlt2 h)
          obtain ⟨⟨t1, s1⟩, hx1⟩ : ∃ s1, a.marks[j] = s1 := ⟨_, rfl⟩
          obtain ⟨⟨t2, s2⟩, hx2⟩ : ∃ s2, b.marks[j] = s2 := ⟨_, rfl⟩
          rw [hx1] at dz dy u3 hs1 HN HD
          rw [hx2] at ez ey v3 hs2 HN HD
          simp only at dz dy u3 hs1 ez ey v3 hs2
          have HS1 := Lib.hid hs1
          have HS2 := Lib.hid hs2
          have DZ := Lib.hid dz
          have EZ := Lib.hid ez
          have DY := Lib.hid dy
          have EY := Lib.hid ey
          have d0 := later_cell HBW.out dz
          have e0 := later_cell HBW.out ez
          have d1 := later_cell HBW.out dy
          have e1 := later_cell HBW.out ey
          clear hx1 hx2 hs1 hs2 dz ez dy ey
          have hji : (j : Int) < (a.marks.length : Int) := by omega
          have hji2 : (j : Int) < (b.marks.length : Int) := by omega
          by_cases ht : t1 = t2
          case neg =>
            have g1 : (t1 == t2) = false := by simpa using ht
            have m1 : (t1 != t2) = true := by simpa using ht
            have HR := Lib.hid (HD.out (fun e => ht (by cases e; rfl)))
            clear ht
            go_wp2_with fail
            go_quiet (fail)
            go_wp2_with fail
            go_ret
            exact ⟨by rw [HR.out]; rfl, below_drewN HWW.out _⟩
          subst ht
          by_cases hl : s1.length = s2.length
          · have g1 : ((s1.length : Int) == (s2.length : Int)) = true := by simp; omega
            have m1 : ((s1.length : Int) != (s2.length : Int)) = false := by simp; omega
            have HL := Lib.hid hl
            clear hl
            go_wp2_with fail
            go_quiet (fail)
            have HBQ : Hid (Below W0.heap.size W0 (wr.drewN nq)) := below_drewN HBW.out _
            obtain ⟨w2, hw2⟩ : ∃ w2, w2 = wr.drewN nq := ⟨_, rfl⟩
            rw [← hw2] at HBQ ⊢
            clear hw2 x0 x1 x2 y0 y1 y2 d0 e0 d1 e1 g1 m1
            obtain ⟨⟨x0, x1, x2⟩, ⟨y0, y1, y2⟩, -⟩ := HY.out w2 HBQ.out
            have d1 := later_cell HBQ.out DY.out
            have e1 := later_cell HBQ.out EY.out
            go_wp2_with fail
            go_loopw [125] (fun i w3 => ∃ k : Nat, k ≤ s1.length ∧ i = .int .i64 k ∧ s1.take k = s2.take k ∧ Below W0.heap.size W0 w3) (fun i _ => s1.length - (intOf i).toNat)
            case atStart => exact ⟨0, by omega, rfl, rfl, HBQ.out⟩
            case round =>
              clear x0 x1 x2 y0 y1 y2 d1 e1
              obtain ⟨k, hk, rfl, heq2, hbel2⟩ := hrel
              have HE2 := Lib.hid heq2
              have HBW2 := Lib.hid hbel2
              obtain ⟨⟨x0, x1, x2⟩, ⟨y0, y1, y2⟩, hww⟩ := HY.out _ hbel2
              have HWW2 := Lib.hid hww
              have d1 := later_cell HBW2.out DY.out
              have e1 := later_cell HBW2.out EY.out
              clear heq2 hbel2 hww
              by_cases hlk : k < s1.length
              · have hlk2 : k < s2.length := by have := HL.out; omega
                obtain ⟨b1, f1, rfl, -, r1, r2, c0, c1, c2, c3, c4, c5⟩ := (HS1.out.later HBW2.out).get hlk
                obtain ⟨b2, f2, rfl, -, r3, r4, n0, n1, n2, n3, n4, n5⟩ := (HS2.out.later HBW2.out).get hlk2
                have HN2 := Lib.hid (fun he => take_next hlk hlk2 HE2.out he)
                have HD2 : Hid (s1[k] ≠ s2[k] → decide (a = b) = false) := fun h => HD.out (fun e => h (by cases e; rfl))
                obtain ⟨p, hp⟩ : ∃ p, s1[k] = p := ⟨_, rfl⟩
                obtain ⟨q, hq⟩ : ∃ q, s2[k] = q := ⟨_, rfl⟩
                rw [hp] at c0 c1 c2 c3 c4 c5 HN2 HD2
                rw [hq] at n0 n1 n2 n3 n4 n5 HN2 HD2
                clear hp hq
                have hki : (k : Int) < (s1.length : Int) := by omega
                have hki2 : (k : Int) < (s2.length : Int) := by omega
                by_cases hpq : p = q
                · have HNX := Lib.hid (HN2.out hpq)
                  have wn : ∀ W, (binOp .neq 48 (.agg #[.int .i64 p.depth, .int .i64 p.var, .int .u8 p.kind, .int .i64 p.arg, .int .i64 p.a, .int .i64 p.b]) (.agg #[.int .i64 q.depth, .int .i64 q.var, .int .u8 q.kind, .int .i64 q.arg, .int .i64 q.a, .int .i64 q.b])).run Tryd.prog W = .ok (.bool false) W := fun W => by rw [loc_neq, decide_eq_true hpq]; rfl
                  clear hpq
                  go_wp2_with fail
                  go_quiet (fail)
                  go_wp2_with fail
                  exact ⟨⟨k + 1, by omega, by go_num, HNX.out, below_drewN HBW2.out _⟩, by simp [intOf]; omega⟩
                · have HR := Lib.hid (HD2.out hpq)
                  have wn : ∀ W, (binOp .neq 48 (.agg #[.int .i64 p.depth, .int .i64 p.var, .int .u8 p.kind, .int .i64 p.arg, .int .i64 p.a, .int .i64 p.b]) (.agg #[.int .i64 q.depth, .int .i64 q.var, .int .u8 q.kind, .int .i64 q.arg, .int .i64 q.a, .int .i64 q.b])).run Tryd.prog W = .ok (.bool true) W := fun W => by rw [loc_neq, decide_eq_false hpq]; rfl
                  clear hpq
                  go_wp2_with fail
                  go_quiet (fail)
                  go_wp2_with fail
                  go_ret
                  exact ⟨by rw [HR.out]; rfl, below_drewN HWW2.out _⟩
              · have HNX := Lib.hid (HN.out (by rw [take_all HE2.out (by omega) HL.out]))
                go_wp2_with fail
                exact ⟨⟨j + 1, by omega, by go_num, HNX.out, HBW2.out⟩, by simp [intOf]; omega⟩
          · have g1 : ((s1.length : Int) == (s2.length : Int)) = false := by simpa using fun h => hl (by omega)
            have m1 : ((s1.length : Int) != (s2.length : Int)) = true := by simpa using fun h => hl (by omega)
            have HR := Lib.hid (HD.out (fun e => hl (by cases e; rfl)))
            clear hl
            go_wp2_with fail
            go_quiet (fail)
            go_wp2_with fail
            go_ret
            exact ⟨by rw [HR.out]; rfl, below_drewN HWW.out _⟩
          -->
        · have HMK := Lib.hid (take_all HE.out (by omega) H2.out)
          clear HE
          go_wp2_with fail
          go_loopw [152] (fun i wr => ∃ j : Nat, j ≤ a.sites.length ∧ i = .int .i64 j ∧ a.sites.take j = b.sites.take j ∧ Below W0.heap.size W0 wr) (fun i _ => a.sites.length - (intOf i).toNat)
          case atStart => exact ⟨0, by omega, rfl, rfl, HBW.out⟩
          case round =>
            clear x0 x1 x2 y0 y1 y2 HBW HWW hlt hj
            obtain ⟨j, hj, rfl, heq, hbel⟩ := hrel
            have HE := Lib.hid heq
            have HBW := Lib.hid hbel
            obtain ⟨⟨x0, x1, x2⟩, ⟨y0, y1, y2⟩, hww⟩ := HY.out _ hbel
            have HWW := Lib.hid hww
            clear heq hbel hww
            by_cases hlt : j < a.sites.length
            · have hlt2 : j < b.sites.length := by have := H3.out; omega
              obtain ⟨b1, f1, rfl, -, r1, r2, c0, c1⟩ := (HA.out.sites.later HWW.out).get hlt
              obtain ⟨b2, f2, rfl, -, r3, r4, n0, n1⟩ := (HB.out.sites.later HWW.out).get hlt2
              have HN2 := Lib.hid (fun he => take_next hlt hlt2 HE.out he)
              have HD2 := Lib.hid (fun h => ne_site hlt hlt2 h)
              obtain ⟨p, hp⟩ : ∃ p, a.sites[j] = p := ⟨_, rfl⟩
              obtain ⟨q, hq⟩ : ∃ q, b.sites[j] = q := ⟨_, rfl⟩
              rw [hp] at c0 c1 HN2 HD2
              rw [hq] at n0 n1 HN2 HD2
              clear hp hq
              have hki : (j : Int) < (a.sites.length : Int) := by omega
              have hki2 : (j : Int) < (b.sites.length : Int) := by omega
              by_cases hpq : p = q
              · have HNX := Lib.hid (HN2.out hpq)
                have wn : ∀ W, (binOp .neq 53 (.agg #[.int .i64 p.1, .int .i64 p.2]) (.agg #[.int .i64 q.1, .int .i64 q.2])).run Tryd.prog W = .ok (.bool false) W := fun W => by rw [site_neq, decide_eq_true hpq]; rfl
                clear hpq
                go_wp2_with fail
                go_quiet (fail)
                go_wp2_with fail
                exact ⟨⟨j + 1, by omega, by go_num, HNX.out, below_drewN HBW.out _⟩, by simp [intOf]; omega⟩
              · have HR := Lib.hid (HD2.out hpq)
                have wn : ∀ W, (binOp .neq 53 (.agg #[.int .i64 p.1, .int .i64 p.2]) (.agg #[.int .i64 q.1, .int .i64 q.2])).run Tryd.prog W = .ok (.bool true) W := fun W => by rw [site_neq, decide_eq_false hpq]; rfl
                clear hpq
                go_wp2_with fail
                go_quiet (fail)
                go_wp2_with fail
                go_ret
                exact ⟨by rw [HR.out]; rfl, below_drewN HWW.out _⟩
            · have HSI := Lib.hid (take_all HE.out (by omega) H3.out)
              have HR : Hid (decide (a = b) = true) := by
                show _ = _
                have e1 := HST.out
                have e2 := HMK.out
                have e3 := HSI.out
                obtain ⟨a1, a2, a3⟩ := a
                obtain ⟨b1, b2, b3⟩ := b
                simp only at e1 e2 e3
                subst e1; subst e2; subst e3
                simp
              go_wp2_with fail
              go_ret
              exact ⟨by rw [HR.out]; rfl, HWW.out⟩
end Go.Proofs.YtmidnniinjkffaaDoor
