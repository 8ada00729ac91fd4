/- Locs: Form. -/
import Derived.Test.YtnanlkoldloolaaDoorQ5
import Derived.StillTailTactics
namespace Go.Proofs.YtnanlkoldloolaaDoor
open Go.RowKit

def stopB (s : List (Int × Int)) : Bool := decide (s.length ≠ 0) && s.all spotB
def markB (st : List (List (Int × Int))) (m : MarkD) : Bool := decide (0 ≤ m.stop) && decide (m.stop < st.length) && locsB m.locs ((st.getD m.stop.toNat []).length)
def siteB (nm : Nat) (last : Int) (s : Int × Int) : Bool := okN s.1 && decide (last < s.1) && decide (0 ≤ s.2) && decide (s.2 < nm)
def lastOf (last : Int) (l : List (Int × Int)) : Int := l.foldl (fun _ s => s.1) last
def sitesB (nm : Nat) : Int → List (Int × Int) → Bool
  | _, [] => true
  | last, s :: r => siteB nm last s && sitesB nm s.1 r
def formD (d : DebD) : Bool := d.stops.all stopB && d.marks.all (markB d.stops) && sitesB d.marks.length (-1) d.sites && [(d.stops.length : Int), d.marks.length, d.sites.length].all okN

theorem sitesB_snoc (nm : Nat) : ∀ (l : List (Int × Int)) (last : Int) (s : Int × Int), sitesB nm last (l ++ [s]) = (sitesB nm last l && siteB nm (lastOf last l) s)
  | [], last, s => by simp [sitesB, lastOf]
  | x :: r, last, s => by simp [sitesB, lastOf, sitesB_snoc nm r x.1 s, Bool.and_assoc]
theorem sitesB_no (nm : Nat) : ∀ (l : List (Int × Int)) (last : Int) (j : Nat) (h : j < l.length), siteB nm (lastOf last (l.take j)) l[j] = false → sitesB nm last l = false
  | x :: r, last, 0, _, hb => by simp only [List.take_zero, lastOf, List.foldl_nil, List.getElem_cons_zero] at hb; simp [sitesB, hb]
  | x :: r, last, j + 1, h, hb => by
    have := sitesB_no nm r x.1 j (by simpa using h) (by simpa [lastOf] using hb)
    simp [sitesB, this]
theorem lastOf_snoc (l : List (Int × Int)) (last : Int) (s : Int × Int) : lastOf last (l ++ [s]) = s.1 := by simp [lastOf]

theorem formD_stop {d : DebD} {j : Nat} (h : j < d.stops.length) (hb : stopB d.stops[j] = false) : formD d = false := by
  unfold formD
  have : d.stops.all stopB = false := by rw [List.all_eq_false]; exact ⟨_, List.getElem_mem h, by simp [hb]⟩
  simp [this]
theorem formD_mark {d : DebD} {j : Nat} (h : j < d.marks.length) (hb : markB d.stops d.marks[j] = false) : formD d = false := by
  unfold formD
  have : d.marks.all (markB d.stops) = false := by rw [List.all_eq_false]; exact ⟨_, List.getElem_mem h, by simp [hb]⟩
  simp [this]
theorem formD_site {d : DebD} (h : sitesB d.marks.length (-1) d.sites = false) : formD d = false := by
  unfold formD
  simp [h]
theorem formD_all {d : DebD} (h1 : ∀ i (h : i < d.stops.length), stopB d.stops[i] = true) (h2 : ∀ i (h : i < d.marks.length), markB d.stops d.marks[i] = true) (h3 : sitesB d.marks.length (-1) d.sites = true) : formD d = [(d.stops.length : Int), d.marks.length, d.sites.length].all okN := by
  have e1 : d.stops.all stopB = true := by
    rw [List.all_eq_true]; intro x hx; obtain ⟨i, hi, rfl⟩ := List.getElem_of_mem hx; exact h1 i hi
  have e2 : d.marks.all (markB d.stops) = true := by
    rw [List.all_eq_true]; intro x hx; obtain ⟨i, hi, rfl⟩ := List.getElem_of_mem hx; exact h2 i hi
  unfold formD
  rw [e1, e2, h3]; rfl

set_option maxRecDepth 100000 in
set_option maxHeartbeats 8000000 in
theorem form_any (vs vm vt : Value) (d : DebD) (w : World) (hd : RdD w vs vm vt d) :
   Calls Tryd.prog 43 #[.agg #[vs, vm, vt]] w fun e w' => e = .returned (.bool (formD d)) ∧ Below w.heap.size w w' := by
  have hsl := hd.stops.le
  have hml := hd.marks.le
  have htl := hd.sites.le
  obtain ⟨sa, sc, rfl⟩ := hd.stops.shape
  obtain ⟨ma, mc, rfl⟩ := hd.marks.shape
  obtain ⟨ta, tc, rfl⟩ := hd.sites.shape
  have HD := Lib.hid hd
  have mixed : Tryd.prog.follows Departure.mixedOrders = true := by kernel_rfl
  clear hd
  go_enter Tryd.func43, Tryd.ntmps43
  go_wp2_with fail
  have hbel : ∀ wr, Below (w.heap.size + 1) (w.alloc (.cells #[.slice sa d.stops.length sc, .slice ma d.marks.length mc, .slice ta d.sites.length tc] 64)) wr → Below w.heap.size w wr ∧ wr.heap[w.heap.size]? = some (.cells #[.slice sa d.stops.length sc, .slice ma d.marks.length mc, .slice ta d.sites.length tc] 64 (0, 0)) := fun wr h =>
    ⟨((Below.refl _ _).alloc (Nat.le_refl _) _).trans (h.mono (by omega)), heap_below h (by omega) (heap_new _ _ rfl)⟩
  have HBEL : Hid (∀ wr, Below (w.heap.size + 1) (w.alloc (.cells #[.slice sa d.stops.length sc, .slice ma d.marks.length mc, .slice ta d.sites.length tc] 64)) wr → Below w.heap.size w wr ∧ wr.heap[w.heap.size]? = some (.cells #[.slice sa d.stops.length sc, .slice ma d.marks.length mc, .slice ta d.sites.length tc] 64 (0, 0))) := hbel
  clear hbel
  go_loopw [13] (fun i wr => ∃ j : Nat, j ≤ d.stops.length ∧ i = .int .i64 j ∧ (∀ i (h : i < d.stops.length), i < j → stopB d.stops[i] = true) ∧ Below (w.heap.size + 1) (w.alloc (.cells #[.slice sa d.stops.length sc, .slice ma d.marks.length mc, .slice ta d.sites.length tc] 64)) wr) (fun i _ => d.stops.length - (intOf i).toNat)
  case atStart => exact ⟨0, by omega, rfl, fun i _ h => absurd h (by omega), Below.refl _ _⟩
  case round =>
    obtain ⟨j, hj, rfl, hall, hb⟩ := hrel
    have HA := Lib.hid hall
    have HB := Lib.hid hb
    obtain ⟨hb0, hbx⟩ := HBEL.out _ hb
    have HB0 := Lib.hid hb0
    have hVr := HD.out.stops.later hb0
    have hwx := heap_lt hbx
    have x0 := cell_of hbx (show (#[.slice sa d.stops.length sc, .slice ma d.marks.length mc, .slice ta d.sites.length tc] : Array Value)[0]? = _ from rfl)
    have x1 := cell_of hbx (show (#[.slice sa d.stops.length sc, .slice ma d.marks.length mc, .slice ta d.sites.length tc] : Array Value)[1]? = _ from rfl)
    have x2 := cell_of hbx (show (#[.slice sa d.stops.length sc, .slice ma d.marks.length mc, .slice ta d.sites.length tc] : Array Value)[2]? = _ from rfl)
    clear hall hb hb0 hbx
    by_cases hlt : j < d.stops.length
    · obtain ⟨cells, hrd, hc⟩ := hVr
      obtain ⟨b, off, c0, hva, hlc, hc9, hbl⟩ := Rd.block hrd (by omega) (by omega)
      simp only [Value.slice.injEq, true_and] at hva
      obtain ⟨rfl, rfl⟩ := hva
      obtain ⟨sv, e0, hsp⟩ := hc j hlt
      have d0 := rd_at hrd e0
      obtain ⟨ba, bc, rfl⟩ := hsp.shape
      have hbl9 := hsp.le
      have HSP := Lib.hid (contains_spot _ _ _ hsp)
      clear hrd hc e0 hsp
      obtain ⟨s, hs⟩ : ∃ s, d.stops[j] = s := ⟨_, rfl⟩
      have HX := Lib.hid hs
      rw [hs] at d0 HSP hbl9
      clear hs
      by_cases hs0 : s.length = 0
      · have hz : ((s.length : Int) == 0) = true := by simp [hs0]
        go_wp2_with fail
        go_ret
        exact ⟨ret_bool (formD_stop hlt (by rw [HX.out]; simp [stopB, hs0])).symm, HB0.out⟩
      · have hz : ((s.length : Int) == 0) = false := by simpa using hs0
        have hs0' : Hid (s.length ≠ 0) := hs0
        clear hs0
        obtain ⟨B1, hB1⟩ : ∃ B, s.all spotB = B := ⟨_, rfl⟩
        have HB1 := Lib.hid hB1
        rw [hB1] at HSP
        clear hB1
        go_wp2_with fail
        refine HSP.out.mono ?_
        rintro e w1 ⟨rfl, hb1⟩
        have HB2 := Lib.hid (HB.out.trans (hb1.mono (by omega)))
        clear hb1 HSP
        cases B1 with
        | false =>
          go_wp2_with fail
          go_ret
          exact ⟨ret_bool (formD_stop hlt (by rw [HX.out]; simp [stopB, HB1.out])).symm, (HBEL.out _ HB2.out).1⟩
        | true =>
          go_wp2_with fail
          refine ⟨⟨j + 1, by omega, by go_num, fun i hi hij => ?_, HB2.out⟩, by simp [intOf]; omega⟩
          by_cases e : i = j
          · subst e; rw [HX.out]; simp [stopB, HB1.out, hs0'.out]
          · exact HA.out i hi (by omega)
    · obtain rfl : j = d.stops.length := by omega
      clear hVr
      have HA1 : Hid (∀ i (h : i < d.stops.length), stopB d.stops[i] = true) := fun i h => HA.out i h h
      clear HA HB0
      go_wp2_with fail
      rename_i wr0 _ _ _
      go_loopw [28] (fun i wr => ∃ j : Nat, j ≤ d.marks.length ∧ i = .int .i64 j ∧ (∀ i (h : i < d.marks.length), i < j → markB d.stops d.marks[i] = true) ∧ Below (w.heap.size + 1) (w.alloc (.cells #[.slice sa d.stops.length sc, .slice ma d.marks.length mc, .slice ta d.sites.length tc] 64)) wr) (fun i _ => d.marks.length - (intOf i).toNat)
      case atStart => exact ⟨0, by omega, rfl, fun i _ h => absurd h (by omega), HB.out⟩
      case round =>
        clear x0 x1 x2 hwx
        obtain ⟨j, hj, rfl, hall, hb⟩ := hrel
        have HA := Lib.hid hall
        have HB := Lib.hid hb
        obtain ⟨hb0, hbx⟩ := HBEL.out _ hb
        have HB0 := Lib.hid hb0
        have hVr := HD.out.marks.later hb0
        have hSr := HD.out.stops.later hb0
        have hwx := heap_lt hbx
        have x0 := cell_of hbx (show (#[.slice sa d.stops.length sc, .slice ma d.marks.length mc, .slice ta d.sites.length tc] : Array Value)[0]? = _ from rfl)
        have x1 := cell_of hbx (show (#[.slice sa d.stops.length sc, .slice ma d.marks.length mc, .slice ta d.sites.length tc] : Array Value)[1]? = _ from rfl)
        have x2 := cell_of hbx (show (#[.slice sa d.stops.length sc, .slice ma d.marks.length mc, .slice ta d.sites.length tc] : Array Value)[2]? = _ from rfl)
        clear hall hb hb0 hbx
        by_cases hlt : j < d.marks.length
        · obtain ⟨cells, hrd, hc⟩ := hVr
          obtain ⟨b, off, c0, hva, hlc, hc9, hbl⟩ := Rd.block hrd (by omega) (by omega)
          simp only [Value.slice.injEq, true_and] at hva
          obtain ⟨rfl, rfl⟩ := hva
          obtain ⟨e0, mv, e1, hlv⟩ := hc j hlt
          have d0 := rd_at hrd e0
          have d1 := rd_at hrd e1
          obtain ⟨la, lc, rfl⟩ := hlv.shape
          have hll9 := hlv.le
          have HLV := Lib.hid hlv
          clear hrd hc e0 e1 hlv
          obtain ⟨mk, hm⟩ : ∃ mk, d.marks[j] = mk := ⟨_, rfl⟩
          have HX := Lib.hid hm
          rw [hm] at d0 d1 HLV hll9
          clear hm
          obtain ⟨stp, ls⟩ := mk
          simp only [← Nat.add_assoc] at d0 d1 HLV hll9
          have hno : Hid (markB d.stops ⟨stp, ls⟩ = false → formD d = false) := fun h => formD_mark hlt (by rw [HX.out]; exact h)
          have hbw : Hid (∀ n, Below w.heap.size w ((wr.alloc (.cells #[.int .i64 stp, .slice la ls.length lc] 89)).drewN n)) := fun n => below_drewN (HB0.out.alloc HB0.out.size _) n
          by_cases hs0 : stp < 0
          · have hg : decide (stp < 0) = true := decide_eq_true hs0
            clear hSr
            go_upto_region 10 with fail
            go_quiet (fail)
            go_wp2_with fail
            go_ret
            exact ⟨ret_bool (hno.out (by simp [markB, show ¬ 0 ≤ stp by omega])).symm, hbw.out _⟩
          · have hg : decide (stp < 0) = false := decide_eq_false hs0
            by_cases hs1 : stp < d.stops.length
            · have hg1 : decide ((d.stops.length : Int) ≤ stp) = false := decide_eq_false (by omega)
              obtain ⟨k, rfl⟩ : ∃ k : Nat, stp = k := ⟨stp.toNat, by omega⟩
              have hk : k < d.stops.length := by omega
              obtain ⟨scells, hsrd, hsc⟩ := hSr
              obtain ⟨sb, soff, sc0, hsva, hslc, hsc9, hsbl⟩ := Rd.block hsrd (by omega) (by omega)
              simp only [Value.slice.injEq, true_and] at hsva
              obtain ⟨rfl, rfl⟩ := hsva
              obtain ⟨sv, f0, hsp⟩ := hsc k hk
              have g0 := rd_at hsrd f0
              obtain ⟨ka, kc, rfl⟩ := hsp.shape
              have hk9 := hsp.le
              clear hsrd hsc f0 hsp
              obtain ⟨n, hn⟩ : ∃ n, d.stops[k].length = n := ⟨_, rfl⟩
              have HN := Lib.hid hn
              rw [hn] at g0 hk9
              clear hn
              go_upto_region 10 with fail
              have HWA : Hid (Below wr.heap.size wr (wr.alloc (.cells #[.int .i64 (k : Int), .slice la ls.length lc] 89))) := (Below.refl _ _).alloc (Nat.le_refl _) _
              have hwn := heap_new wr (.cells #[.int .i64 (k : Int), .slice la ls.length lc] 89) rfl
              obtain ⟨W, hW⟩ : ∃ W, wr.alloc (.cells #[.int .i64 (k : Int), .slice la ls.length lc] 89) = W := ⟨_, rfl⟩
              rw [hW] at HWA hwn ⊢
              clear hW
              have y0 := cell_of hwn (show (#[.int .i64 (k : Int), .slice la ls.length lc] : Array Value)[0]? = _ from rfl)
              have y1 := cell_of hwn (show (#[.int .i64 (k : Int), .slice la ls.length lc] : Array Value)[1]? = _ from rfl)
              have y2 : W.cell? ⟨w.heap.size, 0, none⟩ = some (.slice (some ⟨sb, soff, none⟩) d.stops.length sc) := by rw [HWA.out.cell (p := ⟨w.heap.size, 0, none⟩) hwx]; exact x0
              have y3 : W.cell? ⟨sb, soff + k, none⟩ = some (.slice ka n kc) := by rw [HWA.out.cell (p := ⟨sb, soff + k, none⟩) (World.block_lt_of_cell? _ _ g0)]; exact g0
              clear hwn x0 x1 x2 g0 d0 d1
              go_still_tail 21, mixed
              go_wp2_with fail
              refine (locsOK_any _ ls n _ (HLV.out.later HWA.out.drew)).mono ?_
              rintro e w1 ⟨rfl, hb1⟩
              have HB2 : Hid (Below (w.heap.size + 1) (w.alloc (.cells #[.slice (some ⟨sb, soff, none⟩) d.stops.length sc, .slice (some ⟨b, off, none⟩) d.marks.length mc, .slice ta d.sites.length tc] 64)) w1) := HB.out.trans ((HWA.out.drew.trans (hb1.mono HWA.out.size)).mono (by omega))
              have hmb : Hid (markB d.stops ⟨k, ls⟩ = locsB ls n) := by
                show _ = _
                unfold markB
                simp [hk, HN.out]
              clear hb1
              obtain ⟨B1, hB1⟩ : ∃ B, locsB ls n = B := ⟨_, rfl⟩
              have HB1 := Lib.hid hB1
              rw [hB1]
              clear hB1
              cases B1 with
              | false =>
                go_wp2_with fail
                go_ret
                exact ⟨ret_bool (hno.out (by rw [hmb.out, HB1.out])).symm, (HBEL.out _ HB2.out).1⟩
              | true =>
                go_wp2_with fail
                refine ⟨⟨j + 1, by omega, by go_num, fun i hi hij => ?_, HB2.out⟩, by simp [intOf]; omega⟩
                by_cases e : i = j
                · subst e; rw [HX.out, hmb.out, HB1.out]
                · exact HA.out i hi (by omega)
            · have hg1 : decide ((d.stops.length : Int) ≤ stp) = true := decide_eq_true (by omega)
              clear hSr
              go_upto_region 10 with fail
              go_quiet (fail)
              go_wp2_with fail
              go_ret
              exact ⟨ret_bool (hno.out (by unfold markB; simp only [decide_eq_false (show ¬ stp < (d.stops.length : Int) by omega), Bool.and_false, Bool.false_and])).symm, hbw.out _⟩
        · obtain rfl : j = d.marks.length := by omega
          clear hVr hSr
          have HA2 : Hid (∀ i (h : i < d.marks.length), markB d.stops d.marks[i] = true) := fun i h => HA.out i h h
          clear HA HB0
          go_wp2_with fail
          go_loopw [60, 7] (fun i la wr => ∃ j : Nat, j ≤ d.sites.length ∧ i = .int .i64 j ∧ la = .int .i64 (lastOf (-1) (d.sites.take j)) ∧ sitesB d.marks.length (-1) (d.sites.take j) = true ∧ Below (w.heap.size + 1) (w.alloc (.cells #[.slice sa d.stops.length sc, .slice ma d.marks.length mc, .slice ta d.sites.length tc] 64)) wr) (fun i _ _ => d.sites.length - (intOf i).toNat)
          case atStart => exact ⟨0, by omega, rfl, rfl, rfl, HB.out⟩
          case round =>
            clear x0 x1 x2 hwx
            obtain ⟨j, hj, rfl, rfl, hall, hb⟩ := hrel
            have HA := Lib.hid hall
            have HB := Lib.hid hb
            obtain ⟨hb0, hbx⟩ := HBEL.out _ hb
            have HB0 := Lib.hid hb0
            have hVr := HD.out.sites.later hb0
            have hwx := heap_lt hbx
            have x0 := cell_of hbx (show (#[.slice sa d.stops.length sc, .slice ma d.marks.length mc, .slice ta d.sites.length tc] : Array Value)[0]? = _ from rfl)
            have x1 := cell_of hbx (show (#[.slice sa d.stops.length sc, .slice ma d.marks.length mc, .slice ta d.sites.length tc] : Array Value)[1]? = _ from rfl)
            have x2 := cell_of hbx (show (#[.slice sa d.stops.length sc, .slice ma d.marks.length mc, .slice ta d.sites.length tc] : Array Value)[2]? = _ from rfl)
            obtain ⟨L, hL⟩ : ∃ L, lastOf (-1) (d.sites.take j) = L := ⟨_, rfl⟩
            have HL := Lib.hid hL
            rw [hL]
            clear hall hb hb0 hbx hL
            by_cases hlt : j < d.sites.length
            · obtain ⟨cells, hrd, hc⟩ := hVr
              obtain ⟨b, off, c0, hva, hlc, hc9, hbl⟩ := Rd.block hrd (by omega) (by omega)
              simp only [Value.slice.injEq, true_and] at hva
              obtain ⟨rfl, rfl⟩ := hva
              obtain ⟨e0, e1⟩ := hc j hlt
              have d0 := rd_at hrd e0
              have d1 := rd_at hrd e1
              clear hrd hc e0 e1
              obtain ⟨s, hs⟩ : ∃ s, d.sites[j] = s := ⟨_, rfl⟩
              have HX := Lib.hid hs
              rw [hs] at d0 d1
              clear hs
              obtain ⟨sx, sy⟩ := s
              simp only [← Nat.add_assoc] at d0 d1
              have hno : Hid (siteB d.marks.length L (sx, sy) = false → formD d = false) := fun h => formD_site (sitesB_no _ _ _ j hlt (by rw [HX.out, HL.out]; exact h))
              have hbel2 : Below (w.heap.size + 1) (w.alloc (.cells #[.slice sa d.stops.length sc, .slice ma d.marks.length mc, .slice (some ⟨b, off, none⟩) d.sites.length tc] 64)) ((wr.alloc (.cells #[.int .i64 sx, .int .i64 sy] 68)).alloc (.cells #[.int .i64 sx] 3)) := (HB.out.alloc (by omega) _).alloc (by simp; omega) _
              have HB2 := Lib.hid hbel2
              clear hbel2
              obtain ⟨B1, hB1⟩ : ∃ B, okN sx = B := ⟨_, rfl⟩
              have HB1 := Lib.hid hB1
              clear hB1
              go_wp2_with fail
              refine (ok_any _ [sx] _ (Rd.mk rfl (Nat.le_refl 1) (by decide) (fun i hi => ?_))).mono ?_
              · obtain rfl : i = 0 := by simp at hi; omega
                simp [go_sem]
              rintro e w1 ⟨rfl, rfl⟩
              have e1 : [sx].all okN = B1 := by simp [HB1.out]
              rw [e1]
              clear e1
              cases B1 with
              | false =>
                go_wp2_with fail
                go_ret
                exact ⟨ret_bool (hno.out (by simp [siteB, HB1.out])).symm, (HBEL.out _ HB2.out).1⟩
              | true =>
                by_cases q1 : L < sx
                · by_cases q2 : 0 ≤ sy
                  · by_cases q3 : sy < d.marks.length
                    · have g1 : decide (sx ≤ L) = false := decide_eq_false (by omega)
                      have g2 : decide (sy < 0) = false := decide_eq_false (by omega)
                      have g3 : decide ((d.marks.length : Int) ≤ sy) = false := decide_eq_false (by omega)
                      have hgood : Hid (siteB d.marks.length L (sx, sy) = true) := by show _ = _; simp [siteB, HB1.out, q1, q2, q3]
                      go_wp2_with fail
                      exact ⟨⟨j + 1, by omega, by go_num, by rw [List.take_succ_eq_append_getElem hlt, lastOf_snoc, HX.out], by rw [List.take_succ_eq_append_getElem hlt, sitesB_snoc, HA.out, HL.out, HX.out, hgood.out]; rfl, HB2.out⟩, by simp [intOf]; omega⟩
                    · have g1 : decide (sx ≤ L) = false := decide_eq_false (by omega)
                      have g2 : decide (sy < 0) = false := decide_eq_false (by omega)
                      have g3 : decide ((d.marks.length : Int) ≤ sy) = true := decide_eq_true (by omega)
                      have hbad := Lib.hid (hno.out (by simp [siteB, q3]))
                      go_wp2_with fail
                      go_ret
                      exact ⟨ret_bool hbad.out.symm, (HBEL.out _ HB2.out).1⟩
                  · have g1 : decide (sx ≤ L) = false := decide_eq_false (by omega)
                    have g2 : decide (sy < 0) = true := decide_eq_true (by omega)
                    have hbad := Lib.hid (hno.out (by simp [siteB, q2]))
                    go_wp2_with fail
                    go_ret
                    exact ⟨ret_bool hbad.out.symm, (HBEL.out _ HB2.out).1⟩
                · have g1 : decide (sx ≤ L) = true := decide_eq_true (by omega)
                  have hbad := Lib.hid (hno.out (by simp [siteB, q1]))
                  go_wp2_with fail
                  go_ret
                  exact ⟨ret_bool hbad.out.symm, (HBEL.out _ HB2.out).1⟩
            · obtain rfl : j = d.sites.length := by omega
              clear hVr
              have HF : Hid (formD d = [(d.stops.length : Int), d.marks.length, d.sites.length].all okN) := formD_all HA1.out HA2.out (by have := HA.out; rwa [List.take_length] at this)
              have HB3 : Hid (Below w.heap.size w (wr.alloc (.cells #[.int .i64 d.stops.length, .int .i64 d.marks.length, .int .i64 d.sites.length] 3))) := HB0.out.alloc HB0.out.size _
              go_wp2_with fail
              refine (ok_any _ [(d.stops.length : Int), d.marks.length, d.sites.length] _ (Rd.mk rfl (Nat.le_refl 3) (by decide) (fun i hi => ?_))).mono ?_
              · rcases (by simp at hi; omega : i = 0 ∨ i = 1 ∨ i = 2) with rfl | rfl | rfl <;> simp [go_sem]
              rintro e w1 ⟨rfl, rfl⟩
              rw [← HF.out]
              go_wp2_with fail
              go_ret
              exact ⟨rfl, HB3.out⟩
end Go.Proofs.YtnanlkoldloolaaDoor
