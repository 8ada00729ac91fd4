/- The document's form of debug information. -/
import Derived.Test.YtnanlkoldloolaaDoorQ7
namespace Go.Proofs.YtnanlkoldloolaaDoor
open Go.RowKit

set_option maxHeartbeats 1000000 in
theorem in_any (n : Int) (w : World) : Calls Tryd.prog 45 #[.int .i64 n] w fun e w' => e = .returned (.bool (okN n)) ∧ w' = w := by
  by_cases h : 0 ≤ n
  · have h1 : decide (0 ≤ n) = true := decide_eq_true h
    go_enter Tryd.func45, Tryd.ntmps45
    go_wp2_with fail
    go_ret
    exact ⟨ret_bool (by go_light; simp [okN, h]), rfl⟩
  · have h1 : decide (0 ≤ n) = false := decide_eq_false h
    go_enter Tryd.func45, Tryd.ntmps45
    go_wp2_with fail
    go_ret
    exact ⟨ret_bool (by go_light; simp [okN]; try omega), rfl⟩
theorem in_is (n : Int) {B : Bool} (h : okN n = B) (w : World) : Calls Tryd.prog 45 #[.int .i64 n] w fun e w' => e = .returned (.bool B) ∧ w' = w := by subst h; exact in_any n w

theorem infoLc : (Tryd.prog.info? 91).map (fun i => (i.zero, i.size, i.bytes)) = some (some (.agg #[.int .i64 0, .int .i64 0, .int .u8 0, .int .i64 0, .int .i64 0, .int .i64 0]), 6, 48) := by kernel_rfl
theorem infoLc_parts {i : Option TypeInfo} {z : Value} {s b : Nat} (h : i.map (fun i => (i.zero, i.size, i.bytes)) = some (some z, s, b)) : ∃ x, i = some x ∧ x.zero = some z ∧ x.size = s ∧ x.bytes = b := by
  cases i with
  | none => simp at h
  | some x => simp at h; exact ⟨x, rfl, h.1, h.2.1, h.2.2⟩

theorem locB_bad {n dd vv kd ar xa xb : Int} {B1 B2 B3 : Bool} (h1 : okN dd = B1) (h2 : okN vv = B2) (h3 : okN ar = B3) (h : (!B1 || !B2 || !B3 || decide (n ≤ dd) || decide (kd < 1) || decide (3 < kd)) = true) : locB n ⟨dd, vv, kd, ar, xa, xb⟩ = false := by
  subst h1 h2 h3
  have e : locB n ⟨dd, vv, kd, ar, xa, xb⟩ = (okN dd && okN vv && okN ar && decide (dd < n) && kindB ⟨dd, vv, kd, ar, xa, xb⟩) := by simp [locB, Bool.and_assoc]
  rw [e]
  simp only [Bool.or_eq_true, Bool.not_eq_true', decide_eq_true_eq] at h
  rcases h with ((((h | h) | h) | h) | h) | h
  · simp [h]
  · simp [h]
  · simp [h]
  · simp [show ¬ dd < n by omega]
  · have : kindB ⟨dd, vv, kd, ar, xa, xb⟩ = false := by simp only [kindB]; rw [if_neg (by omega), if_neg (by omega), if_neg (by omega)]
    simp [this]
  · have : kindB ⟨dd, vv, kd, ar, xa, xb⟩ = false := by simp only [kindB]; rw [if_neg (by omega), if_neg (by omega), if_neg (by omega)]
    simp [this]
theorem locB_good {n dd kd : Int} {B1 B2 B3 : Bool} (h : (!B1 || !B2 || !B3 || decide (n ≤ dd) || decide (kd < 1) || decide (3 < kd)) = false) : B1 = true ∧ B2 = true ∧ B3 = true ∧ dd < n ∧ 1 ≤ kd ∧ kd ≤ 3 := by
  simp only [Bool.or_eq_false_iff, Bool.not_eq_false', decide_eq_false_iff_not] at h
  obtain ⟨⟨⟨⟨⟨h1, h2⟩, h3⟩, h4⟩, h5⟩, h6⟩ := h
  exact ⟨h1, h2, h3, by omega, by omega, by omega⟩

/-- A block's cells, in a later world. -/
theorem later_cell {w w' : World} (hb : Below w.heap.size w w') {b i : Nat} {v : Value} (h : w.cell? ⟨b, i, none⟩ = some v) : w'.cell? ⟨b, i, none⟩ = some v := by
  rw [hb.cell (p := ⟨b, i, none⟩) (World.block_lt_of_cell? w _ h)]; exact h

set_option maxRecDepth 100000 in
set_option maxHeartbeats 16000000 in
theorem formR_any (vs vm vt : Value) (d : DebD) (w : World) (hd : RdD w vs vm vt d) (hlens : [(d.stops.length : Int), d.marks.length, d.sites.length].all okN = true) :
   Calls Tryd.prog 32 #[.agg #[vs, vm, vt]] w fun e w' => e = .returned (.bool (formD d)) ∧ Below w.heap.size w w' := by
  have hsl := hd.stops.le
  have hml := hd.marks.le
  have htl := hd.sites.le
  obtain ⟨sa, sc, rfl⟩ := hd.stops.shape
  obtain ⟨ma, mc, rfl⟩ := hd.marks.shape
  obtain ⟨ta, tc, rfl⟩ := hd.sites.shape
  have HD := Lib.hid hd
  have HLN := Lib.hid hlens
  have mixed : Tryd.prog.follows Departure.mixedOrders = true := by kernel_rfl
  clear hd hlens
  obtain ⟨W0, hW0⟩ : ∃ W0, W0 = w.alloc (.cells #[.slice sa d.stops.length sc, .slice ma d.marks.length mc, .slice ta d.sites.length tc] 64) := ⟨_, rfl⟩
  have HB0 : Hid (Below w.heap.size w W0) := by rw [hW0]; exact (Below.refl _ _).alloc (Nat.le_refl _) _
  have y0 : W0.cell? ⟨w.heap.size, 0, none⟩ = some (.slice sa d.stops.length sc) := by rw [hW0]; simp [go_sem]
  have y1 : W0.cell? ⟨w.heap.size, 1, none⟩ = some (.slice ma d.marks.length mc) := by rw [hW0]; simp [go_sem]
  have y2 : W0.cell? ⟨w.heap.size, 2, none⟩ = some (.slice ta d.sites.length tc) := by rw [hW0]; simp [go_sem]
  have HY : Hid (_ ∧ _ ∧ _) := And.intro y0 (And.intro y1 y2)
  have HW0 := Lib.hid hW0
  clear y1 y2 hW0
  go_enter Tryd.func32, Tryd.ntmps32
  go_upto_region 1 with fail
  rw [← HW0.out]
  go_wp2_with fail
  go_loopw [18] (fun i wr => ∃ j : Nat, j ≤ d.stops.length ∧ i = .int .i64 j ∧ (∀ i (h : i < d.stops.length), i < j → stopB d.stops[i] = true) ∧ Below W0.heap.size W0 wr) (fun i _ => d.stops.length - (intOf i).toNat)
  case atStart => exact ⟨0, by omega, rfl, fun i _ h => absurd h (by omega), Below.refl _ _⟩
  case round =>
    obtain ⟨j, hj, rfl, hall, hb⟩ := hrel
    have HA := Lib.hid hall
    have HB := Lib.hid hb
    have x0 := later_cell hb HY.out.1
    have x1 := later_cell hb HY.out.2.1
    have x2 := later_cell hb HY.out.2.2
    have hVr := HD.out.stops.later (HB0.out.trans (hb.mono HB0.out.size))
    have HBW : Hid (Below w.heap.size w wr) := HB0.out.trans (hb.mono HB0.out.size)
    clear hall hb y0
    by_cases hlt : j < d.stops.length
    · --<
      obtain ⟨cells, hrd, hc⟩ := hVr
      obtain ⟨b, off, c0, hva, hlc, hc9, hbl⟩ := Rd.block hrd (by omega) (by omega)
      simp only [Value.slice.injEq, true_and] at hva
      obtain ⟨rfl, rfl⟩ := hva
      obtain ⟨sv, e0, hsp⟩ := hc j hlt
      have d0 := rd_at hrd e0
      obtain ⟨ba, bc, rfl⟩ := hsp.shape
      have hbl9 := hsp.le
      have HSP := Lib.hid hsp
      clear hrd hc e0 hsp
      obtain ⟨s, hs⟩ : ∃ s, d.stops[j] = s := ⟨_, rfl⟩
      have HX := Lib.hid hs
      rw [hs] at d0 HSP hbl9
      clear hs
      by_cases hs0 : s.length = 0
      · have hz : ((s.length : Int) == 0) = true := by simp [hs0]
        go_wp2_with fail
        go_ret
        exact ⟨ret_bool (formD_stop hlt (by rw [HX.out]; simp [stopB, hs0])).symm, HBW.out⟩
      · have hz : ((s.length : Int) == 0) = false := by simpa using hs0
        have hs0' : Hid (s.length ≠ 0) := hs0
        have hbad : Hid (∀ i (h : i < s.length), spotB s[i] = false → formD d = false) := fun i h hf => formD_stop hlt (by
          rw [HX.out]
          have : s.all spotB = false := by rw [List.all_eq_false]; exact ⟨_, List.getElem_mem h, by simp [hf]⟩
          simp [stopB, this])
        clear hs0
        go_wp2_with fail
        obtain ⟨w1, hw1⟩ : ∃ w1, w1 = wr := ⟨_, rfl⟩
        subst hw1
        go_loopw [27] (fun i w2 => ∃ k : Nat, k ≤ s.length ∧ i = .int .i64 k ∧ (∀ i (h : i < s.length), i < k → spotB s[i] = true) ∧ Below w1.heap.size w1 w2) (fun i _ => s.length - (intOf i).toNat)
        case atStart => exact ⟨0, by omega, rfl, fun i _ h => absurd h (by omega), Below.refl _ _⟩
        case round =>
          clear x0 x1 x2 d0
          obtain ⟨k, hk, rfl, hall2, hb2⟩ := hrel
          have HA2 := Lib.hid hall2
          have HB2 := Lib.hid hb2
          have hSr := HSP.out.later hb2
          clear hall2 hb2
          by_cases hlt2 : k < s.length
          · obtain ⟨cells, hrd, hc⟩ := hSr
            obtain ⟨b, off, c0, hva, hlc2, hc92, hbl2⟩ := Rd.block hrd (by omega) (by omega)
            simp only [Value.slice.injEq, true_and] at hva
            obtain ⟨rfl, rfl⟩ := hva
            obtain ⟨e0, e1⟩ := hc k hlt2
            have d0 := rd_at hrd e0
            have d1 := rd_at hrd e1
            clear hrd hc e0 e1
            obtain ⟨p, hp⟩ : ∃ p, s[k] = p := ⟨_, rfl⟩
            have HP := Lib.hid hp
            rw [hp] at d0 d1
            clear hp
            obtain ⟨px, py⟩ := p
            simp only [← Nat.add_assoc] at d0 d1
            obtain ⟨B1, hB1⟩ : ∃ B, okN px = B := ⟨_, rfl⟩
            obtain ⟨B2, hB2⟩ : ∃ B, okN py = B := ⟨_, rfl⟩
            have I1 := Lib.hid (fun W => in_is px hB1 W)
            have I2 := Lib.hid (fun W => in_is py hB2 W)
            have HB12 := Lib.hid (And.intro hB1 hB2)
            clear hB1 hB2
            have hb3 : Hid (∀ (wx : World) o, Below w1.heap.size w1 wx → Below w1.heap.size w1 (wx.alloc o)) := fun wx o h => h.alloc h.size o
            have hno : Hid (spotB (px, py) = false → formD d = false) := fun h => hbad.out k hlt2 (by rw [HP.out]; exact h)
            cases B1 with
            | false =>
              go_wp2_with fail
              refine (I1.out _).mono ?_
              rintro e w5 ⟨rfl, rfl⟩
              go_wp2_with fail
              go_ret
              exact ⟨ret_bool (hno.out (by simp [spotB, HB12.out.1])).symm, HBW.out.trans ((hb3.out _ _ HB2.out).mono HBW.out.size)⟩
            | true =>
              cases B2 with
              | false =>
                go_wp2_with fail
                refine (I1.out _).mono ?_
                rintro e w5 ⟨rfl, rfl⟩
                go_wp2_with fail
                refine (I2.out _).mono ?_
                rintro e w6 ⟨rfl, rfl⟩
                go_wp2_with fail
                go_ret
                exact ⟨ret_bool (hno.out (by simp [spotB, HB12.out.2])).symm, HBW.out.trans ((hb3.out _ _ HB2.out).mono HBW.out.size)⟩
              | true =>
                go_wp2_with fail
                refine (I1.out _).mono ?_
                rintro e w5 ⟨rfl, rfl⟩
                go_wp2_with fail
                refine (I2.out _).mono ?_
                rintro e w6 ⟨rfl, rfl⟩
                go_wp2_with fail
                refine ⟨⟨k + 1, by omega, by go_num, fun i hi hij => ?_, hb3.out _ _ HB2.out⟩, by simp [intOf]; omega⟩
                by_cases e : i = k
                · subst e; rw [HP.out]; simp [spotB, HB12.out.1, HB12.out.2]
                · exact HA2.out i hi (by omega)
          · obtain rfl : k = s.length := by omega
            clear hSr
            go_wp2_with fail
            refine ⟨⟨j + 1, by omega, by go_num, fun i hi hij => ?_, HB.out.trans (HB2.out.mono HB.out.size)⟩, by simp [intOf]; omega⟩
            by_cases e : i = j
            · subst e
              rw [HX.out]
              have : s.all spotB = true := by
                rw [List.all_eq_true]; intro x hx; obtain ⟨i, hi, rfl⟩ := List.getElem_of_mem hx; exact HA2.out i hi hi
              simp [stopB, this, hs0'.out]
            · exact HA.out i hi (by omega)
    -->
    · obtain rfl : j = d.stops.length := by omega
      clear hVr
      have HA1 : Hid (∀ i (h : i < d.stops.length), stopB d.stops[i] = true) := fun i h => HA.out i h h
      clear HA
      go_wp2_with fail
      go_loopw [46] (fun i w3 => ∃ j : Nat, j ≤ d.marks.length ∧ i = .int .i64 j ∧ (∀ i (h : i < d.marks.length), i < j → markB d.stops d.marks[i] = true) ∧ Below W0.heap.size W0 w3) (fun i _ => d.marks.length - (intOf i).toNat)
      case atStart => exact ⟨0, by omega, rfl, fun i _ h => absurd h (by omega), HB.out⟩
      case round =>
        clear x0 x1 x2 HB HBW
        obtain ⟨j, hj, rfl, hall, hb⟩ := hrel
        have HA := Lib.hid hall
        have HB := Lib.hid hb
        have x0 := later_cell hb HY.out.1
        have x1 := later_cell hb HY.out.2.1
        have x2 := later_cell hb HY.out.2.2
        have hwx : w.heap.size < wr.heap.size := World.block_lt_of_cell? _ _ x0
        have hVr := HD.out.marks.later (HB0.out.trans (hb.mono HB0.out.size))
        have hSr := HD.out.stops.later (HB0.out.trans (hb.mono HB0.out.size))
        have HBW := Lib.hid (HB0.out.trans (hb.mono HB0.out.size))
        clear hall hb
        by_cases hlt : j < d.marks.length
        · obtain ⟨cells, hrd, hc⟩ := hVr
          obtain ⟨b, off, c0, hva, hlc, hc9, hbl⟩ := Rd.block hrd (by omega) (by omega)
          simp only [Value.slice.injEq, true_and] at hva
          obtain ⟨rfl, rfl⟩ := hva
          obtain ⟨e0, mv, e1, hlv⟩ := hc j hlt
          have d0 := rd_at hrd e0
          have d1 := rd_at hrd e1
          obtain ⟨la, lc, rfl⟩ := hlv.shape
          have hll9 := hlv.le
          have HLV := Lib.hid hlv
          clear hrd hc e0 e1 hlv
          obtain ⟨mk, hm⟩ : ∃ mk, d.marks[j] = mk := ⟨_, rfl⟩
          have HX := Lib.hid hm
          rw [hm] at d0 d1 HLV hll9
          clear hm
          obtain ⟨stp, ls⟩ := mk
          simp only [← Nat.add_assoc] at d0 d1 HLV hll9
          have hno : Hid (markB d.stops ⟨stp, ls⟩ = false → formD d = false) := fun h => formD_mark hlt (by rw [HX.out]; exact h)
          by_cases hs0 : stp < 0
          · --<
            have hg : decide (stp < 0) = true := decide_eq_true hs0
            have hbad := Lib.hid (hno.out (by simp [markB, show ¬ 0 ≤ stp by omega]))
            clear hSr
            go_wp2_with fail
            go_ret
            exact ⟨ret_bool hbad.out.symm, HBW.out.alloc HBW.out.size _⟩
          -->
          · have hg : decide (stp < 0) = false := decide_eq_false hs0
            by_cases hs1 : stp < d.stops.length
            · have hg1 : decide ((d.stops.length : Int) ≤ stp) = false := decide_eq_false (by omega)
              obtain ⟨kk, rfl⟩ : ∃ k : Nat, stp = k := ⟨stp.toNat, by omega⟩
              have hkk : kk < d.stops.length := by omega
              obtain ⟨scells, hsrd, hsc⟩ := hSr
              obtain ⟨sb, soff, sc0, hsva, hslc, hsc9, hsbl⟩ := Rd.block hsrd (by omega) (by omega)
              simp only [Value.slice.injEq, true_and] at hsva
              obtain ⟨rfl, rfl⟩ := hsva
              obtain ⟨sv, f0, hsp⟩ := hsc kk hkk
              have g0 := rd_at hsrd f0
              obtain ⟨ka, kc, rfl⟩ := hsp.shape
              have hk9 := hsp.le
              clear hsrd hsc f0 hsp
              obtain ⟨n, hn⟩ : ∃ n, d.stops[kk].length = n := ⟨_, rfl⟩
              have hmb : Hid (markB d.stops ⟨kk, ls⟩ = locsB ls n) := by
                show _ = _
                unfold markB
                simp [hkk, hn]
              rw [hn] at g0 hk9
              clear hn
              obtain ⟨w3, hw3⟩ : ∃ w3, w3 = wr := ⟨_, rfl⟩
              subst hw3
              obtain ⟨W4, hW4⟩ : ∃ W4, W4 = w3.alloc (.cells #[.int .i64 (kk : Int), .slice la ls.length lc] 89) := ⟨_, rfl⟩
              have hb4 : Below w3.heap.size w3 W4 := by rw [hW4]; exact (Below.refl _ _).alloc (Nat.le_refl _) _
              have m0 : W4.cell? ⟨w3.heap.size, 0, none⟩ = some (.int .i64 (kk : Int)) := by rw [hW4]; simp [go_sem]
              have m1 : W4.cell? ⟨w3.heap.size, 1, none⟩ = some (.slice la ls.length lc) := by rw [hW4]; simp [go_sem]
              have HM : Hid (_ ∧ _ ∧ _ ∧ _ ∧ _) := And.intro m0 (And.intro m1 (And.intro (later_cell hb4 x0) (And.intro (later_cell hb4 g0) (HLV.out.later hb4))))
              have HB4 := Lib.hid hb4
              have HW4 := Lib.hid hW4
              clear m0 m1 hb4 hW4
              go_wp2_with fail
              rw [← HW4.out]
              go_loopw [64] (fun i w5 => ∃ q : Nat, q ≤ ls.length ∧ i = .int .i64 q ∧ ((∀ i (h : i < ls.length), i < q → locB n ls[i] = true) ∧ (∀ i (h : i < ls.length), i < q → ∀ j (h2 : j < i), plc (ls[j]'(by omega)) ≠ plc ls[i])) ∧ Below W4.heap.size W4 w5) (fun i _ => ls.length - (intOf i).toNat)
              case atStart => exact ⟨0, by omega, rfl, ⟨fun i _ h => absurd h (by omega), fun i _ h => absurd h (by omega)⟩, Below.refl _ _⟩
              case round =>
                clear x0 x1 x2 hwx g0 d0 d1
                obtain ⟨q, hq, rfl, hall2, hb5⟩ := hrel
                have HA2 := Lib.hid hall2
                have HB5 := Lib.hid hb5
                have m0 := later_cell hb5 HM.out.1
                have m1 := later_cell hb5 HM.out.2.1
                have x0 := later_cell hb5 HM.out.2.2.1
                have g0 := later_cell hb5 HM.out.2.2.2.1
                have hLr := HM.out.2.2.2.2.later hb5
                have HBX : Hid (Below w.heap.size w wr) := HBW.out.trans ((HB4.out.trans (hb5.mono HB4.out.size)).mono HBW.out.size)
                clear hall2 hb5
                by_cases hlt2 : q < ls.length
                · obtain ⟨cells, hrd, hc⟩ := hLr
                  obtain ⟨lb, loff, c0, hva, hlc2, hc92, hbl2⟩ := Rd.block hrd (by omega) (by omega)
                  simp only [Value.slice.injEq, true_and] at hva
                  obtain ⟨rfl, rfl⟩ := hva
                  obtain ⟨e0, e1, e2, e3, e4, e5⟩ := hc q hlt2
                  have d0 := rd_at hrd e0
                  have d1 := rd_at hrd e1
                  have d2 := rd_at hrd e2
                  have d3 := rd_at hrd e3
                  have d4 := rd_at hrd e4
                  have d5 := rd_at hrd e5
                  have HRD : Hid (RdL wr (.slice (some ⟨lb, loff, none⟩) ls.length lc) ls) := ⟨cells, hrd, hc⟩
                  clear hrd hc e0 e1 e2 e3 e4 e5
                  obtain ⟨x, hx⟩ : ∃ x, ls[q] = x := ⟨_, rfl⟩
                  have HX2 := Lib.hid hx
                  rw [hx] at d0 d1 d2 d3 d4 d5
                  clear hx
                  obtain ⟨dd, vv, kd, ar, xa, xb⟩ := x
                  simp only at d0 d1 d2 d3 d4 d5
                  simp only [← Nat.add_assoc] at d0 d1 d2 d3 d4 d5
                  obtain ⟨w5, hw5⟩ : ∃ w5, w5 = wr := ⟨_, rfl⟩
                  subst hw5
                  obtain ⟨W5, hW5⟩ : ∃ W5, W5 = w5.alloc (.cells #[.int .i64 dd, .int .i64 vv, .int .u8 kd, .int .i64 ar, .int .i64 xa, .int .i64 xb] 91) := ⟨_, rfl⟩
                  have hb6 : Below w5.heap.size w5 W5 := by rw [hW5]; exact (Below.refl _ _).alloc (Nat.le_refl _) _
                  have l0 : W5.cell? ⟨w5.heap.size, 0, none⟩ = some (.int .i64 dd) := by rw [hW5]; simp [go_sem]
                  have l1 : W5.cell? ⟨w5.heap.size, 1, none⟩ = some (.int .i64 vv) := by rw [hW5]; simp [go_sem]
                  have l2 : W5.cell? ⟨w5.heap.size, 2, none⟩ = some (.int .u8 kd) := by rw [hW5]; simp [go_sem]
                  have l3 : W5.cell? ⟨w5.heap.size, 3, none⟩ = some (.int .i64 ar) := by rw [hW5]; simp [go_sem]
                  have l4 : W5.cell? ⟨w5.heap.size, 4, none⟩ = some (.int .i64 xa) := by rw [hW5]; simp [go_sem]
                  have n0 := later_cell hb6 m0
                  have n1 := later_cell hb6 m1
                  have n2 := later_cell hb6 x0
                  have n3 := later_cell hb6 g0
                  have HB6 := Lib.hid hb6
                  have HW5 := Lib.hid hW5
                  have HBY : Hid (∀ n, Below w.heap.size w (W5.drewN n)) := fun n => below_drewN (HBX.out.trans (hb6.mono HBX.out.size)) n
                  clear hb6 hW5
                  have hno2 : Hid (locB n ⟨dd, vv, kd, ar, xa, xb⟩ = false → formD d = false) := fun h => hno.out (by rw [hmb.out]; exact locsB_no hlt2 (by rw [HX2.out]; exact h))
                  obtain ⟨B1, hB1⟩ : ∃ B, okN dd = B := ⟨_, rfl⟩
                  obtain ⟨B2, hB2⟩ : ∃ B, okN vv = B := ⟨_, rfl⟩
                  obtain ⟨B3, hB3⟩ : ∃ B, okN ar = B := ⟨_, rfl⟩
                  have I1 := Lib.hid (fun W => in_is dd hB1 W)
                  have I2 := Lib.hid (fun W => in_is vv hB2 W)
                  have I3 := Lib.hid (fun W => in_is ar hB3 W)
                  have HB123 := Lib.hid (And.intro hB1 (And.intro hB2 hB3))
                  clear hB1 hB2 hB3
                  go_upto_region 21 with fail
                  rw [← HW5.out]
                  clear d0 d1 d2 d3 d4 d5 m0 m1 x0 g0
                  go_cut [106] (fun s106 wx => s106 = .bool (!B1 || !B2 || !B3 || decide ((n : Int) ≤ dd) || decide (kd < 1) || decide (3 < kd)) ∧ ∃ nq, wx = W5.drewN nq)
                  case first =>
                    --<
                    rename_i a7 _ _ _ _ _ _ a6 _ _ a5 _ _ _ a4 _ a3 _ a2 _ _ a1 _
                    try clear a2
                    try clear a3
                    try clear a4
                    try clear a5
                    try clear a6
                    clear HD HLN HB0 HY HW0 HA1 HA HB HBW HX HLV hno hmb HM HB4 HW4 HA2 HB5 HBX HRD HX2 HB6 HW5 HBY hno2 HB123
                    cases B1 with
                    | false => go_quiet (first | (go_at_call 45; with_reducible exact Calls.quiet_of_same (I1.out _)) | (go_at_call 45; with_reducible exact Calls.quiet_of_same (I2.out _)) | (go_at_call 45; with_reducible exact Calls.quiet_of_same (I3.out _))); go_wp2_with fail; go_meet; exact ⟨rfl, _, rfl⟩
                    | true =>
                      cases B2 with
                      | false => go_quiet (first | (go_at_call 45; with_reducible exact Calls.quiet_of_same (I1.out _)) | (go_at_call 45; with_reducible exact Calls.quiet_of_same (I2.out _)) | (go_at_call 45; with_reducible exact Calls.quiet_of_same (I3.out _))); go_wp2_with fail; go_meet; exact ⟨rfl, _, rfl⟩
                      | true =>
                        cases B3 with
                        | false => go_quiet (first | (go_at_call 45; with_reducible exact Calls.quiet_of_same (I1.out _)) | (go_at_call 45; with_reducible exact Calls.quiet_of_same (I2.out _)) | (go_at_call 45; with_reducible exact Calls.quiet_of_same (I3.out _))); go_wp2_with fail; go_meet; exact ⟨rfl, _, rfl⟩
                        | true =>
                          cases q1 : decide ((n : Int) ≤ dd) with
                          | true => go_quiet (first | (go_at_call 45; with_reducible exact Calls.quiet_of_same (I1.out _)) | (go_at_call 45; with_reducible exact Calls.quiet_of_same (I2.out _)) | (go_at_call 45; with_reducible exact Calls.quiet_of_same (I3.out _))); go_wp2_with fail; go_meet; exact ⟨by rw [q1]; rfl, _, rfl⟩
                          | false =>
                            cases q2 : decide (kd < 1) with
                            | true => go_quiet (first | (go_at_call 45; with_reducible exact Calls.quiet_of_same (I1.out _)) | (go_at_call 45; with_reducible exact Calls.quiet_of_same (I2.out _)) | (go_at_call 45; with_reducible exact Calls.quiet_of_same (I3.out _))); go_wp2_with fail; go_meet; exact ⟨by rw [q1, q2]; rfl, _, rfl⟩
                            | false => go_quiet (first | (go_at_call 45; with_reducible exact Calls.quiet_of_same (I1.out _)) | (go_at_call 45; with_reducible exact Calls.quiet_of_same (I2.out _)) | (go_at_call 45; with_reducible exact Calls.quiet_of_same (I3.out _))); go_wp2_with fail; go_meet; exact ⟨by rw [q1, q2]; rfl, _, rfl⟩
                  -->
                  case rest =>
                    obtain ⟨rfl, nq, rfl⟩ := hcut
                    obtain ⟨BAD, hBAD⟩ : ∃ B, (!B1 || !B2 || !B3 || decide ((n : Int) ≤ dd) || decide (kd < 1) || decide (3 < kd)) = B := ⟨_, rfl⟩
                    have HBAD := Lib.hid hBAD
                    rw [hBAD]
                    clear hBAD
                    obtain ⟨W6, hW6⟩ : ∃ W6, W6 = W5.drewN nq := ⟨_, rfl⟩
                    have HBZ : Hid (Below w.heap.size w W6) := by rw [hW6]; exact HBY.out nq
                    have HB7 : Hid (Below w5.heap.size w5 W6) := by rw [hW6]; exact below_drewN HB6.out nq
                    have l0' : W6.cell? ⟨w5.heap.size, 0, none⟩ = some (.int .i64 dd) := by rw [hW6]; exact l0
                    have l1' : W6.cell? ⟨w5.heap.size, 1, none⟩ = some (.int .i64 vv) := by rw [hW6]; exact l1
                    have l2' : W6.cell? ⟨w5.heap.size, 2, none⟩ = some (.int .u8 kd) := by rw [hW6]; exact l2
                    have l3' : W6.cell? ⟨w5.heap.size, 3, none⟩ = some (.int .i64 ar) := by rw [hW6]; exact l3
                    have l4' : W6.cell? ⟨w5.heap.size, 4, none⟩ = some (.int .i64 xa) := by rw [hW6]; exact l4
                    have n1' : W6.cell? ⟨w3.heap.size, 1, none⟩ = some (.slice (some ⟨lb, loff, none⟩) ls.length lc) := by rw [hW6]; exact n1
                    rw [← hW6]
                    clear l0 l1 l2 l3 l4 n0 n1 n2 n3 HBY HB6 HW5 hW6 I1 I2 I3
                    cases BAD with
                    | true =>
                      go_wp2_with fail
                      go_ret
                      refine ⟨ret_bool (hno2.out ?_).symm, HBZ.out⟩
                      exact locB_bad HB123.out.1 HB123.out.2.1 HB123.out.2.2 HBAD.out
                    | false =>
                      obtain ⟨rfl, rfl, rfl, hdn, hk1, hk3⟩ := locB_good HBAD.out
                      have hlk : Hid (locB n ⟨dd, vv, kd, ar, xa, xb⟩ = kindB ⟨dd, vv, kd, ar, xa, xb⟩) := by
                        show _ = _
                        unfold locB
                        simp [HB123.out.1, HB123.out.2.1, HB123.out.2.2, hdn]
                      obtain ⟨KB, hKB⟩ : ∃ B, kindB ⟨dd, vv, kd, ar, xa, xb⟩ = B := ⟨_, rfl⟩
                      have HKB := Lib.hid hKB
                      clear hKB HBAD
                      go_upto_region 23 with fail
                      go_cut [139] (fun s139 wx => s139 = .bool (!KB) ∧ wx = W6)
                      case first =>
                        clear HD HLN HB0 HY HW0 HA1 HA HB HBW HX HLV hno hmb HM HB4 HW4 HA2 HB5 HBX HRD HX2 HBZ HB7 hlk hno2 HB123
                        have hkb := HKB.out
                        clear HKB
                        unfold kindB at hkb
                        by_cases k1 : kd = 1
                        · subst k1
                          simp only [if_true] at hkb
                          by_cases a0 : ar = 0
                          · subst a0
                            by_cases x0 : xa = 0
                            · subst x0
                              obtain rfl : KB = true := by simpa using hkb.symm
                              clear hkb
                              go_wp2_with fail
                              go_meet
                              exact ⟨rfl, rfl⟩
                            · have hx1 : (xa != 0) = true := by simp [x0]
                              obtain rfl : KB = false := by rw [← hkb, show (xa == 0) = false by simp [x0]]; rfl
                              clear hkb
                              go_wp2_with fail
                              go_meet
                              exact ⟨rfl, rfl⟩
                          · have hx1 : (ar != 0) = true := by simp [a0]
                            obtain rfl : KB = false := by rw [← hkb, show (ar == 0) = false by simp [a0]]; rfl
                            clear hkb
                            go_wp2_with fail
                            go_meet
                            exact ⟨rfl, rfl⟩
                        · by_cases k2 : kd = 2
                          · subst k2
                            by_cases a0 : ar < 16
                            · have hx1 : decide (15 < ar) = false := decide_eq_false (by omega)
                              obtain rfl : KB = true := by simpa [a0] using hkb.symm
                              clear hkb
                              go_wp2_with fail
                              go_meet
                              exact ⟨rfl, rfl⟩
                            · have hx1 : decide (15 < ar) = true := decide_eq_true (by omega)
                              obtain rfl : KB = false := by simpa [a0] using hkb.symm
                              clear hkb
                              go_wp2_with fail
                              go_meet
                              exact ⟨rfl, rfl⟩
                          · obtain rfl : kd = 3 := by omega
                            by_cases a0 : ar < 60000
                            · have hx1 : decide (60000 ≤ ar) = false := decide_eq_false (by omega)
                              obtain rfl : KB = true := by simpa [a0] using hkb.symm
                              clear hkb
                              go_wp2_with fail
                              go_meet
                              exact ⟨rfl, rfl⟩
                            · have hx1 : decide (60000 ≤ ar) = true := decide_eq_true (by omega)
                              obtain rfl : KB = false := by simpa [a0] using hkb.symm
                              clear hkb
                              go_wp2_with fail
                              go_meet
                              exact ⟨rfl, rfl⟩
                      case rest =>
                        obtain ⟨rfl, hw10⟩ := hcut
                        have hw11 := hw10.symm
                        clear hw10
                        subst hw11
                        cases KB with
                        | false =>
                          go_wp2_with fail
                          go_ret
                          exact ⟨ret_bool (hno2.out (by rw [hlk.out, HKB.out])).symm, HBZ.out⟩
                        | true =>
                          have hslice : ∀ W : World, (Instr.slice 87 (.slice (some ⟨lb, loff, none⟩) ls.length lc) none (some (.int .i64 (q : Int))) none).run Tryd.prog W = .ok (.slice (some ⟨lb, loff, none⟩) q lc) W := fun W => by
                            obtain ⟨i0, hi0, hz0, hz1', hz2⟩ := infoLc_parts infoLc
                            exact run_slice_to _ 91 Tryd.underlying87 hi0 hz1' _ _ _ q _ rfl (by omega) W
                          go_wp2_with fail
                          go_loopw [145] (fun i w7 => ∃ r : Nat, r ≤ q ∧ i = .int .i64 r ∧ (∀ j (h : j < q), j < r → plc (ls[j]'(by omega)) ≠ (dd, vv)) ∧ Below W6.heap.size W6 w7) (fun i _ => q - (intOf i).toNat)
                          case atStart => exact ⟨0, by omega, rfl, fun i _ h => absurd h (by omega), Below.refl _ _⟩
                          case round =>
                            obtain ⟨r, hr, rfl, hall3, hb8⟩ := hrel
                            have HA3 := Lib.hid hall3
                            have HB8 := Lib.hid hb8
                            clear hall3 hb8
                            have HBV : Hid (Below w.heap.size w wr) := HBZ.out.trans (HB8.out.mono HBZ.out.size)
                            by_cases hlt3 : r < q
                            · have hw5r : w5.heap.size < wr.heap.size := World.block_lt_of_cell? _ _ (later_cell HB8.out l0')
                              obtain ⟨cells3, hrd3, hc3⟩ := (HRD.out.later HB7.out).later HB8.out
                              obtain ⟨e0, e1, e2, e3, e4, e5⟩ := hc3 r (by omega)
                              have d0 := rd_at hrd3 e0
                              have d1 := rd_at hrd3 e1
                              have d2 := rd_at hrd3 e2
                              have d3 := rd_at hrd3 e3
                              have d4 := rd_at hrd3 e4
                              have d5 := rd_at hrd3 e5
                              clear hrd3 hc3 e0 e1 e2 e3 e4 e5
                              have hrl : r < ls.length := by omega
                              obtain ⟨y, hy⟩ : ∃ y, ls[r] = y := ⟨_, rfl⟩
                              have HX3 := Lib.hid hy
                              rw [hy] at d0 d1 d2 d3 d4 d5
                              clear hy
                              obtain ⟨yd, yv, ykd, yar, ya, yb⟩ := y
                              simp only at d0 d1 d2 d3 d4 d5
                              simp only [← Nat.add_assoc] at d0 d1 d2 d3 d4 d5
                              obtain ⟨w7, hw7⟩ : ∃ w7, w7 = wr := ⟨_, rfl⟩
                              subst hw7
                              obtain ⟨W7, hW7⟩ : ∃ W7, W7 = w7.alloc (.cells #[.int .i64 yd, .int .i64 yv, .int .u8 ykd, .int .i64 yar, .int .i64 ya, .int .i64 yb] 91) := ⟨_, rfl⟩
                              have hb9 : Below w7.heap.size w7 W7 := by rw [hW7]; exact (Below.refl _ _).alloc (Nat.le_refl _) _
                              have p0 : W7.cell? ⟨w7.heap.size, 0, none⟩ = some (.int .i64 yd) := by rw [hW7]; simp [go_sem]
                              have p1 : W7.cell? ⟨w7.heap.size, 1, none⟩ = some (.int .i64 yv) := by rw [hW7]; simp [go_sem]
                              have q0 := later_cell hb9 (later_cell HB8.out l0')
                              have q1 := later_cell hb9 (later_cell HB8.out l1')
                              have HB9 := Lib.hid hb9
                              have HBU : Hid (Below W6.heap.size W6 W7) := HB8.out.trans (hb9.mono HB8.out.size)
                              have HW7 := Lib.hid hW7
                              clear hb9 hW7 l0' l1' l2' l3' l4' n1'
                              by_cases hd3 : yd = dd
                              · subst hd3
                                by_cases hv3 : yv = vv
                                · subst hv3
                                  go_upto_region 28 with fail
                                  rw [← HW7.out]
                                  clear d0 d1 d2 d3 d4 d5
                                  go_wp2_with fail
                                  go_ret
                                  exact ⟨ret_bool (hno.out (by rw [hmb.out]; exact locsB_twice hlt2 hlt3 (by rw [HX2.out, HX3.out]))).symm, HBV.out.trans (HB9.out.mono HBV.out.size)⟩
                                · have hz3 : (yv == vv) = false := by simp [hv3]
                                  have hne : Hid (plc ⟨yd, yv, ykd, yar, ya, yb⟩ ≠ (yd, vv)) := fun h => hv3 (congrArg Prod.snd h)
                                  go_upto_region 28 with fail
                                  rw [← HW7.out]
                                  clear d0 d1 d2 d3 d4 d5
                                  go_wp2_with fail
                                  refine ⟨⟨r + 1, by omega, by go_num, fun i hi hij => ?_, HBU.out⟩, by simp [intOf]; omega⟩
                                  by_cases e : i = r
                                  · subst e; rw [HX3.out]; exact hne.out
                                  · exact HA3.out i hi (by omega)
                              · have hz3 : (yd == dd) = false := by simp [hd3]
                                have hne : Hid (plc ⟨yd, yv, ykd, yar, ya, yb⟩ ≠ (dd, vv)) := fun h => hd3 (congrArg Prod.fst h)
                                go_upto_region 28 with fail
                                rw [← HW7.out]
                                clear d0 d1 d2 d3 d4 d5
                                go_wp2_with fail
                                refine ⟨⟨r + 1, by omega, by go_num, fun i hi hij => ?_, HBU.out⟩, by simp [intOf]; omega⟩
                                by_cases e : i = r
                                · subst e; rw [HX3.out]; exact hne.out
                                · exact HA3.out i hi (by omega)
                            · obtain rfl : r = q := by omega
                              go_wp2_with fail
                              refine ⟨⟨r + 1, by omega, by go_num, ⟨fun i hi hij => ?_, fun i hi hij j hji => ?_⟩, HB5.out.trans ((HB7.out.trans (HB8.out.mono HB7.out.size)).mono HB5.out.size)⟩, by simp [intOf]; omega⟩
                              · by_cases e : i = r
                                · subst e; rw [HX2.out, hlk.out, HKB.out]
                                · exact HA2.out.1 i hi (by omega)
                              · by_cases e : i = r
                                · subst e; rw [HX2.out]; exact HA3.out j hji hji
                                · exact HA2.out.2 i hi (by omega) j hji
                · --<
                  obtain rfl : q = ls.length := by omega
                  clear hLr
                  go_wp2_with fail
                  refine ⟨⟨j + 1, by omega, by go_num, fun i hi hij => ?_, HB.out.trans ((HB4.out.trans (HB5.out.mono HB4.out.size)).mono HB.out.size)⟩, by simp [intOf]; omega⟩
                  by_cases e : i = j
                  · subst e
                    rw [HX.out, hmb.out]
                    exact locsB_yes (fun i hi => HA2.out.1 i hi hi) (fun i hi j hj => HA2.out.2 i hi hi j hj)
                  · exact HA.out i hi (by omega)
                -->
            · --<
              have hg1 : decide ((d.stops.length : Int) ≤ stp) = true := decide_eq_true (by omega)
              have hbad := Lib.hid (hno.out (by unfold markB; simp only [decide_eq_false (show ¬ stp < (d.stops.length : Int) by omega), Bool.and_false, Bool.false_and]))
              clear hSr
              go_wp2_with fail
              go_ret
              exact ⟨ret_bool hbad.out.symm, HBW.out.alloc HBW.out.size _⟩
            -->
        · obtain rfl : j = d.marks.length := by omega
          clear hVr hSr
          have HA2 : Hid (∀ i (h : i < d.marks.length), markB d.stops d.marks[i] = true) := fun i h => HA.out i h h
          clear HA
          go_wp2_with fail
          go_loopw [167] (fun i w9 => ∃ j : Nat, j ≤ d.sites.length ∧ i = .int .i64 j ∧ sitesB d.marks.length (-1) (d.sites.take j) = true ∧ Below W0.heap.size W0 w9) (fun i _ => d.sites.length - (intOf i).toNat)
          case atStart => exact ⟨0, by omega, rfl, rfl, HB.out⟩
          case round =>
            clear x0 x1 x2 HB HBW hwx
            obtain ⟨j, hj, rfl, hall, hb⟩ := hrel
            have HA := Lib.hid hall
            have HB := Lib.hid hb
            have x0 := later_cell hb HY.out.1
            have x1 := later_cell hb HY.out.2.1
            have x2 := later_cell hb HY.out.2.2
            have hwx : w.heap.size < wr.heap.size := World.block_lt_of_cell? _ _ x0
            have hVr := HD.out.sites.later (HB0.out.trans (hb.mono HB0.out.size))
            have HBW := Lib.hid (HB0.out.trans (hb.mono HB0.out.size))
            clear hall hb
            by_cases hlt : j < d.sites.length
            · obtain ⟨cells, hrd, hc⟩ := hVr
              obtain ⟨b, off, c0, hva, hlc, hc9, hbl⟩ := Rd.block hrd (by omega) (by omega)
              simp only [Value.slice.injEq, true_and] at hva
              obtain ⟨rfl, rfl⟩ := hva
              obtain ⟨e0, e1⟩ := hc j hlt
              have d0 := rd_at hrd e0
              have d1 := rd_at hrd e1
              have HR : Hid (RdP wr (.slice (some ⟨b, off, none⟩) d.sites.length tc) d.sites) := ⟨cells, hrd, hc⟩
              clear hrd hc e0 e1
              obtain ⟨s, hs⟩ : ∃ s, d.sites[j] = s := ⟨_, rfl⟩
              have HX := Lib.hid hs
              rw [hs] at d0 d1
              clear hs
              obtain ⟨sx, sy⟩ := s
              simp only [← Nat.add_assoc] at d0 d1
              obtain ⟨w9, hw9⟩ : ∃ w9, w9 = wr := ⟨_, rfl⟩
              subst hw9
              obtain ⟨W9, hW9⟩ : ∃ W9, W9 = w9.alloc (.cells #[.int .i64 sx, .int .i64 sy] 68) := ⟨_, rfl⟩
              have hb9 : Below w9.heap.size w9 W9 := by rw [hW9]; exact (Below.refl _ _).alloc (Nat.le_refl _) _
              have s0 : W9.cell? ⟨w9.heap.size, 0, none⟩ = some (.int .i64 sx) := by rw [hW9]; simp [go_sem]
              have s1 : W9.cell? ⟨w9.heap.size, 1, none⟩ = some (.int .i64 sy) := by rw [hW9]; simp [go_sem]
              have n1 := later_cell hb9 x1
              have n2 := later_cell hb9 x2
              have HR9 := Lib.hid (HR.out.later hb9)
              have HBY : Hid (∀ n, Below w.heap.size w (W9.drewN n)) := fun n => below_drewN (HBW.out.trans (hb9.mono HBW.out.size)) n
              have HBZ : Hid (∀ n, Below W0.heap.size W0 (W9.drewN n)) := fun n => below_drewN (HB.out.trans (hb9.mono HB.out.size)) n
              have HW9 := Lib.hid hW9
              clear hb9 hW9
              obtain ⟨B1, hB1⟩ : ∃ B, okN sx = B := ⟨_, rfl⟩
              have I1 := Lib.hid (fun W => in_is sx hB1 W)
              have HB1 := Lib.hid hB1
              obtain ⟨L, hL⟩ : ∃ L, lastOf (-1) (d.sites.take j) = L := ⟨_, rfl⟩
              have HL := Lib.hid hL
              have hno : Hid (siteB d.marks.length L (sx, sy) = false → formD d = false) := fun h => formD_site (sitesB_no _ _ _ j hlt (by rw [HX.out, HL.out]; exact h))
              have hyes : Hid (siteB d.marks.length L (sx, sy) = true → sitesB d.marks.length (-1) (d.sites.take (j + 1)) = true) := fun h => by rw [List.take_succ_eq_append_getElem hlt, sitesB_snoc, HA.out, HL.out, HX.out, h]; rfl
              go_upto_region 36 with fail
              rw [← HW9.out]
              clear d0 d1 x0 x1 x2 hB1 hL
              cases B1 with
              | false =>
                have hbad := Lib.hid (hno.out (by simp [siteB, HB1.out]))
                go_quiet (first | (go_at_call 45; with_reducible exact Calls.quiet_of_same (I1.out _)))
                go_wp2_with fail
                go_ret
                exact ⟨ret_bool hbad.out.symm, HBY.out _⟩
              | true =>
                have hs0 : 0 ≤ sx := by have := HB1.out; simp [okN] at this; omega
                rcases j with _ | k
                · have hL1 : L = -1 := HL.out.symm
                  have hj0 : decide ((0 : Int) < ((0 : Nat) : Int)) = false := by decide
                  by_cases q2 : 0 ≤ sy
                  · have g2 : decide (sy < 0) = false := decide_eq_false (by omega)
                    by_cases q3 : sy < d.marks.length
                    · have g3 : decide ((d.marks.length : Int) ≤ sy) = false := decide_eq_false (by omega)
                      have hgood := Lib.hid (hyes.out (by simp only [siteB, HB1.out, Bool.true_and, Bool.and_eq_true, decide_eq_true_eq]; exact ⟨⟨by omega, q2⟩, q3⟩))
                      go_quiet (first | (go_at_call 45; with_reducible exact Calls.quiet_of_same (I1.out _)))
                      go_wp2_with fail
                      exact ⟨⟨0 + 1, by omega, by go_num, hgood.out, HBZ.out _⟩, by simp [intOf]; omega⟩
                    · have g3 : decide ((d.marks.length : Int) ≤ sy) = true := decide_eq_true (by omega)
                      have hbad := Lib.hid (hno.out (by simp [siteB, q3]))
                      go_quiet (first | (go_at_call 45; with_reducible exact Calls.quiet_of_same (I1.out _)))
                      go_wp2_with fail
                      go_ret
                      exact ⟨ret_bool hbad.out.symm, HBY.out _⟩
                  · have g2 : decide (sy < 0) = true := decide_eq_true (by omega)
                    have hbad := Lib.hid (hno.out (by simp [siteB, q2]))
                    go_quiet (first | (go_at_call 45; with_reducible exact Calls.quiet_of_same (I1.out _)))
                    go_wp2_with fail
                    go_ret
                    exact ⟨ret_bool hbad.out.symm, HBY.out _⟩
                · have hj0 : decide ((0 : Int) < (k : Int) + 1) = true := decide_eq_true (by omega)
                  have hk1 : (k : Int) + 1 - 1 = k := by omega
                  have p1 : W9.cell? ⟨b, off + k * 2, none⟩ = some (.int .i64 L) := by
                    obtain ⟨cells, hrd, hc⟩ := HR9.out
                    have hkl : k < d.sites.length := by omega
                    have := rd_at hrd (hc k hkl).1
                    have e : L = d.sites[k].1 := by rw [← HL.out, List.take_succ_eq_append_getElem hkl, lastOf_snoc]
                    rw [e]; exact this
                  by_cases q1 : L < sx
                  · have g1 : decide (sx ≤ L) = false := decide_eq_false (by omega)
                    by_cases q2 : 0 ≤ sy
                    · have g2 : decide (sy < 0) = false := decide_eq_false (by omega)
                      by_cases q3 : sy < d.marks.length
                      · have g3 : decide ((d.marks.length : Int) ≤ sy) = false := decide_eq_false (by omega)
                        have hgood := Lib.hid (hyes.out (by simp only [siteB, HB1.out, Bool.true_and, Bool.and_eq_true, decide_eq_true_eq]; exact ⟨⟨by omega, q2⟩, q3⟩))
                        go_quiet (first | (go_at_call 45; with_reducible exact Calls.quiet_of_same (I1.out _)))
                        go_wp2_with fail
                        exact ⟨⟨k + 1 + 1, by omega, by go_num, hgood.out, HBZ.out _⟩, by simp [intOf]; omega⟩
                      · have g3 : decide ((d.marks.length : Int) ≤ sy) = true := decide_eq_true (by omega)
                        have hbad := Lib.hid (hno.out (by simp [siteB, q3]))
                        go_quiet (first | (go_at_call 45; with_reducible exact Calls.quiet_of_same (I1.out _)))
                        go_wp2_with fail
                        go_ret
                        exact ⟨ret_bool hbad.out.symm, HBY.out _⟩
                    · have g2 : decide (sy < 0) = true := decide_eq_true (by omega)
                      have hbad := Lib.hid (hno.out (by simp [siteB, q2]))
                      go_quiet (first | (go_at_call 45; with_reducible exact Calls.quiet_of_same (I1.out _)))
                      go_wp2_with fail
                      go_ret
                      exact ⟨ret_bool hbad.out.symm, HBY.out _⟩
                  · have g1 : decide (sx ≤ L) = true := decide_eq_true (by omega)
                    have hbad := Lib.hid (hno.out (by simp [siteB, q1]))
                    go_quiet (first | (go_at_call 45; with_reducible exact Calls.quiet_of_same (I1.out _)))
                    go_wp2_with fail
                    go_ret
                    exact ⟨ret_bool hbad.out.symm, HBY.out _⟩
            · obtain rfl : j = d.sites.length := by omega
              clear hVr
              have HF : Hid (formD d = true) := (formD_all HA1.out HA2.out (by have := HA.out; rwa [List.take_length] at this)).trans HLN.out
              go_wp2_with fail
              go_ret
              exact ⟨ret_bool HF.out.symm, HBW.out⟩
end Go.Proofs.YtnanlkoldloolaaDoor
