/- The document's bytes of debug information: the walk. -/
import Derived.Test.YtnanlkoldloolaaDoorQ8
import Derived.Lib.SlBytesConst
namespace Go.Proofs.YtnanlkoldloolaaDoor
open Go.RowKit

theorem later_at {w w' : World} {n : Nat} (hb : Below n w w') {b i : Nat} {v : Value} (hn : b < n) (h : w.cell? ⟨b, i, none⟩ = some v) : w'.cell? ⟨b, i, none⟩ = some v := by
  rw [hb.cell (p := ⟨b, i, none⟩) hn]; exact h
/-- A block's cells, in a later world. -/
theorem later_cellH {w w' : World} (hb : Below w.heap.size w w') {b i : Nat} {v : Value} (h : w.cell? ⟨b, i, none⟩ = some v) : w'.cell? ⟨b, i, none⟩ = some v := later_at hb (World.block_lt_of_cell? w _ h) h

set_option maxHeartbeats 4000000 in
theorem signed_ref (n : Int) (w : World) (hn : isI64 n) :
   Calls Tryd.prog 37 #[.int .i64 n] w fun e w' => ∃ v, e = .returned v ∧ ownY w' w.heap.size v (signW n) ∧ Below w.heap.size w w' := by
  unfold isI64 at hn
  have HC := Lib.hid (number_ref (zig n) w (zig_lt hn))
  by_cases h : n < 0
  · obtain ⟨m, rfl⟩ : ∃ m : Nat, n = -1 - (m : Int) := ⟨(-1 - n).toNat, by omega⟩
    have hz : zig (-1 - (m : Int)) = 2 * m + 1 := by unfold zig; rw [if_pos h]; omega
    have h1 : decide (-1 - (m : Int) < 0) = true := decide_eq_true h
    have hs : -1 - (-1 - (m : Int)) = m := by omega
    rw [hz] at HC
    have HZ : Hid (signW (-1 - (m : Int)) = numW (2 * m + 1)) := by show _ = _; unfold signW; rw [hz]
    have hm : (m : Int) ≤ 9223372036854775807 := by omega
    have w1 : IntKind.i64.wrap (-1 - (-1 - (m : Int))) = m := by rw [hs, IntKind.wrap_i64]; omega
    have w2 : IntKind.u64.wrap (m : Int) = m := by rw [IntKind.wrap_u64]; omega
    have w3 : IntKind.u64.wrap (2 * (m : Int)) = 2 * m := by rw [IntKind.wrap_u64]; omega
    have w4 : IntKind.u64.wrap (2 * (m : Int) + 1) = 2 * m + 1 := by rw [IntKind.wrap_u64]; omega
    simp only [Int.natCast_add, Int.natCast_mul, Int.cast_ofNat_Int] at HC
    clear hz hn h
    go_enter Tryd.func37, Tryd.ntmps37
    go_wp2_with fail
    refine HC.out.mono ?_
    rintro e w1 ⟨v, rfl, hown, hb⟩
    have HF := Lib.hid (And.intro hown hb)
    clear hown hb HC
    go_wp2_with fail
    go_ret
    exact ⟨v, rfl, by rw [HZ.out]; exact HF.out.1, HF.out.2⟩
  · obtain ⟨m, rfl⟩ : ∃ m : Nat, n = m := ⟨n.toNat, by omega⟩
    have hz : zig (m : Int) = 2 * m := by unfold zig; rw [if_neg h]; omega
    have h1 : decide ((m : Int) < 0) = false := decide_eq_false h
    rw [hz] at HC
    have HZ : Hid (signW (m : Int) = numW (2 * m)) := by show _ = _; unfold signW; rw [hz]
    have hm : (m : Int) ≤ 9223372036854775807 := by omega
    have w2 : IntKind.u64.wrap (m : Int) = m := by rw [IntKind.wrap_u64]; omega
    have w3 : IntKind.u64.wrap (2 * (m : Int)) = 2 * m := by rw [IntKind.wrap_u64]; omega
    simp only [Int.natCast_mul, Int.cast_ofNat_Int] at HC
    clear hz hn h
    go_enter Tryd.func37, Tryd.ntmps37
    go_wp2_with fail
    refine HC.out.mono ?_
    rintro e w1 ⟨v, rfl, hown, hb⟩
    have HF := Lib.hid (And.intro hown hb)
    clear hown hb HC
    go_wp2_with fail
    go_ret
    exact ⟨v, rfl, by rw [HZ.out]; exact HF.out.1, HF.out.2⟩

set_option maxRecDepth 100000 in
set_option maxHeartbeats 16000000 in
theorem encode_any (vs vm vt : Value) (d : DebD) (w : World) (hd : RdD w vs vm vt d) (hf : formD d = true) (hsg : sgD d) (hlen : (encD d).length ≤ 140737488355300) :
   Calls Tryd.prog 25 #[.agg #[vs, vm, vt]] w fun e w' => (∃ v, e = .returned v ∧ ownY w' w.heap.size v (encD d)) ∧ Below w.heap.size w w' := by
  have hsl := hd.stops.le
  have hml := hd.marks.le
  have htl := hd.sites.le
  obtain ⟨sa, sc, rfl⟩ := hd.stops.shape
  obtain ⟨ma, mc, rfl⟩ := hd.marks.shape
  obtain ⟨ta, tc, rfl⟩ := hd.sites.shape
  have HD := Lib.hid hd
  have HR := Lib.hid (formD_right hf)
  have HSG := Lib.hid hsg
  have hl9 : 4 + (numsW [(d.stops.length : Int)]).length + (d.stops.flatMap stopW).length + (numsW [(d.marks.length : Int)]).length + (d.marks.flatMap markW).length + (numsW [(d.sites.length : Int)]).length + (sitesW 0 d.sites).length ≤ 140737488355300 := by
    have e := encD_len d
    unfold bodyW at e
    simp only [List.length_append] at e
    omega
  have HLE := Lib.hid hl9
  have HEN : Hid (encD d = magicL ++ numsW [(d.stops.length : Int)] ++ d.stops.flatMap stopW ++ numsW [(d.marks.length : Int)] ++ d.marks.flatMap markW ++ numsW [(d.sites.length : Int)] ++ sitesW 0 d.sites) := by
    show _ = _; unfold encD bodyW; simp only [List.append_assoc]
  clear hd hf hsg hlen hl9
  have kc := Lib.run_convert_bytes_const (P := Tryd.prog) (w.alloc (.cells #[.slice sa d.stops.length sc, .slice ma d.marks.length mc, .slice ta d.sites.length tc] 64)) 24 5 #[.int .u8 84, .int .u8 83, .int .u8 76, .int .u8 49] 4 4 Tryd.underlying24 Tryd.underlying5
  rw [World.size_alloc] at kc
  obtain ⟨W, hW⟩ : ∃ W, W = (((w.alloc (.cells #[.slice sa d.stops.length sc, .slice ma d.marks.length mc, .slice ta d.sites.length tc] 64)).alloc (.cells #[.int .u8 84, .int .u8 83, .int .u8 76, .int .u8 49] 5 (4, 5))).alloc (WO (.slice (some ⟨w.heap.size + 1, 0, none⟩) 4 4))) := ⟨_, rfl⟩
  have HW0 := Lib.hid hW
  have T0 : Hid (TW w.heap.size (w.heap.size + 1 + 1) w W (WO (.slice (some ⟨w.heap.size + 1, 0, none⟩) 4 4)) (.slice (some ⟨w.heap.size + 1, 0, none⟩) 4 4) magicL) := by
    rw [hW]
    refine ⟨heap_new _ _ (by simp), ownG_later (ownY_const (w.alloc (.cells #[.slice sa d.stops.length sc, .slice ma d.marks.length mc, .slice ta d.sites.length tc] 64)) w.heap.size [84, 83, 76, 49] (4, 5) (by simp) (by simp) (by simp)) ((Below.refl _ _).alloc (Nat.le_refl _) _), (((Below.refl _ _).alloc (Nat.le_refl _) _).alloc (by simp) _).alloc (by simp; omega) _, by simp; omega, fun j ob hj _ _ => heap_old _ _ (heap_old _ _ (heap_old _ _ hj))⟩
  have hd0 : W.heap[w.heap.size]? = some (.cells #[.slice sa d.stops.length sc, .slice ma d.marks.length mc, .slice ta d.sites.length tc] 64) := by rw [hW]; exact heap_old _ _ (heap_old _ _ (heap_new _ _ rfl))
  have hsz : W.heap.size = w.heap.size + 1 + 1 + 1 := by rw [hW]; simp
  have C1 := Lib.hid (writer_lit _ _ W _ _ T0.out.at_ T0.out.own (by omega) (by omega) [(d.stops.length : Int)] (by intro x hx; simp only [List.mem_singleton] at hx; subst hx; omega) (by simp) (by simp [magicL]))
  rw [hsz, hW] at C1
  clear hW
  have mixed : Tryd.prog.follows Departure.mixedOrders = true := by kernel_rfl
  obtain ⟨i0, hi, hz0, hz1, hz2⟩ := infoY_parts infoY
  have HI : Hid _ := And.intro hi (And.intro hz0 (And.intro hz1 hz2))
  clear hi hz0 hz1 hz2
  go_enter Tryd.func25, Tryd.ntmps25
  go_wp2_with fail
  refine C1.out.mono ?_
  rintro e w1 ⟨rfl, pv1, ht1⟩
  rw [← HW0.out] at ht1
  have HBX : Hid (∀ wr o pv L, TW w.heap.size (w.heap.size + 1 + 1) W wr o pv L → (wr.cell? ⟨w.heap.size, 0, none⟩ = some (.slice sa d.stops.length sc) ∧ wr.cell? ⟨w.heap.size, 1, none⟩ = some (.slice ma d.marks.length mc) ∧ wr.cell? ⟨w.heap.size, 2, none⟩ = some (.slice ta d.sites.length tc)) ∧ w.heap.size + 1 + 1 + 1 ≤ wr.heap.size ∧ Below w.heap.size w wr) := fun wr o pv L h => by
    have h1 := h.oth _ _ hd0 (notY_cells (by decide)) (by omega)
    exact ⟨by simp [World.cell?, h1], by have := h.grew; omega, T0.out.bel.trans h.bel⟩
  have T1 := Lib.hid ht1
  obtain ⟨⟨x0, x1, x2⟩, hwx, -⟩ := HBX.out _ _ _ _ ht1
  obtain ⟨P1, hP1⟩ : ∃ P1, magicL ++ numsW [(d.stops.length : Int)] = P1 := ⟨_, rfl⟩
  have HP1 := Lib.hid hP1
  have HL1 : Hid (P1.length = 4 + (numsW [(d.stops.length : Int)]).length) := by show _ = _; rw [← hP1, List.length_append]; rfl
  rw [hP1] at T1
  clear C1 ht1 kc HW0 hP1 hd0 hsz
  go_wp2_with fail
  go_loopw [28] (fun i wr => ∃ (j : Nat) (pv : Value), j ≤ d.stops.length ∧ i = .int .i64 j ∧ TW w.heap.size (w.heap.size + 1 + 1) W wr (WO pv) pv (P1 ++ (d.stops.take j).flatMap stopW)) (fun i _ => d.stops.length - (intOf i).toNat)
  case atStart => exact ⟨0, pv1, by omega, rfl, by simpa using T1.out⟩
  case round =>
    clear x0 x1 x2 hwx T1
    obtain ⟨j, pv, hj, rfl, ht⟩ := hrel
    obtain ⟨⟨x0, x1, x2⟩, hwx, hbw⟩ := HBX.out _ _ _ _ ht
    have T := Lib.hid ht
    clear ht
    by_cases hlt : j < d.stops.length
    · --<
      obtain ⟨cells, hrd, hc⟩ := HD.out.stops
      obtain ⟨b, off, c0, hva, hlc, hc9, hbl⟩ := Rd.block hrd (by omega) (by omega)
      simp only [Value.slice.injEq, true_and] at hva
      obtain ⟨rfl, rfl⟩ := hva
      obtain ⟨sv, e0, hsp⟩ := hc j hlt
      have d0 := later_cellH hbw (rd_at hrd e0)
      obtain ⟨ba, bc, rfl⟩ := hsp.shape
      have hbl9 := hsp.le
      have HSP := Lib.hid hsp
      clear hrd hc e0 hsp hbw
      have HFL := Lib.hid (flat_le stopW d.stops hlt)
      have HFS := Lib.hid (flat_succ stopW d.stops hlt)
      have HRS := Lib.hid (HR.out.spots j hlt)
      obtain ⟨s, hs⟩ : ∃ s, d.stops[j] = s := ⟨_, rfl⟩
      rw [hs] at d0 hbl9 HFL HFS HRS HSP
      clear hs
      obtain ⟨Q, hQ⟩ : ∃ Q, P1 ++ (d.stops.take j).flatMap stopW = Q := ⟨_, rfl⟩
      have HQ := Lib.hid hQ
      have HQL : Hid (Q.length + (numsW [(s.length : Int)]).length + (s.flatMap spotW).length ≤ 140737488355300) := by
        show _ ≤ _
        have h1 := HL1.out
        have h2 := HLE.out
        have h3 := HFL.out
        have h4 : (stopW s).length = (numsW [(s.length : Int)]).length + (s.flatMap spotW).length := by simp only [stopW, List.length_append]
        rw [← hQ, List.length_append]; omega
      rw [hQ] at T
      clear hQ
      have C := Lib.hid (writer_lit _ _ wr _ _ T.out.at_ T.out.own (by omega) (by omega) [(s.length : Int)] (by intro x hx; simp only [List.mem_singleton] at hx; subst hx; omega) (by simp) (by have := HQL.out; simp only [List.length_cons, List.length_nil]; omega))
      go_wp2_with fail
      refine C.out.mono ?_
      rintro e w2 ⟨rfl, pv2, ht2⟩
      have T2 := Lib.hid (T.out.trans ht2)
      obtain ⟨Q2, hQ2⟩ : ∃ Q2, Q ++ numsW [(s.length : Int)] = Q2 := ⟨_, rfl⟩
      have HQ2 := Lib.hid hQ2
      have HQL2 : Hid (Q2.length + (s.flatMap spotW).length ≤ 140737488355300) := by
        show _ ≤ _
        have := HQL.out
        rw [← hQ2, List.length_append]; omega
      rw [hQ2] at T2
      clear C ht2 hQ2 d0 x0 x1 x2
      go_wp2_with fail
      go_loopw [39] (fun i w2 => ∃ (k : Nat) (pv : Value), k ≤ s.length ∧ i = .int .i64 k ∧ TW w.heap.size (w.heap.size + 1 + 1) W w2 (WO pv) pv (Q2 ++ (s.take k).flatMap spotW)) (fun i _ => s.length - (intOf i).toNat)
      case atStart => exact ⟨0, pv2, by omega, rfl, by simpa using T2.out⟩
      case round =>
        clear T2 T
        obtain ⟨k, pv3, hk, rfl, ht⟩ := hrel
        obtain ⟨-, hwx, hbw⟩ := HBX.out _ _ _ _ ht
        have T := Lib.hid ht
        clear ht
        by_cases hlt2 : k < s.length
        · obtain ⟨cells, hrd, hc⟩ := HSP.out
          obtain ⟨b2, off2, c0, hva, hlc2, hc92, hbl2⟩ := Rd.block hrd (by omega) (by omega)
          simp only [Value.slice.injEq, true_and] at hva
          obtain ⟨rfl, rfl⟩ := hva
          obtain ⟨e0, e1⟩ := hc k hlt2
          have d0 := later_cellH hbw (rd_at hrd e0)
          have d1 := later_cellH hbw (rd_at hrd e1)
          clear hrd hc e0 e1 hbw
          have HFL2 := Lib.hid (flat_le' spotW s k)
          have HFS2 := Lib.hid (flat_succ spotW s hlt2)
          have hx := HRS.out _ (List.getElem_mem hlt2)
          obtain ⟨x, hxe⟩ : ∃ x, s[k] = x := ⟨_, rfl⟩
          rw [hxe] at d0 d1 HFS2 hx
          clear hxe
          obtain ⟨px, py⟩ := x
          simp only [isN] at hx
          simp only [← Nat.add_assoc] at d0 d1
          obtain ⟨w4, hw4⟩ : ∃ w4, w4 = wr := ⟨_, rfl⟩
          subst hw4
          obtain ⟨W5, hW5⟩ : ∃ W5, W5 = w4.alloc (.cells #[.int .i64 px, .int .i64 py] 86) := ⟨_, rfl⟩
          have hb5 : Below w4.heap.size w4 W5 := by rw [hW5]; exact (Below.refl _ _).alloc (Nat.le_refl _) _
          have s0 : W5.cell? ⟨w4.heap.size, 0, none⟩ = some (.int .i64 px) := by rw [hW5]; simp [go_sem]
          have s1 : W5.cell? ⟨w4.heap.size, 1, none⟩ = some (.int .i64 py) := by rw [hW5]; simp [go_sem]
          have hs5 : W5.heap.size = w4.heap.size + 1 := by rw [hW5]; simp
          have T5 := Lib.hid (T.out.later hb5 (by omega))
          have HW5 := Lib.hid hW5
          have C := Lib.hid (writer_lit _ _ W5 _ _ T5.out.at_ T5.out.own (by omega) (by omega) [px, py] (by intro x hx; simp only [List.mem_cons, List.not_mem_nil, or_false] at hx; rcases hx with rfl | rfl <;> omega) (by simp) (by have h1 := HQL2.out; have h2 := HFL2.out; rw [List.length_append]; simp only [List.length_cons, List.length_nil]; omega))
          clear hb5 hW5 hs5
          go_upto_region 10 with fail
          rw [← HW5.out]
          clear d0 d1
          go_wp2_with fail
          refine C.out.mono ?_
          rintro e w6 ⟨rfl, pv6, ht6⟩
          have T6 := Lib.hid (T5.out.trans ht6)
          clear C ht6 s0 s1
          go_wp2_with fail
          exact ⟨⟨k + 1, pv6, by omega, by go_num, by rw [HFS2.out, ← List.append_assoc]; exact T6.out⟩, by simp [intOf]; omega⟩
        · obtain rfl : k = s.length := by omega
          clear hbw
          go_wp2_with fail
          exact ⟨⟨j + 1, pv3, by omega, by go_num, by rw [HFS.out, ← List.append_assoc, HQ.out]; unfold stopW; rw [← List.append_assoc, HQ2.out]; have := T.out; rwa [List.take_length] at this⟩, by simp [intOf]; omega⟩

    -->
    · obtain rfl : j = d.stops.length := by omega
      rw [List.take_length] at T
      clear hbw
      obtain ⟨P2, hP2⟩ : ∃ P2, P1 ++ d.stops.flatMap stopW = P2 := ⟨_, rfl⟩
      have HP2 := Lib.hid hP2
      have HL2 : Hid (P2.length = 4 + (numsW [(d.stops.length : Int)]).length + (d.stops.flatMap stopW).length) := by show _ = _; rw [← hP2, List.length_append, HL1.out]
      rw [hP2] at T
      clear hP2
      have C := Lib.hid (writer_lit _ _ wr _ _ T.out.at_ T.out.own (by omega) (by omega) [(d.marks.length : Int)] (by intro x hx; simp only [List.mem_singleton] at hx; subst hx; omega) (by simp) (by have := HL2.out; have := HLE.out; simp only [List.length_cons, List.length_nil]; omega))
      go_wp2_with fail
      refine C.out.mono ?_
      rintro e w2 ⟨rfl, pv2, ht2⟩
      have T2 := Lib.hid (T.out.trans ht2)
      obtain ⟨P3, hP3⟩ : ∃ P3, P2 ++ numsW [(d.marks.length : Int)] = P3 := ⟨_, rfl⟩
      have HP3 := Lib.hid hP3
      have HL3 : Hid (P3.length = 4 + (numsW [(d.stops.length : Int)]).length + (d.stops.flatMap stopW).length + (numsW [(d.marks.length : Int)]).length) := by show _ = _; rw [← hP3, List.length_append, HL2.out]
      rw [hP3] at T2
      clear C ht2 hP3 x0 x1 x2 T
      obtain ⟨⟨x0, x1, x2⟩, hwx2, -⟩ := HBX.out _ _ _ _ T2.out
      go_wp2_with fail
      go_loopw [61] (fun i wr => ∃ (j : Nat) (pv : Value), j ≤ d.marks.length ∧ i = .int .i64 j ∧ TW w.heap.size (w.heap.size + 1 + 1) W wr (WO pv) pv (P3 ++ (d.marks.take j).flatMap markW)) (fun i _ => d.marks.length - (intOf i).toNat)
      case atStart => exact ⟨0, pv2, by omega, rfl, by simpa using T2.out⟩
      case round =>
        clear x0 x1 x2 hwx2 T2 hwx
        obtain ⟨j, pv, hj, rfl, ht⟩ := hrel
        obtain ⟨⟨x0, x1, x2⟩, hwx, hbw⟩ := HBX.out _ _ _ _ ht
        have T := Lib.hid ht
        clear ht
        by_cases hlt : j < d.marks.length
        · --<
          obtain ⟨cells, hrd, hc⟩ := HD.out.marks
          obtain ⟨b, off, c0, hva, hlc9, hc99, hbl99⟩ := Rd.block hrd (by omega) (by omega)
          simp only [Value.slice.injEq, true_and] at hva
          obtain ⟨rfl, rfl⟩ := hva
          obtain ⟨e0, mv, e1, hlv⟩ := hc j hlt
          have d0 := later_cellH hbw (rd_at hrd e0)
          have d1 := later_cellH hbw (rd_at hrd e1)
          obtain ⟨la, lc, rfl⟩ := hlv.shape
          have hbl9 := hlv.le
          have HLV := Lib.hid hlv
          clear hrd hc e0 e1 hlv hbw
          have HFL := Lib.hid (flat_le markW d.marks hlt)
          have HFS := Lib.hid (flat_succ markW d.marks hlt)
          have HRS := Lib.hid (HR.out.locs j hlt)
          have hst := HR.out.marks j hlt
          have HSG2 := Lib.hid (HSG.out _ (List.getElem_mem hlt))
          obtain ⟨mk, hm⟩ : ∃ mk, d.marks[j] = mk := ⟨_, rfl⟩
          rw [hm] at d0 d1 hbl9 HFL HFS HRS HLV hst HSG2
          clear hm
          obtain ⟨stp, ls⟩ := mk
          simp only [isN] at hst hbl9
          simp only [← Nat.add_assoc] at d0 d1
          obtain ⟨Q, hQ⟩ : ∃ Q, P3 ++ (d.marks.take j).flatMap markW = Q := ⟨_, rfl⟩
          have HQ := Lib.hid hQ
          have HQL : Hid (Q.length + (numsW [stp, (ls.length : Int)]).length + (ls.flatMap locW).length ≤ 140737488355300) := by
            show _ ≤ _
            have h1 := HL3.out
            have h2 := HLE.out
            have h3 := HFL.out
            have h4 : (markW ⟨stp, ls⟩).length = (numsW [stp, (ls.length : Int)]).length + (ls.flatMap locW).length := by simp only [markW, List.length_append]
            rw [← hQ, List.length_append]; omega
          rw [hQ] at T
          clear hQ
          obtain ⟨w4, hw4⟩ : ∃ w4, w4 = wr := ⟨_, rfl⟩
          subst hw4
          obtain ⟨W5, hW5⟩ : ∃ W5, W5 = w4.alloc (.cells #[.int .i64 stp, .slice la ls.length lc] 89) := ⟨_, rfl⟩
          have hb5 : Below w4.heap.size w4 W5 := by rw [hW5]; exact (Below.refl _ _).alloc (Nat.le_refl _) _
          have hm5 : W5.heap[w4.heap.size]? = some (.cells #[.int .i64 stp, .slice la ls.length lc] 89) := by rw [hW5]; exact heap_new _ _ rfl
          have s0 := cell_of hm5 (show (#[.int .i64 stp, .slice la ls.length lc] : Array Value)[0]? = some (.int .i64 stp) from rfl)
          have s1 := cell_of hm5 (show (#[.int .i64 stp, .slice la ls.length lc] : Array Value)[1]? = some (.slice la ls.length lc) from rfl)
          have hs5 : W5.heap.size = w4.heap.size + 1 := by rw [hW5]; simp
          have T5 := Lib.hid (T.out.later hb5 (by omega))
          have HW5 := Lib.hid hW5
          have HM5 := Lib.hid hm5
          have C := Lib.hid (writer_lit _ _ W5 _ _ T5.out.at_ T5.out.own (by omega) (by omega) [stp, (ls.length : Int)] (by intro y hy; simp only [List.mem_cons, List.not_mem_nil, or_false] at hy; rcases hy with rfl | rfl <;> omega) (by simp) (by have h1 := HQL.out; simp only [List.length_cons, List.length_nil]; omega))
          clear hb5 hW5 hs5 hm5 x0 x1 x2
          go_upto_region 17 with fail
          rw [← HW5.out]
          clear d0 d1
          go_wp2_with fail
          refine C.out.mono ?_
          rintro e w6 ⟨rfl, pv6, ht6⟩
          have T6 := Lib.hid (T5.out.trans ht6)
          have n1 := cell_of (ht6.oth _ _ HM5.out (notY_cells (by decide)) (by omega)) (show (#[.int .i64 stp, .slice la ls.length lc] : Array Value)[1]? = some (.slice la ls.length lc) from rfl)
          obtain ⟨Q2, hQ2⟩ : ∃ Q2, Q ++ numsW [stp, (ls.length : Int)] = Q2 := ⟨_, rfl⟩
          have HQ2 := Lib.hid hQ2
          have HQL2 : Hid (Q2.length + (ls.flatMap locW).length ≤ 140737488355300) := by
            show _ ≤ _
            have := HQL.out
            rw [← hQ2, List.length_append]; omega
          rw [hQ2] at T6
          clear C ht6 hQ2 s0 s1 T T5 HM5 HW5
          go_wp2_with fail
          go_loopw [76] (fun i w7 => ∃ (k : Nat) (pv : Value), k ≤ ls.length ∧ i = .int .i64 k ∧ TW w.heap.size (w.heap.size + 1 + 1) W w7 (WO pv) pv (Q2 ++ (ls.take k).flatMap locW)) (fun i _ => ls.length - (intOf i).toNat)
          case atStart => exact ⟨0, pv6, by omega, rfl, by simpa using T6.out⟩
          case round =>
            clear T6 hwx n1
            obtain ⟨k, pv3, hk, rfl, ht⟩ := hrel
            obtain ⟨-, hwx, hbw⟩ := HBX.out _ _ _ _ ht
            have T := Lib.hid ht
            clear ht
            by_cases hlt2 : k < ls.length
            · --<
              obtain ⟨cells, hrd, hc⟩ := HLV.out
              obtain ⟨b2, off2, c0, hva, hlc9, hc99, hbl99⟩ := Rd.block hrd (by omega) (by omega)
              simp only [Value.slice.injEq, true_and] at hva
              obtain ⟨rfl, rfl⟩ := hva
              obtain ⟨e0, e1, e2, e3, e4, e5⟩ := hc k hlt2
              have d0 := later_cellH hbw (rd_at hrd e0)
              have d1 := later_cellH hbw (rd_at hrd e1)
              have d2 := later_cellH hbw (rd_at hrd e2)
              have d3 := later_cellH hbw (rd_at hrd e3)
              have d4 := later_cellH hbw (rd_at hrd e4)
              have d5 := later_cellH hbw (rd_at hrd e5)
              clear hrd hc e0 e1 e2 e3 e4 e5 hbw
              have HFL2 := Lib.hid (flat_le locW ls hlt2)
              have HFS2 := Lib.hid (flat_succ locW ls hlt2)
              have hx := HRS.out _ (List.getElem_mem hlt2)
              have hsg := HSG2.out _ (List.getElem_mem hlt2)
              obtain ⟨x, hxe⟩ : ∃ x, ls[k] = x := ⟨_, rfl⟩
              rw [hxe] at d0 d1 d2 d3 d4 d5 HFS2 HFL2 hx hsg
              clear hxe
              obtain ⟨dd, vv, kk, ar, xa, xb⟩ := x
              simp only [isN] at hx
              obtain ⟨hx1, hx2, hx3, hx4, hx5, -⟩ := hx
              have SA : Hid (isI64 xa) := hsg.1
              have SB : Hid (isI64 xb) := hsg.2
              clear hsg
              simp only at d0 d1 d2 d3 d4 d5
              simp only [← Nat.add_assoc] at d0 d1 d2 d3 d4 d5
              obtain ⟨R, hR⟩ : ∃ R, Q2 ++ (ls.take k).flatMap locW = R := ⟨_, rfl⟩
              have HRR := Lib.hid hR
              have HRL : Hid (R.length + (numsW [dd, vv, kk]).length + (if kk = 1 then [] else numsW [ar] ++ signW xa).length + (signW xb).length ≤ 140737488355300) := by
                show _ ≤ _
                have h1 := HQL2.out
                have h2 := HFL2.out
                have h4 : (locW ⟨dd, vv, kk, ar, xa, xb⟩).length = (numsW [dd, vv, kk]).length + (if kk = 1 then [] else numsW [ar] ++ signW xa).length + (signW xb).length := by simp only [locW, List.length_append]
                rw [← hR, List.length_append]; omega
              rw [hR] at T
              clear hR
              obtain ⟨w7, hw7⟩ : ∃ w7, w7 = wr := ⟨_, rfl⟩
              subst hw7
              obtain ⟨LC, hLC⟩ : ∃ LC : Array Value, LC = #[.int .i64 dd, .int .i64 vv, .int .u8 kk, .int .i64 ar, .int .i64 xa, .int .i64 xb] := ⟨_, rfl⟩
              obtain ⟨W8, hW8⟩ : ∃ W8, W8 = w7.alloc (.cells #[.int .i64 dd, .int .i64 vv, .int .u8 kk, .int .i64 ar, .int .i64 xa, .int .i64 xb] 91) := ⟨_, rfl⟩
              have hb8 : Below w7.heap.size w7 W8 := by rw [hW8]; exact (Below.refl _ _).alloc (Nat.le_refl _) _
              have hl8 : W8.heap[w7.heap.size]? = some (.cells LC 91) := by rw [hW8, hLC]; exact heap_new _ _ rfl
              have HLC := Lib.hid hLC
              have s0 := cell_of hl8 (show LC[0]? = some (.int .i64 dd) by rw [hLC]; rfl)
              have s1 := cell_of hl8 (show LC[1]? = some (.int .i64 vv) by rw [hLC]; rfl)
              have s2 := cell_of hl8 (show LC[2]? = some (.int .u8 kk) by rw [hLC]; rfl)
              have hs8 : W8.heap.size = w7.heap.size + 1 := by rw [hW8]; simp
              have T8 := Lib.hid (T.out.later hb8 (by omega))
              have HW8 := Lib.hid hW8
              have HL8 := Lib.hid hl8
              have C := Lib.hid (writer_lit _ _ W8 _ _ T8.out.at_ T8.out.own (by omega) (by omega) [dd, vv, kk] (by intro y hy; simp only [List.mem_cons, List.not_mem_nil, or_false] at hy; rcases hy with rfl | rfl | rfl <;> omega) (by simp) (by have h1 := HRL.out; simp only [List.length_cons, List.length_nil]; omega))
              clear hb8 hW8 hs8 hl8 hLC
              go_upto_region 21 with fail
              rw [← HW8.out]
              clear d0 d1 d2 d3 d4 d5
              go_wp2_with fail
              refine C.out.mono ?_
              rintro e w9 ⟨rfl, pv9, ht9⟩
              have T9 := Lib.hid (T8.out.trans ht9)
              have HL9 := Lib.hid (ht9.oth _ _ HL8.out (notY_cells (by decide)) (by omega))
              have p2 := cell_of HL9.out (show LC[2]? = some (.int .u8 kk) by rw [HLC.out]; rfl)
              have p3 := cell_of HL9.out (show LC[3]? = some (.int .i64 ar) by rw [HLC.out]; rfl)
              obtain ⟨M, hM⟩ : ∃ M, R ++ numsW [dd, vv, kk] = M := ⟨_, rfl⟩
              have HM := Lib.hid hM
              have hML : M.length + (if kk = 1 then [] else numsW [ar] ++ signW xa).length + (signW xb).length ≤ 140737488355300 := by
                have := HRL.out
                rw [← hM, List.length_append]; omega
              have HML := Lib.hid hML
              rw [hM] at T9
              clear C ht9 s0 s1 s2 hM T T8 HL8 HW8 hML
              obtain ⟨M2, hM2⟩ : ∃ M2, M ++ (if kk = 1 then [] else numsW [ar] ++ signW xa) = M2 := ⟨_, rfl⟩
              have HM2 := Lib.hid hM2
              clear hM2
              go_upto_if 92 with fail
              go_cut [] (fun wx => (∃ pv, TW w.heap.size (w.heap.size + 1 + 1) W wx (WO pv) pv M2) ∧ wx.heap[w7.heap.size]? = some (.cells LC 91))
              case first =>
                by_cases k1 : kk = 1
                · subst k1
                  go_wp2_with fail
                  go_meet
                  have e9 : M2 = M := by rw [← HM2.out]; simp
                  exact ⟨⟨pv9, by rw [e9]; exact T9.out⟩, HL9.out⟩
                · have k2 : (kk == 1) = false := by simp [k1]
                  have k3 : (kk != 1) = true := by simp [k1]
                  have hML : M.length + (numsW [ar]).length + (signW xa).length ≤ 140737488355300 := by have := HML.out; rw [if_neg k1, List.length_append] at this; omega
                  have hw9 := (HBX.out _ _ _ _ T9.out).2.1
                  have C := Lib.hid (writer_lit _ _ w9 _ _ T9.out.at_ T9.out.own (by omega) (by omega) [ar] (by intro y hy; simp only [List.mem_cons, List.not_mem_nil, or_false] at hy; subst hy; omega) (by simp) (by simp only [List.length_cons, List.length_nil]; omega))
                  go_wp2_with fail
                  refine C.out.mono ?_
                  rintro e w10 ⟨rfl, pv10, ht10⟩
                  have T10 := Lib.hid (T9.out.trans ht10)
                  have HL10 := Lib.hid (ht10.oth _ _ HL9.out (notY_cells (by decide)) (by omega))
                  have p4 := cell_of HL10.out (show LC[4]? = some (.int .i64 xa) by rw [HLC.out]; rfl)
                  obtain ⟨M1, hM1⟩ : ∃ M1, M ++ numsW [ar] = M1 := ⟨_, rfl⟩
                  have HM1 := Lib.hid hM1
                  have hML1 : M1.length + (signW xa).length ≤ 140737488355300 := by rw [← hM1, List.length_append]; omega
                  rw [hM1] at T10
                  have hme : Hid (M1 ++ signW xa = M2) := by show _ = _; rw [← HM2.out, if_neg k1, ← List.append_assoc, hM1]
                  clear C ht10 hM1 p2 p3 hML
                  have HNU := Lib.hid (fun W' => signed_ref xa W' SA.out)
                  obtain ⟨pa, pc, hpa⟩ := (T10.out.own.rd).shape
                  subst hpa
                  have hsl9 : (signW xa).length ≤ 9 := numW_len _ (zig_lt SA.out)
                  have b1 : M1.length + (signW xa).length ≤ maxLen := by unfold maxLen; omega
                  have b2 : (M1.length + (signW xa).length) * 1 ≤ 140737488355328 := by omega
                  have hbr2 : w.heap.size ≤ w10.heap.size := by have := (HBX.out _ _ _ _ T10.out).2.1; omega
                  have TR := Lib.hid (TW.refl T10.out.at_ T10.out.own)
                  obtain ⟨k0, z0⟩ := wo_cells T10.out.at_
                  go_wp2_with fail
                  go_region_law (first
                    | (go_simp; go_at_call 37; refine (HNU.out _).mono ?_; rintro e w3 ⟨v3, rfl, hown3, hb3⟩; have HT3 := Lib.hid (TR.out.later ((Below.refl _ _).drew.trans hb3) hbr2); have HR3 := Lib.hid hown3.rd; have BB := Lib.hid (Nat.le_trans hbr2 hb3.size); have k3 := (wo_cells HT3.out.at_).1)
                    | (refine step_append_ownG_rd rfl _ _ 24 rfl w.heap.size 5 i0 (.int .u8 0) 1 1 Tryd.underlying24 HI.out.1 HI.out.2.1 HI.out.2.2.1 HI.out.2.2.2 rfl (by decide) _ M1.length (M1.map (Value.int .u8)) rfl HT3.out.own _ (signW xa).length ((signW xa).map (Value.int .u8)) rfl HR3.out (ints_oneCell .u8 _) b1 b2 BB.out ?_; intro v2 w2 hown2 hgrow2; have HT4 := Lib.hid (HT3.out.append (notY_cells (by decide)) BB.out hown2 rfl hgrow2); have k4 := (wo_cells HT4.out.at_).1; have z4 := (wo_cells HT4.out.at_).2; obtain ⟨va, vc, rfl⟩ := (ownG_rd hown2).shape))
                  all_goals go_wp2_with fail
                  all_goals go_meet
                  all_goals exact ⟨⟨_, by rw [← hme.out]; exact T10.out.trans (HT4.out.put (by decide) (by omega) 0 _)⟩, (HT4.out.put (by decide) (by omega) 0 _).oth _ _ HL10.out (notY_cells (by decide)) (by omega)⟩
              case rest =>
                obtain ⟨⟨pv11, ht11⟩, hl11⟩ := hcut
                obtain ⟨w11, hw11⟩ : ∃ w11, w11 = wc := ⟨_, rfl⟩
                subst hw11
                have T11 := Lib.hid ht11
                have p5 := cell_of hl11 (show LC[5]? = some (.int .i64 xb) by rw [HLC.out]; rfl)
                have hML1 : M2.length + (signW xb).length ≤ 140737488355300 := by have := HML.out; rw [← HM2.out, List.length_append]; omega
                clear ht11 hl11 p2 p3
                have HNU := Lib.hid (fun W' => signed_ref xb W' SB.out)
                obtain ⟨pa, pc, hpa⟩ := (T11.out.own.rd).shape
                subst hpa
                have hsl9 : (signW xb).length ≤ 9 := numW_len _ (zig_lt SB.out)
                have b1 : M2.length + (signW xb).length ≤ maxLen := by unfold maxLen; omega
                have b2 : (M2.length + (signW xb).length) * 1 ≤ 140737488355328 := by omega
                have hbr2 : w.heap.size ≤ w11.heap.size := by have := (HBX.out _ _ _ _ T11.out).2.1; omega
                have TR := Lib.hid (TW.refl T11.out.at_ T11.out.own)
                obtain ⟨k0, z0⟩ := wo_cells T11.out.at_
                go_wp2_with fail
                go_region_law (first
                  | (go_simp; go_at_call 37; refine (HNU.out _).mono ?_; rintro e w3 ⟨v3, rfl, hown3, hb3⟩; have HT3 := Lib.hid (TR.out.later ((Below.refl _ _).drew.trans hb3) hbr2); have HR3 := Lib.hid hown3.rd; have BB := Lib.hid (Nat.le_trans hbr2 hb3.size); have k3 := (wo_cells HT3.out.at_).1)
                  | (refine step_append_ownG_rd rfl _ _ 24 rfl w.heap.size 5 i0 (.int .u8 0) 1 1 Tryd.underlying24 HI.out.1 HI.out.2.1 HI.out.2.2.1 HI.out.2.2.2 rfl (by decide) _ M2.length (M2.map (Value.int .u8)) rfl HT3.out.own _ (signW xb).length ((signW xb).map (Value.int .u8)) rfl HR3.out (ints_oneCell .u8 _) b1 b2 BB.out ?_; intro v2 w2 hown2 hgrow2; have HT4 := Lib.hid (HT3.out.append (notY_cells (by decide)) BB.out hown2 rfl hgrow2); have k4 := (wo_cells HT4.out.at_).1; have z4 := (wo_cells HT4.out.at_).2; obtain ⟨va, vc, rfl⟩ := (ownG_rd hown2).shape))
                all_goals go_wp2_with fail
                all_goals exact ⟨⟨k + 1, _, by omega, by go_num, by rw [HFS2.out, ← List.append_assoc, HRR.out]; unfold locW; rw [← List.append_assoc, ← List.append_assoc, HM.out, HM2.out]; exact T11.out.trans (HT4.out.put (by decide) (by omega) 0 _)⟩, by simp [intOf]; omega⟩
            -->
            · obtain rfl : k = ls.length := by omega
              clear hbw
              go_wp2_with fail
              exact ⟨⟨j + 1, pv3, by omega, by go_num, by rw [HFS.out, ← List.append_assoc, HQ.out]; unfold markW; rw [← List.append_assoc, HQ2.out]; have := T.out; rwa [List.take_length] at this⟩, by simp [intOf]; omega⟩
        -->
        · obtain rfl : j = d.marks.length := by omega
          rw [List.take_length] at T
          clear hbw
          obtain ⟨P4, hP4⟩ : ∃ P4, P3 ++ d.marks.flatMap markW = P4 := ⟨_, rfl⟩
          have HP4 := Lib.hid hP4
          have HL4 : Hid (P4.length = 4 + (numsW [(d.stops.length : Int)]).length + (d.stops.flatMap stopW).length + (numsW [(d.marks.length : Int)]).length + (d.marks.flatMap markW).length) := by show _ = _; rw [← hP4, List.length_append, HL3.out]
          rw [hP4] at T
          clear hP4
          have C := Lib.hid (writer_lit _ _ wr _ _ T.out.at_ T.out.own (by omega) (by omega) [(d.sites.length : Int)] (by intro y hy; simp only [List.mem_cons, List.not_mem_nil, or_false] at hy; subst hy; omega) (by simp) (by have := HL4.out; have := HLE.out; simp only [List.length_cons, List.length_nil]; omega))
          go_wp2_with fail
          refine C.out.mono ?_
          rintro e w5 ⟨rfl, pv5, ht5⟩
          have T5 := Lib.hid (T.out.trans ht5)
          obtain ⟨P5, hP5⟩ : ∃ P5, P4 ++ numsW [(d.sites.length : Int)] = P5 := ⟨_, rfl⟩
          have HP5 := Lib.hid hP5
          have HL5 : Hid (P5.length + (sitesW 0 d.sites).length ≤ 140737488355300) := by show _ ≤ _; have := HLE.out; have := HL4.out; rw [← hP5, List.length_append]; omega
          rw [hP5] at T5
          clear C ht5 hP5 x0 x1 x2 T
          obtain ⟨⟨x0, x1, x2⟩, hwx5, -⟩ := HBX.out _ _ _ _ T5.out
          go_wp2_with fail
          go_loopw [131] (fun i wr => ∃ (j : Nat) (pv : Value), j ≤ d.sites.length ∧ i = .int .i64 j ∧ TW w.heap.size (w.heap.size + 1 + 1) W wr (WO pv) pv (P5 ++ sitesW 0 (d.sites.take j))) (fun i _ => d.sites.length - (intOf i).toNat)
          case atStart => exact ⟨0, pv5, by omega, rfl, by simpa [sitesW] using T5.out⟩
          case round =>
            clear x0 x1 x2 hwx5 hwx T5
            obtain ⟨j, pv, hj, rfl, ht⟩ := hrel
            obtain ⟨⟨x0, x1, x2⟩, hwx, hbw⟩ := HBX.out _ _ _ _ ht
            have T := Lib.hid ht
            clear ht
            by_cases hlt : j < d.sites.length
            · --<
              obtain ⟨cells, hrd, hc⟩ := HD.out.sites
              obtain ⟨b2, off2, c0, hva, hlc9, hc99, hbl99⟩ := Rd.block hrd (by omega) (by omega)
              simp only [Value.slice.injEq, true_and] at hva
              obtain ⟨rfl, rfl⟩ := hva
              obtain ⟨e0, e1⟩ := hc j hlt
              have d0 := later_cellH hbw (rd_at hrd e0)
              have d1 := later_cellH hbw (rd_at hrd e1)
              have HRD : Hid (∀ k (h : k < d.sites.length), wr.cell? ⟨b2, off2 + k * 2, none⟩ = some (.int .i64 d.sites[k].1)) := fun k h => later_cellH hbw (rd_at hrd (hc k h).1)
              clear hrd hc e0 e1 hbw
              have HFS := Lib.hid (sitesW_succ d.sites 0 hlt)
              have HFL := Lib.hid (sitesW_le d.sites 0 j)
              have hst := HR.out.sites j hlt
              obtain ⟨s, hs⟩ : ∃ s, d.sites[j] = s := ⟨_, rfl⟩
              rw [hs] at d0 d1 HFS hst
              clear hs
              obtain ⟨sx, sy⟩ := s
              simp only [isN] at hst
              obtain ⟨hst1, hst2, hst3⟩ := hst
              simp only [← Nat.add_assoc] at d0 d1
              obtain ⟨w4, hw4⟩ : ∃ w4, w4 = wr := ⟨_, rfl⟩
              subst hw4
              obtain ⟨W5, hW5⟩ : ∃ W5, W5 = w4.alloc (.cells #[.int .i64 sx, .int .i64 sy] 68) := ⟨_, rfl⟩
              have hb5 : Below w4.heap.size w4 W5 := by rw [hW5]; exact (Below.refl _ _).alloc (Nat.le_refl _) _
              have s0 : W5.cell? ⟨w4.heap.size, 0, none⟩ = some (.int .i64 sx) := by rw [hW5]; simp [go_sem]
              have s1 : W5.cell? ⟨w4.heap.size, 1, none⟩ = some (.int .i64 sy) := by rw [hW5]; simp [go_sem]
              have n2 := later_cellH hb5 x2
              have HRD5 : Hid (∀ k (h : k < d.sites.length), W5.cell? ⟨b2, off2 + k * 2, none⟩ = some (.int .i64 d.sites[k].1)) := fun k h => later_cellH hb5 (HRD.out k h)
              have hs5 : W5.heap.size = w4.heap.size + 1 := by rw [hW5]; simp
              have T5 := Lib.hid (T.out.later hb5 (by omega))
              have HW5 := Lib.hid hW5
              have hbd : (P5 ++ sitesW 0 (d.sites.take j)).length ≤ 140737488355300 := by have h1 := HL5.out; have h2 := HFL.out; rw [List.length_append]; omega
              have hw5 : w.heap.size ≤ W5.heap.size := by omega
              clear hb5 hW5 hs5 HRD
              go_upto_region 32 with fail
              rw [← HW5.out]
              clear d0 d1 x0 x1 x2
              rcases j with _ | k
              · have C := Lib.hid (writer_lit _ _ W5 _ _ T5.out.at_ T5.out.own (by omega) (by omega) [sx, sy] (by intro y hy; simp only [List.mem_cons, List.not_mem_nil, or_false] at hy; rcases hy with rfl | rfl <;> omega) (by simp) (by simp only [List.length_cons, List.length_nil]; omega))
                have hj0 : decide ((0 : Int) < ((0 : Nat) : Int)) = false := by decide
                have e0 : Hid (numsW [sx - lastOf 0 (d.sites.take 0), sy] = numsW [sx, sy]) := by show _ = _; rw [show sx - lastOf 0 (d.sites.take 0) = sx by simp [lastOf]]
                clear HRD5 hbd
                go_wp2_with fail
                refine C.out.mono ?_
                rintro e w6 ⟨rfl, pv6, ht6⟩
                have T6 := Lib.hid (T5.out.trans ht6)
                clear C ht6 s0 s1 n2
                go_wp2_with fail
                exact ⟨⟨0 + 1, pv6, by omega, by go_num, by rw [HFS.out, e0.out, ← List.append_assoc]; exact T6.out⟩, by simp [intOf]; omega⟩
              · have hkl : k < d.sites.length := by omega
                have p1 := HRD5.out k hkl
                have hst4 := hst3 k rfl hkl
                have hst5 := (HR.out.sites k hkl).1
                have HLA := Lib.hid (lastOf_take (last := 0) hkl)
                obtain ⟨L, hL⟩ : ∃ L, d.sites[k].1 = L := ⟨_, rfl⟩
                rw [hL] at p1 hst4 hst5 HLA
                simp only [isN] at hst5
                clear hL
                have C := Lib.hid (writer_lit _ _ W5 _ _ T5.out.at_ T5.out.own (by omega) (by omega) [sx - L, sy] (by intro y hy; simp only [List.mem_cons, List.not_mem_nil, or_false] at hy; rcases hy with rfl | rfl <;> omega) (by simp) (by simp only [List.length_cons, List.length_nil]; omega))
                have hj0 : decide ((0 : Int) < (k : Int) + 1) = true := decide_eq_true (by omega)
                have hk1 : (k : Int) + 1 - 1 = k := by omega
                clear HRD5 hbd hst3
                go_wp2_with fail
                refine C.out.mono ?_
                rintro e w6 ⟨rfl, pv6, ht6⟩
                have T6 := Lib.hid (T5.out.trans ht6)
                clear C ht6 s0 s1 n2
                go_wp2_with fail
                exact ⟨⟨k + 1 + 1, pv6, by omega, by go_num, by rw [HFS.out, HLA.out, ← List.append_assoc]; exact T6.out⟩, by simp [intOf]; omega⟩
            -->
            · obtain rfl : j = d.sites.length := by omega
              rw [List.take_length] at T
              have k3 := (wo_cells T.out.at_).1
              clear hbw
              go_wp2_with fail
              go_ret
              exact ⟨⟨_, rfl, by rw [HEN.out, HP1.out, HP2.out, HP3.out, HP4.out, HP5.out]; exact T.out.own⟩, (HBX.out _ _ _ _ T.out).2.2⟩
end Go.Proofs.YtnanlkoldloolaaDoor
