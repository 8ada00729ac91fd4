/- Walk: the document's judge of moves done one by one. -/
import Derived.Test.YtmdmfciicoldoaaMr
import Derived.Test.YtmdmfciicoldoaaMf
import Derived.BigQuiet
namespace Go.Proofs.Ytmdmfciicoldoaa
open Go.RowKit Go.Maps

/-- What the judge asks. -/
structure RightP (l : List M) (spare : Int) (out : List M) : Prop where
  num : (out.length : Int) = refCircF l + nonself l
  sp : refCircF l = 0 → ∀ m ∈ out, m.1 ≠ spare ∧ m.2 ≠ spare
  gets : ∀ m ∈ l, runM out m.1 = m.2
  rest : ∀ p, p ≠ spare → (∀ m ∈ l, m.1 ≠ p) → runM out p = p

theorem nonself_next {l : List M} {j : Nat} (hj : j < l.length) : nonself (l.take (j + 1)) = nonself (l.take j) + (if l[j].1 != l[j].2 then 1 else 0) := by
  unfold nonself
  rw [List.take_succ_eq_append_getElem hj, List.countP_append, List.countP_singleton]
theorem runM_next {out : List M} {j : Nat} (hj : j < out.length) : runM (out.take (j + 1)) = upd (runM (out.take j)) out[j].1 (runM (out.take j) out[j].2) := by
  rw [List.take_succ_eq_append_getElem hj, runM_snoc]

theorem anyTo_succ {l : List M} {j : Nat} (hj : j < l.length) (p : Int) : anyTo (l.take (j + 1)) p = (anyTo (l.take j) p || (l[j].1 == p)) := by
  rw [List.take_succ_eq_append_getElem hj]
  unfold anyTo
  rw [List.any_append]; simp

set_option maxHeartbeats 16000000 in
set_option maxRecDepth 100000 in
theorem right_any (v v2 : Value) (l out : List M) (spare : Int) (w : World) (hv : RdM w v l) (hv2 : RdM w v2 out) (hl : l.length ≤ 1000) (ho : out.length ≤ 10000) (hP : RightP l spare out) :
    Calls Try.prog 12 #[v, .int .i64 spare, v2] w fun e w' => e = .returned (.bool true) ∧ Below w.heap.size w w' := by
  have HRC := Lib.hid (fun w h => refCircles_any v l w h)
  have HV := Lib.hid hv
  have HV2 := Lib.hid hv2
  have HP := Lib.hid hP
  have HLL := Lib.hid hl
  have HLO := Lib.hid ho
  obtain ⟨va, vc, rfl⟩ := Rd.shape hv
  obtain ⟨oa, oc, rfl⟩ := Rd.shape hv2
  have hnum := hP.num
  have hrc : refCircF l = circN l ∨ refCircF l = 0 := by
    by_cases h : Dist l
    · exact .inl (refCircF_is h)
    · exact .inr (refCircF_no h)
  obtain ⟨n, hn⟩ : ∃ n, refCircF l = n := ⟨_, rfl⟩
  have hn0 : 0 ≤ n := by rw [← hn]; rcases hrc with h | h <;> rw [h] <;> omega
  have hns : nonself l ≤ l.length := List.countP_le_length
  rw [hn] at HRC hnum
  have HN := Lib.hid hn
  have hnb : n ≤ 10000 := by omega
  clear hv hv2 hP hrc hn
  go_enter Try.func12, Try.ntmps12
  go_wp2_with fail
  refine (HRC.out _ HV.out).mono ?_
  rintro e w1 ⟨rfl, hb1⟩
  have HB1 := Lib.hid hb1
  clear hb1
  go_wp2_with fail
  go_loopw [27, 7] (fun i s7 wr => ∃ j : Nat, j ≤ l.length ∧ i = .int .i64 j ∧ s7 = .int .i64 (n + nonself (l.take j)) ∧ Hid (Below w.heap.size w wr)) (fun i _ _ => l.length - (intOf i).toNat)
  case atStart => exact ⟨0, by omega, rfl, by simp [nonself], HB1⟩
  case round =>
    obtain ⟨wa, rfl⟩ : ∃ wa : World, wa = wr := ⟨_, rfl⟩
    obtain ⟨j, hj, rfl, rfl, HB⟩ := hrel
    have hsz := HB.out.size
    by_cases hlt : j < l.length
    · rcases HV.out.split with ⟨a, c, h0, rfl⟩ | ⟨b, off, c, h0, hp, hlc, hc9, hb, hcell⟩
      · simp at hlt
      · simp only [Value.slice.injEq] at h0
        obtain ⟨rfl, -, rfl⟩ := h0
        obtain ⟨d1, d2⟩ := hcell j hlt
        rw [← HB.out.cell (p := ⟨b, off + j * 2, none⟩) hb] at d1
        rw [← HB.out.cell (p := ⟨b, off + j * 2 + 1, none⟩) hb] at d2
        have hbr : b < wa.heap.size := Nat.lt_of_lt_of_le hb hsz
        have HX := Lib.hid (nonself_next hlt)
        have hq : nonself (l.take j) ≤ (l.take j).length := List.countP_le_length
        rw [List.length_take] at hq
        obtain ⟨⟨x, y⟩, hx⟩ : ∃ x, l[j] = x := ⟨_, rfl⟩
        rw [hx] at d1 d2 HX
        simp only at d1 d2 HX
        obtain ⟨q, hqq⟩ : ∃ q, nonself (l.take j) = q := ⟨_, rfl⟩
        rw [hqq] at hq HX ⊢
        clear hx hcell hqq
        have hl1 := HLL.out
        have hq2 : (q : Int) ≤ 1000 := by omega
        clear hq hl1
        by_cases hxy : x = y
        · have b1 : (x != y) = false := by simp [hxy]
          have HE : Hid (nonself (l.take (j + 1)) = q) := by show _ = _; rw [HX.out, b1]; rfl
          clear hxy
          go_wp2_with fail
          exact ⟨⟨j + 1, by omega, by go_num, by rw [HE.out], HB.out.alloc hsz _⟩, by simp [intOf]; omega⟩
        · have b1 : (x != y) = true := by simp [hxy]
          have HE : Hid (nonself (l.take (j + 1)) = q + 1) := by show _ = _; rw [HX.out, b1]; rfl
          have hw : IntKind.i64.wrap (n + (q : Int) + 1) = n + ((q + 1 : Nat) : Int) := by rw [IntWalk.i64_left, IntWalk.wrap64_in _ (by omega)]; push_cast; omega
          clear hxy
          go_wp2_with fail
          exact ⟨⟨j + 1, by omega, by go_num, by rw [HE.out]; go_num, HB.out.alloc hsz _⟩, by simp [intOf]; omega⟩
    · obtain rfl : j = l.length := by omega
      simp only [List.take_length]
      have heq : ((out.length : Int) != n + (nonself l : Int)) = false := by simp [hnum]
      have HW0 := Lib.hid (WD.new wa w.heap.size hsz)
      have HB0 := Lib.hid (HB.out.alloc hsz (.cells #[.slice none 0 0, .slice none 0 0] 49))
      clear HB hnum
      go_wp2_with fail
      go_loopw [47] (fun i wr => ∃ (j : Nat) (vp : Value) (ps : List Int) (vh : Value) (hs : List Int), j ≤ out.length ∧ i = .int .i64 j ∧ Hid (WD wr w.heap.size wa.heap.size vp ps vh hs) ∧ Hid (WS ps hs (runM (out.take j))) ∧ Hid (ps.length ≤ 2 * j) ∧ Hid (Below w.heap.size w wr)) (fun i _ => out.length - (intOf i).toNat)
      case atStart => exact ⟨0, _, _, _, _, by omega, rfl, HW0, WS.new, Nat.le_refl _, HB0⟩
      case round =>
        clear HW0 HB0
        obtain ⟨wb, rfl⟩ : ∃ wb : World, wb = wr := ⟨_, rfl⟩
        obtain ⟨j, vp, ps, vh, hs, hj, rfl, HW, HS, HZ, HB⟩ := hrel
        have hsz2 := HB.out.size
        by_cases hlt : j < out.length
        · rcases HV2.out.split with ⟨a, c, h0, rfl⟩ | ⟨b, off, c, h0, hp, hlc, hc9, hb, hcell⟩
          · simp at hlt
          · simp only [Value.slice.injEq] at h0
            obtain ⟨rfl, -, rfl⟩ := h0
            obtain ⟨d1, d2⟩ := hcell j hlt
            rw [← HB.out.cell (p := ⟨b, off + j * 2, none⟩) hb] at d1
            rw [← HB.out.cell (p := ⟨b, off + j * 2 + 1, none⟩) hb] at d2
            have hbr : b < wb.heap.size := Nat.lt_of_lt_of_le hb hsz2
            have HX := Lib.hid (runM_next hlt)
            have HSp := Lib.hid (fun h => HP.out.sp h _ (List.getElem_mem hlt))
            obtain ⟨⟨x, y⟩, hx⟩ : ∃ x, out[j] = x := ⟨_, rfl⟩
            rw [hx] at d1 d2 HX HSp
            simp only at d1 d2 HX HSp
            clear hx hcell
            have HW1 := Lib.hid (HW.out.alloc (.cells #[.int .i64 x, .int .i64 y] 31))
            have HVA : Hid (RdM (wb.alloc (.cells #[.int .i64 x, .int .i64 y] 31)) _ l) := (HV.out.later HB.out).alloc _
            go_wp2_with fail
            refine (HRC.out _ HVA.out).mono ?_
            rintro e w3 ⟨rfl, hb3⟩
            have hm3 : w3.heap[wb.heap.size]? = some (.cells #[.int .i64 x, .int .i64 y] 31 (0, 0)) := by
              rw [hb3.block _ (by simp), heap_alloc_new]
            have HM3 := Lib.hid hm3
            have m1 := cell_of_heap (o := 0) hm3 rfl
            have m2 := cell_of_heap (o := 1) hm3 rfl
            have HW3 := Lib.hid (HW1.out.later hb3)
            have HB3 : Hid (Below w.heap.size w w3) := (HB.out.alloc hsz2 _).trans (hb3.mono (by simp; omega))
            have hs3 := HB3.out.size
            have hl1 := HLO.out
            have HA := Lib.hid (fun p => at_any p w3 w.heap.size wa.heap.size vp ps vh hs _ HW3.out HS.out (by have := HZ.out; omega) hs3)
            clear hb3 hm3 hl1 HW1 HVA
            have hcase : (n == 0) = false ∨ ((n == 0) = true ∧ (x == spare) = false ∧ (y == spare) = false) := by
              by_cases h : n = 0
              · obtain ⟨h1, h2⟩ := HSp.out (by rw [HN.out]; exact h)
                exact .inr ⟨by simp [h], by simpa using h1, by simpa using h2⟩
              · exact .inl (by simp [h])
            rcases hcase with g0 | ⟨g0, g1, g2⟩
            all_goals
              go_wp2_with fail
              refine (HA.out y).mono ?_
              rintro e w4 ⟨i4, vp4, ps4, vh4, hs4, rfl, hw4, hws4, hp4, hq4, hb4, hk4⟩
              have HW4 := Lib.hid hw4
              have HS4 := Lib.hid hws4
              have HB4 := Lib.hid (HB3.out.trans hb4)
              have hm4 := hk4 _ _ HM3.out (fun _ _ => cells_ne (by decide)) (fun _ _ => cells_ne (by decide))
              have HM4 := Lib.hid hm4
              have m1 := cell_of_heap (o := 0) hm4 rfl
              have m2 := cell_of_heap (o := 1) hm4 rfl
              have hl1 := HLO.out
              have hz4 : ps4.length ≤ 2 * j + 1 := by have := HZ.out; rcases hq4 with h | h <;> rw [h] <;> simp <;> omega
              have HZ4 := Lib.hid hz4
              have HP4 := Lib.hid hp4
              have hs4' := HB4.out.size
              have HA4 := Lib.hid (fun p => at_any p w4 w.heap.size wa.heap.size vp4 ps4 vh4 hs4 _ hw4 hws4 (by omega) hs4')
              clear hw4 hws4 hb4 hm4 hk4 hq4 hp4 hl1 hz4 HA
              go_wp2_with fail
              refine (HA4.out x).mono ?_
              rintro e w5 ⟨i5, vp5, ps5, vh5, hs5, rfl, hw5, hws5, hp5, hq5, hb5, hk5⟩
              have hlt4 : i4 < ps5.length ∧ ps5[i4]? = some y := by
                have h4 := HP4.out
                obtain ⟨hi, _⟩ := List.getElem?_eq_some_iff.1 h4
                rcases hq5 with h | h
                · rw [h]; exact ⟨hi, h4⟩
                · rw [h]; exact ⟨by simp; omega, by rw [List.getElem?_append_left hi]; exact h4⟩
              obtain ⟨hi4, e4⟩ := List.getElem?_eq_some_iff.1 hlt4.2
              obtain ⟨hi5, e5⟩ := List.getElem?_eq_some_iff.1 hp5
              have hz5 : ps5.length ≤ 2 * (j + 1) := by have := HZ4.out; rcases hq5 with h | h <;> rw [h] <;> simp <;> omega
              have hh4 : i4 < hs5.length := by have := hws5.len; omega
              have hh5 : i5 < hs5.length := by have := hws5.len; omega
              obtain ⟨g, c, rfl, t1, t2, t3, t4, t5, cur, t6⟩ := ownI_at hw5.oh hh4
              obtain ⟨g', c', h0', s1, s2, s3, s4, s5, _, _⟩ := ownI_at hw5.oh hh5
              simp only [Value.slice.injEq, Option.some.injEq, Addr.mk.injEq] at h0'
              obtain ⟨⟨rfl, -⟩, -, rfl⟩ := h0'
              obtain ⟨val, hval⟩ : ∃ val, hs5[i4] = val := ⟨_, rfl⟩
              obtain ⟨val2, hval2⟩ : ∃ val2, hs5[i5] = val2 := ⟨_, rfl⟩
              rw [hval] at t1
              rw [hval2] at s1
              obtain ⟨p1, p2, p3, p4⟩ := hw5.cells
              have hWS := hws5.set hi5 hi4 (v := val) (by rw [List.getElem?_eq_getElem hh4, hval])
              rw [e4, e5, ← HX.out] at hWS
              have HWS := Lib.hid hWS
              have HWD := Lib.hid ((hw5.keep (w' := w5.drew) rfl (fun _ _ => rfl) (fun _ _ => rfl)).setH i5 val)
              have HB5 : Hid (Below w.heap.size w (w5.drew.setCell ⟨g, i5, none⟩ (.int .i64 val))) := ((HB4.out.trans hb5).drew).setCell (own_blk hw5.oh g rfl).1 _
              have HZ5 := Lib.hid hz5
              have hBg : wa.heap.size ≠ g := blk_ne hw5.at_ t6 (cells_ne (by decide))
              clear hp5 hq5 hb5 hk5 hlt4 hi4 hi5 e4 e5 hz5 hval hval2 hWS hws5 hw5 t6 HA4 HP4 HZ4 HW4 HS4 HM4 HB4 hs4'
              go_wp2_with fail
              go_region
              go_wp2_with fail
              exact ⟨⟨j + 1, _, ps5, _, _, by omega, by go_num, HWD, HWS, HZ5, HB5⟩, by simp [intOf]; omega⟩
        · obtain rfl : j = out.length := by omega
          rw [List.take_length] at HS
          go_wp2_with fail
          go_loopw [90] (fun i wr => ∃ (j : Nat) (vp : Value) (ps : List Int) (vh : Value) (hs : List Int), j ≤ l.length ∧ i = .int .i64 j ∧ Hid (WD wr w.heap.size wa.heap.size vp ps vh hs) ∧ Hid (WS ps hs (runM out)) ∧ Hid (ps.length ≤ 20000 + j) ∧ Hid (Below w.heap.size w wr)) (fun i _ => l.length - (intOf i).toNat)
          case atStart => exact ⟨0, vp, ps, vh, hs, by omega, rfl, HW, HS, by show _ ≤ _; have := HZ.out; have := HLO.out; omega, HB⟩
          case round =>
            clear HW HS HZ HB hsz2
            obtain ⟨wb, rfl⟩ : ∃ wb : World, wb = wr := ⟨_, rfl⟩
            obtain ⟨j, vp, ps, vh, hs, hj, rfl, HW, HS, HZ, HB⟩ := hrel
            have hsz2 := HB.out.size
            by_cases hlt : j < l.length
            · rcases HV.out.split with ⟨a, c, h0, rfl⟩ | ⟨b, off, c, h0, hp, hlc, hc9, hb, hcell⟩
              · simp at hlt
              · simp only [Value.slice.injEq] at h0
                obtain ⟨rfl, -, rfl⟩ := h0
                obtain ⟨d1, d2⟩ := hcell j hlt
                rw [← HB.out.cell (p := ⟨b, off + j * 2, none⟩) hb] at d1
                rw [← HB.out.cell (p := ⟨b, off + j * 2 + 1, none⟩) hb] at d2
                have hbr : b < wb.heap.size := Nat.lt_of_lt_of_le hb hsz2
                have HG := Lib.hid (HP.out.gets _ (List.getElem_mem hlt))
                obtain ⟨⟨x, y⟩, hx⟩ : ∃ x, l[j] = x := ⟨_, rfl⟩
                rw [hx] at d1 d2 HG
                simp only at d1 d2 HG
                clear hx hcell
                have HW1 := Lib.hid (HW.out.alloc (.cells #[.int .i64 x, .int .i64 y] 31))
                have HM1 := Lib.hid (heap_alloc_new wb (.cells #[.int .i64 x, .int .i64 y] 31))
                have HB1' : Hid (Below w.heap.size w (wb.alloc (.cells #[.int .i64 x, .int .i64 y] 31))) := HB.out.alloc hsz2 _
                have hl1 := HLL.out
                have HA := Lib.hid (fun p => at_any p (wb.alloc (.cells #[.int .i64 x, .int .i64 y] 31)) w.heap.size wa.heap.size vp ps vh hs _ HW1.out HS.out (by have := HZ.out; omega) (by simp; omega))
                clear hl1
                go_wp2_with fail
                refine (HA.out x).mono ?_
                rintro e w5 ⟨i5, vp5, ps5, vh5, hs5, rfl, hw5, hws5, hp5, hq5, hb5, hk5⟩
                have hm5 := hk5 _ _ HM1.out (fun _ _ => cells_ne (by decide)) (fun _ _ => cells_ne (by decide))
                have m1 := cell_of_heap (o := 0) hm5 rfl
                have m2 := cell_of_heap (o := 1) hm5 rfl
                obtain ⟨hi5, e5⟩ := List.getElem?_eq_some_iff.1 hp5
                have hh5 : i5 < hs5.length := by have := hws5.len; omega
                have hval := hws5.has i5 hi5
                rw [e5, HG.out, List.getElem?_eq_getElem hh5] at hval
                obtain ⟨g, c, rfl, t1, t2, t3, t4, t5, cur, t6⟩ := ownI_at hw5.oh hh5
                rw [Option.some.inj hval] at t1
                obtain ⟨p1, p2, p3, p4⟩ := hw5.cells
                have HW5 := Lib.hid hw5
                have HS5 := Lib.hid hws5
                have HZ5 : Hid (ps5.length ≤ 20000 + (j + 1)) := by show _ ≤ _; have := HZ.out; rcases hq5 with h | h <;> rw [h] <;> simp <;> omega
                have HB5 := Lib.hid (HB1'.out.trans hb5)
                clear hw5 hws5 hp5 hq5 hb5 hk5 hm5 hi5 e5 hval t6 HA HW1 HM1 HB1'
                go_wp2_with fail
                go_quiet (fail)
                go_wp2_with fail
                exact ⟨⟨j + 1, _, ps5, _, _, by omega, by go_num, HW5.out.drewN _, HS5, HZ5, Go.below_drewN HB5.out _⟩, by simp [intOf]; omega⟩
            · obtain rfl : j = l.length := by omega
              obtain ⟨pa, pc, rfl⟩ := ownI_shape HW.out.op
              obtain ⟨p1, p2, p3, p4⟩ := HW.out.cells
              have hBlt := HW.out.blt
              go_wp2_with fail
              go_loopw [114] (fun i wr => ∃ j : Nat, j ≤ ps.length ∧ i = .int .i64 j ∧ Hid (WD wr w.heap.size wa.heap.size (.slice pa ps.length pc) ps vh hs) ∧ Hid (Below w.heap.size w wr)) (fun i _ => ps.length - (intOf i).toNat)
              case atStart => exact ⟨0, by omega, rfl, HW, HB⟩
              case round =>
                clear HW HB p1 p2 p3 p4 hsz2 hBlt
                obtain ⟨wc, rfl⟩ : ∃ wc : World, wc = wr := ⟨_, rfl⟩
                obtain ⟨j, hj, rfl, HW, HB⟩ := hrel
                have hsz3 := HB.out.size
                by_cases hlt : j < ps.length
                · obtain ⟨g, c, h0, t1, t2, t3, t4, t5, cur, t6⟩ := ownI_at HW.out.op hlt
                  simp only [Value.slice.injEq] at h0
                  obtain ⟨rfl, -, rfl⟩ := h0
                  have hvals := HS.out.has j hlt
                  have hrest := HP.out.rest ps[j]
                  obtain ⟨p, hpj⟩ : ∃ p, ps[j] = p := ⟨_, rfl⟩
                  rw [hpj] at t1 hvals hrest
                  have HVals := Lib.hid hvals
                  have HRest := Lib.hid hrest
                  obtain ⟨g0, hg0⟩ : ∃ g0, (p == spare) = g0 := ⟨_, rfl⟩
                  have HG0 := Lib.hid hg0
                  clear hpj hvals hrest t6
                  go_wp2_with fail
                  go_loopw [124, 20] (fun i s20 wr => ∃ k : Nat, k ≤ l.length ∧ i = .int .i64 k ∧ s20 = .bool (g0 || anyTo (l.take k) p) ∧ Hid (WD wr w.heap.size wa.heap.size (.slice (some ⟨g, 0, none⟩) ps.length pc) ps vh hs) ∧ Hid (Below w.heap.size w wr)) (fun i _ _ => l.length - (intOf i).toNat)
                  case atStart => exact ⟨0, by omega, rfl, by simp [anyTo], HW, HB⟩
                  case round =>
                    clear HW HB t1 t2 t3 hsz3 hg0
                    obtain ⟨k, hk, rfl, rfl, HW, HB⟩ := hrel
                    have hsz3 := HB.out.size
                    by_cases hkl : k < l.length
                    · rcases HV.out.split with ⟨a, c, h0, rfl⟩ | ⟨b, off, c, h0, hp, hlc, hc9, hb, hcell⟩
                      · simp at hkl
                      · simp only [Value.slice.injEq] at h0
                        obtain ⟨rfl, -, rfl⟩ := h0
                        obtain ⟨d1, d2⟩ := hcell k hkl
                        rw [← HB.out.cell (p := ⟨b, off + k * 2, none⟩) hb] at d1
                        rw [← HB.out.cell (p := ⟨b, off + k * 2 + 1, none⟩) hb] at d2
                        have hbr : b < wr.heap.size := Nat.lt_of_lt_of_le hb hsz3
                        have HX := Lib.hid (anyTo_succ hkl p)
                        obtain ⟨⟨x, y⟩, hx⟩ : ∃ x, l[k] = x := ⟨_, rfl⟩
                        rw [hx] at d1 d2 HX
                        simp only at d1 d2 HX
                        obtain ⟨q, hq⟩ : ∃ q, (g0 || anyTo (l.take k) p) = q := ⟨_, rfl⟩
                        have HQN : Hid ((g0 || anyTo (l.take (k + 1)) p) = (q || (x == p))) := by show _ = _; rw [HX.out, ← hq, Bool.or_assoc]
                        rw [hq]
                        clear hx hcell hq
                        have HW2 := Lib.hid (HW.out.alloc (.cells #[.int .i64 x, .int .i64 y] 31))
                        have HB2 := Lib.hid (HB.out.alloc hsz3 (.cells #[.int .i64 x, .int .i64 y] 31))
                        cases q
                        · by_cases hxp : x = p
                          · have b1 : (x == p) = true := by simp [hxp]
                            have HE : Hid ((g0 || anyTo (l.take (k + 1)) p) = true) := by show _ = _; rw [HQN.out, b1]; rfl
                            clear hxp
                            go_wp2_with fail
                            exact ⟨⟨k + 1, by omega, by go_num, by rw [HE.out], HW2, HB2⟩, by simp [intOf]; omega⟩
                          · have b1 : (x == p) = false := by simp [hxp]
                            have HE : Hid ((g0 || anyTo (l.take (k + 1)) p) = false) := by show _ = _; rw [HQN.out, b1]; rfl
                            clear hxp
                            go_wp2_with fail
                            exact ⟨⟨k + 1, by omega, by go_num, by rw [HE.out], HW2, HB2⟩, by simp [intOf]; omega⟩
                        · have HE : Hid ((g0 || anyTo (l.take (k + 1)) p) = true) := by show _ = _; rw [HQN.out]; rfl
                          go_wp2_with fail
                          exact ⟨⟨k + 1, by omega, by go_num, by rw [HE.out], HW2, HB2⟩, by simp [intOf]; omega⟩
                    · obtain rfl : k = l.length := by omega
                      simp only [List.take_length]
                      obtain ⟨p1, p2, p3, p4⟩ := HW.out.cells
                      cases hq : (g0 || anyTo l p)
                      · have hh : j < hs.length := by have := HS.out.len; omega
                        have hv2 := HVals.out
                        rw [Bool.or_eq_false_iff] at hq
                        rw [HRest.out (by have := HG0.out; rw [hq.1] at this; simpa using this) (new_of_anyTo hq.2), List.getElem?_eq_getElem hh] at hv2
                        obtain ⟨gh, c, rfl, t1, t2, t3, t4, t5, cur, t6⟩ := ownI_at HW.out.oh hh
                        rw [Option.some.inj hv2] at t1
                        clear hq hv2 t6
                        go_wp2_with fail
                        exact ⟨⟨j + 1, by omega, by go_num, HW, HB⟩, by simp [intOf]; omega⟩
                      · clear hq
                        go_wp2_with fail
                        exact ⟨⟨j + 1, by omega, by go_num, HW, HB⟩, by simp [intOf]; omega⟩
                · obtain rfl : j = ps.length := by omega
                  go_wp2_with fail
                  go_ret
                  exact ⟨rfl, HB.out⟩
end Go.Proofs.Ytmdmfciicoldoaa
