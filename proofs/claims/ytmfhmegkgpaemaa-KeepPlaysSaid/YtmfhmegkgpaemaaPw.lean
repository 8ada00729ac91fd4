/- Keep: KeepPlays, the walk. -/
import Derived.Test.YtmfhmegkgpaemaaPo
import Derived.Deep.DeepCutAuto
namespace Go.Proofs.Ytmfhmegkgpaemaa
open Go.RowKit

theorem RAt.base {w : World} {base base' Bs : Nat} {most : Int} {v : Value} {l : List Mo} {S : Ms} (h : RAt w base Bs most v l S) (hb : base' ≤ base) : RAt w base' Bs most v l S := by
  have ho : ∀ {e : TypeId} {size n : Nat} {u : Value} {xs : List Value}, w.ownsRow base e size u n xs → w.ownsRow base' e size u n xs := by
    intro e size n u xs h
    refine ⟨h.1, ?_⟩
    rcases h.2 with h | ⟨g', c', cur', e1, e2, e3⟩
    · exact .inl h
    · exact .inr ⟨g', c', cur', e1, Nat.le_trans hb e2, e3⟩
  exact RAt.mk' h.at_ (Nat.le_trans hb h.lb) (ho h.row) (Prs.of h.len fun i h1 h2 => ⟨h.ats i h1 h2, ho (h.ps i h1 h2)⟩)
theorem rd_cap {w : World} {a : Option Addr} {n c : Nat} {l : List Int} (h : RdB w (.slice a n c) l) : l.length ≤ c := by
  rcases h.2 with ⟨h1, h2⟩ | ⟨a', c', h1, h2, -⟩
  · omega
  · cases h1; exact h2
theorem sum_le : ∀ {L : Ms}, (∀ m ∈ L, m.2.length ≤ 1000000) → sumB L ≤ L.length * 1000000
  | [], _ => by simp [sumB]
  | a :: L, h => by
    have h1 := sum_le (L := L) (fun m hm => h m (by simp [hm]))
    have h2 := h a (by simp)
    have e : sumB (a :: L) = a.2.length + sumB L := rfl
    rw [e, List.length_cons]
    omega
theorem at_list {w : World} {a : Option Addr} {n c : Nat} {xs : List Int} (h : RdI w (.slice a n c) xs) (hn : n = xs.length) {k : Nat} (hk : k < n) : ∃ b off, a = some ⟨b, off, none⟩ ∧ b < w.heap.size ∧ w.cell? ⟨b, off + k, none⟩ = some (.int .i64 (xs[k]'(by omega))) := by
  subst hn
  rcases Rd.split h (by decide) with ⟨a', c', h0, h3, -⟩ | ⟨b, off, c', h0, h3, h4, h5, h6, h7⟩
  · omega
  · cases h0
    have := h7 k (by simpa using hk)
    exact ⟨b, off, rfl, h6, by simpa using this⟩
theorem live_lt {w : World} {base k : Nat} {xv : Value} {most : Int} (h : Live w base (.pointer (some ⟨k, 0, none⟩)) xv most) : k < w.heap.size := by
  rcases h with ⟨h, -⟩ | ⟨S, hG, ⟨B, v, l, h1, h2⟩, -⟩
  · cases h
  · cases h1; exact h2.lt
theorem list_n2 (w : World) (base Bs : Nat) (most : Int) (S : Ms) (n : Nat) (h : KSt w base Bs most S) (hn : S.length = n) (hl : n ≤ 1000) :
    Calls Try.prog 10 #[.pointer (some ⟨Bs, 0, none⟩)] w fun e w' => ∃ a c, e = .returned (.slice a n c) ∧ RdI w' (.slice a n c) (S.map (·.1)) ∧ Below w.heap.size w w' := by
  refine (list_k w base Bs most S h (by omega)).mono ?_
  rintro e w' ⟨u, rfl, hu, hb⟩
  obtain ⟨a, c, rfl⟩ := (Rd.of_own hu).shape
  have hml : (S.map (·.1)).length = n := by rw [List.length_map]; exact hn
  have h2 : RdI w' _ _ := Rd.of_own hu
  rw [hml] at h2 ⊢
  exact ⟨a, c, rfl, h2, hb⟩

theorem Live.later {w w' : World} {base : Nat} {sv xv : Value} {most : Int} (h : Live w base sv xv most) (hb : Below w.heap.size w w') : Live w' base sv xv most := by
  rcases h with h | ⟨S, hG, ⟨B, v, l, h1, h2⟩, ⟨R, v2, l2, h3, h4⟩⟩
  · exact .inl h
  · exact .inr ⟨S, hG, ⟨B, v, l, h1, h2.later hb⟩, ⟨R, v2, l2, h3, h4.later hb⟩⟩
set_option maxRecDepth 100000 in
set_option maxHeartbeats 4000000 in
theorem keepPlays_walk (most : Int) (va : Value) (la : List Ox) (w : World) (ha : RdX w va la) (hop : ∀ o ∈ la, RdB w o.p o.pb ∧ isB o.pb ∧ -9223372036854775808 ≤ o.ch ∧ o.ch ≤ 9223372036854775807) :
    Calls Try.prog 5 #[.int .i64 most, va] w fun e w' => e = .returned (.bool true) ∧ Below w.heap.size w w' := by
  obtain ⟨i0, hi, hz0, hz1, hz2⟩ := info_parts infoB
  have HI : Hid _ := And.intro hi (And.intro hz0 (And.intro hz1 hz2))
  have HA := Lib.hid ha
  have HO := Lib.hid hop
  have hle1 := ha.le
  obtain ⟨aa, ac, rfl⟩ := Rd.shape ha
  clear ha hop hi hz0 hz1 hz2
  go_enter Try.func5, Try.ntmps5
  go_wp2_with fail
  refine (awake_any w).mono ?_
  rintro e w1 ⟨rfl, hb⟩
  have HB1 := Lib.hid hb
  clear hb
  go_wp2_with fail
  have hs1 : w.heap.size ≤ w1.heap.size := HB1.out.size
  by_cases hr : 1 ≤ most ∧ most ≤ 64
  · refine (new_any most w1).mono ?_
    rintro e w2 (⟨-, rfl, hst, hb2⟩ | ⟨h, -⟩)
    case inr => exact absurd hr h
    have H2 : Hid (StAt w2 w1.heap.size w1.heap.size most (.slice none 0 0) [] [] ∧ Below w1.heap.size w1 w2) := ⟨hst, hb2⟩
    clear hst hb2
    go_wp2_with fail
    refine (refNew_any most w2).mono ?_
    rintro e w3 (⟨-, rfl, hst, hb3⟩ | ⟨h, -⟩)
    case inr => exact absurd hr h
    have H3 : Hid (Live w3 w1.heap.size (.pointer (some ⟨w1.heap.size, 0, none⟩)) (.pointer (some ⟨w2.heap.size, 0, none⟩)) most ∧ Below w.heap.size w w3) :=
      ⟨.inr ⟨[], ⟨hr, ris_nil, by simp; omega, by simp⟩, ⟨_, _, _, rfl, H2.out.1.later hb3⟩, ⟨_, _, _, rfl, hst.base H2.out.2.size⟩⟩, HB1.out.trans ((H2.out.2.trans (hb3.mono H2.out.2.size)).mono hs1)⟩
    clear hst hb3 HB1 H2
    go_wp2_with fail
    go_loopw [39] (fun i wr => ∃ j : Nat, j ≤ la.length ∧ i = .int .i64 j ∧ Hid (Live wr w1.heap.size (.pointer (some ⟨w1.heap.size, 0, none⟩)) (.pointer (some ⟨w2.heap.size, 0, none⟩)) most ∧ Below w.heap.size w wr)) (fun i _ => la.length - (intOf i).toNat)
    case atStart => exact ⟨0, by omega, rfl, H3⟩
    case round =>
      clear H3
      obtain ⟨wa, rfl⟩ : ∃ wa : World, wa = wr := ⟨_, rfl⟩
      obtain ⟨j, hj, rfl, HH⟩ := hrel
      by_cases hlt : j < la.length
      · obtain ⟨b, off, c, h0, hb, d0, d1, d2, d3⟩ := RdX.split (HA.out.later HH.out.2) hlt
        simp only [Value.slice.injEq] at h0
        obtain ⟨rfl, _, rfl⟩ := h0
        obtain ⟨hp, hpB, hch⟩ := HO.out _ (List.getElem_mem hlt)
        obtain ⟨⟨kd, at_, p, pb, ch⟩, ho⟩ : ∃ o, o = la[j] := ⟨_, rfl⟩
        rw [← ho] at d0 d1 d2 d3 hp hpB hch
        simp only at d0 d1 d2 d3 hp hpB hch
        obtain ⟨pa, pc, rfl⟩ := Rd.shape hp
        have HP := Lib.hid (And.intro hp hpB)
        clear ho hp hpB
        by_cases h80 : 80 ≤ j
        · have hd : decide (80 ≤ (j : Int)) = true := decide_eq_true (by omega)
          go_wp2_with fail
          go_ret
          exact ⟨rfl, HH.out.2.alloc HH.out.2.size _⟩
        · have hd : decide (80 ≤ (j : Int)) = false := decide_eq_false (by omega)
          go_upto_region 11 with fail
          go_cut [] (fun wx => ∃ n : Nat, wx = wa.alloc (.cells #[.int .u8 kd, .int .i64 at_, .slice pa n pc, .int .i64 ch] 41) ∧ Hid (n = (pb.take 200).length))
          case first =>
            have hcap := rd_cap HP.out.1
            by_cases h200 : (pb.length : Int) ≤ 200
            · have hsl := fun W => run_slice_to (P := Try.prog) 29 5 Try.underlying29 HI.out.1 HI.out.2.2.1 pa pb.length pc pb.length _ rfl hcap W
              go_wp2_with fail
              go_meet
              exact ⟨pb.length, rfl, show pb.length = (pb.take 200).length by rw [List.length_take]; omega⟩
            · have hsl := fun W => run_slice_to (P := Try.prog) 29 5 Try.underlying29 HI.out.1 HI.out.2.2.1 pa pb.length pc 200 (200 : Int) rfl (by omega) W
              go_wp2_with fail
              go_meet
              exact ⟨200, rfl, show 200 = (pb.take 200).length by rw [List.length_take]; omega⟩
          case rest =>
            obtain ⟨n, rfl, HNN⟩ := hcut
            have hBx : Below wa.heap.size wa (wa.alloc (.cells #[.int .u8 kd, .int .i64 at_, .slice pa n pc, .int .i64 ch] 41)) := (Below.refl _ _).alloc (Nat.le_refl _) _
            have HPL := Lib.hid (play_any kd at_ ch (.slice pa n pc) (pb.take 200) _ w1.heap.size _ _ most (HH.out.1.later hBx) (Nat.le_of_lt (Nat.lt_of_lt_of_le (live_lt HH.out.1) hBx.size)) (fun V hV => by
              have h1 : RdB V (.slice pa pb.length pc) pb := Rd.later HP.out.1 ((HH.out.2.trans (hBx.mono HH.out.2.size)).trans (hV.mono hs1))
              have h2 := Rd.take (k := n) h1 (by have := HNN.out; rw [List.length_take] at this; omega)
              have e : (pb.map (Value.int .u8)).take (n * 1) = (pb.take 200).map (Value.int .u8) := by
                rw [HNN.out, List.map_take, List.length_take, Nat.mul_one, List.take_eq_take_iff, List.length_map]; omega
              rw [e] at h2
              unfold RdB
              rw [← HNN.out]
              exact h2) (by rw [List.length_take]; omega) (fun x hx => HP.out.2 x (List.mem_of_mem_take hx)) hch)
            have HBX := Lib.hid hBx
            clear hBx
            go_wp2_with fail
            refine HPL.out.mono ?_
            rintro e w5 ⟨rfl, hl5, hb5⟩
            have H5 : Hid (Live w5 w1.heap.size (.pointer (some ⟨w1.heap.size, 0, none⟩)) (.pointer (some ⟨w2.heap.size, 0, none⟩)) most ∧ Below w.heap.size w w5) := ⟨hl5, (HH.out.2.trans (HBX.out.mono HH.out.2.size)).trans (hb5.mono hs1)⟩
            clear hl5 hb5 HPL HBX HNN
            rcases H5.out.1 with ⟨h, -⟩ | ⟨S, hG, ⟨B, v, l, hB1, hS⟩, ⟨R, v2, l2, hB2, hR2⟩⟩
            · cases h
            · obtain rfl : w1.heap.size = B := by cases hB1; rfl
              obtain rfl : w2.heap.size = R := by cases hB2; rfl
              obtain ⟨n0, hn0⟩ : ∃ n0, S.length = n0 := ⟨_, rfl⟩
              have hn64 : (n0 : Int) ≤ most := by rw [← hn0]; exact hG.2.2.1
              have HG := Lib.hid hG
              have HN := Lib.hid hn0
              have HS := Lib.hid hS
              have HR := Lib.hid hR2
              clear hB1 hB2 hG hn0 hS hR2
              have hmost := HG.out.1.2
              go_wp2_with fail
              refine (list_n2 w5 w1.heap.size w1.heap.size most S n0 ⟨_, _, HS.out⟩ HN.out (by omega)).mono ?_
              rintro e w6 ⟨a1, c1, rfl, hu, hb6⟩
              have HU6 : Hid (RdI w6 (.slice a1 n0 c1) (S.map (·.1)) ∧ Below w5.heap.size w5 w6) := ⟨hu, hb6⟩
              clear hu hb6
              go_wp2_with fail
              refine (bytes_k w6 w1.heap.size w1.heap.size most S ⟨_, _, HS.out.later HU6.out.2⟩ (by have := HN.out; omega) (fun m hm => (HG.out.2.2.2 m hm).1)).mono ?_
              rintro e w7 ⟨rfl, hb7⟩
              have HU7 : Hid (RdI w7 (.slice a1 n0 c1) (S.map (·.1)) ∧ RAt w7 w1.heap.size w2.heap.size most v2 l2 S ∧ Below w5.heap.size w5 w7) := ⟨Rd.later HU6.out.1 hb7, HR.out.later (HU6.out.2.trans (hb7.mono HU6.out.2.size)), HU6.out.2.trans (hb7.mono HU6.out.2.size)⟩
              clear hb7 HU6
              have c0 : w7.cell? ⟨w2.heap.size, 0, none⟩ = some (.int .i64 most) := by simp [World.cell?, HU7.out.2.1.at_]
              have c2 : w7.cell? ⟨w2.heap.size, 1, none⟩ = some v2 := by simp [World.cell?, HU7.out.2.1.at_]
              obtain ⟨xa, xc, rfl⟩ := (Rd.of_own HU7.out.2.1.row).shape
              have hl2 : l2.length = n0 := by rw [HU7.out.2.1.len]; exact HN.out
              rw [hl2] at HU7 c2
              have HL2 := Lib.hid hl2
              obtain ⟨R0, hR0⟩ : ∃ R0 : Int, (sumB S : Int) = R0 := ⟨_, rfl⟩
              rw [hR0]
              have HR0 := Lib.hid hR0
              have b1 : decide (most < (n0 : Int)) = false := decide_eq_false (by omega)
              clear hl2 hR0
              go_wp2_with fail
              go_loopw [91, 12] (fun i r wr => ∃ (k : Nat) (Q : Int), k ≤ n0 ∧ i = .int .i64 k ∧ r = .int .i64 Q ∧ Hid (Q = (sumB (S.drop k) : Nat)) ∧ Hid (Below w7.heap.size w7 wr)) (fun i _ _ => n0 - (intOf i).toNat)
              case atStart => exact ⟨0, R0, by omega, rfl, rfl, by rw [← HR0.out]; rfl, Below.refl _ _⟩
              case round =>
                obtain ⟨wb, rfl⟩ : ∃ wb : World, wb = wr := ⟨_, rfl⟩
                obtain ⟨k, Q, hk, rfl, rfl, HQ, HB7⟩ := hrel
                have hszb := HB7.out.size
                by_cases hkn : k < n0
                · have hkS : k < S.length := by rw [HN.out]; exact hkn
                  have hkl : k < l2.length := by rw [HL2.out]; exact hkn
                  obtain ⟨b1, o1, rfl, q1, d4⟩ := at_list HU7.out.1 (by rw [List.length_map]; exact HN.out.symm) hkn
                  rw [List.getElem_map] at d4
                  rcases (show RdO w7 (.slice xa n0 xc) l2 from Rd.of_own HU7.out.2.1.row).split with ⟨a, c, h0, h1⟩ | ⟨b2, o2, c', h0, hp, hlc, hc9, hb2, hcell⟩
                  · rw [h1] at hkl; simp at hkl
                  · simp only [Value.slice.injEq] at h0
                    obtain ⟨rfl, _, rfl⟩ := h0
                    obtain ⟨d5, d6⟩ := hcell k hkl
                    have hxy := HU7.out.2.1.ats k hkl hkS
                    obtain ⟨ra, rc, hpp⟩ := (Rd.of_own (HU7.out.2.1.ps k hkl hkS)).shape
                    rw [hxy] at d5
                    rw [hpp] at d6
                    rw [← HB7.out.cell (p := ⟨b1, o1 + k, none⟩) q1] at d4
                    rw [← HB7.out.cell (p := ⟨b2, o2 + k * 2, none⟩) hb2] at d5
                    rw [← HB7.out.cell (p := ⟨b2, o2 + k * 2 + 1, none⟩) hb2] at d6
                    have hbr1 : b1 < wb.heap.size := Nat.lt_of_lt_of_le q1 hszb
                    have hbr2 : b2 < wb.heap.size := Nat.lt_of_lt_of_le hb2 hszb
                    obtain ⟨z, hz⟩ : ∃ z, S[k].1 = z := ⟨_, rfl⟩
                    obtain ⟨qn, hqn⟩ : ∃ qn, S[k].2.length = qn := ⟨_, rfl⟩
                    rw [hz] at d4 d5
                    rw [hqn] at d6
                    have hsd : sumB (S.drop k) = qn + sumB (S.drop (k + 1)) := by rw [List.drop_eq_getElem_cons hkS, ← hqn]; rfl
                    have hsb := sum_le (L := S.drop k) (fun m hm => (HG.out.2.2.2 m (List.mem_of_mem_drop hm)).1)
                    rw [List.length_drop, HN.out] at hsb
                    have hQ0 : 0 ≤ Q := by rw [HQ.out]; omega
                    have hQ1 : Q ≤ 64000000 := by rw [HQ.out]; omega
                    have hqq : (qn : Int) ≤ Q := by rw [HQ.out, hsd]; omega
                    have HSD := Lib.hid hsd
                    clear hz hqn hpp hxy hcell hsd hsb hp hlc hc9
                    go_upto_region 23 with fail
                    go_cut [102] (fun s102 wx => s102 = .bool false ∧ ∃ nq, wx = (wb.alloc (.cells #[.int .i64 z, .slice ra qn rc] 47)).drewN nq)
                    case first =>
                      go_quiet (fail)
                      go_wp2_with fail
                      go_meet
                      exact ⟨rfl, _, rfl⟩
                    case rest =>
                      obtain ⟨rfl, nq, rfl⟩ := hcut
                      go_wp2_with fail
                      refine ⟨⟨k + 1, Q - qn, by omega, by go_num, rfl, ?_, below_drewN (HB7.out.alloc hszb _) nq⟩, by simp [intOf]; omega⟩
                      show Q - qn = _
                      rw [HQ.out, HSD.out]; omega
                · have hQz : Q = 0 := by
                    rw [HQ.out, List.drop_eq_nil_of_le (by rw [HN.out]; omega)]; rfl
                  subst hQz
                  go_wp2_with fail
                  refine ⟨⟨j + 1, by omega, by go_num, H5.out.1.later (HU7.out.2.2.trans (HB7.out.mono HU7.out.2.2.size)), H5.out.2.trans ((HU7.out.2.2.trans (HB7.out.mono HU7.out.2.2.size)).mono H5.out.2.size)⟩, by simp [intOf]; omega⟩
      · go_wp2_with fail
        go_ret
        exact ⟨rfl, HH.out.2⟩
  · refine (new_any most w1).mono ?_
    rintro e w2 (⟨h, -⟩ | ⟨-, rfl, rfl⟩)
    case inl => exact absurd h hr
    go_wp2_with fail
    refine (refNew_any most w2).mono ?_
    rintro e w3 (⟨h, -⟩ | ⟨-, rfl, rfl⟩)
    case inl => exact absurd h hr
    have H3 : Hid (Live w3 w3.heap.size (.pointer none) (.pointer none) most ∧ Below w.heap.size w w3 ∧ w3.heap.size ≤ w3.heap.size) := ⟨.inl ⟨rfl, rfl⟩, HB1.out, Nat.le_refl _⟩
    clear HB1
    go_wp2_with fail
    go_loopw [39] (fun i wr => ∃ j : Nat, j ≤ la.length ∧ i = .int .i64 j ∧ Hid (Live wr w3.heap.size (.pointer none) (.pointer none) most ∧ Below w.heap.size w wr ∧ w3.heap.size ≤ wr.heap.size)) (fun i _ => la.length - (intOf i).toNat)
    case atStart => exact ⟨0, by omega, rfl, H3⟩
    case round =>
      clear H3
      obtain ⟨wa, rfl⟩ : ∃ wa : World, wa = wr := ⟨_, rfl⟩
      obtain ⟨j, hj, rfl, HH⟩ := hrel
      by_cases hlt : j < la.length
      · obtain ⟨b, off, c, h0, hb, d0, d1, d2, d3⟩ := RdX.split (HA.out.later HH.out.2.1) hlt
        simp only [Value.slice.injEq] at h0
        obtain ⟨rfl, _, rfl⟩ := h0
        obtain ⟨hp, hpB, hch⟩ := HO.out _ (List.getElem_mem hlt)
        obtain ⟨⟨kd, at_, p, pb, ch⟩, ho⟩ : ∃ o, o = la[j] := ⟨_, rfl⟩
        rw [← ho] at d0 d1 d2 d3 hp hpB hch
        simp only at d0 d1 d2 d3 hp hpB hch
        obtain ⟨pa, pc, rfl⟩ := Rd.shape hp
        have HP := Lib.hid (And.intro hp hpB)
        clear ho hp hpB
        by_cases h80 : 80 ≤ j
        · have hd : decide (80 ≤ (j : Int)) = true := decide_eq_true (by omega)
          go_wp2_with fail
          go_ret
          exact ⟨rfl, HH.out.2.1.alloc HH.out.2.1.size _⟩
        · have hd : decide (80 ≤ (j : Int)) = false := decide_eq_false (by omega)
          go_upto_region 11 with fail
          go_cut [] (fun wx => ∃ n : Nat, wx = wa.alloc (.cells #[.int .u8 kd, .int .i64 at_, .slice pa n pc, .int .i64 ch] 41) ∧ Hid (n = (pb.take 200).length))
          case first =>
            have hcap := rd_cap HP.out.1
            by_cases h200 : (pb.length : Int) ≤ 200
            · have hsl := fun W => run_slice_to (P := Try.prog) 29 5 Try.underlying29 HI.out.1 HI.out.2.2.1 pa pb.length pc pb.length _ rfl hcap W
              go_wp2_with fail
              go_meet
              exact ⟨pb.length, rfl, show pb.length = (pb.take 200).length by rw [List.length_take]; omega⟩
            · have hsl := fun W => run_slice_to (P := Try.prog) 29 5 Try.underlying29 HI.out.1 HI.out.2.2.1 pa pb.length pc 200 (200 : Int) rfl (by omega) W
              go_wp2_with fail
              go_meet
              exact ⟨200, rfl, show 200 = (pb.take 200).length by rw [List.length_take]; omega⟩
          case rest =>
            obtain ⟨n, rfl, HNN⟩ := hcut
            have hBx : Below wa.heap.size wa (wa.alloc (.cells #[.int .u8 kd, .int .i64 at_, .slice pa n pc, .int .i64 ch] 41)) := (Below.refl _ _).alloc (Nat.le_refl _) _
            have HPL := Lib.hid (play_any kd at_ ch (.slice pa n pc) (pb.take 200) _ w3.heap.size _ _ most (HH.out.1.later hBx) (Nat.le_trans HH.out.2.2 hBx.size) (fun V hV => by
              have h1 : RdB V (.slice pa pb.length pc) pb := Rd.later HP.out.1 ((HH.out.2.1.trans (hBx.mono HH.out.2.1.size)).trans (hV.mono hs1))
              have h2 := Rd.take (k := n) h1 (by have := HNN.out; rw [List.length_take] at this; omega)
              have e : (pb.map (Value.int .u8)).take (n * 1) = (pb.take 200).map (Value.int .u8) := by
                rw [HNN.out, List.map_take, List.length_take, Nat.mul_one, List.take_eq_take_iff, List.length_map]; omega
              rw [e] at h2
              unfold RdB
              rw [← HNN.out]
              exact h2) (by rw [List.length_take]; omega) (fun x hx => HP.out.2 x (List.mem_of_mem_take hx)) hch)
            have HBX := Lib.hid hBx
            clear hBx
            go_wp2_with fail
            refine HPL.out.mono ?_
            rintro e w5 ⟨rfl, hl5, hb5⟩
            have H5 : Hid (Live w5 w3.heap.size (.pointer none) (.pointer none) most ∧ Below w.heap.size w w5 ∧ w3.heap.size ≤ w5.heap.size) := ⟨hl5, (HH.out.2.1.trans (HBX.out.mono HH.out.2.1.size)).trans (hb5.mono hs1), Nat.le_trans HH.out.2.2 (Nat.le_trans HBX.out.size hb5.size)⟩
            clear hl5 hb5 HPL HBX HNN
            go_wp2_with fail
            refine (list_nil w5).mono ?_
            rintro e w6 ⟨rfl, rfl⟩
            go_wp2_with fail
            refine (bytes_nil w6).mono ?_
            rintro e w7 ⟨rfl, rfl⟩
            go_wp2_with fail
            exact ⟨⟨j + 1, by omega, by go_num, H5.out⟩, by simp [intOf]; omega⟩
      · go_wp2_with fail
        go_ret
        exact ⟨rfl, HH.out.2.1⟩
end Go.Proofs.Ytmfhmegkgpaemaa
