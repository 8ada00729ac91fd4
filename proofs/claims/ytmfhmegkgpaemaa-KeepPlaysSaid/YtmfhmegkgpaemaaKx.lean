/- Keep: the document's Put. -/
import Derived.Test.YtmfhmegkgpaemaaKw
import Derived.Deep.DeepCutAuto
import Derived.Deep.CutBlock
namespace Go.Proofs.Ytmfhmegkgpaemaa
open Go.RowKit

theorem Prs.filter {w : World} {base : Nat} (p : Int → Bool) : ∀ {l : List Mo} {S : Ms}, Prs w base l S → Prs w base (l.filter fun m => p m.1) (S.filter fun m => p m.1)
  | [], [], _ => trivial
  | m :: l, s :: S, h => by
    have e : m.1 = s.1 := h.1.1
    rw [List.filter_cons, List.filter_cons, e]
    split
    · exact ⟨h.1, Prs.filter p h.2⟩
    · exact Prs.filter p h.2
theorem filter_step (l : List Mo) (j : Nat) (p : Mo → Bool) (h : j < l.length) : (l.take (j + 1)).filter p = (l.take j).filter p ++ (if p l[j] = true then [l[j]] else []) := by
  rw [List.take_succ_eq_append_getElem h, List.filter_append]
  congr 1
  rw [List.filter_cons]; rfl
theorem refPut_neg (x : Int) (pv : Value) (choice : Int) (w : World) (Bs : Nat) (hx : x < 0) (hp : ∃ a n c, pv = .slice a n c) :
    Calls Try.prog 18 #[.pointer (some ⟨Bs, 0, none⟩), .int .i64 x, pv, .int .i64 choice] w fun e w' => e = .returned (.int .i64 1) ∧ w' = w := by
  have hxx : decide (x < 0) = true := decide_eq_true hx
  obtain ⟨pa, n, pc, rfl⟩ := hp
  go_enter Try.func18, Try.ntmps18
  go_wp2_with fail
  go_ret
  exact ⟨rfl, rfl⟩

set_option maxRecDepth 100000 in
set_option maxHeartbeats 4000000 in
theorem refPut_any (x : Int) (pv : Value) (pb : List Int) (choice : Int) (w : World) (base Bs : Nat) (most : Int) (v : Value) (l : List Mo) (S : Ms) (h : RAt w base Bs most v l S) (hR : RisS S) (hl : S.length ≤ 1000) (hm : 1 ≤ most) (hp : RdB w pv pb) (hpl : pb.length ≤ 1000000) (hx0 : 0 ≤ x) (hbase : base ≤ w.heap.size) (hch : -9223372036854775808 ≤ choice ∧ choice ≤ 9223372036854775807) :
    Calls Try.prog 18 #[.pointer (some ⟨Bs, 0, none⟩), .int .i64 x, pv, .int .i64 choice] w fun e w' =>
      e = .returned (.int .i64 0) ∧ (∃ v' l', RAt w' base Bs most v' l' (putS most S x pb choice) ∧ fromL w l l') ∧ Below base w w' ∧ KeepR w w' := by
  obtain ⟨im, mi0, mz0, mz1, mz2⟩ := info_parts infoB
  have hn : l.length = S.length := h.len
  have HS := Lib.hid h
  have HRs := Lib.hid hR
  have HN := Lib.hid hn
  have HP := Lib.hid hp
  have hl2 : l.length ≤ 1000 := by omega
  have hxx : decide (x < 0) = false := decide_eq_false (by omega)
  obtain ⟨va, vc, rfl⟩ := (Rd.of_own h.row).shape
  obtain ⟨pa, pc, rfl⟩ := Rd.shape hp
  have b1 : Hid (0 + pb.length ≤ maxLen) := by show _ ≤ _; unfold maxLen; omega
  have b2 : Hid ((0 + pb.length) * 1 ≤ 140737488355328) := by show _ ≤ _; omega
  have HRD : Hid (RdB (w.alloc (.cells #[] 5)) (.slice pa pb.length pc) pb) := Rd.alloc HP.out _
  clear h hn hl hR hp
  go_enter Try.func18, Try.ntmps18
  go_upto_region 6 with (at_builtin; refine wpList_append_own_rd _ rfl _ _ 29 rfl w.heap.size 5 im (.int .u8 0) 1 1 Try.underlying29 mi0 mz0 mz1 mz2 rfl (by decide) _ 0 [] rfl (own_emptyB w) _ pb.length (pb.map (Value.int .u8)) rfl HRD.out (ints_oneCell .u8 _) b1.out b2.out (by simp) ?_; intro q w1 hown hgrow)
  have hown2 : ownB w1 w.heap.size q pb := by
    show World.ownsRow _ _ _ _ _ _ _
    have := hown
    rw [Nat.zero_add, List.nil_append] at this
    exact this
  have HQ := Lib.hid hown2
  have HB1 : Hid (Below w.heap.size w w1) := ((Below.refl _ _).alloc (Nat.le_refl _) _).grown hgrow (by simp) (fun k hk => by cases hk; exact Nat.le_refl _)
  obtain ⟨qa, qc, rfl⟩ := (Rd.of_own hown2).shape
  clear hown hown2 hgrow
  have HS1 := Lib.hid (HS.out.later HB1.out)
  have c1 : w1.cell? ⟨Bs, 0, none⟩ = some (.int .i64 most) := by simp [World.cell?, HS1.out.at_]
  have c2 : w1.cell? ⟨Bs, 1, none⟩ = some (.slice va l.length vc) := by simp [World.cell?, HS1.out.at_]
  have hlt1 : Bs < w1.heap.size := HS1.out.lt
  go_upto_block 0 with fail
  go_cut [] (fun wx => Hid (∀ k, (hk : k < S.length) → S[k].1 ≠ x) ∧ wx = w1)
  case first =>
    go_wp2_with fail
    go_loopw [27] (fun i wr => ∃ j : Nat, j ≤ l.length ∧ i = .int .i64 j ∧ Hid (∀ k, (hk : k < S.length) → k < j → S[k].1 ≠ x) ∧ wr = w1) (fun i _ => l.length - (intOf i).toNat)
    case atStart => exact ⟨0, by omega, rfl, (fun q _ h => absurd h (by omega)), rfl⟩
    case round =>
      obtain ⟨j, hj, rfl, HO, rfl⟩ := hrel
      by_cases hlt2 : j < l.length
      · rcases HS1.out.row.2 with ⟨h1, h2⟩ | ⟨g, c, cur, h1, h2, h3, h4, h5, h6, h7⟩
        · omega
        · simp only [Value.slice.injEq] at h1
          obtain ⟨rfl, _, rfl⟩ := h1
          have hSj : j < S.length := by rw [← HN.out]; exact hlt2
          have hxy := HS.out.ats j hlt2 hSj
          obtain ⟨e1, e2⟩ := cellsO_at l j hlt2
          have d1 := HS1.out.row.cells rfl _ _ e1
          have d2 := HS1.out.row.cells rfl _ _ e2
          rw [add_plain, Nat.zero_add] at d1 d2
          have f2 : wr.frozen? ⟨g, j * 2 + 1, none⟩ = false := by simp [World.frozen?, h3]
          have hgl : g < wr.heap.size := (Array.getElem?_eq_some_iff.1 h3).1
          obtain ⟨q0, hq0⟩ : ∃ q0, l[j].2 = q0 := ⟨_, rfl⟩
          obtain ⟨y, hy⟩ : ∃ y, l[j].1 = y := ⟨_, rfl⟩
          rw [hy] at d1 hxy
          rw [hq0] at d2
          have HXY := Lib.hid hxy
          have HY := Lib.hid hy
          clear h2 h3 h4 h5 h6 h7 e1 e2 hxy hq0 hy
          by_cases hxe : y = x
          · have hb0 : (y == x) = true := by simp [hxe]
            have HXE := Lib.hid hxe
            clear hxe
            go_wp2_with fail
            go_ret
            have hSx : S[j].1 = x := by rw [← HXY.out]; exact HXE.out
            obtain ⟨r1, r2, r3⟩ := HS1.out.setP hlt2 (HY.out.trans HXE.out) (own_base HQ.out hbase)
            have hput : putS most S x pb choice = S.set j (x, pb) := by
              rw [set_map HRs.out hSj hSx]
              unfold putS
              rw [if_pos]
              rw [List.any_eq_true]
              exact ⟨S[j], List.getElem_mem hSj, by simpa using hSx⟩
            refine ⟨rfl, ⟨_, _, by rw [hput]; exact r1, fun m hm => ?_⟩, (HB1.out.mono hbase).setCell r3 _, (KeepR.of_below HB1.out).trans r2⟩
            rcases mem_set hm with h | rfl
            · exact .inl h
            · exact .inr fun k hk => (own_blk HQ.out k hk).1
          · have hb0 : (y == x) = false := by simp [hxe]
            have HXE := Lib.hid hxe
            clear hxe
            go_wp2_with fail
            refine ⟨⟨j + 1, by omega, by go_num, ?_, by first | rfl | trivial⟩, by simp [intOf]; omega⟩
            intro q hq hqj
            by_cases e : q = j
            · subst e; rw [← HXY.out]; exact HXE.out
            · exact HO.out q hq (by omega)
      · go_wp2_with fail
        go_meet
        exact ⟨fun q hq => HO.out q hq (by have := HN.out; omega), by simp⟩
  case rest =>
    obtain ⟨HNo, rfl⟩ := hcut
    go_upto_if 58 with (go_quiet (fail))
    go_cut [3] (fun s3 wx => Hid ((∃ v2 l2, RAt wx base Bs most v2 l2 (lessS most S choice) ∧ ∀ m ∈ l2, m ∈ l) ∧ Below base w wx ∧ KeepR w wx ∧ ownB wx w.heap.size (.slice qa pb.length qc) pb))
    case first =>
      by_cases hfull : (l.length : Int) = most
      · have b1 : ((l.length : Int) == most) = true := by simp [hfull]
        have HF := Lib.hid hfull
        have hlp : 0 < l.length := by omega
        clear hfull
        have hn0 : ((l.length : Int) == 0) = false := by rw [beq_eq_false_iff_ne]; omega
        by_cases hneg : choice < 0
        · have hd1 : decide (choice < 0) = true := decide_eq_true hneg
          have hu : IntKind.u64.wrap choice = choice + 18446744073709551616 := by rw [IntKind.wrap_u64]; omega
          go_wp2_with fail
          have hk : (choice + 18446744073709551616) % 2147483648 % (l.length : Int) = (goN choice S.length : Nat) := by
            unfold goN
            rw [if_pos hneg, ← HN.out]
            have e : (choice + 18446744073709551616) % 2147483648 = choice % 2147483648 := by omega
            rw [e]
            exact (Int.toNat_of_nonneg (Int.emod_nonneg _ (by omega))).symm
          rw [hk]
          have HSd : Hid (RAt (wc.drewN nq) base Bs most (.slice va l.length vc) l S) := HS1.out.same (fun k _ => rfl)
          refine (refDrop_at (goN choice S.length) (wc.drewN nq) base Bs most _ l S HSd.out hl2 (Nat.le_trans hbase HB1.out.size)).mono ?_
          rintro e w4 ⟨rfl, h1, h2, h3⟩
          have HH : Hid ((∃ v2 l2, RAt w4 base Bs most v2 l2 (lessS most S choice) ∧ ∀ m ∈ l2, m ∈ l) ∧ Below base w w4 ∧ KeepR w w4 ∧ ownB w4 w.heap.size (.slice qa pb.length qc) pb) := by
            refine ⟨?_, (below_drewN (HB1.out.mono hbase) nq).trans h2, (KeepR.of_below (below_drewN HB1.out nq)).trans h3, ?_⟩
            · rw [lessS_full (by have := HN.out; have := HF.out; omega)]; exact h1
            · refine own_same HQ.out fun k hk => ?_
              obtain ⟨_, cur, hc⟩ := own_blk HQ.out k hk
              rw [hc]
              exact h3 k _ hc (fun _ _ => cells_ne (by decide)) (fun _ _ => cells_ne (by decide))
          clear h1 h2 h3 hk HSd
          go_wp2_with fail
          go_meet
          exact HH.out
        · have hd1 : decide (choice < 0) = false := decide_eq_false hneg
          go_wp2_with fail
          have hk : choice % (l.length : Int) = (goN choice S.length : Nat) := by
            unfold goN
            rw [if_neg (by omega), ← HN.out]
            exact (Int.toNat_of_nonneg (Int.emod_nonneg _ (by omega))).symm
          rw [hk]
          have HSd : Hid (RAt (wc.drewN nq) base Bs most (.slice va l.length vc) l S) := HS1.out.same (fun k _ => rfl)
          refine (refDrop_at (goN choice S.length) (wc.drewN nq) base Bs most _ l S HSd.out hl2 (Nat.le_trans hbase HB1.out.size)).mono ?_
          rintro e w4 ⟨rfl, h1, h2, h3⟩
          have HH : Hid ((∃ v2 l2, RAt w4 base Bs most v2 l2 (lessS most S choice) ∧ ∀ m ∈ l2, m ∈ l) ∧ Below base w w4 ∧ KeepR w w4 ∧ ownB w4 w.heap.size (.slice qa pb.length qc) pb) := by
            refine ⟨?_, (below_drewN (HB1.out.mono hbase) nq).trans h2, (KeepR.of_below (below_drewN HB1.out nq)).trans h3, ?_⟩
            · rw [lessS_full (by have := HN.out; have := HF.out; omega)]; exact h1
            · refine own_same HQ.out fun k hk => ?_
              obtain ⟨_, cur, hc⟩ := own_blk HQ.out k hk
              rw [hc]
              exact h3 k _ hc (fun _ _ => cells_ne (by decide)) (fun _ _ => cells_ne (by decide))
          clear h1 h2 h3 hk HSd
          go_wp2_with fail
          go_meet
          exact HH.out
      · have b1 : ((l.length : Int) == most) = false := by simp [hfull]
        go_wp2_with fail
        go_meet
        rw [lessS_no (by have := HN.out; omega)]
        exact ⟨⟨_, _, HS1.out.same (fun k _ => rfl), fun m hm => hm⟩, below_drewN (HB1.out.mono hbase) _, KeepR.of_below (below_drewN HB1.out _), own_same HQ.out (fun k _ => rfl)⟩
    case rest =>
      clear c1 c2 hlt1 HS1 HS HQ HB1 HRD HP
      obtain ⟨⟨v2, l2, h2, hsub⟩, hb2, hk2, hq2⟩ := hcut.out
      have HSUB := Lib.hid hsub
      obtain ⟨S2, hS2⟩ : ∃ S2, lessS most S choice = S2 := ⟨_, rfl⟩
      rw [hS2] at h2
      have HS2 := Lib.hid hS2
      have HL2 : Hid (l2.length ≤ 1000) := by
        have h3 := h2.len
        have h4 := HN.out
        rw [← hS2] at h3
        have : (lessS most S choice).length ≤ S.length := by
          unfold lessS
          split
          · exact List.length_eraseIdx_le _ _
          · exact Nat.le_refl _
        show _ ≤ _
        omega
      clear hS2 hcut hsub
      have HT := Lib.hid h2
      have HB2 := Lib.hid hb2
      have HK2 := Lib.hid hk2
      have HQ2 := Lib.hid hq2
      have c1 : wc.cell? ⟨Bs, 0, none⟩ = some (.int .i64 most) := by simp [World.cell?, h2.at_]
      have c2 : wc.cell? ⟨Bs, 1, none⟩ = some v2 := by simp [World.cell?, h2.at_]
      have hltc : Bs < wc.heap.size := h2.lt
      obtain ⟨va2, vc2, rfl⟩ := (Rd.of_own h2.row).shape
      have HV : Hid (RdO wc _ l2) := Rd.of_own h2.row
      clear h2 hb2 hk2 hq2
      obtain ⟨im2, ni0, nz0, nz1, nz2⟩ := info_parts infoR
      go_upto_block 2 with fail
      go_cut [10] (fun s10 wx => ∃ oa oc, s10 = .slice oa (l2.filter fun m => decide (m.1 < x)).length oc ∧ Hid (ownR wx wc.heap.size (.slice oa (l2.filter fun m => decide (m.1 < x)).length oc) (l2.filter fun m => decide (m.1 < x))) ∧ Hid (Below wc.heap.size wc wx))
      case first =>
        go_wp2_with fail
        go_loopw [79, 10] (fun i out wr => ∃ j : Nat, j ≤ l2.length ∧ i = .int .i64 j ∧ Hid (ownR wr wc.heap.size out ((l2.take j).filter fun m => decide (m.1 < x))) ∧ Hid (Below wc.heap.size wc wr)) (fun i _ _ => l2.length - (intOf i).toNat)
        case atStart => exact ⟨0, by omega, rfl, ⟨by simp [cellsO], .inl ⟨rfl, by simp⟩⟩, Below.refl _ _⟩
        case round =>
          obtain ⟨wa, rfl⟩ : ∃ wa : World, wa = wr := ⟨_, rfl⟩
          obtain ⟨j, hj, rfl, HO, HB⟩ := hrel
          obtain ⟨oa, oc, rfl⟩ := (Rd.of_own HO.out).shape
          have hsz := HB.out.size
          by_cases hlt2 : j < l2.length
          · rcases HV.out.split with ⟨a, c, h0, h1⟩ | ⟨b, off, c, h0, hp, hlc, hc9, hb, hcell⟩
            · subst h1; simp at hlt2
            · simp only [Value.slice.injEq] at h0
              obtain ⟨rfl, _, rfl⟩ := h0
              obtain ⟨d1, d2⟩ := hcell j hlt2
              rw [← HB.out.cell (p := ⟨b, off + j * 2, none⟩) hb] at d1
              rw [← HB.out.cell (p := ⟨b, off + j * 2 + 1, none⟩) hb] at d2
              have hbr : b < wa.heap.size := Nat.lt_of_lt_of_le hb hsz
              obtain ⟨ra, rn, rc, hpp⟩ := HT.out.sl _ (List.getElem_mem hlt2)
              have hes := filter_step l2 j (fun m => decide (m.1 < x)) hlt2
              have hxl : l2[j] = (l2[j].1, .slice ra rn rc) := by rw [← hpp]
              rw [hpp] at d2
              rw [hxl] at hes
              obtain ⟨y, hy⟩ : ∃ y, l2[j].1 = y := ⟨_, rfl⟩
              rw [hy] at d1 hes
              have hxs1 : ((l2.take j).filter fun m => decide (m.1 < x)).length ≤ j := Nat.le_trans (List.length_filter_le _ _) (by rw [List.length_take]; omega)
              obtain ⟨xs, hxs⟩ : ∃ xs, ((l2.take j).filter fun m => decide (m.1 < x)) = xs := ⟨_, rfl⟩
              have hnx : ((l2.take (j + 1)).filter fun m => decide (m.1 < x)) = xs ++ (if decide (y < x) = true then [(y, .slice ra rn rc)] else []) := by rw [hes, ← hxs]; first | done | simp
              rw [hxs] at HO hxs1 ⊢
              have HNX := Lib.hid hnx
              have hl3 := HL2.out
              clear hy hpp hcell hxs hxl hes hnx
              by_cases hjk : y < x
              · have hb0 : decide (y < x) = true := decide_eq_true hjk
                have HJK := Lib.hid hjk
                clear hjk
                have b1 : Hid (xs.length + 1 ≤ maxLen) := by show _ ≤ _; unfold maxLen; omega
                have b2 : Hid ((xs.length + 1) * 32 ≤ 140737488355328) := by show _ ≤ _; omega
                have ho1 := cellsO_one [(y, .slice ra rn rc)] (by intro m hm; simp at hm; subst hm; exact ⟨_, _, _, rfl⟩)
                go_wp2_with (at_builtin; refine wpList_append_own_rd _ rfl _ _ 43 rfl wc.heap.size 47 im2 (.agg #[.int .i64 0, .slice none 0 0]) 2 32 Try.underlying43 ni0 nz0 nz1 nz2 rfl (by decide) _ _ _ rfl ((HO.out.alloc _).alloc _) (.slice (some ⟨wa.heap.size + 1, 0, none⟩) 1 1) 1 (cellsO [(y, .slice ra rn rc)]) rfl (rdR_one (heap_two _ _ _)) ho1 b1.out b2.out (by simp; omega) ?_; intro v' w4 hown4 hgrow4)
                refine ⟨⟨j + 1, by omega, by go_num, ?_, ((HB.out.alloc hsz _).alloc (by simp; omega) _).grown hgrow4 (by simp; omega) (fun k hk => (HO.out.lt k hk).1)⟩, by simp [intOf]; omega⟩
                rw [HNX.out, if_pos (decide_eq_true HJK.out)]
                show World.ownsRow _ _ _ _ _ _ _
                rw [List.length_append, cellsO_append]
                exact hown4
              · have hb0 : decide (y < x) = false := decide_eq_false hjk
                have HJK := Lib.hid hjk
                clear hjk
                go_wp2_with fail
                refine ⟨⟨j + 1, by omega, by go_num, ?_, (HB.out.alloc hsz _)⟩, by simp [intOf]; omega⟩
                rw [HNX.out, if_neg (by simpa using HJK.out), List.append_nil]
                exact HO.out.alloc _
          · obtain rfl : j = l2.length := by omega
            rw [List.take_length] at HO ⊢
            go_wp2_with fail
            go_meet
            exact ⟨_, _, rfl, HO.out, HB.out⟩
      case rest =>
        obtain ⟨oa, oc, rfl, HO, HB⟩ := hcut
        obtain ⟨wd, rfl⟩ : ∃ wd : World, wd = wc := ⟨_, rfl⟩
        obtain ⟨ys, hys⟩ : ∃ ys, (l2.filter fun m => decide (m.1 < x)) = ys := ⟨_, rfl⟩
        have hyl : ys.length ≤ 1000 := by rw [← hys]; exact Nat.le_trans (List.length_filter_le _ _) HL2.out
        rw [hys] at HO ⊢
        have HYS := Lib.hid hys
        clear hys
        have hszd := HB.out.size
        have b1 : Hid (ys.length + 1 ≤ maxLen) := by show _ ≤ _; unfold maxLen; omega
        have b2 : Hid ((ys.length + 1) * 32 ≤ 140737488355328) := by show _ ≤ _; omega
        have ho1 := cellsO_one [(x, .slice qa pb.length qc)] (by intro m hm; simp at hm; subst hm; exact ⟨_, _, _, rfl⟩)
        go_upto_region 25 with (at_builtin; refine wpList_append_own_rd _ rfl _ _ 43 rfl wc.heap.size 47 im2 (.agg #[.int .i64 0, .slice none 0 0]) 2 32 Try.underlying43 ni0 nz0 nz1 nz2 rfl (by decide) _ _ _ rfl (HO.out.alloc _) (.slice (some ⟨wd.heap.size, 0, none⟩) 1 1) 1 (cellsO [(x, .slice qa pb.length qc)]) rfl (rdR_one (heap_alloc_new _ _)) ho1 b1.out b2.out (by simp; omega) ?_; intro v' w4 hown4 hgrow4)
        obtain ⟨xs0, hxs0⟩ : ∃ xs0, ys ++ [(x, .slice qa pb.length qc)] = xs0 := ⟨_, rfl⟩
        have hxl0 : xs0.length ≤ 1001 := by rw [← hxs0, List.length_append]; simp; omega
        have HO1 : Hid (ownR w4 wc.heap.size v' xs0) := by
          show World.ownsRow _ _ _ _ _ _ _
          rw [← hxs0, List.length_append, cellsO_append]
          exact hown4
        have HB1 : Hid (Below wc.heap.size wc w4) := (HB.out.alloc hszd _).grown hgrow4 (by simp; omega) (fun k hk => (HO.out.lt k hk).1)
        have HX0 := Lib.hid hxs0
        have c3 : w4.cell? ⟨Bs, 1, none⟩ = some (.slice va2 l2.length vc2) := by rw [HB1.out.cell (p := ⟨Bs, 1, none⟩) hltc]; exact c2
        have hlt4 : Bs < w4.heap.size := Nat.lt_of_lt_of_le hltc HB1.out.size
        clear hxs0 hown4 hgrow4 HO HB hyl
        go_upto_block 4 with fail
        go_cut [10] (fun s10 wx => ∃ oa oc, s10 = .slice oa (xs0 ++ l2.filter fun m => decide (x < m.1)).length oc ∧ Hid (ownR wx wc.heap.size (.slice oa (xs0 ++ l2.filter fun m => decide (x < m.1)).length oc) (xs0 ++ l2.filter fun m => decide (x < m.1))) ∧ Hid (Below wc.heap.size wc wx))
        case first =>
          go_wp2_with fail
          go_loopw [103, 10] (fun i out wr => ∃ j : Nat, j ≤ l2.length ∧ i = .int .i64 j ∧ Hid (ownR wr wc.heap.size out (xs0 ++ (l2.take j).filter fun m => decide (x < m.1))) ∧ Hid (Below wc.heap.size wc wr)) (fun i _ _ => l2.length - (intOf i).toNat)
          case atStart => exact ⟨0, by omega, rfl, by simpa using HO1, HB1.out⟩
          case round =>
            obtain ⟨wa, rfl⟩ : ∃ wa : World, wa = wr := ⟨_, rfl⟩
            obtain ⟨j, hj, rfl, HO, HB⟩ := hrel
            obtain ⟨oa, oc, rfl⟩ := (Rd.of_own HO.out).shape
            have hsz := HB.out.size
            by_cases hlt2 : j < l2.length
            · rcases HV.out.split with ⟨a, c, h0, h1⟩ | ⟨b, off, c, h0, hp, hlc, hc9, hb, hcell⟩
              · subst h1; simp at hlt2
              · simp only [Value.slice.injEq] at h0
                obtain ⟨rfl, _, rfl⟩ := h0
                obtain ⟨d1, d2⟩ := hcell j hlt2
                rw [← HB.out.cell (p := ⟨b, off + j * 2, none⟩) hb] at d1
                rw [← HB.out.cell (p := ⟨b, off + j * 2 + 1, none⟩) hb] at d2
                have hbr : b < wa.heap.size := Nat.lt_of_lt_of_le hb hsz
                obtain ⟨ra, rn, rc, hpp⟩ := HT.out.sl _ (List.getElem_mem hlt2)
                have hes := filter_step l2 j (fun m => decide (x < m.1)) hlt2
                have hxl : l2[j] = (l2[j].1, .slice ra rn rc) := by rw [← hpp]
                rw [hpp] at d2
                rw [hxl] at hes
                obtain ⟨y, hy⟩ : ∃ y, l2[j].1 = y := ⟨_, rfl⟩
                rw [hy] at d1 hes
                have hxs1 : (xs0 ++ (l2.take j).filter fun m => decide (x < m.1)).length ≤ xs0.length + j := by rw [List.length_append]; have := List.length_filter_le (fun m : Mo => decide (x < m.1)) (l2.take j); rw [List.length_take] at this; omega
                obtain ⟨xs, hxs⟩ : ∃ xs, (xs0 ++ (l2.take j).filter fun m => decide (x < m.1)) = xs := ⟨_, rfl⟩
                have hnx : (xs0 ++ (l2.take (j + 1)).filter fun m => decide (x < m.1)) = xs ++ (if decide (x < y) = true then [(y, .slice ra rn rc)] else []) := by rw [hes, ← hxs]; first | done | simp
                rw [hxs] at HO hxs1 ⊢
                have HNX := Lib.hid hnx
                have hl3 := HL2.out
                clear hy hpp hcell hxs hxl hes hnx
                by_cases hjk : x < y
                · have hb0 : decide (x < y) = true := decide_eq_true hjk
                  have HJK := Lib.hid hjk
                  clear hjk
                  have b1 : Hid (xs.length + 1 ≤ maxLen) := by show _ ≤ _; unfold maxLen; omega
                  have b2 : Hid ((xs.length + 1) * 32 ≤ 140737488355328) := by show _ ≤ _; omega
                  have ho1 := cellsO_one [(y, .slice ra rn rc)] (by intro m hm; simp at hm; subst hm; exact ⟨_, _, _, rfl⟩)
                  go_wp2_with (at_builtin; refine wpList_append_own_rd _ rfl _ _ 43 rfl wc.heap.size 47 im2 (.agg #[.int .i64 0, .slice none 0 0]) 2 32 Try.underlying43 ni0 nz0 nz1 nz2 rfl (by decide) _ _ _ rfl ((HO.out.alloc _).alloc _) (.slice (some ⟨wa.heap.size + 1, 0, none⟩) 1 1) 1 (cellsO [(y, .slice ra rn rc)]) rfl (rdR_one (heap_two _ _ _)) ho1 b1.out b2.out (by simp; omega) ?_; intro v' w4 hown4 hgrow4)
                  refine ⟨⟨j + 1, by omega, by go_num, ?_, ((HB.out.alloc hsz _).alloc (by simp; omega) _).grown hgrow4 (by simp; omega) (fun k hk => (HO.out.lt k hk).1)⟩, by simp [intOf]; omega⟩
                  rw [HNX.out, if_pos (decide_eq_true HJK.out)]
                  show World.ownsRow _ _ _ _ _ _ _
                  rw [List.length_append, cellsO_append]
                  exact hown4
                · have hb0 : decide (x < y) = false := decide_eq_false hjk
                  have HJK := Lib.hid hjk
                  clear hjk
                  go_wp2_with fail
                  refine ⟨⟨j + 1, by omega, by go_num, ?_, (HB.out.alloc hsz _)⟩, by simp [intOf]; omega⟩
                  rw [HNX.out, if_neg (by simpa using HJK.out), List.append_nil]
                  exact HO.out.alloc _
            · obtain rfl : j = l2.length := by omega
              rw [List.take_length] at HO ⊢
              go_wp2_with fail
              go_meet
              exact ⟨_, _, rfl, HO.out, HB.out⟩
        case rest =>
          obtain ⟨oa, oc, rfl, HO, HB⟩ := hcut
          obtain ⟨wd, rfl⟩ : ∃ wd : World, wd = wc := ⟨_, rfl⟩
          obtain ⟨zs, hzs⟩ : ∃ zs, (xs0 ++ l2.filter fun m => decide (x < m.1)) = zs := ⟨_, rfl⟩
          rw [hzs] at HO ⊢
          have hprs : Prs wc base zs (insS S2 x pb) := by
            rw [← hzs, ← HX0.out, ← HYS.out, List.append_assoc]
            exact (HT.out.prs.filter (fun y => decide (y < x))).append ⟨⟨rfl, own_base HQ2.out hbase⟩, HT.out.prs.filter (fun y => decide (x < y))⟩
          have hbase2 : base ≤ wc.heap.size := Nat.le_trans hbase HB2.out.size
          obtain ⟨⟨f1, f2, f3⟩, hst, hkr⟩ := HT.out.turn (grown_of_below HB.out) (show ownR _ base _ _ from own_baseR HO.out hbase2) hprs
          have hput : putS most S x pb choice = insS S2 x pb := by
            rw [← HS2.out]
            unfold putS
            rw [if_neg]
            intro h
            rw [List.any_eq_true] at h
            obtain ⟨m, hm, e⟩ := h
            obtain ⟨z, hz, rfl⟩ := List.getElem_of_mem hm
            exact HNo.out z hz (by simpa using e)
          rw [← hput] at hst
          have HFL : Hid (fromL w l zs) := fun m hm => by
            rw [← hzs, ← HX0.out, ← HYS.out] at hm
            rcases List.mem_append.1 hm with h | h
            · rcases List.mem_append.1 h with h | h
              · exact .inl (HSUB.out m (List.mem_filter.1 h).1)
              · simp at h; subst h
                exact .inr fun k hk => (own_blk HQ2.out k hk).1
            · exact .inl (HSUB.out m (List.mem_filter.1 h).1)
          have HE := Lib.hid (And.intro hst hkr)
          clear hst hkr HO hprs hput hzs
          have hlt3 : Bs < wd.heap.size := Nat.lt_of_lt_of_le hltc HB.out.size
          go_wp2_with fail
          go_ret
          exact ⟨rfl, ⟨_, _, HE.out.1, HFL.out⟩, (HB2.out.trans (HB.out.mono hbase2)).setCell HE.out.1.lb _, HK2.out.trans HE.out.2⟩
end Go.Proofs.Ytmfhmegkgpaemaa
