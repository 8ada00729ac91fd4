/- The document's reader of debug information: the walk. -/
import Derived.Test.YtnanlkoldloolaaDoorQRe
import Derived.Test.YtnanlkoldloolaaDoorQRh
import Derived.Test.YtnanlkoldloolaaDoorQ8
namespace Go.Proofs.YtnanlkoldloolaaDoor
open Go.RowKit

/-- What the document's reader answers. -/
def RefIs (l : List Int) (w w' : World) (e : Ending) : Prop :=
  ∃ vs vm vt, e = .returned (.tuple #[.agg #[vs, vm, vt], .bool (refDec l).isSome]) ∧ RdD w' vs vm vt ((refDec l).getD noD) ∧ Below w.heap.size w w'
theorem refIs_no {l : List Int} {w w' : World} (h : refDec l = none) (hb : Below w.heap.size w w') : RefIs l w w' (.returned (.tuple #[.agg #[.slice none 0 0, .slice none 0 0, .slice none 0 0], .bool false])) :=
  ⟨_, _, _, by rw [h]; rfl, by rw [h]; exact rdD_nil w', hb⟩
theorem refIs_yes {l : List Int} {w w' : World} {d : DebD} {vs vm vt : Value} (h : refDec l = some d) (hd : RdD w' vs vm vt d) (hb : Below w.heap.size w w') : RefIs l w w' (.returned (.tuple #[.agg #[vs, vm, vt], .bool true])) :=
  ⟨_, _, _, by rw [h]; rfl, by rw [h]; exact hd, hb⟩

set_option maxRecDepth 100000 in
set_option maxHeartbeats 16000000 in
theorem refdec_any (pa : Option Addr) (pc : Nat) (l : List Int) (w : World) (hv : RdB w (.slice pa l.length pc) l) (hB : isB l) (hlen : l.length ≤ 1000000000) :
   Calls Tryd.prog 21 #[.slice pa l.length pc] w fun e w' => RefIs l w w' e := by
  have HV := Lib.hid hv
  have HBB := Lib.hid hB
  have HLN := Lib.hid hlen
  have hl9 := hv.le
  have mixed : Tryd.prog.follows Departure.mixedOrders = true := by kernel_rfl
  have HA : Hid (Below w.heap.size w (w.alloc (.cells #[.slice none 0 0, .slice none 0 0, .slice none 0 0] 64))) := (Below.refl _ _).alloc (Nat.le_refl _) _
  by_cases hl4 : l.length < 4
  · have hg : decide ((l.length : Int) < 4) = true := decide_eq_true (by omega)
    have HN : Hid (refDec l = none) := by
      show _ = _
      unfold refDec
      rw [if_neg]
      intro h
      have := congrArg List.length h
      simp [magicL] at this
      omega
    clear hv hB
    go_enter Tryd.func21, Tryd.ntmps21
    go_wp2_with fail
    refine bodyPost_ret (v := .tuple #[.agg #[.slice none 0 0, .slice none 0 0, .slice none 0 0], .bool false]) ?_ rfl (refIs_no HN.out ?_)
    · simp [results, Tryd.results21, go_sem]
    · repeat (with_reducible (first | exact HA.out | refine Below.setCell ?_ ?_ _ | exact Nat.le_refl _))
  · have hg : decide ((l.length : Int) < 4) = false := decide_eq_false (by omega)
    obtain ⟨i0, hi0, hz0, hz1', hz2⟩ := info_parts infoB8
    have hsl : ∀ W : World, (Instr.slice 24 (.slice pa l.length pc) none (some (.int .i64 4)) none).run Tryd.prog W = .ok (.slice pa 4 pc) W := fun W => by
      have hlc : 4 ≤ pc := by
        rcases hv.split with ⟨a, c, h1, h2⟩ | ⟨b, off, c, h1, _, h2, _⟩
        · rw [h2] at hl4; simp at hl4
        · simp only [Value.slice.injEq] at h1; omega
      exact run_slice_to _ 5 Tryd.underlying24 hi0 hz1' _ _ _ 4 _ rfl hlc W
    have hT : RdB w (.slice pa 4 pc) (l.take 4) := by
      have := Rd.take hv (k := 4) (by omega)
      unfold RdB
      rw [List.length_take, Nat.min_eq_left (by omega)]
      simpa using this
    have k1 := fun W (h : Below w.heap.size w W) => run_convert_rdB (P := Tryd.prog) (w := W) (show RdB W _ _ from Rd.later hT h) Tryd.underlying24 Tryd.underlying5 (dst := 9) Tryd.underlying9
    have k2 := k1 _ HA.out
    clear k1
    have hEq := eqL_str (l := l.take 4) (m := magicL) (fun x hx => hB x (List.mem_of_mem_take hx)) (by intro x hx; simp [magicL] at hx; omega)
    have hms : strOfNums magicL = { data := #[84, 83, 76, 49] } := by rfl
    have hml : ({ data := #[84, 83, 76, 49] } : ByteArray).toList = [84, 83, 76, 49] := by first | rfl | decide | simp [go_sem]
    rw [hms, hml] at hEq
    clear hms hml
    by_cases hm : l.take 4 = magicL
    · rw [show eqL (l.take 4) magicL = true by simp [eqL, hm]] at hEq
      have hlc : 4 ≤ pc := by
        rcases hv.split with ⟨a, c, h1, h2⟩ | ⟨b, off, c, h1, _, h2, _⟩
        · rw [h2] at hl4; simp at hl4
        · simp only [Value.slice.injEq] at h1; omega
      obtain ⟨va, hva, hra, hrk⟩ : ∃ va, (∀ W : World, (Instr.slice 24 (.slice pa l.length pc) (some (.int .i64 4)) none none).run Tryd.prog W = .ok va W) ∧ RdB w va (l.drop 4) ∧ ∀ k, va.ownBlock = some k → k < w.heap.size := by
        rcases hv.split with ⟨a, c, h1, h2⟩ | ⟨b, off, c, h1, h2, h3, h4, h5, h6⟩
        · rw [h2] at hl4; simp at hl4
        · simp only [Value.slice.injEq, true_and] at h1
          obtain ⟨rfl, rfl⟩ := h1
          refine ⟨_, fun W => run_slice_from 24 5 Tryd.underlying24 hi0 hz1' _ _ _ 4 _ (by omega) (by omega) W, ?_, fun k hk => ?_⟩
          · have := rdB_mid (l := 4) (h := l.length) hv rfl (by omega) (by omega)
            rw [List.take_length] at this
            exact this
          · split at hk
            · simp [Value.ownBlock] at hk; omega
            · simp [Value.ownBlock, add_plain] at hk; omega
      obtain ⟨ra, rc, rfl⟩ := hra.shape
      have hll : (l.drop 4).length = l.length - 4 := by simp
      rw [hll] at hva hra hrk
      -- the reader and what it reads into
      obtain ⟨W, hW⟩ : ∃ W, W = ((w.alloc (.cells #[.slice none 0 0, .slice none 0 0, .slice none 0 0] 64)).alloc (.cells #[.slice ra (l.length - 4) rc, .bool false] 82)).alloc (.cells #[.slice none 0 0, .slice none 0 0, .slice none 0 0] 64) := ⟨_, rfl⟩
      have hsz : W.heap.size = w.heap.size + 3 := by rw [hW]; simp
      have hbw : Below w.heap.size w W := by rw [hW]; exact (((Below.refl _ _).alloc (Nat.le_refl _) _).alloc (by simp) _).alloc (by simp; omega) _
      have h0 : W.heap[w.heap.size]? = some (.cells #[.slice none 0 0, .slice none 0 0, .slice none 0 0] 64 (0, 0)) := by rw [hW]; exact heap_old _ _ (heap_old _ _ (heap_new _ _ rfl))
      have h1 : W.heap[w.heap.size + 1]? = some (.cells #[.slice ra (l.length - 4) rc, .bool false] 82 (0, 0)) := by rw [hW]; exact heap_old _ _ (heap_new _ _ (by simp))
      have h2 : W.heap[w.heap.size + 1 + 1]? = some (.cells #[.slice none 0 0, .slice none 0 0, .slice none 0 0] 64 (0, 0)) := by rw [hW]; exact heap_new _ _ (by simp)
      have S0 : Hid (RS W (w.heap.size + 1) w.heap.size l (some 4)) := ⟨_, 4, false, ⟨h1, Rd.later hra hbw, by omega, .inr hrk, by omega⟩, rfl⟩
      have HBW := Lib.hid hbw
      have HD0 := Lib.hid h2
      have HZ0 := Lib.hid h0
      have HW := Lib.hid hW
      have HM := Lib.hid hm
      have HSZ : Hid (W.heap.size = w.heap.size + 3) := hsz
      have C0 := Lib.hid (rplain_rel (w.heap.size + 1) w.heap.size l (some 4) W HBB.out S0.out)
      clear hv hB hT hra hrk hll hbw h0 h1 h2 hW hm hi0 hz0 hz1' hz2 hsz
      go_enter Tryd.func21, Tryd.ntmps21
      go_upto_region 5 with fail
      rw [← HW.out]
      obtain ⟨i1, hi1, hz1, hs1, hb1⟩ := info_parts infoSpot
      have HIi1 : Hid _ := And.intro hi1 (And.intro hz1 (And.intro hs1 hb1))
      obtain ⟨i2, hi2, hz2, hs2, hb2⟩ := info_parts info_stops
      have HIi2 : Hid _ := And.intro hi2 (And.intro hz2 (And.intro hs2 hb2))
      obtain ⟨i3, hi3, hz3, hs3, hb3⟩ := info_parts info_marks
      have HIi3 : Hid _ := And.intro hi3 (And.intro hz3 (And.intro hs3 hb3))
      obtain ⟨i4, hi4, hz4, hs4, hb4⟩ := info_parts info_locs
      have HIi4 : Hid _ := And.intro hi4 (And.intro hz4 (And.intro hs4 hb4))
      obtain ⟨i5, hi5, hz5, hs5, hb5⟩ := info_parts info_sites
      have HIi5 : Hid _ := And.intro hi5 (And.intro hz5 (And.intro hs5 hb5))
      clear hi1 hz1 hs1 hb1 hi2 hz2 hs2 hb2 hi3 hz3 hs3 hb3 hi4 hz4 hs4 hb4 hi5 hz5 hs5 hb5
      go_wp2_with fail
      refine C0.out.mono ?_
      rintro e w1 ⟨n, s1, rfl, hrel1, ⟨hn0, hn1⟩, hs1, ho1⟩
      obtain ⟨m, rfl⟩ : ∃ m : Nat, n = m := ⟨n.toNat, by omega⟩
      have S1 := Lib.hid hs1
      have R1 := Lib.hid hrel1
      have O1 : Hid (Oth W w1 (w.heap.size + 1) (w.heap.size + 1 + 1)) := ho1.oth _
      have D1 : Hid (w1.heap[w.heap.size + 1 + 1]? = some (.cells #[.slice none 0 0, .slice none 0 0, .slice none 0 0] 64 (0, 0))) := ho1.at HD0.out (by omega) (by omega)
      have LE1 := Lib.hid hs1.le
      clear hrel1 hs1 ho1 C0
      go_wp2_with fail
      go_loopw [6] (fun i wr => ∃ (k : Nat) (s' : Option Nat) (vs : Value) (xs : List (List (Int × Int))), i = .int .i64 k ∧ RelN (listR (plainP l) (spotR (plainP l))) m k s1 s' xs ∧ RS wr (w.heap.size + 1) w.heap.size l s' ∧ wr.heap[w.heap.size + 1 + 1]? = some (.cells #[vs, .slice none 0 0, .slice none 0 0] 64 (0, 0)) ∧ rowE 84 1 stopE wr (w.heap.size + 1 + 1 + 1) vs xs ∧ Oth W wr (w.heap.size + 1) (w.heap.size + 1 + 1)) (fun i _ => m - (intOf i).toNat)
      case atStart => exact ⟨0, s1, _, [], rfl, RelN.start _ _ _, S1.out, D1.out, rowE_nil _ _ _ _ _, O1.out⟩
      case round =>
        clear S1 D1 O1
        obtain ⟨k, s', vs, xs, rfl, hrl, hrs, hd, hrow, hoth⟩ := hrel
        have kb := hrs.bad
        have hkm := hrl.le
        have hsz1 := heap_lt hd
        have RL := Lib.hid hrl
        have S := Lib.hid hrs
        have D := Lib.hid hd
        have RW := Lib.hid hrow
        have O := Lib.hid hoth
        clear hrl hrs hd hrow hoth
        obtain ⟨bb, hbb⟩ : ∃ bb, Option.isNone s' = bb := ⟨_, rfl⟩
        have HBBN := Lib.hid hbb
        rw [hbb] at kb
        clear hbb
        obtain ⟨wa, hwq⟩ : ∃ wa, wa = wr := ⟨_, rfl⟩
        subst hwq
        go_upto_region 6 with fail
        go_cut [46] (fun sc wx => sc = .bool (decide (k < m) && !bb) ∧ wx = wa)
        case first =>
          by_cases hkq : k < m
          · have hkd : decide (k < m) = true := decide_eq_true hkq
            have hki : decide ((k : Int) < (m : Int)) = true := decide_eq_true (by omega)
            cases bb with
            | false =>
              go_wp2_with fail
              go_meet
              exact ⟨by rw [hkd]; rfl, rfl⟩
            | true =>
              go_wp2_with fail
              go_meet
              exact ⟨by rw [hkd]; rfl, rfl⟩
          · have hkd : decide (k < m) = false := decide_eq_false hkq
            have hki : decide ((k : Int) < (m : Int)) = false := decide_eq_false (by omega)
            go_wp2_with fail
            go_meet
            exact ⟨by rw [hkd]; rfl, rfl⟩
        case rest =>
          obtain ⟨rfl, hw9⟩ := hcut
          have hw10 := hw9.symm
          clear hw9
          subst hw10
          obtain ⟨go, hgo⟩ : ∃ go, (decide (k < m) && !bb) = go := ⟨_, rfl⟩
          have HGO := Lib.hid hgo
          rw [hgo]
          clear hgo kb
          cases go with
          | true =>
            --<
            obtain ⟨hkm2, rfl⟩ := go_of HGO.out
            have hk9 := RL.out.few (listR_cheap (plain_cheap HBB.out) (spot_cheap (plain_cheap HBB.out))) LE1.out HBBN.out
            have hxk := Nat.le_of_eq RL.out.len
            have HBBN0 := HBBN
            have C := Lib.hid (rplain_rel (w.heap.size + 1) w.heap.size l s' wa HBB.out S.out)
            go_wp2_with fail
            refine C.out.mono ?_
            rintro e w2 ⟨n2, s2, rfl, hrel2, ⟨hln2, hun2⟩, hs2, ho2⟩
            obtain ⟨m2, rfl⟩ : ∃ m2 : Nat, n2 = m2 := ⟨n2.toNat, by omega⟩
            have S2 := Lib.hid hs2
            have R2 := Lib.hid hrel2
            have O2 := Lib.hid ho2
            have LE2 := Lib.hid hs2.le
            have hsz2 : wa.heap.size ≤ w2.heap.size := ho2.size
            clear hrel2 hs2 ho2 C
            go_wp2_with fail
            go_loopw [9, 8] (fun i v wr => ∃ (k2 : Nat) (s3 : Option Nat) (ys : List (Int × Int)), i = .int .i64 k2 ∧ RelN (spotR (plainP l)) m2 k2 s2 s3 ys ∧ RS wr (w.heap.size + 1) w.heap.size l s3 ∧ rowE 86 2 spotE wr w2.heap.size v ys ∧ Oth w2 wr (w.heap.size + 1) (w.heap.size + 1)) (fun i _ _ => m2 - (intOf i).toNat)
            case atStart => exact ⟨0, s2, [], rfl, RelN.start _ _ _, S2.out, rowE_nil _ _ _ _ _, Oth.refl _ _ _⟩
            case round =>
              obtain ⟨k2, s3, ys, rfl, hrl, hrs, hrow, hoth⟩ := hrel
              have kb := hrs.bad
              have hkm3 := hrl.le
              have RL2 := Lib.hid hrl
              have S3 := Lib.hid hrs
              have RW3 := Lib.hid hrow
              have O3 := Lib.hid hoth
              have hsz3 : w2.heap.size ≤ wr.heap.size := hoth.size
              have hyk := Nat.le_of_eq hrl.len
              obtain ⟨va, vc, hva⟩ := rowE_shape hrow
              subst hva
              clear hrl hrs hrow hoth S2
              obtain ⟨bb, hbb⟩ : ∃ bb, Option.isNone s3 = bb := ⟨_, rfl⟩
              have HBBN := Lib.hid hbb
              rw [hbb] at kb
              clear hbb
              obtain ⟨wb, hwq⟩ : ∃ wb, wb = wr := ⟨_, rfl⟩
              subst hwq
              go_upto_region 10 with fail
              go_cut [60] (fun sc wx => sc = .bool (decide (k2 < m2) && !bb) ∧ wx = wb)
              case first =>
                by_cases hkq : k2 < m2
                · have hkd : decide (k2 < m2) = true := decide_eq_true hkq
                  have hki : decide ((k2 : Int) < (m2 : Int)) = true := decide_eq_true (by omega)
                  cases bb with
                  | false =>
                    go_wp2_with fail
                    go_meet
                    exact ⟨by rw [hkd]; rfl, rfl⟩
                  | true =>
                    go_wp2_with fail
                    go_meet
                    exact ⟨by rw [hkd]; rfl, rfl⟩
                · have hkd : decide (k2 < m2) = false := decide_eq_false hkq
                  have hki : decide ((k2 : Int) < (m2 : Int)) = false := decide_eq_false (by omega)
                  go_wp2_with fail
                  go_meet
                  exact ⟨by rw [hkd]; rfl, rfl⟩
              case rest =>
                obtain ⟨rfl, hw9⟩ := hcut
                have hw10 := hw9.symm
                clear hw9
                subst hw10
                obtain ⟨go, hgo⟩ : ∃ go, (decide (k2 < m2) && !bb) = go := ⟨_, rfl⟩
                have HGO := Lib.hid hgo
                rw [hgo]
                clear hgo kb
                cases go with
                | true =>
                  obtain ⟨hkm4, rfl⟩ := go_of HGO.out
                  have hk8 := RL2.out.few (spot_cheap (plain_cheap HBB.out)) LE2.out HBBN.out
                  have C := Lib.hid (rplain_rel (w.heap.size + 1) w.heap.size l s3 wb HBB.out S3.out)
                  go_wp2_with fail
                  refine C.out.mono ?_
                  rintro e w3 ⟨px, s4, rfl, hrel4, ⟨hlpx, hupx⟩, hs4, ho4⟩
                  have S4 := Lib.hid hs4
                  have R4 := Lib.hid hrel4
                  have O4 := Lib.hid ho4
                  have RW4 := Lib.hid (rowE_oth (spotE_ok 0) RW3.out ho4 (.inl (by omega)) (.inl (by omega)))
                  have hsz4 : wb.heap.size ≤ w3.heap.size := ho4.size
                  clear hrel4 hs4 ho4 C
                  have C := Lib.hid (rplain_rel (w.heap.size + 1) w.heap.size l s4 w3 HBB.out S4.out)
                  go_wp2_with fail
                  refine C.out.mono ?_
                  rintro e w4 ⟨py, s5, rfl, hrel5, ⟨hlpy, hupy⟩, hs5, ho5⟩
                  have S5 := Lib.hid hs5
                  have R5 := Lib.hid hrel5
                  have O5 := Lib.hid ho5
                  have hsz5 : w3.heap.size ≤ w4.heap.size := ho5.size
                  obtain ⟨cells, hown, hels⟩ := rowE_oth (spotE_ok 0) RW4.out ho5 (.inl (by omega)) (.inl (by omega))
                  have HOWN := Lib.hid hown
                  have HELS := Lib.hid hels
                  have hr : Hid (∀ k, (Value.slice va ys.length vc).ownBlock = some k → w2.heap.size ≤ k) := fun k hk => (own_blk hown k hk).1
                  clear hrel5 hs5 ho5 C hown hels
                  go_wp2_with (at_builtin; go_loud (refine wpList_append_own_g _ rfl _ _ 84 rfl (w2.heap.size) 86 i1 (.agg #[.int .i64 0, .int .i64 0]) 2 16 Tryd.underlying84 HIi1.out.1 HIi1.out.2.1 HIi1.out.2.2.1 HIi1.out.2.2.2 rfl (by decide) _ ys.length cells rfl (own_later HOWN.out ((Below.refl _ _).alloc (Nat.le_refl _) _)) _ 1 [.int .i64 px, .int .i64 py] rfl (Rd.of_heap (heap_new _ _ rfl) rfl rfl (by decide)) (by simp [Value.oneCell']) (ys.length + 1) rfl (by omega) (by unfold maxLen; omega) (by omega) (by simp; omega) ?_; intro g cap w5 hown5 hgrow5))
                  have hp := rowE_push (x := (px, py)) (spotE_ok _) HOWN.out HELS.out ((Below.refl _ _).alloc (Nat.le_refl _) _) hgrow5 hown5 rfl rfl
                  have RW5 := Lib.hid hp.1
                  have S6 := Lib.hid (S5.out.grown ((Below.refl _ _).alloc (Nat.le_refl _) _) hgrow5 (fun k hk => by have := hr.out k hk; omega))
                  have O6 := Lib.hid ((((O3.out.trans O4.out).trans O5.out).alloc _).grown hgrow5 hr.out)
                  clear hp hown5 hgrow5
                  go_wp2_with fail
                  exact ⟨⟨k2 + 1, s5, ys ++ [(px, py)], by go_num, RL2.out.step HBBN.out (by rw [bind_spot]; exact R4.out.bind (R5.out.bind (Rel.pure _ _))) hkm4, S6.out, RW5.out, O6.out⟩, by simp [intOf]; omega⟩
                | false =>
                  have hdn := Lib.hid (done_of hkm3 HGO.out HBBN.out)
                  have D3 : Hid (wb.heap[w.heap.size + 1 + 1]? = some (.cells #[vs, .slice none 0 0, .slice none 0 0] 64 (0, 0))) := O3.out.at (O2.out.at D.out (by omega) (by omega)) (by omega) (by omega)
                  have O7 : Hid (Oth W wb (w.heap.size + 1) (w.heap.size + 1 + 1)) := (O.out.trans (O2.out.oth _)).trans (OthR.oth O3.out _)
                  obtain ⟨ua, uc, hua⟩ := rowE_shape RW.out
                  subst hua
                  have k0 := cell_of D3.out (show (#[.slice ua xs.length uc, .slice none 0 0, .slice none 0 0] : Array Value)[0]? = some (.slice ua xs.length uc) from rfl)
                  obtain ⟨cells, hown, hels⟩ := rowE_oth stopE_ok (rowE_oth stopE_ok RW.out O2.out (.inl (by omega)) (.inl (by omega))) O3.out (.inl (by omega)) (.inl (by omega))
                  have HOWN := Lib.hid hown
                  have HELS := Lib.hid hels
                  have hrow3 : Hid (stopE xs wb (w.heap.size + 1 + 1 + 1) [.slice va ys.length vc] ys) := ⟨_, rfl, rowE_mono (spotE_ok 0) RW3.out (by omega)⟩
                  have hrel7 : Hid (Rel (listR (plainP l) (spotR (plainP l))) s' s3 ys) := by show Rel _ _ _ _; rw [bind_list]; exact R2.out.bind (RL2.out.done hdn.out)
                  clear hown hels
                  go_wp2_with (at_builtin; go_loud (refine wpList_append_own_g _ rfl _ _ 60 rfl (w.heap.size + 1 + 1 + 1) 84 i2 (.slice none 0 0) 1 24 Tryd.underlying60 HIi2.out.1 HIi2.out.2.1 HIi2.out.2.2.1 HIi2.out.2.2.2 rfl (by decide) _ xs.length cells rfl (own_later HOWN.out ((Below.refl _ _).alloc (Nat.le_refl _) _)) _ 1 [.slice va ys.length vc] rfl (Rd.of_heap (heap_new _ _ rfl) rfl rfl (by decide)) (by simp [Value.oneCell']) (xs.length + 1) rfl (by omega) (by unfold maxLen; omega) (by omega) (by simp; omega) ?_; intro g cap w5 hown5 hgrow5; go_loud (have hp := Lib.hid (obj_push (i := 0) stopE_ok S3.out D3.out HOWN.out HELS.out O7.out ((Below.refl _ _).alloc (Nat.le_refl _) _) hgrow5 hown5 hrow3.out rfl (by omega) (by omega) (by omega) (by omega) (by omega) (by have := HSZ.out; omega)); have k5 := hp.out.1 0 _ rfl; have z5 := hp.out.2.1 0; clear hown5 hgrow5 k0)))
                  go_wp2_with fail
                  exact ⟨⟨k + 1, s3, _, xs ++ [ys], by go_num, RL.out.step HBBN0.out hrel7.out hkm2, hp.out.2.2.1, hp.out.2.2.2.1, hp.out.2.2.2.2.1, hp.out.2.2.2.2.2.1⟩, by simp [intOf]; omega⟩
          -->
          | false =>
            have hdn := Lib.hid (done_of hkm HGO.out HBBN.out)
            have RST : Hid (Rel (listR (plainP l) (listR (plainP l) (spotR (plainP l)))) (some 4) s' xs) := by show Rel _ _ _ _; rw [bind_list]; exact R1.out.bind (RL.out.done hdn.out)
            clear RL R1 LE1 hdn HGO HBBN
            have C := Lib.hid (rplain_rel (w.heap.size + 1) w.heap.size l s' wa HBB.out S.out)
            go_wp2_with fail
            refine C.out.mono ?_
            rintro e w5 ⟨n3, s5, rfl, hrel5, ⟨hln3, hun3⟩, hs5, ho5⟩
            obtain ⟨m3, rfl⟩ : ∃ m3 : Nat, n3 = m3 := ⟨n3.toNat, by omega⟩
            have S5 := Lib.hid hs5
            have R5 := Lib.hid hrel5
            have O5 := Lib.hid ho5
            have LE5 := Lib.hid hs5.le
            have D5 : Hid (w5.heap[w.heap.size + 1 + 1]? = some (.cells #[vs, .slice none 0 0, .slice none 0 0] 64 (0, 0))) := ho5.at D.out (by omega) (by omega)
            have O6 : Hid (Oth W w5 (w.heap.size + 1) (w.heap.size + 1 + 1)) := O.out.trans (ho5.oth _)
            have RW5 := Lib.hid (rowE_oth stopE_ok RW.out ho5 (.inl (by omega)) (.inl (by omega)))
            clear hrel5 hs5 ho5 C O5 D O S RW hkm hsz1
            go_wp2_with fail
            go_loopw [12] (fun i wr => ∃ (k : Nat) (s' : Option Nat) (vm : Value) (ms : List MarkD), i = .int .i64 k ∧ RelN (markR (plainP l) (signR (numP l)) kdL) m3 k s5 s' ms ∧ RS wr (w.heap.size + 1) w.heap.size l s' ∧ wr.heap[w.heap.size + 1 + 1]? = some (.cells #[vs, vm, .slice none 0 0] 64 (0, 0)) ∧ rowE 84 1 stopE wr (w.heap.size + 1 + 1 + 1) vs xs ∧ rowE 89 2 markE wr (w.heap.size + 1 + 1 + 1) vm ms ∧ Oth W wr (w.heap.size + 1) (w.heap.size + 1 + 1)) (fun i _ => m3 - (intOf i).toNat)
            case atStart => exact ⟨0, s5, _, [], rfl, RelN.start _ _ _, S5.out, D5.out, RW5.out, rowE_nil _ _ _ _ _, O6.out⟩
            case round =>
              clear S5 D5 RW5 O6
              obtain ⟨k3, s6, vm, ms, rfl, hrl, hrs, hd, hrow, hrow2, hoth⟩ := hrel
              have kb := hrs.bad
              have hkm := hrl.le
              have hsz1 := heap_lt hd
              have RL := Lib.hid hrl
              have S6 := Lib.hid hrs
              have D := Lib.hid hd
              have RW := Lib.hid hrow
              have RWm := Lib.hid hrow2
              have O := Lib.hid hoth
              clear hrl hrs hd hrow hrow2 hoth
              obtain ⟨bb, hbb⟩ : ∃ bb, Option.isNone s6 = bb := ⟨_, rfl⟩
              have HBBN := Lib.hid hbb
              rw [hbb] at kb
              clear hbb
              obtain ⟨wa, hwq⟩ : ∃ wa, wa = wr := ⟨_, rfl⟩
              subst hwq
              go_upto_region 16 with fail
              go_cut [89] (fun sc wx => sc = .bool (decide (k3 < m3) && !bb) ∧ wx = wa)
              case first =>
                by_cases hkq : k3 < m3
                · have hkd : decide (k3 < m3) = true := decide_eq_true hkq
                  have hki : decide ((k3 : Int) < (m3 : Int)) = true := decide_eq_true (by omega)
                  cases bb with
                  | false =>
                    go_wp2_with fail
                    go_meet
                    exact ⟨by rw [hkd]; rfl, rfl⟩
                  | true =>
                    go_wp2_with fail
                    go_meet
                    exact ⟨by rw [hkd]; rfl, rfl⟩
                · have hkd : decide (k3 < m3) = false := decide_eq_false hkq
                  have hki : decide ((k3 : Int) < (m3 : Int)) = false := decide_eq_false (by omega)
                  go_wp2_with fail
                  go_meet
                  exact ⟨by rw [hkd]; rfl, rfl⟩
              case rest =>
                obtain ⟨rfl, hw9⟩ := hcut
                have hw10 := hw9.symm
                clear hw9
                subst hw10
                obtain ⟨go, hgo⟩ : ∃ go, (decide (k3 < m3) && !bb) = go := ⟨_, rfl⟩
                have HGO := Lib.hid hgo
                rw [hgo]
                clear hgo kb
                have HBBN0 := HBBN
                cases go with
                | true =>
                  --<
                  obtain ⟨hkm2, rfl⟩ := go_of HGO.out
                  have hk9 := RL.out.few (mark_cheap (fun k k' hk h0 => by unfold kdL at hk; cases hk; omega) (plain_cheap HBB.out) (sign_cheap HBB.out)) LE5.out HBBN.out
                  have hxk := Nat.le_of_eq RL.out.len
                  have C := Lib.hid (rplain_rel (w.heap.size + 1) w.heap.size l s6 wa HBB.out S6.out)
                  go_wp2_with fail
                  refine C.out.mono ?_
                  rintro e w2 ⟨stp, s7, rfl, hrel7, ⟨hlstp, hustp⟩, hs7, ho7⟩
                  have S7 := Lib.hid hs7
                  have R7 := Lib.hid hrel7
                  have O7 := Lib.hid ho7
                  have hsz2 : wa.heap.size ≤ w2.heap.size := ho7.size
                  clear hrel7 hs7 ho7 C
                  obtain ⟨W3, hW3⟩ : ∃ W3, W3 = w2.alloc (.cells #[.int .i64 stp, .slice none 0 0] 89) := ⟨_, rfl⟩
                  have hb3 : Below w2.heap.size w2 W3 := by rw [hW3]; exact (Below.refl _ _).alloc (Nat.le_refl _) _
                  have M3 : Hid (W3.heap[w2.heap.size]? = some (.cells #[.int .i64 stp, .slice none 0 0] 89 (0, 0))) := by show _ = _; rw [hW3]; exact heap_new _ _ rfl
                  have S8 := Lib.hid (S7.out.later hb3)
                  have hsz3 : w2.heap.size < W3.heap.size := heap_lt M3.out
                  have OA : Hid (Oth wa W3 (w.heap.size + 1) w2.heap.size) := (O7.out.oth _).later hb3
                  have HW3 := Lib.hid hW3
                  clear hb3 hW3
                  go_upto_region 19 with fail
                  rw [← HW3.out]
                  have C := Lib.hid (rplain_rel (w.heap.size + 1) w.heap.size l s7 W3 HBB.out S8.out)
                  go_wp2_with fail
                  refine C.out.mono ?_
                  rintro e w4 ⟨n4, s9, rfl, hrel9, ⟨hln4, hun4⟩, hs9, ho9⟩
                  obtain ⟨m4, rfl⟩ : ∃ m4 : Nat, n4 = m4 := ⟨n4.toNat, by omega⟩
                  have S9 := Lib.hid hs9
                  have R9 := Lib.hid hrel9
                  have O9 := Lib.hid ho9
                  have LE9 := Lib.hid hs9.le
                  have hsz4 : W3.heap.size ≤ w4.heap.size := ho9.size
                  have M4 : Hid (w4.heap[w2.heap.size]? = some (.cells #[.int .i64 stp, .slice none 0 0] 89 (0, 0))) := ho9.at M3.out (by omega) (by omega)
                  have OB : Hid (Oth wa w4 (w.heap.size + 1) w2.heap.size) := OA.out.trans (ho9.oth _)
                  clear hrel9 hs9 ho9 C M3 S8 OA O9
                  go_wp2_with fail
                  go_loopw [15] (fun i wr => ∃ (k2 : Nat) (s3 : Option Nat) (v : Value) (ls : List LocD), i = .int .i64 k2 ∧ RelN (locR (plainP l) (signR (numP l)) kdL) m4 k2 s9 s3 ls ∧ RS wr (w.heap.size + 1) w.heap.size l s3 ∧ wr.heap[w2.heap.size]? = some (.cells #[.int .i64 stp, v] 89 (0, 0)) ∧ rowE 91 6 locE wr w4.heap.size v ls ∧ Oth w4 wr (w.heap.size + 1) w2.heap.size) (fun i _ => m4 - (intOf i).toNat)
                  case atStart => exact ⟨0, s9, _, [], rfl, RelN.start _ _ _, S9.out, M4.out, rowE_nil _ _ _ _ _, Oth.refl _ _ _⟩
                  case round =>
                    clear M4 S9
                    obtain ⟨k2, s3, v, ls, rfl, hrl, hrs, hm, hrow, hoth⟩ := hrel
                    have kb := hrs.bad
                    have hkm3 := hrl.le
                    have RL2 := Lib.hid hrl
                    have S3 := Lib.hid hrs
                    have M := Lib.hid hm
                    have RW3 := Lib.hid hrow
                    have O3 := Lib.hid hoth
                    have hszb : w4.heap.size ≤ wr.heap.size := hoth.size
                    have hyk := Nat.le_of_eq hrl.len
                    obtain ⟨va, vc, hva⟩ := rowE_shape hrow
                    subst hva
                    clear hrl hrs hm hrow hoth
                    obtain ⟨bb, hbb⟩ : ∃ bb, Option.isNone s3 = bb := ⟨_, rfl⟩
                    have HBBN := Lib.hid hbb
                    rw [hbb] at kb
                    clear hbb
                    obtain ⟨wb, hwq⟩ : ∃ wb, wb = wr := ⟨_, rfl⟩
                    subst hwq
                    go_upto_region 20 with fail
                    go_cut [106] (fun sc wx => sc = .bool (decide (k2 < m4) && !bb) ∧ wx = wb)
                    case first =>
                      by_cases hkq : k2 < m4
                      · have hkd : decide (k2 < m4) = true := decide_eq_true hkq
                        have hki : decide ((k2 : Int) < (m4 : Int)) = true := decide_eq_true (by omega)
                        cases bb with
                        | false =>
                          go_wp2_with fail
                          go_meet
                          exact ⟨by rw [hkd]; rfl, rfl⟩
                        | true =>
                          go_wp2_with fail
                          go_meet
                          exact ⟨by rw [hkd]; rfl, rfl⟩
                      · have hkd : decide (k2 < m4) = false := decide_eq_false hkq
                        have hki : decide ((k2 : Int) < (m4 : Int)) = false := decide_eq_false (by omega)
                        go_wp2_with fail
                        go_meet
                        exact ⟨by rw [hkd]; rfl, rfl⟩
                    case rest =>
                      obtain ⟨rfl, hw9⟩ := hcut
                      have hw10 := hw9.symm
                      clear hw9
                      subst hw10
                      obtain ⟨go, hgo⟩ : ∃ go, (decide (k2 < m4) && !bb) = go := ⟨_, rfl⟩
                      have HGO := Lib.hid hgo
                      rw [hgo]
                      clear hgo kb
                      cases go with
                      | true =>
                        --<
                        obtain ⟨hkm4, rfl⟩ := go_of HGO.out
                        have hk8 := RL2.out.few (loc_cheap (fun k k' hk h0 => by unfold kdL at hk; cases hk; omega) (plain_cheap HBB.out) (sign_cheap HBB.out)) LE9.out HBBN.out
                        have C := Lib.hid (rplain_rel (w.heap.size + 1) w.heap.size l s3 wb HBB.out S3.out)
                        go_wp2_with fail
                        refine C.out.mono ?_
                        rintro e w10 ⟨dd, s10, rfl, hrel10, ⟨hldd, hudd⟩, hs10, ho10⟩
                        have S10 := Lib.hid hs10
                        have R10 := Lib.hid hrel10
                        have O10 := Lib.hid ho10
                        have hsz10 : wb.heap.size ≤ w10.heap.size := ho10.size
                        clear hrel10 hs10 ho10 C
                        obtain ⟨W11, hW11⟩ : ∃ W11, W11 = w10.alloc (.cells #[.int .i64 dd, .int .i64 0, .int .u8 0, .int .i64 0, .int .i64 0, .int .i64 0] 91) := ⟨_, rfl⟩
                        have hb11 : Below w10.heap.size w10 W11 := by rw [hW11]; exact (Below.refl _ _).alloc (Nat.le_refl _) _
                        have L11 : Hid (W11.heap[w10.heap.size]? = some (.cells #[.int .i64 dd, .int .i64 0, .int .u8 0, .int .i64 0, .int .i64 0, .int .i64 0] 91 (0, 0))) := by show _ = _; rw [hW11]; exact heap_new _ _ rfl
                        have S11 := Lib.hid (S10.out.later hb11)
                        have hsz11 : w10.heap.size < W11.heap.size := heap_lt L11.out
                        have P11 : Hid (Oth wb W11 (w.heap.size + 1) w10.heap.size) := (O10.out.oth _).later hb11
                        have HW11 := Lib.hid hW11
                        clear hb11 hW11 S10 O10
                        go_upto_region 23 with fail
                        rw [← HW11.out]
                        have C := Lib.hid (rplain_rel (w.heap.size + 1) w.heap.size l s10 W11 HBB.out S11.out)
                        go_wp2_with fail
                        refine C.out.mono ?_
                        rintro e w12 ⟨vv, s12, rfl, hrel12, ⟨hlvv, huvv⟩, hs12, ho12⟩
                        have S12 := Lib.hid hs12
                        have R12 := Lib.hid hrel12
                        have O12 := Lib.hid ho12
                        have L12 : Hid (w12.heap[w10.heap.size]? = some (.cells #[.int .i64 dd, .int .i64 0, .int .u8 0, .int .i64 0, .int .i64 0, .int .i64 0] 91 (0, 0))) := ho12.at L11.out (by omega) (by omega)
                        have P12 : Hid (Oth wb w12 (w.heap.size + 1) w10.heap.size) := P11.out.trans (ho12.oth _)
                        have S13 : Hid (RS (w12.setCell ⟨w10.heap.size, 1, none⟩ (.int .i64 vv)) (w.heap.size + 1) w.heap.size l s12) := S12.out.oth ((Oth.refl w12 w10.heap.size w10.heap.size).set 1 _) (by omega) (by omega) (by omega) (by omega)
                        have L13 : Hid ((w12.setCell ⟨w10.heap.size, 1, none⟩ (.int .i64 vv)).heap[w10.heap.size]? = some (.cells #[.int .i64 dd, .int .i64 vv, .int .u8 0, .int .i64 0, .int .i64 0, .int .i64 0] 91 (0, 0))) := heap_set L12.out
                        have P13 := Lib.hid (P12.out.set 1 (.int .i64 vv))
                        have z12 := unfrozen_of (i := 1) L12.out
                        have c12 := cell_of L12.out (show (#[.int .i64 dd, .int .i64 0, .int .u8 0, .int .i64 0, .int .i64 0, .int .i64 0] : Array Value)[1]? = some (.int .i64 0) from rfl)
                        clear hrel12 hs12 ho12 C L11 P11 S11 S12 L12 P12 HW11 O12
                        have C := Lib.hid (rplain_rel (w.heap.size + 1) w.heap.size l s12 (w12.setCell ⟨w10.heap.size, 1, none⟩ (.int .i64 vv)) HBB.out S13.out)
                        go_wp2_with fail
                        clear z12 c12
                        refine C.out.mono ?_
                        rintro e w14 ⟨kk, s14, rfl, hrel14, ⟨hlkk, hukk⟩, hs14, ho14⟩
                        have S14 := Lib.hid hs14
                        have R14 := Lib.hid hrel14
                        have O14 := Lib.hid ho14
                        have L14 : Hid (w14.heap[w10.heap.size]? = some (.cells #[.int .i64 dd, .int .i64 vv, .int .u8 0, .int .i64 0, .int .i64 0, .int .i64 0] 91 (0, 0))) := ho14.at L13.out (by omega) (by omega)
                        have P14 : Hid (Oth wb w14 (w.heap.size + 1) w10.heap.size) := P13.out.trans (ho14.oth _)
                        have z14 := unfrozen_of (i := 2) L14.out
                        have c14 := cell_of L14.out (show (#[.int .i64 dd, .int .i64 vv, .int .u8 0, .int .i64 0, .int .i64 0, .int .i64 0] : Array Value)[2]? = some (.int .u8 0) from rfl)
                        clear hrel14 hs14 ho14 C L13 P13 S13 O14
                        obtain ⟨kq, hkq⟩ : ∃ kq, (if 9 < kk then (9 : Int) else kk) = kq := ⟨_, rfl⟩
                        have hkb : 0 ≤ kq ∧ kq ≤ 9 ∧ min kk 9 = kq := by rw [← hkq]; split <;> omega
                        have HKQ := Lib.hid hkb.2.2
                        have hk0 := hkb.1
                        have hk9b := hkb.2.1
                        clear hkb
                        go_upto_region 25 with fail
                        try rw [hkq]
                        obtain ⟨W15, hW15⟩ : ∃ W15, W15 = w14.setCell ⟨w10.heap.size, 2, none⟩ (.int .u8 kq) := ⟨_, rfl⟩
                        have S15 : Hid (RS W15 (w.heap.size + 1) w.heap.size l s14) := by show RS _ _ _ _ _; rw [hW15]; exact S14.out.oth ((Oth.refl w14 w10.heap.size w10.heap.size).set 2 _) (by omega) (by omega) (by omega) (by omega)
                        have L15 : Hid (W15.heap[w10.heap.size]? = some (.cells #[.int .i64 dd, .int .i64 vv, .int .u8 kq, .int .i64 0, .int .i64 0, .int .i64 0] 91 (0, 0))) := by show _ = _; rw [hW15]; exact heap_set L14.out
                        have P15 : Hid (Oth wb W15 (w.heap.size + 1) w10.heap.size) := by show Oth _ _ _ _; rw [hW15]; exact P14.out.set 2 _
                        rw [← hW15]
                        have k15 := cell_of L15.out (show (#[.int .i64 dd, .int .i64 vv, .int .u8 kq, .int .i64 0, .int .i64 0, .int .i64 0] : Array Value)[2]? = some (.int .u8 kq) from rfl)
                        clear hkq hW15 z14 c14 L14 P14 S14
                        go_upto_if 122 with fail
                        go_cut [] (fun wx => ∃ (sX : Option Nat) (ar xa : Int), RS wx (w.heap.size + 1) w.heap.size l sX ∧ wx.heap[w10.heap.size]? = some (.cells #[.int .i64 dd, .int .i64 vv, .int .u8 kq, .int .i64 ar, .int .i64 xa, .int .i64 0] 91 (0, 0)) ∧ Oth wb wx (w.heap.size + 1) w10.heap.size ∧ ∀ sY xb, Rel (signR (numP l)) sX sY xb → Rel (locTail (plainP l) (signR (numP l)) dd vv kq) s14 sY ⟨dd, vv, kq, ar, xa, xb⟩)
                        case first =>
                          by_cases k1 : kq = 1
                          · subst k1
                            go_wp2_with fail
                            go_meet
                            exact ⟨s14, 0, 0, S15.out, L15.out, P15.out, fun sY xb h => by rw [bind_tail1]; exact h.bind (Rel.pure _ _)⟩
                          · have k2' : (kq == 1) = false := by simp [k1]
                            have k3' : (kq != 1) = true := by simp [k1]
                            have HK1 := Lib.hid k1
                            have C := Lib.hid (rplain_rel (w.heap.size + 1) w.heap.size l s14 W15 HBB.out S15.out)
                            go_wp2_with fail
                            refine C.out.mono ?_
                            rintro e w16 ⟨ar, s16, rfl, hrel16, ⟨hlar, huar⟩, hs16, ho16⟩
                            have S16 := Lib.hid hs16
                            have R16 := Lib.hid hrel16
                            have O16 := Lib.hid ho16
                            have L16 : Hid (w16.heap[w10.heap.size]? = some (.cells #[.int .i64 dd, .int .i64 vv, .int .u8 kq, .int .i64 0, .int .i64 0, .int .i64 0] 91 (0, 0))) := ho16.at L15.out (by omega) (by omega)
                            have P16 : Hid (Oth wb w16 (w.heap.size + 1) w10.heap.size) := P15.out.trans (ho16.oth _)
                            have S17 : Hid (RS (w16.setCell ⟨w10.heap.size, 3, none⟩ (.int .i64 ar)) (w.heap.size + 1) w.heap.size l s16) := S16.out.oth ((Oth.refl w16 w10.heap.size w10.heap.size).set 3 _) (by omega) (by omega) (by omega) (by omega)
                            have L17 : Hid ((w16.setCell ⟨w10.heap.size, 3, none⟩ (.int .i64 ar)).heap[w10.heap.size]? = some (.cells #[.int .i64 dd, .int .i64 vv, .int .u8 kq, .int .i64 ar, .int .i64 0, .int .i64 0] 91 (0, 0))) := heap_set L16.out
                            have P17 := Lib.hid (P16.out.set 3 (.int .i64 ar))
                            have z16 := unfrozen_of (i := 3) L16.out
                            have c16 := cell_of L16.out (show (#[.int .i64 dd, .int .i64 vv, .int .u8 kq, .int .i64 0, .int .i64 0, .int .i64 0] : Array Value)[3]? = some (.int .i64 0) from rfl)
                            clear hrel16 hs16 ho16 C L15 P15 S15 S16 L16 P16 O16 k15
                            have C := Lib.hid (rsigned_rel (w.heap.size + 1) w.heap.size l s16 (w16.setCell ⟨w10.heap.size, 3, none⟩ (.int .i64 ar)) HBB.out S17.out)
                            go_wp2_with fail
                            clear z16 c16
                            refine C.out.mono ?_
                            rintro e w18 ⟨xa, s18, rfl, hrel18, hs18, ho18⟩
                            have S18 := Lib.hid hs18
                            have R18 := Lib.hid hrel18
                            have O18 := Lib.hid ho18
                            have L18 : Hid (w18.heap[w10.heap.size]? = some (.cells #[.int .i64 dd, .int .i64 vv, .int .u8 kq, .int .i64 ar, .int .i64 0, .int .i64 0] 91 (0, 0))) := ho18.at L17.out (by omega) (by omega)
                            have P18 : Hid (Oth wb w18 (w.heap.size + 1) w10.heap.size) := P17.out.trans (ho18.oth _)
                            have S19 : Hid (RS (w18.setCell ⟨w10.heap.size, 4, none⟩ (.int .i64 xa)) (w.heap.size + 1) w.heap.size l s18) := S18.out.oth ((Oth.refl w18 w10.heap.size w10.heap.size).set 4 _) (by omega) (by omega) (by omega) (by omega)
                            have L19 : Hid ((w18.setCell ⟨w10.heap.size, 4, none⟩ (.int .i64 xa)).heap[w10.heap.size]? = some (.cells #[.int .i64 dd, .int .i64 vv, .int .u8 kq, .int .i64 ar, .int .i64 xa, .int .i64 0] 91 (0, 0))) := heap_set L18.out
                            have P19 := Lib.hid (P18.out.set 4 (.int .i64 xa))
                            have z18 := unfrozen_of (i := 4) L18.out
                            have c18 := cell_of L18.out (show (#[.int .i64 dd, .int .i64 vv, .int .u8 kq, .int .i64 ar, .int .i64 0, .int .i64 0] : Array Value)[4]? = some (.int .i64 0) from rfl)
                            clear hrel18 hs18 ho18 C L17 P17 S17 S18 L18 P18 O18
                            go_wp2_with fail
                            go_meet
                            exact ⟨s18, ar, xa, S19.out, L19.out, P19.out, fun sY xb h => by rw [bind_tail HK1.out]; exact R16.out.bind (R18.out.bind (h.bind (Rel.pure _ _)))⟩
                        case rest =>
                          obtain ⟨sX, ar, xa, hsX, hlX, hoX, htl⟩ := hcut
                          obtain ⟨w19, hw19⟩ : ∃ w19, w19 = wc := ⟨_, rfl⟩
                          subst hw19
                          have L19 := Lib.hid hlX
                          have P19 := Lib.hid hoX
                          have S19 := Lib.hid hsX
                          have HTL := Lib.hid htl
                          clear hsX hlX hoX htl L15 P15 S15 k15
                          have C := Lib.hid (rsigned_rel (w.heap.size + 1) w.heap.size l sX w19 HBB.out S19.out)
                          go_wp2_with fail
                          refine C.out.mono ?_
                          rintro e w20 ⟨xb, sY, rfl, hrel20, hs20, ho20⟩
                          have S20 := Lib.hid hs20
                          have R20 := Lib.hid hrel20
                          have O20 := Lib.hid ho20
                          have L20 : Hid (w20.heap[w10.heap.size]? = some (.cells #[.int .i64 dd, .int .i64 vv, .int .u8 kq, .int .i64 ar, .int .i64 xa, .int .i64 0] 91 (0, 0))) := ho20.at L19.out (by omega) (by omega)
                          have P20 : Hid (Oth wb w20 (w.heap.size + 1) w10.heap.size) := P19.out.trans (ho20.oth _)
                          have S21 : Hid (RS (w20.setCell ⟨w10.heap.size, 5, none⟩ (.int .i64 xb)) (w.heap.size + 1) w.heap.size l sY) := S20.out.oth ((Oth.refl w20 w10.heap.size w10.heap.size).set 5 _) (by omega) (by omega) (by omega) (by omega)
                          have L21 : Hid ((w20.setCell ⟨w10.heap.size, 5, none⟩ (.int .i64 xb)).heap[w10.heap.size]? = some (.cells #[.int .i64 dd, .int .i64 vv, .int .u8 kq, .int .i64 ar, .int .i64 xa, .int .i64 xb] 91 (0, 0))) := heap_set L20.out
                          have P21 := Lib.hid (P20.out.set 5 (.int .i64 xb))
                          have z20 := unfrozen_of (i := 5) L20.out
                          have c20 := cell_of L20.out (show (#[.int .i64 dd, .int .i64 vv, .int .u8 kq, .int .i64 ar, .int .i64 xa, .int .i64 0] : Array Value)[5]? = some (.int .i64 0) from rfl)
                          clear hrel20 hs20 ho20 C L19 P19 S19 S20 L20 P20 O20
                          go_upto_region 29 with fail
                          clear z20 c20
                          obtain ⟨W21, hW21⟩ : ∃ W21, W21 = w20.setCell ⟨w10.heap.size, 5, none⟩ (.int .i64 xb) := ⟨_, rfl⟩
                          rw [← hW21]
                          rw [← hW21] at S21 L21 P21
                          clear hW21
                          have M21 : Hid (W21.heap[w2.heap.size]? = some (.cells #[.int .i64 stp, .slice va ls.length vc] 89 (0, 0))) := P21.out.at M.out (by omega) (by omega)
                          have hs21 : wb.heap.size ≤ W21.heap.size := P21.out.size
                          have k0 := cell_of M21.out (show (#[.int .i64 stp, .slice va ls.length vc] : Array Value)[1]? = some (.slice va ls.length vc) from rfl)
                          have q0 := cell_of L21.out (show (#[.int .i64 dd, .int .i64 vv, .int .u8 kq, .int .i64 ar, .int .i64 xa, .int .i64 xb] : Array Value)[0]? = _ from rfl)
                          have q1 := cell_of L21.out (show (#[.int .i64 dd, .int .i64 vv, .int .u8 kq, .int .i64 ar, .int .i64 xa, .int .i64 xb] : Array Value)[1]? = _ from rfl)
                          have q2 := cell_of L21.out (show (#[.int .i64 dd, .int .i64 vv, .int .u8 kq, .int .i64 ar, .int .i64 xa, .int .i64 xb] : Array Value)[2]? = _ from rfl)
                          have q3 := cell_of L21.out (show (#[.int .i64 dd, .int .i64 vv, .int .u8 kq, .int .i64 ar, .int .i64 xa, .int .i64 xb] : Array Value)[3]? = _ from rfl)
                          have q4 := cell_of L21.out (show (#[.int .i64 dd, .int .i64 vv, .int .u8 kq, .int .i64 ar, .int .i64 xa, .int .i64 xb] : Array Value)[4]? = _ from rfl)
                          have q5 := cell_of L21.out (show (#[.int .i64 dd, .int .i64 vv, .int .u8 kq, .int .i64 ar, .int .i64 xa, .int .i64 xb] : Array Value)[5]? = _ from rfl)
                          obtain ⟨cells, hown, hels⟩ := rowE_oth (locE_ok 0) RW3.out P21.out (.inl (by omega)) (.inr (by omega))
                          have HOWN := Lib.hid hown
                          have HELS := Lib.hid hels
                          have O21 : Hid (Oth w4 W21 (w.heap.size + 1) w2.heap.size) := O3.out.on P21.out (.inl (by omega))
                          have hrel7 : Hid (Rel (locR (plainP l) (signR (numP l)) kdL) s3 sY ⟨dd, vv, kq, ar, xa, xb⟩) := by
                            show Rel _ _ _ _
                            rw [bind_loc]
                            refine R10.out.bind (R12.out.bind (R14.out.bind ?_))
                            show Rel (locTail _ _ dd vv (min kk 9)) _ _ _
                            rw [HKQ.out]
                            exact HTL.out _ _ R20.out
                          clear hown hels
                          go_wp2_with (at_builtin; go_loud (refine wpList_append_own_g _ rfl _ _ 87 rfl (w4.heap.size) 91 i4 (.agg #[.int .i64 0, .int .i64 0, .int .u8 0, .int .i64 0, .int .i64 0, .int .i64 0]) 6 48 Tryd.underlying87 HIi4.out.1 HIi4.out.2.1 HIi4.out.2.2.1 HIi4.out.2.2.2 rfl (by decide) _ ls.length cells rfl (own_later HOWN.out ((Below.refl _ _).alloc (Nat.le_refl _) _)) _ 1 [.int .i64 dd, .int .i64 vv, .int .u8 kq, .int .i64 ar, .int .i64 xa, .int .i64 xb] rfl (Rd.of_heap (heap_new _ _ rfl) rfl rfl (by decide)) (by simp [Value.oneCell']) (ls.length + 1) rfl (by omega) (by unfold maxLen; omega) (by omega) (by simp; omega) ?_; intro g cap w8 hown5 hgrow5; have hp := Lib.hid (obj_push (i := 1) (x := ⟨dd, vv, kq, ar, xa, xb⟩) (locE_ok _) S21.out M21.out HOWN.out HELS.out O21.out ((Below.refl _ _).alloc (Nat.le_refl _) _) hgrow5 hown5 rfl rfl (by omega) (by omega) (by omega) (by omega) (by omega) (by omega)); have k5 := hp.out.1 1 _ rfl; have z5 := hp.out.2.1 1; clear hown5 hgrow5 k0 q0 q1 q2 q3 q4 q5))
                          go_wp2_with fail
                          exact ⟨⟨k2 + 1, sY, _, ls ++ [⟨dd, vv, kq, ar, xa, xb⟩], by go_num, RL2.out.step HBBN.out hrel7.out hkm4, hp.out.2.2.1, hp.out.2.2.2.1, hp.out.2.2.2.2.1, hp.out.2.2.2.2.2.1⟩, by simp [intOf]; omega⟩
                        -->
                      | false =>
                        --<
                        have hdn := Lib.hid (done_of hkm3 HGO.out HBBN.out)
                        have OC : Hid (Oth wa wb (w.heap.size + 1) w2.heap.size) := OB.out.trans O3.out
                        have D3 : Hid (wb.heap[w.heap.size + 1 + 1]? = some (.cells #[vs, vm, .slice none 0 0] 64 (0, 0))) := OC.out.at D.out (by omega) (by omega)
                        have O7' : Hid (Oth W wb (w.heap.size + 1) (w.heap.size + 1 + 1)) := O.out.on OC.out (.inl (by have := O.out.size; omega))
                        obtain ⟨ua, uc, hua⟩ := rowE_shape RWm.out
                        subst hua
                        have k0 := cell_of D3.out (show (#[vs, .slice ua ms.length uc, .slice none 0 0] : Array Value)[1]? = some (.slice ua ms.length uc) from rfl)
                        have m0 := cell_of M.out (show (#[.int .i64 stp, .slice va ls.length vc] : Array Value)[0]? = some (.int .i64 stp) from rfl)
                        have m1 := cell_of M.out (show (#[.int .i64 stp, .slice va ls.length vc] : Array Value)[1]? = some (.slice va ls.length vc) from rfl)
                        obtain ⟨cells, hown, hels⟩ := rowE_oth markE_ok RWm.out OC.out (.inl (by omega)) (.inr (by omega))
                        have HOWN := Lib.hid hown
                        have HELS := Lib.hid hels
                        have RWs := Lib.hid (rowE_oth stopE_ok RW.out OC.out (.inl (by omega)) (.inr (by omega)))
                        have hrow3 : Hid (markE ms wb (w.heap.size + 1 + 1 + 1) [.int .i64 stp, .slice va ls.length vc] ⟨stp, ls⟩) := ⟨_, rfl, rowE_mono (locE_ok 0) RW3.out (by omega)⟩
                        have hrel7 : Hid (Rel (markR (plainP l) (signR (numP l)) kdL) s6 s3 ⟨stp, ls⟩) := by
                          show Rel _ _ _ _
                          rw [bind_mark]
                          refine R7.out.bind (Rel.bind ?_ (Rel.pure _ _))
                          rw [bind_list]
                          exact R9.out.bind (RL2.out.done hdn.out)
                        clear hown hels
                        go_wp2_with (at_builtin; go_loud (refine wpList_append_own_g _ rfl _ _ 61 rfl (w.heap.size + 1 + 1 + 1) 89 i3 (.agg #[.int .i64 0, .slice none 0 0]) 2 32 Tryd.underlying61 HIi3.out.1 HIi3.out.2.1 HIi3.out.2.2.1 HIi3.out.2.2.2 rfl (by decide) _ ms.length cells rfl (own_later HOWN.out ((Below.refl _ _).alloc (Nat.le_refl _) _)) _ 1 [.int .i64 stp, .slice va ls.length vc] rfl (Rd.of_heap (heap_new _ _ rfl) rfl rfl (by decide)) (by simp [Value.oneCell']) (ms.length + 1) rfl (by omega) (by unfold maxLen; omega) (by omega) (by simp; omega) ?_; intro g cap w8 hown5 hgrow5; have hp := Lib.hid (obj_push (i := 1) markE_ok S3.out D3.out HOWN.out HELS.out O7'.out ((Below.refl _ _).alloc (Nat.le_refl _) _) hgrow5 hown5 hrow3.out rfl (by omega) (by omega) (by omega) (by omega) (by omega) (by have := HSZ.out; omega)); have k5 := hp.out.1 1 _ rfl; have z5 := hp.out.2.1 1; clear hown5 hgrow5 k0 m0 m1))
                        go_wp2_with fail
                        exact ⟨⟨k3 + 1, s3, _, ms ++ [⟨stp, ls⟩], by go_num, RL.out.step HBBN0.out hrel7.out hkm2, hp.out.2.2.1, hp.out.2.2.2.1, rowE_stays (stopE_okT (by decide)) (by decide) RWs.out hp.out.2.2.2.2.2.2, hp.out.2.2.2.2.1, hp.out.2.2.2.2.2.1⟩, by simp [intOf]; omega⟩
                        -->
                  -->
                | false =>
                  have hdn := Lib.hid (done_of hkm HGO.out HBBN.out)
                  have RMK : Hid (Rel (listR (plainP l) (markR (plainP l) (signR (numP l)) kdL)) s' s6 ms) := by show Rel _ _ _ _; rw [bind_list]; exact R5.out.bind (RL.out.done hdn.out)
                  clear RL R5 LE5 hdn HGO HBBN HBBN0
                  have C := Lib.hid (rplain_rel (w.heap.size + 1) w.heap.size l s6 wa HBB.out S6.out)
                  go_wp2_with fail
                  refine C.out.mono ?_
                  rintro e w7 ⟨n7, s7, rfl, hrel7, ⟨hln7, hun7⟩, hs7, ho7⟩
                  obtain ⟨m7, rfl⟩ : ∃ m7 : Nat, n7 = m7 := ⟨n7.toNat, by omega⟩
                  have S7 := Lib.hid hs7
                  have R7 := Lib.hid hrel7
                  have LE7 := Lib.hid hs7.le
                  have D7 : Hid (w7.heap[w.heap.size + 1 + 1]? = some (.cells #[vs, vm, .slice none 0 0] 64 (0, 0))) := ho7.at D.out (by omega) (by omega)
                  have O7 : Hid (Oth W w7 (w.heap.size + 1) (w.heap.size + 1 + 1)) := O.out.trans (ho7.oth _)
                  have RW7 := Lib.hid (rowE_oth stopE_ok RW.out ho7 (.inl (by omega)) (.inl (by omega)))
                  have RWm7 := Lib.hid (rowE_oth markE_ok RWm.out ho7 (.inl (by omega)) (.inl (by omega)))
                  clear hrel7 hs7 ho7 C D O S6 RW RWm hkm hsz1
                  go_wp2_with fail
                  go_loopw [18, 19] (fun la i wr => ∃ (k : Nat) (s8 : Option Nat) (vt : Value) (ds : List (Int × Int)), la = .int .i64 (sumD ds) ∧ i = .int .i64 k ∧ RelN (spotR (plainP l)) m7 k s7 s8 ds ∧ RS wr (w.heap.size + 1) w.heap.size l s8 ∧ wr.heap[w.heap.size + 1 + 1]? = some (.cells #[vs, vm, vt] 64 (0, 0)) ∧ rowE 84 1 stopE wr (w.heap.size + 1 + 1 + 1) vs xs ∧ rowE 89 2 markE wr (w.heap.size + 1 + 1 + 1) vm ms ∧ rowE 68 2 siteE wr (w.heap.size + 1 + 1 + 1) vt ds ∧ Oth W wr (w.heap.size + 1) (w.heap.size + 1 + 1) ∧ 0 ≤ sumD ds ∧ sumD ds ≤ k * 2147483647) (fun _ i _ => m7 - (intOf i).toNat)
                  case atStart => exact ⟨0, s7, _, [], rfl, rfl, RelN.start _ _ _, S7.out, D7.out, RW7.out, RWm7.out, rowE_nil _ _ _ _ _, O7.out, by simp [sumD], by simp [sumD]⟩
                  case round =>
                    clear S7 D7 RW7 RWm7 O7
                    obtain ⟨k4, s8, vt, ds, rfl, rfl, hrl, hrs, hd, hrow, hrow2, hrow3, hoth, hsm0, hsm1⟩ := hrel
                    obtain ⟨sm, hsm⟩ : ∃ sm, sumD ds = sm := ⟨_, rfl⟩
                    rw [hsm] at hsm0 hsm1 ⊢
                    have HSM := Lib.hid hsm
                    have kb := hrs.bad
                    have hkm := hrl.le
                    have hsz1 := heap_lt hd
                    have RL := Lib.hid hrl
                    have S8 := Lib.hid hrs
                    have D := Lib.hid hd
                    have RW := Lib.hid hrow
                    have RWm := Lib.hid hrow2
                    have RWt := Lib.hid hrow3
                    have O := Lib.hid hoth
                    clear hrl hrs hd hrow hrow2 hrow3 hoth hsm
                    obtain ⟨bb, hbb⟩ : ∃ bb, Option.isNone s8 = bb := ⟨_, rfl⟩
                    have HBBN := Lib.hid hbb
                    rw [hbb] at kb
                    clear hbb
                    obtain ⟨wa, hwq⟩ : ∃ wa, wa = wr := ⟨_, rfl⟩
                    subst hwq
                    go_upto_region 33 with fail
                    go_cut [155] (fun sc wx => sc = .bool (decide (k4 < m7) && !bb) ∧ wx = wa)
                    case first =>
                      by_cases hkq : k4 < m7
                      · have hkd : decide (k4 < m7) = true := decide_eq_true hkq
                        have hki : decide ((k4 : Int) < (m7 : Int)) = true := decide_eq_true (by omega)
                        cases bb with
                        | false =>
                          go_wp2_with fail
                          go_meet
                          exact ⟨by rw [hkd]; rfl, rfl⟩
                        | true =>
                          go_wp2_with fail
                          go_meet
                          exact ⟨by rw [hkd]; rfl, rfl⟩
                      · have hkd : decide (k4 < m7) = false := decide_eq_false hkq
                        have hki : decide ((k4 : Int) < (m7 : Int)) = false := decide_eq_false (by omega)
                        go_wp2_with fail
                        go_meet
                        exact ⟨by rw [hkd]; rfl, rfl⟩
                    case rest =>
                      obtain ⟨rfl, hw9⟩ := hcut
                      have hw10 := hw9.symm
                      clear hw9
                      subst hw10
                      obtain ⟨go, hgo⟩ : ∃ go, (decide (k4 < m7) && !bb) = go := ⟨_, rfl⟩
                      have HGO := Lib.hid hgo
                      rw [hgo]
                      clear hgo kb
                      cases go with
                      | true =>
                        obtain ⟨hkm2, rfl⟩ := go_of HGO.out
                        have hk9 := RL.out.few (spot_cheap (plain_cheap HBB.out)) LE7.out HBBN.out
                        have hxk := Nat.le_of_eq RL.out.len
                        have C := Lib.hid (rplain_rel (w.heap.size + 1) w.heap.size l s8 wa HBB.out S8.out)
                        go_wp2_with fail
                        refine C.out.mono ?_
                        rintro e w8 ⟨dx, s9, rfl, hrel9, ⟨hldx, hudx⟩, hs9, ho9⟩
                        have S9 := Lib.hid hs9
                        have R9 := Lib.hid hrel9
                        have hsz8 : wa.heap.size ≤ w8.heap.size := ho9.size
                        have D9 : Hid (w8.heap[w.heap.size + 1 + 1]? = some (.cells #[vs, vm, vt] 64 (0, 0))) := ho9.at D.out (by omega) (by omega)
                        have O9 : Hid (Oth W w8 (w.heap.size + 1) (w.heap.size + 1 + 1)) := O.out.trans (ho9.oth _)
                        have RW9 := Lib.hid (rowE_oth stopE_ok RW.out ho9 (.inl (by omega)) (.inl (by omega)))
                        have RWm9 := Lib.hid (rowE_oth markE_ok RWm.out ho9 (.inl (by omega)) (.inl (by omega)))
                        have RWt9 := Lib.hid (rowE_oth (siteE_ok 0) RWt.out ho9 (.inl (by omega)) (.inl (by omega)))
                        clear hrel9 hs9 ho9 C D O S8 RW RWm RWt
                        obtain ⟨ua, uc, hua⟩ := rowE_shape RWt9.out
                        subst hua
                        have k9 := cell_of D9.out (show (#[vs, vm, .slice ua ds.length uc] : Array Value)[2]? = some (.slice ua ds.length uc) from rfl)
                        have C := Lib.hid (rplain_rel (w.heap.size + 1) w.heap.size l s9 w8.drew HBB.out (S9.out.later (Below.refl _ _).drew))
                        have b1 : ds.length + 1 ≤ maxLen := by unfold maxLen; omega
                        have b2 : (ds.length + 1) * 16 ≤ 140737488355328 := by omega
                        go_upto_region 36 with fail
                        go_region_law (first
                          | (go_simp; go_at_call 30; refine C.out.mono ?_; rintro e wb ⟨mk, sb, rfl, hrelb, ⟨hlmk, humk⟩, hsb, hob⟩; have Sb := Lib.hid hsb; have Rb := Lib.hid hrelb; have Db : Hid (wb.heap[w.heap.size + 1 + 1]? = some (.cells #[vs, vm, .slice ua ds.length uc] 64 (0, 0))) := hob.at D9.out (by omega) (by omega); have Ob : Hid (Oth W wb (w.heap.size + 1) (w.heap.size + 1 + 1)) := (O9.out.later (Below.refl _ _).drew).trans (hob.oth _); have RWb := Lib.hid (rowE_oth stopE_ok RW9.out (Oth.before (Below.refl _ _).drew hob) (.inl (by omega)) (.inl (by omega))); have RWmb := Lib.hid (rowE_oth markE_ok RWm9.out (Oth.before (Below.refl _ _).drew hob) (.inl (by omega)) (.inl (by omega))); have RWtb := Lib.hid (rowE_oth (siteE_ok 0) RWt9.out (Oth.before (Below.refl _ _).drew hob) (.inl (by omega)) (.inl (by omega))); have kb9 := cell_of Db.out (show (#[vs, vm, .slice ua ds.length uc] : Array Value)[2]? = some (.slice ua ds.length uc) from rfl); have kba : ∀ o, (wb.alloc o).cell? ⟨w.heap.size + 1 + 1, 2, none⟩ = some (.slice ua ds.length uc) := (fun o => cell_of (heap_old _ o Db.out) rfl); have hbsz : w8.heap.size ≤ wb.heap.size := hob.size; obtain ⟨cells, hown, hels⟩ := RWtb.out; have HOWN := Lib.hid hown; have HELS := Lib.hid hels; clear hrelb hsb hob hown hels)
                          | (refine step_append_own_rd rfl _ _ 62 rfl (w.heap.size + 1 + 1 + 1) 68 i5 (.agg #[.int .i64 0, .int .i64 0]) 2 16 Tryd.underlying62 HIi5.out.1 HIi5.out.2.1 HIi5.out.2.2.1 HIi5.out.2.2.2 rfl (by decide) _ ds.length cells rfl (own_later HOWN.out ((Below.refl _ _).alloc (Nat.le_refl _) _)) _ 1 [.int .i64 (sm + dx), .int .i64 mk] rfl (Rd.of_heap (heap_new _ _ rfl) rfl rfl (by decide)) (by simp [Value.oneCell']) b1 b2 (by simp; omega) ?_; intro v2 w2 hown2 hgrow2; obtain ⟨g2, c2, rfl⟩ := own_some hown2; have hp := Lib.hid (obj_push (i := 2) (x := (dx, mk)) (siteE_ok _) Sb.out Db.out HOWN.out HELS.out Ob.out ((Below.refl _ _).alloc (Nat.le_refl _) _) hgrow2 hown2 (by show _ = _; rw [HSM.out]) rfl (by omega) (by omega) (by omega) (by omega) (by omega) (by have := HSZ.out; omega)); have k5 := hp.out.1 2 _ rfl; have z5 := hp.out.2.1 2; clear hown2 hgrow2))
                        all_goals
                          go_wp2_with fail
                          exact ⟨⟨k4 + 1, sb, _, ds ++ [(dx, mk)], by rw [sumD_snoc, HSM.out], by go_num, RL.out.step HBBN.out (by rw [bind_spot]; exact R9.out.bind (Rb.out.bind (Rel.pure _ _))) hkm2, hp.out.2.2.1, hp.out.2.2.2.1, rowE_stays (stopE_okT (by decide)) (by decide) RWb.out hp.out.2.2.2.2.2.2, rowE_stays (markE_okT (by decide)) (by decide) RWmb.out hp.out.2.2.2.2.2.2, hp.out.2.2.2.2.1, hp.out.2.2.2.2.2.1, by rw [sumD_snoc, HSM.out]; show 0 ≤ sm + dx; omega, by rw [sumD_snoc, HSM.out]; show sm + dx ≤ _; omega⟩, by simp [intOf]; omega⟩
                      | false =>
                        have hdn := Lib.hid (done_of hkm HGO.out HBBN.out)
                        have RALL : Hid (Rel (lenR l) (some 4) s8 ⟨xs, ms, sitesOf 0 ds⟩) := by
                          show Rel _ _ _ _
                          unfold lenR
                          rw [bind_all]
                          refine RST.out.bind (RMK.out.bind (Rel.bind ?_ (Rel.pure _ _)))
                          rw [bind_list]
                          exact R7.out.bind (RL.out.done hdn.out)
                        have DBG : Hid (RdD wa vs vm vt ⟨xs, ms, sitesOf 0 ds⟩) := (DebIn.mk RW.out RWm.out RWt.out).rd
                        obtain ⟨DD, hDD⟩ : ∃ DD : DebD, DD = ⟨xs, ms, sitesOf 0 ds⟩ := ⟨_, rfl⟩
                        have HDD := Lib.hid hDD
                        rw [← hDD] at RALL DBG
                        clear hdn RST RMK R7 RL LE7 HGO hDD
                        have hbwa : Below w.heap.size w wa := HBW.out.trans (O.out.below (by have := HSZ.out; omega) (by omega) (by omega))
                        have HBWA := Lib.hid hbwa
                        have hz := O.out.at HZ0.out (by omega) (by omega)
                        have zr0 := cell_of hz (show (#[Value.slice none 0 0, .slice none 0 0, .slice none 0 0] : Array Value)[0]? = _ from rfl)
                        have zr1 := cell_of hz (show (#[Value.slice none 0 0, .slice none 0 0, .slice none 0 0] : Array Value)[1]? = _ from rfl)
                        have zr2 := cell_of hz (show (#[Value.slice none 0 0, .slice none 0 0, .slice none 0 0] : Array Value)[2]? = _ from rfl)
                        have zf : ∀ i, wa.frozen? ⟨w.heap.size, i, none⟩ = false := fun i => unfrozen_of hz
                        have HZA := Lib.hid hz
                        clear hz hbwa
                        have kb := S8.out.bad
                        rw [HBBN.out] at kb
                        cases bb with
                        | true =>
                          have HN := Lib.hid (refDec_bad HM.out RALL.out HBBN.out)
                          go_upto_region 37 with fail
                          go_quiet (fail)
                          go_wp2_with fail
                          refine bodyPost_ret (v := .tuple #[.agg #[.slice none 0 0, .slice none 0 0, .slice none 0 0], .bool false]) ?_ rfl (refIs_no HN.out ?_)
                          · simp [results, Tryd.results21, go_sem, zr0, zr1, zr2]
                          · repeat (with_reducible (first | exact HBWA.out | refine below_drewN ?_ _ | refine Below.drew ?_ | refine Below.setCell ?_ ?_ _ | exact Nat.le_refl _))
                        | false =>
                          obtain ⟨hlen4, hrd⟩ := refDec_of HM.out RALL.out HBBN.out
                          have HRD := Lib.hid hrd
                          obtain ⟨b4, hlen5⟩ := hlen4
                          have hch := lenR_cheap HBB.out hlen5
                          have hlens : [(DD.stops.length : Int), DD.marks.length, DD.sites.length].all okN = true := by
                            have h1 := hch.2.2.2.2.1
                            have h2 := hch.2.2.2.2.2.1
                            have h3 := hch.2.2.2.2.2.2
                            simp only [List.all_cons, List.all_nil, okN, Bool.and_eq_true, decide_eq_true_eq, and_true]
                            omega
                          have HSG := Lib.hid hch.2.2.2.1
                          have HEL : Hid ((encD DD).length ≤ 140737488355300) := by
                            have h1 := hch.2.2.1
                            show _ ≤ _
                            omega
                          clear hrd hlen5 hch
                          obtain ⟨sa, sc, rfl⟩ := DBG.out.stops.shape
                          obtain ⟨ma, mc, rfl⟩ := DBG.out.marks.shape
                          obtain ⟨ta, tc, rfl⟩ := DBG.out.sites.shape
                          have k0 := cell_of D.out (show (#[Value.slice sa DD.stops.length sc, .slice ma DD.marks.length mc, .slice ta DD.sites.length tc] : Array Value)[0]? = _ from rfl)
                          have k1 := cell_of D.out (show (#[Value.slice sa DD.stops.length sc, .slice ma DD.marks.length mc, .slice ta DD.sites.length tc] : Array Value)[1]? = _ from rfl)
                          have k2 := cell_of D.out (show (#[Value.slice sa DD.stops.length sc, .slice ma DD.marks.length mc, .slice ta DD.sites.length tc] : Array Value)[2]? = _ from rfl)
                          have HSJ : Hid (∀ W, Below wa.heap.size wa W → (W.cell? ⟨w.heap.size + 1, 1, none⟩ = some (.bool false) ∧ W.cell? ⟨w.heap.size + 1 + 1, 0, none⟩ = some (.slice sa DD.stops.length sc) ∧ W.cell? ⟨w.heap.size + 1 + 1, 1, none⟩ = some (.slice ma DD.marks.length mc) ∧ W.cell? ⟨w.heap.size + 1 + 1, 2, none⟩ = some (.slice ta DD.sites.length tc) ∧ (convert 24 9 (.slice pa l.length pc)).run Tryd.prog W = .ok (.string (strOfNums l)) W ∧ Hid (Below wa.heap.size wa W))) := fun W h =>
                            ⟨later_cellH h kb, later_cellH h k0, later_cellH h k1, later_cellH h k2, run_convert_rdB (show RdB W _ _ from Rd.later (show RdB w _ _ from HV.out) (HBWA.out.trans (h.mono HBWA.out.size))) Tryd.underlying24 Tryd.underlying5 Tryd.underlying9, h⟩
                          have kc := (HSJ.out wa.drew (Below.refl _ _).drew).2.2.2.2.1
                          have kB : Hid (Below wa.heap.size wa wa.drew) := (Below.refl _ _).drew
                          have CF := Lib.hid (fun W (h : Hid (Below wa.heap.size wa W)) => (formR_any _ _ _ DD W (DBG.out.later h.out) hlens).mono fun e w' (q : _ ∧ _) => And.intro q.1 (HSJ.out w' (h.out.trans (q.2.mono h.out.size))))
                          obtain ⟨ff, hff⟩ : ∃ ff, formD DD = ff := ⟨_, rfl⟩
                          have HFF := Lib.hid hff
                          rw [hff] at CF
                          clear hlens
                          go_upto_region 37 with fail
                          go_cut [187] (fun sc wx => sc = .bool (!(ff && eqL (encD DD) l)) ∧ Hid (Below wa.heap.size wa wx))
                          case first =>
                            cases ff with
                            | false =>
                              clear hff
                              first
                                | (go_region_with (go_at_call 32; refine (CF.out _ (by assumption)).mono ?_; rintro e w4 ⟨rfl, kb, k0, k1, k2, kc, kB⟩))
                                | fail
                              all_goals (go_wp2_with fail; go_meet; exact ⟨rfl, by assumption⟩)
                            | true =>
                              --<
                              have CE := Lib.hid (fun W (h : Hid (Below wa.heap.size wa W)) => (encode_any _ _ _ DD W (DBG.out.later h.out) hff HSG.out HEL.out).mono fun e w' (q : (∃ v, _ ∧ _) ∧ _) => (show (∃ v, e = .returned v ∧ (convert 24 9 v).run Tryd.prog w' = .ok (.string (strOfNums (encD DD))) w') ∧ _ from And.intro ⟨q.1.choose, q.1.choose_spec.1, run_convert_rdB q.1.choose_spec.2.rd Tryd.underlying24 Tryd.underlying5 Tryd.underlying9⟩ (HSJ.out w' (h.out.trans (q.2.mono h.out.size)))))
                              have hEq2 := eqL_str (encD_isB hff HSG.out HEL.out) HBB.out
                              clear hff
                              cases hee : eqL (encD DD) l
                              all_goals
                                rw [hee] at hEq2
                                have HEE := Lib.hid hee
                                clear hee
                                go_region_with (first
                                    | (go_at_call 32; refine (CF.out _ (by assumption)).mono ?_; rintro e w4 ⟨rfl, kb, k0, k1, k2, kc, kB⟩)
                                    | (go_at_call 25; refine (CE.out _ (by assumption)).mono ?_; rintro e w5 ⟨⟨v5, rfl, kv⟩, kb, k0, k1, k2, kc, kB⟩))
                                all_goals (go_wp2_with fail; go_meet; exact ⟨by rw [HEE.out]; rfl, by assumption⟩)
                              -->
                          case rest =>
                            obtain ⟨rfl, hbx⟩ := hcut
                            obtain ⟨wx, hwx⟩ : ∃ wx, wx = wc := ⟨_, rfl⟩
                            subst hwx
                            have HBX := Lib.hid hbx.out
                            have hlt1 := heap_lt HZA.out
                            have hzx := heap_below HBX.out hlt1 HZA.out
                            have yr0 := cell_of hzx (show (#[Value.slice none 0 0, .slice none 0 0, .slice none 0 0] : Array Value)[0]? = _ from rfl)
                            have yr1 := cell_of hzx (show (#[Value.slice none 0 0, .slice none 0 0, .slice none 0 0] : Array Value)[1]? = _ from rfl)
                            have yr2 := cell_of hzx (show (#[Value.slice none 0 0, .slice none 0 0, .slice none 0 0] : Array Value)[2]? = _ from rfl)
                            have yf : ∀ i, wx.frozen? ⟨w.heap.size, i, none⟩ = false := fun i => unfrozen_of hzx
                            have x0 := later_cellH HBX.out k0
                            have x1 := later_cellH HBX.out k1
                            have x2 := later_cellH HBX.out k2
                            have HBF := Lib.hid (HBWA.out.trans (HBX.out.mono HBWA.out.size))
                            clear hzx zr0 zr1 zr2 zf k0 k1 k2 kc kB kb hbx CF hff
                            cases hcmp : (ff && eqL (encD DD) l)
                            · have HN : Hid (refDec l = none) := by
                                show _ = _
                                rw [HRD.out, if_neg]
                                rintro ⟨h1, h2⟩
                                rw [HFF.out] at h1
                                subst h1
                                simp [eqL, h2] at hcmp
                              clear hcmp
                              go_wp2_with fail
                              refine bodyPost_ret (v := .tuple #[.agg #[.slice none 0 0, .slice none 0 0, .slice none 0 0], .bool false]) ?_ rfl (refIs_no HN.out ?_)
                              · simp [results, Tryd.results21, go_sem, yr0, yr1, yr2]
                              · repeat (with_reducible (first | exact HBF.out | refine below_drewN ?_ _ | refine Below.drew ?_ | refine Below.setCell ?_ ?_ _ | exact Nat.le_refl _))
                            · have HN : Hid (refDec l = some DD) := by
                                show _ = _
                                simp only [Bool.and_eq_true, eqL, decide_eq_true_eq] at hcmp
                                rw [HRD.out, if_pos]
                                exact ⟨by rw [HFF.out]; exact hcmp.1, hcmp.2⟩
                              have OX : Hid (∀ u0 u1 u2, Oth wa (((wx.setCell ⟨w.heap.size, 0, none⟩ u0).setCell ⟨w.heap.size, 1, none⟩ u1).setCell ⟨w.heap.size, 2, none⟩ u2) w.heap.size w.heap.size) := fun u0 u1 u2 => ((((Oth.refl wa w.heap.size w.heap.size).later HBX.out).set 0 u0).set 1 u1).set 2 u2
                              clear hcmp
                              go_wp2_with fail
                              refine bodyPost_ret (v := .tuple #[.agg #[.slice sa DD.stops.length sc, .slice ma DD.marks.length mc, .slice ta DD.sites.length tc], .bool true]) ?_ rfl (refIs_yes HN.out ?_ ?_)
                              · simp [results, Tryd.results21, go_sem, yr0, yr1, yr2]
                              · have h1 := rowE_oth stopE_ok RW.out (OX.out (.slice sa DD.stops.length sc) (.slice ma DD.marks.length mc) (.slice ta DD.sites.length tc)) (.inl (by omega)) (.inl (by omega))
                                have h2 := rowE_oth markE_ok RWm.out (OX.out (.slice sa DD.stops.length sc) (.slice ma DD.marks.length mc) (.slice ta DD.sites.length tc)) (.inl (by omega)) (.inl (by omega))
                                have h3 := rowE_oth (siteE_ok 0) RWt.out (OX.out (.slice sa DD.stops.length sc) (.slice ma DD.marks.length mc) (.slice ta DD.sites.length tc)) (.inl (by omega)) (.inl (by omega))
                                have h4 := (DebIn.mk h1 h2 h3).rd
                                rw [← HDD.out] at h4
                                exact h4
                              · repeat (with_reducible (first | exact HBF.out | refine below_drewN ?_ _ | refine Below.drew ?_ | refine Below.setCell ?_ ?_ _ | exact Nat.le_refl _))
    · have HN : Hid (refDec l = none) := by
        show _ = _
        unfold refDec
        rw [if_neg hm]
      rw [show eqL (l.take 4) magicL = false by simp [eqL, hm]] at hEq
      clear hv hB hT
      go_enter Tryd.func21, Tryd.ntmps21
      go_wp2_with fail
      refine bodyPost_ret (v := .tuple #[.agg #[.slice none 0 0, .slice none 0 0, .slice none 0 0], .bool false]) ?_ rfl (refIs_no HN.out ?_)
      · simp [results, Tryd.results21, go_sem]
      · repeat (with_reducible (first | exact HA.out | refine Below.setCell ?_ ?_ _ | exact Nat.le_refl _))
end Go.Proofs.YtnanlkoldloolaaDoor
