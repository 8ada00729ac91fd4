/- Locs: the law of bytes that are cut off: plain; the walk. -/
import Derived.Test.YtmidnniinjkffaaDoorQ12
namespace Go.Proofs.YtmidnniinjkffaaDoor
open Go.RowKit

theorem read_at {d : DebD} (hf : formD d = true) (hsg : sgD d) (hlen : (encD d).length ≤ 1000000000) {l : List Int} (hat : At l 4 (bodyW d)) : allR (plainR l) (signR (numR l)) kd3 4 = some (d, (encD d).length) := by
  rw [all_reads (numOK_strict _) (sgOK_strict _) d _ 4 (body_ok (fun _ h => kd3_ok h) hf hsg hlen) hat, encD_len]
theorem decD_more {d : DebD} (hf : formD d = true) (hsg : sgD d) (hlen : (encD d).length ≤ 1000000000) (x : Int) : decD (encD d ++ [x]) = none := by
  rw [decD_all, read_at hf hsg hlen ⟨[x], by simp [encD, magicL]⟩, if_pos (by simp [encD, magicL])]
  simp
theorem decD_cut {d : DebD} (hf : formD d = true) (hsg : sgD d) (hlen : (encD d).length ≤ 1000000000) {k : Nat} (hk : k < (encD d).length) : decD ((encD d).take k) = none := by
  cases e : decD ((encD d).take k) with
  | none => rfl
  | some x =>
    have hB := encD_isB hf hsg (by omega)
    obtain ⟨h1, h2, h3⟩ := decD_wrote (fun y hy => hB y (List.mem_of_mem_take hy)) e
    have hl : (encD x).length = k := by rw [h3, List.length_take]; omega
    have h4 := read_at h1 h2 (by omega) (l := encD d) ⟨(encD d).drop k, by
      have e2 : encD d = encD x ++ (encD d).drop k := by rw [h3, List.take_append_drop]
      conv => lhs; rw [e2]
      simp [encD, magicL]⟩
    rw [strict_enc hf hsg hlen] at h4
    simp only [Option.some.injEq, Prod.mk.injEq] at h4
    omega
theorem enc_inj {d o : DebD} (hf : formD d = true) (hsg : sgD d) (hlen : (encD d).length ≤ 1000000000) (hf2 : formD o = true) (hsg2 : sgD o) (hlen2 : (encD o).length ≤ 1000000000) : eqL (encD d) (encD o) = decide (d = o) := by
  unfold eqL
  by_cases h : d = o
  · subst h; simp
  · have : encD d ≠ encD o := fun e => h (by
      have h1 := decD_enc hf hsg hlen
      rw [e, decD_enc hf2 hsg2 hlen2] at h1
      cases h1; rfl)
    simp [h, this]

/-- Debug information in a box, in every later world. -/
def Boxed (w0 : World) (b : Nat) (vs vm vt : Value) (d : DebD) : Prop := ∀ W, Below w0.heap.size w0 W → (W.cell? ⟨b, 0, none⟩ = some vs ∧ W.cell? ⟨b, 1, none⟩ = some vm ∧ W.cell? ⟨b, 2, none⟩ = some vt) ∧ RdD W vs vm vt d
theorem boxed_of {w0 : World} {b : Nat} {vs vm vt : Value} {d : DebD} (h : w0.heap[b]? = some (.cells #[vs, vm, vt] 26 (0, 0))) (hr : RdD w0 vs vm vt d) : Boxed w0 b vs vm vt d   := fun _ hb =>
  ⟨⟨later_cell hb (cell_of h rfl), later_cell hb (cell_of h rfl), later_cell hb (cell_of h rfl)⟩, hr.later hb⟩
theorem lens_ok {d : DebD} (hfew : fewN d < 1500) : [(d.stops.length : Int), d.marks.length, d.sites.length].all okN = true := by
  simp only [List.all_cons, List.all_nil, okN, Bool.and_eq_true, decide_eq_true_eq, and_true]
  unfold fewN at hfew
  omega

set_option maxRecDepth 100000 in
set_option maxHeartbeats 16000000 in
theorem locsCut_walk (vs vm vt us um ut : Value) (d o : DebD) (cut more : Int) (w : World) (hd : RdD w vs vm vt d) (ho : RdD w us um ut o) (hsg : sgD d) (hsg2 : sgD o) (hbig : fewN d ≤ 9223372036854775807) (hbig2 : fewN o ≤ 9223372036854775807) (hcut : 0 ≤ cut ∧ cut ≤ 65535) (hmore : 0 ≤ more ∧ more ≤ 255) (ga : Addr) (hg : Gives w 133 (.pointer (some ga))) :
    Calls Tryd.prog 5 #[.agg #[vs, vm, vt], .agg #[us, um, ut], .int .u16 cut, .int .u8 more] w fun e w' => e = .returned (.bool true) ∧ Below w.heap.size w w' := by
  obtain ⟨sa, sc, rfl⟩ := hd.stops.shape
  obtain ⟨ma, mc, rfl⟩ := hd.marks.shape
  obtain ⟨ta, tc, rfl⟩ := hd.sites.shape
  obtain ⟨sa2, sc2, rfl⟩ := ho.stops.shape
  obtain ⟨ma2, mc2, rfl⟩ := ho.marks.shape
  obtain ⟨ta2, tc2, rfl⟩ := ho.sites.shape
  have HSG := Lib.hid hsg
  have HSG2 := Lib.hid hsg2
  have HG := Lib.hid hg
  have HBIG := Lib.hid hbig
  have HBIG2 := Lib.hid hbig2
  have mixed : Tryd.prog.follows Departure.mixedOrders = true := by kernel_rfl
  obtain ⟨W0, hW0⟩ : ∃ W0, W0 = (w.alloc (.cells #[.slice sa d.stops.length sc, .slice ma d.marks.length mc, .slice ta d.sites.length tc] 26)).alloc (.cells #[.slice sa2 o.stops.length sc2, .slice ma2 o.marks.length mc2, .slice ta2 o.sites.length tc2] 26) := ⟨_, rfl⟩
  have HB0 : Hid (Below w.heap.size w W0) := by rw [hW0]; exact ((Below.refl _ _).alloc (Nat.le_refl _) _).alloc (by simp) _
  have XD : Hid (Boxed W0 w.heap.size (.slice sa d.stops.length sc) (.slice ma d.marks.length mc) (.slice ta d.sites.length tc) d) := boxed_of (by rw [hW0]; exact heap_old _ _ (heap_new _ _ rfl)) (hd.later HB0.out)
  have XO : Hid (Boxed W0 (w.heap.size + 1) (.slice sa2 o.stops.length sc2) (.slice ma2 o.marks.length mc2) (.slice ta2 o.sites.length tc2) o) := boxed_of (by rw [hW0]; exact heap_new _ _ (by simp)) (ho.later HB0.out)
  have HSZ : Hid (W0.heap.size = w.heap.size + 2) := by show _ = _; rw [hW0]; simp
  have HW0 := Lib.hid hW0
  have HTO : Hid (∀ W, Below W0.heap.size W0 W → Below w.heap.size w W) := fun W h => HB0.out.trans (h.mono HB0.out.size)
  clear hW0 hd ho hsg hsg2 hg hbig hbig2
  go_enter Tryd.func5, Tryd.ntmps5
  go_upto_region 1 with fail
  rw [← HW0.out]
  go_wp2_with fail
  refine (awake21 _).mono ?_
  rintro e w1 ⟨rfl, hb1⟩
  have HB1 := Lib.hid hb1
  obtain ⟨⟨x0, x1, x2⟩, hr1⟩ := XD.out _ hb1
  have C := Lib.hid (few_any _ _ _ d w1 hr1 HBIG.out)
  clear hb1 hr1
  by_cases hfew : fewN d < 1500
  case neg =>
    rw [decide_eq_false hfew] at C
    go_wp2_with fail
    refine C.out.mono ?_
    rintro e w2 ⟨rfl, hb2⟩
    have HB2 := Lib.hid (HTO.out _ (below_via HB1.out hb2 HB1.out.size))
    clear hb2
    go_wp2_with fail
    go_ret
    exact ⟨rfl, HB2.out⟩
  rw [decide_eq_true hfew] at C
  go_wp2_with fail
  refine C.out.mono ?_
  rintro e w2 ⟨rfl, hb2⟩
  have HB2 := Lib.hid (below_via HB1.out hb2 HB1.out.size)
  clear hb2 C x0 x1 x2 HB1
  obtain ⟨⟨x0, x1, x2⟩, hr2⟩ := XO.out _ HB2.out
  have C := Lib.hid (few_any _ _ _ o w2 hr2 HBIG2.out)
  clear hr2
  by_cases hfew2 : fewN o < 1500
  case neg =>
    rw [decide_eq_false hfew2] at C
    go_wp2_with fail
    refine C.out.mono ?_
    rintro e w3 ⟨rfl, hb3⟩
    have HB3 := Lib.hid (HTO.out _ (below_via HB2.out hb3 HB2.out.size))
    clear hb3
    go_wp2_with fail
    go_ret
    exact ⟨rfl, HB3.out⟩
  rw [decide_eq_true hfew2] at C
  go_wp2_with fail
  refine C.out.mono ?_
  rintro e w3 ⟨rfl, hb3⟩
  have HB3 := Lib.hid (below_via HB2.out hb3 HB2.out.size)
  clear hb3 C x0 x1 x2 HB2
  obtain ⟨⟨x0, x1, x2⟩, hr3⟩ := XD.out _ HB3.out
  have C := Lib.hid (formR_any _ _ _ d w3 hr3 (lens_ok hfew))
  clear hr3
  cases hff : formD d
  case false =>
    rw [hff] at C
    go_wp2_with fail
    refine C.out.mono ?_
    rintro e w4 ⟨rfl, hb4⟩
    have HB4 := Lib.hid (HTO.out _ (below_via HB3.out hb4 HB3.out.size))
    clear hb4
    go_wp2_with fail
    go_ret
    exact ⟨rfl, HB4.out⟩
  rw [hff] at C
  have HFF := Lib.hid hff
  have HLS := Lib.hid (show (encD d).length ≤ 100000 by have := enc_few hff HSG.out (by omega); omega)
  have HLB := Lib.hid (show (encD d).length ≤ 1000000000 by have := HLS.out; omega)
  clear hff
  go_wp2_with fail
  refine C.out.mono ?_
  rintro e w4 ⟨rfl, hb4⟩
  have HB4 := Lib.hid (below_via HB3.out hb4 HB3.out.size)
  clear hb4 C x0 x1 x2 HB3
  obtain ⟨⟨x0, x1, x2⟩, hr4⟩ := XO.out _ HB4.out
  have C := Lib.hid (formR_any _ _ _ o w4 hr4 (lens_ok hfew2))
  clear hr4
  cases hff2 : formD o
  case false =>
    rw [hff2] at C
    go_wp2_with fail
    refine C.out.mono ?_
    rintro e w5 ⟨rfl, hb5⟩
    have HB5 := Lib.hid (HTO.out _ (below_via HB4.out hb5 HB4.out.size))
    clear hb5
    go_wp2_with fail
    go_ret
    exact ⟨rfl, HB5.out⟩
  rw [hff2] at C
  have HFF2 := Lib.hid hff2
  have HLB2 := Lib.hid (show (encD o).length ≤ 1000000000 by have := enc_few hff2 HSG2.out (by omega); omega)
  clear hff2
  go_wp2_with fail
  refine C.out.mono ?_
  rintro e w5 ⟨rfl, hb5⟩
  have HB5 := Lib.hid (below_via HB4.out hb5 HB4.out.size)
  clear hb5 C x0 x1 x2 HB4
  obtain ⟨⟨x0, x1, x2⟩, hr5⟩ := XD.out _ HB5.out
  have C := Lib.hid (twin_any _ _ _ d w5 hr5 (by omega))
  clear hr5
  go_wp2_with fail
  refine C.out.mono ?_
  rintro e w6 ⟨v0, v1, v2, rfl, ho6, hb6⟩
  have HB6 := Lib.hid (below_via HB5.out hb6 HB5.out.size)
  have C := Lib.hid (lencode_any w5.heap.size _ _ _ d w6 ho6 HSG.out (fun _ => HLB.out))
  unfold EncIs at C
  clear ho6 hb6 x0 x1 x2 HB5
  go_wp2_with fail
  refine C.out.mono ?_
  rintro e w7 ⟨hb7, hyes, -⟩
  obtain ⟨v, rfl, hy⟩ := hyes HFF.out
  have HB7 := Lib.hid (below_via HB6.out hb7 HB6.out.size)
  have HDC := Lib.hid (fun k hk => decD_cut HFF.out HSG.out HLB.out (k := k) hk)
  have HDM := Lib.hid (fun x => decD_more HFF.out HSG.out HLB.out x)
  have HISB := Lib.hid (encD_isB HFF.out HSG.out (by have := HLB.out; omega))
  have HEQ := Lib.hid (enc_inj HFF.out HSG.out HLB.out HFF2.out HSG2.out HLB2.out)
  have hpos : 4 ≤ (encD d).length := by rw [encD_len]; omega
  obtain ⟨B, hB⟩ : ∃ B, encD d = B := ⟨_, rfl⟩
  rw [hB] at hy HLB HLS HISB HDC HDM HEQ hpos
  clear hB hyes hb7 HB6 C
  obtain ⟨va, vc, rfl⟩ := hy.rd.shape
  have HY7 := Lib.hid hy.rd
  clear hy
  obtain ⟨⟨x0, x1, x2⟩, hr7⟩ := XO.out _ HB7.out
  have C := Lib.hid (twin_any _ _ _ o w7 hr7 (by omega))
  clear hr7
  go_wp2_with fail
  refine C.out.mono ?_
  rintro e w8 ⟨v0, v1, v2, rfl, ho8, hb8⟩
  have HB8 := Lib.hid (below_via HB7.out hb8 HB7.out.size)
  have HY8 := Lib.hid (Rd.later HY7.out hb8)
  have C := Lib.hid (lencode_any w7.heap.size _ _ _ o w8 ho8 HSG2.out (fun _ => HLB2.out))
  unfold EncIs at C
  clear ho8 hb8 x0 x1 x2 HB7 HY7
  go_wp2_with fail
  refine C.out.mono ?_
  rintro e w9 ⟨hb9, hyes, -⟩
  obtain ⟨v, rfl, hy⟩ := hyes HFF2.out
  have HB9 := Lib.hid (below_via HB8.out hb9 HB8.out.size)
  have HY9 := Lib.hid (Rd.later HY8.out hb9)
  have HISB2 := Lib.hid (encD_isB HFF2.out HSG2.out (by have := HLB2.out; omega))
  obtain ⟨B2, hB2⟩ : ∃ B2, encD o = B2 := ⟨_, rfl⟩
  rw [hB2] at hy HLB2 HISB2 HEQ
  clear hB2 hyes hb9 HB8 HY8 C
  obtain ⟨va2, vc2, rfl⟩ := hy.rd.shape
  have HZ9 := Lib.hid hy.rd
  clear hy
  have hz : ((B.length : Int) == 0) = false := by
    have : (B.length : Int) ≠ 0 := by omega
    simpa using this
  go_upto_region 7 with fail
  obtain ⟨⟨k0, k1, k2⟩, -⟩ := XD.out _ HB9.out
  obtain ⟨⟨m0, m1, m2⟩, -⟩ := XO.out _ HB9.out
  have kB : Hid (Below W0.heap.size W0 w9.drew) := HB9.out.drew
  have kY : Hid (RdB w9.drew (.slice va B.length vc) B) := HY9.out
  have kZ : Hid (RdB w9.drew (.slice va2 B2.length vc2) B2) := HZ9.out
  have CS := Lib.hid (fun W (h : Hid (Below W0.heap.size W0 W)) (hY : Hid (RdB W (.slice va B.length vc) B)) (hZ : Hid (RdB W (.slice va2 B2.length vc2) B2)) => (same21_any _ _ _ _ _ _ d o W (XD.out W h.out).2 (XO.out W h.out).2).mono fun e w' (q : _ ∧ _) => show e = .returned (.bool (decide (d = o))) ∧ (w'.cell? ⟨w.heap.size, 0, none⟩ = some (.slice sa d.stops.length sc) ∧ w'.cell? ⟨w.heap.size, 1, none⟩ = some (.slice ma d.marks.length mc) ∧ w'.cell? ⟨w.heap.size, 2, none⟩ = some (.slice ta d.sites.length tc) ∧ w'.cell? ⟨w.heap.size + 1, 0, none⟩ = some (.slice sa2 o.stops.length sc2) ∧ w'.cell? ⟨w.heap.size + 1, 1, none⟩ = some (.slice ma2 o.marks.length mc2) ∧ w'.cell? ⟨w.heap.size + 1, 2, none⟩ = some (.slice ta2 o.sites.length tc2) ∧ Hid (Below W0.heap.size W0 w') ∧ Hid (RdB w' (.slice va B.length vc) B) ∧ Hid (RdB w' (.slice va2 B2.length vc2) B2)) from
    ⟨q.1, (XD.out w' (below_via h.out q.2 h.out.size)).1.1, (XD.out w' (below_via h.out q.2 h.out.size)).1.2.1, (XD.out w' (below_via h.out q.2 h.out.size)).1.2.2, (XO.out w' (below_via h.out q.2 h.out.size)).1.1, (XO.out w' (below_via h.out q.2 h.out.size)).1.2.1, (XO.out w' (below_via h.out q.2 h.out.size)).1.2.2, below_via h.out q.2 h.out.size, Rd.later hY.out q.2, Rd.later hZ.out q.2⟩)
  have CB := Lib.hid (fun W (hY : Hid (RdB W (.slice va B.length vc) B)) (hZ : Hid (RdB W (.slice va2 B2.length vc2) B2)) => sameB_any _ _ B B2 W hY.out hZ.out HISB.out HISB2.out)
  rw [HEQ.out] at CB
  obtain ⟨qq, hqq⟩ : ∃ qq, decide (d = o) = qq := ⟨_, rfl⟩
  rw [hqq] at CB CS
  clear hqq
  go_cut [68] (fun sc wx => sc = .bool false ∧ Hid (Below W0.heap.size W0 wx) ∧ Hid (RdB wx (.slice va B.length vc) B))
  case first =>
    cases qq
    all_goals
      go_region_held3 (fun W => W.cell? ⟨w.heap.size, 0, none⟩ = some (.slice sa d.stops.length sc) ∧ W.cell? ⟨w.heap.size, 1, none⟩ = some (.slice ma d.marks.length mc) ∧ W.cell? ⟨w.heap.size, 2, none⟩ = some (.slice ta d.sites.length tc) ∧ W.cell? ⟨w.heap.size + 1, 0, none⟩ = some (.slice sa2 o.stops.length sc2) ∧ W.cell? ⟨w.heap.size + 1, 1, none⟩ = some (.slice ma2 o.marks.length mc2) ∧ W.cell? ⟨w.heap.size + 1, 2, none⟩ = some (.slice ta2 o.sites.length tc2) ∧ Hid (Below W0.heap.size W0 W) ∧ Hid (RdB W (.slice va B.length vc) B) ∧ Hid (RdB W (.slice va2 B2.length vc2) B2))
        (first | assumption | (exact ⟨k0, k1, k2, m0, m1, m2, kB, kY, kZ⟩))
        (first
          | (go_at_call 14; refine (CB.out _ (by assumption) (by assumption)).mono ?_; rintro e w10 ⟨rfl, rfl⟩)
          | (go_at_call 12; refine (CS.out _ (by assumption) (by assumption) (by assumption)).mono ?_; rintro e w10 ⟨rfl, k0, k1, k2, m0, m1, m2, kB, kY, kZ⟩))
      all_goals (go_wp2_with fail; go_meet; exact ⟨rfl, by assumption, by assumption⟩)
  case rest =>
    obtain ⟨rfl, hbx, hyx⟩ := hcut
    obtain ⟨wx, hwx⟩ : ∃ wx, wx = wc := ⟨_, rfl⟩
    subst hwx
    clear k0 k1 k2 m0 m1 m2 kB kY kZ CS CB
    have HBX := Lib.hid hbx.out
    have HYX := Lib.hid hyx.out
    clear hbx hyx
    obtain ⟨i0, hi, hz0, hz1, hz2⟩ := infoY_parts infoY
    have HI : Hid _ := And.intro hi (And.intro hz0 (And.intro hz1 hz2))
    obtain ⟨k, hk⟩ : ∃ k : Nat, cut % (B.length : Int) = k := ⟨(cut % (B.length : Int)).toNat, by have := Int.emod_nonneg cut (show (B.length : Int) ≠ 0 by omega); omega⟩
    have hkl : k < B.length := by have := Int.emod_lt_of_pos cut (show (0 : Int) < B.length by omega); omega
    have hk2 : Int.tmod cut (B.length : Int) = k := by rw [Int.tmod_eq_emod_of_nonneg hcut.1]; exact hk
    have hlc : B.length ≤ vc := by
      rcases HYX.out.split with ⟨a', c', h1, h2⟩ | ⟨b, off, c', h1, _, h2, _⟩
      · subst h2; simp at hkl
      · simp only [Value.slice.injEq] at h1; omega
    have hsl : ∀ W : World, (Instr.slice 30 (.slice va B.length vc) none (some (.int .i64 (k : Int))) none).run Tryd.prog W = .ok (.slice va k vc) W := fun W => run_slice_to _ 5 Tryd.underlying30 hi hz1 _ _ _ k _ rfl (by omega) W
    have HT : Hid (RdB wx (.slice va k vc) (B.take k)) := by
      have := Rd.take HYX.out (k := k) (by omega)
      unfold RdB Hid
      rw [List.length_take, Nat.min_eq_left (by omega)]
      simpa using this
    have CD := Lib.hid (decode_any va k vc (B.take k) wx HT.out (fun y hy => HISB.out y (List.mem_of_mem_take hy)) (by rw [List.length_take]; have := HLB.out; omega) ga (gives_of_below HG.out (HTO.out _ HBX.out)))
    unfold DecIs at CD
    rw [HDC.out k hkl] at CD
    simp only [Option.isSome_none, Bool.false_eq_true, if_false, Option.getD_none] at CD
    have hbz : ((B.length : Int) = 0) = False := by simp only [eq_iff_iff, iff_false]; omega
    clear hi hz0 hz1 hz2
    go_wp2_with fail
    refine CD.out.mono ?_
    rintro e w10 ⟨u0, u1, u2, rfl, hrd, hb10⟩
    obtain ⟨sa3, sc3, rfl⟩ := hrd.stops.shape
    obtain ⟨ma3, mc3, rfl⟩ := hrd.marks.shape
    obtain ⟨ta3, tc3, rfl⟩ := hrd.sites.shape
    have HB10 := Lib.hid (below_via HBX.out hb10 HBX.out.size)
    have HY10 := Lib.hid (Rd.later HYX.out hb10)
    clear hrd hb10 CD hk hk2 hsl
    go_upto_region 10 with fail
    generalize hW11 : w10.alloc _ = W11
    have hb11 : Below w10.heap.size w10 W11 := by rw [← hW11]; exact (Below.refl _ _).alloc (Nat.le_refl _) _
    have HB11 := Lib.hid (below_via HB10.out hb11 HB10.out.size)
    have HY11 := Lib.hid (Rd.later HY10.out hb11)
    clear hW11 hb11
    have hB9 : B.length ≤ 100000 := HLS.out
    go_wp2_with (first
      | (at_builtin; refine wpList_append_own_rd _ rfl _ _ 30 rfl W11.heap.size 5 i0 (.int .u8 0) 1 1 Tryd.underlying30 HI.out.1 HI.out.2.1 HI.out.2.2.1 HI.out.2.2.2 rfl (by decide) _ 0 [] rfl (own_nil W11 W11.heap.size (Nat.le_refl _)) (.slice va B.length vc) B.length (B.map (Value.int .u8)) rfl (Rd.alloc HY11.out _) (ints_oneCell .u8 _) (by unfold maxLen; omega) (by omega) (by simp) ?_; intro v2 w2 hown2 hgrow2)
      | (at_builtin; refine wpList_append_own_g _ rfl _ _ 30 rfl W11.heap.size 5 i0 (.int .u8 0) 1 1 Tryd.underlying30 HI.out.1 HI.out.2.1 HI.out.2.2.1 HI.out.2.2.2 rfl (by decide) _ _ _ rfl (hown2.alloc _) (.slice (some ⟨w2.heap.size, 0, none⟩) 1 1) 1 [.int .u8 more] rfl (rd_one w2 _) (ints_oneCell .u8 [more]) (B.length + 1) (by omega) (by omega) (by unfold maxLen; omega) (by omega) (by have := hgrow2.size; simp at this ⊢; omega) ?_; intro g c3 w12 hown3 hgrow3))
    have hb12 : Below W11.heap.size W11 w12 := by
      have h2 : Below W11.heap.size W11 w2 := ((Below.refl _ _).alloc (Nat.le_refl _) _).grown hgrow2 (by simp) (fun k hk => by cases hk; exact Nat.le_refl _)
      exact (h2.alloc h2.size _).grown hgrow3 (by have := h2.size; simp; omega) (fun k hk => (hown2.lt k hk).1)
    have HB12 := Lib.hid (below_via HB11.out hb12 HB11.out.size)
    have HR12 : Hid (RdB w12 (.slice (some ⟨g, 0, none⟩) (B.length + 1) c3) (B ++ [more])) := by
      have := Rd.of_own hown3
      unfold RdB Hid
      rw [List.length_append]
      simpa using this
    have CD := Lib.hid (decode_any _ _ _ (B ++ [more]) w12 HR12.out (isB_app HISB.out (by intro y hy; simp only [List.mem_singleton] at hy; subst hy; exact hmore)) (by rw [List.length_append, List.length_singleton]; omega) ga (gives_of_below HG.out (HTO.out _ HB12.out)))
    unfold DecIs at CD
    rw [HDM.out more] at CD
    simp only [Option.isSome_none, Bool.false_eq_true, if_false, Option.getD_none] at CD
    clear hb12 hown2 hgrow2 hown3 hgrow3
    refine CD.out.mono ?_
    rintro e w13 ⟨u0, u1, u2, rfl, hrd, hb13⟩
    obtain ⟨sa4, sc4, rfl⟩ := hrd.stops.shape
    obtain ⟨ma4, mc4, rfl⟩ := hrd.marks.shape
    obtain ⟨ta4, tc4, rfl⟩ := hrd.sites.shape
    have HB13 := Lib.hid (HTO.out _ (below_via HB12.out hb13 HB12.out.size))
    clear hrd hb13 CD
    go_wp2_with fail
    go_ret
    exact ⟨rfl, HB13.out.alloc HB13.out.size _⟩
end Go.Proofs.YtmidnniinjkffaaDoor
