/- The program's machine: its instructions (c41). Printed by gen_do.py. -/
import Derived.Test.YtgjmdcbdkdmceaaQ17
namespace Go.Proofs.Ytgjmdcbdkdmceaa.Mach
open Go.RowKit

set_option maxRecDepth 100000 in
set_option maxHeartbeats 4000000 in
theorem call_41 (w : World) (t : Nat → Nat) (base M : Nat) (E : Env) (V : MV) (ol : List (Fr × FV)) (f : Fr) (cv : FV) (s : St) (h : MRep w t base M E V (ol ++ [(f, cv)]) s) (na nb nc : Nat) (ia : na < 16) (ib : nb < 16) (ic : nc < 16) (imm : Int) (pi : -9223372036854775808 ≤ imm ∧ imm ≤ 9223372036854775807)
    (hform : formB ⟨41, na, nb, nc, imm⟩ = true) (hf : FrOk E f) (L : Nat) (hs : Sane E L s) (_hL : L ≤ 1000000) (hE : EnvOk E) :
    Calls Try.prog 82 #[.pointer (some ⟨M, 0, none⟩), .pointer (some ⟨cv.blk, 0, none⟩), .agg #[.int .u8 41, .int .u8 na, .int .u8 nb, .int .u8 nc, .int .i64 imm]] w fun e w' =>
      e = .returned (.tuple #[]) ∧ MPost w t base M E (doF E s (ol.map Prod.fst) f ⟨41, na, nb, nc, imm⟩) w' := by
  have hp := h.fr.last
  obtain ⟨F, hF⟩ : ∃ F, F = cv.blk := ⟨_, rfl⟩
  obtain ⟨gA, hgA⟩ : ∃ g, g = f.r na := ⟨_, rfl⟩
  obtain ⟨gB, hgB⟩ : ∃ g, g = f.r nb := ⟨_, rfl⟩
  obtain ⟨gC, hgC⟩ : ∃ g, g = f.r nc := ⟨_, rfl⟩
  have va : w.cell? ⟨F, 2 + na, none⟩ = some (.int .i64 gA) := by rw [hF, hp.cellF, fL_reg f cv hp.rl na ia, hgA]; rfl
  have vb : w.cell? ⟨F, 2 + nb, none⟩ = some (.int .i64 gB) := by rw [hF, hp.cellF, fL_reg f cv hp.rl nb ib, hgB]; rfl
  have vc : w.cell? ⟨F, 2 + nc, none⟩ = some (.int .i64 gC) := by rw [hF, hp.cellF, fL_reg f cv hp.rl nc ic, hgC]; rfl
  have za : w.frozen? ⟨F, 2 + na, none⟩ = false := by rw [hF]; exact hp.frz _
  have iA : (na : Int) < 16 := by omega
  have iB : (nb : Int) < 16 := by omega
  have iC : (nc : Int) < 16 := by omega
  have hlF : F < w.heap.size := by rw [hF]; exact hp.lt
  have hlM : M < w.heap.size := h.ltM
  have tF : 2 < t F := by rw [hF, hp.tf]; omega
  have tM : 2 < t M := by rw [h.tm]; omega
  have nFM : ¬ F = M := fun e => by have h1 := hp.tf; rw [← hF, e, h.tm] at h1; omega
  have nMF : ¬ M = F := fun e => nFM e.symm
  have mixed : Try.prog.follows Departure.mixedOrders = true := by kernel_rfl
  have H := Lib.hid h
  have HP := Lib.hid hp
  have HF := Lib.hid hF
  have HFR := Lib.hid hf
  have HS := Lib.hid hs
  have HEE := Lib.hid hE
  have HGA := Lib.hid hgA.symm
  have HGB := Lib.hid hgB.symm
  have HGC := Lib.hid hgC.symm
  have BEL : Hid (∀ W : World, Below W.heap.size W (W.alloc (.cells #[.int .u8 41, .int .u8 na, .int .u8 nb, .int .u8 nc, .int .i64 imm] 73))) := fun W => (Below.refl _ _).alloc (Nat.le_refl _) _
  have F0 : Hid (Fx w w t t) := Fx.refl w t
  rw [← hF]
  clear h hp hF hf hs hE hgA hgB hgC
  go_enter Try.func82, Try.ntmps82
  have eT : s.top (ol.map Prod.fst) f = s := by
    have e := H.out.opn
    rw [List.map_append, List.map_cons, List.map_nil] at e
    show { s with opn := ol.map Prod.fst ++ [f] } = s
    rw [← e]
  have ET := Lib.hid eT
  clear eT
  have hi0 := formB_imm hform (by omega)
  obtain ⟨ni, rfl⟩ : ∃ n : Nat, imm = n := ⟨imm.toNat, by omega⟩
  have m8 : w.cell? ⟨M, 8, none⟩ = some (.int .u8 s.end_) := (H.out.cellM 8).trans (mC_get V s).2.2.2.2.2.2.1
  have z8 := H.out.frzM 8
  obtain ⟨ea, ec, hev⟩ := Rd.shape H.out.env.he
  have m1 : w.cell? ⟨M, 1, none⟩ = some (.slice ea E.es.length ec) := (H.out.cellM 1).trans (by rw [(mC_get V s).2.1, hev])
  obtain ⟨ob, oc, hov, hoc, hlob, tob, nOM, zob, pob⟩ := H.out.topP
  have m5 : w.cell? ⟨M, 5, none⟩ = some (.slice (some ⟨ob, 0, none⟩) (ol.length + 1) oc) := (H.out.cellM 5).trans (by rw [(mC_get V s).2.2.2.1, hov])
  have z5 := H.out.frzM 5
  obtain ⟨xa, xcp, hxv, -, -⟩ := oshape HP.out.rd.own
  have hxv : cv.yv = .slice xa f.ready.length xcp := hxv
  have k20 : w.cell? ⟨F, 20, none⟩ = some (.slice xa f.ready.length xcp) := by rw [HF.out, HP.out.cellF, (fL_tail f cv HP.out.rl).2.2.1, hxv]
  have z20 : w.frozen? ⟨F, 20, none⟩ = false := by rw [HF.out]; exact HP.out.frz _
  have hol : ol.length ≤ 99 := by have h9 := HS.out.n; rw [H.out.opn] at h9; simp at h9; omega
  go_wp2_with fail
  obtain ⟨w1, hw1⟩ : ∃ w1, w1 = w.alloc (.cells #[.int .u8 41, .int .u8 na, .int .u8 nb, .int .u8 nc, .int .i64 ni] 73) := ⟨_, rfl⟩
  rw [← hw1]
  have hB1 : Below w.heap.size w w1 := by rw [hw1]; exact BEL.out w
  have hc1 : w1.heap[w.heap.size]? = some (.cells #[.int .u8 41, .int .u8 na, .int .u8 nb, .int .u8 nc, .int .i64 ni] 73 (0, 0)) := by rw [hw1]; exact heap_alloc_new _ _
  have q01 : w1.cell? ⟨w.heap.size, 0, none⟩ = some (.int .u8 41) := by simp [World.cell?, hc1]
  have q11 : w1.cell? ⟨w.heap.size, 1, none⟩ = some (.int .u8 na) := by simp [World.cell?, hc1]
  have q21 : w1.cell? ⟨w.heap.size, 2, none⟩ = some (.int .u8 nb) := by simp [World.cell?, hc1]
  have q31 : w1.cell? ⟨w.heap.size, 3, none⟩ = some (.int .u8 nc) := by simp [World.cell?, hc1]
  have q41 : w1.cell? ⟨w.heap.size, 4, none⟩ = some (.int .i64 ni) := by simp [World.cell?, hc1]
  have va1 := (hB1.cell (p := ⟨F, 2 + na, none⟩) hlF).trans va
  have vb1 := (hB1.cell (p := ⟨F, 2 + nb, none⟩) hlF).trans vb
  have vc1 := (hB1.cell (p := ⟨F, 2 + nc, none⟩) hlF).trans vc
  have za1 := (hB1.frozen (p := ⟨F, 2 + na, none⟩) hlF).trans za
  have H1 := Lib.hid (H.out.below hB1)
  have F1 : Hid (Fx w w1 t t) := Fx.below hB1
  have hl1 : w.heap.size < w1.heap.size := (Array.getElem?_eq_some_iff.1 hc1).1
  have hlF1 : F < w1.heap.size := by omega
  have hlM1 : M < w1.heap.size := by omega
  have nbF : ¬ w.heap.size = F := by omega
  have nbM : ¬ w.heap.size = M := by omega
  have HB1 := Lib.hid hB1
  have m81 := (hB1.cell (p := ⟨M, 8, none⟩) hlM).trans m8
  have z81 := (hB1.frozen (p := ⟨M, 8, none⟩) hlM).trans z8
  have k201 := (hB1.cell (p := ⟨F, 20, none⟩) hlF).trans k20
  have z201 := (hB1.frozen (p := ⟨F, 20, none⟩) hlF).trans z20
  have m11 := (hB1.cell (p := ⟨M, 1, none⟩) hlM).trans m1
  have m51 := (hB1.cell (p := ⟨M, 5, none⟩) hlM).trans m5
  have z51 := (hB1.frozen (p := ⟨M, 5, none⟩) hlM).trans z5
  clear m1 m5 z5 k20 z20 m8 z8
  clear hw1 hc1 va vb vc za hB1
  by_cases hi : (E.es.length : Int) ≤ ni
  · have d1 : decide ((E.es.length : Int) ≤ (ni : Int)) = true := decide_eq_true hi
    have HD := Lib.hid d1
    go_quiet (fail)
    go_wp2_with fail
    refine (ends_any M s.end_ 8 (w1.drewN nq) m81 z81).mono ?_
    rintro e w3 ⟨rfl, rfl⟩
    go_wp2_with fail
    refine bodyPost_ret (results_none rfl _ _ _) rfl ⟨rfl, ?_⟩
    have R := (H1.out.drew nq).end' 8
    have FX := (F1.out.drewN nq).set (g := M) (i := 8) (.int .u8 8) tM
    rw [doF_41, HD.out, if_pos rfl, show (s.ends 8).top (ol.map Prod.fst) f = s.ends 8 from by show (s.top (ol.map Prod.fst) f).ends 8 = _; rw [ET.out]]
    exact ⟨t, V, _, R, FX⟩
  · have d1 : decide ((E.es.length : Int) ≤ (ni : Int)) = false := decide_eq_false hi
    have HD := Lib.hid d1
    obtain ⟨eb, eo, ec', hev', -, he2, hleb, -⟩ := H1.out.env.ent (fn := (ni : Int)) (by omega) (by omega)
    rw [hev] at hev'
    simp only [Value.slice.injEq, true_and] at hev'
    obtain ⟨rfl, rfl⟩ := hev'
    rw [Int.toNat_natCast] at he2
    have hnie : ni < E.es.length := by omega
    have HSL := Lib.hid (fun n => mslots_any M eb eo E.es.length ec ni (E.ent ni).2 (w1.drewN n) m11 hnie he2)
    go_quiet (fail)
    go_wp2_with fail
    refine (HSL.out nq).mono ?_
    rintro e w2 ⟨rfl, hw⟩
    have hw := hw.symm
    subst hw
    cases hb2 : slotsOk (E.ent ni).2
    case false =>
      have HB2 := Lib.hid hb2
      clear hb2
      go_wp2_with fail
      refine (ends_any M s.end_ 8 (w1.drewN nq) m81 z81).mono ?_
      rintro e w3 ⟨rfl, rfl⟩
      go_wp2_with fail
      refine bodyPost_ret (results_none rfl _ _ _) rfl ⟨rfl, ?_⟩
      have R := (H1.out.drew nq).end' 8
      have FX := (F1.out.drewN nq).set (g := M) (i := 8) (.int .u8 8) tM
      rw [doF_41, HD.out, if_neg (by decide), HB2.out, Bool.not_false, if_pos rfl, show (s.ends 8).top (ol.map Prod.fst) f = s.ends 8 from by show (s.top (ol.map Prod.fst) f).ends 8 = _; rw [ET.out]]
      exact ⟨t, V, _, R, FX⟩
    case true =>
      have HB2 := Lib.hid hb2
      clear hb2
      by_cases hfull : 100 ≤ ol.length + 1
      · have d2 : decide (100 ≤ (ol.length : Int) + 1) = true := decide_eq_true (by omega)
        have HD2 := Lib.hid (decide_eq_true hfull)
        go_wp2_with fail
        refine (ends_any M s.end_ 6 (w1.drewN nq) m81 z81).mono ?_
        rintro e w3 ⟨rfl, rfl⟩
        go_wp2_with fail
        refine bodyPost_ret (results_none rfl _ _ _) rfl ⟨rfl, ?_⟩
        have R := (H1.out.drew nq).end' 6
        have FX := (F1.out.drewN nq).set (g := M) (i := 8) (.int .u8 6) tM
        rw [doF_41, HD.out, if_neg (by decide), HB2.out, Bool.not_true, if_neg (by decide), List.length_map, HD2.out, if_pos rfl, show (s.ends 6).top (ol.map Prod.fst) f = s.ends 6 from by show (s.top (ol.map Prod.fst) f).ends 6 = _; rw [ET.out]]
        exact ⟨t, V, _, R, FX⟩
      · have d2 : decide (100 ≤ (ol.length : Int) + 1) = false := decide_eq_false (by omega)
        have HD2 := Lib.hid (decide_eq_false hfull)
        go_wp2_with fail
        obtain ⟨⟨R2, FX2⟩, RW2⟩ := (H1.out.drew nq).takeReady
        rw [← HF.out] at R2 FX2 RW2
        obtain ⟨w2, hw2⟩ : ∃ w2, w2 = (w1.drewN nq).setCell ⟨F, 20, none⟩ (.slice none 0 0) := ⟨_, rfl⟩
        rw [← hw2] at R2 FX2 RW2 ⊢
        obtain ⟨t2, ht2⟩ : ∃ t2, t2 = updV t cv.yv (13 + 4 * ol.length) := ⟨_, rfl⟩
        rw [← ht2] at R2 FX2 RW2
        obtain ⟨cl2, hcl2⟩ : ∃ cl2, cl2 = ol ++ [(({ f with ready := [] } : Fr), ({ cv with yv := .slice none 0 0 } : FV))] := ⟨_, rfl⟩
        have hcl2' := hcl2
        rw [HF.out] at R2
        rw [← hcl2] at R2
        have hcll : cl2.length = ol.length + 1 := by rw [hcl2]; simp
        obtain ⟨s2, hs2⟩ : ∃ s2 : St, s2 = s.top (ol.map Prod.fst) { f with ready := [] } := ⟨_, rfl⟩
        rw [← hs2] at R2
        have H2 := Lib.hid R2
        have F2 : Hid (Fx w w2 t t2) := (F1.out.drewN nq).trans FX2
        have e13 : 9 + 4 * cl2.length = 13 + 4 * ol.length := by omega
        have RD := Lib.hid (show Row w2.drew t2 base 2 1 (.slice xa f.ready.length xcp) f.ready.length (intsV f.ready) (9 + 4 * cl2.length) from by rw [e13, ← hxv]; exact ⟨RW2.own, RW2.tag⟩)
        have m52 : w2.cell? ⟨M, 5, none⟩ = some (.slice (some ⟨ob, 0, none⟩) (ol.length + 1) oc) := (H2.out.cellM 5).trans (by rw [(mC_get V s2).2.2.2.1, hov])
        have z52 := H2.out.frzM 5
        have m12 : w2.cell? ⟨M, 1, none⟩ = some V.ev := (H2.out.cellM 1).trans (mC_get V s2).2.1
        have q12 : w2.cell? ⟨w.heap.size, 1, none⟩ = some (.int .u8 na) := by rw [hw2]; exact (World.cell?_setCell_other _ ⟨F, 20, none⟩ ⟨w.heap.size, 1, none⟩ _ (by simp)).trans q11
        have hlM2 : M < w2.heap.size := H2.out.ltM
        have hlX2 : w.heap.size < w2.heap.size := by rw [hw2]; simpa using hl1
        have HCL := Lib.hid (mframe_any w2.drew t2 M E V.wv V.ev V.iv (H2.out.drew 1).env.toEnvAt m12 hlM2 ni hnie f.ready xa f.ready.length xcp na)
        have HS2 := Lib.hid hs2
        have HC2 := Lib.hid hcl2
        have HCLL := Lib.hid hcll
        obtain ⟨i1, a1, a2, a3, a4⟩ := info_P
        have HI := Lib.hid (And.intro a1 (And.intro a2 (And.intro a3 a4)))
        have HOV := Lib.hid hov
        have h24 : 2 < 4 := by omega
        clear hw2 ht2 hcl2 hcl2' hs2 R2 FX2 RW2 e13 hcll m12 a1 a2 a3 a4 H1 F1 va1 vb1 vc1 za1 q01 q11 q21 q31 q41 k201 z201 m81 z81 m11 m51 z51 hl1 hlF1 hlM1 HB1 he2 hev hov HSL pob zob
        go_region_law_o (first | (refine step_append_f rfl _ _ 82 rfl base 90 i1 (.pointer none) 1 8 Try.underlying82 HI.out.1 HI.out.2.1 HI.out.2.2.1 HI.out.2.2.2 rfl (by decide) _ (ol.length + 1) (ptrC cl2) rfl OA.out _ 1 [.pointer (some ⟨F3, 0, none⟩)] rfl RA.out (fun u hu => by simp at hu; subst hu; rfl) y1 y2 BA.out ?_; intro v7 w7 hown7 hgrow7 hfr7; obtain ⟨va7, vc7, rfl, -, -⟩ := oshape hown7; have HNW := Lib.hid (H3.out.pushed P3.out (by rw [HOV.out]; exact hgrow7) (by rw [HOV.out]; exact hfr7) (by rw [HCLL.out]; exact hown7)); have hbO := ((Trn.app (t := t3) (c := 4) (base := base) _ hgrow7 (by have := H3.out.ho.tag; rw [HOV.out] at this; exact this) hfr7 hown7 h24 H3.out.bs).blks M hlM3 (fun e9 => by rw [H3.out.tm] at e9; omega)).1; have m57 := (World.cell?_of_block (a := ⟨M, 5, none⟩) hbO).trans m53; have z57 := (World.frozen?_of_block (a := ⟨M, 5, none⟩) hbO).trans z53; clear hbO hown7 hgrow7 hfr7) | (go_simp; go_at_call 41; refine HCL.out.mono ?_; rintro e w3 hP; obtain ⟨F3, sv3, t3, rfl, hb3, R3, FX3, P3⟩ := (H2.out.drew 1).newCall RD.out hP; have H3 := Lib.hid R3; have P3 := Lib.hid P3; have F3X := Lib.hid FX3; have OA : Hid ((w3.alloc (.cells #[.pointer (some ⟨F3, 0, none⟩)] 90)).ownsRow base 90 1 (.slice (some ⟨ob, 0, none⟩) (ol.length + 1) oc) (ol.length + 1) (ptrC cl2)) := (by have h9 := H3.out.ho.own; rw [HOV.out, HCLL.out] at h9; exact h9.alloc _); have RA : Hid (Rd (w3.alloc (.cells #[.pointer (some ⟨F3, 0, none⟩)] 90)) 1 (.slice (some ⟨w3.heap.size, 0, none⟩) 1 1) 1 [.pointer (some ⟨F3, 0, none⟩)]) := lit1_rd w3 _ _; have BA : Hid (base ≤ (w3.alloc (.cells #[.pointer (some ⟨F3, 0, none⟩)] 90)).heap.size) := (by have := H3.out.bs; show base ≤ (w3.alloc _).heap.size; simp; omega); have y1 : ol.length + 1 + 1 ≤ maxLen := (by unfold maxLen; omega); have y2 : (ol.length + 1 + 1) * 8 ≤ 140737488355328 := (by omega); have m53 : w3.cell? ⟨M, 5, none⟩ = some (.slice (some ⟨ob, 0, none⟩) (ol.length + 1) oc) := (hb3.cell (p := ⟨M, 5, none⟩) hlM2).trans m52; have z53 := (hb3.frozen (p := ⟨M, 5, none⟩) hlM2).trans z52; have q13 : w3.cell? ⟨w.heap.size, 1, none⟩ = some (.int .u8 na) := (hb3.cell (p := ⟨w.heap.size, 1, none⟩) hlX2).trans q12; have hlM3 : M < w3.heap.size := H3.out.ltM; clear hP R3 FX3 hb3))
        all_goals
          go_wp2_with fail
          refine bodyPost_end (results_none rfl _ _ _) rfl ⟨rfl, ?_⟩
          have R := HNW.out.1
          have FX := F2.out.trans (((Fx.refl w2 t2).drewN 1).trans (F3X.out.trans HNW.out.2))
          rw [HS2.out] at R
          rw [doF_41, HD.out, if_neg (by decide), HB2.out, Bool.not_true, if_neg (by decide), List.length_map, HD2.out, if_neg (by decide)]
          exact ⟨_, _, _, R, FX⟩

end Go.Proofs.Ytgjmdcbdkdmceaa.Mach
