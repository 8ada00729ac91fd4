/- The program's machine: its instructions (43, 48, 32, 33). Printed by gen_do.py. -/
import Derived.Test.YtgjmdcbdkdmceaaQ17
namespace Go.Proofs.Ytgjmdcbdkdmceaa.Mach
open Go.RowKit

set_option maxRecDepth 100000 in
set_option maxHeartbeats 4000000 in
theorem do_43 (w : World) (t : Nat → Nat) (base M : Nat) (E : Env) (V : MV) (ol : List (Fr × FV)) (f : Fr) (cv : FV) (s : St) (h : MRep w t base M E V (ol ++ [(f, cv)]) s) (na nb nc : Nat) (ia : na < 16) (ib : nb < 16) (ic : nc < 16) (imm : Int) (_pi : -9223372036854775808 ≤ imm ∧ imm ≤ 9223372036854775807)
    (_hform : formB ⟨43, na, nb, nc, imm⟩ = true) (hf : FrOk E f) (L : Nat) (hs : Sane E L s) (_hL : L ≤ 1000000) (hE : EnvOk E) :
    Calls Try.prog 62 #[.pointer (some ⟨M, 0, none⟩), .pointer (some ⟨cv.blk, 0, none⟩), .agg #[.int .u8 43, .int .u8 na, .int .u8 nb, .int .u8 nc, .int .i64 imm]] w fun e w' =>
      e = .returned (.tuple #[]) ∧ MPost w t base M E (doF E s (ol.map Prod.fst) f ⟨43, na, nb, nc, imm⟩) w' := by
  have hp := h.fr.last
  obtain ⟨F, hF⟩ : ∃ F, F = cv.blk := ⟨_, rfl⟩
  obtain ⟨gA, hgA⟩ : ∃ g, g = f.r na := ⟨_, rfl⟩
  obtain ⟨gB, hgB⟩ : ∃ g, g = f.r nb := ⟨_, rfl⟩
  obtain ⟨gC, hgC⟩ : ∃ g, g = f.r nc := ⟨_, rfl⟩
  have va : w.cell? ⟨F, 2 + na, none⟩ = some (.int .i64 gA) := by rw [hF, hp.cellF, fL_reg f cv hp.rl na ia, hgA]; rfl
  have vb : w.cell? ⟨F, 2 + nb, none⟩ = some (.int .i64 gB) := by rw [hF, hp.cellF, fL_reg f cv hp.rl nb ib, hgB]; rfl
  have vc : w.cell? ⟨F, 2 + nc, none⟩ = some (.int .i64 gC) := by rw [hF, hp.cellF, fL_reg f cv hp.rl nc ic, hgC]; rfl
  have za : w.frozen? ⟨F, 2 + na, none⟩ = false := by rw [hF]; exact hp.frz _
  have iA : (na : Int) < 16 := by omega
  have iB : (nb : Int) < 16 := by omega
  have iC : (nc : Int) < 16 := by omega
  have hlF : F < w.heap.size := by rw [hF]; exact hp.lt
  have hlM : M < w.heap.size := h.ltM
  have tF : 2 < t F := by rw [hF, hp.tf]; omega
  have tM : 2 < t M := by rw [h.tm]; omega
  have nFM : ¬ F = M := fun e => by have h1 := hp.tf; rw [← hF, e, h.tm] at h1; omega
  have nMF : ¬ M = F := fun e => nFM e.symm
  have mixed : Try.prog.follows Departure.mixedOrders = true := by kernel_rfl
  have H := Lib.hid h
  have HP := Lib.hid hp
  have HF := Lib.hid hF
  have HFR := Lib.hid hf
  have HS := Lib.hid hs
  have HEE := Lib.hid hE
  have HGA := Lib.hid hgA.symm
  have HGB := Lib.hid hgB.symm
  have HGC := Lib.hid hgC.symm
  have BEL : Hid (∀ W : World, Below W.heap.size W (W.alloc (.cells #[.int .u8 43, .int .u8 na, .int .u8 nb, .int .u8 nc, .int .i64 imm] 73))) := fun W => (Below.refl _ _).alloc (Nat.le_refl _) _
  have F0 : Hid (Fx w w t t) := Fx.refl w t
  rw [← hF]
  clear h hp hF hf hs hE hgA hgB hgC
  go_enter Try.func62, Try.ntmps62
  have eT : s.top (ol.map Prod.fst) f = s := by
    have e := H.out.opn
    rw [List.map_append, List.map_cons, List.map_nil] at e
    show { s with opn := ol.map Prod.fst ++ [f] } = s
    rw [← e]
  have ET := Lib.hid eT
  clear eT
  have m8 : w.cell? ⟨M, 8, none⟩ = some (.int .u8 s.end_) := (H.out.cellM 8).trans (mC_get V s).2.2.2.2.2.2.1
  have z8 := H.out.frzM 8
  obtain ⟨ia, ic, hiv⟩ := Rd.shape H.out.env.hi
  have m4 : w.cell? ⟨M, 4, none⟩ = some (.slice ia E.inp.length ic) := (H.out.cellM 4).trans (by rw [(mC_get V s).2.2.1, hiv])
  have mr : w.cell? ⟨M, 11, none⟩ = some (.int .i64 s.read) := (H.out.cellM 11).trans (mC_get V s).2.2.2.2.2.2.2.2.2.1
  have zr := H.out.frzM 11
  have hrd := HS.out.rd
  go_wp2_with fail
  obtain ⟨w1, hw1⟩ : ∃ w1, w1 = w.alloc (.cells #[.int .u8 43, .int .u8 na, .int .u8 nb, .int .u8 nc, .int .i64 imm] 73) := ⟨_, rfl⟩
  rw [← hw1]
  have hB1 : Below w.heap.size w w1 := by rw [hw1]; exact BEL.out w
  have hc1 : w1.heap[w.heap.size]? = some (.cells #[.int .u8 43, .int .u8 na, .int .u8 nb, .int .u8 nc, .int .i64 imm] 73 (0, 0)) := by rw [hw1]; exact heap_alloc_new _ _
  have q01 : w1.cell? ⟨w.heap.size, 0, none⟩ = some (.int .u8 43) := by simp [World.cell?, hc1]
  have q11 : w1.cell? ⟨w.heap.size, 1, none⟩ = some (.int .u8 na) := by simp [World.cell?, hc1]
  have q21 : w1.cell? ⟨w.heap.size, 2, none⟩ = some (.int .u8 nb) := by simp [World.cell?, hc1]
  have q31 : w1.cell? ⟨w.heap.size, 3, none⟩ = some (.int .u8 nc) := by simp [World.cell?, hc1]
  have q41 : w1.cell? ⟨w.heap.size, 4, none⟩ = some (.int .i64 imm) := by simp [World.cell?, hc1]
  have va1 := (hB1.cell (p := ⟨F, 2 + na, none⟩) hlF).trans va
  have vb1 := (hB1.cell (p := ⟨F, 2 + nb, none⟩) hlF).trans vb
  have vc1 := (hB1.cell (p := ⟨F, 2 + nc, none⟩) hlF).trans vc
  have za1 := (hB1.frozen (p := ⟨F, 2 + na, none⟩) hlF).trans za
  have H1 := Lib.hid (H.out.below hB1)
  have F1 : Hid (Fx w w1 t t) := Fx.below hB1
  have hl1 : w.heap.size < w1.heap.size := (Array.getElem?_eq_some_iff.1 hc1).1
  have hlF1 : F < w1.heap.size := by omega
  have hlM1 : M < w1.heap.size := by omega
  have nbF : ¬ w.heap.size = F := by omega
  have nbM : ¬ w.heap.size = M := by omega
  have HB1 := Lib.hid hB1
  have m81 := (hB1.cell (p := ⟨M, 8, none⟩) hlM).trans m8
  have z81 := (hB1.frozen (p := ⟨M, 8, none⟩) hlM).trans z8
  have m41 := (hB1.cell (p := ⟨M, 4, none⟩) hlM).trans m4
  have mr1 := (hB1.cell (p := ⟨M, 11, none⟩) hlM).trans mr
  have zr1 := (hB1.frozen (p := ⟨M, 11, none⟩) hlM).trans zr
  clear m4 mr zr m8 z8
  clear hw1 hc1 va vb vc za hB1
  by_cases hi : (E.inp.length : Int) ≤ s.read
  · have d1 : decide ((E.inp.length : Int) ≤ s.read) = true := decide_eq_true hi
    have HD := Lib.hid d1
    go_quiet (fail)
    go_wp2_with fail
    refine (ends_any M s.end_ 4 (w1.drewN nq) m81 z81).mono ?_
    rintro e w3 ⟨rfl, rfl⟩
    go_wp2_with fail
    refine bodyPost_end (results_none rfl _ _ _) rfl ⟨rfl, ?_⟩
    have R := (H1.out.drew nq).end' 4
    have FX := (F1.out.drewN nq).set (g := M) (i := 8) (.int .u8 4) tM
    rw [doF_43, HD.out, if_pos rfl, show (s.ends 4).top (ol.map Prod.fst) f = s.ends 4 from by show (s.top (ol.map Prod.fst) f).ends 4 = _; rw [ET.out]]
    exact ⟨t, V, _, R, FX⟩
  · have d1 : decide ((E.inp.length : Int) ≤ s.read) = false := decide_eq_false hi
    have HD := Lib.hid d1
    obtain ⟨nr, hnr⟩ : ∃ n : Nat, s.read = n := ⟨s.read.toNat, by omega⟩
    have hil := HEE.out.il
    obtain ⟨ib2, io, hiv', hlib, hij⟩ : ∃ b o, ia = some ⟨b, o, none⟩ ∧ b < w1.heap.size ∧ w1.cell? ⟨b, o + nr, none⟩ = some (.int .i64 (E.inp.getD nr 0)) := by
      rcases Rd.split H1.out.env.hi (by omega) with ⟨_, _, _, h2, _⟩ | ⟨b, o, c, h1, _, _, _, hl, hc⟩
      · omega
      · rw [hiv] at h1
        simp only [Value.slice.injEq] at h1
        refine ⟨b, o, h1.1, hl, ?_⟩
        have hlen : nr < (intsV E.inp).length := by simp [intsV]; omega
        rw [hc nr hlen]
        simp [intsV, show nr < E.inp.length by omega]
    subst hiv'
    obtain ⟨gI, hgI⟩ : ∃ g, g = E.inp.getD nr 0 := ⟨_, rfl⟩
    rw [← hgI] at hij
    rw [hnr] at mr1 d1
    have hnrl : (nr : Int) < E.inp.length := by omega
    have HGI := Lib.hid hgI
    have HNR := Lib.hid hnr
    clear hgI hnr
    go_quiet (fail)
    go_wp2_with fail
    obtain ⟨w2, hw2⟩ : ∃ w2, w2 = w1.drewN nq := ⟨_, rfl⟩
    rw [← hw2]
    have hij2 : w2.cell? ⟨ib2, io + nr, none⟩ = some (.int .i64 gI) := by rw [hw2]; exact hij
    have H2 : Hid (MRep w2 t base M E V (ol ++ [(f, cv)]) s) := by rw [hw2]; exact H1.out.drew nq
    have F2 : Hid (Fx w w2 t t) := by rw [hw2]; exact F1.out.drewN nq
    have va2 : w2.cell? ⟨F, 2 + na, none⟩ = some (.int .i64 gA) := by rw [hw2]; exact va1
    have za2 : w2.frozen? ⟨F, 2 + na, none⟩ = false := by rw [hw2]; exact za1
    have q12 : w2.cell? ⟨w.heap.size, 1, none⟩ = some (.int .u8 na) := by rw [hw2]; exact q11
    have q42 : w2.cell? ⟨w.heap.size, 4, none⟩ = some (.int .i64 imm) := by rw [hw2]; exact q41
    have hl2 : w.heap.size < w2.heap.size := by rw [hw2]; exact hl1
    have hlF2 : F < w2.heap.size := by rw [hw2]; exact hlF1
    have hlM2 : M < w2.heap.size := by rw [hw2]; exact hlM1
    have m42 : w2.cell? ⟨M, 4, none⟩ = some (.slice (some ⟨ib2, io, none⟩) E.inp.length ic) := by rw [hw2]; exact m41
    have mr2 : w2.cell? ⟨M, 11, none⟩ = some (.int .i64 nr) := by rw [hw2]; exact mr1
    have zr2 : w2.frozen? ⟨M, 11, none⟩ = false := by rw [hw2]; exact zr1
    clear hw2 H1 F1 vb1 vc1 q01 q21 q31 HB1 va1 za1 q11 q41 hl1 hlF1 hlM1 m41 mr1 zr1
    clear hij m81 z81
    go_still_tail 15, mixed
    go_wp2_with fail
    refine bodyPost_end (results_none rfl _ _ _) rfl ⟨rfl, ?_⟩
    have R := ((H2.out.reg na ia gI).drew 1).read' (nr + 1)
    have FX := ((F2.out.set (g := F) (i := 2 + na) (.int .i64 gI) tF).drewN 1).set (g := M) (i := 11) (.int .i64 (nr + 1)) tM
    rw [← HF.out] at R
    rw [doF_43, HD.out, if_neg (by decide), HNR.out, Int.toNat_natCast, ← HGI.out]
    exact ⟨t, V, _, R, FX⟩

set_option maxRecDepth 100000 in
set_option maxHeartbeats 4000000 in
theorem do_48 (w : World) (t : Nat → Nat) (base M : Nat) (E : Env) (V : MV) (ol : List (Fr × FV)) (f : Fr) (cv : FV) (s : St) (h : MRep w t base M E V (ol ++ [(f, cv)]) s) (na nb nc : Nat) (ia : na < 16) (ib : nb < 16) (ic : nc < 16) (imm : Int) (pi : -9223372036854775808 ≤ imm ∧ imm ≤ 9223372036854775807)
    (hform : formB ⟨48, na, nb, nc, imm⟩ = true) (hf : FrOk E f) (L : Nat) (hs : Sane E L s) (_hL : L ≤ 1000000) (hE : EnvOk E) :
    Calls Try.prog 62 #[.pointer (some ⟨M, 0, none⟩), .pointer (some ⟨cv.blk, 0, none⟩), .agg #[.int .u8 48, .int .u8 na, .int .u8 nb, .int .u8 nc, .int .i64 imm]] w fun e w' =>
      e = .returned (.tuple #[]) ∧ MPost w t base M E (doF E s (ol.map Prod.fst) f ⟨48, na, nb, nc, imm⟩) w' := by
  have hp := h.fr.last
  obtain ⟨F, hF⟩ : ∃ F, F = cv.blk := ⟨_, rfl⟩
  obtain ⟨gA, hgA⟩ : ∃ g, g = f.r na := ⟨_, rfl⟩
  obtain ⟨gB, hgB⟩ : ∃ g, g = f.r nb := ⟨_, rfl⟩
  obtain ⟨gC, hgC⟩ : ∃ g, g = f.r nc := ⟨_, rfl⟩
  have va : w.cell? ⟨F, 2 + na, none⟩ = some (.int .i64 gA) := by rw [hF, hp.cellF, fL_reg f cv hp.rl na ia, hgA]; rfl
  have vb : w.cell? ⟨F, 2 + nb, none⟩ = some (.int .i64 gB) := by rw [hF, hp.cellF, fL_reg f cv hp.rl nb ib, hgB]; rfl
  have vc : w.cell? ⟨F, 2 + nc, none⟩ = some (.int .i64 gC) := by rw [hF, hp.cellF, fL_reg f cv hp.rl nc ic, hgC]; rfl
  have za : w.frozen? ⟨F, 2 + na, none⟩ = false := by rw [hF]; exact hp.frz _
  have iA : (na : Int) < 16 := by omega
  have iB : (nb : Int) < 16 := by omega
  have iC : (nc : Int) < 16 := by omega
  have hlF : F < w.heap.size := by rw [hF]; exact hp.lt
  have hlM : M < w.heap.size := h.ltM
  have tF : 2 < t F := by rw [hF, hp.tf]; omega
  have tM : 2 < t M := by rw [h.tm]; omega
  have nFM : ¬ F = M := fun e => by have h1 := hp.tf; rw [← hF, e, h.tm] at h1; omega
  have nMF : ¬ M = F := fun e => nFM e.symm
  have mixed : Try.prog.follows Departure.mixedOrders = true := by kernel_rfl
  have H := Lib.hid h
  have HP := Lib.hid hp
  have HF := Lib.hid hF
  have HFR := Lib.hid hf
  have HS := Lib.hid hs
  have HEE := Lib.hid hE
  have HGA := Lib.hid hgA.symm
  have HGB := Lib.hid hgB.symm
  have HGC := Lib.hid hgC.symm
  have BEL : Hid (∀ W : World, Below W.heap.size W (W.alloc (.cells #[.int .u8 48, .int .u8 na, .int .u8 nb, .int .u8 nc, .int .i64 imm] 73))) := fun W => (Below.refl _ _).alloc (Nat.le_refl _) _
  have F0 : Hid (Fx w w t t) := Fx.refl w t
  rw [← hF]
  clear h hp hF hf hs hE hgA hgB hgC
  go_enter Try.func62, Try.ntmps62
  have eT : s.top (ol.map Prod.fst) f = s := by
    have e := H.out.opn
    rw [List.map_append, List.map_cons, List.map_nil] at e
    show { s with opn := ol.map Prod.fst ++ [f] } = s
    rw [← e]
  have ET := Lib.hid eT
  clear eT
  have hi0 := formB_imm hform (by omega)
  obtain ⟨ni, rfl⟩ : ∃ n : Nat, imm = n := ⟨imm.toNat, by omega⟩
  have m8 : w.cell? ⟨M, 8, none⟩ = some (.int .u8 s.end_) := (H.out.cellM 8).trans (mC_get V s).2.2.2.2.2.2.1
  have z8 := H.out.frzM 8
  obtain ⟨aa, ac, hav, -, -⟩ := oshape HP.out.ar.own
  have hav : cv.av = .slice aa f.args.length ac := hav
  have k19 : w.cell? ⟨F, 19, none⟩ = some (.slice aa f.args.length ac) := by rw [HF.out, HP.out.cellF, (fL_tail f cv HP.out.rl).2.1, hav]
  go_wp2_with fail
  obtain ⟨w1, hw1⟩ : ∃ w1, w1 = w.alloc (.cells #[.int .u8 48, .int .u8 na, .int .u8 nb, .int .u8 nc, .int .i64 ni] 73) := ⟨_, rfl⟩
  rw [← hw1]
  have hB1 : Below w.heap.size w w1 := by rw [hw1]; exact BEL.out w
  have hc1 : w1.heap[w.heap.size]? = some (.cells #[.int .u8 48, .int .u8 na, .int .u8 nb, .int .u8 nc, .int .i64 ni] 73 (0, 0)) := by rw [hw1]; exact heap_alloc_new _ _
  have q01 : w1.cell? ⟨w.heap.size, 0, none⟩ = some (.int .u8 48) := by simp [World.cell?, hc1]
  have q11 : w1.cell? ⟨w.heap.size, 1, none⟩ = some (.int .u8 na) := by simp [World.cell?, hc1]
  have q21 : w1.cell? ⟨w.heap.size, 2, none⟩ = some (.int .u8 nb) := by simp [World.cell?, hc1]
  have q31 : w1.cell? ⟨w.heap.size, 3, none⟩ = some (.int .u8 nc) := by simp [World.cell?, hc1]
  have q41 : w1.cell? ⟨w.heap.size, 4, none⟩ = some (.int .i64 ni) := by simp [World.cell?, hc1]
  have va1 := (hB1.cell (p := ⟨F, 2 + na, none⟩) hlF).trans va
  have vb1 := (hB1.cell (p := ⟨F, 2 + nb, none⟩) hlF).trans vb
  have vc1 := (hB1.cell (p := ⟨F, 2 + nc, none⟩) hlF).trans vc
  have za1 := (hB1.frozen (p := ⟨F, 2 + na, none⟩) hlF).trans za
  have H1 := Lib.hid (H.out.below hB1)
  have F1 : Hid (Fx w w1 t t) := Fx.below hB1
  have hl1 : w.heap.size < w1.heap.size := (Array.getElem?_eq_some_iff.1 hc1).1
  have hlF1 : F < w1.heap.size := by omega
  have hlM1 : M < w1.heap.size := by omega
  have nbF : ¬ w.heap.size = F := by omega
  have nbM : ¬ w.heap.size = M := by omega
  have HB1 := Lib.hid hB1
  have m81 := (hB1.cell (p := ⟨M, 8, none⟩) hlM).trans m8
  have z81 := (hB1.frozen (p := ⟨M, 8, none⟩) hlM).trans z8
  have k191 := (hB1.cell (p := ⟨F, 19, none⟩) hlF).trans k19
  clear k19 m8 z8
  clear hw1 hc1 va vb vc za hB1
  by_cases hi : (f.args.length : Int) ≤ ni
  · have d1 : decide ((f.args.length : Int) ≤ (ni : Int)) = true := decide_eq_true hi
    have HD := Lib.hid d1
    go_quiet (fail)
    go_wp2_with fail
    refine (ends_any M s.end_ 8 (w1.drewN nq) m81 z81).mono ?_
    rintro e w3 ⟨rfl, rfl⟩
    go_wp2_with fail
    refine bodyPost_end (results_none rfl _ _ _) rfl ⟨rfl, ?_⟩
    have R := (H1.out.drew nq).end' 8
    have FX := (F1.out.drewN nq).set (g := M) (i := 8) (.int .u8 8) tM
    rw [doF_48, HD.out, if_pos rfl, show (s.ends 8).top (ol.map Prod.fst) f = s.ends 8 from by show (s.top (ol.map Prod.fst) f).ends 8 = _; rw [ET.out]]
    exact ⟨t, V, _, R, FX⟩
  · have d1 : decide ((f.args.length : Int) ≤ (ni : Int)) = false := decide_eq_false hi
    have HD := Lib.hid d1
    obtain ⟨ab, ac', hav', hlab, -, -, haj⟩ := osplit H1.out.fr.last.ar.own (by show 0 < f.args.length; omega)
    have hav' : cv.av = .slice (some ⟨ab, 0, none⟩) f.args.length ac' := hav'
    rw [hav] at hav'
    simp only [Value.slice.injEq, true_and] at hav'
    obtain ⟨rfl, rfl⟩ := hav'
    obtain ⟨gP, hgP⟩ : ∃ g, g = f.args.getD ni 0 := ⟨_, rfl⟩
    have vP : w1.cell? ⟨ab, ni, none⟩ = some (.int .i64 gP) := by rw [hgP]; exact haj _ _ (intsV_at (by show ni < f.args.length; omega))
    have hni : (ni : Int) < f.args.length := by omega
    have HGP := Lib.hid hgP
    clear hgP haj
    go_quiet (fail)
    go_wp2_with fail
    obtain ⟨w2, hw2⟩ : ∃ w2, w2 = w1.drewN nq := ⟨_, rfl⟩
    rw [← hw2]
    have vP2 : w2.cell? ⟨ab, ni, none⟩ = some (.int .i64 gP) := by rw [hw2]; exact vP
    have H2 : Hid (MRep w2 t base M E V (ol ++ [(f, cv)]) s) := by rw [hw2]; exact H1.out.drew nq
    have F2 : Hid (Fx w w2 t t) := by rw [hw2]; exact F1.out.drewN nq
    have va2 : w2.cell? ⟨F, 2 + na, none⟩ = some (.int .i64 gA) := by rw [hw2]; exact va1
    have za2 : w2.frozen? ⟨F, 2 + na, none⟩ = false := by rw [hw2]; exact za1
    have q12 : w2.cell? ⟨w.heap.size, 1, none⟩ = some (.int .u8 na) := by rw [hw2]; exact q11
    have q42 : w2.cell? ⟨w.heap.size, 4, none⟩ = some (.int .i64 ni) := by rw [hw2]; exact q41
    have hl2 : w.heap.size < w2.heap.size := by rw [hw2]; exact hl1
    have hlF2 : F < w2.heap.size := by rw [hw2]; exact hlF1
    have hlM2 : M < w2.heap.size := by rw [hw2]; exact hlM1
    have k192 : w2.cell? ⟨F, 19, none⟩ = some (.slice (some ⟨ab, 0, none⟩) f.args.length ac) := by rw [hw2]; exact k191
    clear hw2 H1 F1 vb1 vc1 q01 q21 q31 HB1 va1 za1 q11 q41 hl1 hlF1 hlM1 k191
    clear vP m81 z81
    go_still_tail 12, mixed
    go_wp2_with fail
    refine bodyPost_end (results_none rfl _ _ _) rfl ⟨rfl, ?_⟩
    have R := (H2.out.reg na ia gP).drew 1
    have FX := (F2.out.set (g := F) (i := 2 + na) (.int .i64 gP) tF).drewN 1
    rw [← HF.out] at R
    rw [doF_48, HD.out, if_neg (by decide), Int.toNat_natCast, ← HGP.out]
    exact ⟨t, V, _, R, FX⟩

set_option maxRecDepth 100000 in
set_option maxHeartbeats 4000000 in
theorem do_32 (w : World) (t : Nat → Nat) (base M : Nat) (E : Env) (V : MV) (ol : List (Fr × FV)) (f : Fr) (cv : FV) (s : St) (h : MRep w t base M E V (ol ++ [(f, cv)]) s) (na nb nc : Nat) (ia : na < 16) (ib : nb < 16) (ic : nc < 16) (imm : Int) (pi : -9223372036854775808 ≤ imm ∧ imm ≤ 9223372036854775807)
    (hform : formB ⟨32, na, nb, nc, imm⟩ = true) (hf : FrOk E f) (L : Nat) (hs : Sane E L s) (_hL : L ≤ 1000000) (hE : EnvOk E) :
    Calls Try.prog 62 #[.pointer (some ⟨M, 0, none⟩), .pointer (some ⟨cv.blk, 0, none⟩), .agg #[.int .u8 32, .int .u8 na, .int .u8 nb, .int .u8 nc, .int .i64 imm]] w fun e w' =>
      e = .returned (.tuple #[]) ∧ MPost w t base M E (doF E s (ol.map Prod.fst) f ⟨32, na, nb, nc, imm⟩) w' := by
  have hp := h.fr.last
  obtain ⟨F, hF⟩ : ∃ F, F = cv.blk := ⟨_, rfl⟩
  obtain ⟨gA, hgA⟩ : ∃ g, g = f.r na := ⟨_, rfl⟩
  obtain ⟨gB, hgB⟩ : ∃ g, g = f.r nb := ⟨_, rfl⟩
  obtain ⟨gC, hgC⟩ : ∃ g, g = f.r nc := ⟨_, rfl⟩
  have va : w.cell? ⟨F, 2 + na, none⟩ = some (.int .i64 gA) := by rw [hF, hp.cellF, fL_reg f cv hp.rl na ia, hgA]; rfl
  have vb : w.cell? ⟨F, 2 + nb, none⟩ = some (.int .i64 gB) := by rw [hF, hp.cellF, fL_reg f cv hp.rl nb ib, hgB]; rfl
  have vc : w.cell? ⟨F, 2 + nc, none⟩ = some (.int .i64 gC) := by rw [hF, hp.cellF, fL_reg f cv hp.rl nc ic, hgC]; rfl
  have za : w.frozen? ⟨F, 2 + na, none⟩ = false := by rw [hF]; exact hp.frz _
  have iA : (na : Int) < 16 := by omega
  have iB : (nb : Int) < 16 := by omega
  have iC : (nc : Int) < 16 := by omega
  have hlF : F < w.heap.size := by rw [hF]; exact hp.lt
  have hlM : M < w.heap.size := h.ltM
  have tF : 2 < t F := by rw [hF, hp.tf]; omega
  have tM : 2 < t M := by rw [h.tm]; omega
  have nFM : ¬ F = M := fun e => by have h1 := hp.tf; rw [← hF, e, h.tm] at h1; omega
  have nMF : ¬ M = F := fun e => nFM e.symm
  have mixed : Try.prog.follows Departure.mixedOrders = true := by kernel_rfl
  have H := Lib.hid h
  have HP := Lib.hid hp
  have HF := Lib.hid hF
  have HFR := Lib.hid hf
  have HS := Lib.hid hs
  have HEE := Lib.hid hE
  have HGA := Lib.hid hgA.symm
  have HGB := Lib.hid hgB.symm
  have HGC := Lib.hid hgC.symm
  have BEL : Hid (∀ W : World, Below W.heap.size W (W.alloc (.cells #[.int .u8 32, .int .u8 na, .int .u8 nb, .int .u8 nc, .int .i64 imm] 73))) := fun W => (Below.refl _ _).alloc (Nat.le_refl _) _
  have F0 : Hid (Fx w w t t) := Fx.refl w t
  rw [← hF]
  clear h hp hF hf hs hE hgA hgB hgC
  go_enter Try.func62, Try.ntmps62
  have eT : s.top (ol.map Prod.fst) f = s := by
    have e := H.out.opn
    rw [List.map_append, List.map_cons, List.map_nil] at e
    show { s with opn := ol.map Prod.fst ++ [f] } = s
    rw [← e]
  have ET := Lib.hid eT
  clear eT
  have hi0 := formB_imm hform (by omega)
  obtain ⟨ni, rfl⟩ : ∃ n : Nat, imm = n := ⟨imm.toNat, by omega⟩
  have m8 : w.cell? ⟨M, 8, none⟩ = some (.int .u8 s.end_) := (H.out.cellM 8).trans (mC_get V s).2.2.2.2.2.2.1
  have z8 := H.out.frzM 8
  obtain ⟨sa, sc, hsv, -, -⟩ := oshape HP.out.sl.own
  have hsv : cv.sv = .slice sa f.slots.length sc := hsv
  have k18 : w.cell? ⟨F, 18, none⟩ = some cv.sv := by rw [HF.out, HP.out.cellF, (fL_tail f cv HP.out.rl).1]
  go_wp2_with fail
  obtain ⟨w1, hw1⟩ : ∃ w1, w1 = w.alloc (.cells #[.int .u8 32, .int .u8 na, .int .u8 nb, .int .u8 nc, .int .i64 ni] 73) := ⟨_, rfl⟩
  rw [← hw1]
  have hB1 : Below w.heap.size w w1 := by rw [hw1]; exact BEL.out w
  have hc1 : w1.heap[w.heap.size]? = some (.cells #[.int .u8 32, .int .u8 na, .int .u8 nb, .int .u8 nc, .int .i64 ni] 73 (0, 0)) := by rw [hw1]; exact heap_alloc_new _ _
  have q01 : w1.cell? ⟨w.heap.size, 0, none⟩ = some (.int .u8 32) := by simp [World.cell?, hc1]
  have q11 : w1.cell? ⟨w.heap.size, 1, none⟩ = some (.int .u8 na) := by simp [World.cell?, hc1]
  have q21 : w1.cell? ⟨w.heap.size, 2, none⟩ = some (.int .u8 nb) := by simp [World.cell?, hc1]
  have q31 : w1.cell? ⟨w.heap.size, 3, none⟩ = some (.int .u8 nc) := by simp [World.cell?, hc1]
  have q41 : w1.cell? ⟨w.heap.size, 4, none⟩ = some (.int .i64 ni) := by simp [World.cell?, hc1]
  have va1 := (hB1.cell (p := ⟨F, 2 + na, none⟩) hlF).trans va
  have vb1 := (hB1.cell (p := ⟨F, 2 + nb, none⟩) hlF).trans vb
  have vc1 := (hB1.cell (p := ⟨F, 2 + nc, none⟩) hlF).trans vc
  have za1 := (hB1.frozen (p := ⟨F, 2 + na, none⟩) hlF).trans za
  have H1 := Lib.hid (H.out.below hB1)
  have F1 : Hid (Fx w w1 t t) := Fx.below hB1
  have hl1 : w.heap.size < w1.heap.size := (Array.getElem?_eq_some_iff.1 hc1).1
  have hlF1 : F < w1.heap.size := by omega
  have hlM1 : M < w1.heap.size := by omega
  have nbF : ¬ w.heap.size = F := by omega
  have nbM : ¬ w.heap.size = M := by omega
  have HB1 := Lib.hid hB1
  have m81 := (hB1.cell (p := ⟨M, 8, none⟩) hlM).trans m8
  have z81 := (hB1.frozen (p := ⟨M, 8, none⟩) hlM).trans z8
  have k181 := (hB1.cell (p := ⟨F, 18, none⟩) hlF).trans k18
  clear k18 m8 z8
  clear hw1 hc1 va vb vc za hB1
  refine (mslot_any w1 M F base cv.sv f.slots s.end_ ni k181 H1.out.fr.last.sl.own m81 z81).mono ?_
  rintro e w3 (⟨hr, ⟨sb, scc, hsv2, rfl⟩, hw⟩ | ⟨hr, rfl, rfl⟩)
  · have hw := hw.symm
    subst hw
    have d1 : decide ((f.slots.length : Int) ≤ (ni : Int)) = false := decide_eq_false (by omega)
    have HD := Lib.hid d1
    rw [Int.toNat_natCast]
    obtain ⟨sb', sc', hsv', hlsb, -, -, hsj⟩ := osplit H1.out.fr.last.sl.own (by show 0 < f.slots.length; omega)
    have hsv' : cv.sv = .slice (some ⟨sb', 0, none⟩) f.slots.length sc' := hsv'
    rw [hsv2] at hsv'
    simp only [Value.slice.injEq, Option.some.injEq, Addr.mk.injEq, and_true, true_and] at hsv'
    obtain ⟨rfl, rfl⟩ := hsv'
    obtain ⟨gS, hgS⟩ : ∃ g, g = f.slots.getD ni 0 := ⟨_, rfl⟩
    have vS : w1.cell? ⟨sb, ni, none⟩ = some (.int .i64 gS) := by rw [hgS]; exact hsj _ _ (intsV_at (by show ni < f.slots.length; omega))
    have zS : w1.frozen? ⟨sb, ni, none⟩ = false := ofrz (hsv2 ▸ H1.out.fr.last.sl.own) _
    have tS : 2 < t sb := by have := H1.out.fr.last.sl.tag sb (by show cv.sv.ownBlock = _; rw [hsv2]; rfl); omega
    have HGS := Lib.hid hgS
    have HSV := Lib.hid hsv2
    clear hgS hsj d1 hr hsv hsv2 k181
    go_wp2_with fail
    go_still_tail 7, mixed
    go_wp2_with fail
    refine bodyPost_end (results_none rfl _ _ _) rfl ⟨rfl, ?_⟩
    have R := (H1.out.reg na ia gS).drew 1
    have FX := (F1.out.set (g := F) (i := 2 + na) (.int .i64 gS) tF).drewN 1
    rw [← HF.out] at R
    rw [doF_32, HD.out, if_neg (by decide), Int.toNat_natCast, ← HGS.out]
    exact ⟨t, V, _, R, FX⟩
  · have d1 : decide ((f.slots.length : Int) ≤ (ni : Int)) = true := decide_eq_true (by omega)
    have HD := Lib.hid d1
    clear d1 hr
    go_wp2_with fail
    refine bodyPost_end (results_none rfl _ _ _) rfl ⟨rfl, ?_⟩
    have R := H1.out.end' 8
    have FX := F1.out.set (g := M) (i := 8) (.int .u8 8) tM
    rw [doF_32, HD.out, if_pos rfl, show (s.ends 8).top (ol.map Prod.fst) f = s.ends 8 from by show (s.top (ol.map Prod.fst) f).ends 8 = _; rw [ET.out]]
    exact ⟨t, V, _, R, FX⟩

set_option maxRecDepth 100000 in
set_option maxHeartbeats 4000000 in
theorem do_33 (w : World) (t : Nat → Nat) (base M : Nat) (E : Env) (V : MV) (ol : List (Fr × FV)) (f : Fr) (cv : FV) (s : St) (h : MRep w t base M E V (ol ++ [(f, cv)]) s) (na nb nc : Nat) (ia : na < 16) (ib : nb < 16) (ic : nc < 16) (imm : Int) (pi : -9223372036854775808 ≤ imm ∧ imm ≤ 9223372036854775807)
    (hform : formB ⟨33, na, nb, nc, imm⟩ = true) (hf : FrOk E f) (L : Nat) (hs : Sane E L s) (_hL : L ≤ 1000000) (hE : EnvOk E) :
    Calls Try.prog 62 #[.pointer (some ⟨M, 0, none⟩), .pointer (some ⟨cv.blk, 0, none⟩), .agg #[.int .u8 33, .int .u8 na, .int .u8 nb, .int .u8 nc, .int .i64 imm]] w fun e w' =>
      e = .returned (.tuple #[]) ∧ MPost w t base M E (doF E s (ol.map Prod.fst) f ⟨33, na, nb, nc, imm⟩) w' := by
  have hp := h.fr.last
  obtain ⟨F, hF⟩ : ∃ F, F = cv.blk := ⟨_, rfl⟩
  obtain ⟨gA, hgA⟩ : ∃ g, g = f.r na := ⟨_, rfl⟩
  obtain ⟨gB, hgB⟩ : ∃ g, g = f.r nb := ⟨_, rfl⟩
  obtain ⟨gC, hgC⟩ : ∃ g, g = f.r nc := ⟨_, rfl⟩
  have va : w.cell? ⟨F, 2 + na, none⟩ = some (.int .i64 gA) := by rw [hF, hp.cellF, fL_reg f cv hp.rl na ia, hgA]; rfl
  have vb : w.cell? ⟨F, 2 + nb, none⟩ = some (.int .i64 gB) := by rw [hF, hp.cellF, fL_reg f cv hp.rl nb ib, hgB]; rfl
  have vc : w.cell? ⟨F, 2 + nc, none⟩ = some (.int .i64 gC) := by rw [hF, hp.cellF, fL_reg f cv hp.rl nc ic, hgC]; rfl
  have za : w.frozen? ⟨F, 2 + na, none⟩ = false := by rw [hF]; exact hp.frz _
  have iA : (na : Int) < 16 := by omega
  have iB : (nb : Int) < 16 := by omega
  have iC : (nc : Int) < 16 := by omega
  have hlF : F < w.heap.size := by rw [hF]; exact hp.lt
  have hlM : M < w.heap.size := h.ltM
  have tF : 2 < t F := by rw [hF, hp.tf]; omega
  have tM : 2 < t M := by rw [h.tm]; omega
  have nFM : ¬ F = M := fun e => by have h1 := hp.tf; rw [← hF, e, h.tm] at h1; omega
  have nMF : ¬ M = F := fun e => nFM e.symm
  have mixed : Try.prog.follows Departure.mixedOrders = true := by kernel_rfl
  have H := Lib.hid h
  have HP := Lib.hid hp
  have HF := Lib.hid hF
  have HFR := Lib.hid hf
  have HS := Lib.hid hs
  have HEE := Lib.hid hE
  have HGA := Lib.hid hgA.symm
  have HGB := Lib.hid hgB.symm
  have HGC := Lib.hid hgC.symm
  have BEL : Hid (∀ W : World, Below W.heap.size W (W.alloc (.cells #[.int .u8 33, .int .u8 na, .int .u8 nb, .int .u8 nc, .int .i64 imm] 73))) := fun W => (Below.refl _ _).alloc (Nat.le_refl _) _
  have F0 : Hid (Fx w w t t) := Fx.refl w t
  rw [← hF]
  clear h hp hF hf hs hE hgA hgB hgC
  go_enter Try.func62, Try.ntmps62
  have eT : s.top (ol.map Prod.fst) f = s := by
    have e := H.out.opn
    rw [List.map_append, List.map_cons, List.map_nil] at e
    show { s with opn := ol.map Prod.fst ++ [f] } = s
    rw [← e]
  have ET := Lib.hid eT
  clear eT
  have hi0 := formB_imm hform (by omega)
  obtain ⟨ni, rfl⟩ : ∃ n : Nat, imm = n := ⟨imm.toNat, by omega⟩
  have m8 : w.cell? ⟨M, 8, none⟩ = some (.int .u8 s.end_) := (H.out.cellM 8).trans (mC_get V s).2.2.2.2.2.2.1
  have z8 := H.out.frzM 8
  obtain ⟨sa, sc, hsv, -, -⟩ := oshape HP.out.sl.own
  have hsv : cv.sv = .slice sa f.slots.length sc := hsv
  have k18 : w.cell? ⟨F, 18, none⟩ = some cv.sv := by rw [HF.out, HP.out.cellF, (fL_tail f cv HP.out.rl).1]
  go_wp2_with fail
  obtain ⟨w1, hw1⟩ : ∃ w1, w1 = w.alloc (.cells #[.int .u8 33, .int .u8 na, .int .u8 nb, .int .u8 nc, .int .i64 ni] 73) := ⟨_, rfl⟩
  rw [← hw1]
  have hB1 : Below w.heap.size w w1 := by rw [hw1]; exact BEL.out w
  have hc1 : w1.heap[w.heap.size]? = some (.cells #[.int .u8 33, .int .u8 na, .int .u8 nb, .int .u8 nc, .int .i64 ni] 73 (0, 0)) := by rw [hw1]; exact heap_alloc_new _ _
  have q01 : w1.cell? ⟨w.heap.size, 0, none⟩ = some (.int .u8 33) := by simp [World.cell?, hc1]
  have q11 : w1.cell? ⟨w.heap.size, 1, none⟩ = some (.int .u8 na) := by simp [World.cell?, hc1]
  have q21 : w1.cell? ⟨w.heap.size, 2, none⟩ = some (.int .u8 nb) := by simp [World.cell?, hc1]
  have q31 : w1.cell? ⟨w.heap.size, 3, none⟩ = some (.int .u8 nc) := by simp [World.cell?, hc1]
  have q41 : w1.cell? ⟨w.heap.size, 4, none⟩ = some (.int .i64 ni) := by simp [World.cell?, hc1]
  have va1 := (hB1.cell (p := ⟨F, 2 + na, none⟩) hlF).trans va
  have vb1 := (hB1.cell (p := ⟨F, 2 + nb, none⟩) hlF).trans vb
  have vc1 := (hB1.cell (p := ⟨F, 2 + nc, none⟩) hlF).trans vc
  have za1 := (hB1.frozen (p := ⟨F, 2 + na, none⟩) hlF).trans za
  have H1 := Lib.hid (H.out.below hB1)
  have F1 : Hid (Fx w w1 t t) := Fx.below hB1
  have hl1 : w.heap.size < w1.heap.size := (Array.getElem?_eq_some_iff.1 hc1).1
  have hlF1 : F < w1.heap.size := by omega
  have hlM1 : M < w1.heap.size := by omega
  have nbF : ¬ w.heap.size = F := by omega
  have nbM : ¬ w.heap.size = M := by omega
  have HB1 := Lib.hid hB1
  have m81 := (hB1.cell (p := ⟨M, 8, none⟩) hlM).trans m8
  have z81 := (hB1.frozen (p := ⟨M, 8, none⟩) hlM).trans z8
  have k181 := (hB1.cell (p := ⟨F, 18, none⟩) hlF).trans k18
  clear k18 m8 z8
  clear hw1 hc1 va vb vc za hB1
  refine (mslot_any w1 M F base cv.sv f.slots s.end_ ni k181 H1.out.fr.last.sl.own m81 z81).mono ?_
  rintro e w3 (⟨hr, ⟨sb, scc, hsv2, rfl⟩, hw⟩ | ⟨hr, rfl, rfl⟩)
  · have hw := hw.symm
    subst hw
    have d1 : decide ((f.slots.length : Int) ≤ (ni : Int)) = false := decide_eq_false (by omega)
    have HD := Lib.hid d1
    rw [Int.toNat_natCast]
    obtain ⟨sb', sc', hsv', hlsb, -, -, hsj⟩ := osplit H1.out.fr.last.sl.own (by show 0 < f.slots.length; omega)
    have hsv' : cv.sv = .slice (some ⟨sb', 0, none⟩) f.slots.length sc' := hsv'
    rw [hsv2] at hsv'
    simp only [Value.slice.injEq, Option.some.injEq, Addr.mk.injEq, and_true, true_and] at hsv'
    obtain ⟨rfl, rfl⟩ := hsv'
    obtain ⟨gS, hgS⟩ : ∃ g, g = f.slots.getD ni 0 := ⟨_, rfl⟩
    have vS : w1.cell? ⟨sb, ni, none⟩ = some (.int .i64 gS) := by rw [hgS]; exact hsj _ _ (intsV_at (by show ni < f.slots.length; omega))
    have zS : w1.frozen? ⟨sb, ni, none⟩ = false := ofrz (hsv2 ▸ H1.out.fr.last.sl.own) _
    have tS : 2 < t sb := by have := H1.out.fr.last.sl.tag sb (by show cv.sv.ownBlock = _; rw [hsv2]; rfl); omega
    have HGS := Lib.hid hgS
    have HSV := Lib.hid hsv2
    clear hgS hsj d1 hr hsv hsv2 k181
    go_wp2_with fail
    go_still_tail 8, mixed
    go_wp2_with fail
    refine bodyPost_end (results_none rfl _ _ _) rfl ⟨rfl, ?_⟩
    have R := (H1.out.slot HSV.out ni gA).drew 1
    have FX := (F1.out.set (g := sb) (i := ni) (.int .i64 gA) tS).drewN 1
    rw [doF_33, HD.out, if_neg (by decide), Int.toNat_natCast, HGA.out]
    exact ⟨t, V, _, R, FX⟩
  · have d1 : decide ((f.slots.length : Int) ≤ (ni : Int)) = true := decide_eq_true (by omega)
    have HD := Lib.hid d1
    clear d1 hr
    go_wp2_with fail
    refine bodyPost_end (results_none rfl _ _ _) rfl ⟨rfl, ?_⟩
    have R := H1.out.end' 8
    have FX := F1.out.set (g := M) (i := 8) (.int .u8 8) tM
    rw [doF_33, HD.out, if_pos rfl, show (s.ends 8).top (ol.map Prod.fst) f = s.ends 8 from by show (s.top (ol.map Prod.fst) f).ends 8 = _; rw [ET.out]]
    exact ⟨t, V, _, R, FX⟩

end Go.Proofs.Ytgjmdcbdkdmceaa.Mach
