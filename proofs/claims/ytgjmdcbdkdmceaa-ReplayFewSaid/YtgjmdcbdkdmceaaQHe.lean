/- The program's machine: its instructions (m34, m35, m36, m38, m39). Printed by gen_do.py. -/
import Derived.Test.YtgjmdcbdkdmceaaQ17
namespace Go.Proofs.Ytgjmdcbdkdmceaa.Mach
open Go.RowKit

set_option maxRecDepth 100000 in
set_option maxHeartbeats 4000000 in
theorem mem_34 (w : World) (t : Nat → Nat) (base M : Nat) (E : Env) (V : MV) (ol : List (Fr × FV)) (f : Fr) (cv : FV) (s : St) (h : MRep w t base M E V (ol ++ [(f, cv)]) s) (na nb nc : Nat) (ia : na < 16) (ib : nb < 16) (ic : nc < 16) (imm : Int) (_pi : -9223372036854775808 ≤ imm ∧ imm ≤ 9223372036854775807)
    (_hform : formB ⟨34, na, nb, nc, imm⟩ = true) (hf : FrOk E f) (L : Nat) (hs : Sane E L s) (_hL : L ≤ 1000000) (hE : EnvOk E) :
    Calls Try.prog 81 #[.pointer (some ⟨M, 0, none⟩), .pointer (some ⟨cv.blk, 0, none⟩), .agg #[.int .u8 34, .int .u8 na, .int .u8 nb, .int .u8 nc, .int .i64 imm]] w fun e w' =>
      e = .returned (.tuple #[]) ∧ MPost w t base M E (doF E s (ol.map Prod.fst) f ⟨34, na, nb, nc, imm⟩) w' := by
  have hp := h.fr.last
  obtain ⟨F, hF⟩ : ∃ F, F = cv.blk := ⟨_, rfl⟩
  obtain ⟨gA, hgA⟩ : ∃ g, g = f.r na := ⟨_, rfl⟩
  obtain ⟨gB, hgB⟩ : ∃ g, g = f.r nb := ⟨_, rfl⟩
  obtain ⟨gC, hgC⟩ : ∃ g, g = f.r nc := ⟨_, rfl⟩
  have va : w.cell? ⟨F, 2 + na, none⟩ = some (.int .i64 gA) := by rw [hF, hp.cellF, fL_reg f cv hp.rl na ia, hgA]; rfl
  have vb : w.cell? ⟨F, 2 + nb, none⟩ = some (.int .i64 gB) := by rw [hF, hp.cellF, fL_reg f cv hp.rl nb ib, hgB]; rfl
  have vc : w.cell? ⟨F, 2 + nc, none⟩ = some (.int .i64 gC) := by rw [hF, hp.cellF, fL_reg f cv hp.rl nc ic, hgC]; rfl
  have za : w.frozen? ⟨F, 2 + na, none⟩ = false := by rw [hF]; exact hp.frz _
  have iA : (na : Int) < 16 := by omega
  have iB : (nb : Int) < 16 := by omega
  have iC : (nc : Int) < 16 := by omega
  have hlF : F < w.heap.size := by rw [hF]; exact hp.lt
  have hlM : M < w.heap.size := h.ltM
  have tF : 2 < t F := by rw [hF, hp.tf]; omega
  have tM : 2 < t M := by rw [h.tm]; omega
  have nFM : ¬ F = M := fun e => by have h1 := hp.tf; rw [← hF, e, h.tm] at h1; omega
  have nMF : ¬ M = F := fun e => nFM e.symm
  have mixed : Try.prog.follows Departure.mixedOrders = true := by kernel_rfl
  have H := Lib.hid h
  have HP := Lib.hid hp
  have HF := Lib.hid hF
  have HFR := Lib.hid hf
  have HS := Lib.hid hs
  have HEE := Lib.hid hE
  have HGA := Lib.hid hgA.symm
  have HGB := Lib.hid hgB.symm
  have HGC := Lib.hid hgC.symm
  have BEL : Hid (∀ W : World, Below W.heap.size W (W.alloc (.cells #[.int .u8 34, .int .u8 na, .int .u8 nb, .int .u8 nc, .int .i64 imm] 73))) := fun W => (Below.refl _ _).alloc (Nat.le_refl _) _
  have F0 : Hid (Fx w w t t) := Fx.refl w t
  rw [← hF]
  clear h hp hF hf hs hE hgA hgB hgC
  go_enter Try.func81, Try.ntmps81
  have eT : s.top (ol.map Prod.fst) f = s := by
    have e := H.out.opn
    rw [List.map_append, List.map_cons, List.map_nil] at e
    show { s with opn := ol.map Prod.fst ++ [f] } = s
    rw [← e]
  have ET := Lib.hid eT
  clear eT
  obtain ⟨ha, hcp, hhv, -, -⟩ := oshape H.out.hh.own
  have m6 : w.cell? ⟨M, 6, none⟩ = some (.slice ha s.heap.length hcp) := (H.out.cellM 6).trans (by rw [(mC_get V s).2.2.2.2.1, hhv])
  have m8 : w.cell? ⟨M, 8, none⟩ = some (.int .u8 s.end_) := (H.out.cellM 8).trans (mC_get V s).2.2.2.2.2.2.1
  have z8 := H.out.frzM 8
  have hhl : s.heap.length ≤ 4096 := HS.out.hl
  go_wp2_with fail
  obtain ⟨w1, hw1⟩ : ∃ w1, w1 = w.alloc (.cells #[.int .u8 34, .int .u8 na, .int .u8 nb, .int .u8 nc, .int .i64 imm] 73) := ⟨_, rfl⟩
  rw [← hw1]
  have hB1 : Below w.heap.size w w1 := by rw [hw1]; exact BEL.out w
  have hc1 : w1.heap[w.heap.size]? = some (.cells #[.int .u8 34, .int .u8 na, .int .u8 nb, .int .u8 nc, .int .i64 imm] 73 (0, 0)) := by rw [hw1]; exact heap_alloc_new _ _
  have q01 : w1.cell? ⟨w.heap.size, 0, none⟩ = some (.int .u8 34) := by simp [World.cell?, hc1]
  have q11 : w1.cell? ⟨w.heap.size, 1, none⟩ = some (.int .u8 na) := by simp [World.cell?, hc1]
  have q21 : w1.cell? ⟨w.heap.size, 2, none⟩ = some (.int .u8 nb) := by simp [World.cell?, hc1]
  have q31 : w1.cell? ⟨w.heap.size, 3, none⟩ = some (.int .u8 nc) := by simp [World.cell?, hc1]
  have q41 : w1.cell? ⟨w.heap.size, 4, none⟩ = some (.int .i64 imm) := by simp [World.cell?, hc1]
  have va1 := (hB1.cell (p := ⟨F, 2 + na, none⟩) hlF).trans va
  have vb1 := (hB1.cell (p := ⟨F, 2 + nb, none⟩) hlF).trans vb
  have vc1 := (hB1.cell (p := ⟨F, 2 + nc, none⟩) hlF).trans vc
  have za1 := (hB1.frozen (p := ⟨F, 2 + na, none⟩) hlF).trans za
  have H1 := Lib.hid (H.out.below hB1)
  have F1 : Hid (Fx w w1 t t) := Fx.below hB1
  have hl1 : w.heap.size < w1.heap.size := (Array.getElem?_eq_some_iff.1 hc1).1
  have hlF1 : F < w1.heap.size := by omega
  have hlM1 : M < w1.heap.size := by omega
  have nbF : ¬ w.heap.size = F := by omega
  have nbM : ¬ w.heap.size = M := by omega
  have HB1 := Lib.hid hB1
  have m61 := (hB1.cell (p := ⟨M, 6, none⟩) hlM).trans m6
  have m81 := (hB1.cell (p := ⟨M, 8, none⟩) hlM).trans m8
  have z81 := (hB1.frozen (p := ⟨M, 8, none⟩) hlM).trans z8
  clear m6 m8 z8
  clear hw1 hc1 va vb vc za hB1
  go_still_tail 13, mixed
  obtain ⟨w2, hw2⟩ : ∃ w2, w2 = w1.drew := ⟨_, rfl⟩
  change wpList _ _ _ _ _ (w1.drew)
  rw [← hw2]
  have H2 : Hid (MRep w2 t base M E V (ol ++ [(f, cv)]) s) := by rw [hw2]; exact H1.out.drew 1
  have F2 : Hid (Fx w w2 t t) := by rw [hw2]; exact F1.out.drewN 1
  have va2 : w2.cell? ⟨F, 2 + na, none⟩ = some (.int .i64 gA) := by rw [hw2]; exact va1
  have vb2 : w2.cell? ⟨F, 2 + nb, none⟩ = some (.int .i64 gB) := by rw [hw2]; exact vb1
  have vc2 : w2.cell? ⟨F, 2 + nc, none⟩ = some (.int .i64 gC) := by rw [hw2]; exact vc1
  have za2 : w2.frozen? ⟨F, 2 + na, none⟩ = false := by rw [hw2]; exact za1
  have q02 : w2.cell? ⟨w.heap.size, 0, none⟩ = some (.int .u8 34) := by rw [hw2]; exact q01
  have q12 : w2.cell? ⟨w.heap.size, 1, none⟩ = some (.int .u8 na) := by rw [hw2]; exact q11
  have q22 : w2.cell? ⟨w.heap.size, 2, none⟩ = some (.int .u8 nb) := by rw [hw2]; exact q21
  have q32 : w2.cell? ⟨w.heap.size, 3, none⟩ = some (.int .u8 nc) := by rw [hw2]; exact q31
  have q42 : w2.cell? ⟨w.heap.size, 4, none⟩ = some (.int .i64 imm) := by rw [hw2]; exact q41
  have hl2 : w.heap.size < w2.heap.size := by rw [hw2]; exact hl1
  have hlF2 : F < w2.heap.size := by rw [hw2]; exact hlF1
  have hlM2 : M < w2.heap.size := by rw [hw2]; exact hlM1
  have m62 : w2.cell? ⟨M, 6, none⟩ = some (.slice ha s.heap.length hcp) := by rw [hw2]; exact m61
  have m82 : w2.cell? ⟨M, 8, none⟩ = some (.int .u8 s.end_) := by rw [hw2]; exact m81
  have z82 : w2.frozen? ⟨M, 8, none⟩ = false := by rw [hw2]; exact z81
  clear hw2 H1 F1 va1 vb1 vc1 za1 q01 q11 q21 q31 q41 hl1 hlF1 hlM1 m61 m81 z81
  obtain ⟨⟨ce, cp⟩, hce⟩ : ∃ r, r = cellF s.heap gB gC := ⟨_, rfl⟩
  have HCF := Lib.hid hce.symm
  have HCE := Lib.hid (mcell_any w2 M base _ s.heap s.end_ gB gC m62 (hhv ▸ H2.out.hh.own) m82 z82 hhl)
  rw [← hce] at HCE
  clear hce
  go_wp2_with fail
  refine HCE.out.mono ?_
  rintro e w3 (⟨hr, ⟨hb, hn, hc, hhv2, rfl⟩, hw⟩ | ⟨hr, rfl, rfl⟩)
  · have hw := hw.symm
    subst hw
    simp only at hr
    subst hr
    simp only [Value.slice.injEq] at hhv2
    obtain ⟨rfl, rfl, rfl⟩ := hhv2
    obtain ⟨p0, p1⟩ := cellF_in HCF.out
    obtain ⟨np, rfl⟩ : ∃ n : Nat, cp = n := ⟨cp.toNat, by omega⟩
    obtain ⟨gH, hgH⟩ : ∃ g, g = s.heap.getD np 0 := ⟨_, rfl⟩
    obtain ⟨hb', hcp', hv', hlhb, -, -, hj⟩ := osplit H2.out.hh.own (by omega)
    rw [hhv] at hv'
    simp only [Value.slice.injEq, Option.some.injEq, Addr.mk.injEq, and_true, true_and] at hv'
    obtain ⟨rfl, rfl⟩ := hv'
    have vH : w2.cell? ⟨hb, np, none⟩ = some (.int .i64 gH) := by rw [hgH]; exact hj _ _ (intsV_at (by omega))
    have zH : w2.frozen? ⟨hb, np, none⟩ = false := ofrz (hhv ▸ H2.out.hh.own) _
    rw [Int.toNat_natCast]
    have HGH := Lib.hid hgH
    clear hj hgH HCE
    go_wp2_with fail
    go_still_tail 7, mixed
    go_wp2_with fail
    refine bodyPost_end (results_none rfl _ _ _) rfl ⟨rfl, ?_⟩
    have R := (H2.out.reg na ia gH).drew 1
    have FX := (F2.out.set (g := F) (i := 2 + na) (.int .i64 gH) tF).drewN 1
    rw [← HF.out] at R
    rw [doF_34, HGB.out, HGC.out, HCF.out]
    dsimp only
    rw [if_pos (show ((0 : Int) == 0) = true from rfl), Int.toNat_natCast, ← HGH.out]
    exact ⟨t, V, _, R, FX⟩
  · have h0 : (ce == 0) = false := by simpa using hr
    clear HCE
    go_wp2_with fail
    refine bodyPost_end (results_none rfl _ _ _) rfl ⟨rfl, ?_⟩
    have R := H2.out.end' ce
    have FX := F2.out.set (g := M) (i := 8) (.int .u8 ce) tM
    rw [doF_34, HGB.out, HGC.out, HCF.out, h0, if_neg (by decide), show (s.ends ce).top (ol.map Prod.fst) f = s.ends ce from by show (s.top (ol.map Prod.fst) f).ends ce = _; rw [ET.out]]
    exact ⟨t, V, _, R, FX⟩

set_option maxRecDepth 100000 in
set_option maxHeartbeats 4000000 in
theorem mem_35 (w : World) (t : Nat → Nat) (base M : Nat) (E : Env) (V : MV) (ol : List (Fr × FV)) (f : Fr) (cv : FV) (s : St) (h : MRep w t base M E V (ol ++ [(f, cv)]) s) (na nb nc : Nat) (ia : na < 16) (ib : nb < 16) (ic : nc < 16) (imm : Int) (_pi : -9223372036854775808 ≤ imm ∧ imm ≤ 9223372036854775807)
    (_hform : formB ⟨35, na, nb, nc, imm⟩ = true) (hf : FrOk E f) (L : Nat) (hs : Sane E L s) (_hL : L ≤ 1000000) (hE : EnvOk E) :
    Calls Try.prog 81 #[.pointer (some ⟨M, 0, none⟩), .pointer (some ⟨cv.blk, 0, none⟩), .agg #[.int .u8 35, .int .u8 na, .int .u8 nb, .int .u8 nc, .int .i64 imm]] w fun e w' =>
      e = .returned (.tuple #[]) ∧ MPost w t base M E (doF E s (ol.map Prod.fst) f ⟨35, na, nb, nc, imm⟩) w' := by
  have hp := h.fr.last
  obtain ⟨F, hF⟩ : ∃ F, F = cv.blk := ⟨_, rfl⟩
  obtain ⟨gA, hgA⟩ : ∃ g, g = f.r na := ⟨_, rfl⟩
  obtain ⟨gB, hgB⟩ : ∃ g, g = f.r nb := ⟨_, rfl⟩
  obtain ⟨gC, hgC⟩ : ∃ g, g = f.r nc := ⟨_, rfl⟩
  have va : w.cell? ⟨F, 2 + na, none⟩ = some (.int .i64 gA) := by rw [hF, hp.cellF, fL_reg f cv hp.rl na ia, hgA]; rfl
  have vb : w.cell? ⟨F, 2 + nb, none⟩ = some (.int .i64 gB) := by rw [hF, hp.cellF, fL_reg f cv hp.rl nb ib, hgB]; rfl
  have vc : w.cell? ⟨F, 2 + nc, none⟩ = some (.int .i64 gC) := by rw [hF, hp.cellF, fL_reg f cv hp.rl nc ic, hgC]; rfl
  have za : w.frozen? ⟨F, 2 + na, none⟩ = false := by rw [hF]; exact hp.frz _
  have iA : (na : Int) < 16 := by omega
  have iB : (nb : Int) < 16 := by omega
  have iC : (nc : Int) < 16 := by omega
  have hlF : F < w.heap.size := by rw [hF]; exact hp.lt
  have hlM : M < w.heap.size := h.ltM
  have tF : 2 < t F := by rw [hF, hp.tf]; omega
  have tM : 2 < t M := by rw [h.tm]; omega
  have nFM : ¬ F = M := fun e => by have h1 := hp.tf; rw [← hF, e, h.tm] at h1; omega
  have nMF : ¬ M = F := fun e => nFM e.symm
  have mixed : Try.prog.follows Departure.mixedOrders = true := by kernel_rfl
  have H := Lib.hid h
  have HP := Lib.hid hp
  have HF := Lib.hid hF
  have HFR := Lib.hid hf
  have HS := Lib.hid hs
  have HEE := Lib.hid hE
  have HGA := Lib.hid hgA.symm
  have HGB := Lib.hid hgB.symm
  have HGC := Lib.hid hgC.symm
  have BEL : Hid (∀ W : World, Below W.heap.size W (W.alloc (.cells #[.int .u8 35, .int .u8 na, .int .u8 nb, .int .u8 nc, .int .i64 imm] 73))) := fun W => (Below.refl _ _).alloc (Nat.le_refl _) _
  have F0 : Hid (Fx w w t t) := Fx.refl w t
  rw [← hF]
  clear h hp hF hf hs hE hgA hgB hgC
  go_enter Try.func81, Try.ntmps81
  have eT : s.top (ol.map Prod.fst) f = s := by
    have e := H.out.opn
    rw [List.map_append, List.map_cons, List.map_nil] at e
    show { s with opn := ol.map Prod.fst ++ [f] } = s
    rw [← e]
  have ET := Lib.hid eT
  clear eT
  obtain ⟨ha, hcp, hhv, -, -⟩ := oshape H.out.hh.own
  have m6 : w.cell? ⟨M, 6, none⟩ = some (.slice ha s.heap.length hcp) := (H.out.cellM 6).trans (by rw [(mC_get V s).2.2.2.2.1, hhv])
  have m8 : w.cell? ⟨M, 8, none⟩ = some (.int .u8 s.end_) := (H.out.cellM 8).trans (mC_get V s).2.2.2.2.2.2.1
  have z8 := H.out.frzM 8
  have hhl : s.heap.length ≤ 4096 := HS.out.hl
  go_wp2_with fail
  obtain ⟨w1, hw1⟩ : ∃ w1, w1 = w.alloc (.cells #[.int .u8 35, .int .u8 na, .int .u8 nb, .int .u8 nc, .int .i64 imm] 73) := ⟨_, rfl⟩
  rw [← hw1]
  have hB1 : Below w.heap.size w w1 := by rw [hw1]; exact BEL.out w
  have hc1 : w1.heap[w.heap.size]? = some (.cells #[.int .u8 35, .int .u8 na, .int .u8 nb, .int .u8 nc, .int .i64 imm] 73 (0, 0)) := by rw [hw1]; exact heap_alloc_new _ _
  have q01 : w1.cell? ⟨w.heap.size, 0, none⟩ = some (.int .u8 35) := by simp [World.cell?, hc1]
  have q11 : w1.cell? ⟨w.heap.size, 1, none⟩ = some (.int .u8 na) := by simp [World.cell?, hc1]
  have q21 : w1.cell? ⟨w.heap.size, 2, none⟩ = some (.int .u8 nb) := by simp [World.cell?, hc1]
  have q31 : w1.cell? ⟨w.heap.size, 3, none⟩ = some (.int .u8 nc) := by simp [World.cell?, hc1]
  have q41 : w1.cell? ⟨w.heap.size, 4, none⟩ = some (.int .i64 imm) := by simp [World.cell?, hc1]
  have va1 := (hB1.cell (p := ⟨F, 2 + na, none⟩) hlF).trans va
  have vb1 := (hB1.cell (p := ⟨F, 2 + nb, none⟩) hlF).trans vb
  have vc1 := (hB1.cell (p := ⟨F, 2 + nc, none⟩) hlF).trans vc
  have za1 := (hB1.frozen (p := ⟨F, 2 + na, none⟩) hlF).trans za
  have H1 := Lib.hid (H.out.below hB1)
  have F1 : Hid (Fx w w1 t t) := Fx.below hB1
  have hl1 : w.heap.size < w1.heap.size := (Array.getElem?_eq_some_iff.1 hc1).1
  have hlF1 : F < w1.heap.size := by omega
  have hlM1 : M < w1.heap.size := by omega
  have nbF : ¬ w.heap.size = F := by omega
  have nbM : ¬ w.heap.size = M := by omega
  have HB1 := Lib.hid hB1
  have m61 := (hB1.cell (p := ⟨M, 6, none⟩) hlM).trans m6
  have m81 := (hB1.cell (p := ⟨M, 8, none⟩) hlM).trans m8
  have z81 := (hB1.frozen (p := ⟨M, 8, none⟩) hlM).trans z8
  clear m6 m8 z8
  clear hw1 hc1 va vb vc za hB1
  go_still_tail 13, mixed
  obtain ⟨w2, hw2⟩ : ∃ w2, w2 = w1.drew := ⟨_, rfl⟩
  change wpList _ _ _ _ _ (w1.drew)
  rw [← hw2]
  have H2 : Hid (MRep w2 t base M E V (ol ++ [(f, cv)]) s) := by rw [hw2]; exact H1.out.drew 1
  have F2 : Hid (Fx w w2 t t) := by rw [hw2]; exact F1.out.drewN 1
  have va2 : w2.cell? ⟨F, 2 + na, none⟩ = some (.int .i64 gA) := by rw [hw2]; exact va1
  have vb2 : w2.cell? ⟨F, 2 + nb, none⟩ = some (.int .i64 gB) := by rw [hw2]; exact vb1
  have vc2 : w2.cell? ⟨F, 2 + nc, none⟩ = some (.int .i64 gC) := by rw [hw2]; exact vc1
  have za2 : w2.frozen? ⟨F, 2 + na, none⟩ = false := by rw [hw2]; exact za1
  have q02 : w2.cell? ⟨w.heap.size, 0, none⟩ = some (.int .u8 35) := by rw [hw2]; exact q01
  have q12 : w2.cell? ⟨w.heap.size, 1, none⟩ = some (.int .u8 na) := by rw [hw2]; exact q11
  have q22 : w2.cell? ⟨w.heap.size, 2, none⟩ = some (.int .u8 nb) := by rw [hw2]; exact q21
  have q32 : w2.cell? ⟨w.heap.size, 3, none⟩ = some (.int .u8 nc) := by rw [hw2]; exact q31
  have q42 : w2.cell? ⟨w.heap.size, 4, none⟩ = some (.int .i64 imm) := by rw [hw2]; exact q41
  have hl2 : w.heap.size < w2.heap.size := by rw [hw2]; exact hl1
  have hlF2 : F < w2.heap.size := by rw [hw2]; exact hlF1
  have hlM2 : M < w2.heap.size := by rw [hw2]; exact hlM1
  have m62 : w2.cell? ⟨M, 6, none⟩ = some (.slice ha s.heap.length hcp) := by rw [hw2]; exact m61
  have m82 : w2.cell? ⟨M, 8, none⟩ = some (.int .u8 s.end_) := by rw [hw2]; exact m81
  have z82 : w2.frozen? ⟨M, 8, none⟩ = false := by rw [hw2]; exact z81
  clear hw2 H1 F1 va1 vb1 vc1 za1 q01 q11 q21 q31 q41 hl1 hlF1 hlM1 m61 m81 z81
  obtain ⟨⟨ce, cp⟩, hce⟩ : ∃ r, r = cellF s.heap gA gB := ⟨_, rfl⟩
  have HCF := Lib.hid hce.symm
  have HCE := Lib.hid (mcell_any w2 M base _ s.heap s.end_ gA gB m62 (hhv ▸ H2.out.hh.own) m82 z82 hhl)
  rw [← hce] at HCE
  clear hce
  go_wp2_with fail
  refine HCE.out.mono ?_
  rintro e w3 (⟨hr, ⟨hb, hn, hc, hhv2, rfl⟩, hw⟩ | ⟨hr, rfl, rfl⟩)
  · have hw := hw.symm
    subst hw
    simp only at hr
    subst hr
    simp only [Value.slice.injEq] at hhv2
    obtain ⟨rfl, rfl, rfl⟩ := hhv2
    obtain ⟨p0, p1⟩ := cellF_in HCF.out
    obtain ⟨np, rfl⟩ : ∃ n : Nat, cp = n := ⟨cp.toNat, by omega⟩
    obtain ⟨gH, hgH⟩ : ∃ g, g = s.heap.getD np 0 := ⟨_, rfl⟩
    obtain ⟨hb', hcp', hv', hlhb, -, -, hj⟩ := osplit H2.out.hh.own (by omega)
    rw [hhv] at hv'
    simp only [Value.slice.injEq, Option.some.injEq, Addr.mk.injEq, and_true, true_and] at hv'
    obtain ⟨rfl, rfl⟩ := hv'
    have vH : w2.cell? ⟨hb, np, none⟩ = some (.int .i64 gH) := by rw [hgH]; exact hj _ _ (intsV_at (by omega))
    have zH : w2.frozen? ⟨hb, np, none⟩ = false := ofrz (hhv ▸ H2.out.hh.own) _
    rw [Int.toNat_natCast]
    have HGH := Lib.hid hgH
    clear hj hgH HCE
    have tH : 2 < t hb := by have := H2.out.hh.tag hb (by rw [hhv]; rfl); omega
    go_wp2_with fail
    go_still_tail 8, mixed
    go_wp2_with fail
    refine bodyPost_end (results_none rfl _ _ _) rfl ⟨rfl, ?_⟩
    have R := (H2.out.cell hhv np gC).drew 1
    have FX := (F2.out.set (g := hb) (i := np) (.int .i64 gC) tH).drewN 1
    rw [doF_35, HGA.out, HGB.out, HGC.out, HCF.out]
    dsimp only
    rw [if_pos (show ((0 : Int) == 0) = true from rfl), Int.toNat_natCast, show ({ s with heap := s.heap.set np gC } : St).top (ol.map Prod.fst) f = { s.top (ol.map Prod.fst) f with heap := s.heap.set np gC } from rfl, ET.out]
    exact ⟨t, V, _, R, FX⟩
  · have h0 : (ce == 0) = false := by simpa using hr
    clear HCE
    go_wp2_with fail
    refine bodyPost_end (results_none rfl _ _ _) rfl ⟨rfl, ?_⟩
    have R := H2.out.end' ce
    have FX := F2.out.set (g := M) (i := 8) (.int .u8 ce) tM
    rw [doF_35, HGA.out, HGB.out, HCF.out, h0, if_neg (by decide), show (s.ends ce).top (ol.map Prod.fst) f = s.ends ce from by show (s.top (ol.map Prod.fst) f).ends ce = _; rw [ET.out]]
    exact ⟨t, V, _, R, FX⟩

set_option maxRecDepth 100000 in
set_option maxHeartbeats 4000000 in
theorem mem_36 (w : World) (t : Nat → Nat) (base M : Nat) (E : Env) (V : MV) (ol : List (Fr × FV)) (f : Fr) (cv : FV) (s : St) (h : MRep w t base M E V (ol ++ [(f, cv)]) s) (na nb nc : Nat) (ia : na < 16) (ib : nb < 16) (ic : nc < 16) (imm : Int) (_pi : -9223372036854775808 ≤ imm ∧ imm ≤ 9223372036854775807)
    (_hform : formB ⟨36, na, nb, nc, imm⟩ = true) (hf : FrOk E f) (L : Nat) (hs : Sane E L s) (_hL : L ≤ 1000000) (hE : EnvOk E) :
    Calls Try.prog 81 #[.pointer (some ⟨M, 0, none⟩), .pointer (some ⟨cv.blk, 0, none⟩), .agg #[.int .u8 36, .int .u8 na, .int .u8 nb, .int .u8 nc, .int .i64 imm]] w fun e w' =>
      e = .returned (.tuple #[]) ∧ MPost w t base M E (doF E s (ol.map Prod.fst) f ⟨36, na, nb, nc, imm⟩) w' := by
  have hp := h.fr.last
  obtain ⟨F, hF⟩ : ∃ F, F = cv.blk := ⟨_, rfl⟩
  obtain ⟨gA, hgA⟩ : ∃ g, g = f.r na := ⟨_, rfl⟩
  obtain ⟨gB, hgB⟩ : ∃ g, g = f.r nb := ⟨_, rfl⟩
  obtain ⟨gC, hgC⟩ : ∃ g, g = f.r nc := ⟨_, rfl⟩
  have va : w.cell? ⟨F, 2 + na, none⟩ = some (.int .i64 gA) := by rw [hF, hp.cellF, fL_reg f cv hp.rl na ia, hgA]; rfl
  have vb : w.cell? ⟨F, 2 + nb, none⟩ = some (.int .i64 gB) := by rw [hF, hp.cellF, fL_reg f cv hp.rl nb ib, hgB]; rfl
  have vc : w.cell? ⟨F, 2 + nc, none⟩ = some (.int .i64 gC) := by rw [hF, hp.cellF, fL_reg f cv hp.rl nc ic, hgC]; rfl
  have za : w.frozen? ⟨F, 2 + na, none⟩ = false := by rw [hF]; exact hp.frz _
  have iA : (na : Int) < 16 := by omega
  have iB : (nb : Int) < 16 := by omega
  have iC : (nc : Int) < 16 := by omega
  have hlF : F < w.heap.size := by rw [hF]; exact hp.lt
  have hlM : M < w.heap.size := h.ltM
  have tF : 2 < t F := by rw [hF, hp.tf]; omega
  have tM : 2 < t M := by rw [h.tm]; omega
  have nFM : ¬ F = M := fun e => by have h1 := hp.tf; rw [← hF, e, h.tm] at h1; omega
  have nMF : ¬ M = F := fun e => nFM e.symm
  have mixed : Try.prog.follows Departure.mixedOrders = true := by kernel_rfl
  have H := Lib.hid h
  have HP := Lib.hid hp
  have HF := Lib.hid hF
  have HFR := Lib.hid hf
  have HS := Lib.hid hs
  have HEE := Lib.hid hE
  have HGA := Lib.hid hgA.symm
  have HGB := Lib.hid hgB.symm
  have HGC := Lib.hid hgC.symm
  have BEL : Hid (∀ W : World, Below W.heap.size W (W.alloc (.cells #[.int .u8 36, .int .u8 na, .int .u8 nb, .int .u8 nc, .int .i64 imm] 73))) := fun W => (Below.refl _ _).alloc (Nat.le_refl _) _
  have F0 : Hid (Fx w w t t) := Fx.refl w t
  rw [← hF]
  clear h hp hF hf hs hE hgA hgB hgC
  go_enter Try.func81, Try.ntmps81
  have eT : s.top (ol.map Prod.fst) f = s := by
    have e := H.out.opn
    rw [List.map_append, List.map_cons, List.map_nil] at e
    show { s with opn := ol.map Prod.fst ++ [f] } = s
    rw [← e]
  have ET := Lib.hid eT
  clear eT
  obtain ⟨ha, hcp, hhv, -, -⟩ := oshape H.out.hh.own
  have m6 : w.cell? ⟨M, 6, none⟩ = some (.slice ha s.heap.length hcp) := (H.out.cellM 6).trans (by rw [(mC_get V s).2.2.2.2.1, hhv])
  have m8 : w.cell? ⟨M, 8, none⟩ = some (.int .u8 s.end_) := (H.out.cellM 8).trans (mC_get V s).2.2.2.2.2.2.1
  have z8 := H.out.frzM 8
  have hhl : s.heap.length ≤ 4096 := HS.out.hl
  go_wp2_with fail
  obtain ⟨w1, hw1⟩ : ∃ w1, w1 = w.alloc (.cells #[.int .u8 36, .int .u8 na, .int .u8 nb, .int .u8 nc, .int .i64 imm] 73) := ⟨_, rfl⟩
  rw [← hw1]
  have hB1 : Below w.heap.size w w1 := by rw [hw1]; exact BEL.out w
  have hc1 : w1.heap[w.heap.size]? = some (.cells #[.int .u8 36, .int .u8 na, .int .u8 nb, .int .u8 nc, .int .i64 imm] 73 (0, 0)) := by rw [hw1]; exact heap_alloc_new _ _
  have q01 : w1.cell? ⟨w.heap.size, 0, none⟩ = some (.int .u8 36) := by simp [World.cell?, hc1]
  have q11 : w1.cell? ⟨w.heap.size, 1, none⟩ = some (.int .u8 na) := by simp [World.cell?, hc1]
  have q21 : w1.cell? ⟨w.heap.size, 2, none⟩ = some (.int .u8 nb) := by simp [World.cell?, hc1]
  have q31 : w1.cell? ⟨w.heap.size, 3, none⟩ = some (.int .u8 nc) := by simp [World.cell?, hc1]
  have q41 : w1.cell? ⟨w.heap.size, 4, none⟩ = some (.int .i64 imm) := by simp [World.cell?, hc1]
  have va1 := (hB1.cell (p := ⟨F, 2 + na, none⟩) hlF).trans va
  have vb1 := (hB1.cell (p := ⟨F, 2 + nb, none⟩) hlF).trans vb
  have vc1 := (hB1.cell (p := ⟨F, 2 + nc, none⟩) hlF).trans vc
  have za1 := (hB1.frozen (p := ⟨F, 2 + na, none⟩) hlF).trans za
  have H1 := Lib.hid (H.out.below hB1)
  have F1 : Hid (Fx w w1 t t) := Fx.below hB1
  have hl1 : w.heap.size < w1.heap.size := (Array.getElem?_eq_some_iff.1 hc1).1
  have hlF1 : F < w1.heap.size := by omega
  have hlM1 : M < w1.heap.size := by omega
  have nbF : ¬ w.heap.size = F := by omega
  have nbM : ¬ w.heap.size = M := by omega
  have HB1 := Lib.hid hB1
  have m61 := (hB1.cell (p := ⟨M, 6, none⟩) hlM).trans m6
  have m81 := (hB1.cell (p := ⟨M, 8, none⟩) hlM).trans m8
  have z81 := (hB1.frozen (p := ⟨M, 8, none⟩) hlM).trans z8
  clear m6 m8 z8
  clear hw1 hc1 va vb vc za hB1
  by_cases hr : 1 ≤ gB ∧ gB ≤ s.heap.length
  · have d1 : decide (gB < 1) = false := decide_eq_false (by omega)
    have d2 : decide ((s.heap.length : Int) < gB) = false := decide_eq_false (by omega)
    have HD1 := Lib.hid d1
    have HD2 := Lib.hid d2
    obtain ⟨gH, hgH⟩ : ∃ g, g = s.heap.getD (gB - 1).toNat 0 := ⟨_, rfl⟩
    have HAQ : Hid (∀ n, Calls Try.prog 98 #[.pointer (some ⟨M, 0, none⟩), .int .i64 gB] (w1.drewN n) fun e w' => e = .returned (.tuple #[.int .i64 gH, .bool true]) ∧ w' = w1.drewN n) := fun n => by
      refine (marray_any (w1.drewN n) M base _ s.heap s.end_ gB m61 (hhv ▸ (H1.out.drew n).hh.own) m81 z81 hhl).mono ?_
      rintro e w3 (⟨_, h3, h4⟩ | ⟨h3, _⟩)
      · rw [← hgH] at h3; exact ⟨h3, h4⟩
      · exact absurd hr h3
    have HGH := Lib.hid hgH
    clear hgH d1 d2 hr
    go_quiet ((go_at_call 98; exact Calls.quiet_of_same (HAQ.out _)))
    go_wp2_with fail
    obtain ⟨w2, hw2⟩ : ∃ w2, w2 = w1.drewN nq := ⟨_, rfl⟩
    rw [← hw2]
    have H2 : Hid (MRep w2 t base M E V (ol ++ [(f, cv)]) s) := by rw [hw2]; exact H1.out.drew nq
    have F2 : Hid (Fx w w2 t t) := by rw [hw2]; exact F1.out.drewN nq
    have va2 : w2.cell? ⟨F, 2 + na, none⟩ = some (.int .i64 gA) := by rw [hw2]; exact va1
    have za2 : w2.frozen? ⟨F, 2 + na, none⟩ = false := by rw [hw2]; exact za1
    have q12 : w2.cell? ⟨w.heap.size, 1, none⟩ = some (.int .u8 na) := by rw [hw2]; exact q11
    have hlF2 : F < w2.heap.size := by rw [hw2]; exact hlF1
    clear hw2 H1 F1 va1 za1 q11 hlF1
    go_still_tail 5, mixed
    go_wp2_with fail
    refine bodyPost_end (results_none rfl _ _ _) rfl ⟨rfl, ?_⟩
    have R := (H2.out.reg na ia gH).drew 1
    have FX := (F2.out.set (g := F) (i := 2 + na) (.int .i64 gH) tF).drewN 1
    rw [← HF.out] at R
    rw [doF_36, HGB.out, HD1.out, HD2.out, Bool.or_self, if_neg (by decide), ← HGH.out]
    exact ⟨t, V, _, R, FX⟩
  · have hd : (decide (gB < 1) || decide ((s.heap.length : Int) < gB)) = true := by
      rw [Bool.or_eq_true, decide_eq_true_eq, decide_eq_true_eq]; omega
    have HD := Lib.hid hd
    have HAQ : Hid (Calls Try.prog 98 #[.pointer (some ⟨M, 0, none⟩), .int .i64 gB] w1.drew fun e w' => e = .returned (.tuple #[.int .i64 0, .bool false]) ∧ w' = w1.drew.setCell ⟨M, 8, none⟩ (.int .u8 8)) := by
      refine (marray_any w1.drew M base _ s.heap s.end_ gB m61 (hhv ▸ (H1.out.drew 1).hh.own) m81 z81 hhl).mono ?_
      rintro e w3 (⟨h3, _⟩ | ⟨_, h3, h4⟩)
      · exact absurd h3 hr
      · exact ⟨h3, h4⟩
    clear hd hr
    go_region_with (go_at_call 98; refine HAQ.out.mono ?_; rintro e w3 ⟨rfl, rfl⟩)
    all_goals
      go_wp2_with fail
      refine bodyPost_end (results_none rfl _ _ _) rfl ⟨rfl, ?_⟩
      have R := (H1.out.end' 8).drew 1
      have FX := (F1.out.set (g := M) (i := 8) (.int .u8 8) tM).drewN 1
      rw [doF_36, HGB.out, HD.out, if_pos rfl, show (s.ends 8).top (ol.map Prod.fst) f = s.ends 8 from by show (s.top (ol.map Prod.fst) f).ends 8 = _; rw [ET.out]]
      exact ⟨t, V, _, R, FX⟩

set_option maxRecDepth 100000 in
set_option maxHeartbeats 4000000 in
theorem mem_38 (w : World) (t : Nat → Nat) (base M : Nat) (E : Env) (V : MV) (ol : List (Fr × FV)) (f : Fr) (cv : FV) (s : St) (h : MRep w t base M E V (ol ++ [(f, cv)]) s) (na nb nc : Nat) (ia : na < 16) (ib : nb < 16) (ic : nc < 16) (imm : Int) (_pi : -9223372036854775808 ≤ imm ∧ imm ≤ 9223372036854775807)
    (_hform : formB ⟨38, na, nb, nc, imm⟩ = true) (hf : FrOk E f) (L : Nat) (hs : Sane E L s) (_hL : L ≤ 1000000) (hE : EnvOk E) :
    Calls Try.prog 81 #[.pointer (some ⟨M, 0, none⟩), .pointer (some ⟨cv.blk, 0, none⟩), .agg #[.int .u8 38, .int .u8 na, .int .u8 nb, .int .u8 nc, .int .i64 imm]] w fun e w' =>
      e = .returned (.tuple #[]) ∧ MPost w t base M E (doF E s (ol.map Prod.fst) f ⟨38, na, nb, nc, imm⟩) w' := by
  have hp := h.fr.last
  obtain ⟨F, hF⟩ : ∃ F, F = cv.blk := ⟨_, rfl⟩
  obtain ⟨gA, hgA⟩ : ∃ g, g = f.r na := ⟨_, rfl⟩
  obtain ⟨gB, hgB⟩ : ∃ g, g = f.r nb := ⟨_, rfl⟩
  obtain ⟨gC, hgC⟩ : ∃ g, g = f.r nc := ⟨_, rfl⟩
  have va : w.cell? ⟨F, 2 + na, none⟩ = some (.int .i64 gA) := by rw [hF, hp.cellF, fL_reg f cv hp.rl na ia, hgA]; rfl
  have vb : w.cell? ⟨F, 2 + nb, none⟩ = some (.int .i64 gB) := by rw [hF, hp.cellF, fL_reg f cv hp.rl nb ib, hgB]; rfl
  have vc : w.cell? ⟨F, 2 + nc, none⟩ = some (.int .i64 gC) := by rw [hF, hp.cellF, fL_reg f cv hp.rl nc ic, hgC]; rfl
  have za : w.frozen? ⟨F, 2 + na, none⟩ = false := by rw [hF]; exact hp.frz _
  have iA : (na : Int) < 16 := by omega
  have iB : (nb : Int) < 16 := by omega
  have iC : (nc : Int) < 16 := by omega
  have hlF : F < w.heap.size := by rw [hF]; exact hp.lt
  have hlM : M < w.heap.size := h.ltM
  have tF : 2 < t F := by rw [hF, hp.tf]; omega
  have tM : 2 < t M := by rw [h.tm]; omega
  have nFM : ¬ F = M := fun e => by have h1 := hp.tf; rw [← hF, e, h.tm] at h1; omega
  have nMF : ¬ M = F := fun e => nFM e.symm
  have mixed : Try.prog.follows Departure.mixedOrders = true := by kernel_rfl
  have H := Lib.hid h
  have HP := Lib.hid hp
  have HF := Lib.hid hF
  have HFR := Lib.hid hf
  have HS := Lib.hid hs
  have HEE := Lib.hid hE
  have HGA := Lib.hid hgA.symm
  have HGB := Lib.hid hgB.symm
  have HGC := Lib.hid hgC.symm
  have BEL : Hid (∀ W : World, Below W.heap.size W (W.alloc (.cells #[.int .u8 38, .int .u8 na, .int .u8 nb, .int .u8 nc, .int .i64 imm] 73))) := fun W => (Below.refl _ _).alloc (Nat.le_refl _) _
  have F0 : Hid (Fx w w t t) := Fx.refl w t
  rw [← hF]
  clear h hp hF hf hs hE hgA hgB hgC
  go_enter Try.func81, Try.ntmps81
  obtain ⟨ha, hcp, hhv, -, -⟩ := oshape H.out.hh.own
  have m6 : w.cell? ⟨M, 6, none⟩ = some (.slice ha s.heap.length hcp) := (H.out.cellM 6).trans (by rw [(mC_get V s).2.2.2.2.1, hhv])
  go_wp2_with fail
  obtain ⟨w1, hw1⟩ : ∃ w1, w1 = w.alloc (.cells #[.int .u8 38, .int .u8 na, .int .u8 nb, .int .u8 nc, .int .i64 imm] 73) := ⟨_, rfl⟩
  rw [← hw1]
  have hB1 : Below w.heap.size w w1 := by rw [hw1]; exact BEL.out w
  have hc1 : w1.heap[w.heap.size]? = some (.cells #[.int .u8 38, .int .u8 na, .int .u8 nb, .int .u8 nc, .int .i64 imm] 73 (0, 0)) := by rw [hw1]; exact heap_alloc_new _ _
  have q01 : w1.cell? ⟨w.heap.size, 0, none⟩ = some (.int .u8 38) := by simp [World.cell?, hc1]
  have q11 : w1.cell? ⟨w.heap.size, 1, none⟩ = some (.int .u8 na) := by simp [World.cell?, hc1]
  have q21 : w1.cell? ⟨w.heap.size, 2, none⟩ = some (.int .u8 nb) := by simp [World.cell?, hc1]
  have q31 : w1.cell? ⟨w.heap.size, 3, none⟩ = some (.int .u8 nc) := by simp [World.cell?, hc1]
  have q41 : w1.cell? ⟨w.heap.size, 4, none⟩ = some (.int .i64 imm) := by simp [World.cell?, hc1]
  have va1 := (hB1.cell (p := ⟨F, 2 + na, none⟩) hlF).trans va
  have vb1 := (hB1.cell (p := ⟨F, 2 + nb, none⟩) hlF).trans vb
  have vc1 := (hB1.cell (p := ⟨F, 2 + nc, none⟩) hlF).trans vc
  have za1 := (hB1.frozen (p := ⟨F, 2 + na, none⟩) hlF).trans za
  have H1 := Lib.hid (H.out.below hB1)
  have F1 : Hid (Fx w w1 t t) := Fx.below hB1
  have hl1 : w.heap.size < w1.heap.size := (Array.getElem?_eq_some_iff.1 hc1).1
  have hlF1 : F < w1.heap.size := by omega
  have hlM1 : M < w1.heap.size := by omega
  have nbF : ¬ w.heap.size = F := by omega
  have nbM : ¬ w.heap.size = M := by omega
  have HB1 := Lib.hid hB1
  have m61 := (hB1.cell (p := ⟨M, 6, none⟩) hlM).trans m6
  clear m6
  clear hw1 hc1 va vb vc za hB1
  go_still_tail 9, mixed
  go_wp2_with fail
  refine bodyPost_end (results_none rfl _ _ _) rfl ⟨rfl, ?_⟩
  have R := (H1.out.reg na ia s.heap.length).drew 1
  have FX := (F1.out.set (g := F) (i := 2 + na) (.int .i64 s.heap.length) tF).drewN 1
  rw [← HF.out] at R
  rw [doF_38]
  exact ⟨t, V, _, R, FX⟩

set_option maxRecDepth 100000 in
set_option maxHeartbeats 4000000 in
theorem mem_39 (w : World) (t : Nat → Nat) (base M : Nat) (E : Env) (V : MV) (ol : List (Fr × FV)) (f : Fr) (cv : FV) (s : St) (h : MRep w t base M E V (ol ++ [(f, cv)]) s) (na nb nc : Nat) (ia : na < 16) (ib : nb < 16) (ic : nc < 16) (imm : Int) (_pi : -9223372036854775808 ≤ imm ∧ imm ≤ 9223372036854775807)
    (_hform : formB ⟨39, na, nb, nc, imm⟩ = true) (hf : FrOk E f) (L : Nat) (hs : Sane E L s) (_hL : L ≤ 1000000) (hE : EnvOk E) :
    Calls Try.prog 81 #[.pointer (some ⟨M, 0, none⟩), .pointer (some ⟨cv.blk, 0, none⟩), .agg #[.int .u8 39, .int .u8 na, .int .u8 nb, .int .u8 nc, .int .i64 imm]] w fun e w' =>
      e = .returned (.tuple #[]) ∧ MPost w t base M E (doF E s (ol.map Prod.fst) f ⟨39, na, nb, nc, imm⟩) w' := by
  have hp := h.fr.last
  obtain ⟨F, hF⟩ : ∃ F, F = cv.blk := ⟨_, rfl⟩
  obtain ⟨gA, hgA⟩ : ∃ g, g = f.r na := ⟨_, rfl⟩
  obtain ⟨gB, hgB⟩ : ∃ g, g = f.r nb := ⟨_, rfl⟩
  obtain ⟨gC, hgC⟩ : ∃ g, g = f.r nc := ⟨_, rfl⟩
  have va : w.cell? ⟨F, 2 + na, none⟩ = some (.int .i64 gA) := by rw [hF, hp.cellF, fL_reg f cv hp.rl na ia, hgA]; rfl
  have vb : w.cell? ⟨F, 2 + nb, none⟩ = some (.int .i64 gB) := by rw [hF, hp.cellF, fL_reg f cv hp.rl nb ib, hgB]; rfl
  have vc : w.cell? ⟨F, 2 + nc, none⟩ = some (.int .i64 gC) := by rw [hF, hp.cellF, fL_reg f cv hp.rl nc ic, hgC]; rfl
  have za : w.frozen? ⟨F, 2 + na, none⟩ = false := by rw [hF]; exact hp.frz _
  have iA : (na : Int) < 16 := by omega
  have iB : (nb : Int) < 16 := by omega
  have iC : (nc : Int) < 16 := by omega
  have hlF : F < w.heap.size := by rw [hF]; exact hp.lt
  have hlM : M < w.heap.size := h.ltM
  have tF : 2 < t F := by rw [hF, hp.tf]; omega
  have tM : 2 < t M := by rw [h.tm]; omega
  have nFM : ¬ F = M := fun e => by have h1 := hp.tf; rw [← hF, e, h.tm] at h1; omega
  have nMF : ¬ M = F := fun e => nFM e.symm
  have mixed : Try.prog.follows Departure.mixedOrders = true := by kernel_rfl
  have H := Lib.hid h
  have HP := Lib.hid hp
  have HF := Lib.hid hF
  have HFR := Lib.hid hf
  have HS := Lib.hid hs
  have HEE := Lib.hid hE
  have HGA := Lib.hid hgA.symm
  have HGB := Lib.hid hgB.symm
  have HGC := Lib.hid hgC.symm
  have BEL : Hid (∀ W : World, Below W.heap.size W (W.alloc (.cells #[.int .u8 39, .int .u8 na, .int .u8 nb, .int .u8 nc, .int .i64 imm] 73))) := fun W => (Below.refl _ _).alloc (Nat.le_refl _) _
  have F0 : Hid (Fx w w t t) := Fx.refl w t
  rw [← hF]
  clear h hp hF hf hs hE hgA hgB hgC
  go_enter Try.func81, Try.ntmps81
  have eT : s.top (ol.map Prod.fst) f = s := by
    have e := H.out.opn
    rw [List.map_append, List.map_cons, List.map_nil] at e
    show { s with opn := ol.map Prod.fst ++ [f] } = s
    rw [← e]
  have ET := Lib.hid eT
  clear eT
  obtain ⟨ha, hcp, hhv, -, -⟩ := oshape H.out.hh.own
  have m6 : w.cell? ⟨M, 6, none⟩ = some (.slice ha s.heap.length hcp) := (H.out.cellM 6).trans (by rw [(mC_get V s).2.2.2.2.1, hhv])
  have m8 : w.cell? ⟨M, 8, none⟩ = some (.int .u8 s.end_) := (H.out.cellM 8).trans (mC_get V s).2.2.2.2.2.2.1
  have z8 := H.out.frzM 8
  have z6 := H.out.frzM 6
  go_wp2_with fail
  obtain ⟨w1, hw1⟩ : ∃ w1, w1 = w.alloc (.cells #[.int .u8 39, .int .u8 na, .int .u8 nb, .int .u8 nc, .int .i64 imm] 73) := ⟨_, rfl⟩
  rw [← hw1]
  have hB1 : Below w.heap.size w w1 := by rw [hw1]; exact BEL.out w
  have hc1 : w1.heap[w.heap.size]? = some (.cells #[.int .u8 39, .int .u8 na, .int .u8 nb, .int .u8 nc, .int .i64 imm] 73 (0, 0)) := by rw [hw1]; exact heap_alloc_new _ _
  have q01 : w1.cell? ⟨w.heap.size, 0, none⟩ = some (.int .u8 39) := by simp [World.cell?, hc1]
  have q11 : w1.cell? ⟨w.heap.size, 1, none⟩ = some (.int .u8 na) := by simp [World.cell?, hc1]
  have q21 : w1.cell? ⟨w.heap.size, 2, none⟩ = some (.int .u8 nb) := by simp [World.cell?, hc1]
  have q31 : w1.cell? ⟨w.heap.size, 3, none⟩ = some (.int .u8 nc) := by simp [World.cell?, hc1]
  have q41 : w1.cell? ⟨w.heap.size, 4, none⟩ = some (.int .i64 imm) := by simp [World.cell?, hc1]
  have va1 := (hB1.cell (p := ⟨F, 2 + na, none⟩) hlF).trans va
  have vb1 := (hB1.cell (p := ⟨F, 2 + nb, none⟩) hlF).trans vb
  have vc1 := (hB1.cell (p := ⟨F, 2 + nc, none⟩) hlF).trans vc
  have za1 := (hB1.frozen (p := ⟨F, 2 + na, none⟩) hlF).trans za
  have H1 := Lib.hid (H.out.below hB1)
  have F1 : Hid (Fx w w1 t t) := Fx.below hB1
  have hl1 : w.heap.size < w1.heap.size := (Array.getElem?_eq_some_iff.1 hc1).1
  have hlF1 : F < w1.heap.size := by omega
  have hlM1 : M < w1.heap.size := by omega
  have nbF : ¬ w.heap.size = F := by omega
  have nbM : ¬ w.heap.size = M := by omega
  have HB1 := Lib.hid hB1
  have m61 := (hB1.cell (p := ⟨M, 6, none⟩) hlM).trans m6
  have m81 := (hB1.cell (p := ⟨M, 8, none⟩) hlM).trans m8
  have z81 := (hB1.frozen (p := ⟨M, 8, none⟩) hlM).trans z8
  have z61 := (hB1.frozen (p := ⟨M, 6, none⟩) hlM).trans z6
  clear m6 m8 z8 z6
  clear hw1 hc1 va vb vc za hB1
  by_cases h1 : gA < 0
  · have d1 : decide (gA < 0) = true := decide_eq_true h1
    go_quiet (fail)
    go_wp2_with fail
    refine (ends_any M s.end_ 8 (w1.drewN nq) m81 z81).mono ?_
    rintro e w3 ⟨rfl, rfl⟩
    go_wp2_with fail
    refine bodyPost_end (results_none rfl _ _ _) rfl ⟨rfl, ?_⟩
    have R := (H1.out.drew nq).end' 8
    have FX := (F1.out.drewN nq).set (g := M) (i := 8) (.int .u8 8) tM
    rw [doF_39, HGA.out, d1, Bool.true_or, if_pos rfl, show (s.ends 8).top (ol.map Prod.fst) f = s.ends 8 from by show (s.top (ol.map Prod.fst) f).ends 8 = _; rw [ET.out]]
    exact ⟨t, V, _, R, FX⟩
  by_cases h2 : (s.heap.length : Int) < gA
  · have d1 : decide (gA < 0) = false := decide_eq_false h1
    have d2 : decide ((s.heap.length : Int) < gA) = true := decide_eq_true h2
    go_quiet (fail)
    go_wp2_with fail
    refine (ends_any M s.end_ 8 (w1.drewN nq) m81 z81).mono ?_
    rintro e w3 ⟨rfl, rfl⟩
    go_wp2_with fail
    refine bodyPost_end (results_none rfl _ _ _) rfl ⟨rfl, ?_⟩
    have R := (H1.out.drew nq).end' 8
    have FX := (F1.out.drewN nq).set (g := M) (i := 8) (.int .u8 8) tM
    rw [doF_39, HGA.out, d2, Bool.or_true, if_pos rfl, show (s.ends 8).top (ol.map Prod.fst) f = s.ends 8 from by show (s.top (ol.map Prod.fst) f).ends 8 = _; rw [ET.out]]
    exact ⟨t, V, _, R, FX⟩
  · have d1 : decide (gA < 0) = false := decide_eq_false h1
    have d2 : decide ((s.heap.length : Int) < gA) = false := decide_eq_false h2
    obtain ⟨m, rfl⟩ : ∃ m : Nat, gA = (m : Int) := ⟨gA.toNat, by omega⟩
    have hml : m ≤ s.heap.length := by omega
    obtain ⟨hcl, hcm⟩ : s.heap.length ≤ hcp ∧ hcp ≤ maxLen := by
      obtain ⟨_, _, e, h3, h4⟩ := oshape H1.out.hh.own
      rw [hhv] at e
      simp only [Value.slice.injEq, true_and] at e
      obtain ⟨rfl, rfl⟩ := e
      exact ⟨h3, h4⟩
    have hrs := run_slice_to (P := Try.prog) 27 2 Try.underlying27 (by exact info_i64.choose_spec.1) rfl ha s.heap.length hcp m (m : Int) rfl (by omega)
    have hro : Row w1 t base 2 1 (.slice ha m hcp) (s.heap.take m).length (intsV (s.heap.take m)) 5 := by
      have h3 := H1.out.hh
      rw [hhv] at h3
      have h4 := ocut h3.own hml
      rw [Nat.mul_one, intsV_take] at h4
      rw [List.length_take, Nat.min_eq_left hml]
      exact ⟨h4, fun k hk => h3.tag k (by cases ha; (simp [Value.ownBlock] at hk); (simpa [Value.ownBlock] using hk))⟩
    have HRO := Lib.hid hro
    clear hro
    go_quiet (fail)
    go_wp2_with fail
    have HNW := (H1.out.drew nq).newHeap (Trn.refl (w1.drewN nq) t 5 base) (hp' := s.heap.take m) ⟨HRO.out.own, HRO.out.tag⟩
    refine bodyPost_end (results_none rfl _ _ _) rfl ⟨rfl, ?_⟩
    rw [doF_39, HGA.out, d1, d2, Bool.or_self, if_neg (by decide), Int.toNat_natCast, show ({ s with heap := s.heap.take m } : St).top (ol.map Prod.fst) f = { s.top (ol.map Prod.fst) f with heap := s.heap.take m } from rfl, ET.out]
    exact ⟨_, _, _, HNW.1, (F1.out.drewN nq).trans HNW.2⟩

end Go.Proofs.Ytgjmdcbdkdmceaa.Mach
