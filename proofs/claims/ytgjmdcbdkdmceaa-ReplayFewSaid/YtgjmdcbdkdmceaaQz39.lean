/- The document's machine: a step, by its operations (30, 31, 38). Printed by gen_rstep.py. -/
import Derived.Test.YtgjmdcbdkdmceaaQz37
import Derived.Test.YtgjmdcbdkdmceaaQz43
import Derived.Deep.DeepCutAuto
import Derived.Deep.RegionHeld3
import Derived.Deep.RegionLaw
import Derived.StillTailTactics
namespace Go.Proofs.Ytgjmdcbdkdmceaa.Mach
open Go.RowKit

set_option maxRecDepth 100000 in
set_option maxHeartbeats 4000000 in
theorem rstep_a (w : World) (t : Nat → Nat) (base M : Nat) (E : Env) (V : RV) (ol : List (Fr × CV)) (f : Fr) (cv : CV) (s : St) (mk : Bool) (h : RRep w t base M E V (ol ++ [(f, cv)]) s mk) (hol : ol.length ≤ 99)
    (hf0 : 0 ≤ f.fn) (hf1 : f.fn < E.es.length) (_hel : E.es.length ≤ 1000000) (hwl : E.ws.length ≤ 1000000) (hb1 : slotsOk (E.ent f.fn).2 = true) (hn0 : 0 ≤ f.next) (hn1 : f.next < E.ws.length) (x : W) (hx : x = E.ws.getD f.next.toNat W.zero) (hrg : ∀ j, -9223372036854775808 ≤ f.regs.getD j 0 ∧ f.regs.getD j 0 ≤ 9223372036854775807) (hrd : 0 ≤ s.read ∧ s.read ≤ E.inp.length) (hhl : s.heap.length ≤ 4096) (hrl6 : f.ready.length ≤ 6) (hxl : s.outs.length ≤ 1000000) (_hin : E.inp.length ≤ 9223372036854775807) (hdst : 0 ≤ f.dst ∧ f.dst < 16) (hok : x.ok) (hform : formB x = true) (hop : x.op = 30 ∨ x.op = 31 ∨ x.op = 38) :
    Calls Try.prog 69 #[.pointer (some ⟨M, 0, none⟩)] w fun e w' => e = .returned (.tuple #[]) ∧ RPost w t base M E (stepF E s).1 ((stepF E s).2 == 44) w' := by
  obtain ⟨ob, oc, hov, hoc, hob, tob, nOM, zo, hoj⟩ := h.topC
  have k4 : w.cell? ⟨ob, ol.length * 8 + 4, none⟩ = some (.int .i64 f.next) := hoj 4 (by omega)
  have m6 : w.cell? ⟨M, 6, none⟩ = some (.slice (some ⟨ob, 0, none⟩) (ol.length + 1) oc) := (h.cellM 6).trans (by rw [(rC_get V s mk).2.2.2.2.1, hov])
  have m11 : w.cell? ⟨M, 11, none⟩ = some (.int .i64 s.steps) := (h.cellM 11).trans (rC_get V s mk).2.2.2.2.2.2.2.2.2.1
  have m13 : w.cell? ⟨M, 13, none⟩ = some (.int .i64 s.at_) := (h.cellM 13).trans (rC_get V s mk).2.2.2.2.2.2.2.2.2.2.2.1
  have m14 : w.cell? ⟨M, 14, none⟩ = some (.bool mk) := (h.cellM 14).trans (rC_get V s mk).2.2.2.2.2.2.2.2.2.2.2.2
  have z11 := h.frzM 11
  have z13 := h.frzM 13
  have z14 := h.frzM 14
  have nMO : ¬ M = ob := fun e => nOM e.symm
  have hlM : M < w.heap.size := (Array.getElem?_eq_some_iff.1 h.hm).1
  have mixed : Try.prog.follows Departure.mixedOrders = true := by kernel_rfl
  have H := Lib.hid h
  clear h hoj zo tob
  go_enter Try.func69, Try.ntmps69
  go_wp2_with fail
  go_quiet (fail)
  go_wp2_with fail
  obtain ⟨w1, hw1⟩ : ∃ w1, w1 = ((((w.setCell ⟨M, 14, none⟩ (.bool false)).setCell ⟨M, 11, none⟩ (.int .i64 (wrap64 (s.steps + 1)))).drewN nq).setCell ⟨M, 13, none⟩ (.int .i64 f.next)) := ⟨_, rfl⟩
  rw [← hw1]
  obtain ⟨s1, hs1⟩ : ∃ s1 : St, s1 = { s with steps := wrap64 (s.steps + 1), at_ := f.next } := ⟨_, rfl⟩
  have H1 : Hid (RRep w1 t base M E V (ol ++ [(f, cv)]) s1 false) := by
    rw [hw1, hs1]
    exact (((H.out.mk' false).steps' _).drew nq).at' _
  have HF1 : Hid (Fx w w1 t t) := by
    have tm := H.out.tm
    rw [hw1]
    exact ((((Fx.refl w t).set (g := M) (i := 14) (.bool false) (by omega)).set (g := M) (i := 11) (.int .i64 (wrap64 (s.steps + 1))) (by omega)).drewN nq).set (g := M) (i := 13) (.int .i64 f.next) (by omega)
  have HS0 := Lib.hid (stepF_is H.out.opn hb1 hn0 hn1 hx hform)
  have hlM1 : M < w1.heap.size := by rw [hw1]; simpa using hlM
  have hob1 : ob < w1.heap.size := by rw [hw1]; simpa using hob
  clear hw1 m6 m11 m13 m14 z11 z13 z14 k4 hlM hob H
  obtain ⟨ob', oc', hov', _, _, tob, _, zo, hoj⟩ := H1.out.topC
  rw [hov] at hov'
  simp only [Value.slice.injEq, Option.some.injEq, Addr.mk.injEq, and_true, true_and] at hov'
  obtain ⟨rfl, rfl⟩ := hov'
  obtain ⟨wa, wc0, hwv⟩ := Rd.shape H1.out.env.hw
  obtain ⟨eb, eo, ec, hev, -, he2, hleb, -⟩ := H1.out.env.ent hf0 hf1
  obtain ⟨fn, hfn⟩ : ∃ fn : Nat, f.fn = fn := ⟨f.fn.toNat, by omega⟩
  rw [hfn] at hb1
  rw [hfn, Int.toNat_natCast] at he2
  have k0 : w1.cell? ⟨ob, ol.length * 8, none⟩ = some (.int .i64 fn) := by rw [← hfn]; exact hoj 0 (by omega)
  have k4 : w1.cell? ⟨ob, ol.length * 8 + 4, none⟩ = some (.int .i64 f.next) := hoj 4 (by omega)
  have m0 : w1.cell? ⟨M, 0, none⟩ = some (.slice wa E.ws.length wc0) := (H1.out.cellM 0).trans (by rw [(rC_get V s1 false).1, hwv])
  have m1 : w1.cell? ⟨M, 1, none⟩ = some (.slice (some ⟨eb, eo, none⟩) E.es.length ec) := (H1.out.cellM 1).trans (by rw [(rC_get V s1 false).2.1, hev])
  have hfnl : fn < E.es.length := by omega
  have HS := Lib.hid (fun n => rslots_any M eb eo E.es.length ec fn (E.ent fn).2 (w1.drewN n) m1 hfnl he2)
  have Hoj := Lib.hid hoj
  clear hoj zo tob he2
  simp only [hb1] at HS
  have d0 : decide (f.next < 0) = false := decide_eq_false (by omega)
  have d1 : decide ((E.ws.length : Int) ≤ f.next) = false := decide_eq_false (by omega)
  go_quiet ((go_at_call 50; exact Calls.quiet_of_same (HS.out _)))
  go_wp2_with fail
  obtain ⟨w2, hw2⟩ : ∃ w2, w2 = w1.drewN nq := ⟨_, rfl⟩
  rw [← hw2]
  have H2 : Hid (RRep w2 t base M E V (ol ++ [(f, cv)]) s1 false) := by rw [hw2]; exact H1.out.drew nq
  have HF2 : Hid (Fx w w2 t t) := by rw [hw2]; exact HF1.out.drewN nq
  have hsz : w2.heap.size = w1.heap.size := by rw [hw2]; rfl
  rw [← hsz] at hlM1 hob1 hleb
  have m0' : w2.cell? ⟨M, 0, none⟩ = some (.slice wa E.ws.length wc0) := by rw [hw2]; exact m0
  have k4' : w2.cell? ⟨ob, ol.length * 8 + 4, none⟩ = some (.int .i64 f.next) := by rw [hw2]; exact k4
  have Hoj' : Hid (∀ j, j < 8 → w2.cell? ⟨ob, ol.length * 8 + j, none⟩ = (callC (f, cv))[j]?) := by rw [hw2]; exact Hoj.out
  clear HS m0 k4 k0 m1 hsz Hoj H1 hw2
  obtain ⟨wb, wo, wc, hwv', x0, x1, x2, x3, x4, hlwb, -⟩ := H2.out.env.word hn0 hn1
  obtain ⟨nx, hnx⟩ : ∃ nx : Nat, f.next = nx := ⟨f.next.toNat, by omega⟩
  rw [← hx] at x0 x1 x2 x3 x4
  rw [hnx, Int.toNat_natCast] at x0 x1 x2 x3 x4
  rw [hwv] at hwv'
  simp only [Value.slice.injEq, true_and] at hwv'
  obtain ⟨rfl, rfl⟩ := hwv'
  rw [hnx] at k4'
  have hnx0 : (0 : Int) ≤ (nx : Int) := by omega
  have hnx1 : (nx : Int) < (E.ws.length : Int) := by omega
  have k1' : w2.cell? ⟨ob, ol.length * 8 + 1, none⟩ = some (.int .i64 cv.at_) := Hoj'.out 1 (by omega)
  have z1 : w2.frozen? ⟨ob, ol.length * 8 + 1, none⟩ = false := ofrz (hov ▸ H2.out.ho.own) _
  have z4 : w2.frozen? ⟨ob, ol.length * 8 + 4, none⟩ = false := ofrz (hov ▸ H2.out.ho.own) _
  rw [hnx] at hx
  rw [Int.toNat_natCast] at hx
  have HX : Hid _ := hx
  obtain ⟨op, xa, xb, xc, imm⟩ := x
  simp only at hop
  have HOP := Lib.hid hop
  clear hop
  obtain ⟨⟨p0, p1⟩, ⟨pa, pa'⟩, ⟨pb, pb'⟩, ⟨pc, pc'⟩, ⟨pi, pi'⟩⟩ : (0 ≤ op ∧ op ≤ 255) ∧ (0 ≤ xa ∧ xa ≤ 255) ∧ (0 ≤ xb ∧ xb ≤ 255) ∧ (0 ≤ xc ∧ xc ≤ 255) ∧ (-9223372036854775808 ≤ imm ∧ imm ≤ 9223372036854775807) := hok
  simp only at x0 x1 x2 x3 x4
  clear hx
  go_upto_region 6 with fail
  go_region
  all_goals go_wp2_with fail
  obtain ⟨w3, hw3⟩ : ∃ w3, w3 = (((w2.setCell ⟨ob, ol.length * 8 + 1, none⟩ (.int .i64 nx)).setCell ⟨ob, ol.length * 8 + 4, none⟩ (.int .i64 (nx + 1))).alloc (.cells #[.int .u8 op, .int .u8 xa, .int .u8 xb, .int .u8 xc, .int .i64 imm] 73)).drew := ⟨_, rfl⟩
  rw [← hw3]
  have hsz3 : w3.heap.size = w2.heap.size + 1 := by rw [hw3]; simp
  have H3 : Hid (RRep w3 t base M E V (ol ++ [({ f with next := nx + 1 }, { cv with at_ := nx })]) (s1.top (ol.map Prod.fst) { f with next := nx + 1 }) false) := by
    rw [hw3]
    exact ((H2.out.atc' hov nx).next' hov (nx + 1)).below (((Below.refl _ _).alloc (Nat.le_refl _) _).drew)
  have hltw : ∀ k, t k ≠ 0 → k < w2.heap.size := H2.out.lt
  have HF3 : Hid (Fx w w3 t t) := by
    have tob : t ob = 4 := H2.out.ho.tag ob (by simp [hov, Value.ownBlock])
    rw [hw3]
    exact ((HF2.out.set (g := ob) (i := ol.length * 8 + 1) (.int .i64 nx) (by omega)).set (g := ob) (i := ol.length * 8 + 4) (.int .i64 (nx + 1)) (by omega)).later (((Below.refl _ _).alloc (Nat.le_refl _) _).drew)
  have hx3 : w3.heap[w2.heap.size]? = some (.cells #[.int .u8 op, .int .u8 xa, .int .u8 xb, .int .u8 xc, .int .i64 imm] 73 (0, 0)) := by
    rw [hw3]
    have := heap_alloc_new ((w2.setCell ⟨ob, ol.length * 8 + 1, none⟩ (.int .i64 nx)).setCell ⟨ob, ol.length * 8 + 4, none⟩ (.int .i64 (nx + 1))) (.cells #[.int .u8 op, .int .u8 xa, .int .u8 xb, .int .u8 xc, .int .i64 imm] 73)
    simp only [World.size_setCell] at this
    exact this
  clear hw3 x0 x1 x2 x3 x4 k1' k4' z1 z4 m0' Hoj' H2
  refine (refForm_any op xa xb xc imm w3 p0 p1 pa pb pc pi' pi).mono ?_
  rintro e w4 ⟨rfl, hb4⟩
  rw [hform]
  have H4 := Lib.hid (H3.out.below hb4)
  have HF4 : Hid (Fx w w4 t t) := HF3.out.later hb4
  have hx4 := (hb4.block _ (Array.getElem?_eq_some_iff.1 hx3).1).trans hx3
  have hl4 : w2.heap.size < w4.heap.size := by have := hb4.size; omega
  obtain ⟨na, rfl⟩ : ∃ n : Nat, xa = n := ⟨xa.toNat, by omega⟩
  obtain ⟨nb, rfl⟩ : ∃ n : Nat, xb = n := ⟨xb.toNat, by omega⟩
  obtain ⟨nc, rfl⟩ : ∃ n : Nat, xc = n := ⟨xc.toNat, by omega⟩
  obtain ⟨ra, rb', rc'⟩ := formB_regs hform
  have q0 : w4.cell? ⟨w2.heap.size, 0, none⟩ = some (.int .u8 op) := by simp [World.cell?, hx4]
  have q1 : w4.cell? ⟨w2.heap.size, 1, none⟩ = some (.int .u8 na) := by simp [World.cell?, hx4]
  have q2 : w4.cell? ⟨w2.heap.size, 2, none⟩ = some (.int .u8 nb) := by simp [World.cell?, hx4]
  have q3 : w4.cell? ⟨w2.heap.size, 3, none⟩ = some (.int .u8 nc) := by simp [World.cell?, hx4]
  have q4 : w4.cell? ⟨w2.heap.size, 4, none⟩ = some (.int .i64 imm) := by simp [World.cell?, hx4]
  obtain ⟨rb, rc, hrv, hrl, trb, zr, hrj⟩ := H4.out.fr.last.regC
  simp only at hrv hrj
  obtain ⟨ob', oc', hov', -, hob4, tob, -, -, hoj⟩ := H4.out.topC
  rw [hov] at hov'
  simp only [Value.slice.injEq, Option.some.injEq, Addr.mk.injEq, and_true, true_and] at hov'
  obtain ⟨rfl, rfl⟩ := hov'
  have k2 : w4.cell? ⟨ob, ol.length * 8 + 2, none⟩ = some (.slice (some ⟨rb, 0, none⟩) 16 rc) := (hoj 2 (by omega)).trans (by simp [callC, hrv])
  have va := hrj na (by omega)
  have vb := hrj nb (by omega)
  have vc := hrj nc (by omega)
  obtain ⟨f1, hf1⟩ : ∃ f1 : Fr, f1 = { f with next := nx + 1 } := ⟨_, rfl⟩
  have hra : f1.r na = f.regs.getD na 0 := by rw [hf1]; simp [Fr.r]
  have hrb : f1.r nb = f.regs.getD nb 0 := by rw [hf1]; simp [Fr.r]
  have hrc : f1.r nc = f.regs.getD nc 0 := by rw [hf1]; simp [Fr.r]
  obtain ⟨gA, hgA⟩ : ∃ g, g = f1.r na := ⟨_, rfl⟩
  obtain ⟨gB, hgB⟩ : ∃ g, g = f1.r nb := ⟨_, rfl⟩
  obtain ⟨gC, hgC⟩ : ∃ g, g = f1.r nc := ⟨_, rfl⟩
  rw [← hra, ← hgA] at va
  rw [← hrb, ← hgB] at vb
  rw [← hrc, ← hgC] at vc
  have hgBr : -9223372036854775808 ≤ gB ∧ gB ≤ 9223372036854775807 := by rw [hgB, hrb]; exact hrg nb
  have hgAr : -9223372036854775808 ≤ gA ∧ gA ≤ 9223372036854775807 := by rw [hgA, hra]; exact hrg na
  have hrl5 : f1.ready.length ≤ 6 := by rw [hf1]; exact hrl6
  have hdst1 : 0 ≤ f1.dst ∧ f1.dst < 16 := by rw [hf1]; exact hdst
  have HGA := Lib.hid hgA.symm
  have HGB := Lib.hid hgB.symm
  have HGC := Lib.hid hgC.symm
  have HF1' := Lib.hid hf1
  clear hra hrb hrc hgA hgB hgC hf1
  have za := zr na
  have nRO : ¬ rb = ob := fun e => by rw [e] at trb; omega
  have nRM : ¬ rb = M := fun e => by have := H4.out.tm; rw [← e] at this; omega
  have ia : (na : Int) < 16 := ra
  have ib : (nb : Int) < 16 := rb'
  have ic : (nc : Int) < 16 := rc'
  clear hx3 hx4 hb4 H3 hsz3 hrj zr trb tob hoj
  go_wp2_with fail
  go_quiet (fail)
  obtain ⟨w5, hw5⟩ : ∃ w5, w5 = w4.drewN nq := ⟨_, rfl⟩
  rw [← hw5]
  have hc5 : ∀ p, w5.cell? p = w4.cell? p := fun p => by rw [hw5]; rfl
  have hz5 : ∀ p, w5.frozen? p = w4.frozen? p := fun p => by rw [hw5]; rfl
  have hs5 : w5.heap.size = w4.heap.size := by rw [hw5]; rfl
  have HF5 : Hid (Fx w w5 t t) := by rw [hw5]; exact HF4.out.drewN nq
  obtain ⟨cv1, hcv1⟩ : ∃ cv1 : CV, cv1 = { cv with at_ := nx } := ⟨_, rfl⟩
  obtain ⟨s5, hs5e⟩ : ∃ s5 : St, s5 = s1.top (ol.map Prod.fst) f1 := ⟨_, rfl⟩
  have H5 : Hid (RRep w5 t base M E V (ol ++ [(f1, cv1)]) s5 false) := by rw [hw5, hs5e, HF1'.out, hcv1]; exact H4.out.drew nq
  have HS5 : Hid (stepF E s = (doF E s1 (ol.map Prod.fst) f1 ⟨op, na, nb, nc, imm⟩, op)) := by
    have := HS0.out
    rw [hnx] at this
    rw [hs1, HF1'.out]
    rw [hnx]
    exact this
  have hrv1 : cv1.rv = .slice (some ⟨rb, 0, none⟩) 16 rc := by rw [hcv1]; exact hrv
  rw [← hc5] at q0 q1 q2 q3 q4 k2 va vb vc
  rw [← hz5] at za
  rw [← hs5] at hl4 hrl hob4
  have hrd5 : 0 ≤ s5.read ∧ s5.read ≤ E.inp.length := by rw [hs5e, hs1]; exact hrd
  have hhl5 : s5.heap.length ≤ 4096 := by rw [hs5e, hs1]; exact hhl
  have hxl5 : s5.outs.length ≤ 1000000 := by rw [hs5e, hs1]; exact hxl
  have hbs5 : base ≤ w5.heap.size := (H5.out.ge M (by have := H5.out.tm; omega)).2
  have HS5E := Lib.hid hs5e
  have hlM5 : M < w5.heap.size := (Array.getElem?_eq_some_iff.1 H5.out.hm).1
  have nbM : ¬ w2.heap.size = M := by omega
  have nbO : ¬ w2.heap.size = ob := by omega
  have nbR : ¬ w2.heap.size = rb := fun e => by
    have h1 := H5.out.fr.last.rg.tag rb (by show cv1.rv.ownBlock = _; rw [hrv1]; rfl)
    have h2 : t rb ≠ 0 := by omega
    have h3 := hltw rb h2
    omega
  clear hc5 hz5 hs5 hw5 H4 HF4 HF3 HF2 HF1 HS0 hs5e hrv HF1' hcv1
  have hop := HOP.out
  clear HOP
  rcases hop with rfl | rfl | rfl
  · -- 30
    go_wp2_with fail
    go_still_tail 8, mixed
    go_wp2_with fail
    have tR : 2 < t rb := by have := H5.out.fr.last.rg.tag rb (by show cv1.rv.ownBlock = _; rw [hrv1]; rfl); omega
    refine bodyPost_end (results_none rfl _ _ _) rfl ⟨rfl, ?_⟩
    have R := (H5.out.reg hrv1 na imm).drew 1
    have FX := (HF5.out.set (g := rb) (i := na) (.int .i64 imm) tR).drewN 1
    have e5 := HS5E.out
    subst e5
    rw [HS5.out, doF_30]
    exact ⟨t, V, _, R, FX⟩
  · -- 31
    go_wp2_with fail
    have tR : 2 < t rb := by have := H5.out.fr.last.rg.tag rb (by show cv1.rv.ownBlock = _; rw [hrv1]; rfl); omega
    refine bodyPost_end (results_none rfl _ _ _) rfl ⟨rfl, ?_⟩
    have R := (H5.out.reg hrv1 na gB)
    have FX := (HF5.out.set (g := rb) (i := na) (.int .i64 gB) tR)
    have e5 := HS5E.out
    subst e5
    rw [HS5.out, doF_31, HGB.out]
    exact ⟨t, V, _, R, FX⟩
  · -- 38
    obtain ⟨ha, hcp, hhv, -, -⟩ := oshape H5.out.hh.own
    have m5 : w5.cell? ⟨M, 5, none⟩ = some (.slice ha s5.heap.length hcp) := (H5.out.cellM 5).trans (by rw [(rC_get V s5 false).2.2.2.1, hhv])
    go_wp2_with fail
    go_still_tail 11, mixed
    go_wp2_with fail
    have tR : 2 < t rb := by have := H5.out.fr.last.rg.tag rb (by show cv1.rv.ownBlock = _; rw [hrv1]; rfl); omega
    refine bodyPost_end (results_none rfl _ _ _) rfl ⟨rfl, ?_⟩
    have R := (H5.out.reg hrv1 na s5.heap.length).drew 1
    have FX := (HF5.out.set (g := rb) (i := na) (.int .i64 s5.heap.length) tR).drewN 1
    have e5 := HS5E.out
    subst e5
    rw [HS5.out, doF_38]
    exact ⟨t, V, _, R, FX⟩
end Go.Proofs.Ytgjmdcbdkdmceaa.Mach

/- The document's machine: a step, by its operations (32, 33). Printed by gen_rstep.py. -/
namespace Go.Proofs.Ytgjmdcbdkdmceaa.Mach
open Go.RowKit

set_option maxRecDepth 100000 in
set_option maxHeartbeats 4000000 in
theorem rstep_b (w : World) (t : Nat → Nat) (base M : Nat) (E : Env) (V : RV) (ol : List (Fr × CV)) (f : Fr) (cv : CV) (s : St) (mk : Bool) (h : RRep w t base M E V (ol ++ [(f, cv)]) s mk) (hol : ol.length ≤ 99)
    (hf0 : 0 ≤ f.fn) (hf1 : f.fn < E.es.length) (_hel : E.es.length ≤ 1000000) (hwl : E.ws.length ≤ 1000000) (hb1 : slotsOk (E.ent f.fn).2 = true) (hn0 : 0 ≤ f.next) (hn1 : f.next < E.ws.length) (x : W) (hx : x = E.ws.getD f.next.toNat W.zero) (hrg : ∀ j, -9223372036854775808 ≤ f.regs.getD j 0 ∧ f.regs.getD j 0 ≤ 9223372036854775807) (hrd : 0 ≤ s.read ∧ s.read ≤ E.inp.length) (hhl : s.heap.length ≤ 4096) (hrl6 : f.ready.length ≤ 6) (hxl : s.outs.length ≤ 1000000) (_hin : E.inp.length ≤ 9223372036854775807) (hdst : 0 ≤ f.dst ∧ f.dst < 16) (hok : x.ok) (hform : formB x = true) (hop : x.op = 32 ∨ x.op = 33) :
    Calls Try.prog 69 #[.pointer (some ⟨M, 0, none⟩)] w fun e w' => e = .returned (.tuple #[]) ∧ RPost w t base M E (stepF E s).1 ((stepF E s).2 == 44) w' := by
  obtain ⟨ob, oc, hov, hoc, hob, tob, nOM, zo, hoj⟩ := h.topC
  have k4 : w.cell? ⟨ob, ol.length * 8 + 4, none⟩ = some (.int .i64 f.next) := hoj 4 (by omega)
  have m6 : w.cell? ⟨M, 6, none⟩ = some (.slice (some ⟨ob, 0, none⟩) (ol.length + 1) oc) := (h.cellM 6).trans (by rw [(rC_get V s mk).2.2.2.2.1, hov])
  have m11 : w.cell? ⟨M, 11, none⟩ = some (.int .i64 s.steps) := (h.cellM 11).trans (rC_get V s mk).2.2.2.2.2.2.2.2.2.1
  have m13 : w.cell? ⟨M, 13, none⟩ = some (.int .i64 s.at_) := (h.cellM 13).trans (rC_get V s mk).2.2.2.2.2.2.2.2.2.2.2.1
  have m14 : w.cell? ⟨M, 14, none⟩ = some (.bool mk) := (h.cellM 14).trans (rC_get V s mk).2.2.2.2.2.2.2.2.2.2.2.2
  have z11 := h.frzM 11
  have z13 := h.frzM 13
  have z14 := h.frzM 14
  have nMO : ¬ M = ob := fun e => nOM e.symm
  have hlM : M < w.heap.size := (Array.getElem?_eq_some_iff.1 h.hm).1
  have mixed : Try.prog.follows Departure.mixedOrders = true := by kernel_rfl
  have H := Lib.hid h
  clear h hoj zo tob
  go_enter Try.func69, Try.ntmps69
  go_wp2_with fail
  go_quiet (fail)
  go_wp2_with fail
  obtain ⟨w1, hw1⟩ : ∃ w1, w1 = ((((w.setCell ⟨M, 14, none⟩ (.bool false)).setCell ⟨M, 11, none⟩ (.int .i64 (wrap64 (s.steps + 1)))).drewN nq).setCell ⟨M, 13, none⟩ (.int .i64 f.next)) := ⟨_, rfl⟩
  rw [← hw1]
  obtain ⟨s1, hs1⟩ : ∃ s1 : St, s1 = { s with steps := wrap64 (s.steps + 1), at_ := f.next } := ⟨_, rfl⟩
  have H1 : Hid (RRep w1 t base M E V (ol ++ [(f, cv)]) s1 false) := by
    rw [hw1, hs1]
    exact (((H.out.mk' false).steps' _).drew nq).at' _
  have HF1 : Hid (Fx w w1 t t) := by
    have tm := H.out.tm
    rw [hw1]
    exact ((((Fx.refl w t).set (g := M) (i := 14) (.bool false) (by omega)).set (g := M) (i := 11) (.int .i64 (wrap64 (s.steps + 1))) (by omega)).drewN nq).set (g := M) (i := 13) (.int .i64 f.next) (by omega)
  have HS0 := Lib.hid (stepF_is H.out.opn hb1 hn0 hn1 hx hform)
  have hlM1 : M < w1.heap.size := by rw [hw1]; simpa using hlM
  have hob1 : ob < w1.heap.size := by rw [hw1]; simpa using hob
  clear hw1 m6 m11 m13 m14 z11 z13 z14 k4 hlM hob H
  obtain ⟨ob', oc', hov', _, _, tob, _, zo, hoj⟩ := H1.out.topC
  rw [hov] at hov'
  simp only [Value.slice.injEq, Option.some.injEq, Addr.mk.injEq, and_true, true_and] at hov'
  obtain ⟨rfl, rfl⟩ := hov'
  obtain ⟨wa, wc0, hwv⟩ := Rd.shape H1.out.env.hw
  obtain ⟨eb, eo, ec, hev, -, he2, hleb, -⟩ := H1.out.env.ent hf0 hf1
  obtain ⟨fn, hfn⟩ : ∃ fn : Nat, f.fn = fn := ⟨f.fn.toNat, by omega⟩
  rw [hfn] at hb1
  rw [hfn, Int.toNat_natCast] at he2
  have k0 : w1.cell? ⟨ob, ol.length * 8, none⟩ = some (.int .i64 fn) := by rw [← hfn]; exact hoj 0 (by omega)
  have k4 : w1.cell? ⟨ob, ol.length * 8 + 4, none⟩ = some (.int .i64 f.next) := hoj 4 (by omega)
  have m0 : w1.cell? ⟨M, 0, none⟩ = some (.slice wa E.ws.length wc0) := (H1.out.cellM 0).trans (by rw [(rC_get V s1 false).1, hwv])
  have m1 : w1.cell? ⟨M, 1, none⟩ = some (.slice (some ⟨eb, eo, none⟩) E.es.length ec) := (H1.out.cellM 1).trans (by rw [(rC_get V s1 false).2.1, hev])
  have hfnl : fn < E.es.length := by omega
  have HS := Lib.hid (fun n => rslots_any M eb eo E.es.length ec fn (E.ent fn).2 (w1.drewN n) m1 hfnl he2)
  have Hoj := Lib.hid hoj
  clear hoj zo tob he2
  simp only [hb1] at HS
  have d0 : decide (f.next < 0) = false := decide_eq_false (by omega)
  have d1 : decide ((E.ws.length : Int) ≤ f.next) = false := decide_eq_false (by omega)
  go_quiet ((go_at_call 50; exact Calls.quiet_of_same (HS.out _)))
  go_wp2_with fail
  obtain ⟨w2, hw2⟩ : ∃ w2, w2 = w1.drewN nq := ⟨_, rfl⟩
  rw [← hw2]
  have H2 : Hid (RRep w2 t base M E V (ol ++ [(f, cv)]) s1 false) := by rw [hw2]; exact H1.out.drew nq
  have HF2 : Hid (Fx w w2 t t) := by rw [hw2]; exact HF1.out.drewN nq
  have hsz : w2.heap.size = w1.heap.size := by rw [hw2]; rfl
  rw [← hsz] at hlM1 hob1 hleb
  have m0' : w2.cell? ⟨M, 0, none⟩ = some (.slice wa E.ws.length wc0) := by rw [hw2]; exact m0
  have k4' : w2.cell? ⟨ob, ol.length * 8 + 4, none⟩ = some (.int .i64 f.next) := by rw [hw2]; exact k4
  have Hoj' : Hid (∀ j, j < 8 → w2.cell? ⟨ob, ol.length * 8 + j, none⟩ = (callC (f, cv))[j]?) := by rw [hw2]; exact Hoj.out
  clear HS m0 k4 k0 m1 hsz Hoj H1 hw2
  obtain ⟨wb, wo, wc, hwv', x0, x1, x2, x3, x4, hlwb, -⟩ := H2.out.env.word hn0 hn1
  obtain ⟨nx, hnx⟩ : ∃ nx : Nat, f.next = nx := ⟨f.next.toNat, by omega⟩
  rw [← hx] at x0 x1 x2 x3 x4
  rw [hnx, Int.toNat_natCast] at x0 x1 x2 x3 x4
  rw [hwv] at hwv'
  simp only [Value.slice.injEq, true_and] at hwv'
  obtain ⟨rfl, rfl⟩ := hwv'
  rw [hnx] at k4'
  have hnx0 : (0 : Int) ≤ (nx : Int) := by omega
  have hnx1 : (nx : Int) < (E.ws.length : Int) := by omega
  have k1' : w2.cell? ⟨ob, ol.length * 8 + 1, none⟩ = some (.int .i64 cv.at_) := Hoj'.out 1 (by omega)
  have z1 : w2.frozen? ⟨ob, ol.length * 8 + 1, none⟩ = false := ofrz (hov ▸ H2.out.ho.own) _
  have z4 : w2.frozen? ⟨ob, ol.length * 8 + 4, none⟩ = false := ofrz (hov ▸ H2.out.ho.own) _
  rw [hnx] at hx
  rw [Int.toNat_natCast] at hx
  have HX : Hid _ := hx
  obtain ⟨op, xa, xb, xc, imm⟩ := x
  simp only at hop
  have HOP := Lib.hid hop
  clear hop
  obtain ⟨⟨p0, p1⟩, ⟨pa, pa'⟩, ⟨pb, pb'⟩, ⟨pc, pc'⟩, ⟨pi, pi'⟩⟩ : (0 ≤ op ∧ op ≤ 255) ∧ (0 ≤ xa ∧ xa ≤ 255) ∧ (0 ≤ xb ∧ xb ≤ 255) ∧ (0 ≤ xc ∧ xc ≤ 255) ∧ (-9223372036854775808 ≤ imm ∧ imm ≤ 9223372036854775807) := hok
  simp only at x0 x1 x2 x3 x4
  clear hx
  go_upto_region 6 with fail
  go_region
  all_goals go_wp2_with fail
  obtain ⟨w3, hw3⟩ : ∃ w3, w3 = (((w2.setCell ⟨ob, ol.length * 8 + 1, none⟩ (.int .i64 nx)).setCell ⟨ob, ol.length * 8 + 4, none⟩ (.int .i64 (nx + 1))).alloc (.cells #[.int .u8 op, .int .u8 xa, .int .u8 xb, .int .u8 xc, .int .i64 imm] 73)).drew := ⟨_, rfl⟩
  rw [← hw3]
  have hsz3 : w3.heap.size = w2.heap.size + 1 := by rw [hw3]; simp
  have H3 : Hid (RRep w3 t base M E V (ol ++ [({ f with next := nx + 1 }, { cv with at_ := nx })]) (s1.top (ol.map Prod.fst) { f with next := nx + 1 }) false) := by
    rw [hw3]
    exact ((H2.out.atc' hov nx).next' hov (nx + 1)).below (((Below.refl _ _).alloc (Nat.le_refl _) _).drew)
  have hltw : ∀ k, t k ≠ 0 → k < w2.heap.size := H2.out.lt
  have HF3 : Hid (Fx w w3 t t) := by
    have tob : t ob = 4 := H2.out.ho.tag ob (by simp [hov, Value.ownBlock])
    rw [hw3]
    exact ((HF2.out.set (g := ob) (i := ol.length * 8 + 1) (.int .i64 nx) (by omega)).set (g := ob) (i := ol.length * 8 + 4) (.int .i64 (nx + 1)) (by omega)).later (((Below.refl _ _).alloc (Nat.le_refl _) _).drew)
  have hx3 : w3.heap[w2.heap.size]? = some (.cells #[.int .u8 op, .int .u8 xa, .int .u8 xb, .int .u8 xc, .int .i64 imm] 73 (0, 0)) := by
    rw [hw3]
    have := heap_alloc_new ((w2.setCell ⟨ob, ol.length * 8 + 1, none⟩ (.int .i64 nx)).setCell ⟨ob, ol.length * 8 + 4, none⟩ (.int .i64 (nx + 1))) (.cells #[.int .u8 op, .int .u8 xa, .int .u8 xb, .int .u8 xc, .int .i64 imm] 73)
    simp only [World.size_setCell] at this
    exact this
  clear hw3 x0 x1 x2 x3 x4 k1' k4' z1 z4 m0' Hoj' H2
  refine (refForm_any op xa xb xc imm w3 p0 p1 pa pb pc pi' pi).mono ?_
  rintro e w4 ⟨rfl, hb4⟩
  rw [hform]
  have H4 := Lib.hid (H3.out.below hb4)
  have HF4 : Hid (Fx w w4 t t) := HF3.out.later hb4
  have hx4 := (hb4.block _ (Array.getElem?_eq_some_iff.1 hx3).1).trans hx3
  have hl4 : w2.heap.size < w4.heap.size := by have := hb4.size; omega
  obtain ⟨na, rfl⟩ : ∃ n : Nat, xa = n := ⟨xa.toNat, by omega⟩
  obtain ⟨nb, rfl⟩ : ∃ n : Nat, xb = n := ⟨xb.toNat, by omega⟩
  obtain ⟨nc, rfl⟩ : ∃ n : Nat, xc = n := ⟨xc.toNat, by omega⟩
  obtain ⟨ra, rb', rc'⟩ := formB_regs hform
  have q0 : w4.cell? ⟨w2.heap.size, 0, none⟩ = some (.int .u8 op) := by simp [World.cell?, hx4]
  have q1 : w4.cell? ⟨w2.heap.size, 1, none⟩ = some (.int .u8 na) := by simp [World.cell?, hx4]
  have q2 : w4.cell? ⟨w2.heap.size, 2, none⟩ = some (.int .u8 nb) := by simp [World.cell?, hx4]
  have q3 : w4.cell? ⟨w2.heap.size, 3, none⟩ = some (.int .u8 nc) := by simp [World.cell?, hx4]
  have q4 : w4.cell? ⟨w2.heap.size, 4, none⟩ = some (.int .i64 imm) := by simp [World.cell?, hx4]
  obtain ⟨rb, rc, hrv, hrl, trb, zr, hrj⟩ := H4.out.fr.last.regC
  simp only at hrv hrj
  obtain ⟨ob', oc', hov', -, hob4, tob, -, -, hoj⟩ := H4.out.topC
  rw [hov] at hov'
  simp only [Value.slice.injEq, Option.some.injEq, Addr.mk.injEq, and_true, true_and] at hov'
  obtain ⟨rfl, rfl⟩ := hov'
  have k2 : w4.cell? ⟨ob, ol.length * 8 + 2, none⟩ = some (.slice (some ⟨rb, 0, none⟩) 16 rc) := (hoj 2 (by omega)).trans (by simp [callC, hrv])
  have va := hrj na (by omega)
  have vb := hrj nb (by omega)
  have vc := hrj nc (by omega)
  obtain ⟨f1, hf1⟩ : ∃ f1 : Fr, f1 = { f with next := nx + 1 } := ⟨_, rfl⟩
  have hra : f1.r na = f.regs.getD na 0 := by rw [hf1]; simp [Fr.r]
  have hrb : f1.r nb = f.regs.getD nb 0 := by rw [hf1]; simp [Fr.r]
  have hrc : f1.r nc = f.regs.getD nc 0 := by rw [hf1]; simp [Fr.r]
  obtain ⟨gA, hgA⟩ : ∃ g, g = f1.r na := ⟨_, rfl⟩
  obtain ⟨gB, hgB⟩ : ∃ g, g = f1.r nb := ⟨_, rfl⟩
  obtain ⟨gC, hgC⟩ : ∃ g, g = f1.r nc := ⟨_, rfl⟩
  rw [← hra, ← hgA] at va
  rw [← hrb, ← hgB] at vb
  rw [← hrc, ← hgC] at vc
  have hgBr : -9223372036854775808 ≤ gB ∧ gB ≤ 9223372036854775807 := by rw [hgB, hrb]; exact hrg nb
  have hgAr : -9223372036854775808 ≤ gA ∧ gA ≤ 9223372036854775807 := by rw [hgA, hra]; exact hrg na
  have hrl5 : f1.ready.length ≤ 6 := by rw [hf1]; exact hrl6
  have hdst1 : 0 ≤ f1.dst ∧ f1.dst < 16 := by rw [hf1]; exact hdst
  have HGA := Lib.hid hgA.symm
  have HGB := Lib.hid hgB.symm
  have HGC := Lib.hid hgC.symm
  have HF1' := Lib.hid hf1
  clear hra hrb hrc hgA hgB hgC hf1
  have za := zr na
  have nRO : ¬ rb = ob := fun e => by rw [e] at trb; omega
  have nRM : ¬ rb = M := fun e => by have := H4.out.tm; rw [← e] at this; omega
  have ia : (na : Int) < 16 := ra
  have ib : (nb : Int) < 16 := rb'
  have ic : (nc : Int) < 16 := rc'
  clear hx3 hx4 hb4 H3 hsz3 hrj zr trb tob hoj
  go_wp2_with fail
  go_quiet (fail)
  obtain ⟨w5, hw5⟩ : ∃ w5, w5 = w4.drewN nq := ⟨_, rfl⟩
  rw [← hw5]
  have hc5 : ∀ p, w5.cell? p = w4.cell? p := fun p => by rw [hw5]; rfl
  have hz5 : ∀ p, w5.frozen? p = w4.frozen? p := fun p => by rw [hw5]; rfl
  have hs5 : w5.heap.size = w4.heap.size := by rw [hw5]; rfl
  have HF5 : Hid (Fx w w5 t t) := by rw [hw5]; exact HF4.out.drewN nq
  obtain ⟨cv1, hcv1⟩ : ∃ cv1 : CV, cv1 = { cv with at_ := nx } := ⟨_, rfl⟩
  obtain ⟨s5, hs5e⟩ : ∃ s5 : St, s5 = s1.top (ol.map Prod.fst) f1 := ⟨_, rfl⟩
  have H5 : Hid (RRep w5 t base M E V (ol ++ [(f1, cv1)]) s5 false) := by rw [hw5, hs5e, HF1'.out, hcv1]; exact H4.out.drew nq
  have HS5 : Hid (stepF E s = (doF E s1 (ol.map Prod.fst) f1 ⟨op, na, nb, nc, imm⟩, op)) := by
    have := HS0.out
    rw [hnx] at this
    rw [hs1, HF1'.out]
    rw [hnx]
    exact this
  have hrv1 : cv1.rv = .slice (some ⟨rb, 0, none⟩) 16 rc := by rw [hcv1]; exact hrv
  rw [← hc5] at q0 q1 q2 q3 q4 k2 va vb vc
  rw [← hz5] at za
  rw [← hs5] at hl4 hrl hob4
  have hrd5 : 0 ≤ s5.read ∧ s5.read ≤ E.inp.length := by rw [hs5e, hs1]; exact hrd
  have hhl5 : s5.heap.length ≤ 4096 := by rw [hs5e, hs1]; exact hhl
  have hxl5 : s5.outs.length ≤ 1000000 := by rw [hs5e, hs1]; exact hxl
  have hbs5 : base ≤ w5.heap.size := (H5.out.ge M (by have := H5.out.tm; omega)).2
  have HS5E := Lib.hid hs5e
  have hlM5 : M < w5.heap.size := (Array.getElem?_eq_some_iff.1 H5.out.hm).1
  have nbM : ¬ w2.heap.size = M := by omega
  have nbO : ¬ w2.heap.size = ob := by omega
  have nbR : ¬ w2.heap.size = rb := fun e => by
    have h1 := H5.out.fr.last.rg.tag rb (by show cv1.rv.ownBlock = _; rw [hrv1]; rfl)
    have h2 : t rb ≠ 0 := by omega
    have h3 := hltw rb h2
    omega
  clear hc5 hz5 hs5 hw5 H4 HF4 HF3 HF2 HF1 HS0 hs5e hrv HF1' hcv1
  have hop := HOP.out
  clear HOP
  rcases hop with rfl | rfl
  · -- 32
    obtain ⟨sa, sc, hsv, -, -⟩ := oshape H5.out.fr.last.sl.own
    have k3 : w5.cell? ⟨ob, ol.length * 8 + 3, none⟩ = some (.slice sa f1.slots.length sc) := (H5.out.topJ hov 3 (by omega)).trans (by show some cv1.sv = _; rw [hsv])
    have hi0 := formB_imm hform (by omega)
    obtain ⟨ni, rfl⟩ : ∃ n : Nat, imm = n := ⟨imm.toNat, by omega⟩
    by_cases hi : (f1.slots.length : Int) ≤ ni
    · have d1 : decide ((f1.slots.length : Int) ≤ (ni : Int)) = true := decide_eq_true hi
      have m7 : w5.cell? ⟨M, 7, none⟩ = some (.int .u8 s5.end_) := (H5.out.cellM 7).trans (rC_get V s5 false).2.2.2.2.2.1
      have z7 := H5.out.frzM 7
      go_wp2_with fail
      have tM : 2 < t M := by have := H5.out.tm; omega
      refine bodyPost_end (results_none rfl _ _ _) rfl ⟨rfl, ?_⟩
      have R := H5.out.end' 8
      have FX := (HF5.out.set (g := M) (i := 7) (.int .u8 8) tM)
      have e5 := HS5E.out
      subst e5
      rw [HS5.out, doF_32, d1, if_pos rfl]
      exact ⟨t, V, _, R, FX⟩
    · have d1 : decide ((f1.slots.length : Int) ≤ (ni : Int)) = false := decide_eq_false hi
      obtain ⟨sb, sc', hsv', hlsb, -, -, hsj⟩ := osplit H5.out.fr.last.sl.own (by show 0 < f1.slots.length; omega)
      rw [hsv] at hsv'
      simp only [Value.slice.injEq, true_and] at hsv'
      obtain ⟨rfl, rfl⟩ := hsv'
      obtain ⟨gS, hgS⟩ : ∃ g, g = f1.slots.getD ni 0 := ⟨_, rfl⟩
      have vS : w5.cell? ⟨sb, ni, none⟩ = some (.int .i64 gS) := by rw [hgS]; exact hsj _ _ (intsV_at (by show ni < f1.slots.length; omega))
      have zS : w5.frozen? ⟨sb, ni, none⟩ = false := ofrz (hsv ▸ H5.out.fr.last.sl.own) _
      have hni : (ni : Int) < f1.slots.length := by omega
      have HGS := Lib.hid hgS
      clear hgS hsj
      go_wp2_with fail
      go_still_tail 13, mixed
      go_wp2_with fail
      have tR : 2 < t rb := by have := H5.out.fr.last.rg.tag rb (by show cv1.rv.ownBlock = _; rw [hrv1]; rfl); omega
      refine bodyPost_end (results_none rfl _ _ _) rfl ⟨rfl, ?_⟩
      have R := (H5.out.reg hrv1 na gS).drew 1
      have FX := (HF5.out.set (g := rb) (i := na) (.int .i64 gS) tR).drewN 1
      have e5 := HS5E.out
      subst e5
      rw [HS5.out, doF_32, d1, if_neg (by decide), Int.toNat_natCast, ← HGS.out]
      exact ⟨t, V, _, R, FX⟩
  · -- 33
    obtain ⟨sa, sc, hsv, -, -⟩ := oshape H5.out.fr.last.sl.own
    have k3 : w5.cell? ⟨ob, ol.length * 8 + 3, none⟩ = some (.slice sa f1.slots.length sc) := (H5.out.topJ hov 3 (by omega)).trans (by show some cv1.sv = _; rw [hsv])
    have hi0 := formB_imm hform (by omega)
    obtain ⟨ni, rfl⟩ : ∃ n : Nat, imm = n := ⟨imm.toNat, by omega⟩
    by_cases hi : (f1.slots.length : Int) ≤ ni
    · have d1 : decide ((f1.slots.length : Int) ≤ (ni : Int)) = true := decide_eq_true hi
      have m7 : w5.cell? ⟨M, 7, none⟩ = some (.int .u8 s5.end_) := (H5.out.cellM 7).trans (rC_get V s5 false).2.2.2.2.2.1
      have z7 := H5.out.frzM 7
      go_wp2_with fail
      have tM : 2 < t M := by have := H5.out.tm; omega
      refine bodyPost_end (results_none rfl _ _ _) rfl ⟨rfl, ?_⟩
      have R := H5.out.end' 8
      have FX := (HF5.out.set (g := M) (i := 7) (.int .u8 8) tM)
      have e5 := HS5E.out
      subst e5
      rw [HS5.out, doF_33, d1, if_pos rfl]
      exact ⟨t, V, _, R, FX⟩
    · have d1 : decide ((f1.slots.length : Int) ≤ (ni : Int)) = false := decide_eq_false hi
      obtain ⟨sb, sc', hsv', hlsb, -, -, hsj⟩ := osplit H5.out.fr.last.sl.own (by show 0 < f1.slots.length; omega)
      rw [hsv] at hsv'
      simp only [Value.slice.injEq, true_and] at hsv'
      obtain ⟨rfl, rfl⟩ := hsv'
      obtain ⟨gS, hgS⟩ : ∃ g, g = f1.slots.getD ni 0 := ⟨_, rfl⟩
      have vS : w5.cell? ⟨sb, ni, none⟩ = some (.int .i64 gS) := by rw [hgS]; exact hsj _ _ (intsV_at (by show ni < f1.slots.length; omega))
      have zS : w5.frozen? ⟨sb, ni, none⟩ = false := ofrz (hsv ▸ H5.out.fr.last.sl.own) _
      have hni : (ni : Int) < f1.slots.length := by omega
      have HGS := Lib.hid hgS
      clear hgS hsj
      go_wp2_with fail
      have tS : 2 < t sb := by have := H5.out.fr.last.sl.tag sb (by show cv1.sv.ownBlock = _; rw [hsv]; rfl); omega
      refine bodyPost_end (results_none rfl _ _ _) rfl ⟨rfl, ?_⟩
      have R := H5.out.slot hsv ni gA
      have FX := HF5.out.set (g := sb) (i := ni) (.int .i64 gA) tS
      have e5 := HS5E.out
      subst e5
      rw [HS5.out, doF_33, d1, if_neg (by decide), Int.toNat_natCast, HGA.out]
      exact ⟨t, V, _, R, FX⟩
end Go.Proofs.Ytgjmdcbdkdmceaa.Mach

/- The document's machine: a step, by its operations (44, 45, 46). Printed by gen_rstep.py. -/
namespace Go.Proofs.Ytgjmdcbdkdmceaa.Mach
open Go.RowKit

set_option maxRecDepth 100000 in
set_option maxHeartbeats 4000000 in
theorem rstep_f (w : World) (t : Nat → Nat) (base M : Nat) (E : Env) (V : RV) (ol : List (Fr × CV)) (f : Fr) (cv : CV) (s : St) (mk : Bool) (h : RRep w t base M E V (ol ++ [(f, cv)]) s mk) (hol : ol.length ≤ 99)
    (hf0 : 0 ≤ f.fn) (hf1 : f.fn < E.es.length) (_hel : E.es.length ≤ 1000000) (hwl : E.ws.length ≤ 1000000) (hb1 : slotsOk (E.ent f.fn).2 = true) (hn0 : 0 ≤ f.next) (hn1 : f.next < E.ws.length) (x : W) (hx : x = E.ws.getD f.next.toNat W.zero) (hrg : ∀ j, -9223372036854775808 ≤ f.regs.getD j 0 ∧ f.regs.getD j 0 ≤ 9223372036854775807) (hrd : 0 ≤ s.read ∧ s.read ≤ E.inp.length) (hhl : s.heap.length ≤ 4096) (hrl6 : f.ready.length ≤ 6) (hxl : s.outs.length ≤ 1000000) (_hin : E.inp.length ≤ 9223372036854775807) (hdst : 0 ≤ f.dst ∧ f.dst < 16) (hok : x.ok) (hform : formB x = true) (hop : x.op = 44 ∨ x.op = 45 ∨ x.op = 46) :
    Calls Try.prog 69 #[.pointer (some ⟨M, 0, none⟩)] w fun e w' => e = .returned (.tuple #[]) ∧ RPost w t base M E (stepF E s).1 ((stepF E s).2 == 44) w' := by
  obtain ⟨ob, oc, hov, hoc, hob, tob, nOM, zo, hoj⟩ := h.topC
  have k4 : w.cell? ⟨ob, ol.length * 8 + 4, none⟩ = some (.int .i64 f.next) := hoj 4 (by omega)
  have m6 : w.cell? ⟨M, 6, none⟩ = some (.slice (some ⟨ob, 0, none⟩) (ol.length + 1) oc) := (h.cellM 6).trans (by rw [(rC_get V s mk).2.2.2.2.1, hov])
  have m11 : w.cell? ⟨M, 11, none⟩ = some (.int .i64 s.steps) := (h.cellM 11).trans (rC_get V s mk).2.2.2.2.2.2.2.2.2.1
  have m13 : w.cell? ⟨M, 13, none⟩ = some (.int .i64 s.at_) := (h.cellM 13).trans (rC_get V s mk).2.2.2.2.2.2.2.2.2.2.2.1
  have m14 : w.cell? ⟨M, 14, none⟩ = some (.bool mk) := (h.cellM 14).trans (rC_get V s mk).2.2.2.2.2.2.2.2.2.2.2.2
  have z11 := h.frzM 11
  have z13 := h.frzM 13
  have z14 := h.frzM 14
  have nMO : ¬ M = ob := fun e => nOM e.symm
  have hlM : M < w.heap.size := (Array.getElem?_eq_some_iff.1 h.hm).1
  have mixed : Try.prog.follows Departure.mixedOrders = true := by kernel_rfl
  have H := Lib.hid h
  clear h hoj zo tob
  go_enter Try.func69, Try.ntmps69
  go_wp2_with fail
  go_quiet (fail)
  go_wp2_with fail
  obtain ⟨w1, hw1⟩ : ∃ w1, w1 = ((((w.setCell ⟨M, 14, none⟩ (.bool false)).setCell ⟨M, 11, none⟩ (.int .i64 (wrap64 (s.steps + 1)))).drewN nq).setCell ⟨M, 13, none⟩ (.int .i64 f.next)) := ⟨_, rfl⟩
  rw [← hw1]
  obtain ⟨s1, hs1⟩ : ∃ s1 : St, s1 = { s with steps := wrap64 (s.steps + 1), at_ := f.next } := ⟨_, rfl⟩
  have H1 : Hid (RRep w1 t base M E V (ol ++ [(f, cv)]) s1 false) := by
    rw [hw1, hs1]
    exact (((H.out.mk' false).steps' _).drew nq).at' _
  have HF1 : Hid (Fx w w1 t t) := by
    have tm := H.out.tm
    rw [hw1]
    exact ((((Fx.refl w t).set (g := M) (i := 14) (.bool false) (by omega)).set (g := M) (i := 11) (.int .i64 (wrap64 (s.steps + 1))) (by omega)).drewN nq).set (g := M) (i := 13) (.int .i64 f.next) (by omega)
  have HS0 := Lib.hid (stepF_is H.out.opn hb1 hn0 hn1 hx hform)
  have hlM1 : M < w1.heap.size := by rw [hw1]; simpa using hlM
  have hob1 : ob < w1.heap.size := by rw [hw1]; simpa using hob
  clear hw1 m6 m11 m13 m14 z11 z13 z14 k4 hlM hob H
  obtain ⟨ob', oc', hov', _, _, tob, _, zo, hoj⟩ := H1.out.topC
  rw [hov] at hov'
  simp only [Value.slice.injEq, Option.some.injEq, Addr.mk.injEq, and_true, true_and] at hov'
  obtain ⟨rfl, rfl⟩ := hov'
  obtain ⟨wa, wc0, hwv⟩ := Rd.shape H1.out.env.hw
  obtain ⟨eb, eo, ec, hev, -, he2, hleb, -⟩ := H1.out.env.ent hf0 hf1
  obtain ⟨fn, hfn⟩ : ∃ fn : Nat, f.fn = fn := ⟨f.fn.toNat, by omega⟩
  rw [hfn] at hb1
  rw [hfn, Int.toNat_natCast] at he2
  have k0 : w1.cell? ⟨ob, ol.length * 8, none⟩ = some (.int .i64 fn) := by rw [← hfn]; exact hoj 0 (by omega)
  have k4 : w1.cell? ⟨ob, ol.length * 8 + 4, none⟩ = some (.int .i64 f.next) := hoj 4 (by omega)
  have m0 : w1.cell? ⟨M, 0, none⟩ = some (.slice wa E.ws.length wc0) := (H1.out.cellM 0).trans (by rw [(rC_get V s1 false).1, hwv])
  have m1 : w1.cell? ⟨M, 1, none⟩ = some (.slice (some ⟨eb, eo, none⟩) E.es.length ec) := (H1.out.cellM 1).trans (by rw [(rC_get V s1 false).2.1, hev])
  have hfnl : fn < E.es.length := by omega
  have HS := Lib.hid (fun n => rslots_any M eb eo E.es.length ec fn (E.ent fn).2 (w1.drewN n) m1 hfnl he2)
  have Hoj := Lib.hid hoj
  clear hoj zo tob he2
  simp only [hb1] at HS
  have d0 : decide (f.next < 0) = false := decide_eq_false (by omega)
  have d1 : decide ((E.ws.length : Int) ≤ f.next) = false := decide_eq_false (by omega)
  go_quiet ((go_at_call 50; exact Calls.quiet_of_same (HS.out _)))
  go_wp2_with fail
  obtain ⟨w2, hw2⟩ : ∃ w2, w2 = w1.drewN nq := ⟨_, rfl⟩
  rw [← hw2]
  have H2 : Hid (RRep w2 t base M E V (ol ++ [(f, cv)]) s1 false) := by rw [hw2]; exact H1.out.drew nq
  have HF2 : Hid (Fx w w2 t t) := by rw [hw2]; exact HF1.out.drewN nq
  have hsz : w2.heap.size = w1.heap.size := by rw [hw2]; rfl
  rw [← hsz] at hlM1 hob1 hleb
  have m0' : w2.cell? ⟨M, 0, none⟩ = some (.slice wa E.ws.length wc0) := by rw [hw2]; exact m0
  have k4' : w2.cell? ⟨ob, ol.length * 8 + 4, none⟩ = some (.int .i64 f.next) := by rw [hw2]; exact k4
  have Hoj' : Hid (∀ j, j < 8 → w2.cell? ⟨ob, ol.length * 8 + j, none⟩ = (callC (f, cv))[j]?) := by rw [hw2]; exact Hoj.out
  clear HS m0 k4 k0 m1 hsz Hoj H1 hw2
  obtain ⟨wb, wo, wc, hwv', x0, x1, x2, x3, x4, hlwb, -⟩ := H2.out.env.word hn0 hn1
  obtain ⟨nx, hnx⟩ : ∃ nx : Nat, f.next = nx := ⟨f.next.toNat, by omega⟩
  rw [← hx] at x0 x1 x2 x3 x4
  rw [hnx, Int.toNat_natCast] at x0 x1 x2 x3 x4
  rw [hwv] at hwv'
  simp only [Value.slice.injEq, true_and] at hwv'
  obtain ⟨rfl, rfl⟩ := hwv'
  rw [hnx] at k4'
  have hnx0 : (0 : Int) ≤ (nx : Int) := by omega
  have hnx1 : (nx : Int) < (E.ws.length : Int) := by omega
  have k1' : w2.cell? ⟨ob, ol.length * 8 + 1, none⟩ = some (.int .i64 cv.at_) := Hoj'.out 1 (by omega)
  have z1 : w2.frozen? ⟨ob, ol.length * 8 + 1, none⟩ = false := ofrz (hov ▸ H2.out.ho.own) _
  have z4 : w2.frozen? ⟨ob, ol.length * 8 + 4, none⟩ = false := ofrz (hov ▸ H2.out.ho.own) _
  rw [hnx] at hx
  rw [Int.toNat_natCast] at hx
  have HX : Hid _ := hx
  obtain ⟨op, xa, xb, xc, imm⟩ := x
  simp only at hop
  have HOP := Lib.hid hop
  clear hop
  obtain ⟨⟨p0, p1⟩, ⟨pa, pa'⟩, ⟨pb, pb'⟩, ⟨pc, pc'⟩, ⟨pi, pi'⟩⟩ : (0 ≤ op ∧ op ≤ 255) ∧ (0 ≤ xa ∧ xa ≤ 255) ∧ (0 ≤ xb ∧ xb ≤ 255) ∧ (0 ≤ xc ∧ xc ≤ 255) ∧ (-9223372036854775808 ≤ imm ∧ imm ≤ 9223372036854775807) := hok
  simp only at x0 x1 x2 x3 x4
  clear hx
  go_upto_region 6 with fail
  go_region
  all_goals go_wp2_with fail
  obtain ⟨w3, hw3⟩ : ∃ w3, w3 = (((w2.setCell ⟨ob, ol.length * 8 + 1, none⟩ (.int .i64 nx)).setCell ⟨ob, ol.length * 8 + 4, none⟩ (.int .i64 (nx + 1))).alloc (.cells #[.int .u8 op, .int .u8 xa, .int .u8 xb, .int .u8 xc, .int .i64 imm] 73)).drew := ⟨_, rfl⟩
  rw [← hw3]
  have hsz3 : w3.heap.size = w2.heap.size + 1 := by rw [hw3]; simp
  have H3 : Hid (RRep w3 t base M E V (ol ++ [({ f with next := nx + 1 }, { cv with at_ := nx })]) (s1.top (ol.map Prod.fst) { f with next := nx + 1 }) false) := by
    rw [hw3]
    exact ((H2.out.atc' hov nx).next' hov (nx + 1)).below (((Below.refl _ _).alloc (Nat.le_refl _) _).drew)
  have hltw : ∀ k, t k ≠ 0 → k < w2.heap.size := H2.out.lt
  have HF3 : Hid (Fx w w3 t t) := by
    have tob : t ob = 4 := H2.out.ho.tag ob (by simp [hov, Value.ownBlock])
    rw [hw3]
    exact ((HF2.out.set (g := ob) (i := ol.length * 8 + 1) (.int .i64 nx) (by omega)).set (g := ob) (i := ol.length * 8 + 4) (.int .i64 (nx + 1)) (by omega)).later (((Below.refl _ _).alloc (Nat.le_refl _) _).drew)
  have hx3 : w3.heap[w2.heap.size]? = some (.cells #[.int .u8 op, .int .u8 xa, .int .u8 xb, .int .u8 xc, .int .i64 imm] 73 (0, 0)) := by
    rw [hw3]
    have := heap_alloc_new ((w2.setCell ⟨ob, ol.length * 8 + 1, none⟩ (.int .i64 nx)).setCell ⟨ob, ol.length * 8 + 4, none⟩ (.int .i64 (nx + 1))) (.cells #[.int .u8 op, .int .u8 xa, .int .u8 xb, .int .u8 xc, .int .i64 imm] 73)
    simp only [World.size_setCell] at this
    exact this
  clear hw3 x0 x1 x2 x3 x4 k1' k4' z1 z4 m0' Hoj' H2
  refine (refForm_any op xa xb xc imm w3 p0 p1 pa pb pc pi' pi).mono ?_
  rintro e w4 ⟨rfl, hb4⟩
  rw [hform]
  have H4 := Lib.hid (H3.out.below hb4)
  have HF4 : Hid (Fx w w4 t t) := HF3.out.later hb4
  have hx4 := (hb4.block _ (Array.getElem?_eq_some_iff.1 hx3).1).trans hx3
  have hl4 : w2.heap.size < w4.heap.size := by have := hb4.size; omega
  obtain ⟨na, rfl⟩ : ∃ n : Nat, xa = n := ⟨xa.toNat, by omega⟩
  obtain ⟨nb, rfl⟩ : ∃ n : Nat, xb = n := ⟨xb.toNat, by omega⟩
  obtain ⟨nc, rfl⟩ : ∃ n : Nat, xc = n := ⟨xc.toNat, by omega⟩
  obtain ⟨ra, rb', rc'⟩ := formB_regs hform
  have q0 : w4.cell? ⟨w2.heap.size, 0, none⟩ = some (.int .u8 op) := by simp [World.cell?, hx4]
  have q1 : w4.cell? ⟨w2.heap.size, 1, none⟩ = some (.int .u8 na) := by simp [World.cell?, hx4]
  have q2 : w4.cell? ⟨w2.heap.size, 2, none⟩ = some (.int .u8 nb) := by simp [World.cell?, hx4]
  have q3 : w4.cell? ⟨w2.heap.size, 3, none⟩ = some (.int .u8 nc) := by simp [World.cell?, hx4]
  have q4 : w4.cell? ⟨w2.heap.size, 4, none⟩ = some (.int .i64 imm) := by simp [World.cell?, hx4]
  obtain ⟨rb, rc, hrv, hrl, trb, zr, hrj⟩ := H4.out.fr.last.regC
  simp only at hrv hrj
  obtain ⟨ob', oc', hov', -, hob4, tob, -, -, hoj⟩ := H4.out.topC
  rw [hov] at hov'
  simp only [Value.slice.injEq, Option.some.injEq, Addr.mk.injEq, and_true, true_and] at hov'
  obtain ⟨rfl, rfl⟩ := hov'
  have k2 : w4.cell? ⟨ob, ol.length * 8 + 2, none⟩ = some (.slice (some ⟨rb, 0, none⟩) 16 rc) := (hoj 2 (by omega)).trans (by simp [callC, hrv])
  have va := hrj na (by omega)
  have vb := hrj nb (by omega)
  have vc := hrj nc (by omega)
  obtain ⟨f1, hf1⟩ : ∃ f1 : Fr, f1 = { f with next := nx + 1 } := ⟨_, rfl⟩
  have hra : f1.r na = f.regs.getD na 0 := by rw [hf1]; simp [Fr.r]
  have hrb : f1.r nb = f.regs.getD nb 0 := by rw [hf1]; simp [Fr.r]
  have hrc : f1.r nc = f.regs.getD nc 0 := by rw [hf1]; simp [Fr.r]
  obtain ⟨gA, hgA⟩ : ∃ g, g = f1.r na := ⟨_, rfl⟩
  obtain ⟨gB, hgB⟩ : ∃ g, g = f1.r nb := ⟨_, rfl⟩
  obtain ⟨gC, hgC⟩ : ∃ g, g = f1.r nc := ⟨_, rfl⟩
  rw [← hra, ← hgA] at va
  rw [← hrb, ← hgB] at vb
  rw [← hrc, ← hgC] at vc
  have hgBr : -9223372036854775808 ≤ gB ∧ gB ≤ 9223372036854775807 := by rw [hgB, hrb]; exact hrg nb
  have hgAr : -9223372036854775808 ≤ gA ∧ gA ≤ 9223372036854775807 := by rw [hgA, hra]; exact hrg na
  have hrl5 : f1.ready.length ≤ 6 := by rw [hf1]; exact hrl6
  have hdst1 : 0 ≤ f1.dst ∧ f1.dst < 16 := by rw [hf1]; exact hdst
  have HGA := Lib.hid hgA.symm
  have HGB := Lib.hid hgB.symm
  have HGC := Lib.hid hgC.symm
  have HF1' := Lib.hid hf1
  clear hra hrb hrc hgA hgB hgC hf1
  have za := zr na
  have nRO : ¬ rb = ob := fun e => by rw [e] at trb; omega
  have nRM : ¬ rb = M := fun e => by have := H4.out.tm; rw [← e] at this; omega
  have ia : (na : Int) < 16 := ra
  have ib : (nb : Int) < 16 := rb'
  have ic : (nc : Int) < 16 := rc'
  clear hx3 hx4 hb4 H3 hsz3 hrj zr trb tob hoj
  go_wp2_with fail
  go_quiet (fail)
  obtain ⟨w5, hw5⟩ : ∃ w5, w5 = w4.drewN nq := ⟨_, rfl⟩
  rw [← hw5]
  have hc5 : ∀ p, w5.cell? p = w4.cell? p := fun p => by rw [hw5]; rfl
  have hz5 : ∀ p, w5.frozen? p = w4.frozen? p := fun p => by rw [hw5]; rfl
  have hs5 : w5.heap.size = w4.heap.size := by rw [hw5]; rfl
  have HF5 : Hid (Fx w w5 t t) := by rw [hw5]; exact HF4.out.drewN nq
  obtain ⟨cv1, hcv1⟩ : ∃ cv1 : CV, cv1 = { cv with at_ := nx } := ⟨_, rfl⟩
  obtain ⟨s5, hs5e⟩ : ∃ s5 : St, s5 = s1.top (ol.map Prod.fst) f1 := ⟨_, rfl⟩
  have H5 : Hid (RRep w5 t base M E V (ol ++ [(f1, cv1)]) s5 false) := by rw [hw5, hs5e, HF1'.out, hcv1]; exact H4.out.drew nq
  have HS5 : Hid (stepF E s = (doF E s1 (ol.map Prod.fst) f1 ⟨op, na, nb, nc, imm⟩, op)) := by
    have := HS0.out
    rw [hnx] at this
    rw [hs1, HF1'.out]
    rw [hnx]
    exact this
  have hrv1 : cv1.rv = .slice (some ⟨rb, 0, none⟩) 16 rc := by rw [hcv1]; exact hrv
  rw [← hc5] at q0 q1 q2 q3 q4 k2 va vb vc
  rw [← hz5] at za
  rw [← hs5] at hl4 hrl hob4
  have hrd5 : 0 ≤ s5.read ∧ s5.read ≤ E.inp.length := by rw [hs5e, hs1]; exact hrd
  have hhl5 : s5.heap.length ≤ 4096 := by rw [hs5e, hs1]; exact hhl
  have hxl5 : s5.outs.length ≤ 1000000 := by rw [hs5e, hs1]; exact hxl
  have hbs5 : base ≤ w5.heap.size := (H5.out.ge M (by have := H5.out.tm; omega)).2
  have HS5E := Lib.hid hs5e
  have hlM5 : M < w5.heap.size := (Array.getElem?_eq_some_iff.1 H5.out.hm).1
  have nbM : ¬ w2.heap.size = M := by omega
  have nbO : ¬ w2.heap.size = ob := by omega
  have nbR : ¬ w2.heap.size = rb := fun e => by
    have h1 := H5.out.fr.last.rg.tag rb (by show cv1.rv.ownBlock = _; rw [hrv1]; rfl)
    have h2 : t rb ≠ 0 := by omega
    have h3 := hltw rb h2
    omega
  clear hc5 hz5 hs5 hw5 H4 HF4 HF3 HF2 HF1 HS0 hs5e hrv HF1' hcv1
  have hop := HOP.out
  clear HOP
  rcases hop with rfl | rfl | rfl
  · -- 44
    have m12 : w5.cell? ⟨M, 12, none⟩ = some (.int .i64 s5.marks) := (H5.out.cellM 12).trans (rC_get V s5 false).2.2.2.2.2.2.2.2.2.2.1
    have m14 : w5.cell? ⟨M, 14, none⟩ = some (.bool false) := (H5.out.cellM 14).trans (rC_get V s5 false).2.2.2.2.2.2.2.2.2.2.2.2
    have z12 := H5.out.frzM 12
    have z14 := H5.out.frzM 14
    go_wp2_with fail
    have tM : 2 < t M := by have := H5.out.tm; omega
    refine bodyPost_end (results_none rfl _ _ _) rfl ⟨rfl, ?_⟩
    have R := (H5.out.marks' (wrap64 (s5.marks + 1))).mk' true
    have FX := ((HF5.out.set (g := M) (i := 12) (.int .i64 (wrap64 (s5.marks + 1))) tM).set (g := M) (i := 14) (.bool true) tM)
    have e5 := HS5E.out
    subst e5
    rw [HS5.out, doF_44]
    exact ⟨t, V, _, R, FX⟩
  · -- 45
    have k4 : w5.cell? ⟨ob, ol.length * 8 + 4, none⟩ = some (.int .i64 f1.next) := H5.out.topJ hov 4 (by omega)
    have z4 : w5.frozen? ⟨ob, ol.length * 8 + 4, none⟩ = false := H5.out.frzO hov _
    go_wp2_with fail
    have tO : 2 < t ob := by have := H5.out.ho.tag ob (by rw [hov]; rfl); omega
    refine bodyPost_end (results_none rfl _ _ _) rfl ⟨rfl, ?_⟩
    have R := H5.out.next' hov imm
    have FX := (HF5.out.set (g := ob) (i := ol.length * 8 + 4) (.int .i64 imm) tO)
    have e5 := HS5E.out
    subst e5
    rw [HS5.out, doF_45]
    exact ⟨t, V, _, R, FX⟩
  · -- 46
    have k4 : w5.cell? ⟨ob, ol.length * 8 + 4, none⟩ = some (.int .i64 f1.next) := H5.out.topJ hov 4 (by omega)
    have z4 : w5.frozen? ⟨ob, ol.length * 8 + 4, none⟩ = false := H5.out.frzO hov _
    cases hz : (gA == 0)
    case true =>
      go_wp2_with fail
      have tO : 2 < t ob := by have := H5.out.ho.tag ob (by rw [hov]; rfl); omega
      refine bodyPost_end (results_none rfl _ _ _) rfl ⟨rfl, ?_⟩
      have R := H5.out.next' hov imm
      have FX := (HF5.out.set (g := ob) (i := ol.length * 8 + 4) (.int .i64 imm) tO)
      have e5 := HS5E.out
      subst e5
      rw [HS5.out, doF_46, HGA.out, hz, if_pos rfl]
      exact ⟨t, V, _, R, FX⟩
    case false =>
      go_wp2_with fail
      refine bodyPost_end (results_none rfl _ _ _) rfl ⟨rfl, ?_⟩
      have R := H5.out
      have FX := HF5.out
      have e5 := HS5E.out
      subst e5
      rw [HS5.out, doF_46, HGA.out, hz, if_neg (by decide)]
      exact ⟨t, V, _, R, FX⟩
end Go.Proofs.Ytgjmdcbdkdmceaa.Mach
