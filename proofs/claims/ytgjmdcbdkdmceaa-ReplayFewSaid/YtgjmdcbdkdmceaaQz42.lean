/- The document's machine: a step that goes wrong by what the image is (the address, the slots). Printed by gen_rbad.py. -/
import Derived.Test.YtgjmdcbdkdmceaaQz37
import Derived.Test.YtgjmdcbdkdmceaaQz43
import Derived.Deep.DeepCutAuto
import Derived.Deep.RegionHeld3
import Derived.Deep.RegionLaw
import Derived.StillTailTactics
import Derived.Test.YtgjmdcbdkdmceaaQz39
import Derived.Test.YtgjmdcbdkdmceaaQZc
import Derived.Test.YtgjmdcbdkdmceaaQZD
import Derived.Test.YtgjmdcbdkdmceaaQz38
import Derived.Test.YtgjmdcbdkdmceaaQZz
import Derived.Test.YtgjmdcbdkdmceaaQZw
import Derived.Test.YtgjmdcbdkdmceaaQZt
import Derived.Test.YtgjmdcbdkdmceaaQZr
import Derived.Test.YtgjmdcbdkdmceaaQZs
import Derived.Test.YtgjmdcbdkdmceaaQ16
import Derived.Test.YtgjmdcbdkdmceaaQz44
import Derived.Deep.LoopGhost
import Derived.IntWalk
namespace Go.Proofs.Ytgjmdcbdkdmceaa.Mach
open Go.RowKit

theorem stepF_bad {E : Env} {s : St} {ol : List (Fr × CV)} {f : Fr} {cv : CV} (hopn : s.opn = (ol ++ [(f, cv)]).map Prod.fst) (hb : (!slotsOk (E.ent f.fn).2 || decide (f.next < 0) || decide ((E.ws.length : Int) ≤ f.next)) = true) :
    stepF E s = (({ s with steps := wrap64 (s.steps + 1), at_ := f.next } : St).ends 8, 0) := by
  have e0 : s.opn = ol.map Prod.fst ++ [f] := by rw [hopn]; simp
  unfold stepF
  rw [e0, List.getLast?_append]
  simp only [List.getLast?_singleton, Option.some_or, hb, if_true]
theorem stepF_unform {E : Env} {s : St} {ol : List (Fr × CV)} {f : Fr} {cv : CV} {x : W} (hopn : s.opn = (ol ++ [(f, cv)]).map Prod.fst) (hb1 : slotsOk (E.ent f.fn).2 = true) (hn0 : 0 ≤ f.next) (hn1 : f.next < E.ws.length) (hx : x = E.ws.getD f.next.toNat W.zero) (hform : formB x = false) :
    stepF E s = ((({ s with steps := wrap64 (s.steps + 1), at_ := f.next } : St).ends 8).top (ol.map Prod.fst) { f with next := f.next + 1 }, 0) := by
  have e0 : s.opn = ol.map Prod.fst ++ [f] := by rw [hopn]; simp
  have d0 : decide (f.next < 0) = false := decide_eq_false (by omega)
  have d1 : decide ((E.ws.length : Int) ≤ f.next) = false := decide_eq_false (by omega)
  unfold stepF
  rw [e0, List.getLast?_append]
  simp only [List.getLast?_singleton, Option.some_or, hb1, d0, d1, Bool.not_true, Bool.or_self, Bool.false_eq_true, if_false, List.dropLast_concat, ← hx, hform]

set_option maxRecDepth 100000 in
set_option maxHeartbeats 4000000 in
theorem rstep_o1 (w : World) (t : Nat → Nat) (base M : Nat) (E : Env) (V : RV) (ol : List (Fr × CV)) (f : Fr) (cv : CV) (s : St) (mk : Bool) (h : RRep w t base M E V (ol ++ [(f, cv)]) s mk) (hol : ol.length ≤ 99)
    (hf0 : 0 ≤ f.fn) (hf1 : f.fn < E.es.length) (_hel : E.es.length ≤ 1000000) (_hwl : E.ws.length ≤ 1000000) (hb1 : slotsOk (E.ent f.fn).2 = false) :
    Calls Try.prog 69 #[.pointer (some ⟨M, 0, none⟩)] w fun e w' => e = .returned (.tuple #[]) ∧ RPost w t base M E (stepF E s).1 ((stepF E s).2 == 44) w' := by
  obtain ⟨ob, oc, hov, hoc, hob, tob, nOM, zo, hoj⟩ := h.topC
  have k4 : w.cell? ⟨ob, ol.length * 8 + 4, none⟩ = some (.int .i64 f.next) := hoj 4 (by omega)
  have m6 : w.cell? ⟨M, 6, none⟩ = some (.slice (some ⟨ob, 0, none⟩) (ol.length + 1) oc) := (h.cellM 6).trans (by rw [(rC_get V s mk).2.2.2.2.1, hov])
  have m11 : w.cell? ⟨M, 11, none⟩ = some (.int .i64 s.steps) := (h.cellM 11).trans (rC_get V s mk).2.2.2.2.2.2.2.2.2.1
  have m13 : w.cell? ⟨M, 13, none⟩ = some (.int .i64 s.at_) := (h.cellM 13).trans (rC_get V s mk).2.2.2.2.2.2.2.2.2.2.2.1
  have m14 : w.cell? ⟨M, 14, none⟩ = some (.bool mk) := (h.cellM 14).trans (rC_get V s mk).2.2.2.2.2.2.2.2.2.2.2.2
  have z11 := h.frzM 11
  have z13 := h.frzM 13
  have z14 := h.frzM 14
  have nMO : ¬ M = ob := fun e => nOM e.symm
  have hlM : M < w.heap.size := (Array.getElem?_eq_some_iff.1 h.hm).1
  have mixed : Try.prog.follows Departure.mixedOrders = true := by kernel_rfl
  have H := Lib.hid h
  clear h hoj zo tob
  go_enter Try.func69, Try.ntmps69
  go_wp2_with fail
  go_quiet (fail)
  go_wp2_with fail
  obtain ⟨w1, hw1⟩ : ∃ w1, w1 = ((((w.setCell ⟨M, 14, none⟩ (.bool false)).setCell ⟨M, 11, none⟩ (.int .i64 (wrap64 (s.steps + 1)))).drewN nq).setCell ⟨M, 13, none⟩ (.int .i64 f.next)) := ⟨_, rfl⟩
  rw [← hw1]
  obtain ⟨s1, hs1⟩ : ∃ s1 : St, s1 = { s with steps := wrap64 (s.steps + 1), at_ := f.next } := ⟨_, rfl⟩
  have H1 : Hid (RRep w1 t base M E V (ol ++ [(f, cv)]) s1 false) := by
    rw [hw1, hs1]
    exact (((H.out.mk' false).steps' _).drew nq).at' _
  have HF1 : Hid (Fx w w1 t t) := by
    have tm := H.out.tm
    rw [hw1]
    exact ((((Fx.refl w t).set (g := M) (i := 14) (.bool false) (by omega)).set (g := M) (i := 11) (.int .i64 (wrap64 (s.steps + 1))) (by omega)).drewN nq).set (g := M) (i := 13) (.int .i64 f.next) (by omega)
  have HS0 := Lib.hid (stepF_bad (E := E) H.out.opn (by rw [hb1]; rfl))
  have hlM1 : M < w1.heap.size := by rw [hw1]; simpa using hlM
  have hob1 : ob < w1.heap.size := by rw [hw1]; simpa using hob
  clear hw1 m6 m11 m13 m14 z11 z13 z14 k4 hlM hob H
  obtain ⟨ob', oc', hov', _, _, tob, _, zo, hoj⟩ := H1.out.topC
  rw [hov] at hov'
  simp only [Value.slice.injEq, Option.some.injEq, Addr.mk.injEq, and_true, true_and] at hov'
  obtain ⟨rfl, rfl⟩ := hov'
  obtain ⟨wa, wc0, hwv⟩ := Rd.shape H1.out.env.hw
  obtain ⟨eb, eo, ec, hev, -, he2, hleb, -⟩ := H1.out.env.ent hf0 hf1
  obtain ⟨fn, hfn⟩ : ∃ fn : Nat, f.fn = fn := ⟨f.fn.toNat, by omega⟩
  rw [hfn] at hb1
  rw [hfn, Int.toNat_natCast] at he2
  have k0 : w1.cell? ⟨ob, ol.length * 8, none⟩ = some (.int .i64 fn) := by rw [← hfn]; exact hoj 0 (by omega)
  have k4 : w1.cell? ⟨ob, ol.length * 8 + 4, none⟩ = some (.int .i64 f.next) := hoj 4 (by omega)
  have m0 : w1.cell? ⟨M, 0, none⟩ = some (.slice wa E.ws.length wc0) := (H1.out.cellM 0).trans (by rw [(rC_get V s1 false).1, hwv])
  have m1 : w1.cell? ⟨M, 1, none⟩ = some (.slice (some ⟨eb, eo, none⟩) E.es.length ec) := (H1.out.cellM 1).trans (by rw [(rC_get V s1 false).2.1, hev])
  have hfnl : fn < E.es.length := by omega
  have HS := Lib.hid (fun n => rslots_any M eb eo E.es.length ec fn (E.ent fn).2 (w1.drewN n) m1 hfnl he2)
  have Hoj := Lib.hid hoj
  clear hoj zo tob he2
  simp only [hb1] at HS
  have m7 : w1.cell? ⟨M, 7, none⟩ = some (.int .u8 s1.end_) := (H1.out.cellM 7).trans (rC_get V s1 false).2.2.2.2.2.1
  have z7 := H1.out.frzM 7
  go_quiet ((go_at_call 50; exact Calls.quiet_of_same (HS.out _)))
  go_wp2_with fail
  have tM : 2 < t M := by have := H1.out.tm; omega
  refine bodyPost_ret (results_none rfl _ _ _) rfl ⟨rfl, ?_⟩
  have R := (H1.out.drew nq).end' 8
  have FX := (HF1.out.drewN nq).set (g := M) (i := 7) (.int .u8 8) tM
  rw [HS0.out]
  rw [hs1] at R
  exact ⟨t, V, _, R, FX⟩
set_option maxRecDepth 100000 in
set_option maxHeartbeats 4000000 in
theorem rstep_o2 (w : World) (t : Nat → Nat) (base M : Nat) (E : Env) (V : RV) (ol : List (Fr × CV)) (f : Fr) (cv : CV) (s : St) (mk : Bool) (h : RRep w t base M E V (ol ++ [(f, cv)]) s mk) (hol : ol.length ≤ 99)
    (hf0 : 0 ≤ f.fn) (hf1 : f.fn < E.es.length) (_hel : E.es.length ≤ 1000000) (_hwl : E.ws.length ≤ 1000000) (hb1 : slotsOk (E.ent f.fn).2 = true) (hn : f.next < 0) :
    Calls Try.prog 69 #[.pointer (some ⟨M, 0, none⟩)] w fun e w' => e = .returned (.tuple #[]) ∧ RPost w t base M E (stepF E s).1 ((stepF E s).2 == 44) w' := by
  obtain ⟨ob, oc, hov, hoc, hob, tob, nOM, zo, hoj⟩ := h.topC
  have k4 : w.cell? ⟨ob, ol.length * 8 + 4, none⟩ = some (.int .i64 f.next) := hoj 4 (by omega)
  have m6 : w.cell? ⟨M, 6, none⟩ = some (.slice (some ⟨ob, 0, none⟩) (ol.length + 1) oc) := (h.cellM 6).trans (by rw [(rC_get V s mk).2.2.2.2.1, hov])
  have m11 : w.cell? ⟨M, 11, none⟩ = some (.int .i64 s.steps) := (h.cellM 11).trans (rC_get V s mk).2.2.2.2.2.2.2.2.2.1
  have m13 : w.cell? ⟨M, 13, none⟩ = some (.int .i64 s.at_) := (h.cellM 13).trans (rC_get V s mk).2.2.2.2.2.2.2.2.2.2.2.1
  have m14 : w.cell? ⟨M, 14, none⟩ = some (.bool mk) := (h.cellM 14).trans (rC_get V s mk).2.2.2.2.2.2.2.2.2.2.2.2
  have z11 := h.frzM 11
  have z13 := h.frzM 13
  have z14 := h.frzM 14
  have nMO : ¬ M = ob := fun e => nOM e.symm
  have hlM : M < w.heap.size := (Array.getElem?_eq_some_iff.1 h.hm).1
  have mixed : Try.prog.follows Departure.mixedOrders = true := by kernel_rfl
  have H := Lib.hid h
  clear h hoj zo tob
  go_enter Try.func69, Try.ntmps69
  go_wp2_with fail
  go_quiet (fail)
  go_wp2_with fail
  obtain ⟨w1, hw1⟩ : ∃ w1, w1 = ((((w.setCell ⟨M, 14, none⟩ (.bool false)).setCell ⟨M, 11, none⟩ (.int .i64 (wrap64 (s.steps + 1)))).drewN nq).setCell ⟨M, 13, none⟩ (.int .i64 f.next)) := ⟨_, rfl⟩
  rw [← hw1]
  obtain ⟨s1, hs1⟩ : ∃ s1 : St, s1 = { s with steps := wrap64 (s.steps + 1), at_ := f.next } := ⟨_, rfl⟩
  have H1 : Hid (RRep w1 t base M E V (ol ++ [(f, cv)]) s1 false) := by
    rw [hw1, hs1]
    exact (((H.out.mk' false).steps' _).drew nq).at' _
  have HF1 : Hid (Fx w w1 t t) := by
    have tm := H.out.tm
    rw [hw1]
    exact ((((Fx.refl w t).set (g := M) (i := 14) (.bool false) (by omega)).set (g := M) (i := 11) (.int .i64 (wrap64 (s.steps + 1))) (by omega)).drewN nq).set (g := M) (i := 13) (.int .i64 f.next) (by omega)
  have HS0 := Lib.hid (stepF_bad (E := E) H.out.opn (by rw [hb1, decide_eq_true hn]; rfl))
  have hlM1 : M < w1.heap.size := by rw [hw1]; simpa using hlM
  have hob1 : ob < w1.heap.size := by rw [hw1]; simpa using hob
  clear hw1 m6 m11 m13 m14 z11 z13 z14 k4 hlM hob H
  obtain ⟨ob', oc', hov', _, _, tob, _, zo, hoj⟩ := H1.out.topC
  rw [hov] at hov'
  simp only [Value.slice.injEq, Option.some.injEq, Addr.mk.injEq, and_true, true_and] at hov'
  obtain ⟨rfl, rfl⟩ := hov'
  obtain ⟨wa, wc0, hwv⟩ := Rd.shape H1.out.env.hw
  obtain ⟨eb, eo, ec, hev, -, he2, hleb, -⟩ := H1.out.env.ent hf0 hf1
  obtain ⟨fn, hfn⟩ : ∃ fn : Nat, f.fn = fn := ⟨f.fn.toNat, by omega⟩
  rw [hfn] at hb1
  rw [hfn, Int.toNat_natCast] at he2
  have k0 : w1.cell? ⟨ob, ol.length * 8, none⟩ = some (.int .i64 fn) := by rw [← hfn]; exact hoj 0 (by omega)
  have k4 : w1.cell? ⟨ob, ol.length * 8 + 4, none⟩ = some (.int .i64 f.next) := hoj 4 (by omega)
  have m0 : w1.cell? ⟨M, 0, none⟩ = some (.slice wa E.ws.length wc0) := (H1.out.cellM 0).trans (by rw [(rC_get V s1 false).1, hwv])
  have m1 : w1.cell? ⟨M, 1, none⟩ = some (.slice (some ⟨eb, eo, none⟩) E.es.length ec) := (H1.out.cellM 1).trans (by rw [(rC_get V s1 false).2.1, hev])
  have hfnl : fn < E.es.length := by omega
  have HS := Lib.hid (fun n => rslots_any M eb eo E.es.length ec fn (E.ent fn).2 (w1.drewN n) m1 hfnl he2)
  have Hoj := Lib.hid hoj
  clear hoj zo tob he2
  simp only [hb1] at HS
  have d0 : decide (f.next < 0) = true := decide_eq_true hn
  have m7 : w1.cell? ⟨M, 7, none⟩ = some (.int .u8 s1.end_) := (H1.out.cellM 7).trans (rC_get V s1 false).2.2.2.2.2.1
  have z7 := H1.out.frzM 7
  go_quiet ((go_at_call 50; exact Calls.quiet_of_same (HS.out _)))
  go_wp2_with fail
  have tM : 2 < t M := by have := H1.out.tm; omega
  refine bodyPost_ret (results_none rfl _ _ _) rfl ⟨rfl, ?_⟩
  have R := (H1.out.drew nq).end' 8
  have FX := (HF1.out.drewN nq).set (g := M) (i := 7) (.int .u8 8) tM
  rw [HS0.out]
  rw [hs1] at R
  exact ⟨t, V, _, R, FX⟩
set_option maxRecDepth 100000 in
set_option maxHeartbeats 4000000 in
theorem rstep_o3 (w : World) (t : Nat → Nat) (base M : Nat) (E : Env) (V : RV) (ol : List (Fr × CV)) (f : Fr) (cv : CV) (s : St) (mk : Bool) (h : RRep w t base M E V (ol ++ [(f, cv)]) s mk) (hol : ol.length ≤ 99)
    (hf0 : 0 ≤ f.fn) (hf1 : f.fn < E.es.length) (_hel : E.es.length ≤ 1000000) (_hwl : E.ws.length ≤ 1000000) (hb1 : slotsOk (E.ent f.fn).2 = true) (hn0 : 0 ≤ f.next) (hn : (E.ws.length : Int) ≤ f.next) :
    Calls Try.prog 69 #[.pointer (some ⟨M, 0, none⟩)] w fun e w' => e = .returned (.tuple #[]) ∧ RPost w t base M E (stepF E s).1 ((stepF E s).2 == 44) w' := by
  obtain ⟨ob, oc, hov, hoc, hob, tob, nOM, zo, hoj⟩ := h.topC
  have k4 : w.cell? ⟨ob, ol.length * 8 + 4, none⟩ = some (.int .i64 f.next) := hoj 4 (by omega)
  have m6 : w.cell? ⟨M, 6, none⟩ = some (.slice (some ⟨ob, 0, none⟩) (ol.length + 1) oc) := (h.cellM 6).trans (by rw [(rC_get V s mk).2.2.2.2.1, hov])
  have m11 : w.cell? ⟨M, 11, none⟩ = some (.int .i64 s.steps) := (h.cellM 11).trans (rC_get V s mk).2.2.2.2.2.2.2.2.2.1
  have m13 : w.cell? ⟨M, 13, none⟩ = some (.int .i64 s.at_) := (h.cellM 13).trans (rC_get V s mk).2.2.2.2.2.2.2.2.2.2.2.1
  have m14 : w.cell? ⟨M, 14, none⟩ = some (.bool mk) := (h.cellM 14).trans (rC_get V s mk).2.2.2.2.2.2.2.2.2.2.2.2
  have z11 := h.frzM 11
  have z13 := h.frzM 13
  have z14 := h.frzM 14
  have nMO : ¬ M = ob := fun e => nOM e.symm
  have hlM : M < w.heap.size := (Array.getElem?_eq_some_iff.1 h.hm).1
  have mixed : Try.prog.follows Departure.mixedOrders = true := by kernel_rfl
  have H := Lib.hid h
  clear h hoj zo tob
  go_enter Try.func69, Try.ntmps69
  go_wp2_with fail
  go_quiet (fail)
  go_wp2_with fail
  obtain ⟨w1, hw1⟩ : ∃ w1, w1 = ((((w.setCell ⟨M, 14, none⟩ (.bool false)).setCell ⟨M, 11, none⟩ (.int .i64 (wrap64 (s.steps + 1)))).drewN nq).setCell ⟨M, 13, none⟩ (.int .i64 f.next)) := ⟨_, rfl⟩
  rw [← hw1]
  obtain ⟨s1, hs1⟩ : ∃ s1 : St, s1 = { s with steps := wrap64 (s.steps + 1), at_ := f.next } := ⟨_, rfl⟩
  have H1 : Hid (RRep w1 t base M E V (ol ++ [(f, cv)]) s1 false) := by
    rw [hw1, hs1]
    exact (((H.out.mk' false).steps' _).drew nq).at' _
  have HF1 : Hid (Fx w w1 t t) := by
    have tm := H.out.tm
    rw [hw1]
    exact ((((Fx.refl w t).set (g := M) (i := 14) (.bool false) (by omega)).set (g := M) (i := 11) (.int .i64 (wrap64 (s.steps + 1))) (by omega)).drewN nq).set (g := M) (i := 13) (.int .i64 f.next) (by omega)
  have HS0 := Lib.hid (stepF_bad (E := E) H.out.opn (by rw [hb1, decide_eq_true hn]; simp))
  have hlM1 : M < w1.heap.size := by rw [hw1]; simpa using hlM
  have hob1 : ob < w1.heap.size := by rw [hw1]; simpa using hob
  clear hw1 m6 m11 m13 m14 z11 z13 z14 k4 hlM hob H
  obtain ⟨ob', oc', hov', _, _, tob, _, zo, hoj⟩ := H1.out.topC
  rw [hov] at hov'
  simp only [Value.slice.injEq, Option.some.injEq, Addr.mk.injEq, and_true, true_and] at hov'
  obtain ⟨rfl, rfl⟩ := hov'
  obtain ⟨wa, wc0, hwv⟩ := Rd.shape H1.out.env.hw
  obtain ⟨eb, eo, ec, hev, -, he2, hleb, -⟩ := H1.out.env.ent hf0 hf1
  obtain ⟨fn, hfn⟩ : ∃ fn : Nat, f.fn = fn := ⟨f.fn.toNat, by omega⟩
  rw [hfn] at hb1
  rw [hfn, Int.toNat_natCast] at he2
  have k0 : w1.cell? ⟨ob, ol.length * 8, none⟩ = some (.int .i64 fn) := by rw [← hfn]; exact hoj 0 (by omega)
  have k4 : w1.cell? ⟨ob, ol.length * 8 + 4, none⟩ = some (.int .i64 f.next) := hoj 4 (by omega)
  have m0 : w1.cell? ⟨M, 0, none⟩ = some (.slice wa E.ws.length wc0) := (H1.out.cellM 0).trans (by rw [(rC_get V s1 false).1, hwv])
  have m1 : w1.cell? ⟨M, 1, none⟩ = some (.slice (some ⟨eb, eo, none⟩) E.es.length ec) := (H1.out.cellM 1).trans (by rw [(rC_get V s1 false).2.1, hev])
  have hfnl : fn < E.es.length := by omega
  have HS := Lib.hid (fun n => rslots_any M eb eo E.es.length ec fn (E.ent fn).2 (w1.drewN n) m1 hfnl he2)
  have Hoj := Lib.hid hoj
  clear hoj zo tob he2
  simp only [hb1] at HS
  have d0 : decide (f.next < 0) = false := decide_eq_false (by omega)
  have d1 : decide ((E.ws.length : Int) ≤ f.next) = true := decide_eq_true hn
  have m7 : w1.cell? ⟨M, 7, none⟩ = some (.int .u8 s1.end_) := (H1.out.cellM 7).trans (rC_get V s1 false).2.2.2.2.2.1
  have z7 := H1.out.frzM 7
  go_quiet ((go_at_call 50; exact Calls.quiet_of_same (HS.out _)))
  go_wp2_with fail
  have tM : 2 < t M := by have := H1.out.tm; omega
  refine bodyPost_ret (results_none rfl _ _ _) rfl ⟨rfl, ?_⟩
  have R := (H1.out.drew nq).end' 8
  have FX := (HF1.out.drewN nq).set (g := M) (i := 7) (.int .u8 8) tM
  rw [HS0.out]
  rw [hs1] at R
  exact ⟨t, V, _, R, FX⟩
end Go.Proofs.Ytgjmdcbdkdmceaa.Mach

/- The document's machine: a step that goes wrong by what the image is (no instruction). Printed by gen_rbad.py. -/
namespace Go.Proofs.Ytgjmdcbdkdmceaa.Mach
open Go.RowKit

set_option maxRecDepth 100000 in
set_option maxHeartbeats 4000000 in
theorem rstep_p (w : World) (t : Nat → Nat) (base M : Nat) (E : Env) (V : RV) (ol : List (Fr × CV)) (f : Fr) (cv : CV) (s : St) (mk : Bool) (h : RRep w t base M E V (ol ++ [(f, cv)]) s mk) (hol : ol.length ≤ 99)
    (hf0 : 0 ≤ f.fn) (hf1 : f.fn < E.es.length) (_hel : E.es.length ≤ 1000000) (_hwl : E.ws.length ≤ 1000000) (hb1 : slotsOk (E.ent f.fn).2 = true) (hn0 : 0 ≤ f.next) (hn1 : f.next < E.ws.length) (x : W) (hx : x = E.ws.getD f.next.toNat W.zero) (hok : x.ok) (hform : formB x = false) :
    Calls Try.prog 69 #[.pointer (some ⟨M, 0, none⟩)] w fun e w' => e = .returned (.tuple #[]) ∧ RPost w t base M E (stepF E s).1 ((stepF E s).2 == 44) w' := by
  obtain ⟨ob, oc, hov, hoc, hob, tob, nOM, zo, hoj⟩ := h.topC
  have k4 : w.cell? ⟨ob, ol.length * 8 + 4, none⟩ = some (.int .i64 f.next) := hoj 4 (by omega)
  have m6 : w.cell? ⟨M, 6, none⟩ = some (.slice (some ⟨ob, 0, none⟩) (ol.length + 1) oc) := (h.cellM 6).trans (by rw [(rC_get V s mk).2.2.2.2.1, hov])
  have m11 : w.cell? ⟨M, 11, none⟩ = some (.int .i64 s.steps) := (h.cellM 11).trans (rC_get V s mk).2.2.2.2.2.2.2.2.2.1
  have m13 : w.cell? ⟨M, 13, none⟩ = some (.int .i64 s.at_) := (h.cellM 13).trans (rC_get V s mk).2.2.2.2.2.2.2.2.2.2.2.1
  have m14 : w.cell? ⟨M, 14, none⟩ = some (.bool mk) := (h.cellM 14).trans (rC_get V s mk).2.2.2.2.2.2.2.2.2.2.2.2
  have z11 := h.frzM 11
  have z13 := h.frzM 13
  have z14 := h.frzM 14
  have nMO : ¬ M = ob := fun e => nOM e.symm
  have hlM : M < w.heap.size := (Array.getElem?_eq_some_iff.1 h.hm).1
  have mixed : Try.prog.follows Departure.mixedOrders = true := by kernel_rfl
  have H := Lib.hid h
  clear h hoj zo tob
  go_enter Try.func69, Try.ntmps69
  go_wp2_with fail
  go_quiet (fail)
  go_wp2_with fail
  obtain ⟨w1, hw1⟩ : ∃ w1, w1 = ((((w.setCell ⟨M, 14, none⟩ (.bool false)).setCell ⟨M, 11, none⟩ (.int .i64 (wrap64 (s.steps + 1)))).drewN nq).setCell ⟨M, 13, none⟩ (.int .i64 f.next)) := ⟨_, rfl⟩
  rw [← hw1]
  obtain ⟨s1, hs1⟩ : ∃ s1 : St, s1 = { s with steps := wrap64 (s.steps + 1), at_ := f.next } := ⟨_, rfl⟩
  have H1 : Hid (RRep w1 t base M E V (ol ++ [(f, cv)]) s1 false) := by
    rw [hw1, hs1]
    exact (((H.out.mk' false).steps' _).drew nq).at' _
  have HF1 : Hid (Fx w w1 t t) := by
    have tm := H.out.tm
    rw [hw1]
    exact ((((Fx.refl w t).set (g := M) (i := 14) (.bool false) (by omega)).set (g := M) (i := 11) (.int .i64 (wrap64 (s.steps + 1))) (by omega)).drewN nq).set (g := M) (i := 13) (.int .i64 f.next) (by omega)
  have HS0 := Lib.hid (stepF_unform H.out.opn hb1 hn0 hn1 hx hform)
  have hlM1 : M < w1.heap.size := by rw [hw1]; simpa using hlM
  have hob1 : ob < w1.heap.size := by rw [hw1]; simpa using hob
  clear hw1 m6 m11 m13 m14 z11 z13 z14 k4 hlM hob H
  obtain ⟨ob', oc', hov', _, _, tob, _, zo, hoj⟩ := H1.out.topC
  rw [hov] at hov'
  simp only [Value.slice.injEq, Option.some.injEq, Addr.mk.injEq, and_true, true_and] at hov'
  obtain ⟨rfl, rfl⟩ := hov'
  obtain ⟨wa, wc0, hwv⟩ := Rd.shape H1.out.env.hw
  obtain ⟨eb, eo, ec, hev, -, he2, hleb, -⟩ := H1.out.env.ent hf0 hf1
  obtain ⟨fn, hfn⟩ : ∃ fn : Nat, f.fn = fn := ⟨f.fn.toNat, by omega⟩
  rw [hfn] at hb1
  rw [hfn, Int.toNat_natCast] at he2
  have k0 : w1.cell? ⟨ob, ol.length * 8, none⟩ = some (.int .i64 fn) := by rw [← hfn]; exact hoj 0 (by omega)
  have k4 : w1.cell? ⟨ob, ol.length * 8 + 4, none⟩ = some (.int .i64 f.next) := hoj 4 (by omega)
  have m0 : w1.cell? ⟨M, 0, none⟩ = some (.slice wa E.ws.length wc0) := (H1.out.cellM 0).trans (by rw [(rC_get V s1 false).1, hwv])
  have m1 : w1.cell? ⟨M, 1, none⟩ = some (.slice (some ⟨eb, eo, none⟩) E.es.length ec) := (H1.out.cellM 1).trans (by rw [(rC_get V s1 false).2.1, hev])
  have hfnl : fn < E.es.length := by omega
  have HS := Lib.hid (fun n => rslots_any M eb eo E.es.length ec fn (E.ent fn).2 (w1.drewN n) m1 hfnl he2)
  have Hoj := Lib.hid hoj
  clear hoj zo tob he2
  simp only [hb1] at HS
  have d0 : decide (f.next < 0) = false := decide_eq_false (by omega)
  have d1 : decide ((E.ws.length : Int) ≤ f.next) = false := decide_eq_false (by omega)
  go_quiet ((go_at_call 50; exact Calls.quiet_of_same (HS.out _)))
  go_wp2_with fail
  obtain ⟨w2, hw2⟩ : ∃ w2, w2 = w1.drewN nq := ⟨_, rfl⟩
  rw [← hw2]
  have H2 : Hid (RRep w2 t base M E V (ol ++ [(f, cv)]) s1 false) := by rw [hw2]; exact H1.out.drew nq
  have HF2 : Hid (Fx w w2 t t) := by rw [hw2]; exact HF1.out.drewN nq
  have hsz : w2.heap.size = w1.heap.size := by rw [hw2]; rfl
  rw [← hsz] at hlM1 hob1 hleb
  have m0' : w2.cell? ⟨M, 0, none⟩ = some (.slice wa E.ws.length wc0) := by rw [hw2]; exact m0
  have k4' : w2.cell? ⟨ob, ol.length * 8 + 4, none⟩ = some (.int .i64 f.next) := by rw [hw2]; exact k4
  have Hoj' : Hid (∀ j, j < 8 → w2.cell? ⟨ob, ol.length * 8 + j, none⟩ = (callC (f, cv))[j]?) := by rw [hw2]; exact Hoj.out
  clear HS m0 k4 k0 m1 hsz Hoj H1 hw2
  obtain ⟨wb, wo, wc, hwv', x0, x1, x2, x3, x4, hlwb, -⟩ := H2.out.env.word hn0 hn1
  obtain ⟨nx, hnx⟩ : ∃ nx : Nat, f.next = nx := ⟨f.next.toNat, by omega⟩
  rw [← hx] at x0 x1 x2 x3 x4
  rw [hnx, Int.toNat_natCast] at x0 x1 x2 x3 x4
  rw [hwv] at hwv'
  simp only [Value.slice.injEq, true_and] at hwv'
  obtain ⟨rfl, rfl⟩ := hwv'
  rw [hnx] at k4'
  have hnx0 : (0 : Int) ≤ (nx : Int) := by omega
  have hnx1 : (nx : Int) < (E.ws.length : Int) := by omega
  have k1' : w2.cell? ⟨ob, ol.length * 8 + 1, none⟩ = some (.int .i64 cv.at_) := Hoj'.out 1 (by omega)
  have z1 : w2.frozen? ⟨ob, ol.length * 8 + 1, none⟩ = false := ofrz (hov ▸ H2.out.ho.own) _
  have z4 : w2.frozen? ⟨ob, ol.length * 8 + 4, none⟩ = false := ofrz (hov ▸ H2.out.ho.own) _
  rw [hnx] at hx
  rw [Int.toNat_natCast] at hx
  have HX : Hid _ := hx
  obtain ⟨op, xa, xb, xc, imm⟩ := x
  obtain ⟨⟨p0, p1⟩, ⟨pa, pa'⟩, ⟨pb, pb'⟩, ⟨pc, pc'⟩, ⟨pi, pi'⟩⟩ : (0 ≤ op ∧ op ≤ 255) ∧ (0 ≤ xa ∧ xa ≤ 255) ∧ (0 ≤ xb ∧ xb ≤ 255) ∧ (0 ≤ xc ∧ xc ≤ 255) ∧ (-9223372036854775808 ≤ imm ∧ imm ≤ 9223372036854775807) := hok
  simp only at x0 x1 x2 x3 x4
  clear hx
  go_upto_region 6 with fail
  go_region
  all_goals go_wp2_with fail
  obtain ⟨w3, hw3⟩ : ∃ w3, w3 = (((w2.setCell ⟨ob, ol.length * 8 + 1, none⟩ (.int .i64 nx)).setCell ⟨ob, ol.length * 8 + 4, none⟩ (.int .i64 (nx + 1))).alloc (.cells #[.int .u8 op, .int .u8 xa, .int .u8 xb, .int .u8 xc, .int .i64 imm] 73)).drew := ⟨_, rfl⟩
  rw [← hw3]
  have hsz3 : w3.heap.size = w2.heap.size + 1 := by rw [hw3]; simp
  have H3 : Hid (RRep w3 t base M E V (ol ++ [({ f with next := nx + 1 }, { cv with at_ := nx })]) (s1.top (ol.map Prod.fst) { f with next := nx + 1 }) false) := by
    rw [hw3]
    exact ((H2.out.atc' hov nx).next' hov (nx + 1)).below (((Below.refl _ _).alloc (Nat.le_refl _) _).drew)
  have hltw : ∀ k, t k ≠ 0 → k < w2.heap.size := H2.out.lt
  have HF3 : Hid (Fx w w3 t t) := by
    have tob : t ob = 4 := H2.out.ho.tag ob (by simp [hov, Value.ownBlock])
    rw [hw3]
    exact ((HF2.out.set (g := ob) (i := ol.length * 8 + 1) (.int .i64 nx) (by omega)).set (g := ob) (i := ol.length * 8 + 4) (.int .i64 (nx + 1)) (by omega)).later (((Below.refl _ _).alloc (Nat.le_refl _) _).drew)
  have hx3 : w3.heap[w2.heap.size]? = some (.cells #[.int .u8 op, .int .u8 xa, .int .u8 xb, .int .u8 xc, .int .i64 imm] 73 (0, 0)) := by
    rw [hw3]
    have := heap_alloc_new ((w2.setCell ⟨ob, ol.length * 8 + 1, none⟩ (.int .i64 nx)).setCell ⟨ob, ol.length * 8 + 4, none⟩ (.int .i64 (nx + 1))) (.cells #[.int .u8 op, .int .u8 xa, .int .u8 xb, .int .u8 xc, .int .i64 imm] 73)
    simp only [World.size_setCell] at this
    exact this
  clear hw3 x0 x1 x2 x3 x4 k1' k4' z1 z4 m0' Hoj' H2
  refine (refForm_any op xa xb xc imm w3 p0 p1 pa pb pc pi' pi).mono ?_
  rintro e w4 ⟨rfl, hb4⟩
  rw [hform]
  have H4 := Lib.hid (H3.out.below hb4)
  have HF4 : Hid (Fx w w4 t t) := HF3.out.later hb4
  have m7 : w4.cell? ⟨M, 7, none⟩ = some (.int .u8 s1.end_) := (H4.out.cellM 7).trans (rC_get V _ false).2.2.2.2.2.1
  have z7 := H4.out.frzM 7
  have hlM4 : M < w4.heap.size := (Array.getElem?_eq_some_iff.1 H4.out.hm).1
  clear hx3 hb4 H3 hsz3
  go_wp2_with fail
  have tM : 2 < t M := by have := H4.out.tm; omega
  refine bodyPost_ret (results_none rfl _ _ _) rfl ⟨rfl, ?_⟩
  have R := H4.out.end' 8
  have FX := HF4.out.set (g := M) (i := 7) (.int .u8 8) tM
  rw [HS0.out]
  rw [hs1, ← hnx] at R
  exact ⟨t, V, _, R, FX⟩
end Go.Proofs.Ytgjmdcbdkdmceaa.Mach

/- The document's machine: a step, whatever it is; so many steps. -/
namespace Go.Proofs.Ytgjmdcbdkdmceaa.Mach
open Go.RowKit

theorem rrep_last {w : World} {t : Nat → Nat} {base M : Nat} {E : Env} {V : RV} {cl : List (Fr × CV)} {s : St} {mk : Bool} (h : RRep w t base M E V cl s mk) (hne : s.opn ≠ []) : ∃ ol f cv, cl = ol ++ [(f, cv)] := by
  rcases List.eq_nil_or_concat cl with e | ⟨ol, p, e⟩
  · have := h.opn; rw [e] at this; exact absurd this hne
  · exact ⟨ol, p.1, p.2, by rw [e, List.concat_eq_append]⟩

set_option maxHeartbeats 1000000 in
/-- A step of the document's machine is a step of the plain one. -/
theorem rstep_any (w : World) (t : Nat → Nat) (base M : Nat) (E : Env) (V : RV) (cl : List (Fr × CV)) (s : St) (mk : Bool) (h : RRep w t base M E V cl s mk) (hE : EnvOk E) (L : Nat) (hs : Sane E L s) (hL : L ≤ 1000000) (h0 : s.end_ = 0) :
    Calls Try.prog 69 #[.pointer (some ⟨M, 0, none⟩)] w fun e w' => e = .returned (.tuple #[]) ∧ RPost w t base M E (stepF E s).1 ((stepF E s).2 == 44) w' := by
  have hne : s.opn ≠ [] := fun e => by have := hs.o.1 e; omega
  obtain ⟨ol, f, cv, rfl⟩ := rrep_last h hne
  have hlen : ol.length ≤ 99 := by
    have h1 := hs.n
    rw [h.opn] at h1
    simp at h1; omega
  have hf : FrOk E f := hs.fr f (by rw [h.opn]; simp)
  have hxl : s.outs.length ≤ 1000000 := Nat.le_trans hs.xl hL
  cases hb : slotsOk (E.ent f.fn).2
  · exact rstep_o1 w t base M E V ol f cv s mk h hlen hf.fn.1 hf.fn.2 hE.el hE.wl hb
  by_cases hn0 : f.next < 0
  · exact rstep_o2 w t base M E V ol f cv s mk h hlen hf.fn.1 hf.fn.2 hE.el hE.wl hb hn0
  by_cases hn1 : (E.ws.length : Int) ≤ f.next
  · exact rstep_o3 w t base M E V ol f cv s mk h hlen hf.fn.1 hf.fn.2 hE.el hE.wl hb (by omega) hn1
  have hn0' : 0 ≤ f.next := by omega
  have hn1' : f.next < E.ws.length := by omega
  obtain ⟨x, hx⟩ : ∃ x, x = E.ws.getD f.next.toNat W.zero := ⟨_, rfl⟩
  have hok : x.ok := by rw [hx]; exact hE.ws _ (ws_mem hn0' hn1')
  cases hform : formB x
  · exact rstep_p w t base M E V ol f cv s mk h hlen hf.fn.1 hf.fn.2 hE.el hE.wl hb hn0' hn1' x hx hok hform
  have hrg : ∀ j, -9223372036854775808 ≤ f.regs.getD j 0 ∧ f.regs.getD j 0 ≤ 9223372036854775807 := fun j => hf.rg.getD j
  by_cases hD : x.op ≤ 29 ∨ 49 ≤ x.op
  · exact rstep_D w t base M E V ol f cv s mk h hlen hf.fn.1 hf.fn.2 hE.el hE.wl hb hn0' hn1' x hx hrg hs.rd hs.hl hf.yn hxl hE.il hf.ds hok hform hD
  have hop : x.op = 30 ∨ x.op = 31 ∨ x.op = 32 ∨ x.op = 33 ∨ x.op = 34 ∨ x.op = 35 ∨ x.op = 36 ∨ x.op = 37 ∨ x.op = 38 ∨ x.op = 39 ∨ x.op = 40 ∨ x.op = 41 ∨ x.op = 42 ∨ x.op = 43 ∨ x.op = 44 ∨ x.op = 45 ∨ x.op = 46 ∨ x.op = 47 ∨ x.op = 48 := by omega
  clear hD
  rcases hop with ho | ho | ho | ho | ho | ho | ho | ho | ho | ho | ho | ho | ho | ho | ho | ho | ho | ho | ho
  · exact rstep_a w t base M E V ol f cv s mk h hlen hf.fn.1 hf.fn.2 hE.el hE.wl hb hn0' hn1' x hx hrg hs.rd hs.hl hf.yn hxl hE.il hf.ds hok hform (.inl ho)
  · exact rstep_a w t base M E V ol f cv s mk h hlen hf.fn.1 hf.fn.2 hE.el hE.wl hb hn0' hn1' x hx hrg hs.rd hs.hl hf.yn hxl hE.il hf.ds hok hform (.inr (.inl ho))
  · exact rstep_b w t base M E V ol f cv s mk h hlen hf.fn.1 hf.fn.2 hE.el hE.wl hb hn0' hn1' x hx hrg hs.rd hs.hl hf.yn hxl hE.il hf.ds hok hform (.inl ho)
  · exact rstep_b w t base M E V ol f cv s mk h hlen hf.fn.1 hf.fn.2 hE.el hE.wl hb hn0' hn1' x hx hrg hs.rd hs.hl hf.yn hxl hE.il hf.ds hok hform (.inr ho)
  · exact rstep_c w t base M E V ol f cv s mk h hlen hf.fn.1 hf.fn.2 hE.el hE.wl hb hn0' hn1' x hx hrg hs.rd hs.hl hf.yn hxl hE.il hf.ds hok hform (.inl ho)
  · exact rstep_c w t base M E V ol f cv s mk h hlen hf.fn.1 hf.fn.2 hE.el hE.wl hb hn0' hn1' x hx hrg hs.rd hs.hl hf.yn hxl hE.il hf.ds hok hform (.inr (.inl ho))
  · exact rstep_c w t base M E V ol f cv s mk h hlen hf.fn.1 hf.fn.2 hE.el hE.wl hb hn0' hn1' x hx hrg hs.rd hs.hl hf.yn hxl hE.il hf.ds hok hform (.inr (.inr ho))
  · exact rstep_t w t base M E V ol f cv s mk h hlen hf.fn.1 hf.fn.2 hE.el hE.wl hb hn0' hn1' x hx hrg hs.rd hs.hl hf.yn hxl hE.il hf.ds hok hform ho
  · exact rstep_a w t base M E V ol f cv s mk h hlen hf.fn.1 hf.fn.2 hE.el hE.wl hb hn0' hn1' x hx hrg hs.rd hs.hl hf.yn hxl hE.il hf.ds hok hform (.inr (.inr ho))
  · exact rstep_v w t base M E V ol f cv s mk h hlen hf.fn.1 hf.fn.2 hE.el hE.wl hb hn0' hn1' x hx hrg hs.rd hs.hl hf.yn hxl hE.il hf.ds hok hform ho
  · exact rstep_y w t base M E V ol f cv s mk h hlen hf.fn.1 hf.fn.2 hE.el hE.wl hb hn0' hn1' x hx hrg hs.rd hs.hl hf.yn hxl hE.il hf.ds hok hform ho
  · exact rstep_r w t base M E V ol f cv s mk h hlen hf.fn.1 hf.fn.2 hE.el hE.wl hb hn0' hn1' x hx hrg hs.rd hs.hl hf.yn hxl hE.il hf.ds hok hform ho
  · exact rstep_u w t base M E V ol f cv s mk h hlen hf.fn.1 hf.fn.2 hE.el hE.wl hb hn0' hn1' x hx hrg hs.rd hs.hl hf.yn hxl hE.il hf.ds hok hform ho
  · exact rstep_z w t base M E V ol f cv s mk h hlen hf.fn.1 hf.fn.2 hE.el hE.wl hb hn0' hn1' x hx hrg hs.rd hs.hl hf.yn hxl hE.il hf.ds hok hform ho
  · exact rstep_f w t base M E V ol f cv s mk h hlen hf.fn.1 hf.fn.2 hE.el hE.wl hb hn0' hn1' x hx hrg hs.rd hs.hl hf.yn hxl hE.il hf.ds hok hform (.inl ho)
  · exact rstep_f w t base M E V ol f cv s mk h hlen hf.fn.1 hf.fn.2 hE.el hE.wl hb hn0' hn1' x hx hrg hs.rd hs.hl hf.yn hxl hE.il hf.ds hok hform (.inr (.inl ho))
  · exact rstep_f w t base M E V ol f cv s mk h hlen hf.fn.1 hf.fn.2 hE.el hE.wl hb hn0' hn1' x hx hrg hs.rd hs.hl hf.yn hxl hE.il hf.ds hok hform (.inr (.inr ho))
  · exact rstep_s w t base M E V ol f cv s mk h hlen hf.fn.1 hf.fn.2 hE.el hE.wl hb hn0' hn1' x hx hrg hs.rd hs.hl hf.yn hxl hE.il hf.ds hok hform ho
  · exact rstep_w w t base M E V ol f cv s mk h hlen hf.fn.1 hf.fn.2 hE.el hE.wl hb hn0' hn1' x hx hrg hs.rd hs.hl hf.yn hxl hE.il hf.ds hok hform ho
end Go.Proofs.Ytgjmdcbdkdmceaa.Mach

/- The document's machine: on to the next mark. -/
namespace Go.Proofs.Ytgjmdcbdkdmceaa.Mach
open Go.RowKit

/-- Where the way to a mark is behind j steps. -/
def MarkR (w : World) (t : Nat → Nat) (base M : Nat) (E : Env) (L k : Nat) (s : St) (j : Nat) (wr : World) : Prop :=
  ∃ sj mk' t' V' cl', RRep wr t' base M E V' cl' sj mk' ∧ Fx w wr t t' ∧ Sane E (L + j) sj ∧ markF E k s = markF E (k - j) sj
def MarkP (w : World) (t : Nat → Nat) (base M : Nat) (E : Env) (L k : Nat) (s : St) (w' : World) : Prop :=
  ∃ mk' t' V' cl', RRep w' t' base M E V' cl' (markF E k s).2 mk' ∧ Fx w w' t t' ∧ Sane E (L + k) (markF E k s).2
theorem markF_stop {E : Env} {k : Nat} {s : St} (h : s.end_ ≠ 0) : markF E k s = (false, s) := by
  cases k with
  | zero => rfl
  | succ k =>
    have h1 : (s.end_ == 0) = false := by simpa using h
    show (if _ then _ else _) = _
    rw [h1]; rfl
theorem markF_yes {E : Env} {k : Nat} {s : St} (h : s.end_ = 0) (hm : ((stepF E s).2 == 44) = true) : markF E (k + 1) s = (true, (stepF E s).1) := by
  have h1 : (s.end_ == 0) = true := by simp [h]
  show (if _ then (if _ then _ else _) else _) = _
  rw [h1, hm]; rfl
theorem markF_no {E : Env} {k : Nat} {s : St} (h : s.end_ = 0) (hm : ((stepF E s).2 == 44) = false) : markF E (k + 1) s = markF E k (stepF E s).1 := by
  have h1 : (s.end_ == 0) = true := by simp [h]
  show (if _ then (if _ then _ else _) else _) = _
  rw [h1, hm]; rfl
set_option maxHeartbeats 1000000 in
theorem rmark_any (w : World) (t : Nat → Nat) (base M : Nat) (E : Env) (V : RV) (cl : List (Fr × CV)) (s : St) (mk : Bool) (h : RRep w t base M E V cl s mk) (hE : EnvOk E) (L : Nat) (hs : Sane E L s) (k : Nat) (hk : L + k ≤ 1000000) :
    Calls Try.prog 45 #[.pointer (some ⟨M, 0, none⟩), .int .i64 k] w fun e w' => e = .returned (.bool (markF E k s).1) ∧ MarkP w t base M E L k s w' := by
  have HS : Hid (MarkR w t base M E L k s 0 w) := ⟨s, mk, t, V, cl, h, Fx.refl w t, hs, by simp⟩
  clear h hs
  go_enter Try.func45, Try.ntmps45
  go_wp2_with fail
  go_loopw [5] (fun n wr => ∃ j : Nat, j ≤ k ∧ n = .int .i64 j ∧ Hid (MarkR w t base M E L k s j wr)) (fun n _ => k - (intOf n).toNat)
  case atStart => exact ⟨0, Nat.zero_le _, rfl, HS⟩
  case round =>
    obtain ⟨wa, rfl⟩ : ∃ wa : World, wa = wr := ⟨_, rfl⟩
    obtain ⟨j, hj, rfl, HJ⟩ := hrel
    obtain ⟨sj, mkj, tj, Vj, clj, R0, F0, S0, E0⟩ := HJ.out
    have RJ := Lib.hid R0
    have FJ := Lib.hid F0
    have SJ := Lib.hid S0
    have EJ := Lib.hid E0
    clear R0 F0 S0 E0 HJ HS
    have m7 : wa.cell? ⟨M, 7, none⟩ = some (.int .u8 sj.end_) := (RJ.out.cellM 7).trans (rC_get Vj sj mkj).2.2.2.2.2.1
    by_cases hjk : j < k
    · have hjk' : (j : Int) < (k : Int) := by omega
      have HK1 : Hid (k - j = (k - (j + 1)) + 1) := Lib.hid (by omega)
      by_cases h0 : sj.end_ = 0
      · have hb : (sj.end_ == 0) = true := by rw [h0]; rfl
        have H0 := Lib.hid h0
        clear h0
        go_wp2_with fail
        refine (rstep_any wa tj base M E Vj clj sj mkj RJ.out hE (L + j) SJ.out (by omega) H0.out).mono ?_
        rintro e w2 ⟨rfl, t2, V2, cl2, R2, F2⟩
        obtain ⟨mb, hmb⟩ : ∃ mb, mb = ((stepF E sj).2 == 44) := ⟨_, rfl⟩
        rw [← hmb] at R2
        have HR2 := Lib.hid R2
        have HF2 := Lib.hid F2
        have HMB := Lib.hid hmb
        have n14 : w2.cell? ⟨M, 14, none⟩ = some (.bool mb) := (R2.cellM 14).trans (rC_get V2 _ mb).2.2.2.2.2.2.2.2.2.2.2.2
        clear R2 F2 hmb m7
        cases mb
        · go_wp2_with fail
          go_roundw
          case rel =>
            refine ⟨j + 1, by omega, by simp, (stepF E sj).1, _, t2, V2, cl2, HR2.out, FJ.out.trans HF2.out, stepF_good hE SJ.out H0.out, ?_⟩
            rw [EJ.out, HK1.out, markF_no H0.out HMB.out.symm]
          case measure => simp [intOf]; omega
        · go_wp2_with fail
          go_ret
          have e1 : markF E k s = (true, (stepF E sj).1) := by rw [EJ.out, HK1.out, markF_yes H0.out HMB.out.symm]
          unfold MarkP
          rw [e1]
          exact ⟨rfl, _, t2, V2, cl2, HR2.out, FJ.out.trans HF2.out, (stepF_good hE SJ.out H0.out).more (by omega)⟩
      · have hb : (sj.end_ == 0) = false := by simpa using h0
        have H0 := Lib.hid h0
        clear h0
        go_wp2_with fail
        go_ret
        have e1 : markF E k s = (false, sj) := by rw [EJ.out, markF_stop H0.out]
        unfold MarkP
        rw [e1]
        exact ⟨rfl, mkj, tj, Vj, clj, RJ.out, FJ.out, SJ.out.more (by omega)⟩
    · have hjk' : ¬ ((j : Int) < (k : Int)) := by omega
      have e0 : k - j = 0 := by omega
      have HE0 := Lib.hid e0
      clear e0 hjk
      go_wp2_with fail
      go_ret
      have e1 : markF E k s = (false, sj) := by rw [EJ.out, HE0.out]; rfl
      unfold MarkP
      rw [e1]
      exact ⟨rfl, mkj, tj, Vj, clj, RJ.out, FJ.out, SJ.out.more (by omega)⟩
end Go.Proofs.Ytgjmdcbdkdmceaa.Mach

/- The document's machine, bundled: it stays where other blocks turn, and goes on to its next mark. -/
namespace Go.Proofs.Ytgjmdcbdkdmceaa.Mach
open Go.RowKit

theorem RRep.keep {w w' : World} {t : Nat → Nat} {base M : Nat} {E : Env} {V : RV} {cl : List (Fr × CV)} {s : St} {mk : Bool} (h : RRep w t base M E V cl s mk) (hs : ∀ k, t k ≠ 0 → w'.heap[k]? = w.heap[k]?) (hz : w.heap.size ≤ w'.heap.size) : RRep w' t base M E V cl s mk := by
  have row : ∀ {T : TypeId} {K n c : Nat} {v : Value} {xs : List Value}, Row w t base T K v n xs c → c ≠ 0 → Row w' t base T K v n xs c := fun r hc => ⟨osame r.own fun k hk => hs k (by rw [r.tag k hk]; exact hc), r.tag⟩
  refine ⟨(hs M (by rw [h.tm]; omega)).trans h.hm, h.tm, ⟨⟨?_, h.env.tw, ?_, h.env.te, ?_, h.env.ti⟩, h.env.nw, h.env.ne, h.env.ni⟩, h.opn, row h.ho (by omega), row h.hh (by omega), row h.hx (by omega), fun i p hp => ?_, fun k hk => Nat.lt_of_lt_of_le (h.lt k hk) hz, fun k hk => ⟨(h.ge k hk).1, Nat.le_trans (h.ge k hk).2 hz⟩⟩
  · exact Rd.keepB h.env.hw fun hn k _ hb => hs k (h.env.nw hn k hb)
  · exact Rd.keepB h.env.he fun hn k _ hb => hs k (h.env.ne hn k hb)
  · exact Rd.keepB h.env.hi fun hn k _ hb => hs k (h.env.ni hn k hb)
  · have q := h.fr i p hp
    exact ⟨row q.rg (by omega), row q.sl (by omega), row q.ar (by omega), row q.rd (by omega)⟩
/-- The document's machine somewhere. -/
def RAt (w : World) (t : Nat → Nat) (M : Nat) (E : Env) (L : Nat) (s : St) : Prop := ∃ base V cl mk, RRep w t base M E V cl s mk ∧ Sane E L s
section
variable {w w' : World} {t : Nat → Nat} {M L : Nat} {E : Env} {s : St}
theorem RAt.keep (h : RAt w t M E L s) (hs : ∀ k, t k ≠ 0 → w'.heap[k]? = w.heap[k]?) (hz : w.heap.size ≤ w'.heap.size) : RAt w' t M E L s := by
  obtain ⟨base, V, cl, mk, h1, h2⟩ := h
  exact ⟨base, V, cl, mk, h1.keep hs hz, h2⟩
theorem RAt.below (h : RAt w t M E L s) (hb : Below w.heap.size w w') : RAt w' t M E L s := by
  obtain ⟨base, V, cl, mk, h1, h2⟩ := h
  exact ⟨base, V, cl, mk, h1.below hb, h2⟩
theorem RAt.lt (h : RAt w t M E L s) (k : Nat) (hk : t k ≠ 0) : k < w.heap.size := by
  obtain ⟨base, V, cl, mk, h1, h2⟩ := h
  exact h1.lt k hk
theorem RAt.ltM (h : RAt w t M E L s) : M < w.heap.size ∧ t M = 3 := by
  obtain ⟨base, V, cl, mk, h1, h2⟩ := h
  exact ⟨h1.lt M (by rw [h1.tm]; omega), h1.tm⟩
theorem RAt.steps (h : RAt w t M E L s) : w.cell? ⟨M, 11, none⟩ = some (.int .i64 s.steps) := by
  obtain ⟨base, V, cl, mk, h1, h2⟩ := h
  exact (h1.cellM 11).trans (rC_get V s mk).2.2.2.2.2.2.2.2.2.1
theorem RAt.sane (h : RAt w t M E L s) {L' : Nat} (h2 : Sane E L' s) : RAt w t M E L' s := by
  obtain ⟨base, V, cl, mk, h1, -⟩ := h
  exact ⟨base, V, cl, mk, h1, h2⟩
theorem RAt.toMark (h : RAt w t M E L s) (hE : EnvOk E) (k : Nat) (hk : L + k ≤ 1000000) :
    Calls Try.prog 45 #[.pointer (some ⟨M, 0, none⟩), .int .i64 k] w fun e w' => e = .returned (.bool (markF E k s).1) ∧ ∃ t', RAt w' t' M E (L + k) (markF E k s).2 ∧ Fx w w' t t' := by
  obtain ⟨base, V, cl, mk, h1, h2⟩ := h
  refine (rmark_any w t base M E V cl s mk h1 hE L h2 k hk).mono ?_
  rintro e w' ⟨rfl, mk', t', V', cl', h3, h4, h5⟩
  exact ⟨rfl, t', ⟨base, V', cl', mk', h3, h5⟩, h4⟩
end
end Go.Proofs.Ytgjmdcbdkdmceaa.Mach

/- What the document looks at: the steps to each of a run's marks. -/
namespace Go.Proofs.Ytgjmdcbdkdmceaa.Mach
open Go.RowKit

/-- The steps to the marks up to n. -/
def lookL (X : PX) (n : Nat) : List Int := (List.range (n + 1)).map fun i => (X.path i).2.steps
theorem lookL_len (X : PX) (n : Nat) : (lookL X n).length = n + 1 := by simp [lookL]
theorem lookL_next (X : PX) (n : Nat) : lookL X (n + 1) = lookL X n ++ [(X.path (n + 1)).2.steps] := by simp [lookL, List.range_succ]
theorem lookL_at (X : PX) {n j : Nat} (h : j ≤ n) : (lookL X n).getD j 0 = (X.path j).2.steps := by
  rw [List.getD_eq_getElem?_getD]
  simp [lookL, List.getElem?_range (show j < n + 1 by omega)]
/-- What Look answers: n marks there are. -/
def LookP (w : World) (X : PX) (e : Ending) (w' : World) : Prop :=
  ∃ n v, e = .returned (.agg #[v, .int .i64 (X.path (n + 1)).2.steps]) ∧ w'.ownsRow w.heap.size 3 1 v (n + 1) (intsV (lookL X n)) ∧ Below w.heap.size w w' ∧ (X.path n).1 = true ∧ (X.path (n + 1)).1 = false ∧ n ≤ 2000
/-- On the way: i marks were met. -/
def LookS (w : World) (X : PX) (M B b : Nat) (i : Nat) (wr : World) : Prop :=
  ∃ tr v, (X.path i).1 = true ∧ RAt wr tr M X.E 3000 (X.path i).2 ∧ wr.heap[B]? = some (.cells #[v, .int .i64 0] 49 (0, 0)) ∧ wr.ownsRow b 3 1 v (i + 1) (intsV (lookL X i)) ∧ (tr B = 0 ∧ ∀ k, v.ownBlock = some k → tr k = 0) ∧ Below w.heap.size w wr ∧ (b ≤ wr.heap.size ∧ w.heap.size + 1 < b ∧ b ≤ B) ∧ wr.heap[w.heap.size + 1]? = some (.cells #[.slice none 0 0, .int .i64 0] 49 (0, 0)) ∧ tr (w.heap.size + 1) = 0 ∧ ∀ k, k < w.heap.size → tr k ≤ 2
theorem pathS_le {X : PX} (H : X.Ok) {i : Nat} (h : (X.path i).1 = true) : i ≤ 2000 := by
  obtain ⟨n, P⟩ := H.at_ i
  have h1 := (P.mark h).2.1
  have h2 := P.le
  have h3 := H.hF
  omega
theorem look_app {w w5 w7 : World} {X : PX} {M B b i : Nat} {t5 : Nat → Nat} {v v7 : Value} {o : Obj} {sM : Int} (hp : (X.path (i + 1)).1 = true) (hs : (X.path (i + 1)).2.steps = sM)
    (h5 : w5.heap[B]? = some (.cells #[v, .int .i64 0] 49 (0, 0)) ∧ w5.ownsRow b 3 1 v (i + 1) (intsV (lookL X i)) ∧ (t5 B = 0 ∧ ∀ k, v.ownBlock = some k → t5 k = 0) ∧ Below w.heap.size w w5 ∧ w5.heap[w.heap.size + 1]? = some (.cells #[.slice none 0 0, .int .i64 0] 49 (0, 0)) ∧ t5 (w.heap.size + 1) = 0 ∧ (∀ k, k < w.heap.size → t5 k ≤ 2) ∧ RAt w5 t5 M X.E 3000 (X.path (i + 1)).2)
    (hbB : b ≤ w5.heap.size ∧ w.heap.size + 1 < b ∧ b ≤ B) (hg : (w5.alloc o).drew.grownBy w7 v.ownBlock) (hown : w7.ownsRow b 3 1 v7 (i + 1 + 1) (intsV (lookL X i) ++ [.int .i64 sM])) (hfr : ∀ g, v7.ownBlock = some g → (w5.alloc o).drew.heap.size ≤ g ∨ v.ownBlock = some g) :
    LookS w X M B b (i + 1) (w7.setCell ⟨B, 0, none⟩ v7) := by
  obtain ⟨hB, hrow, ⟨ht0, ht1⟩, hbl, hrx, hrt, hlo, hR⟩ := h5
  have hz : (w5.alloc o).drew.heap.size = w5.heap.size + 1 := by show (w5.alloc o).heap.size = _; simp
  have hz7 := hg.size
  have hlB : B < w5.heap.size := (Array.getElem?_eq_some_iff.1 hB).1
  have hlx : w.heap.size + 1 < w5.heap.size := (Array.getElem?_eq_some_iff.1 hrx).1
  have old : ∀ k, k < w5.heap.size → v.ownBlock ≠ some k → w7.heap[k]? = w5.heap[k]? := fun k hk hne => by
    refine (hg.block k (by omega) fun e => hne e.symm).trans ?_
    show (w5.alloc o).heap[k]? = _
    exact Below.heap_alloc _ _ _ (by omega)
  have neB : v.ownBlock ≠ some B := fun e => by
    obtain ⟨-, cur, hc⟩ := oblk hrow B e
    exact blk_ne hc hB (cells_ne (by decide)) rfl
  have nex : v.ownBlock ≠ some (w.heap.size + 1) := fun e => by
    have := (oblk hrow _ e).1
    omega
  have hB7 := (old B hlB neB).trans hB
  have ne : ∀ {k : Nat}, k ≠ B → (w7.setCell ⟨B, 0, none⟩ v7).heap[k]? = w7.heap[k]? := fun hk => Below.heap_setCell _ _ _ _ hk
  have hb1 : Below w.heap.size w (w5.alloc o).drew := (hbl.alloc hbl.size _).drew
  have hb2 : Below w.heap.size w w7 := hb1.grown hg hb1.size (fun k hk => by have := (oblk hrow k hk).1; omega)
  refine ⟨t5, v7, hp, ?_, ?_, ?_, ⟨ht0, fun k hk => ?_⟩, hb2.setCell (by show w.heap.size ≤ B; omega) _, ⟨by rw [World.size_setCell]; omega, hbB.2⟩, ?_, hrt, hlo⟩
  · refine hR.keep (fun k hk => ?_) (by rw [World.size_setCell]; omega)
    have hkB : k ≠ B := fun e => hk (e ▸ ht0)
    exact (ne hkB).trans (old k (hR.lt k hk) fun e => hk (ht1 k e))
  · rw [heap_set hB7]
    rfl
  · rw [lookL_next, ← intsV_app, hs]
    refine osame hown fun k hk => ne ?_
    obtain ⟨-, cur, hc⟩ := oblk hown k hk
    exact blk_ne hc hB7 (cells_ne (by decide))
  · rcases hfr k hk with h | h
    · rcases Nat.eq_zero_or_pos (t5 k) with e | e
      · exact e
      · have := hR.lt k (by omega); omega
    · exact ht1 k h
  · exact (ne (by omega)).trans ((old _ hlx nex).trans hrx)
theorem look_end {w w5 : World} {X : PX} {B b i : Nat} {v : Value} (hrow : w5.ownsRow b 3 1 v (i + 1) (intsV (lookL X i))) (hB : w5.heap[B]? = some (.cells #[v, .int .i64 0] 49 (0, 0)))
    (hrx : w5.heap[w.heap.size + 1]? = some (.cells #[.slice none 0 0, .int .i64 0] 49 (0, 0))) (hbl : Below w.heap.size w w5) (hbB : b ≤ w5.heap.size ∧ w.heap.size + 1 < b ∧ b ≤ B) (hne : ¬ B = w.heap.size + 1) (sM : Int) :
    (((w5.setCell ⟨B, 1, none⟩ (.int .i64 sM)).setCell ⟨w.heap.size + 1, 0, none⟩ v).setCell ⟨w.heap.size + 1, 1, none⟩ (.int .i64 sM)).heap[w.heap.size + 1]? = some (.cells #[v, .int .i64 sM] 49 (0, 0)) ∧
    (((w5.setCell ⟨B, 1, none⟩ (.int .i64 sM)).setCell ⟨w.heap.size + 1, 0, none⟩ v).setCell ⟨w.heap.size + 1, 1, none⟩ (.int .i64 sM)).ownsRow w.heap.size 3 1 v (i + 1) (intsV (lookL X i)) ∧
    Below w.heap.size w (((w5.setCell ⟨B, 1, none⟩ (.int .i64 sM)).setCell ⟨w.heap.size + 1, 0, none⟩ v).setCell ⟨w.heap.size + 1, 1, none⟩ (.int .i64 sM)) := by
  have h1 : (w5.setCell ⟨B, 1, none⟩ (.int .i64 sM)).heap[w.heap.size + 1]? = some (.cells #[.slice none 0 0, .int .i64 0] 49 (0, 0)) := (Below.heap_setCell _ _ _ _ (fun e => hne e.symm)).trans hrx
  refine ⟨by rw [heap_set (heap_set h1 0 v) 1 (.int .i64 sM)]; rfl, ?_, ((hbl.setCell (by show w.heap.size ≤ B; omega) _).setCell (by show w.heap.size ≤ w.heap.size + 1; omega) _).setCell (by show w.heap.size ≤ w.heap.size + 1; omega) _⟩
  refine osame (odown hrow (by omega)) fun k hk => ?_
  obtain ⟨-, cur, hc⟩ := oblk hrow k hk
  have e1 : k ≠ B := blk_ne hc hB (cells_ne (by decide))
  have e2 : k ≠ w.heap.size + 1 := blk_ne hc hrx (cells_ne (by decide))
  exact ((Below.heap_setCell _ _ _ _ e2).trans (Below.heap_setCell _ _ _ _ e2)).trans (Below.heap_setCell _ _ _ _ e1)
set_option maxRecDepth 100000 in
set_option maxHeartbeats 4000000 in
theorem look_any (w : World) (wv ev dv iv : Value) (X : PX) (mn : Nat) (hm : X.m = mn) (H : X.Ok) (hw : Rd w 5 wv X.E.ws.length (cW X.E.ws)) (he : Rd w 2 ev X.E.es.length (entC X.E.es)) (hi : Rd w 1 iv X.E.inp.length (intsV X.E.inp)) (hd : ∃ a n c, dv = .slice a n c) :
    Calls Try.prog 20 #[.agg #[wv, ev, .int .i64 mn, dv], iv, .int .i64 X.F] w fun e w' => LookP w X e w' := by
  have HN := fun V (hb : Below w.heap.size w V) => rnew_at w V wv ev dv iv mn X.E hb hw he hi hd (by have := H.hm; omega)
  obtain ⟨wa, wc, rfl⟩ := Rd.shape hw
  obtain ⟨ea, ec, rfl⟩ := Rd.shape he
  obtain ⟨ia, ic, rfl⟩ := Rd.shape hi
  obtain ⟨da, dn, dc, rfl⟩ := hd
  have HN := Lib.hid HN
  have HM := Lib.hid hm
  clear hw he hi hm
  go_enter Try.func20, Try.ntmps20
  go_wp2_with fail
  obtain ⟨w1, hw1⟩ : ∃ w1, w1 = w.alloc (.cells #[.slice wa X.E.ws.length wc, .slice ea X.E.es.length ec, .int .i64 mn, .slice da dn dc] 26) := ⟨_, rfl⟩
  rw [← hw1]
  have z1 : w1.heap.size = w.heap.size + 1 := by rw [hw1]; simp
  have b1 : Below w.heap.size w w1 := by rw [hw1]; exact (Below.refl _ _).alloc (Nat.le_refl _) _
  obtain ⟨w2, hw2⟩ : ∃ w2, w2 = w1.alloc (.cells #[.slice none 0 0, .int .i64 0] 49) := ⟨_, rfl⟩
  rw [← hw2]
  have z2 : w2.heap.size = w.heap.size + 2 := by rw [hw2]; simp [z1]
  have b2 : Below w.heap.size w w2 := by rw [hw2]; exact b1.alloc b1.size _
  have hx2 : w2.heap[w.heap.size + 1]? = some (.cells #[.slice none 0 0, .int .i64 0] 49 (0, 0)) := by rw [hw2, ← z1]; exact heap_alloc_new _ _
  clear hw1 hw2 b1 z1
  refine (HN.out w2 b2).mono ?_
  rintro e w3 ⟨M, t, V, cl, rfl, hR, hw3.heap.size, tz1, tz⟩
  have hRA : RAt w3 t M X.E 3000 (newF X.E mn) := ⟨_, _, _, _, hR, (newF_good H.hE (by have := H.hm; have := HM.out; omega)).more (by omega)⟩
  have hx3 := (hw3.heap.size.block _ (by omega)).trans hx2
  have HRA := Lib.hid hRA
  have HX3 := Lib.hid hx3
  have HB3 : Hid (Below w.heap.size w w3) := b2.trans (hw3.heap.size.mono b2.size)
  have tz' : t w.heap.size = 0 ∧ t (w.heap.size + 1) = 0 := ⟨tz _ (by omega) (by omega), tz _ (by omega) (by omega)⟩
  have HT := Lib.hid (And.intro tz' tz1)
  have y0 : w3.cell? ⟨w.heap.size + 1, 0, none⟩ = some (.slice none 0 0) := by simp [World.cell?, hx3]
  have y1 : w3.cell? ⟨w.heap.size + 1, 1, none⟩ = some (.int .i64 0) := by simp [World.cell?, hx3]
  have v0 : w3.frozen? ⟨w.heap.size + 1, 0, none⟩ = false := by simp [World.frozen?, hx3]
  have hl3 := (Array.getElem?_eq_some_iff.1 hx3).1
  clear hR hRA hw3.heap.size hx3 hx2 b2 tz tz' tz1 HN
  go_wp2_with fail
  obtain ⟨w4, hw4⟩ : ∃ w4, w4 = (w3.alloc (.cells #[.int .i64 0] 3)).alloc (.cells #[.slice (some ⟨w3.heap.size, 0, none⟩) 1 1, .int .i64 0] 49) := ⟨_, rfl⟩
  rw [← hw4]
  obtain ⟨B, hB⟩ : ∃ B, B = w3.heap.size + 1 := ⟨_, rfl⟩
  rw [← hB]
  have HL0 : Hid (LookS w X M B w3.heap.size 0 w4) := by
    have h34 : Below w3.heap.size w3 w4 := by rw [hw4]; exact ((Below.refl _ _).alloc (Nat.le_refl _) _).alloc (by simp) _
    have hB4 : w4.heap[B]? = some (.cells #[.slice (some ⟨w3.heap.size, 0, none⟩) 1 1, .int .i64 0] 49 (0, 0)) := by rw [hw4, hB]; exact (two_alloc w3 _ _ _ _).2.1
    have hz : ∀ k, w3.heap.size ≤ k → t k = 0 := fun k hk => by
      rcases Nat.eq_zero_or_pos (t k) with e | e
      · exact e
      · have := HRA.out.lt k (by omega); omega
    have hA : RAt w4 t M X.E 3000 (newF X.E mn) := HRA.out.below h34
    have hrow : w4.ownsRow w3.heap.size 3 1 (.slice (some ⟨w3.heap.size, 0, none⟩) 1 1) 1 [.int .i64 0] := by
      rw [hw4]
      exact obelow (World.ownsRow_lit (base := w3.heap.size) (e := 3) (size := 1) w3 #[.int .i64 0] 1 (Nat.le_refl _) (by unfold maxLen; omega) (by decide)) ((Below.refl _ _).alloc (Nat.le_refl _) _)
    refine ⟨t, _, rfl, ?_, hB4, hrow, ⟨hz _ (by omega), fun k hk => hz k (by cases hk; exact Nat.le_refl _)⟩, HB3.out.trans (h34.mono HB3.out.size), ⟨h34.size, hl3, by omega⟩, (h34.block _ hl3).trans HX3.out, HT.out.1.2, fun k hk => by rw [HT.out.2 k hk]; omega⟩
    have e : (X.path 0).2 = newF X.E mn := by show newF X.E X.m = _; rw [HM.out]
    rw [e]
    exact hA
  have mixed : Try.prog.follows Departure.mixedOrders = true := by kernel_rfl
  have HBE := Lib.hid hB
  clear hB
  clear hw4 y0 y1 v0
  go_loopg [] 3001 (fun n wr => ∃ i : Nat, n = 3001 - i ∧ Hid (LookS w X M B w3.heap.size i wr))
  case atStart => exact ⟨0, rfl, HL0⟩
  case round =>
    obtain ⟨i, hn, HJ⟩ := hrel
    obtain ⟨tr, v, hp, hR, hb, hrow, htr, hbl, hbs, hrx, hrt, hlo⟩ := HJ.out
    have hi9 := pathS_le H hp
    have HGK := Lib.hid hn
    have hs0 := H.steps i
    have hF := H.hF
    obtain ⟨sN, hsN⟩ : ∃ sN : Nat, (X.path i).2.steps = sN := ⟨(X.path i).2.steps.toNat, by omega⟩
    have cS : wr.cell? ⟨M, 11, none⟩ = some (.int .i64 sN) := by rw [← hsN]; exact hR.steps
    obtain ⟨q, hq⟩ : ∃ q : Nat, (X.F : Int) - (sN : Int) = q := ⟨X.F - sN, by omega⟩
    have hlM := hR.ltM.1
    have HTM := hR.toMark H.hE q (by omega)
    have hnx : markF X.E q (X.path i).2 = X.path (i + 1) := by
      have e : q = X.F - (X.path i).2.steps.toNat := by omega
      rw [e]
      exact (path_next hp).symm
    rw [hnx] at HTM
    have HTM := Lib.hid HTM
    have HI := Lib.hid (And.intro hp (And.intro hb (And.intro hrow (And.intro htr (And.intro hbl (And.intro hbs (And.intro hrx (And.intro hrt hlo))))))))
    have hqq : wrap64 (q : Int) = q := by unfold wrap64; omega
    clear hp hR hb hrow htr hbl hbs hrx hrt hlo HJ HL0 hn hsN hs0 hnx hF
    go_wp2_with fail
    refine HTM.out.mono ?_
    rintro e w5 ⟨rfl, t5, hR5, hF5⟩
    have hb5 := (hF5.stay B (Array.getElem?_eq_some_iff.1 HI.out.2.1).1 (by rw [HI.out.2.2.2.1.1]; omega)).trans HI.out.2.1
    have hrow5 := osame HI.out.2.2.1 (fun k hk => hF5.stay k (olt HI.out.2.2.1 k hk) (by rw [HI.out.2.2.2.1.2 k hk]; omega))
    have htr5 : t5 B = 0 ∧ ∀ k, v.ownBlock = some k → t5 k = 0 := ⟨((hF5.keep B (Array.getElem?_eq_some_iff.1 HI.out.2.1).1).1 (by rw [HI.out.2.2.2.1.1]; omega)).trans HI.out.2.2.2.1.1, fun k hk => ((hF5.keep k (olt HI.out.2.2.1 k hk)).1 (by rw [HI.out.2.2.2.1.2 k hk]; omega)).trans (HI.out.2.2.2.1.2 k hk)⟩
    have hbs := HI.out.2.2.2.2.1.size
    have hbl5 : Below w.heap.size w w5 := Below.ran HI.out.2.2.2.2.1 hF5 hbs (fun k hk => HI.out.2.2.2.2.2.2.2.2 k hk)
    have hrx5 := (hF5.stay (w.heap.size + 1) (Array.getElem?_eq_some_iff.1 HI.out.2.2.2.2.2.2.1).1 (by rw [HI.out.2.2.2.2.2.2.2.1]; omega)).trans HI.out.2.2.2.2.2.2.1
    have hrt5 : t5 (w.heap.size + 1) = 0 := ((hF5.keep _ (Array.getElem?_eq_some_iff.1 HI.out.2.2.2.2.2.2.1).1).1 (by rw [HI.out.2.2.2.2.2.2.2.1]; omega)).trans HI.out.2.2.2.2.2.2.2.1
    have hlo5 : ∀ k, k < w.heap.size → t5 k ≤ 2 := fun k hk => by
      have h1 := HI.out.2.2.2.2.2.2.2.2 k hk
      rw [(hF5.keep k (by omega)).1 h1]; exact h1
    have hR5' : RAt w5 t5 M X.E 3000 (X.path (i + 1)).2 := hR5.sane (H.sane (i + 1))
    have hs1 := H.steps (i + 1)
    have hF := H.hF
    obtain ⟨sM, hsM⟩ : ∃ sM : Nat, (X.path (i + 1)).2.steps = sM := ⟨(X.path (i + 1)).2.steps.toNat, by omega⟩
    have k11 : w5.cell? ⟨M, 11, none⟩ = some (.int .i64 sM) := by rw [← hsM]; exact hR5'.steps
    have k0 : w5.cell? ⟨B, 0, none⟩ = some v := by simp [World.cell?, hb5]
    have k1 : w5.cell? ⟨B, 1, none⟩ = some (.int .i64 0) := by simp [World.cell?, hb5]
    have n0 : w5.frozen? ⟨B, 0, none⟩ = false := by simp [World.frozen?, hb5]
    have n1 : w5.frozen? ⟨B, 1, none⟩ = false := by simp [World.frozen?, hb5]
    have hlM5 := hR5'.ltM.1
    obtain ⟨b, hbp⟩ : ∃ b, b = (X.path (i + 1)).1 := ⟨_, rfl⟩
    rw [← hbp]
    have HSM := Lib.hid hsM
    have HBP := Lib.hid hbp
    have hbs5 : w3.heap.size ≤ w5.heap.size := Nat.le_trans HI.out.2.2.2.2.2.1.1 hF5.size
    have HI5 := Lib.hid (And.intro hb5 (And.intro hrow5 (And.intro htr5 (And.intro hbl5 (And.intro hrx5 (And.intro hrt5 (And.intro hlo5 hR5')))))))
    obtain ⟨va, vc, rfl⟩ := (Rd.of_own hrow5).shape
    clear hb5 hrow5 htr5 hbl5 hrx5 hrt5 hlo5 hR5' hR5 hF5 hs1 hF hsM hbp HTM hbs
    have HBB := Lib.hid (show w3.heap.size ≤ w5.heap.size ∧ w.heap.size + 1 < w3.heap.size ∧ w3.heap.size ≤ B from ⟨hbs5, HI.out.2.2.2.2.2.1.2⟩)
    have hneB : ¬ B = w.heap.size + 1 := by have := HBB.out; omega
    have hneB' : ¬ w.heap.size + 1 = B := by have := HBB.out; omega
    have hlB5 : B < w5.heap.size := (Array.getElem?_eq_some_iff.1 HI5.out.1).1
    have HNB : Hid (some B ≠ (Value.slice va (i + 1) vc).ownBlock) := Lib.hid (fun e => by
      obtain ⟨-, cur, hc⟩ := oblk HI5.out.2.1 B e.symm
      exact blk_ne hc HI5.out.1 (cells_ne (by decide)) rfl)
    have HB5A : ∀ o, Hid ((w5.alloc o).drew.heap[B]? = some (.cells #[.slice va (i + 1) vc, .int .i64 0] 49 (0, 0))) := fun o => Lib.hid ((Below.heap_alloc _ _ _ hlB5).trans HI5.out.1)
    cases b
    · have r0 : w5.cell? ⟨w.heap.size + 1, 0, none⟩ = some (.slice none 0 0) := by simp [World.cell?, HI5.out.2.2.2.2.1]
      have r1 : w5.cell? ⟨w.heap.size + 1, 1, none⟩ = some (.int .i64 0) := by simp [World.cell?, HI5.out.2.2.2.2.1]
      have p0 : w5.frozen? ⟨w.heap.size + 1, 0, none⟩ = false := by simp [World.frozen?, HI5.out.2.2.2.2.1]
      have p1 : w5.frozen? ⟨w.heap.size + 1, 1, none⟩ = false := by simp [World.frozen?, HI5.out.2.2.2.2.1]
      go_wp2_with fail
      obtain ⟨hW, hWr, hWb⟩ := look_end HI5.out.2.1 HI5.out.1 HI5.out.2.2.2.2.1 HI5.out.2.2.2.1 HBB.out hneB sM
      obtain ⟨W, hWe⟩ : ∃ W, W = ((w5.setCell ⟨B, 1, none⟩ (.int .i64 sM)).setCell ⟨w.heap.size + 1, 0, none⟩ (.slice va (i + 1) vc)).setCell ⟨w.heap.size + 1, 1, none⟩ (.int .i64 sM) := ⟨_, rfl⟩
      rw [← hWe] at hW hWr hWb ⊢
      have q0 : W.cell? ⟨w.heap.size + 1, 0, none⟩ = some (.slice va (i + 1) vc) := by simp [World.cell?, hW]
      have q1 : W.cell? ⟨w.heap.size + 1, 1, none⟩ = some (.int .i64 sM) := by simp [World.cell?, hW]
      refine bodyPost_ret (v := .agg #[.slice va (i + 1) vc, .int .i64 sM]) ?_ rfl ⟨i, .slice va (i + 1) vc, by rw [HSM.out], hWr, hWb, HI.out.1, HBP.out.symm, hi9⟩
      simp [results, Try.results20, go_sem, q0, q1]
    · obtain ⟨im, mi0, mz0, mz1, mz2⟩ := info_partsV cinfoI
      have HIM := Lib.hid (And.intro mi0 (And.intro mz0 (And.intro mz1 mz2)))
      have OA : Hid (((w5.alloc (.cells #[.int .i64 sM] 3)).drew).ownsRow w3.heap.size 3 1 (.slice va (i + 1) vc) (i + 1) (intsV (lookL X i))) := HI5.out.2.1.alloc _
      have RA : Hid (Rd ((w5.alloc (.cells #[.int .i64 sM] 3)).drew) 1 (.slice (some ⟨w5.heap.size, 0, none⟩) 1 1) 1 [.int .i64 sM]) := lit1_rd w5 _ _
      have BA : Hid (w3.heap.size ≤ ((w5.alloc (.cells #[.int .i64 sM] 3)).drew).heap.size) := by show _ ≤ (w5.alloc _).heap.size; simp; have := HBB.out; omega
      have a1 : i + 1 + 1 ≤ maxLen := by unfold maxLen; omega
      have a2 : (i + 1 + 1) * 8 ≤ 140737488355328 := by omega
      clear mi0 mz0 mz1 mz2
      go_wp2_with fail
      go_region_law_o (refine step_append_f rfl _ _ 28 rfl w3.heap.size 3 im (.int .i64 0) 1 8 Try.underlying28 HIM.out.1 HIM.out.2.1 HIM.out.2.2.1 HIM.out.2.2.2 rfl (by decide) _ (i + 1) (intsV (lookL X i)) rfl OA.out _ 1 [.int .i64 sM] rfl RA.out (ints_oneCell .i64 [(sM : Int)]) a1 a2 BA.out ?_; intro v7 w7 hown7 hgrow7 hfr7; have HLA := Lib.hid (look_app HBP.out.symm HSM.out HI5.out HBB.out hgrow7 hown7 hfr7); obtain ⟨va7, vc7, rfl, -, -⟩ := oshape hown7; have hb7 := (hgrow7.block B (by show B < (w5.alloc _).heap.size; simp; omega) HNB.out).trans (HB5A _).out; have j0 : w7.cell? ⟨B, 0, none⟩ = some (.slice va (i + 1) vc) := (by simp [World.cell?, hb7]); have jf : w7.frozen? ⟨B, 0, none⟩ = false := (by simp [World.frozen?, hb7]); clear hown7 hgrow7 hfr7 hb7)
      all_goals
        go_wp2_with fail
        go_roundg (3001 - (i + 1))
        case measure => have := HGK.out; omega
        case rel => exact ⟨i + 1, rfl, HLA⟩
end Go.Proofs.Ytgjmdcbdkdmceaa.Mach
