/- The document's machine: a step that goes wrong by what the image is (the address, the slots). Printed by gen_rbad.py. -/
import Derived.Test.YtnanlkoldloolaaDoorQ17
import Derived.Deep.DeepCutAuto
import Derived.Deep.RegionHeld3
import Derived.Deep.RegionLaw
import Derived.StillTailTactics
namespace Go.Proofs.YtnanlkoldloolaaDoor.Mach
open Go.RowKit

theorem stepF_bad {E : Env} {s : St} {ol : List (Fr × CV)} {f : Fr} {cv : CV} (hopn : s.opn = (ol ++ [(f, cv)]).map Prod.fst) (hb : (!slotsOk (E.ent f.fn).2 || decide (f.next < 0) || decide ((E.ws.length : Int) ≤ f.next)) = true) :
    stepF E s = (({ s with steps := wrap64 (s.steps + 1), at_ := f.next } : St).ends 8, 0) := by
  have e0 : s.opn = ol.map Prod.fst ++ [f] := by rw [hopn]; simp
  unfold stepF
  rw [e0, List.getLast?_append]
  simp only [List.getLast?_singleton, Option.some_or, hb, if_true]
theorem stepF_unform {E : Env} {s : St} {ol : List (Fr × CV)} {f : Fr} {cv : CV} {x : W} (hopn : s.opn = (ol ++ [(f, cv)]).map Prod.fst) (hb1 : slotsOk (E.ent f.fn).2 = true) (hn0 : 0 ≤ f.next) (hn1 : f.next < E.ws.length) (hx : x = E.ws.getD f.next.toNat W.zero) (hform : formB x = false) :
    stepF E s = ((({ s with steps := wrap64 (s.steps + 1), at_ := f.next } : St).ends 8).top (ol.map Prod.fst) { f with next := f.next + 1 }, 0) := by
  have e0 : s.opn = ol.map Prod.fst ++ [f] := by rw [hopn]; simp
  have d0 : decide (f.next < 0) = false := decide_eq_false (by omega)
  have d1 : decide ((E.ws.length : Int) ≤ f.next) = false := decide_eq_false (by omega)
  unfold stepF
  rw [e0, List.getLast?_append]
  simp only [List.getLast?_singleton, Option.some_or, hb1, d0, d1, Bool.not_true, Bool.or_self, Bool.false_eq_true, if_false, List.dropLast_concat, ← hx, hform]

set_option maxRecDepth 100000 in
set_option maxHeartbeats 4000000 in
theorem rstep_o1 (w : World) (t : Nat → Nat) (base M : Nat) (E : Env) (V : RV) (ol : List (Fr × CV)) (f : Fr) (cv : CV) (s : St) (mk : Bool) (h : RRep w t base M E V (ol ++ [(f, cv)]) s mk) (hol : ol.length ≤ 99)
    (hf0 : 0 ≤ f.fn) (hf1 : f.fn < E.es.length) (_hel : E.es.length ≤ 1000000) (_hwl : E.ws.length ≤ 1000000) (hb1 : slotsOk (E.ent f.fn).2 = false) :
    Calls Tryd.prog 24 #[.pointer (some ⟨M, 0, none⟩)] w fun e w' => e = .returned (.tuple #[]) ∧ RPost w t base M E (stepF E s).1 ((stepF E s).2 == 44) w' := by
  obtain ⟨ob, oc, hov, hoc, hob, tob, nOM, zo, hoj⟩ := h.topC
  have k4 : w.cell? ⟨ob, ol.length * 8 + 4, none⟩ = some (.int .i64 f.next) := hoj 4 (by omega)
  have m6 : w.cell? ⟨M, 6, none⟩ = some (.slice (some ⟨ob, 0, none⟩) (ol.length + 1) oc) := (h.cellM 6).trans (by rw [(rC_get V s mk).2.2.2.2.1, hov])
  have m11 : w.cell? ⟨M, 11, none⟩ = some (.int .i64 s.steps) := (h.cellM 11).trans (rC_get V s mk).2.2.2.2.2.2.2.2.2.1
  have m13 : w.cell? ⟨M, 13, none⟩ = some (.int .i64 s.at_) := (h.cellM 13).trans (rC_get V s mk).2.2.2.2.2.2.2.2.2.2.2.1
  have m14 : w.cell? ⟨M, 14, none⟩ = some (.bool mk) := (h.cellM 14).trans (rC_get V s mk).2.2.2.2.2.2.2.2.2.2.2.2
  have z11 := h.frzM 11
  have z13 := h.frzM 13
  have z14 := h.frzM 14
  have nMO : ¬ M = ob := fun e => nOM e.symm
  have hlM : M < w.heap.size := (Array.getElem?_eq_some_iff.1 h.hm).1
  have mixed : Tryd.prog.follows Departure.mixedOrders = true := by kernel_rfl
  have H := Lib.hid h
  clear h hoj zo tob
  go_enter Tryd.func24, Tryd.ntmps24
  go_wp2_with fail
  go_quiet (fail)
  go_wp2_with fail
  obtain ⟨w1, hw1⟩ : ∃ w1, w1 = ((((w.setCell ⟨M, 14, none⟩ (.bool false)).setCell ⟨M, 11, none⟩ (.int .i64 (wrap64 (s.steps + 1)))).drewN nq).setCell ⟨M, 13, none⟩ (.int .i64 f.next)) := ⟨_, rfl⟩
  rw [← hw1]
  obtain ⟨s1, hs1⟩ : ∃ s1 : St, s1 = { s with steps := wrap64 (s.steps + 1), at_ := f.next } := ⟨_, rfl⟩
  have H1 : Hid (RRep w1 t base M E V (ol ++ [(f, cv)]) s1 false) := by
    rw [hw1, hs1]
    exact (((H.out.mk' false).steps' _).drew nq).at' _
  have HF1 : Hid (Fx w w1 t t) := by
    have tm := H.out.tm
    rw [hw1]
    exact ((((Fx.refl w t).set (g := M) (i := 14) (.bool false) (by omega)).set (g := M) (i := 11) (.int .i64 (wrap64 (s.steps + 1))) (by omega)).drewN nq).set (g := M) (i := 13) (.int .i64 f.next) (by omega)
  have HS0 := Lib.hid (stepF_bad (E := E) H.out.opn (by rw [hb1]; rfl))
  have hlM1 : M < w1.heap.size := by rw [hw1]; simpa using hlM
  have hob1 : ob < w1.heap.size := by rw [hw1]; simpa using hob
  clear hw1 m6 m11 m13 m14 z11 z13 z14 k4 hlM hob H
  obtain ⟨ob', oc', hov', _, _, tob, _, zo, hoj⟩ := H1.out.topC
  rw [hov] at hov'
  simp only [Value.slice.injEq, Option.some.injEq, Addr.mk.injEq, and_true, true_and] at hov'
  obtain ⟨rfl, rfl⟩ := hov'
  obtain ⟨wa, wc0, hwv⟩ := Rd.shape H1.out.env.hw
  obtain ⟨eb, eo, ec, hev, -, he2, hleb, -⟩ := H1.out.env.ent hf0 hf1
  obtain ⟨fn, hfn⟩ : ∃ fn : Nat, f.fn = fn := ⟨f.fn.toNat, by omega⟩
  rw [hfn] at hb1
  rw [hfn, Int.toNat_natCast] at he2
  have k0 : w1.cell? ⟨ob, ol.length * 8, none⟩ = some (.int .i64 fn) := by rw [← hfn]; exact hoj 0 (by omega)
  have k4 : w1.cell? ⟨ob, ol.length * 8 + 4, none⟩ = some (.int .i64 f.next) := hoj 4 (by omega)
  have m0 : w1.cell? ⟨M, 0, none⟩ = some (.slice wa E.ws.length wc0) := (H1.out.cellM 0).trans (by rw [(rC_get V s1 false).1, hwv])
  have m1 : w1.cell? ⟨M, 1, none⟩ = some (.slice (some ⟨eb, eo, none⟩) E.es.length ec) := (H1.out.cellM 1).trans (by rw [(rC_get V s1 false).2.1, hev])
  have hfnl : fn < E.es.length := by omega
  have HS := Lib.hid (fun n => rslots_any M eb eo E.es.length ec fn (E.ent fn).2 (w1.drewN n) m1 hfnl he2)
  have Hoj := Lib.hid hoj
  clear hoj zo tob he2
  simp only [hb1] at HS
  have m7 : w1.cell? ⟨M, 7, none⟩ = some (.int .u8 s1.end_) := (H1.out.cellM 7).trans (rC_get V s1 false).2.2.2.2.2.1
  have z7 := H1.out.frzM 7
  go_quiet ((go_at_call 33; exact Calls.quiet_of_same (HS.out _)))
  go_wp2_with fail
  have tM : 2 < t M := by have := H1.out.tm; omega
  refine bodyPost_ret (results_none rfl _ _ _) rfl ⟨rfl, ?_⟩
  have R := (H1.out.drew nq).end' 8
  have FX := (HF1.out.drewN nq).set (g := M) (i := 7) (.int .u8 8) tM
  rw [HS0.out]
  rw [hs1] at R
  exact ⟨t, V, _, R, FX⟩
set_option maxRecDepth 100000 in
set_option maxHeartbeats 4000000 in
theorem rstep_o2 (w : World) (t : Nat → Nat) (base M : Nat) (E : Env) (V : RV) (ol : List (Fr × CV)) (f : Fr) (cv : CV) (s : St) (mk : Bool) (h : RRep w t base M E V (ol ++ [(f, cv)]) s mk) (hol : ol.length ≤ 99)
    (hf0 : 0 ≤ f.fn) (hf1 : f.fn < E.es.length) (_hel : E.es.length ≤ 1000000) (_hwl : E.ws.length ≤ 1000000) (hb1 : slotsOk (E.ent f.fn).2 = true) (hn : f.next < 0) :
    Calls Tryd.prog 24 #[.pointer (some ⟨M, 0, none⟩)] w fun e w' => e = .returned (.tuple #[]) ∧ RPost w t base M E (stepF E s).1 ((stepF E s).2 == 44) w' := by
  obtain ⟨ob, oc, hov, hoc, hob, tob, nOM, zo, hoj⟩ := h.topC
  have k4 : w.cell? ⟨ob, ol.length * 8 + 4, none⟩ = some (.int .i64 f.next) := hoj 4 (by omega)
  have m6 : w.cell? ⟨M, 6, none⟩ = some (.slice (some ⟨ob, 0, none⟩) (ol.length + 1) oc) := (h.cellM 6).trans (by rw [(rC_get V s mk).2.2.2.2.1, hov])
  have m11 : w.cell? ⟨M, 11, none⟩ = some (.int .i64 s.steps) := (h.cellM 11).trans (rC_get V s mk).2.2.2.2.2.2.2.2.2.1
  have m13 : w.cell? ⟨M, 13, none⟩ = some (.int .i64 s.at_) := (h.cellM 13).trans (rC_get V s mk).2.2.2.2.2.2.2.2.2.2.2.1
  have m14 : w.cell? ⟨M, 14, none⟩ = some (.bool mk) := (h.cellM 14).trans (rC_get V s mk).2.2.2.2.2.2.2.2.2.2.2.2
  have z11 := h.frzM 11
  have z13 := h.frzM 13
  have z14 := h.frzM 14
  have nMO : ¬ M = ob := fun e => nOM e.symm
  have hlM : M < w.heap.size := (Array.getElem?_eq_some_iff.1 h.hm).1
  have mixed : Tryd.prog.follows Departure.mixedOrders = true := by kernel_rfl
  have H := Lib.hid h
  clear h hoj zo tob
  go_enter Tryd.func24, Tryd.ntmps24
  go_wp2_with fail
  go_quiet (fail)
  go_wp2_with fail
  obtain ⟨w1, hw1⟩ : ∃ w1, w1 = ((((w.setCell ⟨M, 14, none⟩ (.bool false)).setCell ⟨M, 11, none⟩ (.int .i64 (wrap64 (s.steps + 1)))).drewN nq).setCell ⟨M, 13, none⟩ (.int .i64 f.next)) := ⟨_, rfl⟩
  rw [← hw1]
  obtain ⟨s1, hs1⟩ : ∃ s1 : St, s1 = { s with steps := wrap64 (s.steps + 1), at_ := f.next } := ⟨_, rfl⟩
  have H1 : Hid (RRep w1 t base M E V (ol ++ [(f, cv)]) s1 false) := by
    rw [hw1, hs1]
    exact (((H.out.mk' false).steps' _).drew nq).at' _
  have HF1 : Hid (Fx w w1 t t) := by
    have tm := H.out.tm
    rw [hw1]
    exact ((((Fx.refl w t).set (g := M) (i := 14) (.bool false) (by omega)).set (g := M) (i := 11) (.int .i64 (wrap64 (s.steps + 1))) (by omega)).drewN nq).set (g := M) (i := 13) (.int .i64 f.next) (by omega)
  have HS0 := Lib.hid (stepF_bad (E := E) H.out.opn (by rw [hb1, decide_eq_true hn]; rfl))
  have hlM1 : M < w1.heap.size := by rw [hw1]; simpa using hlM
  have hob1 : ob < w1.heap.size := by rw [hw1]; simpa using hob
  clear hw1 m6 m11 m13 m14 z11 z13 z14 k4 hlM hob H
  obtain ⟨ob', oc', hov', _, _, tob, _, zo, hoj⟩ := H1.out.topC
  rw [hov] at hov'
  simp only [Value.slice.injEq, Option.some.injEq, Addr.mk.injEq, and_true, true_and] at hov'
  obtain ⟨rfl, rfl⟩ := hov'
  obtain ⟨wa, wc0, hwv⟩ := Rd.shape H1.out.env.hw
  obtain ⟨eb, eo, ec, hev, -, he2, hleb, -⟩ := H1.out.env.ent hf0 hf1
  obtain ⟨fn, hfn⟩ : ∃ fn : Nat, f.fn = fn := ⟨f.fn.toNat, by omega⟩
  rw [hfn] at hb1
  rw [hfn, Int.toNat_natCast] at he2
  have k0 : w1.cell? ⟨ob, ol.length * 8, none⟩ = some (.int .i64 fn) := by rw [← hfn]; exact hoj 0 (by omega)
  have k4 : w1.cell? ⟨ob, ol.length * 8 + 4, none⟩ = some (.int .i64 f.next) := hoj 4 (by omega)
  have m0 : w1.cell? ⟨M, 0, none⟩ = some (.slice wa E.ws.length wc0) := (H1.out.cellM 0).trans (by rw [(rC_get V s1 false).1, hwv])
  have m1 : w1.cell? ⟨M, 1, none⟩ = some (.slice (some ⟨eb, eo, none⟩) E.es.length ec) := (H1.out.cellM 1).trans (by rw [(rC_get V s1 false).2.1, hev])
  have hfnl : fn < E.es.length := by omega
  have HS := Lib.hid (fun n => rslots_any M eb eo E.es.length ec fn (E.ent fn).2 (w1.drewN n) m1 hfnl he2)
  have Hoj := Lib.hid hoj
  clear hoj zo tob he2
  simp only [hb1] at HS
  have d0 : decide (f.next < 0) = true := decide_eq_true hn
  have m7 : w1.cell? ⟨M, 7, none⟩ = some (.int .u8 s1.end_) := (H1.out.cellM 7).trans (rC_get V s1 false).2.2.2.2.2.1
  have z7 := H1.out.frzM 7
  go_quiet ((go_at_call 33; exact Calls.quiet_of_same (HS.out _)))
  go_wp2_with fail
  have tM : 2 < t M := by have := H1.out.tm; omega
  refine bodyPost_ret (results_none rfl _ _ _) rfl ⟨rfl, ?_⟩
  have R := (H1.out.drew nq).end' 8
  have FX := (HF1.out.drewN nq).set (g := M) (i := 7) (.int .u8 8) tM
  rw [HS0.out]
  rw [hs1] at R
  exact ⟨t, V, _, R, FX⟩
set_option maxRecDepth 100000 in
set_option maxHeartbeats 4000000 in
theorem rstep_o3 (w : World) (t : Nat → Nat) (base M : Nat) (E : Env) (V : RV) (ol : List (Fr × CV)) (f : Fr) (cv : CV) (s : St) (mk : Bool) (h : RRep w t base M E V (ol ++ [(f, cv)]) s mk) (hol : ol.length ≤ 99)
    (hf0 : 0 ≤ f.fn) (hf1 : f.fn < E.es.length) (_hel : E.es.length ≤ 1000000) (_hwl : E.ws.length ≤ 1000000) (hb1 : slotsOk (E.ent f.fn).2 = true) (hn0 : 0 ≤ f.next) (hn : (E.ws.length : Int) ≤ f.next) :
    Calls Tryd.prog 24 #[.pointer (some ⟨M, 0, none⟩)] w fun e w' => e = .returned (.tuple #[]) ∧ RPost w t base M E (stepF E s).1 ((stepF E s).2 == 44) w' := by
  obtain ⟨ob, oc, hov, hoc, hob, tob, nOM, zo, hoj⟩ := h.topC
  have k4 : w.cell? ⟨ob, ol.length * 8 + 4, none⟩ = some (.int .i64 f.next) := hoj 4 (by omega)
  have m6 : w.cell? ⟨M, 6, none⟩ = some (.slice (some ⟨ob, 0, none⟩) (ol.length + 1) oc) := (h.cellM 6).trans (by rw [(rC_get V s mk).2.2.2.2.1, hov])
  have m11 : w.cell? ⟨M, 11, none⟩ = some (.int .i64 s.steps) := (h.cellM 11).trans (rC_get V s mk).2.2.2.2.2.2.2.2.2.1
  have m13 : w.cell? ⟨M, 13, none⟩ = some (.int .i64 s.at_) := (h.cellM 13).trans (rC_get V s mk).2.2.2.2.2.2.2.2.2.2.2.1
  have m14 : w.cell? ⟨M, 14, none⟩ = some (.bool mk) := (h.cellM 14).trans (rC_get V s mk).2.2.2.2.2.2.2.2.2.2.2.2
  have z11 := h.frzM 11
  have z13 := h.frzM 13
  have z14 := h.frzM 14
  have nMO : ¬ M = ob := fun e => nOM e.symm
  have hlM : M < w.heap.size := (Array.getElem?_eq_some_iff.1 h.hm).1
  have mixed : Tryd.prog.follows Departure.mixedOrders = true := by kernel_rfl
  have H := Lib.hid h
  clear h hoj zo tob
  go_enter Tryd.func24, Tryd.ntmps24
  go_wp2_with fail
  go_quiet (fail)
  go_wp2_with fail
  obtain ⟨w1, hw1⟩ : ∃ w1, w1 = ((((w.setCell ⟨M, 14, none⟩ (.bool false)).setCell ⟨M, 11, none⟩ (.int .i64 (wrap64 (s.steps + 1)))).drewN nq).setCell ⟨M, 13, none⟩ (.int .i64 f.next)) := ⟨_, rfl⟩
  rw [← hw1]
  obtain ⟨s1, hs1⟩ : ∃ s1 : St, s1 = { s with steps := wrap64 (s.steps + 1), at_ := f.next } := ⟨_, rfl⟩
  have H1 : Hid (RRep w1 t base M E V (ol ++ [(f, cv)]) s1 false) := by
    rw [hw1, hs1]
    exact (((H.out.mk' false).steps' _).drew nq).at' _
  have HF1 : Hid (Fx w w1 t t) := by
    have tm := H.out.tm
    rw [hw1]
    exact ((((Fx.refl w t).set (g := M) (i := 14) (.bool false) (by omega)).set (g := M) (i := 11) (.int .i64 (wrap64 (s.steps + 1))) (by omega)).drewN nq).set (g := M) (i := 13) (.int .i64 f.next) (by omega)
  have HS0 := Lib.hid (stepF_bad (E := E) H.out.opn (by rw [hb1, decide_eq_true hn]; simp))
  have hlM1 : M < w1.heap.size := by rw [hw1]; simpa using hlM
  have hob1 : ob < w1.heap.size := by rw [hw1]; simpa using hob
  clear hw1 m6 m11 m13 m14 z11 z13 z14 k4 hlM hob H
  obtain ⟨ob', oc', hov', _, _, tob, _, zo, hoj⟩ := H1.out.topC
  rw [hov] at hov'
  simp only [Value.slice.injEq, Option.some.injEq, Addr.mk.injEq, and_true, true_and] at hov'
  obtain ⟨rfl, rfl⟩ := hov'
  obtain ⟨wa, wc0, hwv⟩ := Rd.shape H1.out.env.hw
  obtain ⟨eb, eo, ec, hev, -, he2, hleb, -⟩ := H1.out.env.ent hf0 hf1
  obtain ⟨fn, hfn⟩ : ∃ fn : Nat, f.fn = fn := ⟨f.fn.toNat, by omega⟩
  rw [hfn] at hb1
  rw [hfn, Int.toNat_natCast] at he2
  have k0 : w1.cell? ⟨ob, ol.length * 8, none⟩ = some (.int .i64 fn) := by rw [← hfn]; exact hoj 0 (by omega)
  have k4 : w1.cell? ⟨ob, ol.length * 8 + 4, none⟩ = some (.int .i64 f.next) := hoj 4 (by omega)
  have m0 : w1.cell? ⟨M, 0, none⟩ = some (.slice wa E.ws.length wc0) := (H1.out.cellM 0).trans (by rw [(rC_get V s1 false).1, hwv])
  have m1 : w1.cell? ⟨M, 1, none⟩ = some (.slice (some ⟨eb, eo, none⟩) E.es.length ec) := (H1.out.cellM 1).trans (by rw [(rC_get V s1 false).2.1, hev])
  have hfnl : fn < E.es.length := by omega
  have HS := Lib.hid (fun n => rslots_any M eb eo E.es.length ec fn (E.ent fn).2 (w1.drewN n) m1 hfnl he2)
  have Hoj := Lib.hid hoj
  clear hoj zo tob he2
  simp only [hb1] at HS
  have d0 : decide (f.next < 0) = false := decide_eq_false (by omega)
  have d1 : decide ((E.ws.length : Int) ≤ f.next) = true := decide_eq_true hn
  have m7 : w1.cell? ⟨M, 7, none⟩ = some (.int .u8 s1.end_) := (H1.out.cellM 7).trans (rC_get V s1 false).2.2.2.2.2.1
  have z7 := H1.out.frzM 7
  go_quiet ((go_at_call 33; exact Calls.quiet_of_same (HS.out _)))
  go_wp2_with fail
  have tM : 2 < t M := by have := H1.out.tm; omega
  refine bodyPost_ret (results_none rfl _ _ _) rfl ⟨rfl, ?_⟩
  have R := (H1.out.drew nq).end' 8
  have FX := (HF1.out.drewN nq).set (g := M) (i := 7) (.int .u8 8) tM
  rw [HS0.out]
  rw [hs1] at R
  exact ⟨t, V, _, R, FX⟩
end Go.Proofs.YtnanlkoldloolaaDoor.Mach

/- The document's machine: a step that goes wrong by what the image is (no instruction). Printed by gen_rbad.py. -/
namespace Go.Proofs.YtnanlkoldloolaaDoor.Mach
open Go.RowKit

set_option maxRecDepth 100000 in
set_option maxHeartbeats 4000000 in
theorem rstep_p (w : World) (t : Nat → Nat) (base M : Nat) (E : Env) (V : RV) (ol : List (Fr × CV)) (f : Fr) (cv : CV) (s : St) (mk : Bool) (h : RRep w t base M E V (ol ++ [(f, cv)]) s mk) (hol : ol.length ≤ 99)
    (hf0 : 0 ≤ f.fn) (hf1 : f.fn < E.es.length) (_hel : E.es.length ≤ 1000000) (_hwl : E.ws.length ≤ 1000000) (hb1 : slotsOk (E.ent f.fn).2 = true) (hn0 : 0 ≤ f.next) (hn1 : f.next < E.ws.length) (x : W) (hx : x = E.ws.getD f.next.toNat W.zero) (hok : x.ok) (hform : formB x = false) :
    Calls Tryd.prog 24 #[.pointer (some ⟨M, 0, none⟩)] w fun e w' => e = .returned (.tuple #[]) ∧ RPost w t base M E (stepF E s).1 ((stepF E s).2 == 44) w' := by
  obtain ⟨ob, oc, hov, hoc, hob, tob, nOM, zo, hoj⟩ := h.topC
  have k4 : w.cell? ⟨ob, ol.length * 8 + 4, none⟩ = some (.int .i64 f.next) := hoj 4 (by omega)
  have m6 : w.cell? ⟨M, 6, none⟩ = some (.slice (some ⟨ob, 0, none⟩) (ol.length + 1) oc) := (h.cellM 6).trans (by rw [(rC_get V s mk).2.2.2.2.1, hov])
  have m11 : w.cell? ⟨M, 11, none⟩ = some (.int .i64 s.steps) := (h.cellM 11).trans (rC_get V s mk).2.2.2.2.2.2.2.2.2.1
  have m13 : w.cell? ⟨M, 13, none⟩ = some (.int .i64 s.at_) := (h.cellM 13).trans (rC_get V s mk).2.2.2.2.2.2.2.2.2.2.2.1
  have m14 : w.cell? ⟨M, 14, none⟩ = some (.bool mk) := (h.cellM 14).trans (rC_get V s mk).2.2.2.2.2.2.2.2.2.2.2.2
  have z11 := h.frzM 11
  have z13 := h.frzM 13
  have z14 := h.frzM 14
  have nMO : ¬ M = ob := fun e => nOM e.symm
  have hlM : M < w.heap.size := (Array.getElem?_eq_some_iff.1 h.hm).1
  have mixed : Tryd.prog.follows Departure.mixedOrders = true := by kernel_rfl
  have H := Lib.hid h
  clear h hoj zo tob
  go_enter Tryd.func24, Tryd.ntmps24
  go_wp2_with fail
  go_quiet (fail)
  go_wp2_with fail
  obtain ⟨w1, hw1⟩ : ∃ w1, w1 = ((((w.setCell ⟨M, 14, none⟩ (.bool false)).setCell ⟨M, 11, none⟩ (.int .i64 (wrap64 (s.steps + 1)))).drewN nq).setCell ⟨M, 13, none⟩ (.int .i64 f.next)) := ⟨_, rfl⟩
  rw [← hw1]
  obtain ⟨s1, hs1⟩ : ∃ s1 : St, s1 = { s with steps := wrap64 (s.steps + 1), at_ := f.next } := ⟨_, rfl⟩
  have H1 : Hid (RRep w1 t base M E V (ol ++ [(f, cv)]) s1 false) := by
    rw [hw1, hs1]
    exact (((H.out.mk' false).steps' _).drew nq).at' _
  have HF1 : Hid (Fx w w1 t t) := by
    have tm := H.out.tm
    rw [hw1]
    exact ((((Fx.refl w t).set (g := M) (i := 14) (.bool false) (by omega)).set (g := M) (i := 11) (.int .i64 (wrap64 (s.steps + 1))) (by omega)).drewN nq).set (g := M) (i := 13) (.int .i64 f.next) (by omega)
  have HS0 := Lib.hid (stepF_unform H.out.opn hb1 hn0 hn1 hx hform)
  have hlM1 : M < w1.heap.size := by rw [hw1]; simpa using hlM
  have hob1 : ob < w1.heap.size := by rw [hw1]; simpa using hob
  clear hw1 m6 m11 m13 m14 z11 z13 z14 k4 hlM hob H
  obtain ⟨ob', oc', hov', _, _, tob, _, zo, hoj⟩ := H1.out.topC
  rw [hov] at hov'
  simp only [Value.slice.injEq, Option.some.injEq, Addr.mk.injEq, and_true, true_and] at hov'
  obtain ⟨rfl, rfl⟩ := hov'
  obtain ⟨wa, wc0, hwv⟩ := Rd.shape H1.out.env.hw
  obtain ⟨eb, eo, ec, hev, -, he2, hleb, -⟩ := H1.out.env.ent hf0 hf1
  obtain ⟨fn, hfn⟩ : ∃ fn : Nat, f.fn = fn := ⟨f.fn.toNat, by omega⟩
  rw [hfn] at hb1
  rw [hfn, Int.toNat_natCast] at he2
  have k0 : w1.cell? ⟨ob, ol.length * 8, none⟩ = some (.int .i64 fn) := by rw [← hfn]; exact hoj 0 (by omega)
  have k4 : w1.cell? ⟨ob, ol.length * 8 + 4, none⟩ = some (.int .i64 f.next) := hoj 4 (by omega)
  have m0 : w1.cell? ⟨M, 0, none⟩ = some (.slice wa E.ws.length wc0) := (H1.out.cellM 0).trans (by rw [(rC_get V s1 false).1, hwv])
  have m1 : w1.cell? ⟨M, 1, none⟩ = some (.slice (some ⟨eb, eo, none⟩) E.es.length ec) := (H1.out.cellM 1).trans (by rw [(rC_get V s1 false).2.1, hev])
  have hfnl : fn < E.es.length := by omega
  have HS := Lib.hid (fun n => rslots_any M eb eo E.es.length ec fn (E.ent fn).2 (w1.drewN n) m1 hfnl he2)
  have Hoj := Lib.hid hoj
  clear hoj zo tob he2
  simp only [hb1] at HS
  have d0 : decide (f.next < 0) = false := decide_eq_false (by omega)
  have d1 : decide ((E.ws.length : Int) ≤ f.next) = false := decide_eq_false (by omega)
  go_quiet ((go_at_call 33; exact Calls.quiet_of_same (HS.out _)))
  go_wp2_with fail
  obtain ⟨w2, hw2⟩ : ∃ w2, w2 = w1.drewN nq := ⟨_, rfl⟩
  rw [← hw2]
  have H2 : Hid (RRep w2 t base M E V (ol ++ [(f, cv)]) s1 false) := by rw [hw2]; exact H1.out.drew nq
  have HF2 : Hid (Fx w w2 t t) := by rw [hw2]; exact HF1.out.drewN nq
  have hsz : w2.heap.size = w1.heap.size := by rw [hw2]; rfl
  rw [← hsz] at hlM1 hob1 hleb
  have m0' : w2.cell? ⟨M, 0, none⟩ = some (.slice wa E.ws.length wc0) := by rw [hw2]; exact m0
  have k4' : w2.cell? ⟨ob, ol.length * 8 + 4, none⟩ = some (.int .i64 f.next) := by rw [hw2]; exact k4
  have Hoj' : Hid (∀ j, j < 8 → w2.cell? ⟨ob, ol.length * 8 + j, none⟩ = (callC (f, cv))[j]?) := by rw [hw2]; exact Hoj.out
  clear HS m0 k4 k0 m1 hsz Hoj H1 hw2
  obtain ⟨wb, wo, wc, hwv', x0, x1, x2, x3, x4, hlwb, -⟩ := H2.out.env.word hn0 hn1
  obtain ⟨nx, hnx⟩ : ∃ nx : Nat, f.next = nx := ⟨f.next.toNat, by omega⟩
  rw [← hx] at x0 x1 x2 x3 x4
  rw [hnx, Int.toNat_natCast] at x0 x1 x2 x3 x4
  rw [hwv] at hwv'
  simp only [Value.slice.injEq, true_and] at hwv'
  obtain ⟨rfl, rfl⟩ := hwv'
  rw [hnx] at k4'
  have hnx0 : (0 : Int) ≤ (nx : Int) := by omega
  have hnx1 : (nx : Int) < (E.ws.length : Int) := by omega
  have k1' : w2.cell? ⟨ob, ol.length * 8 + 1, none⟩ = some (.int .i64 cv.at_) := Hoj'.out 1 (by omega)
  have z1 : w2.frozen? ⟨ob, ol.length * 8 + 1, none⟩ = false := ofrz (hov ▸ H2.out.ho.own) _
  have z4 : w2.frozen? ⟨ob, ol.length * 8 + 4, none⟩ = false := ofrz (hov ▸ H2.out.ho.own) _
  rw [hnx] at hx
  rw [Int.toNat_natCast] at hx
  have HX : Hid _ := hx
  obtain ⟨op, xa, xb, xc, imm⟩ := x
  obtain ⟨⟨p0, p1⟩, ⟨pa, pa'⟩, ⟨pb, pb'⟩, ⟨pc, pc'⟩, ⟨pi, pi'⟩⟩ : (0 ≤ op ∧ op ≤ 255) ∧ (0 ≤ xa ∧ xa ≤ 255) ∧ (0 ≤ xb ∧ xb ≤ 255) ∧ (0 ≤ xc ∧ xc ≤ 255) ∧ (-9223372036854775808 ≤ imm ∧ imm ≤ 9223372036854775807) := hok
  simp only at x0 x1 x2 x3 x4
  clear hx
  go_upto_region 6 with fail
  go_region
  all_goals go_wp2_with fail
  obtain ⟨w3, hw3⟩ : ∃ w3, w3 = (((w2.setCell ⟨ob, ol.length * 8 + 1, none⟩ (.int .i64 nx)).setCell ⟨ob, ol.length * 8 + 4, none⟩ (.int .i64 (nx + 1))).alloc (.cells #[.int .u8 op, .int .u8 xa, .int .u8 xb, .int .u8 xc, .int .i64 imm] 47)).drew := ⟨_, rfl⟩
  rw [← hw3]
  have hsz3 : w3.heap.size = w2.heap.size + 1 := by rw [hw3]; simp
  have H3 : Hid (RRep w3 t base M E V (ol ++ [({ f with next := nx + 1 }, { cv with at_ := nx })]) (s1.top (ol.map Prod.fst) { f with next := nx + 1 }) false) := by
    rw [hw3]
    exact ((H2.out.atc' hov nx).next' hov (nx + 1)).below (((Below.refl _ _).alloc (Nat.le_refl _) _).drew)
  have hltw : ∀ k, t k ≠ 0 → k < w2.heap.size := H2.out.lt
  have HF3 : Hid (Fx w w3 t t) := by
    have tob : t ob = 4 := H2.out.ho.tag ob (by simp [hov, Value.ownBlock])
    rw [hw3]
    exact ((HF2.out.set (g := ob) (i := ol.length * 8 + 1) (.int .i64 nx) (by omega)).set (g := ob) (i := ol.length * 8 + 4) (.int .i64 (nx + 1)) (by omega)).later (((Below.refl _ _).alloc (Nat.le_refl _) _).drew)
  have hx3 : w3.heap[w2.heap.size]? = some (.cells #[.int .u8 op, .int .u8 xa, .int .u8 xb, .int .u8 xc, .int .i64 imm] 47 (0, 0)) := by
    rw [hw3]
    have := heap_alloc_new ((w2.setCell ⟨ob, ol.length * 8 + 1, none⟩ (.int .i64 nx)).setCell ⟨ob, ol.length * 8 + 4, none⟩ (.int .i64 (nx + 1))) (.cells #[.int .u8 op, .int .u8 xa, .int .u8 xb, .int .u8 xc, .int .i64 imm] 47)
    simp only [World.size_setCell] at this
    exact this
  clear hw3 x0 x1 x2 x3 x4 k1' k4' z1 z4 m0' Hoj' H2
  refine (refForm_any op xa xb xc imm w3 p0 p1 pa pb pc pi' pi).mono ?_
  rintro e w4 ⟨rfl, hb4⟩
  rw [hform]
  have H4 := Lib.hid (H3.out.below hb4)
  have HF4 : Hid (Fx w w4 t t) := HF3.out.later hb4
  have m7 : w4.cell? ⟨M, 7, none⟩ = some (.int .u8 s1.end_) := (H4.out.cellM 7).trans (rC_get V _ false).2.2.2.2.2.1
  have z7 := H4.out.frzM 7
  have hlM4 : M < w4.heap.size := (Array.getElem?_eq_some_iff.1 H4.out.hm).1
  clear hx3 hb4 H3 hsz3
  go_wp2_with fail
  have tM : 2 < t M := by have := H4.out.tm; omega
  refine bodyPost_ret (results_none rfl _ _ _) rfl ⟨rfl, ?_⟩
  have R := H4.out.end' 8
  have FX := HF4.out.set (g := M) (i := 7) (.int .u8 8) tM
  rw [HS0.out]
  rw [hs1, ← hnx] at R
  exact ⟨t, V, _, R, FX⟩
end Go.Proofs.YtnanlkoldloolaaDoor.Mach
