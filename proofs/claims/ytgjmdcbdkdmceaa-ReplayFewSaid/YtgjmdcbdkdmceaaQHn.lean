/- The program's machine: an instruction, whatever it is; a step. -/
import Derived.Test.YtgjmdcbdkdmceaaQHd
import Derived.Test.YtgjmdcbdkdmceaaQHg
import Derived.Test.YtgjmdcbdkdmceaaQHi
import Derived.Test.YtgjmdcbdkdmceaaQHj
import Derived.Test.YtgjmdcbdkdmceaaQHk
import Derived.Test.YtgjmdcbdkdmceaaQ18
namespace Go.Proofs.Ytgjmdcbdkdmceaa.Mach
open Go.RowKit

theorem do_any (w : World) (t : Nat → Nat) (base M : Nat) (E : Env) (V : MV) (ol : List (Fr × FV)) (f : Fr) (cv : FV) (s : St) (h : MRep w t base M E V (ol ++ [(f, cv)]) s) (x : W) (hok : x.ok) (hform : formB x = true) (hf : FrOk E f) (L : Nat) (hs : Sane E L s) (hL : L ≤ 1000000) (hE : EnvOk E) :
    Calls Try.prog 62 #[.pointer (some ⟨M, 0, none⟩), .pointer (some ⟨cv.blk, 0, none⟩), .agg #[.int .u8 x.op, .int .u8 x.a, .int .u8 x.b, .int .u8 x.c, .int .i64 x.imm]] w fun e w' =>
      e = .returned (.tuple #[]) ∧ MPost w t base M E (doF E s (ol.map Prod.fst) f x) w' := by
  obtain ⟨op, a, b, c, imm⟩ := x
  obtain ⟨⟨p0, p1⟩, ⟨pa, pa'⟩, ⟨pb, pb'⟩, ⟨pc, pc'⟩, pi⟩ : (0 ≤ op ∧ op ≤ 255) ∧ (0 ≤ a ∧ a ≤ 255) ∧ (0 ≤ b ∧ b ≤ 255) ∧ (0 ≤ c ∧ c ≤ 255) ∧ (-9223372036854775808 ≤ imm ∧ imm ≤ 9223372036854775807) := hok
  obtain ⟨ra, rb, rc⟩ := formB_regs hform
  obtain ⟨na, rfl⟩ : ∃ n : Nat, a = n := ⟨a.toNat, by omega⟩
  obtain ⟨nb, rfl⟩ : ∃ n : Nat, b = n := ⟨b.toNat, by omega⟩
  obtain ⟨nc, rfl⟩ : ∃ n : Nat, c = n := ⟨c.toNat, by omega⟩
  have ia : na < 16 := by omega
  have ib : nb < 16 := by omega
  have ic : nc < 16 := by omega
  by_cases hD : op ≤ 29 ∨ 49 ≤ op
  · exact do_D w t base M E V ol f cv s h op hD p0 p1 na nb nc ia ib ic imm pi hform hf L hs hL hE
  have hop : op = 30 ∨ op = 31 ∨ op = 32 ∨ op = 33 ∨ op = 34 ∨ op = 35 ∨ op = 36 ∨ op = 37 ∨ op = 38 ∨ op = 39 ∨ op = 40 ∨ op = 41 ∨ op = 42 ∨ op = 43 ∨ op = 44 ∨ op = 45 ∨ op = 46 ∨ op = 47 ∨ op = 48 := by omega
  clear hD
  rcases hop with rfl | rfl | rfl | rfl | rfl | rfl | rfl | rfl | rfl | rfl | rfl | rfl | rfl | rfl | rfl | rfl | rfl | rfl | rfl
  · exact do_30 w t base M E V ol f cv s h na nb nc ia ib ic imm pi hform hf L hs hL hE
  · exact do_31 w t base M E V ol f cv s h na nb nc ia ib ic imm pi hform hf L hs hL hE
  · exact do_32 w t base M E V ol f cv s h na nb nc ia ib ic imm pi hform hf L hs hL hE
  · exact do_33 w t base M E V ol f cv s h na nb nc ia ib ic imm pi hform hf L hs hL hE
  · exact do_34 w t base M E V ol f cv s h na nb nc ia ib ic imm pi hform hf L hs hL hE
  · exact do_35 w t base M E V ol f cv s h na nb nc ia ib ic imm pi hform hf L hs hL hE
  · exact do_36 w t base M E V ol f cv s h na nb nc ia ib ic imm pi hform hf L hs hL hE
  · exact do_37 w t base M E V ol f cv s h na nb nc ia ib ic imm pi hform hf L hs hL hE
  · exact do_38 w t base M E V ol f cv s h na nb nc ia ib ic imm pi hform hf L hs hL hE
  · exact do_39 w t base M E V ol f cv s h na nb nc ia ib ic imm pi hform hf L hs hL hE
  · exact do_40 w t base M E V ol f cv s h na nb nc ia ib ic imm pi hform hf L hs hL hE
  · exact do_41 w t base M E V ol f cv s h na nb nc ia ib ic imm pi hform hf L hs hL hE
  · exact do_42 w t base M E V ol f cv s h na nb nc ia ib ic imm pi hform hf L hs hL hE
  · exact do_43 w t base M E V ol f cv s h na nb nc ia ib ic imm pi hform hf L hs hL hE
  · exact do_44 w t base M E V ol f cv s h na nb nc ia ib ic imm pi hform hf L hs hL hE
  · exact do_45 w t base M E V ol f cv s h na nb nc ia ib ic imm pi hform hf L hs hL hE
  · exact do_46 w t base M E V ol f cv s h na nb nc ia ib ic imm pi hform hf L hs hL hE
  · exact do_47 w t base M E V ol f cv s h na nb nc ia ib ic imm pi hform hf L hs hL hE
  · exact do_48 w t base M E V ol f cv s h na nb nc ia ib ic imm pi hform hf L hs hL hE
theorem doF_top (E : Env) (s : St) (os : List Fr) (g f : Fr) (x : W) : doF E (s.top os g) os f x = doF E s os f x := by
  unfold doF; rfl
theorem mstepF_is {E : Env} {s : St} {os : List Fr} {f : Fr} {x : W} (hopn : s.opn = os ++ [f]) (hb1 : slotsOk (E.ent f.fn).2 = true) (hn0 : 0 ≤ f.next) (hn1 : f.next < E.ws.length) (hx : x = E.ws.getD f.next.toNat W.zero) (hform : formB x = true) :
    stepF E s = (doF E { s with steps := wrap64 (s.steps + 1), at_ := f.next } os { f with next := f.next + 1 } x, x.op) := by
  have d0 : decide (f.next < 0) = false := decide_eq_false (by omega)
  have d1 : decide ((E.ws.length : Int) ≤ f.next) = false := decide_eq_false (by omega)
  unfold stepF
  rw [hopn, List.getLast?_append]
  simp only [List.getLast?_singleton, Option.some_or, hb1, d0, d1, Bool.not_true, Bool.or_self, Bool.false_eq_true, if_false, List.dropLast_concat, ← hx, hform, if_true]
theorem mstepF_bad {E : Env} {s : St} {os : List Fr} {f : Fr} (hopn : s.opn = os ++ [f]) (hb : (!slotsOk (E.ent f.fn).2 || decide (f.next < 0) || decide ((E.ws.length : Int) ≤ f.next)) = true) :
    stepF E s = (({ s with steps := wrap64 (s.steps + 1), at_ := f.next } : St).ends 8, 0) := by
  have e : s.opn.getLast? = some f := by rw [hopn, List.getLast?_append]; simp
  unfold stepF
  simp only [e, hb, if_true]
theorem mstepF_unform {E : Env} {s : St} {os : List Fr} {f : Fr} {x : W} (hopn : s.opn = os ++ [f]) (hb1 : slotsOk (E.ent f.fn).2 = true) (hn0 : 0 ≤ f.next) (hn1 : f.next < E.ws.length) (hx : x = E.ws.getD f.next.toNat W.zero) (hform : formB x = false) :
    stepF E s = ((({ s with steps := wrap64 (s.steps + 1), at_ := f.next } : St).ends 8).top os { f with next := f.next + 1 }, 0) := by
  have d0 : decide (f.next < 0) = false := decide_eq_false (by omega)
  have d1 : decide ((E.ws.length : Int) ≤ f.next) = false := decide_eq_false (by omega)
  have e : s.opn.getLast? = some f := by rw [hopn, List.getLast?_append]; simp
  have e2 : s.opn.dropLast = os := by rw [hopn, List.dropLast_concat]
  unfold stepF
  simp only [e, hb1, d0, d1, Bool.not_true, Bool.or_self, Bool.false_eq_true, if_false, e2, ← hx, hform]
set_option maxRecDepth 100000 in
set_option maxHeartbeats 4000000 in
theorem mstep_any (w : World) (t : Nat → Nat) (base M : Nat) (E : Env) (V : MV) (cl : List (Fr × FV)) (s : St) (h : MRep w t base M E V cl s) (hE : EnvOk E) (L : Nat) (hs : Sane E L s) (hL : L ≤ 1000000) (h0 : s.end_ = 0) :
    Calls Try.prog 42 #[.pointer (some ⟨M, 0, none⟩)] w fun e w' => e = .returned (.int .u8 (stepF E s).2) ∧ MPost w t base M E (stepF E s).1 w' := by
  have hne : s.opn ≠ [] := fun e => by have := hs.o.1 e; omega
  obtain ⟨ol, f, cv, rfl⟩ : ∃ ol f cv, cl = ol ++ [(f, cv)] := by
    rcases List.eq_nil_or_concat cl with e | ⟨ol, p, e⟩
    · have := h.opn; rw [e] at this; exact absurd this hne
    · exact ⟨ol, p.1, p.2, by rw [e, List.concat_eq_append]⟩
  have hopn : s.opn = ol.map Prod.fst ++ [f] := by rw [h.opn]; simp
  have hol : ol.length ≤ 99 := by have h1 := hs.n; rw [hopn] at h1; simp at h1; omega
  have hf : FrOk E f := hs.fr f (by rw [hopn]; simp)
  obtain ⟨ob, oc, hov, hoc, hlob, tob, nOM, zob, pob⟩ := h.topP
  have m7 : w.cell? ⟨M, 7, none⟩ = some (.int .i64 s.steps) := (h.cellM 7).trans (mC_get V s).2.2.2.2.2.1
  have HA := Lib.hid (addw_any M 7 s.steps w m7 (h.frzM 7))
  have mixed : Try.prog.follows Departure.mixedOrders = true := by kernel_rfl
  obtain ⟨w1, hw1⟩ : ∃ w1, w1 = w.setCell ⟨M, 7, none⟩ (.int .i64 (wrap64 (s.steps + 1))) := ⟨_, rfl⟩
  have hM1 : MRep w1 t base M E V (ol ++ [(f, cv)]) { s with steps := wrap64 (s.steps + 1) } := by rw [hw1]; exact h.steps' _
  have hF1 : Fx w w1 t t := by rw [hw1]; exact (Fx.refl w t).set _ (by have := h.tm; omega)
  have m51 : w1.cell? ⟨M, 5, none⟩ = some (.slice (some ⟨ob, 0, none⟩) (ol.length + 1) oc) := (hM1.cellM 5).trans (by rw [(mC_get V _).2.2.2.1, hov])
  obtain ⟨ob', oc', hov', _, _, _, _, _, pob1⟩ := hM1.topP
  rw [hov] at hov'
  simp only [Value.slice.injEq, Option.some.injEq, Addr.mk.injEq, and_true, true_and] at hov'
  obtain ⟨rfl, rfl⟩ := hov'
  have p1 : w1.cell? ⟨ob, 0 + ol.length, none⟩ = some (.pointer (some ⟨cv.blk, 0, none⟩)) := by rw [Nat.zero_add]; exact pob1
  have HN := Lib.hid (now_any M ob 0 ol.length oc cv.blk w1 m51 p1 (by omega))
  rw [← hw1] at HA
  have H1 := Lib.hid hM1
  have F1 := Lib.hid hF1
  have HS := Lib.hid hs
  have HF := Lib.hid hf
  have HEE := Lib.hid hE
  have HO := Lib.hid hopn
  clear h hw1 hM1 hF1 hs hf hE m7 m51 p1 pob pob1 zob hopn
  go_enter Try.func42, Try.ntmps42
  go_wp2_with fail
  refine HA.out.mono ?_
  rintro e w1' ⟨rfl, hw⟩
  have hw := hw.symm
  subst hw
  go_wp2_with fail
  refine HN.out.mono ?_
  rintro e w2 ⟨rfl, q, hw2⟩
  obtain ⟨s1, hs1⟩ : ∃ s1 : St, s1 = { s with steps := wrap64 (s.steps + 1) } := ⟨_, rfl⟩
  have H2 : Hid (MRep w2 t base M E V (ol ++ [(f, cv)]) s1) := by rw [hw2, hs1]; exact H1.out.drew q
  have F2 : Hid (Fx w w2 t t) := by rw [hw2]; exact F1.out.drewN q
  clear hw2 H1 F1 HA HN
  have hp := H2.out.fr.last
  obtain ⟨F, hFF⟩ : ∃ F, F = cv.blk := ⟨_, rfl⟩
  rw [← hFF]
  obtain ⟨fn, hfn⟩ : ∃ n : Nat, f.fn = n := ⟨f.fn.toNat, by have := HF.out.fn; omega⟩
  have hfnl : fn < E.es.length := by have := HF.out.fn; omega
  have k0 : w2.cell? ⟨F, 0, none⟩ = some (.int .i64 fn) := by rw [hFF, hp.cellF, (fL_fn f cv).1, hfn]
  have k1 : w2.cell? ⟨F, 1, none⟩ = some (.int .i64 f.next) := by rw [hFF, hp.cellF, (fL_fn f cv).2]
  have z1 : w2.frozen? ⟨F, 1, none⟩ = false := by rw [hFF]; exact hp.frz _
  obtain ⟨eb, eo, ec, hev, -, he2, hleb, -⟩ := H2.out.env.ent HF.out.fn.1 HF.out.fn.2
  rw [hfn, Int.toNat_natCast] at he2
  have m1 : w2.cell? ⟨M, 1, none⟩ = some (.slice (some ⟨eb, eo, none⟩) E.es.length ec) := (H2.out.cellM 1).trans (by rw [(mC_get V s1).2.1, hev])
  obtain ⟨wa, wc0, hwv⟩ := Rd.shape H2.out.env.hw
  have m0 : w2.cell? ⟨M, 0, none⟩ = some (.slice wa E.ws.length wc0) := (H2.out.cellM 0).trans (by rw [(mC_get V s1).1, hwv])
  have m14 : w2.cell? ⟨M, 14, none⟩ = some (.int .i64 s1.at_) := (H2.out.cellM 14).trans (mC_get V s1).2.2.2.2.2.2.2.2.2.2.2.1
  have z14 := H2.out.frzM 14
  have HSL := Lib.hid (mslots_any M eb eo E.es.length ec fn (E.ent fn).2 w2 m1 hfnl he2)
  have hlM2 : M < w2.heap.size := H2.out.ltM
  have hlF2 : F < w2.heap.size := by rw [hFF]; exact hp.lt
  have nFM : ¬ F = M := fun e => by have h1 := hp.tf; rw [← hFF, e, H2.out.tm] at h1; omega
  have nMF : ¬ M = F := fun e => nFM e.symm
  have tM : 2 < t M := by rw [H2.out.tm]; omega
  have tF : 2 < t F := by rw [hFF, hp.tf]; omega
  have HFN := Lib.hid hfn
  have HFF := Lib.hid hFF
  have HS1 := Lib.hid hs1
  clear hp hFF hfn he2 hs1
  go_wp2_with fail
  refine HSL.out.mono ?_
  rintro e w2' ⟨rfl, hw⟩
  have hw := hw.symm
  subst hw
  clear HSL
  cases hb : slotsOk (E.ent fn).2
  case false =>
    have HB := Lib.hid (show (!slotsOk (E.ent f.fn).2 || decide (f.next < 0) || decide ((E.ws.length : Int) ≤ f.next)) = true by rw [HFN.out, hb]; rfl)
    clear hb
    go_wp2_with fail
    go_quiet (fail)
    go_wp2_with fail
    have R3 := (H2.out.drew nq).at' f.next
    refine (ends_any M s1.end_ 8 ((w2.drewN nq).setCell ⟨M, 14, none⟩ (.int .i64 f.next)) ((R3.cellM 8).trans (mC_get _ _).2.2.2.2.2.2.1) (R3.frzM 8)).mono ?_
    rintro e w4 ⟨rfl, rfl⟩
    have HR := Lib.hid (R3.end' 8)
    clear R3
    go_wp2_with fail
    go_ret
    rw [mstepF_bad HO.out HB.out]
    refine ⟨rfl, t, V, ol ++ [(f, cv)], ?_, ((F2.out.drewN nq).set (g := M) (i := 14) (.int .i64 f.next) tM).set (g := M) (i := 8) (.int .u8 8) tM⟩
    have R := HR.out
    rw [HS1.out] at R
    exact R
  case true =>
    have HB := Lib.hid (show slotsOk (E.ent f.fn).2 = true by rw [HFN.out, hb])
    clear hb
    by_cases hn0 : f.next < 0
    · have d0 : decide (f.next < 0) = true := decide_eq_true hn0
      have HB2 := Lib.hid (show (!slotsOk (E.ent f.fn).2 || decide (f.next < 0) || decide ((E.ws.length : Int) ≤ f.next)) = true by rw [d0]; simp)
      go_wp2_with fail
      go_quiet (fail)
      go_wp2_with fail
      have R3 := (H2.out.drew nq).at' f.next
      refine (ends_any M s1.end_ 8 ((w2.drewN nq).setCell ⟨M, 14, none⟩ (.int .i64 f.next)) ((R3.cellM 8).trans (mC_get _ _).2.2.2.2.2.2.1) (R3.frzM 8)).mono ?_
      rintro e w4 ⟨rfl, rfl⟩
      have HR := Lib.hid (R3.end' 8)
      clear R3
      go_wp2_with fail
      go_ret
      rw [mstepF_bad HO.out HB2.out]
      refine ⟨rfl, t, V, ol ++ [(f, cv)], ?_, ((F2.out.drewN nq).set (g := M) (i := 14) (.int .i64 f.next) tM).set (g := M) (i := 8) (.int .u8 8) tM⟩
      have R := HR.out
      rw [HS1.out] at R
      exact R
    by_cases hn1 : (E.ws.length : Int) ≤ f.next
    · have d0 : decide (f.next < 0) = false := decide_eq_false hn0
      have d1 : decide ((E.ws.length : Int) ≤ f.next) = true := decide_eq_true hn1
      have HB2 := Lib.hid (show (!slotsOk (E.ent f.fn).2 || decide (f.next < 0) || decide ((E.ws.length : Int) ≤ f.next)) = true by rw [d1]; simp)
      go_wp2_with fail
      go_quiet (fail)
      go_wp2_with fail
      have R3 := (H2.out.drew nq).at' f.next
      refine (ends_any M s1.end_ 8 ((w2.drewN nq).setCell ⟨M, 14, none⟩ (.int .i64 f.next)) ((R3.cellM 8).trans (mC_get _ _).2.2.2.2.2.2.1) (R3.frzM 8)).mono ?_
      rintro e w4 ⟨rfl, rfl⟩
      have HR := Lib.hid (R3.end' 8)
      clear R3
      go_wp2_with fail
      go_ret
      rw [mstepF_bad HO.out HB2.out]
      refine ⟨rfl, t, V, ol ++ [(f, cv)], ?_, ((F2.out.drewN nq).set (g := M) (i := 14) (.int .i64 f.next) tM).set (g := M) (i := 8) (.int .u8 8) tM⟩
      have R := HR.out
      rw [HS1.out] at R
      exact R
    have d0 : decide (f.next < 0) = false := decide_eq_false hn0
    have d1 : decide ((E.ws.length : Int) ≤ f.next) = false := decide_eq_false hn1
    go_wp2_with fail
    go_quiet (fail)
    go_wp2_with fail
    obtain ⟨w3, hw3⟩ : ∃ w3, w3 = w2.drewN nq := ⟨_, rfl⟩
    rw [← hw3]
    have H3 : Hid (MRep w3 t base M E V (ol ++ [(f, cv)]) s1) := by rw [hw3]; exact H2.out.drew nq
    have F3 : Hid (Fx w w3 t t) := by rw [hw3]; exact F2.out.drewN nq
    have k13 : w3.cell? ⟨F, 1, none⟩ = some (.int .i64 f.next) := by rw [hw3]; exact k1
    have z13 : w3.frozen? ⟨F, 1, none⟩ = false := by rw [hw3]; exact z1
    have m03 : w3.cell? ⟨M, 0, none⟩ = some (.slice wa E.ws.length wc0) := by rw [hw3]; exact m0
    have m143 : w3.cell? ⟨M, 14, none⟩ = some (.int .i64 s1.at_) := by rw [hw3]; exact m14
    have z143 : w3.frozen? ⟨M, 14, none⟩ = false := by rw [hw3]; exact z14
    have hlM3 : M < w3.heap.size := by rw [hw3]; exact hlM2
    have hlF3 : F < w3.heap.size := by rw [hw3]; exact hlF2
    clear hw3 H2 F2 k0 k1 z1 m0 m1 m14 z14 hlM2 hlF2 hleb hev
    have hn0' : 0 ≤ f.next := by omega
    have hn1' : f.next < E.ws.length := by omega
    obtain ⟨wb, wo, wc, hwv', x0, x1, x2, x3, x4, hlwb, -⟩ := H3.out.env.word hn0' hn1'
    obtain ⟨nx, hnx⟩ : ∃ nx : Nat, f.next = nx := ⟨f.next.toNat, by omega⟩
    obtain ⟨x, hx⟩ : ∃ x, x = E.ws.getD f.next.toNat W.zero := ⟨_, rfl⟩
    have hok : x.ok := by rw [hx]; exact HEE.out.ws _ (ws_mem hn0' hn1')
    rw [← hx] at x0 x1 x2 x3 x4
    rw [hnx, Int.toNat_natCast] at x0 x1 x2 x3 x4
    rw [hwv] at hwv'
    simp only [Value.slice.injEq, true_and] at hwv'
    obtain ⟨rfl, rfl⟩ := hwv'
    rw [hnx] at k13
    have hnx1 : (nx : Int) < (E.ws.length : Int) := by omega
    have hwl := HEE.out.wl
    have HX := Lib.hid hx
    have HNX := Lib.hid hnx
    obtain ⟨op, a, b, c, imm⟩ := x
    simp only at x0 x1 x2 x3 x4
    clear hx hnx hwv hn0 hn1 d0 d1
    go_region
    all_goals go_wp2_with fail
    obtain ⟨w4, hw4⟩ : ∃ w4, w4 = (((w3.setCell ⟨M, 14, none⟩ (.int .i64 nx)).setCell ⟨F, 1, none⟩ (.int .i64 (nx + 1))).alloc (.cells #[.int .u8 op, .int .u8 a, .int .u8 b, .int .u8 c, .int .i64 imm] 73)).drew := ⟨_, rfl⟩
    rw [← hw4]
    have hb4 : Below w3.heap.size ((w3.setCell ⟨M, 14, none⟩ (.int .i64 nx)).setCell ⟨F, 1, none⟩ (.int .i64 (nx + 1))) w4 := by
      rw [hw4]
      have := ((Below.refl ((w3.setCell ⟨M, 14, none⟩ (.int .i64 nx)).setCell ⟨F, 1, none⟩ (.int .i64 (nx + 1))).heap.size ((w3.setCell ⟨M, 14, none⟩ (.int .i64 nx)).setCell ⟨F, 1, none⟩ (.int .i64 (nx + 1)))).alloc (Nat.le_refl _) (.cells #[.int .u8 op, .int .u8 a, .int .u8 b, .int .u8 c, .int .i64 imm] 73)).drew
      simpa using this
    have tX : t w3.heap.size = 0 := Classical.byContradiction fun e => by have := H3.out.lt _ e; omega
    have RA := (H3.out.at' nx).next' (nx + 1)
    rw [← HFF.out] at RA
    have H4 := Lib.hid (RA.below (by simpa using hb4))
    have F4 : Hid (Fx w w4 t t) := ((F3.out.set (g := M) (i := 14) (.int .i64 nx) tM).set (g := F) (i := 1) (.int .i64 (nx + 1)) tF).later (by simpa using hb4)
    have hc4 : w4.heap[w3.heap.size]? = some (.cells #[.int .u8 op, .int .u8 a, .int .u8 b, .int .u8 c, .int .i64 imm] 73 (0, 0)) := by
      rw [hw4]
      have := heap_alloc_new ((w3.setCell ⟨M, 14, none⟩ (.int .i64 nx)).setCell ⟨F, 1, none⟩ (.int .i64 (nx + 1))) (.cells #[.int .u8 op, .int .u8 a, .int .u8 b, .int .u8 c, .int .i64 imm] 73)
      simp only [World.size_setCell] at this
      exact this
    have hl4 : w3.heap.size < w4.heap.size := (Array.getElem?_eq_some_iff.1 hc4).1
    have HC4 := Lib.hid hc4
    clear hw4 hb4 RA hc4 H3 F3 k13 z13 m03 m143 z143 x0 x1 x2 x3 x4
    refine (iform_any op a b c imm w4).mono ?_
    rintro e w5 ⟨rfl, hb5⟩
    obtain ⟨s2, hs2⟩ : ∃ s2 : St, s2 = { s with steps := wrap64 (s.steps + 1), at_ := f.next } := ⟨_, rfl⟩
    have H5 : Hid (MRep w5 t base M E V (ol ++ [({ f with next := nx + 1 }, cv)]) (s2.top (ol.map Prod.fst) { f with next := nx + 1 })) := by
      have h9 := H4.out.below hb5
      rw [HS1.out] at h9
      rw [hs2, HNX.out]
      exact h9
    have F5 : Hid (Fx w w5 t t) := F4.out.later hb5
    have hc5 := (hb5.block _ hl4).trans HC4.out
    have q0 : w5.cell? ⟨w3.heap.size, 0, none⟩ = some (.int .u8 op) := by simp [World.cell?, hc5]
    have q1 : w5.cell? ⟨w3.heap.size, 1, none⟩ = some (.int .u8 a) := by simp [World.cell?, hc5]
    have q2 : w5.cell? ⟨w3.heap.size, 2, none⟩ = some (.int .u8 b) := by simp [World.cell?, hc5]
    have q3 : w5.cell? ⟨w3.heap.size, 3, none⟩ = some (.int .u8 c) := by simp [World.cell?, hc5]
    have q4 : w5.cell? ⟨w3.heap.size, 4, none⟩ = some (.int .i64 imm) := by simp [World.cell?, hc5]
    have hlX : w3.heap.size < w5.heap.size := Nat.lt_of_lt_of_le hl4 hb5.size
    have HS2 := Lib.hid hs2
    clear hc5 hb5 H4 F4 HC4 hs2
    cases hform : formB ⟨op, a, b, c, imm⟩
    case false =>
      have HFO := Lib.hid hform
      clear hform
      go_wp2_with fail
      refine (ends_any M _ 8 w5 ((H5.out.cellM 8).trans (mC_get _ _).2.2.2.2.2.2.1) (H5.out.frzM 8)).mono ?_
      rintro e w6 ⟨rfl, rfl⟩
      have HR := Lib.hid (H5.out.end' 8)
      go_wp2_with fail
      go_ret
      rw [mstepF_unform HO.out HB.out hn0' hn1' HX.out HFO.out]
      refine ⟨rfl, t, V, ol ++ [({ f with next := nx + 1 }, cv)], ?_, F5.out.set (g := M) (i := 8) (.int .u8 8) tM⟩
      have R := HR.out
      rw [HS2.out] at R
      rw [HNX.out]
      rw [HNX.out] at R
      exact R
    case true =>
      have HFO := Lib.hid hform
      clear hform
      go_wp2_with fail
      have hf' : FrOk E { f with next := (nx : Int) + 1 } := HF.out.nextTo ⟨by omega, by omega⟩
      have hs2' : Sane E L (s2.top (ol.map Prod.fst) { f with next := (nx : Int) + 1 }) := by
        have h9 := HS.out
        have h8 : Sane E L s2 := by
          rw [HS2.out]
          exact ⟨h9.fr, h9.n, h9.o, h9.hl, h9.hp, h9.xl, h9.xs, h9.rd, i64_wrap _, h9.ex, h9.ms, HF.out.nx, h9.en, h9.e5⟩
        exact h8.top (f := f) (by rw [HS2.out]; exact HO.out) hf'
      have HDO := do_any w5 t base M E V ol _ cv _ H5.out ⟨op, a, b, c, imm⟩ hok HFO.out hf' L hs2' hL HEE.out
      rw [doF_top, ← HFF.out] at HDO
      refine HDO.mono ?_
      rintro e w6 ⟨rfl, t6, V6, cl6, R6, F6⟩
      have hX6 := F6.stay _ hlX (by rw [tX]; omega)
      have q06 : w6.cell? ⟨w3.heap.size, 0, none⟩ = some (.int .u8 op) := (World.cell?_of_block (a := ⟨w3.heap.size, 0, none⟩) hX6).trans q0
      have HR6 := Lib.hid R6
      have HF6 := Lib.hid F6
      clear R6 F6 hX6 HDO hs2'
      go_wp2_with fail
      go_ret
      rw [mstepF_is HO.out HB.out hn0' hn1' HX.out HFO.out]
      refine ⟨rfl, t6, V6, cl6, ?_, F5.out.trans HF6.out⟩
      have R := HR6.out
      rw [HS2.out] at R
      rw [HNX.out]
      rw [HNX.out] at R
      exact R
end Go.Proofs.Ytgjmdcbdkdmceaa.Mach
