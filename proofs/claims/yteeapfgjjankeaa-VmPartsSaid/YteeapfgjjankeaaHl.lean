/- The program's machine: a call ends. -/
import Derived.Test.YteeapfgjjankeaaHb
namespace Go.Proofs.Yteeapfgjjankeaa.Mach
open Go.RowKit

section
variable (w : World) (t : Nat → Nat) (base M : Nat) (E : Env) (V : MV) (f : Fr) (cv : FV) (s : St)
set_option maxRecDepth 100000 in
set_option maxHeartbeats 1000000 in
theorem mgives_nil (h : MRep w t base M E V [(f, cv)] s) (x : Int) :
    Calls Try.prog 55 #[.pointer (some ⟨M, 0, none⟩), .int .i64 x] w fun e w' => e = .returned (.tuple #[]) ∧ MPost w t base M E { s with opn := [], exit := x, end_ := 1 } w' := by
  obtain ⟨ob, oc, hov, hoc, hlob, tob, nOM, zob, pob⟩ := MRep.topP (ol := []) h
  simp only [List.length_nil, Nat.zero_add] at hov hoc pob
  have m5 : w.cell? ⟨M, 5, none⟩ = some (.slice (some ⟨ob, 0, none⟩) (0 + 1) oc) := (h.cellM 5).trans (by rw [(mC_get V s).2.2.2.1, hov])
  have p0 : w.cell? ⟨ob, 0 + 0, none⟩ = some (.pointer (some ⟨cv.blk, 0, none⟩)) := pob
  have m8 : w.cell? ⟨M, 8, none⟩ = some (.int .u8 s.end_) := (h.cellM 8).trans (mC_get V s).2.2.2.2.2.2.1
  have m9 : w.cell? ⟨M, 9, none⟩ = some (.int .i64 s.exit) := (h.cellM 9).trans (mC_get V s).2.2.2.2.2.2.2.1
  have z5 := h.frzM 5
  have z8 := h.frzM 8
  have z9 := h.frzM 9
  have hp := PAll.last (l := []) h.fr
  have k21 : w.cell? ⟨cv.blk, 21, none⟩ = some (.int .u8 f.dst) := by rw [hp.cellF, (fL_tail f cv hp.rl).2.2.2]
  have HN := Lib.hid (now_any M ob 0 0 oc cv.blk w m5 p0 (by omega))
  obtain ⟨iC, i1, i2, i3, i4⟩ : ∃ x, Try.prog.info? 74 = some x ∧ x.zero = some (.pointer none) ∧ x.size = 1 ∧ x.bytes = 8 := parts' (by kernel_rfl)
  have hrs := run_slice_to (P := Try.prog) 66 74 Try.underlying66 i1 rfl (some ⟨ob, 0, none⟩) 1 oc 0 0 rfl (by omega)
  have tM : 2 < t M := by have := h.tm; omega
  have mixed : Try.prog.follows Departure.mixedOrders = true := by kernel_rfl
  have H := Lib.hid h
  have HOV := Lib.hid hov
  have ew0 : IntKind.i64.wrap 0 = 0 := by rw [IntKind.wrap_i64]; rfl
  have hlM := h.ltM
  clear h hp hov pob i1 i2 i3 i4 p0
  go_enter Try.func55, Try.ntmps55
  go_wp2_with fail
  refine HN.out.mono ?_
  rintro e w1 ⟨rfl, q, rfl⟩
  go_wp2_with fail
  obtain ⟨w2, hw2⟩ : ∃ w2, w2 = w.drewN q := ⟨_, rfl⟩
  rw [← hw2]
  have H2 := Lib.hid (show MRep w2 t base M E V ([] ++ [(f, cv)]) s by rw [hw2]; exact H.out.drew q)
  have F2 : Hid (Fx w w2 t t) := by rw [hw2]; exact (Fx.refl w t).drewN q
  have m52 : w2.cell? ⟨M, 5, none⟩ = some (.slice (some ⟨ob, 0, none⟩) 1 oc) := by rw [hw2]; exact m5
  have z52 : w2.frozen? ⟨M, 5, none⟩ = false := by rw [hw2]; exact z5
  have hlM2 : M < w2.heap.size := by rw [hw2]; exact hlM
  have m82 : w2.cell? ⟨M, 8, none⟩ = some (.int .u8 s.end_) := by rw [hw2]; exact m8
  have m92 : w2.cell? ⟨M, 9, none⟩ = some (.int .i64 s.exit) := by rw [hw2]; exact m9
  have z82 : w2.frozen? ⟨M, 8, none⟩ = false := by rw [hw2]; exact z8
  have z92 : w2.frozen? ⟨M, 9, none⟩ = false := by rw [hw2]; exact z9
  clear hw2 m5 z5 m8 z8 m9 z9 H
  go_still_tail 14, mixed
  go_wp2_with fail
  have H3 := H2.out.pop (ol := []) HOV.out
  have H4 := (H3.exit' x).drew 1
  have F4 := ((F2.out.set (g := M) (i := 5) (.slice (some ⟨ob, 0, none⟩) 0 oc) tM).set (g := M) (i := 9) (.int .i64 x) tM).drewN 1
  have HH4 := Lib.hid H4
  have HF4 := Lib.hid F4
  refine (ends_any M s.end_ 1 (((w2.setCell ⟨M, 5, none⟩ (.slice (some ⟨ob, 0, none⟩) 0 oc)).setCell ⟨M, 9, none⟩ (.int .i64 x)).drewN 1) ((H4.cellM 8).trans (mC_get _ _).2.2.2.2.2.2.1) (H4.frzM 8)).mono ?_
  rintro e w4 ⟨rfl, rfl⟩
  clear H3 H4 F4
  go_wp2_with fail
  refine bodyPost_ret (results_none rfl _ _ _) rfl ⟨rfl, ?_⟩
  have R := HH4.out.end' 1
  have FX := HF4.out.set (g := M) (i := 8) (.int .u8 1) tM
  exact ⟨t, _, _, R, FX⟩
set_option maxRecDepth 100000 in
set_option maxHeartbeats 1000000 in
theorem mgives_cons (ol : List (Fr × FV)) (g : Fr) (cg : FV) (h : MRep w t base M E V ((ol ++ [(g, cg)]) ++ [(f, cv)]) s) (hol : ol.length ≤ 100) (hd : 0 ≤ f.dst ∧ f.dst < 16) (x : Int) :
    Calls Try.prog 55 #[.pointer (some ⟨M, 0, none⟩), .int .i64 x] w fun e w' => e = .returned (.tuple #[]) ∧ MPost w t base M E (s.top (ol.map Prod.fst) (g.put f.dst x)) w' := by
  obtain ⟨ob, oc, hov, hoc, hlob, tob, nOM, zob, pob⟩ := h.topP
  rw [List.length_append, List.length_singleton] at hov hoc pob
  have m5 : w.cell? ⟨M, 5, none⟩ = some (.slice (some ⟨ob, 0, none⟩) (ol.length + 1 + 1) oc) := (h.cellM 5).trans (by rw [(mC_get V s).2.2.2.1, hov])
  have p1 : w.cell? ⟨ob, 0 + (ol.length + 1), none⟩ = some (.pointer (some ⟨cv.blk, 0, none⟩)) := by rw [Nat.zero_add]; exact pob
  have z5 := h.frzM 5
  have hp := h.fr.last
  have k21 : w.cell? ⟨cv.blk, 21, none⟩ = some (.int .u8 f.dst) := by rw [hp.cellF, (fL_tail f cv hp.rl).2.2.2]
  have HN := Lib.hid (now_any M ob 0 (ol.length + 1) oc cv.blk w m5 p1 (by omega))
  obtain ⟨iC, i1, i2, i3, i4⟩ : ∃ x, Try.prog.info? 74 = some x ∧ x.zero = some (.pointer none) ∧ x.size = 1 ∧ x.bytes = 8 := parts' (by kernel_rfl)
  have hrs := run_slice_to (P := Try.prog) 66 74 Try.underlying66 i1 rfl (some ⟨ob, 0, none⟩) (ol.length + 1 + 1) oc (ol.length + 1) ((ol.length : Int) + 1) (by simp) (by omega)
  obtain ⟨nd, hnd⟩ : ∃ n : Nat, f.dst = n := ⟨f.dst.toNat, by omega⟩
  have hnd16 : nd < 16 := by omega
  have hnd16' : (nd : Int) < 16 := by omega
  rw [hnd] at k21
  have tM : 2 < t M := by have := h.tm; omega
  have mixed : Try.prog.follows Departure.mixedOrders = true := by kernel_rfl
  have ew1 : IntKind.i64.wrap ((ol.length : Int) + 1) = (ol.length : Int) + 1 := by rw [IntKind.wrap_i64]; omega
  have H := Lib.hid h
  have HOV := Lib.hid hov
  have HND := Lib.hid hnd
  have hlM := h.ltM
  clear h hp hov pob i1 i2 i3 i4 p1 hnd
  go_enter Try.func55, Try.ntmps55
  go_wp2_with fail
  refine HN.out.mono ?_
  rintro e w1 ⟨rfl, q, rfl⟩
  go_wp2_with fail
  obtain ⟨w2, hw2⟩ : ∃ w2, w2 = w.drewN q := ⟨_, rfl⟩
  rw [← hw2]
  have H2 : Hid (MRep w2 t base M E V ((ol ++ [(g, cg)]) ++ [(f, cv)]) s) := by rw [hw2]; exact H.out.drew q
  have F2 : Hid (Fx w w2 t t) := by rw [hw2]; exact (Fx.refl w t).drewN q
  have m52 : w2.cell? ⟨M, 5, none⟩ = some (.slice (some ⟨ob, 0, none⟩) (ol.length + 1 + 1) oc) := by rw [hw2]; exact m5
  have z52 : w2.frozen? ⟨M, 5, none⟩ = false := by rw [hw2]; exact z5
  have hlM2 : M < w2.heap.size := by rw [hw2]; exact hlM
  clear hw2 m5 z5 k21 H
  go_still_tail 14, mixed
  go_wp2_with fail
  have HP3 := H2.out.pop (ol := ol ++ [(g, cg)]) (by rw [List.length_append, List.length_singleton]; exact HOV.out)
  rw [List.length_append, List.length_singleton] at HP3
  obtain ⟨w3, hw3⟩ : ∃ w3, w3 = (w2.setCell ⟨M, 5, none⟩ (.slice (some ⟨ob, 0, none⟩) (ol.length + 1) oc)).drew := ⟨_, rfl⟩
  rw [← hw3]
  have H3 := Lib.hid (show MRep w3 t base M E _ (ol ++ [(g, cg)]) _ by rw [hw3]; exact HP3.drew 1)
  have F3 : Hid (Fx w w3 t t) := by rw [hw3]; exact (F2.out.set (g := M) (i := 5) _ tM).drewN 1
  have m53 : w3.cell? ⟨M, 5, none⟩ = some (.slice (some ⟨ob, 0, none⟩) (ol.length + 1) oc) := (H3.out.cellM 5).trans (mC_get _ _).2.2.2.1
  obtain ⟨ob', oc', hov', _, _, _, _, _, pob⟩ := H3.out.topP
  simp only [Value.slice.injEq, Option.some.injEq, Addr.mk.injEq, and_true, true_and] at hov'
  obtain ⟨rfl, rfl⟩ := hov'
  have p0 : w3.cell? ⟨ob, 0 + ol.length, none⟩ = some (.pointer (some ⟨cg.blk, 0, none⟩)) := by rw [Nat.zero_add]; exact pob
  have HN3 := Lib.hid (now_any M ob 0 ol.length oc cg.blk w3 m53 p0 (by omega))
  have hp3 := H3.out.fr.last
  have vd : w3.cell? ⟨cg.blk, 2 + nd, none⟩ = some (.int .i64 (g.regs.getD nd 0)) := by rw [hp3.cellF, fL_reg g cg hp3.rl nd hnd16]
  have zd : w3.frozen? ⟨cg.blk, 2 + nd, none⟩ = false := hp3.frz _
  have tG : 2 < t cg.blk := by rw [hp3.tf]; omega
  obtain ⟨gO, hgO⟩ : ∃ x, x = g.regs.getD nd 0 := ⟨_, rfl⟩
  rw [← hgO] at vd
  clear hw3 HP3 H2 F2 m52 z52 pob p0 hp3 hgO
  refine HN3.out.mono ?_
  rintro e w4 ⟨rfl, q4, rfl⟩
  go_wp2_with fail
  refine bodyPost_end (results_none rfl _ _ _) rfl ⟨rfl, ?_⟩
  have R := (H3.out.drew q4).reg nd hnd16 x
  have FX := (F3.out.drewN q4).set (g := cg.blk) (i := 2 + nd) (.int .i64 x) tG
  have e6 : (g.put f.dst x) = { g with regs := g.regs.set nd x } := by rw [HND.out]; rfl
  rw [e6]
  exact ⟨t, _, _, R, FX⟩
end
end Go.Proofs.Yteeapfgjjankeaa.Mach
