/- The program's machine: a call ends. -/
import Derived.Test.YtgjmdcbdkdmceaaQ17
import Derived.Test.YtgjmdcbdkdmceaaQ13
import Derived.Test.YtgjmdcbdkdmceaaQ14
import Derived.Test.YtgjmdcbdkdmceaaProg
import Derived.ProofKit
import Derived.KernelRfl
import Derived.Below
namespace Go.Proofs.Ytgjmdcbdkdmceaa.Mach
open Go.RowKit

section
variable (w : World) (t : Nat → Nat) (base M : Nat) (E : Env) (V : MV) (f : Fr) (cv : FV) (s : St)
set_option maxRecDepth 100000 in
set_option maxHeartbeats 1000000 in
theorem mgives_nil (h : MRep w t base M E V [(f, cv)] s) (x : Int) :
    Calls Try.prog 83 #[.pointer (some ⟨M, 0, none⟩), .int .i64 x] w fun e w' => e = .returned (.tuple #[]) ∧ MPost w t base M E { s with opn := [], exit := x, end_ := 1 } w' := by
  obtain ⟨ob, oc, hov, hoc, hlob, tob, nOM, zob, pob⟩ := MRep.topP (ol := []) h
  simp only [List.length_nil, Nat.zero_add] at hov hoc pob
  have m5 : w.cell? ⟨M, 5, none⟩ = some (.slice (some ⟨ob, 0, none⟩) (0 + 1) oc) := (h.cellM 5).trans (by rw [(mC_get V s).2.2.2.1, hov])
  have p0 : w.cell? ⟨ob, 0 + 0, none⟩ = some (.pointer (some ⟨cv.blk, 0, none⟩)) := pob
  have m8 : w.cell? ⟨M, 8, none⟩ = some (.int .u8 s.end_) := (h.cellM 8).trans (mC_get V s).2.2.2.2.2.2.1
  have m9 : w.cell? ⟨M, 9, none⟩ = some (.int .i64 s.exit) := (h.cellM 9).trans (mC_get V s).2.2.2.2.2.2.2.1
  have z5 := h.frzM 5
  have z8 := h.frzM 8
  have z9 := h.frzM 9
  have hp := PAll.last (l := []) h.fr
  have k21 : w.cell? ⟨cv.blk, 21, none⟩ = some (.int .u8 f.dst) := by rw [hp.cellF, (fL_tail f cv hp.rl).2.2.2]
  have HN := Lib.hid (now_any M ob 0 0 oc cv.blk w m5 p0 (by omega))
  obtain ⟨iC, i1, i2, i3, i4⟩ : ∃ x, Try.prog.info? 90 = some x ∧ x.zero = some (.pointer none) ∧ x.size = 1 ∧ x.bytes = 8 := parts' (by kernel_rfl)
  have hrs := run_slice_to (P := Try.prog) 82 90 Try.underlying82 i1 rfl (some ⟨ob, 0, none⟩) 1 oc 0 0 rfl (by omega)
  have tM : 2 < t M := by have := h.tm; omega
  have mixed : Try.prog.follows Departure.mixedOrders = true := by kernel_rfl
  have H := Lib.hid h
  have HOV := Lib.hid hov
  have ew0 : IntKind.i64.wrap 0 = 0 := by rw [IntKind.wrap_i64]; rfl
  have hlM := h.ltM
  clear h hp hov pob i1 i2 i3 i4 p0
  go_enter Try.func83, Try.ntmps83
  go_wp2_with fail
  refine HN.out.mono ?_
  rintro e w1 ⟨rfl, q, rfl⟩
  go_wp2_with fail
  obtain ⟨w2, hw2⟩ : ∃ w2, w2 = w.drewN q := ⟨_, rfl⟩
  rw [← hw2]
  have H2 := Lib.hid (show MRep w2 t base M E V ([] ++ [(f, cv)]) s by rw [hw2]; exact H.out.drew q)
  have F2 : Hid (Fx w w2 t t) := by rw [hw2]; exact (Fx.refl w t).drewN q
  have m52 : w2.cell? ⟨M, 5, none⟩ = some (.slice (some ⟨ob, 0, none⟩) 1 oc) := by rw [hw2]; exact m5
  have z52 : w2.frozen? ⟨M, 5, none⟩ = false := by rw [hw2]; exact z5
  have hlM2 : M < w2.heap.size := by rw [hw2]; exact hlM
  have m82 : w2.cell? ⟨M, 8, none⟩ = some (.int .u8 s.end_) := by rw [hw2]; exact m8
  have m92 : w2.cell? ⟨M, 9, none⟩ = some (.int .i64 s.exit) := by rw [hw2]; exact m9
  have z82 : w2.frozen? ⟨M, 8, none⟩ = false := by rw [hw2]; exact z8
  have z92 : w2.frozen? ⟨M, 9, none⟩ = false := by rw [hw2]; exact z9
  clear hw2 m5 z5 m8 z8 m9 z9 H
  go_still_tail 14, mixed
  go_wp2_with fail
  have H3 := H2.out.pop (ol := []) HOV.out
  have H4 := (H3.exit' x).drew 1
  have F4 := ((F2.out.set (g := M) (i := 5) (.slice (some ⟨ob, 0, none⟩) 0 oc) tM).set (g := M) (i := 9) (.int .i64 x) tM).drewN 1
  have HH4 := Lib.hid H4
  have HF4 := Lib.hid F4
  refine (ends_any M s.end_ 1 (((w2.setCell ⟨M, 5, none⟩ (.slice (some ⟨ob, 0, none⟩) 0 oc)).setCell ⟨M, 9, none⟩ (.int .i64 x)).drewN 1) ((H4.cellM 8).trans (mC_get _ _).2.2.2.2.2.2.1) (H4.frzM 8)).mono ?_
  rintro e w4 ⟨rfl, rfl⟩
  clear H3 H4 F4
  go_wp2_with fail
  refine bodyPost_ret (results_none rfl _ _ _) rfl ⟨rfl, ?_⟩
  have R := HH4.out.end' 1
  have FX := HF4.out.set (g := M) (i := 8) (.int .u8 1) tM
  exact ⟨t, _, _, R, FX⟩
set_option maxRecDepth 100000 in
set_option maxHeartbeats 1000000 in
theorem mgives_cons (ol : List (Fr × FV)) (g : Fr) (cg : FV) (h : MRep w t base M E V ((ol ++ [(g, cg)]) ++ [(f, cv)]) s) (hol : ol.length ≤ 100) (hd : 0 ≤ f.dst ∧ f.dst < 16) (x : Int) :
    Calls Try.prog 83 #[.pointer (some ⟨M, 0, none⟩), .int .i64 x] w fun e w' => e = .returned (.tuple #[]) ∧ MPost w t base M E (s.top (ol.map Prod.fst) (g.put f.dst x)) w' := by
  obtain ⟨ob, oc, hov, hoc, hlob, tob, nOM, zob, pob⟩ := h.topP
  rw [List.length_append, List.length_singleton] at hov hoc pob
  have m5 : w.cell? ⟨M, 5, none⟩ = some (.slice (some ⟨ob, 0, none⟩) (ol.length + 1 + 1) oc) := (h.cellM 5).trans (by rw [(mC_get V s).2.2.2.1, hov])
  have p1 : w.cell? ⟨ob, 0 + (ol.length + 1), none⟩ = some (.pointer (some ⟨cv.blk, 0, none⟩)) := by rw [Nat.zero_add]; exact pob
  have z5 := h.frzM 5
  have hp := h.fr.last
  have k21 : w.cell? ⟨cv.blk, 21, none⟩ = some (.int .u8 f.dst) := by rw [hp.cellF, (fL_tail f cv hp.rl).2.2.2]
  have HN := Lib.hid (now_any M ob 0 (ol.length + 1) oc cv.blk w m5 p1 (by omega))
  obtain ⟨iC, i1, i2, i3, i4⟩ : ∃ x, Try.prog.info? 90 = some x ∧ x.zero = some (.pointer none) ∧ x.size = 1 ∧ x.bytes = 8 := parts' (by kernel_rfl)
  have hrs := run_slice_to (P := Try.prog) 82 90 Try.underlying82 i1 rfl (some ⟨ob, 0, none⟩) (ol.length + 1 + 1) oc (ol.length + 1) ((ol.length : Int) + 1) (by simp) (by omega)
  obtain ⟨nd, hnd⟩ : ∃ n : Nat, f.dst = n := ⟨f.dst.toNat, by omega⟩
  have hnd16 : nd < 16 := by omega
  have hnd16' : (nd : Int) < 16 := by omega
  rw [hnd] at k21
  have tM : 2 < t M := by have := h.tm; omega
  have mixed : Try.prog.follows Departure.mixedOrders = true := by kernel_rfl
  have ew1 : IntKind.i64.wrap ((ol.length : Int) + 1) = (ol.length : Int) + 1 := by rw [IntKind.wrap_i64]; omega
  have H := Lib.hid h
  have HOV := Lib.hid hov
  have HND := Lib.hid hnd
  have hlM := h.ltM
  clear h hp hov pob i1 i2 i3 i4 p1 hnd
  go_enter Try.func83, Try.ntmps83
  go_wp2_with fail
  refine HN.out.mono ?_
  rintro e w1 ⟨rfl, q, rfl⟩
  go_wp2_with fail
  obtain ⟨w2, hw2⟩ : ∃ w2, w2 = w.drewN q := ⟨_, rfl⟩
  rw [← hw2]
  have H2 : Hid (MRep w2 t base M E V ((ol ++ [(g, cg)]) ++ [(f, cv)]) s) := by rw [hw2]; exact H.out.drew q
  have F2 : Hid (Fx w w2 t t) := by rw [hw2]; exact (Fx.refl w t).drewN q
  have m52 : w2.cell? ⟨M, 5, none⟩ = some (.slice (some ⟨ob, 0, none⟩) (ol.length + 1 + 1) oc) := by rw [hw2]; exact m5
  have z52 : w2.frozen? ⟨M, 5, none⟩ = false := by rw [hw2]; exact z5
  have hlM2 : M < w2.heap.size := by rw [hw2]; exact hlM
  clear hw2 m5 z5 k21 H
  go_still_tail 14, mixed
  go_wp2_with fail
  have HP3 := H2.out.pop (ol := ol ++ [(g, cg)]) (by rw [List.length_append, List.length_singleton]; exact HOV.out)
  rw [List.length_append, List.length_singleton] at HP3
  obtain ⟨w3, hw3⟩ : ∃ w3, w3 = (w2.setCell ⟨M, 5, none⟩ (.slice (some ⟨ob, 0, none⟩) (ol.length + 1) oc)).drew := ⟨_, rfl⟩
  rw [← hw3]
  have H3 := Lib.hid (show MRep w3 t base M E _ (ol ++ [(g, cg)]) _ by rw [hw3]; exact HP3.drew 1)
  have F3 : Hid (Fx w w3 t t) := by rw [hw3]; exact (F2.out.set (g := M) (i := 5) _ tM).drewN 1
  have m53 : w3.cell? ⟨M, 5, none⟩ = some (.slice (some ⟨ob, 0, none⟩) (ol.length + 1) oc) := (H3.out.cellM 5).trans (mC_get _ _).2.2.2.1
  obtain ⟨ob', oc', hov', _, _, _, _, _, pob⟩ := H3.out.topP
  simp only [Value.slice.injEq, Option.some.injEq, Addr.mk.injEq, and_true, true_and] at hov'
  obtain ⟨rfl, rfl⟩ := hov'
  have p0 : w3.cell? ⟨ob, 0 + ol.length, none⟩ = some (.pointer (some ⟨cg.blk, 0, none⟩)) := by rw [Nat.zero_add]; exact pob
  have HN3 := Lib.hid (now_any M ob 0 ol.length oc cg.blk w3 m53 p0 (by omega))
  have hp3 := H3.out.fr.last
  have vd : w3.cell? ⟨cg.blk, 2 + nd, none⟩ = some (.int .i64 (g.regs.getD nd 0)) := by rw [hp3.cellF, fL_reg g cg hp3.rl nd hnd16]
  have zd : w3.frozen? ⟨cg.blk, 2 + nd, none⟩ = false := hp3.frz _
  have tG : 2 < t cg.blk := by rw [hp3.tf]; omega
  obtain ⟨gO, hgO⟩ : ∃ x, x = g.regs.getD nd 0 := ⟨_, rfl⟩
  rw [← hgO] at vd
  clear hw3 HP3 H2 F2 m52 z52 pob p0 hp3 hgO
  refine HN3.out.mono ?_
  rintro e w4 ⟨rfl, q4, rfl⟩
  go_wp2_with fail
  refine bodyPost_end (results_none rfl _ _ _) rfl ⟨rfl, ?_⟩
  have R := (H3.out.drew q4).reg nd hnd16 x
  have FX := (F3.out.drewN q4).set (g := cg.blk) (i := 2 + nd) (.int .i64 x) tG
  have e6 : (g.put f.dst x) = { g with regs := g.regs.set nd x } := by rw [HND.out]; rfl
  rw [e6]
  exact ⟨t, _, _, R, FX⟩
end
end Go.Proofs.Ytgjmdcbdkdmceaa.Mach

/- The program's value of an operation (package source): what it computes. -/
namespace Go.Proofs.Ytgjmdcbdkdmceaa.Mach
open Go.RowKit

theorem bits_not (a : Int) : bits .xor .i64 (-1) a = wrap64 (-1 - a) := by
  have e1 : BitVec.ofInt 64 (-1) = BitVec.allOnes 64 := by decide
  have e2 : (BitVec.ofInt 64 (-1) ^^^ BitVec.ofInt 64 a).toNat = 18446744073709551615 - (a % 18446744073709551616).toNat := by
    rw [e1, BitVec.allOnes_xor, BitVec.toNat_not, BitVec.toNat_ofInt]; rfl
  show IntKind.i64.wrap (((BitVec.ofInt 64 (-1) ^^^ BitVec.ofInt 64 a).toNat : Nat) : Int) = _
  rw [e2, IntKind.wrap_i64]
  unfold wrap64
  omega
theorem truth_any (b : Bool) (w : World) : Calls Try.prog 100 #[.bool b] w fun e w' => e = .returned (.int .i64 (b01 b)) ∧ w' = w := by
  cases b
  · go_enter Try.func100, Try.ntmps100
    go_wp2
    go_ret
    exact ⟨rfl, rfl⟩
  · go_enter Try.func100, Try.ntmps100
    go_wp2
    go_ret
    exact ⟨rfl, rfl⟩
set_option maxHeartbeats 1000000 in
theorem divide_any (op a b : Int) (hop : op = 4 ∨ op = 5) (ha : -9223372036854775808 ≤ a ∧ a ≤ 9223372036854775807) (w : World) :
   Calls Try.prog 99 #[.int .u8 op, .int .i64 a, .int .i64 b] w fun e w' => e = .returned (.tuple #[.int .i64 (valF op a b).1, .int .u8 (valF op a b).2]) ∧ w' = w := by
  have HA := Lib.hid ha
  clear ha
  rcases hop with rfl | rfl
  all_goals
    go_enter Try.func99, Try.ntmps99
    go_wp2
  all_goals first | (exfalso; simp_all; done) | refine bodyPost_ret (v := .tuple #[.int .i64 (valF 4 a b).1, .int .u8 (valF 4 a b).2]) ?_ rfl ⟨rfl, rfl⟩ | refine bodyPost_ret (v := .tuple #[.int .i64 (valF 5 a b).1, .int .u8 (valF 5 a b).2]) ?_ rfl ⟨rfl, rfl⟩
  all_goals go_light
  all_goals try (simp [results, Try.results99, go_sem, valF, *]; done)
  all_goals
    have ht := tmod_eq a b HA.out (by intro hb; simp_all)
    simp [results, Try.results99, go_sem, valF, *]
set_option maxHeartbeats 2000000 in
theorem mvalue_any (op a b : Int) (ha : -9223372036854775808 ≤ a ∧ a ≤ 9223372036854775807) (w : World) :
   Calls Try.prog 84 #[.int .u8 op, .int .i64 a, .int .i64 b] w fun e w' => e = .returned (.tuple #[.int .i64 (valF op a b).1, .int .u8 (valF op a b).2]) ∧ w' = w := by
  have HA := Lib.hid ha
  have HD4 := Lib.hid (divide_any 4 a b (.inl rfl) ha w)
  have HD5 := Lib.hid (divide_any 5 a b (.inr rfl) ha w)
  clear ha
  have hsh : (IntKind.u64.wrap b).tmod 64 = ((b % 64).toNat : Int) := by rw [IntKind.wrap_u64, tmod_of_emod]; omega
  obtain ⟨m, hm⟩ : ∃ m, m = (b % 64).toNat := ⟨_, rfl⟩
  have hm64 : m < 64 := by omega
  rw [← hm] at hsh
  have hshl : ∀ w, Sem.run Try.prog (Op.shift .shl .i64 a .u64 (m : Int)) w = .ok (.int .i64 (wrap64 (a * 2 ^ m))) w := fun w => by
    rw [shift_shl .i64 .u64 a m (by omega) (by show (m : Int) ≤ 64; omega), IntKind.wrap_i64]; simp [wrap64]
  have hshr : ∀ w, Sem.run Try.prog (Op.shift .shr .i64 a .u64 (m : Int)) w = .ok (.int .i64 (a / 2 ^ m)) w := fun w => by
    rw [shift_shr .i64 .u64 a m (by omega) (by show (m : Int) ≤ 64; omega)]; simp
  have HM := Lib.hid hm
  clear hm
  by_cases hk : (1 ≤ op ∧ op ≤ 16) ∨ op = 19 ∨ op = 20 ∨ op = 21
  · have hops : op = 1 ∨ op = 2 ∨ op = 3 ∨ op = 4 ∨ op = 5 ∨ op = 6 ∨ op = 7 ∨ op = 8 ∨ op = 9 ∨ op = 10 ∨ op = 11 ∨ op = 12 ∨ op = 13 ∨ op = 14 ∨ op = 15 ∨ op = 16 ∨ op = 19 ∨ op = 20 ∨ op = 21 := by omega
    clear hk
    rcases hops with rfl | rfl | rfl | rfl | rfl | rfl | rfl | rfl | rfl | rfl | rfl | rfl | rfl | rfl | rfl | rfl | rfl | rfl | rfl
    all_goals
      go_enter Try.func84, Try.ntmps84
      go_wp2_with (first | (go_at_call 100; refine (truth_any _ _).mono ?_; rintro e w' ⟨rfl, hw⟩; have hw := hw.symm; subst hw) | (go_at_call 99; first | (with_reducible refine HD4.out.mono ?_; rintro e w' ⟨rfl, hw⟩; have hw := hw.symm; subst hw) | (with_reducible refine HD5.out.mono ?_; rintro e w' ⟨rfl, hw⟩; have hw := hw.symm; subst hw)))
      refine bodyPost_ret (v := .tuple #[.int .i64 _, .int .u8 _]) ?_ rfl ⟨rfl, rfl⟩
      go_light
      simp [results, Try.results84, go_sem, valF, bits_not, ← HM.out]
  · have e : ∀ k : Int, (1 ≤ k ∧ k ≤ 16) ∨ k = 19 ∨ k = 20 ∨ k = 21 → (op == k) = false := fun k h => by
      rw [beq_eq_false_iff_ne]; intro h2; exact hk (by rw [h2]; exact h)
    have hv : valF op a b = (0, 8) := by
      unfold valF
      simp only [e 1 (by omega), e 2 (by omega), e 3 (by omega), e 4 (by omega), e 5 (by omega), e 6 (by omega), e 7 (by omega), e 8 (by omega), e 9 (by omega), e 10 (by omega), e 11 (by omega), e 12 (by omega), e 13 (by omega), e 14 (by omega), e 15 (by omega), e 16 (by omega), e 19 (by omega), e 20 (by omega), e 21 (by omega), Bool.false_eq_true, if_false]
    rw [hv]
    have e1 := e 1 (by omega)
    have e2 := e 2 (by omega)
    have e3 := e 3 (by omega)
    have e4 := e 4 (by omega)
    have e5 := e 5 (by omega)
    have e6 := e 6 (by omega)
    have e7 := e 7 (by omega)
    have e8 := e 8 (by omega)
    have e9 := e 9 (by omega)
    have e10 := e 10 (by omega)
    have e11 := e 11 (by omega)
    have e12 := e 12 (by omega)
    have e13 := e 13 (by omega)
    have e14 := e 14 (by omega)
    have e15 := e 15 (by omega)
    have e16 := e 16 (by omega)
    have e19 := e 19 (by omega)
    have e20 := e 20 (by omega)
    have e21 := e 21 (by omega)
    clear e hv hk
    go_enter Try.func84, Try.ntmps84
    go_wp2_with fail
    go_ret2
    exact ⟨rfl, rfl⟩
end Go.Proofs.Ytgjmdcbdkdmceaa.Mach
