/- The program's machine: its instructions (30, 31, 44, 45, 46). Printed by gen_do.py. -/
import Derived.Test.YtgjmdcbdkdmceaaQ17
namespace Go.Proofs.Ytgjmdcbdkdmceaa.Mach
open Go.RowKit

set_option maxRecDepth 100000 in
set_option maxHeartbeats 4000000 in
theorem do_30 (w : World) (t : Nat → Nat) (base M : Nat) (E : Env) (V : MV) (ol : List (Fr × FV)) (f : Fr) (cv : FV) (s : St) (h : MRep w t base M E V (ol ++ [(f, cv)]) s) (na nb nc : Nat) (ia : na < 16) (ib : nb < 16) (ic : nc < 16) (imm : Int) (_pi : -9223372036854775808 ≤ imm ∧ imm ≤ 9223372036854775807)
    (_hform : formB ⟨30, na, nb, nc, imm⟩ = true) (hf : FrOk E f) (L : Nat) (hs : Sane E L s) (_hL : L ≤ 1000000) (hE : EnvOk E) :
    Calls Try.prog 62 #[.pointer (some ⟨M, 0, none⟩), .pointer (some ⟨cv.blk, 0, none⟩), .agg #[.int .u8 30, .int .u8 na, .int .u8 nb, .int .u8 nc, .int .i64 imm]] w fun e w' =>
      e = .returned (.tuple #[]) ∧ MPost w t base M E (doF E s (ol.map Prod.fst) f ⟨30, na, nb, nc, imm⟩) w' := by
  have hp := h.fr.last
  obtain ⟨F, hF⟩ : ∃ F, F = cv.blk := ⟨_, rfl⟩
  obtain ⟨gA, hgA⟩ : ∃ g, g = f.r na := ⟨_, rfl⟩
  obtain ⟨gB, hgB⟩ : ∃ g, g = f.r nb := ⟨_, rfl⟩
  obtain ⟨gC, hgC⟩ : ∃ g, g = f.r nc := ⟨_, rfl⟩
  have va : w.cell? ⟨F, 2 + na, none⟩ = some (.int .i64 gA) := by rw [hF, hp.cellF, fL_reg f cv hp.rl na ia, hgA]; rfl
  have vb : w.cell? ⟨F, 2 + nb, none⟩ = some (.int .i64 gB) := by rw [hF, hp.cellF, fL_reg f cv hp.rl nb ib, hgB]; rfl
  have vc : w.cell? ⟨F, 2 + nc, none⟩ = some (.int .i64 gC) := by rw [hF, hp.cellF, fL_reg f cv hp.rl nc ic, hgC]; rfl
  have za : w.frozen? ⟨F, 2 + na, none⟩ = false := by rw [hF]; exact hp.frz _
  have iA : (na : Int) < 16 := by omega
  have iB : (nb : Int) < 16 := by omega
  have iC : (nc : Int) < 16 := by omega
  have hlF : F < w.heap.size := by rw [hF]; exact hp.lt
  have hlM : M < w.heap.size := h.ltM
  have tF : 2 < t F := by rw [hF, hp.tf]; omega
  have tM : 2 < t M := by rw [h.tm]; omega
  have nFM : ¬ F = M := fun e => by have h1 := hp.tf; rw [← hF, e, h.tm] at h1; omega
  have nMF : ¬ M = F := fun e => nFM e.symm
  have mixed : Try.prog.follows Departure.mixedOrders = true := by kernel_rfl
  have H := Lib.hid h
  have HP := Lib.hid hp
  have HF := Lib.hid hF
  have HFR := Lib.hid hf
  have HS := Lib.hid hs
  have HEE := Lib.hid hE
  have HGA := Lib.hid hgA.symm
  have HGB := Lib.hid hgB.symm
  have HGC := Lib.hid hgC.symm
  have BEL : Hid (∀ W : World, Below W.heap.size W (W.alloc (.cells #[.int .u8 30, .int .u8 na, .int .u8 nb, .int .u8 nc, .int .i64 imm] 73))) := fun W => (Below.refl _ _).alloc (Nat.le_refl _) _
  have F0 : Hid (Fx w w t t) := Fx.refl w t
  rw [← hF]
  clear h hp hF hf hs hE hgA hgB hgC
  go_enter Try.func62, Try.ntmps62
  go_wp2_with fail
  obtain ⟨w1, hw1⟩ : ∃ w1, w1 = w.alloc (.cells #[.int .u8 30, .int .u8 na, .int .u8 nb, .int .u8 nc, .int .i64 imm] 73) := ⟨_, rfl⟩
  rw [← hw1]
  have hB1 : Below w.heap.size w w1 := by rw [hw1]; exact BEL.out w
  have hc1 : w1.heap[w.heap.size]? = some (.cells #[.int .u8 30, .int .u8 na, .int .u8 nb, .int .u8 nc, .int .i64 imm] 73 (0, 0)) := by rw [hw1]; exact heap_alloc_new _ _
  have q0 : w1.cell? ⟨w.heap.size, 0, none⟩ = some (.int .u8 30) := by simp [World.cell?, hc1]
  have q1 : w1.cell? ⟨w.heap.size, 1, none⟩ = some (.int .u8 na) := by simp [World.cell?, hc1]
  have q2 : w1.cell? ⟨w.heap.size, 2, none⟩ = some (.int .u8 nb) := by simp [World.cell?, hc1]
  have q3 : w1.cell? ⟨w.heap.size, 3, none⟩ = some (.int .u8 nc) := by simp [World.cell?, hc1]
  have q4 : w1.cell? ⟨w.heap.size, 4, none⟩ = some (.int .i64 imm) := by simp [World.cell?, hc1]
  have va1 := (hB1.cell (p := ⟨F, 2 + na, none⟩) hlF).trans va
  have vb1 := (hB1.cell (p := ⟨F, 2 + nb, none⟩) hlF).trans vb
  have vc1 := (hB1.cell (p := ⟨F, 2 + nc, none⟩) hlF).trans vc
  have za1 := (hB1.frozen (p := ⟨F, 2 + na, none⟩) hlF).trans za
  have H1 := Lib.hid (H.out.below hB1)
  have F1 : Hid (Fx w w1 t t) := Fx.below hB1
  have hl1 : w.heap.size < w1.heap.size := (Array.getElem?_eq_some_iff.1 hc1).1
  have hlF1 : F < w1.heap.size := by omega
  have hlM1 : M < w1.heap.size := by omega
  have nbF : ¬ w.heap.size = F := by omega
  have nbM : ¬ w.heap.size = M := by omega
  have HB1 := Lib.hid hB1
  clear hw1 hc1 va vb vc za hB1
  go_still_tail 6, mixed
  go_wp2_with fail
  refine bodyPost_end (results_none rfl _ _ _) rfl ⟨rfl, ?_⟩
  have R := (H1.out.reg na ia imm).drew 1
  have FX := (F1.out.set (g := F) (i := 2 + na) (.int .i64 imm) tF).drewN 1
  rw [← HF.out] at R
  rw [doF_30]
  exact ⟨t, V, _, R, FX⟩

set_option maxRecDepth 100000 in
set_option maxHeartbeats 4000000 in
theorem do_31 (w : World) (t : Nat → Nat) (base M : Nat) (E : Env) (V : MV) (ol : List (Fr × FV)) (f : Fr) (cv : FV) (s : St) (h : MRep w t base M E V (ol ++ [(f, cv)]) s) (na nb nc : Nat) (ia : na < 16) (ib : nb < 16) (ic : nc < 16) (imm : Int) (_pi : -9223372036854775808 ≤ imm ∧ imm ≤ 9223372036854775807)
    (_hform : formB ⟨31, na, nb, nc, imm⟩ = true) (hf : FrOk E f) (L : Nat) (hs : Sane E L s) (_hL : L ≤ 1000000) (hE : EnvOk E) :
    Calls Try.prog 62 #[.pointer (some ⟨M, 0, none⟩), .pointer (some ⟨cv.blk, 0, none⟩), .agg #[.int .u8 31, .int .u8 na, .int .u8 nb, .int .u8 nc, .int .i64 imm]] w fun e w' =>
      e = .returned (.tuple #[]) ∧ MPost w t base M E (doF E s (ol.map Prod.fst) f ⟨31, na, nb, nc, imm⟩) w' := by
  have hp := h.fr.last
  obtain ⟨F, hF⟩ : ∃ F, F = cv.blk := ⟨_, rfl⟩
  obtain ⟨gA, hgA⟩ : ∃ g, g = f.r na := ⟨_, rfl⟩
  obtain ⟨gB, hgB⟩ : ∃ g, g = f.r nb := ⟨_, rfl⟩
  obtain ⟨gC, hgC⟩ : ∃ g, g = f.r nc := ⟨_, rfl⟩
  have va : w.cell? ⟨F, 2 + na, none⟩ = some (.int .i64 gA) := by rw [hF, hp.cellF, fL_reg f cv hp.rl na ia, hgA]; rfl
  have vb : w.cell? ⟨F, 2 + nb, none⟩ = some (.int .i64 gB) := by rw [hF, hp.cellF, fL_reg f cv hp.rl nb ib, hgB]; rfl
  have vc : w.cell? ⟨F, 2 + nc, none⟩ = some (.int .i64 gC) := by rw [hF, hp.cellF, fL_reg f cv hp.rl nc ic, hgC]; rfl
  have za : w.frozen? ⟨F, 2 + na, none⟩ = false := by rw [hF]; exact hp.frz _
  have iA : (na : Int) < 16 := by omega
  have iB : (nb : Int) < 16 := by omega
  have iC : (nc : Int) < 16 := by omega
  have hlF : F < w.heap.size := by rw [hF]; exact hp.lt
  have hlM : M < w.heap.size := h.ltM
  have tF : 2 < t F := by rw [hF, hp.tf]; omega
  have tM : 2 < t M := by rw [h.tm]; omega
  have nFM : ¬ F = M := fun e => by have h1 := hp.tf; rw [← hF, e, h.tm] at h1; omega
  have nMF : ¬ M = F := fun e => nFM e.symm
  have mixed : Try.prog.follows Departure.mixedOrders = true := by kernel_rfl
  have H := Lib.hid h
  have HP := Lib.hid hp
  have HF := Lib.hid hF
  have HFR := Lib.hid hf
  have HS := Lib.hid hs
  have HEE := Lib.hid hE
  have HGA := Lib.hid hgA.symm
  have HGB := Lib.hid hgB.symm
  have HGC := Lib.hid hgC.symm
  have BEL : Hid (∀ W : World, Below W.heap.size W (W.alloc (.cells #[.int .u8 31, .int .u8 na, .int .u8 nb, .int .u8 nc, .int .i64 imm] 73))) := fun W => (Below.refl _ _).alloc (Nat.le_refl _) _
  have F0 : Hid (Fx w w t t) := Fx.refl w t
  rw [← hF]
  clear h hp hF hf hs hE hgA hgB hgC
  go_enter Try.func62, Try.ntmps62
  go_wp2_with fail
  obtain ⟨w1, hw1⟩ : ∃ w1, w1 = w.alloc (.cells #[.int .u8 31, .int .u8 na, .int .u8 nb, .int .u8 nc, .int .i64 imm] 73) := ⟨_, rfl⟩
  rw [← hw1]
  have hB1 : Below w.heap.size w w1 := by rw [hw1]; exact BEL.out w
  have hc1 : w1.heap[w.heap.size]? = some (.cells #[.int .u8 31, .int .u8 na, .int .u8 nb, .int .u8 nc, .int .i64 imm] 73 (0, 0)) := by rw [hw1]; exact heap_alloc_new _ _
  have q0 : w1.cell? ⟨w.heap.size, 0, none⟩ = some (.int .u8 31) := by simp [World.cell?, hc1]
  have q1 : w1.cell? ⟨w.heap.size, 1, none⟩ = some (.int .u8 na) := by simp [World.cell?, hc1]
  have q2 : w1.cell? ⟨w.heap.size, 2, none⟩ = some (.int .u8 nb) := by simp [World.cell?, hc1]
  have q3 : w1.cell? ⟨w.heap.size, 3, none⟩ = some (.int .u8 nc) := by simp [World.cell?, hc1]
  have q4 : w1.cell? ⟨w.heap.size, 4, none⟩ = some (.int .i64 imm) := by simp [World.cell?, hc1]
  have va1 := (hB1.cell (p := ⟨F, 2 + na, none⟩) hlF).trans va
  have vb1 := (hB1.cell (p := ⟨F, 2 + nb, none⟩) hlF).trans vb
  have vc1 := (hB1.cell (p := ⟨F, 2 + nc, none⟩) hlF).trans vc
  have za1 := (hB1.frozen (p := ⟨F, 2 + na, none⟩) hlF).trans za
  have H1 := Lib.hid (H.out.below hB1)
  have F1 : Hid (Fx w w1 t t) := Fx.below hB1
  have hl1 : w.heap.size < w1.heap.size := (Array.getElem?_eq_some_iff.1 hc1).1
  have hlF1 : F < w1.heap.size := by omega
  have hlM1 : M < w1.heap.size := by omega
  have nbF : ¬ w.heap.size = F := by omega
  have nbM : ¬ w.heap.size = M := by omega
  have HB1 := Lib.hid hB1
  clear hw1 hc1 va vb vc za hB1
  go_still_tail 10, mixed
  go_wp2_with fail
  refine bodyPost_end (results_none rfl _ _ _) rfl ⟨rfl, ?_⟩
  have R := (H1.out.reg na ia gB).drew 1
  have FX := (F1.out.set (g := F) (i := 2 + na) (.int .i64 gB) tF).drewN 1
  rw [← HF.out] at R
  rw [doF_31, HGB.out]
  exact ⟨t, V, _, R, FX⟩

set_option maxRecDepth 100000 in
set_option maxHeartbeats 4000000 in
theorem do_44 (w : World) (t : Nat → Nat) (base M : Nat) (E : Env) (V : MV) (ol : List (Fr × FV)) (f : Fr) (cv : FV) (s : St) (h : MRep w t base M E V (ol ++ [(f, cv)]) s) (na nb nc : Nat) (ia : na < 16) (ib : nb < 16) (ic : nc < 16) (imm : Int) (_pi : -9223372036854775808 ≤ imm ∧ imm ≤ 9223372036854775807)
    (_hform : formB ⟨44, na, nb, nc, imm⟩ = true) (hf : FrOk E f) (L : Nat) (hs : Sane E L s) (_hL : L ≤ 1000000) (hE : EnvOk E) :
    Calls Try.prog 62 #[.pointer (some ⟨M, 0, none⟩), .pointer (some ⟨cv.blk, 0, none⟩), .agg #[.int .u8 44, .int .u8 na, .int .u8 nb, .int .u8 nc, .int .i64 imm]] w fun e w' =>
      e = .returned (.tuple #[]) ∧ MPost w t base M E (doF E s (ol.map Prod.fst) f ⟨44, na, nb, nc, imm⟩) w' := by
  have hp := h.fr.last
  obtain ⟨F, hF⟩ : ∃ F, F = cv.blk := ⟨_, rfl⟩
  obtain ⟨gA, hgA⟩ : ∃ g, g = f.r na := ⟨_, rfl⟩
  obtain ⟨gB, hgB⟩ : ∃ g, g = f.r nb := ⟨_, rfl⟩
  obtain ⟨gC, hgC⟩ : ∃ g, g = f.r nc := ⟨_, rfl⟩
  have va : w.cell? ⟨F, 2 + na, none⟩ = some (.int .i64 gA) := by rw [hF, hp.cellF, fL_reg f cv hp.rl na ia, hgA]; rfl
  have vb : w.cell? ⟨F, 2 + nb, none⟩ = some (.int .i64 gB) := by rw [hF, hp.cellF, fL_reg f cv hp.rl nb ib, hgB]; rfl
  have vc : w.cell? ⟨F, 2 + nc, none⟩ = some (.int .i64 gC) := by rw [hF, hp.cellF, fL_reg f cv hp.rl nc ic, hgC]; rfl
  have za : w.frozen? ⟨F, 2 + na, none⟩ = false := by rw [hF]; exact hp.frz _
  have iA : (na : Int) < 16 := by omega
  have iB : (nb : Int) < 16 := by omega
  have iC : (nc : Int) < 16 := by omega
  have hlF : F < w.heap.size := by rw [hF]; exact hp.lt
  have hlM : M < w.heap.size := h.ltM
  have tF : 2 < t F := by rw [hF, hp.tf]; omega
  have tM : 2 < t M := by rw [h.tm]; omega
  have nFM : ¬ F = M := fun e => by have h1 := hp.tf; rw [← hF, e, h.tm] at h1; omega
  have nMF : ¬ M = F := fun e => nFM e.symm
  have mixed : Try.prog.follows Departure.mixedOrders = true := by kernel_rfl
  have H := Lib.hid h
  have HP := Lib.hid hp
  have HF := Lib.hid hF
  have HFR := Lib.hid hf
  have HS := Lib.hid hs
  have HEE := Lib.hid hE
  have HGA := Lib.hid hgA.symm
  have HGB := Lib.hid hgB.symm
  have HGC := Lib.hid hgC.symm
  have BEL : Hid (∀ W : World, Below W.heap.size W (W.alloc (.cells #[.int .u8 44, .int .u8 na, .int .u8 nb, .int .u8 nc, .int .i64 imm] 73))) := fun W => (Below.refl _ _).alloc (Nat.le_refl _) _
  have F0 : Hid (Fx w w t t) := Fx.refl w t
  rw [← hF]
  clear h hp hF hf hs hE hgA hgB hgC
  go_enter Try.func62, Try.ntmps62
  have eT : s.top (ol.map Prod.fst) f = s := by
    have e := H.out.opn
    rw [List.map_append, List.map_cons, List.map_nil] at e
    show { s with opn := ol.map Prod.fst ++ [f] } = s
    rw [← e]
  have m13 : w.cell? ⟨M, 13, none⟩ = some (.int .i64 s.marks) := (H.out.cellM 13).trans (mC_get V s).2.2.2.2.2.2.2.2.2.2.1
  have z13 := H.out.frzM 13
  have ET := Lib.hid eT
  clear eT
  go_wp2_with fail
  refine bodyPost_end (results_none rfl _ _ _) rfl ⟨rfl, ?_⟩
  have R := (H.out.marks' (wrap64 (s.marks + 1))).below (BEL.out _)
  have FX := (F0.out.set (g := M) (i := 13) (.int .i64 (wrap64 (s.marks + 1))) tM).later (BEL.out _)
  rw [doF_44]
  rw [show ({ s with marks := wrap64 (s.marks + 1) } : St).top (ol.map Prod.fst) f = { s.top (ol.map Prod.fst) f with marks := wrap64 (s.marks + 1) } from rfl, ET.out]
  exact ⟨t, V, _, R, FX⟩

set_option maxRecDepth 100000 in
set_option maxHeartbeats 4000000 in
theorem do_45 (w : World) (t : Nat → Nat) (base M : Nat) (E : Env) (V : MV) (ol : List (Fr × FV)) (f : Fr) (cv : FV) (s : St) (h : MRep w t base M E V (ol ++ [(f, cv)]) s) (na nb nc : Nat) (ia : na < 16) (ib : nb < 16) (ic : nc < 16) (imm : Int) (_pi : -9223372036854775808 ≤ imm ∧ imm ≤ 9223372036854775807)
    (_hform : formB ⟨45, na, nb, nc, imm⟩ = true) (hf : FrOk E f) (L : Nat) (hs : Sane E L s) (_hL : L ≤ 1000000) (hE : EnvOk E) :
    Calls Try.prog 62 #[.pointer (some ⟨M, 0, none⟩), .pointer (some ⟨cv.blk, 0, none⟩), .agg #[.int .u8 45, .int .u8 na, .int .u8 nb, .int .u8 nc, .int .i64 imm]] w fun e w' =>
      e = .returned (.tuple #[]) ∧ MPost w t base M E (doF E s (ol.map Prod.fst) f ⟨45, na, nb, nc, imm⟩) w' := by
  have hp := h.fr.last
  obtain ⟨F, hF⟩ : ∃ F, F = cv.blk := ⟨_, rfl⟩
  obtain ⟨gA, hgA⟩ : ∃ g, g = f.r na := ⟨_, rfl⟩
  obtain ⟨gB, hgB⟩ : ∃ g, g = f.r nb := ⟨_, rfl⟩
  obtain ⟨gC, hgC⟩ : ∃ g, g = f.r nc := ⟨_, rfl⟩
  have va : w.cell? ⟨F, 2 + na, none⟩ = some (.int .i64 gA) := by rw [hF, hp.cellF, fL_reg f cv hp.rl na ia, hgA]; rfl
  have vb : w.cell? ⟨F, 2 + nb, none⟩ = some (.int .i64 gB) := by rw [hF, hp.cellF, fL_reg f cv hp.rl nb ib, hgB]; rfl
  have vc : w.cell? ⟨F, 2 + nc, none⟩ = some (.int .i64 gC) := by rw [hF, hp.cellF, fL_reg f cv hp.rl nc ic, hgC]; rfl
  have za : w.frozen? ⟨F, 2 + na, none⟩ = false := by rw [hF]; exact hp.frz _
  have iA : (na : Int) < 16 := by omega
  have iB : (nb : Int) < 16 := by omega
  have iC : (nc : Int) < 16 := by omega
  have hlF : F < w.heap.size := by rw [hF]; exact hp.lt
  have hlM : M < w.heap.size := h.ltM
  have tF : 2 < t F := by rw [hF, hp.tf]; omega
  have tM : 2 < t M := by rw [h.tm]; omega
  have nFM : ¬ F = M := fun e => by have h1 := hp.tf; rw [← hF, e, h.tm] at h1; omega
  have nMF : ¬ M = F := fun e => nFM e.symm
  have mixed : Try.prog.follows Departure.mixedOrders = true := by kernel_rfl
  have H := Lib.hid h
  have HP := Lib.hid hp
  have HF := Lib.hid hF
  have HFR := Lib.hid hf
  have HS := Lib.hid hs
  have HEE := Lib.hid hE
  have HGA := Lib.hid hgA.symm
  have HGB := Lib.hid hgB.symm
  have HGC := Lib.hid hgC.symm
  have BEL : Hid (∀ W : World, Below W.heap.size W (W.alloc (.cells #[.int .u8 45, .int .u8 na, .int .u8 nb, .int .u8 nc, .int .i64 imm] 73))) := fun W => (Below.refl _ _).alloc (Nat.le_refl _) _
  have F0 : Hid (Fx w w t t) := Fx.refl w t
  rw [← hF]
  clear h hp hF hf hs hE hgA hgB hgC
  go_enter Try.func62, Try.ntmps62
  have k1 : w.cell? ⟨F, 1, none⟩ = some (.int .i64 f.next) := by rw [HF.out, HP.out.cellF]; exact (fL_fn f cv).2
  have z1 : w.frozen? ⟨F, 1, none⟩ = false := by rw [HF.out]; exact HP.out.frz _
  go_wp2_with fail
  refine bodyPost_end (results_none rfl _ _ _) rfl ⟨rfl, ?_⟩
  have R := (H.out.next' imm).below (BEL.out _)
  have FX := (F0.out.set (g := F) (i := 1) (.int .i64 imm) tF).later (BEL.out _)
  rw [← HF.out] at R
  rw [doF_45]
  exact ⟨t, V, _, R, FX⟩

set_option maxRecDepth 100000 in
set_option maxHeartbeats 4000000 in
theorem do_46 (w : World) (t : Nat → Nat) (base M : Nat) (E : Env) (V : MV) (ol : List (Fr × FV)) (f : Fr) (cv : FV) (s : St) (h : MRep w t base M E V (ol ++ [(f, cv)]) s) (na nb nc : Nat) (ia : na < 16) (ib : nb < 16) (ic : nc < 16) (imm : Int) (_pi : -9223372036854775808 ≤ imm ∧ imm ≤ 9223372036854775807)
    (_hform : formB ⟨46, na, nb, nc, imm⟩ = true) (hf : FrOk E f) (L : Nat) (hs : Sane E L s) (_hL : L ≤ 1000000) (hE : EnvOk E) :
    Calls Try.prog 62 #[.pointer (some ⟨M, 0, none⟩), .pointer (some ⟨cv.blk, 0, none⟩), .agg #[.int .u8 46, .int .u8 na, .int .u8 nb, .int .u8 nc, .int .i64 imm]] w fun e w' =>
      e = .returned (.tuple #[]) ∧ MPost w t base M E (doF E s (ol.map Prod.fst) f ⟨46, na, nb, nc, imm⟩) w' := by
  have hp := h.fr.last
  obtain ⟨F, hF⟩ : ∃ F, F = cv.blk := ⟨_, rfl⟩
  obtain ⟨gA, hgA⟩ : ∃ g, g = f.r na := ⟨_, rfl⟩
  obtain ⟨gB, hgB⟩ : ∃ g, g = f.r nb := ⟨_, rfl⟩
  obtain ⟨gC, hgC⟩ : ∃ g, g = f.r nc := ⟨_, rfl⟩
  have va : w.cell? ⟨F, 2 + na, none⟩ = some (.int .i64 gA) := by rw [hF, hp.cellF, fL_reg f cv hp.rl na ia, hgA]; rfl
  have vb : w.cell? ⟨F, 2 + nb, none⟩ = some (.int .i64 gB) := by rw [hF, hp.cellF, fL_reg f cv hp.rl nb ib, hgB]; rfl
  have vc : w.cell? ⟨F, 2 + nc, none⟩ = some (.int .i64 gC) := by rw [hF, hp.cellF, fL_reg f cv hp.rl nc ic, hgC]; rfl
  have za : w.frozen? ⟨F, 2 + na, none⟩ = false := by rw [hF]; exact hp.frz _
  have iA : (na : Int) < 16 := by omega
  have iB : (nb : Int) < 16 := by omega
  have iC : (nc : Int) < 16 := by omega
  have hlF : F < w.heap.size := by rw [hF]; exact hp.lt
  have hlM : M < w.heap.size := h.ltM
  have tF : 2 < t F := by rw [hF, hp.tf]; omega
  have tM : 2 < t M := by rw [h.tm]; omega
  have nFM : ¬ F = M := fun e => by have h1 := hp.tf; rw [← hF, e, h.tm] at h1; omega
  have nMF : ¬ M = F := fun e => nFM e.symm
  have mixed : Try.prog.follows Departure.mixedOrders = true := by kernel_rfl
  have H := Lib.hid h
  have HP := Lib.hid hp
  have HF := Lib.hid hF
  have HFR := Lib.hid hf
  have HS := Lib.hid hs
  have HEE := Lib.hid hE
  have HGA := Lib.hid hgA.symm
  have HGB := Lib.hid hgB.symm
  have HGC := Lib.hid hgC.symm
  have BEL : Hid (∀ W : World, Below W.heap.size W (W.alloc (.cells #[.int .u8 46, .int .u8 na, .int .u8 nb, .int .u8 nc, .int .i64 imm] 73))) := fun W => (Below.refl _ _).alloc (Nat.le_refl _) _
  have F0 : Hid (Fx w w t t) := Fx.refl w t
  rw [← hF]
  clear h hp hF hf hs hE hgA hgB hgC
  go_enter Try.func62, Try.ntmps62
  have k1 : w.cell? ⟨F, 1, none⟩ = some (.int .i64 f.next) := by rw [HF.out, HP.out.cellF]; exact (fL_fn f cv).2
  have z1 : w.frozen? ⟨F, 1, none⟩ = false := by rw [HF.out]; exact HP.out.frz _
  have eT : s.top (ol.map Prod.fst) f = s := by
    have e := H.out.opn
    rw [List.map_append, List.map_cons, List.map_nil] at e
    show { s with opn := ol.map Prod.fst ++ [f] } = s
    rw [← e]
  have ET := Lib.hid eT
  clear eT
  go_wp2_with fail
  obtain ⟨w1, hw1⟩ : ∃ w1, w1 = w.alloc (.cells #[.int .u8 46, .int .u8 na, .int .u8 nb, .int .u8 nc, .int .i64 imm] 73) := ⟨_, rfl⟩
  rw [← hw1]
  have hB1 : Below w.heap.size w w1 := by rw [hw1]; exact BEL.out w
  have hc1 : w1.heap[w.heap.size]? = some (.cells #[.int .u8 46, .int .u8 na, .int .u8 nb, .int .u8 nc, .int .i64 imm] 73 (0, 0)) := by rw [hw1]; exact heap_alloc_new _ _
  have q0 : w1.cell? ⟨w.heap.size, 0, none⟩ = some (.int .u8 46) := by simp [World.cell?, hc1]
  have q1 : w1.cell? ⟨w.heap.size, 1, none⟩ = some (.int .u8 na) := by simp [World.cell?, hc1]
  have q2 : w1.cell? ⟨w.heap.size, 2, none⟩ = some (.int .u8 nb) := by simp [World.cell?, hc1]
  have q3 : w1.cell? ⟨w.heap.size, 3, none⟩ = some (.int .u8 nc) := by simp [World.cell?, hc1]
  have q4 : w1.cell? ⟨w.heap.size, 4, none⟩ = some (.int .i64 imm) := by simp [World.cell?, hc1]
  have va1 := (hB1.cell (p := ⟨F, 2 + na, none⟩) hlF).trans va
  have vb1 := (hB1.cell (p := ⟨F, 2 + nb, none⟩) hlF).trans vb
  have vc1 := (hB1.cell (p := ⟨F, 2 + nc, none⟩) hlF).trans vc
  have za1 := (hB1.frozen (p := ⟨F, 2 + na, none⟩) hlF).trans za
  have H1 := Lib.hid (H.out.below hB1)
  have F1 : Hid (Fx w w1 t t) := Fx.below hB1
  have hl1 : w.heap.size < w1.heap.size := (Array.getElem?_eq_some_iff.1 hc1).1
  have hlF1 : F < w1.heap.size := by omega
  have hlM1 : M < w1.heap.size := by omega
  have nbF : ¬ w.heap.size = F := by omega
  have nbM : ¬ w.heap.size = M := by omega
  have HB1 := Lib.hid hB1
  have k11 := (hB1.cell (p := ⟨F, 1, none⟩) hlF).trans k1
  have z11 := (hB1.frozen (p := ⟨F, 1, none⟩) hlF).trans z1
  clear hw1 hc1 va vb vc za hB1
  cases hz : (gA == 0)
  case true =>
    go_quiet (fail)
    go_wp2_with fail
    refine bodyPost_end (results_none rfl _ _ _) rfl ⟨rfl, ?_⟩
    have R := (H1.out.drew nq).next' imm
    have FX := (F1.out.drewN nq).set (g := F) (i := 1) (.int .i64 imm) tF
    rw [← HF.out] at R
    rw [doF_46, HGA.out, hz, if_pos rfl]
    exact ⟨t, V, _, R, FX⟩
  case false =>
    go_quiet (fail)
    go_wp2_with fail
    refine bodyPost_end (results_none rfl _ _ _) rfl ⟨rfl, ?_⟩
    have R := H1.out.drew nq
    have FX := F1.out.drewN nq
    rw [doF_46, HGA.out, hz, if_neg (by decide), ET.out]
    exact ⟨t, V, _, R, FX⟩

end Go.Proofs.Ytgjmdcbdkdmceaa.Mach
