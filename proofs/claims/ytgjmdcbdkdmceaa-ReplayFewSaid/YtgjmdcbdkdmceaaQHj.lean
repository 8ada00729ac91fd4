/- The program's machine: its instructions (34, 35, 36, 37, 38, 39, 41). Printed by gen_do.py. -/
import Derived.Test.YtgjmdcbdkdmceaaQ17
import Derived.Test.YtgjmdcbdkdmceaaQHe
import Derived.Test.YtgjmdcbdkdmceaaQ23
import Derived.Test.YtgjmdcbdkdmceaaQHh
namespace Go.Proofs.Ytgjmdcbdkdmceaa.Mach
open Go.RowKit

set_option maxRecDepth 100000 in
set_option maxHeartbeats 4000000 in
theorem do_34 (w : World) (t : Nat → Nat) (base M : Nat) (E : Env) (V : MV) (ol : List (Fr × FV)) (f : Fr) (cv : FV) (s : St) (h : MRep w t base M E V (ol ++ [(f, cv)]) s) (na nb nc : Nat) (ia : na < 16) (ib : nb < 16) (ic : nc < 16) (imm : Int) (pi : -9223372036854775808 ≤ imm ∧ imm ≤ 9223372036854775807)
    (hform : formB ⟨34, na, nb, nc, imm⟩ = true) (hf : FrOk E f) (L : Nat) (hs : Sane E L s) (hL : L ≤ 1000000) (hE : EnvOk E) :
    Calls Try.prog 62 #[.pointer (some ⟨M, 0, none⟩), .pointer (some ⟨cv.blk, 0, none⟩), .agg #[.int .u8 34, .int .u8 na, .int .u8 nb, .int .u8 nc, .int .i64 imm]] w fun e w' =>
      e = .returned (.tuple #[]) ∧ MPost w t base M E (doF E s (ol.map Prod.fst) f ⟨34, na, nb, nc, imm⟩) w' := by
  have hp := h.fr.last
  obtain ⟨F, hF⟩ : ∃ F, F = cv.blk := ⟨_, rfl⟩
  obtain ⟨gA, hgA⟩ : ∃ g, g = f.r na := ⟨_, rfl⟩
  obtain ⟨gB, hgB⟩ : ∃ g, g = f.r nb := ⟨_, rfl⟩
  obtain ⟨gC, hgC⟩ : ∃ g, g = f.r nc := ⟨_, rfl⟩
  have va : w.cell? ⟨F, 2 + na, none⟩ = some (.int .i64 gA) := by rw [hF, hp.cellF, fL_reg f cv hp.rl na ia, hgA]; rfl
  have vb : w.cell? ⟨F, 2 + nb, none⟩ = some (.int .i64 gB) := by rw [hF, hp.cellF, fL_reg f cv hp.rl nb ib, hgB]; rfl
  have vc : w.cell? ⟨F, 2 + nc, none⟩ = some (.int .i64 gC) := by rw [hF, hp.cellF, fL_reg f cv hp.rl nc ic, hgC]; rfl
  have za : w.frozen? ⟨F, 2 + na, none⟩ = false := by rw [hF]; exact hp.frz _
  have iA : (na : Int) < 16 := by omega
  have iB : (nb : Int) < 16 := by omega
  have iC : (nc : Int) < 16 := by omega
  have hlF : F < w.heap.size := by rw [hF]; exact hp.lt
  have hlM : M < w.heap.size := h.ltM
  have tF : 2 < t F := by rw [hF, hp.tf]; omega
  have tM : 2 < t M := by rw [h.tm]; omega
  have nFM : ¬ F = M := fun e => by have h1 := hp.tf; rw [← hF, e, h.tm] at h1; omega
  have nMF : ¬ M = F := fun e => nFM e.symm
  have mixed : Try.prog.follows Departure.mixedOrders = true := by kernel_rfl
  have H := Lib.hid h
  have HP := Lib.hid hp
  have HF := Lib.hid hF
  have HFR := Lib.hid hf
  have HS := Lib.hid hs
  have HEE := Lib.hid hE
  have HGA := Lib.hid hgA.symm
  have HGB := Lib.hid hgB.symm
  have HGC := Lib.hid hgC.symm
  have BEL : Hid (∀ W : World, Below W.heap.size W (W.alloc (.cells #[.int .u8 34, .int .u8 na, .int .u8 nb, .int .u8 nc, .int .i64 imm] 73))) := fun W => (Below.refl _ _).alloc (Nat.le_refl _) _
  have F0 : Hid (Fx w w t t) := Fx.refl w t
  rw [← hF]
  clear h hp hF hf hs hE hgA hgB hgC
  go_enter Try.func62, Try.ntmps62
  go_wp2_with fail
  rw [HF.out]
  refine (mem_34 _ t base M E V ol f cv s (H.out.below (BEL.out w)) na nb nc ia ib ic imm pi hform HFR.out L HS.out hL HEE.out).mono ?_
  rintro e w' ⟨rfl, hP⟩
  go_wp2_with fail
  refine bodyPost_end (results_none rfl _ _ _) rfl ⟨rfl, ?_⟩
  exact hP.before (Fx.below (BEL.out w))

set_option maxRecDepth 100000 in
set_option maxHeartbeats 4000000 in
theorem do_35 (w : World) (t : Nat → Nat) (base M : Nat) (E : Env) (V : MV) (ol : List (Fr × FV)) (f : Fr) (cv : FV) (s : St) (h : MRep w t base M E V (ol ++ [(f, cv)]) s) (na nb nc : Nat) (ia : na < 16) (ib : nb < 16) (ic : nc < 16) (imm : Int) (pi : -9223372036854775808 ≤ imm ∧ imm ≤ 9223372036854775807)
    (hform : formB ⟨35, na, nb, nc, imm⟩ = true) (hf : FrOk E f) (L : Nat) (hs : Sane E L s) (hL : L ≤ 1000000) (hE : EnvOk E) :
    Calls Try.prog 62 #[.pointer (some ⟨M, 0, none⟩), .pointer (some ⟨cv.blk, 0, none⟩), .agg #[.int .u8 35, .int .u8 na, .int .u8 nb, .int .u8 nc, .int .i64 imm]] w fun e w' =>
      e = .returned (.tuple #[]) ∧ MPost w t base M E (doF E s (ol.map Prod.fst) f ⟨35, na, nb, nc, imm⟩) w' := by
  have hp := h.fr.last
  obtain ⟨F, hF⟩ : ∃ F, F = cv.blk := ⟨_, rfl⟩
  obtain ⟨gA, hgA⟩ : ∃ g, g = f.r na := ⟨_, rfl⟩
  obtain ⟨gB, hgB⟩ : ∃ g, g = f.r nb := ⟨_, rfl⟩
  obtain ⟨gC, hgC⟩ : ∃ g, g = f.r nc := ⟨_, rfl⟩
  have va : w.cell? ⟨F, 2 + na, none⟩ = some (.int .i64 gA) := by rw [hF, hp.cellF, fL_reg f cv hp.rl na ia, hgA]; rfl
  have vb : w.cell? ⟨F, 2 + nb, none⟩ = some (.int .i64 gB) := by rw [hF, hp.cellF, fL_reg f cv hp.rl nb ib, hgB]; rfl
  have vc : w.cell? ⟨F, 2 + nc, none⟩ = some (.int .i64 gC) := by rw [hF, hp.cellF, fL_reg f cv hp.rl nc ic, hgC]; rfl
  have za : w.frozen? ⟨F, 2 + na, none⟩ = false := by rw [hF]; exact hp.frz _
  have iA : (na : Int) < 16 := by omega
  have iB : (nb : Int) < 16 := by omega
  have iC : (nc : Int) < 16 := by omega
  have hlF : F < w.heap.size := by rw [hF]; exact hp.lt
  have hlM : M < w.heap.size := h.ltM
  have tF : 2 < t F := by rw [hF, hp.tf]; omega
  have tM : 2 < t M := by rw [h.tm]; omega
  have nFM : ¬ F = M := fun e => by have h1 := hp.tf; rw [← hF, e, h.tm] at h1; omega
  have nMF : ¬ M = F := fun e => nFM e.symm
  have mixed : Try.prog.follows Departure.mixedOrders = true := by kernel_rfl
  have H := Lib.hid h
  have HP := Lib.hid hp
  have HF := Lib.hid hF
  have HFR := Lib.hid hf
  have HS := Lib.hid hs
  have HEE := Lib.hid hE
  have HGA := Lib.hid hgA.symm
  have HGB := Lib.hid hgB.symm
  have HGC := Lib.hid hgC.symm
  have BEL : Hid (∀ W : World, Below W.heap.size W (W.alloc (.cells #[.int .u8 35, .int .u8 na, .int .u8 nb, .int .u8 nc, .int .i64 imm] 73))) := fun W => (Below.refl _ _).alloc (Nat.le_refl _) _
  have F0 : Hid (Fx w w t t) := Fx.refl w t
  rw [← hF]
  clear h hp hF hf hs hE hgA hgB hgC
  go_enter Try.func62, Try.ntmps62
  go_wp2_with fail
  rw [HF.out]
  refine (mem_35 _ t base M E V ol f cv s (H.out.below (BEL.out w)) na nb nc ia ib ic imm pi hform HFR.out L HS.out hL HEE.out).mono ?_
  rintro e w' ⟨rfl, hP⟩
  go_wp2_with fail
  refine bodyPost_end (results_none rfl _ _ _) rfl ⟨rfl, ?_⟩
  exact hP.before (Fx.below (BEL.out w))

set_option maxRecDepth 100000 in
set_option maxHeartbeats 4000000 in
theorem do_36 (w : World) (t : Nat → Nat) (base M : Nat) (E : Env) (V : MV) (ol : List (Fr × FV)) (f : Fr) (cv : FV) (s : St) (h : MRep w t base M E V (ol ++ [(f, cv)]) s) (na nb nc : Nat) (ia : na < 16) (ib : nb < 16) (ic : nc < 16) (imm : Int) (pi : -9223372036854775808 ≤ imm ∧ imm ≤ 9223372036854775807)
    (hform : formB ⟨36, na, nb, nc, imm⟩ = true) (hf : FrOk E f) (L : Nat) (hs : Sane E L s) (hL : L ≤ 1000000) (hE : EnvOk E) :
    Calls Try.prog 62 #[.pointer (some ⟨M, 0, none⟩), .pointer (some ⟨cv.blk, 0, none⟩), .agg #[.int .u8 36, .int .u8 na, .int .u8 nb, .int .u8 nc, .int .i64 imm]] w fun e w' =>
      e = .returned (.tuple #[]) ∧ MPost w t base M E (doF E s (ol.map Prod.fst) f ⟨36, na, nb, nc, imm⟩) w' := by
  have hp := h.fr.last
  obtain ⟨F, hF⟩ : ∃ F, F = cv.blk := ⟨_, rfl⟩
  obtain ⟨gA, hgA⟩ : ∃ g, g = f.r na := ⟨_, rfl⟩
  obtain ⟨gB, hgB⟩ : ∃ g, g = f.r nb := ⟨_, rfl⟩
  obtain ⟨gC, hgC⟩ : ∃ g, g = f.r nc := ⟨_, rfl⟩
  have va : w.cell? ⟨F, 2 + na, none⟩ = some (.int .i64 gA) := by rw [hF, hp.cellF, fL_reg f cv hp.rl na ia, hgA]; rfl
  have vb : w.cell? ⟨F, 2 + nb, none⟩ = some (.int .i64 gB) := by rw [hF, hp.cellF, fL_reg f cv hp.rl nb ib, hgB]; rfl
  have vc : w.cell? ⟨F, 2 + nc, none⟩ = some (.int .i64 gC) := by rw [hF, hp.cellF, fL_reg f cv hp.rl nc ic, hgC]; rfl
  have za : w.frozen? ⟨F, 2 + na, none⟩ = false := by rw [hF]; exact hp.frz _
  have iA : (na : Int) < 16 := by omega
  have iB : (nb : Int) < 16 := by omega
  have iC : (nc : Int) < 16 := by omega
  have hlF : F < w.heap.size := by rw [hF]; exact hp.lt
  have hlM : M < w.heap.size := h.ltM
  have tF : 2 < t F := by rw [hF, hp.tf]; omega
  have tM : 2 < t M := by rw [h.tm]; omega
  have nFM : ¬ F = M := fun e => by have h1 := hp.tf; rw [← hF, e, h.tm] at h1; omega
  have nMF : ¬ M = F := fun e => nFM e.symm
  have mixed : Try.prog.follows Departure.mixedOrders = true := by kernel_rfl
  have H := Lib.hid h
  have HP := Lib.hid hp
  have HF := Lib.hid hF
  have HFR := Lib.hid hf
  have HS := Lib.hid hs
  have HEE := Lib.hid hE
  have HGA := Lib.hid hgA.symm
  have HGB := Lib.hid hgB.symm
  have HGC := Lib.hid hgC.symm
  have BEL : Hid (∀ W : World, Below W.heap.size W (W.alloc (.cells #[.int .u8 36, .int .u8 na, .int .u8 nb, .int .u8 nc, .int .i64 imm] 73))) := fun W => (Below.refl _ _).alloc (Nat.le_refl _) _
  have F0 : Hid (Fx w w t t) := Fx.refl w t
  rw [← hF]
  clear h hp hF hf hs hE hgA hgB hgC
  go_enter Try.func62, Try.ntmps62
  go_wp2_with fail
  rw [HF.out]
  refine (mem_36 _ t base M E V ol f cv s (H.out.below (BEL.out w)) na nb nc ia ib ic imm pi hform HFR.out L HS.out hL HEE.out).mono ?_
  rintro e w' ⟨rfl, hP⟩
  go_wp2_with fail
  refine bodyPost_end (results_none rfl _ _ _) rfl ⟨rfl, ?_⟩
  exact hP.before (Fx.below (BEL.out w))

set_option maxRecDepth 100000 in
set_option maxHeartbeats 4000000 in
theorem do_37 (w : World) (t : Nat → Nat) (base M : Nat) (E : Env) (V : MV) (ol : List (Fr × FV)) (f : Fr) (cv : FV) (s : St) (h : MRep w t base M E V (ol ++ [(f, cv)]) s) (na nb nc : Nat) (ia : na < 16) (ib : nb < 16) (ic : nc < 16) (imm : Int) (pi : -9223372036854775808 ≤ imm ∧ imm ≤ 9223372036854775807)
    (hform : formB ⟨37, na, nb, nc, imm⟩ = true) (hf : FrOk E f) (L : Nat) (hs : Sane E L s) (hL : L ≤ 1000000) (hE : EnvOk E) :
    Calls Try.prog 62 #[.pointer (some ⟨M, 0, none⟩), .pointer (some ⟨cv.blk, 0, none⟩), .agg #[.int .u8 37, .int .u8 na, .int .u8 nb, .int .u8 nc, .int .i64 imm]] w fun e w' =>
      e = .returned (.tuple #[]) ∧ MPost w t base M E (doF E s (ol.map Prod.fst) f ⟨37, na, nb, nc, imm⟩) w' := by
  have hp := h.fr.last
  obtain ⟨F, hF⟩ : ∃ F, F = cv.blk := ⟨_, rfl⟩
  obtain ⟨gA, hgA⟩ : ∃ g, g = f.r na := ⟨_, rfl⟩
  obtain ⟨gB, hgB⟩ : ∃ g, g = f.r nb := ⟨_, rfl⟩
  obtain ⟨gC, hgC⟩ : ∃ g, g = f.r nc := ⟨_, rfl⟩
  have va : w.cell? ⟨F, 2 + na, none⟩ = some (.int .i64 gA) := by rw [hF, hp.cellF, fL_reg f cv hp.rl na ia, hgA]; rfl
  have vb : w.cell? ⟨F, 2 + nb, none⟩ = some (.int .i64 gB) := by rw [hF, hp.cellF, fL_reg f cv hp.rl nb ib, hgB]; rfl
  have vc : w.cell? ⟨F, 2 + nc, none⟩ = some (.int .i64 gC) := by rw [hF, hp.cellF, fL_reg f cv hp.rl nc ic, hgC]; rfl
  have za : w.frozen? ⟨F, 2 + na, none⟩ = false := by rw [hF]; exact hp.frz _
  have iA : (na : Int) < 16 := by omega
  have iB : (nb : Int) < 16 := by omega
  have iC : (nc : Int) < 16 := by omega
  have hlF : F < w.heap.size := by rw [hF]; exact hp.lt
  have hlM : M < w.heap.size := h.ltM
  have tF : 2 < t F := by rw [hF, hp.tf]; omega
  have tM : 2 < t M := by rw [h.tm]; omega
  have nFM : ¬ F = M := fun e => by have h1 := hp.tf; rw [← hF, e, h.tm] at h1; omega
  have nMF : ¬ M = F := fun e => nFM e.symm
  have mixed : Try.prog.follows Departure.mixedOrders = true := by kernel_rfl
  have H := Lib.hid h
  have HP := Lib.hid hp
  have HF := Lib.hid hF
  have HFR := Lib.hid hf
  have HS := Lib.hid hs
  have HEE := Lib.hid hE
  have HGA := Lib.hid hgA.symm
  have HGB := Lib.hid hgB.symm
  have HGC := Lib.hid hgC.symm
  have BEL : Hid (∀ W : World, Below W.heap.size W (W.alloc (.cells #[.int .u8 37, .int .u8 na, .int .u8 nb, .int .u8 nc, .int .i64 imm] 73))) := fun W => (Below.refl _ _).alloc (Nat.le_refl _) _
  have F0 : Hid (Fx w w t t) := Fx.refl w t
  rw [← hF]
  clear h hp hF hf hs hE hgA hgB hgC
  go_enter Try.func62, Try.ntmps62
  go_wp2_with fail
  rw [HF.out]
  refine (mem_37 _ t base M E V ol f cv s (H.out.below (BEL.out w)) na nb nc ia ib ic imm pi hform HFR.out L HS.out hL HEE.out).mono ?_
  rintro e w' ⟨rfl, hP⟩
  go_wp2_with fail
  refine bodyPost_end (results_none rfl _ _ _) rfl ⟨rfl, ?_⟩
  exact hP.before (Fx.below (BEL.out w))

set_option maxRecDepth 100000 in
set_option maxHeartbeats 4000000 in
theorem do_38 (w : World) (t : Nat → Nat) (base M : Nat) (E : Env) (V : MV) (ol : List (Fr × FV)) (f : Fr) (cv : FV) (s : St) (h : MRep w t base M E V (ol ++ [(f, cv)]) s) (na nb nc : Nat) (ia : na < 16) (ib : nb < 16) (ic : nc < 16) (imm : Int) (pi : -9223372036854775808 ≤ imm ∧ imm ≤ 9223372036854775807)
    (hform : formB ⟨38, na, nb, nc, imm⟩ = true) (hf : FrOk E f) (L : Nat) (hs : Sane E L s) (hL : L ≤ 1000000) (hE : EnvOk E) :
    Calls Try.prog 62 #[.pointer (some ⟨M, 0, none⟩), .pointer (some ⟨cv.blk, 0, none⟩), .agg #[.int .u8 38, .int .u8 na, .int .u8 nb, .int .u8 nc, .int .i64 imm]] w fun e w' =>
      e = .returned (.tuple #[]) ∧ MPost w t base M E (doF E s (ol.map Prod.fst) f ⟨38, na, nb, nc, imm⟩) w' := by
  have hp := h.fr.last
  obtain ⟨F, hF⟩ : ∃ F, F = cv.blk := ⟨_, rfl⟩
  obtain ⟨gA, hgA⟩ : ∃ g, g = f.r na := ⟨_, rfl⟩
  obtain ⟨gB, hgB⟩ : ∃ g, g = f.r nb := ⟨_, rfl⟩
  obtain ⟨gC, hgC⟩ : ∃ g, g = f.r nc := ⟨_, rfl⟩
  have va : w.cell? ⟨F, 2 + na, none⟩ = some (.int .i64 gA) := by rw [hF, hp.cellF, fL_reg f cv hp.rl na ia, hgA]; rfl
  have vb : w.cell? ⟨F, 2 + nb, none⟩ = some (.int .i64 gB) := by rw [hF, hp.cellF, fL_reg f cv hp.rl nb ib, hgB]; rfl
  have vc : w.cell? ⟨F, 2 + nc, none⟩ = some (.int .i64 gC) := by rw [hF, hp.cellF, fL_reg f cv hp.rl nc ic, hgC]; rfl
  have za : w.frozen? ⟨F, 2 + na, none⟩ = false := by rw [hF]; exact hp.frz _
  have iA : (na : Int) < 16 := by omega
  have iB : (nb : Int) < 16 := by omega
  have iC : (nc : Int) < 16 := by omega
  have hlF : F < w.heap.size := by rw [hF]; exact hp.lt
  have hlM : M < w.heap.size := h.ltM
  have tF : 2 < t F := by rw [hF, hp.tf]; omega
  have tM : 2 < t M := by rw [h.tm]; omega
  have nFM : ¬ F = M := fun e => by have h1 := hp.tf; rw [← hF, e, h.tm] at h1; omega
  have nMF : ¬ M = F := fun e => nFM e.symm
  have mixed : Try.prog.follows Departure.mixedOrders = true := by kernel_rfl
  have H := Lib.hid h
  have HP := Lib.hid hp
  have HF := Lib.hid hF
  have HFR := Lib.hid hf
  have HS := Lib.hid hs
  have HEE := Lib.hid hE
  have HGA := Lib.hid hgA.symm
  have HGB := Lib.hid hgB.symm
  have HGC := Lib.hid hgC.symm
  have BEL : Hid (∀ W : World, Below W.heap.size W (W.alloc (.cells #[.int .u8 38, .int .u8 na, .int .u8 nb, .int .u8 nc, .int .i64 imm] 73))) := fun W => (Below.refl _ _).alloc (Nat.le_refl _) _
  have F0 : Hid (Fx w w t t) := Fx.refl w t
  rw [← hF]
  clear h hp hF hf hs hE hgA hgB hgC
  go_enter Try.func62, Try.ntmps62
  go_wp2_with fail
  rw [HF.out]
  refine (mem_38 _ t base M E V ol f cv s (H.out.below (BEL.out w)) na nb nc ia ib ic imm pi hform HFR.out L HS.out hL HEE.out).mono ?_
  rintro e w' ⟨rfl, hP⟩
  go_wp2_with fail
  refine bodyPost_end (results_none rfl _ _ _) rfl ⟨rfl, ?_⟩
  exact hP.before (Fx.below (BEL.out w))

set_option maxRecDepth 100000 in
set_option maxHeartbeats 4000000 in
theorem do_39 (w : World) (t : Nat → Nat) (base M : Nat) (E : Env) (V : MV) (ol : List (Fr × FV)) (f : Fr) (cv : FV) (s : St) (h : MRep w t base M E V (ol ++ [(f, cv)]) s) (na nb nc : Nat) (ia : na < 16) (ib : nb < 16) (ic : nc < 16) (imm : Int) (pi : -9223372036854775808 ≤ imm ∧ imm ≤ 9223372036854775807)
    (hform : formB ⟨39, na, nb, nc, imm⟩ = true) (hf : FrOk E f) (L : Nat) (hs : Sane E L s) (hL : L ≤ 1000000) (hE : EnvOk E) :
    Calls Try.prog 62 #[.pointer (some ⟨M, 0, none⟩), .pointer (some ⟨cv.blk, 0, none⟩), .agg #[.int .u8 39, .int .u8 na, .int .u8 nb, .int .u8 nc, .int .i64 imm]] w fun e w' =>
      e = .returned (.tuple #[]) ∧ MPost w t base M E (doF E s (ol.map Prod.fst) f ⟨39, na, nb, nc, imm⟩) w' := by
  have hp := h.fr.last
  obtain ⟨F, hF⟩ : ∃ F, F = cv.blk := ⟨_, rfl⟩
  obtain ⟨gA, hgA⟩ : ∃ g, g = f.r na := ⟨_, rfl⟩
  obtain ⟨gB, hgB⟩ : ∃ g, g = f.r nb := ⟨_, rfl⟩
  obtain ⟨gC, hgC⟩ : ∃ g, g = f.r nc := ⟨_, rfl⟩
  have va : w.cell? ⟨F, 2 + na, none⟩ = some (.int .i64 gA) := by rw [hF, hp.cellF, fL_reg f cv hp.rl na ia, hgA]; rfl
  have vb : w.cell? ⟨F, 2 + nb, none⟩ = some (.int .i64 gB) := by rw [hF, hp.cellF, fL_reg f cv hp.rl nb ib, hgB]; rfl
  have vc : w.cell? ⟨F, 2 + nc, none⟩ = some (.int .i64 gC) := by rw [hF, hp.cellF, fL_reg f cv hp.rl nc ic, hgC]; rfl
  have za : w.frozen? ⟨F, 2 + na, none⟩ = false := by rw [hF]; exact hp.frz _
  have iA : (na : Int) < 16 := by omega
  have iB : (nb : Int) < 16 := by omega
  have iC : (nc : Int) < 16 := by omega
  have hlF : F < w.heap.size := by rw [hF]; exact hp.lt
  have hlM : M < w.heap.size := h.ltM
  have tF : 2 < t F := by rw [hF, hp.tf]; omega
  have tM : 2 < t M := by rw [h.tm]; omega
  have nFM : ¬ F = M := fun e => by have h1 := hp.tf; rw [← hF, e, h.tm] at h1; omega
  have nMF : ¬ M = F := fun e => nFM e.symm
  have mixed : Try.prog.follows Departure.mixedOrders = true := by kernel_rfl
  have H := Lib.hid h
  have HP := Lib.hid hp
  have HF := Lib.hid hF
  have HFR := Lib.hid hf
  have HS := Lib.hid hs
  have HEE := Lib.hid hE
  have HGA := Lib.hid hgA.symm
  have HGB := Lib.hid hgB.symm
  have HGC := Lib.hid hgC.symm
  have BEL : Hid (∀ W : World, Below W.heap.size W (W.alloc (.cells #[.int .u8 39, .int .u8 na, .int .u8 nb, .int .u8 nc, .int .i64 imm] 73))) := fun W => (Below.refl _ _).alloc (Nat.le_refl _) _
  have F0 : Hid (Fx w w t t) := Fx.refl w t
  rw [← hF]
  clear h hp hF hf hs hE hgA hgB hgC
  go_enter Try.func62, Try.ntmps62
  go_wp2_with fail
  rw [HF.out]
  refine (mem_39 _ t base M E V ol f cv s (H.out.below (BEL.out w)) na nb nc ia ib ic imm pi hform HFR.out L HS.out hL HEE.out).mono ?_
  rintro e w' ⟨rfl, hP⟩
  go_wp2_with fail
  refine bodyPost_end (results_none rfl _ _ _) rfl ⟨rfl, ?_⟩
  exact hP.before (Fx.below (BEL.out w))

set_option maxRecDepth 100000 in
set_option maxHeartbeats 4000000 in
theorem do_41 (w : World) (t : Nat → Nat) (base M : Nat) (E : Env) (V : MV) (ol : List (Fr × FV)) (f : Fr) (cv : FV) (s : St) (h : MRep w t base M E V (ol ++ [(f, cv)]) s) (na nb nc : Nat) (ia : na < 16) (ib : nb < 16) (ic : nc < 16) (imm : Int) (pi : -9223372036854775808 ≤ imm ∧ imm ≤ 9223372036854775807)
    (hform : formB ⟨41, na, nb, nc, imm⟩ = true) (hf : FrOk E f) (L : Nat) (hs : Sane E L s) (hL : L ≤ 1000000) (hE : EnvOk E) :
    Calls Try.prog 62 #[.pointer (some ⟨M, 0, none⟩), .pointer (some ⟨cv.blk, 0, none⟩), .agg #[.int .u8 41, .int .u8 na, .int .u8 nb, .int .u8 nc, .int .i64 imm]] w fun e w' =>
      e = .returned (.tuple #[]) ∧ MPost w t base M E (doF E s (ol.map Prod.fst) f ⟨41, na, nb, nc, imm⟩) w' := by
  have hp := h.fr.last
  obtain ⟨F, hF⟩ : ∃ F, F = cv.blk := ⟨_, rfl⟩
  obtain ⟨gA, hgA⟩ : ∃ g, g = f.r na := ⟨_, rfl⟩
  obtain ⟨gB, hgB⟩ : ∃ g, g = f.r nb := ⟨_, rfl⟩
  obtain ⟨gC, hgC⟩ : ∃ g, g = f.r nc := ⟨_, rfl⟩
  have va : w.cell? ⟨F, 2 + na, none⟩ = some (.int .i64 gA) := by rw [hF, hp.cellF, fL_reg f cv hp.rl na ia, hgA]; rfl
  have vb : w.cell? ⟨F, 2 + nb, none⟩ = some (.int .i64 gB) := by rw [hF, hp.cellF, fL_reg f cv hp.rl nb ib, hgB]; rfl
  have vc : w.cell? ⟨F, 2 + nc, none⟩ = some (.int .i64 gC) := by rw [hF, hp.cellF, fL_reg f cv hp.rl nc ic, hgC]; rfl
  have za : w.frozen? ⟨F, 2 + na, none⟩ = false := by rw [hF]; exact hp.frz _
  have iA : (na : Int) < 16 := by omega
  have iB : (nb : Int) < 16 := by omega
  have iC : (nc : Int) < 16 := by omega
  have hlF : F < w.heap.size := by rw [hF]; exact hp.lt
  have hlM : M < w.heap.size := h.ltM
  have tF : 2 < t F := by rw [hF, hp.tf]; omega
  have tM : 2 < t M := by rw [h.tm]; omega
  have nFM : ¬ F = M := fun e => by have h1 := hp.tf; rw [← hF, e, h.tm] at h1; omega
  have nMF : ¬ M = F := fun e => nFM e.symm
  have mixed : Try.prog.follows Departure.mixedOrders = true := by kernel_rfl
  have H := Lib.hid h
  have HP := Lib.hid hp
  have HF := Lib.hid hF
  have HFR := Lib.hid hf
  have HS := Lib.hid hs
  have HEE := Lib.hid hE
  have HGA := Lib.hid hgA.symm
  have HGB := Lib.hid hgB.symm
  have HGC := Lib.hid hgC.symm
  have BEL : Hid (∀ W : World, Below W.heap.size W (W.alloc (.cells #[.int .u8 41, .int .u8 na, .int .u8 nb, .int .u8 nc, .int .i64 imm] 73))) := fun W => (Below.refl _ _).alloc (Nat.le_refl _) _
  have F0 : Hid (Fx w w t t) := Fx.refl w t
  rw [← hF]
  clear h hp hF hf hs hE hgA hgB hgC
  go_enter Try.func62, Try.ntmps62
  go_wp2_with fail
  rw [HF.out]
  refine (call_41 _ t base M E V ol f cv s (H.out.below (BEL.out w)) na nb nc ia ib ic imm pi hform HFR.out L HS.out hL HEE.out).mono ?_
  rintro e w' ⟨rfl, hP⟩
  go_wp2_with fail
  refine bodyPost_end (results_none rfl _ _ _) rfl ⟨rfl, ?_⟩
  exact hP.before (Fx.below (BEL.out w))

end Go.Proofs.Ytgjmdcbdkdmceaa.Mach
