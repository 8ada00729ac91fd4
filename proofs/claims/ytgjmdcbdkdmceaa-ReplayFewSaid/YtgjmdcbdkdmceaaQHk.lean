/- The program's machine: its instructions (47, D). Printed by gen_do.py. -/
import Derived.Test.YtgjmdcbdkdmceaaQ17
import Derived.Test.YtgjmdcbdkdmceaaQ24
namespace Go.Proofs.Ytgjmdcbdkdmceaa.Mach
open Go.RowKit

set_option maxRecDepth 100000 in
set_option maxHeartbeats 4000000 in
theorem do_47 (w : World) (t : Nat → Nat) (base M : Nat) (E : Env) (V : MV) (ol : List (Fr × FV)) (f : Fr) (cv : FV) (s : St) (h : MRep w t base M E V (ol ++ [(f, cv)]) s) (na nb nc : Nat) (ia : na < 16) (ib : nb < 16) (ic : nc < 16) (imm : Int) (_pi : -9223372036854775808 ≤ imm ∧ imm ≤ 9223372036854775807)
    (_hform : formB ⟨47, na, nb, nc, imm⟩ = true) (hf : FrOk E f) (L : Nat) (hs : Sane E L s) (_hL : L ≤ 1000000) (hE : EnvOk E) :
    Calls Try.prog 62 #[.pointer (some ⟨M, 0, none⟩), .pointer (some ⟨cv.blk, 0, none⟩), .agg #[.int .u8 47, .int .u8 na, .int .u8 nb, .int .u8 nc, .int .i64 imm]] w fun e w' =>
      e = .returned (.tuple #[]) ∧ MPost w t base M E (doF E s (ol.map Prod.fst) f ⟨47, na, nb, nc, imm⟩) w' := by
  have hp := h.fr.last
  obtain ⟨F, hF⟩ : ∃ F, F = cv.blk := ⟨_, rfl⟩
  obtain ⟨gA, hgA⟩ : ∃ g, g = f.r na := ⟨_, rfl⟩
  obtain ⟨gB, hgB⟩ : ∃ g, g = f.r nb := ⟨_, rfl⟩
  obtain ⟨gC, hgC⟩ : ∃ g, g = f.r nc := ⟨_, rfl⟩
  have va : w.cell? ⟨F, 2 + na, none⟩ = some (.int .i64 gA) := by rw [hF, hp.cellF, fL_reg f cv hp.rl na ia, hgA]; rfl
  have vb : w.cell? ⟨F, 2 + nb, none⟩ = some (.int .i64 gB) := by rw [hF, hp.cellF, fL_reg f cv hp.rl nb ib, hgB]; rfl
  have vc : w.cell? ⟨F, 2 + nc, none⟩ = some (.int .i64 gC) := by rw [hF, hp.cellF, fL_reg f cv hp.rl nc ic, hgC]; rfl
  have za : w.frozen? ⟨F, 2 + na, none⟩ = false := by rw [hF]; exact hp.frz _
  have iA : (na : Int) < 16 := by omega
  have iB : (nb : Int) < 16 := by omega
  have iC : (nc : Int) < 16 := by omega
  have hlF : F < w.heap.size := by rw [hF]; exact hp.lt
  have hlM : M < w.heap.size := h.ltM
  have tF : 2 < t F := by rw [hF, hp.tf]; omega
  have tM : 2 < t M := by rw [h.tm]; omega
  have nFM : ¬ F = M := fun e => by have h1 := hp.tf; rw [← hF, e, h.tm] at h1; omega
  have nMF : ¬ M = F := fun e => nFM e.symm
  have mixed : Try.prog.follows Departure.mixedOrders = true := by kernel_rfl
  have H := Lib.hid h
  have HP := Lib.hid hp
  have HF := Lib.hid hF
  have HFR := Lib.hid hf
  have HS := Lib.hid hs
  have HEE := Lib.hid hE
  have HGA := Lib.hid hgA.symm
  have HGB := Lib.hid hgB.symm
  have HGC := Lib.hid hgC.symm
  have BEL : Hid (∀ W : World, Below W.heap.size W (W.alloc (.cells #[.int .u8 47, .int .u8 na, .int .u8 nb, .int .u8 nc, .int .i64 imm] 73))) := fun W => (Below.refl _ _).alloc (Nat.le_refl _) _
  have F0 : Hid (Fx w w t t) := Fx.refl w t
  rw [← hF]
  clear h hp hF hf hs hE hgA hgB hgC
  go_enter Try.func62, Try.ntmps62
  rcases List.eq_nil_or_concat ol with e0 | ⟨ol', gc, e0⟩
  · subst e0
    go_wp2_with fail
    obtain ⟨w1, hw1⟩ : ∃ w1, w1 = w.alloc (.cells #[.int .u8 47, .int .u8 na, .int .u8 nb, .int .u8 nc, .int .i64 imm] 73) := ⟨_, rfl⟩
    rw [← hw1]
    have hB1 : Below w.heap.size w w1 := by rw [hw1]; exact BEL.out w
    have hc1 : w1.heap[w.heap.size]? = some (.cells #[.int .u8 47, .int .u8 na, .int .u8 nb, .int .u8 nc, .int .i64 imm] 73 (0, 0)) := by rw [hw1]; exact heap_alloc_new _ _
    have q01 : w1.cell? ⟨w.heap.size, 0, none⟩ = some (.int .u8 47) := by simp [World.cell?, hc1]
    have q11 : w1.cell? ⟨w.heap.size, 1, none⟩ = some (.int .u8 na) := by simp [World.cell?, hc1]
    have q21 : w1.cell? ⟨w.heap.size, 2, none⟩ = some (.int .u8 nb) := by simp [World.cell?, hc1]
    have q31 : w1.cell? ⟨w.heap.size, 3, none⟩ = some (.int .u8 nc) := by simp [World.cell?, hc1]
    have q41 : w1.cell? ⟨w.heap.size, 4, none⟩ = some (.int .i64 imm) := by simp [World.cell?, hc1]
    have va1 := (hB1.cell (p := ⟨F, 2 + na, none⟩) hlF).trans va
    have vb1 := (hB1.cell (p := ⟨F, 2 + nb, none⟩) hlF).trans vb
    have vc1 := (hB1.cell (p := ⟨F, 2 + nc, none⟩) hlF).trans vc
    have za1 := (hB1.frozen (p := ⟨F, 2 + na, none⟩) hlF).trans za
    have H1 := Lib.hid (H.out.below hB1)
    have F1 : Hid (Fx w w1 t t) := Fx.below hB1
    have hl1 : w.heap.size < w1.heap.size := (Array.getElem?_eq_some_iff.1 hc1).1
    have hlF1 : F < w1.heap.size := by omega
    have hlM1 : M < w1.heap.size := by omega
    have nbF : ¬ w.heap.size = F := by omega
    have nbM : ¬ w.heap.size = M := by omega
    have HB1 := Lib.hid hB1
    clear hw1 hc1 va vb vc za hB1
    go_still_tail 7, mixed
    go_wp2_with fail
    change Calls _ _ _ (w1.drew) _
    refine (mgives_nil w1.drew t base M E V f cv s (H1.out.drew 1) gA).mono ?_
    rintro e w2 ⟨rfl, hP⟩
    go_wp2_with fail
    refine bodyPost_end (results_none rfl _ _ _) rfl ⟨rfl, ?_⟩
    rw [List.map_nil, doF_47n, HGA.out]
    exact hP.before (F1.out.drewN 1)
  · obtain ⟨g, cg⟩ := gc
    rw [List.concat_eq_append] at e0
    subst e0
    have hol : ol'.length ≤ 100 := by have h9 := HS.out.n; rw [H.out.opn] at h9; simp at h9; omega
    go_wp2_with fail
    obtain ⟨w1, hw1⟩ : ∃ w1, w1 = w.alloc (.cells #[.int .u8 47, .int .u8 na, .int .u8 nb, .int .u8 nc, .int .i64 imm] 73) := ⟨_, rfl⟩
    rw [← hw1]
    have hB1 : Below w.heap.size w w1 := by rw [hw1]; exact BEL.out w
    have hc1 : w1.heap[w.heap.size]? = some (.cells #[.int .u8 47, .int .u8 na, .int .u8 nb, .int .u8 nc, .int .i64 imm] 73 (0, 0)) := by rw [hw1]; exact heap_alloc_new _ _
    have q01 : w1.cell? ⟨w.heap.size, 0, none⟩ = some (.int .u8 47) := by simp [World.cell?, hc1]
    have q11 : w1.cell? ⟨w.heap.size, 1, none⟩ = some (.int .u8 na) := by simp [World.cell?, hc1]
    have q21 : w1.cell? ⟨w.heap.size, 2, none⟩ = some (.int .u8 nb) := by simp [World.cell?, hc1]
    have q31 : w1.cell? ⟨w.heap.size, 3, none⟩ = some (.int .u8 nc) := by simp [World.cell?, hc1]
    have q41 : w1.cell? ⟨w.heap.size, 4, none⟩ = some (.int .i64 imm) := by simp [World.cell?, hc1]
    have va1 := (hB1.cell (p := ⟨F, 2 + na, none⟩) hlF).trans va
    have vb1 := (hB1.cell (p := ⟨F, 2 + nb, none⟩) hlF).trans vb
    have vc1 := (hB1.cell (p := ⟨F, 2 + nc, none⟩) hlF).trans vc
    have za1 := (hB1.frozen (p := ⟨F, 2 + na, none⟩) hlF).trans za
    have H1 := Lib.hid (H.out.below hB1)
    have F1 : Hid (Fx w w1 t t) := Fx.below hB1
    have hl1 : w.heap.size < w1.heap.size := (Array.getElem?_eq_some_iff.1 hc1).1
    have hlF1 : F < w1.heap.size := by omega
    have hlM1 : M < w1.heap.size := by omega
    have nbF : ¬ w.heap.size = F := by omega
    have nbM : ¬ w.heap.size = M := by omega
    have HB1 := Lib.hid hB1
    clear hw1 hc1 va vb vc za hB1
    go_still_tail 7, mixed
    go_wp2_with fail
    change Calls _ _ _ (w1.drew) _
    refine (mgives_cons w1.drew t base M E V f cv s ol' g cg (H1.out.drew 1) hol HFR.out.ds gA).mono ?_
    rintro e w2 ⟨rfl, hP⟩
    go_wp2_with fail
    refine bodyPost_end (results_none rfl _ _ _) rfl ⟨rfl, ?_⟩
    rw [List.map_append, List.map_cons, List.map_nil, doF_47, HGA.out]
    exact hP.before (F1.out.drewN 1)

set_option maxRecDepth 100000 in
set_option maxHeartbeats 4000000 in
theorem do_D (w : World) (t : Nat → Nat) (base M : Nat) (E : Env) (V : MV) (ol : List (Fr × FV)) (f : Fr) (cv : FV) (s : St) (h : MRep w t base M E V (ol ++ [(f, cv)]) s) (op : Int) (hop : op ≤ 29 ∨ 49 ≤ op) (_p0 : 0 ≤ op) (_p1 : op ≤ 255) (na nb nc : Nat) (ia : na < 16) (ib : nb < 16) (ic : nc < 16) (imm : Int) (_pi : -9223372036854775808 ≤ imm ∧ imm ≤ 9223372036854775807)
    (_hform : formB ⟨op, na, nb, nc, imm⟩ = true) (hf : FrOk E f) (L : Nat) (hs : Sane E L s) (_hL : L ≤ 1000000) (hE : EnvOk E) :
    Calls Try.prog 62 #[.pointer (some ⟨M, 0, none⟩), .pointer (some ⟨cv.blk, 0, none⟩), .agg #[.int .u8 op, .int .u8 na, .int .u8 nb, .int .u8 nc, .int .i64 imm]] w fun e w' =>
      e = .returned (.tuple #[]) ∧ MPost w t base M E (doF E s (ol.map Prod.fst) f ⟨op, na, nb, nc, imm⟩) w' := by
  have hp := h.fr.last
  obtain ⟨F, hF⟩ : ∃ F, F = cv.blk := ⟨_, rfl⟩
  obtain ⟨gA, hgA⟩ : ∃ g, g = f.r na := ⟨_, rfl⟩
  obtain ⟨gB, hgB⟩ : ∃ g, g = f.r nb := ⟨_, rfl⟩
  obtain ⟨gC, hgC⟩ : ∃ g, g = f.r nc := ⟨_, rfl⟩
  have va : w.cell? ⟨F, 2 + na, none⟩ = some (.int .i64 gA) := by rw [hF, hp.cellF, fL_reg f cv hp.rl na ia, hgA]; rfl
  have vb : w.cell? ⟨F, 2 + nb, none⟩ = some (.int .i64 gB) := by rw [hF, hp.cellF, fL_reg f cv hp.rl nb ib, hgB]; rfl
  have vc : w.cell? ⟨F, 2 + nc, none⟩ = some (.int .i64 gC) := by rw [hF, hp.cellF, fL_reg f cv hp.rl nc ic, hgC]; rfl
  have za : w.frozen? ⟨F, 2 + na, none⟩ = false := by rw [hF]; exact hp.frz _
  have iA : (na : Int) < 16 := by omega
  have iB : (nb : Int) < 16 := by omega
  have iC : (nc : Int) < 16 := by omega
  have hlF : F < w.heap.size := by rw [hF]; exact hp.lt
  have hlM : M < w.heap.size := h.ltM
  have tF : 2 < t F := by rw [hF, hp.tf]; omega
  have tM : 2 < t M := by rw [h.tm]; omega
  have nFM : ¬ F = M := fun e => by have h1 := hp.tf; rw [← hF, e, h.tm] at h1; omega
  have nMF : ¬ M = F := fun e => nFM e.symm
  have mixed : Try.prog.follows Departure.mixedOrders = true := by kernel_rfl
  have H := Lib.hid h
  have HP := Lib.hid hp
  have HF := Lib.hid hF
  have HFR := Lib.hid hf
  have HS := Lib.hid hs
  have HEE := Lib.hid hE
  have HGA := Lib.hid hgA.symm
  have HGB := Lib.hid hgB.symm
  have HGC := Lib.hid hgC.symm
  have BEL : Hid (∀ W : World, Below W.heap.size W (W.alloc (.cells #[.int .u8 op, .int .u8 na, .int .u8 nb, .int .u8 nc, .int .i64 imm] 73))) := fun W => (Below.refl _ _).alloc (Nat.le_refl _) _
  have F0 : Hid (Fx w w t t) := Fx.refl w t
  rw [← hF]
  clear h hp hF hf hs hE hgA hgB hgC
  go_enter Try.func62, Try.ntmps62
  have eT : s.top (ol.map Prod.fst) f = s := by
    have e := H.out.opn
    rw [List.map_append, List.map_cons, List.map_nil] at e
    show { s with opn := ol.map Prod.fst ++ [f] } = s
    rw [← e]
  have ET := Lib.hid eT
  clear eT
  have m8 : w.cell? ⟨M, 8, none⟩ = some (.int .u8 s.end_) := (H.out.cellM 8).trans (mC_get V s).2.2.2.2.2.2.1
  have z8 := H.out.frzM 8
  go_wp2_with fail
  obtain ⟨w1, hw1⟩ : ∃ w1, w1 = w.alloc (.cells #[.int .u8 op, .int .u8 na, .int .u8 nb, .int .u8 nc, .int .i64 imm] 73) := ⟨_, rfl⟩
  rw [← hw1]
  have hB1 : Below w.heap.size w w1 := by rw [hw1]; exact BEL.out w
  have hc1 : w1.heap[w.heap.size]? = some (.cells #[.int .u8 op, .int .u8 na, .int .u8 nb, .int .u8 nc, .int .i64 imm] 73 (0, 0)) := by rw [hw1]; exact heap_alloc_new _ _
  have q01 : w1.cell? ⟨w.heap.size, 0, none⟩ = some (.int .u8 op) := by simp [World.cell?, hc1]
  have q11 : w1.cell? ⟨w.heap.size, 1, none⟩ = some (.int .u8 na) := by simp [World.cell?, hc1]
  have q21 : w1.cell? ⟨w.heap.size, 2, none⟩ = some (.int .u8 nb) := by simp [World.cell?, hc1]
  have q31 : w1.cell? ⟨w.heap.size, 3, none⟩ = some (.int .u8 nc) := by simp [World.cell?, hc1]
  have q41 : w1.cell? ⟨w.heap.size, 4, none⟩ = some (.int .i64 imm) := by simp [World.cell?, hc1]
  have va1 := (hB1.cell (p := ⟨F, 2 + na, none⟩) hlF).trans va
  have vb1 := (hB1.cell (p := ⟨F, 2 + nb, none⟩) hlF).trans vb
  have vc1 := (hB1.cell (p := ⟨F, 2 + nc, none⟩) hlF).trans vc
  have za1 := (hB1.frozen (p := ⟨F, 2 + na, none⟩) hlF).trans za
  have H1 := Lib.hid (H.out.below hB1)
  have F1 : Hid (Fx w w1 t t) := Fx.below hB1
  have hl1 : w.heap.size < w1.heap.size := (Array.getElem?_eq_some_iff.1 hc1).1
  have hlF1 : F < w1.heap.size := by omega
  have hlM1 : M < w1.heap.size := by omega
  have nbF : ¬ w.heap.size = F := by omega
  have nbM : ¬ w.heap.size = M := by omega
  have HB1 := Lib.hid hB1
  have m81 := (hB1.cell (p := ⟨M, 8, none⟩) hlM).trans m8
  have z81 := (hB1.frozen (p := ⟨M, 8, none⟩) hlM).trans z8
  clear m8 z8
  clear hw1 hc1 va vb vc za hB1
  obtain ⟨⟨nV, tr⟩, hv⟩ : ∃ r, r = valF op gB gC := ⟨_, rfl⟩
  have hgB : -9223372036854775808 ≤ gB ∧ gB ≤ 9223372036854775807 := by rw [← HGB.out]; exact HFR.out.r _
  have HV := Lib.hid (fun n => mvalue_any op gB gC hgB (w1.drewN n))
  rw [← hv] at HV
  have HV' := Lib.hid hv.symm
  clear hv
  cases ht : (tr != 0)
  case true =>
    go_quiet ((go_at_call 84; exact Calls.quiet_of_same (HV.out _)))
    go_wp2_with fail
    refine (ends_any M s.end_ tr (w1.drewN nq) m81 z81).mono ?_
    rintro e w3 ⟨rfl, rfl⟩
    go_wp2_with fail
    refine bodyPost_end (results_none rfl _ _ _) rfl ⟨rfl, ?_⟩
    have R := (H1.out.drew nq).end' tr
    have FX := (F1.out.drewN nq).set (g := M) (i := 8) (.int .u8 tr) tM
    rw [doF_D _ _ _ _ _ _ _ _ _ hop, HGB.out, HGC.out, HV'.out, ht, if_pos rfl, show (s.ends tr).top (ol.map Prod.fst) f = s.ends tr from by show (s.top (ol.map Prod.fst) f).ends tr = _; rw [ET.out]]
    exact ⟨t, V, _, R, FX⟩
  case false =>
    go_quiet ((go_at_call 84; exact Calls.quiet_of_same (HV.out _)))
    go_wp2_with fail
    obtain ⟨w2, hw2⟩ : ∃ w2, w2 = w1.drewN nq := ⟨_, rfl⟩
    rw [← hw2]
    have H2 : Hid (MRep w2 t base M E V (ol ++ [(f, cv)]) s) := by rw [hw2]; exact H1.out.drew nq
    have F2 : Hid (Fx w w2 t t) := by rw [hw2]; exact F1.out.drewN nq
    have va2 : w2.cell? ⟨F, 2 + na, none⟩ = some (.int .i64 gA) := by rw [hw2]; exact va1
    have za2 : w2.frozen? ⟨F, 2 + na, none⟩ = false := by rw [hw2]; exact za1
    have q12 : w2.cell? ⟨w.heap.size, 1, none⟩ = some (.int .u8 na) := by rw [hw2]; exact q11
    have q42 : w2.cell? ⟨w.heap.size, 4, none⟩ = some (.int .i64 imm) := by rw [hw2]; exact q41
    have hl2 : w.heap.size < w2.heap.size := by rw [hw2]; exact hl1
    have hlF2 : F < w2.heap.size := by rw [hw2]; exact hlF1
    have hlM2 : M < w2.heap.size := by rw [hw2]; exact hlM1
    clear hw2 H1 F1 vb1 vc1 q01 q21 q31 HB1 va1 za1 q11 q41 hl1 hlF1 hlM1
    go_still_tail 5, mixed
    go_wp2_with fail
    refine bodyPost_end (results_none rfl _ _ _) rfl ⟨rfl, ?_⟩
    have R := (H2.out.reg na ia nV).drew 1
    have FX := (F2.out.set (g := F) (i := 2 + na) (.int .i64 nV) tF).drewN 1
    rw [← HF.out] at R
    rw [doF_D _ _ _ _ _ _ _ _ _ hop, HGB.out, HGC.out, HV'.out, ht, if_neg (by decide)]
    exact ⟨t, V, _, R, FX⟩

end Go.Proofs.Ytgjmdcbdkdmceaa.Mach
