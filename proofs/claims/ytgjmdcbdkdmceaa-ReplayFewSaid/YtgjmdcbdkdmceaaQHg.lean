/- The program's machine: its instructions (42, 40). Printed by gen_do.py. -/
import Derived.Test.YtgjmdcbdkdmceaaQ17
namespace Go.Proofs.Ytgjmdcbdkdmceaa.Mach
open Go.RowKit

set_option maxRecDepth 100000 in
set_option maxHeartbeats 4000000 in
theorem do_42 (w : World) (t : Nat → Nat) (base M : Nat) (E : Env) (V : MV) (ol : List (Fr × FV)) (f : Fr) (cv : FV) (s : St) (h : MRep w t base M E V (ol ++ [(f, cv)]) s) (na nb nc : Nat) (ia : na < 16) (ib : nb < 16) (ic : nc < 16) (imm : Int) (_pi : -9223372036854775808 ≤ imm ∧ imm ≤ 9223372036854775807)
    (_hform : formB ⟨42, na, nb, nc, imm⟩ = true) (hf : FrOk E f) (L : Nat) (hs : Sane E L s) (hL : L ≤ 1000000) (hE : EnvOk E) :
    Calls Try.prog 62 #[.pointer (some ⟨M, 0, none⟩), .pointer (some ⟨cv.blk, 0, none⟩), .agg #[.int .u8 42, .int .u8 na, .int .u8 nb, .int .u8 nc, .int .i64 imm]] w fun e w' =>
      e = .returned (.tuple #[]) ∧ MPost w t base M E (doF E s (ol.map Prod.fst) f ⟨42, na, nb, nc, imm⟩) w' := by
  have hp := h.fr.last
  obtain ⟨F, hF⟩ : ∃ F, F = cv.blk := ⟨_, rfl⟩
  obtain ⟨gA, hgA⟩ : ∃ g, g = f.r na := ⟨_, rfl⟩
  obtain ⟨gB, hgB⟩ : ∃ g, g = f.r nb := ⟨_, rfl⟩
  obtain ⟨gC, hgC⟩ : ∃ g, g = f.r nc := ⟨_, rfl⟩
  have va : w.cell? ⟨F, 2 + na, none⟩ = some (.int .i64 gA) := by rw [hF, hp.cellF, fL_reg f cv hp.rl na ia, hgA]; rfl
  have vb : w.cell? ⟨F, 2 + nb, none⟩ = some (.int .i64 gB) := by rw [hF, hp.cellF, fL_reg f cv hp.rl nb ib, hgB]; rfl
  have vc : w.cell? ⟨F, 2 + nc, none⟩ = some (.int .i64 gC) := by rw [hF, hp.cellF, fL_reg f cv hp.rl nc ic, hgC]; rfl
  have za : w.frozen? ⟨F, 2 + na, none⟩ = false := by rw [hF]; exact hp.frz _
  have iA : (na : Int) < 16 := by omega
  have iB : (nb : Int) < 16 := by omega
  have iC : (nc : Int) < 16 := by omega
  have hlF : F < w.heap.size := by rw [hF]; exact hp.lt
  have hlM : M < w.heap.size := h.ltM
  have tF : 2 < t F := by rw [hF, hp.tf]; omega
  have tM : 2 < t M := by rw [h.tm]; omega
  have nFM : ¬ F = M := fun e => by have h1 := hp.tf; rw [← hF, e, h.tm] at h1; omega
  have nMF : ¬ M = F := fun e => nFM e.symm
  have mixed : Try.prog.follows Departure.mixedOrders = true := by kernel_rfl
  have H := Lib.hid h
  have HP := Lib.hid hp
  have HF := Lib.hid hF
  have HFR := Lib.hid hf
  have HS := Lib.hid hs
  have HEE := Lib.hid hE
  have HGA := Lib.hid hgA.symm
  have HGB := Lib.hid hgB.symm
  have HGC := Lib.hid hgC.symm
  have BEL : Hid (∀ W : World, Below W.heap.size W (W.alloc (.cells #[.int .u8 42, .int .u8 na, .int .u8 nb, .int .u8 nc, .int .i64 imm] 73))) := fun W => (Below.refl _ _).alloc (Nat.le_refl _) _
  have F0 : Hid (Fx w w t t) := Fx.refl w t
  rw [← hF]
  clear h hp hF hf hs hE hgA hgB hgC
  go_enter Try.func62, Try.ntmps62
  have eT : s.top (ol.map Prod.fst) f = s := by
    have e := H.out.opn
    rw [List.map_append, List.map_cons, List.map_nil] at e
    show { s with opn := ol.map Prod.fst ++ [f] } = s
    rw [← e]
  have ET := Lib.hid eT
  clear eT
  obtain ⟨xa, xcp, hxv, -, -⟩ := oshape H.out.hx.own
  have m10 : w.cell? ⟨M, 10, none⟩ = some (.slice xa s.outs.length xcp) := (H.out.cellM 10).trans (by rw [(mC_get V s).2.2.2.2.2.2.2.2.1, hxv])
  have z10 := H.out.frzM 10
  have hxl : s.outs.length ≤ 1000000 := Nat.le_trans HS.out.xl hL
  go_wp2_with fail
  obtain ⟨w1, hw1⟩ : ∃ w1, w1 = w.alloc (.cells #[.int .u8 42, .int .u8 na, .int .u8 nb, .int .u8 nc, .int .i64 imm] 73) := ⟨_, rfl⟩
  rw [← hw1]
  have hB1 : Below w.heap.size w w1 := by rw [hw1]; exact BEL.out w
  have hc1 : w1.heap[w.heap.size]? = some (.cells #[.int .u8 42, .int .u8 na, .int .u8 nb, .int .u8 nc, .int .i64 imm] 73 (0, 0)) := by rw [hw1]; exact heap_alloc_new _ _
  have q01 : w1.cell? ⟨w.heap.size, 0, none⟩ = some (.int .u8 42) := by simp [World.cell?, hc1]
  have q11 : w1.cell? ⟨w.heap.size, 1, none⟩ = some (.int .u8 na) := by simp [World.cell?, hc1]
  have q21 : w1.cell? ⟨w.heap.size, 2, none⟩ = some (.int .u8 nb) := by simp [World.cell?, hc1]
  have q31 : w1.cell? ⟨w.heap.size, 3, none⟩ = some (.int .u8 nc) := by simp [World.cell?, hc1]
  have q41 : w1.cell? ⟨w.heap.size, 4, none⟩ = some (.int .i64 imm) := by simp [World.cell?, hc1]
  have va1 := (hB1.cell (p := ⟨F, 2 + na, none⟩) hlF).trans va
  have vb1 := (hB1.cell (p := ⟨F, 2 + nb, none⟩) hlF).trans vb
  have vc1 := (hB1.cell (p := ⟨F, 2 + nc, none⟩) hlF).trans vc
  have za1 := (hB1.frozen (p := ⟨F, 2 + na, none⟩) hlF).trans za
  have H1 := Lib.hid (H.out.below hB1)
  have F1 : Hid (Fx w w1 t t) := Fx.below hB1
  have hl1 : w.heap.size < w1.heap.size := (Array.getElem?_eq_some_iff.1 hc1).1
  have hlF1 : F < w1.heap.size := by omega
  have hlM1 : M < w1.heap.size := by omega
  have nbF : ¬ w.heap.size = F := by omega
  have nbM : ¬ w.heap.size = M := by omega
  have HB1 := Lib.hid hB1
  have m101 := (hB1.cell (p := ⟨M, 10, none⟩) hlM).trans m10
  have z101 := (hB1.frozen (p := ⟨M, 10, none⟩) hlM).trans z10
  clear m10 z10
  clear hw1 hc1 va vb vc za hB1
  obtain ⟨i1, a1, a2, a3, a4⟩ := info_i64
  have HI := Lib.hid (And.intro a1 (And.intro a2 (And.intro a3 a4)))
  have hbs1 : base ≤ w1.heap.size := H1.out.bs
  have hro := H1.out.hx.own
  rw [hxv] at hro
  have OA : Hid (((w1.alloc (.cells #[.int .i64 gA] 2)).drew).ownsRow base 2 1 (.slice xa s.outs.length xcp) s.outs.length (intsV s.outs)) := hro.alloc _
  have RA : Hid (Rd ((w1.alloc (.cells #[.int .i64 gA] 2)).drew) 1 (.slice (some ⟨w1.heap.size, 0, none⟩) 1 1) 1 [.int .i64 gA]) := lit1_rd w1 _ _
  have BA : Hid (base ≤ ((w1.alloc (.cells #[.int .i64 gA] 2)).drew).heap.size) := by show _ ≤ (w1.alloc _).heap.size; simp; omega
  have y1 : s.outs.length + 1 ≤ maxLen := by unfold maxLen; omega
  have y2 : (s.outs.length + 1) * 8 ≤ 140737488355328 := by omega
  have htg := H1.out.hx.tag
  simp only [hxv] at htg
  have HTG := Lib.hid htg
  have h2c : 2 < 6 := by omega
  clear hro a1 a2 a3 a4 htg
  go_region_law_o (refine step_append_f rfl _ _ 27 rfl base 2 i1 (.int .i64 0) 1 8 Try.underlying27 HI.out.1 HI.out.2.1 HI.out.2.2.1 HI.out.2.2.2 rfl (by decide) _ (s.outs.length) ((intsV s.outs)) rfl OA.out _ 1 [.int .i64 gA] rfl RA.out (ints_oneCell .i64 [gA]) y1 y2 BA.out ?_; intro v7 w7 hown7 hgrow7 hfr7; obtain ⟨va7, vc7, rfl, -, -⟩ := oshape hown7; have TR := Lib.hid (Trn.appD (t := t) (c := 6) (base := base) _ hgrow7 HTG.out hfr7 hown7 h2c hbs1); have HNW := Lib.hid (H1.out.newOuts TR.out (x' := s.outs ++ [gA]) ⟨by simpa [intsV] using hown7, updV_self _ _ _⟩); have hbO := (TR.out.blks M hlM1 (by have := H1.out.tm; omega)).1; have m107 := (World.cell?_of_block (a := ⟨M, 10, none⟩) hbO).trans m101; have z107 := (World.frozen?_of_block (a := ⟨M, 10, none⟩) hbO).trans z101; clear hbO; clear hown7 hgrow7 hfr7)
  all_goals
    go_wp2_with fail
    refine bodyPost_end (results_none rfl _ _ _) rfl ⟨rfl, ?_⟩
    rw [doF_42, HGA.out, show ({ s with outs := s.outs ++ [gA] } : St).top (ol.map Prod.fst) f = { s.top (ol.map Prod.fst) f with outs := s.outs ++ [gA] } from rfl, ET.out]
    exact ⟨_, _, _, HNW.out.1, F1.out.trans HNW.out.2⟩

set_option maxRecDepth 100000 in
set_option maxHeartbeats 4000000 in
theorem do_40 (w : World) (t : Nat → Nat) (base M : Nat) (E : Env) (V : MV) (ol : List (Fr × FV)) (f : Fr) (cv : FV) (s : St) (h : MRep w t base M E V (ol ++ [(f, cv)]) s) (na nb nc : Nat) (ia : na < 16) (ib : nb < 16) (ic : nc < 16) (imm : Int) (_pi : -9223372036854775808 ≤ imm ∧ imm ≤ 9223372036854775807)
    (_hform : formB ⟨40, na, nb, nc, imm⟩ = true) (hf : FrOk E f) (L : Nat) (hs : Sane E L s) (_hL : L ≤ 1000000) (hE : EnvOk E) :
    Calls Try.prog 62 #[.pointer (some ⟨M, 0, none⟩), .pointer (some ⟨cv.blk, 0, none⟩), .agg #[.int .u8 40, .int .u8 na, .int .u8 nb, .int .u8 nc, .int .i64 imm]] w fun e w' =>
      e = .returned (.tuple #[]) ∧ MPost w t base M E (doF E s (ol.map Prod.fst) f ⟨40, na, nb, nc, imm⟩) w' := by
  have hp := h.fr.last
  obtain ⟨F, hF⟩ : ∃ F, F = cv.blk := ⟨_, rfl⟩
  obtain ⟨gA, hgA⟩ : ∃ g, g = f.r na := ⟨_, rfl⟩
  obtain ⟨gB, hgB⟩ : ∃ g, g = f.r nb := ⟨_, rfl⟩
  obtain ⟨gC, hgC⟩ : ∃ g, g = f.r nc := ⟨_, rfl⟩
  have va : w.cell? ⟨F, 2 + na, none⟩ = some (.int .i64 gA) := by rw [hF, hp.cellF, fL_reg f cv hp.rl na ia, hgA]; rfl
  have vb : w.cell? ⟨F, 2 + nb, none⟩ = some (.int .i64 gB) := by rw [hF, hp.cellF, fL_reg f cv hp.rl nb ib, hgB]; rfl
  have vc : w.cell? ⟨F, 2 + nc, none⟩ = some (.int .i64 gC) := by rw [hF, hp.cellF, fL_reg f cv hp.rl nc ic, hgC]; rfl
  have za : w.frozen? ⟨F, 2 + na, none⟩ = false := by rw [hF]; exact hp.frz _
  have iA : (na : Int) < 16 := by omega
  have iB : (nb : Int) < 16 := by omega
  have iC : (nc : Int) < 16 := by omega
  have hlF : F < w.heap.size := by rw [hF]; exact hp.lt
  have hlM : M < w.heap.size := h.ltM
  have tF : 2 < t F := by rw [hF, hp.tf]; omega
  have tM : 2 < t M := by rw [h.tm]; omega
  have nFM : ¬ F = M := fun e => by have h1 := hp.tf; rw [← hF, e, h.tm] at h1; omega
  have nMF : ¬ M = F := fun e => nFM e.symm
  have mixed : Try.prog.follows Departure.mixedOrders = true := by kernel_rfl
  have H := Lib.hid h
  have HP := Lib.hid hp
  have HF := Lib.hid hF
  have HFR := Lib.hid hf
  have HS := Lib.hid hs
  have HEE := Lib.hid hE
  have HGA := Lib.hid hgA.symm
  have HGB := Lib.hid hgB.symm
  have HGC := Lib.hid hgC.symm
  have BEL : Hid (∀ W : World, Below W.heap.size W (W.alloc (.cells #[.int .u8 40, .int .u8 na, .int .u8 nb, .int .u8 nc, .int .i64 imm] 73))) := fun W => (Below.refl _ _).alloc (Nat.le_refl _) _
  have F0 : Hid (Fx w w t t) := Fx.refl w t
  rw [← hF]
  clear h hp hF hf hs hE hgA hgB hgC
  go_enter Try.func62, Try.ntmps62
  have eT : s.top (ol.map Prod.fst) f = s := by
    have e := H.out.opn
    rw [List.map_append, List.map_cons, List.map_nil] at e
    show { s with opn := ol.map Prod.fst ++ [f] } = s
    rw [← e]
  have ET := Lib.hid eT
  clear eT
  have m8 : w.cell? ⟨M, 8, none⟩ = some (.int .u8 s.end_) := (H.out.cellM 8).trans (mC_get V s).2.2.2.2.2.2.1
  have z8 := H.out.frzM 8
  obtain ⟨xa, xcp, hxv, -, -⟩ := oshape HP.out.rd.own
  have hxv : cv.yv = .slice xa f.ready.length xcp := hxv
  have k20 : w.cell? ⟨F, 20, none⟩ = some (.slice xa f.ready.length xcp) := by rw [HF.out, HP.out.cellF, (fL_tail f cv HP.out.rl).2.2.1, hxv]
  have z20 : w.frozen? ⟨F, 20, none⟩ = false := by rw [HF.out]; exact HP.out.frz _
  have hyl : f.ready.length ≤ 6 := HFR.out.yn
  by_cases h6 : 6 ≤ f.ready.length
  · have d1 : decide (6 ≤ f.ready.length) = true := decide_eq_true h6
    have HD := Lib.hid d1
    clear d1
    go_wp2_with fail
    obtain ⟨w1, hw1⟩ : ∃ w1, w1 = w.alloc (.cells #[.int .u8 40, .int .u8 na, .int .u8 nb, .int .u8 nc, .int .i64 imm] 73) := ⟨_, rfl⟩
    rw [← hw1]
    have hB1 : Below w.heap.size w w1 := by rw [hw1]; exact BEL.out w
    have hc1 : w1.heap[w.heap.size]? = some (.cells #[.int .u8 40, .int .u8 na, .int .u8 nb, .int .u8 nc, .int .i64 imm] 73 (0, 0)) := by rw [hw1]; exact heap_alloc_new _ _
    have q01 : w1.cell? ⟨w.heap.size, 0, none⟩ = some (.int .u8 40) := by simp [World.cell?, hc1]
    have q11 : w1.cell? ⟨w.heap.size, 1, none⟩ = some (.int .u8 na) := by simp [World.cell?, hc1]
    have q21 : w1.cell? ⟨w.heap.size, 2, none⟩ = some (.int .u8 nb) := by simp [World.cell?, hc1]
    have q31 : w1.cell? ⟨w.heap.size, 3, none⟩ = some (.int .u8 nc) := by simp [World.cell?, hc1]
    have q41 : w1.cell? ⟨w.heap.size, 4, none⟩ = some (.int .i64 imm) := by simp [World.cell?, hc1]
    have va1 := (hB1.cell (p := ⟨F, 2 + na, none⟩) hlF).trans va
    have vb1 := (hB1.cell (p := ⟨F, 2 + nb, none⟩) hlF).trans vb
    have vc1 := (hB1.cell (p := ⟨F, 2 + nc, none⟩) hlF).trans vc
    have za1 := (hB1.frozen (p := ⟨F, 2 + na, none⟩) hlF).trans za
    have H1 := Lib.hid (H.out.below hB1)
    have F1 : Hid (Fx w w1 t t) := Fx.below hB1
    have hl1 : w.heap.size < w1.heap.size := (Array.getElem?_eq_some_iff.1 hc1).1
    have hlF1 : F < w1.heap.size := by omega
    have hlM1 : M < w1.heap.size := by omega
    have nbF : ¬ w.heap.size = F := by omega
    have nbM : ¬ w.heap.size = M := by omega
    have HB1 := Lib.hid hB1
    have m81 := (hB1.cell (p := ⟨M, 8, none⟩) hlM).trans m8
    have z81 := (hB1.frozen (p := ⟨M, 8, none⟩) hlM).trans z8
    clear hw1 hc1 va vb vc za hB1
    refine (ends_any M s.end_ 8 (w1) m81 z81).mono ?_
    rintro e w3 ⟨rfl, rfl⟩
    go_wp2_with fail
    refine bodyPost_end (results_none rfl _ _ _) rfl ⟨rfl, ?_⟩
    have R := H1.out.end' 8
    have FX := F1.out.set (g := M) (i := 8) (.int .u8 8) tM
    rw [doF_40, HD.out, if_pos rfl, show (s.ends 8).top (ol.map Prod.fst) f = s.ends 8 from by show (s.top (ol.map Prod.fst) f).ends 8 = _; rw [ET.out]]
    exact ⟨t, V, _, R, FX⟩
  · have d1 : decide (6 ≤ f.ready.length) = false := decide_eq_false h6
    have HD := Lib.hid d1
    clear d1
    go_wp2_with fail
    obtain ⟨w1, hw1⟩ : ∃ w1, w1 = w.alloc (.cells #[.int .u8 40, .int .u8 na, .int .u8 nb, .int .u8 nc, .int .i64 imm] 73) := ⟨_, rfl⟩
    rw [← hw1]
    have hB1 : Below w.heap.size w w1 := by rw [hw1]; exact BEL.out w
    have hc1 : w1.heap[w.heap.size]? = some (.cells #[.int .u8 40, .int .u8 na, .int .u8 nb, .int .u8 nc, .int .i64 imm] 73 (0, 0)) := by rw [hw1]; exact heap_alloc_new _ _
    have q01 : w1.cell? ⟨w.heap.size, 0, none⟩ = some (.int .u8 40) := by simp [World.cell?, hc1]
    have q11 : w1.cell? ⟨w.heap.size, 1, none⟩ = some (.int .u8 na) := by simp [World.cell?, hc1]
    have q21 : w1.cell? ⟨w.heap.size, 2, none⟩ = some (.int .u8 nb) := by simp [World.cell?, hc1]
    have q31 : w1.cell? ⟨w.heap.size, 3, none⟩ = some (.int .u8 nc) := by simp [World.cell?, hc1]
    have q41 : w1.cell? ⟨w.heap.size, 4, none⟩ = some (.int .i64 imm) := by simp [World.cell?, hc1]
    have va1 := (hB1.cell (p := ⟨F, 2 + na, none⟩) hlF).trans va
    have vb1 := (hB1.cell (p := ⟨F, 2 + nb, none⟩) hlF).trans vb
    have vc1 := (hB1.cell (p := ⟨F, 2 + nc, none⟩) hlF).trans vc
    have za1 := (hB1.frozen (p := ⟨F, 2 + na, none⟩) hlF).trans za
    have H1 := Lib.hid (H.out.below hB1)
    have F1 : Hid (Fx w w1 t t) := Fx.below hB1
    have hl1 : w.heap.size < w1.heap.size := (Array.getElem?_eq_some_iff.1 hc1).1
    have hlF1 : F < w1.heap.size := by omega
    have hlM1 : M < w1.heap.size := by omega
    have nbF : ¬ w.heap.size = F := by omega
    have nbM : ¬ w.heap.size = M := by omega
    have HB1 := Lib.hid hB1
    have k201 := (hB1.cell (p := ⟨F, 20, none⟩) hlF).trans k20
    have z201 := (hB1.frozen (p := ⟨F, 20, none⟩) hlF).trans z20
    clear hw1 hc1 va vb vc za hB1
    obtain ⟨i1, a1, a2, a3, a4⟩ := info_i64
    have HI := Lib.hid (And.intro a1 (And.intro a2 (And.intro a3 a4)))
    have hbs1 : base ≤ w1.heap.size := H1.out.bs
    have hro := H1.out.fr.last.rd.own
    have hro : w1.ownsRow base 2 1 (.slice xa f.ready.length xcp) f.ready.length (intsV f.ready) := by have h9 := hro; simp only [hxv] at h9; exact h9
    have OA : Hid (((w1.alloc (.cells #[.int .i64 gA] 2)).drew).ownsRow base 2 1 (.slice xa f.ready.length xcp) f.ready.length (intsV f.ready)) := hro.alloc _
    have RA : Hid (Rd ((w1.alloc (.cells #[.int .i64 gA] 2)).drew) 1 (.slice (some ⟨w1.heap.size, 0, none⟩) 1 1) 1 [.int .i64 gA]) := lit1_rd w1 _ _
    have BA : Hid (base ≤ ((w1.alloc (.cells #[.int .i64 gA] 2)).drew).heap.size) := by show _ ≤ (w1.alloc _).heap.size; simp; omega
    have y1 : f.ready.length + 1 ≤ maxLen := by unfold maxLen; omega
    have y2 : (f.ready.length + 1) * 8 ≤ 140737488355328 := by omega
    have htg := H1.out.fr.last.rd.tag
    simp only [hxv] at htg
    have HTG := Lib.hid htg
    have h2c : 2 < 10 + 4 * ol.length := by omega
    clear hro a1 a2 a3 a4 htg
    go_region_law_o (refine step_append_f rfl _ _ 27 rfl base 2 i1 (.int .i64 0) 1 8 Try.underlying27 HI.out.1 HI.out.2.1 HI.out.2.2.1 HI.out.2.2.2 rfl (by decide) _ (f.ready.length) ((intsV f.ready)) rfl OA.out _ 1 [.int .i64 gA] rfl RA.out (ints_oneCell .i64 [gA]) y1 y2 BA.out ?_; intro v7 w7 hown7 hgrow7 hfr7; obtain ⟨va7, vc7, rfl, -, -⟩ := oshape hown7; have TR := Lib.hid (Trn.appD (t := t) (c := 10 + 4 * ol.length) (base := base) _ hgrow7 HTG.out hfr7 hown7 h2c hbs1); have HNW := Lib.hid (H1.out.newReady TR.out (y' := f.ready ++ [gA]) ⟨by simpa [intsV] using hown7, updV_self _ _ _⟩); have hbO := (TR.out.blks F hlF1 (by have := H1.out.fr.last.tf; rw [← HF.out] at this; omega)).1; have k207 := (World.cell?_of_block (a := ⟨F, 20, none⟩) hbO).trans k201; have z207 := (World.frozen?_of_block (a := ⟨F, 20, none⟩) hbO).trans z201; clear hbO; clear hown7 hgrow7 hfr7)
    all_goals
      go_wp2_with fail
      refine bodyPost_end (results_none rfl _ _ _) rfl ⟨rfl, ?_⟩
      have R := HNW.out.1
      have FX := HNW.out.2
      rw [← HF.out] at R FX
      rw [doF_40, HD.out, if_neg (by decide), HGA.out]
      exact ⟨_, _, _, R, F1.out.trans FX⟩

end Go.Proofs.Ytgjmdcbdkdmceaa.Mach
