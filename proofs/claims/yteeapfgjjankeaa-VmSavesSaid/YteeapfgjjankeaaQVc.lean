/- Vm: one step of the document's example. -/
import Derived.Test.YteeapfgjjankeaaQVb
import Derived.Deep.DeepCutAuto
namespace Go.Proofs.Yteeapfgjjankeaa
open Go.RowKit

theorem frzB {w : World} {M : Nat} {c : Array Value} {t : TypeId} (h : w.heap[M]? = some (.cells c t (0, 0))) (i : Nat) : w.frozen? ⟨M, i, none⟩ = false := by simp [World.frozen?, h]
set_option maxRecDepth 100000 in
set_option maxHeartbeats 4000000 in
theorem step_any (w0 w : World) (base M F OB : Nat) (wv ev dv iv hv outs sl : Value) (xs : List Int) (steps exit marks at_ r0 : Int) (j : Nat) (op imm : Int) (R : World → Prop)
    (h : MS w0 base M F OB (mC wv ev dv iv hv OB 1 steps 0 exit outs marks at_) (fC j r0 sl) wv ev outs xs w) (hj : j < 4) (h0 : 0 ≤ steps) (h1 : steps ≤ 1000)
    (k0 : wcs[j * 5]? = some (.int .u8 op)) (k1 : wcs[j * 5 + 1]? = some (.int .u8 0)) (k2 : wcs[j * 5 + 2]? = some (.int .u8 0)) (k3 : wcs[j * 5 + 3]? = some (.int .u8 0)) (k4 : wcs[j * 5 + 4]? = some (.int .i64 imm))
    (hform : formB ⟨op, 0, 0, 0, imm⟩ = true)
    (hdo : ∀ V, MS w0 base M F OB (mC wv ev dv iv hv OB 1 (steps + 1) 0 exit outs marks j) (fC (j + 1) r0 sl) wv ev outs xs V → Calls Try.prog 39 #[.pointer (some ⟨M, 0, none⟩), .pointer (some ⟨F, 0, none⟩), .agg #[.int .u8 op, .int .u8 0, .int .u8 0, .int .u8 0, .int .i64 imm]] V fun e w' => e = .returned (.tuple #[]) ∧ R w' ∧ KW V w') :
    Calls Try.prog 29 #[.pointer (some ⟨M, 0, none⟩)] w fun e w' => e = .returned (.int .u8 op) ∧ R w' := by
  obtain ⟨wb, wcp, rfl⟩ : ∃ wb wcp, wv = .slice (some ⟨wb, 0, none⟩) 4 wcp := by
    rcases h.hw.2 with ⟨_, h2⟩ | ⟨g, c, cur, e, _⟩
    · omega
    · exact ⟨g, c, e⟩
  obtain ⟨eb, ec, rfl⟩ : ∃ eb ec, ev = .slice (some ⟨eb, 0, none⟩) 1 ec := by
    rcases h.he.2 with ⟨_, h2⟩ | ⟨g, c, cur, e, _⟩
    · omega
    · exact ⟨g, c, e⟩
  have HD := Lib.hid hdo
  have HH := Lib.hid h
  have hlM : M < w.heap.size := (Array.getElem?_eq_some_iff.1 h.hm).1
  have m7 : w.cell? ⟨M, 7, none⟩ = some (.int .i64 steps) := by simp [World.cell?, h.hm, mC]
  have HA := Lib.hid (add_any M 7 steps w m7 (by simp [World.frozen?, h.hm]) h0 (by omega))
  have H1 : Hid (MS w0 base M F OB (mC (.slice (some ⟨wb, 0, none⟩) 4 wcp) (.slice (some ⟨eb, 0, none⟩) 1 ec) dv iv hv OB 1 (steps + 1) 0 exit outs marks at_) (fC j r0 sl) (.slice (some ⟨wb, 0, none⟩) 4 wcp) (.slice (some ⟨eb, 0, none⟩) 1 ec) outs xs (w.setCell ⟨M, 7, none⟩ (.int .i64 (steps + 1)))) := h.turnM (turn_set h.hm _)
  clear h hdo m7
  go_enter Try.func29, Try.ntmps29
  go_wp2_with fail
  refine HA.out.mono ?_
  rintro e w1 ⟨rfl, hw1⟩
  rw [← hw1] at H1
  clear hw1 HA
  have n5 : w1.cell? ⟨M, 5, none⟩ = some (.slice (some ⟨OB, 0, none⟩) 1 1) := by simp [World.cell?, H1.out.hm, mC]
  have nO : w1.cell? ⟨OB, 0 + 0, none⟩ = some (.pointer (some ⟨F, 0, none⟩)) := by simp [World.cell?, H1.out.ho]
  go_wp2_with fail
  refine (now_any M OB 0 0 1 F w1 n5 nO (by omega)).mono ?_
  rintro e w2 ⟨rfl, q, hw2⟩
  have H2 := Lib.hid (H1.out.later (w' := w2) (by rw [hw2]; exact below_drewN (Below.refl _ _) q))
  clear hw2 n5 nO H1
  have f0 : w2.cell? ⟨F, 0, none⟩ = some (.int .i64 0) := by simp [World.cell?, H2.out.hf, fC]
  have f1 : w2.cell? ⟨F, 1, none⟩ = some (.int .i64 j) := by simp [World.cell?, H2.out.hf, fC]
  have m0 : w2.cell? ⟨M, 0, none⟩ = some (.slice (some ⟨wb, 0, none⟩) 4 wcp) := by simp [World.cell?, H2.out.hm, mC]
  have m1 : w2.cell? ⟨M, 1, none⟩ = some (.slice (some ⟨eb, 0, none⟩) 1 ec) := by simp [World.cell?, H2.out.hm, mC]
  have m14 : w2.cell? ⟨M, 14, none⟩ = some (.int .i64 at_) := by simp [World.cell?, H2.out.hm, mC]
  have e1 : w2.cell? ⟨eb, 0 + 0 * 2 + 1, none⟩ = some (.int .i64 0) := by
    have := H2.out.he.cells rfl 1 (.int .i64 0) rfl
    simpa [Addr.add] using this
  have wat : ∀ i u, wcs[i]? = some u → w2.cell? ⟨wb, i, none⟩ = some u := fun i u hu => by
    have := H2.out.hw.cells rfl i u hu
    rw [add_plain, Nat.zero_add] at this
    exact this
  have p0 := wat _ _ k0
  have p1 := wat _ _ k1
  have p2 := wat _ _ k2
  have p3 := wat _ _ k3
  have p4 := wat _ _ k4
  have HF1 := Lib.hid hform
  have hl2M : M < w2.heap.size := (Array.getElem?_eq_some_iff.1 H2.out.hm).1
  have hl2F : F < w2.heap.size := (Array.getElem?_eq_some_iff.1 H2.out.hf).1
  have hl2W : wb < w2.heap.size := by
    obtain ⟨_, cur, hc⟩ := own_blk H2.out.hw wb rfl
    exact (Array.getElem?_eq_some_iff.1 hc).1
  clear wat k0 k1 k2 k3 k4 hform
  go_wp2_with fail
  refine (slots_any M eb 0 1 ec 0 0 w2 m1 (by omega) e1 (by omega) (by omega)).mono ?_
  rintro e w3 ⟨rfl, rfl⟩
  have hj4 : decide ((4 : Int) ≤ (j : Int)) = false := decide_eq_false (by omega)
  go_upto_region 4 with fail
  go_cut [43] (fun s43 wx => s43 = .bool false ∧ ∃ nq, wx = w3.drewN nq)
  case first =>
    go_quiet (fail)
    go_wp2_with fail
    go_meet
    exact ⟨rfl, _, rfl⟩
  case rest =>
    obtain ⟨rfl, nq, hw4⟩ := hcut
    obtain ⟨w4, hw4e⟩ : ∃ w4 : World, w4 = wc := ⟨_, rfl⟩
    have hsame : ∀ b o, w4.cell? ⟨b, o, none⟩ = w3.cell? ⟨b, o, none⟩ := fun b o => by rw [hw4e, hw4]; rfl
    have H4 : Hid (MS w0 base M F OB (mC (.slice (some ⟨wb, 0, none⟩) 4 wcp) (.slice (some ⟨eb, 0, none⟩) 1 ec) dv iv hv OB 1 (steps + 1) 0 exit outs marks at_) (fC j r0 sl) (.slice (some ⟨wb, 0, none⟩) 4 wcp) (.slice (some ⟨eb, 0, none⟩) 1 ec) outs xs w4) := by rw [hw4e, hw4]; exact H2.out.later (below_drewN (Below.refl _ _) nq)
    have hsz4 : w4.heap.size = w3.heap.size := by rw [hw4e, hw4]; rfl
    rw [← hsame] at f1 m0 m14 p0 p1 p2 p3 p4
    rw [← hsz4] at hl2M hl2F hl2W
    clear f0 m1 e1 hw4 hsame H2 hsz4
    subst hw4e
    have hji : (j : Int) < 4 := by omega
    go_upto_region 8 with fail
    go_cut [6] (fun s6 wx => ∃ n2, s6 = .pointer (some ⟨w4.heap.size, 0, none⟩) ∧ wx = (w4.alloc (.cells #[.int .u8 op, .int .u8 0, .int .u8 0, .int .u8 0, .int .i64 imm] 60)).drewN n2)
    case first =>
      go_region
      all_goals
        go_wp2_with fail
        go_meet
        exact ⟨_, rfl, rfl⟩
    case rest =>
      obtain ⟨n2, rfl, hwc⟩ := hcut
      obtain ⟨w5, hw5⟩ : ∃ w5 : World, w5 = wc := ⟨_, rfl⟩
      have hb5 : Below w4.heap.size w4 w5 := by rw [hw5, hwc]; exact below_drewN ((Below.refl _ _).alloc (Nat.le_refl _) _) n2
      have hx5 : w5.heap[w4.heap.size]? = some (.cells #[.int .u8 op, .int .u8 0, .int .u8 0, .int .u8 0, .int .i64 imm] 60 (0, 0)) := by rw [hw5, hwc]; exact heap_alloc_new _ _
      have H5 := Lib.hid (H4.out.later hb5)
      clear hwc
      subst hw5
      have nMF : ¬ M = F := blk_ne H5.out.hm H5.out.hf (cells_ne (by decide))
      have nFM : ¬ F = M := fun e => nMF e.symm
      have nbM : ¬ w4.heap.size = M := by omega
      have nbF : ¬ w4.heap.size = F := by omega
      have nMb : ¬ M = w4.heap.size := by omega
      have nFb : ¬ F = w4.heap.size := by omega
      have g1 : w5.cell? ⟨F, 1, none⟩ = some (.int .i64 j) := (hb5.cell (p := ⟨F, 1, none⟩) hl2F).trans f1
      have g14 : w5.cell? ⟨M, 14, none⟩ = some (.int .i64 at_) := (hb5.cell (p := ⟨M, 14, none⟩) hl2M).trans m14
      have z14 : w5.frozen? ⟨M, 14, none⟩ = false := frzB H5.out.hm 14
      have z1 : w5.frozen? ⟨F, 1, none⟩ = false := frzB H5.out.hf 1
      have x0 : w5.cell? ⟨w4.heap.size, 0, none⟩ = some (.int .u8 op) := by simp [World.cell?, hx5]
      have x1 : w5.cell? ⟨w4.heap.size, 1, none⟩ = some (.int .u8 0) := by simp [World.cell?, hx5]
      have x2 : w5.cell? ⟨w4.heap.size, 2, none⟩ = some (.int .u8 0) := by simp [World.cell?, hx5]
      have x3 : w5.cell? ⟨w4.heap.size, 3, none⟩ = some (.int .u8 0) := by simp [World.cell?, hx5]
      have x4 : w5.cell? ⟨w4.heap.size, 4, none⟩ = some (.int .i64 imm) := by simp [World.cell?, hx5]
      have HX := Lib.hid hx5
      have l5M : M < w5.heap.size := Nat.lt_of_lt_of_le hl2M hb5.size
      have l5F : F < w5.heap.size := Nat.lt_of_lt_of_le hl2F hb5.size
      have l5b : w4.heap.size < w5.heap.size := (Array.getElem?_eq_some_iff.1 hx5).1
      clear hb5 hx5 f1 m0 m14 p0 p1 p2 p3 p4 H4
      go_wp2_with fail
      have T5 := turn_set H5.out.hm (.int .i64 (j : Int)) (i := 14)
      have H6 := H5.out.turnM T5
      have T6 := turn_set H6.hf (.int .i64 ((j : Int) + 1)) (i := 1)
      obtain ⟨w7, hw7⟩ : ∃ w7, w7 = (w5.setCell ⟨M, 14, none⟩ (.int .i64 (j : Int))).setCell ⟨F, 1, none⟩ (.int .i64 ((j : Int) + 1)) := ⟨_, rfl⟩
      rw [← hw7]
      have H7 : Hid (MS w0 base M F OB (mC (.slice (some ⟨wb, 0, none⟩) 4 wcp) (.slice (some ⟨eb, 0, none⟩) 1 ec) dv iv hv OB 1 (steps + 1) 0 exit outs marks j) (fC (j + 1) r0 sl) (.slice (some ⟨wb, 0, none⟩) 4 wcp) (.slice (some ⟨eb, 0, none⟩) 1 ec) outs xs w7) := by rw [hw7]; exact H6.turnF T6
      have hx7 : w7.heap[w4.heap.size]? = some (.cells #[.int .u8 op, .int .u8 0, .int .u8 0, .int .u8 0, .int .i64 imm] 60 (0, 0)) := by
        rw [hw7, Below.heap_setCell _ _ _ _ nbF, Below.heap_setCell _ _ _ _ nbM]; exact HX.out
      have HX7 := Lib.hid hx7
      clear T5 H6 T6 hw7 hx7 x0 x1 x2 x3 x4 g1 g14 z14 z1 H5 HX
      refine (iform_any op 0 0 0 imm w7).mono ?_
      rintro e w8 ⟨rfl, hb8⟩
      rw [HF1.out]
      have H8 := Lib.hid (H7.out.later hb8)
      have hx8 : w8.heap[w4.heap.size]? = some (.cells #[.int .u8 op, .int .u8 0, .int .u8 0, .int .u8 0, .int .i64 imm] 60 (0, 0)) := (hb8.block _ (Array.getElem?_eq_some_iff.1 HX7.out).1).trans HX7.out
      have x0 : w8.cell? ⟨w4.heap.size, 0, none⟩ = some (.int .u8 op) := by simp [World.cell?, hx8]
      have x1 : w8.cell? ⟨w4.heap.size, 1, none⟩ = some (.int .u8 0) := by simp [World.cell?, hx8]
      have x2 : w8.cell? ⟨w4.heap.size, 2, none⟩ = some (.int .u8 0) := by simp [World.cell?, hx8]
      have x3 : w8.cell? ⟨w4.heap.size, 3, none⟩ = some (.int .u8 0) := by simp [World.cell?, hx8]
      have x4 : w8.cell? ⟨w4.heap.size, 4, none⟩ = some (.int .i64 imm) := by simp [World.cell?, hx8]
      have HX8 := Lib.hid hx8
      clear hb8 hx8 H7 HX7
      go_wp2_with fail
      refine (HD.out w8 H8.out).mono ?_
      rintro e w9 ⟨rfl, hR, hK⟩
      have y0 : w9.cell? ⟨w4.heap.size, 0, none⟩ = some (.int .u8 op) := by
        have := (hK _ _ _ HX8.out).trans HX8.out
        simp [World.cell?, this]
      clear x0 x1 x2 x3 x4 hK
      go_wp2_with fail
      go_ret
      exact ⟨rfl, hR⟩
end Go.Proofs.Yteeapfgjjankeaa
