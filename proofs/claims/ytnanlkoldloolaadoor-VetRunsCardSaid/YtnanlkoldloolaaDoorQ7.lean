/- Locs: Decode. -/
import Derived.Test.YtnanlkoldloolaaDoorQDv
import Derived.Test.YtnanlkoldloolaaDoorQ6
namespace Go.Proofs.YtnanlkoldloolaaDoor
open Go.RowKit

/-- What bytes are, in plain. -/
def decD (l : List Int) : Option DebD :=
  if l.take 4 = magicL then match allR' l 4 with
    | some ((st, ms, ds), a) => if a = l.length ∧ formD ⟨st, ms, sitesOf 0 ds⟩ = true then some ⟨st, ms, sitesOf 0 ds⟩ else none
    | none => none
  else none
def noD : DebD := ⟨[], [], []⟩
theorem rdD_nil (w : World) : RdD w (.slice none 0 0) (.slice none 0 0) (.slice none 0 0) noD :=
  ⟨⟨[], Rd.nil _ _, fun i h => absurd h (by simp [noD])⟩, ⟨[], Rd.nil _ _, fun i h => absurd h (by simp [noD])⟩, ⟨[], Rd.nil _ _, fun i h => absurd h (by simp [noD])⟩⟩

/-- What Decode answers. -/
def DecIs (l : List Int) (w0 w' : World) (e : Ending) : Prop :=
  ∃ vs vm vt, e = .returned (.tuple #[.agg #[vs, vm, vt], .int .i64 (if (decD l).isSome then 0 else 3)]) ∧ RdD w' vs vm vt ((decD l).getD noD) ∧ Below w0.heap.size w0 w'

theorem gives_of_below {w w' : World} {gt : TypeId} {gv : Value} (h : Gives w gt gv) (hb : Below w.heap.size w w') : Gives w' gt gv := by
  unfold Gives
  rw [hb.cell (p := ⟨0, 0, none⟩) (World.block_lt_of_cell? w _ h)]; exact h

set_option maxRecDepth 100000 in
set_option maxHeartbeats 8000000 in
theorem decode_any (pa : Option Addr) (pn pc : Nat) (l : List Int) (w : World) (hv : RdB w (.slice pa pn pc) l) (hB : isB l) (hlen : l.length ≤ 1000000000) (ga : Addr) (hg : Gives w 182 (.pointer (some ga))) :
   Calls Tryd.prog 27 #[.slice pa pn pc] w fun e w' => DecIs l w w' e := by
  obtain ⟨a0, c0, hsh⟩ := Rd.shape hv
  simp only [Value.slice.injEq] at hsh
  obtain ⟨rfl, rfl, rfl⟩ := hsh
  have HV := Lib.hid hv
  have HG := Lib.hid hg
  have HBB := Lib.hid hB
  clear hv hg hB
  go_enter_defers Tryd.func27, Tryd.ntmps27
  go_wp2_with fail
  refine (magic_any _).mono ?_
  rintro e w1 ⟨rfl, rfl⟩
  have R1 : Hid (RdB (((w.alloc (.cells #[.slice none 0 0, .slice none 0 0, .slice none 0 0] 64)).alloc (.cells #[.int .i64 0] 30)).alloc (.cells #[.int .u8 84, .int .u8 83, .int .u8 76, .int .u8 49] 5)) (.slice (some ⟨w.heap.size + 1 + 1, 0, none⟩) 4 4) magicL) := by
    have := magic_rd ((w.alloc (.cells #[.slice none 0 0, .slice none 0 0, .slice none 0 0] 64)).alloc (.cells #[.int .i64 0] 30)) _ (Below.refl _ _)
    rw [World.size_alloc, World.size_alloc] at this
    exact this
  go_wp2_with fail
  refine (hasPrefix_any _ _ l magicL _ (((HV.out.alloc _).alloc _).alloc _) R1.out HBB.out (by intro x hx; simp [magicL] at hx; omega)).mono ?_
  rintro e w1 ⟨rfl, rfl⟩
  by_cases hpre : l.take 4 = magicL
  · have hB1 : (decide (magicL.length ≤ l.length) && eqL (l.take magicL.length) magicL) = true := by
      have h4 : magicL.length = 4 := rfl
      have hl : 4 ≤ l.length := by have := congrArg List.length hpre; simp [magicL] at this; omega
      rw [h4]; simp [hl, eqL, hpre]
    rw [hB1]
    have HPRE := Lib.hid hpre
    clear hB1 hpre R1
    go_wp2_with fail
    refine (magic_any _).mono ?_
    rintro e w1 ⟨rfl, rfl⟩
    go_wp2_with fail
    have hl4 : 4 ≤ l.length := by have := congrArg List.length HPRE.out; simp [magicL] at this; omega
    have hne : ∀ k, (Value.slice pa l.length pc).ownBlock = some k → k < w.heap.size := fun k h => by
      rcases HV.out.split with ⟨a, c, h1, h2⟩ | ⟨b, off, c, h1, _, _, _, hb, _⟩
      · rw [h2] at hl4; simp at hl4
      · rw [h1] at h
        simp [Value.ownBlock] at h
        omega
    obtain ⟨W, hW⟩ : ∃ W, (((((w.alloc (.cells #[.slice none 0 0, .slice none 0 0, .slice none 0 0] 64)).alloc (.cells #[.int .i64 0] 30)).alloc (.cells #[.int .u8 84, .int .u8 83, .int .u8 76, .int .u8 49] 5)).alloc (.cells #[.int .u8 84, .int .u8 83, .int .u8 76, .int .u8 49] 5)).alloc (TO (.slice pa l.length pc) 4 true)) = W := ⟨_, rfl⟩
    have hBW : Below w.heap.size w W := by rw [← hW]; exact (((((Below.refl _ _).alloc (Nat.le_refl _) _).alloc (by simp) _).alloc (by simp; omega) _).alloc (by simp; omega) _).alloc (by simp; omega) _
    have hWs : W.heap.size = w.heap.size + 5 := by rw [← hW]; simp
    have hWt : W.heap[w.heap.size + 1 + 1 + 1 + 1]? = some (TO (.slice pa l.length pc) 4 true) := by rw [← hW]; exact heap_new _ _ (by simp)
    have hWd : W.heap[w.heap.size]? = some (.cells #[.slice none 0 0, .slice none 0 0, .slice none 0 0] 64 (0, 0)) := by rw [← hW]; exact heap_old _ _ (heap_old _ _ (heap_old _ _ (heap_old _ _ (heap_new _ _ rfl))))
    have hWe : W.heap[w.heap.size + 1]? = some (.cells #[.int .i64 0] 30 (0, 0)) := by rw [← hW]; exact heap_old _ _ (heap_old _ _ (heap_old _ _ (heap_new _ _ (by simp))))
    have hs0 : Src W (.slice pa l.length pc) l (w.heap.size + 1 + 1 + 1 + 1) 182 (.pointer (some ga)) := ⟨Rd.later HV.out hBW, fun e => by have := hne _ e; omega, fun k e => by have := hne k e; omega, HBB.out, hlen, gives_of_below HG.out hBW, by omega⟩
    have HC := Lib.hid (all_read (w.heap.size + 1 + 1 + 1 + 1) w.heap.size (.slice pa l.length pc) l 4 W 182 (.pointer (some ga)) hs0 hWt hWd (by omega) (by have := World.block_lt_of_cell? w _ HG.out; simp only at this; omega) (fun e => by have := hne _ e; omega) hl4)
    have HBW := Lib.hid hBW
    have HWE := Lib.hid hWe
    have HS0 := Lib.hid hs0
    have HWT := Lib.hid hWt
    have hg0 : w.heap.size ≠ 0 := by have := World.block_lt_of_cell? w _ HG.out; simp only at this; omega
    have HPD : Hid (∀ k, (Value.slice pa l.length pc).ownBlock = some k → k < w.heap.size) := hne
    rw [hW]
    clear hW hBW hWd hWe hs0 hne hWt
    refine HC.out.mono ?_
    rintro e w2 (⟨st, ms, ds, a', vs, vm, vt, hr, ha, rfl, ht2, hd2, hin, ho2⟩ | ⟨hr, rfl, ho2, vs, vm, vt, hd2⟩)
    · have he2 : w2.heap[w.heap.size + 1]? = some (.cells #[.int .i64 0] 30 (0, 0)) := ho2.at HWE.out (by omega) (by omega)
      have hb2 : Below w.heap.size w w2 := HBW.out.trans ⟨ho2.os, ho2.tape, ho2.output, ho2.size, fun j hj => ho2.block j (by omega) (by omega) (by omega)⟩
      obtain ⟨t0, t1, -, -, -⟩ := to_cells ht2
      have d0 := cell_of hd2 (show (#[vs, vm, vt] : Array Value)[0]? = _ from rfl)
      have d1 := cell_of hd2 (show (#[vs, vm, vt] : Array Value)[1]? = _ from rfl)
      have d2 := cell_of hd2 (show (#[vs, vm, vt] : Array Value)[2]? = _ from rfl)
      have e0 := cell_of he2 (show (#[.int .i64 0] : Array Value)[0]? = _ from rfl)
      have z0 : ∀ i, w2.frozen? ⟨w.heap.size, i, none⟩ = false := fun i => unfrozen_of hd2
      have z1 := unfrozen_of (i := 0) he2
      have HIN := Lib.hid hin.rd
      have HD2 := Lib.hid hd2
      have HE2 := Lib.hid he2
      have HB2 := Lib.hid hb2
      have HDEC : Hid (decD l = if a' = l.length ∧ formD ⟨st, ms, sitesOf 0 ds⟩ = true then some ⟨st, ms, sitesOf 0 ds⟩ else none) := by show _ = _; unfold decD; rw [if_pos HPRE.out, hr]
      obtain ⟨D, hD⟩ : ∃ D, D = (⟨st, ms, sitesOf 0 ds⟩ : DebD) := ⟨_, rfl⟩
      rw [← hD] at HIN HDEC
      have hvs := HIN.out.stops.shape
      have hvm := HIN.out.marks.shape
      have hvt := HIN.out.sites.shape
      clear ht2 hd2 he2 hb2 hin ho2 hr HC hD
      obtain ⟨sa, sc, rfl⟩ := hvs
      obtain ⟨ma, mc, rfl⟩ := hvm
      obtain ⟨ta, tc, rfl⟩ := hvt
      by_cases hend : a' < l.length
      · have hge : decide ((a' : Int) < l.length) = true := decide_eq_true (by omega)
        have HN : Hid (decD l = none) := by show _ = _; rw [HDEC.out, if_neg (by omega)]
        go_wp2_with fail
        refine leaves_cons (f := 39) (args := #[.pointer (some ⟨w.heap.size, 0, none⟩), .pointer (some ⟨w.heap.size + 1, 0, none⟩)]) (by simp) (by simp [go_sem]) ?_
        refine (caught_idle _ _ _).mono ?_
        rintro e u' w'' ⟨rfl, rfl, rfl⟩
        simp [Leaves, settle, results, Tryd.results27, go_sem, d0, d1, d2, e0]
        refine ⟨_, _, _, by rw [HN.out]; rfl, by rw [HN.out]; exact rdD_nil _, ?_⟩
        exact (((HB2.out.setCell (Nat.le_refl _) _).setCell (Nat.le_refl _) _).setCell (Nat.le_refl _) _).setCell (by simp) _
      · have hge : decide ((a' : Int) < l.length) = false := decide_eq_false (by omega)
        obtain ⟨B, hBF⟩ : ∃ B, formD D = B := ⟨_, rfl⟩
        have HBF := Lib.hid hBF
        have HFM := Lib.hid (form_any _ _ _ D w2 HIN.out)
        rw [hBF] at HFM
        clear hBF
        go_wp2_with fail
        refine HFM.out.mono ?_
        rintro e w3 ⟨rfl, hb3⟩
        have hs2 : w.heap.size + 1 < w2.heap.size := heap_lt HE2.out
        have hd3 : w3.heap[w.heap.size]? = some (.cells #[.slice sa D.stops.length sc, .slice ma D.marks.length mc, .slice ta D.sites.length tc] 64 (0, 0)) := heap_below hb3 (by omega) HD2.out
        have he3 : w3.heap[w.heap.size + 1]? = some (.cells #[.int .i64 0] 30 (0, 0)) := heap_below hb3 (by omega) HE2.out
        have y0 := cell_of hd3 (show (#[.slice sa D.stops.length sc, .slice ma D.marks.length mc, .slice ta D.sites.length tc] : Array Value)[0]? = _ from rfl)
        have y1 := cell_of hd3 (show (#[.slice sa D.stops.length sc, .slice ma D.marks.length mc, .slice ta D.sites.length tc] : Array Value)[1]? = _ from rfl)
        have y2 := cell_of hd3 (show (#[.slice sa D.stops.length sc, .slice ma D.marks.length mc, .slice ta D.sites.length tc] : Array Value)[2]? = _ from rfl)
        have y3 := cell_of he3 (show (#[.int .i64 0] : Array Value)[0]? = _ from rfl)
        have x0 : ∀ i, w3.frozen? ⟨w.heap.size, i, none⟩ = false := fun i => unfrozen_of hd3
        have x1 := unfrozen_of (i := 0) he3
        have HB3 : Hid (Below w.heap.size w w3) := HB2.out.trans (hb3.mono (by omega))
        have HR3 := Lib.hid (HIN.out.later hb3)
        clear hb3 hd3 he3 d0 d1 d2 e0 z0 z1 t0 t1 HFM
        cases B with
        | false =>
          have HN : Hid (decD l = none) := by show _ = _; rw [HDEC.out, if_neg (by rw [HBF.out]; simp)]
          go_wp2_with fail
          refine leaves_cons (f := 39) (args := #[.pointer (some ⟨w.heap.size, 0, none⟩), .pointer (some ⟨w.heap.size + 1, 0, none⟩)]) (by simp) (by simp [go_sem]) ?_
          refine (caught_idle _ _ _).mono ?_
          rintro e u' w'' ⟨rfl, rfl, rfl⟩
          simp [Leaves, settle, results, Tryd.results27, go_sem, y0, y1, y2, y3]
          refine ⟨_, _, _, by rw [HN.out]; rfl, by rw [HN.out]; exact rdD_nil _, ?_⟩
          exact (((HB3.out.setCell (Nat.le_refl _) _).setCell (Nat.le_refl _) _).setCell (Nat.le_refl _) _).setCell (by simp) _
        | true =>
          have HN : Hid (decD l = some D) := by show _ = _; rw [HDEC.out, if_pos ⟨by omega, HBF.out⟩]
          go_wp2_with fail
          refine leaves_cons (f := 39) (args := #[.pointer (some ⟨w.heap.size, 0, none⟩), .pointer (some ⟨w.heap.size + 1, 0, none⟩)]) (by simp) (by simp [go_sem]) ?_
          refine (caught_idle _ _ _).mono ?_
          rintro e u' w'' ⟨rfl, rfl, rfl⟩
          have q0 : w3.cell? ⟨w.heap.size, 0, none⟩ = some (.slice sa D.stops.length sc) := y0
          have q1 : w3.cell? ⟨w.heap.size, 1, none⟩ = some (.slice ma D.marks.length mc) := y1
          have q2 : w3.cell? ⟨w.heap.size, 2, none⟩ = some (.slice ta D.sites.length tc) := y2
          have q3 : w3.cell? ⟨w.heap.size + 1, 0, none⟩ = some (.int .i64 0) := y3
          rw [setCell_id q0, setCell_id q1, setCell_id q2, setCell_id q3]
          simp [Leaves, settle, results, Tryd.results27, go_sem, y0, y1, y2, y3]
          exact ⟨_, _, _, by rw [HN.out]; rfl, by rw [HN.out]; exact HR3.out, HB3.out⟩
    · have he2 : w2.heap[w.heap.size + 1]? = some (.cells #[.int .i64 0] 30 (0, 0)) := ho2.at HWE.out (by omega) (by omega)
      have hg2 : Gives w2 182 (.pointer (some ga)) := ho2.gives HS0.out.gives (by omega) hg0
      have HN : Hid (decD l = none) := by show _ = _; unfold decD; rw [if_pos HPRE.out, hr]
      have HCP := Lib.hid (caught_panic w.heap.size (w.heap.size + 1) ga vs vm vt 0 w2 hg2 hd2 he2 (by omega))
      have HO2 := Lib.hid ho2
      clear hr ho2 hd2 he2 hg2 HC
      go_wp2_with fail
      refine leaves_cons (f := 39) (args := #[.pointer (some ⟨w.heap.size, 0, none⟩), .pointer (some ⟨w.heap.size + 1, 0, none⟩)]) (by simp) (by simp [go_sem]) ?_
      refine HCP.out.mono ?_
      rintro e u' w3 ⟨rfl, rfl, ho3, hd3, he3⟩
      have y0 := cell_of hd3 (show (#[.slice none 0 0, .slice none 0 0, .slice none 0 0] : Array Value)[0]? = _ from rfl)
      have y1 := cell_of hd3 (show (#[.slice none 0 0, .slice none 0 0, .slice none 0 0] : Array Value)[1]? = _ from rfl)
      have y2 := cell_of hd3 (show (#[.slice none 0 0, .slice none 0 0, .slice none 0 0] : Array Value)[2]? = _ from rfl)
      have y3 := cell_of he3 (show (#[.int .i64 3] : Array Value)[0]? = _ from rfl)
      simp [Leaves, settle, results, Tryd.results27, go_sem, y0, y1, y2, y3]
      refine ⟨_, _, _, by rw [HN.out]; rfl, by rw [HN.out]; exact rdD_nil _, ?_⟩
      have h1 : Below w.heap.size w w2 := HBW.out.trans ⟨HO2.out.os, HO2.out.tape, HO2.out.output, HO2.out.size, fun j hj => HO2.out.block j (by omega) (by omega) (by omega)⟩
      exact h1.trans ⟨ho3.os, ho3.tape, ho3.output, ho3.size, fun j hj => ho3.block j (Nat.lt_of_lt_of_le hj h1.size) (by omega) (by omega)⟩
  · have hB1 : (decide (magicL.length ≤ l.length) && eqL (l.take magicL.length) magicL) = false := by
      have h4 : magicL.length = 4 := rfl
      rw [h4]; simp [eqL, hpre]
    rw [hB1]
    have HN : Hid (decD l = none) := by show _ = _; unfold decD; rw [if_neg hpre]
    clear hB1 hpre R1
    go_wp2_with fail
    refine leaves_cons (f := 39) (args := #[.pointer (some ⟨w.heap.size, 0, none⟩), .pointer (some ⟨w.heap.size + 1, 0, none⟩)]) (by simp) (by simp [go_sem]) ?_
    refine (caught_idle _ _ _).mono ?_
    rintro e u' w'' ⟨rfl, rfl, rfl⟩
    simp [Leaves, settle, results, Tryd.results27, go_sem]
    refine ⟨_, _, _, by rw [HN.out]; rfl, by rw [HN.out]; exact rdD_nil _, ?_⟩
    exact (((Below.refl _ _).alloc (Nat.le_refl _) _).alloc (by simp) _).alloc (by simp; omega) _
end Go.Proofs.YtnanlkoldloolaaDoor
