/- A player at its beginning: what New's parts come to. -/
import Derived.Test.YtgjmdcbdkdmceaaQz32
import Derived.Deep.DeepCutAuto
import Derived.Deep.RegionWith
namespace Go.Proofs.Ytgjmdcbdkdmceaa.Mach
open Go.RowKit

theorem pbox_end {w3 W4 w5 w6 : World} {b : Nat} {l : List W} {el : List (Int × Int)} {a0 a1 a3 v5 v6 v7 mv : Value} (hx : w3.heap[b]? = some (.cells #[a0, a1, mv, a3] 26 (0, 0))) (hb4 : Below w3.heap.size w3 W4) (o5 : w5.ownsRow W4.heap.size 73 5 v5 l.length (cW l)) (b5 : Below W4.heap.size W4 w5) (o6 : w6.ownsRow w5.heap.size 62 2 v6 el.length (entC el)) (b6 : Below w5.heap.size w5 w6) :
    Hid (Turn w3 (((w6.setCell ⟨b, 0, none⟩ v5).setCell ⟨b, 1, none⟩ v6).setCell ⟨b, 3, none⟩ v7) b (.cells #[v5, v6, mv, v7] 26 (0, 0))) ∧ Hid ((((w6.setCell ⟨b, 0, none⟩ v5).setCell ⟨b, 1, none⟩ v6).setCell ⟨b, 3, none⟩ v7).ownsRow w3.heap.size 73 5 v5 l.length (cW l)) ∧ Hid ((((w6.setCell ⟨b, 0, none⟩ v5).setCell ⟨b, 1, none⟩ v6).setCell ⟨b, 3, none⟩ v7).ownsRow w3.heap.size 62 2 v6 el.length (entC el)) := by
  have hl : b < w3.heap.size := (Array.getElem?_eq_some_iff.1 hx).1
  have hall : Below w3.heap.size w3 w6 := (hb4.trans (b5.mono hb4.size)).trans (b6.mono (Nat.le_trans hb4.size b5.size))
  have h6 := (hall.block _ hl).trans hx
  have t1 := turn_set h6 v5 (i := 0)
  have t2 := t1.trans (turn_set t1.at_ v6 (i := 1))
  have t3 := t2.trans (turn_set t2.at_ v7 (i := 3))
  have o5' : w6.ownsRow w3.heap.size 73 5 v5 l.length (cW l) := obelow (odown o5 hb4.size) b6
  have o6' : w6.ownsRow w3.heap.size 62 2 v6 el.length (entC el) := odown o6 (Nat.le_trans hb4.size b5.size)
  refine ⟨?_, osetB (osetB (osetB o5' hl) hl) hl, osetB (osetB (osetB o6' hl) hl) hl⟩
  have t4 := t3.before hall
  exact t4
theorem pnew_end {w w1 w2 w3 w4 w5 w6 : World} {X : PX} {m M : Nat} {tM : Nat → Nat} {VM : MV} {cM : List (Fr × FV)} {wv ev iv cv : Value} {o : Obj} (hm : X.m = m) (H : X.Ok) (hB2 : Below w.heap.size w w2)
    (hst : StAt w2 w1.heap.size w1.heap.size X.most (.slice none 0 0) [] [] ∧ w.heap.size < w1.heap.size) (hM : MRep w3 tM w2.heap.size M X.E VM cM (newF X.E m) ∧ (∀ k, k < w2.heap.size → tM k = 0) ∧ Below w2.heap.size w2 w3 ∧ w2.heap.size ≤ w3.heap.size)
    (hT : Turn w3 w4 w.heap.size o) (hRW : w4.ownsRow w3.heap.size 73 5 wv X.E.ws.length (cW X.E.ws)) (hRE : w4.ownsRow w3.heap.size 62 2 ev X.E.es.length (entC X.E.es))
    (o5 : w5.ownsRow w4.drew.heap.size 2 1 iv X.E.inp.length (intsV X.E.inp)) (b5 : Below w4.drew.heap.size w4.drew w5) (o6 : w6.ownsRow w5.heap.size 3 1 cv X.cs.length (intsV X.cs)) (b6 : Below w5.heap.size w5 w6) :
    ∃ u, PAt (w6.alloc (.cells #[wv, ev, .int .i64 m, .slice none 0 0, iv, .int .i64 X.every, .int .i64 X.F, cv, .int .i64 0, .pointer (some ⟨w1.heap.size, 0, none⟩), .pointer (some ⟨M, 0, none⟩), .int .i64 0] 78)) u w.heap.size w6.heap.size X ⟨newF X.E m, [], 0, 0⟩ ∧
      Below w.heap.size w (w6.alloc (.cells #[wv, ev, .int .i64 m, .slice none 0 0, iv, .int .i64 X.every, .int .i64 X.F, cv, .int .i64 0, .pointer (some ⟨w1.heap.size, 0, none⟩), .pointer (some ⟨M, 0, none⟩), .int .i64 0] 78)) := by
  obtain ⟨hR, htl, hb3, hz3⟩ := hM
  have hlB : w1.heap.size < w2.heap.size := (Array.getElem?_eq_some_iff.1 hst.1.at_).1
  have hz4 := hT.size
  have hb45 : Below w4.heap.size w4 w5 := ((Below.refl w4.heap.size w4).drew).trans b5
  have hz5 := hb45.size
  have hz6 := b6.size
  have hb46 : Below w4.heap.size w4 w6 := hb45.trans (b6.mono hz5)
  have hb4P := hb46.alloc (B := w4.heap.size) (by omega) (.cells #[wv, ev, .int .i64 m, .slice none 0 0, iv, .int .i64 X.every, .int .i64 X.F, cv, .int .i64 0, .pointer (some ⟨w1.heap.size, 0, none⟩), .pointer (some ⟨M, 0, none⟩), .int .i64 0] 78)
  have hx := heap_alloc_new w6 (.cells #[wv, ev, .int .i64 m, .slice none 0 0, iv, .int .i64 X.every, .int .i64 X.F, cv, .int .i64 0, .pointer (some ⟨w1.heap.size, 0, none⟩), .pointer (some ⟨M, 0, none⟩), .int .i64 0] 78 (0, 0))
  have hb6P : Below w6.heap.size w6 (w6.alloc (.cells #[wv, ev, .int .i64 m, .slice none 0 0, iv, .int .i64 X.every, .int .i64 X.F, cv, .int .i64 0, .pointer (some ⟨w1.heap.size, 0, none⟩), .pointer (some ⟨M, 0, none⟩), .int .i64 0] 78)) := (Below.refl _ _).alloc (Nat.le_refl _) _
  have hbP : Below w5.heap.size w5 _ := b6.trans (hb6P.mono hz6)
  have hzP : (w6.alloc (.cells #[wv, ev, .int .i64 m, .slice none 0 0, iv, .int .i64 X.every, .int .i64 X.F, cv, .int .i64 0, .pointer (some ⟨w1.heap.size, 0, none⟩), .pointer (some ⟨M, 0, none⟩), .int .i64 0] 78)).heap.size = w6.heap.size + 1 := by simp
  obtain ⟨W, hW⟩ : ∃ W, W = w6.alloc (.cells #[wv, ev, .int .i64 m, .slice none 0 0, iv, .int .i64 X.every, .int .i64 X.F, cv, .int .i64 0, .pointer (some ⟨w1.heap.size, 0, none⟩), .pointer (some ⟨M, 0, none⟩), .int .i64 0] 78) := ⟨_, rfl⟩
  rw [← hW] at hb4P hx hb6P hbP hzP ⊢
  clear hW
  have st : ∀ k, k < w3.heap.size → k ≠ w.heap.size → W.heap[k]? = w3.heap[k]? := fun k hk hne => (hb4P.block k (by omega)).trans (hT.block k hk hne)
  have hBW : Below w.heap.size w W := by
    have hb23 : Below w.heap.size w w3 := hB2.trans (hb3.mono hB2.size)
    have h4 : Below w.heap.size w w4 := hT.below hb23 (Nat.le_refl _) hb23.size
    exact h4.trans (hb4P.mono h4.size)
  have hzw : w.heap.size ≤ w2.heap.size := hB2.size
  have tz : ∀ k, w3.heap.size ≤ k → tM k = 0 := fun k hk => by
    rcases Nat.eq_zero_or_pos (tM k) with e | e
    · exact e
    · have := hR.lt k (by omega); omega
  have tv : ∀ {T : TypeId} {K n B : Nat} {a : Value} {xs : List Value} {w' : World}, w'.ownsRow B T K a n xs → w3.heap.size ≤ B → Tv tM a 0 := fun r hB k hk => tz k (Nat.le_trans hB (oblk r k hk).1)
  refine ⟨fun k => k = w6.heap.size ∨ k = w1.heap.size ∨ tM k ≠ 0, ⟨tM, ⟨wv, ev, iv, cv, w1.heap.size, M⟩, .slice none 0 0, [], ⟨?_, obelow (odown hRW (by omega)) hb4P, obelow (odown hRE (by omega)) hb4P, obelow (odown o5 (by show w.heap.size ≤ w4.heap.size; omega)) hbP, obelow (odown o6 (by omega)) hb6P, ?_, ?_, tz _ (by omega), tv hRW (Nat.le_refl _), tv hRE (Nat.le_refl _), tv o5 (by show w3.heap.size ≤ w4.heap.size; omega), tv o6 (by omega), htl _ hlB,
    (fun k hk => by cases hk), (fun m hm => by cases hm), .inl rfl, .inr (.inl rfl), (fun k hk => by cases hk), (fun k hk => .inr (.inr hk)), fun k hk => ?_, hBW.size⟩⟩, hBW⟩
  · rw [hx]
    unfold pC
    rw [hm]
    rfl
  · exact ⟨(st w1.heap.size (by omega) (by omega)).trans ((hb3.block _ hlB).trans hst.1.at_), by show w.heap.size ≤ w1.heap.size; omega, osame (odown hst.1.row (by omega)) (fun k hk => by cases hk), rfl, fun i hi => by simp at hi, fun i hi => by simp at hi⟩
  · have hA : MAt w3 tM M X.E 3000 (newF X.E m) := ⟨_, _, _, hR, (newF_good H.hE (by have := H.hm; omega)).more (by omega)⟩
    refine hA.keep (fun k hk => st k (hR.lt k hk) fun e => hk (htl k (by omega))) (by omega)
  · rcases hk with rfl | rfl | hk
    · omega
    · omega
    · have h1 := hR.lt k hk
      have h2 : w2.heap.size ≤ k := Nat.le_of_not_lt fun h => hk (htl k h)
      omega
end Go.Proofs.Ytgjmdcbdkdmceaa.Mach

/- A player at its beginning: replay.New. -/
namespace Go.Proofs.Ytgjmdcbdkdmceaa.Mach
open Go.RowKit

set_option maxRecDepth 100000 in
set_option maxHeartbeats 4000000 in
theorem pnew_any (wv0 ev0 dv0 iv0 cv0 : Value) (X : PX) (m : Nat) (dn : Nat) (dx : List Value) (w : World) (hW : Rd w 5 wv0 X.E.ws.length (cW X.E.ws)) (hE : Rd w 2 ev0 X.E.es.length (entC X.E.es)) (hD : Rd w 1 dv0 dn dx) (hD1 : ∀ u ∈ dx, u.oneCell' = true) (hI : Rd w 1 iv0 X.E.inp.length (intsV X.E.inp)) (hC : Rd w 1 cv0 X.cs.length (intsV X.cs)) (hm : X.m = m) (H : X.Ok)
    (bW : X.E.ws.length * 16 ≤ 140737488355328) (bE : X.E.es.length * 16 ≤ 140737488355328) (bD : dn * 1 ≤ 140737488355328) :
    Calls Try.prog 10 #[.agg #[wv0, ev0, .int .i64 m, dv0], iv0, .int .i64 X.every, .int .i64 X.most, .int .i64 X.F, cv0] w fun e w' => ∃ P u, e = .returned (.tuple #[.pointer (some ⟨P, 0, none⟩), .int .i64 0]) ∧ PAt w' u w.heap.size P X ⟨newF X.E m, [], 0, 0⟩ ∧ Below w.heap.size w w' := by
  obtain ⟨wa0, wc0, rfl⟩ := Rd.shape hW
  obtain ⟨ea0, ec0, rfl⟩ := Rd.shape hE
  obtain ⟨da0, dc0, rfl⟩ := Rd.shape hD
  obtain ⟨ia0, ic0, rfl⟩ := Rd.shape hI
  obtain ⟨ca0, cc0, rfl⟩ := Rd.shape hC
  have bI := H.il
  have bC := H.cl
  have RM := Lib.hid (fun V (hb : Below w.heap.size w V) => mnew_any _ _ _ _ X.E m dn dx V (Rd.later hW hb) (Rd.later hE hb) (Rd.later hD hb) hD1 (Rd.later hI hb) (by have := H.hm; omega) bW bE bD bI)
  have RW := Lib.hid (fun V (hb : Below w.heap.size w V) => cloneW _ _ _ V (Rd.later hW hb) (cW_one _) bW)
  have RE := Lib.hid (fun V (hb : Below w.heap.size w V) => cloneE _ _ _ V (Rd.later hE hb) (entC_one _) bE)
  have RI := Lib.hid (fun V (hb : Below w.heap.size w V) => cloneN _ _ _ V (Rd.later hI hb) (intsV_one _) bI)
  have RC := Lib.hid (fun V (hb : Below w.heap.size w V) => cloneI _ _ _ V (Rd.later hC hb) (intsV_one _) bC)
  have HM := Lib.hid hm
  have hev := H.ev
  have hF := H.hF
  have RN := Lib.hid (fun V => new_any X.most V)
  obtain ⟨ev, hevd⟩ : ∃ ev, ev = X.every := ⟨_, rfl⟩
  obtain ⟨mo, hmod⟩ : ∃ mo, mo = X.most := ⟨_, rfl⟩
  have HO := Lib.hid (And.intro hevd hmod)
  rw [← hevd] at hev
  rw [← hevd, ← hmod]
  rw [← hmod] at RN
  have hmo := H.mo
  rw [← hmod] at hmo
  clear hW hE hD hI hC hD1 hm bW bE bD bI bC hevd hmod
  have d1 : decide (ev < 1) = false := decide_eq_false (by omega)
  have d2 : decide ((X.F : Int) < 0) = false := decide_eq_false (by omega)
  have d3 : decide ((4194304 : Int) < (X.F : Int)) = false := decide_eq_false (by omega)
  go_enter Try.func10, Try.ntmps10
  go_wp2_with fail
  obtain ⟨w1, hw1⟩ : ∃ w1, w1 = w.alloc (.cells #[.slice wa0 X.E.ws.length wc0, .slice ea0 X.E.es.length ec0, .int .i64 m, .slice da0 dn dc0] 26) := ⟨_, rfl⟩
  rw [← hw1]
  have hb1 : Below w.heap.size w w1 := by rw [hw1]; exact (Below.refl _ _).alloc (Nat.le_refl _) _
  have hx1 : w1.heap[w.heap.size]? = some (.cells #[.slice wa0 X.E.ws.length wc0, .slice ea0 X.E.es.length ec0, .int .i64 m, .slice da0 dn dc0] 26 (0, 0)) := by rw [hw1]; exact heap_alloc_new _ _
  clear hw1
  refine (RN.out w1).mono ?_
  rintro e w2 (⟨-, rfl, hst, hb2⟩ | ⟨hno, -⟩)
  rotate_left
  · exact absurd hmo hno
  have hx2 := (hb2.block _ (Array.getElem?_eq_some_iff.1 hx1).1).trans hx1
  have HB2 : Hid (Below w.heap.size w w2) := hb1.trans (hb2.mono hb1.size)
  have hl2 : w.heap.size < w2.heap.size := (Array.getElem?_eq_some_iff.1 hx2).1
  have x0 : w2.cell? ⟨w.heap.size, 0, none⟩ = some (.slice wa0 X.E.ws.length wc0) := by simp [World.cell?, hx2]
  have x1 : w2.cell? ⟨w.heap.size, 1, none⟩ = some (.slice ea0 X.E.es.length ec0) := by simp [World.cell?, hx2]
  have x2 : w2.cell? ⟨w.heap.size, 2, none⟩ = some (.int .i64 m) := by simp [World.cell?, hx2]
  have x3 : w2.cell? ⟨w.heap.size, 3, none⟩ = some (.slice da0 dn dc0) := by simp [World.cell?, hx2]
  have HX2 := Lib.hid hx2
  have HST := Lib.hid (And.intro hst (show w.heap.size < w1.heap.size from (Array.getElem?_eq_some_iff.1 hx1).1))
  clear hb1 hx1 hb2 hst hx2
  go_wp2_with fail
  refine (RM.out w2 HB2.out).mono ?_
  rintro e w3 hN
  obtain ⟨M, tM, VM, cM, rfl, RM3, hb3, tl3, -⟩ := hN
  have HB3 : Hid (Below w.heap.size w w3) := HB2.out.trans (hb3.mono HB2.out.size)
  have hx3 := (hb3.block _ hl2).trans HX2.out
  have y0 : w3.cell? ⟨w.heap.size, 0, none⟩ = some (.slice wa0 X.E.ws.length wc0) := by simp [World.cell?, hx3]
  have y1 : w3.cell? ⟨w.heap.size, 1, none⟩ = some (.slice ea0 X.E.es.length ec0) := by simp [World.cell?, hx3]
  have y2 : w3.cell? ⟨w.heap.size, 2, none⟩ = some (.int .i64 m) := by simp [World.cell?, hx3]
  have y3 : w3.cell? ⟨w.heap.size, 3, none⟩ = some (.slice da0 dn dc0) := by simp [World.cell?, hx3]
  have hl3 : w.heap.size < w3.heap.size := (Array.getElem?_eq_some_iff.1 hx3).1
  have HX3 := Lib.hid hx3
  have HM3 := Lib.hid (And.intro RM3 (And.intro tl3 (And.intro hb3 hb3.size)))
  clear RM3 tl3 hb3 hx3 x0 x1 x2 x3 HX2 RM
  go_upto_region 7 with fail
  go_cut [] (fun wx => ∃ qa5 qc5 qa6 qc6, Hid (Turn w3 wx w.heap.size (.cells #[.slice qa5 X.E.ws.length qc5, .slice qa6 X.E.es.length qc6, .int .i64 m, .slice none 0 0] 26 (0, 0))) ∧ Hid (wx.ownsRow w3.heap.size 73 5 (.slice qa5 X.E.ws.length qc5) X.E.ws.length (cW X.E.ws)) ∧ Hid (wx.ownsRow w3.heap.size 62 2 (.slice qa6 X.E.es.length qc6) X.E.es.length (entC X.E.es)))
  case first =>
    have HB4 : Hid (Below w.heap.size w w3.drew) := HB3.out.drew
    have hd4 : Below w3.heap.size w3 w3.drew := (Below.refl _ _).drew
    have HD4 := Lib.hid hd4
    clear hd4
    go_region_with (first
      | (go_at_call 32; refine (RW.out _ HB4.out).mono ?_; rintro e w5 ⟨q5, rfl, h5, b5⟩; obtain ⟨⟨x50, x51, x53⟩, ⟨z50, z51, z53⟩, l5⟩ := mboxOf ((b5.block _ hl3).trans HX3.out); have HB5 := Lib.hid (And.intro h5 (And.intro b5 (HB4.out.trans (b5.mono HB4.out.size)))); obtain ⟨qa5, qc5, rfl⟩ := (Rd.of_own h5).shape; clear h5 b5)
      | (go_at_call 33; refine (RE.out _ HB5.out.2.2).mono ?_; rintro e w6 ⟨q6, rfl, h6, b6⟩; have HB6 := Lib.hid (And.intro h6 (And.intro b6 (HB5.out.2.2.trans (b6.mono HB5.out.2.2.size)))); obtain ⟨qa6, qc6, rfl⟩ := (Rd.of_own h6).shape; obtain ⟨⟨x60, x61, x63⟩, ⟨z60, z61, z63⟩, l6⟩ := mboxMv x50 x51 x53 z50 z51 z53 l5 b6; clear h6 b6))
    all_goals
      go_wp2_with fail
      go_meet
      exact ⟨qa5, qc5, qa6, qc6, pbox_end HX3.out HD4.out HB5.out.1 HB5.out.2.1 HB6.out.1 HB6.out.2.1⟩
  case rest =>
    obtain ⟨qa5, qc5, qa6, qc6, HT, HRW, HRE⟩ := hcut
    obtain ⟨w4, rfl⟩ : ∃ w4 : World, w4 = wc := ⟨_, rfl⟩
    have k0 : w4.cell? ⟨w.heap.size, 0, none⟩ = some (.slice qa5 X.E.ws.length qc5) := by simp [World.cell?, HT.out.at_]
    have k1 : w4.cell? ⟨w.heap.size, 1, none⟩ = some (.slice qa6 X.E.es.length qc6) := by simp [World.cell?, HT.out.at_]
    have k2 : w4.cell? ⟨w.heap.size, 2, none⟩ = some (.int .i64 m) := by simp [World.cell?, HT.out.at_]
    have k3 : w4.cell? ⟨w.heap.size, 3, none⟩ = some (.slice none 0 0) := by simp [World.cell?, HT.out.at_]
    have hl4 : w.heap.size < w4.heap.size := (Array.getElem?_eq_some_iff.1 HT.out.at_).1
    clear y0 y1 y2 y3 HX3 RW RE
    go_upto_region 8 with fail
    have hB4 : Below w.heap.size w w4 := HT.out.below HB3.out (Nat.le_refl _) HB3.out.size
    have HB4 := Lib.hid hB4.drew
    clear hB4
    go_region_with (first
      | (go_at_call 34; refine (RI.out _ HB4.out).mono ?_; rintro e w5 ⟨q5, rfl, h5, b5⟩; have j0 := (b5.cell (p := ⟨w.heap.size, 0, none⟩) hl4).trans k0; have j1 := (b5.cell (p := ⟨w.heap.size, 1, none⟩) hl4).trans k1; have j2 := (b5.cell (p := ⟨w.heap.size, 2, none⟩) hl4).trans k2; have j3 := (b5.cell (p := ⟨w.heap.size, 3, none⟩) hl4).trans k3; have l5 := Nat.lt_of_lt_of_le hl4 b5.size; have HB5 := Lib.hid (And.intro h5 (And.intro b5 (HB4.out.trans (b5.mono HB4.out.size)))); obtain ⟨ia5, ic5, rfl⟩ := (Rd.of_own h5).shape; clear h5 b5)
      | (go_at_call 35; refine (RC.out _ HB5.out.2.2).mono ?_; rintro e w6 ⟨q6, rfl, h6, b6⟩; have m0 := (b6.cell (p := ⟨w.heap.size, 0, none⟩) l5).trans j0; have m1 := (b6.cell (p := ⟨w.heap.size, 1, none⟩) l5).trans j1; have m2 := (b6.cell (p := ⟨w.heap.size, 2, none⟩) l5).trans j2; have m3 := (b6.cell (p := ⟨w.heap.size, 3, none⟩) l5).trans j3; have HB6 := Lib.hid (And.intro h6 (And.intro b6 (HB5.out.2.2.trans (b6.mono HB5.out.2.2.size)))); obtain ⟨ca6, cc6, rfl⟩ := (Rd.of_own h6).shape; clear h6 b6))
    all_goals
      go_wp2_with fail
      simp only [Act.put]
      go_ret2
      obtain ⟨rfl, rfl⟩ := HO.out
      obtain ⟨u, hu, hb⟩ := pnew_end HM.out H HB2.out HST.out HM3.out HT.out HRW.out HRE.out HB5.out.1 HB5.out.2.1 HB6.out.1 HB6.out.2.1
      exact ⟨_, u, rfl, hu, hb⟩
end Go.Proofs.Ytgjmdcbdkdmceaa.Mach
