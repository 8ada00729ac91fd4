/- Vm: a new machine on the document's example. -/
import Derived.Test.YteeapfgjjankeaaQ20
import Derived.Deep.DeepCutAuto
import Derived.Deep.RegionWith
namespace Go.Proofs.Yteeapfgjjankeaa
open Go.RowKit

theorem wcs_one : ∀ u ∈ wcs, u.oneCell' = true := by decide
theorem ecs_one : ∀ u ∈ [Value.int .i64 0, Value.int .i64 0], u.oneCell' = true := by decide

theorem own_below {w w' : World} {base : Nat} {e : TypeId} {size n : Nat} {v : Value} {xs : List Value} (h : w.ownsRow base e size v n xs) (hb : Below w.heap.size w w') : w'.ownsRow base e size v n xs := own_same h fun k hk => by
  obtain ⟨_, cur, hc⟩ := own_blk h k hk
  exact hb.block k (Array.getElem?_eq_some_iff.1 hc).1
theorem own_down {w : World} {base base' : Nat} {e : TypeId} {size n : Nat} {v : Value} {xs : List Value} (h : w.ownsRow base e size v n xs) (hb : base' ≤ base) : w.ownsRow base' e size v n xs := by
  refine ⟨h.1, ?_⟩
  rcases h.2 with h | ⟨g', c', cur', e1, e2, e3⟩
  · exact .inl h
  · exact .inr ⟨g', c', cur', e1, Nat.le_trans hb e2, e3⟩
theorem own_setB {w : World} {base b i : Nat} {e : TypeId} {size n : Nat} {v u : Value} {xs : List Value} {c : Array Value} {t : TypeId} (h : w.ownsRow base e size v n xs) (hx : w.heap[b]? = some (.cells c t (0, 0))) (ht : e ≠ t) : (w.setCell ⟨b, i, none⟩ u).ownsRow base e size v n xs := own_same h fun k hk => by
  obtain ⟨_, cur, hc⟩ := own_blk h k hk
  exact Below.heap_setCell _ _ _ _ (blk_ne hc hx (cells_ne ht))
theorem box_end {w w1 W4 w5 w6 w7 : World} {a0 a1 v5 v6 v7 : Value} {b : Nat} (hx : w1.heap[w.heap.size]? = some (.cells #[a0, a1, .int .i64 0, .slice none 0 0] 26 (0, 0))) (_hb1 : Below w.heap.size w w1) (hb4 : Below w.heap.size w W4) (hb4' : Below w1.heap.size w1 W4)
    (h5 : w5.ownsRow W4.heap.size 60 5 v5 4 wcs ∧ Below W4.heap.size W4 w5 ∧ Below w.heap.size w w5) (h6 : w6.ownsRow w5.heap.size 62 2 v6 1 [.int .i64 0, .int .i64 0] ∧ Below w5.heap.size w5 w6 ∧ Below w.heap.size w w6) (h7 : Below w6.heap.size w6 w7 ∧ Below w.heap.size w w7) (hbb : b = w.heap.size) :
    Hid ((((w7.setCell ⟨b, 0, none⟩ v5).setCell ⟨b, 1, none⟩ v6).setCell ⟨b, 3, none⟩ v7).heap[w.heap.size]? = some (.cells #[v5, v6, .int .i64 0, v7] 26 (0, 0))) ∧ Hid ((((w7.setCell ⟨b, 0, none⟩ v5).setCell ⟨b, 1, none⟩ v6).setCell ⟨b, 3, none⟩ v7).ownsRow w.heap.size 60 5 v5 4 wcs) ∧ Hid ((((w7.setCell ⟨b, 0, none⟩ v5).setCell ⟨b, 1, none⟩ v6).setCell ⟨b, 3, none⟩ v7).ownsRow w.heap.size 62 2 v6 1 [.int .i64 0, .int .i64 0]) ∧ Hid (Below w.heap.size w (((w7.setCell ⟨b, 0, none⟩ v5).setCell ⟨b, 1, none⟩ v6).setCell ⟨b, 3, none⟩ v7)) := by
  subst hbb
  have hl : w.heap.size < w1.heap.size := (Array.getElem?_eq_some_iff.1 hx).1
  have hall : Below w1.heap.size w1 w7 := ((hb4'.trans (h5.2.1.mono hb4'.size)).trans (h6.2.1.mono (Nat.le_trans hb4'.size h5.2.1.size))).trans (h7.1.mono (Nat.le_trans (Nat.le_trans hb4'.size h5.2.1.size) h6.2.1.size))
  have hx7 := (hall.block _ hl).trans hx
  have t1 := turn_set hx7 v5 (i := 0)
  have t2 := t1.trans (turn_set t1.at_ v6 (i := 1))
  have t3 := t2.trans (turn_set t2.at_ v7 (i := 3))
  have o5 : w7.ownsRow w.heap.size 60 5 v5 4 wcs := own_below (own_below (own_down h5.1 hb4.size) h6.2.1) h7.1
  have o6 : w7.ownsRow w.heap.size 62 2 v6 1 [.int .i64 0, .int .i64 0] := own_below (own_down h6.1 h5.2.2.size) h7.1
  refine ⟨t3.at_, own_setB (own_setB (own_setB o5 hx7 (by decide)) t1.at_ (by decide)) t2.at_ (by decide), own_setB (own_setB (own_setB o6 hx7 (by decide)) t1.at_ (by decide)) t2.at_ (by decide), ((h7.2.setCell (Nat.le_refl _) _).setCell (Nat.le_refl _) _).setCell (Nat.le_refl _) _⟩
theorem own_zero_eq {W : World} {base : Nat} {e : TypeId} {size : Nat} {v : Value} (h : W.ownsRow base e size v 0 []) : ∃ a c, v = .slice a 0 c := (Rd.of_own h).shape
def BoxS (W : World) (b : Nat) (v0 v1 : Value) : Prop := (W.cell? ⟨b, 0, none⟩ = some v0 ∧ W.cell? ⟨b, 1, none⟩ = some v1 ∧ W.cell? ⟨b, 3, none⟩ = some (.slice none 0 0)) ∧ (W.frozen? ⟨b, 0, none⟩ = false ∧ W.frozen? ⟨b, 1, none⟩ = false ∧ W.frozen? ⟨b, 3, none⟩ = false) ∧ b < W.heap.size
theorem boxOf {W : World} {b : Nat} {v0 v1 v2 : Value} (h : W.heap[b]? = some (.cells #[v0, v1, v2, .slice none 0 0] 26 (0, 0))) : BoxS W b v0 v1 :=
  ⟨⟨by simp [World.cell?, h], by simp [World.cell?, h], by simp [World.cell?, h]⟩, ⟨by simp [World.frozen?, h], by simp [World.frozen?, h], by simp [World.frozen?, h]⟩, (Array.getElem?_eq_some_iff.1 h).1⟩
theorem boxMv {W W' : World} {b : Nat} {v0 v1 : Value} (h0 : W.cell? ⟨b, 0, none⟩ = some v0) (h1 : W.cell? ⟨b, 1, none⟩ = some v1) (h3 : W.cell? ⟨b, 3, none⟩ = some (.slice none 0 0)) (z0 : W.frozen? ⟨b, 0, none⟩ = false) (z1 : W.frozen? ⟨b, 1, none⟩ = false) (z3 : W.frozen? ⟨b, 3, none⟩ = false) (hl : b < W.heap.size) (hb : Below W.heap.size W W') : BoxS W' b v0 v1 :=
  ⟨⟨(hb.cell (p := ⟨b, 0, none⟩) hl).trans h0, (hb.cell (p := ⟨b, 1, none⟩) hl).trans h1, (hb.cell (p := ⟨b, 3, none⟩) hl).trans h3⟩, ⟨(World.frozen?_of_block (a := ⟨b, 0, none⟩) (hb.block b hl)).trans z0, (World.frozen?_of_block (a := ⟨b, 1, none⟩) (hb.block b hl)).trans z1, (World.frozen?_of_block (a := ⟨b, 3, none⟩) (hb.block b hl)).trans z3⟩, Nat.lt_of_lt_of_le hl hb.size⟩
set_option maxRecDepth 100000 in
set_option maxHeartbeats 40000000 in
theorem new_ex (wv0 ev0 : Value) (w : World) (hW : Rd w 5 wv0 4 wcs) (hE : Rd w 2 ev0 1 [.int .i64 0, .int .i64 0]) :
    Calls Try.prog 9 #[.agg #[wv0, ev0, .int .i64 0, .slice none 0 0], .slice none 0 0] w fun e w' =>
      ∃ M F OB wv ev dv iv sl, e = .returned (.tuple #[.pointer (some ⟨M, 0, none⟩), .int .i64 0]) ∧ MS w w.heap.size M F OB (mC wv ev dv iv (.slice none 0 0) OB 1 0 0 0 (.slice none 0 0) 0 0) (fC 0 0 sl) wv ev (.slice none 0 0) [] w' := by
  obtain ⟨wa0, wc0, rfl⟩ := Rd.shape hW
  obtain ⟨ea0, ec0, rfl⟩ := Rd.shape hE
  have RW := Lib.hid (fun V (hb : Below w.heap.size w V) => cloneW _ 4 wcs V (Rd.later hW hb) wcs_one (by omega))
  have RE := Lib.hid (fun V (hb : Below w.heap.size w V) => cloneE _ 1 _ V (Rd.later hE hb) ecs_one (by omega))
  have RB := Lib.hid (fun V => cloneB (.slice none 0 0) 0 [] V (Rd.nil _ _) (by simp) (by omega))
  clear hW hE
  go_enter Try.func9, Try.ntmps9
  go_upto_region 3 with fail
  obtain ⟨w1, hw1⟩ : ∃ w1, w1 = w.alloc (.cells #[.slice wa0 4 wc0, .slice ea0 1 ec0, .int .i64 0, .slice none 0 0] 26) := ⟨_, rfl⟩
  rw [← hw1]
  have hb1 : Below w.heap.size w w1 := by rw [hw1]; exact (Below.refl _ _).alloc (Nat.le_refl _) _
  have hx1 : w1.heap[w.heap.size]? = some (.cells #[.slice wa0 4 wc0, .slice ea0 1 ec0, .int .i64 0, .slice none 0 0] 26 (0, 0)) := by rw [hw1]; exact heap_alloc_new _ _
  have c0 : w1.cell? ⟨w.heap.size, 0, none⟩ = some (.slice wa0 4 wc0) := by simp [World.cell?, hx1]
  have c1 : w1.cell? ⟨w.heap.size, 1, none⟩ = some (.slice ea0 1 ec0) := by simp [World.cell?, hx1]
  have c3 : w1.cell? ⟨w.heap.size, 3, none⟩ = some (.slice none 0 0) := by simp [World.cell?, hx1]
  have hl1 : w.heap.size < w1.heap.size := (Array.getElem?_eq_some_iff.1 hx1).1
  have HX := Lib.hid hx1
  have HB := Lib.hid hb1
  clear hw1 hx1 hb1
  go_cut [] (fun wx => ∃ qa5 qc5 qa6 qc6 qa7 qc7, Hid (wx.heap[w.heap.size]? = some (.cells #[.slice qa5 4 qc5, .slice qa6 1 qc6, .int .i64 0, .slice qa7 0 qc7] 26 (0, 0))) ∧ Hid (wx.ownsRow w.heap.size 60 5 (.slice qa5 4 qc5) 4 wcs) ∧ Hid (wx.ownsRow w.heap.size 62 2 (.slice qa6 1 qc6) 1 [.int .i64 0, .int .i64 0]) ∧ Hid (Below w.heap.size w wx))
  case first =>
    have HB4 : Hid (Below w.heap.size w w1.drew) := HB.out.drew
    go_region_with (first
      | (go_at_call 24; refine (RW.out _ HB4.out).mono ?_; rintro e w5 ⟨q5, rfl, h5, b5⟩; obtain ⟨⟨x50, x51, x53⟩, ⟨z50, z51, z53⟩, l5⟩ := boxOf ((b5.block _ hl1).trans HX.out); have HB5 := Lib.hid (And.intro h5 (And.intro b5 (HB4.out.trans (b5.mono HB4.out.size)))); obtain ⟨qa5, qc5, rfl⟩ := (Rd.of_own h5).shape; clear h5 b5)
      | (go_at_call 25; refine (RE.out _ HB5.out.2.2).mono ?_; rintro e w6 ⟨q6, rfl, h6, b6⟩; have HB6 := Lib.hid (And.intro h6 (And.intro b6 (HB5.out.2.2.trans (b6.mono HB5.out.2.2.size)))); obtain ⟨qa6, qc6, rfl⟩ := (Rd.of_own h6).shape; obtain ⟨⟨x60, x61, x63⟩, ⟨z60, z61, z63⟩, l6⟩ := boxMv x50 x51 x53 z50 z51 z53 l5 b6; clear h6 b6)
      | (go_at_call 26; refine (RB.out _).mono ?_; rintro e w7 ⟨q7, rfl, h7, b7⟩; obtain ⟨⟨x70, x71, x73⟩, ⟨z70, z71, z73⟩, l7⟩ := boxMv x60 x61 x63 z60 z61 z63 l6 b7; have HB7 := Lib.hid (And.intro b7 (HB6.out.2.2.trans (b7.mono HB6.out.2.2.size))); obtain ⟨qa7, qc7, rfl⟩ := own_zero_eq h7; clear h7 b7))
    all_goals
      go_wp2_with fail
      go_meet
      exact ⟨qa5, qc5, qa6, qc6, qa7, qc7, box_end HX.out HB.out HB4.out ((Below.refl _ _).drew) HB5.out HB6.out HB7.out rfl⟩
  case rest =>
    obtain ⟨qa5, qc5, qa6, qc6, qa7, qc7, HXc, HW5, HE6, HBc⟩ := hcut
    obtain ⟨w4, rfl⟩ : ∃ w4 : World, w4 = wc := ⟨_, rfl⟩
    have k0 : w4.cell? ⟨w.heap.size, 0, none⟩ = some (.slice qa5 4 qc5) := by simp [World.cell?, HXc.out]
    have k1 : w4.cell? ⟨w.heap.size, 1, none⟩ = some (.slice qa6 1 qc6) := by simp [World.cell?, HXc.out]
    have k2 : w4.cell? ⟨w.heap.size, 2, none⟩ = some (.int .i64 0) := by simp [World.cell?, HXc.out]
    have k3 : w4.cell? ⟨w.heap.size, 3, none⟩ = some (.slice qa7 0 qc7) := by simp [World.cell?, HXc.out]
    have hlc : w.heap.size < w4.heap.size := (Array.getElem?_eq_some_iff.1 HXc.out).1
    clear c0 c1 c3 hl1 HX HB RW RE RB
    go_upto_region 4 with fail
    have CN := Lib.hid (cloneN (.slice none 0 0) 0 [] w4.drew (Rd.nil _ _) (by simp) (by omega))
    go_cut [6] (fun s6 wx => ∃ M ia ic, s6 = .pointer (some ⟨M, 0, none⟩) ∧ w4.heap.size ≤ M ∧ Hid (wx.heap[M]? = some (.cells #[.slice qa5 4 qc5, .slice qa6 1 qc6, .int .i64 0, .slice qa7 0 qc7, .slice ia 0 ic, .slice none 0 0, .slice none 0 0, .int .i64 0, .int .u8 0, .int .i64 0, .slice none 0 0, .int .i64 0, .int .i64 0, .int .i64 0, .int .i64 0] 73 (0, 0))) ∧ Hid (Below w4.heap.size w4 wx))
    case first =>
      go_region_with (first | (go_at_call 27; refine CN.out.mono ?_; rintro e w5 ⟨q5, rfl, h5, b5⟩; obtain ⟨ia, ic, rfl⟩ := own_zero_eq h5; have HB5 := Lib.hid b5; have j0 : w5.cell? ⟨w.heap.size, 0, none⟩ = some (.slice qa5 4 qc5) := (b5.cell (p := ⟨w.heap.size, 0, none⟩) hlc).trans k0; have j1 : w5.cell? ⟨w.heap.size, 1, none⟩ = some (.slice qa6 1 qc6) := (b5.cell (p := ⟨w.heap.size, 1, none⟩) hlc).trans k1; have j2 : w5.cell? ⟨w.heap.size, 2, none⟩ = some (.int .i64 0) := (b5.cell (p := ⟨w.heap.size, 2, none⟩) hlc).trans k2; have j3 : w5.cell? ⟨w.heap.size, 3, none⟩ = some (.slice qa7 0 qc7) := (b5.cell (p := ⟨w.heap.size, 3, none⟩) hlc).trans k3; clear h5 b5))
      all_goals
        go_wp2_with fail
        go_meet
        exact ⟨_, ia, ic, rfl, HB5.out.size, heap_alloc_new _ _, (((Below.refl _ _).drew).trans HB5.out).alloc HB5.out.size _⟩
    case rest =>
      obtain ⟨M, ia, ic, rfl, hMs, HMx, HBx⟩ := hcut
      obtain ⟨w6, rfl⟩ : ∃ w6 : World, w6 = wc := ⟨_, rfl⟩
      have HB6 : Hid (Below w.heap.size w w6) := HBc.out.trans (HBx.out.mono HBc.out.size)
      have HW6 : Hid (w6.ownsRow w.heap.size 60 5 (.slice qa5 4 qc5) 4 wcs) := own_below HW5.out HBx.out
      have HE7 : Hid (w6.ownsRow w.heap.size 62 2 (.slice qa6 1 qc6) 1 [.int .i64 0, .int .i64 0]) := own_below HE6.out HBx.out
      obtain ⟨eb, rfl⟩ : ∃ eb, qa6 = some ⟨eb, 0, none⟩ := by
        rcases HE7.out.2 with ⟨_, h2⟩ | ⟨g, c, cur, e, _⟩
        · omega
        · cases e; exact ⟨g, rfl⟩
      have hlM : M < w6.heap.size := (Array.getElem?_eq_some_iff.1 HMx.out).1
      have hle : eb < w6.heap.size := by
        obtain ⟨_, cur, hc⟩ := own_blk HE7.out eb rfl
        exact (Array.getElem?_eq_some_iff.1 hc).1
      have n1 : w6.cell? ⟨M, 1, none⟩ = some (.slice (some ⟨eb, 0, none⟩) 1 qc6) := by simp [World.cell?, HMx.out]
      have k2' : w6.cell? ⟨w.heap.size, 2, none⟩ = some (.int .i64 0) := (HBx.out.cell (p := ⟨w.heap.size, 2, none⟩) hlc).trans k2
      have e0 : w6.cell? ⟨eb, 0, none⟩ = some (.int .i64 0) := by
        have := HE7.out.cells rfl 0 (.int .i64 0) rfl
        simpa [Addr.add] using this
      have e1 : w6.cell? ⟨eb, 1, none⟩ = some (.int .i64 0) := by
        have := HE7.out.cells rfl 1 (.int .i64 0) rfl
        simpa [Addr.add] using this
      have HFR := Lib.hid (frame_ex M eb qc6 w6 n1 e0 e1 hlM hle)
      have hwM : w.heap.size ≤ M := Nat.le_trans (Nat.le_of_lt hlc) hMs
      clear k0 k1 k2 k3 e0 e1 n1 HXc HW5 HE6 HBc HBx
      go_wp2_with fail
      refine HFR.out.mono ?_
      rintro e w7 ⟨rfl, sl, hf7, hb7⟩
      have HF7 := Lib.hid hf7
      have HB7 := Lib.hid hb7
      have hm7 := (hb7.block M hlM).trans HMx.out
      have HM7 := Lib.hid hm7
      have p5 : w7.cell? ⟨M, 5, none⟩ = some (.slice none 0 0) := by simp [World.cell?, hm7]
      have z5 : w7.frozen? ⟨M, 5, none⟩ = false := by simp [World.frozen?, hm7]
      have hl7 : M < w7.heap.size := Nat.lt_of_lt_of_le hlM hb7.size
      clear hf7 hb7 hm7 HFR k2'
      go_wp2_with fail
      go_ret2
      refine ⟨M, w6.heap.size, w7.heap.size, .slice qa5 4 qc5, .slice (some ⟨eb, 0, none⟩) 1 qc6, .slice qa7 0 qc7, .slice ia 0 ic, sl, rfl, ?_⟩
      have T := (turn_set HM7.out (.slice (some ⟨w7.heap.size, 0, none⟩) 1 1) (i := 5)).later ((Below.refl _ _).alloc (Nat.le_refl _) (.cells #[.pointer (some ⟨w6.heap.size, 0, none⟩)] 74))
      have hk : ∀ {k : Nat} {c : Array Value} {t : TypeId} {f : Nat × Nat}, w7.heap[k]? = some (.cells c t f) → t ≠ 73 → (((w7.setCell ⟨M, 5, none⟩ (.slice (some ⟨w7.heap.size, 0, none⟩) 1 1)).alloc (.cells #[.pointer (some ⟨w6.heap.size, 0, none⟩)] 74))).heap[k]? = w7.heap[k]? := fun {k c t f} e hn => T.block k (Array.getElem?_eq_some_iff.1 e).1 (blk_ne e HM7.out (cells_ne hn))
      have hw7 : w7.ownsRow w.heap.size 60 5 (.slice qa5 4 qc5) 4 wcs := own_below HW6.out HB7.out
      have he7 : w7.ownsRow w.heap.size 62 2 (.slice (some ⟨eb, 0, none⟩) 1 qc6) 1 [.int .i64 0, .int .i64 0] := own_below HE7.out HB7.out
      have hbw : Below w.heap.size w w7 := HB6.out.trans (HB7.out.mono HB6.out.size)
      refine ⟨T.at_, (hk HF7.out (by decide)).trans HF7.out, ?_, own_same hw7 fun k e => ?_, own_same he7 fun k e => ?_, ⟨rfl, .inl ⟨rfl, rfl⟩⟩, hwM, HB6.out.size, T.below hbw hwM hbw.size⟩
      · have := heap_alloc_new (w7.setCell ⟨M, 5, none⟩ (.slice (some ⟨w7.heap.size, 0, none⟩) 1 1)) (.cells #[.pointer (some ⟨w6.heap.size, 0, none⟩)] 74)
        rw [World.size_setCell] at this
        exact this
      · obtain ⟨_, cur, hc⟩ := own_blk hw7 k e; exact hk hc (by decide)
      · obtain ⟨_, cur, hc⟩ := own_blk he7 k e; exact hk hc (by decide)
end Go.Proofs.Yteeapfgjjankeaa
