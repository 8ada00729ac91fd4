/- The program's machine: at its beginning, on any image. (Turned from vm XVg.) -/
import Derived.Test.YtgjmdcbdkdmceaaQ17
import Derived.Test.YtgjmdcbdkdmceaaQ19
import Derived.Deep.DeepCutAuto
import Derived.Deep.RegionWith
namespace Go.Proofs.Ytgjmdcbdkdmceaa.Mach
open Go.RowKit

theorem obelow {w w' : World} {base : Nat} {e : TypeId} {size n : Nat} {v : Value} {xs : List Value} (h : w.ownsRow base e size v n xs) (hb : Below w.heap.size w w') : w'.ownsRow base e size v n xs := osame h fun k hk => hb.block k (olt h k hk)
theorem osetB {w : World} {base b i : Nat} {e : TypeId} {size n : Nat} {v u : Value} {xs : List Value} (h : w.ownsRow base e size v n xs) (hb : b < base) : (w.setCell ⟨b, i, none⟩ u).ownsRow base e size v n xs := osame h fun k hk => Below.heap_setCell _ _ _ _ (by show k ≠ b; have := (oblk h k hk).1; omega)
/-- The image among the arguments has its copies. -/
theorem mbox_end {w w1 W4 w5 w6 w7 : World} {l : List W} {el : List (Int × Int)} {dn : Nat} {dx : List Value} {m : Int} {a0 a1 a3 v5 v6 v7 : Value} {b : Nat} (hx : w1.heap[w.heap.size]? = some (.cells #[a0, a1, .int .i64 m, a3] 26 (0, 0))) (_hb1 : Below w.heap.size w w1) (_hb4 : Below w.heap.size w W4) (hb4' : Below w1.heap.size w1 W4)
    (h5 : w5.ownsRow W4.heap.size 73 5 v5 l.length (cW l) ∧ Below W4.heap.size W4 w5 ∧ Below w.heap.size w w5) (h6 : w6.ownsRow w5.heap.size 62 2 v6 el.length (entC el) ∧ Below w5.heap.size w5 w6 ∧ Below w.heap.size w w6) (h7 : w7.ownsRow w6.heap.size 5 1 v7 dn dx ∧ Below w6.heap.size w6 w7 ∧ Below w.heap.size w w7) (hbb : b = w.heap.size) :
    Hid ((((w7.setCell ⟨b, 0, none⟩ v5).setCell ⟨b, 1, none⟩ v6).setCell ⟨b, 3, none⟩ v7).heap[w.heap.size]? = some (.cells #[v5, v6, .int .i64 m, v7] 26 (0, 0))) ∧ Hid ((((w7.setCell ⟨b, 0, none⟩ v5).setCell ⟨b, 1, none⟩ v6).setCell ⟨b, 3, none⟩ v7).ownsRow (w.heap.size + 1) 73 5 v5 l.length (cW l)) ∧ Hid ((((w7.setCell ⟨b, 0, none⟩ v5).setCell ⟨b, 1, none⟩ v6).setCell ⟨b, 3, none⟩ v7).ownsRow (w.heap.size + 1) 62 2 v6 el.length (entC el)) ∧ Hid (Below w.heap.size w (((w7.setCell ⟨b, 0, none⟩ v5).setCell ⟨b, 1, none⟩ v6).setCell ⟨b, 3, none⟩ v7)) := by
  subst hbb
  have hl : w.heap.size < w1.heap.size := (Array.getElem?_eq_some_iff.1 hx).1
  have s4 := hb4'.size
  have s5 := h5.2.1.size
  have s6 := h6.2.1.size
  have hall : Below w1.heap.size w1 w7 := ((hb4'.trans (h5.2.1.mono s4)).trans (h6.2.1.mono (Nat.le_trans s4 s5))).trans (h7.2.1.mono (Nat.le_trans (Nat.le_trans s4 s5) s6))
  have hx7 := (hall.block _ hl).trans hx
  have o5 : w7.ownsRow (w.heap.size + 1) 73 5 v5 l.length (cW l) := obelow (obelow (odown h5.1 (by omega)) h6.2.1) h7.2.1
  have o6 : w7.ownsRow (w.heap.size + 1) 62 2 v6 el.length (entC el) := obelow (odown h6.1 (by omega)) h7.2.1
  have e0 : (((w7.setCell ⟨w.heap.size, 0, none⟩ v5).setCell ⟨w.heap.size, 1, none⟩ v6).setCell ⟨w.heap.size, 3, none⟩ v7).heap[w.heap.size]? = some (.cells #[v5, v6, .int .i64 m, v7] 26 (0, 0)) := by
    rw [heap_set (heap_set (heap_set hx7 0 v5) 1 v6) 3 v7]
    simp
  exact ⟨e0, osetB (osetB (osetB o5 (by omega)) (by omega)) (by omega), osetB (osetB (osetB o6 (by omega)) (by omega)) (by omega), ((h7.2.2.setCell (Nat.le_refl _) _).setCell (Nat.le_refl _) _).setCell (Nat.le_refl _) _⟩
def MBoxS (W : World) (b : Nat) (v0 v1 v3 : Value) : Prop := (W.cell? ⟨b, 0, none⟩ = some v0 ∧ W.cell? ⟨b, 1, none⟩ = some v1 ∧ W.cell? ⟨b, 3, none⟩ = some v3) ∧ (W.frozen? ⟨b, 0, none⟩ = false ∧ W.frozen? ⟨b, 1, none⟩ = false ∧ W.frozen? ⟨b, 3, none⟩ = false) ∧ b < W.heap.size
theorem mboxOf {W : World} {b : Nat} {v0 v1 v2 v3 : Value} (h : W.heap[b]? = some (.cells #[v0, v1, v2, v3] 26 (0, 0))) : MBoxS W b v0 v1 v3 :=
  ⟨⟨by simp [World.cell?, h], by simp [World.cell?, h], by simp [World.cell?, h]⟩, ⟨by simp [World.frozen?, h], by simp [World.frozen?, h], by simp [World.frozen?, h]⟩, (Array.getElem?_eq_some_iff.1 h).1⟩
theorem mboxMv {W W' : World} {b : Nat} {v0 v1 v3 : Value} (h0 : W.cell? ⟨b, 0, none⟩ = some v0) (h1 : W.cell? ⟨b, 1, none⟩ = some v1) (h3 : W.cell? ⟨b, 3, none⟩ = some v3) (z0 : W.frozen? ⟨b, 0, none⟩ = false) (z1 : W.frozen? ⟨b, 1, none⟩ = false) (z3 : W.frozen? ⟨b, 3, none⟩ = false) (hl : b < W.heap.size) (hb : Below W.heap.size W W') : MBoxS W' b v0 v1 v3 :=
  ⟨⟨(hb.cell (p := ⟨b, 0, none⟩) hl).trans h0, (hb.cell (p := ⟨b, 1, none⟩) hl).trans h1, (hb.cell (p := ⟨b, 3, none⟩) hl).trans h3⟩, ⟨(World.frozen?_of_block (a := ⟨b, 0, none⟩) (hb.block b hl)).trans z0, (World.frozen?_of_block (a := ⟨b, 1, none⟩) (hb.block b hl)).trans z1, (World.frozen?_of_block (a := ⟨b, 3, none⟩) (hb.block b hl)).trans z3⟩, Nat.lt_of_lt_of_le hl hb.size⟩
def emSt : St := ⟨0, 0, 0, [], 0, 0, 0, [], []⟩
/-- What New leaves. -/
def MNew (w : World) (E : Env) (m : Int) (e : Ending) (w' : World) : Prop :=
  ∃ M t V cl, e = .returned (.tuple #[.pointer (some ⟨M, 0, none⟩), .int .i64 0]) ∧ MRep w' t w.heap.size M E V cl (newF E m) ∧ Below w.heap.size w w' ∧ (∀ k, k < w.heap.size → t k = 0) ∧ (∀ k, V.wv.ownBlock = some k ∨ V.ev.ownBlock = some k ∨ V.iv.ownBlock = some k → w.heap.size ≤ k)
theorem mnew_none (wv ev dv iv : Value) (m : Int) (el : List (Int × Int)) (w : World) (he : Rd w 2 ev el.length (entC el)) (hm : m < 0 ∨ (el.length : Int) ≤ m) :
    Calls Try.prog 13 #[.agg #[wv, ev, .int .i64 m, dv], iv] w fun e w' => e = .returned (.tuple #[.pointer none, .int .i64 3]) ∧ Below w.heap.size w w' := by
  obtain ⟨ea, ec, rfl⟩ := Rd.shape he
  clear he
  go_enter Try.func13, Try.ntmps13
  by_cases h0 : m < 0
  · go_wp2_with fail
    go_ret2
    exact ⟨rfl, (Below.refl _ _).alloc (Nat.le_refl _) _⟩
  · have h1 : (el.length : Int) ≤ m := by omega
    go_wp2_with fail
    go_ret2
    exact ⟨rfl, (Below.refl _ _).alloc (Nat.le_refl _) _⟩
set_option maxRecDepth 100000 in
set_option maxHeartbeats 40000000 in
theorem mnew_any (wv0 ev0 dv0 iv0 : Value) (E : Env) (m : Nat) (dn : Nat) (dx : List Value) (w : World) (hW : Rd w 5 wv0 E.ws.length (cW E.ws)) (hE : Rd w 2 ev0 E.es.length (entC E.es)) (hD : Rd w 1 dv0 dn dx) (hD1 : ∀ u ∈ dx, u.oneCell' = true) (hI : Rd w 1 iv0 E.inp.length (intsV E.inp)) (hm : m < E.es.length)
    (bW : E.ws.length * 16 ≤ 140737488355328) (bE : E.es.length * 16 ≤ 140737488355328) (bD : dn * 1 ≤ 140737488355328) (bI : E.inp.length * 8 ≤ 140737488355328) :
    Calls Try.prog 13 #[.agg #[wv0, ev0, .int .i64 m, dv0], iv0] w fun e w' => MNew w E m e w' := by
  obtain ⟨wa0, wc0, rfl⟩ := Rd.shape hW
  obtain ⟨ea0, ec0, rfl⟩ := Rd.shape hE
  obtain ⟨da0, dc0, rfl⟩ := Rd.shape hD
  obtain ⟨ia0, ic0, rfl⟩ := Rd.shape hI
  have RW := Lib.hid (fun V (hb : Below w.heap.size w V) => cloneW _ _ _ V (Rd.later hW hb) (cW_one _) bW)
  have RE := Lib.hid (fun V (hb : Below w.heap.size w V) => cloneE _ _ _ V (Rd.later hE hb) (entC_one _) bE)
  have RB := Lib.hid (fun V (hb : Below w.heap.size w V) => cloneB _ _ _ V (Rd.later hD hb) hD1 bD)
  have RI := Lib.hid (fun V (hb : Below w.heap.size w V) => cloneN _ _ _ V (Rd.later hI hb) (intsV_one _) bI)
  have n0 : ¬ ((m : Int) < 0) := by omega
  have n1 : ¬ ((E.es.length : Int) ≤ (m : Int)) := by omega
  clear hW hE hD hI hD1
  go_enter Try.func13, Try.ntmps13
  go_upto_region 3 with fail
  obtain ⟨w1, hw1⟩ : ∃ w1, w1 = w.alloc (.cells #[.slice wa0 E.ws.length wc0, .slice ea0 E.es.length ec0, .int .i64 m, .slice da0 dn dc0] 26) := ⟨_, rfl⟩
  rw [← hw1]
  have hb1 : Below w.heap.size w w1 := by rw [hw1]; exact (Below.refl _ _).alloc (Nat.le_refl _) _
  have hx1 : w1.heap[w.heap.size]? = some (.cells #[.slice wa0 E.ws.length wc0, .slice ea0 E.es.length ec0, .int .i64 m, .slice da0 dn dc0] 26 (0, 0)) := by rw [hw1]; exact heap_alloc_new _ _
  have c0 : w1.cell? ⟨w.heap.size, 0, none⟩ = some (.slice wa0 E.ws.length wc0) := by simp [World.cell?, hx1]
  have c1 : w1.cell? ⟨w.heap.size, 1, none⟩ = some (.slice ea0 E.es.length ec0) := by simp [World.cell?, hx1]
  have c3 : w1.cell? ⟨w.heap.size, 3, none⟩ = some (.slice da0 dn dc0) := by simp [World.cell?, hx1]
  have hl1 : w.heap.size < w1.heap.size := (Array.getElem?_eq_some_iff.1 hx1).1
  have HX := Lib.hid hx1
  have HB := Lib.hid hb1
  clear hw1 hx1 hb1
  go_cut [] (fun wx => ∃ qa5 qc5 qa6 qc6 qa7 qc7, Hid (wx.heap[w.heap.size]? = some (.cells #[.slice qa5 E.ws.length qc5, .slice qa6 E.es.length qc6, .int .i64 m, .slice qa7 dn qc7] 26 (0, 0))) ∧ Hid (wx.ownsRow (w.heap.size + 1) 73 5 (.slice qa5 E.ws.length qc5) E.ws.length (cW E.ws)) ∧ Hid (wx.ownsRow (w.heap.size + 1) 62 2 (.slice qa6 E.es.length qc6) E.es.length (entC E.es)) ∧ Hid (Below w.heap.size w wx))
  case first =>
    have HB4 : Hid (Below w.heap.size w w1.drew) := HB.out.drew
    go_region_with (first
      | (go_at_call 32; refine (RW.out _ HB4.out).mono ?_; rintro e w5 ⟨q5, rfl, h5, b5⟩; obtain ⟨⟨x50, x51, x53⟩, ⟨z50, z51, z53⟩, l5⟩ := mboxOf ((b5.block _ hl1).trans HX.out); have HB5 := Lib.hid (And.intro h5 (And.intro b5 (HB4.out.trans (b5.mono HB4.out.size)))); obtain ⟨qa5, qc5, rfl⟩ := (Rd.of_own h5).shape; clear h5 b5)
      | (go_at_call 33; refine (RE.out _ HB5.out.2.2).mono ?_; rintro e w6 ⟨q6, rfl, h6, b6⟩; have HB6 := Lib.hid (And.intro h6 (And.intro b6 (HB5.out.2.2.trans (b6.mono HB5.out.2.2.size)))); obtain ⟨qa6, qc6, rfl⟩ := (Rd.of_own h6).shape; obtain ⟨⟨x60, x61, x63⟩, ⟨z60, z61, z63⟩, l6⟩ := mboxMv x50 x51 x53 z50 z51 z53 l5 b6; clear h6 b6)
      | (go_at_call 40; refine (RB.out _ HB6.out.2.2).mono ?_; rintro e w7 ⟨q7, rfl, h7, b7⟩; obtain ⟨⟨x70, x71, x73⟩, ⟨z70, z71, z73⟩, l7⟩ := mboxMv x60 x61 x63 z60 z61 z63 l6 b7; have HB7 := Lib.hid (And.intro h7 (And.intro b7 (HB6.out.2.2.trans (b7.mono HB6.out.2.2.size)))); obtain ⟨qa7, qc7, rfl⟩ := (Rd.of_own h7).shape; clear h7 b7))
    all_goals
      go_wp2_with fail
      go_meet
      exact ⟨qa5, qc5, qa6, qc6, qa7, qc7, mbox_end HX.out HB.out HB4.out ((Below.refl _ _).drew) HB5.out HB6.out HB7.out rfl⟩
  case rest =>
    obtain ⟨qa5, qc5, qa6, qc6, qa7, qc7, HXc, HW5, HE6, HBc⟩ := hcut
    obtain ⟨w4, rfl⟩ : ∃ w4 : World, w4 = wc := ⟨_, rfl⟩
    have k0 : w4.cell? ⟨w.heap.size, 0, none⟩ = some (.slice qa5 E.ws.length qc5) := by simp [World.cell?, HXc.out]
    have k1 : w4.cell? ⟨w.heap.size, 1, none⟩ = some (.slice qa6 E.es.length qc6) := by simp [World.cell?, HXc.out]
    have k2 : w4.cell? ⟨w.heap.size, 2, none⟩ = some (.int .i64 m) := by simp [World.cell?, HXc.out]
    have k3 : w4.cell? ⟨w.heap.size, 3, none⟩ = some (.slice qa7 dn qc7) := by simp [World.cell?, HXc.out]
    have hlc : w.heap.size < w4.heap.size := (Array.getElem?_eq_some_iff.1 HXc.out).1
    clear c0 c1 c3 hl1 HX HB RW RE RB
    go_upto_region 4 with fail
    have CN := Lib.hid (RI.out w4.drew HBc.out.drew)
    go_cut [6] (fun s6 wx => ∃ M ia ic, s6 = .pointer (some ⟨M, 0, none⟩) ∧ w4.heap.size ≤ M ∧ Hid (wx.heap[M]? = some (.cells #[.slice qa5 E.ws.length qc5, .slice qa6 E.es.length qc6, .int .i64 m, .slice qa7 dn qc7, .slice ia E.inp.length ic, .slice none 0 0, .slice none 0 0, .int .i64 0, .int .u8 0, .int .i64 0, .slice none 0 0, .int .i64 0, .int .i64 0, .int .i64 0, .int .i64 0] 89 (0, 0))) ∧ Hid (Below w4.heap.size w4 wx) ∧ Hid (wx.ownsRow w4.heap.size 2 1 (.slice ia E.inp.length ic) E.inp.length (intsV E.inp)) ∧ Hid (∀ k, (Value.slice ia E.inp.length ic).ownBlock = some k → k ≠ M))
    case first =>
      go_region_with (first | (go_at_call 34; refine CN.out.mono ?_; rintro e w5 ⟨q5, rfl, h5, b5⟩; obtain ⟨ia, ic, rfl⟩ := (Rd.of_own h5).shape; have HB5 := Lib.hid b5; have HH5 := Lib.hid h5; have j0 : w5.cell? ⟨w.heap.size, 0, none⟩ = some (.slice qa5 E.ws.length qc5) := (b5.cell (p := ⟨w.heap.size, 0, none⟩) hlc).trans k0; have j1 : w5.cell? ⟨w.heap.size, 1, none⟩ = some (.slice qa6 E.es.length qc6) := (b5.cell (p := ⟨w.heap.size, 1, none⟩) hlc).trans k1; have j2 : w5.cell? ⟨w.heap.size, 2, none⟩ = some (.int .i64 m) := (b5.cell (p := ⟨w.heap.size, 2, none⟩) hlc).trans k2; have j3 : w5.cell? ⟨w.heap.size, 3, none⟩ = some (.slice qa7 dn qc7) := (b5.cell (p := ⟨w.heap.size, 3, none⟩) hlc).trans k3; clear h5 b5))
      all_goals
        go_wp2_with fail
        go_meet
        exact ⟨_, ia, ic, rfl, HB5.out.size, heap_alloc_new _ _, (((Below.refl _ _).drew).trans HB5.out).alloc HB5.out.size _, obelow HH5.out ((Below.refl _ _).alloc (Nat.le_refl _) _), fun k hk => by have := olt HH5.out k hk; omega⟩
    case rest =>
      obtain ⟨M, ia, ic, rfl, hMs, HMx, HBx, HIx, HNx⟩ := hcut
      obtain ⟨w6, rfl⟩ : ∃ w6 : World, w6 = wc := ⟨_, rfl⟩
      have HB6 : Hid (Below w.heap.size w w6) := HBc.out.trans (HBx.out.mono HBc.out.size)
      have HW6 : Hid (w6.ownsRow (w.heap.size + 1) 73 5 (.slice qa5 E.ws.length qc5) E.ws.length (cW E.ws)) := obelow HW5.out HBx.out
      have HE7 : Hid (w6.ownsRow (w.heap.size + 1) 62 2 (.slice qa6 E.es.length qc6) E.es.length (entC E.es)) := obelow HE6.out HBx.out
      have hlM : M < w6.heap.size := (Array.getElem?_eq_some_iff.1 HMx.out).1
      have hwM : w.heap.size < M := Nat.lt_of_lt_of_le hlc hMs
      have n1 : w6.cell? ⟨M, 1, none⟩ = some (.slice qa6 E.es.length qc6) := by simp [World.cell?, HMx.out]
      have k2' : w6.cell? ⟨w.heap.size, 2, none⟩ = some (.int .i64 m) := (HBx.out.cell (p := ⟨w.heap.size, 2, none⟩) hlc).trans k2
      obtain ⟨t0, ht0⟩ : ∃ t0 : Nat → Nat, t0 = upd (fun k => if w.heap.size ≤ k ∧ k < w6.heap.size then 1 else 0) M 3 := ⟨_, rfl⟩
      have ht0M : t0 M = 3 := by rw [ht0]; exact upd_at _ _ _
      have ht0o : ∀ k, k ≠ M → t0 k ≤ 1 ∧ (t0 k ≠ 0 ↔ w.heap.size ≤ k ∧ k < w6.heap.size) := fun k hk => by
        rw [ht0, upd_ne hk]
        by_cases h : w.heap.size ≤ k ∧ k < w6.heap.size
        · rw [if_pos h]; exact ⟨by omega, fun _ => h, fun _ => by omega⟩
        · rw [if_neg h]; exact ⟨by omega, fun h' => absurd rfl h', fun h' => absurd h' h⟩
      have hWb : ∀ k, (Value.slice qa5 E.ws.length qc5).ownBlock = some k → w.heap.size < k ∧ k ≠ M := fun k hk => by
        obtain ⟨h1, cur, h2⟩ := oblk HW6.out k hk
        exact ⟨by omega, blk_ne h2 HMx.out (cells_ne (by decide))⟩
      have hEb : ∀ k, (Value.slice qa6 E.es.length qc6).ownBlock = some k → w.heap.size < k ∧ k ≠ M := fun k hk => by
        obtain ⟨h1, cur, h2⟩ := oblk HE7.out k hk
        exact ⟨by omega, blk_ne h2 HMx.out (cells_ne (by decide))⟩
      have H6 : Hid (MRep w6 t0 w.heap.size M E ⟨.slice qa5 E.ws.length qc5, .slice qa6 E.es.length qc6, m, .slice qa7 dn qc7, .slice ia E.inp.length ic, .slice none 0 0, .slice none 0 0, .slice none 0 0⟩ [] emSt) := by
        refine ⟨HMx.out, ht0M, ⟨⟨Rd.of_own HW6.out, fun _ k hk => by have := (ht0o k (hWb k hk).2).1; omega, Rd.of_own HE7.out, fun _ k hk => by have := (ht0o k (hEb k hk).2).1; omega, Rd.of_own HIx.out, fun _ k hk => by have := (ht0o k (HNx.out k hk)).1; omega⟩,
          fun _ k hk => (ht0o k (hWb k hk).2).2.2 ⟨Nat.le_of_lt (hWb k hk).1, olt HW6.out k hk⟩, fun _ k hk => (ht0o k (hEb k hk).2).2.2 ⟨Nat.le_of_lt (hEb k hk).1, olt HE7.out k hk⟩, fun _ k hk => (ht0o k (HNx.out k hk)).2.2 ⟨by have := (oblk HIx.out k hk).1; omega, olt HIx.out k hk⟩⟩, rfl, Row.nil _ _ _ _ _ _, Row.nil _ _ _ _ _ _, Row.nil _ _ _ _ _ _, fun i p hp => by simp at hp, fun k hk => ?_, fun k hk => ?_⟩
        · by_cases e : k = M
          · rw [e]; exact hlM
          · exact ((ht0o k e).2.1 hk).2
        · by_cases e : k = M
          · rw [e]; exact ⟨by omega, HB6.out.size⟩
          · have := (ht0o k e).1; omega
      have HFR := Lib.hid (mframe_any w6 t0 M E _ _ _ H6.out.env.toEnvAt n1 hlM m hm [] none 0 0 0)
      have HT0 := Lib.hid (And.intro ht0M (And.intro ht0o (And.intro hWb hEb)))
      clear k0 k1 k2 k3 n1 HXc HW5 HE6 HBc HBx ht0 ht0M ht0o hWb hEb CN
      go_wp2_with fail
      refine HFR.out.mono ?_
      rintro e w7 hP
      obtain ⟨F7, sv7, t7, rfl, hb7, R7, X7, P7⟩ := H6.out.newCall (Row.nil _ _ _ _ _ _) hP
      have HB7 := Lib.hid hb7
      have HR7 := Lib.hid R7
      have HX7 := Lib.hid X7
      have HP7 := Lib.hid P7
      have p5 : w7.cell? ⟨M, 5, none⟩ = some (.slice none 0 0) := (R7.cellM 5).trans (mC_get _ _).2.2.2.1
      have z5 := R7.frzM 5
      have hl7 : M < w7.heap.size := R7.ltM
      clear hP hb7 R7 X7 P7 HFR k2'
      go_wp2_with fail
      go_ret2
      have ho8 : (w7.alloc (.cells #[.pointer (some ⟨F7, 0, none⟩)] 90)).ownsRow w.heap.size 90 1 (.slice (some ⟨w7.heap.size, 0, none⟩) 1 1) 1 [.pointer (some ⟨F7, 0, none⟩)] :=
        World.ownsRow_lit (e := 90) (size := 1) (base := w.heap.size) w7 #[.pointer (some ⟨F7, 0, none⟩)] 1 HR7.out.bs (by unfold maxLen; omega) rfl
      have T8 : Trn w7 (w7.alloc (.cells #[.pointer (some ⟨F7, 0, none⟩)] 90)) t7 (updV t7 (.slice (some ⟨w7.heap.size, 0, none⟩) 1 1) 4) 4 w.heap.size :=
        Trn.grown (u := .slice none 0 0) ⟨rfl, rfl, rfl, by simp, fun k hk _ => Below.heap_alloc _ _ _ hk⟩ (Tv.none _ _) (fun g hg => by simp [Value.ownBlock] at hg; exact .inl (by omega)) ho8 (by omega) HR7.out.bs
      have RP := HR7.out.push T8 (p := (newFr E m [] 0, ⟨F7, sv7, .slice none 0 0, .slice none 0 0⟩)) ⟨ho8, updV_self _ _ _⟩ (HP7.out.trn T8 (by omega))
      rw [World.setCell_alloc_past _ _ _ _ hl7] at RP
      have hs67 := HB7.out.size
      have hs6 := HB6.out.size
      refine ⟨M, _, _, _, rfl, RP.1, ?_, fun k hk => ?_, fun k hk => ?_⟩
      · exact HB6.out.trans ((HB7.out.mono hs6).trans (((Below.refl _ _).setCell (by show w.heap.size ≤ M; omega) _).alloc (by simp; omega) _))
      · have h0 : t0 k = 0 := by
          rcases Nat.eq_zero_or_pos (t0 k) with e | e
          · exact e
          · have := ((HT0.out.2.1 k (by omega)).2.1 (by omega)).1
            omega
        have h1 := (HX7.out.keep k (by omega)).1 (by omega)
        have h2 : updV t7 (.slice (some ⟨w7.heap.size, 0, none⟩) 1 1) 4 k = t7 k := upd_ne (by show k ≠ w7.heap.size; omega)
        rw [h2, h1, h0]
      · rcases hk with hk | hk | hk
        · exact Nat.le_of_lt (HT0.out.2.2.1 k hk).1
        · exact Nat.le_of_lt (HT0.out.2.2.2 k hk).1
        · have := (oblk HIx.out k hk).1
          omega
end Go.Proofs.Ytgjmdcbdkdmceaa.Mach
