/- Vet: VetNames, walked (what the two checks answer is given). -/
import Derived.Test.YtnanlkoldloolaaDoorQFn
import Derived.Test.YtnanlkoldloolaaDoorQ16
namespace Go.Proofs.YtnanlkoldloolaaDoor
open Go.RowKit

theorem cW_set22 : ∀ (l : List W) (k : Nat) (h : k < l.length) (v : Int), cW (l.set k { l[k] with imm := v }) = (cW l).set (k * 5 + 4) (.int .i64 v)
  | x :: r, 0, _, v => by simp [cW]
  | x :: r, k + 1, h, v => by
    have ih := cW_set22 r k (by simpa using h) v
    rw [show (k + 1) * 5 + 4 = k * 5 + 4 + 1 + 1 + 1 + 1 + 1 by omega]
    simp [cW, ih]
theorem ownW_set22 {w : World} {B g cap k : Nat} {l : List W} {cur : Array Value} {v : Int} (hk : k < l.length) (h1 : B ≤ g) (h2 : w.heap[g]? = some (.cells cur 47 (0, 0))) (h3 : l.length ≤ cap ∧ cap ≤ maxLen ∧ cur.size = cap * 5 ∧ cur.toList.take (l.length * 5) = cW l) :
    (w.setCell ⟨g, k * 5 + 4, none⟩ (.int .i64 v)).ownsRow B 47 5 (.slice (some ⟨g, 0, none⟩) l.length cap) l.length (cW (l.set k { l[k] with imm := v })) := by
  obtain ⟨a1, a2, a3, a4⟩ := h3
  refine ⟨by rw [cW_length, List.length_set], .inr ⟨g, cap, _, rfl, h1, heap_set h2, a1, a2, by simp [a3], ?_⟩⟩
  rw [Array.toList_setIfInBounds, List.take_set, a4, cW_set22 l k hk]

set_option maxRecDepth 100000 in
set_option maxHeartbeats 8000000 in
theorem vetNames_of (wv : Value) (l : List W) (ev : Value) (el : List (Int × Int)) (m : Int) (dv : Value) (dl : List Int) (pick far : Int) (w : World) (hp : 0 ≤ pick ∧ pick ≤ 65535) (hf : 0 ≤ far ∧ far ≤ 65535) (hv : RdW w wv l) (hev : RdE w ev el) (hdv : RdB w dv dl)
   (gt : TypeId) (gv : Value) (hg : Gives w gt gv)
   (Good : Int → Nat → List (Int × Int) → Prop)
   (HC : dl.length ≤ 20000 → ∀ (W : World) (a b : Value) (l2 : List _root_.Go.Proofs.YtnanlkoldloolaaDoor.W) (pa : Option Addr) (pc : Nat), Below w.heap.size w W → RdW W a l2 → RdE W b el → RdB W (.slice pa dl.length pc) dl → Calls Tryd.prog 10 #[.agg #[a, b, .int .i64 m, .slice pa dl.length pc]] W fun e w' => (∃ at' er, CheckIs l2 el m Good at' er ∧ e = .returned (.tuple #[.int .i64 at', .int .i64 er])) ∧ Below W.heap.size W w')
   (HR : dl.length ≤ 20000 → ∀ (W : World) (a b : Value) (pa : Option Addr) (pc : Nat), Below w.heap.size w W → RdW W a l → RdE W b el → RdB W (.slice pa dl.length pc) dl → Calls Tryd.prog 11 #[.agg #[a, b, .int .i64 m, .slice pa dl.length pc]] W fun e w' => (∃ at' er, CheckIs l el m Good at' er ∧ e = .returned (.tuple #[.int .i64 at', .int .i64 er])) ∧ Below W.heap.size W w') :
   Calls Tryd.prog 6 #[.agg #[wv, ev, .int .i64 m, dv], .int .u16 pick, .int .u16 far] w fun e w' => e = .returned (.bool true) ∧ Below w.heap.size w w' := by
  have hl9 : l.length ≤ 9223372036854775807 := Rd.le hv
  have hd9 : dl.length ≤ 9223372036854775807 := Rd.le hdv
  obtain ⟨wa, wc, rfl⟩ := Rd.shape hv
  obtain ⟨ea, ec, rfl⟩ := Rd.shape hev
  obtain ⟨da, dc, rfl⟩ := Rd.shape hdv
  have HV := Lib.hid hv
  have HE := Lib.hid hev
  have HD := Lib.hid hdv
  have HG := Lib.hid hg
  have HCC := Lib.hid HC
  have HRR := Lib.hid HR
  clear hv hev hdv hg HC HR
  go_enter Tryd.func6, Tryd.ntmps6
  go_wp2_with fail
  have HB0 : Hid (Below w.heap.size w (w.alloc (.cells #[.slice wa l.length wc, .slice ea el.length ec, .int .i64 m, .slice da dl.length dc] 26))) := (Below.refl _ _).alloc (Nat.le_refl _) _
  have KK : Hid (∀ W : World, Below (w.heap.size + 1) (w.alloc (.cells #[.slice wa l.length wc, .slice ea el.length ec, .int .i64 m, .slice da dl.length dc] 26)) W → (W.cell? ⟨w.heap.size, 0, none⟩ = some (.slice wa l.length wc) ∧ W.cell? ⟨w.heap.size, 1, none⟩ = some (.slice ea el.length ec)) ∧ (W.cell? ⟨w.heap.size, 2, none⟩ = some (.int .i64 m) ∧ W.cell? ⟨w.heap.size, 3, none⟩ = some (.slice da dl.length dc)) ∧ Below w.heap.size w W ∧ w.heap.size < W.heap.size) := fun W h =>
    ⟨⟨by rw [h.cell (by simp)]; simp, by rw [h.cell (by simp)]; simp⟩, ⟨by rw [h.cell (by simp)]; simp, by rw [h.cell (by simp)]; simp⟩, HB0.out.trans (h.mono (by omega)), by have := h.size; simp at this; omega⟩
  refine (awake_any _ gt gv (gives_below HG.out ((Below.refl _ _).alloc (Nat.le_refl _) _))).mono ?_
  rintro e w1 ⟨rfl, hb1⟩
  have hb1 : Below (w.heap.size + 1) (w.alloc (.cells #[.slice wa l.length wc, .slice ea el.length ec, .int .i64 m, .slice da dl.length dc] 26)) w1 := hb1.mono (by simp)
  obtain ⟨⟨a0, a1⟩, ⟨a2, a3⟩, hw1, hs1⟩ := KK.out w1 hb1
  have HB1 := Lib.hid hb1
  have HW1 := Lib.hid hw1
  clear hb1 hw1
  go_wp2_with fail
  refine (few22_any wa l.length wc _ el m da dl.length dc w1 (Rd.later HE.out HW1.out) hl9 hd9).mono ?_
  rintro e w2 ⟨⟨b, hfew, rfl⟩, hb2⟩
  have hb2 := HB1.out.trans (hb2.mono (by have := HB1.out.size; simpa using this))
  obtain ⟨⟨b0, b1⟩, ⟨b2, b3⟩, hw2, hs2⟩ := KK.out w2 hb2
  have HB2 := Lib.hid hb2
  have HW2 := Lib.hid hw2
  clear hb2 hw2 a0 a1 a2 a3
  cases b
  · clear hfew
    go_wp2_with fail
    go_ret
    exact ⟨rfl, HW2.out⟩
  obtain ⟨h15, h50, h20, -⟩ := hfew rfl
  clear hfew
  have HC1 := Lib.hid (HCC.out h20)
  have HR1 := Lib.hid (HRR.out h20)
  go_wp2_with fail
  refine (HR1.out w2 _ _ da dc HW2.out (Rd.later HV.out HW2.out) (Rd.later HE.out HW2.out) (Rd.later HD.out HW2.out)).mono ?_
  rintro e w3 ⟨⟨at1, e1, hc1, rfl⟩, hb3⟩
  have hb3 := HB2.out.trans (hb3.mono (by have := HB2.out.size; simpa using this))
  obtain ⟨⟨c0, c1⟩, ⟨c2, c3⟩, hw3, hs3⟩ := KK.out w3 hb3
  have HB3 := Lib.hid hb3
  have HW3 := Lib.hid hw3
  clear hb3 hw3 b0 b1 b2 b3
  by_cases he1 : e1 = 0
  · subst he1
    have HCK := Lib.hid hc1
    have hl0 := (check_ok hc1).1.1
    clear hc1
    obtain ⟨k, hk⟩ : ∃ k : Nat, pick.tmod (l.length : Int) = (k : Int) := ⟨(pick.tmod (l.length : Int)).toNat, by
      have := Int.tmod_nonneg (l.length : Int) hp.1; omega⟩
    have hkl : k < l.length := by
      have := Int.tmod_lt_of_pos pick (show (0 : Int) < l.length by omega); omega
    have hnz : ((l.length : Int) == 0) = false := beq_eq_false_iff_ne.mpr (by omega)
    go_wp2_with fail
    refine (twin22_any _ l _ el m _ dl w3 (Rd.later HV.out HW3.out) (Rd.later HE.out HW3.out) (Rd.later HD.out HW3.out) (by omega) (by omega) (by omega)).mono ?_
    rintro e w4 ⟨us, ue, ud, rfl, hu, hue, hud, hb4⟩
    have hb4 := HB3.out.trans (hb4.mono (by have := HB3.out.size; simpa using this))
    obtain ⟨⟨d0, d1⟩, ⟨d2, d3⟩, hw4, hs4⟩ := KK.out w4 hb4
    have HB4 := Lib.hid hb4
    have HW4 := Lib.hid hw4
    have HU := Lib.hid hu
    have HUE := Lib.hid hue
    have HUD := Lib.hid hud
    clear hb4 hw4 hue hud c0 c1 c2 c3
    obtain ⟨va, vc, rfl⟩ := (Rd.of_own HUE.out).shape
    obtain ⟨xa, xc, rfl⟩ := (Rd.of_own HUD.out).shape
    rcases hu.2 with ⟨rfl, hnil⟩ | ⟨g, cap, cur, rfl, hg1, hg2, hg3⟩
    · exfalso
      omega
    clear hu
    have HCU : Hid (RdW w4 (.slice (some ⟨g, 0, none⟩) l.length cap) l) := Rd.of_own HU.out
    rcases RdW.split HCU.out with ⟨_, _, _, hl00⟩ | ⟨gb, goff, gc, hgv, -, hgl, hgc, hgb, hgcell⟩
    · simp [hl00] at hl0
    simp only [Value.slice.injEq, Option.some.injEq, Addr.mk.injEq] at hgv
    obtain ⟨⟨rfl, rfl, -⟩, -, rfl⟩ := hgv
    obtain ⟨e0, -, -, -, e4⟩ := hgcell k hkl
    rw [Nat.zero_add] at e0 e4
    clear hgcell
    have HG3 := Lib.hid hg3
    have HG2 := Lib.hid hg2
    clear hg2 hg3
    obtain ⟨op, hop⟩ : ∃ op, l[k].op = op := ⟨_, rfl⟩
    obtain ⟨im, him⟩ : ∃ im, l[k].imm = im := ⟨_, rfl⟩
    rw [hop] at e0
    rw [him] at e4
    have HOP := Lib.hid hop
    clear hop him
    have kF : ∀ o i, (w4.alloc o).frozen? ⟨g, i, none⟩ = false := fun o i => unfrozen_of (heap_old w4 o HG2.out)
    have hgne : g ≠ w4.heap.size := by omega
    obtain ⟨hf1, hf2⟩ := hf
    have CALL : ∀ v : Int, v ≤ maxI → (((op = 45 ∨ op = 46) ∧ (l.length : Int) ≤ v) ∨ (op = 41 ∧ (el.length : Int) ≤ v)) → ∀ o, Calls Tryd.prog 10 #[.agg #[.slice (some ⟨g, 0, none⟩) l.length cap, .slice va el.length vc, .int .i64 m, .slice xa dl.length xc]] ((w4.setCell ⟨g, k * 5 + 4, none⟩ (.int .i64 v)).alloc o) fun e w' => e = .returned (.tuple #[.int .i64 k, .int .i64 17]) ∧ Below w.heap.size w w' := fun v hv1 hv2 o => by
      have hB5 : Below w.heap.size w ((w4.setCell ⟨g, k * 5 + 4, none⟩ (.int .i64 v)).alloc o) := (HW4.out.setCell (show w.heap.size ≤ g by omega) _).alloc (by show _ ≤ (w4.setCell _ _).heap.size; simp; omega) o
      have hlen : (l.set k { l[k] with imm := v }).length = l.length := List.length_set
      have hr : RdW (w4.setCell ⟨g, k * 5 + 4, none⟩ (.int .i64 v)) (.slice (some ⟨g, 0, none⟩) l.length cap) (l.set k { l[k] with imm := v }) := by
        have := Rd.of_own (ownW_set22 (v := v) hkl hg1 HG2.out HG3.out)
        unfold RdW; rw [hlen]; exact this
      have hre : RdE (w4.setCell ⟨g, k * 5 + 4, none⟩ (.int .i64 v)) (.slice va el.length vc) el := Rd.of_own (own_same HUE.out fun j hj => Below.heap_setCell _ _ _ _ (show j ≠ g from fun e => own_apart HUE.out HG2.out (by decide) (e ▸ hj)))
      have hrd : RdB (w4.setCell ⟨g, k * 5 + 4, none⟩ (.int .i64 v)) (.slice xa dl.length xc) dl := Rd.of_own (own_same HUD.out fun j hj => Below.heap_setCell _ _ _ _ (show j ≠ g from fun e => own_apart HUD.out HG2.out (by decide) (e ▸ hj)))
      have C := HC1.out _ _ _ _ xa xc hB5 (Rd.alloc hr o) (Rd.alloc hre o) (Rd.alloc hrd o)
      refine C.mono ?_
      rintro e w' ⟨⟨a', e', hc, rfl⟩, hb⟩
      obtain ⟨rfl, rfl⟩ := names_bad HCK.out hkl hv1 (by rw [HOP.out]; exact hv2) hc
      exact ⟨rfl, hB5.trans (hb.mono hB5.size)⟩
    have CALL := Lib.hid CALL
    have hmax : (l.length : Int) + far ≤ maxI := by unfold maxI; omega
    have hmax2 : (el.length : Int) + far ≤ maxI := by unfold maxI; omega
    by_cases h45 : op = 45
    · subst h45
      have C := Lib.hid (CALL.out _ hmax (.inl ⟨.inl rfl, by omega⟩))
      go_wp2_with fail
      refine (C.out _).mono ?_
      rintro e w6 ⟨rfl, hb6⟩
      have HB6 := Lib.hid hb6
      clear hb6
      go_wp2_with fail
      go_ret
      exact ⟨rfl, HB6.out⟩
    have e45 : (op == 45) = false := beq_eq_false_iff_ne.mpr h45
    by_cases h46 : op = 46
    · subst h46
      have C := Lib.hid (CALL.out _ hmax (.inl ⟨.inr rfl, by omega⟩))
      go_wp2_with fail
      refine (C.out _).mono ?_
      rintro e w6 ⟨rfl, hb6⟩
      have HB6 := Lib.hid hb6
      clear hb6
      go_wp2_with fail
      go_ret
      exact ⟨rfl, HB6.out⟩
    have e46 : (op == 46) = false := beq_eq_false_iff_ne.mpr h46
    by_cases h41 : op = 41
    · subst h41
      have C := Lib.hid (CALL.out _ hmax2 (.inr ⟨rfl, by omega⟩))
      go_wp2_with fail
      refine (C.out _).mono ?_
      rintro e w6 ⟨rfl, hb6⟩
      have HB6 := Lib.hid hb6
      clear hb6
      go_wp2_with fail
      go_ret
      exact ⟨rfl, HB6.out⟩
    have e41 : (op == 41) = false := beq_eq_false_iff_ne.mpr h41
    have HBN : ∀ o, Hid (Below w.heap.size w (w4.alloc o)) := fun o => HW4.out.alloc (by omega) o
    clear h45 h46 h41
    go_wp2_with fail
    go_ret
    exact ⟨rfl, (HBN _).out⟩
  · clear hc1
    go_wp2_with fail
    go_ret
    exact ⟨rfl, HW3.out⟩
end Go.Proofs.YtnanlkoldloolaaDoor
