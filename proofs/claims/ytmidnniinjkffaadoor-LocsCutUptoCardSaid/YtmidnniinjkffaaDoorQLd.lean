/- Locs: the law of decoding: the walk. -/
import Derived.Test.YtmidnniinjkffaaDoorQ10
import Derived.Test.YtmidnniinjkffaaDoorQSa
import Derived.Test.YtmidnniinjkffaaDoorQRj
namespace Go.Proofs.YtmidnniinjkffaaDoor
open Go.RowKit

/-- Bytes, and one marked behind them. -/
structure Spared (w : World) (v : Value) (l : List Int) : Prop where
  shape : ∃ g c, v = .slice (some ⟨g, 0, none⟩) (l.length + 1) c ∧ l.length + 1 ≤ c ∧ c ≤ maxLen ∧ ∀ j, j < l.length + 1 → w.cell? ⟨g, j, none⟩ = some (.int .u8 ((l ++ [165]).getD j 0))
theorem own_nil (w : World) (base : Nat) (hb : base ≤ w.heap.size) :
    (w.alloc (.cells #[] 5)).ownsRow base 5 1 (.slice (some ⟨w.heap.size, 0, none⟩) 0 0) 0 [] :=
  World.ownsRow_lit (e := 5) (size := 1) (base := base) w #[] 0 hb (by unfold maxLen; omega) (by simp)
theorem rd_one (w : World) (x : Value) : Rd (w.alloc (.cells #[x] 5)) 1 (.slice (some ⟨w.heap.size, 0, none⟩) 1 1) 1 [x] := by
  refine Rd.mk (by simp) (Nat.le_refl _) (by unfold maxLen; omega) (fun j hj => ?_)
  simp at hj
  subst hj
  rw [World.cell?_alloc_at _ _ _ _ rfl]; rfl
theorem own_cap {w : World} {base n g c : Nat} {e : TypeId} {size : Nat} {xs : List Value} (h : w.ownsRow base e size (.slice (some ⟨g, 0, none⟩) n c) n xs) : n ≤ c ∧ c ≤ maxLen := by
  rcases h.2 with ⟨h1, _⟩ | ⟨g', cap, cur, h1, _, _, h2, h3, _⟩
  · cases h1
  · cases h1; exact ⟨h2, h3⟩
theorem spared_of {w : World} {base g c : Nat} {l : List Int} (h : w.ownsRow base 5 1 (.slice (some ⟨g, 0, none⟩) (l.length + 1) c) (l.length + 1) ([] ++ l.map (Value.int .u8) ++ [Value.int .u8 165])) : Spared w (.slice (some ⟨g, 0, none⟩) (l.length + 1) c) l := by
  refine ⟨g, c, rfl, (own_cap h).1, (own_cap h).2, fun j hj => ?_⟩
  rw [h.cellAt j (by omega)]
  have e : [] ++ l.map (Value.int .u8) ++ [Value.int .u8 165] = (l ++ [165]).map (Value.int .u8) := by simp
  rw [e, List.getElem?_map]
  have hj2 : j < (l ++ [165]).length := by simpa using hj
  simp [List.getElem?_eq_getElem hj2]
theorem Spared.later {w w' : World} {v : Value} {l : List Int} (h : Spared w v l) (hb : Below w.heap.size w w') : Spared w' v l := by
  obtain ⟨g, c, rfl, h1, h2, h3⟩ := h.shape
  refine ⟨g, c, rfl, h1, h2, fun j hj => ?_⟩
  rw [hb.cell (World.block_lt_of_cell? w _ (h3 j hj))]; exact h3 j hj
theorem spared_rd {w : World} {g n c : Nat} {l : List Int} (h : Spared w (.slice (some ⟨g, 0, none⟩) n c) l) : RdB w (.slice (some ⟨g, 0, none⟩) l.length c) l := by
  obtain ⟨g', c', hv, h1, h2, h3⟩ := h.shape
  simp only [Value.slice.injEq, Option.some.injEq, Addr.mk.injEq, and_true] at hv
  obtain ⟨rfl, rfl, rfl⟩ := hv
  refine Rd.mk (by simp) (by omega) h2 (fun j hj => ?_)
  have hj2 : j < l.length := by simpa using hj
  rw [Nat.zero_add, h3 j (by omega)]
  simp [List.getElem?_append_left hj2, hj2]
theorem spared_mark {w : World} {g n c : Nat} {l : List Int} (h : Spared w (.slice (some ⟨g, 0, none⟩) n c) l) : w.cell? ⟨g, l.length, none⟩ = some (.int .u8 165) := by
  obtain ⟨g', c', hv, h1, h2, h3⟩ := h.shape
  simp only [Value.slice.injEq, Option.some.injEq, Addr.mk.injEq, and_true] at hv
  obtain ⟨rfl, rfl, rfl⟩ := hv
  rw [h3 _ (by omega)]; simp
theorem eqL_refl (l : List Int) : eqL l l = true := by simp [eqL]
theorem below_via {B : Nat} {w w1 w2 : World} (h : Below B w w1) (k : Below w1.heap.size w1 w2) (hB : B ≤ w1.heap.size) : Below B w w2 := h.trans (k.mono hB)

set_option maxRecDepth 100000 in
set_option maxHeartbeats 8000000 in
theorem locsDecodes_walk (v : Value) (l0 : List Int) (w : World) (hv : RdB w v l0) (hB : isB l0) (ga : Addr) (hg : Gives w 133 (.pointer (some ga))) :
    Calls Tryd.prog 4 #[v] w fun e w' => e = .returned (.bool true) ∧ Below w.heap.size w w' := by
  obtain ⟨i0, hi, hz0, hz1, hz2⟩ := infoY_parts infoY
  have HI : Hid _ := And.intro hi (And.intro hz0 (And.intro hz1 hz2))
  obtain ⟨a, c, rfl⟩ := Rd.shape hv
  have hl0 := hv.le
  have hlc : l0.length ≤ c := by
    rcases hv.split with ⟨a', c', h1, h2⟩ | ⟨b, off, c', h1, _, h2, _⟩
    · subst h2; simp
    · simp only [Value.slice.injEq] at h1; omega
  obtain ⟨k, hk⟩ : ∃ k, min l0.length 2000 = k := ⟨_, rfl⟩
  have hmin : min (l0.length : Int) 2000 = (k : Int) := by omega
  have hsl : ∀ W : World, (Instr.slice 30 (.slice a l0.length c) none (some (.int .i64 (k : Int))) none).run Tryd.prog W = .ok (.slice a k c) W := fun W => run_slice_to _ 5 Tryd.underlying30 hi hz1 _ _ _ k _ rfl (by omega) W
  have hT : RdB w (.slice a k c) (l0.take k) := by
    have := Rd.take hv (k := k) (by omega)
    unfold RdB
    rw [List.length_take, Nat.min_eq_left (by omega)]
    simpa using this
  have hBT : isB (l0.take k) := fun x hx => hB x (List.mem_of_mem_take hx)
  obtain ⟨l, hl⟩ : ∃ l, l0.take k = l := ⟨_, rfl⟩
  have hll : k = l.length := by rw [← hl, List.length_take]; omega
  rw [hl] at hT hBT
  subst hll
  have hl2 : l.length ≤ 2000 := by omega
  have HV := Lib.hid hT
  have HB := Lib.hid hBT
  have HG := Lib.hid hg
  clear hi hz0 hz1 hz2 hv hB hT hBT hg hk hl
  go_enter Tryd.func4, Tryd.ntmps4
  go_wp2_with fail
  refine (awake21 _).mono ?_
  rintro e w1 ⟨rfl, hb1⟩
  have HV1 := Lib.hid (Rd.later HV.out hb1)
  have HB1 := Lib.hid hb1
  clear hb1
  go_wp2_with (first
    | (at_builtin; refine wpList_append_own_rd _ rfl _ _ 30 rfl w1.heap.size 5 i0 (.int .u8 0) 1 1 Tryd.underlying30 HI.out.1 HI.out.2.1 HI.out.2.2.1 HI.out.2.2.2 rfl (by decide) _ 0 [] rfl (own_nil w1 w1.heap.size (Nat.le_refl _)) (.slice a l.length c) l.length (l.map (Value.int .u8)) rfl (Rd.alloc HV1.out _) (ints_oneCell .u8 _) (by unfold maxLen; omega) (by omega) (by simp) ?_; intro v2 w2 hown2 hgrow2)
    | (at_builtin; refine wpList_append_own_g _ rfl _ _ 30 rfl w1.heap.size 5 i0 (.int .u8 0) 1 1 Tryd.underlying30 HI.out.1 HI.out.2.1 HI.out.2.2.1 HI.out.2.2.2 rfl (by decide) _ _ _ rfl (hown2.alloc _) (.slice (some ⟨w2.heap.size, 0, none⟩) 1 1) 1 [.int .u8 165] rfl (rd_one w2 _) (ints_oneCell .u8 [165]) (l.length + 1) (by omega) (by omega) (by unfold maxLen; omega) (by omega) (by have := hgrow2.size; simp at this ⊢; omega) ?_; intro g c3 w3 hown3 hgrow3; have hc3 := (own_cap hown3).1; have hc4 := (own_cap hown3).2))
  have HS3 := Lib.hid (spared_of hown3)
  have hb3 : Below w1.heap.size w1 w3 := by
    have h2 : Below w1.heap.size w1 w2 := ((Below.refl _ _).alloc (Nat.le_refl _) _).grown hgrow2 (by simp) (fun k hk => by cases hk; exact Nat.le_refl _)
    exact (h2.alloc h2.size _).grown hgrow3 (by have := h2.size; simp; omega) (fun k hk => (hown2.lt k hk).1)
  have HB3 := Lib.hid (below_via HB1.out hb3 HB1.out.size)
  have HV3 := Lib.hid (Rd.later HV1.out hb3)
  clear hb3 hown3 hgrow3 hown2 hgrow2 HV1
  have hc9 : c3 ≤ 9223372036854775807 := by unfold maxLen at hc4; exact hc4
  have HR3 := Lib.hid (spared_rd HS3.out)
  have C := Lib.hid (decode_any _ _ _ l w3 HR3.out HB.out (by omega) ga (gives_of_below HG.out (HB3.out.mono (by have := World.block_lt_of_cell? w _ HG.out; omega))))
  obtain ⟨dd, hdd⟩ : ∃ dd, decD l = dd := ⟨_, rfl⟩
  have hrf := ref_dec HB.out (by omega : l.length ≤ 1000000000)
  have CR := Lib.hid (fun W h => refdec_any a c l W h HB.out (by omega : l.length ≤ 1000000000))
  unfold DecIs at C
  unfold RefIs at CR
  rw [hrf] at CR
  rw [hdd] at C CR
  have HEQ := Lib.hid (eqL_refl l)
  clear hdd hrf
  obtain ⟨ok, hok⟩ : ∃ ok, dd.isSome = ok := ⟨_, rfl⟩
  rw [hok] at C CR
  obtain ⟨D, hD⟩ : ∃ D, dd.getD noD = D := ⟨_, rfl⟩
  rw [hD] at C CR
  clear hok hD
  have hm := Lib.hid (fun w (h : Spared w (.slice (some ⟨g, 0, none⟩) (l.length + 1) c3) l) => spared_mark h)
  cases ok
  all_goals
    simp only [Bool.false_eq_true, if_true, if_false] at C
    go_wp2_with fail
    refine C.out.mono ?_
    rintro e w4 ⟨vs, vm, vt, rfl, hrd, hb4⟩
    obtain ⟨sa, sc, rfl⟩ := hrd.stops.shape
    obtain ⟨ma, mc, rfl⟩ := hrd.marks.shape
    obtain ⟨ta, tc, rfl⟩ := hrd.sites.shape
    have HV4 := Lib.hid (Rd.later HV3.out hb4)
    have HS4 := Lib.hid (HS3.out.later hb4)
    have HB4 := Lib.hid (below_via HB3.out hb4 HB3.out.size)
    have HD4 := Lib.hid hrd
    clear hrd hb4 C HV3 HS3 HB3 HR3
    go_wp2_with fail
    refine (CR.out _ (Rd.alloc HV4.out _)).mono ?_
    rintro e w6 ⟨us, um, ut, rfl, hrd, hb6⟩
    obtain ⟨sa2, sc2, rfl⟩ := hrd.stops.shape
    obtain ⟨ma2, mc2, rfl⟩ := hrd.marks.shape
    obtain ⟨ta2, tc2, rfl⟩ := hrd.sites.shape
    have hb46 : Below w4.heap.size w4 w6 := below_via ((Below.refl _ _).alloc (Nat.le_refl _) (.cells #[.slice sa D.stops.length sc, .slice ma D.marks.length mc, .slice ta D.sites.length tc] 26)) hb6 (by simp)
    have hq6 := heap_below hb6 (by simp) (heap_new w4 (.cells #[.slice sa D.stops.length sc, .slice ma D.marks.length mc, .slice ta D.sites.length tc] 26) rfl)
    have q0 := cell_of hq6 (i := 0) rfl
    have q1 := cell_of hq6 (i := 1) rfl
    have q2 := cell_of hq6 (i := 2) rfl
    have hlt6 := heap_lt hq6
    have HV6 := Lib.hid (Rd.later HV4.out hb46)
    have HS6 := Lib.hid (HS4.out.later hb46)
    have HB6 := Lib.hid (below_via HB4.out hb46 HB4.out.size)
    have HD6 := Lib.hid (HD4.out.later hb46)
    have HE6 := Lib.hid hrd
    clear hrd hb6 hb46 hq6 CR HV4 HS4 HB4 HD4
    have CS := Lib.hid (fun W (h : Below w6.heap.size w6 W) => same21_any _ _ _ _ _ _ D D W (HD6.out.later h) (HE6.out.later h))
    rw [show decide (D = D) = true by simp] at CS
    go_wp2_with fail
    refine (CS.out _ ((Below.refl _ _).alloc (Nat.le_refl _) _)).mono ?_
    rintro e w8 ⟨rfl, hb8⟩
    have hb68 : Below w6.heap.size w6 w8 := below_via ((Below.refl _ _).alloc (Nat.le_refl _) (.cells #[.slice sa2 D.stops.length sc2, .slice ma2 D.marks.length mc2, .slice ta2 D.sites.length tc2] 26)) hb8 (by simp)
    have HV8 := Lib.hid (Rd.later HV6.out hb68)
    have HS8 := Lib.hid (HS6.out.later hb68)
    have HB8 := Lib.hid (below_via HB6.out hb68 HB6.out.size)
    have k8 := hm.out _ HS8.out
    clear hb8 hb68 q0 q1 q2 CS HV6 HS6 HB6 HD6 HE6
    go_wp2_with fail
    refine (sameB_any _ _ l l _ (spared_rd HS8.out) HV8.out HB.out HB.out).mono ?_
    rw [HEQ.out]
    rintro e w9 ⟨rfl, rfl⟩
    go_wp2_with fail
    go_ret
    exact ⟨rfl, HB8.out⟩
end Go.Proofs.YtmidnniinjkffaaDoor
