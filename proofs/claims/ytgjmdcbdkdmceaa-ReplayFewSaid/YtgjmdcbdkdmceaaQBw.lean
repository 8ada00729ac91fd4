/- ReplayFew, the walk. -/
import Derived.Test.YtgjmdcbdkdmceaaQz34
import Derived.Test.YtgjmdcbdkdmceaaQz44
import Derived.Test.YtgjmdcbdkdmceaaQz35
import Derived.Test.YtgjmdcbdkdmceaaQz43
import Derived.Test.YtgjmdcbdkdmceaaQz42
namespace Go.Proofs.Ytgjmdcbdkdmceaa.Mach
open Go.RowKit

theorem run_field_r0 (oa : Option Addr) (n c : Nat) (a1 : Value) (W : World) : (Instr.field 49 (.agg #[.slice oa n c, a1]) 0).run Try.prog W = .ok (.slice oa n c) W := by
  simp [Instr.field, run_underlying Try.underlying49, part, asAgg, sizeOf, typeInfo]
theorem few_start {X : PX} (H : X.Ok) {d : PS} {al : Nat} (h0 : 0 < X.F) (hs : d.s = newF X.E X.m) (hS : d.S = []) (hp : (X.path al).1 = true) (hb : (al : Int) / X.every < X.most) : FewK X al ((goP X al d).2.S, (goP X al d).2.turn) := by
  have ho : overF X.F d.s = false := by
    rw [hs]
    unfold overF newF
    simp
    omega
  have he : endsF X.F al d = false := by unfold endsF; rw [ho]; rfl
  have hf : fromF X.F al d = 0 := by
    unfold fromF
    split
    · rw [hs]; rfl
    · rw [hS]; rfl
  unfold goP
  rw [if_neg (by simp [he]), hf, hS]
  show FewK X al (goK X (al - 0) 0 ([], d.turn))
  have := FewK.go H.ev.1 al 0 (FewK.none X d.turn) (by rw [Nat.zero_add]; exact hp) (by rw [Nat.zero_add]; exact hb)
  rw [Nat.zero_add] at this
  exact this

set_option maxRecDepth 100000 in
set_option maxHeartbeats 8000000 in
theorem replayFew_walk (wv : Value) (l : List W) (ev : Value) (el : List (Int × Int)) (m : Int) (dv : Value) (dl : List Int) (iv : Value) (inp : List Int) (ev8 : Int) (w : World)
    (hW : RdW w wv l) (hEv : RdE w ev el) (hD : RdB w dv dl) (hI : Rd w 1 iv inp.length (intsV inp)) (hok : ∀ x ∈ l, x.ok) (hes : ∀ x ∈ el, i64 x.1 ∧ i64 x.2) (hin : I64s inp) (hsz : inp.length * 8 ≤ 140737488355328) (he8 : 0 ≤ ev8 ∧ ev8 ≤ 255) :
    Calls Try.prog 5 #[.agg #[wv, ev, .int .i64 m, dv], iv, .int .u8 ev8] w fun e w' => e = .returned (.bool true) ∧ Below w.heap.size w w' := by
  have hwn := Rd.le hW
  have hdn := Rd.le hD
  obtain ⟨wa0, wc0, rfl⟩ := Rd.shape hW
  obtain ⟨ea0, ec0, rfl⟩ := Rd.shape hEv
  obtain ⟨da0, dc0, rfl⟩ := Rd.shape hD
  obtain ⟨ia0, ic0, rfl⟩ := Rd.shape hI
  have HW := Lib.hid (fun V (hb : Below w.heap.size w V) => Rd.later hW hb)
  have HEv := Lib.hid (fun V (hb : Below w.heap.size w V) => Rd.later hEv hb)
  have HD := Lib.hid (fun V (hb : Below w.heap.size w V) => Rd.later hD hb)
  have HI := Lib.hid (fun V (hb : Below w.heap.size w V) => Rd.later hI hb)
  have HEO : Hid (l.length ≤ 1000000 → el.length ≤ 1000000 → EnvOk ⟨l, el, inp⟩) := fun h1 h2 => ⟨hok, hes, hin, h1, h2, by show inp.length ≤ _; omega⟩
  clear hW hEv hD hI hok hes hin
  go_enter Try.func5, Try.ntmps5
  go_wp2_with fail
  obtain ⟨w1, hw1⟩ : ∃ w1, w1 = w.alloc (.cells #[.slice wa0 l.length wc0, .slice ea0 el.length ec0, .int .i64 m, .slice da0 dl.length dc0] 26) := ⟨_, rfl⟩
  rw [← hw1]
  have hb1 : Below w.heap.size w w1 := by rw [hw1]; exact (Below.refl _ _).alloc (Nat.le_refl _) _
  have hx1 : w1.heap[w.heap.size]? = some (.cells #[.slice wa0 l.length wc0, .slice ea0 el.length ec0, .int .i64 m, .slice da0 dl.length dc0] 26 (0, 0)) := by rw [hw1]; exact heap_alloc_new _ _
  refine (awake26_any _).mono ?_
  rintro e w2 ⟨rfl, hb2⟩
  have HB2 : Hid (Below w.heap.size w w2) := hb1.trans (hb2.mono hb1.size)
  have hx2 := (hb2.block _ (Array.getElem?_eq_some_iff.1 hx1).1).trans hx1
  have x0 : w2.cell? ⟨w.heap.size, 0, none⟩ = some (.slice wa0 l.length wc0) := by simp [World.cell?, hx2]
  have x1 : w2.cell? ⟨w.heap.size, 1, none⟩ = some (.slice ea0 el.length ec0) := by simp [World.cell?, hx2]
  have x2 : w2.cell? ⟨w.heap.size, 2, none⟩ = some (.int .i64 m) := by simp [World.cell?, hx2]
  have x3 : w2.cell? ⟨w.heap.size, 3, none⟩ = some (.slice da0 dl.length dc0) := by simp [World.cell?, hx2]
  have hl2 : w.heap.size < w2.heap.size := (Array.getElem?_eq_some_iff.1 hx2).1
  have HX2 := Lib.hid hx2
  clear hb1 hx1 hb2 hx2 hw1
  go_wp2_with fail
  refine (few22_any wa0 l.length wc0 _ el m da0 dl.length dc0 w2 (HEv.out _ HB2.out) hwn hdn).mono ?_
  rintro e w3 ⟨⟨fb, hfb, rfl⟩, hb3⟩
  have HB3 : Hid (Below w.heap.size w w3) := HB2.out.trans (hb3.mono HB2.out.size)
  have hx3 := (hb3.block _ hl2).trans HX2.out
  have y0 : w3.cell? ⟨w.heap.size, 0, none⟩ = some (.slice wa0 l.length wc0) := by simp [World.cell?, hx3]
  have y1 : w3.cell? ⟨w.heap.size, 1, none⟩ = some (.slice ea0 el.length ec0) := by simp [World.cell?, hx3]
  have y2 : w3.cell? ⟨w.heap.size, 2, none⟩ = some (.int .i64 m) := by simp [World.cell?, hx3]
  have y3 : w3.cell? ⟨w.heap.size, 3, none⟩ = some (.slice da0 dl.length dc0) := by simp [World.cell?, hx3]
  have hl3 : w.heap.size < w3.heap.size := (Array.getElem?_eq_some_iff.1 hx3).1
  have HX3 := Lib.hid hx3
  clear x0 x1 x2 x3 hl2 HX2 HB2 hb3 hx3
  cases fb
  · go_wp2_with fail
    go_ret
    exact ⟨rfl, HB3.out⟩
  obtain ⟨f1, f2, f3, f4⟩ := hfb rfl
  have HE := Lib.hid (HEO.out (by omega) (by omega))
  have HFE : Hid (FewE ⟨l, el, inp⟩) := Lib.hid f4
  clear hfb HEO f4
  by_cases hm : 0 ≤ m ∧ m < el.length
  rotate_left
  · go_wp2_with fail
    refine (rnew_none w3 _ _ _ _ m el (HEv.out _ HB3.out) (by omega)).mono ?_
    rintro e w4 ⟨rfl, hb4⟩
    have HB4 : Hid (Below w.heap.size w w4) := HB3.out.trans (hb4.mono HB3.out.size)
    clear hb4
    go_wp2_with fail
    go_ret
    exact ⟨rfl, HB4.out⟩
  obtain ⟨mn, rfl⟩ : ∃ n : Nat, m = n := ⟨m.toNat, by omega⟩
  go_wp2_with fail
  refine (rnew_any w3 _ _ _ _ mn ⟨l, el, inp⟩ (HW.out _ HB3.out) (HEv.out _ HB3.out) (HI.out _ HB3.out) ⟨_, _, _, rfl⟩ (by have := hm.2; show mn < el.length; omega)).mono ?_
  rintro e w4 ⟨M0, t0, V0, cl0, rfl, -, hb4, -⟩
  have HB4 : Hid (Below w.heap.size w w4) := HB3.out.trans (hb4.mono HB3.out.size)
  have hx4 := (hb4.block _ hl3).trans HX3.out
  have z0 : w4.cell? ⟨w.heap.size, 0, none⟩ = some (.slice wa0 l.length wc0) := by simp [World.cell?, hx4]
  have z1 : w4.cell? ⟨w.heap.size, 1, none⟩ = some (.slice ea0 el.length ec0) := by simp [World.cell?, hx4]
  have z2 : w4.cell? ⟨w.heap.size, 2, none⟩ = some (.int .i64 mn) := by simp [World.cell?, hx4]
  have z3 : w4.cell? ⟨w.heap.size, 3, none⟩ = some (.slice da0 dl.length dc0) := by simp [World.cell?, hx4]
  have hl4 : w.heap.size < w4.heap.size := (Array.getElem?_eq_some_iff.1 hx4).1
  have HX4 := Lib.hid hx4
  clear y0 y1 y2 y3 hl3 HX3 HB3 hb4 hx4
  go_wp2_with fail
  obtain ⟨n8, hn8⟩ : ∃ n8, n8 = ev8 % 8 := ⟨_, rfl⟩
  have hnb : 0 ≤ n8 ∧ n8 < 8 := by omega
  rw [← hn8]
  clear hn8
  have hm2 := hm.2
  obtain ⟨X, hX⟩ : ∃ X : PX, X = ⟨⟨l, el, inp⟩, mn, 400, 1 + n8, 64, []⟩ := ⟨_, rfl⟩
  have H : X.Ok := by rw [hX]; exact xok_of HE.out HFE.out (by show (mn : Int) < el.length; omega) (by decide) (by omega) (by omega) (by decide) (fun x hx => nomatch hx) hsz
  have HC := Lib.hid (And.intro (show X.E = ⟨l, el, inp⟩ by rw [hX]) (And.intro (show X.every = 1 + n8 by rw [hX]) (And.intro (show X.most = 64 by rw [hX]) (And.intro (show (X.F : Int) = 400 by rw [hX]; rfl) (And.intro (show X.m = mn by rw [hX]) (show X.cs = [] by rw [hX]))))))
  have HHH := Lib.hid H
  clear hX H
  have hlk := look_any w4 (.slice wa0 l.length wc0) (.slice ea0 el.length ec0) (.slice da0 dl.length dc0) (.slice ia0 inp.length ic0) X mn HC.out.2.2.2.2.1 HHH.out (by rw [HC.out.1]; exact HW.out _ HB4.out) (by rw [HC.out.1]; exact HEv.out _ HB4.out) (by rw [HC.out.1]; exact HI.out _ HB4.out) ⟨_, _, _, rfl⟩
  rw [HC.out.2.2.2.1] at hlk
  refine hlk.mono ?_
  rintro e wl ⟨n, v, rfl, hv, hbl, hpn, hpn1, hn⟩
  have HBl : Hid (Below w.heap.size w wl) := HB4.out.trans (hbl.mono HB4.out.size)
  obtain ⟨gv, vc, rfl, hgv, -, -, hcv⟩ := osplit hv (by omega)
  have hxl := (hbl.block _ hl4).trans HX4.out
  have hll : w.heap.size < wl.heap.size := (Array.getElem?_eq_some_iff.1 hxl).1
  have HXl := Lib.hid hxl
  have HCV := Lib.hid (And.intro hcv (And.intro hpn hpn1))
  have fr0 := run_field_r0
  clear hv hbl hpn hpn1 hlk hcv hxl z0 z1 z2 z3 hl4 HX4 HB4
  obtain ⟨c60, h60⟩ : ∃ c60 : Nat, 60 * (1 + n8) = c60 := ⟨(60 * (1 + n8)).toNat, by omega⟩
  have HC60 := Lib.hid h60
  by_cases hmn : (c60 : Int) < n
  · have hal : c60 ≤ n := by omega
    have hal60 : c60 ≤ c60 := by omega
    go_wp2_with fail
    clear h60
    obtain ⟨wm, hwm⟩ : ∃ wm, wm = wl.alloc (.cells #[.slice (some ⟨gv, 0, none⟩) (n + 1) vc, .int .i64 (X.path (n + 1)).2.steps] 49) := ⟨_, rfl⟩
    rw [← hwm]
    have hbm : Below wl.heap.size wl wm := by rw [hwm]; exact (Below.refl _ _).alloc (Nat.le_refl _) _
    have rm0 : wm.cell? ⟨wl.heap.size, 0, none⟩ = some (.slice (some ⟨gv, 0, none⟩) (n + 1) vc) := by rw [hwm]; simp
    have HBM := Lib.hid hbm
    have HCM : Hid (∀ j, j ≤ n → wm.cell? ⟨gv, j, none⟩ = some (.int .i64 (X.path j).2.steps)) := Lib.hid (fun j hj => by
      have h := HCV.out.1 j _ (intsV_at (l := lookL X n) (by rw [lookL_len]; omega))
      rw [lookL_at X hj] at h
      exact (hbm.cell (p := ⟨gv, j, none⟩) hgv).trans h)
    have hlm : wl.heap.size < wm.heap.size := by rw [hwm]; simp
    clear hwm hbm
    have HB0 : Hid (Below wm.heap.size wm wm) := Below.refl _ _
    go_loopw [10, 11] (fun f i wr => ∃ j : Nat, j ≤ c60 ∧ f = .int .i64 (farF X j) ∧ i = .int .i64 ((j : Int) + 1) ∧ Hid (Below wm.heap.size wm wr)) (fun _ i _ => c60 + 1 - (intOf i).toNat)
    case atStart => exact ⟨0, Nat.zero_le _, rfl, rfl, HB0⟩
    case round =>
      obtain ⟨wa, rfl⟩ : ∃ wa : World, wa = wr := ⟨_, rfl⟩
      obtain ⟨j, hj, rfl, rfl, HJ⟩ := hrel
      clear HB0
      have hf0 := farF_nonneg X j
      have hf1 := farF_le HHH.out j
      obtain ⟨fr, hfr⟩ : ∃ fr, fr = farF X j := ⟨_, rfl⟩
      rw [← hfr] at hf0 hf1 ⊢
      have HFR := Lib.hid hfr
      clear hfr
      have ra0 := (HJ.out.cell (p := ⟨wl.heap.size, 0, none⟩) hlm).trans rm0
      by_cases hjk : j < c60
      · have hjk' : (j : Int) + 1 ≤ (c60 : Int) := by omega
        have hs0 := HHH.out.steps j
        have hs1 := HHH.out.steps (j + 1)
        have hF := HHH.out.hF
        have hgm : gv < wm.heap.size := World.block_lt_of_cell? wm ⟨gv, j, none⟩ (HCM.out j (by omega))
        have c0 := (HJ.out.cell (p := ⟨gv, j, none⟩) hgm).trans (HCM.out j (by omega))
        have c1 := (HJ.out.cell (p := ⟨gv, j + 1, none⟩) hgm).trans (HCM.out (j + 1) (by omega))
        obtain ⟨sa, hsa⟩ : ∃ sa, sa = (X.path j).2.steps := ⟨_, rfl⟩
        obtain ⟨sb, hsb⟩ : ∃ sb, sb = (X.path (j + 1)).2.steps := ⟨_, rfl⟩
        rw [← hsa] at c0 hs0
        rw [← hsb] at c1 hs1
        have HSS : Hid (farF X (j + 1) = max fr (sb - sa)) := Lib.hid (by rw [HFR.out, hsa, hsb]; rfl)
        clear hsa hsb
        by_cases hlt : fr < sb - sa
        · have HV : Hid (farF X (j + 1) = sb - sa) := Lib.hid (by rw [HSS.out]; omega)
          go_wp2_with fail
          go_quiet (fail)
          go_wp2_with fail
          exact ⟨⟨j + 1, by omega, by rw [HV.out], by simp, below_drewN HJ.out _⟩, by simp only [intOf]; omega⟩
        · have HV : Hid (farF X (j + 1) = fr) := Lib.hid (by rw [HSS.out]; omega)
          go_wp2_with fail
          go_quiet (fail)
          go_wp2_with fail
          exact ⟨⟨j + 1, by omega, by rw [HV.out], by simp, below_drewN HJ.out _⟩, by simp only [intOf]; omega⟩
      · have hjk' : ¬ ((j : Int) + 1 ≤ (c60 : Int)) := by omega
        obtain rfl : c60 = j := by omega
        clear hjk
        have hxa := (HJ.out.block _ (Nat.lt_trans hll hlm)).trans ((HBM.out.block _ hll).trans HXl.out)
        have HBa : Hid (Below w.heap.size w wa) := HBl.out.trans ((HBM.out.trans (HJ.out.mono HBM.out.size)).mono HBl.out.size)
        have hla : w.heap.size < wa.heap.size := (Array.getElem?_eq_some_iff.1 hxa).1
        have z0 : wa.cell? ⟨w.heap.size, 0, none⟩ = some (.slice wa0 l.length wc0) := by simp [World.cell?, hxa]
        have z1 : wa.cell? ⟨w.heap.size, 1, none⟩ = some (.slice ea0 el.length ec0) := by simp [World.cell?, hxa]
        have z2 : wa.cell? ⟨w.heap.size, 2, none⟩ = some (.int .i64 mn) := by simp [World.cell?, hxa]
        have z3 : wa.cell? ⟨w.heap.size, 3, none⟩ = some (.slice da0 dl.length dc0) := by simp [World.cell?, hxa]
        have HXa := Lib.hid hxa
        clear hxa HJ rm0 ra0 HXl HBl HBM hlm hll
        go_wp2_with fail
        refine (twin22_any _ l _ el mn _ dl wa (HW.out _ HBa.out) (HEv.out _ HBa.out) (HD.out _ HBa.out) (by omega) (by omega) (by omega)).mono ?_
        rintro e w5 ⟨us5, ue5, ud5, rfl, o1, o2, o3, hb5⟩
        have HB5 : Hid (Below w.heap.size w w5) := HBa.out.trans (hb5.mono HBa.out.size)
        obtain ⟨ua5, uc5, rfl⟩ := (Rd.of_own o1).shape
        obtain ⟨va5, vc5, rfl⟩ := (Rd.of_own o2).shape
        obtain ⟨da5, dd5, rfl⟩ := (Rd.of_own o3).shape
        have HU5 := Lib.hid (And.intro (Rd.of_own o1) (And.intro (Rd.of_own o2) (Rd.of_own o3)))
        have hx5 := (hb5.block _ hla).trans HXa.out
        have y0 : w5.cell? ⟨w.heap.size, 0, none⟩ = some (.slice wa0 l.length wc0) := by simp [World.cell?, hx5]
        have y1 : w5.cell? ⟨w.heap.size, 1, none⟩ = some (.slice ea0 el.length ec0) := by simp [World.cell?, hx5]
        have y2 : w5.cell? ⟨w.heap.size, 2, none⟩ = some (.int .i64 mn) := by simp [World.cell?, hx5]
        have y3 : w5.cell? ⟨w.heap.size, 3, none⟩ = some (.slice da0 dl.length dc0) := by simp [World.cell?, hx5]
        have hl5 : w.heap.size < w5.heap.size := (Array.getElem?_eq_some_iff.1 hx5).1
        have HX5 := Lib.hid hx5
        clear z0 z1 z2 z3 o1 o2 o3 hb5 hx5 hla HXa HBa
        obtain ⟨im, mi0, mz0, mz1, mz2⟩ := info_partsV cinfoN
        have bb1 : 0 + inp.length ≤ maxLen := by unfold maxLen; omega
        have bb2 : (0 + inp.length) * 8 ≤ 140737488355328 := by omega
        go_wp2_with (at_builtin; refine wpList_append_own_rd _ rfl _ _ 27 rfl w5.heap.size 2 im (.int .i64 0) 1 8 Try.underlying27 mi0 mz0 mz1 mz2 rfl (by decide) _ 0 [] rfl (emptyN w5) _ inp.length (intsV inp) rfl (Rd.alloc (HI.out _ HB5.out) _) (intsV_one _) bb1 bb2 (by simp) ?_; intro v6 w6 hown6 hgrow6; have hb6 := ((Below.refl w5.heap.size w5).alloc (Nat.le_refl _) _).grown hgrow6 (by simp) (fun k hk => by cases hk; exact Nat.le_refl _); rw [Nat.zero_add, List.nil_append] at hown6; obtain ⟨ia6, ic6, rfl⟩ := (Rd.of_own hown6).shape; have HI6 := Lib.hid (Rd.of_own hown6); have HU6 := Lib.hid (And.intro (Rd.later HU5.out.1 hb6) (And.intro (Rd.later HU5.out.2.1 hb6) (Rd.later HU5.out.2.2 hb6))); have HB6 : Hid (Below w.heap.size w w6) := HB5.out.trans (hb6.mono HB5.out.size); have hx6 := (hb6.block _ hl5).trans HX5.out; have hl6 : w.heap.size < w6.heap.size := (Array.getElem?_eq_some_iff.1 hx6).1; have HX6 := Lib.hid hx6; clear hown6 hgrow6 hb6 hx6)
        have HN := pnew_any (.slice ua5 l.length uc5) (.slice va5 el.length vc5) (.slice da5 dl.length dd5) (.slice ia6 inp.length ic6) (.slice none 0 0) X mn dl.length (dl.map (Value.int .u8)) w6 (by rw [HC.out.1]; exact HU6.out.1) (by rw [HC.out.1]; exact HU6.out.2.1) HU6.out.2.2 (ints_oneCell .u8 _) (by rw [HC.out.1]; exact HI6.out) (by rw [HC.out.2.2.2.2.2]; exact Rd.nil _ _) HC.out.2.2.2.2.1 HHH.out (by rw [HC.out.1]; show l.length * 16 ≤ _; omega) (by rw [HC.out.1]; show el.length * 16 ≤ _; omega) (by omega)
        obtain ⟨d0, hd0⟩ : ∃ d0 : PS, d0 = ⟨newF X.E X.m, [], 0, 0⟩ := ⟨_, rfl⟩
        have hd0' : d0 = ⟨newF X.E mn, [], 0, 0⟩ := by rw [hd0, HC.out.2.2.2.2.1]
        have hK0 : POk X d0 := by rw [hd0]; exact pok_new HHH.out
        have hwk0 : d0.work = 0 := by rw [hd0]
        rw [HC.out.2.1, HC.out.2.2.1, HC.out.2.2.2.1, ← hd0'] at HN
        have hpal : (X.path c60).1 = true := X.before HCV.out.2.1 (by omega)
        have hF0 : 0 < X.F := by have := HC.out.2.2.2.1; omega
        have hdiv : ((c60 : Nat) : Int) / X.every < X.most := by
          rw [HC.out.2.1, HC.out.2.2.1]
          refine Int.ediv_lt_of_lt_mul (by omega) ?_
          have := HC60.out
          omega
        have hFK := few_start (d := d0) HHH.out hF0 (by rw [hd0]) (by rw [hd0]) hpal hdiv
        obtain ⟨hK1, hg1, hs1⟩ := hK0.go HHH.out c60
        have hw1 := goP_work (k := c60) HHH.out hK0
        rw [hwk0] at hw1
        have hwk0' : 0 ≤ d0.work ∧ d0.work ≤ 1000000000 := by rw [hwk0]; omega
        rw [hpal] at hg1
        obtain ⟨d1, hd1⟩ : ∃ d1, d1 = (goP X c60 d0).2 := ⟨_, rfl⟩
        rw [← hd1] at hK1 hs1 hw1 hFK
        have HN := Lib.hid HN
        have HD := Lib.hid (And.intro hK1 (And.intro hs1 (And.intro hw1 (And.intro hFK (And.intro hpal hg1)))))
        have HD1 := Lib.hid hd1
        have HK0 := Lib.hid (And.intro hK0 hwk0')
        clear hd0 hd0' hK0 hwk0 hpal hF0 hdiv hFK hK1 hg1 hs1 hw1 hwk0' hd1 mi0 mz0 mz1 mz2 bb1 bb2 HU6 HI6
        refine HN.out.mono ?_
        rintro e w7 ⟨P, u, rfl, hP, hb7⟩
        have HP7 := Lib.hid (And.intro hP (HB6.out.trans (hb7.mono HB6.out.size)))
        have HZ := Lib.hid HB6.out.size
        clear hP hb7 HN HB6 HX6 hl6
        go_wp2_with fail
        refine (go_any w7 u _ P X d0 c60 HP7.out.1 HHH.out HK0.out.1 HK0.out.2).mono ?_
        rintro e w8 ⟨rfl, hp⟩
        rw [Int.toNat_natCast, ← HD1.out] at hp
        rw [Int.toNat_natCast, HD.out.2.2.2.2.2]
        obtain ⟨uz8, hP8, hb8⟩ := PPost.lo HP7.out.1 hp HZ.out
        have HP8 := Lib.hid (And.intro hP8 (HP7.out.2.trans hb8))
        clear hp hP8 hb8 HP7 HD1 HK0
        go_wp2_with fail
        have hal9 : c60 ≤ 480 := by have := HC60.out; omega
        have HI0 : Hid (PAt w8 uz8 w6.heap.size P X d1 ∧ POk X d1 ∧ FewK X c60 (d1.S, d1.turn) ∧ d1.s = (X.path c60).2 ∧ (0 ≤ d1.work ∧ d1.work ≤ 2000 * ((c60 : Int) + 1 - (c60 : Int))) ∧ Below w.heap.size w w8) := ⟨HP8.out.1, HD.out.1, HD.out.2.2.2.1, HD.out.2.1, by have := HD.out.2.2.1; omega, HP8.out.2⟩
        have ht0 : 0 ≤ (1 + n8) * fr := Int.mul_nonneg (by omega) hf0
        have ht1 : (1 + n8) * fr ≤ 8 * fr := Int.mul_le_mul_of_nonneg_right (by omega) hf0
        have HT : Hid (X.every * farF X c60 = (1 + n8) * fr) := Lib.hid (by rw [HC.out.2.1, HFR.out])
        obtain ⟨tt, htt⟩ : ∃ tt, (1 + n8) * fr = tt := ⟨_, rfl⟩
        rw [htt] at ht0 ht1 HT
        clear HP8
        go_loopw [14] (fun ix wr => ∃ (c : Nat) (d : PS) (ur : Nat → Prop), c ≤ c60 ∧ ix = .int .i64 ((c : Int) - 1) ∧ Hid (PAt wr ur w6.heap.size P X d ∧ POk X d ∧ FewK X c60 (d.S, d.turn) ∧ d.s = (X.path c).2 ∧ (0 ≤ d.work ∧ d.work ≤ 2000 * ((c60 : Int) + 1 - (c : Int))) ∧ Below w.heap.size w wr)) (fun ix _ => (intOf ix + 1).toNat)
        case atStart => exact ⟨c60, d1, uz8, Nat.le_refl _, rfl, HI0⟩
        case round =>
          obtain ⟨wb, rfl⟩ : ∃ wb : World, wb = wr := ⟨_, rfl⟩
          obtain ⟨c, d, ur, hc, rfl, HJb⟩ := hrel
          clear HI0
          rcases Nat.eq_zero_or_pos c with h0 | h0
          · subst h0
            go_wp2_with fail
            go_ret
            exact ⟨rfl, HJb.out.2.2.2.2.2⟩
          · obtain ⟨kk, rfl⟩ : ∃ kk, c = kk + 1 := ⟨c - 1, by omega⟩
            have hk1 : ((kk + 1 : Nat) : Int) - 1 = (kk : Int) := by omega
            have hk0 : (0 : Int) ≤ (kk : Int) := by omega
            rw [hk1]
            obtain ⟨wk, hwk⟩ : ∃ wk, wk = d.work := ⟨_, rfl⟩
            have hback := goP_back (k := kk) HHH.out HJb.out.2.1 HJb.out.2.2.1 HJb.out.2.2.2.1 (X.before HD.out.2.2.2.2.1 hc) (by omega)
            have hfew := back_few (k := kk) HHH.out (all := c60) (by omega)
            rw [HT.out] at hfew
            have hmono := HHH.out.mono (floorN_le (X := X) kk)
            have hb1 := HHH.out.steps kk
            have hb0 := HHH.out.steps (floorN X kk)
            have hFF := HHH.out.hF
            obtain ⟨dl2, hdl⟩ : ∃ dl2, dl2 = (X.path kk).2.steps - (X.path (floorN X kk)).2.steps := ⟨_, rfl⟩
            rw [← hdl] at hback hfew
            have hdl0 : 0 ≤ dl2 ∧ dl2 ≤ 2000 := by omega
            have hwb := HJb.out.2.2.2.2.1
            rw [← hwk] at hwb
            have hgo := go_any wb ur _ P X d kk HJb.out.1 HHH.out HJb.out.2.1 (by rw [← hwk]; omega)
            rw [Int.toNat_natCast, hback] at hgo
            have hpk := (HJb.out.2.1.go HHH.out kk).1
            rw [hback] at hpk
            obtain ⟨d2, hd2⟩ : ∃ d2 : PS, d2 = { d with s := (X.path kk).2, work := d.work + dl2 } := ⟨_, rfl⟩
            have hq : d2.S = d.S ∧ d2.turn = d.turn ∧ d2.s = (X.path kk).2 ∧ d2.work = wk + dl2 := by rw [hd2, hwk]; exact ⟨rfl, rfl, rfl, rfl⟩
            rw [← hd2] at hgo hpk
            have HGO := Lib.hid hgo
            have HQ2 := Lib.hid (And.intro hpk hq)
            have HWK := Lib.hid hwk
            have hwr9 : wrap64 ((kk : Int) - 1) = (kk : Int) - 1 := by unfold wrap64; omega
            have hle : wk + dl2 - wk ≤ tt := by omega
            have hnt : ¬ (tt < wk + dl2 - wk) := by omega
            clear hback hmono hb1 hb0 hFF hdl hgo hpk hd2 hq hwk h0 hk1
            go_wp2_with fail
            refine HJb.out.1.workq.mono ?_
            rintro e wc ⟨rfl, rfl⟩
            rw [← HWK.out]
            go_wp2_with fail
            refine HGO.out.mono ?_
            rintro e wd ⟨rfl, hp⟩
            obtain ⟨ud, hPd, hbd⟩ := PPost.lo HJb.out.1 hp HZ.out
            have HPd := Lib.hid (And.intro hPd (HJb.out.2.2.2.2.2.trans hbd))
            clear hp hPd hbd HGO
            go_wp2_with fail
            refine HPd.out.1.workq.mono ?_
            rintro e we ⟨rfl, rfl⟩
            rw [HQ2.out.2.2.2.2]
            go_wp2_with fail
            go_roundw
            case rel => exact ⟨kk, d2, ud, by omega, by simp, Lib.hid ⟨HPd.out.1, HQ2.out.1, by rw [HQ2.out.2.1, HQ2.out.2.2.1]; exact HJb.out.2.2.1, HQ2.out.2.2.2.1, by rw [HQ2.out.2.2.2.2]; omega, HPd.out.2⟩⟩
            case measure => simp only [intOf]; omega
  · have hal : n ≤ n := Nat.le_refl _
    have hal60 : n ≤ c60 := by omega
    go_wp2_with fail
    clear h60
    obtain ⟨wm, hwm⟩ : ∃ wm, wm = wl.alloc (.cells #[.slice (some ⟨gv, 0, none⟩) (n + 1) vc, .int .i64 (X.path (n + 1)).2.steps] 49) := ⟨_, rfl⟩
    rw [← hwm]
    have hbm : Below wl.heap.size wl wm := by rw [hwm]; exact (Below.refl _ _).alloc (Nat.le_refl _) _
    have rm0 : wm.cell? ⟨wl.heap.size, 0, none⟩ = some (.slice (some ⟨gv, 0, none⟩) (n + 1) vc) := by rw [hwm]; simp
    have HBM := Lib.hid hbm
    have HCM : Hid (∀ j, j ≤ n → wm.cell? ⟨gv, j, none⟩ = some (.int .i64 (X.path j).2.steps)) := Lib.hid (fun j hj => by
      have h := HCV.out.1 j _ (intsV_at (l := lookL X n) (by rw [lookL_len]; omega))
      rw [lookL_at X hj] at h
      exact (hbm.cell (p := ⟨gv, j, none⟩) hgv).trans h)
    have hlm : wl.heap.size < wm.heap.size := by rw [hwm]; simp
    clear hwm hbm
    have HB0 : Hid (Below wm.heap.size wm wm) := Below.refl _ _
    go_loopw [10, 11] (fun f i wr => ∃ j : Nat, j ≤ n ∧ f = .int .i64 (farF X j) ∧ i = .int .i64 ((j : Int) + 1) ∧ Hid (Below wm.heap.size wm wr)) (fun _ i _ => n + 1 - (intOf i).toNat)
    case atStart => exact ⟨0, Nat.zero_le _, rfl, rfl, HB0⟩
    case round =>
      obtain ⟨wa, rfl⟩ : ∃ wa : World, wa = wr := ⟨_, rfl⟩
      obtain ⟨j, hj, rfl, rfl, HJ⟩ := hrel
      clear HB0
      have hf0 := farF_nonneg X j
      have hf1 := farF_le HHH.out j
      obtain ⟨fr, hfr⟩ : ∃ fr, fr = farF X j := ⟨_, rfl⟩
      rw [← hfr] at hf0 hf1 ⊢
      have HFR := Lib.hid hfr
      clear hfr
      have ra0 := (HJ.out.cell (p := ⟨wl.heap.size, 0, none⟩) hlm).trans rm0
      by_cases hjk : j < n
      · have hjk' : (j : Int) + 1 ≤ (n : Int) := by omega
        have hs0 := HHH.out.steps j
        have hs1 := HHH.out.steps (j + 1)
        have hF := HHH.out.hF
        have hgm : gv < wm.heap.size := World.block_lt_of_cell? wm ⟨gv, j, none⟩ (HCM.out j (by omega))
        have c0 := (HJ.out.cell (p := ⟨gv, j, none⟩) hgm).trans (HCM.out j (by omega))
        have c1 := (HJ.out.cell (p := ⟨gv, j + 1, none⟩) hgm).trans (HCM.out (j + 1) (by omega))
        obtain ⟨sa, hsa⟩ : ∃ sa, sa = (X.path j).2.steps := ⟨_, rfl⟩
        obtain ⟨sb, hsb⟩ : ∃ sb, sb = (X.path (j + 1)).2.steps := ⟨_, rfl⟩
        rw [← hsa] at c0 hs0
        rw [← hsb] at c1 hs1
        have HSS : Hid (farF X (j + 1) = max fr (sb - sa)) := Lib.hid (by rw [HFR.out, hsa, hsb]; rfl)
        clear hsa hsb
        by_cases hlt : fr < sb - sa
        · have HV : Hid (farF X (j + 1) = sb - sa) := Lib.hid (by rw [HSS.out]; omega)
          go_wp2_with fail
          go_quiet (fail)
          go_wp2_with fail
          exact ⟨⟨j + 1, by omega, by rw [HV.out], by simp, below_drewN HJ.out _⟩, by simp only [intOf]; omega⟩
        · have HV : Hid (farF X (j + 1) = fr) := Lib.hid (by rw [HSS.out]; omega)
          go_wp2_with fail
          go_quiet (fail)
          go_wp2_with fail
          exact ⟨⟨j + 1, by omega, by rw [HV.out], by simp, below_drewN HJ.out _⟩, by simp only [intOf]; omega⟩
      · have hjk' : ¬ ((j : Int) + 1 ≤ (n : Int)) := by omega
        obtain rfl : n = j := by omega
        clear hjk
        have hxa := (HJ.out.block _ (Nat.lt_trans hll hlm)).trans ((HBM.out.block _ hll).trans HXl.out)
        have HBa : Hid (Below w.heap.size w wa) := HBl.out.trans ((HBM.out.trans (HJ.out.mono HBM.out.size)).mono HBl.out.size)
        have hla : w.heap.size < wa.heap.size := (Array.getElem?_eq_some_iff.1 hxa).1
        have z0 : wa.cell? ⟨w.heap.size, 0, none⟩ = some (.slice wa0 l.length wc0) := by simp [World.cell?, hxa]
        have z1 : wa.cell? ⟨w.heap.size, 1, none⟩ = some (.slice ea0 el.length ec0) := by simp [World.cell?, hxa]
        have z2 : wa.cell? ⟨w.heap.size, 2, none⟩ = some (.int .i64 mn) := by simp [World.cell?, hxa]
        have z3 : wa.cell? ⟨w.heap.size, 3, none⟩ = some (.slice da0 dl.length dc0) := by simp [World.cell?, hxa]
        have HXa := Lib.hid hxa
        clear hxa HJ rm0 ra0 HXl HBl HBM hlm hll
        go_wp2_with fail
        refine (twin22_any _ l _ el mn _ dl wa (HW.out _ HBa.out) (HEv.out _ HBa.out) (HD.out _ HBa.out) (by omega) (by omega) (by omega)).mono ?_
        rintro e w5 ⟨us5, ue5, ud5, rfl, o1, o2, o3, hb5⟩
        have HB5 : Hid (Below w.heap.size w w5) := HBa.out.trans (hb5.mono HBa.out.size)
        obtain ⟨ua5, uc5, rfl⟩ := (Rd.of_own o1).shape
        obtain ⟨va5, vc5, rfl⟩ := (Rd.of_own o2).shape
        obtain ⟨da5, dd5, rfl⟩ := (Rd.of_own o3).shape
        have HU5 := Lib.hid (And.intro (Rd.of_own o1) (And.intro (Rd.of_own o2) (Rd.of_own o3)))
        have hx5 := (hb5.block _ hla).trans HXa.out
        have y0 : w5.cell? ⟨w.heap.size, 0, none⟩ = some (.slice wa0 l.length wc0) := by simp [World.cell?, hx5]
        have y1 : w5.cell? ⟨w.heap.size, 1, none⟩ = some (.slice ea0 el.length ec0) := by simp [World.cell?, hx5]
        have y2 : w5.cell? ⟨w.heap.size, 2, none⟩ = some (.int .i64 mn) := by simp [World.cell?, hx5]
        have y3 : w5.cell? ⟨w.heap.size, 3, none⟩ = some (.slice da0 dl.length dc0) := by simp [World.cell?, hx5]
        have hl5 : w.heap.size < w5.heap.size := (Array.getElem?_eq_some_iff.1 hx5).1
        have HX5 := Lib.hid hx5
        clear z0 z1 z2 z3 o1 o2 o3 hb5 hx5 hla HXa HBa
        obtain ⟨im, mi0, mz0, mz1, mz2⟩ := info_partsV cinfoN
        have bb1 : 0 + inp.length ≤ maxLen := by unfold maxLen; omega
        have bb2 : (0 + inp.length) * 8 ≤ 140737488355328 := by omega
        go_wp2_with (at_builtin; refine wpList_append_own_rd _ rfl _ _ 27 rfl w5.heap.size 2 im (.int .i64 0) 1 8 Try.underlying27 mi0 mz0 mz1 mz2 rfl (by decide) _ 0 [] rfl (emptyN w5) _ inp.length (intsV inp) rfl (Rd.alloc (HI.out _ HB5.out) _) (intsV_one _) bb1 bb2 (by simp) ?_; intro v6 w6 hown6 hgrow6; have hb6 := ((Below.refl w5.heap.size w5).alloc (Nat.le_refl _) _).grown hgrow6 (by simp) (fun k hk => by cases hk; exact Nat.le_refl _); rw [Nat.zero_add, List.nil_append] at hown6; obtain ⟨ia6, ic6, rfl⟩ := (Rd.of_own hown6).shape; have HI6 := Lib.hid (Rd.of_own hown6); have HU6 := Lib.hid (And.intro (Rd.later HU5.out.1 hb6) (And.intro (Rd.later HU5.out.2.1 hb6) (Rd.later HU5.out.2.2 hb6))); have HB6 : Hid (Below w.heap.size w w6) := HB5.out.trans (hb6.mono HB5.out.size); have hx6 := (hb6.block _ hl5).trans HX5.out; have hl6 : w.heap.size < w6.heap.size := (Array.getElem?_eq_some_iff.1 hx6).1; have HX6 := Lib.hid hx6; clear hown6 hgrow6 hb6 hx6)
        have HN := pnew_any (.slice ua5 l.length uc5) (.slice va5 el.length vc5) (.slice da5 dl.length dd5) (.slice ia6 inp.length ic6) (.slice none 0 0) X mn dl.length (dl.map (Value.int .u8)) w6 (by rw [HC.out.1]; exact HU6.out.1) (by rw [HC.out.1]; exact HU6.out.2.1) HU6.out.2.2 (ints_oneCell .u8 _) (by rw [HC.out.1]; exact HI6.out) (by rw [HC.out.2.2.2.2.2]; exact Rd.nil _ _) HC.out.2.2.2.2.1 HHH.out (by rw [HC.out.1]; show l.length * 16 ≤ _; omega) (by rw [HC.out.1]; show el.length * 16 ≤ _; omega) (by omega)
        obtain ⟨d0, hd0⟩ : ∃ d0 : PS, d0 = ⟨newF X.E X.m, [], 0, 0⟩ := ⟨_, rfl⟩
        have hd0' : d0 = ⟨newF X.E mn, [], 0, 0⟩ := by rw [hd0, HC.out.2.2.2.2.1]
        have hK0 : POk X d0 := by rw [hd0]; exact pok_new HHH.out
        have hwk0 : d0.work = 0 := by rw [hd0]
        rw [HC.out.2.1, HC.out.2.2.1, HC.out.2.2.2.1, ← hd0'] at HN
        have hpal : (X.path n).1 = true := X.before HCV.out.2.1 (by omega)
        have hF0 : 0 < X.F := by have := HC.out.2.2.2.1; omega
        have hdiv : ((n : Nat) : Int) / X.every < X.most := by
          rw [HC.out.2.1, HC.out.2.2.1]
          refine Int.ediv_lt_of_lt_mul (by omega) ?_
          have := HC60.out
          omega
        have hFK := few_start (d := d0) HHH.out hF0 (by rw [hd0]) (by rw [hd0]) hpal hdiv
        obtain ⟨hK1, hg1, hs1⟩ := hK0.go HHH.out n
        have hw1 := goP_work (k := n) HHH.out hK0
        rw [hwk0] at hw1
        have hwk0' : 0 ≤ d0.work ∧ d0.work ≤ 1000000000 := by rw [hwk0]; omega
        rw [hpal] at hg1
        obtain ⟨d1, hd1⟩ : ∃ d1, d1 = (goP X n d0).2 := ⟨_, rfl⟩
        rw [← hd1] at hK1 hs1 hw1 hFK
        have HN := Lib.hid HN
        have HD := Lib.hid (And.intro hK1 (And.intro hs1 (And.intro hw1 (And.intro hFK (And.intro hpal hg1)))))
        have HD1 := Lib.hid hd1
        have HK0 := Lib.hid (And.intro hK0 hwk0')
        clear hd0 hd0' hK0 hwk0 hpal hF0 hdiv hFK hK1 hg1 hs1 hw1 hwk0' hd1 mi0 mz0 mz1 mz2 bb1 bb2 HU6 HI6
        refine HN.out.mono ?_
        rintro e w7 ⟨P, u, rfl, hP, hb7⟩
        have HP7 := Lib.hid (And.intro hP (HB6.out.trans (hb7.mono HB6.out.size)))
        have HZ := Lib.hid HB6.out.size
        clear hP hb7 HN HB6 HX6 hl6
        go_wp2_with fail
        refine (go_any w7 u _ P X d0 n HP7.out.1 HHH.out HK0.out.1 HK0.out.2).mono ?_
        rintro e w8 ⟨rfl, hp⟩
        rw [Int.toNat_natCast, ← HD1.out] at hp
        rw [Int.toNat_natCast, HD.out.2.2.2.2.2]
        obtain ⟨uz8, hP8, hb8⟩ := PPost.lo HP7.out.1 hp HZ.out
        have HP8 := Lib.hid (And.intro hP8 (HP7.out.2.trans hb8))
        clear hp hP8 hb8 HP7 HD1 HK0
        go_wp2_with fail
        have hal9 : n ≤ 480 := by have := HC60.out; omega
        have HI0 : Hid (PAt w8 uz8 w6.heap.size P X d1 ∧ POk X d1 ∧ FewK X n (d1.S, d1.turn) ∧ d1.s = (X.path n).2 ∧ (0 ≤ d1.work ∧ d1.work ≤ 2000 * ((n : Int) + 1 - (n : Int))) ∧ Below w.heap.size w w8) := ⟨HP8.out.1, HD.out.1, HD.out.2.2.2.1, HD.out.2.1, by have := HD.out.2.2.1; omega, HP8.out.2⟩
        have ht0 : 0 ≤ (1 + n8) * fr := Int.mul_nonneg (by omega) hf0
        have ht1 : (1 + n8) * fr ≤ 8 * fr := Int.mul_le_mul_of_nonneg_right (by omega) hf0
        have HT : Hid (X.every * farF X n = (1 + n8) * fr) := Lib.hid (by rw [HC.out.2.1, HFR.out])
        obtain ⟨tt, htt⟩ : ∃ tt, (1 + n8) * fr = tt := ⟨_, rfl⟩
        rw [htt] at ht0 ht1 HT
        clear HP8
        go_loopw [14] (fun ix wr => ∃ (c : Nat) (d : PS) (ur : Nat → Prop), c ≤ n ∧ ix = .int .i64 ((c : Int) - 1) ∧ Hid (PAt wr ur w6.heap.size P X d ∧ POk X d ∧ FewK X n (d.S, d.turn) ∧ d.s = (X.path c).2 ∧ (0 ≤ d.work ∧ d.work ≤ 2000 * ((n : Int) + 1 - (c : Int))) ∧ Below w.heap.size w wr)) (fun ix _ => (intOf ix + 1).toNat)
        case atStart => exact ⟨n, d1, uz8, Nat.le_refl _, rfl, HI0⟩
        case round =>
          obtain ⟨wb, rfl⟩ : ∃ wb : World, wb = wr := ⟨_, rfl⟩
          obtain ⟨c, d, ur, hc, rfl, HJb⟩ := hrel
          clear HI0
          rcases Nat.eq_zero_or_pos c with h0 | h0
          · subst h0
            go_wp2_with fail
            go_ret
            exact ⟨rfl, HJb.out.2.2.2.2.2⟩
          · obtain ⟨kk, rfl⟩ : ∃ kk, c = kk + 1 := ⟨c - 1, by omega⟩
            have hk1 : ((kk + 1 : Nat) : Int) - 1 = (kk : Int) := by omega
            have hk0 : (0 : Int) ≤ (kk : Int) := by omega
            rw [hk1]
            obtain ⟨wk, hwk⟩ : ∃ wk, wk = d.work := ⟨_, rfl⟩
            have hback := goP_back (k := kk) HHH.out HJb.out.2.1 HJb.out.2.2.1 HJb.out.2.2.2.1 (X.before HD.out.2.2.2.2.1 hc) (by omega)
            have hfew := back_few (k := kk) HHH.out (all := n) (by omega)
            rw [HT.out] at hfew
            have hmono := HHH.out.mono (floorN_le (X := X) kk)
            have hb1 := HHH.out.steps kk
            have hb0 := HHH.out.steps (floorN X kk)
            have hFF := HHH.out.hF
            obtain ⟨dl2, hdl⟩ : ∃ dl2, dl2 = (X.path kk).2.steps - (X.path (floorN X kk)).2.steps := ⟨_, rfl⟩
            rw [← hdl] at hback hfew
            have hdl0 : 0 ≤ dl2 ∧ dl2 ≤ 2000 := by omega
            have hwb := HJb.out.2.2.2.2.1
            rw [← hwk] at hwb
            have hgo := go_any wb ur _ P X d kk HJb.out.1 HHH.out HJb.out.2.1 (by rw [← hwk]; omega)
            rw [Int.toNat_natCast, hback] at hgo
            have hpk := (HJb.out.2.1.go HHH.out kk).1
            rw [hback] at hpk
            obtain ⟨d2, hd2⟩ : ∃ d2 : PS, d2 = { d with s := (X.path kk).2, work := d.work + dl2 } := ⟨_, rfl⟩
            have hq : d2.S = d.S ∧ d2.turn = d.turn ∧ d2.s = (X.path kk).2 ∧ d2.work = wk + dl2 := by rw [hd2, hwk]; exact ⟨rfl, rfl, rfl, rfl⟩
            rw [← hd2] at hgo hpk
            have HGO := Lib.hid hgo
            have HQ2 := Lib.hid (And.intro hpk hq)
            have HWK := Lib.hid hwk
            have hwr9 : wrap64 ((kk : Int) - 1) = (kk : Int) - 1 := by unfold wrap64; omega
            have hle : wk + dl2 - wk ≤ tt := by omega
            have hnt : ¬ (tt < wk + dl2 - wk) := by omega
            clear hback hmono hb1 hb0 hFF hdl hgo hpk hd2 hq hwk h0 hk1
            go_wp2_with fail
            refine HJb.out.1.workq.mono ?_
            rintro e wc ⟨rfl, rfl⟩
            rw [← HWK.out]
            go_wp2_with fail
            refine HGO.out.mono ?_
            rintro e wd ⟨rfl, hp⟩
            obtain ⟨ud, hPd, hbd⟩ := PPost.lo HJb.out.1 hp HZ.out
            have HPd := Lib.hid (And.intro hPd (HJb.out.2.2.2.2.2.trans hbd))
            clear hp hPd hbd HGO
            go_wp2_with fail
            refine HPd.out.1.workq.mono ?_
            rintro e we ⟨rfl, rfl⟩
            rw [HQ2.out.2.2.2.2]
            go_wp2_with fail
            go_roundw
            case rel => exact ⟨kk, d2, ud, by omega, by simp, Lib.hid ⟨HPd.out.1, HQ2.out.1, by rw [HQ2.out.2.1, HQ2.out.2.2.1]; exact HJb.out.2.2.1, HQ2.out.2.2.2.1, by rw [HQ2.out.2.2.2.2]; omega, HPd.out.2⟩⟩
            case measure => simp only [intOf]; omega
end Go.Proofs.Ytgjmdcbdkdmceaa.Mach
