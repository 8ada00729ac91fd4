/- ReplayExact, the walk. -/
import Derived.Test.YtgjmdcbdkdmceaaQz34
import Derived.Test.YtgjmdcbdkdmceaaQz44
import Derived.Test.YtgjmdcbdkdmceaaQz35
import Derived.Test.YtgjmdcbdkdmceaaQz43
import Derived.Test.YtgjmdcbdkdmceaaQz42
import Derived.Test.YtgjmdcbdkdmceaaQ22
namespace Go.Proofs.Ytgjmdcbdkdmceaa.Mach
open Go.RowKit

theorem run_field_r0 (oa : Option Addr) (n c : Nat) (a1 : Value) (W : World) : (Instr.field 49 (.agg #[.slice oa n c, a1]) 0).run Try.prog W = .ok (.slice oa n c) W := by
  simp [Instr.field, run_underlying Try.underlying49, part, asAgg, sizeOf, typeInfo]
theorem look_more {X : PX} (_H : X.Ok) {n k : Nat} {b : Bool} (h1 : (X.path n).1 = true) (h2 : (X.path (n + 1)).1 = false) (hb : (X.path k).1 = b) : decide ((k : Int) < (n : Int) + 1) = b := by
  rcases Nat.lt_or_ge k (n + 1) with h | h
  · rw [X.before h1 (by omega)] at hb
    rw [← hb]
    exact decide_eq_true (by omega)
  · rw [X.stays h2 h] at hb
    rw [← hb]
    exact decide_eq_false (by omega)
theorem path_step {X : PX} (H : X.Ok) (i q : Nat) (hq : q = X.F - (X.path i).2.steps.toNat) : (markF X.E q (X.path i).2).2 = (X.path (i + 1)).2 := by
  cases hb : (X.path i).1 with
  | true =>
    rw [hq]
    have := path_next (E := X.E) (m := X.m) (F := X.F) hb
    exact (congrArg Prod.snd this).symm
  | false =>
    rw [X.stays hb (Nat.le_succ i)]
    have ho := H.notOver hb
    unfold overF at ho
    rw [Bool.or_eq_true] at ho
    rcases ho with ho | ho
    · rw [markF_stop (by simpa using ho)]
    · have h1 := of_decide_eq_true ho
      have : q = 0 := by omega
      rw [this]; rfl
theorem path_rest {X : PX} (H : X.Ok) (i q : Nat) (hq : q = X.F - (X.path i).2.steps.toNat) (hb : (X.path i).1 = false) : runF X.E q (X.path i).2 = (0, (X.path i).2) := by
  have ho := H.notOver hb
  unfold overF at ho
  rw [Bool.or_eq_true] at ho
  rcases ho with ho | ho
  · exact mrunF_stop (by simpa using ho)
  · have h1 := of_decide_eq_true ho
    have : q = 0 := by omega
    rw [this]; rfl

set_option maxRecDepth 100000 in
set_option maxHeartbeats 8000000 in
theorem replayExact_walk (wv : Value) (l : List W) (ev : Value) (el : List (Int × Int)) (m : Int) (dv : Value) (dl : List Int) (iv : Value) (inp : List Int) (ev8 mo8 : Int) (cv : Value) (cs : List Int) (pv : Value) (ps : List Int) (k : Int) (w : World)
    (hW : RdW w wv l) (hEv : RdE w ev el) (hD : RdB w dv dl) (hI : Rd w 1 iv inp.length (intsV inp)) (hok : ∀ x ∈ l, x.ok) (hes : ∀ x ∈ el, i64 x.1 ∧ i64 x.2) (hin : I64s inp) (hsz : inp.length * 8 ≤ 140737488355328) (he8 : 0 ≤ ev8 ∧ ev8 ≤ 255) (hm8 : 0 ≤ mo8 ∧ mo8 ≤ 255) (hC : Rd w 1 cv cs.length (intsV cs)) (hci : I64s cs) (hszc : cs.length * 8 ≤ 140737488355328) (hP : Rd w 1 pv ps.length (intsV ps)) (_hk : i64 k) :
    Calls Try.prog 3 #[.agg #[wv, ev, .int .i64 m, dv], iv, .int .u8 ev8, .int .u8 mo8, cv, pv, .int .i64 k] w fun e w' => e = .returned (.bool true) ∧ Below w.heap.size w w' := by
  have hwn := Rd.le hW
  have hdn := Rd.le hD
  obtain ⟨wa0, wc0, rfl⟩ := Rd.shape hW
  obtain ⟨ea0, ec0, rfl⟩ := Rd.shape hEv
  obtain ⟨da0, dc0, rfl⟩ := Rd.shape hD
  obtain ⟨ia0, ic0, rfl⟩ := Rd.shape hI
  have HW := Lib.hid (fun V (hb : Below w.heap.size w V) => Rd.later hW hb)
  have HEv := Lib.hid (fun V (hb : Below w.heap.size w V) => Rd.later hEv hb)
  have HD := Lib.hid (fun V (hb : Below w.heap.size w V) => Rd.later hD hb)
  have HI := Lib.hid (fun V (hb : Below w.heap.size w V) => Rd.later hI hb)
  have HEO : Hid (l.length ≤ 1000000 → el.length ≤ 1000000 → EnvOk ⟨l, el, inp⟩) := fun h1 h2 => ⟨hok, hes, hin, h1, h2, by show inp.length ≤ _; omega⟩
  have hpn := Rd.le hP
  obtain ⟨ca0, cc0, rfl⟩ := Rd.shape hC
  obtain ⟨pa0, pc0, rfl⟩ := Rd.shape hP
  have HCS := Lib.hid (fun V (hb : Below w.heap.size w V) => Rd.later hC hb)
  have HPS := Lib.hid (fun V (hb : Below w.heap.size w V) => Rd.later hP hb)
  clear hW hEv hD hI hok hes hin hC hP
  go_enter Try.func3, Try.ntmps3
  go_wp2_with fail
  obtain ⟨w1, hw1⟩ : ∃ w1, w1 = w.alloc (.cells #[.slice wa0 l.length wc0, .slice ea0 el.length ec0, .int .i64 m, .slice da0 dl.length dc0] 26) := ⟨_, rfl⟩
  rw [← hw1]
  have hb1 : Below w.heap.size w w1 := by rw [hw1]; exact (Below.refl _ _).alloc (Nat.le_refl _) _
  have hx1 : w1.heap[w.heap.size]? = some (.cells #[.slice wa0 l.length wc0, .slice ea0 el.length ec0, .int .i64 m, .slice da0 dl.length dc0] 26 (0, 0)) := by rw [hw1]; exact heap_alloc_new _ _
  refine (awake26_any _).mono ?_
  rintro e w2 ⟨rfl, hb2⟩
  have HB2 : Hid (Below w.heap.size w w2) := hb1.trans (hb2.mono hb1.size)
  have hx2 := (hb2.block _ (Array.getElem?_eq_some_iff.1 hx1).1).trans hx1
  have x0 : w2.cell? ⟨w.heap.size, 0, none⟩ = some (.slice wa0 l.length wc0) := by simp [World.cell?, hx2]
  have x1 : w2.cell? ⟨w.heap.size, 1, none⟩ = some (.slice ea0 el.length ec0) := by simp [World.cell?, hx2]
  have x2 : w2.cell? ⟨w.heap.size, 2, none⟩ = some (.int .i64 m) := by simp [World.cell?, hx2]
  have x3 : w2.cell? ⟨w.heap.size, 3, none⟩ = some (.slice da0 dl.length dc0) := by simp [World.cell?, hx2]
  have hl2 : w.heap.size < w2.heap.size := (Array.getElem?_eq_some_iff.1 hx2).1
  have HX2 := Lib.hid hx2
  clear hb1 hx1 hb2 hx2 hw1
  go_wp2_with fail
  refine (few22_any wa0 l.length wc0 _ el m da0 dl.length dc0 w2 (HEv.out _ HB2.out) hwn hdn).mono ?_
  rintro e w3 ⟨⟨fb, hfb, rfl⟩, hb3⟩
  have HB3 : Hid (Below w.heap.size w w3) := HB2.out.trans (hb3.mono HB2.out.size)
  have hx3 := (hb3.block _ hl2).trans HX2.out
  have y0 : w3.cell? ⟨w.heap.size, 0, none⟩ = some (.slice wa0 l.length wc0) := by simp [World.cell?, hx3]
  have y1 : w3.cell? ⟨w.heap.size, 1, none⟩ = some (.slice ea0 el.length ec0) := by simp [World.cell?, hx3]
  have y2 : w3.cell? ⟨w.heap.size, 2, none⟩ = some (.int .i64 m) := by simp [World.cell?, hx3]
  have y3 : w3.cell? ⟨w.heap.size, 3, none⟩ = some (.slice da0 dl.length dc0) := by simp [World.cell?, hx3]
  have hl3 : w.heap.size < w3.heap.size := (Array.getElem?_eq_some_iff.1 hx3).1
  have HX3 := Lib.hid hx3
  clear x0 x1 x2 x3 hl2 HX2 HB2 hb3 hx3
  cases fb
  · go_wp2_with fail
    go_ret
    exact ⟨rfl, HB3.out⟩
  obtain ⟨f1, f2, f3, f4⟩ := hfb rfl
  have HE := Lib.hid (HEO.out (by omega) (by omega))
  have HFE : Hid (FewE ⟨l, el, inp⟩) := Lib.hid f4
  clear hfb HEO f4
  by_cases hm : 0 ≤ m ∧ m < el.length
  rotate_left
  · go_wp2_with fail
    refine (rnew_none w3 _ _ _ _ m el (HEv.out _ HB3.out) (by omega)).mono ?_
    rintro e w4 ⟨rfl, hb4⟩
    have HB4 : Hid (Below w.heap.size w w4) := HB3.out.trans (hb4.mono HB3.out.size)
    clear hb4
    go_wp2_with fail
    go_ret
    exact ⟨rfl, HB4.out⟩
  obtain ⟨mn, rfl⟩ : ∃ n : Nat, m = n := ⟨m.toNat, by omega⟩
  go_wp2_with fail
  refine (rnew_any w3 _ _ _ _ mn ⟨l, el, inp⟩ (HW.out _ HB3.out) (HEv.out _ HB3.out) (HI.out _ HB3.out) ⟨_, _, _, rfl⟩ (by have := hm.2; show mn < el.length; omega)).mono ?_
  rintro e w4 ⟨M0, t0, V0, cl0, rfl, -, hb4, -⟩
  have HB4 : Hid (Below w.heap.size w w4) := HB3.out.trans (hb4.mono HB3.out.size)
  have hx4 := (hb4.block _ hl3).trans HX3.out
  have z0 : w4.cell? ⟨w.heap.size, 0, none⟩ = some (.slice wa0 l.length wc0) := by simp [World.cell?, hx4]
  have z1 : w4.cell? ⟨w.heap.size, 1, none⟩ = some (.slice ea0 el.length ec0) := by simp [World.cell?, hx4]
  have z2 : w4.cell? ⟨w.heap.size, 2, none⟩ = some (.int .i64 mn) := by simp [World.cell?, hx4]
  have z3 : w4.cell? ⟨w.heap.size, 3, none⟩ = some (.slice da0 dl.length dc0) := by simp [World.cell?, hx4]
  have hl4 : w.heap.size < w4.heap.size := (Array.getElem?_eq_some_iff.1 hx4).1
  have HX4 := Lib.hid hx4
  clear y0 y1 y2 y3 hl3 HX3 HB3 hb4 hx4
  go_wp2_with fail
  refine (twin22_any _ l _ el mn _ dl w4 (HW.out _ HB4.out) (HEv.out _ HB4.out) (HD.out _ HB4.out) (by omega) (by omega) (by omega)).mono ?_
  rintro e w5 ⟨us5, ue5, ud5, rfl, o1, o2, o3, hb5⟩
  have HB5 : Hid (Below w.heap.size w w5) := HB4.out.trans (hb5.mono HB4.out.size)
  obtain ⟨ua5, uc5, rfl⟩ := (Rd.of_own o1).shape
  obtain ⟨va5, vc5, rfl⟩ := (Rd.of_own o2).shape
  obtain ⟨da5, dd5, rfl⟩ := (Rd.of_own o3).shape
  have HU5 := Lib.hid (And.intro (Rd.of_own o1) (And.intro (Rd.of_own o2) (Rd.of_own o3)))
  have hx5 := (hb5.block _ hl4).trans HX4.out
  have y0 : w5.cell? ⟨w.heap.size, 0, none⟩ = some (.slice wa0 l.length wc0) := by simp [World.cell?, hx5]
  have y1 : w5.cell? ⟨w.heap.size, 1, none⟩ = some (.slice ea0 el.length ec0) := by simp [World.cell?, hx5]
  have y2 : w5.cell? ⟨w.heap.size, 2, none⟩ = some (.int .i64 mn) := by simp [World.cell?, hx5]
  have y3 : w5.cell? ⟨w.heap.size, 3, none⟩ = some (.slice da0 dl.length dc0) := by simp [World.cell?, hx5]
  have hl5 : w.heap.size < w5.heap.size := (Array.getElem?_eq_some_iff.1 hx5).1
  have HX5 := Lib.hid hx5
  clear z0 z1 z2 z3 o1 o2 o3 hb5 hx5 hl4 HX4 HB4
  obtain ⟨im, mi0, mz0, mz1, mz2⟩ := info_partsV cinfoN
  have bb1 : 0 + inp.length ≤ maxLen := by unfold maxLen; omega
  have bb2 : (0 + inp.length) * 8 ≤ 140737488355328 := by omega
  obtain ⟨jm, ji0, jz0, jz1, jz2⟩ := info_partsV cinfoI
  have cb1 : 0 + cs.length ≤ maxLen := by unfold maxLen; omega
  have cb2 : (0 + cs.length) * 8 ≤ 140737488355328 := by omega
  go_wp2_with (first
    | (at_builtin; refine wpList_append_own_rd _ rfl _ _ 27 rfl w5.heap.size 2 im (.int .i64 0) 1 8 Try.underlying27 mi0 mz0 mz1 mz2 rfl (by decide) _ 0 [] rfl (emptyN w5) _ inp.length (intsV inp) rfl (Rd.alloc (HI.out _ HB5.out) _) (intsV_one _) bb1 bb2 (by simp) ?_; intro v6 w6a hown6 hgrow6; have hb6 := ((Below.refl w5.heap.size w5).alloc (Nat.le_refl _) _).grown hgrow6 (by simp) (fun k hk => by cases hk; exact Nat.le_refl _); rw [Nat.zero_add, List.nil_append] at hown6; obtain ⟨ia6, ic6, rfl⟩ := (Rd.of_own hown6).shape; have HI6a := Lib.hid (Rd.of_own hown6); have HU6a := Lib.hid (And.intro (Rd.later HU5.out.1 hb6) (And.intro (Rd.later HU5.out.2.1 hb6) (Rd.later HU5.out.2.2 hb6))); have HB6a : Hid (Below w.heap.size w w6a) := HB5.out.trans (hb6.mono HB5.out.size); have hx6 := (hb6.block _ hl5).trans HX5.out; have hl6a : w.heap.size < w6a.heap.size := (Array.getElem?_eq_some_iff.1 hx6).1; have HX6a := Lib.hid hx6; clear hown6 hgrow6 hb6 hx6)
    | (at_builtin; refine wpList_append_own_rd _ rfl _ _ 28 rfl w6a.heap.size 3 jm (.int .i64 0) 1 8 Try.underlying28 ji0 jz0 jz1 jz2 rfl (by decide) _ 0 [] rfl (emptyI w6a) _ cs.length (intsV cs) rfl (Rd.alloc (HCS.out _ HB6a.out) _) (intsV_one _) cb1 cb2 (by simp) ?_; intro v6 w6 hown6 hgrow6; have hb6 := ((Below.refl w6a.heap.size w6a).alloc (Nat.le_refl _) _).grown hgrow6 (by simp) (fun k hk => by cases hk; exact Nat.le_refl _); rw [Nat.zero_add, List.nil_append] at hown6; obtain ⟨ca6, cc6, rfl⟩ := (Rd.of_own hown6).shape; have HC6 := Lib.hid (Rd.of_own hown6); have HI6 := Lib.hid (Rd.later HI6a.out hb6); have HU6 := Lib.hid (And.intro (Rd.later HU6a.out.1 hb6) (And.intro (Rd.later HU6a.out.2.1 hb6) (Rd.later HU6a.out.2.2 hb6))); have HB6 : Hid (Below w.heap.size w w6) := HB6a.out.trans (hb6.mono HB6a.out.size); have hx6 := (hb6.block _ hl6a).trans HX6a.out; have hl6 : w.heap.size < w6.heap.size := (Array.getElem?_eq_some_iff.1 hx6).1; have HX6 := Lib.hid hx6; clear hown6 hgrow6 hb6 hx6 HX6a HB6a HU6a HI6a))
  obtain ⟨n64, hn64⟩ : ∃ n64, n64 = mo8 % 64 := ⟨_, rfl⟩
  have hnb : 0 ≤ n64 ∧ n64 < 64 := by omega
  rw [← hn64]
  clear hn64 ji0 jz0 jz1 jz2 cb1 cb2
  have hm2 := hm.2
  obtain ⟨X, hX⟩ : ∃ X : PX, X = ⟨⟨l, el, inp⟩, mn, 1500, 1 + ev8, 1 + n64, cs⟩ := ⟨_, rfl⟩
  have H : X.Ok := by rw [hX]; exact xok_of HE.out HFE.out (by show (mn : Int) < el.length; omega) (by decide) (by omega) (by omega) hszc hci hsz
  have eE : X.E = ⟨l, el, inp⟩ := by rw [hX]
  have eC : X.cs = cs := by rw [hX]
  have e1 : X.every = 1 + ev8 := by rw [hX]
  have e2 : X.most = 1 + n64 := by rw [hX]
  have e3 : (X.F : Int) = 1500 := by rw [hX]; rfl
  have em : X.m = mn := by rw [hX]
  have HN := pnew_any (.slice ua5 l.length uc5) (.slice va5 el.length vc5) (.slice da5 dl.length dd5) (.slice ia6 inp.length ic6) (.slice ca6 cs.length cc6) X mn dl.length (dl.map (Value.int .u8)) w6 (by rw [eE]; exact HU6.out.1) (by rw [eE]; exact HU6.out.2.1) HU6.out.2.2 (ints_oneCell .u8 _) (by rw [eE]; exact HI6.out) (by rw [eC]; exact HC6.out) em H (by rw [eE]; show l.length * 16 ≤ _; omega) (by rw [eE]; show el.length * 16 ≤ _; omega) (by omega)
  have hK0 := pok_new H
  obtain ⟨d0, hd0⟩ : ∃ d0 : PS, d0 = ⟨newF X.E X.m, [], 0, 0⟩ := ⟨_, rfl⟩
  rw [← hd0] at hK0
  have hd0' : d0 = ⟨newF X.E mn, [], 0, 0⟩ := by rw [hd0, em]
  have hwk0 : d0.work = 0 := by rw [hd0]
  have hs0 : d0.S = [] := by rw [hd0]
  rw [e1, e2, e3, ← hd0'] at HN
  have HN := Lib.hid HN
  have HC := Lib.hid (And.intro eE (And.intro e1 (And.intro e2 (And.intro e3 (And.intro em hd0)))))
  have HWK0 := Lib.hid hwk0
  have HS0 := Lib.hid hs0
  clear hX eE eC e1 e2 e3 em hd0 hd0' hwk0 hs0 mi0 mz0 mz1 mz2 bb1 bb2 HU6 HI6
  refine HN.out.mono ?_
  rintro e w7 ⟨P, u, rfl, hP, hb7⟩
  have HP7 := Lib.hid (And.intro hP (HB6.out.trans (hb7.mono HB6.out.size)))
  have HZ := Lib.hid HB6.out.size
  have hx7 := (hb7.block _ hl6).trans HX6.out
  have hl7 : w.heap.size < w7.heap.size := (Array.getElem?_eq_some_iff.1 hx7).1
  have HX7 := Lib.hid hx7
  have HL6 := Lib.hid hl6
  clear hP hb7 hx7 HN HB6 HX6 hl6
  go_wp2_with fail
  have HI0 : Hid (PAt w7 u w6.heap.size P X d0 ∧ POk X d0 ∧ (0 ≤ d0.work ∧ d0.work ≤ 2000 * ((min 0 12 : Nat) : Int)) ∧ Below w6.heap.size w7 w7) := ⟨HP7.out.1, hK0, by rw [HWK0.out]; simp, Below.refl _ _⟩
  have HB7 := Lib.hid HP7.out.2
  have HHH := Lib.hid H
  have hkr : -300 < k.tmod 300 ∧ k.tmod 300 < 300 := by
    have h1 := Int.tmod_lt_of_pos k (show (0 : Int) < 300 by omega)
    have h2 := Int.lt_tmod_of_pos k (show (0 : Int) < 300 by omega)
    omega
  clear HP7 hK0 HWK0 HS0
  go_loopw [58] (fun n wr => ∃ (j : Nat) (d : PS) (ur : Nat → Prop), j ≤ ps.length ∧ n = .int .i64 j ∧ Hid (PAt wr ur w6.heap.size P X d ∧ POk X d ∧ (0 ≤ d.work ∧ d.work ≤ 2000 * ((min j 12 : Nat) : Int)) ∧ Below w6.heap.size w7 wr)) (fun n _ => ps.length - (intOf n).toNat)
  case atStart => exact ⟨0, d0, u, Nat.zero_le _, rfl, HI0⟩
  case round =>
    obtain ⟨wa, rfl⟩ : ∃ wa : World, wa = wr := ⟨_, rfl⟩
    obtain ⟨j, d, ur, hj, rfl, HJ⟩ := hrel
    clear HI0
    by_cases hjk : j < ps.length
    · have hjk' : (j : Int) < (ps.length : Int) := by omega
      have hba : Below w.heap.size w wa := HB7.out.trans (HJ.out.2.2.2.mono HZ.out)
      rcases Rd.split (HPS.out _ hba) (by omega) with ⟨_, _, _, h2, _⟩ | ⟨bp, op, cp, hv, -, -, -, hlp, hc⟩
      · omega
      simp only [Value.slice.injEq, true_and] at hv
      obtain ⟨rfl, rfl⟩ := hv
      obtain ⟨x, hx⟩ : ∃ x, x = ps.getD j 0 := ⟨_, rfl⟩
      have cx : wa.cell? ⟨bp, op + j, none⟩ = some (.int .i64 x) := by
        obtain ⟨hj1, hj2⟩ := List.getElem?_eq_some_iff.1 (intsV_at hjk)
        rw [hx, ← hj2]
        exact hc j hj1
      have HGO := Lib.hid (fun kI => go_any wa ur _ P X d kI HJ.out.1 HHH.out HJ.out.2.1 (by have := HJ.out.2.2.1; omega))
      have hj9 : j ≤ 9223372036854775806 := by omega
      clear hx hc hba
      by_cases h12 : j < 12
      · have h12' : (j : Int) < 12 := by omega
        go_wp2_with fail
        refine (HGO.out _).mono ?_
        rintro e wb ⟨rfl, hp⟩
        obtain ⟨ub, hPb, hbb⟩ := PPost.lo HJ.out.1 hp (Nat.le_refl _)
        have hKb := (HJ.out.2.1.go HHH.out (x.tmod 300).toNat).1
        have hwb := goP_work (k := (x.tmod 300).toNat) HHH.out HJ.out.2.1
        have HJb : Hid (PAt wb ub w6.heap.size P X (goP X (x.tmod 300).toNat d).2 ∧ POk X (goP X (x.tmod 300).toNat d).2 ∧ (0 ≤ (goP X (x.tmod 300).toNat d).2.work ∧ (goP X (x.tmod 300).toNat d).2.work ≤ 2000 * ((min (j + 1) 12 : Nat) : Int)) ∧ Below w6.heap.size w7 wb) := ⟨hPb, hKb, by have := HJ.out.2.2.1; omega, HJ.out.2.2.2.trans hbb⟩
        clear hp hPb hbb hKb hwb HGO cx
        go_wp2_with fail
        go_roundw
        case rel => exact ⟨j + 1, _, ub, by omega, by simp, HJb⟩
        case measure => simp [intOf]; omega
      · have h12' : ¬ ((j : Int) < 12) := by omega
        have HJb : Hid (PAt wa ur w6.heap.size P X d ∧ POk X d ∧ (0 ≤ d.work ∧ d.work ≤ 2000 * ((min (j + 1) 12 : Nat) : Int)) ∧ Below w6.heap.size w7 wa) := ⟨HJ.out.1, HJ.out.2.1, by have := HJ.out.2.2.1; omega, HJ.out.2.2.2⟩
        clear HGO
        go_wp2_with fail
        go_roundw
        case rel => exact ⟨j + 1, _, ur, by omega, by simp, HJb⟩
        case measure => simp [intOf]; omega
    · have hjk' : ¬ ((j : Int) < (ps.length : Int)) := by omega
      clear hjk
      go_wp2_with fail
      obtain ⟨r, hr⟩ : ∃ r, r = k.tmod 300 := ⟨_, rfl⟩
      rw [← hr] at hkr ⊢
      refine (go_any wa ur _ P X d r HJ.out.1 HHH.out HJ.out.2.1 (by have := HJ.out.2.2.1; omega)).mono ?_
      rintro e w8 ⟨rfl, hp⟩
      obtain ⟨uz8, hP8, hb8⟩ := PPost.lo HJ.out.1 hp (Nat.le_refl _)
      obtain ⟨-, hg1, hg2⟩ := HJ.out.2.1.go HHH.out r.toNat
      obtain ⟨dE, hdE⟩ : ∃ dE, dE = (goP X r.toNat d).2 := ⟨_, rfl⟩
      rw [← hdE] at hP8 hg2
      rw [hg1]
      obtain ⟨b, hbb⟩ : ∃ b, b = (X.path r.toNat).1 := ⟨_, rfl⟩
      rw [← hbb]
      have hB78 : Below w6.heap.size w7 w8 := HJ.out.2.2.2.trans hb8
      have HB8 : Hid (Below w.heap.size w w8) := HB7.out.trans (hB78.mono HZ.out)
      have hx8 := (hB78.block _ HL6.out).trans HX7.out
      have HP8 := Lib.hid (And.intro hP8 (And.intro hbb hg2))
      have hl8 : w.heap.size < w8.heap.size := (Array.getElem?_eq_some_iff.1 hx8).1
      have x0 : w8.cell? ⟨w.heap.size, 0, none⟩ = some (.slice wa0 l.length wc0) := by simp [World.cell?, hx8]
      have x1 : w8.cell? ⟨w.heap.size, 1, none⟩ = some (.slice ea0 el.length ec0) := by simp [World.cell?, hx8]
      have x2 : w8.cell? ⟨w.heap.size, 2, none⟩ = some (.int .i64 mn) := by simp [World.cell?, hx8]
      have x3 : w8.cell? ⟨w.heap.size, 3, none⟩ = some (.slice da0 dl.length dc0) := by simp [World.cell?, hx8]
      have HX8 := Lib.hid hx8
      clear hr hp hP8 hb8 hg1 hg2 hdE hbb hB78 hx8 HJ HX7 HB7 hj hl7
      go_wp2_with fail
      refine (twin22_any _ l _ el mn _ dl w8 (HW.out _ HB8.out) (HEv.out _ HB8.out) (HD.out _ HB8.out) (by omega) (by omega) (by omega)).mono ?_
      rintro e w9 ⟨us9, ue9, ud9, rfl, o1, o2, o3, hb9⟩
      have HB9 : Hid (Below w.heap.size w w9) := HB8.out.trans (hb9.mono HB8.out.size)
      obtain ⟨ua9, uc9, rfl⟩ := (Rd.of_own o1).shape
      obtain ⟨va9, vc9, rfl⟩ := (Rd.of_own o2).shape
      obtain ⟨da9, dd9, rfl⟩ := (Rd.of_own o3).shape
      have HU9 := Lib.hid (And.intro (Rd.of_own o1) (And.intro (Rd.of_own o2) (Rd.of_own o3)))
      have hx9 := (hb9.block _ hl8).trans HX8.out
      have hl9 : w.heap.size < w9.heap.size := (Array.getElem?_eq_some_iff.1 hx9).1
      have HX9 := Lib.hid hx9
      have HP9 := Lib.hid (And.intro (HP8.out.1.below hb9) HP8.out.2)
      clear x0 x1 x2 x3 o1 o2 o3 hb9 hx9 hl8 HX8 HB8 HP8
      obtain ⟨im, mi0, mz0, mz1, mz2⟩ := info_partsV cinfoN
      have bb1 : 0 + inp.length ≤ maxLen := by unfold maxLen; omega
      have bb2 : (0 + inp.length) * 8 ≤ 140737488355328 := by omega
      go_wp2_with (at_builtin; refine wpList_append_own_rd _ rfl _ _ 27 rfl w9.heap.size 2 im (.int .i64 0) 1 8 Try.underlying27 mi0 mz0 mz1 mz2 rfl (by decide) _ 0 [] rfl (emptyN w9) _ inp.length (intsV inp) rfl (Rd.alloc (HI.out _ HB9.out) _) (intsV_one _) bb1 bb2 (by simp) ?_; intro v10 w10 hown10 hgrow10; have hb10 := ((Below.refl w9.heap.size w9).alloc (Nat.le_refl _) _).grown hgrow10 (by simp) (fun k hk => by cases hk; exact Nat.le_refl _); rw [Nat.zero_add, List.nil_append] at hown10; obtain ⟨ia10, ic10, rfl⟩ := (Rd.of_own hown10).shape; have HI10 := Lib.hid (Rd.of_own hown10); have HU10 := Lib.hid (And.intro (Rd.later HU9.out.1 hb10) (And.intro (Rd.later HU9.out.2.1 hb10) (Rd.later HU9.out.2.2 hb10))); have HB10 : Hid (Below w.heap.size w w10) := HB9.out.trans (hb10.mono HB9.out.size); have hx10 := (hb10.block _ hl9).trans HX9.out; have hl10 : w.heap.size < w10.heap.size := (Array.getElem?_eq_some_iff.1 hx10).1; have HX10 := Lib.hid hx10; have HP10 := Lib.hid (And.intro (HP9.out.1.below hb10) HP9.out.2); clear hown10 hgrow10 hb10 hx10)
      refine (mnew_any _ _ _ _ ⟨l, el, inp⟩ mn dl.length (dl.map (Value.int .u8)) w10 HU10.out.1 HU10.out.2.1 HU10.out.2.2 (ints_oneCell .u8 _) HI10.out (by have := hm.2; show mn < el.length; omega) (by show l.length * 16 ≤ _; omega) (by show el.length * 16 ≤ _; omega) (by omega) hsz).mono ?_
      rintro e w11 hN
      obtain ⟨M, tM, VM, cM, rfl, RM, hb11, tl11, -⟩ := hN
      have hB11 : Below w.heap.size w w11 := HB10.out.trans (hb11.mono HB10.out.size)
      have hM11 : MAt w11 tM M X.E 3000 (X.path 0).2 := by
        obtain ⟨eE, -, -, -, em, -⟩ := HC.out
        have e0 : (X.path 0).2 = newF X.E X.m := rfl
        rw [e0, em, eE]
        exact ⟨_, _, _, RM, (newF_good HE.out hm).more (by omega)⟩
      have HB11 := Lib.hid hb11
      have HM11 := Lib.hid (And.intro hM11 (And.intro tl11 (Below.refl w11.heap.size w11)))
      clear RM hM11 tl11 hb11 hB11 mi0 mz0 mz1 mz2 bb1 bb2 HU9 HU10 HI10 HX9 HP9 HB9 hl9
      by_cases hneg : r < 0
      · have hr0 : r.toNat = 0 := by omega
        rw [hr0] at HP10
        go_wp2_with fail
        have HI0 : Hid (MAt w11 tM M X.E 3000 (X.path 0).2 ∧ (∀ k, k < w10.heap.size → tM k = 0) ∧ Below w10.heap.size w10 w11) := ⟨HM11.out.1, HM11.out.2.1, HB11.out⟩
        clear HM11 HB11
        go_loopw [88] (fun n wr => ∃ (i : Nat) (tr : Nat → Nat), i ≤ 0 ∧ n = .int .i64 i ∧ Hid (MAt wr tr M X.E 3000 (X.path i).2 ∧ (∀ k, k < w10.heap.size → tr k = 0) ∧ Below w10.heap.size w10 wr)) (fun n _ => 0 - (intOf n).toNat)
        case atStart => exact ⟨0, tM, Nat.zero_le _, rfl, HI0⟩
        case round =>
          obtain ⟨wb, rfl⟩ : ∃ wb : World, wb = wr := ⟨_, rfl⟩
          obtain ⟨i, tr, hi, rfl, HJ⟩ := hrel
          clear HI0
          have hss := HHH.out.steps i
          have hFF := HHH.out.hF
          have e3 := HC.out.2.2.2.1
          obtain ⟨sN, hsN⟩ : ∃ sN : Nat, (X.path i).2.steps = sN := ⟨(X.path i).2.steps.toNat, by omega⟩
          have hsN2 : sN ≤ 1500 := by omega
          obtain ⟨q, hq⟩ : ∃ q : Nat, (1500 : Int) - (sN : Int) = q := ⟨1500 - sN, by omega⟩
          have hqe : q = X.F - (X.path i).2.steps.toNat := by omega
          have HQE := Lib.hid (And.intro hqe hsN)
          have f4 := run_field_s4
          clear hss hFF e3 hsN hqe
          by_cases hik : i < 0
          · have hik' : (i : Int) < (0 : Int) := by omega
            go_wp2_with fail
            refine (HJ.out.1.status (by omega)).mono ?_
            rintro e wc ⟨sv, rfl, hsv, hbc⟩
            obtain ⟨sa, sc, rfl⟩ := (Rd.of_own hsv).shape
            have HJc : Hid (MAt wc tr M X.E 3000 (X.path i).2 ∧ (∀ k, k < w10.heap.size → tr k = 0) ∧ Below w10.heap.size w10 wc) := ⟨HJ.out.1.below hbc, HJ.out.2.1, HJ.out.2.2.trans (hbc.mono HJ.out.2.2.size)⟩
            rw [HQE.out.2]
            clear hsv hbc HJ
            go_wp2_with fail
            refine (HJc.out.1.toMark HHH.out.hE q (by omega)).mono ?_
            rintro e wd ⟨rfl, td, hMd, hFd⟩
            rw [path_step HHH.out i q HQE.out.1] at hMd
            have HJd : Hid (MAt wd td M X.E 3000 (X.path (i + 1)).2 ∧ (∀ k, k < w10.heap.size → td k = 0) ∧ Below w10.heap.size w10 wd) := ⟨hMd.sane (HHH.out.sane (i + 1)), hFd.low HJc.out.2.2.size HJc.out.2.1, Below.ran HJc.out.2.2 hFd HJc.out.2.2.size (fun k hk => by rw [HJc.out.2.1 k hk]; omega)⟩
            clear hMd hFd HJc
            go_wp2_with fail
            go_roundw
            case rel => exact ⟨i + 1, td, by omega, by simp, HJd⟩
            case measure => simp [intOf]; omega
          · have hik' : ¬ ((i : Int) < (0 : Int)) := by omega
            obtain rfl : 0 = i := by omega
            clear hik
            cases b
            · exact Bool.noConfusion (show false = true from HP10.out.2.1)
            · skip
              go_wp2_with fail
              refine ((HP10.out.1.below HJ.out.2.2).save HHH.out).mono ?_
              rintro e w30 ⟨p1, rfl, hb30, o30⟩
              rw [HP10.out.2.2] at o30
              have HM30 := Lib.hid (And.intro (HJ.out.1.below hb30) (HJ.out.2.2.trans (hb30.mono HJ.out.2.2.size)))
              have HO30 := Lib.hid o30
              obtain ⟨pa1, pc1, rfl⟩ := (Rd.of_own o30).shape
              clear hb30 o30 HJ
              go_wp2_with fail
              refine (HM30.out.1.save HHH.out.hE (by omega)).mono ?_
              rintro e w31 ⟨p2, rfl, hb31, o31⟩
              have HR31 := Lib.hid (And.intro (Rd.of_own (obelow HO30.out hb31)) (And.intro (Rd.of_own o31) (HM30.out.2.trans (hb31.mono HM30.out.2.size))))
              obtain ⟨pa2, pc2, rfl⟩ := (Rd.of_own o31).shape
              clear hb31 o31 HO30 HM30
              go_wp2_with fail
              refine (msame_any _ _ _ _ w31 HR31.out.1 HR31.out.2.1 (isB_save _) (isB_save _)).mono ?_
              rintro e w32 ⟨rfl, rfl⟩
              rw [show eqL (saveB (X.path 0).2) (saveB (X.path 0).2) = true from by simp [eqL]]
              have hx32 := (HR31.out.2.2.block _ hl10).trans HX10.out
              have y0 : w31.cell? ⟨w.heap.size, 0, none⟩ = some (.slice wa0 l.length wc0) := by simp [World.cell?, hx32]
              have y1 : w31.cell? ⟨w.heap.size, 1, none⟩ = some (.slice ea0 el.length ec0) := by simp [World.cell?, hx32]
              have y2 : w31.cell? ⟨w.heap.size, 2, none⟩ = some (.int .i64 mn) := by simp [World.cell?, hx32]
              have y3 : w31.cell? ⟨w.heap.size, 3, none⟩ = some (.slice da0 dl.length dc0) := by simp [World.cell?, hx32]
              have HB32 : Hid (Below w.heap.size w w31) := HB10.out.trans (HR31.out.2.2.mono HB10.out.size)
              clear hx32
              go_wp2_with fail
              have hlk := look_any w31 (.slice wa0 l.length wc0) (.slice ea0 el.length ec0) (.slice da0 dl.length dc0) (.slice ia0 inp.length ic0) X mn HC.out.2.2.2.2.1 HHH.out (by rw [HC.out.1]; exact HW.out _ HB32.out) (by rw [HC.out.1]; exact HEv.out _ HB32.out) (by rw [HC.out.1]; exact HI.out _ HB32.out) ⟨_, _, _, rfl⟩
              rw [HC.out.2.2.2.1] at hlk
              refine hlk.mono ?_
              rintro e w33 ⟨n, v, rfl, hv, hb33, hpn, hpn1, hn⟩
              obtain ⟨va, vc, rfl⟩ := (Rd.of_own hv).shape
              have HB33 : Hid (Below w.heap.size w w33) := HB32.out.trans (hb33.mono HB32.out.size)
              have hcmp : decide ((0 : Int) < (n : Int) + 1) = true := look_more HHH.out hpn hpn1 HP10.out.2.1.symm
              have HCMP := Lib.hid hcmp
              have fr0 := run_field_r0
              clear hv hb33 hpn hpn1 hlk y0 y1 y2 y3 hcmp
              go_wp2_with fail
              go_ret
              refine ⟨?_, HB33.out⟩
              go_light
              exact ret_bool rfl
      · obtain ⟨kn, rfl⟩ : ∃ kn : Nat, r = kn := ⟨r.toNat, by omega⟩
        rw [Int.toNat_natCast] at HP10
        go_wp2_with fail
        have HI0 : Hid (MAt w11 tM M X.E 3000 (X.path 0).2 ∧ (∀ k, k < w10.heap.size → tM k = 0) ∧ Below w10.heap.size w10 w11) := ⟨HM11.out.1, HM11.out.2.1, HB11.out⟩
        clear HM11 HB11
        go_loopw [88] (fun n wr => ∃ (i : Nat) (tr : Nat → Nat), i ≤ kn ∧ n = .int .i64 i ∧ Hid (MAt wr tr M X.E 3000 (X.path i).2 ∧ (∀ k, k < w10.heap.size → tr k = 0) ∧ Below w10.heap.size w10 wr)) (fun n _ => kn - (intOf n).toNat)
        case atStart => exact ⟨0, tM, Nat.zero_le _, rfl, HI0⟩
        case round =>
          obtain ⟨wb, rfl⟩ : ∃ wb : World, wb = wr := ⟨_, rfl⟩
          obtain ⟨i, tr, hi, rfl, HJ⟩ := hrel
          clear HI0
          have hss := HHH.out.steps i
          have hFF := HHH.out.hF
          have e3 := HC.out.2.2.2.1
          obtain ⟨sN, hsN⟩ : ∃ sN : Nat, (X.path i).2.steps = sN := ⟨(X.path i).2.steps.toNat, by omega⟩
          have hsN2 : sN ≤ 1500 := by omega
          obtain ⟨q, hq⟩ : ∃ q : Nat, (1500 : Int) - (sN : Int) = q := ⟨1500 - sN, by omega⟩
          have hqe : q = X.F - (X.path i).2.steps.toNat := by omega
          have HQE := Lib.hid (And.intro hqe hsN)
          have f4 := run_field_s4
          clear hss hFF e3 hsN hqe
          by_cases hik : i < kn
          · have hik' : (i : Int) < (kn : Int) := by omega
            go_wp2_with fail
            refine (HJ.out.1.status (by omega)).mono ?_
            rintro e wc ⟨sv, rfl, hsv, hbc⟩
            obtain ⟨sa, sc, rfl⟩ := (Rd.of_own hsv).shape
            have HJc : Hid (MAt wc tr M X.E 3000 (X.path i).2 ∧ (∀ k, k < w10.heap.size → tr k = 0) ∧ Below w10.heap.size w10 wc) := ⟨HJ.out.1.below hbc, HJ.out.2.1, HJ.out.2.2.trans (hbc.mono HJ.out.2.2.size)⟩
            rw [HQE.out.2]
            clear hsv hbc HJ
            go_wp2_with fail
            refine (HJc.out.1.toMark HHH.out.hE q (by omega)).mono ?_
            rintro e wd ⟨rfl, td, hMd, hFd⟩
            rw [path_step HHH.out i q HQE.out.1] at hMd
            have HJd : Hid (MAt wd td M X.E 3000 (X.path (i + 1)).2 ∧ (∀ k, k < w10.heap.size → td k = 0) ∧ Below w10.heap.size w10 wd) := ⟨hMd.sane (HHH.out.sane (i + 1)), hFd.low HJc.out.2.2.size HJc.out.2.1, Below.ran HJc.out.2.2 hFd HJc.out.2.2.size (fun k hk => by rw [HJc.out.2.1 k hk]; omega)⟩
            clear hMd hFd HJc
            go_wp2_with fail
            go_roundw
            case rel => exact ⟨i + 1, td, by omega, by simp, HJd⟩
            case measure => simp [intOf]; omega
          · have hik' : ¬ ((i : Int) < (kn : Int)) := by omega
            obtain rfl : kn = i := by omega
            clear hik
            cases b
            · go_wp2_with fail
              refine (HJ.out.1.status (by omega)).mono ?_
              rintro e wc ⟨sv, rfl, hsv, hbc⟩
              obtain ⟨sa, sc, rfl⟩ := (Rd.of_own hsv).shape
              have HJc : Hid (MAt wc tr M X.E 3000 (X.path kn).2 ∧ (∀ k, k < w10.heap.size → tr k = 0) ∧ Below w10.heap.size w10 wc) := ⟨HJ.out.1.below hbc, HJ.out.2.1, HJ.out.2.2.trans (hbc.mono HJ.out.2.2.size)⟩
              rw [HQE.out.2]
              clear hsv hbc HJ
              go_wp2_with fail
              have hrun := HJc.out.1.run HHH.out.hE q (by omega)
              rw [path_rest HHH.out kn q HQE.out.1 HP10.out.2.1.symm] at hrun
              refine hrun.mono ?_
              rintro e wd ⟨rfl, td, hMd, hFd⟩
              have HJd : Hid (MAt wd td M X.E 3000 (X.path kn).2 ∧ (∀ k, k < w10.heap.size → td k = 0) ∧ Below w10.heap.size w10 wd) := ⟨hMd.sane (HHH.out.sane kn), hFd.low HJc.out.2.2.size HJc.out.2.1, Below.ran HJc.out.2.2 hFd HJc.out.2.2.size (fun k hk => by rw [HJc.out.2.1 k hk]; omega)⟩
              clear hMd hFd HJc hrun
              go_wp2_with fail
              refine ((HP10.out.1.below HJd.out.2.2).save HHH.out).mono ?_
              rintro e w30 ⟨p1, rfl, hb30, o30⟩
              rw [HP10.out.2.2] at o30
              have HM30 := Lib.hid (And.intro (HJd.out.1.below hb30) (HJd.out.2.2.trans (hb30.mono HJd.out.2.2.size)))
              have HO30 := Lib.hid o30
              obtain ⟨pa1, pc1, rfl⟩ := (Rd.of_own o30).shape
              clear hb30 o30 HJd
              go_wp2_with fail
              refine (HM30.out.1.save HHH.out.hE (by omega)).mono ?_
              rintro e w31 ⟨p2, rfl, hb31, o31⟩
              have HR31 := Lib.hid (And.intro (Rd.of_own (obelow HO30.out hb31)) (And.intro (Rd.of_own o31) (HM30.out.2.trans (hb31.mono HM30.out.2.size))))
              obtain ⟨pa2, pc2, rfl⟩ := (Rd.of_own o31).shape
              clear hb31 o31 HO30 HM30
              go_wp2_with fail
              refine (msame_any _ _ _ _ w31 HR31.out.1 HR31.out.2.1 (isB_save _) (isB_save _)).mono ?_
              rintro e w32 ⟨rfl, rfl⟩
              rw [show eqL (saveB (X.path kn).2) (saveB (X.path kn).2) = true from by simp [eqL]]
              have hx32 := (HR31.out.2.2.block _ hl10).trans HX10.out
              have y0 : w31.cell? ⟨w.heap.size, 0, none⟩ = some (.slice wa0 l.length wc0) := by simp [World.cell?, hx32]
              have y1 : w31.cell? ⟨w.heap.size, 1, none⟩ = some (.slice ea0 el.length ec0) := by simp [World.cell?, hx32]
              have y2 : w31.cell? ⟨w.heap.size, 2, none⟩ = some (.int .i64 mn) := by simp [World.cell?, hx32]
              have y3 : w31.cell? ⟨w.heap.size, 3, none⟩ = some (.slice da0 dl.length dc0) := by simp [World.cell?, hx32]
              have HB32 : Hid (Below w.heap.size w w31) := HB10.out.trans (HR31.out.2.2.mono HB10.out.size)
              clear hx32
              go_wp2_with fail
              have hlk := look_any w31 (.slice wa0 l.length wc0) (.slice ea0 el.length ec0) (.slice da0 dl.length dc0) (.slice ia0 inp.length ic0) X mn HC.out.2.2.2.2.1 HHH.out (by rw [HC.out.1]; exact HW.out _ HB32.out) (by rw [HC.out.1]; exact HEv.out _ HB32.out) (by rw [HC.out.1]; exact HI.out _ HB32.out) ⟨_, _, _, rfl⟩
              rw [HC.out.2.2.2.1] at hlk
              refine hlk.mono ?_
              rintro e w33 ⟨n, v, rfl, hv, hb33, hpn, hpn1, hn⟩
              obtain ⟨va, vc, rfl⟩ := (Rd.of_own hv).shape
              have HB33 : Hid (Below w.heap.size w w33) := HB32.out.trans (hb33.mono HB32.out.size)
              have hcmp : decide ((kn : Int) < (n : Int) + 1) = false := look_more HHH.out hpn hpn1 HP10.out.2.1.symm
              have HCMP := Lib.hid hcmp
              have fr0 := run_field_r0
              clear hv hb33 hpn hpn1 hlk y0 y1 y2 y3 hcmp
              go_wp2_with fail
              go_ret
              refine ⟨?_, HB33.out⟩
              go_light
              exact ret_bool (by rw [HCMP.out]; rfl)
            · skip
              go_wp2_with fail
              refine ((HP10.out.1.below HJ.out.2.2).save HHH.out).mono ?_
              rintro e w30 ⟨p1, rfl, hb30, o30⟩
              rw [HP10.out.2.2] at o30
              have HM30 := Lib.hid (And.intro (HJ.out.1.below hb30) (HJ.out.2.2.trans (hb30.mono HJ.out.2.2.size)))
              have HO30 := Lib.hid o30
              obtain ⟨pa1, pc1, rfl⟩ := (Rd.of_own o30).shape
              clear hb30 o30 HJ
              go_wp2_with fail
              refine (HM30.out.1.save HHH.out.hE (by omega)).mono ?_
              rintro e w31 ⟨p2, rfl, hb31, o31⟩
              have HR31 := Lib.hid (And.intro (Rd.of_own (obelow HO30.out hb31)) (And.intro (Rd.of_own o31) (HM30.out.2.trans (hb31.mono HM30.out.2.size))))
              obtain ⟨pa2, pc2, rfl⟩ := (Rd.of_own o31).shape
              clear hb31 o31 HO30 HM30
              go_wp2_with fail
              refine (msame_any _ _ _ _ w31 HR31.out.1 HR31.out.2.1 (isB_save _) (isB_save _)).mono ?_
              rintro e w32 ⟨rfl, rfl⟩
              rw [show eqL (saveB (X.path kn).2) (saveB (X.path kn).2) = true from by simp [eqL]]
              have hx32 := (HR31.out.2.2.block _ hl10).trans HX10.out
              have y0 : w31.cell? ⟨w.heap.size, 0, none⟩ = some (.slice wa0 l.length wc0) := by simp [World.cell?, hx32]
              have y1 : w31.cell? ⟨w.heap.size, 1, none⟩ = some (.slice ea0 el.length ec0) := by simp [World.cell?, hx32]
              have y2 : w31.cell? ⟨w.heap.size, 2, none⟩ = some (.int .i64 mn) := by simp [World.cell?, hx32]
              have y3 : w31.cell? ⟨w.heap.size, 3, none⟩ = some (.slice da0 dl.length dc0) := by simp [World.cell?, hx32]
              have HB32 : Hid (Below w.heap.size w w31) := HB10.out.trans (HR31.out.2.2.mono HB10.out.size)
              clear hx32
              go_wp2_with fail
              have hlk := look_any w31 (.slice wa0 l.length wc0) (.slice ea0 el.length ec0) (.slice da0 dl.length dc0) (.slice ia0 inp.length ic0) X mn HC.out.2.2.2.2.1 HHH.out (by rw [HC.out.1]; exact HW.out _ HB32.out) (by rw [HC.out.1]; exact HEv.out _ HB32.out) (by rw [HC.out.1]; exact HI.out _ HB32.out) ⟨_, _, _, rfl⟩
              rw [HC.out.2.2.2.1] at hlk
              refine hlk.mono ?_
              rintro e w33 ⟨n, v, rfl, hv, hb33, hpn, hpn1, hn⟩
              obtain ⟨va, vc, rfl⟩ := (Rd.of_own hv).shape
              have HB33 : Hid (Below w.heap.size w w33) := HB32.out.trans (hb33.mono HB32.out.size)
              have hcmp : decide ((kn : Int) < (n : Int) + 1) = true := look_more HHH.out hpn hpn1 HP10.out.2.1.symm
              have HCMP := Lib.hid hcmp
              have fr0 := run_field_r0
              clear hv hb33 hpn hpn1 hlk y0 y1 y2 y3 hcmp
              go_wp2_with fail
              go_ret
              refine ⟨?_, HB33.out⟩
              go_light
              exact ret_bool HCMP.out
end Go.Proofs.Ytgjmdcbdkdmceaa.Mach
