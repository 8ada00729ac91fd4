/- ReplayHere, the walk. -/
import Derived.Test.YtgjmdcbdkdmceaaQz34
import Derived.Test.YtgjmdcbdkdmceaaQz44
import Derived.Test.YtgjmdcbdkdmceaaQz35
import Derived.Test.YtgjmdcbdkdmceaaQz43
namespace Go.Proofs.Ytgjmdcbdkdmceaa.Mach
open Go.RowKit

theorem kept_at {X : PX} {d : PS} (hK : POk X d) {j : Nat} (hj : j < (d.S.map (·.1)).length) : ∃ (i : Nat) (b : List Int), (d.S.map (·.1)).getD j 0 = i ∧ ((i : Int), b) ∈ d.S ∧ (X.path i).1 = true := by
  rw [List.length_map] at hj
  obtain ⟨i, -, e, hp, -⟩ := hK.ks.kept d.S[j] (List.getElem_mem hj)
  have hm : d.S[j] ∈ d.S := List.getElem_mem hj
  have e' : d.S[j].1 = (i : Int) := e
  refine ⟨i, d.S[j].2, ?_, ?_, hp⟩
  · rw [List.getD_eq_getElem?_getD, List.getElem?_map, List.getElem?_eq_getElem hj]
    exact e'
  · rw [← e']
    exact hm
theorem PAt.hi {w : World} {u : Nat → Prop} {base P : Nat} {X : PX} {d : PS} (h : PAt w u base P X d) (k : Nat) (hk : u k) : k < w.heap.size := by
  obtain ⟨t, V, v, l, h⟩ := h
  exact (h.ulo k hk).2

set_option maxRecDepth 100000 in
set_option maxHeartbeats 8000000 in
theorem replayHere_walk (wv : Value) (l : List W) (ev : Value) (el : List (Int × Int)) (m : Int) (dv : Value) (dl : List Int) (iv : Value) (inp : List Int) (ev8 k8 : Int) (w : World)
    (hW : RdW w wv l) (hEv : RdE w ev el) (hD : RdB w dv dl) (hI : Rd w 1 iv inp.length (intsV inp)) (hok : ∀ x ∈ l, x.ok) (hes : ∀ x ∈ el, i64 x.1 ∧ i64 x.2) (hin : I64s inp) (hsz : inp.length * 8 ≤ 140737488355328) (he8 : 0 ≤ ev8 ∧ ev8 ≤ 255) (hk8 : 0 ≤ k8 ∧ k8 ≤ 255) :
    Calls Try.prog 6 #[.agg #[wv, ev, .int .i64 m, dv], iv, .int .u8 ev8, .int .u8 k8] w fun e w' => e = .returned (.bool true) ∧ Below w.heap.size w w' := by
  have hwn := Rd.le hW
  have hdn := Rd.le hD
  obtain ⟨wa0, wc0, rfl⟩ := Rd.shape hW
  obtain ⟨ea0, ec0, rfl⟩ := Rd.shape hEv
  obtain ⟨da0, dc0, rfl⟩ := Rd.shape hD
  obtain ⟨ia0, ic0, rfl⟩ := Rd.shape hI
  have HW := Lib.hid (fun V (hb : Below w.heap.size w V) => Rd.later hW hb)
  have HEv := Lib.hid (fun V (hb : Below w.heap.size w V) => Rd.later hEv hb)
  have HD := Lib.hid (fun V (hb : Below w.heap.size w V) => Rd.later hD hb)
  have HI := Lib.hid (fun V (hb : Below w.heap.size w V) => Rd.later hI hb)
  have HEO : Hid (l.length ≤ 1000000 → el.length ≤ 1000000 → EnvOk ⟨l, el, inp⟩) := fun h1 h2 => ⟨hok, hes, hin, h1, h2, by show inp.length ≤ _; omega⟩
  clear hW hEv hD hI hok hes hin
  go_enter Try.func6, Try.ntmps6
  go_wp2_with fail
  obtain ⟨w1, hw1⟩ : ∃ w1, w1 = w.alloc (.cells #[.slice wa0 l.length wc0, .slice ea0 el.length ec0, .int .i64 m, .slice da0 dl.length dc0] 26) := ⟨_, rfl⟩
  rw [← hw1]
  have hb1 : Below w.heap.size w w1 := by rw [hw1]; exact (Below.refl _ _).alloc (Nat.le_refl _) _
  have hx1 : w1.heap[w.heap.size]? = some (.cells #[.slice wa0 l.length wc0, .slice ea0 el.length ec0, .int .i64 m, .slice da0 dl.length dc0] 26 (0, 0)) := by rw [hw1]; exact heap_alloc_new _ _
  refine (awake26_any _).mono ?_
  rintro e w2 ⟨rfl, hb2⟩
  have HB2 : Hid (Below w.heap.size w w2) := hb1.trans (hb2.mono hb1.size)
  have hx2 := (hb2.block _ (Array.getElem?_eq_some_iff.1 hx1).1).trans hx1
  have x0 : w2.cell? ⟨w.heap.size, 0, none⟩ = some (.slice wa0 l.length wc0) := by simp [World.cell?, hx2]
  have x1 : w2.cell? ⟨w.heap.size, 1, none⟩ = some (.slice ea0 el.length ec0) := by simp [World.cell?, hx2]
  have x2 : w2.cell? ⟨w.heap.size, 2, none⟩ = some (.int .i64 m) := by simp [World.cell?, hx2]
  have x3 : w2.cell? ⟨w.heap.size, 3, none⟩ = some (.slice da0 dl.length dc0) := by simp [World.cell?, hx2]
  have hl2 : w.heap.size < w2.heap.size := (Array.getElem?_eq_some_iff.1 hx2).1
  have HX2 := Lib.hid hx2
  clear hb1 hx1 hb2 hx2 hw1
  go_wp2_with fail
  refine (few22_any wa0 l.length wc0 _ el m da0 dl.length dc0 w2 (HEv.out _ HB2.out) hwn hdn).mono ?_
  rintro e w3 ⟨⟨fb, hfb, rfl⟩, hb3⟩
  have HB3 : Hid (Below w.heap.size w w3) := HB2.out.trans (hb3.mono HB2.out.size)
  have hx3 := (hb3.block _ hl2).trans HX2.out
  have y0 : w3.cell? ⟨w.heap.size, 0, none⟩ = some (.slice wa0 l.length wc0) := by simp [World.cell?, hx3]
  have y1 : w3.cell? ⟨w.heap.size, 1, none⟩ = some (.slice ea0 el.length ec0) := by simp [World.cell?, hx3]
  have y2 : w3.cell? ⟨w.heap.size, 2, none⟩ = some (.int .i64 m) := by simp [World.cell?, hx3]
  have y3 : w3.cell? ⟨w.heap.size, 3, none⟩ = some (.slice da0 dl.length dc0) := by simp [World.cell?, hx3]
  have hl3 : w.heap.size < w3.heap.size := (Array.getElem?_eq_some_iff.1 hx3).1
  have HX3 := Lib.hid hx3
  clear x0 x1 x2 x3 hl2 HX2 HB2 hb3 hx3
  cases fb
  · go_wp2_with fail
    go_ret
    exact ⟨rfl, HB3.out⟩
  obtain ⟨f1, f2, f3, f4⟩ := hfb rfl
  have HE := Lib.hid (HEO.out (by omega) (by omega))
  have HFE : Hid (FewE ⟨l, el, inp⟩) := Lib.hid f4
  clear hfb HEO f4
  by_cases hm : 0 ≤ m ∧ m < el.length
  rotate_left
  · go_wp2_with fail
    refine (rnew_none w3 _ _ _ _ m el (HEv.out _ HB3.out) (by omega)).mono ?_
    rintro e w4 ⟨rfl, hb4⟩
    have HB4 : Hid (Below w.heap.size w w4) := HB3.out.trans (hb4.mono HB3.out.size)
    clear hb4
    go_wp2_with fail
    go_ret
    exact ⟨rfl, HB4.out⟩
  obtain ⟨mn, rfl⟩ : ∃ n : Nat, m = n := ⟨m.toNat, by omega⟩
  go_wp2_with fail
  refine (rnew_any w3 _ _ _ _ mn ⟨l, el, inp⟩ (HW.out _ HB3.out) (HEv.out _ HB3.out) (HI.out _ HB3.out) ⟨_, _, _, rfl⟩ (by have := hm.2; show mn < el.length; omega)).mono ?_
  rintro e w4 ⟨M0, t0, V0, cl0, rfl, -, hb4, -⟩
  have HB4 : Hid (Below w.heap.size w w4) := HB3.out.trans (hb4.mono HB3.out.size)
  have hx4 := (hb4.block _ hl3).trans HX3.out
  have z0 : w4.cell? ⟨w.heap.size, 0, none⟩ = some (.slice wa0 l.length wc0) := by simp [World.cell?, hx4]
  have z1 : w4.cell? ⟨w.heap.size, 1, none⟩ = some (.slice ea0 el.length ec0) := by simp [World.cell?, hx4]
  have z2 : w4.cell? ⟨w.heap.size, 2, none⟩ = some (.int .i64 mn) := by simp [World.cell?, hx4]
  have z3 : w4.cell? ⟨w.heap.size, 3, none⟩ = some (.slice da0 dl.length dc0) := by simp [World.cell?, hx4]
  have hl4 : w.heap.size < w4.heap.size := (Array.getElem?_eq_some_iff.1 hx4).1
  have HX4 := Lib.hid hx4
  clear y0 y1 y2 y3 hl3 HX3 HB3 hb4 hx4
  go_wp2_with fail
  refine (twin22_any _ l _ el mn _ dl w4 (HW.out _ HB4.out) (HEv.out _ HB4.out) (HD.out _ HB4.out) (by omega) (by omega) (by omega)).mono ?_
  rintro e w5 ⟨us5, ue5, ud5, rfl, o1, o2, o3, hb5⟩
  have HB5 : Hid (Below w.heap.size w w5) := HB4.out.trans (hb5.mono HB4.out.size)
  obtain ⟨ua5, uc5, rfl⟩ := (Rd.of_own o1).shape
  obtain ⟨va5, vc5, rfl⟩ := (Rd.of_own o2).shape
  obtain ⟨da5, dd5, rfl⟩ := (Rd.of_own o3).shape
  have HU5 := Lib.hid (And.intro (Rd.of_own o1) (And.intro (Rd.of_own o2) (Rd.of_own o3)))
  have hx5 := (hb5.block _ hl4).trans HX4.out
  have y0 : w5.cell? ⟨w.heap.size, 0, none⟩ = some (.slice wa0 l.length wc0) := by simp [World.cell?, hx5]
  have y1 : w5.cell? ⟨w.heap.size, 1, none⟩ = some (.slice ea0 el.length ec0) := by simp [World.cell?, hx5]
  have y2 : w5.cell? ⟨w.heap.size, 2, none⟩ = some (.int .i64 mn) := by simp [World.cell?, hx5]
  have y3 : w5.cell? ⟨w.heap.size, 3, none⟩ = some (.slice da0 dl.length dc0) := by simp [World.cell?, hx5]
  have hl5 : w.heap.size < w5.heap.size := (Array.getElem?_eq_some_iff.1 hx5).1
  have HX5 := Lib.hid hx5
  clear z0 z1 z2 z3 o1 o2 o3 hb5 hx5 hl4 HX4 HB4
  obtain ⟨im, mi0, mz0, mz1, mz2⟩ := info_partsV cinfoN
  have bb1 : 0 + inp.length ≤ maxLen := by unfold maxLen; omega
  have bb2 : (0 + inp.length) * 8 ≤ 140737488355328 := by omega
  go_wp2_with (at_builtin; refine wpList_append_own_rd _ rfl _ _ 27 rfl w5.heap.size 2 im (.int .i64 0) 1 8 Try.underlying27 mi0 mz0 mz1 mz2 rfl (by decide) _ 0 [] rfl (emptyN w5) _ inp.length (intsV inp) rfl (Rd.alloc (HI.out _ HB5.out) _) (intsV_one _) bb1 bb2 (by simp) ?_; intro v6 w6 hown6 hgrow6; have hb6 := ((Below.refl w5.heap.size w5).alloc (Nat.le_refl _) _).grown hgrow6 (by simp) (fun k hk => by cases hk; exact Nat.le_refl _); rw [Nat.zero_add, List.nil_append] at hown6; obtain ⟨ia6, ic6, rfl⟩ := (Rd.of_own hown6).shape; have HI6 := Lib.hid (Rd.of_own hown6); have HU6 := Lib.hid (And.intro (Rd.later HU5.out.1 hb6) (And.intro (Rd.later HU5.out.2.1 hb6) (Rd.later HU5.out.2.2 hb6))); have HB6 : Hid (Below w.heap.size w w6) := HB5.out.trans (hb6.mono HB5.out.size); have hx6 := (hb6.block _ hl5).trans HX5.out; have hl6 : w.heap.size < w6.heap.size := (Array.getElem?_eq_some_iff.1 hx6).1; have HX6 := Lib.hid hx6; clear hown6 hgrow6 hb6 hx6)
  obtain ⟨n8, hn8⟩ : ∃ n8, n8 = ev8 % 8 := ⟨_, rfl⟩
  have hnb : 0 ≤ n8 ∧ n8 < 8 := by omega
  rw [← hn8]
  clear hn8
  have hm2 := hm.2
  obtain ⟨X, hX⟩ : ∃ X : PX, X = ⟨⟨l, el, inp⟩, mn, 500, 1 + n8, 64, []⟩ := ⟨_, rfl⟩
  have H : X.Ok := by rw [hX]; exact xok_of HE.out HFE.out (by show (mn : Int) < el.length; omega) (by decide) (by omega) (by omega) (by decide) (fun x hx => nomatch hx) hsz
  have eE : X.E = ⟨l, el, inp⟩ := by rw [hX]
  have eC : X.cs = [] := by rw [hX]
  have e1 : X.every = 1 + n8 := by rw [hX]
  have e2 : X.most = 64 := by rw [hX]
  have e3 : (X.F : Int) = 500 := by rw [hX]; rfl
  have em : X.m = mn := by rw [hX]
  have HN := pnew_any (.slice ua5 l.length uc5) (.slice va5 el.length vc5) (.slice da5 dl.length dd5) (.slice ia6 inp.length ic6) (.slice none 0 0) X mn dl.length (dl.map (Value.int .u8)) w6 (by rw [eE]; exact HU6.out.1) (by rw [eE]; exact HU6.out.2.1) HU6.out.2.2 (ints_oneCell .u8 _) (by rw [eE]; exact HI6.out) (by rw [eC]; exact Rd.nil _ _) em H (by rw [eE]; show l.length * 16 ≤ _; omega) (by rw [eE]; show el.length * 16 ≤ _; omega) (by omega)
  have hK0 := pok_new H
  obtain ⟨d0, hd0⟩ : ∃ d0 : PS, d0 = ⟨newF X.E X.m, [], 0, 0⟩ := ⟨_, rfl⟩
  rw [← hd0] at hK0
  have hd0' : d0 = ⟨newF X.E mn, [], 0, 0⟩ := by rw [hd0, em]
  have hwk0 : d0.work = 0 := by rw [hd0]
  have hs0 : d0.S = [] := by rw [hd0]
  rw [e1, e2, e3, ← hd0'] at HN
  have HN := Lib.hid HN
  have HC := Lib.hid (And.intro eE (And.intro e1 (And.intro e2 (And.intro e3 (And.intro em hd0)))))
  have HWK0 := Lib.hid hwk0
  have HS0 := Lib.hid hs0
  clear hX eE eC e1 e2 e3 em hd0 hd0' hwk0 hs0 mi0 mz0 mz1 mz2 bb1 bb2 HU6 HI6
  refine HN.out.mono ?_
  rintro e w7 ⟨P, u, rfl, hP, hb7⟩
  have HP7 := Lib.hid (And.intro hP (HB6.out.trans (hb7.mono HB6.out.size)))
  have HZ := Lib.hid HB6.out.size
  have hx7 := (hb7.block _ hl6).trans HX6.out
  have hl7 : w.heap.size < w7.heap.size := (Array.getElem?_eq_some_iff.1 hx7).1
  have HX7 := Lib.hid hx7
  clear hP hb7 hx7 HN HB6 HX6 hl6
  go_wp2_with fail
  refine (go_any w7 u _ P X d0 k8 HP7.out.1 H hK0 (by rw [HWK0.out]; omega)).mono ?_
  rintro e w8 ⟨rfl, hp⟩
  obtain ⟨uz8, hP8, hb8⟩ := PPost.lo HP7.out.1 hp HZ.out
  obtain ⟨hK1, -, hs1⟩ := hK0.go H k8.toNat
  have hw1 := goP_work (k := k8.toNat) H hK0
  rw [HWK0.out] at hw1
  obtain ⟨b1, hb1⟩ : ∃ b1, b1 = (goP X k8.toNat d0).1 := ⟨_, rfl⟩
  rw [← hb1]
  obtain ⟨d1, hd1⟩ : ∃ d1, d1 = (goP X k8.toNat d0).2 := ⟨_, rfl⟩
  rw [← hd1] at hP8 hK1 hs1 hw1
  have HS1 := Lib.hid hs1
  have HW1 := Lib.hid hw1
  have HP8 := Lib.hid (And.intro hP8 (HP7.out.2.trans hb8))
  clear hp hP8 hb8 hs1 hw1 hb1 hd1 HP7 HX7 hl7
  go_wp2_with fail
  refine HP8.out.1.workq.mono ?_
  rintro e w9 ⟨rfl, rfl⟩
  go_wp2_with fail
  refine HP8.out.1.over.mono ?_
  rintro e w10 ⟨rfl, hb10⟩
  have HP10 := Lib.hid (And.intro (HP8.out.1.below hb10) (HP8.out.2.trans (hb10.mono HP8.out.2.size)))
  obtain ⟨o, ho⟩ : ∃ o, o = overF X.F d1.s := ⟨_, rfl⟩
  rw [← ho]
  have HO := Lib.hid ho
  clear hb10 ho HP8
  obtain ⟨wk, hwk⟩ : ∃ wk, wk = d1.work := ⟨_, rfl⟩
  rw [← hwk]
  have HWK := Lib.hid hwk
  clear hwk
  go_wp2_with fail
  refine HP10.out.1.atq.mono ?_
  rintro e w11 ⟨rfl, hb11⟩
  have HP11 := Lib.hid (And.intro (HP10.out.1.below hb11) (HP10.out.2.trans (hb11.mono HP10.out.2.size)))
  clear hb11 HP10
  cases o
  · obtain ⟨mk, hmk⟩ : ∃ mk, mk = d1.s.marks := ⟨_, rfl⟩
    rw [← hmk]
    have hmk2 : mk = k8.toNat := by
      rw [hmk]
      have h1 := HO.out.symm
      rw [HS1.out] at h1 ⊢
      exact (H.here h1).2
    have HMK := Lib.hid hmk2
    clear hmk hmk2
    go_wp2_with fail
    refine (go_any w11 uz8 _ P X d1 mk HP11.out.1 H hK1 (by have := HW1.out; omega)).mono ?_
    rintro e w12 ⟨rfl, hp⟩
    have hg : goP X mk.toNat d1 = (true, d1) := by
      rw [HMK.out, Int.toNat_natCast]
      exact goP_here H HS1.out HO.out.symm
    rw [hg] at hp ⊢
    obtain ⟨uz12, hP12, hb12⟩ := PPost.lo HP11.out.1 hp HZ.out
    have HP12 := Lib.hid (And.intro hP12 (HP11.out.2.trans hb12))
    clear hp hg hP12 hb12 HP11
    go_wp2_with fail
    refine HP12.out.1.workq.mono ?_
    rintro e w13 ⟨rfl, rfl⟩
    rw [← HWK.out]
    go_wp2_with fail
    have hkw13 := HP12.out.1.kept (hK1.ks.small H)
    refine hkw13.mono ?_
    rintro e w20 ⟨q20, rfl, hq20, hb20⟩
    obtain ⟨ql, hql⟩ : ∃ ql, ql = d1.S.map (·.1) := ⟨_, rfl⟩
    rw [← hql] at hq20
    have HQL := Lib.hid hql
    have HP20 := Lib.hid (And.intro (HP12.out.1.below hb20) (HP12.out.2.trans (hb20.mono HP12.out.2.size)))
    have HQ := Lib.hid hq20
    have HNU : Hid (∀ k, q20.ownBlock = some k → k < w20.heap.size ∧ ¬ uz12 k) := Lib.hid (fun k hk => ⟨olt hq20 k hk, fun hu => by
      have h1 := (oblk hq20 k hk).1
      have h2 := HP12.out.1.hi k hu
      omega⟩)
    obtain ⟨qa, qc, rfl⟩ := (Rd.of_own hq20).shape
    have hqn : ql.length ≤ 64 := by rw [hql, List.length_map]; exact hK1.ks.small H
    clear hq20 hb20 hql hkw13
    go_wp2_with fail
    have HI0 : Hid (PAt w20 uz12 w6.heap.size P X { d1 with s := d1.s } ∧ POk X { d1 with s := d1.s } ∧ Below w.heap.size w w20 ∧ Fu w20 w20 uz12 uz12) := ⟨HP20.out.1, hK1, HP20.out.2, Fu.refl _ _⟩
    clear HP20 HP12
    go_loopw [69] (fun n wr => ∃ (j : Nat) (s : St) (ur : Nat → Prop), j ≤ ql.length ∧ n = .int .i64 j ∧ Hid (PAt wr ur w6.heap.size P X { d1 with s := s } ∧ POk X { d1 with s := s } ∧ Below w.heap.size w wr ∧ Fu w20 wr uz12 ur)) (fun n _ => ql.length - (intOf n).toNat)
    case atStart => exact ⟨0, d1.s, _, Nat.zero_le _, rfl, HI0⟩
    case round =>
      obtain ⟨wa, rfl⟩ : ∃ wa : World, wa = wr := ⟨_, rfl⟩
      obtain ⟨j, s, ur, hj, rfl, HJ⟩ := hrel
      clear HI0
      by_cases hjk : j < ql.length
      · have hjk' : (j : Int) < (ql.length : Int) := by omega
        have hrow := osame HQ.out (fun k hk => (HJ.out.2.2.2.stay k (HNU.out k hk).1 (HNU.out k hk).2).1)
        obtain ⟨g, gc, hv, hg, hgc, -, hcell⟩ := osplit hrow (by omega)
        simp only [Value.slice.injEq, true_and] at hv
        obtain ⟨rfl, rfl⟩ := hv
        obtain ⟨i, b, hxi, hmem, hpi⟩ := kept_at hK1 (j := j) (by rw [← HQL.out]; exact hjk)
        rw [← HQL.out] at hxi
        have cx : wa.cell? ⟨g, j, none⟩ = some (.int .i64 i) := by
          rw [← hxi]
          exact hcell j _ (intsV_at hjk)
        have HMEM := Lib.hid (And.intro hmem hpi)
        have HG := Lib.hid hgc
        clear hrow hcell hxi hmem hpi hgc
        go_wp2_with fail
        refine HJ.out.1.workq.mono ?_
        rintro e w21 ⟨rfl, rfl⟩
        rw [show ({ d1 with s := s } : PS).work = wk from HWK.out.symm]
        have hg := goP_kept H HJ.out.2.1 (k := i) (b := b) HMEM.out.1
        have hgo := go_any w21 ur _ P X { d1 with s := s } i HJ.out.1 H HJ.out.2.1 (by have := HW1.out; exact ⟨this.1, by show d1.work ≤ _; omega⟩)
        rw [Int.toNat_natCast, hg] at hgo
        have HGO := Lib.hid hgo
        clear hg hgo
        go_wp2_with fail
        refine HGO.out.mono ?_
        rintro e w22 ⟨rfl, uz22, hP22, hF22⟩
        have HP22 : Hid (PAt w22 uz22 w6.heap.size P X { d1 with s := (X.path i).2 } ∧ POk X { d1 with s := (X.path i).2 } ∧ Below w.heap.size w w22 ∧ Fu w20 w22 uz12 uz22) := ⟨hP22, ⟨hK1.ks, i, rfl⟩, HJ.out.2.2.1.trans (hF22.lo (fun k hk => HJ.out.1.lo.1 k (Nat.lt_of_lt_of_le hk HZ.out)) HJ.out.2.2.1.size), HJ.out.2.2.2.trans hF22⟩
        clear hP22 hF22 HGO HJ cx
        go_wp2_with fail
        refine HP22.out.1.workq.mono ?_
        rintro e w23 ⟨rfl, rfl⟩
        rw [show ({ d1 with s := (X.path i).2 } : PS).work = wk from HWK.out.symm]
        go_wp2_with fail
        refine HP22.out.1.atq.mono ?_
        rintro e w24 ⟨rfl, hb24⟩
        have HP24 : Hid (PAt w24 uz22 w6.heap.size P X { d1 with s := (X.path i).2 } ∧ POk X { d1 with s := (X.path i).2 } ∧ Below w.heap.size w w24 ∧ Fu w20 w24 uz12 uz22) := ⟨HP22.out.1.below hb24, HP22.out.2.1, HP22.out.2.2.1.trans (hb24.mono HP22.out.2.2.1.size), HP22.out.2.2.2.trans (Fu.below hb24)⟩
        have hmi : ({ d1 with s := (X.path i).2 } : PS).s.marks = i := by
          obtain ⟨n', P'⟩ := H.at_ i
          exact (P'.mark HMEM.out.2).1
        rw [hmi]
        clear hb24 hmi HP22
        go_wp2_with fail
        go_roundw
        case rel => exact ⟨j + 1, _, uz22, by omega, by simp, HP24⟩
        case measure => simp [intOf]; omega
      · have hjk' : ¬ ((j : Int) < (ql.length : Int)) := by omega
        clear hjk
        go_wp2_with fail
        go_ret
        exact ⟨rfl, HJ.out.2.2.1⟩
  · skip
    go_wp2_with fail
    have hkw11 := HP11.out.1.kept (hK1.ks.small H)
    refine hkw11.mono ?_
    rintro e w20 ⟨q20, rfl, hq20, hb20⟩
    obtain ⟨ql, hql⟩ : ∃ ql, ql = d1.S.map (·.1) := ⟨_, rfl⟩
    rw [← hql] at hq20
    have HQL := Lib.hid hql
    have HP20 := Lib.hid (And.intro (HP11.out.1.below hb20) (HP11.out.2.trans (hb20.mono HP11.out.2.size)))
    have HQ := Lib.hid hq20
    have HNU : Hid (∀ k, q20.ownBlock = some k → k < w20.heap.size ∧ ¬ uz8 k) := Lib.hid (fun k hk => ⟨olt hq20 k hk, fun hu => by
      have h1 := (oblk hq20 k hk).1
      have h2 := HP11.out.1.hi k hu
      omega⟩)
    obtain ⟨qa, qc, rfl⟩ := (Rd.of_own hq20).shape
    have hqn : ql.length ≤ 64 := by rw [hql, List.length_map]; exact hK1.ks.small H
    clear hq20 hb20 hql hkw11
    go_wp2_with fail
    have HI0 : Hid (PAt w20 uz8 w6.heap.size P X { d1 with s := d1.s } ∧ POk X { d1 with s := d1.s } ∧ Below w.heap.size w w20 ∧ Fu w20 w20 uz8 uz8) := ⟨HP20.out.1, hK1, HP20.out.2, Fu.refl _ _⟩
    clear HP20 HP11
    go_loopw [69] (fun n wr => ∃ (j : Nat) (s : St) (ur : Nat → Prop), j ≤ ql.length ∧ n = .int .i64 j ∧ Hid (PAt wr ur w6.heap.size P X { d1 with s := s } ∧ POk X { d1 with s := s } ∧ Below w.heap.size w wr ∧ Fu w20 wr uz8 ur)) (fun n _ => ql.length - (intOf n).toNat)
    case atStart => exact ⟨0, d1.s, _, Nat.zero_le _, rfl, HI0⟩
    case round =>
      obtain ⟨wa, rfl⟩ : ∃ wa : World, wa = wr := ⟨_, rfl⟩
      obtain ⟨j, s, ur, hj, rfl, HJ⟩ := hrel
      clear HI0
      by_cases hjk : j < ql.length
      · have hjk' : (j : Int) < (ql.length : Int) := by omega
        have hrow := osame HQ.out (fun k hk => (HJ.out.2.2.2.stay k (HNU.out k hk).1 (HNU.out k hk).2).1)
        obtain ⟨g, gc, hv, hg, hgc, -, hcell⟩ := osplit hrow (by omega)
        simp only [Value.slice.injEq, true_and] at hv
        obtain ⟨rfl, rfl⟩ := hv
        obtain ⟨i, b, hxi, hmem, hpi⟩ := kept_at hK1 (j := j) (by rw [← HQL.out]; exact hjk)
        rw [← HQL.out] at hxi
        have cx : wa.cell? ⟨g, j, none⟩ = some (.int .i64 i) := by
          rw [← hxi]
          exact hcell j _ (intsV_at hjk)
        have HMEM := Lib.hid (And.intro hmem hpi)
        have HG := Lib.hid hgc
        clear hrow hcell hxi hmem hpi hgc
        go_wp2_with fail
        refine HJ.out.1.workq.mono ?_
        rintro e w21 ⟨rfl, rfl⟩
        rw [show ({ d1 with s := s } : PS).work = wk from HWK.out.symm]
        have hg := goP_kept H HJ.out.2.1 (k := i) (b := b) HMEM.out.1
        have hgo := go_any w21 ur _ P X { d1 with s := s } i HJ.out.1 H HJ.out.2.1 (by have := HW1.out; exact ⟨this.1, by show d1.work ≤ _; omega⟩)
        rw [Int.toNat_natCast, hg] at hgo
        have HGO := Lib.hid hgo
        clear hg hgo
        go_wp2_with fail
        refine HGO.out.mono ?_
        rintro e w22 ⟨rfl, uz22, hP22, hF22⟩
        have HP22 : Hid (PAt w22 uz22 w6.heap.size P X { d1 with s := (X.path i).2 } ∧ POk X { d1 with s := (X.path i).2 } ∧ Below w.heap.size w w22 ∧ Fu w20 w22 uz8 uz22) := ⟨hP22, ⟨hK1.ks, i, rfl⟩, HJ.out.2.2.1.trans (hF22.lo (fun k hk => HJ.out.1.lo.1 k (Nat.lt_of_lt_of_le hk HZ.out)) HJ.out.2.2.1.size), HJ.out.2.2.2.trans hF22⟩
        clear hP22 hF22 HGO HJ cx
        go_wp2_with fail
        refine HP22.out.1.workq.mono ?_
        rintro e w23 ⟨rfl, rfl⟩
        rw [show ({ d1 with s := (X.path i).2 } : PS).work = wk from HWK.out.symm]
        go_wp2_with fail
        refine HP22.out.1.atq.mono ?_
        rintro e w24 ⟨rfl, hb24⟩
        have HP24 : Hid (PAt w24 uz22 w6.heap.size P X { d1 with s := (X.path i).2 } ∧ POk X { d1 with s := (X.path i).2 } ∧ Below w.heap.size w w24 ∧ Fu w20 w24 uz8 uz22) := ⟨HP22.out.1.below hb24, HP22.out.2.1, HP22.out.2.2.1.trans (hb24.mono HP22.out.2.2.1.size), HP22.out.2.2.2.trans (Fu.below hb24)⟩
        have hmi : ({ d1 with s := (X.path i).2 } : PS).s.marks = i := by
          obtain ⟨n', P'⟩ := H.at_ i
          exact (P'.mark HMEM.out.2).1
        rw [hmi]
        clear hb24 hmi HP22
        go_wp2_with fail
        go_roundw
        case rel => exact ⟨j + 1, _, uz22, by omega, by simp, HP24⟩
        case measure => simp [intOf]; omega
      · have hjk' : ¬ ((j : Int) < (ql.length : Int)) := by omega
        clear hjk
        go_wp2_with fail
        go_ret
        exact ⟨rfl, HJ.out.2.2.1⟩
end Go.Proofs.Ytgjmdcbdkdmceaa.Mach
