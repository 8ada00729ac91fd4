/- The law of saving, walked. -/
import Derived.Test.YteeapfgjjankeaaQJq
import Derived.Test.YteeapfgjjankeaaQJu
import Derived.Test.YteeapfgjjankeaaQJw
namespace Go.Proofs.Yteeapfgjjankeaa.Mach
open Go.RowKit

theorem run_field_steps (a0 a1 : Value) (oa : Option Addr) (n c : Nat) (a3 a4 a5 a6 : Value) (W : World) : (Instr.field 41 (.agg #[a0, a1, .slice oa n c, a3, a4, a5, a6]) 4).run Try.prog W = .ok a4 W := by
  simp [Instr.field, run_underlying Try.underlying41, part, asAgg, sizeOf, typeInfo]
/-- Two machines, the other one in the midst of its pieces. -/
def SvP (w : World) (img : Array Value) (E : Env) (tM : Nat → Nat) (M N x : Nat) (s0 s1 : St) (wr : World) : Prop :=
  ∃ (t : Nat) (tN : Nat → Nat), t ≤ x ∧ (runF E t s0).1 = t ∧ MAt wr tN N E t (runF E t s0).2 ∧ MAt wr tM M E x s1 ∧ Apart tM tN ∧ Below w.heap.size w wr ∧ wr.heap[w.heap.size]? = some (.cells img 26 (0, 0)) ∧ (∀ k, k < w.heap.size + 1 → tN k = 0)
theorem MAt.heap {w : World} {t : Nat → Nat} {M : Nat} {E : Env} {L : Nat} {s : St} (h : MAt w t M E L s) :
    Calls Try.prog 23 #[.pointer (some ⟨M, 0, none⟩)] w fun e w' => ∃ v, e = .returned v ∧ w'.ownsRow w.heap.size 2 1 v s.heap.length (intsV s.heap) ∧ Below w.heap.size w w' := by
  obtain ⟨base, V, cl, h1, h2⟩ := h
  exact mheap_any w t base M E V cl s h1 h2.hl
theorem CRowK.below {K : Nat} {W W' : World} {n₀ : Nat} {cs : List CallF} {xs : List Value} (h : CRowK K W n₀ cs xs) (hb : Below W.heap.size W W') : CRowK K W' n₀ cs xs := ⟨h.1, fun k c hk => by
  obtain ⟨rv, sv, h1, h2, h3, h4, h5, h6⟩ := h.2 k c hk
  exact ⟨rv, sv, h1, h2, h3, h4, obelow h5 hb, obelow h6 hb⟩⟩
/-- The saved bytes are overwritten; all else stays. -/
def XrP (w : World) (B qb qc n : Nat) (wr : World) : Prop := (∃ Y : List Int, Y.length = n ∧ wr.ownsRow B 5 1 (.slice (some ⟨qb, 0, none⟩) n qc) n (bytesV Y)) ∧ (∀ k, k ≠ qb → wr.heap[k]? = w.heap[k]?) ∧ wr.heap.size = w.heap.size ∧ wr.os = w.os ∧ wr.tape = w.tape ∧ wr.output = w.output
set_option maxRecDepth 100000 in
set_option maxHeartbeats 8000000 in
theorem vmSaves_walk (wv : Value) (l : List W) (ev : Value) (el : List (Int × Int)) (m : Int) (dv : Value) (dl : List Int) (iv : Value) (inp : List Int) (a b : Int) (cv : Value) (cu : List Int) (w : World)
    (hW : RdW w wv l) (hEv : RdE w ev el) (hD : RdB w dv dl) (hI : Rd w 1 iv inp.length (intsV inp)) (hP : RdB w cv cu) (hcB : isB cu) (hok : ∀ x ∈ l, x.ok) (hes : ∀ x ∈ el, i64 x.1 ∧ i64 x.2) (hin : I64s inp) (ha : 0 ≤ a ∧ a < 65536) (hb : 0 ≤ b ∧ b < 65536) (hsz : inp.length * 8 ≤ 140737488355328) :
    Calls Try.prog 5 #[.agg #[wv, ev, .int .i64 m, dv], iv, .int .u16 a, .int .u16 b, cv] w fun e w' => e = .returned (.bool true) ∧ Below w.heap.size w w' := by
  have hwn := Rd.le hW
  have hdn := Rd.le hD
  obtain ⟨wa0, wc0, rfl⟩ := Rd.shape hW
  obtain ⟨ea0, ec0, rfl⟩ := Rd.shape hEv
  obtain ⟨da0, dc0, rfl⟩ := Rd.shape hD
  obtain ⟨ia0, ic0, rfl⟩ := Rd.shape hI
  have hpn := Rd.le hP
  obtain ⟨pa0, pc0, rfl⟩ := Rd.shape hP
  have HW := Lib.hid (fun V (hb : Below w.heap.size w V) => Rd.later hW hb)
  have HEv := Lib.hid (fun V (hb : Below w.heap.size w V) => Rd.later hEv hb)
  have HD := Lib.hid (fun V (hb : Below w.heap.size w V) => Rd.later hD hb)
  have HI := Lib.hid (fun V (hb : Below w.heap.size w V) => Rd.later hI hb)
  have HP := Lib.hid (fun V (hb : Below w.heap.size w V) => Rd.later hP hb)
  have HEO : Hid (l.length ≤ 1000000 → el.length ≤ 1000000 → EnvOk ⟨l, el, inp⟩) := fun h1 h2 => ⟨hok, hes, hin, h1, h2, by show inp.length ≤ _; omega⟩
  clear hW hEv hD hI hP hok hes hin
  go_enter Try.func5, Try.ntmps5
  go_wp2_with fail
  obtain ⟨w1, hw1⟩ : ∃ w1, w1 = w.alloc (.cells #[.slice wa0 l.length wc0, .slice ea0 el.length ec0, .int .i64 m, .slice da0 dl.length dc0] 26) := ⟨_, rfl⟩
  rw [← hw1]
  have hb1 : Below w.heap.size w w1 := by rw [hw1]; exact (Below.refl _ _).alloc (Nat.le_refl _) _
  have hx1 : w1.heap[w.heap.size]? = some (.cells #[.slice wa0 l.length wc0, .slice ea0 el.length ec0, .int .i64 m, .slice da0 dl.length dc0] 26 (0, 0)) := by rw [hw1]; exact heap_alloc_new _ _
  refine (awake_any _).mono ?_
  rintro e w2 ⟨rfl, hb2⟩
  have hx2 := (hb2.block _ (Array.getElem?_eq_some_iff.1 hx1).1).trans hx1
  have HB2 : Hid (Below w.heap.size w w2) := hb1.trans (hb2.mono hb1.size)
  have x0 : w2.cell? ⟨w.heap.size, 0, none⟩ = some (.slice wa0 l.length wc0) := by simp [World.cell?, hx2]
  have x1 : w2.cell? ⟨w.heap.size, 1, none⟩ = some (.slice ea0 el.length ec0) := by simp [World.cell?, hx2]
  have x2 : w2.cell? ⟨w.heap.size, 2, none⟩ = some (.int .i64 m) := by simp [World.cell?, hx2]
  have x3 : w2.cell? ⟨w.heap.size, 3, none⟩ = some (.slice da0 dl.length dc0) := by simp [World.cell?, hx2]
  have hl2 : w.heap.size < w2.heap.size := (Array.getElem?_eq_some_iff.1 hx2).1
  have HX2 := Lib.hid hx2
  clear hb1 hx1 hb2 hx2 hw1
  go_wp2_with fail
  refine (few22_any wa0 l.length wc0 _ el m da0 dl.length dc0 w2 (HEv.out _ HB2.out) hwn hdn).mono ?_
  rintro e w3 ⟨⟨fb, hfb, rfl⟩, hb3⟩
  have HB3 : Hid (Below w.heap.size w w3) := HB2.out.trans (hb3.mono HB2.out.size)
  have hx3 := (hb3.block _ hl2).trans HX2.out
  have y0 : w3.cell? ⟨w.heap.size, 0, none⟩ = some (.slice wa0 l.length wc0) := by simp [World.cell?, hx3]
  have y1 : w3.cell? ⟨w.heap.size, 1, none⟩ = some (.slice ea0 el.length ec0) := by simp [World.cell?, hx3]
  have y2 : w3.cell? ⟨w.heap.size, 2, none⟩ = some (.int .i64 m) := by simp [World.cell?, hx3]
  have y3 : w3.cell? ⟨w.heap.size, 3, none⟩ = some (.slice da0 dl.length dc0) := by simp [World.cell?, hx3]
  have hl3 : w.heap.size < w3.heap.size := (Array.getElem?_eq_some_iff.1 hx3).1
  have HX3 := Lib.hid hx3
  clear x0 x1 x2 x3 hl2 HX2 HB2 hb3 hx3
  cases fb
  · go_wp2_with fail
    go_ret
    exact ⟨rfl, HB3.out⟩
  obtain ⟨f1, f2, f3, f4⟩ := hfb rfl
  have HE := Lib.hid (HEO.out (by omega) (by omega))
  have HFE : Hid (FewE ⟨l, el, inp⟩) := f4
  clear hfb HEO f4
  go_wp2_with fail
  refine (twin22_any _ l _ el m _ dl w3 (HW.out _ HB3.out) (HEv.out _ HB3.out) (HD.out _ HB3.out) (by omega) (by omega) (by omega)).mono ?_
  rintro e w4 ⟨us4, ue4, ud4, rfl, o1, o2, o3, hb4⟩
  have HB4 : Hid (Below w.heap.size w w4) := HB3.out.trans (hb4.mono HB3.out.size)
  obtain ⟨ua4, uc4, rfl⟩ := (Rd.of_own o1).shape
  obtain ⟨va4, vc4, rfl⟩ := (Rd.of_own o2).shape
  obtain ⟨da4, dd4, rfl⟩ := (Rd.of_own o3).shape
  have HU4 := Lib.hid (And.intro (Rd.of_own o1) (And.intro (Rd.of_own o2) (Rd.of_own o3)))
  have hx4 := (hb4.block _ hl3).trans HX3.out
  have hl4 : w.heap.size < w4.heap.size := (Array.getElem?_eq_some_iff.1 hx4).1
  have HX4 := Lib.hid hx4
  clear o1 o2 o3 hb4 hx4 y0 y1 y2 y3 hl3 HX3 HB3
  go_wp2_with fail
  refine (ints_any _ inp.length (intsV inp) w4 (HI.out _ HB4.out) (intsV_one _) hsz).mono ?_
  rintro e w5 ⟨v5, rfl, o5, hb5⟩
  have HB5 : Hid (Below w.heap.size w w5) := HB4.out.trans (hb5.mono HB4.out.size)
  obtain ⟨ia5, ic5, rfl⟩ := (Rd.of_own o5).shape
  have HI5 := Lib.hid (Rd.of_own o5)
  have HU5 := Lib.hid (And.intro (Rd.later HU4.out.1 hb5) (And.intro (Rd.later HU4.out.2.1 hb5) (Rd.later HU4.out.2.2 hb5)))
  have hx5 := (hb5.block _ hl4).trans HX4.out
  have hl5 : w.heap.size < w5.heap.size := (Array.getElem?_eq_some_iff.1 hx5).1
  have HX5 := Lib.hid hx5
  clear o5 hb5 hx5 hl4 HX4 HB4 HU4
  by_cases hm : 0 ≤ m ∧ m < el.length
  · obtain ⟨mn, rfl⟩ : ∃ n : Nat, m = n := ⟨m.toNat, by omega⟩
    go_wp2_with fail
    refine (mnew_any _ _ _ _ ⟨l, el, inp⟩ mn dl.length (dl.map (Value.int .u8)) w5 HU5.out.1 HU5.out.2.1 HU5.out.2.2 (ints_oneCell .u8 _) HI5.out (by have := hm.2; show mn < el.length; omega) (by show l.length * 16 ≤ _; omega) (by show el.length * 16 ≤ _; omega) (by omega) hsz).mono ?_
    rintro e w6 hN
    obtain ⟨M, tM, VM, cM, rfl, RM, hb6, tl6, -⟩ := hN
    have HB6 : Hid (Below w.heap.size w w6) := HB5.out.trans (hb6.mono HB5.out.size)
    have hx6 := (hb6.block _ hl5).trans HX5.out
    have y0 : w6.cell? ⟨w.heap.size, 0, none⟩ = some (.slice wa0 l.length wc0) := by simp [World.cell?, hx6]
    have y1 : w6.cell? ⟨w.heap.size, 1, none⟩ = some (.slice ea0 el.length ec0) := by simp [World.cell?, hx6]
    have y2 : w6.cell? ⟨w.heap.size, 2, none⟩ = some (.int .i64 mn) := by simp [World.cell?, hx6]
    have y3 : w6.cell? ⟨w.heap.size, 3, none⟩ = some (.slice da0 dl.length dc0) := by simp [World.cell?, hx6]
    have HM6 : Hid (MAt w6 tM M ⟨l, el, inp⟩ 0 (newF ⟨l, el, inp⟩ mn)) := ⟨_, _, _, RM, newF_good HE.out hm⟩
    have HTM := Lib.hid (And.intro (fun k (hk : k < w.heap.size + 1) => tl6 k (Nat.lt_of_lt_of_le hk hl5)) RM.lt)
    have hl6 : w.heap.size < w6.heap.size := (Array.getElem?_eq_some_iff.1 hx6).1
    have HX6 := Lib.hid hx6
    clear RM hb6 tl6 hx6 hl5 HX5 HB5 HU5 HI5
    go_wp2_with fail
    refine (twin22_any _ l _ el mn _ dl w6 (HW.out _ HB6.out) (HEv.out _ HB6.out) (HD.out _ HB6.out) (by omega) (by omega) (by omega)).mono ?_
    rintro e w7 ⟨us7, ue7, ud7, rfl, o1, o2, o3, hb7⟩
    have HB7 : Hid (Below w.heap.size w w7) := HB6.out.trans (hb7.mono HB6.out.size)
    obtain ⟨ua7, uc7, rfl⟩ := (Rd.of_own o1).shape
    obtain ⟨va7, vc7, rfl⟩ := (Rd.of_own o2).shape
    obtain ⟨da7, dd7, rfl⟩ := (Rd.of_own o3).shape
    have HU7 := Lib.hid (And.intro (Rd.of_own o1) (And.intro (Rd.of_own o2) (Rd.of_own o3)))
    have HM7 := Lib.hid (And.intro (HM6.out.below hb7) hb7.size)
    have HX7 := Lib.hid ((hb7.block _ hl6).trans HX6.out)
    clear o1 o2 o3 hb7 y0 y1 y2 y3 HM6 HB6
    go_wp2_with fail
    refine (ints_any _ inp.length (intsV inp) w7 (HI.out _ HB7.out) (intsV_one _) hsz).mono ?_
    rintro e w8 ⟨v8, rfl, o8, hb8⟩
    have HB8 : Hid (Below w.heap.size w w8) := HB7.out.trans (hb8.mono HB7.out.size)
    obtain ⟨ia8, ic8, rfl⟩ := (Rd.of_own o8).shape
    have HI8 := Lib.hid (Rd.of_own o8)
    have HU8 := Lib.hid (And.intro (Rd.later HU7.out.1 hb8) (And.intro (Rd.later HU7.out.2.1 hb8) (Rd.later HU7.out.2.2 hb8)))
    have HM8 := Lib.hid (And.intro (HM7.out.1.below hb8) (Nat.le_trans HM7.out.2 hb8.size))
    have HX8 := Lib.hid ((hb8.block _ (Nat.lt_of_lt_of_le hl6 HM7.out.2)).trans HX7.out)
    clear o8 hb8 HM7 HB7 HU7
    go_wp2_with fail
    refine (mnew_any _ _ _ _ ⟨l, el, inp⟩ mn dl.length (dl.map (Value.int .u8)) w8 HU8.out.1 HU8.out.2.1 HU8.out.2.2 (ints_oneCell .u8 _) HI8.out (by have := hm.2; show mn < el.length; omega) (by show l.length * 16 ≤ _; omega) (by show el.length * 16 ≤ _; omega) (by omega) hsz).mono ?_
    rintro e w9 hN
    obtain ⟨N, tN, VN, cN, rfl, RN, hb9, tl9, -⟩ := hN
    have HB9 : Hid (Below w.heap.size w w9) := HB8.out.trans (hb9.mono HB8.out.size)
    have HM9 := Lib.hid (HM8.out.1.below hb9)
    have HN9 : Hid (MAt w9 tN N ⟨l, el, inp⟩ 0 (newF ⟨l, el, inp⟩ mn)) := ⟨_, _, _, RN, newF_good HE.out hm⟩
    have HA9 : Hid (Apart tM tN) := Apart.made (w := w8) (fun k hk => Nat.lt_of_lt_of_le (HTM.out.2 k hk) HM8.out.2) tl9
    have HTN := Lib.hid (fun k (hk : k < w.heap.size + 1) => tl9 k (by have := HM8.out.2; omega))
    have hs69 : w6.heap.size ≤ w9.heap.size := Nat.le_trans HM8.out.2 hb9.size
    have HX9 := Lib.hid (((hb9.block _ (Nat.lt_of_lt_of_le hl6 HM8.out.2)).trans HX8.out))
    clear RN hb9 tl9 HM8 HB8 HU8 HI8 HX8
    go_wp2_with fail
    obtain ⟨x, hxa, hx6⟩ : ∃ x : Nat, a % 600 = x ∧ x < 600 := ⟨(a % 600).toNat, by omega, by omega⟩
    rw [hxa]
    clear hxa
    obtain ⟨s0, hs0⟩ : ∃ s0, s0 = newF ⟨l, el, inp⟩ mn := ⟨_, rfl⟩
    have hst0 : s0.steps = 0 := by rw [hs0]; rfl
    rw [← hs0] at HM9 HN9
    clear hs0
    have HS0 := Lib.hid HN9.out.isSane
    have hl9 : w.heap.size < w9.heap.size := Nat.lt_of_lt_of_le hl6 hs69
    refine (HM9.out.run HE.out x (by omega)).mono ?_
    rintro e w10 ⟨rfl, tM1, hM10, hF10⟩
    have HM10 := Lib.hid hM10
    have HN10 := Lib.hid (HN9.out.other hF10 HA9.out.symm)
    have HB10 : Hid (Below w.heap.size w w10) := Below.ran HB9.out hF10 HB9.out.size (fun k hk => by rw [HTM.out.1 k (by omega)]; omega)
    have HT10 := Lib.hid (hF10.low (b := w.heap.size + 1) hl9 HTM.out.1)
    have HX10 := Lib.hid ((hF10.stay w.heap.size hl9 (by rw [HTM.out.1 _ (Nat.lt_succ_self _)]; omega)).trans HX9.out)
    have hl10 : w.heap.size < w10.heap.size := Nat.lt_of_lt_of_le hl9 hF10.size
    obtain ⟨k1, hk1⟩ : ∃ k1, k1 = (runF ⟨l, el, inp⟩ x s0).1 := ⟨_, rfl⟩
    obtain ⟨s1, hs1⟩ : ∃ s1, s1 = (runF ⟨l, el, inp⟩ x s0).2 := ⟨_, rfl⟩
    rw [← hk1]
    rw [← hs1] at HM10
    have HS1 := Lib.hid hs1
    clear hM10 hF10 HM9 HN9 HB9 HA9 HX9 hk1 hs1 HTM hs69 hl9 hl6
    rw [Nat.zero_add] at HM10
    have HP0 : Hid (SvP w #[.slice wa0 l.length wc0, .slice ea0 el.length ec0, .int .i64 mn, .slice da0 dl.length dc0] ⟨l, el, inp⟩ tM1 M N x s0 s1 w10) := Lib.hid ⟨0, tN, Nat.zero_le _, rfl, HN10.out.1, HM10.out, HN10.out.2.symm, HB10.out, HX10.out, HTN.out⟩
    clear HM10 HN10 HB10 HX10 HTN hl10
    go_wp2_with fail
    go_loopw [61] (fun i wr => ∃ j : Nat, j ≤ cu.length ∧ i = .int .i64 j ∧ Hid (SvP w #[.slice wa0 l.length wc0, .slice ea0 el.length ec0, .int .i64 mn, .slice da0 dl.length dc0] ⟨l, el, inp⟩ tM1 M N x s0 s1 wr)) (fun i _ => cu.length - (intOf i).toNat)
    case atStart => exact ⟨0, by omega, rfl, HP0⟩
    case round =>
      obtain ⟨wa, rfl⟩ : ∃ wa : World, wa = wr := ⟨_, rfl⟩
      obtain ⟨j, hj, rfl, HK⟩ := hrel
      clear HP0
      obtain ⟨t, tNa, htx, hrt, hNa, hMa, hAa, hBa, hXa, hTa⟩ := HK.out
      have hst : ((runF ⟨l, el, inp⟩ t s0).2).steps = t := by rw [runF_steps HE.out HS0.out (by omega) t (by omega), hst0, hrt]; omega
      have HNa := Lib.hid hNa
      have HMa := Lib.hid hMa
      have HAa := Lib.hid hAa
      have HBa := Lib.hid hBa
      have HXa := Lib.hid hXa
      have HTa := Lib.hid hTa
      have HRT := Lib.hid hrt
      have hlwa : w.heap.size < wa.heap.size := (Array.getElem?_eq_some_iff.1 hXa).1
      clear hNa hMa hAa hBa hXa hTa hrt HK
      obtain ⟨st, hst'⟩ : ∃ st, st = (runF ⟨l, el, inp⟩ t s0).2 := ⟨_, rfl⟩
      rw [← hst'] at hst HNa
      have HST := Lib.hid hst'
      clear hst'
      by_cases hlt : j < cu.length
      · have hlt' : (j : Int) < cu.length := by omega
        obtain ⟨pb, po, hpe, hcj⟩ : ∃ pb po, pa0 = some ⟨pb, po, none⟩ ∧ wa.cell? ⟨pb, po + j, none⟩ = some (.int .u8 cu[j]) := by
          rcases Rd.split (HP.out _ HBa.out) (by omega) with ⟨_, _, e, h2, _⟩ | ⟨b, off, cc, e, _, _, _, _, h2⟩
          · omega
          · simp only [Value.slice.injEq, true_and] at e
            exact ⟨b, off, e.1, by rw [h2 j (by simpa using hlt)]; simp⟩
        subst hpe
        obtain ⟨c, hc, hcb⟩ : ∃ c : Nat, cu[j] = (c : Int) ∧ c ≤ 255 := by
          have := hcB cu[j] (List.getElem_mem hlt)
          exact ⟨cu[j].toNat, by omega, by omega⟩
        rw [hc] at hcj
        clear hc
        go_wp2_with fail
        refine (HNa.out.status (by omega)).mono ?_
        rintro e wb ⟨vs, rfl, os, hbs⟩
        obtain ⟨sa, sc, rfl⟩ := (Rd.of_own os).shape
        have hf4 := run_field_steps (.int .u8 st.end_) (.int .i64 st.exit) sa st.outs.length sc (.int .i64 st.read) (.int .i64 (t : Int)) (.int .i64 st.marks) (.int .i64 st.at_)
        have hwr : IntKind.i64.wrap ((t : Int) + c) = (t : Int) + c := by rw [IntKind.wrap_i64]; omega
        have hwc : IntKind.i64.wrap (c : Int) = c := by rw [IntKind.wrap_i64]; omega
        have HNb := Lib.hid (HNa.out.below hbs)
        have HMb := Lib.hid (HMa.out.below hbs)
        have HBb : Hid (Below w.heap.size w wb) := Lib.hid (HBa.out.trans (hbs.mono HBa.out.size))
        have HXb := Lib.hid ((hbs.block _ hlwa).trans HXa.out)
        have hlwb : w.heap.size < wb.heap.size := Nat.lt_of_lt_of_le hlwa hbs.size
        clear os hbs HNa HMa HBa HXa hlwa
        by_cases hle : t + c ≤ x
        · have hle' : (t : Int) + c ≤ x := by omega
          go_wp2_with fail
          refine (HNb.out.run HE.out c (by omega)).mono ?_
          rintro e wd ⟨rfl, tNb, hNd, hFd⟩
          obtain ⟨t', ht', hs', hr'⟩ := runF_more (E := ⟨l, el, inp⟩) (s := s0) (t := t) (c := c) HRT.out
          have HO := Lib.hid (HMb.out.other hFd HAa.out)
          have hPd : SvP w #[.slice wa0 l.length wc0, .slice ea0 el.length ec0, .int .i64 mn, .slice da0 dl.length dc0] ⟨l, el, inp⟩ tM1 M N x s0 s1 wd := by
            refine ⟨t', tNb, by omega, hr', ?_, HO.out.1, HO.out.2, Below.ran HBb.out hFd HBb.out.size (fun k hk => by rw [HTa.out k (by omega)]; omega), (hFd.stay _ hlwb (by rw [HTa.out _ (Nat.lt_succ_self _)]; omega)).trans HXb.out, hFd.low (b := w.heap.size + 1) hlwb HTa.out⟩
            rw [HST.out, hs'] at hNd
            have h7 := runF_sane HE.out HS0.out t'
            rw [hr', Nat.zero_add] at h7
            exact hNd.sane h7
          have HPd := Lib.hid hPd
          clear hNd hFd hs' hr' hPd HO HNb HMb HBb HXb
          go_wp2_with fail
          exact ⟨⟨j + 1, by omega, by simp, HPd⟩, by simp [intOf]; omega⟩
        · have hle' : ¬ (t : Int) + c ≤ x := by omega
          have HPd : Hid (SvP w #[.slice wa0 l.length wc0, .slice ea0 el.length ec0, .int .i64 mn, .slice da0 dl.length dc0] ⟨l, el, inp⟩ tM1 M N x s0 s1 wb) := Lib.hid ⟨t, tNa, htx, HRT.out, by rw [← HST.out]; exact HNb.out, HMb.out, HAa.out, HBb.out, HXb.out, HTa.out⟩
          clear HNb HMb HBb HXb
          go_wp2_with fail
          exact ⟨⟨j + 1, by omega, by simp, HPd⟩, by simp [intOf]; omega⟩
      · obtain rfl : j = cu.length := by omega
        go_wp2_with fail
        refine (HNa.out.status (by omega)).mono ?_
        rintro e wb ⟨vs, rfl, os, hbs⟩
        obtain ⟨sa, sc, rfl⟩ := (Rd.of_own os).shape
        have hf4 := run_field_steps (.int .u8 st.end_) (.int .i64 st.exit) sa st.outs.length sc (.int .i64 st.read) (.int .i64 (t : Int)) (.int .i64 st.marks) (.int .i64 st.at_)
        obtain ⟨d, hd⟩ : ∃ d : Nat, (x : Int) - t = d := ⟨x - t, by omega⟩
        have hwd : IntKind.i64.wrap (d : Int) = d := by rw [IntKind.wrap_i64]; omega
        have hwd2 : IntKind.i64.wrap ((x : Int) - t) = d := by rw [hd]; exact hwd
        have HNb := Lib.hid (HNa.out.below hbs)
        have HMb := Lib.hid (HMa.out.below hbs)
        have HBb : Hid (Below w.heap.size w wb) := Lib.hid (HBa.out.trans (hbs.mono HBa.out.size))
        have HXb := Lib.hid ((hbs.block _ hlwa).trans HXa.out)
        have hlwb : w.heap.size < wb.heap.size := Nat.lt_of_lt_of_le hlwa hbs.size
        have hdx : d = x - t := by omega
        have HDX := Lib.hid hdx
        clear os hbs HNa HMa HBa HXa hlwa hdx
        go_wp2_with fail
        refine (HNb.out.run HE.out d (by have := HDX.out; omega)).mono ?_
        rintro e wd ⟨rfl, tNb, hNd, hFd⟩
        have HO := Lib.hid (HMb.out.other hFd HAa.out)
        have hon : (runF ⟨l, el, inp⟩ d st).2 = s1 := by rw [HST.out, HDX.out, runF_on HRT.out htx, HS1.out]
        rw [hon] at hNd
        have HNd := Lib.hid (hNd.sane HO.out.1.isSane)
        have HBd : Hid (Below w.heap.size w wd) := Lib.hid (Below.ran HBb.out hFd HBb.out.size (fun k hk => by rw [HTa.out k (by omega)]; omega))
        have HXd := Lib.hid ((hFd.stay _ hlwb (by rw [HTa.out _ (Nat.lt_succ_self _)]; omega)).trans HXb.out)
        have HTd := Lib.hid (hFd.low (b := w.heap.size + 1) hlwb HTa.out)
        have hlwd : w.heap.size < wd.heap.size := Nat.lt_of_lt_of_le hlwb hFd.size
        obtain ⟨r1, hr1⟩ : ∃ r1, r1 = (runF ⟨l, el, inp⟩ d st).1 := ⟨_, rfl⟩
        rw [← hr1]
        clear hNd hFd hon HNb HMb HBb HXb hlwb HTa hr1 hd hwd2 hf4 hwd
        go_wp2_with fail
        refine (HO.out.1.save HE.out (by omega)).mono ?_
        rintro e we ⟨pv, rfl, hbe, op⟩
        have HBe : Hid (Below w.heap.size w we) := Lib.hid (HBd.out.trans (hbe.mono HBd.out.size))
        have HXe := Lib.hid ((hbe.block _ hlwd).trans HXd.out)
        have HNe := Lib.hid (HNd.out.below hbe)
        have HMe := Lib.hid (HO.out.1.below hbe)
        have HAe := Lib.hid HO.out.2
        have hlwe : w.heap.size < we.heap.size := Nat.lt_of_lt_of_le hlwd hbe.size
        obtain ⟨P, hP⟩ : ∃ P, P = saveB s1 := ⟨_, rfl⟩
        rw [← hP] at op
        have HPe := Lib.hid (Rd.of_own op)
        obtain ⟨pa, pc, rfl⟩ := Rd.shape HPe.out
        have HPP := Lib.hid hP
        have hPl : P.length ≤ 330000 := by rw [hP]; exact saveB_few HMe.out.isSane HFE.out (by omega)
        have hPB : Hid (isB P) := Lib.hid (by rw [hP]; exact isB_save s1)
        clear op hbe HO HNd HBd HXd hlwd hP
        go_wp2_with fail
        have hsv := HNe.out.save HE.out (by omega)
        rw [← HPP.out] at hsv
        refine hsv.mono ?_
        rintro e wf ⟨qv, rfl, hbf, oq⟩
        have HBf : Hid (Below w.heap.size w wf) := Lib.hid (HBe.out.trans (hbf.mono HBe.out.size))
        have HXf := Lib.hid ((hbf.block _ hlwe).trans HXe.out)
        have HMf := Lib.hid (HMe.out.below hbf)
        have HPf : Hid (RdB wf (.slice pa P.length pc) P) := Lib.hid (Rd.later HPe.out hbf)
        have hlwf : w.heap.size < wf.heap.size := Nat.lt_of_lt_of_le hlwe hbf.size
        have hP0 : 0 < P.length := by rw [HPP.out]; simp only [saveB, headB, List.length_append, bytesL_length]; omega
        obtain ⟨qb, qc, hqv, hqb, -, -, -⟩ := osplit oq hP0
        subst hqv
        have HQf := Lib.hid oq
        have hqbe : we.heap.size ≤ qb := (oblk oq qb rfl).1
        have hqw : w.heap.size ≤ qb := by omega
        have htq : tM1 qb = 0 := by
          rcases Nat.eq_zero_or_pos (tM1 qb) with e | e
          · exact e
          · have := HMe.out.lt qb (by omega)
            omega
        clear oq hbf hsv HNe HBe HXe HMe HPe hlwe
        go_wp2_with fail
        refine (msame_any _ _ P P wf HPf.out (Rd.of_own HQf.out) hPB.out hPB.out).mono ?_
        rintro e wv ⟨rfl, hwv⟩
        obtain rfl : wv = wf := hwv.symm
        rw [eqL_self]
        have y0 : wv.cell? ⟨w.heap.size, 0, none⟩ = some (.slice wa0 l.length wc0) := by simp [World.cell?, HXf.out]
        have y1 : wv.cell? ⟨w.heap.size, 1, none⟩ = some (.slice ea0 el.length ec0) := by simp [World.cell?, HXf.out]
        have y2 : wv.cell? ⟨w.heap.size, 2, none⟩ = some (.int .i64 mn) := by simp [World.cell?, HXf.out]
        have y3 : wv.cell? ⟨w.heap.size, 3, none⟩ = some (.slice da0 dl.length dc0) := by simp [World.cell?, HXf.out]
        go_wp2_with fail
        refine (twin22_any _ l _ el mn _ dl wv (HW.out _ HBf.out) (HEv.out _ HBf.out) (HD.out _ HBf.out) (by omega) (by omega) (by omega)).mono ?_
        rintro e wt ⟨us9, ue9, ud9, rfl, o1, o2, o3, hbt⟩
        have HBt : Hid (Below w.heap.size w wt) := HBf.out.trans (hbt.mono HBf.out.size)
        obtain ⟨ua9, uc9, rfl⟩ := (Rd.of_own o1).shape
        obtain ⟨va9, vc9, rfl⟩ := (Rd.of_own o2).shape
        obtain ⟨da9, dd9, rfl⟩ := (Rd.of_own o3).shape
        have HUt := Lib.hid (And.intro (Rd.of_own o1) (And.intro (Rd.of_own o2) (Rd.of_own o3)))
        have HMt := Lib.hid (HMf.out.below hbt)
        have HQt := Lib.hid (obelow HQf.out hbt)
        have HPt : Hid (RdB wt (.slice pa P.length pc) P) := Lib.hid (Rd.later HPf.out hbt)
        have hqt : qb < wt.heap.size := Nat.lt_of_lt_of_le hqb hbt.size
        clear o1 o2 o3 hbt y0 y1 y2 y3 HBf HMf HQf HPf HXf hlwf hqb
        go_wp2_with fail
        refine (ints_any _ inp.length (intsV inp) wt (HI.out _ HBt.out) (intsV_one _) hsz).mono ?_
        rintro e wi ⟨vi, rfl, oi, hbi⟩
        have HBi : Hid (Below w.heap.size w wi) := HBt.out.trans (hbi.mono HBt.out.size)
        obtain ⟨ia9, ic9, rfl⟩ := (Rd.of_own oi).shape
        have HIi := Lib.hid (Rd.of_own oi)
        have HUi := Lib.hid (And.intro (Rd.later HUt.out.1 hbi) (And.intro (Rd.later HUt.out.2.1 hbi) (Rd.later HUt.out.2.2 hbi)))
        have HMi := Lib.hid (HMt.out.below hbi)
        have HQi := Lib.hid (obelow HQt.out hbi)
        have HPi : Hid (RdB wi (.slice pa P.length pc) P) := Lib.hid (Rd.later HPt.out hbi)
        have hqi : qb < wi.heap.size := Nat.lt_of_lt_of_le hqt hbi.size
        clear oi hbi HBt HUt HMt HQt HPt hqt
        go_wp2_with fail
        refine (mload_any _ _ _ _ _ ⟨l, el, inp⟩ mn dl.length (dl.map (Value.int .u8)) P wi HUi.out.1 HUi.out.2.1 HUi.out.2.2 (ints_oneCell .u8 _) HIi.out (Rd.of_own HQi.out) hPB.out (by have := hm.2; show mn < el.length; omega) (by show l.length * 16 ≤ _; omega) (by show el.length * 16 ≤ _; omega) (by omega) hsz (by omega)).mono ?_
        have hld : loadF ⟨l, el, inp⟩ mn P = some s1 := by rw [HPP.out]; exact loadF_save HMi.out.isSane HE.out (by omega) mn
        rw [hld]
        rintro e wl (⟨hnone, -, -⟩ | ⟨so, O, tO, bO, VO, cO, hsome, rfl, RO, hbl, hlo⟩)
        · cases hnone
        · obtain rfl : s1 = so := Option.some.inj hsome
          have HBl : Hid (Below w.heap.size w wl) := HBi.out.trans (hbl.mono HBi.out.size)
          have HMl := Lib.hid (HMi.out.below hbl)
          have HOl : Hid (MAt wl tO O ⟨l, el, inp⟩ x s1) := ⟨_, _, _, RO, HMl.out.isSane⟩
          have HQl := Lib.hid (obelow HQi.out hbl)
          have HPl : Hid (RdB wl (.slice pa P.length pc) P) := Lib.hid (Rd.later HPi.out hbl)
          have HAl : Hid (Apart tM1 tO) := Apart.made (w := wi) HMi.out.lt hlo
          have htoq : tO qb = 0 := hlo qb hqi
          have HLO := Lib.hid (fun k (hk : k < w.heap.size) => hlo k (Nat.lt_of_lt_of_le hk HBi.out.size))
          have hql : qb < wl.heap.size := Nat.lt_of_lt_of_le hqi hbl.size
          clear hsome RO hbl hlo hld HBi HMi HQi HPi HUi HIi hqi
          go_wp2_with fail
          have hsv := HOl.out.save HE.out (by omega)
          rw [← HPP.out] at hsv
          refine hsv.mono ?_
          rintro e ws ⟨zv, rfl, hbs, oz⟩
          have HBs : Hid (Below w.heap.size w ws) := HBl.out.trans (hbs.mono HBl.out.size)
          have HMs := Lib.hid (HMl.out.below hbs)
          have HOs := Lib.hid (HOl.out.below hbs)
          have HQs := Lib.hid (obelow HQl.out hbs)
          have HPs : Hid (RdB ws (.slice pa P.length pc) P) := Lib.hid (Rd.later HPl.out hbs)
          have HZs := Lib.hid (Rd.of_own oz)
          obtain ⟨za, zc, rfl⟩ := Rd.shape HZs.out
          clear oz hbs hsv HBl HMl HOl HQl HPl hql
          go_wp2_with fail
          refine (msame_any _ _ P P ws HZs.out HPs.out hPB.out hPB.out).mono ?_
          rintro e wv2 ⟨rfl, hwv⟩
          obtain rfl : wv2 = ws := hwv.symm
          rw [eqL_self]
          clear HZs HPs
          go_wp2_with fail
          have HX0 : Hid (XrP wv2 we.heap.size qb qc P.length wv2) := Lib.hid ⟨⟨P, rfl, HQs.out⟩, fun _ _ => rfl, rfl, rfl, rfl, rfl⟩
          clear HQs
          go_loopw [113] (fun i wr => ∃ j : Nat, j ≤ P.length ∧ i = .int .i64 j ∧ Hid (XrP wv2 we.heap.size qb qc P.length wr)) (fun i _ => P.length - (intOf i).toNat)
          case atStart => exact ⟨0, by omega, rfl, HX0⟩
          case round =>
            obtain ⟨wx, rfl⟩ : ∃ wx : World, wx = wr := ⟨_, rfl⟩
            obtain ⟨j, hj, rfl, HK⟩ := hrel
            clear HX0
            by_cases hjl : j < P.length
            · have hjl' : (j : Int) < P.length := by omega
              obtain ⟨⟨Y, hY, ho⟩, hk, hz, h1, h2, h3⟩ := HK.out
              obtain ⟨g, gc, hge, -, -, ⟨cur, hcur⟩, hat⟩ := osplit ho hP0
              simp only [Value.slice.injEq, Option.some.injEq, Addr.mk.injEq, and_true, true_and] at hge
              obtain ⟨rfl, rfl⟩ := hge
              have c1 := hat j (.int .u8 (Y[j]'(by omega))) (by simp [bytesV, hY, hjl])
              have z1 : wx.frozen? ⟨qb, j, none⟩ = false := by simp [World.frozen?, hcur]
              obtain ⟨y, hy⟩ : ∃ y, y = Y[j]'(by omega) := ⟨_, rfl⟩
              rw [← hy] at c1
              have HKK : Hid (∀ u : Int, XrP wv2 we.heap.size qb qc P.length (wx.setCell ⟨qb, j, none⟩ (.int .u8 u))) := Lib.hid fun u => by
                refine ⟨⟨Y.set j u, by simp [hY], ?_⟩, fun k hkq => (Below.heap_setCell _ _ _ _ hkq).trans (hk k hkq), by rw [World.size_setCell]; exact hz, h1, h2, h3⟩
                have h9 := oset ho j (.int .u8 u)
                have e : (bytesV Y).set j (.int .u8 u) = bytesV (Y.set j u) := by simp [bytesV, List.map_set]
                rw [e] at h9
                exact h9
              clear hat hcur ho hk hz h1 h2 h3 hy HK
              go_wp2_with fail
              exact ⟨⟨j + 1, by omega, by simp, Lib.hid (HKK.out _)⟩, by simp [intOf]; omega⟩
            · obtain rfl : j = P.length := by omega
              obtain ⟨-, hk, hz, h1, h2, h3⟩ := HK.out
              have HMx := Lib.hid (HMs.out.keep (fun k hkt => hk k (fun e => hkt (by rw [e]; exact htq))) (Nat.le_of_eq hz.symm))
              have HOx := Lib.hid (HOs.out.keep (fun k hkt => hk k (fun e => hkt (by rw [e]; exact htoq))) (Nat.le_of_eq hz.symm))
              have HBx : Hid (Below w.heap.size w wx) := Lib.hid (HBs.out.trans ⟨h1, h2, h3, Nat.le_of_eq hz.symm, fun k hkl => hk k (by omega)⟩)
              clear hk hz h1 h2 h3 HK HMs HOs HBs
              go_wp2_with fail
              obtain ⟨y, hyb, hy6⟩ : ∃ y : Nat, b % 600 = y ∧ y < 600 := ⟨(b % 600).toNat, by omega, by omega⟩
              rw [hyb]
              refine (HMx.out.run HE.out y (by omega)).mono ?_
              rintro e w20 ⟨rfl, tM2, hM20, hF20⟩
              have HM20 := Lib.hid hM20
              have HO20 := Lib.hid (HOx.out.other hF20 HAl.out.symm)
              have HB20 : Hid (Below w.heap.size w w20) := Below.ran HBx.out hF20 HBx.out.size (fun k hk => by rw [HT10.out k (by omega)]; omega)
              obtain ⟨s2, hs2⟩ : ∃ s2, s2 = (runF ⟨l, el, inp⟩ y s1).2 := ⟨_, rfl⟩
              obtain ⟨k2, hk2⟩ : ∃ k2, k2 = (runF ⟨l, el, inp⟩ y s1).1 := ⟨_, rfl⟩
              rw [← hk2]
              rw [← hs2] at HM20
              have HS2 := Lib.hid (And.intro hk2 hs2)
              clear hM20 hF20 HMx HOx HBx hs2 hk2
              go_wp2_with fail
              rw [hyb]
              have hR := HO20.out.1.run HE.out y (by omega)
              rw [← HS2.out.1, ← HS2.out.2] at hR
              refine hR.mono ?_
              rintro e w21 ⟨rfl, tO2, hO21, hF21⟩
              have HO21 := Lib.hid hO21
              have HM21 := Lib.hid (HM20.out.other hF21 HO20.out.2.symm)
              have HB21 : Hid (Below w.heap.size w w21) := Below.ran HB20.out hF21 HB20.out.size (fun k hk => by rw [HLO.out k hk]; omega)
              clear hR hO21 hF21 HM20 HO20 HB20 hyb
              go_wp2_with fail
              have HMA := HM21.out.1
              have HOA := HO21.out
              clear HM21 HO21
              have HMB := Lib.hid HMA
              have HOB := Lib.hid HOA
              clear HMA HOA
              refine (HMB.out.save HE.out (by omega)).mono ?_
              rintro e w22 ⟨p1, rfl, b22, op1⟩
              have HB22 : Hid (Below w.heap.size w w22) := HB21.out.trans (b22.mono HB21.out.size)
              have HM22 := Lib.hid (HMB.out.below b22)
              have HO22 := Lib.hid (HOB.out.below b22)
              have HP1 := Lib.hid op1
              clear b22 op1 HMB HOB HB21
              go_wp2_with fail
              refine (HO22.out.save HE.out (by omega)).mono ?_
              rintro e w23 ⟨p2, rfl, b23, op2⟩
              have HB23 : Hid (Below w.heap.size w w23) := HB22.out.trans (b23.mono HB22.out.size)
              have HM23 := Lib.hid (HM22.out.below b23)
              have HO23 := Lib.hid (HO22.out.below b23)
              have HP2 := Lib.hid (And.intro (Rd.of_own (obelow HP1.out b23)) (Rd.of_own op2))
              obtain ⟨pa1, pc1, rfl⟩ := Rd.shape HP2.out.1
              obtain ⟨pa2, pc2, rfl⟩ := Rd.shape HP2.out.2
              clear b23 op2 HM22 HO22 HB22 HP1
              go_wp2_with fail
              refine (msame_any _ _ (saveB s2) (saveB s2) w23 HP2.out.1 HP2.out.2 (isB_save s2) (isB_save s2)).mono ?_
              rintro e w24 ⟨rfl, hw24⟩
              obtain rfl : w24 = w23 := hw24.symm
              rw [eqL_self]
              clear HP2
              go_wp2_with fail
              refine (HM23.out.status (by omega)).mono ?_
              rintro e w25 ⟨v25, rfl, o25, b25⟩
              have HB25 : Hid (Below w.heap.size w w25) := HB23.out.trans (b25.mono HB23.out.size)
              have HM25 := Lib.hid (HM23.out.below b25)
              have HO25 := Lib.hid (HO23.out.below b25)
              have HV25 := Lib.hid o25
              obtain ⟨xa1, xc1, rfl⟩ := (Rd.of_own o25).shape
              clear o25 b25 HM23 HO23 HB23
              go_wp2_with fail
              refine (HO25.out.status (by omega)).mono ?_
              rintro e w26 ⟨v26, rfl, o26, b26⟩
              have HB26 : Hid (Below w.heap.size w w26) := HB25.out.trans (b26.mono HB25.out.size)
              have HM26 := Lib.hid (HM25.out.below b26)
              have HO26 := Lib.hid (HO25.out.below b26)
              obtain ⟨xa2, xc2, rfl⟩ := (Rd.of_own o26).shape
              have HV26 := Lib.hid (And.intro (Rd.of_own (obelow HV25.out b26)) (Rd.of_own o26))
              clear o26 b26 HM25 HO25 HB25 HV25
              go_wp2_with fail
              refine (sameStatus_eq _ _ _ _ _ _ _ _ s2.outs w26 HV26.out.1 HV26.out.2).mono ?_
              rintro e w27 ⟨rfl, b27⟩
              have HB27 : Hid (Below w.heap.size w w27) := HB26.out.trans (b27.mono HB26.out.size)
              have HM27 := Lib.hid (HM26.out.below b27)
              have HO27 := Lib.hid (HO26.out.below b27)
              clear b27 HM26 HO26 HB26 HV26
              have hnc : (callsF s2).length ≤ 100 := by have := HM27.out.isSane.n; simpa [callsF] using this
              go_wp2_with fail
              refine HM27.out.calls.mono ?_
              rintro e w28 ⟨v28, xs28, rfl, o28, c28, b28⟩
              have HB28 : Hid (Below w.heap.size w w28) := HB27.out.trans (b28.mono HB27.out.size)
              have HM28 := Lib.hid (HM27.out.below b28)
              have HO28 := Lib.hid (HO27.out.below b28)
              have HC28 := Lib.hid (And.intro o28 c28)
              obtain ⟨ca1, cc1, rfl, -, -⟩ := oshape o28
              clear o28 c28 b28 HM27 HO27 HB27
              go_wp2_with fail
              refine (calls22_any _ (callsF s2) xs28 w27.heap.size w28 HC28.out.1 HC28.out.2.toK hnc).mono ?_
              rintro e w29 ⟨v29, xs29, rfl, o29, c29, b29⟩
              have HB29 : Hid (Below w.heap.size w w29) := HB28.out.trans (b29.mono HB28.out.size)
              have HM29 := Lib.hid (HM28.out.below b29)
              have HO29 := Lib.hid (HO28.out.below b29)
              have HC29 := Lib.hid (And.intro o29 c29)
              obtain ⟨ca2, cc2, rfl, -, -⟩ := oshape o29
              clear o29 c29 b29 HM28 HO28 HB28 HC28
              go_wp2_with fail
              refine HO29.out.calls.mono ?_
              rintro e w30 ⟨v30, xs30, rfl, o30, c30, b30⟩
              have HB30 : Hid (Below w.heap.size w w30) := HB29.out.trans (b30.mono HB29.out.size)
              have HM30 := Lib.hid (HM29.out.below b30)
              have HO30 := Lib.hid (HO29.out.below b30)
              have HC30 := Lib.hid (And.intro o30 c30)
              have HD30 := Lib.hid (And.intro (obelow HC29.out.1 b30) (HC29.out.2.below b30))
              obtain ⟨ca3, cc3, rfl, -, -⟩ := oshape o30
              clear o30 c30 b30 HM29 HO29 HB29 HC29
              go_wp2_with fail
              refine (calls22_any _ (callsF s2) xs30 w29.heap.size w30 HC30.out.1 HC30.out.2.toK hnc).mono ?_
              rintro e w31 ⟨v31, xs31, rfl, o31, c31, b31⟩
              have HB31 : Hid (Below w.heap.size w w31) := HB30.out.trans (b31.mono HB30.out.size)
              have HM31 := Lib.hid (HM30.out.below b31)
              have HO31 := Lib.hid (HO30.out.below b31)
              have HC31 := Lib.hid (And.intro o31 c31)
              have HD31 := Lib.hid (And.intro (obelow HD30.out.1 b31) (HD30.out.2.below b31))
              obtain ⟨ca4, cc4, rfl, -, -⟩ := oshape o31
              clear o31 c31 b31 HM30 HO30 HB30 HC30 HD30
              go_wp2_with fail
              refine (sameCalls_eq _ _ (callsF s2) _ _ _ _ _ _ w31 HD31.out.1 HD31.out.2 HC31.out.1 HC31.out.2).mono ?_
              rintro e w32 ⟨rfl, b32⟩
              have HB32 : Hid (Below w.heap.size w w32) := HB31.out.trans (b32.mono HB31.out.size)
              have HM32 := Lib.hid (HM31.out.below b32)
              have HO32 := Lib.hid (HO31.out.below b32)
              clear b32 HM31 HO31 HB31 HC31 HD31
              go_wp2_with fail
              refine HM32.out.heap.mono ?_
              rintro e w33 ⟨v33, rfl, o33, b33⟩
              have HB33 : Hid (Below w.heap.size w w33) := HB32.out.trans (b33.mono HB32.out.size)
              have HO33 := Lib.hid (HO32.out.below b33)
              have HV33 := Lib.hid o33
              obtain ⟨ha1, hc1, rfl⟩ := (Rd.of_own o33).shape
              clear o33 b33 HM32 HO32 HB32
              go_wp2_with fail
              refine HO33.out.heap.mono ?_
              rintro e w34 ⟨v34, rfl, o34, b34⟩
              have HB34 : Hid (Below w.heap.size w w34) := HB33.out.trans (b34.mono HB33.out.size)
              obtain ⟨ha2, hc2, rfl⟩ := (Rd.of_own o34).shape
              have HV34 := Lib.hid (And.intro (Rd.of_own (obelow HV33.out b34)) (Rd.of_own o34))
              clear o34 b34 HO33 HB33 HV33
              go_wp2_with fail
              refine (sameInts_eq _ _ s2.heap w34 HV34.out.1 HV34.out.2).mono ?_
              rintro e w35 ⟨rfl, q35, rfl⟩
              have HB35 : ∀ n, Hid (Below w.heap.size w (w34.drewN n)) := fun n => Lib.hid (HB34.out.trans ⟨rfl, rfl, rfl, Nat.le_refl _, fun _ _ => rfl⟩)
              clear HV34 HB34
              go_wp2_with fail
              go_ret
              exact ⟨rfl, (HB35 _).out⟩
  · have hm' : m < 0 ∨ (el.length : Int) ≤ m := by omega
    go_wp2_with fail
    refine (mnew_none _ _ _ _ m el w5 HU5.out.2.1 hm').mono ?_
    rintro e w6 ⟨rfl, hb6⟩
    have HB6 : Hid (Below w.heap.size w w6) := HB5.out.trans (hb6.mono HB5.out.size)
    have hx6 := (hb6.block _ hl5).trans HX5.out
    have y0 : w6.cell? ⟨w.heap.size, 0, none⟩ = some (.slice wa0 l.length wc0) := by simp [World.cell?, hx6]
    have y1 : w6.cell? ⟨w.heap.size, 1, none⟩ = some (.slice ea0 el.length ec0) := by simp [World.cell?, hx6]
    have y2 : w6.cell? ⟨w.heap.size, 2, none⟩ = some (.int .i64 m) := by simp [World.cell?, hx6]
    have y3 : w6.cell? ⟨w.heap.size, 3, none⟩ = some (.slice da0 dl.length dc0) := by simp [World.cell?, hx6]
    clear hb6 hx6 hl5 HX5 HB5 HU5 HI5
    go_wp2_with fail
    refine (twin22_any _ l _ el m _ dl w6 (HW.out _ HB6.out) (HEv.out _ HB6.out) (HD.out _ HB6.out) (by omega) (by omega) (by omega)).mono ?_
    rintro e w7 ⟨us7, ue7, ud7, rfl, o1, o2, o3, hb7⟩
    have HB7 : Hid (Below w.heap.size w w7) := HB6.out.trans (hb7.mono HB6.out.size)
    obtain ⟨ua7, uc7, rfl⟩ := (Rd.of_own o1).shape
    obtain ⟨va7, vc7, rfl⟩ := (Rd.of_own o2).shape
    obtain ⟨da7, dd7, rfl⟩ := (Rd.of_own o3).shape
    have HU7 := Lib.hid (Rd.of_own o2)
    clear o1 o2 o3 hb7 y0 y1 y2 y3 HB6
    go_wp2_with fail
    refine (ints_any _ inp.length (intsV inp) w7 (HI.out _ HB7.out) (intsV_one _) hsz).mono ?_
    rintro e w8 ⟨v8, rfl, o8, hb8⟩
    have HB8 : Hid (Below w.heap.size w w8) := HB7.out.trans (hb8.mono HB7.out.size)
    obtain ⟨ia8, ic8, rfl⟩ := (Rd.of_own o8).shape
    have HU8 := Lib.hid (Rd.later HU7.out hb8)
    clear o8 hb8 HB7 HU7
    go_wp2_with fail
    refine (mnew_none _ _ _ _ m el w8 HU8.out hm').mono ?_
    rintro e w9 ⟨rfl, hb9⟩
    have HB9 : Hid (Below w.heap.size w w9) := HB8.out.trans (hb9.mono HB8.out.size)
    clear hb9 HB8 HU8
    go_wp2_with fail
    go_ret
    exact ⟨rfl, HB9.out⟩
end Go.Proofs.Yteeapfgjjankeaa.Mach
