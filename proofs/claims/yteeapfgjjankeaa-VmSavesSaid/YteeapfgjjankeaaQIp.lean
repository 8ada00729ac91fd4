/- The law of parts, walked. -/
import Derived.Test.YteeapfgjjankeaaQIh
import Derived.Test.YteeapfgjjankeaaQIi
import Derived.Test.YteeapfgjjankeaaQIj
import Derived.Test.YteeapfgjjankeaaQ22
import Derived.Test.YteeapfgjjankeaaQ19
import Derived.Test.YteeapfgjjankeaaQIc
import Derived.Test.YteeapfgjjankeaaQVi
namespace Go.Proofs.Yteeapfgjjankeaa.Mach
open Go.RowKit

theorem run_field_end (a0 a1 : Value) (oa : Option Addr) (n c : Nat) (a3 a4 a5 a6 : Value) (W : World) : (Instr.field 41 (.agg #[a0, a1, .slice oa n c, a3, a4, a5, a6]) 0).run Try.prog W = .ok a0 W := by
  simp [Instr.field, run_underlying Try.underlying41, part, asAgg, sizeOf, typeInfo]
/-- A machine in memory. -/
def MAt (w : World) (t : Nat → Nat) (M : Nat) (E : Env) (L : Nat) (s : St) : Prop := ∃ base V cl, MRep w t base M E V cl s ∧ Sane E L s
theorem MAt.below {w w' : World} {t : Nat → Nat} {M : Nat} {E : Env} {L : Nat} {s : St} (h : MAt w t M E L s) (hb : Below w.heap.size w w') : MAt w' t M E L s := by
  obtain ⟨base, V, cl, h1, h2⟩ := h
  exact ⟨base, V, cl, h1.below hb, h2⟩
theorem MAt.other {w w' : World} {tm tm' t : Nat → Nat} {M : Nat} {E : Env} {L : Nat} {s : St} (h : MAt w t M E L s) (hf : Fx w w' tm tm') (hd : Apart t tm) : MAt w' t M E L s ∧ Apart t tm' := by
  obtain ⟨base, V, cl, h1, h2⟩ := h
  exact ⟨⟨base, V, cl, (h1.other hf hd).1, h2⟩, (h1.other hf hd).2⟩
/-- What a run leaves: the machine, its steps on; all else. -/
def MRan (w : World) (t : Nat → Nat) (M : Nat) (E : Env) (L : Nat) (s : St) (w' : World) : Prop := ∃ t', MAt w' t' M E L s ∧ Fx w w' t t'
theorem MAt.run {w : World} {t : Nat → Nat} {M : Nat} {E : Env} {L : Nat} {s : St} (h : MAt w t M E L s) (hE : EnvOk E) (k : Nat) (hk : L + k ≤ 1000000) :
    Calls Try.prog 12 #[.pointer (some ⟨M, 0, none⟩), .int .i64 k] w fun e w' => e = .returned (.int .i64 (runF E k s).1) ∧ MRan w t M E (L + k) (runF E k s).2 w' := by
  obtain ⟨base, V, cl, h1, h2⟩ := h
  refine (mrun_any w t base M E V cl s h1 hE L h2 k hk).mono ?_
  rintro e w' ⟨rfl, t', V', cl', h3, h4, h5⟩
  exact ⟨rfl, t', ⟨base, V', cl', h3, h5⟩, h4⟩
theorem MAt.toMark {w : World} {t : Nat → Nat} {M : Nat} {E : Env} {L : Nat} {s : St} (h : MAt w t M E L s) (hE : EnvOk E) (k : Nat) (hk : L + k ≤ 1000000) :
    Calls Try.prog 16 #[.pointer (some ⟨M, 0, none⟩), .int .i64 k] w fun e w' => e = .returned (.bool (markF E k s).1) ∧ MRan w t M E (L + k) (markF E k s).2 w' := by
  obtain ⟨base, V, cl, h1, h2⟩ := h
  refine (mtomark_any w t base M E V cl s h1 hE L h2 k hk).mono ?_
  rintro e w' ⟨rfl, t', V', cl', h3, h4, h5⟩
  exact ⟨rfl, t', ⟨base, V', cl', h3, h5⟩, h4⟩
theorem MAt.save {w : World} {t : Nat → Nat} {M : Nat} {E : Env} {L : Nat} {s : St} (h : MAt w t M E L s) (hE : EnvOk E) (hL : L ≤ 1000000) :
    Calls Try.prog 14 #[.pointer (some ⟨M, 0, none⟩)] w fun e w' => SaveP w (saveB s) e w' := by
  obtain ⟨base, V, cl, h1, h2⟩ := h
  exact msave_any w t base M E V cl s h1 L h2 hL hE
theorem MAt.status {w : World} {t : Nat → Nat} {M : Nat} {E : Env} {L : Nat} {s : St} (h : MAt w t M E L s) (hL : L ≤ 1000000) :
    Calls Try.prog 15 #[.pointer (some ⟨M, 0, none⟩)] w fun e w' => MStat w s e w' := by
  obtain ⟨base, V, cl, h1, h2⟩ := h
  exact mstatus_any w t base M E V cl s h1 (Nat.le_trans h2.xl hL)
/-- Below what there was at first, through a machine's run. -/
theorem Below.ran {w0 w w' : World} {t t' : Nat → Nat} {b : Nat} (h : Below b w0 w) (hf : Fx w w' t t') (hb : b ≤ w.heap.size) (ht : ∀ k, k < b → t k ≤ 2) : Below b w0 w' :=
  h.trans ⟨hf.os, hf.tape, hf.output, hf.size, fun k hk => hf.stay k (by omega) (ht k hk)⟩
theorem Fx.low {w w' : World} {t t' : Nat → Nat} {b : Nat} (hf : Fx w w' t t') (hb : b ≤ w.heap.size) (ht : ∀ k, k < b → t k = 0) : ∀ k, k < b → t' k = 0 := fun k hk => ((hf.keep k (by omega)).1 (by rw [ht k hk]; omega)).trans (ht k hk)
set_option maxRecDepth 100000 in
set_option maxHeartbeats 8000000 in
theorem vmParts_walk (wv : Value) (l : List W) (ev : Value) (el : List (Int × Int)) (m : Int) (dv : Value) (dl : List Int) (iv : Value) (inp : List Int) (a b : Int) (w : World)
    (hW : RdW w wv l) (hEv : RdE w ev el) (hD : RdB w dv dl) (hI : Rd w 1 iv inp.length (intsV inp)) (hok : ∀ x ∈ l, x.ok) (hes : ∀ x ∈ el, i64 x.1 ∧ i64 x.2) (hin : I64s inp) (ha : 0 ≤ a ∧ a < 65536) (hb : 0 ≤ b ∧ b < 65536) (hsz : inp.length * 8 ≤ 140737488355328) :
    Calls Try.prog 3 #[.agg #[wv, ev, .int .i64 m, dv], iv, .int .u16 a, .int .u16 b] w fun e w' => e = .returned (.bool true) ∧ Below w.heap.size w w' := by
  have hwn := Rd.le hW
  have hdn := Rd.le hD
  obtain ⟨wa0, wc0, rfl⟩ := Rd.shape hW
  obtain ⟨ea0, ec0, rfl⟩ := Rd.shape hEv
  obtain ⟨da0, dc0, rfl⟩ := Rd.shape hD
  obtain ⟨ia0, ic0, rfl⟩ := Rd.shape hI
  have HW := Lib.hid (fun V (hb : Below w.heap.size w V) => Rd.later hW hb)
  have HEv := Lib.hid (fun V (hb : Below w.heap.size w V) => Rd.later hEv hb)
  have HD := Lib.hid (fun V (hb : Below w.heap.size w V) => Rd.later hD hb)
  have HI := Lib.hid (fun V (hb : Below w.heap.size w V) => Rd.later hI hb)
  have HEO : Hid (l.length ≤ 1000000 → el.length ≤ 1000000 → EnvOk ⟨l, el, inp⟩) := fun h1 h2 => ⟨hok, hes, hin, h1, h2, by show inp.length ≤ _; omega⟩
  clear hW hEv hD hI hok hes hin
  go_enter Try.func3, Try.ntmps3
  go_wp2_with fail
  obtain ⟨w1, hw1⟩ : ∃ w1, w1 = w.alloc (.cells #[.slice wa0 l.length wc0, .slice ea0 el.length ec0, .int .i64 m, .slice da0 dl.length dc0] 26) := ⟨_, rfl⟩
  rw [← hw1]
  have hb1 : Below w.heap.size w w1 := by rw [hw1]; exact (Below.refl _ _).alloc (Nat.le_refl _) _
  have hx1 : w1.heap[w.heap.size]? = some (.cells #[.slice wa0 l.length wc0, .slice ea0 el.length ec0, .int .i64 m, .slice da0 dl.length dc0] 26 (0, 0)) := by rw [hw1]; exact heap_alloc_new _ _
  refine (awake_any _).mono ?_
  rintro e w2 ⟨rfl, hb2⟩
  have hx2 := (hb2.block _ (Array.getElem?_eq_some_iff.1 hx1).1).trans hx1
  have HB2 : Hid (Below w.heap.size w w2) := hb1.trans (hb2.mono hb1.size)
  have x0 : w2.cell? ⟨w.heap.size, 0, none⟩ = some (.slice wa0 l.length wc0) := by simp [World.cell?, hx2]
  have x1 : w2.cell? ⟨w.heap.size, 1, none⟩ = some (.slice ea0 el.length ec0) := by simp [World.cell?, hx2]
  have x2 : w2.cell? ⟨w.heap.size, 2, none⟩ = some (.int .i64 m) := by simp [World.cell?, hx2]
  have x3 : w2.cell? ⟨w.heap.size, 3, none⟩ = some (.slice da0 dl.length dc0) := by simp [World.cell?, hx2]
  have hl2 : w.heap.size < w2.heap.size := (Array.getElem?_eq_some_iff.1 hx2).1
  have HX2 := Lib.hid hx2
  clear hb1 hx1 hb2 hx2 hw1
  go_wp2_with fail
  refine (few22_any wa0 l.length wc0 _ el m da0 dl.length dc0 w2 (HEv.out _ HB2.out) hwn hdn).mono ?_
  rintro e w3 ⟨⟨fb, hfb, rfl⟩, hb3⟩
  have HB3 : Hid (Below w.heap.size w w3) := HB2.out.trans (hb3.mono HB2.out.size)
  have hx3 := (hb3.block _ hl2).trans HX2.out
  have y0 : w3.cell? ⟨w.heap.size, 0, none⟩ = some (.slice wa0 l.length wc0) := by simp [World.cell?, hx3]
  have y1 : w3.cell? ⟨w.heap.size, 1, none⟩ = some (.slice ea0 el.length ec0) := by simp [World.cell?, hx3]
  have y2 : w3.cell? ⟨w.heap.size, 2, none⟩ = some (.int .i64 m) := by simp [World.cell?, hx3]
  have y3 : w3.cell? ⟨w.heap.size, 3, none⟩ = some (.slice da0 dl.length dc0) := by simp [World.cell?, hx3]
  have hl3 : w.heap.size < w3.heap.size := (Array.getElem?_eq_some_iff.1 hx3).1
  have HX3 := Lib.hid hx3
  clear x0 x1 x2 x3 hl2 HX2 HB2 hb3 hx3
  cases fb
  · go_wp2_with fail
    go_ret
    exact ⟨rfl, HB3.out⟩
  obtain ⟨f1, f2, f3, -⟩ := hfb rfl
  have HE := Lib.hid (HEO.out (by omega) (by omega))
  clear hfb HEO
  go_wp2_with fail
  refine (twin22_any _ l _ el m _ dl w3 (HW.out _ HB3.out) (HEv.out _ HB3.out) (HD.out _ HB3.out) (by omega) (by omega) (by omega)).mono ?_
  rintro e w4 ⟨us4, ue4, ud4, rfl, o1, o2, o3, hb4⟩
  have HB4 : Hid (Below w.heap.size w w4) := HB3.out.trans (hb4.mono HB3.out.size)
  obtain ⟨ua4, uc4, rfl⟩ := (Rd.of_own o1).shape
  obtain ⟨va4, vc4, rfl⟩ := (Rd.of_own o2).shape
  obtain ⟨da4, dd4, rfl⟩ := (Rd.of_own o3).shape
  have HU4 := Lib.hid (And.intro (Rd.of_own o1) (And.intro (Rd.of_own o2) (Rd.of_own o3)))
  have hx4 := (hb4.block _ hl3).trans HX3.out
  have hl4 : w.heap.size < w4.heap.size := (Array.getElem?_eq_some_iff.1 hx4).1
  have HX4 := Lib.hid hx4
  clear o1 o2 o3 hb4 hx4 y0 y1 y2 y3 hl3 HX3 HB3
  go_wp2_with fail
  refine (ints_any _ inp.length (intsV inp) w4 (HI.out _ HB4.out) (intsV_one _) hsz).mono ?_
  rintro e w5 ⟨v5, rfl, o5, hb5⟩
  have HB5 : Hid (Below w.heap.size w w5) := HB4.out.trans (hb5.mono HB4.out.size)
  obtain ⟨ia5, ic5, rfl⟩ := (Rd.of_own o5).shape
  have HI5 := Lib.hid (Rd.of_own o5)
  have HU5 := Lib.hid (And.intro (Rd.later HU4.out.1 hb5) (And.intro (Rd.later HU4.out.2.1 hb5) (Rd.later HU4.out.2.2 hb5)))
  have hx5 := (hb5.block _ hl4).trans HX4.out
  have hl5 : w.heap.size < w5.heap.size := (Array.getElem?_eq_some_iff.1 hx5).1
  have HX5 := Lib.hid hx5
  clear o5 hb5 hx5 hl4 HX4 HB4 HU4
  by_cases hm : 0 ≤ m ∧ m < el.length
  · obtain ⟨mn, rfl⟩ : ∃ n : Nat, m = n := ⟨m.toNat, by omega⟩
    go_wp2_with fail
    refine (mnew_any _ _ _ _ ⟨l, el, inp⟩ mn dl.length (dl.map (Value.int .u8)) w5 HU5.out.1 HU5.out.2.1 HU5.out.2.2 (ints_oneCell .u8 _) HI5.out (by have := hm.2; show mn < el.length; omega) (by show l.length * 16 ≤ _; omega) (by show el.length * 16 ≤ _; omega) (by omega) hsz).mono ?_
    rintro e w6 hN
    obtain ⟨M, tM, VM, cM, rfl, RM, hb6, tl6, -⟩ := hN
    have HB6 : Hid (Below w.heap.size w w6) := HB5.out.trans (hb6.mono HB5.out.size)
    have hx6 := (hb6.block _ hl5).trans HX5.out
    have y0 : w6.cell? ⟨w.heap.size, 0, none⟩ = some (.slice wa0 l.length wc0) := by simp [World.cell?, hx6]
    have y1 : w6.cell? ⟨w.heap.size, 1, none⟩ = some (.slice ea0 el.length ec0) := by simp [World.cell?, hx6]
    have y2 : w6.cell? ⟨w.heap.size, 2, none⟩ = some (.int .i64 mn) := by simp [World.cell?, hx6]
    have y3 : w6.cell? ⟨w.heap.size, 3, none⟩ = some (.slice da0 dl.length dc0) := by simp [World.cell?, hx6]
    have HM6 : Hid (MAt w6 tM M ⟨l, el, inp⟩ 0 (newF ⟨l, el, inp⟩ mn)) := ⟨_, _, _, RM, newF_good HE.out hm⟩
    have HTM := Lib.hid (And.intro (fun k (hk : k < w.heap.size) => tl6 k (Nat.lt_of_lt_of_le hk HB5.out.size)) RM.lt)
    clear RM hb6 tl6 hx6 hl5 HX5 HB5 HU5 HI5
    go_wp2_with fail
    refine (twin22_any _ l _ el mn _ dl w6 (HW.out _ HB6.out) (HEv.out _ HB6.out) (HD.out _ HB6.out) (by omega) (by omega) (by omega)).mono ?_
    rintro e w7 ⟨us7, ue7, ud7, rfl, o1, o2, o3, hb7⟩
    have HB7 : Hid (Below w.heap.size w w7) := HB6.out.trans (hb7.mono HB6.out.size)
    obtain ⟨ua7, uc7, rfl⟩ := (Rd.of_own o1).shape
    obtain ⟨va7, vc7, rfl⟩ := (Rd.of_own o2).shape
    obtain ⟨da7, dd7, rfl⟩ := (Rd.of_own o3).shape
    have HU7 := Lib.hid (And.intro (Rd.of_own o1) (And.intro (Rd.of_own o2) (Rd.of_own o3)))
    have HM7 := Lib.hid (And.intro (HM6.out.below hb7) hb7.size)
    clear o1 o2 o3 hb7 y0 y1 y2 y3 HM6 HB6
    go_wp2_with fail
    refine (ints_any _ inp.length (intsV inp) w7 (HI.out _ HB7.out) (intsV_one _) hsz).mono ?_
    rintro e w8 ⟨v8, rfl, o8, hb8⟩
    have HB8 : Hid (Below w.heap.size w w8) := HB7.out.trans (hb8.mono HB7.out.size)
    obtain ⟨ia8, ic8, rfl⟩ := (Rd.of_own o8).shape
    have HI8 := Lib.hid (Rd.of_own o8)
    have HU8 := Lib.hid (And.intro (Rd.later HU7.out.1 hb8) (And.intro (Rd.later HU7.out.2.1 hb8) (Rd.later HU7.out.2.2 hb8)))
    have HM8 := Lib.hid (And.intro (HM7.out.1.below hb8) (Nat.le_trans HM7.out.2 hb8.size))
    clear o8 hb8 HM7 HB7 HU7
    go_wp2_with fail
    refine (mnew_any _ _ _ _ ⟨l, el, inp⟩ mn dl.length (dl.map (Value.int .u8)) w8 HU8.out.1 HU8.out.2.1 HU8.out.2.2 (ints_oneCell .u8 _) HI8.out (by have := hm.2; show mn < el.length; omega) (by show l.length * 16 ≤ _; omega) (by show el.length * 16 ≤ _; omega) (by omega) hsz).mono ?_
    rintro e w9 hN
    obtain ⟨N, tN, VN, cN, rfl, RN, hb9, tl9, -⟩ := hN
    have HB9 : Hid (Below w.heap.size w w9) := HB8.out.trans (hb9.mono HB8.out.size)
    have HM9 := Lib.hid (HM8.out.1.below hb9)
    have HN9 : Hid (MAt w9 tN N ⟨l, el, inp⟩ 0 (newF ⟨l, el, inp⟩ mn)) := ⟨_, _, _, RN, newF_good HE.out hm⟩
    have HA9 : Hid (Apart tM tN) := Apart.made (w := w8) (fun k hk => Nat.lt_of_lt_of_le (HTM.out.2 k hk) HM8.out.2) tl9
    have HTN := Lib.hid (fun k (hk : k < w.heap.size) => tl9 k (Nat.lt_of_lt_of_le hk HB8.out.size))
    clear RN hb9 tl9 HM8 HB8 HU8 HI8
    go_wp2_with fail
    obtain ⟨x, hxa, hx5⟩ : ∃ x : Nat, a % 500 = x ∧ x < 500 := ⟨(a % 500).toNat, by omega, by omega⟩
    obtain ⟨y, hyb, hy5⟩ : ∃ y : Nat, b % 500 = y ∧ y < 500 := ⟨(b % 500).toNat, by omega, by omega⟩
    rw [hxa, hyb]
    clear hxa hyb
    obtain ⟨s0, hs0⟩ : ∃ s0, s0 = newF ⟨l, el, inp⟩ mn := ⟨_, rfl⟩
    rw [← hs0] at HM9 HN9
    clear hs0
    refine (HM9.out.run HE.out x (by omega)).mono ?_
    rintro e w10 ⟨rfl, tM1, hM10, hF10⟩
    have HM10 := Lib.hid hM10
    have HN10 := Lib.hid (HN9.out.other hF10 HA9.out.symm)
    have HB10 : Hid (Below w.heap.size w w10) := Below.ran HB9.out hF10 HB9.out.size (fun k hk => by rw [HTM.out.1 k hk]; omega)
    have HT10 := Lib.hid (hF10.low HB9.out.size HTM.out.1)
    clear hM10 hF10 HM9 HN9 HB9 HTM HA9
    obtain ⟨k1, hk1⟩ : ∃ k1, k1 = (runF ⟨l, el, inp⟩ x s0).1 := ⟨_, rfl⟩
    obtain ⟨s1, hs1⟩ : ∃ s1, s1 = (runF ⟨l, el, inp⟩ x s0).2 := ⟨_, rfl⟩
    rw [← hk1]
    rw [← hs1] at HM10
    have hl1 : k1 ≤ 500 := by have := runF_le ⟨l, el, inp⟩ x s0; omega
    have HK1 := Lib.hid (And.intro hk1 hs1)
    clear hk1 hs1
    go_wp2_with fail
    refine (HM10.out.run HE.out y (by omega)).mono ?_
    rintro e w11 ⟨rfl, tM2, hM11, hF11⟩
    have HM11 := Lib.hid hM11
    have HN11 := Lib.hid (HN10.out.1.other hF11 HN10.out.2)
    have HB11 : Hid (Below w.heap.size w w11) := Below.ran HB10.out hF11 HB10.out.size (fun k hk => by rw [HT10.out k hk]; omega)
    have HT11 := Lib.hid (hF11.low HB10.out.size HT10.out)
    clear hM11 hF11 HM10 HN10 HB10 HT10
    obtain ⟨k2, hk2⟩ : ∃ k2, k2 = (runF ⟨l, el, inp⟩ y s1).1 := ⟨_, rfl⟩
    obtain ⟨s2, hs2⟩ : ∃ s2, s2 = (runF ⟨l, el, inp⟩ y s1).2 := ⟨_, rfl⟩
    rw [← hk2]
    rw [← hs2] at HM11
    have hl2 : k2 ≤ 500 := by have := runF_le ⟨l, el, inp⟩ y s1; omega
    have hp := runF_plus ⟨l, el, inp⟩ x y s0
    rw [← HK1.out.1, ← HK1.out.2, ← hk2, ← hs2] at hp
    have HP := Lib.hid hp
    have HK2 := Lib.hid (And.intro hk2 hs2)
    clear hk2 hs2 hp
    go_wp2_with fail
    have hR := HN11.out.1.run HE.out (x + y) (by omega)
    simp only [HP.out, Int.natCast_add] at hR
    refine hR.mono ?_
    rintro e w12 ⟨rfl, tN3, hN12, hF12⟩
    have HN12 := Lib.hid hN12
    have HM12 := Lib.hid (HM11.out.other hF12 HN11.out.2.symm)
    have HB12 : Hid (Below w.heap.size w w12) := Below.ran HB11.out hF12 HB11.out.size (fun k hk => by rw [HTN.out k hk]; omega)
    clear hR hN12 hF12 HM11 HN11 HB11 HTN
    go_wp2_with fail
    refine (HM12.out.1.save HE.out (by omega)).mono ?_
    rintro e w13 ⟨p1, rfl, hb13, op1⟩
    have HB13 : Hid (Below w.heap.size w w13) := HB12.out.trans (hb13.mono HB12.out.size)
    have HM13 := Lib.hid (HM12.out.1.below hb13)
    have HN13 := Lib.hid (HN12.out.below hb13)
    have HP1 := Lib.hid op1
    have HA := Lib.hid HM12.out.2
    clear hb13 op1 HM12 HN12 HB12
    go_wp2_with fail
    refine (HN13.out.save HE.out (by omega)).mono ?_
    rintro e w14 ⟨p2, rfl, hb14, op2⟩
    have HB14 : Hid (Below w.heap.size w w14) := HB13.out.trans (hb14.mono HB13.out.size)
    have HM14 := Lib.hid (HM13.out.below hb14)
    have HN14 := Lib.hid (HN13.out.below hb14)
    have HP2 := Lib.hid (And.intro (Rd.of_own (obelow HP1.out hb14)) (Rd.of_own op2))
    obtain ⟨pa1, pc1, rfl⟩ := Rd.shape HP2.out.1
    obtain ⟨pa2, pc2, rfl⟩ := Rd.shape HP2.out.2
    clear hb14 op2 HM13 HN13 HB13 HP1
    go_wp2_with fail
    refine (msame_any _ _ (saveB s2) (saveB s2) w14 HP2.out.1 HP2.out.2 (isB_save s2) (isB_save s2)).mono ?_
    rintro e w15 ⟨rfl, hw15⟩
    obtain rfl : w15 = w14 := hw15.symm
    rw [eqL_self]
    go_wp2_with fail
    refine (HM14.out.status (by omega)).mono ?_
    rintro e w16 ⟨v16, rfl, o16, hb16⟩
    have HB16 : Hid (Below w.heap.size w w16) := HB14.out.trans (hb16.mono HB14.out.size)
    have HM16 := Lib.hid (HM14.out.below hb16)
    have HN16 := Lib.hid (HN14.out.below hb16)
    obtain ⟨qa, qc, rfl⟩ := (Rd.of_own o16).shape
    clear o16 hb16 HM14 HN14 HB14 HP2
    have hfd := run_field_end (.int .u8 s2.end_) (.int .i64 s2.exit) qa s2.outs.length qc (.int .i64 s2.read) (.int .i64 s2.steps) (.int .i64 s2.marks) (.int .i64 s2.at_)
    by_cases h0 : s2.end_ = 0
    · have hb0 : (s2.end_ == 0) = true := by rw [h0]; rfl
      have HH0 := Lib.hid h0
      have hk1x : k1 = x := by
        rw [HK1.out.1]
        refine runF_all _ _ _ ?_
        rw [← HK1.out.2]
        refine Decidable.byContradiction fun hne => ?_
        have h2 := HK2.out.2
        rw [mrunF_stop hne] at h2
        rw [h2] at h0
        exact hne h0
      have hk2y : k2 = y := by
        rw [HK2.out.1]
        exact runF_all _ _ _ (by rw [← HK2.out.2]; exact h0)
      subst hk1x hk2y
      clear h0
      go_wp2_with fail
      go_ret
      exact ⟨rfl, HB16.out⟩
    · have hb0 : (s2.end_ == 0) = false := by simpa using h0
      go_wp2_with fail
      have hR := HM16.out.run HE.out 10 (by omega)
      simp only [mrunF_stop h0, Int.natCast_zero] at hR
      refine hR.mono ?_
      rintro e w17 ⟨rfl, tM4, hM17, hF17⟩
      have HM17 := Lib.hid hM17
      have HN17 := Lib.hid (HN16.out.other hF17 HA.out.symm)
      have HB17 : Hid (Below w.heap.size w w17) := Below.ran HB16.out hF17 HB16.out.size (fun k hk => by rw [HT11.out k hk]; omega)
      have HT17 := Lib.hid (hF17.low HB16.out.size HT11.out)
      clear hR hM17 hF17 HM16 HN16 HB16 HT11 HA
      go_wp2_with fail
      have hR := HM17.out.toMark HE.out 10 (by omega)
      simp only [mmarkF_stop h0] at hR
      refine hR.mono ?_
      rintro e w18 ⟨rfl, tM5, hM18, hF18⟩
      have HM18 := Lib.hid hM18
      have HN18 := Lib.hid (HN17.out.1.other hF18 HN17.out.2)
      have HB18 : Hid (Below w.heap.size w w18) := Below.ran HB17.out hF18 HB17.out.size (fun k hk => by rw [HT17.out k hk]; omega)
      clear hR hM18 hF18 HM17 HN17 HB17 HT17
      go_wp2_with fail
      refine (HM18.out.save HE.out (by omega)).mono ?_
      rintro e w19 ⟨p3, rfl, hb19, op3⟩
      have HB19 : Hid (Below w.heap.size w w19) := HB18.out.trans (hb19.mono HB18.out.size)
      have HN19 := Lib.hid (HN18.out.1.below hb19)
      have HP3 := Lib.hid op3
      clear hb19 op3 HM18 HN18 HB18
      go_wp2_with fail
      refine (HN19.out.save HE.out (by omega)).mono ?_
      rintro e w20 ⟨p4, rfl, hb20, op4⟩
      have HB20 : Hid (Below w.heap.size w w20) := HB19.out.trans (hb20.mono HB19.out.size)
      have HP4 := Lib.hid (And.intro (Rd.of_own (obelow HP3.out hb20)) (Rd.of_own op4))
      obtain ⟨pa3, pc3, rfl⟩ := Rd.shape HP4.out.1
      obtain ⟨pa4, pc4, rfl⟩ := Rd.shape HP4.out.2
      clear hb20 op4 HN19 HB19 HP3
      go_wp2_with fail
      refine (msame_any _ _ (saveB s2) (saveB s2) w20 HP4.out.1 HP4.out.2 (isB_save s2) (isB_save s2)).mono ?_
      rintro e w21 ⟨rfl, hw21⟩
      obtain rfl : w21 = w20 := hw21.symm
      rw [eqL_self]
      go_wp2_with fail
      go_ret
      exact ⟨rfl, HB20.out⟩
  · have hm' : m < 0 ∨ (el.length : Int) ≤ m := by omega
    go_wp2_with fail
    refine (mnew_none _ _ _ _ m el w5 HU5.out.2.1 hm').mono ?_
    rintro e w6 ⟨rfl, hb6⟩
    have HB6 : Hid (Below w.heap.size w w6) := HB5.out.trans (hb6.mono HB5.out.size)
    have hx6 := (hb6.block _ hl5).trans HX5.out
    have y0 : w6.cell? ⟨w.heap.size, 0, none⟩ = some (.slice wa0 l.length wc0) := by simp [World.cell?, hx6]
    have y1 : w6.cell? ⟨w.heap.size, 1, none⟩ = some (.slice ea0 el.length ec0) := by simp [World.cell?, hx6]
    have y2 : w6.cell? ⟨w.heap.size, 2, none⟩ = some (.int .i64 m) := by simp [World.cell?, hx6]
    have y3 : w6.cell? ⟨w.heap.size, 3, none⟩ = some (.slice da0 dl.length dc0) := by simp [World.cell?, hx6]
    clear hb6 hx6 hl5 HX5 HB5 HU5 HI5
    go_wp2_with fail
    refine (twin22_any _ l _ el m _ dl w6 (HW.out _ HB6.out) (HEv.out _ HB6.out) (HD.out _ HB6.out) (by omega) (by omega) (by omega)).mono ?_
    rintro e w7 ⟨us7, ue7, ud7, rfl, o1, o2, o3, hb7⟩
    have HB7 : Hid (Below w.heap.size w w7) := HB6.out.trans (hb7.mono HB6.out.size)
    obtain ⟨ua7, uc7, rfl⟩ := (Rd.of_own o1).shape
    obtain ⟨va7, vc7, rfl⟩ := (Rd.of_own o2).shape
    obtain ⟨da7, dd7, rfl⟩ := (Rd.of_own o3).shape
    have HU7 := Lib.hid (Rd.of_own o2)
    clear o1 o2 o3 hb7 y0 y1 y2 y3 HB6
    go_wp2_with fail
    refine (ints_any _ inp.length (intsV inp) w7 (HI.out _ HB7.out) (intsV_one _) hsz).mono ?_
    rintro e w8 ⟨v8, rfl, o8, hb8⟩
    have HB8 : Hid (Below w.heap.size w w8) := HB7.out.trans (hb8.mono HB7.out.size)
    obtain ⟨ia8, ic8, rfl⟩ := (Rd.of_own o8).shape
    have HU8 := Lib.hid (Rd.later HU7.out hb8)
    clear o8 hb8 HB7 HU7
    go_wp2_with fail
    refine (mnew_none _ _ _ _ m el w8 HU8.out hm').mono ?_
    rintro e w9 ⟨rfl, hb9⟩
    have HB9 : Hid (Below w.heap.size w w9) := HB8.out.trans (hb9.mono HB8.out.size)
    clear hb9 HB8 HU8
    go_wp2_with fail
    go_ret
    exact ⟨rfl, HB9.out⟩
end Go.Proofs.Yteeapfgjjankeaa.Mach
