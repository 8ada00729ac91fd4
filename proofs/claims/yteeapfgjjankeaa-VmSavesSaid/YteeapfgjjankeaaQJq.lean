/- The law of loading, walked. -/
import Derived.Test.YteeapfgjjankeaaQIh
import Derived.Test.YteeapfgjjankeaaQIi
import Derived.Test.YteeapfgjjankeaaQIj
import Derived.Test.YteeapfgjjankeaaQIp
import Derived.Test.YteeapfgjjankeaaQJs
import Derived.Test.YteeapfgjjankeaaQ17
import Derived.Test.YteeapfgjjankeaaQ19
import Derived.Test.YteeapfgjjankeaaQIc
import Derived.Test.YteeapfgjjankeaaQ22
import Derived.Test.YteeapfgjjankeaaQVi
namespace Go.Proofs.Yteeapfgjjankeaa.Mach
open Go.RowKit

theorem Rd.cap_le {w : World} {v : Option Addr} {n c : Nat} {size : Nat} {xs : List Value} (h : Rd w size (.slice v n c) n xs) : n ≤ c := by
  rcases h.2 with ⟨e, h0⟩ | ⟨a, cap, e, h1, _, _⟩
  · omega
  · cases e; exact h1
set_option maxRecDepth 100000 in
set_option maxHeartbeats 8000000 in
theorem vmLoads_walk (wv : Value) (l : List W) (ev : Value) (el : List (Int × Int)) (m : Int) (dv : Value) (dl : List Int) (iv : Value) (inp : List Int) (pv : Value) (p : List Int) (a c b : Int) (w : World)
    (hW : RdW w wv l) (hEv : RdE w ev el) (hD : RdB w dv dl) (hI : Rd w 1 iv inp.length (intsV inp)) (hP : RdB w pv p) (hpB : isB p) (hok : ∀ x ∈ l, x.ok) (hes : ∀ x ∈ el, i64 x.1 ∧ i64 x.2) (hin : I64s inp) (ha : 0 ≤ a ∧ a < 65536) (hc : 0 ≤ c ∧ c < 65536) (hb : 0 ≤ b ∧ b < 256) (hsz : inp.length * 8 ≤ 140737488355328) :
    Calls Try.prog 4 #[.agg #[wv, ev, .int .i64 m, dv], iv, pv, .int .u16 a, .int .u16 c, .int .u8 b] w fun e w' => e = .returned (.bool true) ∧ Below w.heap.size w w' := by
  have hwn := Rd.le hW
  have hdn := Rd.le hD
  obtain ⟨wa0, wc0, rfl⟩ := Rd.shape hW
  obtain ⟨ea0, ec0, rfl⟩ := Rd.shape hEv
  obtain ⟨da0, dc0, rfl⟩ := Rd.shape hD
  obtain ⟨ia0, ic0, rfl⟩ := Rd.shape hI
  have hpn := Rd.le hP
  obtain ⟨pa0, pc0, rfl⟩ := Rd.shape hP
  have HW := Lib.hid (fun V (hb : Below w.heap.size w V) => Rd.later hW hb)
  have HEv := Lib.hid (fun V (hb : Below w.heap.size w V) => Rd.later hEv hb)
  have HD := Lib.hid (fun V (hb : Below w.heap.size w V) => Rd.later hD hb)
  have HI := Lib.hid (fun V (hb : Below w.heap.size w V) => Rd.later hI hb)
  have HP := Lib.hid (fun V (hb : Below w.heap.size w V) => Rd.later hP hb)
  have HEO : Hid (l.length ≤ 1000000 → el.length ≤ 1000000 → EnvOk ⟨l, el, inp⟩) := fun h1 h2 => ⟨hok, hes, hin, h1, h2, by show inp.length ≤ _; omega⟩
  clear hW hEv hD hI hP hok hes hin
  go_enter Try.func4, Try.ntmps4
  go_wp2_with fail
  obtain ⟨w1, hw1⟩ : ∃ w1, w1 = w.alloc (.cells #[.slice wa0 l.length wc0, .slice ea0 el.length ec0, .int .i64 m, .slice da0 dl.length dc0] 26) := ⟨_, rfl⟩
  rw [← hw1]
  have hb1 : Below w.heap.size w w1 := by rw [hw1]; exact (Below.refl _ _).alloc (Nat.le_refl _) _
  have hx1 : w1.heap[w.heap.size]? = some (.cells #[.slice wa0 l.length wc0, .slice ea0 el.length ec0, .int .i64 m, .slice da0 dl.length dc0] 26 (0, 0)) := by rw [hw1]; exact heap_alloc_new _ _
  refine (awake_any _).mono ?_
  rintro e w2 ⟨rfl, hb2⟩
  have hx2 := (hb2.block _ (Array.getElem?_eq_some_iff.1 hx1).1).trans hx1
  have HB2 : Hid (Below w.heap.size w w2) := hb1.trans (hb2.mono hb1.size)
  have x0 : w2.cell? ⟨w.heap.size, 0, none⟩ = some (.slice wa0 l.length wc0) := by simp [World.cell?, hx2]
  have x1 : w2.cell? ⟨w.heap.size, 1, none⟩ = some (.slice ea0 el.length ec0) := by simp [World.cell?, hx2]
  have x2 : w2.cell? ⟨w.heap.size, 2, none⟩ = some (.int .i64 m) := by simp [World.cell?, hx2]
  have x3 : w2.cell? ⟨w.heap.size, 3, none⟩ = some (.slice da0 dl.length dc0) := by simp [World.cell?, hx2]
  have hl2 : w.heap.size < w2.heap.size := (Array.getElem?_eq_some_iff.1 hx2).1
  have HX2 := Lib.hid hx2
  clear hb1 hx1 hb2 hx2 hw1
  go_wp2_with fail
  refine (few22_any wa0 l.length wc0 _ el m da0 dl.length dc0 w2 (HEv.out _ HB2.out) hwn hdn).mono ?_
  rintro e w3 ⟨⟨fb, hfb, rfl⟩, hb3⟩
  have HB3 : Hid (Below w.heap.size w w3) := HB2.out.trans (hb3.mono HB2.out.size)
  have hx3 := (hb3.block _ hl2).trans HX2.out
  have y0 : w3.cell? ⟨w.heap.size, 0, none⟩ = some (.slice wa0 l.length wc0) := by simp [World.cell?, hx3]
  have y1 : w3.cell? ⟨w.heap.size, 1, none⟩ = some (.slice ea0 el.length ec0) := by simp [World.cell?, hx3]
  have y2 : w3.cell? ⟨w.heap.size, 2, none⟩ = some (.int .i64 m) := by simp [World.cell?, hx3]
  have y3 : w3.cell? ⟨w.heap.size, 3, none⟩ = some (.slice da0 dl.length dc0) := by simp [World.cell?, hx3]
  have hl3 : w.heap.size < w3.heap.size := (Array.getElem?_eq_some_iff.1 hx3).1
  have HX3 := Lib.hid hx3
  clear x0 x1 x2 x3 hl2 HX2 HB2 hb3 hx3
  cases fb
  · go_wp2_with fail
    go_ret
    exact ⟨rfl, HB3.out⟩
  obtain ⟨f1, f2, f3, f4⟩ := hfb rfl
  have HE := Lib.hid (HEO.out (by omega) (by omega))
  have HFE : Hid (FewE ⟨l, el, inp⟩) := f4
  clear hfb HEO f4
  go_wp2_with fail
  refine (twin22_any _ l _ el m _ dl w3 (HW.out _ HB3.out) (HEv.out _ HB3.out) (HD.out _ HB3.out) (by omega) (by omega) (by omega)).mono ?_
  rintro e w4 ⟨us4, ue4, ud4, rfl, o1, o2, o3, hb4⟩
  have HB4 : Hid (Below w.heap.size w w4) := HB3.out.trans (hb4.mono HB3.out.size)
  obtain ⟨ua4, uc4, rfl⟩ := (Rd.of_own o1).shape
  obtain ⟨va4, vc4, rfl⟩ := (Rd.of_own o2).shape
  obtain ⟨da4, dd4, rfl⟩ := (Rd.of_own o3).shape
  have HU4 := Lib.hid (And.intro (Rd.of_own o1) (And.intro (Rd.of_own o2) (Rd.of_own o3)))
  have hx4 := (hb4.block _ hl3).trans HX3.out
  have hl4 : w.heap.size < w4.heap.size := (Array.getElem?_eq_some_iff.1 hx4).1
  have HX4 := Lib.hid hx4
  clear o1 o2 o3 hb4 hx4 y0 y1 y2 y3 hl3 HX3 HB3
  go_wp2_with fail
  refine (ints_any _ inp.length (intsV inp) w4 (HI.out _ HB4.out) (intsV_one _) hsz).mono ?_
  rintro e w5 ⟨v5, rfl, o5, hb5⟩
  have HB5 : Hid (Below w.heap.size w w5) := HB4.out.trans (hb5.mono HB4.out.size)
  obtain ⟨ia5, ic5, rfl⟩ := (Rd.of_own o5).shape
  have HI5 := Lib.hid (Rd.of_own o5)
  have HU5 := Lib.hid (And.intro (Rd.later HU4.out.1 hb5) (And.intro (Rd.later HU4.out.2.1 hb5) (Rd.later HU4.out.2.2 hb5)))
  have hx5 := (hb5.block _ hl4).trans HX4.out
  have hl5 : w.heap.size < w5.heap.size := (Array.getElem?_eq_some_iff.1 hx5).1
  have HX5 := Lib.hid hx5
  clear o5 hb5 hx5 hl4 HX4 HB4 HU4
  by_cases hm : 0 ≤ m ∧ m < el.length
  · obtain ⟨mn, rfl⟩ : ∃ n : Nat, m = n := ⟨m.toNat, by omega⟩
    go_wp2_with fail
    refine (mnew_any _ _ _ _ ⟨l, el, inp⟩ mn dl.length (dl.map (Value.int .u8)) w5 HU5.out.1 HU5.out.2.1 HU5.out.2.2 (ints_oneCell .u8 _) HI5.out (by have := hm.2; show mn < el.length; omega) (by show l.length * 16 ≤ _; omega) (by show el.length * 16 ≤ _; omega) (by omega) hsz).mono ?_
    rintro e w6 hN
    obtain ⟨M, tM, VM, cM, rfl, RM, hb6, tl6, -⟩ := hN
    have HB6 : Hid (Below w.heap.size w w6) := HB5.out.trans (hb6.mono HB5.out.size)
    have hx6 := (hb6.block _ hl5).trans HX5.out
    have y0 : w6.cell? ⟨w.heap.size, 0, none⟩ = some (.slice wa0 l.length wc0) := by simp [World.cell?, hx6]
    have y1 : w6.cell? ⟨w.heap.size, 1, none⟩ = some (.slice ea0 el.length ec0) := by simp [World.cell?, hx6]
    have y2 : w6.cell? ⟨w.heap.size, 2, none⟩ = some (.int .i64 mn) := by simp [World.cell?, hx6]
    have y3 : w6.cell? ⟨w.heap.size, 3, none⟩ = some (.slice da0 dl.length dc0) := by simp [World.cell?, hx6]
    have HM6 : Hid (MAt w6 tM M ⟨l, el, inp⟩ 0 (newF ⟨l, el, inp⟩ mn)) := ⟨_, _, _, RM, newF_good HE.out hm⟩
    have HTM := Lib.hid (And.intro (fun k (hk : k < w.heap.size + 1) => tl6 k (Nat.lt_of_lt_of_le hk hl5)) RM.lt)
    have hl6 : w.heap.size < w6.heap.size := (Array.getElem?_eq_some_iff.1 hx6).1
    have HX6 := Lib.hid hx6
    clear RM hb6 tl6 hx6 hl5 HX5 HB5 HU5 HI5
    go_wp2_with fail
    obtain ⟨x, hxa, hx3⟩ : ∃ x : Nat, a % 300 = x ∧ x < 300 := ⟨(a % 300).toNat, by omega, by omega⟩
    rw [hxa]
    clear hxa
    obtain ⟨s0, hs0⟩ : ∃ s0, s0 = newF ⟨l, el, inp⟩ mn := ⟨_, rfl⟩
    rw [← hs0] at HM6
    clear hs0
    refine (HM6.out.run HE.out x (by omega)).mono ?_
    rintro e w7 ⟨rfl, tM1, hM7, hF7⟩
    have HM7 := Lib.hid hM7
    have HB7 : Hid (Below w.heap.size w w7) := Below.ran HB6.out hF7 HB6.out.size (fun k hk => by rw [HTM.out.1 k (by omega)]; omega)
    have HT7 := Lib.hid (hF7.low (b := w.heap.size + 1) hl6 HTM.out.1)
    have HBX7 : Hid (w7.heap[w.heap.size]? = some (.cells #[.slice wa0 l.length wc0, .slice ea0 el.length ec0, .int .i64 mn, .slice da0 dl.length dc0] 26 (0, 0))) := Lib.hid ((hF7.stay w.heap.size hl6 (by rw [HTM.out.1 _ (Nat.lt_succ_self _)]; omega)).trans HX6.out)
    clear hM7 hF7 HM6 HB6 HTM HX6 y0 y1 y2 y3 hl6
    obtain ⟨s1, hs1⟩ : ∃ s1, s1 = (runF ⟨l, el, inp⟩ x s0).2 := ⟨_, rfl⟩
    obtain ⟨k1, hk1⟩ : ∃ k1, k1 = (runF ⟨l, el, inp⟩ x s0).1 := ⟨_, rfl⟩
    rw [← hk1]
    rw [← hs1] at HM7
    clear hs1 hk1
    go_wp2_with fail
    refine (HM7.out.save HE.out (by omega)).mono ?_
    rintro e w8 ⟨q8, rfl, hb8, o8⟩
    have HB8 : Hid (Below w.heap.size w w8) := HB7.out.trans (hb8.mono HB7.out.size)
    have HM8 := Lib.hid (HM7.out.below hb8)
    have HX8 := Lib.hid ((hb8.block _ (Array.getElem?_eq_some_iff.1 HBX7.out).1).trans HBX7.out)
    have HQ8 := Lib.hid (Rd.of_own o8)
    obtain ⟨qa, qc, rfl⟩ := Rd.shape HQ8.out
    have hqk : ∀ k, (Value.slice qa (saveB s1).length qc).ownBlock = some k → tM1 k = 0 := fun k hk => by
      obtain ⟨_, _, _, hRM, _⟩ := HM7.out
      rcases Nat.eq_zero_or_pos (tM1 k) with e | e
      · exact e
      · have h1 := hRM.lt k (by omega)
        have h2 := (oblk o8 k hk).1
        omega
    have HQK := Lib.hid hqk
    obtain ⟨Q, hQ⟩ : ∃ Q, Q = saveB s1 := ⟨_, rfl⟩
    rw [← hQ] at HQ8 HQK
    have HQE := Lib.hid hQ
    have hQl : Q.length ≤ 330000 := by
      obtain ⟨_, _, _, _, hS⟩ := HM8.out
      rw [hQ]; exact saveB_few hS HFE.out (by omega)
    have hQ0 : 0 < Q.length := by rw [hQ]; simp only [saveB, headB, List.length_append, bytesL_length]; omega
    have HQB : Hid (isB Q) := Lib.hid (by rw [hQ]; exact isB_save s1)
    clear hb8 o8 HM7 HB7 HBX7 hqk
    rw [← hQ]
    clear hQ
    obtain ⟨ib, bi0, bz0, bz1, bz2⟩ := parts22 info_B22
    have HR8 : Hid (Rd (w8.alloc (.cells #[] 5)) 1 (.slice qa Q.length qc) Q.length (bytesV Q)) := Lib.hid (Rd.alloc HQ8.out _)
    have q1 : 0 + Q.length ≤ maxLen := by unfold maxLen; omega
    have q2 : (0 + Q.length) * 1 ≤ 140737488355328 := by omega
    obtain ⟨j, hj, hjl⟩ : ∃ j : Nat, c % (Q.length : Int) = j ∧ j < Q.length := ⟨(c % (Q.length : Int)).toNat, by
      have := Int.emod_nonneg c (show (Q.length : Int) ≠ 0 by omega)
      omega, by
      have := Int.emod_nonneg c (show (Q.length : Int) ≠ 0 by omega)
      have := Int.emod_lt_of_pos c (show (0 : Int) < Q.length by omega)
      omega⟩
    obtain ⟨y, hyv⟩ : ∃ y, (bytesV Q)[j]? = some (.int .u8 y) := ⟨Q[j], by simp [bytesV, hjl]⟩
    have HYV := Lib.hid hyv
    clear hyv
    go_wp2_with (at_builtin; refine wpList_append_own_rd _ rfl _ _ 24 rfl w8.heap.size 5 ib (.int .u8 0) 1 1 Try.underlying24 bi0 bz0 bz1 bz2 rfl (by decide) _ 0 [] rfl (lit22 w8 _ _ _ (Nat.le_refl _)) _ Q.length (bytesV Q) rfl HR8.out (bytesV_one _) q1 q2 (by simp) ?_; intro v9 w9 hown9 hgrow9; rw [Nat.zero_add, List.nil_append] at hown9; obtain ⟨rb, rc9, hv9, hrb9, -, ⟨cur9, hcur9⟩, hat9⟩ := osplit hown9 hQ0; subst hv9; have c9 := hat9 j (.int .u8 y) HYV.out; have z9 : w9.frozen? ⟨rb, j, none⟩ = false := (by simp [World.frozen?, hcur9]); have HO9 := Lib.hid hown9; have HG9 := Lib.hid hgrow9; clear hat9 hcur9 hown9 hgrow9)
    have hb9 : Below w8.heap.size w8 w9 := ((Below.refl _ _).alloc (Nat.le_refl _) _).grown HG9.out (by simp) (fun k hk => by cases hk; exact Nat.le_refl _)
    obtain ⟨wB, hwB⟩ : ∃ wB, wB = w9.setCell ⟨rb, j, none⟩ (.int .u8 (bits .xor .u8 y b)) := ⟨_, rfl⟩
    have hrb8 : w8.heap.size ≤ rb := (oblk HO9.out rb rfl).1
    have hbB : Below w8.heap.size w8 wB := by rw [hwB]; exact hb9.setCell hrb8 _
    obtain ⟨R, hR⟩ : ∃ R, R = Q.set j (bits .xor .u8 y b) := ⟨_, rfl⟩
    have hRl : R.length = Q.length := by rw [hR]; simp
    have hRo : wB.ownsRow w8.heap.size 5 1 (.slice (some ⟨rb, 0, none⟩) Q.length rc9) Q.length (bytesV R) := by
      have h9 := oset HO9.out j (.int .u8 (bits .xor .u8 y b))
      rw [← hwB] at h9
      have e : (bytesV Q).set j (.int .u8 (bits .xor .u8 y b)) = bytesV R := by rw [hR]; simp [bytesV, List.map_set]
      rw [e] at h9
      exact h9
    have hRB : isB R := by
      intro z hz
      rw [hR] at hz
      rcases List.mem_or_eq_of_mem_set hz with h | h
      · exact HQB.out z h
      · rw [h]
        show 0 ≤ IntKind.u8.wrap _ ∧ IntKind.u8.wrap _ ≤ 255
        rw [IntKind.wrap_u8']; omega
    have HRD : Hid (RdB wB (.slice (some ⟨rb, 0, none⟩) R.length rc9) R) := Lib.hid (by rw [hRl]; have := Rd.of_own hRo; rw [← hRl] at this; rw [← hRl]; exact this)
    have HBB : Hid (Below w.heap.size w wB) := HB8.out.trans (hbB.mono HB8.out.size)
    have HMB := Lib.hid (HM8.out.below hbB)
    have HXB := Lib.hid ((hbB.block _ (Array.getElem?_eq_some_iff.1 HX8.out).1).trans HX8.out)
    have HQBd : Hid (RdB wB (.slice qa Q.length qc) Q) := Lib.hid (Rd.later HQ8.out hbB)
    rw [← hwB]
    have HRl := Lib.hid hRl
    have HRB := Lib.hid hRB
    clear hwB hb9 hbB hR hRo hRB hrb8 HO9 HG9 c9 z9 HM8 HB8 HX8 HQ8 HR8 HYV hj hRl
    obtain ⟨i1, a1, a2, a3, a4⟩ := info_u8
    obtain ⟨k5, hk5, hk5p, hk50⟩ : ∃ k : Nat, (if (5000 : Int) < (p.length : Int) then (5000 : Int) else (p.length : Int)) = k ∧ k ≤ p.length ∧ k ≤ 5000 := ⟨min p.length 5000, by split <;> omega, by omega, by omega⟩
    obtain ⟨kq, hkq, hkql⟩ : ∃ k : Nat, c % ((Q.length : Int) + 1) = k ∧ k ≤ Q.length := ⟨(c % ((Q.length : Int) + 1)).toNat, by
      have := Int.emod_nonneg c (show ((Q.length : Int) + 1) ≠ 0 by omega)
      omega, by
      have := Int.emod_nonneg c (show ((Q.length : Int) + 1) ≠ 0 by omega)
      have := Int.emod_lt_of_pos c (show (0 : Int) < (Q.length : Int) + 1 by omega)
      omega⟩
    have hpc := Rd.cap_le (HP.out wB HBB.out)
    have hqc := Rd.cap_le HQBd.out
    obtain ⟨va, hva, HVA⟩ : ∃ va, (∀ W : World, (Instr.slice 24 (.slice pa0 p.length pc0) none (some (.int .i64 k5)) none).run Try.prog W = .ok va W) ∧ Hid (RdB wB va (p.take k5)) := ⟨_, fun W => run_slice_to 24 5 Try.underlying24 a1 a3 _ _ _ k5 k5 (by omega) (by omega) W, Lib.hid (by
      have := Rd.take (k := k5) (HP.out wB HBB.out) (by omega)
      unfold RdB
      rw [List.length_take, List.map_take, Nat.min_eq_left (by omega)]
      simpa using this)⟩
    obtain ⟨vq, hvq, HVQ⟩ : ∃ vq, (∀ W : World, (Instr.slice 24 (.slice qa Q.length qc) none (some (.int .i64 kq)) none).run Try.prog W = .ok vq W) ∧ Hid (RdB wB vq (Q.take kq)) := ⟨_, fun W => run_slice_to 24 5 Try.underlying24 a1 a3 _ _ _ kq kq (by omega) (by omega) W, Lib.hid (by
      have := Rd.take (k := kq) HQBd.out (by omega)
      unfold RdB
      rw [List.length_take, List.map_take, Nat.min_eq_left (by omega)]
      simpa using this)⟩
    have ew : IntKind.i64.wrap ((Q.length : Int) + 1) = (Q.length : Int) + 1 := by rw [IntKind.wrap_i64]; omega
    have hQ1 : (Q.length : Int) + 1 ≠ 0 := by omega
    have hQ2 : ((Q.length : Int) + 1 == 0) = false := by simpa using hQ1
    have hQ3 : 0 < (Q.length : Int) + 1 := by omega
    have hc0 : 0 ≤ c := hc.1
    have hwc : IntKind.i64.wrap c = c := by rw [IntKind.wrap_i64]; omega
    have hkt : c.tmod ((Q.length : Int) + 1) = kq := by rw [Int.tmod_eq_emod_of_nonneg hc0]; exact hkq
    obtain ⟨vaa, vac, hvae⟩ := Rd.shape HVA.out
    obtain ⟨vqa, vqc, hvqe⟩ := Rd.shape HVQ.out
    subst hvae hvqe
    have mixed : Try.prog.follows Departure.mixedOrders = true := by kernel_rfl
    go_region_with (fail)
    obtain ⟨wC, hwC⟩ : ∃ wC, wC = (wB.alloc (.cells #[.slice vaa k5 vac, .slice (some ⟨rb, 0, none⟩) Q.length rc9, .slice vqa kq vqc] 24)).drew := ⟨_, rfl⟩
    have hbC : Below wB.heap.size wB wC := by rw [hwC]; exact ((Below.refl _ _).alloc (Nat.le_refl _) _).drew
    have hxC : wC.heap[wB.heap.size]? = some (.cells #[.slice vaa k5 vac, .slice (some ⟨rb, 0, none⟩) Q.length rc9, .slice vqa kq vqc] 24 (0, 0)) := by rw [hwC]; exact heap_alloc_new _ _
    have hel : ∀ k, k < 3 → ∃ a c X, wC.cell? ⟨wB.heap.size, k, none⟩ = some (.slice a X.length c) ∧ RdB wC (.slice a X.length c) X ∧ isB X ∧ X.length ≤ 330000 := fun k hk => by
      have hk5l : (p.take k5).length = k5 := by rw [List.length_take]; omega
      have hkql' : (Q.take kq).length = kq := by rw [List.length_take]; omega
      rcases (by omega : k = 0 ∨ k = 1 ∨ k = 2) with rfl | rfl | rfl
      · refine ⟨vaa, vac, p.take k5, by rw [hk5l]; simp [World.cell?, hxC], Rd.later HVA.out hbC, fun z hz => hpB z (List.mem_of_mem_take hz), by omega⟩
      · refine ⟨some ⟨rb, 0, none⟩, rc9, R, by rw [HRl.out]; simp [World.cell?, hxC], Rd.later HRD.out hbC, HRB.out, by rw [HRl.out]; omega⟩
      · refine ⟨vqa, vqc, Q.take kq, by rw [hkql']; simp [World.cell?, hxC], Rd.later HVQ.out hbC, fun z hz => HQB.out z (List.mem_of_mem_take hz), by omega⟩
    have HEL := Lib.hid hel
    have HBC : Hid (Below w.heap.size w wC) := HBB.out.trans (hbC.mono HBB.out.size)
    have HMC := Lib.hid (HMB.out.below hbC)
    have HXC := Lib.hid ((hbC.block _ (Array.getElem?_eq_some_iff.1 HXB.out).1).trans HXB.out)
    have HQC : Hid (RdB wC (.slice qa Q.length qc) Q) := Lib.hid (Rd.later HQBd.out hbC)
    have hlC : wB.heap.size < wC.heap.size := (Array.getElem?_eq_some_iff.1 hxC).1
    have hlI : w.heap.size < wC.heap.size := (Array.getElem?_eq_some_iff.1 HXC.out).1
    rw [← hwC]
    simp [Act.put, Exit.then]
    clear hwC hbC hxC hel HRD HVA HVQ HRB HRl HQB HBB HMB HXB HQBd hva hvq hkq hkt hk5 hwc ew hQ1 hQ2 hQ3 hpc hqc
    obtain ⟨XB, hXB⟩ : ∃ XB, XB = wB.heap.size := ⟨_, rfl⟩
    rw [← hXB] at HEL hlC ⊢
    clear hXB
    go_wp2_with fail
    go_loopw [78] (fun i wr => ∃ k : Nat, k ≤ 3 ∧ i = .int .i64 k ∧ Hid (Below wC.heap.size wC wr)) (fun i _ => 3 - (intOf i).toNat)
    case atStart => exact ⟨0, by omega, rfl, Lib.hid (Below.refl _ _)⟩
    case round =>
      obtain ⟨wa, rfl⟩ : ∃ wa : World, wa = wr := ⟨_, rfl⟩
      obtain ⟨k, hk, rfl, HK⟩ := hrel
      by_cases hk3 : k < 3
      · have hk3' : (k : Int) < 3 := by omega
        obtain ⟨xa, xc, X, hxe, hxr, hxB, hxl⟩ := HEL.out k hk3
        have kx : wa.cell? ⟨XB, k, none⟩ = some (.slice xa X.length xc) := (HK.out.cell (p := ⟨XB, k, none⟩) hlC).trans hxe
        have HXR := Lib.hid hxr
        have HXX := Lib.hid hxB
        have hxa := (HK.out.block w.heap.size hlI).trans HXC.out
        have y0 : wa.cell? ⟨w.heap.size, 0, none⟩ = some (.slice wa0 l.length wc0) := by simp [World.cell?, hxa]
        have y1 : wa.cell? ⟨w.heap.size, 1, none⟩ = some (.slice ea0 el.length ec0) := by simp [World.cell?, hxa]
        have y2 : wa.cell? ⟨w.heap.size, 2, none⟩ = some (.int .i64 mn) := by simp [World.cell?, hxa]
        have y3 : wa.cell? ⟨w.heap.size, 3, none⟩ = some (.slice da0 dl.length dc0) := by simp [World.cell?, hxa]
        have HB3 : Hid (Below w.heap.size w wa) := HBC.out.trans (HK.out.mono HBC.out.size)
        clear hxe hxr hxB hxa
        go_wp2_with fail
        refine (twin22_any _ l _ el mn _ dl wa (HW.out _ HB3.out) (HEv.out _ HB3.out) (HD.out _ HB3.out) (by omega) (by omega) (by omega)).mono ?_
        rintro e wt ⟨us7, ue7, ud7, rfl, o1, o2, o3, hbt⟩
        have HBt : Hid (Below w.heap.size w wt) := HB3.out.trans (hbt.mono HB3.out.size)
        have HKt : Hid (Below wC.heap.size wC wt) := HK.out.trans (hbt.mono HK.out.size)
        obtain ⟨ua7, uc7, rfl⟩ := (Rd.of_own o1).shape
        obtain ⟨va7, vc7, rfl⟩ := (Rd.of_own o2).shape
        obtain ⟨da7, dd7, rfl⟩ := (Rd.of_own o3).shape
        have HUt := Lib.hid (And.intro (Rd.of_own o1) (And.intro (Rd.of_own o2) (Rd.of_own o3)))
        clear o1 o2 o3 hbt y0 y1 y2 y3 HB3
        go_wp2_with fail
        refine (ints_any _ inp.length (intsV inp) wt (HI.out _ HBt.out) (intsV_one _) hsz).mono ?_
        rintro e wi ⟨vi, rfl, oi, hbi⟩
        have HBi : Hid (Below w.heap.size w wi) := HBt.out.trans (hbi.mono HBt.out.size)
        have HKi : Hid (Below wC.heap.size wC wi) := HKt.out.trans (hbi.mono HKt.out.size)
        obtain ⟨ia8, ic8, rfl⟩ := (Rd.of_own oi).shape
        have HIi := Lib.hid (Rd.of_own oi)
        have HUi := Lib.hid (And.intro (Rd.later HUt.out.1 hbi) (And.intro (Rd.later HUt.out.2.1 hbi) (Rd.later HUt.out.2.2 hbi)))
        clear oi hbi HBt HKt HUt
        have HXi : Hid (Rd (wi.alloc (.cells #[] 5)) 1 (.slice xa X.length xc) X.length (bytesV X)) := Lib.hid (Rd.alloc (Rd.later HXR.out HKi.out) _)
        have e1 : 0 + X.length ≤ maxLen := by unfold maxLen; omega
        have e2 : (0 + X.length) * 1 ≤ 140737488355328 := by omega
        go_wp2_with (at_builtin; refine wpList_append_own_rd _ rfl _ _ 24 rfl wi.heap.size 5 ib (.int .u8 0) 1 1 Try.underlying24 bi0 bz0 bz1 bz2 rfl (by decide) _ 0 [] rfl (lit22 wi _ _ _ (Nat.le_refl _)) _ X.length (bytesV X) rfl HXi.out (bytesV_one _) e1 e2 (by simp) ?_; intro vp wp hownp hgrowp; rw [Nat.zero_add, List.nil_append] at hownp; obtain ⟨pa9, pc9, hvp, -, -⟩ := oshape hownp; subst hvp; have HOp := Lib.hid hownp; have HGp := Lib.hid hgrowp; clear hownp hgrowp)
        have hbp : Below wi.heap.size wi wp := ((Below.refl _ _).alloc (Nat.le_refl _) _).grown HGp.out (by simp) (fun k hk => by cases hk; exact Nat.le_refl _)
        have HBp : Hid (Below w.heap.size w wp) := HBi.out.trans (hbp.mono HBi.out.size)
        have HKp : Hid (Below wC.heap.size wC wp) := HKi.out.trans (hbp.mono HKi.out.size)
        have HUp := Lib.hid (And.intro (Rd.later HUi.out.1 hbp) (And.intro (Rd.later HUi.out.2.1 hbp) (And.intro (Rd.later HUi.out.2.2 hbp) (Rd.later HIi.out hbp))))
        have HPp : Hid (RdB wp (.slice pa9 X.length pc9) X) := Lib.hid (Rd.of_own HOp.out)
        clear hbp HBi HKi HUi HIi HOp HGp HXi
        refine (mload_any _ _ _ _ _ ⟨l, el, inp⟩ mn dl.length (dl.map (Value.int .u8)) X wp HUp.out.1 HUp.out.2.1 HUp.out.2.2.1 (ints_oneCell .u8 _) HUp.out.2.2.2 HPp.out HXX.out (by have := hm.2; show mn < el.length; omega) (by show l.length * 16 ≤ _; omega) (by show el.length * 16 ≤ _; omega) (by omega) hsz (by omega)).mono ?_
        rintro e wl (⟨hnone, rfl, hbl⟩ | ⟨so, O, tO, bO, VO, cO, hsome, rfl, RO, hbl, hlo⟩)
        · have HKl : Hid (Below wC.heap.size wC wl) := HKp.out.trans (hbl.mono HKp.out.size)
          clear hnone hbl
          go_wp2_with fail
          exact ⟨⟨k + 1, by omega, by simp, HKl⟩, by simp [intOf]; omega⟩
        · have HKl : Hid (Below wC.heap.size wC wl) := HKp.out.trans (hbl.mono HKp.out.size)
          obtain ⟨hsv, hsn⟩ := loadF_inv HXX.out hsome
          have HOl : Hid (MAt wl tO O ⟨l, el, inp⟩ X.length so) := ⟨_, _, _, RO, hsn⟩
          have HSV := Lib.hid hsv
          have hxl' := hxl
          have HXl : Hid (RdB wl (.slice xa X.length xc) X) := Lib.hid (Rd.later HXR.out HKl.out)
          have HTO := Lib.hid (fun k (hk : k < wC.heap.size) => hlo k (Nat.lt_of_lt_of_le hk HKp.out.size))
          clear hsome RO hbl hlo hsv hsn
          go_wp2_with fail
          refine (HOl.out.save HE.out (by omega)).mono ?_
          rintro e ws ⟨ps, rfl, hbs, ops⟩
          have HKs : Hid (Below wC.heap.size wC ws) := HKl.out.trans (hbs.mono HKl.out.size)
          have HOs := Lib.hid (HOl.out.below hbs)
          have HPs := Lib.hid (Rd.of_own ops)
          obtain ⟨sa9, sc9, rfl⟩ := Rd.shape HPs.out
          have HXs : Hid (RdB ws (.slice xa X.length xc) X) := Lib.hid (Rd.later HXl.out hbs)
          clear hbs ops HOl HKl HXl
          go_wp2_with fail
          refine (msame_any _ _ (saveB so) X ws HPs.out HXs.out (isB_save so) HXX.out).mono ?_
          rintro e wv ⟨rfl, hwv⟩
          obtain rfl : wv = ws := hwv.symm
          have heq : eqL (saveB so) X = true := by rw [HSV.out]; exact eqL_self X
          rw [heq]
          clear heq
          go_wp2_with fail
          refine (HOs.out.run HE.out 50 (by omega)).mono ?_
          rintro e wn ⟨rfl, tO1, hOn, hFn⟩
          have HKn : Hid (Below wC.heap.size wC wn) := Below.ran HKs.out hFn HKs.out.size (fun k hk => by rw [HTO.out k hk]; omega)
          have HOn := Lib.hid hOn
          clear hOn hFn HOs HKs HPs HXs
          go_wp2_with fail
          refine HOn.out.calls.mono ?_
          rintro e wq ⟨vq9, xq9, rfl, -, -, hbq⟩
          have HKq : Hid (Below wC.heap.size wC wq) := HKn.out.trans (hbq.mono HKn.out.size)
          clear hbq
          go_wp2_with fail
          exact ⟨⟨k + 1, by omega, by simp, HKq⟩, by simp [intOf]; omega⟩
      · obtain rfl : k = 3 := by omega
        have HMa := Lib.hid (HMC.out.below HK.out)
        have HBa : Hid (Below w.heap.size w wa) := HBC.out.trans (HK.out.mono HBC.out.size)
        have HQa : Hid (RdB wa (.slice qa Q.length qc) Q) := Lib.hid (Rd.later HQC.out HK.out)
        by_cases h0 : s1.end_ = 0
        · have hR := HMa.out.run HE.out 1 (by omega)
          have e1 : runF ⟨l, el, inp⟩ 1 s1 = (1, (stepF ⟨l, el, inp⟩ s1).1) := by rw [mrunF_step h0, runF_zero]
          simp only [e1, Int.natCast_one] at hR
          have hne : saveB (stepF ⟨l, el, inp⟩ s1).1 ≠ Q := by
            obtain ⟨_, _, _, _, hS⟩ := HMa.out
            rw [HQE.out]
            exact step_bytes hS HE.out h0
          obtain ⟨s2, hs2⟩ : ∃ s2, s2 = (stepF ⟨l, el, inp⟩ s1).1 := ⟨_, rfl⟩
          rw [← hs2] at hR hne
          have HR := Lib.hid hR
          have HNE := Lib.hid hne
          clear hR e1 hne hs2 h0
          go_wp2_with fail
          refine HR.out.mono ?_
          rintro e wn ⟨rfl, tM2, hMn, hFn⟩
          have HBn : Hid (Below w.heap.size w wn) := Below.ran HBa.out hFn HBa.out.size (fun k hk => by rw [HT7.out k (by omega)]; omega)
          have HMn := Lib.hid hMn
          have HQn : Hid (RdB wn (.slice qa Q.length qc) Q) := Lib.hid (by
            refine Rd.keepB HQa.out fun hn k hk hb => hFn.stay k hk ?_
            rw [HQK.out k hb]
            omega)
          clear hMn hFn HR
          go_wp2_with fail
          refine (HMn.out.save HE.out (by omega)).mono ?_
          rintro e ws ⟨ps, rfl, hbs, ops⟩
          have HBs : Hid (Below w.heap.size w ws) := HBn.out.trans (hbs.mono HBn.out.size)
          have HPs := Lib.hid (Rd.of_own ops)
          obtain ⟨sa9, sc9, rfl⟩ := Rd.shape HPs.out
          have HQs : Hid (RdB ws (.slice qa Q.length qc) Q) := Lib.hid (Rd.later HQn.out hbs)
          clear hbs ops
          go_wp2_with fail
          refine (msame_any _ _ (saveB s2) Q ws HPs.out HQs.out (isB_save s2) (by rw [HQE.out]; exact isB_save s1)).mono ?_
          rintro e wv ⟨rfl, hwv⟩
          obtain rfl : wv = ws := hwv.symm
          rw [eqL_ne HNE.out]
          go_wp2_with fail
          go_ret
          exact ⟨rfl, HBs.out⟩
        · have hR := HMa.out.run HE.out 1 (by omega)
          simp only [mrunF_stop h0, Int.natCast_zero] at hR
          have HR := Lib.hid hR
          clear hR
          go_wp2_with fail
          refine HR.out.mono ?_
          rintro e wn ⟨rfl, tM2, hMn, hFn⟩
          have HBn : Hid (Below w.heap.size w wn) := Below.ran HBa.out hFn HBa.out.size (fun k hk => by rw [HT7.out k (by omega)]; omega)
          clear hMn hFn HR
          go_wp2_with fail
          go_ret
          exact ⟨rfl, HBn.out⟩
  · have hm' : m < 0 ∨ (el.length : Int) ≤ m := by omega
    go_wp2_with fail
    refine (mnew_none _ _ _ _ m el w5 HU5.out.2.1 hm').mono ?_
    rintro e w6 ⟨rfl, hb6⟩
    have HB6 : Hid (Below w.heap.size w w6) := HB5.out.trans (hb6.mono HB5.out.size)
    clear hb6 hl5 HX5 HB5 HU5 HI5
    go_wp2_with fail
    go_ret
    exact ⟨rfl, HB6.out⟩
end Go.Proofs.Yteeapfgjjankeaa.Mach
