/- Vet: the document's check of an image. -/
import Derived.Test.YtnanlkoldloolaaDoorQ15
namespace Go.Proofs.YtnanlkoldloolaaDoor
open Go.RowKit

theorem seenS_next {sl : List (Int × Int)} {k : Nat} (h : k < sl.length) (x : Int) : seenS (sl.take (k + 1)) x = (seenS (sl.take k) x || (sl[k].1 == x)) := by
  unfold seenS
  rw [List.take_succ_eq_append_getElem h, List.any_append]
  simp

theorem mostE_pos (l : List (Int × Int)) : 0 ≤ mostE l := by
  have h : ∀ (l : List (Int × Int)) (m : Int), 0 ≤ m → 0 ≤ l.foldl (fun m x => if m < x.2 then x.2 else m) m := by
    intro l
    induction l with
    | nil => intro m hm; exact hm
    | cons x r ih => intro m hm; simp only [List.foldl_cons]; apply ih; split <;> omega
  exact h l 0 (by omega)

set_option maxRecDepth 100000 in
set_option maxHeartbeats 16000000 in
theorem refcheck_any (wv : Value) (l : List W) (ev : Value) (el : List (Int × Int)) (m : Int) (pa : Option Addr) (pn pc : Nat) (w : World) (hv : RdW w wv l) (hev : RdE w ev el)
   (Good : Int → Nat → List (Int × Int) → Prop) (hgood : ∀ mn sl, Good 0 mn sl → ∀ s ∈ sl, 0 ≤ s.1 ∧ s.1 ≤ 2147483647)
   (HF : ∀ x ∈ l, ∀ W : World, Calls Tryd.prog 20 #[.agg #[.int .u8 x.op, .int .u8 x.a, .int .u8 x.b, .int .u8 x.c, .int .i64 x.imm]] W fun e w' => e = .returned (.bool (formB x)) ∧ Below W.heap.size W w')
   (HD : ∀ W : World, Below w.heap.size w W → Calls Tryd.prog 21 #[.slice pa pn pc] W fun e w' => (∃ sa sn sc ma mn mc tv sl, ∃ ok : Bool, e = .returned (.tuple #[.agg #[.slice sa sn sc, .slice ma mn mc, tv], .bool ok]) ∧ RdE w' tv sl ∧ Good (if ok then 0 else 3) mn sl) ∧ Below W.heap.size W w') :
   Calls Tryd.prog 11 #[.agg #[wv, ev, .int .i64 m, .slice pa pn pc]] w fun e w' => (∃ at' er, CheckIs l el m Good at' er ∧ e = .returned (.tuple #[.int .i64 at', .int .i64 er])) ∧ Below w.heap.size w w' := by
  have hl9 : l.length ≤ 9223372036854775807 := Rd.le hv
  have he9 : el.length ≤ 9223372036854775807 := Rd.le hev
  obtain ⟨wa, wc, rfl⟩ := Rd.shape hv
  obtain ⟨ea, ec, rfl⟩ := Rd.shape hev
  have HV := Lib.hid hv
  have HE := Lib.hid hev
  have HHD := Lib.hid HD
  have HHF := Lib.hid HF
  have HG := Lib.hid hgood
  clear hv hev HD hgood HF
  go_enter Tryd.func11, Tryd.ntmps11
  have HBA : ∀ o, Hid (Below w.heap.size w (w.alloc o)) := fun o => (Below.refl _ _).alloc (Nat.le_refl _) o
  by_cases h0 : l.length < 1
  · have g0 : ((l.length : Int) == 0) = true := beq_iff_eq.mpr (by omega)
    go_wp2_with fail
    go_ret2
    exact ⟨⟨0, 2, .inl ⟨by omega, rfl, rfl⟩, rfl⟩, (HBA _).out⟩
  have g0 : ((l.length : Int) == 0) = false := beq_eq_false_iff_ne.mpr (by omega)
  by_cases h1 : 262144 < l.length
  · go_wp2_with fail
    go_ret2
    exact ⟨⟨0, 2, .inl ⟨by omega, rfl, rfl⟩, rfl⟩, (HBA _).out⟩
  by_cases h2 : m < 0
  · go_wp2_with fail
    go_ret2
    exact ⟨⟨0, 1, .inr ⟨by omega, .inl ⟨by omega, rfl, rfl⟩⟩, rfl⟩, (HBA _).out⟩
  by_cases h3 : (el.length : Int) ≤ m
  · go_wp2_with fail
    go_ret2
    exact ⟨⟨0, 1, .inr ⟨by omega, .inl ⟨by omega, rfl, rfl⟩⟩, rfl⟩, (HBA _).out⟩
  rcases RdE.split HE.out with ⟨_, _, _, rfl⟩ | ⟨eb, eoff, ecc, hev, hep, hel2, _, heb, hecell⟩
  · simp at h3; omega
  obtain ⟨rfl, -, rfl⟩ := hev
  have HEC := Lib.hid hecell
  clear hecell
  go_wp2_with fail
  go_loopw [45, 5] (fun i mo wr => ∃ j : Nat, j ≤ el.length ∧ i = .int .i64 j ∧ mo = .int .i64 (mostE (el.take j)) ∧ (∀ i (hi : i < el.length), i < j → entBad l.length el[i] = false) ∧ Below (w.heap.size + 1) (w.alloc (.cells #[.slice wa l.length wc, .slice (some ⟨eb, eoff, none⟩) el.length ec, .int .i64 m, .slice pa pn pc] 26)) wr) (fun i _ _ => el.length - (intOf i).toNat)
  case atStart => exact ⟨0, by omega, rfl, rfl, fun i _ h => absurd h (by omega), Below.refl _ _⟩
  case round =>
    obtain ⟨j, hj, rfl, rfl, hall, hbel⟩ := hrel
    have HA := Lib.hid hall
    have HB := Lib.hid hbel
    have hs1 : w.heap.size + 1 ≤ wr.heap.size := by simpa using hbel.size
    have hs2 : w.heap.size < wr.heap.size := by omega
    have hcl : ∀ p : Addr, p.block < w.heap.size → wr.cell? p = w.cell? p := fun p hp => by
      rw [hbel.cell (by omega)]; exact World.cell?_alloc_lt _ _ _ hp
    have k0 : wr.cell? ⟨w.heap.size, 0, none⟩ = some (.slice wa l.length wc) := by rw [hbel.cell (by simp)]; simp
    have k1 : wr.cell? ⟨w.heap.size, 1, none⟩ = some (.slice (some ⟨eb, eoff, none⟩) el.length ec) := by rw [hbel.cell (by simp)]; simp
    have k2 : wr.cell? ⟨w.heap.size, 2, none⟩ = some (.int .i64 m) := by rw [hbel.cell (by simp)]; simp
    have k3 : wr.cell? ⟨w.heap.size, 3, none⟩ = some (.slice pa pn pc) := by rw [hbel.cell (by simp)]; simp
    clear hall hbel
    obtain ⟨mo, hmo⟩ : ∃ mo, mostE (el.take j) = mo := ⟨_, rfl⟩
    have HMO := Lib.hid hmo
    rw [hmo]
    clear hmo
    by_cases hlt : j < el.length
    · --<
      obtain ⟨d0, d1⟩ := HEC.out j hlt
      rw [← hcl ⟨eb, eoff + j * 2, none⟩ heb] at d0
      rw [← hcl ⟨eb, eoff + j * 2 + 1, none⟩ heb] at d1
      clear hcl
      obtain ⟨x, hx⟩ : ∃ x, el[j] = x := ⟨_, rfl⟩
      have HX := Lib.hid hx
      rw [hx] at d0 d1
      clear hx
      have HM : Hid (mostE (el.take (j + 1)) = if mo < x.2 then x.2 else mo) := by have := mostE_take hlt; rw [HMO.out, HX.out] at this; exact this
      have HB3 : ∀ o, Hid (Below (w.heap.size + 1) (w.alloc (.cells #[.slice wa l.length wc, .slice (some ⟨eb, eoff, none⟩) el.length ec, .int .i64 m, .slice pa pn pc] 26)) (wr.alloc o)) := fun o => HB.out.alloc hs1 _
      go_wp2_with fail
      all_goals first
        | (go_ret2; exact ⟨⟨j, 17, .inr ⟨by omega, .inr ⟨by omega, 0, j, 17, .inl ⟨j, hlt, by rw [HX.out]; simp [entBad]; omega, HA.out, rfl, rfl, rfl⟩, .inl ⟨by omega, rfl, rfl⟩⟩⟩, rfl⟩, (HBA _).out.trans ((HB3 _).out.mono (by omega))⟩)
        | (refine ⟨⟨j + 1, by omega, by go_num, by rw [HM.out], fun i hi hij => ?_, (HB3 _).out⟩, by simp [intOf]; omega⟩
           by_cases hij2 : i < j
           · exact HA.out i hi hij2
           · obtain rfl : i = j := by omega
             rw [HX.out]; simp [entBad]; omega)
      -->
    · obtain rfl : j = el.length := by omega
      obtain ⟨w1, hw1⟩ : ∃ w1, w1 = wr := ⟨_, rfl⟩
      subst hw1
      have HEN : Hid (EntriesIs l.length el mo 0 0) := .inr ⟨fun x hx => by
        obtain ⟨i, hi, rfl⟩ := List.getElem_of_mem hx
        exact HA.out i hi hi, by rw [← HMO.out, List.take_length], rfl, rfl⟩
      have HB1 : Hid (Below w.heap.size w w1) := (HBA _).out.trans (HB.out.mono (by omega))
      have HMP : Hid (0 ≤ mo) := by rw [← HMO.out]; exact mostE_pos _
      clear HA HB HMO HEC
      rcases HV.out.split with ⟨_, _, _, hl0⟩ | ⟨b, off, c, hwv, hp, hlc, hc9, hb, hcell⟩
      · simp [hl0] at h0
      simp only [Value.slice.injEq] at hwv
      obtain ⟨rfl, -, rfl⟩ := hwv
      have HC := Lib.hid hcell
      clear hcell
      clear hcl hj
      go_wp2_with fail
      go_loopw [78] (fun i wr => ∃ j : Nat, j ≤ l.length ∧ i = .int .i64 j ∧ (∀ i (hi : i < l.length), i < j → wordE l.length el.length mo l[i] = 0) ∧ Below w1.heap.size w1 wr) (fun i _ => l.length - (intOf i).toNat)
      case atStart => exact ⟨0, by omega, rfl, fun i _ h => absurd h (by omega), Below.refl _ _⟩
      case round =>
        obtain ⟨j, hj, rfl, hall, hbel⟩ := hrel
        have HA := Lib.hid hall
        have HB := Lib.hid hbel
        have hs3 : w1.heap.size ≤ wr.heap.size := hbel.size
        have hs4 : w.heap.size < wr.heap.size := by omega
        have i0 : wr.cell? ⟨w.heap.size, 0, none⟩ = some (.slice (some ⟨b, off, none⟩) l.length wc) := by rw [hbel.cell (by simpa using hs2)]; exact k0
        have i1 : wr.cell? ⟨w.heap.size, 1, none⟩ = some (.slice (some ⟨eb, eoff, none⟩) el.length ec) := by rw [hbel.cell (by simpa using hs2)]; exact k1
        have i2 : wr.cell? ⟨w.heap.size, 2, none⟩ = some (.int .i64 m) := by rw [hbel.cell (by simpa using hs2)]; exact k2
        have i3 : wr.cell? ⟨w.heap.size, 3, none⟩ = some (.slice pa pn pc) := by rw [hbel.cell (by simpa using hs2)]; exact k3
        have HCW := Lib.hid (fun (p : Addr) (hp : p.block < w.heap.size) => show wr.cell? p = w.cell? p by rw [hbel.cell (by omega), HB1.out.cell (by omega)])
        clear hall hbel
        by_cases hlt : j < l.length
        · --<
          obtain ⟨d0, d1, d2, d3, d4⟩ := HC.out j hlt
          rw [← HCW.out ⟨b, off + j * 5, none⟩ hb] at d0
          rw [← HCW.out ⟨b, off + j * 5 + 1, none⟩ hb] at d1
          rw [← HCW.out ⟨b, off + j * 5 + 2, none⟩ hb] at d2
          rw [← HCW.out ⟨b, off + j * 5 + 3, none⟩ hb] at d3
          rw [← HCW.out ⟨b, off + j * 5 + 4, none⟩ hb] at d4
          clear HCW k0 k1 k2 k3
          obtain ⟨x, hx⟩ : ∃ x, l[j] = x := ⟨_, rfl⟩
          have HX := Lib.hid hx
          have HFX := Lib.hid (HHF.out x (hx ▸ List.getElem_mem hlt))
          rw [hx] at d0 d1 d2 d3 d4
          clear hx
          obtain ⟨op, a, b', c', imm⟩ := x
          go_wp2_with fail
          refine (HFX.out _).mono ?_
          rintro e w3 ⟨rfl, hb3⟩
          have y0 : w3.cell? ⟨wr.heap.size, 0, none⟩ = some (.int .u8 op) := by rw [hb3.cell (by simp)]; simp
          have y4 : w3.cell? ⟨wr.heap.size, 4, none⟩ = some (.int .i64 imm) := by rw [hb3.cell (by simp)]; simp
          have z0 : w3.cell? ⟨w.heap.size, 0, none⟩ = some (.slice (some ⟨b, off, none⟩) l.length wc) := by rw [hb3.cell (by simp; omega), World.cell?_alloc_lt _ _ _ (by simpa using hs4)]; exact i0
          have z1 : w3.cell? ⟨w.heap.size, 1, none⟩ = some (.slice (some ⟨eb, eoff, none⟩) el.length ec) := by rw [hb3.cell (by simp; omega), World.cell?_alloc_lt _ _ _ (by simpa using hs4)]; exact i1
          have hz3 : wr.heap.size + 1 ≤ w3.heap.size := by have := hb3.size; simpa using this
          have hz4 : wr.heap.size < w3.heap.size := by omega
          have hz5 : w.heap.size < w3.heap.size := by omega
          have HB3 : Hid (Below w1.heap.size w1 w3) := (HB.out.alloc hs3 _).trans (hb3.mono (by simp; omega))
          clear hb3 HFX i0 i1 i2 i3 d0 d1 d2 d3 d4
          have HNX : ∀ (_ : wordE l.length el.length mo ⟨op, a, b', c', imm⟩ = 0), ∀ i (hi : i < l.length), i < j + 1 → wordE l.length el.length mo l[i] = 0 := fun h i hi hij => by
            by_cases hij2 : i < j
            · exact HA.out i hi hij2
            · obtain rfl : i = j := by omega
              rw [HX.out]; exact h
          have HNX := Lib.hid HNX
          have HBT : Hid (Below w.heap.size w w3) := HB1.out.trans (HB3.out.mono (by omega))
          have HNO : ∀ er : Int, wordE l.length el.length mo ⟨op, a, b', c', imm⟩ = er → er ≠ 0 → CheckIs l el m Good j er := fun er h h0 =>
            .inr ⟨by omega, .inr ⟨by omega, mo, 0, 0, HEN.out, .inr ⟨rfl, j, er, .inl ⟨j, hlt, by rw [HX.out, h]; exact h0, HA.out, rfl, by rw [HX.out, h]⟩, .inl ⟨h0, rfl, rfl⟩⟩⟩⟩
          have HNO := Lib.hid HNO
          obtain ⟨fb, hfb⟩ : ∃ fb, formB ⟨op, a, b', c', imm⟩ = fb := ⟨_, rfl⟩
          have HFB := Lib.hid hfb
          rw [hfb]
          clear hfb
          cases fb
          · go_wp2_with fail
            go_ret2
            exact ⟨⟨j, 3, HNO.out 3 (by unfold wordE; rw [HFB.out]; rfl) (by omega), rfl⟩, HBT.out⟩
          have key : ∀ lim : Int, limE l.length el.length mo op = lim → (0 ≤ lim → lim ≤ imm → wordE l.length el.length mo ⟨op, a, b', c', imm⟩ = 17) ∧ ((lim < 0 ∨ imm < lim) → wordE l.length el.length mo ⟨op, a, b', c', imm⟩ = 0) := fun lim h => by
            unfold wordE
            rw [HFB.out, if_pos rfl, h]
            refine ⟨fun h1 h2 => ?_, fun h1 => ?_⟩
            · simp [h1, h2]
            · rw [if_neg]; simp; omega
          have KEY := Lib.hid key
          have hmo0 : 0 ≤ mo := HMP.out
          clear key HFB
          by_cases ho32 : op = 32
          · subst ho32
            have kk := KEY.out (mo) rfl
            by_cases hg : (mo : Int) ≤ imm
            · have HK := Lib.hid (kk.1 (by omega) hg)
              clear kk
              go_wp2_with fail
              go_ret2
              exact ⟨⟨j, 17, HNO.out 17 HK.out (by omega), rfl⟩, HBT.out⟩
            · have HK := Lib.hid (kk.2 (.inr (by omega)))
              clear kk
              go_wp2_with fail
              exact ⟨⟨j + 1, by omega, by go_num, HNX.out HK.out, HB3.out⟩, by simp [intOf]; omega⟩
          have e32 : (op == 32) = false := beq_eq_false_iff_ne.mpr ho32
          by_cases ho33 : op = 33
          · subst ho33
            have kk := KEY.out (mo) rfl
            by_cases hg : (mo : Int) ≤ imm
            · have HK := Lib.hid (kk.1 (by omega) hg)
              clear kk
              go_wp2_with fail
              go_ret2
              exact ⟨⟨j, 17, HNO.out 17 HK.out (by omega), rfl⟩, HBT.out⟩
            · have HK := Lib.hid (kk.2 (.inr (by omega)))
              clear kk
              go_wp2_with fail
              exact ⟨⟨j + 1, by omega, by go_num, HNX.out HK.out, HB3.out⟩, by simp [intOf]; omega⟩
          have e33 : (op == 33) = false := beq_eq_false_iff_ne.mpr ho33
          by_cases ho41 : op = 41
          · subst ho41
            have kk := KEY.out (el.length) rfl
            by_cases hg : (el.length : Int) ≤ imm
            · have HK := Lib.hid (kk.1 (by omega) hg)
              clear kk
              go_wp2_with fail
              go_ret2
              exact ⟨⟨j, 17, HNO.out 17 HK.out (by omega), rfl⟩, HBT.out⟩
            · have HK := Lib.hid (kk.2 (.inr (by omega)))
              clear kk
              go_wp2_with fail
              exact ⟨⟨j + 1, by omega, by go_num, HNX.out HK.out, HB3.out⟩, by simp [intOf]; omega⟩
          have e41 : (op == 41) = false := beq_eq_false_iff_ne.mpr ho41
          by_cases ho45 : op = 45
          · subst ho45
            have kk := KEY.out (l.length) rfl
            by_cases hg : (l.length : Int) ≤ imm
            · have HK := Lib.hid (kk.1 (by omega) hg)
              clear kk
              go_wp2_with fail
              go_ret2
              exact ⟨⟨j, 17, HNO.out 17 HK.out (by omega), rfl⟩, HBT.out⟩
            · have HK := Lib.hid (kk.2 (.inr (by omega)))
              clear kk
              go_wp2_with fail
              exact ⟨⟨j + 1, by omega, by go_num, HNX.out HK.out, HB3.out⟩, by simp [intOf]; omega⟩
          have e45 : (op == 45) = false := beq_eq_false_iff_ne.mpr ho45
          by_cases ho46 : op = 46
          · subst ho46
            have kk := KEY.out (l.length) rfl
            by_cases hg : (l.length : Int) ≤ imm
            · have HK := Lib.hid (kk.1 (by omega) hg)
              clear kk
              go_wp2_with fail
              go_ret2
              exact ⟨⟨j, 17, HNO.out 17 HK.out (by omega), rfl⟩, HBT.out⟩
            · have HK := Lib.hid (kk.2 (.inr (by omega)))
              clear kk
              go_wp2_with fail
              exact ⟨⟨j + 1, by omega, by go_num, HNX.out HK.out, HB3.out⟩, by simp [intOf]; omega⟩
          have e46 : (op == 46) = false := beq_eq_false_iff_ne.mpr ho46
          have hlim : limE l.length el.length mo op = -1 := by simp [limE, e32, e33, e41, e45, e46]
          have HK := Lib.hid ((KEY.out _ hlim).2 (.inl (by omega)))
          clear hlim ho32 ho33 ho41 ho45 ho46
          go_wp2_with fail
          exact ⟨⟨j + 1, by omega, by go_num, HNX.out HK.out, HB3.out⟩, by simp [intOf]; omega⟩
          -->
        · obtain rfl : j = l.length := by omega
          obtain ⟨w2, hw2⟩ : ∃ w2, w2 = wr := ⟨_, rfl⟩
          subst hw2
          have HB2 : Hid (Below w.heap.size w w2) := HB1.out.trans (HB.out.mono (by omega))
          obtain ⟨n, hn1⟩ : ∃ n, n + 1 = l.length := ⟨l.length - 1, by omega⟩
          have hlt2 : n < l.length := by omega
          obtain ⟨d0, -, -, -, -⟩ := HC.out n hlt2
          rw [← HCW.out ⟨b, off + n * 5, none⟩ hb] at d0
          obtain ⟨op, hop⟩ : ∃ op, l[n].op = op := ⟨_, rfl⟩
          rw [hop] at d0
          have HOP := Lib.hid hop
          have hL1 : (l.length : Int) - 1 = (n : Int) := by omega
          have HN1 := Lib.hid hn1
          have HWO : ∀ a2 e2 : Int, (if op = 45 ∨ op = 47 then a2 = 0 ∧ e2 = 0 else a2 = n ∧ e2 = 3) → WordsIs l.length el.length mo l a2 e2 := fun a2 e2 h => wordsIs_end HN1.out HA.out HOP.out h
          have HWO := Lib.hid HWO
          have hb2 : b < w2.heap.size := by omega
          clear hop hn1 k0 k1 k2 k3 HCW HA HB hs1 hs2 HHF hj hlt
          by_cases h45 : op = 45 ∨ op = 47
          · have HWK : Hid (WordsIs l.length el.length mo l 0 0) := HWO.out 0 0 (by rw [if_pos h45]; exact ⟨rfl, rfl⟩)
            have hcond : ((op != 45) && (op != 47)) = false := by rcases h45 with rfl | rfl <;> rfl
            clear HWO HOP
            have CD := HHD.out w2 HB2.out
            have CD := Lib.hid CD
            rcases h45 with rfl | rfl
            all_goals
              go_wp2_with fail
              refine CD.out.mono ?_
              rintro e w3 ⟨⟨sa, sn, sc, ma, mn, mc, tv, sl, ok, rfl, htv, hG⟩, hb3⟩
              have HBB := Lib.hid hb3
              have HB3 : Hid (Below w.heap.size w w3) := HB2.out.trans (hb3.mono (by omega))
              have j0 : w3.cell? ⟨w.heap.size, 0, none⟩ = some (.slice (some ⟨b, off, none⟩) l.length wc) := by rw [hb3.cell (by simpa using hs4)]; exact i0
              have j1 : w3.cell? ⟨w.heap.size, 1, none⟩ = some (.slice (some ⟨eb, eoff, none⟩) el.length ec) := by rw [hb3.cell (by simpa using hs4)]; exact i1
              have j2 : w3.cell? ⟨w.heap.size, 2, none⟩ = some (.int .i64 m) := by rw [hb3.cell (by simpa using hs4)]; exact i2
              have j3 : w3.cell? ⟨w.heap.size, 3, none⟩ = some (.slice pa pn pc) := by rw [hb3.cell (by simpa using hs4)]; exact i3
              have hs5 : w2.heap.size ≤ w3.heap.size := hb3.size
              have hs6 : w.heap.size < w3.heap.size := by omega
              clear hb3 i0 i1 i2 i3 CD d0 hs3
              have HTV := Lib.hid htv
              have HGG := Lib.hid hG
              clear hG
              have hsl9 : sl.length ≤ 9223372036854775807 := Rd.le htv
              obtain ⟨ta, tc, rfl⟩ := Rd.shape htv
              clear htv
              cases ok
              · go_wp2_with fail
                go_ret2
                exact ⟨⟨0, 4, .inr ⟨by omega, .inr ⟨by omega, mo, 0, 0, HEN.out, .inr ⟨rfl, 0, 0, HWK.out, .inr ⟨rfl, 3, mn, sl, HGG.out, .inl ⟨by omega, rfl, rfl⟩⟩⟩⟩⟩, rfl⟩, HB3.out.alloc (by omega) _⟩
              · have HGG : Hid (Good 0 mn sl) := HGG
                go_wp2_with fail
                obtain ⟨w4, hw4⟩ : ∃ w4, w4 = w3.alloc (.cells #[.slice sa sn sc, .slice ma mn mc, .slice ta sl.length tc] 64) := ⟨_, rfl⟩
                rw [← hw4]
                have HTV4 : Hid (RdE w4 (.slice ta sl.length tc) sl) := by rw [hw4]; exact Rd.alloc HTV.out _
                have HB4 : Hid (Below w.heap.size w w4) := by rw [hw4]; exact HB3.out.alloc (by omega) _
                have q1 : w4.cell? ⟨w3.heap.size, 1, none⟩ = some (.slice ma mn mc) := by rw [hw4]; simp
                have q2 : w4.cell? ⟨w3.heap.size, 2, none⟩ = some (.slice ta sl.length tc) := by rw [hw4]; simp
                have q0 : w4.cell? ⟨w.heap.size, 0, none⟩ = some (.slice (some ⟨b, off, none⟩) l.length wc) := by rw [hw4, World.cell?_alloc_lt _ _ _ (by simpa using hs6)]; exact j0
                have hs7 : w3.heap.size < w4.heap.size := by rw [hw4]; simp
                have hs8 : w.heap.size < w4.heap.size := by omega
                have hDB : ∀ a e : Int, DebugIs l mn sl a e → CheckIs l el m Good a e := fun a e h => .inr ⟨by omega, .inr ⟨by omega, mo, 0, 0, HEN.out, .inr ⟨rfl, 0, 0, HWK.out, .inr ⟨rfl, 0, mn, sl, HGG.out, .inr ⟨rfl, h⟩⟩⟩⟩⟩
                have HDB := Lib.hid hDB
                clear hDB hw4 j0 j1 j2 j3 HTV HB3 HBB HB2 HB1 HEN HWK HHD hs5 hs4 hs6
                go_loopw [166] (fun i wr => ∃ j : Nat, j ≤ l.length ∧ i = .int .i64 j ∧ (∀ i (hi : i < l.length), i < j → markBad mn l[i] = false) ∧ Below w4.heap.size w4 wr) (fun i _ => l.length - (intOf i).toNat)
                case atStart => exact ⟨0, by omega, rfl, fun i _ h => absurd h (by omega), Below.refl _ _⟩
                case round =>
                  obtain ⟨j, hj, rfl, hall, hbel⟩ := hrel
                  have HB := Lib.hid hbel
                  have HA := Lib.hid hall
                  have hs9 : w4.heap.size ≤ wr.heap.size := hbel.size
                  have hs10 : w3.heap.size < wr.heap.size := by omega
                  have r1 : wr.cell? ⟨w3.heap.size, 1, none⟩ = some (.slice ma mn mc) := by rw [hbel.cell (by simpa using hs7)]; exact q1
                  have r2 : wr.cell? ⟨w3.heap.size, 2, none⟩ = some (.slice ta sl.length tc) := by rw [hbel.cell (by simpa using hs7)]; exact q2
                  have r0 : wr.cell? ⟨w.heap.size, 0, none⟩ = some (.slice (some ⟨b, off, none⟩) l.length wc) := by rw [hbel.cell (by simpa using hs8)]; exact q0
                  clear hall
                  have HBT : ∀ o, Hid (Below w.heap.size w (wr.alloc o)) := fun o => (HB4.out.trans (HB.out.mono (by omega))).alloc (by omega) _
                  by_cases hlt : j < l.length
                  · --<
                    obtain ⟨d0, d1, d2, d3, d4⟩ := HC.out j hlt
                    have hcl : ∀ p : Addr, p.block < w.heap.size → wr.cell? p = w.cell? p := fun p hp => by
                      rw [hbel.cell (by omega), HB4.out.cell (by omega)]
                    rw [← hcl ⟨b, off + j * 5, none⟩ hb] at d0
                    rw [← hcl ⟨b, off + j * 5 + 1, none⟩ hb] at d1
                    rw [← hcl ⟨b, off + j * 5 + 2, none⟩ hb] at d2
                    rw [← hcl ⟨b, off + j * 5 + 3, none⟩ hb] at d3
                    rw [← hcl ⟨b, off + j * 5 + 4, none⟩ hb] at d4
                    clear hcl hbel q0 q1 q2 r0 r2
                    obtain ⟨x, hx⟩ : ∃ x, l[j] = x := ⟨_, rfl⟩
                    rw [hx] at d0 d1 d2 d3 d4
                    have HX := Lib.hid hx
                    clear hx
                    have hNX : ∀ (_ : markBad mn x = false), ∀ i (hi : i < l.length), i < j + 1 → markBad mn l[i] = false := fun h i hi hij => by
                      by_cases hij2 : i < j
                      · exact HA.out i hi hij2
                      · obtain rfl : i = j := by omega
                        rw [HX.out]; exact h
                    have HNX := Lib.hid hNX
                    clear hNX
                    have HMB : Hid (markBad mn x = (x.op == 44 && decide ((mn : Int) ≤ x.imm))) := rfl
                    obtain ⟨op, a, b', c', imm⟩ := x
                    by_cases h44 : op = 44
                    · subst h44
                      by_cases him : (mn : Int) ≤ imm
                      · have HMB : Hid (markBad mn ⟨44, a, b', c', imm⟩ = true) := Lib.hid (by rw [HMB.out]; simp [him])
                        go_wp2_with fail
                        go_ret2
                        exact ⟨⟨j, 14, HDB.out _ _ (.inl ⟨j, hlt, by rw [HX.out]; exact HMB.out, HA.out, rfl, rfl⟩), rfl⟩, (HBT _).out⟩
                      · have HMB : Hid (markBad mn ⟨44, a, b', c', imm⟩ = false) := Lib.hid (by rw [HMB.out]; simp; omega)
                        go_wp2_with fail
                        exact ⟨⟨j + 1, by omega, by go_num, HNX.out HMB.out, HB.out.alloc hs9 _⟩, by simp [intOf]; omega⟩
                    · have e44 : (op == 44) = false := beq_eq_false_iff_ne.mpr h44
                      have HMB : Hid (markBad mn ⟨op, a, b', c', imm⟩ = false) := Lib.hid (by rw [HMB.out]; simp [e44])
                      clear h44
                      go_wp2_with fail
                      exact ⟨⟨j + 1, by omega, by go_num, HNX.out HMB.out, HB.out.alloc hs9 _⟩, by simp [intOf]; omega⟩
                    -->
                  · obtain rfl : j = l.length := by omega
                    obtain ⟨w5, hw5⟩ : ∃ w5, w5 = wr := ⟨_, rfl⟩
                    subst hw5
                    have HA1 := Lib.hid HA.out
                    have HB5 : Hid (Below w.heap.size w w5) := HB4.out.trans (HB.out.mono (by omega))
                    have HTV5 : Hid (RdE w5 (.slice ta sl.length tc) sl) := Rd.later HTV4.out (HB.out.mono (by omega))
                    clear HA hbel HB HTV4 HB4 q0 q1 q2 r1
                    go_wp2_with fail
                    go_loopw [187] (fun i wr => ∃ j : Nat, j ≤ sl.length ∧ i = .int .i64 j ∧ (∀ i (hi : i < sl.length), i < j → siteBad l sl[i] = false) ∧ Below w5.heap.size w5 wr) (fun i _ => sl.length - (intOf i).toNat)
                    case atStart => exact ⟨0, by omega, rfl, fun i _ h => absurd h (by omega), Below.refl _ _⟩
                    case round =>
                      obtain ⟨j, hj, rfl, hall, hbel⟩ := hrel
                      have HB := Lib.hid hbel
                      have HA := Lib.hid hall
                      have hs11 : w5.heap.size ≤ wr.heap.size := hbel.size
                      have hs12 : w3.heap.size < wr.heap.size := by omega
                      have hs13 : w.heap.size < wr.heap.size := by omega
                      have t2 : wr.cell? ⟨w3.heap.size, 2, none⟩ = some (.slice ta sl.length tc) := by rw [hbel.cell (by simpa using hs10)]; exact r2
                      have t0 : wr.cell? ⟨w.heap.size, 0, none⟩ = some (.slice (some ⟨b, off, none⟩) l.length wc) := by rw [hbel.cell (by show w.heap.size < w5.heap.size; omega)]; exact r0
                      have HCW := Lib.hid (fun (p : Addr) (hp : p.block < w.heap.size) => show wr.cell? p = w.cell? p by rw [hbel.cell (by omega), HB5.out.cell (by omega)])
                      clear hall
                      have HBT : ∀ o, Hid (Below w.heap.size w (wr.alloc o)) := fun o => (HB5.out.trans (HB.out.mono (by omega))).alloc (by omega) _
                      by_cases hlt : j < sl.length
                      · --<
                        rcases RdE.split HTV5.out with ⟨_, _, _, rfl⟩ | ⟨tb, toff, tcc, htv, htp, htl, _, htb, htcell⟩
                        · simp at hlt
                        obtain ⟨rfl, -, rfl⟩ := htv
                        obtain ⟨d0, d1⟩ := htcell j hlt
                        rw [← hbel.cell (by simpa using htb)] at d0 d1
                        clear htcell hbel
                        obtain ⟨s, hs⟩ : ∃ s, sl[j] = s := ⟨_, rfl⟩
                        rw [hs] at d0 d1
                        have hsg := HG.out mn sl HGG.out sl[j] (List.getElem_mem hlt)
                        rw [hs] at hsg
                        have HX := Lib.hid hs
                        clear hs
                        have hb7 : b < wr.heap.size := by omega
                        have htb7 : tb < wr.heap.size := by omega
                        obtain ⟨k, hk⟩ : ∃ k : Nat, s.1 = k := ⟨s.1.toNat, by omega⟩
                        have HK := Lib.hid hk
                        rw [hk] at d0
                        have hsgk : (k : Int) ≤ 2147483647 := by rw [← hk]; exact hsg.2
                        clear hk hsg
                        by_cases hkl : k < l.length
                        · have hge : decide ((l.length : Int) ≤ k) = false := decide_eq_false (by omega)
                          obtain ⟨f0, -, -, -, -⟩ := HC.out k hkl
                          rw [← HCW.out ⟨b, off + k * 5, none⟩ hb] at f0
                          obtain ⟨op, hop⟩ : ∃ op, l[k].op = op := ⟨_, rfl⟩
                          rw [hop] at f0
                          have HOP := Lib.hid hop
                          clear hop HCW
                          have hSB : siteBad l s = !trapsB op := by
                            unfold siteBad
                            rw [HK.out]
                            simp [hkl, HOP.out]; omega
                          have HSB := Lib.hid hSB
                          clear hSB
                          go_wp2_with fail
                          refine (refTraps_any op _).mono ?_
                          rintro e w7 ⟨rfl, rfl⟩
                          cases htr : trapsB op
                          · have HTR := Lib.hid htr
                            clear htr
                            go_wp2_with fail
                            go_ret2
                            exact ⟨⟨j, 14, HDB.out _ _ (.inr ⟨HA1.out, .inl ⟨j, hlt, by rw [HX.out, HSB.out, HTR.out]; rfl, HA.out, rfl, rfl⟩⟩), rfl⟩, (HBT _).out⟩
                          · have HTR := Lib.hid htr
                            clear htr
                            have HH : ∀ i (hi : i < sl.length), i < j + 1 → siteBad l sl[i] = false := fun i hi hij => by
                              by_cases hij2 : i < j
                              · exact HA.out i hi hij2
                              · obtain rfl : i = j := by omega
                                rw [HX.out, HSB.out, HTR.out]; rfl
                            have HH := Lib.hid HH
                            go_wp2_with fail
                            exact ⟨⟨j + 1, by omega, by go_num, HH.out, HB.out.alloc hs11 _⟩, by simp [intOf]; omega⟩
                        · have hge : decide ((l.length : Int) ≤ k) = true := decide_eq_true (by omega)
                          clear HCW
                          go_wp2_with fail
                          go_ret2
                          exact ⟨⟨j, 14, HDB.out _ _ (.inr ⟨HA1.out, .inl ⟨j, hlt, by rw [HX.out]; unfold siteBad; rw [HK.out]; simp; left; omega, HA.out, rfl, rfl⟩⟩), rfl⟩, (HBT _).out⟩
                        -->
                      · obtain rfl : j = sl.length := by omega
                        obtain ⟨w6, hw6⟩ : ∃ w6, w6 = wr := ⟨_, rfl⟩
                        subst hw6
                        have HA2 := Lib.hid HA.out
                        have HB6 : Hid (Below w.heap.size w w6) := HB5.out.trans (HB.out.mono (by omega))
                        have HTV6 : Hid (RdE w6 (.slice ta sl.length tc) sl) := Rd.later HTV5.out (HB.out.mono (by omega))
                        clear HA hbel HB HTV5 HB5 r0 r2 HCW
                        go_wp2_with fail
                        go_loopw [212] (fun i wr => ∃ j : Nat, j ≤ l.length ∧ i = .int .i64 j ∧ (∀ i (hi : i < l.length), i < j → unsited sl i l[i] = false) ∧ Below w6.heap.size w6 wr) (fun i _ => l.length - (intOf i).toNat)
                        case atStart => exact ⟨0, by omega, rfl, fun i _ h => absurd h (by omega), Below.refl _ _⟩
                        case round =>
                          obtain ⟨j, hj, rfl, hall, hbel⟩ := hrel
                          have HB := Lib.hid hbel
                          have HA := Lib.hid hall
                          have hs14 : w6.heap.size ≤ wr.heap.size := hbel.size
                          have hs15 : w3.heap.size < wr.heap.size := by omega
                          have hs16 : w.heap.size < wr.heap.size := by omega
                          clear hall
                          by_cases hlt : j < l.length
                          · --<
                            obtain ⟨d0, d1, d2, d3, d4⟩ := HC.out j hlt
                            have hcl : ∀ p : Addr, p.block < w.heap.size → wr.cell? p = w.cell? p := fun p hp => by
                              rw [hbel.cell (by omega), HB6.out.cell (by omega)]
                            rw [← hcl ⟨b, off + j * 5, none⟩ hb] at d0
                            rw [← hcl ⟨b, off + j * 5 + 1, none⟩ hb] at d1
                            rw [← hcl ⟨b, off + j * 5 + 2, none⟩ hb] at d2
                            rw [← hcl ⟨b, off + j * 5 + 3, none⟩ hb] at d3
                            rw [← hcl ⟨b, off + j * 5 + 4, none⟩ hb] at d4
                            have v2 : wr.cell? ⟨w3.heap.size, 2, none⟩ = some (.slice ta sl.length tc) := by rw [hbel.cell (by show w3.heap.size < w6.heap.size; omega)]; exact t2
                            clear hcl hbel t2
                            obtain ⟨x, hx⟩ : ∃ x, l[j] = x := ⟨_, rfl⟩
                            rw [hx] at d0 d1 d2 d3 d4
                            have HX := Lib.hid hx
                            clear hx
                            obtain ⟨op, a, b', c', imm⟩ := x
                            obtain ⟨wo, hwo⟩ : ∃ wo, wo = wr := ⟨_, rfl⟩
                            subst hwo
                            go_wp2_with fail
                            refine (refTraps_any op _).mono ?_
                            rintro e w8 ⟨rfl, rfl⟩
                            have HNX : ∀ (_ : unsited sl j ⟨op, a, b', c', imm⟩ = false), ∀ i (hi : i < l.length), i < j + 1 → unsited sl i l[i] = false := fun h i hi hij => by
                              by_cases hij2 : i < j
                              · exact HA.out i hi hij2
                              · obtain rfl : i = j := by omega
                                rw [HX.out]; exact h
                            have HNX := Lib.hid HNX
                            obtain ⟨tr, htr⟩ : ∃ tr, trapsB op = tr := ⟨_, rfl⟩
                            have HUN : Hid (unsited sl j ⟨op, a, b', c', imm⟩ = (tr && !seenS sl j)) := Lib.hid (by unfold unsited; rw [htr])
                            rw [htr]
                            clear htr
                            go_wp2_with fail
                            obtain ⟨w7, hw7⟩ : ∃ w7, w7 = wo.alloc (.cells #[.int .u8 op, .int .u8 a, .int .u8 b', .int .u8 c', .int .i64 imm] 47) := ⟨_, rfl⟩
                            rw [← hw7]
                            have HB7 : Hid (Below w6.heap.size w6 w7) := by rw [hw7]; exact HB.out.alloc hs14 _
                            have hs17 : w6.heap.size ≤ w7.heap.size := HB7.out.size
                            clear hw7 d0 d1 d2 d3 d4 v2 HB
                            go_loopw [224, 19] (fun i f wq => ∃ k : Nat, k ≤ sl.length ∧ i = .int .i64 k ∧ f = .bool (!tr || seenS (sl.take k) j) ∧ Below w7.heap.size w7 wq) (fun i _ _ => sl.length - (intOf i).toNat)
                            case atStart => exact ⟨0, by omega, rfl, by simp [seenS], Below.refl _ _⟩
                            case round =>
                              obtain ⟨k, hk, rfl, rfl, hbel⟩ := hrel
                              have HB := Lib.hid hbel
                              have hs18 : w7.heap.size ≤ wr.heap.size := hbel.size
                              have HBN : Hid (Below w6.heap.size w6 wr) := HB7.out.trans (HB.out.mono (by omega))
                              have HBT : Hid (Below w.heap.size w wr) := HB6.out.trans (HBN.out.mono (by omega))
                              clear hbel
                              obtain ⟨fb, hfb⟩ : ∃ fb, (!tr || seenS (sl.take k) j) = fb := ⟨_, rfl⟩
                              have HFB := Lib.hid hfb
                              rw [hfb]
                              clear hfb
                              by_cases hkl : k < sl.length
                              · rcases RdE.split HTV6.out with ⟨_, _, _, rfl⟩ | ⟨tb, toff, tcc, htv, htp, htl, _, htb, htcell⟩
                                · simp at hkl
                                obtain ⟨rfl, -, rfl⟩ := htv
                                obtain ⟨d0, d1⟩ := htcell k hkl
                                rw [← HBN.out.cell (by simpa using htb)] at d0 d1
                                clear htcell
                                have hsn := seenS_next hkl (j : Int)
                                obtain ⟨s, hs⟩ : ∃ s, sl[k] = s := ⟨_, rfl⟩
                                rw [hs] at d0 d1 hsn
                                clear hs
                                have HSN := Lib.hid hsn
                                clear hsn
                                cases fb
                                · obtain ⟨sb, hsb⟩ : ∃ sb, (s.1 == (j : Int)) = sb := ⟨_, rfl⟩
                                  have HSB := Lib.hid hsb
                                  go_wp2_with fail
                                  refine ⟨⟨k + 1, by omega, by go_num, ?_, HB.out.alloc hs18 _⟩, by simp [intOf]; omega⟩
                                  rw [HSN.out, HSB.out, ← Bool.or_assoc, HFB.out, Bool.false_or]
                                · go_wp2_with fail
                                  refine ⟨⟨k + 1, by omega, by go_num, ?_, HB.out.alloc hs18 _⟩, by simp [intOf]; omega⟩
                                  rw [HSN.out, ← Bool.or_assoc, HFB.out, Bool.true_or]
                              · obtain rfl : k = sl.length := by omega
                                have HFB : Hid ((!tr || seenS sl j) = fb) := by have := HFB.out; rw [List.take_length] at this; exact Lib.hid this
                                cases fb
                                · have HU : Hid (unsited sl j ⟨op, a, b', c', imm⟩ = true) := Lib.hid (by
                                    rw [HUN.out]; have := HFB.out; revert this; cases tr <;> cases seenS sl j <;> simp)
                                  go_wp2_with fail
                                  go_ret2
                                  exact ⟨⟨j, 14, HDB.out _ _ (.inr ⟨HA1.out, .inr ⟨HA2.out, .inl ⟨j, hlt, by rw [HX.out]; exact HU.out, HA.out, rfl, rfl⟩⟩⟩), rfl⟩, HBT.out⟩
                                · have HU : Hid (unsited sl j ⟨op, a, b', c', imm⟩ = false) := Lib.hid (by
                                    rw [HUN.out]; have := HFB.out; revert this; cases tr <;> cases seenS sl j <;> simp)
                                  go_wp2_with fail
                                  exact ⟨⟨j + 1, by omega, by go_num, HNX.out HU.out, HBN.out⟩, by simp [intOf]; omega⟩
                            -->
                          · obtain rfl : j = l.length := by omega
                            have HBT : Hid (Below w.heap.size w wr) := HB6.out.trans (HB.out.mono (by omega))
                            clear hbel
                            go_wp2_with fail
                            go_ret2
                            exact ⟨⟨0, 0, HDB.out _ _ (.inr ⟨HA1.out, .inr ⟨HA2.out, .inr ⟨HA.out, rfl, rfl⟩⟩⟩), rfl⟩, HBT.out⟩
          · have HWK : Hid (WordsIs l.length el.length mo l n 3) := HWO.out n 3 (by rw [if_neg h45]; exact ⟨rfl, rfl⟩)
            have e45 : (op == 45) = false := beq_eq_false_iff_ne.mpr (fun h => h45 (.inl h))
            have e47 : (op == 47) = false := beq_eq_false_iff_ne.mpr (fun h => h45 (.inr h))
            have f45 : (op != 45) = true := by simp [bne, e45]
            have f47 : (op != 47) = true := by simp [bne, e47]
            clear HWO HOP h45
            go_wp2_with fail
            go_ret2
            exact ⟨⟨n, 3, .inr ⟨by omega, .inr ⟨by omega, mo, 0, 0, HEN.out, .inr ⟨rfl, n, 3, HWK.out, .inl ⟨by omega, rfl, rfl⟩⟩⟩⟩, rfl⟩, HB2.out⟩
end Go.Proofs.YtnanlkoldloolaaDoor
