/- Keep: KeepOrder, the walk. -/
import Derived.Test.YtmfhmegkgpaemaaKs
import Derived.Deep.DeepCutAuto
import Derived.Deep.CutBlock
namespace Go.Proofs.Ytmfhmegkgpaemaa
open Go.RowKit

theorem list_n (w : World) (base Bs : Nat) (most : Int) (S : Ms) (n : Nat) (h : KSt w base Bs most S) (hn : S.length = n) (hl : n ≤ 1000) :
    Calls Try.prog 10 #[.pointer (some ⟨Bs, 0, none⟩)] w fun e w' => ∃ a c, e = .returned (.slice a n c) ∧ RdI w' (.slice a n c) (S.map (·.1)) ∧ Below w.heap.size w w' := by
  refine (list_k w base Bs most S h (by omega)).mono ?_
  rintro e w' ⟨u, rfl, hu, hb⟩
  obtain ⟨a, c, rfl⟩ := (Rd.of_own hu).shape
  have hml : (S.map (·.1)).length = n := by rw [List.length_map]; exact hn
  have h2 : RdI w' _ _ := Rd.of_own hu
  rw [hml] at h2 ⊢
  exact ⟨a, c, rfl, h2, hb⟩

set_option maxRecDepth 100000 in
set_option maxHeartbeats 4000000 in
theorem keepOrder_walk (va : Value) (la : List Int) (t : Int) (w : World) (h0 : 0 ≤ t) (h1 : t ≤ 255) (ha : RdB w va la) (hrb : isB la) :
    Calls Try.prog 4 #[va, .int .u8 t] w fun e w' => e = .returned (.bool true) ∧ Below w.heap.size w w' := by
  obtain ⟨aa, ac, rfl⟩ := Rd.shape ha
  have hle1 := ha.le
  obtain ⟨l, hl⟩ : ∃ l, l = la.take 60 := ⟨_, rfl⟩
  obtain ⟨im, mi0, mz0, mz1, mz2⟩ := info_parts infoB
  have hll : l.length = min la.length 60 := by rw [hl, List.length_take, Nat.min_comm]
  have hl60 : l.length ≤ 60 := by omega
  have hcap : l.length ≤ ac := by
    have : la.length ≤ ac := by
      rcases ha.2 with ⟨h1, h2⟩ | ⟨a, c, h1, h2, -⟩
      · rw [h2]; exact Nat.zero_le _
      · cases h1; exact h2
    omega
  have hva : ∀ W, ∀ n : Int, n = l.length → (Instr.slice 29 (.slice aa la.length ac) none (some (.int .i64 n)) none).run Try.prog W = .ok (.slice aa l.length ac) W := fun W n hn =>
    run_slice_to (P := Try.prog) 29 5 Try.underlying29 mi0 mz1 aa la.length ac l.length n hn hcap W
  have HVA := Lib.hid hva
  have HA : Hid (RdB w (.slice aa l.length ac) l) := by
    have h := Rd.take (k := l.length) ha (by omega)
    have e : (la.map (Value.int .u8)).take (l.length * 1) = l.map (Value.int .u8) := by
      rw [hl, ← List.map_take, List.length_take, Nat.mul_one]
      congr 1
      rw [List.take_eq_take_iff]; omega
    rw [e] at h
    exact h
  have HRB : Hid (isB l) := fun x hx => hrb x (List.mem_of_mem_take (hl ▸ hx))
  have HLL := Lib.hid hll
  clear hll hl ha hrb hva
  go_enter Try.func4, Try.ntmps4
  go_wp2_with fail
  refine (awake_any w).mono ?_
  rintro e w1 ⟨rfl, hb⟩
  have HB1 := Lib.hid hb
  clear hb
  go_wp2_with fail
  refine (new_any 64 w1).mono ?_
  rintro e w2 (⟨-, rfl, hst, hb1⟩ | ⟨h, -⟩)
  case inr => exact absurd (by decide) h
  have H2 : Hid (StAt w2 w1.heap.size w1.heap.size 64 (.slice none 0 0) [] [] ∧ Below w1.heap.size w1 w2) := ⟨hst, hb1⟩
  clear hst hb1
  go_wp2_with fail
  refine (new_any 64 w2).mono ?_
  rintro e w3 (⟨-, rfl, hst, hb1⟩ | ⟨h, -⟩)
  case inr => exact absurd (by decide) h
  have hs1 : w.heap.size ≤ w1.heap.size := HB1.out.size
  have H3 : Hid (Two w3 w1.heap.size w1.heap.size [] w2.heap.size [] ∧ Below w.heap.size w w3) :=
    ⟨⟨_, _, _, _, H2.out.1.later hb1, hst.base H2.out.2.size, by have := H2.out.1.lt; omega, by simp [Value.ownBlock]⟩, HB1.out.trans ((H2.out.2.trans (hb1.mono H2.out.2.size)).mono hs1)⟩
  clear hst hb1 HB1 H2
  go_upto_region 7 with fail
  go_cut [0] (fun s0 wx => s0 = .slice aa l.length ac ∧ wx = w3)
  case first =>
    by_cases h60 : (la.length : Int) ≤ 60
    · have hva := fun W => HVA.out W (la.length : Int) (by have := HLL.out; omega)
      go_wp2_with fail
      go_meet
      exact ⟨rfl, rfl⟩
    · have hva := fun W => HVA.out W (60 : Int) (by have := HLL.out; omega)
      go_wp2_with fail
      go_meet
      exact ⟨rfl, rfl⟩
  case rest =>
    obtain ⟨rfl, rfl⟩ := hcut
    go_upto_block 0 with fail
    obtain ⟨k, hk⟩ : ∃ k : Nat, (k : Int) = t % ((l.length : Int) + 1) := ⟨(t % ((l.length : Int) + 1)).toNat, Int.toNat_of_nonneg (Int.emod_nonneg _ (by omega))⟩
    have hkl : k ≤ l.length := by
      have := Int.emod_lt_of_pos t (show (0 : Int) < (l.length : Int) + 1 by omega)
      omega
    rw [← hk]
    clear hk HVA HLL
    go_cut [] (fun wx => Hid (∃ S, Two wx w1.heap.size w1.heap.size S w2.heap.size S ∧ Has S l) ∧ Hid (Below w.heap.size w wx))
    case first =>
     go_wp2_with fail
     go_loopw [49] (fun v wr => ∃ i : Nat, i ≤ l.length ∧ v = .int .i64 i ∧ Hid (∃ SA SB, Two wr w1.heap.size w1.heap.size SA w2.heap.size SB ∧ Has SA (l.take i) ∧ Has SB (trn l k i)) ∧ Hid (Below w.heap.size w wr)) (fun v _ => l.length - (intOf v).toNat)
     case atStart => exact ⟨0, by omega, rfl, ⟨[], [], H3.out.1, has_nil, has_nil⟩, H3.out.2⟩
     case round =>
       clear H3
       obtain ⟨wa, rfl⟩ : ∃ wa : World, wa = wr := ⟨_, rfl⟩
       obtain ⟨i, hi, rfl, HT, HB⟩ := hrel
       by_cases hlt : i < l.length
       · rcases Rd.split (Rd.later HA.out HB.out) (by decide) with ⟨a, c, h0, h3, -⟩ | ⟨b, off, c, h0, h3, h4, h5, h6, h7⟩
         · omega
         · simp only [Value.slice.injEq] at h0
           obtain ⟨rfl, _, rfl⟩ := h0
           have hpl : (k + i) % l.length < l.length := Nat.mod_lt _ (by omega)
           obtain ⟨x, hx⟩ : ∃ x, x = l[i] := ⟨_, rfl⟩
           obtain ⟨y, hy⟩ : ∃ y, y = l.getD ((k + i) % l.length) 0 := ⟨_, rfl⟩
           have hyg : l[(k + i) % l.length] = y := by rw [hy, List.getD_eq_getElem?_getD, List.getElem?_eq_getElem hpl]; rfl
           have rx := HRB.out _ (List.getElem_mem hlt)
           rw [← hx] at rx
           have ry := HRB.out _ (List.getElem_mem hpl)
           rw [hyg] at ry
           obtain ⟨rx0, rx1⟩ := rx
           obtain ⟨ry0, ry1⟩ := ry
           have d1 : wa.cell? ⟨b, off + i, none⟩ = some (.int .u8 x) := by
             have := h7 i (by simpa using hlt)
             rw [hx]
             simpa using this
           have d2 : wa.cell? ⟨b, off + (k + i) % l.length, none⟩ = some (.int .u8 y) := by
             have := h7 ((k + i) % l.length) (by simpa using hpl)
             rw [← hyg]
             simpa using this
           have HX := Lib.hid hx
           have HY := Lib.hid hy
           have hq1 : (0 : Int) ≤ ((k : Int) + (i : Int)) % (l.length : Int) := Int.emod_nonneg _ (by omega)
           have hq2 : ((k : Int) + (i : Int)) % (l.length : Int) < (l.length : Int) := Int.emod_lt_of_pos _ (by omega)
           have hn0 : ((l.length : Int) == 0) = false := by rw [beq_eq_false_iff_ne]; omega
           clear h3 h4 h5 h6 h7 hx hy hyg
           obtain ⟨SA, SB, ht, ha, hb⟩ := HT.out
           have hbx : w1.heap.size ≤ wa.heap.size := Nat.le_of_lt (ht.left).lt
           have hlA : SA.length ≤ 1000 := by have := ha.2.1; rw [List.length_take] at this; omega
           have hlB : SB.length ≤ 1000 := by
             have := hb.2.1
             unfold trn at this
             rw [List.length_map, List.length_range] at this
             omega
           have H4 : Hid (Has (putS 64 SA x [x] i) (l.take (i + 1)) ∧ Has (putS 64 SB y [y] 0) (trn l k (i + 1))) := by
             refine ⟨?_, ?_⟩
             · rw [List.take_succ_eq_append_getElem hlt, ← HX.out]
               exact has_put ha x i (by rw [List.length_take]; omega)
             · rw [trn_succ, ← HY.out]
               exact has_put hb y 0 (by unfold trn; rw [List.length_map, List.length_range]; omega)
           have HPA := Lib.hid (put_two x x i wa w1.heap.size w1.heap.size w2.heap.size SA SB ht ha.1 hlA rx0 hbx (by omega))
           have HRB2 := Lib.hid hb.1
           clear ht ha hb HT
           go_wp2_with fail
           refine HPA.out.mono ?_
           rintro e w4 ⟨rfl, ht4, hb4⟩
           have H5 : Hid (Below w.heap.size w w4) := HB.out.trans (hb4.mono hs1)
           have hbx4 : w1.heap.size ≤ w4.heap.size := Nat.le_trans hbx hb4.size
           have HPB := Lib.hid (put_two y y 0 w4 w1.heap.size w2.heap.size w1.heap.size SB _ ht4.symm HRB2.out hlB ry0 hbx4 (by decide))
           clear ht4 hb4 HPA
           go_wp2_with fail
           refine HPB.out.mono ?_
           rintro e w5 ⟨rfl, ht5, hb5⟩
           have H6 : Hid (∃ SA SB, Two w5 w1.heap.size w1.heap.size SA w2.heap.size SB ∧ Has SA (l.take (i + 1)) ∧ Has SB (trn l k (i + 1))) := ⟨_, _, ht5.symm, H4.out.1, H4.out.2⟩
           have H7 : Hid (Below w.heap.size w w5) := H5.out.trans (hb5.mono hs1)
           clear ht5 hb5 HPB H4 H5
           go_wp2_with fail
           refine ⟨⟨i + 1, by omega, by simp, H6, H7⟩, ?_⟩
           simp [intOf]; omega
       · have hil : i = l.length := by omega
         subst hil
         have H8 : Hid (∃ S, Two wa w1.heap.size w1.heap.size S w2.heap.size S ∧ Has S l) := by
           obtain ⟨SA, SB, ht, ha, hb⟩ := HT.out
           rw [List.take_length] at ha
           have e := has_eq ha hb fun x => trn_mem x
           subst e
           exact ⟨SA, ht, ha⟩
         clear HT HA
         go_wp2_with fail
         go_meet
         exact ⟨H8, HB⟩
    case rest =>
        obtain ⟨wa, rfl⟩ : ∃ wa : World, wa = wc := ⟨_, rfl⟩
        obtain ⟨H8, HB⟩ := hcut
        clear H3 HA
        obtain ⟨S, HS⟩ := H8
        have HTw := Lib.hid HS.1
        have HH := Lib.hid HS.2
        obtain ⟨n, hn⟩ : ∃ n, S.length = n := ⟨_, rfl⟩
        have hSl : n ≤ 60 := by have := HS.2.2.1; omega
        have HN := Lib.hid hn
        clear HS
        have hrg : Hid (∀ i, (hi : i < S.length) → 0 ≤ S[i].1 ∧ S[i].1 ≤ 255) := fun i hi => by
          obtain ⟨x, hx, e⟩ := (HH.out.2.2 _).1 (List.getElem_mem hi)
          have := HRB.out x hx
          rw [e]
          exact this
        have hsum := has_sum HH.out
        have HBY := fun wq h => bytes_k wq w1.heap.size w1.heap.size 64 S h (by omega) (has_short HH.out)
        rw [hsum, hn] at HBY
        have HBZ := Lib.hid HBY
        clear HBY hsum hn
        go_wp2_with fail
        refine (list_n wa w1.heap.size w1.heap.size 64 S n HTw.out.left HN.out (by omega)).mono ?_
        rintro e w4 ⟨a1, c1, rfl, hu1, hb4⟩
        have HU1 : Hid (RdI w4 (.slice a1 n c1) (S.map (·.1)) ∧ Two w4 w1.heap.size w1.heap.size S w2.heap.size S ∧ Below w.heap.size w w4) := ⟨hu1, HTw.out.later hb4, HB.out.trans (hb4.mono HB.out.size)⟩
        clear hu1 hb4 HTw HB
        go_wp2_with fail
        refine (list_n w4 w1.heap.size w2.heap.size 64 S n HU1.out.2.1.symm.left HN.out (by omega)).mono ?_
        rintro e w5 ⟨a2, c2, rfl, hu2, hb5⟩
        have HU2 : Hid (RdI w5 (.slice a1 n c1) (S.map (·.1)) ∧ RdI w5 (.slice a2 n c2) (S.map (·.1)) ∧ Two w5 w1.heap.size w1.heap.size S w2.heap.size S ∧ Below w.heap.size w w5) := ⟨Rd.later HU1.out.1 hb5, hu2, HU1.out.2.1.later hb5, HU1.out.2.2.trans (hb5.mono HU1.out.2.2.size)⟩
        clear hu2 hb5 HU1
        go_wp2_with fail
        refine (HBZ.out w5 HU2.out.2.2.1.left).mono ?_
        rintro e w6 ⟨rfl, hb6⟩
        have HU3 : Hid (RdI w6 (.slice a1 n c1) (S.map (·.1)) ∧ RdI w6 (.slice a2 n c2) (S.map (·.1)) ∧ KSt w6 w1.heap.size w1.heap.size 64 S ∧ Below w.heap.size w w6) := ⟨Rd.later HU2.out.1 hb6, Rd.later HU2.out.2.1 hb6, (HU2.out.2.2.1.later hb6).left, HU2.out.2.2.2.trans (hb6.mono HU2.out.2.2.2.size)⟩
        clear hb6 HU2 HBZ
        go_wp2_with fail
        go_loopw [103] (fun v wr => ∃ i : Nat, i ≤ n ∧ v = .int .i64 i ∧ Hid (RdI wr (.slice a1 n c1) (S.map (·.1)) ∧ RdI wr (.slice a2 n c2) (S.map (·.1)) ∧ KSt wr w1.heap.size w1.heap.size 64 S ∧ Below w.heap.size w wr)) (fun v _ => n - (intOf v).toNat)
        case atStart => exact ⟨0, by omega, rfl, HU3⟩
        case round =>
          clear HU3
          obtain ⟨wb, rfl⟩ : ∃ wb : World, wb = wr := ⟨_, rfl⟩
          obtain ⟨i, hi, rfl, HI⟩ := hrel
          by_cases hln : i < n
          · have hlt : i < S.length := by rw [HN.out]; exact hln
            rcases Rd.split (n := n) (by have := HI.out.1; unfold RdI at this; rw [List.length_map, HN.out] at this; exact this) (by decide) with ⟨a, c, h0, h3, -⟩ | ⟨b1, o1, c1', h0, h3, h4, h5, h6, h7⟩
            · omega
            simp only [Value.slice.injEq] at h0
            obtain ⟨rfl, _, rfl⟩ := h0
            rcases Rd.split (n := n) (by have := HI.out.2.1; unfold RdI at this; rw [List.length_map, HN.out] at this; exact this) (by decide) with ⟨a, c, h0', h3', -⟩ | ⟨b2, o2, c2', h0', h3', h4', h5', h6', h7'⟩
            · omega
            simp only [Value.slice.injEq] at h0'
            obtain ⟨rfl, _, rfl⟩ := h0'
            have cA : ∀ q, (hq : q < S.length) → wb.cell? ⟨b1, o1 + q, none⟩ = some (.int .i64 S[q].1) := fun q hq => by
              have := h7 q (by simpa using hq)
              simpa using this
            have cB : ∀ q, (hq : q < S.length) → wb.cell? ⟨b2, o2 + q, none⟩ = some (.int .i64 S[q].1) := fun q hq => by
              have := h7' q (by simpa using hq)
              simpa using this
            have CA := Lib.hid cA
            have rx := hrg.out i hlt
            have hbst : Hid ((S[i].1, [S[i].1]) ∈ S) := by rw [← has_here HH.out hlt]; exact List.getElem_mem hlt
            have hriS := HH.out.1
            have HRI : Hid (∀ q, (hq : q < S.length) → q < i → S[q].1 < S[i].1) := fun q hq h => hriS q i hq hlt h
            have HRJ : Hid (∀ q, (hq : q < S.length) → i < q → S[i].1 < S[q].1) := fun q hq h => hriS i q hlt hq h
            have d1 := cA i hlt
            have d2 := cB i hlt
            have HTO : Hid (∀ y, (i + 1 < S.length → ∃ h : i + 1 < S.length, y = S[i + 1].1 - 1) → S[i].1 ≤ y → ∀ m ∈ S, m.1 ≤ y → m.1 ≤ S[i].1) := fun y hy _ m hm hmy => by
              obtain ⟨q, hq, rfl⟩ := List.getElem_of_mem hm
              by_cases hqi : i < q
              · obtain ⟨h1, rfl⟩ := hy (by omega)
                by_cases e : q = i + 1
                · subst e; omega
                · have := hriS (i + 1) q h1 hq (by omega)
                  omega
              · by_cases e : q = i
                · subst e; omega
                · have := hriS q i hq hlt (by omega)
                  omega
            have hb1 : b1 < wb.heap.size := h6
            clear h3 h4 h5 h6 h7 h3' h4' h5' h6' h7' cA cB hriS
            obtain ⟨x, hx⟩ : ∃ x, x = S[i].1 := ⟨_, rfl⟩
            rw [← hx] at rx hbst HRI HRJ d1 d2 HTO
            obtain ⟨rx0, rx1⟩ := rx
            clear hx hlt
            go_upto_region 23 with fail
            go_cut [130] (fun s130 wx => s130 = .bool false ∧ ∃ nq, wx = wb.drewN nq)
            case first =>
              by_cases hz : i = 0
              · have hi0 : decide ((0 : Int) < (i : Int)) = false := decide_eq_false (by omega)
                have hi1 : decide (0 < i) = false := decide_eq_false (by omega)
                clear hz
                go_quiet (fail)
                go_wp2_with fail
                go_meet
                exact ⟨rfl, _, rfl⟩
              · obtain ⟨i, rfl⟩ : ∃ j, i = j + 1 := ⟨i - 1, by omega⟩
                have hi0 : decide ((0 : Int) < ((i + 1 : Nat) : Int)) = true := decide_eq_true (by omega)
                have his : i < S.length := by rw [HN.out]; omega
                have d3 := CA.out i his
                have hle := HRI.out i his (by omega)
                have hle2 : decide (x ≤ S[i].1) = false := decide_eq_false (by omega)
                clear hz
                go_quiet (fail)
                go_wp2_with fail
                go_meet
                exact ⟨rfl, _, rfl⟩
            case rest =>
              obtain ⟨rfl, nq, rfl⟩ := hcut
              go_upto_if 140 with fail
              go_cut [16] (fun s16 wx => ∃ y : Int, s16 = .int .i64 y ∧ Hid (x ≤ y ∧ ∀ m ∈ S, m.1 ≤ y → m.1 ≤ x) ∧ wx = wb.drewN nq)
              case first =>
                by_cases hnx : i + 1 < n
                · have his : i + 1 < S.length := by rw [HN.out]; exact hnx
                  have d4 : (wb.drewN nq).cell? ⟨b1, o1 + (i + 1), none⟩ = some (.int .i64 S[i + 1].1) := CA.out (i + 1) his
                  have hry := hrg.out (i + 1) his
                  have hxy := HRJ.out (i + 1) his (by omega)
                  have HYY : Hid (∀ y, y = S[i + 1].1 - 1 → x ≤ y → ∀ m ∈ S, m.1 ≤ y → m.1 ≤ x) := fun y hy hx => HTO.out y (fun h => ⟨h, hy⟩) hx
                  generalize S[i + 1].1 = y at *
                  have hin : decide ((i : Int) + 1 < (n : Int)) = true := decide_eq_true (by omega)
                  obtain ⟨ry0, ry1⟩ := hry
                  go_wp2_with fail
                  go_meet
                  exact ⟨y - 1, rfl, ⟨by omega, HYY.out _ rfl (by omega)⟩, rfl⟩
                · have hin : decide ((i : Int) + 1 < (n : Int)) = false := decide_eq_false (by omega)
                  have d4 : (wb.drewN nq).cell? ⟨b1, o1 + i, none⟩ = some (.int .i64 x) := d1
                  go_wp2_with fail
                  go_meet
                  exact ⟨x + 5, rfl, ⟨by omega, HTO.out _ (fun h => absurd h (by have := HN.out; omega)) (by omega)⟩, rfl⟩
              case rest =>
                obtain ⟨y, rfl, HYB, rfl⟩ := hcut
                have HBE := Lib.hid (best_at y x x (wb.drewN nq) w1.heap.size w1.heap.size 64 S (HI.out.2.2.1.later (below_drewN (Below.refl _ _) nq)) HH.out.1 (by have := HN.out; omega) (has_short HH.out) hbst.out HYB.out.1 HYB.out.2)
                go_wp2_with fail
                refine HBE.out.mono ?_
                rintro e w7 ⟨g, o, c, rfl, k1, k2, hb⟩
                have HI7 : Hid (RdI w7 (.slice (some ⟨b1, o1, none⟩) n c1) (S.map (·.1)) ∧ RdI w7 (.slice (some ⟨b2, o2, none⟩) n c2) (S.map (·.1)) ∧ KSt w7 w1.heap.size w1.heap.size 64 S ∧ Below w.heap.size w w7) := by
                  have hb' : Below wb.heap.size wb w7 := (below_drewN (Below.refl _ _) nq).trans hb
                  exact ⟨Rd.later HI.out.1 hb', Rd.later HI.out.2.1 hb', HI.out.2.2.1.later hb', HI.out.2.2.2.trans (hb'.mono HI.out.2.2.2.size)⟩
                have d5 : w7.cell? ⟨b1, o1 + i, none⟩ = some (.int .i64 x) := by rw [hb.cell (p := ⟨b1, o1 + i, none⟩) hb1]; exact d1
                clear HBE hb d1 d2 HI HTO HYB
                go_upto_region 29 with fail
                go_cut [179] (fun s179 wx => s179 = .bool false ∧ ∃ nq, wx = w7.drewN nq)
                case first =>
                  go_quiet (fail)
                  go_wp2_with fail
                  go_meet
                  exact ⟨rfl, _, rfl⟩
                case rest =>
                  obtain ⟨rfl, nq, rfl⟩ := hcut
                  go_wp2_with fail
                  have hb' : Below w7.heap.size w7 (w7.drewN nq) := below_drewN (Below.refl _ _) nq
                  refine ⟨⟨i + 1, by omega, by simp, Rd.later HI7.out.1 hb', Rd.later HI7.out.2.1 hb', HI7.out.2.2.1.later hb', below_drewN HI7.out.2.2.2 nq⟩, ?_⟩
                  simp [intOf]; omega
          · go_wp2_with fail
            go_ret
            exact ⟨rfl, HI.out.2.2.2⟩
end Go.Proofs.Ytmfhmegkgpaemaa
