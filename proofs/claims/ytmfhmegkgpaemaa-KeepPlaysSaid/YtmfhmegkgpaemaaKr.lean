/- Keep: KeepLast, the walk. -/
import Derived.Test.YtmfhmegkgpaemaaKq
import Derived.Test.YtmfhmegkgpaemaaKin
import Derived.Deep.DeepCutAuto
namespace Go.Proofs.Ytmfhmegkgpaemaa
open Go.RowKit

theorem best_at (y x b : Int) (w : World) (base Bs : Nat) (most : Int) (S : Ms) (h : KSt w base Bs most S) (hR : RisS S) (hl : S.length ≤ 1000) (hbb : ∀ m ∈ S, m.2.length ≤ 1000000) (hm : (x, [b]) ∈ S) (hxy : x ≤ y) (hno : ∀ m ∈ S, m.1 ≤ y → m.1 ≤ x) :
    Calls Try.prog 9 #[.pointer (some ⟨Bs, 0, none⟩), .int .i64 y] w fun e w' => ∃ g o c, e = .returned (.tuple #[.int .i64 x, .slice (some ⟨g, o, none⟩) 1 c, .bool true]) ∧ w'.cell? ⟨g, o, none⟩ = some (.int .u8 b) ∧ g < w'.heap.size ∧ Below w.heap.size w w' := by
  refine (best_k y w base Bs most S h hR hl hbb).mono ?_
  rintro e w' (⟨h1, -⟩ | ⟨i, hi, h1, h2, q, rfl, hq, hb⟩)
  · obtain ⟨z, hz, e⟩ := List.getElem_of_mem hm
    have := h1 z hz
    rw [e] at this
    simp at this
    omega
  · have hix : S[i] = (x, [b]) := by
      refine best_mem hR hm hi (hno _ (List.getElem_mem hi) h1) fun k hk hik => ?_
      have := h2 k hk hik
      omega
    rw [hix] at hq ⊢
    rcases (Rd.of_own hq).split (by decide) with ⟨a, c, rfl, h3, -⟩ | ⟨g, o, c, rfl, h3, h4, h5, h6, h7⟩
    · simp at h3
    · exact ⟨g, o, c, rfl, h7 0 (by simp), h6, hb⟩
theorem list_len (w : World) (base Bs : Nat) (most : Int) (S : Ms) (h : KSt w base Bs most S) (hl : S.length ≤ 1000) :
    Calls Try.prog 10 #[.pointer (some ⟨Bs, 0, none⟩)] w fun e w' => ∃ a c, e = .returned (.slice a S.length c) ∧ Below w.heap.size w w' := by
  refine (list_k w base Bs most S h hl).mono ?_
  rintro e w' ⟨u, rfl, hu, hb⟩
  obtain ⟨a, c, rfl⟩ := (Rd.of_own hu).shape
  exact ⟨a, c, by simp, hb⟩
def okS (w : World) (base : Nat) (k : Int) : Prop := ∃ S, KSt w base base k S ∧ RisS S ∧ (S.length : Int) ≤ k ∧ ∀ m ∈ S, m.2.length ≤ 1000000
theorem okS.later {w w' : World} {base : Nat} {k : Int} (h : okS w base k) (hb : Below w.heap.size w w') : okS w' base k := by
  obtain ⟨S, h1, h2⟩ := h
  exact ⟨S, h1.later hb, h2⟩
theorem Rd.len0 {w : World} {v : Value} {l : List Int} (h : RdI w v l) {j : Nat} (hj : j < l.length) : ∃ b off c, v = .slice (some ⟨b, off, none⟩) l.length c ∧ b < w.heap.size ∧ w.cell? ⟨b, off + j, none⟩ = some (.int .i64 l[j]) := by
  rcases Rd.split h (by decide) with ⟨a, c, rfl, h3, -⟩ | ⟨g, o, c, rfl, h3, h4, h5, h6, h7⟩
  · omega
  · refine ⟨g, o, c, rfl, h6, ?_⟩
    have := h7 j (by simpa using hj)
    simpa using this

set_option maxRecDepth 100000 in
set_option maxHeartbeats 4000000 in
theorem keepLast_walk (m : Int) (va vc : Value) (la lc : List Int) (w : World) (h0 : 0 ≤ m) (h1 : m ≤ 255) (ha : RdI w va la) (hc : RdI w vc lc) (hrc : ∀ x ∈ lc, -9223372036854775808 ≤ x ∧ x ≤ 9223372036854775807) :
    Calls Try.prog 3 #[.int .u8 m, va, vc] w fun e w' => e = .returned (.bool true) ∧ Below w.heap.size w w' := by
  have HA := Lib.hid ha
  have HC := Lib.hid hc
  have HRC := Lib.hid hrc
  obtain ⟨aa, ac, rfl⟩ := Rd.shape ha
  obtain ⟨ca, cc, rfl⟩ := Rd.shape hc
  have hle1 := ha.le
  have hle2 := hc.le
  clear ha hc hrc
  go_enter Try.func3, Try.ntmps3
  go_wp2_with fail
  refine (awake_any w).mono ?_
  rintro e w1 ⟨rfl, hb⟩
  have HB1 := Lib.hid hb
  clear hb
  go_wp2_with fail
  have hk1 : 1 ≤ 1 + m % 64 := by omega
  have hk2 : 1 + m % 64 ≤ 64 := by omega
  generalize 1 + m % 64 = k at *
  refine (new_any k w1).mono ?_
  rintro e w2 (⟨-, rfl, hst, hb1⟩ | ⟨h, -⟩)
  case inr => exact absurd ⟨hk1, hk2⟩ h
  have H2 : Hid (okS w2 w1.heap.size k ∧ Below w.heap.size w w2) := ⟨⟨[], ⟨_, _, hst⟩, ris_nil, by simp; omega, by simp⟩, HB1.out.trans (hb1.mono HB1.out.size)⟩
  have hs1 : w.heap.size ≤ w1.heap.size := HB1.out.size
  clear hst hb1 HB1
  go_wp2_with fail
  go_loopw [33] (fun i wr => ∃ j : Nat, j ≤ la.length ∧ i = .int .i64 j ∧ Hid (okS wr w1.heap.size k ∧ Below w.heap.size w wr)) (fun i _ => la.length - (intOf i).toNat)
  case atStart => exact ⟨0, by omega, rfl, H2⟩
  case round =>
    clear H2
    obtain ⟨wa, rfl⟩ : ∃ wa : World, wa = wr := ⟨_, rfl⟩
    obtain ⟨j, hj, rfl, HH⟩ := hrel
    by_cases hlt : j < la.length
    · obtain ⟨b, off, c, h0, hb, hcell⟩ := Rd.len0 (HA.out.later (HH.out.2)) hlt
      simp only [Value.slice.injEq] at h0
      obtain ⟨rfl, _, rfl⟩ := h0
      by_cases h200 : 200 ≤ j
      · have hd : decide (200 ≤ (j : Int)) = true := decide_eq_true (by omega)
        go_wp2_with fail
        go_ret
        exact ⟨rfl, HH.out.2⟩
      · have hd : decide (200 ≤ (j : Int)) = false := decide_eq_false (by omega)
        go_upto_if 43 with fail
        go_cut [12] (fun s12 wx => ∃ ch : Int, s12 = .int .i64 ch ∧ (-9223372036854775808 ≤ ch ∧ ch ≤ 9223372036854775807) ∧ wx = wa)
        case first =>
          by_cases hlc : j < lc.length
          · obtain ⟨b2, off2, c2, h02, hb2, hcell2⟩ := Rd.len0 (HC.out.later (HH.out.2)) hlc
            simp only [Value.slice.injEq] at h02
            obtain ⟨rfl, _, rfl⟩ := h02
            have hrj := HRC.out _ (List.getElem_mem hlc)
            go_wp2_with fail
            go_meet
            exact ⟨_, rfl, hrj, rfl⟩
          · go_wp2_with fail
            go_meet
            exact ⟨0, rfl, by decide, rfl⟩
        case rest =>
          obtain ⟨ch, rfl, hch, rfl⟩ := hcut
          have hw8 : IntKind.u8.wrap (j : Int) = j := IntWalk.u8_in _ (by omega)
          by_cases hneg : la[j] < 0
          · have hn1 : decide (la[j] < 0) = true := decide_eq_true hneg
            go_wp2_with fail
            refine (put_neg la[j] _ [(j : Int)] ch _ _ hneg ⟨_, _, _, rfl⟩).mono ?_
            rintro e w3 ⟨rfl, rfl⟩
            go_wp2_with fail
            refine ⟨⟨j + 1, by omega, by simp, HH.out.1.later ((Below.refl _ _).alloc (Nat.le_refl _) _), HH.out.2.alloc HH.out.2.size _⟩, ?_⟩
            simp [intOf]; omega
          · have hn1 : decide (la[j] < 0) = false := decide_eq_false hneg
            obtain ⟨S, hk, hR, hSl, hSb⟩ := HH.out.1
            have hbx : w1.heap.size ≤ wc.heap.size := Nat.le_of_lt hk.lt
            have HP := Lib.hid (put_one la[j] (j : Int) ch wc w1.heap.size w1.heap.size k S hk hR (by omega) (by omega) (by omega) hbx hch)
            have HR := Lib.hid (ris_put hR k la[j] [(j : Int)] ch)
            have hl2 := put_len (x := la[j]) (b := [(j : Int)]) (c := ch) hSl hk1
            have HM := Lib.hid (put_mem (most := k) (S := S) (x := la[j]) (b := [(j : Int)]) (c := ch))
            have HBB : Hid (∀ m ∈ putS k S la[j] [(j : Int)] ch, m.2.length ≤ 1000000) := fun m hm => by
              rcases put_from hm with rfl | ⟨h, -⟩
              · simp
              · exact hSb m h
            generalize putS k S la[j] [(j : Int)] ch = S2 at *
            clear hk hR hSl hSb
            go_wp2_with fail
            refine HP.out.mono ?_
            rintro e w3 ⟨rfl, hk3, hb3⟩
            have H3 : Hid (KSt w3 w1.heap.size w1.heap.size k S2 ∧ Below w.heap.size w w3) := ⟨hk3, HH.out.2.trans (hb3.mono hs1)⟩
            clear hk3 hb3 HP
            go_wp2_with fail
            refine (best_at la[j] la[j] (j : Int) w3 _ _ k S2 H3.out.1 HR.out (by omega) HBB.out HM.out (Int.le_refl _) (fun m _ h => h)).mono ?_
            rintro e w4 ⟨g, o, c, rfl, k1, k2, hb⟩
            have H4 : Hid (KSt w4 w1.heap.size w1.heap.size k S2 ∧ Below w.heap.size w w4) := ⟨H3.out.1.later hb, H3.out.2.trans (hb.mono H3.out.2.size)⟩
            clear hb H3
            go_wp2_with fail
            refine (list_len w4 _ _ k S2 H4.out.1 (by omega)).mono ?_
            rintro e w5 ⟨a5, c5, rfl, hb⟩
            have H5 : Hid (KSt w5 w1.heap.size w1.heap.size k S2 ∧ Below w.heap.size w w5) := ⟨H4.out.1.later hb, H4.out.2.trans (hb.mono H4.out.2.size)⟩
            have k3 : w5.cell? ⟨g, o, none⟩ = some (.int .u8 j) := by rw [hb.cell (p := ⟨g, o, none⟩) k2]; exact k1
            clear hb H4 k1 k2
            have b1 : decide (k < (S2.length : Int)) = false := decide_eq_false (by omega)
            have HO : Hid (okS w5 w1.heap.size k ∧ Below w.heap.size w w5) := ⟨⟨S2, H5.out.1, HR.out, hl2, HBB.out⟩, H5.out.2⟩
            clear H5 HR HBB
            by_cases hk : k = 1
            · subst hk
              have hS2 : S2.length = 1 := by
                have := List.length_pos_of_mem HM.out
                omega
              rw [hS2]
              clear HM hS2 b1 hl2
              go_wp2_with fail
              refine ⟨⟨j + 1, by omega, by simp, HO⟩, ?_⟩
              simp [intOf]; omega
            · have b2 : (k == 1) = false := by rw [beq_eq_false_iff_ne]; exact hk
              clear HM hk
              go_wp2_with fail
              refine ⟨⟨j + 1, by omega, by simp, HO⟩, ?_⟩
              simp [intOf]; omega
    · go_wp2_with fail
      go_ret
      exact ⟨rfl, HH.out.2⟩
end Go.Proofs.Ytmfhmegkgpaemaa
