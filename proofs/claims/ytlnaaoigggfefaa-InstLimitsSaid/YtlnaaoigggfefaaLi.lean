/- The walk of InstLimits: so many instructions and no more. -/
import Derived.Test.YtlnaaoigggfefaaPa
import Derived.Test.YtlnaaoigggfefaaWsl
import Derived.Deep.OwnRows
namespace Go.Proofs.Ytlnaaoigggfefaa
open Go.RowKit

/-- The smallest instruction of one register. -/
def topW : W := ⟨38, 0, 0, 0, 0⟩
theorem topW_ok : topW.ok := by simp [topW, W.ok]
theorem topW_form : formB topW = true := by decide
theorem topW_enc : encL topW = [38, 0] := by decide

theorem packL_top (k : Nat) : packL (List.replicate (k + 1) topW) = 38 :: 0 :: packL (List.replicate k topW) := by
  rw [List.replicate_succ]
  show encL topW ++ packL _ = _
  rw [topW_enc]; rfl
theorem packL_top_len : ∀ k, (packL (List.replicate k topW)).length = 2 * k
  | 0 => rfl
  | k + 1 => by rw [packL_top, List.length_cons, List.length_cons, packL_top_len k]; omega
theorem packL_top_at : ∀ (k j : Nat) (h : j < (packL (List.replicate k topW)).length), (packL (List.replicate k topW))[j] = if j % 2 = 0 then 38 else 0
  | 0, j, h => by simp [packL] at h
  | k + 1, 0, h => by simp [packL_top]
  | k + 1, 1, h => by simp [packL_top]
  | k + 1, j + 2, h => by
    have h2 : j < (packL (List.replicate k topW)).length := by rw [packL_top] at h; simpa using h
    have := packL_top_at k j h2
    simp only [packL_top, List.getElem_cons_succ]
    rw [this]
    have : (j + 2) % 2 = j % 2 := by omega
    rw [this]

/-- What stands at place j, when i rounds are done. -/
def qF (i j : Nat) : Value := .int .u8 (if j % 2 = 0 ∧ j < 2 * i then 38 else 0)
def lF (i j : Nat) : Value := if j % 5 = 4 then .int .i64 0 else .int .u8 (if j % 5 = 0 ∧ j < 5 * i then 38 else 0)

theorem qF_next (i j : Nat) : (if j = 2 * i then Value.int .u8 38 else qF i j) = qF (i + 1) j := by
  unfold qF
  by_cases h : j = 2 * i
  · subst h
    rw [if_pos rfl, if_pos (by omega)]
  · rw [if_neg h]
    by_cases h2 : j % 2 = 0 ∧ j < 2 * i
    · rw [if_pos h2, if_pos (by omega)]
    · rw [if_neg h2, if_neg (by omega)]

theorem lF_next (i j : Nat) : (if j = i * 5 + 4 then Value.int .i64 0 else if j = i * 5 + 3 then Value.int .u8 0 else if j = i * 5 + 2 then Value.int .u8 0 else if j = i * 5 + 1 then Value.int .u8 0 else if j = i * 5 then Value.int .u8 38 else lF i j) = lF (i + 1) j := by
  unfold lF
  by_cases h4 : j = i * 5 + 4
  · rw [if_pos h4, if_pos (by omega)]
  rw [if_neg h4]
  by_cases h3 : j = i * 5 + 3
  · rw [if_pos h3, if_neg (by omega), if_neg (by omega)]
  rw [if_neg h3]
  by_cases h2 : j = i * 5 + 2
  · rw [if_pos h2, if_neg (by omega), if_neg (by omega)]
  rw [if_neg h2]
  by_cases h1 : j = i * 5 + 1
  · rw [if_pos h1, if_neg (by omega), if_neg (by omega)]
  rw [if_neg h1]
  by_cases h0 : j = i * 5
  · rw [if_pos h0, if_neg (by omega), if_pos (by omega)]
  rw [if_neg h0]
  by_cases h5 : j % 5 = 4
  · rw [if_pos h5, if_pos h5]
  rw [if_neg h5, if_neg h5]
  by_cases h6 : j % 5 = 0 ∧ j < 5 * i
  · rw [if_pos h6, if_pos (by omega)]
  · rw [if_neg h6, if_neg (by omega)]

theorem row_madeW (w : World) (k : Nat) : (w.alloc (.cells (madeCells #[.int .u8 0, .int .u8 0, .int .u8 0, .int .u8 0, .int .i64 0] (k * 5)) 26)).rowIs w.heap.size 26 (k * 5) (lF 0) := by
  have h := World.rowIs_alloc w (madeCells #[.int .u8 0, .int .u8 0, .int .u8 0, .int .u8 0, .int .i64 0] (k * 5)) 26 (lF 0) (fun i hi => by
    rw [size_madeCells] at hi
    have h5 : i % 5 = 0 ∨ i % 5 = 1 ∨ i % 5 = 2 ∨ i % 5 = 3 ∨ i % 5 = 4 := by omega
    rcases h5 with h | h | h | h | h <;> simp [madeCells, hi, h, lF])
  rw [size_madeCells] at h
  exact h

theorem rdB_row {w : World} {B k : Nat} (h : w.rowIs B 5 (2 * k) (qF k)) (hk : 2 * k ≤ maxLen) : RdB w (.slice (some ⟨B, 0, none⟩) (2 * k) (2 * k)) (packL (List.replicate k topW)) := by
  have hl := packL_top_len k
  unfold RdB
  rw [hl]
  refine Rd.mk (by simp [hl]) (Nat.le_refl _) hk (fun j hj => ?_)
  have hj2 : j < 2 * k := by simpa [hl] using hj
  rw [Nat.zero_add, h.cell hj2, List.getElem_map, packL_top_at]
  unfold qF
  by_cases h2 : j % 2 = 0
  · rw [if_pos ⟨h2, hj2⟩, if_pos h2]
  · rw [if_neg (fun h => h2 h.1), if_neg h2]

theorem rdW_row {w : World} {C k : Nat} (h : w.rowIs C 26 (k * 5) (lF k)) (hk : k ≤ maxLen) : RdW w (.slice (some ⟨C, 0, none⟩) k k) (List.replicate k topW) := by
  have e : (List.range k).map (fun _ => topW) = List.replicate k topW := by
    apply List.ext_getElem <;> simp
  rw [← e]
  refine rdW_of (Nat.le_refl _) hk _ (fun i hi => ?_)
  simp only [WAt, add_plain, Nat.zero_add]
  refine ⟨?_, ?_, ?_, ?_, ?_⟩
  · rw [h.cell (by omega)]; unfold lF; rw [if_neg (by omega), if_pos (by omega)]; rfl
  · rw [h.cell (by omega)]; unfold lF; rw [if_neg (by omega), if_neg (by omega)]; rfl
  · rw [h.cell (by omega)]; unfold lF; rw [if_neg (by omega), if_neg (by omega)]; rfl
  · rw [h.cell (by omega)]; unfold lF; rw [if_neg (by omega), if_neg (by omega)]; rfl
  · rw [h.cell (by omega)]; unfold lF; rw [if_pos (by omega)]; rfl

theorem top_all (k : Nat) : (List.replicate k topW).all formB = true := by
  rw [List.all_eq_true]; intro x hx; rw [(List.mem_replicate.1 hx).2]; exact topW_form
theorem top_oks (k : Nat) : ∀ x ∈ List.replicate k topW, x.ok := fun x hx => by rw [(List.mem_replicate.1 hx).2]; exact topW_ok
theorem top_bd (k : Nat) : isB (packL (List.replicate k topW)) := packL_bd fun x hx => encW_bd' (top_oks k x hx)

theorem lim_unpack {k : Nat} (v : Value) (w : World) (hv : RdB w v (packL (List.replicate k topW))) (hk : k ≤ 262144) :
    Calls Try.prog 23 #[v] w fun e w' => ∃ a c, e = .returned (.tuple #[.slice a k c, .int .i64 0]) ∧ Below w.heap.size w w' := by
  refine (unpack_any v _ w hv (top_bd k)).mono ?_
  have hu := unpL_pack (List.replicate k topW) 262144 (by simpa using hk) (top_oks k) (top_all k) (fun x hx => encW_bd' (top_oks k x hx))
  rintro e w' ⟨⟨ws, v', hu2, rfl, hr⟩ | ⟨n, hu2, rfl⟩, hb⟩
  · rw [hu] at hu2
    cases hu2
    obtain ⟨a, c, rfl⟩ := Rd.shape hr
    exact ⟨a, c, by simp, hb⟩
  · rw [hu] at hu2; cases hu2
theorem lim_unpack_no {k : Nat} (v : Value) (w : World) (hv : RdB w v (packL (List.replicate k topW))) (hk : 262144 < k) :
    Calls Try.prog 23 #[v] w fun e w' => e = .returned (.tuple #[.slice none 0 0, .int .i64 2]) ∧ Below w.heap.size w w' := by
  refine (unpack_any v _ w hv (top_bd k)).mono ?_
  have hu := unpL_over (List.replicate k topW) 262144 (by simpa using hk) (top_oks k) (top_all k) (fun x hx => encW_bd' (top_oks k x hx))
  rintro e w' ⟨⟨ws, v', hu2, rfl, hr⟩ | ⟨n, hu2, rfl⟩, hb⟩
  · rw [hu] at hu2; cases hu2
  · rw [hu] at hu2; cases hu2
    exact ⟨rfl, hb⟩
theorem lim_pack {k : Nat} (v : Value) (w : World) (hv : RdW w v (List.replicate k topW)) (hk : k ≤ 262144) :
    Calls Try.prog 20 #[v] w fun e w' => ∃ v', e = .returned (.tuple #[v', .int .i64 0]) ∧ RdB w' v' (packL (List.replicate k topW)) ∧ Below w.heap.size w w' := by
  refine (pack_any v _ w hv (top_oks k) (by simpa using hk)).mono ?_
  rintro e w' ⟨⟨ha, v', rfl, hr⟩ | ⟨ha, rfl⟩, hb⟩
  · exact ⟨v', rfl, hr, hb⟩
  · rw [top_all] at ha; cases ha

set_option maxHeartbeats 4000000 in
set_option maxRecDepth 100000 in
theorem instLimits_walk (n : Int) (w : World) (h0 : 0 ≤ n) (h1 : n ≤ 255) :
    Calls Try.prog 7 #[.int .u8 n] w fun e w' => e = .returned (.bool true) ∧ Below w.heap.size w w' := by
  obtain ⟨d, hd, hdm⟩ : ∃ d : Nat, d ≤ 4 ∧ (n / 2) % 5 = (d : Int) := ⟨((n / 2) % 5).toNat, by omega, by omega⟩
  obtain ⟨k, hk1, hk2, hkd⟩ : ∃ k : Nat, 262142 ≤ k ∧ k ≤ 262146 ∧ 262142 + (d : Int) = (k : Int) := ⟨262142 + d, by omega, by omega, by omega⟩
  have e2k : ((2 * k : Nat) : Int) = 2 * (k : Int) := by omega
  have hmk : ∀ W, (Instr.makeSlice 22 (.int .i64 (2 * (k : Int))) (.int .i64 (2 * (k : Int)))).run Try.prog W = .ok (.slice (some ⟨W.heap.size, 0, none⟩) (2 * k) (2 * k)) (W.alloc (.cells (madeCells #[.int .u8 0] (2 * k)) 5)) := fun W => by
    have h := Go.run_make_row' (P := Try.prog) 22 5 (.int .u8 0) 1 Try.underlying22 infoB rfl .i64 .i64 (2 * k) (by omega) (by omega) W
    rw [e2k] at h
    exact h
  obtain ⟨iw, wi0, wz0, wz1, wz2⟩ := info_parts infoW
  have hmk2 : ∀ W, (Instr.makeSlice 41 (.int .i64 (k : Int)) (.int .i64 (k : Int))).run Try.prog W = .ok (.slice (some ⟨W.heap.size, 0, none⟩) k k) (W.alloc (.cells (madeCells #[.int .u8 0, .int .u8 0, .int .u8 0, .int .u8 0, .int .i64 0] (k * 5)) 26)) := fun W => by
    have h := Go.run_make (P := Try.prog) W 41 26 iw _ Try.underlying41 wi0 wz0 .i64 .i64 (k : Int) (k : Int) (by omega) (by omega) (by rw [wz2]; omega) (by omega)
    rw [wz1, Int.toNat_natCast] at h
    exact h
  clear wi0 wz0 wz1 wz2
  have hmod : n % 2 = 0 ∨ n % 2 = 1 := by omega
  go_enter Try.func7, Try.ntmps7
  go_wp2_with fail
  refine (awake_any _).mono ?_
  rintro e w1 ⟨rfl, hb1⟩
  have HB1 := Lib.hid hb1
  clear hb1
  go_wp2_with fail
  go_loopw [23] (fun i wr => ∃ j : Nat, j ≤ k ∧ i = .int .i64 j ∧ Hid (wr.rowIs w1.heap.size 5 (2 * k) (qF j)) ∧ Hid (Below w1.heap.size w1 wr)) (fun i _ => k - (intOf i).toNat)
  case atStart => exact ⟨0, by omega, rfl, (World.rowIs_made w1 (.int .u8 0) (2 * k) 5).congr (fun i _ => by simp [qF]), (Below.refl _ _).alloc (Nat.le_refl _) _⟩
  case round =>
    obtain ⟨wo, rfl⟩ : ∃ wo : World, wo = wr := ⟨_, rfl⟩
    obtain ⟨j, hj, rfl, HR, HB⟩ := hrel
    by_cases hlt : j < k
    · have c1 := HR.out.cell (i := 2 * j) (by omega)
      have c2 := HR.out.frozen (2 * j)
      have e2j : (2 * (j : Int)).toNat = 2 * j := by omega
      go_wp2_with fail
      exact ⟨⟨j + 1, by omega, by go_num, (HR.out.set (2 * j) _).congr (fun i _ => qF_next j i), HB.out.setCell (Nat.le_refl _) _⟩, by simp [intOf]; omega⟩
    · obtain rfl : j = k := by omega
      have HQ := Lib.hid (rdB_row HR.out (by unfold maxLen; omega))
      rcases hmod with hm | hm
      · by_cases hle : j ≤ 262144
        · have hle' : (j : Int) ≤ 262144 := by omega
          have HU := Lib.hid (fun v w h => lim_unpack (k := j) v w h hle)
          go_wp2_with fail
          refine (HU.out _ _ HQ.out).mono ?_
          rintro e w3 ⟨a, c, rfl, hb3⟩
          have HB3 := Lib.hid (below_to HB1.out (HB.out.trans (hb3.mono HB.out.size)))
          go_wp2_with fail
          go_ret
          exact ⟨rfl, HB3.out⟩
        · have hle' : ¬ (j : Int) ≤ 262144 := by omega
          have hgt' : (262144 : Int) < (j : Int) := by omega
          have HU := Lib.hid (fun v w h => lim_unpack_no (k := j) v w h (by omega))
          go_wp2_with fail
          refine (HU.out _ _ HQ.out).mono ?_
          rintro e w3 ⟨rfl, hb3⟩
          have HB3 := Lib.hid (below_to HB1.out (HB.out.trans (hb3.mono HB.out.size)))
          go_wp2_with fail
          go_ret
          exact ⟨rfl, HB3.out⟩
      · have HB5 := HB
        clear HR HB
        go_wp2_with fail
        go_loopw [68] (fun i w5 => ∃ m : Nat, m ≤ j ∧ i = .int .i64 m ∧ Hid (w5.rowIs wo.heap.size 26 (j * 5) (lF m)) ∧ Hid (Below wo.heap.size wo w5)) (fun i _ => j - (intOf i).toNat)
        case atStart => exact ⟨0, by omega, rfl, row_madeW wo j, (Below.refl _ _).alloc (Nat.le_refl _) _⟩
        case round =>
          obtain ⟨m, hm, rfl, HR, HB⟩ := hrel
          by_cases hlt : m < j
          · have c0 := HR.out.cell (i := m * 5) (by omega)
            have c1 := HR.out.cell (i := m * 5 + 1) (by omega)
            have c2 := HR.out.cell (i := m * 5 + 2) (by omega)
            have c3 := HR.out.cell (i := m * 5 + 3) (by omega)
            have c4 := HR.out.cell (i := m * 5 + 4) (by omega)
            have hfz := HR.out.frozen
            have hmj : (m : Int) < (j : Int) := by omega
            go_wp2_with fail
            exact ⟨⟨m + 1, by omega, by go_num, (((((HR.out.set (m * 5) _).set (m * 5 + 1) _).set (m * 5 + 2) _).set (m * 5 + 3) _).set (m * 5 + 4) _).congr (fun i _ => lF_next m i), ((((HB.out.setCell (Nat.le_refl _) _).setCell (Nat.le_refl _) _).setCell (Nat.le_refl _) _).setCell (Nat.le_refl _) _).setCell (Nat.le_refl _) _⟩, by simp [intOf]; omega⟩
          · obtain rfl : m = j := by omega
            have HL := Lib.hid (rdW_row HR.out (by unfold maxLen; omega))
            have HQ6 : Hid (RdB wr _ _) := HQ.out.later HB.out
            have HB6 := Lib.hid (below_to HB1.out (HB5.out.trans (HB.out.mono HB5.out.size)))
            clear HR HB HB5 HQ HB1
            by_cases hle : m ≤ 262144
            · have hle' : (m : Int) ≤ 262144 := by omega
              have HU := Lib.hid (fun v w h => lim_pack (k := m) v w h hle)
              have HTB := Lib.hid (top_bd m)
              go_wp2_with fail
              refine (HU.out _ _ HL.out).mono ?_
              rintro e w7 ⟨v7, rfl, hr7, hb7⟩
              have HB7 := Lib.hid (below_to HB6.out hb7)
              have HQ7 : Hid (RdB w7 _ _) := HQ6.out.later hb7
              have HP7 := Lib.hid hr7
              clear hb7 hr7 HB6 HQ6 HL
              go_wp2_with fail
              refine (sameBytes_any _ _ _ _ _ HP7.out HQ7.out HTB.out HTB.out).mono ?_
              rw [eqL_refl]
              rintro e w8 ⟨rfl, rfl⟩
              go_wp2_with fail
              go_ret
              exact ⟨rfl, HB7.out⟩
            · have hle' : ¬ (m : Int) ≤ 262144 := by omega
              have hgt' : (262144 : Int) < (m : Int) := by omega
              have HU := Lib.hid (fun v w h => pack_long v (List.replicate m topW) w h (by simp; omega))
              go_wp2_with fail
              refine (HU.out _ _ HL.out).mono ?_
              rintro e w7 ⟨rfl, hb7⟩
              have HB7 := Lib.hid (below_to HB6.out hb7)
              go_wp2_with fail
              go_ret
              exact ⟨rfl, HB7.out⟩
end Go.Proofs.Ytlnaaoigggfefaa
