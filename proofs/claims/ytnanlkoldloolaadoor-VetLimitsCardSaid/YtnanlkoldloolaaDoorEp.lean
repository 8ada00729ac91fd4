/- Vet: VetLimits, walked. -/
import Derived.Test.YtnanlkoldloolaaDoorEo
import Derived.Deep.OwnRows
namespace Go.Proofs.YtnanlkoldloolaaDoor
open Go.RowKit

theorem infoW5 : (Tryd.prog.info? 47).map (fun i => (i.zero, i.size, i.bytes)) = some (some (.agg #[.int .u8 0, .int .u8 0, .int .u8 0, .int .u8 0, .int .i64 0]), 5, 16) := by kernel_rfl

/-- The cells of so many words, the first j of them MRet. -/
def retF (j i : Nat) : Value := if i % 5 = 4 then .int .i64 0 else if i % 5 = 0 ∧ i / 5 < j then .int .u8 47 else .int .u8 0

theorem run_make_words (n : Nat) (hn : n ≤ 300000) (w : World) :
    ∃ c : Array Value, (Instr.makeSlice 22 (.int .i64 (n : Int)) (.int .i64 (n : Int))).run Tryd.prog w = .ok (.slice (some ⟨w.heap.size, 0, none⟩) n n) (w.alloc (.cells c 47)) ∧ (w.alloc (.cells c 47)).rowIs w.heap.size 47 (n * 5) (retF 0) := by
  obtain ⟨i, hi, hz, hs, hb⟩ := infoY_parts infoW5
  have hr := run_make (P := Tryd.prog) w 22 47 i _ Tryd.underlying22 hi hz .i64 .i64 n n (by omega) (Int.le_refl _) (by rw [hb]; omega) (by omega)
  simp only [Int.toNat_natCast, hs] at hr
  refine ⟨_, hr, ?_⟩
  refine ⟨_, heap_new _ _ rfl, by simp [size_madeCells], fun i hi => ?_⟩
  have hz5 : (Value.agg #[.int .u8 0, .int .u8 0, .int .u8 0, .int .u8 0, .int .i64 0]).cells = #[.int .u8 0, .int .u8 0, .int .u8 0, .int .u8 0, .int .i64 0] := rfl
  rw [hz5]
  have h5 : i % 5 < 5 := Nat.mod_lt _ (by omega)
  unfold retF
  rcases (by omega : i % 5 = 0 ∨ i % 5 = 1 ∨ i % 5 = 2 ∨ i % 5 = 3 ∨ i % 5 = 4) with e | e | e | e | e <;> simp [madeCells, hi, e]
theorem rd_ret {w : World} {b m : Nat} (h : w.rowIs b 47 (m * 5) (retF m)) (hm : m ≤ 300000) : RdW w (.slice (some ⟨b, 0, none⟩) m m) (List.replicate m ⟨47, 0, 0, 0, 0⟩) := by
  unfold RdW
  rw [List.length_replicate]
  have hlen : (cW (List.replicate m ⟨47, 0, 0, 0, 0⟩)).length = m * 5 := by rw [cW_length, List.length_replicate]
  refine Rd.mk hlen (Nat.le_refl _) (by unfold maxLen; omega) (fun j hj => ?_)
  rw [Nat.zero_add, h.cell (by omega)]
  have hq : j / 5 < m := by omega
  obtain ⟨e0, e1, e2, e3, e4⟩ := cW_at (List.replicate m ⟨47, 0, 0, 0, 0⟩) (j / 5) (by simpa using hq)
  simp at e0 e1 e2 e3 e4
  rw [← Option.some_inj, ← List.getElem?_eq_getElem hj]
  have h5 : j % 5 < 5 := Nat.mod_lt _ (by omega)
  unfold retF
  rcases (by omega : j % 5 = 0 ∨ j % 5 = 1 ∨ j % 5 = 2 ∨ j % 5 = 3 ∨ j % 5 = 4) with e | e | e | e | e
  · rw [show j = j / 5 * 5 by omega, e0]; simp; omega
  · rw [show j = j / 5 * 5 + 1 by omega, e1]; simp
  · rw [show j = j / 5 * 5 + 2 by omega, e2]; simp
  · rw [show j = j / 5 * 5 + 3 by omega, e3]; simp
  · rw [show j = j / 5 * 5 + 4 by omega, e4]; simp

theorem row_ret {w : World} {b m j : Nat} (h : w.rowIs b 47 (m * 5) (retF j)) : (((((w.setCell ⟨b, j * 5, none⟩ (.int .u8 47)).setCell ⟨b, j * 5 + 1, none⟩ (.int .u8 0)).setCell ⟨b, j * 5 + 2, none⟩ (.int .u8 0)).setCell ⟨b, j * 5 + 3, none⟩ (.int .u8 0)).setCell ⟨b, j * 5 + 4, none⟩ (.int .i64 0)).rowIs b 47 (m * 5) (retF (j + 1)) := by
  refine (((((h.set _ _).set _ _).set _ _).set _ _).set _ _).congr (fun i hi => ?_)
  unfold retF
  by_cases e4 : i = j * 5 + 4
  · subst e4; simp
  by_cases e3 : i = j * 5 + 3
  · subst e3; simp
  by_cases e2 : i = j * 5 + 2
  · subst e2; simp
  by_cases e1 : i = j * 5 + 1
  · subst e1; simp
  by_cases e0 : i = j * 5
  · subst e0; simp
  simp only [e4, e3, e2, e1, e0, if_false]
  have : (i / 5 < j + 1 ∧ i % 5 = 0) ↔ (i / 5 < j ∧ i % 5 = 0) := by omega
  by_cases h4 : i % 5 = 4
  · simp [h4]
  · simp only [h4, if_false]
    by_cases h5 : i % 5 = 0 ∧ i / 5 < j
    · rw [if_pos h5, if_pos (by omega)]
    · rw [if_neg h5, if_neg (by omega)]
theorem wordE_ret (nw ne s : Int) : wordE nw ne s ⟨47, 0, 0, 0, 0⟩ = 0 := by
  have : formB ⟨47, 0, 0, 0, 0⟩ = true := by decide
  simp [wordE, limE, this]
theorem rets_good {k : Nat} {a e : Int} (h : CheckIs (List.replicate k ⟨47, 0, 0, 0, 0⟩) [(0, 0)] 0 GoodNone a e) (h0 : 0 < k) : (k ≤ 262144 ∧ e = 0) ∨ (262144 < k ∧ e = 2) := by
  by_cases hk : k ≤ 262144
  · refine .inl ⟨hk, (check_good h (by simpa using ⟨h0, hk⟩) (by simp) ?_ ?_ (by simp) ?_).2⟩
    · intro x hx; simp at hx; subst hx; simp [entBad]; omega
    · intro x hx; rw [(List.mem_replicate.1 hx).2]; exact wordE_ret _ _ _
    · intro x hx; rw [(List.mem_replicate.1 hx).2]; decide
  · rcases h with ⟨_, _, h⟩ | ⟨h, _⟩
    · exact .inr ⟨by omega, h⟩
    · simp at h; omega

set_option maxRecDepth 100000 in
set_option maxHeartbeats 4000000 in
theorem vetLimits_walk (n : Int) (w : World) (hn : 0 ≤ n ∧ n ≤ 255) (gt : TypeId) (gv : Value) (hg : Gives w gt gv) :
   Calls Tryd.prog 5 #[.int .u8 n] w fun e w' => e = .returned (.bool true) ∧ Below w.heap.size w w' := by
  have HA := Lib.hid (awake_any w gt gv hg)
  have HL := Lib.hid little_any
  have HG := Lib.hid hg
  clear hg
  go_enter Tryd.func5, Tryd.ntmps5
  go_wp2_with fail
  refine HA.out.mono ?_
  rintro e w1 ⟨rfl, hb1⟩
  have HB1 := Lib.hid hb1
  clear hb1
  go_wp2_with fail
  refine (HL.out _).mono ?_
  rintro e w2 ⟨⟨wb, eb, pa, pc, rfl, hw2, he2, hp2⟩, hb2⟩
  have HB2 := Lib.hid (HB1.out.trans (hb2.mono HB1.out.size))
  have HE2 := Lib.hid he2
  have HP2 := Lib.hid hp2
  clear hw2 he2 hp2 hb2 HA HL
  obtain ⟨m, hm⟩ : ∃ m : Nat, 262142 + n % 5 = m := ⟨(262142 + n % 5).toNat, by omega⟩
  obtain ⟨c, hmk, hrow⟩ := run_make_words m (by omega) (w2.alloc (.cells #[.slice (some ⟨wb, 0, none⟩) 2 2, .slice (some ⟨eb, 0, none⟩) 1 1, .int .i64 0, .slice pa 7 pc] 26))
  rw [World.size_alloc] at hmk hrow
  have HROW := Lib.hid hrow
  clear hrow
  go_wp2_with fail
  obtain ⟨W, hW⟩ : ∃ W, W = ((w2.alloc (.cells #[.slice (some ⟨w2.heap.size + 1, 0, none⟩) m m, .slice (some ⟨eb, 0, none⟩) 1 1, .int .i64 0, .slice pa 7 pc] 26)).alloc (.cells c 47)) := ⟨_, rfl⟩
  rw [← hW]
  have hRW : W.rowIs (w2.heap.size + 1) 47 (m * 5) (retF 0) := by
    obtain ⟨c', h1, h2, h3⟩ := HROW.out
    rw [heap_new _ _ (by simp)] at h1
    simp only [Option.some.injEq, Obj.cells.injEq] at h1
    obtain ⟨rfl, -⟩ := h1
    exact ⟨c, by rw [hW]; exact heap_new _ _ (by simp), h2, h3⟩
  have hIM : W.heap[w2.heap.size]? = some (.cells #[.slice (some ⟨w2.heap.size + 1, 0, none⟩) m m, .slice (some ⟨eb, 0, none⟩) 1 1, .int .i64 0, .slice pa 7 pc] 26) := by rw [hW]; exact heap_old _ _ (heap_new _ _ rfl)
  have hBW : Below w2.heap.size w2 W := by rw [hW]; exact ((Below.refl _ _).alloc (Nat.le_refl _) _).alloc (by simp) _
  have HM := Lib.hid hm
  have hm1 : 262142 ≤ m ∧ m ≤ 262146 := by omega
  clear hW hmk HROW hm
  go_loopw [21] (fun i wr => ∃ j : Nat, j ≤ m ∧ i = .int .i64 j ∧ wr.rowIs (w2.heap.size + 1) 47 (m * 5) (retF j) ∧ wr.heap[w2.heap.size]? = some (.cells #[.slice (some ⟨w2.heap.size + 1, 0, none⟩) m m, .slice (some ⟨eb, 0, none⟩) 1 1, .int .i64 0, .slice pa 7 pc] 26) ∧ Below w2.heap.size w2 wr) (fun i _ => m - (intOf i).toNat)
  case atStart => exact ⟨0, by omega, rfl, hRW, hIM, hBW⟩
  case round =>
    obtain ⟨j, hj, rfl, hrow, him, hbel⟩ := hrel
    have HR := Lib.hid hrow
    have HI := Lib.hid him
    have HB := Lib.hid hbel
    have c0 : wr.cell? ⟨w2.heap.size, 0, none⟩ = some (.slice (some ⟨w2.heap.size + 1, 0, none⟩) m m) := by simp [World.cell?, him]
    by_cases hlt : j < m
    · have d0 := hrow.cell (i := j * 5) (by omega)
      have d1 := hrow.cell (i := j * 5 + 1) (by omega)
      have d2 := hrow.cell (i := j * 5 + 2) (by omega)
      have d3 := hrow.cell (i := j * 5 + 3) (by omega)
      have d4 := hrow.cell (i := j * 5 + 4) (by omega)
      have z0 := hrow.frozen
      obtain ⟨r0, hr0⟩ : ∃ v, retF j (j * 5) = v := ⟨_, rfl⟩
      obtain ⟨r1, hr1⟩ : ∃ v, retF j (j * 5 + 1) = v := ⟨_, rfl⟩
      obtain ⟨r2, hr2⟩ : ∃ v, retF j (j * 5 + 2) = v := ⟨_, rfl⟩
      obtain ⟨r3, hr3⟩ : ∃ v, retF j (j * 5 + 3) = v := ⟨_, rfl⟩
      obtain ⟨r4, hr4⟩ : ∃ v, retF j (j * 5 + 4) = v := ⟨_, rfl⟩
      rw [hr0] at d0
      rw [hr1] at d1
      rw [hr2] at d2
      rw [hr3] at d3
      rw [hr4] at d4
      clear hr0 hr1 hr2 hr3 hr4 hrow him hbel
      go_wp2_with fail
      refine ⟨⟨j + 1, by omega, by go_num, row_ret HR.out, ?_, ?_⟩, by simp [intOf]; omega⟩
      · have hne : w2.heap.size ≠ w2.heap.size + 1 := by omega
        exact (Below.heap_setCell _ _ _ _ hne).trans ((Below.heap_setCell _ _ _ _ hne).trans ((Below.heap_setCell _ _ _ _ hne).trans ((Below.heap_setCell _ _ _ _ hne).trans ((Below.heap_setCell _ _ _ _ hne).trans HI.out))))
      · have hle : w2.heap.size ≤ w2.heap.size + 1 := by omega
        exact ((((HB.out.setCell hle _).setCell hle _).setCell hle _).setCell hle _).setCell hle _
    · obtain rfl : j = m := by omega
      have c1 : wr.cell? ⟨w2.heap.size, 1, none⟩ = some (.slice (some ⟨eb, 0, none⟩) 1 1) := by simp [World.cell?, him]
      have c2 : wr.cell? ⟨w2.heap.size, 2, none⟩ = some (.int .i64 0) := by simp [World.cell?, him]
      have c3 : wr.cell? ⟨w2.heap.size, 3, none⟩ = some (.slice pa 7 pc) := by simp [World.cell?, him]
      have HC := Lib.hid (check_any _ (List.replicate j ⟨47, 0, 0, 0, 0⟩) _ [(0, 0)] 0 pa 7 pc wr (rd_ret hrow (by omega)) (Rd.later HE2.out hbel) GoodNone (fun mn sl h => by rw [h.2.2]; simp) (decode_none (Rd.later HP2.out hbel) (gives_below HG.out (HB2.out.trans (hbel.mono HB2.out.size)))))
      clear hrow him hbel
      go_wp2_with fail
      refine HC.out.mono ?_
      rintro e w4 ⟨⟨a, er, hc, rfl⟩, hb4⟩
      have HB4 : Hid (Below w.heap.size w w4) := (HB2.out.trans (HB.out.mono HB2.out.size)).trans (hb4.mono (Nat.le_trans HB2.out.size HB.out.size))
      have hres := rets_good hc (by omega)
      clear hc hb4 HC c0 c1 c2 c3
      rcases hres with ⟨h1, rfl⟩ | ⟨h1, rfl⟩
      · have b1 : decide (j ≤ 262144) = true := decide_eq_true h1
        go_wp2_with fail
        go_ret
        exact ⟨rfl, HB4.out⟩
      · have b1 : decide (j ≤ 262144) = false := decide_eq_false (by omega)
        have b2 : decide (262144 < j) = true := decide_eq_true h1
        go_wp2_with fail
        go_ret
        exact ⟨rfl, HB4.out⟩
end Go.Proofs.YtnanlkoldloolaaDoor
