/- Walks: an instruction read off the front, as the program does it: where there are enough bytes for its registers. -/
import Derived.Test.YtlnaaoigggfefaaR
namespace Go.Proofs.Ytlnaaoigggfefaa
open Go.RowKit

theorem gR0 (t : List Int) (m : Nat) : gR t m 0 = 0 := by simp [gR]
theorem cell_of_heap {w : World} {b o : Nat} {cs : Array Value} {e : TypeId} {f : Nat × Nat} {v : Value} (h : w.heap[b]? = some (.cells cs e f)) (hv : cs[o]? = some v) : w.cell? ⟨b, o, none⟩ = some v := by simp [World.cell?, h, hv]
theorem free_of_heap {w : World} {b o : Nat} {cs : Array Value} {e : TypeId} (h : w.heap[b]? = some (.cells cs e (0, 0))) : w.frozen? ⟨b, o, none⟩ = false := by simp [World.frozen?, h]

theorem decode_nil (a : Option Addr) (c : Nat) (w : World) : Calls Try.prog 10 #[.slice a 0 c] w (DecPost [] w) := by
  go_enter Try.func10, Try.ntmps10
  go_wp2
  refine bodyPost_ret (v := .tuple #[.agg #[.int .u8 0, .int .u8 0, .int .u8 0, .int .u8 0, .int .i64 0], .int .i64 0, .int .i64 3]) ?_ rfl (decPost_no rfl ((Below.refl _ _).alloc (Nat.le_refl _) _))
  simp [results, Try.results10, go_sem]

set_option maxHeartbeats 4000000 in
theorem decode_main (b off c : Nat) (op : Int) (t : List Int) (w : World) (q : Nat) (i : Bool) (lo hi : Int) (hs : shp op = ((q : Int), i, lo, hi, true)) (hq3 : q ≤ 3) (hql : q ≤ t.length) (hb : b < w.heap.size) (hlt : t.length + 1 ≤ c) (hc9 : c ≤ 9223372036854775807)
    (hv : RdB w (.slice (some ⟨b, off, none⟩) (t.length + 1) c) (op :: t)) (hB : isB (op :: t))
    (c0 : w.cell? ⟨b, off, none⟩ = some (.int .u8 op)) (c1 : ∀ j, j < t.length → w.cell? ⟨b, off + (1 + j), none⟩ = some (.int .u8 (t.getD j 0))) : Calls Try.prog 10 #[.slice (some ⟨b, off, none⟩) (t.length + 1) c] w (DecPost (op :: t) w) := by
  have hz : ((t.length : Int) + 1 == 0) = false := by simp; omega
  have HS := Lib.hid (fun w => shape_is hs w)
  have HSH := Lib.hid hs
  have HC := Lib.hid c1
  have HV := Lib.hid hv
  have HB := Lib.hid hB
  have hlt' : t.length + 1 ≤ 9223372036854775807 := by omega
  have hq3' : (q : Int) ≤ 3 := by omega
  have hq0' : (0 : Int) ≤ (q : Int) := by omega
  clear hs c1 hv hB
  go_enter Try.func10, Try.ntmps10
  go_wp2_with fail
  refine (HS.out _).mono ?_
  rintro e w1 ⟨rfl, hb1⟩
  have hz1 : w.heap.size < w1.heap.size := by have := hb1.size; simp at this; omega
  have HB1 : Hid (Below w.heap.size w w1) := ((Below.refl _ _).alloc (Nat.le_refl _) _).trans (hb1.mono (by simp))
  have HR1 : Hid (w1.heap[w.heap.size]? = some (.cells #[.int .u8 0, .int .u8 0, .int .u8 0, .int .u8 0, .int .i64 0] 26)) := by
    show _ = _; rw [hb1.block w.heap.size (by simp)]; exact heap_alloc_new w _
  have d0 : w1.cell? ⟨b, off, none⟩ = some (.int .u8 op) := by
    rw [HB1.out.cell hb]; exact c0
  have hb' : b < w1.heap.size := by omega
  clear hb1 HS
  go_wp2_with fail
  go_region_held3 (fun w' => w'.cell? ⟨w1.heap.size, 0, none⟩ = some (.int .i64 (q : Int))) (simp [go_sem, World.cell?_alloc_past]) (first | (go_at_call 26; refine (regs_any _ _ _).mono ?_; rintro e w3 ⟨rfl, rfl⟩))
  go_wp2_with fail
  go_loopw [8, 45] (fun a k wr => ∃ j : Nat, j ≤ q ∧ k = .int .i64 j ∧ a = .int .i64 (1 + j) ∧ DecLoop op t q i lo hi w w1 wr j) (fun _ k _ => 4 - (intOf k).toNat)
  case atStart =>
    refine ⟨0, by omega, rfl, rfl, ?_⟩
    have hB2 : Below w.heap.size w (((((w1.alloc (.cells #[.int .i64 (q : Int), .bool i, .int .i64 lo, .int .i64 hi] 52)).alloc (.cells #[.int .u8 op, .int .u8 0, .int .u8 0, .int .u8 0, .int .i64 0] 26)).alloc
        (.cells #[.pointer (some ⟨w1.heap.size + 1, 1, none⟩), .pointer (some ⟨w1.heap.size + 1, 2, none⟩), .pointer (some ⟨w1.heap.size + 1, 3, none⟩)] 58)).drew).drew) := by
      refine Below.drew (Below.drew (Below.alloc (Below.alloc (Below.alloc HB1.out ?_ _) ?_ _) ?_ _)) <;> (try simp) <;> omega
    refine ⟨hB2, ?_, ?_, ?_, ?_⟩
    · rw [heap_drew, heap_drew, heap_alloc_old _ _ (by simp), show w1.heap.size + 1 = (w1.alloc (.cells #[.int .i64 (q : Int), .bool i, .int .i64 lo, .int .i64 hi] 52)).heap.size from by simp, heap_alloc_new, gR0, gR0, gR0]
    · rw [heap_drew, heap_drew, heap_alloc_old _ _ (by simp; omega), heap_alloc_old _ _ (by simp), heap_alloc_new]
    · rw [heap_drew, heap_drew, show w1.heap.size + 2 = ((w1.alloc (.cells #[.int .i64 (q : Int), .bool i, .int .i64 lo, .int .i64 hi] 52)).alloc (.cells #[.int .u8 op, .int .u8 0, .int .u8 0, .int .u8 0, .int .i64 0] 26)).heap.size from by simp, heap_alloc_new]
    · rw [heap_drew, heap_drew, heap_alloc_old _ _ (by simp; omega), heap_alloc_old _ _ (by simp; omega), heap_alloc_old _ _ hz1]; exact HR1.out
  case round =>
    obtain ⟨j, hj, rfl, rfl, hl⟩ := hrel
    have HL := Lib.hid hl
    have z1 : w1.heap.size + 2 < wr.heap.size := (Array.getElem?_eq_some_iff.1 hl.ptrs).1
    by_cases hlj : j < q
    · have cj : wr.cell? ⟨b, off + (1 + j), none⟩ = some (.int .u8 (t.getD j 0)) := by
        rw [hl.bel.cell hb]; exact HC.out j (by omega)
      have hj3 : j = 0 ∨ j = 1 ∨ j = 2 := by omega
      have p1 := hl.ptrs
      have p2 := hl.word
      clear hl
      obtain ⟨x, hx⟩ : ∃ x, t.getD j 0 = x := ⟨_, rfl⟩
      rw [hx] at cj
      have HX := Lib.hid hx
      clear hx
      have hjl : j < t.length := by omega
      rcases hj3 with rfl | rfl | rfl
      · have e1 := cell_of_heap (o := 0) p1 rfl
        have e2 := cell_of_heap (o := 1) p2 rfl
        have e3 := free_of_heap (o := 1) p2
        clear p1 p2
        go_wp2_with fail
        exact ⟨⟨1, by omega, rfl, rfl, dec_next HL.out hz1 (.inl rfl) HX.out⟩, by simp [intOf]⟩
      · have e1 := cell_of_heap (o := 1) p1 rfl
        have e2 := cell_of_heap (o := 2) p2 rfl
        have e3 := free_of_heap (o := 2) p2
        clear p1 p2
        go_wp2_with fail
        exact ⟨⟨2, by omega, rfl, rfl, dec_next HL.out hz1 (.inr (.inl rfl)) HX.out⟩, by simp [intOf]⟩
      · have e1 := cell_of_heap (o := 2) p1 rfl
        have e2 := cell_of_heap (o := 3) p2 rfl
        have e3 := free_of_heap (o := 3) p2
        clear p1 p2
        go_wp2_with fail
        exact ⟨⟨3, by omega, rfl, rfl, dec_next HL.out hz1 (.inr (.inr rfl)) HX.out⟩, by simp [intOf]⟩
    · obtain rfl : j = q := by omega
      have e1 : wr.cell? ⟨w1.heap.size, 1, none⟩ = some (.bool i) := cell_of_heap hl.shape rfl
      have g0 : wr.cell? ⟨w1.heap.size + 1, 0, none⟩ = some (.int .u8 op) := cell_of_heap hl.word rfl
      have g1 : wr.cell? ⟨w1.heap.size + 1, 1, none⟩ = some (.int .u8 (gR t 0 j)) := cell_of_heap hl.word rfl
      have g2 : wr.cell? ⟨w1.heap.size + 1, 2, none⟩ = some (.int .u8 (gR t 1 j)) := cell_of_heap hl.word rfl
      have g3 : wr.cell? ⟨w1.heap.size + 1, 3, none⟩ = some (.int .u8 (gR t 2 j)) := cell_of_heap hl.word rfl
      have g4 : wr.cell? ⟨w1.heap.size + 1, 4, none⟩ = some (.int .i64 0) := cell_of_heap hl.word rfl
      have g5 : ∀ o, wr.frozen? ⟨w1.heap.size + 1, o, none⟩ = false := fun o => free_of_heap hl.word
      have r0 : wr.cell? ⟨w.heap.size, 0, none⟩ = some (.int .u8 0) := cell_of_heap hl.res rfl
      have r1 : wr.cell? ⟨w.heap.size, 1, none⟩ = some (.int .u8 0) := cell_of_heap hl.res rfl
      have r2 : wr.cell? ⟨w.heap.size, 2, none⟩ = some (.int .u8 0) := cell_of_heap hl.res rfl
      have r3 : wr.cell? ⟨w.heap.size, 3, none⟩ = some (.int .u8 0) := cell_of_heap hl.res rfl
      have r4 : wr.cell? ⟨w.heap.size, 4, none⟩ = some (.int .i64 0) := cell_of_heap hl.res rfl
      have r5 : ∀ o, wr.frozen? ⟨w.heap.size, o, none⟩ = false := fun o => free_of_heap hl.res
      have zw : w.heap.size < wr.heap.size := by omega
      have z1' : w1.heap.size + 1 < wr.heap.size := by omega
      clear hl hlj hj
      cases i
      · have HD : Hid (decS (op :: t) = fin (regsOf op j t 0) (1 + j)) := by show _ = _; simp [decS, HSH.out]; omega
        have hreg : regsOf op j t 0 = ⟨op, gR t 0 j, gR t 1 j, gR t 2 j, 0⟩ := by simp [regsOf, gR, Nat.succ_le_iff]
        have HG := Lib.hid hreg
        clear hreg
        have HF := Lib.hid (fun w => form_any op (gR t 0 j) (gR t 1 j) (gR t 2 j) 0 w)
        go_wp2_with fail
        refine (HF.out _).mono ?_
        cases hf : formB ⟨op, gR t 0 j, gR t 1 j, gR t 2 j, 0⟩
        · have HN : Hid (decS (op :: t) = none) := by show _ = _; rw [HD.out, HG.out]; simp [fin, hf]
          rintro e w4 ⟨rfl, hb4⟩
          obtain ⟨hc4, hf4⟩ := bcell hb4
          have zw4 : w.heap.size < w4.heap.size := by have := hb4.size; omega
          have HB4 : Hid (Below w.heap.size w w4) := HL.out.bel.trans (hb4.mono (by omega))
          clear hb4 hf
          go_wp2_with fail
          refine bodyPost_ret (v := .tuple #[.agg #[.int .u8 0, .int .u8 0, .int .u8 0, .int .u8 0, .int .i64 0], .int .i64 0, .int .i64 3]) ?_ rfl (decPost_no HN.out ?_)
          · simp [results, Try.results10, go_sem, hc4, zw, r0, r1, r2, r3, r4]
          · repeat (with_reducible (first | exact HB4.out | refine Below.alloc ?_ ?_ _ | refine Below.setCell ?_ ?_ _ | exact Nat.le_refl _ | (simp; done) | (simp; omega)))
        · have HN : Hid (decS (op :: t) = some (⟨op, gR t 0 j, gR t 1 j, gR t 2 j, 0⟩, 1 + j)) := by show _ = _; rw [HD.out, HG.out]; simp [fin, hf]
          rintro e w4 ⟨rfl, hb4⟩
          obtain ⟨hc4, hf4⟩ := bcell hb4
          have zw4 : w.heap.size < w4.heap.size := by have := hb4.size; omega
          have HB4 : Hid (Below w.heap.size w w4) := HL.out.bel.trans (hb4.mono (by omega))
          clear hb4 hf
          go_wp2_with fail
          refine bodyPost_ret (v := .tuple #[.agg #[.int .u8 op, .int .u8 (gR t 0 j), .int .u8 (gR t 1 j), .int .u8 (gR t 2 j), .int .i64 0], .int .i64 (1 + (j : Int)), .int .i64 0]) ?_ rfl (decPost_yes HN.out (by omega) ?_)
          · simp [results, Try.results10, go_sem, hc4, zw, r0, r1, r2, r3, r4]
          · repeat (with_reducible (first | exact HB4.out | refine Below.alloc ?_ ?_ _ | refine Below.setCell ?_ ?_ _ | exact Nat.le_refl _ | (simp; done) | (simp; omega)))
      · have z1'' : w1.heap.size < wr.heap.size := by omega
        have hdl : (t.drop j).length = t.length - j := by simp
        have hV2 : RdB wr (.slice (some ⟨b, off, none⟩) (t.length + 1) c) (op :: t) := Rd.later HV.out HL.out.bel
        have HV2 := Lib.hid hV2
        clear hV2
        have hI1 : (1 : Int) + (j : Int) ≤ (t.length : Int) + 1 := by omega
        have hI2 : (t.length : Int) + 1 ≤ (c : Int) := by omega
        have hBd : isB (t.drop j) := fun x hx => HB.out x (List.mem_cons_of_mem _ (List.mem_of_mem_drop hx))
        have hdr : (op :: t).drop (1 + j) = t.drop j := by rw [Nat.add_comm]; rfl
        obtain ⟨i0, hi0, hz0, hz1', hz2⟩ := info_parts infoB
        obtain ⟨va, hva, hrd⟩ : ∃ va, (∀ w : World, (Instr.slice 22 (.slice (some ⟨b, off, none⟩) (t.length + 1) c) (some (.int .i64 (1 + (j : Int)))) none none).run Try.prog w = .ok va w) ∧ RdB wr va (t.drop j) := by
          refine ⟨_, fun w => run_slice_from 22 5 Try.underlying22 hi0 hz1' _ _ _ (1 + j) _ (by omega) (by omega) w, ?_⟩
          by_cases hcap : c = 1 + j
          · rw [if_pos hcap]
            have := RdB.dropNone HV2.out (by simp)
            rw [show t.length + 1 = 1 + j by omega, hdr] at this
            rw [show t.length + 1 - (1 + j) = 0 by omega, show c - (1 + j) = 0 by omega]
            exact this
          · rw [if_neg hcap]
            have := RdB.dropTail HV2.out (by simp) (show 1 + j ≤ t.length + 1 by omega) (Ne.symm hcap)
            rw [hdr] at this
            simp only [Option.map_some, add_plain, Nat.mul_one]
            exact this
        have HRD := Lib.hid hrd
        clear hrd hdr hi0 hz0 hz1' hz2
        have HD : Hid (decS (op :: t) = match readL (t.drop j) (op == 30) with
          | none => none
          | some (v, m) => fin (regsOf op j t v) (1 + j + m)) := by
          show _ = _; simp only [decS, HSH.out, Int.toNat_natCast, if_true]; rw [if_neg (by simp), if_neg (by simp; omega)]; cases readL (t.drop j) (op == 30) <;> rfl
        have hreg : ∀ x, regsOf op j t x = ⟨op, gR t 0 j, gR t 1 j, gR t 2 j, x⟩ := by intro x; simp [regsOf, gR, Nat.succ_le_iff]
        have HG := Lib.hid hreg
        clear hreg
        cases hrl : readL (t.drop j) (op == 30) with
        | none =>
          have HN : Hid (decS (op :: t) = none) := by show _ = _; rw [HD.out]; simp only [hrl]
          have HR := Lib.hid (fun v w h => read_none hrl hBd v w h)
          clear hrl hBd
          go_wp2_with fail
          go_region_held3 (fun w' => w'.cell? ⟨w1.heap.size + 1, 0, none⟩ = some (.int .u8 op)) (simp [go_sem, g0]) (first | (go_at_call 27; refine (HR.out _ _ HRD.out.drew).mono ?_; rintro e w4 ⟨v4, m4, rfl, rfl⟩))
          go_wp2_with fail
          refine bodyPost_ret (v := .tuple #[.agg #[.int .u8 0, .int .u8 0, .int .u8 0, .int .u8 0, .int .i64 0], .int .i64 0, .int .i64 3]) ?_ rfl (decPost_no HN.out ?_)
          · simp [results, Try.results10, go_sem, r0, r1, r2, r3, r4]
          · repeat (with_reducible (first | exact HL.out.bel | refine Below.drew ?_ | refine Below.alloc ?_ ?_ _ | refine Below.setCell ?_ ?_ _ | exact Nat.le_refl _ | (simp; done) | (simp; omega)))
        | some y =>
          obtain ⟨x, m⟩ := y
          obtain ⟨⟨x0, x1⟩, m1, m2, -⟩ := readL_some hBd hrl
          have hm : m ≤ t.length := by simp at m2; omega
          have hI3 : 1 + (j : Int) + (m : Int) ≤ (t.length : Int) + 1 := by simp at m2; omega
          have HR := Lib.hid (fun v w h => read_some hrl hBd v w h)
          have HF := Lib.hid (fun w => form_any op (gR t 0 j) (gR t 1 j) (gR t 2 j) x w)
          have HD2 : Hid (decS (op :: t) = fin ⟨op, gR t 0 j, gR t 1 j, gR t 2 j, x⟩ (1 + j + m)) := by show _ = _; rw [HD.out, hrl]; simp only [HG.out]
          clear hrl hBd m2
          go_wp2_with fail
          go_region_held3 (fun w' => w'.cell? ⟨w1.heap.size + 1, 0, none⟩ = some (.int .u8 op)) (simp [go_sem, g0]) (first | (go_at_call 27; refine (HR.out _ _ HRD.out.drew).mono ?_; rintro e w4 ⟨rfl, rfl⟩))
          go_wp2_with fail
          refine (HF.out _).mono ?_
          cases hf : formB ⟨op, gR t 0 j, gR t 1 j, gR t 2 j, x⟩
          · have HN : Hid (decS (op :: t) = none) := by show _ = _; rw [HD2.out]; simp [fin, hf]
            rintro e w4 ⟨rfl, hb4⟩
            obtain ⟨hc4, hf4⟩ := bcell hb4
            have zw4 : w.heap.size < w4.heap.size := by have := hb4.size; simp at this; omega
            have HB4 : Hid (Below w.heap.size w w4) := by
              refine Below.trans ?_ (hb4.mono (by simp; omega))
              repeat (with_reducible (first | exact HL.out.bel | refine Below.drew ?_ | refine Below.setCell ?_ ?_ _ | (simp; done) | (simp; omega)))
            clear hb4 hf
            go_wp2_with fail
            refine bodyPost_ret (v := .tuple #[.agg #[.int .u8 0, .int .u8 0, .int .u8 0, .int .u8 0, .int .i64 0], .int .i64 0, .int .i64 3]) ?_ rfl (decPost_no HN.out ?_)
            · simp [results, Try.results10, go_sem, hc4, zw, r0, r1, r2, r3, r4]
            · repeat (with_reducible (first | exact HB4.out | refine Below.alloc ?_ ?_ _ | refine Below.setCell ?_ ?_ _ | exact Nat.le_refl _ | (simp; done) | (simp; omega)))
          · have HN : Hid (decS (op :: t) = some (⟨op, gR t 0 j, gR t 1 j, gR t 2 j, x⟩, 1 + j + m)) := by show _ = _; rw [HD2.out]; simp [fin, hf]
            rintro e w4 ⟨rfl, hb4⟩
            obtain ⟨hc4, hf4⟩ := bcell hb4
            have zw4 : w.heap.size < w4.heap.size := by have := hb4.size; simp at this; omega
            have HB4 : Hid (Below w.heap.size w w4) := by
              refine Below.trans ?_ (hb4.mono (by simp; omega))
              repeat (with_reducible (first | exact HL.out.bel | refine Below.drew ?_ | refine Below.setCell ?_ ?_ _ | (simp; done) | (simp; omega)))
            clear hb4 hf
            go_wp2_with fail
            refine bodyPost_ret (v := .tuple #[.agg #[.int .u8 op, .int .u8 (gR t 0 j), .int .u8 (gR t 1 j), .int .u8 (gR t 2 j), .int .i64 x], .int .i64 (1 + (j : Int) + (m : Int)), .int .i64 0]) ?_ rfl (decPost_yes HN.out (by omega) ?_)
            · simp [results, Try.results10, go_sem, hc4, zw, r0, r1, r2, r3, r4]
            · repeat (with_reducible (first | exact HB4.out | refine Below.alloc ?_ ?_ _ | refine Below.setCell ?_ ?_ _ | exact Nat.le_refl _ | (simp; done) | (simp; omega)))

theorem decode_any (v : Value) (l : List Int) (w : World) (hv : RdB w v l) (hB : isB l) : Calls Try.prog 10 #[v] w (DecPost l w) := by
  rcases hv.split with ⟨a, c, rfl, rfl⟩ | ⟨b, off, c, rfl, hp, hlc, hc9, hb, hcell⟩
  · exact decode_nil a c w
  · obtain ⟨op, t, rfl⟩ : ∃ k t, l = k :: t := by cases l with
      | nil => simp at hp
      | cons k t => exact ⟨k, t, rfl⟩
    have hop := hB op (List.mem_cons_self ..)
    have c0 : w.cell? ⟨b, off, none⟩ = some (.int .u8 op) := by simpa using hcell 0 (by simp)
    have c1 : ∀ j, j < t.length → w.cell? ⟨b, off + (1 + j), none⟩ = some (.int .u8 (t.getD j 0)) := fun j hj => by
      have := hcell (1 + j) (by simp; omega); rw [Nat.add_comm 1 j] at this ⊢; simpa using this
    obtain ⟨r, i, lo, hi, ok, hs⟩ : ∃ r i lo hi ok, shp op = (r, i, lo, hi, ok) := ⟨_, _, _, _, _, rfl⟩
    obtain ⟨q, rfl, hq⟩ := shp_nat hop.1 hop.2 hs
    simp only [List.length_cons] at hlc
    cases ok
    · exact decode_bad b off c op t w q i false lo hi hs hq (.inl rfl) hb (by omega) c0
    · by_cases hlq : t.length < q
      · exact decode_bad b off c op t w q i true lo hi hs hq (.inr hlq) hb (by omega) c0
      · exact decode_main b off c op t w q i lo hi hs hq (by omega) hb hlc hc9 hv hB c0 c1
end Go.Proofs.Ytlnaaoigggfefaa
