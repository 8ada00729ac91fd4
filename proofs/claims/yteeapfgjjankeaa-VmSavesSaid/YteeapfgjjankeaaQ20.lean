/- Vm: the example's four steps. -/
import Derived.Test.YteeapfgjjankeaaQVc
import Derived.Test.YteeapfgjjankeaaQVp
import Derived.Test.YteeapfgjjankeaaQVe
import Derived.Deep.DeepCutAuto
import Derived.Deep.RegionWith
namespace Go.Proofs.Yteeapfgjjankeaa
open Go.RowKit

section
variable {w0 w : World} {base M F OB : Nat} {wv ev dv iv hv outs sl : Value} {xs : List Int} {steps exit marks at_ r0 : Int}
theorem step0 (h : MS w0 base M F OB (mC wv ev dv iv hv OB 1 steps 0 exit outs marks at_) (fC 0 r0 sl) wv ev outs xs w) (h0 : 0 ≤ steps) (h1 : steps ≤ 1000) :
    Calls Try.prog 29 #[.pointer (some ⟨M, 0, none⟩)] w fun e w' => e = .returned (.int .u8 30) ∧ MS w0 base M F OB (mC wv ev dv iv hv OB 1 (steps + 1) 0 exit outs marks 0) (fC 1 7 sl) wv ev outs xs w' := by
  refine step_any w0 w base M F OB wv ev dv iv hv outs sl xs steps exit marks at_ r0 0 30 7 (fun w' => MS w0 base M F OB (mC wv ev dv iv hv OB 1 (steps + 1) 0 exit outs marks 0) (fC 1 7 sl) wv ev outs xs w') h (by omega) h0 h1 rfl rfl rfl rfl rfl (by decide) fun V hV => ?_
  refine (do_num M F _ r0 7 V hV.hf (by simp [World.cell?, hV.hf, fC])).mono ?_
  rintro e w' ⟨rfl, hT⟩
  exact ⟨rfl, hV.turnF hT, hT.kw hV.hf (by decide)⟩
theorem step1 (h : MS w0 base M F OB (mC wv ev dv iv hv OB 1 steps 0 exit outs marks at_) (fC 1 r0 sl) wv ev outs xs w) (h0 : 0 ≤ steps) (h1 : steps ≤ 1000) (hl : xs.length ≤ 100) :
    Calls Try.prog 29 #[.pointer (some ⟨M, 0, none⟩)] w fun e w' => e = .returned (.int .u8 42) ∧ ∃ v', MS w0 base M F OB (mC wv ev dv iv hv OB 1 (steps + 1) 0 exit v' marks 1) (fC 2 r0 sl) wv ev v' (xs ++ [r0]) w' := by
  refine step_any w0 w base M F OB wv ev dv iv hv outs sl xs steps exit marks at_ r0 1 42 0 (fun w' => ∃ v', MS w0 base M F OB (mC wv ev dv iv hv OB 1 (steps + 1) 0 exit v' marks 1) (fC 2 r0 sl) wv ev v' (xs ++ [r0]) w') h (by omega) h0 h1 rfl rfl rfl rfl rfl (by decide) fun V hV => ?_
  refine (do_print w0 V base M F OB _ _ wv ev outs xs r0 hV hl (by simp [World.cell?, hV.hm, mC]) (by simp [World.cell?, hV.hf, fC])).mono ?_
  rintro e w' ⟨rfl, v', hM, hK⟩
  exact ⟨rfl, ⟨v', hM⟩, hK⟩
theorem step2 (h : MS w0 base M F OB (mC wv ev dv iv hv OB 1 steps 0 exit outs marks at_) (fC 2 r0 sl) wv ev outs xs w) (h0 : 0 ≤ steps) (h1 : steps ≤ 1000) (m0 : 0 ≤ marks) (m1 : marks ≤ 1000) :
    Calls Try.prog 29 #[.pointer (some ⟨M, 0, none⟩)] w fun e w' => e = .returned (.int .u8 44) ∧ MS w0 base M F OB (mC wv ev dv iv hv OB 1 (steps + 1) 0 exit outs (marks + 1) 2) (fC 3 r0 sl) wv ev outs xs w' := by
  refine step_any w0 w base M F OB wv ev dv iv hv outs sl xs steps exit marks at_ r0 2 44 0 (fun w' => MS w0 base M F OB (mC wv ev dv iv hv OB 1 (steps + 1) 0 exit outs (marks + 1) 2) (fC 3 r0 sl) wv ev outs xs w') h (by omega) h0 h1 rfl rfl rfl rfl rfl (by decide) fun V hV => ?_
  refine (do_mark M F _ marks V hV.hm (by simp [World.cell?, hV.hm, mC]) m0 (by omega)).mono ?_
  rintro e w' ⟨rfl, hT⟩
  exact ⟨rfl, hV.turnM hT, hT.kw hV.hm (by decide)⟩
theorem step3 (h : MS w0 base M F OB (mC wv ev dv iv hv OB 1 steps 0 exit outs marks at_) (fC 3 r0 sl) wv ev outs xs w) (h0 : 0 ≤ steps) (h1 : steps ≤ 1000) :
    Calls Try.prog 29 #[.pointer (some ⟨M, 0, none⟩)] w fun e w' => e = .returned (.int .u8 47) ∧ MS w0 base M F OB (mC wv ev dv iv hv OB 0 (steps + 1) 1 r0 outs marks 3) (fC 4 r0 sl) wv ev outs xs w' := by
  refine step_any w0 w base M F OB wv ev dv iv hv outs sl xs steps exit marks at_ r0 3 47 0 (fun w' => MS w0 base M F OB (mC wv ev dv iv hv OB 0 (steps + 1) 1 r0 outs marks 3) (fC 4 r0 sl) wv ev outs xs w') h (by omega) h0 h1 rfl rfl rfl rfl rfl (by decide) fun V hV => ?_
  refine (do_ret M F OB _ _ r0 0 exit 0 V hV.hm hV.ho hV.hf (by simp [World.cell?, hV.hm, mC]) (by simp [World.cell?, hV.hm, mC]) (by simp [World.cell?, hV.hm, mC]) (by simp [World.cell?, hV.hf, fC]) (by simp [World.cell?, hV.hf, fC])).mono ?_
  rintro e w' ⟨rfl, hT⟩
  exact ⟨rfl, hV.turnM hT, hT.kw hV.hm (by decide)⟩

set_option maxHeartbeats 4000000 in
/-- Two steps of a machine that stands at its beginning. -/
theorem run2 (h : MS w0 base M F OB (mC wv ev dv iv hv OB 1 0 0 0 (.slice none 0 0) 0 0) (fC 0 0 sl) wv ev (.slice none 0 0) [] w) :
    Calls Try.prog 12 #[.pointer (some ⟨M, 0, none⟩), .int .i64 2] w fun e w' => e = .returned (.int .i64 2) ∧ ∃ v', MS w0 base M F OB (mC wv ev dv iv hv OB 1 2 0 0 v' 0 1) (fC 2 7 sl) wv ev v' [7] w' := by
  have HH := Lib.hid h
  have m8 : w.cell? ⟨M, 8, none⟩ = some (.int .u8 0) := by simp [World.cell?, h.hm, mC]
  clear h
  go_enter Try.func12, Try.ntmps12
  go_wp2_with fail
  go_loopw [5] (fun n wr => (n = .int .i64 0 ∧ Hid (MS w0 base M F OB (mC wv ev dv iv hv OB 1 0 0 0 (.slice none 0 0) 0 0) (fC 0 0 sl) wv ev (.slice none 0 0) [] wr)) ∨ (n = .int .i64 1 ∧ Hid (MS w0 base M F OB (mC wv ev dv iv hv OB 1 1 0 0 (.slice none 0 0) 0 0) (fC 1 7 sl) wv ev (.slice none 0 0) [] wr)) ∨ (n = .int .i64 2 ∧ Hid (∃ v', MS w0 base M F OB (mC wv ev dv iv hv OB 1 2 0 0 v' 0 1) (fC 2 7 sl) wv ev v' [7] wr))) (fun n _ => 3 - (intOf n).toNat)
  case atStart => exact .inl ⟨rfl, HH⟩
  case round =>
    obtain ⟨wa, rfl⟩ : ∃ wa : World, wa = wr := ⟨_, rfl⟩
    rcases hrel with ⟨rfl, H⟩ | ⟨rfl, H⟩ | ⟨rfl, H⟩
    · have m8 : wa.cell? ⟨M, 8, none⟩ = some (.int .u8 0) := by simp [World.cell?, H.out.hm, mC]
      go_wp2_with fail
      refine (step0 H.out (by omega) (by omega)).mono ?_
      rintro e w1 ⟨rfl, h1⟩
      have H1 := Lib.hid h1
      clear h1 m8
      go_wp2_with fail
      exact ⟨.inr (.inl ⟨rfl, H1⟩), by decide⟩
    · have m8 : wa.cell? ⟨M, 8, none⟩ = some (.int .u8 0) := by simp [World.cell?, H.out.hm, mC]
      go_wp2_with fail
      refine (step1 H.out (by omega) (by omega) (by simp)).mono ?_
      rintro e w1 ⟨rfl, h1⟩
      have H1 := Lib.hid h1
      clear h1 m8
      go_wp2_with fail
      exact ⟨.inr (.inr ⟨rfl, H1⟩), by decide⟩
    · go_wp2_with fail
      go_ret
      exact ⟨rfl, H.out⟩

set_option maxHeartbeats 4000000 in
theorem tomark9 (h : MS w0 base M F OB (mC wv ev dv iv hv OB 1 2 0 0 outs 0 1) (fC 2 7 sl) wv ev outs xs w) :
    Calls Try.prog 16 #[.pointer (some ⟨M, 0, none⟩), .int .i64 9] w fun e w' => e = .returned (.bool true) ∧ MS w0 base M F OB (mC wv ev dv iv hv OB 1 3 0 0 outs 1 2) (fC 3 7 sl) wv ev outs xs w' := by
  have HH := Lib.hid h
  clear h
  go_enter Try.func16, Try.ntmps16
  go_wp2_with fail
  go_loopw [5] (fun n wr => n = .int .i64 0 ∧ Hid (MS w0 base M F OB (mC wv ev dv iv hv OB 1 2 0 0 outs 0 1) (fC 2 7 sl) wv ev outs xs wr)) (fun _ _ => 0)
  case atStart => exact ⟨rfl, HH⟩
  case round =>
    obtain ⟨wa, rfl⟩ : ∃ wa : World, wa = wr := ⟨_, rfl⟩
    obtain ⟨rfl, H⟩ := hrel
    have m8 : wa.cell? ⟨M, 8, none⟩ = some (.int .u8 0) := by simp [World.cell?, H.out.hm, mC]
    go_wp2_with fail
    refine (step2 H.out (by omega) (by omega) (by omega) (by omega)).mono ?_
    rintro e w1 ⟨rfl, h1⟩
    have H1 := Lib.hid h1
    clear h1 m8
    go_wp2_with fail
    go_ret
    exact ⟨rfl, H1.out⟩
set_option maxHeartbeats 4000000 in
theorem run9 (h : MS w0 base M F OB (mC wv ev dv iv hv OB 1 3 0 0 outs 1 2) (fC 3 7 sl) wv ev outs xs w) :
    Calls Try.prog 12 #[.pointer (some ⟨M, 0, none⟩), .int .i64 9] w fun e w' => e = .returned (.int .i64 1) ∧ MS w0 base M F OB (mC wv ev dv iv hv OB 0 4 1 7 outs 1 3) (fC 4 7 sl) wv ev outs xs w' := by
  have HH := Lib.hid h
  have m8 : w.cell? ⟨M, 8, none⟩ = some (.int .u8 0) := by simp [World.cell?, h.hm, mC]
  clear h
  go_enter Try.func12, Try.ntmps12
  go_wp2_with fail
  go_loopw [5] (fun n wr => (n = .int .i64 0 ∧ Hid (MS w0 base M F OB (mC wv ev dv iv hv OB 1 3 0 0 outs 1 2) (fC 3 7 sl) wv ev outs xs wr)) ∨ (n = .int .i64 1 ∧ Hid (MS w0 base M F OB (mC wv ev dv iv hv OB 0 4 1 7 outs 1 3) (fC 4 7 sl) wv ev outs xs wr))) (fun n _ => 3 - (intOf n).toNat)
  case atStart => exact .inl ⟨rfl, HH⟩
  case round =>
    obtain ⟨wa, rfl⟩ : ∃ wa : World, wa = wr := ⟨_, rfl⟩
    rcases hrel with ⟨rfl, H⟩ | ⟨rfl, H⟩
    · have m8 : wa.cell? ⟨M, 8, none⟩ = some (.int .u8 0) := by simp [World.cell?, H.out.hm, mC]
      go_wp2_with fail
      refine (step3 H.out (by omega) (by omega)).mono ?_
      rintro e w1 ⟨rfl, h1⟩
      have H1 := Lib.hid h1
      clear h1 m8
      go_wp2_with fail
      exact ⟨.inr ⟨rfl, H1⟩, by decide⟩
    · have m8 : wa.cell? ⟨M, 8, none⟩ = some (.int .u8 1) := by simp [World.cell?, H.out.hm, mC]
      go_wp2_with fail
      go_ret
      exact ⟨rfl, H.out⟩
end
end Go.Proofs.Yteeapfgjjankeaa

/- Vm: a frame; a new machine. -/
namespace Go.Proofs.Yteeapfgjjankeaa
open Go.RowKit

set_option maxHeartbeats 4000000 in
set_option maxRecDepth 100000 in
theorem frame_ex (M eb ec : Nat) (w : World) (m1 : w.cell? ⟨M, 1, none⟩ = some (.slice (some ⟨eb, 0, none⟩) 1 ec)) (e0 : w.cell? ⟨eb, 0, none⟩ = some (.int .i64 0)) (e1 : w.cell? ⟨eb, 1, none⟩ = some (.int .i64 0)) (hM : M < w.heap.size) (he : eb < w.heap.size) :
    Calls Try.prog 28 #[.pointer (some ⟨M, 0, none⟩), .int .i64 0, .slice none 0 0, .int .u8 0] w fun e w' => e = .returned (.pointer (some ⟨w.heap.size, 0, none⟩)) ∧ ∃ sl, w'.heap[w.heap.size]? = some (.cells (fC 0 0 sl) 87 (0, 0)) ∧ Below w.heap.size w w' := by
  obtain ⟨im, mi0, mz0, mz1, mz2⟩ := info_partsV cinfoN
  obtain ⟨E, hE⟩ : ∃ E, E = madeCells (Value.int .i64 0).cells ((0 : Int).toNat * im.size) := ⟨_, rfl⟩
  have hmk : ∀ W, (Instr.makeSlice 27 (.int .i64 0) (.int .i64 0)).run Try.prog W = .ok (.slice (some ⟨W.heap.size, 0, none⟩) 0 0) (W.alloc (.cells E 2)) := fun W => by
    have h := Go.run_make (P := Try.prog) W 27 2 im _ Try.underlying27 mi0 mz0 .i64 .i64 0 0 (by omega) (by omega) (by omega) (by omega)
    rw [← hE] at h
    exact h
  clear hE
  go_enter Try.func28, Try.ntmps28
  go_wp2_with fail
  obtain ⟨w1, hw1⟩ : ∃ w1, w1 = w.alloc (.cells (fC 0 0 (.slice none 0 0)) 87) := ⟨_, rfl⟩
  have hw1' := hw1
  simp only [fC] at hw1'
  rw [← hw1']
  have hB : Below w.heap.size w w1 := by rw [hw1]; exact (Below.refl _ _).alloc (Nat.le_refl _) _
  have hf1 : w1.heap[w.heap.size]? = some (.cells (fC 0 0 (.slice none 0 0)) 87 (0, 0)) := by rw [hw1]; exact heap_alloc_new _ _
  have n1 : w1.cell? ⟨M, 1, none⟩ = some (.slice (some ⟨eb, 0, none⟩) 1 ec) := (hB.cell (p := ⟨M, 1, none⟩) hM).trans m1
  have n2 : w1.cell? ⟨eb, 0 + 0 * 2 + 1, none⟩ = some (.int .i64 0) := (hB.cell (p := ⟨eb, 1, none⟩) he).trans e1
  have hl1 : w.heap.size < w1.heap.size := (Array.getElem?_eq_some_iff.1 hf1).1
  have c18 : w1.cell? ⟨w.heap.size, 18, none⟩ = some (.slice none 0 0) := by simp [World.cell?, hf1, fC]
  have z18 : w1.frozen? ⟨w.heap.size, 18, none⟩ = false := by simp [World.frozen?, hf1]
  have HF := Lib.hid hf1
  have HB := Lib.hid hB
  clear hw1 hw1' hf1 hB e0 e1 m1
  refine (slots_any M eb 0 1 ec 0 0 w1 n1 (by omega) n2 (by omega) (by omega)).mono ?_
  rintro e w2 ⟨rfl, hw2⟩
  subst hw2
  go_wp2_with fail
  go_ret
  refine ⟨rfl, .slice (some ⟨w2.heap.size, 0, none⟩) 0 0, ?_, ?_⟩
  · exact ((turn_set HF.out (.slice (some ⟨w2.heap.size, 0, none⟩) 0 0) (i := 18)).later ((Below.refl _ _).alloc (Nat.le_refl _) (.cells E 2))).at_
  · exact (HB.out.setCell (Nat.le_refl _) _).alloc (by rw [World.size_setCell]; exact HB.out.size) _
end Go.Proofs.Yteeapfgjjankeaa

/- Vm: Status; lists of numbers compared. -/
namespace Go.Proofs.Yteeapfgjjankeaa
open Go.RowKit

theorem drewN2 (w : World) (a b : Nat) : (w.drewN a).drewN b = w.drewN (a + b) := by
  unfold World.drewN; simp [Nat.add_assoc]
theorem own_down2 {w : World} {base base' : Nat} {e : TypeId} {size n : Nat} {v : Value} {xs : List Value} (h : w.ownsRow base e size v n xs) (hb : base' ≤ base) : w.ownsRow base' e size v n xs := by
  refine ⟨h.1, ?_⟩
  rcases h.2 with h | ⟨g', c', cur', e1, e2, e3⟩
  · exact .inl h
  · exact .inr ⟨g', c', cur', e1, Nat.le_trans hb e2, e3⟩
theorem own_row1 {w : World} {base : Nat} {v : Value} {x : Int} (h : w.ownsRow base 2 1 v 1 [.int .i64 x]) : ∃ g c, v = .slice (some ⟨g, 0, none⟩) 1 c ∧ w.cell? ⟨g, 0, none⟩ = some (.int .i64 x) ∧ g < w.heap.size := by
  rcases h.2 with ⟨_, h2⟩ | ⟨g, c, cur, rfl, h1, h2, h3, h4, h5, h6⟩
  · omega
  · have := h.cells rfl 0 (.int .i64 x) rfl
    exact ⟨g, c, rfl, by simpa [Addr.add] using this, (Array.getElem?_eq_some_iff.1 h2).1⟩
set_option maxHeartbeats 2000000 in
theorem sameInts1 (a b ca cb : Nat) (x : Int) (w : World) (ha : w.cell? ⟨a, 0, none⟩ = some (.int .i64 x)) (hb : w.cell? ⟨b, 0, none⟩ = some (.int .i64 x)) :
    Calls Try.prog 22 #[.slice (some ⟨a, 0, none⟩) 1 ca, .slice (some ⟨b, 0, none⟩) 1 cb] w fun e w' => e = .returned (.bool true) ∧ ∃ q, w' = w.drewN q := by
  go_enter Try.func22, Try.ntmps22
  go_wp2_with fail
  go_loopw [13] (fun i wr => (i = .int .i64 0 ∨ i = .int .i64 1) ∧ ∃ q, wr = w.drewN q) (fun i _ => 3 - (intOf i).toNat)
  case atStart => exact ⟨.inl rfl, 0, rfl⟩
  case round =>
    obtain ⟨hi, q, hq⟩ := hrel
    have ha2 : wr.cell? ⟨a, 0, none⟩ = some (.int .i64 x) := by rw [hq]; exact ha
    have hb2 : wr.cell? ⟨b, 0, none⟩ = some (.int .i64 x) := by rw [hq]; exact hb
    have HQ := Lib.hid hq
    clear hq ha hb
    rcases hi with rfl | rfl
    · go_upto_region 6 with fail
      go_quiet (fail)
      go_wp2_with fail
      refine ⟨⟨.inr rfl, ?_⟩, by decide⟩
      rw [HQ.out]
      exact ⟨_, drewN2 _ _ _⟩
    · go_wp2_with fail
      go_ret
      exact ⟨rfl, q, HQ.out⟩
theorem sameInts0 (a b : Option Addr) (ca cb : Nat) (w : World) :
    Calls Try.prog 22 #[.slice a 0 ca, .slice b 0 cb] w fun e w' => e = .returned (.bool true) ∧ w' = w := by
  go_enter Try.func22, Try.ntmps22
  go_wp2_with fail
  go_loopw [13] (fun i wr => i = .int .i64 0 ∧ wr = w) (fun _ _ => 0)
  case atStart => exact ⟨rfl, rfl⟩
  case round =>
    obtain ⟨rfl, rfl⟩ := hrel
    go_wp2_with fail
    go_ret
    exact ⟨rfl, by first | rfl | trivial⟩

set_option maxHeartbeats 4000000 in
theorem status_any (w0 w : World) (base M F OB on : Nat) (wv ev dv iv hv outs sl : Value) (xs : List Int) (steps end_ exit marks at_ nx r0 : Int) (h : MS w0 base M F OB (mC wv ev dv iv hv OB on steps end_ exit outs marks at_) (fC nx r0 sl) wv ev outs xs w) (hl : xs.length ≤ 100) :
    Calls Try.prog 15 #[.pointer (some ⟨M, 0, none⟩)] w fun e w' =>
      ∃ v', e = .returned (.agg #[.int .u8 end_, .int .i64 exit, v', .int .i64 0, .int .i64 steps, .int .i64 marks, .int .i64 at_]) ∧ w'.ownsRow w.heap.size 2 1 v' xs.length (xs.map (Value.int .i64)) ∧ Below w.heap.size w w' := by
  obtain ⟨oa, oc, rfl⟩ := (Rd.of_own h.hx).shape
  have HH := Lib.hid h
  have hlM : M < w.heap.size := (Array.getElem?_eq_some_iff.1 h.hm).1
  have m7 : w.cell? ⟨M, 7, none⟩ = some (.int .i64 steps) := by simp [World.cell?, h.hm, mC]
  have m8 : w.cell? ⟨M, 8, none⟩ = some (.int .u8 end_) := by simp [World.cell?, h.hm, mC]
  have m9 : w.cell? ⟨M, 9, none⟩ = some (.int .i64 exit) := by simp [World.cell?, h.hm, mC]
  have m10 : w.cell? ⟨M, 10, none⟩ = some (.slice oa xs.length oc) := by simp [World.cell?, h.hm, mC]
  have m11 : w.cell? ⟨M, 11, none⟩ = some (.int .i64 0) := by simp [World.cell?, h.hm, mC]
  have m12 : w.cell? ⟨M, 12, none⟩ = some (.int .i64 0) := by simp [World.cell?, h.hm, mC]
  have m13 : w.cell? ⟨M, 13, none⟩ = some (.int .i64 marks) := by simp [World.cell?, h.hm, mC]
  have m14 : w.cell? ⟨M, 14, none⟩ = some (.int .i64 at_) := by simp [World.cell?, h.hm, mC]
  clear h
  go_enter Try.func15, Try.ntmps15
  go_upto_region 4 with fail
  obtain ⟨w1, hw1⟩ : ∃ w1, w1 = (w.alloc (.cells #[.int .u8 0, .int .i64 0, .slice none 0 0, .int .i64 0, .int .i64 0, .int .i64 0, .int .i64 0] 41)).alloc (.cells #[.int .u8 end_, .int .i64 exit, .slice oa xs.length oc, .int .i64 0, .int .i64 0, .int .i64 marks, .int .i64 at_] 41) := ⟨_, rfl⟩
  rw [← hw1]
  have hB1 : Below w.heap.size w w1 := by rw [hw1]; exact ((Below.refl _ _).alloc (Nat.le_refl _) _).alloc (by simp) _
  have hx1 : w1.heap[w.heap.size + 1]? = some (.cells #[.int .u8 end_, .int .i64 exit, .slice oa xs.length oc, .int .i64 0, .int .i64 0, .int .i64 marks, .int .i64 at_] 41 (0, 0)) := by
    rw [hw1]
    have := heap_alloc_new (w.alloc (.cells #[.int .u8 0, .int .i64 0, .slice none 0 0, .int .i64 0, .int .i64 0, .int .i64 0, .int .i64 0] 41)) (.cells #[.int .u8 end_, .int .i64 exit, .slice oa xs.length oc, .int .i64 0, .int .i64 0, .int .i64 marks, .int .i64 at_] 41)
    rw [World.size_alloc] at this
    exact this
  have hx0 : w1.heap[w.heap.size]? = some (.cells #[.int .u8 0, .int .i64 0, .slice none 0 0, .int .i64 0, .int .i64 0, .int .i64 0, .int .i64 0] 41 (0, 0)) := by
    rw [hw1, Below.heap_alloc _ _ _ (by simp)]; exact heap_alloc_new _ _
  have H1 := Lib.hid (HH.out.later hB1)
  have HB1 := Lib.hid hB1
  have n7 : w1.cell? ⟨M, 7, none⟩ = some (.int .i64 steps) := (hB1.cell (p := ⟨M, 7, none⟩) hlM).trans m7
  have s2 : w1.cell? ⟨w.heap.size + 1, 2, none⟩ = some (.slice oa xs.length oc) := by simp [World.cell?, hx1]
  have s4 : w1.cell? ⟨w.heap.size + 1, 4, none⟩ = some (.int .i64 0) := by simp [World.cell?, hx1]
  have z2 : w1.frozen? ⟨w.heap.size + 1, 2, none⟩ = false := by simp [World.frozen?, hx1]
  have z4 : w1.frozen? ⟨w.heap.size + 1, 4, none⟩ = false := by simp [World.frozen?, hx1]
  have l1 : w.heap.size + 1 < w1.heap.size := (Array.getElem?_eq_some_iff.1 hx1).1
  have lM1 : M < w1.heap.size := Nat.lt_of_lt_of_le hlM hB1.size
  have HX1 := Lib.hid hx1
  have HX0 := Lib.hid hx0
  have CN := Lib.hid (cloneN (.slice oa xs.length oc) xs.length (xs.map (Value.int .i64)) w1.drew (Rd.of_own H1.out.hx) (ints_oneCell .i64 _) (by omega))
  clear hw1 hB1 hx1 hx0 m7 m8 m9 m10 m11 m12 m13 m14
  go_cut [] (fun wx => ∃ va vc, Hid (wx.heap[w.heap.size + 1]? = some (.cells #[.int .u8 end_, .int .i64 exit, .slice va xs.length vc, .int .i64 0, .int .i64 steps, .int .i64 marks, .int .i64 at_] 41 (0, 0))) ∧ Hid (wx.heap[w.heap.size]? = some (.cells #[.int .u8 0, .int .i64 0, .slice none 0 0, .int .i64 0, .int .i64 0, .int .i64 0, .int .i64 0] 41 (0, 0))) ∧ Hid (wx.ownsRow w.heap.size 2 1 (.slice va xs.length vc) xs.length (xs.map (Value.int .i64))) ∧ Hid (Below w.heap.size w wx))
  case first =>
    go_region_with (first
      | (go_at_call 27; refine CN.out.mono ?_; rintro e w5 ⟨q5, rfl, h5, b5⟩; obtain ⟨va, vc, rfl⟩ := (Rd.of_own h5).shape; have HO5 := Lib.hid h5; have HB5 := Lib.hid b5; have n7' : w5.cell? ⟨M, 7, none⟩ = some (.int .i64 steps) := (b5.cell (p := ⟨M, 7, none⟩) lM1).trans n7; have s2' : w5.cell? ⟨w.heap.size + 1, 2, none⟩ = some (.slice oa xs.length oc) := (b5.cell (p := ⟨w.heap.size + 1, 2, none⟩) l1).trans s2; have s4' : w5.cell? ⟨w.heap.size + 1, 4, none⟩ = some (.int .i64 0) := (b5.cell (p := ⟨w.heap.size + 1, 4, none⟩) l1).trans s4; have z2' : w5.frozen? ⟨w.heap.size + 1, 2, none⟩ = false := (World.frozen?_of_block (a := ⟨w.heap.size + 1, 2, none⟩) (b5.block _ l1)).trans z2; have z4' : w5.frozen? ⟨w.heap.size + 1, 4, none⟩ = false := (World.frozen?_of_block (a := ⟨w.heap.size + 1, 4, none⟩) (b5.block _ l1)).trans z4; clear h5 b5)
      | (go_at_call 31; refine (load_any M 7 steps _ n7').mono ?_; rintro e w6 ⟨rfl, rfl⟩)
      | (go_at_call 31; refine (load_any M 7 steps _ ((World.cell?_setCell_other _ ⟨w.heap.size + 1, 2, none⟩ ⟨M, 7, none⟩ _ (by simp; omega)).trans n7')).mono ?_; rintro e w6 ⟨rfl, hw6⟩; have HW6 := Lib.hid hw6; clear hw6)
      | (go_at_call 31; trace_state; fail))
    all_goals
      go_wp2_with fail
      go_meet
      have hx6 := (HB5.out.block _ l1).trans HX1.out
      have hx60 := (HB5.out.block w.heap.size (Nat.lt_of_succ_lt l1)).trans HX0.out
      have t1 := turn_set hx6 (.slice va xs.length vc) (i := 2)
      have t2 := t1.trans (turn_set t1.at_ (.int .i64 steps) (i := 4))
      have hb6 : Below w.heap.size w w6 := HB1.out.trans (((Below.refl w1.heap.size w1).drew.trans HB5.out).mono HB1.out.size)
      refine ⟨va, vc, t2.at_, (t2.block _ (Array.getElem?_eq_some_iff.1 hx60).1 (by omega)).trans hx60, ?_, t2.below hb6 (by omega) hb6.size⟩
      have ho := own_down2 HO5.out (show w.heap.size ≤ w1.drew.heap.size from HB1.out.size)
      refine own_same ho fun k hk => ?_
      obtain ⟨_, cur, hc⟩ := own_blk ho k hk
      exact t2.block k (Array.getElem?_eq_some_iff.1 hc).1 (blk_ne hc hx6 (cells_ne (by decide)))
  case rest =>
    obtain ⟨va, vc, HXa, HXb, HOw, HBw⟩ := hcut
    have g0 : wc.cell? ⟨w.heap.size + 1, 0, none⟩ = some (.int .u8 end_) := by simp [World.cell?, HXa.out]
    have g1 : wc.cell? ⟨w.heap.size + 1, 1, none⟩ = some (.int .i64 exit) := by simp [World.cell?, HXa.out]
    have g2 : wc.cell? ⟨w.heap.size + 1, 2, none⟩ = some (.slice va xs.length vc) := by simp [World.cell?, HXa.out]
    have g3 : wc.cell? ⟨w.heap.size + 1, 3, none⟩ = some (.int .i64 0) := by simp [World.cell?, HXa.out]
    have g4 : wc.cell? ⟨w.heap.size + 1, 4, none⟩ = some (.int .i64 steps) := by simp [World.cell?, HXa.out]
    have g5 : wc.cell? ⟨w.heap.size + 1, 5, none⟩ = some (.int .i64 marks) := by simp [World.cell?, HXa.out]
    have g6 : wc.cell? ⟨w.heap.size + 1, 6, none⟩ = some (.int .i64 at_) := by simp [World.cell?, HXa.out]
    have r0' : wc.cell? ⟨w.heap.size, 0, none⟩ = some (.int .u8 0) := by simp [World.cell?, HXb.out]
    have r1' : wc.cell? ⟨w.heap.size, 1, none⟩ = some (.int .i64 0) := by simp [World.cell?, HXb.out]
    have r2' : wc.cell? ⟨w.heap.size, 2, none⟩ = some (.slice none 0 0) := by simp [World.cell?, HXb.out]
    have r3' : wc.cell? ⟨w.heap.size, 3, none⟩ = some (.int .i64 0) := by simp [World.cell?, HXb.out]
    have r4' : wc.cell? ⟨w.heap.size, 4, none⟩ = some (.int .i64 0) := by simp [World.cell?, HXb.out]
    have r5' : wc.cell? ⟨w.heap.size, 5, none⟩ = some (.int .i64 0) := by simp [World.cell?, HXb.out]
    have r6' : wc.cell? ⟨w.heap.size, 6, none⟩ = some (.int .i64 0) := by simp [World.cell?, HXb.out]
    have f0 : wc.frozen? ⟨w.heap.size, 0, none⟩ = false := by simp [World.frozen?, HXb.out]
    have f1 : wc.frozen? ⟨w.heap.size, 1, none⟩ = false := by simp [World.frozen?, HXb.out]
    have f2 : wc.frozen? ⟨w.heap.size, 2, none⟩ = false := by simp [World.frozen?, HXb.out]
    have f3 : wc.frozen? ⟨w.heap.size, 3, none⟩ = false := by simp [World.frozen?, HXb.out]
    have f4 : wc.frozen? ⟨w.heap.size, 4, none⟩ = false := by simp [World.frozen?, HXb.out]
    have f5 : wc.frozen? ⟨w.heap.size, 5, none⟩ = false := by simp [World.frozen?, HXb.out]
    have f6 : wc.frozen? ⟨w.heap.size, 6, none⟩ = false := by simp [World.frozen?, HXb.out]
    have HRB := Lib.hid HXb.out
    clear n7 s2 s4 z2 z4 HXa CN HX0 HX1 H1 HB1
    go_wp2_with fail
    have t1 := turn_set HRB.out (.int .u8 end_) (i := 0)
    have t2 := t1.trans (turn_set t1.at_ (.int .i64 exit) (i := 1))
    have t3 := t2.trans (turn_set t2.at_ (.slice va xs.length vc) (i := 2))
    have t4 := t3.trans (turn_set t3.at_ (.int .i64 0) (i := 3))
    have t5 := t4.trans (turn_set t4.at_ (.int .i64 steps) (i := 4))
    have t6 := t5.trans (turn_set t5.at_ (.int .i64 marks) (i := 5))
    have t7 := t6.trans (turn_set t6.at_ (.int .i64 at_) (i := 6))
    clear t1 t2 t3 t4 t5 t6
    have hT : Turn wc _ w.heap.size (.cells #[.int .u8 end_, .int .i64 exit, .slice va xs.length vc, .int .i64 0, .int .i64 steps, .int .i64 marks, .int .i64 at_] 41 (0, 0)) := t7
    clear t7
    generalize ((((((wc.setCell ⟨w.heap.size, 0, none⟩ (.int .u8 end_)).setCell ⟨w.heap.size, 1, none⟩ (.int .i64 exit)).setCell ⟨w.heap.size, 2, none⟩ (.slice va xs.length vc)).setCell ⟨w.heap.size, 3, none⟩ (.int .i64 0)).setCell ⟨w.heap.size, 4, none⟩ (.int .i64 steps)).setCell ⟨w.heap.size, 5, none⟩ (.int .i64 marks)).setCell ⟨w.heap.size, 6, none⟩ (.int .i64 at_) = W at hT ⊢
    have q0 : W.cell? ⟨w.heap.size, 0, none⟩ = some (.int .u8 end_) := by simp [World.cell?, hT.at_]
    have q1 : W.cell? ⟨w.heap.size, 1, none⟩ = some (.int .i64 exit) := by simp [World.cell?, hT.at_]
    have q2 : W.cell? ⟨w.heap.size, 2, none⟩ = some (.slice va xs.length vc) := by simp [World.cell?, hT.at_]
    have q3 : W.cell? ⟨w.heap.size, 3, none⟩ = some (.int .i64 0) := by simp [World.cell?, hT.at_]
    have q4 : W.cell? ⟨w.heap.size, 4, none⟩ = some (.int .i64 steps) := by simp [World.cell?, hT.at_]
    have q5 : W.cell? ⟨w.heap.size, 5, none⟩ = some (.int .i64 marks) := by simp [World.cell?, hT.at_]
    have q6 : W.cell? ⟨w.heap.size, 6, none⟩ = some (.int .i64 at_) := by simp [World.cell?, hT.at_]
    refine bodyPost_ret (v := .agg #[.int .u8 end_, .int .i64 exit, .slice va xs.length vc, .int .i64 0, .int .i64 steps, .int .i64 marks, .int .i64 at_]) ?_ rfl ⟨_, rfl, ?_, hT.below HBw.out (Nat.le_refl _) HBw.out.size⟩
    · simp [results, Try.results15, go_sem, q0, q1, q2, q3, q4, q5, q6]
    · refine own_same HOw.out fun k hk => ?_
      obtain ⟨_, cur, hc⟩ := own_blk HOw.out k hk
      exact hT.block k (Array.getElem?_eq_some_iff.1 hc).1 (blk_ne hc HRB.out (cells_ne (by decide)))
theorem status_nil (w : World) :
    Calls Try.prog 15 #[.pointer none] w fun e w' => e = .returned (.agg #[.int .u8 0, .int .i64 0, .slice none 0 0, .int .i64 0, .int .i64 0, .int .i64 0, .int .i64 0]) ∧ Below w.heap.size w w' := by
  go_enter Try.func15, Try.ntmps15
  go_wp2_with fail
  refine bodyPost_ret (v := .agg #[.int .u8 0, .int .i64 0, .slice none 0 0, .int .i64 0, .int .i64 0, .int .i64 0, .int .i64 0]) ?_ rfl ⟨rfl, (Below.refl _ _).alloc (Nat.le_refl _) _⟩
  simp [results, Try.results15, go_sem]
end Go.Proofs.Yteeapfgjjankeaa
