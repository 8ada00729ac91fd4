/- Walks: an instruction's bytes, as the reference makes them. -/
import Derived.Test.YtlnaaoigggfefaaO
import Derived.Test.YtlnaaoigggfefaaU
namespace Go.Proofs.Ytlnaaoigggfefaa
open Go.RowKit

theorem rd_three (w : World) (b q : Nat) (x y z : Int) (hq : q ≤ 3) (h : w.heap[b]? = some (.cells #[.int .u8 x, .int .u8 y, .int .u8 z] 5 (0, 0))) :
    Rd w 1 (.slice (some ⟨b, 0, none⟩) q 3) q (([x, y, z].take q).map (Value.int .u8)) := by
  refine Rd.mk (by simp; omega) hq (by unfold maxLen; omega) (fun j hj => ?_)
  simp at hj
  have hj3 : j = 0 ∨ j = 1 ∨ j = 2 := by omega
  rcases hj3 with rfl | rfl | rfl <;> simp [World.cell?, h]

theorem keepH {w1 w2 : World} {A B : Obj} {k : Nat} (m : Nat) (hm : k < m) (hk : k < w1.heap.size) (hg : (((w1.alloc A).alloc B).drew).grownBy w2 (Value.ownBlock (.slice (some ⟨m, 0, none⟩) 1 1))) : w2.heap[k]? = w1.heap[k]? := by
  rw [hg.block k (by simp; omega) (by simp [Value.ownBlock]; omega), heap_drew, heap_alloc_old _ _ (by simp; omega), heap_alloc_old _ _ hk]
theorem keep4 {w1 w2 : World} {A B : Obj} {k : Nat} (m : Nat) {p q r s : Value} (hm : k < m) (hk : k < w1.heap.size) (h0 : w1.cell? ⟨k, 0, none⟩ = some p) (h1 : w1.cell? ⟨k, 1, none⟩ = some q) (h2 : w1.cell? ⟨k, 2, none⟩ = some r) (h3 : w1.cell? ⟨k, 3, none⟩ = some s)
    (hg : (((w1.alloc A).alloc B).drew).grownBy w2 (Value.ownBlock (.slice (some ⟨m, 0, none⟩) 1 1))) :
    w2.cell? ⟨k, 0, none⟩ = some p ∧ w2.cell? ⟨k, 1, none⟩ = some q ∧ w2.cell? ⟨k, 2, none⟩ = some r ∧ w2.cell? ⟨k, 3, none⟩ = some s := by
  have e : ∀ o, w2.cell? ⟨k, o, none⟩ = w1.cell? ⟨k, o, none⟩ := by
    intro o
    refine World.cell?_of_block (w := w1) ?_
    rw [hg.block k (by simp; omega) (by simp [Value.ownBlock]; omega), heap_drew, heap_alloc_old _ _ (by simp; omega), heap_alloc_old _ _ hk]
  rw [e, e, e, e]
  exact ⟨h0, h1, h2, h3⟩

set_option maxHeartbeats 4000000 in
theorem refEncode_any (op a b c imm : Int) (w : World) (hf : formB ⟨op, a, b, c, imm⟩ = true) (hi1 : -9223372036854775808 ≤ imm) (hi2 : imm ≤ 9223372036854775807) (h0 : 0 ≤ op) (h1 : op ≤ 255) :
   Calls Try.prog 19 #[.agg #[.int .u8 op, .int .u8 a, .int .u8 b, .int .u8 c, .int .i64 imm]] w fun e w' => ∃ v, e = .returned v ∧ ownB w' w.heap.size v (encL ⟨op, a, b, c, imm⟩) ∧ Below w.heap.size w w' := by
  obtain ⟨r, i, lo, hi, ok, hs⟩ : ∃ r i lo hi ok, shp op = (r, i, lo, hi, ok) := ⟨_, _, _, _, _, rfl⟩
  have hE : Hid (encL ⟨op, a, b, c, imm⟩ = op :: ([a, b, c].take r.toNat ++ (if i then numL imm (op == 30) else []))) := by show _ = _; simp only [encL, hs]
  obtain ⟨⟨r0, r3⟩, -, -⟩ := shp_facts h0 h1 hs
  obtain ⟨q, rfl⟩ := Int.eq_ofNat_of_zero_le r0
  clear r0
  have hok : ok = true := by simp only [formB, hs, Bool.and_eq_true] at hf; exact hf.1
  subst hok
  have hpos : (op == 30) = false → i = true → 0 ≤ imm := by
    intro hne hit
    subst hit
    have := form_lo (x := ⟨op, a, b, c, imm⟩) hf hs
    have := shp_lo0 h0 h1 hs (by simpa using hne)
    simp at *; omega
  have hn := fun w => names_any op w h0 h1
  have e1 : nmR op = (q : Int) := by simp [nmR, hs]
  have e2 : nmI op = i := by simp [nmI, hs]
  rw [e1, e2] at hn
  have HN := Lib.hid hn
  obtain ⟨i0, hi, hz0, hz1, hz2⟩ := info_parts infoB
  have HI : Hid _ := And.intro hi (And.intro hz0 (And.intro hz1 hz2))
  have HP := Lib.hid hpos
  clear hi hz0 hz1 hz2 hf hs h0 h1 hn e1 e2 hpos
  go_enter Try.func19, Try.ntmps19
  go_wp2_with fail
  refine (HN.out _).mono ?_
  rintro e w1 ⟨rfl, hb⟩
  have hz : w.heap.size < w1.heap.size := by have := hb.size; simp at this; omega
  have hW1 : w1.heap[w.heap.size]? = some (.cells #[.int .u8 op, .int .u8 a, .int .u8 b, .int .u8 c, .int .i64 imm] 26) := by
    rw [hb.block w.heap.size (by simp)]; exact heap_alloc_new w _
  have HB1 : Hid (Below w.heap.size w w1) := ((Below.refl _ _).alloc (Nat.le_refl _) _).trans (hb.mono (by simp))
  clear hb HN
  have d0 : w1.cell? ⟨w.heap.size, 0, none⟩ = some (.int .u8 op) := by simp [World.cell?, hW1]
  have d1 : w1.cell? ⟨w.heap.size, 1, none⟩ = some (.int .u8 a) := by simp [World.cell?, hW1]
  have d2 : w1.cell? ⟨w.heap.size, 2, none⟩ = some (.int .u8 b) := by simp [World.cell?, hW1]
  have d3 : w1.cell? ⟨w.heap.size, 3, none⟩ = some (.int .u8 c) := by simp [World.cell?, hW1]
  have d4 : w1.cell? ⟨w.heap.size, 4, none⟩ = some (.int .i64 imm) := by simp [World.cell?, hW1]
  have HW1 := Lib.hid hW1
  clear hW1
  go_wp2_with fail
  have b1 : 1 + q ≤ maxLen := by unfold maxLen; omega
  have b2 : (1 + q) * 1 ≤ 140737488355328 := by omega
  have b3 : w.heap.size ≤ w1.heap.size := by omega
  have oa : ∀ o, (((w1.alloc (.cells #[.int .u8 op] 5)).alloc o).drew).ownsRow w.heap.size 5 1 (.slice (some ⟨w1.heap.size, 0, none⟩) 1 1) 1 [.int .u8 op] := fun o => (own_one w1 _ _ b3).alloc o
  have ob : ∀ o, (((w1.alloc o).alloc (.cells #[.int .u8 op] 5)).drew).ownsRow w.heap.size 5 1 (.slice (some ⟨w1.heap.size + 1, 0, none⟩) 1 1) 1 [.int .u8 op] := fun o => by
    have h := own_one (w1.alloc o) w.heap.size (.int .u8 op) (by simp; omega)
    rw [World.size_alloc] at h
    exact h
  have ra : ∀ o, Rd (((w1.alloc (.cells #[.int .u8 a, .int .u8 b, .int .u8 c] 5)).alloc o).drew) 1 (.slice (some ⟨w1.heap.size, 0, none⟩) q 3) q (([a, b, c].take q).map (Value.int .u8)) := fun o => rd_three _ _ _ _ _ _ (by omega) (by rw [heap_drew, heap_alloc_old _ _ (by simp), heap_alloc_new])
  have rb : ∀ o, Rd (((w1.alloc o).alloc (.cells #[.int .u8 a, .int .u8 b, .int .u8 c] 5)).drew) 1 (.slice (some ⟨w1.heap.size + 1, 0, none⟩) q 3) q (([a, b, c].take q).map (Value.int .u8)) := fun o => rd_three _ _ _ _ _ _ (by omega) (by rw [heap_drew, show w1.heap.size + 1 = (w1.alloc o).heap.size from by simp, heap_alloc_new])
  have OA := Lib.hid oa
  have OB := Lib.hid ob
  have RA := Lib.hid ra
  have RB := Lib.hid rb
  clear oa ob ra rb
  go_region_held3 (fun w' => w'.cell? ⟨w.heap.size, 0, none⟩ = some (.int .u8 op) ∧ w'.cell? ⟨w.heap.size, 1, none⟩ = some (.int .u8 a) ∧ w'.cell? ⟨w.heap.size, 2, none⟩ = some (.int .u8 b) ∧ w'.cell? ⟨w.heap.size, 3, none⟩ = some (.int .u8 c))
    (first | (simp [go_sem, World.cell?_alloc_past, hz, d0, d1, d2, d3]; done) | (exact keep4 w1.heap.size hz hz d0 d1 d2 d3 hgrow2) | (exact keep4 (w1.heap.size + 1) (by omega) hz d0 d1 d2 d3 hgrow2))
    (first | (refine step_append_own_rd rfl _ _ 22 rfl w.heap.size 5 i0 (.int .u8 0) 1 1 Try.underlying22 HI.out.1 HI.out.2.1 HI.out.2.2.1 HI.out.2.2.2 rfl (by decide) _ _ [.int .u8 op] rfl (OA.out _) _ q (([a, b, c].take q).map (Value.int .u8)) rfl (RB.out _) (ints_oneCell .u8 _) b1 b2 ?_ ?_; (simp; omega); intro v2 w2 hown2 hgrow2) | (refine step_append_own_rd rfl _ _ 22 rfl w.heap.size 5 i0 (.int .u8 0) 1 1 Try.underlying22 HI.out.1 HI.out.2.1 HI.out.2.2.1 HI.out.2.2.2 rfl (by decide) _ _ [.int .u8 op] rfl (OB.out _) _ q (([a, b, c].take q).map (Value.int .u8)) rfl (RA.out _) (ints_oneCell .u8 _) b1 b2 ?_ ?_; (simp; omega); intro v2 w2 hown2 hgrow2))
  all_goals
    have hs2 : w1.heap.size + 2 ≤ w2.heap.size := by have := hgrow2.size; simp at this; omega
    have hsz2 : w.heap.size ≤ w2.heap.size := by omega
    have HO : Hid (ownB w2 w.heap.size v2 (op :: [a, b, c].take q)) := ownB_grow (l := [op]) (x := [a, b, c].take q) hown2 (by simp; omega)
    have HB : Hid (Below w.heap.size w w2) := by
      refine Below.grown (row := _) ?_ hgrow2 (by simp; omega) (fun k hk => by cases hk; show w.heap.size ≤ _; first | exact b3 | exact Nat.le_trans b3 (Nat.le_succ _))
      exact ((HB1.out.alloc (by omega) _).alloc (by simp; omega) _).drew
    have hW2 : w2.heap[w.heap.size]? = some (.cells #[.int .u8 op, .int .u8 a, .int .u8 b, .int .u8 c, .int .i64 imm] 26) := by
      rw [show w2.heap[w.heap.size]? = w1.heap[w.heap.size]? from by first | exact keepH w1.heap.size hz hz hgrow2 | exact keepH (w1.heap.size + 1) (by omega) hz hgrow2]; exact HW1.out
    have f0 : w2.cell? ⟨w.heap.size, 0, none⟩ = some (.int .u8 op) := by simp [World.cell?, hW2]
    have f4 : w2.cell? ⟨w.heap.size, 4, none⟩ = some (.int .i64 imm) := by simp [World.cell?, hW2]
    clear hown2 hgrow2 hs2 OA OB RA RB b1 b2 hW2 d0 d1 d2 d3 d4 HW1
    cases i
    · go_wp2_with fail
      go_ret
      exact ⟨_, rfl, by rw [hE.out]; simpa using HO.out, HB.out⟩
    · go_wp2_with fail
      refine (refNumber_any _ _ _ hi1 hi2 (fun h => HP.out h (by simp))).mono ?_
      rintro e w3 ⟨v3, rfl, hn, hb3⟩
      have hl : (op :: List.take q [a, b, c]).length ≤ 4 := by simp; omega
      have hl2 := nbL_le imm (op == 30)
      have b1 : (op :: List.take q [a, b, c]).length + (numL imm (op == 30)).length ≤ maxLen := by simp [numL, bytesL_length]; unfold maxLen; omega
      have b2 : ((op :: List.take q [a, b, c]).length + (numL imm (op == 30)).length) * 1 ≤ 140737488355328 := by simp [numL, bytesL_length]; omega
      have hs3 := hb3.size
      have ho3 : w3.ownsRow w.heap.size 5 1 _ _ _ := HO.out.kept (row := none) ⟨hb3.os, hb3.tape, hb3.output, hb3.size, fun k hk _ => hb3.block k hk⟩ (by cases hv : Value.ownBlock _ <;> simp)
      have HN := Lib.hid hn
      have HB3 := Lib.hid (HB.out.trans (hb3.mono hsz2))
      have HO3 := Lib.hid ho3
      have hsz3 : w.heap.size ≤ w3.heap.size := Nat.le_trans hsz2 hs3
      clear hb3 hn ho3 hs3 hl hl2
      go_wp2_with (at_builtin; refine wpList_append_own_rd _ rfl _ _ 22 rfl w.heap.size 5 i0 (.int .u8 0) 1 1 Try.underlying22 HI.out.1 HI.out.2.1 HI.out.2.2.1 HI.out.2.2.2 rfl (by decide) _ _ _ rfl HO3.out _ _ _ rfl HN.out.rd (ints_oneCell .u8 _) b1 b2 hsz3 ?_; intro v' w4 hown4 hgrow4)
      go_ret
      refine ⟨_, rfl, ?_, ?_⟩
      · rw [hE.out]; simp only [if_true, Int.toNat_natCast]
        exact ownB_grow (l := op :: List.take q [a, b, c]) hown4 (by simp)
      · exact HB3.out.grown hgrow4 hsz3 (fun k hk => (HO3.out.lt k hk).1)
end Go.Proofs.Ytlnaaoigggfefaa
