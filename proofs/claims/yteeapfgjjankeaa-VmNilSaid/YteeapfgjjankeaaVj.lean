/- Vm: no machine; an image without a main function; VmNil, the walk. -/
import Derived.Test.YteeapfgjjankeaaVi
import Derived.Deep.DeepCutAuto
namespace Go.Proofs.Yteeapfgjjankeaa
open Go.RowKit

theorem run_nil (n : Int) (w : World) : Calls Try.prog 12 #[.pointer none, .int .i64 n] w fun e w' => e = .returned (.int .i64 0) ∧ w' = w := by
  go_enter Try.func12, Try.ntmps12
  go_wp2_with fail
  go_ret
  exact ⟨rfl, rfl⟩
theorem tomark_nil (n : Int) (w : World) : Calls Try.prog 16 #[.pointer none, .int .i64 n] w fun e w' => e = .returned (.bool false) ∧ w' = w := by
  go_enter Try.func16, Try.ntmps16
  go_wp2_with fail
  go_ret
  exact ⟨rfl, rfl⟩
theorem calls_nil (w : World) : Calls Try.prog 18 #[.pointer none] w fun e w' => e = .returned (.slice none 0 0) ∧ Below w.heap.size w w' := by
  go_enter Try.func18, Try.ntmps18
  go_wp2_with fail
  go_ret
  exact ⟨rfl, (Below.refl _ _).alloc (Nat.le_refl _) _⟩
theorem heap_nil (w : World) : Calls Try.prog 23 #[.pointer none] w fun e w' => e = .returned (.slice none 0 0) ∧ w' = w := by
  go_enter Try.func23, Try.ntmps23
  go_wp2_with fail
  go_ret
  exact ⟨rfl, rfl⟩
theorem save_nil (w : World) : Calls Try.prog 14 #[.pointer none] w fun e w' => e = .returned (.slice none 0 0) ∧ w' = w := by
  go_enter Try.func14, Try.ntmps14
  go_wp2_with fail
  go_ret
  exact ⟨rfl, rfl⟩
set_option maxHeartbeats 4000000 in
theorem sameStatus0 (w : World) : Calls Try.prog 19 #[.agg #[.int .u8 0, .int .i64 0, .slice none 0 0, .int .i64 0, .int .i64 0, .int .i64 0, .int .i64 0], .agg #[.int .u8 0, .int .i64 0, .slice none 0 0, .int .i64 0, .int .i64 0, .int .i64 0, .int .i64 0]] w fun e w' => e = .returned (.bool true) ∧ Below w.heap.size w w' := by
  go_enter Try.func19, Try.ntmps19
  go_wp2_with fail
  refine (sameInts0 none none 0 0 _).mono ?_
  rintro e w2 ⟨rfl, rfl⟩
  go_wp2_with fail
  go_ret
  exact ⟨rfl, ((Below.refl _ _).alloc (Nat.le_refl _) _).alloc (by simp) _⟩
theorem new_neg (wa ea da ia : Option Addr) (wn wc en ec dn dc il ic : Nat) (w : World) :
    Calls Try.prog 9 #[.agg #[.slice wa wn wc, .slice ea en ec, .int .i64 (-1), .slice da dn dc], .slice ia il ic] w fun e w' => e = .returned (.tuple #[.pointer none, .int .i64 3]) ∧ Below w.heap.size w w' := by
  go_enter Try.func9, Try.ntmps9
  go_wp2_with fail
  go_ret2
  exact ⟨rfl, (Below.refl _ _).alloc (Nat.le_refl _) _⟩
theorem load_neg (wa ea da pa : Option Addr) (wn wc en ec dn dc pn pc : Nat) (w : World) :
    Calls Try.prog 17 #[.agg #[.slice wa wn wc, .slice ea en ec, .int .i64 (-1), .slice da dn dc], .slice none 0 0, .slice pa pn pc] w fun e w' => e = .returned (.tuple #[.pointer none, .int .i64 3]) ∧ Below w.heap.size w w' := by
  go_enter Try.func17, Try.ntmps17
  go_wp2_with fail
  refine (new_neg _ _ _ _ _ _ _ _ _ _ _ _ _).mono ?_
  rintro e w2 ⟨rfl, hb⟩
  have HB := Lib.hid hb
  clear hb
  go_wp2_with fail
  go_ret2
  exact ⟨rfl, Below.trans ((Below.refl _ _).alloc (Nat.le_refl _) _) (HB.out.mono (by simp))⟩

theorem cell_in {w : World} {b : Nat} {c : Array Value} {t : TypeId} (h : w.heap[b]? = some (.cells c t (0, 0))) (i : Nat) : w.cell? ⟨b, i, none⟩ = c[i]? := by simp [World.cell?, h]
set_option maxHeartbeats 8000000 in
theorem twin_any (wv ev dv : Value) (m : Int) (wn en dn : Nat) (wx ex dx : List Value) (w : World) (hW : Rd w 5 wv wn wx) (hE : Rd w 2 ev en ex) (hD : Rd w 1 dv dn dx) (ow : ∀ u ∈ wx, u.oneCell' = true) (oe : ∀ u ∈ ex, u.oneCell' = true) (od : ∀ u ∈ dx, u.oneCell' = true) (bw : wn * 16 ≤ 140737488355328) (be : en * 16 ≤ 140737488355328) (bd : dn * 1 ≤ 140737488355328) :
    Calls Try.prog 10 #[.agg #[wv, ev, .int .i64 m, dv]] w fun e w' => ∃ wa wc ea ec da dc, e = .returned (.agg #[.slice wa wn wc, .slice ea en ec, .int .i64 m, .slice da dn dc]) ∧ Below w.heap.size w w' := by
  obtain ⟨wa0, wc0, rfl⟩ := Rd.shape hW
  obtain ⟨ea0, ec0, rfl⟩ := Rd.shape hE
  obtain ⟨da0, dc0, rfl⟩ := Rd.shape hD
  have RW := Lib.hid hW
  have RE := Lib.hid hE
  have RDD := Lib.hid hD
  have OW := Lib.hid ow
  have OE := Lib.hid oe
  have OD := Lib.hid od
  clear hW hE hD ow oe od
  go_enter Try.func10, Try.ntmps10
  go_upto_region 1 with fail
  obtain ⟨w1, hw1⟩ : ∃ w1, w1 = (w.alloc (.cells #[.slice wa0 wn wc0, .slice ea0 en ec0, .int .i64 m, .slice da0 dn dc0] 26)).alloc (.cells #[.slice none 0 0, .slice none 0 0, .int .i64 0, .slice none 0 0] 26) := ⟨_, rfl⟩
  rw [← hw1]
  have HB1 : Hid (Below w.heap.size w w1) := by rw [hw1]; exact ((Below.refl _ _).alloc (Nat.le_refl _) _).alloc (by simp) _
  have HX1 : Hid (w1.heap[w.heap.size]? = some (.cells #[.slice wa0 wn wc0, .slice ea0 en ec0, .int .i64 m, .slice da0 dn dc0] 26 (0, 0))) := by
    rw [hw1]; exact (Below.heap_alloc _ _ _ (by simp)).trans (heap_alloc_new _ _)
  have HZ1 : Hid (w1.heap[w.heap.size + 1]? = some (.cells #[.slice none 0 0, .slice none 0 0, .int .i64 0, .slice none 0 0] 26 (0, 0))) := by rw [hw1]; exact heap_two0 _ _ _
  clear hw1
  have hx1 := HX1.out
  have c1 : w1.cell? ⟨w.heap.size, 0, none⟩ = some (.slice wa0 wn wc0) := by simp [World.cell?, hx1]
  have lb1 : w.heap.size < w1.heap.size := (Array.getElem?_eq_some_iff.1 hx1).1
  have HR1 : Hid (Rd (w1.alloc (.cells #[] 60)) 5 (.slice wa0 wn wc0) wn wx) := Rd.later RW.out (HB1.out.alloc HB1.out.size _)
  have bb1 : 0 + wn ≤ maxLen := by unfold maxLen; omega
  have bc1 : (0 + wn) * 16 ≤ 140737488355328 := by omega
  obtain ⟨im1, mi1, mz1, ms1, my1⟩ := info_partsV cinfoW
  clear hx1
  go_upto_region 2 with (at_builtin; refine wpList_append_own_rd _ rfl _ _ 22 rfl w1.heap.size 60 im1 (.agg #[.int .u8 0, .int .u8 0, .int .u8 0, .int .u8 0, .int .i64 0]) 5 16 Try.underlying22 mi1 mz1 ms1 my1 rfl (by decide) _ 0 [] rfl (emptyW w1) _ wn wx rfl HR1.out OW.out bb1 bc1 (by simp) ?_; intro q1 u1 hown1 hgrow1; have hb1 : Below w1.heap.size w1 u1 := ((Below.refl _ _).alloc (Nat.le_refl _) _).grown hgrow1 (by simp) (fun k hk => by cases hk; exact Nat.le_refl _); have hy1 := (hb1.block _ lb1).trans HX1.out; have hz1 := (hb1.block _ (Array.getElem?_eq_some_iff.1 HZ1.out).1).trans HZ1.out; have d1 := cell_in hy1 0; have z1 := frz hy1 0; obtain ⟨qa1, qc1, rfl⟩ := (Rd.of_own hown1).shape)
  obtain ⟨w2, hw2⟩ : ∃ w2, w2 = u1.setCell ⟨w.heap.size, 0, none⟩ (.slice qa1 wn qc1) := ⟨_, rfl⟩
  first | rw [← hw2] | (rw [Nat.zero_add] at hown1; rw [← hw2])
  have HB2 : Hid (Below w.heap.size w w2) := by rw [hw2]; exact (HB1.out.trans (hb1.mono HB1.out.size)).setCell (Nat.le_refl _) _
  have HX2 : Hid (w2.heap[w.heap.size]? = some (.cells #[.slice qa1 wn qc1, .slice ea0 en ec0, .int .i64 m, .slice da0 dn dc0] 26 (0, 0))) := by rw [hw2]; exact (turn_set hy1 (.slice qa1 wn qc1) (i := 0)).at_
  have HZ2 : Hid (w2.heap[w.heap.size + 1]? = some (.cells #[.slice none 0 0, .slice none 0 0, .int .i64 0, .slice none 0 0] 26 (0, 0))) := by rw [hw2, Below.heap_setCell _ _ _ _ (by simp)]; exact hz1
  clear hw2 hb1 hy1 hz1 d1 z1 c1 lb1 hown1 hgrow1
  have hx2 := HX2.out
  have c2 : w2.cell? ⟨w.heap.size, 1, none⟩ = some (.slice ea0 en ec0) := by simp [World.cell?, hx2]
  have lb2 : w.heap.size < w2.heap.size := (Array.getElem?_eq_some_iff.1 hx2).1
  have HR2 : Hid (Rd (w2.alloc (.cells #[] 62)) 2 (.slice ea0 en ec0) en ex) := Rd.later RE.out (HB2.out.alloc HB2.out.size _)
  have bb2 : 0 + en ≤ maxLen := by unfold maxLen; omega
  have bc2 : (0 + en) * 16 ≤ 140737488355328 := by omega
  obtain ⟨im2, mi2, mz2, ms2, my2⟩ := info_partsV cinfoE
  clear hx2
  go_upto_region 3 with (at_builtin; refine wpList_append_own_rd _ rfl _ _ 23 rfl w2.heap.size 62 im2 (.agg #[.int .i64 0, .int .i64 0]) 2 16 Try.underlying23 mi2 mz2 ms2 my2 rfl (by decide) _ 0 [] rfl (emptyE w2) _ en ex rfl HR2.out OE.out bb2 bc2 (by simp) ?_; intro q2 u2 hown2 hgrow2; have hb2 : Below w2.heap.size w2 u2 := ((Below.refl _ _).alloc (Nat.le_refl _) _).grown hgrow2 (by simp) (fun k hk => by cases hk; exact Nat.le_refl _); have hy2 := (hb2.block _ lb2).trans HX2.out; have hz2 := (hb2.block _ (Array.getElem?_eq_some_iff.1 HZ2.out).1).trans HZ2.out; have d2 := cell_in hy2 1; have z2 := frz hy2 1; obtain ⟨qa2, qc2, rfl⟩ := (Rd.of_own hown2).shape)
  obtain ⟨w3, hw3⟩ : ∃ w3, w3 = u2.setCell ⟨w.heap.size, 1, none⟩ (.slice qa2 en qc2) := ⟨_, rfl⟩
  first | rw [← hw3] | (rw [Nat.zero_add] at hown2; rw [← hw3])
  have HB3 : Hid (Below w.heap.size w w3) := by rw [hw3]; exact (HB2.out.trans (hb2.mono HB2.out.size)).setCell (Nat.le_refl _) _
  have HX3 : Hid (w3.heap[w.heap.size]? = some (.cells #[.slice qa1 wn qc1, .slice qa2 en qc2, .int .i64 m, .slice da0 dn dc0] 26 (0, 0))) := by rw [hw3]; exact (turn_set hy2 (.slice qa2 en qc2) (i := 1)).at_
  have HZ3 : Hid (w3.heap[w.heap.size + 1]? = some (.cells #[.slice none 0 0, .slice none 0 0, .int .i64 0, .slice none 0 0] 26 (0, 0))) := by rw [hw3, Below.heap_setCell _ _ _ _ (by simp)]; exact hz2
  clear hw3 hb2 hy2 hz2 d2 z2 c2 lb2 hown2 hgrow2
  have hx3 := HX3.out
  have c3 : w3.cell? ⟨w.heap.size, 3, none⟩ = some (.slice da0 dn dc0) := by simp [World.cell?, hx3]
  have lb3 : w.heap.size < w3.heap.size := (Array.getElem?_eq_some_iff.1 hx3).1
  have HR3 : Hid (Rd (w3.alloc (.cells #[] 5)) 1 (.slice da0 dn dc0) dn dx) := Rd.later RDD.out (HB3.out.alloc HB3.out.size _)
  have bb3 : 0 + dn ≤ maxLen := by unfold maxLen; omega
  have bc3 : (0 + dn) * 1 ≤ 140737488355328 := by omega
  obtain ⟨im3, mi3, mz3, ms3, my3⟩ := info_partsV cinfoB
  clear hx3
  go_upto_region 4 with (at_builtin; refine wpList_append_own_rd _ rfl _ _ 24 rfl w3.heap.size 5 im3 (.int .u8 0) 1 1 Try.underlying24 mi3 mz3 ms3 my3 rfl (by decide) _ 0 [] rfl (emptyB w3) _ dn dx rfl HR3.out OD.out bb3 bc3 (by simp) ?_; intro q3 u3 hown3 hgrow3; have hb3 : Below w3.heap.size w3 u3 := ((Below.refl _ _).alloc (Nat.le_refl _) _).grown hgrow3 (by simp) (fun k hk => by cases hk; exact Nat.le_refl _); have hy3 := (hb3.block _ lb3).trans HX3.out; have hz3 := (hb3.block _ (Array.getElem?_eq_some_iff.1 HZ3.out).1).trans HZ3.out; have d3 := cell_in hy3 3; have z3 := frz hy3 3; obtain ⟨qa3, qc3, rfl⟩ := (Rd.of_own hown3).shape)
  obtain ⟨w4, hw4⟩ : ∃ w4, w4 = u3.setCell ⟨w.heap.size, 3, none⟩ (.slice qa3 dn qc3) := ⟨_, rfl⟩
  first | rw [← hw4] | (rw [Nat.zero_add] at hown3; rw [← hw4])
  have HB4 : Hid (Below w.heap.size w w4) := by rw [hw4]; exact (HB3.out.trans (hb3.mono HB3.out.size)).setCell (Nat.le_refl _) _
  have HX4 : Hid (w4.heap[w.heap.size]? = some (.cells #[.slice qa1 wn qc1, .slice qa2 en qc2, .int .i64 m, .slice qa3 dn qc3] 26 (0, 0))) := by rw [hw4]; exact (turn_set hy3 (.slice qa3 dn qc3) (i := 3)).at_
  have HZ4 : Hid (w4.heap[w.heap.size + 1]? = some (.cells #[.slice none 0 0, .slice none 0 0, .int .i64 0, .slice none 0 0] 26 (0, 0))) := by rw [hw4, Below.heap_setCell _ _ _ _ (by simp)]; exact hz3
  clear hw4 hb3 hy3 hz3 d3 z3 c3 lb3 hown3 hgrow3
  have hx4 := HX4.out
  have hz4 := HZ4.out
  have p0 := cell_in hx4 0
  have p1 := cell_in hx4 1
  have p2 := cell_in hx4 2
  have p3 := cell_in hx4 3
  have r0 := cell_in hz4 0
  have r1 := cell_in hz4 1
  have r2 := cell_in hz4 2
  have r3 := cell_in hz4 3
  have f0 := frz hz4 0
  have f1 := frz hz4 1
  have f2 := frz hz4 2
  have f3 := frz hz4 3
  clear hx4 hz4
  go_wp2_with fail
  have t1 := turn_set HZ4.out (.slice qa1 wn qc1) (i := 0)
  have t2 := t1.trans (turn_set t1.at_ (.slice qa2 en qc2) (i := 1))
  have t3 := t2.trans (turn_set t2.at_ (.int .i64 m) (i := 2))
  have t4 := t3.trans (turn_set t3.at_ (.slice qa3 dn qc3) (i := 3))
  have hT : Turn w4 _ (w.heap.size + 1) (.cells #[.slice qa1 wn qc1, .slice qa2 en qc2, .int .i64 m, .slice qa3 dn qc3] 26 (0, 0)) := t4
  clear t1 t2 t3 t4
  generalize (((w4.setCell ⟨w.heap.size + 1, 0, none⟩ (.slice qa1 wn qc1)).setCell ⟨w.heap.size + 1, 1, none⟩ (.slice qa2 en qc2)).setCell ⟨w.heap.size + 1, 2, none⟩ (.int .i64 m)).setCell ⟨w.heap.size + 1, 3, none⟩ (.slice qa3 dn qc3) = W at hT ⊢
  have q0 := cell_in hT.at_ 0
  have q1 := cell_in hT.at_ 1
  have q2 := cell_in hT.at_ 2
  have q3 := cell_in hT.at_ 3
  refine bodyPost_ret (v := .agg #[.slice qa1 wn qc1, .slice qa2 en qc2, .int .i64 m, .slice qa3 dn qc3]) ?_ rfl ⟨_, _, _, _, _, _, rfl, hT.below HB4.out (by omega) HB4.out.size⟩
  simp [results, Try.results10, go_sem, q0, q1, q2, q3]

set_option maxHeartbeats 8000000 in
theorem vmNil_walk (n : Int) (wv ev dv pv : Value) (m : Int) (wn en dn pn : Nat) (wx ex dx px : List Value) (w : World) (hW : Rd w 5 wv wn wx) (hE : Rd w 2 ev en ex) (hD : Rd w 1 dv dn dx) (hP : Rd w 1 pv pn px) (ow : ∀ u ∈ wx, u.oneCell' = true) (oe : ∀ u ∈ ex, u.oneCell' = true) (od : ∀ u ∈ dx, u.oneCell' = true) (bw : wn * 16 ≤ 140737488355328) (be : en * 16 ≤ 140737488355328) (bd : dn * 1 ≤ 140737488355328) :
    Calls Try.prog 6 #[.int .i64 n, .agg #[wv, ev, .int .i64 m, dv], pv] w fun e w' => e = .returned (.bool true) ∧ Below w.heap.size w w' := by
  have HT := Lib.hid (fun W (hb : Below w.heap.size w W) => twin_any wv ev dv (-1) wn en dn wx ex dx W (Rd.later hW hb) (Rd.later hE hb) (Rd.later hD hb) ow oe od bw be bd)
  obtain ⟨wa0, wc0, rfl⟩ := Rd.shape hW
  obtain ⟨ea0, ec0, rfl⟩ := Rd.shape hE
  obtain ⟨da0, dc0, rfl⟩ := Rd.shape hD
  obtain ⟨pa0, pc0, rfl⟩ := Rd.shape hP
  clear hW hE hD hP ow oe od
  go_enter Try.func6, Try.ntmps6
  go_wp2_with fail
  refine (HT.out _ ((Below.refl _ _).alloc (Nat.le_refl _) _)).mono ?_
  rintro e w2 ⟨wa, wc, ea, ec, da, dc, rfl, hb2⟩
  have HB2 : Hid (Below w.heap.size w w2) := Below.trans ((Below.refl _ _).alloc (Nat.le_refl _) _) (hb2.mono (by simp))
  clear hb2 HT
  go_wp2_with fail
  refine (load_neg _ _ _ _ _ _ _ _ _ _ _ _ _).mono ?_
  rintro e w3 ⟨rfl, hb3⟩
  have HB3 : Hid (Below w.heap.size w w3) := HB2.out.trans (hb3.mono HB2.out.size)
  clear hb3 HB2
  go_wp2_with fail
  refine (awake_any w3).mono ?_
  rintro e w4 ⟨rfl, hb4⟩
  have HB4 : Hid (Below w.heap.size w w4) := HB3.out.trans (hb4.mono HB3.out.size)
  clear hb4 HB3
  go_wp2_with fail
  refine (run_nil n w4).mono ?_
  rintro e w5 ⟨rfl, hw5⟩
  subst hw5
  go_wp2_with fail
  refine (tomark_nil n _).mono ?_
  rintro e w6 ⟨rfl, hw6⟩
  subst hw6
  go_wp2_with fail
  refine (status_nil _).mono ?_
  rintro e w7 ⟨rfl, hb7⟩
  have HB7 : Hid (Below w.heap.size w w7) := HB4.out.trans (hb7.mono HB4.out.size)
  clear hb7 HB4
  go_wp2_with fail
  refine (sameStatus0 _).mono ?_
  rintro e w8 ⟨rfl, hb8⟩
  have HB8 : Hid (Below w.heap.size w w8) := HB7.out.trans (hb8.mono HB7.out.size)
  clear hb8 HB7
  go_wp2_with fail
  refine (calls_nil _).mono ?_
  rintro e w9 ⟨rfl, hb9⟩
  have HB9 : Hid (Below w.heap.size w w9) := HB8.out.trans (hb9.mono HB8.out.size)
  clear hb9 HB8
  go_wp2_with fail
  refine (heap_nil _).mono ?_
  rintro e w10 ⟨rfl, hw10⟩
  subst hw10
  go_wp2_with fail
  refine (save_nil _).mono ?_
  rintro e w11 ⟨rfl, hw11⟩
  subst hw11
  go_wp2_with fail
  go_ret
  exact ⟨rfl, HB9.out⟩
end Go.Proofs.Yteeapfgjjankeaa
