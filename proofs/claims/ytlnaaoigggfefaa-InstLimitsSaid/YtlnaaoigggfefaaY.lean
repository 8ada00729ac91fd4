/- Walks: the document's examples hold. -/
import Derived.Test.YtlnaaoigggfefaaX
namespace Go.Proofs.Ytlnaaoigggfefaa
open Go.RowKit

theorem rd_lit (w : World) (b : Nat) (l : List Int) (hl : l.length ≤ 1000) (hb : w.heap[b]? = some (.cells (l.map (Value.int .u8)).toArray 5 (0, 0))) : RdB w (.slice (some ⟨b, 0, none⟩) l.length l.length) l := by
  refine Rd.mk (by simp) (Nat.le_refl _) (by unfold maxLen; omega) (fun j hj => ?_)
  simp only [World.cell?, hb, Nat.zero_add]
  simp

theorem heap_at {w : World} {o : Obj} {b : Nat} (h : w.heap.size = b) : (w.alloc o).heap[b]? = some o := by subst h; exact heap_alloc_new w o
theorem isB_lit (l : List Int) (h : l.all (fun x => decide (0 ≤ x) && decide (x ≤ 255)) = true) : isB l := by
  intro x hx
  have := List.all_eq_true.1 h x hx
  simpa using this

theorem below_to {w w1 w2 : World} (h : Below w.heap.size w w1) (h2 : Below w1.heap.size w1 w2) : Below w.heap.size w w2 := h.trans (h2.mono h.size)

set_option maxHeartbeats 4000000 in
theorem awake_any (w : World) : Calls Try.prog 8 #[] w fun e w' => e = .returned (.bool true) ∧ Below w.heap.size w w' := by
  have e1 := fun w => encode_ok 30 3 0 0 (-2) w (by decide +kernel) (by omega) (by omega) (by omega) (by omega)
  have e2 := fun w => encode_ok 30 3 0 0 128 w (by decide +kernel) (by omega) (by omega) (by omega) (by omega)
  have e3 := fun w => encode_ok 45 0 0 0 300 w (by decide +kernel) (by omega) (by omega) (by omega) (by omega)
  rw [show encL ⟨30, 3, 0, 0, -2⟩ = [30, 3, 1, 254] by decide +kernel] at e1
  rw [show encL ⟨30, 3, 0, 0, 128⟩ = [30, 3, 2, 128, 0] by decide +kernel] at e2
  rw [show encL ⟨45, 0, 0, 0, 300⟩ = [45, 2, 44, 1] by decide +kernel] at e3
  have E1 := Lib.hid e1
  have E2 := Lib.hid e2
  have E3 := Lib.hid e3
  have hd : decS [30, 3, 2, 5, 0] = none := by decide +kernel
  have HD := Lib.hid hd
  clear e1 e2 e3 hd
  go_enter Try.func8, Try.ntmps8
  go_wp2_with fail
  refine (E1.out _).mono ?_
  rintro e w1 ⟨v1, rfl, ho1, hb1⟩
  have HR1 := Lib.hid ho1.rd
  have HB1 := Lib.hid hb1
  clear ho1 hb1
  go_wp2_with fail
  refine (E2.out _).mono ?_
  rintro e w2 ⟨v2, rfl, ho2, hb2⟩
  have HR1' : Hid (RdB w2 v1 _) := HR1.out.later hb2
  have HR2 := Lib.hid ho2.rd
  have HB2 := Lib.hid (below_to HB1.out hb2)
  clear ho2 hb2 HR1 HB1
  go_wp2_with fail
  refine (E3.out _).mono ?_
  rintro e w3 ⟨v3, rfl, ho3, hb3⟩
  have HR1 : Hid (RdB w3 v1 _) := HR1'.out.later hb3
  have HR2' : Hid (RdB w3 v2 _) := HR2.out.later hb3
  have HR3 := Lib.hid ho3.rd
  have HB3 := Lib.hid (below_to HB2.out hb3)
  clear ho3 hb3 HR1' HR2 HB2
  go_wp2_with fail
  refine (decode_any _ [30, 3, 2, 5, 0] _ (rd_lit _ _ [30, 3, 2, 5, 0] (by simp) (heap_alloc_new w3 _)) (isB_lit _ (by decide))).mono ?_
  rintro e w4 ⟨hb4, op, a, b, c, imm, n, err, rfl, -, hN⟩
  obtain ⟨rfl, rfl, rfl, rfl, rfl, rfl, rfl⟩ := hN HD.out
  have hb34 : Below w3.heap.size w3 w4 := below_to ((Below.refl _ _).alloc (Nat.le_refl _) _) hb4
  have HR1' : Hid (RdB w4 v1 _) := HR1.out.later hb34
  have HR2 : Hid (RdB w4 v2 _) := HR2'.out.later hb34
  have HR3' : Hid (RdB w4 v3 _) := HR3.out.later hb34
  have HB4 := Lib.hid (below_to HB3.out hb34)
  clear hb4 hb34 hN HR1 HR2' HR3 HB3
  have q1 : eqL [30, 3, 1, 254] [30, 3, 1, 254] = true := by decide
  have q2 : eqL [30, 3, 2, 128, 0] [30, 3, 2, 128, 0] = true := by decide
  have q3 : eqL [45, 2, 44, 1] [45, 2, 44, 1] = true := by decide
  go_wp2_with fail
  refine (sameBytes_any _ _ [30, 3, 1, 254] [30, 3, 1, 254] _ (Rd.alloc (Rd.alloc HR1'.out _) _) (rd_lit _ _ [30, 3, 1, 254] (by simp) (heap_at (by simp))) (isB_lit _ (by decide)) (isB_lit _ (by decide))).mono ?_
  rw [q1]
  rintro e w' ⟨rfl, rfl⟩
  go_wp2_with fail
  refine (sameBytes_any _ _ [30, 3, 2, 128, 0] [30, 3, 2, 128, 0] _ (Rd.alloc (Rd.alloc (Rd.alloc HR2.out _) _) _) (rd_lit _ _ [30, 3, 2, 128, 0] (by simp) (heap_at (by simp))) (isB_lit _ (by decide)) (isB_lit _ (by decide))).mono ?_
  rw [q2]
  rintro e w' ⟨rfl, rfl⟩
  go_wp2_with fail
  refine (sameBytes_any _ _ [45, 2, 44, 1] [45, 2, 44, 1] _ (Rd.alloc (Rd.alloc (Rd.alloc (Rd.alloc HR3'.out _) _) _) _) (rd_lit _ _ [45, 2, 44, 1] (by simp) (heap_at (by simp))) (isB_lit _ (by decide)) (isB_lit _ (by decide))).mono ?_
  rw [q3]
  rintro e w' ⟨rfl, rfl⟩
  go_wp2_with fail
  go_ret
  refine ⟨rfl, ?_⟩
  refine below_to HB4.out ?_
  repeat (with_reducible (first | exact Below.refl _ _ | refine Below.alloc ?_ ?_ _ | exact Nat.le_refl _ | (simp; done) | (simp; omega)))
  all_goals (simp <;> omega)
end Go.Proofs.Ytlnaaoigggfefaa
