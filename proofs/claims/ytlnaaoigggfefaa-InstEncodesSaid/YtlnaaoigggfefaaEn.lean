/- The walk of InstEncodes: every instruction has its bytes, or is not right; and they are read again, whatever stands behind. -/
import Derived.Test.YtlnaaoigggfefaaAp
import Derived.Test.YtlnaaoigggfefaaWs
namespace Go.Proofs.Ytlnaaoigggfefaa
open Go.RowKit

/-- The word's five cells, and nothing older turned. -/
abbrev SW (B : Nat) (x : W) (n : Nat) (w0 W : World) : Prop :=
  W.cell? ⟨B, 0, none⟩ = some (.int .u8 x.op) ∧ W.cell? ⟨B, 1, none⟩ = some (.int .u8 x.a) ∧ W.cell? ⟨B, 2, none⟩ = some (.int .u8 x.b) ∧ W.cell? ⟨B, 3, none⟩ = some (.int .u8 x.c) ∧ W.cell? ⟨B, 4, none⟩ = some (.int .i64 x.imm) ∧ Hid (Below n w0 W)

theorem SW.next {B : Nat} {x : W} {n : Nat} {w0 w1 w2 : World} (h : SW B x n w0 w1) (hn : n ≤ w0.heap.size) (hb : Below w1.heap.size w1 w2) : SW B x n w0 w2 := by
  obtain ⟨h0, h1, h2, h3, h4, h5⟩ := h
  refine ⟨?_, ?_, ?_, ?_, ?_, ?_⟩
  · rw [hb.cell (World.block_lt_of_cell? _ _ h0)]; exact h0
  · rw [hb.cell (World.block_lt_of_cell? _ _ h1)]; exact h1
  · rw [hb.cell (World.block_lt_of_cell? _ _ h2)]; exact h2
  · rw [hb.cell (World.block_lt_of_cell? _ _ h3)]; exact h3
  · rw [hb.cell (World.block_lt_of_cell? _ _ h4)]; exact h4
  · exact h5.out.trans (hb.mono (Nat.le_trans hn h5.out.size))

theorem form_sw {x : W} {b : Bool} (hf : formB x = b) (B n : Nat) (w0 w : World) (hn : n ≤ w0.heap.size) (h : SW B x n w0 w) : Calls Try.prog 16 #[.agg #[.int .u8 x.op, .int .u8 x.a, .int .u8 x.b, .int .u8 x.c, .int .i64 x.imm]] w fun e w' => e = .returned (.bool b) ∧ SW B x n w0 w' := by
  subst hf
  exact (form_any x.op x.a x.b x.c x.imm w).mono fun e w' ⟨he, hb⟩ => ⟨he, h.next hn hb⟩
theorem rform_sw {x : W} {b : Bool} (hx : x.ok) (hf : formB x = b) (B n : Nat) (w0 w : World) (hn : n ≤ w0.heap.size) (h : SW B x n w0 w) : Calls Try.prog 14 #[.agg #[.int .u8 x.op, .int .u8 x.a, .int .u8 x.b, .int .u8 x.c, .int .i64 x.imm]] w fun e w' => e = .returned (.bool b) ∧ SW B x n w0 w' := by
  subst hf
  exact (refFormW hx w).mono fun e w' ⟨he, hb⟩ => ⟨he, h.next hn hb⟩
theorem SW.of_heap {B : Nat} {x : W} {n : Nat} {w0 w : World} (h : w.heap[B]? = some (.cells #[.int .u8 x.op, .int .u8 x.a, .int .u8 x.b, .int .u8 x.c, .int .i64 x.imm] 26)) (hb : Below n w0 w) : SW B x n w0 w :=
  ⟨cell_of_heap (o := 0) h rfl, cell_of_heap (o := 1) h rfl, cell_of_heap (o := 2) h rfl, cell_of_heap (o := 3) h rfl, cell_of_heap (o := 4) h rfl, hb⟩

theorem refEncW {x : W} (hx : x.ok) (hf : formB x = true) (w : World) : Calls Try.prog 19 #[.agg #[.int .u8 x.op, .int .u8 x.a, .int .u8 x.b, .int .u8 x.c, .int .i64 x.imm]] w fun e w' => ∃ v, e = .returned v ∧ RdB w' v (encL x) ∧ Below w.heap.size w w' :=
  (refEncode_any x.op x.a x.b x.c x.imm w hf hx.2.2.2.2.1 hx.2.2.2.2.2 hx.1.1 hx.1.2).mono fun e w' ⟨v, he, ho, hb⟩ => ⟨v, he, ho.rd, hb⟩

theorem decW_some {l : List Int} {x : W} {k : Nat} (h : decS l = some (x, k)) (hB : isB l) (v : Value) (w : World) (hv : RdB w v l) : Calls Try.prog 10 #[v] w fun e w' => e = .returned (.tuple #[.agg #[.int .u8 x.op, .int .u8 x.a, .int .u8 x.b, .int .u8 x.c, .int .i64 x.imm], .int .i64 k, .int .i64 0]) ∧ Below w.heap.size w w' := decode_some h hB v w hv

theorem hb_alloc {w w' : World} {o : Obj} (h : Hid (Below w.heap.size w w')) : Hid (Below w.heap.size w (w'.alloc o)) := h.out.alloc h.out.size o
theorem hb_drew_alloc {w w' : World} {o : Obj} (h : Hid (Below w.heap.size w w'.drew)) : Hid (Below w.heap.size w (w'.alloc o).drew) := by
  show Below _ w (w'.drew.alloc o)
  exact h.out.alloc h.out.size o
theorem hb_grow {w w1 w2 : World} {b : Nat} (h : Hid (Below w.heap.size w w1)) (hg : w1.grownBy w2 (some b)) (hb : w.heap.size ≤ b) : Hid (Below w.heap.size w w2) := h.out.grown hg h.out.size (fun k hk => by cases hk; exact hb)
theorem hb_own {w w1 w2 : World} {v : Value} {e : TypeId} {size n : Nat} {xs : List Value} (h : Hid (Below w.heap.size w w1)) (hg : w1.grownBy w2 v.ownBlock) (ho : w1.ownsRow w.heap.size e size v n xs) : Hid (Below w.heap.size w w2) := h.out.grown hg h.out.size (fun k hk => (ho.lt k hk).1)

def zeroW : Obj := .cells #[.int .u8 0, .int .u8 0, .int .u8 0, .int .u8 0, .int .i64 0] 26

abbrev ZAt (w0 w : World) (g : Nat) : Prop := Hid (w.heap[g]? = some zeroW ∧ w0.heap.size ≤ g)
theorem z_new {w w2 : World} {o : Obj} (hg : ((w.alloc o).alloc zeroW).drew.grownBy w2 (some w.heap.size)) : ZAt w w2 (w.heap.size + 1) := by
  refine ⟨?_, by omega⟩
  rw [hg.block _ (by simp) (by simp), heap_drew, show w.heap.size + 1 = (w.alloc o).heap.size from by simp, heap_alloc_new]
theorem z_old {w w2 : World} {o : Obj} (hg : ((w.alloc zeroW).alloc o).drew.grownBy w2 (some (w.heap.size + 1))) : ZAt w w2 w.heap.size := by
  refine ⟨?_, by omega⟩
  rw [hg.block _ (by simp; omega) (by simp), heap_drew, heap_alloc_old _ _ (by simp), heap_alloc_new]
theorem z_keep {w0 w1 w2 : World} {g : Nat} {v : Value} {n base : Nat} {xs : List Value} (h : ZAt w0 w1 g) (ho : w1.ownsRow base 5 1 v n xs) (hg : w1.grownBy w2 v.ownBlock) : ZAt w0 w2 g := by
  refine ⟨?_, h.out.2⟩
  have hl : g < w1.heap.size := by
    have := h.out.1
    exact (Array.getElem?_eq_some_iff.1 this).1
  rw [hg.block _ hl (own_ne ho h.out.1 (by decide))]; exact h.out.1
theorem z_call {w0 w1 w2 : World} {g : Nat} (h : ZAt w0 w1 g) (hb : Below w1.heap.size w1 w2) : ZAt w0 w2 g := by
  refine ⟨?_, h.out.2⟩
  rw [hb.block _ ((Array.getElem?_eq_some_iff.1 h.out.1).1)]; exact h.out.1
theorem z_at {w0 w1 : World} (h : Hid (Below w0.heap.size w0 w1)) : ZAt w0 (w1.alloc zeroW) w1.heap.size := ⟨heap_alloc_new _ _, h.out.size⟩
theorem z_cells {w0 w : World} {g : Nat} (h : ZAt w0 w g) : w.cell? ⟨g, 0, none⟩ = some (.int .u8 0) ∧ w.cell? ⟨g, 1, none⟩ = some (.int .u8 0) ∧ w.cell? ⟨g, 2, none⟩ = some (.int .u8 0) ∧ w.cell? ⟨g, 3, none⟩ = some (.int .u8 0) ∧ w.cell? ⟨g, 4, none⟩ = some (.int .i64 0) ∧ (∀ o, w.frozen? ⟨g, o, none⟩ = false) ∧ w0.heap.size ≤ g :=
  ⟨cell_of_heap (o := 0) h.out.1 rfl, cell_of_heap (o := 1) h.out.1 rfl, cell_of_heap (o := 2) h.out.1 rfl, cell_of_heap (o := 3) h.out.1 rfl, cell_of_heap (o := 4) h.out.1 rfl, fun _ => free_of_heap h.out.1, h.out.2⟩
theorem own_rdB {w : World} {base n : Nat} {v : Value} {p q : List Int} (h : w.ownsRow base 5 1 v n ([] ++ p.map (Value.int .u8) ++ q.map (Value.int .u8))) (hn : n = p.length + q.length := by simp) : RdB w v (p ++ q) := by
  subst hn
  have := Rd.of_own h
  unfold RdB
  simpa using this
theorem hb_call {w w1 w2 : World} (h : Hid (Below w.heap.size w w1)) (hb : Below w1.heap.size w1 w2) : Hid (Below w.heap.size w w2) := below_to h.out hb

set_option maxHeartbeats 4000000 in
set_option maxRecDepth 100000 in
theorem instEncodes_walk (x : W) (v : Value) (l : List Int) (w : World) (hx : x.ok) (hv : RdB w v l) (hB : isB l) :
    Calls Try.prog 5 #[.agg #[.int .u8 x.op, .int .u8 x.a, .int .u8 x.b, .int .u8 x.c, .int .i64 x.imm], v] w fun e w' => e = .returned (.bool true) ∧ Below w.heap.size w w' := by
  obtain ⟨a, c, rfl⟩ := Rd.shape hv
  have HX := Lib.hid hx
  have HV := Lib.hid hv
  have HB := Lib.hid hB
  clear hx hv hB
  go_enter Try.func5, Try.ntmps5
  go_wp2_with fail
  refine (awake_any _).mono ?_
  rintro e w1 ⟨rfl, hb1⟩
  obtain ⟨hc1, hf1⟩ := bcell hb1
  have z1 : w.heap.size < w1.heap.size := by have := hb1.size; simp at this; omega
  have HB1 : Hid (Below w.heap.size w w1) := below_to ((Below.refl _ _).alloc (Nat.le_refl _) _) hb1
  have HWX : Hid (∀ w' : World, Below w1.heap.size w1 w' → w'.heap[w.heap.size]? = some (.cells #[.int .u8 x.op, .int .u8 x.a, .int .u8 x.b, .int .u8 x.c, .int .i64 x.imm] 26)) := by
    intro w' h
    rw [h.block _ z1, hb1.block _ (by simp), heap_alloc_new]
  clear hb1
  cases hfx : formB x
  · have EX := Lib.hid (fun w => encode_no x.op x.a x.b x.c x.imm w hfx)
    go_wp2_with fail
    refine (EX.out _).mono ?_
    rintro e w2 ⟨rfl, hb2⟩
    have z2 : w.heap.size < w2.heap.size := by have := hb2.size; omega
    have HB2 := Lib.hid (below_to HB1.out hb2)
    have hS0 : SW w.heap.size x w2.heap.size w2 w2.drew := SW.of_heap (w := w2.drew) (by rw [heap_drew]; exact HWX.out w2 hb2) (Below.refl _ _).drew
    have CF := Lib.hid (fun W h => form_sw hfx w.heap.size w2.heap.size w2 W (Nat.le_refl _) h)
    have CR := Lib.hid (fun W h => rform_sw HX.out hfx w.heap.size w2.heap.size w2 W (Nat.le_refl _) h)
    clear hb2 EX HB1 hfx hc1 hf1
    go_upto_region 4 with fail
    go_cut [30] (fun s30 wx => s30 = .bool false ∧ SW w.heap.size x w2.heap.size w2 wx)
    case first =>
      go_region_held3 (fun W => W.cell? ⟨w.heap.size, 0, none⟩ = some (.int .u8 x.op) ∧ W.cell? ⟨w.heap.size, 1, none⟩ = some (.int .u8 x.a) ∧ W.cell? ⟨w.heap.size, 2, none⟩ = some (.int .u8 x.b) ∧ W.cell? ⟨w.heap.size, 3, none⟩ = some (.int .u8 x.c) ∧ W.cell? ⟨w.heap.size, 4, none⟩ = some (.int .i64 x.imm) ∧ Hid (Below w2.heap.size w2 W))
        (first | assumption | (exact ⟨k0, k1, k2, k3, k4, k5⟩))
        (first
          | (go_at_call 16; refine (CF.out _ (by assumption)).mono ?_; rintro e w4 ⟨rfl, k0, k1, k2, k3, k4, k5⟩)
          | (go_at_call 14; refine (CR.out _ (by assumption)).mono ?_; rintro e w4 ⟨rfl, k0, k1, k2, k3, k4, k5⟩)
          | (go_at_call 17; refine (traps_any _ _).mono ?_; rintro e w4 ⟨rfl, rfl⟩)
          | (go_at_call 18; refine (refTraps_any _ _).mono ?_; rintro e w4 ⟨rfl, rfl⟩))
      all_goals (go_wp2_with fail; go_meet; exact ⟨by simp, by assumption⟩)
    case rest =>
      obtain ⟨rfl, q0, q1, q2, q3, q4, q5⟩ := hcut
      clear hS0 CF
      have hS1 : SW w.heap.size x w2.heap.size w2 wc := ⟨q0, q1, q2, q3, q4, q5⟩
      go_wp2_with fail
      refine (CR.out _ hS1).mono ?_
      rintro e w4 ⟨rfl, k0, k1, k2, k3, k4, k5⟩
      go_wp2_with fail
      go_ret
      exact ⟨rfl, below_to HB2.out k5.out⟩
  · have EX := Lib.hid (fun w => encW_ok HX.out hfx w)
    have HD := Lib.hid (fun more => decS_enc x HX.out hfx more)
    have RE := Lib.hid (fun w => refEncW HX.out hfx w)
    have hlen := encL_len x
    have HBX := Lib.hid (encW_bd HX.out)
    go_wp2_with fail
    refine (EX.out _).mono ?_
    rintro e w2 ⟨a2, c2, rfl, hr2, hb2⟩
    have z2 : w.heap.size < w2.heap.size := by have := hb2.size; omega
    have HB2 := Lib.hid (below_to HB1.out hb2)
    have hS0 : SW w.heap.size x w2.heap.size w2 w2.drew := SW.of_heap (w := w2.drew) (by rw [heap_drew]; exact HWX.out w2 hb2) (Below.refl _ _).drew
    have CF := Lib.hid (fun W h => form_sw hfx w.heap.size w2.heap.size w2 W (Nat.le_refl _) h)
    have CR := Lib.hid (fun W h => rform_sw HX.out hfx w.heap.size w2.heap.size w2 W (Nat.le_refl _) h)
    have HR2 := Lib.hid hr2
    have HV2 : Hid (RdB w2 _ l) := HV.out.later HB2.out
    clear hb2 hr2 EX HB1 hfx hc1 hf1 HWX HV
    generalize encL x = ex at *
    go_upto_region 4 with fail
    go_cut [30] (fun s30 wx => s30 = .bool false ∧ SW w.heap.size x w2.heap.size w2 wx)
    case first =>
      go_region_held3 (fun W => W.cell? ⟨w.heap.size, 0, none⟩ = some (.int .u8 x.op) ∧ W.cell? ⟨w.heap.size, 1, none⟩ = some (.int .u8 x.a) ∧ W.cell? ⟨w.heap.size, 2, none⟩ = some (.int .u8 x.b) ∧ W.cell? ⟨w.heap.size, 3, none⟩ = some (.int .u8 x.c) ∧ W.cell? ⟨w.heap.size, 4, none⟩ = some (.int .i64 x.imm) ∧ Hid (Below w2.heap.size w2 W))
        (first | assumption | (exact ⟨k0, k1, k2, k3, k4, k5⟩))
        (first
          | (go_at_call 16; refine (CF.out _ (by assumption)).mono ?_; rintro e w4 ⟨rfl, k0, k1, k2, k3, k4, k5⟩)
          | (go_at_call 14; refine (CR.out _ (by assumption)).mono ?_; rintro e w4 ⟨rfl, k0, k1, k2, k3, k4, k5⟩)
          | (go_at_call 17; refine (traps_any _ _).mono ?_; rintro e w4 ⟨rfl, rfl⟩)
          | (go_at_call 18; refine (refTraps_any _ _).mono ?_; rintro e w4 ⟨rfl, rfl⟩))
      all_goals (go_wp2_with fail; go_meet; exact ⟨by simp, by assumption⟩)
    case rest =>
      obtain ⟨rfl, q0, q1, q2, q3, q4, q5⟩ := hcut
      clear hS0 CF
      have hS1 : SW w.heap.size x w2.heap.size w2 wc := ⟨q0, q1, q2, q3, q4, q5⟩
      go_wp2_with fail
      refine (CR.out _ hS1).mono ?_
      rintro e w4 ⟨rfl, k0, k1, k2, k3, k4, k5⟩
      have HR4 : Hid (RdB w4 _ ex) := HR2.out.later k5.out
      have HV4 : Hid (RdB w4 _ l) := HV2.out.later k5.out
      have HB4 := Lib.hid (below_to HB2.out k5.out)
      clear hS1 q0 q1 q2 q3 q4 q5 CR k5 HB2 HR2 HV2
      obtain ⟨i0, hi0, hz0, hz1, hz2⟩ := info_parts infoB
      have hcx := rdB_cap HV4.out
      obtain ⟨k, hk, hk50, hmin⟩ : ∃ k : Nat, k ≤ l.length ∧ k ≤ 50 ∧ (k = l.length ∨ k = 50 ∧ 50 < l.length) := ⟨min l.length 50, by omega, by omega, by omega⟩
      have s2 := fun W => run_slice_to (P := Try.prog) 22 5 Try.underlying22 hi0 hz1 a l.length c k (k : Int) rfl (by omega) W
      have HM : Hid (RdB w4 (.slice a k c) (l.take k)) := rdB_take HV4.out hk
      have HBM : Hid (isB (ex ++ l.take k)) := fun v hv => by
        rcases List.mem_append.1 hv with h | h
        · exact HBX.out v h
        · exact HB.out v (List.mem_of_mem_take h)
      have HDM := Lib.hid (HD.out (l.take k))
      have HS0 : Hid (Below w4.heap.size w4 w4.drew) := (Below.refl _ _).drew
      have oa0 : (w4.alloc (.cells #[] 5)).drew.ownsRow w4.heap.size 5 1 (.slice (some ⟨w4.heap.size, 0, none⟩) 0 0) 0 [] := own_nil w4 w4.heap.size (Nat.le_refl _)
      have oa : ∀ o, ((w4.alloc (.cells #[] 5)).alloc o).drew.ownsRow w4.heap.size 5 1 (.slice (some ⟨w4.heap.size, 0, none⟩) 0 0) 0 [] := fun o => (own_nil w4 w4.heap.size (Nat.le_refl _)).alloc o
      have ob : ∀ o, ((w4.alloc o).alloc (.cells #[] 5)).drew.ownsRow w4.heap.size 5 1 (.slice (some ⟨w4.heap.size + 1, 0, none⟩) 0 0) 0 [] := fun o => by
        have h := own_nil (w4.alloc o) w4.heap.size (by simp)
        rw [World.size_alloc] at h
        exact h
      have rp1 : ∀ o, RdB (w4.alloc o).drew _ ex := fun o => HR4.out.alloc o
      have rp2 : ∀ o o', RdB ((w4.alloc o).alloc o').drew _ ex := fun o o' => (Rd.alloc HR4.out o).alloc o'
      have OA0 := Lib.hid oa0
      have OA := Lib.hid oa
      have OB := Lib.hid ob
      have RP1 := Lib.hid rp1
      have RP2 := Lib.hid rp2
      have b1 : 0 + ex.length ≤ maxLen := by unfold maxLen; omega
      have b2 : (0 + ex.length) * 1 ≤ 140737488355328 := by omega
      have b4 : 0 + ex.length + (l.take k).length ≤ maxLen := by rw [List.length_take]; unfold maxLen; omega
      have b5 : (0 + ex.length + (l.take k).length) * 1 ≤ 140737488355328 := by rw [List.length_take]; omega
      clear oa0 oa ob rp1 rp2
      have hk6 : (if (50 : Int) < (l.length : Int) then (50 : Int) else (l.length : Int)) = (k : Int) := by
        split <;> omega
      clear hmin
      go_upto_region 8 with fail
      go_cut [7, 8, 9] (fun s7 s8 s9 wc => ∃ g, s7 = .pointer (some ⟨g, 0, none⟩) ∧ s8 = .int .i64 ex.length ∧ s9 = .int .i64 0 ∧ SW g x w4.heap.size w4 wc)
      case first =>
        refine wp_region_noPanic ?_
        refine wp_region_held_drew (S := fun W => Hid (Below w4.heap.size w4 W)) (by kernel_rfl) HS0 (fun hHeld => ?_)
        refine wpAnyH_take (i := 1) (v := (.slice a2 ex.length c2)) rfl (by kernel_rfl) (by kernel_rfl) (by kernel_rfl) (fun _ _ _ h => h) (Or.inl ⟨by rfl, ?_⟩) hHeld ?_
        · intro W hW
          go_simp
        simp only [Act.put, List.getElem_toArray, List.getElem_cons_zero, List.getElem_cons_succ, List.setIfInBounds_toArray, List.set_cons_zero, List.set_cons_succ]
        refine wpAnyH_take (i := 3) (v := (.slice a l.length c)) rfl (by kernel_rfl) (by kernel_rfl) (by kernel_rfl) (fun _ _ _ h => h) (Or.inl ⟨by rfl, ?_⟩) hHeld ?_
        · intro W hW
          go_simp
        simp only [Act.put, List.getElem_toArray, List.getElem_cons_zero, List.getElem_cons_succ, List.setIfInBounds_toArray, List.set_cons_zero, List.set_cons_succ]
        refine wpAnyH_take (i := 4) (v := (.slice a l.length c)) rfl (by kernel_rfl) (by kernel_rfl) (by kernel_rfl) (fun _ _ _ h => h) (Or.inl ⟨by rfl, ?_⟩) hHeld ?_
        · intro W hW
          go_simp
        simp only [Act.put, List.getElem_toArray, List.getElem_cons_zero, List.getElem_cons_succ, List.setIfInBounds_toArray, List.set_cons_zero, List.set_cons_succ]
        refine wpAnyH_take (i := 5) (v := (.int .i64 l.length)) rfl (by kernel_rfl) (by kernel_rfl) (by kernel_rfl) (fun _ _ _ h => h) (Or.inl ⟨by rfl, ?_⟩) hHeld ?_
        · intro W hW
          go_simp
        simp only [Act.put, List.getElem_toArray, List.getElem_cons_zero, List.getElem_cons_succ, List.setIfInBounds_toArray, List.set_cons_zero, List.set_cons_succ]
        refine wpAnyH_take (i := 6) (v := (.int .i64 k)) rfl (by kernel_rfl) (by kernel_rfl) (by kernel_rfl) (fun _ _ _ h => h) (Or.inl ⟨by rfl, ?_⟩) hHeld ?_
        · intro W hW
          go_simp
        simp only [Act.put, List.getElem_toArray, List.getElem_cons_zero, List.getElem_cons_succ, List.setIfInBounds_toArray, List.set_cons_zero, List.set_cons_succ]
        refine wpAnyH_take (i := 7) (v := (.slice a k c)) rfl (by kernel_rfl) (by kernel_rfl) (by kernel_rfl) (fun _ _ _ h => h) (Or.inl ⟨by rfl, ?_⟩) hHeld ?_
        · intro W hW
          go_simp
        simp only [Act.put, List.getElem_toArray, List.getElem_cons_zero, List.getElem_cons_succ, List.setIfInBounds_toArray, List.set_cons_zero, List.set_cons_succ]
        refine wpAnyH_ready (rs := [0, 14]) (by kernel_rfl) (by simp) (AllReadyH.cons rfl (fun K hK => ?_) (AllReadyH.cons rfl (fun K hK => ?_) AllReadyH.nil))
        · go_simp
          refine hK.out _ _ (hb_drew_alloc hHeld) (fun hHeld => ?_)
          clear hK K
          try simp only [Act.put, List.getElem_toArray, List.getElem_cons_zero, List.getElem_cons_succ, List.setIfInBounds_toArray, List.set_cons_zero, List.set_cons_succ]
          refine wpAnyH_ready (rs := [2, 14]) (by kernel_rfl) (by simp) (AllReadyH.cons rfl (fun K hK => ?_) (AllReadyH.cons rfl (fun K hK => ?_) AllReadyH.nil))
          · refine step_append_own_rd rfl _ _ 22 rfl w4.heap.size 5 i0 (.int .u8 0) 1 1 Try.underlying22 hi0 hz0 hz1 hz2 rfl (by decide) _ 0 [] rfl OA0.out _ ex.length (ex.map (Value.int .u8)) rfl (RP1.out _) (ints_oneCell .u8 _) b1 b2 (by simp) (fun vB wB hownB hgrowB => ?_)
            have HSB := hb_own hHeld hgrowB OA0.out
            refine hK.out _ _ HSB (fun hHeld => ?_)
            clear hK K
            try simp only [Act.put, List.getElem_toArray, List.getElem_cons_zero, List.getElem_cons_succ, List.setIfInBounds_toArray, List.set_cons_zero, List.set_cons_succ]
            refine wpAnyH_ready (rs := [8, 14]) (by kernel_rfl) (by simp) (AllReadyH.cons rfl (fun K hK => ?_) (AllReadyH.cons rfl (fun K hK => ?_) AllReadyH.nil))
            · refine step_append_own_rd rfl _ _ 22 rfl w4.heap.size 5 i0 (.int .u8 0) 1 1 Try.underlying22 hi0 hz0 hz1 hz2 rfl (by decide) _ (0 + ex.length) ([] ++ ex.map (Value.int .u8)) rfl hownB _ (l.take k).length ((l.take k).map (Value.int .u8)) rfl (HM.out.later hHeld.out) (ints_oneCell .u8 _) b4 b5 hHeld.out.size (fun vC wC hownC hgrowC => ?_)
              have HSC := hb_own hHeld hgrowC hownB
              refine hK.out _ _ HSC (fun hHeld => ?_)
              clear hK K
              try simp only [Act.put, List.getElem_toArray, List.getElem_cons_zero, List.getElem_cons_succ, List.setIfInBounds_toArray, List.set_cons_zero, List.set_cons_succ]
              refine wpAnyH_ready (rs := [9, 14]) (by kernel_rfl) (by simp) (AllReadyH.cons rfl (fun K hK => ?_) (AllReadyH.cons rfl (fun K hK => ?_) AllReadyH.nil))
              · go_simp
                refine (decW_some HDM.out HBM.out _ _ (own_rdB hownC)).mono ?_
                rintro e wD ⟨rfl, hbD⟩
                have HSD := hb_call hHeld hbD
                refine hK.out _ _ HSD (fun hHeld => ?_)
                clear hK K
                try simp only [Act.put, List.getElem_toArray, List.getElem_cons_zero, List.getElem_cons_succ, List.setIfInBounds_toArray, List.set_cons_zero, List.set_cons_succ]
                refine wpAnyH_take (i := 10) (v := (.tuple #[(.agg #[.int .u8 x.op, .int .u8 x.a, .int .u8 x.b, .int .u8 x.c, .int .i64 x.imm]), .int .i64 ex.length, .int .i64 0])) rfl (by kernel_rfl) (by kernel_rfl) (by kernel_rfl) (fun _ _ _ h => h) (Or.inl ⟨by rfl, ?_⟩) hHeld ?_
                · intro W hW
                  go_simp
                simp only [Act.put, List.getElem_toArray, List.getElem_cons_zero, List.getElem_cons_succ, List.setIfInBounds_toArray, List.set_cons_zero, List.set_cons_succ]
                refine wpAnyH_take (i := 11) (v := (.agg #[.int .u8 x.op, .int .u8 x.a, .int .u8 x.b, .int .u8 x.c, .int .i64 x.imm])) rfl (by kernel_rfl) (by kernel_rfl) (by kernel_rfl) (fun _ _ _ h => h) (Or.inl ⟨by rfl, ?_⟩) hHeld ?_
                · intro W hW
                  go_simp
                simp only [Act.put, List.getElem_toArray, List.getElem_cons_zero, List.getElem_cons_succ, List.setIfInBounds_toArray, List.set_cons_zero, List.set_cons_succ]
                refine wpAnyH_take (i := 12) (v := (.int .i64 ex.length)) rfl (by kernel_rfl) (by kernel_rfl) (by kernel_rfl) (fun _ _ _ h => h) (Or.inl ⟨by rfl, ?_⟩) hHeld ?_
                · intro W hW
                  go_simp
                simp only [Act.put, List.getElem_toArray, List.getElem_cons_zero, List.getElem_cons_succ, List.setIfInBounds_toArray, List.set_cons_zero, List.set_cons_succ]
                refine wpAnyH_take (i := 13) (v := (.int .i64 0)) rfl (by kernel_rfl) (by kernel_rfl) (by kernel_rfl) (fun _ _ _ h => h) (Or.inl ⟨by rfl, ?_⟩) hHeld ?_
                · intro W hW
                  go_simp
                simp only [Act.put, List.getElem_toArray, List.getElem_cons_zero, List.getElem_cons_succ, List.setIfInBounds_toArray, List.set_cons_zero, List.set_cons_succ]
                refine wpAnyH_ready (rs := [14]) (by kernel_rfl) (by simp) (AllReadyH.cons rfl (fun K hK => ?_) AllReadyH.nil)
                obtain ⟨q0, q1, q2, q3, q4, q5, q6⟩ := z_cells (z_at hHeld)
                go_simp
                refine hK.out _ _ (by first | exact hb_drew_alloc hHeld | exact hb_alloc hHeld) (fun hHeld => ?_)
                clear hK K
                try simp only [Act.put, List.getElem_toArray, List.getElem_cons_zero, List.getElem_cons_succ, List.setIfInBounds_toArray, List.set_cons_zero, List.set_cons_succ]
                refine wpAnyH_ready (rs := [15]) (by kernel_rfl) (by simp) (AllReadyH.cons rfl (fun K hK => ?_) AllReadyH.nil)
                go_simp
                refine hK.out _ _ ?_ (fun hHeld => ?_)
                · refine Lib.hid ?_
                  repeat (with_reducible (first | exact HSD.out | exact hHeld.out | exact q6 | refine Below.setCell ?_ ?_ _ | refine Below.alloc ?_ ?_ _ | (simp; omega)))
                clear hK K
                try simp only [Act.put, List.getElem_toArray, List.getElem_cons_zero, List.getElem_cons_succ, List.setIfInBounds_toArray, List.set_cons_zero, List.set_cons_succ]
                refine wpAnyH_take (i := 16) (v := (.int .i64 ex.length)) rfl (by kernel_rfl) (by kernel_rfl) (by kernel_rfl) (fun _ _ _ h => h) (Or.inl ⟨by rfl, ?_⟩) hHeld ?_
                · intro W hW
                  go_simp
                simp only [Act.put, List.getElem_toArray, List.getElem_cons_zero, List.getElem_cons_succ, List.setIfInBounds_toArray, List.set_cons_zero, List.set_cons_succ]
                refine wpAnyH_take (i := 17) (v := (.int .i64 0)) rfl (by kernel_rfl) (by kernel_rfl) (by kernel_rfl) (fun _ _ _ h => h) (Or.inl ⟨by rfl, ?_⟩) hHeld ?_
                · intro W hW
                  go_simp
                simp only [Act.put, List.getElem_toArray, List.getElem_cons_zero, List.getElem_cons_succ, List.setIfInBounds_toArray, List.set_cons_zero, List.set_cons_succ]
                refine wpAnyH_done (by kernel_rfl) ?_ _
                refine NoPanic.normal ?_
                go_wp2_with fail
                go_meet
                refine ⟨_, rfl, rfl, rfl, ?_, ?_, ?_, ?_, ?_, hHeld⟩ <;> first | (rw [World.cell?_alloc_at _ _ _ _ rfl]; rfl) | (simp [go_sem, q0, q1, q2, q3, q4]; done)
              · go_simp
                refine hK.out _ _ (by first | exact hb_drew_alloc hHeld | exact hb_alloc hHeld) (fun hHeld => ?_)
                clear hK K
                try simp only [Act.put, List.getElem_toArray, List.getElem_cons_zero, List.getElem_cons_succ, List.setIfInBounds_toArray, List.set_cons_zero, List.set_cons_succ]
                refine wpAnyH_ready (rs := [9]) (by kernel_rfl) (by simp) (AllReadyH.cons rfl (fun K hK => ?_) AllReadyH.nil)
                go_simp
                refine (decW_some HDM.out HBM.out _ _ (own_rdB (hownC.alloc _))).mono ?_
                rintro e wD ⟨rfl, hbD⟩
                have HSD := hb_call hHeld hbD
                have HZD := z_call (z_at HSC) hbD
                obtain ⟨q0, q1, q2, q3, q4, q5, q6⟩ := z_cells HZD
                refine hK.out _ _ HSD (fun hHeld => ?_)
                clear hK K
                try simp only [Act.put, List.getElem_toArray, List.getElem_cons_zero, List.getElem_cons_succ, List.setIfInBounds_toArray, List.set_cons_zero, List.set_cons_succ]
                refine wpAnyH_take (i := 10) (v := (.tuple #[(.agg #[.int .u8 x.op, .int .u8 x.a, .int .u8 x.b, .int .u8 x.c, .int .i64 x.imm]), .int .i64 ex.length, .int .i64 0])) rfl (by kernel_rfl) (by kernel_rfl) (by kernel_rfl) (fun _ _ _ h => h) (Or.inl ⟨by rfl, ?_⟩) hHeld ?_
                · intro W hW
                  go_simp
                simp only [Act.put, List.getElem_toArray, List.getElem_cons_zero, List.getElem_cons_succ, List.setIfInBounds_toArray, List.set_cons_zero, List.set_cons_succ]
                refine wpAnyH_take (i := 11) (v := (.agg #[.int .u8 x.op, .int .u8 x.a, .int .u8 x.b, .int .u8 x.c, .int .i64 x.imm])) rfl (by kernel_rfl) (by kernel_rfl) (by kernel_rfl) (fun _ _ _ h => h) (Or.inl ⟨by rfl, ?_⟩) hHeld ?_
                · intro W hW
                  go_simp
                simp only [Act.put, List.getElem_toArray, List.getElem_cons_zero, List.getElem_cons_succ, List.setIfInBounds_toArray, List.set_cons_zero, List.set_cons_succ]
                refine wpAnyH_take (i := 12) (v := (.int .i64 ex.length)) rfl (by kernel_rfl) (by kernel_rfl) (by kernel_rfl) (fun _ _ _ h => h) (Or.inl ⟨by rfl, ?_⟩) hHeld ?_
                · intro W hW
                  go_simp
                simp only [Act.put, List.getElem_toArray, List.getElem_cons_zero, List.getElem_cons_succ, List.setIfInBounds_toArray, List.set_cons_zero, List.set_cons_succ]
                refine wpAnyH_take (i := 13) (v := (.int .i64 0)) rfl (by kernel_rfl) (by kernel_rfl) (by kernel_rfl) (fun _ _ _ h => h) (Or.inl ⟨by rfl, ?_⟩) hHeld ?_
                · intro W hW
                  go_simp
                simp only [Act.put, List.getElem_toArray, List.getElem_cons_zero, List.getElem_cons_succ, List.setIfInBounds_toArray, List.set_cons_zero, List.set_cons_succ]
                refine wpAnyH_ready (rs := [15]) (by kernel_rfl) (by simp) (AllReadyH.cons rfl (fun K hK => ?_) AllReadyH.nil)
                go_simp
                refine hK.out _ _ ?_ (fun hHeld => ?_)
                · refine Lib.hid ?_
                  repeat (with_reducible (first | exact HSD.out | exact hHeld.out | exact q6 | refine Below.setCell ?_ ?_ _ | refine Below.alloc ?_ ?_ _ | (simp; omega)))
                clear hK K
                try simp only [Act.put, List.getElem_toArray, List.getElem_cons_zero, List.getElem_cons_succ, List.setIfInBounds_toArray, List.set_cons_zero, List.set_cons_succ]
                refine wpAnyH_take (i := 16) (v := (.int .i64 ex.length)) rfl (by kernel_rfl) (by kernel_rfl) (by kernel_rfl) (fun _ _ _ h => h) (Or.inl ⟨by rfl, ?_⟩) hHeld ?_
                · intro W hW
                  go_simp
                simp only [Act.put, List.getElem_toArray, List.getElem_cons_zero, List.getElem_cons_succ, List.setIfInBounds_toArray, List.set_cons_zero, List.set_cons_succ]
                refine wpAnyH_take (i := 17) (v := (.int .i64 0)) rfl (by kernel_rfl) (by kernel_rfl) (by kernel_rfl) (fun _ _ _ h => h) (Or.inl ⟨by rfl, ?_⟩) hHeld ?_
                · intro W hW
                  go_simp
                simp only [Act.put, List.getElem_toArray, List.getElem_cons_zero, List.getElem_cons_succ, List.setIfInBounds_toArray, List.set_cons_zero, List.set_cons_succ]
                refine wpAnyH_done (by kernel_rfl) ?_ _
                refine NoPanic.normal ?_
                go_wp2_with fail
                go_meet
                refine ⟨_, rfl, rfl, rfl, ?_, ?_, ?_, ?_, ?_, hHeld⟩ <;> first | (rw [World.cell?_alloc_at _ _ _ _ rfl]; rfl) | (simp [go_sem, q0, q1, q2, q3, q4]; done)
            · go_simp
              refine hK.out _ _ (by first | exact hb_drew_alloc hHeld | exact hb_alloc hHeld) (fun hHeld => ?_)
              clear hK K
              try simp only [Act.put, List.getElem_toArray, List.getElem_cons_zero, List.getElem_cons_succ, List.setIfInBounds_toArray, List.set_cons_zero, List.set_cons_succ]
              refine wpAnyH_ready (rs := [8]) (by kernel_rfl) (by simp) (AllReadyH.cons rfl (fun K hK => ?_) AllReadyH.nil)
              refine step_append_own_rd rfl _ _ 22 rfl w4.heap.size 5 i0 (.int .u8 0) 1 1 Try.underlying22 hi0 hz0 hz1 hz2 rfl (by decide) _ (0 + ex.length) ([] ++ ex.map (Value.int .u8)) rfl (hownB.alloc _) _ (l.take k).length ((l.take k).map (Value.int .u8)) rfl (HM.out.later hHeld.out) (ints_oneCell .u8 _) b4 b5 hHeld.out.size (fun vC wC hownC hgrowC => ?_)
              have HSC := hb_own hHeld hgrowC (hownB.alloc _)
              have HZ2 := z_keep (z_at HSB) (hownB.alloc _) hgrowC
              refine hK.out _ _ HSC (fun hHeld => ?_)
              clear hK K
              try simp only [Act.put, List.getElem_toArray, List.getElem_cons_zero, List.getElem_cons_succ, List.setIfInBounds_toArray, List.set_cons_zero, List.set_cons_succ]
              refine wpAnyH_ready (rs := [9]) (by kernel_rfl) (by simp) (AllReadyH.cons rfl (fun K hK => ?_) AllReadyH.nil)
              go_simp
              refine (decW_some HDM.out HBM.out _ _ (own_rdB hownC)).mono ?_
              rintro e wD ⟨rfl, hbD⟩
              have HSD := hb_call hHeld hbD
              have HZD := z_call HZ2 hbD
              obtain ⟨q0, q1, q2, q3, q4, q5, q6⟩ := z_cells HZD
              refine hK.out _ _ HSD (fun hHeld => ?_)
              clear hK K
              try simp only [Act.put, List.getElem_toArray, List.getElem_cons_zero, List.getElem_cons_succ, List.setIfInBounds_toArray, List.set_cons_zero, List.set_cons_succ]
              refine wpAnyH_take (i := 10) (v := (.tuple #[(.agg #[.int .u8 x.op, .int .u8 x.a, .int .u8 x.b, .int .u8 x.c, .int .i64 x.imm]), .int .i64 ex.length, .int .i64 0])) rfl (by kernel_rfl) (by kernel_rfl) (by kernel_rfl) (fun _ _ _ h => h) (Or.inl ⟨by rfl, ?_⟩) hHeld ?_
              · intro W hW
                go_simp
              simp only [Act.put, List.getElem_toArray, List.getElem_cons_zero, List.getElem_cons_succ, List.setIfInBounds_toArray, List.set_cons_zero, List.set_cons_succ]
              refine wpAnyH_take (i := 11) (v := (.agg #[.int .u8 x.op, .int .u8 x.a, .int .u8 x.b, .int .u8 x.c, .int .i64 x.imm])) rfl (by kernel_rfl) (by kernel_rfl) (by kernel_rfl) (fun _ _ _ h => h) (Or.inl ⟨by rfl, ?_⟩) hHeld ?_
              · intro W hW
                go_simp
              simp only [Act.put, List.getElem_toArray, List.getElem_cons_zero, List.getElem_cons_succ, List.setIfInBounds_toArray, List.set_cons_zero, List.set_cons_succ]
              refine wpAnyH_take (i := 12) (v := (.int .i64 ex.length)) rfl (by kernel_rfl) (by kernel_rfl) (by kernel_rfl) (fun _ _ _ h => h) (Or.inl ⟨by rfl, ?_⟩) hHeld ?_
              · intro W hW
                go_simp
              simp only [Act.put, List.getElem_toArray, List.getElem_cons_zero, List.getElem_cons_succ, List.setIfInBounds_toArray, List.set_cons_zero, List.set_cons_succ]
              refine wpAnyH_take (i := 13) (v := (.int .i64 0)) rfl (by kernel_rfl) (by kernel_rfl) (by kernel_rfl) (fun _ _ _ h => h) (Or.inl ⟨by rfl, ?_⟩) hHeld ?_
              · intro W hW
                go_simp
              simp only [Act.put, List.getElem_toArray, List.getElem_cons_zero, List.getElem_cons_succ, List.setIfInBounds_toArray, List.set_cons_zero, List.set_cons_succ]
              refine wpAnyH_ready (rs := [15]) (by kernel_rfl) (by simp) (AllReadyH.cons rfl (fun K hK => ?_) AllReadyH.nil)
              go_simp
              refine hK.out _ _ ?_ (fun hHeld => ?_)
              · refine Lib.hid ?_
                repeat (with_reducible (first | exact HSD.out | exact hHeld.out | exact q6 | refine Below.setCell ?_ ?_ _ | refine Below.alloc ?_ ?_ _ | (simp; omega)))
              clear hK K
              try simp only [Act.put, List.getElem_toArray, List.getElem_cons_zero, List.getElem_cons_succ, List.setIfInBounds_toArray, List.set_cons_zero, List.set_cons_succ]
              refine wpAnyH_take (i := 16) (v := (.int .i64 ex.length)) rfl (by kernel_rfl) (by kernel_rfl) (by kernel_rfl) (fun _ _ _ h => h) (Or.inl ⟨by rfl, ?_⟩) hHeld ?_
              · intro W hW
                go_simp
              simp only [Act.put, List.getElem_toArray, List.getElem_cons_zero, List.getElem_cons_succ, List.setIfInBounds_toArray, List.set_cons_zero, List.set_cons_succ]
              refine wpAnyH_take (i := 17) (v := (.int .i64 0)) rfl (by kernel_rfl) (by kernel_rfl) (by kernel_rfl) (fun _ _ _ h => h) (Or.inl ⟨by rfl, ?_⟩) hHeld ?_
              · intro W hW
                go_simp
              simp only [Act.put, List.getElem_toArray, List.getElem_cons_zero, List.getElem_cons_succ, List.setIfInBounds_toArray, List.set_cons_zero, List.set_cons_succ]
              refine wpAnyH_done (by kernel_rfl) ?_ _
              refine NoPanic.normal ?_
              go_wp2_with fail
              go_meet
              refine ⟨_, rfl, rfl, rfl, ?_, ?_, ?_, ?_, ?_, hHeld⟩ <;> first | (rw [World.cell?_alloc_at _ _ _ _ rfl]; rfl) | (simp [go_sem, q0, q1, q2, q3, q4]; done)
          · go_simp
            refine hK.out _ _ (by first | exact hb_drew_alloc hHeld | exact hb_alloc hHeld) (fun hHeld => ?_)
            clear hK K
            try simp only [Act.put, List.getElem_toArray, List.getElem_cons_zero, List.getElem_cons_succ, List.setIfInBounds_toArray, List.set_cons_zero, List.set_cons_succ]
            refine wpAnyH_ready (rs := [2]) (by kernel_rfl) (by simp) (AllReadyH.cons rfl (fun K hK => ?_) AllReadyH.nil)
            refine step_append_own_rd rfl _ _ 22 rfl w4.heap.size 5 i0 (.int .u8 0) 1 1 Try.underlying22 hi0 hz0 hz1 hz2 rfl (by decide) _ 0 [] rfl (OA.out _) _ ex.length (ex.map (Value.int .u8)) rfl (RP2.out _ _) (ints_oneCell .u8 _) b1 b2 (by simp; omega) (fun vB wB hownB hgrowB => ?_)
            have HSB := hb_own hHeld hgrowB (OA.out _)
            have HZ := z_new hgrowB
            refine hK.out _ _ HSB (fun hHeld => ?_)
            clear hK K
            try simp only [Act.put, List.getElem_toArray, List.getElem_cons_zero, List.getElem_cons_succ, List.setIfInBounds_toArray, List.set_cons_zero, List.set_cons_succ]
            refine wpAnyH_ready (rs := [8]) (by kernel_rfl) (by simp) (AllReadyH.cons rfl (fun K hK => ?_) AllReadyH.nil)
            refine step_append_own_rd rfl _ _ 22 rfl w4.heap.size 5 i0 (.int .u8 0) 1 1 Try.underlying22 hi0 hz0 hz1 hz2 rfl (by decide) _ (0 + ex.length) ([] ++ ex.map (Value.int .u8)) rfl hownB _ (l.take k).length ((l.take k).map (Value.int .u8)) rfl (HM.out.later hHeld.out) (ints_oneCell .u8 _) b4 b5 hHeld.out.size (fun vC wC hownC hgrowC => ?_)
            have HSC := hb_own hHeld hgrowC hownB
            have HZ2 := z_keep HZ hownB hgrowC
            refine hK.out _ _ HSC (fun hHeld => ?_)
            clear hK K
            try simp only [Act.put, List.getElem_toArray, List.getElem_cons_zero, List.getElem_cons_succ, List.setIfInBounds_toArray, List.set_cons_zero, List.set_cons_succ]
            refine wpAnyH_ready (rs := [9]) (by kernel_rfl) (by simp) (AllReadyH.cons rfl (fun K hK => ?_) AllReadyH.nil)
            go_simp
            refine (decW_some HDM.out HBM.out _ _ (own_rdB hownC)).mono ?_
            rintro e wD ⟨rfl, hbD⟩
            have HSD := hb_call hHeld hbD
            have HZD := z_call HZ2 hbD
            obtain ⟨q0, q1, q2, q3, q4, q5, q6⟩ := z_cells HZD
            refine hK.out _ _ HSD (fun hHeld => ?_)
            clear hK K
            try simp only [Act.put, List.getElem_toArray, List.getElem_cons_zero, List.getElem_cons_succ, List.setIfInBounds_toArray, List.set_cons_zero, List.set_cons_succ]
            refine wpAnyH_take (i := 10) (v := (.tuple #[(.agg #[.int .u8 x.op, .int .u8 x.a, .int .u8 x.b, .int .u8 x.c, .int .i64 x.imm]), .int .i64 ex.length, .int .i64 0])) rfl (by kernel_rfl) (by kernel_rfl) (by kernel_rfl) (fun _ _ _ h => h) (Or.inl ⟨by rfl, ?_⟩) hHeld ?_
            · intro W hW
              go_simp
            simp only [Act.put, List.getElem_toArray, List.getElem_cons_zero, List.getElem_cons_succ, List.setIfInBounds_toArray, List.set_cons_zero, List.set_cons_succ]
            refine wpAnyH_take (i := 11) (v := (.agg #[.int .u8 x.op, .int .u8 x.a, .int .u8 x.b, .int .u8 x.c, .int .i64 x.imm])) rfl (by kernel_rfl) (by kernel_rfl) (by kernel_rfl) (fun _ _ _ h => h) (Or.inl ⟨by rfl, ?_⟩) hHeld ?_
            · intro W hW
              go_simp
            simp only [Act.put, List.getElem_toArray, List.getElem_cons_zero, List.getElem_cons_succ, List.setIfInBounds_toArray, List.set_cons_zero, List.set_cons_succ]
            refine wpAnyH_take (i := 12) (v := (.int .i64 ex.length)) rfl (by kernel_rfl) (by kernel_rfl) (by kernel_rfl) (fun _ _ _ h => h) (Or.inl ⟨by rfl, ?_⟩) hHeld ?_
            · intro W hW
              go_simp
            simp only [Act.put, List.getElem_toArray, List.getElem_cons_zero, List.getElem_cons_succ, List.setIfInBounds_toArray, List.set_cons_zero, List.set_cons_succ]
            refine wpAnyH_take (i := 13) (v := (.int .i64 0)) rfl (by kernel_rfl) (by kernel_rfl) (by kernel_rfl) (fun _ _ _ h => h) (Or.inl ⟨by rfl, ?_⟩) hHeld ?_
            · intro W hW
              go_simp
            simp only [Act.put, List.getElem_toArray, List.getElem_cons_zero, List.getElem_cons_succ, List.setIfInBounds_toArray, List.set_cons_zero, List.set_cons_succ]
            refine wpAnyH_ready (rs := [15]) (by kernel_rfl) (by simp) (AllReadyH.cons rfl (fun K hK => ?_) AllReadyH.nil)
            go_simp
            refine hK.out _ _ ?_ (fun hHeld => ?_)
            · refine Lib.hid ?_
              repeat (with_reducible (first | exact HSD.out | exact hHeld.out | exact q6 | refine Below.setCell ?_ ?_ _ | refine Below.alloc ?_ ?_ _ | (simp; omega)))
            clear hK K
            try simp only [Act.put, List.getElem_toArray, List.getElem_cons_zero, List.getElem_cons_succ, List.setIfInBounds_toArray, List.set_cons_zero, List.set_cons_succ]
            refine wpAnyH_take (i := 16) (v := (.int .i64 ex.length)) rfl (by kernel_rfl) (by kernel_rfl) (by kernel_rfl) (fun _ _ _ h => h) (Or.inl ⟨by rfl, ?_⟩) hHeld ?_
            · intro W hW
              go_simp
            simp only [Act.put, List.getElem_toArray, List.getElem_cons_zero, List.getElem_cons_succ, List.setIfInBounds_toArray, List.set_cons_zero, List.set_cons_succ]
            refine wpAnyH_take (i := 17) (v := (.int .i64 0)) rfl (by kernel_rfl) (by kernel_rfl) (by kernel_rfl) (fun _ _ _ h => h) (Or.inl ⟨by rfl, ?_⟩) hHeld ?_
            · intro W hW
              go_simp
            simp only [Act.put, List.getElem_toArray, List.getElem_cons_zero, List.getElem_cons_succ, List.setIfInBounds_toArray, List.set_cons_zero, List.set_cons_succ]
            refine wpAnyH_done (by kernel_rfl) ?_ _
            refine NoPanic.normal ?_
            go_wp2_with fail
            go_meet
            refine ⟨_, rfl, rfl, rfl, ?_, ?_, ?_, ?_, ?_, hHeld⟩ <;> first | (rw [World.cell?_alloc_at _ _ _ _ rfl]; rfl) | (simp [go_sem, q0, q1, q2, q3, q4]; done)
        · go_simp
          refine hK.out _ _ (by first | exact hb_drew_alloc hHeld | exact hb_alloc hHeld) (fun hHeld => ?_)
          clear hK K
          try simp only [Act.put, List.getElem_toArray, List.getElem_cons_zero, List.getElem_cons_succ, List.setIfInBounds_toArray, List.set_cons_zero, List.set_cons_succ]
          refine wpAnyH_ready (rs := [0]) (by kernel_rfl) (by simp) (AllReadyH.cons rfl (fun K hK => ?_) AllReadyH.nil)
          go_simp
          refine hK.out _ _ (hb_drew_alloc hHeld) (fun hHeld => ?_)
          clear hK K
          try simp only [Act.put, List.getElem_toArray, List.getElem_cons_zero, List.getElem_cons_succ, List.setIfInBounds_toArray, List.set_cons_zero, List.set_cons_succ]
          refine wpAnyH_ready (rs := [2]) (by kernel_rfl) (by simp) (AllReadyH.cons rfl (fun K hK => ?_) AllReadyH.nil)
          refine step_append_own_rd rfl _ _ 22 rfl w4.heap.size 5 i0 (.int .u8 0) 1 1 Try.underlying22 hi0 hz0 hz1 hz2 rfl (by decide) _ 0 [] rfl (OB.out _) _ ex.length (ex.map (Value.int .u8)) rfl (RP2.out _ _) (ints_oneCell .u8 _) b1 b2 (by simp; omega) (fun vB wB hownB hgrowB => ?_)
          have HSB := hb_own hHeld hgrowB (OB.out _)
          have HZ := z_old hgrowB
          refine hK.out _ _ HSB (fun hHeld => ?_)
          clear hK K
          try simp only [Act.put, List.getElem_toArray, List.getElem_cons_zero, List.getElem_cons_succ, List.setIfInBounds_toArray, List.set_cons_zero, List.set_cons_succ]
          refine wpAnyH_ready (rs := [8]) (by kernel_rfl) (by simp) (AllReadyH.cons rfl (fun K hK => ?_) AllReadyH.nil)
          refine step_append_own_rd rfl _ _ 22 rfl w4.heap.size 5 i0 (.int .u8 0) 1 1 Try.underlying22 hi0 hz0 hz1 hz2 rfl (by decide) _ (0 + ex.length) ([] ++ ex.map (Value.int .u8)) rfl hownB _ (l.take k).length ((l.take k).map (Value.int .u8)) rfl (HM.out.later hHeld.out) (ints_oneCell .u8 _) b4 b5 hHeld.out.size (fun vC wC hownC hgrowC => ?_)
          have HSC := hb_own hHeld hgrowC hownB
          have HZ2 := z_keep HZ hownB hgrowC
          refine hK.out _ _ HSC (fun hHeld => ?_)
          clear hK K
          try simp only [Act.put, List.getElem_toArray, List.getElem_cons_zero, List.getElem_cons_succ, List.setIfInBounds_toArray, List.set_cons_zero, List.set_cons_succ]
          refine wpAnyH_ready (rs := [9]) (by kernel_rfl) (by simp) (AllReadyH.cons rfl (fun K hK => ?_) AllReadyH.nil)
          go_simp
          refine (decW_some HDM.out HBM.out _ _ (own_rdB hownC)).mono ?_
          rintro e wD ⟨rfl, hbD⟩
          have HSD := hb_call hHeld hbD
          have HZD := z_call HZ2 hbD
          obtain ⟨q0, q1, q2, q3, q4, q5, q6⟩ := z_cells HZD
          refine hK.out _ _ HSD (fun hHeld => ?_)
          clear hK K
          try simp only [Act.put, List.getElem_toArray, List.getElem_cons_zero, List.getElem_cons_succ, List.setIfInBounds_toArray, List.set_cons_zero, List.set_cons_succ]
          refine wpAnyH_take (i := 10) (v := (.tuple #[(.agg #[.int .u8 x.op, .int .u8 x.a, .int .u8 x.b, .int .u8 x.c, .int .i64 x.imm]), .int .i64 ex.length, .int .i64 0])) rfl (by kernel_rfl) (by kernel_rfl) (by kernel_rfl) (fun _ _ _ h => h) (Or.inl ⟨by rfl, ?_⟩) hHeld ?_
          · intro W hW
            go_simp
          simp only [Act.put, List.getElem_toArray, List.getElem_cons_zero, List.getElem_cons_succ, List.setIfInBounds_toArray, List.set_cons_zero, List.set_cons_succ]
          refine wpAnyH_take (i := 11) (v := (.agg #[.int .u8 x.op, .int .u8 x.a, .int .u8 x.b, .int .u8 x.c, .int .i64 x.imm])) rfl (by kernel_rfl) (by kernel_rfl) (by kernel_rfl) (fun _ _ _ h => h) (Or.inl ⟨by rfl, ?_⟩) hHeld ?_
          · intro W hW
            go_simp
          simp only [Act.put, List.getElem_toArray, List.getElem_cons_zero, List.getElem_cons_succ, List.setIfInBounds_toArray, List.set_cons_zero, List.set_cons_succ]
          refine wpAnyH_take (i := 12) (v := (.int .i64 ex.length)) rfl (by kernel_rfl) (by kernel_rfl) (by kernel_rfl) (fun _ _ _ h => h) (Or.inl ⟨by rfl, ?_⟩) hHeld ?_
          · intro W hW
            go_simp
          simp only [Act.put, List.getElem_toArray, List.getElem_cons_zero, List.getElem_cons_succ, List.setIfInBounds_toArray, List.set_cons_zero, List.set_cons_succ]
          refine wpAnyH_take (i := 13) (v := (.int .i64 0)) rfl (by kernel_rfl) (by kernel_rfl) (by kernel_rfl) (fun _ _ _ h => h) (Or.inl ⟨by rfl, ?_⟩) hHeld ?_
          · intro W hW
            go_simp
          simp only [Act.put, List.getElem_toArray, List.getElem_cons_zero, List.getElem_cons_succ, List.setIfInBounds_toArray, List.set_cons_zero, List.set_cons_succ]
          refine wpAnyH_ready (rs := [15]) (by kernel_rfl) (by simp) (AllReadyH.cons rfl (fun K hK => ?_) AllReadyH.nil)
          go_simp
          refine hK.out _ _ ?_ (fun hHeld => ?_)
          · refine Lib.hid ?_
            repeat (with_reducible (first | exact HSD.out | exact hHeld.out | exact q6 | refine Below.setCell ?_ ?_ _ | refine Below.alloc ?_ ?_ _ | (simp; omega)))
          clear hK K
          try simp only [Act.put, List.getElem_toArray, List.getElem_cons_zero, List.getElem_cons_succ, List.setIfInBounds_toArray, List.set_cons_zero, List.set_cons_succ]
          refine wpAnyH_take (i := 16) (v := (.int .i64 ex.length)) rfl (by kernel_rfl) (by kernel_rfl) (by kernel_rfl) (fun _ _ _ h => h) (Or.inl ⟨by rfl, ?_⟩) hHeld ?_
          · intro W hW
            go_simp
          simp only [Act.put, List.getElem_toArray, List.getElem_cons_zero, List.getElem_cons_succ, List.setIfInBounds_toArray, List.set_cons_zero, List.set_cons_succ]
          refine wpAnyH_take (i := 17) (v := (.int .i64 0)) rfl (by kernel_rfl) (by kernel_rfl) (by kernel_rfl) (fun _ _ _ h => h) (Or.inl ⟨by rfl, ?_⟩) hHeld ?_
          · intro W hW
            go_simp
          simp only [Act.put, List.getElem_toArray, List.getElem_cons_zero, List.getElem_cons_succ, List.setIfInBounds_toArray, List.set_cons_zero, List.set_cons_succ]
          refine wpAnyH_done (by kernel_rfl) ?_ _
          refine NoPanic.normal ?_
          go_wp2_with fail
          go_meet
          refine ⟨_, rfl, rfl, rfl, ?_, ?_, ?_, ?_, ?_, hHeld⟩ <;> first | (rw [World.cell?_alloc_at _ _ _ _ rfl]; rfl) | (simp [go_sem, q0, q1, q2, q3, q4]; done)
      case rest =>
        obtain ⟨g, rfl, rfl, rfl, q0, q1, q2, q3, q4, q5⟩ := hcut
        have hb4 := q5.out
        have hsx : SW w.heap.size x w4.heap.size w4 w4 := ⟨k0, k1, k2, k3, k4, Below.refl _ _⟩
        obtain ⟨j0, j1, j2, j3, j4, -⟩ := hsx.next (Nat.le_refl _) hb4
        have hsg : SW g x w4.heap.size w4 wc := ⟨q0, q1, q2, q3, q4, q5⟩
        have HR5 : Hid (RdB wc _ ex) := HR4.out.later hb4
        have HB5 := Lib.hid (below_to HB4.out hb4)
        have HSX := Lib.hid (hsx.next (Nat.le_refl _) hb4)
        have HSG := Lib.hid hsg
        have hs5 := hb4.size
        have weq : ∀ W, (binOp .eql 26 (.agg #[.int .u8 x.op, .int .u8 x.a, .int .u8 x.b, .int .u8 x.c, .int .i64 x.imm]) (.agg #[.int .u8 x.op, .int .u8 x.a, .int .u8 x.b, .int .u8 x.c, .int .i64 x.imm])).run Try.prog W = .ok (.bool true) W := fun W => by
          rw [word_eql x x W, decide_eq_true rfl]
        clear hsx hsg hb4 k0 k1 k2 k3 k4 q0 q1 q2 q3 q4 q5 s2 hi0 hz0 hz1 hz2 hk6 HS0 OA0 OA OB RP1 RP2 HDM HBM HM HV4
        go_wp2_with fail
        refine (RE.out _).mono ?_
        rintro e w6 ⟨v6, rfl, hr6, hb6⟩
        obtain ⟨j0, j1, j2, j3, j4, -⟩ := HSX.out.next (Nat.le_refl _) hb6
        obtain ⟨q0, q1, q2, q3, q4, -⟩ := HSG.out.next (Nat.le_refl _) hb6
        have HR6 : Hid (RdB w6 _ ex) := HR5.out.later hb6
        have HV6 := Lib.hid hr6
        have HB6 := Lib.hid (below_to HB5.out hb6)
        clear hr6 hb6 HR5 HB5 RE
        go_wp2_with fail
        refine (sameBytes_any _ _ _ _ _ HR6.out HV6.out HBX.out HBX.out).mono ?_
        rw [show eqL ex ex = true from decide_eq_true rfl]
        rintro e w7 ⟨rfl, rfl⟩
        go_wp2_with fail
        go_ret
        exact ⟨rfl, HB6.out⟩
end Go.Proofs.Ytlnaaoigggfefaa
