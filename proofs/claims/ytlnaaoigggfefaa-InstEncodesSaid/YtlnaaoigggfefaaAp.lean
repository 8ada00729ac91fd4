/- Two instructions have the same bytes just if they are one: the plain law, and the walk. -/
import Derived.Test.YtlnaaoigggfefaaZ
namespace Go.Proofs.Ytlnaaoigggfefaa
open Go.RowKit

theorem apart_plain {x y : W} (hx : x.ok) (hy : y.ok) (fx : formB x = true) (fy : formB y = true) {n : Nat} (hn : n = min (encL x).length (encL y).length) (h : (encL x).take n = (encL y).take n) : x = y := by
  by_cases hle : (encL x).length ≤ (encL y).length
  · have e1 : n = (encL x).length := by omega
    rw [e1, List.take_length] at h
    have h2 : encL y = encL x ++ (encL y).drop (encL x).length := by
      conv => lhs; rw [← List.take_append_drop (encL x).length (encL y)]
      rw [← h]
    have d1 := decS_enc x hx fx ((encL y).drop (encL x).length)
    have d2 := decS_enc y hy fy []
    rw [List.append_nil] at d2
    rw [← h2, d2] at d1
    simp only [Option.some.injEq, Prod.mk.injEq] at d1
    exact d1.1.symm
  · have e1 : n = (encL y).length := by omega
    rw [e1, List.take_length] at h
    have h2 : encL x = encL y ++ (encL x).drop (encL y).length := by
      conv => lhs; rw [← List.take_append_drop (encL y).length (encL x)]
      rw [h]
    have d1 := decS_enc y hy fy ((encL x).drop (encL y).length)
    have d2 := decS_enc x hx fx []
    rw [List.append_nil] at d2
    rw [← h2, d2] at d1
    simp only [Option.some.injEq, Prod.mk.injEq] at d1
    exact d1.1

theorem apart_eq {x y : W} (hx : x.ok) (hy : y.ok) (fx : formB x = true) (fy : formB y = true) {n : Nat} (hn : n = min (encL x).length (encL y).length) : eqL ((encL x).take n) ((encL y).take n) = decide (x = y) := by
  unfold eqL
  by_cases h : x = y
  · subst h; simp
  · have : ¬ (encL x).take n = (encL y).take n := fun h2 => h (apart_plain hx hy fx fy hn h2)
    simp [h, this]

def wV (x : W) : Value := .agg #[.int .u8 x.op, .int .u8 x.a, .int .u8 x.b, .int .u8 x.c, .int .i64 x.imm]

theorem encW_ok {x : W} (hx : x.ok) (hf : formB x = true) (w : World) : Calls Try.prog 13 #[.agg #[.int .u8 x.op, .int .u8 x.a, .int .u8 x.b, .int .u8 x.c, .int .i64 x.imm]] w fun e w' => ∃ a c, e = .returned (.tuple #[.slice a (encL x).length c, .int .i64 0]) ∧ RdB w' (.slice a (encL x).length c) (encL x) ∧ Below w.heap.size w w' := by
  obtain ⟨op, a, b, c, imm⟩ := x
  obtain ⟨h1, h2, h3, h4, h5⟩ := hx
  refine (encode_ok op a b c imm w hf h5.1 h5.2 h1.1 h1.2).mono fun e w' ⟨v, he, ho, hb⟩ => ?_
  obtain ⟨a', c', rfl⟩ := ownB_shape ho
  exact ⟨a', c', he, ho.rd, hb⟩

theorem rdB_take {w : World} {a : Option Addr} {c n k : Nat} {l : List Int} (h : RdB w (.slice a n c) l) (hk : k ≤ n) (hn : n = l.length := by rfl) : RdB w (.slice a k c) (l.take k) := by
  subst hn
  have := Rd.take h hk
  unfold RdB
  rw [List.length_take, Nat.min_eq_left hk, List.map_take]
  simpa using this
theorem rdB_cap {w : World} {a : Option Addr} {c n : Nat} {l : List Int} (h : RdB w (.slice a n c) l) : n ≤ c ∧ c ≤ 9223372036854775807 := by
  rcases h.2 with ⟨h1, _⟩ | ⟨a', c', h1, h2, h3, _⟩
  · cases h1; omega
  · simp only [Value.slice.injEq] at h1
    obtain ⟨_, rfl, rfl⟩ := h1
    unfold maxLen at h3
    omega

theorem word_eql (x y : W) (w : World) : (binOp .eql 26 (.agg #[.int .u8 x.op, .int .u8 x.a, .int .u8 x.b, .int .u8 x.c, .int .i64 x.imm]) (.agg #[.int .u8 y.op, .int .u8 y.a, .int .u8 y.b, .int .u8 y.c, .int .i64 y.imm])).run Try.prog w = .ok (.bool (decide (x = y))) w := by
  obtain ⟨a, b, c, d, e⟩ := x
  obtain ⟨a', b', c', d', e'⟩ := y
  go_simp
  (repeat' split) <;> simp_all

theorem encW_bd {x : W} (hx : x.ok) : isB (encL x) := encL_bd x hx.1 hx.2.1 hx.2.2.1 hx.2.2.2.1

theorem refFormW {x : W} (hx : x.ok) (w : World) : Calls Try.prog 14 #[.agg #[.int .u8 x.op, .int .u8 x.a, .int .u8 x.b, .int .u8 x.c, .int .i64 x.imm]] w fun e w' => e = .returned (.bool (formB x)) ∧ Below w.heap.size w w' := by
  obtain ⟨op, a, b, c, imm⟩ := x
  obtain ⟨h1, h2, h3, h4, h5⟩ := hx
  exact refForm_any op a b c imm w h1.1 h1.2 h2.1 h3.1 h4.1 h5.2 h5.1

theorem encW_any {x : W} (hx : x.ok) (w : World) : Calls Try.prog 13 #[.agg #[.int .u8 x.op, .int .u8 x.a, .int .u8 x.b, .int .u8 x.c, .int .i64 x.imm]] w fun e w' => ∃ (v : Value) (k : Int), e = .returned (.tuple #[v, .int .i64 k]) ∧ Below w.heap.size w w' := by
  cases hf : formB x
  · exact (encode_no x.op x.a x.b x.c x.imm w hf).mono fun e w' ⟨he, hb⟩ => ⟨_, _, he, hb⟩
  · exact (encW_ok hx hf w).mono fun e w' ⟨a, c, he, _, hb⟩ => ⟨_, _, he, hb⟩

set_option maxHeartbeats 4000000 in
theorem instApart_walk (x y : W) (w : World) (hx : x.ok) (hy : y.ok) :
    Calls Try.prog 4 #[.agg #[.int .u8 x.op, .int .u8 x.a, .int .u8 x.b, .int .u8 x.c, .int .i64 x.imm], .agg #[.int .u8 y.op, .int .u8 y.a, .int .u8 y.b, .int .u8 y.c, .int .i64 y.imm]] w fun e w' => e = .returned (.bool true) ∧ Below w.heap.size w w' := by
  have HX := Lib.hid hx
  have HY := Lib.hid hy
  clear hx hy
  go_enter Try.func4, Try.ntmps4
  go_wp2_with fail
  refine (awake_any _).mono ?_
  rintro e w1 ⟨rfl, hb1⟩
  obtain ⟨hc1, hf1⟩ := bcell hb1
  have z1 : w.heap.size + 1 < w1.heap.size := by have := hb1.size; simp at this; omega
  have z1' : w.heap.size < w1.heap.size := by omega
  have HB1 : Hid (Below w.heap.size w w1) := below_to (((Below.refl _ _).alloc (Nat.le_refl _) _).alloc (by simp) _) hb1
  have HWX : Hid (∀ w' : World, Below w1.heap.size w1 w' → w'.heap[w.heap.size]? = some (.cells #[.int .u8 x.op, .int .u8 x.a, .int .u8 x.b, .int .u8 x.c, .int .i64 x.imm] 26)) := by
    intro w' h
    rw [h.block _ z1', hb1.block _ (by simp; omega), heap_alloc_old _ _ (by simp), heap_alloc_new]
  have HWY : Hid (∀ w' : World, Below w1.heap.size w1 w' → w'.heap[w.heap.size + 1]? = some (.cells #[.int .u8 y.op, .int .u8 y.a, .int .u8 y.b, .int .u8 y.c, .int .i64 y.imm] 26)) := by
    intro w' h
    rw [h.block _ z1, hb1.block _ (by simp), show w.heap.size + 1 = (w.alloc (.cells #[.int .u8 x.op, .int .u8 x.a, .int .u8 x.b, .int .u8 x.c, .int .i64 x.imm] 26)).heap.size from by simp, heap_alloc_new]
  clear hb1
  cases hfx : formB x
  · have EX := Lib.hid (fun w => encode_no x.op x.a x.b x.c x.imm w hfx)
    have EY := Lib.hid (fun w => encW_any HY.out w)
    have FX := Lib.hid (fun w => (hfx ▸ refFormW HX.out w : Calls Try.prog 14 _ w fun e w' => e = .returned (.bool false) ∧ Below w.heap.size w w'))
    clear hfx HWX HWY
    go_wp2_with fail
    refine (EX.out _).mono ?_
    rintro e w2 ⟨rfl, hb2⟩
    obtain ⟨hc2, hf2⟩ := bcell hb2
    have z2 : w.heap.size + 1 < w2.heap.size := by have := hb2.size; omega
    have z2' : w.heap.size < w2.heap.size := by omega
    have HB2 := Lib.hid (below_to HB1.out hb2)
    clear hb2 EX HB1
    go_wp2_with fail
    refine (EY.out _).mono ?_
    rintro e w3 ⟨v3, k3, rfl, hb3⟩
    obtain ⟨hc3, hf3⟩ := bcell hb3
    have z3 : w.heap.size + 1 < w3.heap.size := by have := hb3.size; omega
    have z3' : w.heap.size < w3.heap.size := by omega
    have HB3 := Lib.hid (below_to HB2.out hb3)
    clear hb3 EY HB2
    go_wp2_with fail
    refine (FX.out _).mono ?_
    rintro e w4 ⟨rfl, hb4⟩
    have HB4 := Lib.hid (below_to HB3.out hb4)
    clear hb4 FX HB3
    go_wp2_with fail
    go_ret
    exact ⟨rfl, HB4.out⟩
  · have EX := Lib.hid (fun w => encW_ok HX.out hfx w)
    go_wp2_with fail
    refine (EX.out _).mono ?_
    rintro e w2 ⟨a2, c2, rfl, hr2, hb2⟩
    obtain ⟨hc2, hf2⟩ := bcell hb2
    have z2 : w.heap.size + 1 < w2.heap.size := by have := hb2.size; omega
    have z2' : w.heap.size < w2.heap.size := by omega
    have HB2 := Lib.hid (below_to HB1.out hb2)
    have HB12 := Lib.hid hb2
    have HR2 := Lib.hid hr2
    clear hb2 hr2 EX HB1
    cases hfy : formB y
    · have EY := Lib.hid (fun w => encode_no y.op y.a y.b y.c y.imm w hfy)
      have FX := Lib.hid (fun w => (hfx ▸ refFormW HX.out w : Calls Try.prog 14 _ w fun e w' => e = .returned (.bool true) ∧ Below w.heap.size w w'))
      have FY := Lib.hid (fun w => (hfy ▸ refFormW HY.out w : Calls Try.prog 14 _ w fun e w' => e = .returned (.bool false) ∧ Below w.heap.size w w'))
      clear hfx hfy HWX HWY HR2
      go_wp2_with fail
      refine (EY.out _).mono ?_
      rintro e w3 ⟨rfl, hb3⟩
      obtain ⟨hc3, hf3⟩ := bcell hb3
      have z3 : w.heap.size + 1 < w3.heap.size := by have := hb3.size; omega
      have z3' : w.heap.size < w3.heap.size := by omega
      have HB3 := Lib.hid (below_to HB2.out hb3)
      clear hb3 EY HB2
      go_wp2_with fail
      refine (FX.out _).mono ?_
      rintro e w4 ⟨rfl, hb4⟩
      obtain ⟨hc4, hf4⟩ := bcell hb4
      have z4 : w.heap.size + 1 < w4.heap.size := by have := hb4.size; omega
      have z4' : w.heap.size < w4.heap.size := by omega
      have HB4 := Lib.hid (below_to HB3.out hb4)
      clear hb4 FX HB3
      go_wp2_with fail
      refine (FY.out _).mono ?_
      rintro e w5 ⟨rfl, hb5⟩
      have HB5 := Lib.hid (below_to HB4.out hb5)
      clear hb5 FY HB4
      go_wp2_with fail
      go_ret
      exact ⟨rfl, HB5.out⟩
    · have EY := Lib.hid (fun w => encW_ok HY.out hfy w)
      have HQ := Lib.hid (fun n hn => apart_eq HX.out HY.out hfx hfy (n := n) hn)
      clear hfx hfy
      go_wp2_with fail
      refine (EY.out _).mono ?_
      rintro e w3 ⟨a3, c3, rfl, hr3, hb3⟩
      obtain ⟨hc3, hf3⟩ := bcell hb3
      have z3 : w.heap.size + 1 < w3.heap.size := by have := hb3.size; omega
      have z3' : w.heap.size < w3.heap.size := by omega
      have HB3 := Lib.hid (below_to HB2.out hb3)
      have HB23 := Lib.hid (below_to HB12.out hb3)
      have HR2' : Hid (RdB w3 _ _) := HR2.out.later hb3
      have HR3 := Lib.hid hr3
      clear hb3 hr3 EY HB2 HR2
      have hlx := HR2'.out.le
      have hly := HR3.out.le
      have BX := Lib.hid (encW_bd HX.out)
      have BY := Lib.hid (encW_bd HY.out)
      generalize encL x = ex at *
      generalize encL y = ey at *
      have k3x : w3.heap[w.heap.size]? = some (.cells #[.int .u8 x.op, .int .u8 x.a, .int .u8 x.b, .int .u8 x.c, .int .i64 x.imm] 26) := HWX.out w3 HB23.out
      have k3y : w3.heap[w.heap.size + 1]? = some (.cells #[.int .u8 y.op, .int .u8 y.a, .int .u8 y.b, .int .u8 y.c, .int .i64 y.imm] 26) := HWY.out w3 HB23.out
      have x0 := cell_of_heap (o := 0) k3x rfl
      have x1 := cell_of_heap (o := 1) k3x rfl
      have x2 := cell_of_heap (o := 2) k3x rfl
      have x3 := cell_of_heap (o := 3) k3x rfl
      have x4 := cell_of_heap (o := 4) k3x rfl
      have y0 := cell_of_heap (o := 0) k3y rfl
      have y1 := cell_of_heap (o := 1) k3y rfl
      have y2 := cell_of_heap (o := 2) k3y rfl
      have y3 := cell_of_heap (o := 3) k3y rfl
      have y4 := cell_of_heap (o := 4) k3y rfl
      have hcx := rdB_cap HR2'.out
      have hcy := rdB_cap HR3.out
      obtain ⟨i0, hi0, hz0, hz1, hz2⟩ := info_parts infoB
      clear k3x k3y hc1 hf1 hc2 hf2 hc3 hf3
      by_cases hle : ex.length ≤ ey.length
      · have hle' : (ex.length : Int) ≤ (ey.length : Int) := by omega
        have t2 : RdB w3.drew (.slice a2 ex.length c2) (ex.take ex.length) := rdB_take (show RdB w3.drew _ _ from HR2'.out) (by omega)
        have t3 : RdB w3.drew (.slice a3 ex.length c3) (ey.take ex.length) := rdB_take (show RdB w3.drew _ _ from HR3.out) (by omega)
        have T2 := Lib.hid t2
        have T3 := Lib.hid t3
        have s2 := fun W => run_slice_to (P := Try.prog) 22 5 Try.underlying22 hi0 hz1 a2 ex.length c2 ex.length (ex.length : Int) rfl (by omega) W
        have s3 := fun W => run_slice_to (P := Try.prog) 22 5 Try.underlying22 hi0 hz1 a3 ey.length c3 ex.length (ex.length : Int) rfl (by omega) W
        have hq := HQ.out ex.length (by omega)
        have bx : isB (ex.take ex.length) := fun v hv => BX.out v (List.mem_of_mem_take hv)
        have bY : isB (ey.take ex.length) := fun v hv => BY.out v (List.mem_of_mem_take hv)
        have CC := Lib.hid (fun v1 v2 w h1 h2 => sameBytes_any v1 v2 _ _ w h1 h2 bx bY)
        have weq := fun W => word_eql x y W
        generalize decide (x = y) = dxy at hq weq
        have HQ2 := Lib.hid hq
        clear t2 t3 hq bx bY hi0 hz0 hz1 hz2
        go_wp2_with fail
        go_region_held3 (fun w' => w'.cell? ⟨w.heap.size, 0, none⟩ = some (.int .u8 x.op) ∧ w'.cell? ⟨w.heap.size, 1, none⟩ = some (.int .u8 x.a) ∧ w'.cell? ⟨w.heap.size, 2, none⟩ = some (.int .u8 x.b) ∧ w'.cell? ⟨w.heap.size, 3, none⟩ = some (.int .u8 x.c) ∧ w'.cell? ⟨w.heap.size, 4, none⟩ = some (.int .i64 x.imm) ∧
            w'.cell? ⟨w.heap.size + 1, 0, none⟩ = some (.int .u8 y.op) ∧ w'.cell? ⟨w.heap.size + 1, 1, none⟩ = some (.int .u8 y.a) ∧ w'.cell? ⟨w.heap.size + 1, 2, none⟩ = some (.int .u8 y.b) ∧ w'.cell? ⟨w.heap.size + 1, 3, none⟩ = some (.int .u8 y.c) ∧ w'.cell? ⟨w.heap.size + 1, 4, none⟩ = some (.int .i64 y.imm))
          (first | go_keep | (simp [go_sem, x0, x1, x2, x3, x4, y0, y1, y2, y3, y4]; done)) (first | (go_at_call 15; refine (CC.out _ _ _ T2.out T3.out).mono ?_; rw [HQ2.out]; rintro e w4 ⟨rfl, rfl⟩))
        go_wp2_with fail
        go_ret
        exact ⟨rfl, HB3.out.drew⟩
      · have hle' : (ey.length : Int) ≤ (ex.length : Int) := by omega
        have hle2 : ¬ (ex.length : Int) ≤ (ey.length : Int) := by omega
        have t2 : RdB w3.drew (.slice a2 ey.length c2) (ex.take ey.length) := rdB_take (show RdB w3.drew _ _ from HR2'.out) (by omega)
        have t3 : RdB w3.drew (.slice a3 ey.length c3) (ey.take ey.length) := rdB_take (show RdB w3.drew _ _ from HR3.out) (by omega)
        have T2 := Lib.hid t2
        have T3 := Lib.hid t3
        have s2 := fun W => run_slice_to (P := Try.prog) 22 5 Try.underlying22 hi0 hz1 a2 ex.length c2 ey.length (ey.length : Int) rfl (by omega) W
        have s3 := fun W => run_slice_to (P := Try.prog) 22 5 Try.underlying22 hi0 hz1 a3 ey.length c3 ey.length (ey.length : Int) rfl (by omega) W
        have hq := HQ.out ey.length (by omega)
        have bx : isB (ex.take ey.length) := fun v hv => BX.out v (List.mem_of_mem_take hv)
        have bY : isB (ey.take ey.length) := fun v hv => BY.out v (List.mem_of_mem_take hv)
        have CC := Lib.hid (fun v1 v2 w h1 h2 => sameBytes_any v1 v2 _ _ w h1 h2 bx bY)
        have weq := fun W => word_eql x y W
        generalize decide (x = y) = dxy at hq weq
        have HQ2 := Lib.hid hq
        clear t2 t3 hq bx bY hi0 hz0 hz1 hz2
        go_wp2_with fail
        go_region_held3 (fun w' => w'.cell? ⟨w.heap.size, 0, none⟩ = some (.int .u8 x.op) ∧ w'.cell? ⟨w.heap.size, 1, none⟩ = some (.int .u8 x.a) ∧ w'.cell? ⟨w.heap.size, 2, none⟩ = some (.int .u8 x.b) ∧ w'.cell? ⟨w.heap.size, 3, none⟩ = some (.int .u8 x.c) ∧ w'.cell? ⟨w.heap.size, 4, none⟩ = some (.int .i64 x.imm) ∧
            w'.cell? ⟨w.heap.size + 1, 0, none⟩ = some (.int .u8 y.op) ∧ w'.cell? ⟨w.heap.size + 1, 1, none⟩ = some (.int .u8 y.a) ∧ w'.cell? ⟨w.heap.size + 1, 2, none⟩ = some (.int .u8 y.b) ∧ w'.cell? ⟨w.heap.size + 1, 3, none⟩ = some (.int .u8 y.c) ∧ w'.cell? ⟨w.heap.size + 1, 4, none⟩ = some (.int .i64 y.imm))
          (first | go_keep | (simp [go_sem, x0, x1, x2, x3, x4, y0, y1, y2, y3, y4]; done)) (first | (go_at_call 15; refine (CC.out _ _ _ T2.out T3.out).mono ?_; rw [HQ2.out]; rintro e w4 ⟨rfl, rfl⟩))
        go_wp2_with fail
        go_ret
        exact ⟨rfl, HB3.out.drew⟩
end Go.Proofs.Ytlnaaoigggfefaa
