/- The walk of MovesOrder. -/
import Derived.Test.YtmdmfciicoldoaaMp
import Derived.Test.YtmdmfciicoldoaaMs
namespace Go.Proofs.Ytmdmfciicoldoaa
open Go.RowKit Go.Maps

theorem cnt_le (p : Nat → Prop) : ∀ n, cnt p n ≤ n
  | 0 => Nat.le_refl _
  | n + 1 => by rw [cnt_succ]; have := cnt_le p n; split <;> omega
theorem order_len {l : List M} {spare : Int} (hD : Dist l) (hS : SpOK l spare) : (orderF l spare).length ≤ 2 * l.length := by
  rw [(order_right hD hS).1]
  have h1 : circN l ≤ l.length := cnt_le _ _
  have h2 : nonself l ≤ l.length := List.countP_le_length
  omega
theorem srcL_self {l : List M} (hD : Dist l) {m : M} (h : m ∈ l) : (srcL l m.1).getD m.1 = m.2 := by
  by_cases he : m.1 = m.2
  · cases hs : srcL l m.1 with
    | none => exact he
    | some y =>
      obtain ⟨h1, h2⟩ := srcL_mem hs
      have := dist_mem hD h h1 rfl
      exact absurd (by rw [this] at he; exact he) h2
  · rw [srcL_of_mem hD h he]; rfl
theorem order_rightP {l : List M} {spare : Int} (hD : Dist l) (hS : SpOK l spare) : RightP l spare (orderF l spare) := by
  obtain ⟨h1, h2, h3⟩ := order_right hD hS
  refine ⟨?_, fun hc => h2 ?_, fun m hm => ?_, fun p hp hno => ?_⟩
  · rw [h1, refCircF_is hD]; push_cast; rfl
  · rw [refCircF_is hD] at hc; omega
  · rw [h3 _ (hS m hm).1]; exact srcL_self hD hm
  · rw [h3 p hp, srcL_no hno]; rfl
theorem chk_sp {l : List M} {spare : Int} : chkL l spare true = 0 ↔ Dist l ∧ SpOK l spare := by
  have hg : GoodAll l spare true ↔ Dist l ∧ SpOK l spare := by
    constructor
    · intro h
      refine ⟨(goodAll_dist l spare).1 fun i hi hil => ⟨by simp, (h i hi hil).2⟩, fun m hm => ?_⟩
      obtain ⟨i, hi, rfl⟩ := List.getElem_of_mem hm
      have := (h i hi hi).1
      simp at this
      exact this
    · rintro ⟨hD, hS⟩ i hi hil
      refine ⟨?_, ((goodAll_dist l spare).2 hD i hi hil).2⟩
      have := hS _ (List.getElem_mem hil)
      simp [this.1, this.2]
  rw [← hg]
  unfold chkL
  by_cases h : GoodAll l spare true
  · rw [if_pos h]; simp [h]
  · rw [if_neg h]; simp [h]
theorem chk_three {l : List M} {spare : Int} (h : ¬ (Dist l ∧ SpOK l spare)) : chkL l spare true = 3 := by
  have h2 : chkL l spare true ≠ 0 := fun e => h (chk_sp.1 e)
  unfold chkL at *
  split <;> simp_all
theorem move_neq (x y : Int) (w : World) : (binOp .neq 31 (.agg #[.int .i64 x, .int .i64 y]) (.agg #[.int .i64 x, .int .i64 y])).run Try.prog w = .ok (.bool false) w := by
  go_simp

set_option maxHeartbeats 8000000 in
set_option maxRecDepth 100000 in
theorem movesOrder_walk (v : Value) (l : List M) (spare : Int) (w : World) (hv : RdM w v l) (hR : ∀ m ∈ l, inR m.1 ∧ inR m.2) :
    Calls Try.prog 3 #[v, .int .i64 spare] w fun e w' => e = .returned (.bool true) ∧ Below w.heap.size w w' := by
  obtain ⟨va, vc, rfl⟩ := Rd.shape hv
  obtain ⟨im, mi0, mz0, mz1, mz2⟩ := info_parts infoR
  obtain ⟨jm, ji0, jz0, jz1, jz2⟩ := info_parts infoM
  have hcv := rdM_cap hv
  obtain ⟨k, hk, hk60, hkm⟩ : ∃ k : Nat, k ≤ l.length ∧ k ≤ 60 ∧ (if (60 : Int) < (l.length : Int) then (60 : Int) else (l.length : Int)) = (k : Int) := ⟨min l.length 60, by omega, by omega, by split <;> omega⟩
  have sl := fun W => run_slice_to (P := Try.prog) 22 31 Try.underlying22 mi0 mz1 va l.length vc k (k : Int) rfl (by omega) W
  have HV : Hid (RdM w (.slice va k vc) (l.take k)) := rdM_take hv hk
  have HR : Hid (∀ m ∈ l.take k, inR m.1 ∧ inR m.2) := fun m hm => hR m (List.mem_of_mem_take hm)
  have hkl : k = (l.take k).length := by rw [List.length_take]; omega
  have hml : (l.take k).length ≤ 60 := by omega
  generalize l.take k = m at *
  have HOr := Lib.hid (fun v w h => order_any v m spare w h HR.out (by omega))
  have HCk := Lib.hid (fun v w h => check_any v m spare true w h)
  have HML := Lib.hid hml
  have s2 := fun g c hc W => run_slice_to (P := Try.prog) 24 32 Try.underlying24 ji0 jz1 (some ⟨g, 0, none⟩) m.length c (m.length + 1) ((m.length : Int) + 1) rfl hc W
  have SL2 := Lib.hid s2
  clear hv hR s2 mi0 mz0 mz1 mz2 ji0 jz0 jz1 jz2
  go_enter Try.func3, Try.ntmps3
  go_wp2_with fail
  refine (awake_any _).mono ?_
  rintro e w1 ⟨rfl, hb1⟩
  have HB1 := Lib.hid hb1
  have HV1 : Hid (RdM w1 _ m) := HV.out.later hb1
  clear hb1 HV
  go_wp2_with fail
  subst hkl
  refine (list_any _ m _ HV1.out (by have := HML.out; omega)).mono ?_
  rintro e w2 ⟨u, rfl, hs2, hb2⟩
  have HB2 := Lib.hid (HB1.out.trans (hb2.mono HB1.out.size))
  have HV2 : Hid (RdM w2 _ m) := HV1.out.later hb2
  have HS2 := Lib.hid hs2
  clear hb2 hs2 HB1 HV1
  go_wp2_with fail
  refine (HOr.out _ _ HS2.out.rd).mono ?_
  rintro e w3 ⟨hcase, hb3⟩
  have HB3 := Lib.hid (HB2.out.trans (hb3.mono HB2.out.size))
  have HV3 : Hid (RdM w3 _ m) := HV2.out.later hb3
  have HS3 := Lib.hid (HS2.out.later hb3)
  clear hb3 HB2 HV2 HS2
  obtain ⟨ov, oe, rfl, HCase⟩ : ∃ (ov : Value) (oe : Int), e = .returned (.tuple #[ov, .int .i64 oe]) ∧ Hid ((¬ (Dist m ∧ SpOK m spare) ∧ ov = .slice none 0 0 ∧ oe = 3) ∨ ((Dist m ∧ SpOK m spare) ∧ oe = 0 ∧ RdM w3 ov (orderF m spare))) := by
    rcases hcase with ⟨h1, rfl⟩ | ⟨h1, v', rfl, h2⟩
    · exact ⟨_, _, rfl, .inl ⟨h1, rfl, rfl⟩⟩
    · exact ⟨_, _, rfl, .inr ⟨h1, rfl, h2⟩⟩
  clear hcase HOr
  go_wp2_with fail
  refine (back_any _ m _ HS3.out.rd (by have := HML.out; omega)).mono ?_
  rintro e w4 ⟨bv, rfl, hr4, hb4⟩
  have HB4 := Lib.hid (HB3.out.trans (hb4.mono HB3.out.size))
  have HV4 : Hid (RdM w4 _ m) := HV3.out.later hb4
  have HS4 := Lib.hid (HS3.out.later hb4)
  have HR4 := Lib.hid hr4
  have HCase4 : Hid ((¬ (Dist m ∧ SpOK m spare) ∧ ov = .slice none 0 0 ∧ oe = 3) ∨ ((Dist m ∧ SpOK m spare) ∧ oe = 0 ∧ RdM w4 ov (orderF m spare))) := by
    rcases HCase.out with h | ⟨h1, h2, h3⟩
    · exact .inl h
    · exact .inr ⟨h1, h2, h3.later hb4⟩
  obtain ⟨ba, bc, rfl⟩ := Rd.shape hr4
  clear hb4 hr4 HB3 HV3 HS3 HCase
  go_wp2_with fail
  go_loopw [29] (fun i wr => ∃ j : Nat, j ≤ m.length ∧ i = .int .i64 j ∧ Hid (Below w4.heap.size w4 wr)) (fun i _ => m.length - (intOf i).toNat)
  case atStart => exact ⟨0, by omega, rfl, Below.refl _ _⟩
  case round =>
    obtain ⟨j, hj, rfl, HB⟩ := hrel
    have hsz := HB.out.size
    by_cases hlt : j < m.length
    · rcases HR4.out.split with ⟨a, c, h0, rfl⟩ | ⟨b, off, c, h0, hp, hlc, hc9, hb, hcell⟩
      · simp at hlt
      · simp only [Value.slice.injEq] at h0
        obtain ⟨rfl, -, rfl⟩ := h0
        rcases HV4.out.split with ⟨a, c', h0', rfl⟩ | ⟨b', off', c', h0', hp', hlc', hc9', hb', hcell'⟩
        · simp at hlt
        · simp only [Value.slice.injEq] at h0'
          obtain ⟨rfl, -, rfl⟩ := h0'
          obtain ⟨d1, d2⟩ := hcell j hlt
          obtain ⟨q1, q2⟩ := hcell' j hlt
          rw [← HB.out.cell (p := ⟨b, off + j * 2, none⟩) hb] at d1
          rw [← HB.out.cell (p := ⟨b, off + j * 2 + 1, none⟩) hb] at d2
          rw [← HB.out.cell (p := ⟨b', off' + j * 2, none⟩) hb'] at q1
          rw [← HB.out.cell (p := ⟨b', off' + j * 2 + 1, none⟩) hb'] at q2
          have hbr : b < wr.heap.size := Nat.lt_of_lt_of_le hb hsz
          have hbr' : b' < wr.heap.size := Nat.lt_of_lt_of_le hb' hsz
          obtain ⟨⟨x, y⟩, hx⟩ : ∃ x, m[j] = x := ⟨_, rfl⟩
          rw [hx] at d1 d2 q1 q2
          simp only at d1 d2 q1 q2
          have mn := fun W => move_neq x y W
          clear hx hcell hcell'
          go_wp2_with fail
          go_quiet (fail)
          go_wp2_with fail
          exact ⟨⟨j + 1, by omega, by go_num, Go.below_drewN (HB.out.alloc hsz _) _⟩, by simp [intOf]; omega⟩
    · obtain rfl : j = m.length := by omega
      have HB5 := Lib.hid (HB4.out.trans (HB.out.mono HB4.out.size))
      have HV5 : Hid (RdM wr _ m) := HV4.out.later HB.out
      have HS5 := Lib.hid (HS4.out.later HB.out)
      have HCase5 : Hid ((¬ (Dist m ∧ SpOK m spare) ∧ ov = .slice none 0 0 ∧ oe = 3) ∨ ((Dist m ∧ SpOK m spare) ∧ oe = 0 ∧ RdM wr ov (orderF m spare))) := by
        rcases HCase4.out with h | ⟨h1, h2, h3⟩
        · exact .inl h
        · exact .inr ⟨h1, h2, h3.later HB.out⟩
      obtain ⟨g, c, rfl, hc1, hc2, hc3⟩ := HS5.out.shape
      obtain ⟨t1, _⟩ := hc3 m.length (by simp)
      have t2 : wr.cell? ⟨g, m.length * 2, none⟩ = some (.int .i64 77) := by rw [t1]; simp
      have sl3 := SL2.out g c (by omega)
      have hgl : g < wr.heap.size := World.block_lt_of_cell? _ _ t2
      clear HB HV4 HS4 HCase4 HB4 HR4 hc3 t1
      go_wp2_with fail
      refine (HCk.out _ _ HV5.out).mono ?_
      rintro e w6 ⟨rfl, hb6⟩
      have HB6 := Lib.hid (HB5.out.trans (hb6.mono HB5.out.size))
      have HV6 : Hid (RdM w6 _ m) := HV5.out.later hb6
      rcases HCase5.out with ⟨h1, rfl, rfl⟩ | ⟨h1, rfl, h3⟩
      · rw [chk_three h1]
        clear h1 hb6
        go_wp2_with fail
        go_ret
        exact ⟨rfl, HB6.out⟩
      · have HRO : Hid (RdM w6 ov (orderF m spare)) := h3.later hb6
        have HRP := Lib.hid (order_rightP h1.1 h1.2)
        have HOL := Lib.hid (order_len h1.1 h1.2)
        rw [chk_sp.2 h1]
        clear h1 h3 hb6 HB5 HV5 HS5 HCase5
        go_wp2_with fail
        refine (back_any _ _ _ HRO.out (by have := HOL.out; have := HML.out; omega)).mono ?_
        rintro e w7 ⟨v7, rfl, hr7, hb7⟩
        have HB7 := Lib.hid (HB6.out.trans (hb7.mono HB6.out.size))
        have HV7 : Hid (RdM w7 _ m) := HV6.out.later hb7
        have HR7 := Lib.hid hr7
        clear hb7 hr7 HB6 HV6 HRO
        go_wp2_with fail
        refine (right_any _ _ m _ spare _ HV7.out HR7.out (by have := HML.out; omega) (by have := HOL.out; have := HML.out; omega) HRP.out).mono ?_
        rintro e w8 ⟨rfl, hb8⟩
        have HB8 := Lib.hid (HB7.out.trans (hb8.mono HB7.out.size))
        clear hb8
        go_wp2_with fail
        go_ret
        exact ⟨rfl, HB8.out⟩
end Go.Proofs.Ytmdmfciicoldoaa
