/- Walks: several instructions' bytes, as the program and as the document make them. -/
import Derived.Test.YtlnaaoigggfefaaO
import Derived.Test.YtlnaaoigggfefaaP
import Derived.Test.YtlnaaoigggfefaaK
import Derived.Test.YtlnaaoigggfefaaWs
namespace Go.Proofs.Ytlnaaoigggfefaa
open Go.RowKit

theorem own_later {w w' : World} {base : Nat} {e : TypeId} {size n : Nat} {v : Value} {xs : List Value} (h : w.ownsRow base e size v n xs) (hb : Below w.heap.size w w') : w'.ownsRow base e size v n xs :=
  h.kept (row := none) ⟨hb.os, hb.tape, hb.output, hb.size, fun k hk _ => hb.block k hk⟩ (by cases hv : Value.ownBlock _ <;> simp)
theorem own_zero_nil (w : World) (base : Nat) : ownB w base (.slice none 0 0) [] := ⟨by simp, .inl ⟨rfl, rfl⟩⟩

theorem encPk_ok {x : W} (hx : x.ok) (hf : formB x = true) (w : World) : Calls Try.prog 13 #[.agg #[.int .u8 x.op, .int .u8 x.a, .int .u8 x.b, .int .u8 x.c, .int .i64 x.imm]] w fun e w' => ∃ v, e = .returned (.tuple #[v, .int .i64 0]) ∧ RdB w' v (encL x) ∧ Below w.heap.size w w' := by
  obtain ⟨op, a, b, c, imm⟩ := x
  obtain ⟨h1, h2, h3, h4, h5⟩ := hx
  exact (encode_ok op a b c imm w hf h5.1 h5.2 h1.1 h1.2).mono fun e w' ⟨v, he, ho, hb⟩ => ⟨v, he, ho.rd, hb⟩
theorem refEncPk {x : W} (hx : x.ok) (hf : formB x = true) (w : World) : Calls Try.prog 19 #[.agg #[.int .u8 x.op, .int .u8 x.a, .int .u8 x.b, .int .u8 x.c, .int .i64 x.imm]] w fun e w' => ∃ v, e = .returned v ∧ RdB w' v (encL x) ∧ Below w.heap.size w w' :=
  (refEncode_any x.op x.a x.b x.c x.imm w hf hx.2.2.2.2.1 hx.2.2.2.2.2 hx.1.1 hx.1.2).mono fun e w' ⟨v, he, ho, hb⟩ => ⟨v, he, ho.rd, hb⟩
theorem refFormPk {x : W} (hx : x.ok) (w : World) : Calls Try.prog 14 #[.agg #[.int .u8 x.op, .int .u8 x.a, .int .u8 x.b, .int .u8 x.c, .int .i64 x.imm]] w fun e w' => e = .returned (.bool (formB x)) ∧ Below w.heap.size w w' := by
  obtain ⟨op, a, b, c, imm⟩ := x
  obtain ⟨h1, h2, h3, h4, h5⟩ := hx
  exact refForm_any op a b c imm w h1.1 h1.2 h2.1 h3.1 h4.1 h5.2 h5.1

theorem all_next {l : List W} {j : Nat} (h : j < l.length) (ha : (l.take j).all formB = true) (hf : formB l[j] = true) : (l.take (j + 1)).all formB = true := by
  rw [List.take_succ_eq_append_getElem h, List.all_append, ha]; simp [hf]
theorem all_no {l : List W} {j : Nat} (h : j < l.length) (hf : formB l[j] = false) : l.all formB = false := by
  rw [List.all_eq_false]; exact ⟨l[j], List.getElem_mem h, by simp [hf]⟩

theorem pk_next {l : List W} {j N : Nat} {x : W} {w w4 : World} {v' : Value} {xs : List Value} (hj : j < l.length) (hx : l[j] = x)
    (h1 : w4.ownsRow w.heap.size 5 1 v' N xs)
    (hN : N = (packL (l.take j)).length + (encL x).length := by rfl) (hxs : xs = (packL (l.take j)).map (Value.int .u8) ++ (encL x).map (Value.int .u8) := by rfl) :
    ownB w4 w.heap.size v' (packL (l.take (j + 1))) := by
  rw [packL_take hj, hx]
  exact ownB_grow (l := packL (l.take j)) (x := encL x) (by rw [hxs] at h1; exact h1) hN

set_option maxHeartbeats 4000000 in
theorem pack_any (v : Value) (l : List W) (w : World) (hv : RdW w v l) (hok : ∀ x ∈ l, x.ok) (hlen : l.length ≤ 262144) :
    Calls Try.prog 20 #[v] w fun e w' => ((l.all formB = true ∧ ∃ v', e = .returned (.tuple #[v', .int .i64 0]) ∧ RdB w' v' (packL l)) ∨ (l.all formB = false ∧ e = .returned (.tuple #[.slice none 0 0, .int .i64 3]))) ∧ Below w.heap.size w w' := by
  rcases hv.split with ⟨a, c, rfl, rfl⟩ | ⟨b, off, c, rfl, hp, hlc, hc9, hb, hcell⟩
  · go_enter Try.func20, Try.ntmps20
    go_wp2_with fail
    refine wp_loop_rounds 1 ?_
    rw [rounds_succ]
    go_wp2_with fail
    go_ret2
    exact ⟨.inl ⟨rfl, _, rfl, Rd.nil _ _⟩, Below.refl _ _⟩
  · have HC := Lib.hid hcell
    have HOK := Lib.hid hok
    have hl9 : ¬ (262144 : Int) < (l.length : Int) := by omega
    obtain ⟨i0, hi0, hz0, hz1, hz2⟩ := info_parts infoB
    clear hcell hv hok
    go_enter Try.func20, Try.ntmps20
    go_wp2_with fail
    go_loopw [14, 4] (fun i out wr => ∃ j : Nat, j ≤ l.length ∧ i = .int .i64 j ∧ (l.take j).all formB = true ∧ ownB wr w.heap.size out (packL (l.take j)) ∧ Below w.heap.size w wr) (fun i _ _ => l.length - (intOf i).toNat)
    case atStart => exact ⟨0, by omega, rfl, rfl, own_zero_nil _ _, Below.refl _ _⟩
    case round =>
      obtain ⟨j, hj, rfl, hall, hown, hbel⟩ := hrel
      obtain ⟨oa, oc, rfl⟩ := ownB_shape hown
      have hbr : b < wr.heap.size := Nat.lt_of_lt_of_le hb hbel.size
      have HA := Lib.hid hall
      have HO := Lib.hid hown
      have HB := Lib.hid hbel
      by_cases hlt : j < l.length
      · obtain ⟨d0, d1, d2, d3, d4⟩ := HC.out j hlt
        rw [← hbel.cell (p := ⟨b, off + j * 5, none⟩) hb] at d0
        rw [← hbel.cell (p := ⟨b, off + j * 5 + 1, none⟩) hb] at d1
        rw [← hbel.cell (p := ⟨b, off + j * 5 + 2, none⟩) hb] at d2
        rw [← hbel.cell (p := ⟨b, off + j * 5 + 3, none⟩) hb] at d3
        rw [← hbel.cell (p := ⟨b, off + j * 5 + 4, none⟩) hb] at d4
        clear hall hown hbel
        have hxok := HOK.out l[j] (List.getElem_mem hlt)
        have HN := Lib.hid (fun hf => all_next hlt HA.out hf)
        have HNo := Lib.hid (fun hf => all_no hlt hf)
        obtain ⟨x, hx⟩ : ∃ x, l[j] = x := ⟨_, rfl⟩
        have HX := Lib.hid hx
        rw [hx] at d0 d1 d2 d3 d4 hxok HN HNo
        have HXO := Lib.hid hxok
        clear hx hxok
        have hpl : (packL (l.take j)).length ≤ 262144 * 13 := packL_length (by rw [List.length_take]; omega)
        have hel := encL_len x
        have b1 : (packL (l.take j)).length + (encL x).length ≤ maxLen := by unfold maxLen; omega
        have b2 : ((packL (l.take j)).length + (encL x).length) * 1 ≤ 140737488355328 := by omega
        cases hf : formB x
        · have EX := Lib.hid (fun w => encode_no x.op x.a x.b x.c x.imm w hf)
          have HNo2 := Lib.hid (HNo.out hf)
          clear hf
          go_wp2_with fail
          refine (EX.out _).mono ?_
          rintro e w3 ⟨rfl, hb3⟩
          have HB3 := Lib.hid ((HB.out.alloc HB.out.size _).trans (hb3.mono (by simp; have := HB.out.size; omega)))
          clear hb3
          go_wp2_with fail
          go_ret2
          exact ⟨.inr ⟨HNo2.out, rfl⟩, HB3.out⟩
        · have EX := Lib.hid (fun w => encPk_ok HXO.out hf w)
          have HN2 := Lib.hid (HN.out hf)
          clear hf
          go_wp2_with fail
          refine (EX.out _).mono ?_
          rintro e w3 ⟨v3, rfl, hr3, hb3⟩
          have HB3 := Lib.hid ((HB.out.alloc HB.out.size _).trans (hb3.mono (by simp; have := HB.out.size; omega)))
          have ho3 := own_later (HO.out.alloc (.cells #[.int .u8 x.op, .int .u8 x.a, .int .u8 x.b, .int .u8 x.c, .int .i64 x.imm] 26)) hb3
          have HO3 := Lib.hid ho3
          have HR3 := Lib.hid hr3
          have hs3 := HB3.out.size
          clear hb3 ho3 hr3 EX
          go_wp2_with (at_builtin; refine wpList_append_own_rd _ rfl _ _ 22 rfl w.heap.size 5 i0 (.int .u8 0) 1 1 Try.underlying22 hi0 hz0 hz1 hz2 rfl (by decide) _ _ _ rfl HO3.out _ _ _ rfl HR3.out (ints_oneCell .u8 _) b1 b2 hs3 ?_; intro v' w4 hown4 hgrow4)
          exact ⟨⟨j + 1, by omega, by go_num, HN2.out, pk_next hlt HX.out hown4, HB3.out.grown hgrow4 hs3 (fun k hk => (HO3.out.lt k hk).1)⟩, by simp [intOf]; omega⟩
      · obtain rfl : j = l.length := by omega
        simp only [List.take_length] at hall hown ⊢
        have HA := Lib.hid hall
        have HO := Lib.hid hown.rd
        clear hall hown hbel
        go_wp2_with fail
        go_ret2
        exact ⟨.inl ⟨HA.out, _, rfl, HO.out⟩, HB.out⟩

theorem pack_long (v : Value) (l : List W) (w : World) (hv : RdW w v l) (hlen : 262144 < l.length) :
    Calls Try.prog 20 #[v] w fun e w' => e = .returned (.tuple #[.slice none 0 0, .int .i64 2]) ∧ Below w.heap.size w w' := by
  obtain ⟨a, c, rfl⟩ := Rd.shape hv
  have hl9 : (262144 : Int) < (l.length : Int) := by omega
  clear hv
  go_enter Try.func20, Try.ntmps20
  go_wp2_with fail
  go_ret2
  exact ⟨rfl, Below.refl _ _⟩

set_option maxHeartbeats 4000000 in
theorem refPack_any (v : Value) (l : List W) (w : World) (hv : RdW w v l) (hok : ∀ x ∈ l, x.ok) (hlen : l.length ≤ 262144) :
    Calls Try.prog 21 #[v] w fun e w' => ((l.all formB = true ∧ ∃ v', e = .returned (.tuple #[v', .int .i64 0]) ∧ RdB w' v' (packL l)) ∨ (l.all formB = false ∧ e = .returned (.tuple #[.slice none 0 0, .int .i64 3]))) ∧ Below w.heap.size w w' := by
  rcases hv.split with ⟨a, c, rfl, rfl⟩ | ⟨b, off, c, rfl, hp, hlc, hc9, hb, hcell⟩
  · go_enter Try.func21, Try.ntmps21
    go_wp2_with fail
    refine wp_loop_rounds 1 ?_
    rw [rounds_succ]
    go_wp2_with fail
    go_ret2
    exact ⟨.inl ⟨rfl, _, rfl, Rd.nil _ _⟩, Below.refl _ _⟩
  · have HC := Lib.hid hcell
    have HOK := Lib.hid hok
    have hl9 : ¬ (262144 : Int) < (l.length : Int) := by omega
    obtain ⟨i0, hi0, hz0, hz1, hz2⟩ := info_parts infoB
    clear hcell hv hok
    go_enter Try.func21, Try.ntmps21
    go_wp2_with fail
    go_loopw [12, 4] (fun i out wr => ∃ j : Nat, j ≤ l.length ∧ i = .int .i64 j ∧ (l.take j).all formB = true ∧ ownB wr w.heap.size out (packL (l.take j)) ∧ Below w.heap.size w wr) (fun i _ _ => l.length - (intOf i).toNat)
    case atStart => exact ⟨0, by omega, rfl, rfl, own_zero_nil _ _, Below.refl _ _⟩
    case round =>
      obtain ⟨j, hj, rfl, hall, hown, hbel⟩ := hrel
      obtain ⟨oa, oc, rfl⟩ := ownB_shape hown
      have hbr : b < wr.heap.size := Nat.lt_of_lt_of_le hb hbel.size
      have HA := Lib.hid hall
      have HO := Lib.hid hown
      have HB := Lib.hid hbel
      by_cases hlt : j < l.length
      · obtain ⟨d0, d1, d2, d3, d4⟩ := HC.out j hlt
        rw [← hbel.cell (p := ⟨b, off + j * 5, none⟩) hb] at d0
        rw [← hbel.cell (p := ⟨b, off + j * 5 + 1, none⟩) hb] at d1
        rw [← hbel.cell (p := ⟨b, off + j * 5 + 2, none⟩) hb] at d2
        rw [← hbel.cell (p := ⟨b, off + j * 5 + 3, none⟩) hb] at d3
        rw [← hbel.cell (p := ⟨b, off + j * 5 + 4, none⟩) hb] at d4
        clear hall hown hbel
        have hxok := HOK.out l[j] (List.getElem_mem hlt)
        have HN := Lib.hid (fun hf => all_next hlt HA.out hf)
        have HNo := Lib.hid (fun hf => all_no hlt hf)
        obtain ⟨x, hx⟩ : ∃ x, l[j] = x := ⟨_, rfl⟩
        have HX := Lib.hid hx
        rw [hx] at d0 d1 d2 d3 d4 hxok HN HNo
        have HXO := Lib.hid hxok
        clear hx hxok
        have hpl : (packL (l.take j)).length ≤ 262144 * 13 := packL_length (by rw [List.length_take]; omega)
        have hel := encL_len x
        have b1 : (packL (l.take j)).length + (encL x).length ≤ maxLen := by unfold maxLen; omega
        have b2 : ((packL (l.take j)).length + (encL x).length) * 1 ≤ 140737488355328 := by omega
        have FX := Lib.hid (fun w => refFormPk HXO.out w)
        cases hf : formB x
        · have HNo2 := Lib.hid (HNo.out hf)
          rw [hf] at FX
          clear hf
          go_wp2_with fail
          refine (FX.out _).mono ?_
          rintro e w3 ⟨rfl, hb3⟩
          have HB3 := Lib.hid ((HB.out.alloc HB.out.size _).trans (hb3.mono (by simp; have := HB.out.size; omega)))
          clear hb3
          go_wp2_with fail
          go_ret2
          exact ⟨.inr ⟨HNo2.out, rfl⟩, HB3.out⟩
        · have EX := Lib.hid (fun w => refEncPk HXO.out hf w)
          have HN2 := Lib.hid (HN.out hf)
          rw [hf] at FX
          clear hf
          go_wp2_with fail
          refine (FX.out _).mono ?_
          rintro e w3 ⟨rfl, hb3⟩
          have HB3 := Lib.hid ((HB.out.alloc HB.out.size _).trans (hb3.mono (by simp; have := HB.out.size; omega)))
          have ho3 := own_later (HO.out.alloc (.cells #[.int .u8 x.op, .int .u8 x.a, .int .u8 x.b, .int .u8 x.c, .int .i64 x.imm] 26)) hb3
          have HO3 := Lib.hid ho3
          have hk3 : w3.heap[wr.heap.size]? = some (.cells #[.int .u8 x.op, .int .u8 x.a, .int .u8 x.b, .int .u8 x.c, .int .i64 x.imm] 26) := by
            rw [hb3.block _ (by simp), heap_alloc_new]
          have k0 : w3.cell? ⟨wr.heap.size, 0, none⟩ = some (.int .u8 x.op) := by simp [World.cell?, hk3]
          have k1 : w3.cell? ⟨wr.heap.size, 1, none⟩ = some (.int .u8 x.a) := by simp [World.cell?, hk3]
          have k2 : w3.cell? ⟨wr.heap.size, 2, none⟩ = some (.int .u8 x.b) := by simp [World.cell?, hk3]
          have k3 : w3.cell? ⟨wr.heap.size, 3, none⟩ = some (.int .u8 x.c) := by simp [World.cell?, hk3]
          have k4 : w3.cell? ⟨wr.heap.size, 4, none⟩ = some (.int .i64 x.imm) := by simp [World.cell?, hk3]
          clear hb3 ho3 FX hk3
          go_wp2_with fail
          refine (EX.out _).mono ?_
          rintro e w5 ⟨v5, rfl, hr5, hb5⟩
          have HB5 := Lib.hid (HB3.out.trans (hb5.mono HB3.out.size))
          have ho5 := own_later HO3.out hb5
          have HO5 := Lib.hid ho5
          have HR5 := Lib.hid hr5
          have hs5 := HB5.out.size
          clear hb5 ho5 hr5 EX
          go_wp2_with (at_builtin; refine wpList_append_own_rd _ rfl _ _ 22 rfl w.heap.size 5 i0 (.int .u8 0) 1 1 Try.underlying22 hi0 hz0 hz1 hz2 rfl (by decide) _ _ _ rfl HO5.out _ _ _ rfl HR5.out (ints_oneCell .u8 _) b1 b2 hs5 ?_; intro v' w4 hown4 hgrow4)
          exact ⟨⟨j + 1, by omega, by go_num, HN2.out, pk_next hlt HX.out hown4, HB5.out.grown hgrow4 hs5 (fun k hk => (HO5.out.lt k hk).1)⟩, by simp [intOf]; omega⟩
      · obtain rfl : j = l.length := by omega
        simp only [List.take_length] at hall hown ⊢
        have HA := Lib.hid hall
        have HO := Lib.hid hown.rd
        clear hall hown hbel
        go_wp2_with fail
        go_ret2
        exact ⟨.inl ⟨HA.out, _, rfl, HO.out⟩, HB.out⟩
end Go.Proofs.Ytlnaaoigggfefaa
