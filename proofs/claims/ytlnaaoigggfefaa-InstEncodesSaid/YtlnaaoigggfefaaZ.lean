/- The two readers of an instruction, told by the plain law's one answer. -/
import Derived.Test.YtlnaaoigggfefaaY
import Derived.Test.YtlnaaoigggfefaaV
namespace Go.Proofs.Ytlnaaoigggfefaa
open Go.RowKit

theorem decode_none {l : List Int} (h : decS l = none) (hB : isB l) (v : Value) (w : World) (hv : RdB w v l) : Calls Try.prog 10 #[v] w fun e w' => e = .returned (.tuple #[.agg #[.int .u8 0, .int .u8 0, .int .u8 0, .int .u8 0, .int .i64 0], .int .i64 0, .int .i64 3]) ∧ Below w.heap.size w w' :=
  (decode_any v l w hv hB).mono fun e w' ⟨hb, op, a, b, c, imm, n, err, he, _, h2⟩ => by
    obtain ⟨rfl, rfl, rfl, rfl, rfl, rfl, rfl⟩ := h2 h
    exact ⟨he, hb⟩
theorem decode_some {l : List Int} {op a b c imm : Int} {k : Nat} (h : decS l = some (⟨op, a, b, c, imm⟩, k)) (hB : isB l) (v : Value) (w : World) (hv : RdB w v l) : Calls Try.prog 10 #[v] w fun e w' => e = .returned (.tuple #[.agg #[.int .u8 op, .int .u8 a, .int .u8 b, .int .u8 c, .int .i64 imm], .int .i64 k, .int .i64 0]) ∧ Below w.heap.size w w' :=
  (decode_any v l w hv hB).mono fun e w' ⟨hb, op', a', b', c', imm', n, err, he, h1, _⟩ => by
    obtain ⟨hx, rfl, rfl⟩ := h1 _ _ h
    simp only [W.mk.injEq] at hx
    obtain ⟨rfl, rfl, rfl, rfl, rfl⟩ := hx
    exact ⟨he, hb⟩
theorem rdecode_none {l : List Int} (h : decS l = none) (hB : isB l) (v : Value) (w : World) (hv : RdB w v l) : Calls Try.prog 11 #[v] w fun e w' => e = .returned (.tuple #[.agg #[.int .u8 0, .int .u8 0, .int .u8 0, .int .u8 0, .int .i64 0], .int .i64 0]) ∧ Below w.heap.size w w' :=
  (rdecode_any v l w hv hB).mono fun e w' ⟨hb, op, a, b, c, imm, n, he, _, h2⟩ => by
    obtain ⟨rfl, rfl, rfl, rfl, rfl, rfl⟩ := h2 h
    exact ⟨he, hb⟩
theorem rdecode_some {l : List Int} {op a b c imm : Int} {k : Nat} (h : decS l = some (⟨op, a, b, c, imm⟩, k)) (hB : isB l) (v : Value) (w : World) (hv : RdB w v l) : Calls Try.prog 11 #[v] w fun e w' => e = .returned (.tuple #[.agg #[.int .u8 op, .int .u8 a, .int .u8 b, .int .u8 c, .int .i64 imm], .int .i64 k]) ∧ Below w.heap.size w w' :=
  (rdecode_any v l w hv hB).mono fun e w' ⟨hb, op', a', b', c', imm', n, he, h1, _⟩ => by
    obtain ⟨hx, rfl⟩ := h1 _ _ h
    simp only [W.mk.injEq] at hx
    obtain ⟨rfl, rfl, rfl, rfl, rfl⟩ := hx
    exact ⟨he, hb⟩

set_option maxHeartbeats 4000000 in
theorem instDecodes_walk (v : Value) (l : List Int) (w : World) (hv : RdB w v l) (hB : isB l) (hlen : l.length ≤ 140737488351232) :
    Calls Try.prog 3 #[v] w fun e w' => e = .returned (.bool true) ∧ Below w.heap.size w w' := by
  obtain ⟨a, c, rfl⟩ := Rd.shape hv
  have HV := Lib.hid hv
  have HB := Lib.hid hB
  clear hv hB
  go_enter Try.func3, Try.ntmps3
  go_wp2_with fail
  refine (awake_any _).mono ?_
  rintro e w1 ⟨rfl, hb1⟩
  have HV1 : Hid (RdB w1 _ l) := HV.out.later hb1
  have HB1 := Lib.hid hb1
  clear hb1
  go_wp2_with fail
  refine (spare_any _ l _ HV1.out (by omega)).mono ?_
  rintro e w2 ⟨u, rfl, hs2, hb2⟩
  have HV2 : Hid (RdB w2 _ l) := HV1.out.later hb2
  have HB2 := Lib.hid (below_to HB1.out hb2)
  have HS2 := Lib.hid hs2
  clear hb2 hs2 HV1 HB1
  cases hd : decS l with
  | none =>
    have HD := Lib.hid (fun v w h => decode_none hd HB.out v w h)
    have HR := Lib.hid (fun v w h => rdecode_none hd HB.out v w h)
    clear hd
    go_wp2_with fail
    refine (HD.out _ _ HS2.out.rd).mono ?_
    rintro e w3 ⟨rfl, hb3⟩
    have HV3 : Hid (RdB w3 _ l) := HV2.out.later hb3
    have HB3 := Lib.hid (below_to HB2.out hb3)
    have HS3 := Lib.hid (HS2.out.later hb3)
    clear hb3 HV2 HB2 HS2 HD
    go_wp2_with fail
    refine (HR.out _ _ (HV3.out.alloc _)).mono ?_
    rintro e w4 ⟨rfl, hb4⟩
    have hb4' := below_to ((Below.refl w3.heap.size w3).alloc (Nat.le_refl _) _) hb4
    have HV4 : Hid (RdB w4 _ l) := HV3.out.later hb4'
    have HB4 := Lib.hid (below_to HB3.out hb4')
    have HS4 := Lib.hid (HS3.out.later hb4')
    obtain ⟨hc4, hf4⟩ := bcell hb4
    have zw4 : w3.heap.size < w4.heap.size := by have := hb4.size; simp at this; omega
    clear hb4 hb4' HV3 HB3 HS3 HR
    go_wp2_with fail
    refine (kept_any _ _ l _ (HS4.out.later ((Below.refl _ _).alloc (Nat.le_refl _) _)) (HV4.out.alloc _) HB.out).mono ?_
    rintro e w5 ⟨rfl, rfl⟩
    go_wp2_with fail
    go_ret
    exact ⟨rfl, below_to HB4.out ((Below.refl _ _).alloc (Nat.le_refl _) _)⟩
  | some y =>
    obtain ⟨⟨op, x, b, d, imm⟩, k⟩ := y
    have hk : 0 < k := by have := decS_some HB.out hd; omega
    have hk' : (0 : Int) < (k : Int) := by omega
    have HD := Lib.hid (fun v w h => decode_some hd HB.out v w h)
    have HR := Lib.hid (fun v w h => rdecode_some hd HB.out v w h)
    clear hd
    go_wp2_with fail
    refine (HD.out _ _ HS2.out.rd).mono ?_
    rintro e w3 ⟨rfl, hb3⟩
    have HV3 : Hid (RdB w3 _ l) := HV2.out.later hb3
    have HB3 := Lib.hid (below_to HB2.out hb3)
    have HS3 := Lib.hid (HS2.out.later hb3)
    clear hb3 HV2 HB2 HS2 HD
    go_wp2_with fail
    refine (HR.out _ _ (HV3.out.alloc _)).mono ?_
    rintro e w4 ⟨rfl, hb4⟩
    have hb4' := below_to ((Below.refl w3.heap.size w3).alloc (Nat.le_refl _) _) hb4
    have HV4 : Hid (RdB w4 _ l) := HV3.out.later hb4'
    have HB4 := Lib.hid (below_to HB3.out hb4')
    have HS4 := Lib.hid (HS3.out.later hb4')
    obtain ⟨hc4, hf4⟩ := bcell hb4
    have zw4 : w3.heap.size < w4.heap.size := by have := hb4.size; simp at this; omega
    clear hb4 hb4' HV3 HB3 HS3 HR
    go_wp2_with fail
    refine (kept_any _ _ l _ (HS4.out.later ((Below.refl _ _).alloc (Nat.le_refl _) _)) (HV4.out.alloc _) HB.out).mono ?_
    rintro e w5 ⟨rfl, rfl⟩
    go_wp2_with fail
    go_ret
    exact ⟨rfl, below_to HB4.out ((Below.refl _ _).alloc (Nat.le_refl _) _)⟩
end Go.Proofs.Ytlnaaoigggfefaa
