/- The library's iterator over a slice of calls, from behind. -/
import Derived.RangeFuncNested
import Derived.RangeFuncBound
import Derived.RangeFuncCalls
import Derived.RangeFuncLeaves
import Derived.Shelf.Abstract
import Derived.Shelf.RegionOpen
import Derived.WalkKit
import Derived.OwnWalkIn
import Derived.TacticsInMore
import Derived.LoopNIn
import Derived.LoopIn
import Derived.Test.YteeapfgjjankeaaQ21
import Derived.Lib.Hide
namespace Go.Proofs.Yteeapfgjjankeaa.Mach
open Go Go.Proofs Go.RowKit Go.Shelf
attribute [local go_sem] Oper.semAt_some

/-- What a round must keep: what lay below, and the box of the slice. -/
def KpB (n₀ Bs : Nat) (W W' : World) : Prop := W.heap.size ≤ W'.heap.size ∧ ∀ k, k < W.heap.size → (k < n₀ ∨ k = Bs) → W'.heap[k]? = W.heap[k]?
theorem KpB.refl (n₀ Bs : Nat) (W : World) : KpB n₀ Bs W W := ⟨Nat.le_refl _, fun _ _ _ => rfl⟩
theorem KpB.trans {n₀ Bs : Nat} {A B C : World} (h : KpB n₀ Bs A B) (k : KpB n₀ Bs B C) : KpB n₀ Bs A C := ⟨Nat.le_trans h.1 k.1, fun i hi hb => (k.2 i (Nat.lt_of_lt_of_le hi h.1) hb).trans (h.2 i hi hb)⟩
theorem KpB.cell {n₀ Bs : Nat} {A B : World} (h : KpB n₀ Bs A B) {a : Addr} (ha : a.block < A.heap.size) (hb : a.block < n₀ ∨ a.block = Bs) : B.cell? a = A.cell? a := World.cell?_of_block (h.2 _ ha hb)
/-- The first k from behind. -/
def downs (n k : Nat) : List (Fin n) := ((List.finRange n).reverse).take k
theorem downs_len {n k : Nat} (h : k ≤ n) : (downs n k).length = k := by simp [downs, h]
theorem downs_succ {n k : Nat} (h : k < n) : downs n (k + 1) = downs n k ++ [⟨n - 1 - k, by omega⟩] := by
  unfold downs
  rw [List.take_succ_eq_append_getElem (by simp; exact h)]
  congr 2
  rw [List.getElem_reverse]
  simp
set_option maxRecDepth 100000 in
set_option maxHeartbeats 2000000 in
theorem back1_in (n : Nat) (hn : 1 ≤ n) (l Bs n₀ len cap : Nat) (oa : Option Addr) (blk : Fin len → Nat) (J Jx : List (Fin len) → World → Prop)
    (hY : ∀ pre x W, J pre W → pre.length < len → YieldAt Fence.wide (n - 1) Try.prog l #[.int .i64 (x.1 : Int), .pointer (some ⟨blk x, 0, none⟩)] W fun e W' =>
      (e = .returned (.bool true) ∧ J (pre ++ [x]) W' ∧ KpB n₀ Bs W W') ∨ (e = .returned (.bool false) ∧ Jx (pre ++ [x]) W'))
    (W : World) (hBs : W.cell? ⟨Bs, 0, none⟩ = some (.slice oa len cap)) (hBl : Bs < W.heap.size) (hlen : len ≤ 100) (hc : ∀ j : Fin len, ∃ b, oa = some ⟨b, 0, none⟩ ∧ b < n₀ ∧ b < W.heap.size ∧ W.cell? ⟨b, j.1, none⟩ = some (.pointer (some ⟨blk j, 0, none⟩))) (h0 : J [] W) :
    CallsIn Fence.wide n Try.prog 48 #[.func (.yield l) #[] #[], .pointer (some ⟨Bs, 0, none⟩)] W fun e W' => (∃ v, e = .returned v) ∧
      ((∃ ys, ys = downs len len ∧ J ys W') ∨ (∃ pre, True ∧ Jx pre W')) := by
  refine callsIn_of_wp Try.func48 rfl trivial ?_ rfl
  simp only [Try.ntmps48, List.size_toArray, List.length_cons, List.length_nil, Nat.reduceAdd, Nat.reduceSub, Array.replicate_succ, Array.replicate_zero, List.push_toArray, List.append_toArray, List.nil_append, List.cons_append]
  gi_wp2
  gi_loopw [3] (fun i wr => ∃ k : Nat, k ≤ len ∧ i = .int .i64 ((len : Int) - 1 - k) ∧ J (downs len k) wr ∧ KpB n₀ Bs W wr) (fun i _ => (intOf i + 1).toNat)
  case atStart => exact ⟨0, Nat.zero_le _, by simp, h0, KpB.refl _ _ _⟩
  case round =>
    obtain ⟨k, hk, rfl, hJs, hnx⟩ := hrel
    have hBr : wr.cell? ⟨Bs, 0, none⟩ = some (.slice oa len cap) := (hnx.cell (a := ⟨Bs, 0, none⟩) hBl (.inr rfl)).trans hBs
    by_cases hlt : k < len
    · obtain ⟨j, hj⟩ : ∃ j : Fin len, j = ⟨len - 1 - k, by omega⟩ := ⟨_, rfl⟩
      obtain ⟨b, rfl, hb1, hb2, hcj⟩ := hc j
      have hcr : wr.cell? ⟨b, j.1, none⟩ = some (.pointer (some ⟨blk j, 0, none⟩)) := (hnx.cell (a := ⟨b, j.1, none⟩) hb2 (.inl hb1)).trans hcj
      obtain ⟨fn, tmps, assign, body, hy, hR⟩ := hY _ j wr hJs (by rw [downs_len hk]; exact hlt)
      have hjv : (len : Int) - 1 - k = (j.1 : Nat) := by rw [hj]; show (len : Int) - 1 - k = ((len - 1 - k : Nat) : Int); omega
      have hj0 : j.1 < len := j.2
      rw [hjv]
      obtain ⟨q, hq⟩ : ∃ q, q = j.1 := ⟨_, rfl⟩
      rw [← hq] at hcr hy hjv hj0 ⊢
      have hds := downs_succ hlt
      rw [← hj] at hds
      have HH := Lib.hid hj
      have HV := Lib.hid hjv
      have HQ := Lib.hid hq
      clear hj hjv hc hcj hq
      gi_wp2
      refine hR.mono ?_
      rintro e W3 (⟨rfl, hJ3, hk3⟩ | ⟨rfl, hJx3⟩)
      · gi_wp2
        go_roundw
        case rel => exact ⟨k + 1, by omega, by have := HV.out; congr 1 <;> omega, by rw [hds]; exact hJ3, hnx.trans hk3⟩
        case measure => simp [intOf] <;> omega
      · gi_wp2
        refine bodyPost_ret (results_none rfl _ _ _) rfl ?_
        exact ⟨⟨_, rfl⟩, .inr ⟨_, trivial, hJx3⟩⟩
    · obtain rfl : k = len := by omega
      have e1 : (k : Int) - 1 - k = -1 := by omega
      rw [e1]
      gi_wp2
      go_end0
      exact ⟨⟨_, rfl⟩, .inl ⟨_, rfl, hJs⟩⟩
end Go.Proofs.Yteeapfgjjankeaa.Mach
