/- Vet: all entries. -/
import Derived.Test.YtnanlkoldloolaaDoorEb
import Derived.OwnWalk
namespace Go.Proofs.YtnanlkoldloolaaDoor
open Go.RowKit

def cE : List (Int × Int) → List Value
  | [] => []
  | x :: r => .int .i64 x.1 :: .int .i64 x.2 :: cE r

theorem cE_length : ∀ l, (cE l).length = l.length * 2
  | [] => rfl
  | x :: r => by simp [cE, cE_length r]; omega
theorem cE_at : ∀ (l : List (Int × Int)) (j : Nat) (h : j < l.length), (cE l)[j * 2]? = some (.int .i64 l[j].1) ∧ (cE l)[j * 2 + 1]? = some (.int .i64 l[j].2)
  | x :: r, 0, _ => by simp [cE]
  | x :: r, j + 1, h => by
    have ih := cE_at r j (by simpa using h)
    have e : (j + 1) * 2 = j * 2 + 1 + 1 := by omega
    rw [e]
    simpa [cE] using ih

def RdE (w : World) (v : Value) (l : List (Int × Int)) : Prop := Rd w 2 v l.length (cE l)

theorem RdE.split {w : World} {v : Value} {l : List (Int × Int)} (h : RdE w v l) :
    (∃ a c, v = .slice a 0 c ∧ l = []) ∨ ∃ b off c, v = .slice (some ⟨b, off, none⟩) l.length c ∧ 0 < l.length ∧ l.length ≤ c ∧ c ≤ 9223372036854775807 ∧ b < w.heap.size ∧
      ∀ j, (hj : j < l.length) → w.cell? ⟨b, off + j * 2, none⟩ = some (.int .i64 l[j].1) ∧ w.cell? ⟨b, off + j * 2 + 1, none⟩ = some (.int .i64 l[j].2) := by
  rcases Rd.split h (by omega) with ⟨a, c, rfl, h0, _⟩ | ⟨b, off, c, rfl, h1, h2, h3, h4, h5⟩
  · exact .inl ⟨a, c, rfl, List.eq_nil_of_length_eq_zero h0⟩
  · refine .inr ⟨b, off, c, rfl, h1, h2, h3, h4, fun j hj => ?_⟩
    obtain ⟨e1, e2⟩ := cE_at l j hj
    obtain ⟨i1, e1⟩ := List.getElem?_eq_some_iff.1 e1
    obtain ⟨i2, e2⟩ := List.getElem?_eq_some_iff.1 e2
    refine ⟨?_, ?_⟩
    · rw [h5 _ i1, e1]
    · rw [Nat.add_assoc, h5 _ i2, e2]

def entBad (nw : Nat) (x : Int × Int) : Bool := decide (x.2 < 0) || decide (60000 < x.2) || decide (x.1 < 0) || decide ((nw : Int) ≤ x.1)
def mostE (l : List (Int × Int)) : Int := l.foldl (fun m x => if m < x.2 then x.2 else m) 0
theorem mostE_take {l : List (Int × Int)} {j : Nat} (h : j < l.length) : mostE (l.take (j + 1)) = (if mostE (l.take j) < l[j].2 then l[j].2 else mostE (l.take j)) := by
  unfold mostE
  rw [List.take_succ_eq_append_getElem h, List.foldl_append]
  rfl

def EntriesIs (nw : Nat) (l : List (Int × Int)) (most at' er : Int) : Prop :=
  (∃ j, ∃ h : j < l.length, entBad nw l[j] = true ∧ (∀ i (hi : i < l.length), i < j → entBad nw l[i] = false) ∧ most = 0 ∧ at' = j ∧ er = 17) ∨
  ((∀ x ∈ l, entBad nw x = false) ∧ most = mostE l ∧ at' = 0 ∧ er = 0)

set_option maxHeartbeats 4000000 in
theorem entries_any (ev : Value) (l : List (Int × Int)) (wa : Option Addr) (wn wc : Nat) (m : Int) (da : Option Addr) (dn dc : Nat) (w : World) (hv : RdE w ev l) :
   Calls Tryd.prog 17 #[.agg #[.slice wa wn wc, ev, .int .i64 m, .slice da dn dc]] w fun e w' => (∃ most at' er : Int, EntriesIs wn l most at' er ∧ e = .returned (.tuple #[.int .i64 most, .int .i64 at', .int .i64 er])) ∧ Below w.heap.size w w' := by
  have hl9 : l.length ≤ 9223372036854775807 := Rd.le hv
  rcases hv.split with ⟨a, c, rfl, rfl⟩ | ⟨b, off, c, rfl, hp, hlc, hc9, hb, hcell⟩
  · clear hv
    go_enter Tryd.func17, Tryd.ntmps17
    go_wp2_with fail
    refine wp_loop_rounds 1 ?_
    rw [rounds_succ]
    go_wp2_with fail
    go_ret3
    exact ⟨⟨_, _, _, .inr ⟨fun x hx => (nomatch hx), rfl, rfl, rfl⟩, rfl⟩, (Below.refl _ _).alloc (Nat.le_refl _) _⟩
  have HC := Lib.hid hcell
  clear hcell hv
  go_enter Tryd.func17, Tryd.ntmps17
  go_wp2_with fail
  go_loopw [11, 5] (fun i mo wr => ∃ j : Nat, j ≤ l.length ∧ i = .int .i64 j ∧ mo = .int .i64 (mostE (l.take j)) ∧ (∀ i (hi : i < l.length), i < j → entBad wn l[i] = false) ∧ Below (w.heap.size + 1) (w.alloc (.cells #[.slice wa wn wc, .slice (some ⟨b, off, none⟩) l.length c, .int .i64 m, .slice da dn dc] 26)) wr) (fun i _ _ => l.length - (intOf i).toNat)
  case atStart => exact ⟨0, by omega, rfl, rfl, fun i _ h => absurd h (by omega), Below.refl _ _⟩
  case round =>
    obtain ⟨j, hj, rfl, rfl, hall, hbel⟩ := hrel
    have HA := Lib.hid hall
    have HB := Lib.hid hbel
    have hs1 : w.heap.size + 1 ≤ wr.heap.size := by simpa using hbel.size
    have hs2 : w.heap.size < wr.heap.size := by omega
    have k0 : wr.cell? ⟨w.heap.size, 0, none⟩ = some (.slice wa wn wc) := by rw [hbel.cell (by simp)]; simp
    have hcl : ∀ p : Addr, p.block < w.heap.size → wr.cell? p = w.cell? p := fun p hp => by
      rw [hbel.cell (by omega)]; exact World.cell?_alloc_lt _ _ _ hp
    clear hall hbel
    obtain ⟨mo, hmo⟩ : ∃ mo, mostE (l.take j) = mo := ⟨_, rfl⟩
    have HMO := Lib.hid hmo
    rw [hmo]
    clear hmo
    by_cases hlt : j < l.length
    · obtain ⟨d0, d1⟩ := HC.out j hlt
      rw [← hcl ⟨b, off + j * 2, none⟩ hb] at d0
      rw [← hcl ⟨b, off + j * 2 + 1, none⟩ hb] at d1
      clear hcl
      obtain ⟨x, hx⟩ : ∃ x, l[j] = x := ⟨_, rfl⟩
      have HX := Lib.hid hx
      rw [hx] at d0 d1
      clear hx
      have HM : Hid (mostE (l.take (j + 1)) = if mo < x.2 then x.2 else mo) := by have := mostE_take hlt; rw [HMO.out, HX.out] at this; exact this
      have HB3 : ∀ o, Hid (Below (w.heap.size + 1) (w.alloc (.cells #[.slice wa wn wc, .slice (some ⟨b, off, none⟩) l.length c, .int .i64 m, .slice da dn dc] 26)) (wr.alloc o)) := fun o => HB.out.alloc hs1 _
      go_wp2_with fail
      all_goals first
        | (go_ret3; exact ⟨⟨0, j, 17, .inl ⟨j, hlt, by rw [HX.out]; simp [entBad]; omega, HA.out, rfl, rfl, rfl⟩, rfl⟩, ((Below.refl _ _).alloc (Nat.le_refl _) _).trans ((HB3 _).out.mono (by omega))⟩)
        | (refine ⟨⟨j + 1, by omega, by go_num, by rw [HM.out], fun i hi hij => ?_, (HB3 _).out⟩, by simp [intOf]; omega⟩
           by_cases hij2 : i < j
           · exact HA.out i hi hij2
           · obtain rfl : i = j := by omega
             rw [HX.out]; simp [entBad]; omega)
    · obtain rfl : j = l.length := by omega
      go_wp2_with fail
      go_ret3
      refine ⟨⟨_, _, _, .inr ⟨fun x hx => ?_, ?_, rfl, rfl⟩, rfl⟩, ((Below.refl _ _).alloc (Nat.le_refl _) _).trans (HB.out.mono (by omega))⟩
      · obtain ⟨i, hi, rfl⟩ := List.getElem_of_mem hx
        exact HA.out i hi hi
      · rw [← HMO.out, List.take_length]
end Go.Proofs.YtnanlkoldloolaaDoor
