/- Walks: a number read off the front. -/
import Derived.Test.YtlnaaoigggfefaaP
namespace Go.Proofs.Ytlnaaoigggfefaa
open Go.RowKit

def vB (t : List Int) (j : Nat) : Int := wrap64 (valL (t.take j))

theorem vB0 (t : List Int) : vB t 0 = 0 := by simp [vB, valL, wrap64]
theorem or_step (t : List Int) (j : Nat) (hB : isB t) (hj : j < t.length) (_h8 : j < 8) : bits .or .i64 (vB t j) (wrap64 (t.getD j 0 * 2 ^ (8 * j))) = vB t (j + 1) := by
  have hv := valL_bd (t.take j) (fun x hx => hB x (List.mem_of_mem_take hx))
  have hl : (t.take j).length = j := by rw [List.length_take]; omega
  rw [hl] at hv
  have hx := hB t[j] (List.getElem_mem hj)
  have hg : t.getD j 0 = t[j] := by simp [hj]
  have hs : valL (t.take (j + 1)) = valL (t.take j) + 256 ^ j * t[j] := by
    rw [List.take_succ_eq_append_getElem hj, valL_append, hl]
  unfold vB
  rw [hs, hg]
  generalize valL (t.take j) = v at *
  generalize t[j] = x at *
  show IntKind.i64.wrap ((BitVec.ofInt 64 (wrap64 v) ||| BitVec.ofInt 64 (wrap64 (x * 2 ^ (8 * j)))).toNat : Int) = _
  have hw : ∀ z : Int, BitVec.ofInt 64 (wrap64 z) = BitVec.ofInt 64 z := by
    intro z
    apply BitVec.eq_of_toNat_eq
    simp only [BitVec.toNat_ofInt, wrap64]
    omega
  obtain ⟨V, rfl⟩ := Int.eq_ofNat_of_zero_le hv.1
  obtain ⟨X, rfl⟩ := Int.eq_ofNat_of_zero_le hx.1
  have hV : V < 2 ^ (8 * j) := by
    have : ((256 ^ j : Nat) : Int) = (256 : Int) ^ j := by simp
    rw [Nat.pow_mul]
    have h2 : (2 ^ 8 : Nat) = 256 := by decide
    rw [h2]; omega
  have e1 : ((X : Int) * 2 ^ (8 * j)) = ((2 ^ (8 * j) * X : Nat) : Int) := by simp [Int.mul_comm]
  rw [hw, hw, e1, BitVec.toNat_or]
  have t1 : (BitVec.ofInt 64 (V : Int)).toNat = V % 2 ^ 64 := by simp
  have t2 : (BitVec.ofInt 64 ((2 ^ (8 * j) * X : Nat) : Int)).toNat = (2 ^ (8 * j) * X) % 2 ^ 64 := by
    simp only [BitVec.toNat_ofInt]; generalize 2 ^ (8 * j) * X = Y; omega
  rw [t1, t2, ← Nat.or_mod_two_pow, Nat.or_comm, ← Nat.two_pow_add_eq_or_of_lt hV X, IntKind.wrap_i64]
  have e2 : ((256 : Int) ^ j * (X : Int)) = ((2 ^ (8 * j) * X : Nat) : Int) := by
    rw [Nat.pow_mul]; simp
  rw [e2]
  unfold wrap64
  generalize (2 ^ (8 * j) * X) = Y
  omega

def ReadPost (l : List Int) (s : Bool) (w : World) (e : Ending) (w' : World) : Prop :=
  w = w' ∧ ∃ (v m : Int) (ok : Bool), e = .returned (.tuple #[.int .i64 v, .int .i64 m, .bool ok]) ∧ (∀ x n, readL l s = some (x, n) → v = x ∧ m = n ∧ ok = true) ∧ (readL l s = none → ok = false)

theorem readPost_no {l : List Int} {s : Bool} {w : World} {v m : Int} (h : readL l s = none) : ReadPost l s w (.returned (.tuple #[.int .i64 v, .int .i64 m, .bool false])) w :=
  ⟨rfl, v, m, false, rfl, fun x n hx => (by rw [h] at hx; cases hx), fun _ => rfl⟩

set_option maxHeartbeats 4000000 in
theorem read_any (v : Value) (l : List Int) (s : Bool) (w : World) (hv : RdB w v l) (hB : isB l) : Calls Try.prog 27 #[v, .bool s] w (ReadPost l s w) := by
  rcases hv.split with ⟨a, c, rfl, rfl⟩ | ⟨b, off, c, rfl, hp, hlc, hc9, hb, hcell⟩
  · have HN : Hid (ReadPost [] s w (.returned (.tuple #[.int .i64 0, .int .i64 0, .bool false])) w) := readPost_no rfl
    go_enter Try.func27, Try.ntmps27
    go_wp2
    go_ret3
    exact HN.out
  · obtain ⟨k, t, rfl⟩ : ∃ k t, l = k :: t := by cases l with
      | nil => simp at hp
      | cons k t => exact ⟨k, t, rfl⟩
    have hk := hB k (List.mem_cons_self ..)
    have hBt : isB t := fun x hx => hB x (List.mem_cons_of_mem _ hx)
    have c0 : w.cell? ⟨b, off, none⟩ = some (.int .u8 k) := by simpa using hcell 0 (by simp)
    have c1 : ∀ j, j < t.length → w.cell? ⟨b, off + (1 + j), none⟩ = some (.int .u8 (t.getD j 0)) := fun j hj => by
      have := hcell (1 + j) (by simp; omega); rw [Nat.add_comm 1 j] at this ⊢; simpa using this
    have HC := Lib.hid c1
    obtain ⟨k0, k1⟩ := hk
    obtain ⟨q, rfl⟩ := Int.eq_ofNat_of_zero_le k0
    simp only [List.length_cons] at hp hlc ⊢
    have hlt : t.length + 1 ≤ 9223372036854775807 := by omega
    clear hcell hv hB c1 k0 hp
    have hz : ((t.length : Int) + 1 == 0) = false := by simp; omega
    by_cases h8 : 8 < q
    · have HN : Hid (∀ v m, ReadPost ((q : Int) :: t) s w (.returned (.tuple #[.int .i64 v, .int .i64 m, .bool false])) w) := fun v m => readPost_no (by simp [readL]; intro h; omega)
      go_enter Try.func27, Try.ntmps27
      go_wp2
      go_ret3
      exact HN.out _ _
    · by_cases hq : t.length < q
      · have HN : Hid (∀ v m, ReadPost ((q : Int) :: t) s w (.returned (.tuple #[.int .i64 v, .int .i64 m, .bool false])) w) := fun v m => readPost_no (by simp [readL]; intro h h2; omega)
        go_enter Try.func27, Try.ntmps27
        go_wp2
        go_ret3
        exact HN.out _ _
      · have hor := fun j hj h8 => or_step t j hBt hj h8
        have HOR := Lib.hid hor
        have HBt := Lib.hid hBt
        clear hor hBt
        go_enter Try.func27, Try.ntmps27
        go_wp2_with fail
        go_loop [8, 34] (fun n i => ∃ j : Nat, j ≤ q ∧ i = .int .i64 j ∧ n = .int .i64 (vB t j)) (fun _ i => 9 - (intOf i).toNat)
        case atStart => exact ⟨0, by omega, rfl, by rw [vB0]⟩
        case round =>
          obtain ⟨j, hj, rfl, rfl⟩ := hrel
          by_cases hlj : j < q
          · have ho := HOR.out j (by omega) (by omega)
            have cj := HC.out j (by omega)
            have hx := HBt.out (t.getD j 0) (by have : j < t.length := by omega
                                                simp [this])
            generalize t.getD j 0 = x at *
            obtain ⟨x0, x1⟩ := hx
            go_wp2_with fail
            go_round
            case rel => exact ⟨j + 1, by omega, by go_num, rfl⟩
            case measure => simp [intOf]; omega
          · obtain rfl : j = q := by omega
            have hBj : isB (t.take j) := fun x hx => HBt.out x (List.mem_of_mem_take hx)
            have hlj2 : (t.take j).length = j := by rw [List.length_take]; omega
            obtain ⟨⟨r1, r2⟩, -, -⟩ := readV_facts (t.take j) s hBj (by omega)
            have hrv : readV (t.take j) s = if s && decide (0 < j) then wrap64 (vB t j * 2 ^ (64 - 8 * j)) / 2 ^ (64 - 8 * j) else vB t j := by
              simp only [readV, hlj2, vB]
            have hR : readL ((j : Int) :: t) s = if (j : Int) == 0 || !(fitsL (readV (t.take j) s) (j - 1) s) then some (readV (t.take j) s, 1 + j) else none := by
              simp only [readL, Int.toNat_natCast]
              rw [if_neg (by simp; omega)]
            have HP : Hid (∀ (V : Int) (ok : Bool), V = readV (t.take j) s → ok = ((j : Int) == 0 || !(fitsL (readV (t.take j) s) (j - 1) s)) → ReadPost ((j : Int) :: t) s w (.returned (.tuple #[.int .i64 V, .int .i64 (1 + (j : Int)), .bool ok])) w) := by
              rintro V ok rfl rfl
              refine ⟨rfl, _, _, _, rfl, ?_, ?_⟩
              · intro x n hx
                rw [hR] at hx
                split at hx
                · rename_i h; simp at hx; obtain ⟨rfl, rfl⟩ := hx
                  exact ⟨rfl, by omega, h⟩
                · cases hx
              · intro hx
                rw [hR] at hx
                split at hx
                · cases hx
                · rename_i h; simpa using h
            clear hR hBj hlj2 hlj hj
            by_cases hj0 : j = 0
            · subst hj0
              have HV : Hid (vB t 0 = readV (t.take 0) s) := by show _ = _; rw [hrv]; simp
              clear hrv r1 r2
              cases s
              all_goals
                go_wp2_with fail
                go_ret3
                exact HP.out _ _ HV.out (by simp)
            · have hj0' : ((j : Int) == 0) = false := by simp; omega
              have hj1 : 0 < j := by omega
              cases s
              · have HV : Hid (vB t j = readV (t.take j) false) := by show _ = _; rw [hrv]; simp
                rw [← HV.out] at r1 r2
                have HF : Hid (fitsL (vB t j) (j - 1) false = fitsL (readV (t.take j) false) (j - 1) false) := by show _ = _; rw [HV.out]
                clear hrv hj0
                go_wp2_with fail
                refine (fits_any _ _ _ _ (by omega) (by omega) r1 r2).mono ?_
                rw [show ((j : Int) - 1).toNat = j - 1 by omega, HF.out]
                rintro e w' ⟨rfl, rfl⟩
                go_wp2_with fail
                go_ret3
                exact HP.out _ _ HV.out (by simp [hj0'])
              · have HV : Hid (wrap64 (vB t j * 2 ^ (64 - 8 * j)) / 2 ^ (64 - 8 * j) = readV (t.take j) true) := by show _ = _; rw [hrv]; simp [hj1]
                rw [← HV.out] at r1 r2
                have HF : Hid (fitsL (wrap64 (vB t j * 2 ^ (64 - 8 * j)) / 2 ^ (64 - 8 * j)) (j - 1) true = fitsL (readV (t.take j) true) (j - 1) true) := by show _ = _; rw [HV.out]
                clear hrv hj0
                go_wp2_with fail
                refine (fits_any _ _ _ _ (by omega) (by omega) r1 r2).mono ?_
                rw [show ((j : Int) - 1).toNat = j - 1 by omega, HF.out]
                rintro e w' ⟨rfl, rfl⟩
                go_wp2_with fail
                go_ret3
                exact HP.out _ _ HV.out (by simp [hj0'])

theorem read_none {l : List Int} {s : Bool} (h : readL l s = none) (hB : isB l) (v : Value) (w : World) (hv : RdB w v l) : Calls Try.prog 27 #[v, .bool s] w fun e w' => ∃ a m : Int, e = .returned (.tuple #[.int .i64 a, .int .i64 m, .bool false]) ∧ w = w' :=
  (read_any v l s w hv hB).mono fun e w' ⟨hw, a, m, ok, he, _, h2⟩ => ⟨a, m, by rw [he, h2 h], hw⟩
theorem read_some {l : List Int} {s : Bool} {x : Int} {n : Nat} (h : readL l s = some (x, n)) (hB : isB l) (v : Value) (w : World) (hv : RdB w v l) : Calls Try.prog 27 #[v, .bool s] w fun e w' => e = .returned (.tuple #[.int .i64 x, .int .i64 n, .bool true]) ∧ w = w' :=
  (read_any v l s w hv hB).mono fun e w' ⟨hw, a, m, ok, he, h1, _⟩ => ⟨by obtain ⟨h3, h4, h5⟩ := h1 x n h; rw [he, h3, h4, h5], hw⟩
end Go.Proofs.Ytlnaaoigggfefaa
