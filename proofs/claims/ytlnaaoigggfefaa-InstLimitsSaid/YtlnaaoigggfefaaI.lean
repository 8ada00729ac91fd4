/- Walks of the reference of instructions: a number's bytes. -/
import Derived.Test.YtlnaaoigggfefaaH
namespace Go.Proofs.Ytlnaaoigggfefaa
open Go.RowKit

theorem and255 (n : Int) : bits .and .i64 n 255 = n % 256 := by
  show IntKind.i64.wrap ((BitVec.ofInt 64 n &&& BitVec.ofInt 64 255).toNat : Int) = _
  have h2 : (BitVec.ofInt 64 255).toNat = 2 ^ 8 - 1 := by decide
  rw [BitVec.toNat_and, h2, Nat.and_two_pow_sub_one_eq_mod]
  have h3 : (BitVec.ofInt 64 n).toNat = (n % 18446744073709551616).toNat := by simp [BitVec.toNat_ofInt]
  rw [h3, IntKind.wrap_i64]
  omega
theorem tdiv_low (n : Int) : (n - n % 256).tdiv 256 = n / 256 := by
  have e : n - n % 256 = 256 * (n / 256) := by omega
  rw [e, Int.mul_tdiv_cancel_left _ (by decide)]
theorem ret_i2 {k k' : IntKind} {a b c d : Int} (h : a = c) (h' : b = d) : Ending.returned (.tuple #[.int k a, .int k' b]) = .returned (.tuple #[.int k c, .int k' d]) := by rw [h, h']

set_option maxHeartbeats 1000000 in
theorem low_any (n : Int) (w : World) (hn1 : -9223372036854775808 ≤ n) (hn2 : n ≤ 9223372036854775807) :
   Calls Try.prog 32 #[.int .i64 n] w fun e w' => e = .returned (.tuple #[.int .u8 (n % 256), .int .i64 (n / 256)]) ∧ w = w' := by
  have ha := and255 n
  go_enter Try.func32, Try.ntmps32
  go_wp2
  go_ret2
  exact ⟨ret_i2 rfl (tdiv_low n), rfl⟩

def lenOfV : Value → Nat | .slice _ n _ => n | _ => 0
theorem ownB_shape {w : World} {base : Nat} {v : Value} {l : List Int} (h : ownB w base v l) : ∃ a c, v = .slice a l.length c := (Rd.of_own h).shape
theorem ownB.rd {w : World} {base : Nat} {v : Value} {l : List Int} (h : ownB w base v l) : RdB w v l := Rd.of_own h

theorem goes_yes {m y : Int} {j : Nat} {s : Bool} (h : goes m j y s = !false) :
    (¬ m = 0 ∧ ¬ m = -1 ∧ (m == 0) = false ∧ (m == -1) = false) ∨ (m = -1 ∧ j = 0) ∨
    (m = -1 ∧ 0 < j ∧ ((j : Int) == 0) = false ∧ y < 128) ∨ (m = 0 ∧ s = true ∧ 0 < j ∧ 127 < y) := by
  simp [goes] at h
  by_cases h0 : m = 0
  · subst h0; simp at h; simp [h]; omega
  · by_cases h1 : m = -1
    · subst h1; simp at h; by_cases hj : j = 0 <;> simp_all; omega
    · exact .inl ⟨h0, h1, by simpa using h0, by simpa using h1⟩
theorem goes_no {m y : Int} {j : Nat} {s : Bool} (h : goes m j y s = !true) :
    (m = -1 ∧ 0 < j ∧ ((j : Int) == 0) = false ∧ 128 ≤ y) ∨ (m = 0 ∧ s = false) ∨
    (m = 0 ∧ s = true ∧ j = 0) ∨ (m = 0 ∧ s = true ∧ 0 < j ∧ y ≤ 127) := by
  simp [goes] at h
  by_cases h0 : m = 0
  · subst h0; cases s <;> simp at h <;> simp; by_cases hj : j = 0
    · exact .inl hj
    · exact .inr ⟨by omega, h hj⟩
  · by_cases h1 : m = -1
    · subst h1; simp at h; simp; omega
    · exact absurd (h.1.1 h0) h1
theorem pow_bd (n : Int) (j : Nat) (hn1 : -9223372036854775808 ≤ n) (hn2 : n ≤ 9223372036854775807) : -9223372036854775808 ≤ n / 256 ^ j ∧ n / 256 ^ j ≤ 9223372036854775807 := by
  have hp : (0 : Int) < 256 ^ j := Int.pow_pos (by decide)
  have h1 : (1 : Int) ≤ 256 ^ j := hp
  constructor
  · rw [Int.le_ediv_iff_mul_le hp]; have := Int.mul_le_mul_of_nonneg_left h1 (show (0 : Int) ≤ 9223372036854775808 by decide); omega
  · have : n / 256 ^ j < 9223372036854775808 := by
      rw [Int.ediv_lt_iff_lt_mul hp]; have := Int.mul_le_mul_of_nonneg_left h1 (show (0 : Int) ≤ 9223372036854775808 by decide); omega
    omega

theorem refn_next {n m : Int} {j : Nat} {s : Bool} {a : Option Addr} {c : Nat} {w wr w1 : World} {v' : Value} {o : Obj} {N : Nat} {xs : List Value} (HM : Hid (m = n / 256 ^ j)) (HNB : Hid (j < nbL n s)) (HB : Hid (Below w.heap.size w wr))
    (HO : Hid (ownB wr w.heap.size (.slice a j c) (bytesL n j))) (h1 : w1.ownsRow w.heap.size 5 1 v' N xs) (hg : (wr.alloc o).grownBy w1 (Value.ownBlock (.slice a j c)))
    (hN : N = (bytesL n j).length + 1 := by rfl) (hx : xs = (bytesL n j).map (Value.int .u8) ++ [.int .u8 (m % 256)] := by rfl) :
    (∃ (j' : Nat) (m' y' : Int) (a' : Option Addr) (c' : Nat), j' ≤ nbL n s ∧ m' = n / 256 ^ j' ∧ (j' = 0 ∧ y' = 0 ∨ 1 ≤ j' ∧ y' = n / 256 ^ (j' - 1) % 256) ∧ Value.int .i64 (m / 256) = .int .i64 m' ∧ Value.int .u8 (m % 256) = .int .u8 y' ∧ v' = .slice a' j' c' ∧ ownB w1 w.heap.size v' (bytesL n j') ∧ Below w.heap.size w w1) ∧
    9 - lenOfV v' < 9 - lenOfV (.slice a j c) := by
  have hm := HM.out
  have hl := HNB.out
  have h8 := nbL_le n s
  have hown : ownB w1 w.heap.size v' (bytesL n (j + 1)) := by
    subst hN hx
    rw [bytesL_succ, ← hm]
    exact ownB_grow h1 (by simp)
  obtain ⟨a', c', hv⟩ := ownB_shape hown
  rw [bytesL_length] at hv
  refine ⟨⟨j + 1, m / 256, m % 256, a', c', by omega, ?_, .inr ⟨by omega, by simp [← hm]⟩, rfl, rfl, hv, hown, ?_⟩, ?_⟩
  · rw [hm, Int.pow_succ, Int.ediv_ediv_of_nonneg (Int.le_of_lt (Int.pow_pos (by decide)))]
  · exact (HB.out.alloc HB.out.size _).grown hg (by have := HB.out.size; simp; omega) (fun k hk => (HO.out.lt k hk).1)
  · rw [hv]; simp [lenOfV]; omega
theorem own_one (w : World) (base : Nat) (x : Value) (hb : base ≤ w.heap.size) :
    (w.alloc (.cells #[x] 5)).ownsRow base 5 1 (.slice (some ⟨w.heap.size, 0, none⟩) 1 1) 1 [x] :=
  World.ownsRow_lit (e := 5) (size := 1) w #[x] 1 hb (by unfold maxLen; omega) (by simp)
theorem refn_end {n : Int} {j : Nat} {s : Bool} {w wr w1 : World} {v' : Value} {o : Obj} {N : Nat} {xs : List Value} (HE : Hid (j = nbL n s)) (HB : Hid (Below w.heap.size w wr))
    (h1 : w1.ownsRow w.heap.size 5 1 v' N xs) (hg : (wr.alloc o).grownBy w1 (some wr.heap.size))
    (hN : N = 1 + (bytesL n j).length := by rfl) (hx : xs = [.int .u8 (j : Int)] ++ (bytesL n j).map (Value.int .u8) := by rfl) :
    ∃ v, Ending.returned v' = .returned v ∧ ownB w1 w.heap.size v (numL n s) ∧ Below w.heap.size w w1 := by
  refine ⟨v', rfl, ?_, ?_⟩
  · subst hN hx
    have e := HE.out
    rw [numL, ← e]
    have := ownB_grow (l := [(j : Int)]) (x := bytesL n j) h1 (by simp)
    exact this
  · have hs := HB.out.size
    exact (HB.out.alloc hs _).grown hg (by simp; omega) (fun k hk => by cases hk; exact hs)

set_option maxHeartbeats 2000000 in
theorem refNumber_any (n : Int) (s : Bool) (w : World) (hn1 : -9223372036854775808 ≤ n) (hn2 : n ≤ 9223372036854775807) (hs : s = false → 0 ≤ n) :
   Calls Try.prog 30 #[.int .i64 n, .bool s] w fun e w' => ∃ v, e = .returned v ∧ ownB w' w.heap.size v (numL n s) ∧ Below w.heap.size w w' := by
  obtain ⟨i0, hi, hz0, hz1, hz2⟩ := info_parts infoB
  have HI : Hid _ := And.intro hi (And.intro hz0 (And.intro hz1 hz2))
  have hg := fun j hj last hl => goes_is n j s hj hn1 hn2 hs last hl
  have HG := Lib.hid hg
  have HS := Lib.hid hs
  clear hi hz0 hz1 hz2 hg hs
  go_enter Try.func30, Try.ntmps30
  go_wp2_with fail
  go_loopw [0, 5, 6] (fun q v x wr => ∃ (j : Nat) (m y : Int) (a : Option Addr) (c : Nat), j ≤ nbL n s ∧ m = n / 256 ^ j ∧ (j = 0 ∧ y = 0 ∨ 1 ≤ j ∧ y = n / 256 ^ (j - 1) % 256) ∧ q = .int .i64 m ∧ x = .int .u8 y ∧ v = .slice a j c ∧ ownB wr w.heap.size v (bytesL n j) ∧ Below w.heap.size w wr) (fun _ v _ _ => 9 - (lenOfV v))
  case atStart => exact ⟨0, n, 0, none, 0, by omega, by simp, .inl ⟨rfl, rfl⟩, rfl, rfl, rfl, by simpa [ownB, bytesL] using World.ownsRow_nil _ _ _ _, Below.refl _ _⟩
  case round =>
    obtain ⟨j, m, y, a, c, hj, hm, hy, rfl, rfl, rfl, hown, hbel⟩ := hrel
    have h8 := nbL_le n s
    have hgo := HG.out j (by omega) y hy
    rw [← hm] at hgo
    have hm1 : -9223372036854775808 ≤ m ∧ m ≤ 9223372036854775807 := by rw [hm]; exact pow_bd n j hn1 hn2
    obtain ⟨hm1, hm2⟩ := hm1
    have hyb : 0 ≤ y ∧ y ≤ 255 := by
      rcases hy with ⟨_, rfl⟩ | ⟨_, rfl⟩
      · omega
      · exact byte_bd _ _
    obtain ⟨hy1, hy2⟩ := hyb
    have hsz := hbel.size
    have hln := bytesL_length n j
    have HM := Lib.hid hm
    have HY := Lib.hid hy
    have HO := Lib.hid hown
    have HB := Lib.hid hbel
    have HL := Lib.hid hln
    clear hm hy hown hbel hln
    by_cases hlt : j < nbL n s
    · rw [nbL_not n s j hlt] at hgo
      have hcase := goes_yes hgo
      have HNB := Lib.hid hlt
      have hj9 : j < 9 := by omega
      clear hgo hlt hj h8
      rcases hcase with ⟨c1, c2, c3, c4⟩ | ⟨rfl, rfl⟩ | ⟨rfl, c2, c3, c4⟩ | ⟨rfl, rfl, c4, c5⟩
      all_goals
        go_wp2_with (first | (go_at_call 32; refine (low_any _ _ (by omega) (by omega)).mono ?_; rintro e w' ⟨rfl, rfl⟩) | (at_builtin; refine wpList_append_own _ rfl _ _ 22 rfl w.heap.size 5 i0 (.int .u8 0) 1 1 Try.underlying22 HI.out.1 HI.out.2.1 HI.out.2.2.1 HI.out.2.2.2 rfl (by decide) _ _ _ rfl (HO.out.alloc _) ⟨wr.heap.size, 0, none⟩ 1 1 [.int .u8 _] rfl rfl (cell_one_new _ _ _) (ints_oneCell .u8 [_]) (by rw [HL.out]; unfold maxLen; omega) (by rw [HL.out]; omega) (by simp; omega) ?_; intro v' w1 hown1 hgrow1 _))
        exact refn_next HM HNB HB HO hown1 hgrow1
    · have e : j = nbL n s := by omega
      rw [e, nbL_fits n s, ← e] at hgo
      have hcase := goes_no hgo
      have b1 : 1 + (bytesL n j).length ≤ maxLen := by rw [HL.out]; unfold maxLen; omega
      have b2 : (1 + (bytesL n j).length) * 1 ≤ 140737488355328 := by rw [HL.out]; omega
      have HE := Lib.hid e
      clear hgo hlt e
      have hj9 : j < 9 := by omega
      clear h8 hj
      rcases hcase with ⟨rfl, c2, c3, c4⟩ | ⟨rfl, rfl⟩ | ⟨rfl, rfl, rfl⟩ | ⟨rfl, rfl, c4, c5⟩
      all_goals
        go_wp2_with (at_builtin; refine wpList_append_own_rd _ rfl _ _ 22 rfl w.heap.size 5 i0 (.int .u8 0) 1 1 Try.underlying22 HI.out.1 HI.out.2.1 HI.out.2.2.1 HI.out.2.2.2 rfl (by decide) _ _ _ rfl (own_one wr w.heap.size _ hsz) _ _ _ rfl (HO.out.rd.alloc _) (ints_oneCell .u8 _) b1 b2 (Nat.le_trans hsz (by simp)) ?_; intro v' w1 hown1 hgrow1)
        go_ret
        exact refn_end HE HB hown1 hgrow1
end Go.Proofs.Ytlnaaoigggfefaa
