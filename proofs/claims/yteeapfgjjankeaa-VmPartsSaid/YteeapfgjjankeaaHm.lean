/- The program's value of an operation (package source): what it computes. -/
import Derived.Test.YteeapfgjjankeaaU
import Derived.Test.YteeapfgjjankeaaYx
import Derived.Test.YteeapfgjjankeaaProg
import Derived.ProofKit
import Derived.KernelRfl
import Derived.Below
namespace Go.Proofs.Yteeapfgjjankeaa.Mach
open Go.RowKit

theorem bits_not (a : Int) : bits .xor .i64 (-1) a = wrap64 (-1 - a) := by
  have e1 : BitVec.ofInt 64 (-1) = BitVec.allOnes 64 := by decide
  have e2 : (BitVec.ofInt 64 (-1) ^^^ BitVec.ofInt 64 a).toNat = 18446744073709551615 - (a % 18446744073709551616).toNat := by
    rw [e1, BitVec.allOnes_xor, BitVec.toNat_not, BitVec.toNat_ofInt]; rfl
  show IntKind.i64.wrap (((BitVec.ofInt 64 (-1) ^^^ BitVec.ofInt 64 a).toNat : Nat) : Int) = _
  rw [e2, IntKind.wrap_i64]
  unfold wrap64
  omega
theorem truth_any (b : Bool) (w : World) : Calls Try.prog 62 #[.bool b] w fun e w' => e = .returned (.int .i64 (b01 b)) ∧ w' = w := by
  cases b
  · go_enter Try.func62, Try.ntmps62
    go_wp2
    go_ret
    exact ⟨rfl, rfl⟩
  · go_enter Try.func62, Try.ntmps62
    go_wp2
    go_ret
    exact ⟨rfl, rfl⟩
set_option maxHeartbeats 1000000 in
theorem divide_any (op a b : Int) (hop : op = 4 ∨ op = 5) (ha : -9223372036854775808 ≤ a ∧ a ≤ 9223372036854775807) (w : World) :
   Calls Try.prog 61 #[.int .u8 op, .int .i64 a, .int .i64 b] w fun e w' => e = .returned (.tuple #[.int .i64 (valF op a b).1, .int .u8 (valF op a b).2]) ∧ w' = w := by
  have HA := Lib.hid ha
  clear ha
  rcases hop with rfl | rfl
  all_goals
    go_enter Try.func61, Try.ntmps61
    go_wp2
  all_goals first | (exfalso; simp_all; done) | refine bodyPost_ret (v := .tuple #[.int .i64 (valF 4 a b).1, .int .u8 (valF 4 a b).2]) ?_ rfl ⟨rfl, rfl⟩ | refine bodyPost_ret (v := .tuple #[.int .i64 (valF 5 a b).1, .int .u8 (valF 5 a b).2]) ?_ rfl ⟨rfl, rfl⟩
  all_goals go_light
  all_goals try (simp [results, Try.results61, go_sem, valF, *]; done)
  all_goals
    have ht := tmod_eq a b HA.out (by intro hb; simp_all)
    simp [results, Try.results61, go_sem, valF, *]
set_option maxHeartbeats 2000000 in
theorem mvalue_any (op a b : Int) (ha : -9223372036854775808 ≤ a ∧ a ≤ 9223372036854775807) (w : World) :
   Calls Try.prog 56 #[.int .u8 op, .int .i64 a, .int .i64 b] w fun e w' => e = .returned (.tuple #[.int .i64 (valF op a b).1, .int .u8 (valF op a b).2]) ∧ w' = w := by
  have HA := Lib.hid ha
  have HD4 := Lib.hid (divide_any 4 a b (.inl rfl) ha w)
  have HD5 := Lib.hid (divide_any 5 a b (.inr rfl) ha w)
  clear ha
  have hsh : (IntKind.u64.wrap b).tmod 64 = ((b % 64).toNat : Int) := by rw [IntKind.wrap_u64, tmod_of_emod]; omega
  obtain ⟨m, hm⟩ : ∃ m, m = (b % 64).toNat := ⟨_, rfl⟩
  have hm64 : m < 64 := by omega
  rw [← hm] at hsh
  have hshl : ∀ w, Sem.run Try.prog (Op.shift .shl .i64 a .u64 (m : Int)) w = .ok (.int .i64 (wrap64 (a * 2 ^ m))) w := fun w => by
    rw [shift_shl .i64 .u64 a m (by omega) (by show (m : Int) ≤ 64; omega), IntKind.wrap_i64]; simp [wrap64]
  have hshr : ∀ w, Sem.run Try.prog (Op.shift .shr .i64 a .u64 (m : Int)) w = .ok (.int .i64 (a / 2 ^ m)) w := fun w => by
    rw [shift_shr .i64 .u64 a m (by omega) (by show (m : Int) ≤ 64; omega)]; simp
  have HM := Lib.hid hm
  clear hm
  by_cases hk : (1 ≤ op ∧ op ≤ 16) ∨ op = 19 ∨ op = 20 ∨ op = 21
  · have hops : op = 1 ∨ op = 2 ∨ op = 3 ∨ op = 4 ∨ op = 5 ∨ op = 6 ∨ op = 7 ∨ op = 8 ∨ op = 9 ∨ op = 10 ∨ op = 11 ∨ op = 12 ∨ op = 13 ∨ op = 14 ∨ op = 15 ∨ op = 16 ∨ op = 19 ∨ op = 20 ∨ op = 21 := by omega
    clear hk
    rcases hops with rfl | rfl | rfl | rfl | rfl | rfl | rfl | rfl | rfl | rfl | rfl | rfl | rfl | rfl | rfl | rfl | rfl | rfl | rfl
    all_goals
      go_enter Try.func56, Try.ntmps56
      go_wp2_with (first | (go_at_call 62; refine (truth_any _ _).mono ?_; rintro e w' ⟨rfl, hw⟩; have hw := hw.symm; subst hw) | (go_at_call 61; first | (with_reducible refine HD4.out.mono ?_; rintro e w' ⟨rfl, hw⟩; have hw := hw.symm; subst hw) | (with_reducible refine HD5.out.mono ?_; rintro e w' ⟨rfl, hw⟩; have hw := hw.symm; subst hw)))
      refine bodyPost_ret (v := .tuple #[.int .i64 _, .int .u8 _]) ?_ rfl ⟨rfl, rfl⟩
      go_light
      simp [results, Try.results56, go_sem, valF, bits_not, ← HM.out]
  · have e : ∀ k : Int, (1 ≤ k ∧ k ≤ 16) ∨ k = 19 ∨ k = 20 ∨ k = 21 → (op == k) = false := fun k h => by
      rw [beq_eq_false_iff_ne]; intro h2; exact hk (by rw [h2]; exact h)
    have hv : valF op a b = (0, 8) := by
      unfold valF
      simp only [e 1 (by omega), e 2 (by omega), e 3 (by omega), e 4 (by omega), e 5 (by omega), e 6 (by omega), e 7 (by omega), e 8 (by omega), e 9 (by omega), e 10 (by omega), e 11 (by omega), e 12 (by omega), e 13 (by omega), e 14 (by omega), e 15 (by omega), e 16 (by omega), e 19 (by omega), e 20 (by omega), e 21 (by omega), Bool.false_eq_true, if_false]
    rw [hv]
    have e1 := e 1 (by omega)
    have e2 := e 2 (by omega)
    have e3 := e 3 (by omega)
    have e4 := e 4 (by omega)
    have e5 := e 5 (by omega)
    have e6 := e 6 (by omega)
    have e7 := e 7 (by omega)
    have e8 := e 8 (by omega)
    have e9 := e 9 (by omega)
    have e10 := e 10 (by omega)
    have e11 := e 11 (by omega)
    have e12 := e 12 (by omega)
    have e13 := e 13 (by omega)
    have e14 := e 14 (by omega)
    have e15 := e 15 (by omega)
    have e16 := e 16 (by omega)
    have e19 := e 19 (by omega)
    have e20 := e 20 (by omega)
    have e21 := e 21 (by omega)
    clear e hv hk
    go_enter Try.func56, Try.ntmps56
    go_wp2_with fail
    go_ret2
    exact ⟨rfl, rfl⟩
end Go.Proofs.Yteeapfgjjankeaa.Mach
