/- The plain arithmetic of instructions as bytes: how many bytes a number takes, its bytes, and reading them back. No program in sight. -/
import Derived.RowKit
import Derived.Laws.Bits64
import Derived.Laws.BitsAllLaws
namespace Go.Proofs.Yteeapfgjjankeaa
open Go.RowKit

def minI : Int := -9223372036854775808
def maxI : Int := 9223372036854775807

/-- What an operation names: registers, a number or none, its least and most; and whether there is such an operation. -/
def shp (n : Int) : Int × Bool × Int × Int × Bool :=
  if n == 19 || n == 20 || n == 21 || n == 31 || n == 36 then (2, false, 0, 0, true)
  else if n == 30 then (1, true, minI, maxI, true)
  else if n == 32 || n == 33 then (1, true, 0, 59999, true)
  else if n == 34 || n == 35 then (3, false, 0, 0, true)
  else if n == 37 then (1, true, 1, 256, true)
  else if n == 38 || n == 39 || n == 40 || n == 42 || n == 43 || n == 47 then (1, false, 0, 0, true)
  else if n == 41 || n == 46 then (1, true, 0, maxI, true)
  else if n == 44 || n == 45 then (0, true, 0, maxI, true)
  else if n == 48 then (1, true, 0, 5, true)
  else if decide (1 ≤ n) && decide (n ≤ 16) then (3, false, 0, 0, true)
  else (0, false, 0, 0, false)

structure W where
  op : Int
  a : Int
  b : Int
  c : Int
  imm : Int
deriving DecidableEq

def W.ok (x : W) : Prop := (0 ≤ x.op ∧ x.op ≤ 255) ∧ (0 ≤ x.a ∧ x.a ≤ 255) ∧ (0 ≤ x.b ∧ x.b ≤ 255) ∧ (0 ≤ x.c ∧ x.c ≤ 255) ∧ (-9223372036854775808 ≤ x.imm ∧ x.imm ≤ 9223372036854775807)

def W.zero : W := ⟨0, 0, 0, 0, 0⟩

def formP (r : Int) (i : Bool) (lo hi : Int) (x : W) : Bool :=
  decide (x.a < 16) && decide (x.b < 16) && decide (x.c < 16) && (decide (1 ≤ r) || x.a == 0) && (decide (2 ≤ r) || x.b == 0) && (decide (3 ≤ r) || x.c == 0) &&
    (if i then decide (lo ≤ x.imm) && decide (x.imm ≤ hi) else x.imm == 0)

def formB (x : W) : Bool := match shp x.op with
  | (r, i, lo, hi, ok) => ok && formP r i lo hi x

def trapsB (n : Int) : Bool := n == 4 || n == 5 || n == 34 || n == 35 || n == 43 || n == 41

/-! ### numbers -/
def fitsL (n : Int) (k : Nat) (s : Bool) : Bool :=
  if k = 8 then true else if k = 0 then n == 0 else if s then decide (-(256 ^ k) ≤ 2 * n ∧ 2 * n < 256 ^ k) else decide (0 ≤ n ∧ n < 256 ^ k)

theorem le8 {k : Nat} (h : k ≤ 8) : k = 0 ∨ k = 1 ∨ k = 2 ∨ k = 3 ∨ k = 4 ∨ k = 5 ∨ k = 6 ∨ k = 7 ∨ k = 8 := by omega

theorem fits_s (n : Int) (k : Nat) (h : k ≤ 8) (h8 : k ≠ 8) (h0 : k ≠ 0) (a : -9223372036854775808 ≤ n) (b : n ≤ 9223372036854775807) :
    (wrap64 (n * 2 ^ (64 - 8 * k)) / 2 ^ (64 - 8 * k) == n) = fitsL n k true := by
  rcases le8 h with rfl | rfl | rfl | rfl | rfl | rfl | rfl | rfl | rfl <;> simp [fitsL, wrap64] at * <;>
  (rw [Bool.eq_iff_iff]; simp only [beq_iff_eq, decide_eq_true_eq, Bool.and_eq_true]; omega)

theorem fits_u (n : Int) (k : Nat) (h : k ≤ 8) (h8 : k ≠ 8) (h0 : k ≠ 0) (a : -9223372036854775808 ≤ n) (b : n ≤ 9223372036854775807) :
    (IntKind.u64.wrap n / 2 ^ (8 * k) == 0) = fitsL n k false := by
  rw [IntKind.wrap_u64]
  rcases le8 h with rfl | rfl | rfl | rfl | rfl | rfl | rfl | rfl | rfl <;> simp [fitsL] at * <;>
  (rw [Bool.eq_iff_iff]; simp only [beq_iff_eq, decide_eq_true_eq, Bool.and_eq_true]; omega)

def nbFrom (n : Int) (s : Bool) : Nat → Nat → Nat
  | 0, k => k
  | f + 1, k => if fitsL n k s then k else nbFrom n s f (k + 1)
/-- How many bytes a number takes. -/
def nbL (n : Int) (s : Bool) : Nat := nbFrom n s 8 0

theorem nbFrom_le (n : Int) (s : Bool) : ∀ f k, nbFrom n s f k ≤ k + f
  | 0, k => by simp [nbFrom]
  | f + 1, k => by
    rw [nbFrom]; split
    · omega
    · have := nbFrom_le n s f (k + 1); omega
theorem nbL_le (n : Int) (s : Bool) : nbL n s ≤ 8 := by have := nbFrom_le n s 8 0; simpa [nbL] using this
theorem nbFrom_is (n : Int) (s : Bool) (k : Nat) (hk : fitsL n k s = true) : ∀ f j, j ≤ k → k ≤ j + f → (∀ i, j ≤ i → i < k → fitsL n i s = false) → nbFrom n s f j = k
  | 0, j, h1, h2, _ => by simp [nbFrom]; omega
  | f + 1, j, h1, h2, h3 => by
    rw [nbFrom]
    by_cases e : j = k
    · subst e; simp [hk]
    · rw [h3 j (by omega) (by omega)]; simp only [Bool.false_eq_true, if_false]
      exact nbFrom_is n s k hk f (j + 1) (by omega) (by omega) (fun i hi => h3 i (by omega))
theorem nbL_is (n : Int) (s : Bool) (k : Nat) (h8 : k ≤ 8) (hk : fitsL n k s = true) (h : ∀ i, i < k → fitsL n i s = false) : nbL n s = k :=
  nbFrom_is n s k hk 8 0 (by omega) (by omega) (fun i _ hi => h i hi)
theorem nbFrom_fits (n : Int) (s : Bool) : ∀ f k, f + k = 8 → fitsL n (nbFrom n s f k) s = true ∧ ∀ j, k ≤ j → j < nbFrom n s f k → fitsL n j s = false
  | 0, k, h => by
    have e : k = 8 := by omega
    subst e
    exact ⟨by simp [nbFrom, fitsL], fun j h1 h2 => by simp [nbFrom] at h2; omega⟩
  | f + 1, k, h => by
    rw [nbFrom]
    by_cases e : fitsL n k s = true
    · rw [if_pos e]; exact ⟨e, fun j h1 h2 => by omega⟩
    · rw [if_neg e]
      have ih := nbFrom_fits n s f (k + 1) (by omega)
      refine ⟨ih.1, fun j h1 h2 => ?_⟩
      by_cases ej : j = k
      · subst ej; simpa using e
      · exact ih.2 j (by omega) h2
theorem nbL_fits (n : Int) (s : Bool) : fitsL n (nbL n s) s = true := (nbFrom_fits n s 8 0 rfl).1
theorem nbL_not (n : Int) (s : Bool) (j : Nat) (h : j < nbL n s) : fitsL n j s = false := (nbFrom_fits n s 8 0 rfl).2 j (by omega) h

/-- Its bytes, the lowest first. -/
def bytesL (n : Int) (k : Nat) : List Int := (List.range k).map fun i => n / 256 ^ i % 256
theorem bytesL_length (n : Int) (k : Nat) : (bytesL n k).length = k := by simp [bytesL]
theorem bytesL_succ (n : Int) (k : Nat) : bytesL n (k + 1) = bytesL n k ++ [n / 256 ^ k % 256] := by simp [bytesL, List.range_succ]
theorem bytesL_zero (n : Int) : bytesL n 0 = [] := rfl
theorem byte_bd (n : Int) (k : Nat) : 0 ≤ n / 256 ^ k % 256 ∧ n / 256 ^ k % 256 ≤ 255 := by
  have h1 := Int.emod_nonneg (n / 256 ^ k) (show (256 : Int) ≠ 0 by decide)
  have h2 := Int.emod_lt_of_pos (n / 256 ^ k) (show (0 : Int) < 256 by decide)
  omega
theorem bytesL_bd (n : Int) (k : Nat) : ∀ x ∈ bytesL n k, 0 ≤ x ∧ x ≤ 255 := by
  intro x hx
  simp only [bytesL, List.mem_map, List.mem_range] at hx
  obtain ⟨i, _, rfl⟩ := hx
  exact byte_bd n i
def numL (n : Int) (s : Bool) : List Int := (nbL n s : Int) :: bytesL n (nbL n s)
theorem shr_byte (n : Int) (i : Nat) : n / 2 ^ (8 * i) = n / 256 ^ i := by
  rw [Int.pow_mul]; rfl

/-- The reference's loop: does it go on behind j bytes? -/
def goes (n : Int) (j : Nat) (last : Int) (s : Bool) : Bool :=
  (!(n == 0) && !(n == -1)) || ((n == -1) && ((j == 0) || decide (last < 128))) || (((n == 0) && s) && !(j == 0) && decide (127 < last))

theorem goes_is (n : Int) (j : Nat) (s : Bool) (hj : j ≤ 8) (a : -9223372036854775808 ≤ n) (b : n ≤ 9223372036854775807) (hs : s = false → 0 ≤ n) (last : Int)
    (hl : j = 0 ∧ last = 0 ∨ 1 ≤ j ∧ last = n / 256 ^ (j - 1) % 256) : goes (n / 256 ^ j) j last s = !(fitsL n j s) := by
  rcases le8 hj with rfl | rfl | rfl | rfl | rfl | rfl | rfl | rfl | rfl <;> cases s <;> simp at hs hl <;> subst hl <;> simp [goes, fitsL] <;>
  first | omega | (rw [Bool.eq_iff_iff]; simp only [beq_iff_eq, decide_eq_true_eq, Bool.and_eq_true, Bool.or_eq_true, Bool.not_eq_true', beq_eq_false_iff_ne, decide_eq_false_iff_not, ne_eq]; omega)

end Go.Proofs.Yteeapfgjjankeaa
