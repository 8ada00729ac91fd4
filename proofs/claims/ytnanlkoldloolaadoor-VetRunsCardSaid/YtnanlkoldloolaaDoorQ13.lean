/- The plain arithmetic of instructions as bytes: how many bytes a number takes, its bytes, and reading them back. No program in sight. -/
import Derived.RowKit
import Derived.Laws.Bits64
import Derived.Laws.BitsAllLaws
import Derived.Test.YtnanlkoldloolaaDoorQ0
import Derived.Test.YtnanlkoldloolaaDoorProg
import Derived.WalkKit
import Derived.WalkLawsBesides
import Derived.WalkSpells
import Derived.Lib.Hide
import Derived.Deep.Light
namespace Go.Proofs.YtnanlkoldloolaaDoor
open Go.RowKit

def minI : Int := -9223372036854775808
def maxI : Int := 9223372036854775807

/-- What an operation names: registers, a number or none, its least and most; and whether there is such an operation. -/
def shp (n : Int) : Int × Bool × Int × Int × Bool :=
  if n == 19 || n == 20 || n == 21 || n == 31 || n == 36 then (2, false, 0, 0, true)
  else if n == 30 then (1, true, minI, maxI, true)
  else if n == 32 || n == 33 then (1, true, 0, 59999, true)
  else if n == 34 || n == 35 then (3, false, 0, 0, true)
  else if n == 37 then (1, true, 1, 256, true)
  else if n == 38 || n == 39 || n == 40 || n == 42 || n == 43 || n == 47 then (1, false, 0, 0, true)
  else if n == 41 || n == 46 then (1, true, 0, maxI, true)
  else if n == 44 || n == 45 then (0, true, 0, maxI, true)
  else if n == 48 then (1, true, 0, 5, true)
  else if decide (1 ≤ n) && decide (n ≤ 16) then (3, false, 0, 0, true)
  else (0, false, 0, 0, false)

structure W where
  op : Int
  a : Int
  b : Int
  c : Int
  imm : Int
deriving DecidableEq

def W.ok (x : W) : Prop := (0 ≤ x.op ∧ x.op ≤ 255) ∧ (0 ≤ x.a ∧ x.a ≤ 255) ∧ (0 ≤ x.b ∧ x.b ≤ 255) ∧ (0 ≤ x.c ∧ x.c ≤ 255) ∧ (-9223372036854775808 ≤ x.imm ∧ x.imm ≤ 9223372036854775807)

def W.zero : W := ⟨0, 0, 0, 0, 0⟩

def formP (r : Int) (i : Bool) (lo hi : Int) (x : W) : Bool :=
  decide (x.a < 16) && decide (x.b < 16) && decide (x.c < 16) && (decide (1 ≤ r) || x.a == 0) && (decide (2 ≤ r) || x.b == 0) && (decide (3 ≤ r) || x.c == 0) &&
    (if i then decide (lo ≤ x.imm) && decide (x.imm ≤ hi) else x.imm == 0)

def formB (x : W) : Bool := match shp x.op with
  | (r, i, lo, hi, ok) => ok && formP r i lo hi x

def trapsB (n : Int) : Bool := n == 4 || n == 5 || n == 34 || n == 35 || n == 43 || n == 41

/-! ### numbers -/
def fitsL (n : Int) (k : Nat) (s : Bool) : Bool :=
  if k = 8 then true else if k = 0 then n == 0 else if s then decide (-(256 ^ k) ≤ 2 * n ∧ 2 * n < 256 ^ k) else decide (0 ≤ n ∧ n < 256 ^ k)

theorem le8 {k : Nat} (h : k ≤ 8) : k = 0 ∨ k = 1 ∨ k = 2 ∨ k = 3 ∨ k = 4 ∨ k = 5 ∨ k = 6 ∨ k = 7 ∨ k = 8 := by omega

theorem fits_s (n : Int) (k : Nat) (h : k ≤ 8) (h8 : k ≠ 8) (h0 : k ≠ 0) (a : -9223372036854775808 ≤ n) (b : n ≤ 9223372036854775807) :
    (wrap64 (n * 2 ^ (64 - 8 * k)) / 2 ^ (64 - 8 * k) == n) = fitsL n k true := by
  rcases le8 h with rfl | rfl | rfl | rfl | rfl | rfl | rfl | rfl | rfl <;> simp [fitsL, wrap64] at * <;>
  (rw [Bool.eq_iff_iff]; simp only [beq_iff_eq, decide_eq_true_eq, Bool.and_eq_true]; omega)

theorem fits_u (n : Int) (k : Nat) (h : k ≤ 8) (h8 : k ≠ 8) (h0 : k ≠ 0) (a : -9223372036854775808 ≤ n) (b : n ≤ 9223372036854775807) :
    (IntKind.u64.wrap n / 2 ^ (8 * k) == 0) = fitsL n k false := by
  rw [IntKind.wrap_u64]
  rcases le8 h with rfl | rfl | rfl | rfl | rfl | rfl | rfl | rfl | rfl <;> simp [fitsL] at * <;>
  (rw [Bool.eq_iff_iff]; simp only [beq_iff_eq, decide_eq_true_eq, Bool.and_eq_true]; omega)

def nbFrom (n : Int) (s : Bool) : Nat → Nat → Nat
  | 0, k => k
  | f + 1, k => if fitsL n k s then k else nbFrom n s f (k + 1)
/-- How many bytes a number takes. -/
def nbL (n : Int) (s : Bool) : Nat := nbFrom n s 8 0

theorem nbFrom_le (n : Int) (s : Bool) : ∀ f k, nbFrom n s f k ≤ k + f
  | 0, k => by simp [nbFrom]
  | f + 1, k => by
    rw [nbFrom]; split
    · omega
    · have := nbFrom_le n s f (k + 1); omega
theorem nbL_le (n : Int) (s : Bool) : nbL n s ≤ 8 := by have := nbFrom_le n s 8 0; simpa [nbL] using this
theorem nbFrom_is (n : Int) (s : Bool) (k : Nat) (hk : fitsL n k s = true) : ∀ f j, j ≤ k → k ≤ j + f → (∀ i, j ≤ i → i < k → fitsL n i s = false) → nbFrom n s f j = k
  | 0, j, h1, h2, _ => by simp [nbFrom]; omega
  | f + 1, j, h1, h2, h3 => by
    rw [nbFrom]
    by_cases e : j = k
    · subst e; simp [hk]
    · rw [h3 j (by omega) (by omega)]; simp only [Bool.false_eq_true, if_false]
      exact nbFrom_is n s k hk f (j + 1) (by omega) (by omega) (fun i hi => h3 i (by omega))
theorem nbL_is (n : Int) (s : Bool) (k : Nat) (h8 : k ≤ 8) (hk : fitsL n k s = true) (h : ∀ i, i < k → fitsL n i s = false) : nbL n s = k :=
  nbFrom_is n s k hk 8 0 (by omega) (by omega) (fun i _ hi => h i hi)
theorem nbFrom_fits (n : Int) (s : Bool) : ∀ f k, f + k = 8 → fitsL n (nbFrom n s f k) s = true ∧ ∀ j, k ≤ j → j < nbFrom n s f k → fitsL n j s = false
  | 0, k, h => by
    have e : k = 8 := by omega
    subst e
    exact ⟨by simp [nbFrom, fitsL], fun j h1 h2 => by simp [nbFrom] at h2; omega⟩
  | f + 1, k, h => by
    rw [nbFrom]
    by_cases e : fitsL n k s = true
    · rw [if_pos e]; exact ⟨e, fun j h1 h2 => by omega⟩
    · rw [if_neg e]
      have ih := nbFrom_fits n s f (k + 1) (by omega)
      refine ⟨ih.1, fun j h1 h2 => ?_⟩
      by_cases ej : j = k
      · subst ej; simpa using e
      · exact ih.2 j (by omega) h2
theorem nbL_fits (n : Int) (s : Bool) : fitsL n (nbL n s) s = true := (nbFrom_fits n s 8 0 rfl).1
theorem nbL_not (n : Int) (s : Bool) (j : Nat) (h : j < nbL n s) : fitsL n j s = false := (nbFrom_fits n s 8 0 rfl).2 j (by omega) h

/-- Its bytes, the lowest first. -/
def bytesL (n : Int) (k : Nat) : List Int := (List.range k).map fun i => n / 256 ^ i % 256
theorem bytesL_length (n : Int) (k : Nat) : (bytesL n k).length = k := by simp [bytesL]
theorem bytesL_succ (n : Int) (k : Nat) : bytesL n (k + 1) = bytesL n k ++ [n / 256 ^ k % 256] := by simp [bytesL, List.range_succ]
theorem bytesL_zero (n : Int) : bytesL n 0 = [] := rfl
theorem byte_bd (n : Int) (k : Nat) : 0 ≤ n / 256 ^ k % 256 ∧ n / 256 ^ k % 256 ≤ 255 := by
  have h1 := Int.emod_nonneg (n / 256 ^ k) (show (256 : Int) ≠ 0 by decide)
  have h2 := Int.emod_lt_of_pos (n / 256 ^ k) (show (0 : Int) < 256 by decide)
  omega
theorem bytesL_bd (n : Int) (k : Nat) : ∀ x ∈ bytesL n k, 0 ≤ x ∧ x ≤ 255 := by
  intro x hx
  simp only [bytesL, List.mem_map, List.mem_range] at hx
  obtain ⟨i, _, rfl⟩ := hx
  exact byte_bd n i
def numL (n : Int) (s : Bool) : List Int := (nbL n s : Int) :: bytesL n (nbL n s)
theorem shr_byte (n : Int) (i : Nat) : n / 2 ^ (8 * i) = n / 256 ^ i := by
  rw [Int.pow_mul]; rfl

/-- The reference's loop: does it go on behind j bytes? -/
def goes (n : Int) (j : Nat) (last : Int) (s : Bool) : Bool :=
  (!(n == 0) && !(n == -1)) || ((n == -1) && ((j == 0) || decide (last < 128))) || (((n == 0) && s) && !(j == 0) && decide (127 < last))

theorem goes_is (n : Int) (j : Nat) (s : Bool) (hj : j ≤ 8) (a : -9223372036854775808 ≤ n) (b : n ≤ 9223372036854775807) (hs : s = false → 0 ≤ n) (last : Int)
    (hl : j = 0 ∧ last = 0 ∨ 1 ≤ j ∧ last = n / 256 ^ (j - 1) % 256) : goes (n / 256 ^ j) j last s = !(fitsL n j s) := by
  rcases le8 hj with rfl | rfl | rfl | rfl | rfl | rfl | rfl | rfl | rfl <;> cases s <;> simp at hs hl <;> subst hl <;> simp [goes, fitsL] <;>
  first | omega | (rw [Bool.eq_iff_iff]; simp only [beq_iff_eq, decide_eq_true_eq, Bool.and_eq_true, Bool.or_eq_true, Bool.not_eq_true', beq_eq_false_iff_ne, decide_eq_false_iff_not, ne_eq]; omega)

end Go.Proofs.YtnanlkoldloolaaDoor

/- The plain arithmetic of reading: a number's value from its bytes, and back; instructions as bytes, and back. No program in sight. -/
namespace Go.Proofs.YtnanlkoldloolaaDoor
open Go.RowKit



def valL : List Int → Int
  | [] => 0
  | b :: r => b + 256 * valL r

theorem valL_bd : ∀ (l : List Int), isB l → 0 ≤ valL l ∧ valL l < 256 ^ l.length
  | [], _ => by simp [valL]
  | b :: r, h => by
    have ih := valL_bd r (fun x hx => h x (List.mem_cons_of_mem _ hx))
    have hb := h b (List.mem_cons_self ..)
    simp only [valL, List.length_cons, Int.pow_succ]
    omega

theorem valL_append (l : List Int) (x : Int) : valL (l ++ [x]) = valL l + 256 ^ l.length * x := by
  induction l with
  | nil => simp [valL]
  | cons b r ih =>
    simp only [List.cons_append, valL, ih, List.length_cons, Int.pow_succ, Int.mul_add, ← Int.mul_assoc, Int.mul_comm (256 ^ r.length) 256]
    omega

/-- A byte of a value. -/
theorem valL_byte : ∀ (l : List Int), isB l → ∀ i, i < l.length → valL l / 256 ^ i % 256 = l.getD i 0
  | [], _, i, hi => by simp at hi
  | b :: r, h, 0, _ => by
    have hb := h b (List.mem_cons_self ..)
    simp [valL]; omega
  | b :: r, h, i + 1, hi => by
    have hb := h b (List.mem_cons_self ..)
    have ih := valL_byte r (fun x hx => h x (List.mem_cons_of_mem _ hx)) i (by simpa using hi)
    have e : (b + 256 * valL r) / 256 = valL r := by omega
    rw [List.getD_cons_succ, ← ih, valL, Int.pow_succ, Int.mul_comm (256 ^ i) 256, ← Int.ediv_ediv_of_nonneg (by decide), e]

theorem bytesL_val (l : List Int) (h : isB l) : bytesL (valL l) l.length = l := by
  apply List.ext_getElem
  · simp [bytesL]
  · intro i h1 h2
    have := valL_byte l h i h2
    simp [bytesL, this, h2]

/-- Bytes are those of any number that is the same modulo 256^k. -/
theorem ediv_emod_pow (n m : Int) (k i : Nat) (hi : i < k) (h : n % 256 ^ k = m % 256 ^ k) : n / 256 ^ i % 256 = m / 256 ^ i % 256 := by
  have hm : ∀ z : Int, z / 256 ^ i % 256 = (z % 256 ^ k) / 256 ^ i % 256 := by
    intro z
    obtain ⟨d, rfl⟩ : ∃ d, k = i + 1 + d := ⟨k - (i + 1), by omega⟩
    have e := Int.emod_add_mul_ediv z (256 ^ (i + 1 + d))
    have hp : (0 : Int) < 256 ^ i := Int.pow_pos (by decide)
    have e1 : (256 : Int) ^ (i + 1 + d) = 256 ^ i * (256 * 256 ^ d) := by rw [Int.pow_add, Int.pow_succ, Int.mul_assoc]
    have e2 : z = z % 256 ^ (i + 1 + d) + 256 ^ i * (256 * (256 ^ d * (z / 256 ^ (i + 1 + d)))) := by
      rw [← Int.mul_assoc 256, ← Int.mul_assoc (256 ^ i), ← e1]; exact e.symm
    have e3 : z / 256 ^ i = (z % 256 ^ (i + 1 + d)) / 256 ^ i + 256 * (256 ^ d * (z / 256 ^ (i + 1 + d))) := by
      conv => lhs; rw [e2]
      rw [Int.add_mul_ediv_left _ _ (by omega)]
    rw [e3]; omega
  rw [hm n, hm m, h]

theorem bytesL_congr (n m : Int) (k : Nat) (h : n % 256 ^ k = m % 256 ^ k) : bytesL n k = bytesL m k := by
  unfold bytesL
  apply List.map_congr_left
  intro i hi
  exact ediv_emod_pow n m k i (by simpa using hi) h

/-- What is read off so many bytes. -/
def readV (bs : List Int) (s : Bool) : Int :=
  if s && decide (0 < bs.length) then wrap64 (wrap64 (valL bs) * 2 ^ (64 - 8 * bs.length)) / 2 ^ (64 - 8 * bs.length) else wrap64 (valL bs)

theorem readV_facts (bs : List Int) (s : Bool) (h : isB bs) (hl : bs.length ≤ 8) :
    (-9223372036854775808 ≤ readV bs s ∧ readV bs s ≤ 9223372036854775807) ∧ readV bs s % 256 ^ bs.length = valL bs % 256 ^ bs.length ∧
    (s = true ∨ 0 ≤ readV bs s → fitsL (readV bs s) bs.length s = true) := by
  have hb := valL_bd bs h
  unfold readV
  generalize valL bs = v at *
  generalize bs.length = k at *
  rcases le8 hl with rfl | rfl | rfl | rfl | rfl | rfl | rfl | rfl | rfl <;> cases s <;> simp [wrap64, fitsL] at * <;> omega

theorem fitsL_mono (n : Int) (j k : Nat) (s : Bool) (hjk : j ≤ k) (hk : k ≤ 8) (h : fitsL n j s = true) (a : -9223372036854775808 ≤ n) (b : n ≤ 9223372036854775807) : fitsL n k s = true := by
  rcases le8 (Nat.le_trans hjk hk) with rfl | rfl | rfl | rfl | rfl | rfl | rfl | rfl | rfl <;>
  rcases le8 hk with rfl | rfl | rfl | rfl | rfl | rfl | rfl | rfl | rfl <;> first | (exfalso; omega) | (cases s <;> simp [fitsL] at * <;> omega)

/-- The bytes are the number's own just if there are none too many. -/
theorem numL_read (bs : List Int) (s : Bool) (h : isB bs) (hl : bs.length ≤ 8) (hs : s = true ∨ 0 ≤ readV bs s) :
    (numL (readV bs s) s = (bs.length : Int) :: bs) ↔ (bs.length = 0 ∨ fitsL (readV bs s) (bs.length - 1) s = false) := by
  obtain ⟨⟨r1, r2⟩, hm, hf⟩ := readV_facts bs s h hl
  have hf := hf hs
  constructor
  · intro e
    by_cases h0 : bs.length = 0
    · exact .inl h0
    · right
      simp only [numL, List.cons.injEq] at e
      have : nbL (readV bs s) s = bs.length := by omega
      exact nbL_not _ _ _ (by omega)
  · intro e
    have hn : nbL (readV bs s) s = bs.length := by
      refine nbL_is _ _ _ hl hf (fun i hi => ?_)
      rcases e with e | e
      · omega
      · cases hfi : fitsL (readV bs s) i s
        · rfl
        · have := fitsL_mono _ i (bs.length - 1) s (by omega) (by omega) hfi r1 r2
          rw [this] at e; cases e
    simp only [numL, hn, List.cons.injEq, true_and]
    rw [bytesL_congr _ _ _ hm, bytesL_val bs h]

def readL (q : List Int) (s : Bool) : Option (Int × Nat) :=
  match q with
  | [] => none
  | k :: t => if decide (8 < k) || decide ((t.length : Int) < k) then none
    else if k == 0 || !(fitsL (readV (t.take k.toNat) s) (k.toNat - 1) s) then some (readV (t.take k.toNat) s, 1 + k.toNat) else none

theorem valL_bytesL (n : Int) : ∀ k, valL (bytesL n k) = n % 256 ^ k
  | 0 => by simp [bytesL, valL]
  | k + 1 => by
    have ih := valL_bytesL n k
    have hp : (0 : Int) < 256 ^ k := Int.pow_pos (by decide)
    have hb1 := Int.emod_nonneg n (show (256 : Int) ^ k ≠ 0 by omega)
    have hb2 := Int.emod_lt_of_pos n hp
    have hd := byte_bd n k
    rw [bytesL_succ, valL_append, bytesL_length, ih]
    have e1 := Int.emod_add_mul_ediv n (256 ^ k)
    have e2 := Int.emod_add_mul_ediv (n / 256 ^ k) 256
    have e3 : n = (n % 256 ^ k + 256 ^ k * (n / 256 ^ k % 256)) + 256 ^ (k + 1) * (n / 256 ^ k / 256) := by
      have : (256 : Int) ^ (k + 1) * (n / 256 ^ k / 256) = 256 ^ k * (256 * (n / 256 ^ k / 256)) := by rw [Int.pow_succ, Int.mul_assoc]
      rw [this, Int.add_assoc, ← Int.mul_add, e2]; exact e1.symm
    have hle : 256 ^ k * (n / 256 ^ k % 256) ≤ 256 ^ k * 255 := Int.mul_le_mul_of_nonneg_left hd.2 (by omega)
    have hge : 0 ≤ 256 ^ k * (n / 256 ^ k % 256) := Int.mul_nonneg (by omega) hd.1
    have hm : (n % 256 ^ k + 256 ^ k * (n / 256 ^ k % 256)) % 256 ^ (k + 1) = n % 256 ^ k + 256 ^ k * (n / 256 ^ k % 256) :=
      Int.emod_eq_of_lt (by omega) (by rw [Int.pow_succ]; omega)
    have e4 : n % 256 ^ (k + 1) = ((n % 256 ^ k + 256 ^ k * (n / 256 ^ k % 256)) + 256 ^ (k + 1) * (n / 256 ^ k / 256)) % 256 ^ (k + 1) := congrArg (· % 256 ^ (k + 1)) e3
    rw [e4, Int.add_mul_emod_self_left, hm]

theorem readV_bytesL (n : Int) (s : Bool) (k : Nat) (hk : k ≤ 8) (a : -9223372036854775808 ≤ n) (b : n ≤ 9223372036854775807) (hf : fitsL n k s = true) : readV (bytesL n k) s = n := by
  unfold readV
  rw [valL_bytesL, bytesL_length]
  rcases le8 hk with rfl | rfl | rfl | rfl | rfl | rfl | rfl | rfl | rfl <;> cases s <;> simp [wrap64, fitsL] at * <;> omega

theorem readL_num (n : Int) (s : Bool) (more : List Int) (a : -9223372036854775808 ≤ n) (b : n ≤ 9223372036854775807) :
    readL (numL n s ++ more) s = some (n, (numL n s).length) := by
  have h8 := nbL_le n s
  have hlen := bytesL_length n (nbL n s)
  have htk : (bytesL n (nbL n s) ++ more).take (nbL n s) = bytesL n (nbL n s) := by
    rw [List.take_append_of_le_length (by omega), List.take_of_length_le (by omega)]
  have hr := readV_bytesL n s (nbL n s) h8 a b (nbL_fits n s)
  have hb : (if ((nbL n s : Int) == 0 || !(fitsL n (nbL n s - 1) s)) = true then some (n, 1 + nbL n s) else none) = some (n, 1 + nbL n s) := by
    rw [if_pos]
    by_cases h0 : nbL n s = 0
    · simp [h0]
    · rw [nbL_not n s _ (by omega)]; simp
  simp only [readL, numL, List.cons_append, Int.toNat_natCast, htk, hr]
  rw [if_neg (by simp; omega), hb]
  simp [hlen]; omega

/-! ### instructions -/
def encL (x : W) : List Int := match shp x.op with
  | (r, i, _, _, _) => x.op :: ([x.a, x.b, x.c].take r.toNat ++ (if i then numL x.imm (x.op == 30) else []))

def regsOf (op : Int) (r : Nat) (t : List Int) (v : Int) : W :=
  ⟨op, if 1 ≤ r then t.getD 0 0 else 0, if 2 ≤ r then t.getD 1 0 else 0, if 3 ≤ r then t.getD 2 0 else 0, v⟩

def fin (x : W) (n : Nat) : Option (W × Nat) := if formB x then some (x, n) else none

def decS (p : List Int) : Option (W × Nat) :=
  match p with
  | [] => none
  | op :: t => match shp op with
    | (r, i, _, _, ok) =>
      if !ok then none else if decide ((t.length : Int) < r) then none
      else if i then match readL (t.drop r.toNat) (op == 30) with
        | none => none
        | some (v, m) => fin (regsOf op r.toNat t v) (1 + r.toNat + m)
      else fin (regsOf op r.toNat t 0) (1 + r.toNat)

end Go.Proofs.YtnanlkoldloolaaDoor

/- Walks of package inst: what each function computes. -/
namespace Go.Proofs.YtnanlkoldloolaaDoor
open Go.RowKit

set_option maxHeartbeats 1000000 in
theorem shape_any (n : Int) (w : World) :
   Calls Tryd.prog 47 #[.int .u8 n] w fun e w' => e = .returned (.tuple #[.agg #[.int .i64 (shp n).1, .bool (shp n).2.1, .int .i64 (shp n).2.2.1, .int .i64 (shp n).2.2.2.1], .bool (shp n).2.2.2.2]) ∧ Below w.heap.size w w' := by
  go_enter Tryd.func47, Tryd.ntmps47
  go_wp2
  all_goals refine bodyPost_ret (v := .tuple #[.agg #[.int .i64 (shp n).1, .bool (shp n).2.1, .int .i64 (shp n).2.2.1, .int .i64 (shp n).2.2.2.1], .bool (shp n).2.2.2.2]) ?_ rfl ⟨rfl, ?_⟩
  all_goals first | (exact (Below.refl _ _).alloc (Nat.le_refl _) _) | skip
  all_goals first | (go_light; simp [results, Tryd.results47, go_sem, shp, minI, maxI, *]; done) | (go_light; simp [results, Tryd.results47, go_sem, shp, *]; rw [if_neg (by omega)]; simp)

theorem shape_is {n r lo hi : Int} {i ok : Bool} (h : shp n = (r, i, lo, hi, ok)) (w : World) :
   Calls Tryd.prog 47 #[.int .u8 n] w fun e w' => e = .returned (.tuple #[.agg #[.int .i64 r, .bool i, .int .i64 lo, .int .i64 hi], .bool ok]) ∧ Below w.heap.size w w' := by
  have := shape_any n w
  rw [h] at this
  exact this

end Go.Proofs.YtnanlkoldloolaaDoor

/- Walks of package inst, on: registers' places, the form. -/
namespace Go.Proofs.YtnanlkoldloolaaDoor
open Go.RowKit

set_option maxHeartbeats 1000000 in
theorem regs_any (b off : Nat) (w : World) :
   Calls Tryd.prog 48 #[.pointer (some ⟨b, off, none⟩)] w fun e w' => e = .returned (.slice (some ⟨w.heap.size, 0, none⟩) 3 3) ∧ 
     (w.alloc (.cells #[.pointer (some ⟨b, off + 1, none⟩), .pointer (some ⟨b, off + 2, none⟩), .pointer (some ⟨b, off + 3, none⟩)] 127)).drew = w' := by
  go_enter Tryd.func48, Tryd.ntmps48
  go_wp2
  go_region
  all_goals go_wp2
  all_goals go_ret
  all_goals exact ⟨rfl, rfl⟩

/-- The first k registers are right. -/
def rgs (r a b c : Int) (k : Nat) : Bool :=
  (decide (k < 1) || (decide (a < 16) && (decide (1 ≤ r) || a == 0))) && (decide (k < 2) || (decide (b < 16) && (decide (2 ≤ r) || b == 0))) && (decide (k < 3) || (decide (c < 16) && (decide (3 ≤ r) || c == 0)))

theorem formP_eq (r lo hi op a b c imm : Int) (i : Bool) : formP r i lo hi ⟨op, a, b, c, imm⟩ = (rgs r a b c 3 && (if i then decide (lo ≤ imm) && decide (imm ≤ hi) else imm == 0)) := by
  cases i <;> simp [formP, rgs] <;> (rw [Bool.eq_iff_iff]; simp; omega)
theorem form_no {r lo hi op a b c imm : Int} {i : Bool} (h : Hid (formB ⟨op, a, b, c, imm⟩ = (true && formP r i lo hi ⟨op, a, b, c, imm⟩))) (hn : ¬ rgs r a b c 3 = true) :
    Ending.returned (.bool false) = .returned (.bool (formB ⟨op, a, b, c, imm⟩)) := by
  rw [h.out, formP_eq]; simp [hn]
theorem fin_below {w w1 : World} {o o1 o2 : Obj} (hb : Below (w.alloc o).heap.size (w.alloc o) w1) : Below w.heap.size w (((w1.alloc o1).alloc o2).drew) := by
  have hz : w.heap.size < w1.heap.size := by have := hb.size; simp at this; omega
  exact ((((Below.refl _ _).alloc (Nat.le_refl _) _).trans (hb.mono (by simp))).alloc (by omega) _ |>.alloc (by simp; omega) _).drew

def wordV (x : W) : Value := .agg #[.int .u8 x.op, .int .u8 x.a, .int .u8 x.b, .int .u8 x.c, .int .i64 x.imm]

set_option maxHeartbeats 2000000 in
theorem iform_any (op a b c imm : Int) (w : World) :
   Calls Tryd.prog 38 #[.agg #[.int .u8 op, .int .u8 a, .int .u8 b, .int .u8 c, .int .i64 imm]] w fun e w' => e = .returned (.bool (formB ⟨op, a, b, c, imm⟩)) ∧ Below w.heap.size w w' := by
  obtain ⟨r, i, lo, hi, ok, hs⟩ : ∃ r i lo hi ok, shp op = (r, i, lo, hi, ok) := ⟨_, _, _, _, _, rfl⟩
  have HF : Hid (formB ⟨op, a, b, c, imm⟩ = (ok && formP r i lo hi ⟨op, a, b, c, imm⟩)) := by show _ = _; simp [formB, hs]
  have hsh := fun w => shape_is hs w
  have HSH := Lib.hid hsh
  clear hsh hs
  go_enter Tryd.func38, Tryd.ntmps38
  go_wp2_with fail
  refine (HSH.out _).mono ?_
  rintro e w1 ⟨rfl, hb⟩
  obtain ⟨hc, hf⟩ := bcell hb
  have hz : w.heap.size < w1.heap.size := by have := hb.size; simp at this; omega
  cases ok
  · go_wp2_with fail
    go_ret
    exact ⟨by rw [HF.out]; rfl, ((Below.refl _ _).alloc (Nat.le_refl _) _).trans (hb.mono (by simp)) |>.alloc (by omega) _⟩
  · go_wp2_with fail
    refine (regs_any _ _ _).mono ?_
    rintro e w2 ⟨rfl, rfl⟩
    go_wp2_with fail
    go_loop [17] (fun v => ∃ k : Nat, k ≤ 3 ∧ v = .int .i64 k ∧ rgs r a b c k = true) (fun v => 3 - (intOf v).toNat)
    case atStart => exact ⟨0, by omega, rfl, rfl⟩
    case round =>
      obtain ⟨k, hk, rfl, hr⟩ := hrel
      have hk4 : k = 0 ∨ k = 1 ∨ k = 2 ∨ k = 3 := by omega
      have HR := Lib.hid hr
      clear hr hk
      rcases hk4 with rfl | rfl | rfl | rfl
      · go_wp2
        all_goals first
          | (refine ⟨⟨1, by omega, rfl, ?_⟩, by simp [intOf]⟩; go_light; simp [rgs] at *; omega)
          | (go_ret; exact ⟨form_no HF (by go_light; simp [rgs] at *; omega), fin_below hb⟩)
      · go_wp2
        all_goals first
          | (refine ⟨⟨2, by omega, rfl, ?_⟩, by simp [intOf]⟩; go_light; have := HR.out; simp [rgs] at *; omega)
          | (go_ret; exact ⟨form_no HF (by go_light; simp [rgs] at *; omega), fin_below hb⟩)
      · go_wp2
        all_goals first
          | (refine ⟨⟨3, by omega, rfl, ?_⟩, by simp [intOf]⟩; go_light; have := HR.out; simp [rgs] at *; omega)
          | (go_ret; exact ⟨form_no HF (by go_light; simp [rgs] at *; omega), fin_below hb⟩)
      · go_wp2
        all_goals (go_ret; refine ⟨ret_bool ?_, fin_below hb⟩; go_light; rw [HF.out, formP_eq, HR.out]; clear HF HR hb hc hf hz; cases i <;> first | (simp; done) | (simp; omega) | (rw [Bool.eq_iff_iff]; simp; omega) | (exfalso; simp at *; done))
end Go.Proofs.YtnanlkoldloolaaDoor
