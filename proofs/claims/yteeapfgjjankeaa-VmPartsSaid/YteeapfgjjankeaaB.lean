/- The plain arithmetic of reading: a number's value from its bytes, and back; instructions as bytes, and back. No program in sight. -/
import Derived.Test.YteeapfgjjankeaaA
import Derived.Test.YteeapfgjjankeaaT
namespace Go.Proofs.Yteeapfgjjankeaa
open Go.RowKit



def valL : List Int → Int
  | [] => 0
  | b :: r => b + 256 * valL r

theorem valL_bd : ∀ (l : List Int), isB l → 0 ≤ valL l ∧ valL l < 256 ^ l.length
  | [], _ => by simp [valL]
  | b :: r, h => by
    have ih := valL_bd r (fun x hx => h x (List.mem_cons_of_mem _ hx))
    have hb := h b (List.mem_cons_self ..)
    simp only [valL, List.length_cons, Int.pow_succ]
    omega

theorem valL_append (l : List Int) (x : Int) : valL (l ++ [x]) = valL l + 256 ^ l.length * x := by
  induction l with
  | nil => simp [valL]
  | cons b r ih =>
    simp only [List.cons_append, valL, ih, List.length_cons, Int.pow_succ, Int.mul_add, ← Int.mul_assoc, Int.mul_comm (256 ^ r.length) 256]
    omega

/-- A byte of a value. -/
theorem valL_byte : ∀ (l : List Int), isB l → ∀ i, i < l.length → valL l / 256 ^ i % 256 = l.getD i 0
  | [], _, i, hi => by simp at hi
  | b :: r, h, 0, _ => by
    have hb := h b (List.mem_cons_self ..)
    simp [valL]; omega
  | b :: r, h, i + 1, hi => by
    have hb := h b (List.mem_cons_self ..)
    have ih := valL_byte r (fun x hx => h x (List.mem_cons_of_mem _ hx)) i (by simpa using hi)
    have e : (b + 256 * valL r) / 256 = valL r := by omega
    rw [List.getD_cons_succ, ← ih, valL, Int.pow_succ, Int.mul_comm (256 ^ i) 256, ← Int.ediv_ediv_of_nonneg (by decide), e]

theorem bytesL_val (l : List Int) (h : isB l) : bytesL (valL l) l.length = l := by
  apply List.ext_getElem
  · simp [bytesL]
  · intro i h1 h2
    have := valL_byte l h i h2
    simp [bytesL, this, h2]

/-- Bytes are those of any number that is the same modulo 256^k. -/
theorem ediv_emod_pow (n m : Int) (k i : Nat) (hi : i < k) (h : n % 256 ^ k = m % 256 ^ k) : n / 256 ^ i % 256 = m / 256 ^ i % 256 := by
  have hm : ∀ z : Int, z / 256 ^ i % 256 = (z % 256 ^ k) / 256 ^ i % 256 := by
    intro z
    obtain ⟨d, rfl⟩ : ∃ d, k = i + 1 + d := ⟨k - (i + 1), by omega⟩
    have e := Int.emod_add_mul_ediv z (256 ^ (i + 1 + d))
    have hp : (0 : Int) < 256 ^ i := Int.pow_pos (by decide)
    have e1 : (256 : Int) ^ (i + 1 + d) = 256 ^ i * (256 * 256 ^ d) := by rw [Int.pow_add, Int.pow_succ, Int.mul_assoc]
    have e2 : z = z % 256 ^ (i + 1 + d) + 256 ^ i * (256 * (256 ^ d * (z / 256 ^ (i + 1 + d)))) := by
      rw [← Int.mul_assoc 256, ← Int.mul_assoc (256 ^ i), ← e1]; exact e.symm
    have e3 : z / 256 ^ i = (z % 256 ^ (i + 1 + d)) / 256 ^ i + 256 * (256 ^ d * (z / 256 ^ (i + 1 + d))) := by
      conv => lhs; rw [e2]
      rw [Int.add_mul_ediv_left _ _ (by omega)]
    rw [e3]; omega
  rw [hm n, hm m, h]

theorem bytesL_congr (n m : Int) (k : Nat) (h : n % 256 ^ k = m % 256 ^ k) : bytesL n k = bytesL m k := by
  unfold bytesL
  apply List.map_congr_left
  intro i hi
  exact ediv_emod_pow n m k i (by simpa using hi) h

/-- What is read off so many bytes. -/
def readV (bs : List Int) (s : Bool) : Int :=
  if s && decide (0 < bs.length) then wrap64 (wrap64 (valL bs) * 2 ^ (64 - 8 * bs.length)) / 2 ^ (64 - 8 * bs.length) else wrap64 (valL bs)

theorem readV_facts (bs : List Int) (s : Bool) (h : isB bs) (hl : bs.length ≤ 8) :
    (-9223372036854775808 ≤ readV bs s ∧ readV bs s ≤ 9223372036854775807) ∧ readV bs s % 256 ^ bs.length = valL bs % 256 ^ bs.length ∧
    (s = true ∨ 0 ≤ readV bs s → fitsL (readV bs s) bs.length s = true) := by
  have hb := valL_bd bs h
  unfold readV
  generalize valL bs = v at *
  generalize bs.length = k at *
  rcases le8 hl with rfl | rfl | rfl | rfl | rfl | rfl | rfl | rfl | rfl <;> cases s <;> simp [wrap64, fitsL] at * <;> omega

theorem fitsL_mono (n : Int) (j k : Nat) (s : Bool) (hjk : j ≤ k) (hk : k ≤ 8) (h : fitsL n j s = true) (a : -9223372036854775808 ≤ n) (b : n ≤ 9223372036854775807) : fitsL n k s = true := by
  rcases le8 (Nat.le_trans hjk hk) with rfl | rfl | rfl | rfl | rfl | rfl | rfl | rfl | rfl <;>
  rcases le8 hk with rfl | rfl | rfl | rfl | rfl | rfl | rfl | rfl | rfl <;> first | (exfalso; omega) | (cases s <;> simp [fitsL] at * <;> omega)

/-- The bytes are the number's own just if there are none too many. -/
theorem numL_read (bs : List Int) (s : Bool) (h : isB bs) (hl : bs.length ≤ 8) (hs : s = true ∨ 0 ≤ readV bs s) :
    (numL (readV bs s) s = (bs.length : Int) :: bs) ↔ (bs.length = 0 ∨ fitsL (readV bs s) (bs.length - 1) s = false) := by
  obtain ⟨⟨r1, r2⟩, hm, hf⟩ := readV_facts bs s h hl
  have hf := hf hs
  constructor
  · intro e
    by_cases h0 : bs.length = 0
    · exact .inl h0
    · right
      simp only [numL, List.cons.injEq] at e
      have : nbL (readV bs s) s = bs.length := by omega
      exact nbL_not _ _ _ (by omega)
  · intro e
    have hn : nbL (readV bs s) s = bs.length := by
      refine nbL_is _ _ _ hl hf (fun i hi => ?_)
      rcases e with e | e
      · omega
      · cases hfi : fitsL (readV bs s) i s
        · rfl
        · have := fitsL_mono _ i (bs.length - 1) s (by omega) (by omega) hfi r1 r2
          rw [this] at e; cases e
    simp only [numL, hn, List.cons.injEq, true_and]
    rw [bytesL_congr _ _ _ hm, bytesL_val bs h]

def readL (q : List Int) (s : Bool) : Option (Int × Nat) :=
  match q with
  | [] => none
  | k :: t => if decide (8 < k) || decide ((t.length : Int) < k) then none
    else if k == 0 || !(fitsL (readV (t.take k.toNat) s) (k.toNat - 1) s) then some (readV (t.take k.toNat) s, 1 + k.toNat) else none

theorem valL_bytesL (n : Int) : ∀ k, valL (bytesL n k) = n % 256 ^ k
  | 0 => by simp [bytesL, valL]
  | k + 1 => by
    have ih := valL_bytesL n k
    have hp : (0 : Int) < 256 ^ k := Int.pow_pos (by decide)
    have hb1 := Int.emod_nonneg n (show (256 : Int) ^ k ≠ 0 by omega)
    have hb2 := Int.emod_lt_of_pos n hp
    have hd := byte_bd n k
    rw [bytesL_succ, valL_append, bytesL_length, ih]
    have e1 := Int.emod_add_mul_ediv n (256 ^ k)
    have e2 := Int.emod_add_mul_ediv (n / 256 ^ k) 256
    have e3 : n = (n % 256 ^ k + 256 ^ k * (n / 256 ^ k % 256)) + 256 ^ (k + 1) * (n / 256 ^ k / 256) := by
      have : (256 : Int) ^ (k + 1) * (n / 256 ^ k / 256) = 256 ^ k * (256 * (n / 256 ^ k / 256)) := by rw [Int.pow_succ, Int.mul_assoc]
      rw [this, Int.add_assoc, ← Int.mul_add, e2]; exact e1.symm
    have hle : 256 ^ k * (n / 256 ^ k % 256) ≤ 256 ^ k * 255 := Int.mul_le_mul_of_nonneg_left hd.2 (by omega)
    have hge : 0 ≤ 256 ^ k * (n / 256 ^ k % 256) := Int.mul_nonneg (by omega) hd.1
    have hm : (n % 256 ^ k + 256 ^ k * (n / 256 ^ k % 256)) % 256 ^ (k + 1) = n % 256 ^ k + 256 ^ k * (n / 256 ^ k % 256) :=
      Int.emod_eq_of_lt (by omega) (by rw [Int.pow_succ]; omega)
    have e4 : n % 256 ^ (k + 1) = ((n % 256 ^ k + 256 ^ k * (n / 256 ^ k % 256)) + 256 ^ (k + 1) * (n / 256 ^ k / 256)) % 256 ^ (k + 1) := congrArg (· % 256 ^ (k + 1)) e3
    rw [e4, Int.add_mul_emod_self_left, hm]

theorem readV_bytesL (n : Int) (s : Bool) (k : Nat) (hk : k ≤ 8) (a : -9223372036854775808 ≤ n) (b : n ≤ 9223372036854775807) (hf : fitsL n k s = true) : readV (bytesL n k) s = n := by
  unfold readV
  rw [valL_bytesL, bytesL_length]
  rcases le8 hk with rfl | rfl | rfl | rfl | rfl | rfl | rfl | rfl | rfl <;> cases s <;> simp [wrap64, fitsL] at * <;> omega

theorem readL_num (n : Int) (s : Bool) (more : List Int) (a : -9223372036854775808 ≤ n) (b : n ≤ 9223372036854775807) :
    readL (numL n s ++ more) s = some (n, (numL n s).length) := by
  have h8 := nbL_le n s
  have hlen := bytesL_length n (nbL n s)
  have htk : (bytesL n (nbL n s) ++ more).take (nbL n s) = bytesL n (nbL n s) := by
    rw [List.take_append_of_le_length (by omega), List.take_of_length_le (by omega)]
  have hr := readV_bytesL n s (nbL n s) h8 a b (nbL_fits n s)
  have hb : (if ((nbL n s : Int) == 0 || !(fitsL n (nbL n s - 1) s)) = true then some (n, 1 + nbL n s) else none) = some (n, 1 + nbL n s) := by
    rw [if_pos]
    by_cases h0 : nbL n s = 0
    · simp [h0]
    · rw [nbL_not n s _ (by omega)]; simp
  simp only [readL, numL, List.cons_append, Int.toNat_natCast, htk, hr]
  rw [if_neg (by simp; omega), hb]
  simp [hlen]; omega

/-! ### instructions -/
def encL (x : W) : List Int := match shp x.op with
  | (r, i, _, _, _) => x.op :: ([x.a, x.b, x.c].take r.toNat ++ (if i then numL x.imm (x.op == 30) else []))

def regsOf (op : Int) (r : Nat) (t : List Int) (v : Int) : W :=
  ⟨op, if 1 ≤ r then t.getD 0 0 else 0, if 2 ≤ r then t.getD 1 0 else 0, if 3 ≤ r then t.getD 2 0 else 0, v⟩

def fin (x : W) (n : Nat) : Option (W × Nat) := if formB x then some (x, n) else none

def decS (p : List Int) : Option (W × Nat) :=
  match p with
  | [] => none
  | op :: t => match shp op with
    | (r, i, _, _, ok) =>
      if !ok then none else if decide ((t.length : Int) < r) then none
      else if i then match readL (t.drop r.toNat) (op == 30) with
        | none => none
        | some (v, m) => fin (regsOf op r.toNat t v) (1 + r.toNat + m)
      else fin (regsOf op r.toNat t 0) (1 + r.toNat)

end Go.Proofs.Yteeapfgjjankeaa
