/- The plain arithmetic of reading: a number's value from its bytes, and back; instructions as bytes, and back. No program in sight. -/
import Derived.Test.YtgjmdcbdkdmceaaQ14
import Derived.Test.YtgjmdcbdkdmceaaQ13
import Derived.Test.YtgjmdcbdkdmceaaProg
import Derived.Deep.LoopGhost
namespace Go.Proofs.Ytgjmdcbdkdmceaa
open Go.RowKit



def valL : List Int → Int
  | [] => 0
  | b :: r => b + 256 * valL r

theorem valL_bd : ∀ (l : List Int), isB l → 0 ≤ valL l ∧ valL l < 256 ^ l.length
  | [], _ => by simp [valL]
  | b :: r, h => by
    have ih := valL_bd r (fun x hx => h x (List.mem_cons_of_mem _ hx))
    have hb := h b (List.mem_cons_self ..)
    simp only [valL, List.length_cons, Int.pow_succ]
    omega

theorem valL_append (l : List Int) (x : Int) : valL (l ++ [x]) = valL l + 256 ^ l.length * x := by
  induction l with
  | nil => simp [valL]
  | cons b r ih =>
    simp only [List.cons_append, valL, ih, List.length_cons, Int.pow_succ, Int.mul_add, ← Int.mul_assoc, Int.mul_comm (256 ^ r.length) 256]
    omega

/-- A byte of a value. -/
theorem valL_byte : ∀ (l : List Int), isB l → ∀ i, i < l.length → valL l / 256 ^ i % 256 = l.getD i 0
  | [], _, i, hi => by simp at hi
  | b :: r, h, 0, _ => by
    have hb := h b (List.mem_cons_self ..)
    simp [valL]; omega
  | b :: r, h, i + 1, hi => by
    have hb := h b (List.mem_cons_self ..)
    have ih := valL_byte r (fun x hx => h x (List.mem_cons_of_mem _ hx)) i (by simpa using hi)
    have e : (b + 256 * valL r) / 256 = valL r := by omega
    rw [List.getD_cons_succ, ← ih, valL, Int.pow_succ, Int.mul_comm (256 ^ i) 256, ← Int.ediv_ediv_of_nonneg (by decide), e]

theorem bytesL_val (l : List Int) (h : isB l) : bytesL (valL l) l.length = l := by
  apply List.ext_getElem
  · simp [bytesL]
  · intro i h1 h2
    have := valL_byte l h i h2
    simp [bytesL, this, h2]

/-- Bytes are those of any number that is the same modulo 256^k. -/
theorem ediv_emod_pow (n m : Int) (k i : Nat) (hi : i < k) (h : n % 256 ^ k = m % 256 ^ k) : n / 256 ^ i % 256 = m / 256 ^ i % 256 := by
  have hm : ∀ z : Int, z / 256 ^ i % 256 = (z % 256 ^ k) / 256 ^ i % 256 := by
    intro z
    obtain ⟨d, rfl⟩ : ∃ d, k = i + 1 + d := ⟨k - (i + 1), by omega⟩
    have e := Int.emod_add_mul_ediv z (256 ^ (i + 1 + d))
    have hp : (0 : Int) < 256 ^ i := Int.pow_pos (by decide)
    have e1 : (256 : Int) ^ (i + 1 + d) = 256 ^ i * (256 * 256 ^ d) := by rw [Int.pow_add, Int.pow_succ, Int.mul_assoc]
    have e2 : z = z % 256 ^ (i + 1 + d) + 256 ^ i * (256 * (256 ^ d * (z / 256 ^ (i + 1 + d)))) := by
      rw [← Int.mul_assoc 256, ← Int.mul_assoc (256 ^ i), ← e1]; exact e.symm
    have e3 : z / 256 ^ i = (z % 256 ^ (i + 1 + d)) / 256 ^ i + 256 * (256 ^ d * (z / 256 ^ (i + 1 + d))) := by
      conv => lhs; rw [e2]
      rw [Int.add_mul_ediv_left _ _ (by omega)]
    rw [e3]; omega
  rw [hm n, hm m, h]

theorem bytesL_congr (n m : Int) (k : Nat) (h : n % 256 ^ k = m % 256 ^ k) : bytesL n k = bytesL m k := by
  unfold bytesL
  apply List.map_congr_left
  intro i hi
  exact ediv_emod_pow n m k i (by simpa using hi) h

/-- What is read off so many bytes. -/
def readV (bs : List Int) (s : Bool) : Int :=
  if s && decide (0 < bs.length) then wrap64 (wrap64 (valL bs) * 2 ^ (64 - 8 * bs.length)) / 2 ^ (64 - 8 * bs.length) else wrap64 (valL bs)

theorem readV_facts (bs : List Int) (s : Bool) (h : isB bs) (hl : bs.length ≤ 8) :
    (-9223372036854775808 ≤ readV bs s ∧ readV bs s ≤ 9223372036854775807) ∧ readV bs s % 256 ^ bs.length = valL bs % 256 ^ bs.length ∧
    (s = true ∨ 0 ≤ readV bs s → fitsL (readV bs s) bs.length s = true) := by
  have hb := valL_bd bs h
  unfold readV
  generalize valL bs = v at *
  generalize bs.length = k at *
  rcases le8 hl with rfl | rfl | rfl | rfl | rfl | rfl | rfl | rfl | rfl <;> cases s <;> simp [wrap64, fitsL] at * <;> omega

theorem fitsL_mono (n : Int) (j k : Nat) (s : Bool) (hjk : j ≤ k) (hk : k ≤ 8) (h : fitsL n j s = true) (a : -9223372036854775808 ≤ n) (b : n ≤ 9223372036854775807) : fitsL n k s = true := by
  rcases le8 (Nat.le_trans hjk hk) with rfl | rfl | rfl | rfl | rfl | rfl | rfl | rfl | rfl <;>
  rcases le8 hk with rfl | rfl | rfl | rfl | rfl | rfl | rfl | rfl | rfl <;> first | (exfalso; omega) | (cases s <;> simp [fitsL] at * <;> omega)

/-- The bytes are the number's own just if there are none too many. -/
theorem numL_read (bs : List Int) (s : Bool) (h : isB bs) (hl : bs.length ≤ 8) (hs : s = true ∨ 0 ≤ readV bs s) :
    (numL (readV bs s) s = (bs.length : Int) :: bs) ↔ (bs.length = 0 ∨ fitsL (readV bs s) (bs.length - 1) s = false) := by
  obtain ⟨⟨r1, r2⟩, hm, hf⟩ := readV_facts bs s h hl
  have hf := hf hs
  constructor
  · intro e
    by_cases h0 : bs.length = 0
    · exact .inl h0
    · right
      simp only [numL, List.cons.injEq] at e
      have : nbL (readV bs s) s = bs.length := by omega
      exact nbL_not _ _ _ (by omega)
  · intro e
    have hn : nbL (readV bs s) s = bs.length := by
      refine nbL_is _ _ _ hl hf (fun i hi => ?_)
      rcases e with e | e
      · omega
      · cases hfi : fitsL (readV bs s) i s
        · rfl
        · have := fitsL_mono _ i (bs.length - 1) s (by omega) (by omega) hfi r1 r2
          rw [this] at e; cases e
    simp only [numL, hn, List.cons.injEq, true_and]
    rw [bytesL_congr _ _ _ hm, bytesL_val bs h]

def readL (q : List Int) (s : Bool) : Option (Int × Nat) :=
  match q with
  | [] => none
  | k :: t => if decide (8 < k) || decide ((t.length : Int) < k) then none
    else if k == 0 || !(fitsL (readV (t.take k.toNat) s) (k.toNat - 1) s) then some (readV (t.take k.toNat) s, 1 + k.toNat) else none

theorem valL_bytesL (n : Int) : ∀ k, valL (bytesL n k) = n % 256 ^ k
  | 0 => by simp [bytesL, valL]
  | k + 1 => by
    have ih := valL_bytesL n k
    have hp : (0 : Int) < 256 ^ k := Int.pow_pos (by decide)
    have hb1 := Int.emod_nonneg n (show (256 : Int) ^ k ≠ 0 by omega)
    have hb2 := Int.emod_lt_of_pos n hp
    have hd := byte_bd n k
    rw [bytesL_succ, valL_append, bytesL_length, ih]
    have e1 := Int.emod_add_mul_ediv n (256 ^ k)
    have e2 := Int.emod_add_mul_ediv (n / 256 ^ k) 256
    have e3 : n = (n % 256 ^ k + 256 ^ k * (n / 256 ^ k % 256)) + 256 ^ (k + 1) * (n / 256 ^ k / 256) := by
      have : (256 : Int) ^ (k + 1) * (n / 256 ^ k / 256) = 256 ^ k * (256 * (n / 256 ^ k / 256)) := by rw [Int.pow_succ, Int.mul_assoc]
      rw [this, Int.add_assoc, ← Int.mul_add, e2]; exact e1.symm
    have hle : 256 ^ k * (n / 256 ^ k % 256) ≤ 256 ^ k * 255 := Int.mul_le_mul_of_nonneg_left hd.2 (by omega)
    have hge : 0 ≤ 256 ^ k * (n / 256 ^ k % 256) := Int.mul_nonneg (by omega) hd.1
    have hm : (n % 256 ^ k + 256 ^ k * (n / 256 ^ k % 256)) % 256 ^ (k + 1) = n % 256 ^ k + 256 ^ k * (n / 256 ^ k % 256) :=
      Int.emod_eq_of_lt (by omega) (by rw [Int.pow_succ]; omega)
    have e4 : n % 256 ^ (k + 1) = ((n % 256 ^ k + 256 ^ k * (n / 256 ^ k % 256)) + 256 ^ (k + 1) * (n / 256 ^ k / 256)) % 256 ^ (k + 1) := congrArg (· % 256 ^ (k + 1)) e3
    rw [e4, Int.add_mul_emod_self_left, hm]

theorem readV_bytesL (n : Int) (s : Bool) (k : Nat) (hk : k ≤ 8) (a : -9223372036854775808 ≤ n) (b : n ≤ 9223372036854775807) (hf : fitsL n k s = true) : readV (bytesL n k) s = n := by
  unfold readV
  rw [valL_bytesL, bytesL_length]
  rcases le8 hk with rfl | rfl | rfl | rfl | rfl | rfl | rfl | rfl | rfl <;> cases s <;> simp [wrap64, fitsL] at * <;> omega

theorem readL_num (n : Int) (s : Bool) (more : List Int) (a : -9223372036854775808 ≤ n) (b : n ≤ 9223372036854775807) :
    readL (numL n s ++ more) s = some (n, (numL n s).length) := by
  have h8 := nbL_le n s
  have hlen := bytesL_length n (nbL n s)
  have htk : (bytesL n (nbL n s) ++ more).take (nbL n s) = bytesL n (nbL n s) := by
    rw [List.take_append_of_le_length (by omega), List.take_of_length_le (by omega)]
  have hr := readV_bytesL n s (nbL n s) h8 a b (nbL_fits n s)
  have hb : (if ((nbL n s : Int) == 0 || !(fitsL n (nbL n s - 1) s)) = true then some (n, 1 + nbL n s) else none) = some (n, 1 + nbL n s) := by
    rw [if_pos]
    by_cases h0 : nbL n s = 0
    · simp [h0]
    · rw [nbL_not n s _ (by omega)]; simp
  simp only [readL, numL, List.cons_append, Int.toNat_natCast, htk, hr]
  rw [if_neg (by simp; omega), hb]
  simp [hlen]; omega

/-! ### instructions -/
def encL (x : W) : List Int := match shp x.op with
  | (r, i, _, _, _) => x.op :: ([x.a, x.b, x.c].take r.toNat ++ (if i then numL x.imm (x.op == 30) else []))

def regsOf (op : Int) (r : Nat) (t : List Int) (v : Int) : W :=
  ⟨op, if 1 ≤ r then t.getD 0 0 else 0, if 2 ≤ r then t.getD 1 0 else 0, if 3 ≤ r then t.getD 2 0 else 0, v⟩

def fin (x : W) (n : Nat) : Option (W × Nat) := if formB x then some (x, n) else none

def decS (p : List Int) : Option (W × Nat) :=
  match p with
  | [] => none
  | op :: t => match shp op with
    | (r, i, _, _, ok) =>
      if !ok then none else if decide ((t.length : Int) < r) then none
      else if i then match readL (t.drop r.toNat) (op == 30) with
        | none => none
        | some (v, m) => fin (regsOf op r.toNat t v) (1 + r.toNat + m)
      else fin (regsOf op r.toNat t 0) (1 + r.toNat)

end Go.Proofs.Ytgjmdcbdkdmceaa

/- The plain law of instructions: they are written and read again; the two readers agree. No program in sight. -/
namespace Go.Proofs.Ytgjmdcbdkdmceaa
open Go.RowKit

theorem shp_rr : ∀ k : Fin 256, (shp ((k.val : Nat) : Int)).1 = 0 ∨ (shp ((k.val : Nat) : Int)).1 = 1 ∨ (shp ((k.val : Nat) : Int)).1 = 2 ∨ (shp ((k.val : Nat) : Int)).1 = 3 := by decide +kernel
theorem shp_rcase {n r lo hi : Int} {i ok : Bool} (h0 : 0 ≤ n) (h1 : n ≤ 255) (h : shp n = (r, i, lo, hi, ok)) : r = 0 ∨ r = 1 ∨ r = 2 ∨ r = 3 := by
  have := shp_rr ⟨n.toNat, by omega⟩
  simp only [Int.toNat_of_nonneg h0] at this
  rw [h] at this
  exact this

theorem shp_lo : ∀ k : Fin 256, ((k.val : Nat) : Int) ≠ 30 → 0 ≤ (shp ((k.val : Nat) : Int)).2.2.1 := by decide +kernel
theorem shp_lo0 {n r lo hi : Int} {i ok : Bool} (h0 : 0 ≤ n) (h1 : n ≤ 255) (h : shp n = (r, i, lo, hi, ok)) (hn : n ≠ 30) : 0 ≤ lo := by
  have := shp_lo ⟨n.toNat, by omega⟩
  simp only [Int.toNat_of_nonneg h0] at this
  rw [h] at this
  exact this hn
theorem form_lo {x : W} {r lo hi : Int} {ok : Bool} (hf : formB x = true) (h : shp x.op = (r, true, lo, hi, ok)) : lo ≤ x.imm := by
  simp only [formB, h, formP, Bool.and_eq_true, if_true, decide_eq_true_eq] at hf
  exact hf.2.2.1

/-- A right instruction is read back from its bytes, whatever stands behind. -/
theorem decS_enc (x : W) (hx : x.ok) (hf : formB x = true) (more : List Int) : decS (encL x ++ more) = some (x, (encL x).length) := by
  obtain ⟨op, a, b, c, imm⟩ := x
  obtain ⟨⟨o0, o1⟩, ⟨a0, a1⟩, ⟨b0, b1⟩, ⟨c0, c1⟩, ⟨i0, i1⟩⟩ := hx
  obtain ⟨r, i, lo, hi, ok, hs⟩ : ∃ r i lo hi ok, shp op = (r, i, lo, hi, ok) := ⟨_, _, _, _, _, rfl⟩
  simp only at o0 o1 a0 a1 b0 b1 c0 c1 i0 i1
  have hr := shp_rcase o0 o1 hs
  have hf2 := hf
  simp only [formB, hs, Bool.and_eq_true] at hf2
  obtain ⟨rfl, hp⟩ := hf2
  simp only [formP, Bool.and_eq_true, Bool.or_eq_true, decide_eq_true_eq, beq_iff_eq] at hp
  simp only [encL, hs]
  cases i
  · simp at hp
    obtain ⟨⟨⟨⟨⟨⟨p1, p2⟩, p3⟩, p4⟩, p5⟩, p6⟩, rfl⟩ := hp
    rcases hr with rfl | rfl | rfl | rfl <;> simp at p4 p5 p6 <;> (try subst p4) <;> (try subst p5) <;> (try subst p6) <;> simp [decS, hs, fin, regsOf, hf] <;> omega
  · simp at hp
    obtain ⟨⟨⟨⟨⟨⟨p1, p2⟩, p3⟩, p4⟩, p5⟩, p6⟩, p7, p8⟩ := hp
    have hR := readL_num imm (op == 30) more i0 i1
    rcases hr with rfl | rfl | rfl | rfl <;> simp at p4 p5 p6 <;> (try subst p4) <;> (try subst p5) <;> (try subst p6) <;> simp [decS, hs, fin, regsOf, hf, hR] <;> omega

theorem readL_some {q : List Int} {s : Bool} {v : Int} {m : Nat} (hB : isB q) (h : readL q s = some (v, m)) :
    (-9223372036854775808 ≤ v ∧ v ≤ 9223372036854775807) ∧ 1 ≤ m ∧ m ≤ q.length ∧ (s = true ∨ 0 ≤ v → numL v s = q.take m) := by
  cases q with
  | nil => simp [readL] at h
  | cons k t =>
    have hk := hB k (List.mem_cons_self ..)
    simp only [readL] at h
    split at h
    · cases h
    · rename_i h1
      simp at h1
      have hlen : (t.take k.toNat).length = k.toNat := by rw [List.length_take]; omega
      have hB2 : isB (t.take k.toNat) := fun x hx => hB x (List.mem_cons_of_mem _ (List.mem_of_mem_take hx))
      obtain ⟨hr, _, _⟩ := readV_facts (t.take k.toNat) s hB2 (by omega)
      have hN := fun hs => numL_read (t.take k.toNat) s hB2 (by omega) hs
      rw [hlen] at hN
      split at h
      · rename_i h2
        simp only [Option.some.injEq, Prod.mk.injEq] at h
        obtain ⟨rfl, rfl⟩ := h
        refine ⟨hr, by omega, by simp; omega, fun hs => ?_⟩
        rw [(hN hs).2 (by simp at h2; rcases h2 with h2 | h2; · left; omega
                          · right; exact h2)]
        rw [Nat.add_comm, List.take_succ_cons, Int.toNat_of_nonneg hk.1]
      · cases h

/-- What is read is right, and has the bytes that it was read from. -/
theorem decS_some {p : List Int} {x : W} {n : Nat} (hB : isB p) (h : decS p = some (x, n)) : x.ok ∧ formB x = true ∧ encL x = p.take n ∧ 1 ≤ n ∧ n ≤ p.length := by
  cases p with
  | nil => simp [decS] at h
  | cons op t =>
    have ho := hB op (List.mem_cons_self ..)
    have hBt : isB t := fun x hx => hB x (List.mem_cons_of_mem _ hx)
    obtain ⟨r, i, lo, hi, ok, hs⟩ : ∃ r i lo hi ok, shp op = (r, i, lo, hi, ok) := ⟨_, _, _, _, _, rfl⟩
    have hr := shp_rcase ho.1 ho.2 hs
    simp only [decS, hs] at h
    have hg : ∀ j : Nat, 0 ≤ t.getD j 0 ∧ t.getD j 0 ≤ 255 := by
      intro j
      by_cases hj : j < t.length
      · have := hBt t[j] (List.getElem_mem hj); simpa [hj] using this
      · simp [List.getElem?_eq_none (Nat.le_of_not_lt hj)]
    split at h
    · cases h
    · split at h
      · cases h
      · rename_i hk hl
        simp at hl
        have g0 := hg 0
        have g1 := hg 1
        have g2 := hg 2
        have hok : ∀ v : Int, -9223372036854775808 ≤ v → v ≤ 9223372036854775807 → (regsOf op r.toNat t v).ok := by
          intro v v1 v2
          refine ⟨ho, ?_, ?_, ?_, v1, v2⟩ <;> (simp only [regsOf]; split <;> omega)
        have hreg : ∀ v : Int, ([(regsOf op r.toNat t v).a, (regsOf op r.toNat t v).b, (regsOf op r.toNat t v).c]).take r.toNat = t.take r.toNat := by
          intro v
          rcases hr with rfl | rfl | rfl | rfl
          · simp
          · match t, hl with
            | y0 :: t', _ => simp [regsOf]
          · match t, hl with
            | y0 :: y1 :: t', _ => simp [regsOf]
          · match t, hl with
            | y0 :: y1 :: y2 :: t', _ => simp [regsOf]
        split at h
        · rename_i hi'
          subst hi'
          have hBd : isB (t.drop r.toNat) := fun x hx => hBt x (List.mem_of_mem_drop hx)
          split at h
          · cases h
          · rename_i v m hrd
            simp only [fin] at h
            split at h
            · rename_i hf
              simp only [Option.some.injEq, Prod.mk.injEq] at h
              obtain ⟨rfl, rfl⟩ := h
              obtain ⟨⟨v1, v2⟩, m1, m2, hn⟩ := readL_some hBd hrd
              have hpos : (op == 30) = true ∨ 0 ≤ v := by
                by_cases h30 : op = 30
                · left; simp [h30]
                · right
                  have := form_lo (x := regsOf op r.toNat t v) hf hs
                  have := shp_lo0 ho.1 ho.2 hs h30
                  have e2 : (regsOf op r.toNat t v).imm = v := rfl
                  omega
              refine ⟨hok v v1 v2, hf, ?_, by omega, by simp at m2 ⊢; omega⟩
              have e1 : (regsOf op r.toNat t v).op = op := rfl
              have e2 : (regsOf op r.toNat t v).imm = v := rfl
              simp only [encL, e1, hs, e2, if_true, hreg, hn hpos]
              rw [show 1 + r.toNat + m = (r.toNat + m) + 1 from by omega, List.take_succ_cons, List.take_add]
            · cases h
        · rename_i hi'
          simp only [fin] at h
          split at h
          · rename_i hf
            simp only [Option.some.injEq, Prod.mk.injEq] at h
            obtain ⟨rfl, rfl⟩ := h
            refine ⟨hok 0 (by omega) (by omega), hf, ?_, by omega, by simp; omega⟩
            have e1 : (regsOf op r.toNat t 0).op = op := rfl
            simp only [encL, e1, hs, hi', hreg]
            simp [Nat.add_comm 1]
          · cases h
end Go.Proofs.Ytgjmdcbdkdmceaa

/- Lists of instructions in memory, and their bytes one behind the other. -/
namespace Go.Proofs.Ytgjmdcbdkdmceaa
open Go.RowKit

def cW : List W → List Value
  | [] => []
  | x :: r => .int .u8 x.op :: .int .u8 x.a :: .int .u8 x.b :: .int .u8 x.c :: .int .i64 x.imm :: cW r

theorem cW_length : ∀ l, (cW l).length = l.length * 5
  | [] => rfl
  | x :: r => by simp [cW, cW_length r]; omega
theorem cW_append : ∀ l r, cW (l ++ r) = cW l ++ cW r
  | [], r => rfl
  | x :: l, r => by simp [cW, cW_append l r]
theorem cW_at : ∀ (l : List W) (j : Nat) (h : j < l.length), (cW l)[j * 5]? = some (.int .u8 l[j].op) ∧ (cW l)[j * 5 + 1]? = some (.int .u8 l[j].a) ∧ (cW l)[j * 5 + 2]? = some (.int .u8 l[j].b) ∧ (cW l)[j * 5 + 3]? = some (.int .u8 l[j].c) ∧ (cW l)[j * 5 + 4]? = some (.int .i64 l[j].imm)
  | x :: r, 0, _ => by simp [cW]
  | x :: r, j + 1, h => by
    have ih := cW_at r j (by simpa using h)
    have e : (j + 1) * 5 = j * 5 + 1 + 1 + 1 + 1 + 1 := by omega
    rw [e]
    simpa [cW] using ih
theorem cW_one : ∀ (l : List W), ∀ u ∈ cW l, u.oneCell' = true
  | [], u, h => by simp [cW] at h
  | x :: r, u, h => by
    simp [cW] at h
    rcases h with rfl | rfl | rfl | rfl | rfl | h
    · rfl
    · rfl
    · rfl
    · rfl
    · rfl
    · exact cW_one r u h
theorem cW_take : ∀ (l : List W) (k : Nat), (cW l).take (k * 5) = cW (l.take k)
  | [], k => by simp [cW]
  | x :: r, 0 => by simp [cW]
  | x :: r, k + 1 => by
    have e : (k + 1) * 5 = k * 5 + 1 + 1 + 1 + 1 + 1 := by omega
    rw [e]
    simp [cW, cW_take r k]

def RdW (w : World) (v : Value) (l : List W) : Prop := Rd w 5 v l.length (cW l)

theorem RdW.split {w : World} {v : Value} {l : List W} (h : RdW w v l) :
    (∃ a c, v = .slice a 0 c ∧ l = []) ∨ ∃ b off c, v = .slice (some ⟨b, off, none⟩) l.length c ∧ 0 < l.length ∧ l.length ≤ c ∧ c ≤ 9223372036854775807 ∧ b < w.heap.size ∧
      ∀ j, (hj : j < l.length) → w.cell? ⟨b, off + j * 5, none⟩ = some (.int .u8 l[j].op) ∧ w.cell? ⟨b, off + j * 5 + 1, none⟩ = some (.int .u8 l[j].a) ∧ w.cell? ⟨b, off + j * 5 + 2, none⟩ = some (.int .u8 l[j].b) ∧ w.cell? ⟨b, off + j * 5 + 3, none⟩ = some (.int .u8 l[j].c) ∧ w.cell? ⟨b, off + j * 5 + 4, none⟩ = some (.int .i64 l[j].imm) := by
  rcases Rd.split h (by omega) with ⟨a, c, rfl, h0, _⟩ | ⟨b, off, c, rfl, h1, h2, h3, h4, h5⟩
  · exact .inl ⟨a, c, rfl, List.eq_nil_of_length_eq_zero h0⟩
  · refine .inr ⟨b, off, c, rfl, h1, h2, h3, h4, fun j hj => ?_⟩
    obtain ⟨e1, e2, e3, e4, e5⟩ := cW_at l j hj
    have hl := cW_length l
    obtain ⟨i1, e1⟩ := List.getElem?_eq_some_iff.1 e1
    obtain ⟨i2, e2⟩ := List.getElem?_eq_some_iff.1 e2
    obtain ⟨i3, e3⟩ := List.getElem?_eq_some_iff.1 e3
    obtain ⟨i4, e4⟩ := List.getElem?_eq_some_iff.1 e4
    obtain ⟨i5, e5⟩ := List.getElem?_eq_some_iff.1 e5
    refine ⟨?_, ?_, ?_, ?_, ?_⟩
    · rw [h5 _ i1, e1]
    · rw [Nat.add_assoc, h5 _ i2, e2]
    · rw [Nat.add_assoc, h5 _ i3, e3]
    · rw [Nat.add_assoc, h5 _ i4, e4]
    · rw [Nat.add_assoc, h5 _ i5, e5]

theorem RdW.take {w : World} {a : Option Addr} {c n k : Nat} {l : List W} (h : RdW w (.slice a n c) l) (hk : k ≤ n) (hn : n = l.length := by rfl) : RdW w (.slice a k c) (l.take k) := by
  subst hn
  have h2 := Rd.take h hk
  rw [cW_take] at h2
  unfold RdW
  rw [List.length_take, Nat.min_eq_left hk]
  exact h2

theorem encL_len (x : W) : (encL x).length ≤ 13 := by
  unfold encL
  rcases shp x.op with ⟨r, i, lo, hi, ok⟩
  have := nbL_le x.imm (x.op == 30)
  cases i <;> simp [numL, bytesL_length] <;> omega

/-- Their bytes. -/
def packL (l : List W) : List Int := l.flatMap encL

theorem packL_append (l r : List W) : packL (l ++ r) = packL l ++ packL r := by simp [packL]
theorem packL_take {l : List W} {j : Nat} (h : j < l.length) : packL (l.take (j + 1)) = packL (l.take j) ++ encL l[j] := by
  rw [List.take_succ_eq_append_getElem h, packL_append]; simp [packL]
theorem packL_length {l : List W} {k : Nat} (hl : l.length ≤ k) : (packL l).length ≤ k * 13 := by
  induction l generalizing k with
  | nil => simp [packL]
  | cons x r ih =>
    obtain ⟨m, rfl⟩ : ∃ m, k = m + 1 := ⟨k - 1, by simp at hl; omega⟩
    have := ih (k := m) (by simpa using hl)
    have h2 := encL_len x
    simp only [packL, List.flatMap_cons, List.length_append] at *
    omega
theorem packL_bd {l : List W} (h : ∀ x ∈ l, isB (encL x)) : isB (packL l) := by
  intro v hv
  simp only [packL, List.mem_flatMap] at hv
  obtain ⟨x, hx, hv⟩ := hv
  exact h x hx v hv

/-- Read one by one, until nothing is left: 3: somewhere there is none; 2: more than there is room for. -/
def unpF : Nat → Nat → List Int → Except Int (List W)
  | _, _, [] => .ok []
  | 0, _, _ :: _ => .error 0
  | f + 1, m, x :: p => match decS (x :: p) with
    | none => .error 3
    | some (y, n) => if m = 0 then .error 2 else (unpF f (m - 1) ((x :: p).drop n)).map (y :: ·)
def unpL (m : Nat) (p : List Int) : Except Int (List W) := unpF p.length m p

theorem unpF_cons (f m : Nat) (x : Int) (p : List Int) : unpF (f + 1) m (x :: p) = (match decS (x :: p) with
    | none => .error 3
    | some (y, n) => if m = 0 then .error 2 else (unpF f (m - 1) ((x :: p).drop n)).map (y :: ·)) := rfl
theorem unpF_enough : ∀ (f g m : Nat) (p : List Int), p.length ≤ f → p.length ≤ g → isB p → unpF f m p = unpF g m p
  | f, g, m, [], _, _, _ => by cases f <;> cases g <;> rfl
  | 0, _, m, x :: p, h, _, _ => by simp at h
  | _ + 1, 0, m, x :: p, _, h, _ => by simp at h
  | f + 1, g + 1, m, x :: p, h1, h2, hB => by
    rw [unpF_cons, unpF_cons]
    cases hd : decS (x :: p) with
    | none => rfl
    | some yn =>
      obtain ⟨y, n⟩ := yn
      obtain ⟨_, _, _, h5, h6⟩ := decS_some hB hd
      simp only [List.length_cons] at h1 h2 h6
      have hl : ((x :: p).drop n).length = p.length + 1 - n := by simp
      show ite _ _ _ = ite _ _ _
      rw [unpF_enough f g (m - 1) ((x :: p).drop n) (by omega) (by omega) (fun v hv => hB v (List.mem_of_mem_drop hv))]
theorem unpL_nil (m : Nat) : unpL m [] = .ok [] := rfl
theorem unpL_step {p : List Int} {y : W} {n m : Nat} (hB : isB p) (h : decS p = some (y, n)) : unpL (m + 1) p = (unpL m (p.drop n)).map (y :: ·) := by
  obtain ⟨_, _, _, h5, h6⟩ := decS_some hB h
  cases p with
  | nil => simp at h6; omega
  | cons x p =>
    unfold unpL
    rw [List.length_cons, unpF_cons, h]
    show Except.map _ _ = Except.map _ _
    simp only [List.length_cons] at h6
    rw [unpF_enough p.length ((x :: p).drop n).length _ ((x :: p).drop n) (by simp; omega) (by omega) (fun v hv => hB v (List.mem_of_mem_drop hv))]; rfl
theorem unpL_full {p : List Int} {y : W} {n : Nat} (hB : isB p) (h : decS p = some (y, n)) : unpL 0 p = .error 2 := by
  obtain ⟨_, _, _, h5, h6⟩ := decS_some hB h
  cases p with
  | nil => simp at h6; omega
  | cons x p =>
    unfold unpL
    rw [List.length_cons, unpF_cons, h]; rfl
theorem unpL_no {p : List Int} {m : Nat} (hp : p ≠ []) (h : decS p = none) : unpL m p = .error 3 := by
  cases p with
  | nil => exact absurd rfl hp
  | cons x p =>
    unfold unpL
    rw [List.length_cons, unpF_cons, h]
theorem unpL_pack : ∀ (l : List W) (m : Nat), l.length ≤ m → (∀ x ∈ l, x.ok) → l.all formB = true → (∀ x ∈ l, isB (encL x)) → unpL m (packL l) = .ok l
  | [], _, _, _, _, _ => rfl
  | x :: r, 0, hm, _, _, _ => by simp at hm
  | x :: r, m + 1, hm, hx, hf, hb => by
    simp only [List.all_cons, Bool.and_eq_true] at hf
    have hd := decS_enc x (hx x (by simp)) hf.1 (packL r)
    have hB : isB (encL x ++ packL r) := by
      intro v hv
      rcases List.mem_append.1 hv with h | h
      · exact hb x (by simp) v h
      · exact packL_bd (fun y hy => hb y (by simp [hy])) v h
    show unpL _ (encL x ++ packL r) = _
    rw [unpL_step hB hd, List.drop_left, unpL_pack r m (by simpa using hm) (fun y hy => hx y (by simp [hy])) hf.2 (fun y hy => hb y (by simp [hy]))]
    rfl
theorem unpL_over : ∀ (l : List W) (m : Nat), m < l.length → (∀ x ∈ l, x.ok) → l.all formB = true → (∀ x ∈ l, isB (encL x)) → unpL m (packL l) = .error 2
  | [], _, hm, _, _, _ => by simp at hm
  | x :: r, m, hm, hx, hf, hb => by
    simp only [List.all_cons, Bool.and_eq_true] at hf
    have hd := decS_enc x (hx x (by simp)) hf.1 (packL r)
    have hB : isB (encL x ++ packL r) := by
      intro v hv
      rcases List.mem_append.1 hv with h | h
      · exact hb x (by simp) v h
      · exact packL_bd (fun y hy => hb y (by simp [hy])) v h
    show unpL _ (encL x ++ packL r) = _
    cases m with
    | zero => exact unpL_full hB hd
    | succ m =>
      rw [unpL_step hB hd, List.drop_left, unpL_over r m (by simpa using hm) (fun y hy => hx y (by simp [hy])) hf.2 (fun y hy => hb y (by simp [hy]))]
      rfl
end Go.Proofs.Ytgjmdcbdkdmceaa
