/- The plain arithmetic of instructions as bytes: how many bytes a number takes, its bytes, and reading them back. No program in sight. -/
import Derived.RowKit
import Derived.Laws.Bits64
import Derived.Laws.BitsAllLaws
import Derived.WalkKit
namespace Go.Proofs.Ytgjmdcbdkdmceaa
open Go.RowKit

def minI : Int := -9223372036854775808
def maxI : Int := 9223372036854775807

/-- What an operation names: registers, a number or none, its least and most; and whether there is such an operation. -/
def shp (n : Int) : Int × Bool × Int × Int × Bool :=
  if n == 19 || n == 20 || n == 21 || n == 31 || n == 36 then (2, false, 0, 0, true)
  else if n == 30 then (1, true, minI, maxI, true)
  else if n == 32 || n == 33 then (1, true, 0, 59999, true)
  else if n == 34 || n == 35 then (3, false, 0, 0, true)
  else if n == 37 then (1, true, 1, 256, true)
  else if n == 38 || n == 39 || n == 40 || n == 42 || n == 43 || n == 47 then (1, false, 0, 0, true)
  else if n == 41 || n == 46 then (1, true, 0, maxI, true)
  else if n == 44 || n == 45 then (0, true, 0, maxI, true)
  else if n == 48 then (1, true, 0, 5, true)
  else if decide (1 ≤ n) && decide (n ≤ 16) then (3, false, 0, 0, true)
  else (0, false, 0, 0, false)

structure W where
  op : Int
  a : Int
  b : Int
  c : Int
  imm : Int
deriving DecidableEq

def W.ok (x : W) : Prop := (0 ≤ x.op ∧ x.op ≤ 255) ∧ (0 ≤ x.a ∧ x.a ≤ 255) ∧ (0 ≤ x.b ∧ x.b ≤ 255) ∧ (0 ≤ x.c ∧ x.c ≤ 255) ∧ (-9223372036854775808 ≤ x.imm ∧ x.imm ≤ 9223372036854775807)

def W.zero : W := ⟨0, 0, 0, 0, 0⟩

def formP (r : Int) (i : Bool) (lo hi : Int) (x : W) : Bool :=
  decide (x.a < 16) && decide (x.b < 16) && decide (x.c < 16) && (decide (1 ≤ r) || x.a == 0) && (decide (2 ≤ r) || x.b == 0) && (decide (3 ≤ r) || x.c == 0) &&
    (if i then decide (lo ≤ x.imm) && decide (x.imm ≤ hi) else x.imm == 0)

def formB (x : W) : Bool := match shp x.op with
  | (r, i, lo, hi, ok) => ok && formP r i lo hi x

def trapsB (n : Int) : Bool := n == 4 || n == 5 || n == 34 || n == 35 || n == 43 || n == 41

/-! ### numbers -/
def fitsL (n : Int) (k : Nat) (s : Bool) : Bool :=
  if k = 8 then true else if k = 0 then n == 0 else if s then decide (-(256 ^ k) ≤ 2 * n ∧ 2 * n < 256 ^ k) else decide (0 ≤ n ∧ n < 256 ^ k)

theorem le8 {k : Nat} (h : k ≤ 8) : k = 0 ∨ k = 1 ∨ k = 2 ∨ k = 3 ∨ k = 4 ∨ k = 5 ∨ k = 6 ∨ k = 7 ∨ k = 8 := by omega

theorem fits_s (n : Int) (k : Nat) (h : k ≤ 8) (h8 : k ≠ 8) (h0 : k ≠ 0) (a : -9223372036854775808 ≤ n) (b : n ≤ 9223372036854775807) :
    (wrap64 (n * 2 ^ (64 - 8 * k)) / 2 ^ (64 - 8 * k) == n) = fitsL n k true := by
  rcases le8 h with rfl | rfl | rfl | rfl | rfl | rfl | rfl | rfl | rfl <;> simp [fitsL, wrap64] at * <;>
  (rw [Bool.eq_iff_iff]; simp only [beq_iff_eq, decide_eq_true_eq, Bool.and_eq_true]; omega)

theorem fits_u (n : Int) (k : Nat) (h : k ≤ 8) (h8 : k ≠ 8) (h0 : k ≠ 0) (a : -9223372036854775808 ≤ n) (b : n ≤ 9223372036854775807) :
    (IntKind.u64.wrap n / 2 ^ (8 * k) == 0) = fitsL n k false := by
  rw [IntKind.wrap_u64]
  rcases le8 h with rfl | rfl | rfl | rfl | rfl | rfl | rfl | rfl | rfl <;> simp [fitsL] at * <;>
  (rw [Bool.eq_iff_iff]; simp only [beq_iff_eq, decide_eq_true_eq, Bool.and_eq_true]; omega)

def nbFrom (n : Int) (s : Bool) : Nat → Nat → Nat
  | 0, k => k
  | f + 1, k => if fitsL n k s then k else nbFrom n s f (k + 1)
/-- How many bytes a number takes. -/
def nbL (n : Int) (s : Bool) : Nat := nbFrom n s 8 0

theorem nbFrom_le (n : Int) (s : Bool) : ∀ f k, nbFrom n s f k ≤ k + f
  | 0, k => by simp [nbFrom]
  | f + 1, k => by
    rw [nbFrom]; split
    · omega
    · have := nbFrom_le n s f (k + 1); omega
theorem nbL_le (n : Int) (s : Bool) : nbL n s ≤ 8 := by have := nbFrom_le n s 8 0; simpa [nbL] using this
theorem nbFrom_is (n : Int) (s : Bool) (k : Nat) (hk : fitsL n k s = true) : ∀ f j, j ≤ k → k ≤ j + f → (∀ i, j ≤ i → i < k → fitsL n i s = false) → nbFrom n s f j = k
  | 0, j, h1, h2, _ => by simp [nbFrom]; omega
  | f + 1, j, h1, h2, h3 => by
    rw [nbFrom]
    by_cases e : j = k
    · subst e; simp [hk]
    · rw [h3 j (by omega) (by omega)]; simp only [Bool.false_eq_true, if_false]
      exact nbFrom_is n s k hk f (j + 1) (by omega) (by omega) (fun i hi => h3 i (by omega))
theorem nbL_is (n : Int) (s : Bool) (k : Nat) (h8 : k ≤ 8) (hk : fitsL n k s = true) (h : ∀ i, i < k → fitsL n i s = false) : nbL n s = k :=
  nbFrom_is n s k hk 8 0 (by omega) (by omega) (fun i _ hi => h i hi)
theorem nbFrom_fits (n : Int) (s : Bool) : ∀ f k, f + k = 8 → fitsL n (nbFrom n s f k) s = true ∧ ∀ j, k ≤ j → j < nbFrom n s f k → fitsL n j s = false
  | 0, k, h => by
    have e : k = 8 := by omega
    subst e
    exact ⟨by simp [nbFrom, fitsL], fun j h1 h2 => by simp [nbFrom] at h2; omega⟩
  | f + 1, k, h => by
    rw [nbFrom]
    by_cases e : fitsL n k s = true
    · rw [if_pos e]; exact ⟨e, fun j h1 h2 => by omega⟩
    · rw [if_neg e]
      have ih := nbFrom_fits n s f (k + 1) (by omega)
      refine ⟨ih.1, fun j h1 h2 => ?_⟩
      by_cases ej : j = k
      · subst ej; simpa using e
      · exact ih.2 j (by omega) h2
theorem nbL_fits (n : Int) (s : Bool) : fitsL n (nbL n s) s = true := (nbFrom_fits n s 8 0 rfl).1
theorem nbL_not (n : Int) (s : Bool) (j : Nat) (h : j < nbL n s) : fitsL n j s = false := (nbFrom_fits n s 8 0 rfl).2 j (by omega) h

/-- Its bytes, the lowest first. -/
def bytesL (n : Int) (k : Nat) : List Int := (List.range k).map fun i => n / 256 ^ i % 256
theorem bytesL_length (n : Int) (k : Nat) : (bytesL n k).length = k := by simp [bytesL]
theorem bytesL_succ (n : Int) (k : Nat) : bytesL n (k + 1) = bytesL n k ++ [n / 256 ^ k % 256] := by simp [bytesL, List.range_succ]
theorem bytesL_zero (n : Int) : bytesL n 0 = [] := rfl
theorem byte_bd (n : Int) (k : Nat) : 0 ≤ n / 256 ^ k % 256 ∧ n / 256 ^ k % 256 ≤ 255 := by
  have h1 := Int.emod_nonneg (n / 256 ^ k) (show (256 : Int) ≠ 0 by decide)
  have h2 := Int.emod_lt_of_pos (n / 256 ^ k) (show (0 : Int) < 256 by decide)
  omega
theorem bytesL_bd (n : Int) (k : Nat) : ∀ x ∈ bytesL n k, 0 ≤ x ∧ x ≤ 255 := by
  intro x hx
  simp only [bytesL, List.mem_map, List.mem_range] at hx
  obtain ⟨i, _, rfl⟩ := hx
  exact byte_bd n i
def numL (n : Int) (s : Bool) : List Int := (nbL n s : Int) :: bytesL n (nbL n s)
theorem shr_byte (n : Int) (i : Nat) : n / 2 ^ (8 * i) = n / 256 ^ i := by
  rw [Int.pow_mul]; rfl

/-- The reference's loop: does it go on behind j bytes? -/
def goes (n : Int) (j : Nat) (last : Int) (s : Bool) : Bool :=
  (!(n == 0) && !(n == -1)) || ((n == -1) && ((j == 0) || decide (last < 128))) || (((n == 0) && s) && !(j == 0) && decide (127 < last))

theorem goes_is (n : Int) (j : Nat) (s : Bool) (hj : j ≤ 8) (a : -9223372036854775808 ≤ n) (b : n ≤ 9223372036854775807) (hs : s = false → 0 ≤ n) (last : Int)
    (hl : j = 0 ∧ last = 0 ∨ 1 ≤ j ∧ last = n / 256 ^ (j - 1) % 256) : goes (n / 256 ^ j) j last s = !(fitsL n j s) := by
  rcases le8 hj with rfl | rfl | rfl | rfl | rfl | rfl | rfl | rfl | rfl <;> cases s <;> simp at hs hl <;> subst hl <;> simp [goes, fitsL] <;>
  first | omega | (rw [Bool.eq_iff_iff]; simp only [beq_iff_eq, decide_eq_true_eq, Bool.and_eq_true, Bool.or_eq_true, Bool.not_eq_true', beq_eq_false_iff_ne, decide_eq_false_iff_not, ne_eq]; omega)

end Go.Proofs.Ytgjmdcbdkdmceaa

/- The machine, plainly: its state, what a step does, what many do. No program in sight. -/
namespace Go.Proofs.Ytgjmdcbdkdmceaa
open Go.RowKit

def b01 (p : Bool) : Int := if p then 1 else 0
/-- What an operation of two numbers gives, and its trap (0: none). -/
def valF (op a b : Int) : Int × Int :=
  if op == 1 then (wrap64 (a + b), 0) else if op == 2 then (wrap64 (a - b), 0) else if op == 3 then (wrap64 (a * b), 0)
  else if op == 4 then (if b == 0 then (0, 2) else if b == -1 then (wrap64 (-a), 0) else (wrap64 (a.tdiv b), 0))
  else if op == 5 then (if b == 0 then (0, 2) else if b == -1 then (0, 0) else (a.tmod b, 0))
  else if op == 6 then (bits .and .i64 a b, 0) else if op == 7 then (bits .or .i64 a b, 0) else if op == 8 then (bits .xor .i64 a b, 0)
  else if op == 9 then (wrap64 (a * 2 ^ (b % 64).toNat), 0) else if op == 10 then (a / 2 ^ (b % 64).toNat, 0)
  else if op == 19 then (wrap64 (-a), 0) else if op == 20 then (wrap64 (-1 - a), 0)
  else if op == 11 then (b01 (decide (a < b)), 0) else if op == 12 then (b01 (decide (a ≤ b)), 0) else if op == 13 then (b01 (decide (b < a)), 0)
  else if op == 14 then (b01 (decide (b ≤ a)), 0) else if op == 15 then (b01 (a == b), 0) else if op == 16 then (b01 (a != b), 0)
  else if op == 21 then (b01 (a == 0), 0) else (0, 8)

/-- An open call. -/
structure Fr where
  fn : Int
  next : Int
  regs : List Int
  slots : List Int
  args : List Int
  ready : List Int
  dst : Int
/-- A machine, but for its image and its input; the innermost call stands last. -/
structure St where
  steps : Int
  end_ : Int
  exit : Int
  outs : List Int
  read : Int
  marks : Int
  at_ : Int
  heap : List Int
  opn : List Fr
/-- What a machine runs on. -/
structure Env where
  ws : List W
  es : List (Int × Int)
  inp : List Int

def slotsOk (n : Int) : Bool := decide (0 ≤ n) && decide (n ≤ 60000)
def Env.ent (E : Env) (fn : Int) : Int × Int := E.es.getD fn.toNat (0, 0)
def slotsN (n : Int) : Nat := if slotsOk n then n.toNat else 0
def newFr (E : Env) (fn : Int) (args : List Int) (dst : Int) : Fr := ⟨fn, (E.ent fn).1, List.replicate 16 0, List.replicate (slotsN (E.ent fn).2) 0, args, [], dst⟩
def Fr.r (f : Fr) (i : Int) : Int := f.regs.getD i.toNat 0
def Fr.put (f : Fr) (i v : Int) : Fr := { f with regs := f.regs.set i.toNat v }

/-- A cell of the heap: why there is none, or 0 and its place. -/
def cellF (h : List Int) (a i : Int) : Int × Int :=
  if decide (a < 1) || decide ((h.length : Int) < a) then (8, 0)
  else if decide (i < 0) || decide (h.getD (a - 1).toNat 0 ≤ i) then (3, 0)
  else if decide ((h.length : Int) - a ≤ i) then (8, 0) else (0, a + i)

def St.top (s : St) (os : List Fr) (f : Fr) : St := { s with opn := os ++ [f] }
def St.ends (s : St) (e : Int) : St := { s with end_ := e }

/-- An instruction that is right, in the innermost call f; os: the calls around it. -/
def doF (E : Env) (s : St) (os : List Fr) (f : Fr) (x : W) : St :=
  if x.op == 30 then s.top os (f.put x.a x.imm)
  else if x.op == 31 then s.top os (f.put x.a (f.r x.b))
  else if x.op == 32 then (if decide ((f.slots.length : Int) ≤ x.imm) then (s.ends 8).top os f else s.top os (f.put x.a (f.slots.getD x.imm.toNat 0)))
  else if x.op == 33 then (if decide ((f.slots.length : Int) ≤ x.imm) then (s.ends 8).top os f else s.top os { f with slots := f.slots.set x.imm.toNat (f.r x.a) })
  else if x.op == 34 then (match cellF s.heap (f.r x.b) (f.r x.c) with
    | (e, p) => if e == 0 then s.top os (f.put x.a (s.heap.getD p.toNat 0)) else (s.ends e).top os f)
  else if x.op == 35 then (match cellF s.heap (f.r x.a) (f.r x.b) with
    | (e, p) => if e == 0 then { s with heap := s.heap.set p.toNat (f.r x.c) }.top os f else (s.ends e).top os f)
  else if x.op == 36 then (if decide (f.r x.b < 1) || decide ((s.heap.length : Int) < f.r x.b) then (s.ends 8).top os f else s.top os (f.put x.a (s.heap.getD (f.r x.b - 1).toNat 0)))
  else if x.op == 37 then (if decide (4096 < (s.heap.length : Int) + x.imm + 1) then (s.ends 7).top os f
    else { s with heap := s.heap ++ [x.imm] ++ List.replicate x.imm.toNat 0 }.top os (f.put x.a (s.heap.length + 1)))
  else if x.op == 38 then s.top os (f.put x.a s.heap.length)
  else if x.op == 39 then (if decide (f.r x.a < 0) || decide ((s.heap.length : Int) < f.r x.a) then (s.ends 8).top os f else { s with heap := s.heap.take (f.r x.a).toNat }.top os f)
  else if x.op == 40 then (if decide (6 ≤ f.ready.length) then (s.ends 8).top os f else s.top os { f with ready := f.ready ++ [f.r x.a] })
  else if x.op == 41 then (if decide ((E.es.length : Int) ≤ x.imm) then (s.ends 8).top os f
    else if !slotsOk (E.ent x.imm).2 then (s.ends 8).top os f
    else if decide (100 ≤ os.length + 1) then (s.ends 6).top os f
    else s.top (os ++ [{ f with ready := [] }]) (newFr E x.imm f.ready x.a))
  else if x.op == 42 then { s with outs := s.outs ++ [f.r x.a] }.top os f
  else if x.op == 43 then (if decide ((E.inp.length : Int) ≤ s.read) then (s.ends 4).top os f else { s with read := s.read + 1 }.top os (f.put x.a (E.inp.getD s.read.toNat 0)))
  else if x.op == 44 then { s with marks := wrap64 (s.marks + 1) }.top os f
  else if x.op == 45 then s.top os { f with next := x.imm }
  else if x.op == 46 then (if f.r x.a == 0 then s.top os { f with next := x.imm } else s.top os f)
  else if x.op == 47 then (match os.getLast? with
    | none => { s with opn := [], exit := f.r x.a, end_ := 1 }
    | some g => s.top os.dropLast (g.put f.dst (f.r x.a)))
  else if x.op == 48 then (if decide ((f.args.length : Int) ≤ x.imm) then (s.ends 8).top os f else s.top os (f.put x.a (f.args.getD x.imm.toNat 0)))
  else (match valF x.op (f.r x.b) (f.r x.c) with
    | (n, t) => if t != 0 then (s.ends t).top os f else s.top os (f.put x.a n))

/-- A step, and what it was (0: none). -/
def stepF (E : Env) (s : St) : St × Int :=
  match s.opn.getLast? with
  | none => (s, 0)
  | some f =>
    let s1 := { s with steps := wrap64 (s.steps + 1), at_ := f.next }
    if !slotsOk (E.ent f.fn).2 || decide (f.next < 0) || decide ((E.ws.length : Int) ≤ f.next) then (s1.ends 8, 0)
    else
      let x := E.ws.getD f.next.toNat W.zero
      let f' := { f with next := f.next + 1 }
      if formB x then (doF E s1 s.opn.dropLast f' x, x.op) else ((s1.ends 8).top s.opn.dropLast f', 0)

/-- So many steps; how many were done. -/
def runF (E : Env) : Nat → St → Nat × St
  | 0, s => (0, s)
  | n + 1, s => if s.end_ == 0 then ((runF E n (stepF E s).1).1 + 1, (runF E n (stepF E s).1).2) else (0, s)
/-- Steps till one was a mark. -/
def markF (E : Env) : Nat → St → Bool × St
  | 0, s => (false, s)
  | n + 1, s => if s.end_ == 0 then (if (stepF E s).2 == 44 then (true, (stepF E s).1) else markF E n (stepF E s).1) else (false, s)
/-- A machine at its beginning. -/
def newF (E : Env) (main : Int) : St := ⟨0, 0, 0, [], 0, 0, 0, [], [newFr E main [] 0]⟩

end Go.Proofs.Ytgjmdcbdkdmceaa

/- The machine, plainly: each operation's outcome by itself. -/
namespace Go.Proofs.Ytgjmdcbdkdmceaa.Mach
open Go.RowKit

section
variable (E : Env) (s : St) (os : List Fr) (f : Fr) (a b c i : Int)
theorem doF_30 : doF E s os f ⟨30, a, b, c, i⟩ = s.top os (f.put a i) := rfl
theorem doF_31 : doF E s os f ⟨31, a, b, c, i⟩ = s.top os (f.put a (f.r b)) := rfl
theorem doF_32 : doF E s os f ⟨32, a, b, c, i⟩ = (if decide ((f.slots.length : Int) ≤ i) then (s.ends 8).top os f else s.top os (f.put a (f.slots.getD i.toNat 0))) := rfl
theorem doF_33 : doF E s os f ⟨33, a, b, c, i⟩ = (if decide ((f.slots.length : Int) ≤ i) then (s.ends 8).top os f else s.top os { f with slots := f.slots.set i.toNat (f.r a) }) := rfl
theorem doF_34 : doF E s os f ⟨34, a, b, c, i⟩ = (if (cellF s.heap (f.r b) (f.r c)).1 == 0 then s.top os (f.put a (s.heap.getD (cellF s.heap (f.r b) (f.r c)).2.toNat 0)) else (s.ends (cellF s.heap (f.r b) (f.r c)).1).top os f) := rfl
theorem doF_35 : doF E s os f ⟨35, a, b, c, i⟩ = (if (cellF s.heap (f.r a) (f.r b)).1 == 0 then { s with heap := s.heap.set (cellF s.heap (f.r a) (f.r b)).2.toNat (f.r c) }.top os f else (s.ends (cellF s.heap (f.r a) (f.r b)).1).top os f) := rfl
theorem doF_36 : doF E s os f ⟨36, a, b, c, i⟩ = (if decide (f.r b < 1) || decide ((s.heap.length : Int) < f.r b) then (s.ends 8).top os f else s.top os (f.put a (s.heap.getD (f.r b - 1).toNat 0))) := rfl
theorem doF_37 : doF E s os f ⟨37, a, b, c, i⟩ = (if decide (4096 < (s.heap.length : Int) + i + 1) then (s.ends 7).top os f else { s with heap := s.heap ++ [i] ++ List.replicate i.toNat 0 }.top os (f.put a (s.heap.length + 1))) := rfl
theorem doF_38 : doF E s os f ⟨38, a, b, c, i⟩ = s.top os (f.put a s.heap.length) := rfl
theorem doF_39 : doF E s os f ⟨39, a, b, c, i⟩ = (if decide (f.r a < 0) || decide ((s.heap.length : Int) < f.r a) then (s.ends 8).top os f else { s with heap := s.heap.take (f.r a).toNat }.top os f) := rfl
theorem doF_40 : doF E s os f ⟨40, a, b, c, i⟩ = (if decide (6 ≤ f.ready.length) then (s.ends 8).top os f else s.top os { f with ready := f.ready ++ [f.r a] }) := rfl
theorem doF_41 : doF E s os f ⟨41, a, b, c, i⟩ = (if decide ((E.es.length : Int) ≤ i) then (s.ends 8).top os f else if !slotsOk (E.ent i).2 then (s.ends 8).top os f else if decide (100 ≤ os.length + 1) then (s.ends 6).top os f
    else s.top (os ++ [{ f with ready := [] }]) (newFr E i f.ready a)) := rfl
theorem doF_42 : doF E s os f ⟨42, a, b, c, i⟩ = { s with outs := s.outs ++ [f.r a] }.top os f := rfl
theorem doF_43 : doF E s os f ⟨43, a, b, c, i⟩ = (if decide ((E.inp.length : Int) ≤ s.read) then (s.ends 4).top os f else { s with read := s.read + 1 }.top os (f.put a (E.inp.getD s.read.toNat 0))) := rfl
theorem doF_44 : doF E s os f ⟨44, a, b, c, i⟩ = { s with marks := wrap64 (s.marks + 1) }.top os f := rfl
theorem doF_45 : doF E s os f ⟨45, a, b, c, i⟩ = s.top os { f with next := i } := rfl
theorem doF_46 : doF E s os f ⟨46, a, b, c, i⟩ = (if f.r a == 0 then s.top os { f with next := i } else s.top os f) := rfl
theorem doF_47n : doF E s [] f ⟨47, a, b, c, i⟩ = { s with opn := [], exit := f.r a, end_ := 1 } := rfl
theorem doF_47 (g : Fr) : doF E s (os ++ [g]) f ⟨47, a, b, c, i⟩ = s.top os (g.put f.dst (f.r a)) := by
  show (match (os ++ [g]).getLast? with
    | none => _
    | some g => _) = _
  rw [List.getLast?_append]
  simp
theorem doF_48 : doF E s os f ⟨48, a, b, c, i⟩ = (if decide ((f.args.length : Int) ≤ i) then (s.ends 8).top os f else s.top os (f.put a (f.args.getD i.toNat 0))) := rfl
theorem doF_D (op : Int) (h : op ≤ 29 ∨ 49 ≤ op) : doF E s os f ⟨op, a, b, c, i⟩ = (if (valF op (f.r b) (f.r c)).2 != 0 then (s.ends (valF op (f.r b) (f.r c)).2).top os f else s.top os (f.put a (valF op (f.r b) (f.r c)).1)) := by
  have e : ∀ k : Int, 30 ≤ k → k ≤ 48 → (op == k) = false := fun k h1 h2 => by simp; omega
  unfold doF
  simp only [e 30 (by omega) (by omega), e 31 (by omega) (by omega), e 32 (by omega) (by omega), e 33 (by omega) (by omega), e 34 (by omega) (by omega), e 35 (by omega) (by omega), e 36 (by omega) (by omega), e 37 (by omega) (by omega), e 38 (by omega) (by omega), e 39 (by omega) (by omega),
    e 40 (by omega) (by omega), e 41 (by omega) (by omega), e 42 (by omega) (by omega), e 43 (by omega) (by omega), e 44 (by omega) (by omega), e 45 (by omega) (by omega), e 46 (by omega) (by omega), e 47 (by omega) (by omega), e 48 (by omega) (by omega), Bool.false_eq_true, if_false]
end
end Go.Proofs.Ytgjmdcbdkdmceaa.Mach

/- Plain arithmetic of the operations' values. -/
namespace Go.Proofs.Ytgjmdcbdkdmceaa
open Go.RowKit

theorem bits_mask6 (x : Int) : bits .and .i64 x 63 = x % 64 := by
  have e : BitVec.toNat (BitVec.ofInt IntKind.i64.bits 63) = 2 ^ 6 - 1 := by decide
  have e2 : BitVec.toNat (BitVec.ofInt IntKind.i64.bits x) = (x % 18446744073709551616).toNat := by
    rw [BitVec.toNat_ofInt]; rfl
  simp only [bits, BitVec.toNat_and, e, e2, Nat.and_two_pow_sub_one_eq_mod]
  rw [IntKind.wrap_i64]
  omega
theorem shiftN (b : Int) : min (IntKind.u64.wrap (bits .and .i64 b 63)).toNat 64 = (b % 64).toNat := by
  rw [bits_mask6, IntKind.wrap_u64]; omega
theorem wrap64_in {x : Int} (h : -9223372036854775808 ≤ x ∧ x ≤ 9223372036854775807) : wrap64 x = x := by unfold wrap64; omega
theorem tmod_sgn (a b : Int) : (0 ≤ a → 0 ≤ a.tmod b ∧ a.tmod b ≤ a) ∧ (a ≤ 0 → a ≤ a.tmod b ∧ a.tmod b ≤ 0) := by
  have hn : (a.tmod b).natAbs ≤ a.natAbs := by rw [Int.natAbs_tmod]; exact Nat.mod_le _ _
  refine ⟨fun h => ?_, fun h => ?_⟩
  · have := Int.tmod_nonneg b h
    omega
  · have h2 := Int.tmod_nonneg b (show 0 ≤ -a by omega)
    rw [Int.neg_tmod] at h2
    omega
theorem tdiv_in (a b : Int) (ha : -9223372036854775808 ≤ a ∧ a ≤ 9223372036854775807) (h1 : b ≠ -1) : -9223372036854775808 ≤ a.tdiv b ∧ a.tdiv b ≤ 9223372036854775807 := by
  by_cases h2 : b = 1
  · subst h2; rw [Int.tdiv_one]; exact ha
  have hd : (a.tdiv b).natAbs ≤ a.natAbs / 2 := by
    rw [Int.natAbs_tdiv]
    show a.natAbs / b.natAbs ≤ _
    by_cases h0 : b = 0
    · subst h0; simp
    · exact Nat.div_le_div_left (by omega) (by omega)
  omega
theorem tmod_eq (a b : Int) (ha : -9223372036854775808 ≤ a ∧ a ≤ 9223372036854775807) (h1 : b ≠ -1) : wrap64 (a - wrap64 (wrap64 (a.tdiv b) * b)) = a.tmod b := by
  have hs := tmod_sgn a b
  have hd := Int.tmod_def a b
  rw [wrap64_in (tdiv_in a b ha h1)]
  have e : a.tdiv b * b = a - a.tmod b := by rw [hd, Int.mul_comm]; omega
  rw [e, wrap64_in (x := a - a.tmod b) (by omega), wrap64_in (by omega)]
  omega

end Go.Proofs.Ytgjmdcbdkdmceaa
