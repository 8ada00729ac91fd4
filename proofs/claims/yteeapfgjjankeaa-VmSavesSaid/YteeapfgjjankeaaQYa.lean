/- The machine, plainly: its state, what a step does, what many do. No program in sight. -/
import Derived.Test.YteeapfgjjankeaaQ13
namespace Go.Proofs.Yteeapfgjjankeaa
open Go.RowKit

def b01 (p : Bool) : Int := if p then 1 else 0
/-- What an operation of two numbers gives, and its trap (0: none). -/
def valF (op a b : Int) : Int × Int :=
  if op == 1 then (wrap64 (a + b), 0) else if op == 2 then (wrap64 (a - b), 0) else if op == 3 then (wrap64 (a * b), 0)
  else if op == 4 then (if b == 0 then (0, 2) else if b == -1 then (wrap64 (-a), 0) else (wrap64 (a.tdiv b), 0))
  else if op == 5 then (if b == 0 then (0, 2) else if b == -1 then (0, 0) else (a.tmod b, 0))
  else if op == 6 then (bits .and .i64 a b, 0) else if op == 7 then (bits .or .i64 a b, 0) else if op == 8 then (bits .xor .i64 a b, 0)
  else if op == 9 then (wrap64 (a * 2 ^ (b % 64).toNat), 0) else if op == 10 then (a / 2 ^ (b % 64).toNat, 0)
  else if op == 19 then (wrap64 (-a), 0) else if op == 20 then (wrap64 (-1 - a), 0)
  else if op == 11 then (b01 (decide (a < b)), 0) else if op == 12 then (b01 (decide (a ≤ b)), 0) else if op == 13 then (b01 (decide (b < a)), 0)
  else if op == 14 then (b01 (decide (b ≤ a)), 0) else if op == 15 then (b01 (a == b), 0) else if op == 16 then (b01 (a != b), 0)
  else if op == 21 then (b01 (a == 0), 0) else (0, 8)

/-- An open call. -/
structure Fr where
  fn : Int
  next : Int
  regs : List Int
  slots : List Int
  args : List Int
  ready : List Int
  dst : Int
/-- A machine, but for its image and its input; the innermost call stands last. -/
structure St where
  steps : Int
  end_ : Int
  exit : Int
  outs : List Int
  read : Int
  marks : Int
  at_ : Int
  heap : List Int
  opn : List Fr
/-- What a machine runs on. -/
structure Env where
  ws : List W
  es : List (Int × Int)
  inp : List Int

def slotsOk (n : Int) : Bool := decide (0 ≤ n) && decide (n ≤ 60000)
def Env.ent (E : Env) (fn : Int) : Int × Int := E.es.getD fn.toNat (0, 0)
def slotsN (n : Int) : Nat := if slotsOk n then n.toNat else 0
def newFr (E : Env) (fn : Int) (args : List Int) (dst : Int) : Fr := ⟨fn, (E.ent fn).1, List.replicate 16 0, List.replicate (slotsN (E.ent fn).2) 0, args, [], dst⟩
def Fr.r (f : Fr) (i : Int) : Int := f.regs.getD i.toNat 0
def Fr.put (f : Fr) (i v : Int) : Fr := { f with regs := f.regs.set i.toNat v }

/-- A cell of the heap: why there is none, or 0 and its place. -/
def cellF (h : List Int) (a i : Int) : Int × Int :=
  if decide (a < 1) || decide ((h.length : Int) < a) then (8, 0)
  else if decide (i < 0) || decide (h.getD (a - 1).toNat 0 ≤ i) then (3, 0)
  else if decide ((h.length : Int) - a ≤ i) then (8, 0) else (0, a + i)

def St.top (s : St) (os : List Fr) (f : Fr) : St := { s with opn := os ++ [f] }
def St.ends (s : St) (e : Int) : St := { s with end_ := e }

/-- An instruction that is right, in the innermost call f; os: the calls around it. -/
def doF (E : Env) (s : St) (os : List Fr) (f : Fr) (x : W) : St :=
  if x.op == 30 then s.top os (f.put x.a x.imm)
  else if x.op == 31 then s.top os (f.put x.a (f.r x.b))
  else if x.op == 32 then (if decide ((f.slots.length : Int) ≤ x.imm) then (s.ends 8).top os f else s.top os (f.put x.a (f.slots.getD x.imm.toNat 0)))
  else if x.op == 33 then (if decide ((f.slots.length : Int) ≤ x.imm) then (s.ends 8).top os f else s.top os { f with slots := f.slots.set x.imm.toNat (f.r x.a) })
  else if x.op == 34 then (match cellF s.heap (f.r x.b) (f.r x.c) with
    | (e, p) => if e == 0 then s.top os (f.put x.a (s.heap.getD p.toNat 0)) else (s.ends e).top os f)
  else if x.op == 35 then (match cellF s.heap (f.r x.a) (f.r x.b) with
    | (e, p) => if e == 0 then { s with heap := s.heap.set p.toNat (f.r x.c) }.top os f else (s.ends e).top os f)
  else if x.op == 36 then (if decide (f.r x.b < 1) || decide ((s.heap.length : Int) < f.r x.b) then (s.ends 8).top os f else s.top os (f.put x.a (s.heap.getD (f.r x.b - 1).toNat 0)))
  else if x.op == 37 then (if decide (4096 < (s.heap.length : Int) + x.imm + 1) then (s.ends 7).top os f
    else { s with heap := s.heap ++ [x.imm] ++ List.replicate x.imm.toNat 0 }.top os (f.put x.a (s.heap.length + 1)))
  else if x.op == 38 then s.top os (f.put x.a s.heap.length)
  else if x.op == 39 then (if decide (f.r x.a < 0) || decide ((s.heap.length : Int) < f.r x.a) then (s.ends 8).top os f else { s with heap := s.heap.take (f.r x.a).toNat }.top os f)
  else if x.op == 40 then (if decide (6 ≤ f.ready.length) then (s.ends 8).top os f else s.top os { f with ready := f.ready ++ [f.r x.a] })
  else if x.op == 41 then (if decide ((E.es.length : Int) ≤ x.imm) then (s.ends 8).top os f
    else if !slotsOk (E.ent x.imm).2 then (s.ends 8).top os f
    else if decide (100 ≤ os.length + 1) then (s.ends 6).top os f
    else s.top (os ++ [{ f with ready := [] }]) (newFr E x.imm f.ready x.a))
  else if x.op == 42 then { s with outs := s.outs ++ [f.r x.a] }.top os f
  else if x.op == 43 then (if decide ((E.inp.length : Int) ≤ s.read) then (s.ends 4).top os f else { s with read := s.read + 1 }.top os (f.put x.a (E.inp.getD s.read.toNat 0)))
  else if x.op == 44 then { s with marks := wrap64 (s.marks + 1) }.top os f
  else if x.op == 45 then s.top os { f with next := x.imm }
  else if x.op == 46 then (if f.r x.a == 0 then s.top os { f with next := x.imm } else s.top os f)
  else if x.op == 47 then (match os.getLast? with
    | none => { s with opn := [], exit := f.r x.a, end_ := 1 }
    | some g => s.top os.dropLast (g.put f.dst (f.r x.a)))
  else if x.op == 48 then (if decide ((f.args.length : Int) ≤ x.imm) then (s.ends 8).top os f else s.top os (f.put x.a (f.args.getD x.imm.toNat 0)))
  else (match valF x.op (f.r x.b) (f.r x.c) with
    | (n, t) => if t != 0 then (s.ends t).top os f else s.top os (f.put x.a n))

/-- A step, and what it was (0: none). -/
def stepF (E : Env) (s : St) : St × Int :=
  match s.opn.getLast? with
  | none => (s, 0)
  | some f =>
    let s1 := { s with steps := wrap64 (s.steps + 1), at_ := f.next }
    if !slotsOk (E.ent f.fn).2 || decide (f.next < 0) || decide ((E.ws.length : Int) ≤ f.next) then (s1.ends 8, 0)
    else
      let x := E.ws.getD f.next.toNat W.zero
      let f' := { f with next := f.next + 1 }
      if formB x then (doF E s1 s.opn.dropLast f' x, x.op) else ((s1.ends 8).top s.opn.dropLast f', 0)

/-- So many steps; how many were done. -/
def runF (E : Env) : Nat → St → Nat × St
  | 0, s => (0, s)
  | n + 1, s => if s.end_ == 0 then ((runF E n (stepF E s).1).1 + 1, (runF E n (stepF E s).1).2) else (0, s)
/-- Steps till one was a mark. -/
def markF (E : Env) : Nat → St → Bool × St
  | 0, s => (false, s)
  | n + 1, s => if s.end_ == 0 then (if (stepF E s).2 == 44 then (true, (stepF E s).1) else markF E n (stepF E s).1) else (false, s)
/-- A machine at its beginning. -/
def newF (E : Env) (main : Int) : St := ⟨0, 0, 0, [], 0, 0, 0, [], [newFr E main [] 0]⟩

end Go.Proofs.Yteeapfgjjankeaa
