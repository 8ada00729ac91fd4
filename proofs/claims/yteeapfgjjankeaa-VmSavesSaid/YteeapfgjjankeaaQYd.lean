/- The machine, plainly: each operation's outcome by itself. -/
import Derived.Test.YteeapfgjjankeaaQYa
namespace Go.Proofs.Yteeapfgjjankeaa.Mach
open Go.RowKit

section
variable (E : Env) (s : St) (os : List Fr) (f : Fr) (a b c i : Int)
theorem doF_30 : doF E s os f ⟨30, a, b, c, i⟩ = s.top os (f.put a i) := rfl
theorem doF_31 : doF E s os f ⟨31, a, b, c, i⟩ = s.top os (f.put a (f.r b)) := rfl
theorem doF_32 : doF E s os f ⟨32, a, b, c, i⟩ = (if decide ((f.slots.length : Int) ≤ i) then (s.ends 8).top os f else s.top os (f.put a (f.slots.getD i.toNat 0))) := rfl
theorem doF_33 : doF E s os f ⟨33, a, b, c, i⟩ = (if decide ((f.slots.length : Int) ≤ i) then (s.ends 8).top os f else s.top os { f with slots := f.slots.set i.toNat (f.r a) }) := rfl
theorem doF_34 : doF E s os f ⟨34, a, b, c, i⟩ = (if (cellF s.heap (f.r b) (f.r c)).1 == 0 then s.top os (f.put a (s.heap.getD (cellF s.heap (f.r b) (f.r c)).2.toNat 0)) else (s.ends (cellF s.heap (f.r b) (f.r c)).1).top os f) := rfl
theorem doF_35 : doF E s os f ⟨35, a, b, c, i⟩ = (if (cellF s.heap (f.r a) (f.r b)).1 == 0 then { s with heap := s.heap.set (cellF s.heap (f.r a) (f.r b)).2.toNat (f.r c) }.top os f else (s.ends (cellF s.heap (f.r a) (f.r b)).1).top os f) := rfl
theorem doF_36 : doF E s os f ⟨36, a, b, c, i⟩ = (if decide (f.r b < 1) || decide ((s.heap.length : Int) < f.r b) then (s.ends 8).top os f else s.top os (f.put a (s.heap.getD (f.r b - 1).toNat 0))) := rfl
theorem doF_37 : doF E s os f ⟨37, a, b, c, i⟩ = (if decide (4096 < (s.heap.length : Int) + i + 1) then (s.ends 7).top os f else { s with heap := s.heap ++ [i] ++ List.replicate i.toNat 0 }.top os (f.put a (s.heap.length + 1))) := rfl
theorem doF_38 : doF E s os f ⟨38, a, b, c, i⟩ = s.top os (f.put a s.heap.length) := rfl
theorem doF_39 : doF E s os f ⟨39, a, b, c, i⟩ = (if decide (f.r a < 0) || decide ((s.heap.length : Int) < f.r a) then (s.ends 8).top os f else { s with heap := s.heap.take (f.r a).toNat }.top os f) := rfl
theorem doF_40 : doF E s os f ⟨40, a, b, c, i⟩ = (if decide (6 ≤ f.ready.length) then (s.ends 8).top os f else s.top os { f with ready := f.ready ++ [f.r a] }) := rfl
theorem doF_41 : doF E s os f ⟨41, a, b, c, i⟩ = (if decide ((E.es.length : Int) ≤ i) then (s.ends 8).top os f else if !slotsOk (E.ent i).2 then (s.ends 8).top os f else if decide (100 ≤ os.length + 1) then (s.ends 6).top os f
    else s.top (os ++ [{ f with ready := [] }]) (newFr E i f.ready a)) := rfl
theorem doF_42 : doF E s os f ⟨42, a, b, c, i⟩ = { s with outs := s.outs ++ [f.r a] }.top os f := rfl
theorem doF_43 : doF E s os f ⟨43, a, b, c, i⟩ = (if decide ((E.inp.length : Int) ≤ s.read) then (s.ends 4).top os f else { s with read := s.read + 1 }.top os (f.put a (E.inp.getD s.read.toNat 0))) := rfl
theorem doF_44 : doF E s os f ⟨44, a, b, c, i⟩ = { s with marks := wrap64 (s.marks + 1) }.top os f := rfl
theorem doF_45 : doF E s os f ⟨45, a, b, c, i⟩ = s.top os { f with next := i } := rfl
theorem doF_46 : doF E s os f ⟨46, a, b, c, i⟩ = (if f.r a == 0 then s.top os { f with next := i } else s.top os f) := rfl
theorem doF_47n : doF E s [] f ⟨47, a, b, c, i⟩ = { s with opn := [], exit := f.r a, end_ := 1 } := rfl
theorem doF_47 (g : Fr) : doF E s (os ++ [g]) f ⟨47, a, b, c, i⟩ = s.top os (g.put f.dst (f.r a)) := by
  show (match (os ++ [g]).getLast? with
    | none => _
    | some g => _) = _
  rw [List.getLast?_append]
  simp
theorem doF_48 : doF E s os f ⟨48, a, b, c, i⟩ = (if decide ((f.args.length : Int) ≤ i) then (s.ends 8).top os f else s.top os (f.put a (f.args.getD i.toNat 0))) := rfl
theorem doF_D (op : Int) (h : op ≤ 29 ∨ 49 ≤ op) : doF E s os f ⟨op, a, b, c, i⟩ = (if (valF op (f.r b) (f.r c)).2 != 0 then (s.ends (valF op (f.r b) (f.r c)).2).top os f else s.top os (f.put a (valF op (f.r b) (f.r c)).1)) := by
  have e : ∀ k : Int, 30 ≤ k → k ≤ 48 → (op == k) = false := fun k h1 h2 => by simp; omega
  unfold doF
  simp only [e 30 (by omega) (by omega), e 31 (by omega) (by omega), e 32 (by omega) (by omega), e 33 (by omega) (by omega), e 34 (by omega) (by omega), e 35 (by omega) (by omega), e 36 (by omega) (by omega), e 37 (by omega) (by omega), e 38 (by omega) (by omega), e 39 (by omega) (by omega),
    e 40 (by omega) (by omega), e 41 (by omega) (by omega), e 42 (by omega) (by omega), e 43 (by omega) (by omega), e 44 (by omega) (by omega), e 45 (by omega) (by omega), e 46 (by omega) (by omega), e 47 (by omega) (by omega), e 48 (by omega) (by omega), Bool.false_eq_true, if_false]
end
end Go.Proofs.Yteeapfgjjankeaa.Mach
