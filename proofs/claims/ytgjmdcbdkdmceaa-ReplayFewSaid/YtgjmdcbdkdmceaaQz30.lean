/- Runs in pieces, plainly. -/
import Derived.Test.YtgjmdcbdkdmceaaQ22
import Derived.Test.YtgjmdcbdkdmceaaQ25
import Derived.Test.YtgjmdcbdkdmceaaQz29
namespace Go.Proofs.Ytgjmdcbdkdmceaa.Mach
open Go.RowKit

theorem runF_sane {E : Env} (hE : EnvOk E) {L : Nat} {s : St} (hs : Sane E L s) (x : Nat) : Sane E (L + (runF E x s).1) (runF E x s).2 := by
  induction x generalizing s L with
  | zero => rw [runF_zero]; exact hs
  | succ x ih =>
    by_cases h : s.end_ = 0
    · rw [mrunF_step h]
      have h1 := ih (stepF_good hE hs h)
      have e : L + ((runF E x (stepF E s).1).1 + 1) = L + 1 + (runF E x (stepF E s).1).1 := by omega
      dsimp only
      rw [e]
      exact h1
    · rw [mrunF_stop h]; exact hs
/-- Just the steps that were done. -/
theorem runF_exact (E : Env) (x : Nat) (s : St) : runF E (runF E x s).1 s = runF E x s := by
  induction x generalizing s with
  | zero => rfl
  | succ x ih =>
    by_cases h : s.end_ = 0
    · rw [mrunF_step h]
      dsimp only
      rw [mrunF_step h, ih]
    · have e : runF E (x + 1) s = (0, s) := mrunF_stop h
      rw [e]
      rfl
theorem runF_steps {E : Env} (hE : EnvOk E) {L : Nat} {s : St} (hs : Sane E L s) (h0 : 0 ≤ s.steps) (x : Nat) (hx : s.steps + x ≤ 1000000000) : (runF E x s).2.steps = s.steps + (runF E x s).1 := by
  induction x generalizing s L with
  | zero => rw [runF_zero]; simp
  | succ x ih =>
    by_cases h : s.end_ = 0
    · rw [mrunF_step h]
      dsimp only
      have ho : s.opn ≠ [] := fun e => by have := hs.o.1 e; omega
      have h1 := stepF_steps E s ho
      have h2 : wrap64 (s.steps + 1) = s.steps + 1 := by unfold wrap64; omega
      rw [h2] at h1
      rw [ih (stepF_good hE hs h) (by omega) (by omega), h1]
      omega
    · rw [mrunF_stop h]; simp
/-- A machine that was run so many steps, and those were all done or it ended: on to k. -/
theorem runF_on {E : Env} {s : St} {t k : Nat} (_ht : (runF E t s).1 = t) (htk : t ≤ k) : (runF E (k - t) (runF E t s).2).2 = (runF E k s).2 := by
  have e : k = t + (k - t) := by omega
  conv => rhs; rw [e, runF_plus]
theorem runF_more {E : Env} {s : St} {t c : Nat} (_ht : (runF E t s).1 = t) : ∃ t', t' ≤ t + c ∧ (runF E c (runF E t s).2).2 = (runF E t' s).2 ∧ (runF E t' s).1 = t' := by
  have h1 := runF_plus E t c s
  have h2 := runF_exact E (t + c) s
  have h3 := runF_le E (t + c) s
  refine ⟨(runF E (t + c) s).1, h3, ?_, ?_⟩
  · rw [h2, h1]
  · rw [h2]
theorem MAt.sane {w : World} {t : Nat → Nat} {M : Nat} {E : Env} {L L' : Nat} {s : St} (h : MAt w t M E L s) (hs : Sane E L' s) : MAt w t M E L' s := by
  obtain ⟨base, V, cl, h1, -⟩ := h
  exact ⟨base, V, cl, h1, hs⟩
theorem MAt.isSane {w : World} {t : Nat → Nat} {M : Nat} {E : Env} {L : Nat} {s : St} (h : MAt w t M E L s) : Sane E L s := by
  obtain ⟨base, V, cl, -, h2⟩ := h
  exact h2
theorem MAt.keep {w w' : World} {t : Nat → Nat} {M : Nat} {E : Env} {L : Nat} {s : St} (h : MAt w t M E L s) (hk : ∀ k, t k ≠ 0 → w'.heap[k]? = w.heap[k]?) (hz : w.heap.size ≤ w'.heap.size) : MAt w' t M E L s := by
  obtain ⟨base, V, cl, h1, h2⟩ := h
  exact ⟨base, V, cl, h1.view hk hz, h2⟩
theorem MAt.lt {w : World} {t : Nat → Nat} {M : Nat} {E : Env} {L : Nat} {s : St} (h : MAt w t M E L s) : ∀ k, t k ≠ 0 → k < w.heap.size := by
  obtain ⟨base, V, cl, h1, -⟩ := h
  exact h1.lt
end Go.Proofs.Ytgjmdcbdkdmceaa.Mach

/- A run's places: where it is at each of its marks. No program in sight. -/
namespace Go.Proofs.Ytgjmdcbdkdmceaa.Mach
open Go.RowKit

theorem ite_marks {c : Prop} [Decidable c] {x y : St} {k : Int} (hx : c → x.marks = k) (hy : y.marks = k) : (if c then x else y).marks = k := by
  split
  · rename_i h; exact hx h
  · exact hy
theorem doF_marks (E : Env) (s : St) (os : List Fr) (f : Fr) (x : W) (h44 : x.op ≠ 44) : (doF E s os f x).marks = s.marks := by
  unfold doF
  repeat' refine ite_marks (fun _ => ?_) ?_
  all_goals first
    | rfl
    | exact absurd (by simpa using ‹(x.op == 44) = true›) h44
    | (split
       all_goals first
         | rfl
         | (refine ite_marks (fun _ => ?_) ?_ <;> rfl)
         | (split <;> rfl))
theorem doF_is44 (E : Env) (s : St) (os : List Fr) (f : Fr) (x : W) (h44 : x.op = 44) : doF E s os f x = { s with marks := wrap64 (s.marks + 1) }.top os f := by
  obtain ⟨o, a, b, c, i⟩ := x
  subst h44
  rfl
/-- It stands right behind a mark. -/
def Marked (E : Env) (s : St) : Prop := s.end_ = 0 ∧ 0 ≤ s.at_ ∧ s.at_ < E.ws.length ∧ (E.ws.getD s.at_.toNat W.zero).op = 44
theorem stepF_marks {E : Env} {s : St} (h0 : s.end_ = 0) (h : (stepF E s).2 = 44) : (stepF E s).1.marks = wrap64 (s.marks + 1) ∧ Marked E (stepF E s).1 := by
  unfold stepF at h ⊢
  cases ho : s.opn.getLast? with
  | none => rw [ho] at h; simp at h
  | some f =>
    rw [ho] at h
    dsimp only at h ⊢
    split at h
    · simp at h
    · rename_i hd
      simp only [Bool.or_eq_true, not_or, decide_eq_true_eq] at hd
      rw [if_neg (by simp only [Bool.or_eq_true, not_or, decide_eq_true_eq]; exact hd)]
      split at h
      · rename_i hf
        rw [if_pos hf]
        dsimp only at h
        rw [doF_is44 _ _ _ _ _ h]
        exact ⟨rfl, h0, by show 0 ≤ f.next; omega, by show f.next < _; omega, h⟩
      · simp at h
theorem stepF_unmarked {E : Env} {s : St} (h : (stepF E s).2 ≠ 44) : (stepF E s).1.marks = s.marks := by
  unfold stepF at h ⊢
  cases ho : s.opn.getLast? with
  | none => rfl
  | some f =>
    rw [ho] at h
    dsimp only at h ⊢
    split at h
    · rename_i hd; rw [if_pos hd]; rfl
    · rename_i hd
      rw [if_neg hd]
      split at h
      · rename_i hf
        rw [if_pos hf]
        exact doF_marks _ _ _ _ _ h
      · rename_i hf
        rw [if_neg hf]; rfl
/-- Steps till one was a mark are so many steps. -/
theorem markF_run (E : Env) (k : Nat) (s : St) (hm : 0 ≤ s.marks ∧ s.marks ≤ 1000000) : ∃ n, n ≤ k ∧ (markF E k s).2 = (runF E n s).2 ∧ (runF E n s).1 = n ∧
    ((markF E k s).1 = true → 1 ≤ n ∧ (markF E k s).2.marks = s.marks + 1 ∧ Marked E (markF E k s).2) ∧
    ((markF E k s).1 = false → ((markF E k s).2.end_ ≠ 0 ∨ n = k) ∧ (markF E k s).2.marks = s.marks) := by
  induction k generalizing s with
  | zero => exact ⟨0, Nat.le_refl _, rfl, rfl, fun h => by simp [markF] at h, fun _ => ⟨.inr rfl, rfl⟩⟩
  | succ k ih =>
    by_cases h : s.end_ = 0
    · by_cases h4 : (stepF E s).2 = 44
      · have e : markF E (k + 1) s = (true, (stepF E s).1) := by rw [mmarkF_step h, if_pos (by simp [h4])]
        obtain ⟨m1, m2⟩ := stepF_marks h h4
        have e1 : runF E 1 s = (1, (stepF E s).1) := by rw [mrunF_step h]; rfl
        refine ⟨1, by omega, by rw [e, e1], by rw [e1], fun _ => ⟨Nat.le_refl _, ?_, by rw [e]; exact m2⟩, fun h => by rw [e] at h; simp at h⟩
        rw [e]
        show (stepF E s).1.marks = _
        rw [m1]; unfold wrap64; omega
      · have e : markF E (k + 1) s = markF E k (stepF E s).1 := by rw [mmarkF_step h, if_neg (by simpa using h4)]
        have hu := stepF_unmarked h4
        obtain ⟨n, h1, h2, h3, h5, h6⟩ := ih (stepF E s).1 (by rw [hu]; exact hm)
        have e1 : runF E (n + 1) s = (n + 1, (runF E n (stepF E s).1).2) := by rw [mrunF_step h, h3]
        rw [e, ← hu]
        refine ⟨n + 1, by omega, by rw [h2, e1], by rw [e1], fun hh => ⟨by omega, (h5 hh).2⟩, fun hh => ⟨?_, (h6 hh).2⟩⟩
        rcases (h6 hh).1 with h7 | h7
        · exact .inl h7
        · exact .inr (by omega)
    · have e : markF E (k + 1) s = (false, s) := mmarkF_stop h
      refine ⟨0, by omega, by rw [e]; rfl, rfl, fun h => by rw [e] at h; simp at h, fun _ => by rw [e]; exact ⟨.inl h, rfl⟩⟩

/-- A run's k-th mark, if it comes within so many steps; else its end. -/
def pathF (E : Env) (m : Int) (F : Nat) : Nat → Bool × St
  | 0 => (true, newF E m)
  | k + 1 => if (pathF E m F k).1 then markF E (F - (pathF E m F k).2.steps.toNat) (pathF E m F k).2 else (false, (pathF E m F k).2)

section
variable {E : Env} {m : Int} {F : Nat}
theorem path_next {k : Nat} (h : (pathF E m F k).1 = true) : pathF E m F (k + 1) = markF E (F - (pathF E m F k).2.steps.toNat) (pathF E m F k).2 := by
  show (if _ then _ else _) = _
  rw [if_pos h]
theorem path_stay {k : Nat} (h : (pathF E m F k).1 = false) : pathF E m F (k + 1) = (false, (pathF E m F k).2) := by
  show (if _ then _ else _) = _
  rw [if_neg (by simp [h])]
theorem path_stays {k : Nat} (h : (pathF E m F k).1 = false) (j : Nat) : pathF E m F (k + j) = (false, (pathF E m F k).2) := by
  induction j with
  | zero => rw [Nat.add_zero, ← h]
  | succ j ih => rw [← Nat.add_assoc, path_stay (by rw [ih]), ih]
theorem path_before {k j : Nat} (h : (pathF E m F k).1 = true) (hj : j ≤ k) : (pathF E m F j).1 = true := by
  cases hb : (pathF E m F j).1 with
  | true => rfl
  | false =>
    have e := path_stays hb (k - j)
    rw [show j + (k - j) = k by omega] at e
    rw [e] at h
    exact absurd h (by simp)
/-- What is known of a run at a place. -/
structure PathAt (E : Env) (m : Int) (F : Nat) (k n : Nat) : Prop where
  le : n ≤ F
  run : (pathF E m F k).2 = (runF E n (newF E m)).2
  all : (runF E n (newF E m)).1 = n
  steps : (pathF E m F k).2.steps = n
  sane : Sane E n (pathF E m F k).2
  mark : (pathF E m F k).1 = true → (pathF E m F k).2.marks = k ∧ k ≤ n ∧ (k = 0 → n = 0) ∧ (0 < k → Marked E (pathF E m F k).2)
  last : (pathF E m F k).1 = false → ((pathF E m F k).2.end_ ≠ 0 ∨ n = F) ∧ ∃ j, j < k ∧ (pathF E m F j).1 = true ∧ (pathF E m F k).2.marks = j ∧ (pathF E m F (j + 1)).1 = false
theorem path_is (hE : EnvOk E) (hm : 0 ≤ m ∧ m < E.es.length) (hF : F ≤ 3000) (k : Nat) : ∃ n, PathAt E m F k n := by
  induction k with
  | zero => exact ⟨0, Nat.zero_le _, rfl, rfl, rfl, newF_good hE hm, fun _ => ⟨rfl, Nat.le_refl _, fun _ => rfl, fun h => by omega⟩, fun h => by simp [pathF] at h⟩
  | succ k ih =>
    obtain ⟨n, P⟩ := ih
    cases hb : (pathF E m F k).1 with
    | false =>
      have e := path_stay hb
      obtain ⟨h1, j, h2, h3, h4, h5⟩ := P.last hb
      exact ⟨n, P.le, by rw [e]; exact P.run, P.all, by rw [e]; exact P.steps, by rw [e]; exact P.sane, fun h => by rw [e] at h; simp at h, fun _ => by rw [e]; exact ⟨h1, j, by omega, h3, h4, h5⟩⟩
    | true =>
      obtain ⟨h1, h2, h3, h4⟩ := P.mark hb
      have hn := P.le
      have hst := P.steps
      obtain ⟨n', g1, g2, g3, g4, g5⟩ := markF_run E (F - (pathF E m F k).2.steps.toNat) (pathF E m F k).2 (by rw [h1]; omega)
      have e := path_next hb
      rw [← e] at g2 g4 g5
      have hle : n + n' ≤ F := by omega
      have hrun : (pathF E m F (k + 1)).2 = (runF E (n + n') (newF E m)).2 := by
        rw [g2, runF_plus, P.run]
      have hall : (runF E (n + n') (newF E m)).1 = n + n' := by
        rw [runF_plus, P.all, ← P.run, g3]
      have hs0 := newF_good hE hm
      refine ⟨n + n', hle, hrun, hall, ?_, ?_, fun h => ?_, fun h => ?_⟩
      · rw [hrun, runF_steps hE hs0 (by show (0 : Int) ≤ 0; omega) _ (by show (0 : Int) + _ ≤ _; omega), hall]
        show (0 : Int) + _ = _
        omega
      · have := runF_sane hE hs0 (n + n')
        rw [hall, Nat.zero_add, ← hrun] at this
        exact this
      · obtain ⟨g6, g7, g8⟩ := g4 h
        exact ⟨by rw [g7, h1]; omega, by omega, fun h => by omega, fun _ => g8⟩
      · obtain ⟨g6, g7⟩ := g5 h
        refine ⟨?_, k, by omega, hb, by rw [g7, h1], h⟩
        rcases g6 with g6 | g6
        · exact .inl g6
        · exact .inr (by omega)
theorem PathAt.false_of {k n : Nat} (P : PathAt E m F k n) (h : (pathF E m F k).2.end_ ≠ 0 ∨ n = F) : (pathF E m F (k + 1)).1 = false ∧ (pathF E m F (k + 1)).2 = (pathF E m F k).2 := by
  cases hb : (pathF E m F k).1 with
  | false => rw [path_stay hb]; exact ⟨rfl, rfl⟩
  | true =>
    rw [path_next hb]
    have hst := P.steps
    rcases h with h | h
    · rw [mmarkF_stop h]; exact ⟨rfl, rfl⟩
    · rw [show F - (pathF E m F k).2.steps.toNat = 0 by omega]; exact ⟨rfl, rfl⟩
end
end Go.Proofs.Ytgjmdcbdkdmceaa.Mach

/- A player, plainly: what going to a place makes of it. No program in sight. -/
namespace Go.Proofs.Ytgjmdcbdkdmceaa.Mach
open Go.RowKit

/-- What turns of a player: its machine, what is kept, the next choice, the steps taken. -/
structure PS where
  s : St
  S : Ms
  turn : Nat
  work : Int
/-- What doesn't. -/
structure PX where
  E : Env
  m : Int
  F : Nat
  every : Int
  most : Int
  cs : List Int
def PX.path (X : PX) (k : Nat) : Bool × St := pathF X.E X.m X.F k
structure PX.Ok (X : PX) : Prop where
  hE : EnvOk X.E
  hm : 0 ≤ X.m ∧ X.m < X.E.es.length
  hF : X.F ≤ 2000
  ev : 1 ≤ X.every ∧ X.every ≤ 1000
  mo : 1 ≤ X.most ∧ X.most ≤ 64
  few : FewE X.E
  cl : X.cs.length * 8 ≤ 140737488355328
  ci : I64s X.cs
  il : X.E.inp.length * 8 ≤ 140737488355328
def overF (F : Nat) (s : St) : Bool := !(s.end_ == 0) || decide ((F : Int) ≤ s.steps)
/-- The greatest that isn't beyond. -/
def bestF (S : Ms) (k : Int) : Option (Int × List Int) := (S.filter fun x => decide (x.1 ≤ k)).getLast?
theorem bestF_none {S : Ms} {k : Int} (h : ∀ j, (hj : j < S.length) → k < S[j].1) : bestF S k = none := by
  unfold bestF
  rw [List.filter_eq_nil_iff.2 (fun x hx => by
    obtain ⟨j, hj, rfl⟩ := List.getElem_of_mem hx
    have := h j hj
    simpa using this)]
  rfl
theorem bestF_some {S : Ms} {k : Int} (hR : RisS S) {i : Nat} (hi : i < S.length) (h1 : S[i].1 ≤ k) (h2 : ∀ j, (hj : j < S.length) → i < j → k < S[j].1) : bestF S k = some S[i] := by
  have e : S.filter (fun x => decide (x.1 ≤ k)) = S.take (i + 1) := by
    conv => lhs; rw [← List.take_append_drop (i + 1) S]
    rw [List.filter_append, List.filter_eq_self.2 (fun x hx => ?_), List.filter_eq_nil_iff.2 (fun x hx => ?_), List.append_nil]
    · obtain ⟨j, hj, rfl⟩ := List.getElem_of_mem hx
      rw [List.length_drop] at hj
      rw [List.getElem_drop]
      have := h2 (i + 1 + j) (by omega) (by omega)
      simpa using this
    · obtain ⟨j, hj, rfl⟩ := List.getElem_of_mem hx
      rw [List.length_take] at hj
      rw [List.getElem_take]
      by_cases hji : j = i
      · subst hji; simpa using h1
      · have := hR j i (by omega) hi (by omega)
        simp; omega
  unfold bestF
  rw [e, List.getLast?_eq_getElem?, List.length_take, Nat.min_eq_left (by omega), Nat.add_sub_cancel, List.getElem?_take, if_pos (by omega), List.getElem?_eq_getElem hi]
theorem bestF_mem {S : Ms} {k : Int} {x : Int × List Int} (h : bestF S k = some x) : x ∈ S ∧ x.1 ≤ k := by
  have := List.mem_of_getLast? h
  rw [List.mem_filter] at this
  exact ⟨this.1, by simpa using this.2⟩
theorem bestF_top {S : Ms} (hR : RisS S) {k : Int} {x y : Int × List Int} (h : bestF S k = some x) (hy : y ∈ S) (hk : y.1 ≤ k) : y.1 ≤ x.1 := by
  have hp : (S.filter fun x => decide (x.1 ≤ k)).Pairwise (fun a b => a.1 < b.1) := (risS_iff.1 hR).filter _
  have hm : y ∈ S.filter (fun x => decide (x.1 ≤ k)) := List.mem_filter.2 ⟨hy, by simpa using hk⟩
  unfold bestF at h
  obtain ⟨l, hl⟩ := List.getLast?_eq_some_iff.1 h
  rw [hl] at hp hm
  rw [List.pairwise_append] at hp
  rcases List.mem_append.1 hm with h1 | h1
  · have := hp.2.2 y h1 x (by simp); omega
  · simp at h1; subst h1; omega
theorem bestF_no {S : Ms} {k : Int} (h : bestF S k = none) {y : Int × List Int} (hy : y ∈ S) : k < y.1 := by
  unfold bestF at h
  rw [List.getLast?_eq_none_iff, List.filter_eq_nil_iff] at h
  have := h y hy
  simpa using this

def choiceF (cs : List Int) (turn : Nat) : Int × Nat := if cs.length = 0 then (0, turn) else (cs.getD turn 0, (turn + 1) % cs.length)
/-- A place that was come to. -/
def keepF (X : PX) (i : Nat) (q : Ms × Nat) : Ms × Nat :=
  if !((i : Int) % X.every == 0) || q.1.any (fun y => y.1 == (i : Int)) then q else (putS X.most q.1 i (saveB (X.path i).2) (choiceF X.cs q.2).1, (choiceF X.cs q.2).2)
/-- From place i on, c places. -/
def goK (X : PX) : Nat → Nat → Ms × Nat → Ms × Nat
  | 0, _, q => q
  | c + 1, i, q => if (X.path (i + 1)).1 then goK X c (i + 1) (keepF X (i + 1) q) else q
def onF (F : Nat) (k : Nat) (d : PS) : Bool := !overF F d.s && decide (d.s.marks ≤ k) && (match bestF d.S k with | none => true | some b => decide (b.1 ≤ d.s.marks))
def fromF (F : Nat) (k : Nat) (d : PS) : Nat := if onF F k d then d.s.marks.toNat else match bestF d.S k with | none => 0 | some b => b.1.toNat
def endsF (F : Nat) (k : Nat) (d : PS) : Bool := overF F d.s && decide (d.s.marks < k)
def goP (X : PX) (k : Nat) (d : PS) : Bool × PS :=
  if endsF X.F k d then (false, d)
  else ((X.path k).1, ⟨(X.path k).2, (goK X (k - fromF X.F k d) (fromF X.F k d) (d.S, d.turn)).1, (goK X (k - fromF X.F k d) (fromF X.F k d) (d.S, d.turn)).2,
    d.work + ((X.path k).2.steps - (X.path (fromF X.F k d)).2.steps)⟩)

/-- What holds of what is kept. -/
structure KOk (X : PX) (q : Ms × Nat) : Prop where
  ris : RisS q.1
  len : (q.1.length : Int) ≤ X.most
  kept : ∀ x ∈ q.1, ∃ i : Nat, 0 < i ∧ x.1 = i ∧ (X.path i).1 = true ∧ x.2 = saveB (X.path i).2
  turn : X.cs.length = 0 ∨ q.2 < X.cs.length
structure POk (X : PX) (d : PS) : Prop where
  ks : KOk X (d.S, d.turn)
  at_ : ∃ j, d.s = (X.path j).2

section
variable {X : PX}
theorem PX.Ok.at_ (H : X.Ok) (k : Nat) : ∃ n, PathAt X.E X.m X.F k n := path_is H.hE H.hm (Nat.le_trans H.hF (by omega)) k
theorem PX.Ok.steps (H : X.Ok) (k : Nat) : 0 ≤ (X.path k).2.steps ∧ (X.path k).2.steps ≤ X.F := by
  obtain ⟨n, P⟩ := H.at_ k
  have h1 := P.steps
  have h2 := P.le
  show 0 ≤ (pathF X.E X.m X.F k).2.steps ∧ (pathF X.E X.m X.F k).2.steps ≤ X.F
  omega
theorem PX.Ok.sane (H : X.Ok) (k : Nat) : Sane X.E 3000 (X.path k).2 := by
  obtain ⟨n, P⟩ := H.at_ k
  have h1 := P.sane
  have h2 := P.le
  have h3 := H.hF
  exact ⟨h1.fr, h1.n, h1.o, h1.hl, h1.hp, Nat.le_trans h1.xl (by omega), h1.xs, h1.rd, h1.st, h1.ex, h1.ms, h1.at_, h1.en, h1.e5⟩
theorem PX.Ok.marks (H : X.Ok) (k : Nat) : 0 ≤ (X.path k).2.marks ∧ (X.path k).2.marks ≤ 3000 ∧ (X.path k).2.marks ≤ k := by
  obtain ⟨n, P⟩ := H.at_ k
  have h2 := P.le
  have h3 := H.hF
  show 0 ≤ (pathF X.E X.m X.F k).2.marks ∧ (pathF X.E X.m X.F k).2.marks ≤ 3000 ∧ (pathF X.E X.m X.F k).2.marks ≤ k
  cases hb : (pathF X.E X.m X.F k).1 with
  | true =>
    obtain ⟨h4, h5, -⟩ := P.mark hb
    omega
  | false =>
    obtain ⟨-, j, h4, h5, h6, -⟩ := P.last hb
    obtain ⟨n', P'⟩ := H.at_ j
    have h7 := (P'.mark h5).2.1
    have h8 := P'.le
    omega
/-- A machine that is over is at the end of its way. -/
theorem PX.Ok.over (H : X.Ok) {k : Nat} (h : overF X.F (X.path k).2 = true) : (X.path (k + 1)).1 = false ∧ (X.path (k + 1)).2 = (X.path k).2 := by
  obtain ⟨n, P⟩ := H.at_ k
  refine P.false_of ?_
  have h1 := P.steps
  have h2 := P.le
  unfold overF PX.path at h
  rw [Bool.or_eq_true] at h
  rcases h with h | h
  · exact .inl (by simpa using h)
  · have h3 := of_decide_eq_true h
    exact .inr (by omega)
theorem PX.Ok.notOver (H : X.Ok) {k : Nat} (h : (X.path k).1 = false) : overF X.F (X.path k).2 = true := by
  obtain ⟨n, P⟩ := H.at_ k
  have h1 := P.steps
  unfold overF PX.path
  rw [Bool.or_eq_true]
  rcases (P.last h).1 with h2 | h2
  · exact .inl (by simpa using h2)
  · exact .inr (decide_eq_true (by omega))
theorem PX.stays (X : PX) {k j : Nat} (h : (X.path k).1 = false) (hj : k ≤ j) : X.path j = (false, (X.path k).2) := by
  have e := path_stays (E := X.E) (m := X.m) (F := X.F) h (j - k)
  rw [show k + (j - k) = j by omega] at e
  exact e
theorem PX.before (X : PX) {k j : Nat} (h : (X.path k).1 = true) (hj : j ≤ k) : (X.path j).1 = true := path_before h hj
/-- Where it stands, told by its marks. -/
theorem PX.Ok.here (H : X.Ok) {j : Nat} (h : overF X.F (X.path j).2 = false) : (X.path j).1 = true ∧ (X.path j).2.marks = j := by
  have h1 : (X.path j).1 = true := by
    cases hb : (X.path j).1 with
    | true => rfl
    | false => rw [H.notOver hb] at h; cases h
  obtain ⟨n, P⟩ := H.at_ j
  exact ⟨h1, (P.mark h1).1⟩
/-- A machine that is over, and short of a place, is the end of the way there. -/
theorem PX.Ok.short (H : X.Ok) {j k : Nat} (h : overF X.F (X.path j).2 = true) (hk : (X.path j).2.marks < k) : (X.path k).1 = false ∧ (X.path k).2 = (X.path j).2 := by
  obtain ⟨n, P⟩ := H.at_ j
  cases hb : (X.path j).1 with
  | true =>
    obtain ⟨h1, h2⟩ := H.over h
    have h3 : (X.path j).2.marks = j := (P.mark hb).1
    rw [X.stays h1 (show j + 1 ≤ k by omega), h2]
    exact ⟨rfl, rfl⟩
  | false =>
    obtain ⟨-, i, h1, h2, h3, h4⟩ := P.last hb
    have h3' : (X.path j).2.marks = i := h3
    have h5 := X.stays (k := i + 1) h4 (show i + 1 ≤ j by omega)
    have h6 := X.stays (k := i + 1) h4 (show i + 1 ≤ k by omega)
    rw [h5, h6]
    exact ⟨rfl, rfl⟩
theorem choiceF_turn {cs : List Int} {t : Nat} (_h : cs.length = 0 ∨ t < cs.length) : cs.length = 0 ∨ (choiceF cs t).2 < cs.length := by
  unfold choiceF
  split
  · exact .inl ‹_›
  · exact .inr (Nat.mod_lt _ (by omega))
theorem KOk.keep {q : Ms × Nat} (h : KOk X q) (H : X.Ok) {i : Nat} (hi : 0 < i) (hp : (X.path i).1 = true) : KOk X (keepF X i q) := by
  unfold keepF
  split
  · exact h
  · refine ⟨ris_put h.ris _ _ _ _, put_len h.len H.mo.1, fun x hx => ?_, choiceF_turn h.turn⟩
    rcases put_from hx with rfl | ⟨h1, -⟩
    · exact ⟨i, hi, rfl, hp, rfl⟩
    · exact h.kept x h1
theorem KOk.go (H : X.Ok) (c : Nat) : ∀ (i : Nat) {q : Ms × Nat}, KOk X q → KOk X (goK X c i q) := by
  induction c with
  | zero => intro i q h; exact h
  | succ c ih =>
    intro i q h
    show KOk X (if _ then _ else _)
    split
    · rename_i hp
      exact ih (i + 1) (h.keep H (Nat.succ_pos i) hp)
    · exact h
theorem POk.go {d : PS} (h : POk X d) (H : X.Ok) (k : Nat) : POk X (goP X k d).2 ∧ (goP X k d).1 = (X.path k).1 ∧ (goP X k d).2.s = (X.path k).2 := by
  obtain ⟨j, hj⟩ := h.at_
  unfold goP
  split
  · rename_i he
    unfold endsF at he
    rw [Bool.and_eq_true, hj] at he
    obtain ⟨h1, h2⟩ := H.short he.1 (of_decide_eq_true he.2)
    exact ⟨h, h1.symm, by rw [h2]; exact hj⟩
  · exact ⟨⟨KOk.go H _ _ h.ks, k, rfl⟩, rfl, rfl⟩
theorem goK_end {c i : Nat} {q : Ms × Nat} (h : (X.path (i + 1)).1 = false) : goK X c i q = q := by
  cases c with
  | zero => rfl
  | succ c => show (if _ then _ else _) = _; rw [if_neg (by simp [h])]
theorem goK_next {c i : Nat} {q : Ms × Nat} (h : (X.path (i + 1)).1 = true) : goK X (c + 1) i q = goK X c (i + 1) (keepF X (i + 1) q) := by
  show (if _ then _ else _) = _
  rw [if_pos h]
end
end Go.Proofs.Ytgjmdcbdkdmceaa.Mach

/- A player in memory: whose the blocks are, and what its calls leave. -/
namespace Go.Proofs.Ytgjmdcbdkdmceaa.Mach
open Go.RowKit

/-- Where a player has its parts. -/
structure PV where
  wv : Value
  ev : Value
  iv : Value
  cv : Value
  Bs : Nat
  M : Nat
def pC (X : PX) (V : PV) (turn : Nat) (work : Int) : Array Value :=
  #[V.wv, V.ev, .int .i64 X.m, .slice none 0 0, V.iv, .int .i64 X.every, .int .i64 X.F, V.cv, .int .i64 turn, .pointer (some ⟨V.Bs, 0, none⟩), .pointer (some ⟨V.M, 0, none⟩), .int .i64 work]
/-- t: the machine's blocks; u: the blocks that a call of the player may turn. -/
structure PlR (w : World) (u : Nat → Prop) (t : Nat → Nat) (base P : Nat) (X : PX) (V : PV) (d : PS) (v : Value) (l : List Mo) : Prop where
  hp : w.heap[P]? = some (.cells (pC X V d.turn d.work) 78 (0, 0))
  rw_ : w.ownsRow base 73 5 V.wv X.E.ws.length (cW X.E.ws)
  re : w.ownsRow base 62 2 V.ev X.E.es.length (entC X.E.es)
  ri : w.ownsRow base 2 1 V.iv X.E.inp.length (intsV X.E.inp)
  rc : w.ownsRow base 3 1 V.cv X.cs.length (intsV X.cs)
  st : StAt w base V.Bs X.most v l d.S
  mc : MAt w t V.M X.E 3000 d.s
  tP : t P = 0
  tw : Tv t V.wv 0
  te : Tv t V.ev 0
  ti : Tv t V.iv 0
  tc : Tv t V.cv 0
  tB : t V.Bs = 0
  tv : Tv t v 0
  tl : ∀ m ∈ l, Tv t m.2 0
  uP : u P
  uB : u V.Bs
  uv : ∀ k, v.ownBlock = some k → u k
  ut : ∀ k, t k ≠ 0 → u k
  ulo : ∀ k, u k → base ≤ k ∧ k < w.heap.size
  bs : base ≤ w.heap.size
/-- What a call of a player leaves: whatever isn't its own. -/
structure Fu (w w' : World) (u u' : Nat → Prop) : Prop where
  os : w'.os = w.os
  tape : w'.tape = w.tape
  output : w'.output = w.output
  size : w.heap.size ≤ w'.heap.size
  stay : ∀ k, k < w.heap.size → ¬ u k → w'.heap[k]? = w.heap[k]? ∧ ¬ u' k
section
variable {w w' w'' : World} {u u' u'' : Nat → Prop} {t t' : Nat → Nat} {base P : Nat} {X : PX} {V : PV} {d : PS} {v v' : Value} {l l' : List Mo}
theorem Fu.refl (w : World) (u : Nat → Prop) : Fu w w u u := ⟨rfl, rfl, rfl, Nat.le_refl _, fun _ _ h => ⟨rfl, h⟩⟩
theorem Fu.trans (h : Fu w w' u u') (k : Fu w' w'' u' u'') : Fu w w'' u u'' := ⟨k.os.trans h.os, k.tape.trans h.tape, k.output.trans h.output, Nat.le_trans h.size k.size, fun j hj hn => by
  obtain ⟨h1, h2⟩ := h.stay j hj hn
  obtain ⟨h3, h4⟩ := k.stay j (Nat.lt_of_lt_of_le hj h.size) h2
  exact ⟨h3.trans h1, h4⟩⟩
theorem Fu.below (h : Below w.heap.size w w') : Fu w w' u u := ⟨h.os, h.tape, h.output, h.size, fun k hk hn => ⟨h.block k hk, hn⟩⟩
theorem Fu.lo {b : Nat} (h : Fu w w' u u') (hu : ∀ k, k < b → ¬ u k) (hb : b ≤ w.heap.size) : Below b w w' := ⟨h.os, h.tape, h.output, h.size, fun k hk => (h.stay k (by omega) (hu k hk)).1⟩

theorem _root_.Go.Proofs.Ytgjmdcbdkdmceaa.StAt.sameB {Bs : Nat} {most : Int} {S : Ms} (h : StAt w base Bs most v l S) (h0 : w'.heap[Bs]? = w.heap[Bs]?) (h1 : ∀ k, v.ownBlock = some k → w'.heap[k]? = w.heap[k]?) (h2 : ∀ m ∈ l, ∀ k, m.2.ownBlock = some k → w'.heap[k]? = w.heap[k]?) : StAt w' base Bs most v l S :=
  ⟨h0.trans h.at_, h.lb, osame h.row h1, h.len, h.ats, fun i hi hi2 => osame (h.ps i hi hi2) (h2 _ (List.getElem_mem hi))⟩
theorem _root_.Go.Proofs.Ytgjmdcbdkdmceaa.StAt.pblk {Bs : Nat} {most : Int} {S : Ms} (h : StAt w base Bs most v l S) {m : Mo} (hm : m ∈ l) {k : Nat} (hk : m.2.ownBlock = some k) : ∃ cur, w.heap[k]? = some (.cells cur 5 (0, 0)) := by
  obtain ⟨i, hi, rfl⟩ := List.getElem_of_mem hm
  exact (oblk (h.ps i hi (by have := h.len; omega)) k hk).2

theorem PlR.ltP (h : PlR w u t base P X V d v l) : P < w.heap.size := (Array.getElem?_eq_some_iff.1 h.hp).1
theorem PlR.ltB (h : PlR w u t base P X V d v l) : V.Bs < w.heap.size := (Array.getElem?_eq_some_iff.1 h.st.at_).1
theorem PlR.cellP (h : PlR w u t base P X V d v l) (i : Nat) : w.cell? ⟨P, i, none⟩ = (pC X V d.turn d.work)[i]? := by simp [World.cell?, h.hp]
theorem PlR.frzP (h : PlR w u t base P X V d v l) (i : Nat) : w.frozen? ⟨P, i, none⟩ = false := by simp [World.frozen?, h.hp]
/-- Its parts but the machine lie in blocks that are none of the machine's. -/
theorem PlR.parts (h : PlR w u t base P X V d v l) (hs : ∀ k, k < w.heap.size → t k = 0 → w'.heap[k]? = w.heap[k]?) :
    w'.heap[P]? = some (.cells (pC X V d.turn d.work) 78 (0, 0)) ∧ w'.ownsRow base 73 5 V.wv X.E.ws.length (cW X.E.ws) ∧ w'.ownsRow base 62 2 V.ev X.E.es.length (entC X.E.es) ∧
    w'.ownsRow base 2 1 V.iv X.E.inp.length (intsV X.E.inp) ∧ w'.ownsRow base 3 1 V.cv X.cs.length (intsV X.cs) ∧ StAt w' base V.Bs X.most v l d.S :=
  ⟨(hs P h.ltP h.tP).trans h.hp, osame h.rw_ fun k hk => hs k (olt h.rw_ k hk) (h.tw k hk), osame h.re fun k hk => hs k (olt h.re k hk) (h.te k hk), osame h.ri fun k hk => hs k (olt h.ri k hk) (h.ti k hk), osame h.rc fun k hk => hs k (olt h.rc k hk) (h.tc k hk),
    h.st.sameB (hs _ h.ltB h.tB) (fun k hk => hs k (olt h.st.row k hk) (h.tv k hk)) (fun m hm k hk => by
      obtain ⟨cur, hc⟩ := h.st.pblk hm hk
      exact hs k (Array.getElem?_eq_some_iff.1 hc).1 (h.tl m hm k hk))⟩
theorem PlR.below (h : PlR w u t base P X V d v l) (hb : Below w.heap.size w w') : PlR w' u t base P X V d v l := by
  obtain ⟨h1, h2, h3, h4, h5, h6⟩ := h.parts (w' := w') fun k hk _ => hb.block k hk
  exact ⟨h1, h2, h3, h4, h5, h6, h.mc.below hb, h.tP, h.tw, h.te, h.ti, h.tc, h.tB, h.tv, h.tl, h.uP, h.uB, h.uv, h.ut, fun k hk => ⟨(h.ulo k hk).1, Nat.lt_of_lt_of_le (h.ulo k hk).2 hb.size⟩, Nat.le_trans h.bs hb.size⟩
/-- The machine's steps. -/
theorem PlR.ran (h : PlR w u t base P X V d v l) (hf : Fx w w' t t') {s' : St} (hm : MAt w' t' V.M X.E 3000 s') : ∃ u', PlR w' u' t' base P X V { d with s := s' } v l ∧ Fu w w' u u' := by
  obtain ⟨h1, h2, h3, h4, h5, h6⟩ := h.parts (w' := w') fun k hk h0 => hf.stay k hk (by omega)
  have z : ∀ k, k < w.heap.size → t k = 0 → t' k = 0 := fun k hk h0 => ((hf.keep k hk).1 (by omega)).trans h0
  have zv : ∀ {a : Value}, Tv t a 0 → (∀ k, a.ownBlock = some k → k < w.heap.size) → Tv t' a 0 := fun ha hl k hk => z k (hl k hk) (ha k hk)
  refine ⟨fun k => u k ∨ (w.heap.size ≤ k ∧ t' k ≠ 0), ⟨h1, h2, h3, h4, h5, h6, hm, z _ h.ltP h.tP, zv h.tw (olt h.rw_), zv h.te (olt h.re), zv h.ti (olt h.ri), zv h.tc (olt h.rc), z _ h.ltB h.tB, zv h.tv (olt h.st.row),
    fun m hm => zv (h.tl m hm) (fun k hk => by obtain ⟨cur, hc⟩ := h.st.pblk hm hk; exact (Array.getElem?_eq_some_iff.1 hc).1), .inl h.uP, .inl h.uB, fun k hk => .inl (h.uv k hk), fun k hk => ?_, fun k hk => ?_, Nat.le_trans h.bs hf.size⟩, ⟨hf.os, hf.tape, hf.output, hf.size, fun k hk hn => ?_⟩⟩
  · by_cases hl : k < w.heap.size
    · refine .inl (h.ut k fun h0 => hk (z k hl h0))
    · exact .inr ⟨by omega, hk⟩
  · rcases hk with hk | ⟨h7, h8⟩
    · exact ⟨(h.ulo k hk).1, Nat.lt_of_lt_of_le (h.ulo k hk).2 hf.size⟩
    · exact ⟨Nat.le_trans h.bs h7, hm.lt k h8⟩
  · have h0 : t k = 0 := by
      rcases Nat.eq_zero_or_pos (t k) with e | e
      · exact e
      · exact absurd (h.ut k (by omega)) hn
    refine ⟨hf.stay k hk (by omega), fun hu => ?_⟩
    rcases hu with hu | ⟨h7, -⟩
    · exact hn hu
    · omega
/-- A cell of the player's own block turns. -/
theorem PlR.setP (h : PlR w u t base P X V d v l) {i : Nat} {x : Value} {d' : PS} (hc : (pC X V d.turn d.work).setIfInBounds i x = pC X V d'.turn d'.work) (hs : d'.s = d.s) (hS : d'.S = d.S) : PlR (w.setCell ⟨P, i, none⟩ x) u t base P X V d' v l ∧ Fu w (w.setCell ⟨P, i, none⟩ x) u u := by
  have ne : ∀ {k : Nat}, k ≠ P → (w.setCell ⟨P, i, none⟩ x).heap[k]? = w.heap[k]? := fun hk => Below.heap_setCell _ _ _ _ hk
  have row : ∀ {T : TypeId} {K n : Nat} {a : Value} {xs : List Value}, w.ownsRow base T K a n xs → T ≠ 78 → (w.setCell ⟨P, i, none⟩ x).ownsRow base T K a n xs := fun r hT => osame r fun k hk => by
    obtain ⟨-, cur, hc⟩ := oblk r k hk
    exact ne (blk_ne hc h.hp (cells_ne hT))
  refine ⟨⟨by rw [heap_set h.hp, hc], row h.rw_ (by decide), row h.re (by decide), row h.ri (by decide), row h.rc (by decide), ?_, ?_, h.tP, h.tw, h.te, h.ti, h.tc, h.tB, h.tv, h.tl, h.uP, h.uB, h.uv, h.ut, fun k hk => by rw [World.size_setCell]; exact h.ulo k hk, by rw [World.size_setCell]; exact h.bs⟩, rfl, rfl, rfl, by rw [World.size_setCell]; exact Nat.le_refl _, fun k _ hn => ⟨ne fun e => hn (by rw [e]; exact h.uP), hn⟩⟩
  · rw [hS]
    refine h.st.sameB (ne (blk_ne h.st.at_ h.hp (cells_ne (by decide)))) (fun k hk => ?_) (fun m hm k hk => ?_)
    · obtain ⟨-, cur, hc⟩ := oblk h.st.row k hk
      exact ne (blk_ne hc h.hp (cells_ne (by decide)))
    · obtain ⟨cur, hc⟩ := h.st.pblk hm hk
      exact ne (blk_ne hc h.hp (cells_ne (by decide)))
  · rw [hs]
    exact h.mc.keep (fun k hk => ne fun e => hk (e ▸ h.tP)) (by rw [World.size_setCell]; exact Nat.le_refl _)
/-- Another machine in the old one's place. -/
theorem PlR.other (h : PlR w u t base P X V d v l) (hb : Below w.heap.size w w') {M : Nat} {s' : St} (hm : MAt w' t' M X.E 3000 s') (ht : ∀ k, k < w.heap.size → t' k = 0) :
    ∃ u', PlR (w'.setCell ⟨P, 10, none⟩ (.pointer (some ⟨M, 0, none⟩))) u' t' base P X { V with M := M } { d with s := s' } v l ∧ Fu w (w'.setCell ⟨P, 10, none⟩ (.pointer (some ⟨M, 0, none⟩))) u u' := by
  obtain ⟨h1, h2, h3, h4, h5, h6⟩ := h.parts (w' := w') fun k hk _ => hb.block k hk
  have tz : ∀ {a : Value}, (∀ k, a.ownBlock = some k → k < w.heap.size) → Tv t' a 0 := fun hl k hk => ht k (hl k hk)
  have ne : ∀ {k : Nat}, k ≠ P → (w'.setCell ⟨P, 10, none⟩ (.pointer (some ⟨M, 0, none⟩))).heap[k]? = w'.heap[k]? := fun hk => Below.heap_setCell _ _ _ _ hk
  have row : ∀ {T : TypeId} {K n : Nat} {a : Value} {xs : List Value}, w'.ownsRow base T K a n xs → T ≠ 78 → (w'.setCell ⟨P, 10, none⟩ (.pointer (some ⟨M, 0, none⟩))).ownsRow base T K a n xs := fun r hT => osame r fun k hk => by
    obtain ⟨-, cur, hc⟩ := oblk r k hk
    exact ne (blk_ne hc h1 (cells_ne hT))
  have hz := hb.size
  refine ⟨fun k => u k ∨ (w.heap.size ≤ k ∧ t' k ≠ 0), ⟨by rw [heap_set h1]; rfl, row h2 (by decide), row h3 (by decide), row h4 (by decide), row h5 (by decide), ?_, ?_, ht _ h.ltP, tz (olt h.rw_), tz (olt h.re), tz (olt h.ri), tz (olt h.rc), ht _ h.ltB, tz (olt h.st.row),
    fun m hm => tz (fun k hk => by obtain ⟨cur, hc⟩ := h.st.pblk hm hk; exact (Array.getElem?_eq_some_iff.1 hc).1), .inl h.uP, .inl h.uB, fun k hk => .inl (h.uv k hk), fun k hk => ?_, fun k hk => ?_, by rw [World.size_setCell]; exact Nat.le_trans h.bs hz⟩, ⟨hb.os, hb.tape, hb.output, by rw [World.size_setCell]; exact hz, fun k hk hn => ?_⟩⟩
  · refine h6.sameB (ne (blk_ne h6.at_ h1 (cells_ne (by decide)))) (fun k hk => ?_) (fun m hm k hk => ?_)
    · obtain ⟨-, cur, hc⟩ := oblk h6.row k hk
      exact ne (blk_ne hc h1 (cells_ne (by decide)))
    · obtain ⟨cur, hc⟩ := h6.pblk hm hk
      exact ne (blk_ne hc h1 (cells_ne (by decide)))
  · exact hm.keep (fun k hk => ne fun e => hk (e ▸ ht _ h.ltP)) (by rw [World.size_setCell]; exact Nat.le_refl _)
  · exact .inr ⟨Nat.le_of_not_lt fun hl => hk (ht k hl), hk⟩
  · rw [World.size_setCell]
    rcases hk with hk | ⟨h7, h8⟩
    · exact ⟨(h.ulo k hk).1, Nat.lt_of_lt_of_le (h.ulo k hk).2 hz⟩
    · exact ⟨Nat.le_trans h.bs h7, hm.lt k h8⟩
  · refine ⟨(ne fun e => hn (by rw [e]; exact h.uP)).trans (hb.block k hk), fun hu => ?_⟩
    rcases hu with hu | ⟨h7, -⟩
    · exact hn hu
    · omega
/-- One more is kept. -/
theorem PlR.put (h : PlR w u t base P X V d v l) {S' : Ms} (hs : StAt w' base V.Bs X.most v' l' S') (hb : Below base w w') (hk : KeepS w w') (hx : KeepX w w' V.Bs v) (hv : fromS w v v') (hl : fromL w l l') :
    ∃ u', PlR w' u' t base P X V { d with S := S' } v' l' ∧ Fu w w' u u' := by
  have row : ∀ {T : TypeId} {K n : Nat} {a : Value} {xs : List Value}, w.ownsRow base T K a n xs → T ≠ 132 → T ≠ 103 → w'.ownsRow base T K a n xs := fun r h1 h2 => osame r fun k hk' => by
    obtain ⟨-, cur, hc⟩ := oblk r k hk'
    rw [hc]
    exact hk k _ hc (fun c f => cells_ne h1) (fun c f => cells_ne h2)
  have hz := hb.size
  have new : ∀ k, w.heap.size ≤ k → t k = 0 := fun k hk' => by
    rcases Nat.eq_zero_or_pos (t k) with e | e
    · exact e
    · have := h.mc.lt k (by omega); omega
  refine ⟨fun k => u k ∨ v'.ownBlock = some k, ⟨hk _ _ h.hp (fun c f => cells_ne (by decide)) (fun c f => cells_ne (by decide)), row h.rw_ (by decide) (by decide), row h.re (by decide) (by decide), row h.ri (by decide) (by decide), row h.rc (by decide) (by decide), hs,
    h.mc.keep (fun k hk' => hx k (h.mc.lt k hk') (fun e => hk' (e ▸ h.tB)) (fun e => hk' (h.tv k e))) hz, h.tP, h.tw, h.te, h.ti, h.tc, h.tB, fun k hk' => ?_, fun m hm k hk' => ?_, .inl h.uP, .inl h.uB, fun k hk' => .inr hk', fun k hk' => .inl (h.ut k hk'), fun k hk' => ?_, Nat.le_trans h.bs hz⟩, ⟨hb.os, hb.tape, hb.output, hz, fun k hk' hn => ?_⟩⟩
  · rcases hv with hv | hv
    · exact h.tv k (hv ▸ hk')
    · exact new k (hv k hk')
  · rcases hl m hm with hl | hl
    · exact h.tl m hl k hk'
    · exact new k (hl k hk')
  · rcases hk' with hk' | hk'
    · exact ⟨(h.ulo k hk').1, Nat.lt_of_lt_of_le (h.ulo k hk').2 hz⟩
    · exact ⟨(oblk hs.row k hk').1, olt hs.row k hk'⟩
  · refine ⟨hx k hk' (fun e => hn (e ▸ h.uB)) (fun e => hn (h.uv k e)), fun hu => ?_⟩
    rcases hu with hu | hu
    · exact hn hu
    · rcases hv with hv | hv
      · exact hn (h.uv k (hv ▸ hu))
      · have := hv k hu; omega
end
/-- A player, bundled. -/
def PAt (w : World) (u : Nat → Prop) (base P : Nat) (X : PX) (d : PS) : Prop := ∃ t V v l, PlR w u t base P X V d v l
def PPost (w : World) (u : Nat → Prop) (base P : Nat) (X : PX) (d : PS) (w' : World) : Prop := ∃ u', PAt w' u' base P X d ∧ Fu w w' u u'
section
variable {w w' : World} {u u' : Nat → Prop} {base P : Nat} {X : PX} {d : PS}
theorem PAt.below (h : PAt w u base P X d) (hb : Below w.heap.size w w') : PAt w' u base P X d := by
  obtain ⟨t, V, v, l, h⟩ := h
  exact ⟨t, V, v, l, h.below hb⟩
theorem PPost.before (hf : Fu w w' u u') {w'' : World} (h : PPost w' u' base P X d w'') : PPost w u base P X d w'' := by
  obtain ⟨u2, h1, h2⟩ := h
  exact ⟨u2, h1, hf.trans h2⟩
theorem PPost.same (h : PAt w u base P X d) (hb : Below w.heap.size w w') : PPost w u base P X d w' := ⟨u, h.below hb, Fu.below hb⟩
theorem PAt.lo (h : PAt w u base P X d) : (∀ k, k < base → ¬ u k) ∧ base ≤ w.heap.size := by
  obtain ⟨t, V, v, l, h⟩ := h
  exact ⟨fun k hk hu => by have := (h.ulo k hu).1; omega, h.bs⟩
end
end Go.Proofs.Ytgjmdcbdkdmceaa.Mach
