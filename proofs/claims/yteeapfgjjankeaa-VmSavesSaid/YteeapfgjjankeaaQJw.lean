/- Runs in pieces, plainly. -/
import Derived.Test.YteeapfgjjankeaaQ17
import Derived.Test.YteeapfgjjankeaaQIp
namespace Go.Proofs.Yteeapfgjjankeaa.Mach
open Go.RowKit

theorem runF_sane {E : Env} (hE : EnvOk E) {L : Nat} {s : St} (hs : Sane E L s) (x : Nat) : Sane E (L + (runF E x s).1) (runF E x s).2 := by
  induction x generalizing s L with
  | zero => rw [runF_zero]; exact hs
  | succ x ih =>
    by_cases h : s.end_ = 0
    · rw [mrunF_step h]
      have h1 := ih (stepF_good hE hs h)
      have e : L + ((runF E x (stepF E s).1).1 + 1) = L + 1 + (runF E x (stepF E s).1).1 := by omega
      dsimp only
      rw [e]
      exact h1
    · rw [mrunF_stop h]; exact hs
/-- Just the steps that were done. -/
theorem runF_exact (E : Env) (x : Nat) (s : St) : runF E (runF E x s).1 s = runF E x s := by
  induction x generalizing s with
  | zero => rfl
  | succ x ih =>
    by_cases h : s.end_ = 0
    · rw [mrunF_step h]
      dsimp only
      rw [mrunF_step h, ih]
    · have e : runF E (x + 1) s = (0, s) := mrunF_stop h
      rw [e]
      rfl
theorem runF_steps {E : Env} (hE : EnvOk E) {L : Nat} {s : St} (hs : Sane E L s) (h0 : 0 ≤ s.steps) (x : Nat) (hx : s.steps + x ≤ 1000000000) : (runF E x s).2.steps = s.steps + (runF E x s).1 := by
  induction x generalizing s L with
  | zero => rw [runF_zero]; simp
  | succ x ih =>
    by_cases h : s.end_ = 0
    · rw [mrunF_step h]
      dsimp only
      have ho : s.opn ≠ [] := fun e => by have := hs.o.1 e; omega
      have h1 := stepF_steps E s ho
      have h2 : wrap64 (s.steps + 1) = s.steps + 1 := by unfold wrap64; omega
      rw [h2] at h1
      rw [ih (stepF_good hE hs h) (by omega) (by omega), h1]
      omega
    · rw [mrunF_stop h]; simp
/-- A machine that was run so many steps, and those were all done or it ended: on to k. -/
theorem runF_on {E : Env} {s : St} {t k : Nat} (ht : (runF E t s).1 = t) (htk : t ≤ k) : (runF E (k - t) (runF E t s).2).2 = (runF E k s).2 := by
  have e : k = t + (k - t) := by omega
  conv => rhs; rw [e, runF_plus]
theorem runF_more {E : Env} {s : St} {t c : Nat} (ht : (runF E t s).1 = t) : ∃ t', t' ≤ t + c ∧ (runF E c (runF E t s).2).2 = (runF E t' s).2 ∧ (runF E t' s).1 = t' := by
  have h1 := runF_plus E t c s
  have h2 := runF_exact E (t + c) s
  have h3 := runF_le E (t + c) s
  refine ⟨(runF E (t + c) s).1, h3, ?_, ?_⟩
  · rw [h2, h1]
  · rw [h2]
theorem MAt.sane {w : World} {t : Nat → Nat} {M : Nat} {E : Env} {L L' : Nat} {s : St} (h : MAt w t M E L s) (hs : Sane E L' s) : MAt w t M E L' s := by
  obtain ⟨base, V, cl, h1, -⟩ := h
  exact ⟨base, V, cl, h1, hs⟩
theorem MAt.isSane {w : World} {t : Nat → Nat} {M : Nat} {E : Env} {L : Nat} {s : St} (h : MAt w t M E L s) : Sane E L s := by
  obtain ⟨base, V, cl, -, h2⟩ := h
  exact h2
theorem MAt.keep {w w' : World} {t : Nat → Nat} {M : Nat} {E : Env} {L : Nat} {s : St} (h : MAt w t M E L s) (hk : ∀ k, t k ≠ 0 → w'.heap[k]? = w.heap[k]?) (hz : w.heap.size ≤ w'.heap.size) : MAt w' t M E L s := by
  obtain ⟨base, V, cl, h1, h2⟩ := h
  exact ⟨base, V, cl, h1.view hk hz, h2⟩
theorem MAt.lt {w : World} {t : Nat → Nat} {M : Nat} {E : Env} {L : Nat} {s : St} (h : MAt w t M E L s) : ∀ k, t k ≠ 0 → k < w.heap.size := by
  obtain ⟨base, V, cl, h1, -⟩ := h
  exact h1.lt
end Go.Proofs.Yteeapfgjjankeaa.Mach
