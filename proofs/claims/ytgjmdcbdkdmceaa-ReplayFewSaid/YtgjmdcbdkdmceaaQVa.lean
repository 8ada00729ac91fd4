/- Vm: blocks told by their types; the machine's small functions: the count of steps, the innermost call, its slots, the end. -/
import Derived.Test.YtgjmdcbdkdmceaaQ13
import Derived.Test.YtgjmdcbdkdmceaaProg
import Derived.ProofKit
import Derived.OpenShut
import Derived.KernelRfl
import Derived.Below
import Derived.BigQuiet
import Derived.Deep.QuietTactic
import Derived.Laws.LoneSync
namespace Go.Proofs.Ytgjmdcbdkdmceaa
open Go.RowKit

theorem own_blk {w : World} {base : Nat} {e : TypeId} {size n : Nat} {v : Value} {xs : List Value} (h : w.ownsRow base e size v n xs) : ∀ k, v.ownBlock = some k → base ≤ k ∧ ∃ cur, w.heap[k]? = some (.cells cur e (0, 0)) := by
  intro k hk
  rcases h.2 with ⟨rfl, _⟩ | ⟨g, cap, cur, rfl, h1, h2, _⟩
  · cases hk
  · simp [Value.ownBlock] at hk; subst hk; exact ⟨h1, cur, h2⟩
theorem own_same {w w' : World} {base : Nat} {e : TypeId} {size n : Nat} {v : Value} {xs : List Value} (h : w.ownsRow base e size v n xs) (hk : ∀ k, v.ownBlock = some k → w'.heap[k]? = w.heap[k]?) : w'.ownsRow base e size v n xs := by
  refine ⟨h.1, ?_⟩
  rcases h.2 with h1 | ⟨g, cap, cur, rfl, h1, h2, h3⟩
  · exact .inl h1
  · exact .inr ⟨g, cap, cur, rfl, h1, (hk g rfl).trans h2, h3⟩
theorem cells_ne {c c' : Array Value} {t t' : TypeId} {f f' : Nat × Nat} (h : t ≠ t') : Obj.cells c t f ≠ Obj.cells c' t' f' := fun e => by cases e; exact h rfl
theorem blk_ne {w : World} {i j : Nat} {o o' : Obj} (h1 : w.heap[i]? = some o) (h2 : w.heap[j]? = some o') (h : o ≠ o') : i ≠ j := fun e => by subst e; rw [h1] at h2; exact h (Option.some.inj h2)
theorem below_drewN {B : Nat} {a w : World} (h : Below B a w) (n : Nat) : Below B a (w.drewN n) := ⟨h.os, h.tape, h.output, h.size, h.block⟩

theorem add_any (M o : Nat) (n : Int) (w : World) (hc : w.cell? ⟨M, o, none⟩ = some (.int .i64 n)) (hz : w.frozen? ⟨M, o, none⟩ = false) (h0 : 0 ≤ n) (h1 : n ≤ 1000000) :
    Calls Try.prog 58 #[.pointer (some ⟨M, o, none⟩), .int .i64 1] w fun e w' => e = .returned (.int .i64 (n + 1)) ∧ w' = w.setCell ⟨M, o, none⟩ (.int .i64 (n + 1)) := by
  have hadd := run_call_add (P := Try.prog) Try.func77 (by kernel_rfl) (by kernel_rfl) (by kernel_rfl) .i64 (by kernel_rfl) (y := 1) (s := n + 1) hc hz (by simp [go_sem]; first | done | (rw [IntKind.wrap_i64]; omega) | omega)
  go_enter Try.func58, Try.ntmps58
  go_wp2_with fail
  go_ret
  exact ⟨rfl, rfl⟩
theorem load_any (M o : Nat) (n : Int) (w : World) (hc : w.cell? ⟨M, o, none⟩ = some (.int .i64 n)) :
    Calls Try.prog 43 #[.pointer (some ⟨M, o, none⟩)] w fun e w' => e = .returned (.int .i64 n) ∧ w' = w := by
  have hl := run_call_load (P := Try.prog) Try.func63 (by kernel_rfl) (by kernel_rfl) (by kernel_rfl) .i64 (by kernel_rfl) hc
  go_enter Try.func43, Try.ntmps43
  go_wp2_with fail
  go_ret
  exact ⟨rfl, rfl⟩
theorem ends_any (M : Nat) (e0 x : Int) (w : World) (hc : w.cell? ⟨M, 8, none⟩ = some (.int .u8 e0)) (hz : w.frozen? ⟨M, 8, none⟩ = false) :
    Calls Try.prog 60 #[.pointer (some ⟨M, 0, none⟩), .int .u8 x] w fun e w' => e = .returned (.tuple #[]) ∧ w' = w.setCell ⟨M, 8, none⟩ (.int .u8 x) := by
  go_enter Try.func60, Try.ntmps60
  go_wp2_with fail
  refine bodyPost_end (results_none rfl _ _ _) rfl ?_
  exact ⟨rfl, rfl⟩
theorem now_any (M ob oo n c F : Nat) (w : World) (hc : w.cell? ⟨M, 5, none⟩ = some (.slice (some ⟨ob, oo, none⟩) (n + 1) c)) (hF : w.cell? ⟨ob, oo + n, none⟩ = some (.pointer (some ⟨F, 0, none⟩))) (hn : n ≤ 100000) :
    Calls Try.prog 59 #[.pointer (some ⟨M, 0, none⟩)] w fun e w' => e = .returned (.pointer (some ⟨F, 0, none⟩)) ∧ ∃ q, w' = w.drewN q := by
  go_enter Try.func59, Try.ntmps59
  go_wp2_with fail
  go_quiet (fail)
  go_wp2_with fail
  go_ret
  exact ⟨rfl, _, rfl⟩
theorem slots_any (M eb eo n c i : Nat) (s : Int) (w : World) (hc : w.cell? ⟨M, 1, none⟩ = some (.slice (some ⟨eb, eo, none⟩) n c)) (hi : i < n) (hs : w.cell? ⟨eb, eo + i * 2 + 1, none⟩ = some (.int .i64 s)) (h0 : 0 ≤ s) (h1 : s ≤ 60000) :
    Calls Try.prog 57 #[.pointer (some ⟨M, 0, none⟩), .int .i64 i] w fun e w' => e = .returned (.tuple #[.int .i64 s, .bool true]) ∧ w' = w := by
  have b0 : decide (0 ≤ s) = true := decide_eq_true h0
  have b1 : decide (s ≤ 60000) = true := decide_eq_true h1
  go_enter Try.func57, Try.ntmps57
  go_wp2_with fail
  go_ret2
  exact ⟨rfl, rfl⟩
end Go.Proofs.Ytgjmdcbdkdmceaa
