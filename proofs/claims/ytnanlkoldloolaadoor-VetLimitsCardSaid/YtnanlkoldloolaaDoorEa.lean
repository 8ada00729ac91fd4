/- Vet: an instruction looked at; all instructions. -/
import Derived.Test.YtnanlkoldloolaaDoorG
import Derived.Test.YtnanlkoldloolaaDoorWs
import Derived.Deep.QuietTactic
import Derived.BigQuiet
namespace Go.Proofs.YtnanlkoldloolaaDoor
open Go.RowKit

set_option maxHeartbeats 1000000 in
theorem traps_any (n : Int) (w : World) : Calls Tryd.prog 28 #[.int .u8 n] w fun e w' => e = .returned (.bool (trapsB n)) ∧ w = w' := by
  go_enter Tryd.func28, Tryd.ntmps28
  go_wp2
  all_goals go_ret
  all_goals exact ⟨ret_bool (by go_light; simp [trapsB, *]), rfl⟩

/-- What an instruction's number must stay below; -1: nothing. -/
def limE (nw ne s op : Int) : Int := if op == 32 || op == 33 then s else if op == 41 then ne else if op == 45 || op == 46 then nw else -1
def wordE (nw ne s : Int) (x : W) : Int := if formB x then (if decide (0 ≤ limE nw ne s x.op) && decide (limE nw ne s x.op ≤ x.imm) then 17 else 0) else 3

def imgV (wa : Option Addr) (wn wc : Nat) (ea : Option Addr) (en ec : Nat) (m : Int) (da : Option Addr) (dn dc : Nat) : Value := .agg #[.slice wa wn wc, .slice ea en ec, .int .i64 m, .slice da dn dc]

set_option maxHeartbeats 4000000 in
theorem word_any (wa : Option Addr) (wn wc : Nat) (ea : Option Addr) (en ec : Nat) (m : Int) (da : Option Addr) (dn dc : Nat) (x : W) (s : Int) (w : World) :
   Calls Tryd.prog 26 #[.agg #[.slice wa wn wc, .slice ea en ec, .int .i64 m, .slice da dn dc], .agg #[.int .u8 x.op, .int .u8 x.a, .int .u8 x.b, .int .u8 x.c, .int .i64 x.imm], .int .i64 s] w fun e w' => e = .returned (.int .i64 (wordE wn en s x)) ∧ Below w.heap.size w w' := by
  obtain ⟨op, a, b, c, imm⟩ := x
  have HF := Lib.hid (fun w => form_any op a b c imm w)
  go_enter Tryd.func26, Tryd.ntmps26
  go_wp2_with fail
  all_goals
    refine (HF.out _).mono ?_
    rintro e w1 ⟨rfl, hb⟩
    obtain ⟨hc, hf⟩ := bcell hb
    have hz : w.heap.size < w1.heap.size := by have := hb.size; simp at this; omega
    have HB := Lib.hid ((((Below.refl w.heap.size w).alloc (Nat.le_refl _) _).alloc (by simp) _).trans (hb.mono (show w.heap.size ≤ _ by simp; omega)))
    clear hb
    obtain ⟨fb, hfb⟩ : ∃ fb, formB ⟨op, a, b, c, imm⟩ = fb := ⟨_, rfl⟩
    rw [hfb]
    have HFB := Lib.hid hfb
    clear hfb
    cases fb
    all_goals go_wp2_with fail
    all_goals go_ret
    all_goals refine ⟨?_, HB.out⟩
    all_goals (have HH := HFB.out; clear HFB HF HB hc hf hz; go_light; simp [wordE, limE, HH, *] <;> omega)
end Go.Proofs.YtnanlkoldloolaaDoor
