/- A region that draws its order, in a round of a loop over an iterator: by the laws for one outside of it. -/
import Derived.RangeFuncNested
import Derived.RangeFuncCalls
import Derived.OwnWalkIn
import Derived.Deep.RegionHeld3
import Derived.Test.YteeapfgjjankeaaQJn
namespace Go.Proofs.Yteeapfgjjankeaa.Mach
open Go Go.Proofs Go.RowKit

/-- It ends in the plain way, and then Pm holds. -/
def CutR (Pm : Act → World → Prop) : Exit → Act → World → Prop
  | .normal, a, w => Pm a w
  | _, _, _ => False
theorem cutR_out (Pm : Act → World → Prop) : ¬ LetsOut (CutR Pm) := fun ⟨_, _, h⟩ => h
def noDefer (o : Oper) : Bool := match o.op with | .defer _ => false | _ => true
theorem noDefer_spec {o : Oper} (h : noDefer o = true) : ∀ c, o.op ≠ .defer c := fun c e => by
  unfold noDefer at h
  rw [e] at h
  cases h
theorem rows_wide {P : Program} {n : Nat} {row : String} {args : Array Value} {w : World} {R : Value → World → Prop} {l : Nat} (h : Rows P row args w R) : RowsIn (Fence.wide.inRound l) n P row args w R := fun c cs _ =>
  let ⟨v, w', r, s⟩ := h c cs
  ⟨v, w', r, stepsIn_wide.2 s⟩
theorem oper_in {P : Program} {n l : Nat} {o : Oper} {a : Act} {w : World} {K K' : Act → World → Prop} {Pm : Act → World → Prop} (hd : noDefer o = true) (hk : ∀ a w, K a w → K' a w) (h : o.wp P a w K (CutR Pm)) : o.wpIn (Fence.wide.inRound l) n P a w K' (CutR Pm) := by
  refine ⟨fun _ _ => trivial, ?_⟩
  rw [Oper.semAt_plain _ _ _ (noDefer_spec hd)]
  unfold Oper.wp at h
  cases hr : (execOp a.eval o).run P w with
  | halt e w' =>
    rw [hr] at h
    cases e <;> first | exact h | exact (h : False).elim
  | ok x w' =>
    rw [hr] at h
    cases x with
    | value v => exact hk _ _ h
    | skip => exact hk _ _ h
    | defer d => exact hk _ _ h
    | enter f args =>
      refine ⟨fun h9 => by simp [Fence.wide] at h9, ?_⟩
      refine CallsIn.inRound l (callsIn_wide.2 (Calls.mono h ?_))
      intro e w'' h'
      cases e with
      | returned v => exact hk _ _ h'
      | panicked c => exact h'
      | outgrown => exact h'
    | row r args => exact ⟨fun h9 => by simp [Fence.wide] at h9, rows_wide (Rows.mono h fun v w'' h' => hk _ _ h')⟩
    | _ => exact (h : False).elim
theorem any_in {P : Program} {md : Region.Mode} {n l : Nat} {ops : Array Oper} {Pm : Act → World → Prop} (hd : ops.all noDefer = true) : ∀ (fuel : Nat) (listed : Array Bool) (a : Act) (w : World), wpAny P md ops (CutR Pm) fuel listed a w → wpAnyIn (Fence.wide.inRound l) n P md ops (CutR Pm) fuel listed a w
  | 0, _, _, _, h => h
  | fuel + 1, listed, a, w, h => ⟨h.1, fun i hi => by
    have h2 := h.2 i hi
    unfold wpOp at h2
    unfold wpOpIn
    cases ho : ops[i]? with
    | none => rw [ho] at h2; exact any_in hd fuel _ _ _ h2
    | some o =>
      rw [ho] at h2
      dsimp only at h2 ⊢
      have hdo : noDefer o = true := by
        rw [Array.all_eq_true'] at hd
        exact hd o (Array.mem_of_getElem? ho)
      split
      · rename_i hw
        rw [if_pos hw] at h2
        rcases h2 with h2 | ⟨_, h2⟩
        · exact oper_in hdo (fun a' w' h' => any_in hd fuel _ _ _ h') h2
        · exact absurd h2 (cutR_out Pm)
      · rename_i hw
        rw [if_neg hw] at h2
        exact ⟨fun _ _ => trivial, any_in hd fuel _ _ _ h2⟩⟩
/-- The region, by the law for one whose loads read cells that are held. -/
theorem region_in {P : Program} {n l id : Nat} {ops : Array Oper} {Pm : Act → World → Prop} {a : Act} {w : World} (S : World → Prop) (hm : P.follows .mixedOrders = true) (hd : ops.all noDefer = true) (hS : S w.drew)
    (h : S w.drew → wpAnyH P .any ops (CutR Pm) S ops.size (Array.replicate ops.size false) a w.drew) : (Code.region id ops true).wpIn (Fence.wide.inRound l) n P (CutR Pm) a w :=
  wpIn_region_any hm (any_in hd _ _ _ _ (wpAny_of_held _ _ _ _ (h hS)))
end Go.Proofs.Yteeapfgjjankeaa.Mach
