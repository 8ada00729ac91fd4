/- What is saved: its bytes are bytes; the law's comparison of them. -/
import Derived.Test.YteeapfgjjankeaaIg
import Derived.Test.YteeapfgjjankeaaT
namespace Go.Proofs.Yteeapfgjjankeaa.Mach
open Go.RowKit

theorem isB_app {l m : List Int} (h : isB l) (k : isB m) : isB (l ++ m) := fun x hx => (List.mem_append.1 hx).elim (h x) (k x)
theorem isB_flat {α : Type} {l : List α} {f : α → List Int} (h : ∀ a ∈ l, isB (f a)) : isB (l.flatMap f) := fun x hx => by
  obtain ⟨a, ha, hxa⟩ := List.mem_flatMap.1 hx
  exact h a ha x hxa
theorem isB_bytes (x : Int) (n : Nat) : isB (bytesL x n) := by
  intro y hy
  unfold bytesL at hy
  obtain ⟨i, -, rfl⟩ := List.mem_map.1 hy
  omega
theorem isB_list (l : List Int) : isB (listB l) := isB_app (isB_bytes _ _) (isB_flat fun a _ => isB_bytes a 8)
theorem isB_save (s : St) : isB (saveB s) := by
  unfold saveB headB
  exact isB_app (isB_app (isB_app (isB_app (isB_app (isB_app (isB_app (isB_app (isB_app (isB_bytes _ _) (isB_bytes _ _)) (isB_bytes _ _)) (isB_list _)) (isB_bytes _ _)) (isB_bytes _ _)) (isB_bytes _ _)) (isB_list _)) (isB_bytes _ _))
    (isB_flat fun f _ => isB_app (isB_app (isB_app (isB_app (isB_app (isB_app (isB_bytes _ _) (isB_bytes _ _)) (isB_bytes _ _)) (isB_flat fun a _ => isB_bytes a 8)) (isB_list _)) (isB_list _)) (isB_list _))
set_option maxHeartbeats 1000000 in
theorem msame_any (v1 v2 : Value) (l m : List Int) (w : World) (h1 : RdB w v1 l) (h2 : RdB w v2 m) (b1 : isB l) (b2 : isB m) :
    Calls Try.prog 13 #[v1, v2] w fun e w' => e = .returned (.bool (eqL l m)) ∧ w = w' := by
  have k1 := run_convert_rdB (P := Try.prog) h1 Try.underlying24 Try.underlying5 (dst := 9) Try.underlying9
  have k2 := run_convert_rdB (P := Try.prog) h2 Try.underlying24 Try.underlying5 (dst := 9) Try.underlying9
  have HE : Hid _ := eqL_str b1 b2
  clear h1 h2 b1 b2
  go_enter Try.func13, Try.ntmps13
  go_wp2_with fail
  go_ret
  exact ⟨ret_bool HE.out, rfl⟩
theorem eqL_self (l : List Int) : eqL l l = true := by simp [eqL]
end Go.Proofs.Yteeapfgjjankeaa.Mach
