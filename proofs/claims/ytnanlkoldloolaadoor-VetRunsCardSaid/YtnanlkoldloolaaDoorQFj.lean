/- Walks: equality of bytes; the reference's names, form, traps. -/
import Derived.Test.YtnanlkoldloolaaDoorQ13
import Derived.Deep.QuietTactic
import Derived.BigQuiet
namespace Go.Proofs.YtnanlkoldloolaaDoor
open Go.RowKit

set_option maxHeartbeats 1000000 in
theorem sameBytes_any (v1 v2 : Value) (l m : List Int) (w : World) (h1 : RdB w v1 l) (h2 : RdB w v2 m) (b1 : isB l) (b2 : isB m) :
    Calls Tryd.prog 13 #[v1, v2] w fun e w' => e = .returned (.bool (eqL l m)) ∧ w = w' := by
  have k1 := run_convert_rdB (P := Tryd.prog) h1 Tryd.underlying24 Tryd.underlying5 (dst := 9) Tryd.underlying9
  have k2 := run_convert_rdB (P := Tryd.prog) h2 Tryd.underlying24 Tryd.underlying5 (dst := 9) Tryd.underlying9
  have HE : Hid _ := eqL_str b1 b2
  clear h1 h2 b1 b2
  go_enter Tryd.func13, Tryd.ntmps13
  go_wp2
  go_ret
  exact ⟨ret_bool HE.out, rfl⟩

set_option maxHeartbeats 1000000 in
theorem traps_any (n : Int) (w : World) : Calls Tryd.prog 28 #[.int .u8 n] w fun e w' => e = .returned (.bool (trapsB n)) ∧ w = w' := by
  go_enter Tryd.func28, Tryd.ntmps28
  go_wp2
  all_goals go_ret
  all_goals exact ⟨ret_bool (by go_light; simp [trapsB, *]), rfl⟩

set_option maxHeartbeats 1000000 in
theorem refTraps_any (n : Int) (w : World) : Calls Tryd.prog 22 #[.int .u8 n] w fun e w' => e = .returned (.bool (trapsB n)) ∧ w = w' := by
  go_enter Tryd.func22, Tryd.ntmps22
  go_wp2
  all_goals go_ret
  all_goals exact ⟨ret_bool (by go_light; rw [Bool.eq_iff_iff]; simp [trapsB]; omega), rfl⟩

/-- What the reference says that an operation names. -/
def nmR (n : Int) : Int := if (shp n).2.2.2.2 then (shp n).1 else -1
def nmI (n : Int) : Bool := (shp n).2.2.2.2 && (shp n).2.1

def regT : List Int := [1, 2, 1, 1, 3, 3, 2, 1, 1, 1, 1, 1, 1, 1, 0, 0, 1, 1, 1]
def immT : List Bool := [true, false, true, true, false, false, false, true, false, false, false, true, false, false, true, true, true, false, true]
def nmT (n : Int) : Int × Bool :=
  if 1 ≤ n ∧ n ≤ 16 then (3, false) else if 19 ≤ n ∧ n ≤ 21 then (2, false) else if n < 30 ∨ 48 < n then (-1, false) else (regT.getD (n - 30).toNat 0, immT.getD (n - 30).toNat false)
theorem nm_tab : ∀ k : Fin 256, (nmR ((k.val : Nat) : Int), nmI ((k.val : Nat) : Int)) = nmT ((k.val : Nat) : Int) := by decide +kernel
theorem nm_is {n : Int} (h0 : 0 ≤ n) (h1 : n ≤ 255) {r : Int} {i : Bool} (h : nmT n = (r, i)) : Ending.returned (.tuple #[.int .i64 r, .bool i]) = .returned (.tuple #[.int .i64 (nmR n), .bool (nmI n)]) := by
  obtain ⟨k, rfl⟩ := Int.eq_ofNat_of_zero_le h0
  have := nm_tab ⟨k, by omega⟩
  simp only [h, Prod.mk.injEq] at this
  rw [this.1, this.2]

set_option maxHeartbeats 2000000 in
theorem names_low (n : Int) (w : World) (h0 : 0 ≤ n) (h1 : n ≤ 255) (h : n < 30 ∨ 48 < n) : Calls Tryd.prog 29 #[.int .u8 n] w fun e w' => e = .returned (.tuple #[.int .i64 (nmR n), .bool (nmI n)]) ∧ Below w.heap.size w w' := by
  have hcase : (1 ≤ n ∧ n ≤ 16) ∨ (n < 1) ∨ (16 < n ∧ n < 19) ∨ (19 ≤ n ∧ n ≤ 21) ∨ (21 < n ∧ n < 30) ∨ 48 < n := by omega
  have F := Lib.hid (fun (r : Int) (i : Bool) (h : nmT n = (r, i)) => nm_is h0 h1 h)
  clear h h0 h1
  rcases hcase with ⟨a, b⟩ | a | ⟨a, b⟩ | ⟨a, b⟩ | ⟨a, b⟩ | a
  all_goals
    go_enter Tryd.func29, Tryd.ntmps29
    go_wp2
    go_ret2
    go_light
    refine ⟨F.out _ _ ?_, Below.refl _ _⟩
    unfold nmT
    repeat (first | rw [if_pos (by omega)] | rw [if_neg (by omega)])

set_option maxHeartbeats 4000000 in
theorem names_high (n : Int) (w : World) (h0 : 30 ≤ n) (h1 : n ≤ 48) : Calls Tryd.prog 29 #[.int .u8 n] w fun e w' => e = .returned (.tuple #[.int .i64 (nmR n), .bool (nmI n)]) ∧ Below w.heap.size w w' := by
  have F := Lib.hid (fun (r : Int) (i : Bool) (h : nmT n = (r, i)) => nm_is (n := n) (by omega) (by omega) h)
  have hT : Hid (nmT n = (regT.getD (n - 30).toNat 0, immT.getD (n - 30).toNat false)) := by
    show _ = _; unfold nmT; rw [if_neg (by omega), if_neg (by omega), if_neg (by omega)]
  have c1 : ∀ A B : Obj, A = .cells (regT.map (Value.int .i64)).toArray 3 → ((w.alloc A).alloc B).cell? ⟨w.heap.size, (n - 30).toNat, none⟩ = some (.int .i64 (regT.getD (n - 30).toNat 0)) := by
    intro A B hA
    have hk : (n - 30).toNat < 19 := by omega
    rw [World.cell?_alloc_past _ _ _ (by simp), hA, World.cell?_alloc_at _ _ _ _ rfl]
    generalize (n - 30).toNat = k at *
    have : k < regT.length := hk
    simp [this]
  have c2 : ∀ A B : Obj, B = .cells (immT.map Value.bool).toArray 4 → ((w.alloc A).alloc B).cell? ⟨w.heap.size + 1, (n - 30).toNat, none⟩ = some (.bool (immT.getD (n - 30).toNat false)) := by
    intro A B hB
    have hk : (n - 30).toNat < 19 := by omega
    rw [hB, World.cell?_alloc_at _ _ _ _ (by simp)]
    generalize (n - 30).toNat = k at *
    have : k < immT.length := hk
    simp [this]
  have d1 := c1 _ (.cells (immT.map Value.bool).toArray 4) rfl
  have d2 := c2 (.cells (regT.map (Value.int .i64)).toArray 3) _ rfl
  simp only [regT, immT, List.map_cons, List.map_nil] at d1 d2
  generalize hX : List.getD [1, 2, 1, 1, 3, 3, 2, 1, 1, 1, 1, 1, 1, 1, 0, 0, 1, 1, (1 : Int)] (n - 30).toNat 0 = X at d1
  generalize hY : List.getD [true, false, true, true, false, false, false, true, false, false, false, true, false, false, true, true, true, false, true] (n - 30).toNat false = Y at d2
  have HXY : Hid (nmT n = (X, Y)) := by show _ = _; rw [hT.out, ← hX, ← hY]; rfl
  clear c1 c2 hX hY hT
  have e1 : ¬ n ≤ 16 := by omega
  have e2 : ¬ n ≤ 21 := by omega
  have e3 : ¬ n < 30 := by omega
  have e4 : ¬ 48 < n := by omega
  have e5 : n - 30 < 19 := by omega
  have e6 : 0 ≤ n - 30 := by omega
  go_enter Tryd.func29, Tryd.ntmps29
  go_wp2
  go_quiet (fail)
  go_wp2
  go_ret2
  exact ⟨F.out _ _ HXY.out, Go.below_drewN (((Below.refl _ _).alloc (Nat.le_refl _) _).alloc (by simp) _) _⟩

theorem names_any (n : Int) (w : World) (h0 : 0 ≤ n) (h1 : n ≤ 255) : Calls Tryd.prog 29 #[.int .u8 n] w fun e w' => e = .returned (.tuple #[.int .i64 (nmR n), .bool (nmI n)]) ∧ Below w.heap.size w w' := by
  by_cases h : n < 30 ∨ 48 < n
  · exact names_low n w h0 h1 h
  · exact names_high n w (by omega) (by omega)

/-- What an operation's number may be. -/
theorem shp_imm : ∀ k : Fin 256, (shp ((k.val : Nat) : Int)).2.1 = true → (((k.val : Nat) : Int) = 30 ∧ (shp ((k.val : Nat) : Int)).2.2.1 = minI ∧ (shp ((k.val : Nat) : Int)).2.2.2.1 = maxI) ∨ ((((k.val : Nat) : Int) = 32 ∨ ((k.val : Nat) : Int) = 33) ∧ (shp ((k.val : Nat) : Int)).2.2.1 = 0 ∧ (shp ((k.val : Nat) : Int)).2.2.2.1 = 59999) ∨ (((k.val : Nat) : Int) = 37 ∧ (shp ((k.val : Nat) : Int)).2.2.1 = 1 ∧ (shp ((k.val : Nat) : Int)).2.2.2.1 = 256) ∨ (((k.val : Nat) : Int) = 48 ∧ (shp ((k.val : Nat) : Int)).2.2.1 = 0 ∧ (shp ((k.val : Nat) : Int)).2.2.2.1 = 5) ∨ ((((k.val : Nat) : Int) = 41 ∨ ((k.val : Nat) : Int) = 46 ∨ ((k.val : Nat) : Int) = 44 ∨ ((k.val : Nat) : Int) = 45) ∧ (shp ((k.val : Nat) : Int)).2.2.1 = 0 ∧ (shp ((k.val : Nat) : Int)).2.2.2.1 = maxI) := by decide +kernel
theorem shp_r : ∀ k : Fin 256, (0 ≤ (shp ((k.val : Nat) : Int)).1 ∧ (shp ((k.val : Nat) : Int)).1 ≤ 3) ∧ ((shp ((k.val : Nat) : Int)).2.2.2.2 = false → (shp ((k.val : Nat) : Int)).1 = 0 ∧ (shp ((k.val : Nat) : Int)).2.1 = false) := by decide +kernel
theorem shp_facts {n r lo hi : Int} {i ok : Bool} (h0 : 0 ≤ n) (h1 : n ≤ 255) (h : shp n = (r, i, lo, hi, ok)) : (0 ≤ r ∧ r ≤ 3) ∧ (ok = false → r = 0 ∧ i = false) ∧
    (i = true → (n = 30 ∧ lo = minI ∧ hi = maxI) ∨ ((n = 32 ∨ n = 33) ∧ lo = 0 ∧ hi = 59999) ∨ (n = 37 ∧ lo = 1 ∧ hi = 256) ∨ (n = 48 ∧ lo = 0 ∧ hi = 5) ∨ ((n = 41 ∨ n = 46 ∨ n = 44 ∨ n = 45) ∧ lo = 0 ∧ hi = maxI)) := by
  have ha : (0 ≤ (shp n).1 ∧ (shp n).1 ≤ 3) ∧ ((shp n).2.2.2.2 = false → (shp n).1 = 0 ∧ (shp n).2.1 = false) := by
    have := shp_r ⟨n.toNat, by omega⟩
    simp only [Int.toNat_of_nonneg h0] at this
    exact this
  have hb : (shp n).2.1 = true → (n = 30 ∧ (shp n).2.2.1 = minI ∧ (shp n).2.2.2.1 = maxI) ∨ ((n = 32 ∨ n = 33) ∧ (shp n).2.2.1 = 0 ∧ (shp n).2.2.2.1 = 59999) ∨ (n = 37 ∧ (shp n).2.2.1 = 1 ∧ (shp n).2.2.2.1 = 256) ∨ (n = 48 ∧ (shp n).2.2.1 = 0 ∧ (shp n).2.2.2.1 = 5) ∨ ((n = 41 ∨ n = 46 ∨ n = 44 ∨ n = 45) ∧ (shp n).2.2.1 = 0 ∧ (shp n).2.2.2.1 = maxI) := by
    have := shp_imm ⟨n.toNat, by omega⟩
    simp only [Int.toNat_of_nonneg h0] at this
    exact this
  rw [h] at ha hb
  exact ⟨ha.1, ha.2, hb⟩
end Go.Proofs.YtnanlkoldloolaaDoor
