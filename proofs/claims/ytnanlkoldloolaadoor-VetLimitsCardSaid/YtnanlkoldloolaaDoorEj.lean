/- Locs: how bytes begin. -/
import Derived.Test.YtnanlkoldloolaaDoorEi
import Derived.Defers
import Derived.Recover
namespace Go.Proofs.YtnanlkoldloolaaDoor
open Go.RowKit

theorem infoBy : (Tryd.prog.info? 5).map (fun i => (i.zero, i.size, i.bytes)) = some (some (.int .u8 0), 1, 1) := by kernel_rfl
theorem infoBy_parts {i : Option TypeInfo} (h : i.map (fun i => (i.zero, i.size, i.bytes)) = some (some (.int .u8 0), 1, 1)) : ∃ x, i = some x ∧ x.size = 1 := by
  cases i with
  | none => simp at h
  | some x => simp at h; exact ⟨x, rfl, h.2.1⟩

def magicL : List Int := [84, 83, 76, 49]

set_option maxHeartbeats 1000000 in
theorem magic_any (w : World) : Calls Tryd.prog 41 #[] w fun e w' => e = .returned (.slice (some ⟨w.heap.size, 0, none⟩) 4 4) ∧ w' = w.alloc (.cells #[.int .u8 84, .int .u8 83, .int .u8 76, .int .u8 49] 5) := by
  go_enter Tryd.func41, Tryd.ntmps41
  go_wp2_with fail
  go_ret
  exact ⟨rfl, rfl⟩

theorem magic_rd (w w' : World) (h : Below (w.heap.size + 1) (w.alloc (.cells #[.int .u8 84, .int .u8 83, .int .u8 76, .int .u8 49] 5)) w') : RdB w' (.slice (some ⟨w.heap.size, 0, none⟩) 4 4) magicL := by
  refine Rd.mk rfl (Nat.le_refl 4) (by decide) (fun j hj => ?_)
  rw [h.cell (by simp)]
  rcases (by simp [magicL] at hj; omega : j = 0 ∨ j = 1 ∨ j = 2 ∨ j = 3) with rfl | rfl | rfl | rfl <;> simp [go_sem, magicL]

set_option maxHeartbeats 1000000 in
theorem equal_any (v1 v2 : Value) (l m : List Int) (w : World) (h1 : RdB w v1 l) (h2 : RdB w v2 m) (b1 : isB l) (b2 : isB m) :
    Calls Tryd.prog 50 #[v1, v2] w fun e w' => e = .returned (.bool (eqL l m)) ∧ w = w' := by
  have k1 := run_convert_rdB (P := Tryd.prog) h1 Tryd.underlying24 Tryd.underlying5 (dst := 9) Tryd.underlying9
  have k2 := run_convert_rdB (P := Tryd.prog) h2 Tryd.underlying24 Tryd.underlying5 (dst := 9) Tryd.underlying9
  have HE : Hid _ := eqL_str b1 b2
  clear h1 h2 b1 b2
  go_enter Tryd.func50, Tryd.ntmps50
  go_wp2
  go_ret
  exact ⟨ret_bool HE.out, rfl⟩

set_option maxHeartbeats 1000000 in
theorem hasPrefix_any (v1 v2 : Value) (l m : List Int) (w : World) (h1 : RdB w v1 l) (h2 : RdB w v2 m) (b1 : isB l) (b2 : isB m) :
    Calls Tryd.prog 40 #[v1, v2] w fun e w' => e = .returned (.bool (decide (m.length ≤ l.length) && eqL (l.take m.length) m)) ∧ w = w' := by
  obtain ⟨a1, c1, rfl⟩ := Rd.shape h1
  obtain ⟨a2, c2, rfl⟩ := Rd.shape h2
  obtain ⟨hi, e1, e2⟩ := infoBy_parts infoBy
  by_cases hle : m.length ≤ l.length
  · have hc1 : l.length ≤ c1 := by rcases h1.2 with ⟨h, _⟩ | ⟨a, cap, h, h3, _⟩ <;> simp at h <;> omega
    have s1 := fun W => run_slice_to (P := Tryd.prog) 24 5 Tryd.underlying24 e1 e2 a1 l.length c1 m.length (m.length : Int) rfl (by omega) W
    have h3 : RdB w (.slice a1 m.length c1) (l.take m.length) := by
      have := Rd.take h1 hle
      unfold RdB
      rw [List.length_take, Nat.min_eq_left hle]
      simpa [List.map_take] using this
    have HE := Lib.hid (equal_any _ _ _ _ w h3 h2 (fun x hx => b1 x (List.mem_of_mem_take hx)) b2)
    have hd : decide (m.length ≤ l.length) = true := decide_eq_true hle
    clear h1 h2 h3 b1 b2
    go_enter Tryd.func40, Tryd.ntmps40
    go_wp2_with fail
    refine HE.out.mono ?_
    rintro e w1 ⟨rfl, rfl⟩
    go_wp2_with fail
    go_ret
    exact ⟨ret_bool (by go_light; simp [hd]), rfl⟩
  · have hd : decide (m.length ≤ l.length) = false := decide_eq_false hle
    clear h1 h2 b1 b2
    go_enter Tryd.func40, Tryd.ntmps40
    go_wp2_with fail
    go_ret
    exact ⟨ret_bool (by go_light; simp [hd]), rfl⟩
end Go.Proofs.YtnanlkoldloolaaDoor
