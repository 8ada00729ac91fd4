/- Locs: are all plain numbers in range. -/
import Derived.Test.YtnanlkoldloolaaDoorEh
namespace Go.Proofs.YtnanlkoldloolaaDoor
open Go.RowKit

def okN (n : Int) : Bool := decide (0 ≤ n) && decide (n ≤ 2147483647)
def RdI (w : World) (v : Value) (l : List Int) : Prop := Rd w 1 v l.length (l.map (Value.int .i64))
theorem RdI.split {w : World} {v : Value} {l : List Int} (h : RdI w v l) :
    (∃ a c, v = .slice a 0 c ∧ l = []) ∨ ∃ b off c, v = .slice (some ⟨b, off, none⟩) l.length c ∧ 0 < l.length ∧ l.length ≤ c ∧ c ≤ 9223372036854775807 ∧ b < w.heap.size ∧ ∀ j, (hj : j < l.length) → w.cell? ⟨b, off + j, none⟩ = some (.int .i64 l[j]) := by
  rcases Rd.split h (by omega) with ⟨a, c, rfl, h0, _⟩ | ⟨b, off, c, rfl, h1, h2, h3, h4, h5⟩
  · exact .inl ⟨a, c, rfl, List.eq_nil_of_length_eq_zero h0⟩
  · refine .inr ⟨b, off, c, rfl, h1, h2, h3, h4, fun j hj => ?_⟩
    rw [h5 j (by simpa using hj)]
    simp

set_option maxHeartbeats 1000000 in
theorem ok1_any (n : Int) (w : World) : Calls Tryd.prog 72 #[.int .i64 n] w fun e w' => e = .returned (.bool (!okN n)) ∧ w = w' := by
  go_enter Tryd.func72, Tryd.ntmps72
  go_wp2_with fail
  all_goals go_ret
  all_goals exact ⟨ret_bool (by go_light; rw [Bool.eq_iff_iff]; simp [okN]; try omega), rfl⟩

set_option maxHeartbeats 1000000 in
theorem index_ok (v : Value) (l : List Int) (w : World) (hv : RdI w v l) :
   Calls Tryd.prog 75 #[v, .func (.func 72) #[] #[]] w fun e w' => (∃ r : Int, ((r = -1 ∧ l.all okN = true) ∨ (0 ≤ r ∧ l.all okN = false)) ∧ e = .returned (.int .i64 r)) ∧ w = w' := by
  rcases hv.split with ⟨a, c, rfl, rfl⟩ | ⟨b, off, c, rfl, hp, hlc, hc9, hb, hcell⟩
  · clear hv
    go_enter Tryd.func75, Tryd.ntmps75
    go_wp2_with fail
    refine wp_loop_rounds 1 ?_
    rw [rounds_succ]
    go_wp2_with fail
    go_ret
    exact ⟨⟨_, .inl ⟨rfl, rfl⟩, rfl⟩, rfl⟩
  have HC := Lib.hid hcell
  clear hcell hv
  go_enter Tryd.func75, Tryd.ntmps75
  go_wp2_with fail
  go_loopw [8] (fun i wr => ∃ j : Nat, j ≤ l.length ∧ i = .int .i64 j ∧ (l.take j).all okN = true ∧ w = wr) (fun i _ => l.length - (intOf i).toNat)
  case atStart => exact ⟨0, by omega, rfl, rfl, rfl⟩
  case round =>
    obtain ⟨j, hj, rfl, hall, rfl⟩ := hrel
    have HA := Lib.hid hall
    clear hall
    by_cases hlt : j < l.length
    · have d0 := HC.out j hlt
      obtain ⟨x, hx⟩ : ∃ x, l[j] = x := ⟨_, rfl⟩
      have HX := Lib.hid hx
      rw [hx] at d0
      clear hx
      go_wp2_with fail
      refine (ok1_any x w).mono ?_
      rintro e w1 ⟨rfl, rfl⟩
      cases hk : okN x
      · have HK := Lib.hid hk
        clear hk
        go_wp2_with fail
        go_ret
        exact ⟨⟨j, .inr ⟨by omega, by rw [List.all_eq_false]; exact ⟨l[j], List.getElem_mem hlt, by rw [HX.out, HK.out]; simp⟩⟩, rfl⟩, rfl⟩
      · have HK := Lib.hid hk
        clear hk
        go_wp2_with fail
        exact ⟨⟨j + 1, by omega, by go_num, by rw [List.take_succ_eq_append_getElem hlt, List.all_append, HA.out, HX.out]; simp [HK.out], by first | rfl | trivial⟩, by simp [intOf]; omega⟩
    · obtain rfl : j = l.length := by omega
      go_wp2_with fail
      go_ret
      exact ⟨⟨_, .inl ⟨rfl, by have := HA.out; rwa [List.take_length] at this⟩, rfl⟩, rfl⟩

set_option maxHeartbeats 1000000 in
theorem contains_ok (v : Value) (l : List Int) (w : World) (hv : RdI w v l) :
   Calls Tryd.prog 71 #[v, .func (.func 72) #[] #[]] w fun e w' => e = .returned (.bool (!l.all okN)) ∧ w = w' := by
  have HI := Lib.hid (index_ok v l w hv)
  clear hv
  go_enter Tryd.func71, Tryd.ntmps71
  go_wp2_with fail
  refine HI.out.mono ?_
  rintro e w1 ⟨⟨r, h, rfl⟩, rfl⟩
  rcases h with ⟨rfl, hl⟩ | ⟨h0, hl⟩
  · have HL := Lib.hid hl
    clear hl HI
    go_wp2_with fail
    go_ret
    exact ⟨ret_bool (by rw [HL.out]; rfl), rfl⟩
  · have HL := Lib.hid hl
    clear hl HI
    go_wp2_with fail
    go_ret
    exact ⟨ret_bool (by rw [HL.out]; go_light; simp [h0]), rfl⟩

set_option maxHeartbeats 1000000 in
theorem ok_any (v : Value) (l : List Int) (w : World) (hv : RdI w v l) :
   Calls Tryd.prog 64 #[v] w fun e w' => e = .returned (.bool (l.all okN)) ∧ w = w' := by
  have HI := Lib.hid (contains_ok v l w hv)
  clear hv
  go_enter Tryd.func64, Tryd.ntmps64
  go_wp2_with fail
  refine HI.out.mono ?_
  rintro e w1 ⟨rfl, rfl⟩
  clear HI
  go_wp2_with fail
  go_ret
  exact ⟨ret_bool (by go_light; simp), rfl⟩

set_option maxHeartbeats 1000000 in
theorem form_empty (w : World) :
   Calls Tryd.prog 43 #[.agg #[.slice none 0 0, .slice none 0 0, .slice none 0 0]] w fun e w' => e = .returned (.bool true) ∧ Below w.heap.size w w' := by
  go_enter Tryd.func43, Tryd.ntmps43
  go_wp2_with fail
  refine wp_loop_rounds 1 ?_
  rw [rounds_succ]
  go_wp2_with fail
  refine wp_loop_rounds 1 ?_
  rw [rounds_succ]
  go_wp2_with fail
  refine wp_loop_rounds 1 ?_
  rw [rounds_succ]
  go_wp2_with fail
  refine (ok_any _ [0, 0, 0] _ (Rd.mk rfl (Nat.le_refl 3) (by decide) (fun j hj => ?_))).mono ?_
  · rcases (by simp at hj; omega : j = 0 ∨ j = 1 ∨ j = 2) with rfl | rfl | rfl <;> simp [go_sem]
  rintro e w1 ⟨rfl, rfl⟩
  go_wp2_with fail
  go_ret
  exact ⟨ret_bool (by go_light; rfl), ((Below.refl _ _).alloc (Nat.le_refl _) _).alloc (by simp) _⟩
end Go.Proofs.YtnanlkoldloolaaDoor
