/- Walks: the document's examples; and how many circles there are. -/
import Derived.Test.YtmdmfciicoldoaaMo
namespace Go.Proofs.Ytmdmfciicoldoaa
open Go.RowKit Go.Maps

theorem rdM_two (w : World) (a b c d : Int) (k : Nat) (hk : k = w.heap.size) : RdM (w.alloc (.cells #[.int .i64 a, .int .i64 b, .int .i64 c, .int .i64 d] 32)) (.slice (some ⟨k, 0, none⟩) 2 2) [(a, b), (c, d)] := by
  subst hk
  exact RdM.of_cells (l := [(a, b), (c, d)]) (Nat.le_refl 2) (by decide) fun j hj => by
    rw [World.cell?_alloc_at _ _ _ _ rfl, World.cell?_alloc_at _ _ _ _ rfl]
    have hj2 : j = 0 ∨ j = 1 := by simp at hj; omega
    rcases hj2 with rfl | rfl
    · exact ⟨rfl, rfl⟩
    · exact ⟨rfl, rfl⟩

abbrev la : List M := [(1, 2), (2, 1)]
abbrev lb : List M := [(1, 2), (2, 3)]
theorem la_in : ∀ m ∈ la, inR m.1 ∧ inR m.2 := by intro m hm; simp at hm; rcases hm with rfl | rfl <;> decide
theorem lb_in : ∀ m ∈ lb, inR m.1 ∧ inR m.2 := by intro m hm; simp at hm; rcases hm with rfl | rfl <;> decide
theorem la_ok : Dist la ∧ SpOK la 9 := ⟨by unfold Dist; decide, by intro m hm; simp at hm; rcases hm with rfl | rfl <;> decide⟩
theorem lb_ok : Dist lb ∧ SpOK lb 9 := ⟨by unfold Dist; decide, by intro m hm; simp at hm; rcases hm with rfl | rfl <;> decide⟩
theorem la_order : orderF la 9 = [(9, 1), (1, 2), (2, 9)] := by decide +kernel
theorem lb_order : orderF lb 9 = [(1, 2), (2, 3)] := by decide +kernel
theorem la_circ : circF la = 1 := by decide +kernel

theorem order_la (v : Value) (w : World) (hv : RdM w v la) : Calls Try.prog 9 #[v, .int .i64 9] w fun e w' => ∃ a c, e = .returned (.tuple #[.slice a 3 c, .int .i64 0]) ∧ Below w.heap.size w w' := by
  refine (order_any v la 9 w hv la_in (by decide)).mono ?_
  rintro e w' ⟨⟨hn, _⟩ | ⟨_, v', rfl, hr⟩, hb⟩
  · exact absurd la_ok hn
  · rw [la_order] at hr
    obtain ⟨a, c, rfl⟩ := Rd.shape hr
    exact ⟨a, c, rfl, hb⟩
theorem order_lb (v : Value) (w : World) (hv : RdM w v lb) : Calls Try.prog 9 #[v, .int .i64 9] w fun e w' => ∃ b off c, e = .returned (.tuple #[.slice (some ⟨b, off, none⟩) 2 c, .int .i64 0]) ∧ w'.cell? ⟨b, off, none⟩ = some (.int .i64 1) ∧ w'.cell? ⟨b, off + 1, none⟩ = some (.int .i64 2) ∧ b < w'.heap.size ∧ Below w.heap.size w w' := by
  refine (order_any v lb 9 w hv lb_in (by decide)).mono ?_
  rintro e w' ⟨⟨hn, _⟩ | ⟨_, v', rfl, hr⟩, hb⟩
  · exact absurd lb_ok hn
  · rw [lb_order] at hr
    rcases hr.split with ⟨a, c, _, h0⟩ | ⟨b, off, c, rfl, hp, hlc, hc9, hbb, hcell⟩
    · cases h0
    · obtain ⟨h1, h2⟩ := hcell 0 (by decide)
      exact ⟨b, off, c, rfl, by simpa using h1, by simpa using h2, hbb, hb⟩

set_option maxHeartbeats 4000000 in
theorem awake_any (w : World) : Calls Try.prog 7 #[] w fun e w' => e = .returned (.bool true) ∧ Below w.heap.size w w' := by
  have HA := Lib.hid order_la
  have HB := Lib.hid order_lb
  have HC := Lib.hid (fun v w h => circles_any v la w h la_in la_ok.1)
  rw [la_circ] at HC
  go_enter Try.func7, Try.ntmps7
  go_wp2_with fail
  refine (HA.out _ _ (rdM_two _ _ _ _ _ _ rfl)).mono ?_
  rintro e w1 ⟨a1, c1, rfl, hb1⟩
  have HB1 : Hid (Below w.heap.size w w1) := ((Below.refl _ _).alloc (Nat.le_refl _) _).trans (hb1.mono (by simp))
  clear hb1 HA
  go_wp2_with fail
  refine (HB.out _ _ (rdM_two _ _ _ _ _ _ rfl)).mono ?_
  rintro e w2 ⟨b2, o2, c2, rfl, d1, d2, hlt, hb2⟩
  have HB2 : Hid (Below w.heap.size w w2) := (HB1.out.alloc HB1.out.size _).trans (hb2.mono (by have := HB1.out.size; simp; omega))
  clear hb2 HB HB1
  go_wp2_with fail
  refine (HC.out _ _ (rdM_two _ _ _ _ _ _ rfl)).mono ?_
  rintro e w3 ⟨rfl, hb3⟩
  have HB3 : Hid (Below w.heap.size w w3) := (HB2.out.alloc HB2.out.size _).trans (hb3.mono (by have := HB2.out.size; simp; omega))
  clear hb3 HC HB2
  go_wp2_with fail
  go_ret
  exact ⟨rfl, HB3.out⟩

theorem circles_all (v : Value) (l : List M) (w : World) (hv : RdM w v l) (hR : ∀ m ∈ l, inR m.1 ∧ inR m.2) :
    Calls Try.prog 13 #[v] w fun e w' => e = .returned (.int .i64 (refCircF l)) ∧ Below w.heap.size w w' := by
  by_cases hD : Dist l
  · refine (circles_any v l w hv hR hD).mono ?_
    rintro e w' ⟨rfl, hb⟩
    exact ⟨by rw [circF_eq hD], hb⟩
  · refine (circles_no v l w hv hR hD).mono ?_
    rintro e w' ⟨rfl, hb⟩
    exact ⟨by rw [refCircF_no hD], hb⟩

theorem rdM_cap {w : World} {a : Option Addr} {c n : Nat} {l : List M} (h : RdM w (.slice a n c) l) : n ≤ c ∧ c ≤ 9223372036854775807 := by
  rcases h.2 with ⟨h1, _⟩ | ⟨a', c', h1, h2, h3, _⟩
  · cases h1; omega
  · simp only [Value.slice.injEq] at h1
    obtain ⟨_, rfl, rfl⟩ := h1
    unfold maxLen at h3
    omega
theorem rdM_take {w : World} {a : Option Addr} {c n k : Nat} {l : List M} (h : RdM w (.slice a n c) l) (hk : k ≤ n) (hn : n = l.length := by rfl) : RdM w (.slice a k c) (l.take k) := by
  subst hn
  have h2 := Rd.take h hk
  rw [cellsM_take] at h2
  unfold RdM
  rw [List.length_take, Nat.min_eq_left hk]
  exact h2

set_option maxHeartbeats 4000000 in
theorem movesCircles_walk (v : Value) (l : List M) (w : World) (hv : RdM w v l) (hR : ∀ m ∈ l, inR m.1 ∧ inR m.2) :
    Calls Try.prog 4 #[v] w fun e w' => e = .returned (.bool true) ∧ Below w.heap.size w w' := by
  obtain ⟨va, vc, rfl⟩ := Rd.shape hv
  obtain ⟨im, mi0, mz0, mz1, mz2⟩ := info_parts infoR
  have hcv := rdM_cap hv
  obtain ⟨k, hk, hk60, hkm⟩ : ∃ k : Nat, k ≤ l.length ∧ k ≤ 60 ∧ (if (60 : Int) < (l.length : Int) then (60 : Int) else (l.length : Int)) = (k : Int) := ⟨min l.length 60, by omega, by omega, by split <;> omega⟩
  have sl := fun W => run_slice_to (P := Try.prog) 22 31 Try.underlying22 mi0 mz1 va l.length vc k (k : Int) rfl (by omega) W
  have HV : Hid (RdM w (.slice va k vc) (l.take k)) := rdM_take hv hk
  have HR : Hid (∀ m ∈ l.take k, inR m.1 ∧ inR m.2) := fun m hm => hR m (List.mem_of_mem_take hm)
  have hkl : k = (l.take k).length := by rw [List.length_take]; omega
  have hml : (l.take k).length ≤ 60 := by omega
  generalize l.take k = m at *
  have HC := Lib.hid (fun v w h => circles_all v m w h HR.out)
  have HRC := Lib.hid (fun v w h => refCircles_any v m w h)
  have HML := Lib.hid hml
  clear hv hR hml
  go_enter Try.func4, Try.ntmps4
  go_wp2_with fail
  subst hkl
  refine (awake_any _).mono ?_
  rintro e w1 ⟨rfl, hb1⟩
  have HB1 := Lib.hid hb1
  have HV1 : Hid (RdM w1 _ m) := HV.out.later hb1
  clear hb1 HV
  go_wp2_with fail
  refine (list_any _ m _ HV1.out (by have := HML.out; omega)).mono ?_
  rintro e w2 ⟨u, rfl, hs2, hb2⟩
  have HB2 := Lib.hid (HB1.out.trans (hb2.mono HB1.out.size))
  have HV2 : Hid (RdM w2 _ m) := HV1.out.later hb2
  have HS2 := Lib.hid hs2.rd
  clear hb2 hs2 HB1 HV1
  go_wp2_with fail
  refine (HC.out _ _ HS2.out).mono ?_
  rintro e w3 ⟨rfl, hb3⟩
  have HB3 := Lib.hid (HB2.out.trans (hb3.mono HB2.out.size))
  have HV3 : Hid (RdM w3 _ m) := HV2.out.later hb3
  clear hb3 HB2 HV2
  go_wp2_with fail
  refine (HRC.out _ _ HV3.out).mono ?_
  rintro e w4 ⟨rfl, hb4⟩
  have HB4 := Lib.hid (HB3.out.trans (hb4.mono HB3.out.size))
  clear hb4
  go_wp2_with fail
  go_ret
  exact ⟨rfl, HB4.out⟩
end Go.Proofs.Ytmdmfciicoldoaa
