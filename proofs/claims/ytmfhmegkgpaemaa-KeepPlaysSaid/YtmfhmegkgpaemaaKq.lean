/- Keep: the document's example. -/
import Derived.Test.YtmfhmegkgpaemaaKp
namespace Go.Proofs.Ytmfhmegkgpaemaa
open Go.RowKit

theorem ris_nil : RisS [] := fun i j hi _ _ => by simp at hi
theorem sA : putS 2 [] 5 [1] 0 = [(5, [1])] := by decide
theorem sB : putS 2 [(5, [1])] 9 [2] 0 = [(5, [1]), (9, [2])] := by decide
theorem sC : putS 2 [(5, [1]), (9, [2])] 7 [3] 1 = [(5, [1]), (7, [3])] := by decide
theorem rA : RisS [(5, [1])] := by rw [← sA]; exact ris_put ris_nil _ _ _ _
theorem rB : RisS [(5, [1]), (9, [2])] := by rw [← sB]; exact ris_put rA _ _ _ _
theorem rC : RisS [(5, [1]), (7, [3])] := by rw [← sC]; exact ris_put rB _ _ _ _

theorem best6 (w : World) (base Bs : Nat) (h : KSt w base Bs 2 [(5, [1]), (7, [3])]) :
    Calls Try.prog 9 #[.pointer (some ⟨Bs, 0, none⟩), .int .i64 6] w fun e w' => ∃ g o c, e = .returned (.tuple #[.int .i64 5, .slice (some ⟨g, o, none⟩) 1 c, .bool true]) ∧ w'.cell? ⟨g, o, none⟩ = some (.int .u8 1) ∧ g < w'.heap.size ∧ Below w.heap.size w w' := by
  refine (best_k 6 w base Bs 2 _ h rC (by decide) (by decide)).mono ?_
  rintro e w' (⟨h1, -⟩ | ⟨i, hi, h1, h2, q, rfl, hq, hb⟩)
  · exact absurd (h1 0 (by decide)) (by decide)
  · have : i = 0 := by
      rcases i with _ | _ | i
      · rfl
      · simp at h1
      · simp at hi; omega
    subst this
    rcases (Rd.of_own hq).split (by decide) with ⟨a, c, rfl, h3, -⟩ | ⟨g, o, c, rfl, h3, h4, h5, h6, h7⟩
    · simp at h3
    · exact ⟨g, o, c, rfl, h7 0 (by simp), h6, hb⟩
theorem best4 (w : World) (base Bs : Nat) (h : KSt w base Bs 2 [(5, [1]), (7, [3])]) :
    Calls Try.prog 9 #[.pointer (some ⟨Bs, 0, none⟩), .int .i64 4] w fun e w' => e = .returned (.tuple #[.int .i64 0, .slice none 0 0, .bool false]) ∧ Below w.heap.size w w' := by
  refine (best_k 4 w base Bs 2 _ h rC (by decide) (by decide)).mono ?_
  rintro e w' (⟨h1, rfl, hb⟩ | ⟨i, hi, h1, h2, -⟩)
  · exact ⟨rfl, hb⟩
  · rcases i with _ | _ | i
    · simp at h1
    · simp at h1
    · simp at hi; omega
theorem list2 (w : World) (base Bs : Nat) (h : KSt w base Bs 2 [(5, [1]), (7, [3])]) :
    Calls Try.prog 10 #[.pointer (some ⟨Bs, 0, none⟩)] w fun e w' => ∃ g o c, e = .returned (.slice (some ⟨g, o, none⟩) 2 c) ∧ w'.cell? ⟨g, o + 1, none⟩ = some (.int .i64 7) ∧ Below w.heap.size w w' := by
  refine (list_k w base Bs 2 _ h (by decide)).mono ?_
  rintro e w' ⟨u, rfl, hu, hb⟩
  rcases (Rd.of_own hu).split (by decide) with ⟨a, c, rfl, h3, -⟩ | ⟨g, o, c, rfl, h3, h4, h5, h6, h7⟩
  · exact absurd h3 (by decide)
  · exact ⟨g, o, c, rfl, h7 1 (by decide), hb⟩

set_option maxHeartbeats 4000000 in
theorem awake_any (w : World) : Calls Try.prog 6 #[] w fun e w' => e = .returned (.bool true) ∧ Below w.heap.size w w' := by
  go_enter Try.func6, Try.ntmps6
  go_wp2_with fail
  refine (new_any 2 w).mono ?_
  rintro e w1 (⟨-, rfl, hst, hb1⟩ | ⟨h, -⟩)
  case inr => exact absurd h (by decide)
  have H1 : Hid (KSt w1 w.heap.size w.heap.size 2 [] ∧ Below w.heap.size w w1) := ⟨⟨_, _, hst⟩, hb1⟩
  clear hst hb1
  go_wp2_with fail
  refine (put_one 5 1 0 w1 _ _ 2 [] H1.out.1 ris_nil (by decide) (by decide) (by decide) H1.out.2.size (by decide)).mono ?_
  rintro e w2 ⟨rfl, hk, hb⟩
  rw [sA] at hk
  have H2 : Hid (KSt w2 w.heap.size w.heap.size 2 [(5, [1])] ∧ Below w.heap.size w w2) := ⟨hk, H1.out.2.trans hb⟩
  clear hk hb H1
  go_wp2_with fail
  refine (put_one 9 2 0 w2 _ _ 2 [(5, [1])] H2.out.1 rA (by decide) (by decide) (by decide) H2.out.2.size (by decide)).mono ?_
  rintro e w3 ⟨rfl, hk, hb⟩
  rw [sB] at hk
  have H3 : Hid (KSt w3 w.heap.size w.heap.size 2 [(5, [1]), (9, [2])] ∧ Below w.heap.size w w3) := ⟨hk, H2.out.2.trans hb⟩
  clear hk hb H2
  go_wp2_with fail
  refine (put_one 7 3 1 w3 _ _ 2 [(5, [1]), (9, [2])] H3.out.1 rB (by decide) (by decide) (by decide) H3.out.2.size (by decide)).mono ?_
  rintro e w4 ⟨rfl, hk, hb⟩
  rw [sC] at hk
  have H4 : Hid (KSt w4 w.heap.size w.heap.size 2 [(5, [1]), (7, [3])] ∧ Below w.heap.size w w4) := ⟨hk, H3.out.2.trans hb⟩
  clear hk hb H3
  go_wp2_with fail
  refine (best6 w4 _ _ H4.out.1).mono ?_
  rintro e w5 ⟨g, o, c, rfl, k1, k2, hb⟩
  have H5 : Hid (KSt w5 w.heap.size w.heap.size 2 [(5, [1]), (7, [3])] ∧ Below w.heap.size w w5) := ⟨H4.out.1.later hb, H4.out.2.trans (hb.mono H4.out.2.size)⟩
  clear hb H4
  go_wp2_with fail
  refine (best4 w5 _ _ H5.out.1).mono ?_
  rintro e w6 ⟨rfl, hb⟩
  have H6 : Hid (KSt w6 w.heap.size w.heap.size 2 [(5, [1]), (7, [3])] ∧ Below w.heap.size w w6) := ⟨H5.out.1.later hb, H5.out.2.trans (hb.mono H5.out.2.size)⟩
  have k3 : w6.cell? ⟨g, o, none⟩ = some (.int .u8 1) := by rw [hb.cell (p := ⟨g, o, none⟩) k2]; exact k1
  have k4 : g < w6.heap.size := Nat.lt_of_lt_of_le k2 hb.size
  clear hb H5 k1 k2
  go_wp2_with fail
  refine (list2 w6 _ _ H6.out.1).mono ?_
  rintro e w7 ⟨g2, o2, c2, rfl, k5, hb⟩
  have H7 : Hid (Below w.heap.size w w7) := H6.out.2.trans (hb.mono H6.out.2.size)
  have k6 : w7.cell? ⟨g, o, none⟩ = some (.int .u8 1) := by rw [hb.cell (p := ⟨g, o, none⟩) k4]; exact k3
  clear hb H6 k3 k4
  go_wp2_with fail
  go_ret
  exact ⟨rfl, H7.out⟩
end Go.Proofs.Ytmfhmegkgpaemaa
