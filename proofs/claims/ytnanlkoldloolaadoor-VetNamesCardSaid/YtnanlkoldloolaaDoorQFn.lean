/- Vet: the plain law of VetNames: an instruction that names what isn't there is told. -/
import Derived.Test.YtnanlkoldloolaaDoorQ15
namespace Go.Proofs.YtnanlkoldloolaaDoor
open Go.RowKit

theorem check_ok {l : List W} {el : List (Int × Int)} {m a : Int} {Good : Int → Nat → List (Int × Int) → Prop} (h : CheckIs l el m Good a 0) :
    (0 < l.length ∧ l.length ≤ 262144) ∧ (0 ≤ m ∧ m < el.length) ∧ (∀ x ∈ el, entBad l.length x = false) ∧ (∀ x ∈ l, wordE l.length el.length (mostE el) x = 0) := by
  rcases h with ⟨_, _, h⟩ | ⟨h1, ⟨_, _, h⟩ | ⟨h2, most, a1, e1, h3, ⟨h, _, h'⟩ | ⟨rfl, a2, e2, h4, h5⟩⟩⟩
  · cases h
  · cases h
  · exact absurd h'.symm h
  · refine ⟨h1, h2, ?_⟩
    rcases h3 with ⟨_, _, _, _, _, _, h⟩ | ⟨h3, rfl, _, _⟩
    · cases h
    · refine ⟨h3, ?_⟩
      rcases h5 with ⟨h, _, h'⟩ | ⟨rfl, _⟩
      · exact absurd h'.symm h
      · rcases h4 with ⟨j, hj, h, _, _, h'⟩ | ⟨h4, _⟩
        · exact absurd h'.symm h
        · exact h4

theorem word_far {nw ne s v : Int} {x : W} (hf : formB x = true) (h1 : 0 ≤ nw) (h2 : 0 ≤ ne) (hv2 : v ≤ maxI) (hop : ((x.op = 45 ∨ x.op = 46) ∧ nw ≤ v) ∨ (x.op = 41 ∧ ne ≤ v)) : wordE nw ne s { x with imm := v } = 17 := by
  obtain ⟨op, a, b, c, imm⟩ := x
  simp only at hop
  have key : formB ⟨op, a, b, c, v⟩ = true := by
    rcases hop with ⟨rfl | rfl, h⟩ | ⟨rfl, h⟩
    all_goals
      simp only [formB, shp, formP] at hf ⊢
      simp at hf ⊢
      refine ⟨hf.1, ?_, hv2⟩
      omega
  unfold wordE
  rw [key, if_pos rfl]
  rcases hop with ⟨rfl | rfl, h⟩ | ⟨rfl, h⟩
  all_goals simp [limE, h, h1, h2]

theorem names_bad {l : List W} {el : List (Int × Int)} {m a a' e' : Int} {Good : Int → Nat → List (Int × Int) → Prop} (h : CheckIs l el m Good a 0) {k : Nat} (hk : k < l.length) {v : Int} (hv2 : v ≤ maxI)
    (hop : ((l[k].op = 45 ∨ l[k].op = 46) ∧ (l.length : Int) ≤ v) ∨ (l[k].op = 41 ∧ (el.length : Int) ≤ v)) (h' : CheckIs (l.set k { l[k] with imm := v }) el m Good a' e') : a' = k ∧ e' = 17 := by
  obtain ⟨h1, h2, h3, h4⟩ := check_ok h
  have hlen : (l.set k { l[k] with imm := v }).length = l.length := List.length_set
  have hw : wordE l.length el.length (mostE el) { l[k] with imm := v } = 17 := by
    have h0 := h4 _ (List.getElem_mem hk)
    have hf : formB l[k] = true := by
      unfold wordE at h0
      split at h0
      · assumption
      · cases h0
    exact word_far hf (by omega) (by omega) hv2 hop
  have hk2 : k < (l.set k { l[k] with imm := v }).length := by rw [hlen]; exact hk
  have hat : (l.set k { l[k] with imm := v })[k]'hk2 = { l[k] with imm := v } := List.getElem_set_self _
  have := check_word h' (by rw [hlen]; exact h1) h2 (by rw [hlen]; exact h3) (k := k) hk2 (fun i hi hik => by
    rw [hlen, List.getElem_set_ne (by omega)]
    exact h4 _ (List.getElem_mem _)) (by rw [hlen, hat, hw]; decide)
  rw [hlen, hat, hw] at this
  exact this
end Go.Proofs.YtnanlkoldloolaaDoor
