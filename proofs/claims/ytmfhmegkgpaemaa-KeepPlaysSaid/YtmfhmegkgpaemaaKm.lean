/- Keep, plain: what Put makes of the moments. -/
import Derived.Test.YtmfhmegkgpaemaaKl
namespace Go.Proofs.Ytmfhmegkgpaemaa

abbrev Ms := List (Int × List Int)
theorem risS_iff {S : Ms} : RisS S ↔ S.Pairwise (fun a b => a.1 < b.1) := by
  rw [List.pairwise_iff_getElem]
  exact Iff.rfl
/-- Which has to go. -/
def goN (c : Int) (n : Nat) : Nat := ((if c < 0 then c % 2147483648 else c) % (n : Int)).toNat
theorem goN_lt {c : Int} {n : Nat} (h : 0 < n) : goN c n < n := by
  unfold goN
  generalize (if c < 0 then c % 2147483648 else c) = d
  have h1 := Int.emod_nonneg d (show (n : Int) ≠ 0 by omega)
  have h2 := Int.emod_lt_of_pos d (show (0 : Int) < (n : Int) by omega)
  omega
def insS (S : Ms) (x : Int) (b : List Int) : Ms := S.filter (fun m => decide (m.1 < x)) ++ (x, b) :: S.filter (fun m => decide (x < m.1))
def lessS (most : Int) (S : Ms) (c : Int) : Ms := if (S.length : Int) = most then S.eraseIdx (goN c S.length) else S
def putS (most : Int) (S : Ms) (x : Int) (b : List Int) (c : Int) : Ms :=
  if S.any (fun m => m.1 == x) then S.map (fun m => if m.1 = x then (x, b) else m) else insS (lessS most S c) x b

theorem filter_parts {S : Ms} {x : Int} {i : Nat} (hi : i ≤ S.length) (hlo : ∀ k, (hk : k < S.length) → k < i → S[k].1 < x) (hhi : ∀ k, (hk : k < S.length) → i ≤ k → x < S[k].1) :
    S.filter (fun m => decide (m.1 < x)) = S.take i ∧ S.filter (fun m => decide (x < m.1)) = S.drop i := by
  have h1 : ∀ m ∈ S.take i, m.1 < x := fun m hm => by
    obtain ⟨k, hk, rfl⟩ := List.getElem_of_mem hm
    rw [List.length_take] at hk
    rw [List.getElem_take]
    exact hlo k (by omega) (by omega)
  have h2 : ∀ m ∈ S.drop i, x < m.1 := fun m hm => by
    obtain ⟨k, hk, rfl⟩ := List.getElem_of_mem hm
    rw [List.length_drop] at hk
    rw [List.getElem_drop]
    exact hhi (i + k) (by omega) (by omega)
  have e : S = S.take i ++ S.drop i := (List.take_append_drop i S).symm
  constructor
  · rw [e, List.filter_append, List.filter_eq_self.2 (fun m hm => by simpa using h1 m (by simpa [← e] using hm)), List.filter_eq_nil_iff.2 (fun m hm => by have := h2 m (by simpa [← e] using hm); simp; omega), List.append_nil]
    simp
  · rw [e, List.filter_append, List.filter_eq_nil_iff.2 (fun m hm => by have := h1 m (by simpa [← e] using hm); simp; omega), List.filter_eq_self.2 (fun m hm => by simpa using h2 m (by simpa [← e] using hm)), List.nil_append]
    simp
theorem insS_at {S : Ms} {x : Int} {b : List Int} {i : Nat} (hi : i ≤ S.length) (hlo : ∀ k, (hk : k < S.length) → k < i → S[k].1 < x) (hhi : ∀ k, (hk : k < S.length) → i ≤ k → x < S[k].1) : insS S x b = S.take i ++ (x, b) :: S.drop i := by
  obtain ⟨h1, h2⟩ := filter_parts hi hlo hhi
  unfold insS
  rw [h1, h2]
theorem ris_ins {S : Ms} (h : RisS S) (x : Int) (b : List Int) : RisS (insS S x b) := by
  rw [risS_iff] at *
  unfold insS
  rw [List.pairwise_append, List.pairwise_cons]
  refine ⟨h.filter _, ⟨fun m hm => ?_, h.filter _⟩, fun m hm m' hm' => ?_⟩
  · simpa using (List.mem_filter.1 hm).2
  · have h1 : m.1 < x := by simpa using (List.mem_filter.1 hm).2
    rcases List.mem_cons.1 hm' with rfl | hm'
    · exact h1
    · have h2 : x < m'.1 := by simpa using (List.mem_filter.1 hm').2
      omega
theorem ris_less {S : Ms} (h : RisS S) (most c : Int) : RisS (lessS most S c) := by
  unfold lessS
  split
  · rw [risS_iff] at *
    exact h.sublist (List.eraseIdx_sublist _ _)
  · exact h
theorem ris_put {S : Ms} (h : RisS S) (most : Int) (x : Int) (b : List Int) (c : Int) : RisS (putS most S x b c) := by
  unfold putS
  split
  · intro i j hi hj hij
    have h2 := h i j (by simpa using hi) (by simpa using hj) hij
    have key : ∀ m : Int × List Int, (if m.1 = x then (x, b) else m).1 = m.1 := fun m => by split <;> simp_all
    simp only [List.getElem_map, key]
    exact h2
  · exact ris_ins (ris_less h most c) x b
theorem set_map {S : Ms} (hr : RisS S) {x : Int} {b : List Int} {i : Nat} (hi : i < S.length) (hx : S[i].1 = x) : S.set i (x, b) = S.map (fun m => if m.1 = x then (x, b) else m) := by
  apply List.ext_getElem
  · simp
  · intro k h1 h2
    rw [List.getElem_set, List.getElem_map]
    by_cases e : i = k
    · subst e; rw [if_pos rfl, if_pos hx]
    · rw [if_neg e, if_neg]
      intro hk
      have hkl : k < S.length := by simpa using h1
      rcases Nat.lt_trichotomy i k with h | h | h
      · have := hr i k hi hkl h; omega
      · exact e h
      · have := hr k i hkl hi h; omega
end Go.Proofs.Ytmfhmegkgpaemaa
