/- Keep: a store without its row: what each call asks and leaves. -/
import Derived.Test.YtmfhmegkgpaemaaKo
namespace Go.Proofs.Ytmfhmegkgpaemaa
open Go.RowKit

def KSt (w : World) (base Bs : Nat) (most : Int) (S : Ms) : Prop := ∃ v l, StAt w base Bs most v l S
theorem KSt.later {w w' : World} {base Bs : Nat} {most : Int} {S : Ms} (h : KSt w base Bs most S) (hb : Below w.heap.size w w') : KSt w' base Bs most S := by
  obtain ⟨v, l, h⟩ := h
  exact ⟨v, l, h.later hb⟩
theorem KSt.lt {w : World} {base Bs : Nat} {most : Int} {S : Ms} (h : KSt w base Bs most S) : Bs < w.heap.size := by
  obtain ⟨v, l, h⟩ := h
  exact h.lt
theorem rd_one {w w' : World} {b : Int} (hk : KeepS (w.alloc (.cells #[.int .u8 b] 5)) w') : RdB w' (.slice (some ⟨w.heap.size, 0, none⟩) 1 1) [b] := by
  have h1 : (w.alloc (.cells #[.int .u8 b] 5)).heap[w.heap.size]? = some (.cells #[.int .u8 b] 5 (0, 0)) := by
    show (w.heap.push _)[_]? = _; simp
  have h2 := hk _ _ h1 (fun c f => cells_ne (by decide)) (fun c f => cells_ne (by decide))
  refine Rd.mk (by simp) (by simp) (by decide) (fun j hj => ?_)
  have : j = 0 := by simp at hj; omega
  subst this
  simp [World.cell?, h2]
theorem put_one (x b choice : Int) (w : World) (base Bs : Nat) (most : Int) (S : Ms) (h : KSt w base Bs most S) (hR : RisS S) (hl : S.length ≤ 1000) (hm : 1 ≤ most) (hx0 : 0 ≤ x) (hbase : base ≤ w.heap.size) (hch : -9223372036854775808 ≤ choice ∧ choice ≤ 9223372036854775807) :
    Calls Try.prog 8 #[.pointer (some ⟨Bs, 0, none⟩), .int .i64 x, .slice (some ⟨w.heap.size, 0, none⟩) 1 1, .int .i64 choice] (w.alloc (.cells #[.int .u8 b] 5)) fun e w' =>
      e = .returned (.int .i64 0) ∧ KSt w' base Bs most (putS most S x [b] choice) ∧ Below base w w' := by
  obtain ⟨v, l, h⟩ := h
  have hb : Below w.heap.size w (w.alloc (.cells #[.int .u8 b] 5)) := (Below.refl _ _).alloc (Nat.le_refl _) _
  refine (put_any x _ [b] choice _ base Bs most v l S (h.later hb) hR (by have := h.len; omega) hm (by simp) hx0 (Nat.le_trans hbase hb.size) hch (fun W hW => rd_one hW)).mono ?_
  rintro e w' ⟨rfl, v', l', h1, h2, -, -, -, -⟩
  exact ⟨rfl, ⟨v', l', h1⟩, (hb.mono hbase).trans h2⟩
theorem best_k (x : Int) (w : World) (base Bs : Nat) (most : Int) (S : Ms) (h : KSt w base Bs most S) (hR : RisS S) (hl : S.length ≤ 1000) (hbb : ∀ m ∈ S, m.2.length ≤ 1000000) :
    Calls Try.prog 9 #[.pointer (some ⟨Bs, 0, none⟩), .int .i64 x] w fun e w' =>
      ((∀ k, (hk : k < S.length) → x < S[k].1) ∧ e = .returned (.tuple #[.int .i64 0, .slice none 0 0, .bool false]) ∧ Below w.heap.size w w') ∨
      ∃ i, ∃ hi : i < S.length, S[i].1 ≤ x ∧ (∀ k, (hk : k < S.length) → i < k → x < S[k].1) ∧ ∃ q, e = .returned (.tuple #[.int .i64 S[i].1, q, .bool true]) ∧ ownB w' w.heap.size q S[i].2 ∧ Below w.heap.size w w' := by
  obtain ⟨v, l, h⟩ := h
  exact best_any x w base Bs most v l S h hR (by have := h.len; omega) hbb
theorem map_fst {w : World} {base Bs : Nat} {most : Int} {v : Value} {l : List Mo} {S : Ms} (h : StAt w base Bs most v l S) : l.map (·.1) = S.map (·.1) := by
  apply List.ext_getElem
  · simpa using h.len
  · intro k h1 h2
    simp only [List.getElem_map]
    exact h.ats k (by simpa using h1) (by simpa using h2)
theorem list_k (w : World) (base Bs : Nat) (most : Int) (S : Ms) (h : KSt w base Bs most S) (hl : S.length ≤ 1000) :
    Calls Try.prog 10 #[.pointer (some ⟨Bs, 0, none⟩)] w fun e w' => ∃ u, e = .returned u ∧ ownI w' w.heap.size u (S.map (·.1)) ∧ Below w.heap.size w w' := by
  obtain ⟨v, l, h⟩ := h
  rw [← map_fst h]
  exact list_any w base Bs most v l S h (by have := h.len; omega)
theorem bytes_k (w : World) (base Bs : Nat) (most : Int) (S : Ms) (h : KSt w base Bs most S) (hl : S.length ≤ 1000) (hb : ∀ m ∈ S, m.2.length ≤ 1000000) :
    Calls Try.prog 11 #[.pointer (some ⟨Bs, 0, none⟩)] w fun e w' => e = .returned (.int .i64 (sumB S : Nat)) ∧ Below w.heap.size w w' := by
  obtain ⟨v, l, h⟩ := h
  exact bytes_any w base Bs most v l S h (by have := h.len; omega) hb
/-- What a put leaves, member by member. -/
theorem ins_len {S : Ms} {x : Int} {b : List Int} : (insS S x b).length ≤ S.length + 1 := by
  unfold insS
  rw [List.length_append, List.length_cons]
  have : ∀ L : Ms, (L.filter fun m => decide (m.1 < x)).length + (L.filter fun m => decide (x < m.1)).length ≤ L.length := by
    intro L
    induction L with
    | nil => simp
    | cons a L ih =>
      simp only [List.filter_cons, List.length_cons]
      by_cases h1 : a.1 < x
      · have h2 : ¬ x < a.1 := by omega
        simp [h1, h2]; omega
      · by_cases h2 : x < a.1
        · simp [h1, h2]; omega
        · simp [h1, h2]; omega
  have := this S
  omega
theorem less_len {most : Int} {S : Ms} {c : Int} (h : (S.length : Int) ≤ most) (hm : 1 ≤ most) : ((lessS most S c).length : Int) + 1 ≤ most := by
  unfold lessS
  split
  · rw [List.length_eraseIdx, if_pos (goN_lt (by omega))]; omega
  · omega
theorem put_len {most : Int} {S : Ms} {x : Int} {b : List Int} {c : Int} (h : (S.length : Int) ≤ most) (hm : 1 ≤ most) : ((putS most S x b c).length : Int) ≤ most := by
  unfold putS
  split
  · simpa using h
  · have h1 := less_len (c := c) h hm
    have h2 := ins_len (S := lessS most S c) (x := x) (b := b)
    omega
theorem put_mem {most : Int} {S : Ms} {x : Int} {b : List Int} {c : Int} : (x, b) ∈ putS most S x b c := by
  unfold putS
  split
  · rename_i h
    obtain ⟨m, hm, e⟩ := List.any_eq_true.1 h
    exact List.mem_map.2 ⟨m, hm, by rw [if_pos (by simpa using e)]⟩
  · unfold insS; simp
theorem less_sub {most : Int} {S : Ms} {c : Int} {m : Int × List Int} (h : m ∈ lessS most S c) : m ∈ S := by
  unfold lessS at h
  split at h
  · exact (List.eraseIdx_sublist _ _).subset h
  · exact h
theorem put_from {most : Int} {S : Ms} {x : Int} {b : List Int} {c : Int} {m : Int × List Int} (h : m ∈ putS most S x b c) : m = (x, b) ∨ (m ∈ S ∧ m.1 ≠ x) := by
  unfold putS at h
  split at h
  · obtain ⟨a, ha, e⟩ := List.mem_map.1 h
    split at e
    · exact .inl e.symm
    · rename_i hx; subst e; exact .inr ⟨ha, hx⟩
  · unfold insS at h
    rw [List.mem_append, List.mem_cons] at h
    rcases h with h | h | h
    · obtain ⟨h1, h2⟩ := List.mem_filter.1 h
      exact .inr ⟨less_sub h1, by have : m.1 < x := by simpa using h2
                                  omega⟩
    · exact .inl h
    · obtain ⟨h1, h2⟩ := List.mem_filter.1 h
      exact .inr ⟨less_sub h1, by have : x < m.1 := by simpa using h2
                                  omega⟩
theorem put_to {most : Int} {S : Ms} {x : Int} {b : List Int} {c : Int} {m : Int × List Int} (hf : ¬ (S.length : Int) = most) (h : m = (x, b) ∨ (m ∈ S ∧ m.1 ≠ x)) : m ∈ putS most S x b c := by
  rcases h with rfl | ⟨h1, h2⟩
  · exact put_mem
  · unfold putS
    split
    · exact List.mem_map.2 ⟨m, h1, if_neg h2⟩
    · rw [lessS_no hf]
      unfold insS
      rw [List.mem_append, List.mem_cons]
      by_cases h3 : m.1 < x
      · exact .inl (List.mem_filter.2 ⟨h1, by simpa using h3⟩)
      · exact .inr (.inr (List.mem_filter.2 ⟨h1, by simp; omega⟩))
/-- The greatest that is no greater. -/
theorem best_mem {S : Ms} (hR : RisS S) {x : Int} {b : List Int} (hm : (x, b) ∈ S) {i : Nat} (hi : i < S.length) (h1 : S[i].1 ≤ x) (h2 : ∀ k, (hk : k < S.length) → i < k → x < S[k].1) : S[i] = (x, b) := by
  obtain ⟨z, hz, e⟩ := List.getElem_of_mem hm
  rcases Nat.lt_trichotomy i z with h | h | h
  · have := h2 z hz h; rw [e] at this; simp at this
  · subst h; exact e
  · have := hR z i hz hi h; rw [e] at this; simp at this; omega
end Go.Proofs.Ytmfhmegkgpaemaa
