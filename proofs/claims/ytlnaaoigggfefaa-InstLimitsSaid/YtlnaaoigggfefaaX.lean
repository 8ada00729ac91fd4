/- Walks of the law's own small functions: the document's examples; bytes with marked room behind. -/
import Derived.Test.YtlnaaoigggfefaaS
namespace Go.Proofs.Ytlnaaoigggfefaa
open Go.RowKit

/-- What 'spare' makes: the bytes, and one marked behind them. -/
structure Spared (w : World) (v : Value) (l : List Int) : Prop where
  shape : ∃ g c, v = .slice (some ⟨g, 0, none⟩) l.length c ∧ l.length + 1 ≤ c ∧ c ≤ maxLen ∧ ∀ j, j < l.length + 1 → w.cell? ⟨g, j, none⟩ = some (.int .u8 ((l ++ [165]).getD j 0))

theorem own_nil (w : World) (base : Nat) (hb : base ≤ w.heap.size) :
    (w.alloc (.cells #[] 5)).ownsRow base 5 1 (.slice (some ⟨w.heap.size, 0, none⟩) 0 0) 0 [] :=
  World.ownsRow_lit (e := 5) (size := 1) (base := base) w #[] 0 hb (by unfold maxLen; omega) (by simp)
theorem rd_one (w : World) (x : Value) : Rd (w.alloc (.cells #[x] 5)) 1 (.slice (some ⟨w.heap.size, 0, none⟩) 1 1) 1 [x] := by
  refine Rd.mk (by simp) (Nat.le_refl _) (by unfold maxLen; omega) (fun j hj => ?_)
  simp at hj
  subst hj
  rw [World.cell?_alloc_at _ _ _ _ rfl]; rfl
theorem own_cap {w : World} {base n g c : Nat} {e : TypeId} {size : Nat} {xs : List Value} (h : w.ownsRow base e size (.slice (some ⟨g, 0, none⟩) n c) n xs) : n ≤ c ∧ c ≤ maxLen := by
  rcases h.2 with ⟨h1, _⟩ | ⟨g', cap, cur, h1, _, _, h2, h3, _⟩
  · cases h1
  · cases h1; exact ⟨h2, h3⟩

set_option maxHeartbeats 2000000 in
theorem spare_any (v : Value) (l : List Int) (w : World) (hv : RdB w v l) (hlen : l.length ≤ 140737488355200) : Calls Try.prog 9 #[v] w fun e w' => ∃ u, e = .returned u ∧ Spared w' u l ∧ Below w.heap.size w w' := by
  obtain ⟨i0, hi, hz0, hz1, hz2⟩ := info_parts infoB
  have HI : Hid _ := And.intro hi (And.intro hz0 (And.intro hz1 hz2))
  obtain ⟨a, c, rfl⟩ := Rd.shape hv
  have HV := Lib.hid hv
  clear hi hz0 hz1 hz2 hv
  go_enter Try.func9, Try.ntmps9
  go_wp2_with (first
    | (at_builtin; refine wpList_append_own_rd _ rfl _ _ 22 rfl w.heap.size 5 i0 (.int .u8 0) 1 1 Try.underlying22 HI.out.1 HI.out.2.1 HI.out.2.2.1 HI.out.2.2.2 rfl (by decide) _ 0 [] rfl (own_nil w w.heap.size (Nat.le_refl _)) (.slice a l.length c) l.length (l.map (Value.int .u8)) rfl (Rd.alloc HV.out _) (ints_oneCell .u8 _) (by unfold maxLen; omega) (by omega) (by simp) ?_; intro v2 w2 hown2 hgrow2)
    | (at_builtin; refine wpList_append_own_g _ rfl _ _ 22 rfl w.heap.size 5 i0 (.int .u8 0) 1 1 Try.underlying22 HI.out.1 HI.out.2.1 HI.out.2.2.1 HI.out.2.2.2 rfl (by decide) _ _ _ rfl (hown2.alloc _) (.slice (some ⟨w2.heap.size, 0, none⟩) 1 1) 1 [.int .u8 165] rfl (rd_one w2 _) (ints_oneCell .u8 [165]) (l.length + 1) (by omega) (by omega) (by unfold maxLen; omega) (by omega) (by have := hgrow2.size; simp at this ⊢; omega) ?_; intro g c3 w3 hown3 hgrow3; have hc3 := (own_cap hown3).1))
  go_ret
  refine ⟨_, rfl, ⟨g, c3, rfl, hc3, (own_cap hown3).2, fun j hj => ?_⟩, ?_⟩
  · rw [hown3.cellAt j (by omega)]
    have e : [] ++ l.map (Value.int .u8) ++ [Value.int .u8 165] = (l ++ [165]).map (Value.int .u8) := by simp
    rw [e, List.getElem?_map]
    have hj2 : j < (l ++ [165]).length := by simpa using hj
    simp [List.getElem?_eq_getElem hj2]
  · have h2 : Below w.heap.size w w2 := ((Below.refl _ _).alloc (Nat.le_refl _) _).grown hgrow2 (by simp) (fun k hk => by cases hk; exact Nat.le_refl _)
    exact (h2.alloc h2.size _).grown hgrow3 (by have := h2.size; simp; omega) (fun k hk => (hown2.lt k hk).1)

theorem Spared.rd {w : World} {v : Value} {l : List Int} (h : Spared w v l) : RdB w v l := by
  obtain ⟨g, c, rfl, h1, h2, h3⟩ := h.shape
  refine Rd.mk (by simp) (by omega) h2 (fun j hj => ?_)
  have hj2 : j < l.length := by simpa using hj
  rw [Nat.zero_add, h3 j (by omega)]
  simp [List.getElem?_append_left hj2, hj2]
theorem Spared.later {w w' : World} {v : Value} {l : List Int} (h : Spared w v l) (hb : Below w.heap.size w w') : Spared w' v l := by
  obtain ⟨g, c, rfl, h1, h2, h3⟩ := h.shape
  refine ⟨g, c, rfl, h1, h2, fun j hj => ?_⟩
  rw [hb.cell (World.block_lt_of_cell? w _ (h3 j hj))]; exact h3 j hj

set_option maxHeartbeats 2000000 in
theorem kept_any (v v2 : Value) (l : List Int) (w : World) (hs : Spared w v l) (hv : RdB w v2 l) (hB : isB l) : Calls Try.prog 12 #[v, v2] w fun e w' => e = .returned (.bool true) ∧ w = w' := by
  have hr := hs.rd
  obtain ⟨g, c, rfl, h1, h2, h3⟩ := hs.shape
  obtain ⟨a2, c2, rfl⟩ := Rd.shape hv
  have HS := Lib.hid (fun w => sameBytes_any (.slice (some ⟨g, 0, none⟩) l.length c) (.slice a2 l.length c2) l l w)
  have HR := Lib.hid hr
  have HV := Lib.hid hv
  have HB := Lib.hid hB
  have hm : w.cell? ⟨g, l.length, none⟩ = some (.int .u8 165) := by rw [h3 _ (by omega)]; simp
  have hc9 : c ≤ 9223372036854775807 := by unfold maxLen at h2; omega
  have hee : eqL l l = true := by simp [eqL]
  clear hs h3 hr hv hB h2
  go_enter Try.func12, Try.ntmps12
  go_wp2_with (go_at_call 15; refine (HS.out _ HR.out HV.out HB.out HB.out).mono ?_; rw [hee]; rintro e w' ⟨rfl, rfl⟩)
  go_ret
  exact ⟨rfl, rfl⟩
end Go.Proofs.Ytlnaaoigggfefaa
