/- Keep: New, List, Bytes. -/
import Derived.Test.YtmfhmegkgpaemaaKg
namespace Go.Proofs.Ytmfhmegkgpaemaa
open Go.RowKit

theorem infoI : (Try.prog.info? 3).map (fun i => (i.zero, i.size, i.bytes)) = some (some (.int .i64 0), 1, 8) := by kernel_rfl
abbrev ownI (w : World) (base : Nat) (v : Value) (xs : List Int) : Prop := w.ownsRow base 3 1 v xs.length (xs.map (Value.int .i64))

set_option maxHeartbeats 2000000 in
theorem new_any (most : Int) (w : World) :
    Calls Try.prog 7 #[.int .i64 most] w fun e w' => ((1 ≤ most ∧ most ≤ 64) ∧ e = .returned (.tuple #[.pointer (some ⟨w.heap.size, 0, none⟩), .int .i64 0]) ∧ StAt w' w.heap.size w.heap.size most (.slice none 0 0) [] [] ∧ Below w.heap.size w w') ∨ (¬ (1 ≤ most ∧ most ≤ 64) ∧ e = .returned (.tuple #[.pointer none, .int .i64 1]) ∧ w' = w) := by
  by_cases h1 : most < 1
  · go_enter Try.func7, Try.ntmps7
    go_wp2_with fail
    go_ret2
    exact .inr ⟨by omega, rfl, rfl⟩
  · by_cases h2 : 64 < most
    · have b1 : decide (most < 1) = false := decide_eq_false h1
      have H := Lib.hid (And.intro h1 h2)
      have b2 : decide ((64 : Int) < most) = true := decide_eq_true h2
      clear h1 h2
      go_enter Try.func7, Try.ntmps7
      go_wp2_with fail
      go_ret2
      exact .inr ⟨by have := H.out; omega, rfl, rfl⟩
    · have b1 : decide (most < 1) = false := decide_eq_false h1
      have b2 : decide ((64 : Int) < most) = false := decide_eq_false h2
      have H := Lib.hid (And.intro h1 h2)
      clear h1 h2
      go_enter Try.func7, Try.ntmps7
      go_wp2_with fail
      go_ret2
      exact .inl ⟨by have := H.out; omega, rfl, ⟨heap_alloc_new _ _, Nat.le_refl _, ⟨rfl, .inl ⟨rfl, rfl⟩⟩, rfl, fun i hi => by simp at hi, fun i hi => by simp at hi⟩, (Below.refl _ _).alloc (Nat.le_refl _) _⟩

theorem rd_ione (w : World) (x : Int) (k : Nat) (hk : k = w.heap.size) : Rd (w.alloc (.cells #[.int .i64 x] 3)) 1 (.slice (some ⟨k, 0, none⟩) 1 1) 1 [.int .i64 x] := by
  subst hk
  exact Rd.mk rfl (by decide) (by decide) fun j hj => by
    have : j = 0 := by simp at hj; omega
    subst this
    rw [World.cell?_alloc_at _ _ _ _ rfl]; rfl

set_option maxHeartbeats 4000000 in
theorem list_any (w : World) (base Bs : Nat) (most : Int) (v : Value) (l : List Mo) (S : List (Int × List Int)) (h : StAt w base Bs most v l S) (hl : l.length ≤ 1000) :
    Calls Try.prog 10 #[.pointer (some ⟨Bs, 0, none⟩)] w fun e w' => ∃ u, e = .returned u ∧ ownI w' w.heap.size u (l.map (·.1)) ∧ Below w.heap.size w w' := by
  obtain ⟨im, mi0, mz0, mz1, mz2⟩ := info_parts infoI
  have c1 : w.cell? ⟨Bs, 0, none⟩ = some (.int .i64 most) := by simp [World.cell?, h.at_]
  have c2 : w.cell? ⟨Bs, 1, none⟩ = some v := by simp [World.cell?, h.at_]
  have hlt : Bs < w.heap.size := (Array.getElem?_eq_some_iff.1 h.at_).1
  have HV : Hid (RdO w v l) := Rd.of_own h.row
  have HS := Lib.hid h.sl
  obtain ⟨va, vc, rfl⟩ := (Rd.of_own h.row).shape
  clear h
  go_enter Try.func10, Try.ntmps10
  go_wp2_with fail
  go_loopw [13, 3] (fun i out wr => ∃ j : Nat, j ≤ l.length ∧ i = .int .i64 j ∧ Hid (ownI wr w.heap.size out ((l.take j).map (·.1))) ∧ Hid (Below w.heap.size w wr)) (fun i _ _ => l.length - (intOf i).toNat)
  case atStart => exact ⟨0, by omega, rfl, ⟨rfl, .inl ⟨rfl, rfl⟩⟩, Below.refl _ _⟩
  case round =>
    obtain ⟨wa, rfl⟩ : ∃ wa : World, wa = wr := ⟨_, rfl⟩
    obtain ⟨j, hj, rfl, HO, HB⟩ := hrel
    obtain ⟨oa, oc, rfl⟩ := (Rd.of_own HO.out).shape
    have hsz := HB.out.size
    by_cases hlt : j < l.length
    · rcases HV.out.split with ⟨a, c, h0, h1⟩ | ⟨b, off, c, h0, hp, hlc, hc9, hb, hcell⟩
      · subst h1; simp at hlt
      · simp only [Value.slice.injEq] at h0
        obtain ⟨rfl, _, rfl⟩ := h0
        obtain ⟨d1, d2⟩ := hcell j hlt
        rw [← HB.out.cell (p := ⟨b, off + j * 2, none⟩) hb] at d1
        rw [← HB.out.cell (p := ⟨b, off + j * 2 + 1, none⟩) hb] at d2
        have hbr : b < wa.heap.size := Nat.lt_of_lt_of_le hb hsz
        obtain ⟨pa, pn, pc, hpp⟩ := HS.out _ (List.getElem_mem hlt)
        rw [hpp] at d2
        obtain ⟨x, hx⟩ : ∃ x, l[j].1 = x := ⟨_, rfl⟩
        rw [hx] at d1
        have htk : ((l.take j).map (·.1)).length = j := by rw [List.length_map, List.length_take]; omega
        have hnx : (l.take j).map (·.1) ++ [x] = (l.take (j + 1)).map (·.1) := by
          rw [List.take_succ_eq_append_getElem hlt, List.map_append, ← hx]; rfl
        have b1 : Hid (((l.take j).map (·.1)).length + 1 ≤ maxLen) := by show _ ≤ _; unfold maxLen; omega
        have b2 : Hid ((((l.take j).map (·.1)).length + 1) * 8 ≤ 140737488355328) := by show _ ≤ _; omega
        obtain ⟨xs, hxs⟩ : ∃ xs, (l.take j).map (·.1) = xs := ⟨_, rfl⟩
        rw [hxs] at HO b1 b2 hnx
        have HNX := Lib.hid hnx
        rw [hxs]
        clear hx hpp hcell htk hnx hxs
        go_wp2_with (at_builtin; refine wpList_append_own_rd _ rfl _ _ 22 rfl w.heap.size 3 im (.int .i64 0) 1 8 Try.underlying22 mi0 mz0 mz1 mz2 rfl (by decide) _ _ _ rfl ((HO.out.alloc _).alloc _) (.slice (some ⟨wa.heap.size + 1, 0, none⟩) 1 1) 1 [.int .i64 x] rfl (rd_ione (wa.alloc _) x _ (by simp)) (by intro u hu; simp at hu; subst hu; rfl) b1.out b2.out (by simp; omega) ?_; intro v' w4 hown4 hgrow4)
        refine ⟨⟨j + 1, by omega, by go_num, ?_, ((HB.out.alloc hsz _).alloc (by simp; omega) _).grown hgrow4 (by simp; omega) (fun k hk => (HO.out.lt k hk).1)⟩, by simp [intOf]; omega⟩
        rw [← HNX.out]
        show World.ownsRow _ _ _ _ _ _ _
        rw [List.length_append, List.map_append]
        exact hown4
    · obtain rfl : j = l.length := by omega
      rw [List.take_length] at HO
      rw [List.take_length]
      go_wp2_with fail
      go_ret
      exact ⟨_, rfl, HO.out, HB.out⟩
end Go.Proofs.Ytmfhmegkgpaemaa
