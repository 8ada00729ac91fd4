/- Keep: the library's slices.Delete of one moment; slices of bytes copied. -/
import Derived.Test.YtmfhmegkgpaemaaKb
import Derived.Shelf.RegionOpenPlain
namespace Go.Proofs.Ytmfhmegkgpaemaa
open Go.RowKit

abbrev ownO (w : World) (base : Nat) (v : Value) (l : List Mo) : Prop := w.ownsRow base 56 2 v l.length (cellsO l)

set_option maxHeartbeats 4000000 in
theorem delete_any (g c i base : Nat) (l : List Mo) (w : World) (h : ownO w base (.slice (some ⟨g, 0, none⟩) l.length c) l) (hi : i < l.length) (hl : l.length ≤ 1000) (hS : ∀ m ∈ l, SlV m.2) :
    Calls Try.prog 16 #[.slice (some ⟨g, 0, none⟩) l.length c, .int .i64 i, .int .i64 ((i : Int) + 1)] w fun e w' =>
      ∃ l', l' = l.eraseIdx i ∧ e = .returned (.slice (some ⟨g, 0, none⟩) l'.length c) ∧ ownO w' base (.slice (some ⟨g, 0, none⟩) l'.length c) l' ∧ w.grownBy w' (some g) := by
  obtain ⟨im, mi0, mz0, mz1, mz2⟩ := info_parts infoO
  obtain ⟨hlc, hcm⟩ : l.length ≤ c ∧ c ≤ maxLen := by
    rcases h.2 with ⟨h1, _⟩ | ⟨g', cap, cur, h1, _, _, h4, h5, _⟩
    · cases h1
    · cases h1; exact ⟨h4, h5⟩
  have hle : (l.eraseIdx i).length = l.length - 1 := by rw [List.length_eraseIdx, if_pos hi]
  -- the slices
  obtain ⟨va, hva⟩ : ∃ va, ∀ W, (Instr.slice 49 (.slice (some ⟨g, 0, none⟩) l.length c) (some (.int .i64 (i : Int))) (some (.int .i64 ((i : Int) + 1))) (some (.int .i64 (l.length : Int)))).run Try.prog W = .ok va W :=
    ⟨_, fun W => run_slice_full (P := Try.prog) 49 56 Try.underlying49 mi0 mz1 _ l.length c i (i + 1) l.length _ _ _ rfl (by omega) rfl (by omega) (by omega) hlc W⟩
  have hvb := fun W => run_slice_to (P := Try.prog) 49 56 Try.underlying49 mi0 mz1 (some ⟨g, 0, none⟩) l.length c i (i : Int) rfl (by omega) W
  obtain ⟨ad, hvc, hnews⟩ : ∃ ad, (∀ W, (Instr.slice 49 (.slice (some ⟨g, 0, none⟩) l.length c) (some (.int .i64 ((i : Int) + 1))) none none).run Try.prog W = .ok (.slice (some ad) (l.length - (i + 1)) (c - (i + 1))) W) ∧ ∀ j u, (cellsO (l.drop (i + 1)))[j]? = some u → w.cell? (ad.add j) = some u := by
    have hs := fun W => run_slice_from (P := Try.prog) 49 56 Try.underlying49 mi0 mz1 (some ⟨g, 0, none⟩) l.length c (i + 1) ((i : Int) + 1) (by omega) (by omega) W
    by_cases hc : c = i + 1
    · refine ⟨⟨g, 0, none⟩, fun W => by rw [hs W, if_pos hc], fun j u hu => ?_⟩
      rw [List.drop_of_length_le (by omega)] at hu
      simp [cellsO] at hu
    · refine ⟨_, fun W => by rw [hs W, if_neg hc]; rfl, fun j u hu => ?_⟩
      rw [← cellsO_drop, List.getElem?_drop] at hu
      have := h.cells rfl _ u hu
      rwa [Addr.add_add]
  have hvs1 : ∀ u ∈ cellsO (l.drop (i + 1)), u.oneCell' = true := cellsO_one _ fun m hm => hS m (List.mem_of_mem_drop hm)
  have htake : w.drew.ownsRow base 56 2 (.slice (some ⟨g, 0, none⟩) i c) i ((cellsO l).take (i * 2)) := own_take h (by omega)
  obtain ⟨w2, hrun, hown2, hgrow2⟩ := run_append_fits (P := Try.prog) (w := w.drew) base 49 49 56 im 2 Try.underlying49 mi0 mz1 g i c _ htake ad (l.length - (i + 1)) (c - (i + 1)) _ (by rw [cellsO_length, List.length_drop]) hnews hvs1 (by omega)
  obtain ⟨m, hm⟩ : ∃ m, m = l.length - 1 := ⟨_, rfl⟩
  have hn' : i + (l.length - (i + 1)) = m := by omega
  rw [hn'] at hrun hown2
  rw [cellsO_take, ← cellsO_append, ← eraseIdx_take_drop] at hown2
  have hvd : ∀ W, (Instr.slice 49 (.slice (some ⟨g, 0, none⟩) m c) (some (.int .i64 (m : Int))) (some (.int .i64 (l.length : Int))) none).run Try.prog W = .ok (.slice (some ⟨g, m * 2, none⟩) 1 (c - m)) W := fun W => by
    have h := run_slice_mid (P := Try.prog) 49 56 Try.underlying49 mi0 mz1 (some ⟨g, 0, none⟩) m c m l.length _ _ rfl rfl (by omega) hlc W
    rw [if_neg (by omega), show l.length - m = 1 by omega] at h
    simpa [add_plain] using h
  have hclr := fun ty => run_clear_one w2 g (m * 2) (c - m) ty (fun j hj => own_cell hown2 (show m * 2 + j < c * 2 by omega))
  have hown3 := own_past (v := .slice none 0 0) (own_past (v := .int .i64 0) hown2 (Nat.le_refl _)) (show m * 2 ≤ m * 2 + 1 by omega)
  have hgrow3 : w.grownBy ((w2.setCell ⟨g, m * 2, none⟩ (.int .i64 0)).setCell ⟨g, m * 2 + 1, none⟩ (.slice none 0 0)) (some g) := grown_setCell (grown_setCell ⟨hgrow2.os, hgrow2.tape, hgrow2.output, hgrow2.size, hgrow2.block⟩)
  have HE := Lib.hid (And.intro hown3 hgrow3)
  have hlen : m = (l.eraseIdx i).length := by omega
  have HLen := Lib.hid hlen
  clear hm hn'
  have hii : ((i : Int) == (i : Int) + 1) = false := by simp; omega
  have mixed : Try.prog.follows Departure.mixedOrders = true := by kernel_rfl
  clear h htake hown2 hgrow2 hown3 hgrow3 hnews hvs1 hS hlen hle
  go_enter Try.func16, Try.ntmps16
  go_wp2_with fail
  go_region_law_o (refine step_append_run rfl _ _ 49 rfl _ _ (by simp [Act.eval, Act.put]) (by simp [Act.eval, Act.put]) hrun ?_)
  simp (config := { failIfUnchanged := false }) only [Act.put, Exit.then]
  go_wp2_with (at_builtin; refine wpList_clear_run _ rfl _ 49 rfl _ rfl (hclr _) ?_)
  go_ret
  refine ⟨_, rfl, ?_, ?_, HE.out.2⟩
  · rw [← HLen.out]; rfl
  · show World.ownsRow _ _ _ _ _ _ _
    rw [← HLen.out]; exact HE.out.1
end Go.Proofs.Ytmfhmegkgpaemaa
