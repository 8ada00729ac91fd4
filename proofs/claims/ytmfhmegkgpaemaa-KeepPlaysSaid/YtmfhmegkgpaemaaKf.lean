/- Keep: the library's slices.Insert of one moment, where there is no room. -/
import Derived.Test.YtmfhmegkgpaemaaKe
namespace Go.Proofs.Ytmfhmegkgpaemaa
open Go.RowKit

theorem size_zeroCells (z : Array Value) (n : Nat) : (Builtin.zeroCells z n).size = n * z.size := by simp [Builtin.zeroCells]

set_option maxHeartbeats 4000000 in
set_option maxRecDepth 100000 in
theorem insert_grow (g c i base B : Nat) (x : Int) (p : Value) (l : List Mo) (w : World) (h : ownO w base (.slice (some ⟨g, 0, none⟩) l.length c) l) (hi : i < l.length) (hroom : c < l.length + 1) (hl : l.length ≤ 1000) (hS : ∀ m ∈ l, SlV m.2) (hp : SlV p) (hbase : base ≤ w.heap.size)
    (hB : w.heap[B]? = some (.cells #[.int .i64 x, p] 56 (0, 0))) (hBg : B ≠ g) :
    Calls Try.prog 17 #[.slice (some ⟨g, 0, none⟩) l.length c, .int .i64 i, .slice (some ⟨B, 0, none⟩) 1 1] w fun e w' =>
      ∃ v', e = .returned v' ∧ ownO w' base v' (l.take i ++ (x, p) :: l.drop i) ∧ w.grownBy w' (some g) ∧ fromS w (.slice (some ⟨g, 0, none⟩) l.length c) v' := by
  obtain ⟨im, mi0, mz0, mz1, mz2⟩ := info_parts infoO
  have hsz : (Try.prog.info? 56).map (·.size) = some 2 := by rw [mi0]; simp [mz1]
  obtain ⟨cur, hbg, hg, hlc, hcm, hcs, htk⟩ : ∃ cur, base ≤ g ∧ w.heap[g]? = some (.cells cur 56 (0, 0)) ∧ l.length ≤ c ∧ c ≤ maxLen ∧ cur.size = c * 2 ∧ cur.toList.take (l.length * 2) = cellsO l := by
    rcases h.2 with ⟨h1, _⟩ | ⟨g', cap, cur, h1, h2, h3, h4, h5, h6, h7⟩
    · cases h1
    · cases h1; exact ⟨cur, h2, h3, h4, h5, h6, h7⟩
  have hcO := cellsO_length l
  have hdO : (cellsO (l.drop i)).length = (l.length - i) * 2 := by rw [cellsO_length, List.length_drop]
  have htO : (cellsO (l.take i)).length = i * 2 := by rw [cellsO_length, List.length_take]; omega
  have hglt : g < w.heap.size := (Array.getElem?_eq_some_iff.1 hg).1
  have hBlt : B < w.heap.size := (Array.getElem?_eq_some_iff.1 hB).1
  -- the new row
  obtain ⟨C, hC⟩ : ∃ C, C = grownCap w (l.length + 1) c 56 := ⟨_, rfl⟩
  have hCge : l.length + 1 ≤ C := by rw [hC]; exact grownCap_ge ..
  have hCle : C ≤ maxLen := by rw [hC]; exact grownCap_le_maxLen _ _ _ _ (by unfold maxLen; omega)
  obtain ⟨row, hrow⟩ : ∃ row, row = (cellsO (l.take i)).toArray ++ Builtin.zeroCells (Value.agg #[.int .i64 0, .slice none 0 0]).cells (l.length + 1 - i) ++ Builtin.zeroCells (Value.agg #[.int .i64 0, .slice none 0 0]).cells (C - (l.length + 1)) := ⟨_, rfl⟩
  have hz2 : (Value.agg #[.int .i64 0, .slice none 0 0]).cells.size = 2 := by kernel_rfl
  have hrs : row.size = C * 2 := by rw [hrow]; simp only [Array.size_append, size_zeroCells, hz2, List.size_toArray, htO]; omega
  have hrt : row.toList.take (i * 2) = (cellsO l).take (i * 2) := by
    rw [hrow, cellsO_take]
    simp only [Array.toList_append, List.append_assoc]
    exact List.take_left' htO
  have hap : ∀ ty, (Builtin.append_ #[49, 3] ty #[.slice (some ⟨g, 0, none⟩) i c, .int .i64 ((l.length : Int) + 1 - (i : Int))]).run Try.prog w = .ok (.slice (some ⟨w.heap.size, 0, none⟩) (l.length + 1) C) (w.drew.alloc (.cells row 56)) := fun ty => by
    have h1 := Lib.run_append_grow_zeros (P := Try.prog) w 49 3 ty 56 im _ .i64 .i64 Try.underlying49 Try.underlying3 mi0 mz0 (some ⟨g, 0, none⟩) i c (cellsO (l.take i))
      (run_firstCells_some (P := Try.prog) w.drew im.size i ⟨g, 0, none⟩ i c (cellsO (l.take i)) (by rw [mz1, htO]) (fun j u hu => by
        rw [← cellsO_take, List.getElem?_take] at hu
        split at hu
        · exact h.cells rfl _ u hu
        · cases hu)) (l.length + 1 - i) (by omega) (by omega) (by omega) (by omega) (by rw [mz2]; omega) (by
        have := nextslicecap_le (need := i + (l.length + 1 - i)) (old := c) (by omega)
        rw [mz2]
        have e : i + (l.length + 1 - i) = l.length + 1 := by omega
        rw [e] at this ⊢
        omega)
    have e : i + (l.length + 1 - i) = l.length + 1 := by omega
    rw [e, ← hC, ← hrow] at h1
    have e2 : ((l.length + 1 - i : Nat) : Int) = (l.length : Int) + 1 - (i : Int) := by omega
    rw [e2] at h1
    exact h1
  obtain ⟨W0, hW0⟩ : ∃ W0, W0 = w.drew.alloc (.cells row 56) := ⟨_, rfl⟩
  rw [← hW0] at hap
  obtain ⟨k, hk⟩ : ∃ k, k = w.heap.size := ⟨_, rfl⟩
  rw [← hk] at hap
  have hkge : w.heap.size ≤ k := by omega
  have hk0 : W0.heap[k]? = some (.cells row 56 (0, 0)) := by rw [hW0, hk]; exact heap_alloc_new w.drew _
  have hold : ∀ j, j < w.heap.size → W0.heap[j]? = w.heap[j]? := fun j hj => by rw [hW0]; exact heap_alloc_old w.drew _ hj
  have hkg : k ≠ g := by omega
  have hBk : B ≠ k := by omega
  have hmin1 : Nat.min (l.length - i) (l.length - i) = l.length - i := by show min _ _ = _; omega
  have hmin2 : Nat.min 1 (l.length + 1 - i) = 1 := by show min _ _ = _; omega
  -- slices
  obtain ⟨vs, hvs⟩ : ∃ vs, vs = Value.slice (some ⟨g, i * 2, none⟩) (l.length - i) (c - i) := ⟨_, rfl⟩
  have hva : ∀ W, (Instr.slice 49 (.slice (some ⟨g, 0, none⟩) l.length c) (some (.int .i64 (i : Int))) none none).run Try.prog W = .ok (.slice (some ⟨g, i * 2, none⟩) (l.length - i) (c - i)) W := fun W => by
    have h := run_slice_from (P := Try.prog) 49 56 Try.underlying49 mi0 mz1 (some ⟨g, 0, none⟩) l.length c i (i : Int) rfl (by omega) W
    rw [if_neg (by omega), Option.map_some, add_plain, Nat.zero_add] at h
    exact h
  have hvb : ∀ W, (Instr.slice 49 (.slice (some ⟨g, 0, none⟩) l.length c) none (some (.int .i64 (i : Int))) none).run Try.prog W = .ok (.slice (some ⟨g, 0, none⟩) i c) W := fun W =>
    run_slice_to (P := Try.prog) 49 56 Try.underlying49 mi0 mz1 (some ⟨g, 0, none⟩) l.length c i (i : Int) rfl (by omega) W
  have hvc : ∀ W, (Instr.slice 49 (.slice (some ⟨k, 0, none⟩) (l.length + 1) C) (some (.int .i64 (i : Int))) none none).run Try.prog W = .ok (.slice (some ⟨k, i * 2, none⟩) (l.length + 1 - i) (C - i)) W := fun W => by
    have h := run_slice_from (P := Try.prog) 49 56 Try.underlying49 mi0 mz1 (some ⟨k, 0, none⟩) (l.length + 1) C i (i : Int) rfl (by omega) W
    rw [if_neg (by omega), Option.map_some, add_plain, Nat.zero_add] at h
    exact h
  -- the copies
  have hvl1 : ∀ u ∈ cellsO (l.drop i), u.oneCell' = true := cellsO_one _ fun m hm => hS m (List.mem_of_mem_drop hm)
  have hvl2 : ∀ u ∈ cellsO [(x, p)], u.oneCell' = true := cellsO_one _ (by simpa using hp)
  have hB0 : W0.heap[B]? = some (.cells #[.int .i64 x, p] 56 (0, 0)) := by rw [hold B hBlt]; exact hB
  have hcp1 := fun ty dc => run_copy_rowK (P := Try.prog) W0 49 49 ty 56 2 k (i * 2) (l.length + 1 - i) dc ⟨B, 0, none⟩ 1 1 row 56 (cellsO [(x, p)]) Try.underlying49 hsz hk0
    (by rw [hmin2]; rfl) (cells_one hB0) (by simp [cellsO, hrs]; omega) hvl2
  obtain ⟨c1, hc1⟩ : ∃ c1, c1 = (row.toList.take (i * 2) ++ cellsO [(x, p)] ++ row.toList.drop (i * 2 + (cellsO [(x, p)]).length)) := ⟨_, rfl⟩
  have hc1l : c1.length = C * 2 := by rw [hc1]; simp [cellsO, hrs]; omega
  rw [← hc1] at hcp1
  obtain ⟨W1, hW1⟩ : ∃ W1, W1 = W0.setRow k c1.toArray := ⟨_, rfl⟩
  rw [← hW1] at hcp1
  have hk1 : W1.drew.heap[k]? = some (.cells c1.toArray 56 (0, 0)) := by show W1.heap[k]? = _; rw [hW1]; exact setRow_heap _ k row _ _ _ hk0
  have hg1 : W1.drew.heap[g]? = w.heap[g]? := by show W1.heap[g]? = _; rw [hW1, setRow_other _ _ _ _ hkg.symm, hold g hglt]
  have hcp2 := fun ty dc sc => run_copy_rowK (P := Try.prog) W1.drew 49 49 ty 56 2 k ((i + 1) * 2) (l.length - i) dc ⟨g, i * 2, none⟩ (l.length - i) sc c1.toArray 56 (cellsO (l.drop i)) Try.underlying49 hsz hk1
    (by rw [hdO, hmin1]) (fun j u hu => by
      rw [← cellsO_drop, List.getElem?_drop] at hu
      have := h.cells rfl _ u hu
      rw [add_plain, Nat.zero_add] at this
      rw [add_plain]
      rw [← this]
      exact World.cell?_of_block (a := ⟨g, i * 2 + j, none⟩) hg1) (by rw [hdO]; simp [hc1l]; omega) hvl1
  obtain ⟨W2, hW2⟩ : ∃ W2, W2 = W1.drew.setRow k (c1.toArray.toList.take ((i + 1) * 2) ++ cellsO (l.drop i) ++ c1.toArray.toList.drop ((i + 1) * 2 + (cellsO (l.drop i)).length)).toArray := ⟨_, rfl⟩
  rw [← hW2] at hcp2
  have hfin : ownO W2 base (.slice (some ⟨k, 0, none⟩) (l.length + 1) C) (l.take i ++ (x, p) :: l.drop i) := by
    have hlen : (l.take i ++ (x, p) :: l.drop i).length = l.length + 1 := by simp; omega
    show World.ownsRow _ _ _ _ _ _ _
    rw [hlen]
    refine ⟨by rw [cellsO_length, hlen], .inr ⟨k, C, _, rfl, by omega, by rw [hW2]; exact setRow_heap _ k _ _ _ _ hk1, hCge, hCle, ?_, ?_⟩⟩
    · simp [hdO, hc1l]; omega
    · rw [← ins_list, ← ins_new row.toList (cellsO l) l.length i (.int .i64 x) p hrt hcO (by omega) (by simp [hrs]; omega)]
      rw [cellsO_drop]
      simp only [hc1]
      rfl
  have hgrow : w.grownBy W2 (some g) := by
    refine ⟨by rw [hW2, hW1, hW0]; rfl, by rw [hW2, hW1, hW0]; rfl, by rw [hW2, hW1, hW0]; rfl, ?_, fun j hj hne => ?_⟩
    · have e : W2.heap.size = W0.heap.size := by rw [hW2, hW1]; simp [World.setRow]
      rw [e, hW0]; simp
    · rw [hW2, setRow_other _ _ _ _ (by omega)]
      show W1.heap[j]? = _
      rw [hW1, setRow_other _ _ _ _ (by omega), hold j hj]
  have HE := Lib.hid (And.intro hfin hgrow)
  have hii : ((i : Int) == (l.length : Int)) = false := by simp; omega
  have hrm : (c : Int) < (l.length : Int) + 1 := by omega
  have mixed : Try.prog.follows Departure.mixedOrders = true := by kernel_rfl
  have hw1 : IntKind.i64.wrap ((i : Int) + 1) = (i : Int) + 1 := by rw [IntKind.wrap_i64]; omega
  have hb1 : (0 : Int) ≤ (i : Int) + 1 := by omega
  have htn : ((i : Int) + 1).toNat = i + 1 := by omega
  have hb2 : ¬ (C = i + 1) := by omega
  have hb3 : (i : Int) ≤ (l.length : Int) := by omega
  have hb5 : (i : Int) + 1 ≤ (l.length : Int) + 1 := by omega
  have hb4 : ¬ (c = i) := by omega
  have hb6 : i ≤ l.length := by omega
  clear hfin hgrow hW2 hW1 hW0 hc1 hc1l hg1 hB0 hvl1 hvl2 htk hcs hg h hB hS hp hold hk0 hk1 hk hrow hrs hrt hC hvs
  go_enter Try.func17, Try.ntmps17
  go_wp2_with (first
    | (at_builtin; refine wpList_append_runK _ rfl _ _ 49 3 rfl _ _ rfl rfl (hap _) ?_)
    | (at_builtin; refine wpList_copy_runK _ rfl _ _ 49 49 rfl _ _ rfl rfl (hcp1 _ _) ?_))
  go_region_law_o (refine step_copy_runK rfl _ _ 49 49 rfl _ _ (by simp [Act.eval, Act.put]) (by simp [Act.eval, Act.put]) (hcp2 _ _ _) ?_)
  simp (config := { failIfUnchanged := false }) only [Act.put, Exit.then]
  go_wp2_with fail
  go_ret
  exact ⟨_, rfl, HE.out.1, HE.out.2, .inr fun k' hk' => by cases hk'; exact hkge⟩
end Go.Proofs.Ytmfhmegkgpaemaa
