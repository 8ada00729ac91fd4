/- Keep: the document's Drop, Best. -/
import Derived.Test.YtmfhmegkgpaemaaKv
namespace Go.Proofs.Ytmfhmegkgpaemaa
open Go.RowKit

set_option maxHeartbeats 4000000 in
theorem refDrop_any (x : Int) (w : World) (base Bs : Nat) (most : Int) (v : Value) (l : List Mo) (S : Ms) (h : RAt w base Bs most v l S) (hl : S.length ≤ 1000) (hbase : base ≤ w.heap.size) :
    Calls Try.prog 20 #[.pointer (some ⟨Bs, 0, none⟩), .int .i64 x] w fun e w' =>
      ((∀ k, (hk : k < S.length) → S[k].1 ≠ x) ∧ e = .returned (.int .i64 14) ∧ Below w.heap.size w w') ∨
      ∃ i, (∃ hi : i < S.length, S[i].1 = x) ∧ e = .returned (.int .i64 0) ∧ (∃ v' l', RAt w' base Bs most v' l' (S.eraseIdx i) ∧ ∀ m ∈ l', m ∈ l) ∧ Below base w w' ∧ KeepR w w' := by
  have hn : l.length = S.length := h.len
  have c1 : w.cell? ⟨Bs, 0, none⟩ = some (.int .i64 most) := by simp [World.cell?, h.at_]
  have c2 : w.cell? ⟨Bs, 1, none⟩ = some v := by simp [World.cell?, h.at_]
  have hlt : Bs < w.heap.size := h.lt
  have HV : Hid (RdO w v l) := Rd.of_own h.row
  have HS := Lib.hid h
  have HN := Lib.hid hn
  have hl2 : l.length ≤ 1000 := by omega
  obtain ⟨va, vc, rfl⟩ := (Rd.of_own h.row).shape
  clear h hn hl
  go_enter Try.func20, Try.ntmps20
  go_wp2_with fail
  go_loopw [14] (fun i wr => ∃ j : Nat, j ≤ l.length ∧ i = .int .i64 j ∧ Hid (∀ q, (hq : q < S.length) → q < j → S[q].1 ≠ x) ∧ Hid (Below w.heap.size w wr)) (fun i _ => l.length - (intOf i).toNat)
  case atStart => exact ⟨0, by omega, rfl, (fun q _ h => absurd h (by omega)), Below.refl _ _⟩
  case round =>
    obtain ⟨wa, rfl⟩ : ∃ wa : World, wa = wr := ⟨_, rfl⟩
    obtain ⟨j, hj, rfl, HO, HB⟩ := hrel
    have hsz := HB.out.size
    by_cases hlt2 : j < l.length
    · rcases HV.out.split with ⟨a, c, h0, h1⟩ | ⟨b, off, c, h0, hp, hlc, hc9, hb, hcell⟩
      · subst h1; simp at hlt2
      · simp only [Value.slice.injEq] at h0
        obtain ⟨rfl, _, rfl⟩ := h0
        obtain ⟨d1, d2⟩ := hcell j hlt2
        rw [← HB.out.cell (p := ⟨b, off + j * 2, none⟩) hb] at d1
        rw [← HB.out.cell (p := ⟨b, off + j * 2 + 1, none⟩) hb] at d2
        have hbr : b < wa.heap.size := Nat.lt_of_lt_of_le hb hsz
        obtain ⟨pa, pn, pc, hpp⟩ := HS.out.sl _ (List.getElem_mem hlt2)
        rw [hpp] at d2
        have hSj : j < S.length := by rw [← HN.out]; exact hlt2
        have hxy := HS.out.ats j hlt2 hSj
        obtain ⟨y, hy⟩ : ∃ y, l[j].1 = y := ⟨_, rfl⟩
        rw [hy] at d1 hxy
        have HXY := Lib.hid hxy
        have hB2 : Below w.heap.size w (wa.alloc (.cells #[.int .i64 y, .slice pa pn pc] 47)) := HB.out.alloc hsz _
        have HB2 := Lib.hid hB2
        clear hy hpp hcell hxy
        by_cases hxe : y = x
        · have hb0 : (y == x) = true := by simp [hxe]
          have HXE := Lib.hid hxe
          have HD := Lib.hid (refDrop_at j _ base Bs most _ l S (HS.out.later hB2) hl2 (Nat.le_trans hbase hB2.size))
          clear hxe hB2
          go_wp2_with fail
          refine HD.out.mono ?_
          rintro e w4 ⟨rfl, h1, h2, h3⟩
          have HH : Hid ((∃ v' l', RAt w4 base Bs most v' l' (S.eraseIdx j) ∧ ∀ m ∈ l', m ∈ l) ∧ Below base w w4 ∧ KeepR w w4) := ⟨h1, (HB2.out.mono hbase).trans h2, (KeepR.of_below HB2.out).trans h3⟩
          clear h1 h2 h3
          go_wp2_with fail
          go_ret
          exact .inr ⟨j, ⟨hSj, by rw [← HXY.out]; exact HXE.out⟩, rfl, HH.out⟩
        · have hb0 : (y == x) = false := by simp [hxe]
          have HXE := Lib.hid hxe
          clear hxe hB2
          go_wp2_with fail
          refine ⟨⟨j + 1, by omega, by go_num, ?_, HB2.out⟩, by simp [intOf]; omega⟩
          intro q hq hqj
          by_cases e : q = j
          · subst e; rw [← HXY.out]; exact HXE.out
          · exact HO.out q hq (by omega)
    · go_wp2_with fail
      go_ret
      exact .inl ⟨fun q hq => HO.out q hq (by have := HN.out; omega), rfl, HB.out⟩

set_option maxHeartbeats 4000000 in
theorem refBest_any (x : Int) (w : World) (base Bs : Nat) (most : Int) (S : Ms) (h : RSt w base Bs most S) (hl : S.length ≤ 1000) :
    Calls Try.prog 21 #[.pointer (some ⟨Bs, 0, none⟩), .int .i64 x] w fun e w' =>
      ((∀ k, (hk : k < S.length) → x < S[k].1) ∧ e = .returned (.tuple #[.agg #[.int .i64 0, .slice none 0 0], .bool false]) ∧ Below w.heap.size w w') ∨
      ∃ i, ∃ hi : i < S.length, S[i].1 ≤ x ∧ (∀ k, (hk : k < S.length) → i < k → x < S[k].1) ∧ ∃ q, e = .returned (.tuple #[.agg #[.int .i64 S[i].1, q], .bool true]) ∧ ownB w base q S[i].2 ∧ Below w.heap.size w w' := by
  obtain ⟨v, l, h⟩ := h
  have hn : l.length = S.length := h.len
  have c1 : w.cell? ⟨Bs, 0, none⟩ = some (.int .i64 most) := by simp [World.cell?, h.at_]
  have c2 : w.cell? ⟨Bs, 1, none⟩ = some v := by simp [World.cell?, h.at_]
  have hlt : Bs < w.heap.size := h.lt
  have HV : Hid (RdO w v l) := Rd.of_own h.row
  have HS := Lib.hid h
  have HN := Lib.hid hn
  have hl2 : l.length ≤ 1000 := by omega
  obtain ⟨va, vc, rfl⟩ := (Rd.of_own h.row).shape
  clear h hn hl
  go_enter Try.func21, Try.ntmps21
  go_wp2_with fail
  go_loopw [17, 7] (fun i ok wr => ∃ (j : Nat) (b : Bool) (y : Int) (pa : Option Addr) (pn pc : Nat), j ≤ l.length ∧ i = .int .i64 j ∧ ok = .bool b ∧
    Hid (wr.heap[w.heap.size]? = some (.cells #[.int .i64 0, .slice none 0 0] 47 (0, 0)) ∧ wr.heap[w.heap.size + 1]? = some (.cells #[.int .i64 y, .slice pa pn pc] 47 (0, 0))) ∧
    Hid ((b = false ∧ y = 0 ∧ pa = none ∧ pn = 0 ∧ pc = 0 ∧ ∀ q, (hq : q < S.length) → q < j → x < S[q].1) ∨ (b = true ∧ ∃ i, ∃ hi : i < S.length, S[i].1 ≤ x ∧ (∀ q, (hq : q < S.length) → i < q → q < j → x < S[q].1) ∧ y = S[i].1 ∧ ownB w base (.slice pa pn pc) S[i].2)) ∧ Hid (Below w.heap.size w wr)) (fun i _ _ => l.length - (intOf i).toNat)
  case atStart =>
    refine ⟨0, false, 0, none, 0, 0, by omega, rfl, rfl, ⟨?_, ?_⟩, .inl ⟨rfl, rfl, rfl, rfl, rfl, fun q _ h => absurd h (by omega)⟩, ?_⟩
    · rw [Below.heap_alloc _ _ _ (by simp)]; exact heap_alloc_new _ _
    · exact heap_two _ _ _
    · exact ((Below.refl _ _).alloc (Nat.le_refl _) _).alloc (by simp) _
  case round =>
    obtain ⟨wa, rfl⟩ : ∃ wa : World, wa = wr := ⟨_, rfl⟩
    obtain ⟨j, b, y, qa, qn, qc, hj, rfl, rfl, HM, HO, HB⟩ := hrel
    have hsz := HB.out.size
    have m1 : wa.cell? ⟨w.heap.size + 1, 0, none⟩ = some (.int .i64 y) := by simp [World.cell?, HM.out.2]
    have m2 : wa.cell? ⟨w.heap.size + 1, 1, none⟩ = some (.slice qa qn qc) := by simp [World.cell?, HM.out.2]
    have m3 : wa.frozen? ⟨w.heap.size + 1, 0, none⟩ = false := by simp [World.frozen?, HM.out.2]
    have m4 : wa.frozen? ⟨w.heap.size + 1, 1, none⟩ = false := by simp [World.frozen?, HM.out.2]
    have hsz2 : w.heap.size + 1 < wa.heap.size := (Array.getElem?_eq_some_iff.1 HM.out.2).1
    by_cases hlt2 : j < l.length
    · rcases HV.out.split with ⟨a, c, h0, h1⟩ | ⟨bb, off, c, h0, hp, hlc, hc9, hb, hcell⟩
      · subst h1; simp at hlt2
      · simp only [Value.slice.injEq] at h0
        obtain ⟨rfl, _, rfl⟩ := h0
        obtain ⟨d1, d2⟩ := hcell j hlt2
        rw [← HB.out.cell (p := ⟨bb, off + j * 2, none⟩) hb] at d1
        rw [← HB.out.cell (p := ⟨bb, off + j * 2 + 1, none⟩) hb] at d2
        have hbr : bb < wa.heap.size := Nat.lt_of_lt_of_le hb hsz
        obtain ⟨pa, pn, pc, hpp⟩ := HS.out.sl _ (List.getElem_mem hlt2)
        have hSj : j < S.length := by rw [← HN.out]; exact hlt2
        have hown := HS.out.ps j hlt2 hSj
        rw [hpp] at d2 hown
        have hxy := HS.out.ats j hlt2 hSj
        obtain ⟨z, hz⟩ : ∃ z, l[j].1 = z := ⟨_, rfl⟩
        rw [hz] at d1 hxy
        have HXY := Lib.hid hxy
        have HOW := Lib.hid hown
        clear hz hpp hcell hxy hown
        by_cases hxe : z ≤ x
        · have hb0 : decide (z ≤ x) = true := decide_eq_true hxe
          have HXE := Lib.hid hxe
          clear hxe
          go_wp2_with fail
          refine ⟨⟨j + 1, true, z, pa, pn, pc, by omega, by go_num, rfl, ⟨?_, ?_⟩, .inr ⟨rfl, j, hSj, by rw [← HXY.out]; exact HXE.out, fun q _ h1 h2 => absurd h2 (by omega), HXY.out, HOW.out⟩, ?_⟩, by simp [intOf]; omega⟩
          · rw [Below.heap_alloc _ _ _ (by rw [World.size_setCell, World.size_setCell]; omega), Below.heap_setCell _ _ _ _ (by simp), Below.heap_setCell _ _ _ _ (by simp)]; exact HM.out.1
          · rw [Below.heap_alloc _ _ _ (by rw [World.size_setCell, World.size_setCell]; omega)]
            simp [World.setCell, Array.getElem?_modify, HM.out.2]
          · exact ((HB.out.setCell (by simp) _).setCell (by simp) _).alloc (by rw [World.size_setCell, World.size_setCell]; omega) _
        · have hb0 : decide (z ≤ x) = false := decide_eq_false hxe
          have HXE := Lib.hid hxe
          clear hxe
          go_wp2_with fail
          refine ⟨⟨j + 1, b, y, qa, qn, qc, by omega, by go_num, rfl, ⟨?_, ?_⟩, ?_, HB.out.alloc hsz _⟩, by simp [intOf]; omega⟩
          · rw [Below.heap_alloc _ _ _ (by omega)]; exact HM.out.1
          · rw [Below.heap_alloc _ _ _ (by omega)]; exact HM.out.2
          · have key : ∀ q, (hq : q < S.length) → q = j → x < S[q].1 := fun q hq e => by subst e; rw [← HXY.out]; have := HXE.out; omega
            rcases HO.out with ⟨h1, h2, h3, h4, h5, h6⟩ | ⟨h1, i, hi, h2, h3, h4⟩
            · exact .inl ⟨h1, h2, h3, h4, h5, fun q hq hqj => by
                by_cases e : q = j
                · exact key q hq e
                · exact h6 q hq (by omega)⟩
            · exact .inr ⟨h1, i, hi, h2, fun q hq hiq hqj => by
                by_cases e : q = j
                · exact key q hq e
                · exact h3 q hq hiq (by omega), h4⟩
    · have n1 : wa.frozen? ⟨w.heap.size, 0, none⟩ = false := by simp [World.frozen?, HM.out.1]
      have n2 : wa.frozen? ⟨w.heap.size, 1, none⟩ = false := by simp [World.frozen?, HM.out.1]
      have n3 : wa.cell? ⟨w.heap.size, 0, none⟩ = some (.int .i64 0) := by simp [World.cell?, HM.out.1]
      have n4 : wa.cell? ⟨w.heap.size, 1, none⟩ = some (.slice none 0 0) := by simp [World.cell?, HM.out.1]
      go_wp2_with fail
      have g1 : (((wa.setCell ⟨w.heap.size, 0, none⟩ (.int .i64 y)).setCell ⟨w.heap.size, 1, none⟩ (.slice qa qn qc))).heap[w.heap.size]? = some (.cells #[.int .i64 y, .slice qa qn qc] 47 (0, 0)) := by
        simp [World.setCell, Array.getElem?_modify, HM.out.1]
      have g2 : ((wa.setCell ⟨w.heap.size, 0, none⟩ (.int .i64 y)).setCell ⟨w.heap.size, 1, none⟩ (.slice qa qn qc)).cell? ⟨w.heap.size, 0, none⟩ = some (.int .i64 y) := by simp only [World.cell?, g1]; rfl
      have g3 : ((wa.setCell ⟨w.heap.size, 0, none⟩ (.int .i64 y)).setCell ⟨w.heap.size, 1, none⟩ (.slice qa qn qc)).cell? ⟨w.heap.size, 1, none⟩ = some (.slice qa qn qc) := by simp only [World.cell?, g1]; rfl
      have hbf : Below w.heap.size w ((wa.setCell ⟨w.heap.size, 0, none⟩ (.int .i64 y)).setCell ⟨w.heap.size, 1, none⟩ (.slice qa qn qc)) := (HB.out.setCell (Nat.le_refl _) _).setCell (Nat.le_refl _) _
      refine bodyPost_ret (v := .tuple #[.agg #[.int .i64 y, .slice qa qn qc], .bool b]) ?_ rfl ?_
      · simp [results, Try.results21, go_sem, g2, g3]
      · rcases HO.out with ⟨rfl, rfl, rfl, rfl, rfl, h6⟩ | ⟨rfl, i, hi, h2, h3, rfl, h5⟩
        · exact .inl ⟨fun q hq => h6 q hq (by have := HN.out; omega), rfl, hbf⟩
        · exact .inr ⟨i, hi, h2, fun q hq hiq => h3 q hq hiq (by have := HN.out; omega), _, rfl, h5, hbf⟩
end Go.Proofs.Ytmfhmegkgpaemaa
