/- Vet: all instructions. -/
import Derived.Test.YtnanlkoldloolaaDoorEa
namespace Go.Proofs.YtnanlkoldloolaaDoor
open Go.RowKit

/-- What 'words' answers of a list that isn't empty. -/
def WordsIs (nw ne s : Int) (l : List W) (at' er : Int) : Prop :=
  (∃ j, ∃ h : j < l.length, wordE nw ne s l[j] ≠ 0 ∧ (∀ i (hi : i < l.length), i < j → wordE nw ne s l[i] = 0) ∧ at' = j ∧ er = wordE nw ne s l[j]) ∨
  ((∀ x ∈ l, wordE nw ne s x = 0) ∧ ∃ h : 0 < l.length, if (l[l.length - 1]'(by omega)).op = 45 ∨ (l[l.length - 1]'(by omega)).op = 47 then at' = 0 ∧ er = 0 else at' = l.length - 1 ∧ er = 3)

theorem wordsIs_end {nw ne s : Int} {l : List W} {n : Nat} {op at' er : Int} (h : n + 1 = l.length) (hall : ∀ i (hi : i < l.length), i < l.length → wordE nw ne s l[i] = 0) (hop : (l[n]'(by omega)).op = op) (hh : if op = 45 ∨ op = 47 then at' = 0 ∧ er = 0 else at' = n ∧ er = 3) : WordsIs nw ne s l at' er := by
  refine .inr ⟨fun x hx => ?_, by omega, ?_⟩
  · obtain ⟨i, hi, rfl⟩ := List.getElem_of_mem hx
    exact hall i hi hi
  · have e : l.length - 1 = n := by omega
    have e2 : (l[l.length - 1]'(by omega)).op = op := by simp only [e]; exact hop
    have e3 : (l.length : Int) - 1 = n := by omega
    rw [e2, e3]
    exact hh

set_option maxHeartbeats 4000000 in
theorem words_any (wv : Value) (l : List W) (ea : Option Addr) (en ec : Nat) (m : Int) (da : Option Addr) (dn dc : Nat) (s : Int) (w : World) (hv : RdW w wv l) (hl : 0 < l.length) (hn : l.length ≤ 262144) :
   Calls Tryd.prog 18 #[.agg #[wv, .slice ea en ec, .int .i64 m, .slice da dn dc], .int .i64 s] w fun e w' => (∃ at' er : Int, WordsIs l.length en s l at' er ∧ e = .returned (.tuple #[.int .i64 at', .int .i64 er])) ∧ Below w.heap.size w w' := by
  rcases hv.split with ⟨a, c, rfl, rfl⟩ | ⟨b, off, c, rfl, hp, hlc, hc9, hb, hcell⟩
  · simp at hl
  have HC := Lib.hid hcell
  clear hcell hv hl
  go_enter Tryd.func18, Tryd.ntmps18
  go_wp2_with fail
  go_loopw [14] (fun i wr => ∃ j : Nat, j ≤ l.length ∧ i = .int .i64 j ∧ (∀ i (hi : i < l.length), i < j → wordE l.length en s l[i] = 0) ∧ Below (w.heap.size + 1) (w.alloc (.cells #[.slice (some ⟨b, off, none⟩) l.length c, .slice ea en ec, .int .i64 m, .slice da dn dc] 26)) wr) (fun i _ => l.length - (intOf i).toNat)
  case atStart => exact ⟨0, by omega, rfl, fun i _ h => absurd h (by omega), Below.refl _ _⟩
  case round =>
    obtain ⟨j, hj, rfl, hall, hbel⟩ := hrel
    have HA := Lib.hid hall
    have HB := Lib.hid hbel
    have hs1 : w.heap.size + 1 ≤ wr.heap.size := by simpa using hbel.size
    have hs2 : w.heap.size < wr.heap.size := by omega
    have k0 : wr.cell? ⟨w.heap.size, 0, none⟩ = some (.slice (some ⟨b, off, none⟩) l.length c) := by rw [hbel.cell (by simp)]; simp
    have k1 : wr.cell? ⟨w.heap.size, 1, none⟩ = some (.slice ea en ec) := by rw [hbel.cell (by simp)]; simp
    have k2 : wr.cell? ⟨w.heap.size, 2, none⟩ = some (.int .i64 m) := by rw [hbel.cell (by simp)]; simp
    have k3 : wr.cell? ⟨w.heap.size, 3, none⟩ = some (.slice da dn dc) := by rw [hbel.cell (by simp)]; simp
    have hcl : ∀ p : Addr, p.block < w.heap.size → wr.cell? p = w.cell? p := fun p hp => by
      rw [hbel.cell (by omega)]; exact World.cell?_alloc_lt _ _ _ hp
    clear hall hbel
    by_cases hlt : j < l.length
    · obtain ⟨d0, d1, d2, d3, d4⟩ := HC.out j hlt
      rw [← hcl ⟨b, off + j * 5, none⟩ hb] at d0
      rw [← hcl ⟨b, off + j * 5 + 1, none⟩ hb] at d1
      rw [← hcl ⟨b, off + j * 5 + 2, none⟩ hb] at d2
      rw [← hcl ⟨b, off + j * 5 + 3, none⟩ hb] at d3
      rw [← hcl ⟨b, off + j * 5 + 4, none⟩ hb] at d4
      clear hcl
      obtain ⟨x, hx⟩ : ∃ x, l[j] = x := ⟨_, rfl⟩
      have HX := Lib.hid hx
      rw [hx] at d0 d1 d2 d3 d4
      clear hx
      have HW := Lib.hid (fun w => word_any (some ⟨b, off, none⟩) l.length c ea en ec m da dn dc x s w)
      go_wp2_with fail
      refine (HW.out _).mono ?_
      rintro e w3 ⟨rfl, hb3⟩
      have hz3 : w.heap.size + 1 + 1 ≤ w3.heap.size := by have := hb3.size; simp at this; omega
      have HB3 : Hid (Below (w.heap.size + 1) (w.alloc (.cells #[.slice (some ⟨b, off, none⟩) l.length c, .slice ea en ec, .int .i64 m, .slice da dn dc] 26)) w3) :=
        (HB.out.alloc hs1 _).trans (hb3.mono (by simp; omega))
      clear hb3
      obtain ⟨er, her⟩ : ∃ er, wordE l.length en s x = er := ⟨_, rfl⟩
      have HER := Lib.hid her
      rw [her]
      clear her HW
      by_cases h0 : er = 0
      · subst h0
        go_wp2_with fail
        refine ⟨⟨j + 1, by omega, by go_num, fun i hi hij => ?_, HB3.out⟩, by simp [intOf]; omega⟩
        by_cases hij2 : i < j
        · exact HA.out i hi hij2
        · obtain rfl : i = j := by omega
          rw [HX.out]; exact HER.out
      · go_wp2_with fail
        go_ret2
        exact ⟨⟨j, er, .inl ⟨j, hlt, by rw [HX.out, HER.out]; exact h0, HA.out, rfl, by rw [HX.out]; exact HER.out.symm⟩, rfl⟩, ((Below.refl _ _).alloc (Nat.le_refl _) _).trans (HB3.out.mono (by omega))⟩
    · obtain rfl : j = l.length := by omega
      obtain ⟨n, hn1⟩ : ∃ n, n + 1 = l.length := ⟨l.length - 1, by omega⟩
      have hlt2 : n < l.length := by omega
      obtain ⟨d0, -, -, -, -⟩ := HC.out n hlt2
      rw [← hcl ⟨b, off + n * 5, none⟩ hb] at d0
      obtain ⟨op, hop⟩ : ∃ op, l[n].op = op := ⟨_, rfl⟩
      rw [hop] at d0
      have HOP := Lib.hid hop
      clear hop hcl
      have hL1 : (l.length : Int) - 1 = (n : Int) := by omega
      have HN1 := Lib.hid hn1
      clear hn1
      go_wp2_with fail
      all_goals go_ret2
      all_goals refine ⟨⟨_, _, wordsIs_end HN1.out HA.out HOP.out ?_, rfl⟩, ((Below.refl _ _).alloc (Nat.le_refl _) _).trans (HB.out.mono (by omega))⟩
      all_goals simp_all
end Go.Proofs.YtnanlkoldloolaaDoor
