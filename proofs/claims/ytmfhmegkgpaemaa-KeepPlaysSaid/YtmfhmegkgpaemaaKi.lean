/- Keep: Bytes, Drop. -/
import Derived.Test.YtmfhmegkgpaemaaKh
namespace Go.Proofs.Ytmfhmegkgpaemaa
open Go.RowKit

def sumB (S : List (Int × List Int)) : Nat := (S.map fun m => m.2.length).sum
theorem sumB_take {S : List (Int × List Int)} {j : Nat} (hj : j < S.length) : sumB (S.take (j + 1)) = sumB (S.take j) + S[j].2.length := by
  unfold sumB
  rw [List.take_succ_eq_append_getElem hj, List.map_append, List.sum_append]; simp

set_option maxHeartbeats 4000000 in
theorem bytes_any (w : World) (base Bs : Nat) (most : Int) (v : Value) (l : List Mo) (S : List (Int × List Int)) (h : StAt w base Bs most v l S) (hl : l.length ≤ 1000) (hb : ∀ m ∈ S, m.2.length ≤ 1000000) :
    Calls Try.prog 11 #[.pointer (some ⟨Bs, 0, none⟩)] w fun e w' => e = .returned (.int .i64 (sumB S : Nat)) ∧ Below w.heap.size w w' := by
  have c1 : w.cell? ⟨Bs, 0, none⟩ = some (.int .i64 most) := by simp [World.cell?, h.at_]
  have c2 : w.cell? ⟨Bs, 1, none⟩ = some v := by simp [World.cell?, h.at_]
  have hlt : Bs < w.heap.size := (Array.getElem?_eq_some_iff.1 h.at_).1
  have HV : Hid (RdO w v l) := Rd.of_own h.row
  have HP := Lib.hid (And.intro h.len h.ps)
  have hSl : S.length ≤ 1000 := by rw [← h.len]; exact hl
  have HT : Hid (∀ j, j ≤ S.length → sumB (S.take j) ≤ j * 1000000) := fun j => by
    induction j with
    | zero => intro _; simp [sumB]
    | succ j ih =>
      intro hj
      rw [sumB_take (by omega)]
      have := hb _ (List.getElem_mem (show j < S.length by omega))
      have := ih (by omega)
      omega
  obtain ⟨va, vc, rfl⟩ := (Rd.of_own h.row).shape
  clear h hb
  go_enter Try.func11, Try.ntmps11
  go_wp2_with fail
  go_loopw [13, 3] (fun i out wr => ∃ j : Nat, j ≤ l.length ∧ i = .int .i64 j ∧ out = .int .i64 (sumB (S.take j) : Nat) ∧ Hid (Below w.heap.size w wr)) (fun i _ _ => l.length - (intOf i).toNat)
  case atStart => exact ⟨0, by omega, rfl, rfl, Below.refl _ _⟩
  case round =>
    obtain ⟨wa, rfl⟩ : ∃ wa : World, wa = wr := ⟨_, rfl⟩
    obtain ⟨j, hj, rfl, rfl, HB⟩ := hrel
    have hsz := HB.out.size
    by_cases hlt : j < l.length
    · rcases HV.out.split with ⟨a, c, h0, h1⟩ | ⟨b, off, c, h0, hp, hlc, hc9, hb, hcell⟩
      · subst h1; simp at hlt
      · simp only [Value.slice.injEq] at h0
        obtain ⟨rfl, _, rfl⟩ := h0
        obtain ⟨d1, d2⟩ := hcell j hlt
        rw [← HB.out.cell (p := ⟨b, off + j * 2, none⟩) hb] at d1
        rw [← HB.out.cell (p := ⟨b, off + j * 2 + 1, none⟩) hb] at d2
        have hbr : b < wa.heap.size := Nat.lt_of_lt_of_le hb hsz
        have hSj : j < S.length := by rw [← HP.out.1]; exact hlt
        obtain ⟨pa, pc, hpp⟩ := (Rd.of_own (HP.out.2 j hlt hSj)).shape
        rw [hpp] at d2
        obtain ⟨x, hx⟩ : ∃ x, l[j].1 = x := ⟨_, rfl⟩
        rw [hx] at d1
        have HNX := Lib.hid (sumB_take hSj)
        have ht1 := HT.out j (by omega)
        have ht2 := HT.out (j + 1) (by omega)
        rw [HNX.out] at ht2
        obtain ⟨s, hs⟩ : ∃ s, sumB (S.take j) = s := ⟨_, rfl⟩
        obtain ⟨q, hq⟩ : ∃ q, S[j].2.length = q := ⟨_, rfl⟩
        rw [hs] at HNX ht1 ht2 ⊢
        rw [hq] at HNX ht2 d2
        have hq9 : s + q ≤ 1000000000 := by
          have : (j + 1) * 1000000 ≤ 1000 * 1000000 := Nat.mul_le_mul_right _ (by omega)
          omega
        clear hx hpp hcell hs hq ht1 ht2
        go_wp2_with fail
        exact ⟨⟨j + 1, by omega, by go_num, by rw [HNX.out]; go_num, HB.out.alloc hsz _⟩, by simp [intOf]; omega⟩
    · obtain rfl : j = l.length := by omega
      have HE : Hid (S.take l.length = S) := by rw [HP.out.1]; exact List.take_length
      rw [HE.out]
      go_wp2_with fail
      go_ret
      exact ⟨rfl, HB.out⟩

/-- What a call on the store leaves: all blocks but the store's own. -/
def KeepS (w w' : World) : Prop := ∀ (k : Nat) (o : Obj), w.heap[k]? = some o → (∀ c f, o ≠ .cells c 56 f) → (∀ c f, o ≠ .cells c 51 f) → w'.heap[k]? = some o
theorem KeepS.of_below {w w' : World} (h : Below w.heap.size w w') : KeepS w w' := fun k o hk _ _ => by rw [h.block k (Array.getElem?_eq_some_iff.1 hk).1]; exact hk
theorem KeepS.trans {w w' w'' : World} (h1 : KeepS w w') (h2 : KeepS w' w'') : KeepS w w'' := fun k o hk ha hb => h2 k o (h1 k o hk ha hb) ha hb
end Go.Proofs.Ytmfhmegkgpaemaa
