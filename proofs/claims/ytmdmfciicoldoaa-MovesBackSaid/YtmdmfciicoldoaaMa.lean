/- Moves: lists of moves in memory; whence a place gets something. -/
import Derived.Test.YtmdmfciicoldoaaU
import Derived.Test.YtmdmfciicoldoaaProg
import Derived.Maps.OwnSet
import Derived.Deep.LoopGhost
namespace Go.Proofs.Ytmdmfciicoldoaa
open Go.RowKit

abbrev M := Int × Int

def cellsM : List M → List Value
  | [] => []
  | m :: r => .int .i64 m.1 :: .int .i64 m.2 :: cellsM r

theorem cellsM_length : ∀ l, (cellsM l).length = l.length * 2
  | [] => rfl
  | m :: r => by simp [cellsM, cellsM_length r]; omega
theorem cellsM_append : ∀ l r, cellsM (l ++ r) = cellsM l ++ cellsM r
  | [], r => rfl
  | m :: l, r => by simp [cellsM, cellsM_append l r]
theorem cellsM_at : ∀ (l : List M) (j : Nat) (h : j < l.length), (cellsM l)[j * 2]? = some (.int .i64 l[j].1) ∧ (cellsM l)[j * 2 + 1]? = some (.int .i64 l[j].2)
  | m :: r, 0, _ => by simp [cellsM]
  | m :: r, j + 1, h => by
    have ih := cellsM_at r j (by simpa using h)
    have e : (j + 1) * 2 = j * 2 + 1 + 1 := by omega
    rw [e]
    simpa [cellsM] using ih
theorem cellsM_one : ∀ (l : List M), ∀ u ∈ cellsM l, u.oneCell' = true
  | [], u, h => by simp [cellsM] at h
  | m :: r, u, h => by
    simp [cellsM] at h
    rcases h with rfl | rfl | h
    · rfl
    · rfl
    · exact cellsM_one r u h
theorem cellsM_take : ∀ (l : List M) (k : Nat), (cellsM l).take (k * 2) = cellsM (l.take k)
  | [], k => by simp [cellsM]
  | m :: r, 0 => by simp [cellsM]
  | m :: r, k + 1 => by
    have e : (k + 1) * 2 = k * 2 + 1 + 1 := by omega
    rw [e]
    simp [cellsM, cellsM_take r k]

def RdM (w : World) (v : Value) (l : List M) : Prop := Rd w 2 v l.length (cellsM l)

theorem RdM.split {w : World} {v : Value} {l : List M} (h : RdM w v l) :
    (∃ a c, v = .slice a 0 c ∧ l = []) ∨ ∃ b off c, v = .slice (some ⟨b, off, none⟩) l.length c ∧ 0 < l.length ∧ l.length ≤ c ∧ c ≤ 9223372036854775807 ∧ b < w.heap.size ∧
      ∀ j, (hj : j < l.length) → w.cell? ⟨b, off + j * 2, none⟩ = some (.int .i64 l[j].1) ∧ w.cell? ⟨b, off + j * 2 + 1, none⟩ = some (.int .i64 l[j].2) := by
  rcases Rd.split h (by omega) with ⟨a, c, rfl, h0, _⟩ | ⟨b, off, c, rfl, h1, h2, h3, h4, h5⟩
  · exact .inl ⟨a, c, rfl, List.eq_nil_of_length_eq_zero h0⟩
  · refine .inr ⟨b, off, c, rfl, h1, h2, h3, h4, fun j hj => ?_⟩
    obtain ⟨e1, e2⟩ := cellsM_at l j hj
    have hl := cellsM_length l
    obtain ⟨i1, e1⟩ := List.getElem?_eq_some_iff.1 e1
    obtain ⟨i2, e2⟩ := List.getElem?_eq_some_iff.1 e2
    refine ⟨?_, ?_⟩
    · rw [h5 _ i1, e1]
    · rw [Nat.add_assoc, h5 _ i2, e2]

/-- Whence a place gets something. -/
def srcL (l : List M) (to : Int) : Option Int := (l.find? fun m => m.1 == to && !(m.2 == to)).map (·.2)

theorem srcL_at {l : List M} {to : Int} {j : Nat} (hj : j < l.length) (hno : ∀ k, (hk : k < j) → (hk2 : k < l.length) → (l[k].1 == to && !(l[k].2 == to)) = false) (h1 : l[j].1 = to) (h2 : l[j].2 ≠ to) : srcL l to = some l[j].2 := by
  have : l.find? (fun m => m.1 == to && !(m.2 == to)) = some l[j] := by
    rw [List.find?_eq_some_iff_getElem]
    refine ⟨by simp [h1, h2], j, hj, rfl, fun k hk => ?_⟩
    rw [hno k hk (by omega)]; rfl
  simp [srcL, this]
theorem srcL_none {l : List M} {to : Int} (hno : ∀ k, (hk : k < l.length) → (hk2 : k < l.length) → (l[k].1 == to && !(l[k].2 == to)) = false) : srcL l to = none := by
  have : l.find? (fun m => m.1 == to && !(m.2 == to)) = none := by
    rw [List.find?_eq_none]
    intro m hm
    obtain ⟨k, hk, rfl⟩ := List.getElem_of_mem hm
    rw [hno k hk hk]; simp
  simp [srcL, this]

set_option maxHeartbeats 2000000 in
theorem source_any (v : Value) (l : List M) (to : Int) (w : World) (hv : RdM w v l) :
    Calls Try.prog 18 #[v, .int .i64 to] w fun e w' => e = .returned (.tuple #[.int .i64 ((srcL l to).getD 0), .bool (srcL l to).isSome]) ∧ Below w.heap.size w w' := by
  rcases hv.split with ⟨a, c, rfl, rfl⟩ | ⟨b, off, c, rfl, hp, hlc, hc9, hb, hcell⟩
  · go_enter Try.func18, Try.ntmps18
    go_wp2_with fail
    refine wp_loop_rounds 1 ?_
    rw [rounds_succ]
    go_wp2_with fail
    go_ret2
    exact ⟨rfl, Below.refl _ _⟩
  · have HC := Lib.hid hcell
    have hl9 : l.length ≤ 9223372036854775807 := by omega
    clear hcell hv
    go_enter Try.func18, Try.ntmps18
    go_wp2_with fail
    go_loopw [10] (fun i wr => ∃ j : Nat, j ≤ l.length ∧ i = .int .i64 j ∧ (∀ k, (hk : k < j) → (hk2 : k < l.length) → (l[k].1 == to && !(l[k].2 == to)) = false) ∧ Below w.heap.size w wr) (fun i _ => l.length - (intOf i).toNat)
    case atStart => exact ⟨0, by omega, rfl, fun k hk => by omega, Below.refl _ _⟩
    case round =>
      obtain ⟨j, hj, rfl, hno, hbel⟩ := hrel
      have hbr : b < wr.heap.size := Nat.lt_of_lt_of_le hb hbel.size
      by_cases hlt : j < l.length
      · obtain ⟨d1, d2⟩ := HC.out j hlt
        rw [← hbel.cell (p := ⟨b, off + j * 2, none⟩) hb] at d1
        rw [← hbel.cell (p := ⟨b, off + j * 2 + 1, none⟩) hb] at d2
        have HN := Lib.hid hno
        have HB := Lib.hid hbel
        clear hno hbel
        obtain ⟨x, hx⟩ : ∃ x, l[j].1 = x := ⟨_, rfl⟩
        obtain ⟨y, hy⟩ : ∃ y, l[j].2 = y := ⟨_, rfl⟩
        rw [hx] at d1
        rw [hy] at d2
        have HX := Lib.hid (And.intro hx hy)
        clear hx hy
        by_cases hxy : x = to ∧ ¬ y = to
        · obtain ⟨e1, e2⟩ := hxy
          have hs := srcL_at hlt HN.out (HX.out.1.trans e1) (by rw [HX.out.2]; exact e2)
          rw [HX.out.2] at hs
          have HS := Lib.hid hs
          have b1 : (x == to) = true := by simp [e1]
          have b2 : (y != to) = true := by simp [e2]
          clear e1 e2 hs
          go_wp2_with fail
          go_ret2
          exact ⟨by rw [HS.out]; rfl, HB.out.alloc HB.out.size _⟩
        · have HNX : Hid (∀ k, (hk : k < j + 1) → (hk2 : k < l.length) → (l[k].1 == to && !(l[k].2 == to)) = false) := by
            intro k hk hk2
            by_cases hkj : k < j
            · exact HN.out k hkj hk2
            · obtain rfl : k = j := by omega
              rw [HX.out.1, HX.out.2]
              simp; intro h; by_cases h3 : y = to
              · exact h3
              · exact absurd ⟨h, h3⟩ hxy
          by_cases e1 : x = to
          · have b1 : (x == to) = true := by simp [e1]
            have b2 : (y != to) = false := by
              by_cases h3 : y = to
              · simp [h3]
              · exact absurd ⟨e1, h3⟩ hxy
            clear e1 hxy
            go_wp2_with fail
            exact ⟨⟨j + 1, by omega, by go_num, HNX.out, HB.out.alloc HB.out.size _⟩, by simp [intOf]; omega⟩
          · have b1 : (x == to) = false := by simp [e1]
            clear e1 hxy
            go_wp2_with fail
            exact ⟨⟨j + 1, by omega, by go_num, HNX.out, HB.out.alloc HB.out.size _⟩, by simp [intOf]; omega⟩
      · obtain rfl : j = l.length := by omega
        have hs := srcL_none hno
        have HS := Lib.hid hs
        have HB := Lib.hid hbel
        clear hno hbel hs
        go_wp2_with fail
        go_ret2
        exact ⟨by rw [HS.out]; rfl, HB.out⟩
end Go.Proofs.Ytmdmfciicoldoaa
