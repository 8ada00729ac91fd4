/- Keep: lists of moments in memory; the search in them. -/
import Derived.Test.YtmfhmegkgpaemaaU
import Derived.Test.YtmfhmegkgpaemaaProg
import Derived.Maps.OwnSet
import Derived.Deep.LoopGhost
import Derived.BigQuiet
namespace Go.Proofs.Ytmfhmegkgpaemaa
open Go.RowKit

/-- A moment: where, and its bytes' slice. -/
abbrev Mo := Int × Value
def SlV (v : Value) : Prop := ∃ a n c, v = .slice a n c

def cellsO : List Mo → List Value
  | [] => []
  | m :: r => .int .i64 m.1 :: m.2 :: cellsO r

theorem cellsO_length : ∀ l, (cellsO l).length = l.length * 2
  | [] => rfl
  | m :: r => by simp [cellsO, cellsO_length r]; omega
theorem cellsO_append : ∀ l r, cellsO (l ++ r) = cellsO l ++ cellsO r
  | [], r => rfl
  | m :: l, r => by simp [cellsO, cellsO_append l r]
theorem cellsO_at : ∀ (l : List Mo) (j : Nat) (h : j < l.length), (cellsO l)[j * 2]? = some (.int .i64 l[j].1) ∧ (cellsO l)[j * 2 + 1]? = some l[j].2
  | m :: r, 0, _ => by simp [cellsO]
  | m :: r, j + 1, h => by
    have ih := cellsO_at r j (by simpa using h)
    have e : (j + 1) * 2 = j * 2 + 1 + 1 := by omega
    rw [e]
    simpa [cellsO] using ih
theorem cellsO_one : ∀ (l : List Mo), (∀ m ∈ l, SlV m.2) → ∀ u ∈ cellsO l, u.oneCell' = true
  | [], _, u, h => by simp [cellsO] at h
  | m :: r, hs, u, h => by
    simp [cellsO] at h
    rcases h with rfl | rfl | h
    · rfl
    · obtain ⟨a, n, c, e⟩ := hs m (by simp)
      rw [e]; rfl
    · exact cellsO_one r (fun m hm => hs m (by simp [hm])) u h
theorem cellsO_take : ∀ (l : List Mo) (k : Nat), (cellsO l).take (k * 2) = cellsO (l.take k)
  | [], k => by simp [cellsO]
  | m :: r, 0 => by simp [cellsO]
  | m :: r, k + 1 => by
    have e : (k + 1) * 2 = k * 2 + 1 + 1 := by omega
    rw [e]
    simp [cellsO, cellsO_take r k]
theorem cellsO_drop : ∀ (l : List Mo) (k : Nat), (cellsO l).drop (k * 2) = cellsO (l.drop k)
  | [], k => by simp [cellsO]
  | m :: r, 0 => by simp [cellsO]
  | m :: r, k + 1 => by
    have e : (k + 1) * 2 = k * 2 + 1 + 1 := by omega
    rw [e]
    simp [cellsO, cellsO_drop r k]

def RdO (w : World) (v : Value) (l : List Mo) : Prop := Rd w 2 v l.length (cellsO l)

theorem RdO.split {w : World} {v : Value} {l : List Mo} (h : RdO w v l) :
    (∃ a c, v = .slice a 0 c ∧ l = []) ∨ ∃ b off c, v = .slice (some ⟨b, off, none⟩) l.length c ∧ 0 < l.length ∧ l.length ≤ c ∧ c ≤ 9223372036854775807 ∧ b < w.heap.size ∧
      ∀ j, (hj : j < l.length) → w.cell? ⟨b, off + j * 2, none⟩ = some (.int .i64 l[j].1) ∧ w.cell? ⟨b, off + j * 2 + 1, none⟩ = some l[j].2 := by
  rcases Rd.split h (by omega) with ⟨a, c, rfl, h0, _⟩ | ⟨b, off, c, rfl, h1, h2, h3, h4, h5⟩
  · exact .inl ⟨a, c, rfl, List.eq_nil_of_length_eq_zero h0⟩
  · refine .inr ⟨b, off, c, rfl, h1, h2, h3, h4, fun j hj => ?_⟩
    obtain ⟨e1, e2⟩ := cellsO_at l j hj
    have hl := cellsO_length l
    obtain ⟨i1, e1⟩ := List.getElem?_eq_some_iff.1 e1
    obtain ⟨i2, e2⟩ := List.getElem?_eq_some_iff.1 e2
    refine ⟨?_, ?_⟩
    · rw [h5 _ i1, e1]
    · rw [Nat.add_assoc, h5 _ i2, e2]

/-! ### the search -/
theorem isNaN_any (x : Int) (w : World) : Calls Try.prog 29 #[.int .i64 x] w fun e w' => e = .returned (.bool false) ∧ w' = w := by
  go_enter Try.func29, Try.ntmps29
  go_wp2_with fail
  go_ret
  exact ⟨rfl, rfl⟩
def cmpI (x y : Int) : Int := if x < y then -1 else if y < x then 1 else 0
set_option maxHeartbeats 2000000 in
theorem compare_any (x y : Int) (w : World) : Calls Try.prog 25 #[.int .i64 x, .int .i64 y] w fun e w' => e = .returned (.int .i64 (cmpI x y)) ∧ w' = w := by
  obtain ⟨r, hr⟩ : ∃ r, cmpI x y = r := ⟨_, rfl⟩
  have HR := Lib.hid hr
  rw [hr]
  clear hr
  go_enter Try.func25, Try.ntmps25
  go_wp2_with fail
  refine (isNaN_any _ _).mono ?_
  rintro e w1 ⟨rfl, rfl⟩
  go_wp2_with fail
  refine (isNaN_any _ _).mono ?_
  rintro e w1 ⟨rfl, rfl⟩
  by_cases h1 : x < y
  · have hr : r = -1 := by rw [← HR.out]; unfold cmpI; rw [if_pos h1]
    subst hr
    go_wp2_with fail
    go_ret
    exact ⟨rfl, rfl⟩
  · by_cases h2 : y < x
    · have hr : r = 1 := by rw [← HR.out]; unfold cmpI; rw [if_neg h1, if_pos h2]
      subst hr
      have b1 : decide (x < y) = false := decide_eq_false h1
      clear h1
      go_wp2_with fail
      go_ret
      exact ⟨rfl, rfl⟩
    · have hr : r = 0 := by rw [← HR.out]; unfold cmpI; rw [if_neg h1, if_neg h2]
      subst hr
      have b1 : decide (x < y) = false := decide_eq_false h1
      have b2 : decide (y < x) = false := decide_eq_false h2
      clear h1 h2
      go_wp2_with fail
      go_ret
      exact ⟨rfl, rfl⟩
theorem closure_any (x y : Int) (a : Option Addr) (n c : Nat) (w : World) : Calls Try.prog 24 #[.agg #[.int .i64 x, .slice a n c], .int .i64 y] w fun e w' => e = .returned (.int .i64 (cmpI x y)) ∧ Below w.heap.size w w' := by
  go_enter Try.func24, Try.ntmps24
  go_wp2_with fail
  refine (compare_any _ _ _).mono ?_
  rintro e w1 ⟨rfl, rfl⟩
  go_wp2_with fail
  go_ret
  exact ⟨rfl, (Below.refl _ _).alloc (Nat.le_refl _) _⟩

/-- Where a place is, or would be. -/
structure FindAt (l : List Mo) (x : Int) (i : Nat) : Prop where
  le : i ≤ l.length
  lo : ∀ k, (hk : k < l.length) → k < i → l[k].1 < x
  hi : ∀ k, (hk : k < l.length) → i ≤ k → x ≤ l[k].1
def Rising (l : List Mo) : Prop := ∀ i j, (hi : i < l.length) → (hj : j < l.length) → i < j → l[i].1 < l[j].1
def hasAt (l : List Mo) (i : Nat) (x : Int) : Bool := match l[i]? with
  | some m => m.1 == x
  | none => false

set_option maxHeartbeats 4000000 in
theorem search_any (v : Value) (l : List Mo) (x : Int) (w : World) (hv : RdO w v l) (hS : ∀ m ∈ l, SlV m.2) (hR : Rising l) (hl : l.length ≤ 1000) :
    Calls Try.prog 23 #[v, .int .i64 x, .func (.func 24) #[] #[]] w fun e w' => ∃ i : Nat, e = .returned (.tuple #[.int .i64 i, .bool (hasAt l i x)]) ∧ FindAt l x i ∧ Below w.heap.size w w' := by
  have HV := Lib.hid hv
  have HS := Lib.hid hS
  have HR := Lib.hid hR
  obtain ⟨va, vc, rfl⟩ := Rd.shape hv
  clear hv hS hR
  go_enter Try.func23, Try.ntmps23
  go_wp2_with fail
  go_loopw [9, 10] (fun s9 s10 wr => ∃ i j : Nat, i ≤ j ∧ j ≤ l.length ∧ s9 = .int .i64 i ∧ s10 = .int .i64 j ∧ Hid (∀ k, (hk : k < l.length) → k < i → l[k].1 < x) ∧ Hid (∀ k, (hk : k < l.length) → j ≤ k → x ≤ l[k].1) ∧ Hid (Below w.heap.size w wr)) (fun s9 s10 _ => (intOf s10).toNat - (intOf s9).toNat)
  case atStart => exact ⟨0, l.length, by omega, by omega, rfl, rfl, fun k _ h => by omega, fun k hk h => by omega, Below.refl _ _⟩
  case round =>
    obtain ⟨wa, rfl⟩ : ∃ wa : World, wa = wr := ⟨_, rfl⟩
    obtain ⟨i, j, hij, hj, rfl, rfl, HLo, HHi, HB⟩ := hrel
    by_cases hlt : i < j
    · obtain ⟨h, hh⟩ : ∃ h : Nat, h = (i + j) / 2 := ⟨_, rfl⟩
      have hih : i ≤ h := by omega
      have hhj : h < j := by omega
      rcases HV.out.split with ⟨a, c, h0, h1⟩ | ⟨b, off, c, h0, hp, hlc, hc9, hb, hcell⟩
      · subst h1; simp at hj; omega
      · simp only [Value.slice.injEq] at h0
        obtain ⟨rfl, -, rfl⟩ := h0
        have hhl : h < l.length := by omega
        obtain ⟨d1, d2⟩ := hcell h hhl
        rw [← HB.out.cell (p := ⟨b, off + h * 2, none⟩) hb] at d1
        rw [← HB.out.cell (p := ⟨b, off + h * 2 + 1, none⟩) hb] at d2
        have hbr : b < wa.heap.size := Nat.lt_of_lt_of_le hb HB.out.size
        obtain ⟨pa, pn, pc, hpp⟩ := HS.out _ (List.getElem_mem hhl)
        rw [hpp] at d2
        obtain ⟨y, hy⟩ : ∃ y, l[h].1 = y := ⟨_, rfl⟩
        rw [hy] at d1
        have HY := Lib.hid hy
        clear hy hpp hcell
        subst hh
        go_wp2_with fail
        refine (closure_any _ _ _ _ _ _).mono ?_
        rintro e w2 ⟨rfl, hb2⟩
        have HB2 := Lib.hid (HB.out.trans (hb2.mono HB.out.size))
        clear hb2 d1 d2
        by_cases hyx : y < x
        · have hc : cmpI y x = -1 := by unfold cmpI; rw [if_pos hyx]
          rw [hc]
          clear hc
          go_wp2_with fail
          exact ⟨⟨(i + j) / 2 + 1, j, by omega, hj, by go_num, rfl, fun k hk hkh => by
            by_cases e : k < (i + j) / 2
            · have h1 := HR.out k _ hk hhl e
              rw [HY.out] at h1
              omega
            · obtain rfl : k = (i + j) / 2 := by omega
              rw [HY.out]; exact hyx, HHi, HB2⟩, by simp [intOf]; omega⟩
        · have hc : decide (cmpI y x < 0) = false := by
            refine decide_eq_false ?_
            unfold cmpI
            rw [if_neg hyx]
            split <;> omega
          go_wp2_with fail
          exact ⟨⟨i, (i + j) / 2, by omega, by omega, rfl, by go_num, HLo, fun k hk hkh => by
            by_cases e : (i + j) / 2 < k
            · have h1 := HR.out _ k hhl hk e
              rw [HY.out] at h1
              omega
            · obtain rfl : k = (i + j) / 2 := by omega
              rw [HY.out]; omega, HB2⟩, by simp [intOf]; omega⟩
    · obtain rfl : i = j := by omega
      have HF : Hid (FindAt l x i) := ⟨hj, HLo.out, HHi.out⟩
      by_cases hil : i < l.length
      · rcases HV.out.split with ⟨a, c, h0, h1⟩ | ⟨b, off, c, h0, hp, hlc, hc9, hb, hcell⟩
        · subst h1; simp at hil
        · simp only [Value.slice.injEq] at h0
          obtain ⟨rfl, -, rfl⟩ := h0
          obtain ⟨d1, d2⟩ := hcell i hil
          rw [← HB.out.cell (p := ⟨b, off + i * 2, none⟩) hb] at d1
          rw [← HB.out.cell (p := ⟨b, off + i * 2 + 1, none⟩) hb] at d2
          have hbr : b < wa.heap.size := Nat.lt_of_lt_of_le hb HB.out.size
          obtain ⟨pa, pn, pc, hpp⟩ := HS.out _ (List.getElem_mem hil)
          rw [hpp] at d2
          obtain ⟨y, hy⟩ : ∃ y, l[i].1 = y := ⟨_, rfl⟩
          rw [hy] at d1
          have HH : Hid (hasAt l i x = (cmpI y x == 0)) := by
            show _ = _
            unfold hasAt cmpI
            rw [List.getElem?_eq_getElem hil]
            simp only [hy]
            by_cases e1 : y < x
            · rw [if_pos e1]; simp; omega
            · rw [if_neg e1]
              by_cases e2 : x < y
              · rw [if_pos e2]; simp; omega
              · rw [if_neg e2]; simp; omega
          clear hy hpp hcell
          go_wp2_with fail
          refine (closure_any _ _ _ _ _ _).mono ?_
          rintro e w2 ⟨rfl, hb2⟩
          have HB2 := Lib.hid (HB.out.trans (hb2.mono HB.out.size))
          clear hb2 d1 d2
          go_wp2_with fail
          go_ret2
          exact ⟨i, by rw [HH.out]; rfl, HF.out, HB2.out⟩
      · obtain rfl : i = l.length := by omega
        have HH : Hid (hasAt l l.length x = false) := by
          show _ = _
          unfold hasAt
          rw [List.getElem?_eq_none (Nat.le_refl _)]
        go_wp2_with fail
        go_ret2
        exact ⟨l.length, by rw [HH.out]; rfl, HF.out, HB.out⟩
end Go.Proofs.Ytmfhmegkgpaemaa
