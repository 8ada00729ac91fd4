/- Moves: the reference's check of a list. -/
import Derived.Test.YtmdmfciicoldoaaMa
namespace Go.Proofs.Ytmdmfciicoldoaa
open Go.RowKit

/-- The move at a place is right among those ahead of it. -/
def GoodAt (l : List M) (spare : Int) (spared : Bool) (i : Nat) : Prop :=
  ∀ (h : i < l.length), (spared && ((l[i].1 == spare) || (l[i].2 == spare))) = false ∧ ∀ k, (hk : k < i) → l[k].1 ≠ l[i].1
def GoodAll (l : List M) (spare : Int) (spared : Bool) : Prop := ∀ i, i < l.length → GoodAt l spare spared i
open Classical in
noncomputable def chkL (l : List M) (spare : Int) (spared : Bool) : Int := if GoodAll l spare spared then 0 else 3

theorem chkL_no {l : List M} {spare : Int} {spared : Bool} {i : Nat} (h : i < l.length) (hb : ¬ GoodAt l spare spared i) : chkL l spare spared = 3 := by
  unfold chkL; rw [if_neg]; intro hg; exact hb (hg i h)
theorem chkL_yes {l : List M} {spare : Int} {spared : Bool} (h : ∀ i, i < l.length → GoodAt l spare spared i) : chkL l spare spared = 0 := by
  unfold chkL; rw [if_pos (show GoodAll l spare spared from h)]

set_option maxHeartbeats 4000000 in
theorem check_any (v : Value) (l : List M) (spare : Int) (spared : Bool) (w : World) (hv : RdM w v l) :
    Calls Try.prog 11 #[v, .int .i64 spare, .bool spared] w fun e w' => e = .returned (.int .i64 (chkL l spare spared)) ∧ Below w.heap.size w w' := by
  rcases hv.split with ⟨a, c, rfl, rfl⟩ | ⟨b, off, c, rfl, hp, hlc, hc9, hb, hcell⟩
  · have HR : Hid (chkL [] spare spared = 0) := chkL_yes (fun i h => by simp at h)
    go_enter Try.func11, Try.ntmps11
    go_wp2_with fail
    refine wp_loop_rounds 1 ?_
    rw [rounds_succ]
    go_wp2_with fail
    go_ret
    exact ⟨by rw [HR.out]; rfl, Below.refl _ _⟩
  · have HC := Lib.hid hcell
    have hl9 : l.length ≤ 9223372036854775807 := by omega
    clear hcell hv
    go_enter Try.func11, Try.ntmps11
    go_wp2_with fail
    go_loopw [13] (fun i wr => ∃ j : Nat, j ≤ l.length ∧ i = .int .i64 j ∧ (∀ k, k < j → GoodAt l spare spared k) ∧ Below w.heap.size w wr) (fun i _ => l.length - (intOf i).toNat)
    case atStart => exact ⟨0, by omega, rfl, fun k hk => by omega, Below.refl _ _⟩
    case round =>
      obtain ⟨wo, rfl⟩ : ∃ wo : World, wo = wr := ⟨_, rfl⟩
      obtain ⟨j, hj, rfl, hgood, hbel⟩ := hrel
      have hbr : b < wo.heap.size := Nat.lt_of_lt_of_le hb hbel.size
      by_cases hlt : j < l.length
      · obtain ⟨d1, d2⟩ := HC.out j hlt
        rw [← hbel.cell (p := ⟨b, off + j * 2, none⟩) hb] at d1
        rw [← hbel.cell (p := ⟨b, off + j * 2 + 1, none⟩) hb] at d2
        have hwr : w.heap.size ≤ wo.heap.size := hbel.size
        have HG := Lib.hid hgood
        have HB := Lib.hid hbel
        clear hgood hbel
        obtain ⟨x, hx⟩ : ∃ x, l[j].1 = x := ⟨_, rfl⟩
        obtain ⟨y, hy⟩ : ∃ y, l[j].2 = y := ⟨_, rfl⟩
        rw [hx] at d1
        rw [hy] at d2
        have HX := Lib.hid (And.intro hx hy)
        clear hx hy
        by_cases hbad : (spared && ((x == spare) || (y == spare))) = true
        · have HR : Hid (chkL l spare spared = 3) := chkL_no hlt (fun hg => by
            have := (hg hlt).1; rw [HX.out.1, HX.out.2, hbad] at this; cases this)
          simp only [Bool.and_eq_true, Bool.or_eq_true] at hbad
          obtain ⟨rfl, hbad⟩ := hbad
          by_cases e1 : x = spare
          · have b1 : (x == spare) = true := by simp [e1]
            clear e1 hbad
            go_wp2_with fail
            go_ret
            exact ⟨by rw [HR.out]; rfl, HB.out.alloc HB.out.size _⟩
          · have b1 : (x == spare) = false := by simp [e1]
            have b2 : (y == spare) = true := by rcases hbad with h | h; · simp at h; exact absurd h e1
                                                · exact h
            clear e1 hbad
            go_wp2_with fail
            go_ret
            exact ⟨by rw [HR.out]; rfl, HB.out.alloc HB.out.size _⟩
        · have hb0 : (spared && ((x == spare) || (y == spare))) = false := by simpa using hbad
          have HB0 : Hid ((spared && ((x == spare) || (y == spare))) = false) := hb0
          have hcases : spared = false ∨ (spared = true ∧ (x == spare) = false ∧ (y == spare) = false) := by
            cases spared
            · exact .inl rfl
            · simp at hb0; right; simp; exact hb0
          have HDup : Hid (∀ m, (hm : m < j) → (hm2 : m < l.length) → l[m].1 = x → chkL l spare spared = 3) := fun m hm hm2 he => chkL_no hlt (fun hg => (hg hlt).2 m hm (by rw [HX.out.1]; exact he))
          have HNext : Hid ((∀ k, (hk : k < j) → (hk2 : k < l.length) → l[k].1 ≠ x) → ∀ k, k < j + 1 → GoodAt l spare spared k) := by
            intro hno k hk
            by_cases hkm : k < j
            · exact HG.out k hkm
            · obtain rfl : k = j := by omega
              intro hkl
              refine ⟨by rw [HX.out.1, HX.out.2]; exact HB0.out, fun k' hk' => ?_⟩
              rw [HX.out.1]; exact hno k' hk' (by omega)
          clear hbad hb0
          have hjc : (j : Int) ≤ (c : Int) := by omega
          rcases hcases with rfl | ⟨rfl, b1, b2⟩
          all_goals
            go_wp2_with fail
            go_loopw [35] (fun i wr => ∃ m : Nat, m ≤ j ∧ i = .int .i64 m ∧ (∀ k, (hk : k < m) → (hk2 : k < l.length) → l[k].1 ≠ x) ∧ Below (wo.heap.size + 1) (wo.alloc (.cells #[.int .i64 x, .int .i64 y] 31)) wr) (fun i _ => j - (intOf i).toNat)
            case atStart => exact ⟨0, by omega, rfl, fun k hk => by omega, Below.refl _ _⟩
            case round =>
              obtain ⟨m, hm, rfl, hno, hbi⟩ := hrel
              have hbi' : b < wr.heap.size := by have := hbi.size; simp at this; omega
              have hwi : wo.heap.size < wr.heap.size := by have := hbi.size; simp at this; omega
              have g1 : wr.cell? ⟨wo.heap.size, 0, none⟩ = some (.int .i64 x) := by
                rw [hbi.cell (p := ⟨wo.heap.size, 0, none⟩) (by simp), World.cell?_alloc_at _ _ _ _ rfl]; rfl
              have HBI := Lib.hid hbi
              have HNO := Lib.hid hno
              have hBW : Below w.heap.size w wr := (HB.out.alloc HB.out.size _).trans (hbi.mono (by omega))
              have HBW := Lib.hid hBW
              clear hbi hno hBW
              by_cases hmj : m < j
              · obtain ⟨p1, p2⟩ := HC.out m (by omega)
                rw [← HBW.out.cell (p := ⟨b, off + m * 2, none⟩) hb] at p1
                rw [← HBW.out.cell (p := ⟨b, off + m * 2 + 1, none⟩) hb] at p2
                have hml : m < l.length := by omega
                obtain ⟨z, hz⟩ : ∃ z, l[m].1 = z := ⟨_, rfl⟩
                rw [hz] at p1
                have HZ := Lib.hid hz
                clear hz
                by_cases hzx : z = x
                · have HR := Lib.hid (HDup.out m hmj hml (by rw [HZ.out]; exact hzx))
                  have b3 : (z == x) = true := by simp [hzx]
                  clear hzx
                  go_wp2_with fail
                  go_ret
                  exact ⟨by rw [HR.out]; rfl, HBW.out.alloc HBW.out.size _⟩
                · have HN2 : Hid (∀ k, (hk : k < m + 1) → (hk2 : k < l.length) → l[k].1 ≠ x) := by
                    intro k hk hk2
                    by_cases hkm : k < m
                    · exact HNO.out k hkm hk2
                    · obtain rfl : k = m := by omega
                      rw [HZ.out]; exact hzx
                  have b3 : (z == x) = false := by simp [hzx]
                  clear hzx
                  go_wp2_with fail
                  exact ⟨⟨m + 1, by omega, by go_num, HN2.out, HBI.out.alloc (by omega) _⟩, by simp [intOf]; omega⟩
              · obtain rfl : m = j := by omega
                have HGJ := Lib.hid (HNext.out HNO.out)
                go_wp2_with fail
                exact ⟨⟨m + 1, by omega, by go_num, HGJ.out, HBW.out⟩, by simp [intOf]; omega⟩
      · obtain rfl : j = l.length := by omega
        have HR : Hid (chkL l spare spared = 0) := chkL_yes hgood
        have HB := Lib.hid hbel
        clear hgood hbel
        go_wp2_with fail
        go_ret
        exact ⟨by rw [HR.out]; rfl, HB.out⟩
end Go.Proofs.Ytmdmfciicoldoaa
