/- How many circles there are, as the document counts them: what it computes, and the walk. -/
import Derived.Test.YtmdmfciicoldoaaMb
import Derived.Test.YtmdmfciicoldoaaMc
namespace Go.Proofs.Ytmdmfciicoldoaa
open Go.RowKit Go.Maps

open Classical in
/-- No target at index i or ahead of it, among the first k, is this place. -/
noncomputable def okU (l : List M) (i : Nat) (nx : Int) (k : Nat) : Bool := decide (∀ k', (h : k' < l.length) → k' < k → l[k'].1 ≠ nx ∨ i < k')
theorem okU_zero (l : List M) (i : Nat) (nx : Int) : okU l i nx 0 = true := decide_eq_true (fun k' _ h => by omega)
theorem okU_next {l : List M} {i k : Nat} {nx : Int} (hk : k < l.length) : okU l i nx (k + 1) = (okU l i nx k && (l[k].1 != nx || decide (i < k))) := by
  unfold okU
  by_cases h : ∀ k', (h : k' < l.length) → k' < k → l[k'].1 ≠ nx ∨ i < k'
  · rw [decide_eq_true h, Bool.true_and]
    by_cases h2 : l[k].1 ≠ nx ∨ i < k
    · rw [decide_eq_true]
      · rcases h2 with h2 | h2 <;> simp [h2]
      · intro k' hk' hlt
        by_cases e : k' = k
        · subst e; exact h2
        · exact h k' hk' (by omega)
    · rw [decide_eq_false]
      · have h3 : ¬ l[k].1 ≠ nx := fun h => h2 (.inl h)
        have h4 : ¬ i < k := fun h => h2 (.inr h)
        simp only [Decidable.not_not] at h3
        simp [h3, h4]
      · exact fun h3 => h2 (h3 k hk (by omega))
  · rw [decide_eq_false h, Bool.false_and, decide_eq_false]
    exact fun h3 => h fun k' hk' hlt => h3 k' hk' (by omega)

noncomputable def rInner (f : Int → Option Int) (l : List M) (i : Nat) (x0 : Int) : Nat → Int → Bool → Int × Bool
  | 0, a, least => (a, least)
  | k + 1, a, least => match f a with
    | none => (a, false)
    | some nx => if nx = x0 then (nx, least) else rInner f l i x0 k nx (least && okU l i nx l.length)
theorem rInner_succ (f : Int → Option Int) (l : List M) (i : Nat) (x0 : Int) (k : Nat) (a : Int) (least : Bool) : rInner f l i x0 (k + 1) a least = (match f a with
    | none => (a, false)
    | some nx => if nx = x0 then (nx, least) else rInner f l i x0 k nx (least && okU l i nx l.length)) := rfl
noncomputable def rHit (l : List M) (j : Nat) : Bool := match l[j]? with
  | none => false
  | some m => (rInner (srcL l) l j m.1 l.length m.1 true).2 && ((rInner (srcL l) l j m.1 l.length m.1 true).1 == m.1 && m.1 != m.2)
noncomputable def rState (l : List M) : Nat → Int
  | 0 => 0
  | j + 1 => if rHit l j then rState l j + 1 else rState l j
theorem rState_bd (l : List M) : ∀ j, 0 ≤ rState l j ∧ rState l j ≤ j
  | 0 => by simp [rState]
  | j + 1 => by
    have h := rState_bd l j
    unfold rState
    split <;> omega
noncomputable def refCircF (l : List M) : Int := if chkL l 0 false = 0 then rState l l.length else 0

theorem bel_next {w w1 w2 w3 : World} {o : Obj} (h : Below w.heap.size w w1) (h2 : Below (w1.heap.size + 1) (w1.alloc o) w2) (h3 : Below w2.heap.size w2 w3) : Below (w1.heap.size + 1) (w1.alloc o) w3 := h2.trans (h3.mono (by have := h2.size; simp at this; omega))

set_option maxHeartbeats 8000000 in
theorem refCircles_any (v : Value) (l : List M) (w : World) (hv : RdM w v l) :
    Calls Try.prog 14 #[v] w fun e w' => e = .returned (.int .i64 (refCircF l)) ∧ Below w.heap.size w w' := by
  have HCK := Lib.hid (fun w h => check_any v l 0 false w h)
  have HSR := Lib.hid (fun a w h => source_any v l a w h)
  have HV := Lib.hid hv
  by_cases hck : chkL l 0 false = 0
  · have HF : Hid (refCircF l = rState l l.length) := if_pos hck
    rcases hv.split with ⟨a, c, rfl, rfl⟩ | ⟨b, off, c, rfl, hp, hlc, hc9, hb, hcell⟩
    · clear hv
      go_enter Try.func14, Try.ntmps14
      go_wp2_with fail
      refine (HCK.out _ HV.out).mono ?_
      rw [hck]
      rintro e w1 ⟨rfl, hb1⟩
      have HB1 := Lib.hid hb1
      clear hb1 hck
      go_wp2_with fail
      refine wp_loop_rounds 1 ?_
      rw [rounds_succ]
      go_wp2_with fail
      go_ret
      exact ⟨by rw [HF.out]; rfl, HB1.out⟩
    · have HC := Lib.hid hcell
      have hl9 : l.length ≤ 9223372036854775807 := by omega
      clear hcell hv
      go_enter Try.func14, Try.ntmps14
      go_wp2_with fail
      refine (HCK.out _ HV.out).mono ?_
      rw [hck]
      rintro e w1 ⟨rfl, hb1⟩
      have HB1 := Lib.hid hb1
      clear hb1 hck
      go_wp2_with fail
      go_loopw [17, 3] (fun i s3 wr => ∃ j : Nat, j ≤ l.length ∧ i = .int .i64 j ∧ s3 = .int .i64 (rState l j) ∧ Hid (Below w.heap.size w wr)) (fun i _ _ => l.length - (intOf i).toNat)
      case atStart => exact ⟨0, by omega, rfl, rfl, HB1⟩
      case round =>
        obtain ⟨wo, rfl⟩ : ∃ wo : World, wo = wr := ⟨_, rfl⟩
        obtain ⟨j, hj, rfl, rfl, HB⟩ := hrel
        have hbel := HB.out
        have hbr : b < wo.heap.size := Nat.lt_of_lt_of_le hb hbel.size
        have hnd := rState_bd l j
        by_cases hlt : j < l.length
        · obtain ⟨d1, d2⟩ := HC.out j hlt
          rw [← hbel.cell (p := ⟨b, off + j * 2, none⟩) hb] at d1
          rw [← hbel.cell (p := ⟨b, off + j * 2 + 1, none⟩) hb] at d2
          have hst : rHit l j = ((rInner (srcL l) l j l[j].1 l.length l[j].1 true).2 && ((rInner (srcL l) l j l[j].1 l.length l[j].1 true).1 == l[j].1 && l[j].1 != l[j].2)) := by
            unfold rHit
            rw [List.getElem?_eq_getElem hlt]
          have HST := Lib.hid hst
          have HNX : Hid (rState l (j + 1) = if rHit l j then rState l j + 1 else rState l j) := rfl
          obtain ⟨⟨x, y⟩, hx⟩ : ∃ x, l[j] = x := ⟨_, rfl⟩
          rw [hx] at d1 d2 HST
          simp only at d1 d2 HST
          obtain ⟨n, hn⟩ : ∃ n, rState l j = n := ⟨_, rfl⟩
          rw [hn] at hnd HNX ⊢
          obtain ⟨⟨ra, rl⟩, hres⟩ : ∃ r, rInner (srcL l) l j x l.length x true = r := ⟨_, rfl⟩
          rw [hres] at HST
          simp only at HST
          have HRES := Lib.hid hres
          clear hn hx hst hres
          have hws : w.heap.size ≤ wo.heap.size := hbel.size
          clear hbel
          go_wp2_with fail
          go_loopw [26, 6, 7] (fun i s6 s7 wr => ∃ (t : Nat) (a : Int) (least : Bool), t ≤ l.length ∧ i = .int .i64 t ∧ s6 = .int .i64 a ∧ s7 = .bool least ∧ Hid (rInner (srcL l) l j x (l.length - t) a least = (ra, rl)) ∧ Hid (Below (wo.heap.size + 1) (wo.alloc (.cells #[.int .i64 x, .int .i64 y] 31)) wr)) (fun i _ _ _ => l.length - (intOf i).toNat)
          case atStart => exact ⟨0, x, true, by omega, rfl, rfl, rfl, HRES, Below.refl _ _⟩
          case round =>
            obtain ⟨wm, rfl⟩ : ∃ wm : World, wm = wr := ⟨_, rfl⟩
            obtain ⟨t, a, least, ht, rfl, rfl, rfl, HK, HB2⟩ := hrel
            have hb2 := HB2.out
            have hz2 : wo.heap.size < wm.heap.size := by have := hb2.size; simp at this; omega
            have g1 : wm.cell? ⟨wo.heap.size, 0, none⟩ = some (.int .i64 x) := by
              rw [hb2.cell (p := ⟨wo.heap.size, 0, none⟩) (by simp), World.cell?_alloc_at _ _ _ _ rfl]; rfl
            have g2 : wm.cell? ⟨wo.heap.size, 1, none⟩ = some (.int .i64 y) := by
              rw [hb2.cell (p := ⟨wo.heap.size, 1, none⟩) (by simp), World.cell?_alloc_at _ _ _ _ rfl]; rfl
            have HBW : Hid (Below w.heap.size w wm) := (HB.out.alloc HB.out.size _).trans (hb2.mono (by omega))
            have HVM : Hid (RdM wm _ l) := HV.out.later HBW.out
            clear hb2
            by_cases htl : t < l.length
            · obtain ⟨k, hk⟩ : ∃ k, l.length - t = k + 1 := ⟨l.length - t - 1, by omega⟩
              have hk2 : k = l.length - (t + 1) := by omega
              rw [hk] at HK
              subst hk2
              clear hk
              cases hf : srcL l a with
              | none =>
                have HF2 := Lib.hid hf
                obtain ⟨rfl, rfl⟩ : a = ra ∧ false = rl := by
                  have h := HK.out
                  rw [rInner_succ, HF2.out] at h
                  simpa using h
                clear hf
                go_wp2_with fail
                refine (HSR.out a _ HVM.out).mono ?_
                rw [HF2.out]
                rintro e w3 ⟨rfl, hb3⟩
                have hb4 := bel_next HB.out HB2.out hb3
                have g1 : w3.cell? ⟨wo.heap.size, 0, none⟩ = some (.int .i64 x) := by rw [hb3.cell (p := ⟨wo.heap.size, 0, none⟩) hz2]; exact g1
                have g2 : w3.cell? ⟨wo.heap.size, 1, none⟩ = some (.int .i64 y) := by rw [hb3.cell (p := ⟨wo.heap.size, 1, none⟩) hz2]; exact g2
                have HB5 : Hid (Below w.heap.size w w3) := HBW.out.trans (hb3.mono HBW.out.size)
                clear hb3 hb4
                have HH : Hid (rState l (j + 1) = n) := by
                  show _ = _
                  rw [HNX.out, HST.out, Bool.false_and]; rfl
                go_wp2_with fail
                exact ⟨⟨j + 1, by omega, by go_num, by rw [HH.out], HB5⟩, by simp [intOf]; omega⟩
              | some nx =>
                have HF2 := Lib.hid hf
                clear hf
                by_cases hnx : nx = x
                · obtain ⟨rfl, rfl⟩ : nx = ra ∧ least = rl := by
                    have h := HK.out
                    rw [rInner_succ, HF2.out] at h
                    simp only [if_pos hnx] at h
                    simpa using h
                  have hbx : (nx == x) = true := by simp [hnx]
                  have HNXX := Lib.hid hnx
                  clear hnx
                  go_wp2_with fail
                  refine (HSR.out a _ HVM.out).mono ?_
                  rw [HF2.out]
                  rintro e w3 ⟨rfl, hb3⟩
                  have g1 : w3.cell? ⟨wo.heap.size, 0, none⟩ = some (.int .i64 x) := by rw [hb3.cell (p := ⟨wo.heap.size, 0, none⟩) hz2]; exact g1
                  have g2 : w3.cell? ⟨wo.heap.size, 1, none⟩ = some (.int .i64 y) := by rw [hb3.cell (p := ⟨wo.heap.size, 1, none⟩) hz2]; exact g2
                  have HB5 : Hid (Below w.heap.size w w3) := HBW.out.trans (hb3.mono HBW.out.size)
                  have hgd : ((some nx).getD 0 == x) = true := hbx
                  clear hb3
                  cases least
                  · have HH : Hid (rState l (j + 1) = n) := by
                      show _ = _
                      rw [HNX.out, HST.out, Bool.false_and]; rfl
                    go_wp2_with fail
                    exact ⟨⟨j + 1, by omega, by go_num, by rw [HH.out], HB5⟩, by simp [intOf]; omega⟩
                  · by_cases hax : nx = x
                    · have b1 : (nx == x) = true := by simp [hax]
                      clear hax
                      by_cases hxy : x = y
                      · have b2 : (x != y) = false := by simp [hxy]
                        clear hxy
                        have HH : Hid (rState l (j + 1) = n) := by
                          show _ = _
                          rw [HNX.out, HST.out, b1, b2]; rfl
                        go_wp2_with fail
                        exact ⟨⟨j + 1, by omega, by go_num, by rw [HH.out], HB5⟩, by simp [intOf]; omega⟩
                      · have b2 : (x != y) = true := by simp [hxy]
                        clear hxy
                        have HH : Hid (rState l (j + 1) = n + 1) := by
                          show _ = _
                          rw [HNX.out, HST.out, b1, b2]; rfl
                        go_wp2_with fail
                        exact ⟨⟨j + 1, by omega, by go_num, by rw [HH.out], HB5⟩, by simp [intOf]; omega⟩
                    · exact absurd HNXX.out hax
                · have HK2 : Hid (rInner (srcL l) l j x (l.length - (t + 1)) nx (least && okU l j nx l.length) = (ra, rl)) := by
                    have h := HK.out
                    rw [rInner_succ, HF2.out] at h
                    simp only [if_neg hnx] at h
                    exact h
                  have hbx : (nx == x) = false := by simp [hnx]
                  clear hnx HK
                  go_wp2_with fail
                  refine (HSR.out a _ HVM.out).mono ?_
                  rw [HF2.out]
                  rintro e w3 ⟨rfl, hb3⟩
                  have g1 : w3.cell? ⟨wo.heap.size, 0, none⟩ = some (.int .i64 x) := by rw [hb3.cell (p := ⟨wo.heap.size, 0, none⟩) hz2]; exact g1
                  have HB4 := Lib.hid (bel_next HB.out HB2.out hb3)
                  have hgd : (some nx).getD 0 = nx := rfl
                  clear hb3
                  go_wp2_with fail
                  go_loopw [43, 7] (fun i s7 wr => ∃ k : Nat, k ≤ l.length ∧ i = .int .i64 k ∧ s7 = .bool (least && okU l j nx k) ∧ Hid (Below (wo.heap.size + 1) (wo.alloc (.cells #[.int .i64 x, .int .i64 y] 31)) wr)) (fun i _ _ => l.length - (intOf i).toNat)
                  case atStart => exact ⟨0, by omega, rfl, by rw [okU_zero, Bool.and_true], HB4⟩
                  case round =>
                    obtain ⟨k, hk, rfl, rfl, HB6⟩ := hrel
                    have HB7 : Hid (Below w.heap.size w wr) := (HB.out.alloc HB.out.size _).trans (HB6.out.mono (by omega))
                    by_cases hkl : k < l.length
                    · obtain ⟨p1, p2⟩ := HC.out k hkl
                      rw [← HB7.out.cell (p := ⟨b, off + k * 2, none⟩) hb] at p1
                      rw [← HB7.out.cell (p := ⟨b, off + k * 2 + 1, none⟩) hb] at p2
                      have hqn : (least && okU l j nx (k + 1)) = ((least && okU l j nx k) && (l[k].1 != nx || decide (j < k))) := by rw [okU_next hkl, Bool.and_assoc]
                      have hbr2 : b < wr.heap.size := Nat.lt_of_lt_of_le hb HB7.out.size
                      obtain ⟨⟨z, u⟩, hz⟩ : ∃ z, l[k] = z := ⟨_, rfl⟩
                      rw [hz] at p1 p2 hqn
                      simp only at p1 p2 hqn
                      obtain ⟨q, hq⟩ : ∃ q, (least && okU l j nx k) = q := ⟨_, rfl⟩
                      rw [hq] at hqn ⊢
                      have HQN := Lib.hid hqn
                      clear hqn hq hz
                      have HB8 := Lib.hid (HB6.out.alloc (by have := HB6.out.size; simp at this; omega) (.cells #[.int .i64 z, .int .i64 u] 31))
                      cases q
                      · have HQ : Hid ((least && okU l j nx (k + 1)) = false) := by show _ = _; rw [HQN.out]; rfl
                        go_wp2_with fail
                        exact ⟨⟨k + 1, by omega, by go_num, by rw [HQ.out], HB8⟩, by simp [intOf]; omega⟩
                      · by_cases hzn : z = nx
                        · have b1 : (z != nx) = false := by simp [hzn]
                          by_cases hjk : j < k
                          · have HQ : Hid ((least && okU l j nx (k + 1)) = true) := by show _ = _; rw [HQN.out, b1, decide_eq_true hjk]; rfl
                            have b2 : (j : Int) < (k : Int) := by omega
                            clear hzn hjk
                            go_wp2_with fail
                            exact ⟨⟨k + 1, by omega, by go_num, by rw [HQ.out], HB8⟩, by simp [intOf]; omega⟩
                          · have HQ : Hid ((least && okU l j nx (k + 1)) = false) := by show _ = _; rw [HQN.out, b1, decide_eq_false hjk]; rfl
                            have b2 : ¬ (j : Int) < (k : Int) := by omega
                            clear hzn hjk
                            go_wp2_with fail
                            exact ⟨⟨k + 1, by omega, by go_num, by rw [HQ.out], HB8⟩, by simp [intOf]; omega⟩
                        · have b1 : (z != nx) = true := by simp [hzn]
                          have HQ : Hid ((least && okU l j nx (k + 1)) = true) := by show _ = _; rw [HQN.out, b1]; rfl
                          clear hzn
                          go_wp2_with fail
                          exact ⟨⟨k + 1, by omega, by go_num, by rw [HQ.out], HB8⟩, by simp [intOf]; omega⟩
                    · obtain rfl : k = l.length := by omega
                      go_wp2_with fail
                      exact ⟨⟨t + 1, nx, _, by omega, by go_num, rfl, rfl, HK2, HB6⟩, by simp [intOf]; omega⟩
            · have ht2 : l.length - t = 0 := by omega
              obtain ⟨rfl, rfl⟩ : a = ra ∧ least = rl := by
                have h := HK.out
                rw [ht2] at h
                simpa [rInner] using h
              clear ht2
              cases least
              · have HH : Hid (rState l (j + 1) = n) := by
                  show _ = _
                  rw [HNX.out, HST.out, Bool.false_and]; rfl
                go_wp2_with fail
                exact ⟨⟨j + 1, by omega, by go_num, by rw [HH.out], HBW⟩, by simp [intOf]; omega⟩
              · by_cases hax : a = x
                · have b1 : (a == x) = true := by simp [hax]
                  clear hax
                  by_cases hxy : x = y
                  · have b2 : (x != y) = false := by simp [hxy]
                    clear hxy
                    have HH : Hid (rState l (j + 1) = n) := by
                      show _ = _
                      rw [HNX.out, HST.out, b1, b2]; rfl
                    go_wp2_with fail
                    exact ⟨⟨j + 1, by omega, by go_num, by rw [HH.out], HBW⟩, by simp [intOf]; omega⟩
                  · have b2 : (x != y) = true := by simp [hxy]
                    clear hxy
                    have HH : Hid (rState l (j + 1) = n + 1) := by
                      show _ = _
                      rw [HNX.out, HST.out, b1, b2]; rfl
                    go_wp2_with fail
                    exact ⟨⟨j + 1, by omega, by go_num, by rw [HH.out], HBW⟩, by simp [intOf]; omega⟩
                · have b1 : (a == x) = false := by simp [hax]
                  clear hax
                  have HH : Hid (rState l (j + 1) = n) := by
                    show _ = _
                    rw [HNX.out, HST.out, b1, Bool.false_and, Bool.and_false]; rfl
                  go_wp2_with fail
                  exact ⟨⟨j + 1, by omega, by go_num, by rw [HH.out], HBW⟩, by simp [intOf]; omega⟩
        · obtain rfl : j = l.length := by omega
          obtain ⟨n, hn⟩ : ∃ n, rState l l.length = n := ⟨_, rfl⟩
          have HN := Lib.hid hn
          rw [hn]
          clear hbel hn hnd
          go_wp2_with fail
          go_ret
          exact ⟨by rw [HF.out, HN.out]; rfl, HB.out⟩
  · have HF : Hid (refCircF l = 0) := if_neg hck
    have hck' : (chkL l 0 false == 0) = false := by simp [hck]
    obtain ⟨a, c, rfl⟩ := Rd.shape hv
    clear hv
    go_enter Try.func14, Try.ntmps14
    go_wp2_with fail
    refine (HCK.out _ HV.out).mono ?_
    rintro e w1 ⟨rfl, hb1⟩
    have HB1 := Lib.hid hb1
    clear hb1
    go_wp2_with fail
    go_ret
    exact ⟨by rw [HF.out]; rfl, HB1.out⟩
end Go.Proofs.Ytmdmfciicoldoaa
