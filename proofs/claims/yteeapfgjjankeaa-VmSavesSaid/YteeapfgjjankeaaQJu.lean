/- The document's comparisons, at likes: states; calls, turned to the document's. -/
import Derived.Test.YteeapfgjjankeaaQJt
import Derived.Test.YteeapfgjjankeaaQJs
namespace Go.Proofs.Yteeapfgjjankeaa.Mach
open Go.RowKit

set_option maxRecDepth 100000 in
set_option maxHeartbeats 4000000 in
theorem sameStatus_eq (e x r st mk at_ : Int) (v1 v2 : Value) (l : List Int) (w : World) (h1 : Rd w 1 v1 l.length (intsV l)) (h2 : Rd w 1 v2 l.length (intsV l)) :
    Calls Try.prog 19 #[.agg #[.int .u8 e, .int .i64 x, v1, .int .i64 r, .int .i64 st, .int .i64 mk, .int .i64 at_], .agg #[.int .u8 e, .int .i64 x, v2, .int .i64 r, .int .i64 st, .int .i64 mk, .int .i64 at_]] w fun e w' => e = .returned (.bool true) ∧ Below w.heap.size w w' := by
  obtain ⟨a1, c1, rfl⟩ := Rd.shape h1
  obtain ⟨a2, c2, rfl⟩ := Rd.shape h2
  have HS := Lib.hid (fun W (hb : Below w.heap.size w W) => sameInts_eq _ _ l W (Rd.later h1 hb) (Rd.later h2 hb))
  obtain ⟨n, hn⟩ : ∃ n, n = l.length := ⟨_, rfl⟩
  rw [← hn] at HS
  rw [← hn]
  clear h1 h2 hn
  go_enter Try.func19, Try.ntmps19
  go_wp2_with fail
  refine (HS.out _ (((Below.refl _ _).alloc (Nat.le_refl _) _).alloc (by simp) _)).mono ?_
  rintro e1 w1 ⟨rfl, q, rfl⟩
  go_wp2_with fail
  go_ret
  exact ⟨rfl, (((Below.refl _ _).alloc (Nat.le_refl _) _).alloc (by simp) _).trans ⟨rfl, rfl, rfl, Nat.le_refl _, fun _ _ => rfl⟩⟩
/-- Calls in cells, K to a call; each owns its two rows. -/
def CRowK (K : Nat) (W : World) (n₀ : Nat) (cs : List CallF) (xs : List Value) : Prop := xs.length = K * cs.length ∧ ∀ k c, cs[k]? = some c → ∃ rv sv, xs[K * k]? = some (.int .i64 c.fn) ∧ xs[K * k + 1]? = some (.int .i64 c.at_) ∧ xs[K * k + 2]? = some rv ∧ xs[K * k + 3]? = some sv ∧
  W.ownsRow n₀ 2 1 rv c.regs.length (intsV c.regs) ∧ W.ownsRow n₀ 2 1 sv c.slots.length (intsV c.slots)
theorem CRow.toK {W : World} {n₀ : Nat} {cs : List CallF} {xs : List Value} (h : CRow W n₀ cs xs) : CRowK 4 W n₀ cs xs := h
theorem info_CR' : (Try.prog.info? 91).map (fun i => (i.zero, i.size, i.bytes)) = some (some (.agg #[.int .i64 0, .int .i64 0, .slice none 0 0, .slice none 0 0, .int .i64 0, .slice none 0 0, .slice none 0 0, .int .u8 0]), 8, 128) := by kernel_rfl
/-- Behind j of the calls. -/
def CLC (w : World) (n₀ : Nat) (cs : List CallF) (j : Nat) (out : Value) (wr : World) : Prop := ∃ ys, wr.ownsRow w.heap.size 91 8 out j ys ∧ CRowK 8 wr n₀ (cs.take j) ys ∧ Below w.heap.size w wr
set_option maxRecDepth 100000 in
set_option maxHeartbeats 4000000 in
theorem calls22_any (v : Value) (cs : List CallF) (xs : List Value) (n₀ : Nat) (w : World) (hv : w.ownsRow n₀ 89 4 v cs.length xs) (hc : CRowK 4 w n₀ cs xs) (hl : cs.length ≤ 100) :
    Calls Try.prog 21 #[v] w fun e w' => ∃ v' xs', e = .returned v' ∧ w'.ownsRow w.heap.size 91 8 v' cs.length xs' ∧ CRowK 8 w' n₀ cs xs' ∧ Below w.heap.size w w' := by
  obtain ⟨a, c, rfl, -, -⟩ := oshape hv
  obtain ⟨n, hn⟩ : ∃ n, n = cs.length := ⟨_, rfl⟩
  obtain ⟨ir, ii, ip0, ip1, ip2⟩ := parts' info_CR'
  have HV := Lib.hid hv
  have HC := Lib.hid hc
  have HN := Lib.hid hn
  have hn1 : n ≤ 100 := by omega
  rw [← hn]
  clear hv hc hn hl
  go_enter Try.func21, Try.ntmps21
  go_wp2_with fail
  go_loopw [3, 8] (fun out i wr => ∃ j : Nat, j ≤ n ∧ i = .int .i64 j ∧ Hid (CLC w n₀ cs j out wr)) (fun _ i _ => n - (intOf i).toNat)
  case atStart => exact ⟨0, by omega, rfl, Lib.hid ⟨[], World.ownsRow_nil _ _ _ _, ⟨rfl, fun k c h => by simp at h⟩, Below.refl _ _⟩⟩
  case round =>
    obtain ⟨wa, rfl⟩ : ∃ wa : World, wa = wr := ⟨_, rfl⟩
    obtain ⟨j, hj, rfl, HK⟩ := hrel
    obtain ⟨ys, ho, hcr, hb⟩ := HK.out
    obtain ⟨oa, oc, rfl, -, -⟩ := oshape ho
    by_cases hlt : j < n
    · have hlt' : (j : Int) < n := by omega
      obtain ⟨g, gc, hve, hgl, -, -, hat⟩ := osplit HV.out (by rw [← HN.out]; omega)
      simp only [Value.slice.injEq] at hve
      obtain ⟨rfl, -, rfl⟩ := hve
      obtain ⟨cj, hcj⟩ : ∃ cj, cs[j]? = some cj := ⟨_, List.getElem?_eq_getElem (by rw [← HN.out]; exact hlt)⟩
      obtain ⟨rv, sv, x0, x1, x2, x3, r5, r6⟩ := HC.out.2 j cj hcj
      have cell : ∀ r u, xs[4 * j + r]? = some u → wa.cell? ⟨g, j * 4 + r, none⟩ = some u := fun r u hu => by
        rw [Nat.mul_comm j 4]
        exact (hb.cell (p := ⟨g, 4 * j + r, none⟩) hgl).trans (hat _ _ hu)
      have d0 : wa.cell? ⟨g, j * 4, none⟩ = some (.int .i64 cj.fn) := cell 0 _ x0
      have d1 := cell 1 _ x1
      have d2 := cell 2 _ x2
      have d3 := cell 3 _ x3
      obtain ⟨ra, rc, hrv, -, -⟩ := oshape r5
      obtain ⟨sa, sc, hsv, -, -⟩ := oshape r6
      subst hrv hsv
      have HO := Lib.hid ho
      have HCR := Lib.hid hcr
      have HB := Lib.hid hb
      have HR5 := Lib.hid r5
      have HR6 := Lib.hid r6
      have HCJ := Lib.hid hcj
      obtain ⟨nr, hnr⟩ : ∃ n, n = cj.regs.length := ⟨_, rfl⟩
      obtain ⟨ns, hns⟩ : ∃ n, n = cj.slots.length := ⟨_, rfl⟩
      rw [← hnr] at d2
      rw [← hns] at d3
      have HNR := Lib.hid hnr
      have HNS := Lib.hid hns
      clear ho hcr hb r5 r6 hcj x0 x1 x2 x3 hat cell hnr hns HK
      go_upto_region 5 with fail
      obtain ⟨w1, hw1⟩ : ∃ w1, w1 = wa.alloc (.cells #[.int .i64 cj.fn, .int .i64 cj.at_, .slice ra nr rc, .slice sa ns sc] 89) := ⟨_, rfl⟩
      rw [← hw1]
      have hx1 : w1.heap[wa.heap.size]? = some (.cells #[.int .i64 cj.fn, .int .i64 cj.at_, .slice ra nr rc, .slice sa ns sc] 89 (0, 0)) := by rw [hw1]; exact heap_alloc_new _ _
      have hb1 : Below wa.heap.size wa w1 := by rw [hw1]; exact (Below.refl _ _).alloc (Nat.le_refl _) _
      have f0 : w1.cell? ⟨wa.heap.size, 0, none⟩ = some (.int .i64 cj.fn) := by simp [World.cell?, hx1]
      have f1 : w1.cell? ⟨wa.heap.size, 1, none⟩ = some (.int .i64 cj.at_) := by simp [World.cell?, hx1]
      have f2 : w1.cell? ⟨wa.heap.size, 2, none⟩ = some (.slice ra nr rc) := by simp [World.cell?, hx1]
      have f3 : w1.cell? ⟨wa.heap.size, 3, none⟩ = some (.slice sa ns sc) := by simp [World.cell?, hx1]
      have HB1 := Lib.hid hb1
      have hO1 : Hid ((w1.alloc (.cells #[.int .i64 cj.fn, .int .i64 cj.at_, .slice ra nr rc, .slice sa ns sc, .int .i64 0, .slice none 0 0, .slice none 0 0, .int .u8 0] 91)).ownsRow w.heap.size 91 8 (.slice oa j oc) j ys) := Lib.hid ((osame HO.out fun k hk => hb1.block k (olt HO.out k hk)).alloc _)
      have hR1 : Hid (Rd (w1.alloc (.cells #[.int .i64 cj.fn, .int .i64 cj.at_, .slice ra nr rc, .slice sa ns sc, .int .i64 0, .slice none 0 0, .slice none 0 0, .int .u8 0] 91)) 8 (.slice (some ⟨w1.heap.size, 0, none⟩) 1 1) 1 [.int .i64 cj.fn, .int .i64 cj.at_, .slice ra nr rc, .slice sa ns sc, .int .i64 0, .slice none 0 0, .slice none 0 0, .int .u8 0]) := Lib.hid (lit_rd w1 #[.int .i64 cj.fn, .int .i64 cj.at_, .slice ra nr rc, .slice sa ns sc, .int .i64 0, .slice none 0 0, .slice none 0 0, .int .u8 0] 8 _ rfl)
      have hs1 : Hid (w.heap.size ≤ (w1.alloc (.cells #[.int .i64 cj.fn, .int .i64 cj.at_, .slice ra nr rc, .slice sa ns sc, .int .i64 0, .slice none 0 0, .slice none 0 0, .int .u8 0] 91)).heap.size) := Lib.hid (by rw [World.size_alloc]; have := HB.out.size; have := hb1.size; omega)
      have e1 : j + 1 ≤ maxLen := by unfold maxLen; omega
      have e2 : (j + 1) * 128 ≤ 140737488355328 := by omega
      clear hw1 hx1 hb1 d0 d1 d2 d3
      go_wp2_with (at_builtin; refine wpList_append_own_rd _ rfl _ _ 53 rfl w.heap.size 91 ir (.agg #[.int .i64 0, .int .i64 0, .slice none 0 0, .slice none 0 0, .int .i64 0, .slice none 0 0, .slice none 0 0, .int .u8 0]) 8 128 Try.underlying53 ii ip0 ip1 ip2 rfl (by decide) _ j ys rfl hO1.out _ 1 [.int .i64 cj.fn, .int .i64 cj.at_, .slice ra nr rc, .slice sa ns sc, .int .i64 0, .slice none 0 0, .slice none 0 0, .int .u8 0] rfl hR1.out (by simp [Value.oneCell']) e1 e2 hs1.out ?_; intro v9 w9 hown9 hgrow9; have HO9 := Lib.hid hown9; have HG9 := Lib.hid hgrow9; clear hown9 hgrow9)
      refine ⟨⟨j + 1, by omega, by simp, Lib.hid ⟨_, HO9.out, ?_, ?_⟩⟩, by simp [intOf]; omega⟩
      · have hk : ∀ (k : Nat) cur, wa.heap[k]? = some (Obj.cells cur 2 (0, 0)) → w9.heap[k]? = wa.heap[k]? := fun k cur hk => by
          have hkl := (Array.getElem?_eq_some_iff.1 hk).1
          have hk1 := HB1.out.size
          rw [HG9.out.block k (by rw [World.size_alloc]; omega) (fun e => ?_), Below.heap_alloc _ _ _ (by omega), HB1.out.block k hkl]
          obtain ⟨_, cur', h⟩ := oblk HO.out k e.symm
          rw [hk] at h
          simp at h
        have hw : ∀ (k : Nat) cur, w.heap[k]? = some (Obj.cells cur 2 (0, 0)) → w9.heap[k]? = w.heap[k]? := fun k cur hk2 => by
          have h3 := HB.out.block k (Array.getElem?_eq_some_iff.1 hk2).1
          exact (hk k cur (h3.trans hk2)).trans h3
        have e3 : cs.take (j + 1) = cs.take j ++ [cj] := by
          obtain ⟨q1, q2⟩ := List.getElem?_eq_some_iff.1 HCJ.out
          rw [List.take_succ_eq_append_getElem q1, q2]
        rw [e3]
        have hl9 := HCR.out.1
        refine ⟨by rw [List.length_append, List.length_append, hl9]; simp; omega, fun k d hkd => ?_⟩
        rcases Nat.lt_or_ge k (cs.take j).length with hlt2 | hge
        · rw [List.getElem?_append_left hlt2] at hkd
          obtain ⟨rv', sv', g1, g2, g3, g4, g5, g6⟩ := HCR.out.2 k d hkd
          refine ⟨rv', sv', ?_, ?_, ?_, ?_, osame g5 fun q hq => ?_, osame g6 fun q hq => ?_⟩
          · rw [List.getElem?_append_left (by omega)]; exact g1
          · rw [List.getElem?_append_left (by omega)]; exact g2
          · rw [List.getElem?_append_left (by omega)]; exact g3
          · rw [List.getElem?_append_left (by omega)]; exact g4
          · obtain ⟨_, cur, h⟩ := oblk g5 q hq
            exact hk q cur h
          · obtain ⟨_, cur, h⟩ := oblk g6 q hq
            exact hk q cur h
        · rw [List.getElem?_append_right hge] at hkd
          have hk0 : k = (cs.take j).length := by
            have := (List.getElem?_eq_some_iff.1 hkd).1
            simp at this hge ⊢
            omega
          subst hk0
          simp at hkd
          subst hkd
          rw [HNR.out, HNS.out]
          refine ⟨.slice ra cj.regs.length rc, .slice sa cj.slots.length sc, ?_, ?_, ?_, ?_, osame HR5.out fun q hq => ?_, osame HR6.out fun q hq => ?_⟩
          · rw [List.getElem?_append_right (by omega), hl9, show 8 * (cs.take j).length - 8 * (cs.take j).length = 0 by omega]; rfl
          · rw [List.getElem?_append_right (by omega), hl9, show 8 * (cs.take j).length + 1 - 8 * (cs.take j).length = 1 by omega]; rfl
          · rw [List.getElem?_append_right (by omega), hl9, show 8 * (cs.take j).length + 2 - 8 * (cs.take j).length = 2 by omega]; rfl
          · rw [List.getElem?_append_right (by omega), hl9, show 8 * (cs.take j).length + 3 - 8 * (cs.take j).length = 3 by omega]; rfl
          · obtain ⟨_, cur, h⟩ := oblk HR5.out q hq
            exact hw q cur h
          · obtain ⟨_, cur, h⟩ := oblk HR6.out q hq
            exact hw q cur h
      · have h1 := HB1.out.size
        have h2 := HB.out.size
        exact ((HB.out.trans (HB1.out.mono h2)).alloc (by omega) _).grown HG9.out (by rw [World.size_alloc]; omega) (fun k hk => (oblk HO.out k hk).1)
    · obtain rfl : j = n := by omega
      go_wp2_with fail
      refine bodyPost_ret (v := .slice oa j oc) (by simp [results, Try.results21, go_sem]) rfl ⟨_, ys, rfl, ho, ?_, hb⟩
      rw [HN.out, List.take_length] at hcr
      exact hcr
set_option maxRecDepth 100000 in
set_option maxHeartbeats 4000000 in
theorem sameCalls_eq (v1 v2 : Value) (cs : List CallF) (xs1 xs2 : List Value) (n1 n2 m1 m2 : Nat) (w : World) (h1 : w.ownsRow n1 91 8 v1 cs.length xs1) (c1 : CRowK 8 w m1 cs xs1) (h2 : w.ownsRow n2 91 8 v2 cs.length xs2) (c2 : CRowK 8 w m2 cs xs2) :
    Calls Try.prog 20 #[v1, v2] w fun e w' => e = .returned (.bool true) ∧ Below w.heap.size w w' := by
  obtain ⟨a1, p1, rfl, -, -⟩ := oshape h1
  obtain ⟨a2, p2, rfl, -, -⟩ := oshape h2
  obtain ⟨n, hn⟩ : ∃ n, n = cs.length := ⟨_, rfl⟩
  have hn9 : n ≤ 9223372036854775807 := by have := Rd.le (Rd.of_own h1); omega
  have key : ∀ {v : Value} {m k : Nat} {xs : List Value}, w.ownsRow m 91 8 v cs.length xs → CRowK 8 w k cs xs → ∀ j c, cs[j]? = some c → ∃ g cp ra rc sa sc, v = .slice (some ⟨g, 0, none⟩) n cp ∧ w.cell? ⟨g, j * 8, none⟩ = some (.int .i64 c.fn) ∧ w.cell? ⟨g, j * 8 + 1, none⟩ = some (.int .i64 c.at_) ∧ w.cell? ⟨g, j * 8 + 2, none⟩ = some (.slice ra c.regs.length rc) ∧ w.cell? ⟨g, j * 8 + 3, none⟩ = some (.slice sa c.slots.length sc) ∧ Rd w 1 (.slice ra c.regs.length rc) c.regs.length (intsV c.regs) ∧ Rd w 1 (.slice sa c.slots.length sc) c.slots.length (intsV c.slots) := fun {v m k xs} hv hc j c hj => by
    have hjl := (List.getElem?_eq_some_iff.1 hj).1
    obtain ⟨g, cp, rfl, -, -, -, hat⟩ := osplit hv (by omega)
    obtain ⟨rv, sv, x0, x1, x2, x3, r5, r6⟩ := hc.2 j c hj
    obtain ⟨ra, rc, rfl, -, -⟩ := oshape r5
    obtain ⟨sa, sc, rfl, -, -⟩ := oshape r6
    have e : j * 8 = 8 * j := Nat.mul_comm _ _
    rw [e, hn]
    exact ⟨g, cp, ra, rc, sa, sc, rfl, hat _ _ x0, hat _ _ x1, hat _ _ x2, hat _ _ x3, Rd.of_own r5, Rd.of_own r6⟩
  have K1 := Lib.hid (key h1 c1)
  have K2 := Lib.hid (key h2 c2)
  have HN := Lib.hid hn
  rw [← hn]
  rw [← hn] at K1 K2
  clear h1 h2 c1 c2 key hn
  go_enter Try.func20, Try.ntmps20
  go_wp2_with fail
  go_loopw [13] (fun i wr => ∃ j : Nat, j ≤ n ∧ i = .int .i64 j ∧ Hid (∃ q, wr = w.drewN q)) (fun i _ => n - (intOf i).toNat)
  case atStart => exact ⟨0, by omega, rfl, Lib.hid ⟨0, rfl⟩⟩
  case round =>
    obtain ⟨wa, rfl⟩ : ∃ wa : World, wa = wr := ⟨_, rfl⟩
    obtain ⟨j, hj, rfl, HQ⟩ := hrel
    have HQD : ∀ q, Hid (∃ q', wa.drewN q = w.drewN q') := fun q => Lib.hid (by obtain ⟨q', rfl⟩ := HQ.out; exact ⟨q' + q, by simp [World.drewN, Nat.add_assoc]⟩)
    by_cases hlt : j < n
    · have hlt' : (j : Int) < n := by omega
      obtain ⟨c, hc⟩ : ∃ c, cs[j]? = some c := ⟨_, List.getElem?_eq_getElem (by rw [← HN.out]; exact hlt)⟩
      obtain ⟨g1, q1, ra1, rc1, sa1, sc1, e1, d10, d11, d12, d13, r1, s1⟩ := K1.out j c hc
      obtain ⟨g2, q2, ra2, rc2, sa2, sc2, e2, d20, d21, d22, d23, r2, s2⟩ := K2.out j c hc
      simp only [Value.slice.injEq] at e1 e2
      obtain ⟨rfl, -, rfl⟩ := e1
      obtain ⟨rfl, -, rfl⟩ := e2
      obtain ⟨nr, hnr⟩ : ∃ n, n = c.regs.length := ⟨_, rfl⟩
      obtain ⟨ns, hns⟩ : ∃ n, n = c.slots.length := ⟨_, rfl⟩
      have HS1 := fun q => Lib.hid (sameInts_eq _ _ c.regs (wa.drewN q) (by obtain ⟨q', rfl⟩ := HQ.out; exact r1) (by obtain ⟨q', rfl⟩ := HQ.out; exact r2))
      have HS2 := fun q => Lib.hid (sameInts_eq _ _ c.slots (wa.drewN q) (by obtain ⟨q', rfl⟩ := HQ.out; exact s1) (by obtain ⟨q', rfl⟩ := HQ.out; exact s2))
      have t10 : wa.cell? ⟨g1, j * 8, none⟩ = some (.int .i64 c.fn) := by obtain ⟨q', rfl⟩ := HQ.out; exact d10
      have t11 : wa.cell? ⟨g1, j * 8 + 1, none⟩ = some (.int .i64 c.at_) := by obtain ⟨q', rfl⟩ := HQ.out; exact d11
      have t12 : wa.cell? ⟨g1, j * 8 + 2, none⟩ = some (.slice ra1 nr rc1) := by rw [hnr]; obtain ⟨q', rfl⟩ := HQ.out; exact d12
      have t13 : wa.cell? ⟨g1, j * 8 + 3, none⟩ = some (.slice sa1 ns sc1) := by rw [hns]; obtain ⟨q', rfl⟩ := HQ.out; exact d13
      have t20 : wa.cell? ⟨g2, j * 8, none⟩ = some (.int .i64 c.fn) := by obtain ⟨q', rfl⟩ := HQ.out; exact d20
      have t21 : wa.cell? ⟨g2, j * 8 + 1, none⟩ = some (.int .i64 c.at_) := by obtain ⟨q', rfl⟩ := HQ.out; exact d21
      have t22 : wa.cell? ⟨g2, j * 8 + 2, none⟩ = some (.slice ra2 nr rc2) := by rw [hnr]; obtain ⟨q', rfl⟩ := HQ.out; exact d22
      have t23 : wa.cell? ⟨g2, j * 8 + 3, none⟩ = some (.slice sa2 ns sc2) := by rw [hns]; obtain ⟨q', rfl⟩ := HQ.out; exact d23
      rw [← hnr] at HS1
      rw [← hns] at HS2
      clear d10 d11 d12 d13 d20 d21 d22 d23 r1 s1 r2 s2 hnr hns hc
      go_wp2_with fail
      go_quiet (first | (go_at_call 22; with_reducible exact Calls.quiet_of (HS1 _).out) | (go_at_call 22; with_reducible exact Calls.quiet_of (HS2 _).out))
      go_wp2_with fail
      all_goals exact ⟨⟨j + 1, by omega, by simp, HQD _⟩, by simp [intOf]; omega⟩
    · obtain rfl : j = n := by omega
      go_wp2_with fail
      go_ret
      obtain ⟨q, rfl⟩ := HQ.out
      exact ⟨rfl, ⟨rfl, rfl, rfl, Nat.le_refl _, fun _ _ => rfl⟩⟩
end Go.Proofs.Yteeapfgjjankeaa.Mach
