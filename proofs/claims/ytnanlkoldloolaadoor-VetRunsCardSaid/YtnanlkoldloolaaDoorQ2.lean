/- Locs: reading: a list of spots. -/
import Derived.Test.YtnanlkoldloolaaDoorQ1
import Derived.StillTailTactics
namespace Go.Proofs.YtnanlkoldloolaaDoor
open Go.RowKit

theorem plainR_bd {l : List Int} {a a' : Nat} {n : Int} (hB : isB l) (h : plainR l a = some (n, a')) : 0 ≤ n ∧ n ≤ 2147483647 ∧ a < a' ∧ a' ≤ l.length := by
  unfold plainR at h
  split at h
  · rename_i n1 a1 h1
    split at h
    · simp only [Option.some.injEq, Prod.mk.injEq] at h
      obtain ⟨rfl, rfl⟩ := h
      have := numR_bd hB h1
      omega
    · cases h
  · cases h

theorem infoSpot : (Tryd.prog.info? 86).map (fun i => (i.zero, i.size, i.bytes)) = some (some (.agg #[.int .i64 0, .int .i64 0]), 2, 16) := by kernel_rfl
theorem info_parts {i : Option TypeInfo} {z : Value} {s b : Nat} (h : i.map (fun i => (i.zero, i.size, i.bytes)) = some (some z, s, b)) : ∃ x, i = some x ∧ x.zero = some z ∧ x.size = s ∧ x.bytes = b := by
  cases i with
  | none => simp at h
  | some x => simp at h; exact ⟨x, rfl, h.1, h.2.1, h.2.2⟩

set_option maxRecDepth 100000 in
set_option maxHeartbeats 4000000 in
theorem list_spot {α : Type} (cb : Nat) (tb z : Nat) (pv : Value) (l : List Int) (gt : TypeId) (gv : Value) (keep : World → List α → Prop) (one : PR α) (E : Lies α) (hE : LiesOK 86 E)
   (at' lb lo : Nat) (c : Array Value) (T : TypeId) (w : World) (hone : OneOK 54 (fun v => #[v, .pointer (some ⟨cb, 0, none⟩)]) 86 [.int .i64 0, .int .i64 0] tb z pv l gt gv keep one E w)
   (hkeep0 : ∀ W, Oth w W tb lb → keep W []) (hkeep : ∀ W W' p, keep W p → Older w.heap.size lb W W' → keep W' p) (hs : Src w pv l tb gt gv) (ho : w.heap[tb]? = some (TO pv at' true)) (hl : w.heap[lb]? = some (.cells c T (0, 0))) (hc : c[lo]? = some (.slice none 0 0)) (hlb : lb ≠ tb) (hT : T ≠ 86) (hpl : pv.ownBlock ≠ some lb) (hl0 : lb ≠ 0) (hlz : lb ≠ z) (hzl : z < w.heap.size) (hz0 : z ≠ 0) (hpz : pv.ownBlock ≠ some z) :
   Calls Tryd.prog 53 #[.pointer (some ⟨tb, 0, none⟩), .pointer (some ⟨lb, lo, none⟩), .func (.func 54) #[] #[.pointer (some ⟨cb, 0, none⟩)]] w fun e w' =>
     (∃ xs a' v cells, listR (plainR l) one at' = some (xs, a') ∧ at' < a' ∧ a' ≤ l.length ∧ e = .returned (.tuple #[]) ∧ w'.heap[tb]? = some (TO pv a' true) ∧ w'.heap[lb]? = some (.cells (c.setIfInBounds lo v) T (0, 0)) ∧ w'.ownsRow w.heap.size 86 2 v xs.length cells ∧ Els E 2 w' w.heap.size cells xs ∧ Oth3 w w' tb lb z ∧ keep w' xs) ∨
     (listR (plainR l) one at' = none ∧ e = .panicked [{ v := .iface gt gv, recovered := false }] ∧ Oth3 w w' tb lb z ∧ ∃ v, w'.heap[lb]? = some (.cells (c.setIfInBounds lo v) T (0, 0))) := by
  obtain ⟨i0, hi, hz0, hz1, hz2⟩ := info_parts infoSpot
  have HI : Hid _ := And.intro hi (And.intro hz0 (And.intro hz1 hz2))
  clear hi hz0 hz1 hz2
  have htl := heap_lt ho
  have hll := heap_lt hl
  have k0 := cell_of hl hc
  have HP := Lib.hid (plain_at tb pv l at' w.heap.size 0 #[.int .i64 0] 3 0 (w.alloc (.cells #[.int .i64 0] 3)) gt gv (hs.later ((Below.refl _ _).alloc (Nat.le_refl _) _)) (heap_old _ _ ho) (heap_new _ _ rfl) (by simp) (by omega))
  have HS := Lib.hid hs
  have HO := Lib.hid ho
  have HL := Lib.hid hl
  have hcs : lo < c.size := (Array.getElem?_eq_some_iff.1 hc).1
  have hself : c.setIfInBounds lo (.slice none 0 0) = c := by
    apply Array.ext_getElem?
    intro i
    rw [Array.getElem?_setIfInBounds]
    split
    · rename_i h; subst h; rw [hc]
    · rfl
  have HSELF := Lib.hid hself
  clear hs ho hl hself
  go_enter Tryd.func53, Tryd.ntmps53
  go_wp2_with fail
  refine HP.out.mono ?_
  rintro e w1 (⟨n, a1, hr, rfl, ht1, hn1, hoth⟩ | ⟨hr, rfl, hoth⟩)
  · obtain ⟨hn0, hn2, ha1, ha2⟩ := plainR_bd HS.out.isB hr
    obtain ⟨m, rfl⟩ : ∃ m : Nat, n = m := ⟨n.toNat, by omega⟩
    have hOW : Oth w w1 tb lb := (((Oth.refl w tb lb).later ((Below.refl _ _).alloc (Nat.le_refl _) _)).new hoth (Nat.le_refl _))
    have hL1 : w1.heap[lb]? = some (.cells c T (0, 0)) := hoth.at (heap_old _ _ HL.out) hlb (by omega)
    have HR := Lib.hid hr
    have kn := cell_of hn1 (show (#[Value.int .i64 0].setIfInBounds 0 (.int .i64 (m : Int)))[0]? = some (.int .i64 m) by simp)
    have T1 := Lib.hid ht1
    have L1 := Lib.hid hL1
    have O1 := Lib.hid hOW
    clear ht1 hn1 hoth hL1 hOW hr HP k0
    go_wp2_with fail
    go_loopw [16] (fun i wr => ∃ (j : Nat) (xs : List α) (aj : Nat) (v : Value) (cells : List Value), j ≤ m ∧ i = .int .i64 j ∧ listN one j a1 = some (xs, aj) ∧ a1 + j ≤ aj ∧ aj ≤ l.length ∧ LS 86 2 E tb lb lo z pv c T w wr j aj v cells cells xs ∧ keep wr xs) (fun i _ => m - (intOf i).toNat)
    case atStart => exact ⟨0, [], a1, _, [], by omega, rfl, rfl, by omega, by omega, ⟨T1.out, by rw [HSELF.out]; exact L1.out, World.ownsRow_nil _ _ _ _, Els.nil, O1.out.three z⟩, hkeep0 _ O1.out⟩
    case round =>
      obtain ⟨j, xs, aj, v, cells, hj, rfl, hn, hja, hjl, hls, hkp⟩ := hrel
      have hlen := listN_len hn
      have kl := cell_of hls.lat (show (c.setIfInBounds lo v)[lo]? = some v by simp [hcs])
      have kt := (to_cells hls.tat).2.2.1
      obtain ⟨va, vc, rfl⟩ := (Rd.of_own hls.own).shape
      have HN := Lib.hid hn
      have HLS := Lib.hid hls
      have HKP := Lib.hid hkp
      have hltl := heap_lt hls.lat
      have hltt := heap_lt hls.tat
      have hlbn : lb ≠ wr.heap.size := by omega
      clear hn hls hkp
      by_cases hjm : j < m
      · have b1 : j + 1 ≤ maxLen := by unfold maxLen; have := HS.out.len; omega
        have b2 : (j + 1) * 16 ≤ 140737488355328 := by have := HS.out.len; omega
        have b3 : w.heap.size ≤ wr.heap.size := HLS.out.oth.size
        have mixed : Tryd.prog.follows Departure.mixedOrders = true := by kernel_rfl
        go_upto_region 7 with fail
        have HBW : Hid (Below wr.heap.size wr (wr.alloc (.cells #[.int .i64 0, .int .i64 0] 86))) := (Below.refl wr.heap.size wr).alloc (Nat.le_refl _) _
        have HXW := Lib.hid (heap_new wr (.cells #[.int .i64 0, .int .i64 0] 86) rfl)
        have HSW : Hid ((wr.alloc (.cells #[.int .i64 0, .int .i64 0] 86)).heap.size = wr.heap.size + 1) := World.size_alloc _ _
        obtain ⟨x0, hx0⟩ : ∃ x0, wr.heap.size = x0 := ⟨_, rfl⟩
        obtain ⟨W, hW⟩ : ∃ W, wr.alloc (.cells #[.int .i64 0, .int .i64 0] 86) = W := ⟨_, rfl⟩
        rw [hW] at HBW HXW HSW ⊢
        rw [hx0] at HXW HSW b3 hlbn ⊢
        have HX0 := Lib.hid hx0
        clear hW hx0
        have HLW := Lib.hid (heap_below HBW.out (heap_lt HLS.out.lat) HLS.out.lat)
        have HOW2 := Lib.hid (own_later HLS.out.own HBW.out)
        have kW := cell_of HLW.out (show (c.setIfInBounds lo (.slice va j vc))[lo]? = some (.slice va j vc) by simp [hcs])
        have kWa : ∀ o, (W.alloc o).cell? ⟨lb, lo, none⟩ = some (.slice va j vc) := fun o => cell_of (heap_old _ o HLW.out) (by simp [hcs])
        have kx0 := cell_of HXW.out (show (#[Value.int .i64 0, .int .i64 0] : Array Value)[0]? = _ from rfl)
        have kx1 := cell_of HXW.out (show (#[Value.int .i64 0, .int .i64 0] : Array Value)[1]? = _ from rfl)
        have b4 : w.heap.size ≤ W.heap.size := by have := HSW.out; omega
        have hrow : (Value.slice va j vc).ownBlock ≠ some lb := fun e => by have := (own_blk HLS.out.own lb e).1; omega
        have hBX : Hid (∀ o, Below wr.heap.size wr (W.drew.alloc o)) := fun o => HBW.out.drew.alloc HBW.out.size o
        clear kl kt
        go_cut [] (fun wx => ∃ g2 c2, LS 86 2 E tb lb lo z pv c T w wx (j + 1) aj (.slice (some ⟨g2, 0, none⟩) (j + 1) c2) (cells ++ [.int .i64 0, .int .i64 0]) cells xs ∧ keep wx xs)
        case first =>
          go_region_law (first
            | (refine step_append_own_rd rfl _ _ 84 rfl w.heap.size 86 i0 (.agg #[.int .i64 0, .int .i64 0]) 2 16 Tryd.underlying84 HI.out.1 HI.out.2.1 HI.out.2.2.1 HI.out.2.2.2 rfl (by decide) _ j cells rfl (own_later HOW2.out (((Below.refl _ _).drew).alloc (by simp) _)) _ 1 [.int .i64 0, .int .i64 0] rfl (Rd.of_heap (heap_new _ _ (by simp)) rfl rfl (by decide)) (by simp [Value.oneCell']) b1 b2 (by simp; omega) ?_; intro v2 w2 hown2 hgrow2; obtain ⟨g2, c2, rfl⟩ := own_some hown2; have HL2 := Lib.hid (grown_at hgrow2 (heap_old _ _ HLW.out) hrow); have HF := Lib.hid (HLS.out.grow hE hT (by decide) hlb htl hll (hBX.out _) hgrow2 hown2); have k2 := cell_of HL2.out (show (c.setIfInBounds lo (.slice va j vc))[lo]? = some (.slice va j vc) by simp [hcs]); have z2 := unfrozen_of (i := lo) HL2.out; clear hown2 hgrow2))
          all_goals (go_wp2_with fail; go_meet; exact ⟨_, _, HF.out.1, hkeep _ _ _ HKP.out HF.out.2⟩)
        case rest =>
          obtain ⟨g2, c2, hls2, hkp2⟩ := hcut

          obtain ⟨hgb, cur, hg, hcsz, hcur⟩ := own_blkObj hls2.own
          have hcl : cells.length = j * 2 := by rw [HLS.out.els.1, hlen]
          have HC := Lib.hid (hone _ g2 (j * 2) aj cur xs hkp2 (HS.out.oth3 hls2.oth hpl hpz hl0 hz0) hls2.tat hg (fun i hi => by
            rw [hcur _ (by simp at hi; omega), List.getElem?_append_right (by omega), hcl, Nat.add_sub_cancel_left]) hgb (by omega) (HS.out.fresh hgb) ⟨by omega, hjl⟩)
          have k3 := cell_of hls2.lat (show (c.setIfInBounds lo (.slice (some ⟨g2, 0, none⟩) (j + 1) c2))[lo]? = some (.slice (some ⟨g2, 0, none⟩) (j + 1) c2) by simp [hcs])
          have HLS2 := Lib.hid hls2
          have HG := Lib.hid hg
          have HHC := Lib.hid hlen
          clear hls2 hg hcsz hcur hcl hlen kWa kW kx0 kx1 hkp2 hone
          go_wp2_with fail
          refine HC.out.mono ?_
          rintro e w3 (⟨x, a3, cs, hx, hxa, hxl, rfl, ht3, hcs3, hg3, ho3, he3, hk3⟩ | ⟨hx, rfl, ho3⟩)
          · have HF := Lib.hid (HLS2.out.one hE hlb hlz hzl htl hll HHC.out rfl hcs3 HG.out ht3 hg3 ho3 he3)
            have HX := Lib.hid hx
            have HK3 := Lib.hid hk3
            clear hx ht3 hcs3 hg3 ho3 he3 hk3 HC
            go_wp2_with fail
            exact ⟨⟨j + 1, xs ++ [x], a3, _, _, by omega, by go_num, listN_step HN.out HX.out, by omega, hxl, HF.out, HK3.out⟩, by simp [intOf]; omega⟩
          · have HX := Lib.hid hx
            have HO3 := Lib.hid ho3
            clear hx ho3 HC
            go_wp2_with fail
            exact ⟨rfl, .inr ⟨by unfold listR; rw [HR.out]; exact listN_stop HN.out HX.out (by omega), rfl, HLS2.out.oth.new HO3.out hgb, _, HO3.out.at HLS2.out.lat hlb (by omega) hlz⟩⟩
      · obtain rfl : j = m := by omega
        clear kl kt
        go_wp2_with fail
        go_end0
        exact .inl ⟨xs, aj, _, cells, by unfold listR; rw [HR.out]; exact HN.out, by omega, hjl, rfl, HLS.out.tat, HLS.out.lat, by rw [hlen]; exact HLS.out.own, HLS.out.els, HLS.out.oth, HKP.out⟩
  · have HR := Lib.hid hr
    have HH := Lib.hid hoth
    clear hr hoth
    go_wp2_with fail
    exact ⟨rfl, .inr ⟨by unfold listR; rw [HR.out], rfl, ((Oth.refl w tb lb).later ((Below.refl _ _).alloc (Nat.le_refl _) _)).new HH.out (Nat.le_refl _) |>.three z, .slice none 0 0, by rw [HSELF.out]; exact HH.out.at (heap_old _ _ HL.out) hlb (by omega)⟩⟩
end Go.Proofs.YtnanlkoldloolaaDoor

/- Locs: reading: a list of stops. (printed by gen_list.py) -/
namespace Go.Proofs.YtnanlkoldloolaaDoor
open Go.RowKit

theorem info_stops : (Tryd.prog.info? 84).map (fun i => (i.zero, i.size, i.bytes)) = some (some (.slice none 0 0), 1, 24) := by kernel_rfl
set_option maxRecDepth 100000 in
set_option maxHeartbeats 4000000 in
theorem list_stops {α : Type} (cb : Nat) (tb z : Nat) (pv : Value) (l : List Int) (gt : TypeId) (gv : Value) (keep : World → List α → Prop) (one : PR α) (E : Lies α) (hE : LiesOK 84 E)
   (at' lb lo : Nat) (c : Array Value) (T : TypeId) (w : World) (hone : OneOK 52 (fun v => #[v, .pointer (some ⟨cb, 0, none⟩)]) 84 [Value.slice none 0 0] tb z pv l gt gv keep one E w)
   (hkeep0 : ∀ W, Oth w W tb lb → keep W []) (hkeep : ∀ W W' p, keep W p → Older w.heap.size lb W W' → keep W' p) (hs : Src w pv l tb gt gv) (ho : w.heap[tb]? = some (TO pv at' true)) (hl : w.heap[lb]? = some (.cells c T (0, 0))) (hc : c[lo]? = some (.slice none 0 0)) (hlb : lb ≠ tb) (hT : T ≠ 84) (hpl : pv.ownBlock ≠ some lb) (hl0 : lb ≠ 0) (hlz : lb ≠ z) (hzl : z < w.heap.size) (hz0 : z ≠ 0) (hpz : pv.ownBlock ≠ some z) :
   Calls Tryd.prog 51 #[.pointer (some ⟨tb, 0, none⟩), .pointer (some ⟨lb, lo, none⟩), .func (.func 52) #[] #[.pointer (some ⟨cb, 0, none⟩)]] w fun e w' =>
     (∃ xs a' v cells, listR (plainR l) one at' = some (xs, a') ∧ at' < a' ∧ a' ≤ l.length ∧ e = .returned (.tuple #[]) ∧ w'.heap[tb]? = some (TO pv a' true) ∧ w'.heap[lb]? = some (.cells (c.setIfInBounds lo v) T (0, 0)) ∧ w'.ownsRow w.heap.size 84 1 v xs.length cells ∧ Els E 1 w' w.heap.size cells xs ∧ Oth3 w w' tb lb z ∧ keep w' xs) ∨
     (listR (plainR l) one at' = none ∧ e = .panicked [{ v := .iface gt gv, recovered := false }] ∧ Oth3 w w' tb lb z ∧ ∃ v, w'.heap[lb]? = some (.cells (c.setIfInBounds lo v) T (0, 0))) := by
  obtain ⟨i0, hi, hz0, hz1, hz2⟩ := info_parts info_stops
  have HI : Hid _ := And.intro hi (And.intro hz0 (And.intro hz1 hz2))
  clear hi hz0 hz1 hz2
  have htl := heap_lt ho
  have hll := heap_lt hl
  have k0 := cell_of hl hc
  have HP := Lib.hid (plain_at tb pv l at' w.heap.size 0 #[.int .i64 0] 3 0 (w.alloc (.cells #[.int .i64 0] 3)) gt gv (hs.later ((Below.refl _ _).alloc (Nat.le_refl _) _)) (heap_old _ _ ho) (heap_new _ _ rfl) (by simp) (by omega))
  have HS := Lib.hid hs
  have HO := Lib.hid ho
  have HL := Lib.hid hl
  have hcs : lo < c.size := (Array.getElem?_eq_some_iff.1 hc).1
  have hself : c.setIfInBounds lo (.slice none 0 0) = c := by
    apply Array.ext_getElem?
    intro i
    rw [Array.getElem?_setIfInBounds]
    split
    · rename_i h; subst h; rw [hc]
    · rfl
  have HSELF := Lib.hid hself
  clear hs ho hl hself
  go_enter Tryd.func51, Tryd.ntmps51
  go_wp2_with fail
  refine HP.out.mono ?_
  rintro e w1 (⟨n, a1, hr, rfl, ht1, hn1, hoth⟩ | ⟨hr, rfl, hoth⟩)
  · obtain ⟨hn0, hn2, ha1, ha2⟩ := plainR_bd HS.out.isB hr
    obtain ⟨m, rfl⟩ : ∃ m : Nat, n = m := ⟨n.toNat, by omega⟩
    have hOW : Oth w w1 tb lb := (((Oth.refl w tb lb).later ((Below.refl _ _).alloc (Nat.le_refl _) _)).new hoth (Nat.le_refl _))
    have hL1 : w1.heap[lb]? = some (.cells c T (0, 0)) := hoth.at (heap_old _ _ HL.out) hlb (by omega)
    have HR := Lib.hid hr
    have kn := cell_of hn1 (show (#[Value.int .i64 0].setIfInBounds 0 (.int .i64 (m : Int)))[0]? = some (.int .i64 m) by simp)
    have T1 := Lib.hid ht1
    have L1 := Lib.hid hL1
    have O1 := Lib.hid hOW
    clear ht1 hn1 hoth hL1 hOW hr HP k0
    go_wp2_with fail
    go_loopw [16] (fun i wr => ∃ (j : Nat) (xs : List α) (aj : Nat) (v : Value) (cells : List Value), j ≤ m ∧ i = .int .i64 j ∧ listN one j a1 = some (xs, aj) ∧ a1 + j ≤ aj ∧ aj ≤ l.length ∧ LS 84 1 E tb lb lo z pv c T w wr j aj v cells cells xs ∧ keep wr xs) (fun i _ => m - (intOf i).toNat)
    case atStart => exact ⟨0, [], a1, _, [], by omega, rfl, rfl, by omega, by omega, ⟨T1.out, by rw [HSELF.out]; exact L1.out, World.ownsRow_nil _ _ _ _, Els.nil, O1.out.three z⟩, hkeep0 _ O1.out⟩
    case round =>
      obtain ⟨j, xs, aj, v, cells, hj, rfl, hn, hja, hjl, hls, hkp⟩ := hrel
      have hlen := listN_len hn
      have kl := cell_of hls.lat (show (c.setIfInBounds lo v)[lo]? = some v by simp [hcs])
      have kt := (to_cells hls.tat).2.2.1
      obtain ⟨va, vc, rfl⟩ := (Rd.of_own hls.own).shape
      have HN := Lib.hid hn
      have HLS := Lib.hid hls
      have HKP := Lib.hid hkp
      have hltl := heap_lt hls.lat
      have hltt := heap_lt hls.tat
      have hlbn : lb ≠ wr.heap.size := by omega
      clear hn hls hkp
      by_cases hjm : j < m
      · have b1 : j + 1 ≤ maxLen := by unfold maxLen; have := HS.out.len; omega
        have b2 : (j + 1) * 24 ≤ 140737488355328 := by have := HS.out.len; omega
        have b3 : w.heap.size ≤ wr.heap.size := HLS.out.oth.size
        have mixed : Tryd.prog.follows Departure.mixedOrders = true := by kernel_rfl
        go_upto_region 7 with fail
        have hrow : (Value.slice va j vc).ownBlock ≠ some lb := fun e => by have := (own_blk HLS.out.own lb e).1; omega
        go_cut [] (fun wx => ∃ g2 c2, LS 84 1 E tb lb lo z pv c T w wx (j + 1) aj (.slice (some ⟨g2, 0, none⟩) (j + 1) c2) (cells ++ [Value.slice none 0 0]) cells xs ∧ keep wx xs)
        case first =>
          go_wp2_with (refine wpList_append_own_g _ rfl _ _ 60 rfl w.heap.size 84 i0 (.slice none 0 0) 1 24 Tryd.underlying60 HI.out.1 HI.out.2.1 HI.out.2.2.1 HI.out.2.2.2 rfl (by decide) _ j cells rfl (own_later HLS.out.own ((Below.refl _ _).alloc (Nat.le_refl _) _)) _ 1 [.slice none 0 0] rfl (Rd.of_heap (heap_new _ _ (by simp)) rfl rfl (by decide)) (by simp [Value.oneCell']) (j + 1) rfl (by omega) b1 b2 (by simp; omega) ?_; intro g2 c2 w2 hown2 hgrow2; have HL2 := Lib.hid (grown_at hgrow2 (heap_old _ _ HLS.out.lat) hrow); have HF := Lib.hid (HLS.out.grow hE hT (by decide) hlb htl hll ((Below.refl wr.heap.size wr).alloc (Nat.le_refl _) _) hgrow2 hown2); have k2 := cell_of HL2.out (show (c.setIfInBounds lo (.slice va j vc))[lo]? = some (.slice va j vc) by simp [hcs]); have z2 := unfrozen_of (i := lo) HL2.out; clear hown2 hgrow2)
          go_meet
          exact ⟨_, _, HF.out.1, hkeep _ _ _ HKP.out HF.out.2⟩
        case rest =>
          obtain ⟨g2, c2, hls2, hkp2⟩ := hcut

          obtain ⟨hgb, cur, hg, hcsz, hcur⟩ := own_blkObj hls2.own
          have hcl : cells.length = j := by rw [HLS.out.els.1, hlen, Nat.mul_one]
          have HC := Lib.hid (hone _ g2 j aj cur xs hkp2 (HS.out.oth3 hls2.oth hpl hpz hl0 hz0) hls2.tat hg (fun i hi => by
            rw [hcur _ (by simp at hi; omega), List.getElem?_append_right (by omega), hcl, Nat.add_sub_cancel_left]) hgb (by omega) (HS.out.fresh hgb) ⟨by omega, hjl⟩)
          have k3 := cell_of hls2.lat (show (c.setIfInBounds lo (.slice (some ⟨g2, 0, none⟩) (j + 1) c2))[lo]? = some (.slice (some ⟨g2, 0, none⟩) (j + 1) c2) by simp [hcs])
          have HLS2 := Lib.hid hls2
          have HG := Lib.hid hg
          have HHC := Lib.hid hlen
          clear hls2 hg hcsz hcur hcl hlen kl kt hkp2 hone
          go_wp2_with fail
          refine HC.out.mono ?_
          rintro e w3 (⟨x, a3, cs, hx, hxa, hxl, rfl, ht3, hcs3, hg3, ho3, he3, hk3⟩ | ⟨hx, rfl, ho3⟩)
          · have HF := Lib.hid (HLS2.out.one hE hlb hlz hzl htl hll HHC.out rfl hcs3 HG.out ht3 (by rw [Nat.mul_one]; exact hg3) ho3 he3)
            have HX := Lib.hid hx
            have HK3 := Lib.hid hk3
            clear hx ht3 hcs3 hg3 ho3 he3 hk3 HC
            go_wp2_with fail
            exact ⟨⟨j + 1, xs ++ [x], a3, _, _, by omega, by go_num, listN_step HN.out HX.out, by omega, hxl, HF.out, HK3.out⟩, by simp [intOf]; omega⟩
          · have HX := Lib.hid hx
            have HO3 := Lib.hid ho3
            clear hx ho3 HC
            go_wp2_with fail
            exact ⟨rfl, .inr ⟨by unfold listR; rw [HR.out]; exact listN_stop HN.out HX.out (by omega), rfl, HLS2.out.oth.new HO3.out hgb, _, HO3.out.at HLS2.out.lat hlb (by omega) hlz⟩⟩
      · obtain rfl : j = m := by omega
        clear kl kt
        go_wp2_with fail
        go_end0
        exact .inl ⟨xs, aj, _, cells, by unfold listR; rw [HR.out]; exact HN.out, by omega, hjl, rfl, HLS.out.tat, HLS.out.lat, by rw [hlen]; exact HLS.out.own, HLS.out.els, HLS.out.oth, HKP.out⟩
  · have HR := Lib.hid hr
    have HH := Lib.hid hoth
    clear hr hoth
    go_wp2_with fail
    exact ⟨rfl, .inr ⟨by unfold listR; rw [HR.out], rfl, ((Oth.refl w tb lb).later ((Below.refl _ _).alloc (Nat.le_refl _) _)).new HH.out (Nat.le_refl _) |>.three z, .slice none 0 0, by rw [HSELF.out]; exact HH.out.at (heap_old _ _ HL.out) hlb (by omega)⟩⟩
end Go.Proofs.YtnanlkoldloolaaDoor

/- Locs: reading: a spot; a stop. -/
namespace Go.Proofs.YtnanlkoldloolaaDoor
open Go.RowKit

/-- The box that holds the turner. -/
def Box (cb tb : Nat) (w : World) : Prop := w.cell? ⟨cb, 0, none⟩ = some (.pointer (some ⟨tb, 0, none⟩))
theorem Box.lt {cb tb : Nat} {w : World} (h : Box cb tb w) : cb < w.heap.size := World.block_lt_of_cell? w _ h
theorem Box.oth3 {cb tb x y z : Nat} {w w' : World} (h : Box cb tb w) (o : Oth3 w w' x y z) (hx : cb ≠ x) (hy : cb ≠ y) (hz : cb ≠ z) : Box cb tb w' := by
  unfold Box; rw [World.cell?_of_block (w := w) (o.block cb h.lt hx hy hz)]; exact h
theorem Box.older {cb tb B lb : Nat} {w w' : World} (h : Box cb tb w) (o : Older B lb w w') (hB : cb < B) (hl : cb ≠ lb) : Box cb tb w' := by
  obtain ⟨o1, h1⟩ : ∃ o1, w.heap[cb]? = some o1 := ⟨_, Array.getElem?_eq_some_iff.2 ⟨h.lt, rfl⟩⟩
  unfold Box; rw [World.cell?_of_block (w := w) ((o cb o1 h1 hB hl).trans h1.symm)]; exact h
theorem Box.later {cb tb : Nat} {w w' : World} (h : Box cb tb w) (o : Below w.heap.size w w') : Box cb tb w' := by
  unfold Box; rw [o.cell (p := ⟨cb, 0, none⟩) h.lt]; exact h

def spotE : Lies (Int × Int) := fun _ _ _ cs x => cs = [.int .i64 x.1, .int .i64 x.2]
theorem spotE_ok (T : TypeId) : LiesOK T spotE := ⟨fun h _ => h, fun h _ => h⟩

set_option maxRecDepth 100000 in
set_option maxHeartbeats 4000000 in
theorem spot_one (cb tb : Nat) (pv : Value) (l : List Int) (gt : TypeId) (gv : Value) (W0 : World) (hcb : cb < W0.heap.size) (hct : cb ≠ tb) :
   OneOK 54 (fun v => #[v, .pointer (some ⟨cb, 0, none⟩)]) 86 [.int .i64 0, .int .i64 0] tb tb pv l gt gv (fun W _ => Box cb tb W) (spotR (plainR l)) spotE W0 := by
  intro W ob oo a c p hb hs ht ho hc hob hobt hpo _
  have c0 := hc 0 (by simp)
  have c1 := hc 1 (by simp)
  simp only [Nat.add_zero, List.getElem?_cons_zero, List.getElem?_cons_succ] at c0 c1
  have hcsz : oo + 1 < c.size := (Array.getElem?_eq_some_iff.1 c1).1
  have hcbo : cb ≠ ob := by omega
  have ob0 : ob ≠ 0 := by omega
  have kb : W.cell? ⟨cb, 0, none⟩ = some (.pointer (some ⟨tb, 0, none⟩)) := hb
  have HB := Lib.hid hb
  have HS := Lib.hid hs
  have HT := Lib.hid ht
  have HO := Lib.hid ho
  have mixed : Tryd.prog.follows Departure.mixedOrders = true := by kernel_rfl
  have HP := Lib.hid (plain_at tb pv l a ob oo c 86 0 W.drew gt gv (hs.later (Below.refl _ _).drew) ht ho c0 hobt)
  clear hb hs ht ho hc
  go_enter Tryd.func54, Tryd.ntmps54
  go_upto_region 0 with fail
  go_still_tail 4, mixed
  go_wp2_with fail
  refine HP.out.mono ?_
  rintro e w1 (⟨n, a1, hr, rfl, ht1, ho1, hoth⟩ | ⟨hr, rfl, hoth⟩)
  · have hbd := plainR_bd HS.out.isB hr
    have hoth1 : Oth W w1 tb ob := (Oth.refl W tb ob).later (Below.refl _ _).drew |>.trans hoth
    have kb1 : w1.cell? ⟨cb, 0, none⟩ = some (.pointer (some ⟨tb, 0, none⟩)) := HB.out.oth3 (hoth1.three tb) hct hcbo hct
    have HP1 := Lib.hid (plain_at tb pv l a1 ob (oo + 1) _ 86 0 w1.drew gt gv ((HS.out.oth hoth1 hpo ob0).later (Below.refl _ _).drew) ht1 ho1 (by simp [c1]) hobt)
    have HR := Lib.hid hr
    have HO1 := Lib.hid hoth1
    have HB1 : Hid (Box cb tb w1) := kb1
    clear hr ht1 ho1 hoth hoth1 HP kb
    go_upto_region 1 with fail
    go_still_tail 4, mixed
    go_wp2_with fail
    refine HP1.out.mono ?_
    rintro e w2 (⟨n2, a2, hr2, rfl, ht2, ho2, hoth2⟩ | ⟨hr2, rfl, hoth2⟩)
    · have hbd2 := plainR_bd HS.out.isB hr2
      have hoth3 : Oth w1 w2 tb ob := (Oth.refl w1 tb ob).later (Below.refl _ _).drew |>.trans hoth2
      have HF := Lib.hid (And.intro ht2 (And.intro ho2 (And.intro ((HO1.out.trans hoth3).three tb) (HB1.out.oth3 (hoth3.three tb) hct hcbo hct))))
      have HR2 := Lib.hid hr2
      clear hr2 ht2 ho2 hoth2 hoth3 HP1
      go_wp2_with fail
      go_end0
      refine .inl ⟨(n, n2), a2, [.int .i64 n, .int .i64 n2], by unfold spotR; rw [HR.out]; simp only; rw [HR2.out], by omega, by omega, rfl, HF.out.1, rfl, HF.out.2.1, HF.out.2.2.1, rfl, HF.out.2.2.2⟩
    · have HF := Lib.hid (HO1.out.trans ((Oth.refl w1 tb ob).later (Below.refl _ _).drew |>.trans hoth2))
      have HR2 := Lib.hid hr2
      clear hr2 hoth2 HP1
      go_wp2_with fail
      exact ⟨rfl, .inr ⟨by unfold spotR; rw [HR.out]; simp only; rw [HR2.out], rfl, HF.out.three tb⟩⟩
  · have HF := Lib.hid ((Oth.refl W tb ob).later (Below.refl _ _).drew |>.trans hoth)
    have HR := Lib.hid hr
    clear hr hoth HP
    go_wp2_with fail
    exact ⟨rfl, .inr ⟨by unfold spotR; rw [HR.out], rfl, HF.out.three tb⟩⟩
end Go.Proofs.YtnanlkoldloolaaDoor

/- Locs: reading: a stop. -/
namespace Go.Proofs.YtnanlkoldloolaaDoor
open Go.RowKit

theorem own_mono {w : World} {base base' : Nat} {e : TypeId} {size n : Nat} {v : Value} {xs : List Value} (h : w.ownsRow base e size v n xs) (hb : base' ≤ base) : w.ownsRow base' e size v n xs :=
  ⟨h.1, h.2.imp id fun ⟨g, cap, cur, h1, h2, h3⟩ => ⟨g, cap, cur, h1, Nat.le_trans hb h2, h3⟩⟩
/-- A row of one's own, with what its things are. -/
def rowE {α : Type} (T : TypeId) (K : Nat) (E : Lies α) (w : World) (base : Nat) (v : Value) (xs : List α) : Prop := ∃ cells, w.ownsRow base T K v xs.length cells ∧ Els E K w base cells xs
theorem rowE_mono {α : Type} {T : TypeId} {K : Nat} {E : Lies α} {T2 : TypeId} (hE : LiesOK T2 E) {w : World} {base base' : Nat} {v : Value} {xs : List α} (h : rowE T K E w base v xs) (hb : base' ≤ base) : rowE T K E w base' v xs := by
  obtain ⟨cells, h1, h2⟩ := h
  exact ⟨cells, own_mono h1 hb, h2.1, fun i hi => hE.mono (h2.2 i hi) hb⟩
/-- It stays where rows of another type change, if its things do. -/
theorem rowE_stays {α : Type} {T T2 : TypeId} {K : Nat} {E : Lies α} (hE : LiesOK T2 E) (hT : T ≠ T2) {w w' : World} {base : Nat} {v : Value} {xs : List α} (h : rowE T K E w base v xs) (hs : Stays T2 base w w') : rowE T K E w' base v xs := by
  obtain ⟨cells, h1, h2⟩ := h
  refine ⟨cells, own_same h1 fun k hk => ?_, h2.stays hE hs⟩
  obtain ⟨hb, cur, hc⟩ := own_blk h1 k hk
  rw [hc]
  exact hs k _ hc hb (notT_cells hT)

def stopE : Lies (List (Int × Int)) := fun _ w base cs x => ∃ v, cs = [v] ∧ rowE 86 2 spotE w base v x
theorem stopE_ok : LiesOK 84 stopE :=
  ⟨fun ⟨v, h1, h2⟩ hs => ⟨v, h1, rowE_stays (spotE_ok _) (by decide) h2 hs⟩, fun ⟨v, h1, h2⟩ hb => ⟨v, h1, rowE_mono (spotE_ok 0) h2 hb⟩⟩

abbrev stopR (l : List Int) : PR (List (Int × Int)) := listR (plainR l) (spotR (plainR l))

set_option maxRecDepth 100000 in
set_option maxHeartbeats 4000000 in
theorem stop_one (cb tb : Nat) (pv : Value) (l : List Int) (gt : TypeId) (gv : Value) (W0 : World) (hcb : cb < W0.heap.size) (_htl : tb < W0.heap.size) (hct : cb ≠ tb) :
   OneOK 52 (fun v => #[v, .pointer (some ⟨cb, 0, none⟩)]) 84 [.slice none 0 0] tb tb pv l gt gv (fun W _ => Box cb tb W) (stopR l) stopE W0 := by
  intro W ob oo a c p hb hs ht ho hc hob hobt hpo _
  have c0 := hc 0 (by simp)
  simp only [Nat.add_zero, List.getElem?_cons_zero] at c0
  have hcbo : cb ≠ ob := by omega
  have ob0 : ob ≠ 0 := by omega
  have kb : W.cell? ⟨cb, 0, none⟩ = some (.pointer (some ⟨tb, 0, none⟩)) := hb
  have htw := heap_lt ht
  have hbw := Box.lt hb
  have HC := Lib.hid (list_spot cb tb tb pv l gt gv (fun W _ => Box cb tb W) (spotR (plainR l)) spotE (spotE_ok _) a ob oo c 84 W (spot_one cb tb pv l gt gv W hbw hct)
    (fun W' o => hb.oth3 (o.three tb) hct hcbo hct) (fun W' W'' p h o => h.older o hbw hcbo) hs ht ho c0 hobt (by decide) hpo ob0 hobt htw hs.tb0 hs.ne)
  clear hb hs ht ho hc
  have hmf : ∀ (fn : Fn) (first cap : Array Value) (w : World), (Instr.makeFunc fn first cap).run Tryd.prog w = .ok (.func fn first cap) w := fun _ _ _ _ => rfl
  go_enter Tryd.func52, Tryd.ntmps52
  go_wp2_with fail
  refine HC.out.mono ?_
  rintro e w1 (⟨xs, a1, v, cells, hr, ha, hl, rfl, ht1, ho1, hown, hels, hoth, hbox⟩ | ⟨hr, rfl, hoth, _⟩)
  · have HF := Lib.hid (And.intro hr (And.intro ht1 (And.intro ho1 (And.intro hoth (And.intro (show rowE 86 2 spotE w1 W.heap.size v xs from ⟨cells, hown, hels⟩) hbox)))))
    clear hr ht1 ho1 hoth hown hels hbox HC
    go_wp2_with fail
    go_end0
    exact .inl ⟨xs, a1, [v], HF.out.1, ha, hl, rfl, HF.out.2.1, rfl, HF.out.2.2.1, HF.out.2.2.2.1, ⟨v, rfl, HF.out.2.2.2.2.1⟩, HF.out.2.2.2.2.2⟩
  · have HF := Lib.hid (And.intro hr hoth)
    clear hr hoth HC
    go_wp2_with fail
    exact ⟨rfl, .inr ⟨HF.out.1, rfl, HF.out.2⟩⟩
end Go.Proofs.YtnanlkoldloolaaDoor
