/- Locs: reading: a list of locations. (printed by gen_list.py) -/
import Derived.Test.YtnanlkoldloolaaDoorQ2
namespace Go.Proofs.YtnanlkoldloolaaDoor
open Go.RowKit

theorem info_locs : (Tryd.prog.info? 91).map (fun i => (i.zero, i.size, i.bytes)) = some (some (.agg #[.int .i64 0, .int .i64 0, .int .u8 0, .int .i64 0, .int .i64 0, .int .i64 0]), 6, 48) := by kernel_rfl
set_option maxRecDepth 100000 in
set_option maxHeartbeats 4000000 in
theorem list_locs {α : Type} (_cb : Nat) (tb z : Nat) (pv : Value) (l : List Int) (gt : TypeId) (gv : Value) (keep : World → List α → Prop) (one : PR α) (E : Lies α) (hE : LiesOK 91 E)
   (at' lb lo : Nat) (c : Array Value) (T : TypeId) (w : World) (hone : OneOK 59 (fun v => #[.pointer (some ⟨tb, 0, none⟩), v]) 91 [Value.int .i64 0, .int .i64 0, .int .u8 0, .int .i64 0, .int .i64 0, .int .i64 0] tb z pv l gt gv keep one E w)
   (hkeep0 : ∀ W, Oth w W tb lb → keep W []) (hkeep : ∀ W W' p, keep W p → Older w.heap.size lb W W' → keep W' p) (hs : Src w pv l tb gt gv) (ho : w.heap[tb]? = some (TO pv at' true)) (hl : w.heap[lb]? = some (.cells c T (0, 0))) (hc : c[lo]? = some (.slice none 0 0)) (hlb : lb ≠ tb) (hT : T ≠ 91) (hpl : pv.ownBlock ≠ some lb) (hl0 : lb ≠ 0) (hlz : lb ≠ z) (hzl : z < w.heap.size) (hz0 : z ≠ 0) (hpz : pv.ownBlock ≠ some z) :
   Calls Tryd.prog 58 #[.pointer (some ⟨tb, 0, none⟩), .pointer (some ⟨lb, lo, none⟩), .func (.func 59) #[.pointer (some ⟨tb, 0, none⟩)] #[]] w fun e w' =>
     (∃ xs a' v cells, listR (plainR l) one at' = some (xs, a') ∧ at' < a' ∧ a' ≤ l.length ∧ e = .returned (.tuple #[]) ∧ w'.heap[tb]? = some (TO pv a' true) ∧ w'.heap[lb]? = some (.cells (c.setIfInBounds lo v) T (0, 0)) ∧ w'.ownsRow w.heap.size 91 6 v xs.length cells ∧ Els E 6 w' w.heap.size cells xs ∧ Oth3 w w' tb lb z ∧ keep w' xs) ∨
     (listR (plainR l) one at' = none ∧ e = .panicked [{ v := .iface gt gv, recovered := false }] ∧ Oth3 w w' tb lb z ∧ ∃ v, w'.heap[lb]? = some (.cells (c.setIfInBounds lo v) T (0, 0))) := by
  obtain ⟨i0, hi, hz0, hz1, hz2⟩ := info_parts info_locs
  have HI : Hid _ := And.intro hi (And.intro hz0 (And.intro hz1 hz2))
  clear hi hz0 hz1 hz2
  have htl := heap_lt ho
  have hll := heap_lt hl
  have k0 := cell_of hl hc
  have HP := Lib.hid (plain_at tb pv l at' w.heap.size 0 #[.int .i64 0] 3 0 (w.alloc (.cells #[.int .i64 0] 3)) gt gv (hs.later ((Below.refl _ _).alloc (Nat.le_refl _) _)) (heap_old _ _ ho) (heap_new _ _ rfl) (by simp) (by omega))
  have HS := Lib.hid hs
  have HO := Lib.hid ho
  have HL := Lib.hid hl
  have hcs : lo < c.size := (Array.getElem?_eq_some_iff.1 hc).1
  have hself : c.setIfInBounds lo (.slice none 0 0) = c := by
    apply Array.ext_getElem?
    intro i
    rw [Array.getElem?_setIfInBounds]
    split
    · rename_i h; subst h; rw [hc]
    · rfl
  have HSELF := Lib.hid hself
  clear hs ho hl hself
  go_enter Tryd.func58, Tryd.ntmps58
  go_wp2_with fail
  refine HP.out.mono ?_
  rintro e w1 (⟨n, a1, hr, rfl, ht1, hn1, hoth⟩ | ⟨hr, rfl, hoth⟩)
  · obtain ⟨hn0, hn2, ha1, ha2⟩ := plainR_bd HS.out.isB hr
    obtain ⟨m, rfl⟩ : ∃ m : Nat, n = m := ⟨n.toNat, by omega⟩
    have hOW : Oth w w1 tb lb := (((Oth.refl w tb lb).later ((Below.refl _ _).alloc (Nat.le_refl _) _)).new hoth (Nat.le_refl _))
    have hL1 : w1.heap[lb]? = some (.cells c T (0, 0)) := hoth.at (heap_old _ _ HL.out) hlb (by omega)
    have HR := Lib.hid hr
    have kn := cell_of hn1 (show (#[Value.int .i64 0].setIfInBounds 0 (.int .i64 (m : Int)))[0]? = some (.int .i64 m) by simp)
    have T1 := Lib.hid ht1
    have L1 := Lib.hid hL1
    have O1 := Lib.hid hOW
    clear ht1 hn1 hoth hL1 hOW hr HP k0
    go_wp2_with fail
    go_loopw [16] (fun i wr => ∃ (j : Nat) (xs : List α) (aj : Nat) (v : Value) (cells : List Value), j ≤ m ∧ i = .int .i64 j ∧ listN one j a1 = some (xs, aj) ∧ a1 + j ≤ aj ∧ aj ≤ l.length ∧ LS 91 6 E tb lb lo z pv c T w wr j aj v cells cells xs ∧ keep wr xs) (fun i _ => m - (intOf i).toNat)
    case atStart => exact ⟨0, [], a1, _, [], by omega, rfl, rfl, by omega, by omega, ⟨T1.out, by rw [HSELF.out]; exact L1.out, World.ownsRow_nil _ _ _ _, Els.nil, O1.out.three z⟩, hkeep0 _ O1.out⟩
    case round =>
      obtain ⟨j, xs, aj, v, cells, hj, rfl, hn, hja, hjl, hls, hkp⟩ := hrel
      have hlen := listN_len hn
      have kl := cell_of hls.lat (show (c.setIfInBounds lo v)[lo]? = some v by simp [hcs])
      have kt := (to_cells hls.tat).2.2.1
      obtain ⟨va, vc, rfl⟩ := (Rd.of_own hls.own).shape
      have HN := Lib.hid hn
      have HLS := Lib.hid hls
      have HKP := Lib.hid hkp
      have hltl := heap_lt hls.lat
      have hltt := heap_lt hls.tat
      have hlbn : lb ≠ wr.heap.size := by omega
      clear hn hls hkp
      by_cases hjm : j < m
      · have b1 : j + 1 ≤ maxLen := by unfold maxLen; have := HS.out.len; omega
        have b2 : (j + 1) * 48 ≤ 140737488355328 := by have := HS.out.len; omega
        have b3 : w.heap.size ≤ wr.heap.size := HLS.out.oth.size
        have mixed : Tryd.prog.follows Departure.mixedOrders = true := by kernel_rfl
        go_upto_region 7 with fail
        have HBW : Hid (Below wr.heap.size wr (wr.alloc (.cells #[Value.int .i64 0, .int .i64 0, .int .u8 0, .int .i64 0, .int .i64 0, .int .i64 0] 91))) := (Below.refl wr.heap.size wr).alloc (Nat.le_refl _) _
        have HXW := Lib.hid (heap_new wr (.cells #[Value.int .i64 0, .int .i64 0, .int .u8 0, .int .i64 0, .int .i64 0, .int .i64 0] 91) rfl)
        have HSW : Hid ((wr.alloc (.cells #[Value.int .i64 0, .int .i64 0, .int .u8 0, .int .i64 0, .int .i64 0, .int .i64 0] 91)).heap.size = wr.heap.size + 1) := World.size_alloc _ _
        obtain ⟨x0, hx0⟩ : ∃ x0, wr.heap.size = x0 := ⟨_, rfl⟩
        obtain ⟨W, hW⟩ : ∃ W, wr.alloc (.cells #[Value.int .i64 0, .int .i64 0, .int .u8 0, .int .i64 0, .int .i64 0, .int .i64 0] 91) = W := ⟨_, rfl⟩
        rw [hW] at HBW HXW HSW ⊢
        rw [hx0] at HXW HSW b3 hlbn ⊢
        have HX0 := Lib.hid hx0
        clear hW hx0
        have HLW := Lib.hid (heap_below HBW.out (heap_lt HLS.out.lat) HLS.out.lat)
        have HOW2 := Lib.hid (own_later HLS.out.own HBW.out)
        have kW := cell_of HLW.out (show (c.setIfInBounds lo (.slice va j vc))[lo]? = some (.slice va j vc) by simp [hcs])
        have kWa : ∀ o, (W.alloc o).cell? ⟨lb, lo, none⟩ = some (.slice va j vc) := fun o => cell_of (heap_old _ o HLW.out) (by simp [hcs])
        have kx0 := cell_of HXW.out (show (#[Value.int .i64 0, .int .i64 0, .int .u8 0, .int .i64 0, .int .i64 0, .int .i64 0] : Array Value)[0]? = _ from rfl)
        have kx1 := cell_of HXW.out (show (#[Value.int .i64 0, .int .i64 0, .int .u8 0, .int .i64 0, .int .i64 0, .int .i64 0] : Array Value)[1]? = _ from rfl)
        have kx2 := cell_of HXW.out (show (#[Value.int .i64 0, .int .i64 0, .int .u8 0, .int .i64 0, .int .i64 0, .int .i64 0] : Array Value)[2]? = _ from rfl)
        have kx3 := cell_of HXW.out (show (#[Value.int .i64 0, .int .i64 0, .int .u8 0, .int .i64 0, .int .i64 0, .int .i64 0] : Array Value)[3]? = _ from rfl)
        have kx4 := cell_of HXW.out (show (#[Value.int .i64 0, .int .i64 0, .int .u8 0, .int .i64 0, .int .i64 0, .int .i64 0] : Array Value)[4]? = _ from rfl)
        have kx5 := cell_of HXW.out (show (#[Value.int .i64 0, .int .i64 0, .int .u8 0, .int .i64 0, .int .i64 0, .int .i64 0] : Array Value)[5]? = _ from rfl)
        have b4 : w.heap.size ≤ W.heap.size := by have := HSW.out; omega
        have hrow : (Value.slice va j vc).ownBlock ≠ some lb := fun e => by have := (own_blk HLS.out.own lb e).1; omega
        have hBX : Hid (∀ o, Below wr.heap.size wr (W.drew.alloc o)) := fun o => HBW.out.drew.alloc HBW.out.size o
        clear kl kt
        go_cut [] (fun wx => ∃ g2 c2, LS 91 6 E tb lb lo z pv c T w wx (j + 1) aj (.slice (some ⟨g2, 0, none⟩) (j + 1) c2) (cells ++ [Value.int .i64 0, .int .i64 0, .int .u8 0, .int .i64 0, .int .i64 0, .int .i64 0]) cells xs ∧ keep wx xs)
        case first =>
          go_region_law (first
            | (refine step_append_own_rd rfl _ _ 87 rfl w.heap.size 91 i0 (.agg #[.int .i64 0, .int .i64 0, .int .u8 0, .int .i64 0, .int .i64 0, .int .i64 0]) 6 48 Tryd.underlying87 HI.out.1 HI.out.2.1 HI.out.2.2.1 HI.out.2.2.2 rfl (by decide) _ j cells rfl (own_later HOW2.out (((Below.refl _ _).drew).alloc (by simp) _)) _ 1 [Value.int .i64 0, .int .i64 0, .int .u8 0, .int .i64 0, .int .i64 0, .int .i64 0] rfl (Rd.of_heap (heap_new _ _ (by simp)) rfl rfl (by decide)) (by simp [Value.oneCell']) b1 b2 (by simp; omega) ?_; intro v2 w2 hown2 hgrow2; obtain ⟨g2, c2, rfl⟩ := own_some hown2; have HL2 := Lib.hid (grown_at hgrow2 (heap_old _ _ HLW.out) hrow); have HF := Lib.hid (HLS.out.grow hE hT (by decide) hlb htl hll (hBX.out _) hgrow2 hown2); have k2 := cell_of HL2.out (show (c.setIfInBounds lo (.slice va j vc))[lo]? = some (.slice va j vc) by simp [hcs]); have z2 := unfrozen_of (i := lo) HL2.out; clear hown2 hgrow2))
          all_goals (go_wp2_with fail; go_meet; exact ⟨_, _, HF.out.1, hkeep _ _ _ HKP.out HF.out.2⟩)
        case rest =>
          obtain ⟨g2, c2, hls2, hkp2⟩ := hcut

          obtain ⟨hgb, cur, hg, hcsz, hcur⟩ := own_blkObj hls2.own
          have hcl : cells.length = j * 6 := by rw [HLS.out.els.1, hlen]
          have HC := Lib.hid (hone _ g2 (j * 6) aj cur xs hkp2 (HS.out.oth3 hls2.oth hpl hpz hl0 hz0) hls2.tat hg (fun i hi => by
            rw [hcur _ (by simp at hi; omega), List.getElem?_append_right (by omega), hcl, Nat.add_sub_cancel_left]) hgb (by omega) (HS.out.fresh hgb) ⟨by omega, hjl⟩)
          have k3 := cell_of hls2.lat (show (c.setIfInBounds lo (.slice (some ⟨g2, 0, none⟩) (j + 1) c2))[lo]? = some (.slice (some ⟨g2, 0, none⟩) (j + 1) c2) by simp [hcs])
          have HLS2 := Lib.hid hls2
          have HG := Lib.hid hg
          have HHC := Lib.hid hlen
          clear hls2 hg hcsz hcur hcl hlen kWa kW kx0 kx1 kx2 kx3 kx4 kx5 hkp2 hone
          go_wp2_with fail
          refine HC.out.mono ?_
          rintro e w3 (⟨x, a3, cs, hx, hxa, hxl, rfl, ht3, hcs3, hg3, ho3, he3, hk3⟩ | ⟨hx, rfl, ho3⟩)
          · have HF := Lib.hid (HLS2.out.one hE hlb hlz hzl htl hll HHC.out rfl hcs3 HG.out ht3 hg3 ho3 he3)
            have HX := Lib.hid hx
            have HK3 := Lib.hid hk3
            clear hx ht3 hcs3 hg3 ho3 he3 hk3 HC
            go_wp2_with fail
            exact ⟨⟨j + 1, xs ++ [x], a3, _, _, by omega, by go_num, listN_step HN.out HX.out, by omega, hxl, HF.out, HK3.out⟩, by simp [intOf]; omega⟩
          · have HX := Lib.hid hx
            have HO3 := Lib.hid ho3
            clear hx ho3 HC
            go_wp2_with fail
            exact ⟨rfl, .inr ⟨by unfold listR; rw [HR.out]; exact listN_stop HN.out HX.out (by omega), rfl, HLS2.out.oth.new HO3.out hgb, _, HO3.out.at HLS2.out.lat hlb (by omega) hlz⟩⟩
      · obtain rfl : j = m := by omega
        clear kl kt
        go_wp2_with fail
        go_end0
        exact .inl ⟨xs, aj, _, cells, by unfold listR; rw [HR.out]; exact HN.out, by omega, hjl, rfl, HLS.out.tat, HLS.out.lat, by rw [hlen]; exact HLS.out.own, HLS.out.els, HLS.out.oth, HKP.out⟩
  · have HR := Lib.hid hr
    have HH := Lib.hid hoth
    clear hr hoth
    go_wp2_with fail
    exact ⟨rfl, .inr ⟨by unfold listR; rw [HR.out], rfl, ((Oth.refl w tb lb).later ((Below.refl _ _).alloc (Nat.le_refl _) _)).new HH.out (Nat.le_refl _) |>.three z, .slice none 0 0, by rw [HSELF.out]; exact HH.out.at (heap_old _ _ HL.out) hlb (by omega)⟩⟩
end Go.Proofs.YtnanlkoldloolaaDoor

/- Locs: reading: a list of marks. (printed by gen_list.py) -/
namespace Go.Proofs.YtnanlkoldloolaaDoor
open Go.RowKit

theorem info_marks : (Tryd.prog.info? 89).map (fun i => (i.zero, i.size, i.bytes)) = some (some (.agg #[.int .i64 0, .slice none 0 0]), 2, 32) := by kernel_rfl
set_option maxRecDepth 100000 in
set_option maxHeartbeats 4000000 in
theorem list_marks {α : Type} (cb : Nat) (tb z : Nat) (pv : Value) (l : List Int) (gt : TypeId) (gv : Value) (keep : World → List α → Prop) (one : PR α) (E : Lies α) (hE : LiesOK 89 E)
   (at' lb lo : Nat) (c : Array Value) (T : TypeId) (w : World) (hone : OneOK 57 (fun v => #[v, .pointer (some ⟨cb, 0, none⟩)]) 89 [Value.int .i64 0, .slice none 0 0] tb z pv l gt gv keep one E w)
   (hkeep0 : ∀ W, Oth w W tb lb → keep W []) (hkeep : ∀ W W' p, keep W p → Older w.heap.size lb W W' → keep W' p) (hs : Src w pv l tb gt gv) (ho : w.heap[tb]? = some (TO pv at' true)) (hl : w.heap[lb]? = some (.cells c T (0, 0))) (hc : c[lo]? = some (.slice none 0 0)) (hlb : lb ≠ tb) (hT : T ≠ 89) (hpl : pv.ownBlock ≠ some lb) (hl0 : lb ≠ 0) (hlz : lb ≠ z) (hzl : z < w.heap.size) (hz0 : z ≠ 0) (hpz : pv.ownBlock ≠ some z) :
   Calls Tryd.prog 56 #[.pointer (some ⟨tb, 0, none⟩), .pointer (some ⟨lb, lo, none⟩), .func (.func 57) #[] #[.pointer (some ⟨cb, 0, none⟩)]] w fun e w' =>
     (∃ xs a' v cells, listR (plainR l) one at' = some (xs, a') ∧ at' < a' ∧ a' ≤ l.length ∧ e = .returned (.tuple #[]) ∧ w'.heap[tb]? = some (TO pv a' true) ∧ w'.heap[lb]? = some (.cells (c.setIfInBounds lo v) T (0, 0)) ∧ w'.ownsRow w.heap.size 89 2 v xs.length cells ∧ Els E 2 w' w.heap.size cells xs ∧ Oth3 w w' tb lb z ∧ keep w' xs) ∨
     (listR (plainR l) one at' = none ∧ e = .panicked [{ v := .iface gt gv, recovered := false }] ∧ Oth3 w w' tb lb z ∧ ∃ v, w'.heap[lb]? = some (.cells (c.setIfInBounds lo v) T (0, 0))) := by
  obtain ⟨i0, hi, hz0, hz1, hz2⟩ := info_parts info_marks
  have HI : Hid _ := And.intro hi (And.intro hz0 (And.intro hz1 hz2))
  clear hi hz0 hz1 hz2
  have htl := heap_lt ho
  have hll := heap_lt hl
  have k0 := cell_of hl hc
  have HP := Lib.hid (plain_at tb pv l at' w.heap.size 0 #[.int .i64 0] 3 0 (w.alloc (.cells #[.int .i64 0] 3)) gt gv (hs.later ((Below.refl _ _).alloc (Nat.le_refl _) _)) (heap_old _ _ ho) (heap_new _ _ rfl) (by simp) (by omega))
  have HS := Lib.hid hs
  have HO := Lib.hid ho
  have HL := Lib.hid hl
  have hcs : lo < c.size := (Array.getElem?_eq_some_iff.1 hc).1
  have hself : c.setIfInBounds lo (.slice none 0 0) = c := by
    apply Array.ext_getElem?
    intro i
    rw [Array.getElem?_setIfInBounds]
    split
    · rename_i h; subst h; rw [hc]
    · rfl
  have HSELF := Lib.hid hself
  clear hs ho hl hself
  go_enter Tryd.func56, Tryd.ntmps56
  go_wp2_with fail
  refine HP.out.mono ?_
  rintro e w1 (⟨n, a1, hr, rfl, ht1, hn1, hoth⟩ | ⟨hr, rfl, hoth⟩)
  · obtain ⟨hn0, hn2, ha1, ha2⟩ := plainR_bd HS.out.isB hr
    obtain ⟨m, rfl⟩ : ∃ m : Nat, n = m := ⟨n.toNat, by omega⟩
    have hOW : Oth w w1 tb lb := (((Oth.refl w tb lb).later ((Below.refl _ _).alloc (Nat.le_refl _) _)).new hoth (Nat.le_refl _))
    have hL1 : w1.heap[lb]? = some (.cells c T (0, 0)) := hoth.at (heap_old _ _ HL.out) hlb (by omega)
    have HR := Lib.hid hr
    have kn := cell_of hn1 (show (#[Value.int .i64 0].setIfInBounds 0 (.int .i64 (m : Int)))[0]? = some (.int .i64 m) by simp)
    have T1 := Lib.hid ht1
    have L1 := Lib.hid hL1
    have O1 := Lib.hid hOW
    clear ht1 hn1 hoth hL1 hOW hr HP k0
    go_wp2_with fail
    go_loopw [16] (fun i wr => ∃ (j : Nat) (xs : List α) (aj : Nat) (v : Value) (cells : List Value), j ≤ m ∧ i = .int .i64 j ∧ listN one j a1 = some (xs, aj) ∧ a1 + j ≤ aj ∧ aj ≤ l.length ∧ LS 89 2 E tb lb lo z pv c T w wr j aj v cells cells xs ∧ keep wr xs) (fun i _ => m - (intOf i).toNat)
    case atStart => exact ⟨0, [], a1, _, [], by omega, rfl, rfl, by omega, by omega, ⟨T1.out, by rw [HSELF.out]; exact L1.out, World.ownsRow_nil _ _ _ _, Els.nil, O1.out.three z⟩, hkeep0 _ O1.out⟩
    case round =>
      obtain ⟨j, xs, aj, v, cells, hj, rfl, hn, hja, hjl, hls, hkp⟩ := hrel
      have hlen := listN_len hn
      have kl := cell_of hls.lat (show (c.setIfInBounds lo v)[lo]? = some v by simp [hcs])
      have kt := (to_cells hls.tat).2.2.1
      obtain ⟨va, vc, rfl⟩ := (Rd.of_own hls.own).shape
      have HN := Lib.hid hn
      have HLS := Lib.hid hls
      have HKP := Lib.hid hkp
      have hltl := heap_lt hls.lat
      have hltt := heap_lt hls.tat
      have hlbn : lb ≠ wr.heap.size := by omega
      clear hn hls hkp
      by_cases hjm : j < m
      · have b1 : j + 1 ≤ maxLen := by unfold maxLen; have := HS.out.len; omega
        have b2 : (j + 1) * 32 ≤ 140737488355328 := by have := HS.out.len; omega
        have b3 : w.heap.size ≤ wr.heap.size := HLS.out.oth.size
        have mixed : Tryd.prog.follows Departure.mixedOrders = true := by kernel_rfl
        go_upto_region 7 with fail
        have HBW : Hid (Below wr.heap.size wr (wr.alloc (.cells #[Value.int .i64 0, .slice none 0 0] 89))) := (Below.refl wr.heap.size wr).alloc (Nat.le_refl _) _
        have HXW := Lib.hid (heap_new wr (.cells #[Value.int .i64 0, .slice none 0 0] 89) rfl)
        have HSW : Hid ((wr.alloc (.cells #[Value.int .i64 0, .slice none 0 0] 89)).heap.size = wr.heap.size + 1) := World.size_alloc _ _
        obtain ⟨x0, hx0⟩ : ∃ x0, wr.heap.size = x0 := ⟨_, rfl⟩
        obtain ⟨W, hW⟩ : ∃ W, wr.alloc (.cells #[Value.int .i64 0, .slice none 0 0] 89) = W := ⟨_, rfl⟩
        rw [hW] at HBW HXW HSW ⊢
        rw [hx0] at HXW HSW b3 hlbn ⊢
        have HX0 := Lib.hid hx0
        clear hW hx0
        have HLW := Lib.hid (heap_below HBW.out (heap_lt HLS.out.lat) HLS.out.lat)
        have HOW2 := Lib.hid (own_later HLS.out.own HBW.out)
        have kW := cell_of HLW.out (show (c.setIfInBounds lo (.slice va j vc))[lo]? = some (.slice va j vc) by simp [hcs])
        have kWa : ∀ o, (W.alloc o).cell? ⟨lb, lo, none⟩ = some (.slice va j vc) := fun o => cell_of (heap_old _ o HLW.out) (by simp [hcs])
        have kx0 := cell_of HXW.out (show (#[Value.int .i64 0, .slice none 0 0] : Array Value)[0]? = _ from rfl)
        have kx1 := cell_of HXW.out (show (#[Value.int .i64 0, .slice none 0 0] : Array Value)[1]? = _ from rfl)
        have b4 : w.heap.size ≤ W.heap.size := by have := HSW.out; omega
        have hrow : (Value.slice va j vc).ownBlock ≠ some lb := fun e => by have := (own_blk HLS.out.own lb e).1; omega
        have hBX : Hid (∀ o, Below wr.heap.size wr (W.drew.alloc o)) := fun o => HBW.out.drew.alloc HBW.out.size o
        clear kl kt
        go_cut [] (fun wx => ∃ g2 c2, LS 89 2 E tb lb lo z pv c T w wx (j + 1) aj (.slice (some ⟨g2, 0, none⟩) (j + 1) c2) (cells ++ [Value.int .i64 0, .slice none 0 0]) cells xs ∧ keep wx xs)
        case first =>
          go_region_law (first
            | (refine step_append_own_rd rfl _ _ 61 rfl w.heap.size 89 i0 (.agg #[.int .i64 0, .slice none 0 0]) 2 32 Tryd.underlying61 HI.out.1 HI.out.2.1 HI.out.2.2.1 HI.out.2.2.2 rfl (by decide) _ j cells rfl (own_later HOW2.out (((Below.refl _ _).drew).alloc (by simp) _)) _ 1 [Value.int .i64 0, .slice none 0 0] rfl (Rd.of_heap (heap_new _ _ (by simp)) rfl rfl (by decide)) (by simp [Value.oneCell']) b1 b2 (by simp; omega) ?_; intro v2 w2 hown2 hgrow2; obtain ⟨g2, c2, rfl⟩ := own_some hown2; have HL2 := Lib.hid (grown_at hgrow2 (heap_old _ _ HLW.out) hrow); have HF := Lib.hid (HLS.out.grow hE hT (by decide) hlb htl hll (hBX.out _) hgrow2 hown2); have k2 := cell_of HL2.out (show (c.setIfInBounds lo (.slice va j vc))[lo]? = some (.slice va j vc) by simp [hcs]); have z2 := unfrozen_of (i := lo) HL2.out; clear hown2 hgrow2))
          all_goals (go_wp2_with fail; go_meet; exact ⟨_, _, HF.out.1, hkeep _ _ _ HKP.out HF.out.2⟩)
        case rest =>
          obtain ⟨g2, c2, hls2, hkp2⟩ := hcut

          obtain ⟨hgb, cur, hg, hcsz, hcur⟩ := own_blkObj hls2.own
          have hcl : cells.length = j * 2 := by rw [HLS.out.els.1, hlen]
          have HC := Lib.hid (hone _ g2 (j * 2) aj cur xs hkp2 (HS.out.oth3 hls2.oth hpl hpz hl0 hz0) hls2.tat hg (fun i hi => by
            rw [hcur _ (by simp at hi; omega), List.getElem?_append_right (by omega), hcl, Nat.add_sub_cancel_left]) hgb (by omega) (HS.out.fresh hgb) ⟨by omega, hjl⟩)
          have k3 := cell_of hls2.lat (show (c.setIfInBounds lo (.slice (some ⟨g2, 0, none⟩) (j + 1) c2))[lo]? = some (.slice (some ⟨g2, 0, none⟩) (j + 1) c2) by simp [hcs])
          have HLS2 := Lib.hid hls2
          have HG := Lib.hid hg
          have HHC := Lib.hid hlen
          clear hls2 hg hcsz hcur hcl hlen kWa kW kx0 kx1 hkp2 hone
          go_wp2_with fail
          refine HC.out.mono ?_
          rintro e w3 (⟨x, a3, cs, hx, hxa, hxl, rfl, ht3, hcs3, hg3, ho3, he3, hk3⟩ | ⟨hx, rfl, ho3⟩)
          · have HF := Lib.hid (HLS2.out.one hE hlb hlz hzl htl hll HHC.out rfl hcs3 HG.out ht3 hg3 ho3 he3)
            have HX := Lib.hid hx
            have HK3 := Lib.hid hk3
            clear hx ht3 hcs3 hg3 ho3 he3 hk3 HC
            go_wp2_with fail
            exact ⟨⟨j + 1, xs ++ [x], a3, _, _, by omega, by go_num, listN_step HN.out HX.out, by omega, hxl, HF.out, HK3.out⟩, by simp [intOf]; omega⟩
          · have HX := Lib.hid hx
            have HO3 := Lib.hid ho3
            clear hx ho3 HC
            go_wp2_with fail
            exact ⟨rfl, .inr ⟨by unfold listR; rw [HR.out]; exact listN_stop HN.out HX.out (by omega), rfl, HLS2.out.oth.new HO3.out hgb, _, HO3.out.at HLS2.out.lat hlb (by omega) hlz⟩⟩
      · obtain rfl : j = m := by omega
        clear kl kt
        go_wp2_with fail
        go_end0
        exact .inl ⟨xs, aj, _, cells, by unfold listR; rw [HR.out]; exact HN.out, by omega, hjl, rfl, HLS.out.tat, HLS.out.lat, by rw [hlen]; exact HLS.out.own, HLS.out.els, HLS.out.oth, HKP.out⟩
  · have HR := Lib.hid hr
    have HH := Lib.hid hoth
    clear hr hoth
    go_wp2_with fail
    exact ⟨rfl, .inr ⟨by unfold listR; rw [HR.out], rfl, ((Oth.refl w tb lb).later ((Below.refl _ _).alloc (Nat.le_refl _) _)).new HH.out (Nat.le_refl _) |>.three z, .slice none 0 0, by rw [HSELF.out]; exact HH.out.at (heap_old _ _ HL.out) hlb (by omega)⟩⟩
end Go.Proofs.YtnanlkoldloolaaDoor

/- Locs: reading: a list of sites. (printed by gen_list.py) -/
namespace Go.Proofs.YtnanlkoldloolaaDoor
open Go.RowKit

theorem info_sites : (Tryd.prog.info? 68).map (fun i => (i.zero, i.size, i.bytes)) = some (some (.agg #[Value.int .i64 0, .int .i64 0]), 2, 16) := by kernel_rfl
set_option maxRecDepth 100000 in
set_option maxHeartbeats 4000000 in
theorem list_sites {α : Type} (cb : Nat) (tb z : Nat) (pv : Value) (l : List Int) (gt : TypeId) (gv : Value) (keep : World → List α → Prop) (one : PR α) (E : Lies α) (hE : LiesOK 68 E)
   (at' lb lo : Nat) (c : Array Value) (T : TypeId) (w : World) (hone : OneOK 61 (fun v => #[v, .pointer (some ⟨z, 0, none⟩), .pointer (some ⟨cb, 0, none⟩)]) 68 [Value.int .i64 0, .int .i64 0] tb z pv l gt gv keep one E w)
   (hkeep0 : ∀ W, Oth w W tb lb → keep W []) (hkeep : ∀ W W' p, keep W p → Older w.heap.size lb W W' → keep W' p) (hs : Src w pv l tb gt gv) (ho : w.heap[tb]? = some (TO pv at' true)) (hl : w.heap[lb]? = some (.cells c T (0, 0))) (hc : c[lo]? = some (.slice none 0 0)) (hlb : lb ≠ tb) (hT : T ≠ 68) (hpl : pv.ownBlock ≠ some lb) (hl0 : lb ≠ 0) (hlz : lb ≠ z) (hzl : z < w.heap.size) (hz0 : z ≠ 0) (hpz : pv.ownBlock ≠ some z) :
   Calls Tryd.prog 60 #[.pointer (some ⟨tb, 0, none⟩), .pointer (some ⟨lb, lo, none⟩), .func (.func 61) #[] #[.pointer (some ⟨z, 0, none⟩), .pointer (some ⟨cb, 0, none⟩)]] w fun e w' =>
     (∃ xs a' v cells, listR (plainR l) one at' = some (xs, a') ∧ at' < a' ∧ a' ≤ l.length ∧ e = .returned (.tuple #[]) ∧ w'.heap[tb]? = some (TO pv a' true) ∧ w'.heap[lb]? = some (.cells (c.setIfInBounds lo v) T (0, 0)) ∧ w'.ownsRow w.heap.size 68 2 v xs.length cells ∧ Els E 2 w' w.heap.size cells xs ∧ Oth3 w w' tb lb z ∧ keep w' xs) ∨
     (listR (plainR l) one at' = none ∧ e = .panicked [{ v := .iface gt gv, recovered := false }] ∧ Oth3 w w' tb lb z ∧ ∃ v, w'.heap[lb]? = some (.cells (c.setIfInBounds lo v) T (0, 0))) := by
  obtain ⟨i0, hi, hz0, hz1, hz2⟩ := info_parts info_sites
  have HI : Hid _ := And.intro hi (And.intro hz0 (And.intro hz1 hz2))
  clear hi hz0 hz1 hz2
  have htl := heap_lt ho
  have hll := heap_lt hl
  have k0 := cell_of hl hc
  have HP := Lib.hid (plain_at tb pv l at' w.heap.size 0 #[.int .i64 0] 3 0 (w.alloc (.cells #[.int .i64 0] 3)) gt gv (hs.later ((Below.refl _ _).alloc (Nat.le_refl _) _)) (heap_old _ _ ho) (heap_new _ _ rfl) (by simp) (by omega))
  have HS := Lib.hid hs
  have HO := Lib.hid ho
  have HL := Lib.hid hl
  have hcs : lo < c.size := (Array.getElem?_eq_some_iff.1 hc).1
  have hself : c.setIfInBounds lo (.slice none 0 0) = c := by
    apply Array.ext_getElem?
    intro i
    rw [Array.getElem?_setIfInBounds]
    split
    · rename_i h; subst h; rw [hc]
    · rfl
  have HSELF := Lib.hid hself
  clear hs ho hl hself
  go_enter Tryd.func60, Tryd.ntmps60
  go_wp2_with fail
  refine HP.out.mono ?_
  rintro e w1 (⟨n, a1, hr, rfl, ht1, hn1, hoth⟩ | ⟨hr, rfl, hoth⟩)
  · obtain ⟨hn0, hn2, ha1, ha2⟩ := plainR_bd HS.out.isB hr
    obtain ⟨m, rfl⟩ : ∃ m : Nat, n = m := ⟨n.toNat, by omega⟩
    have hOW : Oth w w1 tb lb := (((Oth.refl w tb lb).later ((Below.refl _ _).alloc (Nat.le_refl _) _)).new hoth (Nat.le_refl _))
    have hL1 : w1.heap[lb]? = some (.cells c T (0, 0)) := hoth.at (heap_old _ _ HL.out) hlb (by omega)
    have HR := Lib.hid hr
    have kn := cell_of hn1 (show (#[Value.int .i64 0].setIfInBounds 0 (.int .i64 (m : Int)))[0]? = some (.int .i64 m) by simp)
    have T1 := Lib.hid ht1
    have L1 := Lib.hid hL1
    have O1 := Lib.hid hOW
    clear ht1 hn1 hoth hL1 hOW hr HP k0
    go_wp2_with fail
    go_loopw [16] (fun i wr => ∃ (j : Nat) (xs : List α) (aj : Nat) (v : Value) (cells : List Value), j ≤ m ∧ i = .int .i64 j ∧ listN one j a1 = some (xs, aj) ∧ a1 + j ≤ aj ∧ aj ≤ l.length ∧ LS 68 2 E tb lb lo z pv c T w wr j aj v cells cells xs ∧ keep wr xs) (fun i _ => m - (intOf i).toNat)
    case atStart => exact ⟨0, [], a1, _, [], by omega, rfl, rfl, by omega, by omega, ⟨T1.out, by rw [HSELF.out]; exact L1.out, World.ownsRow_nil _ _ _ _, Els.nil, O1.out.three z⟩, hkeep0 _ O1.out⟩
    case round =>
      obtain ⟨j, xs, aj, v, cells, hj, rfl, hn, hja, hjl, hls, hkp⟩ := hrel
      have hlen := listN_len hn
      have kl := cell_of hls.lat (show (c.setIfInBounds lo v)[lo]? = some v by simp [hcs])
      have kt := (to_cells hls.tat).2.2.1
      obtain ⟨va, vc, rfl⟩ := (Rd.of_own hls.own).shape
      have HN := Lib.hid hn
      have HLS := Lib.hid hls
      have HKP := Lib.hid hkp
      have hltl := heap_lt hls.lat
      have hltt := heap_lt hls.tat
      have hlbn : lb ≠ wr.heap.size := by omega
      clear hn hls hkp
      by_cases hjm : j < m
      · have b1 : j + 1 ≤ maxLen := by unfold maxLen; have := HS.out.len; omega
        have b2 : (j + 1) * 16 ≤ 140737488355328 := by have := HS.out.len; omega
        have b3 : w.heap.size ≤ wr.heap.size := HLS.out.oth.size
        have mixed : Tryd.prog.follows Departure.mixedOrders = true := by kernel_rfl
        go_upto_region 7 with fail
        have HBW : Hid (Below wr.heap.size wr (wr.alloc (.cells #[Value.int .i64 0, .int .i64 0] 68))) := (Below.refl wr.heap.size wr).alloc (Nat.le_refl _) _
        have HXW := Lib.hid (heap_new wr (.cells #[Value.int .i64 0, .int .i64 0] 68) rfl)
        have HSW : Hid ((wr.alloc (.cells #[Value.int .i64 0, .int .i64 0] 68)).heap.size = wr.heap.size + 1) := World.size_alloc _ _
        obtain ⟨x0, hx0⟩ : ∃ x0, wr.heap.size = x0 := ⟨_, rfl⟩
        obtain ⟨W, hW⟩ : ∃ W, wr.alloc (.cells #[Value.int .i64 0, .int .i64 0] 68) = W := ⟨_, rfl⟩
        rw [hW] at HBW HXW HSW ⊢
        rw [hx0] at HXW HSW b3 hlbn ⊢
        have HX0 := Lib.hid hx0
        clear hW hx0
        have HLW := Lib.hid (heap_below HBW.out (heap_lt HLS.out.lat) HLS.out.lat)
        have HOW2 := Lib.hid (own_later HLS.out.own HBW.out)
        have kW := cell_of HLW.out (show (c.setIfInBounds lo (.slice va j vc))[lo]? = some (.slice va j vc) by simp [hcs])
        have kWa : ∀ o, (W.alloc o).cell? ⟨lb, lo, none⟩ = some (.slice va j vc) := fun o => cell_of (heap_old _ o HLW.out) (by simp [hcs])
        have kx0 := cell_of HXW.out (show (#[Value.int .i64 0, .int .i64 0] : Array Value)[0]? = _ from rfl)
        have kx1 := cell_of HXW.out (show (#[Value.int .i64 0, .int .i64 0] : Array Value)[1]? = _ from rfl)
        have b4 : w.heap.size ≤ W.heap.size := by have := HSW.out; omega
        have hrow : (Value.slice va j vc).ownBlock ≠ some lb := fun e => by have := (own_blk HLS.out.own lb e).1; omega
        have hBX : Hid (∀ o, Below wr.heap.size wr (W.drew.alloc o)) := fun o => HBW.out.drew.alloc HBW.out.size o
        clear kl kt
        go_cut [] (fun wx => ∃ g2 c2, LS 68 2 E tb lb lo z pv c T w wx (j + 1) aj (.slice (some ⟨g2, 0, none⟩) (j + 1) c2) (cells ++ [Value.int .i64 0, .int .i64 0]) cells xs ∧ keep wx xs)
        case first =>
          go_region_law (first
            | (refine step_append_own_rd rfl _ _ 62 rfl w.heap.size 68 i0 (.agg #[Value.int .i64 0, .int .i64 0]) 2 16 Tryd.underlying62 HI.out.1 HI.out.2.1 HI.out.2.2.1 HI.out.2.2.2 rfl (by decide) _ j cells rfl (own_later HOW2.out (((Below.refl _ _).drew).alloc (by simp) _)) _ 1 [Value.int .i64 0, .int .i64 0] rfl (Rd.of_heap (heap_new _ _ (by simp)) rfl rfl (by decide)) (by simp [Value.oneCell']) b1 b2 (by simp; omega) ?_; intro v2 w2 hown2 hgrow2; obtain ⟨g2, c2, rfl⟩ := own_some hown2; have HL2 := Lib.hid (grown_at hgrow2 (heap_old _ _ HLW.out) hrow); have HF := Lib.hid (HLS.out.grow hE hT (by decide) hlb htl hll (hBX.out _) hgrow2 hown2); have k2 := cell_of HL2.out (show (c.setIfInBounds lo (.slice va j vc))[lo]? = some (.slice va j vc) by simp [hcs]); have z2 := unfrozen_of (i := lo) HL2.out; clear hown2 hgrow2))
          all_goals (go_wp2_with fail; go_meet; exact ⟨_, _, HF.out.1, hkeep _ _ _ HKP.out HF.out.2⟩)
        case rest =>
          obtain ⟨g2, c2, hls2, hkp2⟩ := hcut

          obtain ⟨hgb, cur, hg, hcsz, hcur⟩ := own_blkObj hls2.own
          have hcl : cells.length = j * 2 := by rw [HLS.out.els.1, hlen]
          have HC := Lib.hid (hone _ g2 (j * 2) aj cur xs hkp2 (HS.out.oth3 hls2.oth hpl hpz hl0 hz0) hls2.tat hg (fun i hi => by
            rw [hcur _ (by simp at hi; omega), List.getElem?_append_right (by omega), hcl, Nat.add_sub_cancel_left]) hgb (by omega) (HS.out.fresh hgb) ⟨by omega, hjl⟩)
          have k3 := cell_of hls2.lat (show (c.setIfInBounds lo (.slice (some ⟨g2, 0, none⟩) (j + 1) c2))[lo]? = some (.slice (some ⟨g2, 0, none⟩) (j + 1) c2) by simp [hcs])
          have HLS2 := Lib.hid hls2
          have HG := Lib.hid hg
          have HHC := Lib.hid hlen
          clear hls2 hg hcsz hcur hcl hlen kWa kW kx0 kx1 hkp2 hone
          go_wp2_with fail
          refine HC.out.mono ?_
          rintro e w3 (⟨x, a3, cs, hx, hxa, hxl, rfl, ht3, hcs3, hg3, ho3, he3, hk3⟩ | ⟨hx, rfl, ho3⟩)
          · have HF := Lib.hid (HLS2.out.one hE hlb hlz hzl htl hll HHC.out rfl hcs3 HG.out ht3 hg3 ho3 he3)
            have HX := Lib.hid hx
            have HK3 := Lib.hid hk3
            clear hx ht3 hcs3 hg3 ho3 he3 hk3 HC
            go_wp2_with fail
            exact ⟨⟨j + 1, xs ++ [x], a3, _, _, by omega, by go_num, listN_step HN.out HX.out, by omega, hxl, HF.out, HK3.out⟩, by simp [intOf]; omega⟩
          · have HX := Lib.hid hx
            have HO3 := Lib.hid ho3
            clear hx ho3 HC
            go_wp2_with fail
            exact ⟨rfl, .inr ⟨by unfold listR; rw [HR.out]; exact listN_stop HN.out HX.out (by omega), rfl, HLS2.out.oth.new HO3.out hgb, _, HO3.out.at HLS2.out.lat hlb (by omega) hlz⟩⟩
      · obtain rfl : j = m := by omega
        clear kl kt
        go_wp2_with fail
        go_end0
        exact .inl ⟨xs, aj, _, cells, by unfold listR; rw [HR.out]; exact HN.out, by omega, hjl, rfl, HLS.out.tat, HLS.out.lat, by rw [hlen]; exact HLS.out.own, HLS.out.els, HLS.out.oth, HKP.out⟩
  · have HR := Lib.hid hr
    have HH := Lib.hid hoth
    clear hr hoth
    go_wp2_with fail
    exact ⟨rfl, .inr ⟨by unfold listR; rw [HR.out], rfl, ((Oth.refl w tb lb).later ((Below.refl _ _).alloc (Nat.le_refl _) _)).new HH.out (Nat.le_refl _) |>.three z, .slice none 0 0, by rw [HSELF.out]; exact HH.out.at (heap_old _ _ HL.out) hlb (by omega)⟩⟩
end Go.Proofs.YtnanlkoldloolaaDoor
