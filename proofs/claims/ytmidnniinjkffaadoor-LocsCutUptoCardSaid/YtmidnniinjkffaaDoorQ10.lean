/- Locs: writing: a spot, a stop. -/
import Derived.Test.YtmidnniinjkffaaDoorQ9
import Derived.Test.YtmidnniinjkffaaDoorQ8
import Derived.Test.YtmidnniinjkffaaDoorQ4
import Derived.BigRegion
import Derived.Test.YtmidnniinjkffaaDoorQ5
import Derived.Test.YtmidnniinjkffaaDoorQDv
import Derived.Test.YtmidnniinjkffaaDoorQ6
namespace Go.Proofs.YtmidnniinjkffaaDoor
open Go.RowKit

/-- The box that holds the turner. -/
def BoxW (cb tb : Nat) (w : World) : Prop := w.heap[cb]? = some (.cells #[.pointer (some ⟨tb, 0, none⟩)] 54 (0, 0))
theorem BoxW.cell {cb tb : Nat} {w : World} (h : BoxW cb tb w) : w.cell? ⟨cb, 0, none⟩ = some (.pointer (some ⟨tb, 0, none⟩)) := cell_of h rfl
theorem BoxW.tx {cb base tb z : Nat} {w w' : World} {pv : Value} {L : List Int} (h : BoxW cb tb w) (k : TX base tb z w w' pv L) (h1 : cb ≠ tb) (h2 : cb ≠ z) : BoxW cb tb w' := k.oth _ _ h (notY_cells (by decide)) h1 h2
theorem TX.drew {base tb z : Nat} {w : World} {pv : Value} {L : List Int} (h1 : w.heap[tb]? = some (TO pv 0 false)) (h2 : ownY w base pv L) : TX base tb z w w.drew pv L :=
  ⟨h1, h2, (Below.refl _ _).drew, Nat.le_refl _, fun _ _ h _ _ _ => h⟩

set_option maxRecDepth 100000 in
set_option maxHeartbeats 4000000 in
theorem spot_w (cb base tb : Nat) (w0 : World) (g : Nat) (cg : Array Value) (xs : List (Int × Int)) (hbt : base ≤ tb) (hct : cb ≠ tb) (hg : w0.heap[g]? = some (.cells cg 45 (0, 0))) (hgb : g < base)
   (hc : ∀ j (h : j < xs.length), cg[j * 2]? = some (.int .i64 xs[j].1) ∧ cg[j * 2 + 1]? = some (.int .i64 xs[j].2)) (hn : ∀ x ∈ xs, isN x.1 ∧ isN x.2) :
   OneW 33 (fun v => #[v, .pointer (some ⟨cb, 0, none⟩)]) base tb tb (fun W _ => BoxW cb tb W) w0 g 0 2 (fun j => ((xs[j]?).map spotW).getD []) xs.length := by
  intro j W pv L hj hb hbel hat hown hbd
  rw [Nat.zero_add]
  obtain ⟨c0, c1⟩ := hc j hj
  obtain ⟨n1, n2⟩ := hn _ (List.getElem_mem hj)
  simp only [List.getElem?_eq_getElem hj, Option.map_some, Option.getD_some] at hbd ⊢
  obtain ⟨⟨x, y⟩, hx⟩ : ∃ x, xs[j] = x := ⟨_, rfl⟩
  rw [hx] at c0 c1 n1 n2 hbd ⊢
  clear hx
  have hgw : W.heap[g]? = some (.cells cg 45 (0, 0)) := (hbel.block g hgb).trans hg
  have e : spotW (x, y) = numW x.toNat ++ numW y.toNat := numsW_2 x y
  rw [e, List.length_append] at hbd
  rw [e, ← List.append_assoc]
  have T0 := Lib.hid (TX.drew (z := tb) hat hown)
  have HP := Lib.hid (plain_write base tb pv L g (j * 2) cg 45 x W.drew hbt hat hown n1 (by omega) hgw c0 (by decide) (by omega))
  have kb := hb.cell
  have HB := Lib.hid hb
  have HG := Lib.hid hgw
  have mixed : Tryd.prog.follows Departure.mixedOrders = true := by kernel_rfl
  clear hb hat hown hgw e hbel hg
  go_enter Tryd.func33, Tryd.ntmps33
  go_upto_region 0 with fail
  go_still_tail 4, mixed
  go_wp2_with fail
  refine HP.out.mono ?_
  rintro e w1 ⟨rfl, pv1, ht1⟩
  have T1 := Lib.hid (T0.out.trans ht1)
  have kb1 := (HB.out.tx T1.out hct hct).cell
  have HP1 := Lib.hid (plain_write base tb pv1 _ g (j * 2 + 1) cg 45 y w1.drew hbt T1.out.at_ T1.out.own n2 (by rw [List.length_append]; omega) (T1.out.oth _ _ HG.out (notY_cells (by decide)) (by omega) (by omega)) c1 (by decide) (by omega))
  clear ht1 HP kb
  go_upto_region 1 with fail
  go_still_tail 4, mixed
  go_wp2_with fail
  refine HP1.out.mono ?_
  rintro e w2 ⟨rfl, pv2, ht2⟩
  have T2 := Lib.hid (T1.out.trans ((TX.drew (z := tb) T1.out.at_ T1.out.own).trans ht2))
  clear ht2 HP1 kb1
  go_wp2_with fail
  go_end0
  exact ⟨rfl, ⟨pv2, T2.out⟩, HB.out.tx T2.out hct hct⟩

/-- A row whose things are told. -/
theorem rowE_obj {α : Type} {T : TypeId} {K : Nat} {E : Lies α} {w : World} {base : Nat} {v : Value} {xs : List α} (h : rowE T K E w base v xs) : ∃ a cap, v = .slice a xs.length cap ∧ (0 < xs.length → ∃ g cur, a = some ⟨g, 0, none⟩ ∧ base ≤ g ∧ w.heap[g]? = some (.cells cur T (0, 0)) ∧ ∀ i (hi : i < xs.length), ∃ cs, E (xs.take i) w base cs xs[i] ∧ ∀ j, j < K → cur[i * K + j]? = cs[j]?) := by
  obtain ⟨cells, h1, h2⟩ := h
  obtain ⟨a, c, rfl⟩ := (Rd.of_own h1).shape
  refine ⟨a, c, rfl, fun hp => ?_⟩
  rcases h1.2 with ⟨_, h0⟩ | ⟨g, cap, cur, hv, h3, h4, _⟩
  · omega
  · simp only [Value.slice.injEq, true_and] at hv
    obtain ⟨rfl, rfl⟩ := hv
    obtain ⟨h5, cur2, h6, h7, h8⟩ := own_blkObj h1
    rw [h4] at h6
    simp only [Option.some.injEq, Obj.cells.injEq, and_true] at h6
    subst h6
    refine ⟨g, cur, rfl, h3, h4, fun i hi => ?_⟩
    obtain ⟨cs, hE, hcs⟩ := els_at h2 hi
    refine ⟨cs, hE, fun j hj => ?_⟩
    rw [h8 _ (by have : (i + 1) * K ≤ xs.length * K := Nat.mul_le_mul_right _ hi
                 rw [Nat.succ_mul] at this; omega), hcs j hj]

theorem flat_all {α : Type} (W : α → List Int) (xs : List α) : (List.range xs.length).flatMap (fun j => ((xs[j]?).map W).getD []) = xs.flatMap W := by
  rw [range_flat W xs xs.length (Nat.le_refl _), List.take_length]

set_option maxRecDepth 100000 in
set_option maxHeartbeats 4000000 in
theorem stop_w (cb base tb b0 : Nat) (w0 : World) (g : Nat) (cg : Array Value) (xs : List (List (Int × Int))) (hbt : base ≤ tb) (hct : cb ≠ tb) (hg : w0.heap[g]? = some (.cells cg 46 (0, 0))) (hgb : g < base) (hsz : w0.heap.size ≤ base)
   (hc : ∀ j (h : j < xs.length), ∃ v, cg[j]? = some v ∧ rowE 45 2 spotE w0 b0 v xs[j]) (hn : ∀ s ∈ xs, s.length ≤ 2147483647 ∧ ∀ x ∈ s, isN x.1 ∧ isN x.2) :
   OneW 31 (fun v => #[v, .pointer (some ⟨cb, 0, none⟩)]) base tb tb (fun W _ => BoxW cb tb W) w0 g 0 1 (fun j => ((xs[j]?).map stopW).getD []) xs.length := by
  intro j W pv L hj hb hbel hat hown hbd
  rw [Nat.zero_add, Nat.mul_one]
  obtain ⟨v, c0, hrow⟩ := hc j hj
  obtain ⟨n1, n2⟩ := hn _ (List.getElem_mem hj)
  simp only [List.getElem?_eq_getElem hj, Option.map_some, Option.getD_some] at hbd ⊢
  obtain ⟨s, hs⟩ : ∃ s, xs[j] = s := ⟨_, rfl⟩
  rw [hs] at hrow n1 n2 hbd ⊢
  clear hs
  have hgw : W.heap[g]? = some (.cells cg 46 (0, 0)) := (hbel.block g hgb).trans hg
  have kb := hb.cell
  obtain ⟨a, cap, rfl, hobj⟩ := rowE_obj hrow
  obtain ⟨g2, ha, hone⟩ : ∃ g2, (0 < s.length → a = some ⟨g2, 0, none⟩) ∧ OneW 33 (fun v => #[v, .pointer (some ⟨cb, 0, none⟩)]) base tb tb (fun W _ => BoxW cb tb W) w0 g2 0 2 (fun j => ((s[j]?).map spotW).getD []) s.length := by
    by_cases h0 : 0 < s.length
    · obtain ⟨g2, cur, rfl, h1, h2, h3⟩ := hobj h0
      refine ⟨g2, fun _ => rfl, spot_w cb base tb w0 g2 cur s hbt hct h2 (by have := heap_lt h2; omega) (fun i hi => ?_) n2⟩
      obtain ⟨cs, rfl, h5⟩ := h3 i hi
      exact ⟨h5 0 (by omega), h5 1 (by omega)⟩
    · exact ⟨0, fun h => absurd h h0, fun i _ _ _ hi => absurd hi (by omega)⟩
  have e : stopW s = numW s.length ++ (List.range s.length).flatMap (fun j => ((s[j]?).map spotW).getD []) := by
    rw [flat_all]; unfold stopW; rw [numsW_1, Int.toNat_natCast]
  rw [e, List.length_append] at hbd
  have HC := Lib.hid (list_wspot cb base tb tb (fun W _ => BoxW cb tb W) w0 (fun j => ((s[j]?).map spotW).getD []) g j g2 0 s.length cap a cg 46 pv L W hbt hat hown hbel hgw (by decide) c0 ha n1 (by omega) (by omega) hone hb (fun W W' pv L j h k => h.tx k hct hct) (by omega))
  rw [e, ← List.append_assoc]
  clear hb hat hown hbel hgw hg hrow hobj hone e c0
  have hmf : ∀ (fn : Fn) (first cap : Array Value) (w : World), (Instr.makeFunc fn first cap).run Tryd.prog w = .ok (.func fn first cap) w := fun _ _ _ _ => rfl
  go_enter Tryd.func31, Tryd.ntmps31
  go_wp2_with fail
  refine HC.out.mono ?_
  rintro e w1 ⟨rfl, hx⟩
  have HX := Lib.hid hx
  clear hx HC
  go_wp2_with fail
  go_end0
  exact ⟨rfl, HX.out⟩
end Go.Proofs.YtmidnniinjkffaaDoor

/- Locs: writing: a location, a mark. -/
namespace Go.Proofs.YtmidnniinjkffaaDoor
open Go.RowKit

/-- A location that can be written. -/
def locWok (x : LocD) : Prop := isN x.depth ∧ isN x.var ∧ isN x.arg ∧ 1 ≤ x.kind ∧ x.kind ≤ 3 ∧ isI64 x.a ∧ isI64 x.b
theorem TX.objs {base tb z : Nat} {w w' : World} {pv : Value} {L : List Int} (k : TX base tb z w w' pv L) {g : Nat} {c : Array Value} {T : TypeId} {f : Nat × Nat} (h : w.heap[g]? = some (.cells c T f)) (hT : T ≠ 5) (h1 : g ≠ tb) (h2 : g ≠ z) : w'.heap[g]? = some (.cells c T f) := k.oth _ _ h (notY_cells hT) h1 h2

set_option maxRecDepth 100000 in
set_option maxHeartbeats 8000000 in
theorem loc_w (base tb : Nat) (w0 : World) (g : Nat) (cg : Array Value) (xs : List LocD) (hbt : base ≤ tb) (hg : w0.heap[g]? = some (.cells cg 48 (0, 0))) (hgb : g < base)
   (hc : ∀ j (h : j < xs.length), cg[j * 6]? = some (.int .i64 xs[j].depth) ∧ cg[j * 6 + 1]? = some (.int .i64 xs[j].var) ∧ cg[j * 6 + 2]? = some (.int .u8 xs[j].kind) ∧ cg[j * 6 + 3]? = some (.int .i64 xs[j].arg) ∧ cg[j * 6 + 4]? = some (.int .i64 xs[j].a) ∧ cg[j * 6 + 5]? = some (.int .i64 xs[j].b)) (hn : ∀ x ∈ xs, locWok x) :
   OneW 38 (fun v => #[.pointer (some ⟨tb, 0, none⟩), v]) base tb tb (fun _ _ => True) w0 g 0 6 (fun j => ((xs[j]?).map locW).getD []) xs.length := by
  intro j W pv L hj _ hbel hat hown hbd
  rw [Nat.zero_add]
  obtain ⟨c0, c1, c2, c3, c4, c5⟩ := hc j hj
  obtain ⟨n1, n2, n3, n4, n5, n6, n7⟩ := hn _ (List.getElem_mem hj)
  simp only [List.getElem?_eq_getElem hj, Option.map_some, Option.getD_some] at hbd ⊢
  obtain ⟨⟨xd, xv, xk, xr, xa, xb⟩, hx⟩ : ∃ x, xs[j] = x := ⟨_, rfl⟩
  rw [hx] at c0 c1 c2 c3 c4 c5 n1 n2 n3 n4 n5 n6 n7 hbd ⊢
  simp only at c0 c1 c2 c3 c4 c5 n1 n2 n3 n4 n5 n6 n7
  clear hx
  have hgw : W.heap[g]? = some (.cells cg 48 (0, 0)) := (hbel.block g hgb).trans hg
  have e : locW ⟨xd, xv, xk, xr, xa, xb⟩ = numW xd.toNat ++ numW xv.toNat ++ numW xk.toNat ++ (if xk = 1 then [] else numW xr.toNat ++ signW xa) ++ signW xb := by
    unfold locW; rw [numsW_3, numsW_1]
  rw [e] at hbd
  have HE := Lib.hid e
  simp only [List.length_append] at hbd
  have htl := heap_lt hat
  have k2 := cell_of hgw c2
  have T0 : Hid (TX base tb tb W (W.alloc (.cells #[.int .i64 xk] 3)) pv L) := (TX.refl (z := tb) hat hown).later ((Below.refl _ _).alloc (Nat.le_refl _) _) (by omega)
  have G0 : Hid ((W.alloc (.cells #[.int .i64 xk] 3)).heap[g]? = some (.cells cg 48 (0, 0))) := heap_old _ _ hgw
  have K0 : Hid ((W.alloc (.cells #[.int .i64 xk] 3)).heap[W.heap.size]? = some (.cells #[.int .i64 xk] 3 (0, 0))) := heap_new _ _ rfl
  have hgl := heap_lt hgw
  have hwu : IntKind.u8.wrap xk = xk := by rw [IntKind.wrap_u8']; omega
  have HP := Lib.hid (plain_write base tb pv L g (j * 6) cg 48 xd _ hbt T0.out.at_ T0.out.own n1 (by omega) G0.out c0 (by decide) (by omega))
  clear hat hown hgw e hbel hg
  go_enter Tryd.func38, Tryd.ntmps38
  go_wp2_with fail
  refine HP.out.mono ?_
  rintro e w1 ⟨rfl, pv1, ht⟩
  have T1 := Lib.hid (T0.out.trans ht)
  have G1 := Lib.hid (ht.objs G0.out (by decide) (by omega) (by omega))
  have K1 := Lib.hid (ht.objs K0.out (by decide) (by omega) (by omega))
  clear HP ht T0 G0 K0 k2
  have HP := Lib.hid (plain_write base tb pv1 _ g (j * 6 + 1) cg 48 xv _ hbt T1.out.at_ T1.out.own n2 (by simp only [List.length_append]; omega) G1.out c1 (by decide) (by omega))
  go_wp2_with fail
  refine HP.out.mono ?_
  rintro e w2 ⟨rfl, pv2, ht⟩
  have T2 := Lib.hid (T1.out.trans ht)
  have G2 := Lib.hid (ht.objs G1.out (by decide) (by omega) (by omega))
  have K2 := Lib.hid (ht.objs K1.out (by decide) (by omega) (by omega))
  clear HP ht T1 G1 K1
  have HP := Lib.hid (plain_write base tb pv2 _ W.heap.size 0 #[.int .i64 xk] 3 xk _ hbt T2.out.at_ T2.out.own ⟨by omega, by omega⟩ (by simp only [List.length_append]; omega) K2.out rfl (by decide) (by omega))
  go_wp2_with fail
  refine HP.out.mono ?_
  rintro e w3 ⟨rfl, pv3, ht⟩
  have T3 := Lib.hid (T2.out.trans ht)
  have G3 := Lib.hid (ht.objs G2.out (by decide) (by omega) (by omega))
  have K3 := Lib.hid (ht.objs K2.out (by decide) (by omega) (by omega))
  have kk := cell_of K3.out (show (#[Value.int .i64 xk] : Array Value)[0]? = _ from rfl)
  have k2 := cell_of G3.out c2
  have z2 := unfrozen_of (i := j * 6 + 2) G3.out
  have hid := setCell_id k2
  have HID := Lib.hid hid
  clear HP ht T2 G2 K2 hid
  by_cases hk1 : xk = 1
  · subst hk1
    rw [if_pos rfl] at HE hbd
    have HP := Lib.hid (signed_write base tb pv3 _ g (j * 6 + 5) cg 48 xb _ hbt T3.out.at_ T3.out.own n7 (by simp only [List.length_append]; simp only [List.length_nil] at hbd; omega) G3.out c5 (by decide) (by omega))
    go_upto_region 7 with fail
    rw [HID.out]
    go_wp2_with fail
    refine HP.out.mono ?_
    rintro e w4 ⟨rfl, pv4, ht⟩
    have T4 := Lib.hid (T3.out.trans ht)
    clear HP ht kk k2 z2
    go_wp2_with fail
    go_end0
    refine ⟨rfl, ⟨pv4, ?_⟩, trivial⟩
    rw [HE.out]
    simpa only [List.append_assoc, List.append_nil, List.nil_append] using T4.out
  · have hk2 : (xk == 1) = false := by simp [hk1]
    have hk3 : (xk != 1) = true := by simp [hk1]
    rw [if_neg hk1] at HE hbd
    simp only [List.length_append] at hbd
    have HP := Lib.hid (plain_write base tb pv3 _ g (j * 6 + 3) cg 48 xr _ hbt T3.out.at_ T3.out.own n3 (by simp only [List.length_append]; omega) G3.out c3 (by decide) (by omega))
    go_upto_region 7 with fail
    rw [HID.out]
    go_wp2_with fail
    refine HP.out.mono ?_
    rintro e w4 ⟨rfl, pv4, ht⟩
    have T4 := Lib.hid (T3.out.trans ht)
    have G4 := Lib.hid (ht.objs G3.out (by decide) (by omega) (by omega))
    clear HP ht kk k2 z2 G3 T3 HID
    have HP := Lib.hid (signed_write base tb pv4 _ g (j * 6 + 4) cg 48 xa _ hbt T4.out.at_ T4.out.own n6 (by simp only [List.length_append]; omega) G4.out c4 (by decide) (by omega))
    go_wp2_with fail
    refine HP.out.mono ?_
    rintro e w5 ⟨rfl, pv5, ht⟩
    have T5 := Lib.hid (T4.out.trans ht)
    have G5 := Lib.hid (ht.objs G4.out (by decide) (by omega) (by omega))
    clear HP ht T4 G4
    have HP := Lib.hid (signed_write base tb pv5 _ g (j * 6 + 5) cg 48 xb _ hbt T5.out.at_ T5.out.own n7 (by simp only [List.length_append]; omega) G5.out c5 (by decide) (by omega))
    go_wp2_with fail
    refine HP.out.mono ?_
    rintro e w6 ⟨rfl, pv6, ht⟩
    have T6 := Lib.hid (T5.out.trans ht)
    clear HP ht T5 G5
    go_wp2_with fail
    go_end0
    refine ⟨rfl, ⟨pv6, ?_⟩, trivial⟩
    rw [HE.out]
    simpa only [List.append_assoc] using T6.out

set_option maxRecDepth 100000 in
set_option maxHeartbeats 4000000 in
theorem mark_w (cb base tb b0 : Nat) (w0 : World) (g : Nat) (cg : Array Value) (xs : List MarkD) (hbt : base ≤ tb) (hct : cb ≠ tb) (hg : w0.heap[g]? = some (.cells cg 51 (0, 0))) (hgb : g < base) (hsz : w0.heap.size ≤ base)
   (hc : ∀ j (h : j < xs.length), cg[j * 2]? = some (.int .i64 xs[j].stop) ∧ ∃ v, cg[j * 2 + 1]? = some v ∧ rowE 48 6 locE w0 b0 v xs[j].locs) (hn : ∀ m ∈ xs, isN m.stop ∧ m.locs.length ≤ 2147483647 ∧ ∀ x ∈ m.locs, locWok x) :
   OneW 36 (fun v => #[v, .pointer (some ⟨cb, 0, none⟩)]) base tb tb (fun W _ => BoxW cb tb W) w0 g 0 2 (fun j => ((xs[j]?).map markW).getD []) xs.length := by
  intro j W pv L hj hb hbel hat hown hbd
  rw [Nat.zero_add]
  obtain ⟨c0, v, c1, hrow⟩ := hc j hj
  obtain ⟨n1, n2, n3⟩ := hn _ (List.getElem_mem hj)
  simp only [List.getElem?_eq_getElem hj, Option.map_some, Option.getD_some] at hbd ⊢
  obtain ⟨⟨st, ls⟩, hs⟩ : ∃ s, xs[j] = s := ⟨_, rfl⟩
  rw [hs] at c0 hrow n1 n2 n3 hbd ⊢
  simp only at c0 hrow n1 n2 n3
  clear hs
  have hgw : W.heap[g]? = some (.cells cg 51 (0, 0)) := (hbel.block g hgb).trans hg
  have kb := hb.cell
  obtain ⟨a, cap, rfl, hobj⟩ := rowE_obj hrow
  obtain ⟨g2, ha, hone⟩ : ∃ g2, (0 < ls.length → a = some ⟨g2, 0, none⟩) ∧ OneW 38 (fun v => #[.pointer (some ⟨tb, 0, none⟩), v]) base tb tb (fun _ _ => True) w0 g2 0 6 (fun j => ((ls[j]?).map locW).getD []) ls.length := by
    by_cases h0 : 0 < ls.length
    · obtain ⟨g2, cur, rfl, h1, h2, h3⟩ := hobj h0
      refine ⟨g2, fun _ => rfl, loc_w base tb w0 g2 cur ls hbt h2 (by have := heap_lt h2; omega) (fun i hi => ?_) n3⟩
      obtain ⟨cs, rfl, h5⟩ := h3 i hi
      exact ⟨h5 0 (by omega), h5 1 (by omega), h5 2 (by omega), h5 3 (by omega), h5 4 (by omega), h5 5 (by omega)⟩
    · exact ⟨0, fun h => absurd h h0, fun i _ _ _ hi => absurd hi (by omega)⟩
  have e : markW ⟨st, ls⟩ = numW st.toNat ++ (numW ls.length ++ (List.range ls.length).flatMap (fun j => ((ls[j]?).map locW).getD [])) := by
    rw [flat_all]; unfold markW; rw [numsW_2, Int.toNat_natCast, List.append_assoc]
  rw [e] at hbd ⊢
  simp only [List.length_append] at hbd
  have T0 := Lib.hid (TX.drew (z := tb) hat hown)
  have HP := Lib.hid (plain_write base tb pv L g (j * 2) cg 51 st W.drew hbt hat hown n1 (by omega) hgw c0 (by decide) (by omega))
  have HB := Lib.hid hb
  have HG := Lib.hid hgw
  have HB0 := Lib.hid hbel
  have HONE := Lib.hid hone
  have mixed : Tryd.prog.follows Departure.mixedOrders = true := by kernel_rfl
  have hmf : ∀ (fn : Fn) (first cap : Array Value) (w : World), (Instr.makeFunc fn first cap).run Tryd.prog w = .ok (.func fn first cap) w := fun _ _ _ _ => rfl
  clear hb hat hown hgw e hbel hg hrow hobj hone
  go_enter Tryd.func36, Tryd.ntmps36
  go_upto_region 0 with fail
  go_still_tail 4, mixed
  go_wp2_with fail
  refine HP.out.mono ?_
  rintro e w1 ⟨rfl, pv1, ht1⟩
  have T1 := Lib.hid (T0.out.trans ht1)
  have kb1 := (HB.out.tx T1.out hct hct).cell
  have TD := Lib.hid (TX.drew (z := tb) T1.out.at_ T1.out.own)
  have HC := Lib.hid (list_wlocs base tb tb (fun _ _ => True) w0 (fun j => ((ls[j]?).map locW).getD []) g (j * 2 + 1) g2 0 ls.length cap a cg 51 pv1 _ w1.drew hbt T1.out.at_ T1.out.own (HB0.out.trans (T1.out.bel.trans TD.out.bel)) (T1.out.objs HG.out (by decide) (by omega) (by omega)) (by decide) c1 ha n2 (by omega) (by omega) HONE.out trivial (fun _ _ _ _ _ _ _ => trivial) (by simp only [List.length_append]; omega))
  clear ht1 HP kb
  go_upto_region 1 with fail
  go_still_tail 6, mixed
  go_wp2_with fail
  refine HC.out.mono ?_
  rintro e w2 ⟨rfl, ⟨pv2, ht2⟩, _⟩
  have T2 := Lib.hid (T1.out.trans (TD.out.trans ht2))
  clear ht2 HC kb1
  go_wp2_with fail
  go_end0
  refine ⟨rfl, ⟨pv2, ?_⟩, HB.out.tx T2.out hct hct⟩
  simpa only [List.append_assoc] using T2.out
end Go.Proofs.YtmidnniinjkffaaDoor

/- Locs: writing: a site. -/
namespace Go.Proofs.YtmidnniinjkffaaDoor
open Go.RowKit

/-- What the sites' writing goes by: the turner's box, and how far it is. -/
structure SiteW (cb tb z : Nat) (xs : List (Int × Int)) (w : World) (j : Nat) : Prop where
  box : BoxW cb tb w
  last : w.heap[z]? = some (.cells #[.int .i64 (lastOf 0 (xs.take j))] 3 (0, 0))
theorem SiteW.tx {cb tb z base : Nat} {xs : List (Int × Int)} {w w' : World} {j : Nat} {pv : Value} {L : List Int} (h : SiteW cb tb z xs w j) (k : TX base tb tb w w' pv L) (h1 : cb ≠ tb) (h2 : z ≠ tb) : SiteW cb tb z xs w' j :=
  ⟨h.box.tx k h1 h1, k.objs h.last (by decide) h2 h2⟩
theorem TX.setz {base tb z : Nat} {w w1 : World} {pv : Value} {L : List Int} (h : TX base tb z w w1 pv L) {c : Array Value} {T : TypeId} {f : Nat × Nat} (hz : w1.heap[z]? = some (.cells c T f)) (hT : T ≠ 5) (hb : base ≤ z) (hzt : z ≠ tb) (i : Nat) (v : Value) : TX base tb z w (w1.setCell ⟨z, i, none⟩ v) pv L := by
  refine ⟨(Below.heap_setCell _ _ _ _ (Ne.symm hzt)).trans h.at_, ownG_same h.own (fun k hk => Below.heap_setCell _ _ _ _ ?_), h.bel.setCell hb _, by rw [World.size_setCell]; exact h.grew, fun j ob hj hnj h1 h2 => (Below.heap_setCell _ _ _ _ h2).trans (h.oth j ob hj hnj h1 h2)⟩
  intro e
  simp only at e
  subst e
  exact ownG_apart h.own hz (Ne.symm hT) hk

def siteBs (xs : List (Int × Int)) (j : Nat) : List Int := ((xs[j]?).map fun x => numsW [x.1 - lastOf 0 (xs.take j), x.2]).getD []
theorem site_flat (xs : List (Int × Int)) : ∀ k, k ≤ xs.length → (List.range k).flatMap (siteBs xs) = sitesW 0 (xs.take k)
  | 0, _ => by simp [sitesW]
  | k + 1, h => by
    rw [range_snoc, site_flat xs k (by omega), sitesW_succ xs 0 (by omega)]
    simp [siteBs, List.getElem?_eq_getElem (show k < xs.length by omega)]

set_option maxRecDepth 100000 in
set_option maxHeartbeats 8000000 in
theorem site_w (cb base tb z : Nat) (w0 : World) (g : Nat) (cg : Array Value) (xs : List (Int × Int)) (hbt : base ≤ tb) (hct : cb ≠ tb) (hcz : cb ≠ z) (hzt : z ≠ tb) (hbz : base ≤ z) (hg : w0.heap[g]? = some (.cells cg 53 (0, 0))) (hgb : g < base)
   (hc : ∀ j (h : j < xs.length), cg[j * 2]? = some (.int .i64 xs[j].1) ∧ cg[j * 2 + 1]? = some (.int .i64 xs[j].2)) (hn : ∀ j (h : j < xs.length), isN (xs[j].1 - lastOf 0 (xs.take j)) ∧ isN xs[j].1 ∧ isN xs[j].2) :
   OneW 40 (fun v => #[v, .pointer (some ⟨z, 0, none⟩), .pointer (some ⟨cb, 0, none⟩)]) base tb z (SiteW cb tb z xs) w0 g 0 2 (siteBs xs) xs.length := by
  intro j W pv L hj hb hbel hat hown hbd
  rw [Nat.zero_add]
  obtain ⟨c0, c1⟩ := hc j hj
  obtain ⟨n0, n1, n2⟩ := hn j hj
  have hlast := hb.last
  have hnext : lastOf 0 (xs.take (j + 1)) = xs[j].1 := lastOf_take hj
  simp only [siteBs, List.getElem?_eq_getElem hj, Option.map_some, Option.getD_some] at hbd ⊢
  obtain ⟨⟨x, y⟩, hx⟩ : ∃ x, xs[j] = x := ⟨_, rfl⟩
  obtain ⟨S, hS⟩ : ∃ S, lastOf 0 (xs.take j) = S := ⟨_, rfl⟩
  rw [hx] at c0 c1 n0 n1 n2 hbd hnext ⊢
  rw [hS] at hbd n0 hlast ⊢
  have HNX := Lib.hid hnext
  clear hx hS hnext
  simp only at c0 c1 n0 n1 n2 hbd ⊢
  unfold isN at n0 n1 n2
  have hgw : W.heap[g]? = some (.cells cg 53 (0, 0)) := (hbel.block g hgb).trans hg
  have e : numsW [x - S, y] = numW (x - S).toNat ++ numW y.toNat := numsW_2 _ _
  rw [e, List.length_append] at hbd
  rw [e, ← List.append_assoc]
  have htl := heap_lt hat
  have hzl := heap_lt hlast
  have hgl := heap_lt hgw
  have kz := cell_of hlast (show (#[Value.int .i64 S] : Array Value)[0]? = _ from rfl)
  have ks := cell_of hgw c0
  have hbel2 : ∀ o, Below W.heap.size W (W.drew.alloc o) := fun o => (Below.refl W.heap.size W).drew.alloc (Nat.le_refl _) o
  have T0 : Hid (TX base tb tb W (W.drew.alloc (.cells #[.int .i64 (x - S)] 3)) pv L) := (TX.refl (z := tb) hat hown).later (hbel2 _) (by omega)
  have G0 : Hid ((W.drew.alloc (.cells #[.int .i64 (x - S)] 3)).heap[g]? = some (.cells cg 53 (0, 0))) := heap_old W.drew _ hgw
  have Z0 : Hid ((W.drew.alloc (.cells #[.int .i64 (x - S)] 3)).heap[z]? = some (.cells #[.int .i64 S] 3 (0, 0))) := heap_old W.drew _ hlast
  have K0 : Hid ((W.drew.alloc (.cells #[.int .i64 (x - S)] 3)).heap[W.heap.size]? = some (.cells #[.int .i64 (x - S)] 3 (0, 0))) := heap_new W.drew _ rfl
  have B0 : Hid (BoxW cb tb (W.drew.alloc (.cells #[.int .i64 (x - S)] 3))) := heap_old W.drew _ hb.box
  have HP := Lib.hid (plain_write base tb pv L W.heap.size 0 #[.int .i64 (x - S)] 3 (x - S) _ hbt T0.out.at_ T0.out.own n0 (by omega) K0.out rfl (by decide) (by omega))
  have kb := hb.box.cell
  have hwb := heap_lt hb.box
  have mixed : Tryd.prog.follows Departure.mixedOrders = true := by kernel_rfl
  clear hb hat hown hgw e hbel hg hlast hbel2
  go_enter Tryd.func40, Tryd.ntmps40
  go_upto_region 0 with fail
  go_region
  go_wp2_with fail
  refine HP.out.mono ?_
  rintro e w1 ⟨rfl, pv1, ht⟩
  have T1 : Hid (TX base tb z W w1 pv1 (L ++ numW (x - S).toNat)) := (T0.out.trans ht).wide
  have G1 := Lib.hid (ht.objs G0.out (by decide) (by omega) (by omega))
  have Z1 := Lib.hid (ht.objs Z0.out (by decide) (by omega) (by omega))
  have K1 := Lib.hid (ht.objs K0.out (by decide) (by omega) (by omega))
  have B1 := Lib.hid (B0.out.tx ht hct hct)
  clear HP ht T0 G0 Z0 K0 B0 kb kz ks
  have kz := cell_of Z1.out (show (#[Value.int .i64 S] : Array Value)[0]? = _ from rfl)
  have kn := cell_of K1.out (show (#[Value.int .i64 (x - S)] : Array Value)[0]? = _ from rfl)
  have ko := cell_of G1.out c0
  have zo := unfrozen_of (i := j * 2) G1.out
  have zz := unfrozen_of (i := 0) Z1.out
  have HID := Lib.hid (setCell_id ko)
  have hadd : S + (x - S) = x := by omega
  obtain ⟨W2, hW2⟩ : ∃ W2, W2 = w1.setCell ⟨z, 0, none⟩ (.int .i64 x) := ⟨_, rfl⟩
  have T2 : Hid (TX base tb z W W2 pv1 (L ++ numW (x - S).toNat)) := by show TX _ _ _ _ _ _ _; rw [hW2]; exact T1.out.setz Z1.out (by decide) hbz hzt 0 _
  have Z2 : Hid (W2.heap[z]? = some (.cells #[.int .i64 x] 3 (0, 0))) := by show _ = _; rw [hW2, heap_set Z1.out]; rfl
  have B2 : Hid (BoxW cb tb W2) := by show _ = _; rw [hW2]; exact (Below.heap_setCell _ _ _ _ hcz).trans B1.out
  have hgz : g ≠ z := by omega
  have G2 : Hid (W2.heap[g]? = some (.cells cg 53 (0, 0))) := by show _ = _; rw [hW2]; exact (Below.heap_setCell _ _ _ _ hgz).trans G1.out
  have HW2 := Lib.hid hW2
  clear hW2
  go_upto_region 3 with fail
  rw [HID.out]
  go_upto_region 4 with fail
  rw [← HW2.out]
  have TD := Lib.hid (TX.drew (z := tb) T2.out.at_ T2.out.own)
  have kb2 := B2.out.cell
  have HP := Lib.hid (plain_write base tb pv1 _ g (j * 2 + 1) cg 53 y W2.drew hbt T2.out.at_ T2.out.own n2 (by simp only [List.length_append]; omega) G2.out c1 (by decide) (by omega))
  clear kz kn ko zo zz T1 Z1 K1 B1 HW2 HID
  go_still_tail 4, mixed
  go_wp2_with fail
  refine HP.out.mono ?_
  rintro e w3 ⟨rfl, pv3, ht⟩
  have T3 := Lib.hid (TD.out.trans ht)
  have HF := Lib.hid (And.intro (T2.out.trans T3.out.wide) (SiteW.mk (B2.out.tx T3.out hct hct) (xs := xs) (j := j + 1) (z := z) (by rw [HNX.out]; exact T3.out.objs Z2.out (by decide) hzt hzt)))
  clear HP ht
  go_wp2_with fail
  go_end0
  exact ⟨rfl, ⟨pv3, HF.out.1⟩, HF.out.2⟩
end Go.Proofs.YtmidnniinjkffaaDoor

/- Locs: writing: debug information. -/
namespace Go.Proofs.YtmidnniinjkffaaDoor
open Go.RowKit

/-- Debug information as it lies in memory of one's own. -/
structure OwnD (w : World) (base : Nat) (vs vm vt : Value) (d : DebD) : Prop where
  stops : rowE 46 1 stopE w base vs d.stops
  marks : rowE 51 2 markE w base vm d.marks
  sites : rowE 53 2 spotE w base vt d.sites
theorem OwnD.rd {w : World} {base : Nat} {vs vm vt : Value} {d : DebD} (h : OwnD w base vs vm vt d) : RdD w vs vm vt d := ⟨rowE_stops h.stops, rowE_marks h.marks, rowE_spots h.sites⟩

/-- Debug information that can be written. -/
structure CanW (d : DebD) : Prop where
  nstops : d.stops.length ≤ 2147483647
  nmarks : d.marks.length ≤ 2147483647
  nsites : d.sites.length ≤ 2147483647
  stops : ∀ s ∈ d.stops, s.length ≤ 2147483647 ∧ ∀ x ∈ s, isN x.1 ∧ isN x.2
  marks : ∀ m ∈ d.marks, isN m.stop ∧ m.locs.length ≤ 2147483647 ∧ ∀ x ∈ m.locs, locWok x
  sites : ∀ j (h : j < d.sites.length), isN (d.sites[j].1 - lastOf 0 (d.sites.take j)) ∧ isN d.sites[j].1 ∧ isN d.sites[j].2
theorem canW {d : DebD} (hf : formD d = true) (hsg : sgD d) (hlen : (encD d).length ≤ 1000000000) : CanW d := by
  have hr := formD_right hf
  have hl : (bodyW d).length ≤ 1000000000 := by unfold encD at hlen; rw [List.length_append] at hlen; omega
  unfold bodyW at hl
  simp only [List.length_append] at hl
  refine ⟨hr.lens.1, hr.lens.2.1, hr.lens.2.2, fun s hs => ?_, fun m hm => ?_, fun j hj => ?_⟩
  · have h1 := flat_mem (W := stopW) _ hs
    have h2 := flat_len (W := spotW) s (fun x _ => spotW_pos x)
    have h3 : (stopW s).length = (numsW [(s.length : Int)]).length + (s.flatMap spotW).length := by simp only [stopW, List.length_append]
    obtain ⟨j, hj, rfl⟩ := List.getElem_of_mem hs
    exact ⟨by omega, fun x hx => hr.spots j hj x hx⟩
  · have h1 := flat_mem (W := markW) _ hm
    have h2 := flat_len (W := locW) m.locs (fun x _ => locW_pos x)
    have h3 : (markW m).length = (numsW [m.stop, (m.locs.length : Int)]).length + (m.locs.flatMap locW).length := by simp only [markW, List.length_append]
    have h4 := hsg m hm
    obtain ⟨j, hj, rfl⟩ := List.getElem_of_mem hm
    refine ⟨hr.marks j hj, by omega, fun x hx => ?_⟩
    have h6 := hr.locs j hj x hx
    exact ⟨h6.1, h6.2.1, h6.2.2.1, h6.2.2.2.1, h6.2.2.2.2.1, h4 x hx⟩
  · have h5 := hr.sites j hj
    refine ⟨?_, h5.1, h5.2.1⟩
    cases j with
    | zero => simpa [lastOf] using h5.1
    | succ k =>
      have h6 := h5.2.2 k rfl (by omega)
      have h7 := (hr.sites k (by omega)).1
      have h8 := h5.1
      rw [lastOf_take (by omega : k < d.sites.length)]
      unfold isN at h7 h8 ⊢
      omega

theorem nonempty_row {α : Type} {T : TypeId} {K : Nat} {E : Lies α} {w : World} {base : Nat} {v : Value} {xs : List α} (h : rowE T K E w base v xs) : ∃ a cap g, v = .slice a xs.length cap ∧ (0 < xs.length → a = some ⟨g, 0, none⟩ ∧ ∃ cur, w.heap[g]? = some (.cells cur T (0, 0)) ∧ ∀ i (hi : i < xs.length), ∃ cs, E (xs.take i) w base cs xs[i] ∧ ∀ j, j < K → cur[i * K + j]? = cs[j]?) := by
  obtain ⟨a, cap, rfl, h2⟩ := rowE_obj h
  by_cases h0 : 0 < xs.length
  · obtain ⟨g, cur, rfl, _, h3, h4⟩ := h2 h0
    exact ⟨_, cap, g, rfl, fun _ => ⟨rfl, cur, h3, h4⟩⟩
  · exact ⟨a, cap, 0, rfl, fun h => absurd h h0⟩

set_option maxRecDepth 100000 in
set_option maxHeartbeats 8000000 in
theorem all_write (base tb db b0 : Nat) (pv : Value) (L : List Int) (w0 w : World) (vs vm vt : Value) (d : DebD) (hbt : base ≤ tb) (hdt : db ≠ tb) (hat : w.heap[tb]? = some (TO pv 0 false)) (hown : ownY w base pv L) (hd : w.heap[db]? = some (.cells #[vs, vm, vt] 26 (0, 0)))
   (ho : OwnD w0 b0 vs vm vt d) (hsz : w0.heap.size ≤ base) (hb0 : Below base w0 w) (hcw : CanW d) (hbd : L.length + (bodyW d).length + 9 ≤ 140737488355328) :
   Calls Tryd.prog 18 #[.pointer (some ⟨tb, 0, none⟩), .pointer (some ⟨db, 0, none⟩)] w fun e w' => e = .returned (.tuple #[]) ∧ ∃ pv', TX base tb tb w w' pv' (L ++ bodyW d) := by
  have htl := heap_lt hat
  have hdl := heap_lt hd
  have hct : w.heap.size ≠ tb := by omega
  have hcd : w.heap.size ≠ db := by omega
  obtain ⟨sa, scap, sg, rfl, hs⟩ := nonempty_row ho.stops
  obtain ⟨ma, mcap, mg, rfl, hm⟩ := nonempty_row ho.marks
  obtain ⟨ta, tcap, tg, rfl, ht⟩ := nonempty_row ho.sites
  obtain ⟨b1, hb1⟩ : ∃ b1, (List.range d.stops.length).flatMap (fun j => ((d.stops[j]?).map stopW).getD []) = b1 := ⟨_, rfl⟩
  obtain ⟨b2, hb2⟩ : ∃ b2, (List.range d.marks.length).flatMap (fun j => ((d.marks[j]?).map markW).getD []) = b2 := ⟨_, rfl⟩
  obtain ⟨b3, hb3⟩ : ∃ b3, (List.range d.sites.length).flatMap (siteBs d.sites) = b3 := ⟨_, rfl⟩
  have HBO : Hid (bodyW d = numW d.stops.length ++ b1 ++ (numW d.marks.length ++ b2) ++ (numW d.sites.length ++ b3)) := by
    show _ = _
    unfold bodyW
    rw [← hb1, ← hb2, ← hb3, flat_all, flat_all, site_flat _ _ (Nat.le_refl _), List.take_length, numsW_1, numsW_1, numsW_1, Int.toNat_natCast, Int.toNat_natCast, Int.toNat_natCast]
  have hlen : (bodyW d).length = (numW d.stops.length).length + b1.length + (numW d.marks.length).length + b2.length + (numW d.sites.length).length + b3.length := by
    rw [HBO.out]; simp only [List.length_append]; omega
  rw [hlen] at hbd
  clear hlen
  obtain ⟨W, hW⟩ : ∃ W, W = (w.alloc (.cells #[.pointer (some ⟨tb, 0, none⟩)] 54)) := ⟨_, rfl⟩
  have hWs : W.heap.size = w.heap.size + 1 := by rw [hW]; simp
  have hbel : Below w.heap.size w W := by rw [hW]; exact (Below.refl _ _).alloc (Nat.le_refl _) _
  have T0 : Hid (TX base tb tb w W pv L) := (TX.refl (z := tb) hat hown).later hbel (by omega)
  have B0 : Hid (BoxW w.heap.size tb W) := by show _ = _; rw [hW]; exact heap_new _ _ rfl
  have D0 : Hid (W.heap[db]? = some (.cells #[.slice sa d.stops.length scap, .slice ma d.marks.length mcap, .slice ta d.sites.length tcap] 26 (0, 0))) := (hbel.block db hdl).trans hd
  have TD0 := Lib.hid (TX.drew (z := tb) T0.out.at_ T0.out.own)
  have HB0 := Lib.hid (hb0.trans T0.out.bel)
  have hone1 : OneW 31 (fun v => #[v, .pointer (some ⟨w.heap.size, 0, none⟩)]) base tb tb (fun W _ => BoxW w.heap.size tb W) w0 sg 0 1 (fun j => ((d.stops[j]?).map stopW).getD []) d.stops.length := by
    by_cases h0 : 0 < d.stops.length
    · obtain ⟨_, cur, h2, h3⟩ := hs h0
      refine stop_w w.heap.size base tb b0 w0 sg cur d.stops hbt hct h2 (by have := heap_lt h2; omega) hsz (fun i hi => ?_) hcw.stops
      obtain ⟨cs, ⟨v, rfl, h4⟩, h5⟩ := h3 i hi
      exact ⟨v, by simpa using h5 0 (by omega), h4⟩
    · exact fun i _ _ _ hi => absurd hi (by omega)
  have hone2 : OneW 36 (fun v => #[v, .pointer (some ⟨w.heap.size, 0, none⟩)]) base tb tb (fun W _ => BoxW w.heap.size tb W) w0 mg 0 2 (fun j => ((d.marks[j]?).map markW).getD []) d.marks.length := by
    by_cases h0 : 0 < d.marks.length
    · obtain ⟨_, cur, h2, h3⟩ := hm h0
      refine mark_w w.heap.size base tb b0 w0 mg cur d.marks hbt hct h2 (by have := heap_lt h2; omega) hsz (fun i hi => ?_) hcw.marks
      obtain ⟨cs, ⟨v, rfl, h4⟩, h5⟩ := h3 i hi
      exact ⟨h5 0 (by omega), v, h5 1 (by omega), h4⟩
    · exact fun i _ _ _ hi => absurd hi (by omega)
  have hone3 : ∀ z, z ≠ w.heap.size → z ≠ tb → base ≤ z → OneW 40 (fun v => #[v, .pointer (some ⟨z, 0, none⟩), .pointer (some ⟨w.heap.size, 0, none⟩)]) base tb z (SiteW w.heap.size tb z d.sites) w0 tg 0 2 (siteBs d.sites) d.sites.length := fun z hz1 hz2 hz3 => by
    by_cases h0 : 0 < d.sites.length
    · obtain ⟨_, cur, h2, h3⟩ := ht h0
      refine site_w w.heap.size base tb z w0 tg cur d.sites hbt hct (Ne.symm hz1) hz2 hz3 h2 (by have := heap_lt h2; omega) (fun i hi => ?_) hcw.sites
      obtain ⟨cs, rfl, h5⟩ := h3 i hi
      exact ⟨h5 0 (by omega), h5 1 (by omega)⟩
    · exact fun i _ _ _ hi => absurd hi (by omega)
  have C1 := Lib.hid (list_wstops w.heap.size base tb tb (fun W _ => BoxW w.heap.size tb W) w0 _ db 0 sg 0 d.stops.length scap sa _ 26 pv L W.drew hbt T0.out.at_ T0.out.own (HB0.out.trans TD0.out.bel) D0.out (by decide) rfl (fun h => (hs h).1) hcw.nstops hdt hdt hone1 B0.out (fun _ _ _ _ _ h k => h.tx k hct hct) (by rw [hb1]; omega))
  rw [hb1] at C1
  have HO2 := Lib.hid hone2
  have HO3 := Lib.hid hone3
  have HS := Lib.hid hs
  have HM := Lib.hid hm
  have HT := Lib.hid ht
  have HCW := Lib.hid hcw
  have HB2 := Lib.hid hb2
  have HB3 := Lib.hid hb3
  have HWQ := Lib.hid hW
  have kb := B0.out.cell
  have mixed : Tryd.prog.follows Departure.mixedOrders = true := by kernel_rfl
  have hmf : ∀ (fn : Fn) (first cap : Array Value) (w : World), (Instr.makeFunc fn first cap).run Tryd.prog w = .ok (.func fn first cap) w := fun _ _ _ _ => rfl
  clear hat hown hd ho hb0 hcw hb1 hb2 hb3 hW hbel hone1 hone2 hone3 hs hm ht
  go_enter Tryd.func18, Tryd.ntmps18
  go_upto_region 1 with fail
  rw [← HWQ.out]
  go_still_tail 5, mixed
  go_wp2_with fail
  refine C1.out.mono ?_
  rintro e w1 ⟨rfl, ⟨pv1, ht1⟩, hbx⟩
  have T1 := Lib.hid (T0.out.trans (TD0.out.trans ht1))
  have B1 := Lib.hid hbx
  have D1 := Lib.hid ((TD0.out.trans ht1).objs D0.out (by decide) hdt hdt)
  have TD1 := Lib.hid (TX.drew (z := tb) T1.out.at_ T1.out.own)
  have C2 := Lib.hid (list_wmarks w.heap.size base tb tb (fun W _ => BoxW w.heap.size tb W) w0 _ db 1 mg 0 d.marks.length mcap ma _ 26 pv1 _ w1.drew hbt T1.out.at_ T1.out.own (HB0.out.trans ((TD0.out.trans ht1).bel.trans TD1.out.bel)) D1.out (by decide) rfl (fun h => (HM.out h).1) HCW.out.nmarks hdt hdt HO2.out B1.out (fun _ _ _ _ _ h k => h.tx k hct hct) (by rw [HB2.out]; simp only [List.length_append]; omega))
  rw [HB2.out] at C2
  have HB1 := Lib.hid (HB0.out.trans (TD0.out.trans ht1).bel)
  have kb1 := B1.out.cell
  clear ht1 hbx C1 kb T0 TD0 D0 B0 HB0
  go_upto_region 2 with fail
  go_still_tail 5, mixed
  go_wp2_with fail
  refine C2.out.mono ?_
  rintro e w2 ⟨rfl, ⟨pv2, ht2⟩, hbx⟩
  have T2 := Lib.hid (T1.out.trans (TD1.out.trans ht2))
  have B2 := Lib.hid hbx
  have D2 := Lib.hid ((TD1.out.trans ht2).objs D1.out (by decide) hdt hdt)
  have HB2' := Lib.hid (HB1.out.trans (TD1.out.trans ht2).bel)
  have hbw2 : base ≤ w2.heap.size := by have := heap_lt T2.out.at_; omega
  have hw2 : w.heap.size ≤ w2.heap.size := T2.out.grew
  have hcl2 := heap_lt B2.out
  obtain ⟨Z, hZ⟩ : ∃ Z, Z = w2.alloc (.cells #[.int .i64 0] 3) := ⟨_, rfl⟩
  have hbz : Below w2.heap.size w2 Z.drew := by rw [hZ]; exact ((Below.refl _ _).alloc (Nat.le_refl _) _).drew
  have hZs : Z.drew.heap.size = w2.heap.size + 1 := by rw [hZ]; show (w2.alloc _).heap.size = _; simp
  have hz0 : Z.drew.heap[w2.heap.size]? = some (.cells #[.int .i64 0] 3 (0, 0)) := by rw [hZ]; exact heap_new w2 _ rfl
  have TZ := Lib.hid (T2.out.later hbz hbw2)
  have BZ : Hid (BoxW w.heap.size tb Z.drew) := (hbz.block _ hcl2).trans B2.out
  have hdl2 := heap_lt D2.out
  have htl2 := heap_lt T2.out.at_
  have DZ : Hid (Z.drew.heap[db]? = some (.cells #[.slice sa d.stops.length scap, .slice ma d.marks.length mcap, .slice ta d.sites.length tcap] 26 (0, 0))) := (hbz.block db hdl2).trans D2.out
  have C3 := Lib.hid (list_wsites w.heap.size base tb w2.heap.size (SiteW w.heap.size tb w2.heap.size d.sites) w0 _ db 2 tg 0 d.sites.length tcap ta _ 26 pv2 _ Z.drew hbt TZ.out.at_ TZ.out.own (HB2'.out.trans (hbz.mono hbw2)) DZ.out (by decide) rfl (fun h => (HT.out h).1) HCW.out.nsites hdt (by omega) (HO3.out _ (by omega) (by omega) hbw2) ⟨BZ.out, by rw [hz0]; rfl⟩ (fun _ _ _ _ _ h k => h.tx k hct (by omega)) (by rw [HB3.out]; simp only [List.length_append]; omega))
  rw [HB3.out] at C3
  have HZ := Lib.hid hZ
  have kb2 := B2.out.cell
  have kb3 := BZ.out.cell
  clear ht2 hbx C2 kb1 T1 TD1 D1 B1 HB1 hZ hbz hz0 hZs
  go_upto_region 4 with fail
  rw [← HZ.out]
  go_still_tail 5, mixed
  go_wp2_with fail
  refine C3.out.mono ?_
  rintro e w3 ⟨rfl, ⟨pv3, ht3⟩, _⟩
  have TF := Lib.hid (TZ.out.new ht3 hw2)
  clear ht3 C3 kb2 kb3
  go_wp2_with fail
  go_end0
  refine ⟨rfl, pv3, ?_⟩
  rw [HBO.out]
  simpa only [List.append_assoc] using TF.out
end Go.Proofs.YtmidnniinjkffaaDoor

/- Locs: the bytes of debug information. -/
namespace Go.Proofs.YtmidnniinjkffaaDoor
open Go.RowKit

/-- What the package answers when debug information is to be written. -/
def EncIs (d : DebD) (w w' : World) (e : Ending) : Prop :=
  Below w.heap.size w w' ∧ (formD d = true → ∃ v, e = .returned (.tuple #[v, .int .i64 0]) ∧ ownY w' w.heap.size v (encD d)) ∧ (formD d = false → e = .returned (.tuple #[.slice none 0 0, .int .i64 3]))

set_option maxRecDepth 100000 in
set_option maxHeartbeats 8000000 in
theorem lencode_any (b0 : Nat) (vs vm vt : Value) (d : DebD) (w : World) (ho : OwnD w b0 vs vm vt d) (hsg : sgD d) (hlen : formD d = true → (encD d).length ≤ 1000000000) :
   Calls Tryd.prog 9 #[.agg #[vs, vm, vt]] w fun e w' => EncIs d w w' e := by
  obtain ⟨sa, sc, rfl⟩ := ho.rd.stops.shape
  obtain ⟨ma, mc, rfl⟩ := ho.rd.marks.shape
  obtain ⟨ta, tc, rfl⟩ := ho.rd.sites.shape
  obtain ⟨W, hW⟩ : ∃ W, W = w.alloc (.cells #[.slice sa d.stops.length sc, .slice ma d.marks.length mc, .slice ta d.sites.length tc] 26) := ⟨_, rfl⟩
  have hbw : Below w.heap.size w W := by rw [hW]; exact (Below.refl _ _).alloc (Nat.le_refl _) _
  have hWs : W.heap.size = w.heap.size + 1 := by rw [hW]; simp
  have hd0 : W.heap[w.heap.size]? = some (.cells #[.slice sa d.stops.length sc, .slice ma d.marks.length mc, .slice ta d.sites.length tc] 26 (0, 0)) := by rw [hW]; exact heap_new _ _ rfl
  have k0 := cell_of hd0 (show (#[Value.slice sa d.stops.length sc, .slice ma d.marks.length mc, .slice ta d.sites.length tc] : Array Value)[0]? = _ from rfl)
  have k1 := cell_of hd0 (show (#[Value.slice sa d.stops.length sc, .slice ma d.marks.length mc, .slice ta d.sites.length tc] : Array Value)[1]? = _ from rfl)
  have k2 := cell_of hd0 (show (#[Value.slice sa d.stops.length sc, .slice ma d.marks.length mc, .slice ta d.sites.length tc] : Array Value)[2]? = _ from rfl)
  have CF := Lib.hid (form_any _ _ _ d W (ho.rd.later hbw))
  have HD := Lib.hid hd0
  have HBW := Lib.hid hbw
  have HW := Lib.hid hW
  have HO := Lib.hid ho
  have HSG := Lib.hid hsg
  have HLN := Lib.hid hlen
  clear ho hbw hd0 hW hsg hlen
  go_enter Tryd.func9, Tryd.ntmps9
  go_upto_region 1 with fail
  rw [← HW.out]
  go_wp2_with fail
  refine CF.out.mono ?_
  rintro e w1 ⟨rfl, hb1⟩
  have HB1 : Hid (Below w.heap.size w w1) := HBW.out.trans (hb1.mono (by omega))
  have HD1 : Hid (w1.heap[w.heap.size]? = some (.cells #[.slice sa d.stops.length sc, .slice ma d.marks.length mc, .slice ta d.sites.length tc] 26 (0, 0))) := heap_below hb1 (by omega) HD.out
  have hdl := heap_lt HD1.out
  clear hb1 CF k0 k1 k2
  obtain ⟨ff, hff⟩ : ∃ ff, formD d = ff := ⟨_, rfl⟩
  rw [hff]
  have HFF := Lib.hid hff
  clear hff
  cases ff with
  | false =>
    go_wp2_with fail
    go_ret2
    exact ⟨HB1.out, (fun h => by rw [HFF.out] at h; cases h), fun _ => rfl⟩
  | true =>
    have HCW := Lib.hid (canW HFF.out HSG.out (HLN.out HFF.out))
    go_wp2_with fail
    refine (magic_any w1).mono ?_
    rintro e w2 ⟨rfl, rfl⟩
    obtain ⟨W3, hW3⟩ : ∃ W3, W3 = (w1.alloc (.cells #[.int .u8 84, .int .u8 83, .int .u8 76, .int .u8 49] 5)).alloc (TO (.slice (some ⟨w1.heap.size, 0, none⟩) 4 4) 0 false) := ⟨_, rfl⟩
    have hw1 : w.heap.size ≤ w1.heap.size := HB1.out.size
    have hb3 : Below w1.heap.size w1 W3 := by rw [hW3]; exact ((Below.refl _ _).alloc (Nat.le_refl _) _).alloc (by simp) _
    have hat : W3.heap[w1.heap.size + 1]? = some (TO (.slice (some ⟨w1.heap.size, 0, none⟩) 4 4) 0 false) := by rw [hW3]; exact heap_new _ _ (by simp)
    have hown : ownY W3 w.heap.size (.slice (some ⟨w1.heap.size, 0, none⟩) 4 4) magicL := by
      rw [hW3]
      exact ownG_later (ownY_lit w1 w.heap.size magicL hw1 (by simp [magicL])) ((Below.refl _ _).alloc (Nat.le_refl _) _)
    have hb0 : Below w.heap.size w W3 := HB1.out.trans (hb3.mono hw1)
    have C := Lib.hid (all_write w.heap.size (w1.heap.size + 1) w.heap.size b0 _ magicL w W3 _ _ _ d (by omega) (by omega) hat hown (heap_below hb3 hdl HD1.out) HO.out (Nat.le_refl _) hb0 HCW.out (by have h1 := HLN.out HFF.out; rw [encD_len] at h1; simp only [magicL, List.length_cons, List.length_nil]; omega))
    have HB3 := Lib.hid hb0
    have HW3 := Lib.hid hW3
    clear hW3 hb3 hat hown hb0
    go_upto_region 4 with fail
    rw [show ((w1.alloc (.cells #[.int .u8 84, .int .u8 83, .int .u8 76, .int .u8 49] 5)).alloc (.cells #[.slice (some ⟨w1.heap.size, 0, none⟩) 4 4, .int .i64 0, .bool false] 57)) = W3 from HW3.out.symm]
    go_wp2_with fail
    refine C.out.mono ?_
    rintro e w4 ⟨rfl, pv, ht⟩
    have kp := (to_cells ht.at_).1
    have HF := Lib.hid (And.intro (HB3.out.trans ht.bel) ht.own)
    clear ht C
    go_wp2_with fail
    go_ret2
    exact ⟨HF.out.1, (fun _ => ⟨pv, rfl, HF.out.2⟩), fun h => by rw [HFF.out] at h; cases h⟩
end Go.Proofs.YtmidnniinjkffaaDoor

/- Locs: equal bytes; the document's example. -/
namespace Go.Proofs.YtmidnniinjkffaaDoor
open Go.RowKit

set_option maxHeartbeats 1000000 in
theorem sameB_any (v1 v2 : Value) (l m : List Int) (w : World) (h1 : RdB w v1 l) (h2 : RdB w v2 m) (b1 : isB l) (b2 : isB m) :
    Calls Tryd.prog 14 #[v1, v2] w fun e w' => e = .returned (.bool (eqL l m)) ∧ w = w' := by
  have k1 := run_convert_rdB (P := Tryd.prog) h1 Tryd.underlying30 Tryd.underlying5 (dst := 9) Tryd.underlying9
  have k2 := run_convert_rdB (P := Tryd.prog) h2 Tryd.underlying30 Tryd.underlying5 (dst := 9) Tryd.underlying9
  have HE : Hid _ := eqL_str b1 b2
  clear h1 h2 b1 b2
  go_enter Tryd.func14, Tryd.ntmps14
  go_wp2
  go_ret
  exact ⟨ret_bool HE.out, rfl⟩

theorem rowE_later {α : Type} {T T2 : TypeId} {K : Nat} {E : Lies α} (hE : LiesOK T2 E) {w w' : World} {base : Nat} {v : Value} {xs : List α} (h : rowE T K E w base v xs) (hb : Below w.heap.size w w') : rowE T K E w' base v xs :=
  rowE_same hE h fun k _ hk => hb.block k hk
theorem rowE_lit1 {α : Type} {T : TypeId} {K : Nat} {E : Lies α} {T2 : TypeId} (_hE : LiesOK T2 E) (w : World) (base : Nat) (cs : List Value) (x : α) (hb : base ≤ w.heap.size) (hc : cs.length = K) (hx : E [] (w.alloc (.cells cs.toArray T)) base cs x) : rowE T K E (w.alloc (.cells cs.toArray T)) base (.slice (some ⟨w.heap.size, 0, none⟩) 1 1) [x] := by
  refine ⟨cs, ?_, by simp [hc], fun i hi => ?_⟩
  · have := World.ownsRow_lit (e := T) (size := K) w cs.toArray 1 hb (by unfold maxLen; omega) (by simp [hc])
    simpa using this
  · obtain rfl : i = 0 := by simpa using hi
    simpa [← hc] using hx

def exD : DebD := ⟨[[(0, 1)]], [⟨0, [⟨0, 2, 2, 3, 1, 0⟩]⟩], [(5, 0)]⟩
def exB : List Int := [84, 83, 76, 49, 1, 1, 0, 1, 1, 0, 1, 0, 2, 2, 3, 2, 0, 1, 5, 0]
theorem exD_form : formD exD = true := by decide
theorem exD_sg : sgD exD := by
  intro m hm x hx
  simp only [exD, List.mem_singleton] at hm
  subst hm
  simp only [List.mem_singleton] at hx
  subst hx
  exact ⟨⟨by decide, by decide⟩, by decide, by decide⟩
theorem exD_enc : encD exD = exB := by
  simp [encD, bodyW, exD, exB, numsW, numW, stopW, spotW, markW, locW, signW, zig, sitesW, magicL]
  decide

set_option maxRecDepth 100000 in
set_option maxHeartbeats 4000000 in
theorem awake21 (w : World) : Calls Tryd.prog 6 #[] w fun e w' => e = .returned (.bool true) ∧ Below w.heap.size w w' := by
  obtain ⟨W, hW⟩ : ∃ W, W = (((((w.alloc (.cells #[.int .i64 0, .int .i64 1] 45)).alloc (.cells #[.slice (some ⟨w.heap.size, 0, none⟩) 1 1] 46)).alloc (.cells #[.int .i64 0, .int .i64 2, .int .u8 2, .int .i64 3, .int .i64 1, .int .i64 0] 48)).alloc (.cells #[.int .i64 0, .slice (some ⟨w.heap.size + 1 + 1, 0, none⟩) 1 1] 51)).alloc (.cells #[.int .i64 5, .int .i64 0] 53)).alloc (.cells #[.slice (some ⟨w.heap.size + 1, 0, none⟩) 1 1, .slice (some ⟨w.heap.size + 1 + 1 + 1, 0, none⟩) 1 1, .slice (some ⟨w.heap.size + 1 + 1 + 1 + 1, 0, none⟩) 1 1] 26) := ⟨_, rfl⟩
  have HW := Lib.hid hW
  have b1 : ∀ (V : World) (o : Obj), Below V.heap.size V (V.alloc o) := fun V o => (Below.refl _ _).alloc (Nat.le_refl _) _
  have hbw : Hid (Below w.heap.size w W) := by
    show Below _ _ _
    rw [hW]
    exact ((((((Below.refl _ _).alloc (Nat.le_refl _) _).alloc (by simp) _).alloc (by simp; omega) _).alloc (by simp; omega) _).alloc (by simp; omega) _).alloc (by simp; omega) _
  have ho : Hid (OwnD W w.heap.size (.slice (some ⟨w.heap.size + 1, 0, none⟩) 1 1) (.slice (some ⟨w.heap.size + 1 + 1 + 1, 0, none⟩) 1 1) (.slice (some ⟨w.heap.size + 1 + 1 + 1 + 1, 0, none⟩) 1 1) exD) := by
    show OwnD _ _ _ _ _ _
    rw [hW]
    have r1 := rowE_lit1 (T := 45) (spotE_ok 0) w w.heap.size [.int .i64 0, .int .i64 1] (0, 1) (Nat.le_refl _) rfl rfl
    have r2 := rowE_lit1 (T := 46) (E := stopE) stopE_ok (w.alloc (.cells #[.int .i64 0, .int .i64 1] 45)) w.heap.size [.slice (some ⟨w.heap.size, 0, none⟩) 1 1] [(0, 1)] (by simp) rfl ⟨_, rfl, rowE_later (spotE_ok 0) r1 (b1 _ _)⟩
    have r3 := rowE_lit1 (T := 48) (E := locE) (locE_ok 0) ((w.alloc (.cells #[.int .i64 0, .int .i64 1] 45)).alloc (.cells #[.slice (some ⟨w.heap.size, 0, none⟩) 1 1] 46)) w.heap.size [.int .i64 0, .int .i64 2, .int .u8 2, .int .i64 3, .int .i64 1, .int .i64 0] ⟨0, 2, 2, 3, 1, 0⟩ (by simp; omega) rfl rfl
    have r4 := rowE_lit1 (T := 51) (E := markE) markE_ok (((w.alloc (.cells #[.int .i64 0, .int .i64 1] 45)).alloc (.cells #[.slice (some ⟨w.heap.size, 0, none⟩) 1 1] 46)).alloc (.cells #[.int .i64 0, .int .i64 2, .int .u8 2, .int .i64 3, .int .i64 1, .int .i64 0] 48)) w.heap.size [.int .i64 0, .slice (some ⟨w.heap.size + 1 + 1, 0, none⟩) 1 1] ⟨0, [⟨0, 2, 2, 3, 1, 0⟩]⟩ (by simp; omega) rfl ⟨_, rfl, rowE_later (locE_ok 0) (by simpa using r3) (b1 _ _)⟩
    have r5 := rowE_lit1 (T := 53) (E := spotE) (spotE_ok 0) ((((w.alloc (.cells #[.int .i64 0, .int .i64 1] 45)).alloc (.cells #[.slice (some ⟨w.heap.size, 0, none⟩) 1 1] 46)).alloc (.cells #[.int .i64 0, .int .i64 2, .int .u8 2, .int .i64 3, .int .i64 1, .int .i64 0] 48)).alloc (.cells #[.int .i64 0, .slice (some ⟨w.heap.size + 1 + 1, 0, none⟩) 1 1] 51)) w.heap.size [.int .i64 5, .int .i64 0] (5, 0) (by simp; omega) rfl rfl
    simp only [World.size_alloc] at r2 r4 r5
    exact ⟨rowE_later stopE_ok (rowE_later stopE_ok (rowE_later stopE_ok (rowE_later stopE_ok r2 (b1 _ _)) (b1 _ _)) (b1 _ _)) (b1 _ _), rowE_later markE_ok (rowE_later markE_ok r4 (b1 _ _)) (b1 _ _), rowE_later (spotE_ok 0) r5 (b1 _ _)⟩
  have C := Lib.hid (lencode_any w.heap.size _ _ _ exD W ho.out exD_sg (fun _ => by rw [exD_enc]; simp [exB]))
  have hd0 : W.heap[w.heap.size + 1 + 1 + 1 + 1 + 1]? = some (.cells #[.slice (some ⟨w.heap.size + 1, 0, none⟩) 1 1, .slice (some ⟨w.heap.size + 1 + 1 + 1, 0, none⟩) 1 1, .slice (some ⟨w.heap.size + 1 + 1 + 1 + 1, 0, none⟩) 1 1] 26 (0, 0)) := by rw [hW]; exact heap_new _ _ (by simp)
  have k0 := cell_of hd0 (i := 0) rfl
  have k1 := cell_of hd0 (i := 1) rfl
  have k2 := cell_of hd0 (i := 2) rfl
  clear b1 hW hd0
  go_enter Tryd.func6, Tryd.ntmps6
  go_upto_region 2 with fail
  rw [← HW.out]
  go_wp2_with fail
  refine C.out.mono ?_
  rintro e w1 ⟨hb1, hq, -⟩
  obtain ⟨v, rfl, hy⟩ := hq exD_form
  rw [exD_enc] at hy
  have HY := Lib.hid hy.rd
  have HB1 := Lib.hid (hbw.out.trans (hb1.mono hbw.out.size))
  obtain ⟨va, vc, rfl⟩ := hy.rd.shape
  have hee : eqL exB exB = true := by simp [eqL]
  have hisB : isB exB := by intro x hx; simp [exB] at hx; omega
  have HISB := Lib.hid hisB
  clear hb1 hq hy C k0 k1 k2 hisB
  go_wp2_with (go_at_call 14; refine (sameB_any _ _ exB exB _ (HY.out.alloc _) (Rd.of_heap (heap_new _ _ rfl) rfl rfl (by decide)) HISB.out HISB.out).mono ?_; rw [hee]; rintro e w2 ⟨rfl, rfl⟩)
  go_ret
  exact ⟨rfl, HB1.out.alloc HB1.out.size _⟩
end Go.Proofs.YtmidnniinjkffaaDoor
