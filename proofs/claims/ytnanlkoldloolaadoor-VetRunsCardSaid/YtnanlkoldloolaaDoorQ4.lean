/- Locs: reading: a location. -/
import Derived.Test.YtnanlkoldloolaaDoorQ2
import Derived.Test.YtnanlkoldloolaaDoorQ3
import Derived.BigRegion
namespace Go.Proofs.YtnanlkoldloolaaDoor
open Go.RowKit

def locE : Lies LocD := fun _ _ _ cs x => cs = [.int .i64 x.depth, .int .i64 x.var, .int .u8 x.kind, .int .i64 x.arg, .int .i64 x.a, .int .i64 x.b]
theorem locE_ok (T : TypeId) : LiesOK T locE := ⟨fun h _ => h, fun h _ => h⟩
/-- What kinds are taken. -/
def kd3 (k : Int) : Option Int := if k ≤ 3 then some k else none

theorem signR_bd {l : List Int} {a a' : Nat} {n : Int} (hB : isB l) (h : signR (numR l) a = some (n, a')) : -9223372036854775808 ≤ n ∧ n ≤ 9223372036854775807 ∧ a < a' ∧ a' ≤ l.length := by
  unfold signR at h
  split at h
  · rename_i n1 a1 h1
    simp only [Option.some.injEq, Prod.mk.injEq] at h
    obtain ⟨rfl, rfl⟩ := h
    have := numR_bd hB h1
    unfold unzig
    split <;> omega
  · cases h

/-- A location on the way. -/
structure LocSt (W w : World) (tb ob : Nat) (pv : Value) (a : Nat) (c : Array Value) (k : Int) : Prop where
  tat : w.heap[tb]? = some (TO pv a true)
  oat : w.heap[ob]? = some (.cells c 91 (0, 0))
  kat : w.heap[W.heap.size]? = some (.cells #[.int .i64 k] 3 (0, 0))
  oth : Oth W w tb ob
theorem LocSt.ob {W w w' : World} {tb ob : Nat} {pv : Value} {a a' : Nat} {c c' : Array Value} {k : Int} (h : LocSt W w tb ob pv a c k) (htl : tb < W.heap.size) (hol : ob < W.heap.size) (h1 : w'.heap[tb]? = some (TO pv a' true)) (h2 : w'.heap[ob]? = some (.cells c' 91 (0, 0))) (ho : Oth w w' tb ob) : LocSt W w' tb ob pv a' c' k :=
  ⟨h1, h2, ho.at h.kat (by omega) (by omega), h.oth.trans ho⟩
theorem LocSt.kb {W w w' : World} {tb ob : Nat} {pv : Value} {a a' : Nat} {c : Array Value} {k k' : Int} (h : LocSt W w tb ob pv a c k) (_htl : tb < W.heap.size) (hol : ob < W.heap.size) (hne : ob ≠ tb) (h1 : w'.heap[tb]? = some (TO pv a' true)) (h2 : w'.heap[W.heap.size]? = some (.cells #[.int .i64 k'] 3 (0, 0))) (ho : Oth w w' tb W.heap.size) : LocSt W w' tb ob pv a' c k' :=
  ⟨h1, ho.at h.oat hne (by omega), h2, h.oth.new ho (Nat.le_refl _)⟩
theorem LocSt.set {W w : World} {tb ob i : Nat} {pv : Value} {a : Nat} {c : Array Value} {k : Int} (h : LocSt W w tb ob pv a c k) (hne : ob ≠ tb) (hol : ob < W.heap.size) (v : Value) : LocSt W (w.setCell ⟨ob, i, none⟩ v) tb ob pv a (c.setIfInBounds i v) k :=
  ⟨(Below.heap_setCell _ _ _ _ (Ne.symm hne)).trans h.tat, heap_set h.oat, (Below.heap_setCell _ _ _ _ (show W.heap.size ≠ ob by omega)).trans h.kat, h.oth.set _ _⟩

theorem set_self {c : Array Value} {i : Nat} {v : Value} (h : c[i]? = some v) : c.setIfInBounds i v = c := by
  have hi : i < c.size := (Array.getElem?_eq_some_iff.1 h).1
  apply Array.ext_getElem?
  intro j
  rw [Array.getElem?_setIfInBounds]
  split
  · rename_i e; subst e; rw [h]
  · rfl

set_option maxRecDepth 100000 in
set_option maxHeartbeats 4000000 in
theorem loc_one (tb : Nat) (pv : Value) (l : List Int) (gt : TypeId) (gv : Value) (W0 : World) (hW0 : 0 < W0.heap.size) :
   OneOK 59 (fun v => #[.pointer (some ⟨tb, 0, none⟩), v]) 91 [.int .i64 0, .int .i64 0, .int .u8 0, .int .i64 0, .int .i64 0, .int .i64 0] tb tb pv l gt gv (fun _ _ => True) (locR (plainR l) (signR (numR l)) kd3) locE W0 := by
  intro W ob oo a c p _ hs ht ho hc hob hobt hpo _
  have c0 := hc 0 (by simp)
  have c1 := hc 1 (by simp)
  have c2 := hc 2 (by simp)
  have c3 := hc 3 (by simp)
  have c4 := hc 4 (by simp)
  have c5 := hc 5 (by simp)
  simp only [Nat.add_zero, List.getElem?_cons_zero, List.getElem?_cons_succ] at c0 c1 c2 c3 c4 c5
  have hcsz : oo + 5 < c.size := (Array.getElem?_eq_some_iff.1 c5).1
  have htl := heap_lt ht
  have hol := heap_lt ho
  have k2 := cell_of ho c2
  have hpk : pv.ownBlock ≠ some W.heap.size := hs.fresh (Nat.le_refl _)
  have hob0 : ob ≠ 0 := by omega
  have hnb : W.heap.size ≠ tb := by omega
  have hnb0 : W.heap.size ≠ 0 := by omega
  have S0 := Lib.hid (show LocSt W (W.alloc (.cells #[.int .i64 0] 3)) tb ob pv a c 0 from ⟨heap_old _ _ ht, heap_old _ _ ho, heap_new _ _ rfl, (Oth.refl W tb ob).later ((Below.refl _ _).alloc (Nat.le_refl _) _)⟩)
  have HS := Lib.hid hs
  have HSS : Hid (∀ {w a c k}, LocSt W w tb ob pv a c k → Src w pv l tb gt gv) := fun h => hs.oth h.oth hpo hob0
  clear hs ht ho hc
  have HP := Lib.hid (plain_at tb pv l a ob oo c 91 0 _ gt gv (HSS.out S0.out) S0.out.tat S0.out.oat c0 hobt)
  go_enter Tryd.func59, Tryd.ntmps59
  go_wp2_with fail
  refine HP.out.mono ?_
  rintro e w1 (⟨d, a1, hr1, rfl, ht1, ho1, hoth1⟩ | ⟨hr1, rfl, hoth1⟩)
  case inr =>
    have HF := Lib.hid (And.intro hr1 (S0.out.oth.trans hoth1))
    clear hr1 hoth1 HP
    go_wp2_with fail
    exact ⟨rfl, .inr ⟨by unfold locR; rw [HF.out.1], rfl, HF.out.2.three tb⟩⟩
  have g1 := plainR_bd HS.out.isB hr1
  have S1 := Lib.hid (S0.out.ob htl hol ht1 ho1 hoth1)
  have R1 := Lib.hid hr1
  have HP := Lib.hid (plain_at tb pv l a1 ob (oo + 1) _ 91 0 _ gt gv (HSS.out S1.out) S1.out.tat S1.out.oat (by simp [c1]) hobt)
  clear hr1 ht1 ho1 hoth1 k2
  go_wp2_with fail
  refine HP.out.mono ?_
  rintro e w2 (⟨v, a2, hr2, rfl, ht2, ho2, hoth2⟩ | ⟨hr2, rfl, hoth2⟩)
  case inr =>
    have HF := Lib.hid (And.intro hr2 (S1.out.oth.trans hoth2))
    clear hr2 hoth2 HP
    go_wp2_with fail
    exact ⟨rfl, .inr ⟨by unfold locR; rw [R1.out]; simp only; rw [HF.out.1], rfl, HF.out.2.three tb⟩⟩
  have g2 := plainR_bd HS.out.isB hr2
  have S2 := Lib.hid (S1.out.ob htl hol ht2 ho2 hoth2)
  have R2 := Lib.hid hr2
  have HP := Lib.hid (plain_at tb pv l a2 W.heap.size 0 #[.int .i64 0] 3 0 _ gt gv (HSS.out S2.out) S2.out.tat S2.out.kat (by simp) hnb)
  clear hr2 ht2 ho2 hoth2
  go_wp2_with fail
  refine HP.out.mono ?_
  rintro e w3 (⟨k, a3, hr3, rfl, ht3, ho3, hoth3⟩ | ⟨hr3, rfl, hoth3⟩)
  case inr =>
    have HF := Lib.hid (And.intro hr3 (S2.out.oth.new hoth3 (Nat.le_refl _)))
    clear hr3 hoth3 HP
    go_wp2_with fail
    exact ⟨rfl, .inr ⟨by unfold locR; rw [R1.out]; simp only; rw [R2.out]; simp only; rw [HF.out.1], rfl, HF.out.2.three tb⟩⟩
  have g3 := plainR_bd HS.out.isB hr3
  have S3 := Lib.hid (S2.out.kb htl hol hobt ht3 ho3 hoth3)
  have R3 := Lib.hid hr3
  have kk := cell_of S3.out.kat (show (#[Value.int .i64 k] : Array Value)[0]? = _ from rfl)
  have kg : w3.cell? ⟨0, 0, none⟩ = some (.iface gt gv) := (HSS.out S3.out).gives
  clear hr3 ht3 ho3 hoth3 HP
  have RL : Hid (locR (plainR l) (signR (numR l)) kd3 a = match kd3 k with | some k => locTail (plainR l) (signR (numR l)) d v k a3 | none => none) := by
    show _ = _
    unfold locR; rw [R1.out]; simp only; rw [R2.out]; simp only; rw [R3.out]; rfl
  by_cases hk : 3 < k
  · go_wp2_with fail
    exact ⟨rfl, .inr ⟨by rw [RL.out]; unfold kd3; rw [if_neg (by omega)], rfl, S3.out.oth.three tb⟩⟩
  have hwk : IntKind.u8.wrap k = k := by rw [IntKind.wrap_u8']; omega
  have RL2 : Hid (locR (plainR l) (signR (numR l)) kd3 a = locTail (plainR l) (signR (numR l)) d v k a3) := by
    show _ = _
    rw [RL.out]; unfold kd3; rw [if_pos (by omega)]
  have z2 := unfrozen_of (i := oo + 2) S3.out.oat
  have k2 := cell_of S3.out.oat (show (((c.setIfInBounds oo (.int .i64 d)).setIfInBounds (oo + 1) (.int .i64 v)))[oo + 2]? = some (.int .u8 0) by simp [c2])
  have S4 := Lib.hid (S3.out.set (i := oo + 2) hobt hol (.int .u8 k))
  clear kg kk
  by_cases hk1 : k = 1
  · subst hk1
    have HP := Lib.hid (signed_at tb pv l a3 ob (oo + 5) _ 91 _ gt gv (HSS.out S4.out) S4.out.tat S4.out.oat (by simp [c5]) hobt)
    have kk := cell_of S3.out.kat (show (#[Value.int .i64 1] : Array Value)[0]? = _ from rfl)
    have k4 := cell_of S4.out.oat (show ((((c.setIfInBounds oo (.int .i64 d)).setIfInBounds (oo + 1) (.int .i64 v))).setIfInBounds (oo + 2) (.int .u8 1))[oo + 2]? = some (.int .u8 1) by simp [Array.getElem?_setIfInBounds]; omega)
    go_wp2_with fail
    refine HP.out.mono ?_
    rintro e w5 (⟨b, a5, hr5, rfl, ht5, ho5, hoth5⟩ | ⟨hr5, rfl, hoth5⟩)
    · have hbd := signR_bd HS.out.isB hr5
      have HF := Lib.hid (And.intro hr5 (S4.out.ob htl hol ht5 ho5 hoth5))
      clear hr5 ht5 ho5 hoth5 HP
      go_wp2_with fail
      go_end0
      refine .inl ⟨⟨d, v, 1, 0, 0, b⟩, a5, [.int .i64 d, .int .i64 v, .int .u8 1, .int .i64 0, .int .i64 0, .int .i64 b], ?_, by omega, by omega, rfl, HF.out.2.tat, rfl, ?_, HF.out.2.oth.three tb, rfl, trivial⟩
      · rw [RL2.out]; unfold locTail; rw [if_pos rfl, HF.out.1]
      · rw [HF.out.2.oat]
        simp only [putC, Nat.add_assoc, Nat.reduceAdd]
        rw [set_self (i := oo + 3) (by simp [c3]), set_self (i := oo + 4) (by simp [c4])]
    · have HF := Lib.hid (And.intro hr5 (S4.out.oth.trans hoth5))
      clear hr5 hoth5 HP
      go_wp2_with fail
      exact ⟨rfl, .inr ⟨by rw [RL2.out]; unfold locTail; rw [if_pos rfl, HF.out.1], rfl, HF.out.2.three tb⟩⟩
  · have HP := Lib.hid (plain_at tb pv l a3 ob (oo + 3) _ 91 0 _ gt gv (HSS.out S4.out) S4.out.tat S4.out.oat (by simp [c3]) hobt)
    have kk := cell_of S3.out.kat (show (#[Value.int .i64 k] : Array Value)[0]? = _ from rfl)
    have k4 := cell_of S4.out.oat (show ((((c.setIfInBounds oo (.int .i64 d)).setIfInBounds (oo + 1) (.int .i64 v))).setIfInBounds (oo + 2) (.int .u8 k))[oo + 2]? = some (.int .u8 k) by simp [Array.getElem?_setIfInBounds]; omega)
    have hk2 : (k == 1) = false := by simp [hk1]
    have hk3 : (k != 1) = true := by simp [hk1]
    go_wp2_with fail
    refine HP.out.mono ?_
    rintro e w5 (⟨x, a5, hr5, rfl, ht5, ho5, hoth5⟩ | ⟨hr5, rfl, hoth5⟩)
    case inr =>
      have HF := Lib.hid (And.intro hr5 (S4.out.oth.trans hoth5))
      clear hr5 hoth5 HP
      go_wp2_with fail
      exact ⟨rfl, .inr ⟨by rw [RL2.out]; unfold locTail; rw [if_neg hk1, HF.out.1], rfl, HF.out.2.three tb⟩⟩
    have g5 := plainR_bd HS.out.isB hr5
    have S5 := Lib.hid (S4.out.ob htl hol ht5 ho5 hoth5)
    have R5 := Lib.hid hr5
    have HP := Lib.hid (signed_at tb pv l a5 ob (oo + 4) _ 91 _ gt gv (HSS.out S5.out) S5.out.tat S5.out.oat (by simp [c4]) hobt)
    clear hr5 ht5 ho5 hoth5 kk k4 z2 k2
    go_wp2_with fail
    refine HP.out.mono ?_
    rintro e w6 (⟨y, a6, hr6, rfl, ht6, ho6, hoth6⟩ | ⟨hr6, rfl, hoth6⟩)
    case inr =>
      have HF := Lib.hid (And.intro hr6 (S5.out.oth.trans hoth6))
      clear hr6 hoth6 HP
      go_wp2_with fail
      exact ⟨rfl, .inr ⟨by rw [RL2.out]; unfold locTail; rw [if_neg hk1, R5.out]; simp only; rw [HF.out.1], rfl, HF.out.2.three tb⟩⟩
    have g6 := signR_bd HS.out.isB hr6
    have S6 := Lib.hid (S5.out.ob htl hol ht6 ho6 hoth6)
    have R6 := Lib.hid hr6
    have HP := Lib.hid (signed_at tb pv l a6 ob (oo + 5) _ 91 _ gt gv (HSS.out S6.out) S6.out.tat S6.out.oat (by simp [c5]) hobt)
    clear hr6 ht6 ho6 hoth6
    go_wp2_with fail
    refine HP.out.mono ?_
    rintro e w7 (⟨b, a7, hr7, rfl, ht7, ho7, hoth7⟩ | ⟨hr7, rfl, hoth7⟩)
    case inr =>
      have HF := Lib.hid (And.intro hr7 (S6.out.oth.trans hoth7))
      clear hr7 hoth7 HP
      go_wp2_with fail
      exact ⟨rfl, .inr ⟨by rw [RL2.out]; unfold locTail; rw [if_neg hk1, R5.out]; simp only; rw [R6.out]; simp only; rw [HF.out.1], rfl, HF.out.2.three tb⟩⟩
    have g7 := signR_bd HS.out.isB hr7
    have HF := Lib.hid (And.intro hr7 (S6.out.ob htl hol ht7 ho7 hoth7))
    clear hr7 ht7 ho7 hoth7 HP
    go_wp2_with fail
    go_end0
    refine .inl ⟨⟨d, v, k, x, y, b⟩, a7, [.int .i64 d, .int .i64 v, .int .u8 k, .int .i64 x, .int .i64 y, .int .i64 b], ?_, by omega, by omega, rfl, HF.out.2.tat, rfl, ?_, HF.out.2.oth.three tb, rfl, trivial⟩
    · rw [RL2.out]; unfold locTail; rw [if_neg hk1, R5.out]; simp only; rw [R6.out]; simp only; rw [HF.out.1]
    · rw [HF.out.2.oat]
      simp only [putC, Nat.add_assoc, Nat.reduceAdd]
end Go.Proofs.YtnanlkoldloolaaDoor

/- Locs: reading: a mark; a site. -/
namespace Go.Proofs.YtnanlkoldloolaaDoor
open Go.RowKit

def markE : Lies MarkD := fun _ w base cs x => ∃ v, cs = [.int .i64 x.stop, v] ∧ rowE 91 6 locE w base v x.locs
theorem markE_ok : LiesOK 89 markE :=
  ⟨fun ⟨v, h1, h2⟩ hs => ⟨v, h1, rowE_stays (locE_ok _) (by decide) h2 hs⟩, fun ⟨v, h1, h2⟩ hb => ⟨v, h1, rowE_mono (locE_ok 0) h2 hb⟩⟩

abbrev markRd (l : List Int) : PR MarkD := markR (plainR l) (signR (numR l)) kd3

set_option maxRecDepth 100000 in
set_option maxHeartbeats 4000000 in
theorem mark_one (cb tb : Nat) (pv : Value) (l : List Int) (gt : TypeId) (gv : Value) (W0 : World) (hcb : cb < W0.heap.size) (_htl : tb < W0.heap.size) (hct : cb ≠ tb) :
   OneOK 57 (fun v => #[v, .pointer (some ⟨cb, 0, none⟩)]) 89 [.int .i64 0, .slice none 0 0] tb tb pv l gt gv (fun W _ => Box cb tb W) (markRd l) markE W0 := by
  intro W ob oo a c p hb hs ht ho hc hob hobt hpo _
  have c0 := hc 0 (by simp)
  have c1 := hc 1 (by simp)
  simp only [Nat.add_zero, List.getElem?_cons_zero, List.getElem?_cons_succ] at c0 c1
  have hcsz : oo + 1 < c.size := (Array.getElem?_eq_some_iff.1 c1).1
  have hcbo : cb ≠ ob := by omega
  have ob0 : ob ≠ 0 := by omega
  have kb : W.cell? ⟨cb, 0, none⟩ = some (.pointer (some ⟨tb, 0, none⟩)) := hb
  have HB := Lib.hid hb
  have HS := Lib.hid hs
  have HT := Lib.hid ht
  have mixed : Tryd.prog.follows Departure.mixedOrders = true := by kernel_rfl
  have HP := Lib.hid (plain_at tb pv l a ob oo c 89 0 W.drew gt gv (hs.later (Below.refl _ _).drew) ht ho c0 hobt)
  clear hb hs ht ho hc
  have hmf : ∀ (fn : Fn) (first cap : Array Value) (w : World), (Instr.makeFunc fn first cap).run Tryd.prog w = .ok (.func fn first cap) w := fun _ _ _ _ => rfl
  go_enter Tryd.func57, Tryd.ntmps57
  go_upto_region 0 with fail
  go_still_tail 4, mixed
  go_wp2_with fail
  refine HP.out.mono ?_
  rintro e w1 (⟨n, a1, hr, rfl, ht1, ho1, hoth⟩ | ⟨hr, rfl, hoth⟩)
  · have hbd := plainR_bd HS.out.isB hr
    have hoth1 : Oth W w1 tb ob := (Oth.refl W tb ob).later (Below.refl _ _).drew |>.trans hoth
    have kb1 : w1.cell? ⟨cb, 0, none⟩ = some (.pointer (some ⟨tb, 0, none⟩)) := HB.out.oth3 (hoth1.three tb) hct hcbo hct
    have hs1 : Src w1.drew pv l tb gt gv := (HS.out.oth hoth1 hpo ob0).later (Below.refl _ _).drew
    have hbw : cb < w1.drew.heap.size := Box.lt (w := w1) kb1
    have htw : tb < w1.drew.heap.size := heap_lt ht1
    have how : 0 < w1.drew.heap.size := by omega
    have HC := Lib.hid (list_locs 0 tb tb pv l gt gv (fun _ _ => True) (locR (plainR l) (signR (numR l)) kd3) locE (locE_ok _) a1 ob (oo + 1) _ 89 w1.drew (loc_one tb pv l gt gv w1.drew how)
      (fun _ _ => trivial) (fun _ _ _ _ _ => trivial) hs1 ht1 ho1 (by simp [c1]) hobt (by decide) hpo ob0 hobt htw hs1.tb0 hs1.ne)
    have HR := Lib.hid hr
    have HO1 := Lib.hid hoth1
    have HB1 : Hid (Box cb tb w1) := kb1
    clear hr ht1 ho1 hoth hoth1 HP kb hs1 hbw htw how
    go_upto_region 1 with fail
    go_still_tail 6, mixed
    go_wp2_with fail
    refine HC.out.mono ?_
    rintro e w2 (⟨xs, a2, v, cells, hr2, ha2, hl2, rfl, ht2, ho2, hown, hels, hoth2, _⟩ | ⟨hr2, rfl, hoth2, _⟩)
    · have hoth3 : Oth w1 w2 tb ob := (Oth.refl w1 tb ob).later (Below.refl _ _).drew |>.trans hoth2.two
      have hsz : W.heap.size ≤ w1.drew.heap.size := HO1.out.size
      have HF := Lib.hid (And.intro ht2 (And.intro ho2 (And.intro ((HO1.out.trans hoth3).three tb) (And.intro (HB1.out.oth3 (hoth3.three tb) hct hcbo hct) (rowE_mono (locE_ok 0) (show rowE 91 6 locE w2 w1.drew.heap.size v xs from ⟨cells, hown, hels⟩) hsz)))))
      have HR2 := Lib.hid hr2
      clear hr2 ht2 ho2 hoth2 hoth3 HC hown hels hsz
      go_wp2_with fail
      go_end0
      refine .inl ⟨⟨n, xs⟩, a2, [.int .i64 n, v], by unfold markRd markR; rw [HR.out]; simp only; rw [HR2.out], by omega, by omega, rfl, HF.out.1, rfl, HF.out.2.1, HF.out.2.2.1, ⟨v, rfl, HF.out.2.2.2.2⟩, HF.out.2.2.2.1⟩
    · have HF := Lib.hid (HO1.out.trans ((Oth.refl w1 tb ob).later (Below.refl _ _).drew |>.trans hoth2.two))
      have HR2 := Lib.hid hr2
      clear hr2 hoth2 HC
      go_wp2_with fail
      exact ⟨rfl, .inr ⟨by unfold markRd markR; rw [HR.out]; simp only; rw [HR2.out], rfl, HF.out.three tb⟩⟩
  · have HF := Lib.hid ((Oth.refl W tb ob).later (Below.refl _ _).drew |>.trans hoth)
    have HR := Lib.hid hr
    clear hr hoth HP
    go_wp2_with fail
    exact ⟨rfl, .inr ⟨by unfold markRd markR; rw [HR.out], rfl, HF.out.three tb⟩⟩
end Go.Proofs.YtnanlkoldloolaaDoor

/- Locs: reading: a site. -/
namespace Go.Proofs.YtnanlkoldloolaaDoor
open Go.RowKit

def sumD (p : List (Int × Int)) : Int := (p.map (·.1)).sum
theorem sumD_snoc (p : List (Int × Int)) (x : Int × Int) : sumD (p ++ [x]) = sumD p + x.1 := by simp [sumD]
def siteE : Lies (Int × Int) := fun p _ _ cs x => cs = [.int .i64 (sumD p + x.1), .int .i64 x.2]
theorem siteE_ok (T : TypeId) : LiesOK T siteE := ⟨fun h _ => h, fun h _ => h⟩

/-- What the sites' reading goes by: the turner's box, and how far it is. -/
structure SiteK (cb tb z : Nat) (w : World) (p : List (Int × Int)) : Prop where
  box : Box cb tb w
  last : w.heap[z]? = some (.cells #[.int .i64 (sumD p)] 3 (0, 0))
  lo : 0 ≤ sumD p
  hi : sumD p ≤ p.length * 2147483647

/-- A site on the way. -/
structure SiteSt (W w : World) (cb tb ob z : Nat) (pv : Value) (a : Nat) (c : Array Value) (k S : Int) : Prop where
  tat : w.heap[tb]? = some (TO pv a true)
  oat : w.heap[ob]? = some (.cells c 68 (0, 0))
  kat : w.heap[W.heap.size]? = some (.cells #[.int .i64 k] 3 (0, 0))
  zat : w.heap[z]? = some (.cells #[.int .i64 S] 3 (0, 0))
  box : Box cb tb w
  oth : Oth3 W w tb ob z

set_option maxRecDepth 100000 in
set_option maxHeartbeats 4000000 in
theorem site_one (cb tb z : Nat) (pv : Value) (l : List Int) (gt : TypeId) (gv : Value) (W0 : World) (hcb : cb < W0.heap.size) (hzl : z < W0.heap.size) (_htl : tb < W0.heap.size) (hct : cb ≠ tb) (hcz : cb ≠ z) (hzt : z ≠ tb) (hz0 : z ≠ 0) (hpz : pv.ownBlock ≠ some z) :
   OneOK 61 (fun v => #[v, .pointer (some ⟨z, 0, none⟩), .pointer (some ⟨cb, 0, none⟩)]) 68 [.int .i64 0, .int .i64 0] tb z pv l gt gv (SiteK cb tb z) (spotR (plainR l)) siteE W0 := by
  intro W ob oo a c p hb hs ht ho hc hob hobt hpo hpa
  have c0 := hc 0 (by simp)
  have c1 := hc 1 (by simp)
  simp only [Nat.add_zero, List.getElem?_cons_zero, List.getElem?_cons_succ] at c0 c1
  have hcsz : oo + 1 < c.size := (Array.getElem?_eq_some_iff.1 c1).1
  have hcbo : cb ≠ ob := by omega
  have hzo : z ≠ ob := by omega
  have ob0 : ob ≠ 0 := by omega
  have hsum : sumD p ≤ 2147483647 * 1000000000 := by
    have h1 := hb.hi
    have h2 := hs.len
    have h3 : (p.length : Int) ≤ 1000000000 := by omega
    omega
  have hsum0 := hb.lo
  obtain ⟨S, hS⟩ : ∃ S, sumD p = S := ⟨_, rfl⟩
  have HSM := Lib.hid hS
  have kb : W.cell? ⟨cb, 0, none⟩ = some (.pointer (some ⟨tb, 0, none⟩)) := hb.box
  have hz := hb.last
  rw [hS] at hsum hsum0 hz
  have kz := cell_of hz (show (#[Value.int .i64 S] : Array Value)[0]? = _ from rfl)
  have ks := cell_of ho c0
  have HB := Lib.hid hb
  have HS := Lib.hid hs
  have HT := Lib.hid ht
  have HO := Lib.hid ho
  have HZ := Lib.hid hz
  have hwb := Box.lt hb.box
  have hwz := heap_lt hz
  have hwo := heap_lt ho
  have hwt := heap_lt ht
  clear hb hs ht ho hc hS hz
  go_enter Tryd.func61, Tryd.ntmps61
  go_upto_region 0 with fail
  go_region
  have hbel : ∀ o, Below W.heap.size W (W.drew.alloc o) := fun o => (Below.refl W.heap.size W).drew.alloc (Nat.le_refl _) o
  have S0 := Lib.hid (show SiteSt W (W.drew.alloc (.cells #[.int .i64 (-S)] 3)) cb tb ob z pv a c (-S) S from ⟨heap_old W.drew _ HT.out, heap_old W.drew _ HO.out, heap_new W.drew _ rfl, heap_old W.drew _ HZ.out, HB.out.box.later (hbel _), ((Oth.refl W tb ob).three z).later (hbel _)⟩)
  have hpk : pv.ownBlock ≠ some W.heap.size := HS.out.fresh (Nat.le_refl _)
  have HSS : Hid (∀ {w a c k S}, SiteSt W w cb tb ob z pv a c k S → Src w pv l tb gt gv) := fun h => HS.out.oth3 h.oth hpo hpz ob0 hz0
  have HP := Lib.hid (plain_at tb pv l a W.heap.size 0 #[.int .i64 (-S)] 3 (-S) _ gt gv (HSS.out S0.out) S0.out.tat S0.out.kat (by simp) (by omega))
  clear ks kz hbel
  go_wp2_with fail
  refine HP.out.mono ?_
  rintro e w1 (⟨d, a1, hr1, rfl, ht1, hn1, hoth1⟩ | ⟨hr1, rfl, hoth1⟩)
  case inr =>
    have HF := Lib.hid (And.intro hr1 (S0.out.oth.new (hoth1.three z) (Nat.le_refl _)))
    clear hr1 hoth1 HP
    go_wp2_with fail
    exact ⟨rfl, .inr ⟨by unfold spotR; rw [HF.out.1], rfl, HF.out.2⟩⟩
  have g1 := plainR_bd HS.out.isB hr1
  have S1 := Lib.hid (show SiteSt W w1 cb tb ob z pv a1 c d S from ⟨ht1, hoth1.at S0.out.oat hobt (by omega), hn1, hoth1.at S0.out.zat hzt (by omega), S0.out.box.oth3 (hoth1.three tb) hct (by omega) hct, S0.out.oth.new (hoth1.three z) (Nat.le_refl _)⟩)
  have R1 := Lib.hid hr1
  clear hr1 ht1 hn1 hoth1 HP kb
  have kz := cell_of S1.out.zat (show (#[Value.int .i64 S] : Array Value)[0]? = _ from rfl)
  have kn := cell_of S1.out.kat (show (#[Value.int .i64 d] : Array Value)[0]? = _ from rfl)
  have ko := cell_of S1.out.oat c0
  have zo := unfrozen_of (i := oo) S1.out.oat
  have zz := unfrozen_of (i := 0) S1.out.zat
  have kb : w1.cell? ⟨cb, 0, none⟩ = some (.pointer (some ⟨tb, 0, none⟩)) := S1.out.box
  have S2 := Lib.hid (show SiteSt W ((w1.setCell ⟨ob, oo, none⟩ (.int .i64 (S + d))).setCell ⟨z, 0, none⟩ (.int .i64 (S + d))) cb tb ob z pv a1 (c.setIfInBounds oo (.int .i64 (S + d))) d (S + d) from by
    have h1 := S1.out
    have hx : ∀ {k o}, k ≠ ob → k ≠ z → w1.heap[k]? = some o → ((w1.setCell ⟨ob, oo, none⟩ (.int .i64 (S + d))).setCell ⟨z, 0, none⟩ (.int .i64 (S + d))).heap[k]? = some o := fun e1 e2 h => (Below.heap_setCell _ _ _ _ e2).trans ((Below.heap_setCell _ _ _ _ e1).trans h)
    refine ⟨hx (Ne.symm hobt) (Ne.symm hzt) h1.tat, (Below.heap_setCell _ _ _ _ (Ne.symm hzo)).trans (heap_set h1.oat), hx (by omega) (by omega) h1.kat, ?_, ?_, ?_⟩
    · have := heap_set (i := 0) (v := .int .i64 (S + d)) ((Below.heap_setCell w1 ⟨ob, oo, none⟩ (.int .i64 (S + d)) z hzo).trans h1.zat)
      rw [this]; rfl
    · obtain ⟨o1, ho1⟩ : ∃ o1, w1.heap[cb]? = some o1 := ⟨_, Array.getElem?_eq_some_iff.2 ⟨Box.lt h1.box, rfl⟩⟩
      unfold Box
      rw [World.cell?_of_block (w := w1) ((hx hcbo hcz ho1).trans ho1.symm)]; exact h1.box
    · exact (h1.oth.set oo _).trans ⟨rfl, rfl, rfl, by simp, fun j _ _ _ h3 => Below.heap_setCell _ _ _ _ h3⟩)
  have kb2 : ((w1.setCell ⟨ob, oo, none⟩ (.int .i64 (S + d))).setCell ⟨z, 0, none⟩ (.int .i64 (S + d))).cell? ⟨cb, 0, none⟩ = some (.pointer (some ⟨tb, 0, none⟩)) := S2.out.box
  have mixed : Tryd.prog.follows Departure.mixedOrders = true := by kernel_rfl
  go_upto_region 4 with fail
  obtain ⟨w2, hw2⟩ : ∃ w2, (w1.setCell ⟨ob, oo, none⟩ (.int .i64 (S + d))).setCell ⟨z, 0, none⟩ (.int .i64 (S + d)) = w2 := ⟨_, rfl⟩
  rw [hw2] at S2 kb2 ⊢
  clear hw2 S1 kb kz kn ko zo zz
  have HP := Lib.hid (plain_at tb pv l a1 ob (oo + 1) _ 68 0 w2.drew gt gv ((HSS.out S2.out).later (Below.refl _ _).drew) S2.out.tat S2.out.oat (by simp [c1]) hobt)
  go_still_tail 4, mixed
  go_wp2_with fail
  refine HP.out.mono ?_
  rintro e w3 (⟨m, a3, hr3, rfl, ht3, ho3, hoth3⟩ | ⟨hr3, rfl, hoth3⟩)
  · have g3 := plainR_bd HS.out.isB hr3
    have hoth4 : Oth w2 w3 tb ob := (Oth.refl w2 tb ob).later (Below.refl _ _).drew |>.trans hoth3
    have hk : SiteK cb tb z w3 (p ++ [(d, m)]) := ⟨S2.out.box.oth3 (hoth4.three tb) hct hcbo hct, by rw [sumD_snoc, HSM.out]; exact hoth4.at S2.out.zat hzt hzo, by rw [sumD_snoc, HSM.out]; show 0 ≤ S + d; omega, by
      have := HB.out.hi
      rw [HSM.out] at this
      rw [sumD_snoc, HSM.out]
      simp only [List.length_append, List.length_cons, List.length_nil]
      show S + d ≤ _
      omega⟩
    have HF := Lib.hid (And.intro hr3 (And.intro ht3 (And.intro ho3 (And.intro (S2.out.oth.trans (hoth4.three z)) hk))))
    clear hr3 ht3 ho3 hoth3 hoth4 hk HP
    go_wp2_with fail
    go_end0
    refine .inl ⟨(d, m), a3, [.int .i64 (S + d), .int .i64 m], by unfold spotR; rw [R1.out]; simp only; rw [HF.out.1], by omega, by omega, rfl, HF.out.2.1, rfl, HF.out.2.2.1, HF.out.2.2.2.1, ?_, HF.out.2.2.2.2⟩
    show _ = [Value.int .i64 (sumD p + d), .int .i64 m]
    rw [HSM.out]
  · have HF := Lib.hid (And.intro hr3 (S2.out.oth.trans (((Oth.refl w2 tb ob).later (Below.refl _ _).drew |>.trans hoth3).three z)))
    clear hr3 hoth3 HP
    go_wp2_with fail
    exact ⟨rfl, .inr ⟨by unfold spotR; rw [R1.out]; simp only; rw [HF.out.1], rfl, HF.out.2⟩⟩
end Go.Proofs.YtnanlkoldloolaaDoor

/- Locs: reading: debug information. -/
namespace Go.Proofs.YtnanlkoldloolaaDoor
open Go.RowKit

theorem rowE_same {α : Type} {T T2 : TypeId} {K : Nat} {E : Lies α} (hE : LiesOK T2 E) {w w' : World} {base : Nat} {v : Value} {xs : List α} (h : rowE T K E w base v xs) (hs : ∀ k, base ≤ k → k < w.heap.size → w'.heap[k]? = w.heap[k]?) : rowE T K E w' base v xs := by
  obtain ⟨cells, h1, h2⟩ := h
  refine ⟨cells, own_same h1 fun k hk => ?_, h2.stays hE fun k ob hk hb _ => (hs k hb (heap_lt hk)).trans hk⟩
  obtain ⟨hb, cur, hc⟩ := own_blk h1 k hk
  exact hs k hb (heap_lt hc)

/-- Debug information as it lies, read into memory of its own. -/
structure DebIn (w : World) (base : Nat) (vs vm vt : Value) (st : List (List (Int × Int))) (ms : List MarkD) (ds : List (Int × Int)) : Prop where
  stops : rowE 84 1 stopE w base vs st
  marks : rowE 89 2 markE w base vm ms
  sites : rowE 68 2 siteE w base vt ds

/-- What is read, the sites as differences. -/
def allR' (l : List Int) : PR (List (List (Int × Int)) × List MarkD × List (Int × Int)) := fun a => match listR (plainR l) (stopR l) a with
  | some (st, b) => match listR (plainR l) (markRd l) b with
    | some (ms, c) => match listR (plainR l) (spotR (plainR l)) c with
      | some (ds, f) => some ((st, ms, ds), f)
      | none => none
    | none => none
  | none => none
theorem allR_eq (l : List Int) (a : Nat) : allR (plainR l) (signR (numR l)) kd3 a = (allR' l a).map fun x => (⟨x.1.1, x.1.2.1, sitesOf 0 x.1.2.2⟩, x.2) := by
  unfold allR allR'
  show (match listR (plainR l) (stopR l) a with | some (st, b) => _ | none => none) = _
  cases listR (plainR l) (stopR l) a with
  | none => rfl
  | some x =>
    obtain ⟨st, b⟩ := x
    show (match listR (plainR l) (markRd l) b with | some (ms, c) => _ | none => none) = Option.map _ (match listR (plainR l) (markRd l) b with | some (ms, c) => _ | none => none)
    cases listR (plainR l) (markRd l) b with
    | none => rfl
    | some y =>
      obtain ⟨ms, c⟩ := y
      show (match listR (plainR l) (spotR (plainR l)) c with | some (ds, f) => _ | none => none) = Option.map _ (match listR (plainR l) (spotR (plainR l)) c with | some (ds, f) => _ | none => none)
      cases listR (plainR l) (spotR (plainR l)) c with
      | none => rfl
      | some z => rfl

set_option maxRecDepth 100000 in
set_option maxHeartbeats 4000000 in
theorem all_read (tb db : Nat) (pv : Value) (l : List Int) (a : Nat) (w : World) (gt : TypeId) (gv : Value) (hs : Src w pv l tb gt gv) (ho : w.heap[tb]? = some (TO pv a true)) (hd : w.heap[db]? = some (.cells #[.slice none 0 0, .slice none 0 0, .slice none 0 0] 64 (0, 0))) (hdb : db ≠ tb) (hd0 : db ≠ 0) (hpd : pv.ownBlock ≠ some db) (_hal : a ≤ l.length) :
   Calls Tryd.prog 42 #[.pointer (some ⟨tb, 0, none⟩), .pointer (some ⟨db, 0, none⟩)] w fun e w' =>
     (∃ st ms ds a' vs vm vt, allR' l a = some ((st, ms, ds), a') ∧ a' ≤ l.length ∧ e = .returned (.tuple #[]) ∧ w'.heap[tb]? = some (TO pv a' true) ∧ w'.heap[db]? = some (.cells #[vs, vm, vt] 64 (0, 0)) ∧ DebIn w' w.heap.size vs vm vt st ms ds ∧ Oth w w' tb db) ∨
     (allR' l a = none ∧ e = .panicked [{ v := .iface gt gv, recovered := false }] ∧ Oth w w' tb db ∧ ∃ vs vm vt, w'.heap[db]? = some (.cells #[vs, vm, vt] 64 (0, 0))) := by
  have htl := heap_lt ho
  have hdl := heap_lt hd
  have HS := Lib.hid hs
  have mixed : Tryd.prog.follows Departure.mixedOrders = true := by kernel_rfl
  have hmf : ∀ (fn : Fn) (first cap : Array Value) (w : World), (Instr.makeFunc fn first cap).run Tryd.prog w = .ok (.func fn first cap) w := fun _ _ _ _ => rfl
  have hbx : w.heap.size ≠ tb := by omega
  have hbd : w.heap.size ≠ db := by omega
  obtain ⟨W, hW⟩ : ∃ W, W = (w.alloc (.cells #[.pointer (some ⟨tb, 0, none⟩)] 110)) := ⟨_, rfl⟩
  have hWs : W.heap.size = w.heap.size + 1 := by rw [hW]; simp
  have B0 : Box w.heap.size tb W.drew := by
    have : W.heap[w.heap.size]? = some (.cells #[.pointer (some ⟨tb, 0, none⟩)] 110 (0, 0)) := by rw [hW]; exact heap_new _ _ rfl
    exact cell_of (w := W) this (by simp)
  have hbel : Below w.heap.size w W.drew := by rw [hW]; exact ((Below.refl w.heap.size w).alloc (Nat.le_refl _) _).drew
  have O0 : Oth w W.drew tb db := (Oth.refl w tb db).later hbel
  have C1 := Lib.hid (list_stops w.heap.size tb tb pv l gt gv (fun W _ => Box w.heap.size tb W) (stopR l) stopE stopE_ok a db 0 _ 64 W.drew (stop_one w.heap.size tb pv l gt gv W.drew (by show _ < W.heap.size; omega) (by show _ < W.heap.size; omega) hbx)
    (fun W' o => B0.oth3 (o.three tb) hbx hbd hbx) (fun W' W'' p h o => h.older o (by show _ < W.heap.size; omega) hbd) (hs.later hbel) (heap_below hbel htl ho) (heap_below hbel hdl hd) (by simp) hdb (by decide) hpd hd0 hdb (by show _ < W.heap.size; omega) hs.tb0 hs.ne)
  have HO := Lib.hid ho
  have HD := Lib.hid hd
  have HB0 := Lib.hid B0
  have HO0 := Lib.hid O0
  have HW := Lib.hid hW
  have kb : W.drew.cell? ⟨w.heap.size, 0, none⟩ = some (.pointer (some ⟨tb, 0, none⟩)) := B0
  clear ho hd hs B0 O0 hbel hW
  go_enter Tryd.func42, Tryd.ntmps42
  go_upto_region 1 with fail
  rw [← HW.out]
  go_still_tail 5, mixed
  go_wp2_with fail
  refine C1.out.mono ?_
  rintro e w1 (⟨st, a1, v1, c1, hr1, ha1, hl1, rfl, ht1, ho1, hw1, he1, hoth1, hb1⟩ | ⟨hr1, rfl, hoth1, v1, hv1⟩)
  case inr =>
    have HF := Lib.hid (And.intro hr1 (And.intro (HO0.out.trans hoth1.two) hv1))
    clear hr1 hoth1 hv1 C1
    go_wp2_with fail
    exact ⟨rfl, .inr ⟨by unfold allR'; rw [HF.out.1], rfl, HF.out.2.1, _, _, _, HF.out.2.2⟩⟩
  have hW1 : W.drew.heap.size = w.heap.size + 1 := hWs
  have O1 : Oth w w1 tb db := HO0.out.trans hoth1.two
  have B1 : Box w.heap.size tb w1 := hb1
  have R1 : rowE 84 1 stopE w1 w.heap.size v1 st := rowE_mono stopE_ok ⟨c1, hw1, he1⟩ (by omega)
  have hd1 : w1.heap[db]? = some (.cells #[v1, .slice none 0 0, .slice none 0 0] 64 (0, 0)) := ho1
  have hsz1 : w.heap.size < w1.heap.size := B1.lt
  have C2 := Lib.hid (list_marks w.heap.size tb tb pv l gt gv (fun W _ => Box w.heap.size tb W) (markRd l) markE markE_ok a1 db 1 _ 64 w1.drew (mark_one w.heap.size tb pv l gt gv w1.drew (by show _ < w1.heap.size; omega) (by show _ < w1.heap.size; omega) hbx)
    (fun W' o => (show Box w.heap.size tb w1.drew from B1).oth3 (o.three tb) hbx hbd hbx) (fun W' W'' p h o => h.older o (by show _ < w1.heap.size; omega) hbd) ((HS.out.oth O1 hpd hd0).later (Below.refl _ _).drew) ht1 hd1 (by simp) hdb (by decide) hpd hd0 hdb (by show _ < w1.heap.size; omega) HS.out.tb0 HS.out.ne)
  have HR1 := Lib.hid (And.intro hr1 R1)
  have HO1 := Lib.hid O1
  have HB1 := Lib.hid B1
  have kb1 : w1.drew.cell? ⟨w.heap.size, 0, none⟩ = some (.pointer (some ⟨tb, 0, none⟩)) := B1
  clear hr1 ht1 ho1 hw1 he1 hoth1 hb1 O1 B1 R1 hd1 C1 kb
  go_upto_region 2 with fail
  go_still_tail 5, mixed
  go_wp2_with fail
  refine C2.out.mono ?_
  rintro e w2 (⟨ms, a2, v2, c2, hr2, ha2, hl2, rfl, ht2, ho2, hw2, he2, hoth2, hb2⟩ | ⟨hr2, rfl, hoth2, v2, hv2⟩)
  case inr =>
    have HF := Lib.hid (And.intro hr2 (And.intro (HO1.out.trans ((Oth.refl w1 tb db).later (Below.refl _ _).drew |>.trans hoth2.two)) hv2))
    clear hr2 hoth2 hv2 C2
    go_wp2_with fail
    exact ⟨rfl, .inr ⟨by unfold allR'; rw [HR1.out.1]; simp only; rw [HF.out.1], rfl, HF.out.2.1, _, _, _, HF.out.2.2⟩⟩
  have o12 : Oth w1 w2 tb db := (Oth.refl w1 tb db).later (Below.refl _ _).drew |>.trans hoth2.two
  have B2 : Box w.heap.size tb w2 := hb2
  have hsm : ∀ {w1 w2 : World}, Oth w1 w2 tb db → ∀ k, w.heap.size ≤ k → k < w1.heap.size → w2.heap[k]? = w1.heap[k]? := fun o k h1 h2 => o.block k h2 (by omega) (by omega)
  have R2 : rowE 84 1 stopE w2 w.heap.size v1 st ∧ rowE 89 2 markE w2 w.heap.size v2 ms := ⟨rowE_same stopE_ok HR1.out.2 (hsm o12), rowE_mono markE_ok ⟨c2, hw2, he2⟩ (by show w.heap.size ≤ w1.heap.size; omega)⟩
  have hd2 : w2.heap[db]? = some (.cells #[v1, v2, .slice none 0 0] 64 (0, 0)) := ho2
  have hsz2 : w.heap.size < w2.heap.size := B2.lt
  obtain ⟨Z, hZ⟩ : ∃ Z, Z = w2.alloc (.cells #[.int .i64 0] 3) := ⟨_, rfl⟩
  have hbz : Below w2.heap.size w2 Z.drew := by rw [hZ]; exact ((Below.refl _ _).alloc (Nat.le_refl _) _).drew
  have hZs : Z.drew.heap.size = w2.heap.size + 1 := by rw [hZ]; show (w2.alloc _).heap.size = _; simp
  have hz0 : Z.drew.heap[w2.heap.size]? = some (.cells #[.int .i64 0] 3 (0, 0)) := by rw [hZ]; exact heap_new w2 _ rfl
  have BZ : Box w.heap.size tb Z.drew := B2.later hbz
  have O2 : Oth w w2 tb db := HO1.out.trans o12
  have C3 := Lib.hid (list_sites w.heap.size tb w2.heap.size pv l gt gv (SiteK w.heap.size tb w2.heap.size) (spotR (plainR l)) siteE (siteE_ok _) a2 db 2 _ 64 Z.drew (site_one w.heap.size tb w2.heap.size pv l gt gv Z.drew (by omega) (by omega) (by omega) hbx (by omega) (by omega) (by omega) (fun e => by have := HS.out.lt _ e; omega))
    (fun W' o => ⟨BZ.oth3 (o.three tb) hbx hbd hbx, by
      have := o.at hz0 (show w2.heap.size ≠ tb by omega) (show w2.heap.size ≠ db by omega)
      rw [this]; rfl, by simp [sumD], by simp [sumD]⟩) (fun W' W'' p h o => ⟨h.box.older o (by omega) hbd, o _ _ h.last (by omega) (by omega), h.lo, h.hi⟩) ((HS.out.oth O2 hpd hd0).later hbz) (heap_below hbz (by omega) ht2) (heap_below hbz (by omega) hd2) (by simp) hdb (by decide) hpd hd0 (by omega) (by omega) (by omega) (fun e => by have := HS.out.lt _ e; omega))
  have HR2 := Lib.hid (And.intro hr2 R2)
  have HO2 := Lib.hid (O2.later hbz)
  have HZ := Lib.hid hZ
  have HBZ := Lib.hid hbz
  have HSM : Hid (∀ {w1 w2 : World}, Oth w1 w2 tb db → ∀ k, w.heap.size ≤ k → k < w1.heap.size → w2.heap[k]? = w1.heap[k]?) := hsm
  have kb2 : w2.cell? ⟨w.heap.size, 0, none⟩ = some (.pointer (some ⟨tb, 0, none⟩)) := B2
  have kb3 : Z.drew.cell? ⟨w.heap.size, 0, none⟩ = some (.pointer (some ⟨tb, 0, none⟩)) := BZ
  clear hr2 ht2 ho2 hw2 he2 hoth2 hb2 O2 B2 R2 hd2 C2 kb1 o12 hZ hbz hz0 BZ hsm hZs
  go_upto_region 4 with fail
  rw [← HZ.out]
  go_still_tail 5, mixed
  go_wp2_with fail
  refine C3.out.mono ?_
  rintro e w3 (⟨ds, a3, v3, c3, hr3, ha3, hl3, rfl, ht3, ho3, hw3, he3, hoth3, hb3⟩ | ⟨hr3, rfl, hoth3, v3, hv3⟩)
  · have OF : Oth w w3 tb db := ⟨hoth3.os.trans HO2.out.os, hoth3.tape.trans HO2.out.tape, hoth3.output.trans HO2.out.output, Nat.le_trans HO2.out.size hoth3.size, fun j hj h1 h2 => (hoth3.block j (Nat.lt_of_lt_of_le hj HO2.out.size) h1 h2 (by omega)).trans (HO2.out.block j hj h1 h2)⟩
    have hs23 : ∀ k, w.heap.size ≤ k → k < w2.heap.size → w3.heap[k]? = w2.heap[k]? := fun k h1 h2 => (hoth3.block k (Nat.lt_of_lt_of_le h2 HBZ.out.size) (by omega) (by omega) (by omega)).trans (HBZ.out.block k h2)
    have hzz : w.heap.size ≤ Z.drew.heap.size := HO2.out.size
    have HF := Lib.hid (And.intro hr3 (And.intro ht3 (And.intro ho3 (And.intro OF (show DebIn w3 w.heap.size v1 v2 v3 st ms ds from ⟨rowE_same stopE_ok HR2.out.2.1 hs23, rowE_same markE_ok HR2.out.2.2 hs23, rowE_mono (siteE_ok 0) ⟨c3, hw3, he3⟩ hzz⟩)))))
    clear hr3 ht3 ho3 hw3 he3 hoth3 hb3 OF hs23 hzz C3 kb2 kb3
    go_wp2_with fail
    go_end0
    exact .inl ⟨st, ms, ds, a3, v1, v2, v3, by unfold allR'; rw [HR1.out.1]; simp only; rw [HR2.out.1]; simp only; rw [HF.out.1], hl3, rfl, HF.out.2.1, HF.out.2.2.1, HF.out.2.2.2.2, HF.out.2.2.2.1⟩
  · have OF : Oth w w3 tb db := ⟨hoth3.os.trans HO2.out.os, hoth3.tape.trans HO2.out.tape, hoth3.output.trans HO2.out.output, Nat.le_trans HO2.out.size hoth3.size, fun j hj h1 h2 => (hoth3.block j (Nat.lt_of_lt_of_le hj HO2.out.size) h1 h2 (by omega)).trans (HO2.out.block j hj h1 h2)⟩
    have HF := Lib.hid (And.intro hr3 (And.intro OF hv3))
    clear hr3 hoth3 hv3 C3 OF kb2 kb3
    go_wp2_with fail
    exact ⟨rfl, .inr ⟨by unfold allR'; rw [HR1.out.1]; simp only; rw [HR2.out.1]; simp only; rw [HF.out.1], rfl, HF.out.2.1, _, _, _, HF.out.2.2⟩⟩
end Go.Proofs.YtnanlkoldloolaaDoor
