/- Vet: VetChecks, walked (what the two checks answer is given). -/
import Derived.Test.YtnanlkoldloolaaDoorQ15
import Derived.Test.YtnanlkoldloolaaDoorQ16
import Derived.Test.YtnanlkoldloolaaDoorQ7
import Derived.Test.YtnanlkoldloolaaDoorQFv
import Derived.Test.YtnanlkoldloolaaDoorQFk
import Derived.Test.YtnanlkoldloolaaDoorQRj
import Derived.Deep.Slices
import Derived.Deep.Fields
import Derived.ChangeSame
import Derived.ProofKit
import Derived.OpenShut
import Derived.Lib.SmallJoins
namespace Go.Proofs.YtnanlkoldloolaaDoor
open Go.RowKit

theorem eqL_refl22 : ∀ l : List Int, eqL l l = true := by
  intro l; induction l with
  | nil => rfl
  | cons x r ih => simp [eqL, ih]

set_option maxRecDepth 100000 in
set_option maxHeartbeats 8000000 in
theorem vetChecks_of (wv : Value) (l : List W) (ev : Value) (el : List (Int × Int)) (m : Int) (dv : Value) (dl : List Int) (w : World) (hv : RdW w wv l) (hev : RdE w ev el) (hdv : RdB w dv dl) (hB : isB dl)
   (gt : TypeId) (gv : Value) (hg : Gives w gt gv)
   (Good : Int → Nat → List (Int × Int) → Prop) (hone : ∀ a b c a' b' c', Good a b c → Good a' b' c' → a = a' ∧ (a = 0 → b = b' ∧ c = c'))
   (HC : dl.length ≤ 20000 → ∀ (W : World) (a b : Value) (pa : Option Addr) (pc : Nat), Below w.heap.size w W → RdW W a l → RdE W b el → RdB W (.slice pa dl.length pc) dl → Calls Tryd.prog 10 #[.agg #[a, b, .int .i64 m, .slice pa dl.length pc]] W fun e w' => (∃ at' er, CheckIs l el m Good at' er ∧ e = .returned (.tuple #[.int .i64 at', .int .i64 er])) ∧ Below W.heap.size W w')
   (HR : dl.length ≤ 20000 → ∀ (W : World) (a b : Value) (pa : Option Addr) (pc : Nat), Below w.heap.size w W → RdW W a l → RdE W b el → RdB W (.slice pa dl.length pc) dl → Calls Tryd.prog 11 #[.agg #[a, b, .int .i64 m, .slice pa dl.length pc]] W fun e w' => (∃ at' er, CheckIs l el m Good at' er ∧ e = .returned (.tuple #[.int .i64 at', .int .i64 er])) ∧ Below W.heap.size W w') :
   Calls Tryd.prog 3 #[.agg #[wv, ev, .int .i64 m, dv]] w fun e w' => e = .returned (.bool true) ∧ Below w.heap.size w w' := by
  have hl9 : l.length ≤ 9223372036854775807 := Rd.le hv
  have hd9 : dl.length ≤ 9223372036854775807 := Rd.le hdv
  obtain ⟨wa, wc, rfl⟩ := Rd.shape hv
  obtain ⟨ea, ec, rfl⟩ := Rd.shape hev
  obtain ⟨da, dc, rfl⟩ := Rd.shape hdv
  have HV := Lib.hid hv
  have HE := Lib.hid hev
  have HD := Lib.hid hdv
  have HBB := Lib.hid hB
  have HG := Lib.hid hg
  have HCC := Lib.hid HC
  have HRR := Lib.hid HR
  have HONE := Lib.hid hone
  clear hv hev hdv hB hg HC HR hone
  go_enter Tryd.func3, Tryd.ntmps3
  go_wp2_with fail
  have HB0 : Hid (Below w.heap.size w (w.alloc (.cells #[.slice wa l.length wc, .slice ea el.length ec, .int .i64 m, .slice da dl.length dc] 26))) := (Below.refl _ _).alloc (Nat.le_refl _) _
  have KK : Hid (∀ W : World, Below (w.heap.size + 1) (w.alloc (.cells #[.slice wa l.length wc, .slice ea el.length ec, .int .i64 m, .slice da dl.length dc] 26)) W → (W.cell? ⟨w.heap.size, 0, none⟩ = some (.slice wa l.length wc) ∧ W.cell? ⟨w.heap.size, 1, none⟩ = some (.slice ea el.length ec)) ∧ (W.cell? ⟨w.heap.size, 2, none⟩ = some (.int .i64 m) ∧ W.cell? ⟨w.heap.size, 3, none⟩ = some (.slice da dl.length dc)) ∧ Below w.heap.size w W ∧ w.heap.size < W.heap.size) := fun W h =>
    ⟨⟨by rw [h.cell (by simp)]; simp, by rw [h.cell (by simp)]; simp⟩, ⟨by rw [h.cell (by simp)]; simp, by rw [h.cell (by simp)]; simp⟩, HB0.out.trans (h.mono (by omega)), by have := h.size; simp at this; omega⟩
  refine (awake_any _ gt gv (gives_below HG.out ((Below.refl _ _).alloc (Nat.le_refl _) _))).mono ?_
  rintro e w1 ⟨rfl, hb1⟩
  have hb1 : Below (w.heap.size + 1) (w.alloc (.cells #[.slice wa l.length wc, .slice ea el.length ec, .int .i64 m, .slice da dl.length dc] 26)) w1 := hb1.mono (by simp)
  obtain ⟨⟨a0, a1⟩, ⟨a2, a3⟩, hw1, hs1⟩ := KK.out w1 hb1
  have HB1 := Lib.hid hb1
  have HW1 := Lib.hid hw1
  clear hb1 hw1
  go_wp2_with fail
  refine (few22_any wa l.length wc _ el m da dl.length dc w1 (Rd.later HE.out HW1.out) hl9 hd9).mono ?_
  rintro e w2 ⟨⟨b, hfew, rfl⟩, hb2⟩
  have hb2 := HB1.out.trans (hb2.mono (by have := HB1.out.size; simpa using this))
  obtain ⟨⟨b0, b1⟩, ⟨b2, b3⟩, hw2, hs2⟩ := KK.out w2 hb2
  have HB2 := Lib.hid hb2
  have HW2 := Lib.hid hw2
  clear hb2 hw2 a0 a1 a2 a3
  cases b
  · clear hfew
    go_wp2_with fail
    go_ret
    exact ⟨rfl, HW2.out⟩
  obtain ⟨h15, h50, h20, -⟩ := hfew rfl
  clear hfew
  have HC1 := Lib.hid (HCC.out h20)
  have HR1 := Lib.hid (HRR.out h20)
  go_wp2_with fail
  refine (twin22_any _ l _ el m _ dl w2 (Rd.later HV.out HW2.out) (Rd.later HE.out HW2.out) (Rd.later HD.out HW2.out) (by omega) (by omega) (by omega)).mono ?_
  rintro e w3 ⟨us, ue, ud, rfl, hu, hue, hud, hb3⟩
  have hb3 := HB2.out.trans (hb3.mono (by have := HB2.out.size; simpa using this))
  obtain ⟨⟨c0, c1⟩, ⟨c2, c3⟩, hw3, hs3⟩ := KK.out w3 hb3
  have HB3 := Lib.hid hb3
  have HW3 := Lib.hid hw3
  have hu := Rd.of_own hu
  have hue := Rd.of_own hue
  have hud := Rd.of_own hud
  obtain ⟨ua, uc, rfl⟩ := hu.shape
  obtain ⟨va, vc, rfl⟩ := hue.shape
  obtain ⟨xa, xc, rfl⟩ := hud.shape
  have HU : Hid (RdW w3 (.slice ua l.length uc) l) := hu
  have HUE : Hid (RdE w3 (.slice va el.length vc) el) := hue
  have HUD : Hid (RdB w3 (.slice xa dl.length xc) dl) := hud
  clear hb3 hw3 hu hue hud b0 b1 b2 b3
  go_wp2_with fail
  obtain ⟨w4, hw4⟩ : ∃ w4, w4 = w3.alloc (.cells #[.slice ua l.length uc, .slice va el.length vc, .int .i64 m, .slice xa dl.length xc] 26) := ⟨_, rfl⟩
  rw [← hw4]
  have h34 : Below w3.heap.size w3 w4 := by rw [hw4]; exact (Below.refl _ _).alloc (Nat.le_refl _) _
  have hb4 := HB3.out.trans (h34.mono (by have := HB3.out.size; simpa using this))
  obtain ⟨⟨d0, d1⟩, ⟨d2, d3⟩, hw4b, hs4⟩ := KK.out w4 hb4
  have HU4 : Hid (RdW w4 _ l) := Rd.later HU.out h34
  have HUE4 : Hid (RdE w4 _ el) := Rd.later HUE.out h34
  have HUD4 : Hid (RdB w4 _ dl) := Rd.later HUD.out h34
  have mm : ∀ W, Below w4.heap.size w4 W → W.cell? ⟨w3.heap.size, 0, none⟩ = some (.slice ua l.length uc) ∧ W.cell? ⟨w3.heap.size, 3, none⟩ = some (.slice xa dl.length xc) := fun W h =>
    ⟨by rw [h.cell (by rw [hw4]; simp), hw4]; simp, by rw [h.cell (by rw [hw4]; simp), hw4]; simp⟩
  have MM := Lib.hid mm
  have hs34 : w3.heap.size < w4.heap.size := by rw [hw4]; simp
  have HB4 := Lib.hid hb4
  have HW4 := Lib.hid hw4b
  clear hw4 h34 hb4 hw4b mm c0 c1 c2 c3
  refine (HC1.out w4 _ _ xa xc HW4.out HU4.out HUE4.out HUD4.out).mono ?_
  rintro e w5 ⟨⟨at1, e1, hc1, rfl⟩, hb5⟩
  have H45 := Lib.hid hb5
  have hb5 := HB4.out.trans (hb5.mono (by have := HB4.out.size; simpa using this))
  obtain ⟨⟨f0, f1⟩, ⟨f2, f3⟩, hw5, hs5⟩ := KK.out w5 hb5
  have HB5 := Lib.hid hb5
  have HW5 := Lib.hid hw5
  have HC5 := Lib.hid hc1
  clear hb5 hw5 hc1 d0 d1 d2 d3
  go_wp2_with fail
  refine (HR1.out w5 _ _ da dc HW5.out (Rd.later HV.out HW5.out) (Rd.later HE.out HW5.out) (Rd.later HD.out HW5.out)).mono ?_
  rintro e w6 ⟨⟨at2, e2, hc2, rfl⟩, hb6⟩
  have H46 := Lib.hid (H45.out.trans (hb6.mono H45.out.size))
  have hb6 := HB5.out.trans (hb6.mono (by have := HB5.out.size; simpa using this))
  obtain ⟨⟨g0, g1⟩, ⟨g2, g3⟩, hw6, hs6⟩ := KK.out w6 hb6
  obtain ⟨m0, m3⟩ := MM.out w6 H46.out
  have hs36 : w3.heap.size < w6.heap.size := by have := H46.out.size; omega
  have HW6 := Lib.hid hw6
  have HB6 := Lib.hid hb6
  have heq := checkIs_one HONE.out HC5.out hc2
  obtain ⟨rfl, rfl⟩ := heq
  have ha : (at1 == at1) = true := beq_self_eq_true _
  have he : (e1 == e1) = true := beq_self_eq_true _
  have HU6 : Hid (RdW w6 (.slice ua l.length uc) l) := Rd.later HU4.out H46.out
  have HUD6 : Hid (RdB w6 (.slice xa dl.length xc) dl) := Rd.later HUD4.out H46.out
  clear hb6 hw6 hc2 f0 f1 f2 f3
  go_wp2_with fail
  refine (same_any _ _ l l w6 HU6.out (Rd.later HV.out HW6.out)).mono ?_
  have hll : decide (l = l) = true := decide_eq_true rfl
  rw [hll]
  clear hll
  rintro e w7 ⟨rfl, hb7⟩
  have H47 := Lib.hid (H46.out.trans (hb7.mono H46.out.size))
  have hb7 := HB6.out.trans (hb7.mono (by have := HB6.out.size; simpa using this))
  obtain ⟨⟨p0, p1⟩, ⟨p2, p3⟩, hw7, hs7⟩ := KK.out w7 hb7
  obtain ⟨n0, n3⟩ := MM.out w7 H47.out
  have hs37 : w3.heap.size < w7.heap.size := by have := H47.out.size; omega
  have HW7 := Lib.hid hw7
  have HUD7 : Hid (RdB w7 (.slice xa dl.length xc) dl) := Rd.later HUD4.out H47.out
  have hel : eqL dl dl = true := eqL_refl22 dl
  have CS := Lib.hid (sameBytes_any _ _ dl dl w7 HUD7.out (Rd.later HD.out HW7.out) HBB.out HBB.out)
  rw [hel] at CS
  clear hel hb7 hw7 g0 g1 g2 g3 m0 m3
  go_wp2_with fail
  refine CS.out.mono ?_
  rintro e w8 ⟨rfl, rfl⟩
  go_wp2_with fail
  go_ret
  exact ⟨rfl, HW7.out⟩
end Go.Proofs.YtnanlkoldloolaaDoor

/- Vet: what the readers of debug information give an image's check. -/
namespace Go.Proofs.YtnanlkoldloolaaDoor
open Go.RowKit

theorem rdE_of {w : World} {v : Value} {xs : List (Int × Int)} (h : RdP w v xs) : RdE w v xs := by
  obtain ⟨cells, h1, h2⟩ := h
  have hl : cells.length = xs.length * 2 := h1.1
  have e : cells = cE xs := by
    apply List.ext_getElem?
    intro i
    by_cases hi : i < xs.length * 2
    · have hq : i / 2 < xs.length := by omega
      obtain ⟨a1, a2⟩ := h2 (i / 2) hq
      obtain ⟨b1, b2⟩ := cE_at xs (i / 2) hq
      rcases (by omega : i = i / 2 * 2 ∨ i = i / 2 * 2 + 1) with e | e
      · rw [e, a1, b1]
      · rw [e, a2, b2]
    · rw [List.getElem?_eq_none (by omega), List.getElem?_eq_none (by rw [cE_length]; omega)]
  rw [e] at h1
  exact h1

def GoodD (dl : List Int) (er : Int) (mn : Nat) (sl : List (Int × Int)) : Prop := er = (if (decD dl).isSome then 0 else 3) ∧ mn = ((decD dl).getD noD).marks.length ∧ sl = ((decD dl).getD noD).sites
theorem goodD_one {dl : List Int} : ∀ a b c a' b' c', GoodD dl a b c → GoodD dl a' b' c' → a = a' ∧ (a = 0 → b = b' ∧ c = c') := fun a b c a' b' c' h k =>
  ⟨h.1.trans k.1.symm, fun _ => ⟨h.2.1.trans k.2.1.symm, h.2.2.trans k.2.2.symm⟩⟩
theorem sitesB_ok (nm : Nat) : ∀ (l : List (Int × Int)) (last : Int), sitesB nm last l = true → ∀ s ∈ l, okN s.1 = true
  | [], _, _, s, hs => by cases hs
  | x :: r, last, h, s, hs => by
    simp only [sitesB, siteB, Bool.and_eq_true] at h
    rcases List.mem_cons.1 hs with rfl | hs
    · exact h.1.1.1.1
    · exact sitesB_ok nm r x.1 h.2 s hs
theorem decD_form {l : List Int} {d : DebD} (h : decD l = some d) : formD d = true := by
  unfold decD at h
  split at h
  · split at h
    · split at h
      · rename_i hc
        simp only [Option.some.injEq] at h
        rw [← h]; exact hc.2
      · cases h
    · cases h
  · cases h
theorem goodD_sites {dl : List Int} : ∀ mn sl, GoodD dl 0 mn sl → ∀ s ∈ sl, 0 ≤ s.1 ∧ s.1 ≤ 2147483647 := by
  rintro mn sl ⟨h1, rfl, rfl⟩ s hs
  cases hd : decD dl with
  | none => rw [hd] at hs; simp [noD] at hs
  | some d =>
    rw [hd] at hs
    have hf := decD_form hd
    simp only [formD, Bool.and_eq_true] at hf
    have := sitesB_ok _ _ _ hf.1.2 s hs
    simp [okN] at this
    exact this
theorem decode_good {w : World} {pa : Option Addr} {pn pc : Nat} {dl : List Int} (hp : RdB w (.slice pa pn pc) dl) (hB : isB dl) (hlen : dl.length ≤ 1000000000) {ga : Addr} (hg : Gives w 182 (.pointer (some ga))) :
   ∀ W : World, Below w.heap.size w W → Calls Tryd.prog 27 #[.slice pa pn pc] W fun e w' => (∃ sa sn sc ma mn mc tv sl er, e = .returned (.tuple #[.agg #[.slice sa sn sc, .slice ma mn mc, tv], .int .i64 er]) ∧ RdE w' tv sl ∧ GoodD dl er mn sl) ∧ Below W.heap.size W w' := by
  intro W hW
  refine (decode_any pa pn pc dl W (Rd.later hp hW) hB hlen ga (gives_of_below hg hW)).mono ?_
  rintro e w' ⟨vs, vm, vt, rfl, hd, hb⟩
  obtain ⟨sa, sc, rfl⟩ := hd.stops.shape
  obtain ⟨ma, mc, rfl⟩ := hd.marks.shape
  exact ⟨⟨_, _, _, _, _, _, _, _, _, rfl, rdE_of hd.sites, rfl, rfl, rfl⟩, hb⟩
end Go.Proofs.YtnanlkoldloolaaDoor

/- Vet: VetChecks, whole. -/
namespace Go.Proofs.YtnanlkoldloolaaDoor
open Go.RowKit

theorem refForm_at {x : W} (hx : x.ok) (w : World) : Calls Tryd.prog 20 #[.agg #[.int .u8 x.op, .int .u8 x.a, .int .u8 x.b, .int .u8 x.c, .int .i64 x.imm]] w fun e w' => e = .returned (.bool (formB x)) ∧ Below w.heap.size w w' := by
  obtain ⟨op, a, b, c, imm⟩ := x
  obtain ⟨h1, h2, h3, h4, h5⟩ := hx
  exact refForm_any op a b c imm w h1.1 h1.2 h2.1 h3.1 h4.1 h5.2 h5.1
theorem refdec_good {w : World} {pa : Option Addr} {pc : Nat} {dl : List Int} (hp : RdB w (.slice pa dl.length pc) dl) (hB : isB dl) (hlen : dl.length ≤ 1000000000) :
   ∀ W : World, Below w.heap.size w W → Calls Tryd.prog 21 #[.slice pa dl.length pc] W fun e w' => (∃ sa sn sc ma mn mc tv sl, ∃ ok : Bool, e = .returned (.tuple #[.agg #[.slice sa sn sc, .slice ma mn mc, tv], .bool ok]) ∧ RdE w' tv sl ∧ GoodD dl (if ok then 0 else 3) mn sl) ∧ Below W.heap.size W w' := by
  intro W hW
  refine (refdec_any pa pc dl W (Rd.later hp hW) hB hlen).mono ?_
  rintro e w' ⟨vs, vm, vt, rfl, hd, hb⟩
  rw [ref_dec hB hlen] at hd ⊢
  obtain ⟨sa, sc, rfl⟩ := hd.stops.shape
  obtain ⟨ma, mc, rfl⟩ := hd.marks.shape
  exact ⟨⟨_, _, _, _, _, _, _, _, _, rfl, rdE_of hd.sites, rfl, rfl, rfl⟩, hb⟩

theorem vetChecks_walk (wv : Value) (l : List W) (ev : Value) (el : List (Int × Int)) (m : Int) (dv : Value) (dl : List Int) (w : World) (hv : RdW w wv l) (hok : ∀ x ∈ l, x.ok) (hev : RdE w ev el) (hdv : RdB w dv dl) (hB : isB dl)
   (ga : Addr) (hg : Gives w 182 (.pointer (some ga))) :
   Calls Tryd.prog 3 #[.agg #[wv, ev, .int .i64 m, dv]] w fun e w' => e = .returned (.bool true) ∧ Below w.heap.size w w' :=
  vetChecks_of wv l ev el m dv dl w hv hev hdv hB _ _ hg (GoodD dl) goodD_one
    (fun h W a b pa pc hW hA hb hp => check_any a l b el m pa dl.length pc W hA hb (GoodD dl) goodD_sites (decode_good hp hB (by omega) (gives_below hg hW)))
    (fun h W a b pa pc _ hA hb hp => refcheck_any a l b el m pa dl.length pc W hA hb (GoodD dl) goodD_sites (fun x hx W => refForm_at (hok x hx) W) (refdec_good hp hB (by omega)))
end Go.Proofs.YtnanlkoldloolaaDoor

/- Vet: an image among the arguments, opened. (Parts turned from locs XOd.) -/
namespace Go.Proofs.YtnanlkoldloolaaDoor
open Go.Joins Go.ChangeShapes Go.WideShapes Go.RowKit Go.Deep

theorem flat_at22 {F : Nat → List Value} {k : Nat} : ∀ n, (∀ i, i < n → (F i).length = k) → ((List.range n).flatMap F).length = n * k ∧ ∀ i r, i < n → r < k → ((List.range n).flatMap F)[i * k + r]? = (F i)[r]?
  | 0, _ => by simp
  | n + 1, h => by
    obtain ⟨h1, h2⟩ := flat_at22 n (fun i hi => h i (by omega))
    have hn := h n (by omega)
    have e : (List.range (n + 1)).flatMap F = (List.range n).flatMap F ++ F n := by rw [List.range_succ, List.flatMap_append]; simp
    rw [e]
    refine ⟨by rw [List.length_append, h1, hn, Nat.add_mul]; omega, fun i r hi hr => ?_⟩
    by_cases hin : i < n
    · have : (i + 1) * k ≤ n * k := Nat.mul_le_mul_right _ hin
      rw [Nat.succ_mul] at this
      rw [List.getElem?_append_left (by omega)]
      exact h2 i r hin hr
    · obtain rfl : i = n := by omega
      rw [List.getElem?_append_right (by omega), h1, Nat.add_sub_cancel_left]

theorem slice_open22 {H : Type} {enc : TypeId × Value → H} {P : Program} {w : World} {base fuel : Nat} {t e : TypeId} {v : Value} {y : DataW H × List MemPlace} {α : Type} [Inhabited α] {k : Nat} (Pe : List Value → α → Prop) (hu : P.underlying t = some (.slice e)) (hk : P.cellsOf e = k)
    (hone : ∀ n cs' y, cs'.length = k → DataW.trod enc P w base (fun _ => true) true n e cs' = some y → ∃ x, Pe cs' x) (hf : DataW.trod enc P w base (fun _ => true) true fuel t [v] = some y) :
    ∃ (xs : List α) (cells : List Value), Rd w k v xs.length cells ∧ (∀ i (h : i < xs.length), ∃ cs, cs.length = k ∧ Pe cs xs[i] ∧ ∀ r, r < k → cells[i * k + r]? = cs[r]?) := by
  rcases open_slice hu hf with ⟨hcs, rfl⟩ | ⟨a, len, cap, m, n, D, Pl, hcs, _, hl, hm, hmm, hy, hi⟩
  · simp at hcs
    subst hcs
    exact ⟨[], [], Rd.nil _ _, fun i h => absurd h (by simp)⟩
  · simp at hcs
    subst hcs
    simp only [if_true] at hmm
    subst hmm
    have key : ∀ i, ∃ x : List Value × α, i < len → (x.1.length = k ∧ Pe x.1 x.2 ∧ ∀ r u, x.1[r]? = some u → w.cell? (a.add (i * k + r)) = some u) := fun i => by
      by_cases hil : i < len
      · obtain ⟨cs', hc, ht'⟩ := hi i (by omega)
        rw [hk] at hc
        obtain ⟨_, hcl, hat⟩ := World.cells?_some hc
        obtain ⟨x, hx1⟩ := hone _ _ _ hcl ht'
        refine ⟨(cs', x), fun _ => ⟨hcl, hx1, fun r u hr => ?_⟩⟩
        obtain ⟨hr1, hr2⟩ := List.getElem?_eq_some_iff.1 hr
        have := hat r (by simp only at hr1; omega)
        rw [Go.Deep.add_add] at this
        rw [← hr2]
        first | exact this | (rw [this]; simp [hr1])
      · exact ⟨([], default), fun h => absurd h hil⟩
    obtain ⟨F, hF⟩ := Classical.axiomOfChoice key
    obtain ⟨g1, g2⟩ := flat_at22 (F := fun i => (F i).1) (k := k) len (fun i hi => (hF i hi).1)
    have hlen : ((List.range len).map fun i => (F i).2).length = len := by simp
    refine ⟨(List.range len).map fun i => (F i).2, (List.range len).flatMap fun i => (F i).1, ?_, fun i hi => ?_⟩
    · rw [hlen]
      refine ⟨g1, .inr ⟨a, _, rfl, hl, hm, fun j u hu => ?_⟩⟩
      have hj : j < len * k := by rw [← g1]; exact (List.getElem?_eq_some_iff.1 hu).1
      have hk0 : 0 < k := Nat.pos_of_ne_zero (fun e => by subst e; simp at hj)
      have hdiv : j / k < len := (Nat.div_lt_iff_lt_mul hk0).2 hj
      have hmod := Nat.mod_lt j hk0
      have he : j / k * k + j % k = j := by rw [Nat.mul_comm]; exact Nat.div_add_mod j k
      have h3 := g2 (j / k) (j % k) hdiv hmod
      rw [he, hu] at h3
      have := (hF _ hdiv).2.2 _ _ h3.symm
      rwa [he] at this
    · rw [hlen] at hi
      have e : ((List.range len).map fun i => (F i).2)[i]'(by rw [hlen]; exact hi) = (F i).2 := by simp
      rw [e]
      exact ⟨(F i).1, (hF i hi).1, (hF i hi).2.1, fun r hr => g2 i r hi hr⟩
theorem open2_22 {H : Type} {enc : TypeId × Value → H} {P : Program} {w : World} {base : Nat} {t : TypeId} {f0 f1 : Field} {c0 c1 : Value} {fuel : Nat} {y : DataW H × List MemPlace} (hs : P.underlying t = some (.struct #[f0, f1])) (hone : oneCellFields P #[f0, f1] = true)
    (h : DataW.trod enc P w base (fun _ => true) true fuel t [c0, c1] = some y) :
    ∃ (y0 y1 : DataW H × List MemPlace) (n : Nat), DataW.trod enc P w base (fun _ => true) true n f0.type [c0] = some y0 ∧ DataW.trod enc P w base (fun _ => true) true n f1.type [c1] = some y1 := by
  obtain ⟨xs, n, _, hx, _, hlen, hg⟩ := DataW.trod_struct hs h
  obtain ⟨o0, k0⟩ := hone_of hone 0 f0 rfl
  obtain ⟨o1, k1⟩ := hone_of hone 1 f1 rfl
  match xs, hlen with
  | [y0, y1], _ =>
    exact ⟨y0, y1, n, by simpa [o0, k0] using hg 0 f0 rfl, by simpa [o1, k1] using hg 1 f1 rfl⟩
theorem open4_22 {H : Type} {enc : TypeId × Value → H} {P : Program} {w : World} {base : Nat} {t : TypeId} {f0 f1 f2 f3 : Field} {c0 c1 c2 c3 : Value} {fuel : Nat} {y : DataW H × List MemPlace} (hs : P.underlying t = some (.struct #[f0, f1, f2, f3])) (hone : oneCellFields P #[f0, f1, f2, f3] = true)
    (h : DataW.trod enc P w base (fun _ => true) true fuel t [c0, c1, c2, c3] = some y) :
    ∃ (y0 y1 y2 y3 : DataW H × List MemPlace) (n : Nat), DataW.trod enc P w base (fun _ => true) true n f0.type [c0] = some y0 ∧ DataW.trod enc P w base (fun _ => true) true n f1.type [c1] = some y1 ∧ DataW.trod enc P w base (fun _ => true) true n f2.type [c2] = some y2 ∧ DataW.trod enc P w base (fun _ => true) true n f3.type [c3] = some y3 := by
  obtain ⟨xs, n, _, hx, _, hlen, hg⟩ := DataW.trod_struct hs h
  obtain ⟨o0, k0⟩ := hone_of hone 0 f0 rfl
  obtain ⟨o1, k1⟩ := hone_of hone 1 f1 rfl
  obtain ⟨o2, k2⟩ := hone_of hone 2 f2 rfl
  obtain ⟨o3, k3⟩ := hone_of hone 3 f3 rfl
  match xs, hlen with
  | [y0, y1, y2, y3], _ =>
    exact ⟨y0, y1, y2, y3, n, by simpa [o0, k0] using hg 0 f0 rfl, by simpa [o1, k1] using hg 1 f1 rfl, by simpa [o2, k2] using hg 2 f2 rfl, by simpa [o3, k3] using hg 3 f3 rfl⟩
theorem open5_22 {H : Type} {enc : TypeId × Value → H} {P : Program} {w : World} {base : Nat} {t : TypeId} {f0 f1 f2 f3 f4 : Field} {c0 c1 c2 c3 c4 : Value} {fuel : Nat} {y : DataW H × List MemPlace} (hs : P.underlying t = some (.struct #[f0, f1, f2, f3, f4])) (hone : oneCellFields P #[f0, f1, f2, f3, f4] = true)
    (h : DataW.trod enc P w base (fun _ => true) true fuel t [c0, c1, c2, c3, c4] = some y) :
    ∃ (y0 y1 y2 y3 y4 : DataW H × List MemPlace) (n : Nat), DataW.trod enc P w base (fun _ => true) true n f0.type [c0] = some y0 ∧ DataW.trod enc P w base (fun _ => true) true n f1.type [c1] = some y1 ∧ DataW.trod enc P w base (fun _ => true) true n f2.type [c2] = some y2 ∧ DataW.trod enc P w base (fun _ => true) true n f3.type [c3] = some y3 ∧ DataW.trod enc P w base (fun _ => true) true n f4.type [c4] = some y4 := by
  obtain ⟨xs, n, _, hx, _, hlen, hg⟩ := DataW.trod_struct hs h
  obtain ⟨o0, k0⟩ := hone_of hone 0 f0 rfl
  obtain ⟨o1, k1⟩ := hone_of hone 1 f1 rfl
  obtain ⟨o2, k2⟩ := hone_of hone 2 f2 rfl
  obtain ⟨o3, k3⟩ := hone_of hone 3 f3 rfl
  obtain ⟨o4, k4⟩ := hone_of hone 4 f4 rfl
  match xs, hlen with
  | [y0, y1, y2, y3, y4], _ =>
    exact ⟨y0, y1, y2, y3, y4, n, by simpa [o0, k0] using hg 0 f0 rfl, by simpa [o1, k1] using hg 1 f1 rfl, by simpa [o2, k2] using hg 2 f2 rfl, by simpa [o3, k3] using hg 3 f3 rfl, by simpa [o4, k4] using hg 4 f4 rfl⟩
theorem int_cell22 {H : Type} {enc : TypeId × Value → H} {P : Program} {w : World} {base n : Nat} {t : TypeId} {k : IntKind} {c : Value} {y : DataW H × List MemPlace} (ht : P.underlying t = some (.int k)) (h : DataW.trod enc P w base (fun _ => true) true n t [c] = some y) : ∃ a : Int, c = .int k a ∧ (Lit.int k a).wf = true := by
  obtain ⟨a, e, -, hw⟩ := DataW.trod_int ht h
  simp at e
  subst e
  exact ⟨a, rfl, hw⟩
theorem cellsWord22 : Tryd.prog.cellsOf 47 = 5 := by kernel_rfl
theorem cellsEntry22 : Tryd.prog.cellsOf 55 = 2 := by kernel_rfl
theorem cellsU822 : Tryd.prog.cellsOf 5 = 1 := by kernel_rfl
theorem cellsImage22 : Tryd.prog.cellsOf 26 = 4 := by kernel_rfl
instance : Inhabited W := ⟨⟨0, 0, 0, 0, 0⟩⟩

def ImgArg (w : World) (v : Value) (x : List W × List (Int × Int) × Int × List Int) : Prop := ∃ wv ev dv, v = .agg #[wv, ev, .int .i64 x.2.2.1, dv] ∧ RdW w wv x.1 ∧ (∀ y ∈ x.1, y.ok) ∧ RdE w ev x.2.1 ∧ RdB w dv x.2.2.2 ∧ isB x.2.2.2

theorem cells_eq22 {α : Type} {k : Nat} (hk : 0 < k) (f : α → List Value) (hf : ∀ x, (f x).length = k) (F : List α → List Value) (hF0 : F [] = []) (hF : ∀ x r, F (x :: r) = f x ++ F r) : ∀ (xs : List α) (cells : List Value), cells.length = xs.length * k → (∀ i (h : i < xs.length), ∀ r, r < k → cells[i * k + r]? = (f xs[i])[r]?) → cells = F xs
  | [], cells, hl, _ => by rw [hF0]; exact List.eq_nil_of_length_eq_zero (by simpa using hl)
  | x :: xs, cells, hl, hc => by
    have hl2 : cells.length = xs.length * k + k := by rw [hl, List.length_cons, Nat.succ_mul]
    have e1 : cells.take k = f x := by
      apply List.ext_getElem?
      intro r
      by_cases hr : r < k
      · rw [List.getElem?_take_of_lt hr]
        have := hc 0 (by simp) r hr
        simpa using this
      · rw [List.getElem?_eq_none (by rw [List.length_take]; omega), List.getElem?_eq_none (by rw [hf]; omega)]
    have e2 : cells.drop k = F xs := cells_eq22 hk f hf F hF0 hF xs (cells.drop k) (by rw [List.length_drop]; omega) (fun i hi r hr => by
      rw [List.getElem?_drop]
      have := hc (i + 1) (by simpa using hi) r hr
      rw [Nat.succ_mul] at this
      rw [show k + (i * k + r) = i * k + k + r by omega, this]
      simp)
    rw [hF, ← e1, ← e2, List.take_append_drop]

set_option maxRecDepth 100000 in
theorem image_in {H : Type} {enc : TypeId × Value → H} {w : World} {base : Nat} {r : Reach} {b0 : Nat} {v : Value} {d : DataW H} {p : List MemPlace} (hv : Value.okWide Tryd.prog w r b0 26 v) (h : DataW.Trod enc Tryd.prog w base (fun _ => true) true 26 v d p) :
    ∃ x, ImgArg w v x := by
  obtain ⟨cs, rfl, hsz⟩ := okWide_struct Tryd.underlying26 hv
  obtain ⟨l⟩ := cs
  match l, hsz.trans cellsImage22 with
  | [c0, c1, c2, c3], _ =>
    obtain ⟨fuel, hf⟩ := h
    obtain ⟨y0, y1, y2, y3, n, h0, h1, h2, h3⟩ := open4_22 Tryd.underlying26 (by kernel_rfl) hf
    obtain ⟨xs, wc, a1, a2⟩ := slice_open22 (α := W) (fun cs x => cs = [.int .u8 x.op, .int .u8 x.a, .int .u8 x.b, .int .u8 x.c, .int .i64 x.imm] ∧ x.ok) Tryd.underlying22 cellsWord22 (fun n cs' y hl ht => by
      match cs', hl with
      | [e0, e1, e2, e3, e4], _ =>
        obtain ⟨z0, z1, z2, z3, z4, n', t0, t1, t2, t3, t4⟩ := open5_22 Tryd.underlying47 (by kernel_rfl) ht
        obtain ⟨q0, rfl, w0⟩ := int_cell22 Tryd.underlying5 t0
        obtain ⟨q1, rfl, w1⟩ := int_cell22 Tryd.underlying5 t1
        obtain ⟨q2, rfl, w2⟩ := int_cell22 Tryd.underlying5 t2
        obtain ⟨q3, rfl, w3⟩ := int_cell22 Tryd.underlying5 t3
        obtain ⟨q4, rfl, w4⟩ := int_cell22 Tryd.underlying2 t4
        simp [Lit.wf, IntKind.min, IntKind.max, IntKind.signed, IntKind.bits] at w0 w1 w2 w3 w4
        exact ⟨⟨q0, q1, q2, q3, q4⟩, rfl, by unfold W.ok; simp only; omega⟩) h0
    obtain ⟨es, ec, b1, b2⟩ := slice_open22 (α := Int × Int) (fun cs x => cs = [.int .i64 x.1, .int .i64 x.2]) Tryd.underlying23 cellsEntry22 (fun n cs' y hl ht => by
      match cs', hl with
      | [e0, e1], _ =>
        obtain ⟨z0, z1, n', t0, t1⟩ := open2_22 Tryd.underlying55 (by kernel_rfl) ht
        obtain ⟨q0, rfl, w0⟩ := int_cell22 Tryd.underlying3 t0
        obtain ⟨q1, rfl, w1⟩ := int_cell22 Tryd.underlying3 t1
        exact ⟨(q0, q1), rfl⟩) h1
    obtain ⟨q2, rfl, -⟩ := int_cell22 Tryd.underlying3 h2
    obtain ⟨ds, dc, d1, d2⟩ := slice_open22 (α := Int) (fun cs x => cs = [.int .u8 x] ∧ (0 ≤ x ∧ x ≤ 255)) Tryd.underlying24 cellsU822 (fun n cs' y hl ht => by
      match cs', hl with
      | [e0], _ =>
        obtain ⟨q0, rfl, w0⟩ := int_cell22 Tryd.underlying5 ht
        simp [Lit.wf, IntKind.min, IntKind.max, IntKind.signed, IntKind.bits] at w0
        exact ⟨q0, rfl, by omega⟩) h3
    have ew : wc = cW xs := cells_eq22 (by decide) (fun x => [.int .u8 x.op, .int .u8 x.a, .int .u8 x.b, .int .u8 x.c, .int .i64 x.imm]) (fun _ => rfl) cW rfl (fun _ _ => rfl) xs wc a1.1 (fun i hi r hr => by obtain ⟨cs, -, hp, hc⟩ := a2 i hi; rw [hc r hr, hp.1])
    have ee : ec = cE es := cells_eq22 (by decide) (fun x => [.int .i64 x.1, .int .i64 x.2]) (fun _ => rfl) cE rfl (fun _ _ => rfl) es ec b1.1 (fun i hi r hr => by obtain ⟨cs, -, hp, hc⟩ := b2 i hi; rw [hc r hr, hp])
    have ed : dc = ds.map (Value.int .u8) := cells_eq22 (by decide) (fun x => [.int .u8 x]) (fun _ => rfl) (List.map (Value.int .u8)) rfl (fun _ _ => rfl) ds dc d1.1 (fun i hi r hr => by obtain ⟨cs, -, hp, hc⟩ := d2 i hi; rw [hc r hr, hp.1])
    subst ew ee ed
    refine ⟨(xs, es, q2, ds), c0, c1, c3, rfl, a1, fun y hy => ?_, b1, d1, fun y hy => ?_⟩
    · obtain ⟨i, hi, rfl⟩ := List.getElem_of_mem hy
      obtain ⟨_, _, hp, _⟩ := a2 i hi
      exact hp.2
    · obtain ⟨i, hi, rfl⟩ := List.getElem_of_mem hy
      obtain ⟨_, _, hp, _⟩ := d2 i hi
      exact hp.2
end Go.Proofs.YtnanlkoldloolaaDoor

/- Vet: VetChecks at an image among the arguments. -/
namespace Go.Proofs.YtnanlkoldloolaaDoor
open Go.RowKit

theorem vetChecks_arg (v : Value) (x : List W × List (Int × Int) × Int × List Int) (w : World) (h : ImgArg w v x) (ga : Addr) (hg : Gives w 182 (.pointer (some ga))) :
   Calls Tryd.prog 3 #[v] w fun e w' => e = .returned (.bool true) ∧ Below w.heap.size w w' := by
  obtain ⟨wv, ev, dv, rfl, h1, h2, h3, h4, h5⟩ := h
  exact vetChecks_walk wv x.1 ev x.2.1 x.2.2.1 dv x.2.2.2 w h1 h2 h3 h4 h5 ga hg
end Go.Proofs.YtnanlkoldloolaaDoor
