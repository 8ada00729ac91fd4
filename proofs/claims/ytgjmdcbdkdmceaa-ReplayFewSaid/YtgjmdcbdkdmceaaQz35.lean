/- Is an image small: the document's Few. (Turned from vet XFw.) -/
import Derived.Test.YtgjmdcbdkdmceaaQ17
import Derived.Deep.Slices
import Derived.Deep.Fields
import Derived.ChangeSame
import Derived.ProofKit
import Derived.OpenShut
import Derived.Lib.SmallJoins
import Derived.SizedLaws
namespace Go.Proofs.Ytgjmdcbdkdmceaa.Mach
open Go.RowKit

def RdE (w : World) (v : Value) (l : List (Int × Int)) : Prop := Rd w 2 v l.length (entC l)
theorem RdE.split {w : World} {v : Value} {l : List (Int × Int)} (h : RdE w v l) :
    (∃ a c, v = .slice a 0 c ∧ l = []) ∨ ∃ b off c, v = .slice (some ⟨b, off, none⟩) l.length c ∧ 0 < l.length ∧ l.length ≤ c ∧ c ≤ 9223372036854775807 ∧ b < w.heap.size ∧
      ∀ j, (hj : j < l.length) → w.cell? ⟨b, off + j * 2, none⟩ = some (.int .i64 l[j].1) ∧ w.cell? ⟨b, off + j * 2 + 1, none⟩ = some (.int .i64 l[j].2) := by
  rcases Rd.split h (by omega) with ⟨a, c, rfl, h0, _⟩ | ⟨b, off, c, rfl, h1, h2, h3, h4, h5⟩
  · exact .inl ⟨a, c, rfl, List.eq_nil_of_length_eq_zero h0⟩
  · refine .inr ⟨b, off, c, rfl, h1, h2, h3, h4, fun j hj => ?_⟩
    obtain ⟨c1, c2⟩ := entC_at l j hj
    obtain ⟨i1, c1⟩ := List.getElem?_eq_some_iff.1 c1
    obtain ⟨i2, c2⟩ := List.getElem?_eq_some_iff.1 c2
    have e : l.getD j (0, 0) = l[j] := by rw [List.getD_eq_getElem?_getD, List.getElem?_eq_getElem hj]; rfl
    refine ⟨?_, ?_⟩
    · rw [h5 _ i1, c1, e]
    · rw [Nat.add_assoc, h5 _ i2, c2, e]

def FewIs (wn : Nat) (el : List (Int × Int)) (dn : Nat) (e : Ending) : Prop := ∃ b : Bool, (b = true → wn ≤ 1500 ∧ el.length ≤ 50 ∧ dn ≤ 20000 ∧ ∀ x ∈ el, ¬ (300 < x.2 ∧ x.2 ≤ 60000)) ∧ e = .returned (.bool b)
theorem fewIs_no {wn dn : Nat} {el : List (Int × Int)} : FewIs wn el dn (.returned (.bool false)) := ⟨false, (fun h => by cases h), rfl⟩

set_option maxRecDepth 100000 in
set_option maxHeartbeats 8000000 in
theorem few22_any (wa : Option Addr) (wn wc : Nat) (ev : Value) (el : List (Int × Int)) (m : Int) (da : Option Addr) (dn dc : Nat) (w : World) (hev : RdE w ev el) (hwn : wn ≤ 9223372036854775807) (hdn : dn ≤ 9223372036854775807) :
   Calls Try.prog 8 #[.agg #[.slice wa wn wc, ev, .int .i64 m, .slice da dn dc]] w fun e w' => FewIs wn el dn e ∧ Below w.heap.size w w' := by
  have he9 : el.length ≤ 9223372036854775807 := Rd.le hev
  have HBA : ∀ o, Hid (Below w.heap.size w (w.alloc o)) := fun o => (Below.refl _ _).alloc (Nat.le_refl _) o
  obtain ⟨ea, ec, rfl⟩ := Rd.shape hev
  have HE := Lib.hid hev
  clear hev
  go_enter Try.func8, Try.ntmps8
  by_cases h1 : 1500 < wn
  · go_wp2_with fail
    refine bodyPost_ret (v := .bool false) (by simp [results, Try.results8, go_sem]) rfl ⟨fewIs_no, (HBA _).out⟩
  by_cases h2 : 50 < el.length
  · go_wp2_with fail
    refine bodyPost_ret (v := .bool false) (by simp [results, Try.results8, go_sem]) rfl ⟨fewIs_no, (HBA _).out⟩
  by_cases h3 : 20000 < dn
  · go_wp2_with fail
    refine bodyPost_ret (v := .bool false) (by simp [results, Try.results8, go_sem]) rfl ⟨fewIs_no, (HBA _).out⟩
  go_wp2_with fail
  go_loopw [24] (fun i wr => ∃ j : Nat, j ≤ el.length ∧ i = .int .i64 j ∧ (∀ i (hi : i < el.length), i < j → ¬ (300 < el[i].2 ∧ el[i].2 ≤ 60000)) ∧ Below (w.heap.size + 1) (w.alloc (.cells #[.slice wa wn wc, .slice ea el.length ec, .int .i64 m, .slice da dn dc] 26)) wr) (fun i _ => el.length - (intOf i).toNat)
  case atStart => exact ⟨0, by omega, rfl, fun i _ h => absurd h (by omega), Below.refl _ _⟩
  case round =>
    obtain ⟨j, hj, rfl, hall, hbel⟩ := hrel
    have HA := Lib.hid hall
    have HB := Lib.hid hbel
    have hs1 : w.heap.size + 1 ≤ wr.heap.size := by simpa using hbel.size
    have hs2 : w.heap.size < wr.heap.size := by omega
    have hcl : ∀ p : Addr, p.block < w.heap.size → wr.cell? p = w.cell? p := fun p hp => by
      rw [hbel.cell (by omega)]; exact World.cell?_alloc_lt _ _ _ hp
    clear hall hbel
    by_cases hlt : j < el.length
    · rcases RdE.split HE.out with ⟨_, _, _, rfl⟩ | ⟨eb, eoff, ecc, hev, hep, hel2, _, heb, hecell⟩
      · simp at hlt
      simp only [Value.slice.injEq] at hev
      obtain ⟨rfl, -, rfl⟩ := hev
      obtain ⟨d0, d1⟩ := hecell j hlt
      rw [← hcl ⟨eb, eoff + j * 2, none⟩ heb] at d0
      rw [← hcl ⟨eb, eoff + j * 2 + 1, none⟩ heb] at d1
      clear hcl hecell
      obtain ⟨x, hx⟩ : ∃ x, el[j] = x := ⟨_, rfl⟩
      have HX := Lib.hid hx
      rw [hx] at d0 d1
      clear hx
      have HB3 : ∀ o, Hid (Below (w.heap.size + 1) (w.alloc (.cells #[.slice wa wn wc, .slice (some ⟨eb, eoff, none⟩) el.length ec, .int .i64 m, .slice da dn dc] 26)) (wr.alloc o)) := fun o => HB.out.alloc hs1 _
      have HNX : ∀ (_ : ¬ (300 < x.2 ∧ x.2 ≤ 60000)), ∀ i (hi : i < el.length), i < j + 1 → ¬ (300 < el[i].2 ∧ el[i].2 ≤ 60000) := fun h i hi hij => by
        by_cases hij2 : i < j
        · exact HA.out i hi hij2
        · obtain rfl : i = j := by omega
          rw [HX.out]; exact h
      have HNX := Lib.hid HNX
      by_cases hg : 300 < x.2
      · by_cases hl : x.2 ≤ 60000
        · go_wp2_with fail
          refine bodyPost_ret (v := .bool false) (by simp [results, Try.results8, go_sem]) rfl ⟨fewIs_no, (HBA _).out.trans ((HB3 _).out.mono (by omega))⟩
        · go_wp2_with fail
          exact ⟨⟨j + 1, by omega, by go_num, HNX.out (by omega), (HB3 _).out⟩, by simp [intOf]; omega⟩
      · go_wp2_with fail
        exact ⟨⟨j + 1, by omega, by go_num, HNX.out (by omega), (HB3 _).out⟩, by simp [intOf]; omega⟩
    · obtain rfl : j = el.length := by omega
      have HALL : Hid (FewIs wn el dn (.returned (.bool true))) := ⟨true, fun _ => ⟨by omega, by omega, by omega, fun x hx => by
        obtain ⟨i, hi, rfl⟩ := List.getElem_of_mem hx
        exact HA.out i hi hi⟩, rfl⟩
      go_wp2_with fail
      refine bodyPost_ret (v := .bool true) (by simp [results, Try.results8, go_sem]) rfl ⟨HALL.out, (HBA _).out.trans (HB.out.mono (by omega))⟩
end Go.Proofs.Ytgjmdcbdkdmceaa.Mach

/- An image of its own: the document's Twin. (Turned from vet XFx.) -/
namespace Go.Proofs.Ytgjmdcbdkdmceaa.Mach
open Go.RowKit

theorem heap_old (w : World) (o : Obj) {k : Nat} {ob : Obj} (h : w.heap[k]? = some ob) : (w.alloc o).heap[k]? = some ob :=
  (Below.heap_alloc w o k (Array.getElem?_eq_some_iff.1 h).1).trans h
theorem heap_new (w : World) (o : Obj) {n : Nat} (h : n = w.heap.size) : (w.alloc o).heap[n]? = some o := by subst h; exact Array.getElem?_push_size
theorem cell_of {w : World} {b i : Nat} {c : Array Value} {T : TypeId} {v : Value} (h : w.heap[b]? = some (.cells c T (0, 0))) (hi : c[i]? = some v) : w.cell? ⟨b, i, none⟩ = some v := by simp [World.cell?, h, hi]
theorem unfrozen_of {w : World} {b i : Nat} {c : Array Value} {T : TypeId} (h : w.heap[b]? = some (.cells c T (0, 0))) : w.frozen? ⟨b, i, none⟩ = false := by simp [World.frozen?, h]

theorem own_later {w w' : World} {base : Nat} {e : TypeId} {size n : Nat} {v : Value} {xs : List Value} (h : w.ownsRow base e size v n xs) (hb : Below w.heap.size w w') : w'.ownsRow base e size v n xs :=
  own_same h fun k hk => by
    obtain ⟨_, cur, hc⟩ := own_blk h k hk
    exact hb.block k (Array.getElem?_eq_some_iff.1 hc).1
theorem heap_below {w w' : World} {B k : Nat} {ob : Obj} (hb : Below B w w') (hk : k < B) (h : w.heap[k]? = some ob) : w'.heap[k]? = some ob := (hb.block k hk).trans h
theorem info_W22 : (Try.prog.info? 73).map (fun i => (i.zero, i.size, i.bytes)) = some (some (.agg #[.int .u8 0, .int .u8 0, .int .u8 0, .int .u8 0, .int .i64 0]), 5, 16) := by kernel_rfl
theorem info_E22 : (Try.prog.info? 62).map (fun i => (i.zero, i.size, i.bytes)) = some (some (.agg #[.int .i64 0, .int .i64 0]), 2, 16) := by kernel_rfl
theorem info_B22 : (Try.prog.info? 5).map (fun i => (i.zero, i.size, i.bytes)) = some (some (.int .u8 0), 1, 1) := by kernel_rfl
theorem parts22 {i : Option TypeInfo} {z : Value} {s b : Nat} (h : i.map (fun i => (i.zero, i.size, i.bytes)) = some (some z, s, b)) : ∃ x, i = some x ∧ x.zero = some z ∧ x.size = s ∧ x.bytes = b := by
  cases i with
  | none => cases h
  | some i =>
    simp only [Option.map_some, Option.some.injEq, Prod.mk.injEq] at h
    exact ⟨i, rfl, h.1, h.2.1, h.2.2⟩
theorem lit22 (w : World) (T : TypeId) (K base : Nat) (hb : base ≤ w.heap.size) : (w.alloc (.cells #[] T)).ownsRow base T K (.slice (some ⟨w.heap.size, 0, none⟩) 0 0) 0 [] :=
  World.ownsRow_lit (e := T) (size := K) (base := base) w #[] 0 hb (by unfold maxLen; omega) (by simp)
theorem bytes_one22 (l : List Int) : ∀ u ∈ l.map (Value.int .u8), u.oneCell' = true := fun u hu => by
  obtain ⟨x, _, rfl⟩ := List.mem_map.1 hu; rfl
theorem own_set22 {w : World} {B K n k i : Nat} {E : TypeId} {v u : Value} {xs : List Value} (h : w.ownsRow B E K v n xs) (hk : k < B) : (w.setCell ⟨k, i, none⟩ u).ownsRow B E K v n xs :=
  own_same h fun j hj => Below.heap_setCell _ _ _ _ (show j ≠ k by have := (own_blk h j hj).1; omega)
theorem own_mono22 {w : World} {B B' K n : Nat} {E : TypeId} {v : Value} {xs : List Value} (h : w.ownsRow B E K v n xs) (hB : B' ≤ B) : w.ownsRow B' E K v n xs := by
  refine ⟨h.1, ?_⟩
  rcases h.2 with h1 | ⟨g, cap, cur, rfl, h1, h2⟩
  · exact .inl h1
  · exact .inr ⟨g, cap, cur, rfl, by omega, h2⟩

set_option maxRecDepth 100000 in
set_option maxHeartbeats 8000000 in
theorem twin22_any (wv : Value) (l : List W) (ev : Value) (el : List (Int × Int)) (m : Int) (dv : Value) (dl : List Int) (w : World) (hv : RdW w wv l) (hev : RdE w ev el) (hdv : RdB w dv dl) (hl : l.length ≤ 1000000) (hel : el.length ≤ 1000000) (hdl : dl.length ≤ 1000000) :
   Calls Try.prog 11 #[.agg #[wv, ev, .int .i64 m, dv]] w fun e w' => ∃ us ue ud, e = .returned (.agg #[us, ue, .int .i64 m, ud]) ∧ w'.ownsRow w.heap.size 73 5 us l.length (cW l) ∧ w'.ownsRow w.heap.size 62 2 ue el.length (entC el) ∧ w'.ownsRow w.heap.size 5 1 ud dl.length (dl.map (Value.int .u8)) ∧ Below w.heap.size w w' := by
  obtain ⟨wa, wc, rfl⟩ := Rd.shape hv
  obtain ⟨ea, ec, rfl⟩ := Rd.shape hev
  obtain ⟨da, dc, rfl⟩ := Rd.shape hdv
  have HV := Lib.hid hv
  have HE := Lib.hid hev
  have HD := Lib.hid hdv
  clear hv hev hdv
  obtain ⟨i1, a1, a2, a3, a4⟩ := parts22 info_W22
  have HI1 : Hid _ := And.intro a1 (And.intro a2 (And.intro a3 a4))
  clear a1 a2 a3 a4
  obtain ⟨i2, a1, a2, a3, a4⟩ := parts22 info_E22
  have HI2 : Hid _ := And.intro a1 (And.intro a2 (And.intro a3 a4))
  clear a1 a2 a3 a4
  obtain ⟨i3, a1, a2, a3, a4⟩ := parts22 info_B22
  have HI3 : Hid _ := And.intro a1 (And.intro a2 (And.intro a3 a4))
  clear a1 a2 a3 a4
  obtain ⟨W0, hW0⟩ : ∃ W0, W0 = (w.alloc (.cells #[.slice wa l.length wc, .slice ea el.length ec, .int .i64 m, .slice da dl.length dc] 26)).alloc (.cells #[.slice none 0 0, .slice none 0 0, .int .i64 0, .slice none 0 0] 26) := ⟨_, rfl⟩
  have HB0 : Hid (Below w.heap.size w W0) := by rw [hW0]; exact ((Below.refl _ _).alloc (Nat.le_refl _) _).alloc (by simp) _
  have DI0 : Hid (W0.heap[w.heap.size]? = some (.cells #[.slice wa l.length wc, .slice ea el.length ec, .int .i64 m, .slice da dl.length dc] 26 (0, 0))) := by rw [hW0]; exact heap_old _ _ (heap_new _ _ rfl)
  have DR0 : Hid (W0.heap[w.heap.size + 1]? = some (.cells #[.slice none 0 0, .slice none 0 0, .int .i64 0, .slice none 0 0] 26 (0, 0))) := by rw [hW0]; exact heap_new _ _ (by simp)
  have hs0 : w.heap.size + 2 ≤ W0.heap.size := by rw [hW0]; simp
  have ht0 : w.heap.size < W0.heap.size := by omega
  have HW0 := Lib.hid hW0
  clear hW0
  have k0 : W0.cell? ⟨w.heap.size, 0, none⟩ = some (.slice wa l.length wc) := cell_of DI0.out rfl
  have z0 := unfrozen_of (i := 0) DI0.out
  go_enter Try.func11, Try.ntmps11
  go_upto_region 1 with fail
  rw [← HW0.out]
  go_upto_region 2 with (at_builtin; go_loud (refine wpList_append_own_rd (W0.alloc (.cells #[] 73)) rfl _ _ 22 rfl (w.heap.size + 2) 73 i1 (.agg #[.int .u8 0, .int .u8 0, .int .u8 0, .int .u8 0, .int .i64 0]) 5 16 Try.underlying22 HI1.out.1 HI1.out.2.1 HI1.out.2.2.1 HI1.out.2.2.2 rfl (by decide) (.slice (some ⟨W0.heap.size, 0, none⟩) 0 0) 0 [] rfl (lit22 W0 73 5 (w.heap.size + 2) hs0) (.slice wa l.length wc) l.length (cW l) rfl (Rd.alloc (Rd.later HV.out HB0.out) _) (cW_one l) (by unfold maxLen; omega) (by omega) (by simp; omega) ?_; intro v1 Y1 hown hgrow; rw [Nat.zero_add, List.nil_append] at hown; have HY1 : Hid (Below W0.heap.size W0 Y1) := ((Below.refl _ _).alloc (Nat.le_refl _) _).grown hgrow (by simp) (fun k hk => by cases hk; exact Nat.le_refl _); have DY : Hid (Y1.heap[w.heap.size]? = _) := heap_below HY1.out (by omega) DI0.out; have RY : Hid (Y1.heap[w.heap.size + 1]? = _) := heap_below HY1.out (by omega) DR0.out; have q1 := cell_of (i := 0) DY.out rfl; have zz1 := unfrozen_of (i := 0) DY.out; obtain ⟨va1, vc1, rfl⟩ := (Rd.of_own hown).shape; have HO1 := Lib.hid hown; clear hown hgrow k0 z0))
  obtain ⟨W1, hW1⟩ : ∃ W1, W1 = Y1.setCell ⟨w.heap.size, 0, none⟩ (.slice va1 l.length vc1) := ⟨_, rfl⟩
  have DI1 : Hid (W1.heap[w.heap.size]? = some (.cells #[.slice va1 l.length vc1, .slice ea el.length ec, .int .i64 m, .slice da dl.length dc] 26 (0, 0))) := by rw [hW1, heap_set DY.out]; exact Lib.hid rfl
  have DR1 : Hid (W1.heap[w.heap.size + 1]? = some (.cells #[.slice none 0 0, .slice none 0 0, .int .i64 0, .slice none 0 0] 26 (0, 0))) := by rw [hW1]; exact (Below.heap_setCell _ _ _ _ (show w.heap.size + 1 ≠ w.heap.size by omega)).trans RY.out
  have HB1 : Hid (Below w.heap.size w W1) := by rw [hW1]; exact (HB0.out.trans (HY1.out.mono (by omega))).setCell (Nat.le_refl _) _
  have hs1 : w.heap.size + 2 ≤ W1.heap.size := by rw [hW1]; have := HY1.out.size; show _ ≤ (Y1.setCell _ _).heap.size; simp; omega
  have ht1 : w.heap.size < W1.heap.size := by omega
  have HR1_1 : Hid (W1.ownsRow (w.heap.size + 2) 73 5 (.slice va1 l.length vc1) l.length (cW l)) := by rw [hW1]; exact own_set22 (HO1.out) (by omega)
  have HW1 := Lib.hid hW1
  clear hW1 DY RY q1 zz1 ht0
  rw [← HW1.out]
  have k1 := cell_of (i := 1) DI1.out rfl
  have z1 := unfrozen_of (i := 1) DI1.out
  go_upto_region 3 with (at_builtin; go_loud (refine wpList_append_own_rd (W1.alloc (.cells #[] 62)) rfl _ _ 23 rfl (w.heap.size + 2) 62 i2 (.agg #[.int .i64 0, .int .i64 0]) 2 16 Try.underlying23 HI2.out.1 HI2.out.2.1 HI2.out.2.2.1 HI2.out.2.2.2 rfl (by decide) (.slice (some ⟨W1.heap.size, 0, none⟩) 0 0) 0 [] rfl (lit22 W1 62 2 (w.heap.size + 2) hs1) (.slice ea el.length ec) el.length (entC el) rfl (Rd.alloc (Rd.later HE.out HB1.out) _) (entC_one el) (by unfold maxLen; omega) (by omega) (by simp; omega) ?_; intro v2 Y2 hown hgrow; rw [Nat.zero_add, List.nil_append] at hown; have HY2 : Hid (Below W1.heap.size W1 Y2) := ((Below.refl _ _).alloc (Nat.le_refl _) _).grown hgrow (by simp) (fun k hk => by cases hk; exact Nat.le_refl _); have DY : Hid (Y2.heap[w.heap.size]? = _) := heap_below HY2.out (by omega) DI1.out; have RY : Hid (Y2.heap[w.heap.size + 1]? = _) := heap_below HY2.out (by omega) DR1.out; have q2 := cell_of (i := 1) DY.out rfl; have zz2 := unfrozen_of (i := 1) DY.out; obtain ⟨va2, vc2, rfl⟩ := (Rd.of_own hown).shape; have HO2 := Lib.hid hown; clear hown hgrow k1 z1))
  obtain ⟨W2, hW2⟩ : ∃ W2, W2 = Y2.setCell ⟨w.heap.size, 1, none⟩ (.slice va2 el.length vc2) := ⟨_, rfl⟩
  have DI2 : Hid (W2.heap[w.heap.size]? = some (.cells #[.slice va1 l.length vc1, .slice va2 el.length vc2, .int .i64 m, .slice da dl.length dc] 26 (0, 0))) := by rw [hW2, heap_set DY.out]; exact Lib.hid rfl
  have DR2 : Hid (W2.heap[w.heap.size + 1]? = some (.cells #[.slice none 0 0, .slice none 0 0, .int .i64 0, .slice none 0 0] 26 (0, 0))) := by rw [hW2]; exact (Below.heap_setCell _ _ _ _ (show w.heap.size + 1 ≠ w.heap.size by omega)).trans RY.out
  have HB2 : Hid (Below w.heap.size w W2) := by rw [hW2]; exact (HB1.out.trans (HY2.out.mono (by omega))).setCell (Nat.le_refl _) _
  have hs2 : w.heap.size + 2 ≤ W2.heap.size := by rw [hW2]; have := HY2.out.size; show _ ≤ (Y2.setCell _ _).heap.size; simp; omega
  have ht2 : w.heap.size < W2.heap.size := by omega
  have HR1_2 : Hid (W2.ownsRow (w.heap.size + 2) 73 5 (.slice va1 l.length vc1) l.length (cW l)) := by rw [hW2]; exact own_set22 (own_later (own_later HR1_1.out (Below.refl _ _)) HY2.out) (by omega)
  have HR2_2 : Hid (W2.ownsRow (w.heap.size + 2) 62 2 (.slice va2 el.length vc2) el.length (entC el)) := by rw [hW2]; exact own_set22 (HO2.out) (by omega)
  have HW2 := Lib.hid hW2
  clear hW2 DY RY q2 zz2 ht1
  rw [← HW2.out]
  have k2 := cell_of (i := 3) DI2.out rfl
  have z2 := unfrozen_of (i := 3) DI2.out
  go_upto_region 4 with (at_builtin; go_loud (refine wpList_append_own_rd (W2.alloc (.cells #[] 5)) rfl _ _ 24 rfl (w.heap.size + 2) 5 i3 (.int .u8 0) 1 1 Try.underlying24 HI3.out.1 HI3.out.2.1 HI3.out.2.2.1 HI3.out.2.2.2 rfl (by decide) (.slice (some ⟨W2.heap.size, 0, none⟩) 0 0) 0 [] rfl (lit22 W2 5 1 (w.heap.size + 2) hs2) (.slice da dl.length dc) dl.length (dl.map (Value.int .u8)) rfl (Rd.alloc (Rd.later HD.out HB2.out) _) (bytes_one22 dl) (by unfold maxLen; omega) (by omega) (by simp; omega) ?_; intro v3 Y3 hown hgrow; rw [Nat.zero_add, List.nil_append] at hown; have HY3 : Hid (Below W2.heap.size W2 Y3) := ((Below.refl _ _).alloc (Nat.le_refl _) _).grown hgrow (by simp) (fun k hk => by cases hk; exact Nat.le_refl _); have DY : Hid (Y3.heap[w.heap.size]? = _) := heap_below HY3.out (by omega) DI2.out; have RY : Hid (Y3.heap[w.heap.size + 1]? = _) := heap_below HY3.out (by omega) DR2.out; have q3 := cell_of (i := 3) DY.out rfl; have zz3 := unfrozen_of (i := 3) DY.out; obtain ⟨va3, vc3, rfl⟩ := (Rd.of_own hown).shape; have HO3 := Lib.hid hown; clear hown hgrow k2 z2))
  obtain ⟨W3, hW3⟩ : ∃ W3, W3 = Y3.setCell ⟨w.heap.size, 3, none⟩ (.slice va3 dl.length vc3) := ⟨_, rfl⟩
  have DI3 : Hid (W3.heap[w.heap.size]? = some (.cells #[.slice va1 l.length vc1, .slice va2 el.length vc2, .int .i64 m, .slice va3 dl.length vc3] 26 (0, 0))) := by rw [hW3, heap_set DY.out]; exact Lib.hid rfl
  have DR3 : Hid (W3.heap[w.heap.size + 1]? = some (.cells #[.slice none 0 0, .slice none 0 0, .int .i64 0, .slice none 0 0] 26 (0, 0))) := by rw [hW3]; exact (Below.heap_setCell _ _ _ _ (show w.heap.size + 1 ≠ w.heap.size by omega)).trans RY.out
  have HB3 : Hid (Below w.heap.size w W3) := by rw [hW3]; exact (HB2.out.trans (HY3.out.mono (by omega))).setCell (Nat.le_refl _) _
  have hs3 : w.heap.size + 2 ≤ W3.heap.size := by rw [hW3]; have := HY3.out.size; show _ ≤ (Y3.setCell _ _).heap.size; simp; omega
  have ht3 : w.heap.size < W3.heap.size := by omega
  have HR1_3 : Hid (W3.ownsRow (w.heap.size + 2) 73 5 (.slice va1 l.length vc1) l.length (cW l)) := by rw [hW3]; exact own_set22 (own_later (own_later HR1_2.out (Below.refl _ _)) HY3.out) (by omega)
  have HR2_3 : Hid (W3.ownsRow (w.heap.size + 2) 62 2 (.slice va2 el.length vc2) el.length (entC el)) := by rw [hW3]; exact own_set22 (own_later (own_later HR2_2.out (Below.refl _ _)) HY3.out) (by omega)
  have HR3_3 : Hid (W3.ownsRow (w.heap.size + 2) 5 1 (.slice va3 dl.length vc3) dl.length (dl.map (Value.int .u8))) := by rw [hW3]; exact own_set22 (HO3.out) (by omega)
  have HW3 := Lib.hid hW3
  clear hW3 DY RY q3 zz3 ht2
  rw [← HW3.out]
  have p0 := cell_of (i := 0) DI3.out rfl
  have s0 := cell_of (i := 0) DR3.out rfl
  have p1 := cell_of (i := 1) DI3.out rfl
  have s1 := cell_of (i := 1) DR3.out rfl
  have p2 := cell_of (i := 2) DI3.out rfl
  have s2 := cell_of (i := 2) DR3.out rfl
  have p3 := cell_of (i := 3) DI3.out rfl
  have s3 := cell_of (i := 3) DR3.out rfl
  have sz := (fun i => unfrozen_of (i := i) DR3.out)
  have hu : w.heap.size + 1 < W3.heap.size := by omega
  go_wp2_with fail
  refine bodyPost_ret (v := .agg #[.slice va1 l.length vc1, .slice va2 el.length vc2, .int .i64 m, .slice va3 dl.length vc3]) ?_ rfl ⟨_, _, _, rfl, ?_, ?_, ?_, ?_⟩
  · simp [results, Try.results11, go_sem, s0, s1, s2, s3]
  · exact own_mono22 (own_set22 (own_set22 (own_set22 (own_set22 HR1_3.out (by omega)) (by omega)) (by omega)) (by omega)) (by omega)
  · exact own_mono22 (own_set22 (own_set22 (own_set22 (own_set22 HR2_3.out (by omega)) (by omega)) (by omega)) (by omega)) (by omega)
  · exact own_mono22 (own_set22 (own_set22 (own_set22 (own_set22 HR3_3.out (by omega)) (by omega)) (by omega)) (by omega)) (by omega)
  · exact (((HB3.out.setCell (by show _ ≤ w.heap.size + 1; omega) _).setCell (by show _ ≤ w.heap.size + 1; omega) _).setCell (by show _ ≤ w.heap.size + 1; omega) _).setCell (by show _ ≤ w.heap.size + 1; omega) _
end Go.Proofs.Ytgjmdcbdkdmceaa.Mach

/- An image, numbers, bytes among the arguments, opened. (Turned from vet XFo.) -/
namespace Go.Proofs.Ytgjmdcbdkdmceaa.Mach
open Go.Joins Go.ChangeShapes Go.WideShapes Go.RowKit Go.Deep

theorem flat_at22 {F : Nat → List Value} {k : Nat} : ∀ n, (∀ i, i < n → (F i).length = k) → ((List.range n).flatMap F).length = n * k ∧ ∀ i r, i < n → r < k → ((List.range n).flatMap F)[i * k + r]? = (F i)[r]?
  | 0, _ => by simp
  | n + 1, h => by
    obtain ⟨h1, h2⟩ := flat_at22 n (fun i hi => h i (by omega))
    have hn := h n (by omega)
    have e : (List.range (n + 1)).flatMap F = (List.range n).flatMap F ++ F n := by rw [List.range_succ, List.flatMap_append]; simp
    rw [e]
    refine ⟨by rw [List.length_append, h1, hn, Nat.add_mul]; omega, fun i r hi hr => ?_⟩
    by_cases hin : i < n
    · have : (i + 1) * k ≤ n * k := Nat.mul_le_mul_right _ hin
      rw [Nat.succ_mul] at this
      rw [List.getElem?_append_left (by omega)]
      exact h2 i r hin hr
    · obtain rfl : i = n := by omega
      rw [List.getElem?_append_right (by omega), h1, Nat.add_sub_cancel_left]

theorem slice_open22 {H : Type} {enc : TypeId × Value → H} {P : Program} {w : World} {base fuel : Nat} {t e : TypeId} {v : Value} {y : DataW H × List MemPlace} {α : Type} [Inhabited α] {k : Nat} (Pe : List Value → α → Prop) (hu : P.underlying t = some (.slice e)) (hk : P.cellsOf e = k)
    (hone : ∀ n cs' y, cs'.length = k → DataW.trod enc P w base (fun _ => true) true n e cs' = some y → ∃ x, Pe cs' x) (hf : DataW.trod enc P w base (fun _ => true) true fuel t [v] = some y) :
    ∃ (xs : List α) (cells : List Value), Rd w k v xs.length cells ∧ (∀ i (h : i < xs.length), ∃ cs, cs.length = k ∧ Pe cs xs[i] ∧ ∀ r, r < k → cells[i * k + r]? = cs[r]?) ∧ (xs.length = 0 ∨ ∃ el sp, y.1 = .slice el sp ∧ xs.length ≤ el.length + sp.length) := by
  rcases open_slice hu hf with ⟨hcs, rfl⟩ | ⟨a, len, cap, m, n, D, Pl, hcs, _, hl, hm, hmm, hy, hi⟩
  · simp at hcs
    subst hcs
    exact ⟨[], [], Rd.nil _ _, fun i h => absurd h (by simp), .inl rfl⟩
  · simp at hcs
    subst hcs
    simp only [if_true] at hmm
    subst hmm
    have key : ∀ i, ∃ x : List Value × α, i < len → (x.1.length = k ∧ Pe x.1 x.2 ∧ ∀ r u, x.1[r]? = some u → w.cell? (a.add (i * k + r)) = some u) := fun i => by
      by_cases hil : i < len
      · obtain ⟨cs', hc, ht'⟩ := hi i (by omega)
        rw [hk] at hc
        obtain ⟨_, hcl, hat⟩ := World.cells?_some hc
        obtain ⟨x, hx1⟩ := hone _ _ _ hcl ht'
        refine ⟨(cs', x), fun _ => ⟨hcl, hx1, fun r u hr => ?_⟩⟩
        obtain ⟨hr1, hr2⟩ := List.getElem?_eq_some_iff.1 hr
        have := hat r (by simp only at hr1; omega)
        rw [Go.Deep.add_add] at this
        rw [← hr2]
        first | exact this | (rw [this]; simp [hr1])
      · exact ⟨([], default), fun h => absurd h hil⟩
    obtain ⟨F, hF⟩ := Classical.axiomOfChoice key
    obtain ⟨g1, g2⟩ := flat_at22 (F := fun i => (F i).1) (k := k) len (fun i hi => (hF i hi).1)
    have hlen : ((List.range len).map fun i => (F i).2).length = len := by simp
    refine ⟨(List.range len).map fun i => (F i).2, (List.range len).flatMap fun i => (F i).1, ?_, fun i hi => ?_, .inr ⟨_, _, by rw [hy], by simp⟩⟩
    · rw [hlen]
      refine ⟨g1, .inr ⟨a, _, rfl, hl, hm, fun j u hu => ?_⟩⟩
      have hj : j < len * k := by rw [← g1]; exact (List.getElem?_eq_some_iff.1 hu).1
      have hk0 : 0 < k := Nat.pos_of_ne_zero (fun e => by subst e; simp at hj)
      have hdiv : j / k < len := (Nat.div_lt_iff_lt_mul hk0).2 hj
      have hmod := Nat.mod_lt j hk0
      have he : j / k * k + j % k = j := by rw [Nat.mul_comm]; exact Nat.div_add_mod j k
      have h3 := g2 (j / k) (j % k) hdiv hmod
      rw [he, hu] at h3
      have := (hF _ hdiv).2.2 _ _ h3.symm
      rwa [he] at this
    · rw [hlen] at hi
      have e : ((List.range len).map fun i => (F i).2)[i]'(by rw [hlen]; exact hi) = (F i).2 := by simp
      rw [e]
      exact ⟨(F i).1, (hF i hi).1, (hF i hi).2.1, fun r hr => g2 i r hi hr⟩
theorem open2_22 {H : Type} {enc : TypeId × Value → H} {P : Program} {w : World} {base : Nat} {t : TypeId} {f0 f1 : Field} {c0 c1 : Value} {fuel : Nat} {y : DataW H × List MemPlace} (hs : P.underlying t = some (.struct #[f0, f1])) (hone : oneCellFields P #[f0, f1] = true)
    (h : DataW.trod enc P w base (fun _ => true) true fuel t [c0, c1] = some y) :
    ∃ (y0 y1 : DataW H × List MemPlace) (n : Nat), DataW.trod enc P w base (fun _ => true) true n f0.type [c0] = some y0 ∧ DataW.trod enc P w base (fun _ => true) true n f1.type [c1] = some y1 := by
  obtain ⟨xs, n, _, hx, _, hlen, hg⟩ := DataW.trod_struct hs h
  obtain ⟨o0, k0⟩ := hone_of hone 0 f0 rfl
  obtain ⟨o1, k1⟩ := hone_of hone 1 f1 rfl
  match xs, hlen with
  | [y0, y1], _ =>
    exact ⟨y0, y1, n, by simpa [o0, k0] using hg 0 f0 rfl, by simpa [o1, k1] using hg 1 f1 rfl⟩
theorem open4_22 {H : Type} {enc : TypeId × Value → H} {P : Program} {w : World} {base : Nat} {t : TypeId} {f0 f1 f2 f3 : Field} {c0 c1 c2 c3 : Value} {fuel : Nat} {y : DataW H × List MemPlace} (hs : P.underlying t = some (.struct #[f0, f1, f2, f3])) (hone : oneCellFields P #[f0, f1, f2, f3] = true)
    (h : DataW.trod enc P w base (fun _ => true) true fuel t [c0, c1, c2, c3] = some y) :
    ∃ (y0 y1 y2 y3 : DataW H × List MemPlace) (n : Nat), DataW.trod enc P w base (fun _ => true) true n f0.type [c0] = some y0 ∧ DataW.trod enc P w base (fun _ => true) true n f1.type [c1] = some y1 ∧ DataW.trod enc P w base (fun _ => true) true n f2.type [c2] = some y2 ∧ DataW.trod enc P w base (fun _ => true) true n f3.type [c3] = some y3 := by
  obtain ⟨xs, n, _, hx, _, hlen, hg⟩ := DataW.trod_struct hs h
  obtain ⟨o0, k0⟩ := hone_of hone 0 f0 rfl
  obtain ⟨o1, k1⟩ := hone_of hone 1 f1 rfl
  obtain ⟨o2, k2⟩ := hone_of hone 2 f2 rfl
  obtain ⟨o3, k3⟩ := hone_of hone 3 f3 rfl
  match xs, hlen with
  | [y0, y1, y2, y3], _ =>
    exact ⟨y0, y1, y2, y3, n, by simpa [o0, k0] using hg 0 f0 rfl, by simpa [o1, k1] using hg 1 f1 rfl, by simpa [o2, k2] using hg 2 f2 rfl, by simpa [o3, k3] using hg 3 f3 rfl⟩
theorem open5_22 {H : Type} {enc : TypeId × Value → H} {P : Program} {w : World} {base : Nat} {t : TypeId} {f0 f1 f2 f3 f4 : Field} {c0 c1 c2 c3 c4 : Value} {fuel : Nat} {y : DataW H × List MemPlace} (hs : P.underlying t = some (.struct #[f0, f1, f2, f3, f4])) (hone : oneCellFields P #[f0, f1, f2, f3, f4] = true)
    (h : DataW.trod enc P w base (fun _ => true) true fuel t [c0, c1, c2, c3, c4] = some y) :
    ∃ (y0 y1 y2 y3 y4 : DataW H × List MemPlace) (n : Nat), DataW.trod enc P w base (fun _ => true) true n f0.type [c0] = some y0 ∧ DataW.trod enc P w base (fun _ => true) true n f1.type [c1] = some y1 ∧ DataW.trod enc P w base (fun _ => true) true n f2.type [c2] = some y2 ∧ DataW.trod enc P w base (fun _ => true) true n f3.type [c3] = some y3 ∧ DataW.trod enc P w base (fun _ => true) true n f4.type [c4] = some y4 := by
  obtain ⟨xs, n, _, hx, _, hlen, hg⟩ := DataW.trod_struct hs h
  obtain ⟨o0, k0⟩ := hone_of hone 0 f0 rfl
  obtain ⟨o1, k1⟩ := hone_of hone 1 f1 rfl
  obtain ⟨o2, k2⟩ := hone_of hone 2 f2 rfl
  obtain ⟨o3, k3⟩ := hone_of hone 3 f3 rfl
  obtain ⟨o4, k4⟩ := hone_of hone 4 f4 rfl
  match xs, hlen with
  | [y0, y1, y2, y3, y4], _ =>
    exact ⟨y0, y1, y2, y3, y4, n, by simpa [o0, k0] using hg 0 f0 rfl, by simpa [o1, k1] using hg 1 f1 rfl, by simpa [o2, k2] using hg 2 f2 rfl, by simpa [o3, k3] using hg 3 f3 rfl, by simpa [o4, k4] using hg 4 f4 rfl⟩
theorem int_cell22 {H : Type} {enc : TypeId × Value → H} {P : Program} {w : World} {base n : Nat} {t : TypeId} {k : IntKind} {c : Value} {y : DataW H × List MemPlace} (ht : P.underlying t = some (.int k)) (h : DataW.trod enc P w base (fun _ => true) true n t [c] = some y) : ∃ a : Int, c = .int k a ∧ (Lit.int k a).wf = true := by
  obtain ⟨a, e, -, hw⟩ := DataW.trod_int ht h
  simp at e
  subst e
  exact ⟨a, rfl, hw⟩
theorem i64_wf {a : Int} (h : (Lit.int .i64 a).wf = true) : i64 a := by
  simp [Lit.wf, IntKind.min, IntKind.max, IntKind.signed, IntKind.bits] at h
  exact h
theorem u16_wf {a : Int} (h : (Lit.int .u16 a).wf = true) : 0 ≤ a ∧ a < 65536 := by
  simp [Lit.wf, IntKind.min, IntKind.max, IntKind.signed, IntKind.bits] at h
  omega
theorem u8_wf {a : Int} (h : (Lit.int .u8 a).wf = true) : 0 ≤ a ∧ a ≤ 255 := by
  simp [Lit.wf, IntKind.min, IntKind.max, IntKind.signed, IntKind.bits] at h
  omega
theorem cellsWord22 : Try.prog.cellsOf 73 = 5 := by kernel_rfl
theorem cellsEntry22 : Try.prog.cellsOf 62 = 2 := by kernel_rfl
theorem cellsU822 : Try.prog.cellsOf 5 = 1 := by kernel_rfl
theorem cellsImage22 : Try.prog.cellsOf 26 = 4 := by kernel_rfl
instance : Inhabited W := ⟨⟨0, 0, 0, 0, 0⟩⟩

def ImgArg (w : World) (v : Value) (x : List W × List (Int × Int) × Int × List Int) : Prop := ∃ wv ev dv, v = .agg #[wv, ev, .int .i64 x.2.2.1, dv] ∧ RdW w wv x.1 ∧ (∀ y ∈ x.1, y.ok) ∧ RdE w ev x.2.1 ∧ (∀ y ∈ x.2.1, i64 y.1 ∧ i64 y.2) ∧ RdB w dv x.2.2.2 ∧ isB x.2.2.2

theorem cells_eq22 {α : Type} {k : Nat} (hk : 0 < k) (f : α → List Value) (hf : ∀ x, (f x).length = k) (F : List α → List Value) (hF0 : F [] = []) (hF : ∀ x r, F (x :: r) = f x ++ F r) : ∀ (xs : List α) (cells : List Value), cells.length = xs.length * k → (∀ i (h : i < xs.length), ∀ r, r < k → cells[i * k + r]? = (f xs[i])[r]?) → cells = F xs
  | [], cells, hl, _ => by rw [hF0]; exact List.eq_nil_of_length_eq_zero (by simpa using hl)
  | x :: xs, cells, hl, hc => by
    have hl2 : cells.length = xs.length * k + k := by rw [hl, List.length_cons, Nat.succ_mul]
    have e1 : cells.take k = f x := by
      apply List.ext_getElem?
      intro r
      by_cases hr : r < k
      · rw [List.getElem?_take_of_lt hr]
        have := hc 0 (by simp) r hr
        simpa using this
      · rw [List.getElem?_eq_none (by rw [List.length_take]; omega), List.getElem?_eq_none (by rw [hf]; omega)]
    have e2 : cells.drop k = F xs := cells_eq22 hk f hf F hF0 hF xs (cells.drop k) (by rw [List.length_drop]; omega) (fun i hi r hr => by
      rw [List.getElem?_drop]
      have := hc (i + 1) (by simpa using hi) r hr
      rw [Nat.succ_mul] at this
      rw [show k + (i * k + r) = i * k + k + r by omega, this]
      simp)
    rw [hF, ← e1, ← e2, List.take_append_drop]

set_option maxRecDepth 100000 in
theorem image_in {H : Type} {enc : TypeId × Value → H} {w : World} {base : Nat} {r : Reach} {b0 : Nat} {v : Value} {d : DataW H} {p : List MemPlace} (hv : Value.okWide Try.prog w r b0 26 v) (h : DataW.Trod enc Try.prog w base (fun _ => true) true 26 v d p) :
    ∃ x, ImgArg w v x := by
  obtain ⟨cs, rfl, hsz⟩ := okWide_struct Try.underlying26 hv
  obtain ⟨l⟩ := cs
  match l, hsz.trans cellsImage22 with
  | [c0, c1, c2, c3], _ =>
    obtain ⟨fuel, hf⟩ := h
    obtain ⟨y0, y1, y2, y3, n, h0, h1, h2, h3⟩ := open4_22 Try.underlying26 (by kernel_rfl) hf
    obtain ⟨xs, wc, a1, a2, -⟩ := slice_open22 (α := W) (fun cs x => cs = [.int .u8 x.op, .int .u8 x.a, .int .u8 x.b, .int .u8 x.c, .int .i64 x.imm] ∧ x.ok) Try.underlying22 cellsWord22 (fun n cs' y hl ht => by
      match cs', hl with
      | [e0, e1, e2, e3, e4], _ =>
        obtain ⟨z0, z1, z2, z3, z4, n', t0, t1, t2, t3, t4⟩ := open5_22 Try.underlying73 (by kernel_rfl) ht
        obtain ⟨q0, rfl, w0⟩ := int_cell22 Try.underlying5 t0
        obtain ⟨q1, rfl, w1⟩ := int_cell22 Try.underlying5 t1
        obtain ⟨q2, rfl, w2⟩ := int_cell22 Try.underlying5 t2
        obtain ⟨q3, rfl, w3⟩ := int_cell22 Try.underlying5 t3
        obtain ⟨q4, rfl, w4⟩ := int_cell22 Try.underlying2 t4
        simp [Lit.wf, IntKind.min, IntKind.max, IntKind.signed, IntKind.bits] at w0 w1 w2 w3 w4
        exact ⟨⟨q0, q1, q2, q3, q4⟩, rfl, by unfold W.ok; simp only; omega⟩) h0
    obtain ⟨es, ec, b1, b2, -⟩ := slice_open22 (α := Int × Int) (fun cs x => cs = [.int .i64 x.1, .int .i64 x.2] ∧ i64 x.1 ∧ i64 x.2) Try.underlying23 cellsEntry22 (fun n cs' y hl ht => by
      match cs', hl with
      | [e0, e1], _ =>
        obtain ⟨z0, z1, n', t0, t1⟩ := open2_22 Try.underlying62 (by kernel_rfl) ht
        obtain ⟨q0, rfl, w0⟩ := int_cell22 Try.underlying3 t0
        obtain ⟨q1, rfl, w1⟩ := int_cell22 Try.underlying3 t1
        exact ⟨(q0, q1), rfl, i64_wf w0, i64_wf w1⟩) h1
    obtain ⟨q2, rfl, -⟩ := int_cell22 Try.underlying3 h2
    obtain ⟨ds, dc, d1, d2, -⟩ := slice_open22 (α := Int) (fun cs x => cs = [.int .u8 x] ∧ (0 ≤ x ∧ x ≤ 255)) Try.underlying24 cellsU822 (fun n cs' y hl ht => by
      match cs', hl with
      | [e0], _ =>
        obtain ⟨q0, rfl, w0⟩ := int_cell22 Try.underlying5 ht
        simp [Lit.wf, IntKind.min, IntKind.max, IntKind.signed, IntKind.bits] at w0
        exact ⟨q0, rfl, by omega⟩) h3
    have ew : wc = cW xs := cells_eq22 (by decide) (fun x => [.int .u8 x.op, .int .u8 x.a, .int .u8 x.b, .int .u8 x.c, .int .i64 x.imm]) (fun _ => rfl) cW rfl (fun _ _ => rfl) xs wc a1.1 (fun i hi r hr => by obtain ⟨cs, -, hp, hc⟩ := a2 i hi; rw [hc r hr, hp.1])
    have ee : ec = entC es := cells_eq22 (by decide) (fun x => [.int .i64 x.1, .int .i64 x.2]) (fun _ => rfl) entC rfl (fun _ _ => rfl) es ec b1.1 (fun i hi r hr => by obtain ⟨cs, -, hp, hc⟩ := b2 i hi; rw [hc r hr, hp.1])
    have ed : dc = ds.map (Value.int .u8) := cells_eq22 (by decide) (fun x => [.int .u8 x]) (fun _ => rfl) (List.map (Value.int .u8)) rfl (fun _ _ => rfl) ds dc d1.1 (fun i hi r hr => by obtain ⟨cs, -, hp, hc⟩ := d2 i hi; rw [hc r hr, hp.1])
    subst ew ee ed
    refine ⟨(xs, es, q2, ds), c0, c1, c3, rfl, a1, fun y hy => ?_, b1, fun y hy => ?_, d1, fun y hy => ?_⟩
    · obtain ⟨i, hi, rfl⟩ := List.getElem_of_mem hy
      obtain ⟨_, _, hp, _⟩ := a2 i hi
      exact hp.2
    · obtain ⟨i, hi, rfl⟩ := List.getElem_of_mem hy
      obtain ⟨_, _, hp, _⟩ := b2 i hi
      exact hp.2
    · obtain ⟨i, hi, rfl⟩ := List.getElem_of_mem hy
      obtain ⟨_, _, hp, _⟩ := d2 i hi
      exact hp.2
theorem cellsI64 : Try.prog.cellsOf 2 = 1 := by kernel_rfl
theorem bytesI64 : Try.prog.bytesOf 2 = 8 := by kernel_rfl
theorem bytesU822 : Try.prog.bytesOf 5 = 1 := by kernel_rfl
set_option maxRecDepth 100000 in
theorem i64s_in {H : Type} {enc : TypeId × Value → H} {w : World} {base : Nat} {v : Value} {d : DataW H} {p : List MemPlace} {r : Reach} {b0 : Nat} (hv : Value.okWide Try.prog w r b0 27 v) (h : DataW.Trod enc Try.prog w base (fun _ => true) true 27 v d p) :
    ∃ l : List Int, Rd w 1 v l.length (intsV l) ∧ I64s l ∧ (l.length = 0 ∨ ∃ el sp, d = .slice el sp ∧ l.length ≤ el.length + sp.length) := by
  obtain ⟨a0, len0, cap0, rfl⟩ := okWide_slice Try.underlying27 hv
  obtain ⟨fuel, hf⟩ := h
  obtain ⟨ds, dc, d1, d2, d3⟩ := slice_open22 (α := Int) (fun cs x => cs = [.int .i64 x] ∧ i64 x) Try.underlying27 cellsI64 (fun n cs' y hl ht => by
      match cs', hl with
      | [e0], _ =>
        obtain ⟨q0, rfl, w0⟩ := int_cell22 Try.underlying2 ht
        exact ⟨q0, rfl, i64_wf w0⟩) hf
  have ed : dc = intsV ds := cells_eq22 (by decide) (fun x => [.int .i64 x]) (fun _ => rfl) intsV rfl (fun _ _ => rfl) ds dc d1.1 (fun i hi r hr => by obtain ⟨cs, -, hp, hc⟩ := d2 i hi; rw [hc r hr, hp.1])
  rw [ed] at d1
  refine ⟨ds, d1, fun y hy => ?_, d3⟩
  obtain ⟨i, hi, rfl⟩ := List.getElem_of_mem hy
  obtain ⟨_, _, hp, _⟩ := d2 i hi
  exact hp.2
set_option maxRecDepth 100000 in
theorem u8s_in {H : Type} {enc : TypeId × Value → H} {w : World} {base : Nat} {v : Value} {d : DataW H} {p : List MemPlace} {r : Reach} {b0 : Nat} (hv : Value.okWide Try.prog w r b0 24 v) (h : DataW.Trod enc Try.prog w base (fun _ => true) true 24 v d p) :
    ∃ l : List Int, RdB w v l ∧ isB l ∧ (l.length = 0 ∨ ∃ el sp, d = .slice el sp ∧ l.length ≤ el.length + sp.length) := by
  obtain ⟨a0, len0, cap0, rfl⟩ := okWide_slice Try.underlying24 hv
  obtain ⟨fuel, hf⟩ := h
  obtain ⟨ds, dc, d1, d2, d3⟩ := slice_open22 (α := Int) (fun cs x => cs = [.int .u8 x] ∧ (0 ≤ x ∧ x ≤ 255)) Try.underlying24 cellsU822 (fun n cs' y hl ht => by
      match cs', hl with
      | [e0], _ =>
        obtain ⟨q0, rfl, w0⟩ := int_cell22 Try.underlying5 ht
        exact ⟨q0, rfl, u8_wf w0⟩) hf
  have ed : dc = ds.map (Value.int .u8) := cells_eq22 (by decide) (fun x => [.int .u8 x]) (fun _ => rfl) (List.map (Value.int .u8)) rfl (fun _ _ => rfl) ds dc d1.1 (fun i hi r hr => by obtain ⟨cs, -, hp, hc⟩ := d2 i hi; rw [hc r hr, hp.1])
  rw [ed] at d1
  refine ⟨ds, d1, fun y hy => ?_, d3⟩
  obtain ⟨i, hi, rfl⟩ := List.getElem_of_mem hy
  obtain ⟨_, _, hp, _⟩ := d2 i hi
  exact hp.2
/-- No list among the arguments is longer than can be. -/
theorem list_sized {H : Type} {d : DataW H} {ts : List TypeId} {ds : List (DataW H)} {j : Nat} {t e0 : TypeId} {n : Nat} (hsz : (DataW.weightsEach Try.prog ts ds).all (· ≤ reachBytes) = true) (ht : ts[j]? = some t) (hd : ds[j]? = some d) (hu : Try.prog.underlying t = some (.slice e0)) (h : n = 0 ∨ ∃ el sp, d = .slice el sp ∧ n ≤ el.length + sp.length) :
    n * Try.prog.bytesOf e0 ≤ 140737488351232 := by
  rcases h with rfl | ⟨el, sp, rfl, hh⟩
  · omega
  · have hm : (el.length + sp.length) * Try.prog.bytesOf e0 ∈ DataW.weights Try.prog t (.slice el sp) := by simp [DataW.weights, hu]
    have := List.all_eq_true.1 hsz _ (DataW.weights_mem_each ht hd _ hm)
    have h2 : (el.length + sp.length) * Try.prog.bytesOf e0 ≤ reachBytes := by simpa using this
    have hr : reachBytes = 140737488351232 := rfl
    exact Nat.le_trans (Nat.mul_le_mul_right _ hh) (by omega)
end Go.Proofs.Ytgjmdcbdkdmceaa.Mach

/- A slice of ints among the arguments, opened, with its bound. -/
namespace Go.Proofs.Ytgjmdcbdkdmceaa.Mach
open Go.Joins Go.ChangeShapes Go.WideShapes Go.RowKit Go.Deep

theorem cellsInt : Try.prog.cellsOf 3 = 1 := by kernel_rfl
theorem bytesInt : Try.prog.bytesOf 3 = 8 := by kernel_rfl
set_option maxRecDepth 100000 in
theorem intl_in {H : Type} {enc : TypeId × Value → H} {w : World} {base : Nat} {v : Value} {d : DataW H} {p : List MemPlace} {r : Reach} {b0 : Nat} (hv : Value.okWide Try.prog w r b0 28 v) (h : DataW.Trod enc Try.prog w base (fun _ => true) true 28 v d p) :
    ∃ l : List Int, Rd w 1 v l.length (intsV l) ∧ I64s l ∧ (l.length = 0 ∨ ∃ el sp, d = .slice el sp ∧ l.length ≤ el.length + sp.length) := by
  obtain ⟨a0, len0, cap0, rfl⟩ := okWide_slice Try.underlying28 hv
  obtain ⟨fuel, hf⟩ := h
  obtain ⟨ds, dc, d1, d2, d3⟩ := slice_open22 (α := Int) (fun cs x => cs = [.int .i64 x] ∧ i64 x) Try.underlying28 cellsInt (fun n cs' y hl ht => by
      match cs', hl with
      | [e0], _ =>
        obtain ⟨q0, rfl, w0⟩ := int_cell22 Try.underlying3 ht
        exact ⟨q0, rfl, i64_wf w0⟩) hf
  have ed : dc = intsV ds := cells_eq22 (by decide) (fun x => [.int .i64 x]) (fun _ => rfl) intsV rfl (fun _ _ => rfl) ds dc d1.1 (fun i hi r hr => by obtain ⟨cs, -, hp, hc⟩ := d2 i hi; rw [hc r hr, hp.1])
  rw [ed] at d1
  refine ⟨ds, d1, fun y hy => ?_, d3⟩
  obtain ⟨i, hi, rfl⟩ := List.getElem_of_mem hy
  obtain ⟨_, _, hp, _⟩ := d2 i hi
  exact hp.2
end Go.Proofs.Ytgjmdcbdkdmceaa.Mach
