/- Is an image small: the document's Few. (Turned from vet XFw.) -/
import Derived.Test.YteeapfgjjankeaaQHb
namespace Go.Proofs.Yteeapfgjjankeaa.Mach
open Go.RowKit

def RdE (w : World) (v : Value) (l : List (Int × Int)) : Prop := Rd w 2 v l.length (entC l)
theorem RdE.split {w : World} {v : Value} {l : List (Int × Int)} (h : RdE w v l) :
    (∃ a c, v = .slice a 0 c ∧ l = []) ∨ ∃ b off c, v = .slice (some ⟨b, off, none⟩) l.length c ∧ 0 < l.length ∧ l.length ≤ c ∧ c ≤ 9223372036854775807 ∧ b < w.heap.size ∧
      ∀ j, (hj : j < l.length) → w.cell? ⟨b, off + j * 2, none⟩ = some (.int .i64 l[j].1) ∧ w.cell? ⟨b, off + j * 2 + 1, none⟩ = some (.int .i64 l[j].2) := by
  rcases Rd.split h (by omega) with ⟨a, c, rfl, h0, _⟩ | ⟨b, off, c, rfl, h1, h2, h3, h4, h5⟩
  · exact .inl ⟨a, c, rfl, List.eq_nil_of_length_eq_zero h0⟩
  · refine .inr ⟨b, off, c, rfl, h1, h2, h3, h4, fun j hj => ?_⟩
    obtain ⟨c1, c2⟩ := entC_at l j hj
    obtain ⟨i1, c1⟩ := List.getElem?_eq_some_iff.1 c1
    obtain ⟨i2, c2⟩ := List.getElem?_eq_some_iff.1 c2
    have e : l.getD j (0, 0) = l[j] := by rw [List.getD_eq_getElem?_getD, List.getElem?_eq_getElem hj]; rfl
    refine ⟨?_, ?_⟩
    · rw [h5 _ i1, c1, e]
    · rw [Nat.add_assoc, h5 _ i2, c2, e]

def FewIs (wn : Nat) (el : List (Int × Int)) (dn : Nat) (e : Ending) : Prop := ∃ b : Bool, (b = true → wn ≤ 1500 ∧ el.length ≤ 50 ∧ dn ≤ 20000 ∧ ∀ x ∈ el, ¬ (300 < x.2 ∧ x.2 ≤ 60000)) ∧ e = .returned (.bool b)
theorem fewIs_no {wn dn : Nat} {el : List (Int × Int)} : FewIs wn el dn (.returned (.bool false)) := ⟨false, (fun h => by cases h), rfl⟩

set_option maxRecDepth 100000 in
set_option maxHeartbeats 8000000 in
theorem few22_any (wa : Option Addr) (wn wc : Nat) (ev : Value) (el : List (Int × Int)) (m : Int) (da : Option Addr) (dn dc : Nat) (w : World) (hev : RdE w ev el) (hwn : wn ≤ 9223372036854775807) (hdn : dn ≤ 9223372036854775807) :
   Calls Try.prog 8 #[.agg #[.slice wa wn wc, ev, .int .i64 m, .slice da dn dc]] w fun e w' => FewIs wn el dn e ∧ Below w.heap.size w w' := by
  have he9 : el.length ≤ 9223372036854775807 := Rd.le hev
  have HBA : ∀ o, Hid (Below w.heap.size w (w.alloc o)) := fun o => (Below.refl _ _).alloc (Nat.le_refl _) o
  obtain ⟨ea, ec, rfl⟩ := Rd.shape hev
  have HE := Lib.hid hev
  clear hev
  go_enter Try.func8, Try.ntmps8
  by_cases h1 : 1500 < wn
  · go_wp2_with fail
    refine bodyPost_ret (v := .bool false) (by simp [results, Try.results8, go_sem]) rfl ⟨fewIs_no, (HBA _).out⟩
  by_cases h2 : 50 < el.length
  · go_wp2_with fail
    refine bodyPost_ret (v := .bool false) (by simp [results, Try.results8, go_sem]) rfl ⟨fewIs_no, (HBA _).out⟩
  by_cases h3 : 20000 < dn
  · go_wp2_with fail
    refine bodyPost_ret (v := .bool false) (by simp [results, Try.results8, go_sem]) rfl ⟨fewIs_no, (HBA _).out⟩
  go_wp2_with fail
  go_loopw [24] (fun i wr => ∃ j : Nat, j ≤ el.length ∧ i = .int .i64 j ∧ (∀ i (hi : i < el.length), i < j → ¬ (300 < el[i].2 ∧ el[i].2 ≤ 60000)) ∧ Below (w.heap.size + 1) (w.alloc (.cells #[.slice wa wn wc, .slice ea el.length ec, .int .i64 m, .slice da dn dc] 26)) wr) (fun i _ => el.length - (intOf i).toNat)
  case atStart => exact ⟨0, by omega, rfl, fun i _ h => absurd h (by omega), Below.refl _ _⟩
  case round =>
    obtain ⟨j, hj, rfl, hall, hbel⟩ := hrel
    have HA := Lib.hid hall
    have HB := Lib.hid hbel
    have hs1 : w.heap.size + 1 ≤ wr.heap.size := by simpa using hbel.size
    have hs2 : w.heap.size < wr.heap.size := by omega
    have hcl : ∀ p : Addr, p.block < w.heap.size → wr.cell? p = w.cell? p := fun p hp => by
      rw [hbel.cell (by omega)]; exact World.cell?_alloc_lt _ _ _ hp
    clear hall hbel
    by_cases hlt : j < el.length
    · rcases RdE.split HE.out with ⟨_, _, _, rfl⟩ | ⟨eb, eoff, ecc, hev, hep, hel2, _, heb, hecell⟩
      · simp at hlt
      simp only [Value.slice.injEq] at hev
      obtain ⟨rfl, -, rfl⟩ := hev
      obtain ⟨d0, d1⟩ := hecell j hlt
      rw [← hcl ⟨eb, eoff + j * 2, none⟩ heb] at d0
      rw [← hcl ⟨eb, eoff + j * 2 + 1, none⟩ heb] at d1
      clear hcl hecell
      obtain ⟨x, hx⟩ : ∃ x, el[j] = x := ⟨_, rfl⟩
      have HX := Lib.hid hx
      rw [hx] at d0 d1
      clear hx
      have HB3 : ∀ o, Hid (Below (w.heap.size + 1) (w.alloc (.cells #[.slice wa wn wc, .slice (some ⟨eb, eoff, none⟩) el.length ec, .int .i64 m, .slice da dn dc] 26)) (wr.alloc o)) := fun o => HB.out.alloc hs1 _
      have HNX : ∀ (_ : ¬ (300 < x.2 ∧ x.2 ≤ 60000)), ∀ i (hi : i < el.length), i < j + 1 → ¬ (300 < el[i].2 ∧ el[i].2 ≤ 60000) := fun h i hi hij => by
        by_cases hij2 : i < j
        · exact HA.out i hi hij2
        · obtain rfl : i = j := by omega
          rw [HX.out]; exact h
      have HNX := Lib.hid HNX
      by_cases hg : 300 < x.2
      · by_cases hl : x.2 ≤ 60000
        · go_wp2_with fail
          refine bodyPost_ret (v := .bool false) (by simp [results, Try.results8, go_sem]) rfl ⟨fewIs_no, (HBA _).out.trans ((HB3 _).out.mono (by omega))⟩
        · go_wp2_with fail
          exact ⟨⟨j + 1, by omega, by go_num, HNX.out (by omega), (HB3 _).out⟩, by simp [intOf]; omega⟩
      · go_wp2_with fail
        exact ⟨⟨j + 1, by omega, by go_num, HNX.out (by omega), (HB3 _).out⟩, by simp [intOf]; omega⟩
    · obtain rfl : j = el.length := by omega
      have HALL : Hid (FewIs wn el dn (.returned (.bool true))) := ⟨true, fun _ => ⟨by omega, by omega, by omega, fun x hx => by
        obtain ⟨i, hi, rfl⟩ := List.getElem_of_mem hx
        exact HA.out i hi hi⟩, rfl⟩
      go_wp2_with fail
      refine bodyPost_ret (v := .bool true) (by simp [results, Try.results8, go_sem]) rfl ⟨HALL.out, (HBA _).out.trans (HB.out.mono (by omega))⟩
end Go.Proofs.Yteeapfgjjankeaa.Mach

/- An image of its own: the document's Twin. (Turned from vet XFx.) -/
namespace Go.Proofs.Yteeapfgjjankeaa.Mach
open Go.RowKit

theorem heap_old (w : World) (o : Obj) {k : Nat} {ob : Obj} (h : w.heap[k]? = some ob) : (w.alloc o).heap[k]? = some ob :=
  (Below.heap_alloc w o k (Array.getElem?_eq_some_iff.1 h).1).trans h
theorem heap_new (w : World) (o : Obj) {n : Nat} (h : n = w.heap.size) : (w.alloc o).heap[n]? = some o := by subst h; exact Array.getElem?_push_size
theorem cell_of {w : World} {b i : Nat} {c : Array Value} {T : TypeId} {v : Value} (h : w.heap[b]? = some (.cells c T (0, 0))) (hi : c[i]? = some v) : w.cell? ⟨b, i, none⟩ = some v := by simp [World.cell?, h, hi]
theorem unfrozen_of {w : World} {b i : Nat} {c : Array Value} {T : TypeId} (h : w.heap[b]? = some (.cells c T (0, 0))) : w.frozen? ⟨b, i, none⟩ = false := by simp [World.frozen?, h]

theorem own_later {w w' : World} {base : Nat} {e : TypeId} {size n : Nat} {v : Value} {xs : List Value} (h : w.ownsRow base e size v n xs) (hb : Below w.heap.size w w') : w'.ownsRow base e size v n xs :=
  own_same h fun k hk => by
    obtain ⟨_, cur, hc⟩ := own_blk h k hk
    exact hb.block k (Array.getElem?_eq_some_iff.1 hc).1
theorem heap_below {w w' : World} {B k : Nat} {ob : Obj} (hb : Below B w w') (hk : k < B) (h : w.heap[k]? = some ob) : w'.heap[k]? = some ob := (hb.block k hk).trans h
theorem info_W22 : (Try.prog.info? 60).map (fun i => (i.zero, i.size, i.bytes)) = some (some (.agg #[.int .u8 0, .int .u8 0, .int .u8 0, .int .u8 0, .int .i64 0]), 5, 16) := by kernel_rfl
theorem info_E22 : (Try.prog.info? 62).map (fun i => (i.zero, i.size, i.bytes)) = some (some (.agg #[.int .i64 0, .int .i64 0]), 2, 16) := by kernel_rfl
theorem info_B22 : (Try.prog.info? 5).map (fun i => (i.zero, i.size, i.bytes)) = some (some (.int .u8 0), 1, 1) := by kernel_rfl
theorem parts22 {i : Option TypeInfo} {z : Value} {s b : Nat} (h : i.map (fun i => (i.zero, i.size, i.bytes)) = some (some z, s, b)) : ∃ x, i = some x ∧ x.zero = some z ∧ x.size = s ∧ x.bytes = b := by
  cases i with
  | none => cases h
  | some i =>
    simp only [Option.map_some, Option.some.injEq, Prod.mk.injEq] at h
    exact ⟨i, rfl, h.1, h.2.1, h.2.2⟩
theorem lit22 (w : World) (T : TypeId) (K base : Nat) (hb : base ≤ w.heap.size) : (w.alloc (.cells #[] T)).ownsRow base T K (.slice (some ⟨w.heap.size, 0, none⟩) 0 0) 0 [] :=
  World.ownsRow_lit (e := T) (size := K) (base := base) w #[] 0 hb (by unfold maxLen; omega) (by simp)
theorem bytes_one22 (l : List Int) : ∀ u ∈ l.map (Value.int .u8), u.oneCell' = true := fun u hu => by
  obtain ⟨x, _, rfl⟩ := List.mem_map.1 hu; rfl
theorem own_set22 {w : World} {B K n k i : Nat} {E : TypeId} {v u : Value} {xs : List Value} (h : w.ownsRow B E K v n xs) (hk : k < B) : (w.setCell ⟨k, i, none⟩ u).ownsRow B E K v n xs :=
  own_same h fun j hj => Below.heap_setCell _ _ _ _ (show j ≠ k by have := (own_blk h j hj).1; omega)
theorem own_mono22 {w : World} {B B' K n : Nat} {E : TypeId} {v : Value} {xs : List Value} (h : w.ownsRow B E K v n xs) (hB : B' ≤ B) : w.ownsRow B' E K v n xs := by
  refine ⟨h.1, ?_⟩
  rcases h.2 with h1 | ⟨g, cap, cur, rfl, h1, h2⟩
  · exact .inl h1
  · exact .inr ⟨g, cap, cur, rfl, by omega, h2⟩

set_option maxRecDepth 100000 in
set_option maxHeartbeats 8000000 in
theorem twin22_any (wv : Value) (l : List W) (ev : Value) (el : List (Int × Int)) (m : Int) (dv : Value) (dl : List Int) (w : World) (hv : RdW w wv l) (hev : RdE w ev el) (hdv : RdB w dv dl) (hl : l.length ≤ 1000000) (hel : el.length ≤ 1000000) (hdl : dl.length ≤ 1000000) :
   Calls Try.prog 10 #[.agg #[wv, ev, .int .i64 m, dv]] w fun e w' => ∃ us ue ud, e = .returned (.agg #[us, ue, .int .i64 m, ud]) ∧ w'.ownsRow w.heap.size 60 5 us l.length (cW l) ∧ w'.ownsRow w.heap.size 62 2 ue el.length (entC el) ∧ w'.ownsRow w.heap.size 5 1 ud dl.length (dl.map (Value.int .u8)) ∧ Below w.heap.size w w' := by
  obtain ⟨wa, wc, rfl⟩ := Rd.shape hv
  obtain ⟨ea, ec, rfl⟩ := Rd.shape hev
  obtain ⟨da, dc, rfl⟩ := Rd.shape hdv
  have HV := Lib.hid hv
  have HE := Lib.hid hev
  have HD := Lib.hid hdv
  clear hv hev hdv
  obtain ⟨i1, a1, a2, a3, a4⟩ := parts22 info_W22
  have HI1 : Hid _ := And.intro a1 (And.intro a2 (And.intro a3 a4))
  clear a1 a2 a3 a4
  obtain ⟨i2, a1, a2, a3, a4⟩ := parts22 info_E22
  have HI2 : Hid _ := And.intro a1 (And.intro a2 (And.intro a3 a4))
  clear a1 a2 a3 a4
  obtain ⟨i3, a1, a2, a3, a4⟩ := parts22 info_B22
  have HI3 : Hid _ := And.intro a1 (And.intro a2 (And.intro a3 a4))
  clear a1 a2 a3 a4
  obtain ⟨W0, hW0⟩ : ∃ W0, W0 = (w.alloc (.cells #[.slice wa l.length wc, .slice ea el.length ec, .int .i64 m, .slice da dl.length dc] 26)).alloc (.cells #[.slice none 0 0, .slice none 0 0, .int .i64 0, .slice none 0 0] 26) := ⟨_, rfl⟩
  have HB0 : Hid (Below w.heap.size w W0) := by rw [hW0]; exact ((Below.refl _ _).alloc (Nat.le_refl _) _).alloc (by simp) _
  have DI0 : Hid (W0.heap[w.heap.size]? = some (.cells #[.slice wa l.length wc, .slice ea el.length ec, .int .i64 m, .slice da dl.length dc] 26 (0, 0))) := by rw [hW0]; exact heap_old _ _ (heap_new _ _ rfl)
  have DR0 : Hid (W0.heap[w.heap.size + 1]? = some (.cells #[.slice none 0 0, .slice none 0 0, .int .i64 0, .slice none 0 0] 26 (0, 0))) := by rw [hW0]; exact heap_new _ _ (by simp)
  have hs0 : w.heap.size + 2 ≤ W0.heap.size := by rw [hW0]; simp
  have ht0 : w.heap.size < W0.heap.size := by omega
  have HW0 := Lib.hid hW0
  clear hW0
  have k0 : W0.cell? ⟨w.heap.size, 0, none⟩ = some (.slice wa l.length wc) := cell_of DI0.out rfl
  have z0 := unfrozen_of (i := 0) DI0.out
  go_enter Try.func10, Try.ntmps10
  go_upto_region 1 with fail
  rw [← HW0.out]
  go_upto_region 2 with (at_builtin; go_loud (refine wpList_append_own_rd (W0.alloc (.cells #[] 60)) rfl _ _ 22 rfl (w.heap.size + 2) 60 i1 (.agg #[.int .u8 0, .int .u8 0, .int .u8 0, .int .u8 0, .int .i64 0]) 5 16 Try.underlying22 HI1.out.1 HI1.out.2.1 HI1.out.2.2.1 HI1.out.2.2.2 rfl (by decide) (.slice (some ⟨W0.heap.size, 0, none⟩) 0 0) 0 [] rfl (lit22 W0 60 5 (w.heap.size + 2) hs0) (.slice wa l.length wc) l.length (cW l) rfl (Rd.alloc (Rd.later HV.out HB0.out) _) (cW_one l) (by unfold maxLen; omega) (by omega) (by simp; omega) ?_; intro v1 Y1 hown hgrow; rw [Nat.zero_add, List.nil_append] at hown; have HY1 : Hid (Below W0.heap.size W0 Y1) := ((Below.refl _ _).alloc (Nat.le_refl _) _).grown hgrow (by simp) (fun k hk => by cases hk; exact Nat.le_refl _); have DY : Hid (Y1.heap[w.heap.size]? = _) := heap_below HY1.out (by omega) DI0.out; have RY : Hid (Y1.heap[w.heap.size + 1]? = _) := heap_below HY1.out (by omega) DR0.out; have q1 := cell_of (i := 0) DY.out rfl; have zz1 := unfrozen_of (i := 0) DY.out; obtain ⟨va1, vc1, rfl⟩ := (Rd.of_own hown).shape; have HO1 := Lib.hid hown; clear hown hgrow k0 z0))
  obtain ⟨W1, hW1⟩ : ∃ W1, W1 = Y1.setCell ⟨w.heap.size, 0, none⟩ (.slice va1 l.length vc1) := ⟨_, rfl⟩
  have DI1 : Hid (W1.heap[w.heap.size]? = some (.cells #[.slice va1 l.length vc1, .slice ea el.length ec, .int .i64 m, .slice da dl.length dc] 26 (0, 0))) := by rw [hW1, heap_set DY.out]; exact Lib.hid rfl
  have DR1 : Hid (W1.heap[w.heap.size + 1]? = some (.cells #[.slice none 0 0, .slice none 0 0, .int .i64 0, .slice none 0 0] 26 (0, 0))) := by rw [hW1]; exact (Below.heap_setCell _ _ _ _ (show w.heap.size + 1 ≠ w.heap.size by omega)).trans RY.out
  have HB1 : Hid (Below w.heap.size w W1) := by rw [hW1]; exact (HB0.out.trans (HY1.out.mono (by omega))).setCell (Nat.le_refl _) _
  have hs1 : w.heap.size + 2 ≤ W1.heap.size := by rw [hW1]; have := HY1.out.size; show _ ≤ (Y1.setCell _ _).heap.size; simp; omega
  have ht1 : w.heap.size < W1.heap.size := by omega
  have HR1_1 : Hid (W1.ownsRow (w.heap.size + 2) 60 5 (.slice va1 l.length vc1) l.length (cW l)) := by rw [hW1]; exact own_set22 (HO1.out) (by omega)
  have HW1 := Lib.hid hW1
  clear hW1 DY RY q1 zz1 ht0
  rw [← HW1.out]
  have k1 := cell_of (i := 1) DI1.out rfl
  have z1 := unfrozen_of (i := 1) DI1.out
  go_upto_region 3 with (at_builtin; go_loud (refine wpList_append_own_rd (W1.alloc (.cells #[] 62)) rfl _ _ 23 rfl (w.heap.size + 2) 62 i2 (.agg #[.int .i64 0, .int .i64 0]) 2 16 Try.underlying23 HI2.out.1 HI2.out.2.1 HI2.out.2.2.1 HI2.out.2.2.2 rfl (by decide) (.slice (some ⟨W1.heap.size, 0, none⟩) 0 0) 0 [] rfl (lit22 W1 62 2 (w.heap.size + 2) hs1) (.slice ea el.length ec) el.length (entC el) rfl (Rd.alloc (Rd.later HE.out HB1.out) _) (entC_one el) (by unfold maxLen; omega) (by omega) (by simp; omega) ?_; intro v2 Y2 hown hgrow; rw [Nat.zero_add, List.nil_append] at hown; have HY2 : Hid (Below W1.heap.size W1 Y2) := ((Below.refl _ _).alloc (Nat.le_refl _) _).grown hgrow (by simp) (fun k hk => by cases hk; exact Nat.le_refl _); have DY : Hid (Y2.heap[w.heap.size]? = _) := heap_below HY2.out (by omega) DI1.out; have RY : Hid (Y2.heap[w.heap.size + 1]? = _) := heap_below HY2.out (by omega) DR1.out; have q2 := cell_of (i := 1) DY.out rfl; have zz2 := unfrozen_of (i := 1) DY.out; obtain ⟨va2, vc2, rfl⟩ := (Rd.of_own hown).shape; have HO2 := Lib.hid hown; clear hown hgrow k1 z1))
  obtain ⟨W2, hW2⟩ : ∃ W2, W2 = Y2.setCell ⟨w.heap.size, 1, none⟩ (.slice va2 el.length vc2) := ⟨_, rfl⟩
  have DI2 : Hid (W2.heap[w.heap.size]? = some (.cells #[.slice va1 l.length vc1, .slice va2 el.length vc2, .int .i64 m, .slice da dl.length dc] 26 (0, 0))) := by rw [hW2, heap_set DY.out]; exact Lib.hid rfl
  have DR2 : Hid (W2.heap[w.heap.size + 1]? = some (.cells #[.slice none 0 0, .slice none 0 0, .int .i64 0, .slice none 0 0] 26 (0, 0))) := by rw [hW2]; exact (Below.heap_setCell _ _ _ _ (show w.heap.size + 1 ≠ w.heap.size by omega)).trans RY.out
  have HB2 : Hid (Below w.heap.size w W2) := by rw [hW2]; exact (HB1.out.trans (HY2.out.mono (by omega))).setCell (Nat.le_refl _) _
  have hs2 : w.heap.size + 2 ≤ W2.heap.size := by rw [hW2]; have := HY2.out.size; show _ ≤ (Y2.setCell _ _).heap.size; simp; omega
  have ht2 : w.heap.size < W2.heap.size := by omega
  have HR1_2 : Hid (W2.ownsRow (w.heap.size + 2) 60 5 (.slice va1 l.length vc1) l.length (cW l)) := by rw [hW2]; exact own_set22 (own_later (own_later HR1_1.out (Below.refl _ _)) HY2.out) (by omega)
  have HR2_2 : Hid (W2.ownsRow (w.heap.size + 2) 62 2 (.slice va2 el.length vc2) el.length (entC el)) := by rw [hW2]; exact own_set22 (HO2.out) (by omega)
  have HW2 := Lib.hid hW2
  clear hW2 DY RY q2 zz2 ht1
  rw [← HW2.out]
  have k2 := cell_of (i := 3) DI2.out rfl
  have z2 := unfrozen_of (i := 3) DI2.out
  go_upto_region 4 with (at_builtin; go_loud (refine wpList_append_own_rd (W2.alloc (.cells #[] 5)) rfl _ _ 24 rfl (w.heap.size + 2) 5 i3 (.int .u8 0) 1 1 Try.underlying24 HI3.out.1 HI3.out.2.1 HI3.out.2.2.1 HI3.out.2.2.2 rfl (by decide) (.slice (some ⟨W2.heap.size, 0, none⟩) 0 0) 0 [] rfl (lit22 W2 5 1 (w.heap.size + 2) hs2) (.slice da dl.length dc) dl.length (dl.map (Value.int .u8)) rfl (Rd.alloc (Rd.later HD.out HB2.out) _) (bytes_one22 dl) (by unfold maxLen; omega) (by omega) (by simp; omega) ?_; intro v3 Y3 hown hgrow; rw [Nat.zero_add, List.nil_append] at hown; have HY3 : Hid (Below W2.heap.size W2 Y3) := ((Below.refl _ _).alloc (Nat.le_refl _) _).grown hgrow (by simp) (fun k hk => by cases hk; exact Nat.le_refl _); have DY : Hid (Y3.heap[w.heap.size]? = _) := heap_below HY3.out (by omega) DI2.out; have RY : Hid (Y3.heap[w.heap.size + 1]? = _) := heap_below HY3.out (by omega) DR2.out; have q3 := cell_of (i := 3) DY.out rfl; have zz3 := unfrozen_of (i := 3) DY.out; obtain ⟨va3, vc3, rfl⟩ := (Rd.of_own hown).shape; have HO3 := Lib.hid hown; clear hown hgrow k2 z2))
  obtain ⟨W3, hW3⟩ : ∃ W3, W3 = Y3.setCell ⟨w.heap.size, 3, none⟩ (.slice va3 dl.length vc3) := ⟨_, rfl⟩
  have DI3 : Hid (W3.heap[w.heap.size]? = some (.cells #[.slice va1 l.length vc1, .slice va2 el.length vc2, .int .i64 m, .slice va3 dl.length vc3] 26 (0, 0))) := by rw [hW3, heap_set DY.out]; exact Lib.hid rfl
  have DR3 : Hid (W3.heap[w.heap.size + 1]? = some (.cells #[.slice none 0 0, .slice none 0 0, .int .i64 0, .slice none 0 0] 26 (0, 0))) := by rw [hW3]; exact (Below.heap_setCell _ _ _ _ (show w.heap.size + 1 ≠ w.heap.size by omega)).trans RY.out
  have HB3 : Hid (Below w.heap.size w W3) := by rw [hW3]; exact (HB2.out.trans (HY3.out.mono (by omega))).setCell (Nat.le_refl _) _
  have hs3 : w.heap.size + 2 ≤ W3.heap.size := by rw [hW3]; have := HY3.out.size; show _ ≤ (Y3.setCell _ _).heap.size; simp; omega
  have ht3 : w.heap.size < W3.heap.size := by omega
  have HR1_3 : Hid (W3.ownsRow (w.heap.size + 2) 60 5 (.slice va1 l.length vc1) l.length (cW l)) := by rw [hW3]; exact own_set22 (own_later (own_later HR1_2.out (Below.refl _ _)) HY3.out) (by omega)
  have HR2_3 : Hid (W3.ownsRow (w.heap.size + 2) 62 2 (.slice va2 el.length vc2) el.length (entC el)) := by rw [hW3]; exact own_set22 (own_later (own_later HR2_2.out (Below.refl _ _)) HY3.out) (by omega)
  have HR3_3 : Hid (W3.ownsRow (w.heap.size + 2) 5 1 (.slice va3 dl.length vc3) dl.length (dl.map (Value.int .u8))) := by rw [hW3]; exact own_set22 (HO3.out) (by omega)
  have HW3 := Lib.hid hW3
  clear hW3 DY RY q3 zz3 ht2
  rw [← HW3.out]
  have p0 := cell_of (i := 0) DI3.out rfl
  have s0 := cell_of (i := 0) DR3.out rfl
  have p1 := cell_of (i := 1) DI3.out rfl
  have s1 := cell_of (i := 1) DR3.out rfl
  have p2 := cell_of (i := 2) DI3.out rfl
  have s2 := cell_of (i := 2) DR3.out rfl
  have p3 := cell_of (i := 3) DI3.out rfl
  have s3 := cell_of (i := 3) DR3.out rfl
  have sz := (fun i => unfrozen_of (i := i) DR3.out)
  have hu : w.heap.size + 1 < W3.heap.size := by omega
  go_wp2_with fail
  refine bodyPost_ret (v := .agg #[.slice va1 l.length vc1, .slice va2 el.length vc2, .int .i64 m, .slice va3 dl.length vc3]) ?_ rfl ⟨_, _, _, rfl, ?_, ?_, ?_, ?_⟩
  · simp [results, Try.results10, go_sem, s0, s1, s2, s3]
  · exact own_mono22 (own_set22 (own_set22 (own_set22 (own_set22 HR1_3.out (by omega)) (by omega)) (by omega)) (by omega)) (by omega)
  · exact own_mono22 (own_set22 (own_set22 (own_set22 (own_set22 HR2_3.out (by omega)) (by omega)) (by omega)) (by omega)) (by omega)
  · exact own_mono22 (own_set22 (own_set22 (own_set22 (own_set22 HR3_3.out (by omega)) (by omega)) (by omega)) (by omega)) (by omega)
  · exact (((HB3.out.setCell (by show _ ≤ w.heap.size + 1; omega) _).setCell (by show _ ≤ w.heap.size + 1; omega) _).setCell (by show _ ≤ w.heap.size + 1; omega) _).setCell (by show _ ≤ w.heap.size + 1; omega) _
end Go.Proofs.Yteeapfgjjankeaa.Mach
