/- Locs: are all plain numbers in range. -/
import Derived.Test.YtnanlkoldloolaaDoorQ1
import Derived.Test.YtnanlkoldloolaaDoorQ4
import Derived.Test.YtnanlkoldloolaaDoorProg
import Derived.Test.YtnanlkoldloolaaDoorQ0
import Derived.WalkKit
import Derived.Laws.StructEq
import Derived.Maps.OwnSet
import Derived.KernelRfl
namespace Go.Proofs.YtnanlkoldloolaaDoor
open Go.RowKit

def okN (n : Int) : Bool := decide (0 ≤ n) && decide (n ≤ 2147483647)
def RdI (w : World) (v : Value) (l : List Int) : Prop := Rd w 1 v l.length (l.map (Value.int .i64))
theorem RdI.split {w : World} {v : Value} {l : List Int} (h : RdI w v l) :
    (∃ a c, v = .slice a 0 c ∧ l = []) ∨ ∃ b off c, v = .slice (some ⟨b, off, none⟩) l.length c ∧ 0 < l.length ∧ l.length ≤ c ∧ c ≤ 9223372036854775807 ∧ b < w.heap.size ∧ ∀ j, (hj : j < l.length) → w.cell? ⟨b, off + j, none⟩ = some (.int .i64 l[j]) := by
  rcases Rd.split h (by omega) with ⟨a, c, rfl, h0, _⟩ | ⟨b, off, c, rfl, h1, h2, h3, h4, h5⟩
  · exact .inl ⟨a, c, rfl, List.eq_nil_of_length_eq_zero h0⟩
  · refine .inr ⟨b, off, c, rfl, h1, h2, h3, h4, fun j hj => ?_⟩
    rw [h5 j (by simpa using hj)]
    simp

set_option maxHeartbeats 1000000 in
theorem ok1_any (n : Int) (w : World) : Calls Tryd.prog 72 #[.int .i64 n] w fun e w' => e = .returned (.bool (!okN n)) ∧ w = w' := by
  go_enter Tryd.func72, Tryd.ntmps72
  go_wp2_with fail
  all_goals go_ret
  all_goals exact ⟨ret_bool (by go_light; rw [Bool.eq_iff_iff]; simp [okN]; try omega), rfl⟩

set_option maxHeartbeats 1000000 in
theorem index_ok (v : Value) (l : List Int) (w : World) (hv : RdI w v l) :
   Calls Tryd.prog 75 #[v, .func (.func 72) #[] #[]] w fun e w' => (∃ r : Int, ((r = -1 ∧ l.all okN = true) ∨ (0 ≤ r ∧ l.all okN = false)) ∧ e = .returned (.int .i64 r)) ∧ w = w' := by
  rcases hv.split with ⟨a, c, rfl, rfl⟩ | ⟨b, off, c, rfl, hp, hlc, hc9, hb, hcell⟩
  · clear hv
    go_enter Tryd.func75, Tryd.ntmps75
    go_wp2_with fail
    refine wp_loop_rounds 1 ?_
    rw [rounds_succ]
    go_wp2_with fail
    go_ret
    exact ⟨⟨_, .inl ⟨rfl, rfl⟩, rfl⟩, rfl⟩
  have HC := Lib.hid hcell
  clear hcell hv
  go_enter Tryd.func75, Tryd.ntmps75
  go_wp2_with fail
  go_loopw [8] (fun i wr => ∃ j : Nat, j ≤ l.length ∧ i = .int .i64 j ∧ (l.take j).all okN = true ∧ w = wr) (fun i _ => l.length - (intOf i).toNat)
  case atStart => exact ⟨0, by omega, rfl, rfl, rfl⟩
  case round =>
    obtain ⟨j, hj, rfl, hall, rfl⟩ := hrel
    have HA := Lib.hid hall
    clear hall
    by_cases hlt : j < l.length
    · have d0 := HC.out j hlt
      obtain ⟨x, hx⟩ : ∃ x, l[j] = x := ⟨_, rfl⟩
      have HX := Lib.hid hx
      rw [hx] at d0
      clear hx
      go_wp2_with fail
      refine (ok1_any x w).mono ?_
      rintro e w1 ⟨rfl, rfl⟩
      cases hk : okN x
      · have HK := Lib.hid hk
        clear hk
        go_wp2_with fail
        go_ret
        exact ⟨⟨j, .inr ⟨by omega, by rw [List.all_eq_false]; exact ⟨l[j], List.getElem_mem hlt, by rw [HX.out, HK.out]; simp⟩⟩, rfl⟩, rfl⟩
      · have HK := Lib.hid hk
        clear hk
        go_wp2_with fail
        exact ⟨⟨j + 1, by omega, by go_num, by rw [List.take_succ_eq_append_getElem hlt, List.all_append, HA.out, HX.out]; simp [HK.out], by first | rfl | trivial⟩, by simp [intOf]; omega⟩
    · obtain rfl : j = l.length := by omega
      go_wp2_with fail
      go_ret
      exact ⟨⟨_, .inl ⟨rfl, by have := HA.out; rwa [List.take_length] at this⟩, rfl⟩, rfl⟩

set_option maxHeartbeats 1000000 in
theorem contains_ok (v : Value) (l : List Int) (w : World) (hv : RdI w v l) :
   Calls Tryd.prog 71 #[v, .func (.func 72) #[] #[]] w fun e w' => e = .returned (.bool (!l.all okN)) ∧ w = w' := by
  have HI := Lib.hid (index_ok v l w hv)
  clear hv
  go_enter Tryd.func71, Tryd.ntmps71
  go_wp2_with fail
  refine HI.out.mono ?_
  rintro e w1 ⟨⟨r, h, rfl⟩, rfl⟩
  rcases h with ⟨rfl, hl⟩ | ⟨h0, hl⟩
  · have HL := Lib.hid hl
    clear hl HI
    go_wp2_with fail
    go_ret
    exact ⟨ret_bool (by rw [HL.out]; rfl), rfl⟩
  · have HL := Lib.hid hl
    clear hl HI
    go_wp2_with fail
    go_ret
    exact ⟨ret_bool (by rw [HL.out]; go_light; simp), rfl⟩

set_option maxHeartbeats 1000000 in
theorem ok_any (v : Value) (l : List Int) (w : World) (hv : RdI w v l) :
   Calls Tryd.prog 64 #[v] w fun e w' => e = .returned (.bool (l.all okN)) ∧ w = w' := by
  have HI := Lib.hid (contains_ok v l w hv)
  clear hv
  go_enter Tryd.func64, Tryd.ntmps64
  go_wp2_with fail
  refine HI.out.mono ?_
  rintro e w1 ⟨rfl, rfl⟩
  clear HI
  go_wp2_with fail
  go_ret
  exact ⟨ret_bool (by go_light; simp), rfl⟩

set_option maxHeartbeats 1000000 in
theorem form_empty (w : World) :
   Calls Tryd.prog 43 #[.agg #[.slice none 0 0, .slice none 0 0, .slice none 0 0]] w fun e w' => e = .returned (.bool true) ∧ Below w.heap.size w w' := by
  go_enter Tryd.func43, Tryd.ntmps43
  go_wp2_with fail
  refine wp_loop_rounds 1 ?_
  rw [rounds_succ]
  go_wp2_with fail
  refine wp_loop_rounds 1 ?_
  rw [rounds_succ]
  go_wp2_with fail
  refine wp_loop_rounds 1 ?_
  rw [rounds_succ]
  go_wp2_with fail
  refine (ok_any _ [0, 0, 0] _ (Rd.mk rfl (Nat.le_refl 3) (by decide) (fun j hj => ?_))).mono ?_
  · rcases (by simp at hj; omega : j = 0 ∨ j = 1 ∨ j = 2) with rfl | rfl | rfl <;> simp [go_sem]
  rintro e w1 ⟨rfl, rfl⟩
  go_wp2_with fail
  go_ret
  exact ⟨ret_bool (by go_light; rfl), ((Below.refl _ _).alloc (Nat.le_refl _) _).alloc (by simp) _⟩
end Go.Proofs.YtnanlkoldloolaaDoor

/- Locs: debug information that can be read. -/
namespace Go.Proofs.YtnanlkoldloolaaDoor
open Go.RowKit

def RdP (w : World) (v : Value) (xs : List (Int × Int)) : Prop := ∃ cells, Rd w 2 v xs.length cells ∧ ∀ i (h : i < xs.length), cells[i * 2]? = some (.int .i64 xs[i].1) ∧ cells[i * 2 + 1]? = some (.int .i64 xs[i].2)
def RdL (w : World) (v : Value) (xs : List LocD) : Prop := ∃ cells, Rd w 6 v xs.length cells ∧ ∀ i (h : i < xs.length), cells[i * 6]? = some (.int .i64 xs[i].depth) ∧ cells[i * 6 + 1]? = some (.int .i64 xs[i].var) ∧ cells[i * 6 + 2]? = some (.int .u8 xs[i].kind) ∧ cells[i * 6 + 3]? = some (.int .i64 xs[i].arg) ∧ cells[i * 6 + 4]? = some (.int .i64 xs[i].a) ∧ cells[i * 6 + 5]? = some (.int .i64 xs[i].b)
def RdS (w : World) (v : Value) (xs : List (List (Int × Int))) : Prop := ∃ cells, Rd w 1 v xs.length cells ∧ ∀ i (h : i < xs.length), ∃ sv, cells[i]? = some sv ∧ RdP w sv xs[i]
def RdM (w : World) (v : Value) (xs : List MarkD) : Prop := ∃ cells, Rd w 2 v xs.length cells ∧ ∀ i (h : i < xs.length), cells[i * 2]? = some (.int .i64 xs[i].stop) ∧ ∃ mv, cells[i * 2 + 1]? = some mv ∧ RdL w mv xs[i].locs
structure RdD (w : World) (vs vm vt : Value) (d : DebD) : Prop where
  stops : RdS w vs d.stops
  marks : RdM w vm d.marks
  sites : RdP w vt d.sites

theorem RdP.shape {w : World} {v : Value} {xs : List (Int × Int)} (h : RdP w v xs) : ∃ a c, v = .slice a xs.length c := by obtain ⟨_, h, _⟩ := h; exact Rd.shape h
theorem RdL.shape {w : World} {v : Value} {xs : List LocD} (h : RdL w v xs) : ∃ a c, v = .slice a xs.length c := by obtain ⟨_, h, _⟩ := h; exact Rd.shape h
theorem RdS.shape {w : World} {v : Value} {xs : List (List (Int × Int))} (h : RdS w v xs) : ∃ a c, v = .slice a xs.length c := by obtain ⟨_, h, _⟩ := h; exact Rd.shape h
theorem RdM.shape {w : World} {v : Value} {xs : List MarkD} (h : RdM w v xs) : ∃ a c, v = .slice a xs.length c := by obtain ⟨_, h, _⟩ := h; exact Rd.shape h
theorem RdP.le {w : World} {v : Value} {xs : List (Int × Int)} (h : RdP w v xs) : xs.length ≤ 9223372036854775807 := by obtain ⟨_, h, _⟩ := h; exact Rd.le h
theorem RdL.le {w : World} {v : Value} {xs : List LocD} (h : RdL w v xs) : xs.length ≤ 9223372036854775807 := by obtain ⟨_, h, _⟩ := h; exact Rd.le h
theorem RdS.le {w : World} {v : Value} {xs : List (List (Int × Int))} (h : RdS w v xs) : xs.length ≤ 9223372036854775807 := by obtain ⟨_, h, _⟩ := h; exact Rd.le h
theorem RdM.le {w : World} {v : Value} {xs : List MarkD} (h : RdM w v xs) : xs.length ≤ 9223372036854775807 := by obtain ⟨_, h, _⟩ := h; exact Rd.le h
theorem RdP.later {w w' : World} {v : Value} {xs : List (Int × Int)} (h : RdP w v xs) (hb : Below w.heap.size w w') : RdP w' v xs := by
  obtain ⟨c, h, h2⟩ := h; exact ⟨c, Rd.later h hb, h2⟩
theorem RdL.later {w w' : World} {v : Value} {xs : List LocD} (h : RdL w v xs) (hb : Below w.heap.size w w') : RdL w' v xs := by
  obtain ⟨c, h, h2⟩ := h; exact ⟨c, Rd.later h hb, h2⟩
theorem RdS.later {w w' : World} {v : Value} {xs : List (List (Int × Int))} (h : RdS w v xs) (hb : Below w.heap.size w w') : RdS w' v xs := by
  obtain ⟨c, h, h2⟩ := h; exact ⟨c, Rd.later h hb, fun i hi => by obtain ⟨sv, h3, h4⟩ := h2 i hi; exact ⟨sv, h3, h4.later hb⟩⟩
theorem RdM.later {w w' : World} {v : Value} {xs : List MarkD} (h : RdM w v xs) (hb : Below w.heap.size w w') : RdM w' v xs := by
  obtain ⟨c, h, h2⟩ := h; exact ⟨c, Rd.later h hb, fun i hi => by obtain ⟨h0, sv, h3, h4⟩ := h2 i hi; exact ⟨h0, sv, h3, h4.later hb⟩⟩
theorem RdD.later {w w' : World} {vs vm vt : Value} {d : DebD} (h : RdD w vs vm vt d) (hb : Below w.heap.size w w') : RdD w' vs vm vt d := ⟨h.stops.later hb, h.marks.later hb, h.sites.later hb⟩

theorem els_at {α : Type} {E : Lies α} {K : Nat} {w : World} {base : Nat} {cells : List Value} {xs : List α} (h : Els E K w base cells xs) {i : Nat} (hi : i < xs.length) : ∃ cs, E (xs.take i) w base cs xs[i] ∧ ∀ j, j < K → cells[i * K + j]? = cs[j]? := by
  refine ⟨_, h.2 i hi, fun j hj => ?_⟩
  rw [List.getElem?_take, if_pos hj, List.getElem?_drop]
theorem rowE_spots {w : World} {base : Nat} {T : TypeId} {v : Value} {xs : List (Int × Int)} (h : rowE T 2 spotE w base v xs) : RdP w v xs := by
  obtain ⟨cells, h1, h2⟩ := h
  refine ⟨cells, Rd.of_own h1, fun i hi => ?_⟩
  obtain ⟨cs, rfl, h4⟩ := els_at h2 hi
  exact ⟨by simpa using h4 0 (by omega), by simpa using h4 1 (by omega)⟩
theorem rowE_locs {w : World} {base : Nat} {T : TypeId} {v : Value} {xs : List LocD} (h : rowE T 6 locE w base v xs) : RdL w v xs := by
  obtain ⟨cells, h1, h2⟩ := h
  refine ⟨cells, Rd.of_own h1, fun i hi => ?_⟩
  obtain ⟨cs, rfl, h4⟩ := els_at h2 hi
  exact ⟨by simpa using h4 0 (by omega), by simpa using h4 1 (by omega), by simpa using h4 2 (by omega), by simpa using h4 3 (by omega), by simpa using h4 4 (by omega), by simpa using h4 5 (by omega)⟩
theorem rowE_stops {w : World} {base : Nat} {T : TypeId} {v : Value} {xs : List (List (Int × Int))} (h : rowE T 1 stopE w base v xs) : RdS w v xs := by
  obtain ⟨cells, h1, h2⟩ := h
  refine ⟨cells, Rd.of_own h1, fun i hi => ?_⟩
  obtain ⟨cs, ⟨sv, rfl, h3⟩, h4⟩ := els_at h2 hi
  exact ⟨sv, by simpa using h4 0 (by omega), rowE_spots h3⟩
theorem rowE_marks {w : World} {base : Nat} {T : TypeId} {v : Value} {xs : List MarkD} (h : rowE T 2 markE w base v xs) : RdM w v xs := by
  obtain ⟨cells, h1, h2⟩ := h
  refine ⟨cells, Rd.of_own h1, fun i hi => ?_⟩
  obtain ⟨cs, ⟨sv, rfl, h3⟩, h4⟩ := els_at h2 hi
  exact ⟨by simpa using h4 0 (by omega), sv, by simpa using h4 1 (by omega), rowE_locs h3⟩
theorem sitesOf_len : ∀ (l : List (Int × Int)) (a : Int), (sitesOf a l).length = l.length
  | [], _ => rfl
  | (_, _) :: r, a => by simp [sitesOf, sitesOf_len r]
theorem sitesOf_at : ∀ (l : List (Int × Int)) (a : Int) (i : Nat) (h : i < l.length), (sitesOf a l)[i]? = some (a + sumD (l.take (i + 1)), l[i].2)
  | (d, m) :: r, a, 0, _ => by simp [sitesOf, sumD]
  | (d, m) :: r, a, i + 1, h => by
    have := sitesOf_at r (a + d) i (by simpa using h)
    simp only [sitesOf, List.getElem?_cons_succ, this, List.take_succ_cons, sumD, List.map_cons, List.sum_cons, List.getElem_cons_succ, Option.some.injEq, Prod.mk.injEq, and_true]
    omega
theorem rowE_sites {w : World} {base : Nat} {T : TypeId} {v : Value} {ds : List (Int × Int)} (h : rowE T 2 siteE w base v ds) : RdP w v (sitesOf 0 ds) := by
  obtain ⟨cells, h1, h2⟩ := h
  refine ⟨cells, by rw [sitesOf_len]; exact Rd.of_own h1, fun i hi => ?_⟩
  rw [sitesOf_len] at hi
  obtain ⟨cs, rfl, h4⟩ := els_at h2 hi
  have h5 := sitesOf_at ds 0 i hi
  obtain ⟨h6, h7⟩ := List.getElem?_eq_some_iff.1 h5
  rw [h7]
  refine ⟨?_, by simpa using h4 1 (by omega)⟩
  have := h4 0 (by omega)
  simp only [Nat.add_zero, List.getElem?_cons_zero] at this
  rw [this, List.take_succ_eq_append_getElem hi, sumD_snoc, Int.zero_add]
theorem DebIn.rd {w : World} {base : Nat} {vs vm vt : Value} {st : List (List (Int × Int))} {ms : List MarkD} {ds : List (Int × Int)} (h : DebIn w base vs vm vt st ms ds) : RdD w vs vm vt ⟨st, ms, sitesOf 0 ds⟩ :=
  ⟨rowE_stops h.stops, rowE_marks h.marks, rowE_sites h.sites⟩

/-! ### Cells of them -/
theorem rd_at {w : World} {size b off n c : Nat} {xs : List Value} (h : Rd w size (.slice (some ⟨b, off, none⟩) n c) n xs) {i : Nat} {u : Value} (hi : xs[i]? = some u) : w.cell? ⟨b, off + i, none⟩ = some u := by
  obtain ⟨_, h1 | ⟨a, c', h1, _, _, h2⟩⟩ := h
  · cases h1.1
  · cases h1
    have := h2 i u hi
    rwa [add_plain] at this
theorem Rd.block {w : World} {size n : Nat} {v : Value} {xs : List Value} (h : Rd w size v n xs) (hs : 0 < size) (hn : 0 < n) : ∃ b off c, v = .slice (some ⟨b, off, none⟩) n c ∧ n ≤ c ∧ c ≤ 9223372036854775807 ∧ b < w.heap.size := by
  rcases Rd.split h hs with ⟨a, c, rfl, h0, _⟩ | ⟨b, off, c, rfl, h1, h2, h3, h4, h5⟩
  · omega
  · exact ⟨b, off, c, rfl, h2, h3, h4⟩
end Go.Proofs.YtnanlkoldloolaaDoor

/- Sets of places (depth and variable). -/
namespace Go.Proofs.YtnanlkoldloolaaDoor
open Go.RowKit Go.Maps

abbrev keyP (x : Int × Int) : Value := .agg #[.int .i64 x.1, .int .i64 x.2]
theorem checkP (x : Int × Int) (w : World) : (Instr.checkKey false 10000 167 (keyP x)).run Tryd.prog w = .ok () w := by kernel_rfl
theorem equalP (x y : Int × Int) (w : World) : (Op.equal 167 (keyP x) (keyP y)).run Tryd.prog w = .ok (x.1 == y.1 && x.2 == y.2) w := by
  have u3 := Tryd.underlying3
  have hS : Tryd.prog.underlying 167 = some (.struct (Tryd.prog.fieldsOf 167)) := by kernel_rfl
  have hp : Tryd.prog.stoodInHeld 167 = false := by kernel_rfl
  show (Op.equalIn (9999 + 1) 167 (keyP x) (keyP y)).run Tryd.prog w = _
  rw [run_equalIn_agg w 9999 167 _ _ hS hp]
  simp only [Program.fieldsOf, Tryd.underlying167]
  go_simp
  by_cases h1 : x.1 = y.1 <;> by_cases h2 : x.2 = y.2 <;> simp [h1, h2]
theorem keyP_inj {x y : Int × Int} (h : keyP x = keyP y) : x = y := by
  simp at h; exact Prod.ext h.1 h.2

/-- Where a place stands, if it does. -/
def posP (x : Int × Int) : List (Int × Int) → Nat → Option Nat
  | [], _ => none
  | y :: r, i => if x = y then some i else posP x r (i + 1)
theorem posP_mem {x : Int × Int} : ∀ {S : List (Int × Int)} {i : Nat}, (posP x S i).isSome = decide (x ∈ S)
  | [], i => by simp [posP]
  | y :: r, i => by
    unfold posP
    by_cases h : x = y
    · simp [h]
    · rw [if_neg h, posP_mem]; simp [h]
theorem posP_spec {x : Int × Int} : ∀ {S : List (Int × Int)} {i j : Nat}, posP x S i = some j → i ≤ j ∧ S[j - i]? = some x
  | [], i, j, h => by cases h
  | y :: r, i, j, h => by
    unfold posP at h
    by_cases e : x = y
    · rw [if_pos e] at h; cases h; subst e; simp
    · rw [if_neg e] at h
      have := posP_spec h
      refine ⟨by omega, ?_⟩
      rw [show j - i = (j - (i + 1)) + 1 by omega]
      simpa using this.2
theorem findAskP (x : Int × Int) (w : World) : ∀ (es : List MapEntry) (S : List (Int × Int)) (i : Nat), es.map (·.key) = S.map keyP → ∃ r, (Instr.findAsking 167 (keyP x) es i).run Tryd.prog w = .ok r w ∧ (posP x S i = none → r = none) ∧ (∀ j, posP x S i = some j → ∃ v, r = some (j, v))
  | [], [], i, _ => ⟨none, rfl, fun _ => rfl, fun j h => by cases h⟩
  | e :: es, [], i, h => by cases h
  | [], y :: S, i, h => by cases h
  | e :: es, y :: S, i, h => by
    simp only [List.map_cons, List.cons.injEq] at h
    obtain ⟨r, h1, h2, h3⟩ := findAskP x w es S (i + 1) h.2
    by_cases hxy : x = y
    · refine ⟨some (i, e.val), ?_, fun hn => ?_, fun j hj => ?_⟩
      · simp [Instr.findAsking, h.1, equalP, hxy]
      · simp [posP, hxy] at hn
      · simp [posP, hxy] at hj; subst hj; exact ⟨_, rfl⟩
    · have hb : (x.1 == y.1 && x.2 == y.2) = false := by
        rw [Bool.and_eq_false_iff]
        by_cases e1 : x.1 = y.1
        · right; simp; intro e2; exact hxy (Prod.ext e1 e2)
        · left; simp [e1]
      refine ⟨r, ?_, fun hn => h2 ?_, fun j hj => h3 j ?_⟩
      · simp [Instr.findAsking, h.1, equalP, hb, h1]
      · simpa [posP, hxy] using hn
      · simpa [posP, hxy] using hj
theorem findP (x : Int × Int) (w : World) (es : List MapEntry) (S : List (Int × Int)) (h : es.map (·.key) = S.map keyP) : ∃ r, (Instr.findKey 167 (keyP x) es).run Tryd.prog w = .ok r w ∧ (posP x S 0 = none → r = none) ∧ (∀ j, posP x S 0 = some j → ∃ v, r = some (j, v)) := by
  have hu := Tryd.underlying167
  cases es with
  | nil =>
    cases S with
    | nil => exact ⟨none, by simp [Instr.findKey, run_underlying hu, Instr.findNow], fun _ => rfl, fun j h => by cases h⟩
    | cons y S => cases h
  | cons e es =>
    obtain ⟨r, h1, h2, h3⟩ := findAskP x w (e :: es) S 0 h
    refine ⟨r, ?_, h2, h3⟩
    simp [Instr.findKey, run_underlying hu, Instr.findNow, Instr.sameNow, h1]

/-- Block b is a set of places, in the order they came in. -/
def PSet (w : World) (b : Nat) (S : List (Int × Int)) : Prop := ∃ es clock, w.heap[b]? = some (.map es clock) ∧ es.toList.map (·.key) = S.map keyP
def insP (S : List (Int × Int)) (x : Int × Int) : List (Int × Int) := if x ∈ S then S else S ++ [x]
theorem PSet.made (w : World) : PSet (w.alloc (.map #[] 0)) w.heap.size [] := ⟨#[], 0, Array.getElem?_push_size, rfl⟩
theorem PSet.kept {w w' : World} {b : Nat} {S : List (Int × Int)} (h : PSet w b S) (e : w'.heap[b]? = w.heap[b]?) : PSet w' b S := by
  obtain ⟨es, c, h1, h2⟩ := h; exact ⟨es, c, e.trans h1, h2⟩
theorem sameBits_keyP (x : Int × Int) : Instr.sameBits 10000 (keyP x) (keyP x) = true := by
  simp [Instr.sameBits]
theorem PSet.add {w : World} {b : Nat} {S : List (Int × Int)} (h : PSet w b S) (x : Int × Int) : ∃ w', (Instr.mapUpdate 165 (.map (some b)) (keyP x) (.agg #[])).run Tryd.prog w = .ok () w' ∧ PSet w' b (insP S x) ∧ w.grownBy w' (some b) := by
  obtain ⟨es, clock, h1, h2⟩ := h
  obtain ⟨r, hr, hn, hs⟩ := findP x w es.toList S h2
  have hlt : b < w.heap.size := (Array.getElem?_eq_some_iff.1 h1).1
  have hg : ∀ o, w.grownBy { w with heap := w.heap.setIfInBounds b o } (some b) := fun o => ⟨rfl, rfl, rfl, by simp, fun k hk hne => by
    have : b ≠ k := fun e => hne (by rw [e])
    simp [this]⟩
  have ht := Tryd.underlying165
  by_cases hx : x ∈ S
  · have hsome : (posP x S 0).isSome = true := by rw [posP_mem]; simpa using hx
    obtain ⟨j, hj⟩ := Option.isSome_iff_exists.1 hsome
    obtain ⟨v, rfl⟩ := hs j hj
    have hsp := (posP_spec hj).2
    simp only [Nat.sub_zero] at hsp
    have hkey : (es.toList.map (·.key))[j]? = some (keyP x) := by rw [h2]; simp [hsp]
    obtain ⟨e0, he0, hk0⟩ : ∃ e0, es[j]? = some e0 ∧ e0.key = keyP x := by
      simp only [List.getElem?_map, Option.map_eq_some_iff] at hkey
      obtain ⟨e0, h3, h4⟩ := hkey
      exact ⟨e0, by simpa using h3, h4⟩
    refine ⟨{ w with heap := w.heap.setIfInBounds b (.map (es.modify j fun e => { e with key := keyP x, val := .agg #[] }) clock) }, ?_, ⟨es.modify j fun e => { e with key := keyP x, val := .agg #[] }, clock, by simp [hlt], ?_⟩, hg _⟩
    · simp [Instr.mapUpdate, run_underlying ht, MapKept.run_getObj_map h1, checkP, hr, he0, hk0, Instr.keyThatStays, sameBits_keyP, MapKept.run_setObj_map _ h1, Result.andThen]
    · rw [insP, if_pos hx, ← h2]
      apply List.ext_getElem?
      intro i
      simp only [List.getElem?_map, Array.getElem?_toList, Array.getElem?_modify]
      split
      · rename_i e; subst e; rw [he0]; simp [hk0]
      · rfl
  · have hnone : posP x S 0 = none := by
      have : (posP x S 0).isSome = false := by rw [posP_mem]; simpa using hx
      simpa using this
    have hrn := hn hnone
    subst hrn
    refine ⟨{ w with heap := w.heap.setIfInBounds b (.map (es.push ⟨keyP x, .agg #[], clock⟩) (clock + 1)) }, ?_, ⟨es.push ⟨keyP x, .agg #[], clock⟩, clock + 1, by simp [hlt], ?_⟩, hg _⟩
    · simp [Instr.mapUpdate, run_underlying ht, MapKept.run_getObj_map h1, checkP, hr, MapKept.run_setObj_map _ h1, Result.andThen]
    · rw [insP, if_neg hx]; simp [h2]
theorem PSet.len {w : World} {b : Nat} {S : List (Int × Int)} (h : PSet w b S) : ∃ es clock, w.heap[b]? = some (.map es clock) ∧ es.size = S.length := by
  obtain ⟨es, c, h1, h2⟩ := h
  exact ⟨es, c, h1, by have := congrArg List.length h2; simpa using this⟩
end Go.Proofs.YtnanlkoldloolaaDoor

/- Locs: are a mark's locations right. -/
namespace Go.Proofs.YtnanlkoldloolaaDoor
open Go.RowKit

def kindB (x : LocD) : Bool := if x.kind = 1 then (x.arg == 0 && x.a == 0) else if x.kind = 2 then decide (x.arg < 16) else if x.kind = 3 then decide (x.arg < 60000) else false
def locB (frames : Int) (x : LocD) : Bool := [x.depth, x.var, x.arg].all okN && decide (x.depth < frames) && kindB x
def placesL (ls : List LocD) : List (Int × Int) := ls.foldl (fun S x => insP S (x.depth, x.var)) []
theorem placesL_snoc (ls : List LocD) (x : LocD) : placesL (ls ++ [x]) = insP (placesL ls) (x.depth, x.var) := by simp [placesL]
def locsB (ls : List LocD) (frames : Int) : Bool := ls.all (locB frames) && decide ((placesL ls).length = ls.length)
theorem locsB_no {ls : List LocD} {frames : Int} {j : Nat} (h : j < ls.length) (hb : locB frames ls[j] = false) : locsB ls frames = false := by
  unfold locsB
  rw [Bool.and_eq_false_iff]
  left
  rw [List.all_eq_false]
  exact ⟨_, List.getElem_mem h, by simp [hb]⟩

theorem wp_addP (w : World) {ops : Array Oper} {rest : List Oper} {o : Oper} {a : Act} {Q : Exit → Act → World → Prop} (hg : o.guard = none) (m x v : Operand) (hop : o.op = Op.mapUpdate 165 m x v) (b : Nat) (S : List (Int × Int)) (hm : a.eval m = .map (some b)) (h : PSet w b S) (key : Int × Int) (hx : a.eval x = keyP key) (hv : a.eval v = .agg #[])
    (hK : ∀ w', PSet w' b (insP S key) → w.grownBy w' (some b) → wpList Tryd.prog ops Q rest (a.put o.dst undef) w') : wpList Tryd.prog ops Q (o :: rest) a w := by
  refine wpList_plain hg fun K' hK' => ?_
  obtain ⟨w', hrun, h1, h2⟩ := h.add key
  unfold Oper.wp
  simp [execOp, hop, hm, hx, hv, hrun, Result.andThen]
  exact hK' _ _ (hK w' h1 h2)

theorem mapShape : Tryd.prog.underlying 165 = some (.map (Tryd.prog.mapKeyOf 165) (Tryd.prog.mapElemOf 165)) := by kernel_rfl

theorem PSet.len_run {w : World} {b : Nat} {S : List (Int × Int)} (h : PSet w b S) {n : Nat} (hn : S.length = n) (ty : TypeId) : (Builtin.len_ #[165] ty #[.map (some b)]).run Tryd.prog w = .ok (.int .i64 n) w := by
  subst hn
  obtain ⟨es, c, h1, h2⟩ := h.len
  rw [run_len_map w 165 ty b es c mapShape h1, h2]
  rfl

set_option maxRecDepth 100000 in
set_option maxHeartbeats 8000000 in
theorem locsOK_any (v : Value) (ls : List LocD) (frames : Int) (w : World) (hv : RdL w v ls) :
   Calls Tryd.prog 65 #[v, .int .i64 frames] w fun e w' => e = .returned (.bool (locsB ls frames)) ∧ Below w.heap.size w w' := by
  have hl9 := hv.le
  obtain ⟨a, cp, rfl⟩ := hv.shape
  have hmm := fun w => run_makeMap (P := Tryd.prog) 165 w
  have HV := Lib.hid hv
  clear hv
  go_enter Tryd.func65, Tryd.ntmps65
  go_wp2_with fail
  go_loopw [11] (fun i wr => ∃ j : Nat, j ≤ ls.length ∧ i = .int .i64 j ∧ (∀ i (hi : i < ls.length), i < j → locB frames ls[i] = true) ∧ PSet wr w.heap.size (placesL (ls.take j)) ∧ Below w.heap.size w wr) (fun i _ => ls.length - (intOf i).toNat)
  case atStart => exact ⟨0, by omega, rfl, fun i _ h => absurd h (by omega), PSet.made w, (Below.refl _ _).alloc (Nat.le_refl _) _⟩
  case round =>
    obtain ⟨j, hj, rfl, hall, hS, hb⟩ := hrel
    have HA := Lib.hid hall
    have HS := Lib.hid hS
    have HB := Lib.hid hb
    have hVr := HV.out.later hb
    have hmb : w.heap.size < wr.heap.size := by obtain ⟨es, c, h, _⟩ := hS; exact heap_lt h
    clear hall hS hb
    by_cases hlt : j < ls.length
    · obtain ⟨cells, hrd, hc⟩ := hVr
      obtain ⟨b, off, c0, hva, hlc, hc9, hbl⟩ := Rd.block hrd (by omega) (by omega)
      simp only [Value.slice.injEq, true_and] at hva
      obtain ⟨rfl, rfl⟩ := hva
      obtain ⟨e0, e1, e2, e3, e4, e5⟩ := hc j hlt
      have d0 := rd_at hrd e0
      have d1 := rd_at hrd e1
      have d2 := rd_at hrd e2
      have d3 := rd_at hrd e3
      have d4 := rd_at hrd e4
      have d5 := rd_at hrd e5
      clear hrd hc e0 e1 e2 e3 e4 e5
      obtain ⟨x, hx⟩ : ∃ x, ls[j] = x := ⟨_, rfl⟩
      have HX := Lib.hid hx
      rw [hx] at d0 d1 d2 d3 d4 d5
      clear hx
      obtain ⟨dd, vv, kk, ar, xa, xb⟩ := x
      simp only at d0 d1 d2 d3 d4 d5
      simp only [← Nat.add_assoc] at d0 d1 d2 d3 d4 d5
      have hcell : Below w.heap.size w (((wr.alloc (.cells #[.int .i64 dd, .int .i64 vv, .int .u8 kk, .int .i64 ar, .int .i64 xa, .int .i64 xb] 91)).alloc (.cells #[.int .i64 dd, .int .i64 vv, .int .i64 ar] 3))) := (HB.out.alloc HB.out.size _).alloc (by have := HB.out.size; simp; omega) _
      have HBL := Lib.hid hcell
      clear hcell
      obtain ⟨B1, hB1⟩ : ∃ B, [dd, vv, ar].all okN = B := ⟨_, rfl⟩
      have HB1 := Lib.hid hB1
      clear hB1
      go_wp2_with fail
      refine (ok_any _ [dd, vv, ar] _ (Rd.mk rfl (Nat.le_refl 3) (by decide) (fun i hi => ?_))).mono ?_
      · rcases (by simp at hi; omega : i = 0 ∨ i = 1 ∨ i = 2) with rfl | rfl | rfl <;> simp [go_sem]
      rintro e w1 ⟨rfl, rfl⟩
      rw [HB1.out]
      have hno : Hid (locB frames ⟨dd, vv, kk, ar, xa, xb⟩ = false → locsB ls frames = false) := fun h => locsB_no hlt (by rw [HX.out]; exact h)
      cases B1 with
      | false =>
        go_wp2_with fail
        go_ret
        exact ⟨ret_bool (hno.out (by unfold locB; rw [HB1.out]; rfl)).symm, HBL.out⟩
      | true =>
        by_cases hdf : dd < frames
        · have hdf2 : decide (frames ≤ dd) = false := decide_eq_false (by omega)
          have hdf3 : decide (dd < frames) = true := by simpa using hdf
          have hbase : Hid (locB frames ⟨dd, vv, kk, ar, xa, xb⟩ = kindB ⟨dd, vv, kk, ar, xa, xb⟩) := by show _ = _; unfold locB; rw [HB1.out]; simp [hdf]
          have hgo : Hid (kindB ⟨dd, vv, kk, ar, xa, xb⟩ = true → (∀ i (hi : i < ls.length), i < j + 1 → locB frames ls[i] = true) ∧ placesL (ls.take (j + 1)) = insP (placesL (ls.take j)) (dd, vv)) := fun h => by
            refine ⟨fun i hi hij => ?_, by rw [List.take_succ_eq_append_getElem hlt, placesL_snoc, HX.out]⟩
            by_cases e : i = j
            · subst e; rw [HX.out, hbase.out]; exact h
            · exact HA.out i hi (by omega)
          have hbad : Hid (kindB ⟨dd, vv, kk, ar, xa, xb⟩ = false → locsB ls frames = false) := fun h => hno.out (by rw [hbase.out]; exact h)
          obtain ⟨W, hW⟩ : ∃ W, W = ((wr.alloc (.cells #[.int .i64 dd, .int .i64 vv, .int .u8 kk, .int .i64 ar, .int .i64 xa, .int .i64 xb] 91)).alloc (.cells #[.int .i64 dd, .int .i64 vv, .int .i64 ar] 3)) := ⟨_, rfl⟩
          have hSW : Hid (PSet W w.heap.size (placesL (ls.take j))) := HS.out.kept (by rw [hW]; exact (Below.heap_alloc _ _ _ (by simp; omega)).trans (Below.heap_alloc _ _ _ hmb))
          have g0 : W.cell? ⟨wr.heap.size, 0, none⟩ = some (.int .i64 dd) := by rw [hW]; simp [go_sem]
          have g1 : W.cell? ⟨wr.heap.size, 1, none⟩ = some (.int .i64 vv) := by rw [hW]; simp [go_sem]
          have g2 : W.cell? ⟨wr.heap.size, 2, none⟩ = some (.int .u8 kk) := by rw [hW]; simp [go_sem]
          have g3 : W.cell? ⟨wr.heap.size, 3, none⟩ = some (.int .i64 ar) := by rw [hW]; simp [go_sem]
          have g4 : W.cell? ⟨wr.heap.size, 4, none⟩ = some (.int .i64 xa) := by rw [hW]; simp [go_sem]
          have HBW : Hid (Below w.heap.size w W) := by rw [hW]; exact HBL.out
          rw [← hW]
          clear hW d0 d1 d2 d3 d4 d5
          by_cases hk1 : kk = 1
          · subst hk1
            by_cases ha : ar = 0
            · subst ha
              by_cases hx0 : xa = 0
              · subst hx0
                have hgo2 := Lib.hid (hgo.out (by simp [kindB]))
                go_wp2_with (refine wp_addP _ rfl _ _ _ rfl w.heap.size _ rfl hSW.out (dd, vv) rfl rfl ?_; intro w5 hS5 hg5; have HS5 := Lib.hid hS5; have HG5 := Lib.hid hg5; clear hS5 hg5)
                exact ⟨⟨j + 1, by omega, by go_num, hgo2.out.1, by rw [hgo2.out.2]; exact HS5.out, HBW.out.trans ⟨HG5.out.os, HG5.out.tape, HG5.out.output, HG5.out.size, fun k hk => HG5.out.block k (Nat.lt_of_lt_of_le hk HBW.out.size) (by simp; omega)⟩⟩, by simp [intOf]; omega⟩
              · have hx1 : (xa != 0) = true := by simp [hx0]
                go_wp2_with fail
                go_ret
                exact ⟨ret_bool (hbad.out (by simp [kindB, hx0])).symm, HBW.out⟩
            · have hx1 : (ar != 0) = true := by simp [ha]
              go_wp2_with fail
              go_ret
              exact ⟨ret_bool (hbad.out (by simp [kindB, ha])).symm, HBW.out⟩
          by_cases hk2 : kk = 2
          · subst hk2
            by_cases ha : ar < 16
            · have hgo2 := Lib.hid (hgo.out (by simp [kindB, ha]))
              go_wp2_with (refine wp_addP _ rfl _ _ _ rfl w.heap.size _ rfl hSW.out (dd, vv) rfl rfl ?_; intro w5 hS5 hg5; have HS5 := Lib.hid hS5; have HG5 := Lib.hid hg5; clear hS5 hg5)
              exact ⟨⟨j + 1, by omega, by go_num, hgo2.out.1, by rw [hgo2.out.2]; exact HS5.out, HBW.out.trans ⟨HG5.out.os, HG5.out.tape, HG5.out.output, HG5.out.size, fun k hk => HG5.out.block k (Nat.lt_of_lt_of_le hk HBW.out.size) (by simp; omega)⟩⟩, by simp [intOf]; omega⟩
            · go_wp2_with fail
              go_ret
              exact ⟨ret_bool (hbad.out (by simp [kindB, ha])).symm, HBW.out⟩
          by_cases hk3 : kk = 3
          · subst hk3
            by_cases ha : ar < 60000
            · have hgo2 := Lib.hid (hgo.out (by simp [kindB, ha]))
              go_wp2_with (refine wp_addP _ rfl _ _ _ rfl w.heap.size _ rfl hSW.out (dd, vv) rfl rfl ?_; intro w5 hS5 hg5; have HS5 := Lib.hid hS5; have HG5 := Lib.hid hg5; clear hS5 hg5)
              exact ⟨⟨j + 1, by omega, by go_num, hgo2.out.1, by rw [hgo2.out.2]; exact HS5.out, HBW.out.trans ⟨HG5.out.os, HG5.out.tape, HG5.out.output, HG5.out.size, fun k hk => HG5.out.block k (Nat.lt_of_lt_of_le hk HBW.out.size) (by simp; omega)⟩⟩, by simp [intOf]; omega⟩
            · go_wp2_with fail
              go_ret
              exact ⟨ret_bool (hbad.out (by simp [kindB, ha])).symm, HBW.out⟩
          have hk1' : (kk == 1) = false := by simp [hk1]
          have hk2' : (kk == 2) = false := by simp [hk2]
          have hk3' : (kk == 3) = false := by simp [hk3]
          go_wp2_with fail
          go_ret
          exact ⟨ret_bool (hbad.out (by simp [kindB, hk1, hk2, hk3])).symm, HBW.out⟩
        · have hdf2 : decide (frames ≤ dd) = true := decide_eq_true (by omega)
          go_wp2_with fail
          go_ret
          exact ⟨ret_bool (hno.out (by unfold locB; simp only [decide_eq_false (show ¬ dd < frames by omega), Bool.and_false, Bool.false_and])).symm, HBL.out⟩
    · obtain rfl : j = ls.length := by omega
      clear hVr
      obtain ⟨n, hn⟩ : ∃ n, (placesL ls).length = n := ⟨_, rfl⟩
      have hln := fun ty => PSet.len_run (by have := HS.out; rwa [List.take_length] at this) hn ty
      have HNN := Lib.hid hn
      clear hn
      go_wp2_with fail
      go_ret
      refine ⟨ret_bool ?_, HB.out⟩
      have h1 : ls.all (locB frames) = true := by
        rw [List.all_eq_true]
        intro x hx
        obtain ⟨i, hi, rfl⟩ := List.getElem_of_mem hx
        exact HA.out i hi hi
      unfold locsB
      rw [h1, HNN.out]
      go_light
      rw [Bool.eq_iff_iff]; simp
      try omega
end Go.Proofs.YtnanlkoldloolaaDoor

/- Locs: are a stop's spots in range. -/
namespace Go.Proofs.YtnanlkoldloolaaDoor
open Go.RowKit

def spotB (x : Int × Int) : Bool := okN x.1 && okN x.2

set_option maxHeartbeats 1000000 in
theorem spot_any (x y : Int) (w : World) : Calls Tryd.prog 63 #[.agg #[.int .i64 x, .int .i64 y]] w fun e w' => e = .returned (.bool (!spotB (x, y))) ∧ Below w.heap.size w w' := by
  go_enter Tryd.func63, Tryd.ntmps63
  go_wp2_with fail
  refine (ok_any _ [x, y] _ (Rd.mk rfl (Nat.le_refl 2) (by decide) (fun i hi => ?_))).mono ?_
  · rcases (by simp at hi; omega : i = 0 ∨ i = 1) with rfl | rfl <;> simp [go_sem]
  rintro e w1 ⟨rfl, rfl⟩
  go_wp2_with fail
  go_ret
  exact ⟨ret_bool (by go_light; simp [spotB]), ((Below.refl _ _).alloc (Nat.le_refl _) _).alloc (by simp) _⟩

set_option maxHeartbeats 2000000 in
theorem index_spot (v : Value) (l : List (Int × Int)) (w : World) (hv : RdP w v l) :
   Calls Tryd.prog 70 #[v, .func (.func 63) #[] #[]] w fun e w' => (∃ r : Int, ((r = -1 ∧ l.all spotB = true) ∨ (0 ≤ r ∧ l.all spotB = false)) ∧ e = .returned (.int .i64 r)) ∧ Below w.heap.size w w' := by
  have hl9 := hv.le
  obtain ⟨a, cp, rfl⟩ := hv.shape
  have HV := Lib.hid hv
  clear hv
  go_enter Tryd.func70, Tryd.ntmps70
  go_wp2_with fail
  go_loopw [8] (fun i wr => ∃ j : Nat, j ≤ l.length ∧ i = .int .i64 j ∧ (l.take j).all spotB = true ∧ Below w.heap.size w wr) (fun i _ => l.length - (intOf i).toNat)
  case atStart => exact ⟨0, by omega, rfl, rfl, Below.refl _ _⟩
  case round =>
    obtain ⟨j, hj, rfl, hall, hb⟩ := hrel
    have HA := Lib.hid hall
    have HB := Lib.hid hb
    have hVr := HV.out.later hb
    clear hall hb
    by_cases hlt : j < l.length
    · obtain ⟨cells, hrd, hc⟩ := hVr
      obtain ⟨b, off, c0, hva, hlc, hc9, hbl⟩ := Rd.block hrd (by omega) (by omega)
      simp only [Value.slice.injEq, true_and] at hva
      obtain ⟨rfl, rfl⟩ := hva
      obtain ⟨e0, e1⟩ := hc j hlt
      have d0 := rd_at hrd e0
      have d1 := rd_at hrd e1
      clear hrd hc e0 e1
      obtain ⟨x, hx⟩ : ∃ x, l[j] = x := ⟨_, rfl⟩
      have HX := Lib.hid hx
      rw [hx] at d0 d1
      clear hx
      obtain ⟨x, y⟩ := x
      simp only [← Nat.add_assoc] at d0 d1
      go_wp2_with fail
      refine (spot_any x y wr).mono ?_
      rintro e w1 ⟨rfl, hb1⟩
      have HB1 := Lib.hid (HB.out.trans (hb1.mono HB.out.size))
      clear hb1
      cases hk : spotB (x, y)
      · have HK := Lib.hid hk
        clear hk
        go_wp2_with fail
        go_ret
        exact ⟨⟨j, .inr ⟨by omega, by rw [List.all_eq_false]; exact ⟨l[j], List.getElem_mem hlt, by rw [HX.out, HK.out]; simp⟩⟩, rfl⟩, HB1.out⟩
      · have HK := Lib.hid hk
        clear hk
        go_wp2_with fail
        exact ⟨⟨j + 1, by omega, by go_num, by rw [List.take_succ_eq_append_getElem hlt, List.all_append, HA.out, HX.out]; simp [HK.out], HB1.out⟩, by simp [intOf]; omega⟩
    · obtain rfl : j = l.length := by omega
      clear hVr
      go_wp2_with fail
      go_ret
      exact ⟨⟨_, .inl ⟨rfl, by have := HA.out; rwa [List.take_length] at this⟩, rfl⟩, HB.out⟩

set_option maxHeartbeats 1000000 in
theorem contains_spot (v : Value) (l : List (Int × Int)) (w : World) (hv : RdP w v l) :
   Calls Tryd.prog 62 #[v, .func (.func 63) #[] #[]] w fun e w' => e = .returned (.bool (!l.all spotB)) ∧ Below w.heap.size w w' := by
  have HI := Lib.hid (index_spot v l w hv)
  clear hv
  go_enter Tryd.func62, Tryd.ntmps62
  go_wp2_with fail
  refine HI.out.mono ?_
  rintro e w1 ⟨⟨r, h, rfl⟩, hb⟩
  have HB := Lib.hid hb
  clear hb
  rcases h with ⟨rfl, hl⟩ | ⟨h0, hl⟩
  · have HL := Lib.hid hl
    clear hl HI
    go_wp2_with fail
    go_ret
    exact ⟨ret_bool (by rw [HL.out]; rfl), HB.out⟩
  · have HL := Lib.hid hl
    clear hl HI
    go_wp2_with fail
    go_ret
    exact ⟨ret_bool (by rw [HL.out]; go_light; simp), HB.out⟩
end Go.Proofs.YtnanlkoldloolaaDoor
