/- The machine's tape, written: numbers, one behind the other. -/
import Derived.Test.YtgjmdcbdkdmceaaQ17
import Derived.Test.YtgjmdcbdkdmceaaQ15
import Derived.Deep.CutBlock
namespace Go.Proofs.Ytgjmdcbdkdmceaa.Mach
open Go.RowKit

theorem info_u8' : (Try.prog.info? 5).map (fun i => (i.zero, i.size, i.bytes)) = some (some (.int .u8 0), 1, 1) := by kernel_rfl
theorem info_u8 : ∃ x, Try.prog.info? 5 = some x ∧ x.zero = some (.int .u8 0) ∧ x.size = 1 ∧ x.bytes = 1 := parts' info_u8'
def bytesV (l : List Int) : List Value := l.map (Value.int .u8)
theorem bytesV_one (l : List Int) : ∀ u ∈ bytesV l, u.oneCell' = true := ints_oneCell .u8 l
/-- A tape that is written. -/
structure TapW (w0 : World) (base B : Nat) (bs : List Int) (w : World) : Prop where
  ht : ∃ pv, w.heap[B]? = some (.cells #[pv, .bool false, .bool false] 96 (0, 0)) ∧ w.ownsRow base 5 1 pv bs.length (bytesV bs)
  bel : Below base w0 w
  bB : base ≤ B
theorem TapW.later {w0 w w' : World} {base B : Nat} {bs : List Int} (h : TapW w0 base B bs w) (hb : Below w.heap.size w w') : TapW w0 base B bs w' := by
  obtain ⟨pv, h1, h2⟩ := h.ht
  have hB := (Array.getElem?_eq_some_iff.1 h1).1
  refine ⟨⟨pv, (hb.block B hB).trans h1, osame h2 fun k hk => hb.block k (olt h2 k hk)⟩, h.bel.trans (hb.mono (by have := h.bB; omega)), h.bB⟩
/-- All blocks but the tape's and those of bytes stay. -/
def Kp (B : Nat) (w w' : World) : Prop := w.heap.size ≤ w'.heap.size ∧ ∀ k c T f, w.heap[k]? = some (Obj.cells c T f) → T ≠ 5 → k ≠ B → w'.heap[k]? = w.heap[k]?
theorem Kp.refl (B : Nat) (w : World) : Kp B w w := ⟨Nat.le_refl _, fun _ _ _ _ _ _ _ => rfl⟩
theorem Kp.trans {B : Nat} {w w' w'' : World} (h : Kp B w w') (k : Kp B w' w'') : Kp B w w'' := ⟨Nat.le_trans h.1 k.1, fun j c T f h1 h2 h3 => by
  have e := h.2 j c T f h1 h2 h3
  exact (k.2 j c T f (e.trans h1) h2 h3).trans e⟩
theorem Kp.below {B : Nat} {w w' : World} (h : Below w.heap.size w w') : Kp B w w' := ⟨h.size, fun k _ _ _ h1 _ _ => h.block k (Array.getElem?_eq_some_iff.1 h1).1⟩
theorem TapW.put {w0 wa w7 : World} {base B n : Nat} {bs bs' : List Int} {xs : List Value} {pv v7 : Value} {o : Obj} (h : TapW w0 base B bs wa) (hpv : wa.heap[B]? = some (.cells #[pv, .bool false, .bool false] 96 (0, 0))) (hp : wa.ownsRow base 5 1 pv n xs)
    (hg : ((wa.alloc o).drew).grownBy w7 pv.ownBlock) (ho : w7.ownsRow base 5 1 v7 bs'.length (bytesV bs')) : TapW w0 base B bs' (w7.setCell ⟨B, 0, none⟩ v7) ∧ Kp B wa (w7.setCell ⟨B, 0, none⟩ v7) := by
  have hB : B < wa.heap.size := (Array.getElem?_eq_some_iff.1 hpv).1
  have hbB := h.bB
  have hne : ∀ k c T f, wa.heap[k]? = some (Obj.cells c T f) → T ≠ 5 → pv.ownBlock ≠ some k := fun k c T f h1 h2 e => by
    obtain ⟨_, cur, h9⟩ := oblk hp k e
    rw [h1] at h9; cases h9; exact h2 rfl
  have hst : ∀ k c T f, wa.heap[k]? = some (Obj.cells c T f) → T ≠ 5 → w7.heap[k]? = wa.heap[k]? := fun k c T f h1 h2 => by
    have hk := (Array.getElem?_eq_some_iff.1 h1).1
    exact (hg.block k (by show k < (wa.alloc o).heap.size; simp; omega) (fun e => hne k c T f h1 h2 e.symm)).trans (Below.heap_alloc _ _ _ hk)
  have hsz : wa.heap.size ≤ w7.heap.size := by have := hg.size; have h2 : ((wa.alloc o).drew).heap.size = wa.heap.size + 1 := by show (wa.alloc o).heap.size = _; simp
                                               omega
  have hB7 := (hst B _ _ _ hpv (by decide)).trans hpv
  refine ⟨⟨⟨v7, ?_, osame ho fun k hk => Below.heap_setCell _ _ _ _ ?_⟩, ?_, h.bB⟩, by rw [World.size_setCell]; exact hsz, fun k c T f h1 h2 h3 => ?_⟩
  · rw [heap_set hB7]; simp
  · obtain ⟨_, cur, h9⟩ := oblk ho k hk
    intro e
    have e : k = B := e
    rw [e, hB7] at h9; cases h9
  · exact (((h.bel.alloc (by omega) o).drew).grown hg (by show base ≤ (wa.alloc o).heap.size; simp; omega) (fun k hk => (oblk hp k hk).1)).setCell (by show base ≤ B; omega) _
  · exact (Below.heap_setCell _ _ _ _ h3).trans (hst k c T f h1 h2)
set_option maxRecDepth 100000 in
set_option maxHeartbeats 1000000 in
theorem tnum_w (w0 w : World) (base B : Nat) (bs : List Int) (h : TapW w0 base B bs w) (hl : bs.length ≤ 2000000000) (nb no : Nat) (c : Array Value) (T : TypeId) (f : Nat × Nat) (hc : w.heap[nb]? = some (.cells c T f)) (hT : T ≠ 5) (hnB : nb ≠ B) (x : Int) (hx : c[no]? = some (.int .i64 x)) (_hr : i64 x) :
    Calls Try.prog 64 #[.pointer (some ⟨B, 0, none⟩), .pointer (some ⟨nb, no, none⟩)] w fun e w' => e = .returned (.tuple #[]) ∧ TapW w0 base B (bs ++ bytesL x 8) w' ∧ Kp B w w' := by
  have t1 : w.cell? ⟨B, 1, none⟩ = some (.bool false) := by obtain ⟨pv, ht, -⟩ := h.ht; simp [World.cell?, ht]
  have HS : Hid (TapW w0 base B (bs ++ bytesL x 0) w ∧ Kp B w w) := ⟨by rw [bytesL_zero, List.append_nil]; exact h, Kp.refl B w⟩
  have HC := Lib.hid hc
  have HX := Lib.hid hx
  obtain ⟨i1, a1, a2, a3, a4⟩ := info_u8
  have HI := Lib.hid (And.intro a1 (And.intro a2 (And.intro a3 a4)))
  clear h hc hx a1 a2 a3 a4
  go_enter Try.func64, Try.ntmps64
  go_wp2_with fail
  go_loopw [13] (fun i wr => ∃ j : Nat, j ≤ 8 ∧ i = .int .i64 j ∧ Hid (TapW w0 base B (bs ++ bytesL x j) wr ∧ Kp B w wr)) (fun i _ => 8 - (intOf i).toNat)
  case atStart => exact ⟨0, by omega, rfl, HS⟩
  case round =>
    obtain ⟨wa, rfl⟩ : ∃ wa : World, wa = wr := ⟨_, rfl⟩
    obtain ⟨j, hj, rfl, HJ⟩ := hrel
    by_cases hj8 : j < 8
    · obtain ⟨pv, ht, hp⟩ := HJ.out.1.ht
      obtain ⟨n, hn⟩ : ∃ n, n = (bs ++ bytesL x j).length := ⟨_, rfl⟩
      have hn2 : n ≤ 2000000008 := by rw [hn, List.length_append, bytesL_length]; omega
      obtain ⟨xs, hxs⟩ : ∃ xs, xs = bytesV (bs ++ bytesL x j) := ⟨_, rfl⟩
      rw [← hn, ← hxs] at hp
      obtain ⟨pa, pc, rfl, -, -⟩ := oshape hp
      have k0 : wa.cell? ⟨B, 0, none⟩ = some (.slice pa n pc) := by simp [World.cell?, ht]
      have z0 : wa.frozen? ⟨B, 0, none⟩ = false := by simp [World.frozen?, ht]
      have hB : B < wa.heap.size := (Array.getElem?_eq_some_iff.1 ht).1
      have hbs : base ≤ wa.heap.size := by have := HJ.out.1.bB; omega
      have hcn := (HJ.out.2.2 nb c T f HC.out hT hnB).trans HC.out
      have kx : wa.cell? ⟨nb, no, none⟩ = some (.int .i64 x) := by simp [World.cell?, hcn, HX.out]
      have hj8' : (j : Int) < 8 := by omega
      have ew8 : IntKind.i64.wrap (8 * (j : Int)) = 8 * (j : Int) := by rw [IntKind.wrap_i64]; omega
      have OA : Hid (((wa.alloc (.cells #[.int .u8 (IntKind.u8.wrap (x / 2 ^ (8 * (j : Int)).toNat))] 5)).drew).ownsRow base 5 1 (.slice pa n pc) n xs) := hp.alloc _
      have RA : Hid (Rd ((wa.alloc (.cells #[.int .u8 (IntKind.u8.wrap (x / 2 ^ (8 * (j : Int)).toNat))] 5)).drew) 1 (.slice (some ⟨wa.heap.size, 0, none⟩) 1 1) 1 [.int .u8 (IntKind.u8.wrap (x / 2 ^ (8 * (j : Int)).toNat))]) := lit1_rd wa _ _
      have BA : Hid (base ≤ ((wa.alloc (.cells #[.int .u8 (IntKind.u8.wrap (x / 2 ^ (8 * (j : Int)).toNat))] 5)).drew).heap.size) := by show _ ≤ (wa.alloc _).heap.size; simp; omega
      have y1 : n + 1 ≤ maxLen := by unfold maxLen; omega
      have y2 : (n + 1) * 1 ≤ 140737488355328 := by omega
      have ey : IntKind.u8.wrap (x / 2 ^ (8 * (j : Int)).toNat) = x / 256 ^ j % 256 := by
        have e : (8 * (j : Int)).toNat = 8 * j := by omega
        rw [e, IntKind.wrap_u8', shr_byte]
      have hrow : ∀ k, (Value.slice pa n pc).ownBlock = some k → ∃ cur, wa.heap[k]? = some (.cells cur 5 (0, 0)) := fun k hk => (oblk hp k hk).2
      have HP := Lib.hid hp
      have HT := Lib.hid ht
      have HN := Lib.hid hn
      have HXS := Lib.hid hxs
      have HEY := Lib.hid ey
      have HROW := Lib.hid hrow
      clear hp ht hn hxs hcn ey hrow
      have mixed : Try.prog.follows Departure.mixedOrders = true := by kernel_rfl
      go_wp2_with fail
      go_region_law_o (refine step_append_own_rd rfl _ _ 24 rfl base 5 i1 (.int .u8 0) 1 1 Try.underlying24 HI.out.1 HI.out.2.1 HI.out.2.2.1 HI.out.2.2.2 rfl (by decide) _ n xs rfl OA.out _ 1 [.int .u8 (IntKind.u8.wrap (x / 2 ^ (8 * (j : Int)).toNat))] rfl RA.out (ints_oneCell .u8 [IntKind.u8.wrap (x / 2 ^ (8 * (j : Int)).toNat)]) y1 y2 BA.out ?_; intro v7 w7 hown7 hgrow7; obtain ⟨va7, vc7, rfl, -, -⟩ := oshape hown7; have hB7 : w7.heap[B]? = wa.heap[B]? := (hgrow7.block B (by show B < (wa.alloc _).heap.size; simp; omega) (fun e => by obtain ⟨cur, h9⟩ := HROW.out B e.symm; rw [HT.out] at h9; cases h9)).trans (Below.heap_alloc _ _ _ hB); have k07 := (World.cell?_of_block (a := ⟨B, 0, none⟩) hB7).trans k0; have z07 := (World.frozen?_of_block (a := ⟨B, 0, none⟩) hB7).trans z0; have HO7 := Lib.hid hown7; have HG7 := Lib.hid hgrow7; have HB7 := Lib.hid hB7; clear hown7 hgrow7 hB7)
      all_goals
        go_wp2_with fail
        have e1 : n + 1 = (bs ++ bytesL x (j + 1)).length := by rw [HN.out, bytesL_succ]; simp; omega
        have e2 : xs ++ [.int .u8 (IntKind.u8.wrap (x / 2 ^ (8 * (j : Int)).toNat))] = bytesV (bs ++ bytesL x (j + 1)) := by rw [HXS.out, HEY.out, bytesL_succ]; simp [bytesV]
        have ho := HO7.out
        rw [e1, e2] at ho
        obtain ⟨q1, q2⟩ := HJ.out.1.put HT.out HP.out HG7.out ho
        rw [← e1] at q1 q2
        exact ⟨⟨j + 1, by omega, by simp, q1, HJ.out.2.trans q2⟩, by simp [intOf]; omega⟩
    · have hj0 : j = 8 := by omega
      subst hj0
      have hj8' : ¬ ((8 : Int) < 8) := by omega
      go_wp2_with fail
      refine bodyPost_ret (results_none rfl _ _ _) rfl ⟨rfl, HJ.out.1, HJ.out.2⟩
end Go.Proofs.Ytgjmdcbdkdmceaa.Mach

/- The machine's tape, written: ints, bytes, lists. -/
namespace Go.Proofs.Ytgjmdcbdkdmceaa.Mach
open Go.RowKit

theorem setCell_id {w : World} {b o : Nat} {v : Value} (h : w.cell? ⟨b, o, none⟩ = some v) : w.setCell ⟨b, o, none⟩ v = w := by
  have e : (w.setCell ⟨b, o, none⟩ v).heap = w.heap := by
    apply Array.ext_getElem?
    intro k
    by_cases hk : k = b
    · subst hk
      unfold World.cell? at h
      simp only [World.setCell, Array.getElem?_modify, if_true]
      cases hob : w.heap[k]? with
      | none => rfl
      | some ob =>
        rw [hob] at h
        cases ob with
        | cells c t f =>
          simp at h ⊢
          obtain ⟨hlt, rfl⟩ := Array.getElem?_eq_some_iff.1 h
          apply Array.ext (by simp)
          intro i h1 h2
          rw [Array.getElem_setIfInBounds (by simpa using h1)]
          split
          · subst_vars; rfl
          · rfl
        | _ => rfl
    · exact Below.heap_setCell _ _ _ _ hk
  have e2 : w.setCell ⟨b, o, none⟩ v = { w with heap := (w.setCell ⟨b, o, none⟩ v).heap } := rfl
  rw [e2, e]
/-! ### rows that the call made, a constant's too (its row bears a mark behind its last cell, and is full) -/


theorem Kp.at {B k : Nat} {w w' : World} {c : Array Value} {T : TypeId} {f : Nat × Nat} (h : Kp B w w') (hc : w.heap[k]? = some (.cells c T f)) (hT : T ≠ 5) (hk : k ≠ B) : w'.heap[k]? = some (.cells c T f) := (h.2 k c T f hc hT hk).trans hc
set_option maxRecDepth 100000 in
set_option maxHeartbeats 1000000 in
theorem tplain_w (w0 w : World) (base B : Nat) (bs : List Int) (h : TapW w0 base B bs w) (hl : bs.length ≤ 2000000000) (nb no : Nat) (c : Array Value) (T : TypeId) (hc : w.heap[nb]? = some (.cells c T (0, 0))) (hT : T ≠ 5) (hnB : nb ≠ B) (x : Int) (hx : c[no]? = some (.int .i64 x)) (hr : i64 x) :
    Calls Try.prog 68 #[.pointer (some ⟨B, 0, none⟩), .pointer (some ⟨nb, no, none⟩)] w fun e w' => e = .returned (.tuple #[]) ∧ TapW w0 base B (bs ++ bytesL x 8) w' ∧ Kp B w w' := by
  have kx : w.cell? ⟨nb, no, none⟩ = some (.int .i64 x) := by simp [World.cell?, hc, hx]
  have hnb : nb < w.heap.size := (Array.getElem?_eq_some_iff.1 hc).1
  have H := Lib.hid h
  have HC := Lib.hid hc
  have HX := Lib.hid hx
  clear h hc hx
  go_enter Try.func68, Try.ntmps68
  go_wp2_with fail
  obtain ⟨w1, hw1⟩ : ∃ w1, w1 = w.alloc (.cells #[.int .i64 x] 2) := ⟨_, rfl⟩
  rw [← hw1]
  have hb1 : Below w.heap.size w w1 := by rw [hw1]; exact (Below.refl _ _).alloc (Nat.le_refl _) _
  have hc1 : w1.heap[w.heap.size]? = some (.cells #[.int .i64 x] 2 (0, 0)) := by rw [hw1]; exact heap_alloc_new _ _
  have hBw : B < w.heap.size := by obtain ⟨pv, hp, -⟩ := H.out.ht; exact (Array.getElem?_eq_some_iff.1 hp).1
  have hcn1 : w1.heap[nb]? = some (.cells c T (0, 0)) := (hb1.block nb hnb).trans HC.out
  have H1 := Lib.hid (H.out.later hb1)
  have HK1 := Lib.hid (Kp.below (B := B) hb1)
  have HC1 := Lib.hid hc1
  have HN1 := Lib.hid hcn1
  clear hw1 hb1 hc1 hcn1
  refine (tnum_w w0 w1 base B bs H1.out hl w.heap.size 0 _ _ _ HC1.out (by decide) (by omega) x rfl hr).mono ?_
  rintro e w2 ⟨rfl, hT2, hK2⟩
  have hc2 := hK2.at HC1.out (by decide) (by omega)
  have hcn2 := hK2.at HN1.out hT hnB
  have k2 : w2.cell? ⟨w.heap.size, 0, none⟩ = some (.int .i64 x) := by simp [World.cell?, hc2]
  have kn2 : w2.cell? ⟨nb, no, none⟩ = some (.int .i64 x) := by simp [World.cell?, hcn2, HX.out]
  have zn2 : w2.frozen? ⟨nb, no, none⟩ = false := by simp [World.frozen?, hcn2]
  have HT2 := Lib.hid hT2
  have HK2 := Lib.hid (HK1.out.trans hK2)
  have KN := Lib.hid kn2
  clear hT2 hK2 hc2 hcn2
  go_wp2_with fail
  refine bodyPost_end (results_none rfl _ _ _) rfl ⟨rfl, ?_⟩
  first
    | exact ⟨HT2.out, HK2.out⟩
    | (rw [setCell_id KN.out]; exact ⟨HT2.out, HK2.out⟩)
set_option maxRecDepth 100000 in
set_option maxHeartbeats 1000000 in
theorem tshort_w (w0 w : World) (base B : Nat) (bs : List Int) (h : TapW w0 base B bs w) (hl : bs.length ≤ 2000000000) (nb no : Nat) (c : Array Value) (T : TypeId) (hc : w.heap[nb]? = some (.cells c T (0, 0))) (hT : T ≠ 5) (hnB : nb ≠ B) (x : Int) (hx : c[no]? = some (.int .u8 x)) (hr : 0 ≤ x ∧ x ≤ 255) :
    Calls Try.prog 66 #[.pointer (some ⟨B, 0, none⟩), .pointer (some ⟨nb, no, none⟩)] w fun e w' => e = .returned (.tuple #[]) ∧ TapW w0 base B (bs ++ bytesL x 8) w' ∧ Kp B w w' := by
  have kx : w.cell? ⟨nb, no, none⟩ = some (.int .u8 x) := by simp [World.cell?, hc, hx]
  have hnb : nb < w.heap.size := (Array.getElem?_eq_some_iff.1 hc).1
  have hr0 : i64 x := ⟨by omega, by omega⟩
  have ew : IntKind.i64.wrap x = x := by rw [IntKind.wrap_i64]; omega
  have eu : IntKind.u8.wrap x = x := by rw [IntKind.wrap_u8']; omega
  have d1 : decide (x < 0) = false := decide_eq_false (by omega)
  have d2 : decide (255 < x) = false := decide_eq_false (by omega)
  have H := Lib.hid h
  have HC := Lib.hid hc
  have HX := Lib.hid hx
  clear h hc hx
  go_enter Try.func66, Try.ntmps66
  go_wp2_with fail
  obtain ⟨w1, hw1⟩ : ∃ w1, w1 = w.alloc (.cells #[.int .i64 x] 2) := ⟨_, rfl⟩
  rw [← hw1]
  have hb1 : Below w.heap.size w w1 := by rw [hw1]; exact (Below.refl _ _).alloc (Nat.le_refl _) _
  have hc1 : w1.heap[w.heap.size]? = some (.cells #[.int .i64 x] 2 (0, 0)) := by rw [hw1]; exact heap_alloc_new _ _
  have hBw : B < w.heap.size := by obtain ⟨pv, hp, -⟩ := H.out.ht; exact (Array.getElem?_eq_some_iff.1 hp).1
  have hcn1 : w1.heap[nb]? = some (.cells c T (0, 0)) := (hb1.block nb hnb).trans HC.out
  have H1 := Lib.hid (H.out.later hb1)
  have HK1 := Lib.hid (Kp.below (B := B) hb1)
  have HC1 := Lib.hid hc1
  have HN1 := Lib.hid hcn1
  clear hw1 hb1 hc1 hcn1
  refine (tnum_w w0 w1 base B bs H1.out hl w.heap.size 0 _ _ _ HC1.out (by decide) (by omega) x rfl hr0).mono ?_
  rintro e w2 ⟨rfl, hT2, hK2⟩
  have hc2 := hK2.at HC1.out (by decide) (by omega)
  have hcn2 := hK2.at HN1.out hT hnB
  have k2 : w2.cell? ⟨w.heap.size, 0, none⟩ = some (.int .i64 x) := by simp [World.cell?, hc2]
  have kn2 : w2.cell? ⟨nb, no, none⟩ = some (.int .u8 x) := by simp [World.cell?, hcn2, HX.out]
  have zn2 : w2.frozen? ⟨nb, no, none⟩ = false := by simp [World.frozen?, hcn2]
  have HT2 := Lib.hid hT2
  have HK2 := Lib.hid (HK1.out.trans hK2)
  have KN := Lib.hid kn2
  obtain ⟨pv, ht2, -⟩ := hT2.ht
  have t22 : w2.cell? ⟨B, 2, none⟩ = some (.bool false) := by simp [World.cell?, ht2]
  have z22 : w2.frozen? ⟨B, 2, none⟩ = false := by simp [World.frozen?, ht2]
  have T22 := Lib.hid t22
  have nBn : ¬ B = nb := fun e => hnB e.symm
  clear hT2 hK2 hc2 hcn2 ht2
  go_wp2_with fail
  refine bodyPost_end (results_none rfl _ _ _) rfl ⟨rfl, ?_⟩
  first
    | exact ⟨HT2.out, HK2.out⟩
    | (rw [setCell_id T22.out, setCell_id KN.out]; exact ⟨HT2.out, HK2.out⟩)
    | (rw [setCell_id T22.out]; exact ⟨HT2.out, HK2.out⟩)
    | (rw [setCell_id KN.out]; exact ⟨HT2.out, HK2.out⟩)
/-- A list's bytes: how many, and each. -/
def listB (l : List Int) : List Int := bytesL l.length 8 ++ l.flatMap fun x => bytesL x 8
set_option maxRecDepth 100000 in
set_option maxHeartbeats 1000000 in
theorem tlist_w (w0 w : World) (base B : Nat) (bs : List Int) (h : TapW w0 base B bs w) (l : List Int) (hl : bs.length + 8 * l.length ≤ 1900000000) (nb no : Nat) (c : Array Value) (T : TypeId) (hc : w.heap[nb]? = some (.cells c T (0, 0))) (hT : T ≠ 5) (hnB : nb ≠ B) (lv : Value) (hx : c[no]? = some lv) (lb : Nat) (hrow : w.ownsRow lb 2 1 lv l.length (intsV l)) (hr : I64s l) :
    Calls Try.prog 67 #[.pointer (some ⟨B, 0, none⟩), .pointer (some ⟨nb, no, none⟩)] w fun e w' => e = .returned (.tuple #[]) ∧ TapW w0 base B (bs ++ listB l) w' ∧ Kp B w w' := by
  obtain ⟨la, lc, rfl, -, -⟩ := oshape hrow
  have kx : w.cell? ⟨nb, no, none⟩ = some (.slice la l.length lc) := by simp [World.cell?, hc, hx]
  have hnb : nb < w.heap.size := (Array.getElem?_eq_some_iff.1 hc).1
  have H := Lib.hid h
  have HC := Lib.hid hc
  have HX := Lib.hid hx
  have HR := Lib.hid hrow
  clear h hc hx hrow
  go_enter Try.func67, Try.ntmps67
  go_wp2_with fail
  obtain ⟨w1, hw1⟩ : ∃ w1, w1 = w.alloc (.cells #[.int .i64 l.length] 3) := ⟨_, rfl⟩
  rw [← hw1]
  have hb1 : Below w.heap.size w w1 := by rw [hw1]; exact (Below.refl _ _).alloc (Nat.le_refl _) _
  have hc1 : w1.heap[w.heap.size]? = some (.cells #[.int .i64 l.length] 3 (0, 0)) := by rw [hw1]; exact heap_alloc_new _ _
  have hBw : B < w.heap.size := by obtain ⟨pv, hp, -⟩ := H.out.ht; exact (Array.getElem?_eq_some_iff.1 hp).1
  have hcn1 : w1.heap[nb]? = some (.cells c T (0, 0)) := (hb1.block nb hnb).trans HC.out
  have H1 := Lib.hid (H.out.later hb1)
  have HK1 := Lib.hid (Kp.below (B := B) hb1)
  have HC1 := Lib.hid hc1
  have HN1 := Lib.hid hcn1
  clear hw1 hb1 hc1 hcn1
  refine (tplain_w w0 w1 base B bs H1.out (by omega) w.heap.size 0 _ _ HC1.out (by decide) (by omega) l.length rfl (i64_nat (by omega))).mono ?_
  rintro e w2 ⟨rfl, hT2, hK2⟩
  have hc2 := hK2.at HC1.out (by decide) (by omega)
  have hcn2 := hK2.at HN1.out hT hnB
  have k2 : w2.cell? ⟨w.heap.size, 0, none⟩ = some (.int .i64 l.length) := by simp [World.cell?, hc2]
  have kn2 : w2.cell? ⟨nb, no, none⟩ = some (.slice la l.length lc) := by simp [World.cell?, hcn2, HX.out]
  obtain ⟨pv, ht2, -⟩ := hT2.ht
  have t12 : w2.cell? ⟨B, 1, none⟩ = some (.bool false) := by simp [World.cell?, ht2]
  have HL : Hid (TapW w0 base B (bs ++ bytesL l.length 8 ++ (l.take 0).flatMap fun x => bytesL x 8) w2 ∧ Kp B w w2) := ⟨by simpa using hT2, HK1.out.trans hK2⟩
  clear hT2 hK2 hc2 hcn2 ht2 H1 HK1 HC1 HN1
  go_wp2_with fail
  go_loopw [39] (fun i wr => ∃ j : Nat, j ≤ l.length ∧ i = .int .i64 j ∧ Hid (TapW w0 base B (bs ++ bytesL l.length 8 ++ (l.take j).flatMap fun x => bytesL x 8) wr ∧ Kp B w wr)) (fun i _ => l.length - (intOf i).toNat)
  case atStart => exact ⟨0, by omega, rfl, HL⟩
  case round =>
    obtain ⟨wa, rfl⟩ : ∃ wa : World, wa = wr := ⟨_, rfl⟩
    obtain ⟨j, hj, rfl, HJ⟩ := hrel
    clear HL k2 kn2 t12
    by_cases hjl : j < l.length
    · obtain ⟨g, gc, hv, hlg, -, ⟨cur, hcur⟩, hat⟩ := osplit HR.out (by omega)
      simp only [Value.slice.injEq, true_and] at hv
      obtain ⟨rfl, rfl⟩ := hv
      obtain ⟨y, hy⟩ : ∃ y, y = l.getD j 0 := ⟨_, rfl⟩
      have hcj := hat j _ (intsV_at hjl)
      rw [← hy] at hcj
      have hcur2 : cur[j]? = some (.int .i64 y) := by simpa [World.cell?, hcur] using hcj
      have hgB : g ≠ B := fun e => by
        obtain ⟨pv, hp, -⟩ := H.out.ht
        rw [e, hp] at hcur; cases hcur
      have hga := HJ.out.2.at hcur (by decide) hgB
      have hna := HJ.out.2.at HC.out hT hnB
      have kn : wa.cell? ⟨nb, no, none⟩ = some (.slice (some ⟨g, 0, none⟩) l.length lc) := by simp [World.cell?, hna, HX.out]
      have ky : wa.cell? ⟨g, j, none⟩ = some (.int .i64 y) := by simp [World.cell?, hga, hcur2]
      have hry : i64 y := by rw [hy]; exact hr.getD j
      have hjl' : (j : Int) < l.length := by omega
      have HGA := Lib.hid hga
      have HCU := Lib.hid hcur2
      have HGB := Lib.hid hgB
      have HY := Lib.hid hy
      have hlen : ((l.take j).flatMap fun x => bytesL x 8).length = 8 * j := by
        have : ∀ l' : List Int, (l'.flatMap fun x => bytesL x 8).length = 8 * l'.length := fun l' => by
          induction l' with
          | nil => rfl
          | cons a r ih => rw [List.flatMap_cons, List.length_append, ih, bytesL_length, List.length_cons]; omega
        rw [this, List.length_take]; omega
      have hlen2 : (bs ++ bytesL l.length 8 ++ (l.take j).flatMap fun x => bytesL x 8).length ≤ 2000000000 := by
        rw [List.length_append, List.length_append, bytesL_length, hlen]; omega
      clear hcur hat hcj hga hna hcur2 hgB hy hlen
      go_wp2_with fail
      refine (tnum_w w0 wa base B _ HJ.out.1 hlen2 g j cur _ _ HGA.out (by decide) HGB.out y HCU.out hry).mono ?_
      rintro e w4 ⟨rfl, hT4, hK4⟩
      have HT4 := Lib.hid hT4
      have HK4 := Lib.hid (HJ.out.2.trans hK4)
      clear hT4 hK4
      go_wp2_with fail
      have e1 : bs ++ bytesL l.length 8 ++ ((l.take j).flatMap fun x => bytesL x 8) ++ bytesL y 8 = bs ++ bytesL l.length 8 ++ (l.take (j + 1)).flatMap fun x => bytesL x 8 := by
        have e2 : l.take (j + 1) = l.take j ++ [y] := by
          rw [List.take_succ_eq_append_getElem hjl, HY.out, List.getD_eq_getElem?_getD, List.getElem?_eq_getElem hjl]; rfl
        rw [e2, List.flatMap_append]; simp
      refine ⟨⟨j + 1, by omega, by simp, ?_, HK4.out⟩, by simp [intOf]; omega⟩
      have := HT4.out
      rw [e1] at this
      exact this
    · obtain rfl : j = l.length := by omega
      go_wp2_with fail
      refine bodyPost_end (results_none rfl _ _ _) rfl ⟨rfl, ?_, HJ.out.2⟩
      have := HJ.out.1
      rw [List.take_length, List.append_assoc] at this
      exact this
end Go.Proofs.Ytgjmdcbdkdmceaa.Mach
