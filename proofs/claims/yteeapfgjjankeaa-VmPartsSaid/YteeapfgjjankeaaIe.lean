/- The machine's tape, written: numbers, one behind the other. -/
import Derived.Test.YteeapfgjjankeaaHc
import Derived.Test.YteeapfgjjankeaaB
import Derived.Deep.CutBlock
namespace Go.Proofs.Yteeapfgjjankeaa.Mach
open Go.RowKit

theorem info_u8' : (Try.prog.info? 5).map (fun i => (i.zero, i.size, i.bytes)) = some (some (.int .u8 0), 1, 1) := by kernel_rfl
theorem info_u8 : ∃ x, Try.prog.info? 5 = some x ∧ x.zero = some (.int .u8 0) ∧ x.size = 1 ∧ x.bytes = 1 := parts' info_u8'
def bytesV (l : List Int) : List Value := l.map (Value.int .u8)
theorem bytesV_one (l : List Int) : ∀ u ∈ bytesV l, u.oneCell' = true := ints_oneCell .u8 l
/-- A tape that is written. -/
structure TapW (w0 : World) (base B : Nat) (bs : List Int) (w : World) : Prop where
  ht : ∃ pv, w.heap[B]? = some (.cells #[pv, .bool false, .bool false] 79 (0, 0)) ∧ w.ownsRow base 5 1 pv bs.length (bytesV bs)
  bel : Below base w0 w
  bB : base ≤ B
theorem TapW.later {w0 w w' : World} {base B : Nat} {bs : List Int} (h : TapW w0 base B bs w) (hb : Below w.heap.size w w') : TapW w0 base B bs w' := by
  obtain ⟨pv, h1, h2⟩ := h.ht
  have hB := (Array.getElem?_eq_some_iff.1 h1).1
  refine ⟨⟨pv, (hb.block B hB).trans h1, osame h2 fun k hk => hb.block k (olt h2 k hk)⟩, h.bel.trans (hb.mono (by have := h.bB; omega)), h.bB⟩
/-- All blocks but the tape's and those of bytes stay. -/
def Kp (B : Nat) (w w' : World) : Prop := w.heap.size ≤ w'.heap.size ∧ ∀ k c T f, w.heap[k]? = some (Obj.cells c T f) → T ≠ 5 → k ≠ B → w'.heap[k]? = w.heap[k]?
theorem Kp.refl (B : Nat) (w : World) : Kp B w w := ⟨Nat.le_refl _, fun _ _ _ _ _ _ _ => rfl⟩
theorem Kp.trans {B : Nat} {w w' w'' : World} (h : Kp B w w') (k : Kp B w' w'') : Kp B w w'' := ⟨Nat.le_trans h.1 k.1, fun j c T f h1 h2 h3 => by
  have e := h.2 j c T f h1 h2 h3
  exact (k.2 j c T f (e.trans h1) h2 h3).trans e⟩
theorem Kp.below {B : Nat} {w w' : World} (h : Below w.heap.size w w') : Kp B w w' := ⟨h.size, fun k _ _ _ h1 _ _ => h.block k (Array.getElem?_eq_some_iff.1 h1).1⟩
theorem TapW.put {w0 wa w7 : World} {base B n : Nat} {bs bs' : List Int} {xs : List Value} {pv v7 : Value} {o : Obj} (h : TapW w0 base B bs wa) (hpv : wa.heap[B]? = some (.cells #[pv, .bool false, .bool false] 79 (0, 0))) (hp : wa.ownsRow base 5 1 pv n xs)
    (hg : ((wa.alloc o).drew).grownBy w7 pv.ownBlock) (ho : w7.ownsRow base 5 1 v7 bs'.length (bytesV bs')) : TapW w0 base B bs' (w7.setCell ⟨B, 0, none⟩ v7) ∧ Kp B wa (w7.setCell ⟨B, 0, none⟩ v7) := by
  have hB : B < wa.heap.size := (Array.getElem?_eq_some_iff.1 hpv).1
  have hbB := h.bB
  have hne : ∀ k c T f, wa.heap[k]? = some (Obj.cells c T f) → T ≠ 5 → pv.ownBlock ≠ some k := fun k c T f h1 h2 e => by
    obtain ⟨_, cur, h9⟩ := oblk hp k e
    rw [h1] at h9; cases h9; exact h2 rfl
  have hst : ∀ k c T f, wa.heap[k]? = some (Obj.cells c T f) → T ≠ 5 → w7.heap[k]? = wa.heap[k]? := fun k c T f h1 h2 => by
    have hk := (Array.getElem?_eq_some_iff.1 h1).1
    exact (hg.block k (by show k < (wa.alloc o).heap.size; simp; omega) (fun e => hne k c T f h1 h2 e.symm)).trans (Below.heap_alloc _ _ _ hk)
  have hsz : wa.heap.size ≤ w7.heap.size := by have := hg.size; have h2 : ((wa.alloc o).drew).heap.size = wa.heap.size + 1 := by show (wa.alloc o).heap.size = _; simp
                                               omega
  have hB7 := (hst B _ _ _ hpv (by decide)).trans hpv
  refine ⟨⟨⟨v7, ?_, osame ho fun k hk => Below.heap_setCell _ _ _ _ ?_⟩, ?_, h.bB⟩, by rw [World.size_setCell]; exact hsz, fun k c T f h1 h2 h3 => ?_⟩
  · rw [heap_set hB7]; simp
  · obtain ⟨_, cur, h9⟩ := oblk ho k hk
    intro e
    have e : k = B := e
    rw [e, hB7] at h9; cases h9
  · exact (((h.bel.alloc (by omega) o).drew).grown hg (by show base ≤ (wa.alloc o).heap.size; simp; omega) (fun k hk => (oblk hp k hk).1)).setCell (by show base ≤ B; omega) _
  · exact (Below.heap_setCell _ _ _ _ h3).trans (hst k c T f h1 h2)
set_option maxRecDepth 100000 in
set_option maxHeartbeats 1000000 in
theorem tnum_w (w0 w : World) (base B : Nat) (bs : List Int) (h : TapW w0 base B bs w) (hl : bs.length ≤ 2000000000) (nb no : Nat) (c : Array Value) (T : TypeId) (f : Nat × Nat) (hc : w.heap[nb]? = some (.cells c T f)) (hT : T ≠ 5) (hnB : nb ≠ B) (x : Int) (hx : c[no]? = some (.int .i64 x)) (_hr : i64 x) :
    Calls Try.prog 40 #[.pointer (some ⟨B, 0, none⟩), .pointer (some ⟨nb, no, none⟩)] w fun e w' => e = .returned (.tuple #[]) ∧ TapW w0 base B (bs ++ bytesL x 8) w' ∧ Kp B w w' := by
  have t1 : w.cell? ⟨B, 1, none⟩ = some (.bool false) := by obtain ⟨pv, ht, -⟩ := h.ht; simp [World.cell?, ht]
  have HS : Hid (TapW w0 base B (bs ++ bytesL x 0) w ∧ Kp B w w) := ⟨by rw [bytesL_zero, List.append_nil]; exact h, Kp.refl B w⟩
  have HC := Lib.hid hc
  have HX := Lib.hid hx
  obtain ⟨i1, a1, a2, a3, a4⟩ := info_u8
  have HI := Lib.hid (And.intro a1 (And.intro a2 (And.intro a3 a4)))
  clear h hc hx a1 a2 a3 a4
  go_enter Try.func40, Try.ntmps40
  go_wp2_with fail
  go_loopw [13] (fun i wr => ∃ j : Nat, j ≤ 8 ∧ i = .int .i64 j ∧ Hid (TapW w0 base B (bs ++ bytesL x j) wr ∧ Kp B w wr)) (fun i _ => 8 - (intOf i).toNat)
  case atStart => exact ⟨0, by omega, rfl, HS⟩
  case round =>
    obtain ⟨wa, rfl⟩ : ∃ wa : World, wa = wr := ⟨_, rfl⟩
    obtain ⟨j, hj, rfl, HJ⟩ := hrel
    by_cases hj8 : j < 8
    · obtain ⟨pv, ht, hp⟩ := HJ.out.1.ht
      obtain ⟨n, hn⟩ : ∃ n, n = (bs ++ bytesL x j).length := ⟨_, rfl⟩
      have hn2 : n ≤ 2000000008 := by rw [hn, List.length_append, bytesL_length]; omega
      obtain ⟨xs, hxs⟩ : ∃ xs, xs = bytesV (bs ++ bytesL x j) := ⟨_, rfl⟩
      rw [← hn, ← hxs] at hp
      obtain ⟨pa, pc, rfl, -, -⟩ := oshape hp
      have k0 : wa.cell? ⟨B, 0, none⟩ = some (.slice pa n pc) := by simp [World.cell?, ht]
      have z0 : wa.frozen? ⟨B, 0, none⟩ = false := by simp [World.frozen?, ht]
      have hB : B < wa.heap.size := (Array.getElem?_eq_some_iff.1 ht).1
      have hbs : base ≤ wa.heap.size := by have := HJ.out.1.bB; omega
      have hcn := (HJ.out.2.2 nb c T f HC.out hT hnB).trans HC.out
      have kx : wa.cell? ⟨nb, no, none⟩ = some (.int .i64 x) := by simp [World.cell?, hcn, HX.out]
      have hj8' : (j : Int) < 8 := by omega
      have ew8 : IntKind.i64.wrap (8 * (j : Int)) = 8 * (j : Int) := by rw [IntKind.wrap_i64]; omega
      have OA : Hid (((wa.alloc (.cells #[.int .u8 (IntKind.u8.wrap (x / 2 ^ (8 * (j : Int)).toNat))] 5)).drew).ownsRow base 5 1 (.slice pa n pc) n xs) := hp.alloc _
      have RA : Hid (Rd ((wa.alloc (.cells #[.int .u8 (IntKind.u8.wrap (x / 2 ^ (8 * (j : Int)).toNat))] 5)).drew) 1 (.slice (some ⟨wa.heap.size, 0, none⟩) 1 1) 1 [.int .u8 (IntKind.u8.wrap (x / 2 ^ (8 * (j : Int)).toNat))]) := lit1_rd wa _ _
      have BA : Hid (base ≤ ((wa.alloc (.cells #[.int .u8 (IntKind.u8.wrap (x / 2 ^ (8 * (j : Int)).toNat))] 5)).drew).heap.size) := by show _ ≤ (wa.alloc _).heap.size; simp; omega
      have y1 : n + 1 ≤ maxLen := by unfold maxLen; omega
      have y2 : (n + 1) * 1 ≤ 140737488355328 := by omega
      have ey : IntKind.u8.wrap (x / 2 ^ (8 * (j : Int)).toNat) = x / 256 ^ j % 256 := by
        have e : (8 * (j : Int)).toNat = 8 * j := by omega
        rw [e, IntKind.wrap_u8', shr_byte]
      have hrow : ∀ k, (Value.slice pa n pc).ownBlock = some k → ∃ cur, wa.heap[k]? = some (.cells cur 5 (0, 0)) := fun k hk => (oblk hp k hk).2
      have HP := Lib.hid hp
      have HT := Lib.hid ht
      have HN := Lib.hid hn
      have HXS := Lib.hid hxs
      have HEY := Lib.hid ey
      have HROW := Lib.hid hrow
      clear hp ht hn hxs hcn ey hrow
      have mixed : Try.prog.follows Departure.mixedOrders = true := by kernel_rfl
      go_wp2_with fail
      go_region_law_o (refine step_append_own_rd rfl _ _ 24 rfl base 5 i1 (.int .u8 0) 1 1 Try.underlying24 HI.out.1 HI.out.2.1 HI.out.2.2.1 HI.out.2.2.2 rfl (by decide) _ n xs rfl OA.out _ 1 [.int .u8 (IntKind.u8.wrap (x / 2 ^ (8 * (j : Int)).toNat))] rfl RA.out (ints_oneCell .u8 [IntKind.u8.wrap (x / 2 ^ (8 * (j : Int)).toNat)]) y1 y2 BA.out ?_; intro v7 w7 hown7 hgrow7; obtain ⟨va7, vc7, rfl, -, -⟩ := oshape hown7; have hB7 : w7.heap[B]? = wa.heap[B]? := (hgrow7.block B (by show B < (wa.alloc _).heap.size; simp; omega) (fun e => by obtain ⟨cur, h9⟩ := HROW.out B e.symm; rw [HT.out] at h9; cases h9)).trans (Below.heap_alloc _ _ _ hB); have k07 := (World.cell?_of_block (a := ⟨B, 0, none⟩) hB7).trans k0; have z07 := (World.frozen?_of_block (a := ⟨B, 0, none⟩) hB7).trans z0; have HO7 := Lib.hid hown7; have HG7 := Lib.hid hgrow7; have HB7 := Lib.hid hB7; clear hown7 hgrow7 hB7)
      all_goals
        go_wp2_with fail
        have e1 : n + 1 = (bs ++ bytesL x (j + 1)).length := by rw [HN.out, bytesL_succ]; simp; omega
        have e2 : xs ++ [.int .u8 (IntKind.u8.wrap (x / 2 ^ (8 * (j : Int)).toNat))] = bytesV (bs ++ bytesL x (j + 1)) := by rw [HXS.out, HEY.out, bytesL_succ]; simp [bytesV]
        have ho := HO7.out
        rw [e1, e2] at ho
        obtain ⟨q1, q2⟩ := HJ.out.1.put HT.out HP.out HG7.out ho
        rw [← e1] at q1 q2
        exact ⟨⟨j + 1, by omega, by simp, q1, HJ.out.2.trans q2⟩, by simp [intOf]; omega⟩
    · have hj0 : j = 8 := by omega
      subst hj0
      have hj8' : ¬ ((8 : Int) < 8) := by omega
      go_wp2_with fail
      refine bodyPost_ret (results_none rfl _ _ _) rfl ⟨rfl, HJ.out.1, HJ.out.2⟩
end Go.Proofs.Yteeapfgjjankeaa.Mach
