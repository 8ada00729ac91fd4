/- The machine's tape, read: what a number is; one number. -/
import Derived.Test.YteeapfgjjankeaaQ18
import Derived.Test.YteeapfgjjankeaaQHb
import Derived.Deep.QuietTactic
import Derived.BigQuiet
namespace Go.Proofs.Yteeapfgjjankeaa.Mach
open Go.RowKit

/-- The number of the first j bytes. -/
def vB (t : List Int) (j : Nat) : Int := wrap64 (valL (t.take j))
theorem vB0 (t : List Int) : vB t 0 = 0 := by simp [vB, valL, wrap64]
theorem or_step (t : List Int) (j : Nat) (hB : isB t) (hj : j < t.length) (_h8 : j < 8) : bits .or .i64 (vB t j) (wrap64 (t.getD j 0 * 2 ^ (8 * j))) = vB t (j + 1) := by
  have hv := valL_bd (t.take j) (fun x hx => hB x (List.mem_of_mem_take hx))
  have hl : (t.take j).length = j := by rw [List.length_take]; omega
  rw [hl] at hv
  have hx := hB t[j] (List.getElem_mem hj)
  have hg : t.getD j 0 = t[j] := by simp [hj]
  have hs : valL (t.take (j + 1)) = valL (t.take j) + 256 ^ j * t[j] := by
    rw [List.take_succ_eq_append_getElem hj, valL_append, hl]
  unfold vB
  rw [hs, hg]
  generalize valL (t.take j) = v at *
  generalize t[j] = x at *
  show IntKind.i64.wrap ((BitVec.ofInt 64 (wrap64 v) ||| BitVec.ofInt 64 (wrap64 (x * 2 ^ (8 * j)))).toNat : Int) = _
  have hw : ∀ z : Int, BitVec.ofInt 64 (wrap64 z) = BitVec.ofInt 64 z := by
    intro z
    apply BitVec.eq_of_toNat_eq
    simp only [BitVec.toNat_ofInt, wrap64]
    omega
  obtain ⟨V, rfl⟩ := Int.eq_ofNat_of_zero_le hv.1
  obtain ⟨X, rfl⟩ := Int.eq_ofNat_of_zero_le hx.1
  have hV : V < 2 ^ (8 * j) := by
    have : ((256 ^ j : Nat) : Int) = (256 : Int) ^ j := by simp
    rw [Nat.pow_mul]
    have h2 : (2 ^ 8 : Nat) = 256 := by decide
    rw [h2]; omega
  have e1 : ((X : Int) * 2 ^ (8 * j)) = ((2 ^ (8 * j) * X : Nat) : Int) := by simp [Int.mul_comm]
  rw [hw, hw, e1, BitVec.toNat_or]
  have t1 : (BitVec.ofInt 64 (V : Int)).toNat = V % 2 ^ 64 := by simp
  have t2 : (BitVec.ofInt 64 ((2 ^ (8 * j) * X : Nat) : Int)).toNat = (2 ^ (8 * j) * X) % 2 ^ 64 := by
    simp only [BitVec.toNat_ofInt]; generalize 2 ^ (8 * j) * X = Y; omega
  rw [t1, t2, ← Nat.or_mod_two_pow, Nat.or_comm, ← Nat.two_pow_add_eq_or_of_lt hV X, IntKind.wrap_i64]
  have e2 : ((256 : Int) ^ j * (X : Int)) = ((2 ^ (8 * j) * X : Nat) : Int) := by
    rw [Nat.pow_mul]; simp
  rw [e2]
  unfold wrap64
  generalize (2 ^ (8 * j) * X) = Y
  omega
/-- One number off the front; whether something was wrong; what is left. -/
def numF (bad : Bool) (p : List Int) : Int × Bool × List Int := if p.length < 8 then (0, true, p) else (vB p 8, bad, p.drop 8)
theorem numF_short {bad : Bool} {p : List Int} (h : p.length < 8) : numF bad p = (0, true, p) := if_pos h
theorem numF_long {bad : Bool} {p : List Int} (h : ¬ p.length < 8) : numF bad p = (vB p 8, bad, p.drop 8) := if_neg h
theorem hs_congr {w w' : World} {a : Addr} {v : Value} {k : Nat} (h : w.heap[k]? = w'.heap[k]?) : (w.setCell a v).heap[k]? = (w'.setCell a v).heap[k]? := by
  simp only [World.setCell, Array.getElem?_modify, h]
/-- A tape that is read. -/
structure TapR (w0 : World) (base B : Nat) (bad : Bool) (p : List Int) (w : World) : Prop where
  ht : ∃ pv, w.heap[B]? = some (.cells #[pv, .bool true, .bool bad] 79 (0, 0)) ∧ RdB w pv p ∧ (0 < p.length → ∀ k, pv.ownBlock = some k → k < base)
  hB : isB p
  bel : Below base w0 w
  bB : base ≤ B
/-- One place was written, and the tape; there may be more blocks. -/
structure RW (w w' : World) (B : Nat) (a : Addr) (v : Value) : Prop where
  os : w'.os = w.os
  tape : w'.tape = w.tape
  output : w'.output = w.output
  size : w.heap.size ≤ w'.heap.size
  at_ : ∀ k, k < w.heap.size → k ≠ B → w'.heap[k]? = (w.setCell a v).heap[k]?
theorem TapR.blkB {w0 w : World} {base B : Nat} {bad : Bool} {p : List Int} (h : TapR w0 base B bad p w) : B < w.heap.size := by
  obtain ⟨_, h1, _⟩ := h.ht
  exact (Array.getElem?_eq_some_iff.1 h1).1
theorem TapR.later {w0 w w' : World} {base B : Nat} {bad : Bool} {p : List Int} (h : TapR w0 base B bad p w) (hb : Below w.heap.size w w') : TapR w0 base B bad p w' := by
  obtain ⟨pv, h1, h2, h3⟩ := h.ht
  have hB := h.blkB
  exact ⟨⟨pv, (hb.block B hB).trans h1, Rd.later h2 hb, h3⟩, h.hB, h.bel.trans (hb.mono (by have := h.bB; omega)), h.bB⟩
/-- A store at another block. -/
theorem TapR.set {w0 w : World} {base B : Nat} {bad : Bool} {p : List Int} (h : TapR w0 base B bad p w) (a : Addr) (v : Value) (ha : a.block ≠ B) (hb : base ≤ a.block) : TapR w0 base B bad p (w.setCell a v) := by
  obtain ⟨pv, h1, h2, h3⟩ := h.ht
  exact ⟨⟨pv, (Below.heap_setCell _ _ _ _ (Ne.symm ha)).trans h1, Rd.keepB h2 fun hn k _ hk => Below.heap_setCell _ _ _ _ (by have := h3 hn k hk; omega), h3⟩, h.hB, h.bel.setCell hb v, h.bB⟩
/-- The tape's own three. -/
theorem TapR.bad {w0 w : World} {base B : Nat} {bad : Bool} {p : List Int} (h : TapR w0 base B bad p w) (b : Bool) : TapR w0 base B b p (w.setCell ⟨B, 2, none⟩ (.bool b)) := by
  obtain ⟨pv, h1, h2, h3⟩ := h.ht
  exact ⟨⟨pv, by rw [heap_set h1]; simp, Rd.keepB h2 fun hn k _ hk => Below.heap_setCell _ _ _ _ (by have := h3 hn k hk; have := h.bB; show k ≠ B; omega), h3⟩, h.hB, h.bel.setCell h.bB _, h.bB⟩
theorem TapR.rest {w0 w : World} {base B : Nat} {bad : Bool} {p q : List Int} {v : Value} (h : TapR w0 base B bad p w) (hv : RdB w v q) (hq : 0 < q.length → ∀ k, v.ownBlock = some k → k < base) (hB : isB q) : TapR w0 base B bad q (w.setCell ⟨B, 0, none⟩ v) := by
  obtain ⟨pv, h1, _, _⟩ := h.ht
  exact ⟨⟨v, by rw [heap_set h1]; simp, Rd.keepB hv fun hn k _ hk => Below.heap_setCell _ _ _ _ (by have := hq hn k hk; have := h.bB; show k ≠ B; omega), hq⟩, hB, h.bel.setCell h.bB _, h.bB⟩
theorem slice8 {w : World} {pa : Option Addr} {n pc : Nat} {p : List Int} (hv : RdB w (.slice pa n pc) p) (hn : n = p.length) (h8 : ¬ p.length < 8) (base : Nat) (hb : 0 < p.length → ∀ k, (Value.slice pa n pc).ownBlock = some k → k < base) :
    (∃ va, (∀ W : World, (Instr.slice 24 (.slice pa n pc) none (some (.int .i64 8)) none).run Try.prog W = .ok va W) ∧ RdB w va (p.take 8)) ∧
    (∃ va, (∀ W : World, (Instr.slice 24 (.slice pa n pc) (some (.int .i64 8)) none none).run Try.prog W = .ok va W) ∧ RdB w va (p.drop 8) ∧ (0 < (p.drop 8).length → ∀ k, va.ownBlock = some k → k < base)) := by
  subst hn
  obtain ⟨i1, a1, a2, a3, a4⟩ := info_u8
  have hcap : p.length ≤ pc := by
    rcases hv.2 with ⟨e, h0⟩ | ⟨a, cap, e, h1, _, _⟩
    · omega
    · cases e; exact h1
  constructor
  · refine ⟨_, fun W => run_slice_to 24 5 Try.underlying24 a1 a3 _ _ _ 8 8 (by omega) (by omega) W, ?_⟩
    have := Rd.take (k := 8) hv (by omega)
    unfold RdB
    rw [List.length_take, List.map_take, Nat.min_eq_left (by omega)]
    simpa using this
  · refine ⟨_, fun W => run_slice_from 24 5 Try.underlying24 a1 a3 _ _ _ 8 8 (by omega) (by omega) W, ?_, fun _ k hk => ?_⟩
    · have := rdB_mid (l := 8) (h := p.length) hv rfl (by omega) (by omega)
      rw [List.take_of_length_le (Nat.le_refl _)] at this
      exact this
    · refine hb (by omega) k ?_
      cases pa with
      | none => simp [Value.ownBlock] at hk
      | some a =>
        have e : ∀ (x : Option Addr), (x = some a ∨ x = some (a.add (8 * 1))) → (Value.slice x (p.length - 8) (pc - 8)).ownBlock = some k → (Value.slice (some a) p.length pc).ownBlock = some k := by
          rintro x (rfl | rfl) h <;> simpa [Value.ownBlock, Addr.add] using h
        refine e _ ?_ hk
        split
        · exact .inl rfl
        · exact .inr rfl
set_option maxRecDepth 100000 in
set_option maxHeartbeats 1000000 in
theorem tnum_r (w0 w : World) (base B : Nat) (bad : Bool) (p : List Int) (h : TapR w0 base B bad p w) (nb no : Nat) (hnB : nb ≠ B) (hbn : base ≤ nb) (x : Value) (hc : w.cell? ⟨nb, no, none⟩ = some x) (hz : w.frozen? ⟨nb, no, none⟩ = false) :
    Calls Try.prog 40 #[.pointer (some ⟨B, 0, none⟩), .pointer (some ⟨nb, no, none⟩)] w fun e w' => e = .returned (.tuple #[]) ∧ TapR w0 base B (numF bad p).2.1 (numF bad p).2.2 w' ∧ RW w w' B ⟨nb, no, none⟩ (.int .i64 (numF bad p).1) := by
  have t1 : w.cell? ⟨B, 1, none⟩ = some (.bool true) := by obtain ⟨pv, ht, -⟩ := h.ht; simp [World.cell?, ht]
  have z2 : w.frozen? ⟨B, 2, none⟩ = false := by obtain ⟨pv, ht, -⟩ := h.ht; simp [World.frozen?, ht]
  have z0 : w.frozen? ⟨B, 0, none⟩ = false := by obtain ⟨pv, ht, -⟩ := h.ht; simp [World.frozen?, ht]
  have t2 : w.cell? ⟨B, 2, none⟩ = some (.bool bad) := by obtain ⟨pv, ht, -⟩ := h.ht; simp [World.cell?, ht]
  obtain ⟨pv, ht, hp, hpb⟩ := h.ht
  obtain ⟨pa, pc, rfl⟩ := Rd.shape hp
  have t0 : w.cell? ⟨B, 0, none⟩ = some (.slice pa p.length pc) := by simp [World.cell?, ht]
  have hpl := Rd.le hp
  have H := Lib.hid h
  have HT := Lib.hid ht
  have HP := Lib.hid hp
  have HPB := Lib.hid hpb
  clear h ht hp hpb
  by_cases h8 : p.length < 8
  · have h8' : (p.length : Int) < 8 := by omega
    rw [numF_short h8]
    go_enter Try.func40, Try.ntmps40
    go_wp2_with fail
    refine bodyPost_ret (results_none rfl _ _ _) rfl ⟨rfl, ?_, ?_⟩
    · exact (H.out.bad true).set ⟨nb, no, none⟩ _ hnB hbn
    · exact ⟨rfl, rfl, rfl, by simp, fun k hk hkB => hs_congr (Below.heap_setCell _ _ _ _ hkB)⟩
  · have h8' : ¬ (p.length : Int) < 8 := by omega
    rw [numF_long h8]
    obtain ⟨⟨va, hva, hra⟩, vd, hvd, hrd, hdb⟩ := slice8 HP.out rfl h8 base HPB.out
    obtain ⟨ab, ao, ac, rfl, hcell⟩ : ∃ ab ao ac, va = .slice (some ⟨ab, ao, none⟩) 8 ac ∧ ∀ j, j < 8 → w.cell? ⟨ab, ao + j, none⟩ = some (.int .u8 (p.getD j 0)) := by
      have hl8 : (p.take 8).length = 8 := by rw [List.length_take]; omega
      rcases hra.split with ⟨_, _, _, h2⟩ | ⟨b, off, c, h1, _, _, _, _, h2⟩
      · rw [h2] at hl8; cases hl8
      · refine ⟨b, off, c, by rw [h1, hl8], fun j hj => ?_⟩
        rw [h2 j (by omega)]
        congr 2
        simp [List.getD_eq_getElem?_getD, List.getElem?_take_of_lt hj, List.getElem?_eq_getElem (show j < p.length by omega)]
    have HC := Lib.hid hcell
    have HD := Lib.hid (And.intro hrd hdb)
    have HOR := Lib.hid (fun j (hj : j < 8) => or_step p j H.out.hB (by omega) hj)
    obtain ⟨qd, ql, qc, rfl⟩ : ∃ a n c, vd = .slice a n c := by obtain ⟨a, c, e⟩ := Rd.shape hrd; exact ⟨_, _, _, e⟩
    clear hcell hra hrd hdb
    go_enter Try.func40, Try.ntmps40
    go_wp2_with fail
    go_loopw [5, 50] (fun x i wr => ∃ j : Nat, j ≤ 8 ∧ i = .int .i64 j ∧ x = .int .i64 (vB p j) ∧ wr = w) (fun _ i _ => 8 - (intOf i).toNat)
    case atStart => exact ⟨0, by omega, rfl, by rw [vB0], rfl⟩
    case round =>
      obtain ⟨j, hj, rfl, rfl, rfl⟩ := hrel
      by_cases hj8 : j < 8
      · have hj8' : (j : Int) < 8 := by omega
        have ho := HOR.out j hj8
        have hc := HC.out j hj8
        obtain ⟨hx0, hx1⟩ := H.out.hB (p.getD j 0) (by have : j < p.length := by omega
                                                       simp [this])
        generalize p.getD j 0 = y at *
        go_wp2_with fail
        exact ⟨⟨j + 1, by omega, by simp, rfl, by first | rfl | trivial⟩, by simp [intOf]; omega⟩
      · have hj0 : j = 8 := by omega
        subst hj0
        have hj8' : ¬ ((8 : Int) < 8) := by omega
        go_wp2_with fail
        refine bodyPost_end (results_none rfl _ _ _) rfl ⟨rfl, ?_, ?_⟩
        · refine (H.out.set ⟨nb, no, none⟩ _ hnB hbn).rest (Rd.keepB HD.out.1 fun hn k _ hk => Below.heap_setCell _ _ _ _ ?_) HD.out.2 (fun y hy => H.out.hB y (List.mem_of_mem_drop hy))
          have := HD.out.2 hn k hk
          show k ≠ nb
          omega
        · exact ⟨rfl, rfl, rfl, by simp, fun k _ hkB => Below.heap_setCell _ _ _ _ hkB⟩
end Go.Proofs.Yteeapfgjjankeaa.Mach

/- The machine's tape, read: an int, a byte. -/
namespace Go.Proofs.Yteeapfgjjankeaa.Mach
open Go.RowKit

theorem RW.behind {w w1 w2 : World} {B n nb no : Nat} {v v' : Value} (h : RW w1 w2 B ⟨n, 0, none⟩ v) (hb : Below w.heap.size w w1) (hn : w.heap.size ≤ n) (hnB : nb ≠ B) (hnw : nb < w.heap.size) : RW w (w2.setCell ⟨nb, no, none⟩ v') B ⟨nb, no, none⟩ v' := by
  have hs := hb.size
  refine ⟨h.os.trans hb.os, h.tape.trans hb.tape, h.output.trans hb.output, by rw [World.size_setCell]; exact Nat.le_trans hs h.size, fun k hk hkB => hs_congr ?_⟩
  rw [h.at_ k (by omega) hkB, Below.heap_setCell _ _ _ _ (by show k ≠ n; omega)]
  exact hb.block k hk
theorem RW.frz {w w' : World} {B nb : Nat} {a : Addr} {v : Value} {c : Array Value} {T : TypeId} (h : RW w w' B a v) (hc : w.heap[nb]? = some (.cells c T (0, 0))) (hnB : nb ≠ B) (ha : a.block ≠ nb) : w'.heap[nb]? = some (.cells c T (0, 0)) := by
  rw [h.at_ nb (Array.getElem?_eq_some_iff.1 hc).1 hnB, Below.heap_setCell _ _ _ _ (Ne.symm ha)]
  exact hc
theorem RW.tapeB {w w' : World} {B i : Nat} {a : Addr} {v u : Value} (h : RW w w' B a v) : RW w (w'.setCell ⟨B, i, none⟩ u) B a v :=
  ⟨h.os, h.tape, h.output, by rw [World.size_setCell]; exact h.size, fun k hk hkB => (Below.heap_setCell _ _ _ _ hkB).trans (h.at_ k hk hkB)⟩
set_option maxRecDepth 100000 in
set_option maxHeartbeats 1000000 in
theorem tplain_r (w0 w : World) (base B : Nat) (bad : Bool) (p : List Int) (h : TapR w0 base B bad p w) (nb no : Nat) (hnB : nb ≠ B) (hbn : base ≤ nb) (c : Array Value) (T : TypeId) (hc : w.heap[nb]? = some (.cells c T (0, 0))) (y : Int) (hx : c[no]? = some (.int .i64 y)) :
    Calls Try.prog 44 #[.pointer (some ⟨B, 0, none⟩), .pointer (some ⟨nb, no, none⟩)] w fun e w' => e = .returned (.tuple #[]) ∧ TapR w0 base B (numF bad p).2.1 (numF bad p).2.2 w' ∧ RW w w' B ⟨nb, no, none⟩ (.int .i64 (numF bad p).1) := by
  have kx : w.cell? ⟨nb, no, none⟩ = some (.int .i64 y) := by simp [World.cell?, hc, hx]
  have hnb : nb < w.heap.size := (Array.getElem?_eq_some_iff.1 hc).1
  have H := Lib.hid h
  have HC := Lib.hid hc
  have HX := Lib.hid hx
  clear h hc hx
  go_enter Try.func44, Try.ntmps44
  go_wp2_with fail
  obtain ⟨w1, hw1⟩ : ∃ w1, w1 = w.alloc (.cells #[.int .i64 y] 2) := ⟨_, rfl⟩
  rw [← hw1]
  have hb1 : Below w.heap.size w w1 := by rw [hw1]; exact (Below.refl _ _).alloc (Nat.le_refl _) _
  have hc1 : w1.heap[w.heap.size]? = some (.cells #[.int .i64 y] 2 (0, 0)) := by rw [hw1]; exact heap_alloc_new _ _
  have hBw : B < w.heap.size := H.out.blkB
  have hbs : base ≤ w.heap.size := by have := H.out.bB; omega
  have H1 := Lib.hid (H.out.later hb1)
  have HB1 := Lib.hid hb1
  have HC1 := Lib.hid hc1
  have g1 : w1.cell? ⟨w.heap.size, 0, none⟩ = some (.int .i64 y) := by simp [World.cell?, hc1]
  have f1 : w1.frozen? ⟨w.heap.size, 0, none⟩ = false := by simp [World.frozen?, hc1]
  clear hw1 hb1 hc1
  refine (tnum_r w0 w1 base B bad p H1.out w.heap.size 0 (by omega) hbs _ g1 f1).mono ?_
  rintro e w2 ⟨rfl, hT2, hW2⟩
  have k2 : w2.cell? ⟨w.heap.size, 0, none⟩ = some (.int .i64 (numF bad p).1) := by
    have e2 := hW2.at_ w.heap.size (Array.getElem?_eq_some_iff.1 HC1.out).1 (by omega)
    rw [heap_set HC1.out] at e2
    simp [World.cell?, e2]
  have hn2 := hW2.frz ((HB1.out.block nb hnb).trans HC.out) hnB (by show w.heap.size ≠ nb; omega)
  have kn2 : w2.cell? ⟨nb, no, none⟩ = some (.int .i64 y) := by simp [World.cell?, hn2, HX.out]
  have zn2 : w2.frozen? ⟨nb, no, none⟩ = false := by simp [World.frozen?, hn2]
  have HT2 := Lib.hid hT2
  have HW2 := Lib.hid hW2
  clear hT2 hW2 hn2
  go_wp2_with fail
  refine bodyPost_end (results_none rfl _ _ _) rfl ⟨rfl, HT2.out.set ⟨nb, no, none⟩ _ hnB hbn, HW2.out.behind HB1.out (Nat.le_refl _) hnB hnb⟩
/-- A byte off the front. -/
def shortF (bad : Bool) (p : List Int) : Int × Bool × List Int := (IntKind.u8.wrap (numF bad p).1, (numF bad p).2.1 || decide ((numF bad p).1 < 0) || decide (255 < (numF bad p).1), (numF bad p).2.2)
set_option maxRecDepth 100000 in
set_option maxHeartbeats 1000000 in
theorem tshort_r (w0 w : World) (base B : Nat) (bad : Bool) (p : List Int) (h : TapR w0 base B bad p w) (nb no : Nat) (hnB : nb ≠ B) (hbn : base ≤ nb) (c : Array Value) (T : TypeId) (hc : w.heap[nb]? = some (.cells c T (0, 0))) (y : Int) (hx : c[no]? = some (.int .u8 y)) :
    Calls Try.prog 42 #[.pointer (some ⟨B, 0, none⟩), .pointer (some ⟨nb, no, none⟩)] w fun e w' => e = .returned (.tuple #[]) ∧ TapR w0 base B (shortF bad p).2.1 (shortF bad p).2.2 w' ∧ RW w w' B ⟨nb, no, none⟩ (.int .u8 (shortF bad p).1) := by
  have kx : w.cell? ⟨nb, no, none⟩ = some (.int .u8 y) := by simp [World.cell?, hc, hx]
  have hnb : nb < w.heap.size := (Array.getElem?_eq_some_iff.1 hc).1
  have H := Lib.hid h
  have HC := Lib.hid hc
  have HX := Lib.hid hx
  clear h hc hx
  go_enter Try.func42, Try.ntmps42
  go_wp2_with fail
  obtain ⟨yy, hyy⟩ : ∃ z, z = wrap64 y := ⟨_, rfl⟩
  rw [← hyy]
  obtain ⟨w1, hw1⟩ : ∃ w1, w1 = w.alloc (.cells #[.int .i64 yy] 2) := ⟨_, rfl⟩
  rw [← hw1]
  have hb1 : Below w.heap.size w w1 := by rw [hw1]; exact (Below.refl _ _).alloc (Nat.le_refl _) _
  have hc1 : w1.heap[w.heap.size]? = some (.cells #[.int .i64 yy] 2 (0, 0)) := by rw [hw1]; exact heap_alloc_new _ _
  have hBw : B < w.heap.size := H.out.blkB
  have hbs : base ≤ w.heap.size := by have := H.out.bB; omega
  have H1 := Lib.hid (H.out.later hb1)
  have HB1 := Lib.hid hb1
  have HC1 := Lib.hid hc1
  have g1 : w1.cell? ⟨w.heap.size, 0, none⟩ = some (.int .i64 yy) := by simp [World.cell?, hc1]
  have f1 : w1.frozen? ⟨w.heap.size, 0, none⟩ = false := by simp [World.frozen?, hc1]
  clear hw1 hb1 hc1 hyy
  refine (tnum_r w0 w1 base B bad p H1.out w.heap.size 0 (by omega) hbs _ g1 f1).mono ?_
  rintro e w2 ⟨rfl, hT2, hW2⟩
  have k2 : w2.cell? ⟨w.heap.size, 0, none⟩ = some (.int .i64 (numF bad p).1) := by
    have e2 := hW2.at_ w.heap.size (Array.getElem?_eq_some_iff.1 HC1.out).1 (by omega)
    rw [heap_set HC1.out] at e2
    simp [World.cell?, e2]
  have hn2 := hW2.frz ((HB1.out.block nb hnb).trans HC.out) hnB (by show w.heap.size ≠ nb; omega)
  have kn2 : w2.cell? ⟨nb, no, none⟩ = some (.int .u8 y) := by simp [World.cell?, hn2, HX.out]
  have zn2 : w2.frozen? ⟨nb, no, none⟩ = false := by simp [World.frozen?, hn2]
  have t22 : w2.cell? ⟨B, 2, none⟩ = some (.bool (numF bad p).2.1) := by obtain ⟨pv, ht, -⟩ := hT2.ht; simp [World.cell?, ht]
  have z22 : w2.frozen? ⟨B, 2, none⟩ = false := by obtain ⟨pv, ht, -⟩ := hT2.ht; simp [World.frozen?, ht]
  have HT2 := Lib.hid hT2
  have HW2 := Lib.hid hW2
  clear hT2 hW2 hn2
  obtain ⟨x, hx⟩ : ∃ x, x = (numF bad p).1 := ⟨_, rfl⟩
  obtain ⟨b2, hb2⟩ : ∃ b, b = (numF bad p).2.1 := ⟨_, rfl⟩
  rw [← hx] at k2
  rw [← hb2] at t22
  have HX2 := Lib.hid hx
  have HBD := Lib.hid hb2
  have HF : Hid (∀ b' : Bool, b' = (b2 || decide (x < 0) || decide (255 < x)) → TapR w0 base B (shortF bad p).2.1 (shortF bad p).2.2 ((w2.setCell ⟨B, 2, none⟩ (.bool b')).setCell ⟨nb, no, none⟩ (.int .u8 (x % 256))) ∧ RW w ((w2.setCell ⟨B, 2, none⟩ (.bool b')).setCell ⟨nb, no, none⟩ (.int .u8 (x % 256))) B ⟨nb, no, none⟩ (.int .u8 (shortF bad p).1)) := by
    rintro b' rfl
    have e : shortF bad p = (x % 256, b2 || decide (x < 0) || decide (255 < x), (numF bad p).2.2) := by rw [shortF, hx, hb2, IntKind.wrap_u8']
    rw [e]
    exact ⟨(HT2.out.bad _).set ⟨nb, no, none⟩ _ hnB hbn, HW2.out.tapeB.behind HB1.out (Nat.le_refl _) hnB hnb⟩
  clear hx hb2
  go_wp2_with fail
  all_goals
    refine bodyPost_end (results_none rfl _ _ _) rfl ⟨rfl, HF.out _ ?_⟩
    simp [*]
end Go.Proofs.Yteeapfgjjankeaa.Mach

/- The machine's tape, read: a list. -/
namespace Go.Proofs.Yteeapfgjjankeaa.Mach
open Go.RowKit

/-- Numbers, one behind the other. -/
def numsF : Nat → Bool → List Int → List Int × Bool × List Int
  | 0, bad, p => ([], bad, p)
  | n + 1, bad, p => ((numsF n bad p).1 ++ [(numF (numsF n bad p).2.1 (numsF n bad p).2.2).1], (numF (numsF n bad p).2.1 (numsF n bad p).2.2).2)
theorem numsF_len (n : Nat) (bad : Bool) (p : List Int) : (numsF n bad p).1.length = n := by
  induction n with
  | zero => rfl
  | succ n ih => simp [numsF, ih]
/-- A list: how many, and they; none: it can't be. -/
def listF (bad : Bool) (p : List Int) : Option (List Int) × Bool × List Int :=
  if (numF bad p).1 < 0 ∨ ((numF bad p).2.2.length / 8 : Nat) < (numF bad p).1 then (none, true, (numF bad p).2.2)
  else (some (numsF (numF bad p).1.toNat (numF bad p).2.1 (numF bad p).2.2).1, (numsF (numF bad p).1.toNat (numF bad p).2.1 (numF bad p).2.2).2)
/-- What a list's reading leaves. -/
def LPost (w0 w : World) (base B nb no : Nat) (old : Value) (bad : Bool) (p : List Int) (w' : World) : Prop :=
  TapR w0 base B (listF bad p).2.1 (listF bad p).2.2 w' ∧ ∃ v', RW w w' B ⟨nb, no, none⟩ v' ∧ ((listF bad p).1 = none → v' = old) ∧ ∀ l, (listF bad p).1 = some l → w'.ownsRow w.heap.size 2 1 v' l.length (intsV l)
/-- Behind j of a list's numbers. -/
structure LLoop (w0 w : World) (base B nb no : Nat) (c : Array Value) (T : TypeId) (G n : Nat) (b1 : Bool) (q : List Int) (j : Nat) (wr : World) : Prop where
  tap : TapR w0 base B (numsF j b1 q).2.1 (numsF j b1 q).2.2 wr
  blk : wr.heap[nb]? = some (.cells (c.setIfInBounds no (.slice (some ⟨G, 0, none⟩) n n)) T (0, 0))
  row : wr.ownsRow w.heap.size 2 1 (.slice (some ⟨G, 0, none⟩) n n) n (intsV ((numsF j b1 q).1 ++ List.replicate (n - j) 0))
  rw_ : RW w wr B ⟨nb, no, none⟩ (.slice (some ⟨G, 0, none⟩) n n)
theorem LLoop.step {w0 w wr w4 : World} {base B nb no : Nat} {c : Array Value} {T : TypeId} {G n : Nat} {b1 : Bool} {q : List Int} {j : Nat} (h : LLoop w0 w base B nb no c T G n b1 q j wr) (hj : j < n) (hnB : nb ≠ B) (hnG : G ≠ nb) (hGB : G ≠ B) (hG : w.heap.size ≤ G)
    (ht : TapR w0 base B (numF (numsF j b1 q).2.1 (numsF j b1 q).2.2).2.1 (numF (numsF j b1 q).2.1 (numsF j b1 q).2.2).2.2 w4) (hw : RW wr w4 B ⟨G, j, none⟩ (.int .i64 (numF (numsF j b1 q).2.1 (numsF j b1 q).2.2).1)) : LLoop w0 w base B nb no c T G n b1 q (j + 1) w4 := by
  have hs := h.rw_.size
  refine ⟨ht, hw.frz h.blk hnB hnG, ?_, ⟨hw.os.trans h.rw_.os, hw.tape.trans h.rw_.tape, hw.output.trans h.rw_.output, Nat.le_trans hs hw.size, fun k hk hkB => ?_⟩⟩
  · have h2 := oset h.row j (.int .i64 (numF (numsF j b1 q).2.1 (numsF j b1 q).2.2).1)
    have h3 : w4.ownsRow w.heap.size 2 1 (.slice (some ⟨G, 0, none⟩) n n) n _ := osame h2 fun k hk => by
      simp only [Value.ownBlock, Option.some.injEq] at hk
      subst hk
      exact hw.at_ G (olt h.row G rfl) hGB
    rw [intsV_set] at h3
    have e : ((numsF j b1 q).1 ++ List.replicate (n - j) 0).set j (numF (numsF j b1 q).2.1 (numsF j b1 q).2.2).1 = (numsF (j + 1) b1 q).1 ++ List.replicate (n - (j + 1)) 0 := by
      obtain ⟨m, hm⟩ : ∃ m, n - j = m + 1 := ⟨n - j - 1, by omega⟩
      have hm2 : n - (j + 1) = m := by omega
      rw [hm, hm2, List.set_append_right _ _ (by rw [numsF_len]; omega), numsF_len, Nat.sub_self]
      simp [numsF, List.replicate_succ]
    rw [e] at h3
    exact h3
  · rw [hw.at_ k (by omega) hkB, Below.heap_setCell _ _ _ _ (by show k ≠ G; omega)]
    exact h.rw_.at_ k hk hkB
set_option maxRecDepth 100000 in
set_option maxHeartbeats 4000000 in
theorem tlist_r (w0 w : World) (base B : Nat) (bad : Bool) (p : List Int) (h : TapR w0 base B bad p w) (nb no : Nat) (hnB : nb ≠ B) (hbn : base ≤ nb) (c : Array Value) (T : TypeId) (hc : w.heap[nb]? = some (.cells c T (0, 0))) (la : Option Addr) (ln lc : Nat) (hln : ln ≤ maxLen) (hx : c[no]? = some (.slice la ln lc)) (hp9 : p.length ≤ 140737488355328) :
    Calls Try.prog 43 #[.pointer (some ⟨B, 0, none⟩), .pointer (some ⟨nb, no, none⟩)] w fun e w' => e = .returned (.tuple #[]) ∧ LPost w0 w base B nb no (.slice la ln lc) bad p w' := by
  have kx : w.cell? ⟨nb, no, none⟩ = some (.slice la ln lc) := by simp [World.cell?, hc, hx]
  have hnb : nb < w.heap.size := (Array.getElem?_eq_some_iff.1 hc).1
  have hln' : ln ≤ 9223372036854775807 := by unfold maxLen at hln; omega
  have H := Lib.hid h
  have HC := Lib.hid hc
  have HX := Lib.hid hx
  clear h hc hx hln
  go_enter Try.func43, Try.ntmps43
  go_wp2_with fail
  obtain ⟨w1, hw1⟩ : ∃ w1, w1 = w.alloc (.cells #[.int .i64 ln] 3) := ⟨_, rfl⟩
  rw [← hw1]
  have hb1 : Below w.heap.size w w1 := by rw [hw1]; exact (Below.refl _ _).alloc (Nat.le_refl _) _
  have hc1 : w1.heap[w.heap.size]? = some (.cells #[.int .i64 ln] 3 (0, 0)) := by rw [hw1]; exact heap_alloc_new _ _
  have hBw : B < w.heap.size := H.out.blkB
  have hbs : base ≤ w.heap.size := by have := H.out.bB; omega
  have H1 := Lib.hid (H.out.later hb1)
  have HB1 := Lib.hid hb1
  have HC1 := Lib.hid hc1
  clear hw1 hb1 hc1
  refine (tplain_r w0 w1 base B bad p H1.out w.heap.size 0 (by omega) hbs _ _ HC1.out ln rfl).mono ?_
  rintro e w2 ⟨rfl, hT2, hW2⟩
  have k2 : w2.cell? ⟨w.heap.size, 0, none⟩ = some (.int .i64 (numF bad p).1) := by
    have e2 := hW2.at_ w.heap.size (Array.getElem?_eq_some_iff.1 HC1.out).1 (by omega)
    rw [heap_set HC1.out] at e2
    simp [World.cell?, e2]
  have hn2 := hW2.frz ((HB1.out.block nb hnb).trans HC.out) hnB (by show w.heap.size ≠ nb; omega)
  have kn2 : w2.cell? ⟨nb, no, none⟩ = some (.slice la ln lc) := by simp [World.cell?, hn2, HX.out]
  have zn2 : w2.frozen? ⟨nb, no, none⟩ = false := by simp [World.frozen?, hn2]
  obtain ⟨pv, ht2, hpv2, -⟩ := hT2.ht
  obtain ⟨pa, pc, rfl⟩ := Rd.shape hpv2
  have t20 : w2.cell? ⟨B, 0, none⟩ = some (.slice pa (numF bad p).2.2.length pc) := by simp [World.cell?, ht2]
  have t21 : w2.cell? ⟨B, 1, none⟩ = some (.bool true) := by simp [World.cell?, ht2]
  have z22 : w2.frozen? ⟨B, 2, none⟩ = false := by simp [World.frozen?, ht2]
  have t22 : w2.cell? ⟨B, 2, none⟩ = some (.bool (numF bad p).2.1) := by simp [World.cell?, ht2]
  have HT2 := Lib.hid hT2
  have HW2 := Lib.hid hW2
  have HN2 := Lib.hid hn2
  clear hT2 hW2 hn2 ht2 hpv2
  obtain ⟨x, hx⟩ : ∃ x, x = (numF bad p).1 := ⟨_, rfl⟩
  obtain ⟨q, hq⟩ : ∃ q, q = (numF bad p).2.2 := ⟨_, rfl⟩
  have hql : q.length ≤ p.length := by rw [hq, numF]; split <;> simp
  have hq9 : q.length ≤ 140737488355328 := by omega
  rw [← hx] at k2
  rw [← hq] at t20
  have HX2 := Lib.hid hx
  have HQ := Lib.hid hq
  have HN : Hid (∀ k, listF bad p = (none, true, q) → LPost w0 w base B nb no (.slice la ln lc) bad p ((w2.drewN k).setCell ⟨B, 2, none⟩ (.bool true))) := by
    intro k he
    rw [LPost, he]
    refine ⟨by have := (HT2.out.later (⟨rfl, rfl, rfl, Nat.le_refl _, fun _ _ => rfl⟩ : Below w2.heap.size w2 (w2.drewN k))).bad true; rw [← hq] at this; exact this, .slice la ln lc, ⟨HW2.out.os.trans HB1.out.os, HW2.out.tape.trans HB1.out.tape, HW2.out.output.trans HB1.out.output, ?_, fun k' hk hkB => ?_⟩, fun _ => rfl, fun l h => by cases h⟩
    · rw [World.size_setCell]; exact Nat.le_trans HB1.out.size HW2.out.size
    · have hs := HB1.out.size
      rw [setCell_id kx, Below.heap_setCell _ _ _ _ hkB]
      show w2.heap[k']? = _
      rw [HW2.out.at_ k' (by omega) hkB, Below.heap_setCell _ _ _ _ (by show k' ≠ w.heap.size; omega)]
      exact HB1.out.block k' hk
  clear hx hq
  by_cases hx0 : x < 0
  · have hx0' : decide (x < 0) = true := decide_eq_true hx0
    have he : listF bad p = (none, true, q) := by rw [listF, if_pos (.inl (by rw [← HX2.out]; exact hx0)), ← HQ.out]
    have HE := Lib.hid he
    clear he
    go_wp2_with fail
    go_quiet (fail)
    go_wp2_with fail
    all_goals exact bodyPost_ret (results_none rfl _ _ _) rfl ⟨rfl, HN.out _ HE.out⟩
  · have hx0' : decide (x < 0) = false := decide_eq_false hx0
    by_cases hx1 : ((q.length / 8 : Nat) : Int) < x
    · have hx1' : decide ((q.length : Int) / 8 < x) = true := decide_eq_true (by omega)
      have he : listF bad p = (none, true, q) := by rw [listF, if_pos (.inr (by rw [← HX2.out, ← HQ.out]; exact hx1)), ← HQ.out]
      have HE := Lib.hid he
      clear hx1 he
      go_wp2_with fail
      go_quiet (fail)
      go_wp2_with fail
      all_goals exact bodyPost_ret (results_none rfl _ _ _) rfl ⟨rfl, HN.out _ HE.out⟩
    · have hx1' : decide ((q.length : Int) / 8 < x) = false := decide_eq_false (by omega)
      obtain ⟨n, rfl⟩ := Int.eq_ofNat_of_zero_le (show 0 ≤ x by omega)
      have hn8 : n ≤ q.length / 8 := by omega
      have hmk : ∀ W : World, (Instr.makeSlice 27 (.int .i64 n) (.int .i64 n)).run Try.prog W = .ok (.slice (some ⟨W.heap.size, 0, none⟩) n n) (W.alloc (.cells (madeCells #[.int .i64 0] n) 2)) := fun W => run_make_row' (P := Try.prog) 27 2 (.int .i64 0) 8 Try.underlying27 info_i64' rfl .i64 .i64 n (by omega) (by omega) W
      have he : listF bad p = (some (numsF n (numF bad p).2.1 q).1, (numsF n (numF bad p).2.1 q).2) := by
        rw [listF, if_neg (by rw [← HX2.out, ← HQ.out]; omega), ← HX2.out, ← HQ.out, Int.toNat_natCast]
      have HE := Lib.hid he
      clear hx1 he HN
      go_wp2_with fail
      go_quiet (fail)
      all_goals
        generalize hw3 : w2.drewN _ = w3
        have hb3 : Below w2.heap.size w2 w3 := by rw [← hw3]; exact ⟨rfl, rfl, rfl, Nat.le_refl _, fun _ _ => rfl⟩
        have k3 : w3.cell? ⟨w.heap.size, 0, none⟩ = some (.int .i64 n) := by rw [← hw3]; exact k2
        have kn3 : w3.cell? ⟨nb, no, none⟩ = some (.slice la ln lc) := by rw [← hw3]; exact kn2
        have zn3 : w3.frozen? ⟨nb, no, none⟩ = false := by rw [← hw3]; exact zn2
        have hl3 : nb < w3.heap.size := by rw [← hw3]; exact (Array.getElem?_eq_some_iff.1 HN2.out).1
        have HB3 := Lib.hid hb3
        clear hw3 hb3
        go_wp2_with fail
      have hl2 : w.heap.size < w2.heap.size := Nat.lt_of_lt_of_le (Array.getElem?_eq_some_iff.1 HC1.out).1 HW2.out.size
      have hs3 := HB3.out.size
      obtain ⟨G, hG⟩ : ∃ G, G = w3.heap.size := ⟨_, rfl⟩
      have HL : Hid (LLoop w0 w base B nb no c T G n (numF bad p).2.1 q 0 ((w3.setCell ⟨nb, no, none⟩ (.slice (some ⟨w3.heap.size, 0, none⟩) n n)).alloc (.cells (madeCells #[.int .i64 0] n) 2))) := by
        have ha : Below w3.heap.size (w3.setCell ⟨nb, no, none⟩ (.slice (some ⟨w3.heap.size, 0, none⟩) n n)) ((w3.setCell ⟨nb, no, none⟩ (.slice (some ⟨w3.heap.size, 0, none⟩) n n)).alloc (.cells (madeCells #[.int .i64 0] n) 2)) := (Below.refl _ _).alloc (by simp) _
        have hz : (w3.setCell ⟨nb, no, none⟩ (.slice (some ⟨w3.heap.size, 0, none⟩) n n)).heap.size = w3.heap.size := by simp
        subst hG
        refine ⟨?_, ?_, ?_, ⟨?_, ?_, ?_, ?_, fun k hk hkB => ?_⟩⟩
        · show TapR w0 base B (numF bad p).2.1 q _
          rw [HQ.out]
          exact ((HT2.out.later HB3.out).set ⟨nb, no, none⟩ _ hnB hbn).later (by rw [hz]; exact ha)
        · rw [ha.block nb hl3, heap_set ((HB3.out.block nb (by omega)).trans HN2.out)]
        · have h3 := made_row (base := w.heap.size) (w3.setCell ⟨nb, no, none⟩ (.slice (some ⟨w3.heap.size, 0, none⟩) n n)) n (by rw [hz]; omega) (by unfold maxLen; omega)
          rw [hz] at h3
          simpa [numsF] using h3
        · exact (HB3.out.os.trans HW2.out.os).trans HB1.out.os
        · exact (HB3.out.tape.trans HW2.out.tape).trans HB1.out.tape
        · exact (HB3.out.output.trans HW2.out.output).trans HB1.out.output
        · rw [World.size_alloc, hz]; omega
        · rw [ha.block k (by omega)]
          refine hs_congr ?_
          rw [HB3.out.block k (by omega), HW2.out.at_ k (by have := HB1.out.size; omega) hkB, Below.heap_setCell _ _ _ _ (by show k ≠ w.heap.size; omega)]
          exact HB1.out.block k hk
      rw [← hG]
      rw [← hG] at HL
      generalize (w3.setCell ⟨nb, no, none⟩ (.slice (some ⟨G, 0, none⟩) n n)).alloc (.cells (madeCells #[.int .i64 0] n) 2) = wl at HL ⊢
      have hGn : G ≠ nb := by omega
      have hGB : G ≠ B := by omega
      have hGw : w.heap.size ≤ G := by omega
      clear k2 kn2 zn2 t20 t21 z22 t22 k3 kn3 zn3 hl3 hG
      go_loopw [39] (fun i wr => ∃ j : Nat, j ≤ n ∧ i = .int .i64 j ∧ Hid (LLoop w0 w base B nb no c T G n (numF bad p).2.1 q j wr)) (fun i _ => n - (intOf i).toNat)
      case atStart => exact ⟨0, by omega, rfl, HL⟩
      case round =>
        obtain ⟨wa, rfl⟩ : ∃ wa : World, wa = wr := ⟨_, rfl⟩
        obtain ⟨j, hj, rfl, HJ⟩ := hrel
        clear HL
        by_cases hjn : j < n
        · have hjn' : (j : Int) < n := by omega
          have kn : wa.cell? ⟨nb, no, none⟩ = some (.slice (some ⟨G, 0, none⟩) n n) := by
            have hno : no < c.size := (Array.getElem?_eq_some_iff.1 HX.out).1
            simp [World.cell?, HJ.out.blk, hno]
          obtain ⟨y, ky⟩ : ∃ y, wa.cell? ⟨G, j, none⟩ = some y := by
            obtain ⟨g, gc, hv, -, -, -, hat⟩ := osplit HJ.out.row (by omega)
            cases hv
            have hlen : j < (intsV ((numsF j (numF bad p).2.1 q).1 ++ List.replicate (n - j) 0)).length := by simp [intsV, numsF_len]; omega
            exact ⟨_, hat j _ (List.getElem?_eq_getElem hlen)⟩
          have kz := ofrz HJ.out.row j
          go_wp2_with fail
          refine (tnum_r w0 wa base B _ _ HJ.out.tap G j hGB (by omega) y ky kz).mono ?_
          rintro e w4 ⟨rfl, hT4, hW4⟩
          have HL4 := Lib.hid (HJ.out.step hjn hnB hGn hGB hGw hT4 hW4)
          clear hT4 hW4 HJ kn ky kz
          go_wp2_with fail
          exact ⟨⟨j + 1, by omega, by simp, HL4⟩, by simp [intOf]; omega⟩
        · obtain rfl : j = n := by omega
          go_wp2_with fail
          refine bodyPost_end (results_none rfl _ _ _) rfl ⟨rfl, ?_⟩
          rw [LPost, HE.out]
          refine ⟨HJ.out.tap, _, HJ.out.rw_, fun h => by simp at h, fun l hl => ?_⟩
          obtain rfl : (numsF j (numF bad p).2.1 q).1 = l := Option.some.inj hl
          have h3 := HJ.out.row
          rw [Nat.sub_self, List.replicate_zero, List.append_nil] at h3
          rw [numsF_len]
          exact h3
end Go.Proofs.Yteeapfgjjankeaa.Mach
