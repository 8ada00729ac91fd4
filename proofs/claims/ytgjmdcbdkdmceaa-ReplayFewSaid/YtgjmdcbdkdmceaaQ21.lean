/- The machine's tape, read: what a number is; one number. -/
import Derived.Test.YtgjmdcbdkdmceaaQ20
import Derived.Test.YtgjmdcbdkdmceaaQ17
import Derived.Deep.QuietTactic
import Derived.BigQuiet
namespace Go.Proofs.Ytgjmdcbdkdmceaa.Mach
open Go.RowKit

/-- The number of the first j bytes. -/
def vB (t : List Int) (j : Nat) : Int := wrap64 (valL (t.take j))
theorem vB0 (t : List Int) : vB t 0 = 0 := by simp [vB, valL, wrap64]
theorem or_step (t : List Int) (j : Nat) (hB : isB t) (hj : j < t.length) (_h8 : j < 8) : bits .or .i64 (vB t j) (wrap64 (t.getD j 0 * 2 ^ (8 * j))) = vB t (j + 1) := by
  have hv := valL_bd (t.take j) (fun x hx => hB x (List.mem_of_mem_take hx))
  have hl : (t.take j).length = j := by rw [List.length_take]; omega
  rw [hl] at hv
  have hx := hB t[j] (List.getElem_mem hj)
  have hg : t.getD j 0 = t[j] := by simp [hj]
  have hs : valL (t.take (j + 1)) = valL (t.take j) + 256 ^ j * t[j] := by
    rw [List.take_succ_eq_append_getElem hj, valL_append, hl]
  unfold vB
  rw [hs, hg]
  generalize valL (t.take j) = v at *
  generalize t[j] = x at *
  show IntKind.i64.wrap ((BitVec.ofInt 64 (wrap64 v) ||| BitVec.ofInt 64 (wrap64 (x * 2 ^ (8 * j)))).toNat : Int) = _
  have hw : ∀ z : Int, BitVec.ofInt 64 (wrap64 z) = BitVec.ofInt 64 z := by
    intro z
    apply BitVec.eq_of_toNat_eq
    simp only [BitVec.toNat_ofInt, wrap64]
    omega
  obtain ⟨V, rfl⟩ := Int.eq_ofNat_of_zero_le hv.1
  obtain ⟨X, rfl⟩ := Int.eq_ofNat_of_zero_le hx.1
  have hV : V < 2 ^ (8 * j) := by
    have : ((256 ^ j : Nat) : Int) = (256 : Int) ^ j := by simp
    rw [Nat.pow_mul]
    have h2 : (2 ^ 8 : Nat) = 256 := by decide
    rw [h2]; omega
  have e1 : ((X : Int) * 2 ^ (8 * j)) = ((2 ^ (8 * j) * X : Nat) : Int) := by simp [Int.mul_comm]
  rw [hw, hw, e1, BitVec.toNat_or]
  have t1 : (BitVec.ofInt 64 (V : Int)).toNat = V % 2 ^ 64 := by simp
  have t2 : (BitVec.ofInt 64 ((2 ^ (8 * j) * X : Nat) : Int)).toNat = (2 ^ (8 * j) * X) % 2 ^ 64 := by
    simp only [BitVec.toNat_ofInt]; generalize 2 ^ (8 * j) * X = Y; omega
  rw [t1, t2, ← Nat.or_mod_two_pow, Nat.or_comm, ← Nat.two_pow_add_eq_or_of_lt hV X, IntKind.wrap_i64]
  have e2 : ((256 : Int) ^ j * (X : Int)) = ((2 ^ (8 * j) * X : Nat) : Int) := by
    rw [Nat.pow_mul]; simp
  rw [e2]
  unfold wrap64
  generalize (2 ^ (8 * j) * X) = Y
  omega
/-- One number off the front; whether something was wrong; what is left. -/
def numF (bad : Bool) (p : List Int) : Int × Bool × List Int := if p.length < 8 then (0, true, p) else (vB p 8, bad, p.drop 8)
theorem numF_short {bad : Bool} {p : List Int} (h : p.length < 8) : numF bad p = (0, true, p) := if_pos h
theorem numF_long {bad : Bool} {p : List Int} (h : ¬ p.length < 8) : numF bad p = (vB p 8, bad, p.drop 8) := if_neg h
theorem hs_congr {w w' : World} {a : Addr} {v : Value} {k : Nat} (h : w.heap[k]? = w'.heap[k]?) : (w.setCell a v).heap[k]? = (w'.setCell a v).heap[k]? := by
  simp only [World.setCell, Array.getElem?_modify, h]
/-- A tape that is read. -/
structure TapR (w0 : World) (base B : Nat) (bad : Bool) (p : List Int) (w : World) : Prop where
  ht : ∃ pv, w.heap[B]? = some (.cells #[pv, .bool true, .bool bad] 96 (0, 0)) ∧ RdB w pv p ∧ (0 < p.length → ∀ k, pv.ownBlock = some k → k < base)
  hB : isB p
  bel : Below base w0 w
  bB : base ≤ B
/-- One place was written, and the tape; there may be more blocks. -/
structure RW (w w' : World) (B : Nat) (a : Addr) (v : Value) : Prop where
  os : w'.os = w.os
  tape : w'.tape = w.tape
  output : w'.output = w.output
  size : w.heap.size ≤ w'.heap.size
  at_ : ∀ k, k < w.heap.size → k ≠ B → w'.heap[k]? = (w.setCell a v).heap[k]?
theorem TapR.blkB {w0 w : World} {base B : Nat} {bad : Bool} {p : List Int} (h : TapR w0 base B bad p w) : B < w.heap.size := by
  obtain ⟨_, h1, _⟩ := h.ht
  exact (Array.getElem?_eq_some_iff.1 h1).1
theorem TapR.later {w0 w w' : World} {base B : Nat} {bad : Bool} {p : List Int} (h : TapR w0 base B bad p w) (hb : Below w.heap.size w w') : TapR w0 base B bad p w' := by
  obtain ⟨pv, h1, h2, h3⟩ := h.ht
  have hB := h.blkB
  exact ⟨⟨pv, (hb.block B hB).trans h1, Rd.later h2 hb, h3⟩, h.hB, h.bel.trans (hb.mono (by have := h.bB; omega)), h.bB⟩
/-- A store at another block. -/
theorem TapR.set {w0 w : World} {base B : Nat} {bad : Bool} {p : List Int} (h : TapR w0 base B bad p w) (a : Addr) (v : Value) (ha : a.block ≠ B) (hb : base ≤ a.block) : TapR w0 base B bad p (w.setCell a v) := by
  obtain ⟨pv, h1, h2, h3⟩ := h.ht
  exact ⟨⟨pv, (Below.heap_setCell _ _ _ _ (Ne.symm ha)).trans h1, Rd.keepB h2 fun hn k _ hk => Below.heap_setCell _ _ _ _ (by have := h3 hn k hk; omega), h3⟩, h.hB, h.bel.setCell hb v, h.bB⟩
/-- The tape's own three. -/
theorem TapR.bad {w0 w : World} {base B : Nat} {bad : Bool} {p : List Int} (h : TapR w0 base B bad p w) (b : Bool) : TapR w0 base B b p (w.setCell ⟨B, 2, none⟩ (.bool b)) := by
  obtain ⟨pv, h1, h2, h3⟩ := h.ht
  exact ⟨⟨pv, by rw [heap_set h1]; simp, Rd.keepB h2 fun hn k _ hk => Below.heap_setCell _ _ _ _ (by have := h3 hn k hk; have := h.bB; show k ≠ B; omega), h3⟩, h.hB, h.bel.setCell h.bB _, h.bB⟩
theorem TapR.rest {w0 w : World} {base B : Nat} {bad : Bool} {p q : List Int} {v : Value} (h : TapR w0 base B bad p w) (hv : RdB w v q) (hq : 0 < q.length → ∀ k, v.ownBlock = some k → k < base) (hB : isB q) : TapR w0 base B bad q (w.setCell ⟨B, 0, none⟩ v) := by
  obtain ⟨pv, h1, _, _⟩ := h.ht
  exact ⟨⟨v, by rw [heap_set h1]; simp, Rd.keepB hv fun hn k _ hk => Below.heap_setCell _ _ _ _ (by have := hq hn k hk; have := h.bB; show k ≠ B; omega), hq⟩, hB, h.bel.setCell h.bB _, h.bB⟩
theorem slice8 {w : World} {pa : Option Addr} {n pc : Nat} {p : List Int} (hv : RdB w (.slice pa n pc) p) (hn : n = p.length) (h8 : ¬ p.length < 8) (base : Nat) (hb : 0 < p.length → ∀ k, (Value.slice pa n pc).ownBlock = some k → k < base) :
    (∃ va, (∀ W : World, (Instr.slice 24 (.slice pa n pc) none (some (.int .i64 8)) none).run Try.prog W = .ok va W) ∧ RdB w va (p.take 8)) ∧
    (∃ va, (∀ W : World, (Instr.slice 24 (.slice pa n pc) (some (.int .i64 8)) none none).run Try.prog W = .ok va W) ∧ RdB w va (p.drop 8) ∧ (0 < (p.drop 8).length → ∀ k, va.ownBlock = some k → k < base)) := by
  subst hn
  obtain ⟨i1, a1, a2, a3, a4⟩ := info_u8
  have hcap : p.length ≤ pc := by
    rcases hv.2 with ⟨e, h0⟩ | ⟨a, cap, e, h1, _, _⟩
    · omega
    · cases e; exact h1
  constructor
  · refine ⟨_, fun W => run_slice_to 24 5 Try.underlying24 a1 a3 _ _ _ 8 8 (by omega) (by omega) W, ?_⟩
    have := Rd.take (k := 8) hv (by omega)
    unfold RdB
    rw [List.length_take, List.map_take, Nat.min_eq_left (by omega)]
    simpa using this
  · refine ⟨_, fun W => run_slice_from 24 5 Try.underlying24 a1 a3 _ _ _ 8 8 (by omega) (by omega) W, ?_, fun _ k hk => ?_⟩
    · have := rdB_mid (l := 8) (h := p.length) hv rfl (by omega) (by omega)
      rw [List.take_of_length_le (Nat.le_refl _)] at this
      exact this
    · refine hb (by omega) k ?_
      cases pa with
      | none => simp [Value.ownBlock] at hk
      | some a =>
        have e : ∀ (x : Option Addr), (x = some a ∨ x = some (a.add (8 * 1))) → (Value.slice x (p.length - 8) (pc - 8)).ownBlock = some k → (Value.slice (some a) p.length pc).ownBlock = some k := by
          rintro x (rfl | rfl) h <;> simpa [Value.ownBlock, Addr.add] using h
        refine e _ ?_ hk
        split
        · exact .inl rfl
        · exact .inr rfl
set_option maxRecDepth 100000 in
set_option maxHeartbeats 1000000 in
theorem tnum_r (w0 w : World) (base B : Nat) (bad : Bool) (p : List Int) (h : TapR w0 base B bad p w) (nb no : Nat) (hnB : nb ≠ B) (hbn : base ≤ nb) (x : Value) (hc : w.cell? ⟨nb, no, none⟩ = some x) (hz : w.frozen? ⟨nb, no, none⟩ = false) :
    Calls Try.prog 64 #[.pointer (some ⟨B, 0, none⟩), .pointer (some ⟨nb, no, none⟩)] w fun e w' => e = .returned (.tuple #[]) ∧ TapR w0 base B (numF bad p).2.1 (numF bad p).2.2 w' ∧ RW w w' B ⟨nb, no, none⟩ (.int .i64 (numF bad p).1) := by
  have t1 : w.cell? ⟨B, 1, none⟩ = some (.bool true) := by obtain ⟨pv, ht, -⟩ := h.ht; simp [World.cell?, ht]
  have z2 : w.frozen? ⟨B, 2, none⟩ = false := by obtain ⟨pv, ht, -⟩ := h.ht; simp [World.frozen?, ht]
  have z0 : w.frozen? ⟨B, 0, none⟩ = false := by obtain ⟨pv, ht, -⟩ := h.ht; simp [World.frozen?, ht]
  have t2 : w.cell? ⟨B, 2, none⟩ = some (.bool bad) := by obtain ⟨pv, ht, -⟩ := h.ht; simp [World.cell?, ht]
  obtain ⟨pv, ht, hp, hpb⟩ := h.ht
  obtain ⟨pa, pc, rfl⟩ := Rd.shape hp
  have t0 : w.cell? ⟨B, 0, none⟩ = some (.slice pa p.length pc) := by simp [World.cell?, ht]
  have hpl := Rd.le hp
  have H := Lib.hid h
  have HT := Lib.hid ht
  have HP := Lib.hid hp
  have HPB := Lib.hid hpb
  clear h ht hp hpb
  by_cases h8 : p.length < 8
  · have h8' : (p.length : Int) < 8 := by omega
    rw [numF_short h8]
    go_enter Try.func64, Try.ntmps64
    go_wp2_with fail
    refine bodyPost_ret (results_none rfl _ _ _) rfl ⟨rfl, ?_, ?_⟩
    · exact (H.out.bad true).set ⟨nb, no, none⟩ _ hnB hbn
    · exact ⟨rfl, rfl, rfl, by simp, fun k hk hkB => hs_congr (Below.heap_setCell _ _ _ _ hkB)⟩
  · have h8' : ¬ (p.length : Int) < 8 := by omega
    rw [numF_long h8]
    obtain ⟨⟨va, hva, hra⟩, vd, hvd, hrd, hdb⟩ := slice8 HP.out rfl h8 base HPB.out
    obtain ⟨ab, ao, ac, rfl, hcell⟩ : ∃ ab ao ac, va = .slice (some ⟨ab, ao, none⟩) 8 ac ∧ ∀ j, j < 8 → w.cell? ⟨ab, ao + j, none⟩ = some (.int .u8 (p.getD j 0)) := by
      have hl8 : (p.take 8).length = 8 := by rw [List.length_take]; omega
      rcases hra.split with ⟨_, _, _, h2⟩ | ⟨b, off, c, h1, _, _, _, _, h2⟩
      · rw [h2] at hl8; cases hl8
      · refine ⟨b, off, c, by rw [h1, hl8], fun j hj => ?_⟩
        rw [h2 j (by omega)]
        congr 2
        simp [List.getD_eq_getElem?_getD, List.getElem?_take_of_lt hj, List.getElem?_eq_getElem (show j < p.length by omega)]
    have HC := Lib.hid hcell
    have HD := Lib.hid (And.intro hrd hdb)
    have HOR := Lib.hid (fun j (hj : j < 8) => or_step p j H.out.hB (by omega) hj)
    obtain ⟨qd, ql, qc, rfl⟩ : ∃ a n c, vd = .slice a n c := by obtain ⟨a, c, e⟩ := Rd.shape hrd; exact ⟨_, _, _, e⟩
    clear hcell hra hrd hdb
    go_enter Try.func64, Try.ntmps64
    go_wp2_with fail
    go_loopw [5, 50] (fun x i wr => ∃ j : Nat, j ≤ 8 ∧ i = .int .i64 j ∧ x = .int .i64 (vB p j) ∧ wr = w) (fun _ i _ => 8 - (intOf i).toNat)
    case atStart => exact ⟨0, by omega, rfl, by rw [vB0], rfl⟩
    case round =>
      obtain ⟨j, hj, rfl, rfl, rfl⟩ := hrel
      by_cases hj8 : j < 8
      · have hj8' : (j : Int) < 8 := by omega
        have ho := HOR.out j hj8
        have hc := HC.out j hj8
        obtain ⟨hx0, hx1⟩ := H.out.hB (p.getD j 0) (by have : j < p.length := by omega
                                                       simp [this])
        generalize p.getD j 0 = y at *
        go_wp2_with fail
        exact ⟨⟨j + 1, by omega, by simp, rfl, by first | rfl | trivial⟩, by simp [intOf]; omega⟩
      · have hj0 : j = 8 := by omega
        subst hj0
        have hj8' : ¬ ((8 : Int) < 8) := by omega
        go_wp2_with fail
        refine bodyPost_end (results_none rfl _ _ _) rfl ⟨rfl, ?_, ?_⟩
        · refine (H.out.set ⟨nb, no, none⟩ _ hnB hbn).rest (Rd.keepB HD.out.1 fun hn k _ hk => Below.heap_setCell _ _ _ _ ?_) HD.out.2 (fun y hy => H.out.hB y (List.mem_of_mem_drop hy))
          have := HD.out.2 hn k hk
          show k ≠ nb
          omega
        · exact ⟨rfl, rfl, rfl, by simp, fun k _ hkB => Below.heap_setCell _ _ _ _ hkB⟩
end Go.Proofs.Ytgjmdcbdkdmceaa.Mach

/- The machine's tape, read: an int, a byte. -/
namespace Go.Proofs.Ytgjmdcbdkdmceaa.Mach
open Go.RowKit

theorem RW.behind {w w1 w2 : World} {B n nb no : Nat} {v v' : Value} (h : RW w1 w2 B ⟨n, 0, none⟩ v) (hb : Below w.heap.size w w1) (hn : w.heap.size ≤ n) (_hnB : nb ≠ B) (_hnw : nb < w.heap.size) : RW w (w2.setCell ⟨nb, no, none⟩ v') B ⟨nb, no, none⟩ v' := by
  have hs := hb.size
  refine ⟨h.os.trans hb.os, h.tape.trans hb.tape, h.output.trans hb.output, by rw [World.size_setCell]; exact Nat.le_trans hs h.size, fun k hk hkB => hs_congr ?_⟩
  rw [h.at_ k (by omega) hkB, Below.heap_setCell _ _ _ _ (by show k ≠ n; omega)]
  exact hb.block k hk
theorem RW.frz {w w' : World} {B nb : Nat} {a : Addr} {v : Value} {c : Array Value} {T : TypeId} (h : RW w w' B a v) (hc : w.heap[nb]? = some (.cells c T (0, 0))) (hnB : nb ≠ B) (ha : a.block ≠ nb) : w'.heap[nb]? = some (.cells c T (0, 0)) := by
  rw [h.at_ nb (Array.getElem?_eq_some_iff.1 hc).1 hnB, Below.heap_setCell _ _ _ _ (Ne.symm ha)]
  exact hc
theorem RW.tapeB {w w' : World} {B i : Nat} {a : Addr} {v u : Value} (h : RW w w' B a v) : RW w (w'.setCell ⟨B, i, none⟩ u) B a v :=
  ⟨h.os, h.tape, h.output, by rw [World.size_setCell]; exact h.size, fun k hk hkB => (Below.heap_setCell _ _ _ _ hkB).trans (h.at_ k hk hkB)⟩
set_option maxRecDepth 100000 in
set_option maxHeartbeats 1000000 in
theorem tplain_r (w0 w : World) (base B : Nat) (bad : Bool) (p : List Int) (h : TapR w0 base B bad p w) (nb no : Nat) (hnB : nb ≠ B) (hbn : base ≤ nb) (c : Array Value) (T : TypeId) (hc : w.heap[nb]? = some (.cells c T (0, 0))) (y : Int) (hx : c[no]? = some (.int .i64 y)) :
    Calls Try.prog 68 #[.pointer (some ⟨B, 0, none⟩), .pointer (some ⟨nb, no, none⟩)] w fun e w' => e = .returned (.tuple #[]) ∧ TapR w0 base B (numF bad p).2.1 (numF bad p).2.2 w' ∧ RW w w' B ⟨nb, no, none⟩ (.int .i64 (numF bad p).1) := by
  have kx : w.cell? ⟨nb, no, none⟩ = some (.int .i64 y) := by simp [World.cell?, hc, hx]
  have hnb : nb < w.heap.size := (Array.getElem?_eq_some_iff.1 hc).1
  have H := Lib.hid h
  have HC := Lib.hid hc
  have HX := Lib.hid hx
  clear h hc hx
  go_enter Try.func68, Try.ntmps68
  go_wp2_with fail
  obtain ⟨w1, hw1⟩ : ∃ w1, w1 = w.alloc (.cells #[.int .i64 y] 2) := ⟨_, rfl⟩
  rw [← hw1]
  have hb1 : Below w.heap.size w w1 := by rw [hw1]; exact (Below.refl _ _).alloc (Nat.le_refl _) _
  have hc1 : w1.heap[w.heap.size]? = some (.cells #[.int .i64 y] 2 (0, 0)) := by rw [hw1]; exact heap_alloc_new _ _
  have hBw : B < w.heap.size := H.out.blkB
  have hbs : base ≤ w.heap.size := by have := H.out.bB; omega
  have H1 := Lib.hid (H.out.later hb1)
  have HB1 := Lib.hid hb1
  have HC1 := Lib.hid hc1
  have g1 : w1.cell? ⟨w.heap.size, 0, none⟩ = some (.int .i64 y) := by simp [World.cell?, hc1]
  have f1 : w1.frozen? ⟨w.heap.size, 0, none⟩ = false := by simp [World.frozen?, hc1]
  clear hw1 hb1 hc1
  refine (tnum_r w0 w1 base B bad p H1.out w.heap.size 0 (by omega) hbs _ g1 f1).mono ?_
  rintro e w2 ⟨rfl, hT2, hW2⟩
  have k2 : w2.cell? ⟨w.heap.size, 0, none⟩ = some (.int .i64 (numF bad p).1) := by
    have e2 := hW2.at_ w.heap.size (Array.getElem?_eq_some_iff.1 HC1.out).1 (by omega)
    rw [heap_set HC1.out] at e2
    simp [World.cell?, e2]
  have hn2 := hW2.frz ((HB1.out.block nb hnb).trans HC.out) hnB (by show w.heap.size ≠ nb; omega)
  have kn2 : w2.cell? ⟨nb, no, none⟩ = some (.int .i64 y) := by simp [World.cell?, hn2, HX.out]
  have zn2 : w2.frozen? ⟨nb, no, none⟩ = false := by simp [World.frozen?, hn2]
  have HT2 := Lib.hid hT2
  have HW2 := Lib.hid hW2
  clear hT2 hW2 hn2
  go_wp2_with fail
  refine bodyPost_end (results_none rfl _ _ _) rfl ⟨rfl, HT2.out.set ⟨nb, no, none⟩ _ hnB hbn, HW2.out.behind HB1.out (Nat.le_refl _) hnB hnb⟩
/-- A byte off the front. -/
def shortF (bad : Bool) (p : List Int) : Int × Bool × List Int := (IntKind.u8.wrap (numF bad p).1, (numF bad p).2.1 || decide ((numF bad p).1 < 0) || decide (255 < (numF bad p).1), (numF bad p).2.2)
set_option maxRecDepth 100000 in
set_option maxHeartbeats 1000000 in
theorem tshort_r (w0 w : World) (base B : Nat) (bad : Bool) (p : List Int) (h : TapR w0 base B bad p w) (nb no : Nat) (hnB : nb ≠ B) (hbn : base ≤ nb) (c : Array Value) (T : TypeId) (hc : w.heap[nb]? = some (.cells c T (0, 0))) (y : Int) (hx : c[no]? = some (.int .u8 y)) :
    Calls Try.prog 66 #[.pointer (some ⟨B, 0, none⟩), .pointer (some ⟨nb, no, none⟩)] w fun e w' => e = .returned (.tuple #[]) ∧ TapR w0 base B (shortF bad p).2.1 (shortF bad p).2.2 w' ∧ RW w w' B ⟨nb, no, none⟩ (.int .u8 (shortF bad p).1) := by
  have kx : w.cell? ⟨nb, no, none⟩ = some (.int .u8 y) := by simp [World.cell?, hc, hx]
  have hnb : nb < w.heap.size := (Array.getElem?_eq_some_iff.1 hc).1
  have H := Lib.hid h
  have HC := Lib.hid hc
  have HX := Lib.hid hx
  clear h hc hx
  go_enter Try.func66, Try.ntmps66
  go_wp2_with fail
  obtain ⟨yy, hyy⟩ : ∃ z, z = wrap64 y := ⟨_, rfl⟩
  rw [← hyy]
  obtain ⟨w1, hw1⟩ : ∃ w1, w1 = w.alloc (.cells #[.int .i64 yy] 2) := ⟨_, rfl⟩
  rw [← hw1]
  have hb1 : Below w.heap.size w w1 := by rw [hw1]; exact (Below.refl _ _).alloc (Nat.le_refl _) _
  have hc1 : w1.heap[w.heap.size]? = some (.cells #[.int .i64 yy] 2 (0, 0)) := by rw [hw1]; exact heap_alloc_new _ _
  have hBw : B < w.heap.size := H.out.blkB
  have hbs : base ≤ w.heap.size := by have := H.out.bB; omega
  have H1 := Lib.hid (H.out.later hb1)
  have HB1 := Lib.hid hb1
  have HC1 := Lib.hid hc1
  have g1 : w1.cell? ⟨w.heap.size, 0, none⟩ = some (.int .i64 yy) := by simp [World.cell?, hc1]
  have f1 : w1.frozen? ⟨w.heap.size, 0, none⟩ = false := by simp [World.frozen?, hc1]
  clear hw1 hb1 hc1 hyy
  refine (tnum_r w0 w1 base B bad p H1.out w.heap.size 0 (by omega) hbs _ g1 f1).mono ?_
  rintro e w2 ⟨rfl, hT2, hW2⟩
  have k2 : w2.cell? ⟨w.heap.size, 0, none⟩ = some (.int .i64 (numF bad p).1) := by
    have e2 := hW2.at_ w.heap.size (Array.getElem?_eq_some_iff.1 HC1.out).1 (by omega)
    rw [heap_set HC1.out] at e2
    simp [World.cell?, e2]
  have hn2 := hW2.frz ((HB1.out.block nb hnb).trans HC.out) hnB (by show w.heap.size ≠ nb; omega)
  have kn2 : w2.cell? ⟨nb, no, none⟩ = some (.int .u8 y) := by simp [World.cell?, hn2, HX.out]
  have zn2 : w2.frozen? ⟨nb, no, none⟩ = false := by simp [World.frozen?, hn2]
  have t22 : w2.cell? ⟨B, 2, none⟩ = some (.bool (numF bad p).2.1) := by obtain ⟨pv, ht, -⟩ := hT2.ht; simp [World.cell?, ht]
  have z22 : w2.frozen? ⟨B, 2, none⟩ = false := by obtain ⟨pv, ht, -⟩ := hT2.ht; simp [World.frozen?, ht]
  have HT2 := Lib.hid hT2
  have HW2 := Lib.hid hW2
  clear hT2 hW2 hn2
  obtain ⟨x, hx⟩ : ∃ x, x = (numF bad p).1 := ⟨_, rfl⟩
  obtain ⟨b2, hb2⟩ : ∃ b, b = (numF bad p).2.1 := ⟨_, rfl⟩
  rw [← hx] at k2
  rw [← hb2] at t22
  have HX2 := Lib.hid hx
  have HBD := Lib.hid hb2
  have HF : Hid (∀ b' : Bool, b' = (b2 || decide (x < 0) || decide (255 < x)) → TapR w0 base B (shortF bad p).2.1 (shortF bad p).2.2 ((w2.setCell ⟨B, 2, none⟩ (.bool b')).setCell ⟨nb, no, none⟩ (.int .u8 (x % 256))) ∧ RW w ((w2.setCell ⟨B, 2, none⟩ (.bool b')).setCell ⟨nb, no, none⟩ (.int .u8 (x % 256))) B ⟨nb, no, none⟩ (.int .u8 (shortF bad p).1)) := by
    rintro b' rfl
    have e : shortF bad p = (x % 256, b2 || decide (x < 0) || decide (255 < x), (numF bad p).2.2) := by rw [shortF, hx, hb2, IntKind.wrap_u8']
    rw [e]
    exact ⟨(HT2.out.bad _).set ⟨nb, no, none⟩ _ hnB hbn, HW2.out.tapeB.behind HB1.out (Nat.le_refl _) hnB hnb⟩
  clear hx hb2
  go_wp2_with fail
  all_goals
    refine bodyPost_end (results_none rfl _ _ _) rfl ⟨rfl, HF.out _ ?_⟩
    simp [*]
end Go.Proofs.Ytgjmdcbdkdmceaa.Mach

/- The machine's tape, read: a list. -/
namespace Go.Proofs.Ytgjmdcbdkdmceaa.Mach
open Go.RowKit

/-- Numbers, one behind the other. -/
def numsF : Nat → Bool → List Int → List Int × Bool × List Int
  | 0, bad, p => ([], bad, p)
  | n + 1, bad, p => ((numsF n bad p).1 ++ [(numF (numsF n bad p).2.1 (numsF n bad p).2.2).1], (numF (numsF n bad p).2.1 (numsF n bad p).2.2).2)
theorem numsF_len (n : Nat) (bad : Bool) (p : List Int) : (numsF n bad p).1.length = n := by
  induction n with
  | zero => rfl
  | succ n ih => simp [numsF, ih]
/-- A list: how many, and they; none: it can't be. -/
def listF (bad : Bool) (p : List Int) : Option (List Int) × Bool × List Int :=
  if (numF bad p).1 < 0 ∨ ((numF bad p).2.2.length / 8 : Nat) < (numF bad p).1 then (none, true, (numF bad p).2.2)
  else (some (numsF (numF bad p).1.toNat (numF bad p).2.1 (numF bad p).2.2).1, (numsF (numF bad p).1.toNat (numF bad p).2.1 (numF bad p).2.2).2)
/-- What a list's reading leaves. -/
def LPost (w0 w : World) (base B nb no : Nat) (old : Value) (bad : Bool) (p : List Int) (w' : World) : Prop :=
  TapR w0 base B (listF bad p).2.1 (listF bad p).2.2 w' ∧ ∃ v', RW w w' B ⟨nb, no, none⟩ v' ∧ ((listF bad p).1 = none → v' = old) ∧ ∀ l, (listF bad p).1 = some l → w'.ownsRow w.heap.size 2 1 v' l.length (intsV l)
/-- Behind j of a list's numbers. -/
structure LLoop (w0 w : World) (base B nb no : Nat) (c : Array Value) (T : TypeId) (G n : Nat) (b1 : Bool) (q : List Int) (j : Nat) (wr : World) : Prop where
  tap : TapR w0 base B (numsF j b1 q).2.1 (numsF j b1 q).2.2 wr
  blk : wr.heap[nb]? = some (.cells (c.setIfInBounds no (.slice (some ⟨G, 0, none⟩) n n)) T (0, 0))
  row : wr.ownsRow w.heap.size 2 1 (.slice (some ⟨G, 0, none⟩) n n) n (intsV ((numsF j b1 q).1 ++ List.replicate (n - j) 0))
  rw_ : RW w wr B ⟨nb, no, none⟩ (.slice (some ⟨G, 0, none⟩) n n)
theorem LLoop.step {w0 w wr w4 : World} {base B nb no : Nat} {c : Array Value} {T : TypeId} {G n : Nat} {b1 : Bool} {q : List Int} {j : Nat} (h : LLoop w0 w base B nb no c T G n b1 q j wr) (hj : j < n) (hnB : nb ≠ B) (hnG : G ≠ nb) (hGB : G ≠ B) (hG : w.heap.size ≤ G)
    (ht : TapR w0 base B (numF (numsF j b1 q).2.1 (numsF j b1 q).2.2).2.1 (numF (numsF j b1 q).2.1 (numsF j b1 q).2.2).2.2 w4) (hw : RW wr w4 B ⟨G, j, none⟩ (.int .i64 (numF (numsF j b1 q).2.1 (numsF j b1 q).2.2).1)) : LLoop w0 w base B nb no c T G n b1 q (j + 1) w4 := by
  have hs := h.rw_.size
  refine ⟨ht, hw.frz h.blk hnB hnG, ?_, ⟨hw.os.trans h.rw_.os, hw.tape.trans h.rw_.tape, hw.output.trans h.rw_.output, Nat.le_trans hs hw.size, fun k hk hkB => ?_⟩⟩
  · have h2 := oset h.row j (.int .i64 (numF (numsF j b1 q).2.1 (numsF j b1 q).2.2).1)
    have h3 : w4.ownsRow w.heap.size 2 1 (.slice (some ⟨G, 0, none⟩) n n) n _ := osame h2 fun k hk => by
      simp only [Value.ownBlock, Option.some.injEq] at hk
      subst hk
      exact hw.at_ G (olt h.row G rfl) hGB
    rw [intsV_set] at h3
    have e : ((numsF j b1 q).1 ++ List.replicate (n - j) 0).set j (numF (numsF j b1 q).2.1 (numsF j b1 q).2.2).1 = (numsF (j + 1) b1 q).1 ++ List.replicate (n - (j + 1)) 0 := by
      obtain ⟨m, hm⟩ : ∃ m, n - j = m + 1 := ⟨n - j - 1, by omega⟩
      have hm2 : n - (j + 1) = m := by omega
      rw [hm, hm2, List.set_append_right _ _ (by rw [numsF_len]; omega), numsF_len, Nat.sub_self]
      simp [numsF, List.replicate_succ]
    rw [e] at h3
    exact h3
  · rw [hw.at_ k (by omega) hkB, Below.heap_setCell _ _ _ _ (by show k ≠ G; omega)]
    exact h.rw_.at_ k hk hkB
set_option maxRecDepth 100000 in
set_option maxHeartbeats 4000000 in
theorem tlist_r (w0 w : World) (base B : Nat) (bad : Bool) (p : List Int) (h : TapR w0 base B bad p w) (nb no : Nat) (hnB : nb ≠ B) (hbn : base ≤ nb) (c : Array Value) (T : TypeId) (hc : w.heap[nb]? = some (.cells c T (0, 0))) (la : Option Addr) (ln lc : Nat) (hln : ln ≤ maxLen) (hx : c[no]? = some (.slice la ln lc)) (hp9 : p.length ≤ 140737488355328) :
    Calls Try.prog 67 #[.pointer (some ⟨B, 0, none⟩), .pointer (some ⟨nb, no, none⟩)] w fun e w' => e = .returned (.tuple #[]) ∧ LPost w0 w base B nb no (.slice la ln lc) bad p w' := by
  have kx : w.cell? ⟨nb, no, none⟩ = some (.slice la ln lc) := by simp [World.cell?, hc, hx]
  have hnb : nb < w.heap.size := (Array.getElem?_eq_some_iff.1 hc).1
  have hln' : ln ≤ 9223372036854775807 := by unfold maxLen at hln; omega
  have H := Lib.hid h
  have HC := Lib.hid hc
  have HX := Lib.hid hx
  clear h hc hx hln
  go_enter Try.func67, Try.ntmps67
  go_wp2_with fail
  obtain ⟨w1, hw1⟩ : ∃ w1, w1 = w.alloc (.cells #[.int .i64 ln] 3) := ⟨_, rfl⟩
  rw [← hw1]
  have hb1 : Below w.heap.size w w1 := by rw [hw1]; exact (Below.refl _ _).alloc (Nat.le_refl _) _
  have hc1 : w1.heap[w.heap.size]? = some (.cells #[.int .i64 ln] 3 (0, 0)) := by rw [hw1]; exact heap_alloc_new _ _
  have hBw : B < w.heap.size := H.out.blkB
  have hbs : base ≤ w.heap.size := by have := H.out.bB; omega
  have H1 := Lib.hid (H.out.later hb1)
  have HB1 := Lib.hid hb1
  have HC1 := Lib.hid hc1
  clear hw1 hb1 hc1
  refine (tplain_r w0 w1 base B bad p H1.out w.heap.size 0 (by omega) hbs _ _ HC1.out ln rfl).mono ?_
  rintro e w2 ⟨rfl, hT2, hW2⟩
  have k2 : w2.cell? ⟨w.heap.size, 0, none⟩ = some (.int .i64 (numF bad p).1) := by
    have e2 := hW2.at_ w.heap.size (Array.getElem?_eq_some_iff.1 HC1.out).1 (by omega)
    rw [heap_set HC1.out] at e2
    simp [World.cell?, e2]
  have hn2 := hW2.frz ((HB1.out.block nb hnb).trans HC.out) hnB (by show w.heap.size ≠ nb; omega)
  have kn2 : w2.cell? ⟨nb, no, none⟩ = some (.slice la ln lc) := by simp [World.cell?, hn2, HX.out]
  have zn2 : w2.frozen? ⟨nb, no, none⟩ = false := by simp [World.frozen?, hn2]
  obtain ⟨pv, ht2, hpv2, -⟩ := hT2.ht
  obtain ⟨pa, pc, rfl⟩ := Rd.shape hpv2
  have t20 : w2.cell? ⟨B, 0, none⟩ = some (.slice pa (numF bad p).2.2.length pc) := by simp [World.cell?, ht2]
  have t21 : w2.cell? ⟨B, 1, none⟩ = some (.bool true) := by simp [World.cell?, ht2]
  have z22 : w2.frozen? ⟨B, 2, none⟩ = false := by simp [World.frozen?, ht2]
  have t22 : w2.cell? ⟨B, 2, none⟩ = some (.bool (numF bad p).2.1) := by simp [World.cell?, ht2]
  have HT2 := Lib.hid hT2
  have HW2 := Lib.hid hW2
  have HN2 := Lib.hid hn2
  clear hT2 hW2 hn2 ht2 hpv2
  obtain ⟨x, hx⟩ : ∃ x, x = (numF bad p).1 := ⟨_, rfl⟩
  obtain ⟨q, hq⟩ : ∃ q, q = (numF bad p).2.2 := ⟨_, rfl⟩
  have hql : q.length ≤ p.length := by rw [hq, numF]; split <;> simp
  have hq9 : q.length ≤ 140737488355328 := by omega
  rw [← hx] at k2
  rw [← hq] at t20
  have HX2 := Lib.hid hx
  have HQ := Lib.hid hq
  have HN : Hid (∀ k, listF bad p = (none, true, q) → LPost w0 w base B nb no (.slice la ln lc) bad p ((w2.drewN k).setCell ⟨B, 2, none⟩ (.bool true))) := by
    intro k he
    rw [LPost, he]
    refine ⟨by have := (HT2.out.later (⟨rfl, rfl, rfl, Nat.le_refl _, fun _ _ => rfl⟩ : Below w2.heap.size w2 (w2.drewN k))).bad true; rw [← hq] at this; exact this, .slice la ln lc, ⟨HW2.out.os.trans HB1.out.os, HW2.out.tape.trans HB1.out.tape, HW2.out.output.trans HB1.out.output, ?_, fun k' hk hkB => ?_⟩, fun _ => rfl, fun l h => by cases h⟩
    · rw [World.size_setCell]; exact Nat.le_trans HB1.out.size HW2.out.size
    · have hs := HB1.out.size
      rw [setCell_id kx, Below.heap_setCell _ _ _ _ hkB]
      show w2.heap[k']? = _
      rw [HW2.out.at_ k' (by omega) hkB, Below.heap_setCell _ _ _ _ (by show k' ≠ w.heap.size; omega)]
      exact HB1.out.block k' hk
  clear hx hq
  by_cases hx0 : x < 0
  · have hx0' : decide (x < 0) = true := decide_eq_true hx0
    have he : listF bad p = (none, true, q) := by rw [listF, if_pos (.inl (by rw [← HX2.out]; exact hx0)), ← HQ.out]
    have HE := Lib.hid he
    clear he
    go_wp2_with fail
    go_quiet (fail)
    go_wp2_with fail
    all_goals exact bodyPost_ret (results_none rfl _ _ _) rfl ⟨rfl, HN.out _ HE.out⟩
  · have hx0' : decide (x < 0) = false := decide_eq_false hx0
    by_cases hx1 : ((q.length / 8 : Nat) : Int) < x
    · have hx1' : decide ((q.length : Int) / 8 < x) = true := decide_eq_true (by omega)
      have he : listF bad p = (none, true, q) := by rw [listF, if_pos (.inr (by rw [← HX2.out, ← HQ.out]; exact hx1)), ← HQ.out]
      have HE := Lib.hid he
      clear hx1 he
      go_wp2_with fail
      go_quiet (fail)
      go_wp2_with fail
      all_goals exact bodyPost_ret (results_none rfl _ _ _) rfl ⟨rfl, HN.out _ HE.out⟩
    · have hx1' : decide ((q.length : Int) / 8 < x) = false := decide_eq_false (by omega)
      obtain ⟨n, rfl⟩ := Int.eq_ofNat_of_zero_le (show 0 ≤ x by omega)
      have hn8 : n ≤ q.length / 8 := by omega
      have hmk : ∀ W : World, (Instr.makeSlice 27 (.int .i64 n) (.int .i64 n)).run Try.prog W = .ok (.slice (some ⟨W.heap.size, 0, none⟩) n n) (W.alloc (.cells (madeCells #[.int .i64 0] n) 2)) := fun W => run_make_row' (P := Try.prog) 27 2 (.int .i64 0) 8 Try.underlying27 info_i64' rfl .i64 .i64 n (by omega) (by omega) W
      have he : listF bad p = (some (numsF n (numF bad p).2.1 q).1, (numsF n (numF bad p).2.1 q).2) := by
        rw [listF, if_neg (by rw [← HX2.out, ← HQ.out]; omega), ← HX2.out, ← HQ.out, Int.toNat_natCast]
      have HE := Lib.hid he
      clear hx1 he HN
      go_wp2_with fail
      go_quiet (fail)
      all_goals
        generalize hw3 : w2.drewN _ = w3
        have hb3 : Below w2.heap.size w2 w3 := by rw [← hw3]; exact ⟨rfl, rfl, rfl, Nat.le_refl _, fun _ _ => rfl⟩
        have k3 : w3.cell? ⟨w.heap.size, 0, none⟩ = some (.int .i64 n) := by rw [← hw3]; exact k2
        have kn3 : w3.cell? ⟨nb, no, none⟩ = some (.slice la ln lc) := by rw [← hw3]; exact kn2
        have zn3 : w3.frozen? ⟨nb, no, none⟩ = false := by rw [← hw3]; exact zn2
        have hl3 : nb < w3.heap.size := by rw [← hw3]; exact (Array.getElem?_eq_some_iff.1 HN2.out).1
        have HB3 := Lib.hid hb3
        clear hw3 hb3
        go_wp2_with fail
      have hl2 : w.heap.size < w2.heap.size := Nat.lt_of_lt_of_le (Array.getElem?_eq_some_iff.1 HC1.out).1 HW2.out.size
      have hs3 := HB3.out.size
      obtain ⟨G, hG⟩ : ∃ G, G = w3.heap.size := ⟨_, rfl⟩
      have HL : Hid (LLoop w0 w base B nb no c T G n (numF bad p).2.1 q 0 ((w3.setCell ⟨nb, no, none⟩ (.slice (some ⟨w3.heap.size, 0, none⟩) n n)).alloc (.cells (madeCells #[.int .i64 0] n) 2))) := by
        have ha : Below w3.heap.size (w3.setCell ⟨nb, no, none⟩ (.slice (some ⟨w3.heap.size, 0, none⟩) n n)) ((w3.setCell ⟨nb, no, none⟩ (.slice (some ⟨w3.heap.size, 0, none⟩) n n)).alloc (.cells (madeCells #[.int .i64 0] n) 2)) := (Below.refl _ _).alloc (by simp) _
        have hz : (w3.setCell ⟨nb, no, none⟩ (.slice (some ⟨w3.heap.size, 0, none⟩) n n)).heap.size = w3.heap.size := by simp
        subst hG
        refine ⟨?_, ?_, ?_, ⟨?_, ?_, ?_, ?_, fun k hk hkB => ?_⟩⟩
        · show TapR w0 base B (numF bad p).2.1 q _
          rw [HQ.out]
          exact ((HT2.out.later HB3.out).set ⟨nb, no, none⟩ _ hnB hbn).later (by rw [hz]; exact ha)
        · rw [ha.block nb hl3, heap_set ((HB3.out.block nb (by omega)).trans HN2.out)]
        · have h3 := made_row (base := w.heap.size) (w3.setCell ⟨nb, no, none⟩ (.slice (some ⟨w3.heap.size, 0, none⟩) n n)) n (by rw [hz]; omega) (by unfold maxLen; omega)
          rw [hz] at h3
          simpa [numsF] using h3
        · exact (HB3.out.os.trans HW2.out.os).trans HB1.out.os
        · exact (HB3.out.tape.trans HW2.out.tape).trans HB1.out.tape
        · exact (HB3.out.output.trans HW2.out.output).trans HB1.out.output
        · rw [World.size_alloc, hz]; omega
        · rw [ha.block k (by omega)]
          refine hs_congr ?_
          rw [HB3.out.block k (by omega), HW2.out.at_ k (by have := HB1.out.size; omega) hkB, Below.heap_setCell _ _ _ _ (by show k ≠ w.heap.size; omega)]
          exact HB1.out.block k hk
      rw [← hG]
      rw [← hG] at HL
      generalize (w3.setCell ⟨nb, no, none⟩ (.slice (some ⟨G, 0, none⟩) n n)).alloc (.cells (madeCells #[.int .i64 0] n) 2) = wl at HL ⊢
      have hGn : G ≠ nb := by omega
      have hGB : G ≠ B := by omega
      have hGw : w.heap.size ≤ G := by omega
      clear k2 kn2 zn2 t20 t21 z22 t22 k3 kn3 zn3 hl3 hG
      go_loopw [39] (fun i wr => ∃ j : Nat, j ≤ n ∧ i = .int .i64 j ∧ Hid (LLoop w0 w base B nb no c T G n (numF bad p).2.1 q j wr)) (fun i _ => n - (intOf i).toNat)
      case atStart => exact ⟨0, by omega, rfl, HL⟩
      case round =>
        obtain ⟨wa, rfl⟩ : ∃ wa : World, wa = wr := ⟨_, rfl⟩
        obtain ⟨j, hj, rfl, HJ⟩ := hrel
        clear HL
        by_cases hjn : j < n
        · have hjn' : (j : Int) < n := by omega
          have kn : wa.cell? ⟨nb, no, none⟩ = some (.slice (some ⟨G, 0, none⟩) n n) := by
            have hno : no < c.size := (Array.getElem?_eq_some_iff.1 HX.out).1
            simp [World.cell?, HJ.out.blk, hno]
          obtain ⟨y, ky⟩ : ∃ y, wa.cell? ⟨G, j, none⟩ = some y := by
            obtain ⟨g, gc, hv, -, -, -, hat⟩ := osplit HJ.out.row (by omega)
            cases hv
            have hlen : j < (intsV ((numsF j (numF bad p).2.1 q).1 ++ List.replicate (n - j) 0)).length := by simp [intsV, numsF_len]; omega
            exact ⟨_, hat j _ (List.getElem?_eq_getElem hlen)⟩
          have kz := ofrz HJ.out.row j
          go_wp2_with fail
          refine (tnum_r w0 wa base B _ _ HJ.out.tap G j hGB (by omega) y ky kz).mono ?_
          rintro e w4 ⟨rfl, hT4, hW4⟩
          have HL4 := Lib.hid (HJ.out.step hjn hnB hGn hGB hGw hT4 hW4)
          clear hT4 hW4 HJ kn ky kz
          go_wp2_with fail
          exact ⟨⟨j + 1, by omega, by simp, HL4⟩, by simp [intOf]; omega⟩
        · obtain rfl : j = n := by omega
          go_wp2_with fail
          refine bodyPost_end (results_none rfl _ _ _) rfl ⟨rfl, ?_⟩
          rw [LPost, HE.out]
          refine ⟨HJ.out.tap, _, HJ.out.rw_, fun h => by simp at h, fun l hl => ?_⟩
          obtain rfl : (numsF j (numF bad p).2.1 q).1 = l := Option.some.inj hl
          have h3 := HJ.out.row
          rw [Nat.sub_self, List.replicate_zero, List.append_nil] at h3
          rw [numsF_len]
          exact h3
end Go.Proofs.Ytgjmdcbdkdmceaa.Mach

/- The machine while its tape is read: what a place's writing is to it. -/
namespace Go.Proofs.Ytgjmdcbdkdmceaa.Mach
open Go.RowKit

/-- A machine hangs on its own blocks alone. -/
theorem MRep.view {w w' : World} {t : Nat → Nat} {base M : Nat} {E : Env} {V : MV} {cl : List (Fr × FV)} {s : St} (h : MRep w t base M E V cl s) (hs : ∀ k, t k ≠ 0 → w'.heap[k]? = w.heap[k]?) (hz : w.heap.size ≤ w'.heap.size) : MRep w' t base M E V cl s := by
  have row : ∀ {T : TypeId} {v : Value} {n c : Nat} {xs : List Value}, Row w t base T 1 v n xs c → c ≠ 0 → Row w' t base T 1 v n xs c := fun r hc => ⟨osame r.own fun k hk => hs k (by rw [r.tag k hk]; exact hc), r.tag⟩
  refine ⟨(hs M (by rw [h.tm]; omega)).trans h.hm, h.tm, ⟨⟨?_, h.env.tw, ?_, h.env.te, ?_, h.env.ti⟩, h.env.nw, h.env.ne, h.env.ni⟩, h.opn, row h.ho (by omega), row h.hh (by omega), row h.hx (by omega), fun i p hp => ?_, fun k hk => Nat.lt_of_lt_of_le (h.lt k hk) hz, fun k hk => ⟨(h.ge k hk).1, Nat.le_trans (h.ge k hk).2 hz⟩⟩
  · exact Rd.keepB h.env.hw fun hn k _ hb => hs k (h.env.nw hn k hb)
  · exact Rd.keepB h.env.he fun hn k _ hb => hs k (h.env.ne hn k hb)
  · exact Rd.keepB h.env.hi fun hn k _ hb => hs k (h.env.ni hn k hb)
  · have q := h.fr i p hp
    exact ⟨(hs _ (by rw [q.tf]; omega)).trans q.fb, q.tf, q.rl, row q.sl (by omega), row q.ar (by omega), row q.rd (by omega)⟩
/-- The old blocks of one world, the new ones of another. -/
def graft (w w' : World) : World := { w' with heap := w.heap ++ w'.heap.extract w.heap.size w'.heap.size }
theorem graft_old (w w' : World) {k : Nat} (hk : k < w.heap.size) : (graft w w').heap[k]? = w.heap[k]? := by
  simp only [graft]
  rw [Array.getElem?_append_left hk]
theorem graft_new (w w' : World) {k : Nat} (hz : w.heap.size ≤ w'.heap.size) (hk : w.heap.size ≤ k) : (graft w w').heap[k]? = w'.heap[k]? := by
  simp only [graft]
  rw [Array.getElem?_append_right hk]
  simp only [Array.getElem?_extract]
  have e : w.heap.size + (k - w.heap.size) = k := by omega
  rw [e]
  by_cases h : k < w'.heap.size
  · rw [if_pos (by omega)]
  · rw [if_neg (by omega), Array.getElem?_eq_none (by omega)]
theorem graft_size (w w' : World) (hz : w.heap.size ≤ w'.heap.size) : (graft w w').heap.size = w'.heap.size := by
  simp only [graft, Array.size_append, Array.size_extract]
  omega
/-- A call among the others turns. -/
theorem MRep.setI {w wg w1 : World} {t t1 t2 : Nat → Nat} {base M i c d : Nat} {E : Env} {V : MV} {cl : List (Fr × FV)} {s : St} {p p' : Fr × FV} (h : MRep w t base M E V cl s) (hi : cl[i]? = some p) (T : Trn w wg t t1 c base) (S : Trn wg w1 t1 t2 d base)
    (hc : 7 + 4 * i ≤ c ∧ c ≤ 10 + 4 * i) (hd : 7 + 4 * i ≤ d ∧ d ≤ 10 + 4 * i) (hp : PRep w1 t2 base i p') (hb : p'.2.blk = p.2.blk) :
    MRep w1 t2 base M E V (cl.set i p') { s with opn := (cl.set i p').map Prod.fst } ∧ Fx w w1 t t2 := by
  have F := T.fx.trans S.fx
  obtain ⟨c1, c2⟩ := T.blks M h.ltM (by rw [h.tm]; omega)
  obtain ⟨d1, d2⟩ := S.blks M (Nat.lt_of_lt_of_le h.ltM T.fx.size) (by rw [c2, h.tm]; omega)
  refine ⟨⟨d1.trans (c1.trans h.hm), d2.trans (c2.trans h.tm), h.env.fx F, rfl, ?_, S.rows (T.rows h.hh (by omega)) (by omega), S.rows (T.rows h.hx (by omega)) (by omega), fun j q hq => ?_, S.lt (T.lt h.lt), S.ge (T.ge h.ge)⟩, F⟩
  · have h1 := S.rows (T.rows h.ho (by omega)) (by omega)
    have e : ptrC (cl.set i p') = ptrC cl := by
      simp only [ptrC, List.map_set, hb]
      apply List.ext_getElem?
      intro j
      rw [List.getElem?_set]
      split
      · rename_i e
        subst e
        obtain ⟨hil, hip⟩ := List.getElem?_eq_some_iff.1 hi
        simp [hil, hip]
      · rfl
    rw [List.length_set, e]
    exact h1
  · rw [List.getElem?_set] at hq
    split at hq
    · rename_i e
      subst e
      split at hq
      · obtain rfl := Option.some.inj hq
        exact hp
      · cases hq
    · rename_i e
      exact ((h.fr j q hq).trn T (by omega)).trn S (by omega)
/-- A machine in the midst of its reading. -/
structure RdM (w0 w : World) (base B M : Nat) (E : Env) (bad : Bool) (p : List Int) (t : Nat → Nat) (V : MV) (cl : List (Fr × FV)) (s : St) : Prop where
  rep : MRep w t base M E V cl s
  tap : TapR w0 base B bad p w
  tB : t B = 0
  low : ∀ k, t k ≠ 0 → base ≤ k
section
variable {w0 w w' : World} {base B M : Nat} {E : Env} {bad bad' : Bool} {p p' : List Int} {t : Nat → Nat} {V : MV} {cl : List (Fr × FV)} {s s' : St}
/-- One place written. -/
theorem RdM.put {a : Addr} {v : Value} {cl' : List (Fr × FV)} {V' : MV} (h : RdM w0 w base B M E bad p t V cl s) (hr : MRep (w.setCell a v) t base M E V' cl' s') (ht : TapR w0 base B bad' p' w') (hw : RW w w' B a v) : RdM w0 w' base B M E bad' p' t V' cl' s' := by
  refine ⟨hr.view (fun k hk => hw.at_ k (h.rep.lt k hk) (fun e => hk (by rw [e]; exact h.tB))) (by rw [World.size_setCell]; exact hw.size), ht, h.tB, h.low⟩
theorem RdM.MB (h : RdM w0 w base B M E bad p t V cl s) : M ≠ B := fun e => by
  have := h.rep.tm
  rw [e, h.tB] at this
  omega
theorem RdM.bM (h : RdM w0 w base B M E bad p t V cl s) : base ≤ M := h.low M (by rw [h.rep.tm]; omega)
theorem RdM.later (h : RdM w0 w base B M E bad p t V cl s) (hb : Below w.heap.size w w') : RdM w0 w' base B M E bad p t V cl s := ⟨h.rep.below hb, h.tap.later hb, h.tB, h.low⟩
end
end Go.Proofs.Ytgjmdcbdkdmceaa.Mach

/- The machine while its tape is read: a list. -/
namespace Go.Proofs.Ytgjmdcbdkdmceaa.Mach
open Go.RowKit

theorem updV_ne {t : Nat → Nat} {v : Value} {c k : Nat} (h : v.ownBlock ≠ some k) : updV t v c k = t k := by
  unfold updV
  cases e : v.ownBlock with
  | none => rfl
  | some g => exact upd_ne (fun e2 => h (by rw [e, e2]))
/-- A list's row is new: the world without the pointer to it. -/
structure Grafted (w w' : World) (B nb no base : Nat) (t : Nat → Nat) (c : Nat) (v' : Value) (n : Nat) (xs : List Value) : Prop where
  T : Trn w (graft w w') t (updV t v' c) c base
  row : Row (graft w w') (updV t v' c) base 2 1 v' n xs c
  old : ∀ k, k < w.heap.size → updV t v' c k = t k
  view : ∀ k, updV t v' c k ≠ 0 → w'.heap[k]? = ((graft w w').setCell ⟨nb, no, none⟩ v').heap[k]?
  size : ((graft w w').setCell ⟨nb, no, none⟩ v').heap.size ≤ w'.heap.size
  blk : ∀ k, k < w.heap.size → (graft w w').heap[k]? = w.heap[k]?
theorem grafted {w w' : World} {B nb no base c : Nat} {t : Nat → Nat} {v' : Value} {n : Nat} {xs : List Value} (hw : RW w w' B ⟨nb, no, none⟩ v') (ho : w'.ownsRow w.heap.size 2 1 v' n xs) (hnb : nb < w.heap.size) (hc : 2 < c) (hbs : base ≤ w.heap.size) (htB : t B = 0) : Grafted w w' B nb no base t c v' n xs := by
  have hz := hw.size
  have hog : (graft w w').ownsRow w.heap.size 2 1 v' n xs := osame ho fun k hk => graft_new w w' hz (oblk ho k hk).1
  have hog' : (graft w w').ownsRow base 2 1 v' n xs := odown hog hbs
  have hold : ∀ k, k < w.heap.size → updV t v' c k = t k := fun k hk => updV_ne fun e => by have := (oblk ho k e).1; omega
  refine ⟨Trn.grown (u := .slice none 0 0) ⟨hw.os, hw.tape, hw.output, by rw [graft_size _ _ hz]; exact hz, fun k hk _ => graft_old w w' hk⟩ (Tv.none _ _) (fun g hg => .inl (oblk ho g hg).1) hog' hc hbs, ⟨hog', updV_self _ _ _⟩, hold, fun k hk => ?_, by rw [World.size_setCell, graft_size _ _ hz]; exact Nat.le_refl _, fun k hk => graft_old w w' hk⟩
  by_cases hkw : k < w.heap.size
  · rw [hold k hkw] at hk
    rw [hw.at_ k hkw (fun e => hk (by rw [e]; exact htB))]
    exact hs_congr (graft_old w w' hkw).symm
  · rw [Below.heap_setCell _ _ _ _ (by show k ≠ nb; omega), graft_new w w' hz (by omega)]
section
variable {w0 w w' : World} {base B M : Nat} {E : Env} {bad : Bool} {p : List Int} {t : Nat → Nat} {V : MV} {cl : List (Fr × FV)} {s : St}
/-- Nothing came of it. -/
theorem RdM.none_ {nb no : Nat} {old : Value} {bad' : Bool} {p' : List Int} (h : RdM w0 w base B M E bad p t V cl s) (hc : w.cell? ⟨nb, no, none⟩ = some old) (ht : TapR w0 base B bad' p' w') (hw : RW w w' B ⟨nb, no, none⟩ old) : RdM w0 w' base B M E bad' p' t V cl s :=
  h.put (a := ⟨nb, no, none⟩) (v := old) (by rw [setCell_id hc]; exact h.rep) ht hw
theorem RdM.grafted {nb no c : Nat} {v' : Value} {l : List Int} {bad' : Bool} {p' : List Int} {V' : MV} {cl' : List (Fr × FV)} {s' : St} (h : RdM w0 w base B M E bad p t V cl s) (ht : TapR w0 base B bad' p' w') (G : Grafted w w' B nb no base t c v' l.length (intsV l)) (hr : MRep ((graft w w').setCell ⟨nb, no, none⟩ v') (updV t v' c) base M E V' cl' s') : RdM w0 w' base B M E bad' p' (updV t v' c) V' cl' s' := by
  have hbs := h.rep.bs
  refine ⟨hr.view G.view G.size, ht, (G.old B h.tap.blkB).trans h.tB, fun k hk => ?_⟩
  by_cases hkw : k < w.heap.size
  · rw [G.old k hkw] at hk
    exact h.low k hk
  · omega
theorem RdM.outs (h : RdM w0 w base B M E bad p t V cl s) (hl : LPost w0 w base B M 10 V.xv bad p w') : ∃ t' V', RdM w0 w' base B M E (listF bad p).2.1 (listF bad p).2.2 t' V' cl { s with outs := (listF bad p).1.getD s.outs } := by
  obtain ⟨ht, v', hw, hn, hs⟩ := hl
  cases e : (listF bad p).1 with
  | none =>
    have hv := hn e
    subst hv
    exact ⟨t, V, h.none_ ((h.rep.cellM 10).trans (mC_get V s).2.2.2.2.2.2.2.2.1) ht hw⟩
  | some l =>
    have G := Mach.grafted (base := base) (t := t) (c := 6) hw (hs l e) h.rep.ltM (by omega) h.rep.bs h.tB
    exact ⟨_, _, h.grafted ht G (h.rep.newOuts G.T G.row).1⟩
theorem RdM.heap (h : RdM w0 w base B M E bad p t V cl s) (hl : LPost w0 w base B M 6 V.hv bad p w') : ∃ t' V', RdM w0 w' base B M E (listF bad p).2.1 (listF bad p).2.2 t' V' cl { s with heap := (listF bad p).1.getD s.heap } := by
  obtain ⟨ht, v', hw, hn, hs⟩ := hl
  cases e : (listF bad p).1 with
  | none =>
    have hv := hn e
    subst hv
    exact ⟨t, V, h.none_ ((h.rep.cellM 6).trans (mC_get V s).2.2.2.2.1) ht hw⟩
  | some l =>
    have G := Mach.grafted (base := base) (t := t) (c := 5) hw (hs l e) h.rep.ltM (by omega) h.rep.bs h.tB
    exact ⟨_, _, h.grafted ht G (h.rep.newHeap G.T G.row).1⟩
end
end Go.Proofs.Ytgjmdcbdkdmceaa.Mach

/- The machine while its tape is read: a call's places. -/
namespace Go.Proofs.Ytgjmdcbdkdmceaa.Mach
open Go.RowKit

theorem fC_fn (f : Fr) (c : FV) (n : Int) : (fC f c).setIfInBounds 0 (.int .i64 n) = fC { f with fn := n } c := by rw [fC_set]; rfl
theorem fC_dst (f : Fr) (c : FV) (h : f.regs.length = 16) (n : Int) : (fC f c).setIfInBounds 21 (.int .u8 n) = fC { f with dst := n } c := by
  rw [fC_set]
  show (⟨.int .i64 f.fn :: .int .i64 f.next :: (intsV f.regs ++ [c.sv, c.av, c.yv, .int .u8 f.dst]).set 19 (.int .u8 n)⟩ : Array Value) = _
  rw [List.set_append_right _ _ (by simp [intsV]; omega)]
  have e : 19 - (intsV f.regs).length = 3 := by simp [intsV]; omega
  rw [e]
  rfl
theorem fC_slots (f : Fr) (c : FV) (h : f.regs.length = 16) (y : List Int) (v : Value) : (fC f c).setIfInBounds 18 v = fC { f with slots := y } { c with sv := v } := by
  rw [fC_set]
  show (⟨.int .i64 f.fn :: .int .i64 f.next :: (intsV f.regs ++ [c.sv, c.av, c.yv, .int .u8 f.dst]).set 16 v⟩ : Array Value) = _
  rw [List.set_append_right _ _ (by simp [intsV]; omega)]
  have e : 16 - (intsV f.regs).length = 0 := by simp [intsV]; omega
  rw [e]
  rfl
theorem fC_args (f : Fr) (c : FV) (h : f.regs.length = 16) (y : List Int) (v : Value) : (fC f c).setIfInBounds 19 v = fC { f with args := y } { c with av := v } := by
  rw [fC_set]
  show (⟨.int .i64 f.fn :: .int .i64 f.next :: (intsV f.regs ++ [c.sv, c.av, c.yv, .int .u8 f.dst]).set 17 v⟩ : Array Value) = _
  rw [List.set_append_right _ _ (by simp [intsV]; omega)]
  have e : 17 - (intsV f.regs).length = 1 := by simp [intsV]; omega
  rw [e]
  rfl
/-- The calls with one of them turned. -/
def setFr (s : St) (cl : List (Fr × FV)) (i : Nat) (p : Fr × FV) : St := { s with opn := (cl.set i p).map Prod.fst }
section
variable {w0 w w' : World} {base B M i : Nat} {E : Env} {bad bad' : Bool} {p p' : List Int} {t : Nat → Nat} {V : MV} {cl : List (Fr × FV)} {s : St} {f f' : Fr} {cv : FV}
theorem RdM.putF {j : Nat} {v : Value} (h : RdM w0 w base B M E bad p t V cl s) (hi : cl[i]? = some (f, cv)) (hs : (fC f cv).setIfInBounds j v = fC f' cv) (hl : f'.regs.length = 16) (e1 : f'.slots = f.slots) (e2 : f'.args = f.args) (e3 : f'.ready = f.ready)
    (ht : TapR w0 base B bad' p' w') (hw : RW w w' B ⟨cv.blk, j, none⟩ v) : RdM w0 w' base B M E bad' p' t V (cl.set i (f', cv)) (setFr s cl i (f', cv)) := by
  have q := h.rep.fr i _ hi
  have tf : t cv.blk = 7 + 4 * i := q.tf
  have S : Trn w (w.setCell ⟨cv.blk, j, none⟩ v) t t (7 + 4 * i) base := Trn.only (Only.set v tf) (by omega)
  refine h.put (h.rep.setI hi (Trn.refl w t (7 + 4 * i) base) S (by omega) (by omega) (p' := (f', cv)) ⟨?_, tf, hl, ?_, ?_, ?_⟩ rfl).1 ht hw
  · show (w.setCell ⟨cv.blk, j, none⟩ v).heap[cv.blk]? = _
    rw [heap_set q.fb, hs]
  · show Row _ t base _ 1 cv.sv f'.slots.length (intsV f'.slots) _
    rw [e1]; exact S.rows q.sl (by omega)
  · show Row _ t base _ 1 cv.av f'.args.length (intsV f'.args) _
    rw [e2]; exact S.rows q.ar (by omega)
  · show Row _ t base _ 1 cv.yv f'.ready.length (intsV f'.ready) _
    rw [e3]; exact S.rows q.rd (by omega)
theorem RdM.slotsF (h : RdM w0 w base B M E bad p t V cl s) (hi : cl[i]? = some (f, cv)) (hl : LPost w0 w base B cv.blk 18 cv.sv bad p w') : ∃ t' cv', cv'.blk = cv.blk ∧ RdM w0 w' base B M E (listF bad p).2.1 (listF bad p).2.2 t' V (cl.set i ({ f with slots := (listF bad p).1.getD f.slots }, cv')) (setFr s cl i ({ f with slots := (listF bad p).1.getD f.slots }, cv')) := by
  obtain ⟨ht, v', hw, hn, hs⟩ := hl
  have q := h.rep.fr i _ hi
  cases e : (listF bad p).1 with
  | none =>
    have hv := hn e
    subst hv
    exact ⟨t, cv, rfl, h.putF hi (by rw [fC_slots f cv q.rl f.slots cv.sv]; rfl) q.rl rfl rfl rfl ht hw⟩
  | some l =>
    have G := Mach.grafted (base := base) (t := t) (c := 8 + 4 * i) hw (hs l e) q.lt (by omega) h.rep.bs h.tB
    have tf1 : updV t v' (8 + 4 * i) cv.blk = 7 + 4 * i := (G.old _ q.lt).trans q.tf
    have S : Trn (graft w w') ((graft w w').setCell ⟨cv.blk, 18, none⟩ v') (updV t v' (8 + 4 * i)) (updV t v' (8 + 4 * i)) (7 + 4 * i) base := Trn.only (Only.set v' tf1) (by omega)
    refine ⟨_, { cv with sv := v' }, rfl, h.grafted ht G (h.rep.setI hi G.T S (by omega) (by omega) (p' := ({ f with slots := l }, { cv with sv := v' })) ⟨?_, tf1, q.rl, S.rows G.row (by omega), S.rows (G.T.rows q.ar (by omega)) (by omega), S.rows (G.T.rows q.rd (by omega)) (by omega)⟩ rfl).1⟩
    show ((graft w w').setCell ⟨cv.blk, 18, none⟩ v').heap[cv.blk]? = _
    rw [heap_set ((G.blk _ q.lt).trans q.fb), fC_slots f cv q.rl l v']
theorem RdM.argsF (h : RdM w0 w base B M E bad p t V cl s) (hi : cl[i]? = some (f, cv)) (hl : LPost w0 w base B cv.blk 19 cv.av bad p w') : ∃ t' cv', cv'.blk = cv.blk ∧ RdM w0 w' base B M E (listF bad p).2.1 (listF bad p).2.2 t' V (cl.set i ({ f with args := (listF bad p).1.getD f.args }, cv')) (setFr s cl i ({ f with args := (listF bad p).1.getD f.args }, cv')) := by
  obtain ⟨ht, v', hw, hn, hs⟩ := hl
  have q := h.rep.fr i _ hi
  cases e : (listF bad p).1 with
  | none =>
    have hv := hn e
    subst hv
    exact ⟨t, cv, rfl, h.putF hi (by rw [fC_args f cv q.rl f.args cv.av]; rfl) q.rl rfl rfl rfl ht hw⟩
  | some l =>
    have G := Mach.grafted (base := base) (t := t) (c := 9 + 4 * i) hw (hs l e) q.lt (by omega) h.rep.bs h.tB
    have tf1 : updV t v' (9 + 4 * i) cv.blk = 7 + 4 * i := (G.old _ q.lt).trans q.tf
    have S : Trn (graft w w') ((graft w w').setCell ⟨cv.blk, 19, none⟩ v') (updV t v' (9 + 4 * i)) (updV t v' (9 + 4 * i)) (7 + 4 * i) base := Trn.only (Only.set v' tf1) (by omega)
    refine ⟨_, { cv with av := v' }, rfl, h.grafted ht G (h.rep.setI hi G.T S (by omega) (by omega) (p' := ({ f with args := l }, { cv with av := v' })) ⟨?_, tf1, q.rl, S.rows (G.T.rows q.sl (by omega)) (by omega), S.rows G.row (by omega), S.rows (G.T.rows q.rd (by omega)) (by omega)⟩ rfl).1⟩
    show ((graft w w').setCell ⟨cv.blk, 19, none⟩ v').heap[cv.blk]? = _
    rw [heap_set ((G.blk _ q.lt).trans q.fb), fC_args f cv q.rl l v']
theorem RdM.readyF (h : RdM w0 w base B M E bad p t V cl s) (hi : cl[i]? = some (f, cv)) (hl : LPost w0 w base B cv.blk 20 cv.yv bad p w') : ∃ t' cv', cv'.blk = cv.blk ∧ RdM w0 w' base B M E (listF bad p).2.1 (listF bad p).2.2 t' V (cl.set i ({ f with ready := (listF bad p).1.getD f.ready }, cv')) (setFr s cl i ({ f with ready := (listF bad p).1.getD f.ready }, cv')) := by
  obtain ⟨ht, v', hw, hn, hs⟩ := hl
  have q := h.rep.fr i _ hi
  cases e : (listF bad p).1 with
  | none =>
    have hv := hn e
    subst hv
    exact ⟨t, cv, rfl, h.putF hi (by rw [fC_ready f cv q.rl f.ready cv.yv]; rfl) q.rl rfl rfl rfl ht hw⟩
  | some l =>
    have G := Mach.grafted (base := base) (t := t) (c := 10 + 4 * i) hw (hs l e) q.lt (by omega) h.rep.bs h.tB
    have tf1 : updV t v' (10 + 4 * i) cv.blk = 7 + 4 * i := (G.old _ q.lt).trans q.tf
    have S : Trn (graft w w') ((graft w w').setCell ⟨cv.blk, 20, none⟩ v') (updV t v' (10 + 4 * i)) (updV t v' (10 + 4 * i)) (7 + 4 * i) base := Trn.only (Only.set v' tf1) (by omega)
    refine ⟨_, { cv with yv := v' }, rfl, h.grafted ht G (h.rep.setI hi G.T S (by omega) (by omega) (p' := ({ f with ready := l }, { cv with yv := v' })) ⟨?_, tf1, q.rl, S.rows (G.T.rows q.sl (by omega)) (by omega), S.rows (G.T.rows q.ar (by omega)) (by omega), S.rows G.row (by omega)⟩ rfl).1⟩
    show ((graft w w').setCell ⟨cv.blk, 20, none⟩ v').heap[cv.blk]? = _
    rw [heap_set ((G.blk _ q.lt).trans q.fb), fC_ready f cv q.rl l v']
end
end Go.Proofs.Ytgjmdcbdkdmceaa.Mach

/- The machine while its tape is read: its calls, made anew. -/
namespace Go.Proofs.Ytgjmdcbdkdmceaa.Mach
open Go.RowKit

def zFr : Fr := ⟨0, 0, List.replicate 16 0, [], [], [], 0⟩
section
variable {w0 w w' : World} {base B M : Nat} {E : Env} {bad : Bool} {p : List Int} {t : Nat → Nat} {V : MV} {cl : List (Fr × FV)} {s : St}
theorem MRep.noCalls (h : MRep w t base M E V cl s) : MRep (w.setCell ⟨M, 5, none⟩ (.slice none 0 0)) t base M E { V with ov := .slice none 0 0 } [] { s with opn := [] } := by
  have S : Trn w (w.setCell ⟨M, 5, none⟩ (.slice none 0 0)) t t 3 base := Trn.only (Only.set _ h.tm) (by omega)
  refine ⟨?_, h.tm, h.env.fx S.fx, rfl, Row.nil _ _ _ _ _ _, S.rows h.hh (by omega), S.rows h.hx (by omega), fun i q hq => by simp at hq, S.lt h.lt, S.ge h.ge⟩
  rw [heap_set h.hm]
  simp [mC]
theorem RdM.noCalls (h : RdM w0 w base B M E bad p t V cl s) : RdM w0 (w.setCell ⟨M, 5, none⟩ (.slice none 0 0)) base B M E bad p t { V with ov := .slice none 0 0 } [] { s with opn := [] } :=
  ⟨h.rep.noCalls, h.tap.set ⟨M, 5, none⟩ _ h.MB h.bM, h.tB, h.low⟩
/-- A new call's block. -/
theorem RdM.made (h : RdM w0 w base B M E bad p t V cl s) : ∃ t', RdM w0 (w.alloc (.cells (fC zFr ⟨w.heap.size, .slice none 0 0, .slice none 0 0, .slice none 0 0⟩) 111)) base B M E bad p t' V cl s ∧ PRep (w.alloc (.cells (fC zFr ⟨w.heap.size, .slice none 0 0, .slice none 0 0, .slice none 0 0⟩) 111)) t' base cl.length (zFr, ⟨w.heap.size, .slice none 0 0, .slice none 0 0, .slice none 0 0⟩) := by
  have hb : Below w.heap.size w (w.alloc (.cells (fC zFr ⟨w.heap.size, .slice none 0 0, .slice none 0 0, .slice none 0 0⟩) 111)) := (Below.refl _ _).alloc (Nat.le_refl _) _
  have hbs := h.rep.bs
  have h1 : ∀ k, k < w.heap.size → upd t w.heap.size (7 + 4 * cl.length) k = t k := fun k hk => upd_ne (by omega)
  have h2 : ∀ k, upd t w.heap.size (7 + 4 * cl.length) k ≠ 0 → k < (w.alloc (.cells (fC zFr ⟨w.heap.size, .slice none 0 0, .slice none 0 0, .slice none 0 0⟩) 111)).heap.size := fun k hk => by
    rw [World.size_alloc]
    by_cases e : k = w.heap.size
    · omega
    · rw [upd_ne e] at hk
      have := h.rep.lt k hk
      omega
  obtain ⟨h3, -⟩ := h.rep.claimT hb h1 h2
  refine ⟨_, ⟨h3, h.tap.later hb, (h1 B h.tap.blkB).trans h.tB, fun k hk => ?_⟩, heap_alloc_new _ _, upd_at _ _ _, rfl, Row.nil _ _ _ _ _ _, Row.nil _ _ _ _ _ _, Row.nil _ _ _ _ _ _⟩
  by_cases e : k < w.heap.size
  · rw [h1 k e] at hk
    exact h.low k hk
  · omega
theorem RdM.pushed {w8 : World} {o : Obj} {q : Fr × FV} {v' : Value} (h : RdM w0 w base B M E bad p t V cl s) (hp : PRep w t base cl.length q)
    (hg : (w.alloc o).grownBy w8 V.ov.ownBlock) (hf : ∀ g, v'.ownBlock = some g → (w.alloc o).heap.size ≤ g ∨ V.ov.ownBlock = some g) (ho : w8.ownsRow base 90 1 v' (cl.length + 1) (ptrC cl ++ [.pointer (some ⟨q.2.blk, 0, none⟩)])) :
    ∃ t', RdM w0 (w8.setCell ⟨M, 5, none⟩ v') base B M E bad p t' { V with ov := v' } (cl ++ [q]) { s with opn := s.opn ++ [q.1] } := by
  obtain ⟨h1, -⟩ := h.rep.pushed hp hg hf ho
  have hbs := h.rep.bs
  have hsz : w.heap.size ≤ w8.heap.size := by have := hg.size; rw [World.size_alloc] at this; omega
  have hst : ∀ k, k < w.heap.size → t k = 0 → (w8.setCell ⟨M, 5, none⟩ v').heap[k]? = w.heap[k]? := fun k hk h0 => by
    rw [Below.heap_setCell _ _ _ _ (by show k ≠ M; intro e; have := h.rep.tm; rw [← e, h0] at this; omega), hg.block k (by rw [World.size_alloc]; omega) (fun e => by have := h.rep.ho.tag k e.symm; omega)]
    exact Below.heap_alloc _ _ _ hk
  have htl : ∀ k, k < base → t k = 0 := fun k hk => by
    rcases Nat.eq_zero_or_pos (t k) with e | e
    · exact e
    · have := h.low k (by omega)
      omega
  obtain ⟨pv, b1, b2, b3⟩ := h.tap.ht
  have hB := h.tap.blkB
  have hvB : ∀ g, v'.ownBlock = some g → g < w.heap.size → t g = 4 := fun g hg' hgs => by
    rcases hf g hg' with h1 | h1
    · rw [World.size_alloc] at h1; omega
    · exact h.rep.ho.tag g h1
  refine ⟨_, h1, ⟨⟨pv, (hst B hB h.tB).trans b1, Rd.keepB b2 fun hn k hk hkb => hst k hk (htl k (b3 hn k hkb)), b3⟩, h.tap.hB, h.tap.bel.trans ⟨hg.os, hg.tape, hg.output, by rw [World.size_setCell]; exact hsz, fun k hk => hst k (by omega) (htl k hk)⟩, h.tap.bB⟩, ?_, fun k hk => ?_⟩
  · rw [updV_ne fun e => by have := hvB B e hB; have := h.tB; omega]
    exact h.tB
  · by_cases hks : k < w.heap.size
    · by_cases e : v'.ownBlock = some k
      · exact h.low k (by have := hvB k e hks; omega)
      · rw [updV_ne e] at hk
        exact h.low k hk
    · omega
end
end Go.Proofs.Ytgjmdcbdkdmceaa.Mach

/- The machine while its tape is read: one call among the others. -/
namespace Go.Proofs.Ytgjmdcbdkdmceaa.Mach
open Go.RowKit

/-- A machine in the midst of reading its call i. -/
structure InC (w0 w : World) (base B M : Nat) (E : Env) (bad : Bool) (p : List Int) (t : Nat → Nat) (V : MV) (cl : List (Fr × FV)) (s : St) (i : Nat) (f : Fr) (cv : FV) : Prop where
  lt : i < cl.length
  rd : RdM w0 w base B M E bad p t V (cl.set i (f, cv)) (setFr s cl i (f, cv))
theorem setFr_twice (s : St) (cl : List (Fr × FV)) (i : Nat) (p p' : Fr × FV) : setFr (setFr s cl i p) (cl.set i p) i p' = setFr s cl i p' := by simp [setFr, List.set_set]
section
variable {w0 w w' : World} {base B M i : Nat} {E : Env} {bad bad' : Bool} {p p' : List Int} {t : Nat → Nat} {V : MV} {cl : List (Fr × FV)} {s : St} {f f' : Fr} {cv : FV}
theorem InC.get (h : InC w0 w base B M E bad p t V cl s i f cv) : (cl.set i (f, cv))[i]? = some (f, cv) := List.getElem?_set_self h.lt
theorem InC.pr (h : InC w0 w base B M E bad p t V cl s i f cv) : PRep w t base i (f, cv) := h.rd.rep.fr i _ h.get
theorem InC.blk (h : InC w0 w base B M E bad p t V cl s i f cv) : cv.blk ≠ B ∧ base ≤ cv.blk ∧ w.heap[cv.blk]? = some (.cells (fC f cv) 111 (0, 0)) := by
  have tf : t cv.blk = 7 + 4 * i := h.pr.tf
  refine ⟨fun e => ?_, h.rd.low _ (by omega), h.pr.fb⟩
  have := h.rd.tB
  rw [← e, tf] at this
  omega
theorem InC.start (h : RdM w0 w base B M E bad p t V cl s) (hi : cl[i]? = some (f, cv)) : InC w0 w base B M E bad p t V cl s i f cv := by
  obtain ⟨hil, hip⟩ := List.getElem?_eq_some_iff.1 hi
  refine ⟨hil, ?_⟩
  have e : cl.set i (f, cv) = cl := by rw [← hip]; exact List.set_getElem_self hil
  have e2 : setFr s cl i (f, cv) = s := by
    rw [setFr, e, ← h.rep.opn]
  rw [e, e2]
  exact h
theorem InC.put {j : Nat} {v : Value} (h : InC w0 w base B M E bad p t V cl s i f cv) (hs : (fC f cv).setIfInBounds j v = fC f' cv) (hl : f'.regs.length = 16) (e1 : f'.slots = f.slots) (e2 : f'.args = f.args) (e3 : f'.ready = f.ready)
    (ht : TapR w0 base B bad' p' w') (hw : RW w w' B ⟨cv.blk, j, none⟩ v) : InC w0 w' base B M E bad' p' t V cl s i f' cv := by
  have h1 := h.rd.putF h.get hs hl e1 e2 e3 ht hw
  rw [List.set_set, setFr_twice] at h1
  exact ⟨h.lt, h1⟩
theorem InC.fn {x : Int} (h : InC w0 w base B M E bad p t V cl s i f cv) (ht : TapR w0 base B bad' p' w') (hw : RW w w' B ⟨cv.blk, 0, none⟩ (.int .i64 x)) : InC w0 w' base B M E bad' p' t V cl s i { f with fn := x } cv :=
  h.put (fC_fn f cv x) h.pr.rl rfl rfl rfl ht hw
theorem InC.next {x : Int} (h : InC w0 w base B M E bad p t V cl s i f cv) (ht : TapR w0 base B bad' p' w') (hw : RW w w' B ⟨cv.blk, 1, none⟩ (.int .i64 x)) : InC w0 w' base B M E bad' p' t V cl s i { f with next := x } cv :=
  h.put (fC_next f cv x) h.pr.rl rfl rfl rfl ht hw
theorem InC.dst {x : Int} (h : InC w0 w base B M E bad p t V cl s i f cv) (ht : TapR w0 base B bad' p' w') (hw : RW w w' B ⟨cv.blk, 21, none⟩ (.int .u8 x)) : InC w0 w' base B M E bad' p' t V cl s i { f with dst := x } cv :=
  h.put (fC_dst f cv h.pr.rl x) h.pr.rl rfl rfl rfl ht hw
theorem InC.reg {j : Nat} (hj : j < 16) {x : Int} (h : InC w0 w base B M E bad p t V cl s i f cv) (ht : TapR w0 base B bad' p' w') (hw : RW w w' B ⟨cv.blk, 2 + j, none⟩ (.int .i64 x)) : InC w0 w' base B M E bad' p' t V cl s i { f with regs := f.regs.set j x } cv :=
  h.put (fC_reg f cv h.pr.rl j hj x) (by show (f.regs.set j x).length = 16; rw [List.length_set]; exact h.pr.rl) rfl rfl rfl ht hw
theorem InC.slots (h : InC w0 w base B M E bad p t V cl s i f cv) (hl : LPost w0 w base B cv.blk 18 cv.sv bad p w') : ∃ t' cv', cv'.blk = cv.blk ∧ InC w0 w' base B M E (listF bad p).2.1 (listF bad p).2.2 t' V cl s i { f with slots := (listF bad p).1.getD f.slots } cv' := by
  obtain ⟨t', cv', h1, h2⟩ := h.rd.slotsF h.get hl
  rw [List.set_set, setFr_twice] at h2
  exact ⟨t', cv', h1, h.lt, h2⟩
theorem InC.args (h : InC w0 w base B M E bad p t V cl s i f cv) (hl : LPost w0 w base B cv.blk 19 cv.av bad p w') : ∃ t' cv', cv'.blk = cv.blk ∧ InC w0 w' base B M E (listF bad p).2.1 (listF bad p).2.2 t' V cl s i { f with args := (listF bad p).1.getD f.args } cv' := by
  obtain ⟨t', cv', h1, h2⟩ := h.rd.argsF h.get hl
  rw [List.set_set, setFr_twice] at h2
  exact ⟨t', cv', h1, h.lt, h2⟩
theorem InC.ready (h : InC w0 w base B M E bad p t V cl s i f cv) (hl : LPost w0 w base B cv.blk 20 cv.yv bad p w') : ∃ t' cv', cv'.blk = cv.blk ∧ InC w0 w' base B M E (listF bad p).2.1 (listF bad p).2.2 t' V cl s i { f with ready := (listF bad p).1.getD f.ready } cv' := by
  obtain ⟨t', cv', h1, h2⟩ := h.rd.readyF h.get hl
  rw [List.set_set, setFr_twice] at h2
  exact ⟨t', cv', h1, h.lt, h2⟩
end
end Go.Proofs.Ytgjmdcbdkdmceaa.Mach
