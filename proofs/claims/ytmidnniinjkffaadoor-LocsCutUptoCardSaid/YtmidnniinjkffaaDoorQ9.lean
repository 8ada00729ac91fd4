/- Locs: writing: a number. -/
import Derived.Test.YtmidnniinjkffaaDoorQ8
import Derived.Test.YtmidnniinjkffaaDoorQWl
import Derived.Test.YtmidnniinjkffaaDoorQ2
namespace Go.Proofs.YtmidnniinjkffaaDoor
open Go.RowKit

/-! ### How many bytes (plain) -/
theorem bitLen_small : ∀ n : Fin 256, Lib.bitLen n.val = 0 ∨ (0 < n.val ∧ 1 ≤ Lib.bitLen n.val ∧ Lib.bitLen n.val ≤ 8) := by decide +kernel
theorem beB_bits : ∀ n, n < 18446744073709551616 → (Lib.bitLen n + 7) / 8 = (beB n).length := by
  intro n
  induction n using Nat.strongRecOn with
  | _ n ih =>
    intro hn
    by_cases h0 : n = 0
    · subst h0; rw [beB_zero]; decide
    · rw [beB_pos (by omega), List.length_append]
      by_cases h : 256 ≤ n
      · have h1 := ih (n / 256) (by omega) (by omega)
        rw [Lib.bitLen_shift8 n h hn]
        simp only [List.length_cons, List.length_nil]
        omega
      · have h1 := bitLen_small ⟨n, by omega⟩
        have h2 : n / 256 = 0 := by omega
        rw [h2, beB_zero]
        simp only [List.length_cons, List.length_nil]
        have h3 : Lib.bitLen n ≠ 0 := fun e => by
          by_cases h4 : n < 2
          · obtain rfl : n = 1 := by omega
            revert e; decide
          · have h5 := Lib.bitLen_half n h0 hn
            omega
        simp only at h1
        omega
theorem beB_get : ∀ (n j : Nat) (h : j < (beB n).length), (beB n)[j] = ((n / 256 ^ ((beB n).length - 1 - j) % 256 : Nat) : Int) := by
  intro n
  induction n using Nat.strongRecOn with
  | _ n ih =>
    intro j h
    by_cases h0 : n = 0
    · subst h0; simp [beB_zero] at h
    · have e := beB_pos (n := n) (by omega)
      have hl : (beB n).length = (beB (n / 256)).length + 1 := by rw [e]; simp
      have h1 : ∀ (l : List Int) (hl2 : beB n = l) (h2 : j < l.length), (beB n)[j] = l[j] := fun l hl2 h2 => by subst hl2; rfl
      rw [h1 _ e (by rw [← e]; exact h)]
      by_cases hj : j < (beB (n / 256)).length
      · rw [List.getElem_append_left hj, ih (n / 256) (by omega) j hj, Nat.div_div_eq_div_mul, hl]
        rw [show (beB (n / 256)).length + 1 - 1 - j = ((beB (n / 256)).length - 1 - j) + 1 by omega, Nat.pow_succ, Nat.mul_comm]
      · have hj2 : j = (beB (n / 256)).length := by omega
        rw [List.getElem_append_right (by omega)]
        have e3 : (beB n).length - 1 - j = 0 := by omega
        have e4 : j - (beB (n / 256)).length = 0 := by omega
        rw [e3]
        simp [e4]
/-- One byte more. -/
theorem beB_step {n j i : Nat} (h : j < (beB n).length) (hi : i + j + 1 = (beB n).length) : (beB n).take (j + 1) = (beB n).take j ++ [(n : Int) / 2 ^ ((8 * (i : Int)).toNat) % 256] := by
  rw [List.take_succ_eq_append_getElem h, beB_get n j h]
  have e1 : (beB n).length - 1 - j = i := by omega
  have e2 : (8 * (i : Int)).toNat = 8 * i := by omega
  rw [e1, e2]
  have e3 : (256 : Nat) ^ i = 2 ^ (8 * i) := by rw [show (256 : Nat) = 2 ^ 8 from rfl, ← Nat.pow_mul]
  rw [e3]
  simp only [Int.natCast_emod, Int.natCast_ediv, Int.natCast_pow]
  rfl

/-! ### The turner, writing -/
/-- One who writes turns, another place too. -/
structure TX (base tb z : Nat) (w w' : World) (pv : Value) (L : List Int) : Prop where
  at_ : w'.heap[tb]? = some (TO pv 0 false)
  own : ownY w' base pv L
  bel : Below base w w'
  grew : w.heap.size ≤ w'.heap.size
  oth : ∀ j ob, w.heap[j]? = some ob → notY ob → j ≠ tb → j ≠ z → w'.heap[j]? = some ob
theorem TX.refl {base tb z : Nat} {w : World} {pv : Value} {L : List Int} (h1 : w.heap[tb]? = some (TO pv 0 false)) (h2 : ownY w base pv L) : TX base tb z w w pv L :=
  ⟨h1, h2, Below.refl _ _, Nat.le_refl _, fun _ _ h _ _ _ => h⟩
theorem TX.trans {base tb z : Nat} {w w1 w2 : World} {pv pv' : Value} {L L' : List Int} (h : TX base tb z w w1 pv L) (k : TX base tb z w1 w2 pv' L') : TX base tb z w w2 pv' L' :=
  ⟨k.at_, k.own, h.bel.trans k.bel, Nat.le_trans h.grew k.grew, fun j ob hj hn h1 h2 => k.oth j ob (h.oth j ob hj hn h1 h2) hn h1 h2⟩
theorem TX.wide {base tb z : Nat} {w w' : World} {pv : Value} {L : List Int} (h : TX base tb tb w w' pv L) : TX base tb z w w' pv L :=
  ⟨h.at_, h.own, h.bel, h.grew, fun j ob hj hn h1 _ => h.oth j ob hj hn h1 h1⟩
theorem TX.later {base tb z : Nat} {w w1 w2 : World} {pv : Value} {L : List Int} (h : TX base tb z w w1 pv L) (hb : Below w1.heap.size w1 w2) (hbase : base ≤ w1.heap.size) : TX base tb z w w2 pv L :=
  ⟨(hb.block tb (heap_lt h.at_)).trans h.at_, ownG_later h.own hb, h.bel.trans (hb.mono hbase), Nat.le_trans h.grew hb.size, fun j ob hj hn h1 h2 => by
    have := h.oth j ob hj hn h1 h2
    exact (hb.block j (heap_lt this)).trans this⟩
/-- What is behind it in the second place does not matter, if that is new. -/
theorem TX.new {base tb z y : Nat} {w w1 w2 : World} {pv pv' : Value} {L L' : List Int} (h : TX base tb z w w1 pv L) (k : TX base tb y w1 w2 pv' L') (hy : w.heap.size ≤ y) : TX base tb z w w2 pv' L' :=
  ⟨k.at_, k.own, h.bel.trans k.bel, Nat.le_trans h.grew k.grew, fun j ob hj hn h1 h2 => k.oth j ob (h.oth j ob hj hn h1 h2) hn h1 (by have := heap_lt hj; omega)⟩
theorem to_notY (pv : Value) (a : Int) (rd : Bool) : notY (TO pv a rd) := notY_cells (by decide)
/-- The bytes grow, the turner's object is written. -/
theorem TX.append {base tb z : Nat} {w w1 w2 : World} {pv v2 : Value} {L q : List Int} {n : Nat} (h : TX base tb z w w1 pv L) (hb : base ≤ w1.heap.size) (hbt : base ≤ tb) (hown : ownG w2 base 5 1 v2 n (L.map (Value.int .u8) ++ q.map (Value.int .u8))) (hn : n = L.length + q.length) (hg : w1.grownBy w2 pv.ownBlock) :
    w2.heap[tb]? = some (TO pv 0 false) ∧ TX base tb z w (w2.setCell ⟨tb, 0, none⟩ v2) v2 (L ++ q) := by
  have hap : ∀ j ob, w1.heap[j]? = some ob → notY ob → w2.heap[j]? = some ob := fun j ob hj hnj => by
    rw [hg.block j (heap_lt hj) (fun e => ?_)]; exact hj
    obtain ⟨_, cur, f, hc⟩ := ownG_blk h.own j e.symm
    rw [hj] at hc
    exact hnj _ _ (Option.some.inj hc)
  have hto := hap _ _ h.at_ (to_notY _ _ _)
  refine ⟨hto, heap_set hto, ownG_same (ownY_grow hown hn) (fun k hk => Below.heap_setCell _ _ _ _ ?_), (h.bel.grown hg hb (fun k hk => (ownG_blk h.own k hk).1)).setCell hbt _, by rw [World.size_setCell]; exact Nat.le_trans h.grew hg.size, fun j ob hj hnj h1 h2 => (Below.heap_setCell _ _ _ _ h1).trans (hap _ _ (h.oth j ob hj hnj h1 h2) hnj)⟩
  intro e
  simp only at e
  subst e
  exact ownG_apart hown hto (by decide) hk

set_option maxRecDepth 100000 in
set_option maxHeartbeats 4000000 in
theorem unsigned_write (base tb : Nat) (pv : Value) (L : List Int) (n : Nat) (w : World) (hbt : base ≤ tb) (hat : w.heap[tb]? = some (TO pv 0 false)) (hown : ownY w base pv L) (hn : n < 18446744073709551616) (hbd : L.length + 9 ≤ 140737488355328) :
   Calls Tryd.prog 48 #[.pointer (some ⟨tb, 0, none⟩), .int .u64 n] w fun e w' => e = .returned (.int .u64 n) ∧ ∃ pv', TX base tb tb w w' pv' (L ++ numW n) := by
  obtain ⟨i0, hi, hz0, hz1, hz2⟩ := infoY_parts infoY
  have HI : Hid _ := And.intro hi (And.intro hz0 (And.intro hz1 hz2))
  clear hi hz0 hz1 hz2
  have T0 := Lib.hid (TX.refl (z := tb) hat hown)
  have htl := heap_lt hat
  obtain ⟨k0, k1, k2, z0, -⟩ := to_cells hat
  have mixed : Tryd.prog.follows Departure.mixedOrders = true := by kernel_rfl
  obtain ⟨pa, pc, rfl⟩ := hown.rd.shape
  clear hat hown
  by_cases hs : n ≤ 247
  · have HN : Hid (numW n = [(n : Int)]) := by show _ = _; unfold numW; rw [if_pos hs]
    go_enter Tryd.func48, Tryd.ntmps48
    go_wp2_with (at_builtin; refine wpList_append_ownG_rd _ rfl _ _ 30 rfl base 5 i0 (.int .u8 0) 1 1 Tryd.underlying30 HI.out.1 HI.out.2.1 HI.out.2.2.1 HI.out.2.2.2 rfl (by decide) _ L.length (L.map (Value.int .u8)) rfl (ownG_later T0.out.own ((Below.refl _ _).alloc (Nat.le_refl _) _)) _ 1 ([(n : Int)].map (Value.int .u8)) rfl (Rd.of_heap (heap_new _ _ rfl) rfl rfl (by decide)) (ints_oneCell .u8 _) (by unfold maxLen; omega) (by omega) (by simp; omega) ?_; intro v2 w2 hown2 hgrow2; have HT := Lib.hid ((T0.out.later ((Below.refl _ _).alloc (Nat.le_refl _) _) (by omega)).append (q := [(n : Int)]) (by simp; omega) hbt hown2 rfl hgrow2); have kk := (to_cells HT.out.1).1; have zz := (to_cells HT.out.1).2.2.2.1; obtain ⟨va, vc, rfl⟩ := (ownG_rd hown2).shape; clear hown2 hgrow2)
    go_ret
    exact ⟨rfl, _, by rw [HN.out]; exact HT.out.2⟩
  · have HN : Hid (numW n = (247 + (beB n).length : Int) :: beB n) := by show _ = _; unfold numW; rw [if_neg hs]
    have hlen : (beB n).length ≤ 8 := beB_len 8 n (by omega)
    have hbits := beB_bits n hn
    have h0 : 0 < (beB n).length := (by rw [beB_pos (by omega)]; simp)
    obtain ⟨k, hk⟩ : ∃ k, (beB n).length = k := ⟨_, rfl⟩
    obtain ⟨bl, hbl⟩ : ∃ bl, Lib.bitLen n = bl := ⟨_, rfl⟩
    have HL := Lib.hid (len64_any (n : Int))
    have hb2 : ((bl : Int) + 7) / 8 = k := by rw [hk, hbl] at hbits; omega
    have hbl8 : bl ≤ 64 := by rw [← hbl]; exact Lib.bitLen_le n 64 (by omega) (by omega)
    have HK := Lib.hid hk
    rw [hk] at HN hlen h0
    have hwk : IntKind.u8.wrap (247 + (k : Int)) = 247 + k := by rw [IntKind.wrap_u8']; omega
    clear hbits hk
    go_enter Tryd.func48, Tryd.ntmps48
    go_wp2_with fail
    refine (HL.out _ (by omega) (by omega)).mono ?_
    rintro e w1 ⟨rfl, rfl⟩
    rw [show ((n : Int)).toNat = n from Int.toNat_natCast n, hbl]
    clear hbl HL
    go_wp2_with (at_builtin; refine wpList_append_ownG_rd _ rfl _ _ 30 rfl base 5 i0 (.int .u8 0) 1 1 Tryd.underlying30 HI.out.1 HI.out.2.1 HI.out.2.2.1 HI.out.2.2.2 rfl (by decide) _ L.length (L.map (Value.int .u8)) rfl (ownG_later T0.out.own ((Below.refl _ _).alloc (Nat.le_refl _) _)) _ 1 ([247 + (k : Int)].map (Value.int .u8)) rfl (Rd.of_heap (heap_new _ _ rfl) rfl rfl (by decide)) (ints_oneCell .u8 _) (by unfold maxLen; omega) (by omega) (by simp; omega) ?_; intro v2 w2 hown2 hgrow2; have HT := Lib.hid ((T0.out.later ((Below.refl _ _).alloc (Nat.le_refl _) _) (by omega)).append (q := [247 + (k : Int)]) (by simp; omega) hbt hown2 rfl hgrow2); have kk := (to_cells HT.out.1).1; have zz := (to_cells HT.out.1).2.2.2.1; obtain ⟨va, vc, rfl⟩ := (ownG_rd hown2).shape; clear hown2 hgrow2)
    go_loopw [6] (fun i wr => ∃ (j : Nat) (pv' : Value), j ≤ k ∧ i = .int .i64 ((k : Int) - 1 - j) ∧ TX base tb tb w1 wr pv' (L ++ ((247 + (k : Int)) :: (beB n).take j))) (fun i _ => (intOf i + 1).toNat)
    case atStart => exact ⟨0, _, by omega, by simp, by simpa using HT.out.2⟩
    case round =>
      obtain ⟨j, pv2, hj, rfl, ht⟩ := hrel
      obtain ⟨M, hM⟩ : ∃ M, L ++ ((247 + (k : Int)) :: (beB n).take j) = M := ⟨_, rfl⟩
      rw [hM] at ht
      have HM := Lib.hid hM
      clear hM
      have HT2 := Lib.hid ht
      obtain ⟨q0, q1, q2, q3, -⟩ := to_cells ht.at_
      obtain ⟨qa, qc, rfl⟩ := ht.own.rd.shape
      have hsz : w1.heap.size ≤ wr.heap.size := ht.grew
      have htr := heap_lt ht.at_
      clear ht kk zz k0 k1 k2 z0
      by_cases hjk : j < k
      · obtain ⟨i, hi⟩ : ∃ i : Nat, i + j + 1 = k := ⟨k - 1 - j, by omega⟩
        have hij : (k : Int) - 1 - j = i := by omega
        have HIJ := Lib.hid hij
        have HQ : Hid ((beB n).take (j + 1) = (beB n).take j ++ [(n : Int) / 2 ^ ((8 * (i : Int)).toNat) % 256]) := beB_step (by rw [HK.out]; exact hjk) (by rw [HK.out]; exact hi)
        have HMM : Hid (L ++ ((247 + (k : Int)) :: (beB n).take (j + 1)) = M ++ [(n : Int) / 2 ^ ((8 * (i : Int)).toNat) % 256]) := by
          show _ = _
          rw [HQ.out, ← HM.out]
          simp
        have hML : M.length + 1 ≤ 140737488355328 := by
          rw [← HM.out, List.length_append, List.length_cons, List.length_take]
          omega
        rw [hij]
        clear hij
        have hw8 : IntKind.u8.wrap ((n : Int) / 2 ^ ((8 * (i : Int)).toNat)) = (n : Int) / 2 ^ ((8 * (i : Int)).toNat) % 256 := by rw [IntKind.wrap_u8']
        have hwm : IntKind.i64.wrap (8 * (i : Int)) = 8 * (i : Int) := by rw [IntKind.wrap_i64]; omega
        have hsh := shift_shr .u64 .i64 (n : Int) (8 * (i : Int)) (by omega) (by show (_ : Int) ≤ 64; omega)
        have b1 : M.length + 1 ≤ maxLen := by unfold maxLen; omega
        have b2 : (M.length + 1) * 1 ≤ 140737488355328 := by omega
        go_upto_region 10 with fail
        go_region_law (first
          | (go_loud (refine step_append_ownG_rd rfl _ _ 30 rfl base 5 i0 (.int .u8 0) 1 1 Tryd.underlying30 HI.out.1 HI.out.2.1 HI.out.2.2.1 HI.out.2.2.2 rfl (by decide) _ M.length (M.map (Value.int .u8)) rfl (ownG_later HT2.out.own ((Below.refl _ _).drew.alloc (by simp) _)) _ 1 ([(n : Int) / 2 ^ ((8 * (i : Int)).toNat) % 256].map (Value.int .u8)) rfl (Rd.of_heap (heap_new _ _ (by simp)) rfl rfl (by decide)) (ints_oneCell .u8 _) b1 b2 (by simp; omega) ?_); intro v2 w2 hown2 hgrow2; have HT3 := Lib.hid ((HT2.out.later ((Below.refl _ _).drew.alloc (by simp) _) (by omega)).append (q := [(n : Int) / 2 ^ ((8 * (i : Int)).toNat) % 256]) (by simp; omega) hbt hown2 rfl hgrow2); have kk := (to_cells HT3.out.1).1; have zz := (to_cells HT3.out.1).2.2.2.1; obtain ⟨va, vc, rfl⟩ := (ownG_rd hown2).shape; clear hown2 hgrow2))
        all_goals
          go_wp2_with fail
          exact ⟨⟨j + 1, _, by omega, by congr 1; have := HIJ.out; omega, by rw [HMM.out]; exact HT3.out.2⟩, by simp only [intOf]; have := HIJ.out; omega⟩
      · obtain rfl : j = k := by omega
        have hij : (j : Int) - 1 - j = -1 := by omega
        rw [hij]
        clear hij
        have HF : Hid ((beB n).take j = beB n) := by show _ = _; rw [← HK.out, List.take_length]
        go_wp2_with fail
        go_ret
        exact ⟨rfl, _, by have := HT2.out; rw [← HM.out, HF.out, ← HN.out] at this; exact this⟩
end Go.Proofs.YtmidnniinjkffaaDoor

/- Locs: writing: a plain number, one with a sign. -/
namespace Go.Proofs.YtmidnniinjkffaaDoor
open Go.RowKit

set_option maxHeartbeats 4000000 in
theorem plain_write (base tb : Nat) (pv : Value) (L : List Int) (nb no : Nat) (c : Array Value) (T : TypeId) (n : Int) (w : World) (hbt : base ≤ tb) (hat : w.heap[tb]? = some (TO pv 0 false)) (hown : ownY w base pv L) (hn : isN n) (hbd : L.length + 9 ≤ 140737488355328)
   (hb : w.heap[nb]? = some (.cells c T (0, 0))) (hc : c[no]? = some (.int .i64 n)) (hT : T ≠ 5) (hnb : nb ≠ tb) :
   Calls Tryd.prog 34 #[.pointer (some ⟨tb, 0, none⟩), .pointer (some ⟨nb, no, none⟩)] w fun e w' => e = .returned (.tuple #[]) ∧ ∃ pv', TX base tb tb w w' pv' (L ++ numW n.toNat) := by
  unfold isN at hn
  obtain ⟨m, rfl⟩ : ∃ m : Nat, n = m := ⟨n.toNat, by omega⟩
  have HU := Lib.hid (unsigned_write base tb pv L m w hbt hat hown (by omega) hbd)
  have k0 := cell_of hb hc
  have HB := Lib.hid hb
  clear hat hown hb
  go_enter Tryd.func34, Tryd.ntmps34
  go_wp2_with fail
  refine HU.out.mono ?_
  rintro e w1 ⟨rfl, pv1, ht⟩
  have h1 := ht.oth _ _ HB.out (notY_cells hT) hnb hnb
  have k1 := cell_of h1 hc
  have z1 := unfrozen_of (i := no) h1
  have HT := Lib.hid ht
  have HK := Lib.hid k1
  clear ht HU h1 k0
  go_wp2_with fail
  go_end0
  refine ⟨rfl, pv1, ?_⟩
  rw [setCell_id HK.out, Int.toNat_natCast]
  exact HT.out

/-- A number with a sign, as one without. -/
theorem zig_xor (n : Int) (h : isI64 n) : bits .xor .u64 ((2 * n) % 18446744073709551616) (if n < 0 then 18446744073709551615 else 0) = zig n := by
  unfold isI64 at h
  unfold zig
  by_cases h0 : n < 0
  · rw [if_pos h0, if_pos h0]
    show IntKind.u64.wrap ((BitVec.ofInt 64 _ ^^^ BitVec.ofInt 64 18446744073709551615).toNat : Int) = _
    have h1 : BitVec.ofInt 64 18446744073709551615 = BitVec.allOnes 64 := by decide
    obtain ⟨a, ha⟩ : ∃ a : Nat, (2 * n) % 18446744073709551616 = a := ⟨((2 * n) % 18446744073709551616).toNat, by omega⟩
    rw [ha, h1, BitVec.xor_allOnes, BitVec.toNat_not, ofInt_u64 a (by omega)]
    rw [IntKind.wrap_u64]
    omega
  · rw [if_neg h0, if_neg h0]
    show IntKind.u64.wrap ((BitVec.ofInt 64 _ ^^^ BitVec.ofInt 64 0).toNat : Int) = _
    have h1 : BitVec.ofInt 64 0 = 0#64 := by decide
    obtain ⟨a, ha⟩ : ∃ a : Nat, (2 * n) % 18446744073709551616 = a := ⟨((2 * n) % 18446744073709551616).toNat, by omega⟩
    rw [ha, h1, BitVec.xor_zero, ofInt_u64 a (by omega)]
    rw [IntKind.wrap_u64]
    omega

set_option maxRecDepth 100000 in
set_option maxHeartbeats 4000000 in
theorem signed_write (base tb : Nat) (pv : Value) (L : List Int) (nb no : Nat) (c : Array Value) (T : TypeId) (n : Int) (w : World) (hbt : base ≤ tb) (hat : w.heap[tb]? = some (TO pv 0 false)) (hown : ownY w base pv L) (hn : isI64 n) (hbd : L.length + 9 ≤ 140737488355328)
   (hb : w.heap[nb]? = some (.cells c T (0, 0))) (hc : c[no]? = some (.int .i64 n)) (hT : T ≠ 5) (hnb : nb ≠ tb) :
   Calls Tryd.prog 49 #[.pointer (some ⟨tb, 0, none⟩), .pointer (some ⟨nb, no, none⟩)] w fun e w' => e = .returned (.tuple #[]) ∧ ∃ pv', TX base tb tb w w' pv' (L ++ signW n) := by
  have hz := zig_lt hn
  have hzx := zig_xor n hn
  have hu : unzig (zig n : Nat) = n := unzig_zig n
  obtain ⟨m, hm⟩ : ∃ m, zig n = m := ⟨_, rfl⟩
  have HM := Lib.hid hm
  rw [hm] at hz hzx hu
  have HUZ := Lib.hid hu
  unfold isI64 at hn
  have hA : IntKind.u64.wrap (IntKind.i64.wrap (n * 2)) = (2 * n) % 18446744073709551616 := by rw [IntKind.wrap_u64, IntKind.wrap_i64]; omega
  have hA2 : IntKind.u64.wrap (wrap64 (n * 2)) = (2 * n) % 18446744073709551616 := by unfold wrap64; rw [IntKind.wrap_u64]; omega
  have hB : IntKind.u64.wrap (n / 9223372036854775808) = if n < 0 then 18446744073709551615 else 0 := by rw [IntKind.wrap_u64]; split <;> omega
  obtain ⟨q, hq⟩ : ∃ q : Int, (if n < 0 then 18446744073709551615 else 0) = q := ⟨_, rfl⟩
  rw [hq] at hzx hB
  clear hq
  have HU := Lib.hid (unsigned_write base tb pv L m w.drew hbt hat hown hz hbd)
  have k0 := cell_of hb hc
  have HB := Lib.hid hb
  have HT0 := Lib.hid ((TX.refl (z := tb) hat hown).later (Below.refl _ _).drew (by have := heap_lt hat; omega))
  have mixed : Tryd.prog.follows Departure.mixedOrders = true := by kernel_rfl
  clear hat hown hb hm hu
  go_enter Tryd.func49, Tryd.ntmps49
  go_upto_region 0 with fail
  go_still_tail 12, mixed
  change wpList _ _ _ _ _ w.drew
  go_wp2_with fail
  refine HU.out.mono ?_
  rintro e w1 ⟨rfl, pv1, ht⟩
  have HT1 := Lib.hid (HT0.out.trans ht)
  have h1 := HT1.out.oth _ _ HB.out (notY_cells hT) hnb hnb
  have k1 := cell_of h1 hc
  have z1 := unfrozen_of (i := no) h1
  have HK := Lib.hid k1
  have ha := bits_and_1 m hz
  have hx : bits .xor .i64 ((m : Int) / 2) (-((m : Int) % 2)) = n := by
    rw [← HUZ.out]
    unfold unzig
    by_cases h2 : (m : Int) % 2 = 0
    · rw [if_pos h2, h2]
      have := bits_xor_0 (m / 2) (by omega)
      simpa using this
    · rw [if_neg h2, show (m : Int) % 2 = 1 by omega]
      have := bits_xor_neg1 (m / 2) (by omega)
      simpa using this
  clear ht HU h1 k0 hzx hA hA2 hB
  go_wp2_with fail
  go_end0
  refine ⟨rfl, pv1, ?_⟩
  rw [setCell_id HK.out]
  unfold signW
  rw [HM.out]
  exact HT1.out
end Go.Proofs.YtmidnniinjkffaaDoor

/- Locs: writing: a list of spots. -/
namespace Go.Proofs.YtmidnniinjkffaaDoor
open Go.RowKit

/-- How one thing of a list is written. -/
def OneW (f : Nat) (mk : Value → Array Value) (base tb z : Nat) (keep : World → Nat → Prop) (w0 : World) (g off K : Nat) (bs : Nat → List Int) (m : Nat) : Prop :=
  ∀ (j : Nat) (W : World) (pv : Value) (L : List Int), j < m → keep W j → Below base w0 W → W.heap[tb]? = some (TO pv 0 false) → ownY W base pv L → L.length + (bs j).length + 9 ≤ 140737488355328 →
    Calls Tryd.prog f (mk (.pointer (some ⟨g, off + j * K, none⟩))) W fun e w' => e = .returned (.tuple #[]) ∧ (∃ pv', TX base tb z W w' pv' (L ++ bs j)) ∧ keep w' (j + 1)

theorem range_snoc (bs : Nat → List Int) (j : Nat) : (List.range (j + 1)).flatMap bs = (List.range j).flatMap bs ++ bs j := by rw [List.range_succ, List.flatMap_append]; simp
theorem range_le (bs : Nat → List Int) {j m : Nat} (h : j < m) : ((List.range j).flatMap bs).length + (bs j).length ≤ ((List.range m).flatMap bs).length := by
  have h1 := flat_le bs (List.range m) (j := j) (by simpa using h)
  rw [List.take_range, Nat.min_eq_left (by omega)] at h1
  simpa using h1
theorem range_flat {α : Type} (W : α → List Int) (xs : List α) : ∀ k, k ≤ xs.length → (List.range k).flatMap (fun j => ((xs[j]?).map W).getD []) = (xs.take k).flatMap W
  | 0, _ => by simp
  | k + 1, h => by
    rw [range_snoc, range_flat W xs k (by omega), flat_succ W xs (by omega)]
    simp [List.getElem?_eq_getElem (show k < xs.length by omega)]

set_option maxRecDepth 100000 in
set_option maxHeartbeats 4000000 in
theorem list_wspot (cb base tb z : Nat) (keep : World → Nat → Prop) (w0 : World) (bs : Nat → List Int) (lb lo g off m cap : Nat) (a : Option Addr) (c : Array Value) (T : TypeId) (pv : Value) (L : List Int) (w : World)
   (hbt : base ≤ tb) (hat : w.heap[tb]? = some (TO pv 0 false)) (hown : ownY w base pv L) (hb0 : Below base w0 w) (hl : w.heap[lb]? = some (.cells c T (0, 0))) (hT : T ≠ 5) (hc : c[lo]? = some (.slice a m cap)) (ha : 0 < m → a = some ⟨g, off, none⟩) (hm : m ≤ 2147483647) (hlb : lb ≠ tb) (hlz : lb ≠ z)
   (hone : OneW 33 (fun v => #[v, .pointer (some ⟨cb, 0, none⟩)]) base tb z keep w0 g off 2 bs m) (hk0 : keep w 0) (hkeep : ∀ W W' pv L j, keep W j → TX base tb tb W W' pv L → keep W' j)
   (hbd : L.length + (numW m).length + ((List.range m).flatMap bs).length + 9 ≤ 140737488355328) :
   Calls Tryd.prog 32 #[.pointer (some ⟨tb, 0, none⟩), .pointer (some ⟨lb, lo, none⟩), .func (.func 33) #[] #[.pointer (some ⟨cb, 0, none⟩)]] w fun e w' =>
     e = .returned (.tuple #[]) ∧ (∃ pv', TX base tb z w w' pv' (L ++ numW m ++ (List.range m).flatMap bs)) ∧ keep w' m := by
  have htl := heap_lt hat
  have hll := heap_lt hl
  have k0 := cell_of hl hc
  have T0 := Lib.hid ((TX.refl (z := tb) hat hown).later (w2 := w.alloc (.cells #[.int .i64 m] 3)) ((Below.refl _ _).alloc (Nat.le_refl _) _) (by omega))
  have HP := Lib.hid (plain_write base tb pv L w.heap.size 0 #[.int .i64 m] 3 m _ hbt T0.out.at_ T0.out.own ⟨by omega, by omega⟩ (by omega) (heap_new _ _ rfl) rfl (by decide) (by omega))
  have HK := Lib.hid hkeep
  have HK0 := Lib.hid hk0
  have HL := Lib.hid hl
  have HONE := Lib.hid hone
  have HB0 := Lib.hid hb0
  clear hat hown hl hkeep hk0 hone hb0
  go_enter Tryd.func32, Tryd.ntmps32
  go_wp2_with fail
  refine HP.out.mono ?_
  rintro e w1 ⟨rfl, pv1, ht⟩
  rw [Int.toNat_natCast] at ht
  have kn := cell_of (ht.oth _ _ (heap_new w (.cells #[.int .i64 m] 3) rfl) (notY_cells (by decide)) (by omega) (by omega)) (show (#[Value.int .i64 (m : Int)])[0]? = _ from rfl)
  have T1 := Lib.hid (T0.out.trans ht)
  obtain ⟨M, hM⟩ : ∃ M, L ++ numW m = M := ⟨_, rfl⟩
  have HM := Lib.hid hM
  rw [hM] at T1
  have hML : M.length + ((List.range m).flatMap bs).length + 9 ≤ 140737488355328 := by rw [← hM, List.length_append]; omega
  clear hM ht HP k0 hbd
  go_wp2_with fail
  go_loopw [16] (fun i wr => ∃ (j : Nat) (pv' : Value), j ≤ m ∧ i = .int .i64 j ∧ TX base tb z w wr pv' (M ++ (List.range j).flatMap bs) ∧ keep wr j) (fun i _ => m - (intOf i).toNat)
  case atStart => exact ⟨0, pv1, by omega, rfl, by simpa using T1.out.wide, HK.out _ _ _ _ _ HK0.out T1.out⟩
  case round =>
    clear T1 kn
    obtain ⟨j, pv2, hj, rfl, ht, hk⟩ := hrel
    have T2 := Lib.hid ht
    have K2 := Lib.hid hk
    obtain ⟨-, -, q2, -, -⟩ := to_cells ht.at_
    have kl := cell_of (ht.oth _ _ HL.out (notY_cells hT) hlb hlz) hc
    clear ht hk
    by_cases hjm : j < m
    · obtain rfl := ha (by omega)
      have hrl := range_le bs hjm
      have C := Lib.hid (HONE.out j wr pv2 _ hjm K2.out (HB0.out.trans T2.out.bel) T2.out.at_ T2.out.own (by rw [List.length_append]; omega))
      clear hrl
      go_wp2_with fail
      refine C.out.mono ?_
      rintro e w3 ⟨rfl, ⟨pv3, ht3⟩, hk3⟩
      have T3 := Lib.hid (T2.out.trans ht3)
      have K3 := Lib.hid hk3
      clear ht3 hk3 C kl q2
      go_wp2_with fail
      exact ⟨⟨j + 1, pv3, by omega, by go_num, by rw [range_snoc, ← List.append_assoc]; exact T3.out, K3.out⟩, by simp [intOf]; omega⟩
    · obtain rfl : j = m := by omega
      clear kl q2
      go_wp2_with fail
      go_end0
      exact ⟨rfl, ⟨pv2, by rw [HM.out]; exact T2.out⟩, K2.out⟩
end Go.Proofs.YtmidnniinjkffaaDoor

/- Locs: writing: a list of stops. (printed by gen_wlist.py) -/
namespace Go.Proofs.YtmidnniinjkffaaDoor
open Go.RowKit

set_option maxRecDepth 100000 in
set_option maxHeartbeats 4000000 in
theorem list_wstops (cb base tb z : Nat) (keep : World → Nat → Prop) (w0 : World) (bs : Nat → List Int) (lb lo g off m cap : Nat) (a : Option Addr) (c : Array Value) (T : TypeId) (pv : Value) (L : List Int) (w : World)
   (hbt : base ≤ tb) (hat : w.heap[tb]? = some (TO pv 0 false)) (hown : ownY w base pv L) (hb0 : Below base w0 w) (hl : w.heap[lb]? = some (.cells c T (0, 0))) (hT : T ≠ 5) (hc : c[lo]? = some (.slice a m cap)) (ha : 0 < m → a = some ⟨g, off, none⟩) (hm : m ≤ 2147483647) (hlb : lb ≠ tb) (hlz : lb ≠ z)
   (hone : OneW 31 (fun v => #[v, .pointer (some ⟨cb, 0, none⟩)]) base tb z keep w0 g off 1 bs m) (hk0 : keep w 0) (hkeep : ∀ W W' pv L j, keep W j → TX base tb tb W W' pv L → keep W' j)
   (hbd : L.length + (numW m).length + ((List.range m).flatMap bs).length + 9 ≤ 140737488355328) :
   Calls Tryd.prog 30 #[.pointer (some ⟨tb, 0, none⟩), .pointer (some ⟨lb, lo, none⟩), .func (.func 31) #[] #[.pointer (some ⟨cb, 0, none⟩)]] w fun e w' =>
     e = .returned (.tuple #[]) ∧ (∃ pv', TX base tb z w w' pv' (L ++ numW m ++ (List.range m).flatMap bs)) ∧ keep w' m := by
  have htl := heap_lt hat
  have hll := heap_lt hl
  have k0 := cell_of hl hc
  have T0 := Lib.hid ((TX.refl (z := tb) hat hown).later (w2 := w.alloc (.cells #[.int .i64 m] 3)) ((Below.refl _ _).alloc (Nat.le_refl _) _) (by omega))
  have HP := Lib.hid (plain_write base tb pv L w.heap.size 0 #[.int .i64 m] 3 m _ hbt T0.out.at_ T0.out.own ⟨by omega, by omega⟩ (by omega) (heap_new _ _ rfl) rfl (by decide) (by omega))
  have HK := Lib.hid hkeep
  have HK0 := Lib.hid hk0
  have HL := Lib.hid hl
  have HONE := Lib.hid hone
  have HB0 := Lib.hid hb0
  clear hat hown hl hkeep hk0 hone hb0
  go_enter Tryd.func30, Tryd.ntmps30
  go_wp2_with fail
  refine HP.out.mono ?_
  rintro e w1 ⟨rfl, pv1, ht⟩
  rw [Int.toNat_natCast] at ht
  have kn := cell_of (ht.oth _ _ (heap_new w (.cells #[.int .i64 m] 3) rfl) (notY_cells (by decide)) (by omega) (by omega)) (show (#[Value.int .i64 (m : Int)])[0]? = _ from rfl)
  have T1 := Lib.hid (T0.out.trans ht)
  obtain ⟨M, hM⟩ : ∃ M, L ++ numW m = M := ⟨_, rfl⟩
  have HM := Lib.hid hM
  rw [hM] at T1
  have hML : M.length + ((List.range m).flatMap bs).length + 9 ≤ 140737488355328 := by rw [← hM, List.length_append]; omega
  clear hM ht HP k0 hbd
  go_wp2_with fail
  go_loopw [16] (fun i wr => ∃ (j : Nat) (pv' : Value), j ≤ m ∧ i = .int .i64 j ∧ TX base tb z w wr pv' (M ++ (List.range j).flatMap bs) ∧ keep wr j) (fun i _ => m - (intOf i).toNat)
  case atStart => exact ⟨0, pv1, by omega, rfl, by simpa using T1.out.wide, HK.out _ _ _ _ _ HK0.out T1.out⟩
  case round =>
    clear T1 kn
    obtain ⟨j, pv2, hj, rfl, ht, hk⟩ := hrel
    have T2 := Lib.hid ht
    have K2 := Lib.hid hk
    obtain ⟨-, -, q2, -, -⟩ := to_cells ht.at_
    have kl := cell_of (ht.oth _ _ HL.out (notY_cells hT) hlb hlz) hc
    clear ht hk
    by_cases hjm : j < m
    · obtain rfl := ha (by omega)
      have hrl := range_le bs hjm
      have C := Lib.hid (HONE.out j wr pv2 _ hjm K2.out (HB0.out.trans T2.out.bel) T2.out.at_ T2.out.own (by rw [List.length_append]; omega))
      clear hrl
      simp only [Nat.mul_one] at C
      go_wp2_with fail
      refine C.out.mono ?_
      rintro e w3 ⟨rfl, ⟨pv3, ht3⟩, hk3⟩
      have T3 := Lib.hid (T2.out.trans ht3)
      have K3 := Lib.hid hk3
      clear ht3 hk3 C kl q2
      go_wp2_with fail
      exact ⟨⟨j + 1, pv3, by omega, by go_num, by rw [range_snoc, ← List.append_assoc]; exact T3.out, K3.out⟩, by simp [intOf]; omega⟩
    · obtain rfl : j = m := by omega
      clear kl q2
      go_wp2_with fail
      go_end0
      exact ⟨rfl, ⟨pv2, by rw [HM.out]; exact T2.out⟩, K2.out⟩
end Go.Proofs.YtmidnniinjkffaaDoor

/- Locs: writing: a list of marks. (printed by gen_wlist.py) -/
namespace Go.Proofs.YtmidnniinjkffaaDoor
open Go.RowKit

set_option maxRecDepth 100000 in
set_option maxHeartbeats 4000000 in
theorem list_wmarks (cb base tb z : Nat) (keep : World → Nat → Prop) (w0 : World) (bs : Nat → List Int) (lb lo g off m cap : Nat) (a : Option Addr) (c : Array Value) (T : TypeId) (pv : Value) (L : List Int) (w : World)
   (hbt : base ≤ tb) (hat : w.heap[tb]? = some (TO pv 0 false)) (hown : ownY w base pv L) (hb0 : Below base w0 w) (hl : w.heap[lb]? = some (.cells c T (0, 0))) (hT : T ≠ 5) (hc : c[lo]? = some (.slice a m cap)) (ha : 0 < m → a = some ⟨g, off, none⟩) (hm : m ≤ 2147483647) (hlb : lb ≠ tb) (hlz : lb ≠ z)
   (hone : OneW 36 (fun v => #[v, .pointer (some ⟨cb, 0, none⟩)]) base tb z keep w0 g off 2 bs m) (hk0 : keep w 0) (hkeep : ∀ W W' pv L j, keep W j → TX base tb tb W W' pv L → keep W' j)
   (hbd : L.length + (numW m).length + ((List.range m).flatMap bs).length + 9 ≤ 140737488355328) :
   Calls Tryd.prog 35 #[.pointer (some ⟨tb, 0, none⟩), .pointer (some ⟨lb, lo, none⟩), .func (.func 36) #[] #[.pointer (some ⟨cb, 0, none⟩)]] w fun e w' =>
     e = .returned (.tuple #[]) ∧ (∃ pv', TX base tb z w w' pv' (L ++ numW m ++ (List.range m).flatMap bs)) ∧ keep w' m := by
  have htl := heap_lt hat
  have hll := heap_lt hl
  have k0 := cell_of hl hc
  have T0 := Lib.hid ((TX.refl (z := tb) hat hown).later (w2 := w.alloc (.cells #[.int .i64 m] 3)) ((Below.refl _ _).alloc (Nat.le_refl _) _) (by omega))
  have HP := Lib.hid (plain_write base tb pv L w.heap.size 0 #[.int .i64 m] 3 m _ hbt T0.out.at_ T0.out.own ⟨by omega, by omega⟩ (by omega) (heap_new _ _ rfl) rfl (by decide) (by omega))
  have HK := Lib.hid hkeep
  have HK0 := Lib.hid hk0
  have HL := Lib.hid hl
  have HONE := Lib.hid hone
  have HB0 := Lib.hid hb0
  clear hat hown hl hkeep hk0 hone hb0
  go_enter Tryd.func35, Tryd.ntmps35
  go_wp2_with fail
  refine HP.out.mono ?_
  rintro e w1 ⟨rfl, pv1, ht⟩
  rw [Int.toNat_natCast] at ht
  have kn := cell_of (ht.oth _ _ (heap_new w (.cells #[.int .i64 m] 3) rfl) (notY_cells (by decide)) (by omega) (by omega)) (show (#[Value.int .i64 (m : Int)])[0]? = _ from rfl)
  have T1 := Lib.hid (T0.out.trans ht)
  obtain ⟨M, hM⟩ : ∃ M, L ++ numW m = M := ⟨_, rfl⟩
  have HM := Lib.hid hM
  rw [hM] at T1
  have hML : M.length + ((List.range m).flatMap bs).length + 9 ≤ 140737488355328 := by rw [← hM, List.length_append]; omega
  clear hM ht HP k0 hbd
  go_wp2_with fail
  go_loopw [16] (fun i wr => ∃ (j : Nat) (pv' : Value), j ≤ m ∧ i = .int .i64 j ∧ TX base tb z w wr pv' (M ++ (List.range j).flatMap bs) ∧ keep wr j) (fun i _ => m - (intOf i).toNat)
  case atStart => exact ⟨0, pv1, by omega, rfl, by simpa using T1.out.wide, HK.out _ _ _ _ _ HK0.out T1.out⟩
  case round =>
    clear T1 kn
    obtain ⟨j, pv2, hj, rfl, ht, hk⟩ := hrel
    have T2 := Lib.hid ht
    have K2 := Lib.hid hk
    obtain ⟨-, -, q2, -, -⟩ := to_cells ht.at_
    have kl := cell_of (ht.oth _ _ HL.out (notY_cells hT) hlb hlz) hc
    clear ht hk
    by_cases hjm : j < m
    · obtain rfl := ha (by omega)
      have hrl := range_le bs hjm
      have C := Lib.hid (HONE.out j wr pv2 _ hjm K2.out (HB0.out.trans T2.out.bel) T2.out.at_ T2.out.own (by rw [List.length_append]; omega))
      clear hrl
      go_wp2_with fail
      refine C.out.mono ?_
      rintro e w3 ⟨rfl, ⟨pv3, ht3⟩, hk3⟩
      have T3 := Lib.hid (T2.out.trans ht3)
      have K3 := Lib.hid hk3
      clear ht3 hk3 C kl q2
      go_wp2_with fail
      exact ⟨⟨j + 1, pv3, by omega, by go_num, by rw [range_snoc, ← List.append_assoc]; exact T3.out, K3.out⟩, by simp [intOf]; omega⟩
    · obtain rfl : j = m := by omega
      clear kl q2
      go_wp2_with fail
      go_end0
      exact ⟨rfl, ⟨pv2, by rw [HM.out]; exact T2.out⟩, K2.out⟩
end Go.Proofs.YtmidnniinjkffaaDoor

/- Locs: writing: a list of locations. (printed by gen_wlist.py) -/
namespace Go.Proofs.YtmidnniinjkffaaDoor
open Go.RowKit

set_option maxRecDepth 100000 in
set_option maxHeartbeats 4000000 in
theorem list_wlocs (base tb z : Nat) (keep : World → Nat → Prop) (w0 : World) (bs : Nat → List Int) (lb lo g off m cap : Nat) (a : Option Addr) (c : Array Value) (T : TypeId) (pv : Value) (L : List Int) (w : World)
   (hbt : base ≤ tb) (hat : w.heap[tb]? = some (TO pv 0 false)) (hown : ownY w base pv L) (hb0 : Below base w0 w) (hl : w.heap[lb]? = some (.cells c T (0, 0))) (hT : T ≠ 5) (hc : c[lo]? = some (.slice a m cap)) (ha : 0 < m → a = some ⟨g, off, none⟩) (hm : m ≤ 2147483647) (hlb : lb ≠ tb) (hlz : lb ≠ z)
   (hone : OneW 38 (fun v => #[.pointer (some ⟨tb, 0, none⟩), v]) base tb z keep w0 g off 6 bs m) (hk0 : keep w 0) (hkeep : ∀ W W' pv L j, keep W j → TX base tb tb W W' pv L → keep W' j)
   (hbd : L.length + (numW m).length + ((List.range m).flatMap bs).length + 9 ≤ 140737488355328) :
   Calls Tryd.prog 37 #[.pointer (some ⟨tb, 0, none⟩), .pointer (some ⟨lb, lo, none⟩), .func (.func 38) #[.pointer (some ⟨tb, 0, none⟩)] #[]] w fun e w' =>
     e = .returned (.tuple #[]) ∧ (∃ pv', TX base tb z w w' pv' (L ++ numW m ++ (List.range m).flatMap bs)) ∧ keep w' m := by
  have htl := heap_lt hat
  have hll := heap_lt hl
  have k0 := cell_of hl hc
  have T0 := Lib.hid ((TX.refl (z := tb) hat hown).later (w2 := w.alloc (.cells #[.int .i64 m] 3)) ((Below.refl _ _).alloc (Nat.le_refl _) _) (by omega))
  have HP := Lib.hid (plain_write base tb pv L w.heap.size 0 #[.int .i64 m] 3 m _ hbt T0.out.at_ T0.out.own ⟨by omega, by omega⟩ (by omega) (heap_new _ _ rfl) rfl (by decide) (by omega))
  have HK := Lib.hid hkeep
  have HK0 := Lib.hid hk0
  have HL := Lib.hid hl
  have HONE := Lib.hid hone
  have HB0 := Lib.hid hb0
  clear hat hown hl hkeep hk0 hone hb0
  go_enter Tryd.func37, Tryd.ntmps37
  go_wp2_with fail
  refine HP.out.mono ?_
  rintro e w1 ⟨rfl, pv1, ht⟩
  rw [Int.toNat_natCast] at ht
  have kn := cell_of (ht.oth _ _ (heap_new w (.cells #[.int .i64 m] 3) rfl) (notY_cells (by decide)) (by omega) (by omega)) (show (#[Value.int .i64 (m : Int)])[0]? = _ from rfl)
  have T1 := Lib.hid (T0.out.trans ht)
  obtain ⟨M, hM⟩ : ∃ M, L ++ numW m = M := ⟨_, rfl⟩
  have HM := Lib.hid hM
  rw [hM] at T1
  have hML : M.length + ((List.range m).flatMap bs).length + 9 ≤ 140737488355328 := by rw [← hM, List.length_append]; omega
  clear hM ht HP k0 hbd
  go_wp2_with fail
  go_loopw [16] (fun i wr => ∃ (j : Nat) (pv' : Value), j ≤ m ∧ i = .int .i64 j ∧ TX base tb z w wr pv' (M ++ (List.range j).flatMap bs) ∧ keep wr j) (fun i _ => m - (intOf i).toNat)
  case atStart => exact ⟨0, pv1, by omega, rfl, by simpa using T1.out.wide, HK.out _ _ _ _ _ HK0.out T1.out⟩
  case round =>
    clear T1 kn
    obtain ⟨j, pv2, hj, rfl, ht, hk⟩ := hrel
    have T2 := Lib.hid ht
    have K2 := Lib.hid hk
    obtain ⟨-, -, q2, -, -⟩ := to_cells ht.at_
    have kl := cell_of (ht.oth _ _ HL.out (notY_cells hT) hlb hlz) hc
    clear ht hk
    by_cases hjm : j < m
    · obtain rfl := ha (by omega)
      have hrl := range_le bs hjm
      have C := Lib.hid (HONE.out j wr pv2 _ hjm K2.out (HB0.out.trans T2.out.bel) T2.out.at_ T2.out.own (by rw [List.length_append]; omega))
      clear hrl
      go_wp2_with fail
      refine C.out.mono ?_
      rintro e w3 ⟨rfl, ⟨pv3, ht3⟩, hk3⟩
      have T3 := Lib.hid (T2.out.trans ht3)
      have K3 := Lib.hid hk3
      clear ht3 hk3 C kl q2
      go_wp2_with fail
      exact ⟨⟨j + 1, pv3, by omega, by go_num, by rw [range_snoc, ← List.append_assoc]; exact T3.out, K3.out⟩, by simp [intOf]; omega⟩
    · obtain rfl : j = m := by omega
      clear kl q2
      go_wp2_with fail
      go_end0
      exact ⟨rfl, ⟨pv2, by rw [HM.out]; exact T2.out⟩, K2.out⟩
end Go.Proofs.YtmidnniinjkffaaDoor

/- Locs: writing: a list of sites. (printed by gen_wlist.py) -/
namespace Go.Proofs.YtmidnniinjkffaaDoor
open Go.RowKit

set_option maxRecDepth 100000 in
set_option maxHeartbeats 4000000 in
theorem list_wsites (cb base tb z : Nat) (keep : World → Nat → Prop) (w0 : World) (bs : Nat → List Int) (lb lo g off m cap : Nat) (a : Option Addr) (c : Array Value) (T : TypeId) (pv : Value) (L : List Int) (w : World)
   (hbt : base ≤ tb) (hat : w.heap[tb]? = some (TO pv 0 false)) (hown : ownY w base pv L) (hb0 : Below base w0 w) (hl : w.heap[lb]? = some (.cells c T (0, 0))) (hT : T ≠ 5) (hc : c[lo]? = some (.slice a m cap)) (ha : 0 < m → a = some ⟨g, off, none⟩) (hm : m ≤ 2147483647) (hlb : lb ≠ tb) (hlz : lb ≠ z)
   (hone : OneW 40 (fun v => #[v, .pointer (some ⟨z, 0, none⟩), .pointer (some ⟨cb, 0, none⟩)]) base tb z keep w0 g off 2 bs m) (hk0 : keep w 0) (hkeep : ∀ W W' pv L j, keep W j → TX base tb tb W W' pv L → keep W' j)
   (hbd : L.length + (numW m).length + ((List.range m).flatMap bs).length + 9 ≤ 140737488355328) :
   Calls Tryd.prog 39 #[.pointer (some ⟨tb, 0, none⟩), .pointer (some ⟨lb, lo, none⟩), .func (.func 40) #[] #[.pointer (some ⟨z, 0, none⟩), .pointer (some ⟨cb, 0, none⟩)]] w fun e w' =>
     e = .returned (.tuple #[]) ∧ (∃ pv', TX base tb z w w' pv' (L ++ numW m ++ (List.range m).flatMap bs)) ∧ keep w' m := by
  have htl := heap_lt hat
  have hll := heap_lt hl
  have k0 := cell_of hl hc
  have T0 := Lib.hid ((TX.refl (z := tb) hat hown).later (w2 := w.alloc (.cells #[.int .i64 m] 3)) ((Below.refl _ _).alloc (Nat.le_refl _) _) (by omega))
  have HP := Lib.hid (plain_write base tb pv L w.heap.size 0 #[.int .i64 m] 3 m _ hbt T0.out.at_ T0.out.own ⟨by omega, by omega⟩ (by omega) (heap_new _ _ rfl) rfl (by decide) (by omega))
  have HK := Lib.hid hkeep
  have HK0 := Lib.hid hk0
  have HL := Lib.hid hl
  have HONE := Lib.hid hone
  have HB0 := Lib.hid hb0
  clear hat hown hl hkeep hk0 hone hb0
  go_enter Tryd.func39, Tryd.ntmps39
  go_wp2_with fail
  refine HP.out.mono ?_
  rintro e w1 ⟨rfl, pv1, ht⟩
  rw [Int.toNat_natCast] at ht
  have kn := cell_of (ht.oth _ _ (heap_new w (.cells #[.int .i64 m] 3) rfl) (notY_cells (by decide)) (by omega) (by omega)) (show (#[Value.int .i64 (m : Int)])[0]? = _ from rfl)
  have T1 := Lib.hid (T0.out.trans ht)
  obtain ⟨M, hM⟩ : ∃ M, L ++ numW m = M := ⟨_, rfl⟩
  have HM := Lib.hid hM
  rw [hM] at T1
  have hML : M.length + ((List.range m).flatMap bs).length + 9 ≤ 140737488355328 := by rw [← hM, List.length_append]; omega
  clear hM ht HP k0 hbd
  go_wp2_with fail
  go_loopw [16] (fun i wr => ∃ (j : Nat) (pv' : Value), j ≤ m ∧ i = .int .i64 j ∧ TX base tb z w wr pv' (M ++ (List.range j).flatMap bs) ∧ keep wr j) (fun i _ => m - (intOf i).toNat)
  case atStart => exact ⟨0, pv1, by omega, rfl, by simpa using T1.out.wide, HK.out _ _ _ _ _ HK0.out T1.out⟩
  case round =>
    clear T1 kn
    obtain ⟨j, pv2, hj, rfl, ht, hk⟩ := hrel
    have T2 := Lib.hid ht
    have K2 := Lib.hid hk
    obtain ⟨-, -, q2, -, -⟩ := to_cells ht.at_
    have kl := cell_of (ht.oth _ _ HL.out (notY_cells hT) hlb hlz) hc
    clear ht hk
    by_cases hjm : j < m
    · obtain rfl := ha (by omega)
      have hrl := range_le bs hjm
      have C := Lib.hid (HONE.out j wr pv2 _ hjm K2.out (HB0.out.trans T2.out.bel) T2.out.at_ T2.out.own (by rw [List.length_append]; omega))
      clear hrl
      go_wp2_with fail
      refine C.out.mono ?_
      rintro e w3 ⟨rfl, ⟨pv3, ht3⟩, hk3⟩
      have T3 := Lib.hid (T2.out.trans ht3)
      have K3 := Lib.hid hk3
      clear ht3 hk3 C kl q2
      go_wp2_with fail
      exact ⟨⟨j + 1, pv3, by omega, by go_num, by rw [range_snoc, ← List.append_assoc]; exact T3.out, K3.out⟩, by simp [intOf]; omega⟩
    · obtain rfl : j = m := by omega
      clear kl q2
      go_wp2_with fail
      go_end0
      exact ⟨rfl, ⟨pv2, by rw [HM.out]; exact T2.out⟩, K2.out⟩
end Go.Proofs.YtmidnniinjkffaaDoor
