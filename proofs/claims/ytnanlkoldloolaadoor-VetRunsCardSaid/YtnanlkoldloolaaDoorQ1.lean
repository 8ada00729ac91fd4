/- Locs: reading: a byte. -/
import Derived.Test.YtnanlkoldloolaaDoorQ0
import Derived.Test.YtnanlkoldloolaaDoorProg
import Derived.WalkKit
import Derived.WalkLawsBesides
import Derived.WalkSpells
import Derived.Lib.Hide
import Derived.Deep.Light
import Derived.BigQuiet
import Derived.Deep.QuietTactic
import Derived.Laws.BitsAllLaws
import Derived.Deep.DeepCutAuto
import Derived.Deep.RegionHeld3
import Derived.Deep.RegionLaw
import Derived.Shelf.RegionOpenPlain
import Derived.StillTailTactics
namespace Go.Proofs.YtnanlkoldloolaaDoor
open Go.RowKit

structure Turn (w w' : World) (k : Nat) (o : Obj) : Prop where
  at_ : w'.heap[k]? = some o
  os : w'.os = w.os
  tape : w'.tape = w.tape
  output : w'.output = w.output
  size : w.heap.size ≤ w'.heap.size
  block : ∀ j, j < w.heap.size → j ≠ k → w'.heap[j]? = w.heap[j]?
theorem Turn.later {w w' w'' : World} {k : Nat} {o : Obj} (h : Turn w w' k o) (hb : Below w'.heap.size w' w'') : Turn w w'' k o :=
  ⟨(hb.block k (Array.getElem?_eq_some_iff.1 h.at_).1).trans h.at_, hb.os.trans h.os, hb.tape.trans h.tape, hb.output.trans h.output, Nat.le_trans h.size hb.size, fun j hj hne => (hb.block j (Nat.lt_of_lt_of_le hj h.size)).trans (h.block j hj hne)⟩
theorem Turn.before {w w' w'' : World} {k : Nat} {o : Obj} (hb : Below w.heap.size w w') (h : Turn w' w'' k o) : Turn w w'' k o :=
  ⟨h.at_, h.os.trans hb.os, h.tape.trans hb.tape, h.output.trans hb.output, Nat.le_trans hb.size h.size, fun j hj hne => (h.block j (Nat.lt_of_lt_of_le hj hb.size) hne).trans (hb.block j hj)⟩
theorem turn_set {w : World} {k i : Nat} {c : Array Value} {t : TypeId} {f : Nat × Nat} (h : w.heap[k]? = some (.cells c t f)) (v : Value) : Turn w (w.setCell ⟨k, i, none⟩ v) k (.cells (c.setIfInBounds i v) t f) :=
  ⟨by simp [World.setCell, Array.getElem?_modify, h], rfl, rfl, rfl, by rw [World.size_setCell]; exact Nat.le_refl _, fun j _ hne => Below.heap_setCell _ _ _ _ hne⟩
theorem Turn.trans {w w' w'' : World} {k : Nat} {o o' : Obj} (h : Turn w w' k o) (h2 : Turn w' w'' k o') : Turn w w'' k o' :=
  ⟨h2.at_, h2.os.trans h.os, h2.tape.trans h.tape, h2.output.trans h.output, Nat.le_trans h.size h2.size, fun j hj hne => (h2.block j (Nat.lt_of_lt_of_le hj h.size) hne).trans (h.block j hj hne)⟩
theorem Turn.below {w0 w w' : World} {k base : Nat} {o : Obj} (hb : Below base w0 w) (h : Turn w w' k o) (hk : base ≤ k) (hs : base ≤ w.heap.size) : Below base w0 w' :=
  hb.trans ⟨h.os, h.tape, h.output, h.size, fun j hj => h.block j (by omega) (by omega)⟩

/-- The bytes' turner: what it reads, where it is, does it read. -/
abbrev TO (pv : Value) (n : Int) (rd : Bool) : Obj := .cells #[pv, .int .i64 n, .bool rd] 112 (0, 0)

theorem to_cells {w : World} {tb : Nat} {pv : Value} {n : Int} {rd : Bool} (h : w.heap[tb]? = some (TO pv n rd)) : w.cell? ⟨tb, 0, none⟩ = some pv ∧ w.cell? ⟨tb, 1, none⟩ = some (.int .i64 n) ∧ w.cell? ⟨tb, 2, none⟩ = some (.bool rd) ∧ w.frozen? ⟨tb, 0, none⟩ = false ∧ w.frozen? ⟨tb, 1, none⟩ = false := by
  simp [World.cell?, World.frozen?, h]

theorem turn_drewN {w w' : World} {k : Nat} {o : Obj} (h : Turn w w' k o) (n : Nat) : Turn w (w'.drewN n) k o := ⟨h.at_, h.os, h.tape, h.output, h.size, h.block⟩

set_option maxHeartbeats 1000000 in
theorem one_some (tb : Nat) (pv : Value) (l : List Int) (at' : Nat) (rd : Bool) (w : World) (hv : RdB w pv l) (hlt : at' < l.length) (ho : w.heap[tb]? = some (TO pv at' rd)) (hne : pv.ownBlock ≠ some tb) :
   Calls Tryd.prog 74 #[.pointer (some ⟨tb, 0, none⟩)] w fun e w' => e = .returned (.int .u8 (l.getD at' 0)) ∧ Turn w w' tb (TO pv ((at' + 1 : Nat) : Int) rd) := by
  rcases hv.split with ⟨a, c, rfl, rfl⟩ | ⟨b, off, c, rfl, hp, hlc, hc9, hb, hcell⟩
  · simp at hlt
  obtain ⟨k0, k1, k2, z0, hz⟩ := to_cells ho
  have hc := hcell at' hlt
  have hbt : b ≠ tb := fun h => hne (by simp [Value.ownBlock, h])
  have hge : decide (l.length ≤ at') = false := decide_eq_false (by omega)
  have hw1 : ((at' : Int) + 1) - 1 = at' := by omega
  have hlt2 : (at' : Int) + 1 ≤ 9223372036854775807 := by omega
  have HO := Lib.hid ho
  clear hv hcell hne ho
  go_enter Tryd.func74, Tryd.ntmps74
  go_wp2_with fail
  go_quiet (fail)
  go_wp2_with fail
  go_quiet (fail)
  go_wp2_with fail
  go_ret
  refine ⟨by simp [hlt], turn_drewN ?_ _⟩
  exact Turn.before (below_drewN (Below.refl _ _) _) (turn_set (w := w.drewN _) (k := tb) (i := 1) HO.out (.int .i64 ((at' : Int) + 1)))

/-- What a turn gives up with. -/
abbrev Gives (w : World) (gt : TypeId) (gv : Value) : Prop := w.cell? ⟨0, 0, none⟩ = some (.iface gt gv)

set_option maxHeartbeats 1000000 in
theorem one_none (tb : Nat) (pv : Value) (l : List Int) (at' : Nat) (rd : Bool) (w : World) (hv : RdB w pv l) (hlt : l.length ≤ at') (ho : w.heap[tb]? = some (TO pv at' rd)) (gt : TypeId) (gv : Value) (hg : Gives w gt gv) :
   Calls Tryd.prog 74 #[.pointer (some ⟨tb, 0, none⟩)] w fun e w' => e = .panicked [{ v := .iface gt gv, recovered := false }] ∧ Below w.heap.size w w' := by
  obtain ⟨k0, k1, k2, z0, hz⟩ := to_cells ho
  obtain ⟨a, c, rfl⟩ := Rd.shape hv
  have hge : decide (l.length ≤ at') = true := decide_eq_true (by omega)
  have HO := Lib.hid ho
  clear hv ho
  go_enter Tryd.func74, Tryd.ntmps74
  go_wp2_with fail
  go_quiet (fail)
  go_wp2_with fail
  exact ⟨rfl, rfl, below_drewN (Below.refl _ _) _⟩
end Go.Proofs.YtnanlkoldloolaaDoor

/- Locs: reading: a number. -/
namespace Go.Proofs.YtnanlkoldloolaaDoor
open Go.RowKit

/-- Bytes, the greatest first. -/
def beL (l : List Int) : Int := l.foldl (fun n x => n * 256 + x) 0
theorem beL_snoc (l : List Int) (x : Int) : beL (l ++ [x]) = beL l * 256 + x := by simp [beL]
theorem beL_bd : ∀ (k : Nat) (l : List Int), l.length = k → isB l → 0 ≤ beL l ∧ beL l < 256 ^ k
  | 0, l, h, _ => by obtain rfl := List.eq_nil_of_length_eq_zero h; simp [beL]
  | k + 1, l, h, hB => by
    obtain ⟨r, x, rfl⟩ : ∃ r x, l = r ++ [x] := by
      have hne : l ≠ [] := by rintro rfl; simp at h
      exact ⟨l.dropLast, l.getLast hne, (List.dropLast_concat_getLast hne).symm⟩
    have ih := beL_bd k r (by simpa using h) (fun y hy => hB y (by simp [hy]))
    have hx := hB x (by simp)
    rw [beL_snoc, Int.pow_succ]
    omega

def bytesAt (l : List Int) (n k : Nat) : List Int := (l.drop n).take k
theorem bytesAt_succ {l : List Int} {n j : Nat} (h : n + j < l.length) : bytesAt l n (j + 1) = bytesAt l n j ++ [l.getD (n + j) 0] := by
  unfold bytesAt
  rw [List.take_succ_eq_append_getElem (by rw [List.length_drop]; omega), List.getElem_drop]
  simp [List.getD, h]
theorem bytesAt_len {l : List Int} {n j : Nat} (h : n + j ≤ l.length) : (bytesAt l n j).length = j := by
  unfold bytesAt; simp; omega
theorem bytesAt_B {l : List Int} (hB : isB l) (n j : Nat) : isB (bytesAt l n j) := fun x hx => hB x (List.mem_of_mem_drop (List.mem_of_mem_take hx))

/-- A number read at a place, and the place behind it. -/
def numR (l : List Int) (n : Nat) : Option (Int × Nat) :=
  if n < l.length then
    if l.getD n 0 ≤ 247 then some (l.getD n 0, n + 1)
    else if n + 1 + (l.getD n 0 - 247).toNat ≤ l.length ∧ l.getD (n + 1) 0 ≠ 0 ∧ 247 < beL (bytesAt l (n + 1) (l.getD n 0 - 247).toNat) then some (beL (bytesAt l (n + 1) (l.getD n 0 - 247).toNat), n + 1 + (l.getD n 0 - 247).toNat)
    else none
  else none

theorem or_low (n c : Int) (h0 : 0 ≤ n) (h1 : n < 256 ^ 7) (h2 : 0 ≤ c) (h3 : c ≤ 255) : bits .or .u64 (n * 256) c = n * 256 + c := by
  have h7 : n < 72057594037927936 := h1
  clear h1
  rw [u64_or _ _ (by omega) (by omega) h2 (by omega)]
  obtain ⟨a, rfl⟩ := Int.eq_ofNat_of_zero_le h0
  obtain ⟨b, rfl⟩ := Int.eq_ofNat_of_zero_le h2
  have e : ((a : Int) * 256).toNat = a * 256 := by omega
  rw [e, Int.toNat_natCast, Nat.or_comm, nat_join8' _ _ (by omega) (by omega)]
  simp only [Int.natCast_add, Int.natCast_mul, Int.cast_ofNat_Int]

theorem pow256 (j : Nat) (h : j ≤ 7) : (256 : Int) ^ j ≤ 256 ^ 7 := by
  rcases (by omega : j = 0 ∨ j = 1 ∨ j = 2 ∨ j = 3 ∨ j = 4 ∨ j = 5 ∨ j = 6 ∨ j = 7) with rfl | rfl | rfl | rfl | rfl | rfl | rfl | rfl <;> decide
theorem turn_rd {w w' : World} {tb : Nat} {o : Obj} {pv : Value} {l : List Int} (h : RdB w pv l) (ht : Turn w w' tb o) (hne : pv.ownBlock ≠ some tb) : RdB w' pv l :=
  Rd.kept (row := some tb) h ⟨ht.os, ht.tape, ht.output, ht.size, fun k hk hn => ht.block k hk (fun e => hn (by rw [e]))⟩ (.inr hne)
theorem turn_gives {w w' : World} {tb : Nat} {o : Obj} {gt : TypeId} {gv : Value} (h : Gives w gt gv) (ht : Turn w w' tb o) (htb : tb ≠ 0) : Gives w' gt gv := by
  have hlt := World.block_lt_of_cell? w _ h
  unfold Gives
  rw [World.cell?_of_block (w := w) (ht.block 0 hlt (fun e => htb e.symm))]; exact h

set_option maxHeartbeats 4000000 in
theorem unsigned_read (tb : Nat) (pv : Value) (l : List Int) (at' : Nat) (n0 : Int) (w : World) (hv : RdB w pv l) (hB : isB l) (ho : w.heap[tb]? = some (TO pv at' true)) (hne : pv.ownBlock ≠ some tb) (gt : TypeId) (gv : Value) (hg : Gives w gt gv) (htb : tb ≠ 0) :
   Calls Tryd.prog 68 #[.pointer (some ⟨tb, 0, none⟩), .int .u64 n0] w fun e w' =>
     (∃ n a', numR l at' = some (n, a') ∧ e = .returned (.int .u64 n) ∧ Turn w w' tb (TO pv a' true)) ∨
     (numR l at' = none ∧ e = .panicked [{ v := .iface gt gv, recovered := false }] ∧ ∃ a', Turn w w' tb (TO pv a' true)) := by
  have HN := Lib.hid (fun w hv hlt ho => one_none tb pv l at' true w hv hlt ho gt gv)
  have HV := Lib.hid hv
  have HO := Lib.hid ho
  obtain ⟨k0, k1, k2, z0, hz⟩ := to_cells ho
  clear ho hv
  go_enter Tryd.func68, Tryd.ntmps68
  go_wp2_with fail
  by_cases hlt : at' < l.length
  · refine (one_some tb pv l at' true w HV.out hlt HO.out hne).mono ?_
    rintro e w1 ⟨rfl, ht⟩
    have HT := Lib.hid ht
    have b0 := hB (l.getD at' 0) (by simp [hlt])
    obtain ⟨b, hb⟩ : ∃ b, l.getD at' 0 = b := ⟨_, rfl⟩
    have HBE := Lib.hid hb
    rw [hb] at b0 ⊢
    clear hb ht HN
    by_cases hs : b ≤ 247
    · go_wp2_with fail
      go_ret
      exact .inl ⟨b, at' + 1, by unfold numR; rw [if_pos hlt, HBE.out, if_pos hs], rfl, HT.out⟩
    · obtain ⟨k, hk⟩ : ∃ k : Nat, b - 247 = k := ⟨(b - 247).toNat, by omega⟩
      have hk8 : k ≤ 8 := by omega
      have hNR : numR l at' = if at' + 1 + k ≤ l.length ∧ l.getD (at' + 1) 0 ≠ 0 ∧ 247 < beL (bytesAt l (at' + 1) k) then some (beL (bytesAt l (at' + 1) k), at' + 1 + k) else none := by
        have e : (b - 247).toNat = k := by omega
        unfold numR; rw [if_pos hlt, HBE.out, if_neg hs, e]
      have HNR := Lib.hid hNR
      have HK := Lib.hid hk
      clear hNR
      go_wp2_with fail
      go_loopw [77, 1] (fun i n wr => ∃ j : Nat, j ≤ k ∧ at' + 1 + j ≤ l.length ∧ i = .int .i64 j ∧ n = .int .u64 (beL (bytesAt l (at' + 1) j)) ∧ (0 < j → l.getD (at' + 1) 0 ≠ 0) ∧ Turn w wr tb (TO pv ((at' + 1 + j : Nat) : Int) true)) (fun i _ _ => k - (intOf i).toNat)
      case atStart => exact ⟨0, by omega, by omega, rfl, rfl, fun h => absurd h (by omega), HT.out⟩
      case round =>
        obtain ⟨j, hj, hjl, rfl, rfl, hz, ht⟩ := hrel
        have HT2 := Lib.hid ht
        have HZ := Lib.hid hz
        have hbd := beL_bd j (bytesAt l (at' + 1) j) (bytesAt_len hjl) (bytesAt_B hB _ _)
        obtain ⟨n, hn⟩ : ∃ n, beL (bytesAt l (at' + 1) j) = n := ⟨_, rfl⟩
        have HNN := Lib.hid hn
        rw [hn] at hbd ⊢
        clear ht hn hz
        have hgr := turn_gives hg HT2.out htb
        have HRR := Lib.hid (turn_rd HV.out HT2.out hne)
        have hk0 : 0 < k := by omega
        by_cases hjk : j < k
        · have h256 : n < 256 ^ 7 := Int.lt_of_lt_of_le hbd.2 (pow256 j (by omega))
          have hn0 := hbd.1
          clear hbd
          go_wp2_with fail
          by_cases hj2 : at' + 1 + j < l.length
          · refine (one_some tb pv l (at' + 1 + j) true _ HRR.out hj2 HT2.out.at_ hne).mono ?_
            rintro e w2 ⟨rfl, ht2⟩
            have HT3 := Lib.hid (HT2.out.trans ht2)
            have hgr2 := turn_gives hg HT3.out htb
            have c0 := hB (l.getD (at' + 1 + j) 0) (by simp [hj2])
            obtain ⟨c, hc⟩ : ∃ c, l.getD (at' + 1 + j) 0 = c := ⟨_, rfl⟩
            have HCC := Lib.hid hc
            rw [hc] at c0 ⊢
            clear hc ht2
            have hor := or_low n c hn0 h256 c0.1 c0.2
            have HNX : Hid (beL (bytesAt l (at' + 1) (j + 1)) = n * 256 + c) := by
              show _ = _
              rw [bytesAt_succ hj2, beL_snoc, HNN.out, HCC.out]
            by_cases hj0 : j = 0
            · subst hj0
              by_cases hc0 : c = 0
              · subst hc0
                go_wp2_with fail
                exact ⟨rfl, .inr ⟨by rw [HNR.out, if_neg (by rintro ⟨_, h, _⟩; exact h HCC.out)], rfl, _, HT3.out⟩⟩
              · go_wp2_with fail
                exact ⟨⟨1, by omega, by omega, rfl, congrArg (Value.int .u64) HNX.out.symm, fun _ h => hc0 (HCC.out.symm.trans h), HT3.out⟩, by simp [intOf]; omega⟩
            · have hj0' : ((j : Int) == 0) = false := by simp; omega
              go_wp2_with fail
              exact ⟨⟨j + 1, by omega, by omega, by go_num, congrArg (Value.int .u64) HNX.out.symm, fun _ => HZ.out (by omega), HT3.out⟩, by simp [intOf]; omega⟩
          · refine (one_none tb pv l (at' + 1 + j) true _ HRR.out (by omega) HT2.out.at_ gt gv hgr).mono ?_
            rintro e w2 ⟨rfl, hb2⟩
            have HB2 := Lib.hid hb2
            clear hb2
            go_wp2_with fail
            exact ⟨rfl, .inr ⟨by rw [HNR.out, if_neg (by omega)], rfl, _, HT2.out.later HB2.out⟩⟩
        · obtain rfl : j = k := by omega
          clear hbd
          go_wp2_with fail
          · exact ⟨rfl, .inr ⟨by rw [HNR.out, if_neg (by rintro ⟨_, _, h⟩; rw [HNN.out] at h; omega)], rfl, _, HT2.out⟩⟩
          · go_ret
            exact .inl ⟨n, at' + 1 + j, by rw [HNR.out, if_pos ⟨hjl, HZ.out hk0, by rw [HNN.out]; omega⟩, HNN.out], rfl, HT2.out⟩
  · refine (HN.out w HV.out (by omega) HO.out hg).mono ?_
    rintro e w1 ⟨rfl, hb1⟩
    have HB1 := Lib.hid hb1
    clear hb1 HN
    go_wp2_with fail
    exact ⟨rfl, .inr ⟨by unfold numR; rw [if_neg hlt], rfl, at', ⟨(HB1.out.block tb (Array.getElem?_eq_some_iff.1 HO.out).1).trans HO.out, HB1.out.os, HB1.out.tape, HB1.out.output, HB1.out.size, fun j hj _ => HB1.out.block j hj⟩⟩⟩
end Go.Proofs.YtnanlkoldloolaaDoor

/- Locs: reading: a plain number. -/
namespace Go.Proofs.YtnanlkoldloolaaDoor
open Go.RowKit

theorem numR_bd {l : List Int} {a a' : Nat} {n : Int} (hB : isB l) (h : numR l a = some (n, a')) : 0 ≤ n ∧ a < a' ∧ a' ≤ l.length ∧ n < 18446744073709551616 := by
  unfold numR at h
  split at h
  · rename_i hlt
    have hb := hB (l.getD a 0) (by simp [hlt])
    split at h
    · simp at h
      obtain ⟨rfl, rfl⟩ := h
      simp [hlt] at hb ⊢
      omega
    · split at h
      · rename_i h1 h2
        simp only [Option.some.injEq, Prod.mk.injEq] at h
        obtain ⟨rfl, rfl⟩ := h
        have hk : (l.getD a 0 - 247).toNat ≤ 8 := by omega
        have h3 := beL_bd _ _ (bytesAt_len h2.1) (bytesAt_B hB (a + 1) _)
        refine ⟨h3.1, by omega, h2.1, Int.lt_of_lt_of_le h3.2 ?_⟩
        rcases (by omega : (l.getD a 0 - 247).toNat = 0 ∨ (l.getD a 0 - 247).toNat = 1 ∨ (l.getD a 0 - 247).toNat = 2 ∨ (l.getD a 0 - 247).toNat = 3 ∨ (l.getD a 0 - 247).toNat = 4 ∨ (l.getD a 0 - 247).toNat = 5 ∨ (l.getD a 0 - 247).toNat = 6 ∨ (l.getD a 0 - 247).toNat = 7 ∨ (l.getD a 0 - 247).toNat = 8) with e | e | e | e | e | e | e | e | e <;> rw [e] <;> decide
      · cases h
  · cases h

def plainR (l : List Int) (a : Nat) : Option (Int × Nat) := match numR l a with
  | some (n, a') => if n ≤ 2147483647 then some (n, a') else none
  | none => none

set_option maxHeartbeats 4000000 in
theorem plain_read (tb : Nat) (pv : Value) (l : List Int) (at' : Nat) (nb no : Nat) (n1 : Int) (w : World) (hv : RdB w pv l) (hB : isB l) (ho : w.heap[tb]? = some (TO pv at' true)) (hne : pv.ownBlock ≠ some tb) (gt : TypeId) (gv : Value) (hg : Gives w gt gv) (htb : tb ≠ 0)
   (hn : w.cell? ⟨nb, no, none⟩ = some (.int .i64 n1)) (hz : w.frozen? ⟨nb, no, none⟩ = false) (hnb : nb ≠ tb) :
   Calls Tryd.prog 55 #[.pointer (some ⟨tb, 0, none⟩), .pointer (some ⟨nb, no, none⟩)] w fun e w' =>
     (∃ n a' w1, plainR l at' = some (n, a') ∧ e = .returned (.tuple #[]) ∧ Turn w w1 tb (TO pv a' true) ∧ w' = w1.setCell ⟨nb, no, none⟩ (.int .i64 n)) ∨
     (plainR l at' = none ∧ e = .panicked [{ v := .iface gt gv, recovered := false }] ∧ ∃ a', Turn w w' tb (TO pv a' true)) := by
  have HU := Lib.hid (fun n0 => unsigned_read tb pv l at' n0 w hv hB ho hne gt gv hg htb)
  have hnb2 := World.block_lt_of_cell? w _ hn
  clear hv ho hne
  go_enter Tryd.func55, Tryd.ntmps55
  go_wp2_with fail
  refine (HU.out _).mono ?_
  rintro e w1 (⟨n, a', hr, rfl, ht⟩ | ⟨hr, rfl, a', ht⟩)
  · have hbd := numR_bd hB hr
    have hn1 : w1.cell? ⟨nb, no, none⟩ = some (.int .i64 n1) := by rw [World.cell?_of_block (w := w) (ht.block nb hnb2 hnb)]; exact hn
    have hz1 : w1.frozen? ⟨nb, no, none⟩ = false := by rw [World.frozen?_of_block (w := w) (ht.block nb hnb2 hnb)]; exact hz
    have hgr := turn_gives hg ht htb
    have HR := Lib.hid hr
    have HT := Lib.hid ht
    clear hr ht HU
    by_cases hm : n ≤ 2147483647
    · go_wp2_with fail
      go_end0
      exact .inl ⟨n, a', w1, by unfold plainR; rw [HR.out]; simp [hm], rfl, HT.out, rfl⟩
    · go_wp2_with fail
      exact ⟨rfl, .inr ⟨by unfold plainR; rw [HR.out]; simp [hm], rfl, a', HT.out⟩⟩
  · have HR := Lib.hid hr
    have HT := Lib.hid ht
    clear hr ht HU
    go_wp2_with fail
    exact ⟨rfl, .inr ⟨by unfold plainR; rw [HR.out], rfl, a', HT.out⟩⟩
end Go.Proofs.YtnanlkoldloolaaDoor

/- Locs: reading: lists of nothing. -/
namespace Go.Proofs.YtnanlkoldloolaaDoor
open Go.RowKit

theorem turn_setNew {w w1 : World} {tb nb i : Nat} {o : Obj} (h : Turn w w1 tb o) (hn : w.heap.size ≤ nb) (hne : nb ≠ tb) (v : Value) : Turn w (w1.setCell ⟨nb, i, none⟩ v) tb o :=
  ⟨(Below.heap_setCell _ _ _ _ (Ne.symm hne)).trans h.at_, h.os, h.tape, h.output, by rw [World.size_setCell]; exact h.size, fun j hj hne2 => (Below.heap_setCell _ _ _ _ (by show j ≠ nb; omega)).trans (h.block j hj hne2)⟩

set_option maxHeartbeats 4000000 in
theorem list_zero_stops (tb : Nat) (pv : Value) (l : List Int) (at' a' : Nat) (lb lo : Nat) (fv : Value) (w : World) (hv : RdB w pv l) (hB : isB l) (ho : w.heap[tb]? = some (TO pv at' true)) (hne : pv.ownBlock ≠ some tb) (gt : TypeId) (gv : Value) (hg : Gives w gt gv) (htb : tb ≠ 0)
   (hc : w.cell? ⟨lb, lo, none⟩ = some (.slice none 0 0)) (h0 : plainR l at' = some (0, a')) :
   Calls Tryd.prog 51 #[.pointer (some ⟨tb, 0, none⟩), .pointer (some ⟨lb, lo, none⟩), fv] w fun e w' => e = .returned (.tuple #[]) ∧ Turn w w' tb (TO pv a' true) := by
  have htl : tb < w.heap.size := (Array.getElem?_eq_some_iff.1 ho).1
  have hP := plain_read tb pv l at' w.heap.size 0 0 (w.alloc (.cells #[.int .i64 0] 3)) (hv.alloc _) hB ((((Below.refl w.heap.size w).alloc (Nat.le_refl _) _).block tb htl).trans ho) hne gt gv (by unfold Gives; rw [World.cell?_alloc_lt _ _ _ (World.block_lt_of_cell? w _ hg)]; exact hg) htb (by simp) (by simp) (by omega)
  have HP := Lib.hid hP
  have H0 := Lib.hid h0
  clear hP hv ho hne h0
  go_enter Tryd.func51, Tryd.ntmps51
  go_wp2_with fail
  refine HP.out.mono ?_
  rintro e w1 (⟨n, a2, w2, hr, rfl, ht, rfl⟩ | ⟨hr, _⟩)
  · rw [H0.out] at hr
    simp only [Option.some.injEq, Prod.mk.injEq] at hr
    obtain ⟨rfl, rfl⟩ := hr
    have HT : Hid (Turn w (w2.setCell ⟨w.heap.size, 0, none⟩ (.int .i64 0)) tb (TO pv a' true)) := turn_setNew (Turn.before ((Below.refl _ _).alloc (Nat.le_refl _) _) ht) (Nat.le_refl _) (by omega) _
    have hk : (w2.setCell ⟨w.heap.size, 0, none⟩ (.int .i64 0)).cell? ⟨w.heap.size, 0, none⟩ = some (.int .i64 0) := by
      have : w2.heap[w.heap.size]? = (w.alloc (.cells #[.int .i64 0] 3)).heap[w.heap.size]? := ht.block _ (by simp) (by omega)
      have this := this.trans (Array.getElem?_push_size : (w.alloc (.cells #[.int .i64 0] 3)).heap[w.heap.size]? = some (.cells #[.int .i64 0] 3))
      simp [World.cell?, World.setCell, Array.getElem?_modify, this]
    obtain ⟨w3, hw3⟩ : ∃ w3, w2.setCell ⟨w.heap.size, 0, none⟩ (.int .i64 0) = w3 := ⟨_, rfl⟩
    rw [hw3] at HT hk ⊢
    clear ht hw3 HP
    go_wp2_with fail
    refine wp_loop_rounds 1 ?_
    rw [rounds_succ]
    go_wp2_with fail
    go_end0
    exact ⟨rfl, HT.out⟩
  · rw [H0.out] at hr; cases hr

set_option maxHeartbeats 4000000 in
theorem list_zero_marks (tb : Nat) (pv : Value) (l : List Int) (at' a' : Nat) (lb lo : Nat) (fv : Value) (w : World) (hv : RdB w pv l) (hB : isB l) (ho : w.heap[tb]? = some (TO pv at' true)) (hne : pv.ownBlock ≠ some tb) (gt : TypeId) (gv : Value) (hg : Gives w gt gv) (htb : tb ≠ 0)
   (hc : w.cell? ⟨lb, lo, none⟩ = some (.slice none 0 0)) (h0 : plainR l at' = some (0, a')) :
   Calls Tryd.prog 56 #[.pointer (some ⟨tb, 0, none⟩), .pointer (some ⟨lb, lo, none⟩), fv] w fun e w' => e = .returned (.tuple #[]) ∧ Turn w w' tb (TO pv a' true) := by
  have htl : tb < w.heap.size := (Array.getElem?_eq_some_iff.1 ho).1
  have hP := plain_read tb pv l at' w.heap.size 0 0 (w.alloc (.cells #[.int .i64 0] 3)) (hv.alloc _) hB ((((Below.refl w.heap.size w).alloc (Nat.le_refl _) _).block tb htl).trans ho) hne gt gv (by unfold Gives; rw [World.cell?_alloc_lt _ _ _ (World.block_lt_of_cell? w _ hg)]; exact hg) htb (by simp) (by simp) (by omega)
  have HP := Lib.hid hP
  have H0 := Lib.hid h0
  clear hP hv ho hne h0
  go_enter Tryd.func56, Tryd.ntmps56
  go_wp2_with fail
  refine HP.out.mono ?_
  rintro e w1 (⟨n, a2, w2, hr, rfl, ht, rfl⟩ | ⟨hr, _⟩)
  · rw [H0.out] at hr
    simp only [Option.some.injEq, Prod.mk.injEq] at hr
    obtain ⟨rfl, rfl⟩ := hr
    have HT : Hid (Turn w (w2.setCell ⟨w.heap.size, 0, none⟩ (.int .i64 0)) tb (TO pv a' true)) := turn_setNew (Turn.before ((Below.refl _ _).alloc (Nat.le_refl _) _) ht) (Nat.le_refl _) (by omega) _
    have hk : (w2.setCell ⟨w.heap.size, 0, none⟩ (.int .i64 0)).cell? ⟨w.heap.size, 0, none⟩ = some (.int .i64 0) := by
      have : w2.heap[w.heap.size]? = (w.alloc (.cells #[.int .i64 0] 3)).heap[w.heap.size]? := ht.block _ (by simp) (by omega)
      have this := this.trans (Array.getElem?_push_size : (w.alloc (.cells #[.int .i64 0] 3)).heap[w.heap.size]? = some (.cells #[.int .i64 0] 3))
      simp [World.cell?, World.setCell, Array.getElem?_modify, this]
    obtain ⟨w3, hw3⟩ : ∃ w3, w2.setCell ⟨w.heap.size, 0, none⟩ (.int .i64 0) = w3 := ⟨_, rfl⟩
    rw [hw3] at HT hk ⊢
    clear ht hw3 HP
    go_wp2_with fail
    refine wp_loop_rounds 1 ?_
    rw [rounds_succ]
    go_wp2_with fail
    go_end0
    exact ⟨rfl, HT.out⟩
  · rw [H0.out] at hr; cases hr

set_option maxHeartbeats 4000000 in
theorem list_zero_sites (tb : Nat) (pv : Value) (l : List Int) (at' a' : Nat) (lb lo : Nat) (fv : Value) (w : World) (hv : RdB w pv l) (hB : isB l) (ho : w.heap[tb]? = some (TO pv at' true)) (hne : pv.ownBlock ≠ some tb) (gt : TypeId) (gv : Value) (hg : Gives w gt gv) (htb : tb ≠ 0)
   (hc : w.cell? ⟨lb, lo, none⟩ = some (.slice none 0 0)) (h0 : plainR l at' = some (0, a')) :
   Calls Tryd.prog 60 #[.pointer (some ⟨tb, 0, none⟩), .pointer (some ⟨lb, lo, none⟩), fv] w fun e w' => e = .returned (.tuple #[]) ∧ Turn w w' tb (TO pv a' true) := by
  have htl : tb < w.heap.size := (Array.getElem?_eq_some_iff.1 ho).1
  have hP := plain_read tb pv l at' w.heap.size 0 0 (w.alloc (.cells #[.int .i64 0] 3)) (hv.alloc _) hB ((((Below.refl w.heap.size w).alloc (Nat.le_refl _) _).block tb htl).trans ho) hne gt gv (by unfold Gives; rw [World.cell?_alloc_lt _ _ _ (World.block_lt_of_cell? w _ hg)]; exact hg) htb (by simp) (by simp) (by omega)
  have HP := Lib.hid hP
  have H0 := Lib.hid h0
  clear hP hv ho hne h0
  go_enter Tryd.func60, Tryd.ntmps60
  go_wp2_with fail
  refine HP.out.mono ?_
  rintro e w1 (⟨n, a2, w2, hr, rfl, ht, rfl⟩ | ⟨hr, _⟩)
  · rw [H0.out] at hr
    simp only [Option.some.injEq, Prod.mk.injEq] at hr
    obtain ⟨rfl, rfl⟩ := hr
    have HT : Hid (Turn w (w2.setCell ⟨w.heap.size, 0, none⟩ (.int .i64 0)) tb (TO pv a' true)) := turn_setNew (Turn.before ((Below.refl _ _).alloc (Nat.le_refl _) _) ht) (Nat.le_refl _) (by omega) _
    have hk : (w2.setCell ⟨w.heap.size, 0, none⟩ (.int .i64 0)).cell? ⟨w.heap.size, 0, none⟩ = some (.int .i64 0) := by
      have : w2.heap[w.heap.size]? = (w.alloc (.cells #[.int .i64 0] 3)).heap[w.heap.size]? := ht.block _ (by simp) (by omega)
      have this := this.trans (Array.getElem?_push_size : (w.alloc (.cells #[.int .i64 0] 3)).heap[w.heap.size]? = some (.cells #[.int .i64 0] 3))
      simp [World.cell?, World.setCell, Array.getElem?_modify, this]
    obtain ⟨w3, hw3⟩ : ∃ w3, w2.setCell ⟨w.heap.size, 0, none⟩ (.int .i64 0) = w3 := ⟨_, rfl⟩
    rw [hw3] at HT hk ⊢
    clear ht hw3 HP
    go_wp2_with fail
    refine wp_loop_rounds 1 ?_
    rw [rounds_succ]
    go_wp2_with fail
    go_end0
    exact ⟨rfl, HT.out⟩
  · rw [H0.out] at hr; cases hr

end Go.Proofs.YtnanlkoldloolaaDoor

/- Locs: reading: debug information of nothing. -/
namespace Go.Proofs.YtnanlkoldloolaaDoor
open Go.RowKit

theorem Turn.refl {w : World} {k : Nat} {o : Obj} (h : w.heap[k]? = some o) : Turn w w k o := ⟨h, rfl, rfl, rfl, Nat.le_refl _, fun _ _ _ => rfl⟩
theorem turn_cell {w w' : World} {k : Nat} {o : Obj} (ht : Turn w w' k o) {b i : Nat} {v : Value} (h : w.cell? ⟨b, i, none⟩ = some v) (hne : b ≠ k) : w'.cell? ⟨b, i, none⟩ = some v := by
  rw [World.cell?_of_block (w := w) (ht.block b (World.block_lt_of_cell? w _ h) hne)]; exact h

set_option maxHeartbeats 4000000 in
theorem all_zero (tb db : Nat) (pv : Value) (l : List Int) (n0 n1 n2 n3 : Nat) (w : World) (hv : RdB w pv l) (hB : isB l) (ho : w.heap[tb]? = some (TO pv n0 true)) (hne : pv.ownBlock ≠ some tb) (gt : TypeId) (gv : Value) (hg : Gives w gt gv) (htb : tb ≠ 0)
   (d0 : w.cell? ⟨db, 0, none⟩ = some (.slice none 0 0)) (d1 : w.cell? ⟨db, 1, none⟩ = some (.slice none 0 0)) (d2 : w.cell? ⟨db, 2, none⟩ = some (.slice none 0 0)) (hdb : db ≠ tb)
   (h0 : plainR l n0 = some (0, n1)) (h1 : plainR l n1 = some (0, n2)) (h2 : plainR l n2 = some (0, n3)) :
   Calls Tryd.prog 42 #[.pointer (some ⟨tb, 0, none⟩), .pointer (some ⟨db, 0, none⟩)] w fun e w' => e = .returned (.tuple #[]) ∧ Turn w w' tb (TO pv n3 true) := by
  have htl : tb < w.heap.size := (Array.getElem?_eq_some_iff.1 ho).1
  have T0 := Lib.hid (Turn.refl ho)
  have L1 := Lib.hid (fun W fv (ht : Turn w W tb (TO pv n0 true)) => list_zero_stops tb pv l n0 n1 db 0 fv W (turn_rd hv ht hne) hB ht.at_ hne gt gv (turn_gives hg ht htb) htb (turn_cell ht d0 hdb) h0)
  have L2 := Lib.hid (fun W fv (ht : Turn w W tb (TO pv n1 true)) => list_zero_marks tb pv l n1 n2 db 1 fv W (turn_rd hv ht hne) hB ht.at_ hne gt gv (turn_gives hg ht htb) htb (turn_cell ht d1 hdb) h1)
  have L3 := Lib.hid (fun W fv (ht : Turn w W tb (TO pv n2 true)) => list_zero_sites tb pv l n2 n3 db 2 fv W (turn_rd hv ht hne) hB ht.at_ hne gt gv (turn_gives hg ht htb) htb (turn_cell ht d2 hdb) h2)
  clear ho hne hg hv h0 h1 h2 d0 d1 d2
  have hmf : ∀ (fn : Fn) (first cap : Array Value) (w : World), (Instr.makeFunc fn first cap).run Tryd.prog w = .ok (.func fn first cap) w := fun _ _ _ _ => rfl
  go_enter Tryd.func42, Tryd.ntmps42
  have hnz : w.heap.size ≠ tb := by omega
  go_upto_region 1 with fail
  go_cut [] (fun wx => Turn w wx tb (TO pv n1 true) ∧ wx.cell? ⟨w.heap.size, 0, none⟩ = some (.pointer (some ⟨tb, 0, none⟩)))
  case first =>
    go_region_with (refine (L1.out _ _ (T0.out.later (((Below.refl _ _).alloc (Nat.le_refl _) _).drew))).mono ?_; rintro e w3 ⟨rfl, ht3⟩)
    all_goals (go_wp2_with fail; go_meet; exact ⟨(T0.out.later (((Below.refl _ _).alloc (Nat.le_refl _) _).drew)).trans ht3, turn_cell ht3 (by simp) hnz⟩)
  case rest =>
    obtain ⟨t3, hc3⟩ := hcut
    have T3 := Lib.hid t3
    clear t3 L1
    go_upto_region 2 with fail
    go_cut [] (fun wx => Turn w wx tb (TO pv n2 true) ∧ wx.cell? ⟨w.heap.size, 0, none⟩ = some (.pointer (some ⟨tb, 0, none⟩)))
    case first =>
      go_region_with (refine (L2.out _ _ (T3.out.later (Below.refl _ _).drew)).mono ?_; rintro e w4 ⟨rfl, ht4⟩)
      all_goals (go_wp2_with fail; go_meet; exact ⟨(T3.out.later (Below.refl _ _).drew).trans ht4, turn_cell ht4 (by simpa using hc3) hnz⟩)
    case rest =>
      obtain ⟨t4, hc4⟩ := hcut
      have T4 := Lib.hid t4
      have hs4 := World.block_lt_of_cell? _ _ hc4
      simp only at hs4
      clear t4 L2 hc3 T3 T0
      rename_i wb
      go_wp2_with fail
      go_region_with (refine (L3.out _ _ (T4.out.later (((Below.refl _ _).alloc (Nat.le_refl _) _).drew))).mono ?_; rintro e w5 ⟨rfl, ht5⟩)
      all_goals (go_wp2_with fail; go_end0; exact ⟨rfl, (T4.out.later (((Below.refl _ _).alloc (Nat.le_refl _) _).drew)).trans ht5⟩)
end Go.Proofs.YtnanlkoldloolaaDoor

/- Locs: reading: numbers in a place of memory; what a reader leaves as it was. -/
namespace Go.Proofs.YtnanlkoldloolaaDoor
open Go.RowKit

/-- All but two blocks are as they were. -/
structure Oth (w w' : World) (x y : Nat) : Prop where
  os : w'.os = w.os
  tape : w'.tape = w.tape
  output : w'.output = w.output
  size : w.heap.size ≤ w'.heap.size
  block : ∀ j, j < w.heap.size → j ≠ x → j ≠ y → w'.heap[j]? = w.heap[j]?
theorem Oth.refl (w : World) (x y : Nat) : Oth w w x y := ⟨rfl, rfl, rfl, Nat.le_refl _, fun _ _ _ _ => rfl⟩
theorem Oth.trans {w w1 w2 : World} {x y : Nat} (h : Oth w w1 x y) (k : Oth w1 w2 x y) : Oth w w2 x y :=
  ⟨k.os.trans h.os, k.tape.trans h.tape, k.output.trans h.output, Nat.le_trans h.size k.size, fun j hj h1 h2 => (k.block j (Nat.lt_of_lt_of_le hj h.size) h1 h2).trans (h.block j hj h1 h2)⟩
theorem Oth.later {w w1 w2 : World} {x y : Nat} (h : Oth w w1 x y) (k : Below w1.heap.size w1 w2) : Oth w w2 x y :=
  h.trans ⟨k.os, k.tape, k.output, k.size, fun j hj _ _ => k.block j hj⟩
theorem Oth.before {w w1 w2 : World} {x y : Nat} (k : Below w.heap.size w w1) (h : Oth w1 w2 x y) : Oth w w2 x y :=
  (Oth.refl w x y).later k |>.trans h
/-- The second block is new. -/
theorem Oth.new {w w1 w2 : World} {x y z : Nat} (h : Oth w w1 x y) (k : Oth w1 w2 x z) (hz : w.heap.size ≤ z) : Oth w w2 x y :=
  ⟨k.os.trans h.os, k.tape.trans h.tape, k.output.trans h.output, Nat.le_trans h.size k.size, fun j hj h1 h2 => (k.block j (Nat.lt_of_lt_of_le hj h.size) h1 (by omega)).trans (h.block j hj h1 h2)⟩
theorem Oth.turn {w w' : World} {x y : Nat} {o : Obj} (h : Turn w w' x o) : Oth w w' x y :=
  ⟨h.os, h.tape, h.output, h.size, fun j hj h1 _ => h.block j hj h1⟩
theorem Oth.set {w w1 : World} {x y : Nat} (h : Oth w w1 x y) (i : Nat) (v : Value) : Oth w (w1.setCell ⟨y, i, none⟩ v) x y :=
  ⟨h.os, h.tape, h.output, by rw [World.size_setCell]; exact h.size, fun j hj h1 h2 => (Below.heap_setCell _ _ _ _ h2).trans (h.block j hj h1 h2)⟩
theorem Oth.grown {w w1 w2 : World} {x y : Nat} {row : Option Nat} (h : Oth w w1 x y) (g : w1.grownBy w2 row) (hr : ∀ k, row = some k → w.heap.size ≤ k) : Oth w w2 x y :=
  ⟨g.os.trans h.os, g.tape.trans h.tape, g.output.trans h.output, Nat.le_trans h.size g.size, fun j hj h1 h2 => (g.block j (Nat.lt_of_lt_of_le hj h.size) (fun e => by have := hr j e.symm; omega)).trans (h.block j hj h1 h2)⟩
theorem Oth.rd {w w' : World} {x y size n : Nat} {v : Value} {xs : List Value} (h : Oth w w' x y) (hr : Rd w size v n xs) (hx : v.ownBlock ≠ some x) (hy : v.ownBlock ≠ some y) (hlt : ∀ k, v.ownBlock = some k → k < w.heap.size) : Rd w' size v n xs :=
  Rd.same hr fun k hk => h.block k (hlt k hk) (fun e => hx (by rw [hk, e])) (fun e => hy (by rw [hk, e]))
theorem Oth.gives {w w' : World} {x y : Nat} {gt : TypeId} {gv : Value} (h : Oth w w' x y) (hg : Gives w gt gv) (hx : x ≠ 0) (hy : y ≠ 0) : Gives w' gt gv := by
  have hlt := World.block_lt_of_cell? w _ hg
  unfold Gives
  rw [World.cell?_of_block (w := w) (h.block 0 hlt (Ne.symm hx) (Ne.symm hy))]; exact hg
theorem Oth.at {w w' : World} {x y k : Nat} {o : Obj} (h : Oth w w' x y) (hk : w.heap[k]? = some o) (hx : k ≠ x) (hy : k ≠ y) : w'.heap[k]? = some o := (h.block k (heap_lt hk) hx hy).trans hk

/-- Bytes that are read by a turn: they are not the turner's own, nor the place's. -/
structure Src (w : World) (pv : Value) (l : List Int) (tb : Nat) (gt : TypeId) (gv : Value) : Prop where
  rd : RdB w pv l
  ne : pv.ownBlock ≠ some tb
  lt : ∀ k, pv.ownBlock = some k → k < w.heap.size
  isB : isB l
  len : l.length ≤ 1000000000
  gives : Gives w gt gv
  tb0 : tb ≠ 0
theorem Src.oth {w w' : World} {pv : Value} {l : List Int} {tb y : Nat} {gt : TypeId} {gv : Value} (h : Src w pv l tb gt gv) (k : Oth w w' tb y) (hy : pv.ownBlock ≠ some y) (hy0 : y ≠ 0) : Src w' pv l tb gt gv :=
  ⟨k.rd h.rd h.ne hy h.lt, h.ne, fun j hj => Nat.lt_of_lt_of_le (h.lt j hj) k.size, h.isB, h.len, k.gives h.gives h.tb0 hy0, h.tb0⟩
theorem Src.later {w w' : World} {pv : Value} {l : List Int} {tb : Nat} {gt : TypeId} {gv : Value} (h : Src w pv l tb gt gv) (hb : Below w.heap.size w w') : Src w' pv l tb gt gv :=
  ⟨Rd.later h.rd hb, h.ne, fun j hj => Nat.lt_of_lt_of_le (h.lt j hj) hb.size, h.isB, h.len, by have := World.block_lt_of_cell? w _ h.gives; unfold Gives; rw [hb.cell (p := ⟨0, 0, none⟩) this]; exact h.gives, h.tb0⟩
theorem Src.fresh {w : World} {pv : Value} {l : List Int} {tb : Nat} {gt : TypeId} {gv : Value} (h : Src w pv l tb gt gv) {k : Nat} (hk : w.heap.size ≤ k) : pv.ownBlock ≠ some k := fun e => by have := h.lt k e; omega

theorem cell_of {w : World} {b i : Nat} {c : Array Value} {T : TypeId} {v : Value} (h : w.heap[b]? = some (.cells c T (0, 0))) (hi : c[i]? = some v) : w.cell? ⟨b, i, none⟩ = some v := by simp [World.cell?, h, hi]
theorem unfrozen_of {w : World} {b i : Nat} {c : Array Value} {T : TypeId} (h : w.heap[b]? = some (.cells c T (0, 0))) : w.frozen? ⟨b, i, none⟩ = false := by simp [World.frozen?, h]

/-- A plain number into a place. -/
theorem plain_at (tb : Nat) (pv : Value) (l : List Int) (at' : Nat) (nb no : Nat) (c : Array Value) (T : TypeId) (n1 : Int) (w : World) (gt : TypeId) (gv : Value) (hs : Src w pv l tb gt gv) (ho : w.heap[tb]? = some (TO pv at' true))
   (hn : w.heap[nb]? = some (.cells c T (0, 0))) (hc : c[no]? = some (.int .i64 n1)) (hnb : nb ≠ tb) :
   Calls Tryd.prog 55 #[.pointer (some ⟨tb, 0, none⟩), .pointer (some ⟨nb, no, none⟩)] w fun e w' =>
     (∃ n a', plainR l at' = some (n, a') ∧ e = .returned (.tuple #[]) ∧ w'.heap[tb]? = some (TO pv a' true) ∧ w'.heap[nb]? = some (.cells (c.setIfInBounds no (.int .i64 n)) T (0, 0)) ∧ Oth w w' tb nb) ∨
     (plainR l at' = none ∧ e = .panicked [{ v := .iface gt gv, recovered := false }] ∧ Oth w w' tb nb) := by
  refine (plain_read tb pv l at' nb no n1 w hs.rd hs.isB ho hs.ne gt gv hs.gives hs.tb0 (cell_of hn hc) (unfrozen_of hn) hnb).mono ?_
  rintro e w' (⟨n, a', w1, hr, rfl, ht, rfl⟩ | ⟨hr, rfl, a', ht⟩)
  · refine .inl ⟨n, a', hr, rfl, (Below.heap_setCell _ _ _ _ (Ne.symm hnb)).trans ht.at_, ?_, (Oth.turn ht).set _ _⟩
    have h1 : w1.heap[nb]? = some (.cells c T (0, 0)) := (ht.block nb (heap_lt hn) hnb).trans hn
    exact heap_set h1
  · exact .inr ⟨hr, rfl, Oth.turn ht⟩
end Go.Proofs.YtnanlkoldloolaaDoor

/- Locs: reading: a number with a sign; what a reading is, in plain. -/
namespace Go.Proofs.YtnanlkoldloolaaDoor
open Go.RowKit

/-! ### What is read (plain) -/
abbrev PR (α : Type) := Nat → Option (α × Nat)
/-- A number with a sign, out of one without. -/
def unzig (n : Int) : Int := if n % 2 = 0 then n / 2 else -1 - n / 2
def signR (num : PR Int) : PR Int := fun a => match num a with | some (n, b) => some (unzig n, b) | none => none
def listN {α : Type} (one : PR α) : Nat → PR (List α)
  | 0, a => some ([], a)
  | j + 1, a => match listN one j a with
    | some (xs, b) => match one b with | some (x, c) => some (xs ++ [x], c) | none => none
    | none => none
def listR {α : Type} (num : PR Int) (one : PR α) : PR (List α) := fun a => match num a with | some (n, b) => listN one n.toNat b | none => none
theorem listN_none {α : Type} {one : PR α} {j n a : Nat} (h : listN one j a = none) (hj : j ≤ n) : listN one n a = none := by
  induction n with
  | zero => obtain rfl : j = 0 := by omega
            cases h
  | succ n ih =>
    by_cases e : j = n + 1
    · subst e; exact h
    · simp only [listN, ih (by omega)]
theorem listN_step {α : Type} {one : PR α} {j a b c : Nat} {xs : List α} {x : α} (h : listN one j a = some (xs, b)) (h2 : one b = some (x, c)) : listN one (j + 1) a = some (xs ++ [x], c) := by
  simp only [listN, h, h2]
theorem listN_stop {α : Type} {one : PR α} {j n a b : Nat} {xs : List α} (h : listN one j a = some (xs, b)) (h2 : one b = none) (hj : j < n) : listN one n a = none :=
  listN_none (j := j + 1) (by simp only [listN, h, h2]) hj
theorem listN_len {α : Type} {one : PR α} {a : Nat} : ∀ {j : Nat} {b : Nat} {xs : List α}, listN one j a = some (xs, b) → xs.length = j
  | 0, b, xs, h => by cases h; rfl
  | j + 1, b, xs, h => by
    simp only [listN] at h
    cases e : listN one j a with
    | none => rw [e] at h; cases h
    | some p =>
      obtain ⟨ys, c⟩ := p
      rw [e] at h
      simp only at h
      cases e2 : one c with
      | none => rw [e2] at h; cases h
      | some q =>
        obtain ⟨x, d⟩ := q
        rw [e2] at h
        simp only [Option.some.injEq, Prod.mk.injEq] at h
        obtain ⟨rfl, rfl⟩ := h
        simp [listN_len e]

def spotR (num : PR Int) : PR (Int × Int) := fun a => match num a with
  | some (x, b) => match num b with | some (y, c) => some ((x, y), c) | none => none
  | none => none

/-- A location: depth, variable, kind, argument, A and B. -/
structure LocD where
  depth : Int
  var : Int
  kind : Int
  arg : Int
  a : Int
  b : Int
deriving DecidableEq
/-- A mark: its stop, its locations. -/
structure MarkD where
  stop : Int
  locs : List LocD
deriving DecidableEq
/-- What stands behind a location's kind. -/
def locTail (num sg : PR Int) (d v k : Int) : PR LocD := fun c =>
  if k = 1 then match sg c with | some (b, f) => some (⟨d, v, k, 0, 0, b⟩, f) | none => none
  else match num c with
    | some (x, f) => match sg f with
      | some (y, g) => match sg g with | some (b, h) => some (⟨d, v, k, x, y, b⟩, h) | none => none
      | none => none
    | none => none
/-- A location; a kind is taken or not. -/
def locR (num sg : PR Int) (kd : Int → Option Int) : PR LocD := fun a => match num a with
  | some (d, b) => match num b with
    | some (v, c) => match num c with
      | some (k, f) => match kd k with | some k => locTail num sg d v k f | none => none
      | none => none
    | none => none
  | none => none
def markR (num sg : PR Int) (kd : Int → Option Int) : PR MarkD := fun a => match num a with
  | some (s, b) => match listR num (locR num sg kd) b with | some (ls, c) => some (⟨s, ls⟩, c) | none => none
  | none => none
/-- The sites, out of what each is behind the one ahead. -/
def sitesOf (last : Int) : List (Int × Int) → List (Int × Int)
  | [] => []
  | (d, m) :: r => (last + d, m) :: sitesOf (last + d) r
structure DebD where
  stops : List (List (Int × Int))
  marks : List MarkD
  sites : List (Int × Int)
deriving DecidableEq
def allR (num sg : PR Int) (kd : Int → Option Int) : PR DebD := fun a => match listR num (listR num (spotR num)) a with
  | some (st, b) => match listR num (markR num sg kd) b with
    | some (ms, c) => match listR num (spotR num) c with
      | some (ds, f) => some (⟨st, ms, sitesOf 0 ds⟩, f)
      | none => none
    | none => none
  | none => none

/-! ### A number with a sign -/
theorem bits_xor_neg1 (a : Nat) (ha : a < 9223372036854775808) : bits .xor .i64 (a : Int) (-1) = -1 - (a : Int) := by
  show IntKind.i64.wrap ((BitVec.ofInt 64 (a : Int) ^^^ BitVec.ofInt 64 (-1)).toNat : Int) = _
  have h1 : BitVec.ofInt 64 (-1) = BitVec.allOnes 64 := by decide
  rw [h1, BitVec.xor_allOnes, BitVec.toNat_not, ofInt_u64 a (by omega)]
  simp [IntKind.wrap, IntKind.bits, IntKind.signed]
  omega
theorem bits_xor_0 (a : Nat) (ha : a < 9223372036854775808) : bits .xor .i64 (a : Int) 0 = (a : Int) := by
  show IntKind.i64.wrap ((BitVec.ofInt 64 (a : Int) ^^^ BitVec.ofInt 64 0).toNat : Int) = _
  have h1 : BitVec.ofInt 64 0 = 0#64 := by decide
  rw [h1, BitVec.xor_zero, ofInt_u64 a (by omega)]
  simp [IntKind.wrap, IntKind.bits, IntKind.signed]
  omega
theorem bits_and_1 (a : Nat) (ha : a < 18446744073709551616) : bits .and .u64 (a : Int) 1 = (a : Int) % 2 := by
  have := u64_and_nat a 1 ha (by omega)
  simp only [Nat.and_one_is_mod] at this
  exact this.trans (by omega)

set_option maxRecDepth 100000 in
set_option maxHeartbeats 4000000 in
theorem signed_at (tb : Nat) (pv : Value) (l : List Int) (at' : Nat) (nb no : Nat) (c : Array Value) (T : TypeId) (w : World) (gt : TypeId) (gv : Value) (hs : Src w pv l tb gt gv) (ho : w.heap[tb]? = some (TO pv at' true))
   (hn : w.heap[nb]? = some (.cells c T (0, 0))) (hc : c[no]? = some (.int .i64 0)) (hnb : nb ≠ tb) :
   Calls Tryd.prog 69 #[.pointer (some ⟨tb, 0, none⟩), .pointer (some ⟨nb, no, none⟩)] w fun e w' =>
     (∃ n a', signR (numR l) at' = some (n, a') ∧ e = .returned (.tuple #[]) ∧ w'.heap[tb]? = some (TO pv a' true) ∧ w'.heap[nb]? = some (.cells (c.setIfInBounds no (.int .i64 n)) T (0, 0)) ∧ Oth w w' tb nb) ∨
     (signR (numR l) at' = none ∧ e = .panicked [{ v := .iface gt gv, recovered := false }] ∧ Oth w w' tb nb) := by
  have k1 := cell_of hn hc
  have z1 := unfrozen_of (i := no) hn
  have HN := Lib.hid hn
  have HS := Lib.hid hs
  have x0 : bits .xor .u64 0 0 = 0 := by decide
  have mixed : Tryd.prog.follows Departure.mixedOrders = true := by kernel_rfl
  clear hn hs
  go_enter Tryd.func69, Tryd.ntmps69
  go_upto_region 0 with fail
  go_still_tail 12, mixed
  have HO : Hid (w.drew.heap[tb]? = some (TO pv at' true)) := ho
  have HN2 : Hid (w.drew.heap[nb]? = some (.cells c T (0, 0))) := HN.out
  have HOT := Lib.hid ((Oth.refl w tb nb).later (Below.refl w.heap.size w).drew)
  have HS2 := Lib.hid (HS.out.later (Below.refl w.heap.size w).drew)
  have k2 : w.drew.cell? ⟨nb, no, none⟩ = some (.int .i64 0) := k1
  have z2 : w.drew.frozen? ⟨nb, no, none⟩ = false := z1
  clear k1 z1 ho
  change wpList _ _ _ _ _ w.drew
  obtain ⟨W, hW⟩ : ∃ W, w.drew = W := ⟨_, rfl⟩
  rw [hW] at HO HN2 HOT HS2 k2 z2 ⊢
  clear hW
  go_wp2_with fail
  refine (unsigned_read tb pv l at' _ W HS2.out.rd HS2.out.isB HO.out HS2.out.ne gt gv HS2.out.gives HS2.out.tb0).mono ?_
  rintro e w1 (⟨n, a', hr, rfl, ht⟩ | ⟨hr, rfl, a', ht⟩)
  · have hbd := numR_bd HS2.out.isB hr
    obtain ⟨m, rfl⟩ : ∃ m : Nat, n = m := ⟨n.toNat, by omega⟩
    have hm : m < 18446744073709551616 := by omega
    have hn1 : w1.heap[nb]? = some (.cells c T (0, 0)) := (ht.block nb (heap_lt HN2.out) hnb).trans HN2.out
    have k3 := cell_of hn1 hc
    have z3 := unfrozen_of (i := no) hn1
    have HN3 := Lib.hid hn1
    have HT := Lib.hid ht
    have HR := Lib.hid hr
    have ha := bits_and_1 m hm
    have hx : bits .xor .i64 ((m : Int) / 2) (-((m : Int) % 2)) = unzig m := by
      unfold unzig
      by_cases h2 : (m : Int) % 2 = 0
      · rw [if_pos h2, h2]
        have := bits_xor_0 (m / 2) (by omega)
        simpa using this
      · rw [if_neg h2, show (m : Int) % 2 = 1 by omega]
        have := bits_xor_neg1 (m / 2) (by omega)
        simpa using this
    clear hn1 ht hr k2 z2 HN2
    go_wp2_with fail
    go_end0
    exact .inl ⟨unzig m, a', by unfold signR; rw [HR.out], rfl, (Below.heap_setCell _ _ _ _ (Ne.symm hnb)).trans HT.out.at_, heap_set HN3.out, (HOT.out.trans (Oth.turn HT.out)).set _ _⟩
  · have HR := Lib.hid hr
    have HT := Lib.hid ht
    clear hr ht
    go_wp2_with fail
    exact ⟨rfl, .inr ⟨by unfold signR; rw [HR.out], rfl, HOT.out.trans (Oth.turn HT.out)⟩⟩
end Go.Proofs.YtnanlkoldloolaaDoor

/- Locs: reading: what a list of things asks of how one is read. -/
namespace Go.Proofs.YtnanlkoldloolaaDoor
open Go.RowKit

/-- Cells put one behind the other. -/
def putC (c : Array Value) (i : Nat) : List Value → Array Value
  | [] => c
  | v :: r => putC (c.setIfInBounds i v) (i + 1) r
theorem putC_size : ∀ (r : List Value) (c : Array Value) (i : Nat), (putC c i r).size = c.size
  | [], _, _ => rfl
  | v :: r, c, i => by simp [putC, putC_size r]
theorem putC_toList : ∀ (r : List Value) (c : Array Value) (i : Nat), i + r.length ≤ c.size → (putC c i r).toList = c.toList.take i ++ r ++ c.toList.drop (i + r.length)
  | [], c, i, _ => by simp [putC]
  | v :: r, c, i, h => by
    have hi : i < c.toList.length := by simp at h ⊢; omega
    rw [putC, putC_toList r _ _ (by simp at h ⊢; omega)]
    simp only [Array.toList_setIfInBounds, List.length_cons]
    rw [List.take_set, List.drop_set_of_lt (by omega), List.take_succ_eq_append_getElem hi, List.set_append_right _ _ (by simp; omega)]
    have e : i - (c.toList.take i).length = 0 := by simp; omega
    rw [e]
    simp [Nat.add_assoc, Nat.add_comm 1 r.length]

theorem own_put {w w' : World} {base K n g cap : Nat} {e : TypeId} {xs zs cs : List Value} {cur : Array Value} (h : w.ownsRow base e K (.slice (some ⟨g, 0, none⟩) (n + 1) cap) (n + 1) (xs ++ zs)) (hx : xs.length = n * K) (hz : zs.length = K) (hcs : cs.length = K)
    (hg : w.heap[g]? = some (.cells cur e (0, 0))) (hg' : w'.heap[g]? = some (.cells (putC cur (n * K) cs) e (0, 0))) : w'.ownsRow base e K (.slice (some ⟨g, 0, none⟩) (n + 1) cap) (n + 1) (xs ++ cs) := by
  rcases h.2 with ⟨h', _⟩ | ⟨g', cap', cur', h', hb, hg2, hnc, hcm, hsz, htk⟩
  · cases h'
  · simp only [Value.slice.injEq, Option.some.injEq, Addr.mk.injEq, and_true, true_and] at h'
    obtain ⟨rfl, rfl⟩ := h'
    rw [hg] at hg2
    simp only [Option.some.injEq, Obj.cells.injEq, and_true] at hg2
    subst hg2
    have hmul : (n + 1) * K ≤ cap * K := Nat.mul_le_mul_right _ hnc
    have hnk : (n + 1) * K = n * K + K := by rw [Nat.succ_mul]
    refine ⟨by simp [hx, hcs, hnk], .inr ⟨g, cap, _, rfl, hb, hg', hnc, hcm, by rw [putC_size]; exact hsz, ?_⟩⟩
    rw [putC_toList _ _ _ (by rw [hcs, hsz]; omega), hcs]
    have h1 : cur.toList.take (n * K) = xs := by
      have := congrArg (List.take (n * K)) htk
      rw [List.take_take, Nat.min_eq_left (by omega), List.take_append_of_le_length (by omega), ← hx, List.take_length] at this
      rw [← hx]; exact this
    rw [h1, hnk, List.take_append_of_le_length (by simp [hx, hcs])]
    exact List.take_of_length_le (by simp [hx, hcs])
theorem own_blkObj {w : World} {base K n g cap : Nat} {e : TypeId} {xs : List Value} (h : w.ownsRow base e K (.slice (some ⟨g, 0, none⟩) n cap) n xs) : base ≤ g ∧ ∃ cur, w.heap[g]? = some (.cells cur e (0, 0)) ∧ n * K ≤ cur.size ∧ ∀ i, i < n * K → cur[i]? = xs[i]? := by
  rcases h.2 with ⟨h', _⟩ | ⟨g', cap', cur', h', hb, hg2, hnc, hcm, hsz, htk⟩
  · cases h'
  · simp only [Value.slice.injEq, Option.some.injEq, Addr.mk.injEq, and_true, true_and] at h'
    obtain ⟨rfl, rfl⟩ := h'
    have hmul : n * K ≤ cap * K := Nat.mul_le_mul_right _ hnc
    refine ⟨hb, cur', hg2, by omega, fun i hi => ?_⟩
    rw [← htk, List.getElem?_take, if_pos hi]
    simp

theorem own_some {w : World} {base K n : Nat} {e : TypeId} {v : Value} {xs : List Value} (h : w.ownsRow base e K v (n + 1) xs) : ∃ g cap, v = .slice (some ⟨g, 0, none⟩) (n + 1) cap := by
  rcases h.2 with ⟨_, h'⟩ | ⟨g, cap, cur, h', _⟩
  · omega
  · exact ⟨g, cap, h'⟩
theorem grown_at {w w' : World} {k : Nat} {row : Option Nat} {o : Obj} (g : w.grownBy w' row) (h : w.heap[k]? = some o) (hne : row ≠ some k) : w'.heap[k]? = some o := (g.block k (heap_lt h) (Ne.symm hne)).trans h

/-- An object that is no row of a type. -/
def notT (T : TypeId) (o : Obj) : Prop := ∀ c f, o ≠ .cells c T f
theorem notT_cells {T : TypeId} {c : Array Value} {t : TypeId} {f : Nat × Nat} (h : t ≠ T) : notT T (.cells c t f) := fun c' f' e => by cases e; exact h rfl
/-- What stays, of one's own, where rows of a type may change. -/
def Stays (T : TypeId) (base : Nat) (w w' : World) : Prop := ∀ k ob, w.heap[k]? = some ob → base ≤ k → notT T ob → w'.heap[k]? = some ob

/-- All but three blocks are as they were. -/
structure Oth3 (w w' : World) (x y z : Nat) : Prop where
  os : w'.os = w.os
  tape : w'.tape = w.tape
  output : w'.output = w.output
  size : w.heap.size ≤ w'.heap.size
  block : ∀ j, j < w.heap.size → j ≠ x → j ≠ y → j ≠ z → w'.heap[j]? = w.heap[j]?
theorem Oth.three {w w' : World} {x y : Nat} (h : Oth w w' x y) (z : Nat) : Oth3 w w' x y z := ⟨h.os, h.tape, h.output, h.size, fun j hj h1 h2 _ => h.block j hj h1 h2⟩
theorem Oth3.two {w w' : World} {x y : Nat} (h : Oth3 w w' x y x) : Oth w w' x y := ⟨h.os, h.tape, h.output, h.size, fun j hj h1 h2 => h.block j hj h1 h2 h1⟩
theorem Oth3.trans {w w1 w2 : World} {x y z : Nat} (h : Oth3 w w1 x y z) (k : Oth3 w1 w2 x y z) : Oth3 w w2 x y z :=
  ⟨k.os.trans h.os, k.tape.trans h.tape, k.output.trans h.output, Nat.le_trans h.size k.size, fun j hj h1 h2 h3 => (k.block j (Nat.lt_of_lt_of_le hj h.size) h1 h2 h3).trans (h.block j hj h1 h2 h3)⟩
theorem Oth3.later {w w1 w2 : World} {x y z : Nat} (h : Oth3 w w1 x y z) (k : Below w1.heap.size w1 w2) : Oth3 w w2 x y z :=
  h.trans ⟨k.os, k.tape, k.output, k.size, fun j hj _ _ _ => k.block j hj⟩
theorem Oth3.new {w w1 w2 : World} {x y z u : Nat} (h : Oth3 w w1 x y z) (k : Oth3 w1 w2 x u z) (hu : w.heap.size ≤ u) : Oth3 w w2 x y z :=
  ⟨k.os.trans h.os, k.tape.trans h.tape, k.output.trans h.output, Nat.le_trans h.size k.size, fun j hj h1 h2 h3 => (k.block j (Nat.lt_of_lt_of_le hj h.size) h1 (by omega) h3).trans (h.block j hj h1 h2 h3)⟩
theorem Oth3.set {w w1 : World} {x y z : Nat} (h : Oth3 w w1 x y z) (i : Nat) (v : Value) : Oth3 w (w1.setCell ⟨y, i, none⟩ v) x y z :=
  ⟨h.os, h.tape, h.output, by rw [World.size_setCell]; exact h.size, fun j hj h1 h2 h3 => (Below.heap_setCell _ _ _ _ h2).trans (h.block j hj h1 h2 h3)⟩
theorem Oth3.grown {w w1 w2 : World} {x y z : Nat} {row : Option Nat} (h : Oth3 w w1 x y z) (g : w1.grownBy w2 row) (hr : ∀ k, row = some k → w.heap.size ≤ k) : Oth3 w w2 x y z :=
  ⟨g.os.trans h.os, g.tape.trans h.tape, g.output.trans h.output, Nat.le_trans h.size g.size, fun j hj h1 h2 h3 => (g.block j (Nat.lt_of_lt_of_le hj h.size) (fun e => by have := hr j e.symm; omega)).trans (h.block j hj h1 h2 h3)⟩
theorem Oth3.at {w w' : World} {x y z k : Nat} {o : Obj} (h : Oth3 w w' x y z) (hk : w.heap[k]? = some o) (hx : k ≠ x) (hy : k ≠ y) (hz : k ≠ z) : w'.heap[k]? = some o := (h.block k (heap_lt hk) hx hy hz).trans hk
theorem Src.oth3 {w w' : World} {pv : Value} {l : List Int} {tb y z : Nat} {gt : TypeId} {gv : Value} (h : Src w pv l tb gt gv) (k : Oth3 w w' tb y z) (hy : pv.ownBlock ≠ some y) (hz : pv.ownBlock ≠ some z) (hy0 : y ≠ 0) (hz0 : z ≠ 0) : Src w' pv l tb gt gv :=
  ⟨Rd.same h.rd fun j hj => k.block j (h.lt j hj) (fun e => h.ne (by rw [hj, e])) (fun e => hy (by rw [hj, e])) (fun e => hz (by rw [hj, e])), h.ne, fun j hj => Nat.lt_of_lt_of_le (h.lt j hj) k.size, h.isB, h.len, by
    have hlt := World.block_lt_of_cell? w _ h.gives
    unfold Gives
    rw [World.cell?_of_block (w := w) (k.block 0 hlt (Ne.symm h.tb0) (Ne.symm hy0) (Ne.symm hz0))]; exact h.gives, h.tb0⟩

/-- How a thing lies in its cells (the things ahead of it given, too). -/
abbrev Lies (α : Type) := List α → World → Nat → List Value → α → Prop
structure LiesOK {α : Type} (T : TypeId) (E : Lies α) : Prop where
  stays : ∀ {p w w' base cs x}, E p w base cs x → Stays T base w w' → E p w' base cs x
  mono : ∀ {p w base base' cs x}, E p w base cs x → base' ≤ base → E p w base' cs x
def Els {α : Type} (E : Lies α) (K : Nat) (w : World) (base : Nat) (cells : List Value) (xs : List α) : Prop :=
  cells.length = xs.length * K ∧ ∀ i (h : i < xs.length), E (xs.take i) w base ((cells.drop (i * K)).take K) xs[i]
theorem Els.nil {α : Type} {E : Lies α} {K : Nat} {w : World} {base : Nat} : Els E K w base [] [] := ⟨by simp, fun i h => by simp at h⟩
theorem Els.snoc {α : Type} {E : Lies α} {K : Nat} {w : World} {base : Nat} {cells cs : List Value} {xs : List α} {x : α} (h : Els E K w base cells xs) (hx : E xs w base cs x) (hc : cs.length = K) : Els E K w base (cells ++ cs) (xs ++ [x]) := by
  refine ⟨by simp [h.1, hc, Nat.succ_mul], fun i hi => ?_⟩
  by_cases hi2 : i < xs.length
  · have h1 : i * K + K ≤ cells.length := by rw [h.1, ← Nat.succ_mul]; exact Nat.mul_le_mul_right _ hi2
    rw [List.take_append_of_le_length (Nat.le_of_lt hi2), List.drop_append_of_le_length (by omega), List.take_append_of_le_length (by rw [List.length_drop]; omega), List.getElem_append_left hi2]
    exact h.2 i hi2
  · have e : i = xs.length := by simp at hi; omega
    subst e
    rw [List.take_append_of_le_length (Nat.le_refl _), List.take_length, ← h.1, List.drop_left, List.take_of_length_le (by omega), List.getElem_append_right (Nat.le_refl _)]
    simpa using hx
theorem Els.stays {α : Type} {E : Lies α} {K : Nat} {T : TypeId} {w w' : World} {base : Nat} {cells : List Value} {xs : List α} (h : Els E K w base cells xs) (hE : LiesOK T E) (hs : Stays T base w w') : Els E K w' base cells xs :=
  ⟨h.1, fun i hi => hE.stays (h.2 i hi) hs⟩

/-- What stays of what is older. -/
def Older (B lb : Nat) (w w' : World) : Prop := ∀ k ob, w.heap[k]? = some ob → k < B → k ≠ lb → w'.heap[k]? = some ob
/-- How one thing is read into its place. -/
def OneOK {α : Type} (f : Nat) (mk : Value → Array Value) (T : TypeId) (zs : List Value) (tb z : Nat) (pv : Value) (l : List Int) (gt : TypeId) (gv : Value) (keep : World → List α → Prop) (one : PR α) (E : Lies α) (W0 : World) : Prop :=
  ∀ (W : World) (ob oo a : Nat) (c : Array Value) (p : List α), keep W p → Src W pv l tb gt gv → W.heap[tb]? = some (TO pv a true) → W.heap[ob]? = some (.cells c T (0, 0)) → (∀ i, i < zs.length → c[oo + i]? = zs[i]?) → W0.heap.size ≤ ob → ob ≠ tb → pv.ownBlock ≠ some ob → (p.length ≤ a ∧ a ≤ l.length) →
    Calls Tryd.prog f (mk (.pointer (some ⟨ob, oo, none⟩))) W fun e w' =>
      (∃ x a' cs, one a = some (x, a') ∧ a < a' ∧ a' ≤ l.length ∧ e = .returned (.tuple #[]) ∧ w'.heap[tb]? = some (TO pv a' true) ∧ cs.length = zs.length ∧ w'.heap[ob]? = some (.cells (putC c oo cs) T (0, 0)) ∧ Oth3 W w' tb ob z ∧ E p w' W.heap.size cs x ∧ keep w' (p ++ [x])) ∨
      (one a = none ∧ e = .panicked [{ v := .iface gt gv, recovered := false }] ∧ Oth3 W w' tb ob z)

/-- A list on the way: how far, what is read, where it lies. -/
structure LS {α : Type} (TE : TypeId) (K : Nat) (E : Lies α) (tb lb lo z : Nat) (pv : Value) (c : Array Value) (T : TypeId) (w wr : World) (n aj : Nat) (v : Value) (cells done : List Value) (xs : List α) : Prop where
  tat : wr.heap[tb]? = some (TO pv aj true)
  lat : wr.heap[lb]? = some (.cells (c.setIfInBounds lo v) T (0, 0))
  own : wr.ownsRow w.heap.size TE K v n cells
  els : Els E K wr w.heap.size done xs
  oth : Oth3 w wr tb lb z
/-- One more, of nothing yet. -/
theorem LS.grow {α : Type} {TE : TypeId} {K : Nat} {E : Lies α} {tb lb lo z : Nat} {pv : Value} {c : Array Value} {T : TypeId} {w wr X w2 : World} {n aj : Nat} {v v2 : Value} {cells done zs : List Value} {xs : List α} (hE : LiesOK TE E) (hT : T ≠ TE) (hTT : 112 ≠ TE) (hlb : lb ≠ tb) (_htl : tb < w.heap.size) (hll : lb < w.heap.size)
    (h : LS TE K E tb lb lo z pv c T w wr n aj v cells done xs) (hX : Below wr.heap.size wr X) (hg : X.grownBy w2 v.ownBlock) (h2 : w2.ownsRow w.heap.size TE K v2 (n + 1) (cells ++ zs)) : LS TE K E tb lb lo z pv c T w (w2.setCell ⟨lb, lo, none⟩ v2) (n + 1) aj v2 (cells ++ zs) done xs ∧ Older w.heap.size lb wr (w2.setCell ⟨lb, lo, none⟩ v2) := by
  have hr : ∀ k, v.ownBlock = some k → w.heap.size ≤ k := fun k hk => (own_blk h.own k hk).1
  have h1 : ∀ {k o}, wr.heap[k]? = some o → (notT TE o ∨ k < w.heap.size) → w2.heap[k]? = some o := fun {k o} hk hn => by
    have hx := heap_below hX (heap_lt hk) hk
    refine grown_at hg hx fun e => ?_
    obtain ⟨hb, cur, hc⟩ := own_blk h.own k e
    rw [hk] at hc
    rcases hn with hn | hn
    · exact hn _ _ (Option.some.inj hc)
    · omega
  have hlat := h1 h.lat (.inl (notT_cells hT))
  refine ⟨⟨(Below.heap_setCell _ _ _ _ (Ne.symm hlb)).trans (h1 h.tat (.inl (notT_cells hTT))), ?_, own_same h2 fun k hk => Below.heap_setCell _ _ _ _ ?_, ?_, ((h.oth.later hX).grown hg hr).set _ _⟩, fun k ob hk hb hne => (Below.heap_setCell _ _ _ _ hne).trans (h1 hk (.inr hb))⟩
  · rw [heap_set hlat, Array.setIfInBounds_setIfInBounds]
  · have := (own_blk h2 k hk).1
    show k ≠ lb
    omega
  · refine h.els.stays hE fun k ob hk hb hn => ?_
    exact (Below.heap_setCell _ _ _ _ (show k ≠ lb by omega)).trans (h1 hk (.inl hn))
theorem LS.one {α : Type} {TE : TypeId} {K : Nat} {E : Lies α} {tb lb lo z : Nat} {pv : Value} {c : Array Value} {T : TypeId} {w wr w3 : World} {j aj a' g cap : Nat} {cells zs cs : List Value} {cur : Array Value} {xs : List α} {x : α} (hE : LiesOK TE E) (hlb : lb ≠ tb) (hlz : lb ≠ z) (hzl : z < w.heap.size) (htl : tb < w.heap.size) (hll : lb < w.heap.size)
    (h : LS TE K E tb lb lo z pv c T w wr (j + 1) aj (.slice (some ⟨g, 0, none⟩) (j + 1) cap) (cells ++ zs) cells xs) (hx : xs.length = j) (hz : zs.length = K) (hcs : cs.length = K)
    (hg : wr.heap[g]? = some (.cells cur TE (0, 0))) (h3 : w3.heap[tb]? = some (TO pv a' true)) (hg3 : w3.heap[g]? = some (.cells (putC cur (j * K) cs) TE (0, 0))) (ho : Oth3 wr w3 tb g z) (he : E xs w3 wr.heap.size cs x) :
    LS TE K E tb lb lo z pv c T w w3 (j + 1) a' (.slice (some ⟨g, 0, none⟩) (j + 1) cap) (cells ++ cs) (cells ++ cs) (xs ++ [x]) := by
  have hgb := (own_blkObj h.own).1
  have hst : Stays TE w.heap.size wr w3 := fun k ob hk hb hn => ho.at hk (by omega) (fun e => by subst e; rw [hg] at hk; cases hk; exact hn _ _ rfl) (by omega)
  exact ⟨h3, ho.at h.lat hlb (by omega) hlz, own_put h.own (by rw [h.els.1, hx]) hz hcs hg hg3, (h.els.stays hE hst).snoc (hE.mono he h.oth.size) hcs, h.oth.new ho hgb⟩
end Go.Proofs.YtnanlkoldloolaaDoor
