/- Locs: reading: a number. -/
import Derived.Test.YtnanlkoldloolaaDoorEd
import Derived.Laws.BitsAllLaws
namespace Go.Proofs.YtnanlkoldloolaaDoor
open Go.RowKit

/-- Bytes, the greatest first. -/
def beL (l : List Int) : Int := l.foldl (fun n x => n * 256 + x) 0
theorem beL_snoc (l : List Int) (x : Int) : beL (l ++ [x]) = beL l * 256 + x := by simp [beL]
theorem beL_bd : ∀ (k : Nat) (l : List Int), l.length = k → isB l → 0 ≤ beL l ∧ beL l < 256 ^ k
  | 0, l, h, _ => by obtain rfl := List.eq_nil_of_length_eq_zero h; simp [beL]
  | k + 1, l, h, hB => by
    obtain ⟨r, x, rfl⟩ : ∃ r x, l = r ++ [x] := by
      have hne : l ≠ [] := by rintro rfl; simp at h
      exact ⟨l.dropLast, l.getLast hne, (List.dropLast_concat_getLast hne).symm⟩
    have ih := beL_bd k r (by simpa using h) (fun y hy => hB y (by simp [hy]))
    have hx := hB x (by simp)
    rw [beL_snoc, Int.pow_succ]
    omega

def bytesAt (l : List Int) (n k : Nat) : List Int := (l.drop n).take k
theorem bytesAt_succ {l : List Int} {n j : Nat} (h : n + j < l.length) : bytesAt l n (j + 1) = bytesAt l n j ++ [l.getD (n + j) 0] := by
  unfold bytesAt
  rw [List.take_succ_eq_append_getElem (by rw [List.length_drop]; omega), List.getElem_drop]
  simp [List.getD, h]
theorem bytesAt_len {l : List Int} {n j : Nat} (h : n + j ≤ l.length) : (bytesAt l n j).length = j := by
  unfold bytesAt; simp; omega
theorem bytesAt_B {l : List Int} (hB : isB l) (n j : Nat) : isB (bytesAt l n j) := fun x hx => hB x (List.mem_of_mem_drop (List.mem_of_mem_take hx))

/-- A number read at a place, and the place behind it. -/
def numR (l : List Int) (n : Nat) : Option (Int × Nat) :=
  if n < l.length then
    if l.getD n 0 ≤ 247 then some (l.getD n 0, n + 1)
    else if n + 1 + (l.getD n 0 - 247).toNat ≤ l.length ∧ l.getD (n + 1) 0 ≠ 0 ∧ 247 < beL (bytesAt l (n + 1) (l.getD n 0 - 247).toNat) then some (beL (bytesAt l (n + 1) (l.getD n 0 - 247).toNat), n + 1 + (l.getD n 0 - 247).toNat)
    else none
  else none

theorem or_low (n c : Int) (h0 : 0 ≤ n) (h1 : n < 256 ^ 7) (h2 : 0 ≤ c) (h3 : c ≤ 255) : bits .or .u64 (n * 256) c = n * 256 + c := by
  have h7 : n < 72057594037927936 := h1
  clear h1
  rw [u64_or _ _ (by omega) (by omega) h2 (by omega)]
  obtain ⟨a, rfl⟩ := Int.eq_ofNat_of_zero_le h0
  obtain ⟨b, rfl⟩ := Int.eq_ofNat_of_zero_le h2
  have e : ((a : Int) * 256).toNat = a * 256 := by omega
  rw [e, Int.toNat_natCast, Nat.or_comm, nat_join8' _ _ (by omega) (by omega)]
  simp only [Int.natCast_add, Int.natCast_mul, Int.cast_ofNat_Int]

theorem pow256 (j : Nat) (h : j ≤ 7) : (256 : Int) ^ j ≤ 256 ^ 7 := by
  rcases (by omega : j = 0 ∨ j = 1 ∨ j = 2 ∨ j = 3 ∨ j = 4 ∨ j = 5 ∨ j = 6 ∨ j = 7) with rfl | rfl | rfl | rfl | rfl | rfl | rfl | rfl <;> decide
theorem turn_rd {w w' : World} {tb : Nat} {o : Obj} {pv : Value} {l : List Int} (h : RdB w pv l) (ht : Turn w w' tb o) (hne : pv.ownBlock ≠ some tb) : RdB w' pv l :=
  Rd.kept (row := some tb) h ⟨ht.os, ht.tape, ht.output, ht.size, fun k hk hn => ht.block k hk (fun e => hn (by rw [e]))⟩ (.inr hne)
theorem turn_gives {w w' : World} {tb : Nat} {o : Obj} {gt : TypeId} {gv : Value} (h : Gives w gt gv) (ht : Turn w w' tb o) (htb : tb ≠ 0) : Gives w' gt gv := by
  have hlt := World.block_lt_of_cell? w _ h
  unfold Gives
  rw [World.cell?_of_block (w := w) (ht.block 0 hlt (fun e => htb e.symm))]; exact h

set_option maxHeartbeats 4000000 in
theorem unsigned_read (tb : Nat) (pv : Value) (l : List Int) (at' : Nat) (n0 : Int) (w : World) (hv : RdB w pv l) (hB : isB l) (ho : w.heap[tb]? = some (TO pv at' true)) (hne : pv.ownBlock ≠ some tb) (gt : TypeId) (gv : Value) (hg : Gives w gt gv) (htb : tb ≠ 0) :
   Calls Tryd.prog 68 #[.pointer (some ⟨tb, 0, none⟩), .int .u64 n0] w fun e w' =>
     (∃ n a', numR l at' = some (n, a') ∧ e = .returned (.int .u64 n) ∧ Turn w w' tb (TO pv a' true)) ∨
     (numR l at' = none ∧ e = .panicked [{ v := .iface gt gv, recovered := false }] ∧ ∃ a', Turn w w' tb (TO pv a' true)) := by
  have HN := Lib.hid (fun w hv hlt ho => one_none tb pv l at' true w hv hlt ho gt gv)
  have HV := Lib.hid hv
  have HO := Lib.hid ho
  obtain ⟨k0, k1, k2, z0, hz⟩ := to_cells ho
  clear ho hv
  go_enter Tryd.func68, Tryd.ntmps68
  go_wp2_with fail
  by_cases hlt : at' < l.length
  · refine (one_some tb pv l at' true w HV.out hlt HO.out hne).mono ?_
    rintro e w1 ⟨rfl, ht⟩
    have HT := Lib.hid ht
    have b0 := hB (l.getD at' 0) (by simp [hlt])
    obtain ⟨b, hb⟩ : ∃ b, l.getD at' 0 = b := ⟨_, rfl⟩
    have HBE := Lib.hid hb
    rw [hb] at b0 ⊢
    clear hb ht HN
    by_cases hs : b ≤ 247
    · go_wp2_with fail
      go_ret
      exact .inl ⟨b, at' + 1, by unfold numR; rw [if_pos hlt, HBE.out, if_pos hs], rfl, HT.out⟩
    · obtain ⟨k, hk⟩ : ∃ k : Nat, b - 247 = k := ⟨(b - 247).toNat, by omega⟩
      have hk8 : k ≤ 8 := by omega
      have hNR : numR l at' = if at' + 1 + k ≤ l.length ∧ l.getD (at' + 1) 0 ≠ 0 ∧ 247 < beL (bytesAt l (at' + 1) k) then some (beL (bytesAt l (at' + 1) k), at' + 1 + k) else none := by
        have e : (b - 247).toNat = k := by omega
        unfold numR; rw [if_pos hlt, HBE.out, if_neg hs, e]
      have HNR := Lib.hid hNR
      have HK := Lib.hid hk
      clear hNR
      go_wp2_with fail
      go_loopw [77, 1] (fun i n wr => ∃ j : Nat, j ≤ k ∧ at' + 1 + j ≤ l.length ∧ i = .int .i64 j ∧ n = .int .u64 (beL (bytesAt l (at' + 1) j)) ∧ (0 < j → l.getD (at' + 1) 0 ≠ 0) ∧ Turn w wr tb (TO pv ((at' + 1 + j : Nat) : Int) true)) (fun i _ _ => k - (intOf i).toNat)
      case atStart => exact ⟨0, by omega, by omega, rfl, rfl, fun h => absurd h (by omega), HT.out⟩
      case round =>
        obtain ⟨j, hj, hjl, rfl, rfl, hz, ht⟩ := hrel
        have HT2 := Lib.hid ht
        have HZ := Lib.hid hz
        have hbd := beL_bd j (bytesAt l (at' + 1) j) (bytesAt_len hjl) (bytesAt_B hB _ _)
        obtain ⟨n, hn⟩ : ∃ n, beL (bytesAt l (at' + 1) j) = n := ⟨_, rfl⟩
        have HNN := Lib.hid hn
        rw [hn] at hbd ⊢
        clear ht hn hz
        have hgr := turn_gives hg HT2.out htb
        have HRR := Lib.hid (turn_rd HV.out HT2.out hne)
        have hk0 : 0 < k := by omega
        by_cases hjk : j < k
        · have h256 : n < 256 ^ 7 := Int.lt_of_lt_of_le hbd.2 (pow256 j (by omega))
          have hn0 := hbd.1
          clear hbd
          go_wp2_with fail
          by_cases hj2 : at' + 1 + j < l.length
          · refine (one_some tb pv l (at' + 1 + j) true _ HRR.out hj2 HT2.out.at_ hne).mono ?_
            rintro e w2 ⟨rfl, ht2⟩
            have HT3 := Lib.hid (HT2.out.trans ht2)
            have hgr2 := turn_gives hg HT3.out htb
            have c0 := hB (l.getD (at' + 1 + j) 0) (by simp [hj2])
            obtain ⟨c, hc⟩ : ∃ c, l.getD (at' + 1 + j) 0 = c := ⟨_, rfl⟩
            have HCC := Lib.hid hc
            rw [hc] at c0 ⊢
            clear hc ht2
            have hor := or_low n c hn0 h256 c0.1 c0.2
            have HNX : Hid (beL (bytesAt l (at' + 1) (j + 1)) = n * 256 + c) := by
              show _ = _
              rw [bytesAt_succ hj2, beL_snoc, HNN.out, HCC.out]
            by_cases hj0 : j = 0
            · subst hj0
              by_cases hc0 : c = 0
              · subst hc0
                go_wp2_with fail
                exact ⟨rfl, .inr ⟨by rw [HNR.out, if_neg (by rintro ⟨_, h, _⟩; exact h HCC.out)], rfl, _, HT3.out⟩⟩
              · go_wp2_with fail
                exact ⟨⟨1, by omega, by omega, rfl, congrArg (Value.int .u64) HNX.out.symm, fun _ h => hc0 (HCC.out.symm.trans h), HT3.out⟩, by simp [intOf]; omega⟩
            · have hj0' : ((j : Int) == 0) = false := by simp; omega
              go_wp2_with fail
              exact ⟨⟨j + 1, by omega, by omega, by go_num, congrArg (Value.int .u64) HNX.out.symm, fun _ => HZ.out (by omega), HT3.out⟩, by simp [intOf]; omega⟩
          · refine (one_none tb pv l (at' + 1 + j) true _ HRR.out (by omega) HT2.out.at_ gt gv hgr).mono ?_
            rintro e w2 ⟨rfl, hb2⟩
            have HB2 := Lib.hid hb2
            clear hb2
            go_wp2_with fail
            exact ⟨rfl, .inr ⟨by rw [HNR.out, if_neg (by omega)], rfl, _, HT2.out.later HB2.out⟩⟩
        · obtain rfl : j = k := by omega
          clear hbd
          go_wp2_with fail
          · exact ⟨rfl, .inr ⟨by rw [HNR.out, if_neg (by rintro ⟨_, _, h⟩; rw [HNN.out] at h; omega)], rfl, _, HT2.out⟩⟩
          · go_ret
            exact .inl ⟨n, at' + 1 + j, by rw [HNR.out, if_pos ⟨hjl, HZ.out hk0, by rw [HNN.out]; omega⟩, HNN.out], rfl, HT2.out⟩
  · refine (HN.out w HV.out (by omega) HO.out hg).mono ?_
    rintro e w1 ⟨rfl, hb1⟩
    have HB1 := Lib.hid hb1
    clear hb1 HN
    go_wp2_with fail
    exact ⟨rfl, .inr ⟨by unfold numR; rw [if_neg hlt], rfl, at', ⟨(HB1.out.block tb (Array.getElem?_eq_some_iff.1 HO.out).1).trans HO.out, HB1.out.os, HB1.out.tape, HB1.out.output, HB1.out.size, fun j hj _ => HB1.out.block j hj⟩⟩⟩
end Go.Proofs.YtnanlkoldloolaaDoor
