/- Walks of package inst, on: a number's bytes. -/
import Derived.Test.YtlnaaoigggfefaaG
namespace Go.Proofs.Ytlnaaoigggfefaa
open Go.RowKit

theorem infoB : (Try.prog.info? 5).map (fun i => (i.zero, i.size, i.bytes)) = some (some (.int .u8 0), 1, 1) := by kernel_rfl

/-- A slice of bytes that the call made: it is nil, or leads to a block from 'base' on. -/
def ownB (w : World) (base : Nat) (v : Value) (l : List Int) : Prop := w.ownsRow base 5 1 v l.length (l.map (Value.int .u8))

theorem ownB_grow {w : World} {base : Nat} {v : Value} {l : List Int} {n : Nat} {x : List Int} (h : w.ownsRow base 5 1 v n (l.map (Value.int .u8) ++ x.map (Value.int .u8))) (hn : n = l.length + x.length) : ownB w base v (l ++ x) := by
  subst hn; simpa [ownB] using h
theorem ownB_lit (w : World) (base : Nat) (l : List Int) (hb : base ≤ w.heap.size) (hl : l.length ≤ 1000) :
    ownB (w.alloc (.cells (l.map (Value.int .u8)).toArray 5)) base (.slice (some ⟨w.heap.size, 0, none⟩) l.length l.length) l := by
  have := World.ownsRow_lit (e := 5) (size := 1) w (l.map (Value.int .u8)).toArray l.length hb (by unfold maxLen; omega) (by simp)
  simpa [ownB] using this

set_option maxHeartbeats 1000000 in
theorem number_any (n : Int) (s : Bool) (w : World) (hn1 : -9223372036854775808 ≤ n) (hn2 : n ≤ 9223372036854775807) :
   Calls Try.prog 29 #[.int .i64 n, .bool s] w fun e w' => ∃ v, e = .returned v ∧ ownB w' w.heap.size v (numL n s) ∧ Below w.heap.size w w' := by
  obtain ⟨i0, hi, hz0, hz1, hz2⟩ := info_parts infoB
  have h8 := nbL_le n s
  have hfy : ∀ k, k = nbL n s → fitsL n k s = true := fun k h => h ▸ nbL_fits n s
  have HFY := Lib.hid hfy
  have hfn : ∀ k, k < nbL n s → fitsL n k s = false := fun k h => nbL_not n s k h
  have HFN := Lib.hid hfn
  have HN : Hid (numL n s = (nbL n s : Int) :: bytesL n (nbL n s)) := rfl
  generalize nbL n s = K at *
  have HI : Hid _ := And.intro hi (And.intro hz0 (And.intro hz1 hz2))
  clear hfy hfn hi hz0 hz1 hz2
  go_enter Try.func29, Try.ntmps29
  go_wp2_with fail
  go_loop [5] (fun v => ∃ k : Nat, k ≤ K ∧ v = .int .i64 k) (fun v => 8 - (intOf v).toNat)
  case atStart => exact ⟨0, by omega, rfl⟩
  case round =>
    obtain ⟨k, hk, rfl⟩ := hrel
    by_cases hlt : k < K
    · go_wp2_with (go_at_call 31; refine (fits_any _ _ _ _ (by omega) (by omega) hn1 hn2).mono ?_; rw [Int.toNat_natCast, HFN.out k hlt]; rintro e w' ⟨rfl, rfl⟩)
      go_round
      case rel => exact ⟨k + 1, by omega, by go_num⟩
      case measure => simp [intOf]; omega
    · have hkK : k = K := by omega
      subst hkK
      go_wp2_with (go_at_call 31; refine (fits_any _ _ _ _ (by omega) (by omega) hn1 hn2).mono ?_; rw [Int.toNat_natCast, HFY.out k rfl]; rintro e w' ⟨rfl, rfl⟩)
      go_loopw [6, 19] (fun v j wr => ∃ m : Nat, m ≤ k ∧ j = .int .i64 m ∧ ownB wr w.heap.size v ((k : Int) :: bytesL n m) ∧ Below w.heap.size w wr) (fun _ j _ => 8 - (intOf j).toNat)
      case atStart => exact ⟨0, by omega, rfl, ownB_lit w w.heap.size [(k : Int)] (Nat.le_refl _) (by simp), (Below.refl _ _).alloc (Nat.le_refl _) _⟩
      case round =>
        obtain ⟨m, hm, rfl, hown, hbel⟩ := hrel
        by_cases hlt : m < k
        · have hw : w.heap.size ≤ wr.heap.size := hbel.size
          have HB := Lib.hid hbel
          have HO := Lib.hid hown
          have hl : (((k : Int) :: bytesL n m).length) = m + 1 := by simp [bytesL_length]
          have HL := Lib.hid hl
          clear hbel hown hl
          go_wp2_with (at_builtin; refine wpList_append_own _ rfl _ _ 22 rfl w.heap.size 5 i0 (.int .u8 0) 1 1 Try.underlying22 HI.out.1 HI.out.2.1 HI.out.2.2.1 HI.out.2.2.2 rfl (by decide) _ _ _ rfl (HO.out.alloc _) ⟨wr.heap.size, 0, none⟩ 1 1 [.int .u8 (n / 2 ^ (8 * m) % 256)] rfl rfl (cell_one_new _ _ _) (ints_oneCell .u8 [_]) (by rw [HL.out]; unfold maxLen; omega) (by rw [HL.out]; omega) (by simp; omega) ?_; intro v' w1 hown1 hgrow1 _)
          refine ⟨⟨m + 1, by omega, by go_num, ?_, ?_⟩, by simp [intOf]; omega⟩
          · rw [bytesL_succ, ← shr_byte, ← List.cons_append]
            exact ownB_grow hown1 (by simp)
          · exact (HB.out.alloc hw _).grown hgrow1 (by simp; omega) (fun j hj => by have := (HO.out.lt j hj).1; omega)
        · have e : m = k := by omega
          subst e
          have HO := Lib.hid hown
          have HB := Lib.hid hbel
          clear hown hbel
          go_wp2
          go_ret
          exact ⟨_, rfl, by rw [HN.out]; exact HO.out, HB.out⟩
end Go.Proofs.Ytlnaaoigggfefaa
