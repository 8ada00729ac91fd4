/- Locs: reading: a plain number. -/
import Derived.Test.YtnanlkoldloolaaDoorEe
namespace Go.Proofs.YtnanlkoldloolaaDoor
open Go.RowKit

theorem numR_bd {l : List Int} {a a' : Nat} {n : Int} (hB : isB l) (h : numR l a = some (n, a')) : 0 ≤ n ∧ a < a' ∧ a' ≤ l.length ∧ n < 18446744073709551616 := by
  unfold numR at h
  split at h
  · rename_i hlt
    have hb := hB (l.getD a 0) (by simp [hlt])
    split at h
    · simp at h
      obtain ⟨rfl, rfl⟩ := h
      simp [hlt] at hb ⊢
      omega
    · split at h
      · rename_i h1 h2
        simp only [Option.some.injEq, Prod.mk.injEq] at h
        obtain ⟨rfl, rfl⟩ := h
        have hk : (l.getD a 0 - 247).toNat ≤ 8 := by omega
        have h3 := beL_bd _ _ (bytesAt_len h2.1) (bytesAt_B hB (a + 1) _)
        refine ⟨h3.1, by omega, h2.1, Int.lt_of_lt_of_le h3.2 ?_⟩
        rcases (by omega : (l.getD a 0 - 247).toNat = 0 ∨ (l.getD a 0 - 247).toNat = 1 ∨ (l.getD a 0 - 247).toNat = 2 ∨ (l.getD a 0 - 247).toNat = 3 ∨ (l.getD a 0 - 247).toNat = 4 ∨ (l.getD a 0 - 247).toNat = 5 ∨ (l.getD a 0 - 247).toNat = 6 ∨ (l.getD a 0 - 247).toNat = 7 ∨ (l.getD a 0 - 247).toNat = 8) with e | e | e | e | e | e | e | e | e <;> rw [e] <;> decide
      · cases h
  · cases h

def plainR (l : List Int) (a : Nat) : Option (Int × Nat) := match numR l a with
  | some (n, a') => if n ≤ 2147483647 then some (n, a') else none
  | none => none

set_option maxHeartbeats 4000000 in
theorem plain_read (tb : Nat) (pv : Value) (l : List Int) (at' : Nat) (nb no : Nat) (n1 : Int) (w : World) (hv : RdB w pv l) (hB : isB l) (ho : w.heap[tb]? = some (TO pv at' true)) (hne : pv.ownBlock ≠ some tb) (gt : TypeId) (gv : Value) (hg : Gives w gt gv) (htb : tb ≠ 0)
   (hn : w.cell? ⟨nb, no, none⟩ = some (.int .i64 n1)) (hz : w.frozen? ⟨nb, no, none⟩ = false) (hnb : nb ≠ tb) :
   Calls Tryd.prog 55 #[.pointer (some ⟨tb, 0, none⟩), .pointer (some ⟨nb, no, none⟩)] w fun e w' =>
     (∃ n a' w1, plainR l at' = some (n, a') ∧ e = .returned (.tuple #[]) ∧ Turn w w1 tb (TO pv a' true) ∧ w' = w1.setCell ⟨nb, no, none⟩ (.int .i64 n)) ∨
     (plainR l at' = none ∧ e = .panicked [{ v := .iface gt gv, recovered := false }] ∧ ∃ a', Turn w w' tb (TO pv a' true)) := by
  have HU := Lib.hid (fun n0 => unsigned_read tb pv l at' n0 w hv hB ho hne gt gv hg htb)
  have hnb2 := World.block_lt_of_cell? w _ hn
  clear hv ho hne
  go_enter Tryd.func55, Tryd.ntmps55
  go_wp2_with fail
  refine (HU.out _).mono ?_
  rintro e w1 (⟨n, a', hr, rfl, ht⟩ | ⟨hr, rfl, a', ht⟩)
  · have hbd := numR_bd hB hr
    have hn1 : w1.cell? ⟨nb, no, none⟩ = some (.int .i64 n1) := by rw [World.cell?_of_block (w := w) (ht.block nb hnb2 hnb)]; exact hn
    have hz1 : w1.frozen? ⟨nb, no, none⟩ = false := by rw [World.frozen?_of_block (w := w) (ht.block nb hnb2 hnb)]; exact hz
    have hgr := turn_gives hg ht htb
    have HR := Lib.hid hr
    have HT := Lib.hid ht
    clear hr ht HU
    by_cases hm : n ≤ 2147483647
    · go_wp2_with fail
      go_end0
      exact .inl ⟨n, a', w1, by unfold plainR; rw [HR.out]; simp [hm], rfl, HT.out, rfl⟩
    · go_wp2_with fail
      exact ⟨rfl, .inr ⟨by unfold plainR; rw [HR.out]; simp [hm], rfl, a', HT.out⟩⟩
  · have HR := Lib.hid hr
    have HT := Lib.hid ht
    clear hr ht HU
    go_wp2_with fail
    exact ⟨rfl, .inr ⟨by unfold plainR; rw [HR.out], rfl, a', HT.out⟩⟩
end Go.Proofs.YtnanlkoldloolaaDoor
