/- Locs: reading: debug information of nothing. -/
import Derived.Test.YtnanlkoldloolaaDoorEg
import Derived.Deep.DeepCutAuto
import Derived.Deep.RegionHeld3
import Derived.Deep.RegionLaw
import Derived.Shelf.RegionOpenPlain
namespace Go.Proofs.YtnanlkoldloolaaDoor
open Go.RowKit

theorem Turn.refl {w : World} {k : Nat} {o : Obj} (h : w.heap[k]? = some o) : Turn w w k o := ⟨h, rfl, rfl, rfl, Nat.le_refl _, fun _ _ _ => rfl⟩
theorem turn_cell {w w' : World} {k : Nat} {o : Obj} (ht : Turn w w' k o) {b i : Nat} {v : Value} (h : w.cell? ⟨b, i, none⟩ = some v) (hne : b ≠ k) : w'.cell? ⟨b, i, none⟩ = some v := by
  rw [World.cell?_of_block (w := w) (ht.block b (World.block_lt_of_cell? w _ h) hne)]; exact h

set_option maxHeartbeats 4000000 in
theorem all_zero (tb db : Nat) (pv : Value) (l : List Int) (n0 n1 n2 n3 : Nat) (w : World) (hv : RdB w pv l) (hB : isB l) (ho : w.heap[tb]? = some (TO pv n0 true)) (hne : pv.ownBlock ≠ some tb) (gt : TypeId) (gv : Value) (hg : Gives w gt gv) (htb : tb ≠ 0)
   (d0 : w.cell? ⟨db, 0, none⟩ = some (.slice none 0 0)) (d1 : w.cell? ⟨db, 1, none⟩ = some (.slice none 0 0)) (d2 : w.cell? ⟨db, 2, none⟩ = some (.slice none 0 0)) (hdb : db ≠ tb)
   (h0 : plainR l n0 = some (0, n1)) (h1 : plainR l n1 = some (0, n2)) (h2 : plainR l n2 = some (0, n3)) :
   Calls Tryd.prog 42 #[.pointer (some ⟨tb, 0, none⟩), .pointer (some ⟨db, 0, none⟩)] w fun e w' => e = .returned (.tuple #[]) ∧ Turn w w' tb (TO pv n3 true) := by
  have htl : tb < w.heap.size := (Array.getElem?_eq_some_iff.1 ho).1
  have T0 := Lib.hid (Turn.refl ho)
  have L1 := Lib.hid (fun W fv (ht : Turn w W tb (TO pv n0 true)) => list_zero_stops tb pv l n0 n1 db 0 fv W (turn_rd hv ht hne) hB ht.at_ hne gt gv (turn_gives hg ht htb) htb (turn_cell ht d0 hdb) h0)
  have L2 := Lib.hid (fun W fv (ht : Turn w W tb (TO pv n1 true)) => list_zero_marks tb pv l n1 n2 db 1 fv W (turn_rd hv ht hne) hB ht.at_ hne gt gv (turn_gives hg ht htb) htb (turn_cell ht d1 hdb) h1)
  have L3 := Lib.hid (fun W fv (ht : Turn w W tb (TO pv n2 true)) => list_zero_sites tb pv l n2 n3 db 2 fv W (turn_rd hv ht hne) hB ht.at_ hne gt gv (turn_gives hg ht htb) htb (turn_cell ht d2 hdb) h2)
  clear ho hne hg hv h0 h1 h2 d0 d1 d2
  have hmf : ∀ (fn : Fn) (first cap : Array Value) (w : World), (Instr.makeFunc fn first cap).run Tryd.prog w = .ok (.func fn first cap) w := fun _ _ _ _ => rfl
  go_enter Tryd.func42, Tryd.ntmps42
  have hnz : w.heap.size ≠ tb := by omega
  go_upto_region 1 with fail
  go_cut [] (fun wx => Turn w wx tb (TO pv n1 true) ∧ wx.cell? ⟨w.heap.size, 0, none⟩ = some (.pointer (some ⟨tb, 0, none⟩)))
  case first =>
    go_region_with (refine (L1.out _ _ (T0.out.later (((Below.refl _ _).alloc (Nat.le_refl _) _).drew))).mono ?_; rintro e w3 ⟨rfl, ht3⟩)
    all_goals (go_wp2_with fail; go_meet; exact ⟨(T0.out.later (((Below.refl _ _).alloc (Nat.le_refl _) _).drew)).trans ht3, turn_cell ht3 (by simp) hnz⟩)
  case rest =>
    obtain ⟨t3, hc3⟩ := hcut
    have T3 := Lib.hid t3
    clear t3 L1
    go_upto_region 2 with fail
    go_cut [] (fun wx => Turn w wx tb (TO pv n2 true) ∧ wx.cell? ⟨w.heap.size, 0, none⟩ = some (.pointer (some ⟨tb, 0, none⟩)))
    case first =>
      go_region_with (refine (L2.out _ _ (T3.out.later (Below.refl _ _).drew)).mono ?_; rintro e w4 ⟨rfl, ht4⟩)
      all_goals (go_wp2_with fail; go_meet; exact ⟨(T3.out.later (Below.refl _ _).drew).trans ht4, turn_cell ht4 (by simpa using hc3) hnz⟩)
    case rest =>
      obtain ⟨t4, hc4⟩ := hcut
      have T4 := Lib.hid t4
      have hs4 := World.block_lt_of_cell? _ _ hc4
      simp only at hs4
      clear t4 L2 hc3 T3 T0
      rename_i wb
      go_wp2_with fail
      go_region_with (refine (L3.out _ _ (T4.out.later (((Below.refl _ _).alloc (Nat.le_refl _) _).drew))).mono ?_; rintro e w5 ⟨rfl, ht5⟩)
      all_goals (go_wp2_with fail; go_end0; exact ⟨rfl, (T4.out.later (((Below.refl _ _).alloc (Nat.le_refl _) _).drew)).trans ht5⟩)
end Go.Proofs.YtnanlkoldloolaaDoor
