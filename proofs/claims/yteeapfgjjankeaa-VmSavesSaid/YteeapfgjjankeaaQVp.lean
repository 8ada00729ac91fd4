/- Vm: the instruction that prints. -/
import Derived.Test.YteeapfgjjankeaaQVb
namespace Go.Proofs.Yteeapfgjjankeaa
open Go.RowKit

theorem infoN : (Try.prog.info? 2).map (fun i => (i.zero, i.size, i.bytes)) = some (some (.int .i64 0), 1, 8) := by kernel_rfl
theorem info_partsV {P : Program} {t : TypeId} {z : Value} {s b : Nat} (h : (P.info? t).map (fun i => (i.zero, i.size, i.bytes)) = some (some z, s, b)) : ∃ i, P.info? t = some i ∧ i.zero = some z ∧ i.size = s ∧ i.bytes = b := by
  cases e : P.info? t with
  | none => rw [e] at h; cases h
  | some i =>
    rw [e] at h
    simp at h
    exact ⟨i, rfl, h.1, h.2.1, h.2.2⟩
theorem keep1 {W w' : World} {row : Option Nat} {b o : Nat} {v : Value} (hg : W.grownBy w' row) (hb : b < W.heap.size) (hne : row ≠ some b) (h : W.cell? ⟨b, o, none⟩ = some v) : w'.cell? ⟨b, o, none⟩ = some v := by
  have e := hg.block b hb (fun e => hne e.symm)
  simp only [World.cell?, e] at h ⊢
  exact h
theorem own_snoc {w : World} {base : Nat} {v : Value} {xs : List Int} {x : Int} (h : w.ownsRow base 2 1 v (xs.length + 1) (xs.map (Value.int .i64) ++ [.int .i64 x])) : w.ownsRow base 2 1 v (xs ++ [x]).length ((xs ++ [x]).map (Value.int .i64)) := by
  rw [List.length_append, List.map_append]; exact h
theorem frz {w : World} {M : Nat} {c : Array Value} {t : TypeId} (h : w.heap[M]? = some (.cells c t (0, 0))) (i : Nat) : w.frozen? ⟨M, i, none⟩ = false := by simp [World.frozen?, h]
theorem keepP {w1 w2 : World} {A : Obj} {M F b : Nat} {ov v1 v2 v3 : Value} (hM : M < w1.heap.size) (hF : F < w1.heap.size) (hb : b < w1.heap.size) (kM : ∀ k, ov.ownBlock = some k → k ≠ M) (kF : ∀ k, ov.ownBlock = some k → k ≠ F) (kB : ∀ k, ov.ownBlock = some k → k ≠ b) (hg : ((w1.alloc A).drew).grownBy w2 ov.ownBlock)
    (hE : ((w1.alloc A).drew).cell? ⟨M, 10, none⟩ = some v1 ∧ ((w1.alloc A).drew).cell? ⟨F, 2, none⟩ = some v2 ∧ ((w1.alloc A).drew).cell? ⟨b, 1, none⟩ = some v3) : w2.cell? ⟨M, 10, none⟩ = some v1 ∧ w2.cell? ⟨F, 2, none⟩ = some v2 ∧ w2.cell? ⟨b, 1, none⟩ = some v3 := by
  have hs : w1.heap.size < ((w1.alloc A).drew).heap.size := by show _ < (w1.alloc A).heap.size; simp
  exact ⟨keep1 hg (by omega) (fun e => kM M e rfl) hE.1, keep1 hg (by omega) (fun e => kF F e rfl) hE.2.1, keep1 hg (by omega) (fun e => kB b e rfl) hE.2.2⟩
set_option maxRecDepth 100000 in
set_option maxHeartbeats 4000000 in
theorem do_print (w0 w : World) (base M F OB : Nat) (mc fc : Array Value) (wv ev outs : Value) (xs : List Int) (x : Int) (h : MS w0 base M F OB mc fc wv ev outs xs w) (hl : xs.length ≤ 100)
    (h10 : w.cell? ⟨M, 10, none⟩ = some outs) (hr : w.cell? ⟨F, 2, none⟩ = some (.int .i64 x)) :
    Calls Try.prog 39 #[.pointer (some ⟨M, 0, none⟩), .pointer (some ⟨F, 0, none⟩), .agg #[.int .u8 42, .int .u8 0, .int .u8 0, .int .u8 0, .int .i64 0]] w fun e w' =>
      e = .returned (.tuple #[]) ∧ ∃ v', MS w0 base M F OB (mc.setIfInBounds 10 v') fc wv ev v' (xs ++ [x]) w' ∧ KW w w' := by
  obtain ⟨i0, hi, hz0, hz1, hz2⟩ := info_partsV infoN
  have HI : Hid _ := And.intro hi (And.intro hz0 (And.intro hz1 hz2))
  have hlM : M < w.heap.size := (Array.getElem?_eq_some_iff.1 h.hm).1
  have hlF : F < w.heap.size := (Array.getElem?_eq_some_iff.1 h.hf).1
  have HH := Lib.hid h
  obtain ⟨oa, oc, rfl⟩ := (Rd.of_own h.hx).shape
  clear h hi hz0 hz1 hz2
  go_enter Try.func39, Try.ntmps39
  go_upto_region 34 with fail
  obtain ⟨w1, hw1⟩ : ∃ w1, w1 = w.alloc (.cells #[.int .u8 42, .int .u8 0, .int .u8 0, .int .u8 0, .int .i64 0] 60) := ⟨_, rfl⟩
  rw [← hw1]
  have hB1 : Below w.heap.size w w1 := by rw [hw1]; exact (Below.refl _ _).alloc (Nat.le_refl _) _
  have d1 : w1.cell? ⟨w.heap.size, 1, none⟩ = some (.int .u8 0) := by rw [hw1, World.cell?_alloc_at _ _ _ _ rfl]; rfl
  have d10 : w1.cell? ⟨M, 10, none⟩ = some (.slice oa xs.length oc) := (hB1.cell (p := ⟨M, 10, none⟩) hlM).trans h10
  have d2 : w1.cell? ⟨F, 2, none⟩ = some (.int .i64 x) := (hB1.cell (p := ⟨F, 2, none⟩) hlF).trans hr
  have hz1 : w.heap.size < w1.heap.size := by rw [hw1]; simp
  have hM1 : M < w1.heap.size := Nat.lt_of_lt_of_le hlM hB1.size
  have hF1 : F < w1.heap.size := Nat.lt_of_lt_of_le hlF hB1.size
  have H1 := Lib.hid (HH.out.later hB1)
  have b1 : xs.length + 1 ≤ maxLen := by unfold maxLen; omega
  have b2 : (xs.length + 1) * 8 ≤ 140737488355328 := by omega
  have OA : Hid (((w1.alloc (.cells #[.int .i64 x] 2)).drew).ownsRow base 2 1 (.slice oa xs.length oc) xs.length (xs.map (Value.int .i64))) := H1.out.hx.alloc _
  have RA : Hid (Rd ((w1.alloc (.cells #[.int .i64 x] 2)).drew) 1 (.slice (some ⟨w1.heap.size, 0, none⟩) 1 1) 1 [.int .i64 x]) := by
    refine Rd.mk (by simp) (Nat.le_refl _) (by unfold maxLen; omega) (fun j hj => ?_)
    simp at hj
    subst hj
    show (w1.alloc _).cell? _ = _
    rw [World.cell?_alloc_at _ _ _ _ rfl]; rfl
  have BA : Hid (base ≤ ((w1.alloc (.cells #[.int .i64 x] 2)).drew).heap.size) := by show _ ≤ (w1.alloc _).heap.size; simp; have := H1.out.size; omega
  have hneM : ∀ k, (Value.slice oa xs.length oc).ownBlock = some k → k ≠ M := fun k hk => by
    obtain ⟨_, cur, hc⟩ := own_blk HH.out.hx k hk
    exact blk_ne hc HH.out.hm (cells_ne (by decide))
  have hneF : ∀ k, (Value.slice oa xs.length oc).ownBlock = some k → k ≠ F := fun k hk => by
    obtain ⟨_, cur, hc⟩ := own_blk HH.out.hx k hk
    exact blk_ne hc HH.out.hf (cells_ne (by decide))
  have hneB : ∀ k, (Value.slice oa xs.length oc).ownBlock = some k → k ≠ w.heap.size := fun k hk => by
    obtain ⟨_, cur, hc⟩ := own_blk HH.out.hx k hk
    have := (Array.getElem?_eq_some_iff.1 hc).1
    omega
  have KM := Lib.hid hneM
  have KF := Lib.hid hneF
  have KB := Lib.hid hneB
  have e1 : ((w1.alloc (.cells #[.int .i64 x] 2)).drew).cell? ⟨M, 10, none⟩ = some (.slice oa xs.length oc) := (World.cell?_alloc_past _ _ _ hM1).trans d10
  have e2 : ((w1.alloc (.cells #[.int .i64 x] 2)).drew).cell? ⟨F, 2, none⟩ = some (.int .i64 x) := (World.cell?_alloc_past _ _ _ hF1).trans d2
  have e3 : ((w1.alloc (.cells #[.int .i64 x] 2)).drew).cell? ⟨w.heap.size, 1, none⟩ = some (.int .u8 0) := (World.cell?_alloc_past _ _ _ hz1).trans d1
  have E := Lib.hid (And.intro e1 (And.intro e2 e3))
  have H1A := Lib.hid (H1.out.later (((Below.refl _ _).alloc (Nat.le_refl _) (.cells #[.int .i64 x] 2)).drew))
  have hBW := Lib.hid hB1
  clear hw1 hB1 hneM hneF hneB e1 e2 e3 h10 hr
  have mixed : Try.prog.follows Departure.mixedOrders = true := by kernel_rfl
  go_region_law_o (refine step_append_own_rd rfl _ _ 27 rfl base 2 i0 (.int .i64 0) 1 8 Try.underlying27 HI.out.1 HI.out.2.1 HI.out.2.2.1 HI.out.2.2.2 rfl (by decide) _ xs.length (xs.map (Value.int .i64)) rfl OA.out _ 1 [.int .i64 x] rfl RA.out (ints_oneCell .i64 [x]) b1 b2 BA.out ?_; intro v2 w2 hown2 hgrow2; have hk3 := keepP hM1 hF1 hz1 KM.out KF.out KB.out hgrow2 E.out; have HM2 := Lib.hid (H1A.out.turnX hgrow2 (own_snoc hown2)); have hfz := frz HM2.out.hm 10; have hl2 := (Array.getElem?_eq_some_iff.1 HM2.out.hm).1; obtain ⟨va, vc, rfl⟩ := (Rd.of_own hown2).shape)
  all_goals
    go_wp2_with fail
    refine bodyPost_end (results_none rfl _ _ _) rfl ⟨rfl, _, HM2.out.turnM (turn_set HM2.out.hm _), ?_⟩
    intro k c f hk
    have hk1 : w1.heap[k]? = some (.cells c 60 f) := (hBW.out.block k (Array.getElem?_eq_some_iff.1 hk).1).trans hk
    have hk2 : (w1.alloc (.cells #[.int .i64 x] 2)).drew.heap[k]? = some (.cells c 60 f) := (Below.heap_alloc _ _ _ (Array.getElem?_eq_some_iff.1 hk1).1).trans hk1
    have hk3' : w2.heap[k]? = some (.cells c 60 f) := (hgrow2.block k (Array.getElem?_eq_some_iff.1 hk2).1 (fun e => by
      obtain ⟨_, cur, hc⟩ := own_blk OA.out k e.symm
      exact blk_ne hk2 hc (cells_ne (by decide)) rfl)).trans hk2
    rw [Below.heap_setCell _ _ _ _ (blk_ne hk3' HM2.out.hm (cells_ne (by decide))), hk3', hk]
end Go.Proofs.Yteeapfgjjankeaa
