/- Vm: a machine of the document's example in memory: what turns, what stays. -/
import Derived.Test.YteeapfgjjankeaaQVa
import Derived.Test.YteeapfgjjankeaaQG
import Derived.Deep.DeepCutAuto
import Derived.Deep.RegionHeld3
import Derived.Deep.RegionLaw
import Derived.Shelf.RegionOpenPlain
namespace Go.Proofs.Yteeapfgjjankeaa
open Go.RowKit

/-- One block turns; whatever else there was stays. -/
structure Turn (w w' : World) (k : Nat) (o : Obj) : Prop where
  at_ : w'.heap[k]? = some o
  os : w'.os = w.os
  tape : w'.tape = w.tape
  output : w'.output = w.output
  size : w.heap.size ≤ w'.heap.size
  block : ∀ j, j < w.heap.size → j ≠ k → w'.heap[j]? = w.heap[j]?
theorem Turn.later {w w' w'' : World} {k : Nat} {o : Obj} (h : Turn w w' k o) (hb : Below w'.heap.size w' w'') : Turn w w'' k o :=
  ⟨(hb.block k (Array.getElem?_eq_some_iff.1 h.at_).1).trans h.at_, hb.os.trans h.os, hb.tape.trans h.tape, hb.output.trans h.output, Nat.le_trans h.size hb.size, fun j hj hne => (hb.block j (Nat.lt_of_lt_of_le hj h.size)).trans (h.block j hj hne)⟩
theorem Turn.before {w w' w'' : World} {k : Nat} {o : Obj} (hb : Below w.heap.size w w') (h : Turn w' w'' k o) : Turn w w'' k o :=
  ⟨h.at_, h.os.trans hb.os, h.tape.trans hb.tape, h.output.trans hb.output, Nat.le_trans hb.size h.size, fun j hj hne => (h.block j (Nat.lt_of_lt_of_le hj hb.size) hne).trans (hb.block j hj)⟩
theorem turn_set {w : World} {k i : Nat} {c : Array Value} {t : TypeId} {f : Nat × Nat} (h : w.heap[k]? = some (.cells c t f)) (v : Value) : Turn w (w.setCell ⟨k, i, none⟩ v) k (.cells (c.setIfInBounds i v) t f) :=
  ⟨by simp [World.setCell, Array.getElem?_modify, h], rfl, rfl, rfl, by rw [World.size_setCell]; exact Nat.le_refl _, fun j _ hne => Below.heap_setCell _ _ _ _ hne⟩
theorem Turn.trans {w w' w'' : World} {k : Nat} {o o' : Obj} (h : Turn w w' k o) (h2 : Turn w' w'' k o') : Turn w w'' k o' :=
  ⟨h2.at_, h2.os.trans h.os, h2.tape.trans h.tape, h2.output.trans h.output, Nat.le_trans h.size h2.size, fun j hj hne => (h2.block j (Nat.lt_of_lt_of_le hj h.size) hne).trans (h.block j hj hne)⟩
theorem Turn.below {w0 w w' : World} {k base : Nat} {o : Obj} (hb : Below base w0 w) (h : Turn w w' k o) (hk : base ≤ k) (hs : base ≤ w.heap.size) : Below base w0 w' :=
  hb.trans ⟨h.os, h.tape, h.output, h.size, fun j hj => h.block j (by omega) (by omega)⟩

def wcs : List Value := [.int .u8 30, .int .u8 0, .int .u8 0, .int .u8 0, .int .i64 7, .int .u8 42, .int .u8 0, .int .u8 0, .int .u8 0, .int .i64 0, .int .u8 44, .int .u8 0, .int .u8 0, .int .u8 0, .int .i64 0, .int .u8 47, .int .u8 0, .int .u8 0, .int .u8 0, .int .i64 0]
structure MS (w0 : World) (base M F OB : Nat) (mc fc : Array Value) (wv ev outs : Value) (xs : List Int) (w : World) : Prop where
  hm : w.heap[M]? = some (.cells mc 73 (0, 0))
  hf : w.heap[F]? = some (.cells fc 87 (0, 0))
  ho : w.heap[OB]? = some (.cells #[.pointer (some ⟨F, 0, none⟩)] 74 (0, 0))
  hw : w.ownsRow base 60 5 wv 4 wcs
  he : w.ownsRow base 62 2 ev 1 [.int .i64 0, .int .i64 0]
  hx : w.ownsRow base 2 1 outs xs.length (xs.map (Value.int .i64))
  bM : base ≤ M
  bF : base ≤ F
  bel : Below base w0 w
section
variable {w0 w w' : World} {base M F OB : Nat} {mc fc : Array Value} {wv ev outs : Value} {xs : List Int}
theorem MS.size (h : MS w0 base M F OB mc fc wv ev outs xs w) : base ≤ w.heap.size := Nat.le_trans h.bM (Nat.le_of_lt (Array.getElem?_eq_some_iff.1 h.hm).1)
theorem MS.later (h : MS w0 base M F OB mc fc wv ev outs xs w) (hb : Below w.heap.size w w') : MS w0 base M F OB mc fc wv ev outs xs w' := by
  have hk : ∀ {k : Nat} {o : Obj}, w.heap[k]? = some o → w'.heap[k]? = w.heap[k]? := fun {k o} e => hb.block k (Array.getElem?_eq_some_iff.1 e).1
  refine ⟨(hk h.hm).trans h.hm, (hk h.hf).trans h.hf, (hk h.ho).trans h.ho, own_same h.hw fun k e => ?_, own_same h.he fun k e => ?_, own_same h.hx fun k e => ?_, h.bM, h.bF, h.bel.trans (hb.mono h.size)⟩
  · obtain ⟨_, cur, hc⟩ := own_blk h.hw k e; exact hk hc
  · obtain ⟨_, cur, hc⟩ := own_blk h.he k e; exact hk hc
  · obtain ⟨_, cur, hc⟩ := own_blk h.hx k e; exact hk hc
theorem MS.turnM (h : MS w0 base M F OB mc fc wv ev outs xs w) {mc' : Array Value} (ht : Turn w w' M (.cells mc' 73 (0, 0))) : MS w0 base M F OB mc' fc wv ev outs xs w' := by
  have hk : ∀ {k : Nat} {c : Array Value} {t : TypeId} {f : Nat × Nat}, w.heap[k]? = some (.cells c t f) → t ≠ 73 → w'.heap[k]? = w.heap[k]? := fun {k c t f} e hn => ht.block k (Array.getElem?_eq_some_iff.1 e).1 (blk_ne e h.hm (cells_ne hn))
  refine ⟨ht.at_, (hk h.hf (by decide)).trans h.hf, (hk h.ho (by decide)).trans h.ho, own_same h.hw fun k e => ?_, own_same h.he fun k e => ?_, own_same h.hx fun k e => ?_, h.bM, h.bF, ht.below h.bel h.bM h.size⟩
  · obtain ⟨_, cur, hc⟩ := own_blk h.hw k e; exact hk hc (by decide)
  · obtain ⟨_, cur, hc⟩ := own_blk h.he k e; exact hk hc (by decide)
  · obtain ⟨_, cur, hc⟩ := own_blk h.hx k e; exact hk hc (by decide)
theorem MS.turnF (h : MS w0 base M F OB mc fc wv ev outs xs w) {fc' : Array Value} (ht : Turn w w' F (.cells fc' 87 (0, 0))) : MS w0 base M F OB mc fc' wv ev outs xs w' := by
  have hk : ∀ {k : Nat} {c : Array Value} {t : TypeId} {f : Nat × Nat}, w.heap[k]? = some (.cells c t f) → t ≠ 87 → w'.heap[k]? = w.heap[k]? := fun {k c t f} e hn => ht.block k (Array.getElem?_eq_some_iff.1 e).1 (blk_ne e h.hf (cells_ne hn))
  refine ⟨(hk h.hm (by decide)).trans h.hm, ht.at_, (hk h.ho (by decide)).trans h.ho, own_same h.hw fun k e => ?_, own_same h.he fun k e => ?_, own_same h.hx fun k e => ?_, h.bM, h.bF, ht.below h.bel h.bF h.size⟩
  · obtain ⟨_, cur, hc⟩ := own_blk h.hw k e; exact hk hc (by decide)
  · obtain ⟨_, cur, hc⟩ := own_blk h.he k e; exact hk hc (by decide)
  · obtain ⟨_, cur, hc⟩ := own_blk h.hx k e; exact hk hc (by decide)
end
/-- The words on the heap stay. -/
def KW (w w' : World) : Prop := ∀ (k : Nat) (c : Array Value) (f : Nat × Nat), w.heap[k]? = some (Obj.cells c 60 f) → w'.heap[k]? = w.heap[k]?
theorem Turn.kw {w w' : World} {k : Nat} {c c' : Array Value} {t : TypeId} {f : Nat × Nat} (h : Turn w w' k (.cells c t f)) (h0 : w.heap[k]? = some (.cells c' t f)) (ht : 60 ≠ t) : KW w w' := fun j _ _ hj => h.block j (Array.getElem?_eq_some_iff.1 hj).1 (blk_ne hj h0 (cells_ne ht))
def mC (wv ev dv iv hv : Value) (OB n : Nat) (steps end_ exit : Int) (outs : Value) (marks at_ : Int) : Array Value :=
  #[wv, ev, .int .i64 0, dv, iv, .slice (some ⟨OB, 0, none⟩) n 1, hv, .int .i64 steps, .int .u8 end_, .int .i64 exit, outs, .int .i64 0, .int .i64 0, .int .i64 marks, .int .i64 at_]
def fC (next r0 : Int) (sl : Value) : Array Value :=
  #[.int .i64 0, .int .i64 next, .int .i64 r0, .int .i64 0, .int .i64 0, .int .i64 0, .int .i64 0, .int .i64 0, .int .i64 0, .int .i64 0, .int .i64 0, .int .i64 0, .int .i64 0, .int .i64 0, .int .i64 0, .int .i64 0, .int .i64 0, .int .i64 0, sl, .slice none 0 0, .slice none 0 0, .int .u8 0]

set_option maxRecDepth 100000 in
set_option maxHeartbeats 4000000 in
theorem do_num (M F : Nat) (fc : Array Value) (r0 x : Int) (w : World) (hf : w.heap[F]? = some (.cells fc 87 (0, 0))) (hr : w.cell? ⟨F, 2, none⟩ = some (.int .i64 r0)) :
    Calls Try.prog 39 #[.pointer (some ⟨M, 0, none⟩), .pointer (some ⟨F, 0, none⟩), .agg #[.int .u8 30, .int .u8 0, .int .u8 0, .int .u8 0, .int .i64 x]] w fun e w' =>
      e = .returned (.tuple #[]) ∧ Turn w w' F (.cells (fc.setIfInBounds 2 (.int .i64 x)) 87 (0, 0)) := by
  have hz : w.frozen? ⟨F, 2, none⟩ = false := by simp [World.frozen?, hf]
  have hlt : F < w.heap.size := (Array.getElem?_eq_some_iff.1 hf).1
  have HF := Lib.hid hf
  clear hf
  go_enter Try.func39, Try.ntmps39
  go_wp2_with fail
  go_region
  go_wp2_with fail
  refine bodyPost_end (results_none rfl _ _ _) rfl ⟨rfl, ?_⟩
  exact (turn_set HF.out _).later (((Below.refl _ _).alloc (Nat.le_refl _) _).drew)

set_option maxRecDepth 100000 in
set_option maxHeartbeats 4000000 in
theorem do_mark (M F : Nat) (mc : Array Value) (n : Int) (w : World) (hm : w.heap[M]? = some (.cells mc 73 (0, 0))) (hr : w.cell? ⟨M, 13, none⟩ = some (.int .i64 n)) (h0 : 0 ≤ n) (h1 : n ≤ 1000000) :
    Calls Try.prog 39 #[.pointer (some ⟨M, 0, none⟩), .pointer (some ⟨F, 0, none⟩), .agg #[.int .u8 44, .int .u8 0, .int .u8 0, .int .u8 0, .int .i64 0]] w fun e w' =>
      e = .returned (.tuple #[]) ∧ Turn w w' M (.cells (mc.setIfInBounds 13 (.int .i64 (n + 1))) 73 (0, 0)) := by
  have hz : w.frozen? ⟨M, 13, none⟩ = false := by simp [World.frozen?, hm]
  have hlt : M < w.heap.size := (Array.getElem?_eq_some_iff.1 hm).1
  have HM := Lib.hid hm
  clear hm
  go_enter Try.func39, Try.ntmps39
  go_wp2_with fail
  refine bodyPost_end (results_none rfl _ _ _) rfl ⟨rfl, ?_⟩
  exact (turn_set HM.out _).later ((Below.refl _ _).alloc (Nat.le_refl _) _)

set_option maxRecDepth 100000 in
set_option maxHeartbeats 4000000 in
theorem gives_any (M F OB : Nat) (mc fc : Array Value) (x e0 ex d : Int) (w : World) (hm : w.heap[M]? = some (.cells mc 73 (0, 0))) (ho : w.heap[OB]? = some (.cells #[.pointer (some ⟨F, 0, none⟩)] 74 (0, 0))) (_hf : w.heap[F]? = some (.cells fc 87 (0, 0)))
    (h5 : w.cell? ⟨M, 5, none⟩ = some (.slice (some ⟨OB, 0, none⟩) 1 1)) (h8 : w.cell? ⟨M, 8, none⟩ = some (.int .u8 e0)) (h9 : w.cell? ⟨M, 9, none⟩ = some (.int .i64 ex)) (hd : w.cell? ⟨F, 21, none⟩ = some (.int .u8 d)) :
    Calls Try.prog 55 #[.pointer (some ⟨M, 0, none⟩), .int .i64 x] w fun e w' =>
      e = .returned (.tuple #[]) ∧ Turn w w' M (.cells (((mc.setIfInBounds 5 (.slice (some ⟨OB, 0, none⟩) 0 1)).setIfInBounds 9 (.int .i64 x)).setIfInBounds 8 (.int .u8 1)) 73 (0, 0)) := by
  have hz5 : w.frozen? ⟨M, 5, none⟩ = false := by simp [World.frozen?, hm]
  have hz9 : w.frozen? ⟨M, 9, none⟩ = false := by simp [World.frozen?, hm]
  have hz8 : w.frozen? ⟨M, 8, none⟩ = false := by simp [World.frozen?, hm]
  have hlt : M < w.heap.size := (Array.getElem?_eq_some_iff.1 hm).1
  have hO : w.cell? ⟨OB, 0 + 0, none⟩ = some (.pointer (some ⟨F, 0, none⟩)) := by simp [World.cell?, ho]
  have HN := Lib.hid (now_any M OB 0 0 1 F w h5 hO (by omega))
  have HM := Lib.hid hm
  clear hm ho _hf hO
  go_enter Try.func55, Try.ntmps55
  go_wp2_with fail
  refine HN.out.mono ?_
  rintro e w1 ⟨rfl, q, rfl⟩
  go_wp2_with fail
  go_region
  go_wp2_with fail
  have T1 : Turn w (w.drewN (q + 1)) M _ := ⟨HM.out, rfl, rfl, rfl, Nat.le_refl _, fun _ _ _ => rfl⟩
  have T2 := (T1.trans (turn_set T1.at_ (.slice (some ⟨OB, 0, none⟩) 0 1) (i := 5)))
  have T3 := (T2.trans (turn_set T2.at_ (.int .i64 x) (i := 9)))
  have k8 : (((w.drewN (q + 1)).setCell ⟨M, 5, none⟩ (.slice (some ⟨OB, 0, none⟩) 0 1)).setCell ⟨M, 9, none⟩ (.int .i64 x)).cell? ⟨M, 8, none⟩ = some (.int .u8 e0) :=
    (World.cell?_setCell_other _ ⟨M, 9, none⟩ ⟨M, 8, none⟩ _ (by simp)).trans ((World.cell?_setCell_other _ ⟨M, 5, none⟩ ⟨M, 8, none⟩ _ (by simp)).trans h8)
  refine (ends_any M e0 1 _ k8 (by simp [World.frozen?, T3.at_])).mono ?_
  rintro e w4 ⟨rfl, rfl⟩
  have T4 := Lib.hid (T3.trans (turn_set T3.at_ (.int .u8 1) (i := 8)))
  clear T1 T2 T3 k8
  go_wp2_with fail
  refine bodyPost_ret (results_none rfl _ _ _) rfl ?_
  exact ⟨rfl, T4.out⟩

set_option maxRecDepth 100000 in
set_option maxHeartbeats 4000000 in
theorem do_ret (M F OB : Nat) (mc fc : Array Value) (x e0 ex d : Int) (w : World) (hm : w.heap[M]? = some (.cells mc 73 (0, 0))) (ho : w.heap[OB]? = some (.cells #[.pointer (some ⟨F, 0, none⟩)] 74 (0, 0))) (hf : w.heap[F]? = some (.cells fc 87 (0, 0)))
    (h5 : w.cell? ⟨M, 5, none⟩ = some (.slice (some ⟨OB, 0, none⟩) 1 1)) (h8 : w.cell? ⟨M, 8, none⟩ = some (.int .u8 e0)) (h9 : w.cell? ⟨M, 9, none⟩ = some (.int .i64 ex)) (hd : w.cell? ⟨F, 21, none⟩ = some (.int .u8 d)) (hr : w.cell? ⟨F, 2, none⟩ = some (.int .i64 x)) :
    Calls Try.prog 39 #[.pointer (some ⟨M, 0, none⟩), .pointer (some ⟨F, 0, none⟩), .agg #[.int .u8 47, .int .u8 0, .int .u8 0, .int .u8 0, .int .i64 0]] w fun e w' =>
      e = .returned (.tuple #[]) ∧ Turn w w' M (.cells (((mc.setIfInBounds 5 (.slice (some ⟨OB, 0, none⟩) 0 1)).setIfInBounds 9 (.int .i64 x)).setIfInBounds 8 (.int .u8 1)) 73 (0, 0)) := by
  have hlt : M < w.heap.size := (Array.getElem?_eq_some_iff.1 hm).1
  have hlf : F < w.heap.size := (Array.getElem?_eq_some_iff.1 hf).1
  have hlo : OB < w.heap.size := (Array.getElem?_eq_some_iff.1 ho).1
  have hB : Below w.heap.size w (w.alloc (.cells #[.int .u8 47, .int .u8 0, .int .u8 0, .int .u8 0, .int .i64 0] 60)).drew := ((Below.refl _ _).alloc (Nat.le_refl _) _).drew
  have HB := Lib.hid hB
  have HG := Lib.hid (gives_any M F OB mc fc x e0 ex d (w.alloc (.cells #[.int .u8 47, .int .u8 0, .int .u8 0, .int .u8 0, .int .i64 0] 60)).drew ((hB.block M hlt).trans hm) ((hB.block OB hlo).trans ho) ((hB.block F hlf).trans hf)
    ((hB.cell (p := ⟨M, 5, none⟩) hlt).trans h5) ((hB.cell (p := ⟨M, 8, none⟩) hlt).trans h8) ((hB.cell (p := ⟨M, 9, none⟩) hlt).trans h9) ((hB.cell (p := ⟨F, 21, none⟩) hlf).trans hd))
  clear hm ho hf hB
  go_enter Try.func39, Try.ntmps39
  go_wp2_with fail
  go_region_with (go_at_call 55; refine HG.out.mono ?_; rintro e w4 ⟨rfl, hT⟩)
  all_goals
    go_wp2_with fail
    refine bodyPost_end (results_none rfl _ _ _) rfl ⟨rfl, ?_⟩
    exact hT.before HB.out

theorem MS.turnX {w0 w w' : World} {base M F OB : Nat} {mc fc : Array Value} {wv ev outs outs' : Value} {xs xs' : List Int} (h : MS w0 base M F OB mc fc wv ev outs xs w) (hg : w.grownBy w' outs.ownBlock) (hx' : w'.ownsRow base 2 1 outs' xs'.length (xs'.map (Value.int .i64))) : MS w0 base M F OB mc fc wv ev outs' xs' w' := by
  have hk : ∀ {k : Nat} {c : Array Value} {t : TypeId} {f : Nat × Nat}, w.heap[k]? = some (.cells c t f) → t ≠ 2 → w'.heap[k]? = w.heap[k]? := fun {k c t f} e hn => hg.block k (Array.getElem?_eq_some_iff.1 e).1 fun e2 => by
    obtain ⟨_, cur, hc⟩ := own_blk h.hx k e2.symm
    exact blk_ne e hc (cells_ne hn) rfl
  refine ⟨(hk h.hm (by decide)).trans h.hm, (hk h.hf (by decide)).trans h.hf, (hk h.ho (by decide)).trans h.ho, own_same h.hw fun k e => ?_, own_same h.he fun k e => ?_, hx', h.bM, h.bF, h.bel.grown hg h.size fun k e => (own_blk h.hx k e).1⟩
  · obtain ⟨_, cur, hc⟩ := own_blk h.hw k e; exact hk hc (by decide)
  · obtain ⟨_, cur, hc⟩ := own_blk h.he k e; exact hk hc (by decide)

end Go.Proofs.Yteeapfgjjankeaa
