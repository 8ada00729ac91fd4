/- Vm: a machine of the document's example in memory: what turns, what stays. -/
import Derived.Test.YtgjmdcbdkdmceaaQVa
import Derived.Test.YtgjmdcbdkdmceaaQ18
import Derived.Deep.DeepCutAuto
import Derived.Deep.RegionHeld3
import Derived.Deep.RegionLaw
import Derived.Shelf.RegionOpenPlain
import Derived.Lib.SliceRun
import Derived.Deep.AppendSrc
import Derived.Laws.AppendOwnNone
namespace Go.Proofs.Ytgjmdcbdkdmceaa
open Go.RowKit

/-- One block turns; whatever else there was stays. -/
structure Turn (w w' : World) (k : Nat) (o : Obj) : Prop where
  at_ : w'.heap[k]? = some o
  os : w'.os = w.os
  tape : w'.tape = w.tape
  output : w'.output = w.output
  size : w.heap.size ≤ w'.heap.size
  block : ∀ j, j < w.heap.size → j ≠ k → w'.heap[j]? = w.heap[j]?
theorem Turn.later {w w' w'' : World} {k : Nat} {o : Obj} (h : Turn w w' k o) (hb : Below w'.heap.size w' w'') : Turn w w'' k o :=
  ⟨(hb.block k (Array.getElem?_eq_some_iff.1 h.at_).1).trans h.at_, hb.os.trans h.os, hb.tape.trans h.tape, hb.output.trans h.output, Nat.le_trans h.size hb.size, fun j hj hne => (hb.block j (Nat.lt_of_lt_of_le hj h.size)).trans (h.block j hj hne)⟩
theorem Turn.before {w w' w'' : World} {k : Nat} {o : Obj} (hb : Below w.heap.size w w') (h : Turn w' w'' k o) : Turn w w'' k o :=
  ⟨h.at_, h.os.trans hb.os, h.tape.trans hb.tape, h.output.trans hb.output, Nat.le_trans hb.size h.size, fun j hj hne => (h.block j (Nat.lt_of_lt_of_le hj hb.size) hne).trans (hb.block j hj)⟩
theorem turn_set {w : World} {k i : Nat} {c : Array Value} {t : TypeId} {f : Nat × Nat} (h : w.heap[k]? = some (.cells c t f)) (v : Value) : Turn w (w.setCell ⟨k, i, none⟩ v) k (.cells (c.setIfInBounds i v) t f) :=
  ⟨by simp [World.setCell, Array.getElem?_modify, h], rfl, rfl, rfl, by rw [World.size_setCell]; exact Nat.le_refl _, fun j _ hne => Below.heap_setCell _ _ _ _ hne⟩
theorem Turn.trans {w w' w'' : World} {k : Nat} {o o' : Obj} (h : Turn w w' k o) (h2 : Turn w' w'' k o') : Turn w w'' k o' :=
  ⟨h2.at_, h2.os.trans h.os, h2.tape.trans h.tape, h2.output.trans h.output, Nat.le_trans h.size h2.size, fun j hj hne => (h2.block j (Nat.lt_of_lt_of_le hj h.size) hne).trans (h.block j hj hne)⟩
theorem Turn.below {w0 w w' : World} {k base : Nat} {o : Obj} (hb : Below base w0 w) (h : Turn w w' k o) (hk : base ≤ k) (hs : base ≤ w.heap.size) : Below base w0 w' :=
  hb.trans ⟨h.os, h.tape, h.output, h.size, fun j hj => h.block j (by omega) (by omega)⟩

def wcs : List Value := [.int .u8 30, .int .u8 0, .int .u8 0, .int .u8 0, .int .i64 7, .int .u8 42, .int .u8 0, .int .u8 0, .int .u8 0, .int .i64 0, .int .u8 44, .int .u8 0, .int .u8 0, .int .u8 0, .int .i64 0, .int .u8 47, .int .u8 0, .int .u8 0, .int .u8 0, .int .i64 0]
structure MS (w0 : World) (base M F OB : Nat) (mc fc : Array Value) (wv ev outs : Value) (xs : List Int) (w : World) : Prop where
  hm : w.heap[M]? = some (.cells mc 89 (0, 0))
  hf : w.heap[F]? = some (.cells fc 111 (0, 0))
  ho : w.heap[OB]? = some (.cells #[.pointer (some ⟨F, 0, none⟩)] 90 (0, 0))
  hw : w.ownsRow base 73 5 wv 4 wcs
  he : w.ownsRow base 62 2 ev 1 [.int .i64 0, .int .i64 0]
  hx : w.ownsRow base 2 1 outs xs.length (xs.map (Value.int .i64))
  bM : base ≤ M
  bF : base ≤ F
  bel : Below base w0 w
section
variable {w0 w w' : World} {base M F OB : Nat} {mc fc : Array Value} {wv ev outs : Value} {xs : List Int}
theorem MS.size (h : MS w0 base M F OB mc fc wv ev outs xs w) : base ≤ w.heap.size := Nat.le_trans h.bM (Nat.le_of_lt (Array.getElem?_eq_some_iff.1 h.hm).1)
theorem MS.later (h : MS w0 base M F OB mc fc wv ev outs xs w) (hb : Below w.heap.size w w') : MS w0 base M F OB mc fc wv ev outs xs w' := by
  have hk : ∀ {k : Nat} {o : Obj}, w.heap[k]? = some o → w'.heap[k]? = w.heap[k]? := fun {k o} e => hb.block k (Array.getElem?_eq_some_iff.1 e).1
  refine ⟨(hk h.hm).trans h.hm, (hk h.hf).trans h.hf, (hk h.ho).trans h.ho, own_same h.hw fun k e => ?_, own_same h.he fun k e => ?_, own_same h.hx fun k e => ?_, h.bM, h.bF, h.bel.trans (hb.mono h.size)⟩
  · obtain ⟨_, cur, hc⟩ := own_blk h.hw k e; exact hk hc
  · obtain ⟨_, cur, hc⟩ := own_blk h.he k e; exact hk hc
  · obtain ⟨_, cur, hc⟩ := own_blk h.hx k e; exact hk hc
theorem MS.turnM (h : MS w0 base M F OB mc fc wv ev outs xs w) {mc' : Array Value} (ht : Turn w w' M (.cells mc' 89 (0, 0))) : MS w0 base M F OB mc' fc wv ev outs xs w' := by
  have hk : ∀ {k : Nat} {c : Array Value} {t : TypeId} {f : Nat × Nat}, w.heap[k]? = some (.cells c t f) → t ≠ 89 → w'.heap[k]? = w.heap[k]? := fun {k c t f} e hn => ht.block k (Array.getElem?_eq_some_iff.1 e).1 (blk_ne e h.hm (cells_ne hn))
  refine ⟨ht.at_, (hk h.hf (by decide)).trans h.hf, (hk h.ho (by decide)).trans h.ho, own_same h.hw fun k e => ?_, own_same h.he fun k e => ?_, own_same h.hx fun k e => ?_, h.bM, h.bF, ht.below h.bel h.bM h.size⟩
  · obtain ⟨_, cur, hc⟩ := own_blk h.hw k e; exact hk hc (by decide)
  · obtain ⟨_, cur, hc⟩ := own_blk h.he k e; exact hk hc (by decide)
  · obtain ⟨_, cur, hc⟩ := own_blk h.hx k e; exact hk hc (by decide)
theorem MS.turnF (h : MS w0 base M F OB mc fc wv ev outs xs w) {fc' : Array Value} (ht : Turn w w' F (.cells fc' 111 (0, 0))) : MS w0 base M F OB mc fc' wv ev outs xs w' := by
  have hk : ∀ {k : Nat} {c : Array Value} {t : TypeId} {f : Nat × Nat}, w.heap[k]? = some (.cells c t f) → t ≠ 111 → w'.heap[k]? = w.heap[k]? := fun {k c t f} e hn => ht.block k (Array.getElem?_eq_some_iff.1 e).1 (blk_ne e h.hf (cells_ne hn))
  refine ⟨(hk h.hm (by decide)).trans h.hm, ht.at_, (hk h.ho (by decide)).trans h.ho, own_same h.hw fun k e => ?_, own_same h.he fun k e => ?_, own_same h.hx fun k e => ?_, h.bM, h.bF, ht.below h.bel h.bF h.size⟩
  · obtain ⟨_, cur, hc⟩ := own_blk h.hw k e; exact hk hc (by decide)
  · obtain ⟨_, cur, hc⟩ := own_blk h.he k e; exact hk hc (by decide)
  · obtain ⟨_, cur, hc⟩ := own_blk h.hx k e; exact hk hc (by decide)
end
/-- The words on the heap stay. -/
def KW (w w' : World) : Prop := ∀ (k : Nat) (c : Array Value) (f : Nat × Nat), w.heap[k]? = some (Obj.cells c 73 f) → w'.heap[k]? = w.heap[k]?
theorem Turn.kw {w w' : World} {k : Nat} {c c' : Array Value} {t : TypeId} {f : Nat × Nat} (h : Turn w w' k (.cells c t f)) (h0 : w.heap[k]? = some (.cells c' t f)) (ht : 73 ≠ t) : KW w w' := fun j _ _ hj => h.block j (Array.getElem?_eq_some_iff.1 hj).1 (blk_ne hj h0 (cells_ne ht))
def mC (wv ev dv iv hv : Value) (OB n : Nat) (steps end_ exit : Int) (outs : Value) (marks at_ : Int) : Array Value :=
  #[wv, ev, .int .i64 0, dv, iv, .slice (some ⟨OB, 0, none⟩) n 1, hv, .int .i64 steps, .int .u8 end_, .int .i64 exit, outs, .int .i64 0, .int .i64 0, .int .i64 marks, .int .i64 at_]
def fC (next r0 : Int) (sl : Value) : Array Value :=
  #[.int .i64 0, .int .i64 next, .int .i64 r0, .int .i64 0, .int .i64 0, .int .i64 0, .int .i64 0, .int .i64 0, .int .i64 0, .int .i64 0, .int .i64 0, .int .i64 0, .int .i64 0, .int .i64 0, .int .i64 0, .int .i64 0, .int .i64 0, .int .i64 0, sl, .slice none 0 0, .slice none 0 0, .int .u8 0]

set_option maxRecDepth 100000 in
set_option maxHeartbeats 4000000 in
theorem do_num (M F : Nat) (fc : Array Value) (r0 x : Int) (w : World) (hf : w.heap[F]? = some (.cells fc 111 (0, 0))) (hr : w.cell? ⟨F, 2, none⟩ = some (.int .i64 r0)) :
    Calls Try.prog 62 #[.pointer (some ⟨M, 0, none⟩), .pointer (some ⟨F, 0, none⟩), .agg #[.int .u8 30, .int .u8 0, .int .u8 0, .int .u8 0, .int .i64 x]] w fun e w' =>
      e = .returned (.tuple #[]) ∧ Turn w w' F (.cells (fc.setIfInBounds 2 (.int .i64 x)) 111 (0, 0)) := by
  have hz : w.frozen? ⟨F, 2, none⟩ = false := by simp [World.frozen?, hf]
  have hlt : F < w.heap.size := (Array.getElem?_eq_some_iff.1 hf).1
  have HF := Lib.hid hf
  clear hf
  go_enter Try.func62, Try.ntmps62
  go_wp2_with fail
  go_region
  go_wp2_with fail
  refine bodyPost_end (results_none rfl _ _ _) rfl ⟨rfl, ?_⟩
  exact (turn_set HF.out _).later (((Below.refl _ _).alloc (Nat.le_refl _) _).drew)

set_option maxRecDepth 100000 in
set_option maxHeartbeats 4000000 in
theorem do_mark (M F : Nat) (mc : Array Value) (n : Int) (w : World) (hm : w.heap[M]? = some (.cells mc 89 (0, 0))) (hr : w.cell? ⟨M, 13, none⟩ = some (.int .i64 n)) (h0 : 0 ≤ n) (h1 : n ≤ 1000000) :
    Calls Try.prog 62 #[.pointer (some ⟨M, 0, none⟩), .pointer (some ⟨F, 0, none⟩), .agg #[.int .u8 44, .int .u8 0, .int .u8 0, .int .u8 0, .int .i64 0]] w fun e w' =>
      e = .returned (.tuple #[]) ∧ Turn w w' M (.cells (mc.setIfInBounds 13 (.int .i64 (n + 1))) 89 (0, 0)) := by
  have hz : w.frozen? ⟨M, 13, none⟩ = false := by simp [World.frozen?, hm]
  have hlt : M < w.heap.size := (Array.getElem?_eq_some_iff.1 hm).1
  have HM := Lib.hid hm
  clear hm
  go_enter Try.func62, Try.ntmps62
  go_wp2_with fail
  refine bodyPost_end (results_none rfl _ _ _) rfl ⟨rfl, ?_⟩
  exact (turn_set HM.out _).later ((Below.refl _ _).alloc (Nat.le_refl _) _)

set_option maxRecDepth 100000 in
set_option maxHeartbeats 4000000 in
theorem gives_any (M F OB : Nat) (mc fc : Array Value) (x e0 ex d : Int) (w : World) (hm : w.heap[M]? = some (.cells mc 89 (0, 0))) (ho : w.heap[OB]? = some (.cells #[.pointer (some ⟨F, 0, none⟩)] 90 (0, 0))) (_hf : w.heap[F]? = some (.cells fc 111 (0, 0)))
    (h5 : w.cell? ⟨M, 5, none⟩ = some (.slice (some ⟨OB, 0, none⟩) 1 1)) (h8 : w.cell? ⟨M, 8, none⟩ = some (.int .u8 e0)) (h9 : w.cell? ⟨M, 9, none⟩ = some (.int .i64 ex)) (hd : w.cell? ⟨F, 21, none⟩ = some (.int .u8 d)) :
    Calls Try.prog 83 #[.pointer (some ⟨M, 0, none⟩), .int .i64 x] w fun e w' =>
      e = .returned (.tuple #[]) ∧ Turn w w' M (.cells (((mc.setIfInBounds 5 (.slice (some ⟨OB, 0, none⟩) 0 1)).setIfInBounds 9 (.int .i64 x)).setIfInBounds 8 (.int .u8 1)) 89 (0, 0)) := by
  have hz5 : w.frozen? ⟨M, 5, none⟩ = false := by simp [World.frozen?, hm]
  have hz9 : w.frozen? ⟨M, 9, none⟩ = false := by simp [World.frozen?, hm]
  have hz8 : w.frozen? ⟨M, 8, none⟩ = false := by simp [World.frozen?, hm]
  have hlt : M < w.heap.size := (Array.getElem?_eq_some_iff.1 hm).1
  have hO : w.cell? ⟨OB, 0 + 0, none⟩ = some (.pointer (some ⟨F, 0, none⟩)) := by simp [World.cell?, ho]
  have HN := Lib.hid (now_any M OB 0 0 1 F w h5 hO (by omega))
  have HM := Lib.hid hm
  clear hm ho _hf hO
  go_enter Try.func83, Try.ntmps83
  go_wp2_with fail
  refine HN.out.mono ?_
  rintro e w1 ⟨rfl, q, rfl⟩
  go_wp2_with fail
  go_region
  go_wp2_with fail
  have T1 : Turn w (w.drewN (q + 1)) M _ := ⟨HM.out, rfl, rfl, rfl, Nat.le_refl _, fun _ _ _ => rfl⟩
  have T2 := (T1.trans (turn_set T1.at_ (.slice (some ⟨OB, 0, none⟩) 0 1) (i := 5)))
  have T3 := (T2.trans (turn_set T2.at_ (.int .i64 x) (i := 9)))
  have k8 : (((w.drewN (q + 1)).setCell ⟨M, 5, none⟩ (.slice (some ⟨OB, 0, none⟩) 0 1)).setCell ⟨M, 9, none⟩ (.int .i64 x)).cell? ⟨M, 8, none⟩ = some (.int .u8 e0) :=
    (World.cell?_setCell_other _ ⟨M, 9, none⟩ ⟨M, 8, none⟩ _ (by simp)).trans ((World.cell?_setCell_other _ ⟨M, 5, none⟩ ⟨M, 8, none⟩ _ (by simp)).trans h8)
  refine (ends_any M e0 1 _ k8 (by simp [World.frozen?, T3.at_])).mono ?_
  rintro e w4 ⟨rfl, rfl⟩
  have T4 := Lib.hid (T3.trans (turn_set T3.at_ (.int .u8 1) (i := 8)))
  clear T1 T2 T3 k8
  go_wp2_with fail
  refine bodyPost_ret (results_none rfl _ _ _) rfl ?_
  exact ⟨rfl, T4.out⟩

set_option maxRecDepth 100000 in
set_option maxHeartbeats 4000000 in
theorem do_ret (M F OB : Nat) (mc fc : Array Value) (x e0 ex d : Int) (w : World) (hm : w.heap[M]? = some (.cells mc 89 (0, 0))) (ho : w.heap[OB]? = some (.cells #[.pointer (some ⟨F, 0, none⟩)] 90 (0, 0))) (hf : w.heap[F]? = some (.cells fc 111 (0, 0)))
    (h5 : w.cell? ⟨M, 5, none⟩ = some (.slice (some ⟨OB, 0, none⟩) 1 1)) (h8 : w.cell? ⟨M, 8, none⟩ = some (.int .u8 e0)) (h9 : w.cell? ⟨M, 9, none⟩ = some (.int .i64 ex)) (hd : w.cell? ⟨F, 21, none⟩ = some (.int .u8 d)) (hr : w.cell? ⟨F, 2, none⟩ = some (.int .i64 x)) :
    Calls Try.prog 62 #[.pointer (some ⟨M, 0, none⟩), .pointer (some ⟨F, 0, none⟩), .agg #[.int .u8 47, .int .u8 0, .int .u8 0, .int .u8 0, .int .i64 0]] w fun e w' =>
      e = .returned (.tuple #[]) ∧ Turn w w' M (.cells (((mc.setIfInBounds 5 (.slice (some ⟨OB, 0, none⟩) 0 1)).setIfInBounds 9 (.int .i64 x)).setIfInBounds 8 (.int .u8 1)) 89 (0, 0)) := by
  have hlt : M < w.heap.size := (Array.getElem?_eq_some_iff.1 hm).1
  have hlf : F < w.heap.size := (Array.getElem?_eq_some_iff.1 hf).1
  have hlo : OB < w.heap.size := (Array.getElem?_eq_some_iff.1 ho).1
  have hB : Below w.heap.size w (w.alloc (.cells #[.int .u8 47, .int .u8 0, .int .u8 0, .int .u8 0, .int .i64 0] 73)).drew := ((Below.refl _ _).alloc (Nat.le_refl _) _).drew
  have HB := Lib.hid hB
  have HG := Lib.hid (gives_any M F OB mc fc x e0 ex d (w.alloc (.cells #[.int .u8 47, .int .u8 0, .int .u8 0, .int .u8 0, .int .i64 0] 73)).drew ((hB.block M hlt).trans hm) ((hB.block OB hlo).trans ho) ((hB.block F hlf).trans hf)
    ((hB.cell (p := ⟨M, 5, none⟩) hlt).trans h5) ((hB.cell (p := ⟨M, 8, none⟩) hlt).trans h8) ((hB.cell (p := ⟨M, 9, none⟩) hlt).trans h9) ((hB.cell (p := ⟨F, 21, none⟩) hlf).trans hd))
  clear hm ho hf hB
  go_enter Try.func62, Try.ntmps62
  go_wp2_with fail
  go_region_with (go_at_call 83; refine HG.out.mono ?_; rintro e w4 ⟨rfl, hT⟩)
  all_goals
    go_wp2_with fail
    refine bodyPost_end (results_none rfl _ _ _) rfl ⟨rfl, ?_⟩
    exact hT.before HB.out

theorem MS.turnX {w0 w w' : World} {base M F OB : Nat} {mc fc : Array Value} {wv ev outs outs' : Value} {xs xs' : List Int} (h : MS w0 base M F OB mc fc wv ev outs xs w) (hg : w.grownBy w' outs.ownBlock) (hx' : w'.ownsRow base 2 1 outs' xs'.length (xs'.map (Value.int .i64))) : MS w0 base M F OB mc fc wv ev outs' xs' w' := by
  have hk : ∀ {k : Nat} {c : Array Value} {t : TypeId} {f : Nat × Nat}, w.heap[k]? = some (.cells c t f) → t ≠ 2 → w'.heap[k]? = w.heap[k]? := fun {k c t f} e hn => hg.block k (Array.getElem?_eq_some_iff.1 e).1 fun e2 => by
    obtain ⟨_, cur, hc⟩ := own_blk h.hx k e2.symm
    exact blk_ne e hc (cells_ne hn) rfl
  refine ⟨(hk h.hm (by decide)).trans h.hm, (hk h.hf (by decide)).trans h.hf, (hk h.ho (by decide)).trans h.ho, own_same h.hw fun k e => ?_, own_same h.he fun k e => ?_, hx', h.bM, h.bF, h.bel.grown hg h.size fun k e => (own_blk h.hx k e).1⟩
  · obtain ⟨_, cur, hc⟩ := own_blk h.hw k e; exact hk hc (by decide)
  · obtain ⟨_, cur, hc⟩ := own_blk h.he k e; exact hk hc (by decide)

end Go.Proofs.Ytgjmdcbdkdmceaa

/- Vm: the instruction that prints. -/
namespace Go.Proofs.Ytgjmdcbdkdmceaa
open Go.RowKit

theorem infoN : (Try.prog.info? 2).map (fun i => (i.zero, i.size, i.bytes)) = some (some (.int .i64 0), 1, 8) := by kernel_rfl
theorem info_partsV {P : Program} {t : TypeId} {z : Value} {s b : Nat} (h : (P.info? t).map (fun i => (i.zero, i.size, i.bytes)) = some (some z, s, b)) : ∃ i, P.info? t = some i ∧ i.zero = some z ∧ i.size = s ∧ i.bytes = b := by
  cases e : P.info? t with
  | none => rw [e] at h; cases h
  | some i =>
    rw [e] at h
    simp at h
    exact ⟨i, rfl, h.1, h.2.1, h.2.2⟩
theorem keep1 {W w' : World} {row : Option Nat} {b o : Nat} {v : Value} (hg : W.grownBy w' row) (hb : b < W.heap.size) (hne : row ≠ some b) (h : W.cell? ⟨b, o, none⟩ = some v) : w'.cell? ⟨b, o, none⟩ = some v := by
  have e := hg.block b hb (fun e => hne e.symm)
  simp only [World.cell?, e] at h ⊢
  exact h
theorem own_snoc {w : World} {base : Nat} {v : Value} {xs : List Int} {x : Int} (h : w.ownsRow base 2 1 v (xs.length + 1) (xs.map (Value.int .i64) ++ [.int .i64 x])) : w.ownsRow base 2 1 v (xs ++ [x]).length ((xs ++ [x]).map (Value.int .i64)) := by
  rw [List.length_append, List.map_append]; exact h
theorem frz {w : World} {M : Nat} {c : Array Value} {t : TypeId} (h : w.heap[M]? = some (.cells c t (0, 0))) (i : Nat) : w.frozen? ⟨M, i, none⟩ = false := by simp [World.frozen?, h]
theorem keepP {w1 w2 : World} {A : Obj} {M F b : Nat} {ov v1 v2 v3 : Value} (hM : M < w1.heap.size) (hF : F < w1.heap.size) (hb : b < w1.heap.size) (kM : ∀ k, ov.ownBlock = some k → k ≠ M) (kF : ∀ k, ov.ownBlock = some k → k ≠ F) (kB : ∀ k, ov.ownBlock = some k → k ≠ b) (hg : ((w1.alloc A).drew).grownBy w2 ov.ownBlock)
    (hE : ((w1.alloc A).drew).cell? ⟨M, 10, none⟩ = some v1 ∧ ((w1.alloc A).drew).cell? ⟨F, 2, none⟩ = some v2 ∧ ((w1.alloc A).drew).cell? ⟨b, 1, none⟩ = some v3) : w2.cell? ⟨M, 10, none⟩ = some v1 ∧ w2.cell? ⟨F, 2, none⟩ = some v2 ∧ w2.cell? ⟨b, 1, none⟩ = some v3 := by
  have hs : w1.heap.size < ((w1.alloc A).drew).heap.size := by show _ < (w1.alloc A).heap.size; simp
  exact ⟨keep1 hg (by omega) (fun e => kM M e rfl) hE.1, keep1 hg (by omega) (fun e => kF F e rfl) hE.2.1, keep1 hg (by omega) (fun e => kB b e rfl) hE.2.2⟩
set_option maxRecDepth 100000 in
set_option maxHeartbeats 4000000 in
theorem do_print (w0 w : World) (base M F OB : Nat) (mc fc : Array Value) (wv ev outs : Value) (xs : List Int) (x : Int) (h : MS w0 base M F OB mc fc wv ev outs xs w) (hl : xs.length ≤ 100)
    (h10 : w.cell? ⟨M, 10, none⟩ = some outs) (hr : w.cell? ⟨F, 2, none⟩ = some (.int .i64 x)) :
    Calls Try.prog 62 #[.pointer (some ⟨M, 0, none⟩), .pointer (some ⟨F, 0, none⟩), .agg #[.int .u8 42, .int .u8 0, .int .u8 0, .int .u8 0, .int .i64 0]] w fun e w' =>
      e = .returned (.tuple #[]) ∧ ∃ v', MS w0 base M F OB (mc.setIfInBounds 10 v') fc wv ev v' (xs ++ [x]) w' ∧ KW w w' := by
  obtain ⟨i0, hi, hz0, hz1, hz2⟩ := info_partsV infoN
  have HI : Hid _ := And.intro hi (And.intro hz0 (And.intro hz1 hz2))
  have hlM : M < w.heap.size := (Array.getElem?_eq_some_iff.1 h.hm).1
  have hlF : F < w.heap.size := (Array.getElem?_eq_some_iff.1 h.hf).1
  have HH := Lib.hid h
  obtain ⟨oa, oc, rfl⟩ := (Rd.of_own h.hx).shape
  clear h hi hz0 hz1 hz2
  go_enter Try.func62, Try.ntmps62
  go_upto_region 34 with fail
  obtain ⟨w1, hw1⟩ : ∃ w1, w1 = w.alloc (.cells #[.int .u8 42, .int .u8 0, .int .u8 0, .int .u8 0, .int .i64 0] 73) := ⟨_, rfl⟩
  rw [← hw1]
  have hB1 : Below w.heap.size w w1 := by rw [hw1]; exact (Below.refl _ _).alloc (Nat.le_refl _) _
  have d1 : w1.cell? ⟨w.heap.size, 1, none⟩ = some (.int .u8 0) := by rw [hw1, World.cell?_alloc_at _ _ _ _ rfl]; rfl
  have d10 : w1.cell? ⟨M, 10, none⟩ = some (.slice oa xs.length oc) := (hB1.cell (p := ⟨M, 10, none⟩) hlM).trans h10
  have d2 : w1.cell? ⟨F, 2, none⟩ = some (.int .i64 x) := (hB1.cell (p := ⟨F, 2, none⟩) hlF).trans hr
  have hz1 : w.heap.size < w1.heap.size := by rw [hw1]; simp
  have hM1 : M < w1.heap.size := Nat.lt_of_lt_of_le hlM hB1.size
  have hF1 : F < w1.heap.size := Nat.lt_of_lt_of_le hlF hB1.size
  have H1 := Lib.hid (HH.out.later hB1)
  have b1 : xs.length + 1 ≤ maxLen := by unfold maxLen; omega
  have b2 : (xs.length + 1) * 8 ≤ 140737488355328 := by omega
  have OA : Hid (((w1.alloc (.cells #[.int .i64 x] 2)).drew).ownsRow base 2 1 (.slice oa xs.length oc) xs.length (xs.map (Value.int .i64))) := H1.out.hx.alloc _
  have RA : Hid (Rd ((w1.alloc (.cells #[.int .i64 x] 2)).drew) 1 (.slice (some ⟨w1.heap.size, 0, none⟩) 1 1) 1 [.int .i64 x]) := by
    refine Rd.mk (by simp) (Nat.le_refl _) (by unfold maxLen; omega) (fun j hj => ?_)
    simp at hj
    subst hj
    show (w1.alloc _).cell? _ = _
    rw [World.cell?_alloc_at _ _ _ _ rfl]; rfl
  have BA : Hid (base ≤ ((w1.alloc (.cells #[.int .i64 x] 2)).drew).heap.size) := by show _ ≤ (w1.alloc _).heap.size; simp; have := H1.out.size; omega
  have hneM : ∀ k, (Value.slice oa xs.length oc).ownBlock = some k → k ≠ M := fun k hk => by
    obtain ⟨_, cur, hc⟩ := own_blk HH.out.hx k hk
    exact blk_ne hc HH.out.hm (cells_ne (by decide))
  have hneF : ∀ k, (Value.slice oa xs.length oc).ownBlock = some k → k ≠ F := fun k hk => by
    obtain ⟨_, cur, hc⟩ := own_blk HH.out.hx k hk
    exact blk_ne hc HH.out.hf (cells_ne (by decide))
  have hneB : ∀ k, (Value.slice oa xs.length oc).ownBlock = some k → k ≠ w.heap.size := fun k hk => by
    obtain ⟨_, cur, hc⟩ := own_blk HH.out.hx k hk
    have := (Array.getElem?_eq_some_iff.1 hc).1
    omega
  have KM := Lib.hid hneM
  have KF := Lib.hid hneF
  have KB := Lib.hid hneB
  have e1 : ((w1.alloc (.cells #[.int .i64 x] 2)).drew).cell? ⟨M, 10, none⟩ = some (.slice oa xs.length oc) := (World.cell?_alloc_past _ _ _ hM1).trans d10
  have e2 : ((w1.alloc (.cells #[.int .i64 x] 2)).drew).cell? ⟨F, 2, none⟩ = some (.int .i64 x) := (World.cell?_alloc_past _ _ _ hF1).trans d2
  have e3 : ((w1.alloc (.cells #[.int .i64 x] 2)).drew).cell? ⟨w.heap.size, 1, none⟩ = some (.int .u8 0) := (World.cell?_alloc_past _ _ _ hz1).trans d1
  have E := Lib.hid (And.intro e1 (And.intro e2 e3))
  have H1A := Lib.hid (H1.out.later (((Below.refl _ _).alloc (Nat.le_refl _) (.cells #[.int .i64 x] 2)).drew))
  have hBW := Lib.hid hB1
  clear hw1 hB1 hneM hneF hneB e1 e2 e3 h10 hr
  have mixed : Try.prog.follows Departure.mixedOrders = true := by kernel_rfl
  go_region_law_o (refine step_append_own_rd rfl _ _ 27 rfl base 2 i0 (.int .i64 0) 1 8 Try.underlying27 HI.out.1 HI.out.2.1 HI.out.2.2.1 HI.out.2.2.2 rfl (by decide) _ xs.length (xs.map (Value.int .i64)) rfl OA.out _ 1 [.int .i64 x] rfl RA.out (ints_oneCell .i64 [x]) b1 b2 BA.out ?_; intro v2 w2 hown2 hgrow2; have hk3 := keepP hM1 hF1 hz1 KM.out KF.out KB.out hgrow2 E.out; have HM2 := Lib.hid (H1A.out.turnX hgrow2 (own_snoc hown2)); have hfz := frz HM2.out.hm 10; have hl2 := (Array.getElem?_eq_some_iff.1 HM2.out.hm).1; obtain ⟨va, vc, rfl⟩ := (Rd.of_own hown2).shape)
  all_goals
    go_wp2_with fail
    refine bodyPost_end (results_none rfl _ _ _) rfl ⟨rfl, _, HM2.out.turnM (turn_set HM2.out.hm _), ?_⟩
    intro k c f hk
    have hk1 : w1.heap[k]? = some (.cells c 73 f) := (hBW.out.block k (Array.getElem?_eq_some_iff.1 hk).1).trans hk
    have hk2 : (w1.alloc (.cells #[.int .i64 x] 2)).drew.heap[k]? = some (.cells c 73 f) := (Below.heap_alloc _ _ _ (Array.getElem?_eq_some_iff.1 hk1).1).trans hk1
    have hk3' : w2.heap[k]? = some (.cells c 73 f) := (hgrow2.block k (Array.getElem?_eq_some_iff.1 hk2).1 (fun e => by
      obtain ⟨_, cur, hc⟩ := own_blk OA.out k e.symm
      exact blk_ne hk2 hc (cells_ne (by decide)) rfl)).trans hk2
    rw [Below.heap_setCell _ _ _ _ (blk_ne hk3' HM2.out.hm (cells_ne (by decide))), hk3', hk]
end Go.Proofs.Ytgjmdcbdkdmceaa

/- Vm: slices.Clone, at each type that the machine asks. -/
namespace Go.Proofs.Ytgjmdcbdkdmceaa
open Go.RowKit

theorem cinfoW : (Try.prog.info? 73).map (fun i => (i.zero, i.size, i.bytes)) = some (some (.agg #[.int .u8 0, .int .u8 0, .int .u8 0, .int .u8 0, .int .i64 0]), 5, 16) := by kernel_rfl
theorem emptyW (w : World) : (w.alloc (.cells #[] 73)).ownsRow w.heap.size 73 5 (.slice (some ⟨w.heap.size, 0, none⟩) 0 0) 0 [] :=
  ⟨rfl, .inr ⟨w.heap.size, 0, #[], rfl, Nat.le_refl _, heap_alloc_new _ _, Nat.le_refl _, Nat.zero_le _, rfl, rfl⟩⟩
set_option maxHeartbeats 4000000 in
theorem cloneW (v : Value) (n : Nat) (xs : List Value) (w : World) (hv : Rd w 5 v n xs) (h1 : ∀ u ∈ xs, u.oneCell' = true) (hl : n * 16 ≤ 140737488355328) :
    Calls Try.prog 32 #[v] w fun e w' => ∃ v', e = .returned v' ∧ w'.ownsRow w.heap.size 73 5 v' n xs ∧ Below w.heap.size w w' := by
  obtain ⟨im, mi0, mz0, mz1, mz2⟩ := info_partsV cinfoW
  have HV := Lib.hid hv
  have hnl := fun W a n c => Lib.run_eql_slice_nil (P := Try.prog) W 22 73 a n c 0 0 Try.underlying22
  rcases hv.2 with ⟨rfl, h0⟩ | ⟨a, c, rfl, hc1, hc2, hc3⟩
  · subst h0
    have hx : xs = [] := List.eq_nil_of_length_eq_zero (by simpa using hv.1)
    subst hx
    go_enter Try.func32, Try.ntmps32
    go_wp2_with fail
    go_ret
    exact ⟨_, rfl, ⟨rfl, .inl ⟨rfl, rfl⟩⟩, Below.refl _ _⟩
  · have b1 : 0 + n ≤ maxLen := by unfold maxLen; omega
    have b2 : (0 + n) * 16 ≤ 140737488355328 := by omega
    have HR : Hid (Rd (w.alloc (.cells #[] 73)) 5 _ n xs) := Rd.alloc HV.out _
    have H1 := Lib.hid h1
    clear hv hc1 hc2 hc3 h1
    go_enter Try.func32, Try.ntmps32
    go_wp2_with (at_builtin; refine wpList_append_own_rd _ rfl _ _ 22 rfl w.heap.size 73 im (.agg #[.int .u8 0, .int .u8 0, .int .u8 0, .int .u8 0, .int .i64 0]) 5 16 Try.underlying22 mi0 mz0 mz1 mz2 rfl (by decide) _ 0 [] rfl (emptyW w) _ n xs rfl HR.out H1.out b1 b2 (by simp) ?_; intro v' w' hown' hgrow')
    go_ret
    refine ⟨_, rfl, ?_, ((Below.refl _ _).alloc (Nat.le_refl _) _).grown hgrow' (by simp) (fun k hk => by cases hk; exact Nat.le_refl _)⟩
    have := hown'
    rw [Nat.zero_add, List.nil_append] at this
    exact this

theorem cinfoE : (Try.prog.info? 62).map (fun i => (i.zero, i.size, i.bytes)) = some (some (.agg #[.int .i64 0, .int .i64 0]), 2, 16) := by kernel_rfl
theorem emptyE (w : World) : (w.alloc (.cells #[] 62)).ownsRow w.heap.size 62 2 (.slice (some ⟨w.heap.size, 0, none⟩) 0 0) 0 [] :=
  ⟨rfl, .inr ⟨w.heap.size, 0, #[], rfl, Nat.le_refl _, heap_alloc_new _ _, Nat.le_refl _, Nat.zero_le _, rfl, rfl⟩⟩
set_option maxHeartbeats 4000000 in
theorem cloneE (v : Value) (n : Nat) (xs : List Value) (w : World) (hv : Rd w 2 v n xs) (h1 : ∀ u ∈ xs, u.oneCell' = true) (hl : n * 16 ≤ 140737488355328) :
    Calls Try.prog 33 #[v] w fun e w' => ∃ v', e = .returned v' ∧ w'.ownsRow w.heap.size 62 2 v' n xs ∧ Below w.heap.size w w' := by
  obtain ⟨im, mi0, mz0, mz1, mz2⟩ := info_partsV cinfoE
  have HV := Lib.hid hv
  have hnl := fun W a n c => Lib.run_eql_slice_nil (P := Try.prog) W 23 62 a n c 0 0 Try.underlying23
  rcases hv.2 with ⟨rfl, h0⟩ | ⟨a, c, rfl, hc1, hc2, hc3⟩
  · subst h0
    have hx : xs = [] := List.eq_nil_of_length_eq_zero (by simpa using hv.1)
    subst hx
    go_enter Try.func33, Try.ntmps33
    go_wp2_with fail
    go_ret
    exact ⟨_, rfl, ⟨rfl, .inl ⟨rfl, rfl⟩⟩, Below.refl _ _⟩
  · have b1 : 0 + n ≤ maxLen := by unfold maxLen; omega
    have b2 : (0 + n) * 16 ≤ 140737488355328 := by omega
    have HR : Hid (Rd (w.alloc (.cells #[] 62)) 2 _ n xs) := Rd.alloc HV.out _
    have H1 := Lib.hid h1
    clear hv hc1 hc2 hc3 h1
    go_enter Try.func33, Try.ntmps33
    go_wp2_with (at_builtin; refine wpList_append_own_rd _ rfl _ _ 23 rfl w.heap.size 62 im (.agg #[.int .i64 0, .int .i64 0]) 2 16 Try.underlying23 mi0 mz0 mz1 mz2 rfl (by decide) _ 0 [] rfl (emptyE w) _ n xs rfl HR.out H1.out b1 b2 (by simp) ?_; intro v' w' hown' hgrow')
    go_ret
    refine ⟨_, rfl, ?_, ((Below.refl _ _).alloc (Nat.le_refl _) _).grown hgrow' (by simp) (fun k hk => by cases hk; exact Nat.le_refl _)⟩
    have := hown'
    rw [Nat.zero_add, List.nil_append] at this
    exact this

theorem cinfoB : (Try.prog.info? 5).map (fun i => (i.zero, i.size, i.bytes)) = some (some (.int .u8 0), 1, 1) := by kernel_rfl
theorem emptyB (w : World) : (w.alloc (.cells #[] 5)).ownsRow w.heap.size 5 1 (.slice (some ⟨w.heap.size, 0, none⟩) 0 0) 0 [] :=
  ⟨rfl, .inr ⟨w.heap.size, 0, #[], rfl, Nat.le_refl _, heap_alloc_new _ _, Nat.le_refl _, Nat.zero_le _, rfl, rfl⟩⟩
set_option maxHeartbeats 4000000 in
theorem cloneB (v : Value) (n : Nat) (xs : List Value) (w : World) (hv : Rd w 1 v n xs) (h1 : ∀ u ∈ xs, u.oneCell' = true) (hl : n * 1 ≤ 140737488355328) :
    Calls Try.prog 40 #[v] w fun e w' => ∃ v', e = .returned v' ∧ w'.ownsRow w.heap.size 5 1 v' n xs ∧ Below w.heap.size w w' := by
  obtain ⟨im, mi0, mz0, mz1, mz2⟩ := info_partsV cinfoB
  have HV := Lib.hid hv
  have hnl := fun W a n c => Lib.run_eql_slice_nil (P := Try.prog) W 24 5 a n c 0 0 Try.underlying24
  rcases hv.2 with ⟨rfl, h0⟩ | ⟨a, c, rfl, hc1, hc2, hc3⟩
  · subst h0
    have hx : xs = [] := List.eq_nil_of_length_eq_zero (by simpa using hv.1)
    subst hx
    go_enter Try.func40, Try.ntmps40
    go_wp2_with fail
    go_ret
    exact ⟨_, rfl, ⟨rfl, .inl ⟨rfl, rfl⟩⟩, Below.refl _ _⟩
  · have b1 : 0 + n ≤ maxLen := by unfold maxLen; omega
    have b2 : (0 + n) * 1 ≤ 140737488355328 := by omega
    have HR : Hid (Rd (w.alloc (.cells #[] 5)) 1 _ n xs) := Rd.alloc HV.out _
    have H1 := Lib.hid h1
    clear hv hc1 hc2 hc3 h1
    go_enter Try.func40, Try.ntmps40
    go_wp2_with (at_builtin; refine wpList_append_own_rd _ rfl _ _ 24 rfl w.heap.size 5 im (.int .u8 0) 1 1 Try.underlying24 mi0 mz0 mz1 mz2 rfl (by decide) _ 0 [] rfl (emptyB w) _ n xs rfl HR.out H1.out b1 b2 (by simp) ?_; intro v' w' hown' hgrow')
    go_ret
    refine ⟨_, rfl, ?_, ((Below.refl _ _).alloc (Nat.le_refl _) _).grown hgrow' (by simp) (fun k hk => by cases hk; exact Nat.le_refl _)⟩
    have := hown'
    rw [Nat.zero_add, List.nil_append] at this
    exact this

theorem cinfoN : (Try.prog.info? 2).map (fun i => (i.zero, i.size, i.bytes)) = some (some (.int .i64 0), 1, 8) := by kernel_rfl
theorem emptyN (w : World) : (w.alloc (.cells #[] 2)).ownsRow w.heap.size 2 1 (.slice (some ⟨w.heap.size, 0, none⟩) 0 0) 0 [] :=
  ⟨rfl, .inr ⟨w.heap.size, 0, #[], rfl, Nat.le_refl _, heap_alloc_new _ _, Nat.le_refl _, Nat.zero_le _, rfl, rfl⟩⟩
set_option maxHeartbeats 4000000 in
theorem cloneN (v : Value) (n : Nat) (xs : List Value) (w : World) (hv : Rd w 1 v n xs) (h1 : ∀ u ∈ xs, u.oneCell' = true) (hl : n * 8 ≤ 140737488355328) :
    Calls Try.prog 34 #[v] w fun e w' => ∃ v', e = .returned v' ∧ w'.ownsRow w.heap.size 2 1 v' n xs ∧ Below w.heap.size w w' := by
  obtain ⟨im, mi0, mz0, mz1, mz2⟩ := info_partsV cinfoN
  have HV := Lib.hid hv
  have hnl := fun W a n c => Lib.run_eql_slice_nil (P := Try.prog) W 27 2 a n c 0 0 Try.underlying27
  rcases hv.2 with ⟨rfl, h0⟩ | ⟨a, c, rfl, hc1, hc2, hc3⟩
  · subst h0
    have hx : xs = [] := List.eq_nil_of_length_eq_zero (by simpa using hv.1)
    subst hx
    go_enter Try.func34, Try.ntmps34
    go_wp2_with fail
    go_ret
    exact ⟨_, rfl, ⟨rfl, .inl ⟨rfl, rfl⟩⟩, Below.refl _ _⟩
  · have b1 : 0 + n ≤ maxLen := by unfold maxLen; omega
    have b2 : (0 + n) * 8 ≤ 140737488355328 := by omega
    have HR : Hid (Rd (w.alloc (.cells #[] 2)) 1 _ n xs) := Rd.alloc HV.out _
    have H1 := Lib.hid h1
    clear hv hc1 hc2 hc3 h1
    go_enter Try.func34, Try.ntmps34
    go_wp2_with (at_builtin; refine wpList_append_own_rd _ rfl _ _ 27 rfl w.heap.size 2 im (.int .i64 0) 1 8 Try.underlying27 mi0 mz0 mz1 mz2 rfl (by decide) _ 0 [] rfl (emptyN w) _ n xs rfl HR.out H1.out b1 b2 (by simp) ?_; intro v' w' hown' hgrow')
    go_ret
    refine ⟨_, rfl, ?_, ((Below.refl _ _).alloc (Nat.le_refl _) _).grown hgrow' (by simp) (fun k hk => by cases hk; exact Nat.le_refl _)⟩
    have := hown'
    rw [Nat.zero_add, List.nil_append] at this
    exact this

end Go.Proofs.Ytgjmdcbdkdmceaa
