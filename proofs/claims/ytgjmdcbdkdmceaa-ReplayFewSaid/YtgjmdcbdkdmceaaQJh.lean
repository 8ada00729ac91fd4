/- The machine's tape, read: all that a machine is. -/
import Derived.Test.YtgjmdcbdkdmceaaQ21
import Derived.Test.YtgjmdcbdkdmceaaQIg
namespace Go.Proofs.Ytgjmdcbdkdmceaa.Mach
open Go.RowKit

theorem numF_rest (b : Bool) (p : List Int) : (numF b p).2.2.length ≤ p.length := by
  unfold numF
  split <;> simp
theorem shortF_rest (b : Bool) (p : List Int) : (shortF b p).2.2.length ≤ p.length := numF_rest b p
theorem numsF_rest (n : Nat) (b : Bool) (p : List Int) : (numsF n b p).2.2.length ≤ p.length := by
  induction n with
  | zero => exact Nat.le_refl _
  | succ n ih => exact Nat.le_trans (numF_rest _ _) ih
theorem listF_rest (b : Bool) (p : List Int) : (listF b p).2.2.length ≤ p.length := by
  unfold listF
  split
  · exact numF_rest b p
  · exact Nat.le_trans (numsF_rest _ _ _) (numF_rest b p)
/-- A call off the front. -/
def frF (bad : Bool) (p : List Int) : Fr × Bool × List Int :=
  let a := numF bad p
  let b := numF a.2.1 a.2.2
  let c := shortF b.2.1 b.2.2
  let d := numsF 16 c.2.1 c.2.2
  let e := listF d.2.1 d.2.2
  let f := listF e.2.1 e.2.2
  let g := listF f.2.1 f.2.2
  (⟨a.1, b.1, d.1, e.1.getD [], f.1.getD [], g.1.getD [], c.1⟩, g.2)
def frsF : Nat → Bool → List Int → List Fr × Bool × List Int
  | 0, bad, p => ([], bad, p)
  | n + 1, bad, p => ((frsF n bad p).1 ++ [(frF (frsF n bad p).2.1 (frsF n bad p).2.2).1], (frF (frsF n bad p).2.1 (frsF n bad p).2.2).2)
/-- All that a machine is, off the front: s: what it was. -/
def allF (p : List Int) (s : St) : St × Bool × List Int :=
  let a := numF false p
  let b := shortF a.2.1 a.2.2
  let c := numF b.2.1 b.2.2
  let d := listF c.2.1 c.2.2
  let e := numF d.2.1 d.2.2
  let f := numF e.2.1 e.2.2
  let g := numF f.2.1 f.2.2
  let h := listF g.2.1 g.2.2
  let n := numF h.2.1 h.2.2
  let s1 : St := { s with steps := a.1, end_ := b.1, exit := c.1, outs := d.1.getD s.outs, read := e.1, marks := f.1, at_ := g.1, heap := h.1.getD s.heap }
  if n.1 < 0 ∨ 100 < n.1 then (s1, true, n.2.2)
  else ({ s1 with opn := (frsF n.1.toNat n.2.1 n.2.2).1 }, (frsF n.1.toNat n.2.1 n.2.2).2)
theorem numsF_set (b : Bool) (p : List Int) (n q : Nat) (hq : q < n) : ((numsF q b p).1 ++ List.replicate (n - q) 0).set q (numF (numsF q b p).2.1 (numsF q b p).2.2).1 = (numsF (q + 1) b p).1 ++ List.replicate (n - (q + 1)) 0 := by
  obtain ⟨m, hm⟩ : ∃ m, n - q = m + 1 := ⟨n - q - 1, by omega⟩
  have hm2 : n - (q + 1) = m := by omega
  rw [hm, hm2, List.set_append_right _ _ (by rw [numsF_len]; omega), numsF_len, Nat.sub_self]
  simp [numsF, List.replicate_succ]
theorem frsF_len (n : Nat) (b : Bool) (p : List Int) : (frsF n b p).1.length = n := by
  induction n with
  | zero => rfl
  | succ n ih => simp [frsF, ih]
theorem frsF_set (b : Bool) (p : List Int) (n q : Nat) (hq : q < n) : ((frsF q b p).1 ++ List.replicate (n - q) zFr).set q (frF (frsF q b p).2.1 (frsF q b p).2.2).1 = (frsF (q + 1) b p).1 ++ List.replicate (n - (q + 1)) zFr := by
  obtain ⟨m, hm⟩ : ∃ m, n - q = m + 1 := ⟨n - q - 1, by omega⟩
  have hm2 : n - (q + 1) = m := by omega
  rw [hm, hm2, List.set_append_right _ _ (by rw [frsF_len]; omega), frsF_len, Nat.sub_self]
  simp [frsF, List.replicate_succ]
theorem frF_of {b : Bool} {p : List Int} {r1 r2 r3 : Int × Bool × List Int} {r4 : List Int × Bool × List Int} {r5 r6 r7 : Option (List Int) × Bool × List Int} (h1 : r1 = numF b p) (h2 : r2 = numF r1.2.1 r1.2.2) (h3 : r3 = shortF r2.2.1 r2.2.2) (h4 : r4 = numsF 16 r3.2.1 r3.2.2) (h5 : r5 = listF r4.2.1 r4.2.2) (h6 : r6 = listF r5.2.1 r5.2.2) (h7 : r7 = listF r6.2.1 r6.2.2) :
    frF b p = (⟨r1.1, r2.1, r4.1, r5.1.getD [], r6.1.getD [], r7.1.getD [], r3.1⟩, r7.2) := by
  unfold frF
  dsimp only
  rw [← h1, ← h2, ← h3, ← h4, ← h5, ← h6, ← h7]
theorem frF_rest (b : Bool) (p : List Int) : (frF b p).2.2.length ≤ p.length := by
  obtain ⟨r1, h1⟩ : ∃ r, r = numF b p := ⟨_, rfl⟩
  obtain ⟨r2, h2⟩ : ∃ r, r = numF r1.2.1 r1.2.2 := ⟨_, rfl⟩
  obtain ⟨r3, h3⟩ : ∃ r, r = shortF r2.2.1 r2.2.2 := ⟨_, rfl⟩
  obtain ⟨r4, h4⟩ : ∃ r, r = numsF 16 r3.2.1 r3.2.2 := ⟨_, rfl⟩
  obtain ⟨r5, h5⟩ : ∃ r, r = listF r4.2.1 r4.2.2 := ⟨_, rfl⟩
  obtain ⟨r6, h6⟩ : ∃ r, r = listF r5.2.1 r5.2.2 := ⟨_, rfl⟩
  obtain ⟨r7, h7⟩ : ∃ r, r = listF r6.2.1 r6.2.2 := ⟨_, rfl⟩
  have a1 := numF_rest b p
  have a2 := numF_rest r1.2.1 r1.2.2
  have a3 := shortF_rest r2.2.1 r2.2.2
  have a4 := numsF_rest 16 r3.2.1 r3.2.2
  have a5 := listF_rest r4.2.1 r4.2.2
  have a6 := listF_rest r5.2.1 r5.2.2
  have a7 := listF_rest r6.2.1 r6.2.2
  rw [frF_of h1 h2 h3 h4 h5 h6 h7]
  rw [← h1] at a1
  rw [← h2] at a2
  rw [← h3] at a3
  rw [← h4] at a4
  rw [← h5] at a5
  rw [← h6] at a6
  rw [← h7] at a7
  show r7.2.2.length ≤ _
  omega
theorem frsF_rest (n : Nat) (b : Bool) (p : List Int) : (frsF n b p).2.2.length ≤ p.length := by
  induction n with
  | zero => exact Nat.le_refl _
  | succ n ih => simp only [frsF]; exact Nat.le_trans (frF_rest _ _) ih
/-- Behind k of the calls. -/
def CLp (w0 : World) (base B M : Nat) (E : Env) (V : MV) (n : Nat) (b : Bool) (q : List Int) (s1 : St) (k : Nat) (wr : World) : Prop :=
  ∃ t cl', cl'.length = n ∧ cl'.map Prod.fst = (frsF k b q).1 ++ List.replicate (n - k) zFr ∧ RdM w0 wr base B M E (frsF k b q).2.1 (frsF k b q).2.2 t V cl' { s1 with opn := cl'.map Prod.fst }
theorem CLp.step {w0 w : World} {base B M : Nat} {E : Env} {V : MV} {n k : Nat} {b : Bool} {q : List Int} {s1 s2 : St} {t : Nat → Nat} {clb : List (Fr × FV)} {f : Fr} {cv : FV} {r : Bool × List Int} (hk : k < n) (hcl : clb.length = n) (hm : clb.map Prod.fst = (frsF k b q).1 ++ List.replicate (n - k) zFr) (hs : s2 = { s1 with opn := clb.map Prod.fst })
    (he : frF (frsF k b q).2.1 (frsF k b q).2.2 = (f, r)) (h : RdM w0 w base B M E r.1 r.2 t V (clb.set k (f, cv)) (setFr s2 clb k (f, cv))) : CLp w0 base B M E V n b q s1 (k + 1) w := by
  refine ⟨t, clb.set k (f, cv), by simp [hcl], ?_, ?_⟩
  · rw [List.map_set, hm]
    have := frsF_set b q n k hk
    rw [he] at this
    exact this
  · have e : (frsF (k + 1) b q).2 = r := by
      have e1 : (frsF (k + 1) b q).2 = (frF (frsF k b q).2.1 (frsF k b q).2.2).2 := by simp only [frsF]
      rw [e1, he]
    rw [e]
    subst hs
    exact h
theorem RdM.aside {w0 w w' : World} {base B M nb no : Nat} {E : Env} {bad bad' : Bool} {p p' : List Int} {t : Nat → Nat} {V : MV} {cl : List (Fr × FV)} {s : St} {v : Value} (h : RdM w0 w base B M E bad p t V cl s) (hn : t nb = 0) (ht : TapR w0 base B bad' p' w') (hw : RW w w' B ⟨nb, no, none⟩ v) : RdM w0 w' base B M E bad' p' t V cl s :=
  ⟨h.rep.view (fun k hk => (hw.at_ k (h.rep.lt k hk) (fun e => hk (by rw [e]; exact h.tB))).trans (Below.heap_setCell _ _ _ _ (by show k ≠ nb; intro e; exact hk (by rw [e]; exact hn)))) hw.size, ht, h.tB, h.low⟩
/-- What a machine's reading leaves. -/
def RdP (w0 : World) (base B M : Nat) (E : Env) (p : List Int) (s : St) (w' : World) : Prop := ∃ t' V' cl', RdM w0 w' base B M E (allF p s).2.1 (allF p s).2.2 t' V' cl' (allF p s).1
set_option maxRecDepth 100000 in
set_option maxHeartbeats 8000000 in
theorem tall_r (w0 w : World) (base B M : Nat) (E : Env) (p : List Int) (t : Nat → Nat) (V : MV) (cl : List (Fr × FV)) (s : St) (h : RdM w0 w base B M E false p t V cl s) (hp9 : p.length ≤ 140737488355328) :
    Calls Try.prog 44 #[.pointer (some ⟨B, 0, none⟩), .pointer (some ⟨M, 0, none⟩)] w fun e w' => e = .returned (.tuple #[]) ∧ RdP w0 base B M E p s w' := by
  have m7 : w.cell? ⟨M, 7, none⟩ = some (.int .i64 s.steps) := (h.rep.cellM 7).trans (mC_get V s).2.2.2.2.2.1
  have hlM := h.rep.ltM
  have hMB := h.MB
  have hbM := h.bM
  have H := Lib.hid h
  clear h
  go_enter Try.func44, Try.ntmps44
  go_wp2_with fail
  refine (load_any M 7 s.steps w m7).mono ?_
  rintro e w' ⟨rfl, hw⟩
  have hw := hw.symm
  subst hw
  go_wp2_with fail
  obtain ⟨w1, hw1⟩ : ∃ w1, w1 = w.alloc (.cells #[.int .i64 s.steps] 2) := ⟨_, rfl⟩
  rw [← hw1]
  have hb1 : Below w.heap.size w w1 := by rw [hw1]; exact (Below.refl _ _).alloc (Nat.le_refl _) _
  have hc1 : w1.heap[w.heap.size]? = some (.cells #[.int .i64 s.steps] 2 (0, 0)) := by rw [hw1]; exact heap_alloc_new _ _
  have hBw := H.out.tap.blkB
  have hbs := H.out.rep.bs
  have H1 := Lib.hid (H.out.later hb1)
  have htl : ∀ k, t k ≠ 0 → k < w.heap.size := H.out.rep.lt
  have HTL := Lib.hid htl
  have HC1 := Lib.hid hc1
  have g1 : w1.cell? ⟨w.heap.size, 0, none⟩ = some (.int .i64 s.steps) := by simp [World.cell?, hc1]
  have f1 : w1.frozen? ⟨w.heap.size, 0, none⟩ = false := by simp [World.frozen?, hc1]
  clear hw1 hb1 hc1 htl H
  obtain ⟨r1, hr1⟩ : ∃ r, r = numF false p := ⟨_, rfl⟩
  refine (tnum_r w0 w1 base B false p H1.out.tap w.heap.size 0 (by omega) hbs _ g1 f1).mono ?_
  rw [← hr1]
  rintro e w2 ⟨rfl, hT2, hW2⟩
  have htn : t w.heap.size = 0 := by
    rcases Nat.eq_zero_or_pos (t w.heap.size) with e | e
    · exact e
    · have := HTL.out _ (show t w.heap.size ≠ 0 by omega)
      omega
  have k2 : w2.cell? ⟨w.heap.size, 0, none⟩ = some (.int .i64 r1.1) := by
    have e2 := hW2.at_ w.heap.size (Array.getElem?_eq_some_iff.1 HC1.out).1 (by omega)
    rw [heap_set HC1.out] at e2
    simp [World.cell?, e2]
  have H2 := Lib.hid (H1.out.aside htn hT2 hW2)
  have n7 : w2.cell? ⟨M, 7, none⟩ = some (.int .i64 s.steps) := (H2.out.rep.cellM 7).trans (mC_get V s).2.2.2.2.2.1
  have z7 : w2.frozen? ⟨M, 7, none⟩ = false := H2.out.rep.frzM 7
  have n7d : w2.drew.cell? ⟨M, 7, none⟩ = some (.int .i64 s.steps) := n7
  have HST := Lib.hid (storew_any M 7 s.steps r1.1 w2.drew n7d z7)
  have mixed : Try.prog.follows Departure.mixedOrders = true := by kernel_rfl
  have HR1 := Lib.hid hr1
  clear H1 HC1 hT2 hW2 n7 z7 m7 n7d g1 f1 hr1 HTL
  go_wp2_with fail
  go_still_tail 4, mixed
  go_wp2_with fail
  change Calls _ _ _ (w2.drew) _
  refine HST.out.mono ?_
  rintro e w3 ⟨rfl, hw3⟩
  have H3 : Hid (RdM w0 w3 base B M E r1.2.1 r1.2.2 t V cl { s with steps := r1.1 }) := by
    have hd : RdM w0 w2.drew base B M E r1.2.1 r1.2.2 t V cl s := H2.out.later ((Below.refl _ _).drew)
    rw [hw3]
    exact ⟨hd.rep.steps' _, hd.tap.set ⟨M, 7, none⟩ _ hMB hbM, hd.tB, hd.low⟩
  clear HST hw3 H2 k2
  go_wp2_with fail
  have hl1 : r1.2.2.length ≤ 140737488355328 := by rw [HR1.out]; exact Nat.le_trans (numF_rest _ _) hp9
  obtain ⟨r2, hr2⟩ : ∃ r, r = shortF r1.2.1 r1.2.2 := ⟨_, rfl⟩
  have hl2 : r2.2.2.length ≤ 140737488355328 := by rw [hr2]; exact Nat.le_trans (shortF_rest _ _) hl1
  refine (tshort_r w0 w3 base B r1.2.1 r1.2.2 H3.out.tap M 8 hMB hbM _ _ H3.out.rep.hm _ ((mC_get _ _).2.2.2.2.2.2.1)).mono ?_
  rw [← hr2]
  rintro e w4 ⟨rfl, hT2, hW2⟩
  have H4 : Hid (RdM w0 w4 base B M E r2.2.1 r2.2.2 t V cl { s with steps := r1.1, end_ := r2.1 }) := H3.out.put (H3.out.rep.end' r2.1) hT2 hW2
  have HR2 := Lib.hid hr2
  clear H3 hT2 hW2 hr2
  go_wp2_with fail
  obtain ⟨r3, hr3⟩ : ∃ r, r = numF r2.2.1 r2.2.2 := ⟨_, rfl⟩
  have hl3 : r3.2.2.length ≤ 140737488355328 := by rw [hr3]; exact Nat.le_trans (numF_rest _ _) hl2
  have g3 : w4.cell? ⟨M, 9, none⟩ = some _ := (H4.out.rep.cellM 9).trans ((mC_get _ _).2.2.2.2.2.2.2.1)
  have f3 := H4.out.rep.frzM 9
  refine (tnum_r w0 w4 base B r2.2.1 r2.2.2 H4.out.tap M 9 hMB hbM _ g3 f3).mono ?_
  rw [← hr3]
  rintro e w5 ⟨rfl, hT3, hW3⟩
  have H5 : Hid (RdM w0 w5 base B M E r3.2.1 r3.2.2 t V cl { s with steps := r1.1, end_ := r2.1, exit := r3.1 }) := H4.out.put (H4.out.rep.exit' r3.1) hT3 hW3
  have HR3 := Lib.hid hr3
  clear H4 hT3 hW3 hr3 g3 f3
  go_wp2_with fail
  obtain ⟨r4, hr4⟩ : ∃ r, r = listF r3.2.1 r3.2.2 := ⟨_, rfl⟩
  have hl4 : r4.2.2.length ≤ 140737488355328 := by rw [hr4]; exact Nat.le_trans (listF_rest _ _) hl3
  obtain ⟨la4, lc4, hs4, hle4, hmx4⟩ := oshape H5.out.rep.hx.own
  have e4 : (mC V { s with steps := r1.1, end_ := r2.1, exit := r3.1 })[10]? = some V.xv := (mC_get _ _).2.2.2.2.2.2.2.2.1
  have e4' := e4
  rw [hs4] at e4'
  refine (tlist_r w0 w5 base B r3.2.1 r3.2.2 H5.out.tap M 10 hMB hbM _ _ H5.out.rep.hm la4 _ lc4 (by omega) e4' hl3).mono ?_
  rintro e w6 ⟨rfl, hL4⟩
  rw [← hs4] at hL4
  obtain ⟨t4, V4, hN4⟩ := H5.out.outs hL4
  rw [← hr4] at hN4
  have H6 : Hid (RdM w0 w6 base B M E r4.2.1 r4.2.2 t4 V4 cl { s with steps := r1.1, end_ := r2.1, exit := r3.1, outs := r4.1.getD s.outs }) := hN4
  have HR4 := Lib.hid hr4
  clear H5 hL4 hN4 hs4 e4 e4' hr4
  go_wp2_with fail
  obtain ⟨r5, hr5⟩ : ∃ r, r = numF r4.2.1 r4.2.2 := ⟨_, rfl⟩
  have hl5 : r5.2.2.length ≤ 140737488355328 := by rw [hr5]; exact Nat.le_trans (numF_rest _ _) hl4
  refine (tplain_r w0 w6 base B r4.2.1 r4.2.2 H6.out.tap M 11 hMB hbM _ _ H6.out.rep.hm _ (rfl)).mono ?_
  rw [← hr5]
  rintro e w7 ⟨rfl, hT5, hW5⟩
  have H7 : Hid (RdM w0 w7 base B M E r5.2.1 r5.2.2 t4 V4 cl { s with steps := r1.1, end_ := r2.1, exit := r3.1, outs := r4.1.getD s.outs, read := r5.1 }) := H6.out.put (H6.out.rep.read' r5.1) hT5 hW5
  have HR5 := Lib.hid hr5
  clear H6 hT5 hW5 hr5
  go_wp2_with fail
  obtain ⟨r6, hr6⟩ : ∃ r, r = numF r5.2.1 r5.2.2 := ⟨_, rfl⟩
  have hl6 : r6.2.2.length ≤ 140737488355328 := by rw [hr6]; exact Nat.le_trans (numF_rest _ _) hl5
  refine (tplain_r w0 w7 base B r5.2.1 r5.2.2 H7.out.tap M 13 hMB hbM _ _ H7.out.rep.hm _ (rfl)).mono ?_
  rw [← hr6]
  rintro e w8 ⟨rfl, hT6, hW6⟩
  have H8 : Hid (RdM w0 w8 base B M E r6.2.1 r6.2.2 t4 V4 cl { s with steps := r1.1, end_ := r2.1, exit := r3.1, outs := r4.1.getD s.outs, read := r5.1, marks := r6.1 }) := H7.out.put (H7.out.rep.marks' r6.1) hT6 hW6
  have HR6 := Lib.hid hr6
  clear H7 hT6 hW6 hr6
  go_wp2_with fail
  obtain ⟨r7, hr7⟩ : ∃ r, r = numF r6.2.1 r6.2.2 := ⟨_, rfl⟩
  have hl7 : r7.2.2.length ≤ 140737488355328 := by rw [hr7]; exact Nat.le_trans (numF_rest _ _) hl6
  refine (tplain_r w0 w8 base B r6.2.1 r6.2.2 H8.out.tap M 14 hMB hbM _ _ H8.out.rep.hm _ (rfl)).mono ?_
  rw [← hr7]
  rintro e w9 ⟨rfl, hT7, hW7⟩
  have H9 : Hid (RdM w0 w9 base B M E r7.2.1 r7.2.2 t4 V4 cl { s with steps := r1.1, end_ := r2.1, exit := r3.1, outs := r4.1.getD s.outs, read := r5.1, marks := r6.1, at_ := r7.1 }) := H8.out.put (H8.out.rep.at' r7.1) hT7 hW7
  have HR7 := Lib.hid hr7
  clear H8 hT7 hW7 hr7
  go_wp2_with fail
  obtain ⟨r8, hr8⟩ : ∃ r, r = listF r7.2.1 r7.2.2 := ⟨_, rfl⟩
  have hl8 : r8.2.2.length ≤ 140737488355328 := by rw [hr8]; exact Nat.le_trans (listF_rest _ _) hl7
  obtain ⟨la8, lc8, hs8, hle8, hmx8⟩ := oshape H9.out.rep.hh.own
  have e8 : (mC V4 { s with steps := r1.1, end_ := r2.1, exit := r3.1, outs := r4.1.getD s.outs, read := r5.1, marks := r6.1, at_ := r7.1 })[6]? = some V4.hv := (mC_get _ _).2.2.2.2.1
  have e8' := e8
  rw [hs8] at e8'
  refine (tlist_r w0 w9 base B r7.2.1 r7.2.2 H9.out.tap M 6 hMB hbM _ _ H9.out.rep.hm la8 _ lc8 (by omega) e8' hl7).mono ?_
  rintro e w10 ⟨rfl, hL8⟩
  rw [← hs8] at hL8
  obtain ⟨t8, V8, hN8⟩ := H9.out.heap hL8
  rw [← hr8] at hN8
  have H10 : Hid (RdM w0 w10 base B M E r8.2.1 r8.2.2 t8 V8 cl { s with steps := r1.1, end_ := r2.1, exit := r3.1, outs := r4.1.getD s.outs, read := r5.1, marks := r6.1, at_ := r7.1, heap := r8.1.getD s.heap }) := hN8
  have HR8 := Lib.hid hr8
  clear H9 hL8 hN8 hs8 e8 e8' hr8
  obtain ⟨oa, oc, hos, hole, homx⟩ := oshape H10.out.rep.ho.own
  have c5 : w10.cell? ⟨M, 5, none⟩ = some (.slice oa cl.length oc) := by rw [← hos]; exact (H10.out.rep.cellM 5).trans (mC_get _ _).2.2.2.1
  clear hos
  go_wp2_with fail
  obtain ⟨w11, hw11⟩ : ∃ w11, w11 = w10.alloc (.cells #[.int .i64 cl.length] 3) := ⟨_, rfl⟩
  rw [← hw11]
  have hb11 : Below w10.heap.size w10 w11 := by rw [hw11]; exact (Below.refl _ _).alloc (Nat.le_refl _) _
  have hc11 : w11.heap[w10.heap.size]? = some (.cells #[.int .i64 cl.length] 3 (0, 0)) := by rw [hw11]; exact heap_alloc_new _ _
  have hB10 := H10.out.tap.blkB
  have hbs10 := H10.out.rep.bs
  have htn10 : t8 w10.heap.size = 0 := by
    rcases Nat.eq_zero_or_pos (t8 w10.heap.size) with e | e
    · exact e
    · have := H10.out.rep.lt _ (show t8 w10.heap.size ≠ 0 by omega)
      omega
  have H11 := Lib.hid (H10.out.later hb11)
  have HC11 := Lib.hid hc11
  clear hw11 hb11 hc11 H10 c5
  obtain ⟨r9, hr9⟩ : ∃ r, r = numF r8.2.1 r8.2.2 := ⟨_, rfl⟩
  have hl9 : r9.2.2.length ≤ 140737488355328 := by rw [hr9]; exact Nat.le_trans (numF_rest _ _) hl8
  refine (tplain_r w0 w11 base B r8.2.1 r8.2.2 H11.out.tap w10.heap.size 0 (by omega) hbs10 _ _ HC11.out cl.length rfl).mono ?_
  rw [← hr9]
  rintro e w12 ⟨rfl, hT9, hW9⟩
  have k9 : w12.cell? ⟨w10.heap.size, 0, none⟩ = some (.int .i64 r9.1) := by
    have e2 := hW9.at_ w10.heap.size (Array.getElem?_eq_some_iff.1 HC11.out).1 (by omega)
    rw [heap_set HC11.out] at e2
    simp [World.cell?, e2]
  have H12 := Lib.hid (H11.out.aside htn10 hT9 hW9)
  have HR9 := Lib.hid hr9
  obtain ⟨pv9, ht9, -, -⟩ := hT9.ht
  have t91 : w12.cell? ⟨B, 1, none⟩ = some (.bool true) := by simp [World.cell?, ht9]
  have t92 : w12.cell? ⟨B, 2, none⟩ = some (.bool r9.2.1) := by simp [World.cell?, ht9]
  have z92 : w12.frozen? ⟨B, 2, none⟩ = false := by simp [World.frozen?, ht9]
  clear H11 HC11 hT9 hW9 hr9 ht9
  obtain ⟨x, hx⟩ : ∃ x, x = r9.1 := ⟨_, rfl⟩
  rw [← hx] at k9
  have HX := Lib.hid hx
  clear hx
  have HALL : Hid (∀ s', (x < 0 ∨ 100 < x → allF p s = (s', true, r9.2.2) → True)) := Lib.hid fun _ _ _ => trivial
  clear HALL
  have HBAD : Hid (x < 0 ∨ 100 < x → RdP w0 base B M E p s (w12.setCell ⟨B, 2, none⟩ (.bool true))) := Lib.hid fun hx => by
    refine ⟨t8, V8, cl, ?_⟩
    have e : allF p s = ({ s with steps := r1.1, end_ := r2.1, exit := r3.1, outs := r4.1.getD s.outs, read := r5.1, marks := r6.1, at_ := r7.1, heap := r8.1.getD s.heap }, true, r9.2.2) := by
      rw [HX.out, HR9.out, HR8.out, HR7.out, HR6.out, HR5.out, HR4.out, HR3.out, HR2.out, HR1.out] at hx
      simp only [allF]
      rw [if_pos hx, HR9.out, HR8.out, HR7.out, HR6.out, HR5.out, HR4.out, HR3.out, HR2.out, HR1.out]
    rw [e]
    exact ⟨H12.out.rep.view (fun k hk => Below.heap_setCell _ _ _ _ (by show k ≠ B; intro e; exact hk (by rw [e]; exact H12.out.tB))) (by rw [World.size_setCell]; exact Nat.le_refl _), H12.out.tap.bad true, H12.out.tB, H12.out.low⟩
  by_cases hx0 : x < 0
  · have hx0' : decide (x < 0) = true := decide_eq_true hx0
    have HB := Lib.hid (HBAD.out (.inl hx0))
    clear hx0 HBAD
    go_wp2_with fail
    all_goals exact bodyPost_ret (results_none rfl _ _ _) rfl ⟨rfl, HB.out⟩
  · have hx0' : decide (x < 0) = false := decide_eq_false hx0
    by_cases hx1 : 100 < x
    · have hx1' : decide (100 < x) = true := decide_eq_true hx1
      have HB := Lib.hid (HBAD.out (.inr hx1))
      clear hx1 HBAD
      go_wp2_with fail
      all_goals exact bodyPost_ret (results_none rfl _ _ _) rfl ⟨rfl, HB.out⟩
    · obtain ⟨n, rfl⟩ := Int.eq_ofNat_of_zero_le (show 0 ≤ x by omega)
      have hx1' : decide (100 < (n : Int)) = false := decide_eq_false hx1
      have hn100 : n ≤ 100 := by omega
      have c5 : w12.cell? ⟨M, 5, none⟩ = some _ := (H12.out.rep.cellM 5).trans (mC_get _ _).2.2.2.1
      have z5 := H12.out.rep.frzM 5
      clear hx1 HBAD
      go_wp2_with fail
      obtain ⟨s1, hs1⟩ : ∃ s1 : St, s1 = { s with steps := r1.1, end_ := r2.1, exit := r3.1, outs := r4.1.getD s.outs, read := r5.1, marks := r6.1, at_ := r7.1, heap := r8.1.getD s.heap } := ⟨_, rfl⟩
      have HS1 := Lib.hid hs1
      have H13 : Hid (RdM w0 (w12.setCell ⟨M, 5, none⟩ (.slice none 0 0)) base B M E r9.2.1 r9.2.2 t8 { V8 with ov := .slice none 0 0 } [] { s1 with opn := [] }) := Lib.hid (by rw [hs1]; exact H12.out.noCalls)
      generalize w12.setCell ⟨M, 5, none⟩ (.slice none 0 0) = w13 at H13 ⊢
      clear H12 hs1 k9 t91 t92 z92 c5 z5
      go_loopw [85] (fun i wr => ∃ j : Nat, j ≤ n ∧ i = .int .i64 j ∧ ∃ t V cl', cl'.length = j ∧ Hid (RdM w0 wr base B M E r9.2.1 r9.2.2 t V cl' { s1 with opn := List.replicate j zFr })) (fun i _ => n - (intOf i).toNat)
      case atStart => exact ⟨0, Nat.zero_le _, rfl, _, _, _, rfl, H13⟩
      case round =>
        obtain ⟨wa, rfl⟩ : ∃ wa : World, wa = wr := ⟨_, rfl⟩
        obtain ⟨j, hj, rfl, ta, Va, cla, hcla, HA⟩ := hrel
        by_cases hjn : j < n
        · have hjn' : (j : Int) < n := by omega
          obtain ⟨oa1, oc1, hos1, hole1, homx1⟩ := oshape HA.out.rep.ho.own
          have c5 : wa.cell? ⟨M, 5, none⟩ = some (.slice oa1 cla.length oc1) := by rw [← hos1]; exact (HA.out.rep.cellM 5).trans (mC_get _ _).2.2.2.1
          have z5 := HA.out.rep.frzM 5
          have hlMa := HA.out.rep.ltM
          obtain ⟨t', HM1, HP1⟩ := HA.out.made
          obtain ⟨w1, hw1⟩ : ∃ w1, w1 = wa.alloc (.cells (fC zFr ⟨wa.heap.size, .slice none 0 0, .slice none 0 0, .slice none 0 0⟩) 111) := ⟨_, rfl⟩
          rw [← hw1] at HM1 HP1
          have hw1' := hw1
          simp only [fC, fL, zFr, intsV, List.replicate, List.map_cons, List.map_nil, List.cons_append, List.nil_append] at hw1'
          have HM := Lib.hid HM1
          have HP := Lib.hid HP1
          obtain ⟨F, hF⟩ : ∃ F, F = wa.heap.size := ⟨_, rfl⟩
          have HOS := Lib.hid hos1
          obtain ⟨i1, a1, a2, a3, a4⟩ := info_P
          have HI := Lib.hid (And.intro a1 (And.intro a2 (And.intro a3 a4)))
          have OA : Hid ((w1.alloc (.cells #[.pointer (some ⟨wa.heap.size, 0, none⟩)] 90)).ownsRow base 90 1 (.slice oa1 cla.length oc1) cla.length (ptrC cla)) := Lib.hid (by rw [← hos1]; exact HM1.rep.ho.own.alloc _)
          have RA : Hid (Rd (w1.alloc (.cells #[.pointer (some ⟨wa.heap.size, 0, none⟩)] 90)) 1 (.slice (some ⟨w1.heap.size, 0, none⟩) 1 1) 1 [.pointer (some ⟨wa.heap.size, 0, none⟩)]) := lit1_rd w1 _ _
          have BA : Hid (base ≤ (w1.alloc (.cells #[.pointer (some ⟨wa.heap.size, 0, none⟩)] 90)).heap.size) := Lib.hid (by have := HM1.rep.bs; rw [World.size_alloc]; omega)
          have hz1 : w1.heap.size = wa.heap.size + 1 := by rw [hw1, World.size_alloc]
          have y1 : cla.length + 1 ≤ maxLen := by unfold maxLen; omega
          have y2 : (cla.length + 1) * 8 ≤ 140737488355328 := by omega
          clear hos1 H13 HM1 HP1 hw1 a1 a2 a3 a4
          rw [hcla] at OA y1 y2 c5 hole1
          go_wp2_with (at_builtin; refine wpList_append_f _ rfl _ _ 82 rfl base 90 i1 (.pointer none) 1 8 Try.underlying82 HI.out.1 HI.out.2.1 HI.out.2.2.1 HI.out.2.2.2 rfl (by decide) _ j (ptrC cla) rfl (by rw [← hw1']; exact OA.out) _ 1 [.pointer (some ⟨wa.heap.size, 0, none⟩)] rfl (by rw [← hw1']; have := RA.out; rw [hz1] at this; exact this) (fun u hu => by simp at hu; subst hu; rfl) y1 y2 (by rw [← hw1']; exact BA.out) ?_; rw [← hw1']; intro v7 w7 hown7 hgrow7 hfr7; obtain ⟨va7, vc7, rfl, -, -⟩ := oshape hown7; have hNP := HM.out.pushed HP.out (by rw [HOS.out, hcla]; exact hgrow7) (by rw [HOS.out, hcla]; exact hfr7) (by rw [hcla]; exact hown7); have hM7 : w7.heap[M]? = w1.heap[M]? := (hgrow7.block M (by rw [World.size_alloc]; omega) (fun e => by have := HM.out.rep.ho.tag M (by rw [HOS.out, hcla]; exact e.symm); rw [HM.out.rep.tm] at this; omega)).trans (Below.heap_alloc _ _ _ (by omega)); have m57 : w7.cell? ⟨M, 5, none⟩ = some (.slice oa1 j oc1) := (World.cell?_of_block (a := ⟨M, 5, none⟩) hM7).trans (((HM.out.rep.cellM 5).trans (mC_get _ _).2.2.2.1).trans (by rw [HOS.out, hcla])); have z57 := (World.frozen?_of_block (a := ⟨M, 5, none⟩) hM7).trans (HM.out.rep.frzM 5); have HNP := Lib.hid hNP; clear hM7 hown7 hgrow7 hfr7 hNP)
          obtain ⟨t9, hNP⟩ := HNP.out
          dsimp only at hNP
          rw [← List.replicate_succ'] at hNP
          exact ⟨⟨j + 1, by omega, by simp, t9, _, _, by simp [hcla], Lib.hid hNP⟩, by simp [intOf]; omega⟩
        · obtain rfl : j = n := by omega
          obtain ⟨oa1, oc1, hos1, hole1, homx1⟩ := oshape HA.out.rep.ho.own
          have c5 : wa.cell? ⟨M, 5, none⟩ = some (.slice oa1 j oc1) := by rw [← hcla, ← hos1]; exact (HA.out.rep.cellM 5).trans (mC_get _ _).2.2.2.1
          rw [hcla] at hos1 hole1
          have HOV := Lib.hid hos1
          have HA0 : Hid (CLp w0 base B M E Va j r9.2.1 r9.2.2 s1 0 wa) := Lib.hid (by
            have ho := HA.out.rep.opn
            dsimp only at ho
            refine ⟨ta, cla, hcla, by rw [← ho]; rfl, ?_⟩
            rw [← ho]
            exact HA.out)
          clear H13 hos1 HA hcla
          go_wp2_with fail
          go_loopw [104] (fun i wr => ∃ k : Nat, k ≤ j ∧ i = .int .i64 k ∧ Hid (CLp w0 base B M E Va j r9.2.1 r9.2.2 s1 k wr)) (fun i _ => j - (intOf i).toNat)
          case atStart => exact ⟨0, Nat.zero_le _, rfl, HA0⟩
          case round =>
            obtain ⟨wb, rfl⟩ : ∃ wb : World, wb = wr := ⟨_, rfl⟩
            obtain ⟨k, hk, rfl, HK⟩ := hrel
            clear HA0
            by_cases hkj : k < j
            · have hkj' : (k : Int) < j := by omega
              obtain ⟨tb, clb, hclb, hmap, hrd⟩ := HK.out
              obtain ⟨rk, hrk⟩ : ∃ r, r = frsF k r9.2.1 r9.2.2 := ⟨_, rfl⟩
              have hlk : rk.2.2.length ≤ 140737488355328 := by rw [hrk]; exact Nat.le_trans (frsF_rest _ _ _) hl9
              rw [← hrk] at hmap hrd
              obtain ⟨pf, hpf⟩ : ∃ pf, clb[k]? = some pf := ⟨_, List.getElem?_eq_getElem (by omega)⟩
              obtain ⟨f0, cv⟩ := pf
              have hf0 : f0 = zFr := by
                have e1 : (clb.map Prod.fst)[k]? = some f0 := by rw [List.getElem?_map, hpf]; rfl
                rw [hmap, List.getElem?_append_right (by rw [hrk, frsF_len]; exact Nat.le_refl _), hrk, frsF_len, Nat.sub_self] at e1
                obtain ⟨m, hm⟩ : ∃ m, j - k = m + 1 := ⟨j - k - 1, by omega⟩
                rw [hm] at e1
                simpa [List.replicate_succ] using e1.symm
              subst hf0
              obtain ⟨ob, obc, hv, hlob, -, -, hat⟩ := osplit hrd.rep.ho.own (by omega)
              rw [HOV.out, hclb] at hv
              simp only [Value.slice.injEq, true_and] at hv
              obtain ⟨rfl, rfl⟩ := hv
              have kp := hat k (.pointer (some ⟨cv.blk, 0, none⟩)) (by simp [ptrC, hpf])
              obtain ⟨s2, hs2⟩ : ∃ s2 : St, s2 = { s1 with opn := clb.map Prod.fst } := ⟨_, rfl⟩
              rw [← hs2] at hrd
              have HC : Hid (InC w0 wb base B M E rk.2.1 rk.2.2 tb Va clb s2 k zFr cv) := Lib.hid (InC.start hrd hpf)
              have HS2 := Lib.hid hs2
              have HMP := Lib.hid hmap
              have HRK := Lib.hid hrk
              obtain ⟨F, hF⟩ : ∃ F, F = cv.blk := ⟨_, rfl⟩
              rw [← hF] at kp
              have HF := Lib.hid hF
              clear hmap hrd hs2 hrk hpf hat HK hF
              go_wp2_with fail
              obtain ⟨q1, hq1⟩ : ∃ r, r = numF rk.2.1 rk.2.2 := ⟨_, rfl⟩
              have hm1 : q1.2.2.length ≤ 140737488355328 := by rw [hq1]; exact Nat.le_trans (numF_rest _ _) hlk
              have hB1 := HC.out.blk
              rw [← HF.out] at hB1
              have HPR : _ = 16 := HC.out.pr.rl
              refine (tplain_r w0 wb base B rk.2.1 rk.2.2 HC.out.rd.tap F 0 hB1.1 hB1.2.1 _ _ hB1.2.2 _ (by rw [fC_at]; exact (fL_fn _ _).1)).mono ?_
              rw [← hq1]
              rintro e x1 ⟨rfl, hT1, hW1⟩
              rw [HF.out] at hW1
              have HD1 : Hid (InC w0 x1 base B M E q1.2.1 q1.2.2 tb Va clb s2 k { zFr with fn := q1.1 } cv) := Lib.hid (HC.out.fn hT1 hW1)
              have HQ1 := Lib.hid hq1
              clear HC hT1 hW1 hq1 hB1 HPR
              go_wp2_with fail
              obtain ⟨q2, hq2⟩ : ∃ r, r = numF q1.2.1 q1.2.2 := ⟨_, rfl⟩
              have hm2 : q2.2.2.length ≤ 140737488355328 := by rw [hq2]; exact Nat.le_trans (numF_rest _ _) hm1
              have hB2 := HD1.out.blk
              rw [← HF.out] at hB2
              have HPR : _ = 16 := HD1.out.pr.rl
              refine (tplain_r w0 x1 base B q1.2.1 q1.2.2 HD1.out.rd.tap F 1 hB2.1 hB2.2.1 _ _ hB2.2.2 _ (by rw [fC_at]; exact (fL_fn _ _).2)).mono ?_
              rw [← hq2]
              rintro e x2 ⟨rfl, hT2, hW2⟩
              rw [HF.out] at hW2
              have HD2 : Hid (InC w0 x2 base B M E q2.2.1 q2.2.2 tb Va clb s2 k { zFr with fn := q1.1, next := q2.1 } cv) := Lib.hid (HD1.out.next hT2 hW2)
              have HQ2 := Lib.hid hq2
              clear HD1 hT2 hW2 hq2 hB2 HPR
              go_wp2_with fail
              obtain ⟨q3, hq3⟩ : ∃ r, r = shortF q2.2.1 q2.2.2 := ⟨_, rfl⟩
              have hm3 : q3.2.2.length ≤ 140737488355328 := by rw [hq3]; exact Nat.le_trans (shortF_rest _ _) hm2
              have hB3 := HD2.out.blk
              rw [← HF.out] at hB3
              have HPR : _ = 16 := HD2.out.pr.rl
              refine (tshort_r w0 x2 base B q2.2.1 q2.2.2 HD2.out.rd.tap F 21 hB3.1 hB3.2.1 _ _ hB3.2.2 _ (by rw [fC_at]; exact (fL_tail _ _ HPR).2.2.2)).mono ?_
              rw [← hq3]
              rintro e x3 ⟨rfl, hT3, hW3⟩
              rw [HF.out] at hW3
              have HD3 : Hid (InC w0 x3 base B M E q3.2.1 q3.2.2 tb Va clb s2 k { zFr with fn := q1.1, next := q2.1, dst := q3.1 } cv) := Lib.hid (HD2.out.dst hT3 hW3)
              have HQ3 := Lib.hid hq3
              clear HD2 hT3 hW3 hq3 hB3 HPR
              go_wp2_with fail
              have HL0 : Hid (InC w0 x3 base B M E (numsF 0 q3.2.1 q3.2.2).2.1 (numsF 0 q3.2.1 q3.2.2).2.2 tb Va clb s2 k ⟨q1.1, q2.1, (numsF 0 q3.2.1 q3.2.2).1 ++ List.replicate (16 - 0) 0, [], [], [], q3.1⟩ cv) := Lib.hid HD3.out
              clear HD3
              go_loopw [123] (fun i wr => ∃ q : Nat, q ≤ 16 ∧ i = .int .i64 q ∧ Hid (InC w0 wr base B M E (numsF q q3.2.1 q3.2.2).2.1 (numsF q q3.2.1 q3.2.2).2.2 tb Va clb s2 k ⟨q1.1, q2.1, (numsF q q3.2.1 q3.2.2).1 ++ List.replicate (16 - q) 0, [], [], [], q3.1⟩ cv)) (fun i _ => 16 - (intOf i).toNat)
              case atStart => exact ⟨0, by omega, rfl, HL0⟩
              case round =>
                obtain ⟨wi, rfl⟩ : ∃ wi : World, wi = wr := ⟨_, rfl⟩
                obtain ⟨q, hq, rfl, HE⟩ := hrel
                clear HL0
                by_cases hq16 : q < 16
                · have hq' : (q : Int) < 16 := by omega
                  have hBq := HE.out.blk
                  rw [← HF.out] at hBq
                  obtain ⟨rq, hrq⟩ : ∃ r, r = numsF q q3.2.1 q3.2.2 := ⟨_, rfl⟩
                  rw [← hrq] at HE hBq
                  have HPR : _ = 16 := HE.out.pr.rl
                  have kc : wi.cell? ⟨F, 2 + q, none⟩ = some (.int .i64 ((rq.1 ++ List.replicate (16 - q) 0).getD q 0)) := by simp only [World.cell?, hBq.2.2]; exact (fC_at _ _ _).trans (fL_reg _ _ HPR q hq16)
                  have kz : wi.frozen? ⟨F, 2 + q, none⟩ = false := by simp [World.frozen?, hBq.2.2]
                  have HBQ := Lib.hid (And.intro hBq.1 hBq.2.1)
                  have HRQ := Lib.hid hrq
                  clear hBq hrq HPR
                  go_wp2_with fail
                  refine (tnum_r w0 wi base B rq.2.1 rq.2.2 HE.out.rd.tap F (2 + q) HBQ.out.1 HBQ.out.2 _ kc kz).mono ?_
                  rintro e x4 ⟨rfl, hT4, hW4⟩
                  rw [HF.out] at hW4
                  have HE4 := Lib.hid (HE.out.reg hq16 hT4 hW4)
                  clear hT4 hW4 kc kz HE
                  go_wp2_with fail
                  refine ⟨⟨q + 1, by omega, by simp, ?_⟩, by simp [intOf]; omega⟩
                  have h9 := HE4.out
                  rw [HRQ.out] at h9
                  rw [numsF_set _ _ 16 q hq16] at h9
                  exact Lib.hid h9
                · obtain rfl : q = 16 := by omega
                  obtain ⟨q4, hq4⟩ : ∃ r, r = numsF 16 q3.2.1 q3.2.2 := ⟨_, rfl⟩
                  have hm4 : q4.2.2.length ≤ 140737488355328 := by rw [hq4]; exact Nat.le_trans (numsF_rest _ _ _) hm3
                  rw [← hq4] at HE
                  have HD4 : Hid (InC w0 wi base B M E q4.2.1 q4.2.2 tb Va clb s2 k ⟨q1.1, q2.1, q4.1, [], [], [], q3.1⟩ cv) := Lib.hid (by have h9 := HE.out; rw [Nat.sub_self, List.replicate_zero, List.append_nil] at h9; exact h9)
                  have HQ4 := Lib.hid hq4
                  clear HE hq4
                  go_wp2_with fail
                  obtain ⟨q5, hq5⟩ : ∃ r, r = listF q4.2.1 q4.2.2 := ⟨_, rfl⟩
                  have hm5 : q5.2.2.length ≤ 140737488355328 := by rw [hq5]; exact Nat.le_trans (listF_rest _ _) hm4
                  have hB5 := HD4.out.blk
                  rw [← HF.out] at hB5
                  have HPR : _ = 16 := HD4.out.pr.rl
                  obtain ⟨la5, lc5, hs5, hle5, hmx5⟩ := oshape HD4.out.pr.sl.own
                  have e5 := (fL_tail _ cv HPR).1
                  rw [← fC_at] at e5
                  have e5' := e5
                  rw [show cv.sv = _ from hs5] at e5'
                  refine (tlist_r w0 wi base B q4.2.1 q4.2.2 HD4.out.rd.tap F 18 hB5.1 hB5.2.1 _ _ hB5.2.2 la5 _ lc5 (Nat.le_trans hle5 hmx5) e5' hm4).mono ?_
                  rintro e x5 ⟨rfl, hL5⟩
                  rw [← show cv.sv = _ from hs5, HF.out] at hL5
                  obtain ⟨t5c, cv5, bcv5, hN5⟩ := HD4.out.slots hL5
                  rw [← hq5] at hN5
                  have HD5 : Hid (InC w0 x5 base B M E q5.2.1 q5.2.2 t5c Va clb s2 k ⟨q1.1, q2.1, q4.1, q5.1.getD [], [], [], q3.1⟩ cv5) := Lib.hid hN5
                  have HQ5 := Lib.hid hq5
                  clear HD4 hL5 hN5 hs5 e5 e5' hq5 hB5 HPR hle5 hmx5
                  go_wp2_with fail
                  obtain ⟨q6, hq6⟩ : ∃ r, r = listF q5.2.1 q5.2.2 := ⟨_, rfl⟩
                  have hm6 : q6.2.2.length ≤ 140737488355328 := by rw [hq6]; exact Nat.le_trans (listF_rest _ _) hm5
                  have hB6 := HD5.out.blk
                  rw [bcv5, ← HF.out] at hB6
                  have HPR : _ = 16 := HD5.out.pr.rl
                  obtain ⟨la6, lc6, hs6, hle6, hmx6⟩ := oshape HD5.out.pr.ar.own
                  have e6 := (fL_tail _ cv5 HPR).2.1
                  rw [← fC_at] at e6
                  have e6' := e6
                  rw [show cv5.av = _ from hs6] at e6'
                  refine (tlist_r w0 x5 base B q5.2.1 q5.2.2 HD5.out.rd.tap F 19 hB6.1 hB6.2.1 _ _ hB6.2.2 la6 _ lc6 (Nat.le_trans hle6 hmx6) e6' hm5).mono ?_
                  rintro e x6 ⟨rfl, hL6⟩
                  rw [← show cv5.av = _ from hs6, HF.out, ← bcv5] at hL6
                  obtain ⟨t6c, cv6, bcv6, hN6⟩ := HD5.out.args hL6
                  rw [bcv5] at bcv6
                  rw [← hq6] at hN6
                  have HD6 : Hid (InC w0 x6 base B M E q6.2.1 q6.2.2 t6c Va clb s2 k ⟨q1.1, q2.1, q4.1, q5.1.getD [], q6.1.getD [], [], q3.1⟩ cv6) := Lib.hid hN6
                  have HQ6 := Lib.hid hq6
                  clear HD5 hL6 hN6 hs6 e6 e6' hq6 hB6 HPR hle6 hmx6
                  go_wp2_with fail
                  obtain ⟨q7, hq7⟩ : ∃ r, r = listF q6.2.1 q6.2.2 := ⟨_, rfl⟩
                  have hm7 : q7.2.2.length ≤ 140737488355328 := by rw [hq7]; exact Nat.le_trans (listF_rest _ _) hm6
                  have hB7 := HD6.out.blk
                  rw [bcv6, ← HF.out] at hB7
                  have HPR : _ = 16 := HD6.out.pr.rl
                  obtain ⟨la7, lc7, hs7, hle7, hmx7⟩ := oshape HD6.out.pr.rd.own
                  have e7 := (fL_tail _ cv6 HPR).2.2.1
                  rw [← fC_at] at e7
                  have e7' := e7
                  rw [show cv6.yv = _ from hs7] at e7'
                  refine (tlist_r w0 x6 base B q6.2.1 q6.2.2 HD6.out.rd.tap F 20 hB7.1 hB7.2.1 _ _ hB7.2.2 la7 _ lc7 (Nat.le_trans hle7 hmx7) e7' hm6).mono ?_
                  rintro e x7 ⟨rfl, hL7⟩
                  rw [← show cv6.yv = _ from hs7, HF.out, ← bcv6] at hL7
                  obtain ⟨t7c, cv7, bcv7, hN7⟩ := HD6.out.ready hL7
                  rw [bcv6] at bcv7
                  rw [← hq7] at hN7
                  have HD7 : Hid (InC w0 x7 base B M E q7.2.1 q7.2.2 t7c Va clb s2 k ⟨q1.1, q2.1, q4.1, q5.1.getD [], q6.1.getD [], q7.1.getD [], q3.1⟩ cv7) := Lib.hid hN7
                  have HQ7 := Lib.hid hq7
                  clear HD6 hL7 hN7 hs7 e7 e7' hq7 hB7 HPR hle7 hmx7
                  go_wp2_with fail
                  refine ⟨⟨k + 1, by omega, by simp, ?_⟩, by simp [intOf]; omega⟩
                  have e9 := frF_of HQ1.out HQ2.out HQ3.out HQ4.out HQ5.out HQ6.out HQ7.out
                  have h9 := HD7.out.rd
                  rw [HRK.out] at e9
                  exact Lib.hid (CLp.step hkj hclb (by rw [HMP.out, HRK.out]) HS2.out e9 h9)
            · obtain rfl : k = j := by omega
              go_wp2_with fail
              obtain ⟨tb, clb, hclb, hmap, hrd⟩ := HK.out
              rw [Nat.sub_self, List.replicate_zero, List.append_nil] at hmap
              rw [hmap] at hrd
              have hxn : ¬ (r9.1 < 0 ∨ 100 < r9.1) := by rw [← HX.out]; omega
              have e : allF p s = ({ s1 with opn := (frsF k r9.2.1 r9.2.2).1 }, (frsF k r9.2.1 r9.2.2).2) := by
                unfold allF
                dsimp only
                rw [← HR1.out, ← HR2.out, ← HR3.out, ← HR4.out, ← HR5.out, ← HR6.out, ← HR7.out, ← HR8.out, ← HR9.out, if_neg hxn, ← HX.out, Int.toNat_natCast, HS1.out]
              refine bodyPost_end (results_none rfl _ _ _) rfl ⟨rfl, tb, Va, clb, ?_⟩
              rw [e]
              exact hrd
end Go.Proofs.Ytgjmdcbdkdmceaa.Mach
