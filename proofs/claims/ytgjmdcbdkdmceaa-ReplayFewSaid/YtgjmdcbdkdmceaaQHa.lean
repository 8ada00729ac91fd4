/- The program's machine in memory: which block belongs to what, and what stays of it. -/
import Derived.Test.YtgjmdcbdkdmceaaQ16
namespace Go.Proofs.Ytgjmdcbdkdmceaa.Mach
open Go.RowKit

/-- Where a call's parts lie: its own block; its slots, its arguments, what is laid ready. -/
structure FV where
  blk : Nat
  sv : Value
  av : Value
  yv : Value
def fL (f : Fr) (c : FV) : List Value := .int .i64 f.fn :: .int .i64 f.next :: (intsV f.regs ++ [c.sv, c.av, c.yv, .int .u8 f.dst])
def fC (f : Fr) (c : FV) : Array Value := ⟨fL f c⟩
theorem fC_set (f : Fr) (c : FV) (i : Nat) (v : Value) : (fC f c).setIfInBounds i v = ⟨(fL f c).set i v⟩ := by simp [fC]
theorem fC_at (f : Fr) (c : FV) (i : Nat) : (fC f c)[i]? = (fL f c)[i]? := by simp [fC]
theorem fL_fn (f : Fr) (c : FV) : (fL f c)[0]? = some (.int .i64 f.fn) ∧ (fL f c)[1]? = some (.int .i64 f.next) := ⟨rfl, rfl⟩
theorem fL_reg (f : Fr) (c : FV) (h : f.regs.length = 16) (j : Nat) (hj : j < 16) : (fL f c)[2 + j]? = some (.int .i64 (f.regs.getD j 0)) := by
  have e : 2 + j = j + 1 + 1 := by omega
  rw [e]
  show ((intsV f.regs ++ [c.sv, c.av, c.yv, .int .u8 f.dst]))[j]? = _
  rw [List.getElem?_append_left (by simp [intsV]; omega)]
  exact intsV_at (by omega)
theorem fL_tail (f : Fr) (c : FV) (h : f.regs.length = 16) : (fL f c)[18]? = some c.sv ∧ (fL f c)[19]? = some c.av ∧ (fL f c)[20]? = some c.yv ∧ (fL f c)[21]? = some (.int .u8 f.dst) := by
  have e : ∀ k, (fL f c)[18 + k]? = ([c.sv, c.av, c.yv, .int .u8 f.dst] : List Value)[k]? := fun k => by
    have e1 : 18 + k = (16 + k) + 1 + 1 := by omega
    rw [e1]
    show ((intsV f.regs ++ [c.sv, c.av, c.yv, .int .u8 f.dst]))[16 + k]? = _
    rw [List.getElem?_append_right (by simp [intsV]; omega)]
    congr 1; simp [intsV]; omega
  exact ⟨e 0, e 1, e 2, e 3⟩
theorem fC_next (f : Fr) (c : FV) (n : Int) : (fC f c).setIfInBounds 1 (.int .i64 n) = fC { f with next := n } c := by rw [fC_set]; rfl
theorem fC_reg (f : Fr) (c : FV) (h : f.regs.length = 16) (j : Nat) (hj : j < 16) (x : Int) : (fC f c).setIfInBounds (2 + j) (.int .i64 x) = fC { f with regs := f.regs.set j x } c := by
  rw [fC_set]
  have e : 2 + j = j + 1 + 1 := by omega
  rw [e]
  show (⟨.int .i64 f.fn :: .int .i64 f.next :: (intsV f.regs ++ [c.sv, c.av, c.yv, .int .u8 f.dst]).set j (.int .i64 x)⟩ : Array Value) = _
  rw [List.set_append_left _ _ (by simp [intsV]; omega), intsV_set]
  rfl
theorem fC_ready (f : Fr) (c : FV) (h : f.regs.length = 16) (y : List Int) (v : Value) : (fC f c).setIfInBounds 20 v = fC { f with ready := y } { c with yv := v } := by
  rw [fC_set]
  show (⟨.int .i64 f.fn :: .int .i64 f.next :: (intsV f.regs ++ [c.sv, c.av, c.yv, .int .u8 f.dst]).set 18 v⟩ : Array Value) = _
  rw [List.set_append_right _ _ (by simp [intsV]; omega)]
  have e : 18 - (intsV f.regs).length = 2 := by simp [intsV]; omega
  rw [e]
  rfl
def ptrC (l : List (Fr × FV)) : List Value := l.map fun p => .pointer (some ⟨p.2.blk, 0, none⟩)
theorem ptrC_length (l : List (Fr × FV)) : (ptrC l).length = l.length := by simp [ptrC]
theorem ptrC_snoc (l : List (Fr × FV)) (p : Fr × FV) : ptrC (l ++ [p]) = ptrC l ++ [.pointer (some ⟨p.2.blk, 0, none⟩)] := by simp [ptrC]

structure PRep (w : World) (t : Nat → Nat) (base i : Nat) (p : Fr × FV) : Prop where
  fb : w.heap[p.2.blk]? = some (.cells (fC p.1 p.2) 111 (0, 0))
  tf : t p.2.blk = 7 + 4 * i
  rl : p.1.regs.length = 16
  sl : Row w t base 2 1 p.2.sv p.1.slots.length (intsV p.1.slots) (8 + 4 * i)
  ar : Row w t base 2 1 p.2.av p.1.args.length (intsV p.1.args) (9 + 4 * i)
  rd : Row w t base 2 1 p.2.yv p.1.ready.length (intsV p.1.ready) (10 + 4 * i)
def PAll (w : World) (t : Nat → Nat) (base : Nat) (l : List (Fr × FV)) : Prop := ∀ i p, l[i]? = some p → PRep w t base i p
section
variable {w w' : World} {t t' : Nat → Nat} {base c i : Nat} {p : Fr × FV} {l : List (Fr × FV)}
theorem PRep.trn (h : PRep w t base i p) (T : Trn w w' t t' c base) (hc : c < 7 + 4 * i ∨ 11 + 4 * i ≤ c) : PRep w' t' base i p := by
  obtain ⟨b1, b2⟩ := T.blks p.2.blk (Array.getElem?_eq_some_iff.1 h.fb).1 (by rw [h.tf]; omega)
  exact ⟨b1.trans h.fb, b2.trans h.tf, h.rl, T.rows h.sl (by omega), T.rows h.ar (by omega), T.rows h.rd (by omega)⟩
theorem PRep.lt (h : PRep w t base i p) : p.2.blk < w.heap.size := (Array.getElem?_eq_some_iff.1 h.fb).1
theorem PRep.frz (h : PRep w t base i p) (j : Nat) : w.frozen? ⟨p.2.blk, j, none⟩ = false := by simp [World.frozen?, h.fb]
theorem PRep.cellF (h : PRep w t base i p) (j : Nat) : w.cell? ⟨p.2.blk, j, none⟩ = (fL p.1 p.2)[j]? := by
  rw [← fC_at]; simp [World.cell?, h.fb]
theorem PAll.trn (h : PAll w t base l) (T : Trn w w' t t' c base) (hc : c < 7 ∨ 7 + 4 * l.length ≤ c) : PAll w' t' base l := fun i p hp =>
  (h i p hp).trn T (by have := (List.getElem?_eq_some_iff.1 hp).1; omega)
theorem PAll.snoc (h : PAll w t base l) (hp : PRep w t base l.length p) : PAll w t base (l ++ [p]) := fun i q hq => by
  rcases Nat.lt_or_ge i l.length with hi | hi
  · rw [List.getElem?_append_left hi] at hq; exact h i q hq
  · rw [List.getElem?_append_right hi] at hq
    obtain ⟨h1, h2⟩ := List.getElem?_eq_some_iff.1 hq
    have : i = l.length := by simp at h1; omega
    subst this
    simp at h2
    exact h2 ▸ hp
theorem PAll.init (h : PAll w t base (l ++ [p])) : PAll w t base l := fun i q hq => h i q (by
  rw [List.getElem?_append_left (List.getElem?_eq_some_iff.1 hq).1]; exact hq)
theorem PAll.last (h : PAll w t base (l ++ [p])) : PRep w t base l.length p := h _ _ (by simp)
end

/-- Where the machine has its parts. -/
structure MV where
  wv : Value
  ev : Value
  mn : Int
  dv : Value
  iv : Value
  ov : Value
  hv : Value
  xv : Value
def mC (V : MV) (s : St) : Array Value :=
  #[V.wv, V.ev, .int .i64 V.mn, V.dv, V.iv, V.ov, V.hv, .int .i64 s.steps, .int .u8 s.end_, .int .i64 s.exit, V.xv, .int .i64 s.read, .int .i64 0, .int .i64 s.marks, .int .i64 s.at_]
structure MRep (w : World) (t : Nat → Nat) (base M : Nat) (E : Env) (V : MV) (cl : List (Fr × FV)) (s : St) : Prop where
  hm : w.heap[M]? = some (.cells (mC V s) 89 (0, 0))
  tm : t M = 3
  env : EnvO w t V.wv V.ev V.iv E
  opn : s.opn = cl.map Prod.fst
  ho : Row w t base 90 1 V.ov cl.length (ptrC cl) 4
  hh : Row w t base 2 1 V.hv s.heap.length (intsV s.heap) 5
  hx : Row w t base 2 1 V.xv s.outs.length (intsV s.outs) 6
  fr : PAll w t base cl
  lt : ∀ k, t k ≠ 0 → k < w.heap.size
  ge : ∀ k, 2 < t k → base ≤ k ∧ base ≤ w.heap.size
theorem mC_get (V : MV) (s : St) : (mC V s)[0]? = some V.wv ∧ (mC V s)[1]? = some V.ev ∧ (mC V s)[4]? = some V.iv ∧ (mC V s)[5]? = some V.ov ∧ (mC V s)[6]? = some V.hv ∧ (mC V s)[7]? = some (.int .i64 s.steps) ∧ (mC V s)[8]? = some (.int .u8 s.end_) ∧ (mC V s)[9]? = some (.int .i64 s.exit) ∧ (mC V s)[10]? = some V.xv ∧
    (mC V s)[11]? = some (.int .i64 s.read) ∧ (mC V s)[13]? = some (.int .i64 s.marks) ∧ (mC V s)[14]? = some (.int .i64 s.at_) ∧ (mC V s)[12]? = some (.int .i64 0) := by simp [mC]
/-- What a call leaves of the machine. -/
def MPost (w : World) (t : Nat → Nat) (base M : Nat) (E : Env) (s' : St) (w' : World) : Prop := ∃ t' V' cl', MRep w' t' base M E V' cl' s' ∧ Fx w w' t t'
section
variable {w w' w1 : World} {t t1 : Nat → Nat} {base M : Nat} {E : Env} {V : MV} {cl ol : List (Fr × FV)} {f : Fr} {cv : FV} {s s' : St} {v' : Value}
theorem MPost.before {w0 : World} {t0 : Nat → Nat} (hf : Fx w w0 t t0) (h : MPost w0 t0 base M E s' w') : MPost w t base M E s' w' := by
  obtain ⟨t', V', cl', h1, h2⟩ := h
  exact ⟨t', V', cl', h1, hf.trans h2⟩
theorem MRep.cellM (h : MRep w t base M E V cl s) (i : Nat) : w.cell? ⟨M, i, none⟩ = (mC V s)[i]? := by simp [World.cell?, h.hm]
theorem MRep.frzM (h : MRep w t base M E V cl s) (i : Nat) : w.frozen? ⟨M, i, none⟩ = false := by simp [World.frozen?, h.hm]
theorem MRep.ltM (h : MRep w t base M E V cl s) : M < w.heap.size := (Array.getElem?_eq_some_iff.1 h.hm).1
theorem MRep.bs (h : MRep w t base M E V cl s) : base ≤ w.heap.size := (h.ge M (by rw [h.tm]; omega)).2
/-- The machine's own block turns, or nothing. -/
theorem MRep.setM (h : MRep w t base M E V cl s) (ho : Only w w' t 3) (hm : w'.heap[M]? = some (.cells (mC V s') 89 (0, 0)))
    (e1 : s'.opn = s.opn) (e2 : s'.heap = s.heap) (e3 : s'.outs = s.outs) : MRep w' t base M E V cl s' := by
  have T : Trn w w' t t 3 base := Trn.only ho (by omega)
  exact ⟨hm, h.tm, h.env.fx T.fx, e1.trans h.opn, T.rows h.ho (by omega), by rw [e2]; exact T.rows h.hh (by omega), by rw [e3]; exact T.rows h.hx (by omega), h.fr.trn T (.inl (by omega)), T.lt h.lt, T.ge h.ge⟩
theorem MRep.steps' (h : MRep w t base M E V cl s) (x : Int) : MRep (w.setCell ⟨M, 7, none⟩ (.int .i64 x)) t base M E V cl { s with steps := x } :=
  h.setM (Only.set _ h.tm) (by rw [heap_set h.hm]; simp [mC]) rfl rfl rfl
theorem MRep.end' (h : MRep w t base M E V cl s) (x : Int) : MRep (w.setCell ⟨M, 8, none⟩ (.int .u8 x)) t base M E V cl (s.ends x) :=
  h.setM (Only.set _ h.tm) (by rw [heap_set h.hm]; simp [mC, St.ends]) rfl rfl rfl
theorem MRep.exit' (h : MRep w t base M E V cl s) (x : Int) : MRep (w.setCell ⟨M, 9, none⟩ (.int .i64 x)) t base M E V cl { s with exit := x } :=
  h.setM (Only.set _ h.tm) (by rw [heap_set h.hm]; simp [mC]) rfl rfl rfl
theorem MRep.read' (h : MRep w t base M E V cl s) (x : Int) : MRep (w.setCell ⟨M, 11, none⟩ (.int .i64 x)) t base M E V cl { s with read := x } :=
  h.setM (Only.set _ h.tm) (by rw [heap_set h.hm]; simp [mC]) rfl rfl rfl
theorem MRep.marks' (h : MRep w t base M E V cl s) (x : Int) : MRep (w.setCell ⟨M, 13, none⟩ (.int .i64 x)) t base M E V cl { s with marks := x } :=
  h.setM (Only.set _ h.tm) (by rw [heap_set h.hm]; simp [mC]) rfl rfl rfl
theorem MRep.at' (h : MRep w t base M E V cl s) (x : Int) : MRep (w.setCell ⟨M, 14, none⟩ (.int .i64 x)) t base M E V cl { s with at_ := x } :=
  h.setM (Only.set _ h.tm) (by rw [heap_set h.hm]; simp [mC]) rfl rfl rfl
theorem MRep.below (h : MRep w t base M E V cl s) (hb : Below w.heap.size w w') : MRep w' t base M E V cl s := by
  have T : Trn w w' t t 0 base := Trn.below hb
  have T' : ∀ c, Trn w w' t t c base := fun c => Trn.below hb
  exact ⟨(hb.block M h.ltM).trans h.hm, h.tm, h.env.fx T.fx, h.opn, T.rows h.ho (by omega), T.rows h.hh (by omega), T.rows h.hx (by omega), h.fr.trn T (.inl (by omega)), T.lt h.lt, T.ge h.ge⟩
theorem MRep.drew (h : MRep w t base M E V cl s) (n : Nat) : MRep (w.drewN n) t base M E V cl s := h.below ⟨rfl, rfl, rfl, Nat.le_refl _, fun _ _ => rfl⟩
/-- The pointers to the open calls. -/
theorem MRep.topP {p : Fr × FV} (h : MRep w t base M E V (ol ++ [p]) s) :
    ∃ ob oc, V.ov = .slice (some ⟨ob, 0, none⟩) (ol.length + 1) oc ∧ ol.length + 1 ≤ oc ∧ ob < w.heap.size ∧ t ob = 4 ∧ ob ≠ M ∧ (∀ i, w.frozen? ⟨ob, i, none⟩ = false) ∧ w.cell? ⟨ob, ol.length, none⟩ = some (.pointer (some ⟨p.2.blk, 0, none⟩)) := by
  obtain ⟨ob, oc, hov, hob, hoc, ⟨cur, hocell⟩, hoj⟩ := osplit h.ho.own (by simp)
  have tob : t ob = 4 := h.ho.tag ob (by simp [hov, Value.ownBlock])
  simp only [List.length_append, List.length_singleton] at hov hoc
  refine ⟨ob, oc, hov, hoc, hob, tob, fun e => by have := h.tm; rw [← e, tob] at this; omega, fun i => by simp [World.frozen?, hocell], ?_⟩
  refine hoj ol.length _ ?_
  rw [ptrC_snoc, List.getElem?_append_right (by rw [ptrC_length]; exact Nat.le_refl _), ptrC_length, Nat.sub_self]
  rfl
/-- A change of the innermost call's block or of a row of its. -/
theorem MRep.last {c : Nat} {p p' : Fr × FV} (h : MRep w t base M E V (ol ++ [p]) s) (T : Trn w w1 t t1 c base) (hc : 7 + 4 * ol.length ≤ c) (hp : PRep w1 t1 base ol.length p') (hb : p'.2.blk = p.2.blk) : MRep w1 t1 base M E V (ol ++ [p']) (s.top (ol.map Prod.fst) p'.1) := by
  obtain ⟨b1, b2⟩ := T.blks M h.ltM (by rw [h.tm]; omega)
  refine ⟨b1.trans h.hm, b2.trans h.tm, h.env.fx T.fx, by simp [St.top], ?_, T.rows h.hh (by omega), T.rows h.hx (by omega), PAll.snoc (h.fr.init.trn T (.inr hc)) hp, T.lt h.lt, T.ge h.ge⟩
  have h1 := T.rows h.ho (by omega)
  rw [ptrC_snoc] at h1
  rw [ptrC_snoc, hb]
  simpa using h1
theorem MRep.setF {c : Nat} (h : MRep w t base M E V (ol ++ [(f, cv)]) s) (j : Nat) (v : Value) {f' : Fr} {cv' : FV} (hs : (fC f cv).setIfInBounds j v = fC f' cv') (hb : cv'.blk = cv.blk) (hl : f'.regs.length = 16)
    (e : cv'.sv = cv.sv ∧ cv'.av = cv.av ∧ cv'.yv = cv.yv ∧ f'.slots = f.slots ∧ f'.args = f.args ∧ f'.ready = f.ready) (_hc : c = 0) :
    MRep (w.setCell ⟨cv.blk, j, none⟩ v) t base M E V (ol ++ [(f', cv')]) (s.top (ol.map Prod.fst) f') := by
  have hp := h.fr.last
  have T : Trn w (w.setCell ⟨cv.blk, j, none⟩ v) t t (7 + 4 * ol.length) base := Trn.only (Only.set v hp.tf) (by omega)
  obtain ⟨e1, e2, e3, e4, e5, e6⟩ := e
  refine h.last T (Nat.le_refl _) ⟨?_, by show t cv'.blk = _; rw [hb]; exact hp.tf, hl, ?_, ?_, ?_⟩ hb
  · show (w.setCell ⟨cv.blk, j, none⟩ v).heap[cv'.blk]? = _
    rw [hb, heap_set hp.fb, hs]
  · show Row _ t base _ 1 cv'.sv f'.slots.length (intsV f'.slots) _
    rw [e1, e4]; exact T.rows hp.sl (by omega)
  · show Row _ t base _ 1 cv'.av f'.args.length (intsV f'.args) _
    rw [e2, e5]; exact T.rows hp.ar (by omega)
  · show Row _ t base _ 1 cv'.yv f'.ready.length (intsV f'.ready) _
    rw [e3, e6]; exact T.rows hp.rd (by omega)
theorem MRep.next' (h : MRep w t base M E V (ol ++ [(f, cv)]) s) (n : Int) : MRep (w.setCell ⟨cv.blk, 1, none⟩ (.int .i64 n)) t base M E V (ol ++ [({ f with next := n }, cv)]) (s.top (ol.map Prod.fst) { f with next := n }) :=
  h.setF (c := 0) 1 _ (fC_next f cv n) rfl h.fr.last.rl ⟨rfl, rfl, rfl, rfl, rfl, rfl⟩ rfl
theorem MRep.reg (h : MRep w t base M E V (ol ++ [(f, cv)]) s) (j : Nat) (hj : j < 16) (x : Int) : MRep (w.setCell ⟨cv.blk, 2 + j, none⟩ (.int .i64 x)) t base M E V (ol ++ [({ f with regs := f.regs.set j x }, cv)]) (s.top (ol.map Prod.fst) { f with regs := f.regs.set j x }) :=
  h.setF (c := 0) (2 + j) _ (fC_reg f cv h.fr.last.rl j hj x) rfl (by show (f.regs.set j x).length = 16; rw [List.length_set]; exact h.fr.last.rl) ⟨rfl, rfl, rfl, rfl, rfl, rfl⟩ rfl
theorem MRep.slot (h : MRep w t base M E V (ol ++ [(f, cv)]) s) {sb sn sc : Nat} (hsv : cv.sv = .slice (some ⟨sb, 0, none⟩) sn sc) (j : Nat) (x : Int) :
    MRep (w.setCell ⟨sb, j, none⟩ (.int .i64 x)) t base M E V (ol ++ [({ f with slots := f.slots.set j x }, cv)]) (s.top (ol.map Prod.fst) { f with slots := f.slots.set j x }) := by
  have hl := h.fr.last
  have tg : t sb = 8 + 4 * ol.length := hl.sl.tag sb (by show cv.sv.ownBlock = _; rw [hsv]; rfl)
  have T : Trn w (w.setCell ⟨sb, j, none⟩ (.int .i64 x)) t t (8 + 4 * ol.length) base := Trn.only (Only.set _ tg) (by omega)
  have h1 := hl.sl.own
  obtain ⟨a, cc, hsh, _, _⟩ := oshape h1
  simp only [hsv, Value.slice.injEq] at hsh
  obtain ⟨rfl, rfl, rfl⟩ := hsh
  obtain ⟨b1, b2⟩ := T.blks cv.blk hl.lt (by rw [hl.tf]; omega)
  refine h.last (p' := ({ f with slots := f.slots.set j x }, cv)) T (by omega) ⟨b1.trans hl.fb, hl.tf, hl.rl, ⟨?_, hl.sl.tag⟩, T.rows hl.ar (by omega), T.rows hl.rd (by omega)⟩ rfl
  simp only [hsv, List.length_set] at h1 ⊢
  have h2 := oset h1 j (.int .i64 x)
  rwa [intsV_set] at h2
theorem MRep.cell (h : MRep w t base M E V cl s) {hb hn hc : Nat} (hhv : V.hv = .slice (some ⟨hb, 0, none⟩) hn hc) (j : Nat) (x : Int) :
    MRep (w.setCell ⟨hb, j, none⟩ (.int .i64 x)) t base M E V cl { s with heap := s.heap.set j x } := by
  have tg : t hb = 5 := h.hh.tag hb (by rw [hhv]; rfl)
  have T : Trn w (w.setCell ⟨hb, j, none⟩ (.int .i64 x)) t t 5 base := Trn.only (Only.set _ tg) (by omega)
  have h1 := h.hh.own
  obtain ⟨a, cc, hsh, _, _⟩ := oshape h1
  simp only [hhv, Value.slice.injEq] at hsh
  obtain ⟨rfl, rfl, rfl⟩ := hsh
  obtain ⟨b1, b2⟩ := T.blks M h.ltM (by rw [h.tm]; omega)
  refine ⟨b1.trans h.hm, h.tm, h.env.fx T.fx, h.opn, T.rows h.ho (by omega), ⟨?_, h.hh.tag⟩, T.rows h.hx (by omega), h.fr.trn T (.inl (by omega)), T.lt h.lt, T.ge h.ge⟩
  simp only [hhv, List.length_set] at h1 ⊢
  have h2 := oset h1 j (.int .i64 x)
  rwa [intsV_set] at h2
/-- The heap has a new row. -/
theorem MRep.newHeap (h : MRep w t base M E V cl s) (T : Trn w w1 t t1 5 base) {hp' : List Int} (hr : Row w1 t1 base 2 1 v' hp'.length (intsV hp') 5) :
    MRep (w1.setCell ⟨M, 6, none⟩ v') t1 base M E { V with hv := v' } cl { s with heap := hp' } ∧ Fx w (w1.setCell ⟨M, 6, none⟩ v') t t1 := by
  obtain ⟨b1, b2⟩ := T.blks M h.ltM (by rw [h.tm]; omega)
  have hm1 := b1.trans h.hm
  have tm1 : t1 M = 3 := b2.trans h.tm
  have S : Trn w1 (w1.setCell ⟨M, 6, none⟩ v') t1 t1 3 base := Trn.only (Only.set v' tm1) (by omega)
  have F := T.fx.trans S.fx
  refine ⟨⟨?_, tm1, h.env.fx F, h.opn, S.rows (T.rows h.ho (by omega)) (by omega), S.rows hr (by omega), S.rows (T.rows h.hx (by omega)) (by omega), (h.fr.trn T (.inl (by omega))).trn S (.inl (by omega)), S.lt (T.lt h.lt), S.ge (T.ge h.ge)⟩, F⟩
  rw [heap_set hm1]
  simp [mC]
/-- What was printed has a new row. -/
theorem MRep.newOuts (h : MRep w t base M E V cl s) (T : Trn w w1 t t1 6 base) {x' : List Int} (hr : Row w1 t1 base 2 1 v' x'.length (intsV x') 6) :
    MRep (w1.setCell ⟨M, 10, none⟩ v') t1 base M E { V with xv := v' } cl { s with outs := x' } ∧ Fx w (w1.setCell ⟨M, 10, none⟩ v') t t1 := by
  obtain ⟨b1, b2⟩ := T.blks M h.ltM (by rw [h.tm]; omega)
  have hm1 := b1.trans h.hm
  have tm1 : t1 M = 3 := b2.trans h.tm
  have S : Trn w1 (w1.setCell ⟨M, 10, none⟩ v') t1 t1 3 base := Trn.only (Only.set v' tm1) (by omega)
  have F := T.fx.trans S.fx
  refine ⟨⟨?_, tm1, h.env.fx F, h.opn, S.rows (T.rows h.ho (by omega)) (by omega), S.rows (T.rows h.hh (by omega)) (by omega), S.rows hr (by omega), (h.fr.trn T (.inl (by omega))).trn S (.inl (by omega)), S.lt (T.lt h.lt), S.ge (T.ge h.ge)⟩, F⟩
  rw [heap_set hm1]
  simp [mC]
/-- What is laid ready has a new row. -/
theorem MRep.newReady (h : MRep w t base M E V (ol ++ [(f, cv)]) s) (T : Trn w w1 t t1 (10 + 4 * ol.length) base) {y' : List Int} (hr : Row w1 t1 base 2 1 v' y'.length (intsV y') (10 + 4 * ol.length)) :
    MRep (w1.setCell ⟨cv.blk, 20, none⟩ v') t1 base M E V (ol ++ [({ f with ready := y' }, { cv with yv := v' })]) (s.top (ol.map Prod.fst) { f with ready := y' }) ∧ Fx w (w1.setCell ⟨cv.blk, 20, none⟩ v') t t1 := by
  have hl := h.fr.last
  obtain ⟨b1, b2⟩ := T.blks cv.blk hl.lt (by rw [hl.tf]; omega)
  have fb1 := b1.trans hl.fb
  have tf1 : t1 cv.blk = 7 + 4 * ol.length := b2.trans hl.tf
  have S : Trn w1 (w1.setCell ⟨cv.blk, 20, none⟩ v') t1 t1 (7 + 4 * ol.length) base := Trn.only (Only.set v' tf1) (by omega)
  have F := T.fx.trans S.fx
  obtain ⟨c1, c2⟩ := T.blks M h.ltM (by rw [h.tm]; omega)
  obtain ⟨d1, d2⟩ := S.blks M (Nat.lt_of_lt_of_le h.ltM T.fx.size) (by rw [c2, h.tm]; omega)
  refine ⟨⟨d1.trans (c1.trans h.hm), c2.trans h.tm, h.env.fx F, by simp [St.top], ?_, S.rows (T.rows h.hh (by omega)) (by omega), S.rows (T.rows h.hx (by omega)) (by omega), PAll.snoc ((h.fr.init.trn T (.inr (by omega))).trn S (.inr (Nat.le_refl _))) ?_, S.lt (T.lt h.lt), S.ge (T.ge h.ge)⟩, F⟩
  · have h1 := S.rows (T.rows h.ho (by omega)) (by omega)
    rw [ptrC_snoc] at h1
    rw [ptrC_snoc]
    simpa using h1
  · refine ⟨?_, tf1, hl.rl, S.rows (T.rows hl.sl (by show _ ≠ _; omega)) (by omega), S.rows (T.rows hl.ar (by omega)) (by omega), S.rows hr (by omega)⟩
    show (w1.setCell ⟨cv.blk, 20, none⟩ v').heap[cv.blk]? = _
    rw [heap_set fb1]
    show some (Obj.cells ((fC f cv).setIfInBounds 20 v') _ _) = _
    rw [fC_ready f cv hl.rl y' v']
/-- What was laid ready is taken. -/
theorem MRep.takeReady (h : MRep w t base M E V (ol ++ [(f, cv)]) s) :
    (MRep (w.setCell ⟨cv.blk, 20, none⟩ (.slice none 0 0)) (updV t cv.yv (13 + 4 * ol.length)) base M E V (ol ++ [({ f with ready := [] }, { cv with yv := .slice none 0 0 })]) (s.top (ol.map Prod.fst) { f with ready := [] }) ∧ Fx w (w.setCell ⟨cv.blk, 20, none⟩ (.slice none 0 0)) t (updV t cv.yv (13 + 4 * ol.length))) ∧
    Row (w.setCell ⟨cv.blk, 20, none⟩ (.slice none 0 0)) (updV t cv.yv (13 + 4 * ol.length)) base 2 1 cv.yv f.ready.length (intsV f.ready) (13 + 4 * ol.length) := by
  have hl := h.fr.last
  have T : Trn w w t (updV t cv.yv (13 + 4 * ol.length)) (10 + 4 * ol.length) base := Trn.retag hl.rd.tag (fun g hg => (hl.rd.lt g hg).1) (by omega) (by omega) h.ge
  refine ⟨h.newReady T (y' := []) (Row.nil _ _ _ _ _ _), ?_⟩
  have r0 : Row w (updV t cv.yv (13 + 4 * ol.length)) base 2 1 cv.yv f.ready.length (intsV f.ready) (13 + 4 * ol.length) := ⟨hl.rd.own, updV_self _ _ _⟩
  have tob1 : updV t cv.yv (13 + 4 * ol.length) cv.blk = 7 + 4 * ol.length := by rw [(T.blks cv.blk hl.lt (by rw [hl.tf]; omega)).2]; exact hl.tf
  exact r0.only (Only.set _ tob1) (by omega)
/-- The innermost call is over. -/
theorem MRep.pop {p : Fr × FV} (h : MRep w t base M E V (ol ++ [p]) s) {ob oc : Nat} (hov : V.ov = .slice (some ⟨ob, 0, none⟩) (ol.length + 1) oc) :
    MRep (w.setCell ⟨M, 5, none⟩ (.slice (some ⟨ob, 0, none⟩) ol.length oc)) t base M E { V with ov := .slice (some ⟨ob, 0, none⟩) ol.length oc } ol { s with opn := ol.map Prod.fst } := by
  have S : Trn w (w.setCell ⟨M, 5, none⟩ (.slice (some ⟨ob, 0, none⟩) ol.length oc)) t t 3 base := Trn.only (Only.set _ h.tm) (by omega)
  have hr : Row w t base 90 1 (.slice (some ⟨ob, 0, none⟩) ol.length oc) ol.length (ptrC ol) 4 := by
    have h1 := h.ho
    rw [hov] at h1
    have h3 := h1.own
    rw [List.length_append, List.length_singleton] at h3
    have h2 := ocut h3 (k := ol.length) (by omega)
    rw [ptrC_snoc, Nat.mul_one, ← ptrC_length ol, List.take_left, ptrC_length] at h2
    exact ⟨h2, fun k hk => h1.tag k hk⟩
  refine ⟨?_, h.tm, h.env.fx S.fx, rfl, S.rows hr (by omega), S.rows h.hh (by omega), S.rows h.hx (by omega), h.fr.init.trn S (.inl (by omega)), S.lt h.lt, S.ge h.ge⟩
  rw [heap_set h.hm]
  simp [mC]
/-- A call more. -/
theorem MRep.push (h : MRep w t base M E V cl s) (T : Trn w w1 t t1 4 base) {p : Fr × FV} (hr : Row w1 t1 base 90 1 v' (cl.length + 1) (ptrC (cl ++ [p])) 4) (hp : PRep w1 t1 base cl.length p) :
    MRep (w1.setCell ⟨M, 5, none⟩ v') t1 base M E { V with ov := v' } (cl ++ [p]) { s with opn := s.opn ++ [p.1] } ∧ Fx w (w1.setCell ⟨M, 5, none⟩ v') t t1 := by
  obtain ⟨b1, b2⟩ := T.blks M h.ltM (by rw [h.tm]; omega)
  have hm1 := b1.trans h.hm
  have tm1 : t1 M = 3 := b2.trans h.tm
  have S : Trn w1 (w1.setCell ⟨M, 5, none⟩ v') t1 t1 3 base := Trn.only (Only.set v' tm1) (by omega)
  have F := T.fx.trans S.fx
  refine ⟨⟨?_, tm1, h.env.fx F, by simp [h.opn], ?_, S.rows (T.rows h.hh (by omega)) (by omega), S.rows (T.rows h.hx (by omega)) (by omega), PAll.snoc ((h.fr.trn T (.inl (by omega))).trn S (.inl (by omega))) (hp.trn S (.inl (by omega))), S.lt (T.lt h.lt), S.ge (T.ge h.ge)⟩, F⟩
  · rw [heap_set hm1]
    simp [mC]
  · rw [List.length_append, List.length_singleton]
    exact S.rows hr (by omega)
/-- New blocks are told to be the machine's. -/
theorem MRep.claimT (h : MRep w t base M E V cl s) (hb : Below w.heap.size w w1) (h1 : ∀ k, k < w.heap.size → t1 k = t k) (h2 : ∀ k, t1 k ≠ 0 → k < w1.heap.size) : MRep w1 t1 base M E V cl s ∧ Fx w w1 t t1 := by
  have F : Fx w w1 t t1 := ⟨hb.os, hb.tape, hb.output, hb.size, fun k hk _ => hb.block k hk, fun k hk => by rw [h1 k hk]; exact ⟨fun _ => rfl, fun h => h⟩⟩
  have hM : M < w.heap.size := h.ltM
  have hB := h.bs
  refine ⟨⟨(hb.block M hM).trans h.hm, by rw [h1 M hM]; exact h.tm, h.env.fx F, h.opn, Row.claimT h.ho hb h1, Row.claimT h.hh hb h1, Row.claimT h.hx hb h1, fun i p hp => ?_, h2, fun k hk => ⟨?_, Nat.le_trans hB hb.size⟩⟩, F⟩
  · have c := h.fr i p hp
    exact ⟨(hb.block _ c.lt).trans c.fb, by rw [h1 _ c.lt]; exact c.tf, c.rl, Row.claimT c.sl hb h1, Row.claimT c.ar hb h1, Row.claimT c.rd hb h1⟩
  · by_cases e : k < w.heap.size
    · rw [h1 k e] at hk; exact (h.ge k hk).1
    · omega
end
end Go.Proofs.Ytgjmdcbdkdmceaa.Mach
