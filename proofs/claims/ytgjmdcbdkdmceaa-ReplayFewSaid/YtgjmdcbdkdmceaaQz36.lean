/- The document's machine in memory: which block belongs to what, and what stays of it. -/
import Derived.Test.YtgjmdcbdkdmceaaQ16
namespace Go.Proofs.Ytgjmdcbdkdmceaa.Mach
open Go.RowKit

/-- Where a call's parts lie. -/
structure CV where
  at_ : Int
  rv : Value
  sv : Value
  av : Value
  yv : Value
def callC (p : Fr × CV) : List Value := [.int .i64 p.1.fn, .int .i64 p.2.at_, p.2.rv, p.2.sv, .int .i64 p.1.next, p.2.av, p.2.yv, .int .u8 p.1.dst]
def callsC (l : List (Fr × CV)) : List Value := l.flatMap callC
theorem callsC_length (l : List (Fr × CV)) : (callsC l).length = l.length * 8 := by
  induction l with
  | nil => rfl
  | cons x r ih => simp only [callsC, List.flatMap_cons, List.length_append, List.length_cons] at *; rw [ih]; simp [callC]; omega
theorem callsC_snoc (l : List (Fr × CV)) (p : Fr × CV) : callsC (l ++ [p]) = callsC l ++ callC p := by simp [callsC]
theorem callsC_at (l : List (Fr × CV)) (p : Fr × CV) (j : Nat) (hj : j < 8) : (callsC (l ++ [p]))[l.length * 8 + j]? = (callC p)[j]? := by
  rw [callsC_snoc, List.getElem?_append_right (by rw [callsC_length]; omega), callsC_length]
  congr 1; omega
theorem callsC_set (l : List (Fr × CV)) (p : Fr × CV) (j : Nat) (v : Value) : (callsC (l ++ [p])).set (l.length * 8 + j) v = callsC l ++ (callC p).set j v := by
  rw [callsC_snoc, List.set_append_right _ _ (by rw [callsC_length]; omega), callsC_length]
  congr 2; omega

structure CRep (w : World) (t : Nat → Nat) (base i : Nat) (p : Fr × CV) : Prop where
  rg : Row w t base 2 1 p.2.rv 16 (intsV p.1.regs) (7 + 4 * i)
  sl : Row w t base 2 1 p.2.sv p.1.slots.length (intsV p.1.slots) (8 + 4 * i)
  ar : Row w t base 2 1 p.2.av p.1.args.length (intsV p.1.args) (9 + 4 * i)
  rd : Row w t base 2 1 p.2.yv p.1.ready.length (intsV p.1.ready) (10 + 4 * i)
theorem CRep.regs {w : World} {t : Nat → Nat} {base i : Nat} {p : Fr × CV} (h : CRep w t base i p) : p.1.regs.length = 16 := by have := h.rg.own.1; simpa [intsV] using this

theorem CRep.only {w w' : World} {t : Nat → Nat} {base i c : Nat} {p : Fr × CV} (h : CRep w t base i p) (ho : Only w w' t c) (hc : c < 7 + 4 * i ∨ 11 + 4 * i ≤ c) : CRep w' t base i p :=
  ⟨h.rg.only ho (by omega), h.sl.only ho (by omega), h.ar.only ho (by omega), h.rd.only ho (by omega)⟩
theorem CRep.below {w w' : World} {t : Nat → Nat} {base i : Nat} {p : Fr × CV} (h : CRep w t base i p) (hb : Below w.heap.size w w') : CRep w' t base i p :=
  ⟨h.rg.below hb, h.sl.below hb, h.ar.below hb, h.rd.below hb⟩
theorem CRep.upd {w : World} {t : Nat → Nat} {base i c c' g : Nat} {p : Fr × CV} (h : CRep w t base i p) (hg : w.heap.size ≤ g ∨ t g = c) (hc : c < 7 + 4 * i ∨ 11 + 4 * i ≤ c) : CRep w (upd t g c') base i p :=
  ⟨h.rg.upd hg (by omega), h.sl.upd hg (by omega), h.ar.upd hg (by omega), h.rd.upd hg (by omega)⟩
theorem CRep.updV {w : World} {t : Nat → Nat} {base i c c' : Nat} {u : Value} {p : Fr × CV} (h : CRep w t base i p) (hg : ∀ g, u.ownBlock = some g → w.heap.size ≤ g ∨ t g = c) (hc : c < 7 + 4 * i ∨ 11 + 4 * i ≤ c) : CRep w (updV t u c') base i p :=
  ⟨h.rg.updV hg (by omega), h.sl.updV hg (by omega), h.ar.updV hg (by omega), h.rd.updV hg (by omega)⟩

def CAll (w : World) (t : Nat → Nat) (base : Nat) (l : List (Fr × CV)) : Prop := ∀ i p, l[i]? = some p → CRep w t base i p
theorem CAll.snoc {w : World} {t : Nat → Nat} {base : Nat} {l : List (Fr × CV)} {p : Fr × CV} (h : CAll w t base l) (hp : CRep w t base l.length p) : CAll w t base (l ++ [p]) := fun i q hq => by
  rcases Nat.lt_or_ge i l.length with hi | hi
  · rw [List.getElem?_append_left hi] at hq; exact h i q hq
  · rw [List.getElem?_append_right hi] at hq
    obtain ⟨h1, h2⟩ := List.getElem?_eq_some_iff.1 hq
    have : i = l.length := by simp at h1; omega
    subst this
    simp at h2
    exact h2 ▸ hp
theorem CAll.init {w : World} {t : Nat → Nat} {base : Nat} {l : List (Fr × CV)} {p : Fr × CV} (h : CAll w t base (l ++ [p])) : CAll w t base l := fun i q hq => h i q (by
  rw [List.getElem?_append_left (List.getElem?_eq_some_iff.1 hq).1]; exact hq)
theorem CAll.last {w : World} {t : Nat → Nat} {base : Nat} {l : List (Fr × CV)} {p : Fr × CV} (h : CAll w t base (l ++ [p])) : CRep w t base l.length p := h _ _ (by simp)
theorem CAll.only {w w' : World} {t : Nat → Nat} {base c : Nat} {l : List (Fr × CV)} (h : CAll w t base l) (ho : Only w w' t c) (hc : c < 7 ∨ 7 + 4 * l.length ≤ c) : CAll w' t base l := fun i p hp =>
  (h i p hp).only ho (by have := (List.getElem?_eq_some_iff.1 hp).1; omega)
theorem CAll.below {w w' : World} {t : Nat → Nat} {base : Nat} {l : List (Fr × CV)} (h : CAll w t base l) (hb : Below w.heap.size w w') : CAll w' t base l := fun i p hp => (h i p hp).below hb
theorem CAll.upd {w : World} {t : Nat → Nat} {base c c' g : Nat} {l : List (Fr × CV)} (h : CAll w t base l) (hg : w.heap.size ≤ g ∨ t g = c) (hc : c < 7 ∨ 7 + 4 * l.length ≤ c) : CAll w (Mach.upd t g c') base l := fun i p hp =>
  (h i p hp).upd hg (by have := (List.getElem?_eq_some_iff.1 hp).1; omega)
theorem CAll.updV {w : World} {t : Nat → Nat} {base c c' : Nat} {u : Value} {l : List (Fr × CV)} (h : CAll w t base l) (hg : ∀ g, u.ownBlock = some g → w.heap.size ≤ g ∨ t g = c) (hc : c < 7 ∨ 7 + 4 * l.length ≤ c) : CAll w (Mach.updV t u c') base l := fun i p hp =>
  (h i p hp).updV hg (by have := (List.getElem?_eq_some_iff.1 hp).1; omega)

/-- Where the document's machine has its parts. -/
structure RV where
  wv : Value
  ev : Value
  mn : Int
  dv : Value
  iv : Value
  hv : Value
  ov : Value
  xv : Value
def rC (V : RV) (s : St) (mk : Bool) : Array Value :=
  #[V.wv, V.ev, .int .i64 V.mn, V.dv, V.iv, V.hv, V.ov, .int .u8 s.end_, .int .i64 s.exit, V.xv, .int .i64 s.read, .int .i64 s.steps, .int .i64 s.marks, .int .i64 s.at_, .bool mk]
structure RRep (w : World) (t : Nat → Nat) (base M : Nat) (E : Env) (V : RV) (cl : List (Fr × CV)) (s : St) (mk : Bool) : Prop where
  hm : w.heap[M]? = some (.cells (rC V s mk) 66 (0, 0))
  tm : t M = 3
  env : EnvO w t V.wv V.ev V.iv E
  opn : s.opn = cl.map Prod.fst
  ho : Row w t base 100 8 V.ov cl.length (callsC cl) 4
  hh : Row w t base 2 1 V.hv s.heap.length (intsV s.heap) 5
  hx : Row w t base 2 1 V.xv s.outs.length (intsV s.outs) 6
  fr : CAll w t base cl
  lt : ∀ k, t k ≠ 0 → k < w.heap.size
  ge : ∀ k, 2 < t k → base ≤ k ∧ base ≤ w.heap.size
theorem rC_end (V : RV) (s : St) (mk : Bool) (x : Int) : (rC V s mk).setIfInBounds 7 (.int .u8 x) = rC V { s with end_ := x } mk := by simp [rC]
theorem rC_exit (V : RV) (s : St) (mk : Bool) (x : Int) : (rC V s mk).setIfInBounds 8 (.int .i64 x) = rC V { s with exit := x } mk := by simp [rC]
theorem rC_read (V : RV) (s : St) (mk : Bool) (x : Int) : (rC V s mk).setIfInBounds 10 (.int .i64 x) = rC V { s with read := x } mk := by simp [rC]
theorem rC_steps (V : RV) (s : St) (mk : Bool) (x : Int) : (rC V s mk).setIfInBounds 11 (.int .i64 x) = rC V { s with steps := x } mk := by simp [rC]
theorem rC_marks (V : RV) (s : St) (mk : Bool) (x : Int) : (rC V s mk).setIfInBounds 12 (.int .i64 x) = rC V { s with marks := x } mk := by simp [rC]
theorem rC_at (V : RV) (s : St) (mk : Bool) (x : Int) : (rC V s mk).setIfInBounds 13 (.int .i64 x) = rC V { s with at_ := x } mk := by simp [rC]
theorem rC_mk (V : RV) (s : St) (mk mk' : Bool) : (rC V s mk).setIfInBounds 14 (.bool mk') = rC V s mk' := by simp [rC]
theorem RRep.setM {w w' : World} {t : Nat → Nat} {base M : Nat} {E : Env} {V : RV} {cl : List (Fr × CV)} {s s' : St} {mk mk' : Bool} (h : RRep w t base M E V cl s mk) (ho : Only w w' t 3) (hm : w'.heap[M]? = some (.cells (rC V s' mk') 66 (0, 0)))
    (e1 : s'.opn = s.opn) (e2 : s'.heap = s.heap) (e3 : s'.outs = s.outs) : RRep w' t base M E V cl s' mk' :=
  ⟨hm, h.tm, h.env.fx (Fx.only ho (by omega)), e1.trans h.opn, h.ho.only ho (by omega), by rw [e2]; exact h.hh.only ho (by omega), by rw [e3]; exact h.hx.only ho (by omega), h.fr.only ho (by omega),
    fun k hk => Nat.lt_of_lt_of_le (h.lt k hk) ho.size, fun k hk => ⟨(h.ge k hk).1, Nat.le_trans (h.ge k hk).2 ho.size⟩⟩
theorem RRep.end' {w : World} {t : Nat → Nat} {base M : Nat} {E : Env} {V : RV} {cl : List (Fr × CV)} {s : St} {mk : Bool} (h : RRep w t base M E V cl s mk) (x : Int) : RRep (w.setCell ⟨M, 7, none⟩ (.int .u8 x)) t base M E V cl (s.ends x) mk :=
  h.setM (Only.set _ h.tm) (by rw [heap_set h.hm, rC_end]; rfl) rfl rfl rfl
theorem RRep.exit' {w : World} {t : Nat → Nat} {base M : Nat} {E : Env} {V : RV} {cl : List (Fr × CV)} {s : St} {mk : Bool} (h : RRep w t base M E V cl s mk) (x : Int) : RRep (w.setCell ⟨M, 8, none⟩ (.int .i64 x)) t base M E V cl { s with exit := x } mk :=
  h.setM (Only.set _ h.tm) (by rw [heap_set h.hm, rC_exit]) rfl rfl rfl
theorem RRep.read' {w : World} {t : Nat → Nat} {base M : Nat} {E : Env} {V : RV} {cl : List (Fr × CV)} {s : St} {mk : Bool} (h : RRep w t base M E V cl s mk) (x : Int) : RRep (w.setCell ⟨M, 10, none⟩ (.int .i64 x)) t base M E V cl { s with read := x } mk :=
  h.setM (Only.set _ h.tm) (by rw [heap_set h.hm, rC_read]) rfl rfl rfl
theorem RRep.steps' {w : World} {t : Nat → Nat} {base M : Nat} {E : Env} {V : RV} {cl : List (Fr × CV)} {s : St} {mk : Bool} (h : RRep w t base M E V cl s mk) (x : Int) : RRep (w.setCell ⟨M, 11, none⟩ (.int .i64 x)) t base M E V cl { s with steps := x } mk :=
  h.setM (Only.set _ h.tm) (by rw [heap_set h.hm, rC_steps]) rfl rfl rfl
theorem RRep.marks' {w : World} {t : Nat → Nat} {base M : Nat} {E : Env} {V : RV} {cl : List (Fr × CV)} {s : St} {mk : Bool} (h : RRep w t base M E V cl s mk) (x : Int) : RRep (w.setCell ⟨M, 12, none⟩ (.int .i64 x)) t base M E V cl { s with marks := x } mk :=
  h.setM (Only.set _ h.tm) (by rw [heap_set h.hm, rC_marks]) rfl rfl rfl
theorem RRep.at' {w : World} {t : Nat → Nat} {base M : Nat} {E : Env} {V : RV} {cl : List (Fr × CV)} {s : St} {mk : Bool} (h : RRep w t base M E V cl s mk) (x : Int) : RRep (w.setCell ⟨M, 13, none⟩ (.int .i64 x)) t base M E V cl { s with at_ := x } mk :=
  h.setM (Only.set _ h.tm) (by rw [heap_set h.hm, rC_at]) rfl rfl rfl
theorem RRep.mk' {w : World} {t : Nat → Nat} {base M : Nat} {E : Env} {V : RV} {cl : List (Fr × CV)} {s : St} {mk : Bool} (h : RRep w t base M E V cl s mk) (x : Bool) : RRep (w.setCell ⟨M, 14, none⟩ (.bool x)) t base M E V cl s x :=
  h.setM (Only.set _ h.tm) (by rw [heap_set h.hm, rC_mk]) rfl rfl rfl
theorem RRep.below {w w' : World} {t : Nat → Nat} {base M : Nat} {E : Env} {V : RV} {cl : List (Fr × CV)} {s : St} {mk : Bool} (h : RRep w t base M E V cl s mk) (hb : Below w.heap.size w w') : RRep w' t base M E V cl s mk :=
  ⟨(hb.block M (Array.getElem?_eq_some_iff.1 h.hm).1).trans h.hm, h.tm, h.env.fx (Fx.below hb), h.opn, h.ho.below hb, h.hh.below hb, h.hx.below hb, h.fr.below hb,
    fun k hk => Nat.lt_of_lt_of_le (h.lt k hk) hb.size, fun k hk => ⟨(h.ge k hk).1, Nat.le_trans (h.ge k hk).2 hb.size⟩⟩
theorem RRep.drew {w : World} {t : Nat → Nat} {base M : Nat} {E : Env} {V : RV} {cl : List (Fr × CV)} {s : St} {mk : Bool} (h : RRep w t base M E V cl s mk) (n : Nat) : RRep (w.drewN n) t base M E V cl s mk := h.below ⟨rfl, rfl, rfl, Nat.le_refl _, fun _ _ => rfl⟩
/-- What the walk of a step wants of the innermost call and of the machine. -/
theorem RRep.topC {w : World} {t : Nat → Nat} {base M : Nat} {E : Env} {V : RV} {ol : List (Fr × CV)} {p : Fr × CV} {s : St} {mk : Bool} (h : RRep w t base M E V (ol ++ [p]) s mk) :
    ∃ ob oc, V.ov = .slice (some ⟨ob, 0, none⟩) (ol.length + 1) oc ∧ ol.length + 1 ≤ oc ∧ ob < w.heap.size ∧ t ob = 4 ∧ ob ≠ M ∧ (∀ i, w.frozen? ⟨ob, i, none⟩ = false) ∧ ∀ j, j < 8 → w.cell? ⟨ob, ol.length * 8 + j, none⟩ = (callC p)[j]? := by
  obtain ⟨ob, oc, hov, hob, hoc, ⟨cur, hocell⟩, hoj⟩ := osplit h.ho.own (by simp)
  have tob : t ob = 4 := h.ho.tag ob (by simp [hov, Value.ownBlock])
  simp only [List.length_append, List.length_singleton] at hov hoc
  refine ⟨ob, oc, hov, hoc, hob, tob, fun e => by have := h.tm; rw [← e, tob] at this; omega, fun i => by simp [World.frozen?, hocell], fun j hj => ?_⟩
  have h1 := callsC_at ol p j hj
  have h2 : (callC p)[j]? = some ((callC p)[j]'(by simp [callC]; omega)) := List.getElem?_eq_getElem _
  rw [h2] at h1 ⊢
  exact hoj _ _ h1
theorem rC_get (V : RV) (s : St) (mk : Bool) : (rC V s mk)[0]? = some V.wv ∧ (rC V s mk)[1]? = some V.ev ∧ (rC V s mk)[4]? = some V.iv ∧ (rC V s mk)[5]? = some V.hv ∧ (rC V s mk)[6]? = some V.ov ∧ (rC V s mk)[7]? = some (.int .u8 s.end_) ∧ (rC V s mk)[8]? = some (.int .i64 s.exit) ∧ (rC V s mk)[9]? = some V.xv ∧
    (rC V s mk)[10]? = some (.int .i64 s.read) ∧ (rC V s mk)[11]? = some (.int .i64 s.steps) ∧ (rC V s mk)[12]? = some (.int .i64 s.marks) ∧ (rC V s mk)[13]? = some (.int .i64 s.at_) ∧ (rC V s mk)[14]? = some (.bool mk) := by simp [rC]
theorem RRep.topJ {w : World} {t : Nat → Nat} {base M : Nat} {E : Env} {V : RV} {ol : List (Fr × CV)} {p : Fr × CV} {s : St} {mk : Bool} (h : RRep w t base M E V (ol ++ [p]) s mk) {ob oc : Nat} (hov : V.ov = .slice (some ⟨ob, 0, none⟩) (ol.length + 1) oc) (j : Nat) (hj : j < 8) : w.cell? ⟨ob, ol.length * 8 + j, none⟩ = (callC p)[j]? := by
  obtain ⟨ob', oc', hov', _, _, _, _, _, hoj⟩ := h.topC
  rw [hov] at hov'
  simp only [Value.slice.injEq, Option.some.injEq, Addr.mk.injEq, and_true, true_and] at hov'
  obtain ⟨rfl, rfl⟩ := hov'
  exact hoj j hj
theorem RRep.frzO {w : World} {t : Nat → Nat} {base M : Nat} {E : Env} {V : RV} {cl : List (Fr × CV)} {s : St} {mk : Bool} (h : RRep w t base M E V cl s mk) {ob on oc : Nat} (hov : V.ov = .slice (some ⟨ob, 0, none⟩) on oc) (j : Nat) : w.frozen? ⟨ob, j, none⟩ = false := ofrz (hov ▸ h.ho.own) j
theorem RRep.cellM {w : World} {t : Nat → Nat} {base M : Nat} {E : Env} {V : RV} {cl : List (Fr × CV)} {s : St} {mk : Bool} (h : RRep w t base M E V cl s mk) (i : Nat) : w.cell? ⟨M, i, none⟩ = (rC V s mk)[i]? := by simp [World.cell?, h.hm]
theorem RRep.frzM {w : World} {t : Nat → Nat} {base M : Nat} {E : Env} {V : RV} {cl : List (Fr × CV)} {s : St} {mk : Bool} (h : RRep w t base M E V cl s mk) (i : Nat) : w.frozen? ⟨M, i, none⟩ = false := by simp [World.frozen?, h.hm]
theorem RRep.setC {w : World} {t : Nat → Nat} {base M : Nat} {E : Env} {V : RV} {ol : List (Fr × CV)} {p p' : Fr × CV} {s : St} {mk : Bool} (h : RRep w t base M E V (ol ++ [p]) s mk) {ob oc : Nat} (hov : V.ov = .slice (some ⟨ob, 0, none⟩) (ol.length + 1) oc)
    (j : Nat) (v : Value) (hc : (callC p).set j v = callC p') (hp : CRep w t base ol.length p → CRep w t base ol.length p') : RRep (w.setCell ⟨ob, ol.length * 8 + j, none⟩ v) t base M E V (ol ++ [p']) (s.top (ol.map Prod.fst) p'.1) mk := by
  have tob : t ob = 4 := h.ho.tag ob (by simp [hov, Value.ownBlock])
  have ho : Only w (w.setCell ⟨ob, ol.length * 8 + j, none⟩ v) t 4 := Only.set v tob
  have nOM : M ≠ ob := fun e => by have := h.tm; rw [e, tob] at this; omega
  refine ⟨(Below.heap_setCell _ _ _ _ nOM).trans h.hm, h.tm, h.env.fx (Fx.only ho (by omega)), by simp [St.top], ⟨?_, h.ho.tag⟩, h.hh.only ho (by omega), h.hx.only ho (by omega), ?_, fun k hk => Nat.lt_of_lt_of_le (h.lt k hk) ho.size, fun k hk => ⟨(h.ge k hk).1, Nat.le_trans (h.ge k hk).2 ho.size⟩⟩
  · have h1 := h.ho.own
    have e1 : (ol ++ [p']).length = ol.length + 1 := by simp
    have e2 : (ol ++ [p]).length = ol.length + 1 := by simp
    rw [e2, hov] at h1
    rw [e1, hov]
    have h2 := oset h1 (ol.length * 8 + j) v
    rw [callsC_set, hc] at h2
    rw [callsC_snoc]; exact h2
  · refine CAll.only (CAll.snoc h.fr.init (hp h.fr.last)) ho (.inl (by omega))
theorem RRep.next' {w : World} {t : Nat → Nat} {base M : Nat} {E : Env} {V : RV} {ol : List (Fr × CV)} {f : Fr} {c : CV} {s : St} {mk : Bool} (h : RRep w t base M E V (ol ++ [(f, c)]) s mk) {ob oc : Nat} (hov : V.ov = .slice (some ⟨ob, 0, none⟩) (ol.length + 1) oc) (n : Int) :
    RRep (w.setCell ⟨ob, ol.length * 8 + 4, none⟩ (.int .i64 n)) t base M E V (ol ++ [({ f with next := n }, c)]) (s.top (ol.map Prod.fst) { f with next := n }) mk :=
  h.setC (p' := ({ f with next := n }, c)) hov 4 _ rfl fun q => ⟨q.rg, q.sl, q.ar, q.rd⟩
theorem RRep.atc' {w : World} {t : Nat → Nat} {base M : Nat} {E : Env} {V : RV} {ol : List (Fr × CV)} {f : Fr} {c : CV} {s : St} {mk : Bool} (h : RRep w t base M E V (ol ++ [(f, c)]) s mk) {ob oc : Nat} (hov : V.ov = .slice (some ⟨ob, 0, none⟩) (ol.length + 1) oc) (n : Int) :
    RRep (w.setCell ⟨ob, ol.length * 8 + 1, none⟩ (.int .i64 n)) t base M E V (ol ++ [(f, { c with at_ := n })]) (s.top (ol.map Prod.fst) f) mk :=
  h.setC (p' := (f, { c with at_ := n })) hov 1 _ rfl fun q => ⟨q.rg, q.sl, q.ar, q.rd⟩
theorem stepF_is {E : Env} {s : St} {ol : List (Fr × CV)} {f : Fr} {cv : CV} {x : W} (hopn : s.opn = (ol ++ [(f, cv)]).map Prod.fst) (hb1 : slotsOk (E.ent f.fn).2 = true) (hn0 : 0 ≤ f.next) (hn1 : f.next < E.ws.length) (hx : x = E.ws.getD f.next.toNat W.zero) (hform : formB x = true) :
    stepF E s = (doF E { s with steps := wrap64 (s.steps + 1), at_ := f.next } (ol.map Prod.fst) { f with next := f.next + 1 } x, x.op) := by
  have e0 : s.opn = ol.map Prod.fst ++ [f] := by rw [hopn]; simp
  have d0 : decide (f.next < 0) = false := decide_eq_false (by omega)
  have d1 : decide ((E.ws.length : Int) ≤ f.next) = false := decide_eq_false (by omega)
  unfold stepF
  rw [e0, List.getLast?_append]
  simp only [List.getLast?_singleton, Option.some_or, hb1, d0, d1, Bool.not_true, Bool.or_self, Bool.false_eq_true, if_false, List.dropLast_concat, ← hx, hform, if_true]
/-- What a step leaves of the document's machine. -/
def RPost (w : World) (t : Nat → Nat) (base M : Nat) (E : Env) (s' : St) (mk' : Bool) (w' : World) : Prop := ∃ t' V' cl', RRep w' t' base M E V' cl' s' mk' ∧ Fx w w' t t'
theorem RPost.before {w w0 w' : World} {t t0 : Nat → Nat} {base M : Nat} {E : Env} {s' : St} {mk' : Bool} (hf : Fx w w0 t t0) (h : RPost w0 t0 base M E s' mk' w') : RPost w t base M E s' mk' w' := by
  obtain ⟨t', V', cl', h1, h2⟩ := h
  exact ⟨t', V', cl', h1, hf.trans h2⟩
theorem CRep.regC {w : World} {t : Nat → Nat} {base i : Nat} {p : Fr × CV} (h : CRep w t base i p) : ∃ rb rc, p.2.rv = .slice (some ⟨rb, 0, none⟩) 16 rc ∧ rb < w.heap.size ∧ t rb = 7 + 4 * i ∧ (∀ j, w.frozen? ⟨rb, j, none⟩ = false) ∧ ∀ j, j < 16 → w.cell? ⟨rb, j, none⟩ = some (.int .i64 (p.1.regs.getD j 0)) := by
  obtain ⟨rb, rc, hv, hl, _, ⟨cur, hc⟩, hj⟩ := osplit h.rg.own (by omega)
  exact ⟨rb, rc, hv, hl, h.rg.tag rb (by rw [hv]; rfl), fun j => by simp [World.frozen?, hc], fun j hj' => hj _ _ (intsV_at (by rw [h.regs]; exact hj'))⟩
theorem RRep.last {w w' : World} {t : Nat → Nat} {base M c : Nat} {E : Env} {V : RV} {ol : List (Fr × CV)} {p p' : Fr × CV} {s : St} {mk : Bool} (h : RRep w t base M E V (ol ++ [p]) s mk) (ho : Only w w' t c) (hc : 7 + 4 * ol.length ≤ c) (hcc : callC p' = callC p)
    (hp : CRep w' t base ol.length p') : RRep w' t base M E V (ol ++ [p']) (s.top (ol.map Prod.fst) p'.1) mk := by
  refine ⟨?_, h.tm, h.env.fx (Fx.only ho (by omega)), by simp [St.top], ?_, h.hh.only ho (by omega), h.hx.only ho (by omega), CAll.snoc (h.fr.init.only ho (.inr hc)) hp, fun k hk => Nat.lt_of_lt_of_le (h.lt k hk) ho.size, fun k hk => ⟨(h.ge k hk).1, Nat.le_trans (h.ge k hk).2 ho.size⟩⟩
  · exact (ho.stay M (Array.getElem?_eq_some_iff.1 h.hm).1 (by rw [h.tm]; omega)).trans h.hm
  · have h1 := h.ho.only ho (by omega)
    rw [callsC_snoc] at h1
    rw [callsC_snoc, hcc]
    simp only [List.length_append, List.length_singleton] at h1 ⊢
    exact h1
theorem RRep.reg {w : World} {t : Nat → Nat} {base M : Nat} {E : Env} {V : RV} {ol : List (Fr × CV)} {f : Fr} {c : CV} {s : St} {mk : Bool} (h : RRep w t base M E V (ol ++ [(f, c)]) s mk) {rb rc : Nat} (hrv : c.rv = .slice (some ⟨rb, 0, none⟩) 16 rc) (j : Nat) (x : Int) :
    RRep (w.setCell ⟨rb, j, none⟩ (.int .i64 x)) t base M E V (ol ++ [({ f with regs := f.regs.set j x }, c)]) (s.top (ol.map Prod.fst) { f with regs := f.regs.set j x }) mk := by
  have hl := h.fr.last
  have tg : t rb = 7 + 4 * ol.length := hl.rg.tag rb (by show c.rv.ownBlock = _; rw [hrv]; rfl)
  have ho : Only w (w.setCell ⟨rb, j, none⟩ (.int .i64 x)) t (7 + 4 * ol.length) := Only.set _ tg
  refine h.last (p' := ({ f with regs := f.regs.set j x }, c)) ho (Nat.le_refl _) rfl ⟨⟨?_, hl.rg.tag⟩, hl.sl.only ho (by omega), hl.ar.only ho (by omega), hl.rd.only ho (by omega)⟩
  have h1 := hl.rg.own
  simp only [hrv] at h1 ⊢
  have h2 := oset h1 j (.int .i64 x)
  rwa [intsV_set] at h2
theorem RRep.slot {w : World} {t : Nat → Nat} {base M : Nat} {E : Env} {V : RV} {ol : List (Fr × CV)} {f : Fr} {c : CV} {s : St} {mk : Bool} (h : RRep w t base M E V (ol ++ [(f, c)]) s mk) {sb sn sc : Nat} (hsv : c.sv = .slice (some ⟨sb, 0, none⟩) sn sc) (j : Nat) (x : Int) :
    RRep (w.setCell ⟨sb, j, none⟩ (.int .i64 x)) t base M E V (ol ++ [({ f with slots := f.slots.set j x }, c)]) (s.top (ol.map Prod.fst) { f with slots := f.slots.set j x }) mk := by
  have hl := h.fr.last
  have tg : t sb = 8 + 4 * ol.length := hl.sl.tag sb (by show c.sv.ownBlock = _; rw [hsv]; rfl)
  have ho : Only w (w.setCell ⟨sb, j, none⟩ (.int .i64 x)) t (8 + 4 * ol.length) := Only.set _ tg
  have h1 := hl.sl.own
  obtain ⟨a, cc, hsh, _, _⟩ := oshape h1
  simp only [hsv, Value.slice.injEq] at hsh
  obtain ⟨rfl, rfl, rfl⟩ := hsh
  refine h.last (p' := ({ f with slots := f.slots.set j x }, c)) ho (by omega) rfl ⟨hl.rg.only ho (by omega), ⟨?_, hl.sl.tag⟩, hl.ar.only ho (by omega), hl.rd.only ho (by omega)⟩
  simp only [hsv, List.length_set] at h1 ⊢
  have h2 := oset h1 j (.int .i64 x)
  rwa [intsV_set] at h2
theorem RRep.cell {w : World} {t : Nat → Nat} {base M : Nat} {E : Env} {V : RV} {cl : List (Fr × CV)} {s : St} {mk : Bool} (h : RRep w t base M E V cl s mk) {hb hn hc : Nat} (hhv : V.hv = .slice (some ⟨hb, 0, none⟩) hn hc) (j : Nat) (x : Int) :
    RRep (w.setCell ⟨hb, j, none⟩ (.int .i64 x)) t base M E V cl { s with heap := s.heap.set j x } mk := by
  have tg : t hb = 5 := h.hh.tag hb (by rw [hhv]; rfl)
  have ho : Only w (w.setCell ⟨hb, j, none⟩ (.int .i64 x)) t 5 := Only.set _ tg
  have h1 := h.hh.own
  obtain ⟨a, cc, hsh, _, _⟩ := oshape h1
  simp only [hhv, Value.slice.injEq] at hsh
  obtain ⟨rfl, rfl, rfl⟩ := hsh
  refine ⟨(ho.stay M (Array.getElem?_eq_some_iff.1 h.hm).1 (by rw [h.tm]; omega)).trans h.hm, h.tm, h.env.fx (Fx.only ho (by omega)), h.opn, h.ho.only ho (by omega), ⟨?_, h.hh.tag⟩, h.hx.only ho (by omega), h.fr.only ho (.inl (by omega)), fun k hk => Nat.lt_of_lt_of_le (h.lt k hk) ho.size, fun k hk => ⟨(h.ge k hk).1, Nat.le_trans (h.ge k hk).2 ho.size⟩⟩
  simp only [hhv, List.length_set] at h1 ⊢
  have h2 := oset h1 j (.int .i64 x)
  rwa [intsV_set] at h2
theorem RRep.regJ {w : World} {t : Nat → Nat} {base M : Nat} {E : Env} {V : RV} {ol : List (Fr × CV)} {f : Fr} {c : CV} {s : St} {mk : Bool} (h : RRep w t base M E V (ol ++ [(f, c)]) s mk) {rb rc : Nat} (hrv : c.rv = .slice (some ⟨rb, 0, none⟩) 16 rc) (j : Nat) (hj : j < 16) :
    w.cell? ⟨rb, j, none⟩ = some (.int .i64 (f.regs.getD j 0)) ∧ w.frozen? ⟨rb, j, none⟩ = false ∧ rb < w.heap.size ∧ t rb = 7 + 4 * ol.length := by
  obtain ⟨rb', rc', hv, hl, ht, hz, hc⟩ := h.fr.last.regC
  simp only at hv hc
  rw [hrv] at hv
  simp only [Value.slice.injEq, Option.some.injEq, Addr.mk.injEq, and_true, true_and] at hv
  obtain ⟨rfl, _⟩ := hv
  exact ⟨hc j hj, hz j, hl, ht⟩
end Go.Proofs.Ytgjmdcbdkdmceaa.Mach

/- The document's machine in memory: rows that grow. -/
namespace Go.Proofs.Ytgjmdcbdkdmceaa.Mach
open Go.RowKit

section
variable {w w' w'' : World} {t t' t'' : Nat → Nat} {c base : Nat}
theorem CRep.trn {i : Nat} {p : Fr × CV} (h : CRep w t base i p) (T : Trn w w' t t' c base) (hc : c < 7 + 4 * i ∨ 11 + 4 * i ≤ c) : CRep w' t' base i p :=
  ⟨T.rows h.rg (by omega), T.rows h.sl (by omega), T.rows h.ar (by omega), T.rows h.rd (by omega)⟩
theorem CAll.trn {l : List (Fr × CV)} (h : CAll w t base l) (T : Trn w w' t t' c base) (hc : c < 7 ∨ 7 + 4 * l.length ≤ c) : CAll w' t' base l := fun i p hp =>
  (h i p hp).trn T (by have := (List.getElem?_eq_some_iff.1 hp).1; omega)
end
section
variable {w w' w1 : World} {t t1 : Nat → Nat} {base M : Nat} {E : Env} {V : RV} {cl ol : List (Fr × CV)} {f : Fr} {cv : CV} {s : St} {mk : Bool} {v' : Value}
/-- The heap has a new row. -/
theorem RRep.newHeap (h : RRep w t base M E V cl s mk) (T : Trn w w1 t t1 5 base) {hp' : List Int} (hr : Row w1 t1 base 2 1 v' hp'.length (intsV hp') 5) :
    RRep (w1.setCell ⟨M, 5, none⟩ v') t1 base M E { V with hv := v' } cl { s with heap := hp' } mk ∧ Fx w (w1.setCell ⟨M, 5, none⟩ v') t t1 := by
  obtain ⟨b1, b2⟩ := T.blks M (Array.getElem?_eq_some_iff.1 h.hm).1 (by rw [h.tm]; omega)
  have hm1 := b1.trans h.hm
  have tm1 : t1 M = 3 := b2.trans h.tm
  have S : Trn w1 (w1.setCell ⟨M, 5, none⟩ v') t1 t1 3 base := Trn.only (Only.set v' tm1) (by omega)
  have F := T.fx.trans S.fx
  refine ⟨⟨?_, tm1, h.env.fx F, h.opn, S.rows (T.rows h.ho (by omega)) (by omega), S.rows hr (by omega), S.rows (T.rows h.hx (by omega)) (by omega), (h.fr.trn T (.inl (by omega))).trn S (.inl (by omega)), S.lt (T.lt h.lt), S.ge (T.ge h.ge)⟩, F⟩
  rw [heap_set hm1]
  simp [rC]
/-- What was printed has a new row. -/
theorem RRep.newOuts (h : RRep w t base M E V cl s mk) (T : Trn w w1 t t1 6 base) {x' : List Int} (hr : Row w1 t1 base 2 1 v' x'.length (intsV x') 6) :
    RRep (w1.setCell ⟨M, 9, none⟩ v') t1 base M E { V with xv := v' } cl { s with outs := x' } mk ∧ Fx w (w1.setCell ⟨M, 9, none⟩ v') t t1 := by
  obtain ⟨b1, b2⟩ := T.blks M (Array.getElem?_eq_some_iff.1 h.hm).1 (by rw [h.tm]; omega)
  have hm1 := b1.trans h.hm
  have tm1 : t1 M = 3 := b2.trans h.tm
  have S : Trn w1 (w1.setCell ⟨M, 9, none⟩ v') t1 t1 3 base := Trn.only (Only.set v' tm1) (by omega)
  have F := T.fx.trans S.fx
  refine ⟨⟨?_, tm1, h.env.fx F, h.opn, S.rows (T.rows h.ho (by omega)) (by omega), S.rows (T.rows h.hh (by omega)) (by omega), S.rows hr (by omega), (h.fr.trn T (.inl (by omega))).trn S (.inl (by omega)), S.lt (T.lt h.lt), S.ge (T.ge h.ge)⟩, F⟩
  rw [heap_set hm1]
  simp [rC]
/-- A change of the innermost call's row of the tag c. -/
theorem RRep.trnLast {c : Nat} {p p' : Fr × CV} (h : RRep w t base M E V (ol ++ [p]) s mk) (T : Trn w w1 t t1 c base) (hc : 7 + 4 * ol.length ≤ c) (hp : CRep w1 t1 base ol.length p') (hcc : callC p' = callC p) : RRep w1 t1 base M E V (ol ++ [p']) (s.top (ol.map Prod.fst) p'.1) mk := by
  obtain ⟨b1, b2⟩ := T.blks M (Array.getElem?_eq_some_iff.1 h.hm).1 (by rw [h.tm]; omega)
  refine ⟨b1.trans h.hm, b2.trans h.tm, h.env.fx T.fx, by simp [St.top], ?_, T.rows h.hh (by omega), T.rows h.hx (by omega), CAll.snoc (h.fr.init.trn T (.inr hc)) hp, T.lt h.lt, T.ge h.ge⟩
  have h1 := T.rows h.ho (by omega)
  rw [callsC_snoc] at h1
  rw [callsC_snoc, hcc]
  simpa using h1
/-- What is laid ready has a new row. -/
theorem RRep.newReady (h : RRep w t base M E V (ol ++ [(f, cv)]) s mk) {ob oc : Nat} (hov : V.ov = .slice (some ⟨ob, 0, none⟩) (ol.length + 1) oc) (T : Trn w w1 t t1 (10 + 4 * ol.length) base) {y' : List Int} (hr : Row w1 t1 base 2 1 v' y'.length (intsV y') (10 + 4 * ol.length)) :
    RRep (w1.setCell ⟨ob, ol.length * 8 + 6, none⟩ v') t1 base M E V (ol ++ [({ f with ready := y' }, { cv with yv := v' })]) (s.top (ol.map Prod.fst) { f with ready := y' }) mk ∧ Fx w (w1.setCell ⟨ob, ol.length * 8 + 6, none⟩ v') t t1 := by
  have hl := h.fr.last
  have tob : t ob = 4 := h.ho.tag ob (by simp [hov, Value.ownBlock])
  obtain ⟨_, _, hov', _, hlo, _⟩ := h.topC
  rw [hov] at hov'
  simp only [Value.slice.injEq, Option.some.injEq, Addr.mk.injEq, and_true, true_and] at hov'
  obtain ⟨rfl, _⟩ := hov'
  obtain ⟨_, b2⟩ := T.blks ob hlo (by rw [tob]; omega)
  have tob1 : t1 ob = 4 := b2.trans tob
  have S : Trn w1 (w1.setCell ⟨ob, ol.length * 8 + 6, none⟩ v') t1 t1 4 base := Trn.only (Only.set v' tob1) (by omega)
  have F := T.fx.trans S.fx
  obtain ⟨c1, c2⟩ := T.blks M (Array.getElem?_eq_some_iff.1 h.hm).1 (by rw [h.tm]; omega)
  obtain ⟨d1, d2⟩ := S.blks M (Nat.lt_of_lt_of_le (Array.getElem?_eq_some_iff.1 h.hm).1 T.fx.size) (by rw [c2, h.tm]; omega)
  refine ⟨⟨d1.trans (c1.trans h.hm), d2.trans (c2.trans h.tm), h.env.fx F, by simp [St.top], ⟨?_, fun k hk => ?_⟩, S.rows (T.rows h.hh (by omega)) (by omega), S.rows (T.rows h.hx (by omega)) (by omega), CAll.snoc ((h.fr.init.trn T (.inr (by omega))).trn S (.inl (by omega))) ?_, S.lt (T.lt h.lt), S.ge (T.ge h.ge)⟩, F⟩
  · have h1 := (T.rows h.ho (by omega)).own
    have e1 : (ol ++ [(f, cv)]).length = ol.length + 1 := by simp
    have e2 : (ol ++ [(({ f with ready := y' } : Fr), ({ cv with yv := v' } : CV))]).length = ol.length + 1 := by simp
    rw [e1, hov] at h1
    rw [e2, hov]
    have h2 := oset h1 (ol.length * 8 + 6) v'
    rw [callsC_set] at h2
    rw [callsC_snoc]; exact h2
  · rw [hov] at hk
    simp only [Value.ownBlock, Option.some.injEq] at hk
    subst hk; exact tob1
  · exact ⟨S.rows (T.rows hl.rg (by show _ ≠ _; omega)) (by omega), S.rows (T.rows hl.sl (by omega)) (by omega), S.rows (T.rows hl.ar (by omega)) (by omega), S.rows hr (by omega)⟩
/-- A new block is told to be the machine's. -/
theorem RRep.claim (h : RRep w t base M E V cl s mk) (hb : Below w.heap.size w w1) {g c' : Nat} (h1 : w.heap.size ≤ g) (h2 : g < w1.heap.size) (hc : 2 < c') : RRep w1 (upd t g c') base M E V cl s mk ∧ Fx w w1 t (upd t g c') := by
  have F : Fx w w1 t (upd t g c') := (Fx.below hb).updN (.inl h1) hc
  have hM : M < w.heap.size := (Array.getElem?_eq_some_iff.1 h.hm).1
  have h3 := h.below hb
  refine ⟨⟨h3.hm, by rw [upd_ne (by omega)]; exact h.tm, h.env.fx F, h.opn, (h.ho.upd (c := 0) (.inl h1) (by omega)).below hb, (h.hh.upd (c := 0) (.inl h1) (by omega)).below hb, (h.hx.upd (c := 0) (.inl h1) (by omega)).below hb, (h.fr.upd (c := 0) (.inl h1) (.inl (by omega))).below hb, fun k hk => ?_, fun k hk => ?_⟩, F⟩
  · by_cases e : k = g
    · rw [e]; exact h2
    · rw [upd_ne e] at hk; exact h3.lt k hk
  · have hB := (h.ge M (by rw [h.tm]; omega)).2
    have h4 := hb.size
    by_cases e : k = g
    · rw [e]; omega
    · rw [upd_ne e] at hk; exact h3.ge k hk
/-- New blocks are told to be the machine's. -/
theorem RRep.claimT (h : RRep w t base M E V cl s mk) (hb : Below w.heap.size w w1) (h1 : ∀ k, k < w.heap.size → t1 k = t k) (h2 : ∀ k, t1 k ≠ 0 → k < w1.heap.size) : RRep w1 t1 base M E V cl s mk ∧ Fx w w1 t t1 := by
  have F : Fx w w1 t t1 := ⟨hb.os, hb.tape, hb.output, hb.size, fun k hk _ => hb.block k hk, fun k hk => by rw [h1 k hk]; exact ⟨fun _ => rfl, fun h => h⟩⟩
  have hM : M < w.heap.size := (Array.getElem?_eq_some_iff.1 h.hm).1
  have hB := (h.ge M (by rw [h.tm]; omega)).2
  refine ⟨⟨(hb.block M hM).trans h.hm, by rw [h1 M hM]; exact h.tm, h.env.fx F, h.opn, Row.claimT h.ho hb h1, Row.claimT h.hh hb h1, Row.claimT h.hx hb h1, fun i p hp => ?_, h2, fun k hk => ⟨?_, Nat.le_trans hB hb.size⟩⟩, F⟩
  · have c := h.fr i p hp
    exact ⟨Row.claimT c.rg hb h1, Row.claimT c.sl hb h1, Row.claimT c.ar hb h1, Row.claimT c.rd hb h1⟩
  · by_cases e : k < w.heap.size
    · rw [h1 k e] at hk; exact (h.ge k hk).1
    · omega
/-- What was laid ready is taken. -/
theorem RRep.takeReady (h : RRep w t base M E V (ol ++ [(f, cv)]) s mk) {ob oc : Nat} (hov : V.ov = .slice (some ⟨ob, 0, none⟩) (ol.length + 1) oc) :
    (RRep (w.setCell ⟨ob, ol.length * 8 + 6, none⟩ (.slice none 0 0)) (updV t cv.yv (13 + 4 * ol.length)) base M E V (ol ++ [({ f with ready := [] }, { cv with yv := .slice none 0 0 })]) (s.top (ol.map Prod.fst) { f with ready := [] }) mk ∧ Fx w (w.setCell ⟨ob, ol.length * 8 + 6, none⟩ (.slice none 0 0)) t (updV t cv.yv (13 + 4 * ol.length))) ∧
    Row (w.setCell ⟨ob, ol.length * 8 + 6, none⟩ (.slice none 0 0)) (updV t cv.yv (13 + 4 * ol.length)) base 2 1 cv.yv f.ready.length (intsV f.ready) (13 + 4 * ol.length) := by
  have hl := h.fr.last
  have T : Trn w w t (updV t cv.yv (13 + 4 * ol.length)) (10 + 4 * ol.length) base := Trn.retag hl.rd.tag (fun g hg => (hl.rd.lt g hg).1) (by omega) (by omega) h.ge
  refine ⟨h.newReady hov T (y' := []) (Row.nil _ _ _ _ _ _), ?_⟩
  have r0 : Row w (updV t cv.yv (13 + 4 * ol.length)) base 2 1 cv.yv f.ready.length (intsV f.ready) (13 + 4 * ol.length) := ⟨hl.rd.own, updV_self _ _ _⟩
  have tob : t ob = 4 := h.ho.tag ob (by simp [hov, Value.ownBlock])
  have hob : ob < w.heap.size := (h.ho.lt ob (by simp [hov, Value.ownBlock])).1
  have tob1 : updV t cv.yv (13 + 4 * ol.length) ob = 4 := by rw [(T.blks ob hob (by omega)).2]; exact tob
  exact r0.only (Only.set _ tob1) (by omega)
/-- The innermost call is over. -/
theorem RRep.pop {p : Fr × CV} (h : RRep w t base M E V (ol ++ [p]) s mk) {ob oc : Nat} (hov : V.ov = .slice (some ⟨ob, 0, none⟩) (ol.length + 1) oc) :
    RRep (w.setCell ⟨M, 6, none⟩ (.slice (some ⟨ob, 0, none⟩) ol.length oc)) t base M E { V with ov := .slice (some ⟨ob, 0, none⟩) ol.length oc } ol { s with opn := ol.map Prod.fst } mk := by
  have S : Trn w (w.setCell ⟨M, 6, none⟩ (.slice (some ⟨ob, 0, none⟩) ol.length oc)) t t 3 base := Trn.only (Only.set _ h.tm) (by omega)
  have hr : Row w t base 100 8 (.slice (some ⟨ob, 0, none⟩) ol.length oc) ol.length (callsC ol) 4 := by
    have h1 := h.ho
    rw [hov] at h1
    have h3 := h1.own
    rw [List.length_append, List.length_singleton] at h3
    have h2 := ocut h3 (k := ol.length) (by omega)
    rw [callsC_snoc, ← callsC_length, List.take_left] at h2
    exact ⟨h2, fun k hk => h1.tag k hk⟩
  refine ⟨?_, h.tm, h.env.fx S.fx, rfl, S.rows hr (by omega), S.rows h.hh (by omega), S.rows h.hx (by omega), h.fr.init.trn S (.inl (by omega)), S.lt h.lt, S.ge h.ge⟩
  rw [heap_set h.hm]
  simp [rC]
/-- A call more. -/
theorem RRep.push (h : RRep w t base M E V cl s mk) (T : Trn w w1 t t1 4 base) {p : Fr × CV} (hr : Row w1 t1 base 100 8 v' (cl.length + 1) (callsC (cl ++ [p])) 4) (hp : CRep w1 t1 base cl.length p) :
    RRep (w1.setCell ⟨M, 6, none⟩ v') t1 base M E { V with ov := v' } (cl ++ [p]) { s with opn := s.opn ++ [p.1] } mk ∧ Fx w (w1.setCell ⟨M, 6, none⟩ v') t t1 := by
  obtain ⟨b1, b2⟩ := T.blks M (Array.getElem?_eq_some_iff.1 h.hm).1 (by rw [h.tm]; omega)
  have hm1 := b1.trans h.hm
  have tm1 : t1 M = 3 := b2.trans h.tm
  have S : Trn w1 (w1.setCell ⟨M, 6, none⟩ v') t1 t1 3 base := Trn.only (Only.set v' tm1) (by omega)
  have F := T.fx.trans S.fx
  refine ⟨⟨?_, tm1, h.env.fx F, by simp [h.opn], ?_, S.rows (T.rows h.hh (by omega)) (by omega), S.rows (T.rows h.hx (by omega)) (by omega), CAll.snoc ((h.fr.trn T (.inl (by omega))).trn S (.inl (by omega))) (hp.trn S (.inl (by omega))), S.lt (T.lt h.lt), S.ge (T.ge h.ge)⟩, F⟩
  · rw [heap_set hm1]
    simp [rC]
  · rw [List.length_append, List.length_singleton]
    exact S.rows hr (by omega)
end
end Go.Proofs.Ytgjmdcbdkdmceaa.Mach
