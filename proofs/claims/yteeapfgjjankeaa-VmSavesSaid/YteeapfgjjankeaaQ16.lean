/- The machine while its tape is read: what a place's writing is to it. -/
import Derived.Test.YteeapfgjjankeaaQ15
import Derived.Test.YteeapfgjjankeaaQ21
namespace Go.Proofs.Yteeapfgjjankeaa.Mach
open Go.RowKit

/-- A machine hangs on its own blocks alone. -/
theorem MRep.view {w w' : World} {t : Nat → Nat} {base M : Nat} {E : Env} {V : MV} {cl : List (Fr × FV)} {s : St} (h : MRep w t base M E V cl s) (hs : ∀ k, t k ≠ 0 → w'.heap[k]? = w.heap[k]?) (hz : w.heap.size ≤ w'.heap.size) : MRep w' t base M E V cl s := by
  have row : ∀ {T : TypeId} {v : Value} {n c : Nat} {xs : List Value}, Row w t base T 1 v n xs c → c ≠ 0 → Row w' t base T 1 v n xs c := fun r hc => ⟨osame r.own fun k hk => hs k (by rw [r.tag k hk]; exact hc), r.tag⟩
  refine ⟨(hs M (by rw [h.tm]; omega)).trans h.hm, h.tm, ⟨⟨?_, h.env.tw, ?_, h.env.te, ?_, h.env.ti⟩, h.env.nw, h.env.ne, h.env.ni⟩, h.opn, row h.ho (by omega), row h.hh (by omega), row h.hx (by omega), fun i p hp => ?_, fun k hk => Nat.lt_of_lt_of_le (h.lt k hk) hz, fun k hk => ⟨(h.ge k hk).1, Nat.le_trans (h.ge k hk).2 hz⟩⟩
  · exact Rd.keepB h.env.hw fun hn k _ hb => hs k (h.env.nw hn k hb)
  · exact Rd.keepB h.env.he fun hn k _ hb => hs k (h.env.ne hn k hb)
  · exact Rd.keepB h.env.hi fun hn k _ hb => hs k (h.env.ni hn k hb)
  · have q := h.fr i p hp
    exact ⟨(hs _ (by rw [q.tf]; omega)).trans q.fb, q.tf, q.rl, row q.sl (by omega), row q.ar (by omega), row q.rd (by omega)⟩
/-- The old blocks of one world, the new ones of another. -/
def graft (w w' : World) : World := { w' with heap := w.heap ++ w'.heap.extract w.heap.size w'.heap.size }
theorem graft_old (w w' : World) {k : Nat} (hk : k < w.heap.size) : (graft w w').heap[k]? = w.heap[k]? := by
  simp only [graft]
  rw [Array.getElem?_append_left hk]
theorem graft_new (w w' : World) {k : Nat} (hz : w.heap.size ≤ w'.heap.size) (hk : w.heap.size ≤ k) : (graft w w').heap[k]? = w'.heap[k]? := by
  simp only [graft]
  rw [Array.getElem?_append_right hk]
  simp only [Array.getElem?_extract]
  have e : w.heap.size + (k - w.heap.size) = k := by omega
  rw [e]
  by_cases h : k < w'.heap.size
  · rw [if_pos (by omega)]
  · rw [if_neg (by omega), Array.getElem?_eq_none (by omega)]
theorem graft_size (w w' : World) (hz : w.heap.size ≤ w'.heap.size) : (graft w w').heap.size = w'.heap.size := by
  simp only [graft, Array.size_append, Array.size_extract]
  omega
/-- A call among the others turns. -/
theorem MRep.setI {w wg w1 : World} {t t1 t2 : Nat → Nat} {base M i c d : Nat} {E : Env} {V : MV} {cl : List (Fr × FV)} {s : St} {p p' : Fr × FV} (h : MRep w t base M E V cl s) (hi : cl[i]? = some p) (T : Trn w wg t t1 c base) (S : Trn wg w1 t1 t2 d base)
    (hc : 7 + 4 * i ≤ c ∧ c ≤ 10 + 4 * i) (hd : 7 + 4 * i ≤ d ∧ d ≤ 10 + 4 * i) (hp : PRep w1 t2 base i p') (hb : p'.2.blk = p.2.blk) :
    MRep w1 t2 base M E V (cl.set i p') { s with opn := (cl.set i p').map Prod.fst } ∧ Fx w w1 t t2 := by
  have F := T.fx.trans S.fx
  obtain ⟨c1, c2⟩ := T.blks M h.ltM (by rw [h.tm]; omega)
  obtain ⟨d1, d2⟩ := S.blks M (Nat.lt_of_lt_of_le h.ltM T.fx.size) (by rw [c2, h.tm]; omega)
  refine ⟨⟨d1.trans (c1.trans h.hm), d2.trans (c2.trans h.tm), h.env.fx F, rfl, ?_, S.rows (T.rows h.hh (by omega)) (by omega), S.rows (T.rows h.hx (by omega)) (by omega), fun j q hq => ?_, S.lt (T.lt h.lt), S.ge (T.ge h.ge)⟩, F⟩
  · have h1 := S.rows (T.rows h.ho (by omega)) (by omega)
    have e : ptrC (cl.set i p') = ptrC cl := by
      simp only [ptrC, List.map_set, hb]
      apply List.ext_getElem?
      intro j
      rw [List.getElem?_set]
      split
      · rename_i e
        subst e
        obtain ⟨hil, hip⟩ := List.getElem?_eq_some_iff.1 hi
        simp [hil, hip]
      · rfl
    rw [List.length_set, e]
    exact h1
  · rw [List.getElem?_set] at hq
    split at hq
    · rename_i e
      subst e
      split at hq
      · obtain rfl := Option.some.inj hq
        exact hp
      · cases hq
    · rename_i e
      exact ((h.fr j q hq).trn T (by omega)).trn S (by omega)
/-- A machine in the midst of its reading. -/
structure RdM (w0 w : World) (base B M : Nat) (E : Env) (bad : Bool) (p : List Int) (t : Nat → Nat) (V : MV) (cl : List (Fr × FV)) (s : St) : Prop where
  rep : MRep w t base M E V cl s
  tap : TapR w0 base B bad p w
  tB : t B = 0
  low : ∀ k, t k ≠ 0 → base ≤ k
section
variable {w0 w w' : World} {base B M : Nat} {E : Env} {bad bad' : Bool} {p p' : List Int} {t : Nat → Nat} {V : MV} {cl : List (Fr × FV)} {s s' : St}
/-- One place written. -/
theorem RdM.put {a : Addr} {v : Value} {cl' : List (Fr × FV)} {V' : MV} (h : RdM w0 w base B M E bad p t V cl s) (hr : MRep (w.setCell a v) t base M E V' cl' s') (ht : TapR w0 base B bad' p' w') (hw : RW w w' B a v) : RdM w0 w' base B M E bad' p' t V' cl' s' := by
  refine ⟨hr.view (fun k hk => hw.at_ k (h.rep.lt k hk) (fun e => hk (by rw [e]; exact h.tB))) (by rw [World.size_setCell]; exact hw.size), ht, h.tB, h.low⟩
theorem RdM.MB (h : RdM w0 w base B M E bad p t V cl s) : M ≠ B := fun e => by
  have := h.rep.tm
  rw [e, h.tB] at this
  omega
theorem RdM.bM (h : RdM w0 w base B M E bad p t V cl s) : base ≤ M := h.low M (by rw [h.rep.tm]; omega)
theorem RdM.later (h : RdM w0 w base B M E bad p t V cl s) (hb : Below w.heap.size w w') : RdM w0 w' base B M E bad p t V cl s := ⟨h.rep.below hb, h.tap.later hb, h.tB, h.low⟩
end
end Go.Proofs.Yteeapfgjjankeaa.Mach

/- The machine while its tape is read: a list. -/
namespace Go.Proofs.Yteeapfgjjankeaa.Mach
open Go.RowKit

theorem updV_ne {t : Nat → Nat} {v : Value} {c k : Nat} (h : v.ownBlock ≠ some k) : updV t v c k = t k := by
  unfold updV
  cases e : v.ownBlock with
  | none => rfl
  | some g => exact upd_ne (fun e2 => h (by rw [e, e2]))
/-- A list's row is new: the world without the pointer to it. -/
structure Grafted (w w' : World) (B nb no base : Nat) (t : Nat → Nat) (c : Nat) (v' : Value) (n : Nat) (xs : List Value) : Prop where
  T : Trn w (graft w w') t (updV t v' c) c base
  row : Row (graft w w') (updV t v' c) base 2 1 v' n xs c
  old : ∀ k, k < w.heap.size → updV t v' c k = t k
  view : ∀ k, updV t v' c k ≠ 0 → w'.heap[k]? = ((graft w w').setCell ⟨nb, no, none⟩ v').heap[k]?
  size : ((graft w w').setCell ⟨nb, no, none⟩ v').heap.size ≤ w'.heap.size
  blk : ∀ k, k < w.heap.size → (graft w w').heap[k]? = w.heap[k]?
theorem grafted {w w' : World} {B nb no base c : Nat} {t : Nat → Nat} {v' : Value} {n : Nat} {xs : List Value} (hw : RW w w' B ⟨nb, no, none⟩ v') (ho : w'.ownsRow w.heap.size 2 1 v' n xs) (hnb : nb < w.heap.size) (hc : 2 < c) (hbs : base ≤ w.heap.size) (htB : t B = 0) : Grafted w w' B nb no base t c v' n xs := by
  have hz := hw.size
  have hog : (graft w w').ownsRow w.heap.size 2 1 v' n xs := osame ho fun k hk => graft_new w w' hz (oblk ho k hk).1
  have hog' : (graft w w').ownsRow base 2 1 v' n xs := odown hog hbs
  have hold : ∀ k, k < w.heap.size → updV t v' c k = t k := fun k hk => updV_ne fun e => by have := (oblk ho k e).1; omega
  refine ⟨Trn.grown (u := .slice none 0 0) ⟨hw.os, hw.tape, hw.output, by rw [graft_size _ _ hz]; exact hz, fun k hk _ => graft_old w w' hk⟩ (Tv.none _ _) (fun g hg => .inl (oblk ho g hg).1) hog' hc hbs, ⟨hog', updV_self _ _ _⟩, hold, fun k hk => ?_, by rw [World.size_setCell, graft_size _ _ hz]; exact Nat.le_refl _, fun k hk => graft_old w w' hk⟩
  by_cases hkw : k < w.heap.size
  · rw [hold k hkw] at hk
    rw [hw.at_ k hkw (fun e => hk (by rw [e]; exact htB))]
    exact hs_congr (graft_old w w' hkw).symm
  · rw [Below.heap_setCell _ _ _ _ (by show k ≠ nb; omega), graft_new w w' hz (by omega)]
section
variable {w0 w w' : World} {base B M : Nat} {E : Env} {bad : Bool} {p : List Int} {t : Nat → Nat} {V : MV} {cl : List (Fr × FV)} {s : St}
/-- Nothing came of it. -/
theorem RdM.none_ {nb no : Nat} {old : Value} {bad' : Bool} {p' : List Int} (h : RdM w0 w base B M E bad p t V cl s) (hc : w.cell? ⟨nb, no, none⟩ = some old) (ht : TapR w0 base B bad' p' w') (hw : RW w w' B ⟨nb, no, none⟩ old) : RdM w0 w' base B M E bad' p' t V cl s :=
  h.put (a := ⟨nb, no, none⟩) (v := old) (by rw [setCell_id hc]; exact h.rep) ht hw
theorem RdM.grafted {nb no c : Nat} {v' : Value} {l : List Int} {bad' : Bool} {p' : List Int} {V' : MV} {cl' : List (Fr × FV)} {s' : St} (h : RdM w0 w base B M E bad p t V cl s) (ht : TapR w0 base B bad' p' w') (G : Grafted w w' B nb no base t c v' l.length (intsV l)) (hr : MRep ((graft w w').setCell ⟨nb, no, none⟩ v') (updV t v' c) base M E V' cl' s') : RdM w0 w' base B M E bad' p' (updV t v' c) V' cl' s' := by
  have hbs := h.rep.bs
  refine ⟨hr.view G.view G.size, ht, (G.old B h.tap.blkB).trans h.tB, fun k hk => ?_⟩
  by_cases hkw : k < w.heap.size
  · rw [G.old k hkw] at hk
    exact h.low k hk
  · omega
theorem RdM.outs (h : RdM w0 w base B M E bad p t V cl s) (hl : LPost w0 w base B M 10 V.xv bad p w') : ∃ t' V', RdM w0 w' base B M E (listF bad p).2.1 (listF bad p).2.2 t' V' cl { s with outs := (listF bad p).1.getD s.outs } := by
  obtain ⟨ht, v', hw, hn, hs⟩ := hl
  cases e : (listF bad p).1 with
  | none =>
    have hv := hn e
    subst hv
    exact ⟨t, V, h.none_ ((h.rep.cellM 10).trans (mC_get V s).2.2.2.2.2.2.2.2.1) ht hw⟩
  | some l =>
    have G := Mach.grafted (base := base) (t := t) (c := 6) hw (hs l e) h.rep.ltM (by omega) h.rep.bs h.tB
    exact ⟨_, _, h.grafted ht G (h.rep.newOuts G.T G.row).1⟩
theorem RdM.heap (h : RdM w0 w base B M E bad p t V cl s) (hl : LPost w0 w base B M 6 V.hv bad p w') : ∃ t' V', RdM w0 w' base B M E (listF bad p).2.1 (listF bad p).2.2 t' V' cl { s with heap := (listF bad p).1.getD s.heap } := by
  obtain ⟨ht, v', hw, hn, hs⟩ := hl
  cases e : (listF bad p).1 with
  | none =>
    have hv := hn e
    subst hv
    exact ⟨t, V, h.none_ ((h.rep.cellM 6).trans (mC_get V s).2.2.2.2.1) ht hw⟩
  | some l =>
    have G := Mach.grafted (base := base) (t := t) (c := 5) hw (hs l e) h.rep.ltM (by omega) h.rep.bs h.tB
    exact ⟨_, _, h.grafted ht G (h.rep.newHeap G.T G.row).1⟩
end
end Go.Proofs.Yteeapfgjjankeaa.Mach

/- The machine while its tape is read: a call's places. -/
namespace Go.Proofs.Yteeapfgjjankeaa.Mach
open Go.RowKit

theorem fC_fn (f : Fr) (c : FV) (n : Int) : (fC f c).setIfInBounds 0 (.int .i64 n) = fC { f with fn := n } c := by rw [fC_set]; rfl
theorem fC_dst (f : Fr) (c : FV) (h : f.regs.length = 16) (n : Int) : (fC f c).setIfInBounds 21 (.int .u8 n) = fC { f with dst := n } c := by
  rw [fC_set]
  show (⟨.int .i64 f.fn :: .int .i64 f.next :: (intsV f.regs ++ [c.sv, c.av, c.yv, .int .u8 f.dst]).set 19 (.int .u8 n)⟩ : Array Value) = _
  rw [List.set_append_right _ _ (by simp [intsV]; omega)]
  have e : 19 - (intsV f.regs).length = 3 := by simp [intsV]; omega
  rw [e]
  rfl
theorem fC_slots (f : Fr) (c : FV) (h : f.regs.length = 16) (y : List Int) (v : Value) : (fC f c).setIfInBounds 18 v = fC { f with slots := y } { c with sv := v } := by
  rw [fC_set]
  show (⟨.int .i64 f.fn :: .int .i64 f.next :: (intsV f.regs ++ [c.sv, c.av, c.yv, .int .u8 f.dst]).set 16 v⟩ : Array Value) = _
  rw [List.set_append_right _ _ (by simp [intsV]; omega)]
  have e : 16 - (intsV f.regs).length = 0 := by simp [intsV]; omega
  rw [e]
  rfl
theorem fC_args (f : Fr) (c : FV) (h : f.regs.length = 16) (y : List Int) (v : Value) : (fC f c).setIfInBounds 19 v = fC { f with args := y } { c with av := v } := by
  rw [fC_set]
  show (⟨.int .i64 f.fn :: .int .i64 f.next :: (intsV f.regs ++ [c.sv, c.av, c.yv, .int .u8 f.dst]).set 17 v⟩ : Array Value) = _
  rw [List.set_append_right _ _ (by simp [intsV]; omega)]
  have e : 17 - (intsV f.regs).length = 1 := by simp [intsV]; omega
  rw [e]
  rfl
/-- The calls with one of them turned. -/
def setFr (s : St) (cl : List (Fr × FV)) (i : Nat) (p : Fr × FV) : St := { s with opn := (cl.set i p).map Prod.fst }
section
variable {w0 w w' : World} {base B M i : Nat} {E : Env} {bad bad' : Bool} {p p' : List Int} {t : Nat → Nat} {V : MV} {cl : List (Fr × FV)} {s : St} {f f' : Fr} {cv : FV}
theorem RdM.putF {j : Nat} {v : Value} (h : RdM w0 w base B M E bad p t V cl s) (hi : cl[i]? = some (f, cv)) (hs : (fC f cv).setIfInBounds j v = fC f' cv) (hl : f'.regs.length = 16) (e1 : f'.slots = f.slots) (e2 : f'.args = f.args) (e3 : f'.ready = f.ready)
    (ht : TapR w0 base B bad' p' w') (hw : RW w w' B ⟨cv.blk, j, none⟩ v) : RdM w0 w' base B M E bad' p' t V (cl.set i (f', cv)) (setFr s cl i (f', cv)) := by
  have q := h.rep.fr i _ hi
  have tf : t cv.blk = 7 + 4 * i := q.tf
  have S : Trn w (w.setCell ⟨cv.blk, j, none⟩ v) t t (7 + 4 * i) base := Trn.only (Only.set v tf) (by omega)
  refine h.put (h.rep.setI hi (Trn.refl w t (7 + 4 * i) base) S (by omega) (by omega) (p' := (f', cv)) ⟨?_, tf, hl, ?_, ?_, ?_⟩ rfl).1 ht hw
  · show (w.setCell ⟨cv.blk, j, none⟩ v).heap[cv.blk]? = _
    rw [heap_set q.fb, hs]
  · show Row _ t base _ 1 cv.sv f'.slots.length (intsV f'.slots) _
    rw [e1]; exact S.rows q.sl (by omega)
  · show Row _ t base _ 1 cv.av f'.args.length (intsV f'.args) _
    rw [e2]; exact S.rows q.ar (by omega)
  · show Row _ t base _ 1 cv.yv f'.ready.length (intsV f'.ready) _
    rw [e3]; exact S.rows q.rd (by omega)
theorem RdM.slotsF (h : RdM w0 w base B M E bad p t V cl s) (hi : cl[i]? = some (f, cv)) (hl : LPost w0 w base B cv.blk 18 cv.sv bad p w') : ∃ t' cv', cv'.blk = cv.blk ∧ RdM w0 w' base B M E (listF bad p).2.1 (listF bad p).2.2 t' V (cl.set i ({ f with slots := (listF bad p).1.getD f.slots }, cv')) (setFr s cl i ({ f with slots := (listF bad p).1.getD f.slots }, cv')) := by
  obtain ⟨ht, v', hw, hn, hs⟩ := hl
  have q := h.rep.fr i _ hi
  cases e : (listF bad p).1 with
  | none =>
    have hv := hn e
    subst hv
    exact ⟨t, cv, rfl, h.putF hi (by rw [fC_slots f cv q.rl f.slots cv.sv]; rfl) q.rl rfl rfl rfl ht hw⟩
  | some l =>
    have G := Mach.grafted (base := base) (t := t) (c := 8 + 4 * i) hw (hs l e) q.lt (by omega) h.rep.bs h.tB
    have tf1 : updV t v' (8 + 4 * i) cv.blk = 7 + 4 * i := (G.old _ q.lt).trans q.tf
    have S : Trn (graft w w') ((graft w w').setCell ⟨cv.blk, 18, none⟩ v') (updV t v' (8 + 4 * i)) (updV t v' (8 + 4 * i)) (7 + 4 * i) base := Trn.only (Only.set v' tf1) (by omega)
    refine ⟨_, { cv with sv := v' }, rfl, h.grafted ht G (h.rep.setI hi G.T S (by omega) (by omega) (p' := ({ f with slots := l }, { cv with sv := v' })) ⟨?_, tf1, q.rl, S.rows G.row (by omega), S.rows (G.T.rows q.ar (by omega)) (by omega), S.rows (G.T.rows q.rd (by omega)) (by omega)⟩ rfl).1⟩
    show ((graft w w').setCell ⟨cv.blk, 18, none⟩ v').heap[cv.blk]? = _
    rw [heap_set ((G.blk _ q.lt).trans q.fb), fC_slots f cv q.rl l v']
theorem RdM.argsF (h : RdM w0 w base B M E bad p t V cl s) (hi : cl[i]? = some (f, cv)) (hl : LPost w0 w base B cv.blk 19 cv.av bad p w') : ∃ t' cv', cv'.blk = cv.blk ∧ RdM w0 w' base B M E (listF bad p).2.1 (listF bad p).2.2 t' V (cl.set i ({ f with args := (listF bad p).1.getD f.args }, cv')) (setFr s cl i ({ f with args := (listF bad p).1.getD f.args }, cv')) := by
  obtain ⟨ht, v', hw, hn, hs⟩ := hl
  have q := h.rep.fr i _ hi
  cases e : (listF bad p).1 with
  | none =>
    have hv := hn e
    subst hv
    exact ⟨t, cv, rfl, h.putF hi (by rw [fC_args f cv q.rl f.args cv.av]; rfl) q.rl rfl rfl rfl ht hw⟩
  | some l =>
    have G := Mach.grafted (base := base) (t := t) (c := 9 + 4 * i) hw (hs l e) q.lt (by omega) h.rep.bs h.tB
    have tf1 : updV t v' (9 + 4 * i) cv.blk = 7 + 4 * i := (G.old _ q.lt).trans q.tf
    have S : Trn (graft w w') ((graft w w').setCell ⟨cv.blk, 19, none⟩ v') (updV t v' (9 + 4 * i)) (updV t v' (9 + 4 * i)) (7 + 4 * i) base := Trn.only (Only.set v' tf1) (by omega)
    refine ⟨_, { cv with av := v' }, rfl, h.grafted ht G (h.rep.setI hi G.T S (by omega) (by omega) (p' := ({ f with args := l }, { cv with av := v' })) ⟨?_, tf1, q.rl, S.rows (G.T.rows q.sl (by omega)) (by omega), S.rows G.row (by omega), S.rows (G.T.rows q.rd (by omega)) (by omega)⟩ rfl).1⟩
    show ((graft w w').setCell ⟨cv.blk, 19, none⟩ v').heap[cv.blk]? = _
    rw [heap_set ((G.blk _ q.lt).trans q.fb), fC_args f cv q.rl l v']
theorem RdM.readyF (h : RdM w0 w base B M E bad p t V cl s) (hi : cl[i]? = some (f, cv)) (hl : LPost w0 w base B cv.blk 20 cv.yv bad p w') : ∃ t' cv', cv'.blk = cv.blk ∧ RdM w0 w' base B M E (listF bad p).2.1 (listF bad p).2.2 t' V (cl.set i ({ f with ready := (listF bad p).1.getD f.ready }, cv')) (setFr s cl i ({ f with ready := (listF bad p).1.getD f.ready }, cv')) := by
  obtain ⟨ht, v', hw, hn, hs⟩ := hl
  have q := h.rep.fr i _ hi
  cases e : (listF bad p).1 with
  | none =>
    have hv := hn e
    subst hv
    exact ⟨t, cv, rfl, h.putF hi (by rw [fC_ready f cv q.rl f.ready cv.yv]; rfl) q.rl rfl rfl rfl ht hw⟩
  | some l =>
    have G := Mach.grafted (base := base) (t := t) (c := 10 + 4 * i) hw (hs l e) q.lt (by omega) h.rep.bs h.tB
    have tf1 : updV t v' (10 + 4 * i) cv.blk = 7 + 4 * i := (G.old _ q.lt).trans q.tf
    have S : Trn (graft w w') ((graft w w').setCell ⟨cv.blk, 20, none⟩ v') (updV t v' (10 + 4 * i)) (updV t v' (10 + 4 * i)) (7 + 4 * i) base := Trn.only (Only.set v' tf1) (by omega)
    refine ⟨_, { cv with yv := v' }, rfl, h.grafted ht G (h.rep.setI hi G.T S (by omega) (by omega) (p' := ({ f with ready := l }, { cv with yv := v' })) ⟨?_, tf1, q.rl, S.rows (G.T.rows q.sl (by omega)) (by omega), S.rows (G.T.rows q.ar (by omega)) (by omega), S.rows G.row (by omega)⟩ rfl).1⟩
    show ((graft w w').setCell ⟨cv.blk, 20, none⟩ v').heap[cv.blk]? = _
    rw [heap_set ((G.blk _ q.lt).trans q.fb), fC_ready f cv q.rl l v']
end
end Go.Proofs.Yteeapfgjjankeaa.Mach

/- The machine while its tape is read: its calls, made anew. -/
namespace Go.Proofs.Yteeapfgjjankeaa.Mach
open Go.RowKit

def zFr : Fr := ⟨0, 0, List.replicate 16 0, [], [], [], 0⟩
section
variable {w0 w w' : World} {base B M : Nat} {E : Env} {bad : Bool} {p : List Int} {t : Nat → Nat} {V : MV} {cl : List (Fr × FV)} {s : St}
theorem MRep.noCalls (h : MRep w t base M E V cl s) : MRep (w.setCell ⟨M, 5, none⟩ (.slice none 0 0)) t base M E { V with ov := .slice none 0 0 } [] { s with opn := [] } := by
  have S : Trn w (w.setCell ⟨M, 5, none⟩ (.slice none 0 0)) t t 3 base := Trn.only (Only.set _ h.tm) (by omega)
  refine ⟨?_, h.tm, h.env.fx S.fx, rfl, Row.nil _ _ _ _ _ _, S.rows h.hh (by omega), S.rows h.hx (by omega), fun i q hq => by simp at hq, S.lt h.lt, S.ge h.ge⟩
  rw [heap_set h.hm]
  simp [mC]
theorem RdM.noCalls (h : RdM w0 w base B M E bad p t V cl s) : RdM w0 (w.setCell ⟨M, 5, none⟩ (.slice none 0 0)) base B M E bad p t { V with ov := .slice none 0 0 } [] { s with opn := [] } :=
  ⟨h.rep.noCalls, h.tap.set ⟨M, 5, none⟩ _ h.MB h.bM, h.tB, h.low⟩
/-- A new call's block. -/
theorem RdM.made (h : RdM w0 w base B M E bad p t V cl s) : ∃ t', RdM w0 (w.alloc (.cells (fC zFr ⟨w.heap.size, .slice none 0 0, .slice none 0 0, .slice none 0 0⟩) 87)) base B M E bad p t' V cl s ∧ PRep (w.alloc (.cells (fC zFr ⟨w.heap.size, .slice none 0 0, .slice none 0 0, .slice none 0 0⟩) 87)) t' base cl.length (zFr, ⟨w.heap.size, .slice none 0 0, .slice none 0 0, .slice none 0 0⟩) := by
  have hb : Below w.heap.size w (w.alloc (.cells (fC zFr ⟨w.heap.size, .slice none 0 0, .slice none 0 0, .slice none 0 0⟩) 87)) := (Below.refl _ _).alloc (Nat.le_refl _) _
  have hbs := h.rep.bs
  have h1 : ∀ k, k < w.heap.size → upd t w.heap.size (7 + 4 * cl.length) k = t k := fun k hk => upd_ne (by omega)
  have h2 : ∀ k, upd t w.heap.size (7 + 4 * cl.length) k ≠ 0 → k < (w.alloc (.cells (fC zFr ⟨w.heap.size, .slice none 0 0, .slice none 0 0, .slice none 0 0⟩) 87)).heap.size := fun k hk => by
    rw [World.size_alloc]
    by_cases e : k = w.heap.size
    · omega
    · rw [upd_ne e] at hk
      have := h.rep.lt k hk
      omega
  obtain ⟨h3, -⟩ := h.rep.claimT hb h1 h2
  refine ⟨_, ⟨h3, h.tap.later hb, (h1 B h.tap.blkB).trans h.tB, fun k hk => ?_⟩, heap_alloc_new _ _, upd_at _ _ _, rfl, Row.nil _ _ _ _ _ _, Row.nil _ _ _ _ _ _, Row.nil _ _ _ _ _ _⟩
  by_cases e : k < w.heap.size
  · rw [h1 k e] at hk
    exact h.low k hk
  · omega
theorem RdM.pushed {w8 : World} {o : Obj} {q : Fr × FV} {v' : Value} (h : RdM w0 w base B M E bad p t V cl s) (hp : PRep w t base cl.length q)
    (hg : (w.alloc o).grownBy w8 V.ov.ownBlock) (hf : ∀ g, v'.ownBlock = some g → (w.alloc o).heap.size ≤ g ∨ V.ov.ownBlock = some g) (ho : w8.ownsRow base 74 1 v' (cl.length + 1) (ptrC cl ++ [.pointer (some ⟨q.2.blk, 0, none⟩)])) :
    ∃ t', RdM w0 (w8.setCell ⟨M, 5, none⟩ v') base B M E bad p t' { V with ov := v' } (cl ++ [q]) { s with opn := s.opn ++ [q.1] } := by
  obtain ⟨h1, -⟩ := h.rep.pushed hp hg hf ho
  have hbs := h.rep.bs
  have hsz : w.heap.size ≤ w8.heap.size := by have := hg.size; rw [World.size_alloc] at this; omega
  have hst : ∀ k, k < w.heap.size → t k = 0 → (w8.setCell ⟨M, 5, none⟩ v').heap[k]? = w.heap[k]? := fun k hk h0 => by
    rw [Below.heap_setCell _ _ _ _ (by show k ≠ M; intro e; have := h.rep.tm; rw [← e, h0] at this; omega), hg.block k (by rw [World.size_alloc]; omega) (fun e => by have := h.rep.ho.tag k e.symm; omega)]
    exact Below.heap_alloc _ _ _ hk
  have htl : ∀ k, k < base → t k = 0 := fun k hk => by
    rcases Nat.eq_zero_or_pos (t k) with e | e
    · exact e
    · have := h.low k (by omega)
      omega
  obtain ⟨pv, b1, b2, b3⟩ := h.tap.ht
  have hB := h.tap.blkB
  have hvB : ∀ g, v'.ownBlock = some g → g < w.heap.size → t g = 4 := fun g hg' hgs => by
    rcases hf g hg' with h1 | h1
    · rw [World.size_alloc] at h1; omega
    · exact h.rep.ho.tag g h1
  refine ⟨_, h1, ⟨⟨pv, (hst B hB h.tB).trans b1, Rd.keepB b2 fun hn k hk hkb => hst k hk (htl k (b3 hn k hkb)), b3⟩, h.tap.hB, h.tap.bel.trans ⟨hg.os, hg.tape, hg.output, by rw [World.size_setCell]; exact hsz, fun k hk => hst k (by omega) (htl k hk)⟩, h.tap.bB⟩, ?_, fun k hk => ?_⟩
  · rw [updV_ne fun e => by have := hvB B e hB; have := h.tB; omega]
    exact h.tB
  · by_cases hks : k < w.heap.size
    · by_cases e : v'.ownBlock = some k
      · exact h.low k (by have := hvB k e hks; omega)
      · rw [updV_ne e] at hk
        exact h.low k hk
    · omega
end
end Go.Proofs.Yteeapfgjjankeaa.Mach

/- The machine while its tape is read: one call among the others. -/
namespace Go.Proofs.Yteeapfgjjankeaa.Mach
open Go.RowKit

/-- A machine in the midst of reading its call i. -/
structure InC (w0 w : World) (base B M : Nat) (E : Env) (bad : Bool) (p : List Int) (t : Nat → Nat) (V : MV) (cl : List (Fr × FV)) (s : St) (i : Nat) (f : Fr) (cv : FV) : Prop where
  lt : i < cl.length
  rd : RdM w0 w base B M E bad p t V (cl.set i (f, cv)) (setFr s cl i (f, cv))
theorem setFr_twice (s : St) (cl : List (Fr × FV)) (i : Nat) (p p' : Fr × FV) : setFr (setFr s cl i p) (cl.set i p) i p' = setFr s cl i p' := by simp [setFr, List.set_set]
section
variable {w0 w w' : World} {base B M i : Nat} {E : Env} {bad bad' : Bool} {p p' : List Int} {t : Nat → Nat} {V : MV} {cl : List (Fr × FV)} {s : St} {f f' : Fr} {cv : FV}
theorem InC.get (h : InC w0 w base B M E bad p t V cl s i f cv) : (cl.set i (f, cv))[i]? = some (f, cv) := List.getElem?_set_self h.lt
theorem InC.pr (h : InC w0 w base B M E bad p t V cl s i f cv) : PRep w t base i (f, cv) := h.rd.rep.fr i _ h.get
theorem InC.blk (h : InC w0 w base B M E bad p t V cl s i f cv) : cv.blk ≠ B ∧ base ≤ cv.blk ∧ w.heap[cv.blk]? = some (.cells (fC f cv) 87 (0, 0)) := by
  have tf : t cv.blk = 7 + 4 * i := h.pr.tf
  refine ⟨fun e => ?_, h.rd.low _ (by omega), h.pr.fb⟩
  have := h.rd.tB
  rw [← e, tf] at this
  omega
theorem InC.start (h : RdM w0 w base B M E bad p t V cl s) (hi : cl[i]? = some (f, cv)) : InC w0 w base B M E bad p t V cl s i f cv := by
  obtain ⟨hil, hip⟩ := List.getElem?_eq_some_iff.1 hi
  refine ⟨hil, ?_⟩
  have e : cl.set i (f, cv) = cl := by rw [← hip]; exact List.set_getElem_self hil
  have e2 : setFr s cl i (f, cv) = s := by
    rw [setFr, e, ← h.rep.opn]
  rw [e, e2]
  exact h
theorem InC.put {j : Nat} {v : Value} (h : InC w0 w base B M E bad p t V cl s i f cv) (hs : (fC f cv).setIfInBounds j v = fC f' cv) (hl : f'.regs.length = 16) (e1 : f'.slots = f.slots) (e2 : f'.args = f.args) (e3 : f'.ready = f.ready)
    (ht : TapR w0 base B bad' p' w') (hw : RW w w' B ⟨cv.blk, j, none⟩ v) : InC w0 w' base B M E bad' p' t V cl s i f' cv := by
  have h1 := h.rd.putF h.get hs hl e1 e2 e3 ht hw
  rw [List.set_set, setFr_twice] at h1
  exact ⟨h.lt, h1⟩
theorem InC.fn {x : Int} (h : InC w0 w base B M E bad p t V cl s i f cv) (ht : TapR w0 base B bad' p' w') (hw : RW w w' B ⟨cv.blk, 0, none⟩ (.int .i64 x)) : InC w0 w' base B M E bad' p' t V cl s i { f with fn := x } cv :=
  h.put (fC_fn f cv x) h.pr.rl rfl rfl rfl ht hw
theorem InC.next {x : Int} (h : InC w0 w base B M E bad p t V cl s i f cv) (ht : TapR w0 base B bad' p' w') (hw : RW w w' B ⟨cv.blk, 1, none⟩ (.int .i64 x)) : InC w0 w' base B M E bad' p' t V cl s i { f with next := x } cv :=
  h.put (fC_next f cv x) h.pr.rl rfl rfl rfl ht hw
theorem InC.dst {x : Int} (h : InC w0 w base B M E bad p t V cl s i f cv) (ht : TapR w0 base B bad' p' w') (hw : RW w w' B ⟨cv.blk, 21, none⟩ (.int .u8 x)) : InC w0 w' base B M E bad' p' t V cl s i { f with dst := x } cv :=
  h.put (fC_dst f cv h.pr.rl x) h.pr.rl rfl rfl rfl ht hw
theorem InC.reg {j : Nat} (hj : j < 16) {x : Int} (h : InC w0 w base B M E bad p t V cl s i f cv) (ht : TapR w0 base B bad' p' w') (hw : RW w w' B ⟨cv.blk, 2 + j, none⟩ (.int .i64 x)) : InC w0 w' base B M E bad' p' t V cl s i { f with regs := f.regs.set j x } cv :=
  h.put (fC_reg f cv h.pr.rl j hj x) (by show (f.regs.set j x).length = 16; rw [List.length_set]; exact h.pr.rl) rfl rfl rfl ht hw
theorem InC.slots (h : InC w0 w base B M E bad p t V cl s i f cv) (hl : LPost w0 w base B cv.blk 18 cv.sv bad p w') : ∃ t' cv', cv'.blk = cv.blk ∧ InC w0 w' base B M E (listF bad p).2.1 (listF bad p).2.2 t' V cl s i { f with slots := (listF bad p).1.getD f.slots } cv' := by
  obtain ⟨t', cv', h1, h2⟩ := h.rd.slotsF h.get hl
  rw [List.set_set, setFr_twice] at h2
  exact ⟨t', cv', h1, h.lt, h2⟩
theorem InC.args (h : InC w0 w base B M E bad p t V cl s i f cv) (hl : LPost w0 w base B cv.blk 19 cv.av bad p w') : ∃ t' cv', cv'.blk = cv.blk ∧ InC w0 w' base B M E (listF bad p).2.1 (listF bad p).2.2 t' V cl s i { f with args := (listF bad p).1.getD f.args } cv' := by
  obtain ⟨t', cv', h1, h2⟩ := h.rd.argsF h.get hl
  rw [List.set_set, setFr_twice] at h2
  exact ⟨t', cv', h1, h.lt, h2⟩
theorem InC.ready (h : InC w0 w base B M E bad p t V cl s i f cv) (hl : LPost w0 w base B cv.blk 20 cv.yv bad p w') : ∃ t' cv', cv'.blk = cv.blk ∧ InC w0 w' base B M E (listF bad p).2.1 (listF bad p).2.2 t' V cl s i { f with ready := (listF bad p).1.getD f.ready } cv' := by
  obtain ⟨t', cv', h1, h2⟩ := h.rd.readyF h.get hl
  rw [List.set_set, setFr_twice] at h2
  exact ⟨t', cv', h1, h.lt, h2⟩
end
end Go.Proofs.Yteeapfgjjankeaa.Mach
