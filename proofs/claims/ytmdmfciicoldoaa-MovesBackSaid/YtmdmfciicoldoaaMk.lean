/- The memory of the program's ordering: four variables, two maps, a queue and a list. -/
import Derived.Test.YtmdmfciicoldoaaMj
namespace Go.Proofs.Ytmdmfciicoldoaa
open Go.RowKit Go.Maps

theorem cell_of_heap {w : World} {b o : Nat} {cs : Array Value} {e : TypeId} {f : Nat × Nat} {v : Value} (h : w.heap[b]? = some (.cells cs e f)) (hv : cs[o]? = some v) : w.cell? ⟨b, o, none⟩ = some v := by simp [World.cell?, h, hv]
theorem free_of_heap {w : World} {b o : Nat} {cs : Array Value} {e : TypeId} (h : w.heap[b]? = some (.cells cs e (0, 0))) : w.frozen? ⟨b, o, none⟩ = false := by simp [World.frozen?, h]
theorem own_blk {w : World} {base : Nat} {e : TypeId} {size n : Nat} {v : Value} {xs : List Value} (h : w.ownsRow base e size v n xs) : ∀ k, v.ownBlock = some k → base ≤ k ∧ ∃ cur, w.heap[k]? = some (.cells cur e (0, 0)) := by
  intro k hk
  rcases h.2 with ⟨rfl, _⟩ | ⟨g, cap, cur, rfl, h1, h2, _⟩
  · cases hk
  · simp [Value.ownBlock] at hk; subst hk; exact ⟨h1, cur, h2⟩
theorem own_same {w w' : World} {base : Nat} {e : TypeId} {size n : Nat} {v : Value} {xs : List Value} (h : w.ownsRow base e size v n xs) (hk : ∀ k, v.ownBlock = some k → w'.heap[k]? = w.heap[k]?) : w'.ownsRow base e size v n xs := by
  refine ⟨h.1, ?_⟩
  rcases h.2 with h1 | ⟨g, cap, cur, rfl, h1, h2, h3⟩
  · exact .inl h1
  · exact .inr ⟨g, cap, cur, rfl, h1, (hk g rfl).trans h2, h3⟩
theorem MapAt.obj {w : World} {b n : Nat} {f : Int → Option Int} (h : MapAt w b n f) : ∃ es clock, w.heap[b]? = some (.map es clock) := by
  obtain ⟨D, ⟨es, clock, hb, _⟩, _⟩ := h
  exact ⟨es, clock, hb⟩
theorem MapAt.same {w w' : World} {b n : Nat} {f : Int → Option Int} (h : MapAt w b n f) (hk : w'.heap[b]? = w.heap[b]?) : MapAt w' b n f := by
  obtain ⟨D, ⟨es, clock, hb, h2⟩, h3⟩ := h
  exact ⟨D, ⟨es, clock, hk.trans hb, h2⟩, h3⟩

structure DM (w : World) (base pf pm po pn bm bn : Nat) (vf : Value) (free : List Int) (fr nd : Int → Option Int) (vo : Value) (out : List M) (nm nn : Nat) : Prop where
  cf : w.heap[pf]? = some (.cells #[vf] 41 (0, 0))
  qf : Que w base vf free
  cm : w.heap[pm]? = some (.cells #[.map (some bm)] 43 (0, 0))
  co : w.heap[po]? = some (.cells #[vo] 24 (0, 0))
  oo : ownM w base 32 vo out
  cn : w.heap[pn]? = some (.cells #[.map (some bn)] 43 (0, 0))
  mm : MapAt w bm nm fr
  mn : MapAt w bn nn nd
  ne : bm ≠ bn
  lf : base ≤ pf
  lo : base ≤ po
  lm : base ≤ bm
  ln : base ≤ bn

section
variable {w w' : World} {base pf pm po pn bm bn nm nn : Nat} {vf vo : Value} {free : List Int} {fr nd : Int → Option Int} {out : List M}
theorem DM.lt (h : DM w base pf pm po pn bm bn vf free fr nd vo out nm nn) : pf < w.heap.size ∧ pm < w.heap.size ∧ po < w.heap.size ∧ pn < w.heap.size ∧ bm < w.heap.size ∧ bn < w.heap.size ∧ base ≤ w.heap.size := by
  have h1 := (Array.getElem?_eq_some_iff.1 h.cf).1
  have h2 := (Array.getElem?_eq_some_iff.1 h.cm).1
  have h3 := (Array.getElem?_eq_some_iff.1 h.co).1
  have h4 := (Array.getElem?_eq_some_iff.1 h.cn).1
  exact ⟨h1, h2, h3, h4, h.mm.lt, h.mn.lt, Nat.le_trans h.lf (Nat.le_of_lt h1)⟩
theorem DM.keep (h : DM w base pf pm po pn bm bn vf free fr nd vo out nm nn) (hf : w'.heap[pf]? = w.heap[pf]?) (hm : w'.heap[pm]? = w.heap[pm]?) (ho : w'.heap[po]? = w.heap[po]?) (hn : w'.heap[pn]? = w.heap[pn]?) (hbm : w'.heap[bm]? = w.heap[bm]?) (hbn : w'.heap[bn]? = w.heap[bn]?)
    (hq : ∀ k, vf.ownBlock = some k → w'.heap[k]? = w.heap[k]?) (hl : ∀ k, vo.ownBlock = some k → w'.heap[k]? = w.heap[k]?) : DM w' base pf pm po pn bm bn vf free fr nd vo out nm nn :=
  ⟨hf.trans h.cf, h.qf.kept hq, hm.trans h.cm, ho.trans h.co, own_same h.oo hl, hn.trans h.cn, h.mm.same hbm, h.mn.same hbn, h.ne, h.lf, h.lo, h.lm, h.ln⟩
theorem DM.alloc (h : DM w base pf pm po pn bm bn vf free fr nd vo out nm nn) (o : Obj) : DM (w.alloc o) base pf pm po pn bm bn vf free fr nd vo out nm nn := by
  obtain ⟨h1, h2, h3, h4, h5, h6, _⟩ := h.lt
  have hk : ∀ k, k < w.heap.size → (w.alloc o).heap[k]? = w.heap[k]? := fun k hk => heap_alloc_old _ _ hk
  refine h.keep (hk _ h1) (hk _ h2) (hk _ h3) (hk _ h4) (hk _ h5) (hk _ h6) (fun k e => hk k ?_) (fun k e => hk k ?_)
  · obtain ⟨_, cur, hc⟩ := h.qf.lt k e
    exact (Array.getElem?_eq_some_iff.1 hc).1
  · obtain ⟨_, cur, hc⟩ := own_blk h.oo k e
    exact (Array.getElem?_eq_some_iff.1 hc).1
theorem DM.later (h : DM w base pf pm po pn bm bn vf free fr nd vo out nm nn) (hb : Below w.heap.size w w') : DM w' base pf pm po pn bm bn vf free fr nd vo out nm nn := by
  obtain ⟨h1, h2, h3, h4, h5, h6, _⟩ := h.lt
  refine h.keep (hb.block _ h1) (hb.block _ h2) (hb.block _ h3) (hb.block _ h4) (hb.block _ h5) (hb.block _ h6) (fun k e => hb.block k ?_) (fun k e => hb.block k ?_)
  · obtain ⟨_, cur, hc⟩ := h.qf.lt k e
    exact (Array.getElem?_eq_some_iff.1 hc).1
  · obtain ⟨_, cur, hc⟩ := own_blk h.oo k e
    exact (Array.getElem?_eq_some_iff.1 hc).1

/-- Blocks of unlike kinds are two. -/
theorem blk_ne {w : World} {a b : Nat} {x y : Obj} (ha : w.heap[a]? = some x) (hb : w.heap[b]? = some y) (hne : x ≠ y) : a ≠ b := fun e => by
  subst e; rw [ha] at hb; cases hb; exact hne rfl
theorem cells_ne {c d : Array Value} {e e' : TypeId} {f g : Nat × Nat} (h : e ≠ e') : (Obj.cells c e f) ≠ .cells d e' g := fun hh => by cases hh; exact h rfl
theorem cells_map {c : Array Value} {e : TypeId} {f : Nat × Nat} {es : Array MapEntry} {k : Nat} : (Obj.cells c e f) ≠ .map es k := fun hh => by cases hh

/-- The queue's variable is set. -/
theorem DM.setF (h : DM w base pf pm po pn bm bn vf free fr nd vo out nm nn) {v : Value} {free' : List Int} (hq : Que w base v free') : DM (w.setCell ⟨pf, 0, none⟩ v) base pf pm po pn bm bn v free' fr nd vo out nm nn := by
  obtain ⟨es, ck, hm⟩ := h.mm.obj
  obtain ⟨es2, ck2, hn⟩ := h.mn.obj
  have hk : ∀ k, k ≠ pf → (w.setCell ⟨pf, 0, none⟩ v).heap[k]? = w.heap[k]? := fun k e => Below.heap_setCell _ _ _ _ e
  refine ⟨?_, hq.kept (fun k e => hk k ?_), (hk _ ?_).trans h.cm, (hk _ ?_).trans h.co, own_same h.oo (fun k e => hk k ?_), (hk _ ?_).trans h.cn, h.mm.same (hk _ ?_), h.mn.same (hk _ ?_), h.ne, h.lf, h.lo, h.lm, h.ln⟩
  · simp [World.setCell, Array.getElem?_modify, h.cf]
  · obtain ⟨_, cur, hc⟩ := hq.lt k e
    exact blk_ne hc h.cf (cells_ne (by decide))
  · exact blk_ne h.cm h.cf (cells_ne (by decide))
  · exact blk_ne h.co h.cf (cells_ne (by decide))
  · obtain ⟨_, cur, hc⟩ := own_blk h.oo k e
    exact blk_ne hc h.cf (cells_ne (by decide))
  · exact blk_ne h.cn h.cf (cells_ne (by decide))
  · exact (blk_ne h.cf hm cells_map).symm
  · exact (blk_ne h.cf hn cells_map).symm
/-- The list's variable is set. -/
theorem DM.setO (h : DM w base pf pm po pn bm bn vf free fr nd vo out nm nn) {v : Value} {out' : List M} (hq : ownM w base 32 v out') : DM (w.setCell ⟨po, 0, none⟩ v) base pf pm po pn bm bn vf free fr nd v out' nm nn := by
  obtain ⟨es, ck, hm⟩ := h.mm.obj
  obtain ⟨es2, ck2, hn⟩ := h.mn.obj
  have hk : ∀ k, k ≠ po → (w.setCell ⟨po, 0, none⟩ v).heap[k]? = w.heap[k]? := fun k e => Below.heap_setCell _ _ _ _ e
  refine ⟨(hk _ ?_).trans h.cf, h.qf.kept (fun k e => hk k ?_), (hk _ ?_).trans h.cm, ?_, own_same hq (fun k e => hk k ?_), (hk _ ?_).trans h.cn, h.mm.same (hk _ ?_), h.mn.same (hk _ ?_), h.ne, h.lf, h.lo, h.lm, h.ln⟩
  · exact blk_ne h.cf h.co (cells_ne (by decide))
  · obtain ⟨_, cur, hc⟩ := h.qf.lt k e
    exact blk_ne hc h.co (cells_ne (by decide))
  · exact blk_ne h.cm h.co (cells_ne (by decide))
  · simp [World.setCell, Array.getElem?_modify, h.co]
  · obtain ⟨_, cur, hc⟩ := own_blk hq k e
    exact blk_ne hc h.co (cells_ne (by decide))
  · exact blk_ne h.cn h.co (cells_ne (by decide))
  · exact (blk_ne h.co hm cells_map).symm
  · exact (blk_ne h.co hn cells_map).symm

/-- Everything but the list, behind an append to it. -/
theorem DM.appO (h : DM w base pf pm po pn bm bn vf free fr nd vo out nm nn) (hg : w.grownBy w' vo.ownBlock) {v : Value} {out' : List M} (hq : ownM w' base 32 v out') :
    (w'.cell? ⟨po, 0, none⟩ = some vo ∧ w'.frozen? ⟨po, 0, none⟩ = false) ∧ DM (w'.setCell ⟨po, 0, none⟩ v) base pf pm po pn bm bn vf free fr nd v out' nm nn := by
  obtain ⟨h1, h2, h3, h4, h5, h6, _⟩ := h.lt
  obtain ⟨es, ck, hm⟩ := h.mm.obj
  obtain ⟨es2, ck2, hn⟩ := h.mn.obj
  have hne : ∀ {k : Nat} {o : Obj}, w.heap[k]? = some o → (∀ cur, o ≠ .cells cur 32 (0, 0)) → some k ≠ vo.ownBlock := fun {k o} hk ho e => by
    obtain ⟨_, cur, hc⟩ := own_blk h.oo k e.symm
    rw [hk] at hc; cases hc; exact ho cur rfl
  have hk : ∀ {k : Nat} {o : Obj}, w.heap[k]? = some o → (∀ cur, o ≠ .cells cur 32 (0, 0)) → w'.heap[k]? = some o := fun {k o} hh ho => by
    rw [hg.block k (Array.getElem?_eq_some_iff.1 hh).1 (hne hh ho)]; exact hh
  have ho' := hk h.co (fun cur => cells_ne (by decide))
  refine ⟨⟨cell_of_heap ho' rfl, free_of_heap ho'⟩, ?_⟩
  have hd : DM w' base pf pm po pn bm bn vf free fr nd vo [] nm nn → DM (w'.setCell ⟨po, 0, none⟩ v) base pf pm po pn bm bn vf free fr nd v out' nm nn := fun hd => hd.setO hq
  have hbase := hq
  obtain ⟨esm, ckm, hm'⟩ : ∃ es ck, w'.heap[bm]? = some (.map es ck) := ⟨es, ck, hk hm (fun cur e => cells_map e.symm)⟩
  obtain ⟨esn, ckn, hn'⟩ : ∃ es ck, w'.heap[bn]? = some (.map es ck) := ⟨es2, ck2, hk hn (fun cur e => cells_map e.symm)⟩
  have hs : ∀ k, k ≠ po → (w'.setCell ⟨po, 0, none⟩ v).heap[k]? = w'.heap[k]? := fun k e => Below.heap_setCell _ _ _ _ e
  have e1 := hk h.cf (fun cur => cells_ne (by decide))
  have e2 := hk h.cm (fun cur => cells_ne (by decide))
  have e4 := hk h.cn (fun cur => cells_ne (by decide))
  refine ⟨(hs _ ?_).trans e1, h.qf.kept (fun k e => ?_), (hs _ ?_).trans e2, ?_, own_same hq (fun k e => hs k ?_), (hs _ ?_).trans e4, h.mm.same ?_, h.mn.same ?_, h.ne, h.lf, h.lo, h.lm, h.ln⟩
  · exact blk_ne e1 ho' (cells_ne (by decide))
  · obtain ⟨_, cur, hc⟩ := h.qf.lt k e
    have hc' := hk hc (fun cur => cells_ne (by decide))
    rw [hs k (blk_ne hc' ho' (cells_ne (by decide))), hc', hc]
  · exact blk_ne e2 ho' (cells_ne (by decide))
  · simp [World.setCell, Array.getElem?_modify, ho']
  · obtain ⟨_, cur, hc⟩ := own_blk hq k e
    exact blk_ne hc ho' (cells_ne (by decide))
  · exact blk_ne e4 ho' (cells_ne (by decide))
  · rw [hs _ (blk_ne ho' hm' cells_map).symm, hk hm (fun cur e => cells_map e.symm), hm]
  · rw [hs _ (blk_ne ho' hn' cells_map).symm, hk hn (fun cur e => cells_map e.symm), hn]

/-- Everything but the queue, behind an append to it. -/
theorem DM.appF (h : DM w base pf pm po pn bm bn vf free fr nd vo out nm nn) (hg : w.grownBy w' vf.ownBlock) {v : Value} {free' : List Int} (hq : Que w' base v free') :
    (w'.cell? ⟨pf, 0, none⟩ = some vf ∧ w'.frozen? ⟨pf, 0, none⟩ = false) ∧ DM (w'.setCell ⟨pf, 0, none⟩ v) base pf pm po pn bm bn v free' fr nd vo out nm nn := by
  obtain ⟨es, ck, hm⟩ := h.mm.obj
  obtain ⟨es2, ck2, hn⟩ := h.mn.obj
  have hk : ∀ {k : Nat} {o : Obj}, w.heap[k]? = some o → (∀ cur, o ≠ .cells cur 3 (0, 0)) → w'.heap[k]? = some o := fun {k o} hh ho => by
    rw [hg.block k (Array.getElem?_eq_some_iff.1 hh).1 (fun e => by
      obtain ⟨_, cur, hc⟩ := h.qf.lt k e.symm
      rw [hh] at hc; cases hc; exact ho cur rfl)]; exact hh
  have hf' := hk h.cf (fun cur => cells_ne (by decide))
  refine ⟨⟨cell_of_heap hf' rfl, free_of_heap hf'⟩, ?_⟩
  have hm' := hk hm (fun cur e => cells_map e.symm)
  have hn' := hk hn (fun cur e => cells_map e.symm)
  have hs : ∀ k, k ≠ pf → (w'.setCell ⟨pf, 0, none⟩ v).heap[k]? = w'.heap[k]? := fun k e => Below.heap_setCell _ _ _ _ e
  have e2 := hk h.cm (fun cur => cells_ne (by decide))
  have e3 := hk h.co (fun cur => cells_ne (by decide))
  have e4 := hk h.cn (fun cur => cells_ne (by decide))
  refine ⟨?_, hq.kept (fun k e => hs k ?_), (hs _ ?_).trans e2, (hs _ ?_).trans e3, own_same h.oo (fun k e => ?_), (hs _ ?_).trans e4, h.mm.same ?_, h.mn.same ?_, h.ne, h.lf, h.lo, h.lm, h.ln⟩
  · simp [World.setCell, Array.getElem?_modify, hf']
  · obtain ⟨_, cur, hc⟩ := hq.lt k e
    exact blk_ne hc hf' (cells_ne (by decide))
  · exact blk_ne e2 hf' (cells_ne (by decide))
  · exact blk_ne e3 hf' (cells_ne (by decide))
  · obtain ⟨_, cur, hc⟩ := own_blk h.oo k e
    have hc' := hk hc (fun cur => cells_ne (by decide))
    rw [hs k (blk_ne hc' hf' (cells_ne (by decide))), hc', hc]
  · exact blk_ne e4 hf' (cells_ne (by decide))
  · rw [hs _ (blk_ne hf' hm' cells_map).symm, hm', hm]
  · rw [hs _ (blk_ne hf' hn' cells_map).symm, hn', hn]

theorem DM.turnM (h : DM w base pf pm po pn bm bn vf free fr nd vo out nm nn) (hg : w.grownBy w' (some bm)) {fr' : Int → Option Int} {nm' : Nat} (hm : MapAt w' bm nm' fr') : DM w' base pf pm po pn bm bn vf free fr' nd vo out nm' nn := by
  obtain ⟨es, ck, ho⟩ := h.mm.obj
  obtain ⟨h1, h2, h3, h4, h5, h6, _⟩ := h.lt
  have hk : ∀ {k : Nat} {c : Array Value} {e : TypeId} {f : Nat × Nat}, w.heap[k]? = some (.cells c e f) → w'.heap[k]? = w.heap[k]? := fun {k c e f} hh =>
    hg.block k (Array.getElem?_eq_some_iff.1 hh).1 (fun e => by cases e; rw [hh] at ho; cases ho)
  refine ⟨(hk h.cf).trans h.cf, h.qf.kept (fun k e => ?_), (hk h.cm).trans h.cm, (hk h.co).trans h.co, own_same h.oo (fun k e => ?_), (hk h.cn).trans h.cn, hm, h.mn.same (hg.block _ h6 (fun e => h.ne (by cases e; rfl))), h.ne, h.lf, h.lo, h.lm, h.ln⟩
  · obtain ⟨_, cur, hc⟩ := h.qf.lt k e; exact hk hc
  · obtain ⟨_, cur, hc⟩ := own_blk h.oo k e; exact hk hc
theorem DM.turnN (h : DM w base pf pm po pn bm bn vf free fr nd vo out nm nn) (hg : w.grownBy w' (some bn)) {nd' : Int → Option Int} {nn' : Nat} (hm : MapAt w' bn nn' nd') : DM w' base pf pm po pn bm bn vf free fr nd' vo out nm nn' := by
  obtain ⟨es, ck, ho⟩ := h.mn.obj
  obtain ⟨h1, h2, h3, h4, h5, h6, _⟩ := h.lt
  have hk : ∀ {k : Nat} {c : Array Value} {e : TypeId} {f : Nat × Nat}, w.heap[k]? = some (.cells c e f) → w'.heap[k]? = w.heap[k]? := fun {k c e f} hh =>
    hg.block k (Array.getElem?_eq_some_iff.1 hh).1 (fun e => by cases e; rw [hh] at ho; cases ho)
  refine ⟨(hk h.cf).trans h.cf, h.qf.kept (fun k e => ?_), (hk h.cm).trans h.cm, (hk h.co).trans h.co, own_same h.oo (fun k e => ?_), (hk h.cn).trans h.cn, h.mm.same (hg.block _ h5 (fun e => h.ne (by cases e; rfl))), hm, h.ne, h.lf, h.lo, h.lm, h.ln⟩
  · obtain ⟨_, cur, hc⟩ := h.qf.lt k e; exact hk hc
  · obtain ⟨_, cur, hc⟩ := own_blk h.oo k e; exact hk hc
end
end Go.Proofs.Ytmdmfciicoldoaa
