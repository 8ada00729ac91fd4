/- Walk: the document's world of places. -/
import Derived.Test.YtmdmfciicoldoaaMk
import Derived.Test.YtmdmfciicoldoaaMq
import Derived.Deep.AppendLies
namespace Go.Proofs.Ytmdmfciicoldoaa
open Go.RowKit Go.Maps

abbrev ownI (w : World) (base : Nat) (v : Value) (xs : List Int) : Prop := w.ownsRow base 3 1 v xs.length (xs.map (Value.int .i64))
theorem ownI_shape {w : World} {base : Nat} {v : Value} {xs : List Int} (h : ownI w base v xs) : ∃ a c, v = .slice a xs.length c := (Rd.of_own h).shape
theorem ownI_at {w : World} {base : Nat} {v : Value} {xs : List Int} (h : ownI w base v xs) {i : Nat} (hi : i < xs.length) : ∃ g c, v = .slice (some ⟨g, 0, none⟩) xs.length c ∧ w.cell? ⟨g, i, none⟩ = some (.int .i64 xs[i]) ∧ w.frozen? ⟨g, i, none⟩ = false ∧ g < w.heap.size ∧ xs.length ≤ c ∧ c ≤ 9223372036854775807 ∧ ∃ cur, w.heap[g]? = some (.cells cur 3 (0, 0)) := by
  obtain ⟨hl, h2⟩ := h
  rcases h2 with ⟨_, h0⟩ | ⟨g, cap, cur, rfl, _, hg, h3, h4, h5, h6⟩
  · omega
  · refine ⟨g, cap, rfl, ?_, free_of_heap hg, (Array.getElem?_eq_some_iff.1 hg).1, h3, by unfold maxLen at h4; omega, cur, hg⟩
    have : (xs.map (Value.int .i64))[i]? = some (.int .i64 xs[i]) := by simp [hi]
    rw [← h6, List.getElem?_take, if_pos (by omega)] at this
    simpa [World.cell?, hg] using this
theorem ownI_set {w : World} {base g n c : Nat} {xs : List Int} (h : w.ownsRow base 3 1 (.slice (some ⟨g, 0, none⟩) n c) n (xs.map (Value.int .i64))) (i : Nat) (v : Int) : (w.setCell ⟨g, i, none⟩ (.int .i64 v)).ownsRow base 3 1 (.slice (some ⟨g, 0, none⟩) n c) n ((xs.set i v).map (Value.int .i64)) := by
  obtain ⟨hl, h2⟩ := h
  rcases h2 with ⟨h1, _⟩ | ⟨g', cap, cur, h1, hb, hg, h3, h4, h5, h6⟩
  · cases h1
  · cases h1
    refine ⟨by simpa using hl, .inr ⟨g, c, cur.setIfInBounds i (.int .i64 v), rfl, hb, ?_, h3, h4, by simpa using h5, ?_⟩⟩
    · simp [World.setCell, Array.getElem?_modify, hg]
    · rw [List.map_set, ← h6, Array.toList_setIfInBounds, List.take_set]

/-- Two rows beside one another, in a block of two cells. -/
structure WD (w : World) (base B : Nat) (vp : Value) (ps : List Int) (vh : Value) (hs : List Int) : Prop where
  at_ : w.heap[B]? = some (.cells #[vp, vh] 49 (0, 0))
  op : ownI w base vp ps
  oh : ownI w base vh hs
  ne : ∀ k, vp.ownBlock = some k → vh.ownBlock ≠ some k
  lb : base ≤ B
section
variable {w w' : World} {base B : Nat} {vp vh : Value} {ps hs : List Int}
theorem WD.keep (h : WD w base B vp ps vh hs) (hb : w'.heap[B]? = w.heap[B]?) (hp : ∀ k, vp.ownBlock = some k → w'.heap[k]? = w.heap[k]?) (hh : ∀ k, vh.ownBlock = some k → w'.heap[k]? = w.heap[k]?) : WD w' base B vp ps vh hs :=
  ⟨hb.trans h.at_, own_same h.op hp, own_same h.oh hh, h.ne, h.lb⟩
theorem WD.blt (h : WD w base B vp ps vh hs) : B < w.heap.size := (Array.getElem?_eq_some_iff.1 h.at_).1
theorem WD.later (h : WD w base B vp ps vh hs) (hb : Below w.heap.size w w') : WD w' base B vp ps vh hs := by
  refine h.keep (hb.block _ h.blt) (fun k e => hb.block _ ?_) (fun k e => hb.block _ ?_)
  · obtain ⟨_, cur, hc⟩ := own_blk h.op k e; exact (Array.getElem?_eq_some_iff.1 hc).1
  · obtain ⟨_, cur, hc⟩ := own_blk h.oh k e; exact (Array.getElem?_eq_some_iff.1 hc).1
theorem WD.alloc (h : WD w base B vp ps vh hs) (o : Obj) : WD (w.alloc o) base B vp ps vh hs := h.later ((Below.refl _ _).alloc (Nat.le_refl _) o)
theorem WD.drewN (h : WD w base B vp ps vh hs) (n : Nat) : WD (w.drewN n) base B vp ps vh hs := h.keep rfl (fun _ _ => rfl) (fun _ _ => rfl)
theorem WD.cells (h : WD w base B vp ps vh hs) : w.cell? ⟨B, 0, none⟩ = some vp ∧ w.cell? ⟨B, 1, none⟩ = some vh ∧ w.frozen? ⟨B, 0, none⟩ = false ∧ w.frozen? ⟨B, 1, none⟩ = false :=
  ⟨cell_of_heap h.at_ rfl, cell_of_heap h.at_ rfl, free_of_heap h.at_, free_of_heap h.at_⟩

/-- The first row grows, and is laid back. -/
theorem WD.addP (h : WD w base B vp ps vh hs) {o : Obj} {g c : Nat} {ps' : List Int} (hg : (w.alloc o).grownBy w' vp.ownBlock) (hat : vp.ownBlock = some g ∨ g = (w.alloc o).heap.size) (hown : ownI w' base (.slice (some ⟨g, 0, none⟩) ps'.length c) ps') :
    (w'.cell? ⟨B, 0, none⟩ = some vp ∧ w'.cell? ⟨B, 1, none⟩ = some vh ∧ w'.frozen? ⟨B, 0, none⟩ = false ∧ w'.frozen? ⟨B, 1, none⟩ = false) ∧ WD (w'.setCell ⟨B, 0, none⟩ (.slice (some ⟨g, 0, none⟩) ps'.length c)) base B (.slice (some ⟨g, 0, none⟩) ps'.length c) ps' vh hs := by
  have hB : w'.heap[B]? = some (.cells #[vp, vh] 49 (0, 0)) := by
    rw [hg.block B (by have := h.blt; simp; omega) (fun e => by
      obtain ⟨_, cur, hc⟩ := own_blk h.op _ e.symm
      rw [h.at_] at hc; cases hc), heap_alloc_old _ _ h.blt]
    exact h.at_
  have hlt : ∀ k, vh.ownBlock = some k → k < w.heap.size := fun k e => by
    obtain ⟨_, cur, hc⟩ := own_blk h.oh k e; exact (Array.getElem?_eq_some_iff.1 hc).1
  have hsame : ∀ k, vh.ownBlock = some k → w'.heap[k]? = w.heap[k]? := fun k e => by
    rw [hg.block k (by have := hlt k e; simp; omega) (fun e2 => h.ne k e2.symm e), heap_alloc_old _ _ (hlt k e)]
  have hs : ∀ k, k ≠ B → (w'.setCell ⟨B, 0, none⟩ (.slice (some ⟨g, 0, none⟩) ps'.length c)).heap[k]? = w'.heap[k]? := fun k e => Below.heap_setCell _ _ _ _ e
  refine ⟨⟨cell_of_heap hB rfl, cell_of_heap hB rfl, free_of_heap hB, free_of_heap hB⟩, ?_, own_same hown (fun k e => hs k ?_), own_same h.oh (fun k e => ?_), fun k e hk => ?_, h.lb⟩
  · simp [World.setCell, Array.getElem?_modify, hB]
  · obtain ⟨_, cur, hc⟩ := own_blk hown k e
    exact blk_ne hc hB (cells_ne (by decide))
  · obtain ⟨_, cur, hc⟩ := own_blk h.oh k e
    have h1 := hsame k e
    rw [hc] at h1
    rw [hs k (blk_ne h1 hB (cells_ne (by decide))), h1, hc]
  · simp [Value.ownBlock] at e
    subst e
    rcases hat with e2 | e2
    · exact h.ne g e2 hk
    · have := hlt g hk; simp at e2; omega
/-- The second row grows, and is laid back. -/
theorem WD.addH (h : WD w base B vp ps vh hs) {o : Obj} {g c : Nat} {hs' : List Int} (hg : (w.alloc o).grownBy w' vh.ownBlock) (hat : vh.ownBlock = some g ∨ g = (w.alloc o).heap.size) (hown : ownI w' base (.slice (some ⟨g, 0, none⟩) hs'.length c) hs') :
    (w'.cell? ⟨B, 0, none⟩ = some vp ∧ w'.cell? ⟨B, 1, none⟩ = some vh ∧ w'.frozen? ⟨B, 0, none⟩ = false ∧ w'.frozen? ⟨B, 1, none⟩ = false) ∧ WD (w'.setCell ⟨B, 1, none⟩ (.slice (some ⟨g, 0, none⟩) hs'.length c)) base B vp ps (.slice (some ⟨g, 0, none⟩) hs'.length c) hs' := by
  have hB : w'.heap[B]? = some (.cells #[vp, vh] 49 (0, 0)) := by
    rw [hg.block B (by have := h.blt; simp; omega) (fun e => by
      obtain ⟨_, cur, hc⟩ := own_blk h.oh _ e.symm
      rw [h.at_] at hc; cases hc), heap_alloc_old _ _ h.blt]
    exact h.at_
  have hlt : ∀ k, vp.ownBlock = some k → k < w.heap.size := fun k e => by
    obtain ⟨_, cur, hc⟩ := own_blk h.op k e; exact (Array.getElem?_eq_some_iff.1 hc).1
  have hsame : ∀ k, vp.ownBlock = some k → w'.heap[k]? = w.heap[k]? := fun k e => by
    rw [hg.block k (by have := hlt k e; simp; omega) (fun e2 => h.ne k e e2.symm), heap_alloc_old _ _ (hlt k e)]
  have hs : ∀ k, k ≠ B → (w'.setCell ⟨B, 1, none⟩ (.slice (some ⟨g, 0, none⟩) hs'.length c)).heap[k]? = w'.heap[k]? := fun k e => Below.heap_setCell _ _ _ _ e
  refine ⟨⟨cell_of_heap hB rfl, cell_of_heap hB rfl, free_of_heap hB, free_of_heap hB⟩, ?_, own_same h.op (fun k e => ?_), own_same hown (fun k e => hs k ?_), fun k e hk => ?_, h.lb⟩
  · simp [World.setCell, Array.getElem?_modify, hB]
  · obtain ⟨_, cur, hc⟩ := own_blk h.op k e
    have h1 := hsame k e
    rw [hc] at h1
    rw [hs k (blk_ne h1 hB (cells_ne (by decide))), h1, hc]
  · obtain ⟨_, cur, hc⟩ := own_blk hown k e
    exact blk_ne hc hB (cells_ne (by decide))
  · simp [Value.ownBlock] at hk
    subst hk
    rcases hat with e2 | e2
    · exact h.ne g e e2
    · have := hlt g e; simp at e2; omega
end

/-- The rows hold each place and whose it is what it has. -/
structure WS (ps hs : List Int) (h : Int → Int) : Prop where
  len : ps.length = hs.length
  has : ∀ i, (hi : i < ps.length) → hs[i]? = some (h ps[i])
  out : ∀ p, p ∉ ps → h p = p
  nodup : ps.Nodup
theorem WS.add {ps hs : List Int} {h : Int → Int} (s : WS ps hs h) {p : Int} (hp : p ∉ ps) : WS (ps ++ [p]) (hs ++ [p]) h := by
  refine ⟨by simp [s.len], fun i hi => ?_, fun q hq => s.out q (fun h => hq (by simp [h])), ?_⟩
  · by_cases e : i < ps.length
    · rw [List.getElem?_append_left (by have := s.len; omega)]
      simp only [List.getElem_append_left e]
      exact s.has i e
    · have hi2 : i = ps.length := by simp at hi; omega
      subst hi2
      have e1 : (hs ++ [p])[ps.length]? = some p := by rw [s.len]; simp
      have e2 : (ps ++ [p])[ps.length] = p := by simp
      rw [e1, e2, s.out p hp]
  · rw [List.nodup_append]
    exact ⟨s.nodup, by simp, fun x hx y hy e => by simp at hy; subst hy; subst e; exact hp hx⟩
theorem WS.set {ps hs : List Int} {h : Int → Int} (s : WS ps hs h) {i j : Nat} (hi : i < ps.length) (hj : j < ps.length) {v : Int} (hv : hs[j]? = some v) : WS ps (hs.set i v) (upd h ps[i] (h ps[j])) := by
  have hvv : v = h ps[j] := by rw [s.has j hj] at hv; exact (Option.some.inj hv).symm
  subst hvv
  refine ⟨by simp [s.len], fun k hk => ?_, fun q hq => ?_, s.nodup⟩
  · rw [List.getElem?_set]
    by_cases e : i = k
    · subst e
      rw [if_pos rfl, if_pos (by have := s.len; omega), upd_same]
    · rw [if_neg e]
      have : ps[k] ≠ ps[i] := fun e2 => by
        rcases Nat.lt_trichotomy i k with h3 | h3 | h3
        · exact (List.pairwise_iff_getElem.1 s.nodup) i k hi hk h3 e2.symm
        · exact e h3
        · exact (List.pairwise_iff_getElem.1 s.nodup) k i hk hi h3 e2
      rw [upd_other _ _ this]; exact s.has k hk
  · have : q ≠ ps[i] := fun e => hq (e ▸ List.getElem_mem hi)
    rw [upd_other _ _ this]; exact s.out q hq

theorem wp_appI {w : World} {ops : Array Oper} {rest : List Oper} {o : Oper} {a : Act} {Q : Exit → Act → World → Prop} (hg : o.guard = none) (s xo : Operand)
    (hop : o.op = .call { callee := .builtin .append, args := #[s, xo], argTypes := #[41, 41] }) (base : Nat) (v : Value) (xs : List Int) (hs : a.eval s = v) (h : ownI w base v xs) (y : Int) (B : Nat) (hx : a.eval xo = .slice (some ⟨B, 0, none⟩) 1 1)
    (hB : w.heap[B]? = some (.cells #[.int .i64 y] 3 (0, 0))) (hlen : xs.length + 1 ≤ 1000000) (hbase : base ≤ w.heap.size)
    (hK : ∀ g cap w', ownI w' base (.slice (some ⟨g, 0, none⟩) (xs ++ [y]).length cap) (xs ++ [y]) → w.grownBy w' v.ownBlock → (v.ownBlock = some g ∨ g = w.heap.size) → wpList Try.prog ops Q rest (a.put o.dst (.slice (some ⟨g, 0, none⟩) (xs.length + 1) cap)) w') : wpList Try.prog ops Q (o :: rest) a w := by
  obtain ⟨im, mi0, mz0, mz1, mz2⟩ := info_parts infoI
  refine wpList_append_lies w hg s xo 41 hop base 3 im (.int .i64 0) 1 8 Try.underlying41 mi0 mz0 mz1 mz2 rfl (by decide) v xs.length (xs.map (Value.int .i64)) hs h ⟨B, 0, none⟩ 1 1 [.int .i64 y] hx rfl
    (World.news_of_block (cs := #[.int .i64 y]) hB) (by simp [Value.oneCell']) (by omega) (by unfold maxLen; omega) (by omega) hbase w.heap.size rfl ?_
  intro g cap w' h1 h2 h3 _
  refine hK g cap w' ?_ h2 h3
  show w'.ownsRow _ _ _ _ _ _
  rw [List.length_append, List.map_append]
  exact h1

/-- Blocks that are neither rows of numbers nor worlds stand. -/
def KeepT (w w' : World) : Prop := ∀ (k : Nat) (o : Obj), w.heap[k]? = some o → (∀ c f, o ≠ .cells c 3 f) → (∀ c f, o ≠ .cells c 49 f) → w'.heap[k]? = some o

set_option maxHeartbeats 8000000 in
theorem at_any (p : Int) (w : World) (base B : Nat) (vp : Value) (ps : List Int) (vh : Value) (hs : List Int) (h : Int → Int) (hw : WD w base B vp ps vh hs) (hws : WS ps hs h) (hlen : ps.length ≤ 100000) (hbase : base ≤ w.heap.size) :
    Calls Try.prog 17 #[.pointer (some ⟨B, 0, none⟩), .int .i64 p] w fun e w' => ∃ (i : Nat) (vp' : Value) (ps' : List Int) (vh' : Value) (hs' : List Int), e = .returned (.int .i64 i) ∧ WD w' base B vp' ps' vh' hs' ∧ WS ps' hs' h ∧ ps'[i]? = some p ∧ (ps' = ps ∨ ps' = ps ++ [p]) ∧ Below base w w' ∧ KeepT w w' := by
  obtain ⟨c1, c2, c3, c4⟩ := hw.cells
  have HW := Lib.hid hw
  have HS := Lib.hid hws
  have HLen := Lib.hid hlen
  have HBase := Lib.hid hbase
  have hBlt := hw.blt
  obtain ⟨pa, pc, rfl⟩ := ownI_shape hw.op
  obtain ⟨ha, hc, rfl⟩ := ownI_shape hw.oh
  have hl9 : (ps.length : Int) ≤ 100000 := by omega
  clear hw hws hlen hbase
  go_enter Try.func17, Try.ntmps17
  go_wp2_with fail
  go_loopw [12] (fun i wr => ∃ j : Nat, j ≤ ps.length ∧ i = .int .i64 j ∧ Hid (∀ k, (hk : k < ps.length) → k < j → ps[k] ≠ p) ∧ wr = w) (fun i _ => ps.length - (intOf i).toNat)
  case atStart => exact ⟨0, by omega, rfl, fun k _ h => by omega, rfl⟩
  case round =>
    obtain ⟨j, hj, rfl, HN, rfl⟩ := hrel
    by_cases hlt : j < ps.length
    · obtain ⟨g, c, h0, d1, d2, d3, d4, d5, d6⟩ := ownI_at HW.out.op hlt
      simp only [Value.slice.injEq] at h0
      obtain ⟨rfl, -, rfl⟩ := h0
      obtain ⟨x, hx⟩ : ∃ x, ps[j] = x := ⟨_, rfl⟩
      have HX := Lib.hid hx
      rw [hx] at d1
      clear hx d6
      by_cases hxp : x = p
      · have b1 : (x == p) = true := by simp [hxp]
        have HXP := Lib.hid hxp
        clear hxp
        go_wp2_with fail
        go_ret
        exact ⟨j, _, ps, _, hs, rfl, HW.out, HS.out, by rw [List.getElem?_eq_getElem hlt, HX.out, HXP.out], .inl rfl, Below.refl _ _, fun _ _ h _ _ => h⟩
      · have b1 : (x == p) = false := by simp [hxp]
        have HXP := Lib.hid hxp
        clear hxp
        go_wp2_with fail
        exact ⟨⟨j + 1, by omega, by go_num, fun k hk hkj => by
          by_cases e : k = j
          · subst e; rw [HX.out]; exact HXP.out
          · exact HN.out k hk (by omega), trivial⟩, by simp [intOf]; omega⟩
    · obtain rfl : j = ps.length := by omega
      have HNot : Hid (p ∉ ps) := fun hm => by
        obtain ⟨k, hk, e⟩ := List.getElem_of_mem hm
        exact HN.out k hk hk e
      have HL1 : Hid (ps.length + 1 ≤ 1000000) := by show _ ≤ _; have := HLen.out; omega
      have HL2 : Hid (hs.length + 1 ≤ 1000000) := by show _ ≤ _; have := HLen.out; have := HS.out.len; omega
      clear HN
      go_wp2_with (first
        | (at_builtin; refine wp_appI rfl _ _ rfl base _ ps rfl ((HW.out.alloc _).op) p wr.heap.size rfl (heap_alloc_new _ _) HL1.out (by have := HBase.out; simp; omega) ?_; intro g3 q3 w3 hown3 hg3 hat3; have hA := HW.out.addP hg3 hat3 hown3; obtain ⟨e1, e2, e3, e4⟩ := hA.1; have HA := Lib.hid hA.2; have HBw := Lib.hid (show Below base wr w3 from ((Below.refl base wr).alloc HBase.out _).grown hg3 (by have := HBase.out; simp; omega) (fun k hk => (own_blk HW.out.op k hk).1)); have hb3 : base ≤ w3.heap.size := (by have := HBw.out.size; have := HBase.out; omega); have HG3 := Lib.hid hg3; clear hA hown3 hg3 hat3; rw [List.length_append, List.length_singleton] at HA)
        | (at_builtin; refine wp_appI rfl _ _ rfl base _ hs rfl ((HA.out.alloc _).oh) p w3.heap.size rfl (by have h := heap_alloc_new (w3.setCell ⟨B, 0, none⟩ (.slice (some ⟨g3, 0, none⟩) (ps.length + 1) q3)) (.cells #[.int .i64 p] 3); rw [World.size_setCell] at h; exact h) HL2.out (by simp; omega) ?_; intro g5 q5 w5 hown5 hg5 hat5; have hA5 := HA.out.addH hg5 hat5 hown5; obtain ⟨f1, f2, f3, f4⟩ := hA5.1; have HA5 := Lib.hid hA5.2; have HBw5 := Lib.hid (show Below base wr w5 from ((HBw.out.setCell HW.out.lb _).alloc (by simpa using hb3) _).grown hg5 (by simp; omega) (fun k hk => (own_blk HW.out.oh k hk).1)); have HG5 := Lib.hid hg5; clear hA5 hown5 hg5 hat5; rw [List.length_append, List.length_singleton] at HA5))
      go_ret
      refine ⟨ps.length, _, ps ++ [p], _, hs ++ [p], ?_, HA5.out, HS.out.add HNot.out, by simp, .inr rfl, HBw5.out.setCell HW.out.lb _, fun k o hk h1 h2 => ?_⟩
      · rfl
      · have hlt := (Array.getElem?_eq_some_iff.1 hk).1
        have hkB : k ≠ B := fun e => by subst e; rw [HW.out.at_] at hk; cases hk; exact h2 _ _ rfl
        have k3 : w3.heap[k]? = some o := by
          rw [HG3.out.block k (by simp; omega) (fun e => by
            obtain ⟨_, cur, hc⟩ := own_blk HW.out.op k e.symm
            rw [hk] at hc; cases hc; exact h1 _ _ rfl), heap_alloc_old _ _ hlt]; exact hk
        have hlt3 := (Array.getElem?_eq_some_iff.1 k3).1
        rw [Below.heap_setCell _ _ _ _ hkB, HG5.out.block k (by simp; omega) (fun e => by
            obtain ⟨_, cur, hc⟩ := own_blk HW.out.oh k e.symm
            rw [hk] at hc; cases hc; exact h1 _ _ rfl), heap_alloc_old _ _ (by simpa using hlt3), Below.heap_setCell _ _ _ _ hkB]
        exact k3
theorem WD.setH {w : World} {base B g c : Nat} {vp : Value} {ps hs : List Int} (h : WD w base B vp ps (.slice (some ⟨g, 0, none⟩) hs.length c) hs) (k : Nat) (v : Int) : WD (w.setCell ⟨g, k, none⟩ (.int .i64 v)) base B vp ps (.slice (some ⟨g, 0, none⟩) (hs.set k v).length c) (hs.set k v) := by
  obtain ⟨_, cur, hg⟩ := own_blk h.oh g rfl
  have hBg : B ≠ g := blk_ne h.at_ hg (cells_ne (by decide))
  have hs' : ∀ j, j ≠ g → (w.setCell ⟨g, k, none⟩ (.int .i64 v)).heap[j]? = w.heap[j]? := fun j e => Below.heap_setCell _ _ _ _ e
  have hlen : (hs.set k v).length = hs.length := by simp
  rw [hlen]
  refine ⟨(hs' B hBg).trans h.at_, own_same h.op (fun j e => hs' j (fun e2 => h.ne j e (by rw [e2]; rfl))), ?_, fun j e => h.ne j e, h.lb⟩
  show World.ownsRow _ _ _ _ _ _ _
  rw [hlen]
  exact ownI_set h.oh k v
theorem WD.new (w : World) (base : Nat) (hb : base ≤ w.heap.size) : WD (w.alloc (.cells #[.slice none 0 0, .slice none 0 0] 49)) base w.heap.size (.slice none 0 0) [] (.slice none 0 0) [] :=
  ⟨heap_alloc_new _ _, ⟨by simp, .inl ⟨rfl, rfl⟩⟩, ⟨by simp, .inl ⟨rfl, rfl⟩⟩, fun k h => (by cases h), hb⟩
theorem WS.new : WS [] [] (runM []) := ⟨rfl, fun i hi => by simp at hi, fun p _ => rfl, List.nodup_nil⟩
end Go.Proofs.Ytmdmfciicoldoaa
