/- The machine's open calls, told. -/
import Derived.RangeFuncBox
import Derived.Maps.AppendAt
import Derived.Test.YteeapfgjjankeaaQJr
import Derived.Test.YteeapfgjjankeaaQVe
import Derived.Test.YteeapfgjjankeaaQIc
namespace Go.Proofs.Yteeapfgjjankeaa.Mach
open Go Go.Proofs Go.RowKit Go.Shelf
attribute [local go_sem] Oper.semAt_some

/-- A call, as it is told. -/
structure CallF where
  fn : Int
  at_ : Int
  regs : List Int
  slots : List Int
def callOf (s : St) (i : Nat) (f : Fr) : CallF := ⟨f.fn, if i + 1 = s.opn.length then s.at_ else wrap64 (f.next - 1), f.regs, f.slots⟩
/-- The calls in cells: each owns its two rows. -/
def CRow (W : World) (n₀ : Nat) (cs : List CallF) (xs : List Value) : Prop := xs.length = 4 * cs.length ∧ ∀ k c, cs[k]? = some c → ∃ rv sv, xs[4 * k]? = some (.int .i64 c.fn) ∧ xs[4 * k + 1]? = some (.int .i64 c.at_) ∧ xs[4 * k + 2]? = some rv ∧ xs[4 * k + 3]? = some sv ∧
  W.ownsRow n₀ 2 1 rv c.regs.length (intsV c.regs) ∧ W.ownsRow n₀ 2 1 sv c.slots.length (intsV c.slots)
theorem CRow.keep {W W' : World} {n₀ : Nat} {cs : List CallF} {xs : List Value} (h : CRow W n₀ cs xs) (hs : ∀ (k : Nat) cur, W.heap[k]? = some (Obj.cells cur 2 (0, 0)) → W'.heap[k]? = W.heap[k]?) : CRow W' n₀ cs xs := by
  refine ⟨h.1, fun k c hk => ?_⟩
  obtain ⟨rv, sv, h1, h2, h3, h4, h5, h6⟩ := h.2 k c hk
  refine ⟨rv, sv, h1, h2, h3, h4, osame h5 fun j hj => ?_, osame h6 fun j hj => ?_⟩
  · obtain ⟨_, cur, hc⟩ := oblk h5 j hj
    exact hs j cur hc
  · obtain ⟨_, cur, hc⟩ := oblk h6 j hj
    exact hs j cur hc
theorem CRow.nil (W : World) (n₀ : Nat) : CRow W n₀ [] [] := ⟨rfl, fun k c h => by simp at h⟩
theorem CRow.snoc {W : World} {n₀ : Nat} {cs : List CallF} {xs : List Value} (h : CRow W n₀ cs xs) {c : CallF} {rv sv : Value} (h1 : W.ownsRow n₀ 2 1 rv c.regs.length (intsV c.regs)) (h2 : W.ownsRow n₀ 2 1 sv c.slots.length (intsV c.slots)) : CRow W n₀ (cs ++ [c]) (xs ++ [.int .i64 c.fn, .int .i64 c.at_, rv, sv]) := by
  refine ⟨by rw [List.length_append, List.length_append, h.1]; simp; omega, fun k d hk => ?_⟩
  have hl := h.1
  rcases Nat.lt_or_ge k cs.length with hlt | hge
  · rw [List.getElem?_append_left hlt] at hk
    obtain ⟨rv', sv', g1, g2, g3, g4, g5, g6⟩ := h.2 k d hk
    refine ⟨rv', sv', ?_, ?_, ?_, ?_, g5, g6⟩
    all_goals rw [List.getElem?_append_left (by omega)]; assumption
  · rw [List.getElem?_append_right hge] at hk
    have hk0 : k = cs.length := by
      have := (List.getElem?_eq_some_iff.1 hk).1
      simp at this
      omega
    subst hk0
    simp at hk
    subst hk
    refine ⟨rv, sv, ?_, ?_, ?_, ?_, h1, h2⟩
    all_goals rw [List.getElem?_append_right (by omega)]
    · have : 4 * cs.length - xs.length = 0 := by omega
      rw [this]; rfl
    · have : 4 * cs.length + 1 - xs.length = 1 := by omega
      rw [this]; rfl
    · have : 4 * cs.length + 2 - xs.length = 2 := by omega
      rw [this]; rfl
    · have : 4 * cs.length + 3 - xs.length = 3 := by omega
      rw [this]; rfl
theorem mback_any (a : Option Addr) (len cap : Nat) (w : World) :
    Calls Try.prog 33 #[.slice a len cap] w fun e w' => e = .returned (.func (.func 48) #[] #[.pointer (some ⟨w.heap.size, 0, none⟩)]) ∧ w' = w.alloc (.cells #[.slice a len cap] 66) := by
  go_enter Try.func33, Try.ntmps33
  go_wp2_with fail
  go_ret
  exact ⟨rfl, rfl⟩
theorem mback_stops (n : Nat) (hn : 1 ≤ n) (Bs n₀ len cap : Nat) (oa : Option Addr) (blk : Fin len → Nat) (w : World) (hBs : w.cell? ⟨Bs, 0, none⟩ = some (.slice oa len cap)) (hBl : Bs < w.heap.size) (hn₀ : n₀ ≤ w.heap.size) (hlen : len ≤ 100) (hc : ∀ j : Fin len, ∃ b, oa = some ⟨b, 0, none⟩ ∧ b < n₀ ∧ w.cell? ⟨b, j.1, none⟩ = some (.pointer (some ⟨blk j, 0, none⟩))) :
    SeqStopsK Fence.wide n Try.prog 48 #[.pointer (some ⟨Bs, 0, none⟩)] (fun x : Fin len => #[Value.int .i64 (x.1 : Int), .pointer (some ⟨blk x, 0, none⟩)]) (KpB n₀ Bs) (fun ys => ys = downs len len) (fun _ => True) len w := fun l J Jx W hW _ _ hY h0 =>
  back1_in n hn l Bs n₀ len cap oa blk J Jx hY W ((hW.cell (p := ⟨Bs, 0, none⟩) hBl).trans hBs) (Nat.lt_of_lt_of_le hBl hW.size) hlen (fun j => by
    obtain ⟨b, h1, h2, h3⟩ := hc j
    have hb : b < w.heap.size := Nat.lt_of_lt_of_le h2 hn₀
    exact ⟨b, h1, h2, Nat.lt_of_lt_of_le hb hW.size, (hW.cell (p := ⟨b, j.1, none⟩) hb).trans h3⟩) h0
theorem kpB_b {n₀ Bs B : Nat} (h1 : n₀ ≤ B) (h2 : Bs < B) (W : World) (l : Nat) (o o' : Obj) (hl : B ≤ l) (_ : W.heap[l]? = some o) (_ : o.isCells = false) (_ : o.isWalk = false) : KpB n₀ Bs W (W.putObj l o') :=
  ⟨by simp [World.putObj], fun k _ hb => World.putObj_heap_other (by omega)⟩
theorem cFacts {w5 w6 : World} {a b c d : Value} {T : TypeId} (b6 : Below (w5.alloc (.cells #[a, b, c, d] T)).heap.size (w5.alloc (.cells #[a, b, c, d] T)) w6) : w6.heap[w5.heap.size]? = some (.cells #[a, b, c, d] T (0, 0)) ∧ (w6.cell? ⟨w5.heap.size, 0, none⟩ = some a ∧ w6.cell? ⟨w5.heap.size, 1, none⟩ = some b ∧ w6.cell? ⟨w5.heap.size, 2, none⟩ = some c ∧ w6.cell? ⟨w5.heap.size, 3, none⟩ = some d) ∧
    w6.frozen? ⟨w5.heap.size, 0, none⟩ = false ∧ w6.frozen? ⟨w5.heap.size, 1, none⟩ = false ∧ w6.frozen? ⟨w5.heap.size, 2, none⟩ = false ∧ w6.frozen? ⟨w5.heap.size, 3, none⟩ = false := by
  have hx6 : w6.heap[w5.heap.size]? = some (.cells #[a, b, c, d] T (0, 0)) := (b6.block w5.heap.size (by simp)).trans (heap_alloc_new _ _)
  refine ⟨hx6, ⟨?_, ?_, ?_, ?_⟩, ?_, ?_, ?_, ?_⟩
  all_goals simp [World.cell?, World.frozen?, hx6]
theorem cFactsD {w5 w6 : World} {a b c d : Value} {T : TypeId} (b6 : Below ((w5.alloc (.cells #[a, b, c, d] T)).drew).heap.size ((w5.alloc (.cells #[a, b, c, d] T)).drew) w6) : w6.heap[w5.heap.size]? = some (.cells #[a, b, c, d] T (0, 0)) ∧ (w6.cell? ⟨w5.heap.size, 0, none⟩ = some a ∧ w6.cell? ⟨w5.heap.size, 1, none⟩ = some b ∧ w6.cell? ⟨w5.heap.size, 2, none⟩ = some c ∧ w6.cell? ⟨w5.heap.size, 3, none⟩ = some d) ∧
    w6.frozen? ⟨w5.heap.size, 0, none⟩ = false ∧ w6.frozen? ⟨w5.heap.size, 1, none⟩ = false ∧ w6.frozen? ⟨w5.heap.size, 2, none⟩ = false ∧ w6.frozen? ⟨w5.heap.size, 3, none⟩ = false :=
  cFacts (w5 := w5) (w6 := w6) ⟨b6.os, b6.tape, b6.output, b6.size, b6.block⟩
theorem cBlk {w6 : World} {k : Nat} {a b c d : Value} {T : TypeId} (hx6 : w6.heap[k]? = some (.cells #[a, b, c, d] T (0, 0))) : w6.heap[k]? = some (.cells #[a, b, c, d] T (0, 0)) ∧ (w6.cell? ⟨k, 0, none⟩ = some a ∧ w6.cell? ⟨k, 1, none⟩ = some b ∧ w6.cell? ⟨k, 2, none⟩ = some c ∧ w6.cell? ⟨k, 3, none⟩ = some d) ∧
    w6.frozen? ⟨k, 0, none⟩ = false ∧ w6.frozen? ⟨k, 1, none⟩ = false ∧ w6.frozen? ⟨k, 2, none⟩ = false ∧ w6.frozen? ⟨k, 3, none⟩ = false := by
  refine ⟨hx6, ⟨?_, ?_, ?_, ?_⟩, ?_, ?_, ?_, ?_⟩
  all_goals simp [World.cell?, World.frozen?, hx6]
theorem info_call' : (Try.prog.info? 89).map (fun i => (i.zero, i.size, i.bytes)) = some (some (.agg #[.int .i64 0, .int .i64 0, .slice none 0 0, .slice none 0 0]), 4, 64) := by kernel_rfl
/-- What has been told of the calls so far. -/
def CInv (w : World) (M : Nat) (s : St) (cl : List (Fr × FV)) (bv : Value) (pre : List (Fin cl.length)) (W : World) : Prop :=
  (∃ v xs, Boxed W (w.heap.size + 1) 47 v ∧ W.ownsRow w.heap.size 89 4 v pre.length xs ∧ CRow W w.heap.size (pre.map fun x => callOf s x.1 cl[x.1].1) xs) ∧ Boxed W w.heap.size 31 (.pointer (some ⟨M, 0, none⟩)) ∧ Boxed W (w.heap.size + 1 + 1) 66 bv ∧ Below w.heap.size w W
theorem cInv_own (w : World) (M : Nat) (s : St) (cl : List (Fr × FV)) (bv : Value) (B : Nat) (hB : w.heap.size ≤ B) : OwnFrom B (CInv w M s cl bv) := by
  rintro pre W W' row ⟨⟨v, xs, h1, h2, h3⟩, h4, h6, h5⟩ hg hr
  have hk : ∀ (k : Nat) (o : Obj), W.heap[k]? = some o → o.isCells = true → W'.heap[k]? = W.heap[k]? := fun k o hko hc => grownBy_keeps_cells hg (fun r e => (hr r e).2) hko hc
  refine ⟨⟨v, xs, (hk _ _ h1 rfl).trans h1, osame h2 fun k hkb => ?_, h3.keep fun k cur hkc => hk k _ hkc rfl⟩, (hk _ _ h4 rfl).trans h4, (hk _ _ h6 rfl).trans h6, ?_⟩
  · obtain ⟨_, cur, hc⟩ := oblk h2 k hkb
    exact hk k _ hc rfl
  · exact ownFrom_below (Nat.le_refl _) hB pre W W' row h5 hg hr
/-- A call more is told. -/
theorem cStep {w W wN w1 : World} {M B : Nat} {s : St} {cl : List (Fr × FV)} {bv v v' r5 r6 : Value} {pre : List (Fin cl.length)} {x : Fin cl.length} {xs : List Value} {tmp : Obj} {c : CallF}
    (hO : Boxed W (w.heap.size + 1) 47 v) (hrow : W.ownsRow w.heap.size 89 4 v pre.length xs) (hcr : CRow W w.heap.size (pre.map fun x => callOf s x.1 cl[x.1].1) xs) (hG : Boxed W w.heap.size 31 (.pointer (some ⟨M, 0, none⟩))) (hS : Boxed W (w.heap.size + 1 + 1) 66 bv) (hB : Below w.heap.size w W)
    (hbN : Below W.heap.size W wN) (hown : w1.ownsRow w.heap.size 89 4 v' (pre.length + 1) (xs ++ [.int .i64 c.fn, .int .i64 c.at_, r5, r6])) (hgrow : (wN.alloc tmp).grownBy w1 v.ownBlock)
    (h5 : wN.ownsRow W.heap.size 2 1 r5 c.regs.length (intsV c.regs)) (h6 : wN.ownsRow W.heap.size 2 1 r6 c.slots.length (intsV c.slots)) (hc : callOf s x.1 cl[x.1].1 = c) :
    KeepsFrom B W (w1.setCell ⟨w.heap.size + 1, 0, none⟩ v') ∧ KpB w.heap.size (w.heap.size + 1 + 1) W (w1.setCell ⟨w.heap.size + 1, 0, none⟩ v') ∧ CInv w M s cl bv (pre ++ [x]) (w1.setCell ⟨w.heap.size + 1, 0, none⟩ v') := by
  have hvb : ∀ k, v.ownBlock = some k → w.heap.size ≤ k ∧ ∃ cur, W.heap[k]? = some (.cells cur 89 (0, 0)) := oblk hrow
  have hsN := hbN.size
  have hs1 : wN.heap.size < w1.heap.size := by have := hgrow.size; rw [World.size_alloc] at this; omega
  have hO1 := hO.lt
  have hwW := hB.size
  have same : ∀ k, k < wN.heap.size → v.ownBlock ≠ some k → k ≠ w.heap.size + 1 → (w1.setCell ⟨w.heap.size + 1, 0, none⟩ v').heap[k]? = wN.heap[k]? := fun k hk hv hk1 => by
    rw [Below.heap_setCell _ _ _ _ hk1, hgrow.block k (by rw [World.size_alloc]; omega) (Ne.symm hv), Below.heap_alloc _ _ _ hk]
  have sameW : ∀ k, k < W.heap.size → v.ownBlock ≠ some k → k ≠ w.heap.size + 1 → (w1.setCell ⟨w.heap.size + 1, 0, none⟩ v').heap[k]? = W.heap[k]? := fun k hk hv hk1 => (same k (by omega) hv hk1).trans (hbN.block k hk)
  have hty : ∀ k cur T f, W.heap[k]? = some (Obj.cells cur T f) → T ≠ 89 → v.ownBlock ≠ some k := fun k cur T f hk hT e => by
    obtain ⟨_, cur', h⟩ := hvb k e
    rw [hk] at h
    cases h
    exact hT rfl
  have hv1 : Boxed w1 (w.heap.size + 1) 47 v := by
    have h0 := hty _ _ _ _ hO (by decide)
    exact (hgrow.block _ (by rw [World.size_alloc]; omega) (Ne.symm h0)).trans ((Below.heap_alloc _ _ _ (by omega)).trans ((hbN.block _ hO1).trans hO))
  have hint : ∀ (k : Nat) cur, wN.heap[k]? = some (Obj.cells cur 2 (0, 0)) → (w1.setCell ⟨w.heap.size + 1, 0, none⟩ v').heap[k]? = wN.heap[k]? := fun k cur hk => by
    refine same k (Array.getElem?_eq_some_iff.1 hk).1 (fun e => ?_) (fun e => ?_)
    · obtain ⟨_, cur', h⟩ := hvb k e
      rw [hbN.block k (Array.getElem?_eq_some_iff.1 h).1, h] at hk
      simp at hk
    · rw [e, hbN.block _ hO1, show W.heap[w.heap.size + 1]? = _ from hO] at hk
      simp at hk
  refine ⟨⟨by rw [World.size_setCell]; omega, fun k o _ hk ho => ?_⟩, ⟨by rw [World.size_setCell]; omega, fun k hk hb => sameW k hk (fun e => ?_) ?_⟩, ⟨⟨v', xs ++ [.int .i64 c.fn, .int .i64 c.at_, r5, r6], hv1.set v', ?_, ?_⟩, ?_, ?_, ?_⟩⟩
  · refine (sameW k (Array.getElem?_eq_some_iff.1 hk).1 (fun e => ?_) (fun e => ?_)).trans hk
    · obtain ⟨_, cur', h⟩ := hvb k e
      rw [hk] at h; cases h; cases ho
    · rw [e, show W.heap[w.heap.size + 1]? = _ from hO] at hk
      cases hk; cases ho
  · obtain ⟨h1, cur', h⟩ := hvb k e
    rcases hb with hb | hb
    · omega
    · rw [hb, show W.heap[w.heap.size + 1 + 1]? = _ from hS] at h
      simp at h
  · rcases hb with hb | hb <;> omega
  · have h9 := hown
    rw [List.length_append, List.length_singleton]
    refine osame h9 fun k hk => Below.heap_setCell _ _ _ _ (fun e => ?_)
    obtain ⟨_, cur, h⟩ := oblk hown k hk
    have e : k = w.heap.size + 1 := e
    rw [e, show w1.heap[w.heap.size + 1]? = _ from hv1] at h
    simp at h
  · rw [List.map_append, List.map_cons, List.map_nil, hc]
    refine CRow.snoc (hcr.keep fun k cur hk => ?_) (odown (osame h5 fun k hk => ?_) hwW) (odown (osame h6 fun k hk => ?_) hwW)
    · exact sameW k (Array.getElem?_eq_some_iff.1 hk).1 (hty _ _ _ _ hk (by decide)) (fun e => by
        rw [e, show W.heap[w.heap.size + 1]? = _ from hO] at hk
        simp at hk)
    · obtain ⟨_, cur, h⟩ := oblk h5 k hk
      exact hint k cur h
    · obtain ⟨_, cur, h⟩ := oblk h6 k hk
      exact hint k cur h
  · exact (sameW _ (by omega) (hty _ _ _ _ hG (by decide)) (by omega)).trans hG
  · exact (sameW _ hS.lt (hty _ _ _ _ hS (by decide)) (by omega)).trans hS
  · refine ((hB.trans (hbN.mono hwW)).alloc (by omega) tmp |>.grown hgrow (by rw [World.size_alloc]; omega) (fun k e => (hvb k e).1)).setCell (by show w.heap.size ≤ w.heap.size + 1; omega) _
theorem cOne {w6 : World} {Cb n B i : Nat} {a b c d a' v : Value} {xs : List Value} (hx : w6.heap[Cb]? = some (.cells #[a, b, c, d] 89 (0, 0))) (h : w6.ownsRow B 2 1 v n xs) : (w6.setCell ⟨Cb, i, none⟩ a').ownsRow B 2 1 v n xs :=
  osame h fun g hg => Below.heap_setCell _ _ _ _ (fun e => by
    obtain ⟨_, cur, h1⟩ := oblk h g hg
    have e : g = Cb := e
    rw [e, hx] at h1
    simp at h1)
theorem cFour (w : World) (n : Nat) (a b c d : Value) (T : TypeId) (hn : n = w.heap.size) : ∀ j u, [a, b, c, d][j]? = some u → (w.alloc (.cells #[a, b, c, d] T)).cell? ((⟨n, 0, none⟩ : Addr).add j) = some u := by
  intro j u hj
  subst hn
  have hx : (w.alloc (.cells #[a, b, c, d] T)).heap[w.heap.size]? = some (.cells #[a, b, c, d] T (0, 0)) := heap_alloc_new _ _
  rw [add_plain]
  match j, hj with
  | 0, hj => simp at hj; subst hj; exact (cBlk hx).2.1.1
  | 1, hj => simp at hj; subst hj; exact (cBlk hx).2.1.2.1
  | 2, hj => simp at hj; subst hj; exact (cBlk hx).2.1.2.2.1
  | 3, hj => simp at hj; subst hj; exact (cBlk hx).2.1.2.2.2
theorem cBox {wN w1 : World} {O base n : Nat} {v : Value} {xs : List Value} {tmp : Obj} (hO : Boxed wN O 47 v) (hrow : wN.ownsRow base 89 4 v n xs) (hgrow : (wN.alloc tmp).grownBy w1 v.ownBlock) : Boxed w1 O 47 v := by
  have h0 : v.ownBlock ≠ some O := fun e => by
    obtain ⟨_, cur, h⟩ := oblk hrow O e
    rw [show wN.heap[O]? = _ from hO] at h
    simp at h
  exact (hgrow.block _ (by rw [World.size_alloc]; have := hO.lt; omega) (Ne.symm h0)).trans ((Below.heap_alloc _ _ _ hO.lt).trans hO)
/-- Where a round's call is told, ahead of its place. -/
def MidC (W : World) (F M G : Nat) (oa sa : Option Addr) (oc n i sc : Nat) (f : Fr) (sn : Nat) (a' : Act) (w' : World) : Prop :=
  ∃ ra5 rc5 ra6 rc6 Cb, a' = { tmps := #[.pointer (some ⟨M, 0, none⟩), .pointer (some ⟨G, 0, none⟩), .slice none 0 0, .pointer (some ⟨G + 1, 0, none⟩), .int .i64 (i : Int), .pointer (some ⟨F, 0, none⟩), .pointer (some ⟨Cb, 0, none⟩), .pointer (some ⟨M, 0, none⟩), .bool false, .pointer (some ⟨M, 0, none⟩), .pointer (some ⟨M, 0, none⟩), .pointer (some ⟨M, 5, none⟩), .slice oa n oc, .func (.func 48) #[] #[.pointer (some ⟨G + 1 + 1, 0, none⟩)], .int .i64 (i : Int), .pointer (some ⟨F, 0, none⟩), .pointer (some ⟨F, 0, none⟩), .pointer (some ⟨F, 0, none⟩), .pointer (some ⟨F, 0, none⟩), .int .i64 f.fn, .pointer (some ⟨F, 0, none⟩), .pointer (some ⟨F, 0, none⟩), .pointer (some ⟨F, 1, none⟩), .int .i64 f.next, .int .i64 (IntKind.i64.wrap (f.next - 1)), .pointer (some ⟨F, 0, none⟩), .pointer (some ⟨F, 0, none⟩), .pointer (some ⟨F, 2, none⟩), .slice (some ⟨F, 2, none⟩) 16 16, .slice ra5 16 rc5, .pointer (some ⟨F, 0, none⟩), .pointer (some ⟨F, 0, none⟩), .pointer (some ⟨F, 18, none⟩), .slice sa sn sc, .slice ra6 sn rc6, .agg #[.int .i64 f.fn, .int .i64 (IntKind.i64.wrap (f.next - 1)), .slice ra5 16 rc5, .slice ra6 sn rc6], undef, undef, undef, undef, undef, undef, undef, undef, undef, undef, undef, undef, undef, undef, undef, undef, undef, undef, undef], defers := [] } ∧
    w'.heap[Cb]? = some (.cells #[.int .i64 f.fn, .int .i64 (IntKind.i64.wrap (f.next - 1)), .slice ra5 16 rc5, .slice ra6 sn rc6] 89 (0, 0)) ∧ W.heap.size ≤ Cb ∧ w'.ownsRow W.heap.size 2 1 (.slice ra5 16 rc5) 16 (intsV f.regs) ∧ w'.ownsRow W.heap.size 2 1 (.slice ra6 sn rc6) sn (intsV f.slots) ∧ Below W.heap.size W w'
theorem cKeep {w6 : World} {Cb n B : Nat} {a b c d a' b' c' d' v : Value} {xs : List Value} (hx : w6.heap[Cb]? = some (.cells #[a, b, c, d] 89 (0, 0))) (h : w6.ownsRow B 2 1 v n xs) :
    ((((w6.setCell ⟨Cb, 0, none⟩ a').setCell ⟨Cb, 1, none⟩ b').setCell ⟨Cb, 2, none⟩ c').setCell ⟨Cb, 3, none⟩ d').ownsRow B 2 1 v n xs := by
  have k : ∀ g, v.ownBlock = some g → g ≠ Cb := fun g hg e => by
    obtain ⟨_, cur, h1⟩ := oblk h g hg
    rw [e, hx] at h1
    simp at h1
  refine osame h fun g hg => ?_
  rw [Below.heap_setCell _ _ _ _ (k g hg), Below.heap_setCell _ _ _ _ (k g hg), Below.heap_setCell _ _ _ _ (k g hg), Below.heap_setCell _ _ _ _ (k g hg)]
theorem cEnd {W w6 : World} {Cb : Nat} {a b c d a' b' c' d' : Value} {T : TypeId} (hx : w6.heap[Cb]? = some (.cells #[a, b, c, d] T (0, 0))) (hb : Below W.heap.size W w6) (hg : W.heap.size ≤ Cb) :
    Below W.heap.size W ((((w6.setCell ⟨Cb, 0, none⟩ a').setCell ⟨Cb, 1, none⟩ b').setCell ⟨Cb, 2, none⟩ c').setCell ⟨Cb, 3, none⟩ d') ∧ ((((w6.setCell ⟨Cb, 0, none⟩ a').setCell ⟨Cb, 1, none⟩ b').setCell ⟨Cb, 2, none⟩ c').setCell ⟨Cb, 3, none⟩ d').heap[Cb]? = some (.cells #[a', b', c', d'] T (0, 0)) := by
  refine ⟨(((hb.setCell hg _).setCell hg _).setCell hg _).setCell hg _, ?_⟩
  rw [heap_set (heap_set (heap_set (heap_set hx 0 a') 1 b') 2 c') 3 d']
  simp
set_option maxRecDepth 100000 in
set_option maxHeartbeats 40000000 in
theorem mcalls_any (w : World) (t : Nat → Nat) (base M : Nat) (E : Env) (V : MV) (cl : List (Fr × FV)) (s : St) (h : MRep w t base M E V cl s) (hn : s.opn.length ≤ 100) (hsl : ∀ f ∈ s.opn, f.slots.length ≤ 60000) :
    Calls Try.prog 18 #[.pointer (some ⟨M, 0, none⟩)] w fun e w' => ∃ v xs, e = .returned v ∧ w'.ownsRow w.heap.size 89 4 v cl.length xs ∧ CRow w' w.heap.size ((downs cl.length cl.length).map fun x => callOf s x.1 cl[x.1].1) xs ∧ Below w.heap.size w w' := by
  obtain ⟨oa, oc, hov, -, -⟩ := oshape h.ho.own
  have c5 : w.cell? ⟨M, 5, none⟩ = some (.slice oa cl.length oc) := (h.cellM 5).trans ((mC_get _ _).2.2.2.1.trans (by rw [hov]))
  have hlM := h.ltM
  have hcl : cl.length ≤ 100 := by rw [h.opn] at hn; simpa using hn
  have hc : ∀ j : Fin cl.length, ∃ b, oa = some ⟨b, 0, none⟩ ∧ b < w.heap.size ∧ w.cell? ⟨b, j.1, none⟩ = some (.pointer (some ⟨cl[j.1].2.blk, 0, none⟩)) := fun j => by
    have hj := j.2
    obtain ⟨b, c, hv, hb, -, -, hat⟩ := osplit h.ho.own (by omega)
    rw [hov] at hv
    simp only [Value.slice.injEq, true_and] at hv
    exact ⟨b, hv.1, hb, hat j.1 _ (by simp [ptrC])⟩
  have H := Lib.hid h
  have HC := Lib.hid hc
  clear hov hc h
  refine (callsIn_wide (n := 6)).1 ?_
  refine callsIn_of_wp_marks Try.func18 rfl trivial ?_ rfl
  simp only [Try.ntmps18, List.size_toArray, List.length_cons, List.length_nil, Nat.reduceAdd, Nat.reduceSub, Array.replicate_succ, Array.replicate_zero, List.push_toArray, List.append_toArray, List.nil_append, List.cons_append]
  gi_wp2_with (refine ⟨trivial, ?_⟩; gi_at_call 33; refine (callsIn_wide.2 (mback_any _ _ _ _)).mono ?_; rintro e w' ⟨rfl, rfl⟩)
  have bG := Boxed.new w 31 (.pointer (some ⟨M, 0, none⟩))
  have bO := Boxed.new (w.alloc (.cells #[.pointer (some ⟨M, 0, none⟩)] 31)) 47 (.slice none 0 0)
  rw [World.size_alloc] at bO
  obtain ⟨w2, hw2⟩ : ∃ w2, w2 = (w.alloc (.cells #[.pointer (some ⟨M, 0, none⟩)] 31)).alloc (.cells #[.slice none 0 0] 47) := ⟨_, rfl⟩
  have bG2 := bG.alloc (.cells #[.slice none 0 0] 47)
  rw [← hw2] at bG2 bO ⊢
  have hs2 : w2.heap.size = w.heap.size + 1 + 1 := by rw [hw2]; simp
  have hb2 : Below w.heap.size w w2 := by rw [hw2]; exact ((Below.refl _ _).alloc (Nat.le_refl _) _).alloc (by simp) _
  have bB := Boxed.new w2 66 (.slice oa cl.length oc)
  rw [hs2] at bB
  obtain ⟨w3, hw3⟩ : ∃ w3, w3 = w2.alloc (.cells #[.slice oa cl.length oc] 66) := ⟨_, rfl⟩
  have hb3 : Below w.heap.size w w3 := by rw [hw3]; exact hb2.alloc (by omega) _
  have bG3 := bG2.alloc (.cells #[.slice oa cl.length oc] 66)
  have bO3 := bO.alloc (.cells #[.slice oa cl.length oc] 66)
  rw [← hw3] at bB bG3 bO3 ⊢
  have hs3 : w3.heap.size = w.heap.size + 1 + 1 + 1 := by rw [hw3, World.size_alloc, hs2]
  have I0 : CInv w M s cl (.slice oa cl.length oc) [] w3 := ⟨⟨_, [], bO3, World.ownsRow_nil _ _ _ _, CRow.nil _ _⟩, bG3, bB, hb3⟩
  have hst := mback_stops (6 - 1) (by omega) (w.heap.size + 1 + 1) w.heap.size cl.length oc oa (fun j => cl[j.1].2.blk) w3 bB.cell (by rw [hs3]; omega) (by rw [hs3]; omega) hcl (fun j => by
    obtain ⟨b, h1, h2, h3⟩ := HC.out j
    exact ⟨b, h1, h2, (hb3.cell (p := ⟨b, j.1, none⟩) h2).trans h3⟩)
  clear hw2 hw3 bG bG2 bO hs2 hb2 bB bG3 bO3 HC
  refine wpIn_rangeFunc_ownG rfl (by omega) (gf := 48) (lb := #[.pointer (some ⟨w.heap.size + 1 + 1, 0, none⟩)]) rfl trivial (enters_of Try.func48 (by kernel_rfl) rfl)
    hst KpB.trans (kpB_b (by omega) (by omega)) (Below.refl _ _) (fun _ => rfl)
    (CInv w M s cl (.slice oa cl.length oc)) (fun _ _ _ => False) (cInv_own w M s cl _ _ (by omega)) (fun _ _ _ _ _ hs _ _ => hs) I0
    (fun x => { tmps := #[.pointer (some ⟨M, 0, none⟩), .pointer (some ⟨w.heap.size, 0, none⟩), .slice none 0 0, .pointer (some ⟨w.heap.size + 1, 0, none⟩), .int .i64 (x.1 : Int), .pointer (some ⟨cl[x.1].2.blk, 0, none⟩), undef, .pointer (some ⟨M, 0, none⟩), .bool false, .pointer (some ⟨M, 0, none⟩), .pointer (some ⟨M, 0, none⟩), .pointer (some ⟨M, 5, none⟩), .slice oa cl.length oc, .func (.func 48) #[] #[.pointer (some ⟨w.heap.size + 1 + 1, 0, none⟩)], .int .i64 (x.1 : Int), .pointer (some ⟨cl[x.1].2.blk, 0, none⟩), undef, undef, undef, undef, undef, undef, undef, undef, undef, undef, undef, undef, undef, undef, undef, undef, undef, undef, undef, undef, undef, undef, undef, undef, undef, undef, undef, undef, undef, undef, undef, undef, undef, undef, undef, undef, undef, undef, undef], defers := [] }) ?assign ?body ?done ?stop
  case assign =>
    intro l x W K hK
    gi_wp2
    exact hK
  case body =>
    rintro l pre x W ⟨⟨v, xs, hO, hrow, hcr⟩, hG, hS, hB⟩ hlt
    have mixed : Try.prog.follows Departure.mixedOrders = true := by kernel_rfl
    have hR := H.out.below (hB.mono (Nat.le_refl _))
    obtain ⟨i, hi⟩ : ∃ i, i = x.1 := ⟨_, rfl⟩
    have hil : i < cl.length := by rw [hi]; exact x.2
    obtain ⟨p, hp⟩ : ∃ p, p = cl[i] := ⟨_, rfl⟩
    have hpi : cl[i]? = some p := by rw [hp]; exact List.getElem?_eq_getElem hil
    have hpr := hR.fr i p hpi
    obtain ⟨f, cv⟩ := p
    have hblk : cl[x.1].2.blk = cv.blk := by have : cl[x.1] = (f, cv) := by rw [hp]; congr 1; exact hi.symm
                                             rw [this]
    obtain ⟨F, hF⟩ : ∃ F, F = cv.blk := ⟨_, rfl⟩
    rw [hblk, ← hF, ← hi]
    have hfb : W.heap[F]? = some (.cells (fC f cv) 87 (0, 0)) := by rw [hF]; exact hpr.fb
    have hrl : f.regs.length = 16 := hpr.rl
    have hFl : F < W.heap.size := (Array.getElem?_eq_some_iff.1 hfb).1
    have g : ∀ j, W.cell? ⟨F, j, none⟩ = (fL f cv)[j]? := fun j => by rw [← fC_at]; simp [World.cell?, hfb]
    have g0 : W.cell? ⟨F, 0, none⟩ = some (.int .i64 f.fn) := (g 0).trans (fL_fn f cv).1
    have g1 : W.cell? ⟨F, 1, none⟩ = some (.int .i64 f.next) := (g 1).trans (fL_fn f cv).2
    obtain ⟨sa, sc, hsv, -, -⟩ := oshape hpr.sl.own
    obtain ⟨sn, hsn⟩ : ∃ n, n = f.slots.length := ⟨_, rfl⟩
    have g18 : W.cell? ⟨F, 18, none⟩ = some (.slice sa sn sc) := (g 18).trans ((fL_tail f cv hrl).1.trans (by rw [show cv.sv = _ from hsv, hsn]))
    have hc1 : Rd W 1 (.slice (some ⟨F, 2, none⟩) 16 16) 16 (intsV f.regs) := Rd.mk (by simp [intsV, hrl]) (Nat.le_refl _) (by decide) (fun j hj => by
      have hj' : j < 16 := by simpa [intsV, hrl] using hj
      rw [g (2 + j), fL_reg f cv hrl j hj']
      simp [intsV, hj', hrl])
    have hc2 : Rd W 1 (.slice sa sn sc) sn (intsV f.slots) := by
      have := Rd.of_own hpr.sl.own
      rw [show cv.sv = _ from hsv, ← hsn] at this
      exact this
    have hsn6 : sn * 8 ≤ 140737488355328 := by
      have hfm : f ∈ s.opn := by rw [hR.opn]; exact List.mem_map.2 ⟨(f, cv), List.mem_of_getElem? hpi, rfl⟩
      have := hsl f hfm
      omega
    have HCL1 := Lib.hid (fun Y (hb : Below W.heap.size W Y) => cloneN _ 16 _ Y (Rd.later hc1 hb) (intsV_one _) (by decide))
    have HCL2 := Lib.hid (fun Y (hb : Below W.heap.size W Y) => cloneN _ sn _ Y (Rd.later hc2 hb) (intsV_one _) hsn6)
    have HID := Lib.hid (And.intro hi (And.intro hp (And.intro hsn hrl)))
    clear hi hp hpi hpr hblk hF hfb g hsv hsn hc1 hc2
    have hb0 : Below W.heap.size W W.drew := (Below.refl _ _).drew
    have HB0 := Lib.hid hb0
    have HCI := Lib.hid (And.intro hO (And.intro hrow (And.intro hcr (And.intro hG (And.intro hS hB)))))
    have HC5 := Lib.hid (And.intro c5 (And.intro hn hlM))
    have HRL := Lib.hid hrl
    have HLT := Lib.hid hlt
    have hGl : w.heap.size < W.heap.size := hG.lt
    clear hb0 hO hrow hcr hG hS hB hlt hst I0 hb3 hs3 c5 hn hR hrl
    gi_wp2
    refine wpIn_mono (Q := CutR (fun a' w' => MidC W F M w.heap.size oa sa oc cl.length i sc f sn a' w')) ?_ ?_
    · refine region_in (fun Y => Y.cell? ⟨F, 0, none⟩ = some (.int .i64 f.fn) ∧ Y.cell? ⟨F, 1, none⟩ = some (.int .i64 f.next) ∧ Y.cell? ⟨F, 18, none⟩ = some (.slice sa sn sc)) mixed (by kernel_rfl) ⟨g0, g1, g18⟩ (fun hHeld => ?_)
      have HB0 : Hid (Below W.heap.size W W.drew) := HB0
      have SOF : Hid (∀ Y, Below W.heap.size W Y → Y.cell? ⟨F, 0, none⟩ = some (.int .i64 f.fn) ∧ Y.cell? ⟨F, 1, none⟩ = some (.int .i64 f.next) ∧ Y.cell? ⟨F, 18, none⟩ = some (.slice sa sn sc)) := Lib.hid fun Y hb => ⟨(hb.cell (p := ⟨F, 0, none⟩) hFl).trans g0, (hb.cell (p := ⟨F, 1, none⟩) hFl).trans g1, (hb.cell (p := ⟨F, 18, none⟩) hFl).trans g18⟩
      generalize W.drew = w0 at HB0 hHeld ⊢
      -- REGION BEGIN
      refine wpAnyH_take (i := 0) (oi := _) (v := ?vq1) rfl (by kernel_rfl) (by kernel_rfl) (by kernel_rfl) (fun _ _ _ h => h) (Or.inl ⟨by rfl, ?hyq1⟩) hHeld ?_
      case hyq1 =>
        intro Y hSw
        obtain ⟨s0, s1, s18⟩ := hSw
        go_simp
        try with_reducible rfl
      try simp only [Act.put, List.getElem_toArray, List.getElem_cons_succ, List.getElem_cons_zero, List.setIfInBounds_toArray, List.set_cons_zero, List.set_cons_succ]
      refine wpAnyH_take (i := 1) (oi := _) (v := ?vq2) rfl (by kernel_rfl) (by kernel_rfl) (by kernel_rfl) (fun _ _ _ h => h) (Or.inl ⟨by rfl, ?hyq2⟩) hHeld ?_
      case hyq2 =>
        intro Y hSw
        obtain ⟨s0, s1, s18⟩ := hSw
        go_simp
        try with_reducible rfl
      try simp only [Act.put, List.getElem_toArray, List.getElem_cons_succ, List.getElem_cons_zero, List.setIfInBounds_toArray, List.set_cons_zero, List.set_cons_succ]
      refine wpAnyH_take (i := 2) (oi := _) (v := ?vq3) rfl (by kernel_rfl) (by kernel_rfl) (by kernel_rfl) (fun _ _ _ h => h) (Or.inl ⟨by rfl, ?hyq3⟩) hHeld ?_
      case hyq3 =>
        intro Y hSw
        obtain ⟨s0, s1, s18⟩ := hSw
        go_simp
        try with_reducible rfl
      try simp only [Act.put, List.getElem_toArray, List.getElem_cons_succ, List.getElem_cons_zero, List.setIfInBounds_toArray, List.set_cons_zero, List.set_cons_succ]
      refine wpAnyH_take (i := 3) (oi := _) (v := ?vq4) rfl (by kernel_rfl) (by kernel_rfl) (by kernel_rfl) (fun _ _ _ h => h) (Or.inl ⟨by rfl, ?hyq4⟩) hHeld ?_
      case hyq4 =>
        intro Y hSw
        obtain ⟨s0, s1, s18⟩ := hSw
        go_simp
        try with_reducible rfl
      try simp only [Act.put, List.getElem_toArray, List.getElem_cons_succ, List.getElem_cons_zero, List.setIfInBounds_toArray, List.set_cons_zero, List.set_cons_succ]
      refine wpAnyH_take (i := 4) (oi := _) (v := ?vq5) rfl (by kernel_rfl) (by kernel_rfl) (by kernel_rfl) (fun _ _ _ h => h) (Or.inl ⟨by rfl, ?hyq5⟩) hHeld ?_
      case hyq5 =>
        intro Y hSw
        obtain ⟨s0, s1, s18⟩ := hSw
        go_simp
        try with_reducible rfl
      try simp only [Act.put, List.getElem_toArray, List.getElem_cons_succ, List.getElem_cons_zero, List.setIfInBounds_toArray, List.set_cons_zero, List.set_cons_succ]
      refine wpAnyH_take (i := 5) (oi := _) (v := ?vq6) rfl (by kernel_rfl) (by kernel_rfl) (by kernel_rfl) (fun _ _ _ h => h) (Or.inl ⟨by rfl, ?hyq6⟩) hHeld ?_
      case hyq6 =>
        intro Y hSw
        obtain ⟨s0, s1, s18⟩ := hSw
        go_simp
        try with_reducible rfl
      try simp only [Act.put, List.getElem_toArray, List.getElem_cons_succ, List.getElem_cons_zero, List.setIfInBounds_toArray, List.set_cons_zero, List.set_cons_succ]
      refine wpAnyH_take (i := 6) (oi := _) (v := ?vq7) rfl (by kernel_rfl) (by kernel_rfl) (by kernel_rfl) (fun _ _ _ h => h) (Or.inl ⟨by rfl, ?hyq7⟩) hHeld ?_
      case hyq7 =>
        intro Y hSw
        obtain ⟨s0, s1, s18⟩ := hSw
        go_simp
        try with_reducible rfl
      try simp only [Act.put, List.getElem_toArray, List.getElem_cons_succ, List.getElem_cons_zero, List.setIfInBounds_toArray, List.set_cons_zero, List.set_cons_succ]
      refine wpAnyH_take (i := 7) (oi := _) (v := ?vq8) rfl (by kernel_rfl) (by kernel_rfl) (by kernel_rfl) (fun _ _ _ h => h) (Or.inl ⟨by rfl, ?hyq8⟩) hHeld ?_
      case hyq8 =>
        intro Y hSw
        obtain ⟨s0, s1, s18⟩ := hSw
        go_simp
        try with_reducible rfl
      try simp only [Act.put, List.getElem_toArray, List.getElem_cons_succ, List.getElem_cons_zero, List.setIfInBounds_toArray, List.set_cons_zero, List.set_cons_succ]
      refine wpAnyH_take (i := 8) (oi := _) (v := ?vq9) rfl (by kernel_rfl) (by kernel_rfl) (by kernel_rfl) (fun _ _ _ h => h) (Or.inl ⟨by rfl, ?hyq9⟩) hHeld ?_
      case hyq9 =>
        intro Y hSw
        obtain ⟨s0, s1, s18⟩ := hSw
        go_simp
        try with_reducible rfl
      try simp only [Act.put, List.getElem_toArray, List.getElem_cons_succ, List.getElem_cons_zero, List.setIfInBounds_toArray, List.set_cons_zero, List.set_cons_succ]
      refine wpAnyH_take (i := 9) (oi := _) (v := ?vq10) rfl (by kernel_rfl) (by kernel_rfl) (by kernel_rfl) (fun _ _ _ h => h) (Or.inl ⟨by rfl, ?hyq10⟩) hHeld ?_
      case hyq10 =>
        intro Y hSw
        obtain ⟨s0, s1, s18⟩ := hSw
        go_simp
        try with_reducible rfl
      try simp only [Act.put, List.getElem_toArray, List.getElem_cons_succ, List.getElem_cons_zero, List.setIfInBounds_toArray, List.set_cons_zero, List.set_cons_succ]
      refine wpAnyH_take (i := 10) (oi := _) (v := ?vq11) rfl (by kernel_rfl) (by kernel_rfl) (by kernel_rfl) (fun _ _ _ h => h) (Or.inl ⟨by rfl, ?hyq11⟩) hHeld ?_
      case hyq11 =>
        intro Y hSw
        obtain ⟨s0, s1, s18⟩ := hSw
        go_simp
        try with_reducible rfl
      try simp only [Act.put, List.getElem_toArray, List.getElem_cons_succ, List.getElem_cons_zero, List.setIfInBounds_toArray, List.set_cons_zero, List.set_cons_succ]
      refine wpAnyH_take (i := 11) (oi := _) (v := ?vq12) rfl (by kernel_rfl) (by kernel_rfl) (by kernel_rfl) (fun _ _ _ h => h) (Or.inl ⟨by rfl, ?hyq12⟩) hHeld ?_
      case hyq12 =>
        intro Y hSw
        obtain ⟨s0, s1, s18⟩ := hSw
        go_simp
        try with_reducible rfl
      try simp only [Act.put, List.getElem_toArray, List.getElem_cons_succ, List.getElem_cons_zero, List.setIfInBounds_toArray, List.set_cons_zero, List.set_cons_succ]
      refine wpAnyH_take (i := 12) (oi := _) (v := ?vq13) rfl (by kernel_rfl) (by kernel_rfl) (by kernel_rfl) (fun _ _ _ h => h) (Or.inl ⟨by rfl, ?hyq13⟩) hHeld ?_
      case hyq13 =>
        intro Y hSw
        obtain ⟨s0, s1, s18⟩ := hSw
        go_simp
        try with_reducible rfl
      try simp only [Act.put, List.getElem_toArray, List.getElem_cons_succ, List.getElem_cons_zero, List.setIfInBounds_toArray, List.set_cons_zero, List.set_cons_succ]
      refine wpAnyH_take (i := 14) (oi := _) (v := ?vq14) rfl (by kernel_rfl) (by kernel_rfl) (by kernel_rfl) (fun _ _ _ h => h) (Or.inl ⟨by rfl, ?hyq14⟩) hHeld ?_
      case hyq14 =>
        intro Y hSw
        obtain ⟨s0, s1, s18⟩ := hSw
        go_simp
        try with_reducible rfl
      try simp only [Act.put, List.getElem_toArray, List.getElem_cons_succ, List.getElem_cons_zero, List.setIfInBounds_toArray, List.set_cons_zero, List.set_cons_succ]
      refine wpAnyH_take (i := 15) (oi := _) (v := ?vq15) rfl (by kernel_rfl) (by kernel_rfl) (by kernel_rfl) (fun _ _ _ h => h) (Or.inl ⟨by rfl, ?hyq15⟩) hHeld ?_
      case hyq15 =>
        intro Y hSw
        obtain ⟨s0, s1, s18⟩ := hSw
        go_simp
        try with_reducible rfl
      try simp only [Act.put, List.getElem_toArray, List.getElem_cons_succ, List.getElem_cons_zero, List.setIfInBounds_toArray, List.set_cons_zero, List.set_cons_succ]
      refine wpAnyH_take (i := 16) (oi := _) (v := ?vq16) rfl (by kernel_rfl) (by kernel_rfl) (by kernel_rfl) (fun _ _ _ h => h) (Or.inl ⟨by rfl, ?hyq16⟩) hHeld ?_
      case hyq16 =>
        intro Y hSw
        obtain ⟨s0, s1, s18⟩ := hSw
        go_simp
        try with_reducible rfl
      try simp only [Act.put, List.getElem_toArray, List.getElem_cons_succ, List.getElem_cons_zero, List.setIfInBounds_toArray, List.set_cons_zero, List.set_cons_succ]
      refine wpAnyH_take (i := 17) (oi := _) (v := ?vq17) rfl (by kernel_rfl) (by kernel_rfl) (by kernel_rfl) (fun _ _ _ h => h) (Or.inl ⟨by rfl, ?hyq17⟩) hHeld ?_
      case hyq17 =>
        intro Y hSw
        obtain ⟨s0, s1, s18⟩ := hSw
        go_simp
        try with_reducible rfl
      try simp only [Act.put, List.getElem_toArray, List.getElem_cons_succ, List.getElem_cons_zero, List.setIfInBounds_toArray, List.set_cons_zero, List.set_cons_succ]
      refine wpAnyH_ready (rs := [13, 20]) (by kernel_rfl) (by simp) ?_
      refine AllReadyH.cons (o := _) rfl (fun K hK => ?_) ?_
      · skip
        go_simp
        refine (HCL1.out _ HB0.out).mono ?_
        rintro e w5 ⟨r5, rfl, o5, b5⟩
        have HB5 : Hid (Below W.heap.size W w5) := HB0.out.trans (b5.mono HB0.out.size)
        have HO5 := Lib.hid (odown o5 HB0.out.size)
        obtain ⟨ra5, rc5, hr5, -, -⟩ := oshape o5
        subst hr5
        clear b5 o5
        refine hK.out _ _ (SOF.out _ HB5.out) (fun hHeld => ?_)
        clear hK K
        try simp only [Act.put, List.getElem_toArray, List.getElem_cons_succ, List.getElem_cons_zero, List.setIfInBounds_toArray, List.set_cons_zero, List.set_cons_succ]
        refine wpAnyH_ready (rs := [18, 20]) (by kernel_rfl) (by simp) ?_
        refine AllReadyH.cons (o := _) rfl (fun K hK => ?_) ?_
        · skip
          go_simp
          refine (HCL2.out _ HB5.out).mono ?_
          rintro e w6 ⟨r6, rfl, o6, b6⟩
          have HB6 : Hid (Below W.heap.size W w6) := HB5.out.trans (b6.mono HB5.out.size)
          have HO6 := Lib.hid (odown o6 HB5.out.size)
          have HR6 := Lib.hid (obelow HO5.out b6)
          obtain ⟨ra6, rc6, hr6, -, -⟩ := oshape o6
          subst hr6
          clear b6 o6
          refine hK.out _ _ (SOF.out _ HB6.out) (fun hHeld => ?_)
          clear hK K
          try simp only [Act.put, List.getElem_toArray, List.getElem_cons_succ, List.getElem_cons_zero, List.setIfInBounds_toArray, List.set_cons_zero, List.set_cons_succ]
          refine wpAnyH_take (i := 19) (oi := _) (v := ?vq18) rfl (by kernel_rfl) (by kernel_rfl) (by kernel_rfl) (fun _ _ _ h => h) (Or.inl ⟨by rfl, ?hyq18⟩) hHeld ?_
          case hyq18 =>
            intro Y hSw
            obtain ⟨s0, s1, s18⟩ := hSw
            go_simp
            try with_reducible rfl
          try simp only [Act.put, List.getElem_toArray, List.getElem_cons_succ, List.getElem_cons_zero, List.setIfInBounds_toArray, List.set_cons_zero, List.set_cons_succ]
          refine wpAnyH_ready (rs := [20]) (by kernel_rfl) (by simp) ?_
          refine AllReadyH.cons (o := _) rfl (fun K hK => ?_) ?_
          · skip
            go_simp
            obtain ⟨wZ, hwZ⟩ : ∃ wZ, wZ = w6.alloc (.cells #[Value.int .i64 0, Value.int .i64 0, .slice none 0 0, .slice none 0 0] 89) := ⟨_, rfl⟩
            rw [← hwZ]
            have HBwZ : Hid (Below W.heap.size W wZ) := by rw [hwZ]; exact HB6.out.alloc HB6.out.size _
            have HBSwZ : Hid (Below w6.heap.size w6 wZ) := by rw [hwZ]; exact (Below.refl _ _).alloc (Nat.le_refl _) _
            have hxwZ : wZ.heap[w6.heap.size]? = some (.cells #[Value.int .i64 0, Value.int .i64 0, .slice none 0 0, .slice none 0 0] 89 (0, 0)) := by rw [hwZ]; exact heap_alloc_new _ _
            have HXwZ := Lib.hid hxwZ
            have HGwZ := Lib.hid (show W.heap.size ≤ w6.heap.size from HB6.out.size)
            clear hwZ hxwZ
            refine hK.out _ _ (SOF.out _ HBwZ.out) (fun hHeld => ?_)
            clear hK K
            try simp only [Act.put, List.getElem_toArray, List.getElem_cons_succ, List.getElem_cons_zero, List.setIfInBounds_toArray, List.set_cons_zero, List.set_cons_succ]
            obtain ⟨hxZ, ⟨z0, z1, z2, z3⟩, y0, y1, y2, y3⟩ := cBlk HXwZ.out
            have HXZ := Lib.hid hxZ
            clear hxZ
            refine wpAnyH_ready (rs := [21]) (by kernel_rfl) (by simp) ?_
            refine AllReadyH.cons (o := _) rfl (fun K hK => ?_) ?_
            · go_simp
              refine hK.out _ _ (SOF.out _ (cEnd HXZ.out HBwZ.out HGwZ.out).1) (fun hHeld => ?_)
              clear hK K
              try simp only [Act.put, List.getElem_toArray, List.getElem_cons_succ, List.getElem_cons_zero, List.setIfInBounds_toArray, List.set_cons_zero, List.set_cons_succ]
              refine wpAnyH_done (by kernel_rfl) ?_ _
              exact ⟨ra5, rc5, ra6, rc6, _, rfl, (cEnd HXZ.out HBwZ.out HGwZ.out).2, HGwZ.out, cKeep HXZ.out (obelow HR6.out HBSwZ.out), cKeep HXZ.out (obelow HO6.out HBSwZ.out), (cEnd HXZ.out HBwZ.out HGwZ.out).1⟩
            exact AllReadyH.nil
          exact AllReadyH.nil
        refine AllReadyH.cons (o := _) rfl (fun K hK => ?_) ?_
        · skip
          go_simp
          obtain ⟨wZ, hwZ⟩ : ∃ wZ, wZ = w5.alloc (.cells #[Value.int .i64 0, Value.int .i64 0, .slice none 0 0, .slice none 0 0] 89) := ⟨_, rfl⟩
          rw [← hwZ]
          have HBwZ : Hid (Below W.heap.size W wZ) := by rw [hwZ]; exact HB5.out.alloc HB5.out.size _
          have HBSwZ : Hid (Below w5.heap.size w5 wZ) := by rw [hwZ]; exact (Below.refl _ _).alloc (Nat.le_refl _) _
          have hxwZ : wZ.heap[w5.heap.size]? = some (.cells #[Value.int .i64 0, Value.int .i64 0, .slice none 0 0, .slice none 0 0] 89 (0, 0)) := by rw [hwZ]; exact heap_alloc_new _ _
          have HXwZ := Lib.hid hxwZ
          have HGwZ := Lib.hid (show W.heap.size ≤ w5.heap.size from HB5.out.size)
          clear hwZ hxwZ
          refine hK.out _ _ (SOF.out _ HBwZ.out) (fun hHeld => ?_)
          clear hK K
          try simp only [Act.put, List.getElem_toArray, List.getElem_cons_succ, List.getElem_cons_zero, List.setIfInBounds_toArray, List.set_cons_zero, List.set_cons_succ]
          refine wpAnyH_ready (rs := [18]) (by kernel_rfl) (by simp) ?_
          refine AllReadyH.cons (o := _) rfl (fun K hK => ?_) ?_
          · skip
            go_simp
            refine (HCL2.out _ HBwZ.out).mono ?_
            rintro e w6 ⟨r6, rfl, o6, b6⟩
            have HB6 : Hid (Below W.heap.size W w6) := HBwZ.out.trans (b6.mono HBwZ.out.size)
            have HO6 := Lib.hid (odown o6 HBwZ.out.size)
            have HR6 := Lib.hid (obelow (obelow HO5.out HBSwZ.out) b6)
            have HX6 := Lib.hid ((b6.block _ (Array.getElem?_eq_some_iff.1 HXwZ.out).1).trans HXwZ.out)
            obtain ⟨ra6, rc6, hr6, -, -⟩ := oshape o6
            subst hr6
            clear b6 o6
            refine hK.out _ _ (SOF.out _ HB6.out) (fun hHeld => ?_)
            clear hK K
            try simp only [Act.put, List.getElem_toArray, List.getElem_cons_succ, List.getElem_cons_zero, List.setIfInBounds_toArray, List.set_cons_zero, List.set_cons_succ]
            refine wpAnyH_take (i := 19) (oi := _) (v := ?vq19) rfl (by kernel_rfl) (by kernel_rfl) (by kernel_rfl) (fun _ _ _ h => h) (Or.inl ⟨by rfl, ?hyq19⟩) hHeld ?_
            case hyq19 =>
              intro Y hSw
              obtain ⟨s0, s1, s18⟩ := hSw
              go_simp
              try with_reducible rfl
            try simp only [Act.put, List.getElem_toArray, List.getElem_cons_succ, List.getElem_cons_zero, List.setIfInBounds_toArray, List.set_cons_zero, List.set_cons_succ]
            obtain ⟨hxZ, ⟨z0, z1, z2, z3⟩, y0, y1, y2, y3⟩ := cBlk HX6.out
            have HXZ := Lib.hid hxZ
            clear hxZ
            refine wpAnyH_ready (rs := [21]) (by kernel_rfl) (by simp) ?_
            refine AllReadyH.cons (o := _) rfl (fun K hK => ?_) ?_
            · go_simp
              refine hK.out _ _ (SOF.out _ (cEnd HXZ.out HB6.out HGwZ.out).1) (fun hHeld => ?_)
              clear hK K
              try simp only [Act.put, List.getElem_toArray, List.getElem_cons_succ, List.getElem_cons_zero, List.setIfInBounds_toArray, List.set_cons_zero, List.set_cons_succ]
              refine wpAnyH_done (by kernel_rfl) ?_ _
              exact ⟨ra5, rc5, ra6, rc6, _, rfl, (cEnd HXZ.out HB6.out HGwZ.out).2, HGwZ.out, cKeep HXZ.out HR6.out, cKeep HXZ.out HO6.out, (cEnd HXZ.out HB6.out HGwZ.out).1⟩
            exact AllReadyH.nil
          exact AllReadyH.nil
        exact AllReadyH.nil
      refine AllReadyH.cons (o := _) rfl (fun K hK => ?_) ?_
      · skip
        go_simp
        obtain ⟨wZ, hwZ⟩ : ∃ wZ, wZ = w0.alloc (.cells #[Value.int .i64 0, Value.int .i64 0, .slice none 0 0, .slice none 0 0] 89) := ⟨_, rfl⟩
        rw [← hwZ]
        have HBwZ : Hid (Below W.heap.size W wZ) := by rw [hwZ]; exact HB0.out.alloc HB0.out.size _
        have HBSwZ : Hid (Below w0.heap.size w0 wZ) := by rw [hwZ]; exact (Below.refl _ _).alloc (Nat.le_refl _) _
        have hxwZ : wZ.heap[w0.heap.size]? = some (.cells #[Value.int .i64 0, Value.int .i64 0, .slice none 0 0, .slice none 0 0] 89 (0, 0)) := by rw [hwZ]; exact heap_alloc_new _ _
        have HXwZ := Lib.hid hxwZ
        have HGwZ := Lib.hid (show W.heap.size ≤ w0.heap.size from HB0.out.size)
        clear hwZ hxwZ
        refine hK.out _ _ (SOF.out _ HBwZ.out) (fun hHeld => ?_)
        clear hK K
        try simp only [Act.put, List.getElem_toArray, List.getElem_cons_succ, List.getElem_cons_zero, List.setIfInBounds_toArray, List.set_cons_zero, List.set_cons_succ]
        refine wpAnyH_ready (rs := [13]) (by kernel_rfl) (by simp) ?_
        refine AllReadyH.cons (o := _) rfl (fun K hK => ?_) ?_
        · skip
          go_simp
          refine (HCL1.out _ HBwZ.out).mono ?_
          rintro e w5 ⟨r5, rfl, o5, b5⟩
          have HB5 : Hid (Below W.heap.size W w5) := HBwZ.out.trans (b5.mono HBwZ.out.size)
          have HO5 := Lib.hid (odown o5 HBwZ.out.size)
          have HX5 := Lib.hid ((b5.block _ (Array.getElem?_eq_some_iff.1 HXwZ.out).1).trans HXwZ.out)
          obtain ⟨ra5, rc5, hr5, -, -⟩ := oshape o5
          subst hr5
          clear b5 o5
          refine hK.out _ _ (SOF.out _ HB5.out) (fun hHeld => ?_)
          clear hK K
          try simp only [Act.put, List.getElem_toArray, List.getElem_cons_succ, List.getElem_cons_zero, List.setIfInBounds_toArray, List.set_cons_zero, List.set_cons_succ]
          refine wpAnyH_ready (rs := [18]) (by kernel_rfl) (by simp) ?_
          refine AllReadyH.cons (o := _) rfl (fun K hK => ?_) ?_
          · skip
            go_simp
            refine (HCL2.out _ HB5.out).mono ?_
            rintro e w6 ⟨r6, rfl, o6, b6⟩
            have HB6 : Hid (Below W.heap.size W w6) := HB5.out.trans (b6.mono HB5.out.size)
            have HO6 := Lib.hid (odown o6 HB5.out.size)
            have HR6 := Lib.hid (obelow HO5.out b6)
            have HX6 := Lib.hid ((b6.block _ (Array.getElem?_eq_some_iff.1 HX5.out).1).trans HX5.out)
            obtain ⟨ra6, rc6, hr6, -, -⟩ := oshape o6
            subst hr6
            clear b6 o6
            refine hK.out _ _ (SOF.out _ HB6.out) (fun hHeld => ?_)
            clear hK K
            try simp only [Act.put, List.getElem_toArray, List.getElem_cons_succ, List.getElem_cons_zero, List.setIfInBounds_toArray, List.set_cons_zero, List.set_cons_succ]
            refine wpAnyH_take (i := 19) (oi := _) (v := ?vq20) rfl (by kernel_rfl) (by kernel_rfl) (by kernel_rfl) (fun _ _ _ h => h) (Or.inl ⟨by rfl, ?hyq20⟩) hHeld ?_
            case hyq20 =>
              intro Y hSw
              obtain ⟨s0, s1, s18⟩ := hSw
              go_simp
              try with_reducible rfl
            try simp only [Act.put, List.getElem_toArray, List.getElem_cons_succ, List.getElem_cons_zero, List.setIfInBounds_toArray, List.set_cons_zero, List.set_cons_succ]
            obtain ⟨hxZ, ⟨z0, z1, z2, z3⟩, y0, y1, y2, y3⟩ := cBlk HX6.out
            have HXZ := Lib.hid hxZ
            clear hxZ
            refine wpAnyH_ready (rs := [21]) (by kernel_rfl) (by simp) ?_
            refine AllReadyH.cons (o := _) rfl (fun K hK => ?_) ?_
            · go_simp
              refine hK.out _ _ (SOF.out _ (cEnd HXZ.out HB6.out HGwZ.out).1) (fun hHeld => ?_)
              clear hK K
              try simp only [Act.put, List.getElem_toArray, List.getElem_cons_succ, List.getElem_cons_zero, List.setIfInBounds_toArray, List.set_cons_zero, List.set_cons_succ]
              refine wpAnyH_done (by kernel_rfl) ?_ _
              exact ⟨ra5, rc5, ra6, rc6, _, rfl, (cEnd HXZ.out HB6.out HGwZ.out).2, HGwZ.out, cKeep HXZ.out HR6.out, cKeep HXZ.out HO6.out, (cEnd HXZ.out HB6.out HGwZ.out).1⟩
            exact AllReadyH.nil
          exact AllReadyH.nil
        exact AllReadyH.nil
      exact AllReadyH.nil
      -- REGION END
    · rintro e a' w' h
      cases e with
      | normal =>
        obtain ⟨ra5, rc5, ra6, rc6, Cb, rfl, hx, hg, o5, o6, hb⟩ := h
        have HX := Lib.hid hx
        have HO5 := Lib.hid o5
        have HO6 := Lib.hid o6
        have HB := Lib.hid hb
        clear hx o5 o6 hb
        have hlast : Hid (callOf s x.1 cl[x.1].1 = ⟨f.fn, if i + 1 = cl.length then s.at_ else wrap64 (f.next - 1), f.regs, f.slots⟩) := Lib.hid (by
          obtain ⟨e1, e2, -, -⟩ := HID.out
          have hol : s.opn.length = cl.length := by rw [H.out.opn]; simp
          have e3 : cl[x.1].1 = f := by have : cl[x.1] = (f, cv) := by rw [e2]; congr 1; exact e1.symm
                                        rw [this]
          rw [e3, callOf, hol, e1])
        obtain ⟨hO, hrow, hcr, hG, hS, hB⟩ := HCI.out
        have hOl := hO.lt
        have kG : w'.cell? ⟨w.heap.size, 0, none⟩ = some (.pointer (some ⟨M, 0, none⟩)) := (HB.out.cell (p := ⟨w.heap.size, 0, none⟩) hGl).trans hG.cell
        have hMW : M < W.heap.size := Nat.lt_of_lt_of_le HC5.out.2.2 hB.size
        have k5 : w'.cell? ⟨M, 5, none⟩ = some (.slice oa cl.length oc) := (HB.out.cell (p := ⟨M, 5, none⟩) hMW).trans ((hB.cell (p := ⟨M, 5, none⟩) HC5.out.2.2).trans HC5.out.1)
        have k14 : w'.cell? ⟨M, 14, none⟩ = some (.int .i64 s.at_) := (HB.out.cell (p := ⟨M, 14, none⟩) hMW).trans ((hB.cell (p := ⟨M, 14, none⟩) HC5.out.2.2).trans ((H.out.cellM 14).trans (mC_get _ _).2.2.2.2.2.2.2.2.2.2.2.1))
        have kO : w'.cell? ⟨w.heap.size + 1, 0, none⟩ = some v := (HB.out.cell (p := ⟨w.heap.size + 1, 0, none⟩) hOl).trans hO.cell
        obtain ⟨hxZ, ⟨z0, z1, z2, z3⟩, y0, y1, y2, y3⟩ := cBlk HX.out
        have hCO : Cb ≠ w.heap.size + 1 := by omega
        have hcl1 : IntKind.i64.wrap ((cl.length : Int) - 1) = (cl.length : Int) - 1 := by rw [IntKind.wrap_i64]; omega
        obtain ⟨ic, ii, ip0, ip1, ip2⟩ := parts' info_call'
        have e1 : pre.length + 1 ≤ maxLen := by have := HLT.out; unfold maxLen; omega
        have e2 : (pre.length + 1) * 64 ≤ 140737488355328 := by have := HLT.out; omega
        by_cases hla : i + 1 = cl.length
        · have hb1 : ((i : Int) == (cl.length : Int) - 1) = true := by simpa using (show (i : Int) = (cl.length : Int) - 1 by omega)
          rw [if_pos hla] at hlast
          have hbN : Below W.heap.size W (w'.setCell ⟨Cb, 1, none⟩ (.int .i64 s.at_)) := HB.out.setCell hg _
          obtain ⟨wN, hwN⟩ : ∃ wN, wN = w'.setCell ⟨Cb, 1, none⟩ (.int .i64 s.at_) := ⟨_, rfl⟩
          rw [← hwN] at hbN
          have hrN : wN.ownsRow w.heap.size 89 4 v pre.length xs := osame hrow fun k hk => hbN.block k (olt hrow k hk)
          have hoN : Boxed wN (w.heap.size + 1) 47 v := (hbN.block _ hOl).trans hO
          have h5N : wN.ownsRow W.heap.size 2 1 (.slice ra5 16 rc5) f.regs.length (intsV f.regs) := by
            rw [HRL.out, hwN]
            exact cOne HX.out HO5.out
          have h6N : wN.ownsRow W.heap.size 2 1 (.slice ra6 sn rc6) f.slots.length (intsV f.slots) := by
            rw [← HID.out.2.2.1, hwN]
            exact cOne HX.out HO6.out
          have hsz : w'.heap.size = wN.heap.size := by rw [hwN]; simp
          have HRN := Lib.hid hrN
          have HON := Lib.hid hoN
          have H5N := Lib.hid h5N
          have H6N := Lib.hid h6N
          have HBN := Lib.hid hbN
          have HSZ := Lib.hid hsz
          have HWN := Lib.hid hwN
          have HCI2 := Lib.hid (And.intro hO (And.intro hrow (And.intro hcr (And.intro hG (And.intro hS hB)))))
          have hszN : w.heap.size ≤ wN.heap.size := by have := hbN.size; omega
          have HSN := Lib.hid hszN
          have hNM : wN.heap.size = w'.heap.size := hsz.symm
          clear hrN hoN h5N h6N hbN hsz hO hrow hcr hG hS hB hxZ hszN hNM hwN
          gi_wp2_with (gi_at_builtin; refine wpListIn_append_own _ rfl _ _ 47 rfl w.heap.size 89 ic (.agg #[.int .i64 0, .int .i64 0, .slice none 0 0, .slice none 0 0]) 4 64 Try.underlying47 ii ip0 ip1 ip2 rfl (by decide) _ pre.length xs rfl (by rw [← HWN.out]; exact HRN.out.alloc _) ⟨w'.heap.size, 0, none⟩ 1 1 [.int .i64 f.fn, .int .i64 s.at_, .slice ra5 16 rc5, .slice ra6 sn rc6] rfl rfl (by rw [← HWN.out]; exact cFour _ _ _ _ _ _ _ HSZ.out) (by simp [Value.oneCell']) e1 e2 (by rw [← HWN.out, World.size_alloc]; have := HSN.out; omega) ?_; rw [← HWN.out]; intro v9 w9 hown9 hgrow9 _; have HO9 := Lib.hid hown9; have HG9 := Lib.hid hgrow9; have hv9 := cBox HON.out HRN.out hgrow9; obtain ⟨g9, cap9, rfl⟩ := ownsRow_succ hown9; have hc9 := hv9.cell; have hf9 := hv9.frozen; clear hown9 hgrow9 hv9)
          obtain ⟨hO, hrow, hcr, hG, hS, hB⟩ := HCI2.out
          exact cStep hO hrow hcr hG hS hB HBN.out HO9.out HG9.out H5N.out H6N.out hlast.out
        · have hb1 : ((i : Int) == (cl.length : Int) - 1) = false := by simpa using (show ¬ (i : Int) = (cl.length : Int) - 1 by omega)
          rw [if_neg hla] at hlast
          have hbN : Below W.heap.size W w' := HB.out
          have hrN : w'.ownsRow w.heap.size 89 4 v pre.length xs := osame hrow fun k hk => hbN.block k (olt hrow k hk)
          have hoN : Boxed w' (w.heap.size + 1) 47 v := (hbN.block _ hOl).trans hO
          have h5N : w'.ownsRow W.heap.size 2 1 (.slice ra5 16 rc5) f.regs.length (intsV f.regs) := by
            rw [HRL.out]
            exact HO5.out
          have h6N : w'.ownsRow W.heap.size 2 1 (.slice ra6 sn rc6) f.slots.length (intsV f.slots) := by
            rw [← HID.out.2.2.1]
            exact HO6.out
          have hsz : w'.heap.size = w'.heap.size := rfl
          have HRN := Lib.hid hrN
          have HON := Lib.hid hoN
          have H5N := Lib.hid h5N
          have H6N := Lib.hid h6N
          have HBN := Lib.hid hbN
          have HSZ := Lib.hid hsz
          have HCI2 := Lib.hid (And.intro hO (And.intro hrow (And.intro hcr (And.intro hG (And.intro hS hB)))))
          have hszN : w.heap.size ≤ w'.heap.size := by have := hbN.size; omega
          have HSN := Lib.hid hszN
          have hNM : w'.heap.size = w'.heap.size := hsz.symm
          clear hrN hoN h5N h6N hbN hsz hO hrow hcr hG hS hB hxZ hszN hNM
          gi_wp2_with (gi_at_builtin; refine wpListIn_append_own _ rfl _ _ 47 rfl w.heap.size 89 ic (.agg #[.int .i64 0, .int .i64 0, .slice none 0 0, .slice none 0 0]) 4 64 Try.underlying47 ii ip0 ip1 ip2 rfl (by decide) _ pre.length xs rfl (by exact HRN.out.alloc _) ⟨w'.heap.size, 0, none⟩ 1 1 [.int .i64 f.fn, .int .i64 (wrap64 (f.next - 1)), .slice ra5 16 rc5, .slice ra6 sn rc6] rfl rfl (by exact cFour _ _ _ _ _ _ _ HSZ.out) (by simp [Value.oneCell']) e1 e2 (by rw [World.size_alloc]; have := HSN.out; omega) ?_; intro v9 w9 hown9 hgrow9 _; have HO9 := Lib.hid hown9; have HG9 := Lib.hid hgrow9; have hv9 := cBox HON.out HRN.out hgrow9; obtain ⟨g9, cap9, rfl⟩ := ownsRow_succ hown9; have hc9 := hv9.cell; have hf9 := hv9.frozen; clear hown9 hgrow9 hv9)
          obtain ⟨hO, hrow, hcr, hG, hS, hB⟩ := HCI2.out
          exact cStep hO hrow hcr hG hS hB HBN.out HO9.out HG9.out H5N.out H6N.out hlast.out
      | _ => exact (h : False).elim
  case done =>
    rintro D ys W hD rfl ⟨⟨v, xs, hO, hrow, hcr⟩, hG, hS, hB⟩ hK
    have hc := hO.cell
    gi_wp2
    refine ⟨by simp, .inl ⟨_, _, rfl, run_takeDeferred hK, ?_⟩⟩
    have hr2 := ownsRow_putObj hrow (.deferred none) hK rfl
    rw [downs_len (Nat.le_refl _)] at hr2
    refine ⟨_, results_tmp rfl _ _ _, v, xs, rfl, hr2, hcr.keep fun k cur hk => World.putObj_heap_other (fun e => ?_), hB.trans (belowK_b (w := w) (Nat.le_refl _) W D _ _ (by omega) hK rfl rfl)⟩
    rw [← e, hk] at hK
    cases hK
  case stop =>
    rintro D c pre W _ _ h _
    exact h.elim
end Go.Proofs.Yteeapfgjjankeaa.Mach
