/- Locs: the document's writer: numbers one behind the other. -/
import Derived.Test.YtnanlkoldloolaaDoorNa
import Derived.Test.YtnanlkoldloolaaDoorEi
import Derived.Test.YtnanlkoldloolaaDoorC
namespace Go.Proofs.YtnanlkoldloolaaDoor
open Go.RowKit

/-- An object that is no row of bytes. -/
def notY (o : Obj) : Prop := ∀ c f, o ≠ .cells c 5 f
theorem notY_cells {c : Array Value} {t : TypeId} {f : Nat × Nat} (h : t ≠ 5) : notY (.cells c t f) := fun c' f' e => by cases e; exact h rfl

/-- One who writes turns: his own object, and the bytes behind it. -/
structure TW (base wb : Nat) (w w' : World) (o : Obj) (pv : Value) (L : List Int) : Prop where
  at_ : w'.heap[wb]? = some o
  own : ownY w' base pv L
  bel : Below base w w'
  grew : w.heap.size ≤ w'.heap.size
  oth : ∀ j ob, w.heap[j]? = some ob → notY ob → j ≠ wb → w'.heap[j]? = some ob
theorem TW.refl {base wb : Nat} {w : World} {o : Obj} {pv : Value} {L : List Int} (h1 : w.heap[wb]? = some o) (h2 : ownY w base pv L) : TW base wb w w o pv L :=
  ⟨h1, h2, Below.refl _ _, Nat.le_refl _, fun _ _ h _ _ => h⟩
theorem TW.trans {base wb : Nat} {w w1 w2 : World} {o o' : Obj} {pv pv' : Value} {L L' : List Int} (h : TW base wb w w1 o pv L) (k : TW base wb w1 w2 o' pv' L') : TW base wb w w2 o' pv' L' :=
  ⟨k.at_, k.own, h.bel.trans k.bel, Nat.le_trans h.grew k.grew, fun j ob hj hn hne => k.oth j ob (h.oth j ob hj hn hne) hn hne⟩
/-- New memory behind a turn. -/
theorem TW.later {base wb : Nat} {w w1 w2 : World} {o : Obj} {pv : Value} {L : List Int} (h : TW base wb w w1 o pv L) (hb : Below w1.heap.size w1 w2) (hbase : base ≤ w1.heap.size) : TW base wb w w2 o pv L :=
  ⟨(hb.block wb (heap_lt h.at_)).trans h.at_, ownG_later h.own hb, h.bel.trans (hb.mono hbase), Nat.le_trans h.grew hb.size, fun j ob hj hn hne => by
    have := h.oth j ob hj hn hne
    exact (hb.block j (heap_lt this)).trans this⟩

/-- The bytes grow. -/
theorem TW.append {base wb : Nat} {w w1 w2 : World} {o : Obj} {pv v2 : Value} {L q : List Int} {n : Nat} (h : TW base wb w w1 o pv L) (ho : notY o) (hb : base ≤ w1.heap.size) (hown : ownG w2 base 5 1 v2 n (L.map (Value.int .u8) ++ q.map (Value.int .u8))) (hn : n = L.length + q.length) (hg : w1.grownBy w2 pv.ownBlock) : TW base wb w w2 o v2 (L ++ q) := by
  have hap : ∀ j ob, w1.heap[j]? = some ob → notY ob → w2.heap[j]? = some ob := fun j ob hj hnj => by
    rw [hg.block j (heap_lt hj) (fun e => ?_)]; exact hj
    obtain ⟨_, cur, f, hc⟩ := ownG_blk h.own j e.symm
    rw [hj] at hc
    exact hnj _ _ (Option.some.inj hc)
  refine ⟨hap _ _ h.at_ ho, ownY_grow hown hn, h.bel.grown hg hb (fun k hk => (ownG_blk h.own k hk).1), Nat.le_trans h.grew hg.size, fun j ob hj hnj hne => hap _ _ (h.oth j ob hj hnj hne) hnj⟩
/-- His own object is written. -/
theorem TW.put {base wb : Nat} {w w1 : World} {c : Array Value} {t : TypeId} {f : Nat × Nat} {pv : Value} {L : List Int} (h : TW base wb w w1 (.cells c t f) pv L) (ht : t ≠ 5) (hb : base ≤ wb) (i : Nat) (u : Value) : TW base wb w (w1.setCell ⟨wb, i, none⟩ u) (.cells (c.setIfInBounds i u) t f) pv L := by
  refine ⟨?_, ownG_same h.own (fun k hk => Below.heap_setCell _ _ _ _ ?_), h.bel.setCell hb _, by rw [World.size_setCell]; exact h.grew, fun j ob hj hnj hne => (Below.heap_setCell _ _ _ _ hne).trans (h.oth j ob hj hnj hne)⟩
  · simp [World.setCell, Array.getElem?_modify, h.at_]
  · intro e
    simp only at e
    subst e
    exact ownG_apart h.own h.at_ (Ne.symm ht) hk

abbrev WO (pv : Value) : Obj := .cells #[pv] 103
theorem wo_cells {w : World} {b : Nat} {pv : Value} (h : w.heap[b]? = some (WO pv)) : w.cell? ⟨b, 0, none⟩ = some pv ∧ w.frozen? ⟨b, 0, none⟩ = false := by
  simp [World.cell?, World.frozen?, h]

/-- Numbers as they are written. -/
def numsW (l : List Int) : List Int := l.flatMap fun x => numW x.toNat
theorem numsW_snoc (l : List Int) (x : Int) : numsW (l ++ [x]) = numsW l ++ numW x.toNat := by simp [numsW]
theorem numW_len (n : Nat) (h : n < 18446744073709551616) : (numW n).length ≤ 9 := by
  unfold numW
  split
  · simp
  · have := beB_len 8 n (by omega); simp; omega
theorem numsW_len : ∀ (l : List Int), (∀ x ∈ l, x < 18446744073709551616) → (numsW l).length ≤ 9 * l.length
  | [], _ => by simp [numsW]
  | x :: r, h => by
    have ih := numsW_len r (fun y hy => h y (by simp [hy]))
    have := numW_len x.toNat (by have := h x (by simp); omega)
    simp only [numsW, List.flatMap_cons, List.length_append, List.length_cons] at *
    omega

set_option maxRecDepth 100000 in
set_option maxHeartbeats 4000000 in
theorem writer_n (base wb : Nat) (pv : Value) (L : List Int) (v : Value) (l : List Int) (w : World) (hbw : base ≤ wb) (hat : w.heap[wb]? = some (WO pv)) (hown : ownY w base pv L) (hv : RdI w v l) (hl : ∀ x ∈ l, 0 ≤ x ∧ x ≤ 9223372036854775807) (hbd : L.length + 9 * l.length ≤ 140737488355328)
   (hvn : ∀ k, v.ownBlock = some k → k ≠ wb ∧ ∃ ob, w.heap[k]? = some ob ∧ notY ob) :
   Calls Tryd.prog 36 #[.pointer (some ⟨wb, 0, none⟩), v] w fun e w' => e = .returned (.tuple #[]) ∧ ∃ pv', TW base wb w w' (WO pv') pv' (L ++ numsW l) := by
  obtain ⟨i0, hi, hz0, hz1, hz2⟩ := infoY_parts infoY
  have HI : Hid _ := And.intro hi (And.intro hz0 (And.intro hz1 hz2))
  clear hi hz0 hz1 hz2
  have T0 := Lib.hid (TW.refl hat hown)
  rcases hv.split with ⟨a, c, rfl, rfl⟩ | ⟨b, off, c, rfl, hp, hlc, hc9, hb, hcell⟩
  · clear hv hown hat hvn hl
    go_enter Tryd.func36, Tryd.ntmps36
    go_wp2_with fail
    refine wp_loop_rounds 1 ?_
    rw [rounds_succ]
    go_wp2_with fail
    go_end0
    exact ⟨rfl, pv, by simpa [numsW] using T0.out⟩
  · obtain ⟨hbne, ob, hbo, hbn⟩ := hvn b rfl
    have HC := Lib.hid hcell
    have HL := Lib.hid hl
    have HBO := Lib.hid hbo
    have hwb := heap_lt hat
    clear hv hown hat hvn hcell hl hbo
    go_enter Tryd.func36, Tryd.ntmps36
    go_wp2_with fail
    go_loopw [8] (fun i wr => ∃ (j : Nat) (pv' : Value), j ≤ l.length ∧ i = .int .i64 j ∧ TW base wb w wr (WO pv') pv' (L ++ numsW (l.take j))) (fun i _ => l.length - (intOf i).toNat)
    case atStart => exact ⟨0, pv, by omega, rfl, by simpa [numsW] using T0.out⟩
    case round =>
      obtain ⟨j, pv', hj, rfl, ht⟩ := hrel
      have HT := Lib.hid ht
      have hbr := ht.oth b ob HBO.out hbn hbne
      have hcb : ∀ o, wr.cell? ⟨b, o, none⟩ = w.cell? ⟨b, o, none⟩ := fun o => World.cell?_of_block (hbr.trans HBO.out.symm)
      obtain ⟨k0, z0⟩ := wo_cells ht.at_
      by_cases hlt : j < l.length
      · have d0 := HC.out j hlt
        rw [← hcb] at d0
        have hx := HL.out _ (List.getElem_mem hlt)
        clear hcb hbr ht
        obtain ⟨x, hxe⟩ : ∃ x : Nat, l[j] = x := ⟨l[j].toNat, by omega⟩
        rw [hxe] at d0 hx
        have HX := Lib.hid hxe
        clear hxe
        have hwx : IntKind.u64.wrap (x : Int) = x := by rw [IntKind.wrap_u64]; omega
        have HNU := Lib.hid (fun W => number_ref x W (by omega))
        have hln := numW_len x (by omega)
        have hlL : (L ++ numsW (l.take j)).length + 9 ≤ 140737488355328 := by
          have h1 := numsW_len (l.take j) (fun y hy => by have := HL.out y (List.mem_of_mem_take hy); omega)
          rw [List.length_take] at h1
          rw [List.length_append]; omega
        obtain ⟨M, hM⟩ : ∃ M, L ++ numsW (l.take j) = M := ⟨_, rfl⟩
        have HM : Hid (L ++ numsW (l.take (j + 1)) = M ++ numW x) := by
          show _ = _
          rw [List.take_succ_eq_append_getElem hlt, numsW_snoc, ← List.append_assoc, hM, HX.out]; rfl
        rw [hM] at hlL HT
        clear hM
        have hbr2 : base ≤ wr.heap.size := by have := HT.out.grew; omega
        obtain ⟨pa, pc, rfl⟩ := (HT.out.own.rd).shape
        have b1 : M.length + (numW x).length ≤ maxLen := by unfold maxLen; omega
        have b2 : (M.length + (numW x).length) * 1 ≤ 140737488355328 := by omega
        have mixed : Tryd.prog.follows Departure.mixedOrders = true := by kernel_rfl
        go_wp2_with fail
        go_region_law (first
          | (go_simp; go_at_call 46; refine (HNU.out _).mono ?_; rintro e w3 ⟨v3, rfl, hown3, hb3⟩; have HT3 := Lib.hid (HT.out.later ((Below.refl _ _).drew.trans hb3) hbr2); have HR3 := Lib.hid hown3.rd; have BB := Lib.hid (Nat.le_trans hbr2 hb3.size); have k3 := (wo_cells HT3.out.at_).1)
          | (refine step_append_ownG_rd rfl _ _ 24 rfl base 5 i0 (.int .u8 0) 1 1 Tryd.underlying24 HI.out.1 HI.out.2.1 HI.out.2.2.1 HI.out.2.2.2 rfl (by decide) _ M.length (M.map (Value.int .u8)) rfl HT3.out.own _ (numW x).length ((numW x).map (Value.int .u8)) rfl HR3.out (ints_oneCell .u8 _) b1 b2 BB.out ?_; intro v2 w2 hown2 hgrow2; have HT4 := Lib.hid (HT3.out.append (notY_cells (by decide)) BB.out hown2 rfl hgrow2); have k4 := (wo_cells HT4.out.at_).1; have z4 := (wo_cells HT4.out.at_).2; obtain ⟨va, vc, rfl⟩ := (ownG_rd hown2).shape))
        all_goals go_wp2_with fail
        all_goals exact ⟨⟨j + 1, _, by omega, by go_num, by rw [HM.out]; exact HT4.out.put (by decide) hbw 0 _⟩, by simp [intOf]; omega⟩
      · obtain rfl : j = l.length := by omega
        clear hcb hbr ht
        go_wp2_with fail
        go_end0
        exact ⟨rfl, pv', by have := HT.out; rwa [List.take_length] at this⟩
/-- Of numbers that are laid for the call. -/
theorem writer_lit (base wb : Nat) (W : World) (pv : Value) (L : List Int) (hat : W.heap[wb]? = some (WO pv)) (hown : ownY W base pv L) (hbw : base ≤ wb) (hbw2 : base ≤ W.heap.size) (xs : List Int) (hl : ∀ x ∈ xs, 0 ≤ x ∧ x ≤ 9223372036854775807) (h1 : xs.length ≤ 1000) (hbd : L.length + 9 * xs.length ≤ 140737488355328) :
   Calls Tryd.prog 36 #[.pointer (some ⟨wb, 0, none⟩), .slice (some ⟨W.heap.size, 0, none⟩) xs.length xs.length] (W.alloc (.cells (xs.map (Value.int .i64)).toArray 3)) fun e w' => e = .returned (.tuple #[]) ∧ ∃ pv', TW base wb W w' (WO pv') pv' (L ++ numsW xs) := by
  have h := TW.refl hat hown
  have hb : Below W.heap.size W (W.alloc (.cells (xs.map (Value.int .i64)).toArray 3)) := (Below.refl _ _).alloc (Nat.le_refl _) _
  have h2 := h.later hb hbw2
  have hlt := heap_lt h.at_
  have hnew := heap_new W (.cells (xs.map (Value.int .i64)).toArray 3) rfl
  refine (writer_n base wb pv L _ xs _ hbw h2.at_ h2.own (Rd.mk (by simp) (Nat.le_refl _) (by unfold maxLen; omega) (fun j hj => ?_)) hl hbd (fun k hk => ?_)).mono ?_
  · simp only [World.cell?, hnew]
    simp
  · simp [Value.ownBlock] at hk
    subst hk
    exact ⟨by omega, _, hnew, notY_cells (by decide)⟩
  · rintro e w' ⟨rfl, pv', ht⟩
    exact ⟨rfl, pv', h2.trans ht⟩

end Go.Proofs.YtnanlkoldloolaaDoor
