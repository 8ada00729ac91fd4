/- Locs: a number's bytes, as the document has them. -/
import Derived.Test.YtnanlkoldloolaaDoorQ1
import Derived.Test.YtnanlkoldloolaaDoorQ0
import Derived.Below
import Derived.KernelRfl
import Derived.Test.YtnanlkoldloolaaDoorQ5
import Derived.Lib.SlBytesConst
namespace Go.Proofs.YtnanlkoldloolaaDoor
open Go.RowKit

theorem infoY : (Tryd.prog.info? 5).map (fun i => (i.zero, i.size, i.bytes)) = some (some (.int .u8 0), 1, 1) := by kernel_rfl
theorem infoY_parts {i : Option TypeInfo} {z : Value} {s b : Nat} (h : i.map (fun i => (i.zero, i.size, i.bytes)) = some (some z, s, b)) : ∃ x, i = some x ∧ x.zero = some z ∧ x.size = s ∧ x.bytes = b := by
  cases i with
  | none => simp at h
  | some x => simp at h; exact ⟨x, rfl, h.1, h.2.1, h.2.2⟩
def ownY (w : World) (base : Nat) (v : Value) (l : List Int) : Prop := ownG w base 5 1 v l.length (l.map (Value.int .u8))
theorem ownY_grow {w : World} {base : Nat} {v : Value} {l : List Int} {n : Nat} {x : List Int} (h : ownG w base 5 1 v n (l.map (Value.int .u8) ++ x.map (Value.int .u8))) (hn : n = l.length + x.length) : ownY w base v (l ++ x) := by
  subst hn; simpa [ownY] using h
theorem ownY_lit0 (w : World) (base : Nat) (l : List Int) (hb : base ≤ w.heap.size) (hl : l.length ≤ 1000) :
    (w.alloc (.cells (l.map (Value.int .u8)).toArray 5)).ownsRow base 5 1 (.slice (some ⟨w.heap.size, 0, none⟩) l.length l.length) l.length (l.map (Value.int .u8)) := by
  have := World.ownsRow_lit (e := 5) (size := 1) w (l.map (Value.int .u8)).toArray l.length hb (by unfold maxLen; omega) (by simp)
  simpa using this
theorem ownY_lit (w : World) (base : Nat) (l : List Int) (hb : base ≤ w.heap.size) (hl : l.length ≤ 1000) :
    ownY (w.alloc (.cells (l.map (Value.int .u8)).toArray 5)) base (.slice (some ⟨w.heap.size, 0, none⟩) l.length l.length) l := .inl (ownY_lit0 w base l hb hl)
/-- A constant's bytes. -/
theorem ownY_const (w : World) (base : Nat) (l : List Int) (f : Nat × Nat) (hb : base ≤ w.heap.size) (hl : l.length ≤ 1000) {g : Nat} (hg : g = w.heap.size) :
    ownY (w.alloc (.cells (l.map (Value.int .u8)).toArray 5 f)) base (.slice (some ⟨g, 0, none⟩) l.length l.length) l := by
  subst hg
  exact .inr ⟨by simp, w.heap.size, _, f, rfl, hb, heap_new w _ rfl, by unfold maxLen; omega, by simp⟩
theorem ownY.rd {w : World} {base : Nat} {v : Value} {l : List Int} (h : ownY w base v l) : RdB w v l := ownG_rd h

/-- A number's bytes, the greatest first, none at 0. -/
def beB (n : Nat) : List Int := if n = 0 then [] else beB (n / 256) ++ [((n % 256 : Nat) : Int)]
theorem beB_zero : beB 0 = [] := by unfold beB; simp
theorem beB_pos {n : Nat} (h : 0 < n) : beB n = beB (n / 256) ++ [((n % 256 : Nat) : Int)] := by
  conv => lhs; unfold beB
  rw [if_neg (by omega)]
theorem beB_isB : ∀ n, isB (beB n) := by
  intro n
  induction n using Nat.strongRecOn with
  | _ n ih =>
    by_cases h : n = 0
    · subst h; rw [beB_zero]; exact fun x hx => by cases hx
    · rw [beB_pos (by omega)]
      intro x hx
      rcases List.mem_append.1 hx with h1 | h1
      · exact ih _ (by omega) x h1
      · simp at h1; omega
theorem beB_len : ∀ (k n : Nat), n < 256 ^ k → (beB n).length ≤ k
  | 0, n, h => by simp at h; subst h; rw [beB_zero]; simp
  | k + 1, n, h => by
    by_cases h0 : n = 0
    · subst h0; rw [beB_zero]; simp
    · rw [beB_pos (by omega), List.length_append]
      have := beB_len k (n / 256) (by rw [Nat.pow_succ] at h; omega)
      simp; omega
theorem beB_val : ∀ n, beL (beB n) = n := by
  intro n
  induction n using Nat.strongRecOn with
  | _ n ih =>
    by_cases h : n = 0
    · subst h; rw [beB_zero]; rfl
    · rw [beB_pos (by omega), beL_snoc, ih _ (by omega)]; omega
/-- A number as it is written. -/
def numW (n : Nat) : List Int := if n ≤ 247 then [(n : Int)] else (247 + (beB n).length : Int) :: beB n

set_option maxHeartbeats 4000000 in
theorem number_ref (n : Nat) (w : World) (hn : n < 18446744073709551616) :
   Calls Tryd.prog 46 #[.int .u64 n] w fun e w' => ∃ v, e = .returned v ∧ ownY w' w.heap.size v (numW n) ∧ Below w.heap.size w w' := by
  obtain ⟨i0, hi, hz0, hz1, hz2⟩ := infoY_parts infoY
  have HI : Hid _ := And.intro hi (And.intro hz0 (And.intro hz1 hz2))
  clear hi hz0 hz1 hz2
  by_cases hs : n ≤ 247
  · have HN : Hid (numW n = [(n : Int)]) := by show _ = _; unfold numW; rw [if_pos hs]
    go_enter Tryd.func46, Tryd.ntmps46
    go_wp2_with fail
    go_ret
    refine ⟨_, rfl, ?_, (Below.refl _ _).alloc (Nat.le_refl _) _⟩
    rw [HN.out]
    exact ownY_lit w w.heap.size [(n : Int)] (Nat.le_refl _) (by simp)
  · have HN : Hid (numW n = (247 + (beB n).length : Int) :: beB n) := by show _ = _; unfold numW; rw [if_neg hs]
    have hlen : (beB n).length ≤ 8 := beB_len 8 n (by omega)
    have HLN := Lib.hid hlen
    clear hlen
    go_enter Tryd.func46, Tryd.ntmps46
    go_wp2_with fail
    go_loopw [0, 3] (fun a v wr => ∃ (m : Nat) (q : List Int), a = .int .u64 m ∧ m ≤ n ∧ beB n = beB m ++ q ∧ ownY wr w.heap.size v q ∧ Below w.heap.size w wr) (fun a _ _ => (intOf a).toNat)
    case atStart => exact ⟨n, [], rfl, Nat.le_refl _, by simp, (.inl ⟨rfl, .inl ⟨rfl, rfl⟩⟩), Below.refl _ _⟩
    case round =>
      obtain ⟨m, q, rfl, hmn, hq, hown, hbel⟩ := hrel
      have hw : w.heap.size ≤ wr.heap.size := hbel.size
      have HB := Lib.hid hbel
      have HO := Lib.hid hown
      have HQ := Lib.hid hq
      have hql : q.length ≤ 8 := by have := HLN.out; rw [hq, List.length_append] at this; omega
      clear hbel hown hq
      by_cases hm : m = 0
      · subst hm
        obtain ⟨a, c, rfl⟩ := Rd.shape HO.out.rd
        have e1 : (256 : Int) ≠ 0 := by omega
        go_wp2_with (at_builtin; refine wpList_append_own_g _ rfl _ _ 24 rfl w.heap.size 5 i0 (.int .u8 0) 1 1 Tryd.underlying24 HI.out.1 HI.out.2.1 HI.out.2.2.1 HI.out.2.2.2 rfl (by decide) _ _ _ rfl (ownY_lit0 wr w.heap.size [247 + (q.length : Int)] hw (by simp)) _ _ _ rfl (HO.out.rd.alloc _) (ints_oneCell .u8 _) (1 + q.length) rfl (by omega) (by unfold maxLen; omega) (by omega) (by simp; omega) ?_; intro g cap w1 hown1 hgrow1)
        go_ret
        have e2 : ((1 + q.length : Nat)) = ((247 + (q.length : Int)) :: q).length := by simp; omega
        refine ⟨_, rfl, ?_, (HB.out.alloc hw _).grown hgrow1 (by simp; omega) (fun k hk => by cases hk; exact hw)⟩
        rw [HN.out, HQ.out, beB_zero, List.nil_append]
        refine .inl ?_
        rw [← e2]
        exact hown1
      · go_wp2_with (at_builtin; refine wpList_append_own_g _ rfl _ _ 24 rfl w.heap.size 5 i0 (.int .u8 0) 1 1 Tryd.underlying24 HI.out.1 HI.out.2.1 HI.out.2.2.1 HI.out.2.2.2 rfl (by decide) _ _ _ rfl (ownY_lit0 wr w.heap.size [((m % 256 : Nat) : Int)] hw (by simp)) _ _ _ rfl (HO.out.rd.alloc _) (ints_oneCell .u8 _) (1 + q.length) rfl (by omega) (by unfold maxLen; omega) (by omega) (by simp; omega) ?_; intro g cap w1 hown1 hgrow1)
        refine ⟨⟨m / 256, ((m % 256 : Nat) : Int) :: q, by congr 1, by omega, ?_, ?_, (HB.out.alloc hw _).grown hgrow1 (by simp; omega) (fun k hk => by cases hk; exact hw)⟩, by simp only [intOf]; omega⟩
        · rw [HQ.out, beB_pos (by omega : 0 < m), List.append_assoc]; rfl
        · have e2 : ((1 + q.length : Nat)) = (((m % 256 : Nat) : Int) :: q).length := by simp; omega
          refine .inl ?_
          rw [← e2]
          exact hown1
end Go.Proofs.YtnanlkoldloolaaDoor

/- Locs: the document's writer: numbers one behind the other. -/
namespace Go.Proofs.YtnanlkoldloolaaDoor
open Go.RowKit

/-- An object that is no row of bytes. -/
def notY (o : Obj) : Prop := ∀ c f, o ≠ .cells c 5 f
theorem notY_cells {c : Array Value} {t : TypeId} {f : Nat × Nat} (h : t ≠ 5) : notY (.cells c t f) := fun c' f' e => by cases e; exact h rfl

/-- One who writes turns: his own object, and the bytes behind it. -/
structure TW (base wb : Nat) (w w' : World) (o : Obj) (pv : Value) (L : List Int) : Prop where
  at_ : w'.heap[wb]? = some o
  own : ownY w' base pv L
  bel : Below base w w'
  grew : w.heap.size ≤ w'.heap.size
  oth : ∀ j ob, w.heap[j]? = some ob → notY ob → j ≠ wb → w'.heap[j]? = some ob
theorem TW.refl {base wb : Nat} {w : World} {o : Obj} {pv : Value} {L : List Int} (h1 : w.heap[wb]? = some o) (h2 : ownY w base pv L) : TW base wb w w o pv L :=
  ⟨h1, h2, Below.refl _ _, Nat.le_refl _, fun _ _ h _ _ => h⟩
theorem TW.trans {base wb : Nat} {w w1 w2 : World} {o o' : Obj} {pv pv' : Value} {L L' : List Int} (h : TW base wb w w1 o pv L) (k : TW base wb w1 w2 o' pv' L') : TW base wb w w2 o' pv' L' :=
  ⟨k.at_, k.own, h.bel.trans k.bel, Nat.le_trans h.grew k.grew, fun j ob hj hn hne => k.oth j ob (h.oth j ob hj hn hne) hn hne⟩
/-- New memory behind a turn. -/
theorem TW.later {base wb : Nat} {w w1 w2 : World} {o : Obj} {pv : Value} {L : List Int} (h : TW base wb w w1 o pv L) (hb : Below w1.heap.size w1 w2) (hbase : base ≤ w1.heap.size) : TW base wb w w2 o pv L :=
  ⟨(hb.block wb (heap_lt h.at_)).trans h.at_, ownG_later h.own hb, h.bel.trans (hb.mono hbase), Nat.le_trans h.grew hb.size, fun j ob hj hn hne => by
    have := h.oth j ob hj hn hne
    exact (hb.block j (heap_lt this)).trans this⟩

/-- The bytes grow. -/
theorem TW.append {base wb : Nat} {w w1 w2 : World} {o : Obj} {pv v2 : Value} {L q : List Int} {n : Nat} (h : TW base wb w w1 o pv L) (ho : notY o) (hb : base ≤ w1.heap.size) (hown : ownG w2 base 5 1 v2 n (L.map (Value.int .u8) ++ q.map (Value.int .u8))) (hn : n = L.length + q.length) (hg : w1.grownBy w2 pv.ownBlock) : TW base wb w w2 o v2 (L ++ q) := by
  have hap : ∀ j ob, w1.heap[j]? = some ob → notY ob → w2.heap[j]? = some ob := fun j ob hj hnj => by
    rw [hg.block j (heap_lt hj) (fun e => ?_)]; exact hj
    obtain ⟨_, cur, f, hc⟩ := ownG_blk h.own j e.symm
    rw [hj] at hc
    exact hnj _ _ (Option.some.inj hc)
  refine ⟨hap _ _ h.at_ ho, ownY_grow hown hn, h.bel.grown hg hb (fun k hk => (ownG_blk h.own k hk).1), Nat.le_trans h.grew hg.size, fun j ob hj hnj hne => hap _ _ (h.oth j ob hj hnj hne) hnj⟩
/-- His own object is written. -/
theorem TW.put {base wb : Nat} {w w1 : World} {c : Array Value} {t : TypeId} {f : Nat × Nat} {pv : Value} {L : List Int} (h : TW base wb w w1 (.cells c t f) pv L) (ht : t ≠ 5) (hb : base ≤ wb) (i : Nat) (u : Value) : TW base wb w (w1.setCell ⟨wb, i, none⟩ u) (.cells (c.setIfInBounds i u) t f) pv L := by
  refine ⟨?_, ownG_same h.own (fun k hk => Below.heap_setCell _ _ _ _ ?_), h.bel.setCell hb _, by rw [World.size_setCell]; exact h.grew, fun j ob hj hnj hne => (Below.heap_setCell _ _ _ _ hne).trans (h.oth j ob hj hnj hne)⟩
  · simp [World.setCell, Array.getElem?_modify, h.at_]
  · intro e
    simp only at e
    subst e
    exact ownG_apart h.own h.at_ (Ne.symm ht) hk

abbrev WO (pv : Value) : Obj := .cells #[pv] 103
theorem wo_cells {w : World} {b : Nat} {pv : Value} (h : w.heap[b]? = some (WO pv)) : w.cell? ⟨b, 0, none⟩ = some pv ∧ w.frozen? ⟨b, 0, none⟩ = false := by
  simp [World.cell?, World.frozen?, h]

/-- Numbers as they are written. -/
def numsW (l : List Int) : List Int := l.flatMap fun x => numW x.toNat
theorem numsW_snoc (l : List Int) (x : Int) : numsW (l ++ [x]) = numsW l ++ numW x.toNat := by simp [numsW]
theorem numW_len (n : Nat) (h : n < 18446744073709551616) : (numW n).length ≤ 9 := by
  unfold numW
  split
  · simp
  · have := beB_len 8 n (by omega); simp; omega
theorem numsW_len : ∀ (l : List Int), (∀ x ∈ l, x < 18446744073709551616) → (numsW l).length ≤ 9 * l.length
  | [], _ => by simp [numsW]
  | x :: r, h => by
    have ih := numsW_len r (fun y hy => h y (by simp [hy]))
    have := numW_len x.toNat (by have := h x (by simp); omega)
    simp only [numsW, List.flatMap_cons, List.length_append, List.length_cons] at *
    omega

set_option maxRecDepth 100000 in
set_option maxHeartbeats 4000000 in
theorem writer_n (base wb : Nat) (pv : Value) (L : List Int) (v : Value) (l : List Int) (w : World) (hbw : base ≤ wb) (hat : w.heap[wb]? = some (WO pv)) (hown : ownY w base pv L) (hv : RdI w v l) (hl : ∀ x ∈ l, 0 ≤ x ∧ x ≤ 9223372036854775807) (hbd : L.length + 9 * l.length ≤ 140737488355328)
   (hvn : ∀ k, v.ownBlock = some k → k ≠ wb ∧ ∃ ob, w.heap[k]? = some ob ∧ notY ob) :
   Calls Tryd.prog 36 #[.pointer (some ⟨wb, 0, none⟩), v] w fun e w' => e = .returned (.tuple #[]) ∧ ∃ pv', TW base wb w w' (WO pv') pv' (L ++ numsW l) := by
  obtain ⟨i0, hi, hz0, hz1, hz2⟩ := infoY_parts infoY
  have HI : Hid _ := And.intro hi (And.intro hz0 (And.intro hz1 hz2))
  clear hi hz0 hz1 hz2
  have T0 := Lib.hid (TW.refl hat hown)
  rcases hv.split with ⟨a, c, rfl, rfl⟩ | ⟨b, off, c, rfl, hp, hlc, hc9, hb, hcell⟩
  · clear hv hown hat hvn hl
    go_enter Tryd.func36, Tryd.ntmps36
    go_wp2_with fail
    refine wp_loop_rounds 1 ?_
    rw [rounds_succ]
    go_wp2_with fail
    go_end0
    exact ⟨rfl, pv, by simpa [numsW] using T0.out⟩
  · obtain ⟨hbne, ob, hbo, hbn⟩ := hvn b rfl
    have HC := Lib.hid hcell
    have HL := Lib.hid hl
    have HBO := Lib.hid hbo
    have hwb := heap_lt hat
    clear hv hown hat hvn hcell hl hbo
    go_enter Tryd.func36, Tryd.ntmps36
    go_wp2_with fail
    go_loopw [8] (fun i wr => ∃ (j : Nat) (pv' : Value), j ≤ l.length ∧ i = .int .i64 j ∧ TW base wb w wr (WO pv') pv' (L ++ numsW (l.take j))) (fun i _ => l.length - (intOf i).toNat)
    case atStart => exact ⟨0, pv, by omega, rfl, by simpa [numsW] using T0.out⟩
    case round =>
      obtain ⟨j, pv', hj, rfl, ht⟩ := hrel
      have HT := Lib.hid ht
      have hbr := ht.oth b ob HBO.out hbn hbne
      have hcb : ∀ o, wr.cell? ⟨b, o, none⟩ = w.cell? ⟨b, o, none⟩ := fun o => World.cell?_of_block (hbr.trans HBO.out.symm)
      obtain ⟨k0, z0⟩ := wo_cells ht.at_
      by_cases hlt : j < l.length
      · have d0 := HC.out j hlt
        rw [← hcb] at d0
        have hx := HL.out _ (List.getElem_mem hlt)
        clear hcb hbr ht
        obtain ⟨x, hxe⟩ : ∃ x : Nat, l[j] = x := ⟨l[j].toNat, by omega⟩
        rw [hxe] at d0 hx
        have HX := Lib.hid hxe
        clear hxe
        have hwx : IntKind.u64.wrap (x : Int) = x := by rw [IntKind.wrap_u64]; omega
        have HNU := Lib.hid (fun W => number_ref x W (by omega))
        have hln := numW_len x (by omega)
        have hlL : (L ++ numsW (l.take j)).length + 9 ≤ 140737488355328 := by
          have h1 := numsW_len (l.take j) (fun y hy => by have := HL.out y (List.mem_of_mem_take hy); omega)
          rw [List.length_take] at h1
          rw [List.length_append]; omega
        obtain ⟨M, hM⟩ : ∃ M, L ++ numsW (l.take j) = M := ⟨_, rfl⟩
        have HM : Hid (L ++ numsW (l.take (j + 1)) = M ++ numW x) := by
          show _ = _
          rw [List.take_succ_eq_append_getElem hlt, numsW_snoc, ← List.append_assoc, hM, HX.out]; rfl
        rw [hM] at hlL HT
        clear hM
        have hbr2 : base ≤ wr.heap.size := by have := HT.out.grew; omega
        obtain ⟨pa, pc, rfl⟩ := (HT.out.own.rd).shape
        have b1 : M.length + (numW x).length ≤ maxLen := by unfold maxLen; omega
        have b2 : (M.length + (numW x).length) * 1 ≤ 140737488355328 := by omega
        have mixed : Tryd.prog.follows Departure.mixedOrders = true := by kernel_rfl
        go_wp2_with fail
        go_region_law (first
          | (go_simp; go_at_call 46; refine (HNU.out _).mono ?_; rintro e w3 ⟨v3, rfl, hown3, hb3⟩; have HT3 := Lib.hid (HT.out.later ((Below.refl _ _).drew.trans hb3) hbr2); have HR3 := Lib.hid hown3.rd; have BB := Lib.hid (Nat.le_trans hbr2 hb3.size); have k3 := (wo_cells HT3.out.at_).1)
          | (refine step_append_ownG_rd rfl _ _ 24 rfl base 5 i0 (.int .u8 0) 1 1 Tryd.underlying24 HI.out.1 HI.out.2.1 HI.out.2.2.1 HI.out.2.2.2 rfl (by decide) _ M.length (M.map (Value.int .u8)) rfl HT3.out.own _ (numW x).length ((numW x).map (Value.int .u8)) rfl HR3.out (ints_oneCell .u8 _) b1 b2 BB.out ?_; intro v2 w2 hown2 hgrow2; have HT4 := Lib.hid (HT3.out.append (notY_cells (by decide)) BB.out hown2 rfl hgrow2); have k4 := (wo_cells HT4.out.at_).1; have z4 := (wo_cells HT4.out.at_).2; obtain ⟨va, vc, rfl⟩ := (ownG_rd hown2).shape))
        all_goals go_wp2_with fail
        all_goals exact ⟨⟨j + 1, _, by omega, by go_num, by rw [HM.out]; exact HT4.out.put (by decide) hbw 0 _⟩, by simp [intOf]; omega⟩
      · obtain rfl : j = l.length := by omega
        clear hcb hbr ht
        go_wp2_with fail
        go_end0
        exact ⟨rfl, pv', by have := HT.out; rwa [List.take_length] at this⟩
/-- Of numbers that are laid for the call. -/
theorem writer_lit (base wb : Nat) (W : World) (pv : Value) (L : List Int) (hat : W.heap[wb]? = some (WO pv)) (hown : ownY W base pv L) (hbw : base ≤ wb) (hbw2 : base ≤ W.heap.size) (xs : List Int) (hl : ∀ x ∈ xs, 0 ≤ x ∧ x ≤ 9223372036854775807) (h1 : xs.length ≤ 1000) (hbd : L.length + 9 * xs.length ≤ 140737488355328) :
   Calls Tryd.prog 36 #[.pointer (some ⟨wb, 0, none⟩), .slice (some ⟨W.heap.size, 0, none⟩) xs.length xs.length] (W.alloc (.cells (xs.map (Value.int .i64)).toArray 3)) fun e w' => e = .returned (.tuple #[]) ∧ ∃ pv', TW base wb W w' (WO pv') pv' (L ++ numsW xs) := by
  have h := TW.refl hat hown
  have hb : Below W.heap.size W (W.alloc (.cells (xs.map (Value.int .i64)).toArray 3)) := (Below.refl _ _).alloc (Nat.le_refl _) _
  have h2 := h.later hb hbw2
  have hlt := heap_lt h.at_
  have hnew := heap_new W (.cells (xs.map (Value.int .i64)).toArray 3) rfl
  refine (writer_n base wb pv L _ xs _ hbw h2.at_ h2.own (Rd.mk (by simp) (Nat.le_refl _) (by unfold maxLen; omega) (fun j hj => ?_)) hl hbd (fun k hk => ?_)).mono ?_
  · simp only [World.cell?, hnew]
    simp
  · simp [Value.ownBlock] at hk
    subst hk
    exact ⟨by omega, _, hnew, notY_cells (by decide)⟩
  · rintro e w' ⟨rfl, pv', ht⟩
    exact ⟨rfl, pv', h2.trans ht⟩

end Go.Proofs.YtnanlkoldloolaaDoor

/- Locs: the document's bytes of nothing. -/
namespace Go.Proofs.YtnanlkoldloolaaDoor
open Go.RowKit

set_option maxRecDepth 100000 in
set_option maxHeartbeats 4000000 in
theorem encode_empty (w : World) :
   Calls Tryd.prog 25 #[.agg #[.slice none 0 0, .slice none 0 0, .slice none 0 0]] w fun e w' => (∃ v, e = .returned v ∧ ownY w' w.heap.size v [84, 83, 76, 49, 0, 0, 0]) ∧ Below w.heap.size w w' := by
  have kc := Lib.run_convert_bytes_const (P := Tryd.prog) (w.alloc (.cells #[.slice none 0 0, .slice none 0 0, .slice none 0 0] 64)) 24 5 #[.int .u8 84, .int .u8 83, .int .u8 76, .int .u8 49] 4 4 Tryd.underlying24 Tryd.underlying5
  rw [World.size_alloc] at kc
  obtain ⟨W, hW⟩ : ∃ W, W = (((w.alloc (.cells #[.slice none 0 0, .slice none 0 0, .slice none 0 0] 64)).alloc (.cells #[.int .u8 84, .int .u8 83, .int .u8 76, .int .u8 49] 5 (4, 5))).alloc (WO (.slice (some ⟨w.heap.size + 1, 0, none⟩) 4 4))) := ⟨_, rfl⟩
  have HW0 := Lib.hid hW
  have T0 : Hid (TW w.heap.size (w.heap.size + 1 + 1) w W (WO (.slice (some ⟨w.heap.size + 1, 0, none⟩) 4 4)) (.slice (some ⟨w.heap.size + 1, 0, none⟩) 4 4) [84, 83, 76, 49]) := by
    rw [hW]
    refine ⟨heap_new _ _ (by simp), ownG_later (ownY_const (w.alloc (.cells #[.slice none 0 0, .slice none 0 0, .slice none 0 0] 64)) w.heap.size [84, 83, 76, 49] (4, 5) (by simp) (by simp) (by simp)) ((Below.refl _ _).alloc (Nat.le_refl _) _), (((Below.refl _ _).alloc (Nat.le_refl _) _).alloc (by simp) _).alloc (by simp; omega) _, by simp; omega, fun j ob hj _ _ => heap_old _ _ (heap_old _ _ (heap_old _ _ hj))⟩
  have hd0 : W.heap[w.heap.size]? = some (.cells #[.slice none 0 0, .slice none 0 0, .slice none 0 0] 64) := by rw [hW]; exact heap_old _ _ (heap_old _ _ (heap_new _ _ rfl))
  have hsz : W.heap.size = w.heap.size + 1 + 1 + 1 := by rw [hW]; simp
  have C1 := Lib.hid (writer_lit _ _ W _ _ T0.out.at_ T0.out.own (by omega) (by omega) [0] (by simp) (by simp) (by simp))
  rw [hsz, hW] at C1
  clear hW
  go_enter Tryd.func25, Tryd.ntmps25
  go_wp2_with fail
  refine C1.out.mono ?_
  rintro e w1 ⟨rfl, pv1, ht1⟩
  rw [← HW0.out] at ht1
  have T1 := Lib.hid (T0.out.trans ht1)
  have e1 : w1.cell? ⟨w.heap.size, 0, none⟩ = some (.slice none 0 0) ∧ w1.cell? ⟨w.heap.size, 1, none⟩ = some (.slice none 0 0) ∧ w1.cell? ⟨w.heap.size, 2, none⟩ = some (.slice none 0 0) := by
    have h := ht1.oth _ _ hd0 (notY_cells (by decide)) (by omega)
    simp [World.cell?, h]
  obtain ⟨e10, e11, e12⟩ := e1
  have h1 := ht1.oth _ _ hd0 (notY_cells (by decide)) (by omega)
  have hs1 := T1.out.grew
  have C2 := Lib.hid (writer_lit _ _ w1 _ _ T1.out.at_ T1.out.own (by omega) (by omega) [0] (by simp) (by simp) (by simp [numsW, numW]))
  have hl1 := heap_lt h1
  clear C1 ht1 kc HW0
  go_wp2_with fail
  refine wp_loop_rounds 1 ?_
  rw [rounds_succ]
  go_wp2_with fail
  refine C2.out.mono ?_
  rintro e w2 ⟨rfl, pv2, ht2⟩
  have T2 := Lib.hid ht2
  have T2 := Lib.hid (T1.out.trans ht2)
  have h2 := ht2.oth _ _ h1 (notY_cells (by decide)) (by omega)
  have e2 : w2.cell? ⟨w.heap.size, 2, none⟩ = some (.slice none 0 0) := by simp [World.cell?, h2]
  have e21 : w2.cell? ⟨w.heap.size, 1, none⟩ = some (.slice none 0 0) := by simp [World.cell?, h2]
  have hs2 := T2.out.grew
  have hl2 := heap_lt h2
  have C3 := Lib.hid (writer_lit _ _ w2 _ _ T2.out.at_ T2.out.own (by omega) (by omega) [0] (by simp) (by simp) (by simp [numsW, numW]))
  clear C2 ht2 e10 e11 e12 h1
  go_wp2_with fail
  refine wp_loop_rounds 1 ?_
  rw [rounds_succ]
  go_wp2_with fail
  refine C3.out.mono ?_
  rintro e w3 ⟨rfl, pv3, ht3⟩
  have T3 := Lib.hid (T2.out.trans ht3)
  have h3 := ht3.oth _ _ h2 (notY_cells (by decide)) (by omega)
  have e3 : w3.cell? ⟨w.heap.size, 2, none⟩ = some (.slice none 0 0) := by simp [World.cell?, h3]
  have k3 := (wo_cells T3.out.at_).1
  clear C3 ht3 e2 e21
  go_wp2_with fail
  refine wp_loop_rounds 1 ?_
  rw [rounds_succ]
  go_wp2_with fail
  go_ret
  exact ⟨⟨_, rfl, by simpa [numsW, numW] using T3.out.own⟩, T3.out.bel⟩
end Go.Proofs.YtnanlkoldloolaaDoor
